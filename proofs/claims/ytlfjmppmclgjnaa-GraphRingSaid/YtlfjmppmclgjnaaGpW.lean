/- 'GraphGroups', walked. -/
import Derived.Test.YtlfjmppmclgjnaaRGw
namespace Go.Proofs.Ytlfjmppmclgjnaa
open Go.RowKit

theorem class_len (g : List (List Int)) (k : Nat) : (classL g k).length ≤ g.length := Nat.le_trans (List.length_filter_le _ _) (reachL_le g _)

theorem groupsL_len {g : List (List Int)} : ∀ (n : Nat) (done : Nat → Bool) (xs : List Int), xs ∈ groupsL g n done → xs.length ≤ g.length
  | 0, done, xs, h => by rw [groupsL.eq_1] at h; simp at h
  | n + 1, done, xs, h => by
    rw [groupsL.eq_2] at h
    by_cases h0 : cntF g.length done = 0
    · rw [if_pos h0] at h; simp at h
    · rw [if_neg h0] at h
      rcases List.mem_cons.1 h with rfl | h
      · exact class_len g _
      · exact groupsL_len n _ xs h

theorem groupsL_count {g : List (List Int)} : ∀ (n : Nat) (done : Nat → Bool), (groupsL g n done).length ≤ n
  | 0, done => by rw [groupsL.eq_1]; simp
  | n + 1, done => by
    rw [groupsL.eq_2]
    split
    · simp
    · have := groupsL_count (g := g) n (addL done (classL g (nextK g done)))
      simp; omega

theorem groupsR_count {g gs : List (List Int)} (h : groupsR g = some gs) : gs.length ≤ 1000 := by
  unfold groupsR at h
  cases hw : wrongB g []
  · rw [hw] at h
    obtain rfl : groupsAll g = gs := by simpa using h
    exact Nat.le_trans (groupsL_count _ _) (wrong_false hw).1
  · rw [hw] at h; simp at h

theorem groupsR_len {g gs : List (List Int)} (h : groupsR g = some gs) : ∀ xs ∈ gs, xs.length ≤ 1000 := by
  unfold groupsR at h
  cases hw : wrongB g []
  · rw [hw] at h
    obtain rfl : groupsAll g = gs := by simpa using h
    intro xs hx
    exact Nat.le_trans (groupsL_len _ _ xs hx) (wrong_false hw).1
  · rw [hw] at h; simp at h

/-- The rows of two equal lists of lists are told equal. -/
theorem rows_same {w : World} {A A' : Option Addr} {n n' : Nat} {gs : List (List Int)} (h : GRd w A n gs) (h' : GRd w A' n' gs) (hl : ∀ xs ∈ gs, xs.length ≤ 1000) {k : Nat} (hk : k < n) :
    ∃ gb go gs gb' go' gs' a m c a' m' c', A = some ⟨gb, go, gs⟩ ∧ w.cell? ((⟨gb, go, gs⟩ : Addr).add k) = some (.slice a m c) ∧ A' = some ⟨gb', go', gs'⟩ ∧ w.cell? ((⟨gb', go', gs'⟩ : Addr).add k) = some (.slice a' m' c') ∧
      ∀ q, Calls Try.prog 13 #[.slice a m c, .slice a' m' c'] (w.drewN q) fun e w'' => e = .returned (.bool true) ∧ ∃ m, w'' = (w.drewN q).drewN m := by
  obtain ⟨ys, gb, go, sp, a, m, c, hy, hA, hc, hr, hm, _⟩ := h.row hk
  obtain ⟨ys', gb', go', sp', a', m', c', hy', hA', hc', hr', hm', _⟩ := h'.row (k := k) (by rw [h'.1, ← h.1]; exact hk)
  obtain rfl : ys = ys' := by rw [hy] at hy'; injection hy'
  have := hl ys (List.mem_of_getElem? hy)
  exact ⟨gb, go, sp, gb', go', sp', a, m, c, a', m', c', hA, hc, hA', hc', fun q => ints_same (hr.keep (Upd.drewN (fun _ => False) w q) (fun _ _ h => h)) hm (hr'.keep (Upd.drewN (fun _ => False) w q) (fun _ _ h => h)) hm' (by omega)⟩

set_option maxHeartbeats 2000000 in
theorem groups_walk {w : World} {A : Option Addr} {n c : Nat} {g : List (List Int)} (hg : GRd w A n g) (hl : n ≤ 9223372036854775807) :
    Calls Try.prog 4 #[.slice A n c] w (BoolN w true) := by
  have HAW := hide (awake_any (w := w))
  have hgl := hg.1
  have HFW : Hid (∀ w1, Upd (fun _ => False) w w1 → Calls Try.prog 10 #[.slice A n c, .int .i64 40] w1 fun e w' => e = .returned (.bool (fewB g 40)) ∧ w1 = w') := fun w1 hu => few_any (N := 40) (hg.keep hu) hl
  have HR1 : (fewB g 40 = true ∨ 1000 < n) → Hid (∀ w1, Upd (fun _ => False) w w1 → Calls Try.prog 14 #[.slice A n c] w1 (ListsN w1 (groupsR g))) := fun hor w1 hu => groups_any (hg.keep hu) hl fun hw => by
    have := wrong_false hw
    rcases hor with h | h
    · have := few_edges h
      omega
    · omega
  have HR2 : Hid (∀ w1, Upd (fun _ => False) w w1 → Calls Try.prog 15 #[.slice A n c] w1 (ListsN w1 (groupsR g))) := fun w1 hu => rgroups_any (hg.keep hu) hl
  have key : ∀ (few : Bool), fewB g 40 = few → (few = true ∨ 1000 < n) → Calls Try.prog 4 #[.slice A n c] w (BoolN w true) := by
    intro few hf hor
    rw [hf] at HFW HR1
    have HRX := HR1 hor
    clear HR1
    have hfn : few = false → 1000 < n := fun h => hor.resolve_left (by simp [h])
    cases hrr : groupsR g with
    | none =>
      rw [hrr] at HRX HR2
      clear hg hgl hrr hf hor
      cases few
      · have hn1 : 1000 < n := hfn rfl
        clear hfn
        go_enter Try.func4, Try.ntmps4
        go_wp2_with (first | (go_at_call 9; refine HAW.out.mono ?_; rintro e w1 ⟨rfl, hu⟩; have HU1 := hide hu; clear hu) | (go_at_call 10; refine (HFW.out w1 HU1.out).mono ?_; rintro e w2 ⟨rfl, rfl⟩) | (go_at_call 14; refine (HRX.out w1 HU1.out).mono ?_; rintro e w2 ⟨rfl, hu⟩; have HU2 := hide (HU1.out.trans hu); clear hu) | (go_at_call 15; refine (HR2.out w2 HU2.out).mono ?_; rintro e w3 ⟨rfl, hu⟩; have HU3 := hide (HU2.out.trans hu); clear hu))
        go_loopw [8] (fun iv wr => iv = .int .i64 0 ∧ wr = w3) (fun _ _ => 0)
        case atStart => exact ⟨rfl, rfl⟩
        case round =>
          obtain ⟨rfl, rfl⟩ := hrel
          go_wp2
          go_ret
          exact ⟨rfl, HU3.out⟩
      · clear hfn
        go_enter Try.func4, Try.ntmps4
        go_wp2_with (first | (go_at_call 9; refine HAW.out.mono ?_; rintro e w1 ⟨rfl, hu⟩; have HU1 := hide hu; clear hu) | (go_at_call 10; refine (HFW.out w1 HU1.out).mono ?_; rintro e w2 ⟨rfl, rfl⟩) | (go_at_call 14; refine (HRX.out w1 HU1.out).mono ?_; rintro e w2 ⟨rfl, hu⟩; have HU2 := hide (HU1.out.trans hu); clear hu) | (go_at_call 15; refine (HR2.out w2 HU2.out).mono ?_; rintro e w3 ⟨rfl, hu⟩; have HU3 := hide (HU2.out.trans hu); clear hu))
        go_loopw [8] (fun iv wr => iv = .int .i64 0 ∧ wr = w3) (fun _ _ => 0)
        case atStart => exact ⟨rfl, rfl⟩
        case round =>
          obtain ⟨rfl, rfl⟩ := hrel
          go_wp2
          go_ret
          exact ⟨rfl, HU3.out⟩
    | some gs =>
      have HLS := hide (groupsR_len hrr)
      have hgsn := groupsR_count hrr
      rw [hrr] at HRX HR2
      clear hg hgl hrr hf hor
      cases few
      · have hn1 : 1000 < n := hfn rfl
        clear hfn
        go_enter Try.func4, Try.ntmps4
        go_wp2_with (first | (go_at_call 9; refine HAW.out.mono ?_; rintro e w1 ⟨rfl, hu⟩; have HU1 := hide hu; clear hu) | (go_at_call 10; refine (HFW.out w1 HU1.out).mono ?_; rintro e w2 ⟨rfl, rfl⟩) | (go_at_call 14; refine (HRX.out w1 HU1.out).mono ?_; rintro e w2 ⟨A2, n2, c2, rfl, HN2, HO2⟩; have HU2 := hide (HU1.out.trans HO2.out.2)) | (go_at_call 15; refine (HR2.out w2 HU2.out).mono ?_; rintro e w3 ⟨A3, n3, c3, rfl, HN3, HO3⟩; have HU3 := hide (HU2.out.trans HO3.out.2); obtain rfl : n2 = gs.length := HN2.out; obtain rfl : n3 = gs.length := HN3.out; have HG2 := hide (HO2.out.1.keep HO3.out.2); have HG3 := hide HO3.out.1))
        go_loopw [8] (fun iv wr => ∃ k : Nat, k ≤ gs.length ∧ iv = .int .i64 k ∧ Hid (Upd (fun _ => False) w wr ∧ GRd wr A2 gs.length gs ∧ GRd wr A3 gs.length gs)) (fun iv _ => gs.length - (intOf iv).toNat)
        case atStart => exact ⟨0, Nat.zero_le _, rfl, HU3.out, HG2.out, HG3.out⟩
        case round =>
          obtain ⟨k, hk, rfl, HW⟩ := hrel
          by_cases hlt : k < gs.length
          · obtain ⟨gb, go, sp, gb', go', sp', a, m, c5, a', m', c5', rfl, hc1, rfl, hc2, hcall⟩ := rows_same HW.out.2.1 HW.out.2.2 HLS.out hlt
            have HC := hide hcall
            clear hcall
            go_wp2_with fail
            go_quiet ((go_at_call 13; exact Calls.quiet_of (HC.out _)))
            go_wp2_with fail
            go_roundw
            case rel => exact ⟨k + 1, by omega, by go_num, HW.out.1.trans (Upd.drewN _ _ _), HW.out.2.1.keep (Upd.drewN _ _ _), HW.out.2.2.keep (Upd.drewN _ _ _)⟩
            case measure => simp [intOf]; omega
          · go_wp2
            go_ret
            exact ⟨rfl, HW.out.1⟩
      · clear hfn
        go_enter Try.func4, Try.ntmps4
        go_wp2_with (first | (go_at_call 9; refine HAW.out.mono ?_; rintro e w1 ⟨rfl, hu⟩; have HU1 := hide hu; clear hu) | (go_at_call 10; refine (HFW.out w1 HU1.out).mono ?_; rintro e w2 ⟨rfl, rfl⟩) | (go_at_call 14; refine (HRX.out w1 HU1.out).mono ?_; rintro e w2 ⟨A2, n2, c2, rfl, HN2, HO2⟩; have HU2 := hide (HU1.out.trans HO2.out.2)) | (go_at_call 15; refine (HR2.out w2 HU2.out).mono ?_; rintro e w3 ⟨A3, n3, c3, rfl, HN3, HO3⟩; have HU3 := hide (HU2.out.trans HO3.out.2); obtain rfl : n2 = gs.length := HN2.out; obtain rfl : n3 = gs.length := HN3.out; have HG2 := hide (HO2.out.1.keep HO3.out.2); have HG3 := hide HO3.out.1))
        go_loopw [8] (fun iv wr => ∃ k : Nat, k ≤ gs.length ∧ iv = .int .i64 k ∧ Hid (Upd (fun _ => False) w wr ∧ GRd wr A2 gs.length gs ∧ GRd wr A3 gs.length gs)) (fun iv _ => gs.length - (intOf iv).toNat)
        case atStart => exact ⟨0, Nat.zero_le _, rfl, HU3.out, HG2.out, HG3.out⟩
        case round =>
          obtain ⟨k, hk, rfl, HW⟩ := hrel
          by_cases hlt : k < gs.length
          · obtain ⟨gb, go, sp, gb', go', sp', a, m, c5, a', m', c5', rfl, hc1, rfl, hc2, hcall⟩ := rows_same HW.out.2.1 HW.out.2.2 HLS.out hlt
            have HC := hide hcall
            clear hcall
            go_wp2_with fail
            go_quiet ((go_at_call 13; exact Calls.quiet_of (HC.out _)))
            go_wp2_with fail
            go_roundw
            case rel => exact ⟨k + 1, by omega, by go_num, HW.out.1.trans (Upd.drewN _ _ _), HW.out.2.1.keep (Upd.drewN _ _ _), HW.out.2.2.keep (Upd.drewN _ _ _)⟩
            case measure => simp [intOf]; omega
          · go_wp2
            go_ret
            exact ⟨rfl, HW.out.1⟩
  cases hf : fewB g 40
  · by_cases hn1 : 1000 < n
    · exact key false hf (.inr hn1)
    · rw [hf] at HFW
      clear hg hgl hf key HR1 HR2
      have hn3 : n ≤ 1000 := by omega
      go_enter Try.func4, Try.ntmps4
      go_wp2_with (first | (go_at_call 9; refine HAW.out.mono ?_; rintro e w1 ⟨rfl, hu⟩; have HU1 := hide hu; clear hu) | (go_at_call 10; refine (HFW.out w1 HU1.out).mono ?_; rintro e w2 ⟨rfl, rfl⟩))
      go_ret
      exact ⟨rfl, HU1.out⟩
  · exact key true hf (.inl rfl)

end Go.Proofs.Ytlfjmppmclgjnaa
