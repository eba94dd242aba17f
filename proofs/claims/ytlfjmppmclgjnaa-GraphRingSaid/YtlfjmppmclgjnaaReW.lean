/- 'GraphReaches', walked. -/
import Derived.Test.YtlfjmppmclgjnaaAwW
namespace Go.Proofs.Ytlfjmppmclgjnaa
open Go.RowKit

theorem few_edges {g : List (List Int)} {N : Nat} (h : fewB g N = true) : g.length ≤ N ∧ edges g ≤ N * 100 := by
  unfold fewB at h
  simp only [Bool.and_eq_true, decide_eq_true_eq, List.all_eq_true] at h
  refine ⟨h.1, Nat.le_trans (edges_le (c := 100) h.2) (Nat.mul_le_mul_right _ h.1)⟩

theorem ints_same {w : World} {A A' : Option Addr} {n n' c c' : Nat} {xs : List Int} (hx : Rd w (.slice A n c) 1 n (xs.map (.int .i64))) (hn : n = xs.length) (hy : Rd w (.slice A' n' c') 1 n' (xs.map (.int .i64))) (hn' : n' = xs.length) (hl : n ≤ 9223372036854775806) :
    Calls Try.prog 13 #[.slice A n c, .slice A' n' c'] w (IntsPost w true) := by
  have h := ints_any hx hn hy hn' hl
  rw [decide_eq_true rfl] at h
  exact h

set_option maxHeartbeats 2000000 in
theorem reaches_walk {w : World} {A : Option Addr} {n c : Nat} {g : List (List Int)} (hg : GRd w A n g) (hl : n ≤ 9223372036854775807) {A' : Option Addr} {n' c' : Nat} {S : List Int} (hx : Rd w (.slice A' n' c') 1 n' (S.map (.int .i64))) (hn' : n' = S.length) (hl' : n' ≤ 9223372036854775807) :
    Calls Try.prog 3 #[.slice A n c, .slice A' n' c'] w (BoolN w true) := by
  have HAW := hide (awake_any (w := w))
  have hgl := hg.1
  have HFW : Hid (∀ w1, Upd (fun _ => False) w w1 → Calls Try.prog 10 #[.slice A n c, .int .i64 200] w1 fun e w' => e = .returned (.bool (fewB g 200)) ∧ w1 = w') := fun w1 hu => few_any (N := 200) (hg.keep hu) hl
  by_cases hn2 : 1000 < n'
  · cases hf : fewB g 200
    · rw [hf] at HFW
      clear hg hx hn' hgl hf
      by_cases hn1 : n ≤ 1000
      · go_enter Try.func3, Try.ntmps3
        go_wp2_with (first | (go_at_call 9; refine HAW.out.mono ?_; rintro e w1 ⟨rfl, hu⟩; have HU1 := hide hu; clear hu) | (go_at_call 10; refine (HFW.out w1 HU1.out).mono ?_; rintro e w2 ⟨rfl, rfl⟩))
        go_ret
        exact ⟨rfl, HU1.out⟩
      · go_enter Try.func3, Try.ntmps3
        go_wp2_with (first | (go_at_call 9; refine HAW.out.mono ?_; rintro e w1 ⟨rfl, hu⟩; have HU1 := hide hu; clear hu) | (go_at_call 10; refine (HFW.out w1 HU1.out).mono ?_; rintro e w2 ⟨rfl, rfl⟩))
        go_ret
        exact ⟨rfl, HU1.out⟩
    · rw [hf] at HFW
      clear hg hx hn' hgl hf
      go_enter Try.func3, Try.ntmps3
      go_wp2_with (first | (go_at_call 9; refine HAW.out.mono ?_; rintro e w1 ⟨rfl, hu⟩; have HU1 := hide hu; clear hu) | (go_at_call 10; refine (HFW.out w1 HU1.out).mono ?_; rintro e w2 ⟨rfl, rfl⟩))
      go_ret
      exact ⟨rfl, HU1.out⟩
  · have HR1 : (fewB g 200 = true ∨ 1000 < n) → Hid (∀ w1, Upd (fun _ => False) w w1 → Calls Try.prog 11 #[.slice A n c, .slice A' n' c'] w1 (ListN w1 (reachR g S))) := fun hor w1 hu => gReach_any (hg.keep hu) hl (hx.keep hu (fun _ _ h => h)) hn' hl' fun hw => by
      have := wrong_false hw
      rcases hor with h | h
      · have := few_edges h
        omega
      · omega
    have HR2 : Hid (∀ w1, Upd (fun _ => False) w w1 → Calls Try.prog 12 #[.slice A n c, .slice A' n' c'] w1 (ListN w1 (reachR g S))) := fun w1 hu => rReach_any (hg.keep hu) hl (hx.keep hu (fun _ _ h => h)) hn' hl'
    have hlen : ∀ xs, reachR g S = some xs → xs.length ≤ 1000 := by
      intro xs h
      unfold reachR at h
      cases hw : wrongB g S
      · rw [hw] at h
        simp at h
        rw [← h]
        exact Nat.le_trans (reachL_le g S) (wrong_false hw).1
      · rw [hw] at h; simp at h
    have key : ∀ (few : Bool), fewB g 200 = few → (few = true ∨ 1000 < n) → Calls Try.prog 3 #[.slice A n c, .slice A' n' c'] w (BoolN w true) := by
      intro few hf hor
      rw [hf] at HFW HR1
      have HRX := HR1 hor
      clear HR1
      cases hrr : reachR g S with
      | none =>
        rw [hrr] at HRX HR2
        have HIN : Hid (∀ W : World, Calls Try.prog 13 #[.slice none 0 0, .slice none 0 0] W (IntsPost W true)) := fun W => by
          have h := ints_any (xs := []) (ys := []) (Rd.nil W) rfl (Rd.nil W) rfl (by omega)
          rw [decide_eq_true rfl] at h
          exact h
        clear hg hx hn' hgl hrr hlen hf
        cases few
        · have hn1 : 1000 < n := hor.resolve_left (by simp)
          clear hor
          go_enter Try.func3, Try.ntmps3
          go_wp2_with (first | (go_at_call 9; refine HAW.out.mono ?_; rintro e w1 ⟨rfl, hu⟩; have HU1 := hide hu; clear hu) | (go_at_call 10; refine (HFW.out w1 HU1.out).mono ?_; rintro e w2 ⟨rfl, rfl⟩) | (go_at_call 11; refine (HRX.out w1 HU1.out).mono ?_; rintro e w2 ⟨rfl, hu⟩; have HU2 := hide (HU1.out.trans hu); clear hu) | (go_at_call 12; refine (HR2.out w2 HU2.out).mono ?_; rintro e w3 ⟨rfl, hu⟩; have HU3 := hide (HU2.out.trans hu); clear hu) | (go_at_call 13; refine (HIN.out w3).mono ?_; rintro e w4 ⟨rfl, q, rfl⟩; have HU4 := hide (HU3.out.trans (Upd.drewN _ w3 q))))
          go_ret
          exact ⟨rfl, HU4.out⟩
        · clear hor
          go_enter Try.func3, Try.ntmps3
          go_wp2_with (first | (go_at_call 9; refine HAW.out.mono ?_; rintro e w1 ⟨rfl, hu⟩; have HU1 := hide hu; clear hu) | (go_at_call 10; refine (HFW.out w1 HU1.out).mono ?_; rintro e w2 ⟨rfl, rfl⟩) | (go_at_call 11; refine (HRX.out w1 HU1.out).mono ?_; rintro e w2 ⟨rfl, hu⟩; have HU2 := hide (HU1.out.trans hu); clear hu) | (go_at_call 12; refine (HR2.out w2 HU2.out).mono ?_; rintro e w3 ⟨rfl, hu⟩; have HU3 := hide (HU2.out.trans hu); clear hu) | (go_at_call 13; refine (HIN.out w3).mono ?_; rintro e w4 ⟨rfl, q, rfl⟩; have HU4 := hide (HU3.out.trans (Upd.drewN _ w3 q))))
          go_ret
          exact ⟨rfl, HU4.out⟩
      | some xs =>
        have hxl := hlen xs hrr
        rw [hrr] at HRX HR2
        clear hg hx hn' hgl hrr hlen hf
        cases few
        · have hn1 : 1000 < n := hor.resolve_left (by simp)
          clear hor
          go_enter Try.func3, Try.ntmps3
          go_wp2_with (first | (go_at_call 9; refine HAW.out.mono ?_; rintro e w1 ⟨rfl, hu⟩; have HU1 := hide hu; clear hu) | (go_at_call 10; refine (HFW.out w1 HU1.out).mono ?_; rintro e w2 ⟨rfl, rfl⟩) | (go_at_call 11; refine (HRX.out w1 HU1.out).mono ?_; rintro e w2 ⟨A2, n2, c2, rfl, HN2, HO2⟩; have HU2 := hide (HU1.out.trans HO2.out.2)) | (go_at_call 12; refine (HR2.out w2 HU2.out).mono ?_; rintro e w3 ⟨A3, n3, c3, rfl, HN3, HO3⟩; have HU3 := hide (HU2.out.trans HO3.out.2); have HRA := hide ((Rd.of_own HO2.out.1).keep HO3.out.2 (fun _ _ h => h)); have HRB := hide (Rd.of_own HO3.out.1)) | (go_at_call 13; refine (ints_same HRA.out HN2.out HRB.out HN3.out (by have := HN2.out; omega)).mono ?_; rintro e w4 ⟨rfl, q, rfl⟩; have HU4 := hide (HU3.out.trans (Upd.drewN _ w3 q))))
          go_ret
          exact ⟨rfl, HU4.out⟩
        · clear hor
          go_enter Try.func3, Try.ntmps3
          go_wp2_with (first | (go_at_call 9; refine HAW.out.mono ?_; rintro e w1 ⟨rfl, hu⟩; have HU1 := hide hu; clear hu) | (go_at_call 10; refine (HFW.out w1 HU1.out).mono ?_; rintro e w2 ⟨rfl, rfl⟩) | (go_at_call 11; refine (HRX.out w1 HU1.out).mono ?_; rintro e w2 ⟨A2, n2, c2, rfl, HN2, HO2⟩; have HU2 := hide (HU1.out.trans HO2.out.2)) | (go_at_call 12; refine (HR2.out w2 HU2.out).mono ?_; rintro e w3 ⟨A3, n3, c3, rfl, HN3, HO3⟩; have HU3 := hide (HU2.out.trans HO3.out.2); have HRA := hide ((Rd.of_own HO2.out.1).keep HO3.out.2 (fun _ _ h => h)); have HRB := hide (Rd.of_own HO3.out.1)) | (go_at_call 13; refine (ints_same HRA.out HN2.out HRB.out HN3.out (by have := HN2.out; omega)).mono ?_; rintro e w4 ⟨rfl, q, rfl⟩; have HU4 := hide (HU3.out.trans (Upd.drewN _ w3 q))))
          go_ret
          exact ⟨rfl, HU4.out⟩
    cases hf : fewB g 200
    · by_cases hn1 : 1000 < n
      · exact key false hf (.inr hn1)
      · rw [hf] at HFW
        clear hg hx hn' hgl hf key HR1 HR2 hlen
        have hn3 : n ≤ 1000 := by omega
        go_enter Try.func3, Try.ntmps3
        go_wp2_with (first | (go_at_call 9; refine HAW.out.mono ?_; rintro e w1 ⟨rfl, hu⟩; have HU1 := hide hu; clear hu) | (go_at_call 10; refine (HFW.out w1 HU1.out).mono ?_; rintro e w2 ⟨rfl, rfl⟩))
        go_ret
        exact ⟨rfl, HU1.out⟩
    · exact key true hf (.inl rfl)

end Go.Proofs.Ytlfjmppmclgjnaa
