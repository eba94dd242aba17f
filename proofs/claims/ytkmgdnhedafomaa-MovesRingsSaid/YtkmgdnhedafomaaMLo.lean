/- 'MovesOrder', walked. -/
import Derived.Test.YtkmgdnhedafomaaMA
namespace Go.Proofs.Ytkmgdnhedafomaa
open Go.RowKit

theorem runM_len (s : Int) : ∀ (f : Nat) (L : Wt), (runM s f L).length ≤ f
  | 0, L => by simp [runM]
  | f + 1, L => by
    rw [runM]
    split
    · simp
    · have := runM_len s f (stepM s L).2
      simp; omega

theorem orderR_len {src : List Int} {s : Int} {ms : List (Int × Int)} (h : orderR src s = some ms) : ms.length ≤ 2001 ∧ src.length ≤ 1000 := by
  unfold orderR at h
  cases hb : badF src s
  · rw [hb] at h
    obtain rfl : allM s (leftTo src src.length) = ms := by simpa using h
    have h1 := runM_len s (2 * (leftTo src src.length).length + 1) (leftTo src src.length)
    have h2 := leftTo_len src src.length
    have h3 := (leftTo_ok hb).2.1
    unfold allM
    omega
  · rw [hb] at h; simp at h

theorem MRd.at_ {w : World} {A : Option Addr} {n : Nat} {ms : List (Int × Int)} (h : MRd w A n ms) {k : Nat} (hk : k < n) : ∃ g x y, A = some ⟨g, 0, none⟩ ∧ ms[k]? = some (x, y) ∧ w.cell? ⟨g, k * 2, none⟩ = some (.int .i64 x) ∧ w.cell? ⟨g, k * 2 + 1, none⟩ = some (.int .i64 y) := by
  have hl : k < ms.length := by have := h.1; omega
  obtain ⟨g, h1, h2, h3⟩ := h.2 k _ (List.getElem?_eq_getElem hl)
  exact ⟨g, _, _, h1, List.getElem?_eq_getElem hl, h2, h3⟩

set_option maxHeartbeats 2000000 in
theorem morder_walk {w : World} {A : Option Addr} {n c : Nat} {src : List Int} {s : Int} (hx : Rd w (.slice A n c) 1 n (src.map (.int .i64))) (hn : n = src.length) (hl : n ≤ 9223372036854775807) (hs : I64 s) :
    Calls Try.prog 3 #[.slice A n c, .int .i64 s] w (BoolN w true) := by
  have HAW := hide (awake_any (w := w))
  by_cases h1 : 60 < n ∧ n ≤ 1000
  · obtain ⟨h1, h2⟩ := h1
    clear hx hn hs
    go_enter Try.func3, Try.ntmps3
    go_wp2_with (go_at_call 8; refine HAW.out.mono ?_; rintro e w1 ⟨rfl, hu⟩; have HU1 := hide hu; clear hu)
    go_ret
    exact ⟨rfl, HU1.out⟩
  · have HO1 : Hid (∀ w1, Upd (fun _ => False) w w1 → Calls Try.prog 9 #[.slice A n c, .int .i64 s] w1 (MovesN w1 32 (orderR src s))) := fun w1 hu => order_any (hx.keep hu (fun _ _ h => h)) hn hl hs
    have HO2 : Hid (∀ w1, Upd (fun _ => False) w w1 → Calls Try.prog 10 #[.slice A n c, .int .i64 s] w1 (MovesN w1 33 (orderR src s))) := fun w1 hu => rorder_any (hx.keep hu (fun _ _ h => h)) hn hl hs
    have h2 : n ≤ 60 ∨ 1000 < n := by omega
    cases hr : orderR src s with
    | none =>
      rw [hr] at HO1 HO2
      clear hx hn hs h1 hr
      rcases h2 with h2 | h2
      all_goals
        go_enter Try.func3, Try.ntmps3
        go_wp2_with (first | (go_at_call 8; refine HAW.out.mono ?_; rintro e w1 ⟨rfl, hu⟩; have HU1 := hide hu; clear hu) | (go_at_call 9; refine (HO1.out w1 HU1.out).mono ?_; rintro e w2 ⟨rfl, hu⟩; have HU2 := hide (HU1.out.trans hu); clear hu) | (go_at_call 10; refine (HO2.out w2 HU2.out).mono ?_; rintro e w3 ⟨rfl, hu⟩; have HU3 := hide (HU2.out.trans hu); clear hu))
        go_loopw [10] (fun iv wr => iv = .int .i64 0 ∧ wr = w3) (fun _ _ => 0)
        case atStart => exact ⟨rfl, rfl⟩
        case round =>
          obtain ⟨rfl, rfl⟩ := hrel
          go_wp2
          go_ret
          exact ⟨rfl, HU3.out⟩
    | some ms =>
      have hml := (orderR_len hr).1
      rw [hr] at HO1 HO2
      clear hx hn hs h1 hr
      rcases h2 with h2 | h2
      all_goals
        go_enter Try.func3, Try.ntmps3
        go_wp2_with (first | (go_at_call 8; refine HAW.out.mono ?_; rintro e w1 ⟨rfl, hu⟩; have HU1 := hide hu; clear hu) | (go_at_call 9; refine (HO1.out w1 HU1.out).mono ?_; rintro e w2 ⟨A2, n2, c2, rfl, HN2, HO2'⟩; have HU2 := hide (HU1.out.trans HO2'.out.2); have HR2 := hide (MRd.of_own HO2'.out.1 HN2.out)) | (go_at_call 10; refine (HO2.out w2 HU2.out).mono ?_; rintro e w3 ⟨A3, n3, c3, rfl, HN3, HO3⟩; have HU3 := hide (HU2.out.trans HO3.out.2); have HR3 := hide (MRd.of_own HO3.out.1 HN3.out); have HR2' := hide (HR2.out.keep HO3.out.2); obtain rfl : n2 = ms.length := HN2.out; obtain rfl : n3 = ms.length := HN3.out))
        go_loopw [10] (fun iv wr => ∃ k : Nat, k ≤ ms.length ∧ iv = .int .i64 k ∧ Hid (Upd (fun _ => False) w wr ∧ MRd wr A2 ms.length ms ∧ MRd wr A3 ms.length ms)) (fun iv _ => ms.length - (intOf iv).toNat)
        case atStart => exact ⟨0, Nat.zero_le _, rfl, HU3.out, HR2'.out, HR3.out⟩
        case round =>
          obtain ⟨k, hk, rfl, HW⟩ := hrel
          by_cases hlt : k < ms.length
          · obtain ⟨g, x, y, rfl, hm, hc1, hc2⟩ := HW.out.2.1.at_ hlt
            obtain ⟨g', x', y', rfl, hm', hc3, hc4⟩ := HW.out.2.2.at_ hlt
            rw [hm] at hm'
            injection hm' with hm'
            injection hm' with e1 e2
            subst e1 e2
            clear hm
            go_wp2_with fail
            go_quiet (fail)
            go_wp2_with fail
            go_roundw
            case rel => exact ⟨k + 1, by omega, by go_num, HW.out.1.trans (Upd.drewN _ _ _), HW.out.2.1.keep (Upd.drewN _ _ _), HW.out.2.2.keep (Upd.drewN _ _ _)⟩
            case measure => simp [intOf]; omega
          · go_wp2
            go_ret
            exact ⟨rfl, HW.out.1⟩

end Go.Proofs.Ytkmgdnhedafomaa
