/- 'GraphGrows', walked. -/
import Derived.Test.YtlfjmppmclgjnaaGrp
namespace Go.Proofs.Ytlfjmppmclgjnaa
open Go.RowKit

/-- The lists that 'GraphGrows' asks about, at any later world. -/
theorem grows_reach {w : World} {A : Option Addr} {n c : Nat} {g : List (List Int)} (hg : GRd w A n g) (hl : n ≤ 9223372036854775807) (hf : fewB g 60 = true) (S : List Int) {r : Option (List Int)} (hr : reachR g S = r) :
    ∀ (w1 : World) (A1 : Option Addr) (n1 c1 : Nat), Upd (fun _ => False) w w1 → Rd w1 (.slice A1 n1 c1) 1 n1 (S.map (.int .i64)) → n1 = S.length → n1 ≤ 200 → Calls Try.prog 11 #[.slice A n c, .slice A1 n1 c1] w1 (ListN w1 r) := by
  intro w1 A1 n1 c1 hu hx hn1 hl1
  rw [← hr]
  refine gReach_any (hg.keep hu) hl hx hn1 (by omega) fun _ => ?_
  have := few_edges hf
  omega

theorem grows_holds {w : World} {A A' : Option Addr} {n n' c c' : Nat} {xs ys : List Int} (hx : Rd w (.slice A n c) 1 n (xs.map (.int .i64))) (hn : n = xs.length) (hy : Rd w (.slice A' n' c') 1 n' (ys.map (.int .i64))) (hn' : n' = ys.length) (hl : n ≤ 1000) (hl' : n' ≤ 1000)
    (h : (ys.all fun y => xs.any fun x => x == y) = true) : Calls Try.prog 16 #[.slice A n c, .slice A' n' c'] w (IntsPost w true) := by
  have := holds_any hx hn hy hn' (by omega) (by omega)
  rwa [h] at this

set_option maxHeartbeats 4000000 in
theorem grows_few {w : World} {A : Option Addr} {n c : Nat} {g : List (List Int)} (hg : GRd w A n g) (hl : n ≤ 9223372036854775807) {A1 : Option Addr} {n1 c1 : Nat} {S : List Int} (hx : Rd w (.slice A1 n1 c1) 1 n1 (S.map (.int .i64))) (hn1 : n1 = S.length) (hl1 : n1 ≤ 9223372036854775807)
    {A2 : Option Addr} {n2 c2 : Nat} {T : List Int} (hy : Rd w (.slice A2 n2 c2) 1 n2 (T.map (.int .i64))) (hn2 : n2 = T.length) (hl2 : n2 ≤ 9223372036854775807)  (h1 : n1 ≤ 100) (h2 : n2 ≤ 100) (hf : fewB g 60 = true) :
    Calls Try.prog 6 #[.slice A n c, .slice A1 n1 c1, .slice A2 n2 c2] w (BoolN w true) := by
  have HAW := hide (awake_any (w := w))
  have HFW : Hid (∀ w1, Upd (fun _ => False) w w1 → Calls Try.prog 10 #[.slice A n c, .int .i64 60] w1 fun e w' => e = .returned (.bool true) ∧ w1 = w') := fun w1 hu => by
    have := few_any (N := 60) (c := c) (hg.keep hu) hl
    rwa [hf] at this
  have h12 : n1 + n2 = (S ++ T).length := by simp; omega
  have HN12 := hide h12
  have HN1 := hide hn1
  have HX := hide hx
  have HY := hide hy
  have h60 := (few_edges hf).1
  cases hw : wrongB g S
  · cases hw2 : wrongB g (S ++ T)
    · have hr1 : reachR g S = some (reachL g S) := by unfold reachR; rw [hw]; rfl
      have hr2 : reachR g (S ++ T) = some (reachL g (S ++ T)) := by unfold reachR; rw [hw2]; rfl
      have hr3 : reachR g (reachL g S) = some (reachL g S) := by unfold reachR; rw [wrong_reach hw, reach_again (wrong_false hw).2.1]; rfl
      have HA1 := hide (grows_reach (c := c) hg hl hf S hr1)
      have HA2 := hide (grows_reach (c := c) hg hl hf (S ++ T) hr2)
      have HA3 := hide (grows_reach (c := c) hg hl hf (reachL g S) hr3)
      have HL1 := hide (Nat.le_trans (reachL_le g S) h60)
      have HL2 := hide (Nat.le_trans (reachL_le g (S ++ T)) h60)
      have HM := hide (reach_more g S T)
      have HS := hide (reach_holds (wrong_false hw).2.1)
      clear hg hx hy hn1 hn2 hf hl hw hw2 h12 hr1 hr2 hr3 h60
      go_enter Try.func6, Try.ntmps6
      go_wp2_with (first | (go_at_call 9; refine HAW.out.mono ?_; rintro e w1 ⟨rfl, hu⟩; have HU1 := hide hu; clear hu HAW) | (go_at_call 10; refine (HFW.out w1 HU1.out).mono ?_; rintro e w2 ⟨rfl, rfl⟩; clear HFW) | (go_at_call 11; refine (HA1.out w1 A1 n1 c1 HU1.out (HX.out.keep HU1.out (fun _ _ h => h)) HN1.out (by omega)).mono ?_; clear HA1; rintro e w3 ⟨A3, n3, c3, rfl, HN3, HO3⟩; have HU3 := hide (HU1.out.trans HO3.out.2); have HY3 := hide (HX.out.keep (HU3.out.trans (Upd.alloc (fun _ => False) w3 (.cells #[] 3))) (fun _ _ h => h)); have HX3 := hide (Rd.of_own HO3.out.1); have htok := trivial) | (at_builtin; refine wpList_app (v := .slice (some ⟨w3.heap.size, 0, none⟩) 0 0) Try.ints rfl (.tmp 37) (.tmp 38) rfl rfl (World.ownsRow_made w3 #[] 0 (Nat.le_refl _) (by decide) rfl) rfl HY3.out (ints_oneC _) n1 (by omega) (by omega) (by omega) (by simp) ?_; clear htok HY3; intro A4 c4 w4 hown hu _ _; have HO4 := hide hown; have HV4 := hide ((Upd.alloc (fun _ => False) w3 (.cells #[] 3)).extend hu fun q hq => .inr (by simp [Value.ownBlock] at hq; omega)); have HU4 := hide (HU3.out.trans HV4.out); have HY4 := hide (HY.out.keep HU4.out (fun _ _ h => h)); have hsz := HV4.out.size; clear hown hu) | (at_builtin; refine wpList_app (v := .slice A4 n1 c4) Try.ints rfl (.tmp 39) (.tmp 40) rfl rfl HO4.out rfl HY4.out (ints_oneC _) (n1 + n2) (by omega) (by omega) (by omega) hsz ?_; clear HY4 hsz; intro A5 c5 w5 hown hu _ _; have HO5 := hide hown; have HV5 := hide (HV4.out.extend hu fun q hq => .inr (own_lo HO4.out hq)); have HU5 := hide (HU3.out.trans HV5.out); have HR5 : Hid (Rd w5 (.slice A5 (n1 + n2) c5) 1 (n1 + n2) ((S ++ T).map (.int .i64))) := (by have h := Rd.of_own HO5.out; rw [List.nil_append, ← List.map_append] at h; exact h); clear hown hu HO4 HO5) | (go_at_call 11; refine (HA2.out w5 A5 (n1 + n2) c5 HU5.out HR5.out HN12.out (by omega)).mono ?_; clear HA2; rintro e w6 ⟨A6, n6, c6, rfl, HN6, HO6⟩; have HU6 := hide (HU5.out.trans HO6.out.2); have HX6 := hide (HX3.out.keep (HV5.out.trans HO6.out.2) (fun _ _ h => h)); have HQ6 := hide (Rd.of_own HO6.out.1); clear HX3 HR5) | (go_at_call 11; refine (HA3.out w6 A3 n3 c3 HU6.out HX6.out HN3.out (by have h1 := HN3.out; have h2 := HL1.out; omega)).mono ?_; clear HA3; rintro e w7 ⟨A7, n7, c7, rfl, HN7, HO7⟩; have HU7 := hide (HU6.out.trans HO7.out.2); have HX7 := hide (HX6.out.keep HO7.out.2 (fun _ _ h => h)); have HQ7 := hide (HQ6.out.keep HO7.out.2 (fun _ _ h => h)); have HZ7 := hide (Rd.of_own HO7.out.1); clear HX6 HQ6) | (go_at_call 16; refine (grows_holds HQ7.out HN6.out HX7.out HN3.out (by have h1 := HN6.out; have h2 := HL2.out; omega) (by have h1 := HN3.out; have h2 := HL1.out; omega) HM.out).mono ?_; clear HQ7; rintro e w8 ⟨rfl, q, rfl⟩; have HU8 := hide (HU7.out.trans (Upd.drewN _ w7 q)); have HX8 := hide (HX7.out.keep (Upd.drewN (fun _ => False) w7 q) (fun _ _ h => h)); have HZ8 := hide (HZ7.out.keep (Upd.drewN (fun _ => False) w7 q) (fun _ _ h => h)); clear HZ7) | (go_at_call 13; refine (ints_same HZ8.out HN7.out HX8.out HN3.out (by have h1 := HN7.out; have h2 := HL1.out; omega)).mono ?_; clear HZ8; rintro e w9 ⟨rfl, q2, rfl⟩; have HU9 := hide (HU7.out.trans (Upd.drewN _ w7 (q + q2))); have HX9 := hide (HX7.out.keep (Upd.drewN (fun _ => False) w7 (q + q2)) (fun _ _ h => h)); have HA9 := hide (HX.out.keep HU9.out (fun _ _ h => h)); clear HX8) | (go_at_call 16; refine (grows_holds HX9.out HN3.out HA9.out HN1.out (by have h1 := HN3.out; have h2 := HL1.out; omega) (by omega) HS.out).mono ?_; clear HX9; rintro e w10 ⟨rfl, q3, rfl⟩; have HU10 := hide (HU7.out.trans (Upd.drewN _ w7 (q + q2 + q3)))))
      go_ret
      exact ⟨rfl, HU10.out⟩
    · have hr1 : reachR g S = some (reachL g S) := by unfold reachR; rw [hw]; rfl
      have hr2 : reachR g (S ++ T) = none := by unfold reachR; rw [hw2]; rfl
      have HA1 := hide (grows_reach (c := c) hg hl hf S hr1)
      have HA2 := hide (grows_reach (c := c) hg hl hf (S ++ T) hr2)
      clear hg hx hy hn1 hn2 hf hl hw hw2 h12 hr1 hr2 h60
      go_enter Try.func6, Try.ntmps6
      go_wp2_with (first | (go_at_call 9; refine HAW.out.mono ?_; rintro e w1 ⟨rfl, hu⟩; have HU1 := hide hu; clear hu HAW) | (go_at_call 10; refine (HFW.out w1 HU1.out).mono ?_; rintro e w2 ⟨rfl, rfl⟩; clear HFW) | (go_at_call 11; refine (HA1.out w1 A1 n1 c1 HU1.out (HX.out.keep HU1.out (fun _ _ h => h)) HN1.out (by omega)).mono ?_; clear HA1; rintro e w3 ⟨A3, n3, c3, rfl, HN3, HO3⟩; have HU3 := hide (HU1.out.trans HO3.out.2); have HY3 := hide (HX.out.keep (HU3.out.trans (Upd.alloc (fun _ => False) w3 (.cells #[] 3))) (fun _ _ h => h)); have HX3 := hide (Rd.of_own HO3.out.1); have htok := trivial) | (at_builtin; refine wpList_app (v := .slice (some ⟨w3.heap.size, 0, none⟩) 0 0) Try.ints rfl (.tmp 37) (.tmp 38) rfl rfl (World.ownsRow_made w3 #[] 0 (Nat.le_refl _) (by decide) rfl) rfl HY3.out (ints_oneC _) n1 (by omega) (by omega) (by omega) (by simp) ?_; clear htok HY3; intro A4 c4 w4 hown hu _ _; have HO4 := hide hown; have HV4 := hide ((Upd.alloc (fun _ => False) w3 (.cells #[] 3)).extend hu fun q hq => .inr (by simp [Value.ownBlock] at hq; omega)); have HU4 := hide (HU3.out.trans HV4.out); have HY4 := hide (HY.out.keep HU4.out (fun _ _ h => h)); have hsz := HV4.out.size; clear hown hu) | (at_builtin; refine wpList_app (v := .slice A4 n1 c4) Try.ints rfl (.tmp 39) (.tmp 40) rfl rfl HO4.out rfl HY4.out (ints_oneC _) (n1 + n2) (by omega) (by omega) (by omega) hsz ?_; clear HY4 hsz; intro A5 c5 w5 hown hu _ _; have HO5 := hide hown; have HV5 := hide (HV4.out.extend hu fun q hq => .inr (own_lo HO4.out hq)); have HU5 := hide (HU3.out.trans HV5.out); have HR5 : Hid (Rd w5 (.slice A5 (n1 + n2) c5) 1 (n1 + n2) ((S ++ T).map (.int .i64))) := (by have h := Rd.of_own HO5.out; rw [List.nil_append, ← List.map_append] at h; exact h); clear hown hu HO4 HO5) | (go_at_call 11; refine (HA2.out w5 A5 (n1 + n2) c5 HU5.out HR5.out HN12.out (by omega)).mono ?_; clear HA2; rintro e w6 ⟨rfl, hu⟩; have HU6 := hide (HU5.out.trans hu); clear hu))
      go_ret
      exact ⟨rfl, HU6.out⟩
  · have hr1 : reachR g S = none := by unfold reachR; rw [hw]; rfl
    have hr2 : reachR g (S ++ T) = none := by unfold reachR; rw [wrong_more hw]; rfl
    have HA1 := hide (grows_reach (c := c) hg hl hf S hr1)
    have HA2 := hide (grows_reach (c := c) hg hl hf (S ++ T) hr2)
    clear hg hx hy hn1 hn2 hf hl hw h12 hr1 hr2 h60
    go_enter Try.func6, Try.ntmps6
    go_wp2_with (first | (go_at_call 9; refine HAW.out.mono ?_; rintro e w1 ⟨rfl, hu⟩; have HU1 := hide hu; clear hu HAW) | (go_at_call 10; refine (HFW.out w1 HU1.out).mono ?_; rintro e w2 ⟨rfl, rfl⟩; clear HFW) | (go_at_call 11; refine (HA1.out w1 A1 n1 c1 HU1.out (HX.out.keep HU1.out (fun _ _ h => h)) HN1.out (by omega)).mono ?_; clear HA1; rintro e w3 ⟨rfl, hu⟩; have HU3 := hide (HU1.out.trans hu); clear hu; have HY3 := hide (HX.out.keep (HU3.out.trans (Upd.alloc (fun _ => False) w3 (.cells #[] 3))) (fun _ _ h => h)); have htok := trivial) | (at_builtin; refine wpList_app (v := .slice (some ⟨w3.heap.size, 0, none⟩) 0 0) Try.ints rfl (.tmp 37) (.tmp 38) rfl rfl (World.ownsRow_made w3 #[] 0 (Nat.le_refl _) (by decide) rfl) rfl HY3.out (ints_oneC _) n1 (by omega) (by omega) (by omega) (by simp) ?_; clear htok HY3; intro A4 c4 w4 hown hu _ _; have HO4 := hide hown; have HV4 := hide ((Upd.alloc (fun _ => False) w3 (.cells #[] 3)).extend hu fun q hq => .inr (by simp [Value.ownBlock] at hq; omega)); have HU4 := hide (HU3.out.trans HV4.out); have HY4 := hide (HY.out.keep HU4.out (fun _ _ h => h)); have hsz := HV4.out.size; clear hown hu) | (at_builtin; refine wpList_app (v := .slice A4 n1 c4) Try.ints rfl (.tmp 39) (.tmp 40) rfl rfl HO4.out rfl HY4.out (ints_oneC _) (n1 + n2) (by omega) (by omega) (by omega) hsz ?_; clear HY4 hsz; intro A5 c5 w5 hown hu _ _; have HO5 := hide hown; have HV5 := hide (HV4.out.extend hu fun q hq => .inr (own_lo HO4.out hq)); have HU5 := hide (HU3.out.trans HV5.out); have HR5 : Hid (Rd w5 (.slice A5 (n1 + n2) c5) 1 (n1 + n2) ((S ++ T).map (.int .i64))) := (by have h := Rd.of_own HO5.out; rw [List.nil_append, ← List.map_append] at h; exact h); clear hown hu HO4 HO5) | (go_at_call 11; refine (HA2.out w5 A5 (n1 + n2) c5 HU5.out HR5.out HN12.out (by omega)).mono ?_; clear HA2; rintro e w6 ⟨rfl, hu⟩; have HU6 := hide (HU5.out.trans hu); clear hu))
    go_ret
    exact ⟨rfl, HU6.out⟩

set_option maxHeartbeats 2000000 in
theorem grows_walk {w : World} {A : Option Addr} {n c : Nat} {g : List (List Int)} (hg : GRd w A n g) (hl : n ≤ 9223372036854775807) {A1 : Option Addr} {n1 c1 : Nat} {S : List Int} (hx : Rd w (.slice A1 n1 c1) 1 n1 (S.map (.int .i64))) (hn1 : n1 = S.length) (hl1 : n1 ≤ 9223372036854775807)
    {A2 : Option Addr} {n2 c2 : Nat} {T : List Int} (hy : Rd w (.slice A2 n2 c2) 1 n2 (T.map (.int .i64))) (hn2 : n2 = T.length) (hl2 : n2 ≤ 9223372036854775807) :
    Calls Try.prog 6 #[.slice A n c, .slice A1 n1 c1, .slice A2 n2 c2] w (BoolN w true) := by
  have HAW := hide (awake_any (w := w))
  have hgl := hg.1
  have HFW : Hid (∀ w1, Upd (fun _ => False) w w1 → Calls Try.prog 10 #[.slice A n c, .int .i64 60] w1 fun e w' => e = .returned (.bool (fewB g 60)) ∧ w1 = w') := fun w1 hu => few_any (N := 60) (hg.keep hu) hl
  cases hf : fewB g 60
  · rw [hf] at HFW
    clear hg hx hy hn1 hn2 hgl hf
    go_enter Try.func6, Try.ntmps6
    go_wp2_with (first | (go_at_call 9; refine HAW.out.mono ?_; rintro e w1 ⟨rfl, hu⟩; have HU1 := hide hu; clear hu) | (go_at_call 10; refine (HFW.out w1 HU1.out).mono ?_; rintro e w2 ⟨rfl, rfl⟩))
    go_ret
    exact ⟨rfl, HU1.out⟩
  · rw [hf] at HFW
    by_cases h1 : 100 < n1
    · clear hg hx hy hn1 hn2 hgl hf
      go_enter Try.func6, Try.ntmps6
      go_wp2_with (first | (go_at_call 9; refine HAW.out.mono ?_; rintro e w1 ⟨rfl, hu⟩; have HU1 := hide hu; clear hu) | (go_at_call 10; refine (HFW.out w1 HU1.out).mono ?_; rintro e w2 ⟨rfl, rfl⟩))
      go_ret
      exact ⟨rfl, HU1.out⟩
    · by_cases h2 : 100 < n2
      · clear hg hx hy hn1 hn2 hgl hf
        go_enter Try.func6, Try.ntmps6
        go_wp2_with (first | (go_at_call 9; refine HAW.out.mono ?_; rintro e w1 ⟨rfl, hu⟩; have HU1 := hide hu; clear hu) | (go_at_call 10; refine (HFW.out w1 HU1.out).mono ?_; rintro e w2 ⟨rfl, rfl⟩))
        go_ret
        exact ⟨rfl, HU1.out⟩
      · exact grows_few hg hl hx hn1 hl1 hy hn2 hl2 (by omega) (by omega) hf

end Go.Proofs.Ytlfjmppmclgjnaa
