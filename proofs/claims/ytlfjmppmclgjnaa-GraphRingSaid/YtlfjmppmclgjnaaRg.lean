/- The reference's 'Reach', walked. -/
import Derived.Test.YtlfjmppmclgjnaaRf
import Derived.Test.YtlfjmppmclgjnaaGRe
namespace Go.Proofs.Ytlfjmppmclgjnaa
open Go.RowKit

theorem wrong_right (g : List (List Int)) (S : List Int) : wrongB g S = (!rightB g || S.any (badB g.length)) := by
  unfold wrongB rightB
  rw [Bool.not_and, List.not_all_eq_any_not]
  have h1 : (!decide (g.length ≤ 1000)) = decide (1000 < g.length) := by
    rw [← decide_not]
    congr 1
    rw [Nat.not_le]
  have h2 : (fun l : List Int => !l.all fun x => !badB g.length x) = fun l => l.any (badB g.length) := by
    funext l
    rw [List.not_all_eq_any_not]
    simp
  rw [h1, h2]
  rw [Bool.or_assoc, Bool.or_assoc, Bool.or_comm (S.any _)]

theorem RS.keep {w wr w' : World} {b n : Nat} {f : Nat → Bool} {T : Nat → Prop} (h : RS w wr b n f) (hu : Upd T wr w') (hb : ¬ T b) (hT : ∀ q, T q → w.heap.size ≤ q ∨ wr.heap.size ≤ q) : RS w w' b n f :=
  ⟨h.1, hu.blk h.2.1 hb, h.2.2.extend hu fun q hq => .inr (by rcases hT q hq with h1 | h1; exact h1; exact Nat.le_trans h.2.2.size h1)⟩

/-- The first of what some lead to. -/
noncomputable def reachTo (g : List (List Int)) (S : List Int) (k : Nat) : List Int := ((List.range k).filter (ledB g S)).map Int.ofNat

theorem reachTo_succ (g : List (List Int)) (S : List Int) (k : Nat) : reachTo g S (k + 1) = if ledB g S k then reachTo g S k ++ [(k : Int)] else reachTo g S k := by
  unfold reachTo
  rw [List.range_succ, List.filter_append, List.map_append]
  cases h : ledB g S k <;> simp [h]

theorem reachTo_le (g : List (List Int)) (S : List Int) (k : Nat) : (reachTo g S k).length ≤ k := by
  unfold reachTo
  rw [List.length_map]
  exact Nat.le_trans (List.length_filter_le _ _) (by simp)

set_option maxHeartbeats 2000000 in
theorem rReach_any {w : World} {A : Option Addr} {n c : Nat} {g : List (List Int)} (hg : GRd w A n g) (hl : n ≤ 9223372036854775807) {A' : Option Addr} {n' c' : Nat} {S : List Int} (hx : Rd w (.slice A' n' c') 1 n' (S.map (.int .i64))) (hn' : n' = S.length) (hl' : n' ≤ 9223372036854775807) :
    Calls Try.prog 12 #[.slice A n c, .slice A' n' c'] w (ListN w (reachR g S)) := by
  have HRT := hide (right_any (c := c) hg hl)
  have HW := hide (wrong_right g S)
  have hgl := hg.1
  cases hr : rightB g
  · rw [hr] at HRT HW
    have HE : Hid (reachR g S = none) := by show _ = _; unfold reachR; rw [HW.out]; rfl
    clear hr hg hgl hx hn'
    go_enter Try.func12, Try.ntmps12
    go_wp2_with (go_at_call 21; refine HRT.out.mono ?_; rintro e w1 ⟨rfl, rfl⟩)
    go_ret2
    rw [HE.out]
    exact ⟨rfl, Upd.refl _ _⟩
  · rw [hr] at HRT HW
    have HRB := hide hr
    have HG := hide hg
    have HX := hide hx
    have HGL := hide hgl
    have HN' := hide hn'
    have hn1000 : n ≤ 1000 := by
      unfold rightB at hr
      simp only [Bool.and_eq_true, decide_eq_true_eq] at hr
      omega
    clear hr hg hgl hx hn'
    go_enter Try.func12, Try.ntmps12
    go_wp2_with (go_at_call 21; refine HRT.out.mono ?_; rintro e w1 ⟨rfl, rfl⟩)
    go_loop [6] (fun i => ∃ k : Nat, k ≤ n' ∧ i = .int .i64 k ∧ Hid (∀ j, (h : j < S.length) → j < k → badB g.length (S[j]'h) = false)) (fun i => n' - (intOf i).toNat)
    case atStart => exact ⟨0, Nat.zero_le _, rfl, fun j _ h => absurd h (by omega)⟩
    case round =>
      obtain ⟨k, hk, rfl, HP⟩ := hrel
      by_cases hlt : k < n'
      · obtain ⟨yb, yo, ysp, x, rfl, hxe, hxc⟩ := HX.out.get HN'.out hlt
        have HXE := hide hxe
        clear hxe
        cases hx0 : decide (x < 0)
        · cases hx1 : decide ((n : Int) ≤ x)
          · have HGD : Hid (badB g.length x = false) := by show _ = _; unfold badB; rw [← HGL.out, hx0, hx1]; rfl
            go_wp2_with fail
            go_round
            case rel =>
              refine ⟨k + 1, by omega, by go_num, fun j hj hjk => ?_⟩
              by_cases hjk' : j < k
              · exact HP.out j hj hjk'
              · obtain rfl : j = k := by omega
                rw [← HXE.out]; exact HGD.out
            case measure => simp [intOf]; omega
          · have HGD : Hid (badB g.length x = true) := by show _ = _; unfold badB; rw [← HGL.out, hx0, hx1]; rfl
            have HAN : Hid (S.any (badB g.length) = true) := by
              show _ = _
              rw [HXE.out] at HGD
              exact any_take _ HGD.out
            have HE : Hid (reachR g S = none) := by show _ = _; unfold reachR; rw [HW.out, HAN.out]; rfl
            go_wp2_with fail
            go_ret2
            rw [HE.out]
            exact ⟨rfl, Upd.refl _ _⟩
        · have HGD : Hid (badB g.length x = true) := by show _ = _; unfold badB; rw [hx0]; rfl
          have HAN : Hid (S.any (badB g.length) = true) := by
            show _ = _
            rw [HXE.out] at HGD
            exact any_take _ HGD.out
          have HE : Hid (reachR g S = none) := by show _ = _; unfold reachR; rw [HW.out, HAN.out]; rfl
          go_wp2_with fail
          go_ret2
          rw [HE.out]
          exact ⟨rfl, Upd.refl _ _⟩
      · have hany : S.any (badB g.length) = false := by
          rw [List.any_eq_false]
          intro x hx
          obtain ⟨j, hj, rfl⟩ := List.getElem_of_mem hx
          rw [HP.out j hj (by have := HN'.out; omega)]; simp
        have hwf := HW.out
        rw [hany] at hwf
        have HE : Hid (reachR g S = some (reachL g S)) := by show _ = _; unfold reachR; rw [hwf]; rfl
        obtain ⟨_, hS, hok⟩ := wrong_false hwf
        have HC := hide (rreach_any (c := c) (c' := c') HG.out hok hn1000 HX.out HN'.out hl' hS)
        clear hany hwf hS hok HP
        go_wp2_with (go_at_call 22; refine HC.out.mono ?_; rintro e w1 ⟨b, rfl, HR⟩)
        go_loopw [8, 9] (fun l i wr => ∃ (k m : Nat) (A1 : Option Addr) (c1 : Nat), k ≤ n ∧ m ≤ k ∧ l = .slice A1 m c1 ∧ i = .int .i64 k ∧ Hid (m = (reachTo g S k).length) ∧ Hid (wr.ownsRow w.heap.size 3 1 (.slice A1 m c1) m ((reachTo g S k).map (.int .i64))) ∧ Hid (RS w wr b n (ledB g S))) (fun _ i _ => n - (intOf i).toNat)
        case atStart => exact ⟨0, 0, none, 0, Nat.zero_le _, Nat.zero_le _, rfl, rfl, rfl, World.ownsRow_nil _ _ _ _, HR.out⟩
        case round =>
          clear HR
          obtain ⟨k, m, A1, c1, hk, hmk, rfl, rfl, HM, HO, HR⟩ := hrel
          by_cases hkn : k < n
          · have hbc := HR.out.cell hkn
            have HSC := hide (reachTo_succ g S k)
            have hszw := HR.out.2.2.size
            cases hlk : ledB g S k
            · rw [hlk] at hbc HSC
              clear hlk
              go_wp2_with fail
              go_roundw
              case rel =>
                have hs := HSC.out
                simp only [Bool.false_eq_true, if_false] at hs
                exact ⟨k + 1, m, A1, c1, by omega, by omega, rfl, by go_num, by rw [hs]; exact HM.out, by rw [hs]; exact HO.out, HR.out⟩
              case measure => simp [intOf]; omega
            · rw [hlk] at hbc HSC
              clear hlk
              go_wp2_with (at_builtin; refine wpList_app (v := .slice A1 m c1) (u := .slice (some ⟨wr.heap.size, 0, none⟩) 1 1) Try.ints rfl (.tmp 46) (.tmp 48) rfl rfl ((Upd.alloc (fun _ => False) wr (.cells #[.int .i64 (k : Int)] 3)).own HO.out (fun _ _ h => h)) rfl (Rd.new1 _ (.int .i64 (k : Int)) 3 rfl) (by simp [Value.oneCell']) (m + 1) rfl (by omega) (by omega) (by simp; omega) ?_; intro A2 c2 w5 own5 u5 at5 ne5; have HO5 := hide own5; have HU5 := hide u5; clear own5 u5 at5 ne5)
              go_roundw
              case rel =>
                have hs := HSC.out
                simp only [if_true] at hs
                refine ⟨k + 1, m + 1, A2, c2, by omega, by omega, rfl, by go_num, ?_, ?_, ?_⟩
                · have := HM.out
                  show _ = _
                  rw [hs, List.length_append]; simp; omega
                · have h := HO5.out
                  rw [hs, List.map_append]
                  exact h
                · have hal := Upd.alloc (fun _ => False) wr (.cells #[.int .i64 (k : Int)] 3)
                  have h1 := HR.out.keep hal (fun h => h) (fun q h => absurd h (fun h => h))
                  exact h1.keep HU5.out (fun h => own_ne_blk HO.out HR.out.2.1 (by decide) _ h rfl) (fun q hq => .inl (own_lo HO.out hq))
              case measure => simp [intOf]; omega
          · obtain rfl : k = n := by omega
            go_wp2_with fail
            go_ret2
            rw [HE.out]
            have e : reachTo g S k = reachL g S := by unfold reachTo reachL; rw [HGL.out]
            rw [e] at HM HO
            exact ⟨A1, m, c1, rfl, HM.out, HO.out, HR.out.2.2⟩

end Go.Proofs.Ytlfjmppmclgjnaa
