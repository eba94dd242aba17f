/- The reference's 'right' and 'reach', walked. -/
import Derived.Test.YtlfjmppmclgjnaaVl
import Derived.Test.YtlfjmppmclgjnaaGA
namespace Go.Proofs.Ytlfjmppmclgjnaa
open Go.RowKit

def rightB (g : List (List Int)) : Bool := decide (g.length ≤ 1000) && g.all (fun l => l.all (fun x => !badB g.length x))

set_option maxHeartbeats 2000000 in
theorem right_any {w : World} {A : Option Addr} {n c : Nat} {g : List (List Int)} (hg : GRd w A n g) (hl : n ≤ 9223372036854775807) :
    Calls Try.prog 21 #[.slice A n c] w fun e w' => e = .returned (.bool (rightB g)) ∧ w = w' := by
  have hgl := hg.1
  by_cases h0 : 1000 < n
  · have HF : Hid (rightB g = false) := by show rightB g = false; unfold rightB; rw [← hgl, show decide (n ≤ 1000) = false by simp; omega]; rfl
    have h0' : (1000 : Int) < (n : Int) := by omega
    clear hg hgl
    go_enter Try.func21, Try.ntmps21
    go_wp2
    go_ret
    exact ⟨rb HF.out.symm, rfl⟩
  · have HG := hide hg
    have HGL := hide hgl
    have HN := hide h0
    have h0' : ¬ (1000 : Int) < (n : Int) := by omega
    clear hg hgl
    go_enter Try.func21, Try.ntmps21
    go_wp2
    clear h0' h0
    go_loop [3] (fun i => ∃ k : Nat, k ≤ n ∧ i = .int .i64 k ∧ Hid (∀ j, (h : j < g.length) → j < k → (g[j]'h).all (fun x => !badB g.length x) = true)) (fun i => n - (intOf i).toNat)
    case atStart => exact ⟨0, Nat.zero_le _, rfl, fun j _ h => absurd h (by omega)⟩
    case round =>
      obtain ⟨k, hk, rfl, HP⟩ := hrel
      by_cases hlt : k < n
      · obtain ⟨ys, gb, go, gs, a, m, kk, hys, rfl, hcell, hrd, hm, hml⟩ := HG.out.row hlt
        have HYS := hide hys
        have HM := hide hm
        have HRD := hide hrd
        clear hys hm hrd
        go_wp2_with fail
        go_loop [4] (fun j => ∃ t : Nat, t ≤ m ∧ j = .int .i64 t ∧ Hid (∀ j, (h : j < ys.length) → j < t → (!badB g.length (ys[j]'h)) = true)) (fun j => m - (intOf j).toNat)
        case atStart => exact ⟨0, Nat.zero_le _, rfl, fun j _ h => absurd h (by omega)⟩
        case round =>
          obtain ⟨t, ht, rfl, HQ⟩ := hrel
          by_cases htm : t < m
          · obtain ⟨yb, yo, ysp, x, rfl, hxe, hxc⟩ := HRD.out.get HM.out htm
            have HXE := hide hxe
            clear hxe
            cases hx0 : decide (x < 0)
            · cases hx1 : decide ((n : Int) ≤ x)
              · have HGD : Hid ((!badB g.length x) = true) := by show _ = _; unfold badB; rw [← HGL.out, hx0, hx1]; rfl
                go_wp2_with fail
                go_round
                case rel =>
                  refine ⟨t + 1, by omega, by go_num, fun j hj hjk => ?_⟩
                  by_cases hjk' : j < t
                  · exact HQ.out j hj hjk'
                  · obtain rfl : j = t := by omega
                    rw [← HXE.out]; exact HGD.out
                case measure => simp [intOf]; omega
              · have HGD : Hid ((!badB g.length x) = false) := by show _ = _; unfold badB; rw [← HGL.out, hx0, hx1]; rfl
                go_wp2_with fail
                go_ret
                refine ⟨rb ?_, rfl⟩
                obtain ⟨hkg, hke⟩ := List.getElem?_eq_some_iff.1 HYS.out
                unfold rightB
                have h1 : ys.all (fun x => !badB g.length x) = false := by
                  rw [List.all_eq_false]
                  exact ⟨x, by rw [HXE.out]; exact List.getElem_mem _, by rw [HGD.out]; simp⟩
                have : g.all (fun l => l.all (fun x => !badB g.length x)) = false := by
                  rw [List.all_eq_false]
                  exact ⟨ys, by rw [← hke]; exact List.getElem_mem hkg, by rw [h1]; simp⟩
                rw [this, Bool.and_false]
            · have HGD : Hid ((!badB g.length x) = false) := by show _ = _; unfold badB; rw [hx0]; rfl
              go_wp2_with fail
              go_ret
              refine ⟨rb ?_, rfl⟩
              obtain ⟨hkg, hke⟩ := List.getElem?_eq_some_iff.1 HYS.out
              unfold rightB
              have h1 : ys.all (fun x => !badB g.length x) = false := by
                rw [List.all_eq_false]
                exact ⟨x, by rw [HXE.out]; exact List.getElem_mem _, by rw [HGD.out]; simp⟩
              have : g.all (fun l => l.all (fun x => !badB g.length x)) = false := by
                rw [List.all_eq_false]
                exact ⟨ys, by rw [← hke]; exact List.getElem_mem hkg, by rw [h1]; simp⟩
              rw [this, Bool.and_false]
          · go_wp2_with fail
            go_round
            case rel =>
              refine ⟨k + 1, by omega, by go_num, fun j hj hjk => ?_⟩
              by_cases hjk' : j < k
              · exact HP.out j hj hjk'
              · obtain rfl : j = k := by omega
                rw [(List.getElem?_eq_some_iff.1 HYS.out).2, List.all_eq_true]
                intro y hy
                obtain ⟨q, hq, rfl⟩ := List.getElem_of_mem hy
                exact HQ.out q hq (by have := HM.out; omega)
            case measure => simp [intOf]; omega
      · go_wp2
        go_ret
        refine ⟨rb ?_, rfl⟩
        have hg := HGL.out
        have hn := HN.out
        have : g.all (fun l => l.all (fun x => !badB g.length x)) = true := by
          rw [List.all_eq_true]
          intro x hx
          obtain ⟨j, hj, rfl⟩ := List.getElem_of_mem hx
          exact HP.out j hj (by omega)
        unfold rightB
        rw [this]
        simp; omega

end Go.Proofs.Ytlfjmppmclgjnaa
