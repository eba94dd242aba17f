/- The laws' own graph: plain. -/
import Derived.Test.YtlfjmppmclgjnaaGGw
namespace Go.Proofs.Ytlfjmppmclgjnaa
open Go.RowKit

def g0 : List (List Int) := [[1], [0, 2], []]

theorem g0_ok : GOk g0 := by unfold GOk g0; decide
theorem g0_wrong (S : List Int) (h : ∀ x ∈ S, 0 ≤ x ∧ x < 3) : wrongB g0 S = false := by
  have : S.any (badB 3) = false := by
    rw [List.any_eq_false]
    intro x hx
    have := h x hx
    simp [badB]; omega
  unfold wrongB
  show (decide (1000 < 3) || S.any (badB 3) || _) = false
  rw [this]
  decide

theorem led_of {S : List Int} {f : Nat → Bool} (h0 : ∀ x ∈ S, f x.toNat = true) (h1 : ∀ y, f y = true → Led g0 S y) (h2 : ∀ x, x < 3 → f x = true → ∀ y ∈ adj g0 x, f y.toNat = true) : ledB g0 S = f :=
  (Fix.all ⟨h1, h0⟩ (fun x hx => h2 x hx)).symm

theorem l01 {S : List Int} (h : Led g0 S 0) : Led g0 S 1 := h.step (y := 1) (by simp [adj, g0])
theorem l10 {S : List Int} (h : Led g0 S 1) : Led g0 S 0 := h.step (y := 0) (by simp [adj, g0])
theorem l12 {S : List Int} (h : Led g0 S 1) : Led g0 S 2 := h.step (y := 2) (by simp [adj, g0])

theorem led0 : ledB g0 [0] = fun y => decide (y < 3) := by
  have h : Led g0 [0] 0 := Led.start (x := 0) (by simp)
  refine led_of (by simp) (fun y hy => ?_) ?_
  · have hy : y < 3 := by simpa using hy
    rcases y with _ | _ | _ | y
    · exact h
    · exact l01 h
    · exact l12 (l01 h)
    · omega
  · intro x hx _
    rcases x with _ | _ | _ | x
    · simp [adj, g0]
    · simp [adj, g0]
    · simp [adj, g0]
    · omega

theorem led1 : ledB g0 [1] = fun y => decide (y < 3) := by
  have h : Led g0 [1] 1 := Led.start (x := 1) (by simp)
  refine led_of (by simp) (fun y hy => ?_) ?_
  · have hy : y < 3 := by simpa using hy
    rcases y with _ | _ | _ | y
    · exact l10 h
    · exact h
    · exact l12 h
    · omega
  · intro x hx _
    rcases x with _ | _ | _ | x
    · simp [adj, g0]
    · simp [adj, g0]
    · simp [adj, g0]
    · omega

theorem led2 : ledB g0 [2] = fun y => y == 2 := by
  have h : Led g0 [2] 2 := Led.start (x := 2) (by simp)
  refine led_of (by simp) (fun y hy => ?_) ?_
  · have hy : y = 2 := by simpa using hy
    subst hy
    exact h
  · intro x hx hx2
    have hx2 : x = 2 := by simpa using hx2
    subst hx2
    simp [adj, g0]

theorem reach0 : reachL g0 [0] = [0, 1, 2] := by unfold reachL; rw [led0]; decide
theorem reach1 : reachL g0 [1] = [0, 1, 2] := by unfold reachL; rw [led1]; decide
theorem reach2 : reachL g0 [2] = [2] := by unfold reachL; rw [led2]; decide

theorem groups0 : groupsAll g0 = [[2], [0, 1]] := by
  have c2 : classL g0 2 = [2] := by
    unfold classL
    rw [show ((2 : Nat) : Int) = 2 from rfl, reach2]
    simp [led2]
  have c0 : classL g0 0 = [0, 1] := by
    unfold classL
    rw [show ((0 : Nat) : Int) = 0 from rfl, reach0]
    simp [led0, led1, led2]
  have r2 : readyB g0 (fun _ => false) 2 = true := by
    unfold readyB
    rw [show ((2 : Nat) : Int) = 2 from rfl, reach2]
    simp [led2]
  have r0 : readyB g0 (fun _ => false) 0 = false := by
    unfold readyB
    rw [show ((0 : Nat) : Int) = 0 from rfl, reach0]
    simp [led0, led1, led2]
  have r1 : readyB g0 (fun _ => false) 1 = false := by
    unfold readyB
    rw [show ((1 : Nat) : Int) = 1 from rfl, reach1]
    simp [led0, led1, led2]
  have h1 := (GrpSt.start g0).next g0_ok (k := 2) (by decide) rfl r2 (fun j hj => by
    rcases j with _ | _ | j
    · exact .inr r0
    · exact .inr r1
    · omega)
  rw [c2] at h1
  have r0' : readyB g0 (addL (fun _ => false) [2]) 0 = true := by
    unfold readyB
    rw [show ((0 : Nat) : Int) = 0 from rfl, reach0]
    simp [led0, led1, led2, addL]
  have h2 := h1.next g0_ok (k := 0) (by decide) (by simp [addL]) r0' (fun j hj => by omega)
  rw [c0] at h2
  exact (h2.done (by unfold cntF; decide)).symm

theorem groupsR0 : groupsR g0 = some [[2], [0, 1]] := by
  unfold groupsR
  rw [g0_wrong [] (by simp), groups0]; rfl
theorem reachR0 : reachR g0 [0] = some [0, 1, 2] := by
  unfold reachR
  rw [g0_wrong [0] (by simp), reach0]; rfl
theorem edges0 : edges g0 ≤ 100 := by decide

end Go.Proofs.Ytlfjmppmclgjnaa
