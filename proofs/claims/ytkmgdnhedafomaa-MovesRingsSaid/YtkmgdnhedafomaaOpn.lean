/- A list that came in, opened. -/
import Derived.Test.YtkmgdnhedafomaaMA
import Derived.ProofKit
import Derived.OpenShut
import Derived.Below
namespace Go.Proofs.Ytkmgdnhedafomaa
open Go.RowKit Go.ChangeShapes Go.WideShapes Go.ChangeAt

theorem I64.of_wf {x : Int} (h : (Lit.int .i64 x).wf = true) : I64 x := by
  simp [Lit.wf, IntKind.min, IntKind.max, IntKind.signed, IntKind.bits] at h
  exact ⟨h.1, by omega⟩

theorem Rd.of_row' {w : World} {A : Option Addr} {L C : Nat} {zs : List Int} (hl : L ≤ C) (hz : zs.length = C) (h0 : A = none → C = 0) (hc : ∀ a', A = some a' → ∀ c, c < C → w.cell? (a'.add c) = some (.int .i64 (zs.getD c 0))) :
    Rd w (.slice A L C) 1 L ((zs.take L).map (.int .i64)) := by
  refine ⟨A, C, rfl, by simp [hz]; omega, fun h => by have := h0 h; omega, fun ad had j u hu => ?_⟩
  rw [List.getElem?_map] at hu
  obtain ⟨x, hx, rfl⟩ := Option.map_eq_some_iff.1 hu
  have hj : j < (zs.take L).length := (List.getElem?_eq_some_iff.1 hx).1
  have hjl : j < L := by simp at hj; omega
  rw [hc ad had j (by omega)]
  rw [List.getElem?_take_of_lt hjl] at hx
  simp [List.getD, hx]

theorem Rd.nil (w : World) : Rd w (.slice none 0 0) 1 0 [] := ⟨none, 0, rfl, rfl, fun _ => ⟨rfl, rfl⟩, fun ad h => by simp at h⟩

theorem open_list {H : Type} {enc : TypeId × Value → H} {w : World} {base : Nat} {held : Bool} {fuel : Nat} {a : Option Addr} {n c : Nat} {x : DataW H × List MemPlace} (h : DataW.trod enc Try.prog w base (fun _ => true) held fuel 22 (Value.slice a n c).cells.toList = some x) :
    ∃ S : List Int, Rd w (.slice a n c) 1 n (S.map (.int .i64)) ∧ n = S.length ∧ n ≤ 9223372036854775807 := by
  rcases open_ints Try.underlying22 Try.underlying3 (by kernel_rfl) h with ⟨hcs, _⟩ | ⟨ad, l, cp, zs, hcs, _, hl, hm, hz, _, hcell, hwz⟩
  · simp [Value.cells] at hcs
    obtain ⟨rfl, rfl, rfl⟩ := hcs
    exact ⟨[], Rd.nil w, rfl, by decide⟩
  · simp [Value.cells] at hcs
    obtain ⟨rfl, rfl, rfl⟩ := hcs
    simp only [if_true] at hz
    refine ⟨zs.take n, Rd.of_row' hl hz (fun h => absurd h (by simp)) (fun a' ha i hi => ?_), by simp [hz]; omega, by unfold maxLen at hm; omega⟩
    cases ha
    exact hcell i (by rw [hz]; exact hi)

theorem Upd.to_below {w w' : World} (h : Upd (fun _ => False) w w') : Below w.heap.size w w' := ⟨h.os, h.tape, h.output, h.size, fun k hk => h.block k hk (fun h => h)⟩

end Go.Proofs.Ytkmgdnhedafomaa
