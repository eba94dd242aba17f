/- A graph that came in, opened. -/
import Derived.Test.YtlfjmppmclgjnaaReW
import Derived.Deep.Matrix
import Derived.ProofKit
import Derived.OpenShut
import Derived.Below
namespace Go.Proofs.Ytlfjmppmclgjnaa
open Go.RowKit Go.ChangeShapes Go.WideShapes Go.ChangeAt

theorem I64.of_wf {x : Int} (h : (Lit.int .i64 x).wf = true) : I64 x := by
  simp [Lit.wf, IntKind.min, IntKind.max, IntKind.signed, IntKind.bits] at h
  exact ⟨h.1, by omega⟩

theorem Rd.of_row' {w : World} {A : Option Addr} {L C : Nat} {zs : List Int} (hl : L ≤ C) (hz : zs.length = C) (h0 : A = none → C = 0) (hc : ∀ a', A = some a' → ∀ c, c < C → w.cell? (a'.add c) = some (.int .i64 (zs.getD c 0))) :
    Rd w (.slice A L C) 1 L ((zs.take L).map (.int .i64)) := by
  refine ⟨A, C, rfl, by simp [hz]; omega, fun h => by have := h0 h; omega, fun ad had j u hu => ?_⟩
  rw [List.getElem?_map] at hu
  obtain ⟨x, hx, rfl⟩ := Option.map_eq_some_iff.1 hu
  have hj : j < (zs.take L).length := (List.getElem?_eq_some_iff.1 hx).1
  have hjl : j < L := by simp at hj; omega
  rw [hc ad had j (by omega)]
  rw [List.getElem?_take_of_lt hjl] at hx
  simp [List.getD, hx]

theorem open_graph {H : Type} {enc : TypeId × Value → H} {w : World} {base : Nat} {held : Bool} {fuel : Nat} {a : Option Addr} {n c : Nat} {x : DataW H × List MemPlace} (h : DataW.trod enc Try.prog w base (fun _ => true) held fuel 22 (Value.slice a n c).cells.toList = some x) :
    ∃ g, GRd w a n g ∧ n ≤ 9223372036854775807 := by
  rcases Go.Deep.open_int_rows Try.underlying22 Try.underlying23 Try.underlying3 (by kernel_rfl) (by kernel_rfl) h with ⟨hcs, _⟩ | ⟨ad, len, cap, A, L, C, Z, hcs, _, hl, hm, _, hr⟩
  · simp [Value.cells] at hcs
    obtain ⟨rfl, rfl, rfl⟩ := hcs
    exact ⟨[], ⟨rfl, fun i xs h => by simp at h⟩, by decide⟩
  · simp [Value.cells] at hcs
    obtain ⟨rfl, rfl, rfl⟩ := hcs
    refine ⟨(List.range n).map fun r => (Z r).take (L r), ⟨by simp, fun i xs hi => ?_⟩, by unfold maxLen at hm; omega⟩
    have hin : i < n := by have := (List.getElem?_eq_some_iff.1 hi).1; simpa using this
    have hxs : xs = (Z i).take (L i) := by
      rw [List.getElem?_map, List.getElem?_range hin] at hi
      simpa using hi.symm
    subst hxs
    obtain ⟨h1, h2, h3, h4, h5, h6, h7⟩ := hr i (by omega)
    refine ⟨ad.block, ad.off, ad.spot, A i, L i, C i, rfl, h1, Rd.of_row' h2 h4 h6 fun a' ha => (h7 a' ha).2, by simp [h4]; omega, by unfold maxLen at h3; omega, fun x hx => I64.of_wf (h5 x (List.mem_of_mem_take hx))⟩

theorem open_list {H : Type} {enc : TypeId × Value → H} {w : World} {base : Nat} {held : Bool} {fuel : Nat} {a : Option Addr} {n c : Nat} {x : DataW H × List MemPlace} (h : DataW.trod enc Try.prog w base (fun _ => true) held fuel 23 (Value.slice a n c).cells.toList = some x) :
    ∃ S : List Int, Rd w (.slice a n c) 1 n (S.map (.int .i64)) ∧ n = S.length ∧ n ≤ 9223372036854775807 := by
  rcases open_ints Try.underlying23 Try.underlying3 (by kernel_rfl) h with ⟨hcs, _⟩ | ⟨ad, l, cp, zs, hcs, _, hl, hm, hz, _, hcell, hwz⟩
  · simp [Value.cells] at hcs
    obtain ⟨rfl, rfl, rfl⟩ := hcs
    exact ⟨[], Rd.nil w, rfl, by decide⟩
  · simp [Value.cells] at hcs
    obtain ⟨rfl, rfl, rfl⟩ := hcs
    simp only [if_true] at hz
    refine ⟨zs.take n, Rd.of_row' hl hz (fun h => absurd h (by simp)) (fun a' ha i hi => ?_), by simp [hz]; omega, by unfold maxLen at hm; omega⟩
    cases ha
    exact hcell i (by rw [hz]; exact hi)

theorem Upd.to_below {w w' : World} (h : Upd (fun _ => False) w w') : Below w.heap.size w w' := ⟨h.os, h.tape, h.output, h.size, fun k hk => h.block k hk (fun h => h)⟩

end Go.Proofs.Ytlfjmppmclgjnaa
