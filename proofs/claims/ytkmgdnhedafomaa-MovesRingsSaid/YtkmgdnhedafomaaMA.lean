/- 'awake', walked. -/
import Derived.Test.YtkmgdnhedafomaaMRw
namespace Go.Proofs.Ytkmgdnhedafomaa
open Go.RowKit

/-- Moves, as they are read. -/
def MRd (w : World) (A : Option Addr) (n : Nat) (ms : List (Int × Int)) : Prop :=
  n = ms.length ∧ ∀ (i : Nat) (x : Int × Int), ms[i]? = some x → ∃ g, A = some ⟨g, 0, none⟩ ∧ w.cell? ⟨g, i * 2, none⟩ = some (.int .i64 x.1) ∧ w.cell? ⟨g, i * 2 + 1, none⟩ = some (.int .i64 x.2)

theorem mcells_get : ∀ (ms : List (Int × Int)) (i : Nat) (x : Int × Int), ms[i]? = some x → (mcells ms)[i * 2]? = some (.int .i64 x.1) ∧ (mcells ms)[i * 2 + 1]? = some (.int .i64 x.2)
  | [], i, x, h => by simp at h
  | y :: ms, 0, x, h => by
    obtain rfl : y = x := by simpa using h
    exact ⟨rfl, rfl⟩
  | y :: ms, i + 1, x, h => by
    have := mcells_get ms i x (by simpa using h)
    rw [show (i + 1) * 2 = i * 2 + 1 + 1 by omega]
    exact this

theorem MRd.of_own {w : World} {B e : Nat} {A : Option Addr} {n c : Nat} {ms : List (Int × Int)} (h : w.ownsRow B e 2 (.slice A n c) n (mcells ms)) (hn : n = ms.length) : MRd w A n ms := by
  refine ⟨hn, fun i x hx => ?_⟩
  have hil : i < ms.length := (List.getElem?_eq_some_iff.1 hx).1
  obtain ⟨h1, h2⟩ := mcells_get ms i x hx
  rcases h.2 with ⟨_, h0⟩ | ⟨g, cap, cur, hv, _, hg, _, _, _, ht⟩
  · omega
  · injection hv with hv1
    have hb : Blk w g e cur := hg
    refine ⟨g, hv1, ?_, ?_⟩
    · rw [hb.cell, ← Array.getElem?_toList]
      rw [← ht, List.getElem?_take] at h1
      split at h1
      · exact h1
      · cases h1
    · rw [hb.cell, ← Array.getElem?_toList]
      rw [← ht, List.getElem?_take] at h2
      split at h2
      · exact h2
      · cases h2

theorem cell_upd {w w2 : World} (hu : Upd (fun _ => False) w w2) {a : Addr} {v : Value} (hc : w.cell? a = some v) : w2.cell? a = some v := by
  rw [World.cell?_of_block (hu.block a.block (World.block_lt_of_cell? w _ hc) (fun h => h)), hc]

theorem MRd.keep {w w' : World} {A : Option Addr} {n : Nat} {ms : List (Int × Int)} (h : MRd w A n ms) (hu : Upd (fun _ => False) w w') : MRd w' A n ms :=
  ⟨h.1, fun i x hx => by
    obtain ⟨g, h1, h2, h3⟩ := h.2 i x hx
    exact ⟨g, h1, cell_upd hu h2, cell_upd hu h3⟩⟩

theorem Rd.lit {w : World} {b : Nat} {cs : Array Value} {xs : List Int} (h : Blk w b 3 cs) (hc : cs = (xs.map (Value.int .i64)).toArray) {n c : Nat} (hn : n = xs.length) : Rd w (.slice (some ⟨b, 0, none⟩) n c) 1 n (xs.map (.int .i64)) := by
  refine ⟨_, _, rfl, by simp [hn], fun h => by simp at h, fun ad had j u hu => ?_⟩
  injection had with had
  subst had
  rw [Addr.add_lit, Nat.zero_add, h.cell, hc]
  simpa using hu

def BoolN (w : World) (r : Bool) (e : Ending) (w' : World) : Prop := e = .returned (.bool r) ∧ Upd (fun _ => False) w w'

theorem order0 : orderR [1, 0] 9 = some [(9, 0), (0, 1), (1, 9)] := by decide

set_option maxHeartbeats 1000000 in
theorem awake_any {w : World} : Calls Try.prog 8 #[] w (BoolN w true) := by
  have hu1 := Upd.alloc (fun _ => False) w (.cells #[.int .i64 1, .int .i64 0] 3)
  have HU1 := hide hu1
  have h := order_any (c := 2) (s := 9) (src := [1, 0]) (Rd.lit (n := 2) (c := 2) (xs := [1, 0]) (Blk.new w 3 #[.int .i64 1, .int .i64 0]) rfl rfl) rfl (by omega) ⟨by omega, by omega⟩
  rw [order0] at h
  have HC := hide h
  clear hu1 h
  go_enter Try.func8, Try.ntmps8
  go_upto_region 2 with (go_at_call 9; refine HC.out.mono ?_; rintro e w2 ⟨A, n, c, rfl, HN, HO⟩)
  obtain rfl : n = 3 := HN.out
  have hr := MRd.of_own HO.out.1 rfl
  obtain ⟨g, rfl, h0, h1⟩ := hr.2 0 (9, 0) rfl
  obtain ⟨g', hg', h4, h5⟩ := hr.2 2 (1, 9) rfl
  obtain rfl : g = g' := by injection hg' with hg'; injection hg'
  dsimp only at h0 h1 h4 h5
  simp only [Nat.zero_mul, Nat.zero_add, Nat.reduceMul, Nat.reduceAdd] at h0 h1 h4 h5
  have HU2 := hide (HU1.out.trans HO.out.2)
  clear hr hg'
  go_wp2_with fail
  go_ret
  exact ⟨rfl, HU2.out⟩
end Go.Proofs.Ytkmgdnhedafomaa
