/- The turned graph, as it is built: memory. -/
import Derived.Test.YtlfjmppmclgjnaaTuG
namespace Go.Proofs.Ytlfjmppmclgjnaa
open Go.RowKit

def valArr (n : Nat) (V : Nat → Value) : Array Value := ((List.range n).map V).toArray

theorem valArr_get {n : Nat} {V : Nat → Value} {i : Nat} (h : i < n) : (valArr n V)[i]? = some (V i) := by
  simp [valArr, h]

theorem valArr_set {n : Nat} {V : Nat → Value} (i : Nat) (v : Value) : (valArr n V).setIfInBounds i v = valArr n (fun y => if y = i then v else V y) := by
  apply Array.ext_getElem?
  intro j
  rw [Array.getElem?_setIfInBounds]
  by_cases hj : i = j
  · subst hj
    by_cases hi : i < n
    · rw [if_pos rfl, if_pos (by simpa [valArr] using hi), valArr_get hi]; simp
    · rw [if_pos rfl, if_neg (by simpa [valArr] using hi), Array.getElem?_eq_none (by simpa [valArr] using hi)]
  · rw [if_neg hj]
    by_cases hi : j < n
    · rw [valArr_get hi, valArr_get hi, if_neg (fun e => hj e.symm)]
    · rw [Array.getElem?_eq_none (by simpa [valArr] using hi), Array.getElem?_eq_none (by simpa [valArr] using hi)]

/-- Rows that grow, each for itself. -/
structure BkW (w2 wr : World) (bb n : Nat) (bk : Nat → List Int) (V : Nat → Value) : Prop where
  lo : w2.heap.size ≤ bb
  upd : Upd (fun _ => False) w2 wr
  blk : Blk wr bb 23 (valArr n V)
  rows : ∀ y, y < n → (∃ a c, V y = .slice a (bk y).length c) ∧ wr.ownsRow w2.heap.size 3 1 (V y) (bk y).length ((bk y).map (.int .i64))
  apart : ∀ y y', y < n → y' < n → y ≠ y' → ∀ q, (V y).ownBlock = some q → (V y').ownBlock ≠ some q

section
variable {w2 wr w' : World} {bb n : Nat} {bk : Nat → List Int} {V : Nat → Value}

theorem BkW.keep (h : BkW w2 wr bb n bk V) (hu : Upd (fun _ => False) wr w') : BkW w2 w' bb n bk V :=
  ⟨h.lo, h.upd.trans hu, hu.blk h.blk (fun h => h), fun y hy => ⟨(h.rows y hy).1, hu.own (h.rows y hy).2 (fun _ _ h => h)⟩, h.apart⟩

/-- One row has grown, and is laid back. -/
theorem BkW.push (h : BkW w2 wr bb n bk V) {y : Nat} (hy : y < n) {x : Int} {a' : Option Addr} {c' : Nat} {w5 : World} (hown : w5.ownsRow w2.heap.size 3 1 (.slice a' ((bk y).length + 1) c') ((bk y).length + 1) ((bk y).map (Value.int .i64) ++ [.int .i64 x]))
    (hu : Upd (fun k => (V y).ownBlock = some k) wr w5) (hat : (Value.slice a' ((bk y).length + 1) c').ownBlock = (V y).ownBlock ∨ (Value.slice a' ((bk y).length + 1) c').ownBlock = some wr.heap.size) :
    BkW w2 (w5.setCell ⟨bb, y, none⟩ (.slice a' ((bk y).length + 1) c')) bb n (bpush bk y x) (fun z => if z = y then .slice a' ((bk y).length + 1) c' else V z) := by
  have hs : Upd (fun q => q = bb) w5 (w5.setCell ⟨bb, y, none⟩ (.slice a' ((bk y).length + 1) c')) := Upd.set _ _ _ rfl
  have hyr := h.rows y hy
  have hb5 := hu.blk h.blk (fun e => own_ne_blk hyr.2 h.blk (by decide) _ e rfl)
  refine ⟨h.lo, (h.upd.extend hu fun q hq => .inr (own_lo hyr.2 hq)).extend hs fun q hq => .inr (by subst hq; exact h.lo), by rw [← valArr_set]; exact hb5.set y _, fun z hz => ?_, fun z z' hz hz' hne q hq => ?_⟩
  · by_cases hzy : z = y
    · subst hzy
      simp only [if_true]
      have e : bpush bk z x z = bk z ++ [x] := by simp [bpush]
      rw [e]
      refine ⟨⟨a', c', by simp⟩, ?_⟩
      have := hs.own hown (fun k hk e => own_ne_blk hown hb5 (by decide) k hk e)
      simpa using this
    · simp only [if_neg hzy]
      have e : bpush bk y x z = bk z := by simp [bpush, hzy]
      rw [e]
      obtain ⟨h1, h2⟩ := h.rows z hz
      have h3 := hu.own h2 (fun k hk => h.apart z y hz hy hzy k hk)
      exact ⟨h1, hs.own h3 (fun k hk e => own_ne_blk h3 hb5 (by decide) k hk e)⟩
  · show ((if z' = y then Value.slice a' ((bk y).length + 1) c' else V z')).ownBlock ≠ some q
    by_cases hzy : z = y
    · rw [if_pos hzy] at hq
      have hzy' : z' ≠ y := fun e => hne (hzy.trans e.symm)
      rw [if_neg hzy']
      intro hq'
      rcases hat with hat | hat
      · rw [hat] at hq
        exact h.apart z' y hz' hy hzy' q hq' hq
      · rw [hat] at hq
        injection hq with hq
        have := own_lt (h.rows z' hz').2 hq'
        omega
    · rw [if_neg hzy] at hq
      by_cases hzy' : z' = y
      · rw [if_pos hzy']
        intro hq'
        rcases hat with hat | hat
        · rw [hat] at hq'
          exact h.apart z y hz hy hzy q hq hq'
        · rw [hat] at hq'
          injection hq' with hq'
          have := own_lt (h.rows z hz).2 hq
          omega
      · rw [if_neg hzy']
        exact h.apart z z' hz hz' hne q hq

/-- As a graph. -/
theorem BkW.read (h : BkW w2 wr bb n bk V) (hl : ∀ y, (bk y).length ≤ 100000) (hi : ∀ y, ∀ x ∈ bk y, I64 x) : GRd wr (some ⟨bb, 0, none⟩) n (backG n bk) := by
  refine ⟨(backG_len n bk).symm, fun i xs hx => ?_⟩
  have hin : i < n := by have := (List.getElem?_eq_some_iff.1 hx).1; rwa [backG_len] at this
  have hxs : xs = bk i := by
    have : (backG n bk)[i]? = some (bk i) := by simp [backG, hin]
    rw [this] at hx; injection hx with hx; exact hx.symm
  subst hxs
  obtain ⟨⟨a, c, hv⟩, ho⟩ := h.rows i hin
  rw [hv] at ho
  refine ⟨bb, 0, none, a, (bk i).length, c, rfl, ?_, Rd.of_own ho, rfl, by have := hl i; omega, hi i⟩
  rw [Addr.add_lit, Nat.zero_add, h.blk.cell, valArr_get hin, hv]

end

theorem make_rows (w : World) (s : Nat) (hs : s ≤ 100000) : (Instr.makeSlice 22 (.int .i64 (s : Int)) (.int .i64 (s : Int))).run Try.prog w = .ok (.slice (some ⟨w.heap.size, 0, none⟩) s s) (w.alloc (.cells (madeCells (Value.slice none 0 0).cells (s * 1)) 23)) := by
  obtain ⟨i, hi0, hi1, hi2, hi3⟩ := info_parts Try.rows.hi
  have hb' : (i.bytes : Int) * (s : Int) ≤ 281474976710656 := by
    rw [hi3]
    omega
  have hrun := run_make (P := Try.prog) w 22 23 i _ Try.rows.ht hi0 hi1 .i64 .i64 s s (by omega) (by omega) hb' (by omega)
  rw [hi2] at hrun
  simpa only [Int.toNat_natCast] using hrun

theorem made_rows (n : Nat) : madeCells (Value.slice none 0 0).cells (n * 1) = valArr n (fun _ => .slice none 0 0) := by
  rw [Nat.mul_one]
  refine (madeList _ _).trans ?_
  unfold valArr
  congr 1
  rw [List.map_const']
  simp

theorem BkW.made (w : World) (n : Nat) : BkW w (w.alloc (.cells (madeCells (Value.slice none 0 0).cells (n * 1)) 23)) w.heap.size n (fun _ => []) (fun _ => .slice none 0 0) :=
  ⟨Nat.le_refl _, Upd.alloc _ _ _, by rw [made_rows]; exact Blk.new _ _ _, fun y _ => ⟨⟨none, 0, rfl⟩, World.ownsRow_nil _ _ _ _⟩, fun y y' _ _ _ q hq => by simp [Value.ownBlock] at hq⟩

end Go.Proofs.Ytlfjmppmclgjnaa
