/- The reference's Order, walked. -/
import Derived.Test.YtkmgdnhedafomaaMO
import Derived.Test.YtkmgdnhedafomaaMRp
namespace Go.Proofs.Ytkmgdnhedafomaa
open Go.RowKit

theorem Try.rmovs : ElemOk Try.prog 28 33 (.agg #[.int .i64 0, .int .i64 0]) 2 16 := ⟨Try.underlying28, by kernel_rfl, rfl, by decide⟩
theorem Try.bools : ElemOk Try.prog 44 4 (.bool false) 1 1 := ⟨Try.underlying44, by kernel_rfl, rfl, by decide⟩

theorem make_bools (w : World) (s : Nat) (hs : s ≤ 100000) : (Instr.makeSlice 44 (.int .i64 (s : Int)) (.int .i64 (s : Int))).run Try.prog w = .ok (.slice (some ⟨w.heap.size, 0, none⟩) s s) (w.alloc (.cells (madeCells (Value.bool false).cells (s * 1)) 4)) := by
  obtain ⟨i, hi0, hi1, hi2, hi3⟩ := info_parts Try.bools.hi
  have hb' : (i.bytes : Int) * (s : Int) ≤ 281474976710656 := by
    rw [hi3]
    omega
  have hrun := run_make (P := Try.prog) w 44 4 i _ Try.bools.ht hi0 hi1 .i64 .i64 s s (by omega) (by omega) hb' (by omega)
  rw [hi2] at hrun
  simpa only [Int.toNat_natCast] using hrun

def boolArr (n : Nat) (f : Nat → Bool) : Array Value := ((List.range n).map fun i => Value.bool (f i)).toArray

theorem boolArr_get {n : Nat} {f : Nat → Bool} {i : Nat} (h : i < n) : (boolArr n f)[i]? = some (.bool (f i)) := by
  simp [boolArr, h]

theorem boolArr_put {n : Nat} {f : Nat → Bool} (i : Nat) (v : Bool) : (boolArr n f).setIfInBounds i (.bool v) = boolArr n (fun y => if y = i then v else f y) := by
  apply Array.ext_getElem?
  intro j
  rw [Array.getElem?_setIfInBounds]
  by_cases hj : i = j
  · subst hj
    by_cases hi : i < n
    · rw [if_pos rfl, if_pos (by simpa [boolArr] using hi), boolArr_get hi]; simp
    · rw [if_pos rfl, if_neg (by simpa [boolArr] using hi), Array.getElem?_eq_none (by simpa [boolArr] using hi)]
  · rw [if_neg hj]
    by_cases hi : j < n
    · rw [boolArr_get hi, boolArr_get hi, if_neg (fun e => hj e.symm)]
    · rw [Array.getElem?_eq_none (by simpa [boolArr] using hi), Array.getElem?_eq_none (by simpa [boolArr] using hi)]

theorem madeList (v : Value) (s : Nat) : madeCells #[v] s = (List.replicate s v).toArray := by
  apply Array.ext
  · simp [madeCells]
  · intro i h1 h2
    simp [madeCells, Nat.mod_one]

/-- The sources, as they lie. -/
structure SrcW (W : World) (g N : Nat) (sv : Nat → Int) : Prop where
  cell : ∀ k, k < N → W.cell? ⟨g, k, none⟩ = some (.int .i64 (sv k))
  free : ∀ k, W.frozen? ⟨g, k, none⟩ = false
  obj : ∃ cs, W.heap[g]? = some (.cells cs 3 (0, 0))

theorem SrcW.keep {S : Nat → Prop} {W W' : World} {g N : Nat} {sv : Nat → Int} (h : SrcW W g N sv) (hu : Upd S W W') (hg : ¬ S g) : SrcW W' g N sv := by
  obtain ⟨cs, hc⟩ := h.obj
  have hlt := (Array.getElem?_eq_some_iff.1 hc).1
  have hb := hu.block g hlt hg
  refine ⟨fun k hk => ?_, fun k => ?_, cs, hb.trans hc⟩
  · rw [World.cell?_of_block (a := ⟨g, k, none⟩) hb]; exact h.cell k hk
  · have hb1 : Blk W' g 3 cs := hb.trans hc
    exact hb1.free k

theorem SrcW.set {W : World} {g N : Nat} {sv : Nat → Int} (h : SrcW W g N sv) {i : Nat} (hi : i < N) (v : Int) : SrcW (W.setCell ⟨g, i, none⟩ (.int .i64 v)) g N (fun y => if y = i then v else sv y) := by
  obtain ⟨cs, hc⟩ := h.obj
  have hb : Blk W g 3 cs := hc
  have hb' := hb.set i (.int .i64 v)
  have hil : i < cs.size := by
    have := h.cell i hi
    rw [hb.cell] at this
    exact (Array.getElem?_eq_some_iff.1 this).1
  refine ⟨fun k hk => ?_, fun k => hb'.free k, _, hb'⟩
  rw [hb'.cell, Array.getElem?_setIfInBounds]
  by_cases e : i = k
  · subst e; rw [if_pos rfl, if_pos hil, if_pos rfl]
  · rw [if_neg e, if_neg (fun h => e h.symm), ← hb.cell]; exact h.cell k hk

theorem SrcW.of_own {W : World} {A : Option Addr} {N c : Nat} {src : List Int} {B : Nat} (h : W.ownsRow B 3 1 (.slice A N c) N (src.map (.int .i64))) (hN : N = src.length) (h0 : 0 < N) : ∃ g, A = some ⟨g, 0, none⟩ ∧ B ≤ g ∧ SrcW W g N (fun k => src.getD k 0) := by
  obtain ⟨A1, c1, hv, _, _, _, _, hA⟩ := own_form h
  obtain ⟨g, hg⟩ := own_some h h0
  obtain ⟨hAg, hlo, _, hfr, hcc⟩ := hA g hg
  injection hv with hv1
  refine ⟨g, hv1.trans hAg, hlo, fun k hk => ?_, hfr, own_obj h hg⟩
  rw [hcc k (.int .i64 (src.getD k 0))]
  rw [List.getElem?_map, List.getElem?_eq_getElem (by omega), List.getD_eq_getElem?_getD, List.getElem?_eq_getElem (by omega)]
  rfl

/-- What lies about while the reference works. -/
structure RefW (w wr : World) (lb g N : Nat) (A : Option Addr) (m c : Nat) (L : Wt) (pre : List (Int × Int)) (sv : Nat → Int) : Prop where
  left : Blk wr lb 4 (boolArr N (hasK L))
  src : SrcW wr g N sv
  out : wr.ownsRow w.heap.size 33 2 (.slice A m c) m (mcells pre)
  num : m = pre.length
  upd : Upd (fun _ => False) w wr
  lo1 : w.heap.size ≤ lb
  lo2 : w.heap.size ≤ g

section
variable {w wr w' : World} {lb g N : Nat} {A A' : Option Addr} {m c c' : Nat} {L : Wt} {pre : List (Int × Int)} {sv : Nat → Int}

theorem RefW.ne (h : RefW w wr lb g N A m c L pre sv) : lb ≠ g := by
  obtain ⟨cs, hc⟩ := h.src.obj
  exact h.left.ne (show Blk wr g 3 cs from hc) (by decide)

theorem RefW.same (h : RefW w wr lb g N A m c L pre sv) (hu : Upd (fun _ => False) wr w') : RefW w w' lb g N A m c L pre sv :=
  ⟨hu.blk h.left (fun h => h), h.src.keep hu (fun h => h), hu.own h.out (fun _ _ h => h), h.num, h.upd.trans hu, h.lo1, h.lo2⟩

theorem RefW.app (h : RefW w wr lb g N A m c L pre sv) {x : Int × Int} (ho : w'.ownsRow w.heap.size 33 2 (.slice A' (m + 1) c') (m + 1) (mcells pre ++ [.int .i64 x.1, .int .i64 x.2])) (hu : Upd (fun q => (Value.slice A m c).ownBlock = some q) wr w') : RefW w w' lb g N A' (m + 1) c' L (pre ++ [x]) sv := by
  refine ⟨hu.blk h.left (fun e => own_ne_blk h.out h.left (by decide) _ e rfl), h.src.keep hu (fun e => ?_), by rw [mcells_snoc]; exact ho, by rw [h.num, List.length_append]; rfl, h.upd.extend hu fun q hq => .inr (own_lo h.out hq), h.lo1, h.lo2⟩
  obtain ⟨cs, hc⟩ := own_obj h.out e
  obtain ⟨cs', hc'⟩ := h.src.obj
  rw [hc] at hc'
  injection hc' with hc'
  injection hc' with _ h2
  exact absurd h2 (by decide)

theorem RefW.cut (h : RefW w wr lb g N A m c L pre sv) (k : Nat) : RefW w (wr.setCell ⟨lb, k, none⟩ (.bool false)) lb g N A m c (cutL L k) pre sv := by
  have hu : Upd (fun q => q = lb) wr (wr.setCell ⟨lb, k, none⟩ (.bool false)) := Upd.set _ _ _ rfl
  exact ⟨by rw [hasK_cut, ← boolArr_put]; exact h.left.set k _, h.src.keep hu (fun e => h.ne e.symm), hu.own h.out (fun q hq e => own_ne_blk h.out h.left (by decide) q hq e), h.num, h.upd.extend hu fun q hq => .inr (by rw [hq]; exact h.lo1), h.lo1, h.lo2⟩

theorem RefW.put (h : RefW w wr lb g N A m c L pre sv) {i : Nat} (hi : i < N) (v : Int) : RefW w (wr.setCell ⟨g, i, none⟩ (.int .i64 v)) lb g N A m c L pre (fun y => if y = i then v else sv y) := by
  have hu : Upd (fun q => q = g) wr (wr.setCell ⟨g, i, none⟩ (.int .i64 v)) := Upd.set _ _ _ rfl
  refine ⟨hu.blk h.left h.ne, h.src.set hi v, hu.own h.out (fun q hq e => ?_), h.num, h.upd.extend hu fun q hq => .inr (by rw [hq]; exact h.lo2), h.lo1, h.lo2⟩
  obtain ⟨cs, hc⟩ := own_obj h.out hq
  obtain ⟨cs', hc'⟩ := h.src.obj
  rw [e, hc'] at hc
  injection hc with hc
  injection hc with _ h2
  exact absurd h2 (by decide)

theorem RefW.turned (h : RefW w wr lb g N A m c L pre sv) (k : Nat) (s : Int) : RefW w wr lb g N A m c (turnL L k s) pre sv :=
  ⟨by rw [hasK_turn]; exact h.left, h.src, h.out, h.num, h.upd, h.lo1, h.lo2⟩
end

theorem ints_oneC (xs : List Int) : ∀ y ∈ xs.map (Value.int .i64), y.oneCell' = true := by
  intro y hy
  obtain ⟨x, _, rfl⟩ := List.mem_map.1 hy
  rfl

def lenV : Value → Nat
  | .slice _ n _ => n
  | _ => 0

end Go.Proofs.Ytkmgdnhedafomaa
