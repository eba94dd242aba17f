/- The reference's Collect: what its loops keep. -/
import Derived.Test.YtkmfohocicngaaaRefM
import Derived.Test.YtkmfohocicngaaaBuiltW
namespace Go.Proofs.Ytkmfohocicngaaa
open Go.RowKit

theorem make_ints2 (w : World) (s : Nat) (hs : s ≤ 4194304) : (Instr.makeSlice 22 (.int .i64 (s : Int)) (.int .i64 (s : Int))).run Try.prog w = .ok (.slice (some ⟨w.heap.size, 0, none⟩) s s) (w.alloc (.cells (madeCells (Value.int .i64 0).cells (s * 1)) 3)) := by
  obtain ⟨i, hi0, hi1, hi2, hi3⟩ := info_parts Try.ints.hi
  have hb' : (i.bytes : Int) * (s : Int) ≤ 281474976710656 := by
    rw [hi3]
    omega
  have hrun := run_make (P := Try.prog) w 22 3 i _ Try.ints.ht hi0 hi1 .i64 .i64 s s (by omega) (by omega) hb' (by omega)
  rw [hi2] at hrun
  simpa only [Int.toNat_natCast] using hrun

/-- The mover's memory, and the list that is told. -/
def RCR (w wr : World) (B rb mb : Nat) (lim : Int) (L : List Ob) (T : Tl) (FH : Nat → Prop) (v : Value) (os : List Int) : Prop :=
  ∃ FT, MS wr B rb mb lim L T FH FT ∧ Upd (fun _ => False) w wr ∧ wr.ownsRow w.heap.size 3 1 v os.length (os.map (.int .i64)) ∧ (∀ k, v.ownBlock = some k → ¬ FT k) ∧ (∀ k, FT k → w.heap.size ≤ k ∧ k < wr.heap.size)

def RCall (w : World) (B rb mb : Nat) (lim : Int) (L : List Ob) (T : Tl) (FH : Nat → Prop) (v : Value) (os : List Int) (p : Int) (e : Ending) (w' : World) : Prop :=
  e = .returned (.int .i64 p) ∧ RCR w w' B rb mb lim L T FH v os

section
variable {w wr : World} {B rb mb : Nat} {lim : Int} {L : List Ob} {T : Tl} {FH : Nat → Prop} {v : Value} {os : List Int}

theorem RCR.call (h : RCR w wr B rb mb lim L T FH v os) (hFH : ∀ k, FH k → k < w.heap.size) (x : Int) (hr : rightL L x = true) (ht : total (obs (mv L T x).1) ≤ 4194304) :
    Calls Try.prog 44 #[.pointer (some ⟨mb, 0, none⟩), .pointer (some ⟨rb, 0, none⟩), .int .i64 x] wr (RCall w B rb mb lim L (mv L T x).1 FH v os (mv L T x).2) := by
  obtain ⟨FT, h1, h2, h3, h4, h5⟩ := h
  refine (rmove_any h1 (fun k hk => Nat.lt_of_lt_of_le (hFH k hk) h2.size) x hr ht).mono ?_
  rintro e w' ⟨he, g1, g2⟩
  have hs := g2.size
  have hs2 := h2.size
  refine ⟨he, growT FT wr w', g1, h2.extend g2 (fun q hq => .inr (h5 q hq).1), g2.own h3 h4, fun k hk hg => ?_, fun k hk => ?_⟩
  · rcases hg with hg | hg
    · exact h4 k hk hg
    · have := own_lt h3 hk; omega
  · rcases hk with hk | hk
    · have := h5 k hk; omega
    · omega

theorem MS.away {S : Nat → Prop} {w' : World} {FT : Nat → Prop} (h : MS w B rb mb lim L T FH FT) (hu : Upd S w w') (h1 : ∀ k, FH k → ¬ S k) (h2 : ∀ k, FT k → ¬ S k) : MS w' B rb mb lim L T FH FT := by
  obtain ⟨v, G, va, vl, G', hM, f1, f2, f3, f4, f5, f6⟩ := h
  exact ⟨v, G, va, vl, G', ⟨⟨hu.blk hM.h.blk (h1 _ f1), hM.h.le, hM.h.ro.keep hu (fun k hk => h1 k (f2 k hk)), hM.h.wf, hM.h.l0, hM.h.l1, hM.h.tot⟩, hu.blk hM.bm (h2 _ f3), hM.le, hu.own hM.mo (fun k hk => h2 k (f4 k hk)), hM.ro.keep hu (fun k hk => h2 k (f5 k hk)), hM.ag⟩, f1, f2, f3, f4, f5, f6⟩

theorem RCR.push {w1 : World} {v' : Value} {x : Int} {o : Obj} (h : RCR w wr B rb mb lim L T FH v os) (hFH : ∀ k, FH k → k < w.heap.size) (ho : w1.ownsRow w.heap.size 3 1 v' (os.length + 1) (os.map (.int .i64) ++ [.int .i64 x]))
    (hu : Upd (fun k => v.ownBlock = some k) (wr.alloc o) w1) (hat : v'.ownBlock = v.ownBlock ∨ v'.ownBlock = some (wr.alloc o).heap.size) : RCR w w1 B rb mb lim L T FH v' (os ++ [x]) := by
  obtain ⟨FT, h1, h2, h3, h4, h5⟩ := h
  have hl := h3.lt
  have hub := hu.behind
  refine ⟨FT, h1.away hub (fun k hk e => ?_) (fun k hk e => h4 k e hk), h2.extend hub (fun q hq => .inr (hl q hq).1), by simpa using ho, fun k hk hF => ?_, fun k hk => ?_⟩
  · have := hFH k hk; have := (hl k e).1; omega
  · rcases hat with hat | hat
    · rw [hat] at hk; exact h4 k hk hF
    · rw [hat] at hk
      obtain rfl := Option.some.inj hk
      have := (h5 _ hF).2
      simp at this
      omega
  · have := h5 k hk; have := hub.size; omega

theorem setF_obsL {i k : Nat} {o : Ob} (hi : T[i]? = some (k, o)) (j : Nat) (x : Int) : obs (setF T i j x) = (obs T).set i (o.1, o.2.set j x) := by
  rw [setF_obs hi, show offs T i = offL (obs T) i by simp [offs, offL, obs]]
  exact setL_eq (by simp [obs, hi]) j x

theorem setF_movedL (i j : Nat) (x : Int) : movedL L (setF T i j x) = movedL L T := by
  unfold movedL
  simp only [setF_newAt]

theorem setF_total (i j : Nat) (x : Int) : total (obs (setF T i j x)) = total (obs T) := by
  have h1 := setF_offs (T := T) (i := i) (j := j) (v := x) T.length
  rw [offs_all] at h1
  rw [← h1, ← offs_all, show (setF T i j x).length = T.length by simp [setF]]

theorem RCR.setw (h : RCR w wr B rb mb lim L T FH v os) {i j k q gq c cg n m : Nat} {o : Ob} (hi : T[i]? = some (k, o)) (hj : j < o.2.length) (x : Int) (h1 : wr.cell? ⟨mb, 1, none⟩ = some (.slice (some ⟨q, 0, none⟩) n c)) (h2 : wr.cell? ⟨q, i * 3 + 2, none⟩ = some (.slice (some ⟨gq, 0, none⟩) m cg)) :
    RCR w (wr.setCell ⟨gq, j, none⟩ (.int .i64 x)) B rb mb lim L (setF T i j x) FH v os := by
  obtain ⟨FT, ⟨v0, G, va, vl, G', hM, f1, f2, f3, f4, f5, f6⟩, g2, g3, g4, g5⟩ := h
  have hoi : (obs T)[i]? = some o := by simp [obs, hi]
  obtain ⟨q', g, c', hvl, _, hg, _, _, hc2, hof⟩ := hM.ro.at i o hoi
  have hvl2 : wr.cell? ⟨mb, 1, none⟩ = some vl := by rw [hM.bm.cell]; rfl
  rw [hvl2, hvl] at h1
  injection h1 with h1
  injection h1 with h1
  injection h1 with h1
  injection h1 with h1
  subst h1
  rw [hc2] at h2
  injection h2 with h2
  injection h2 with h2
  injection h2 with h2
  injection h2 with h2
  subst h2
  have hgG : g.1 ∈ G'.map (·.1) := List.mem_map.2 ⟨g, List.mem_of_getElem? hg, rfl⟩
  have hgF : FT g.1 := f5 _ (.inr hgG)
  have hu : Upd FT wr (wr.setCell ⟨g.1, j, none⟩ (.int .i64 x)) := Upd.set _ _ _ hgF
  have hu1 : Upd (fun k => k = g.1) wr (wr.setCell ⟨g.1, j, none⟩ (.int .i64 x)) := Upd.set _ _ _ rfl
  refine ⟨FT, ⟨v0, G, va, vl, G', ⟨⟨hu.blk hM.h.blk (f6 _ f1), hM.h.le, hM.h.ro.keep hu (fun k hk => f6 k (f2 k hk)), hM.h.wf, hM.h.l0, hM.h.l1, hM.h.tot⟩, ?_, hM.le, ?_, ?_, hM.ag⟩, f1, f2, f3, f4, f5, f6⟩, g2.extend hu (fun q hq => .inr (g5 q hq).1), hu.own g3 g4, g4, fun k hk => by have := g5 k hk; have := hu.size; omega⟩
  · rw [setF_total]
    exact hu1.blk hM.bm fun e => hM.ro.blk_ne hM.bm (by decide) (by decide) (.inr hgG) e.symm
  · rw [setF_movedL]
    exact hu1.own hM.mo fun k hk e => hM.ag k hk (e ▸ hgG)
  · rw [setF_obsL hi]
    exact hM.ro.set hoi hg hj x

/-- What the walk reads of the mover's row. -/
theorem RCR.row (h : RCR w wr B rb mb lim L T FH v os) : ∃ A c, wr.cell? ⟨mb, 1, none⟩ = some (.slice A T.length c) ∧ T.length ≤ total (obs T) ∧
    ∀ i k o, T[i]? = some (k, o) → ∃ q gq cg, A = some ⟨q, 0, none⟩ ∧ wr.cell? ⟨q, i * 3 + 2, none⟩ = some (.slice (some ⟨gq, 0, none⟩) o.2.length cg) ∧ (∀ j x, o.2[j]? = some x → wr.cell? ⟨gq, j, none⟩ = some (.int .i64 x)) ∧ ∀ j, wr.frozen? ⟨gq, j, none⟩ = false := by
  obtain ⟨FT, ⟨v0, G, va, vl, G', hM, _⟩, _⟩ := h
  obtain ⟨A, c, hv, _⟩ := own_cells hM.ro.row
  rw [obs_length] at hv
  have hl := length_le_total (obs T)
  rw [obs_length] at hl
  refine ⟨A, c, by rw [hM.bm.cell]; exact congrArg some hv, hl, fun i k o hi => ?_⟩
  obtain ⟨q', g, c', hvl, _, hg, _, _, hc2, hof⟩ := hM.ro.at i o (by simp [obs, hi])
  rw [hv] at hvl
  injection hvl with hA
  obtain ⟨_, _, _, _, _, _, _, hAA⟩ := own_form hof
  obtain ⟨_, _, _, hfr, hcc⟩ := hAA g.1 rfl
  exact ⟨q', g.1, g.2, hA, hc2, fun j x hx => hcc j _ (by rw [List.getElem?_map, hx]; rfl), hfr⟩

theorem RCR.old (h : RCR w wr B rb mb lim L T FH v os) : ∃ v0, wr.cell? ⟨rb, 1, none⟩ = some v0 ∧ wr.frozen? ⟨rb, 1, none⟩ = false := by
  obtain ⟨FT, ⟨v0, G, va, vl, G', hM, _⟩, _⟩ := h
  exact ⟨v0, by rw [hM.h.blk.cell]; rfl, hM.h.blk.free 1⟩

theorem RCR.start (h : RH w B rb lim L FH) (hFH : ∀ k, FH k → k < w.heap.size) {cs : Array Value} (hcs : cs.toList = (List.replicate L.length (0 : Int)).map (.int .i64)) {n : Nat} (hn : n = L.length) (hl : L.length ≤ 4194304) :
    RCR w ((w.alloc (.cells cs 3)).alloc (.cells #[.slice (some ⟨w.heap.size, 0, none⟩) n n, .slice none 0 0, .int .i64 0] 76)) B rb (w.heap.size + 1) lim L [] FH (.slice none 0 0) [] := by
  subst hn
  obtain ⟨v, G, h1, f1, f2⟩ := h
  have hB : B ≤ w.heap.size := Nat.le_of_lt (Nat.lt_of_le_of_lt h1.le h1.blk.lt)
  have e1 : (w.alloc (.cells cs 3)).heap.size = w.heap.size + 1 := by simp
  have u1 := Upd.alloc (fun _ => False) w (.cells cs 3)
  have u2 := Upd.alloc (fun _ => False) (w.alloc (.cells cs 3)) (.cells #[.slice (some ⟨w.heap.size, 0, none⟩) L.length L.length, .slice none 0 0, .int .i64 0] 76)
  have hb := Blk.new (w.alloc (.cells cs 3)) 76 #[.slice (some ⟨w.heap.size, 0, none⟩) L.length L.length, .slice none 0 0, .int .i64 0]
  rw [e1] at hb
  have hlen : cs.size = L.length := by have := congrArg List.length hcs; simpa using this
  have hmo : (w.alloc (.cells cs 3)).ownsRow B 3 1 (.slice (some ⟨w.heap.size, 0, none⟩) L.length L.length) L.length ((movedL L []).map (.int .i64)) := by
    refine ⟨by simp [movedL], .inr ⟨w.heap.size, L.length, cs, rfl, hB, heap_alloc_new w _, Nat.le_refl _, by unfold maxLen; omega, by omega, ?_⟩⟩
    rw [hcs, List.take_of_length_le (by simp)]
    congr 1
    apply List.ext_getElem
    · simp [movedL]
    · intro i h1 h2
      simp [movedL, newAt]
  refine ⟨fun k => k = w.heap.size ∨ k = w.heap.size + 1, ⟨v, G, _, _, [], ⟨⟨(u1.trans u2).blk h1.blk (fun h => h), h1.le, h1.ro.keep (u1.trans u2) (fun _ _ h => h), h1.wf, h1.l0, h1.l1, h1.tot⟩, by simpa [obs, total_nil] using hb, by omega, u2.own hmo (fun _ _ h => h), ⟨World.ownsRow_nil _ _ _ _, rfl, fun i o g h => by simp [obs] at h, by simp⟩, fun k _ h => by simp at h⟩, f1, f2, .inr rfl, fun k hk => ?_, fun k hk => ?_, fun k hk hh => ?_⟩, u1.trans u2, World.ownsRow_nil _ _ _ _, fun k hk => by simp [Value.ownBlock] at hk, fun k hk => ?_⟩
  · simp [Value.ownBlock] at hk; exact .inl hk.symm
  · rcases hk with hk | hk <;> simp [Value.ownBlock] at hk
  · have := hFH k hk; omega
  · simp; omega

/-- What the reference's Collect leaves. -/
def RCollPost (w : World) (B rb : Nat) (lim : Int) (FH : Nat → Prop) (L : List Ob) (r : Option (List Ob × List Int)) (e : Ending) (w' : World) : Prop :=
  match r with
  | none => e = .returned (.tuple #[.slice none 0 0, .int .i64 1]) ∧ w = w'
  | some (L', os) => ∃ v F', e = .returned (.tuple #[v, .int .i64 0]) ∧ w'.ownsRow w.heap.size 3 1 v os.length (os.map (.int .i64)) ∧ RH w' B rb lim L' F' ∧ (∀ k, F' k → (FH k ∨ w.heap.size ≤ k) ∧ k < w'.heap.size) ∧ (∀ k, v.ownBlock = some k → ¬ F' k) ∧ Upd FH w w'

theorem RCR.done {vl : Value} (h : RCR w wr B rb mb lim L T FH v os) (hFH : ∀ k, FH k → k < w.heap.size) (hs : Sc L T T.length 0) (h1 : wr.cell? ⟨mb, 1, none⟩ = some vl) : RCollPost w B rb lim FH L (some (obs T, os)) (.returned (.tuple #[v, .int .i64 0])) (wr.setCell ⟨rb, 1, none⟩ vl) := by
  obtain ⟨FT, ⟨v0, G, va, vl', G', hM, f1, f2, f3, f4, f5, f6⟩, g2, g3, g4, g5⟩ := h
  obtain rfl : vl' = vl := by rw [hM.bm.cell] at h1; exact Option.some.inj h1
  have hu : Upd (fun k => k = rb) wr (wr.setCell ⟨rb, 1, none⟩ vl') := Upd.set _ _ _ rfl
  have hFTb : ¬ FT rb := f6 rb f1
  have htt := hs.total
  have htot := hM.h.tot
  have hl1 := hM.h.l1
  have hwf := hs.wf hM.h.wf (by omega)
  have hrbv : ∀ k, v.ownBlock = some k → k ≠ rb := fun k hk e => by
    have := (g3.lt k hk).1; have := hFH rb f1; omega
  refine ⟨v, fun k => k = rb ∨ FT k, rfl, hu.own g3 (fun k hk e => hrbv k hk e), ⟨vl', G', ⟨?_, hM.h.le, hM.ro.keep hu (fun k hk e => hFTb (e ▸ f5 k hk)), hwf, hM.h.l0, hM.h.l1, by omega⟩, .inl rfl, fun k hk => .inr (f5 k hk)⟩, fun k hk => ?_, fun k hk hF => ?_, ?_⟩
  · simpa using hM.h.blk.set 1 vl'
  · have hsz := hu.size
    have hgs := g2.size
    rcases hk with rfl | hk
    · exact ⟨.inl f1, by have := hFH k f1; omega⟩
    · exact ⟨.inr (g5 k hk).1, by have := (g5 k hk).2; omega⟩
  · rcases hF with hF | hF
    · exact hrbv k hk hF
    · exact g4 k hk hF
  · exact (g2.mono fun _ _ h => h.elim).extend hu (fun q hq => by subst hq; exact .inl f1)
end
end Go.Proofs.Ytkmfohocicngaaa
