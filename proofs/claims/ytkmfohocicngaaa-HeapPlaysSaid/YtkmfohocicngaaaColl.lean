/- Collect: what its loops keep. -/
import Derived.Test.YtkmfohocicngaaaMove2
import Derived.Test.YtkmfohocicngaaaCopy3
namespace Go.Proofs.Ytkmfohocicngaaa
open Go.RowKit

theorem setF_obs {T : Tl} {i : Nat} {p : Nat × Ob} (hi : T[i]? = some p) (j : Nat) (v : Int) : obs (setF T i j v) = setL (obs T) (offs T i) j v := by
  induction T generalizing i with
  | nil => simp at hi
  | cons q T ih =>
    cases i with
    | zero => simp [setF, obs, offs_zero, setL]
    | succ i =>
      simp at hi
      have := ih hi
      simp only [setF, obs] at this
      rw [offs_cons]
      show obs (setF (q :: T) (i + 1) j v) = setL (q.2 :: obs T) _ j v
      unfold setL
      rw [if_neg (by omega), if_neg (by omega), show q.2.2.length + 1 + offs T i - (q.2.2.length + 1) = offs T i by omega]
      simp only [setF, List.modify_succ_cons, obs, List.map_cons]
      rw [this]

theorem setF_offs {T : Tl} {i j : Nat} {v : Int} (m : Nat) : offs (setF T i j v) m = offs T m := by
  induction T generalizing i m with
  | nil => simp [setF]
  | cons q T ih =>
    cases m with
    | zero => simp [offs_zero]
    | succ m =>
      cases i with
      | zero => simp [setF, offs_cons]
      | succ i =>
        have := ih (i := i) m
        simp only [setF] at this
        simp only [setF, List.modify_succ_cons, offs_cons, this]

theorem goneF_setF (T : Tl) (i j : Nat) (v : Int) : goneF (setF T i j v) = goneF T := by
  funext k; simp [goneF, setF_newAt]

section
variable {w : World} {B b bt bg bm bh : Nat} {lim : Int} {L : List Ob} {T : Tl} {FH FT : Nat → Prop}

/-- A field of a copied object is written. -/
theorem CS.setw (h : CS w B b bt bg bm bh lim L T FH FT) {i j k : Nat} {o : Ob} (hi : T[i]? = some (k, o)) (hj : j < o.2.length) (v : Int) {vw : Value} {g : Nat} (hvw : w.cell? ⟨bt, 0, none⟩ = some vw) (hg : vw.ownBlock = some g) :
    CS (w.setCell ⟨g, offs T i + 1 + j, none⟩ (.int .i64 v)) B b bt bg bm bh lim L (setF T i j v) FH FT ∧ Upd FT w (w.setCell ⟨g, offs T i + 1 + j, none⟩ (.int .i64 v)) := by
  obtain ⟨vw', vb, hs, hv1, hv2⟩ := h.to_
  obtain rfl : vw' = vw := by have := hs.cell0; rw [hvw] at this; exact (Option.some.inj this).symm
  have hFg := hv1 g hg
  have hu : Upd (fun q => q = g) w (w.setCell ⟨g, offs T i + 1 + j, none⟩ (.int .i64 v)) := Upd.set _ _ _ rfl
  have hat := at_offs hi
  obtain ⟨hw, hb⟩ := setL_words hat j hj v
  have hle : offs T i + 1 + o.2.length ≤ total (obs T) := (atL_words hat).2.2.1
  rw [← setF_obs hi] at hw hb
  refine ⟨⟨h.hp.keep hu (fun k hk e => h.fh g hFg (e ▸ hk)), ⟨vw', vb, ?_, hv1, hv2⟩, h.ftt, h.ftm, hu.blk h.gone (fun e => h.lg g hFg e.symm), ?_, hu.blk h.box (fun e => h.lh g hFg e.symm), h.fh, h.lg, h.lh, ?_⟩, Upd.set _ _ _ hFg⟩
  · refine ⟨hu.blk hs.blk (fun e => own_ne_blk hs.ow hs.blk hs.t3 g hg e.symm), hs.le, hs.c0, hs.c1, ?_, ?_, hs.t3, hs.t4, by rw [hw]; simpa using hs.lw, by rw [hb]; exact hs.lb⟩
    · rw [hw, List.length_set, List.map_set]
      exact own_set hs.ow hg _ (by unfold total at hle; omega) _
    · rw [hb]
      refine hu.own hs.ob (fun q hq e => ?_)
      subst e
      exact own_ne_own hs.ow hs.ob (by decide) q hg hq
  · rw [goneF_setF]
    exact h.map_.keep hu (fun e => h.map_.ne_own hs.ow (e ▸ hg))
  · have : total (obs (setF T i j v)) = total (obs T) := by unfold total; rw [hw]; simp
    rw [this]; exact h.tot

/-- The collector's memory, and the list that is told. -/
def CRel (w wr : World) (B b bt bg bm bh : Nat) (lim : Int) (L : List Ob) (T : Tl) (FH : Nat → Prop) (v : Value) (os : List Int) : Prop :=
  ∃ FT, CS wr B b bt bg bm bh lim L T FH FT ∧ Upd (fun _ => False) w wr ∧ wr.ownsRow w.heap.size 3 1 v os.length (os.map (.int .i64)) ∧ (∀ k, v.ownBlock = some k → ¬ FT k) ∧ (∀ k, FT k → w.heap.size ≤ k ∧ k < wr.heap.size)

theorem CRel.move {wr w' : World} {v : Value} {os : List Int} {x : Int} {e : Ending} (h : CRel w wr B b bt bg bm bh lim L T FH v os) (hm : ∀ FT, CS wr B b bt bg bm bh lim L T FH FT → MovePost wr B b bt bg bm bh lim L FH FT (mv L T x) e w') :
    CRel w w' B b bt bg bm bh lim L (mv L T x).1 FH v os := by
  obtain ⟨FT, h1, h2, h3, h4, h5⟩ := h
  obtain ⟨_, g1, g2⟩ := hm FT h1
  have hs := g2.size
  have hs2 := h2.size
  refine ⟨growT FT wr w', g1, h2.extend g2 (fun q hq => .inr (h5 q hq).1), g2.own h3 h4, fun k hk hg => ?_, fun k hk => ?_⟩
  · rcases hg with hg | hg
    · exact h4 k hk hg
    · have := own_lt h3 hk; omega
  · rcases hk with hk | hk
    · have := h5 k hk; omega
    · omega

theorem CRel.push {wr w1 : World} {v v' : Value} {os : List Int} {x : Int} {o : Obj} (h : CRel w wr B b bt bg bm bh lim L T FH v os) (hFH : ∀ k, FH k → k < w.heap.size) (ho : w1.ownsRow w.heap.size 3 1 v' (os.length + 1) (os.map (.int .i64) ++ [.int .i64 x]))
    (hu : Upd (fun k => v.ownBlock = some k) (wr.alloc o) w1) (hat : v'.ownBlock = v.ownBlock ∨ v'.ownBlock = some (wr.alloc o).heap.size) : CRel w w1 B b bt bg bm bh lim L T FH v' (os ++ [x]) := by
  obtain ⟨FT, h1, h2, h3, h4, h5⟩ := h
  have hl := h3.lt
  have hub := hu.behind
  refine ⟨FT, h1.keep hub (fun k hk e => ?_) (fun k hk e => h4 k e hk) (fun e => own_ne_blk h3 h1.gone (by decide) bg e rfl) (fun e => own_ne_blk h3 h1.box (by decide) bh e rfl), h2.extend hub (fun q hq => .inr (hl q hq).1), by simpa using ho, fun k hk hF => ?_, fun k hk => ?_⟩
  · have := hFH k hk; have := (hl k e).1; omega
  · rcases hat with hat | hat
    · rw [hat] at hk; exact h4 k hk hF
    · rw [hat] at hk
      obtain rfl := Option.some.inj hk
      have := (h5 _ hF).2
      simp at this
      omega
  · have := h5 k hk; have := hub.size; omega

theorem CRel.setw {wr : World} {v : Value} {os : List Int} (h : CRel w wr B b bt bg bm bh lim L T FH v os) {i j k : Nat} {o : Ob} (hi : T[i]? = some (k, o)) (hj : j < o.2.length) (x : Int) {vw : Value} {g : Nat} (hvw : wr.cell? ⟨bt, 0, none⟩ = some vw) (hg : vw.ownBlock = some g) :
    CRel w (wr.setCell ⟨g, offs T i + 1 + j, none⟩ (.int .i64 x)) B b bt bg bm bh lim L (setF T i j x) FH v os := by
  obtain ⟨FT, h1, h2, h3, h4, h5⟩ := h
  obtain ⟨g1, g2⟩ := h1.setw hi hj x hvw hg
  exact ⟨FT, g1, h2.extend g2 (fun q hq => .inr (h5 q hq).1), g2.own h3 h4, h4, fun k hk => by have := h5 k hk; have := g2.size; omega⟩

/-- What the walk reads of the space that is copied to. -/
theorem CRel.words {wr : World} {v : Value} {os : List Int} (h : CRel w wr B b bt bg bm bh lim L T FH v os) :
    ∃ vw vb A c, Sp wr B bt 56 #[vw, vb] vw vb (wordsOf (obs T)) (beginsOf (obs T)) ∧ vw = .slice A (total (obs T)) c ∧ total (obs T) ≤ c ∧ total (obs T) ≤ 4194304 ∧
      ∀ i k o, T[i]? = some (k, o) → ∃ g, vw.ownBlock = some g ∧ A = some ⟨g, 0, none⟩ ∧ offs T i + 1 + o.2.length ≤ total (obs T) ∧ (wordsOf (obs T))[offs T i]? = some (headOf o) ∧ (∀ j x, o.2[j]? = some x → wr.cell? ⟨g, offs T i + 1 + j, none⟩ = some (.int .i64 x)) ∧ ∀ j, wr.frozen? ⟨g, j, none⟩ = false := by
  obtain ⟨FT, h1, _⟩ := h
  obtain ⟨vw, vb, hs, _, _⟩ := h1.to_
  obtain ⟨A, c, hv, hnc, hcm, hl, hA0, hA⟩ := own_form hs.ow
  refine ⟨vw, vb, A, c, hs, hv, hnc, h1.tot, fun i k o hi => ?_⟩
  obtain ⟨a1, a2, a3, a4⟩ := atL_words (at_offs hi)
  obtain ⟨g, hg⟩ := own_some hs.ow (by unfold total at a3; omega)
  obtain ⟨hAg, _, _, hfr, hcell⟩ := hA g hg
  refine ⟨g, hg, hAg, a3, a1, fun j x hx => hcell _ _ ?_, hfr⟩
  rw [List.getElem?_map, a2 j (List.getElem?_eq_some_iff.1 hx).1, hx]; rfl

end

theorem stepF_eq {L : List Ob} {T : Tl} {i j k : Nat} {o : Ob} {x : Int} (hi : T[i]? = some (k, o)) (hx : o.2[j]? = some x) : stepF L T i j = setF (mv L T x).1 i j (mv L T x).2 := by
  simp [stepF, hi, hx]

end Go.Proofs.Ytkmfohocicngaaa
