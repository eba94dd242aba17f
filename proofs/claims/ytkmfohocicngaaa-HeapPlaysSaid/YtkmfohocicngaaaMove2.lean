/- The closure that moves a value: its contract. -/
import Derived.Test.YtkmfohocicngaaaMove
namespace Go.Proofs.Ytkmfohocicngaaa
open Go.RowKit

theorem goneF_push {T : Tl} {k : Nat} (o : Ob) (hn : newAt T k = none) : goneF (T ++ [(k, o)]) = fun j => if j = (k : Int) then some (.int .i64 ((total (obs T) : Int) * 8 + 5)) else goneF T j := by
  funext j
  unfold goneF
  by_cases hj : j = (k : Int)
  · subst hj
    simp [newAt_append, hn]
  · rw [if_neg hj]
    by_cases h0 : 0 ≤ j
    · simp only [h0, if_true, newAt_append]
      have : ¬ k = j.toNat := by omega
      cases newAt T j.toNat <;> simp [this]
    · simp [h0]

section
variable {w : World} {B b bt bg bm bh : Nat} {lim : Int} {L : List Ob} {T : Tl} {FH FT : Nat → Prop}

theorem own_lt {e n : Nat} {v : Value} {xs : List Value} {size : Nat} (h : w.ownsRow B e size v n xs) {k : Nat} (hk : v.ownBlock = some k) : k < w.heap.size := (h.lt k hk).2

theorem move_any (h : CS w B b bt bg bm bh lim L T FH FT) (hFH : ∀ k, FH k → k < w.heap.size) (v : Int) (hi : I64 v) (hr : rightL L v = true) (ht : total (obs (mv L T v).1) ≤ 4194304) :
    Calls Try.prog 36 #[.int .i64 v, .pointer (some ⟨bg, 0, none⟩), .pointer (some ⟨bt, 0, none⟩), .pointer (some ⟨bh, 0, none⟩)] w (MovePost w B b bt bg bm bh lim L FH FT (mv L T v)) := by
  by_cases hp : isP v = true
  · have hr' := hr
    unfold rightL at hr'
    simp [hp] at hr'
    obtain ⟨h0, hs⟩ := hr'
    obtain ⟨o, ho⟩ := Option.isSome_iff_exists.1 hs
    have hk : v / 8 = (((v / 8).toNat : Nat) : Int) := by omega
    have hg := h.gone
    have hm := h.map_
    cases hn : newAt T (v / 8).toNat with
    | some p =>
      have he : mv L T v = (T, (p : Int) * 8 + 5) := by simp [mv, hp, hn]
      rw [he]
      refine (move_gone hp h0 hi.2 h.gone h.map_ (q := (p : Int) * 8 + 5) ?_).mono ?_
      · unfold goneF
        rw [if_pos (by omega), hn]; rfl
      · rintro e w' ⟨rfl, rfl⟩
        exact ⟨rfl, h.grown hFH h, Upd.refl _ _⟩
    | none =>
      have he : mv L T v = (T ++ [((v / 8).toNat, o)], (total (obs T) : Int) * 8 + 5) := by simp [mv, hp, hn, ho]
      rw [he] at ht ⊢
      obtain ⟨vw0, vb0, g, c, h1, ho1, hvw, hFg, hc0, hcx, hkl, htl, hh0, hh1, hle, hw, hfc, hfr⟩ := h.hp.place ho
      obtain ⟨g', c', hg', hc', hfl⟩ := fields_fix h1.sp _ (headOf o) o.2.length hw hh0 (by omega) (head_div ho1) hle
      obtain rfl : g = g' := by rw [hvw] at hg'; exact Option.some.inj hg'
      obtain ⟨vw, vb, hsp, hv1, hv2⟩ := h.to_
      have htot := h.tot
      have hgb := h.gone.lt
      have hbb := h.box.lt
      refine (move_new hp h0 hi.2 hk h.gone h.box h.map_ ?_ hc0 hcx hkl htl ho1 hfl (Nat.le_trans hle hc') hfc hsp FT h.ftt h.ftm hv1 hv2 (fun hF => h.fh _ hF hFg) (fun hF => h.lg _ hF rfl) htot (by rw [begins_length]; exact htot)).mono ?_
      · unfold goneF
        rw [if_pos (by omega), Int.toNat_natCast, hn]; rfl
      · rintro e w' ⟨rfl, ⟨v1, v2, hS, hq1, hq2⟩, hM, hU⟩
        have hsz := hU.size
        have hlt1 : ∀ k, v1.ownBlock = some k → growT FT w w' k := fun k hk => (hq1 k hk).imp id fun h => ⟨h, own_lt hS.ow hk⟩
        have hlt2 : ∀ k, v2.ownBlock = some k → growT FT w w' k := fun k hk => (hq2 k hk).imp id fun h => ⟨h, own_lt hS.ob hk⟩
        refine ⟨rfl, ⟨h.hp.keep hU (fun k hk hF => h.fh k hF hk), ⟨v1, v2, ?_, hlt1, hlt2⟩, .inl h.ftt, .inl h.ftm, hU.blk h.gone (fun hF => h.lg _ hF rfl), ?_, hU.blk h.box (fun hF => h.lh _ hF rfl), ?_, ?_, ?_, ht⟩, hU⟩
        · rw [obs_append, wordsOf_append, beginsOf_append]
          simpa [obs, wordsOf, beginsOf] using hS
        · rw [goneF_push o hn]
          exact hM
        · intro k hk hk'
          rcases hk with hk | hk
          · exact h.fh k hk hk'
          · have := hFH k hk'; omega
        · intro k hk
          rcases hk with hk | hk
          · exact h.lg k hk
          · omega
        · intro k hk
          rcases hk with hk | hk
          · exact h.lh k hk
          · omega
  · have hp' : isP v = false := by simpa using hp
    have he : mv L T v = (T, v) := by simp [mv, hp']
    rw [he]
    refine (move_plain w hp').mono ?_
    rintro e w' ⟨rfl, rfl⟩
    exact ⟨rfl, h.grown hFH h, Upd.refl _ _⟩
end
end Go.Proofs.Ytkmfohocicngaaa
