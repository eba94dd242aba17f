/- The reference's 'Groups': its parts. -/
import Derived.Test.YtlfjmppmclgjnaaReW
namespace Go.Proofs.Ytlfjmppmclgjnaa
open Go.RowKit

theorem Try.brows : ElemOk Try.prog 44 40 (.slice none 0 0) 1 24 := ⟨Try.underlying44, by kernel_rfl, rfl, by decide⟩

def boolSl (n b : Nat) : Value := .slice (some ⟨b, 0, none⟩) n n

/-- The rows of bools, as far as they are laid. -/
structure RLd (w wr : World) (n k : Nat) (A : Option Addr) (c : Nat) (g : List (List Int)) (bs : List Nat) : Prop where
  own : wr.ownsRow w.heap.size 40 1 (.slice A k c) k (bs.map (boolSl n))
  rows : ∀ (i b : Nat), bs[i]? = some b → w.heap.size ≤ b ∧ Blk wr b 4 (boolArr n (ledB g [(i : Int)]))
  upd : Upd (fun _ => False) w wr
  num : k = bs.length

theorem RLd.keep {w wr w' : World} {n k : Nat} {A : Option Addr} {c : Nat} {g : List (List Int)} {bs : List Nat} (h : RLd w wr n k A c g bs) (hu : Upd (fun _ => False) wr w') : RLd w w' n k A c g bs :=
  ⟨hu.own h.own (fun _ _ h => h), fun i b hi => ⟨(h.rows i b hi).1, hu.blk (h.rows i b hi).2 (fun h => h)⟩, h.upd.trans hu, h.num⟩

theorem RLd.app {w wr w' : World} {n k : Nat} {A A' : Option Addr} {c c' : Nat} {g : List (List Int)} {bs : List Nat} (h : RLd w wr n k A c g bs) {b : Nat} (hb : w.heap.size ≤ b) (hbk : Blk wr b 4 (boolArr n (ledB g [(k : Int)])))
    (hown : w'.ownsRow w.heap.size 40 1 (.slice A' (k + 1) c') (k + 1) (bs.map (boolSl n) ++ [boolSl n b])) (hu : Upd (fun q => (Value.slice A k c).ownBlock = some q) wr w') : RLd w w' n (k + 1) A' c' g (bs ++ [b]) := by
  refine ⟨by rw [List.map_append]; exact hown, fun i b' hi => ?_, h.upd.extend hu fun q hq => .inr (own_lo h.own hq), by rw [h.num]; simp⟩
  rcases Nat.lt_or_ge i bs.length with hl | hl
  · rw [List.getElem?_append_left hl] at hi
    obtain ⟨h1, h2⟩ := h.rows i b' hi
    exact ⟨h1, hu.blk h2 (fun e => own_ne_blk h.own h2 (by decide) _ e rfl)⟩
  · rw [List.getElem?_append_right hl] at hi
    have e : i = k := by
      have := h.num
      rcases Nat.lt_or_ge (i - bs.length) 1 with h3 | h3
      · omega
      · rw [List.getElem?_eq_none (by simp; omega)] at hi; simp at hi
    subst e
    rw [← h.num, Nat.sub_self] at hi
    obtain rfl : b = b' := by simpa using hi
    exact ⟨hb, hu.blk hbk (fun e => own_ne_blk h.own hbk (by decide) _ e rfl)⟩

/-- What a cell of the rows of bools says. -/
theorem RLd.get {w wr : World} {n : Nat} {A : Option Addr} {c : Nat} {g : List (List Int)} {bs : List Nat} (h : RLd w wr n n A c g bs) {i : Nat} (hi : i < n) :
    ∃ ga b, A = some ⟨ga, 0, none⟩ ∧ wr.cell? ⟨ga, i, none⟩ = some (boolSl n b) ∧ ∀ j, j < n → wr.cell? ⟨b, j, none⟩ = some (.bool (ledB g [(i : Int)] j)) := by
  have hl := h.num
  have hb : bs[i]? = some (bs[i]'(by omega)) := List.getElem?_eq_getElem _
  obtain ⟨A1, c1, hv, _, _, _, _, hA⟩ := own_form h.own
  obtain ⟨ga, hga⟩ := own_some h.own (by omega)
  obtain ⟨hAg, _, _, _, hcc⟩ := hA ga hga
  injection hv with hv1
  refine ⟨ga, _, hv1.trans hAg, hcc i _ (by rw [List.getElem?_map, hb]; rfl), fun j hj => ?_⟩
  rw [(h.rows i _ hb).2.cell, boolArr_get hj]

/-- What lies about while the reference makes its groups. -/
structure RGW (w wr : World) (n : Nat) (Al : Option Addr) (cl : Nat) (bs : List Nat) (db m : Nat) (A : Option Addr) (c : Nat) (g : List (List Int)) (done : Nat → Bool) (gs : List (List Int)) (vals : List Value) : Prop where
  leads : RLd w wr n n Al cl g bs
  blk : Blk wr db 4 (boolArr n done)
  lo : w.heap.size ≤ db
  far : ∀ b ∈ bs, b ≠ db
  own : wr.ownsRow w.heap.size 23 1 (.slice A m c) m vals
  rows : GOwn wr w.heap.size vals gs
  num : m = gs.length

section
variable {w wr w' : World} {n : Nat} {Al : Option Addr} {cl : Nat} {bs : List Nat} {db m : Nat} {A A' : Option Addr} {c c' : Nat} {g : List (List Int)} {done : Nat → Bool} {gs : List (List Int)} {vals : List Value}

theorem RGW.keep (h : RGW w wr n Al cl bs db m A c g done gs vals) (hu : Upd (fun _ => False) wr w') : RGW w w' n Al cl bs db m A c g done gs vals :=
  ⟨h.leads.keep hu, hu.blk h.blk (fun h => h), h.lo, h.far, hu.own h.own (fun _ _ h => h), h.rows.keep hu (fun _ _ _ _ _ _ h => h), h.num⟩

/-- A list of ints of the call's own grows beside it. -/
theorem RGW.grow (h : RGW w wr n Al cl bs db m A c g done gs vals) {v : Value} {p : Nat} {xs : List Value} {B : Nat} (ho : wr.ownsRow B 3 1 v p xs) (hB : w.heap.size ≤ B) (hu : Upd (fun q => v.ownBlock = some q) wr w')
    (hg : ∀ (u : Value) (k : Nat) (ys : List Value), GOwn wr w.heap.size vals gs → wr.ownsRow w.heap.size 3 1 u k ys → u ∈ vals → ∀ q, u.ownBlock = some q → ¬ v.ownBlock = some q) : RGW w w' n Al cl bs db m A c g done gs vals := by
  refine ⟨⟨hu.own h.leads.own (own_ne_rows h.leads.own ho (by decide)), fun i b hi => ⟨(h.leads.rows i b hi).1, hu.blk (h.leads.rows i b hi).2 (fun e => own_ne_blk ho (h.leads.rows i b hi).2 (by decide) _ e rfl)⟩, h.leads.upd.extend hu fun q hq => .inr (Nat.le_trans hB (own_lo ho hq)), h.leads.num⟩,
    hu.blk h.blk (fun e => own_ne_blk ho h.blk (by decide) _ e rfl), h.lo, h.far, hu.own h.own (own_ne_rows h.own ho (by decide)), ⟨h.rows.1, fun i ys hi => ?_⟩, h.num⟩
  obtain ⟨a, k, cc, h1, h2, h3⟩ := h.rows.2 i ys hi
  exact ⟨a, k, cc, h1, h2, hu.own h3 (hg _ _ _ h.rows h3 (List.mem_of_getElem? h1))⟩

theorem RGW.mark (h : RGW w wr n Al cl bs db m A c g done gs vals) (i : Nat) : RGW w (wr.setCell ⟨db, i, none⟩ (.bool true)) n Al cl bs db m A c g (fun y => done y || y == i) gs vals := by
  have hu : Upd (fun q => q = db) wr (wr.setCell ⟨db, i, none⟩ (.bool true)) := Upd.set _ _ _ rfl
  exact ⟨⟨hu.own h.leads.own (fun k hk e => own_ne_blk h.leads.own h.blk (by decide) k hk e), fun j b hj => ⟨(h.leads.rows j b hj).1, hu.blk (h.leads.rows j b hj).2 (h.far b (List.mem_of_getElem? hj))⟩, h.leads.upd.extend hu fun q hq => .inr (by subst hq; exact h.lo), h.leads.num⟩,
    by rw [← boolArr_set]; exact h.blk.set i _, h.lo, h.far, hu.own h.own (fun k hk e => own_ne_blk h.own h.blk (by decide) k hk e), h.rows.keep hu (fun v k xs ho q hq e => own_ne_blk ho h.blk (by decide) q hq e), h.num⟩

theorem RGW.app (h : RGW w wr n Al cl bs db m A c g done gs vals) {a : Option Addr} {p cp : Nat} {ys : List Int} (hp : p = ys.length) (ho : wr.ownsRow w.heap.size 3 1 (.slice a p cp) p (ys.map (.int .i64)))
    (hown : w'.ownsRow w.heap.size 23 1 (.slice A' (m + 1) c') (m + 1) (vals ++ [.slice a p cp])) (hu : Upd (fun k => (Value.slice A m c).ownBlock = some k) wr w') : RGW w w' n Al cl bs db (m + 1) A' c' g done (gs ++ [ys]) (vals ++ [.slice a p cp]) := by
  have hne : ∀ (v : Value) (k : Nat) (xs : List Value), wr.ownsRow w.heap.size 3 1 v k xs → ∀ q, v.ownBlock = some q → ¬ (Value.slice A m c).ownBlock = some q := fun v k xs ho2 => own_ne_rows ho2 h.own (by decide)
  exact ⟨⟨hu.own h.leads.own (own_ne_rows h.leads.own h.own (by decide)), fun j b hj => ⟨(h.leads.rows j b hj).1, hu.blk (h.leads.rows j b hj).2 (fun e => own_ne_blk h.own (h.leads.rows j b hj).2 (by decide) _ e rfl)⟩, h.leads.upd.extend hu fun q hq => .inr (own_lo h.own hq), h.leads.num⟩,
    hu.blk h.blk (fun e => own_ne_blk h.own h.blk (by decide) _ e rfl), h.lo, h.far, hown, (h.rows.keep hu hne).snoc hp (hu.own ho (hne _ _ _ ho)), by rw [h.num]; simp⟩
end

end Go.Proofs.Ytlfjmppmclgjnaa
