/- The laws' 'built': a heap of objects, and a list of pointers to them. -/
import Derived.Test.YtkmfohocicngaaaVals
import Derived.Deep.RegionHeld3
namespace Go.Proofs.Ytkmfohocicngaaa
open Go.RowKit

theorem setL_total (L : List Ob) (k i : Nat) (v : Int) : total (setL L k i v) = total L := by
  induction L generalizing k with
  | nil => rfl
  | cons p L ih =>
    unfold setL
    split
    · simp [total_cons]
    · split
      · rfl
      · rw [total_cons, total_cons, ih]

theorem setRes_total {L L' : List Ob} {p i v : Int} (h : setRes L p i v = some L') : total L' = total L := by
  unfold setRes at h
  split at h
  · cases h
  · split at h
    · rw [← Option.some.inj h, setL_total]
    · cases h

theorem setRes_obj {L L' : List Ob} {p i v : Int} (h : setRes L p i v = some L') {q : Int} {o : Ob} (ho : objL L q = some o) : ∃ o', objL L' q = some o' ∧ o'.2.length = o.2.length := by
  unfold setRes at h
  split at h
  · cases h
  · split at h
    · rw [← Option.some.inj h]
      unfold objL at ho ⊢
      split at ho
      · rename_i hq
        rw [if_pos hq, setL_at]
        split
        · rename_i he
          rw [he] at ho
          rw [ho]
          exact ⟨_, rfl, by simp⟩
        · exact ⟨o, ho, rfl⟩
      · cases ho
    · cases h

/-- The state while 'built' lays its objects and sets their fields. -/
def BSt (w wr : World) (b : Nat) (L : List Ob) (k : Nat) (A1 : Option Addr) (c1 : Nat) (ps : List Int) : Prop :=
  Sk w wr b 4000 L (fun q => (Value.slice A1 k c1).ownBlock = some q) ∧ wr.ownsRow w.heap.size 3 1 (.slice A1 k c1) k (ps.map (.int .i64)) ∧ ps.length = k ∧ total L ≤ 4 * k ∧ ∀ p ∈ ps, ∃ o, objL L p = some o ∧ o.2.length ≤ 3

section
variable {w wr w2 w3 : World} {b k c1 c2 : Nat} {L L' : List Ob} {A1 A2 : Option Addr} {ps : List Int}

theorem BSt.new {w2 : World} (hw2 : w.alloc (.cells #[.slice none 0 0, .slice none 0 0, .int .i64 4000, .bool true] 58) = w2) : BSt w w2 w.heap.size [] 0 none 0 [] := by
  subst hw2
  refine ⟨?_, World.ownsRow_nil .., rfl, by rw [total_nil]; omega, by simp⟩
  exact (Sk.new (Below.refl _ _) (by decide) (by decide) (fun _ => False) (fun _ h => h.elim)).weak fun q hq => by simp [Value.ownBlock] at hq

def GrowSt (w wr : World) (b k : Nat) (A1 : Option Addr) (c1 : Nat) (ps : List Int) (e : Ending) (w3 : World) : Prop :=
  ∃ p L', e = .returned (.tuple #[.int .i64 p, .int .i64 0]) ∧ I64 p ∧ Hid (Sk w w3 b 4000 L' (fun q => (Value.slice A1 k c1).ownBlock = some q) ∧ Upd (fun q => ¬ (Value.slice A1 k c1).ownBlock = some q ∧ w.heap.size ≤ q) wr w3 ∧ total L' ≤ 4 * (k + 1) ∧ ∀ q ∈ ps ++ [p], ∃ o, objL L' q = some o ∧ o.2.length ≤ 3)

theorem BSt.grow (h : BSt w wr b L k A1 c1 ps) (hk : k < 30) {kd : Int} (h0 : 0 ≤ kd) (h1 : kd ≤ 15) {s : Nat} (hs : s ≤ 3) {w1 : World} {cs : Array Value} (hcs : cs.toList = (List.replicate s (0 : Int)).map (.int .i64)) {g : Nat} (hg : g = wr.heap.size) (hw1 : (wr.alloc (.cells cs 3)).drew = w1) :
    Calls Try.prog 11 #[.pointer (some ⟨b, 0, none⟩), .int .i64 kd, .slice (some ⟨g, 0, none⟩) s s] w1 (GrowSt w wr b k A1 c1 ps) := by
  subst hg hw1
  obtain ⟨hsk, ho, hl, ht, hps⟩ := h
  have hsz : s = cs.size := by have := congrArg List.length hcs; simpa using this.symm
  have hrd : Rd (wr.alloc (.cells cs 3)).drew (.slice (some ⟨wr.heap.size, 0, none⟩) s s) 1 s ((List.replicate s (0 : Int)).map (.int .i64)) := hcs ▸ Rd.lit wr cs 3 rfl hsz s
  have hal := hsk.alloc ((Upd.alloc (fun _ => False) wr (.cells cs 3)).trans (Upd.drew _ _)) kd (some ⟨wr.heap.size, 0, none⟩) s s (List.replicate s 0) hrd (by simp) (fun q hq => .inr (.inr (by simp [Value.ownBlock] at hq; omega))) (by omega) (fun x hx => by obtain rfl := List.eq_of_mem_replicate hx; exact ⟨by decide, by decide⟩)
  rw [alloc_right 4000 L kd _ h0 h1 (by simp; omega) (by intro x hx; obtain rfl := List.eq_of_mem_replicate hx; rfl), if_neg (by simp; omega)] at hal
  refine hal.mono ?_
  rintro e w3 ⟨he, hleft⟩
  refine ⟨_, _, he, ⟨by omega, by omega⟩, hleft.1, hleft.2, by rw [total_append, total_cons, total_nil]; simp; omega, fun q hq => ?_⟩
  rcases List.mem_append.1 hq with hq | hq
  · obtain ⟨o, h1, h2⟩ := hps q hq
    exact ⟨o, objL_append _ h1, h2⟩
  · obtain rfl : q = _ := by simpa using hq
    exact ⟨_, objL_new _ _, by simpa using hs⟩

theorem BSt.step (h : BSt w wr b L k A1 c1 ps) {p : Int} (hg : Hid (Sk w w3 b 4000 L' (fun q => (Value.slice A1 k c1).ownBlock = some q) ∧ Upd (fun q => ¬ (Value.slice A1 k c1).ownBlock = some q ∧ w.heap.size ≤ q) wr w3 ∧ total L' ≤ 4 * (k + 1) ∧ ∀ q ∈ ps ++ [p], ∃ o, objL L' q = some o ∧ o.2.length ≤ 3))
    {o : Obj} (hown : w2.ownsRow w.heap.size 3 1 (.slice A2 (k + 1) c2) (k + 1) (ps.map (.int .i64) ++ [.int .i64 p])) (hu : Upd (fun q => (Value.slice A1 k c1).ownBlock = some q) (w3.alloc o) w2)
    (hat : (Value.slice A2 (k + 1) c2).ownBlock = (Value.slice A1 k c1).ownBlock ∨ (Value.slice A2 (k + 1) c2).ownBlock = some (w3.alloc o).heap.size) : BSt w w2 b L' (k + 1) A2 c2 (ps ++ [p]) := by
  obtain ⟨hsk, ho, hl, ht, hps⟩ := h
  obtain ⟨g1, g2, g3, g4⟩ := hg.out
  have hlo : ∀ q, (Value.slice A1 k c1).ownBlock = some q → w.heap.size ≤ q := fun q hq => by
    obtain ⟨A, c, hv, _, _, _, _, hA⟩ := own_form ho
    exact (hA q hq).2.1
  refine ⟨((g1.keep (Upd.alloc _ _ _)).other hu (fun _ h => h) hlo).weak fun q hq => ?_, by rw [List.map_append]; exact hown, by simp [hl], g3, g4⟩
  rcases hat with hat | hat
  · exact .inl (hat ▸ hq)
  · rw [hat] at hq
    obtain rfl := Option.some.inj hq
    exact .inr ⟨Nat.le_refl _, own_lt hown hat⟩

theorem BSt.own_keep (h : BSt w wr b L k A1 c1 ps) (hu : Upd (fun q => ¬ (Value.slice A1 k c1).ownBlock = some q ∧ w.heap.size ≤ q) wr w3) : w3.ownsRow w.heap.size 3 1 (.slice A1 k c1) k (ps.map (.int .i64)) :=
  hu.own h.2.1 fun q hq h' => h'.1 hq

theorem BSt.keep (h : BSt w wr b L k A1 c1 ps) (hu : Upd (fun _ => False) wr w3) : BSt w w3 b L k A1 c1 ps :=
  ⟨h.1.keep hu, hu.own h.2.1 fun _ _ h => h, h.2.2⟩

def SetB (w wr : World) (b : Nat) (k : Nat) (A1 : Option Addr) (c1 : Nat) (ps : List Int) (e : Ending) (w3 : World) : Prop := ∃ r L', e = .returned (.int .i64 r) ∧ Hid (BSt w w3 b L' k A1 c1 ps)

theorem BSt.set (h : BSt w wr b L k A1 c1 ps) {p i v : Int} (hp : p ∈ ps) (hv : I64 v) : Calls Try.prog 17 #[.pointer (some ⟨b, 0, none⟩), .int .i64 p, .int .i64 i, .int .i64 v] wr (SetB w wr b k A1 c1 ps) := by
  obtain ⟨o, ho, _⟩ := h.2.2.2.2 p hp
  refine (h.1.set p i v (h.1.i64 ho) hv).mono ?_
  intro e w3 hh
  cases hr : setRes L p i v with
  | none =>
    rw [hr] at hh
    obtain ⟨he, rfl⟩ := hh
    exact ⟨_, L, he, h⟩
  | some L' =>
    rw [hr] at hh
    obtain ⟨he, hl⟩ := hh
    obtain ⟨hsk, hown, hlen, ht, hps⟩ := h
    refine ⟨_, L', he, hl.1, hl.2.own hown fun q hq h' => h'.1 hq, hlen, by rw [setRes_total hr]; exact ht, fun q hq => ?_⟩
    obtain ⟨o, h1, h2⟩ := hps q hq
    obtain ⟨o', h3, h4⟩ := setRes_obj hr h1
    exact ⟨o', h3, by omega⟩

def FieldsB (w wr : World) (b : Nat) (L : List Ob) (k : Nat) (A1 : Option Addr) (c1 : Nat) (ps : List Int) (e : Ending) (w3 : World) : Prop := ∃ g m c, e = .returned (.tuple #[.slice (some ⟨g, 0, none⟩) m c, .int .i64 0]) ∧ m ≤ 3 ∧ Hid (BSt w w3 b L k A1 c1 ps)

theorem BSt.fields (h : BSt w wr b L k A1 c1 ps) {p : Int} (hp : p ∈ ps) : Calls Try.prog 14 #[.pointer (some ⟨b, 0, none⟩), .int .i64 p] wr (FieldsB w wr b L k A1 c1 ps) := by
  obtain ⟨o, ho, hl⟩ := h.2.2.2.2 p hp
  refine (h.1.fields p (h.1.i64 ho)).mono ?_
  intro e w3 hh
  rw [show fieldsL L p = some o.2 by simp [fieldsL, ho]] at hh
  obtain ⟨g, c, he, _, _, _, hu⟩ := hh
  exact ⟨g, _, c, he, hl, h.keep hu⟩

theorem BSt.get (h : BSt w wr b L k A1 c1 ps) {j : Nat} (hj : j < k) : ∃ gb p, A1 = some ⟨gb, 0, none⟩ ∧ p ∈ ps ∧ I64 p ∧ wr.cell? ⟨gb, j, none⟩ = some (.int .i64 p) := by
  obtain ⟨A, c, hv, _, _, hl, _, hA⟩ := own_form h.2.1
  obtain ⟨g, hg⟩ := own_some h.2.1 (by omega)
  obtain ⟨rfl, _, _, _, hc⟩ := hA g hg
  have hjl : j < ps.length := by have := h.2.2.1; omega
  injection hv with hv1
  obtain ⟨o, ho, _⟩ := h.2.2.2.2 _ (List.getElem_mem hjl)
  exact ⟨g, ps[j], hv1, List.getElem_mem _, h.1.i64 ho, hc j _ (by rw [List.getElem?_map, List.getElem?_eq_getElem hjl]; rfl)⟩

theorem BSt.get' {gb : Nat} (h : BSt w wr b L k (some ⟨gb, 0, none⟩) c1 ps) {j : Nat} (hj : j < k) : ∃ p, p ∈ ps ∧ I64 p ∧ wr.cell? ⟨gb, j, none⟩ = some (.int .i64 p) := by
  obtain ⟨g, p, hA, h1, h2, h3⟩ := h.get hj
  simp only [Option.some.injEq, Addr.mk.injEq, and_true, true_and] at hA
  subst hA
  exact ⟨p, h1, h2, h3⟩
end

end Go.Proofs.Ytkmfohocicngaaa
