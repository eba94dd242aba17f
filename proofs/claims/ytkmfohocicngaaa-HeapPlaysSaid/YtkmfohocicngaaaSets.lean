/- HeapSets: the state beside rows that are kept. -/
import Derived.Test.YtkmfohocicngaaaBuiltW
namespace Go.Proofs.Ytkmfohocicngaaa
open Go.RowKit

/-- A heap, and rows of whole numbers that it does not touch. -/
def SS (w1 w : World) (b : Nat) (L : List Ob) (rs : List (Nat × List Int)) : Prop :=
  ∃ K, Sk w1 w b 4000 L K ∧ ∀ r ∈ rs, K r.1 ∧ ∀ j u, r.2[j]? = some u → w.cell? ⟨r.1, j, none⟩ = some (.int .i64 u)

section
variable {w1 w w' : World} {b : Nat} {L : List Ob} {rs : List (Nat × List Int)}

theorem SS.of_bst {k c1 : Nat} {A1 : Option Addr} {ps : List Int} (h : BSt w1 w b L k A1 c1 ps) : SS w1 w b L [] := ⟨_, h.1, by simp⟩

theorem SS.cell (h : SS w1 w b L rs) {g : Nat} {xs : List Int} (hr : (g, xs) ∈ rs) {j : Nat} (hj : j < xs.length) : w.cell? ⟨g, j, none⟩ = some (.int .i64 xs[j]) := by
  obtain ⟨K, _, h2⟩ := h
  exact (h2 _ hr).2 j _ (List.getElem?_eq_getElem hj)

theorem SS.keep (h : SS w1 w b L rs) (hu : Upd (fun _ => False) w w') : SS w1 w' b L rs := by
  obtain ⟨K, h1, h2⟩ := h
  refine ⟨K, h1.keep hu, fun r hr => ⟨(h2 r hr).1, fun j u hj => ?_⟩⟩
  have hc := (h2 r hr).2 j u hj
  rw [World.cell?_of_block (hu.block r.1 (World.block_lt_of_cell? w _ hc) (fun h => h)), hc]

theorem SS.push (h : SS w1 w b L rs) (hu : Upd (fun _ => False) w w') {g : Nat} (h1 : w.heap.size ≤ g) (h2 : g < w'.heap.size) {xs : List Int} (hc : ∀ j u, xs[j]? = some u → w'.cell? ⟨g, j, none⟩ = some (.int .i64 u)) : SS w1 w' b L ((g, xs) :: rs) := by
  obtain ⟨K0, _, k2⟩ := h.keep hu
  obtain ⟨K, k1, k3⟩ := h
  refine ⟨_, k1.other hu (fun _ h => h.elim) (fun _ h => h.elim), fun r hr => ?_⟩
  rcases List.mem_cons.1 hr with rfl | hr
  · exact ⟨.inr ⟨h1, h2⟩, hc⟩
  · exact ⟨.inl (k3 r hr).1, (k2 r hr).2⟩

theorem SS.set (h : SS w1 w b L rs) {L' : List Ob} {K : Nat → Prop} (hk : ∀ r ∈ rs, K r.1) (hl : Left w1 w b 4000 L' K w') (hc : ∀ r ∈ rs, ∀ j u, r.2[j]? = some u → w.cell? ⟨r.1, j, none⟩ = some (.int .i64 u)) : SS w1 w' b L' rs := by
  refine ⟨K, hl.1, fun r hr => ⟨hk r hr, fun j u hj => ?_⟩⟩
  have hcc := hc r hr j u hj
  rw [World.cell?_of_block (hl.2.block r.1 (World.block_lt_of_cell? w _ hcc) (fun h => h.1 (hk r hr))), hcc]

def FieldsS (w1 w : World) (b : Nat) (L : List Ob) (rs : List (Nat × List Int)) (xs : List Int) (n : Nat) (e : Ending) (w' : World) : Prop :=
  ∃ g c, e = .returned (.tuple #[.slice (some ⟨g, 0, none⟩) n c, .int .i64 0]) ∧ Hid (SS w1 w' b L ((g, xs) :: rs))

theorem SS.fields (h : SS w1 w b L rs) {p : Int} {o : Ob} (ho : objL L p = some o) {n : Nat} (hn : n = o.2.length) : Calls Try.prog 14 #[.pointer (some ⟨b, 0, none⟩), .int .i64 p] w (FieldsS w1 w b L rs o.2 n) := by
  subst hn
  have hs := h
  obtain ⟨K, h1, h2⟩ := h
  refine (h1.fields p (h1.i64 ho)).mono ?_
  intro e w3 hh
  rw [show fieldsL L p = some o.2 by simp [fieldsL, ho]] at hh
  obtain ⟨g, c, he, hc, hlo, hown, hu⟩ := hh
  obtain ⟨A, c', hv, _, _, _, _, hA⟩ := own_form hown
  obtain ⟨_, _, hlt, _, hcc⟩ := hA g rfl
  exact ⟨g, c, he, hs.push hu hlo hlt fun j u hj => hcc j _ (by rw [List.getElem?_map, hj]; rfl)⟩

def SetYes (w1 : World) (b : Nat) (L' : List Ob) (rs : List (Nat × List Int)) (e : Ending) (w' : World) : Prop := e = .returned (.int .i64 0) ∧ Hid (SS w1 w' b L' rs)

theorem SS.set_yes (h : SS w1 w b L rs) {p : Int} {o : Ob} (ho : objL L p = some o) {f : Nat} (hf : f < o.2.length) {v : Int} (hv : I64 v) (hp : isP v = false) :
    Calls Try.prog 17 #[.pointer (some ⟨b, 0, none⟩), .int .i64 p, .int .i64 (f : Int), .int .i64 v] w (SetYes w1 b (setL L (p / 8).toNat f v) rs) := by
  have hs := h
  obtain ⟨K, h1, h2⟩ := h
  refine (h1.set p f v (h1.i64 ho) hv).mono ?_
  intro e w3 hh
  have hr : setRes L p f v = some (setL L (p / 8).toNat f v) := by
    unfold setRes
    rw [ho]
    simp only []
    rw [if_pos ⟨by omega, by omega, by simp [rightL, hp]⟩, Int.toNat_natCast]
  rw [hr] at hh
  exact ⟨hh.1, hs.set (fun r hr => (h2 r hr).1) hh.2 (fun r hr => (h2 r hr).2)⟩

theorem setL_obj {p : Int} {o : Ob} (ho : objL L p = some o) (f : Nat) (v : Int) : objL (setL L (p / 8).toNat f v) p = some (o.1, o.2.set f v) := by
  unfold objL at ho ⊢
  split at ho
  · rename_i hq
    rw [if_pos hq, setL_at, if_pos rfl, ho]
    rfl
  · cases ho

theorem SS.set_no (h : SS w1 w b L rs) {p : Int} {o : Ob} (ho : objL L p = some o) {f : Int} (hf : ¬ (0 ≤ f ∧ f < o.2.length)) {v : Int} (hv : I64 v) :
    Calls Try.prog 17 #[.pointer (some ⟨b, 0, none⟩), .int .i64 p, .int .i64 f, .int .i64 v] w fun e w' => e = .returned (.int .i64 1) ∧ w = w' := by
  obtain ⟨K, h1, h2⟩ := h
  refine (h1.set p f v (h1.i64 ho) hv).mono ?_
  intro e w3 hh
  have hr : setRes L p f v = none := by
    unfold setRes
    rw [ho]
    simp only []
    rw [if_neg (by rintro ⟨a, b, _⟩; exact hf ⟨a, b⟩)]
  rw [hr] at hh
  exact hh

def SameI (w : World) (e : Ending) (w' : World) : Prop := e = .returned (.bool true) ∧ ∃ m, w' = w.drewN m

theorem SS.ints (h : SS w1 w b L rs) {g g' c c' : Nat} {xs : List Int} (hg : (g, xs) ∈ rs) (hg' : (g', xs) ∈ rs) (hl : xs.length ≤ 100000) {n : Nat} (hn : n = xs.length) :
    Calls Try.prog 18 #[.slice (some ⟨g, 0, none⟩) n c, .slice (some ⟨g', 0, none⟩) n c'] w (SameI w) := by
  obtain ⟨K, _, h2⟩ := h
  have hr : ∀ q d, (q, xs) ∈ rs → Rd w (.slice (some ⟨q, 0, none⟩) n d) 1 n (xs.map (.int .i64)) := fun q d hq => ⟨_, d, rfl, by simp [hn], fun h => by simp at h, fun ad had j u hu => by
    obtain rfl := Option.some.inj had
    rw [List.getElem?_map, Option.map_eq_some_iff] at hu
    obtain ⟨y, hy, rfl⟩ := hu
    rw [Addr.add_lit, Nat.zero_add]
    exact (h2 _ hq).2 j y hy⟩
  refine (ints_any (hr g c hg) hn (hr g' c' hg') hn (by omega)).mono ?_
  rintro e w' ⟨he, hm⟩
  exact ⟨by rw [he]; simp, hm⟩

def OneS (w1 : World) (b : Nat) (L : List Ob) (v : Int) (e : Ending) (w' : World) : Prop := ∃ g c, e = .returned (.slice (some ⟨g, 0, none⟩) 1 c) ∧ Hid (SS w1 w' b L [(g, [v])])

theorem SS.one (h : SS w1 w b L []) {v : Int} (hv : I64 v) {g : Nat} (hg : g = w.heap.size) : Calls Try.prog 16 #[.slice (some ⟨g, 0, none⟩) 1 1, .slice none 0 0] (w.alloc (.cells #[.int .i64 v] 3)) (OneS w1 b L v) := by
  subst hg
  refine (values_any (xs := [v]) (told := []) (Rd.lit w #[.int .i64 v] 3 rfl rfl 1) rfl (Rd.nil _) rfl (by simp) (by decide) (by intro x hx; simp at hx; subst hx; exact hv)).mono ?_
  rintro e w' ⟨A, c, he, hown, hu⟩
  have hvl : valuesL [v] [] = [v] := by simp [valuesL, valW]
  rw [hvl] at he hown
  obtain ⟨g, hg⟩ := own_some hown (by simp)
  obtain ⟨A', c', hv, _, _, _, _, hA⟩ := own_form hown
  obtain ⟨hA', hlo, hlt, _, hc⟩ := hA g hg
  injection hv with hv1
  rw [hA'] at hv1
  subst hv1
  refine ⟨g, c, he, h.push ((Upd.alloc _ _ _).trans hu) (by simp at hlo; omega) hlt fun j u hj => hc j _ (by rw [List.getElem?_map, hj]; rfl)⟩
end

theorem bits_andNot1 (v : Int) : I64 (bits BinOp.andNot IntKind.i64 v 1) ∧ bits BinOp.andNot IntKind.i64 v 1 % 2 = 0 := by
  have h1 : bits BinOp.andNot IntKind.i64 v 1 = IntKind.i64.wrap ((BitVec.ofInt 64 v &&& ~~~ BitVec.ofInt 64 1).toNat : Int) := rfl
  have h2 : (BitVec.ofInt 64 v &&& ~~~ BitVec.ofInt 64 1).toNat % 2 = 0 := by
    rw [BitVec.toNat_and]
    have : (~~~ BitVec.ofInt 64 1).toNat = 18446744073709551614 := by decide
    rw [this, Nat.and_comm]
    have h := Nat.testBit_and 18446744073709551614 (BitVec.ofInt 64 v).toNat 0
    have h' : Nat.testBit (18446744073709551614 &&& (BitVec.ofInt 64 v).toNat) 0 = false := by rw [h]; rfl
    rw [Nat.testBit_zero] at h'
    have := of_decide_eq_false h'
    omega
  rw [h1]
  generalize (BitVec.ofInt 64 v &&& ~~~ BitVec.ofInt 64 1).toNat = m at h2
  rw [IntKind.wrap_i64]
  refine ⟨⟨?_, ?_⟩, ?_⟩ <;> omega

end Go.Proofs.Ytkmfohocicngaaa
