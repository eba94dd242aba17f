/- HeapKeeps: contracts over a heap and slices beside it. -/
import Derived.Test.YtkmfohocicngaaaShapeX
namespace Go.Proofs.Ytkmfohocicngaaa
open Go.RowKit

theorem mem0 {α : Type} {a : α} {l : List α} : a ∈ a :: l := List.mem_cons_self ..
theorem mem1 {α : Type} {a b : α} {l : List α} : a ∈ b :: a :: l := List.mem_cons_of_mem _ mem0
theorem mem2 {α : Type} {a b c : α} {l : List α} : a ∈ b :: c :: a :: l := List.mem_cons_of_mem _ mem1
theorem mem3 {α : Type} {a b c d : α} {l : List α} : a ∈ b :: c :: d :: a :: l := List.mem_cons_of_mem _ mem2
theorem mem4 {α : Type} {a b c d e : α} {l : List α} : a ∈ b :: c :: d :: e :: a :: l := List.mem_cons_of_mem _ mem3

abbrev RowK := Option Addr × Nat × Nat × List Int

/-- A heap, and slices of whole numbers that it does not touch. -/
def KS (w1 w : World) (b : Nat) (L : List Ob) (rs : List RowK) : Prop :=
  ∃ K, Sk w1 w b 4000 L K ∧ ∀ r ∈ rs, Rd w (.slice r.1 r.2.1 r.2.2.1) 1 r.2.1 (r.2.2.2.map (.int .i64)) ∧ ∀ k, (Value.slice r.1 r.2.1 r.2.2.1).ownBlock = some k → K k

section
variable {w1 w w' : World} {b : Nat} {L : List Ob} {rs : List RowK}

theorem KS.keep (h : KS w1 w b L rs) (hu : Upd (fun _ => False) w w') : KS w1 w' b L rs := by
  obtain ⟨K, h1, h2⟩ := h
  exact ⟨K, h1.keep hu, fun r hr => ⟨(h2 r hr).1.keep hu fun _ _ h => h, (h2 r hr).2⟩⟩

theorem KS.of_bst {k c1 : Nat} {A1 : Option Addr} {ps : List Int} (h : BSt w1 w b L k A1 c1 ps) : KS w1 w b L [(A1, k, c1, ps)] :=
  ⟨_, h.1, fun r hr => by obtain rfl : r = _ := List.mem_singleton.1 hr; exact ⟨Rd.of_own h.2.1, fun k hk => hk⟩⟩

theorem KS.push (h : KS w1 w b L rs) (hu : Upd (fun _ => False) w w') {A : Option Addr} {n c : Nat} {xs : List Int} (ho : w'.ownsRow w.heap.size 3 1 (.slice A n c) n (xs.map (.int .i64))) : KS w1 w' b L ((A, n, c, xs) :: rs) := by
  obtain ⟨K, h1, h2⟩ := h
  refine ⟨_, h1.other hu (fun _ h => h.elim) (fun _ h => h.elim), fun r hr => ?_⟩
  rcases List.mem_cons.1 hr with rfl | hr
  · exact ⟨Rd.of_own ho, fun k hk => .inr ⟨own_lo ho hk, own_lt ho hk⟩⟩
  · exact ⟨(h2 r hr).1.keep hu fun _ _ h => h, fun k hk => .inl ((h2 r hr).2 k hk)⟩

theorem KS.wf (h : KS w1 w b L rs) : WfL L ∧ total L ≤ 4000 := by
  obtain ⟨K, h1, _⟩ := h
  exact ⟨h1.wf.1, by have := h1.wf.2.2.2; omega⟩

def ValK (w1 : World) (b : Nat) (L : List Ob) (rs : List RowK) (ys : List Int) (m : Nat) (e : Ending) (w' : World) : Prop := ∃ A c, e = .returned (.slice A m c) ∧ Hid (KS w1 w' b L ((A, m, c, ys) :: rs))

theorem KS.values (h : KS w1 w b L rs) {A A' : Option Addr} {n n' c c' : Nat} {xs told : List Int} (hr : (A', n', c', told) ∈ rs) (hn' : n' = told.length) (hl' : n' ≤ 30) (hx : Rd w (.slice A n c) 1 n (xs.map (.int .i64))) (hn : n = xs.length) (hl : n ≤ 40) (hi : ∀ x ∈ xs, I64 x) :
    Calls Try.prog 16 #[.slice A n c, .slice A' n' c'] w (ValK w1 b L rs (valuesL xs told) n) := by
  have ht := h
  obtain ⟨K, _, h2⟩ := ht
  refine (values_any (n' := n') hx hn (h2 _ hr).1 hn' (by omega) (by omega) hi).mono ?_
  rintro e w2 ⟨A2, c2, he, hown, hu⟩
  have hlen : (valuesL xs told).length = n := by simp [valuesL, ← hn]; omega
  rw [hlen] at he hown
  exact ⟨A2, c2, he, h.push hu hown⟩

def ShapeK (w1 : World) (b : Nat) (L : List Ob) (rs : List RowK) (X : List Int) (e : Ending) (w' : World) : Prop := ∃ A n c, e = .returned (.slice A n c) ∧ n = X.length ∧ n ≤ 10000000 ∧ Hid (KS w1 w' b L ((A, n, c, X) :: rs))

theorem KS.shape (h : KS w1 w b L rs) {A : Option Addr} {n c : Nat} {vs X : List Int} (hr : (A, n, c, vs) ∈ rs) (hn : n = vs.length) (hl : n ≤ 40) (hv : ∀ v ∈ vs, isP v = true → ∃ o, objL L v = some o) (hX : shapeL L vs = X) :
    Calls Try.prog 29 #[.pointer (some ⟨b, 0, none⟩), .slice A n c] w (ShapeK w1 b L rs X) := by
  subst hX
  have ht := h
  obtain ⟨K, h1, h2⟩ := ht
  refine (shape_any h1 (h2 _ hr).1 hn hl hv).mono ?_
  rintro e w2 ⟨A2, n2, c2, he, hn2, hl2, hh⟩
  exact ⟨A2, n2, c2, he, hn2, hl2, h.push hh.out.2 hh.out.1⟩

def CollK (w1 : World) (b : Nat) (L : List Ob) (rs : List RowK) (os : List Int) (n : Nat) (e : Ending) (w' : World) : Prop := ∃ A c, e = .returned (.tuple #[.slice A n c, .int .i64 0]) ∧ Hid (KS w1 w' b L ((A, n, c, os) :: rs))

theorem KS.collect (h : KS w1 w b L rs) {A : Option Addr} {n c : Nat} {vs os : List Int} {L' : List Ob} (hr : (A, n, c, vs) ∈ rs) (hn : n = vs.length) (hl : n ≤ 40) (hi : ∀ x ∈ vs, I64 x) (hc : collRes L vs = some (L', os)) (hos : n = os.length) :
    Calls Try.prog 13 #[.pointer (some ⟨b, 0, none⟩), .slice A n c] w (CollK w1 b L' rs os n) := by
  subst hos
  obtain ⟨K, h1, h2⟩ := h
  have hcc := h1.collect A os.length c vs (h2 _ hr).1 hn (by omega) hi
  rw [hc] at hcc
  refine hcc.mono ?_
  rintro e w2 ⟨A2, c2, he, hown, hleft, hsk⟩
  refine ⟨A2, c2, he, _, hsk, fun r hr => ?_⟩
  rcases List.mem_cons.1 hr with rfl | hr
  · exact ⟨Rd.of_own hown, fun k hk => .inr hk⟩
  · exact ⟨(h2 r hr).1.keep hleft.2 fun k hk h => h.1 ((h2 r hr).2 k hk), fun k hk => .inl ((h2 r hr).2 k hk)⟩

theorem KS.used (h : KS w1 w b L rs) : Calls Try.prog 12 #[.pointer (some ⟨b, 0, none⟩)] w fun e w' => e = .returned (.int .i64 (total L)) ∧ w = w' := by
  obtain ⟨K, h1, _⟩ := h
  exact h1.used

theorem KS.ints (h : KS w1 w b L rs) {A A' : Option Addr} {n n' c c' : Nat} {xs : List Int} (hr : (A, n, c, xs) ∈ rs) (hr' : (A', n', c', xs) ∈ rs) (hn : n = xs.length) (hn' : n' = xs.length) (hl : n ≤ 10000000) :
    Calls Try.prog 18 #[.slice A n c, .slice A' n' c'] w (SameI w) := by
  obtain ⟨K, _, h2⟩ := h
  refine (ints_any (n := n) (n' := n') (h2 _ hr).1 hn (h2 _ hr').1 hn' (by omega)).mono ?_
  rintro e w' ⟨he, hm⟩
  exact ⟨by rw [he]; simp, hm⟩

theorem KS.rd (h : KS w1 w b L rs) {A : Option Addr} {n c : Nat} {xs : List Int} (hr : (A, n, c, xs) ∈ rs) : Rd w (.slice A n c) 1 n (xs.map (.int .i64)) := by
  obtain ⟨K, _, h2⟩ := h
  exact (h2 _ hr).1

theorem KS.kind (h : KS w1 w b L rs) {p : Int} (hp : I64 p) : Calls Try.prog 24 #[.pointer (some ⟨b, 0, none⟩), .int .i64 p] w fun e w' => e = .returned (.tuple #[.int .i64 (kindL L p).1, .int .i64 (kindL L p).2]) ∧ w = w' := by
  obtain ⟨K, h1, _⟩ := h
  exact h1.kind p hp

theorem keeps_plain {L : List Ob} {vs : List Int} (hL : WfL L) (ht : total L ≤ 4000) (hi : ∀ v ∈ vs, I64 v) (hv : ∀ v ∈ vs, isP v = true → ∃ o, objL L v = some o) :
    ∃ L' os, collRes L vs = some (L', os) ∧ collRes L' os = some (L', os) ∧ shapeL L' os = shapeL L vs ∧ os.length = vs.length ∧ (∀ x ∈ os, I64 x) ∧ (∀ x ∈ os, isP x = true → ∃ o, objL L' x = some o) ∧ total L' ≤ total L := by
  have hr : ∀ v ∈ vs, rightL L v = true := fun v hm => by
    cases hp : isP v with
    | false => simp [rightL, hp]
    | true =>
      obtain ⟨o, ho⟩ := hv v hm hp
      have := @objL_some L v
      rw [ho, hp] at this
      simpa using this.symm
  have hw := collect_wf vs hL (by omega)
  obtain ⟨ho, hc⟩ := collect_out vs hr
  have hor : ∀ x ∈ (collectR L vs).2, I64 x ∧ rightL (collectR L vs).1 x = true := fun x hx => by
    rw [ho] at hx
    obtain ⟨v, hv, rfl⟩ := List.mem_map.1 hx
    exact fwd_right (L := L) (hi v hv) (hc v hv) (by have := hw.2; simp only [collectR] at this; omega) rfl
  refine ⟨(collectR L vs).1, (collectR L vs).2, collRes_right hr, ?_, collect_shape hL vs hr, by rw [ho, List.length_map], fun x hx => (hor x hx).1, fun x hx hp => right_obj (hor x hx).2 hp, hw.2⟩
  rw [collRes_right fun x hx => (hor x hx).2, collect_again hL vs hr]

theorem KS.end {w0 : World} (h : Below w0.heap.size w0 w1) (hs : KS w1 w b L rs) : Below w0.heap.size w0 w := by
  obtain ⟨K, hk, _⟩ := hs
  have h2 := hk.below
  exact ⟨h2.os.trans h.os, h2.tape.trans h.tape, h2.output.trans h.output, Nat.le_trans h.size h2.size, fun k hk => (h2.block k (Nat.lt_of_lt_of_le hk h.size)).trans (h.block k hk)⟩
end

end Go.Proofs.Ytkmfohocicngaaa
