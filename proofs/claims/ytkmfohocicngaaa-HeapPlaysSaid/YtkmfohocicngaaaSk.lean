/- The heap of a law beside other memory that the call keeps: the methods' contracts. -/
import Derived.Test.YtkmfohocicngaaaChainW
namespace Go.Proofs.Ytkmfohocicngaaa
open Go.RowKit

/-- In w, which has come of w0, block b holds a heap of its own, L its objects; it touches no block of K. -/
def Sk (w0 w : World) (b : Nat) (lim : Int) (L : List Ob) (K : Nat → Prop) : Prop :=
  ∃ F, HpL w w0.heap.size b lim L F ∧ (∀ k, F k → w0.heap.size ≤ k ∧ k < w.heap.size ∧ ¬ K k) ∧ Below w0.heap.size w0 w ∧ (∀ k, K k → k < w.heap.size)

section
variable {w0 w w1 : World} {b : Nat} {lim : Int} {L : List Ob} {K : Nat → Prop}

theorem Sk.below (h : Sk w0 w b lim L K) : Below w0.heap.size w0 w := by obtain ⟨_, _, _, h, _⟩ := h; exact h

theorem Sk.of_st (h : St w0 w b lim L) : Sk w0 w b lim L (fun _ => False) := by
  obtain ⟨F, h1, h2, h3⟩ := h
  exact ⟨F, h1, fun k hk => ⟨(h2 k hk).1, (h2 k hk).2, fun h => h⟩, h3, fun _ h => h.elim⟩

theorem Sk.weak (h : Sk w0 w b lim L K) {K' : Nat → Prop} (hK : ∀ k, K' k → K k) : Sk w0 w b lim L K' := by
  obtain ⟨F, h1, h2, h3, h4⟩ := h
  exact ⟨F, h1, fun k hk => ⟨(h2 k hk).1, (h2 k hk).2.1, fun h => (h2 k hk).2.2 (hK k h)⟩, h3, fun k hk => h4 k (hK k hk)⟩

/-- Memory beside the heap turns; what is new is kept from then on. -/
theorem Sk.other (h : Sk w0 w b lim L K) {S : Nat → Prop} (hu : Upd S w w1) (hS : ∀ k, S k → K k) (hlo : ∀ k, S k → w0.heap.size ≤ k) : Sk w0 w1 b lim L (fun k => K k ∨ (w.heap.size ≤ k ∧ k < w1.heap.size)) := by
  obtain ⟨F, h1, h2, h3, h4⟩ := h
  have hs := hu.size
  refine ⟨F, h1.keep hu (fun k hk hSk => (h2 k hk).2.2 (hS k hSk)), fun k hk => ⟨(h2 k hk).1, by have := (h2 k hk).2.1; omega, fun h => ?_⟩, Below.upd h3 hu hlo, fun k hk => ?_⟩
  · rcases h with h | h
    · exact (h2 k hk).2.2 h
    · have := (h2 k hk).2.1; omega
  · rcases hk with hk | hk
    · have := h4 k hk; omega
    · exact hk.2

theorem Sk.keep (h : Sk w0 w b lim L K) (hu : Upd (fun _ => False) w w1) : Sk w0 w1 b lim L K :=
  (h.other hu (fun _ h => h.elim) (fun _ h => h.elim)).weak fun _ h => .inl h

theorem Sk.wf (h : Sk w0 w b lim L K) : WfL L ∧ 0 ≤ lim ∧ lim ≤ 4194304 ∧ (total L : Int) ≤ lim := by
  obtain ⟨F, ⟨vw, vb, h1, h2, _⟩, _⟩ := h
  exact ⟨h2, h1.l0, h1.l1, h1.len⟩

theorem Sk.i64 (h : Sk w0 w b lim L K) {v : Int} {o : Ob} (ho : objL L v = some o) : I64 v := by
  obtain ⟨_, _, h1, h2⟩ := h.wf
  exact objL_i64 ho (by omega)

/-- What a method leaves: the heap, and what is kept as it was. -/
def Left (w0 w : World) (b : Nat) (lim : Int) (L : List Ob) (K : Nat → Prop) (w' : World) : Prop := Sk w0 w' b lim L K ∧ Upd (fun k => ¬ K k ∧ w0.heap.size ≤ k) w w'

theorem Sk.left (h : Sk w0 w b lim L K) : Left w0 w b lim L K w := ⟨h, Upd.refl _ _⟩

theorem Left.trans {L' : List Ob} {w2 : World} (hu : Upd (fun k => ¬ K k ∧ w0.heap.size ≤ k) w w1) (h2 : Left w0 w1 b lim L' K w2) : Left w0 w b lim L' K w2 :=
  ⟨h2.1, hu.trans h2.2⟩

def AllocSk (w0 w : World) (b : Nat) (lim : Int) (K : Nat → Prop) (r : Int × Int × List Ob) (e : Ending) (w' : World) : Prop :=
  e = .returned (.tuple #[.int .i64 r.1, .int .i64 r.2.1]) ∧ Left w0 w b lim r.2.2 K w'

theorem Sk.alloc (h : Sk w0 w b lim L K) (hu : Upd (fun _ => False) w w1) (kind : Int) (A : Option Addr) (n c : Nat) (xs : List Int) (hx : Rd w1 (.slice A n c) 1 n (xs.map (.int .i64))) (hnx : n = xs.length)
    (hA : ∀ k, (Value.slice A n c).ownBlock = some k → K k ∨ k < w0.heap.size ∨ w.heap.size ≤ k) (hl : n ≤ 9223372036854775806) (hi : ∀ x ∈ xs, I64 x) :
    Calls Try.prog 11 #[.pointer (some ⟨b, 0, none⟩), .int .i64 kind, .slice A n c] w1 (AllocSk w0 w b lim K (allocRes lim L kind xs)) := by
  obtain ⟨F, h1, h2, h3, h4⟩ := h
  refine (alloc_any (h1.keep hu (fun _ _ h => h)) kind A n c xs hx hnx (fun k hk hF => ?_) hl hi).mono ?_
  · have := h2 k hF
    rcases hA k hk with h | h | h
    · exact this.2.2 h
    · omega
    · omega
  · rintro e w' ⟨he, g1, g2⟩
    have hs := hu.size
    have hs2 := g2.size
    have hs3 := h3.size
    refine ⟨he, ⟨_, g1.tight, fun k hk => ?_, Below.upd (Below.upd h3 hu fun _ h => h.elim) g2 fun k hk => (h2 k hk).1, fun k hk => by have := h4 k hk; omega⟩, (hu.mono fun _ _ h => h.elim).trans (g2.mono fun k _ hk => ⟨(h2 k hk).2.2, (h2 k hk).1⟩)⟩
    obtain ⟨hk1, hk2⟩ := hk
    rcases hk1 with hk1 | hk1
    · exact ⟨(h2 k hk1).1, hk2, (h2 k hk1).2.2⟩
    · exact ⟨by omega, hk2, fun h => by have := h4 k h; omega⟩

theorem Sk.used (h : Sk w0 w b lim L K) : Calls Try.prog 12 #[.pointer (some ⟨b, 0, none⟩)] w fun e w' => e = .returned (.int .i64 (total L)) ∧ w = w' := by
  obtain ⟨F, h1, _⟩ := h
  exact used_any h1

theorem Sk.kind (h : Sk w0 w b lim L K) (p : Int) (hp : I64 p) : Calls Try.prog 24 #[.pointer (some ⟨b, 0, none⟩), .int .i64 p] w fun e w' => e = .returned (.tuple #[.int .i64 (kindL L p).1, .int .i64 (kindL L p).2]) ∧ w = w' := by
  obtain ⟨F, h1, _⟩ := h
  exact kind_any h1 p hp

def SetSk (w0 w : World) (b : Nat) (lim : Int) (L : List Ob) (K : Nat → Prop) (r : Option (List Ob)) (e : Ending) (w' : World) : Prop :=
  match r with
  | none => e = .returned (.int .i64 1) ∧ w = w'
  | some L' => e = .returned (.int .i64 0) ∧ Left w0 w b lim L' K w'

theorem Sk.set (h : Sk w0 w b lim L K) (p i v : Int) (hp : I64 p) (hv : I64 v) : Calls Try.prog 17 #[.pointer (some ⟨b, 0, none⟩), .int .i64 p, .int .i64 i, .int .i64 v] w (SetSk w0 w b lim L K (setRes L p i v)) := by
  obtain ⟨F, h1, h2, h3, h4⟩ := h
  refine (set_any h1 p i v hp hv).mono ?_
  intro e w' hh
  cases hr : setRes L p i v with
  | none => rw [hr] at hh; exact hh
  | some L' =>
    rw [hr] at hh
    obtain ⟨he, g1, g2⟩ := hh
    have hs := g2.size
    exact ⟨he, ⟨F, g1, fun k hk => ⟨(h2 k hk).1, by have := (h2 k hk).2.1; omega, (h2 k hk).2.2⟩, Below.upd h3 g2 fun k hk => (h2 k hk).1, fun k hk => by have := h4 k hk; omega⟩, g2.mono fun k _ hk => ⟨(h2 k hk).2.2, (h2 k hk).1⟩⟩

/-- What Fields leaves: nothing turns; new memory reads as the fields. -/
def FieldsSk (w : World) (r : Option (List Int)) (e : Ending) (w' : World) : Prop :=
  match r with
  | none => e = .returned (.tuple #[.slice none 0 0, .int .i64 1]) ∧ w = w'
  | some xs => ∃ g c, e = .returned (.tuple #[.slice (some ⟨g, 0, none⟩) xs.length c, .int .i64 0]) ∧ xs.length ≤ c ∧ w.heap.size ≤ g ∧ w'.ownsRow w.heap.size 3 1 (.slice (some ⟨g, 0, none⟩) xs.length c) xs.length (xs.map (.int .i64)) ∧ Upd (fun _ => False) w w'

theorem Sk.fields (h : Sk w0 w b lim L K) (p : Int) (hp : I64 p) : Calls Try.prog 14 #[.pointer (some ⟨b, 0, none⟩), .int .i64 p] w (FieldsSk w (fieldsL L p)) := by
  obtain ⟨F, h1, h2⟩ := h
  refine (fields_made h1 p hp).mono fun e w' hh => ?_
  cases hr : fieldsL L p with
  | none => rw [hr] at hh; exact hh
  | some xs =>
    rw [hr] at hh
    obtain ⟨v, he, hne, ho, hb⟩ := hh
    obtain ⟨A, c, hv, hnc, _, _, _, hA⟩ := own_form ho
    obtain ⟨g, hg⟩ : ∃ g, v.ownBlock = some g := Option.ne_none_iff_exists'.1 hne
    obtain ⟨rfl, hlo, _, _, _⟩ := hA g hg
    subst hv
    exact ⟨g, c, he, hnc, hlo, ho, Upd.of_below hb⟩

def CollSk (w0 w : World) (b : Nat) (lim : Int) (K : Nat → Prop) (r : Option (List Ob × List Int)) (L : List Ob) (e : Ending) (w' : World) : Prop :=
  match r with
  | none => e = .returned (.tuple #[.slice none 0 0, .int .i64 1]) ∧ Left w0 w b lim L K w'
  | some (L', os) => ∃ A c, e = .returned (.tuple #[.slice A os.length c, .int .i64 0]) ∧ w'.ownsRow w.heap.size 3 1 (.slice A os.length c) os.length (os.map (.int .i64)) ∧
      Left w0 w b lim L' K w' ∧ Sk w0 w' b lim L' (fun k => K k ∨ (Value.slice A os.length c).ownBlock = some k)

theorem Sk.collect (h : Sk w0 w b lim L K) (A : Option Addr) (n c : Nat) (xs : List Int) (hx : Rd w (.slice A n c) 1 n (xs.map (.int .i64))) (hnx : n = xs.length) (hl : n ≤ 17592186043904) (hi : ∀ x ∈ xs, I64 x) :
    Calls Try.prog 13 #[.pointer (some ⟨b, 0, none⟩), .slice A n c] w (CollSk w0 w b lim K (collRes L xs) L) := by
  have hk := h
  obtain ⟨F, h1, h2, h3, h4⟩ := h
  refine (collect_any h1 (fun k hk => (h2 k hk).2.1) A n c xs hx hnx hl hi).mono ?_
  intro e w' hp
  cases hr : collRes L xs with
  | none =>
    rw [hr] at hp
    obtain ⟨he, hu⟩ := hp
    exact ⟨he, hk.keep hu, hu.mono fun _ _ h => h.elim⟩
  | some r =>
    rw [hr] at hp
    obtain ⟨v, F', he, ho, g1, g2, g3, g4⟩ := hp
    have hs := g4.size
    have h3s := h3.size
    obtain ⟨A', c', hv, _⟩ := own_form ho
    subst hv
    have hF' : ∀ k, F' k ∧ k < w'.heap.size → w0.heap.size ≤ k ∧ k < w'.heap.size ∧ ¬ K k := by
      rintro k ⟨hk1, hk2⟩
      rcases g2 k hk1 with h | h
      · exact ⟨(h2 k h).1, hk2, (h2 k h).2.2⟩
      · exact ⟨by omega, hk2, fun h => by have := h4 k h; omega⟩
    have hU : Upd (fun k => ¬ K k ∧ w0.heap.size ≤ k) w w' := g4.mono fun k _ hk => ⟨(h2 k hk).2.2, (h2 k hk).1⟩
    have hB : Below w0.heap.size w0 w' := Below.upd h3 g4 fun k hk => (h2 k hk).1
    refine ⟨A', c', he, ho, ⟨⟨_, g1.tight, hF', hB, fun k hk => by have := h4 k hk; omega⟩, hU⟩, ⟨_, g1.tight, fun k hk => ?_, hB, fun k hk => ?_⟩⟩
    · obtain ⟨a1, a2, a3⟩ := hF' k hk
      exact ⟨a1, a2, fun h => h.elim a3 (fun h => g3 k h hk.1)⟩
    · rcases hk with hk | hk
      · have := h4 k hk; omega
      · exact own_lt ho hk

theorem Sk.new (hw : Below w0.heap.size w0 w) {n : Int} (h0 : 0 ≤ n) (h1 : n ≤ 4194304) (K : Nat → Prop) (hK : ∀ k, K k → k < w.heap.size) : Sk w0 (w.alloc (.cells #[.slice none 0 0, .slice none 0 0, .int .i64 n, .bool true] 58)) w.heap.size n [] K :=
  ⟨fun k => k = w.heap.size, HpL.new w _ n hw.size h0 h1 _ rfl, fun k hk => by subst hk; exact ⟨hw.size, by simp, fun h => by have := hK _ h; omega⟩, hw.alloc hw.size _, fun k hk => by have := hK k hk; simp; omega⟩

/-- A slice of the call's own that is kept. -/
theorem own_left {L' : List Ob} {w' : World} (h : Left w0 w b lim L' K w') {B e size n : Nat} {v : Value} {xs : List Value} (ho : w.ownsRow B e size v n xs) (hK : ∀ k, v.ownBlock = some k → K k) : w'.ownsRow B e size v n xs :=
  h.2.own ho fun k hk h' => h'.1 (hK k hk)
end
end Go.Proofs.Ytkmfohocicngaaa
