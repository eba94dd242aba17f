/- HeapPlays: a heap and the reference's heap side by side, and slices beside them: what each call leaves. -/
import Derived.Test.YtkmfohocicngaaaRefD
namespace Go.Proofs.Ytkmfohocicngaaa
open Go.RowKit

/-- A heap with objects L, the reference's with objects M, and slices of whole numbers that neither touches. -/
def PK (w0 w : World) (b rb : Nat) (lim : Int) (L M : List Ob) (bx : Option (Nat × Array Value)) (rs : List RowK) : Prop :=
  ∃ K FR, Sk w0 w b lim L K ∧ RH w w0.heap.size rb lim M FR ∧ (∀ k, FR k → K k ∧ w0.heap.size ≤ k) ∧
    (∀ r ∈ rs, w.ownsRow w0.heap.size 3 1 (.slice r.1 r.2.1 r.2.2.1) r.2.1 (r.2.2.2.map (.int .i64)) ∧ ∀ k, (Value.slice r.1 r.2.1 r.2.2.1).ownBlock = some k → K k ∧ ¬ FR k) ∧
    ∀ g cs, bx = some (g, cs) → Blk w g 47 cs ∧ K g ∧ ¬ FR g

theorem RH.tight {w : World} {B b : Nat} {lim : Int} {L : List Ob} {F : Nat → Prop} (h : RH w B b lim L F) : RH w B b lim L (fun k => F k ∧ k < w.heap.size) := by
  obtain ⟨v, G, h1, h2, h3⟩ := h
  exact ⟨v, G, h1, ⟨h2, h1.blk.lt⟩, fun k hk => ⟨h3 k hk, (h1.ro.lt hk).2⟩⟩

section
variable {w0 w w1 : World} {b rb : Nat} {lim : Int} {L M : List Ob} {bx : Option (Nat × Array Value)} {rs : List RowK}

theorem PK.below (h : PK w0 w b rb lim L M bx rs) : Below w0.heap.size w0 w := by
  obtain ⟨K, FR, h1, _⟩ := h
  exact h1.below

theorem PK.wf (h : PK w0 w b rb lim L M bx rs) : WfL L ∧ 0 ≤ lim ∧ lim ≤ 4194304 ∧ (total L : Int) ≤ lim := by
  obtain ⟨K, FR, h1, _⟩ := h
  exact h1.wf

theorem PK.keep (h : PK w0 w b rb lim L M bx rs) (hu : Upd (fun _ => False) w w1) : PK w0 w1 b rb lim L M bx rs := by
  obtain ⟨K, FR, h1, h2, h3, h4, h5⟩ := h
  exact ⟨K, FR, h1.keep hu, h2.keep hu (fun _ _ h => h), h3, fun r hr => ⟨hu.own (h4 r hr).1 fun _ _ h => h, (h4 r hr).2⟩, fun g cs hg => ⟨hu.blk (h5 g cs hg).1 fun h => h, (h5 g cs hg).2⟩⟩

theorem PK.less (h : PK w0 w b rb lim L M bx rs) {rs' : List RowK} (hs : ∀ r ∈ rs', r ∈ rs) : PK w0 w b rb lim L M bx rs' := by
  obtain ⟨K, FR, h1, h2, h3, h4, h5⟩ := h
  exact ⟨K, FR, h1, h2, h3, fun r hr => h4 r (hs r hr), h5⟩

/-- A new slice is laid beside. -/
theorem PK.push (h : PK w0 w b rb lim L M bx rs) (hu : Upd (fun _ => False) w w1) {A : Option Addr} {n c : Nat} {xs : List Int} (ho : w1.ownsRow w.heap.size 3 1 (.slice A n c) n (xs.map (.int .i64))) : PK w0 w1 b rb lim L M bx ((A, n, c, xs) :: rs) := by
  obtain ⟨K, FR, h1, h2, h3, h4, h5⟩ := h
  have hKs : ∀ k, K k → k < w.heap.size := by obtain ⟨_, _, _, _, h⟩ := h1; exact h
  have hs := h1.below.size
  refine ⟨_, FR, h1.other hu (fun _ h => h.elim) (fun _ h => h.elim), h2.keep hu (fun _ _ h => h), fun k hk => ⟨.inl (h3 k hk).1, (h3 k hk).2⟩, fun r hr => ?_, fun g cs hg => ⟨hu.blk (h5 g cs hg).1 (fun h => h), .inl (h5 g cs hg).2.1, (h5 g cs hg).2.2⟩⟩
  rcases List.mem_cons.1 hr with rfl | hr
  · refine ⟨own_base ho hs, fun k hk => ⟨.inr ⟨own_lo ho hk, own_lt ho hk⟩, fun hF => ?_⟩⟩
    have := own_lo ho hk
    have := hKs k (h3 k hF).1
    omega
  · exact ⟨hu.own (h4 r hr).1 (fun _ _ h => h), fun k hk => ⟨.inl ((h4 r hr).2 k hk).1, ((h4 r hr).2 k hk).2⟩⟩

theorem PK.rd (h : PK w0 w b rb lim L M bx rs) {A : Option Addr} {n c : Nat} {xs : List Int} (hr : (A, n, c, xs) ∈ rs) : Rd w (.slice A n c) 1 n (xs.map (.int .i64)) := by
  obtain ⟨K, FR, _, _, _, h4, _⟩ := h
  exact Rd.of_own (h4 _ hr).1

theorem PK.own (h : PK w0 w b rb lim L M bx rs) {A : Option Addr} {n c : Nat} {xs : List Int} (hr : (A, n, c, xs) ∈ rs) : w.ownsRow w0.heap.size 3 1 (.slice A n c) n (xs.map (.int .i64)) := by
  obtain ⟨K, FR, _, _, _, h4, _⟩ := h
  exact (h4 _ hr).1

def ValPK (w0 : World) (b rb : Nat) (lim : Int) (L M : List Ob) (bx : Option (Nat × Array Value)) (rs : List RowK) (ys : List Int) (e : Ending) (w' : World) : Prop := ∃ A n c, e = .returned (.slice A n c) ∧ n = ys.length ∧ Hid (PK w0 w' b rb lim L M bx ((A, n, c, ys) :: rs))

theorem PK.values (h : PK w0 w b rb lim L M bx rs) {A A' : Option Addr} {n n' c c' : Nat} {xs told : List Int} (hr : (A', n', c', told) ∈ rs) (hn' : n' = told.length) (hl' : n' ≤ 1000) (hx : Rd w (.slice A n c) 1 n (xs.map (.int .i64))) (hn : n = xs.length) (hl : n ≤ 9223372036854775807) (hi : ∀ x ∈ xs, I64 x) :
    Calls Try.prog 16 #[.slice A n c, .slice A' n' c'] w (ValPK w0 b rb lim L M bx rs (valuesL xs told)) := by
  refine (values_any (n' := n') hx hn (h.rd hr) hn' (by omega) (by omega) hi).mono ?_
  rintro e w2 ⟨A2, c2, he, hown, hu⟩
  exact ⟨A2, _, c2, he, rfl, h.push hu hown⟩

def OnePK (w0 : World) (b rb : Nat) (lim : Int) (L M : List Ob) (bx : Option (Nat × Array Value)) (rs : List RowK) (p : Int) (e : Ending) (w' : World) : Prop := e = .returned (.int .i64 p) ∧ Hid (PK w0 w' b rb lim L M bx rs)

set_option maxHeartbeats 400000 in
theorem PK.one (h : PK w0 w b rb lim L M bx rs) {A' : Option Addr} {n' c' : Nat} {x : Int} {told : List Int} (hr : (A', n', c', told) ∈ rs) (hn' : n' = told.length) (hl' : n' ≤ 1000) (hx : I64 x) :
    Calls Try.prog 21 #[.int .i64 x, .slice A' n' c'] w (OnePK w0 b rb lim L M bx rs (valW told x)) := by
  have hu := Upd.alloc (fun _ => False) w (.cells #[.int .i64 x] 3)
  have HV := hide ((h.keep hu).values (A := some ⟨w.heap.size, 0, none⟩) (n := 1) (c := 1) (xs := [x]) hr hn' hl' (Rd.new1 w (.int .i64 x) 3 rfl) rfl (by decide) (by simpa using hx))
  rw [show valuesL [x] told = [valW told x] by simp [valuesL]] at HV
  generalize valW told x = p at HV ⊢
  clear h hr hn' hx hu
  go_enter Try.func21, Try.ntmps21
  go_wp2_with fail
  refine HV.out.mono ?_
  rintro e w2 ⟨A, n, c, rfl, rfl, HP⟩
  obtain ⟨A1, c1, hv1, _, _, _, _, hA⟩ := own_form (HP.out.own (xs := [p]) mem0)
  obtain ⟨g, hg⟩ := own_some (HP.out.own (xs := [p]) mem0) (by simp)
  obtain ⟨hAg, _, _, _, hc⟩ := hA g hg
  have hc0 := hc 0 (.int .i64 p) rfl
  injection hv1 with hv1
  rw [← hv1] at hAg
  subst hAg
  have HP2 := hide (HP.out.less fun r hr => List.mem_cons_of_mem _ hr)
  clear HP HV hA hc hg hv1
  simp only [List.length_cons, List.length_nil]
  go_wp2_with fail
  go_ret
  exact ⟨rfl, HP2.out⟩

def AllocPK (w0 : World) (b rb : Nat) (lim : Int) (M : List Ob) (bx : Option (Nat × Array Value)) (rs : List RowK) (r : Int × Int × List Ob) (e : Ending) (w' : World) : Prop :=
  e = .returned (.tuple #[.int .i64 r.1, .int .i64 r.2.1]) ∧ Hid (PK w0 w' b rb lim r.2.2 M bx rs)

theorem PK.left {L' : List Ob} (h : PK w0 w b rb lim L M bx rs) (hl : ∀ K, Sk w0 w b lim L K → Left w0 w b lim L' K w1) : PK w0 w1 b rb lim L' M bx rs := by
  obtain ⟨K, FR, h1, h2, h3, h4, h5⟩ := h
  obtain ⟨g1, g2⟩ := hl K h1
  exact ⟨K, FR, g1, h2.keep g2 (fun k hk h => h.1 (h3 k hk).1), h3, fun r hr => ⟨g2.own (h4 r hr).1 (fun k hk h => h.1 ((h4 r hr).2 k hk).1), (h4 r hr).2⟩, fun g cs hg => ⟨g2.blk (h5 g cs hg).1 (fun h => h.1 (h5 g cs hg).2.1), (h5 g cs hg).2⟩⟩

theorem PK.alloc (h : PK w0 w b rb lim L M bx rs) (kind : Int) {A : Option Addr} {n c : Nat} {xs : List Int} (hr : (A, n, c, xs) ∈ rs) (hnx : n = xs.length) (hl : n ≤ 1000) (hi : ∀ x ∈ xs, I64 x) :
    Calls Try.prog 11 #[.pointer (some ⟨b, 0, none⟩), .int .i64 kind, .slice A n c] w (AllocPK w0 b rb lim M bx rs (allocRes lim L kind xs)) := by
  have hh := h
  obtain ⟨K, FR, h1, h2, h3, h4, h5⟩ := h
  refine (h1.alloc (Upd.refl _ _) kind A n c xs (Rd.of_own (h4 _ hr).1) hnx (fun k hk => .inl ((h4 _ hr).2 k hk).1) (by omega) hi).mono ?_
  rintro e w' ⟨he, g1, g2⟩
  exact ⟨he, K, FR, g1, h2.keep g2 (fun k hk h => h.1 (h3 k hk).1), h3, fun r hr => ⟨g2.own (h4 r hr).1 (fun k hk h => h.1 ((h4 r hr).2 k hk).1), (h4 r hr).2⟩, fun g cs hg => ⟨g2.blk (h5 g cs hg).1 (fun h => h.1 (h5 g cs hg).2.1), (h5 g cs hg).2⟩⟩

/-- The reference's heap turned. -/
theorem PK.right {M' : List Ob} {FR F' : Nat → Prop} {K : Nat → Prop} (h1 : Sk w0 w b lim L K) (h3 : ∀ k, FR k → K k ∧ w0.heap.size ≤ k)
    (h4 : ∀ r ∈ rs, w.ownsRow w0.heap.size 3 1 (.slice r.1 r.2.1 r.2.2.1) r.2.1 (r.2.2.2.map (.int .i64)) ∧ ∀ k, (Value.slice r.1 r.2.1 r.2.2.1).ownBlock = some k → K k ∧ ¬ FR k) (h5 : ∀ g cs, bx = some (g, cs) → Blk w g 47 cs ∧ K g ∧ ¬ FR g)
    (hu : Upd FR w w1) (hR : RH w1 w0.heap.size rb lim M' F') (hF : ∀ k, F' k → (FR k ∨ w.heap.size ≤ k) ∧ k < w1.heap.size) : PK w0 w1 b rb lim L M' bx rs := by
  have hKs : ∀ k, K k → k < w.heap.size := by obtain ⟨_, _, _, _, h⟩ := h1; exact h
  have hs := h1.below.size
  refine ⟨_, F', h1.other hu (fun k hk => (h3 k hk).1) (fun k hk => (h3 k hk).2), hR, fun k hk => ?_, fun r hr => ⟨hu.own (h4 r hr).1 (fun k hk => ((h4 r hr).2 k hk).2), fun k hk => ⟨.inl ((h4 r hr).2 k hk).1, fun hF' => ?_⟩⟩, fun g cs hg => ⟨hu.blk (h5 g cs hg).1 (h5 g cs hg).2.2, .inl (h5 g cs hg).2.1, fun hF' => ?_⟩⟩
  · obtain ⟨ha, hb⟩ := hF k hk
    rcases ha with ha | ha
    · exact ⟨.inl (h3 k ha).1, (h3 k ha).2⟩
    · exact ⟨.inr ⟨ha, hb⟩, by omega⟩
  · obtain ⟨ha, hb⟩ := hF k hF'
    rcases ha with ha | ha
    · exact ((h4 r hr).2 k hk).2 ha
    · have := hKs k ((h4 r hr).2 k hk).1; omega
  · obtain ⟨ha, hb⟩ := hF g hF'
    rcases ha with ha | ha
    · exact (h5 g cs hg).2.2 ha
    · have := hKs g (h5 g cs hg).2.1; omega

def RAllocPK (w0 : World) (b rb : Nat) (lim : Int) (L : List Ob) (bx : Option (Nat × Array Value)) (rs : List RowK) (r : Int × Int × List Ob) (e : Ending) (w' : World) : Prop :=
  e = .returned (.tuple #[.int .i64 r.1, .int .i64 r.2.1]) ∧ Hid (PK w0 w' b rb lim L r.2.2 bx rs)

theorem PK.ralloc (h : PK w0 w b rb lim L M bx rs) (kind : Int) {A : Option Addr} {n c : Nat} {xs : List Int} (hr : (A, n, c, xs) ∈ rs) (hnx : n = xs.length) (hi : ∀ x ∈ xs, I64 x) :
    Calls Try.prog 20 #[.pointer (some ⟨rb, 0, none⟩), .int .i64 kind, .slice A n c] w (RAllocPK w0 b rb lim L bx rs (allocRes lim M kind xs)) := by
  obtain ⟨K, FR, h1, h2, h3, h4, h5⟩ := h
  refine (ralloc_any h2 kind A n c xs (Rd.of_own (h4 _ hr).1) hnx hi).mono ?_
  rintro e w' ⟨he, g1, g2⟩
  exact ⟨he, PK.right h1 h3 h4 h5 g2 g1.tight fun k hk => hk⟩

def SetPK (w0 : World) (b rb : Nat) (lim : Int) (L M : List Ob) (bx : Option (Nat × Array Value)) (rs : List RowK) (r : Option (List Ob)) (e : Ending) (w' : World) : Prop :=
  e = .returned (.int .i64 (if r = none then 1 else 0)) ∧ Hid (PK w0 w' b rb lim (r.getD L) M bx rs)

theorem PK.set (h : PK w0 w b rb lim L M bx rs) (p i v : Int) (hp : I64 p) (hv : I64 v) :
    Calls Try.prog 17 #[.pointer (some ⟨b, 0, none⟩), .int .i64 p, .int .i64 i, .int .i64 v] w (SetPK w0 b rb lim L M bx rs (setRes L p i v)) := by
  have hh := h
  obtain ⟨K, FR, h1, h2, h3, h4, h5⟩ := h
  refine (h1.set p i v hp hv).mono ?_
  intro e w' hs
  cases hr : setRes L p i v with
  | none =>
    rw [hr] at hs
    obtain ⟨he, rfl⟩ := hs
    exact ⟨he, hh⟩
  | some L' =>
    rw [hr] at hs
    obtain ⟨he, g1, g2⟩ := hs
    exact ⟨he, K, FR, g1, h2.keep g2 (fun k hk h => h.1 (h3 k hk).1), h3, fun r hr => ⟨g2.own (h4 r hr).1 (fun k hk h => h.1 ((h4 r hr).2 k hk).1), (h4 r hr).2⟩, fun g cs hg => ⟨g2.blk (h5 g cs hg).1 (fun h => h.1 (h5 g cs hg).2.1), (h5 g cs hg).2⟩⟩

def RSetPK (w0 : World) (b rb : Nat) (lim : Int) (L M : List Ob) (bx : Option (Nat × Array Value)) (rs : List RowK) (r : Option (List Ob)) (e : Ending) (w' : World) : Prop :=
  e = .returned (.int .i64 (if r = none then 1 else 0)) ∧ Hid (PK w0 w' b rb lim L (r.getD M) bx rs)

theorem PK.rset (h : PK w0 w b rb lim L M bx rs) (p i v : Int) (hv : I64 v) :
    Calls Try.prog 22 #[.pointer (some ⟨rb, 0, none⟩), .int .i64 p, .int .i64 i, .int .i64 v] w (RSetPK w0 b rb lim L M bx rs (setRes M p i v)) := by
  have hh := h
  obtain ⟨K, FR, h1, h2, h3, h4, h5⟩ := h
  refine (rset_any h2 p i v hv).mono ?_
  intro e w' hs
  cases hr : setRes M p i v with
  | none =>
    rw [hr] at hs
    obtain ⟨he, rfl⟩ := hs
    exact ⟨he, hh⟩
  | some L' =>
    rw [hr] at hs
    obtain ⟨he, g1, g2⟩ := hs
    exact ⟨he, PK.right h1 h3 h4 h5 g2 g1.tight fun k hk => ⟨.inl hk.1, hk.2⟩⟩

theorem PK.kind (h : PK w0 w b rb lim L M bx rs) (p : Int) (hp : I64 p) : Calls Try.prog 24 #[.pointer (some ⟨b, 0, none⟩), .int .i64 p] w fun e w' => e = .returned (.tuple #[.int .i64 (kindL L p).1, .int .i64 (kindL L p).2]) ∧ w = w' := by
  obtain ⟨K, FR, h1, _⟩ := h
  exact h1.kind p hp

theorem PK.rkind (h : PK w0 w b rb lim L M bx rs) (p : Int) : Calls Try.prog 25 #[.pointer (some ⟨rb, 0, none⟩), .int .i64 p] w fun e w' => e = .returned (.tuple #[.int .i64 (kindL M p).1, .int .i64 (kindL M p).2]) ∧ w = w' := by
  obtain ⟨K, FR, _, h2, _⟩ := h
  obtain ⟨v, G, g1, _⟩ := h2
  exact rkind_any g1 p

theorem PK.used (h : PK w0 w b rb lim L M bx rs) : Calls Try.prog 12 #[.pointer (some ⟨b, 0, none⟩)] w fun e w' => e = .returned (.int .i64 (total L)) ∧ w = w' := by
  obtain ⟨K, FR, h1, _⟩ := h
  exact h1.used

theorem PK.rused (h : PK w0 w b rb lim L M bx rs) : Calls Try.prog 27 #[.pointer (some ⟨rb, 0, none⟩)] w fun e w' => e = .returned (.int .i64 (total M)) ∧ w = w' := by
  obtain ⟨K, FR, _, h2, _⟩ := h
  obtain ⟨v, G, g1, _⟩ := h2
  exact rused_any g1

/-- What Fields answers: its error, a slice that reads so. -/
def fldE (r : Option (List Int)) : Int := if r = none then 1 else 0
def FieldsPK (w0 : World) (b rb : Nat) (lim : Int) (L M : List Ob) (bx : Option (Nat × Array Value)) (rs : List RowK) (r : Option (List Int)) (e : Ending) (w' : World) : Prop :=
  ∃ A n c, e = .returned (.tuple #[.slice A n c, .int .i64 (fldE r)]) ∧ n = (r.getD []).length ∧ Hid (PK w0 w' b rb lim L M bx ((A, n, c, r.getD []) :: rs))

theorem PK.nil (h : PK w0 w b rb lim L M bx rs) : PK w0 w b rb lim L M bx ((none, 0, 0, []) :: rs) := h.push (Upd.refl _ _) (World.ownsRow_nil _ _ _ _)

theorem PK.flds (h : PK w0 w b rb lim L M bx rs) {r : Option (List Int)} {e : Ending} {w' : World} (hh : FieldsSk w r e w') : FieldsPK w0 b rb lim L M bx rs r e w' := by
  cases r with
  | none =>
    obtain ⟨he, rfl⟩ := hh
    exact ⟨none, 0, 0, he, rfl, h.nil⟩
  | some xs =>
    obtain ⟨g, c, he, hc, hlo, hown, hu⟩ := hh
    exact ⟨_, _, c, he, rfl, h.push hu hown⟩

theorem PK.fields (h : PK w0 w b rb lim L M bx rs) (p : Int) (hp : I64 p) : Calls Try.prog 14 #[.pointer (some ⟨b, 0, none⟩), .int .i64 p] w (FieldsPK w0 b rb lim L M bx rs (fieldsL L p)) := by
  have hh := h
  obtain ⟨K, FR, h1, _⟩ := h
  exact (h1.fields p hp).mono fun e w' g => hh.flds g

theorem PK.rfields (h : PK w0 w b rb lim L M bx rs) (p : Int) : Calls Try.prog 26 #[.pointer (some ⟨rb, 0, none⟩), .int .i64 p] w (FieldsPK w0 b rb lim L M bx rs (fieldsL M p)) := by
  have hh := h
  obtain ⟨K, FR, _, h2, _⟩ := h
  obtain ⟨v, G, g1, _⟩ := h2
  exact (rfields_any g1 p).mono fun e w' g => hh.flds g

/-- What Collect answers. -/
def colE (r : Option (List Ob × List Int)) : Int := if r = none then 1 else 0
def colL (L : List Ob) (r : Option (List Ob × List Int)) : List Ob := match r with | none => L | some q => q.1
def colO (r : Option (List Ob × List Int)) : List Int := match r with | none => [] | some q => q.2

def CollPK (w0 : World) (b rb : Nat) (lim : Int) (L M : List Ob) (bx : Option (Nat × Array Value)) (rs : List RowK) (r : Option (List Ob × List Int)) (e : Ending) (w' : World) : Prop :=
  ∃ A n c, e = .returned (.tuple #[.slice A n c, .int .i64 (colE r)]) ∧ n = (colO r).length ∧ Hid (PK w0 w' b rb lim (colL L r) M bx ((A, n, c, colO r) :: rs))

theorem PK.collect (h : PK w0 w b rb lim L M bx rs) {A : Option Addr} {n c : Nat} {xs : List Int} (hr : (A, n, c, xs) ∈ rs) (hnx : n = xs.length) (hl : n ≤ 1000) (hi : ∀ x ∈ xs, I64 x) :
    Calls Try.prog 13 #[.pointer (some ⟨b, 0, none⟩), .slice A n c] w (CollPK w0 b rb lim L M bx rs (collRes L xs)) := by
  have hh := h
  obtain ⟨K, FR, h1, h2, h3, h4, h5⟩ := h
  have hKs : ∀ k, K k → k < w.heap.size := by obtain ⟨_, _, _, _, h⟩ := h1; exact h
  have hs := h1.below.size
  refine (h1.collect A n c xs (Rd.of_own (h4 _ hr).1) hnx (by omega) hi).mono ?_
  intro e w' hc
  cases hq : collRes L xs with
  | none =>
    rw [hq] at hc
    obtain ⟨he, g1, g2⟩ := hc
    have : PK w0 w' b rb lim L M bx rs := ⟨K, FR, g1, h2.keep g2 (fun k hk h => h.1 (h3 k hk).1), h3, fun r hr => ⟨g2.own (h4 r hr).1 (fun k hk h => h.1 ((h4 r hr).2 k hk).1), (h4 r hr).2⟩, fun g cs hg => ⟨g2.blk (h5 g cs hg).1 (fun h => h.1 (h5 g cs hg).2.1), (h5 g cs hg).2⟩⟩
    exact ⟨none, 0, 0, he, rfl, this.nil⟩
  | some q =>
    obtain ⟨L', os⟩ := q
    rw [hq] at hc
    obtain ⟨A2, c2, he, hown, ⟨g1, g2⟩, g3⟩ := hc
    refine ⟨A2, _, c2, he, rfl, _, FR, g3, h2.keep g2 (fun k hk h => h.1 (h3 k hk).1), fun k hk => ⟨.inl (h3 k hk).1, (h3 k hk).2⟩, fun r hr => ?_, fun g cs hg => ⟨g2.blk (h5 g cs hg).1 (fun h => h.1 (h5 g cs hg).2.1), .inl (h5 g cs hg).2.1, (h5 g cs hg).2.2⟩⟩
    rcases List.mem_cons.1 hr with rfl | hr
    · refine ⟨own_base hown hs, fun k hk => ⟨.inr hk, fun hF => ?_⟩⟩
      have := own_lo hown hk
      have := hKs k (h3 k hF).1
      omega
    · exact ⟨g2.own (h4 r hr).1 (fun k hk h => h.1 ((h4 r hr).2 k hk).1), fun k hk => ⟨.inl ((h4 r hr).2 k hk).1, ((h4 r hr).2 k hk).2⟩⟩

def RCollPK (w0 : World) (b rb : Nat) (lim : Int) (L M : List Ob) (bx : Option (Nat × Array Value)) (rs : List RowK) (r : Option (List Ob × List Int)) (e : Ending) (w' : World) : Prop :=
  ∃ A n c, e = .returned (.tuple #[.slice A n c, .int .i64 (colE r)]) ∧ n = (colO r).length ∧ Hid (PK w0 w' b rb lim L (colL M r) bx ((A, n, c, colO r) :: rs))

theorem PK.rcollect (h : PK w0 w b rb lim L M bx rs) {A : Option Addr} {n c : Nat} {xs : List Int} (hr : (A, n, c, xs) ∈ rs) (hnx : n = xs.length) (hl : n ≤ 1000) :
    Calls Try.prog 23 #[.pointer (some ⟨rb, 0, none⟩), .slice A n c] w (RCollPK w0 b rb lim L M bx rs (collRes M xs)) := by
  have hh := h
  obtain ⟨K, FR, h1, h2, h3, h4, h5⟩ := h
  have hKs : ∀ k, K k → k < w.heap.size := by obtain ⟨_, _, _, _, h⟩ := h1; exact h
  have hs := h1.below.size
  refine (rcollect_any h2 (fun k hk => hKs k (h3 k hk).1) A n c xs (Rd.of_own (h4 _ hr).1) hnx (by omega)).mono ?_
  intro e w' hc
  cases hq : collRes M xs with
  | none =>
    rw [hq] at hc
    obtain ⟨he, rfl⟩ := hc
    exact ⟨none, 0, 0, he, rfl, hh.nil⟩
  | some q =>
    obtain ⟨L', os⟩ := q
    rw [hq] at hc
    obtain ⟨v, F', he, hown, g1, g2, g3, g4⟩ := hc
    obtain ⟨A2, c2, hv, _⟩ := own_form hown
    subst hv
    refine ⟨A2, _, c2, he, rfl, ?_⟩
    -- the new slice beside it
    have hKn : ∀ k, (Value.slice A2 os.length c2).ownBlock = some k → (w.heap.size ≤ k ∧ k < w'.heap.size) ∧ ¬ F' k := fun k hk => ⟨⟨own_lo hown hk, own_lt hown hk⟩, g3 k hk⟩
    have hsz := g4.size
    refine ⟨_, F', h1.other g4 (fun k hk => (h3 k hk).1) (fun k hk => (h3 k hk).2), g1, fun k hk => ?_, fun r hr => ?_, fun g cs hg => ⟨g4.blk (h5 g cs hg).1 (h5 g cs hg).2.2, .inl (h5 g cs hg).2.1, fun hF' => ?_⟩⟩
    · obtain ⟨ha, hb⟩ := g2 k hk
      rcases ha with ha | ha
      · exact ⟨.inl (h3 k ha).1, (h3 k ha).2⟩
      · exact ⟨.inr ⟨ha, hb⟩, by omega⟩
    · rcases List.mem_cons.1 hr with rfl | hr
      · exact ⟨own_base hown hs, fun k hk => ⟨.inr (hKn k hk).1, (hKn k hk).2⟩⟩
      · refine ⟨g4.own (h4 r hr).1 (fun k hk => ((h4 r hr).2 k hk).2), fun k hk => ⟨.inl ((h4 r hr).2 k hk).1, fun hF' => ?_⟩⟩
        obtain ⟨ha, hb⟩ := g2 k hF'
        rcases ha with ha | ha
        · exact ((h4 r hr).2 k hk).2 ha
        · have := hKs k ((h4 r hr).2 k hk).1; omega
    · obtain ⟨ha, hb⟩ := g2 g hF'
      rcases ha with ha | ha
      · exact (h5 g cs hg).2.2 ha
      · have := hKs g (h5 g cs hg).2.1; omega

theorem PK.ints (h : PK w0 w b rb lim L M bx rs) {A A' : Option Addr} {n n' c c' : Nat} {xs : List Int} (hr : (A, n, c, xs) ∈ rs) (hr' : (A', n', c', xs) ∈ rs) (hn : n = xs.length) (hn' : n' = xs.length) (hl : n ≤ 10000000) :
    Calls Try.prog 18 #[.slice A n c, .slice A' n' c'] w (SameI w) := by
  refine (ints_any (n := n) (n' := n') (h.rd hr) hn (h.rd hr') hn' (by omega)).mono ?_
  rintro e w' ⟨he, hm⟩
  exact ⟨by rw [he]; simp, hm⟩

/-- The told row is appended to. -/
theorem PK.told (h : PK w0 w b rb lim L M bx rs) {A A2 : Option Addr} {n c c2 : Nat} {xs : List Int} {x : Int} {o : Obj} (hr : (A, n, c, xs) ∈ rs)
    (hu : Upd (fun k => (Value.slice A n c).ownBlock = some k) (w.alloc o) w1) (ho : w1.ownsRow w0.heap.size 3 1 (.slice A2 (n + 1) c2) (n + 1) (xs.map (.int .i64) ++ [.int .i64 x]))
    (hat : (Value.slice A2 (n + 1) c2).ownBlock = (Value.slice A n c).ownBlock ∨ (Value.slice A2 (n + 1) c2).ownBlock = some (w.alloc o).heap.size) : PK w0 w1 b rb lim L M bx [(A2, n + 1, c2, xs ++ [x])] := by
  obtain ⟨K, FR, h1, h2, h3, h4, h5⟩ := h
  obtain ⟨t1, t2⟩ := h4 _ hr
  have hKs : ∀ k, K k → k < w.heap.size := by obtain ⟨_, _, _, _, h⟩ := h1; exact h
  have hub : Upd (fun k => (Value.slice A n c).ownBlock = some k) w w1 := ((Upd.alloc (fun _ => False) w o).mono fun _ _ h => h.elim).trans hu
  refine ⟨_, FR, h1.other hub (fun k hk => (t2 k hk).1) (fun k hk => (t1.lt k hk).1), h2.keep hub (fun k hk e => (t2 k e).2 hk), fun k hk => ⟨.inl (h3 k hk).1, (h3 k hk).2⟩, fun r hr => ?_, fun g cs hg => ⟨hub.blk (h5 g cs hg).1 (fun e => own_ne_blk t1 (h5 g cs hg).1 (by decide) _ e rfl), .inl (h5 g cs hg).2.1, (h5 g cs hg).2.2⟩⟩
  obtain rfl := List.mem_singleton.1 hr
  refine ⟨by simpa using ho, fun k hk => ?_⟩
  rcases hat with e | e
  · rw [e] at hk
    exact ⟨.inl (t2 k hk).1, (t2 k hk).2⟩
  · have hlt := (ho.lt k hk).2
    rw [e] at hk
    injection hk with hk
    simp at hk
    exact ⟨.inr ⟨by omega, hlt⟩, fun hF => by have := hKs k (h3 k hF).1; omega⟩

/-- Two new heaps. -/
theorem PK.new (h0 : Below w0.heap.size w0 w) {n : Int} (h1 : 0 ≤ n) (h2 : n ≤ 4194304) :
    PK w0 ((w.alloc (.cells #[.slice none 0 0, .slice none 0 0, .int .i64 n, .bool true] 58)).alloc (.cells #[.int .i64 n, .slice none 0 0] 71)) w.heap.size (w.heap.size + 1) n [] [] none [(none, 0, 0, [])] := by
  have hs := h0.size
  have e1 : (w.alloc (.cells #[.slice none 0 0, .slice none 0 0, .int .i64 n, .bool true] 58)).heap.size = w.heap.size + 1 := by simp
  have s := (Sk.new (w0 := w0) (w := w) h0 h1 h2 (fun _ => False) (fun _ h => h.elim)).other (Upd.alloc (fun _ => False) (w.alloc (.cells #[.slice none 0 0, .slice none 0 0, .int .i64 n, .bool true] 58)) (.cells #[.int .i64 n, .slice none 0 0] 71)) (fun _ h => h.elim) (fun _ h => h.elim)
  have hb := Blk.new (w.alloc (.cells #[.slice none 0 0, .slice none 0 0, .int .i64 n, .bool true] 58)) 71 #[.int .i64 n, .slice none 0 0]
  rw [e1] at hb
  refine ⟨_, fun k => k = w.heap.size + 1, s, ⟨.slice none 0 0, [], ⟨hb, by omega, ⟨World.ownsRow_nil _ _ _ _, rfl, fun i o g h => by simp at h, by simp⟩, WfL.nil, h1, h2, by simpa [total_nil] using h1⟩, rfl, fun k hk => ?_⟩, fun k hk => ?_, fun r hr => ?_, fun g cs hg => by cases hg⟩
  · rcases hk with hk | hk <;> simp [Value.ownBlock] at hk
  · subst hk; exact ⟨.inr (by simp), by omega⟩
  · obtain rfl := List.mem_singleton.1 hr
    exact ⟨World.ownsRow_nil _ _ _ _, fun k hk => by simp [Value.ownBlock] at hk⟩

/-- A box is laid beside. -/
theorem PK.box {cs : Array Value} (h : PK w0 w b rb lim L M bx rs) : PK w0 (w.alloc (.cells cs 47)) b rb lim L M (some (w.heap.size, cs)) rs := by
  obtain ⟨K, FR, h1, h2, h3, h4, h5⟩ := h
  have hKs : ∀ k, K k → k < w.heap.size := by obtain ⟨_, _, _, _, h⟩ := h1; exact h
  have hu := Upd.alloc (fun _ => False) w (.cells cs 47)
  refine ⟨_, FR, h1.other hu (fun _ h => h.elim) (fun _ h => h.elim), h2.keep hu (fun _ _ h => h), fun k hk => ⟨.inl (h3 k hk).1, (h3 k hk).2⟩, fun r hr => ⟨hu.own (h4 r hr).1 (fun _ _ h => h), fun k hk => ⟨.inl ((h4 r hr).2 k hk).1, ((h4 r hr).2 k hk).2⟩⟩, fun g cs' hg => ?_⟩
  injection hg with hg
  injection hg with hg1 hg2
  subst hg1 hg2
  exact ⟨Blk.new _ _ _, .inr ⟨Nat.le_refl _, by simp⟩, fun hF => by have := hKs _ (h3 _ hF).1; omega⟩

theorem PK.unbox (h : PK w0 w b rb lim L M bx rs) : PK w0 w b rb lim L M none rs := by
  obtain ⟨K, FR, h1, h2, h3, h4, h5⟩ := h
  exact ⟨K, FR, h1, h2, h3, h4, fun g cs h => by cases h⟩

theorem PK.blk {g : Nat} {cs : Array Value} (h : PK w0 w b rb lim L M (some (g, cs)) rs) : Blk w g 47 cs := by
  obtain ⟨K, FR, _, _, _, _, h5⟩ := h
  exact (h5 g cs rfl).1
end
end Go.Proofs.Ytkmfohocicngaaa
