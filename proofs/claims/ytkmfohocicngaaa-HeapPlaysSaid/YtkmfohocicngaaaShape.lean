/- The laws' 'shape', in plain Lean: what is reached from a list of values, numbered in the order of finding. -/
import Derived.Test.YtkmfohocicngaaaChain
namespace Go.Proofs.Ytkmfohocicngaaa

/-- The number of a value among what was seen. -/
def numW (seen : List Int) (p : Int) : Int := if isP p = true then -1 - (seen.findIdx (· == p) : Int) else p

abbrev Sh := List Int × List Int

def stepS (s : Sh) (v : Int) : Sh := (if isP v = true ∧ numW s.1 v = -1 - (s.1.length : Int) then s.1 ++ [v] else s.1, s.2 ++ [numW s.1 v])

def objS (L : List Ob) (s : Sh) (i : Nat) : Sh :=
  match objL L (s.1.getD i 0) with
  | some o => o.2.foldl stepS (s.1, s.2 ++ [o.1, (o.2.length : Int)])
  | none => s

def iterS (L : List Ob) (s : Sh) : Nat → Sh
  | 0 => s
  | i + 1 => if i < (iterS L s i).1.length then objS L (iterS L s i) i else iterS L s i

def shapeL (L : List Ob) (vs : List Int) : List Int := (iterS L (vs.foldl stepS ([], [])) 100).2

theorem iterS_end {L : List Ob} {s : Sh} {i : Nat} (h : (iterS L s i).1.length ≤ i) (d : Nat) : iterS L s (i + d) = iterS L s i := by
  induction d with
  | zero => rfl
  | succ d ih =>
    show (if i + d < (iterS L s (i + d)).1.length then objS L (iterS L s (i + d)) (i + d) else iterS L s (i + d)) = _
    rw [ih, if_neg (by omega)]

theorem stepS_len (s : Sh) (v : Int) : (stepS s v).1.length ≤ s.1.length + 1 ∧ (stepS s v).2.length = s.2.length + 1 ∧ s.1.length ≤ (stepS s v).1.length := by
  unfold stepS
  refine ⟨?_, by simp, ?_⟩ <;> simp only <;> split <;> simp

theorem foldS_len (vs : List Int) (s : Sh) : (vs.foldl stepS s).1.length ≤ s.1.length + vs.length ∧ (vs.foldl stepS s).2.length = s.2.length + vs.length ∧ s.1.length ≤ (vs.foldl stepS s).1.length := by
  induction vs generalizing s with
  | nil => simp
  | cons v vs ih =>
    have h1 := stepS_len s v
    have h2 := ih (stepS s v)
    simp only [List.foldl_cons, List.length_cons]
    omega

/-- What was seen is an object. -/
def SeenOk (L : List Ob) (s : Sh) : Prop := ∀ p ∈ s.1, ∃ o, objL L p = some o

theorem SeenOk.step {L : List Ob} {s : Sh} (h : SeenOk L s) {v : Int} (hv : isP v = true → ∃ o, objL L v = some o) : SeenOk L (stepS s v) := by
  intro p hp
  unfold stepS at hp
  simp only at hp
  split at hp
  · rename_i hc
    rcases List.mem_append.1 hp with hp | hp
    · exact h p hp
    · obtain rfl : p = v := by simpa using hp
      exact hv hc.1
  · exact h p hp

theorem SeenOk.fold {L : List Ob} (vs : List Int) {s : Sh} (h : SeenOk L s) (hv : ∀ v ∈ vs, isP v = true → ∃ o, objL L v = some o) : SeenOk L (vs.foldl stepS s) := by
  induction vs generalizing s with
  | nil => exact h
  | cons v vs ih => exact ih (h.step (hv v (by simp))) fun x hx => hv x (by simp [hx])

theorem right_obj {L : List Ob} {x : Int} (h : rightL L x = true) (hp : isP x = true) : ∃ o, objL L x = some o := by
  have := @objL_some L x
  rw [hp, h] at this
  exact Option.isSome_iff_exists.1 (by simpa using this)

theorem atL_mem {L : List Ob} {k : Nat} {o : Ob} (h : atL L k = some o) : o ∈ L := by
  induction L generalizing k with
  | nil => simp [atL] at h
  | cons p L ih =>
    unfold atL at h
    split at h
    · simp [Option.some.inj h]
    · split at h
      · cases h
      · exact List.mem_cons_of_mem _ (ih h)

theorem objL_mem {L : List Ob} {p : Int} {o : Ob} (h : objL L p = some o) : o ∈ L := by
  unfold objL at h
  split at h
  · exact atL_mem h
  · cases h

theorem obj_fields {L : List Ob} (hL : WfL L) {p : Int} {o : Ob} (h : objL L p = some o) : ∀ x ∈ o.2, isP x = true → ∃ o', objL L x = some o' :=
  fun x hx hp => right_obj (hL.right o (objL_mem h) x hx) hp

theorem SeenOk.obj {L : List Ob} {s : Sh} (hL : WfL L) (h : SeenOk L s) (i : Nat) : SeenOk L (objS L s i) := by
  unfold objS
  split
  · rename_i o ho
    exact SeenOk.fold (s := (s.1, s.2 ++ [o.1, (o.2.length : Int)])) o.2 h (obj_fields hL ho)
  · exact h

theorem SeenOk.iter {L : List Ob} {s : Sh} (hL : WfL L) (h : SeenOk L s) (i : Nat) : SeenOk L (iterS L s i) := by
  induction i with
  | zero => exact h
  | succ i ih =>
    show SeenOk L (if i < (iterS L s i).1.length then objS L (iterS L s i) i else iterS L s i)
    split
    · exact ih.obj hL i
    · exact ih

theorem objS_len {L : List Ob} (hL : WfL L) (s : Sh) (i : Nat) : (objS L s i).1.length ≤ s.1.length + 65535 ∧ (objS L s i).2.length ≤ s.2.length + 65537 := by
  unfold objS
  split
  · rename_i o ho
    have h1 := foldS_len o.2 (s.1, s.2 ++ [o.1, (o.2.length : Int)])
    have h2 := (hL.each o (objL_mem ho)).len
    simp at h1
    omega
  · omega

theorem iterS_len {L : List Ob} (hL : WfL L) (s : Sh) {c : Nat} (hc : 65537 ≤ c) (i : Nat) : (iterS L s i).1.length ≤ s.1.length + i * c ∧ (iterS L s i).2.length ≤ s.2.length + i * c := by
  induction i with
  | zero => simp [iterS]
  | succ i ih =>
    have e : iterS L s (i + 1) = if i < (iterS L s i).1.length then objS L (iterS L s i) i else iterS L s i := rfl
    have h1 := objS_len hL (iterS L s i) i
    rw [e, Nat.succ_mul]
    obtain ⟨i1, i2⟩ := ih
    obtain ⟨j1, j2⟩ := h1
    by_cases hc : i < (iterS L s i).1.length
    · rw [if_pos hc]; exact ⟨by omega, by omega⟩
    · rw [if_neg hc]; exact ⟨by omega, by omega⟩

/-- A map that keeps numbers, and tells apart the pointers that come into play. -/
structure Mapped (L L' : List Ob) (f : Int → Int) (C : Int → Prop) : Prop where
  kind : ∀ v, C v → isP (f v) = isP v
  same : ∀ v, C v → isP v = false → f v = v
  inj : ∀ v u, C v → C u → f v = f u → v = u
  obj : ∀ v o, C v → objL L v = some o → objL L' (f v) = some (o.1, o.2.map f) ∧ ∀ x ∈ o.2, C x

theorem findIdx_map {f : Int → Int} {C : Int → Prop} (inj : ∀ v u, C v → C u → f v = f u → v = u) {xs : List Int} (hx : ∀ x ∈ xs, C x) {p : Int} (hp : C p) : (xs.map f).findIdx (· == f p) = xs.findIdx (· == p) := by
  induction xs with
  | nil => rfl
  | cons x xs ih =>
    rw [List.map_cons, List.findIdx_cons, List.findIdx_cons, ih fun y hy => hx y (by simp [hy])]
    have : (f x == f p) = (x == p) := by
      by_cases h : x = p
      · simp [h]
      · have h' : f x ≠ f p := fun e => h (inj x p (hx x (by simp)) hp e)
        rw [beq_eq_false_iff_ne.2 h', beq_eq_false_iff_ne.2 h]
    simp only [this]

section
variable {L L' : List Ob} {f : Int → Int} {C : Int → Prop}

theorem Mapped.num (M : Mapped L L' f C) {seen : List Int} (hs : ∀ x ∈ seen, C x) {p : Int} (hp : C p) : numW (seen.map f) (f p) = numW seen p := by
  unfold numW
  rw [M.kind p hp, findIdx_map M.inj hs hp]
  split
  · rfl
  · rename_i h
    exact M.same p hp (by simpa using h)

def Sim (f : Int → Int) (C : Int → Prop) (s s' : Sh) : Prop := s'.1 = s.1.map f ∧ s'.2 = s.2 ∧ ∀ x ∈ s.1, C x

theorem Mapped.step (M : Mapped L L' f C) {s s' : Sh} (h : Sim f C s s') {v : Int} (hv : C v) : Sim f C (stepS s v) (stepS s' (f v)) := by
  obtain ⟨h1, h2, h3⟩ := h
  unfold stepS
  rw [h1, h2, M.num h3 hv, M.kind v hv, List.length_map]
  refine ⟨?_, rfl, ?_⟩
  · simp only
    split <;> simp
  · simp only
    split
    · intro x hx
      rcases List.mem_append.1 hx with hx | hx
      · exact h3 x hx
      · obtain rfl : x = v := by simpa using hx
        exact hv
    · exact h3

theorem Mapped.fold (M : Mapped L L' f C) {vs : List Int} {s s' : Sh} (h : Sim f C s s') (hv : ∀ v ∈ vs, C v) : Sim f C (vs.foldl stepS s) ((vs.map f).foldl stepS s') := by
  induction vs generalizing s s' with
  | nil => exact h
  | cons v vs ih => exact ih (M.step h (hv v (by simp))) fun x hx => hv x (by simp [hx])

theorem Mapped.objS (M : Mapped L L' f C) {s s' : Sh} (h : Sim f C s s') (hok : SeenOk L s) {i : Nat} (hi : i < s.1.length) : Sim f C (objS L s i) (objS L' s' i) := by
  obtain ⟨h1, h2, h3⟩ := h
  have hm : s.1[i] ∈ s.1 := List.getElem_mem hi
  obtain ⟨o, ho⟩ := hok _ hm
  obtain ⟨m1, m2⟩ := M.obj _ o (h3 _ hm) ho
  have e1 : s.1.getD i 0 = s.1[i] := by rw [List.getD_eq_getElem?_getD, List.getElem?_eq_getElem hi]; rfl
  have e2 : s'.1.getD i 0 = f s.1[i] := by rw [h1, List.getD_eq_getElem?_getD, List.getElem?_map, List.getElem?_eq_getElem hi]; rfl
  unfold Go.Proofs.Ytkmfohocicngaaa.objS
  rw [e1, e2, ho, m1]
  simp only [List.length_map]
  exact M.fold ⟨h1, by rw [h2], h3⟩ m2

theorem Mapped.iter (M : Mapped L L' f C) (hL : WfL L) {s s' : Sh} (h : Sim f C s s') (hok : SeenOk L s) (i : Nat) : Sim f C (iterS L s i) (iterS L' s' i) := by
  induction i with
  | zero => exact h
  | succ i ih =>
    show Sim f C (if i < (iterS L s i).1.length then Go.Proofs.Ytkmfohocicngaaa.objS L (iterS L s i) i else iterS L s i) (if i < (iterS L' s' i).1.length then Go.Proofs.Ytkmfohocicngaaa.objS L' (iterS L' s' i) i else iterS L' s' i)
    have hlen : (iterS L' s' i).1.length = (iterS L s i).1.length := by rw [ih.1, List.length_map]
    rw [hlen]
    split
    · rename_i hi
      exact M.objS ih (hok.iter hL i) hi
    · exact ih

theorem Mapped.shape (M : Mapped L L' f C) (hL : WfL L) {vs : List Int} (hv : ∀ v ∈ vs, C v) (hok : ∀ v ∈ vs, isP v = true → ∃ o, objL L v = some o) : shapeL L' (vs.map f) = shapeL L vs :=
  (M.iter hL (M.fold (s := ([], [])) (s' := ([], [])) ⟨rfl, rfl, by simp⟩ hv) (SeenOk.fold vs (s := ([], [])) (by intro p hp; simp at hp) hok) 100).2.1
end
end Go.Proofs.Ytkmfohocicngaaa
