/- The plain heap: a list of objects; where they begin; what is come to. -/
import GoSem.Core.Value
namespace Go.Proofs.Ytkmfohocicngaaa

/-- An int of Go's. -/
def I64 (v : Int) : Prop := -9223372036854775808 ≤ v ∧ v ≤ 9223372036854775807

/-- A value is a pointer. -/
def isP (v : Int) : Bool := v % 8 == 5

/-- A kind, and the fields. -/
abbrev Ob := Int × List Int

def headOf (o : Ob) : Int := o.2.length * 16 + o.1
def wordsOf (L : List Ob) : List Int := L.flatMap fun o => headOf o :: o.2
def beginsOf (L : List Ob) : List Bool := L.flatMap fun o => true :: List.replicate o.2.length false
def total (L : List Ob) : Nat := (wordsOf L).length

theorem wordsOf_nil : wordsOf [] = [] := rfl
theorem wordsOf_cons (o : Ob) (L : List Ob) : wordsOf (o :: L) = headOf o :: (o.2 ++ wordsOf L) := by simp [wordsOf]
theorem beginsOf_cons (o : Ob) (L : List Ob) : beginsOf (o :: L) = true :: (List.replicate o.2.length false ++ beginsOf L) := by simp [beginsOf]
theorem wordsOf_append (L M : List Ob) : wordsOf (L ++ M) = wordsOf L ++ wordsOf M := by simp [wordsOf]
theorem beginsOf_append (L M : List Ob) : beginsOf (L ++ M) = beginsOf L ++ beginsOf M := by simp [beginsOf]
theorem wordsOf_one (o : Ob) : wordsOf [o] = headOf o :: o.2 := by simp [wordsOf]
theorem total_cons (o : Ob) (L : List Ob) : total (o :: L) = o.2.length + 1 + total L := by simp [total, wordsOf_cons]; omega
theorem total_append (L M : List Ob) : total (L ++ M) = total L + total M := by simp [total, wordsOf_append]
theorem total_nil : total [] = 0 := rfl
theorem begins_length (L : List Ob) : (beginsOf L).length = total L := by
  induction L with
  | nil => rfl
  | cons o L ih => rw [beginsOf_cons, total_cons]; simp [ih]; omega

/-- The object that begins at a place. -/
def atL : List Ob → Nat → Option Ob
  | [], _ => none
  | o :: L, k => if k = 0 then some o else if k < o.2.length + 1 then none else atL L (k - (o.2.length + 1))

theorem atL_begins (L : List Ob) (k : Nat) : (beginsOf L)[k]?.getD false = (atL L k).isSome := by
  induction L generalizing k with
  | nil => simp [beginsOf, atL]
  | cons o L ih =>
    rw [beginsOf_cons]
    unfold atL
    rcases k with _ | k
    · simp
    · simp only [List.getElem?_cons_succ, Nat.add_one_ne_zero, if_false]
      by_cases hk : k < o.2.length
      · rw [if_pos (by omega), List.getElem?_append_left (by simpa using hk)]
        simp [hk]
      · rw [if_neg (by omega), List.getElem?_append_right (by simpa using hk), List.length_replicate, ih]
        congr 2; omega

theorem atL_words {L : List Ob} {k : Nat} {o : Ob} (h : atL L k = some o) : (wordsOf L)[k]? = some (headOf o) ∧ (∀ j, j < o.2.length → (wordsOf L)[k + 1 + j]? = o.2[j]?) ∧ k + 1 + o.2.length ≤ total L ∧ o ∈ L := by
  induction L generalizing k with
  | nil => simp [atL] at h
  | cons p L ih =>
    rw [wordsOf_cons, total_cons]
    unfold atL at h
    split at h
    · rename_i hk
      subst hk
      injection h with h
      subst h
      refine ⟨rfl, fun j hj => ?_, by omega, by simp⟩
      rw [show 0 + 1 + j = j + 1 by omega, List.getElem?_cons_succ, List.getElem?_append_left hj]
    · split at h
      · cases h
      · rename_i h0 h1
        obtain ⟨a, b, c, d⟩ := ih h
        obtain ⟨m, rfl⟩ : ∃ m, k = m + (p.2.length + 1) := ⟨k - (p.2.length + 1), by omega⟩
        simp only [Nat.add_sub_cancel] at a b c
        refine ⟨?_, fun j hj => ?_, by omega, by simp [d]⟩
        · rw [show m + (p.2.length + 1) = (m + p.2.length) + 1 by omega, List.getElem?_cons_succ, List.getElem?_append_right (by omega), ← a]; congr 1; omega
        · rw [show m + (p.2.length + 1) + 1 + j = (m + 1 + j + p.2.length) + 1 by omega, List.getElem?_cons_succ, List.getElem?_append_right (by omega), ← b j hj]; congr 1; omega

theorem atL_append_left {L : List Ob} {k : Nat} {o : Ob} (M : List Ob) (h : atL L k = some o) : atL (L ++ M) k = some o := by
  induction L generalizing k with
  | nil => simp [atL] at h
  | cons p L ih =>
    simp only [List.cons_append]
    unfold atL at h ⊢
    by_cases h0 : k = 0
    · rw [if_pos h0] at h ⊢; exact h
    · rw [if_neg h0] at h ⊢
      by_cases h1 : k < p.2.length + 1
      · rw [if_pos h1] at h; cases h
      · rw [if_neg h1] at h ⊢; exact ih h

theorem atL_append_at (L : List Ob) (o : Ob) (M : List Ob) : atL (L ++ o :: M) (total L) = some o := by
  induction L with
  | nil => simp [atL, total, wordsOf]
  | cons p L ih =>
    simp only [List.cons_append]
    unfold atL
    rw [total_cons, if_neg (by omega), if_neg (by omega)]
    rw [← ih]; congr 1; omega

theorem atL_lt {L : List Ob} {k : Nat} {o : Ob} (h : atL L k = some o) : k < total L := by have := (atL_words h).2.2.1; omega

/-- A value is right. -/
def rightL (L : List Ob) (v : Int) : Bool := !isP v || (decide (0 < v) && (atL L (v / 8).toNat).isSome)

/-- The object that a pointer leads to. -/
def objL (L : List Ob) (p : Int) : Option Ob := if isP p = true ∧ 0 < p then atL L (p / 8).toNat else none

theorem objL_some {L : List Ob} {p : Int} : (objL L p).isSome = (isP p && rightL L p) := by
  unfold objL rightL
  by_cases h1 : isP p = true <;> by_cases h2 : 0 < p <;> simp [h1, h2]

theorem rightL_append {L : List Ob} {v : Int} (M : List Ob) (h : rightL L v = true) : rightL (L ++ M) v = true := by
  unfold rightL at h ⊢
  cases hp : isP v
  · simp
  · simp only [hp, Bool.not_true, Bool.false_or, Bool.and_eq_true, decide_eq_true_eq] at h ⊢
    obtain ⟨h1, h2⟩ := h
    obtain ⟨o, ho⟩ := Option.isSome_iff_exists.1 h2
    exact ⟨h1, by rw [atL_append_left M ho]; rfl⟩

/-- What a heap's objects are like. -/
structure WfO (o : Ob) : Prop where
  k0 : 0 ≤ o.1
  k1 : o.1 ≤ 15
  len : o.2.length ≤ 65535
  i64 : ∀ x ∈ o.2, I64 x

structure WfL (L : List Ob) : Prop where
  each : ∀ o ∈ L, WfO o
  right : ∀ o ∈ L, ∀ x ∈ o.2, rightL L x = true

theorem head_div {o : Ob} (h : WfO o) : headOf o / 16 = (o.2.length : Int) := by have := h.k0; have := h.k1; unfold headOf; omega
theorem head_mod {o : Ob} (h : WfO o) : headOf o % 16 = o.1 := by have := h.k0; have := h.k1; unfold headOf; omega
theorem head_bd {o : Ob} (h : WfO o) : 0 ≤ headOf o ∧ headOf o ≤ 1048575 := by have := h.k0; have := h.k1; have := h.len; unfold headOf; omega

theorem WfL.nil : WfL [] := ⟨fun _ h => by simp at h, fun _ h => by simp at h⟩

theorem WfL.push {L : List Ob} (h : WfL L) {o : Ob} (ho : WfO o) (hr : ∀ x ∈ o.2, rightL L x = true) : WfL (L ++ [o]) := by
  refine ⟨fun p hp => ?_, fun p hp x hx => ?_⟩
  · rcases List.mem_append.1 hp with hp | hp
    · exact h.each p hp
    · obtain rfl := List.mem_singleton.1 hp
      exact ho
  · rcases List.mem_append.1 hp with hp | hp
    · exact rightL_append _ (h.right p hp x hx)
    · obtain rfl := List.mem_singleton.1 hp
      exact rightL_append _ (hr x hx)

/-- Field i of the object at a place is set. -/
def setL : List Ob → Nat → Nat → Int → List Ob
  | [], _, _, _ => []
  | o :: L, k, i, v => if k = 0 then (o.1, o.2.set i v) :: L else if k < o.2.length + 1 then o :: L else o :: setL L (k - (o.2.length + 1)) i v

theorem setL_words {L : List Ob} {k : Nat} {o : Ob} (h : atL L k = some o) (i : Nat) (hi : i < o.2.length) (v : Int) : wordsOf (setL L k i v) = (wordsOf L).set (k + 1 + i) v ∧ beginsOf (setL L k i v) = beginsOf L := by
  induction L generalizing k with
  | nil => simp [atL] at h
  | cons p L ih =>
    unfold atL at h
    unfold setL
    split at h
    · rename_i hk
      subst hk
      injection h with h
      subst h
      rw [if_pos rfl, wordsOf_cons, wordsOf_cons, beginsOf_cons, beginsOf_cons]
      refine ⟨?_, by simp⟩
      rw [show 0 + 1 + i = i + 1 by omega, List.set_cons_succ, List.set_append_left _ _ hi]
      simp [headOf]
    · split at h
      · cases h
      · rename_i h0 h1
        rw [if_neg h0, if_neg h1, wordsOf_cons, wordsOf_cons, beginsOf_cons, beginsOf_cons]
        obtain ⟨a, b⟩ := ih h
        rw [a, b]
        refine ⟨?_, rfl⟩
        obtain ⟨m, rfl⟩ : ∃ m, k = m + (p.2.length + 1) := ⟨k - (p.2.length + 1), by omega⟩
        rw [Nat.add_sub_cancel, show m + (p.2.length + 1) + 1 + i = (m + 1 + i + p.2.length) + 1 by omega, List.set_cons_succ, List.set_append_right _ _ (by omega)]
        congr 3; omega

theorem setL_at (L : List Ob) (k i : Nat) (v : Int) (k' : Nat) : atL (setL L k i v) k' = if k' = k then (atL L k).map (fun o => (o.1, o.2.set i v)) else atL L k' := by
  induction L generalizing k k' with
  | nil => simp [setL, atL]
  | cons p L ih =>
    unfold setL
    split
    · rename_i hk
      subst hk
      unfold atL
      by_cases hk' : k' = 0
      · simp [hk']
      · simp [hk']
    · rename_i hk
      split
      · rename_i h1
        unfold atL
        by_cases hk' : k' = k
        · subst hk'; simp [hk, h1]
        · simp [hk']
      · rename_i h1
        unfold atL
        by_cases h0 : k' = 0
        · subst h0; simp [Ne.symm hk]
        · by_cases h2 : k' < p.2.length + 1
          · simp [h0, h2, show k' ≠ k by omega]
          · simp only [h0, h2, hk, h1, if_false]
            rw [ih]
            by_cases he : k' = k
            · simp [he]
            · simp [he, show k' - (p.2.length + 1) ≠ k - (p.2.length + 1) by omega]

theorem setL_right (L : List Ob) (k i : Nat) (v x : Int) : rightL (setL L k i v) x = rightL L x := by
  unfold rightL
  rw [setL_at]
  split
  · rename_i h; rw [h]; simp
  · rfl

theorem setL_mem {L : List Ob} {k i : Nat} {v : Int} {o : Ob} (h : o ∈ setL L k i v) : o ∈ L ∨ ∃ p ∈ L, o = (p.1, p.2.set i v) := by
  induction L generalizing k with
  | nil => simp [setL] at h
  | cons p L ih =>
    unfold setL at h
    split at h
    · rcases List.mem_cons.1 h with rfl | h
      · exact .inr ⟨p, by simp, rfl⟩
      · exact .inl (by simp [h])
    · split at h
      · exact .inl h
      · rcases List.mem_cons.1 h with rfl | h
        · exact .inl (by simp)
        · rcases ih h with h | ⟨q, hq, rfl⟩
          · exact .inl (by simp [h])
          · exact .inr ⟨q, by simp [hq], rfl⟩

theorem WfL.set {L : List Ob} (h : WfL L) (k i : Nat) {v : Int} (hv : I64 v) (hr : rightL L v = true) : WfL (setL L k i v) := by
  refine ⟨fun o ho => ?_, fun o ho x hx => ?_⟩
  · rcases setL_mem ho with ho | ⟨p, hp, rfl⟩
    · exact h.each o ho
    · obtain ⟨a, b, c, d⟩ := h.each p hp
      refine ⟨a, b, by simpa using c, fun x hx => ?_⟩
      rcases List.mem_or_eq_of_mem_set hx with hx | rfl
      · exact d x hx
      · exact hv
  · rw [setL_right]
    rcases setL_mem ho with ho | ⟨p, hp, rfl⟩
    · exact h.right o ho x hx
    · rcases List.mem_or_eq_of_mem_set hx with hx | rfl
      · exact h.right p hp x hx
      · exact hr

end Go.Proofs.Ytkmfohocicngaaa
