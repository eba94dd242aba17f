/- The reference's Order: plain. -/
import Derived.Test.YtkmgdnhedafomaaMP
namespace Go.Proofs.Ytkmgdnhedafomaa

def hasK (L : Wt) (i : Nat) : Bool := L.any fun p => p.1 == i

theorem hasK_iff {L : Wt} {i : Nat} : hasK L i = true ↔ ∃ v, (i, v) ∈ L := by
  unfold hasK
  rw [List.any_eq_true]
  constructor
  · rintro ⟨⟨a, v⟩, hp, he⟩
    obtain rfl : a = i := by simpa using he
    exact ⟨v, hp⟩
  · rintro ⟨v, hv⟩
    exact ⟨_, hv, by simp⟩

theorem hasK_false {L : Wt} {i : Nat} (h : hasK L i = false) : ∀ p ∈ L, p.1 ≠ i := by
  unfold hasK at h
  rw [List.any_eq_false] at h
  intro p hp e
  exact h p hp (by simpa using e)

theorem hasK_nil : hasK [] = fun _ => false := rfl

theorem hasK_snoc (L : Wt) (k : Nat) (v : Int) : hasK (L ++ [(k, v)]) = fun y => hasK L y || y == k := by
  funext y
  unfold hasK
  rw [List.any_append]
  simp only [List.any_cons, List.any_nil, Bool.or_false]
  rw [show (k == y) = (y == k) by rw [Bool.eq_iff_iff]; simp; exact eq_comm]

theorem hasK_cut (L : Wt) (k : Nat) : hasK (cutL L k) = fun y => if y = k then false else hasK L y := by
  funext y
  unfold hasK cutL
  rw [Bool.eq_iff_iff]
  by_cases h : y = k
  · subst h
    simp
  · rw [if_neg h, List.any_eq_true, List.any_eq_true]
    constructor
    · rintro ⟨p, hp, he⟩
      exact ⟨p, (List.mem_filter.1 hp).1, he⟩
    · rintro ⟨p, hp, he⟩
      exact ⟨p, List.mem_filter.2 ⟨hp, by simp at he; simp [he]; omega⟩, he⟩

theorem hasK_turn (L : Wt) (k : Nat) (s : Int) : hasK (turnL L k s) = hasK L := by
  funext y
  unfold hasK turnL
  rw [List.any_map]
  rfl

/-- The least place that is left, of those below i; -1: none. -/
def leastTo (L : Wt) (i : Nat) : Int := match L.find? (fun p => decide (p.1 < i)) with | some p => (p.1 : Int) | none => -1
/-- The least that is left and free, of those below i; -1: none. -/
def freeTo (L : Wt) (i : Nat) : Int := match L.find? (fun p => decide (p.1 < i) && !wants L p.1) with | some p => (p.1 : Int) | none => -1

theorem find_new {L : Wt} (hs : L.Pairwise fun a b => a.1 < b.1) {q : Nat × Int → Bool} {i : Nat} : L.find? (fun p => decide (p.1 < i + 1) && q p) =
    match L.find? (fun p => decide (p.1 < i) && q p) with | some p => some p | none => L.find? (fun p => p.1 == i && q p) := by
  induction L with
  | nil => rfl
  | cons p L ih =>
    rw [List.pairwise_cons] at hs
    by_cases hq : q p = true
    · by_cases h1 : p.1 < i
      · rw [List.find?_cons_of_pos (by simp [hq]; omega), List.find?_cons_of_pos (by simp [hq, h1])]
      · have h3 : L.find? (fun p => decide (p.1 < i) && q p) = none := by
          rw [List.find?_eq_none]
          intro r hr
          have := hs.1 r hr
          simp; omega
        have h6 : (p :: L).find? (fun p => decide (p.1 < i) && q p) = none := by rw [List.find?_cons_of_neg (by simp [h1]), h3]
        rw [h6]
        by_cases h2 : p.1 = i
        · rw [List.find?_cons_of_pos (by simp [hq, h2]), List.find?_cons_of_pos (by simp [hq, h2])]
        · have h4 : L.find? (fun p => decide (p.1 < i + 1) && q p) = none := by
            rw [List.find?_eq_none]
            intro r hr
            have := hs.1 r hr
            simp; omega
          have h5 : L.find? (fun p => p.1 == i && q p) = none := by
            rw [List.find?_eq_none]
            intro r hr
            have := hs.1 r hr
            simp; omega
          rw [List.find?_cons_of_neg (by simp; omega), List.find?_cons_of_neg (by simp [h2]), h4, h5]
    · rw [List.find?_cons_of_neg (by simp [hq]), List.find?_cons_of_neg (by simp [hq]), List.find?_cons_of_neg (by simp [hq])]
      exact ih hs.2

theorem find_key {L : Wt} {q : Nat × Int → Bool} {i : Nat} (h : hasK L i = false) : L.find? (fun p => p.1 == i && q p) = none := by
  rw [List.find?_eq_none]
  intro p hp
  have := hasK_false h p hp
  simp [this]

theorem find_key2 {L : Wt} (hs : L.Pairwise fun a b => a.1 < b.1) {q : Nat × Int → Bool} {i : Nat} {v : Int} (h : (i, v) ∈ L) : L.find? (fun p => p.1 == i && q p) = if q (i, v) then some (i, v) else none := by
  induction L with
  | nil => simp at h
  | cons p L ih =>
    rw [List.pairwise_cons] at hs
    rcases List.mem_cons.1 h with h | h
    · subst h
      by_cases hq : q (i, v) = true
      · rw [if_pos hq, List.find?_cons_of_pos (by simp [hq])]
      · rw [if_neg hq, List.find?_cons_of_neg (by simp [hq]), List.find?_eq_none]
        intro r hr
        have := hs.1 r hr
        simp at this ⊢
        omega
    · have := hs.1 _ h
      rw [List.find?_cons_of_neg (by simp at this ⊢; omega)]
      exact ih hs.2 h

theorem leastTo_pass {L : Wt} (hs : L.Pairwise fun a b => a.1 < b.1) {i : Nat} (h : hasK L i = false) : leastTo L (i + 1) = leastTo L i := by
  unfold leastTo
  have h1 := find_new hs (q := fun _ => true) (i := i)
  simp only [Bool.and_true] at h1
  rw [h1]
  cases hf : L.find? (fun p => decide (p.1 < i)) with
  | some p => rfl
  | none =>
    have h2 := find_key (q := fun _ => true) h
    simp only [Bool.and_true] at h2
    simp only [h2]

theorem leastTo_key {L : Wt} (hs : L.Pairwise fun a b => a.1 < b.1) {i : Nat} (h : hasK L i = true) : leastTo L (i + 1) = if leastTo L i < 0 then (i : Int) else leastTo L i := by
  obtain ⟨v, hv⟩ := hasK_iff.1 h
  unfold leastTo
  have h1 := find_new hs (q := fun _ => true) (i := i)
  simp only [Bool.and_true] at h1
  rw [h1]
  cases hf : L.find? (fun p => decide (p.1 < i)) with
  | some p => simp only; rw [if_neg (by omega)]
  | none =>
    have h2 := find_key2 hs (q := fun _ => true) hv
    simp only [Bool.and_true, if_true] at h2
    simp only [h2]
    rfl

theorem freeTo_pass {L : Wt} (hs : L.Pairwise fun a b => a.1 < b.1) {i : Nat} (h : hasK L i = false) : freeTo L (i + 1) = freeTo L i := by
  unfold freeTo
  rw [find_new hs]
  cases hf : L.find? (fun p => decide (p.1 < i) && !wants L p.1) with
  | some p => rfl
  | none => simp only [find_key h]

theorem freeTo_key {L : Wt} (hs : L.Pairwise fun a b => a.1 < b.1) {i : Nat} (h : hasK L i = true) : freeTo L (i + 1) = if freeTo L i < 0 ∧ wants L i = false then (i : Int) else freeTo L i := by
  obtain ⟨v, hv⟩ := hasK_iff.1 h
  unfold freeTo
  rw [find_new hs]
  cases hf : L.find? (fun p => decide (p.1 < i) && !wants L p.1) with
  | some p => simp only; rw [if_neg (by omega)]
  | none =>
    simp only [find_key2 hs hv]
    cases hw : wants L i <;> simp

theorem leastTo_le (L : Wt) (i : Nat) : -1 ≤ leastTo L i ∧ leastTo L i < i + 1 := by
  unfold leastTo
  cases hf : L.find? (fun p => decide (p.1 < i)) with
  | some p => have := List.find?_some hf; simp at this; simp only; omega
  | none => simp only; omega

theorem freeTo_le (L : Wt) (i : Nat) : -1 ≤ freeTo L i ∧ freeTo L i < i + 1 := by
  unfold freeTo
  cases hf : L.find? (fun p => decide (p.1 < i) && !wants L p.1) with
  | some p => have := List.find?_some hf; simp at this; simp only; omega
  | none => simp only; omega

theorem leastTo_all {L : Wt} {n : Nat} (hn : ∀ p ∈ L, p.1 < n) (hne : L ≠ []) : leastTo L n = (firstK L : Int) := by
  obtain ⟨v, r, hL⟩ := firstK_mem hne
  generalize firstK L = k at *
  subst hL
  unfold leastTo
  rw [List.find?_cons_of_pos (by have := hn (k, v) (by simp); simpa using this)]

theorem freeTo_all {L : Wt} {n : Nat} (hn : ∀ p ∈ L, p.1 < n) : freeTo L n = match freeP L with | some p => (p.1 : Int) | none => -1 := by
  unfold freeTo freeP
  have : L.find? (fun p => decide (p.1 < n) && !wants L p.1) = L.find? (fun p => !wants L p.1) := by
    have key : ∀ K : Wt, (∀ p ∈ K, p.1 < n) → K.find? (fun p => decide (p.1 < n) && !wants L p.1) = K.find? (fun p => !wants L p.1) := by
      intro K hK
      induction K with
      | nil => rfl
      | cons p K ih =>
        have h1 := hK p (by simp)
        simp only [List.find?_cons, h1, decide_true, Bool.true_and]
        rw [ih fun q hq => hK q (by simp [hq])]
    exact key L hn
  rw [this]

/-- Do some of the places below k come from i? -/
def usedTo (L : Wt) (i k : Nat) : Bool := L.any fun p => decide (p.1 < k) && p.2 == (i : Int)

theorem usedTo_zero (L : Wt) (i : Nat) : usedTo L i 0 = false := by
  unfold usedTo
  rw [List.any_eq_false]
  intro p _
  simp

theorem usedTo_pass {L : Wt} {i k : Nat} (h : hasK L k = false) : usedTo L i (k + 1) = usedTo L i k := by
  unfold usedTo
  rw [Bool.eq_iff_iff, List.any_eq_true, List.any_eq_true]
  constructor
  · rintro ⟨p, hp, he⟩
    have := hasK_false h p hp
    exact ⟨p, hp, by simp at he ⊢; exact ⟨by omega, he.2⟩⟩
  · rintro ⟨p, hp, he⟩
    exact ⟨p, hp, by simp at he ⊢; exact ⟨by omega, he.2⟩⟩

theorem usedTo_key {L : Wt} (hs : L.Pairwise fun a b => a.1 < b.1) {i k : Nat} {v : Int} (h : (k, v) ∈ L) : usedTo L i (k + 1) = (usedTo L i k || v == (i : Int)) := by
  unfold usedTo
  rw [Bool.eq_iff_iff, Bool.or_eq_true, List.any_eq_true, List.any_eq_true]
  constructor
  · rintro ⟨p, hp, he⟩
    by_cases hk : p.1 = k
    · right
      have : p = (k, v) := by
        obtain ⟨a, ha, rfl⟩ := List.getElem_of_mem hp
        obtain ⟨b, hb, hbe⟩ := List.getElem_of_mem h
        have hpw := List.pairwise_iff_getElem.1 hs
        rcases Nat.lt_trichotomy a b with hab | hab | hab
        · have := hpw a b ha hb hab; rw [hbe] at this; dsimp only at this; omega
        · subst hab; exact hbe
        · have := hpw b a hb ha hab; rw [hbe] at this; dsimp only at this; omega
      rw [this] at he
      simpa using he
    · left
      exact ⟨p, hp, by simp at he ⊢; exact ⟨by omega, he.2⟩⟩
  · rintro (⟨p, hp, he⟩ | he)
    · exact ⟨p, hp, by simp at he ⊢; exact ⟨by omega, he.2⟩⟩
    · exact ⟨(k, v), h, by simpa using he⟩

theorem usedTo_all {L : Wt} {i n : Nat} (hn : ∀ p ∈ L, p.1 < n) : usedTo L i n = wants L i := by
  unfold usedTo wants
  rw [Bool.eq_iff_iff, List.any_eq_true, List.any_eq_true]
  constructor
  · rintro ⟨p, hp, he⟩; exact ⟨p, hp, by simp at he ⊢; exact he.2⟩
  · rintro ⟨p, hp, he⟩; exact ⟨p, hp, by have := hn p hp; simp at he ⊢; exact ⟨this, he⟩⟩

end Go.Proofs.Ytkmgdnhedafomaa
