/- The reference's heap, plain: the objects' places, which object a value leads to, the row of objects in memory. -/
import Derived.Test.YtkmfohocicngaaaCopy3
namespace Go.Proofs.Ytkmfohocicngaaa

def offL (L : List Ob) (i : Nat) : Nat := total (L.take i)

theorem offL_zero (L : List Ob) : offL L 0 = 0 := by simp [offL, total_nil]
theorem offL_cons (o : Ob) (L : List Ob) (i : Nat) : offL (o :: L) (i + 1) = o.2.length + 1 + offL L i := by simp [offL, total_cons]
theorem offL_succ {L : List Ob} {i : Nat} {o : Ob} (h : L[i]? = some o) : offL L (i + 1) = offL L i + o.2.length + 1 := by
  obtain ⟨hi, hg⟩ := List.getElem?_eq_some_iff.1 h
  unfold offL
  rw [List.take_succ_eq_append_getElem hi, total_append, hg, total_cons, total_nil]; omega
theorem offL_all (L : List Ob) : offL L L.length = total L := by simp [offL]

theorem offL_lt {L : List Ob} {i j : Nat} (h : i < j) (hj : j ≤ L.length) : offL L i < offL L j := by
  induction j with
  | zero => omega
  | succ j ih =>
    have := offL_succ (List.getElem?_eq_getElem (show j < L.length by omega))
    rcases Nat.lt_or_ge i j with h1 | h1
    · have := ih h1 (by omega); omega
    · obtain rfl : i = j := by omega
      omega

theorem offL_le {L : List Ob} {i : Nat} (h : i ≤ L.length) : offL L i ≤ total L := by
  rw [← offL_all]
  rcases Nat.lt_or_ge i L.length with h1 | h1
  · exact Nat.le_of_lt (offL_lt h1 (Nat.le_refl _))
  · obtain rfl : i = L.length := by omega
    exact Nat.le_refl _

theorem offL_inj {L : List Ob} {i j : Nat} (hi : i ≤ L.length) (hj : j ≤ L.length) (h : offL L i = offL L j) : i = j := by
  rcases Nat.lt_trichotomy i j with h1 | h1 | h1
  · have := offL_lt h1 hj; omega
  · exact h1
  · have := offL_lt h1 hi; omega

theorem atL_off {L : List Ob} {i : Nat} {o : Ob} (h : L[i]? = some o) : atL L (offL L i) = some o := by
  obtain ⟨hi, hg⟩ := List.getElem?_eq_some_iff.1 h
  have e : L = L.take i ++ o :: L.drop (i + 1) := by rw [← hg]; simp
  have := atL_append_at (L.take i) o (L.drop (i + 1))
  rw [← e] at this
  exact this

theorem atL_ix {L : List Ob} {k : Nat} {o : Ob} (h : atL L k = some o) : ∃ i, L[i]? = some o ∧ offL L i = k := by
  induction L generalizing k with
  | nil => simp [atL] at h
  | cons p L ih =>
    unfold atL at h
    split at h
    · rename_i hk
      subst hk
      injection h with h
      subst h
      exact ⟨0, rfl, offL_zero _⟩
    · split at h
      · cases h
      · obtain ⟨i, hi, ho⟩ := ih h
        exact ⟨i + 1, by simpa using hi, by rw [offL_cons]; omega⟩

/-- The object of a value: where it stands in the row. -/
theorem objL_ix {L : List Ob} {v : Int} {o : Ob} (h : objL L v = some o) : ∃ i, L[i]? = some o ∧ i < L.length ∧ isP v = true ∧ (offL L i : Int) = v / 8 := by
  unfold objL at h
  split at h
  · rename_i hc
    obtain ⟨i, hi, ho⟩ := atL_ix h
    exact ⟨i, hi, (List.getElem?_eq_some_iff.1 hi).1, hc.1, by omega⟩
  · cases h

theorem objL_none {L : List Ob} {v : Int} (h : objL L v = none) (hp : isP v = true) {i : Nat} (hi : i < L.length) : (offL L i : Int) ≠ v / 8 := by
  intro e
  have ha := atL_off (List.getElem?_eq_getElem hi)
  have hv : v % 8 = 5 := by simpa [isP] using hp
  unfold objL at h
  rw [if_pos ⟨hp, by omega⟩, ← e, Int.toNat_natCast, ha] at h
  cases h

theorem total_setL {L : List Ob} {k i : Nat} {v : Int} : total (setL L k i v) = total L := by
  induction L generalizing k with
  | nil => simp [setL]
  | cons p L ih =>
    unfold setL
    split
    · simp [total_cons]
    · split
      · rfl
      · rw [total_cons, total_cons, ih]

theorem setL_eq {L : List Ob} {i : Nat} {o : Ob} (h : L[i]? = some o) (j : Nat) (v : Int) : setL L (offL L i) j v = L.set i (o.1, o.2.set j v) := by
  induction L generalizing i with
  | nil => simp at h
  | cons p L ih =>
    cases i with
    | zero =>
      simp at h
      subst h
      simp [setL, offL_zero]
    | succ i =>
      simp at h
      rw [offL_cons]
      unfold setL
      rw [if_neg (by omega), if_neg (by omega), show p.2.length + 1 + offL L i - (p.2.length + 1) = offL L i by omega, ih h]
      rfl

/-- The cells of the reference's row of objects, from a place on. G: where each object's fields lie. -/
def ocells : Nat → List Ob → List (Nat × Nat) → List Value
  | k, o :: L, g :: G => .int .i64 k :: .int .i64 o.1 :: .slice (some ⟨g.1, 0, none⟩) o.2.length g.2 :: ocells (k + o.2.length + 1) L G
  | _, _, _ => []

theorem ocells_append : ∀ (k : Nat) (L : List Ob) (G : List (Nat × Nat)) (o : Ob) (g : Nat × Nat), G.length = L.length →
    ocells k (L ++ [o]) (G ++ [g]) = ocells k L G ++ [.int .i64 ((k + total L : Nat) : Int), .int .i64 o.1, .slice (some ⟨g.1, 0, none⟩) o.2.length g.2]
  | k, [], [], o, g, _ => by simp [ocells, total_nil]
  | k, p :: L, q :: G, o, g, h => by
    simp only [List.cons_append, ocells]
    rw [ocells_append _ L G o g (by simpa using h), total_cons]
    rw [show k + p.2.length + 1 + total L = k + (p.2.length + 1 + total L) by omega]
  | k, [], q :: G, o, g, h => by simp at h
  | k, p :: L, [], o, g, h => by simp at h

theorem ocells_get : ∀ (k : Nat) (L : List Ob) (G : List (Nat × Nat)) (i : Nat) (o : Ob) (g : Nat × Nat), L[i]? = some o → G[i]? = some g →
    (ocells k L G)[3 * i]? = some (.int .i64 ((k + offL L i : Nat) : Int)) ∧ (ocells k L G)[3 * i + 1]? = some (.int .i64 o.1) ∧ (ocells k L G)[3 * i + 2]? = some (.slice (some ⟨g.1, 0, none⟩) o.2.length g.2)
  | k, [], _, i, o, g, h, _ => by simp at h
  | k, _ :: _, [], i, o, g, _, h => by simp at h
  | k, p :: L, q :: G, 0, o, g, h, h' => by
    simp at h h'
    subst h h'
    simp [ocells, offL_zero]
  | k, p :: L, q :: G, i + 1, o, g, h, h' => by
    have := ocells_get (k + p.2.length + 1) L G i o g (by simpa using h) (by simpa using h')
    rw [offL_cons, show k + (p.2.length + 1 + offL L i) = k + p.2.length + 1 + offL L i by omega]
    simpa [ocells, Nat.mul_add, Nat.add_assoc] using this

theorem ocells_length : ∀ (k : Nat) (L : List Ob) (G : List (Nat × Nat)), G.length = L.length → (ocells k L G).length = L.length * 3
  | k, [], [], _ => rfl
  | k, p :: L, q :: G, h => by simp [ocells, ocells_length _ L G (by simpa using h)]; omega
  | k, [], q :: G, h => by simp at h
  | k, p :: L, [], h => by simp at h

theorem ocells_set : ∀ (k : Nat) (L : List Ob) (G : List (Nat × Nat)) (i : Nat) (o o' : Ob), L[i]? = some o → o'.1 = o.1 → o'.2.length = o.2.length → ocells k (L.set i o') G = ocells k L G
  | k, [], _, i, o, o', h, _, _ => by simp at h
  | k, p :: L, [], 0, o, o', h, _, _ => by simp [ocells]
  | k, p :: L, [], i + 1, o, o', h, _, _ => by simp [ocells]
  | k, p :: L, q :: G, 0, o, o', h, h1, h2 => by
    simp at h
    subst h
    simp [ocells, h1, h2]
  | k, p :: L, q :: G, i + 1, o, o', h, h1, h2 => by
    simp only [List.set_cons_succ, ocells]
    rw [ocells_set _ L G i o o' (by simpa using h) h1 h2]

end Go.Proofs.Ytkmfohocicngaaa
