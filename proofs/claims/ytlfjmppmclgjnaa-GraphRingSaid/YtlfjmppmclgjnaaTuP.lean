/- A graph turned about, plain. -/
import Derived.Test.YtlfjmppmclgjnaaPT
namespace Go.Proofs.Ytlfjmppmclgjnaa

/-- One more leans on y. -/
def bpush (bk : Nat → List Int) (y : Nat) (x : Int) : Nat → List Int := fun z => if z = y then bk z ++ [x] else bk z

/-- Where the turning stands: all of the first i things, and k of what the next leans on. -/
structure BkSt (g : List (List Int)) (i k : Nat) (bk : Nat → List Int) : Prop where
  mem : ∀ (y : Nat) (z : Int), z ∈ bk y ↔ ∃ x : Nat, z = (x : Int) ∧ ((x < i ∧ (y : Int) ∈ adj g x) ∨ (x = i ∧ (y : Int) ∈ (adj g i).take k))
  len : ∀ y, (bk y).length ≤ i * 100 + k

theorem BkSt.start (g : List (List Int)) : BkSt g 0 0 (fun _ => []) :=
  ⟨fun y z => by simp, fun y => by simp⟩

section
variable {g : List (List Int)} {i k : Nat} {bk : Nat → List Int}

theorem BkSt.push (h : BkSt g i k bk) (hk : k < (adj g i).length) {x : Nat} (hx : (x : Int) = (adj g i)[k]) : BkSt g i (k + 1) (bpush bk x (i : Int)) := by
  have htk : (adj g i).take (k + 1) = (adj g i).take k ++ [(x : Int)] := by rw [List.take_succ_eq_append_getElem hk, hx]
  refine ⟨fun y z => ?_, fun y => ?_⟩
  · unfold bpush
    by_cases hy : y = x
    · subst hy
      rw [if_pos rfl, List.mem_append, h.mem, htk]
      constructor
      · rintro (⟨x, hz, h1⟩ | h1)
        · exact ⟨x, hz, h1.imp id fun ⟨h2, h3⟩ => ⟨h2, List.mem_append_left _ h3⟩⟩
        · exact ⟨i, List.mem_singleton.1 h1, .inr ⟨rfl, by simp⟩⟩
      · rintro ⟨x, hz, h1 | ⟨h1, h2⟩⟩
        · exact .inl ⟨x, hz, .inl h1⟩
        · rcases List.mem_append.1 h2 with h2 | h2
          · exact .inl ⟨x, hz, .inr ⟨h1, h2⟩⟩
          · exact .inr (by rw [hz, h1]; simp)
    · rw [if_neg hy, h.mem, htk]
      constructor
      · rintro ⟨x, hz, h1⟩
        exact ⟨x, hz, h1.imp id fun ⟨h2, h3⟩ => ⟨h2, List.mem_append_left _ h3⟩⟩
      · rintro ⟨x', hz, h1 | ⟨h1, h2⟩⟩
        · exact ⟨x', hz, .inl h1⟩
        · rcases List.mem_append.1 h2 with h2 | h2
          · exact ⟨x', hz, .inr ⟨h1, h2⟩⟩
          · exact absurd (by have := List.mem_singleton.1 h2; omega) hy
  · have := h.len y
    unfold bpush
    split
    · rw [List.length_append]; simp; omega
    · omega

theorem BkSt.next (h : BkSt g i k bk) (hk : (adj g i).length ≤ k) (hl : k ≤ 100) : BkSt g (i + 1) 0 bk := by
  have htk : (adj g i).take k = adj g i := List.take_of_length_le hk
  refine ⟨fun y z => ?_, fun y => by have := h.len y; omega⟩
  rw [h.mem, htk]
  constructor
  · rintro ⟨x, hz, ⟨h1, h2⟩ | ⟨h1, h2⟩⟩
    · exact ⟨x, hz, .inl ⟨by omega, h2⟩⟩
    · exact ⟨x, hz, .inl ⟨by omega, by rw [h1]; exact h2⟩⟩
  · rintro ⟨x, hz, ⟨h1, h2⟩ | ⟨h1, h2⟩⟩
    · by_cases hxi : x < i
      · exact ⟨x, hz, .inl ⟨hxi, h2⟩⟩
      · obtain rfl : x = i := by omega
        exact ⟨x, hz, .inr ⟨rfl, h2⟩⟩
    · simp at h2
end

/-- The turned graph. -/
def backG (n : Nat) (bk : Nat → List Int) : List (List Int) := (List.range n).map bk

theorem backG_len (n : Nat) (bk : Nat → List Int) : (backG n bk).length = n := by simp [backG]

theorem backG_adj {n : Nat} {bk : Nat → List Int} {y : Nat} (h : y < n) : adj (backG n bk) y = bk y := adj_get (by simp [backG, h])

section
variable {g : List (List Int)} {bk : Nat → List Int}

theorem back_adj (h : BkSt g g.length 0 bk) {y : Nat} (hy : y < g.length) {z : Int} : z ∈ adj (backG g.length bk) y ↔ ∃ x : Nat, z = (x : Int) ∧ x < g.length ∧ (y : Int) ∈ adj g x := by
  rw [backG_adj hy, h.mem]
  constructor
  · rintro ⟨x, hz, ⟨h1, h2⟩ | ⟨h1, h2⟩⟩
    · exact ⟨x, hz, h1, h2⟩
    · simp at h2
  · rintro ⟨x, hz, h1, h2⟩
    exact ⟨x, hz, .inl ⟨h1, h2⟩⟩

theorem back_ok (h : BkSt g g.length 0 bk) : GOk (backG g.length bk) := by
  intro l hl z hz
  obtain ⟨y, hy, rfl⟩ := List.getElem_of_mem hl
  rw [backG_len] at hy ⊢
  have e : (backG g.length bk)[y] = adj (backG g.length bk) y := (adj_get (List.getElem?_eq_getElem _)).symm
  rw [e] at hz
  obtain ⟨x, rfl, h1, _⟩ := (back_adj h hy).1 hz
  omega

theorem back_wrong (h : BkSt g g.length 0 bk) (hl : g.length ≤ 1000) : wrongB (backG g.length bk) [] = false := by
  unfold wrongB
  have h1 := back_ok h
  simp only [List.any_nil, Bool.or_false, Bool.or_eq_false_iff, decide_eq_false_iff_not, List.any_eq_false]
  refine ⟨by rw [backG_len]; omega, fun l hl' => ?_⟩
  rw [Bool.not_eq_true, List.any_eq_false]
  intro x hx
  have := h1 l hl' x hx
  unfold badB
  simp
  omega

theorem back_edges (h : BkSt g g.length 0 bk) (hl : g.length ≤ 40) : edges (backG g.length bk) ≤ 1000000 := by
  have := edges_le (g := backG g.length bk) (c := 4000) (fun l hl' => by
    obtain ⟨y, hy, rfl⟩ := List.getElem_of_mem hl'
    have hb := h.len y
    simp [backG]
    omega)
  rw [backG_len] at this
  have := Nat.mul_le_mul_right 4000 hl
  omega

theorem led_back1 (h : BkSt g g.length 0 bk) {x y : Nat} (hx : x < g.length) (hl : Led (backG g.length bk) [(x : Int)] y) : y < g.length ∧ Led g [(y : Int)] x := by
  refine hl.ind (fun z => z < g.length ∧ Led g [(z : Int)] x) (fun v hv => ?_) (fun z hz w hw => ?_)
  · obtain rfl := List.mem_singleton.1 hv
    exact ⟨by simpa using hx, by simpa using led_refl g x⟩
  · obtain ⟨v, rfl, h1, h2⟩ := (back_adj h hz.1).1 hw
    refine ⟨by simpa using h1, ?_⟩
    rw [Int.toNat_natCast]
    have := (led_refl g v).step h2
    exact led_trans (y := (z : Int)) this (by omega) hz.2

theorem led_back2 (hg : GOk g) (h : BkSt g g.length 0 bk) {x y : Nat} (hy : y < g.length) (hl : Led g [(y : Int)] x) : x < g.length ∧ Led (backG g.length bk) [(x : Int)] y := by
  refine hl.ind (fun z => z < g.length ∧ Led (backG g.length bk) [(z : Int)] y) (fun v hv => ?_) (fun z hz w hw => ?_)
  · obtain rfl := List.mem_singleton.1 hv
    exact ⟨by simpa using hy, by simpa using led_refl _ y⟩
  · obtain ⟨hw0, hw1⟩ := adj_ok hg hw
    obtain ⟨v, rfl⟩ := Int.eq_ofNat_of_zero_le hw0
    rw [Int.toNat_natCast]
    refine ⟨by omega, ?_⟩
    have hm : (z : Int) ∈ adj (backG g.length bk) v := (back_adj h (by omega)).2 ⟨z, rfl, hz.1, hw⟩
    have := (led_refl (backG g.length bk) v).step hm
    exact led_trans (y := (z : Int)) this (by omega) hz.2

theorem led_back (hg : GOk g) (h : BkSt g g.length 0 bk) {x y : Nat} (hx : x < g.length) (hy : y < g.length) : Led (backG g.length bk) [(x : Int)] y ↔ Led g [(y : Int)] x :=
  ⟨fun hl => (led_back1 h hx hl).2, fun hl => (led_back2 hg h hy hl).2⟩

theorem class_back (hg : GOk g) (h : BkSt g g.length 0 bk) {k : Nat} (hk : k < g.length) : classL (backG g.length bk) k = classL g k := by
  have hp : (classL (backG g.length bk) k).Perm (classL g k) := by
    rw [List.perm_ext_iff_of_nodup (class_nodup _ _) (class_nodup _ _)]
    intro v
    rw [class_mem, class_mem, backG_len]
    constructor
    · rintro ⟨h0, h1, h2, h3⟩
      obtain ⟨x, rfl⟩ := Int.eq_ofNat_of_zero_le h0
      rw [Int.toNat_natCast] at h2 ⊢
      exact ⟨h0, h1, (led_back hg h (by omega) hk).1 h3, (led_back hg h hk (by omega)).1 h2⟩
    · rintro ⟨h0, h1, h2, h3⟩
      obtain ⟨x, rfl⟩ := Int.eq_ofNat_of_zero_le h0
      rw [Int.toNat_natCast] at h2 ⊢
      exact ⟨h0, h1, (led_back hg h hk (by omega)).2 h3, (led_back hg h (by omega) hk).2 h2⟩
  rw [← sorted_class (List.Perm.refl (classL (backG g.length bk) k)), sorted_class hp]
end

theorem class_same {g : List (List Int)} {k x : Nat} (hx : (x : Int) ∈ classL g k) : classL g x = classL g k := by
  obtain ⟨h0, h1, h2, h3⟩ := class_mem.1 hx
  rw [Int.toNat_natCast] at h2
  have hp : (classL g x).Perm (classL g k) := by
    rw [List.perm_ext_iff_of_nodup (class_nodup _ _) (class_nodup _ _)]
    intro v
    rw [class_mem, class_mem]
    constructor
    · rintro ⟨g0, g1, g2, g3⟩
      obtain ⟨z, rfl⟩ := Int.eq_ofNat_of_zero_le g0
      rw [Int.toNat_natCast] at g2 ⊢
      exact ⟨g0, g1, led_trans (y := (x : Int)) (by simpa using h2) h0 g2, led_trans (y := (x : Int)) (by simpa using g3) h0 h3⟩
    · rintro ⟨g0, g1, g2, g3⟩
      obtain ⟨z, rfl⟩ := Int.eq_ofNat_of_zero_le g0
      rw [Int.toNat_natCast] at g2 ⊢
      exact ⟨g0, g1, led_trans (y := (k : Int)) (by simpa using h3) (by omega) g2, led_trans (y := (k : Int)) (by simpa using g3) (by omega) h2⟩
  rw [← sorted_class (List.Perm.refl (classL g x)), sorted_class hp]

/-- The least thing of a thing's group. -/
noncomputable def leastOf (g : List (List Int)) (x : Nat) : Int := (classL g x).headD 0

theorem Parts.row {g gs : List (List Int)} (hp : Parts g gs) {j : Nat} {xs : List Int} (hj : gs[j]? = some xs) {x : Nat} (hx : (x : Int) ∈ xs) : xs = classL g x := by
  obtain ⟨k, _, rfl⟩ := hp.is xs (List.mem_of_getElem? hj)
  exact (class_same hx).symm

theorem headD_mem {xs : List Int} (h : xs ≠ []) : xs.headD 0 ∈ xs := by
  cases xs with
  | nil => exact absurd rfl h
  | cons x xs => simp

theorem Parts.heads {g gs : List (List Int)} (hp : Parts g gs) : (gs.map fun xs => xs.headD 0).Perm (((List.range g.length).filter fun (x : Nat) => decide (leastOf g x = (x : Int))).map Int.ofNat) := by
  have hne : ∀ xs ∈ gs, xs ≠ [] := fun xs hxs => by
    obtain ⟨k, hk, rfl⟩ := hp.is xs hxs
    exact List.ne_nil_of_mem (class_self hk)
  have hn1 : (gs.map fun xs => xs.headD 0).Nodup := by
    rw [List.nodup_iff_pairwise_ne, List.pairwise_iff_getElem]
    intro a b ha hb hab e
    simp only [List.length_map] at ha hb
    simp only [List.getElem_map] at e
    have h1 := headD_mem (hne _ (List.getElem_mem ha))
    have h2 := headD_mem (hne _ (List.getElem_mem hb))
    rw [← e] at h2
    have := hp.disj a b _ _ (List.getElem?_eq_getElem ha) (List.getElem?_eq_getElem hb) _ h1 h2
    omega
  have hn2 : (((List.range g.length).filter fun (x : Nat) => decide (leastOf g x = (x : Int))).map Int.ofNat).Nodup := by
    rw [List.nodup_iff_pairwise_ne, List.pairwise_map]
    refine (List.nodup_iff_pairwise_ne.1 (List.Sublist.nodup List.filter_sublist List.nodup_range)).imp fun {a b} h e => h ?_
    injection e
  rw [List.perm_ext_iff_of_nodup hn1 hn2]
  intro v
  simp only [List.mem_map, List.mem_filter, List.mem_range, decide_eq_true_eq]
  constructor
  · rintro ⟨xs, hxs, rfl⟩
    have hm := headD_mem (hne xs hxs)
    obtain ⟨j, hj, rfl⟩ := List.getElem_of_mem hxs
    obtain ⟨k, hk, hc⟩ := hp.is _ hxs
    rw [hc] at hm
    obtain ⟨h0, h1, _⟩ := class_mem.1 hm
    rw [← hc] at hm h0 h1
    obtain ⟨x, hx⟩ := Int.eq_ofNat_of_zero_le h0
    refine ⟨x, ⟨by omega, ?_⟩, hx.symm⟩
    rw [hx] at hm
    unfold leastOf
    rw [← hp.row (List.getElem?_eq_getElem hj) hm]
    exact hx
  · rintro ⟨x, ⟨h1, h2⟩, rfl⟩
    obtain ⟨j, xs, h3, h4⟩ := hp.cover x h1
    refine ⟨xs, List.mem_of_getElem? h3, ?_⟩
    rw [hp.row h3 h4]
    exact h2

theorem parts_same {g g' gs gs' : List (List Int)} (hp : Parts g gs) (hp' : Parts g' gs') (hl : g'.length = g.length) (hc : ∀ x, x < g.length → classL g' x = classL g x) : gs'.length = gs.length := by
  have h1 := hp.heads.length_eq
  have h2 := hp'.heads.length_eq
  have e : ((List.range g'.length).filter fun (x : Nat) => decide (leastOf g' x = (x : Int))) = ((List.range g.length).filter fun (x : Nat) => decide (leastOf g x = (x : Int))) := by
    rw [hl]
    apply List.filter_congr
    intro x hx
    unfold leastOf
    rw [hc x (List.mem_range.1 hx)]
  rw [e] at h2
  simp only [List.length_map] at h1 h2
  omega

theorem least_rng {g : List (List Int)} {x : Nat} (hx : x < g.length) : 0 ≤ leastOf g x ∧ leastOf g x < g.length := by
  unfold leastOf
  have := headD_mem (List.ne_nil_of_mem (class_self hx))
  obtain ⟨h0, h1, _⟩ := class_mem.1 this
  exact ⟨h0, h1⟩

end Go.Proofs.Ytlfjmppmclgjnaa
