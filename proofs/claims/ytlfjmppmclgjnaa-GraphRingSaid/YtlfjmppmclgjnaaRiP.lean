/- Rings and chains, plain. -/
import Derived.Test.YtlfjmppmclgjnaaPT
namespace Go.Proofs.Ytlfjmppmclgjnaa

/-- A ring of k things, and one that leans on it. -/
def ringR (k y : Nat) : List Int := if y < k then [((y : Int) + 1) % (k : Int)] else [0]
def ringG (k : Nat) : List (List Int) := (List.range (k + 1)).map (ringR k)
/-- A chain of k things. -/
def chainR (k y : Nat) : List Int := if y + 1 < k then [(y : Int) + 1] else []
def chainG (k : Nat) : List (List Int) := (List.range k).map (chainR k)

theorem ringG_len (k : Nat) : (ringG k).length = k + 1 := by simp [ringG]
theorem chainG_len (k : Nat) : (chainG k).length = k := by simp [chainG]
theorem ring_adj {k y : Nat} (h : y ≤ k) : adj (ringG k) y = ringR k y := adj_get (by unfold ringG; rw [List.getElem?_map, List.getElem?_range (by omega)]; rfl)
theorem chain_adj {k y : Nat} (h : y < k) : adj (chainG k) y = chainR k y := adj_get (by simp [chainG, h])

theorem mod_nat (a k : Nat) : ((a : Int) + 1) % (k : Int) = (((a + 1) % k : Nat) : Int) := by simp

theorem ring_ok {k : Nat} (hk : 0 < k) : GOk (ringG k) := by
  intro l hl x hx
  unfold ringG at hl
  obtain ⟨y, hy, rfl⟩ := List.mem_map.1 hl
  rw [ringG_len]
  unfold ringR at hx
  split at hx
  · obtain rfl := List.mem_singleton.1 hx
    rw [mod_nat]
    have := Nat.mod_lt (y + 1) hk
    omega
  · obtain rfl := List.mem_singleton.1 hx
    omega

theorem chain_ok (k : Nat) : GOk (chainG k) := by
  intro l hl x hx
  unfold chainG at hl
  obtain ⟨y, hy, rfl⟩ := List.mem_map.1 hl
  rw [chainG_len]
  unfold chainR at hx
  split at hx
  · obtain rfl := List.mem_singleton.1 hx
    omega
  · simp at hx

theorem wrong_of_ok {g : List (List Int)} (hg : GOk g) (hl : g.length ≤ 1000) : wrongB g [] = false := by
  unfold wrongB
  simp only [List.any_nil, Bool.or_false, Bool.or_eq_false_iff, decide_eq_false_iff_not, List.any_eq_false]
  refine ⟨by omega, fun l hl' => ?_⟩
  rw [Bool.not_eq_true, List.any_eq_false]
  intro x hx
  have := hg l hl' x hx
  unfold badB
  simp
  omega

section
variable {k : Nat}

theorem ring_led {x : Nat} (hk : 0 < k) (hx : x < k) (y : Nat) : Led (ringG k) [(x : Int)] y ↔ y < k := by
  constructor
  · intro h
    refine h.ind (fun y => y < k) (fun v hv => ?_) (fun z hz w hw => ?_)
    · obtain rfl := List.mem_singleton.1 hv; simpa using hx
    · rw [ring_adj (by omega)] at hw
      unfold ringR at hw
      rw [if_pos hz] at hw
      obtain rfl := List.mem_singleton.1 hw
      rw [mod_nat, Int.toNat_natCast]
      exact Nat.mod_lt _ hk
  · intro hy
    have key : ∀ j, Led (ringG k) [(x : Int)] ((x + j) % k) := by
      intro j
      induction j with
      | zero => rw [Nat.add_zero, Nat.mod_eq_of_lt hx]; exact led_refl _ _
      | succ j ih =>
        have hlt := Nat.mod_lt (x + j) hk
        have hm : ((((x + j) % k : Nat) : Int) + 1) % (k : Int) ∈ adj (ringG k) ((x + j) % k) := by
          rw [ring_adj (by omega)]; unfold ringR; rw [if_pos hlt]; exact List.mem_singleton.2 rfl
        have h1 := ih.step hm
        rw [mod_nat, Int.toNat_natCast, Nat.mod_add_mod] at h1
        exact h1
    have := key (y + k - x)
    rw [show x + (y + k - x) = y + k by omega, Nat.add_mod_right, Nat.mod_eq_of_lt hy] at this
    exact this

theorem ring_led2 (hk : 0 < k) (y : Nat) : Led (ringG k) [(k : Int)] y ↔ y ≤ k := by
  constructor
  · intro h
    refine h.ind (fun y => y ≤ k) (fun v hv => ?_) (fun z hz w hw => ?_)
    · obtain rfl := List.mem_singleton.1 hv; simp
    · rw [ring_adj hz] at hw
      unfold ringR at hw
      split at hw
      · obtain rfl := List.mem_singleton.1 hw
        rw [mod_nat, Int.toNat_natCast]
        exact Nat.le_of_lt (Nat.mod_lt _ hk)
      · obtain rfl := List.mem_singleton.1 hw
        simp
  · intro hy
    by_cases e : y = k
    · subst e; exact led_refl _ _
    · have h0 : (0 : Int) ∈ adj (ringG k) k := by rw [ring_adj (Nat.le_refl k)]; unfold ringR; rw [if_neg (by omega)]; simp
      have h1 := (led_refl (ringG k) k).step h0
      exact led_trans (y := 0) h1 (by omega) ((ring_led (x := 0) hk hk y).2 (by omega))

/-- The numbers below n. -/
def below (n : Nat) : List Int := (List.range n).map Int.ofNat

theorem below_lt (n : Nat) : (below n).Pairwise (fun a b => a < b) := by
  unfold below
  rw [List.pairwise_map]
  refine List.pairwise_lt_range.imp fun {a b} h => ?_
  show (a : Int) < (b : Int)
  omega

theorem below_mem {n : Nat} {v : Int} : v ∈ below n ↔ 0 ≤ v ∧ v < n := by
  unfold below
  rw [List.mem_map]
  constructor
  · rintro ⟨x, hx, rfl⟩
    have := List.mem_range.1 hx
    show 0 ≤ (x : Int) ∧ (x : Int) < n
    omega
  · rintro ⟨h0, h1⟩
    exact ⟨v.toNat, List.mem_range.2 (by omega), by show ((v.toNat : Nat) : Int) = v; omega⟩

theorem class_is {g : List (List Int)} {x : Nat} {xs : List Int} (hs : xs.Pairwise (fun a b => a < b)) (hm : ∀ v, v ∈ xs ↔ v ∈ classL g x) : classL g x = xs := by
  have hn : xs.Nodup := hs.imp fun h => by omega
  have hp : xs.Perm (classL g x) := (List.perm_ext_iff_of_nodup hn (class_nodup g x)).2 hm
  have h1 := sorted_class hp
  rw [← h1]
  refine List.Perm.eq_of_pairwise (le := fun a b => decide (a ≤ b) = true) (fun a b _ _ h1 h2 => by simp only [decide_eq_true_eq] at h1 h2; omega) (List.pairwise_mergeSort ?_ ?_ xs) (hs.imp fun {a b} h => by simp only [decide_eq_true_eq]; omega) (List.mergeSort_perm xs _)
  · intro a b c h1 h2; simp only [decide_eq_true_eq] at *; omega
  · intro a b; simp only [Bool.or_eq_true, decide_eq_true_eq]; omega

theorem ring_class {x : Nat} (hk : 0 < k) (hx : x < k) : classL (ringG k) x = below k := by
  refine class_is (below_lt k) fun v => ?_
  rw [below_mem, class_mem, ringG_len]
  constructor
  · rintro ⟨h0, h1⟩
    obtain ⟨z, rfl⟩ := Int.eq_ofNat_of_zero_le h0
    refine ⟨h0, by omega, (ring_led hk hx _).2 (by omega), (ring_led hk (by omega) _).2 hx⟩
  · rintro ⟨h0, h1, h2, h3⟩
    have := (ring_led hk hx _).1 h2
    omega

theorem ring_class2 (hk : 0 < k) : classL (ringG k) k = [(k : Int)] := by
  refine class_is (by simp) fun v => ?_
  rw [List.mem_singleton, class_mem, ringG_len]
  constructor
  · rintro rfl
    exact ⟨by omega, by omega, by rw [Int.toNat_natCast]; exact led_refl _ _, led_refl _ _⟩
  · rintro ⟨h0, h1, h2, h3⟩
    obtain ⟨z, rfl⟩ := Int.eq_ofNat_of_zero_le h0
    by_cases hz : z < k
    · have := (ring_led hk hz _).1 h3; omega
    · omega

theorem below_count (k n : Nat) (done : Nat → Bool) (h : k ≤ n) (hd : ∀ y, y < k → done y = false) : cntF n (addL done (below k)) + k = cntF n done := by
  have := cntF_addL (n := n) (below k) done ((below_lt k).imp fun h => by omega) (fun x hx => by
    obtain ⟨h0, h1⟩ := below_mem.1 hx
    exact ⟨h0, by omega, hd _ (by omega)⟩)
  rwa [show (below k).length = k by simp [below]] at this

theorem ring_groups (hk : 0 < k) : groupsAll (ringG k) = [below k, [(k : Int)]] := by
  have hg := ring_ok hk
  unfold groupsAll
  rw [ringG_len, groupsL.eq_2, ringG_len, cntF_none, if_neg (by omega)]
  have h0 : nextK (ringG k) (fun _ => false) = 0 := nextK_eq (by rw [ringG_len]; omega) rfl (ready_iff.2 fun v h0 h1 h2 => .inl (by
    have := (ring_led hk hk _).1 h2
    obtain ⟨z, rfl⟩ := Int.eq_ofNat_of_zero_le h0
    exact (ring_led hk (by simpa using this) _).2 hk)) (fun j hj => absurd hj (by omega))
  rw [h0, ring_class hk hk]
  have hc1 := below_count k (k + 1) (fun _ => false) (by omega) (fun _ _ => rfl)
  rw [cntF_none] at hc1
  obtain ⟨k', rfl⟩ : ∃ k', k = k' + 1 := ⟨k - 1, by omega⟩
  have hd1 : ∀ y, addL (fun _ => false) (below (k' + 1)) y = decide (y < k' + 1) := fun y => by
    rw [Bool.eq_iff_iff, addL_true]
    simp only [Bool.false_eq_true, false_or, decide_eq_true_eq]
    constructor
    · rintro ⟨x, hx, rfl⟩
      have := below_mem.1 hx; omega
    · intro h
      exact ⟨(y : Int), below_mem.2 ⟨by omega, by omega⟩, by simp⟩
  rw [groupsL.eq_2, ringG_len, if_neg (by omega)]
  have h1 : nextK (ringG (k' + 1)) (addL (fun _ => false) (below (k' + 1))) = k' + 1 := nextK_eq (by rw [ringG_len]; omega) (by rw [hd1]; simp) (ready_iff.2 fun v h0 h1 h2 => by
    rw [ringG_len] at h1
    obtain ⟨z, rfl⟩ := Int.eq_ofNat_of_zero_le h0
    rw [Int.toNat_natCast, hd1]
    by_cases hz : z < k' + 1
    · exact .inr (by simpa using hz)
    · obtain rfl : z = k' + 1 := by omega
      exact .inl (led_refl _ _)) (fun j hj => .inl (by rw [hd1]; simpa using hj))
  rw [h1, ring_class2 hk]
  have hc2 := cntF_addL (n := k' + 1 + 1) [((k' + 1 : Nat) : Int)] (addL (fun _ => false) (below (k' + 1))) (by simp) (fun x hx => by
    obtain rfl := List.mem_singleton.1 hx
    refine ⟨by omega, by omega, ?_⟩
    rw [hd1]; simp)
  have hc3 : cntF (ringG (k' + 1)).length (addL (addL (fun _ => false) (below (k' + 1))) [((k' + 1 : Nat) : Int)]) = 0 := by
    rw [ringG_len]
    simp only [List.length_cons, List.length_nil] at hc2
    omega
  congr 2
  cases k' with
  | zero => rw [groupsL.eq_1]
  | succ n => rw [groupsL.eq_2, if_pos hc3]

theorem chain_led {x : Nat} (hx : x < k) (y : Nat) : Led (chainG k) [(x : Int)] y ↔ x ≤ y ∧ y < k := by
  constructor
  · intro h
    refine h.ind (fun y => x ≤ y ∧ y < k) (fun v hv => ?_) (fun z hz w hw => ?_)
    · obtain rfl := List.mem_singleton.1 hv; simpa using hx
    · rw [chain_adj hz.2] at hw
      unfold chainR at hw
      split at hw
      · obtain rfl := List.mem_singleton.1 hw
        omega
      · simp at hw
  · rintro ⟨h1, h2⟩
    have key : ∀ j, x + j < k → Led (chainG k) [(x : Int)] (x + j) := by
      intro j
      induction j with
      | zero => intro _; exact led_refl _ _
      | succ j ih =>
        intro hj
        have hm : ((x + j : Nat) : Int) + 1 ∈ adj (chainG k) (x + j) := by
          rw [chain_adj (by omega)]; unfold chainR; rw [if_pos (by omega)]; exact List.mem_singleton.2 rfl
        have h1 := (ih (by omega)).step hm
        rwa [show (((x + j : Nat) : Int) + 1).toNat = x + (j + 1) by omega] at h1
    have := key (y - x) (by omega)
    rwa [show x + (y - x) = y by omega] at this

theorem chain_class {x : Nat} (hx : x < k) : classL (chainG k) x = [(x : Int)] := by
  refine class_is (by simp) fun v => ?_
  rw [List.mem_singleton, class_mem, chainG_len]
  constructor
  · rintro rfl
    exact ⟨by omega, by omega, by rw [Int.toNat_natCast]; exact led_refl _ _, led_refl _ _⟩
  · rintro ⟨h0, h1, h2, h3⟩
    obtain ⟨z, rfl⟩ := Int.eq_ofNat_of_zero_le h0
    rw [Int.toNat_natCast] at h2
    have := (chain_led hx _).1 h2
    have := (chain_led (x := z) (by omega) _).1 h3
    omega

theorem chain_run : ∀ (m : Nat) (done : Nat → Bool), m ≤ k → (∀ y, y < k → done y = decide (m ≤ y)) → cntF k done = m → groupsL (chainG k) m done = (List.range m).reverse.map (fun x : Nat => [(x : Int)])
  | 0, done, _, _, _ => by rw [groupsL.eq_1]; rfl
  | m + 1, done, hm, hd, hc => by
    rw [groupsL.eq_2, chainG_len, hc, if_neg (by omega)]
    have hn : nextK (chainG k) done = m := nextK_eq (by rw [chainG_len]; omega) (by rw [hd m (by omega)]; simp) (ready_iff.2 fun v h0 h1 h2 => by
      rw [chainG_len] at h1
      obtain ⟨z, rfl⟩ := Int.eq_ofNat_of_zero_le h0
      rw [Int.toNat_natCast] at h2 ⊢
      have := (chain_led (by omega) _).1 h2
      by_cases e : z = m
      · subst e; exact .inl (led_refl _ _)
      · exact .inr (by rw [hd z (by omega)]; simp; omega)) (fun j hj => .inr (by
        cases hr : readyB (chainG k) done j with
        | false => rfl
        | true =>
          exfalso
          rcases ready_iff.1 hr ((j : Int) + 1) (by omega) (by rw [chainG_len]; omega) (by
            rw [show ((j : Int) + 1).toNat = j + 1 by omega]
            exact (chain_led (by omega) _).2 ⟨by omega, by omega⟩) with h | h
          · have h' : Led (chainG k) [((j + 1 : Nat) : Int)] j := h
            have := (chain_led (x := j + 1) (by omega) _).1 h'
            omega
          · rw [show ((j : Int) + 1).toNat = j + 1 by omega, hd (j + 1) (by omega)] at h
            simp at h
            omega))
    rw [hn, chain_class (by omega)]
    have hf : ∀ x ∈ [((m : Nat) : Int)], 0 ≤ x ∧ x < (k : Int) ∧ done x.toNat = false := fun x hx => by
      obtain rfl := List.mem_singleton.1 hx
      exact ⟨by omega, by omega, by rw [Int.toNat_natCast, hd m (by omega)]; simp⟩
    have hc2 := cntF_addL (n := k) [((m : Nat) : Int)] done (by simp) hf
    rw [chain_run m _ (by omega) (fun y hy => by
      rw [Bool.eq_iff_iff, addL_true, hd y hy]
      simp only [decide_eq_true_eq, List.mem_singleton]
      constructor
      · rintro (h | ⟨x, rfl, rfl⟩)
        · omega
        · simp
      · intro h
        by_cases e : y = m
        · exact .inr ⟨(m : Int), rfl, by omega⟩
        · exact .inl (by omega)) (by simp at hc2; omega)]
    rw [List.range_succ, List.reverse_append]
    rfl

theorem chain_groups (k : Nat) : groupsAll (chainG k) = (List.range k).reverse.map (fun x : Nat => [(x : Int)]) := by
  unfold groupsAll
  rw [chainG_len]
  exact chain_run k _ (Nat.le_refl k) (fun y hy => by simp; omega) (cntF_none k)

theorem chain_at {i : Nat} (h : i < k) : ((List.range k).reverse.map (fun x : Nat => [(x : Int)]))[i]? = some [(k : Int) - 1 - i] := by
  rw [List.getElem?_map, List.getElem?_reverse (by simpa using h)]
  simp only [List.length_range]
  rw [List.getElem?_range (by omega)]
  simp
  omega

theorem ring_edges (k : Nat) (hk : k ≤ 64) : edges (ringG k) ≤ 1000000 := by
  have := edges_le (g := ringG k) (c := 1) (fun l hl => by
    unfold ringG at hl
    obtain ⟨y, hy, rfl⟩ := List.mem_map.1 hl
    unfold ringR
    split <;> simp)
  rw [ringG_len] at this
  omega

theorem chain_edges (k : Nat) (hk : k ≤ 64) : edges (chainG k) ≤ 1000000 := by
  have := edges_le (g := chainG k) (c := 1) (fun l hl => by
    unfold chainG at hl
    obtain ⟨y, hy, rfl⟩ := List.mem_map.1 hl
    unfold chainR
    split <;> simp)
  rw [chainG_len] at this
  omega
end
end Go.Proofs.Ytlfjmppmclgjnaa
