/- The parts of a graph, plain. -/
import Derived.Test.YtlfjmppmclgjnaaGP
namespace Go.Proofs.Ytlfjmppmclgjnaa

/-- What the groups so far are. -/
structure PInv (g : List (List Int)) (gs : List (List Int)) (done : Nat → Bool) : Prop where
  ok : DoneOk g done
  mem : ∀ y : Nat, done y = true ↔ ∃ xs ∈ gs, (y : Int) ∈ xs
  is : ∀ xs ∈ gs, ∃ k, k < g.length ∧ xs = classL g k
  disj : gs.Pairwise (fun xs ys => ∀ x ∈ xs, x ∉ ys)
  order : ∀ (j : Nat) (xs : List Int), gs[j]? = some xs → ∀ x ∈ xs, ∀ y : Nat, Led g [x] y → ∃ j' ys, j' ≤ j ∧ gs[j']? = some ys ∧ (y : Int) ∈ ys
  count : (gs.map List.length).sum + cntF g.length done = g.length

theorem PInv.start (g : List (List Int)) : PInv g [] (fun _ => false) :=
  ⟨fun x y h => by simp at h, fun y => by simp, fun xs h => by simp at h, List.Pairwise.nil, fun j xs h => by simp at h, by rw [cntF_none]; simp⟩

theorem PInv.pos {g gs : List (List Int)} {done : Nat → Bool} (h : PInv g gs done) {xs : List Int} (hx : xs ∈ gs) {x : Int} (hxx : x ∈ xs) : 0 ≤ x ∧ x < g.length := by
  obtain ⟨k, _, rfl⟩ := h.is xs hx
  exact ⟨(class_mem.1 hxx).1, (class_mem.1 hxx).2.1⟩

theorem PInv.next {g gs : List (List Int)} {done : Nat → Bool} {k : Nat} (hg : GOk g) (h : PInv g gs done) (hk : k < g.length) (hd : done k = false) (hr : readyB g done k = true) : PInv g (gs ++ [classL g k]) (addL done (classL g k)) := by
  have hfr := class_fresh h.ok hd
  refine ⟨h.ok.next hg hk hr, fun y => ?_, fun xs hxs => ?_, ?_, fun j xs hj x hx y hl => ?_, ?_⟩
  · rw [addL_true]
    constructor
    · rintro (hy | ⟨x, hx, rfl⟩)
      · obtain ⟨xs, h1, h2⟩ := (h.mem y).1 hy
        exact ⟨xs, by simp [h1], h2⟩
      · exact ⟨classL g k, by simp, by have := (hfr x hx).1; rw [show ((x.toNat : Nat) : Int) = x by omega]; exact hx⟩
    · rintro ⟨xs, h1, h2⟩
      rcases List.mem_append.1 h1 with h1 | h1
      · exact .inl ((h.mem y).2 ⟨xs, h1, h2⟩)
      · obtain rfl := List.mem_singleton.1 h1
        exact .inr ⟨(y : Int), h2, by simp⟩
  · rcases List.mem_append.1 hxs with hxs | hxs
    · exact h.is xs hxs
    · obtain rfl := List.mem_singleton.1 hxs; exact ⟨k, hk, rfl⟩
  · rw [List.pairwise_append]
    refine ⟨h.disj, by simp, fun xs hxs ys hys x hx hxc => ?_⟩
    obtain rfl := List.mem_singleton.1 hys
    have h0 := (h.pos hxs hx).1
    have := (h.mem x.toNat).2 ⟨xs, hxs, by rw [show ((x.toNat : Nat) : Int) = x by omega]; exact hx⟩
    rw [(hfr x hxc).2.2] at this
    simp at this
  · rcases Nat.lt_or_ge j gs.length with hlt | hge
    · rw [List.getElem?_append_left hlt] at hj
      obtain ⟨j', ys, h1, h2, h3⟩ := h.order j xs hj x hx y hl
      exact ⟨j', ys, h1, by rw [List.getElem?_append_left (by omega)]; exact h2, h3⟩
    · have hj2 : j = gs.length := by
        have := (List.getElem?_eq_some_iff.1 hj).1
        simp at this; omega
      subst hj2
      have hxs : classL g k = xs := by simpa using hj
      subst hxs
      obtain ⟨h0, h1, h2, h3⟩ := class_mem.1 hx
      have hky := led_trans h2 h0 hl
      have hyl : y < g.length := Led.lt hg (fun z hz => by obtain rfl := List.mem_singleton.1 hz; omega) hky
      rcases ready_iff.1 hr (y : Int) (by omega) (by omega) (by simpa using hky) with hb | hb
      · exact ⟨gs.length, classL g k, Nat.le_refl _, by simp, class_mem.2 ⟨by omega, by omega, by simpa using hky, hb⟩⟩
      · obtain ⟨ys, h4, h5⟩ := (h.mem y).1 (by simpa using hb)
        obtain ⟨j', hj', rfl⟩ := List.getElem_of_mem h4
        exact ⟨j', gs[j'], by omega, by rw [List.getElem?_append_left hj', List.getElem?_eq_getElem hj'], h5⟩
  · have h1 := h.count
    have h2 := cntF_addL (n := g.length) (classL g k) done (class_nodup g k) hfr
    rw [List.map_append, List.sum_append]
    simp
    omega

theorem nextK_spec {g : List (List Int)} {done : Nat → Bool} (h : ∃ k, k < g.length ∧ done k = false ∧ readyB g done k = true) : nextK g done < g.length ∧ done (nextK g done) = false ∧ readyB g done (nextK g done) = true := by
  unfold nextK
  cases hf : (List.range g.length).find? fun k => !done k && readyB g done k with
  | none =>
    obtain ⟨k, h1, h2, h3⟩ := h
    rw [List.find?_eq_none] at hf
    have := hf k (List.mem_range.2 h1)
    simp [h2, h3] at this
  | some k =>
    have h1 := List.find?_some hf
    simp only [Bool.and_eq_true, Bool.not_eq_true'] at h1
    exact ⟨List.mem_range.1 (List.mem_of_find?_eq_some hf), h1⟩

theorem PInv.run {g : List (List Int)} (hg : GOk g) : ∀ (fuel : Nat) (gs : List (List Int)) (done : Nat → Bool), PInv g gs done → cntF g.length done ≤ fuel → ∃ done', PInv g (gs ++ groupsL g fuel done) done' ∧ cntF g.length done' = 0
  | 0, gs, done, h, hc => ⟨done, by rw [groupsL.eq_1, List.append_nil]; exact h, by omega⟩
  | fuel + 1, gs, done, h, hc => by
    rw [groupsL.eq_2]
    by_cases h0 : cntF g.length done = 0
    · rw [if_pos h0, List.append_nil]; exact ⟨done, h, h0⟩
    · rw [if_neg h0]
      obtain ⟨h1, h2, h3⟩ := nextK_spec (GrpSt.some (gs := gs) hg h0)
      have hn := h.next hg h1 h2 h3
      have hcn := cntF_addL (n := g.length) (classL g (nextK g done)) done (class_nodup g _) (class_fresh h.ok h2)
      have hpos : 0 < (classL g (nextK g done)).length := List.length_pos_of_mem (class_self h1)
      obtain ⟨d, h4, h5⟩ := PInv.run hg fuel _ _ hn (by omega)
      rw [List.append_assoc] at h4
      exact ⟨d, h4, h5⟩

/-- The groups of a graph. -/
structure Parts (g gs : List (List Int)) : Prop where
  is : ∀ xs ∈ gs, ∃ k, k < g.length ∧ xs = classL g k
  disj : ∀ (a b : Nat) (xs ys : List Int), gs[a]? = some xs → gs[b]? = some ys → ∀ z ∈ xs, z ∈ ys → a = b
  order : ∀ (j : Nat) (xs : List Int), gs[j]? = some xs → ∀ x ∈ xs, ∀ y : Nat, Led g [x] y → ∃ j' ys, j' ≤ j ∧ gs[j']? = some ys ∧ (y : Int) ∈ ys
  cover : ∀ y : Nat, y < g.length → ∃ (j : Nat) (xs : List Int), gs[j]? = some xs ∧ (y : Int) ∈ xs
  count : (gs.map List.length).sum = g.length

theorem groups_parts {g : List (List Int)} (hg : GOk g) : Parts g (groupsAll g) := by
  obtain ⟨d, h, hc⟩ := PInv.run hg g.length [] (fun _ => false) (PInv.start g) (by rw [cntF_none]; exact Nat.le_refl _)
  rw [List.nil_append] at h
  have h : PInv g (groupsAll g) d := h
  refine ⟨h.is, fun a b xs ys ha hb z hz hz' => ?_, h.order, fun y hy => ?_, by have := h.count; omega⟩
  · obtain ⟨ha1, rfl⟩ := List.getElem?_eq_some_iff.1 ha
    obtain ⟨hb1, rfl⟩ := List.getElem?_eq_some_iff.1 hb
    have hp := List.pairwise_iff_getElem.1 h.disj
    rcases Nat.lt_trichotomy a b with hab | hab | hab
    · exact absurd hz' (hp a b ha1 hb1 hab z hz)
    · exact hab
    · exact absurd hz (hp b a hb1 ha1 hab z hz')
  · obtain ⟨xs, h1, h2⟩ := (h.mem y).1 (cntF_zero hc y hy)
    obtain ⟨j, hj, rfl⟩ := List.getElem_of_mem h1
    exact ⟨j, _, List.getElem?_eq_getElem hj, h2⟩

/-- Where the numbering stands: i groups, and k of the next. -/
def AtSt (gs : List (List Int)) (i k : Nat) (f : Nat → Nat) : Prop :=
  ∀ y : Nat, (∀ j, f y = j + 1 → (j < i ∧ ∃ xs, gs[j]? = some xs ∧ (y : Int) ∈ xs) ∨ (j = i ∧ ∃ xs, gs[i]? = some xs ∧ (y : Int) ∈ xs.take k)) ∧
    (f y = 0 → (∀ j xs, j < i → gs[j]? = some xs → (y : Int) ∉ xs) ∧ ∀ xs, gs[i]? = some xs → (y : Int) ∉ xs.take k)

theorem AtSt.start (gs : List (List Int)) : AtSt gs 0 0 (fun _ => 0) := fun y => ⟨fun j h => by simp at h, fun _ => ⟨fun j xs h => by omega, fun xs _ => by simp⟩⟩

theorem nodup_take {xs : List Int} (h : xs.Nodup) {k : Nat} (hk : k < xs.length) : xs[k] ∉ xs.take k := by
  intro hm
  obtain ⟨j, hj, e⟩ := List.getElem_of_mem hm
  rw [List.getElem_take] at e
  have hj' : j < k := by simp at hj; omega
  have := (List.nodup_iff_pairwise_ne.1 h)
  exact (List.pairwise_iff_getElem.1 this) j k (by omega) hk hj' e

section
variable {g gs : List (List Int)} {i k : Nat} {f : Nat → Nat}

theorem AtSt.fresh (hp : Parts g gs) (h : AtSt gs i k f) {xs : List Int} (hi : gs[i]? = some xs) (hk : k < xs.length) {x : Nat} (hx : (x : Int) = xs[k]) : f x = 0 := by
  cases hf : f x with
  | zero => rfl
  | succ j =>
    exfalso
    rcases (h x).1 j hf with ⟨hj, ys, h1, h2⟩ | ⟨rfl, ys, h1, h2⟩
    · have := hp.disj j i ys xs h1 hi (x : Int) h2 (by rw [hx]; exact List.getElem_mem _)
      omega
    · rw [hi] at h1
      injection h1 with h1
      subst h1
      obtain ⟨k0, _, rfl⟩ := hp.is xs (List.mem_of_getElem? hi)
      rw [hx] at h2
      exact nodup_take (class_nodup g k0) hk h2

theorem AtSt.mark (h : AtSt gs i k f) {xs : List Int} (hi : gs[i]? = some xs) (hk : k < xs.length) {x : Nat} (hx : (x : Int) = xs[k]) : AtSt gs i (k + 1) (fun y => if y = x then i + 1 else f y) := by
  intro y
  have htk : xs.take (k + 1) = xs.take k ++ [(x : Int)] := by rw [List.take_succ_eq_append_getElem hk, hx]
  by_cases hy : y = x
  · subst hy
    simp only [if_true]
    refine ⟨fun j hj => .inr ⟨by omega, xs, hi, by rw [htk]; simp⟩, fun h0 => by omega⟩
  · simp only [if_neg hy]
    refine ⟨fun j hj => ?_, fun h0 => ⟨((h y).2 h0).1, fun ys hys => ?_⟩⟩
    · rcases (h y).1 j hj with h1 | ⟨h1, ys, h2, h3⟩
      · exact .inl h1
      · refine .inr ⟨h1, ys, h2, ?_⟩
        rw [hi] at h2; injection h2 with h2; subst h2
        rw [htk]; exact List.mem_append_left _ h3
    · rw [hi] at hys; injection hys with hys; subst hys
      rw [htk, List.mem_append]
      rintro (h1 | h1)
      · exact ((h y).2 h0).2 xs hi h1
      · have := List.mem_singleton.1 h1
        omega

theorem AtSt.next (h : AtSt gs i k f) {xs : List Int} (hi : gs[i]? = some xs) (hk : xs.length ≤ k) : AtSt gs (i + 1) 0 f := by
  intro y
  have htk : xs.take k = xs := List.take_of_length_le hk
  refine ⟨fun j hj => ?_, fun h0 => ⟨fun j ys hj hy => ?_, fun ys _ => by simp⟩⟩
  · rcases (h y).1 j hj with ⟨h1, h2⟩ | ⟨rfl, ys, h2, h3⟩
    · exact .inl ⟨by omega, h2⟩
    · exact .inl ⟨by omega, ys, h2, List.mem_of_mem_take h3⟩
  · by_cases hji : j < i
    · exact ((h y).2 h0).1 j ys hji hy
    · obtain rfl : j = i := by omega
      rw [hi] at hy; injection hy with hy; subst hy
      have := ((h y).2 h0).2 xs hi
      rwa [htk] at this

theorem AtSt.at_ (hp : Parts g gs) (h : AtSt gs gs.length 0 f) {x : Nat} (hx : x < g.length) : ∃ j xs, f x = j + 1 ∧ gs[j]? = some xs ∧ (x : Int) ∈ xs := by
  cases hf : f x with
  | zero =>
    obtain ⟨j, xs, h1, h2⟩ := hp.cover x hx
    exact absurd h2 (((h x).2 hf).1 j xs (List.getElem?_eq_some_iff.1 h1).1 h1)
  | succ j =>
    rcases (h x).1 j hf with ⟨_, xs, h1, h2⟩ | ⟨rfl, xs, h1, h2⟩
    · exact ⟨j, xs, rfl, h1, h2⟩
    · simp at h2

theorem AtSt.le (hg : GOk g) (hp : Parts g gs) (h : AtSt gs gs.length 0 f) {x : Nat} (hx : x < g.length) {y : Int} (hy : y ∈ adj g x) : f y.toNat ≤ f x := by
  obtain ⟨hy0, hy1⟩ := adj_ok hg hy
  obtain ⟨j, xs, h1, h2, h3⟩ := h.at_ hp hx
  obtain ⟨jy, ys, h4, h5, h6⟩ := h.at_ hp (x := y.toNat) (by omega)
  obtain ⟨j', zs, h7, h8, h9⟩ := hp.order j xs h2 (x : Int) h3 y.toNat ((led_refl g x).step hy)
  have := hp.disj jy j' ys zs h5 h8 _ h6 h9
  omega
end

theorem class_trans {g : List (List Int)} {k : Nat} {x y : Int} (hx : x ∈ classL g k) (hy : y ∈ classL g k) : y ∈ reachL g [x] := by
  obtain ⟨h0, h1, h2, h3⟩ := class_mem.1 hx
  obtain ⟨g0, g1, g2, g3⟩ := class_mem.1 hy
  refine reachL_mem.2 ⟨g0, g1, ?_⟩
  have : ((x.toNat : Nat) : Int) = x := by omega
  have := led_trans (g := g) (x := x.toNat) (y := (k : Int)) (z := y.toNat) (by rw [this]; exact h3) (by omega) g2
  rwa [show ((x.toNat : Nat) : Int) = x by omega] at this

theorem reach_class {g : List (List Int)} {k : Nat} {x : Int} (hx : x ∈ classL g k) : ((classL g k).all fun y => (reachL g [x]).any fun z => z == y) = true := by
  rw [List.all_eq_true]
  intro y hy
  rw [List.any_eq_true]
  exact ⟨y, class_trans hx hy, by simp⟩

end Go.Proofs.Ytlfjmppmclgjnaa
