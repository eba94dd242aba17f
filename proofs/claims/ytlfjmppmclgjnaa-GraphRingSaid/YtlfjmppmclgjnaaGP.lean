/- Groups, plain. -/
import Derived.Test.YtlfjmppmclgjnaaRdy
namespace Go.Proofs.Ytlfjmppmclgjnaa

theorem cntF_mark {f : Nat → Bool} {i : Nat} (hi : f i = false) : ∀ n, i < n → cntF n (fun y => f y || y == i) + 1 = cntF n f
  | 0, h => by omega
  | n + 1, h => by
    rw [cntF_succ, cntF_succ]
    by_cases hn : i = n
    · subst hn
      have e : cntF i (fun y => f y || y == i) = cntF i f := by
        unfold cntF
        congr 1
        apply List.filter_congr
        intro y hy
        have : (y == i) = false := by have := List.mem_range.1 hy; simp; omega
        simp [this]
      simp [hi, e]
    · have := cntF_mark hi n (by omega)
      have e : (n == i) = false := by simp; omega
      simp only [e, Bool.or_false]
      omega

theorem cntF_lt' {f f' : Nat → Bool} {i n : Nat} (h : ∀ y, f y = true → f' y = true) (hi : f i = false) (hi' : f' i = true) (hn : i < n) : cntF n f' < cntF n f := by
  have h1 := cntF_mark hi n hn
  have h2 := cntF_le (f := fun y => f y || y == i) (f' := f') (fun y hy => by
    simp at hy
    rcases hy with hy | rfl
    · exact h y hy
    · exact hi') n
  omega

theorem cntF_zero {n : Nat} {f : Nat → Bool} (h : cntF n f = 0) (x : Nat) (hx : x < n) : f x = true := by
  cases hf : f x with
  | true => rfl
  | false => have := cntF_mark hf n hx; omega

theorem cntF_none (n : Nat) : cntF n (fun _ => false) = n := by
  unfold cntF
  rw [List.filter_eq_self.2 (by simp)]
  simp

/-- What is done, with some more. -/
def addL (done : Nat → Bool) (xs : List Int) : Nat → Bool := fun y => done y || xs.any fun x => x.toNat == y

theorem addL_nil (done : Nat → Bool) : addL done [] = done := by funext y; simp [addL]
theorem addL_snoc (done : Nat → Bool) (xs : List Int) (x : Int) : addL done (xs ++ [x]) = fun y => addL done xs y || y == x.toNat := by
  funext y
  simp only [addL, List.any_append, List.any_cons, List.any_nil, Bool.or_false, Bool.or_assoc]
  rw [show (x.toNat == y) = (y == x.toNat) by rw [Bool.eq_iff_iff]; simp; exact eq_comm]
theorem addL_cons (done : Nat → Bool) (xs : List Int) (x : Int) : addL done (x :: xs) = addL (fun y => done y || y == x.toNat) xs := by
  funext y
  simp only [addL, List.any_cons, Bool.or_assoc]
  rw [show (x.toNat == y) = (y == x.toNat) by rw [Bool.eq_iff_iff]; simp; exact eq_comm]

theorem cntF_addL {n : Nat} : ∀ (xs : List Int) (done : Nat → Bool), xs.Nodup → (∀ x ∈ xs, 0 ≤ x ∧ x < n ∧ done x.toNat = false) → cntF n (addL done xs) + xs.length = cntF n done
  | [], done, _, _ => by rw [addL_nil]; rfl
  | x :: xs, done, hn, h => by
    rw [List.nodup_cons] at hn
    obtain ⟨h0, h1, h2⟩ := h x (by simp)
    have := cntF_addL (n := n) xs (fun y => done y || y == x.toNat) hn.2 (fun z hz => by
      obtain ⟨g0, g1, g2⟩ := h z (by simp [hz])
      have : z ≠ x := fun e => hn.1 (e ▸ hz)
      exact ⟨g0, g1, by simp [g2]; omega⟩)
    have hm := cntF_mark h2 n (by omega)
    rw [addL_cons, List.length_cons]
    omega

theorem led_trans {g : List (List Int)} {x : Nat} {y : Int} {z : Nat} (h : Led g [(x : Int)] y.toNat) (h0 : 0 ≤ y) (h2 : Led g [y] z) : Led g [(x : Int)] z :=
  h2.mono fun v hv => by obtain rfl := List.mem_singleton.1 hv; exact h

theorem led_refl (g : List (List Int)) (x : Nat) : Led g [(x : Int)] x := Led.start (x := (x : Int)) (by simp)

theorem class_mem {g : List (List Int)} {k : Nat} {v : Int} : v ∈ classL g k ↔ 0 ≤ v ∧ v < g.length ∧ Led g [(k : Int)] v.toNat ∧ Led g [v] k := by
  unfold classL
  rw [List.mem_filter, reachL_mem, ledB_iff]
  exact ⟨fun h => ⟨h.1.1, h.1.2.1, h.1.2.2, h.2⟩, fun h => ⟨⟨h.1, h.2.1, h.2.2.1⟩, h.2.2.2⟩⟩

theorem class_self {g : List (List Int)} {k : Nat} (hk : k < g.length) : (k : Int) ∈ classL g k := class_mem.2 ⟨by omega, by omega, led_refl g k, led_refl g k⟩
theorem class_nodup (g : List (List Int)) (k : Nat) : (classL g k).Nodup := List.Sublist.nodup List.filter_sublist (reachL_nodup _ _)

/-- What is done holds all that it leads to. -/
def DoneOk (g : List (List Int)) (done : Nat → Bool) : Prop := ∀ x y : Nat, done x = true → Led g [(x : Int)] y → done y = true

theorem ready_iff {g : List (List Int)} {done : Nat → Bool} {k : Nat} : readyB g done k = true ↔ ∀ v : Int, 0 ≤ v → v < g.length → Led g [(k : Int)] v.toNat → Led g [v] k ∨ done v.toNat = true := by
  unfold readyB
  rw [List.all_eq_true]
  constructor
  · intro h v h0 h1 h2
    have := h v (reachL_mem.2 ⟨h0, h1, h2⟩)
    simpa [ledB_iff] using this
  · intro h v hv
    obtain ⟨h0, h1, h2⟩ := reachL_mem.1 hv
    simpa [ledB_iff] using h v h0 h1 h2

theorem addL_true {done : Nat → Bool} {xs : List Int} {y : Nat} : addL done xs y = true ↔ done y = true ∨ ∃ x ∈ xs, x.toNat = y := by
  unfold addL
  simp

theorem DoneOk.next {g : List (List Int)} {done : Nat → Bool} {k : Nat} (hg : GOk g) (h : DoneOk g done) (hk : k < g.length) (hr : readyB g done k = true) : DoneOk g (addL done (classL g k)) := by
  intro x y hx hl
  rw [addL_true] at hx ⊢
  rcases hx with hx | ⟨v, hv, rfl⟩
  · exact .inl (h x y hx hl)
  · obtain ⟨h0, h1, h2, h3⟩ := class_mem.1 hv
    have hl' : Led g [v] y := by
      have : ((v.toNat : Nat) : Int) = v := by omega
      rwa [this] at hl
    have hky : Led g [(k : Int)] y := led_trans h2 h0 hl'
    have hyl : y < g.length := Led.lt hg (fun z hz => by obtain rfl := List.mem_singleton.1 hz; omega) hky
    rcases ready_iff.1 hr (y : Int) (by omega) (by omega) (by simpa using hky) with hb | hb
    · exact .inr ⟨(y : Int), class_mem.2 ⟨by omega, by omega, by simpa using hky, hb⟩, by simp⟩
    · exact .inl (by simpa using hb)

theorem class_fresh {g : List (List Int)} {done : Nat → Bool} {k : Nat} (h : DoneOk g done) (hk : done k = false) : ∀ x ∈ classL g k, 0 ≤ x ∧ x < g.length ∧ done x.toNat = false := by
  intro v hv
  obtain ⟨h0, h1, h2, h3⟩ := class_mem.1 hv
  refine ⟨h0, h1, ?_⟩
  cases hd : done v.toNat with
  | false => rfl
  | true =>
    have e : ((v.toNat : Nat) : Int) = v := by omega
    have := h v.toNat k hd (by rw [e]; exact h3)
    rw [hk] at this; simp at this

theorem some_ready {g : List (List Int)} {done : Nat → Bool} (hg : GOk g) : ∀ (c x : Nat), x < g.length → done x = false → cntF g.length (fun v => !(ledB g [(x : Int)] v && !done v)) ≤ c → ∃ k, k < g.length ∧ done k = false ∧ readyB g done k = true := by
  intro c
  induction c with
  | zero =>
    intro x hx hd hc
    have := cntF_zero (by omega : cntF g.length (fun v => !(ledB g [(x : Int)] v && !done v)) = 0) x hx
    rw [hd, ledB_iff.2 (led_refl g x)] at this
    simp at this
  | succ c ih =>
    intro x hx hd hc
    cases hr : readyB g done x with
    | true => exact ⟨x, hx, hd, hr⟩
    | false =>
      have hnr : ¬ ∀ v : Int, 0 ≤ v → v < g.length → Led g [(x : Int)] v.toNat → Led g [v] x ∨ done v.toNat = true := fun h => by
        rw [ready_iff.2 h] at hr; simp at hr
      obtain ⟨v, hv⟩ := Classical.not_forall.1 hnr
      obtain ⟨h0, hv⟩ := Classical.not_imp.1 hv
      obtain ⟨h1, hv⟩ := Classical.not_imp.1 hv
      obtain ⟨h2, hv⟩ := Classical.not_imp.1 hv
      rw [not_or] at hv
      obtain ⟨i, rfl⟩ := Int.eq_ofNat_of_zero_le h0
      rw [Int.toNat_natCast] at h2 hv
      refine ih i (by omega) (by simpa using hv.2) ?_
      have := cntF_lt' (n := g.length) (f := fun v => !(ledB g [(x : Int)] v && !done v)) (f' := fun v => !(ledB g [(i : Int)] v && !done v)) (i := x) (fun y hy => by
        simp only [Bool.not_eq_true', Bool.and_eq_false_iff, Bool.not_eq_false'] at hy ⊢
        rcases hy with hy | hy
        · left
          cases hb : ledB g [(i : Int)] y with
          | false => rfl
          | true => rw [ledB_iff.2 (led_trans (by simpa using h2) h0 (ledB_iff.1 hb))] at hy; simp at hy
        · exact .inr hy) (by simp [hd, ledB_iff.2 (led_refl g x)]) (by
        have : ledB g [(i : Int)] x = false := by
          cases hb : ledB g [(i : Int)] x with
          | false => rfl
          | true => exact absurd (ledB_iff.1 hb) hv.1
        simp [this]) hx
      omega

/-- The first that is ready. -/
noncomputable def nextK (g : List (List Int)) (done : Nat → Bool) : Nat := ((List.range g.length).find? fun k => !done k && readyB g done k).getD 0

theorem nextK_eq {g : List (List Int)} {done : Nat → Bool} {k : Nat} (hk : k < g.length) (hd : done k = false) (hr : readyB g done k = true) (hf : ∀ j, j < k → done j = true ∨ readyB g done j = false) : nextK g done = k := by
  unfold nextK
  have : (List.range g.length).find? (fun k => !done k && readyB g done k) = some k := by
    rw [List.find?_range_eq_some]
    refine ⟨by simp [hd, hr], by simpa using hk, fun j hj => ?_⟩
    rcases hf j hj with h | h <;> simp [h]
  rw [this]
  rfl

noncomputable def groupsL (g : List (List Int)) : Nat → (Nat → Bool) → List (List Int)
  | 0, _ => []
  | n + 1, done => if cntF g.length done = 0 then [] else classL g (nextK g done) :: groupsL g n (addL done (classL g (nextK g done)))

/-- The groups of a graph, each behind those that it leads to. -/
noncomputable def groupsAll (g : List (List Int)) : List (List Int) := groupsL g g.length fun _ => false

/-- Where the work on the groups stands. -/
structure GrpSt (g : List (List Int)) (done : Nat → Bool) (gs : List (List Int)) : Prop where
  ok : DoneOk g done
  all : ∃ fuel, cntF g.length done ≤ fuel ∧ gs ++ groupsL g fuel done = groupsAll g
  len : gs.length + cntF g.length done ≤ g.length
  count : (gs.map List.length).sum + cntF g.length done = g.length
  is : ∀ xs ∈ gs, ∃ k, k < g.length ∧ xs = classL g k

theorem GrpSt.start (g : List (List Int)) : GrpSt g (fun _ => false) [] :=
  ⟨fun x y h => by simp at h, ⟨g.length, by rw [cntF_none]; exact Nat.le_refl _, rfl⟩, by rw [cntF_none]; simp, by rw [cntF_none]; simp, fun xs h => by simp at h⟩

theorem GrpSt.next {g : List (List Int)} {done : Nat → Bool} {gs : List (List Int)} {k : Nat} (hg : GOk g) (h : GrpSt g done gs) (hk : k < g.length) (hd : done k = false) (hr : readyB g done k = true) (hf : ∀ j, j < k → done j = true ∨ readyB g done j = false) :
    GrpSt g (addL done (classL g k)) (gs ++ [classL g k]) := by
  have hc := cntF_addL (n := g.length) (classL g k) done (class_nodup g k) (class_fresh h.ok hd)
  have hpos : 0 < (classL g k).length := List.length_pos_of_mem (class_self hk)
  refine ⟨h.ok.next hg hk hr, ?_, ?_, ?_, ?_⟩
  · obtain ⟨fuel, hfu, he⟩ := h.all
    obtain ⟨fu, rfl⟩ : ∃ fu, fuel = fu + 1 := ⟨fuel - 1, by omega⟩
    refine ⟨fu, by omega, ?_⟩
    rw [← he]
    rw [groupsL.eq_2, if_neg (by omega), nextK_eq hk hd hr hf, List.append_assoc]
    rfl
  · have := h.len; rw [List.length_append]; simp; omega
  · have := h.count; rw [List.map_append, List.sum_append]; simp; omega
  · intro xs hxs
    rcases List.mem_append.1 hxs with hxs | hxs
    · exact h.is xs hxs
    · obtain rfl := List.mem_singleton.1 hxs; exact ⟨k, hk, rfl⟩

theorem GrpSt.done {g : List (List Int)} {done : Nat → Bool} {gs : List (List Int)} (h : GrpSt g done gs) (hc : cntF g.length done = 0) : gs = groupsAll g := by
  obtain ⟨fuel, _, he⟩ := h.all
  rw [← he]
  cases fuel with
  | zero => rw [groupsL.eq_1, List.append_nil]
  | succ n => rw [groupsL.eq_2, if_pos hc, List.append_nil]

theorem GrpSt.some {g : List (List Int)} {done : Nat → Bool} {gs : List (List Int)} (hg : GOk g) (hc : cntF g.length done ≠ 0) : ∃ k, k < g.length ∧ done k = false ∧ readyB g done k = true := by
  have : ∃ x, x < g.length ∧ done x = false := by
    apply Classical.byContradiction
    intro hn
    apply hc
    unfold cntF
    rw [List.length_eq_zero_iff, List.filter_eq_nil_iff]
    intro x hx
    cases hd : done x with
    | true => simp
    | false => exact absurd ⟨x, List.mem_range.1 hx, hd⟩ hn
  obtain ⟨x, hx, hd⟩ := this
  exact some_ready hg _ x hx hd (Nat.le_refl _)

end Go.Proofs.Ytlfjmppmclgjnaa
