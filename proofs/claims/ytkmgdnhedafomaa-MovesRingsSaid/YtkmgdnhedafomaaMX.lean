/- The moves that are told: plain laws. -/
import Derived.Test.YtkmgdnhedafomaaMRp
namespace Go.Proofs.Ytkmgdnhedafomaa

theorem run_ind {s : Int} (hs : s ≤ 1000000) (P : Wt → List (Int × Int) → Prop) (h0 : P [] []) (h1 : ∀ L ms, L ≠ [] → WOk s L → P (stepM s L).2 ms → P L ((stepM s L).1 :: ms)) : ∀ (f : Nat) (L : Wt), WOk s L → mu L ≤ f → P L (runM s f L)
  | 0, L, _, hm => by
    by_cases hne : L = []
    · subst hne; exact h0
    · have := mu_pos hne; omega
  | f + 1, L, hok, hm => by
    rw [runM]
    by_cases hne : L = []
    · subst hne; exact h0
    · rw [if_neg (by simpa using hne)]
      have := mu_step hok hne
      exact h1 L _ hne hok (run_ind hs P h0 h1 f _ (hok.step hs) (by omega))

theorem all_ind {s : Int} (hs : s ≤ 1000000) (P : Wt → List (Int × Int) → Prop) (h0 : P [] []) (h1 : ∀ L ms, L ≠ [] → WOk s L → P (stepM s L).2 ms → P L ((stepM s L).1 :: ms)) {L : Wt} (hok : WOk s L) : P L (allM s L) := run_ind hs P h0 h1 _ L hok (mu_le L)

theorem hasK_cut_at (L : Wt) (k i : Nat) : hasK (cutL L k) i = if i = k then false else hasK L i := congrFun (hasK_cut L k) i

/-! ### Each place once -/
def countTo (ms : List (Int × Int)) (i : Int) : Nat := (ms.filter fun x => x.1 == i).length

theorem each_count {s : Int} (hs : s ≤ 1000000) {L : Wt} (hok : WOk s L) : ∀ i : Nat, (i : Int) < s → countTo (allM s L) i = (hasK L i).toNat := by
  refine all_ind hs (fun L ms => ∀ i : Nat, (i : Int) < s → countTo ms i = (hasK L i).toNat) (fun i _ => rfl) (fun L ms hne hok h i hi => ?_) hok
  unfold countTo at h ⊢
  cases hf : freeP L with
  | some p =>
    rw [show stepM s L = (((p.1 : Int), p.2), cutL L p.1) by unfold stepM; rw [hf]] at h ⊢
    obtain ⟨hpm, _⟩ := freeP_mem hf
    have hk : hasK L p.1 = true := hasK_iff.2 ⟨p.2, hpm⟩
    have h1 := h i hi
    dsimp only at h1 ⊢
    rw [hasK_cut_at] at h1
    by_cases e : i = p.1
    · subst e
      rw [if_pos rfl] at h1
      rw [List.filter_cons_of_pos (by simp), List.length_cons, h1, hk]
      rfl
    · rw [if_neg e] at h1
      rw [List.filter_cons_of_neg (by simp; omega), h1]
  | none =>
    rw [show stepM s L = ((s, (firstK L : Int)), turnL L (firstK L) s) by unfold stepM; rw [hf]] at h ⊢
    have h1 := h i hi
    dsimp only at h1 ⊢
    rw [hasK_turn] at h1
    rw [List.filter_cons_of_neg (by simp; omega), h1]

theorem each_to {s : Int} (hs : s ≤ 1000000) {L : Wt} (hok : WOk s L) : ∀ x ∈ allM s L, x.1 = s ∨ ∃ i : Nat, hasK L i = true ∧ x.1 = (i : Int) := by
  refine all_ind hs (fun L ms => ∀ x ∈ ms, x.1 = s ∨ ∃ i : Nat, hasK L i = true ∧ x.1 = (i : Int)) (fun x h => by simp at h) (fun L ms hne hok h x hx => ?_) hok
  cases hf : freeP L with
  | some p =>
    rw [show stepM s L = (((p.1 : Int), p.2), cutL L p.1) by unfold stepM; rw [hf]] at h hx
    rcases List.mem_cons.1 hx with hx | hx
    · exact .inr ⟨p.1, hasK_iff.2 ⟨p.2, (freeP_mem hf).1⟩, by rw [hx]⟩
    · rcases h x hx with h1 | ⟨i, h1, h2⟩
      · exact .inl h1
      · refine .inr ⟨i, ?_, h2⟩
        dsimp only at h1
        rw [hasK_cut_at] at h1
        by_cases e : i = p.1
        · rw [if_pos e] at h1; simp at h1
        · rw [if_neg e] at h1; exact h1
  | none =>
    rw [show stepM s L = ((s, (firstK L : Int)), turnL L (firstK L) s) by unfold stepM; rw [hf]] at h hx
    rcases List.mem_cons.1 hx with hx | hx
    · exact .inl (by rw [hx])
    · rcases h x hx with h1 | ⟨i, h1, h2⟩
      · exact .inl h1
      · exact .inr ⟨i, by dsimp only at h1; rwa [hasK_turn] at h1, h2⟩

/-! ### What needs no ring -/
theorem inc_free {L : Wt} (hs : L.Pairwise fun a b => a.1 < b.1) (hi : ∀ p ∈ L, (p.1 : Int) < p.2) {p : Nat × Int} {r : Wt} (hL : L = p :: r) : freeP L = some p ∧ cutL L p.1 = r := by
  subst hL
  rw [List.pairwise_cons] at hs
  have hw : wants (p :: r) p.1 = false := by
    unfold wants
    rw [List.any_eq_false]
    intro q hq
    have h1 := hi q hq
    have h2 : p.1 ≤ q.1 := by
      rcases List.mem_cons.1 hq with h | h
      · rw [h]; exact Nat.le_refl _
      · exact Nat.le_of_lt (hs.1 q h)
    simp; omega
  refine ⟨?_, ?_⟩
  · unfold freeP
    rw [List.find?_cons_of_pos (by simp [hw])]
  · unfold cutL
    rw [List.filter_cons_of_neg (by simp), List.filter_eq_self]
    intro q hq
    have := hs.1 q hq
    simp; omega

theorem inc_run (s : Int) : ∀ (f : Nat) (L : Wt), L.Pairwise (fun a b => a.1 < b.1) → (∀ p ∈ L, (p.1 : Int) < p.2) → L.length ≤ f → runM s f L = L.map fun p => ((p.1 : Int), p.2)
  | 0, L, _, _, hl => by
    obtain rfl : L = [] := List.eq_nil_of_length_eq_zero (by omega)
    rfl
  | f + 1, [], _, _, _ => rfl
  | f + 1, p :: r, hs, hi, hl => by
    obtain ⟨h1, h2⟩ := inc_free hs hi rfl
    rw [runM, if_neg (by simp)]
    rw [show stepM s (p :: r) = (((p.1 : Int), p.2), cutL (p :: r) p.1) by unfold stepM; rw [h1], h2]
    have h3 := (List.pairwise_cons.1 hs).2
    rw [inc_run s f r h3 (fun q hq => hi q (by simp [hq])) (by simp at hl; omega)]
    rfl

theorem inc_all {s : Int} {L : Wt} (hs : L.Pairwise fun a b => a.1 < b.1) (hi : ∀ p ∈ L, (p.1 : Int) < p.2) : allM s L = L.map fun p => ((p.1 : Int), p.2) := inc_run s _ L hs hi (by omega)

/-! ### All of a ring is wanted -/
theorem pigeon : ∀ (ks vs : List Int), ks.Nodup → (∀ k ∈ ks, k ∈ vs) → vs.length ≤ ks.length → ∀ v ∈ vs, v ∈ ks
  | [], vs, _, _, hl, v, hv => by
    have : vs = [] := List.eq_nil_of_length_eq_zero (by simpa using hl)
    rw [this] at hv; exact hv
  | k :: ks, vs, hn, hs, hl, v, hv => by
    rw [List.nodup_cons] at hn
    have hkv := hs k (by simp)
    have hlen := List.length_erase_of_mem hkv
    have ih := pigeon ks (vs.erase k) hn.2 (fun x hx => by
      have hne : x ≠ k := fun e => hn.1 (e ▸ hx)
      exact (List.mem_erase_of_ne hne).2 (hs x (by simp [hx]))) (by simp at hl; omega)
    by_cases e : v = k
    · rw [e]; simp
    · exact List.mem_cons_of_mem _ (ih v ((List.mem_erase_of_ne e).2 hv))

theorem ring_vals {s : Int} {L : Wt} (hok : WOk s L) (hf : freeP L = none) : ∀ p ∈ L, ∃ q ∈ L, p.2 = (q.1 : Int) := by
  have hn : (L.map fun p => (p.1 : Int)).Nodup := by
    rw [List.nodup_iff_pairwise_ne, List.pairwise_map]
    exact hok.sort.imp fun h => by omega
  have hsub : ∀ k ∈ L.map (fun p => (p.1 : Int)), k ∈ L.map (fun p => p.2) := by
    intro k hk
    obtain ⟨p, hp, rfl⟩ := List.mem_map.1 hk
    have := freeP_none hf p hp
    unfold wants at this
    obtain ⟨q, hq, he⟩ := List.any_eq_true.1 this
    exact List.mem_map.2 ⟨q, hq, by simpa using he⟩
  have := pigeon _ _ hn hsub (by simp)
  intro p hp
  obtain ⟨q, hq, he⟩ := List.mem_map.1 (this p.2 (List.mem_map.2 ⟨p, hp, rfl⟩))
  exact ⟨q, hq, he.symm⟩

/-! ### What the places hold -/
def applyM (R : Int → Int) (x : Int × Int) : Int → Int := fun p => if p = x.1 then R x.2 else R p

structure Sim (s : Int) (N : Nat) (F : Nat → Int) (L : Wt) (R : Int → Int) : Prop where
  todo : ∀ p ∈ L, R p.2 = F p.1
  done : ∀ i : Nat, i < N → hasK L i = false → R i = F i
  rest : ∀ q : Int, (q < 0 ∨ (N : Int) ≤ q) → q ≠ s → R q = q

theorem Sim.step {s : Int} {N : Nat} {F : Nat → Int} {L : Wt} {R : Int → Int} (h : Sim s N F L R) (hok : WOk s L) (hN : ∀ p ∈ L, p.1 < N) (hNs : (N : Int) ≤ s) (hne : L ≠ []) : Sim s N F (stepM s L).2 (applyM R (stepM s L).1) := by
  cases hf : freeP L with
  | some p =>
    obtain ⟨hpm, hw⟩ := freeP_mem hf
    rw [show stepM s L = (((p.1 : Int), p.2), cutL L p.1) by unfold stepM; rw [hf]]
    have hpN := hN p hpm
    refine ⟨fun q hq => ?_, fun i hi hk => ?_, fun q hq hqs => ?_⟩
    · have hqL := (List.mem_filter.1 hq).1
      have hne : q.2 ≠ (p.1 : Int) := fun e => by
        unfold wants at hw
        rw [List.any_eq_false] at hw
        exact hw q hqL (by simpa using e)
      show applyM R _ q.2 = _
      unfold applyM
      rw [if_neg hne]
      exact h.todo q hqL
    · show applyM R _ (i : Int) = _
      unfold applyM
      by_cases e : i = p.1
      · subst e; rw [if_pos rfl]; exact h.todo p hpm
      · rw [if_neg (by dsimp only; omega)]
        dsimp only at hk
        rw [hasK_cut_at, if_neg e] at hk
        exact h.done i hi hk
    · show applyM R _ q = _
      unfold applyM
      rw [if_neg (by dsimp only; omega)]
      exact h.rest q hq hqs
  | none =>
    rw [show stepM s L = ((s, (firstK L : Int)), turnL L (firstK L) s) by unfold stepM; rw [hf]]
    refine ⟨fun q hq => ?_, fun i hi hk => ?_, fun q hq hqs => ?_⟩
    · obtain ⟨q0, hq0, rfl⟩ := List.mem_map.1 hq
      have h1 := h.todo q0 hq0
      show applyM R _ (if q0.2 = (firstK L : Int) then s else q0.2) = F q0.1
      unfold applyM
      by_cases e : q0.2 = (firstK L : Int)
      · rw [if_pos e, if_pos rfl]
        rw [e] at h1
        exact h1
      · rw [if_neg e]
        obtain ⟨r, hr, hre⟩ := ring_vals hok hf q0 hq0
        have := hok.lt r hr
        rw [if_neg (by dsimp only; omega)]
        exact h1
    · show applyM R _ (i : Int) = _
      unfold applyM
      rw [if_neg (by dsimp only; omega)]
      dsimp only at hk
      rw [hasK_turn] at hk
      exact h.done i hi hk
    · show applyM R _ q = _
      unfold applyM
      rw [if_neg hqs]
      exact h.rest q hq hqs

theorem step_keys {s : Int} {L : Wt} {N : Nat} (h : ∀ p ∈ L, p.1 < N) : ∀ p ∈ (stepM s L).2, p.1 < N := by
  unfold stepM
  split
  · intro p hp; exact h p (List.mem_filter.1 hp).1
  · intro p hp
    obtain ⟨q, hq, rfl⟩ := List.mem_map.1 hp
    exact h q hq

theorem Sim.run {s : Int} {N : Nat} {F : Nat → Int} (hs : s ≤ 1000000) (hNs : (N : Int) ≤ s) : ∀ (f : Nat) (L : Wt) (R : Int → Int), Sim s N F L R → WOk s L → (∀ p ∈ L, p.1 < N) → mu L ≤ f → Sim s N F [] ((runM s f L).foldl applyM R)
  | 0, L, R, h, _, _, hm => by
    by_cases hne : L = []
    · subst hne; exact h
    · have := mu_pos hne; omega
  | f + 1, L, R, h, hok, hN, hm => by
    rw [runM]
    by_cases hne : L = []
    · subst hne; exact h
    · rw [if_neg (by simpa using hne), List.foldl_cons]
      have := mu_step hok hne
      exact Sim.run hs hNs f _ _ (h.step hok hN hNs hne) (hok.step hs) (step_keys hN) (by omega)

theorem all_held {src : List Int} {s : Int} {ms : List (Int × Int)} (h : orderR src s = some ms) : (∀ i : Nat, i < src.length → ms.foldl applyM id i = src.getD i 0) ∧ ∀ q : Int, (q < 0 ∨ (src.length : Int) ≤ q) → q ≠ s → ms.foldl applyM id q = q := by
  unfold orderR at h
  cases hb : badF src s
  · rw [hb] at h
    obtain rfl : allM s (leftTo src src.length) = ms := by simpa using h
    obtain ⟨hok, hn, hs, hns⟩ := leftTo_ok hb
    have h0 : Sim s src.length (fun i => src.getD i 0) (leftTo src src.length) id := by
      refine ⟨fun p hp => (leftTo_mem.1 hp).2.1, fun i hi hk => ?_, fun q _ _ => rfl⟩
      have := hasK_false hk
      show (i : Int) = src.getD i 0
      apply Classical.byContradiction
      intro hne
      exact this (i, src.getD i 0) (leftTo_mem.2 ⟨hi, rfl, fun e => hne e.symm⟩) rfl
    have := Sim.run hs hns (2 * (leftTo src src.length).length + 1) _ _ h0 hok (fun p hp => (leftTo_mem.1 hp).1) (mu_le _)
    exact ⟨fun i hi => this.done i hi rfl, fun q h1 h2 => this.rest q h1 h2⟩
  · rw [hb] at h; simp at h

/-! ### How many -/
def hasS (s : Int) (L : Wt) : Bool := L.any fun p => p.2 == s
def bnd (s : Int) (L : Wt) : Nat := if hasS s L then (match freeP L with | some p => if p.2 = s then (L.length - 1) / 2 else (L.length - 2) / 2 | none => (L.length - 1) / 2) else L.length / 2

theorem bnd_le {s : Int} {L : Wt} (h : hasS s L = true) : bnd s L ≤ (L.length - 1) / 2 := by
  unfold bnd
  rw [if_pos h]
  split
  · split
    · exact Nat.le_refl _
    · omega
  · exact Nat.le_refl _

theorem bnd_no {s : Int} {L : Wt} (h : hasS s L = false) : bnd s L = L.length / 2 := by
  unfold bnd
  rw [h]; rfl

theorem bnd_free {s : Int} {L : Wt} (hok : WOk s L) {p : Nat × Int} (hf : freeP L = some p) : bnd s (cutL L p.1) ≤ bnd s L := by
  obtain ⟨hpm, _⟩ := freeP_mem hf
  have hlen := cutL_len hok.sort hpm
  have hsub : hasS s (cutL L p.1) = true → hasS s L = true := fun h => by
    unfold hasS at h ⊢
    obtain ⟨q, hq, he⟩ := List.any_eq_true.1 h
    exact List.any_eq_true.2 ⟨q, (List.mem_filter.1 hq).1, he⟩
  cases hL : hasS s L
  · have hc : hasS s (cutL L p.1) = false := by
      cases h : hasS s (cutL L p.1) with
      | false => rfl
      | true => rw [hsub h] at hL; cases hL
    rw [bnd_no hL, bnd_no hc]
    omega
  · by_cases hp : p.2 = s
    · have hb : bnd s L = (L.length - 1) / 2 := by unfold bnd; rw [if_pos hL, hf]; simp only; rw [if_pos hp]
      cases hc : hasS s (cutL L p.1)
      · rw [bnd_no hc, hb]; omega
      · have := bnd_le hc; rw [hb]; omega
    · have hb : bnd s L = (L.length - 2) / 2 := by unfold bnd; rw [if_pos hL, hf]; simp only; rw [if_neg hp]
      have hc : hasS s (cutL L p.1) = true := by
        unfold hasS at hL ⊢
        obtain ⟨q, hq, he⟩ := List.any_eq_true.1 hL
        refine List.any_eq_true.2 ⟨q, List.mem_filter.2 ⟨hq, ?_⟩, he⟩
        have : q.1 ≠ p.1 := fun e => by
          have : q = p := by
            obtain ⟨a, ha, rfl⟩ := List.getElem_of_mem hq
            obtain ⟨b, hb, rfl⟩ := List.getElem_of_mem hpm
            have hpw := List.pairwise_iff_getElem.1 hok.sort
            rcases Nat.lt_trichotomy a b with hab | hab | hab
            · have := hpw a b ha hb hab; omega
            · subst hab; rfl
            · have := hpw b a hb ha hab; omega
          rw [this] at he
          exact hp (by simpa using he)
        simpa using this
      have := bnd_le hc
      rw [hb]
      omega

theorem bnd_ring {s : Int} {L : Wt} (hok : WOk s L) (hne : L ≠ []) (hf : freeP L = none) : bnd s (turnL L (firstK L) s) + 1 ≤ bnd s L := by
  have hL : hasS s L = false := by
    unfold hasS
    rw [List.any_eq_false]
    intro p hp
    obtain ⟨q, hq, he⟩ := ring_vals hok hf p hp
    have := hok.lt q hq
    simp; omega
  obtain ⟨v, r, hL0⟩ := firstK_mem hne
  have hkm : (firstK L, v) ∈ L := by
    have : (firstK L, v) ∈ (firstK L, v) :: r := by simp
    rwa [← hL0] at this
  have hw := freeP_none hf _ hkm
  unfold wants at hw
  obtain ⟨q, hq, he⟩ := List.any_eq_true.1 hw
  have hqe : q.2 = (firstK L : Int) := by simpa using he
  have hl2 : 2 ≤ L.length := by
    have hne : q ≠ (firstK L, v) := fun e => hok.noself q hq (by rw [hqe, e])
    rw [hL0] at hq
    rcases List.mem_cons.1 hq with h | h
    · exact absurd h hne
    · have := List.length_pos_of_mem h
      rw [hL0]; simp; omega
  have hv : v ≠ (firstK L : Int) := hok.noself _ hkm
  have hvs : v ≠ s := fun e => by
    unfold hasS at hL
    rw [List.any_eq_false] at hL
    exact hL _ hkm (by simpa using e)
  have hT : hasS s (turnL L (firstK L) s) = true := by
    unfold hasS turnL
    rw [List.any_map, List.any_eq_true]
    exact ⟨q, hq, by simp [hqe]⟩
  have hfr := turn_free hok hne
  have hhd : ((turnL L (firstK L) s).headD (0, 0)).2 = v := by
    have : turnL L (firstK L) s = turnL ((firstK L, v) :: r) (firstK L) s := congrArg (fun x => turnL x (firstK L) s) hL0
    rw [this]
    show (if v = (firstK L : Int) then s else v) = v
    rw [if_neg hv]
  rw [hhd] at hfr
  have hb : bnd s (turnL L (firstK L) s) = (L.length - 2) / 2 := by
    unfold bnd
    rw [if_pos hT, hfr]
    simp only
    rw [if_neg hvs]
    simp [turnL]
  rw [hb, bnd_no hL]
  omega

theorem moves_many {s : Int} (hs : s ≤ 1000000) {L : Wt} (hok : WOk s L) : (allM s L).length ≤ L.length + bnd s L := by
  refine all_ind hs (fun L ms => ms.length ≤ L.length + bnd s L) (Nat.zero_le _) (fun L ms hne hok h => ?_) hok
  cases hf : freeP L with
  | some p =>
    rw [show stepM s L = (((p.1 : Int), p.2), cutL L p.1) by unfold stepM; rw [hf]] at h ⊢
    have h1 := cutL_len hok.sort (freeP_mem hf).1
    have h2 := bnd_free hok hf
    dsimp only at h
    rw [List.length_cons]
    omega
  | none =>
    rw [show stepM s L = ((s, (firstK L : Int)), turnL L (firstK L) s) by unfold stepM; rw [hf]] at h ⊢
    have h2 := bnd_ring hok hne hf
    dsimp only at h
    have h3 : (turnL L (firstK L) s).length = L.length := by simp [turnL]
    rw [List.length_cons]
    omega

theorem order_many {src : List Int} {s : Int} {ms : List (Int × Int)} (h : orderR src s = some ms) : ms.length ≤ src.length + src.length / 2 := by
  unfold orderR at h
  cases hb : badF src s
  · rw [hb] at h
    obtain rfl : allM s (leftTo src src.length) = ms := by simpa using h
    obtain ⟨hok, hn, hs, hns⟩ := leftTo_ok hb
    have h1 := moves_many hs hok
    have h2 := leftTo_len src src.length
    have h3 : hasS s (leftTo src src.length) = false := by
      unfold hasS
      rw [List.any_eq_false]
      intro p hp
      obtain ⟨g1, g2, _⟩ := leftTo_mem.1 hp
      have : src.any (badV s) = false := by
        unfold badF at hb
        simp only [Bool.or_eq_false_iff] at hb
        exact hb.2
      rw [List.any_eq_false] at this
      have h4 := this (src[p.1]) (List.getElem_mem g1)
      rw [g2, List.getD_eq_getElem?_getD, List.getElem?_eq_getElem g1]
      unfold badV at h4
      simp at h4 ⊢
      exact h4.2
    rw [bnd_no h3] at h1
    have : (leftTo src src.length).length / 2 ≤ src.length / 2 := Nat.div_le_div_right h2
    omega
  · rw [hb] at h; simp at h

end Go.Proofs.Ytkmgdnhedafomaa
