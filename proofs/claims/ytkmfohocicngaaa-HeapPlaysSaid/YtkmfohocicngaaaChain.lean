/- The plain collector over a chain: what is come to alone is copied; a chain stays a chain. -/
import Derived.Test.YtkmfohocicngaaaCopy3
namespace Go.Proofs.Ytkmfohocicngaaa

/-- R holds of what is come to. -/
def Closed (L : List Ob) (R : Nat → Prop) : Prop := ∀ k o, R k → atL L k = some o → ∀ x ∈ o.2, isP x = true → R (x / 8).toNat

theorem mv_keys {L : List Ob} {T : Tl} {R : Nat → Prop} (h : ∀ k ∈ T.map (·.1), R k) {v : Int} (hv : isP v = true → R (v / 8).toNat) : ∀ k ∈ (mv L T v).1.map (·.1), R k := by
  by_cases hp : isP v = true
  · cases hn : newAt T (v / 8).toNat with
    | some p => simpa [mv, hp, hn] using h
    | none =>
      cases ho : atL L (v / 8).toNat with
      | none => simpa [mv, hp, hn, ho] using h
      | some o =>
        intro k hk
        simp only [mv, hp, if_true, hn, ho, List.map_append, List.mem_append, List.map_cons, List.map_nil, List.mem_singleton] at hk
        rcases hk with hk | rfl
        · exact h k hk
        · exact hv hp
  · simpa [mv, hp] using h

theorem mvs_keys {L : List Ob} {R : Nat → Prop} : ∀ (vs : List Int) (T : Tl), (∀ k ∈ T.map (·.1), R k) → (∀ v ∈ vs, isP v = true → R (v / 8).toNat) → ∀ k ∈ (mvs L T vs).1.map (·.1), R k
  | [], _, h, _ => h
  | v :: vs, T, h, hv => mvs_keys vs _ (mv_keys h (hv v (by simp))) (fun x hx => hv x (by simp [hx]))

theorem steps_keys {L : List Ob} {T : Tl} {R : Nat → Prop} {i : Nat} (hL : WfL L) (hc : Closed L R) (hs : Sc L T i 0) (hi : i < T.length) (h : ∀ k ∈ T.map (·.1), R k) (j : Nat) (hj : j ≤ lenAt T i) : ∀ k ∈ (stepsF L T i j).map (·.1), R k := by
  induction j with
  | zero => exact h
  | succ j ih =>
    have ih' := ih (by omega)
    obtain ⟨a, b, c⟩ := steps_sc hL hs j (by omega) hi
    show ∀ k ∈ (stepF L (stepsF L T i j) i j).map (·.1), R k
    unfold stepF
    split
    · exact ih'
    · rename_i p hp
      split
      · exact ih'
      · rename_i x hx
        rw [setF_keys]
        refine mv_keys ih' fun hpx => ?_
        obtain ⟨o0, h1, h2, h3, h4⟩ := a.ent i p.1 p.2 hp
        have hj' := (List.getElem?_eq_some_iff.1 hx).1
        have hx0 := (h4 j (o0.2[j]'(by omega)) (List.getElem?_eq_getElem _)).2 (by omega)
        rw [hx] at hx0
        obtain rfl := Option.some.inj hx0
        exact hc p.1 o0 (ih' p.1 (List.mem_map.2 ⟨p, List.mem_of_getElem? hp, rfl⟩)) h1 _ (List.getElem_mem _) hpx

theorem collect_keys {L : List Ob} {R : Nat → Prop} {roots : List Int} (hL : WfL L) (hc : Closed L R) (hr : ∀ v ∈ roots, isP v = true → R (v / 8).toNat) : ∀ k ∈ (collectT L roots).map (·.1), R k := by
  obtain ⟨n, h1, h2⟩ := scan_exists roots hL
  rw [← scan_end hL h1 h2]
  have key : ∀ m, m ≤ n → ∀ k ∈ (scanN L (mvs L [] roots).1 m).map (·.1), R k := by
    intro m
    induction m with
    | zero => intro _; exact mvs_keys roots [] (by simp) hr
    | succ m ih =>
      intro hm
      have hs := scanN_sc hL (mvs_sc roots [] (Sc.nil L)) m (fun i' h => h1 i' (by omega))
      exact steps_keys hL hc hs (h1 m (by omega)) (ih (by omega)) _ (Nat.le_refl _)
  exact key n (Nat.le_refl _)

theorem scan_ext {L : List Ob} {T : Tl} (k p : Nat) (n : Nat) (h : newAt T k = some p) : newAt (scanN L T n) k = some p := by
  have hst : ∀ (T : Tl) (i j : Nat), newAt T k = some p → newAt (stepsF L T i j) k = some p := by
    intro T i j hT
    induction j with
    | zero => exact hT
    | succ j ih =>
      show newAt (stepF L (stepsF L T i j) i j) k = _
      unfold stepF
      split
      · exact ih
      · split
        · exact ih
        · rw [setF_newAt]; exact (mv_ext L _ _).new _ _ ih
  induction n with
  | zero => exact h
  | succ n ih => exact hst _ _ _ ih

theorem scan_come {L : List Ob} {T : Tl} {v : Int} (n : Nat) (h : come T v) : come (scanN L T n) v ∧ fwd (scanN L T n) v = fwd T v := by
  unfold come fwd at *
  by_cases hp : isP v = true
  · cases hn : newAt T (v / 8).toNat with
    | none => exact absurd hn (h hp)
    | some p => simp [scan_ext _ _ n hn, hp]
  · simp [hp]

/-- What Collect tells, and where it leads. -/
theorem collect_out {L : List Ob} (roots : List Int) (hr : ∀ v ∈ roots, rightL L v = true) : (collectR L roots).2 = roots.map (fwd (collectT L roots)) ∧ ∀ v ∈ roots, come (collectT L roots) v := by
  obtain ⟨a, b⟩ := mvs_fwd (L := L) roots [] hr
  refine ⟨?_, fun v hv => (scan_come _ (a v hv)).1⟩
  show (mvs L [] roots).2 = _
  rw [b]
  exact List.map_congr_left fun v hv => (scan_come _ (a v hv)).2.symm

/-- An object that is come to, behind the copying. -/
theorem fwd_obj {L : List Ob} {T : Tl} (h : Sc L T T.length 0) {v : Int} (hc : come T v) {o : Ob} (ho : objL L v = some o) : objL (obs T) (fwd T v) = some (o.1, o.2.map (fwd T)) ∧ ∀ x ∈ o.2, come T x := by
  have ho' := ho
  unfold objL at ho
  split at ho
  · rename_i hv
    obtain ⟨hp, h0⟩ := hv
    cases hn : newAt T (v / 8).toNat with
    | none => exact absurd hn (hc hp)
    | some p =>
      obtain ⟨i, o1, hi, rfl⟩ := newAt_some hn
      obtain ⟨o0, h1, h2, h3, h4⟩ := h.ent i _ o1 hi
      obtain rfl : o0 = o := by rw [h1] at ho; exact Option.some.inj ho
      have hl := (List.getElem?_eq_some_iff.1 hi).1
      rw [fwd_ptr hp hn]
      unfold objL
      rw [if_pos ⟨isP_mk _, by omega⟩, place_mk, at_offs hi]
      refine ⟨?_, fun x hx => ?_⟩
      · congr 1
        refine Prod.ext h2 (List.ext_getElem? fun m => ?_)
        show o1.2[m]? = _
        rw [List.getElem?_map]
        by_cases hm : m < o0.2.length
        · rw [((h4 m _ (List.getElem?_eq_getElem hm)).1 (.inl hl)).2, List.getElem?_eq_getElem hm]; rfl
        · rw [List.getElem?_eq_none (by omega), List.getElem?_eq_none (by omega)]; rfl
      · obtain ⟨m, hm, rfl⟩ := List.getElem_of_mem hx
        exact ((h4 m _ (List.getElem?_eq_getElem hm)).1 (.inl hl)).1
  · cases ho

/-- A chain of i objects, read from its last one. -/
def Chain (L : List Ob) : Nat → Int → Prop
  | 0, v => v = 0
  | i + 1, v => ∃ p, objL L v = some (1, [8 * (i : Int), p]) ∧ Chain L i p

theorem objL_append {L : List Ob} (M : List Ob) {v : Int} {o : Ob} (h : objL L v = some o) : objL (L ++ M) v = some o := by
  unfold objL at h ⊢
  split at h
  · rename_i hc; rw [if_pos hc]; exact atL_append_left M h
  · cases h

theorem Chain.append {L : List Ob} (M : List Ob) {i : Nat} {v : Int} (h : Chain L i v) : Chain (L ++ M) i v := by
  induction i generalizing v with
  | zero => exact h
  | succ i ih =>
    obtain ⟨p, h1, h2⟩ := h
    exact ⟨p, objL_append M h1, ih h2⟩

theorem Chain.right {L : List Ob} {i : Nat} {v : Int} (h : Chain L i v) : rightL L v = true := by
  cases i with
  | zero => obtain rfl : v = 0 := h; rfl
  | succ i =>
    obtain ⟨p, h1, _⟩ := h
    have := objL_some (L := L) (p := v)
    rw [h1] at this
    simp at this
    exact this.2

theorem isP_8 (i : Int) : isP (8 * i) = false := by simp [isP]

theorem Chain.fwd {L : List Ob} {T : Tl} (h : Sc L T T.length 0) {i : Nat} {v : Int} (hc : come T v) (hch : Chain L i v) : Chain (obs T) i (Go.Proofs.Ytkmfohocicngaaa.fwd T v) := by
  induction i generalizing v with
  | zero =>
    obtain rfl : v = 0 := hch
    rfl
  | succ i ih =>
    obtain ⟨p, h1, h2⟩ := hch
    obtain ⟨a, b⟩ := fwd_obj h hc h1
    refine ⟨Go.Proofs.Ytkmfohocicngaaa.fwd T p, ?_, ih (b p (by simp)) h2⟩
    rw [a]
    simp [fwd_plain (isP_8 i)]

/-- The places of a chain's objects, the last one first. -/
theorem Chain.places {L : List Ob} {i : Nat} {v : Int} (h : Chain L i v) : ∃ ps : List Nat, ps.length = i ∧ ps.Nodup ∧ (isP v = true → (v / 8).toNat ∈ ps) ∧
    (∀ k ∈ ps, ∃ (j : Nat) (p : Int), j < i ∧ atL L k = some (1, [8 * (j : Int), p]) ∧ (isP p = true → (p / 8).toNat ∈ ps)) ∧ (∀ T : Tl, Sc L T T.length 0 → come T v → ∀ k ∈ ps, k ∈ T.map (·.1)) := by
  induction i generalizing v with
  | zero =>
    obtain rfl : v = 0 := h
    exact ⟨[], rfl, by simp, fun h => by simp [isP] at h, by simp, by simp⟩
  | succ i ih =>
    obtain ⟨p, h1, h2⟩ := h
    obtain ⟨ps, a, b, c, d, e⟩ := ih h2
    have h1' := h1
    unfold objL at h1'
    split at h1'
    · rename_i hv
      refine ⟨(v / 8).toNat :: ps, by simp [a], ?_, fun _ => by simp, fun k hk => ?_, fun T hT hc k hk => ?_⟩
      · rw [List.nodup_cons]
        refine ⟨fun hm => ?_, b⟩
        obtain ⟨j, q, hj, hat, _⟩ := d _ hm
        rw [h1'] at hat
        simp at hat
        omega
      · rcases List.mem_cons.1 hk with rfl | hk
        · exact ⟨i, p, by omega, h1', fun hp => by simp [c hp]⟩
        · obtain ⟨j, q, hj, hat, hq⟩ := d k hk
          exact ⟨j, q, by omega, hat, fun hp => by simp [hq hp]⟩
      · rcases List.mem_cons.1 hk with rfl | hk
        · have := hc hv.1
          rcases Decidable.em ((v / 8).toNat ∈ T.map (·.1)) with h | h
          · exact h
          · exact absurd (newAt_none.2 h) this
        · exact e T hT ((fwd_obj hT hc h1).2 p (by simp)) k hk
    · cases h1'

theorem length_le_of_sub {xs ys : List Nat} (hn : xs.Nodup) (h : ∀ x ∈ xs, x ∈ ys) : xs.length ≤ ys.length := by
  induction xs generalizing ys with
  | nil => simp
  | cons x xs ih =>
    obtain ⟨h1, h2⟩ := List.nodup_cons.1 hn
    have hx := h x (by simp)
    have := ih (ys := ys.erase x) h2 (fun y hy => by
      rw [List.mem_erase_of_ne (fun e => h1 (by rw [← e]; exact hy))]
      exact h y (by simp [hy]))
    rw [List.length_erase_of_mem hx] at this
    have : 0 < ys.length := List.length_pos_of_mem hx
    simp; omega

theorem chain_collect {L : List Ob} (hL : WfL L) {i : Nat} {v : Int} (h : Chain L i v) : ∃ L' v', collRes L [v] = some (L', [v']) ∧ Chain L' i v' ∧ total L' = 3 * i := by
  have hr := h.right
  have hs := collect_sc [v] hL
  obtain ⟨ho, hc⟩ := collect_out (L := L) [v] (by simpa using hr)
  have hcv := hc v (by simp)
  obtain ⟨ps, a, b, c, d, e⟩ := h.places
  have hk := collect_keys (L := L) (R := fun k => k ∈ ps) (roots := [v]) hL (fun k o hk hat x hx hp => by
    obtain ⟨j, p, _, hat', hq⟩ := d k hk
    rw [hat] at hat'
    obtain rfl := Option.some.inj hat'
    simp at hx
    rcases hx with rfl | rfl
    · rw [isP_8] at hp; cases hp
    · exact hq hp) (by intro x hx; simp at hx; subst hx; exact c)
  have hlen : (collectT L [v]).length = i := by
    have h1 := length_le_of_sub hs.nd hk
    have h2 := length_le_of_sub b (e _ hs hcv)
    simp at h1 h2
    omega
  refine ⟨obs (collectT L [v]), fwd (collectT L [v]) v, ?_, h.fwd hs hcv, ?_⟩
  · have : collectR L [v] = (obs (collectT L [v]), [fwd (collectT L [v]) v]) := Prod.ext rfl (by rw [ho]; rfl)
    simp [collRes, hr, this]
  · rw [total_sum]
    have : (obs (collectT L [v])).map (fun o => o.2.length + 1) = List.replicate i 3 := by
      rw [List.eq_replicate_iff]
      refine ⟨by simp [obs, hlen], fun x hx => ?_⟩
      obtain ⟨o, ho', rfl⟩ := List.mem_map.1 hx
      obtain ⟨q, hq, rfl⟩ := List.mem_map.1 ho'
      obtain ⟨n, hn, hqn⟩ := List.getElem_of_mem hq
      obtain ⟨o0, h1, _, h3, _⟩ := hs.ent n q.1 q.2 (by rw [List.getElem?_eq_getElem hn, hqn])
      obtain ⟨j, p, _, hat, _⟩ := d q.1 (hk q.1 (List.mem_map.2 ⟨q, hq, rfl⟩))
      rw [h1] at hat
      obtain rfl := Option.some.inj hat
      rw [h3]; rfl
    rw [this]; simp; omega

end Go.Proofs.Ytkmfohocicngaaa
