/- What was collected is collected again: nothing changes. -/
import Derived.Test.YtkmfohocicngaaaShape
namespace Go.Proofs.Ytkmfohocicngaaa

/-- What was copied, at its new places. -/
def idT (T : Tl) : Tl := T.mapIdx fun i p => (offs T i, p.2)

theorem idT_get (T : Tl) (i : Nat) : (idT T)[i]? = T[i]?.map fun p => (offs T i, p.2) := by simp [idT, List.getElem?_mapIdx]
theorem idT_length (T : Tl) : (idT T).length = T.length := by simp [idT]
theorem idT_obs (T : Tl) (m : Nat) : obs ((idT T).take m) = obs (T.take m) := by
  unfold obs
  apply List.ext_getElem?
  intro i
  rw [List.getElem?_map, List.getElem?_map, List.getElem?_take, List.getElem?_take]
  split
  · rw [idT_get]; cases T[i]? <;> rfl
  · rfl
theorem idT_offs (T : Tl) (i : Nat) : offs (idT T) i = offs T i := by unfold offs; rw [idT_obs]

theorem offs_mono (T : Tl) {i j : Nat} (hi : i < T.length) (hj : i < j) : offs T i < offs T j := by
  induction j with
  | zero => omega
  | succ j ih =>
    have hs : offs T j ≤ offs T (j + 1) := by
      cases hg : T[j]? with
      | none =>
        have hjl := List.getElem?_eq_none_iff.1 hg
        unfold offs
        rw [List.take_of_length_le hjl, List.take_of_length_le (by omega)]
        exact Nat.le_refl _
      | some p => rw [offs_succ hg]; omega
    rcases Nat.lt_or_ge i j with h | h
    · have := ih h; omega
    · obtain rfl : i = j := by omega
      rw [offs_succ (List.getElem?_eq_getElem hi)]; omega

theorem offs_inj (T : Tl) {i j : Nat} (hi : i < T.length) (hj : j < T.length) (h : offs T i = offs T j) : i = j := by
  rcases Nat.lt_trichotomy i j with h1 | h1 | h1
  · have := offs_mono T hi h1; omega
  · exact h1
  · have := offs_mono T hj h1; omega

theorem nd_inj {T : Tl} (hn : (T.map (·.1)).Nodup) {i j k : Nat} {o o' : Ob} (hi : T[i]? = some (k, o)) (hj : T[j]? = some (k, o')) : i = j := by
  have h1 := newAt_at hn hi
  have h2 := newAt_at hn hj
  exact offs_inj T (List.getElem?_eq_some_iff.1 hi).1 (List.getElem?_eq_some_iff.1 hj).1 (Option.some.inj (h1.symm.trans h2))

theorem idT_nodup (T : Tl) (m : Nat) : (((idT T).take m).map (·.1)).Nodup := by
  rw [List.nodup_iff_pairwise_ne, List.pairwise_iff_getElem]
  intro i j hi hj hij
  simp only [List.length_map, List.length_take, idT_length] at hi hj
  simp only [List.getElem_map, List.getElem_take]
  have e : ∀ i (h : i < T.length), ((idT T)[i]'(by rw [idT_length]; exact h)).1 = offs T i := fun i h => by
    have h' : i < (idT T).length := by rw [idT_length]; exact h
    have := idT_get T i
    rw [List.getElem?_eq_getElem h', List.getElem?_eq_getElem h] at this
    rw [Option.some.inj this]
  rw [e i (by omega), e j (by omega)]
  have := offs_mono T (show i < T.length by omega) hij
  omega

theorem idT_new {T : Tl} {i m : Nat} (hi : i < T.length) : newAt ((idT T).take m) (offs T i) = if i < m then some (offs T i) else none := by
  split
  · rename_i hm
    have hg : ((idT T).take m)[i]? = some (offs T i, (T[i]).2) := by
      rw [List.getElem?_take, if_pos hm, idT_get, List.getElem?_eq_getElem hi]; rfl
    rw [newAt_at (idT_nodup T m) hg]
    congr 1
    unfold offs
    rw [List.take_take, Nat.min_eq_left (by omega), idT_obs]
  · rename_i hm
    rw [newAt_none]
    intro hmem
    obtain ⟨p, hp, he⟩ := List.mem_map.1 hmem
    obtain ⟨j, hj, rfl⟩ := List.getElem_of_mem hp
    simp only [List.length_take, idT_length] at hj
    have hg : (idT T)[j]? = some ((idT T)[j]'(by rw [idT_length]; omega)) := List.getElem?_eq_getElem _
    rw [idT_get, List.getElem?_eq_getElem (show j < T.length by omega)] at hg
    rw [List.getElem_take, ← Option.some.inj hg] at he
    have := offs_inj T (show j < T.length by omega) hi he
    omega

/-- A list of what is copied goes on to another; fields may turn. -/
structure LE (T T' : Tl) : Prop where
  pre : ∀ (i k : Nat) (o : Ob), T[i]? = some (k, o) → ∃ o', T'[i]? = some (k, o')
  new : ∀ (k p : Nat), newAt T k = some p → newAt T' k = some p

theorem LE.refl (T : Tl) : LE T T := ⟨fun _ _ o h => ⟨o, h⟩, fun _ _ h => h⟩
theorem LE.trans {T U V : Tl} (h : LE T U) (g : LE U V) : LE T V := ⟨fun i k o ho => by obtain ⟨o', h'⟩ := h.pre i k o ho; exact g.pre i k o' h', fun k p hp => g.new k p (h.new k p hp)⟩
theorem Ext.le {T T' : Tl} (h : Ext T T') : LE T T' := ⟨fun i k o ho => ⟨o, h.pre i _ ho⟩, h.new⟩
theorem LE.setF (T : Tl) (i j : Nat) (v : Int) : LE T (setF T i j v) := by
  refine ⟨fun m k o ho => ?_, fun k p hp => by rw [setF_newAt]; exact hp⟩
  rw [setF_get, ho]
  split
  · exact ⟨_, rfl⟩
  · exact ⟨_, rfl⟩
theorem LE.stepF (L : List Ob) (T : Tl) (i j : Nat) : LE T (stepF L T i j) := by
  unfold Go.Proofs.Ytkmfohocicngaaa.stepF
  split
  · exact LE.refl _
  · split
    · exact LE.refl _
    · exact (mv_ext L T _).le.trans (LE.setF _ _ _ _)
theorem LE.steps (L : List Ob) (T : Tl) (i j : Nat) : LE T (stepsF L T i j) := by
  induction j with
  | zero => exact LE.refl _
  | succ j ih => exact ih.trans (LE.stepF _ _ _ _)
theorem LE.scan (L : List Ob) (T : Tl) (n : Nat) : LE T (scanN L T n) := by
  induction n with
  | zero => exact LE.refl _
  | succ n ih => exact ih.trans (LE.steps _ _ _ _)

section
variable {L : List Ob} {Tf : Tl}

theorem mv_id (hS : Sc L Tf Tf.length 0) {T : Tl} {v : Int} (hle : LE (mv L T v).1 Tf) (hr : rightL L v = true) :
    mv (obs Tf) ((idT Tf).take T.length) (fwd Tf v) = ((idT Tf).take (mv L T v).1.length, fwd Tf v) := by
  by_cases hp : isP v = true
  · have hc := (mv_come (T := T) hr).1
    cases hn1 : newAt (mv L T v).1 (v / 8).toNat with
    | none => exact absurd hn1 (hc hp)
    | some p =>
      have hnf := hle.new _ _ hn1
      obtain ⟨i, o, hi, rfl⟩ := newAt_some hnf
      have hil := (List.getElem?_eq_some_iff.1 hi).1
      rw [fwd_ptr hp hnf]
      have hL1 : mv (obs Tf) ((idT Tf).take T.length) ((offs Tf i : Int) * 8 + 5) = if i < T.length then ((idT Tf).take T.length, (offs Tf i : Int) * 8 + 5) else ((idT Tf).take T.length ++ [(offs Tf i, o)], (total (obs ((idT Tf).take T.length)) : Int) * 8 + 5) := by
        unfold mv
        rw [if_pos (isP_mk _), place_mk, idT_new hil]
        by_cases him : i < T.length
        · simp [him]
        · simp [him, at_offs hi]
      rw [hL1]
      cases hn : newAt T (v / 8).toNat with
      | some p0 =>
        obtain ⟨i0, o0, hi0, _⟩ := newAt_some hn
        have hmv : (mv L T v).1 = T := by unfold mv; simp [hp, hn]
        rw [hmv] at hle ⊢
        obtain ⟨o1, ho1⟩ := hle.pre _ _ _ hi0
        have := nd_inj hS.nd hi ho1
        subst this
        rw [if_pos (List.getElem?_eq_some_iff.1 hi0).1]
      | none =>
        have hs : (atL L (v / 8).toNat).isSome = true := by
          unfold rightL at hr
          simp [hp] at hr
          exact hr.2
        obtain ⟨oL, hoL⟩ := Option.isSome_iff_exists.1 hs
        have hmv : (mv L T v).1 = T ++ [((v / 8).toNat, oL)] := by unfold mv; simp [hp, hn, hoL]
        rw [hmv] at hle ⊢
        obtain ⟨o1, ho1⟩ := hle.pre T.length (v / 8).toNat oL (by simp)
        have := nd_inj hS.nd hi ho1
        subst this
        rw [if_neg (by omega), List.length_append, List.length_singleton, List.take_add_one, idT_get, hi]
        refine Prod.ext rfl ?_
        show (total (obs ((idT Tf).take T.length)) : Int) * 8 + 5 = _
        rw [idT_obs]; rfl
  · have hp' : isP v = false := by simpa using hp
    rw [fwd_plain hp']
    have h1 : (mv L T v).1 = T := by unfold mv; simp [hp]
    rw [h1]
    unfold mv
    simp [hp]

theorem mvs_id (hS : Sc L Tf Tf.length 0) : ∀ (vs : List Int) (T : Tl), (∀ v ∈ vs, rightL L v = true) → LE (mvs L T vs).1 Tf →
    mvs (obs Tf) ((idT Tf).take T.length) (vs.map (fwd Tf)) = ((idT Tf).take (mvs L T vs).1.length, vs.map (fwd Tf))
  | [], T, _, _ => rfl
  | v :: vs, T, hr, hle => by
    have h1 := mv_id hS (T := T) (v := v) ((mvs_ext vs (mv L T v).1).le.trans hle) (hr v (by simp))
    have h2 := mvs_id hS vs (mv L T v).1 (fun x hx => hr x (by simp [hx])) hle
    show (_, _) = (_, _)
    simp only [List.map_cons]
    rw [h1]
    simp only
    rw [h2]
    rfl

theorem step_id (hL : WfL L) (hS : Sc L Tf Tf.length 0) {T : Tl} {i j k : Nat} {o : Ob} (h : Sc L T i j) (hi : T[i]? = some (k, o)) (hj : j < o.2.length) (hle : LE (stepF L T i j) Tf) :
    stepF (obs Tf) ((idT Tf).take T.length) i j = (idT Tf).take (stepF L T i j).length := by
  obtain ⟨o0, h1, h2, h3, h4⟩ := h.ent i k o hi
  have hj0 : j < o0.2.length := by omega
  have hx := (h4 j _ (List.getElem?_eq_getElem hj0)).2 (by omega)
  obtain ⟨x0, hx0⟩ : ∃ x0, o0.2[j] = x0 := ⟨_, rfl⟩
  rw [hx0] at hx
  have hst : stepF L T i j = setF (mv L T x0).1 i j (mv L T x0).2 := by
    unfold stepF
    simp [hi, hx]
  rw [hst] at hle ⊢
  have hlen : (setF (mv L T x0).1 i j (mv L T x0).2).length = (mv L T x0).1.length := by simp [setF]
  rw [hlen]
  have hle1 := (LE.setF (mv L T x0).1 i j (mv L T x0).2).trans hle
  obtain ⟨of, hof⟩ := ((mv_ext L T x0).le.trans hle1).pre i k o hi
  have hil := (List.getElem?_eq_some_iff.1 hof).1
  obtain ⟨o0', g1, g2, g3, g4⟩ := hS.ent i k of hof
  obtain rfl : o0 = o0' := by rw [h1] at g1; exact Option.some.inj g1
  have hfx := ((g4 j _ (List.getElem?_eq_getElem hj0)).1 (.inl hil)).2
  rw [hx0] at hfx
  have hiT := (List.getElem?_eq_some_iff.1 hi).1
  have hget : ∀ m, i < m → ((idT Tf).take m)[i]? = some (offs Tf i, of) := fun m hm => by rw [List.getElem?_take, if_pos hm, idT_get, hof]; rfl
  have hst' : stepF (obs Tf) ((idT Tf).take T.length) i j = setF (mv (obs Tf) ((idT Tf).take T.length) (fwd Tf x0)).1 i j (mv (obs Tf) ((idT Tf).take T.length) (fwd Tf x0)).2 := by
    unfold stepF
    simp [hget _ hiT, hfx]
  rw [hst', mv_id hS hle1 (hL.right o0 (atL_mem h1) x0 (hx0 ▸ List.getElem_mem _))]
  have hm : i < (mv L T x0).1.length := (List.getElem?_eq_some_iff.1 ((mv_ext L T x0).pre i _ hi)).1
  apply List.ext_getElem?
  intro n
  rw [setF_get]
  split
  · rename_i hn
    subst hn
    rw [hget _ hm]
    have : of.2.set j (fwd Tf x0) = of.2 := by
      apply List.ext_getElem?
      intro q
      rw [List.getElem?_set]
      split
      · rename_i hq
        subst hq
        rw [hfx]
        have := (List.getElem?_eq_some_iff.1 hfx).1
        simp [this]
      · rfl
    simp [this]
  · rfl

theorem steps_id (hL : WfL L) (hS : Sc L Tf Tf.length 0) {T : Tl} {i : Nat} (h : Sc L T i 0) (hi : i < T.length) (j : Nat) (hj : j ≤ lenAt T i) (hle : LE (stepsF L T i j) Tf) :
    stepsF (obs Tf) ((idT Tf).take T.length) i j = (idT Tf).take (stepsF L T i j).length := by
  induction j with
  | zero => rfl
  | succ j ih =>
    have h1 := ih (by omega) ((LE.stepF L (stepsF L T i j) i j).trans hle)
    obtain ⟨a, b, c⟩ := steps_sc hL h j (by omega) hi
    obtain ⟨⟨k, o⟩, ho⟩ : ∃ p, T[i]? = some p := ⟨_, List.getElem?_eq_getElem hi⟩
    obtain ⟨o', ho', e1, e2⟩ := b k o ho
    have hlen : lenAt T i = o.2.length := by simp [lenAt, ho]
    show stepF (obs Tf) (stepsF (obs Tf) ((idT Tf).take T.length) i j) i j = _
    rw [h1]
    exact step_id hL hS a ho' (by omega) hle

theorem scan_id (hL : WfL L) (hS : Sc L Tf Tf.length 0) {T : Tl} (h : Sc L T 0 0) (n : Nat) (hi : ∀ i', i' < n → i' < (scanN L T i').length) (hle : LE (scanN L T n) Tf) :
    scanN (obs Tf) ((idT Tf).take T.length) n = (idT Tf).take (scanN L T n).length := by
  induction n with
  | zero => rfl
  | succ n ih =>
    have hle1 : LE (scanN L T n) Tf := (LE.steps L (scanN L T n) n _).trans hle
    have h1 := ih (fun i' h' => hi i' (by omega)) hle1
    have hs := scanN_sc hL h n (fun i' h' => hi i' (by omega))
    have hn := hi n (by omega)
    show scanO (obs Tf) (scanN (obs Tf) ((idT Tf).take T.length) n) n = _
    rw [h1]
    have hlen : lenAt ((idT Tf).take (scanN L T n).length) n = lenAt (scanN L T n) n := by
      obtain ⟨⟨k, o⟩, ho⟩ : ∃ p, (scanN L T n)[n]? = some p := ⟨_, List.getElem?_eq_getElem hn⟩
      obtain ⟨of, hof⟩ := hle1.pre n k o ho
      obtain ⟨o0, a1, a2, a3, _⟩ := hs.ent n k o ho
      obtain ⟨o0', b1, b2, b3, _⟩ := hS.ent n k of hof
      obtain rfl : o0 = o0' := by rw [a1] at b1; exact Option.some.inj b1
      unfold lenAt
      rw [List.getElem?_take, if_pos hn, idT_get, hof, ho]
      show of.2.length = o.2.length
      omega
    unfold scanO
    rw [hlen]
    exact steps_id hL hS hs hn _ (Nat.le_refl _) hle
end

theorem idT_fwd {L : List Ob} {T : Tl} (hS : Sc L T T.length 0) {v : Int} (hc : come T v) : fwd (idT T) (fwd T v) = fwd T v := by
  by_cases hp : isP v = true
  · cases hn : newAt T (v / 8).toNat with
    | none => exact absurd hn (hc hp)
    | some p =>
      obtain ⟨i, o, hi, rfl⟩ := newAt_some hn
      have hil := (List.getElem?_eq_some_iff.1 hi).1
      rw [fwd_ptr hp hn]
      have := idT_new (m := T.length) hil
      rw [if_pos hil, List.take_of_length_le (by rw [idT_length]; exact Nat.le_refl _)] at this
      rw [fwd_ptr (isP_mk _) (p := offs T i) (by rw [place_mk]; exact this)]
  · have hp' : isP v = false := by simpa using hp
    rw [fwd_plain hp', fwd_plain hp']

/-- Collected again, all stays as it is. -/
theorem collect_again {L : List Ob} (hL : WfL L) (roots : List Int) (hr : ∀ v ∈ roots, rightL L v = true) : collectR (collectR L roots).1 (collectR L roots).2 = collectR L roots := by
  have ho := (collect_out roots hr).1
  have hS := collect_sc roots hL
  obtain ⟨n, h1, h2⟩ := scan_exists roots hL
  have e := scan_end hL h1 h2
  have hT0 : LE (mvs L [] roots).1 (collectT L roots) := LE.scan _ _ _
  have hm : mvs (obs (collectT L roots)) [] (roots.map (fwd (collectT L roots))) = _ := mvs_id hS roots [] hr hT0
  have hsc := scan_id hL hS (mvs_sc roots [] (Sc.nil L)) n h1 (by rw [e]; exact LE.refl _)
  rw [e] at hsc h2
  have hTT : collectT (obs (collectT L roots)) (roots.map (fwd (collectT L roots))) = idT (collectT L roots) := by
    show scanN (obs (collectT L roots)) (mvs (obs (collectT L roots)) [] (roots.map (fwd (collectT L roots)))).1 (obs (collectT L roots)).length = _
    rw [hm, obs_length, h2]
    show scanN (obs (collectT L roots)) ((idT (collectT L roots)).take (mvs L [] roots).1.length) n = _
    rw [hsc, List.take_of_length_le (by rw [idT_length]; exact Nat.le_refl _)]
  have h0 : obs (idT (collectT L roots)) = obs (collectT L roots) := by
    have := idT_obs (collectT L roots) (collectT L roots).length
    rw [List.take_of_length_le (by rw [idT_length]; exact Nat.le_refl _), List.take_of_length_le (Nat.le_refl _)] at this
    exact this
  rw [show collectR L roots = (obs (collectT L roots), (collectR L roots).2) from rfl, ho]
  show (obs (collectT (obs (collectT L roots)) (roots.map (fwd (collectT L roots)))), (mvs (obs (collectT L roots)) [] (roots.map (fwd (collectT L roots)))).2) = _
  rw [hTT, h0, hm]

/-- What was collected has its shape. -/
theorem collect_shape {L : List Ob} (hL : WfL L) (roots : List Int) (hr : ∀ v ∈ roots, rightL L v = true) : shapeL (collectR L roots).1 (collectR L roots).2 = shapeL L roots := by
  obtain ⟨ho, hcome⟩ := collect_out roots hr
  have hS := collect_sc roots hL
  rw [ho]
  have M : Mapped L (obs (collectT L roots)) (fwd (collectT L roots)) (fun v => come (collectT L roots) v ∧ (isP v = true → 0 < v)) := by
    generalize collectT L roots = T at hS
    have hget : ∀ v, come T v → isP v = true → ∃ i o, T[i]? = some ((v / 8).toNat, o) ∧ fwd T v = (offs T i : Int) * 8 + 5 := fun v hc hp => by
      cases hn : newAt T (v / 8).toNat with
      | none => exact absurd hn (hc hp)
      | some p =>
        obtain ⟨i, o, hi, rfl⟩ := newAt_some hn
        exact ⟨i, o, hi, fwd_ptr hp hn⟩
    have hkind : ∀ v, come T v → isP (fwd T v) = isP v := fun v hc => by
      cases hp : isP v with
      | false => rw [fwd_plain hp, hp]
      | true =>
        obtain ⟨i, o, _, h⟩ := hget v hc hp
        rw [h, isP_mk]
    refine ⟨fun v hc => hkind v hc.1, fun v hc hp => fwd_plain hp, fun v u hv hu he => ?_, fun v o hc hv => ?_⟩
    · have hk : isP v = isP u := by rw [← hkind v hv.1, ← hkind u hu.1, he]
      cases hp : isP v with
      | false => rw [fwd_plain hp, fwd_plain (hk ▸ hp)] at he; exact he
      | true =>
        have hq : isP u = true := hk ▸ hp
        obtain ⟨i, o, hi, h1⟩ := hget v hv.1 hp
        obtain ⟨j, o', hj, h2⟩ := hget u hu.1 hq
        rw [h1, h2] at he
        have hij := offs_inj T (List.getElem?_eq_some_iff.1 hi).1 (List.getElem?_eq_some_iff.1 hj).1 (by omega)
        subst hij
        rw [hi] at hj
        have hkk := congrArg Prod.fst (Option.some.inj hj)
        simp only at hkk
        have a1 := hv.2 hp
        have a2 := hu.2 hq
        have b1 : v % 8 = 5 := by simpa [isP] using hp
        have b2 : u % 8 = 5 := by simpa [isP] using hq
        omega
    · obtain ⟨c1, c2⟩ := fwd_obj hS hc.1 hv
      refine ⟨c1, fun x hx => ⟨c2 x hx, fun hp => ?_⟩⟩
      have hr := hL.right o (objL_mem hv) x hx
      unfold rightL at hr
      simp [hp] at hr
      exact hr.1
  exact M.shape hL (fun v hv => ⟨hcome v hv, fun hp => by have h := hr v hv; unfold rightL at h; simp [hp] at h; exact h.1⟩) fun v hv hp => right_obj (hr v hv) hp

/-- What Collect answers, and answers again. -/
theorem collRes_right {L : List Ob} {roots : List Int} (hr : ∀ v ∈ roots, rightL L v = true) : collRes L roots = some (collectR L roots) := by
  unfold collRes
  rw [if_neg]
  intro h
  obtain ⟨x, hx, h⟩ := List.any_eq_true.1 h
  simp [hr x hx] at h

end Go.Proofs.Ytkmfohocicngaaa
