/- The plain collector: objects are copied in the order in which they are named. -/
import Derived.Test.YtkmfohocicngaaaAbs
namespace Go.Proofs.Ytkmfohocicngaaa

/-- What is copied so far: an object's old place, and the object as it stands now. -/
abbrev Tl := List (Nat × Ob)

def obs (T : Tl) : List Ob := T.map (·.2)

/-- Where the object of an old place lies now. -/
def newAt : Tl → Nat → Option Nat
  | [], _ => none
  | p :: T, k => if p.1 = k then some 0 else (newAt T k).map (· + (p.2.2.length + 1))

def offs (T : Tl) (i : Nat) : Nat := total (obs (T.take i))

theorem obs_append (T U : Tl) : obs (T ++ U) = obs T ++ obs U := by simp [obs]
theorem obs_length (T : Tl) : (obs T).length = T.length := by simp [obs]

theorem newAt_append (T : Tl) (k : Nat) (o : Ob) (k' : Nat) : newAt (T ++ [(k, o)]) k' = match newAt T k' with | some p => some p | none => if k = k' then some (total (obs T)) else none := by
  induction T with
  | nil => simp [newAt, total, obs, wordsOf]
  | cons p T ih =>
    simp only [List.cons_append, newAt]
    by_cases h : p.1 = k'
    · simp [h]
    · simp only [h, if_false, ih]
      cases hn : newAt T k' with
      | some q => simp
      | none =>
        simp only [Option.map_none]
        by_cases hk : k = k'
        · simp [hk, obs, total_cons]; omega
        · simp [hk]

theorem newAt_none {T : Tl} {k : Nat} : newAt T k = none ↔ k ∉ T.map (·.1) := by
  induction T with
  | nil => simp [newAt]
  | cons p T ih =>
    simp only [newAt, List.map_cons, List.mem_cons, not_or]
    by_cases h : p.1 = k
    · simp [h]
    · simp only [h, if_false, Option.map_eq_none_iff, ih]
      exact ⟨fun h' => ⟨fun e => h e.symm, h'⟩, fun h' => h'.2⟩

theorem offs_cons (p : Nat × Ob) (T : Tl) (i : Nat) : offs (p :: T) (i + 1) = p.2.2.length + 1 + offs T i := by simp [offs, obs, total_cons]
theorem offs_zero (T : Tl) : offs T 0 = 0 := by simp [offs, obs, total, wordsOf]

theorem newAt_some {T : Tl} {k p : Nat} (h : newAt T k = some p) : ∃ i o, T[i]? = some (k, o) ∧ p = offs T i := by
  induction T generalizing p with
  | nil => simp [newAt] at h
  | cons q T ih =>
    simp only [newAt] at h
    by_cases hq : q.1 = k
    · simp [hq] at h
      exact ⟨0, q.2, by simp [← hq], by rw [offs_zero]; exact h.symm⟩
    · simp only [hq, if_false, Option.map_eq_some_iff] at h
      obtain ⟨p', hp', rfl⟩ := h
      obtain ⟨i, o, hi, rfl⟩ := ih hp'
      exact ⟨i + 1, o, by simpa using hi, by rw [offs_cons]; omega⟩

theorem newAt_at {T : Tl} (hn : (T.map (·.1)).Nodup) {i k : Nat} {o : Ob} (h : T[i]? = some (k, o)) : newAt T k = some (offs T i) := by
  induction T generalizing i with
  | nil => simp at h
  | cons q T ih =>
    simp only [List.map_cons, List.nodup_cons] at hn
    cases i with
    | zero =>
      simp at h
      subst h
      simp [newAt, offs_zero]
    | succ i =>
      simp at h
      have hq : q.1 ≠ k := fun e => hn.1 (List.mem_map.2 ⟨(k, o), List.mem_of_getElem? h, e.symm⟩)
      simp only [newAt, hq, if_false, ih hn.2 h, Option.map_some, offs_cons]
      congr 1; omega

theorem at_offs {T : Tl} {i : Nat} {p : Nat × Ob} (h : T[i]? = some p) : atL (obs T) (offs T i) = some p.2 := by
  have hi := (List.getElem?_eq_some_iff.1 h).1
  have e : T = T.take i ++ p :: T.drop (i + 1) := by
    have := List.getElem_of_getElem? h
    obtain ⟨_, hg⟩ := List.getElem?_eq_some_iff.1 h
    rw [← hg]
    simp
  have := atL_append_at (obs (T.take i)) p.2 (obs (T.drop (i + 1)))
  rw [show obs (T.take i) ++ p.2 :: obs (T.drop (i + 1)) = obs T by conv => rhs; rw [e]
                                                                    simp [obs]] at this
  exact this

theorem offs_lt {T : Tl} {i : Nat} (h : i < T.length) : offs T i < total (obs T) := by
  have := at_offs (List.getElem?_eq_getElem h)
  exact atL_lt this

theorem offs_all (T : Tl) : offs T T.length = total (obs T) := by simp [offs]

theorem offs_succ {T : Tl} {i : Nat} {p : Nat × Ob} (h : T[i]? = some p) : offs T (i + 1) = offs T i + p.2.2.length + 1 := by
  unfold offs
  obtain ⟨hi, hg⟩ := List.getElem?_eq_some_iff.1 h
  rw [List.take_succ_eq_append_getElem hi, obs_append, total_append, hg]
  simp [obs, total_cons, total_nil]; omega

/-- A value is moved. -/
def mv (L : List Ob) (T : Tl) (v : Int) : Tl × Int :=
  if isP v = true then
    match newAt T (v / 8).toNat with
    | some p => (T, (p : Int) * 8 + 5)
    | none => match atL L (v / 8).toNat with
      | some o => (T ++ [((v / 8).toNat, o)], (total (obs T) : Int) * 8 + 5)
      | none => (T, 0)
  else (T, v)

def mvs (L : List Ob) (T : Tl) : List Int → Tl × List Int
  | [] => (T, [])
  | v :: vs => ((mvs L (mv L T v).1 vs).1, (mv L T v).2 :: (mvs L (mv L T v).1 vs).2)

theorem mvs_snoc (L : List Ob) (T : Tl) (vs : List Int) (v : Int) : mvs L T (vs ++ [v]) = ((mv L (mvs L T vs).1 v).1, (mvs L T vs).2 ++ [(mv L (mvs L T vs).1 v).2]) := by
  induction vs generalizing T with
  | nil => simp [mvs]
  | cons u vs ih => simp [mvs, ih]

def setF (T : Tl) (i j : Nat) (v : Int) : Tl := T.modify i fun p => (p.1, (p.2.1, p.2.2.set j v))

def stepF (L : List Ob) (T : Tl) (i j : Nat) : Tl :=
  match T[i]? with
  | none => T
  | some p => match p.2.2[j]? with
    | none => T
    | some v => setF (mv L T v).1 i j (mv L T v).2

def stepsF (L : List Ob) (T : Tl) (i : Nat) : Nat → Tl
  | 0 => T
  | j + 1 => stepF L (stepsF L T i j) i j

def lenAt (T : Tl) (i : Nat) : Nat := match T[i]? with | some p => p.2.2.length | none => 0

def scanO (L : List Ob) (T : Tl) (i : Nat) : Tl := stepsF L T i (lenAt T i)

def scanN (L : List Ob) (T : Tl) : Nat → Tl
  | 0 => T
  | i + 1 => scanO L (scanN L T i) i

/-- What Collect makes of the objects, and what it tells. -/
def collectT (L : List Ob) (roots : List Int) : Tl := scanN L (mvs L [] roots).1 L.length
def collectR (L : List Ob) (roots : List Int) : List Ob × List Int := (obs (collectT L roots), (mvs L [] roots).2)

/-- What Collect answers. -/
def collRes (L : List Ob) (roots : List Int) : Option (List Ob × List Int) := if roots.any (fun x => !rightL L x) = true then none else some (collectR L roots)

/-- Where a value leads. -/
def fwd (T : Tl) (v : Int) : Int :=
  if isP v = true then match newAt T (v / 8).toNat with | some p => (p : Int) * 8 + 5 | none => v
  else v

def come (T : Tl) (v : Int) : Prop := isP v = true → newAt T (v / 8).toNat ≠ none

theorem setF_newAt (T : Tl) (i j : Nat) (v : Int) (k : Nat) : newAt (setF T i j v) k = newAt T k := by
  induction T generalizing i with
  | nil => simp [setF]
  | cons p T ih =>
    cases i with
    | zero => simp [setF, newAt]
    | succ i =>
      have := ih i
      simp only [setF] at this
      simp [setF, newAt, this]

theorem setF_fwd (T : Tl) (i j : Nat) (v x : Int) : fwd (setF T i j v) x = fwd T x := by simp [fwd, setF_newAt]
theorem setF_come (T : Tl) (i j : Nat) (v x : Int) : come (setF T i j v) x ↔ come T x := by simp [come, setF_newAt]
theorem setF_keys (T : Tl) (i j : Nat) (v : Int) : (setF T i j v).map (·.1) = T.map (·.1) := by
  induction T generalizing i with
  | nil => simp [setF]
  | cons p T ih =>
    cases i with
    | zero => simp [setF]
    | succ i =>
      have := ih i
      simp only [setF] at this
      simp [setF, this]

theorem setF_get (T : Tl) (i j : Nat) (v : Int) (m : Nat) : (setF T i j v)[m]? = if m = i then T[m]?.map (fun p => (p.1, (p.2.1, p.2.2.set j v))) else T[m]? := by
  unfold setF
  rw [List.getElem?_modify]
  by_cases h : i = m
  · simp [h]
  · simp [h, Ne.symm h]

/-- How a list of what is copied goes on. -/
structure Ext (T T' : Tl) : Prop where
  pre : ∀ (i : Nat) (p : Nat × Ob), T[i]? = some p → T'[i]? = some p
  new : ∀ (k p : Nat), newAt T k = some p → newAt T' k = some p

theorem Ext.refl (T : Tl) : Ext T T := ⟨fun _ _ h => h, fun _ _ h => h⟩
theorem Ext.trans {T U V : Tl} (h : Ext T U) (g : Ext U V) : Ext T V := ⟨fun i p hp => g.pre i p (h.pre i p hp), fun k p hp => g.new k p (h.new k p hp)⟩

theorem Ext.come {T T' : Tl} (h : Ext T T') {v : Int} (hc : come T v) : come T' v := by
  intro hp
  cases hn : newAt T (v / 8).toNat with
  | none => exact absurd hn (hc hp)
  | some p => rw [h.new _ _ hn]; simp

theorem Ext.fwd {T T' : Tl} (h : Ext T T') {v : Int} (hc : Go.Proofs.Ytkmfohocicngaaa.come T v) : fwd T' v = fwd T v := by
  unfold Go.Proofs.Ytkmfohocicngaaa.fwd
  by_cases hp : isP v = true
  · simp only [hp, if_true]
    cases hn : newAt T (v / 8).toNat with
    | none => exact absurd hn (hc hp)
    | some p => rw [h.new _ _ hn]
  · simp [hp]

theorem mv_ext (L : List Ob) (T : Tl) (v : Int) : Ext T (mv L T v).1 := by
  unfold mv
  split
  · split
    · exact Ext.refl T
    · split
      · rename_i hn o ho
        refine ⟨fun i p hp => ?_, fun k p hp => ?_⟩
        · rw [List.getElem?_append_left (List.getElem?_eq_some_iff.1 hp).1]; exact hp
        · rw [newAt_append, hp]
      · exact Ext.refl T
  · exact Ext.refl T

theorem mv_come {L : List Ob} {T : Tl} {v : Int} (hr : rightL L v = true) : come (mv L T v).1 v ∧ (mv L T v).2 = fwd (mv L T v).1 v := by
  unfold mv fwd come
  by_cases hp : isP v = true
  · simp only [hp, if_true]
    have hs : (atL L (v / 8).toNat).isSome = true := by
      unfold rightL at hr
      simp [hp] at hr
      exact hr.2
    obtain ⟨o, ho⟩ := Option.isSome_iff_exists.1 hs
    cases hn : newAt T (v / 8).toNat with
    | some p => simp [hn]
    | none => simp [ho, newAt_append, hn]
  · simp [hp]

/-- What holds in the middle of the scan: the first i objects are done, and j fields of the next one. -/
structure Sc (L : List Ob) (T : Tl) (i j : Nat) : Prop where
  nd : (T.map (·.1)).Nodup
  ent : ∀ (n k : Nat) (o : Ob), T[n]? = some (k, o) → ∃ o0, atL L k = some o0 ∧ o.1 = o0.1 ∧ o.2.length = o0.2.length ∧
    ∀ m x0, o0.2[m]? = some x0 → (n < i ∨ n = i ∧ m < j → come T x0 ∧ o.2[m]? = some (fwd T x0)) ∧ (¬ (n < i ∨ n = i ∧ m < j) → o.2[m]? = some x0)

theorem Sc.nil (L : List Ob) : Sc L [] 0 0 := ⟨by simp, fun n k o h => by simp at h⟩

theorem Sc.mv {L : List Ob} {T : Tl} {i j : Nat} (h : Sc L T i j) (v : Int) (hi : i < T.length ∨ j = 0 ∧ i ≤ T.length) : Sc L (mv L T v).1 i j := by
  have hx := mv_ext L T v
  have key : ∀ T', Ext T T' → (∀ (n k : Nat) (o : Ob), T[n]? = some (k, o) → ∃ o0, atL L k = some o0 ∧ o.1 = o0.1 ∧ o.2.length = o0.2.length ∧
      ∀ m x0, o0.2[m]? = some x0 → (n < i ∨ n = i ∧ m < j → come T' x0 ∧ o.2[m]? = some (fwd T' x0)) ∧ (¬ (n < i ∨ n = i ∧ m < j) → o.2[m]? = some x0)) := by
    intro T' hT n k o hn
    obtain ⟨o0, h1, h2, h3, h4⟩ := h.ent n k o hn
    refine ⟨o0, h1, h2, h3, fun m x0 hm => ⟨fun hc => ?_, (h4 m x0 hm).2⟩⟩
    obtain ⟨a, b⟩ := (h4 m x0 hm).1 hc
    exact ⟨hT.come a, by rw [hT.fwd a]; exact b⟩
  by_cases hp : isP v = true
  · cases hn : newAt T (v / 8).toNat with
    | some p => simp only [Go.Proofs.Ytkmfohocicngaaa.mv, hp, if_true, hn]; exact h
    | none =>
      cases ho : atL L (v / 8).toNat with
      | none => simp only [Go.Proofs.Ytkmfohocicngaaa.mv, hp, if_true, hn, ho]; exact h
      | some o =>
        simp only [Go.Proofs.Ytkmfohocicngaaa.mv, hp, if_true, hn, ho] at hx ⊢
        refine ⟨?_, fun n k o' hn' => ?_⟩
        · rw [List.map_append, List.nodup_append]
          refine ⟨h.nd, by simp, fun a ha b hb => ?_⟩
          simp at hb
          subst hb
          intro e
          subst e
          exact newAt_none.1 hn ha
        · by_cases hl : n < T.length
          · rw [List.getElem?_append_left hl] at hn'
            exact key _ hx n k o' hn'
          · have hnl : n = T.length := by
              have := (List.getElem?_eq_some_iff.1 hn').1
              simp at this; omega
            subst hnl
            simp at hn'
            obtain ⟨rfl, rfl⟩ := hn'
            refine ⟨o, ho, rfl, rfl, fun m x0 hm => ⟨fun hc => ?_, fun _ => hm⟩⟩
            omega
  · simp only [Go.Proofs.Ytkmfohocicngaaa.mv, hp, if_false]
    exact h

theorem Sc.step {L : List Ob} {T : Tl} {i j : Nat} (h : Sc L T i j) (hL : WfL L) {k : Nat} {o : Ob} (hi : T[i]? = some (k, o)) (hj : j < o.2.length) : Sc L (stepF L T i j) i (j + 1) := by
  have hil := (List.getElem?_eq_some_iff.1 hi).1
  obtain ⟨o0, h1, h2, h3, h4⟩ := h.ent i k o hi
  have hx0 : o0.2[j]? = some (o0.2[j]'(by omega)) := List.getElem?_eq_getElem (by omega)
  generalize o0.2[j]'(by omega) = x0 at hx0
  have hoj : o.2[j]? = some x0 := (h4 j x0 hx0).2 (by omega)
  have hr : rightL L x0 = true := hL.right o0 (atL_words h1).2.2.2 x0 (List.mem_of_getElem? hx0)
  have hs := h.mv x0 (.inl hil)
  obtain ⟨hc, hf⟩ := mv_come (T := T) hr
  have hext := mv_ext L T x0
  unfold stepF
  simp only [hi, hoj]
  generalize Go.Proofs.Ytkmfohocicngaaa.mv L T x0 = r at hs hc hf hext
  refine ⟨by rw [setF_keys]; exact hs.nd, fun n k' o' hn => ?_⟩
  rw [setF_get] at hn
  by_cases hni : n = i
  · subst hni
    rw [if_pos rfl, hext.pre _ _ hi] at hn
    simp at hn
    obtain ⟨rfl, rfl⟩ := hn
    refine ⟨o0, h1, h2, by simpa using h3, fun m y0 hm => ⟨fun hcc => ?_, fun hcc => ?_⟩⟩
    · by_cases hmj : m = j
      · subst hmj
        rw [hx0] at hm
        obtain rfl := Option.some.inj hm
        refine ⟨(setF_come _ _ _ _ _).2 hc, ?_⟩
        rw [setF_fwd, ← hf]
        simp [hj]
      · obtain ⟨a, b⟩ := ((h4 m y0 hm).1 (by omega))
        refine ⟨(setF_come _ _ _ _ _).2 (hext.come a), ?_⟩
        rw [setF_fwd, hext.fwd a, ← b]
        exact List.getElem?_set_ne (Ne.symm hmj)
    · have hmj : m ≠ j := by omega
      rw [← (h4 m y0 hm).2 (by omega)]
      exact List.getElem?_set_ne (Ne.symm hmj)
  · rw [if_neg hni] at hn
    obtain ⟨o1, g1, g2, g3, g4⟩ := hs.ent n k' o' hn
    refine ⟨o1, g1, g2, g3, fun m y0 hm => ⟨fun hcc => ?_, fun hcc => (g4 m y0 hm).2 (by omega)⟩⟩
    obtain ⟨a, b⟩ := (g4 m y0 hm).1 (by omega)
    exact ⟨(setF_come _ _ _ _ _).2 a, by rw [setF_fwd]; exact b⟩

theorem Sc.next {L : List Ob} {T : Tl} {i : Nat} {k : Nat} {o : Ob} (hi : T[i]? = some (k, o)) (h : Sc L T i o.2.length) : Sc L T (i + 1) 0 := by
  refine ⟨h.nd, fun n k' o' hn => ?_⟩
  obtain ⟨o0, h1, h2, h3, h4⟩ := h.ent n k' o' hn
  refine ⟨o0, h1, h2, h3, fun m x0 hm => ⟨fun hc => (h4 m x0 hm).1 ?_, fun hc => (h4 m x0 hm).2 (by omega)⟩⟩
  rcases Nat.lt_or_ge n i with hlt | hge
  · exact .inl hlt
  · obtain rfl : n = i := by omega
    rw [hi] at hn
    obtain ⟨rfl, rfl⟩ := Prod.mk.inj (Option.some.inj hn)
    exact .inr ⟨rfl, by have := (List.getElem?_eq_some_iff.1 hm).1; omega⟩

end Go.Proofs.Ytkmfohocicngaaa
