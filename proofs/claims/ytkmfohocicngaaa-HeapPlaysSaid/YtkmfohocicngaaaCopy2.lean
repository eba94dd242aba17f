/- The plain collector: what is copied takes no more room than what was there; the scan ends; what it leaves is a heap. -/
import Derived.Test.YtkmfohocicngaaaCopy
namespace Go.Proofs.Ytkmfohocicngaaa

theorem total_sum (L : List Ob) : total L = (L.map (fun o => o.2.length + 1)).sum := by
  induction L with
  | nil => rfl
  | cons o L ih => rw [total_cons, ih]; simp

def valAt (g : Ob → Nat) (L : List Ob) (k : Nat) : Nat := match atL L k with | some o => g o | none => 0

theorem sum_zero_keys (c : Nat) : ∀ ks : List Nat, ks.Nodup → (ks.map (fun k => if k = 0 then c else 0)).sum ≤ c
  | [], _ => by simp
  | k :: ks, h => by
    obtain ⟨h1, h2⟩ := List.nodup_cons.1 h
    have ih := sum_zero_keys c ks h2
    by_cases hk : k = 0
    · subst hk
      have : (ks.map (fun k => if k = 0 then c else 0)).sum = 0 := by
        rw [List.map_congr_left (g := fun _ => 0) (fun x hx => if_neg (fun e => h1 (by rw [← e]; exact hx)))]
        clear ih h1 h2 h
        induction ks with
        | nil => rfl
        | cons a l ih => simpa using ih
      simp [this]
    · simp [hk, ih]

theorem sum_split (f g h : Nat → Nat) : ∀ ks : List Nat, (∀ k, f k ≤ g k + h k) → (ks.map f).sum ≤ (ks.map g).sum + (ks.map h).sum
  | [], _ => by simp
  | k :: ks, hf => by have := sum_split f g h ks hf; have := hf k; simp; omega

theorem sum_keys (g : Ob → Nat) (L : List Ob) : ∀ ks : List Nat, ks.Nodup → (ks.map (valAt g L)).sum ≤ (L.map g).sum := by
  induction L with
  | nil =>
    intro ks _
    have : ∀ ks : List Nat, (ks.map (valAt g [])).sum = 0 := by
      intro ks
      induction ks with
      | nil => rfl
      | cons a l ih => simpa [valAt, atL] using ih
    simp [this]
  | cons o L ih =>
    intro ks hn
    have h1 := sum_split (valAt g (o :: L)) (fun k => if k = 0 then g o else 0) (fun k => if k < o.2.length + 1 then 0 else valAt g L (k - (o.2.length + 1))) ks (fun k => by
      have e : atL (o :: L) k = if k = 0 then some o else if k < o.2.length + 1 then none else atL L (k - (o.2.length + 1)) := rfl
      unfold valAt
      rw [e]
      by_cases h0 : k = 0
      · simp [h0]
      · by_cases h1 : k < o.2.length + 1
        · simp [h0, h1]
        · simp [h0, h1])
    have h2 := sum_zero_keys (g o) ks hn
    have h3 : (ks.map (fun k => if k < o.2.length + 1 then 0 else valAt g L (k - (o.2.length + 1)))).sum = (((ks.filter (fun k => decide (¬ k < o.2.length + 1))).map (· - (o.2.length + 1))).map (valAt g L)).sum := by
      clear h1 h2 hn ih
      induction ks with
      | nil => rfl
      | cons a l ih =>
        by_cases ha : a < o.2.length + 1
        · simp only [List.map_cons, List.sum_cons, ha, if_true, List.filter_cons, not_true, decide_false, Bool.false_eq_true, if_false]
          rw [ih]; simp
        · simp only [List.map_cons, List.sum_cons, ha, if_false, List.filter_cons, not_false_eq_true, decide_true, if_true]
          rw [ih]
    have h4 : ((ks.filter (fun k => decide (¬ k < o.2.length + 1))).map (· - (o.2.length + 1))).Nodup := by
      rw [List.nodup_iff_pairwise_ne, List.pairwise_map]
      have := hn.filter (fun k => decide (¬ k < o.2.length + 1))
      refine (List.nodup_iff_pairwise_ne.1 this).imp_of_mem fun {a b} ha hb hab => ?_
      have ha' := (List.mem_filter.1 ha).2
      have hb' := (List.mem_filter.1 hb).2
      simp only [decide_eq_true_eq] at ha' hb'
      omega
    have h5 := ih _ h4
    simp only [List.map_cons, List.sum_cons]
    omega

theorem Sc.sum {L : List Ob} {T : Tl} {i j : Nat} (h : Sc L T i j) (g : Ob → Nat) (hg : ∀ o o' : Ob, o.1 = o'.1 → o.2.length = o'.2.length → g o = g o') : ((obs T).map g).sum ≤ (L.map g).sum := by
  have h1 := sum_keys g L (T.map (·.1)) h.nd
  have h2 : (T.map (·.1)).map (valAt g L) = (obs T).map g := by
    unfold obs
    rw [List.map_map, List.map_map]
    refine List.map_congr_left fun p hp => ?_
    obtain ⟨n, hn, hpn⟩ := List.getElem_of_mem hp
    obtain ⟨o0, a, b, c, _⟩ := h.ent n p.1 p.2 (by rw [List.getElem?_eq_getElem hn, hpn])
    show valAt g L p.1 = g p.2
    rw [valAt, a]
    exact (hg _ _ b c).symm
  rw [h2] at h1
  exact h1

theorem Sc.total {L : List Ob} {T : Tl} {i j : Nat} (h : Sc L T i j) : total (obs T) ≤ Go.Proofs.Ytkmfohocicngaaa.total L := by
  rw [total_sum, total_sum]
  exact h.sum _ fun _ _ _ e => by rw [e]

theorem Sc.length {L : List Ob} {T : Tl} {i j : Nat} (h : Sc L T i j) : T.length ≤ L.length := by
  have := h.sum (fun _ => 1) (fun _ _ _ _ => rfl)
  have e : ∀ l : List Ob, (l.map (fun _ => 1)).sum = l.length := fun l => by
    induction l with
    | nil => rfl
    | cons a l ih => simp [ih]; omega
  rw [e, e, obs_length] at this
  exact this

/-- The scan in the middle of object i. -/
theorem steps_sc {L : List Ob} {T : Tl} {i : Nat} (hL : WfL L) (h : Sc L T i 0) (j : Nat) (hj : j ≤ lenAt T i) (hi : i < T.length) :
    Sc L (stepsF L T i j) i j ∧ (∀ k o, T[i]? = some (k, o) → ∃ o', (stepsF L T i j)[i]? = some (k, o') ∧ o'.1 = o.1 ∧ o'.2.length = o.2.length) ∧ T.length ≤ (stepsF L T i j).length := by
  induction j with
  | zero => exact ⟨h, fun k o ho => ⟨o, ho, rfl, rfl⟩, Nat.le_refl _⟩
  | succ j ih =>
    obtain ⟨a, b, c⟩ := ih (by omega)
    obtain ⟨⟨k, o⟩, ho⟩ : ∃ p, T[i]? = some p := ⟨_, List.getElem?_eq_getElem hi⟩
    obtain ⟨o', ho', e1, e2⟩ := b k o ho
    have hlen : lenAt T i = o.2.length := by simp [lenAt, ho]
    have hjl : j < o'.2.length := by omega
    have hs := a.step hL ho' hjl
    refine ⟨hs, fun k1 o1 h1 => ?_, ?_⟩
    · rw [ho] at h1
      obtain ⟨rfl, rfl⟩ := Prod.mk.inj (Option.some.inj h1)
      show ∃ o', (stepF L (stepsF L T i j) i j)[i]? = some (k, o') ∧ _
      unfold stepF
      simp only [ho', List.getElem?_eq_getElem hjl]
      rw [setF_get, if_pos rfl, (mv_ext L _ _).pre _ _ ho']
      exact ⟨_, rfl, e1, by simpa using e2⟩
    · show T.length ≤ (stepF L (stepsF L T i j) i j).length
      unfold stepF
      simp only [ho', List.getElem?_eq_getElem hjl]
      have hl := (mv_ext L (stepsF L T i j) (o'.2[j])).pre
      have : (stepsF L T i j).length ≤ (mv L (stepsF L T i j) (o'.2[j])).1.length := by
        rcases Nat.eq_zero_or_pos (stepsF L T i j).length with h0 | h0
        · omega
        · have := (List.getElem?_eq_some_iff.1 (hl ((stepsF L T i j).length - 1) _ (List.getElem?_eq_getElem (by omega)))).1
          omega
      simp only [setF, List.length_modify]
      omega

theorem scanO_sc {L : List Ob} {T : Tl} {i : Nat} (hL : WfL L) (h : Sc L T i 0) (hi : i < T.length) : Sc L (scanO L T i) (i + 1) 0 ∧ T.length ≤ (scanO L T i).length := by
  obtain ⟨⟨k, o⟩, ho⟩ : ∃ p, T[i]? = some p := ⟨_, List.getElem?_eq_getElem hi⟩
  have hlen : lenAt T i = o.2.length := by simp [lenAt, ho]
  obtain ⟨a, b, c⟩ := steps_sc hL h (lenAt T i) (Nat.le_refl _) hi
  obtain ⟨o', ho', _, e2⟩ := b k o ho
  refine ⟨?_, c⟩
  unfold scanO
  rw [show Sc L (stepsF L T i (lenAt T i)) i (lenAt T i) = Sc L (stepsF L T i (lenAt T i)) i o'.2.length by rw [hlen, e2]] at a
  exact Sc.next ho' a

theorem scanO_done {L : List Ob} {T : Tl} {i : Nat} (hi : T.length ≤ i) : scanO L T i = T := by
  simp [scanO, lenAt, List.getElem?_eq_none hi, stepsF]

theorem scanN_sc {L : List Ob} {T : Tl} (hL : WfL L) (h : Sc L T 0 0) (i : Nat) (hi : ∀ i', i' < i → i' < (scanN L T i').length) : Sc L (scanN L T i) i 0 := by
  induction i with
  | zero => exact h
  | succ i ih => exact (scanO_sc hL (ih fun i' h' => hi i' (by omega)) (hi i (by omega))).1

theorem scanN_stay {L : List Ob} {T : Tl} {i : Nat} (h : (scanN L T i).length ≤ i) (m : Nat) (hm : i ≤ m) : scanN L T m = scanN L T i := by
  induction m with
  | zero => obtain rfl : i = 0 := by omega
            rfl
  | succ m ih =>
    rcases Nat.eq_or_lt_of_le hm with rfl | hlt
    · rfl
    · have := ih (by omega)
      show scanO L (scanN L T m) m = _
      rw [this, scanO_done (by omega)]

theorem mvs_sc {L : List Ob} : ∀ (vs : List Int) (T : Tl), Sc L T 0 0 → Sc L (mvs L T vs).1 0 0
  | [], _, h => h
  | v :: vs, T, h => mvs_sc vs _ (h.mv v (.inr ⟨rfl, Nat.zero_le _⟩))

theorem mvs_ext {L : List Ob} : ∀ (vs : List Int) (T : Tl), Ext T (mvs L T vs).1
  | [], T => Ext.refl T
  | v :: vs, T => (mv_ext L T v).trans (mvs_ext vs _)

theorem mvs_fwd {L : List Ob} : ∀ (vs : List Int) (T : Tl), (∀ v ∈ vs, rightL L v = true) → (∀ v ∈ vs, come (mvs L T vs).1 v) ∧ (mvs L T vs).2 = vs.map (fwd (mvs L T vs).1)
  | [], _, _ => ⟨by simp, rfl⟩
  | v :: vs, T, h => by
    obtain ⟨a, b⟩ := mvs_fwd vs (mv L T v).1 (fun x hx => h x (by simp [hx]))
    obtain ⟨c, d⟩ := mv_come (T := T) (h v (by simp))
    have e := mvs_ext vs (L := L) (mv L T v).1
    refine ⟨fun x hx => ?_, ?_⟩
    · rcases List.mem_cons.1 hx with rfl | hx
      · exact e.come c
      · exact a x hx
    · simp only [mvs, List.map_cons, d, e.fwd c, ← b]

/-- How a scan stands behind n objects. -/
theorem scan_end {L : List Ob} {roots : List Int} {n : Nat} (hL : WfL L) (hi : ∀ i', i' < n → i' < (scanN L (mvs L [] roots).1 i').length) (hn : (scanN L (mvs L [] roots).1 n).length = n) :
    scanN L (mvs L [] roots).1 n = collectT L roots := by
  have hs := scanN_sc hL (mvs_sc roots [] (Sc.nil L)) n hi
  have := hs.length
  exact (scanN_stay (by omega) L.length (by omega)).symm

/-- The scan comes to an end within as many objects as there were. -/
theorem scan_exists {L : List Ob} (roots : List Int) (hL : WfL L) : ∃ n, (∀ i', i' < n → i' < (scanN L (mvs L [] roots).1 i').length) ∧ (scanN L (mvs L [] roots).1 n).length = n := by
  have key : ∀ m n, m + n = L.length + 1 → (∀ i', i' < n → i' < (scanN L (mvs L [] roots).1 i').length) → ∃ n, (∀ i', i' < n → i' < (scanN L (mvs L [] roots).1 i').length) ∧ (scanN L (mvs L [] roots).1 n).length = n := by
    intro m
    induction m with
    | zero =>
      intro n hn h
      have h1 := h L.length (by omega)
      have := (scanN_sc hL (mvs_sc roots [] (Sc.nil L)) L.length (fun i' h' => h i' (by omega))).length
      omega
    | succ m ih =>
      intro n hn h
      by_cases hlt : n < (scanN L (mvs L [] roots).1 n).length
      · exact ih (n + 1) (by omega) (fun i' h' => by
          rcases Nat.lt_or_ge i' n with h1 | h1
          · exact h i' h1
          · obtain rfl : i' = n := by omega
            exact hlt)
      · refine ⟨n, h, ?_⟩
        cases n with
        | zero => omega
        | succ n =>
          have h1 := h n (by omega)
          have h2 := (scanO_sc hL (scanN_sc hL (mvs_sc roots [] (Sc.nil L)) n (fun i' h' => h i' (by omega))) h1).2
          show (scanO L (scanN L (mvs L [] roots).1 n) n).length = n + 1
          have h3 : ¬ n + 1 < (scanO L (scanN L (mvs L [] roots).1 n) n).length := hlt
          omega
  exact key (L.length + 1) 0 (by omega) (fun i' h => by omega)

/-- What the collector leaves, in plain words. -/
theorem collect_sc {L : List Ob} (roots : List Int) (hL : WfL L) : Sc L (collectT L roots) (collectT L roots).length 0 := by
  obtain ⟨n, h1, h2⟩ := scan_exists roots hL
  have e := scan_end hL h1 h2
  have := scanN_sc hL (mvs_sc roots [] (Sc.nil L)) n h1
  rw [e] at this h2
  rw [h2]
  exact this

end Go.Proofs.Ytkmfohocicngaaa
