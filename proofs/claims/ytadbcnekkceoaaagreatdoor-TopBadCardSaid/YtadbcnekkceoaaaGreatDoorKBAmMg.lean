/- moves.Order: from its walked contract to the machine's. -/
import Derived.Test.YtadbcnekkceoaaaGreatDoorKBAmMc
import Derived.Test.YtadbcnekkceoaaaGreatDoorKBMvMO
set_option linter.unusedVariables false
namespace Go.Proofs.YtadbcnekkceoaaaGreatDoor
namespace Am
open Go.Shelf Go.RowKit
section
variable {P : Program} {tb : Tb} {NN : Nat → Nat} {m : Mp} {h : H} {w w' : World}
theorem HR.take (hr : HR tb NN m h w') {a : Pos} (ha : m a = none) (hn : a.nat < h.next.nat) {k sz : Nat} {o : Obj} {b : AB} (hk : w'.heap[k]? = some o) (hw : ∀ a' i s, m a' = some (i, s) → i ≠ k) (hb : BR tb NN m b o sz) : HR tb NN (m.put a (k, sz)) (h.set a b) w' := by
  have hle := Mp.le_put (k, sz) ha
  have hkl : k < w'.heap.size := (Array.getElem?_eq_some_iff.1 hk).1
  refine ⟨fun c x hc => ?_, fun c c' x x' i s s' hc hc' h1 h2 => ?_, fun c i s hc => ?_, fun c hc => ?_⟩
  · rw [H.get_set] at hc
    split at hc
    · next e => subst e; injection hc with hc; subst hc; exact ⟨k, sz, o, Mp.put_same _ _ _, hk, hb.mono hle⟩
    · obtain ⟨i, s, o', h1, h2, h3⟩ := hr.blk c x hc
      exact ⟨i, s, o', hle _ _ h1, h2, h3.mono hle⟩
  · rw [H.get_set] at hc hc'
    split at hc
    · next e =>
      subst e
      split at hc'
      · next e' => exact .inl e'.symm
      · next e' =>
        rw [Mp.put_same] at h1; injection h1 with h1; injection h1 with h1 _
        rw [Mp.put_ne _ _ e'] at h2
        exact (hw _ _ _ h2 h1.symm).elim
    · next e =>
      rw [Mp.put_ne _ _ e] at h1
      split at hc'
      · next e' =>
        subst e'
        rw [Mp.put_same] at h2; injection h2 with h2; injection h2 with h2 _
        exact (hw _ _ _ h1 h2.symm).elim
      · next e' =>
        rw [Mp.put_ne _ _ e'] at h2
        exact hr.inj c c' x x' i s s' hc hc' h1 h2
  · by_cases e : c = a
    · subst e; rw [Mp.put_same] at hc; injection hc with hc; injection hc with hc _; omega
    · rw [Mp.put_ne _ _ e] at hc; exact hr.lt _ _ _ hc
  · rw [Mp.put_ne _ _ (fun e => by
      replace hc : h.next.nat ≤ c.nat := hc
      rw [e] at hc; omega)]
    exact hr.fresh c hc
theorem Go.take (hr : HR tb NN m h w) (hs : w.heap.size ≤ w'.heap.size) (hkp : ∀ k, k < w.heap.size → w'.heap[k]? = w.heap[k]?) (ho : w'.os = w.os) (ht : w'.tape = w.tape) (hu : w'.output = w.output) {B k sz : Nat} {b : AB} (hB : B ≤ h.next.nat) (hk : w.heap.size ≤ k) : Go B m h w (m.put h.next (k, sz)) ((h.res 1).set h.next b) w' where
  le := Mp.le_put _ (hr.fresh _ (Nat.le_refl _))
  keep k' hk' _ := hkp k' hk'
  img q := by
    rintro ⟨c, x, s, h1, h2, h3⟩
    by_cases e : c = h.next
    · subst e; rw [Mp.put_same] at h3; injection h3 with h3; injection h3 with h3 _; exact .inl (by omega)
    · rw [H.get_set, if_neg e] at h1; rw [Mp.put_ne _ _ e] at h3
      exact .inr ⟨c, x, s, h1, h2, h3⟩
  imgA q := by
    rintro ⟨c, x, s, h1, h3⟩
    by_cases e : c = h.next
    · subst e; rw [Mp.put_same] at h3; injection h3 with h3; injection h3 with h3 _; exact .inl (by omega)
    · rw [H.get_set, if_neg e] at h1; rw [Mp.put_ne _ _ e] at h3
      exact .inr ⟨c, x, s, h1, h3⟩
  new c hc hn := by rw [Mp.put_ne _ _ (fun e => by rw [e] at hc; omega)]; exact hn
  next := by show h.next.nat ≤ (h.next.add 1).nat; rw [Pos.nat_add]; omega
  size := hs
  os := ho
  tape := ht
  output := hu
end
theorem natsEq_ok : ∀ {l k : List Nat}, natsEq l k = true → l = k
  | [], [], _ => rfl
  | a :: l, b :: k, h => by
    simp only [natsEq, Bool.and_eq_true] at h
    rw [Nat.eq_of_beq_eq_true h.1, natsEq_ok h.2]
  | [], _ :: _, h => by cases h
  | _ :: _, [], h => by cases h
theorem ordF_mem {l : List Nat} {s : Nat} {ms : List Nat} : ∀ {L : List (List Nat × Nat × List Nat)}, ordF l s L = some ms → (l, s, ms) ∈ L
  | [], h => by cases h
  | x :: L, h => by
    unfold ordF at h
    cases hk : (natsEq x.1 l && Nat.beq x.2.1 s) with
    | false => rw [hk] at h; exact List.mem_cons_of_mem _ (ordF_mem h)
    | true =>
      rw [hk] at h
      injection h with h
      simp only [Bool.and_eq_true] at hk
      rw [← natsEq_ok hk.1, ← Nat.eq_of_beq_eq_true hk.2, ← h]
      exact List.mem_cons_self
theorem ordF_ok {l : List Nat} {s : Nat} {ms : List Nat} (h : ordF l s ordT = some ms) : l.length ≤ 1000 ∧ s ≤ 1000000 ∧ ms.length = 6 ∧ l ≠ [] ∧ ∃ mv : List (Int × Int), Mv.orderR (l.map Int.ofNat) (.ofNat s) = some mv ∧ mv.length = 3 ∧ Mv.mcells mv = ms.map fun x => .int .i64 (.ofNat x) := by
  have h := ordF_mem h
  simp only [ordT, List.mem_cons, List.not_mem_nil, or_false, Prod.mk.injEq] at h
  rcases h with ⟨rfl, rfl, rfl⟩ | ⟨rfl, rfl, rfl⟩ | ⟨rfl, rfl, rfl⟩
  · exact ⟨by decide, by decide, rfl, by decide, [(2, 0), (0, 1), (1, 2)], by decide +kernel, rfl, rfl⟩
  · exact ⟨by decide, by decide, rfl, by decide, [(4, 0), (0, 1), (1, 4)], by decide +kernel, rfl, rfl⟩
  · exact ⟨by decide, by decide, rfl, by decide, [(5, 1), (1, 2), (2, 5)], by decide +kernel, rfl, rfl⟩
theorem rowI_ok {c : T AV} : ∀ (n o : Nat) (l : List Nat), rowI c o n = some l → l.length = n ∧ ∀ (j x : Nat), l[j]? = some x → c.at (o + j) = some (.int .i64 (.ofNat x))
  | 0, o, l, h => by
    injection h with h
    subst h
    exact ⟨rfl, fun j x hx => by simp at hx⟩
  | n + 1, o, l, h => by
    unfold rowI at h
    split at h <;> try (cases h; done)
    next b hb =>
    split at h <;> try (cases h; done)
    next l' hl =>
    injection h with h
    subst h
    obtain ⟨h1, h2⟩ := rowI_ok n (Nat.succ o) l' hl
    refine ⟨by simp [h1], fun j x hx => ?_⟩
    cases j with
    | zero => simp at hx; subst hx; exact hb
    | succ j =>
      have := h2 j x (by simpa using hx)
      rw [show o + (j + 1) = Nat.succ o + j by omega]
      exact this
theorem order_ok {tb : Tb} {NN : Nat → Nat} {xs : List AV} {h : H} {r : CRes} (hr : mOrder xs h = some r) : CalOk Tryz.prog tb NN (.fn 338 [] []) xs h r := by
  unfold mOrder at hr
  split at hr <;> try (cases hr; done)
  next a o n s =>
  split at hr <;> try (cases hr; done)
  next q c hg =>
  cases hk : Nat.ble (Nat.add o n) q with
  | false => rw [hk] at hr; cases hr
  | true =>
  rw [hk, cond_true] at hr
  have hk := Nat.le_of_ble_eq_true hk
  replace hk : o + n ≤ q := hk
  split at hr <;> try (cases hr; done)
  next l hl =>
  split at hr <;> try (cases hr; done)
  next ms hms =>
  injection hr with hr
  subst hr
  obtain ⟨g1, g2, g3, g7, mv, g4, g5, g6⟩ := ordF_ok hms
  obtain ⟨r1, r2⟩ := rowI_ok _ _ _ hl
  refine CalOk.of_calls ⟨_, Tryz.func338, by decide, by decide⟩ fun m w args B hw ha hB => ?_
  obtain ⟨u1, u2, e, v1, v2⟩ := ha.two
  have := v2.int_inv
  subst this
  rw [args_eq e]
  cases v1 with
  | slc0 o' c h1 h2 => exact absurd (List.length_eq_zero_iff.1 r1) g7
  | slc hma hle hsz hmax =>
  rename_i i sz cap
  obtain ⟨i', sz', cs, t, fz, a1, a2, a3, a4, a5, a6, a7⟩ := hw.cells hg
  rw [hma] at a1
  injection a1 with a1
  injection a1 with e1 e2
  subst e1; subst e2
  have hrd : Mv.Rd w (.slice (some ⟨i, o, none⟩) n cap) 1 n ((l.map Int.ofNat).map (.int .i64)) := ⟨_, _, rfl, by simp [r1], fun h => by (cases h), fun ad had j u hu => by
    injection had with had
    subst had
    rw [List.map_map, List.getElem?_map] at hu
    cases hx : l[j]? with
    | none => rw [hx] at hu; cases hu
    | some x =>
      rw [hx] at hu
      injection hu with hu
      subst hu
      have hj : j < l.length := (List.getElem?_eq_some_iff.1 hx).1
      obtain ⟨v0, u0, c1, c2, c3⟩ := a5 (o + j) (by omega)
      rw [r2 j x hx] at c1
      injection c1 with c1
      subst c1
      cases c3
      have ea : (⟨i, o, none⟩ : Addr).add j = ⟨i, o + j, none⟩ := by
        unfold Addr.add
        split
        · next e => subst e; rfl
        · rfl
      rw [ea, Lib.cell_of_heap a2]
      exact c2⟩
  refine (Mv.order_any hrd (by simp [r1]) (by omega) ⟨by show (-9223372036854775808 : Int) ≤ (s : Int); omega, by show (s : Int) ≤ 9223372036854775807; omega⟩).mono fun e w' q => ?_
  rw [g4] at q
  obtain ⟨A, n', c', q1, q2, q3⟩ := q
  have q2 := q2.out
  obtain ⟨q3, q4⟩ := q3.out
  rw [g5] at q2
  subst q2
  obtain ⟨q5, q6⟩ := q3
  rcases q6 with ⟨q7, q8⟩ | ⟨g, cap', cur, q7, q8, q9, q10, q11, q12, q13⟩
  · omega
  · injection q7 with q7 _ q14
    subst q7 q14
    have hms6 : ∀ j, j < 6 → ∃ x, ms[j]? = some x ∧ cur[j]? = some (.int .i64 (.ofNat x)) := fun j hj => by
      obtain ⟨x, hx⟩ : ∃ x, ms[j]? = some x := ⟨ms[j], List.getElem?_eq_getElem _⟩
      refine ⟨x, hx, ?_⟩
      have : (cur.toList.take (3 * 2))[j]? = cur[j]? := by rw [List.getElem?_take, if_pos hj, Array.getElem?_toList]
      rw [← this, q13, g6, List.getElem?_map, hx]
      rfl
    refine ⟨_, m.put h.next (g, cur.size), q1, ?_, ?_, Go.take hw q4.size (fun k hk => q4.block k hk id) q4.os q4.tape q4.output hB q8⟩
    · exact .tup (.cons (.slc (Mp.put_same _ _ _) q10 (by omega) (Nat.le_trans q11 (by decide))) (.cons (.int _ _) .nil))
    · have k1 := (HR.more hw q4.size (fun k hk => q4.block k hk id) q4.os q4.tape q4.output B).1
      refine HR.take (k1.res 1 B).1 (hw.fresh _ (Nat.le_refl _)) (by show h.next.nat < (h.next.add 1).nat; rw [Pos.nat_add]; omega) q9 (fun a' i s hm => by have := hw.lt _ _ _ hm; omega) (.cells rfl (by omega) (fun j hj => ?_) (fun _ => rfl) (fun q hq => ?_))
      · obtain ⟨x, x1, x2⟩ := hms6 j hj
        refine ⟨_, _, ?_, x2, .int _ _⟩
        rw [T.at_layN, if_pos ⟨Nat.zero_le _, by simp [g3]; omega⟩, Nat.sub_zero, List.getElem?_map, x1]
        rfl
      · have := mk_lays _ q hq
        rw [List.length_map, g3] at this
        omega
end Am
end Go.Proofs.YtadbcnekkceoaaaGreatDoor
