/- HeapPlays returns true for every input, and leaves its arguments as they were. No condition. -/
import Derived.Test.YtkmfohocicngaaaRows
import Derived.WalkKit
import Derived.ProofKit
import Derived.OpenShut
import Derived.ShutString
import Derived.ChangeOld
import Derived.Below
import Derived.Test.YtkmfohocicngaaaPlaysO
namespace Go.Proofs.Ytkmfohocicngaaa.heapPlays
open Go.ChangeShapes Go.WideShapes Go.ChangeAt Go.RowKit
open Go.ChangeMaps (open_string shut_string)
set_option linter.unusedVariables false

theorem own : ownKnob Try.prog.godebug = none := by kernel_rfl
theorem laidOut : laidOutB Try.prog = true := by kernel_rfl

theorem list_of {α : Type} {P : Nat → α → Prop} : ∀ n : Nat, (∀ i, i < n → ∃ o, P i o) → ∃ l : List α, l.length = n ∧ ∀ i o, l[i]? = some o → P i o
  | 0, _ => ⟨[], rfl, fun i o h => by simp at h⟩
  | n + 1, h => by
    obtain ⟨l, hl, hP⟩ := list_of n fun i hi => h i (by omega)
    obtain ⟨o, ho⟩ := h n (by omega)
    refine ⟨l ++ [o], by simp [hl], fun i x hx => ?_⟩
    rcases Nat.lt_trichotomy i l.length with hi | hi | hi
    · rw [List.getElem?_append_left hi] at hx
      exact hP i x hx
    · subst hi
      simp at hx
      subst hx
      rw [hl]; exact ho
    · rw [List.getElem?_eq_none (by simp; omega)] at hx
      cases hx

theorem add_of (g o : Nat) (s : Option Nat) (i j : Nat) (hj : j ≠ 0) : ((⟨g, o, s⟩ : Addr).add (i * 5)).add j = ⟨((⟨g, o, s⟩ : Addr).add (i * 5)).block, ((⟨g, o, s⟩ : Addr).add (i * 5)).off + j, none⟩ := by
  generalize (⟨g, o, s⟩ : Addr).add (i * 5) = a
  unfold Addr.add
  rw [if_neg hj]

theorem add_of0 (a : Addr) : a.add 0 = a := by simp [Addr.add]

set_option maxRecDepth 100000 in
theorem lifted (os : Os) (started : os.Started) (H : Type) (enc : TypeId × Value → H) :
    ReturnsInHanded {} Try.checked os 6 .any (Rows.heapPlaysSpec.pre6 enc Try.prog Try.f6 Rows.heapPlaysRow.domain false) (Rows.heapPlaysSpec.post enc Try.prog Try.f6 false true false false) := by
  refine returnsInHanded_of_change (C := Try.checked) own started (by kernel_rfl) Try.func6
    (ChangeSpec.witness6 (enc := enc) (C := Try.checked) false ⟨#[], #[.int .i64 0, .slice none 0 0], []⟩ 8 (by kernel_rfl) (by kernel_rfl) (by kernel_rfl) (by kernel_rfl)) ?_
  intro W base args ds gs before hval0 hW hcnd _
  have hval : ∀ (j : Nat) t v, Try.f6.params[j]? = some t → args[j]? = some v → Value.okWide Try.prog W .any base t v := hval0
  have hW' := hW
  obtain ⟨p, q, hA0, hV, rfl, hfz, hnd⟩ := hW
  have hA : DataW.TrodAll enc Try.prog W 0 (fun _ => true) true Try.f6.params.toList args.toList ds p := hA0
  rw [Try.params6] at hA hval
  obtain ⟨v0, vs0, d0, ds0, p0, q0, hargs, rfl, rfl, h0, r0⟩ := trodAll_cons hA
  obtain ⟨v1, vs1, d1, ds1, p1, q1, rfl, rfl, rfl, h1, r1⟩ := trodAll_cons r0
  obtain ⟨rfl, rfl, rfl⟩ := trodAll_nil r1
  obtain rfl : args = #[v0, v1] := by cases args; simp_all
  obtain ⟨rfl, rfl⟩ := trodVars_none hV
  obtain ⟨a0, rfl, rfl, rfl, w0⟩ := open_int Try.underlying3 (hval 0 3 v0 rfl rfl) h0
  obtain ⟨a1, len1, cap1, rfl⟩ := okWide_slice Try.underlying42 (hval 1 42 v1 rfl rfl)
  have k1 := h1
  have lt1 : ∀ x ∈ p1, x.block < W.heap.size := by obtain ⟨m, hm⟩ := k1; exact DataW.trod_lt m _ _ _ hm
  obtain ⟨ops, hops, hlen⟩ : ∃ ops, OpsRd W a1 len1 ops ∧ len1 ≤ 9223372036854775807 := by
    obtain ⟨fuel, hf⟩ := h1
    rcases open_slice_fields Try.underlying42 Try.underlying47 (by kernel_rfl) (by kernel_rfl) (k := 5) rfl hf with ⟨hcs, _⟩ | ⟨x, l, c, m, hcs, hl, hm, hmm, hi⟩
    · simp [Value.cells] at hcs
      obtain ⟨rfl, rfl, rfl⟩ := hcs
      exact ⟨[], ⟨rfl, fun i o h => by simp at h⟩, by decide⟩
    · simp [Value.cells] at hcs
      obtain ⟨rfl, rfl, rfl⟩ := hcs
      rw [if_pos rfl] at hmm
      subst hmm
      obtain ⟨g, o, s⟩ := x
      obtain ⟨ops, hol, hoP⟩ := list_of (α := OpV) (P := fun i o' => W.cell? ((⟨g, o, s⟩ : Addr).add (i * 5)) = some (.int .i64 o'.1.1) ∧ W.cell? ⟨((⟨g, o, s⟩ : Addr).add (i * 5)).block, ((⟨g, o, s⟩ : Addr).add (i * 5)).off + 1, none⟩ = some (.int .i64 o'.1.2.1) ∧ W.cell? ⟨((⟨g, o, s⟩ : Addr).add (i * 5)).block, ((⟨g, o, s⟩ : Addr).add (i * 5)).off + 2, none⟩ = some (.int .i64 o'.1.2.2.1) ∧
          W.cell? ⟨((⟨g, o, s⟩ : Addr).add (i * 5)).block, ((⟨g, o, s⟩ : Addr).add (i * 5)).off + 3, none⟩ = some (.int .i64 o'.1.2.2.2) ∧ W.cell? ⟨((⟨g, o, s⟩ : Addr).add (i * 5)).block, ((⟨g, o, s⟩ : Addr).add (i * 5)).off + 4, none⟩ = some (.slice o'.2.1 o'.2.2.1 o'.2.2.2.1) ∧
          Rd W (.slice o'.2.1 o'.2.2.1 o'.2.2.2.1) 1 o'.2.2.1 (o'.2.2.2.2.map (.int .i64)) ∧ o'.2.2.1 = o'.2.2.2.2.length ∧ o'.2.2.1 ≤ 9223372036854775807 ∧ (∀ x ∈ o'.2.2.2.2, I64 x) ∧ I64 o'.1.2.2.1) len1 (by
        intro i him
        obtain ⟨n, hn⟩ := hi i (by omega)
        obtain ⟨u0, y0, c0, t0⟩ := hn 0 _ rfl
        obtain ⟨u1, y1, c1, t1⟩ := hn 1 _ rfl
        obtain ⟨u2, y2, c2, t2⟩ := hn 2 _ rfl
        obtain ⟨u3, y3, c3, t3⟩ := hn 3 _ rfl
        obtain ⟨u4, y4, c4, t4⟩ := hn 4 _ rfl
        obtain ⟨n0, e0, _, g0⟩ := DataW.trod_int Try.underlying3 t0
        obtain ⟨n1, e1, _, g1⟩ := DataW.trod_int Try.underlying3 t1
        obtain ⟨n2, e2, _, g2⟩ := DataW.trod_int Try.underlying3 t2
        obtain ⟨n3, e3, _, g3⟩ := DataW.trod_int Try.underlying3 t3
        obtain rfl := List.singleton_inj.1 e0
        obtain rfl := List.singleton_inj.1 e1
        obtain rfl := List.singleton_inj.1 e2
        obtain rfl := List.singleton_inj.1 e3
        rw [add_of0] at c0
        rw [add_of _ _ _ _ _ (by decide)] at c1 c2 c3 c4
        rcases open_ints Try.underlying22 Try.underlying3 (by kernel_rfl) t4 with ⟨hcs, _⟩ | ⟨x, l, c, zs, hcs, _, hl, hm, hz, _, hcell, hwz⟩
        · obtain rfl := List.singleton_inj.1 hcs
          exact ⟨((n0, n1, n2, n3), (none, 0, 0, [])), c0, c1, c2, c3, c4, Rd.nil W, rfl, Nat.zero_le _, fun x h => by simp at h, I64.of_wf g2⟩
        · obtain rfl := List.singleton_inj.1 hcs
          obtain ⟨h0, h1, h2, _⟩ := Rd.of_row (w := W) (a := some x) (len := l) (cap := c) (zs := zs) (.inr ⟨x, rfl, hl, hm, by simpa using hz, hcell, hwz⟩)
          refine ⟨((n0, n1, n2, n3), (some x, l, c, zs.take l)), c0, c1, c2, c3, c4, h0, h1.symm, ?_, h2, I64.of_wf g2⟩
          unfold maxLen at hm
          show l ≤ 9223372036854775807
          omega)
      refine ⟨ops, ⟨hol.symm, fun i o' ho => ⟨g, o, s, rfl, hoP i o' ho⟩⟩, ?_⟩
      unfold maxLen at hm
      omega
  clear hA0 hval0
  refine (plays_walk a0 a1 len1 cap1 ops W hops hlen).mono fun e W' ⟨he, bel⟩ => ?_
  subst he
  exact ⟨_, rfl, _, _, _, [], _, [], hW', trodAll_mk1 (shut_bool Try.underlying4 _), (trodAll_cons_mk (shut_int Try.underlying3 w0) (trodAll_cons_mk (Below.trod laidOut (by kernel_rfl) (of_decide_eq_true (by kernel_rfl)) k1 bel lt1) trodAll_mk0)), rfl, bel.frame _, fun h => by cases h⟩

theorem over : Rows.heapPlaysRow.holds Try.pinned (OpenSpec.ofChange Rows.heapPlaysSpec) :=
  OpenClaim.holds_of_wide 6 Try.f6 rfl rfl rfl rfl rfl rfl rfl ⟨rfl, rfl, rfl, rfl, rfl⟩ rfl rfl rfl rfl rfl (by kernel_rfl) Try.func6 (by kernel_rfl)
    (of_decide_eq_true (by kernel_rfl)) (by unfold Func.isWrapper; first | (rw [if_pos (by decide +kernel)]; kernel_rfl) | (rw [if_neg (by decide +kernel)]; exact ⟨rfl, rfl⟩))
    (fun os started H enc _ => lifted os started H enc)

theorem proved : Rows.HeapPlaysSaid := over
#print axioms proved
end Go.Proofs.Ytkmfohocicngaaa.heapPlays
