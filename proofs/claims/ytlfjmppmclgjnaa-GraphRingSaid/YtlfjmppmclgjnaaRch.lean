/- 'reach', walked. -/
import Derived.Test.YtlfjmppmclgjnaaGr
import Derived.Test.YtlfjmppmclgjnaaGA
import Derived.Scope
import Derived.WalkMore
import Derived.ScopeJumps
import Derived.Outline
namespace Go.Proofs.Ytlfjmppmclgjnaa
open Go.RowKit

/-- What a set of things is as a map. -/
def mapOf (f : Nat → Bool) (k : Int) : Option Value := if (decide (0 ≤ k) && f k.toNat) = true then some (.bool true) else none

theorem mapOf_get {f : Nat → Bool} {x : Int} (h : 0 ≤ x) : (mapOf f x).getD (.bool false) = .bool (f x.toNat) := by
  unfold mapOf
  cases hf : f x.toNat <;> simp [h, hf]

theorem mapOf_put {f : Nat → Bool} {x : Int} (h : 0 ≤ x) : (fun j => if j = x then some (.bool true) else mapOf f j) = mapOf (fun y => f y || y == x.toNat) := by
  funext j
  unfold mapOf
  by_cases hj : j = x
  · subst hj; simp [h]
  · rw [if_neg hj]
    by_cases h0 : 0 ≤ j
    · have : (j.toNat == x.toNat) = false := by simp; omega
      simp [h0, this]
    · simp [h0]

theorem mapOf_none : mapOf (fun _ => false) = fun _ => none := by funext k; simp [mapOf]

theorem own_pop {w : World} {B : Nat} {A : Option Addr} {k c : Nat} {xs : List Value} {y : Value} (h : w.ownsRow B 3 1 (.slice A (k + 1) c) (k + 1) (xs ++ [y])) : w.ownsRow B 3 1 (.slice A k c) k xs := by
  obtain ⟨h1, h2⟩ := h
  have hl : xs.length = k := by simp at h1; omega
  refine ⟨by simpa using hl, ?_⟩
  rcases h2 with ⟨h2, h3⟩ | ⟨g, cap, cur, hv, hb, hg, hnc, hcm, hcs, ht⟩
  · omega
  · injection hv with hv1 hv2 hv3
    subst hv1 hv3
    refine .inr ⟨g, c, cur, rfl, hb, hg, by omega, hcm, hcs, ?_⟩
    have := congrArg (List.take k) ht
    rw [List.take_take, show min k ((k + 1) * 1) = k * 1 by omega] at this
    rw [this, List.take_append_of_le_length (by omega), List.take_of_length_le (by omega)]

/-- New memory that reads as a list. -/
def RowN (w : World) (xs : List Int) (e : Ending) (w' : World) : Prop := ∃ A c n, e = .returned (.slice A n c) ∧ n = xs.length ∧ Hid (w'.ownsRow w.heap.size 3 1 (.slice A n c) n (xs.map (.int .i64)) ∧ Upd (fun _ => False) w w')

set_option maxHeartbeats 1000000 in
theorem clone_any {w : World} {A : Option Addr} {n c : Nat} {xs : List Int} (hx : Rd w (.slice A n c) 1 n (xs.map (.int .i64))) (hn : n = xs.length) (hl : n ≤ 10000000) :
    Calls Try.prog 28 #[.slice A n c] w (RowN w xs) := by
  have hq : ∀ (w : World) (a : Option Addr) (n c n' c' : Nat), (binOp .eql 23 (.slice a n c) (.slice none n' c')).run Try.prog w = .ok (.bool a.isNone) w := fun w a n c n' c' => Lib.run_eql_slice_nil w _ _ a n c n' c' Try.underlying23
  cases A with
  | none =>
    obtain ⟨A1, c1, hv, _, hA0, _⟩ := hx
    injection hv with h1 h2 h3
    obtain ⟨rfl, _⟩ := hA0 h1.symm
    obtain rfl : xs = [] := List.eq_nil_of_length_eq_zero hn.symm
    clear hA0 h1 h2 h3 hl hn
    go_enter Try.func28, Try.ntmps28
    go_wp2
    go_ret
    exact ⟨none, 0, 0, rfl, rfl, World.ownsRow_nil _ _ _ _, Upd.refl _ _⟩
  | some ad =>
    have hm : Hid (Rd (w.alloc (.cells #[] 3)) (.slice (some ad) n c) 1 n (xs.map (.int .i64))) := hx.keep (S := fun _ => False) (Upd.alloc _ _ _) (fun _ _ h => h)
    have HX : Hid (n = xs.length) := hn
    clear hx hn
    go_enter Try.func28, Try.ntmps28
    go_wp2_with (at_builtin; refine wpList_app (v := .slice (some ⟨w.heap.size, 0, none⟩) 0 0) Try.ints rfl (.tmp 5) (.tmp 6) rfl rfl (World.ownsRow_made w #[] 0 (Nat.le_refl _) (by decide) rfl) rfl hm.out (ints_oneC _) n (by omega) (by omega) (by omega) (by simp) ?_; intro A' c' w' hown hu hat hne; have HO := hide hown; have HU := hide hu; clear hown hu hat hne)
    go_ret
    refine ⟨A', c', n, rfl, HX.out, ?_, (Upd.alloc (fun _ => False) w (.cells #[] 3)).extend HU.out fun q hq => .inr ?_⟩
    · have := HO.out
      rwa [List.nil_append] at this
    · simp [Value.ownBlock] at hq; omega

def MapN (w : World) (f : Nat → Bool) (e : Ending) (w' : World) : Prop := ∃ b, e = .returned (.map (some b)) ∧ Hid (w.heap.size ≤ b ∧ MapF w' b (mapOf f) ∧ Upd (fun _ => False) w w')

/-- What holds at the label. -/
def RJ (w : World) (A : Option Addr) (n c : Nat) (A' : Option Addr) (n' c' : Nat) (g : List (List Int)) (S : List Int) (a : Act) (w' : World) : Prop :=
  ∃ (mb k ck : Nat) (Ak : Option Addr) (todo : List Int) (f : Nat → Bool) (v10 u7 u11 u12 u13 u14 u15 u16 u17 u18 u19 u20 u21 u22 u23 u24 u25 u26 u27 u28 u29 u30 u31 u32 u33 u34 u35 u36 u37 : Value), a = { tmps := #[.slice A n c, .slice A' n' c', undef, undef, .map none, .map (some mb), .slice Ak k ck, u7, .map (some mb), .slice A' n' c', v10, u11, u12, u13, u14, u15, u16, u17, u18, u19, u20, u21, u22, u23, u24, u25, u26, u27, u28, u29, u30, u31, u32, u33, u34, u35, u36, u37], defers := [] } ∧
    Hid (k = todo.length) ∧ Hid (w.heap.size ≤ mb ∧ MapF w' mb (mapOf f) ∧ Upd (fun _ => False) w w') ∧ Hid (w'.ownsRow w.heap.size 3 1 (.slice Ak k ck) k (todo.map (.int .i64))) ∧ Hid (Srch g S f todo)

noncomputable def Rmu (g : List (List Int)) (a : Act) (w' : World) : Nat :=
  match a.tmps.getD 5 undef, a.tmps.getD 6 undef with
  | .map (some b), .slice _ k _ => k + @dite Nat (∃ f : Nat → Bool, MapF w' b (mapOf f)) (Classical.propDecidable _) (fun h => unmet g (Classical.choose h) g.length) (fun _ => 0)
  | _, _ => 0

theorem MapF.one {w : World} {b : Nat} {f f' : Int → Option Value} (h : MapF w b f) (h' : MapF w b f') : f = f' := by
  obtain ⟨es, clock, hb, _, _, hf⟩ := h
  obtain ⟨es', clock', hb', _, _, hf'⟩ := h'
  rw [hb] at hb'
  injection hb' with hb'
  injection hb' with h1 h2
  subst h1
  funext k
  rw [hf, hf']

theorem mapOf_inj {f f' : Nat → Bool} (h : mapOf f = mapOf f') : f = f' := by
  funext x
  have := congrFun h (x : Int)
  unfold mapOf at this
  cases h1 : f x <;> cases h2 : f' x <;> simp [h1, h2] at this <;> rfl

theorem Rmu_eq {g : List (List Int)} {a : Act} {w' : World} {b k c : Nat} {A : Option Addr} {f : Nat → Bool} (h5 : a.tmps.getD 5 undef = .map (some b)) (h6 : a.tmps.getD 6 undef = .slice A k c) (hm : MapF w' b (mapOf f)) : Rmu g a w' = k + unmet g f g.length := by
  unfold Rmu
  rw [h5, h6]
  have he : ∃ f : Nat → Bool, MapF w' b (mapOf f) := ⟨f, hm⟩
  simp only [dif_pos he]
  rw [mapOf_inj ((Classical.choose_spec he).one hm)]

theorem wp_scope_jumps2 {P : Program} {a : Act} {w : World} {Q : Exit → Act → World → Prop} {c X : Code} (l : Nat) (J : Act → World → Prop) (μ : Act → World → Nat) (hf : findLabel c l = some (Code.seq .skip X))
    (first : (∀ a w, J a w → X.wp P (Exit.jump l J Q) a w) → c.wp P (Exit.jump l J Q) a w)
    (pass : ∀ a w, J a w → X.wp P (Exit.jump l (fun a' w' => J a' w' ∧ μ a' w' < μ a w) Q) a w) : (Code.scope c).wp P Q a w := by
  refine wp_scope_jumps l J μ hf (first fun a w hJ => Code.wp_mono (fun e a' w' h => ?_) (pass a w hJ)) fun a w hJ => wp_seq_k fun K hK => wp_skip (hK _ _ (pass a w hJ))
  cases e <;> first | exact h | exact ⟨h.1, h.2.1⟩

theorem MapF.ne_own {w : World} {bm : Nat} {f : Int → Option Value} {B e size n : Nat} {v : Value} {xs : List Value} (h : MapF w bm f) (hb : w.ownsRow B e size v n xs) : ∀ k, v.ownBlock = some k → k ≠ bm := by
  rintro k hk rfl
  obtain ⟨es, clock, h1, _⟩ := h
  rcases hb.2 with ⟨rfl, _⟩ | ⟨g, cap, cur, rfl, _, hg, _⟩
  · simp [Value.ownBlock] at hk
  · obtain rfl : g = k := by simpa [Value.ownBlock] using hk
    rw [h1] at hg
    cases hg

theorem Try.zero4 (w : World) : (zeroValue 4).run Try.prog w = .ok (.bool false) w := by kernel_rfl

set_option maxHeartbeats 2000000 in
theorem reach_any {w : World} {A : Option Addr} {n c : Nat} {g : List (List Int)} (hg : GRd w A n g) (hok : GOk g) {A' : Option Addr} {n' c' : Nat} {S : List Int} (hx : Rd w (.slice A' n' c') 1 n' (S.map (.int .i64))) (hn' : n' = S.length) (hl : n ≤ 1000) (hl' : n' + edges g ≤ 10000000) (hS : ∀ x ∈ S, 0 ≤ x ∧ x < g.length) :
    Calls Try.prog 19 #[.slice A n c, .slice A' n' c'] w (MapN w (ledB g S)) := by
  have hmm := @run_makeMap Try.prog
  have hmade := MapF.made w
  have hu0 := Upd.alloc (fun _ => False) w (.map #[] 0)
  have HCL := hide (clone_any (hx.keep hu0 (fun _ _ h => h)) hn' (by omega))
  have HM := hide hmade
  have HU0 := hide hu0
  have HG := hide hg
  have HOK := hide hok
  have HS := hide (Srch.start g S hS)
  have hle : S.length + edges g ≤ 10000000 := by omega
  clear hmade hu0 hg hok hx hn' hS hl'
  go_enter Try.func19, Try.ntmps19
  go_wp2_with fail
  refine wp_scope_jumps2 0 (RJ w A n c A' n' c' g S) (Rmu g) rfl ?_ ?_
  · intro pass
    have HPS := hide pass
    clear pass
    go_wp2_with (go_at_call 28; refine HCL.out.mono ?_; rintro e w2 ⟨A2, c2, n2, rfl, hn2, HR2⟩; have HN2 := hide hn2; clear hn2)
    have hJ : RJ w A n c A' n' c' g S { tmps := #[.slice A n c, .slice A' n' c', undef, undef, .map none, .map (some w.heap.size), .slice A2 n2 c2, undef, .map (some w.heap.size), .slice A' n' c', .slice A2 n2 c2, undef, undef, undef, undef, undef, undef, undef, undef, undef, undef, undef, undef, undef, undef, undef, undef, undef, undef, undef, undef, undef, undef, undef, undef, undef, undef, undef], defers := [] } w2 := by
      refine ⟨w.heap.size, n2, c2, A2, S, fun _ => false, _, _, _, _, _, _, _, _, _, _, _, _, _, _, _, _, _, _, _, _, _, _, _, _, _, _, _, _, _, rfl, HN2.out, ⟨Nat.le_refl _, ?_, ?_⟩, ?_, HS.out⟩
      · rw [mapOf_none]
        exact HM.out.keep HR2.out.2 (fun h => h)
      · exact HU0.out.trans HR2.out.2
      · exact own_base HR2.out.1 (by simp)
    have HJ := hide hJ
    clear hJ
    go_step3
    go_step
    go_step
    exact HPS.out _ _ HJ.out
  · rintro a w1 ⟨mb, k, ck, Ak, todo, f, v10, u7, u11, u12, u13, u14, u15, u16, u17, u18, u19, u20, u21, u22, u23, u24, u25, u26, u27, u28, u29, u30, u31, u32, u33, u34, u35, u36, u37, rfl, HK, HM1, HO, HSR⟩
    have hmu := Rmu_eq (g := g) (a := { tmps := #[.slice A n c, .slice A' n' c', undef, undef, .map none, .map (some mb), .slice Ak k ck, u7, .map (some mb), .slice A' n' c', v10, u11, u12, u13, u14, u15, u16, u17, u18, u19, u20, u21, u22, u23, u24, u25, u26, u27, u28, u29, u30, u31, u32, u33, u34, u35, u36, u37], defers := [] }) rfl rfl HM1.out.2.1
    rw [hmu]
    clear hmu
    by_cases hk0 : k = 0
    · subst hk0
      have htd : todo = [] := List.eq_nil_of_length_eq_zero HK.out.symm
      subst htd
      have HRES : Hid (w.heap.size ≤ mb ∧ MapF w1 mb (mapOf (ledB g S)) ∧ Upd (fun _ => False) w w1) := by
        have := HM1.out
        rw [HSR.out.all] at this
        exact this
      clear HM1 HO HSR HK
      go_wp2_with fail
      simp only [Exit.jump]
      go_ret
      exact ⟨mb, rfl, HRES.out⟩
    · obtain ⟨k', rfl⟩ : ∃ k', k = k' + 1 := ⟨k - 1, by omega⟩
      obtain ⟨td, x, rfl⟩ : ∃ td x, todo = td ++ [x] := by
        rcases List.eq_nil_or_concat todo with h | ⟨td, x, h⟩
        · have := HK.out; rw [h] at this; simp at this
        · exact ⟨td, x, by simpa using h⟩
      obtain ⟨hx0, hxl⟩ := HSR.out.rng x (by simp)
      obtain ⟨i, rfl⟩ := Int.eq_ofNat_of_zero_le hx0
      have hil : i < g.length := by omega
      have hkl : k' = td.length := by have := HK.out; simp at this; omega
      obtain ⟨A1, c1, hv1, _, _, _, _, hA⟩ := own_form HO.out
      obtain ⟨ga, hga⟩ := own_some HO.out (by omega)
      obtain ⟨hAg, hglo, hglt, _, hcc⟩ := hA ga hga
      injection hv1 with hv1 _ hv3
      rw [← hv1] at hAg
      subst hAg hv3
      have hcx := hcc k' (.int .i64 i) (by rw [List.getElem?_map, hkl]; simp)
      have hod : w1.ownsRow w.heap.size 3 1 (.slice (some ⟨ga, 0, none⟩) k' ck) k' (td.map (.int .i64)) := own_pop (y := .int .i64 i) (by have := HO.out; simpa using this)
      have HOD := hide hod
      have hgl : n = g.length := HG.out.1
      have hin : i < n := by omega
      have hsm := HSR.out.small
      have hkb : k' + 1 ≤ 10000000 := by simp at hsm; omega
      have HKL := hide hkl
      have HGL := hide hgl
      have HMF := hide HM1.out.2.1
      have HGET := hide (mapOf_get (f := f) (x := (i : Int)) (by omega))
      rw [Int.toNat_natCast] at HGET
      have HSX := hide HSR.out
      clear hv1 hA hga hcc hod hkl hgl hsm hx0 hxl HO HK HSR hk0
      cases hfi : f i
      · rw [hfi] at HGET
        have hadj := List.getElem?_eq_getElem hil
        obtain ⟨ys, hys⟩ : ∃ ys, g[i]? = some ys := ⟨_, hadj⟩
        have hay := adj_get hys
        have HS2 : Hid (Srch g S (fun y => f y || y == i) (td ++ ys)) := by
          have := HSX.out.new HOK.out hfi
          rw [Int.toNat_natCast, hay] at this
          exact this
        have hmu : unmet g (fun y => f y || y == i) g.length + ys.length = unmet g f g.length := by rw [← hay]; exact unmet_met g f i hfi g.length hil
        obtain ⟨gb, go, gs, a, m, kk, rfl, hgc, hrd, hm, hml, _⟩ := (HG.out.keep HM1.out.2.2).2 i ys hys
        have hm2 : k' + m ≤ 10000000 := by have := HS2.out.small; simp at this; rw [← HKL.out, ← hm] at this; omega
        have HRD := hide hrd
        have HMU := hide hmu
        have HMM := hide hm
        have HGA := hide hglo
        have HMP := hide (mapOf_put (f := f) (x := (i : Int)) (by omega))
        rw [Int.toNat_natCast] at HMP
        have hbg : gb < w1.heap.size := by
          have := World.block_lt_of_cell? w1 _ hgc
          unfold Addr.add at this; split at this <;> exact this
        have HMBA : Hid (∀ j, (Value.slice (some ⟨ga, 0, none⟩) k' ck).ownBlock = some j → j ≠ mb) := HMF.out.ne_own HOD.out
        have hgm : ∀ w3, Upd (fun q => q = mb) w1 w3 → w3.cell? ((⟨gb, go, gs⟩ : Addr).add i) = some (.slice a m kk) ∧ Rd w3 (.slice a m kk) 1 m (ys.map (.int .i64)) := by
          intro w3 hu
          have hu2 : Upd (fun _ => False) w w3 := HM1.out.2.2.extend hu fun q hq => .inr (by subst hq; exact HM1.out.1)
          obtain ⟨gb', go', gs', a', m', kk', hA', hgc', hrd', hm', _⟩ := (HG.out.keep hu2).2 i ys hys
          injection hA' with hA'
          have hc0 : w1.cell? ((⟨gb, go, gs⟩ : Addr).add i) = w3.cell? ((⟨gb, go, gs⟩ : Addr).add i) := by
            obtain ⟨_, _, _, _, _, _, hA0, hg0, _⟩ := HG.out.2 i ys hys
            injection hA0 with hA0
            rw [← hA0] at hg0
            rw [cell_upd HM1.out.2.2 hg0, cell_upd hu2 hg0]
          rw [← hA', ← hc0, hgc] at hgc'
          injection hgc' with hgc'
          injection hgc' with e1 e2 e3
          subst e1 e2 e3
          exact ⟨by rw [← hc0]; exact hgc, hrd'⟩
        have HGM := hide hgm
        clear hadj hys hay hmu hrd hm hml hgm hfi HSX hbg hgc
        go_wp2_with (first | (at_lookup; refine wpList_look rfl (.tmp 26) (.tmp 27) false rfl Try.underlying37 Try.underlying3 (Try.zero4 _) rfl HMF.out rfl ?_; simp only [Bool.false_eq_true, if_false]; rw [HGET.out]) | (at_mapUpdate; go_must ((refine wpList_put rfl (.tmp 30) (.tmp 31) (.const (.bool true)) rfl Try.underlying37 Try.underlying3 rfl HMF.out rfl rfl ?_; intro w3 hmf3 hu3; have HF3 := hide (HMP.out ▸ hmf3); have HU3 := hide hu3; obtain ⟨hgc, hrd3⟩ := HGM.out w3 hu3; have HRD3 := hide hrd3; clear hmf3 hu3 hrd3))) | (at_builtin; refine wpList_app (v := .slice (some ⟨ga, 0, none⟩) k' ck) Try.ints rfl (.tmp 32) (.tmp 36) rfl rfl (HU3.out.own HOD.out HMBA.out) rfl HRD3.out (ints_oneC _) (k' + m) rfl (by omega) (by omega) (by have := HM1.out.2.2.size; have := HU3.out.size; omega) ?_; intro A4 c4 w4 own4 u4 at4 ne4; have HO4 := hide own4; have HU4 := hide u4; clear own4 u4 at4 ne4))
        go_step3
        have hu4 : Upd (fun _ => False) w w4 := (HM1.out.2.2.extend HU3.out fun q hq => .inr (by have := HM1.out.1; omega)).extend HU4.out fun q hq => .inr (by
          have h := own_form HOD.out
          simp only [Value.ownBlock, Option.some.injEq] at hq
          have := HGA.out
          omega)
        have hf4 : MapF w4 mb (mapOf fun y => f y || y == i) := HF3.out.keep HU4.out (fun h => HMBA.out mb h rfl)
        refine ⟨rfl, ⟨mb, k' + m, c4, A4, td ++ ys, fun y => f y || y == i, _, _, _, _, _, _, _, _, _, _, _, _, _, _, _, _, _, _, _, _, _, _, _, _, _, _, _, _, _, rfl, ?_, ⟨HM1.out.1, hf4, hu4⟩, ?_, HS2.out⟩, ?_⟩
        · have h1 := HKL.out; have h2 := HMM.out; show k' + m = (td ++ ys).length; rw [List.length_append]; omega
        · have := HO4.out
          rwa [← List.map_append] at this
        · rw [Rmu_eq (g := g) rfl rfl hf4]
          have := HMU.out
          have := HMM.out
          omega
      · rw [hfi] at HGET
        have HS2 : Hid (Srch g S f td) := HSX.out.old hfi
        have HM2 := hide HM1.out
        clear hfi HSX
        go_wp2_with (at_lookup; refine wpList_look rfl (.tmp 26) (.tmp 27) false rfl Try.underlying37 Try.underlying3 (Try.zero4 _) rfl HMF.out rfl ?_; simp only [Bool.false_eq_true, if_false]; rw [HGET.out])
        go_step3
        refine ⟨rfl, ⟨mb, k', ck, some ⟨ga, 0, none⟩, td, f, _, _, _, _, _, _, _, _, _, _, _, _, _, _, _, _, _, _, _, _, _, _, _, _, _, _, _, _, _, rfl, HKL.out, HM2.out, HOD.out, HS2.out⟩, ?_⟩
        rw [Rmu_eq (g := g) rfl rfl HM2.out.2.1]
        omega
end Go.Proofs.Ytlfjmppmclgjnaa
