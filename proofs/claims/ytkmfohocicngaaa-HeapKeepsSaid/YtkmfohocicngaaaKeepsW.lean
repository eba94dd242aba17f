/- HeapKeeps, walked. -/
import Derived.Test.YtkmfohocicngaaaKeepsL
namespace Go.Proofs.Ytkmfohocicngaaa
open Go.RowKit

set_option maxRecDepth 100000 in
set_option maxHeartbeats 4000000 in
theorem keeps_walk (A : Option Addr) (n c : Nat) (xs : List Int) (A' : Option Addr) (n' c' : Nat) (ys : List Int) (A'' : Option Addr) (n'' c'' : Nat) (zs : List Int) (w : World) (hx : Rd w (.slice A n c) 1 n (xs.map (.int .i64))) (hn : n = xs.length) (hy : Rd w (.slice A' n' c') 1 n' (ys.map (.int .i64))) (hn' : n' = ys.length) (hl : n ≤ 9223372036854775807) (hl' : n' ≤ 9223372036854775807)
    (hz : Rd w (.slice A'' n'' c'') 1 n'' (zs.map (.int .i64))) (hn'' : n'' = zs.length) (hi : ∀ x ∈ zs, I64 x) :
    Calls Try.prog 7 #[.slice A n c, .slice A' n' c', .slice A'' n'' c''] w fun e w' => e = .returned (.bool true) ∧ Below w.heap.size w w' := by
  have HBU : Hid (∀ w1, Below w.heap.size w w1 → Calls Try.prog 15 #[.slice A n c, .slice A' n' c'] w1 (BuiltPost w1)) := fun w1 hb => built_call hb hx hn hy hn' hl hl'
  have HZ := hide hz
  have HNZ := hide hn''
  have HI := hide hi
  clear hx hn hy hn' hl hl' hz hn'' hi
  go_enter Try.func7, Try.ntmps7
  go_wp2_with (go_at_call 9; refine (awake_any _).mono ?_; rintro e w1 ⟨rfl, hb1⟩; have HB1 := hide hb1; clear hb1)
  refine (HBU.out _ HB1.out).mono ?_
  rintro e w2 ⟨b, L, A1, k, c1, ps, rfl, hk30, HS⟩
  clear HBU
  have HPS := hide (show k = ps.length from HS.out.2.2.1.symm)
  have HPI : Hid (∀ p ∈ ps, I64 p) := fun p hp => by obtain ⟨o, ho, _⟩ := HS.out.2.2.2.2 p hp; exact HS.out.1.i64 ho
  have HPR : Hid (∀ p ∈ ps, ∃ o, objL L p = some o) := fun p hp => by obtain ⟨o, ho, _⟩ := HS.out.2.2.2.2 p hp; exact ⟨o, ho⟩
  have HK := hide (KS.of_bst HS.out)
  have HZ2 := hide ((HZ.out.below HB1.out).below HS.out.1.below)
  clear HS HZ
  by_cases hbig : 40 < n''
  · go_wp2_with fail
    go_ret
    exact ⟨rb rfl, HK.out.end HB1.out⟩
  · go_wp2_with fail
    refine (HK.out.values (List.mem_singleton.2 rfl) HPS.out (by omega) HZ2.out HNZ.out (by omega) HI.out).mono ?_
    rintro e w3 ⟨A3, c3, rfl, HK3⟩
    obtain ⟨vs, hvs⟩ : ∃ vs, valuesL zs ps = vs := ⟨_, rfl⟩
    rw [hvs] at HK3
    have HVI : Hid (∀ v ∈ vs, I64 v) := by
      intro v hv
      rw [← hvs] at hv
      obtain ⟨z, hz, rfl⟩ := List.mem_map.1 hv
      exact valW_i64 (HI.out z (List.mem_of_mem_take hz)) HPI.out
    have HVN : Hid (n'' = vs.length) := by
      show n'' = vs.length
      rw [← hvs]; have := HNZ.out; simp [valuesL]; omega
    clear hvs HK HZ2 HNZ HI
    go_wp2_with fail
    go_loopw [11] (fun iv wr => ∃ k0 : Nat, k0 ≤ n'' ∧ iv = .int .i64 k0 ∧ w3 = wr ∧ Hid (∀ j v, j < k0 → vs[j]? = some v → isP v = true → ∃ o, objL L v = some o)) (fun iv _ => n'' - (intOf iv).toNat)
    case atStart => exact ⟨0, Nat.zero_le _, rfl, rfl, fun j v h => absurd h (Nat.not_lt_zero _)⟩
    case round =>
      obtain ⟨k0, hk0, rfl, rfl, HQ⟩ := hrel
      by_cases hlt : k0 < n''
      · obtain ⟨gb, go, gs, x, rfl, hxe, hxc⟩ := (HK3.out.rd (A := A3) (n := n'') (c := c3) (xs := vs) mem0).get HVN.out hlt
        have HXE := hide hxe
        have HPT := hide (pointer_law x)
        have HXI : Hid (I64 x) := by rw [hxe]; exact HVI.out _ (List.getElem_mem _)
        have HQN : Hid ((isP x = true → ∃ o, objL L x = some o) → ∀ j v, j < k0 + 1 → vs[j]? = some v → isP v = true → ∃ o, objL L v = some o) := by
          intro hh j v hj hv hp
          rcases Nat.lt_or_ge j k0 with h | h
          · exact HQ.out j v h hv hp
          · obtain rfl : j = k0 := by omega
            have hn := HVN.out
            rw [List.getElem?_eq_getElem (by omega)] at hv
            rw [hxe] at hh
            rw [← Option.some.inj hv] at hp ⊢
            exact hh hp
        clear hxe
        cases hp : isP x
        · rw [hp] at HPT
          have HQ2 := hide (HQN.out (by simp [hp]))
          clear hp
          go_wp2_with (go_at_call 28; refine (HPT.out _).mono ?_; rintro e w4 ⟨rfl, rfl⟩)
          go_roundw
          case rel => exact ⟨k0 + 1, by omega, by go_num, by trivial, HQ2.out⟩
          case measure => simp [intOf]; omega
        · rw [hp] at HPT
          have HKI := hide (HK3.out.kind HXI.out)
          cases ho : objL L x with
          | none =>
            rw [show kindL L x = (0, 1) by simp [kindL, ho]] at HKI
            clear hp ho
            go_wp2_with (first | (go_at_call 28; refine (HPT.out _).mono ?_; rintro e w4 ⟨rfl, rfl⟩) | (go_at_call 24; refine HKI.out.mono ?_; rintro e w4 ⟨rfl, rfl⟩))
            go_ret
            exact ⟨rb rfl, HK3.out.end HB1.out⟩
          | some o =>
            rw [show kindL L x = (o.1, 0) by simp [kindL, ho]] at HKI
            have HQ2 := hide (HQN.out (fun _ => ⟨o, ho⟩))
            generalize o.1 = kd at HKI
            clear hp ho
            go_wp2_with (first | (go_at_call 28; refine (HPT.out _).mono ?_; rintro e w4 ⟨rfl, rfl⟩) | (go_at_call 24; refine HKI.out.mono ?_; rintro e w4 ⟨rfl, rfl⟩))
            go_roundw
            case rel => exact ⟨k0 + 1, by omega, by go_num, by trivial, HQ2.out⟩
            case measure => simp [intOf]; omega
      · have HVO : Hid (∀ v ∈ vs, isP v = true → ∃ o, objL L v = some o) := by
          intro v hv hp
          obtain ⟨j, hj, rfl⟩ := List.getElem_of_mem hv
          exact HQ.out j _ (by have := HVN.out; omega) (List.getElem?_eq_getElem hj) hp
        obtain ⟨L', os, h1, h2, h3, h4, h5, h6, h7⟩ := keeps_plain HK3.out.wf.1 HK3.out.wf.2 HVI.out HVO.out
        obtain ⟨X, hX⟩ : ∃ X, shapeL L vs = X := ⟨_, rfl⟩
        rw [hX] at h3
        have HX := hide hX
        have HC1 := hide h1
        have HC2 := hide h2
        have HX2 := hide h3
        have HON := hide (HVN.out.trans h4.symm)
        have HOI := hide h5
        have HOO := hide h6
        obtain ⟨u, hu⟩ : ∃ u : Int, (total L : Int) = u := ⟨_, rfl⟩
        obtain ⟨u', hu'⟩ : ∃ u : Int, (total L' : Int) = u := ⟨_, rfl⟩
        have hgt0 : ¬ u < u' := by omega
        have hgt : Hid (¬ u < u') := hide hgt0
        clear hgt0
        have HU := hide hu
        have HU' := hide hu'
        clear h1 h2 h3 h4 h5 h6 h7 hX hu hu' HQ hk30 HPS HPI HPR
        go_wp2_with fail
        refine (HK3.out.shape (A := A3) (c := c3) (vs := vs) mem0 HVN.out (by omega) HVO.out HX.out).mono ?_
        rintro e w4 ⟨A4, n4, c4, rfl, hn4, hl4, HK4⟩
        have HN4 := hide hn4
        have HUS := hide HK4.out.used
        rw [HU.out] at HUS
        clear hn4 HK3
        go_wp2_with (go_at_call 12; refine HUS.out.mono ?_; rintro e w5 ⟨rfl, rfl⟩)
        refine (HK4.out.collect (A := A3) (c := c3) (vs := vs) mem1 HVN.out (by omega) HVI.out HC1.out HON.out).mono ?_
        rintro e w5 ⟨A5, c5, rfl, HK5⟩
        clear HK4 HUS
        go_wp2_with fail
        refine (HK5.out.shape (A := A5) (c := c5) (vs := os) mem0 HON.out (by omega) HOO.out HX2.out).mono ?_
        rintro e w6 ⟨A6, n6, c6, rfl, hn6, hl6, HK6⟩
        have HN6 := hide hn6
        clear hn6 HK5
        go_wp2_with fail
        refine (HK6.out.ints (A := A6) (n := n6) (c := c6) (A' := A4) (n' := n4) (c' := c4) (xs := X) mem0 mem2 HN6.out HN4.out hl6).mono ?_
        rintro e w7 ⟨rfl, q7, rfl⟩
        have HK7 := hide (HK6.out.keep (Upd.drewN _ w6 q7))
        have HUS := hide HK7.out.used
        rw [HU'.out] at HUS
        clear HK6
        generalize w6.drewN q7 = w7 at HK7 HUS ⊢
        go_wp2_with fail
        refine HUS.out.mono ?_
        rintro e w5 ⟨rfl, rfl⟩
        have hgg : decide (u < u') = false := decide_eq_false (by have := hgt.out; omega)
        go_wp2_with fail
        refine HUS.out.mono ?_
        rintro e w5 ⟨rfl, rfl⟩
        go_wp2_with fail
        refine (HK7.out.collect (A := A5) (c := c5) (vs := os) mem1 HON.out (by omega) HOI.out HC2.out HON.out).mono ?_
        rintro e w8 ⟨A8, c8, rfl, HK8⟩
        clear HK7 HUS
        go_wp2_with fail
        refine (HK8.out.ints (A := A8) (n := n'') (c := c8) (A' := A5) (n' := n'') (c' := c5) (xs := os) mem0 mem2 HON.out HON.out (by omega)).mono ?_
        rintro e w9 ⟨rfl, q9, rfl⟩
        have HK9 := hide (HK8.out.keep (Upd.drewN _ w8 q9))
        have HUS := hide HK9.out.used
        rw [HU'.out] at HUS
        clear HK8
        generalize w8.drewN q9 = w9 at HK9 HUS ⊢
        go_wp2_with (go_at_call 12; refine HUS.out.mono ?_; rintro e w5 ⟨rfl, rfl⟩)
        refine (HK9.out.shape (A := A8) (c := c8) (vs := os) mem0 HON.out (by omega) HOO.out HX2.out).mono ?_
        rintro e w10 ⟨A10, n10, c10, rfl, hn10, hl10, HK10⟩
        have HN10 := hide hn10
        clear hn10 HK9 HUS
        go_wp2_with fail
        refine (HK10.out.ints (A := A10) (n := n10) (c := c10) (A' := A4) (n' := n4) (c' := c4) (xs := X) mem0 mem4 HN10.out HN4.out hl10).mono ?_
        rintro e w11 ⟨rfl, q11, rfl⟩
        go_wp2_with fail
        go_ret
        exact ⟨rb rfl, (HK10.out.keep (Upd.drewN _ w10 q11)).end HB1.out⟩

end Go.Proofs.Ytkmfohocicngaaa
