/- The reference's Collect, walked. -/
import Derived.Test.YtkmfohocicngaaaRefC
namespace Go.Proofs.Ytkmfohocicngaaa
open Go.RowKit

section
variable {w : World} {B rb : Nat} {lim : Int} {L : List Ob} {FH : Nat → Prop}

set_option maxRecDepth 100000 in
set_option maxHeartbeats 4000000 in
theorem rcollect_any (h : RH w B rb lim L FH) (hFH : ∀ k, FH k → k < w.heap.size) (A : Option Addr) (n c : Nat) (xs : List Int) (hx : Rd w (.slice A n c) 1 n (xs.map (.int .i64))) (hn : n = xs.length) (hl : n ≤ 17592186043904) :
    Calls Try.prog 23 #[.pointer (some ⟨rb, 0, none⟩), .slice A n c] w (RCollPost w B rb lim FH L (collRes L xs)) := by
  have HRT : Hid (∀ x, Calls Try.prog 42 #[.pointer (some ⟨rb, 0, none⟩), .int .i64 x] w fun e w' => e = .returned (.bool (rightL L x)) ∧ w = w') := by
    obtain ⟨v, G, h1, _⟩ := h
    exact rright_any h1
  have HL : Hid (WfL L) := by obtain ⟨v, G, h1, _⟩ := h; exact h1.wf
  have HT : Hid (total L ≤ 4194304) := by obtain ⟨v, G, h1, _⟩ := h; have := h1.tot; have := h1.l1; show total L ≤ 4194304; omega
  obtain ⟨A1, c1, hr1, hll⟩ : ∃ A1 c1, w.cell? ⟨rb, 1, none⟩ = some (.slice A1 L.length c1) ∧ L.length ≤ 4194304 := by
    obtain ⟨v, G, h1, _⟩ := h
    obtain ⟨A1, c1, _, h2, _, h3⟩ := h1.slice
    exact ⟨A1, c1, h2, h3⟩
  have HNO : Hid (∀ j, j < n → (∀ h : j < xs.length, rightL L (xs[j]'h) = false) → collRes L xs = none) := by
    intro j hj hf
    unfold collRes
    rw [if_pos (List.any_eq_true.2 ⟨xs[j]'(by omega), List.getElem_mem _, by simp [hf (by omega)]⟩)]
  have HH := hide h
  have HX := hide hx
  have HN := hide hn
  have HFH := hide hFH
  clear h hx hn hFH
  obtain ⟨ml, hml⟩ : ∃ ml, L.length = ml := ⟨_, rfl⟩
  rw [hml] at hr1 hll
  have HML := hide hml
  clear hml
  have hmk := make_ints2 w ml hll
  have hcs : (madeCells (Value.int .i64 0).cells (ml * 1)).toList = (List.replicate ml (0 : Int)).map (.int .i64) := made_ints ml
  generalize madeCells (Value.int .i64 0).cells (ml * 1) = cs at hmk hcs
  have HCS := hide hcs
  clear hcs
  go_enter Try.func23, Try.ntmps23
  go_wp2_with fail
  go_loop [6] (fun i => ∃ k : Nat, k ≤ n ∧ i = .int .i64 k ∧ Hid (∀ j, j < k → ∀ h : j < xs.length, rightL L (xs[j]'h) = true)) (fun i => n - (intOf i).toNat)
  case atStart => exact ⟨0, Nat.zero_le _, rfl, fun j hj => absurd hj (Nat.not_lt_zero _)⟩
  case round =>
    obtain ⟨k, hk, rfl, HQ⟩ := hrel
    by_cases hlt : k < n
    · obtain ⟨gb, go, gs, x, rfl, hxe, hxc⟩ := HX.out.get HN.out hlt
      have HXE := hide hxe
      have HR1 := hide (HRT.out x)
      clear hxe
      cases hr : rightL L x
      · rw [hr] at HR1
        have HE := hide (HNO.out k hlt fun h => by rw [← HXE.out]; exact hr)
        clear hr HNO HQ hmk
        go_wp2_with (go_at_call 42; refine HR1.out.mono ?_; rintro e w4 ⟨rfl, rfl⟩)
        go_ret2
        rw [HE.out]
        exact ⟨rfl, rfl⟩
      · rw [hr] at HR1
        have HQ2 : Hid (∀ j, j < k + 1 → ∀ h : j < xs.length, rightL L (xs[j]'h) = true) := by
          intro j hj h
          rcases Nat.lt_or_ge j k with h1 | h1
          · exact HQ.out j h1 h
          · obtain rfl : j = k := by omega
            rw [← HXE.out]; exact hr
        clear hr hmk
        go_wp2_with (go_at_call 42; refine HR1.out.mono ?_; rintro e w4 ⟨rfl, rfl⟩)
        go_round
        case rel => exact ⟨k + 1, by omega, by go_num, HQ2.out⟩
        case measure => simp [intOf]; omega
    · obtain rfl : k = n := by omega
      have HRX : Hid (∀ x ∈ xs, rightL L x = true) := by
        intro x hm
        obtain ⟨j, hj, rfl⟩ := List.getElem_of_mem hm
        exact HQ.out j (by have := HN.out; omega) hj
      have HRES : Hid (collRes L xs = some (collectR L xs)) := collRes_right HRX.out
      have HS := hide (RCR.start HH.out HFH.out (cs := cs) (by rw [HML.out]; exact HCS.out) HML.out.symm (by rw [HML.out]; exact hll))
      clear HNO HQ HRT HCS hlt
      go_wp2_with fail
      clear hmk hr1
      generalize (w.alloc (.cells cs 3)).alloc (.cells #[.slice (some ⟨w.heap.size, 0, none⟩) ml ml, .slice none 0 0, .int .i64 0] 76) = W0 at HS ⊢
      generalize w.heap.size + 1 = mb at HS ⊢
      obtain ⟨n, hkn⟩ : ∃ n, n = k := ⟨_, rfl⟩
      rw [← hkn] at HX HN hl hk ⊢
      clear hkn
      go_loopw [8, 9] (fun v i wr => ∃ k : Nat, k ≤ n ∧ i = .int .i64 k ∧ ∃ A' c', v = .slice A' k c' ∧ Hid ((mvs L [] (xs.take k)).2.length = k) ∧ Hid (RCR w wr B rb mb lim L (mvs L [] (xs.take k)).1 FH v (mvs L [] (xs.take k)).2)) (fun _ i _ => n - (intOf i).toNat)
      case atStart => exact ⟨0, Nat.zero_le _, rfl, none, 0, rfl, rfl, HS.out⟩
      case round =>
        clear HS
        obtain ⟨k, hk, rfl, A', c', rfl, hlen, HC⟩ := hrel
        by_cases hlt : k < n
        · have hkx : k < xs.length := by have := HN.out; omega
          obtain ⟨gb, go, gs, x, rfl, hxk, hcx⟩ := (HX.out.keep (by obtain ⟨FT, _, hu, _⟩ := HC.out; exact hu) (fun _ _ h => h)).get HN.out hlt
          have hxm : x ∈ xs := by rw [hxk]; exact List.getElem_mem hkx
          have hxr := HRX.out x hxm
          have hsc := (mvs_sc (xs.take k) [] (Sc.nil L)).mv x (.inr ⟨rfl, Nat.zero_le _⟩)
          have htot : total (obs (mv L (mvs L [] (xs.take k)).1 x).1) ≤ 4194304 := by have := hsc.total; have := HT.out; omega
          have hcall := hide (HC.out.call HFH.out x hxr htot)
          have hsn : Hid (mvs L [] (xs.take (k + 1)) = ((mv L (mvs L [] (xs.take k)).1 x).1, (mvs L [] (xs.take k)).2 ++ [(mv L (mvs L [] (xs.take k)).1 x).2])) := by
            show _ = _
            rw [← mvs_snoc, List.take_succ_eq_append_getElem hkx, hxk]
          have hkw : Hid (k + 1 ≤ 140737488355327) := by show _ ≤ _; omega
          generalize (mv L (mvs L [] (xs.take k)).1 x).2 = p at hcall hsn
          clear hsc htot hxr hxm hxk
          go_wp2_with (first | (go_at_call 44; refine hcall.out.mono ?_; rintro e w1 ⟨rfl, hC1⟩; have HC1 := hide hC1; clear hC1) | (at_builtin; (refine wpList_app (v := .slice A' k c') (u := .slice (some ⟨w1.heap.size, 0, none⟩) 1 1) Try.ints rfl (.tmp 40) (.tmp 48) rfl rfl ((Upd.alloc (fun _ => False) _ _).own (by obtain ⟨FT, _, _, h3, _⟩ := HC1.out; rw [hlen.out] at h3; exact h3) (fun _ _ h => h)) rfl (Rd.new1 _ (.int .i64 p) 3 rfl) (by simp [Value.oneCell']) (k + 1) rfl (by omega) (by omega) (by obtain ⟨FT, _, h2, _⟩ := HC1.out; have := h2.size; simp; omega) ?_); intro A2 c2 w2 own2 u2 at2 ne2; clear ne2; have HO := hide own2; have HU := hide u2; have HA := hide at2; clear own2 u2 at2))
          go_roundw
          case rel =>
            refine ⟨k + 1, by omega, by go_num, A2, c2, rfl, ?_, ?_⟩
            · show _ = _
              rw [hsn.out]; simp [hlen.out]
            · rw [hsn.out]
              exact HC1.out.push HFH.out (by rw [hlen.out]; exact HO.out) HU.out HA.out
          case measure => simp [intOf]; omega
        · obtain rfl : k = n := by omega
          have hxs : Hid (xs.take k = xs) := List.take_of_length_le (by have := HN.out; omega)
          rw [hxs.out] at hlen HC
          obtain ⟨T0, hT0⟩ : ∃ T0, T0 = (mvs L [] xs).1 := ⟨_, rfl⟩
          obtain ⟨os, hos⟩ : ∃ os, os = (mvs L [] xs).2 := ⟨_, rfl⟩
          have hsc0 : Hid (Sc L T0 0 0) := by rw [hT0]; exact mvs_sc xs [] (Sc.nil L)
          rw [← hT0, ← hos] at HC
          rw [← hos] at hlen
          have HT0 := hide hT0
          have HOS := hide hos
          clear hT0 hos HX HRX HN
          obtain ⟨wo, hwo⟩ : ∃ wo : World, wo = wr := ⟨_, rfl⟩
          rw [← hwo] at HC ⊢
          clear hwo
          go_wp2_with fail
          go_loopw [10] (fun a wr => ∃ i : Nat, a = .int .i64 i ∧ i ≤ 4194304 ∧ Hid (∀ i', i' < i → i' < (scanN L T0 i').length) ∧ Hid (i ≤ (scanN L T0 i).length) ∧ Hid (RCR w wr B rb mb lim L (scanN L T0 i) FH (.slice A' k c') os)) (fun a _ => 4194305 - (intOf a).toNat)
          case atStart => exact ⟨0, rfl, by omega, fun i' h => absurd h (by omega), Nat.zero_le _, HC.out⟩
          case round =>
            clear HC
            obtain ⟨i, rfl, hi4, hdone, hile, HC1⟩ := hrel
            have hsi : Hid (Sc L (scanN L T0 i) i 0) := scanN_sc HL.out hsc0.out i hdone.out
            obtain ⟨T, hT⟩ : ∃ T, T = scanN L T0 i := ⟨_, rfl⟩
            have HTE := hide hT
            rw [← hT] at HC1 hsi hile
            clear hT
            obtain ⟨Am, cm, hc1, hTl, hent⟩ := HC1.out.row
            have htot := hsi.out.total
            have HENT := hide hent
            have htl : T.length ≤ 4194304 := by have := HT.out; omega
            obtain ⟨tn, htn⟩ : ∃ tn, tn = T.length := ⟨_, rfl⟩
            rw [← htn] at hc1 htl
            have HTN := hide htn
            clear hent hTl htot
            by_cases hlt : i < tn
            · obtain ⟨⟨kk, o⟩, ho⟩ : ∃ q, T[i]? = some q := ⟨_, List.getElem?_eq_getElem (by rw [← htn]; exact hlt)⟩
              obtain ⟨o0, hat0, hk0, hl0, _⟩ := hsi.out.ent i kk o ho
              have hwo := (HL.out).each o0 (atL_words hat0).2.2.2
              have hlo : o.2.length ≤ 65535 := by rw [hl0]; exact hwo.len
              have hlA : Hid (lenAt T i = o.2.length) := by show _ = _; simp [lenAt, ho]
              obtain ⟨ln, hln⟩ : ∃ ln, ln = o.2.length := ⟨_, rfl⟩
              rw [← hln] at hlo hlA
              have HLN := hide hln
              have HO := hide ho
              clear hat0 hwo hk0 hl0 hln ho htn
              go_wp2_with fail
              obtain ⟨wi, hwi⟩ : ∃ wi : World, wi = wr := ⟨_, rfl⟩
              rw [← hwi] at HC1 ⊢
              clear hwi hc1
              go_loopw [11] (fun jv wr2 => ∃ j : Nat, j ≤ ln ∧ jv = .int .i64 j ∧ Hid (RCR w wr2 B rb mb lim L (stepsF L T i j) FH (.slice A' k c') os)) (fun jv _ => ln - (intOf jv).toNat)
              case atStart => exact ⟨0, Nat.zero_le _, rfl, HC1.out⟩
              case round =>
                obtain ⟨j, hj, rfl, HC2⟩ := hrel
                have hst := steps_sc HL.out hsi.out j (by rw [hlA.out]; exact hj) (by rw [← HTN.out]; exact hlt)
                obtain ⟨hs2, hb2, hlen2⟩ := hst
                obtain ⟨o', ho', hk', hl'⟩ := hb2 kk o HO.out
                obtain ⟨T2, hT2⟩ : ∃ T2, T2 = stepsF L T i j := ⟨_, rfl⟩
                have HT2 := hide hT2
                rw [← hT2] at HC2 hs2 ho' hlen2
                clear hT2 hb2
                rw [← HTN.out] at hlen2
                have hi2 : i < T2.length := by omega
                obtain ⟨Am2, cm2, hc12, hTl2, hent2⟩ := HC2.out.row
                obtain ⟨q2, gq2, cg2, hA2, hc22, hfc2, hfr2⟩ := hent2 i kk o' ho'
                subst hA2
                rw [hl', ← HLN.out] at hc22
                have htl2 : T2.length ≤ 4194304 := by have := hs2.total; have := HT.out; omega
                obtain ⟨tn2, htn2⟩ : ∃ tn2, tn2 = T2.length := ⟨_, rfl⟩
                rw [← htn2] at hc12 htl2 hi2
                have HTN2 := hide htn2
                by_cases hjl : j < ln
                · have hjo : j < o'.2.length := by rw [hl', ← HLN.out]; exact hjl
                  obtain ⟨x, hx⟩ : ∃ x, x = o'.2[j] := ⟨_, rfl⟩
                  have hxg : o'.2[j]? = some x := by rw [hx]; exact List.getElem?_eq_getElem hjo
                  obtain ⟨o0, hat0, _, hl0, hm0⟩ := hs2.ent i kk o' ho'
                  have hm0l := (atL_words hat0).2.2.2
                  have hj0 : j < o0.2.length := by omega
                  have hx0 : o'.2[j]? = some (o0.2[j]) := (hm0 j _ (List.getElem?_eq_getElem hj0)).2 (by omega)
                  have hxe : x = o0.2[j] := by rw [hxg] at hx0; exact Option.some.inj hx0
                  have hxr : rightL L x = true := by rw [hxe]; exact HL.out.right o0 hm0l _ (List.getElem_mem hj0)
                  have hs3 := hs2.mv x (.inl (by rw [← HTN2.out]; exact hi2))
                  have hcall := hide (HC2.out.call HFH.out x hxr (by have := hs3.total; have := HT.out; omega))
                  have ho3 : (mv L T2 x).1[i]? = some (kk, o') := (mv_ext L T2 x).pre i _ ho'
                  have hstep : Hid (stepsF L T i (j + 1) = setF (mv L T2 x).1 i j (mv L T2 x).2) := by
                    show stepF L (stepsF L T i j) i j = _
                    rw [← HT2.out]
                    exact stepF_eq ho' hxg
                  have hl3 : (mv L T2 x).1.length ≤ 4194304 := by
                    have h1 := length_le_total (obs (mv L T2 x).1)
                    rw [obs_length] at h1
                    have := hs3.total; have := HT.out; omega
                  obtain ⟨T3, hT3⟩ : ∃ T3, T3 = (mv L T2 x).1 := ⟨_, rfl⟩
                  obtain ⟨q, hq⟩ : ∃ q, q = (mv L T2 x).2 := ⟨_, rfl⟩
                  rw [← hT3, ← hq] at hcall hstep
                  rw [← hT3] at ho3 hl3
                  have hcx2 := hfc2 j x hxg
                  have hfacts : Hid (∀ w3, RCR w w3 B rb mb lim L T3 FH (.slice A' k c') os → ∃ q3 tt3 g3 cw3 cg3, w3.cell? ⟨mb, 1, none⟩ = some (.slice (some ⟨q3, 0, none⟩) tt3 cw3) ∧ w3.cell? ⟨q3, i * 3 + 2, none⟩ = some (.slice (some ⟨g3, 0, none⟩) ln cg3) ∧ w3.cell? ⟨g3, j, none⟩ = some (.int .i64 x) ∧ w3.frozen? ⟨g3, j, none⟩ = false ∧ i < tt3 ∧ tt3 ≤ 4194304) := by
                    intro w3 h3
                    obtain ⟨Am3, cm3, hc13, _, hent3⟩ := h3.row
                    obtain ⟨q3, gq3, cg3, hA3, hc23, hfc3, hfr3⟩ := hent3 i kk o' ho3
                    subst hA3
                    rw [hl', ← HLN.out] at hc23
                    exact ⟨q3, _, gq3, cm3, cg3, hc13, hc23, hfc3 j x hxg, hfr3 j, (List.getElem?_eq_some_iff.1 ho3).1, hl3⟩
                  have HO3 := hide ho3
                  have HJO := hide hjo
                  clear hent2 hfc2 hfr2 hx hxg hat0 hl0 hm0 hm0l hj0 hx0 hxe hxr hs3 hs2 ho3 hT3 hq htn2 hlen2 ho' hk' hl' hjo hl3 hTl2
                  go_wp2_with (go_at_call 44; refine hcall.out.mono ?_; rintro e w3 ⟨rfl, hC3⟩; have HC3 := hide hC3; obtain ⟨q3, tt3, g3, cw3, cg3, hd1, hd2, hdx, hdf, hdl, hdt⟩ := hfacts.out w3 hC3; have HD1 := hide hd1; have HD2 := hide hd2; clear hC3)
                  go_roundw
                  case rel =>
                    refine ⟨j + 1, by omega, by go_num, ?_⟩
                    rw [hstep.out]
                    exact HC3.out.setw HO3.out HJO.out q HD1.out HD2.out
                  case measure => simp [intOf]; omega
                · obtain rfl : j = ln := by omega
                  have hsc3 : Hid (scanN L T0 (i + 1) = T2) := by
                    show scanO L (scanN L T0 i) i = T2
                    rw [← HTE.out, HT2.out]; unfold scanO; rw [hlA.out]
                  have hlen3 : Hid (i + 1 ≤ T2.length) := by show i + 1 ≤ T2.length; rw [← HTN2.out]; omega
                  clear hent2 hfc2 hfr2 hs2 hlen2 ho' hk' hl' htn2 hTl2
                  go_wp2_with fail
                  go_roundw
                  case rel =>
                    refine ⟨i + 1, by go_num, by omega, fun i' hi' => ?_, by rw [hsc3.out]; exact hlen3.out, by rw [hsc3.out]; exact HC2.out⟩
                    rcases Nat.lt_or_ge i' i with h | h
                    · exact hdone.out i' h
                    · obtain rfl : i' = i := by omega
                      rw [← HTE.out, ← HTN.out]; exact hlt
                  case measure => simp [intOf]; omega
            · have hTL : Hid (T.length = i) := by show _ = _; have := hile.out; omega
              obtain ⟨v0, hb1, hf1⟩ := HC1.out.old
              have hfin : collectR L xs = (obs T, os) := by
                have hend := scan_end (roots := xs) HL.out (n := i) (by rw [← HT0.out]; exact hdone.out) (by rw [← HT0.out, ← HTE.out]; exact hTL.out)
                unfold collectR
                rw [← hend, ← HT0.out, ← HTE.out, ← HOS.out]
              have HFIN := hide hfin
              have HDN := hide (HC1.out.done HFH.out (by rw [hTL.out]; exact hsi.out) hc1)
              clear hfin htn
              go_wp2_with fail
              go_ret2
              rw [HRES.out, HFIN.out]
              exact HDN.out
end
end Go.Proofs.Ytkmfohocicngaaa
