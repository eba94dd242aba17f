/- The reference's Order, walked: the walk. -/
import Derived.Test.YtkmgdnhedafomaaMR
namespace Go.Proofs.Ytkmgdnhedafomaa
open Go.RowKit

theorem mu_pos2 {s : Int} {L0 L : Wt} {pre : List (Int × Int)} (h : MvSt s L0 pre L) (hne : L ≠ []) (hl : L0.length ≤ 1000) : pre.length < 2001 := by
  have h1 := h.len
  have h2 := mu_pos hne
  omega

set_option maxRecDepth 100000 in
set_option maxHeartbeats 8000000 in
theorem rorder_any {w : World} {A : Option Addr} {n c : Nat} {src : List Int} {s : Int} (hx : Rd w (.slice A n c) 1 n (src.map (.int .i64))) (hn : n = src.length) (hl : n ≤ 9223372036854775807) (hs : I64 s) :
    Calls Try.prog 10 #[.slice A n c, .int .i64 s] w (MovesN w 33 (orderR src s)) := by
  have HX := hide hx
  have HN := hide hn
  have hsl := hs.1
  have hsu := hs.2
  clear hx hn hs
  by_cases h1 : 1000 < n
  · have HR : Hid (orderR src s = none) := by
      show _ = _
      unfold orderR badF
      rw [← HN.out, decide_eq_true h1]; rfl
    go_enter Try.func10, Try.ntmps10
    go_wp2_with fail
    go_ret2
    rw [HR.out]
    exact ⟨rfl, Upd.refl _ _⟩
  · by_cases h2 : s < (n : Int)
    · have HR : Hid (orderR src s = none) := by
        show _ = _
        unfold orderR badF
        rw [← HN.out, decide_eq_true h2]; simp
      go_enter Try.func10, Try.ntmps10
      go_wp2_with fail
      go_ret2
      rw [HR.out]
      exact ⟨rfl, Upd.refl _ _⟩
    · by_cases h3 : 1000000 < s
      · have HR : Hid (orderR src s = none) := by
          show _ = _
          unfold orderR badF
          rw [← HN.out, decide_eq_true h3]; simp
        go_enter Try.func10, Try.ntmps10
        go_wp2_with fail
        go_ret2
        rw [HR.out]
        exact ⟨rfl, Upd.refl _ _⟩
      · have hn1000 : n ≤ 1000 := by omega
        have hs0 : (n : Int) ≤ s := by omega
        have hs1 : s ≤ 1000000 := by omega
        clear h1 h2 h3
        have hmk := make_bools w n (by omega)
        have hcs : madeCells (Value.bool false).cells (n * 1) = boolArr n (fun _ => false) := by
          rw [Nat.mul_one]
          refine (madeList _ _).trans ?_
          unfold boolArr
          congr 1
          rw [List.map_const']
          simp
        have HB0 : Hid (Blk (w.alloc (.cells (madeCells (Value.bool false).cells (n * 1)) 4)) w.heap.size 4 (boolArr n (hasK (leftTo src 0)))) := by
          rw [hcs]; exact Blk.new _ _ _
        have HU0 := hide (Upd.alloc (fun _ => False) w (.cells (madeCells (Value.bool false).cells (n * 1)) 4))
        generalize madeCells (Value.bool false).cells (n * 1) = cs at hmk HB0 HU0
        clear hcs
        go_enter Try.func10, Try.ntmps10
        go_wp2_with fail
        obtain ⟨lb, hlb⟩ : ∃ lb, w.heap.size = lb := ⟨_, rfl⟩
        have HLB := hide hlb
        rw [hlb] at HB0 ⊢
        clear hlb hmk
        go_loopw [7, 8] (fun nv iv wr => ∃ k q : Nat, k ≤ n ∧ q ≤ k ∧ nv = .int .i64 q ∧ iv = .int .i64 k ∧ Hid (q = (leftTo src k).length) ∧ Hid (∀ j (h : j < src.length), j < k → badV s (src[j]'h) = false) ∧ Hid (Blk wr lb 4 (boolArr n (hasK (leftTo src k)))) ∧ Hid (Upd (fun _ => False) w wr)) (fun _ iv _ => n - (intOf iv).toNat)
        case atStart => exact ⟨0, 0, Nat.zero_le _, Nat.le_refl _, rfl, rfl, rfl, fun j _ h => absurd h (by omega), HB0.out, HU0.out⟩
        case round =>
          clear HB0 HU0
          obtain ⟨k, q, hk, hqk, rfl, rfl, HQ, HB, HL, HU⟩ := hrel
          by_cases hlt : k < n
          · obtain ⟨gb, go, gs, x, rfl, hxe, hxc⟩ := (HX.out.keep HU.out (fun _ _ h => h)).get HN.out hlt
            have hks : k < src.length := by have := HN.out; omega
            have HKS := hide hks
            have HXE : Hid (x = src[k]'HKS.out) := hxe
            have HD : Hid (src.getD k 0 = x) := by show _ = _; rw [List.getD_eq_getElem?_getD, List.getElem?_eq_getElem hks, hxe]; rfl
            have HSU := hide (leftTo_succ src k)
            rw [HD.out] at HSU
            have HBD : badV s x = true → Hid (orderR src s = none) := fun h => by
              show _ = _
              unfold orderR
              rw [bad_any HKS.out (by rw [← HXE.out]; exact h)]; rfl
            clear hxe hks
            cases hx0 : decide (x < 0)
            · cases hx1 : decide (1000000 < x)
              · cases hx2 : (x == s)
                · have HOK := hide (badV_parts hx0 hx1 hx2)
                  have HB2 : Hid (∀ j (h : j < src.length), j < k + 1 → badV s (src[j]'h) = false) := fun j hj hjk => by
                    by_cases hjk' : j < k
                    · exact HB.out j hj hjk'
                    · obtain rfl : j = k := by omega
                      rw [← HXE.out]; exact HOK.out
                  have hbl := HL.out.cell k
                  have hfl := HL.out.free k
                  rw [boolArr_get hlt] at hbl
                  clear HBD
                  by_cases hxk : x = (k : Int)
                  · have hxk2 : (x != (k : Int)) = false := by simp [hxk]
                    have HSK := HSU.out
                    rw [if_neg (by simp [hxk])] at HSK
                    have HSK2 := hide HSK
                    clear hxk HSK HSU
                    go_wp2_with fail
                    go_roundw
                    case rel => exact ⟨k + 1, q, by omega, by omega, rfl, by go_num, by rw [HSK2.out]; exact HQ.out, HB2.out, by rw [HSK2.out]; exact HL.out, HU.out⟩
                    case measure => simp [intOf]; omega
                  · have hxk2 : (x != (k : Int)) = true := by simp [hxk]
                    have HSK := HSU.out
                    rw [if_pos hxk] at HSK
                    have HSK2 := hide HSK
                    clear hxk HSK HSU
                    have HL3 : Hid (Blk (wr.setCell ⟨lb, k, none⟩ (.bool true)) lb 4 (boolArr n (hasK (leftTo src k ++ [(k, x)])))) := by
                      have h := HL.out.set k (.bool true)
                      rw [boolArr_put] at h
                      rw [hasK_snoc]
                      have e : (fun y => if y = k then true else hasK (leftTo src k) y) = fun y => hasK (leftTo src k) y || y == k := by
                        funext y
                        by_cases h : y = k <;> simp [h]
                      rw [e] at h
                      exact h
                    have HU3 := hide (HU.out.extend (Upd.set (S := fun q => q = lb) wr ⟨lb, k, none⟩ (.bool true) rfl) fun q hq => .inr (by rw [hq]; exact Nat.le_of_eq HLB.out))
                    go_wp2_with fail
                    go_roundw
                    case rel => exact ⟨k + 1, q + 1, by omega, by omega, by go_num, by go_num, by rw [HSK2.out, HQ.out]; show _ = _; simp, HB2.out, by rw [HSK2.out]; exact HL3.out, HU3.out⟩
                    case measure => simp [intOf]; omega
                · have HR := HBD (by unfold badV; rw [hx2]; simp)
                  clear HBD
                  go_wp2_with fail
                  go_ret2
                  rw [HR.out]
                  exact ⟨rfl, HU.out⟩
              · have HR := HBD (by unfold badV; rw [hx1]; simp)
                clear HBD
                go_wp2_with fail
                go_ret2
                rw [HR.out]
                exact ⟨rfl, HU.out⟩
            · have HR := HBD (by unfold badV; rw [hx0]; simp)
              clear HBD
              go_wp2_with fail
              go_ret2
              rw [HR.out]
              exact ⟨rfl, HU.out⟩
          · obtain rfl : k = n := by omega
            have hbf : badF src s = false := by
              unfold badF
              have h4 : src.any (badV s) = false := by
                rw [List.any_eq_false]
                intro x hx
                obtain ⟨j, hj, rfl⟩ := List.getElem_of_mem hx
                rw [HB.out j hj (by have := HN.out; omega)]; simp
              rw [h4, ← HN.out, decide_eq_false (by omega), decide_eq_false (by omega), decide_eq_false (by omega)]; rfl
            have HR : Hid (orderR src s = some (allM s (leftTo src src.length))) := by show _ = _; unfold orderR; rw [hbf]; rfl
            have HOK := hide (leftTo_ok hbf).1
            have HQ2 : Hid (q = (leftTo src src.length).length) := by rw [← HN.out]; exact HQ.out
            have HL2 : Hid (Blk wr lb 4 (boolArr k (hasK (leftTo src src.length)))) := by rw [← HN.out]; exact HL.out
            have HKL : Hid (∀ p ∈ leftTo src src.length, p.1 < k) := fun p hp => by have := (leftTo_mem.1 hp).1; have := HN.out; omega
            have HSV0 : Hid (∀ p ∈ leftTo src src.length, src.getD p.1 0 = p.2) := fun p hp => (leftTo_mem.1 hp).2.1.symm
            generalize leftTo src src.length = L0 at HR HOK HQ2 HL2 HKL HSV0
            have HXA := hide (HX.out.keep (HU.out.trans (Upd.alloc (fun _ => False) wr (.cells #[] 3))) (fun _ _ h => h))
            have hwz := HU.out.size
            clear hbf HQ HL HB HX
            go_upto_region 14 with (at_builtin; refine wpList_app (v := .slice (some ⟨wr.heap.size, 0, none⟩) 0 0) Try.ints rfl (.tmp 70) (.tmp 71) rfl rfl (World.ownsRow_made wr #[] 0 (Nat.le_refl _) (by decide) rfl) rfl HXA.out (ints_oneC _) k (by omega) (by omega) (by omega) (by simp) ?_; intro A5 c5 w5 own5 u5 _ _; have HO5 := hide own5; have HV5 := hide ((Upd.alloc (fun _ => False) wr (.cells #[] 3)).extend u5 fun q hq => .inr (by simp [Value.ownBlock] at hq; omega)); clear own5 u5)
            have HU5 := hide (HU.out.trans HV5.out)
            have HL5 := hide (HV5.out.blk HL2.out (fun h => h))
            have HO6 : Hid (w5.ownsRow wr.heap.size 3 1 (.slice A5 k c5) k (src.map (.int .i64))) := by have h := HO5.out; rwa [List.nil_append] at h
            clear HXA HO5 HV5 HL2 HU
            by_cases hk0 : k = 0
            · have hL0 : L0 = [] := List.eq_nil_iff_forall_not_mem.2 fun p hp => by have := HKL.out p hp; omega
              subst hL0
              obtain rfl : q = 0 := HQ2.out
              have HAL : Hid (allM s [] = []) := rfl
              clear hk0
              go_wp2_with fail
              go_loopw [7, 10] (fun nv ov wr => nv = .int .i64 0 ∧ ov = .slice none 0 0 ∧ wr = w5) (fun _ _ _ => 0)
              case atStart => exact ⟨rfl, rfl, rfl⟩
              case round =>
                obtain ⟨rfl, rfl, rfl⟩ := hrel
                go_wp2_with fail
                go_ret2
                rw [HR.out, HAL.out]
                exact ⟨none, 0, 0, rfl, rfl, World.ownsRow_nil _ _ _ _, HU5.out⟩
            · obtain ⟨g, rfl, hg, HSC⟩ := SrcW.of_own HO6.out HN.out (by omega)
              have HR0 : Hid (RefW w w5 lb g k none 0 0 L0 [] (fun i => src.getD i 0)) := ⟨HL5.out, HSC, World.ownsRow_nil _ _ _ _, rfl, HU5.out, Nat.le_of_eq HLB.out, by omega⟩
              have HM0 := hide (MvSt.start HOK.out)
              have hL1000 : L0.length ≤ 1000 := by have := HQ2.out; omega
              have hq1000 : q ≤ 1000 := by omega
              clear HO6 HL5 HU5 hg HSC hwz
              go_wp2_with fail
              go_loopw [7, 10] (fun nv ov w6 => ∃ (pre : List (Int × Int)) (L : Wt) (q m : Nat) (A1 : Option Addr) (c1 : Nat) (sv : Nat → Int), q ≤ 1000 ∧ m ≤ 2001 ∧ nv = .int .i64 q ∧ ov = .slice A1 m c1 ∧ Hid (q = L.length) ∧ Hid (MvSt s L0 pre L) ∧ Hid (RefW w w6 lb g k A1 m c1 L pre sv) ∧ Hid (∀ p ∈ L, sv p.1 = p.2) ∧ Hid (∀ p ∈ L, p.1 < k)) (fun _ ov _ => 3000 - lenV ov)
              case atStart => exact ⟨[], L0, q, 0, none, 0, _, hq1000, Nat.zero_le _, rfl, rfl, HQ2.out, HM0.out, HR0.out, HSV0.out, HKL.out⟩
              case round =>
                clear HM0 HR0 HSV0 HKL HQ2
                obtain ⟨pre, L, q, m, A1, c1, sv, hq, hm, rfl, rfl, HQ, HM, HW, HSV, HKL⟩ := hrel
                by_cases hq0 : q = 0
                · have hL : L = [] := List.eq_nil_of_length_eq_zero (by rw [← HQ.out]; exact hq0)
                  subst hL hq0
                  have HAL := hide HM.out.done
                  go_wp2_with fail
                  go_ret2
                  rw [HR.out, ← HAL.out]
                  exact ⟨A1, m, c1, rfl, HW.out.num, HW.out.out, HW.out.upd⟩
                · have hne : L ≠ [] := fun e => hq0 (by rw [HQ.out, e]; rfl)
                  have hqp : 0 < q := by omega
                  have hm2 : m < 2001 := by have h1 := mu_pos2 HM.out hne hL1000; have h2 := HW.out.num; omega
                  have HNX := hide (HM.out.next hs1 hne)
                  have HNE := hide hne
                  have HSO := hide HM.out.ok.sort
                  have HLT0 : Hid ((-1 : Int) = leastTo L 0) := by show _ = _; unfold leastTo; rw [show L.find? (fun p => decide (p.1 < 0)) = none by rw [List.find?_eq_none]; intro p _; simp]
                  have HFT0 : Hid ((-1 : Int) = freeTo L 0) := by show _ = _; unfold freeTo; rw [show L.find? (fun p => decide (p.1 < 0) && !wants L p.1) = none by rw [List.find?_eq_none]; intro p _; simp]
                  clear hq0 hne
                  go_wp2_with fail
                  go_loop [11, 12, 13] (fun lv fv iv => ∃ (i : Nat) (a b : Int), i ≤ k ∧ lv = .int .i64 a ∧ fv = .int .i64 b ∧ iv = .int .i64 i ∧ -1 ≤ a ∧ a ≤ 1000 ∧ -1 ≤ b ∧ b ≤ 1000 ∧ Hid (a = leastTo L i) ∧ Hid (b = freeTo L i)) (fun _ _ iv => k - (intOf iv).toNat)
                  case atStart => exact ⟨0, -1, -1, Nat.zero_le _, rfl, rfl, rfl, by omega, by omega, by omega, by omega, HLT0.out, HFT0.out⟩
                  case round =>
                    clear HLT0 HFT0
                    obtain ⟨i, a, b, hi, rfl, rfl, rfl, ha1, ha2, hb1, hb2, HLT, HFT⟩ := hrel
                    by_cases hik : i < k
                    · have hbl := HW.out.left.cell i
                      rw [boolArr_get hik] at hbl
                      cases hhk : hasK L i
                      · rw [hhk] at hbl
                        have HP1 := hide (leastTo_pass HSO.out hhk)
                        have HP2 := hide (freeTo_pass HSO.out hhk)
                        clear hhk
                        go_wp2_with fail
                        go_round
                        case rel => exact ⟨i + 1, a, b, by omega, rfl, rfl, by go_num, ha1, ha2, hb1, hb2, by rw [HP1.out]; exact HLT.out, by rw [HP2.out]; exact HFT.out⟩
                        case measure => simp [intOf]; omega
                      · rw [hhk] at hbl
                        have HP1 := hide (leastTo_key HSO.out hhk)
                        have HP2 := hide (freeTo_key HSO.out hhk)
                        obtain ⟨vi, hvi⟩ := hasK_iff.1 hhk
                        have HVI : Hid (vi ≠ (i : Int)) := HM.out.ok.noself _ hvi
                        have HU0 : Hid (false = usedTo L i 0) := (usedTo_zero L i).symm
                        have HVM := hide hvi
                        have HALL : Hid (usedTo L i k = wants L i) := usedTo_all HKL.out
                        clear hhk hvi
                        have key : ∀ a' : Int, -1 ≤ a' → a' ≤ 1000 → Hid (a' = leastTo L (i + 1)) → True := fun _ _ _ _ => trivial
                        clear key
                        have HA' : Hid ((if a < 0 then (i : Int) else a) = leastTo L (i + 1)) := by show _ = _; rw [HP1.out, ← HLT.out]
                        have hi1000 : (i : Int) ≤ 1000 := by omega
                        by_cases ha0 : a < 0
                        · rw [if_pos ha0] at HA'
                          go_wp2_with fail
                          go_loop [14, 15] (fun uv kv => ∃ (t : Nat) (ub : Bool), t ≤ k ∧ uv = .bool ub ∧ kv = .int .i64 t ∧ Hid (ub = usedTo L i t)) (fun _ kv => k - (intOf kv).toNat)
                          case atStart => exact ⟨0, false, Nat.zero_le _, rfl, rfl, HU0.out⟩
                          case round => 
                            clear HU0
                            obtain ⟨t, ub, ht, rfl, rfl, HUB⟩ := hrel
                            by_cases htk : t < k
                            · have hbt := HW.out.left.cell t
                              rw [boolArr_get htk] at hbt
                              have hst := HW.out.src.cell t htk
                              cases ub
                              · cases hht : hasK L t
                                · rw [hht] at hbt
                                  have HPS := hide (usedTo_pass (i := i) hht)
                                  clear hht
                                  go_wp2_with fail
                                  go_round
                                  case rel => exact ⟨t + 1, false, by omega, rfl, by go_num, by rw [HPS.out]; exact HUB.out⟩
                                  case measure => simp [intOf]; omega
                                · rw [hht] at hbt
                                  obtain ⟨vt, hvt⟩ := hasK_iff.1 hht
                                  have HPS := hide (usedTo_key (i := i) HSO.out hvt)
                                  have hsvt := HSV.out _ hvt
                                  dsimp only at hsvt
                                  rw [hsvt] at hst
                                  clear hht
                                  by_cases hti : t = i
                                  · subst hti
                                    have hne : ((t : Int) != (t : Int)) = false := by simp
                                    have HF : Hid (false = (false || vt == (t : Int))) := by
                                      have := HM.out.ok.noself _ hvt
                                      show _ = _
                                      simpa using this
                                    clear hvt hsvt
                                    go_wp2_with fail
                                    go_round
                                    case rel => exact ⟨t + 1, false, by omega, rfl, by go_num, by rw [HPS.out, ← HUB.out]; exact HF.out⟩
                                    case measure => simp [intOf]; omega
                                  · have hne : ((t : Int) != (i : Int)) = true := by simp; omega
                                    clear hvt hsvt
                                    cases hvq : (vt == (i : Int))
                                    · rw [hvq] at HPS
                                      go_wp2_with fail
                                      go_round
                                      case rel => exact ⟨t + 1, false, by omega, rfl, by go_num, by rw [HPS.out, ← HUB.out]; rfl⟩
                                      case measure => simp [intOf]; omega
                                    · rw [hvq] at HPS
                                      go_wp2_with fail
                                      go_round
                                      case rel => exact ⟨t + 1, true, by omega, rfl, by go_num, by rw [HPS.out, ← HUB.out]; rfl⟩
                                      case measure => simp [intOf]; omega
                              · have HPS : Hid (true = usedTo L i (t + 1)) := by
                                  show _ = _
                                  cases hht : hasK L t
                                  · rw [usedTo_pass hht]; exact HUB.out
                                  · obtain ⟨vt, hvt⟩ := hasK_iff.1 hht
                                    rw [usedTo_key HSO.out hvt, ← HUB.out]; rfl
                                clear hbt hst
                                go_wp2_with fail
                                go_round
                                case rel => exact ⟨t + 1, true, by omega, rfl, by go_num, HPS.out⟩
                                case measure => simp [intOf]; omega
                            · obtain rfl : t = k := by omega
                              have HP3 := HP2.out
                              rw [← HALL.out, ← HUB.out, ← HFT.out] at HP3
                              cases ub
                              · by_cases hb0 : b < 0
                                · rw [if_pos ⟨hb0, rfl⟩] at HP3
                                  have HB3 := hide HP3
                                  clear HP3
                                  go_wp2_with fail
                                  go_round
                                  case rel => exact ⟨i + 1, (i : Int), (i : Int), by omega, rfl, rfl, by go_num, by omega, by omega, by omega, by omega, HA'.out, HB3.out.symm⟩
                                  case measure => simp [intOf]; omega
                                · rw [if_neg (fun h => hb0 h.1)] at HP3
                                  have HB3 := hide HP3
                                  clear HP3
                                  go_wp2_with fail
                                  go_round
                                  case rel => exact ⟨i + 1, (i : Int), b, by omega, rfl, rfl, by go_num, by omega, by omega, hb1, hb2, HA'.out, HB3.out.symm⟩
                                  case measure => simp [intOf]; omega
                              · rw [if_neg (fun h => by simp at h)] at HP3
                                have HB3 := hide HP3
                                clear HP3
                                by_cases hb0 : b < 0
                                all_goals
                                  go_wp2_with fail
                                  go_round
                                  case rel => exact ⟨i + 1, (i : Int), b, by omega, rfl, rfl, by go_num, by omega, by omega, hb1, hb2, HA'.out, HB3.out.symm⟩
                                  case measure => simp [intOf]; omega
                        · rw [if_neg ha0] at HA'
                          go_wp2_with fail
                          go_loop [14, 15] (fun uv kv => ∃ (t : Nat) (ub : Bool), t ≤ k ∧ uv = .bool ub ∧ kv = .int .i64 t ∧ Hid (ub = usedTo L i t)) (fun _ kv => k - (intOf kv).toNat)
                          case atStart => exact ⟨0, false, Nat.zero_le _, rfl, rfl, HU0.out⟩
                          case round => 
                            clear HU0
                            obtain ⟨t, ub, ht, rfl, rfl, HUB⟩ := hrel
                            by_cases htk : t < k
                            · have hbt := HW.out.left.cell t
                              rw [boolArr_get htk] at hbt
                              have hst := HW.out.src.cell t htk
                              cases ub
                              · cases hht : hasK L t
                                · rw [hht] at hbt
                                  have HPS := hide (usedTo_pass (i := i) hht)
                                  clear hht
                                  go_wp2_with fail
                                  go_round
                                  case rel => exact ⟨t + 1, false, by omega, rfl, by go_num, by rw [HPS.out]; exact HUB.out⟩
                                  case measure => simp [intOf]; omega
                                · rw [hht] at hbt
                                  obtain ⟨vt, hvt⟩ := hasK_iff.1 hht
                                  have HPS := hide (usedTo_key (i := i) HSO.out hvt)
                                  have hsvt := HSV.out _ hvt
                                  dsimp only at hsvt
                                  rw [hsvt] at hst
                                  clear hht
                                  by_cases hti : t = i
                                  · subst hti
                                    have hne : ((t : Int) != (t : Int)) = false := by simp
                                    have HF : Hid (false = (false || vt == (t : Int))) := by
                                      have := HM.out.ok.noself _ hvt
                                      show _ = _
                                      simpa using this
                                    clear hvt hsvt
                                    go_wp2_with fail
                                    go_round
                                    case rel => exact ⟨t + 1, false, by omega, rfl, by go_num, by rw [HPS.out, ← HUB.out]; exact HF.out⟩
                                    case measure => simp [intOf]; omega
                                  · have hne : ((t : Int) != (i : Int)) = true := by simp; omega
                                    clear hvt hsvt
                                    cases hvq : (vt == (i : Int))
                                    · rw [hvq] at HPS
                                      go_wp2_with fail
                                      go_round
                                      case rel => exact ⟨t + 1, false, by omega, rfl, by go_num, by rw [HPS.out, ← HUB.out]; rfl⟩
                                      case measure => simp [intOf]; omega
                                    · rw [hvq] at HPS
                                      go_wp2_with fail
                                      go_round
                                      case rel => exact ⟨t + 1, true, by omega, rfl, by go_num, by rw [HPS.out, ← HUB.out]; rfl⟩
                                      case measure => simp [intOf]; omega
                              · have HPS : Hid (true = usedTo L i (t + 1)) := by
                                  show _ = _
                                  cases hht : hasK L t
                                  · rw [usedTo_pass hht]; exact HUB.out
                                  · obtain ⟨vt, hvt⟩ := hasK_iff.1 hht
                                    rw [usedTo_key HSO.out hvt, ← HUB.out]; rfl
                                clear hbt hst
                                go_wp2_with fail
                                go_round
                                case rel => exact ⟨t + 1, true, by omega, rfl, by go_num, HPS.out⟩
                                case measure => simp [intOf]; omega
                            · obtain rfl : t = k := by omega
                              have HP3 := HP2.out
                              rw [← HALL.out, ← HUB.out, ← HFT.out] at HP3
                              cases ub
                              · by_cases hb0 : b < 0
                                · rw [if_pos ⟨hb0, rfl⟩] at HP3
                                  have HB3 := hide HP3
                                  clear HP3
                                  go_wp2_with fail
                                  go_round
                                  case rel => exact ⟨i + 1, a, (i : Int), by omega, rfl, rfl, by go_num, by omega, by omega, by omega, by omega, HA'.out, HB3.out.symm⟩
                                  case measure => simp [intOf]; omega
                                · rw [if_neg (fun h => hb0 h.1)] at HP3
                                  have HB3 := hide HP3
                                  clear HP3
                                  go_wp2_with fail
                                  go_round
                                  case rel => exact ⟨i + 1, a, b, by omega, rfl, rfl, by go_num, by omega, by omega, hb1, hb2, HA'.out, HB3.out.symm⟩
                                  case measure => simp [intOf]; omega
                              · rw [if_neg (fun h => by simp at h)] at HP3
                                have HB3 := hide HP3
                                clear HP3
                                by_cases hb0 : b < 0
                                all_goals
                                  go_wp2_with fail
                                  go_round
                                  case rel => exact ⟨i + 1, a, b, by omega, rfl, rfl, by go_num, by omega, by omega, hb1, hb2, HA'.out, HB3.out.symm⟩
                                  case measure => simp [intOf]; omega
                    · obtain rfl : i = k := by omega
                      have HLA := HLT.out
                      rw [leastTo_all HKL.out HNE.out] at HLA
                      have HFA := HFT.out
                      rw [freeTo_all HKL.out] at HFA
                      obtain ⟨q', rfl⟩ : ∃ q', q = q' + 1 := ⟨q - 1, by omega⟩
                      have hwz := HW.out.upd.size
                      cases hf : freeP L with
                      | some p =>
                        obtain ⟨kx, kv⟩ := p
                        rw [hf] at HFA
                        obtain ⟨e1, _⟩ := step_free (s := s) hf
                        rw [e1] at HNX
                        obtain ⟨hpm, _⟩ := freeP_mem hf
                        have hkx := HKL.out _ hpm
                        have hst := HW.out.src.cell kx hkx
                        have hsv := HSV.out _ hpm
                        dsimp only at HFA HNX hkx hst hsv
                        rw [hsv] at hst
                        subst HFA
                        have HLEN : Hid (q' = (cutL L kx).length) := by have h1 := cutL_len HSO.out hpm; have h2 := HQ.out; show _ = _; dsimp only at h1; omega
                        have HWA := hide (HW.out.same (Upd.alloc (fun _ => False) wr (.cells #[.int .i64 (kx : Int), .int .i64 kv] 33)))
                        have hza := HWA.out.upd.size
                        clear e1 hf hpm hsv HLA
                        go_wp2_with (at_builtin; refine wpList_app (v := .slice A1 m c1) (u := .slice (some ⟨wr.heap.size, 0, none⟩) 1 1) Try.rmovs rfl (.tmp 124) (.tmp 131) rfl rfl HWA.out.out rfl (Rd.new2 _ (.int .i64 (kx : Int)) (.int .i64 kv) 33 rfl) (by simp [Value.oneCell']) (m + 1) rfl (by omega) (by omega) hza ?_; intro A5 c5 w5 own5 u5 at5 ne5; have HW5 := hide (HWA.out.app (x := ((kx : Int), kv)) own5 u5); have hcl := HW5.out.left.cell kx; have hfl := HW5.out.left.free kx; rw [boolArr_get hkx] at hcl; clear own5 u5 at5 ne5)
                        go_roundw
                        case rel => exact ⟨pre ++ [((kx : Int), kv)], cutL L kx, q', m + 1, A5, c5, sv, by omega, by omega, by first | rfl | (congr 1; omega) | simp, rfl, HLEN.out, HNX.out, HW5.out.cut kx, fun p hp => HSV.out p (List.mem_filter.1 hp).1, fun p hp => HKL.out p (List.mem_filter.1 hp).1⟩
                        case measure => simp only [lenV]; omega
                      | none =>
                        rw [hf] at HFA
                        obtain ⟨e1, _⟩ := step_ring (s := s) hf
                        rw [e1] at HNX
                        dsimp only at HFA HNX
                        generalize firstK L = kx at HLA HNX
                        subst HFA HLA
                        have HWA := hide (HW.out.same (Upd.alloc (fun _ => False) wr (.cells #[.int .i64 s, .int .i64 (kx : Int)] 33)))
                        have hza := HWA.out.upd.size
                        clear e1 hf
                        go_wp2_with (at_builtin; refine wpList_app (v := .slice A1 m c1) (u := .slice (some ⟨wr.heap.size, 0, none⟩) 1 1) Try.rmovs rfl (.tmp 138) (.tmp 142) rfl rfl HWA.out.out rfl (Rd.new2 _ (.int .i64 s) (.int .i64 (kx : Int)) 33 rfl) (by simp [Value.oneCell']) (m + 1) rfl (by omega) (by omega) hza ?_; intro A5 c5 w5 own5 u5 at5 ne5; have HW5 := hide (HWA.out.app (x := (s, (kx : Int))) own5 u5); clear own5 u5 at5 ne5)
                        go_loopw [16] (fun iv w7 => ∃ (j : Nat) (sv' : Nat → Int), j ≤ i ∧ iv = .int .i64 j ∧ Hid (RefW w w7 lb g i A5 (m + 1) c5 L (pre ++ [(s, (kx : Int))]) sv') ∧ Hid (∀ p ∈ L, sv' p.1 = if p.2 = (kx : Int) ∧ p.1 < j then s else p.2)) (fun iv _ => i - (intOf iv).toNat)
                        case atStart => exact ⟨0, sv, Nat.zero_le _, rfl, HW5.out, fun p hp => by rw [if_neg (by omega)]; exact HSV.out p hp⟩
                        case round =>
                          clear HW5
                          obtain ⟨j, sv', hj, rfl, HW7, HS7⟩ := hrel
                          by_cases hji : j < i
                          · have hbj := HW7.out.left.cell j
                            rw [boolArr_get hji] at hbj
                            cases hhj : hasK L j
                            · rw [hhj] at hbj
                              have HHJ := hide (hasK_false hhj)
                              clear hhj
                              go_wp2_with fail
                              go_roundw
                              case rel =>
                                refine ⟨j + 1, sv', by omega, by go_num, HW7.out, fun p hp => ?_⟩
                                rw [HS7.out p hp]
                                have := HHJ.out p hp
                                by_cases h1 : p.2 = (kx : Int) ∧ p.1 < j
                                · rw [if_pos h1, if_pos ⟨h1.1, by omega⟩]
                                · rw [if_neg h1, if_neg (fun h => h1 ⟨h.1, by omega⟩)]
                              case measure => simp [intOf]; omega
                            · rw [hhj] at hbj
                              obtain ⟨vj, hvj⟩ := hasK_iff.1 hhj
                              have hsj := HW7.out.src.cell j hji
                              have hfj := HW7.out.src.free j
                              have hsv := HS7.out _ hvj
                              dsimp only at hsv
                              rw [if_neg (by omega)] at hsv
                              rw [hsv] at hsj
                              have HVJ := hide hvj
                              have HONE : Hid (∀ p ∈ L, p.1 = j → p.2 = vj) := fun p hp hpj => by
                                obtain ⟨a, ha, rfl⟩ := List.getElem_of_mem hp
                                obtain ⟨b, hb, hbe⟩ := List.getElem_of_mem hvj
                                have hpw := List.pairwise_iff_getElem.1 HSO.out
                                rcases Nat.lt_trichotomy a b with hab | hab | hab
                                · have := hpw a b ha hb hab; rw [hbe] at this; dsimp only at this; omega
                                · subst hab; rw [hbe]
                                · have := hpw b a hb ha hab; rw [hbe] at this; dsimp only at this; omega
                              clear hhj hvj hsv
                              cases hvq : (vj == (kx : Int))
                              · have HVQ : Hid (vj ≠ (kx : Int)) := by show _ ≠ _; simpa using hvq
                                go_wp2_with fail
                                go_roundw
                                case rel =>
                                  refine ⟨j + 1, sv', by omega, by go_num, HW7.out, fun p hp => ?_⟩
                                  rw [HS7.out p hp]
                                  by_cases h1 : p.2 = (kx : Int) ∧ p.1 < j
                                  · rw [if_pos h1, if_pos ⟨h1.1, by omega⟩]
                                  · rw [if_neg h1, if_neg (fun h => by
                                      by_cases h2 : p.1 = j
                                      · exact HVQ.out ((HONE.out p hp h2).symm.trans h.1)
                                      · exact h1 ⟨h.1, by omega⟩)]
                                case measure => simp [intOf]; omega
                              · have HVQ : Hid (vj = (kx : Int)) := by show _ = _; simpa using hvq
                                go_wp2_with fail
                                go_roundw
                                case rel =>
                                  refine ⟨j + 1, _, by omega, by go_num, HW7.out.put hji s, fun p hp => ?_⟩
                                  by_cases h2 : p.1 = j
                                  · rw [if_pos h2, if_pos ⟨(HONE.out p hp h2).trans HVQ.out, by omega⟩]
                                  · rw [if_neg h2, HS7.out p hp]
                                    by_cases h1 : p.2 = (kx : Int) ∧ p.1 < j
                                    · rw [if_pos h1, if_pos ⟨h1.1, by omega⟩]
                                    · rw [if_neg h1, if_neg (fun h => h1 ⟨h.1, by omega⟩)]
                                case measure => simp [intOf]; omega
                          · obtain rfl : j = i := by omega
                            go_wp2_with fail
                            go_roundw
                            case rel =>
                              refine ⟨pre ++ [(s, (kx : Int))], turnL L kx s, q' + 1, m + 1, A5, c5, sv', by omega, by omega, by go_num, rfl, ?_, HNX.out, HW7.out.turned kx s, fun p hp => ?_, fun p hp => ?_⟩
                              · show _ = _; rw [HQ.out]; simp [turnL]
                              · obtain ⟨p0, hp0, rfl⟩ := List.mem_map.1 hp
                                have h1 := HS7.out p0 hp0
                                have h2 := HKL.out p0 hp0
                                dsimp only
                                rw [h1]
                                by_cases h3 : p0.2 = (kx : Int)
                                · rw [if_pos ⟨h3, h2⟩, if_pos h3]
                                · rw [if_neg (fun h => h3 h.1), if_neg h3]
                              · obtain ⟨p0, hp0, rfl⟩ := List.mem_map.1 hp
                                exact HKL.out p0 hp0
                            case measure => simp only [lenV]; omega

end Go.Proofs.Ytkmgdnhedafomaa
