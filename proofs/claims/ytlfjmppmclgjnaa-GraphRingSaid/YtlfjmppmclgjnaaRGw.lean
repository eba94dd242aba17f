/- The reference's 'Groups', walked. -/
import Derived.Test.YtlfjmppmclgjnaaRGr
namespace Go.Proofs.Ytlfjmppmclgjnaa
open Go.RowKit

noncomputable def ownTo (g : List (List Int)) (i k : Nat) : List Int := ((List.range k).filter fun x => ledB g [(i : Int)] x && ledB g [(x : Int)] i).map Int.ofNat
noncomputable def rdyTo (g : List (List Int)) (done : Nat → Bool) (i k : Nat) : Bool := (List.range k).all fun x => !ledB g [(i : Int)] x || (ledB g [(x : Int)] i || done x)

theorem ownTo_succ (g : List (List Int)) (i k : Nat) : ownTo g i (k + 1) = if (ledB g [(i : Int)] k && ledB g [(k : Int)] i) = true then ownTo g i k ++ [(k : Int)] else ownTo g i k := by
  unfold ownTo
  rw [List.range_succ, List.filter_append]
  by_cases h : (ledB g [(i : Int)] k && ledB g [(k : Int)] i) = true
  · rw [if_pos h, List.filter_cons, if_pos h]; simp
  · rw [if_neg h, List.filter_cons, if_neg h]; simp

theorem rdyTo_succ (g : List (List Int)) (done : Nat → Bool) (i k : Nat) : rdyTo g done i (k + 1) = (rdyTo g done i k && (!ledB g [(i : Int)] k || (ledB g [(k : Int)] i || done k))) := by
  unfold rdyTo
  rw [List.range_succ, List.all_append]
  simp

theorem ownTo_all (g : List (List Int)) (i : Nat) : ownTo g i g.length = classL g i := by
  unfold ownTo classL reachL
  rw [List.filter_map, List.filter_filter]
  congr 1
  apply List.filter_congr
  intro x _
  simp [Bool.and_comm]

theorem rdyTo_all (g : List (List Int)) (done : Nat → Bool) (i : Nat) : rdyTo g done i g.length = readyB g done i := by
  rw [Bool.eq_iff_iff]
  unfold rdyTo readyB
  simp only [List.all_eq_true]
  constructor
  · intro h v hv
    obtain ⟨h0, h1, h2⟩ := reachL_mem.1 hv
    have := h v.toNat (List.mem_range.2 (by omega))
    rw [ledB_iff.2 h2, show ((v.toNat : Nat) : Int) = v by omega] at this
    simpa using this
  · intro h x hx
    have hx := List.mem_range.1 hx
    cases hb : ledB g [(i : Int)] x with
    | false => simp
    | true =>
      have := h (x : Int) (reachL_mem.2 ⟨by omega, by omega, by simpa using ledB_iff.1 hb⟩)
      simpa using this

theorem ownTo_le (g : List (List Int)) (i k : Nat) : (ownTo g i k).length ≤ k := by
  unfold ownTo
  rw [List.length_map]
  exact Nat.le_trans (List.length_filter_le _ _) (by simp)

theorem RGW.vals_lt {w wr : World} {n : Nat} {Al : Option Addr} {cl : Nat} {bs : List Nat} {db m : Nat} {A : Option Addr} {c : Nat} {g : List (List Int)} {done : Nat → Bool} {gs : List (List Int)} {vals : List Value} (h : RGW w wr n Al cl bs db m A c g done gs vals) : ∀ u ∈ vals, ∀ q, u.ownBlock = some q → q < wr.heap.size := by
  intro u hu q hq
  obtain ⟨i, hi, rfl⟩ := List.getElem_of_mem hu
  have hi' : i < gs.length := by rw [← h.rows.1]; exact hi
  obtain ⟨a, m, c, h1, h2, h3⟩ := h.rows.2 i _ (List.getElem?_eq_getElem hi')
  rw [List.getElem?_eq_getElem hi] at h1
  injection h1 with h1
  rw [h1] at hq
  exact own_lt h3 hq

theorem RGW.read {w wr : World} {n : Nat} {Al : Option Addr} {cl : Nat} {bs : List Nat} {db m : Nat} {A : Option Addr} {c : Nat} {g : List (List Int)} {done : Nat → Bool} {gs : List (List Int)} {vals : List Value} (h : RGW w wr n Al cl bs db m A c g done gs vals) (hi : ∀ xs ∈ gs, ∃ k, k < g.length ∧ xs = classL g k) (hg : g.length ≤ 1000) : GRd wr A m gs := by
  refine ⟨h.num, fun i xs hx => ?_⟩
  obtain ⟨a, p, cp, h1, h2, h3⟩ := h.rows.2 i xs hx
  have hlt : i < gs.length := (List.getElem?_eq_some_iff.1 hx).1
  obtain ⟨A1, c1, hv, _, _, _, _, hA⟩ := own_form h.own
  obtain ⟨ga, hga⟩ := own_some h.own (by have := h.num; omega)
  obtain ⟨hAg, _, _, _, hcc⟩ := hA ga hga
  injection hv with hv1 hv2 hv3
  obtain ⟨k, hk, rfl⟩ := hi xs (List.mem_of_getElem? hx)
  have hlen : (classL g k).length ≤ 1000 := Nat.le_trans (List.length_filter_le _ _) (Nat.le_trans (reachL_le g _) hg)
  refine ⟨ga, 0, none, a, p, cp, by rw [hv1, hAg], ?_, Rd.of_own h3, h2, by omega, fun x hx => ?_⟩
  · have := hcc i _ h1
    rw [Addr.add_lit, Nat.zero_add]
    exact this
  · obtain ⟨h0, h1, _⟩ := class_mem.1 hx
    unfold I64
    omega

theorem RLd.start (w : World) (n : Nat) (g : List (List Int)) : RLd w w n 0 none 0 g [] := ⟨World.ownsRow_nil _ _ _ _, fun i b h => by simp at h, Upd.refl _ _, rfl⟩

set_option maxRecDepth 100000 in
set_option maxHeartbeats 4000000 in
theorem rgroups_any {w : World} {A : Option Addr} {n c : Nat} {g : List (List Int)} (hg : GRd w A n g) (hl : n ≤ 9223372036854775807) :
    Calls Try.prog 15 #[.slice A n c] w (ListsN w (groupsR g)) := by
  have HWR := hide (right_any (c := c) hg hl)
  have hwr : wrongB g [] = !rightB g := by rw [wrong_right]; simp
  have hgl := hg.1
  cases hw : rightB g
  · have HE : Hid (groupsR g = none) := by show _ = _; unfold groupsR; rw [hwr, hw]; rfl
    rw [hw] at HWR
    clear hw hwr hg hl hgl
    go_enter Try.func15, Try.ntmps15
    go_wp2_with (go_at_call 21; refine HWR.out.mono ?_; rintro e w1 ⟨rfl, rfl⟩)
    go_ret2
    rw [HE.out]
    exact ⟨rfl, Upd.refl _ _⟩
  · have hwf : wrongB g [] = false := by rw [hwr, hw]; rfl
    have HE : Hid (groupsR g = some (groupsAll g)) := by show _ = _; unfold groupsR; rw [hwf]; rfl
    obtain ⟨hk, _, hok⟩ := wrong_false hwf
    rw [hw] at HWR
    have hn1000 : n ≤ 1000 := by omega
    have HR : Hid (∀ w1 (k : Nat), Upd (fun _ => False) w w1 → k < n → ∀ b, b = w1.heap.size → Calls Try.prog 22 #[.slice A n c, .slice (some ⟨b, 0, none⟩) 1 1] (w1.alloc (.cells #[.int .i64 k] 3)) (BoolsN (w1.alloc (.cells #[.int .i64 k] 3)) n (ledB g [(k : Int)]))) := by
      rintro w1 k hu hk1 b rfl
      exact rreach_any (hg.keep (hu.trans (Upd.alloc _ _ _))) hok hn1000 (S := [(k : Int)]) (Rd.new1 _ _ _ rfl) rfl (by omega) (fun x hx => by obtain rfl := List.mem_singleton.1 hx; omega)
    have HOK := hide hok
    have HGL := hide hgl
    have hmakb := fun w1 : World => make_bools w1 n (by omega)
    have hcs2 : madeCells (Value.bool false).cells (n * 1) = boolArr n (fun _ => false) := by
      rw [Nat.mul_one]
      refine (madeList _ _).trans ?_
      unfold boolArr
      congr 1
      rw [List.map_const']
      simp
    have hrb : ∀ w1 : World, Blk (w1.alloc (.cells (madeCells (Value.bool false).cells (n * 1)) 4)) w1.heap.size 4 (boolArr n (fun _ => false)) := fun w1 => by rw [hcs2]; exact Blk.new _ _ _
    have HRB := hide hrb
    generalize madeCells (Value.bool false).cells (n * 1) = cs2 at hmakb HRB
    have HMB := hide hmakb
    have HL0 := hide (RLd.start w n g)
    clear hw hwr hwf hgl hk hok hg hcs2 hrb hmakb
    go_enter Try.func15, Try.ntmps15
    go_wp2_with (go_at_call 21; refine HWR.out.mono ?_; rintro e w1 ⟨rfl, rfl⟩)
    go_loopw [4, 5] (fun lv iv wr => ∃ (k : Nat) (Al : Option Addr) (cl : Nat) (bs : List Nat), k ≤ n ∧ lv = .slice Al k cl ∧ iv = .int .i64 k ∧ Hid (RLd w wr n k Al cl g bs)) (fun _ iv _ => n - (intOf iv).toNat)
    case atStart => exact ⟨0, none, 0, [], Nat.zero_le _, rfl, rfl, HL0.out⟩
    case round =>
      clear HL0
      obtain ⟨k, Al, cl, bs, hk, rfl, rfl, HL⟩ := hrel
      by_cases hlt : k < n
      · have HRK := hide (HR.out wr k HL.out.upd hlt _ rfl)
        have HLA := hide (HL.out.keep (Upd.alloc (fun _ => False) wr (.cells #[.int .i64 (k : Int)] 3)))
        go_wp2_with (first | (go_at_call 22; refine HRK.out.mono ?_; rintro e w2 ⟨b, rfl, HM2⟩; have HL2 := hide ((HLA.out.keep HM2.out.2.2).keep (Upd.alloc (fun _ => False) w2 (.cells #[.slice (some ⟨b, 0, none⟩) n n] 40))); have HB2 := hide ((Upd.alloc (fun _ => False) w2 (.cells #[.slice (some ⟨b, 0, none⟩) n n] 40)).blk HM2.out.2.1 (fun h => h)); have HB3 := hide (Nat.le_trans HLA.out.upd.size HM2.out.1)) | (at_builtin; refine wpList_app (v := .slice Al k cl) (u := .slice (some ⟨w2.heap.size, 0, none⟩) 1 1) Try.brows rfl (.tmp 23) (.tmp 28) rfl rfl HL2.out.own rfl (Rd.new1 _ (.slice (some ⟨b, 0, none⟩) n n) 40 rfl) (by simp [Value.oneCell']) (k + 1) rfl (by omega) (by omega) HL2.out.upd.size ?_; intro A2 c2 w5 own5 u5 at5 ne5; have HL5 := hide (HL2.out.app HB3.out HB2.out own5 u5); clear own5 u5 at5 ne5))
        go_roundw
        case rel => exact ⟨k + 1, A2, c2, bs ++ [b], by omega, rfl, by go_num, HL5.out⟩
        case measure => simp [intOf]; omega
      · obtain rfl : k = n := by omega
        have hmkb := HMB.out wr
        have hgw : RGW w (wr.alloc (.cells cs2 4)) k Al cl bs wr.heap.size 0 none 0 g (fun _ => false) [] [] :=
          ⟨HL.out.keep (Upd.alloc _ _ _), HRB.out wr, HL.out.upd.size, fun b hb => by
            obtain ⟨i, hi, rfl⟩ := List.getElem_of_mem hb
            have := (HL.out.rows i _ (List.getElem?_eq_getElem hi)).2.lt
            omega, World.ownsRow_nil _ _ _ _, ⟨rfl, fun i ys h => by simp at h⟩, rfl⟩
        have HGW := hide hgw
        have hdlt : Hid (wr.heap.size < wr.heap.size + 1) := Nat.lt_succ_self _
        have HC0 : Hid (0 + cntF k (fun _ => false) = k) := by show _ = _; rw [cntF_none, Nat.zero_add]
        have HG0 := hide (GrpSt.start g)
        clear hgw HL HRB HMB HR
        go_wp2_with fail
        generalize wr.heap.size = db at HGW hdlt ⊢
        go_loopw [7, 8] (fun gv cv w2 => ∃ (done : Nat → Bool) (gs : List (List Int)) (vals : List Value) (cnt m : Nat) (A1 : Option Addr) (c1 : Nat), cnt ≤ k ∧ m ≤ cnt ∧ gv = .slice A1 m c1 ∧ cv = .int .i64 cnt ∧ Hid (cnt + cntF k done = k) ∧ Hid (GrpSt g done gs) ∧ Hid (RGW w w2 k Al cl bs db m A1 c1 g done gs vals)) (fun _ cv _ => k - (intOf cv).toNat)
        case atStart => exact ⟨fun _ => false, [], [], 0, 0, none, 0, Nat.zero_le _, Nat.zero_le _, rfl, rfl, HC0.out, HG0.out, HGW.out⟩
        case round =>
          clear HGW HC0 HG0
          obtain ⟨done, gs, vals, cnt, m, A1, c1, hck, hmc, rfl, rfl, HCN, HGS, HW⟩ := hrel
          by_cases hlt2 : cnt < k
          · have hc0 : cntF g.length done ≠ 0 := by
              have h1 := HCN.out
              have h2 := HGL.out
              rw [← h2]; omega
            obtain ⟨k0, hk0, hd0, hr0⟩ := GrpSt.some (gs := gs) HOK.out hc0
            have hk0' : k0 < k := by have := HGL.out; omega
            have HK0 : Hid (done k0 = false ∧ readyB g done k0 = true) := ⟨hd0, hr0⟩
            clear hc0 hk0 hd0 hr0
            go_wp2_with fail
            go_loopw [7, 8, 9] (fun gv cv iv w3 => ∃ j : Nat, j ≤ k0 ∧ gv = .slice A1 m c1 ∧ cv = .int .i64 cnt ∧ iv = .int .i64 j ∧ Hid (RGW w w3 k Al cl bs db m A1 c1 g done gs vals) ∧ Hid (∀ i, i < j → done i = true ∨ readyB g done i = false)) (fun _ _ iv _ => k - (intOf iv).toNat)
            case atStart => exact ⟨0, Nat.zero_le _, rfl, rfl, rfl, HW.out, fun i h => absurd h (by omega)⟩
            case round =>
              clear HW
              obtain ⟨j, hjk, rfl, rfl, rfl, HW, HNO⟩ := hrel
              have hjn : j < k := by omega
              have hbd := HW.out.blk.cell j
              rw [boolArr_get hjn] at hbd
              cases hdj : done j
              · rw [hdj] at hbd
                have HDJ := hide hdj
                clear hdj
                obtain ⟨wo, hwo⟩ : ∃ wo : World, wo = wr := ⟨_, rfl⟩
                subst hwo
                have HVL := hide HW.out.vals_lt
                have HSZ := hide HW.out.leads.upd.size
                go_wp2_with fail
                go_loopw [10, 11, 12] (fun ov rv kv w4 => ∃ (t p : Nat) (A2 : Option Addr) (c2 : Nat) (rb : Bool), t ≤ k ∧ p ≤ t ∧ ov = .slice A2 p c2 ∧ rv = .bool rb ∧ kv = .int .i64 t ∧ Hid (rb = rdyTo g done j t) ∧ Hid (p = (ownTo g j t).length) ∧ Hid (w4.ownsRow wo.heap.size 3 1 (.slice A2 p c2) p ((ownTo g j t).map (.int .i64))) ∧ Hid (RGW w w4 k Al cl bs db m A1 c1 g done gs vals) ∧ Hid (wo.heap.size ≤ w4.heap.size)) (fun _ _ kv _ => k - (intOf kv).toNat)
                case atStart => exact ⟨0, 0, none, 0, true, Nat.zero_le _, Nat.zero_le _, rfl, rfl, rfl, rfl, rfl, World.ownsRow_nil _ _ _ _, HW.out, Nat.le_refl _⟩
                case round =>
                  clear HW hbd
                  obtain ⟨t, p, A2, c2, rb, htk, hpt, rfl, rfl, rfl, HRB, HP, HO, HW, HZ⟩ := hrel
                  by_cases htlt : t < k
                  · obtain ⟨ga, b1, rfl, hcA, hcB⟩ := HW.out.leads.get hjn
                    obtain ⟨ga', b2, hga, hcC, hcD⟩ := HW.out.leads.get htlt
                    obtain rfl : ga = ga' := by injection hga with hga; injection hga with hga
                    have hc1 := hcB t htlt
                    have hc2 := hcD j hjn
                    have hbd := HW.out.blk.cell t
                    rw [boolArr_get htlt] at hbd
                    have HOS := hide (ownTo_succ g j t)
                    have HRS := hide (rdyTo_succ g done j t)
                    unfold boolSl at hcA hcC
                    clear hcB hcD hga
                    cases ha : ledB g [(j : Int)] t
                    · rw [ha] at hc1 HOS HRS
                      clear ha
                      go_wp2_with fail
                      go_roundw
                      case rel =>
                        have h1 := HOS.out
                        have h2 := HRS.out
                        simp only [Bool.false_and, Bool.false_eq_true, if_false] at h1
                        simp only [Bool.not_false, Bool.true_or, Bool.and_true] at h2
                        refine ⟨t + 1, p, A2, c2, rb, by omega, by omega, rfl, rfl, by go_num, ?_, ?_, ?_, HW.out, HZ.out⟩
                        · rw [h2]; exact HRB.out
                        · rw [h1]; exact HP.out
                        · rw [h1]; exact HO.out
                      case measure => simp [intOf]; omega
                    · rw [ha] at hc1 HOS HRS
                      clear ha
                      cases hb : ledB g [(t : Int)] j
                      · rw [hb] at hc2 HOS HRS
                        clear hb
                        cases hdt : done t
                        · rw [hdt] at hbd HRS
                          clear hdt
                          go_wp2_with fail
                          go_roundw
                          case rel =>
                            have h1 := HOS.out
                            have h2 := HRS.out
                            simp only [Bool.and_false, Bool.false_eq_true, if_false] at h1
                            simp only [Bool.not_true, Bool.or_self, Bool.and_false] at h2
                            refine ⟨t + 1, p, A2, c2, false, by omega, by omega, rfl, rfl, by go_num, ?_, ?_, ?_, HW.out, HZ.out⟩
                            · rw [h2]; rfl
                            · rw [h1]; exact HP.out
                            · rw [h1]; exact HO.out
                          case measure => simp [intOf]; omega
                        · rw [hdt] at hbd HRS
                          clear hdt
                          go_wp2_with fail
                          go_roundw
                          case rel =>
                            have h1 := HOS.out
                            have h2 := HRS.out
                            simp only [Bool.and_false, Bool.false_eq_true, if_false] at h1
                            simp only [Bool.not_true, Bool.false_or, Bool.and_true] at h2
                            refine ⟨t + 1, p, A2, c2, rb, by omega, by omega, rfl, rfl, by go_num, ?_, ?_, ?_, HW.out, HZ.out⟩
                            · rw [h2]; exact HRB.out
                            · rw [h1]; exact HP.out
                            · rw [h1]; exact HO.out
                          case measure => simp [intOf]; omega
                      · rw [hb] at hc2 HOS HRS
                        clear hb
                        have hwz := HW.out.leads.upd.size
                        have HWA := hide (HW.out.keep (Upd.alloc (fun _ => False) wr (.cells #[.int .i64 (t : Int)] 3)))
                        have HOA := hide ((Upd.alloc (fun _ => False) wr (.cells #[.int .i64 (t : Int)] 3)).own HO.out (fun _ _ h => h))
                        have HZA : Hid (wo.heap.size ≤ (wr.alloc (.cells #[.int .i64 (t : Int)] 3)).heap.size) := Nat.le_trans HZ.out (Upd.alloc (fun _ => False) _ _).size
                        go_wp2_with (at_builtin; refine wpList_app (v := .slice A2 p c2) (u := .slice (some ⟨wr.heap.size, 0, none⟩) 1 1) Try.ints rfl (.tmp 69) (.tmp 71) rfl rfl HOA.out rfl (Rd.new1 _ (.int .i64 (t : Int)) 3 rfl) (by simp [Value.oneCell']) (p + 1) rfl (by omega) (by omega) HZA.out ?_; intro A5 c5 w5 own5 u5 at5 ne5; have HW5 := hide (HWA.out.grow HOA.out HSZ.out u5 (fun u _ _ _ _ hu q hq e => Nat.lt_irrefl q (Nat.lt_of_lt_of_le (HVL.out u hu q hq) (own_lo HOA.out e)))); have HO5 := hide own5; have HZ5 := hide (Nat.le_trans HZA.out u5.size); clear own5 u5 at5 ne5)
                        go_roundw
                        case rel =>
                          have h1 := HOS.out
                          have h2 := HRS.out
                          simp only [Bool.and_self, if_true] at h1
                          simp only [Bool.not_true, Bool.true_or, Bool.or_true, Bool.and_true] at h2
                          refine ⟨t + 1, p + 1, A5, c5, rb, by omega, by omega, rfl, rfl, by go_num, ?_, ?_, ?_, HW5.out, HZ5.out⟩
                          · rw [h2]; exact HRB.out
                          · rw [h1]; show _ = _; rw [List.length_append, ← HP.out]; rfl
                          · rw [h1, List.map_append]; exact HO5.out
                        case measure => simp [intOf]; omega
                  · obtain rfl : t = k := by omega
                    have hoa : ownTo g j t = classL g j := by rw [HGL.out]; exact ownTo_all g j
                    have hra : rdyTo g done j t = readyB g done j := by rw [HGL.out]; exact rdyTo_all g done j
                    rw [hoa] at HP HO
                    rw [hra] at HRB
                    clear hoa hra
                    cases rb
                    · go_wp2_with fail
                      go_roundw
                      case rel =>
                        refine ⟨j + 1, ?_, rfl, rfl, by go_num, HW.out, fun i hi => ?_⟩
                        · have h1 := HK0.out.2
                          have h2 := HRB.out
                          by_cases e : j = k0
                          · subst e; rw [h1] at h2; simp at h2
                          · omega
                        · by_cases hij : i < j
                          · exact HNO.out i hij
                          · obtain rfl : i = j := by omega
                            exact .inr HRB.out.symm
                      case measure => simp [intOf]; omega
                    · have HCN2 := hide (cntF_addL (n := g.length) (classL g j) done (class_nodup g j) (class_fresh HGS.out.ok HDJ.out))
                      have HCP : Hid (0 < (classL g j).length) := List.length_pos_of_mem (class_self (by have := HGL.out; omega))
                      have hpn : cnt + p ≤ t := by have h1 := HCN2.out; have h2 := HGL.out; have h3 := HCN.out; have h4 := HP.out; rw [← h2] at h1; omega
                      have HOB := hide (own_base HO.out HSZ.out)
                      clear HO
                      go_wp2_with fail
                      go_loopw [13] (fun iv w5 => ∃ q : Nat, q ≤ p ∧ iv = .int .i64 q ∧ Hid (RGW w w5 t Al cl bs db m A1 c1 g (addL done ((classL g j).take q)) gs vals) ∧ Hid (w5.ownsRow w.heap.size 3 1 (.slice A2 p c2) p ((classL g j).map (.int .i64)))) (fun iv _ => p - (intOf iv).toNat)
                      case atStart => exact ⟨0, Nat.zero_le _, rfl, by rw [List.take_zero, addL_nil]; exact HW.out, HOB.out⟩
                      case round =>
                        clear HW HOB HZ
                        obtain ⟨q, hqp, rfl, HW, HO⟩ := hrel
                        by_cases hqlt : q < p
                        · obtain ⟨gb, go, gs', x, rfl, hxe, hxc⟩ := (Rd.of_own HO.out).get HP.out hqlt
                          have hxm : x ∈ classL g j := by rw [hxe]; exact List.getElem_mem _
                          obtain ⟨hx0, hx1, _⟩ := class_mem.1 hxm
                          obtain ⟨i, rfl⟩ := Int.eq_ofNat_of_zero_le hx0
                          have hik : i < t := by have := HGL.out; omega
                          have hbc := HW.out.blk.cell i
                          rw [boolArr_get hik] at hbc
                          have hfr := HW.out.blk.free i
                          have HXE := hide hxe
                          clear hxe hxm hx0 hx1
                          go_wp2_with fail
                          go_roundw
                          case rel =>
                            refine ⟨q + 1, by omega, by go_num, ?_, (Upd.set (S := fun q => q = db) _ _ _ rfl).own HO.out (fun q hq e => own_ne_blk HO.out HW.out.blk (by decide) q hq e)⟩
                            have h := HW.out.mark i
                            have h2 := HP.out
                            show RGW _ _ _ _ _ _ _ _ _ _ _ _ _ _
                            rw [List.take_succ_eq_append_getElem (by omega), addL_snoc, ← HXE.out, Int.toNat_natCast]
                            exact h
                          case measure => simp [intOf]; omega
                        · have hwl := HW.out.leads.upd.size
                          have htk : (classL g j).take q = classL g j := List.take_of_length_le (by have := HP.out; omega)
                          rw [htk] at HW
                          have HWA := hide (HW.out.keep (Upd.alloc (fun _ => False) wr (.cells #[.slice A2 p c2] 23)))
                          clear htk
                          have HOA := hide ((Upd.alloc (fun _ => False) wr (.cells #[.slice A2 p c2] 23)).own HO.out (fun _ _ h => h))
                          have hp0 : 0 < p := by have h1 := HCP.out; have h2 := HP.out; omega
                          go_wp2_with (at_builtin; refine wpList_app (v := .slice A1 m c1) (u := .slice (some ⟨wr.heap.size, 0, none⟩) 1 1) Try.rows rfl (.tmp 100) (.tmp 102) rfl rfl HWA.out.own rfl (Rd.new1 _ (.slice A2 p c2) 23 rfl) (by simp [Value.oneCell']) (m + 1) rfl (by omega) (by omega) (by simp; omega) ?_; intro A5 c5 w5 own5 u5 at5 ne5; have HW5 := hide (HWA.out.app HP.out HOA.out own5 u5); clear own5 u5 at5 ne5)
                          go_roundw
                          case rel =>
                            refine ⟨addL done (classL g j), gs ++ [classL g j], vals ++ [Value.slice A2 p c2], cnt + p, m + 1, A5, c5, hpn, by omega, rfl, by go_num, ?_, HGS.out.next HOK.out (by have := HGL.out; omega) HDJ.out HRB.out.symm HNO.out, HW5⟩
                            have h1 := HCN2.out
                            have h2 := HGL.out
                            have h3 := HCN.out
                            have h4 := HP.out
                            rw [← h2] at h1
                            show _ = _
                            omega
                          case measure => simp [intOf]; omega
              · rw [hdj] at hbd
                have HDJ := hide hdj
                clear hdj
                go_wp2_with fail
                go_roundw
                case rel =>
                  refine ⟨j + 1, ?_, rfl, rfl, by go_num, HW.out, fun i hi => ?_⟩
                  · have h1 := HK0.out.1
                    have h2 := HDJ.out
                    by_cases e : j = k0
                    · subst e; rw [h1] at h2; simp at h2
                    · omega
                  · by_cases hij : i < j
                    · exact HNO.out i hij
                    · obtain rfl : i = j := by omega
                      exact .inl HDJ.out
                case measure => simp [intOf]; omega
          · have hcnt : cnt = k := by omega
            have HGA : Hid (gs = groupsAll g) := HGS.out.done (by have h1 := HCN.out; have h2 := HGL.out; rw [← h2]; omega)
            go_wp2_with fail
            go_ret2
            rw [HE.out, ← HGA.out]
            exact ⟨A1, m, c1, rfl, HW.out.num, HW.out.read HGS.out.is (by have := HGL.out; omega), HW.out.leads.upd⟩
end Go.Proofs.Ytlfjmppmclgjnaa
