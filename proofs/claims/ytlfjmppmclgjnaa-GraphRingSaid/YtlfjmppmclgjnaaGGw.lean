/- 'graph.Groups', walked. -/
import Derived.Test.YtlfjmppmclgjnaaGG
namespace Go.Proofs.Ytlfjmppmclgjnaa
open Go.RowKit

/-- Which group is next: none yet, or the first that is ready. -/
def Fnd (g : List (List Int)) (done : Nat → Bool) (k0 : Nat) (w w3 : World) (B : Option Addr) (p cp j : Nat) : Prop :=
  (B = none ∧ ∀ i, i < j → done i = true ∨ readyB g done i = false) ∨
  ∃ j', j = j' + 1 ∧ j' ≤ k0 ∧ (∃ ad, B = some ad) ∧ done j' = false ∧ readyB g done j' = true ∧ (∀ i, i < j' → done i = true ∨ readyB g done i = false) ∧ p = (classL g j').length ∧ w3.ownsRow w.heap.size 3 1 (.slice B p cp) p ((classL g j').map (.int .i64))

set_option maxHeartbeats 4000000 in
theorem groups_any {w : World} {A : Option Addr} {n c : Nat} {g : List (List Int)} (hg : GRd w A n g) (hl : n ≤ 9223372036854775807) (he : wrongB g [] = false → edges g ≤ 1000000) :
    Calls Try.prog 14 #[.slice A n c] w (ListsN w (groupsR g)) := by
  have HWR := hide (wrong_any (c := c) (c' := 0) (xs := []) hg hl (Rd.nil w) rfl (by omega))
  cases hw : wrongB g []
  · have HE : Hid (groupsR g = some (groupsAll g)) := by show _ = _; unfold groupsR; rw [hw]; rfl
    obtain ⟨hk, _, hok⟩ := wrong_false hw
    rw [hw] at HWR
    have hgl := hg.1
    have hes := he hw
    have HR : Hid (∀ w1 (k : Nat), Upd (fun _ => False) w w1 → k < n → ∀ b, b = w1.heap.size → Calls Try.prog 19 #[.slice A n c, .slice (some ⟨b, 0, none⟩) 1 1] (w1.alloc (.cells #[.int .i64 k] 3)) (MapN (w1.alloc (.cells #[.int .i64 k] 3)) (ledB g [(k : Int)]))) := by
      rintro w1 k hu hk1 b rfl
      exact reach_any (hg.keep (hu.trans (Upd.alloc _ _ _))) hok (S := [(k : Int)]) (Rd.new1 _ _ _ rfl) rfl (by omega) (by omega) (fun x hx => by obtain rfl := List.mem_singleton.1 hx; omega)
    have HOK := hide hok
    have HGL := hide hgl
    have hn1000 : n ≤ 1000 := by omega
    have hmake := fun w1 : World => make_maps w1 n (by omega)
    have hmakb := fun w1 : World => make_bools w1 n (by omega)
    have hcs : madeCells (Value.map none).cells (n * 1) = mapsPart n [] := by
      rw [Nat.mul_one]
      refine (madeList _ _).trans ?_
      unfold mapsPart
      simp
    have hcs2 : madeCells (Value.bool false).cells (n * 1) = boolArr n (fun _ => false) := by
      rw [Nat.mul_one]
      refine (madeList _ _).trans ?_
      unfold boolArr
      congr 1
      rw [List.map_const']
      simp
    have hrl : ∀ w1 : World, Upd (fun _ => False) w w1 → LeadsTo w (w1.alloc (.cells (madeCells (Value.map none).cells (n * 1)) 37)) w1.heap.size n g [] := fun w1 hu => ⟨hu.size, by rw [hcs]; exact Blk.new _ _ _, fun i b h => by simp at h, hu.trans (Upd.alloc _ _ _)⟩
    have hrb : ∀ w1 : World, Blk (w1.alloc (.cells (madeCells (Value.bool false).cells (n * 1)) 4)) w1.heap.size 4 (boolArr n (fun _ => false)) := fun w1 => by rw [hcs2]; exact Blk.new _ _ _
    have HRL := hide hrl
    have HRB := hide hrb
    generalize madeCells (Value.map none).cells (n * 1) = cs at hmake HRL
    generalize madeCells (Value.bool false).cells (n * 1) = cs2 at hmakb HRB
    have HG := hide hg
    have HMK := hide hmake
    have HMB := hide hmakb
    clear hw hgl hes hk hok he hg hcs hcs2 hrl hrb hmake hmakb
    go_enter Try.func14, Try.ntmps14
    go_wp2_with (go_at_call 18; refine HWR.out.mono ?_; rintro e w1 ⟨rfl, hu1⟩; have HU1 := hide hu1; have hmk1 := HMK.out w1; clear hu1)
    have HL0 := hide (HRL.out w1 HU1.out)
    go_loopw [20] (fun iv wr => ∃ (k : Nat) (mbs : List Nat), k ≤ n ∧ iv = .int .i64 k ∧ Hid (k = mbs.length) ∧ Hid (LeadsTo w wr w1.heap.size n g mbs)) (fun iv _ => n - (intOf iv).toNat)
    case atStart => exact ⟨0, [], Nat.zero_le _, rfl, rfl, HL0.out⟩
    case round =>
      clear HL0
      obtain ⟨k, mbs, hk, rfl, HKM, HL⟩ := hrel
      by_cases hlt : k < n
      · have HRK := hide (HR.out wr k HL.out.2.2.2 hlt _ rfl)
        have HLA := hide (HL.out.keep (Upd.alloc (fun _ => False) wr (.cells #[.int .i64 (k : Int)] 3)))
        have hkn : (k : Int) < (n : Int) := by omega
        go_wp2_with (go_at_call 19; refine HRK.out.mono ?_; rintro e w2 ⟨mb, rfl, HM2⟩; have HL2 := hide (HLA.out.keep HM2.out.2.2); have hcl : w2.cell? ⟨w1.heap.size, k, none⟩ = some (.map none) := (by rw [HL2.out.2.1.cell, HKM.out]; exact mapsPart_get (by rw [← HKM.out]; exact hlt)); have hfr := HL2.out.2.1.free k)
        go_roundw
        case rel => exact ⟨k + 1, mbs ++ [mb], by omega, by go_num, by show _ = _; rw [HKM.out]; simp, HL2.out.next HKM.out hlt HM2.out.2.1⟩
        case measure => simp [intOf]; omega
      · obtain rfl : k = n := by omega
        have HLD := hide (HL.out.all HGL.out HKM.out.symm)
        have hmkb := HMB.out wr
        have hgw : GW w (wr.alloc (.cells cs2 4)) w1.heap.size wr.heap.size k 0 none 0 g mbs (fun _ => false) [] [] :=
          ⟨HLD.out.keep (Upd.alloc _ _ _), HRB.out wr, HL.out.2.2.2.trans (Upd.alloc _ _ _), HL.out.2.2.2.size, World.ownsRow_nil _ _ _ _, ⟨rfl, fun i ys h => by simp at h⟩, rfl⟩
        have HGW := hide hgw
        have hdlt : Hid (wr.heap.size < wr.heap.size + 1) := Nat.lt_succ_self _
        have HC0 : Hid (0 + cntF k (fun _ => false) = k) := by show _ = _; rw [cntF_none, Nat.zero_add]
        have HG0 := hide (GrpSt.start g)
        clear hgw HL HRL HRB HMK HR
        go_wp2_with fail
        generalize wr.heap.size = db at HGW hdlt ⊢
        go_loopw [7, 8] (fun gv cv w2 => ∃ (done : Nat → Bool) (gs : List (List Int)) (vals : List Value) (cnt m : Nat) (A1 : Option Addr) (c1 : Nat), cnt ≤ k ∧ m ≤ cnt ∧ gv = .slice A1 m c1 ∧ cv = .int .i64 cnt ∧ Hid (cnt + cntF k done = k) ∧ Hid (GrpSt g done gs) ∧ Hid (GW w w2 w1.heap.size db k m A1 c1 g mbs done gs vals)) (fun _ cv _ => k - (intOf cv).toNat)
        case atStart => exact ⟨fun _ => false, [], [], 0, 0, none, 0, Nat.zero_le _, Nat.zero_le _, rfl, rfl, HC0.out, HG0.out, HGW.out⟩
        case round =>
          clear HGW HC0 HG0
          obtain ⟨done, gs, vals, cnt, m, A1, c1, hck, hmc, rfl, rfl, HCN, HGS, HW⟩ := hrel
          by_cases hlt2 : cnt < k
          · have hc0 : cntF g.length done ≠ 0 := by
              have h1 := HCN.out
              have h2 := HGL.out
              rw [← h2]; omega
            obtain ⟨k0, hk0, hd0, hr0⟩ := GrpSt.some (gs := gs) HOK.out hc0
            have hk0' : k0 < k := by have := HGL.out; omega
            have HK0 : Hid (done k0 = false ∧ readyB g done k0 = true) := ⟨hd0, hr0⟩
            have hq : ∀ (w : World) (a : Option Addr) (n c n' c' : Nat), (binOp .eql 23 (.slice a n c) (.slice none n' c')).run Try.prog w = .ok (.bool a.isNone) w := fun w a n c n' c' => Lib.run_eql_slice_nil w _ _ a n c n' c' Try.underlying23
            clear hc0 hk0 hd0 hr0
            go_wp2_with fail
            go_loopw [9, 10] (fun gv kv w3 => ∃ (j : Nat) (B : Option Addr) (p cp : Nat), j ≤ k0 + 1 ∧ gv = .slice B p cp ∧ kv = .int .i64 j ∧ Hid (GW w w3 w1.heap.size db k m A1 c1 g mbs done gs vals) ∧ Hid (Fnd g done k0 w w3 B p cp j)) (fun _ kv _ => k0 + 1 - (intOf kv).toNat)
            case atStart => exact ⟨0, none, 0, 0, Nat.zero_le _, rfl, rfl, HW.out, .inl ⟨rfl, fun i h => absurd h (by omega)⟩⟩
            case round =>
              clear HW
              obtain ⟨j, B, p, cp, hjk, rfl, rfl, HW, HF⟩ := hrel
              rcases HF.out with ⟨hB, hno⟩ | ⟨j', hj', hjk', ⟨ad, hB⟩, hdj, hrj, hno, hp, hown⟩
              · subst hB
                have hjk2 : j ≤ k0 := by
                  apply Classical.byContradiction
                  intro h
                  rcases hno k0 (by omega) with h1 | h1
                  · rw [HK0.out.1] at h1; simp at h1
                  · rw [HK0.out.2] at h1; simp at h1
                have HNO := hide hno
                have hjn : j < k := by omega
                have hjn' : (j : Int) < (k : Int) := by omega
                have hbd := HW.out.blk.cell j
                rw [boolArr_get hjn] at hbd
                clear hno HF
                cases hdj : done j
                · rw [hdj] at hbd
                  have hrd := ready_any HW.out.leads HW.out.blk HOK.out HGL.out hjn hn1000
                  have HDJ := hide hdj
                  clear hdj
                  cases hrj : readyB g done j
                  · have e : readyR g done j = none := by unfold readyR; rw [hrj]; rfl
                    rw [e] at hrd
                    have HRD := hide hrd
                    have HRJ := hide hrj
                    clear e hrj hrd
                    go_wp2_with (go_at_call 23; refine HRD.out.mono ?_; rintro e w4 ⟨rfl, hu⟩; have HU := hide hu; clear hu)
                    go_roundw
                    case rel =>
                      refine ⟨j + 1, none, 0, 0, by omega, rfl, by go_num, HW.out.keep HU.out, .inl ⟨rfl, fun i hi => ?_⟩⟩
                      by_cases hij : i < j
                      · exact HNO.out i hij
                      · obtain rfl : i = j := by omega
                        exact .inr HRJ.out
                    case measure => simp [intOf]; omega
                  · have e : readyR g done j = some (classL g j) := by unfold readyR; rw [hrj]; rfl
                    rw [e] at hrd
                    have HRD := hide hrd
                    have HRJ := hide hrj
                    have HCP : Hid (0 < (classL g j).length) := List.length_pos_of_mem (class_self (by have := HGL.out; omega))
                    clear e hrj hrd
                    go_wp2_with (go_at_call 23; refine HRD.out.mono ?_; rintro e w4 ⟨A3, p3, c3, rfl, HP3, HO3⟩)
                    go_roundw
                    case rel =>
                      refine ⟨j + 1, A3, p3, c3, by omega, rfl, by go_num, HW.out.keep HO3.out.2, .inr ⟨j, rfl, hjk2, ?_, HDJ.out, HRJ.out, HNO.out, HP3.out, own_base HO3.out.1 HW.out.upd.size⟩⟩
                      obtain ⟨A4, c4, hv, _, _, _, _, hA⟩ := own_form HO3.out.1
                      obtain ⟨ga, hga⟩ := own_some HO3.out.1 (by rw [HP3.out]; exact HCP.out)
                      obtain ⟨hAg, _⟩ := hA ga hga
                      injection hv with hv1
                      exact ⟨_, hv1.trans hAg⟩
                    case measure => simp [intOf]; omega
                · rw [hdj] at hbd
                  have HDJ := hide hdj
                  clear hdj
                  go_wp2_with fail
                  go_roundw
                  case rel =>
                    refine ⟨j + 1, none, p, cp, by omega, rfl, by go_num, HW.out, .inl ⟨rfl, fun i hi => ?_⟩⟩
                    by_cases hij : i < j
                    · exact HNO.out i hij
                    · obtain rfl : i = j := by omega
                      exact .inl HDJ.out
                  case measure => simp [intOf]; omega
              · subst hB hj'
                have HNO := hide hno
                have HDJ := hide hdj
                have HRJ := hide hrj
                have HPP := hide hp
                have HO := hide hown
                have HCN2 := hide (cntF_addL (n := g.length) (classL g j') done (class_nodup g j') (class_fresh HGS.out.ok hdj))
                have HCP : Hid (0 < (classL g j').length) := List.length_pos_of_mem (class_self (by have := HGL.out; omega))
                have hpn : cnt + p ≤ k := by have h1 := HCN2.out; have h2 := HGL.out; have h3 := HCN.out; rw [← h2] at h1; omega
                clear hno hdj hrj hp hown HF
                go_wp2_with fail
                go_loopw [53] (fun iv w4 => ∃ t : Nat, t ≤ p ∧ iv = .int .i64 t ∧ Hid (GW w w4 w1.heap.size db k m A1 c1 g mbs (addL done ((classL g j').take t)) gs vals) ∧ Hid (w4.ownsRow w.heap.size 3 1 (.slice (some ad) p cp) p ((classL g j').map (.int .i64)))) (fun iv _ => p - (intOf iv).toNat)
                case atStart => exact ⟨0, Nat.zero_le _, rfl, by rw [List.take_zero, addL_nil]; exact HW.out, HO.out⟩
                case round =>
                  clear HW HO
                  obtain ⟨t, htp, rfl, HW, HO⟩ := hrel
                  by_cases htlt : t < p
                  · obtain ⟨gb, go, gs', x, hae, hxe, hxc⟩ := (Rd.of_own HO.out).get HPP.out htlt
                    injection hae with hae
                    subst hae
                    have hxm : x ∈ classL g j' := by rw [hxe]; exact List.getElem_mem _
                    obtain ⟨hx0, hx1, _⟩ := class_mem.1 hxm
                    obtain ⟨i, rfl⟩ := Int.eq_ofNat_of_zero_le hx0
                    have hik : i < k := by have := HGL.out; omega
                    have hbc := HW.out.blk.cell i
                    rw [boolArr_get hik] at hbc
                    have hfr := HW.out.blk.free i
                    have HXE := hide hxe
                    clear hxe hxm hx0 hx1
                    go_wp2_with fail
                    go_roundw
                    case rel =>
                      refine ⟨t + 1, by omega, by go_num, ?_, (Upd.set (S := fun q => q = db) _ _ _ rfl).own HO.out (fun q hq e => own_ne_blk HO.out HW.out.blk (by decide) q hq e)⟩
                      have h := HW.out.mark i
                      have h2 := HPP.out
                      show GW _ _ _ _ _ _ _ _ _ _ _ _ _
                      rw [List.take_succ_eq_append_getElem (by omega), addL_snoc, ← HXE.out, Int.toNat_natCast]
                      exact h
                    case measure => simp [intOf]; omega
                  · have hwl := HW.out.upd.size
                    have htk : (classL g j').take t = classL g j' := List.take_of_length_le (by have := HPP.out; omega)
                    rw [htk] at HW
                    have HWA := hide (HW.out.keep (Upd.alloc (fun _ => False) wr (.cells #[.slice (some ad) p cp] 23)))
                    clear htk
                    have HOA := hide ((Upd.alloc (fun _ => False) wr (.cells #[.slice (some ad) p cp] 23)).own HO.out (fun _ _ h => h))
                    have hp0 : 0 < p := by have h1 := HCP.out; have h2 := HPP.out; omega
                    go_wp2_with (at_builtin; refine wpList_app (v := .slice A1 m c1) (u := .slice (some ⟨wr.heap.size, 0, none⟩) 1 1) Try.rows rfl (.tmp 61) (.tmp 63) rfl rfl HWA.out.own rfl (Rd.new1 _ (.slice (some ad) p cp) 23 rfl) (by simp [Value.oneCell']) (m + 1) rfl (by omega) (by omega) (by simp; omega) ?_; intro A2 c2 w5 own5 u5 at5 ne5; have HW5 := hide (HWA.out.app HPP.out HOA.out own5 u5); clear own5 u5 at5 ne5)
                    go_roundw
                    case rel =>
                      refine ⟨addL done (classL g j'), gs ++ [classL g j'], vals ++ [Value.slice (some ad) p cp], cnt + p, m + 1, A2, c2, hpn, by omega, rfl, by go_num, ?_, HGS.out.next HOK.out (by have := HGL.out; omega) HDJ.out HRJ.out HNO.out, HW5⟩
                      have h1 := HCN2.out
                      have h2 := HGL.out
                      have h3 := HCN.out
                      have h4 := HPP.out
                      rw [← h2] at h1
                      show _ = _
                      omega
                    case measure => simp [intOf]; omega
          · have hcnt : cnt = k := by omega
            have HGA : Hid (gs = groupsAll g) := HGS.out.done (by have h1 := HCN.out; have h2 := HGL.out; rw [← h2]; omega)
            go_wp2_with fail
            go_ret2
            rw [HE.out, ← HGA.out]
            exact ⟨A1, m, c1, rfl, HW.out.num, HW.out.read HGS.out.is (by have := HGL.out; omega), HW.out.upd⟩
  · have HE : Hid (groupsR g = none) := by show _ = _; unfold groupsR; rw [hw]; rfl
    rw [hw] at HWR
    clear hw he hg hl
    go_enter Try.func14, Try.ntmps14
    go_wp2_with (go_at_call 18; refine HWR.out.mono ?_; rintro e w1 ⟨rfl, hu1⟩; have HU1 := hide hu1; clear hu1)
    go_ret2
    rw [HE.out]
    exact ⟨rfl, HU1.out⟩
end Go.Proofs.Ytlfjmppmclgjnaa
