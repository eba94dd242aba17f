/- 'GraphParts', walked. -/
import Derived.Test.YtlfjmppmclgjnaaPT
import Derived.Test.YtlfjmppmclgjnaaGpW
import Derived.Test.YtlfjmppmclgjnaaGrW
namespace Go.Proofs.Ytlfjmppmclgjnaa
open Go.RowKit

theorem make_ints (w : World) (s : Nat) (hs : s ≤ 100000) : (Instr.makeSlice 23 (.int .i64 (s : Int)) (.int .i64 (s : Int))).run Try.prog w = .ok (.slice (some ⟨w.heap.size, 0, none⟩) s s) (w.alloc (.cells (madeCells (Value.int .i64 0).cells (s * 1)) 3)) := by
  obtain ⟨i, hi0, hi1, hi2, hi3⟩ := info_parts Try.ints.hi
  have hb' : (i.bytes : Int) * (s : Int) ≤ 281474976710656 := by
    rw [hi3]
    omega
  have hrun := run_make (P := Try.prog) w 23 3 i _ Try.ints.ht hi0 hi1 .i64 .i64 s s (by omega) (by omega) hb' (by omega)
  rw [hi2] at hrun
  simpa only [Int.toNat_natCast] using hrun

/-- Numbers of things as a row of ints. -/
def intArr (n : Nat) (f : Nat → Nat) : Array Value := ((List.range n).map fun i => Value.int .i64 (f i : Int)).toArray

theorem intArr_get {n : Nat} {f : Nat → Nat} {i : Nat} (h : i < n) : (intArr n f)[i]? = some (.int .i64 (f i : Int)) := by
  simp [intArr, h]

theorem intArr_set {n : Nat} {f : Nat → Nat} (i v : Nat) : (intArr n f).setIfInBounds i (.int .i64 (v : Int)) = intArr n (fun y => if y = i then v else f y) := by
  apply Array.ext_getElem?
  intro j
  rw [Array.getElem?_setIfInBounds]
  by_cases hj : i = j
  · subst hj
    by_cases hi : i < n
    · rw [if_pos rfl, if_pos (by simpa [intArr] using hi), intArr_get hi]; simp
    · rw [if_pos rfl, if_neg (by simpa [intArr] using hi), Array.getElem?_eq_none (by simpa [intArr] using hi)]
  · rw [if_neg hj]
    by_cases hi : j < n
    · rw [intArr_get hi, intArr_get hi, if_neg (fun e => hj e.symm)]
    · rw [Array.getElem?_eq_none (by simpa [intArr] using hi), Array.getElem?_eq_none (by simpa [intArr] using hi)]

/-- What lies about while the things are numbered. -/
def NumW (w2 wr : World) (ab n : Nat) (f : Nat → Nat) : Prop := w2.heap.size ≤ ab ∧ Upd (fun _ => False) w2 wr ∧ Blk wr ab 3 (intArr n f)

theorem NumW.keep {w2 wr w' : World} {ab n : Nat} {f : Nat → Nat} (h : NumW w2 wr ab n f) (hu : Upd (fun _ => False) wr w') : NumW w2 w' ab n f := ⟨h.1, h.2.1.trans hu, hu.blk h.2.2 (fun h => h)⟩

theorem NumW.set {w2 wr : World} {ab n : Nat} {f : Nat → Nat} (h : NumW w2 wr ab n f) (i v : Nat) : NumW w2 (wr.setCell ⟨ab, i, none⟩ (.int .i64 (v : Int))) ab n (fun y => if y = i then v else f y) :=
  ⟨h.1, h.2.1.extend (Upd.set (S := fun q => q = ab) _ _ _ rfl) fun q hq => .inr (by subst hq; exact h.1), by rw [← intArr_set]; exact h.2.2.set i _⟩

def lsum (gs : List (List Int)) (i : Nat) : Nat := ((gs.take i).map List.length).sum

theorem lsum_succ {gs : List (List Int)} {i : Nat} {xs : List Int} (h : gs[i]? = some xs) : lsum gs (i + 1) = lsum gs i + xs.length := by
  obtain ⟨hi, rfl⟩ := List.getElem?_eq_some_iff.1 h
  unfold lsum
  rw [List.take_succ_eq_append_getElem hi, List.map_append, List.sum_append]
  simp

theorem lsum_le (gs : List (List Int)) (i : Nat) : lsum gs i ≤ (gs.map List.length).sum := by
  unfold lsum
  have h := List.take_append_drop i gs
  have : (gs.map List.length).sum = ((gs.take i).map List.length).sum + ((gs.drop i).map List.length).sum := by
    rw [← List.sum_append, ← List.map_append, h]
  omega

theorem lsum_all (gs : List (List Int)) : lsum gs gs.length = (gs.map List.length).sum := by unfold lsum; rw [List.take_length]

theorem lsum_row {g gs : List (List Int)} (hp : Parts g gs) {i : Nat} {xs : List Int} (h : gs[i]? = some xs) : lsum gs i + xs.length ≤ g.length := by
  rw [← lsum_succ h, ← hp.count]; exact lsum_le _ _

set_option maxRecDepth 100000 in
set_option maxHeartbeats 4000000 in
theorem parts_walk {w : World} {A : Option Addr} {n c : Nat} {g : List (List Int)} (hg : GRd w A n g) (hl : n ≤ 9223372036854775807) :
    Calls Try.prog 5 #[.slice A n c] w (BoolN w true) := by
  have HAW := hide (awake_any (w := w))
  have hgl := hg.1
  have HFW : Hid (∀ w1, Upd (fun _ => False) w w1 → Calls Try.prog 10 #[.slice A n c, .int .i64 60] w1 fun e w' => e = .returned (.bool (fewB g 60)) ∧ w1 = w') := fun w1 hu => few_any (N := 60) (hg.keep hu) hl
  cases hf : fewB g 60
  · rw [hf] at HFW
    clear hg hgl hf
    go_enter Try.func5, Try.ntmps5
    go_wp2_with (first | (go_at_call 9; refine HAW.out.mono ?_; rintro e w1 ⟨rfl, hu⟩; have HU1 := hide hu; clear hu) | (go_at_call 10; refine (HFW.out w1 HU1.out).mono ?_; rintro e w2 ⟨rfl, rfl⟩))
    go_ret
    exact ⟨rfl, HU1.out⟩
  · rw [hf] at HFW
    have hfe := few_edges hf
    have HR : Hid (∀ w1, Upd (fun _ => False) w w1 → Calls Try.prog 14 #[.slice A n c] w1 (ListsN w1 (groupsR g))) := fun w1 hu => groups_any (hg.keep hu) hl fun _ => by omega
    cases hw : wrongB g []
    · have hrr : groupsR g = some (groupsAll g) := by unfold groupsR; rw [hw]; rfl
      obtain ⟨_, _, hok⟩ := wrong_false hw
      have hn60 : n ≤ 60 := by omega
      have HRE : Hid (∀ (w4 : World) (x : Nat), Upd (fun _ => False) w w4 → x < n → ∀ b, b = w4.heap.size → Calls Try.prog 11 #[.slice A n c, .slice (some ⟨b, 0, none⟩) 1 1] (w4.alloc (.cells #[.int .i64 (x : Int)] 3)) (ListN (w4.alloc (.cells #[.int .i64 (x : Int)] 3)) (some (reachL g [(x : Int)])))) := by
        rintro w4 x hu hx b rfl
        have hre : reachR g [(x : Int)] = some (reachL g [(x : Int)]) := by
          unfold reachR
          have : wrongB g [(x : Int)] = false := by
            unfold wrongB at hw ⊢
            simp only [List.any_nil, Bool.or_false, Bool.or_eq_false_iff] at hw
            simp only [List.any_cons, List.any_nil, Bool.or_false, Bool.or_eq_false_iff]
            exact ⟨⟨hw.1, by unfold badB; simp; omega⟩, hw.2⟩
          rw [this]; rfl
        have := gReach_any (c := c) (c' := 1) (S := [(x : Int)]) (hg.keep (hu.trans (Upd.alloc (fun _ => False) w4 (.cells #[.int .i64 (x : Int)] 3)))) hl (Rd.new1 _ (.int .i64 (x : Int)) _ rfl) rfl (by omega) (fun _ => by omega)
        rw [hre] at this
        exact this
      rw [hrr] at HR
      have HPT := hide (groups_parts hok)
      have HOK := hide hok
      have HGL := hide hgl
      have HG := hide hg
      have hgc := groupsR_count hrr
      have HLS := hide (groupsR_len hrr)
      generalize groupsAll g = gs at HR HPT HLS hgc
      have hmk := fun w1 : World => make_ints w1 n (by omega)
      have hcs : madeCells (Value.int .i64 0).cells (n * 1) = intArr n (fun _ => 0) := by
        rw [Nat.mul_one]
        refine (madeList _ _).trans ?_
        unfold intArr
        congr 1
        rw [List.map_const']
        simp
      have hrb : ∀ w1 : World, NumW w1 (w1.alloc (.cells (madeCells (Value.int .i64 0).cells (n * 1)) 3)) w1.heap.size n (fun _ => 0) := fun w1 => ⟨Nat.le_refl _, Upd.alloc _ _ _, by rw [hcs]; exact Blk.new _ _ _⟩
      have HRB := hide hrb
      generalize madeCells (Value.int .i64 0).cells (n * 1) = cs at hmk HRB
      have HMK := hide hmk
      clear hg hgl hf hw hrr hok hfe hcs hrb hmk
      go_enter Try.func5, Try.ntmps5
      go_wp2_with (first | (go_at_call 9; refine HAW.out.mono ?_; rintro e w1 ⟨rfl, hu⟩; have HU1 := hide hu; clear hu) | (go_at_call 10; refine (HFW.out w1 HU1.out).mono ?_; rintro e w2 ⟨rfl, rfl⟩) | (go_at_call 14; refine (HR.out w1 HU1.out).mono ?_; rintro e w2 ⟨A2, m, c2, rfl, HN2, HO2⟩; have HU2 := hide (HU1.out.trans HO2.out.2); have hmk := HMK.out w2))
      obtain rfl : m = gs.length := HN2.out
      have HB0 := hide (HRB.out w2)
      have hlt : Hid (w2.heap.size < w2.heap.size + 1) := Nat.lt_succ_self _
      clear hmk HMK HRB
      generalize w2.heap.size = ab at HB0 hlt ⊢
      go_loopw [7, 8] (fun mv iv wr => ∃ (i t : Nat) (f : Nat → Nat), i ≤ gs.length ∧ t ≤ 60 ∧ iv = .int .i64 i ∧ mv = .int .i64 t ∧ Hid (t = lsum gs i) ∧ Hid (AtSt gs i 0 f) ∧ Hid (NumW w2 wr ab n f)) (fun _ iv _ => gs.length - (intOf iv).toNat)
      case atStart => exact ⟨0, 0, fun _ => 0, Nat.zero_le _, by omega, rfl, rfl, rfl, AtSt.start gs, HB0.out⟩
      case round =>
        clear HB0
        obtain ⟨i, t, f, hi, ht, rfl, rfl, HT, HA, HW⟩ := hrel
        by_cases hlt : i < gs.length
        · obtain ⟨ys, gb, go, sp, a, m, kk, hys, hA2, hcc, hrr, hm, hml⟩ := HO2.out.1.row hlt
          subst hA2
          have HYS := hide hys
          have hrow := lsum_row HPT.out hys
          rw [← hm, ← HGL.out] at hrow
          have HROW : Hid (lsum gs i + m ≤ n) := hrow
          have HM := hide hm
          have HCL : Hid (∀ w5, Upd (fun _ => False) w2 w5 → w5.cell? ((⟨gb, go, sp⟩ : Addr).add i) = some (.slice a m kk) ∧ Rd w5 (.slice a m kk) 1 m (ys.map (.int .i64))) := fun w5 hu => ⟨cell_upd hu hcc, hrr.keep hu (fun _ _ h => h)⟩
          clear hys hrow hm hcc hrr
          go_wp2_with fail
          go_loopw [7, 9] (fun mv kv w3 => ∃ (k t : Nat) (f : Nat → Nat), k ≤ m ∧ t ≤ 60 ∧ kv = .int .i64 k ∧ mv = .int .i64 t ∧ Hid (t = lsum gs i + k) ∧ Hid (AtSt gs i k f) ∧ Hid (NumW w2 w3 ab n f)) (fun _ kv _ => m - (intOf kv).toNat)
          case atStart => exact ⟨0, t, f, Nat.zero_le _, ht, rfl, rfl, HT.out, HA.out, HW.out⟩
          case round =>
            clear HA HW HT
            obtain ⟨k, t, f, hk, ht, rfl, rfl, HT, HA, HW⟩ := hrel
            obtain ⟨hci, hrd⟩ := HCL.out wr HW.out.2.1
            have HRD := hide hrd
            clear hrd
            by_cases hkm : k < m
            · obtain ⟨yb, yo, ysp, x, rfl, hxe, hxc⟩ := HRD.out.get HM.out hkm
              have hkl : k < ys.length := by have := HM.out; omega
              have hxm : x ∈ ys := by rw [hxe]; exact List.getElem_mem _
              obtain ⟨k0, hk0, hyc⟩ := HPT.out.is ys (List.mem_of_getElem? HYS.out)
              have hxm2 : x ∈ classL g k0 := by rw [← hyc]; exact hxm
              obtain ⟨hx0, hx1, _⟩ := class_mem.1 hxm2
              have HHD := hide (reach_class hxm2)
              rw [← hyc] at HHD
              obtain ⟨xx, rfl⟩ := Int.eq_ofNat_of_zero_le hx0
              have hxn : xx < n := by have := HGL.out; omega
              have hfx := HA.out.fresh HPT.out HYS.out hkl hxe
              have hbc := HW.out.2.2.cell xx
              rw [intArr_get hxn, hfx] at hbc
              have hfr := HW.out.2.2.free xx
              have HA3 := hide (HA.out.mark HYS.out hkl hxe)
              have HW3 := hide (HW.out.set xx (i + 1))
              have e1 : ((i + 1 : Nat) : Int) = (i : Int) + 1 := by omega
              rw [e1] at HW3
              have HLN : Hid ((reachL g [(xx : Int)]).length ≤ 60) := Nat.le_trans (reachL_le g _) (by have := HGL.out; omega)
              have HYL : Hid (m ≤ 1000) := by have := HLS.out ys (List.mem_of_getElem? HYS.out); have h2 := HM.out; show m ≤ 1000; omega
              have htn : t + 1 ≤ 60 := by have h1 := HT.out; have h2 := HROW.out; omega
              clear hxe hxm hyc hxm2 hx0 hx1 hfx e1 hk0 hkl HRD
              go_wp2_with (first | (go_at_call 11; refine (HRE.out _ xx (HU2.out.trans HW3.out.2.1) hxn _ (by simp)).mono ?_; rintro e w5 ⟨A5, n5, c5, rfl, HN5, HO5⟩; have HW5 := hide ((HW3.out.keep (Upd.alloc (fun _ => False) _ (.cells #[.int .i64 (xx : Int)] 3))).keep HO5.out.2); have hc5 := (HCL.out w5 HW5.out.2.1).1; have HR5 := hide (HCL.out w5 HW5.out.2.1).2) | (go_at_call 16; refine (grows_holds (Rd.of_own HO5.out.1) HN5.out HR5.out HM.out (by have h1 := HLN.out; have h2 := HN5.out; omega) HYL.out HHD.out).mono ?_; rintro e w6 ⟨rfl, q, rfl⟩; have HW6 := hide (HW5.out.keep (Upd.drewN _ _ q))))
              go_roundw
              case rel => exact ⟨k + 1, t + 1, _, by omega, htn, by go_num, by go_num, by show _ = _; rw [HT.out]; omega, HA3.out, HW6.out⟩
              case measure => simp [intOf]; omega
            · obtain rfl : k = m := by omega
              have HA4 := hide (HA.out.next HYS.out (by have := HM.out; omega))
              have HT4 : Hid (t = lsum gs (i + 1)) := by show _ = _; rw [lsum_succ HYS.out, ← HM.out, HT.out]
              go_wp2_with fail
              go_roundw
              case rel => exact ⟨i + 1, t, f, by omega, ht, by go_num, rfl, HT4.out, HA4.out, HW.out⟩
              case measure => simp [intOf]; omega
        · obtain rfl : i = gs.length := by omega
          obtain rfl : t = n := by rw [HT.out, lsum_all, HPT.out.count, HGL.out]
          have HGW := hide (HG.out.keep HU2.out)
          have HLE : Hid (∀ x y : Nat, x < g.length → (y : Int) ∈ adj g x → f y ≤ f x) := fun x y hx hy => by
            have := HA.out.le HOK.out HPT.out hx hy
            simpa using this
          clear HT HA hlt
          go_wp2_with fail
          go_loopw [13] (fun iv w3 => ∃ i : Nat, i ≤ t ∧ iv = .int .i64 i ∧ Hid (NumW w2 w3 ab t f)) (fun iv _ => t - (intOf iv).toNat)
          case atStart => exact ⟨0, Nat.zero_le _, rfl, HW.out⟩
          case round =>
            clear HW
            obtain ⟨i, hi, rfl, HW⟩ := hrel
            by_cases hit : i < t
            · obtain ⟨ys, gb, go, sp, a, m, kk, hys, hA2, hcc, hrr, hm, hml⟩ := HGW.out.row hit
              subst hA2
              have HYS := hide hys
              have HM := hide hm
              have HCL : Hid (∀ w5, Upd (fun _ => False) w2 w5 → w5.cell? ((⟨gb, go, sp⟩ : Addr).add i) = some (.slice a m kk) ∧ Rd w5 (.slice a m kk) 1 m (ys.map (.int .i64))) := fun w5 hu => ⟨cell_upd hu hcc, hrr.keep hu (fun _ _ h => h)⟩
              clear hys hm hcc hrr
              go_wp2_with fail
              go_loopw [14] (fun kv w3 => ∃ k : Nat, k ≤ m ∧ kv = .int .i64 k ∧ Hid (NumW w2 w3 ab t f)) (fun kv _ => m - (intOf kv).toNat)
              case atStart => exact ⟨0, Nat.zero_le _, rfl, HW.out⟩
              case round =>
                clear HW
                obtain ⟨k, hk, rfl, HW⟩ := hrel
                obtain ⟨hci, hrd⟩ := HCL.out wr HW.out.2.1
                have HRD := hide hrd
                clear hrd
                by_cases hkm : k < m
                · obtain ⟨yb, yo, ysp, x, rfl, hxe, hxc⟩ := HRD.out.get HM.out hkm
                  have hxm : x ∈ adj g i := by rw [adj_get HYS.out, hxe]; exact List.getElem_mem _
                  obtain ⟨hx0, hx1⟩ := adj_ok HOK.out hxm
                  obtain ⟨xx, rfl⟩ := Int.eq_ofNat_of_zero_le hx0
                  have hxn : xx < t := by have := HGL.out; omega
                  have hle := HLE.out i xx (by have := HGL.out; omega) hxm
                  have hb1 := HW.out.2.2.cell xx
                  rw [intArr_get hxn] at hb1
                  have hb2 := HW.out.2.2.cell i
                  rw [intArr_get hit] at hb2
                  have hle2 : decide ((f i : Int) < (f xx : Int)) = false := by simp; omega
                  generalize (f i : Int) = u at hb2 hle2
                  generalize (f xx : Int) = v at hb1 hle2
                  clear hxe hxm hx0 hx1 hle HRD
                  go_wp2_with fail
                  go_quiet (fail)
                  go_wp2_with fail
                  go_roundw
                  case rel => exact ⟨k + 1, by omega, by go_num, HW.out.keep (Upd.drewN _ _ _)⟩
                  case measure => simp [intOf]; omega
                · go_wp2_with fail
                  go_roundw
                  case rel => exact ⟨i + 1, by omega, by go_num, HW.out⟩
                  case measure => simp [intOf]; omega
            · go_wp2_with fail
              go_ret
              exact ⟨rfl, HU2.out.trans HW.out.2.1⟩
    · have hrr : groupsR g = none := by unfold groupsR; rw [hw]; rfl
      rw [hrr] at HR
      clear hg hgl hf hw hrr hfe
      go_enter Try.func5, Try.ntmps5
      go_wp2_with (first | (go_at_call 9; refine HAW.out.mono ?_; rintro e w1 ⟨rfl, hu⟩; have HU1 := hide hu; clear hu) | (go_at_call 10; refine (HFW.out w1 HU1.out).mono ?_; rintro e w2 ⟨rfl, rfl⟩) | (go_at_call 14; refine (HR.out w1 HU1.out).mono ?_; rintro e w2 ⟨rfl, hu⟩; have HU2 := hide (HU1.out.trans hu); clear hu))
      go_ret
      exact ⟨rfl, HU2.out⟩

end Go.Proofs.Ytlfjmppmclgjnaa
