/- 'together', walked. -/
import Derived.Test.YtlfjmppmclgjnaaTuP
import Derived.Test.YtlfjmppmclgjnaaPTw
import Derived.Test.YtlfjmppmclgjnaaRegion
import Derived.Laws.BytesArg
namespace Go.Proofs.Ytlfjmppmclgjnaa
open Go.RowKit

theorem Try.bytes : ElemOk Try.prog 45 5 (.int .u8 0) 1 1 := ⟨Try.underlying45, by kernel_rfl, rfl, by decide⟩

theorem make_bytes (w : World) (s : Nat) (hs : s ≤ 100000) : (Instr.makeSlice 45 (.int .i64 (s : Int)) (.int .i64 (s : Int))).run Try.prog w = .ok (.slice (some ⟨w.heap.size, 0, none⟩) s s) (w.alloc (.cells (madeCells (Value.int .u8 0).cells (s * 1)) 5)) := by
  obtain ⟨i, hi0, hi1, hi2, hi3⟩ := info_parts Try.bytes.hi
  have hb' : (i.bytes : Int) * (s : Int) ≤ 281474976710656 := by
    rw [hi3]
    omega
  have hrun := run_make (P := Try.prog) w 45 5 i _ Try.bytes.ht hi0 hi1 .i64 .i64 s s (by omega) (by omega) hb' (by omega)
  rw [hi2] at hrun
  simpa only [Int.toNat_natCast] using hrun

/-- Numbers of things as a row of bytes. -/
def byArr (n : Nat) (f : Nat → Int) : Array Value := ((List.range n).map fun i => Value.int .u8 (f i)).toArray

theorem byArr_get {n : Nat} {f : Nat → Int} {i : Nat} (h : i < n) : (byArr n f)[i]? = some (.int .u8 (f i)) := by
  simp [byArr, h]

theorem byArr_set {n : Nat} {f f' : Nat → Int} (i : Nat) (v : Int) (hf : ∀ y, f' y = if y = i then v else f y) : (byArr n f).setIfInBounds i (.int .u8 v) = byArr n f' := by
  apply Array.ext_getElem?
  intro j
  rw [Array.getElem?_setIfInBounds]
  by_cases hj : i = j
  · subst hj
    by_cases hi : i < n
    · rw [if_pos rfl, if_pos (by simpa [byArr] using hi), byArr_get hi, hf, if_pos rfl]
    · rw [if_pos rfl, if_neg (by simpa [byArr] using hi), Array.getElem?_eq_none (by simpa [byArr] using hi)]
  · rw [if_neg hj]
    by_cases hi : j < n
    · rw [byArr_get hi, byArr_get hi, hf, if_neg (fun e => hj e.symm)]
    · rw [Array.getElem?_eq_none (by simpa [byArr] using hi), Array.getElem?_eq_none (by simpa [byArr] using hi)]

/-- The head of the group that bears a number. -/
def hdN (gs : List (List Int)) (t : Nat) : Int := if t = 0 then 0 else (gs.getD (t - 1) []).headD 0

theorem hdN_at {gs : List (List Int)} {i : Nat} {xs : List Int} (h : gs[i]? = some xs) : hdN gs (i + 1) = xs.headD 0 := by
  unfold hdN
  simp [List.getD_eq_getElem?_getD, h]

/-- What 'together' answers. -/
noncomputable def togS (g : List (List Int)) (n : Nat) : ByteArray := strOfNums ((List.range n).map (leastOf g))

theorem togS_same {g g' : List (List Int)} {n : Nat} (h : ∀ x, x < n → classL g' x = classL g x) : togS g' n = togS g n := by
  unfold togS
  congr 1
  apply List.map_congr_left
  intro x hx
  unfold leastOf
  rw [h x (List.mem_range.1 hx)]

def StrN (w : World) (s : ByteArray) (e : Ending) (w' : World) : Prop := e = .returned (.string s) ∧ Upd (fun _ => False) w w'

def ByW (w wr : World) (lb n : Nat) (f : Nat → Int) : Prop := w.heap.size ≤ lb ∧ Upd (fun _ => False) w wr ∧ Blk wr lb 5 (byArr n f)

theorem ByW.keep {w2 wr w' : World} {ab n : Nat} {f : Nat → Int} (h : ByW w2 wr ab n f) (hu : Upd (fun _ => False) wr w') : ByW w2 w' ab n f := ⟨h.1, h.2.1.trans hu, hu.blk h.2.2 (fun h => h)⟩

theorem ByW.set {w2 wr : World} {ab n : Nat} {f f' : Nat → Int} (h : ByW w2 wr ab n f) (i : Nat) (v : Int) (hf : ∀ y, f' y = if y = i then v else f y) : ByW w2 (wr.setCell ⟨ab, i, none⟩ (.int .u8 v)) ab n f' :=
  ⟨h.1, h.2.1.extend (Upd.set (S := fun q => q = ab) _ _ _ rfl) fun q hq => .inr (by subst hq; exact h.1), by rw [← byArr_set i v hf]; exact h.2.2.set i _⟩

set_option maxRecDepth 100000 in
set_option maxHeartbeats 4000000 in
theorem together_any {w : World} {A : Option Addr} {m c n : Nat} {g gs : List (List Int)} (hg : GRd w A m gs) (hp : Parts g gs) (hn : n = g.length) (hn40 : n ≤ 40) (hm : m ≤ 1000) :
    Calls Try.prog 17 #[.slice A m c, .int .i64 (n : Int)] w (StrN w (togS g n)) := by
  have hmk := make_bytes w n (by omega)
  have hcs : madeCells (Value.int .u8 0).cells (n * 1) = byArr n (fun _ => 0) := by
    rw [Nat.mul_one]
    refine (madeList _ _).trans ?_
    unfold byArr
    congr 1
    rw [List.map_const']
    simp
  have HRB : Hid (ByW w (w.alloc (.cells (madeCells (Value.int .u8 0).cells (n * 1)) 5)) w.heap.size n (fun _ => 0)) := ⟨Nat.le_refl _, Upd.alloc _ _ _, by rw [hcs]; exact Blk.new _ _ _⟩
  generalize madeCells (Value.int .u8 0).cells (n * 1) = cs at hmk HRB
  obtain rfl : m = gs.length := hg.1
  have HG := hide hg
  have HPT := hide hp
  have HGL := hide hn
  clear hcs hg hp hn
  go_enter Try.func17, Try.ntmps17
  go_wp2_with fail
  go_loopw [6] (fun iv wr => ∃ (i : Nat) (f : Nat → Nat), i ≤ gs.length ∧ iv = .int .i64 i ∧ Hid (AtSt gs i 0 f) ∧ Hid (ByW w wr w.heap.size n (fun y => hdN gs (f y)))) (fun iv _ => gs.length - (intOf iv).toNat)
  case atStart => exact ⟨0, fun _ => 0, Nat.zero_le _, rfl, AtSt.start gs, HRB.out⟩
  case round =>
    clear HRB
    obtain ⟨i, f, hi, rfl, HA, HW⟩ := hrel
    by_cases hlt : i < gs.length
    · obtain ⟨ys, gb, go, sp, a, m, kk, hys, hA2, hcc, hrr, hmm, hml⟩ := HG.out.row hlt
      subst hA2
      have HYS := hide hys
      have HM := hide hmm
      have HCL : Hid (∀ w5, Upd (fun _ => False) w w5 → w5.cell? ((⟨gb, go, sp⟩ : Addr).add i) = some (.slice a m kk) ∧ Rd w5 (.slice a m kk) 1 m (ys.map (.int .i64))) := fun w5 hu => ⟨cell_upd hu hcc, hrr.keep hu (fun _ _ h => h)⟩
      clear hys hmm hcc hrr
      go_wp2_with fail
      go_loopw [7] (fun kv w3 => ∃ (k : Nat) (f : Nat → Nat), k ≤ m ∧ kv = .int .i64 k ∧ Hid (AtSt gs i k f) ∧ Hid (ByW w w3 w.heap.size n (fun y => hdN gs (f y)))) (fun kv _ => m - (intOf kv).toNat)
      case atStart => exact ⟨0, f, Nat.zero_le _, rfl, HA.out, HW.out⟩
      case round =>
        clear HA HW
        obtain ⟨k, f, hk, rfl, HA, HW⟩ := hrel
        obtain ⟨hci, hrd⟩ := HCL.out wr HW.out.2.1
        have HRD := hide hrd
        clear hrd
        by_cases hkm : k < m
        · obtain ⟨yb, yo, ysp, x, rfl, hxe, hxc⟩ := HRD.out.get HM.out hkm
          have hkl : k < ys.length := by have := HM.out; omega
          have hxm : x ∈ ys := by rw [hxe]; exact List.getElem_mem _
          obtain ⟨k0, hk0, hyc⟩ := HPT.out.is ys (List.mem_of_getElem? HYS.out)
          have hxm2 : x ∈ classL g k0 := by rw [← hyc]; exact hxm
          obtain ⟨hx0, hx1, _⟩ := class_mem.1 hxm2
          obtain ⟨xx, rfl⟩ := Int.eq_ofNat_of_zero_le hx0
          have hxn : xx < n := by have := HGL.out; omega
          have h0m : 0 < m := by omega
          obtain ⟨_, _, _, z, hae, hze, hzc⟩ := HRD.out.get HM.out h0m
          injection hae with hae
          injection hae with e1 e2 e3
          subst e1 e2 e3
          rw [show (⟨yb, yo, ysp⟩ : Addr).add 0 = ⟨yb, yo, ysp⟩ by simp [Addr.add]] at hzc
          have hzm : z ∈ classL g k0 := by rw [← hyc, hze]; exact List.getElem_mem _
          obtain ⟨hz0, hz1, _⟩ := class_mem.1 hzm
          have hz40 : z < 40 := by have := HGL.out; omega
          have hzw : IntKind.u8.wrap z = z := by rw [IntKind.wrap_u8]; omega
          have HHD : Hid (hdN gs (i + 1) = z) := by
            show _ = _
            rw [hdN_at HYS.out, hze]
            cases ys with
            | nil => simp at hkl
            | cons y ys => rfl
          have hfr := HW.out.2.2.free xx
          have HA3 := hide (HA.out.mark HYS.out hkl hxe)
          have hbc := HW.out.2.2.cell xx
          rw [byArr_get hxn] at hbc
          have HW3 : Hid (∀ w', Upd (fun _ => False) wr w' → ByW w (w'.setCell ⟨w.heap.size, xx, none⟩ (.int .u8 z)) w.heap.size n (fun y => hdN gs (if y = xx then i + 1 else f y))) := fun w' hu => (HW.out.keep hu).set xx z (fun y => by
            by_cases hy : y = xx
            · rw [if_pos hy, if_pos hy, HHD.out]
            · rw [if_neg hy, if_neg hy])
          clear hxe hxm hyc hxm2 hx0 hx1 hk0 hkl hze hzm hz0 hz1 hz40
          go_wp2_with fail
          refine wp_region_quiet_tail 16 (by kernel_rfl) (by kernel_rfl) ?_
          simp only [List.take_succ_cons, List.take_zero, List.drop_succ_cons, List.drop_zero]
          repeat (first | go_big_quiet_step (fail) | quiet_step (fail))
          refine wpQuiet_nil ?_
          rintro w5 ⟨nq, rfl⟩
          have hfr5 := (HW.out.keep (Upd.drewN _ wr nq)).2.2.free xx
          have hbc5 := (HW.out.keep (Upd.drewN _ wr nq)).2.2.cell xx
          rw [byArr_get hxn] at hbc5
          go_wp2_with fail
          go_roundw
          case rel => exact ⟨k + 1, _, by omega, by go_num, HA3.out, HW3.out _ (Upd.drewN _ _ _)⟩
          case measure => simp [intOf]; omega
        · obtain rfl : k = m := by omega
          have HA4 := hide (HA.out.next HYS.out (by have := HM.out; omega))
          go_wp2_with fail
          go_roundw
          case rel => exact ⟨i + 1, f, by omega, by go_num, HA4.out, HW.out⟩
          case measure => simp [intOf]; omega
    · obtain rfl : i = gs.length := by omega
      have hcv : ∀ dst, Try.prog.underlying dst = some .string → (convert 45 dst (.slice (some ⟨w.heap.size, 0, none⟩) n n)).run Try.prog wr = .ok (.string (togS g n)) wr := by
        unfold togS
        refine run_convert_bytes_arg wr 45 5 Try.underlying45 Try.underlying5 w.heap.size 0 n n _ (by simp) fun j hj => ?_
        rw [Nat.zero_add, HW.out.2.2.cell, byArr_get hj]
        obtain ⟨t, xs, h1, h2, h3⟩ := HA.out.at_ HPT.out (x := j) (by rw [← HGL.out]; exact hj)
        rw [h1, hdN_at h2, HPT.out.row h2 h3]
        simp [List.getD_eq_getElem?_getD, hj, leastOf]
      have hcv2 := hcv 9 Try.underlying9
      clear hcv HA
      go_wp2_with fail
      go_ret
      exact ⟨rfl, HW.out.2.1⟩

end Go.Proofs.Ytlfjmppmclgjnaa
