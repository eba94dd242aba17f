/- 'MovesEach', walked. -/
import Derived.Test.YtkmgdnhedafomaaMX
import Derived.Test.YtkmgdnhedafomaaMLo
namespace Go.Proofs.Ytkmgdnhedafomaa
open Go.RowKit

theorem make_ints (w : World) (s : Nat) (hs : s ≤ 100000) : (Instr.makeSlice 22 (.int .i64 (s : Int)) (.int .i64 (s : Int))).run Try.prog w = .ok (.slice (some ⟨w.heap.size, 0, none⟩) s s) (w.alloc (.cells (madeCells (Value.int .i64 0).cells (s * 1)) 3)) := by
  obtain ⟨i, hi0, hi1, hi2, hi3⟩ := info_parts Try.ints.hi
  have hb' : (i.bytes : Int) * (s : Int) ≤ 281474976710656 := by
    rw [hi3]
    omega
  have hrun := run_make (P := Try.prog) w 22 3 i _ Try.ints.ht hi0 hi1 .i64 .i64 s s (by omega) (by omega) hb' (by omega)
  rw [hi2] at hrun
  simpa only [Int.toNat_natCast] using hrun

/-- Numbers of places as a row of ints. -/
def intArr (n : Nat) (f : Nat → Nat) : Array Value := ((List.range n).map fun i => Value.int .i64 (f i : Int)).toArray

theorem intArr_get {n : Nat} {f : Nat → Nat} {i : Nat} (h : i < n) : (intArr n f)[i]? = some (.int .i64 (f i : Int)) := by
  simp [intArr, h]

theorem intArr_set {n : Nat} {f f' : Nat → Nat} (i v : Nat) (hf : ∀ y, y < n → f' y = if y = i then v else f y) : (intArr n f).setIfInBounds i (.int .i64 (v : Int)) = intArr n f' := by
  apply Array.ext_getElem?
  intro j
  rw [Array.getElem?_setIfInBounds]
  by_cases hj : i = j
  · subst hj
    by_cases hi : i < n
    · rw [if_pos rfl, if_pos (by simpa [intArr] using hi), intArr_get hi, hf i hi, if_pos rfl]
    · rw [if_pos rfl, if_neg (by simpa [intArr] using hi), Array.getElem?_eq_none (by simpa [intArr] using hi)]
  · rw [if_neg hj]
    by_cases hi : j < n
    · rw [intArr_get hi, intArr_get hi, hf j hi, if_neg (fun e => hj e.symm)]
    · rw [Array.getElem?_eq_none (by simpa [intArr] using hi), Array.getElem?_eq_none (by simpa [intArr] using hi)]

theorem intArr_congr {n : Nat} {f f' : Nat → Nat} (hf : ∀ y, y < n → f' y = f y) : intArr n f = intArr n f' := by
  unfold intArr
  congr 1
  apply List.map_congr_left
  intro x hx
  rw [hf x (List.mem_range.1 hx)]

def NumW (w2 wr : World) (ab n : Nat) (f : Nat → Nat) : Prop := w2.heap.size ≤ ab ∧ Upd (fun _ => False) w2 wr ∧ Blk wr ab 3 (intArr n f)

theorem NumW.keep {w2 wr w' : World} {ab n : Nat} {f : Nat → Nat} (h : NumW w2 wr ab n f) (hu : Upd (fun _ => False) wr w') : NumW w2 w' ab n f := ⟨h.1, h.2.1.trans hu, hu.blk h.2.2 (fun h => h)⟩

theorem NumW.set {w2 wr : World} {ab n : Nat} {f f' : Nat → Nat} (h : NumW w2 wr ab n f) (i v : Nat) (hf : ∀ y, y < n → f' y = if y = i then v else f y) : NumW w2 (wr.setCell ⟨ab, i, none⟩ (.int .i64 (v : Int))) ab n f' :=
  ⟨h.1, h.2.1.extend (Upd.set (S := fun q => q = ab) _ _ _ rfl) fun q hq => .inr (by subst hq; exact h.1), by rw [← intArr_set i v hf]; exact h.2.2.set i _⟩

theorem NumW.congr {w2 wr : World} {ab n : Nat} {f f' : Nat → Nat} (h : NumW w2 wr ab n f) (hf : ∀ y, y < n → f' y = f y) : NumW w2 wr ab n f' := ⟨h.1, h.2.1, by rw [← intArr_congr hf]; exact h.2.2⟩

theorem count_succ {ms : List (Int × Int)} {i : Nat} {x : Int × Int} (h : ms[i]? = some x) (y : Int) : countTo (ms.take (i + 1)) y = countTo (ms.take i) y + if x.1 = y then 1 else 0 := by
  obtain ⟨hi, rfl⟩ := List.getElem?_eq_some_iff.1 h
  unfold countTo
  rw [List.take_succ_eq_append_getElem hi, List.filter_append, List.length_append]
  by_cases e : ms[i].1 = y
  · rw [if_pos e, List.filter_cons_of_pos (by simpa using e)]; rfl
  · rw [if_neg e, List.filter_cons_of_neg (by simpa using e)]; rfl

theorem count_le (ms : List (Int × Int)) (i : Nat) (y : Int) : countTo (ms.take i) y ≤ ms.length := by
  unfold countTo
  exact Nat.le_trans (List.length_filter_le _ _) (by rw [List.length_take]; omega)

/-- What 'MovesEach' asks. -/
theorem order_each {src : List Int} {s : Int} {ms : List (Int × Int)} (h : orderR src s = some ms) : (src.length : Int) ≤ s ∧ (∀ i : Nat, i < src.length → countTo ms i = if src.getD i 0 = (i : Int) then 0 else 1) ∧ ∀ x ∈ ms, x.1 = s ∨ ∃ i : Nat, i < src.length ∧ x.1 = (i : Int) := by
  unfold orderR at h
  cases hb : badF src s
  · rw [hb] at h
    obtain rfl : allM s (leftTo src src.length) = ms := by simpa using h
    obtain ⟨hok, hn, hs, hns⟩ := leftTo_ok hb
    refine ⟨hns, fun i hi => ?_, fun x hx => ?_⟩
    · rw [each_count hs hok i (by omega)]
      by_cases e : src.getD i 0 = (i : Int)
      · rw [if_pos e]
        have : hasK (leftTo src src.length) i = false := by
          cases hk : hasK (leftTo src src.length) i with
          | false => rfl
          | true =>
            obtain ⟨v, hv⟩ := hasK_iff.1 hk
            obtain ⟨_, h2, h3⟩ := leftTo_mem.1 hv
            exact absurd (h2.trans e) h3
        rw [this]; rfl
      · rw [if_neg e]
        have : hasK (leftTo src src.length) i = true := hasK_iff.2 ⟨src.getD i 0, leftTo_mem.2 ⟨hi, rfl, e⟩⟩
        rw [this]; rfl
    · rcases each_to hs hok x hx with h1 | ⟨i, h1, h2⟩
      · exact .inl h1
      · obtain ⟨v, hv⟩ := hasK_iff.1 h1
        exact .inr ⟨i, (leftTo_mem.1 hv).1, h2⟩
  · rw [hb] at h; simp at h

theorem made_ints (n : Nat) : madeCells (Value.int .i64 0).cells (n * 1) = intArr n (fun _ => 0) := by
  rw [Nat.mul_one]
  refine (madeList _ _).trans ?_
  unfold intArr
  congr 1
  rw [List.map_const']
  simp

set_option maxRecDepth 100000 in
set_option maxHeartbeats 4000000 in
theorem each_walk {w : World} {A : Option Addr} {n c : Nat} {src : List Int} {s : Int} (hx : Rd w (.slice A n c) 1 n (src.map (.int .i64))) (hn : n = src.length) (hl : n ≤ 9223372036854775807) (hs : I64 s) :
    Calls Try.prog 7 #[.slice A n c, .int .i64 s] w (BoolN w true) := by
  have HAW := hide (awake_any (w := w))
  by_cases h1 : 100 < n
  · clear hx hn hs
    go_enter Try.func7, Try.ntmps7
    go_wp2_with (go_at_call 8; refine HAW.out.mono ?_; rintro e w1 ⟨rfl, hu⟩; have HU1 := hide hu; clear hu)
    go_ret
    exact ⟨rfl, HU1.out⟩
  · have HO1 : Hid (∀ w1, Upd (fun _ => False) w w1 → Calls Try.prog 9 #[.slice A n c, .int .i64 s] w1 (MovesN w1 32 (orderR src s))) := fun w1 hu => order_any (hx.keep hu (fun _ _ h => h)) hn hl hs
    cases hr : orderR src s with
    | none =>
      rw [hr] at HO1
      clear hx hn hs hr
      go_enter Try.func7, Try.ntmps7
      go_wp2_with (first | (go_at_call 8; refine HAW.out.mono ?_; rintro e w1 ⟨rfl, hu⟩; have HU1 := hide hu; clear hu) | (go_at_call 9; refine (HO1.out w1 HU1.out).mono ?_; rintro e w2 ⟨rfl, hu⟩; have HU2 := hide (HU1.out.trans hu); clear hu))
      go_ret
      exact ⟨rfl, HU2.out⟩
    | some ms =>
      have hml := (orderR_len hr).1
      obtain ⟨hns, hct, hto⟩ := order_each hr
      have HCT := hide hct
      have HTO := hide hto
      have HX := hide hx
      have HN := hide hn
      have hns2 : (n : Int) ≤ s := by omega
      have hmk := fun w1 : World => make_ints w1 n (by omega)
      have HB : Hid (∀ w1 : World, NumW w1 (w1.alloc (.cells (madeCells (Value.int .i64 0).cells (n * 1)) 3)) w1.heap.size n (fun y => countTo (ms.take 0) y)) := fun w1 => ⟨Nat.le_refl _, Upd.alloc _ _ _, by rw [made_ints]; exact Blk.new _ _ _⟩
      generalize madeCells (Value.int .i64 0).cells (n * 1) = cs at hmk HB
      have HMK := hide hmk
      rw [hr] at HO1
      have hsl := hs.1
      have hsu := hs.2
      clear hx hn hs hr hct hto hns hmk
      go_enter Try.func7, Try.ntmps7
      go_wp2_with (first | (go_at_call 8; refine HAW.out.mono ?_; rintro e w1 ⟨rfl, hu⟩; have HU1 := hide hu; clear hu) | (go_at_call 9; refine (HO1.out w1 HU1.out).mono ?_; rintro e w2 ⟨A2, n2, c2, rfl, HN2, HO2⟩; have HU2 := hide (HU1.out.trans HO2.out.2); have HR2 := hide (MRd.of_own HO2.out.1 HN2.out); have hmk := HMK.out w2))
      obtain rfl : n2 = ms.length := HN2.out
      have HB2 := hide (HB.out w2)
      have hlt : Hid (w2.heap.size < w2.heap.size + 1) := Nat.lt_succ_self _
      clear hmk HMK HB
      generalize w2.heap.size = ab at HB2 hlt ⊢
      go_loopw [9] (fun iv wr => ∃ i : Nat, i ≤ ms.length ∧ iv = .int .i64 i ∧ Hid (NumW w2 wr ab n (fun y => countTo (ms.take i) y))) (fun iv _ => ms.length - (intOf iv).toNat)
      case atStart => exact ⟨0, Nat.zero_le _, rfl, HB2.out⟩
      case round =>
        clear HB2
        obtain ⟨i, hi, rfl, HW⟩ := hrel
        by_cases hil : i < ms.length
        · obtain ⟨g, x, y, rfl, hm, hc1, hc2⟩ := (HR2.out.keep HW.out.2.1).at_ hil
          have HM := hide hm
          rcases HTO.out _ (List.mem_of_getElem? hm) with hxs | ⟨k, hk, hxk⟩
          · dsimp only at hxs
            have hxe : (x == s) = true := by simpa using hxs
            have HNX : Hid (NumW w2 wr ab n (fun y => countTo (ms.take (i + 1)) y)) := HW.out.congr fun y hy => by
              rw [count_succ HM.out, if_neg (by dsimp only; omega)]; rfl
            clear hm hc2 hxs
            go_wp2_with fail
            go_roundw
            case rel => exact ⟨i + 1, by omega, by go_num, HNX.out⟩
            case measure => simp [intOf]; omega
          · dsimp only at hxk
            subst hxk
            have hkn : k < n := by have := HN.out; omega
            have hxe : ((k : Int) == s) = false := by simp; omega
            have hcl := count_le ms i (k : Int)
            have hbk := HW.out.2.2.cell k
            have hfk := HW.out.2.2.free k
            rw [intArr_get hkn] at hbk
            have HNX : Hid (NumW w2 (wr.setCell ⟨ab, k, none⟩ (.int .i64 ((countTo (ms.take i) (k : Int) + 1 : Nat) : Int))) ab n (fun y => countTo (ms.take (i + 1)) y)) := HW.out.set k _ fun y hy => by
              rw [count_succ HM.out]
              by_cases e : y = k
              · subst e; rw [if_pos rfl, if_pos rfl]
              · rw [if_neg e, if_neg (by dsimp only; omega)]; rfl
            have e1 : ((countTo (ms.take i) (k : Int) + 1 : Nat) : Int) = (countTo (ms.take i) (k : Int) : Int) + 1 := by omega
            rw [e1] at HNX
            generalize countTo (ms.take i) (k : Int) = cc at hbk HNX hcl
            clear hm hc2 hk e1
            go_wp2_with fail
            go_roundw
            case rel => exact ⟨i + 1, by omega, by go_num, HNX.out⟩
            case measure => simp [intOf]; omega
        · obtain rfl : i = ms.length := by omega
          have HWF : Hid (NumW w2 wr ab n (fun y => countTo ms y)) := by have h := HW.out; rw [List.take_length] at h; exact h
          clear HW
          go_wp2_with fail
          go_loopw [10] (fun iv w3 => ∃ i : Nat, i ≤ n ∧ iv = .int .i64 i ∧ Hid (NumW w2 w3 ab n (fun y => countTo ms y))) (fun iv _ => n - (intOf iv).toNat)
          case atStart => exact ⟨0, Nat.zero_le _, rfl, HWF.out⟩
          case round =>
            clear HWF
            obtain ⟨j, hj, rfl, HW⟩ := hrel
            by_cases hjn : j < n
            · obtain ⟨gb, go, gs, x, rfl, hxe, hxc⟩ := (HX.out.keep (HU2.out.trans HW.out.2.1) (fun _ _ h => h)).get HN.out hjn
              have hbj := HW.out.2.2.cell j
              rw [intArr_get hjn, HCT.out j (by have := HN.out; omega)] at hbj
              have hgd : src.getD j 0 = x := by rw [List.getD_eq_getElem?_getD, List.getElem?_eq_getElem (by have := HN.out; omega), hxe]; rfl
              rw [hgd] at hbj
              by_cases hxj : x = (j : Int)
              · rw [if_pos hxj] at hbj
                have hne : (x != (j : Int)) = false := by simp [hxj]
                clear hxe hgd hxj
                go_wp2_with fail
                go_quiet (fail)
                go_wp2_with fail
                go_roundw
                case rel => exact ⟨j + 1, by omega, by go_num, HW.out.keep (Upd.drewN _ _ _)⟩
                case measure => simp [intOf]; omega
              · rw [if_neg hxj] at hbj
                have hne : (x != (j : Int)) = true := by simp [hxj]
                clear hxe hgd hxj
                go_wp2_with fail
                go_quiet (fail)
                go_wp2_with fail
                go_roundw
                case rel => exact ⟨j + 1, by omega, by go_num, HW.out.keep (Upd.drewN _ _ _)⟩
                case measure => simp [intOf]; omega
            · go_wp2_with fail
              go_ret
              exact ⟨rfl, HU2.out.trans HW.out.2.1⟩

end Go.Proofs.Ytkmgdnhedafomaa
