/- 'MovesAll', walked. -/
import Derived.Test.YtkmgdnhedafomaaMX
import Derived.Test.YtkmgdnhedafomaaMLo
namespace Go.Proofs.Ytkmgdnhedafomaa
open Go.RowKit

/-- What a place holds behind the first k moves that are noted. -/
def heldTo (ps vs : List Int) (p : Int) : Nat → Int
  | 0 => p
  | k + 1 => if ps.getD k 0 = p then vs.getD k 0 else heldTo ps vs p k

theorem heldTo_ext {ps ps' vs vs' : List Int} {p : Int} : ∀ {k : Nat}, (∀ j, j < k → ps.getD j 0 = ps'.getD j 0 ∧ vs.getD j 0 = vs'.getD j 0) → heldTo ps vs p k = heldTo ps' vs' p k
  | 0, _ => rfl
  | k + 1, h => by
    unfold heldTo
    rw [(h k (by omega)).1, (h k (by omega)).2, heldTo_ext (k := k) fun j hj => h j (by omega)]

def psL (ms : List (Int × Int)) (k : Nat) : List Int := (ms.take k).map fun x => x.1
def vsL (ms : List (Int × Int)) (k : Nat) : List Int := (List.range k).map fun j => (ms.take j).foldl applyM id (ms.getD j (0, 0)).2

theorem psL_succ {ms : List (Int × Int)} {k : Nat} {x y : Int} (h : ms[k]? = some (x, y)) : psL ms (k + 1) = psL ms k ++ [x] := by
  obtain ⟨hk, he⟩ := List.getElem?_eq_some_iff.1 h
  unfold psL
  rw [List.take_succ_eq_append_getElem hk, he, List.map_append]
  rfl

theorem vsL_succ {ms : List (Int × Int)} {k : Nat} {x y : Int} (h : ms[k]? = some (x, y)) : vsL ms (k + 1) = vsL ms k ++ [(ms.take k).foldl applyM id y] := by
  unfold vsL
  rw [List.range_succ, List.map_append]
  simp only [List.map_cons, List.map_nil, List.getD_eq_getElem?_getD, h]
  rfl

theorem psL_len {ms : List (Int × Int)} {k : Nat} (h : k ≤ ms.length) : (psL ms k).length = k := by unfold psL; simp; omega
theorem vsL_len (ms : List (Int × Int)) (k : Nat) : (vsL ms k).length = k := by simp [vsL]

theorem held_is {ms : List (Int × Int)} {p : Int} : ∀ {k : Nat}, k ≤ ms.length → heldTo (psL ms k) (vsL ms k) p k = (ms.take k).foldl applyM id p
  | 0, _ => rfl
  | k + 1, h => by
    have hk : k < ms.length := h
    obtain ⟨x, y, hxy⟩ : ∃ x y, ms[k]? = some (x, y) := ⟨_, _, List.getElem?_eq_getElem hk⟩
    have hl1 := psL_len (ms := ms) (k := k) (by omega)
    have hl2 := vsL_len ms k
    have e1 : (psL ms (k + 1)).getD k 0 = x := by rw [psL_succ hxy, List.getD_eq_getElem?_getD, List.getElem?_append_right (by omega), hl1]; simp
    have e2 : (vsL ms (k + 1)).getD k 0 = (ms.take k).foldl applyM id y := by rw [vsL_succ hxy, List.getD_eq_getElem?_getD, List.getElem?_append_right (by omega), hl2]; simp
    unfold heldTo
    rw [e1, e2, heldTo_ext (ps' := psL ms k) (vs' := vsL ms k) (k := k) fun j hj => by
      refine ⟨?_, ?_⟩
      · rw [psL_succ hxy, List.getD_eq_getElem?_getD, List.getD_eq_getElem?_getD, List.getElem?_append_left (by omega)]
      · rw [vsL_succ hxy, List.getD_eq_getElem?_getD, List.getD_eq_getElem?_getD, List.getElem?_append_left (by omega)], held_is (by omega)]
    have e3 : ms.take (k + 1) = ms.take k ++ [(x, y)] := by rw [List.take_succ_eq_append_getElem hk, (List.getElem?_eq_some_iff.1 hxy).2]
    rw [e3, List.foldl_append]
    show _ = applyM _ (x, y) p
    unfold applyM
    by_cases e : p = x
    · rw [if_pos e.symm, if_pos e]
    · rw [if_neg (fun h => e h.symm), if_neg e]

set_option maxHeartbeats 1000000 in
theorem held_any {w : World} {A A' : Option Addr} {m c m' c' : Nat} {ps vs : List Int} (hx : Rd w (.slice A m c) 1 m (ps.map (.int .i64))) (hm : m = ps.length) (hy : Rd w (.slice A' m' c') 1 m' (vs.map (.int .i64))) (hm' : m' = vs.length) (he : m = m') (hl : m ≤ 100000) (p : Int) :
    Calls Try.prog 11 #[.slice A m c, .slice A' m' c', .int .i64 p] w fun e w' => e = .returned (.int .i64 (heldTo ps vs p m)) ∧ w = w' := by
  have HX := hide hx
  have HY := hide hy
  have HM := hide hm
  have HM' := hide hm'
  subst he
  clear hx hy hm hm'
  go_enter Try.func11, Try.ntmps11
  go_wp2
  go_loop [7] (fun iv => ∃ (k : Nat) (z : Int), k ≤ m ∧ iv = .int .i64 z ∧ Hid (z = (k : Int) - 1) ∧ Hid (heldTo ps vs p m = heldTo ps vs p k)) (fun iv => (intOf iv + 1).toNat)
  case atStart => exact ⟨m, (m : Int) - 1, Nat.le_refl _, rfl, rfl, rfl⟩
  case round =>
    obtain ⟨k, z, hk, rfl, HZ, HH⟩ := hrel
    by_cases hk0 : k = 0
    · subst hk0
      obtain rfl : z = -1 := HZ.out
      go_wp2_with fail
      go_ret
      rw [HH.out]
      exact ⟨rfl, rfl⟩
    · obtain ⟨k', rfl⟩ : ∃ k', k = k' + 1 := ⟨k - 1, by omega⟩
      obtain rfl : z = (k' : Int) := by have := HZ.out; omega
      have hkm : k' < m := by omega
      obtain ⟨gb, go, gs, x, rfl, hxe, hxc⟩ := HX.out.get HM.out hkm
      obtain ⟨gb', go', gs', y, rfl, hye, hyc⟩ := HY.out.get HM'.out hkm
      have HST : Hid (heldTo ps vs p (k' + 1) = if x = p then y else heldTo ps vs p k') := by
        show _ = _
        rw [heldTo, List.getD_eq_getElem?_getD, List.getD_eq_getElem?_getD, List.getElem?_eq_getElem (by have := HM.out; omega), List.getElem?_eq_getElem (by have := HM'.out; omega), hxe, hye]
        simp only [Option.getD_some]
      clear hxe hye hk0
      cases hxp : (x == p)
      · have hne : Hid (x ≠ p) := by show _ ≠ _; simpa using hxp
        go_wp2_with fail
        go_round
        case rel => exact ⟨k', _, by omega, rfl, rfl, by show _ = _; rw [HH.out, HST.out, if_neg hne.out]⟩
        case measure => simp [intOf]
      · have heq : Hid (x = p) := by show _ = _; simpa using hxp
        go_wp2_with fail
        go_ret
        rw [HH.out, HST.out, if_pos heq.out]
        exact ⟨rfl, rfl⟩

/-- Two rows that grow beside one another. -/
structure TwoR (w wr : World) (v1 : Value) (k1 : Nat) (ps : List Int) (v2 : Value) (k2 : Nat) (vs : List Int) : Prop where
  o1 : wr.ownsRow w.heap.size 3 1 v1 k1 (ps.map (.int .i64))
  o2 : wr.ownsRow w.heap.size 3 1 v2 k2 (vs.map (.int .i64))
  ap : ∀ q, v1.ownBlock = some q → v2.ownBlock ≠ some q
  upd : Upd (fun _ => False) w wr

section
variable {w wr w' : World} {v1 v2 : Value} {k1 k2 : Nat} {ps vs : List Int}

theorem TwoR.same (h : TwoR w wr v1 k1 ps v2 k2 vs) (hu : Upd (fun _ => False) wr w') : TwoR w w' v1 k1 ps v2 k2 vs :=
  ⟨hu.own h.o1 (fun _ _ h => h), hu.own h.o2 (fun _ _ h => h), h.ap, h.upd.trans hu⟩

theorem TwoR.app1 (h : TwoR w wr v1 k1 ps v2 k2 vs) {v : Value} {x : Int} (ho : w'.ownsRow w.heap.size 3 1 v (k1 + 1) (ps.map (Value.int .i64) ++ [.int .i64 x])) (hu : Upd (fun q => v1.ownBlock = some q) wr w') (hat : v.ownBlock = v1.ownBlock ∨ v.ownBlock = some wr.heap.size) : TwoR w w' v (k1 + 1) (ps ++ [x]) v2 k2 vs :=
  ⟨by rw [List.map_append]; exact ho, hu.own h.o2 (fun q hq e => h.ap q e hq), fun q hq hq2 => by
    rcases hat with hat | hat
    · rw [hat] at hq; exact h.ap q hq hq2
    · rw [hat] at hq; injection hq with hq; have := own_lt h.o2 hq2; omega, h.upd.extend hu fun q hq => .inr (own_lo h.o1 hq)⟩

theorem TwoR.app2 (h : TwoR w wr v1 k1 ps v2 k2 vs) {v : Value} {x : Int} (ho : w'.ownsRow w.heap.size 3 1 v (k2 + 1) (vs.map (Value.int .i64) ++ [.int .i64 x])) (hu : Upd (fun q => v2.ownBlock = some q) wr w') (hat : v.ownBlock = v2.ownBlock ∨ v.ownBlock = some wr.heap.size) : TwoR w w' v1 k1 ps v (k2 + 1) (vs ++ [x]) :=
  ⟨hu.own h.o1 (fun q hq e => h.ap q hq e), by rw [List.map_append]; exact ho, fun q hq hq2 => by
    rcases hat with hat | hat
    · rw [hat] at hq2; exact h.ap q hq hq2
    · rw [hat] at hq2; injection hq2 with hq2; have := own_lt h.o1 hq; omega, h.upd.extend hu fun q hq => .inr (own_lo h.o2 hq)⟩

theorem TwoR.start (w : World) : TwoR w w (.slice none 0 0) 0 [] (.slice none 0 0) 0 [] :=
  ⟨World.ownsRow_nil _ _ _ _, World.ownsRow_nil _ _ _ _, fun q h => by simp [Value.ownBlock] at h, Upd.refl _ _⟩
end

set_option maxRecDepth 100000 in
set_option maxHeartbeats 4000000 in
theorem all_walk {w : World} {A : Option Addr} {n c : Nat} {src : List Int} {s o : Int} (hx : Rd w (.slice A n c) 1 n (src.map (.int .i64))) (hn : n = src.length) (hl : n ≤ 9223372036854775807) (hs : I64 s) (ho : I64 o) :
    Calls Try.prog 4 #[.slice A n c, .int .i64 s, .int .i64 o] w (BoolN w true) := by
  have HAW := hide (awake_any (w := w))
  by_cases h1 : 100 < n
  · clear hx hn hs ho
    go_enter Try.func4, Try.ntmps4
    go_wp2_with (go_at_call 8; refine HAW.out.mono ?_; rintro e w1 ⟨rfl, hu⟩; have HU1 := hide hu; clear hu)
    go_ret
    exact ⟨rfl, HU1.out⟩
  · have HO1 : Hid (∀ w1, Upd (fun _ => False) w w1 → Calls Try.prog 9 #[.slice A n c, .int .i64 s] w1 (MovesN w1 32 (orderR src s))) := fun w1 hu => order_any (hx.keep hu (fun _ _ h => h)) hn hl hs
    cases hr : orderR src s with
    | none =>
      rw [hr] at HO1
      clear hx hn hs ho hr
      go_enter Try.func4, Try.ntmps4
      go_wp2_with (first | (go_at_call 8; refine HAW.out.mono ?_; rintro e w1 ⟨rfl, hu⟩; have HU1 := hide hu; clear hu) | (go_at_call 9; refine (HO1.out w1 HU1.out).mono ?_; rintro e w2 ⟨rfl, hu⟩; have HU2 := hide (HU1.out.trans hu); clear hu))
      go_ret
      exact ⟨rfl, HU2.out⟩
    | some ms =>
      have hml := (orderR_len hr).1
      have hmany := order_many hr
      rw [← hn] at hmany
      obtain ⟨hh1, hh2⟩ := all_held hr
      have HH1 := hide hh1
      have HH2 := hide hh2
      have HX := hide hx
      have HN := hide hn
      have hq1 : decide ((n : Int) + (n : Int) / 2 < (ms.length : Int)) = false := by simp; omega
      have hq2 : decide (n + n / 2 < ms.length) = false := by simp; omega
      rw [hr] at HO1
      have hsl := hs.1
      have hsu := hs.2
      have hol := ho.1
      have hou := ho.2
      have HT0 : Hid (∀ w2 : World, TwoR w2 w2 (.slice none 0 0) 0 (psL ms 0) (.slice none 0 0) 0 (vsL ms 0)) := fun w2 => TwoR.start w2
      clear hx hn hs ho hr hh1 hh2
      go_enter Try.func4, Try.ntmps4
      go_wp2_with (first | (go_at_call 8; refine HAW.out.mono ?_; rintro e w1 ⟨rfl, hu⟩; have HU1 := hide hu; clear hu) | (go_at_call 9; refine (HO1.out w1 HU1.out).mono ?_; rintro e w2 ⟨A2, n2, c2, rfl, HN2, HO2⟩; have HU2 := hide (HU1.out.trans HO2.out.2); have HR2 := hide (MRd.of_own HO2.out.1 HN2.out); obtain rfl : n2 = ms.length := HN2.out))
      have HT1 := hide (HT0.out w2)
      clear HT0 hq1 hq2
      go_loopw [10, 11, 12] (fun pv vv iv wr => ∃ (k : Nat) (A3 : Option Addr) (c3 : Nat) (A4 : Option Addr) (c4 : Nat), k ≤ ms.length ∧ pv = .slice A3 k c3 ∧ vv = .slice A4 k c4 ∧ iv = .int .i64 k ∧ Hid (TwoR w2 wr (.slice A3 k c3) k (psL ms k) (.slice A4 k c4) k (vsL ms k))) (fun _ _ iv _ => ms.length - (intOf iv).toNat)
      case atStart => exact ⟨0, none, 0, none, 0, Nat.zero_le _, rfl, rfl, rfl, HT1.out⟩
      case round =>
        clear HT1
        obtain ⟨k, A3, c3, A4, c4, hk, rfl, rfl, rfl, HT⟩ := hrel
        have hpl := psL_len hk
        have hvl := vsL_len ms k
        by_cases hkm : k < ms.length
        · obtain ⟨g, x, y, rfl, hm, hc1, hc2⟩ := (HR2.out.keep HT.out.upd).at_ hkm
          have HPS := hide (psL_succ hm)
          have HVS := hide (vsL_succ hm)
          have HHD := hide (held_any (Rd.of_own HT.out.o1) hpl.symm (Rd.of_own HT.out.o2) hvl.symm rfl (by omega) y)
          rw [held_is hk] at HHD
          generalize (ms.take k).foldl applyM id y = u at HHD HVS
          have HTA := hide (HT.out.same (Upd.alloc (fun _ => False) wr (.cells #[.int .i64 x] 3)))
          have hza := HTA.out.upd.size
          clear hm hpl hvl
          go_wp2_with (first | (go_at_call 11; refine HHD.out.mono ?_; rintro e w3 ⟨rfl, rfl⟩) | (at_builtin; refine wpList_app (v := .slice A3 k c3) (u := .slice (some ⟨wr.heap.size, 0, none⟩) 1 1) Try.ints rfl (.tmp 61) (.tmp 67) rfl rfl HTA.out.o1 rfl (Rd.new1 _ (.int .i64 x) 3 rfl) (by simp [Value.oneCell']) (k + 1) rfl (by omega) (by omega) hza ?_; intro A5 c5 w5 own5 u5 at5 ne5; have HT5 := hide (HTA.out.app1 own5 u5 at5); have HTB := hide (HT5.out.same (Upd.alloc (fun _ => False) w5 (.cells #[.int .i64 u] 3))); have hzb := HTB.out.upd.size; clear own5 u5 at5 ne5) | (at_builtin; refine wpList_app (v := .slice A4 k c4) (u := .slice (some ⟨w5.heap.size, 0, none⟩) 1 1) Try.ints rfl (.tmp 69) (.tmp 71) rfl rfl HTB.out.o2 rfl (Rd.new1 _ (.int .i64 u) 3 rfl) (by simp [Value.oneCell']) (k + 1) rfl (by omega) (by omega) hzb ?_; intro A6 c6 w6 own6 u6 at6 ne6; have HT6 := hide (HTB.out.app2 own6 u6 at6); clear own6 u6 at6 ne6))
          go_roundw
          case rel => exact ⟨k + 1, A5, c5, A6, c6, by omega, rfl, rfl, by go_num, by rw [HPS.out, HVS.out]; exact HT6.out⟩
          case measure => simp [intOf]; omega
        · obtain rfl : k = ms.length := by omega
          have HHA : Hid (∀ (q : Int) (wz : World), Upd (fun _ => False) wr wz → Calls Try.prog 11 #[.slice A3 ms.length c3, .slice A4 ms.length c4, .int .i64 q] wz fun e w' => e = .returned (.int .i64 (ms.foldl applyM id q)) ∧ wz = w') := fun q wz hu => by
            have h := held_any ((Rd.of_own HT.out.o1).keep hu (fun _ _ h => h)) hpl.symm ((Rd.of_own HT.out.o2).keep hu (fun _ _ h => h)) hvl.symm rfl (by omega) q
            rw [held_is (Nat.le_refl _), List.take_length] at h
            exact h
          have HU3 := hide (HU2.out.trans HT.out.upd)
          clear hpl hvl HT
          go_wp2_with fail
          go_loopw [14] (fun iv w3 => ∃ i : Nat, i ≤ n ∧ iv = .int .i64 i ∧ Hid (Upd (fun _ => False) wr w3)) (fun iv _ => n - (intOf iv).toNat)
          case atStart => exact ⟨0, Nat.zero_le _, rfl, Upd.refl _ _⟩
          case round =>
            obtain ⟨i, hi, rfl, HW⟩ := hrel
            by_cases hin : i < n
            · obtain ⟨gb, go, gs, x, rfl, hxe, hxc⟩ := (HX.out.keep (HU3.out.trans HW.out) (fun _ _ h => h)).get HN.out hin
              have hhi := HH1.out i (by have := HN.out; omega)
              have hgd : src.getD i 0 = x := by rw [List.getD_eq_getElem?_getD, List.getElem?_eq_getElem (by have := HN.out; omega), hxe]; rfl
              rw [hgd] at hhi
              have HC : Hid (∀ q, Calls Try.prog 11 #[.slice A3 ms.length c3, .slice A4 ms.length c4, .int .i64 (i : Int)] (wr.drewN q) fun e w' => e = .returned (.int .i64 x) ∧ w' = wr.drewN q) := fun q => by
                refine (HHA.out (i : Int) (wr.drewN q) (HW.out.trans (Upd.drewN _ _ _))).mono ?_
                rintro e w' ⟨rfl, rfl⟩
                rw [hhi]
                exact ⟨rfl, rfl⟩
              clear hxe hhi hgd
              go_wp2_with fail
              go_quiet ((go_at_call 11; exact Calls.quiet_of_same (HC.out _)))
              go_wp2_with fail
              go_roundw
              case rel => exact ⟨i + 1, by omega, by go_num, HW.out.trans (Upd.drewN _ _ _)⟩
              case measure => simp [intOf]; omega
            · have HC := hide (HHA.out o wr HW.out)
              by_cases hos : o = s
              · have h2 : (o == s) = true := by simpa using hos
                clear hos
                go_wp2_with fail
                go_ret
                exact ⟨rfl, HU3.out.trans HW.out⟩
              · have h2 : (o == s) = false := by simpa using hos
                have HOS := hide hos
                clear hos
                by_cases ho0 : 0 ≤ o
                · by_cases hon : o < (n : Int)
                  · go_wp2_with fail
                    go_ret
                    exact ⟨rfl, HU3.out.trans HW.out⟩
                  · have hho := HH2.out o (by have := HN.out; omega) HOS.out
                    rw [hho] at HC
                    clear hho
                    go_wp2_with (go_at_call 11; refine HC.out.mono ?_; rintro e w4 ⟨rfl, rfl⟩)
                    go_ret
                    exact ⟨rfl, HU3.out.trans HW.out⟩
                · have hho := HH2.out o (by omega) HOS.out
                  rw [hho] at HC
                  clear hho
                  go_wp2_with (go_at_call 11; refine HC.out.mono ?_; rintro e w4 ⟨rfl, rfl⟩)
                  go_ret
                  exact ⟨rfl, HU3.out.trans HW.out⟩

end Go.Proofs.Ytkmgdnhedafomaa
