/- Set: a field of an object is set. -/
import Derived.Test.YtkmfohocicngaaaMeth
namespace Go.Proofs.Ytkmfohocicngaaa
open Go.RowKit

/-- What Set makes of the objects; none: it is refused. -/
def setRes (L : List Ob) (p i v : Int) : Option (List Ob) :=
  match objL L p with
  | none => none
  | some o => if 0 ≤ i ∧ i < o.2.length ∧ rightL L v = true then some (setL L (p / 8).toNat i.toNat v) else none

set_option maxHeartbeats 400000 in
theorem set_no1 {w : World} {A : Option Addr} {p q i v : Int} (hob : Calls Try.prog 40 #[.pointer A, .int .i64 p] w fun e w' => e = .returned (.tuple #[.int .i64 q, .bool false]) ∧ w = w') :
    Calls Try.prog 17 #[.pointer A, .int .i64 p, .int .i64 i, .int .i64 v] w fun e w' => e = .returned (.int .i64 1) ∧ w = w' := by
  go_enter Try.func17, Try.ntmps17
  go_wp2_with (go_at_call 40; refine hob.mono ?_; rintro e w' ⟨rfl, rfl⟩)
  go_ret
  exact ⟨rfl, rfl⟩

set_option maxHeartbeats 400000 in
theorem set_no2 {w : World} {b k : Nat} {p i v : Int} (hob : Calls Try.prog 40 #[.pointer (some ⟨b, 0, none⟩), .int .i64 p] w fun e w' => e = .returned (.tuple #[.int .i64 (k : Int), .bool true]) ∧ w = w')
    (hi : decide (i < 0) = true) :
    Calls Try.prog 17 #[.pointer (some ⟨b, 0, none⟩), .int .i64 p, .int .i64 i, .int .i64 v] w fun e w' => e = .returned (.int .i64 1) ∧ w = w' := by
  go_enter Try.func17, Try.ntmps17
  go_wp2_with (go_at_call 40; refine hob.mono ?_; rintro e w' ⟨rfl, rfl⟩)
  go_ret
  exact ⟨rfl, rfl⟩

set_option maxHeartbeats 400000 in
theorem set_no3 {w : World} {b k : Nat} {p i v n : Int} (hob : Calls Try.prog 40 #[.pointer (some ⟨b, 0, none⟩), .int .i64 p] w fun e w' => e = .returned (.tuple #[.int .i64 (k : Int), .bool true]) ∧ w = w')
    (hsz : Calls Try.prog 39 #[.pointer (some ⟨b, 0, none⟩), .int .i64 k] w fun e w' => e = .returned (.int .i64 n) ∧ w = w')
    (hi : decide (i < 0) = false) (hn : decide (n ≤ i) = true) :
    Calls Try.prog 17 #[.pointer (some ⟨b, 0, none⟩), .int .i64 p, .int .i64 i, .int .i64 v] w fun e w' => e = .returned (.int .i64 1) ∧ w = w' := by
  go_enter Try.func17, Try.ntmps17
  go_wp2_with (first | (go_at_call 40; refine hob.mono ?_; rintro e w' ⟨rfl, rfl⟩) | (go_at_call 39; refine hsz.mono ?_; rintro e w' ⟨rfl, rfl⟩))
  go_ret
  exact ⟨rfl, rfl⟩

set_option maxHeartbeats 400000 in
theorem set_no4 {w : World} {b k : Nat} {p i v n : Int} (hob : Calls Try.prog 40 #[.pointer (some ⟨b, 0, none⟩), .int .i64 p] w fun e w' => e = .returned (.tuple #[.int .i64 (k : Int), .bool true]) ∧ w = w')
    (hsz : Calls Try.prog 39 #[.pointer (some ⟨b, 0, none⟩), .int .i64 k] w fun e w' => e = .returned (.int .i64 n) ∧ w = w')
    (hrt : Calls Try.prog 33 #[.pointer (some ⟨b, 0, none⟩), .int .i64 v] w fun e w' => e = .returned (.bool false) ∧ w = w')
    (hi : decide (i < 0) = false) (hn : decide (n ≤ i) = false) :
    Calls Try.prog 17 #[.pointer (some ⟨b, 0, none⟩), .int .i64 p, .int .i64 i, .int .i64 v] w fun e w' => e = .returned (.int .i64 1) ∧ w = w' := by
  go_enter Try.func17, Try.ntmps17
  go_wp2_with (first | (go_at_call 40; refine hob.mono ?_; rintro e w' ⟨rfl, rfl⟩) | (go_at_call 39; refine hsz.mono ?_; rintro e w' ⟨rfl, rfl⟩) | (go_at_call 33; refine hrt.mono ?_; rintro e w' ⟨rfl, rfl⟩))
  go_ret
  exact ⟨rfl, rfl⟩

def SetAt (w : World) (g k j : Nat) (v : Int) (e : Ending) (w' : World) : Prop := e = .returned (.int .i64 0) ∧ ∃ m, w' = (w.drewN m).setCell ⟨g, k + 1 + j, none⟩ (.int .i64 v)

set_option maxHeartbeats 400000 in
theorem set_yes {w : World} {b g k j n : Nat} {p v x : Int} {vw : Value} (hvw : vw.ownBlock = some g) (hob : Calls Try.prog 40 #[.pointer (some ⟨b, 0, none⟩), .int .i64 p] w fun e w' => e = .returned (.tuple #[.int .i64 (k : Int), .bool true]) ∧ w = w')
    (hsz : Calls Try.prog 39 #[.pointer (some ⟨b, 0, none⟩), .int .i64 k] w fun e w' => e = .returned (.int .i64 (n : Int)) ∧ w = w')
    (hrt : Calls Try.prog 33 #[.pointer (some ⟨b, 0, none⟩), .int .i64 v] w fun e w' => e = .returned (.bool true) ∧ w = w')
    (hf : Calls Try.prog 38 #[.pointer (some ⟨b, 0, none⟩), .int .i64 k] w (FieldsAt vw k n w))
    (hj : j < n) (hn : n ≤ 65535) (hc : w.cell? ⟨g, k + 1 + j, none⟩ = some (.int .i64 x)) (hfr : w.frozen? ⟨g, k + 1 + j, none⟩ = false) :
    Calls Try.prog 17 #[.pointer (some ⟨b, 0, none⟩), .int .i64 p, .int .i64 (j : Int), .int .i64 v] w (SetAt w g k j v) := by
  have hnn : decide ((n : Int) ≤ (j : Int)) = false := by simp; omega
  have HV : Hid (vw.ownBlock = some g) := hvw
  clear hvw
  go_enter Try.func17, Try.ntmps17
  go_wp2_with (first | (go_at_call 40; refine hob.mono ?_; rintro e w' ⟨rfl, rfl⟩) | (go_at_call 39; refine hsz.mono ?_; rintro e w' ⟨rfl, rfl⟩) | (go_at_call 33; refine hrt.mono ?_; rintro e w' ⟨rfl, rfl⟩))
  refine hf.mono ?_
  rintro e w' ⟨g', ad, c, hg', rfl, hnc, hag, hn', m, rfl⟩
  obtain rfl : g = g' := by have := HV.out; rw [hg'] at this; exact (Option.some.inj this).symm
  obtain rfl := hn' (by omega)
  clear hg' hag hn'
  go_wp2_with fail
  go_ret
  exact ⟨rfl, m, rfl⟩

/-- The post of Set. -/
def SetPost (w : World) (B b : Nat) (lim : Int) (L : List Ob) (F : Nat → Prop) (r : Option (List Ob)) (e : Ending) (w' : World) : Prop :=
  match r with
  | none => e = .returned (.int .i64 1) ∧ w = w'
  | some L' => e = .returned (.int .i64 0) ∧ HpL w' B b lim L' F ∧ Upd F w w'

theorem HpL.set {w : World} {B b : Nat} {lim : Int} {L : List Ob} {F : Nat → Prop} (h : HpL w B b lim L F) {k : Nat} {o : Ob} (hat : atL L k = some o) {j : Nat} (hj : j < o.2.length) {v : Int} (hv : I64 v) (hr : rightL L v = true) {g : Nat}
    (hg : ∀ vw vb, Hp w B b vw vb lim (wordsOf L) (beginsOf L) → vw.ownBlock = some g) :
    HpL (w.setCell ⟨g, k + 1 + j, none⟩ (.int .i64 v)) B b lim (setL L k j v) F := by
  obtain ⟨vw, vb, h1, h2, h3, h4, h5⟩ := h
  have hvg := hg vw vb h1
  obtain ⟨hw, hb⟩ := setL_words hat j hj v
  obtain ⟨_, _, hle, _⟩ := atL_words hat
  have hu : Upd (fun q => q = g) w (w.setCell ⟨g, k + 1 + j, none⟩ (.int .i64 v)) := Upd.set _ _ _ rfl
  refine ⟨vw, vb, ⟨?_, h1.l0, h1.l1, by rw [hw]; simpa using h1.len⟩, h2.set k j hv hr, h3, h4, h5⟩
  have hs := h1.sp
  refine ⟨hu.blk hs.blk (fun e => ?_), hs.le, hs.c0, hs.c1, ?_, ?_, hs.t3, hs.t4, by rw [hw]; simpa using hs.lw, by rw [hb]; exact hs.lb⟩
  · exact own_ne_blk hs.ow hs.blk hs.t3 g hvg e.symm
  · rw [hw, List.length_set, List.map_set]
    exact own_set hs.ow hvg _ (by unfold total at hle; omega) _
  · rw [hb]
    refine hu.own hs.ob (fun q hq e => ?_)
    subst e
    exact own_ne_own hs.ow hs.ob (by decide) q hvg hq

theorem set_any {w : World} {B b : Nat} {lim : Int} {L : List Ob} {F : Nat → Prop} (h : HpL w B b lim L F) (p i v : Int) (hp : I64 p) (hv : I64 v) :
    Calls Try.prog 17 #[.pointer (some ⟨b, 0, none⟩), .int .i64 p, .int .i64 i, .int .i64 v] w (SetPost w B b lim L F (setRes L p i v)) := by
  have hob := object_any h p hp
  unfold setRes
  cases ho : objL L p with
  | none =>
    rw [ho] at hob
    exact set_no1 hob
  | some o =>
    rw [ho] at hob
    obtain ⟨k, hd, _, hpk, hat⟩ := objL_place ho
    rw [hd] at hob
    obtain ⟨vw, vb, g, c, h1, ho1, hvw, hFg, hc0, hcx, hk, hn, h0, h1', hle, hw, hfc, hfr⟩ := h.place hat
    have hsz := size_any h1.sp k (headOf o) hw h0 (by omega)
    rw [head_div ho1] at hsz
    have hf := fields_any h1.sp k (headOf o) o.2.length hw h0 (by omega) (head_div ho1) hle
    have hrt := right_any h1.sp v hv
    rw [rightB_begins] at hrt
    show Calls _ _ _ _ (SetPost w B b lim L F (if _ then _ else _))
    by_cases hi : i < 0
    · rw [if_neg (by omega)]
      exact set_no2 hob (by simpa using hi)
    · by_cases hin : (o.2.length : Int) ≤ i
      · rw [if_neg (by omega)]
        exact set_no3 hob hsz (by simpa using hi) (by simpa using hin)
      · cases hr : rightL L v with
        | false =>
          rw [if_neg (by simp)]
          rw [hr] at hrt
          exact set_no4 hob hsz hrt (by simpa using hi) (by simpa using hin)
        | true =>
          rw [if_pos ⟨by omega, by omega, rfl⟩, hpk]
          rw [hr] at hrt
          obtain ⟨j, rfl⟩ := Int.eq_ofNat_of_zero_le (by omega : 0 ≤ i)
          have hj : j < o.2.length := by omega
          refine (set_yes hvw hob hsz hrt hf hj ho1.len (hfc j _ (List.getElem?_eq_getElem hj)) (hfr _)).mono ?_
          rintro e w' ⟨rfl, m, rfl⟩
          refine ⟨rfl, (h.drewN m).set hat hj hv hr (fun vw' vb' h' => ?_), (Upd.drewN _ _ m).trans (Upd.set _ _ _ hFg)⟩
          have e1 := h1.sp.blk
          have e2 : Blk w b 58 #[vw', vb', .int .i64 lim, .bool true] := h'.sp.blk
          unfold Blk at e1 e2
          rw [e1] at e2
          simp at e2
          rw [← e2.1]
          exact hvw

end Go.Proofs.Ytkmfohocicngaaa
