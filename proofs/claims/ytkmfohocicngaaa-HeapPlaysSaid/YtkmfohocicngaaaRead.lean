/- The heap's readers. -/
import Derived.Test.YtkmfohocicngaaaBase
namespace Go.Proofs.Ytkmfohocicngaaa
open Go.RowKit

theorem rb {a b : Bool} (h : a = b) : Ending.returned (.bool a) = .returned (.bool b) := by rw [h]
theorem ri {k : IntKind} {a b : Int} (h : a = b) : Ending.returned (.int k a) = .returned (.int k b) := by rw [h]

theorem bits_and7 (v : Int) : bits BinOp.and IntKind.i64 v 7 = v % 8 := by
  have h7 : (BitVec.ofInt 64 7) = BitVec.ofNat 64 (2 ^ 3 - 1) := by decide
  have hm : (BitVec.ofInt 64 v &&& BitVec.ofInt 64 7).toNat = (v % 8).toNat := by
    rw [h7, BitVec.toNat_and, BitVec.toNat_ofNat, Nat.mod_eq_of_lt (by decide), Nat.and_two_pow_sub_one_eq_mod, BitVec.toNat_ofInt]
    omega
  show IntKind.i64.wrap ((BitVec.ofInt 64 v &&& BitVec.ofInt 64 7).toNat : Int) = _
  rw [hm, IntKind.wrap_i64]
  omega

theorem pointer_any (v : Int) (w : World) :
    Calls Try.prog 37 #[.int .i64 v] w fun e w' => e = .returned (.bool (isP v)) ∧ w = w' := by
  have hb := bits_and7 v
  go_enter Try.func37, Try.ntmps37
  go_wp2
  go_ret
  exact ⟨rfl, rfl⟩

/-- The words of a space and its beginnings, in a block of two cells or more. -/
structure Sp (w : World) (B b t : Nat) (cs : Array Value) (vw vb : Value) (ws : List Int) (bs : List Bool) : Prop where
  blk : Blk w b t cs
  le : B ≤ b
  c0 : cs[0]? = some vw
  c1 : cs[1]? = some vb
  ow : w.ownsRow B 3 1 vw ws.length (ws.map (.int .i64))
  ob : w.ownsRow B 4 1 vb bs.length (bs.map .bool)
  t3 : 3 ≠ t
  t4 : 4 ≠ t
  lw : ws.length ≤ 140737488351232
  lb : bs.length ≤ 140737488351232

theorem Sp.drewN {w : World} {B b t : Nat} {cs : Array Value} {vw vb : Value} {ws : List Int} {bs : List Bool} (h : Sp w B b t cs vw vb ws bs) (n : Nat) : Sp (w.drewN n) B b t cs vw vb ws bs :=
  ⟨h.blk, h.le, h.c0, h.c1, h.ow, h.ob, h.t3, h.t4, h.lw, h.lb⟩

def holdsB (bs : List Bool) (at_ : Int) : Bool := decide (0 ≤ at_) && (bs[at_.toNat]?.getD false)

set_option maxHeartbeats 400000 in
theorem holds_any {w : World} {B b t : Nat} {cs : Array Value} {vw vb : Value} {ws : List Int} {bs : List Bool} (h : Sp w B b t cs vw vb ws bs) (at_ : Int) :
    Calls Try.prog 47 #[.pointer (some ⟨b, 0, none⟩), .int .i64 at_] w fun e w' => e = .returned (.bool (holdsB bs at_)) ∧ w = w' := by
  obtain ⟨A, c, rfl, hnc, hcm, hl, hA0, hA⟩ := own_form h.ob
  have hb := h.lb
  have hc1 : w.cell? ⟨b, 1, none⟩ = some (.slice A bs.length c) := by rw [h.blk.cell]; exact h.c1
  by_cases h0 : 0 ≤ at_
  · obtain ⟨k, rfl⟩ := Int.eq_ofNat_of_zero_le h0
    by_cases hk : k < bs.length
    · obtain ⟨g, hg⟩ := own_some h.ob (by omega)
      obtain ⟨rfl, _, _, _, hcell⟩ := hA g hg
      have hx := hcell k (.bool bs[k]) (by simp [hk])
      have HF : Hid (bs[k] = holdsB bs (k : Int)) := by show _ = _; simp [holdsB, hk]
      clear hA hcell
      go_enter Try.func47, Try.ntmps47
      go_wp2
      go_ret
      exact ⟨rb HF.out, rfl⟩
    · have HF : Hid (false = holdsB bs (k : Int)) := by show _ = _; simp [holdsB, List.getElem?_eq_none (Nat.le_of_not_lt hk)]
      clear hA
      go_enter Try.func47, Try.ntmps47
      go_wp2
      go_ret
      exact ⟨rb HF.out, rfl⟩
  · have HF : Hid (false = holdsB bs at_) := by show _ = _; simp [holdsB, h0]
    clear hA
    go_enter Try.func47, Try.ntmps47
    go_wp2
    go_ret
    exact ⟨rb HF.out, rfl⟩

/-- A value is right: plain, or the place of an object. -/
def rightB (bs : List Bool) (v : Int) : Bool := !isP v || (decide (0 < v) && (bs[(v / 8).toNat]?.getD false))

theorem holdsB_div (bs : List Bool) (v : Int) (hv : 0 < v) : holdsB bs (v / 8) = (bs[(v / 8).toNat]?.getD false) := by
  simp [holdsB, show 0 ≤ v / 8 by omega]

set_option maxHeartbeats 400000 in
theorem right_any {w : World} {B b t : Nat} {cs : Array Value} {vw vb : Value} {ws : List Int} {bs : List Bool} (h : Sp w B b t cs vw vb ws bs) (v : Int) (hi : I64 v) :
    Calls Try.prog 33 #[.pointer (some ⟨b, 0, none⟩), .int .i64 v] w fun e w' => e = .returned (.bool (rightB bs v)) ∧ w = w' := by
  obtain ⟨hlo, hhi⟩ := hi
  by_cases hp : isP v = true
  · by_cases hv : 0 < v
    · have HF : Hid (holdsB bs (v / 8) = rightB bs v) := by show _ = _; rw [holdsB_div bs v hv]; simp [rightB, hp, hv]
      cases hh : holdsB bs (v / 8)
      all_goals
        rw [hh] at HF
        go_enter Try.func33, Try.ntmps33
        go_wp2_with (first | (go_at_call 37; refine (pointer_any _ _).mono ?_; rintro e w' ⟨rfl, rfl⟩) | (go_at_call 47; refine (holds_any h _).mono ?_; rintro e w' ⟨rfl, rfl⟩))
        go_ret
        exact ⟨rb HF.out, rfl⟩
    · have HF : Hid (false = rightB bs v) := by show _ = _; simp [rightB, hp, hv]
      have hd : decide (0 < v) = false := by simp [hv]
      cases hh : holdsB bs (v.tdiv 8)
      all_goals
        go_enter Try.func33, Try.ntmps33
        go_wp2_with (first | (go_at_call 37; refine (pointer_any _ _).mono ?_; rintro e w' ⟨rfl, rfl⟩) | (go_at_call 47; refine (holds_any h _).mono ?_; rintro e w' ⟨rfl, rfl⟩))
        go_ret
        exact ⟨rb HF.out, rfl⟩
  · have HF : Hid (true = rightB bs v) := by show _ = _; simp [rightB, hp]
    go_enter Try.func33, Try.ntmps33
    go_wp2_with (first | (go_at_call 37; refine (pointer_any _ _).mono ?_; rintro e w' ⟨rfl, rfl⟩) | (go_at_call 47; refine (holds_any h _).mono ?_; rintro e w' ⟨rfl, rfl⟩))
    go_ret
    exact ⟨rb HF.out, rfl⟩

end Go.Proofs.Ytkmfohocicngaaa
