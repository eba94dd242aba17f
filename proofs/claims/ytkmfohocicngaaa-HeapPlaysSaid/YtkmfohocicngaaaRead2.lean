/- The heap's readers, second part: sizes, fields, objects. -/
import Derived.Test.YtkmfohocicngaaaRead
namespace Go.Proofs.Ytkmfohocicngaaa
open Go.RowKit

set_option maxHeartbeats 400000 in
theorem size_any {w : World} {B b t : Nat} {cs : Array Value} {vw vb : Value} {ws : List Int} {bs : List Bool} (h : Sp w B b t cs vw vb ws bs) (k : Nat) (x : Int) (hx : ws[k]? = some x) (h0 : 0 ≤ x) (h1 : x ≤ 9223372036854775807) :
    Calls Try.prog 39 #[.pointer (some ⟨b, 0, none⟩), .int .i64 k] w fun e w' => e = .returned (.int .i64 (x / 16)) ∧ w = w' := by
  obtain ⟨A, c, rfl, hnc, hcm, hl, hA0, hA⟩ := own_form h.ow
  have hlw := h.lw
  have hc0 : w.cell? ⟨b, 0, none⟩ = some (.slice A ws.length c) := by rw [h.blk.cell]; exact h.c0
  have hk : k < ws.length := (List.getElem?_eq_some_iff.1 hx).1
  obtain ⟨g, hg⟩ := own_some h.ow (by omega)
  obtain ⟨rfl, _, _, _, hcell⟩ := hA g hg
  have hcx := hcell k (.int .i64 x) (by simp [hx])
  clear hA hcell hx hA0 hg
  go_enter Try.func39, Try.ntmps39
  go_wp2
  go_ret
  exact ⟨rfl, rfl⟩

theorem rsl {A A' : Option Addr} {n n' c c' : Nat} (hA : A = A') (hn : n = n') (hc : c = c') : Ending.returned (.slice A n c) = .returned (.slice A' n' c') := by rw [hA, hn, hc]

theorem tdiv8 (p : Int) (hp : I64 p) : wrap64 (p.tdiv 8) = p.tdiv 8 := by
  obtain ⟨h1, h2⟩ := hp
  have hb : -9223372036854775808 ≤ p.tdiv 8 ∧ p.tdiv 8 ≤ 9223372036854775807 := by
    rcases Int.le_total 0 p with h | h
    · rw [Int.tdiv_eq_ediv_of_nonneg h]; omega
    · have e : p.tdiv 8 = -((-p) / 8) := by
        rw [← Int.tdiv_eq_ediv_of_nonneg (by omega : 0 ≤ -p), Int.neg_tdiv]; omega
      rw [e]; omega
  unfold wrap64
  rw [Int.emod_eq_of_lt] <;> omega

/-- The value that stands for an object's fields: a piece of the words. -/
def FieldsAt (vw : Value) (k n : Nat) (w : World) (e : Ending) (w' : World) : Prop :=
  ∃ g ad c, vw.ownBlock = some g ∧ e = .returned (.slice (some ad) n c) ∧ n ≤ c ∧ ad.block = g ∧ (0 < n → ad = ⟨g, k + 1, none⟩) ∧ ∃ m, w' = w.drewN m

/-- Where an object's fields begin. -/
def fieldsA (g c k : Nat) : Addr := if c = k + 1 then ⟨g, 0, none⟩ else ⟨g, k + 1, none⟩

def FieldsIs (w : World) (g c k n : Nat) (e : Ending) (w' : World) : Prop :=
  e = .returned (.slice (some (fieldsA g c k)) n (c - (k + 1))) ∧ ∃ m, w' = w.drewN m

set_option maxHeartbeats 400000 in
theorem fields_core {w : World} {b g c k n len : Nat} (hc0 : w.cell? ⟨b, 0, none⟩ = some (.slice (some ⟨g, 0, none⟩) len c)) (hsz : ∀ j, Calls Try.prog 39 #[.pointer (some ⟨b, 0, none⟩), .int .i64 k] (w.drewN j) fun e w' => e = .returned (.int .i64 (n : Int)) ∧ w.drewN j = w')
    (hnc : len ≤ c) (hlw : len ≤ 140737488351232) (hkn : k + 1 + n ≤ len) (hcm : c ≤ maxLen) :
    Calls Try.prog 38 #[.pointer (some ⟨b, 0, none⟩), .int .i64 k] w (FieldsIs w g c k n) := by
  by_cases hck : c = k + 1
  · subst hck
    have HA : Hid (fieldsA g (k + 1) k = ⟨g, 0, none⟩) := if_pos rfl
    go_enter Try.func38, Try.ntmps38
    go_wp2_with fail
    go_quiet ((go_at_call 39; refine Calls.quiet_of_same ((hsz _).mono fun _ _ hh => ⟨hh.1, hh.2.symm⟩)))
    go_wp2_with fail
    go_ret
    exact ⟨rsl (by rw [HA.out]) (by omega) (by omega), _, rfl⟩
  · have HA : Hid (fieldsA g c k = ⟨g, k + 1, none⟩) := if_neg hck
    go_enter Try.func38, Try.ntmps38
    go_wp2_with fail
    go_quiet ((go_at_call 39; refine Calls.quiet_of_same ((hsz _).mono fun _ _ hh => ⟨hh.1, hh.2.symm⟩)))
    go_wp2_with fail
    go_ret
    exact ⟨rsl (by rw [HA.out]) (by omega) (by omega), _, rfl⟩

theorem fields_fix {w : World} {B b t : Nat} {cs : Array Value} {vw vb : Value} {ws : List Int} {bs : List Bool} (h : Sp w B b t cs vw vb ws bs) (k : Nat) (x : Int) (n : Nat) (hx : ws[k]? = some x) (h0 : 0 ≤ x) (h1 : x ≤ 9223372036854775807) (hn : x / 16 = (n : Int)) (hkn : k + 1 + n ≤ ws.length) :
    ∃ g c, vw.ownBlock = some g ∧ ws.length ≤ c ∧ ∀ q, Calls Try.prog 38 #[.pointer (some ⟨b, 0, none⟩), .int .i64 k] (w.drewN q) (FieldsIs (w.drewN q) g c k n) := by
  have hsz := fun j => size_any (h.drewN j) k x hx h0 h1
  obtain ⟨A, c, hv, hnc, hcm, hl, hA0, hA⟩ := own_form h.ow
  have hlw := h.lw
  have hk : k < ws.length := (List.getElem?_eq_some_iff.1 hx).1
  obtain ⟨g, hg⟩ := own_some h.ow (by omega)
  obtain ⟨rfl, _, _, _, _⟩ := hA g hg
  have hc0 : w.cell? ⟨b, 0, none⟩ = some (.slice (some ⟨g, 0, none⟩) ws.length c) := by rw [h.blk.cell, ← hv]; exact h.c0
  rw [hn] at hsz
  refine ⟨g, c, hg, hnc, fun q => fields_core (w := w.drewN q) hc0 (fun j => ?_) hnc hlw hkn hcm⟩
  have := hsz (q + j)
  rw [← World.drewN_drewN] at this
  exact this

theorem fieldsA_block (g c k : Nat) : (fieldsA g c k).block = g := by unfold fieldsA; split <;> rfl

theorem fields_any {w : World} {B b t : Nat} {cs : Array Value} {vw vb : Value} {ws : List Int} {bs : List Bool} (h : Sp w B b t cs vw vb ws bs) (k : Nat) (x : Int) (n : Nat) (hx : ws[k]? = some x) (h0 : 0 ≤ x) (h1 : x ≤ 9223372036854775807) (hn : x / 16 = (n : Int)) (hkn : k + 1 + n ≤ ws.length) :
    Calls Try.prog 38 #[.pointer (some ⟨b, 0, none⟩), .int .i64 k] w (FieldsAt vw k n w) := by
  obtain ⟨g, c, hg, hc, hf⟩ := fields_fix h k x n hx h0 h1 hn hkn
  refine (hf 0).mono ?_
  rintro e w' ⟨rfl, m, rfl⟩
  exact ⟨g, _, _, hg, rfl, by omega, fieldsA_block _ _ _, fun hn => if_neg (by omega), m, rfl⟩

/-- A heap: its block, what it holds. -/
structure Hp (w : World) (B b : Nat) (vw vb : Value) (lim : Int) (ws : List Int) (bs : List Bool) : Prop where
  sp : Sp w B b 58 #[vw, vb, .int .i64 lim, .bool true] vw vb ws bs
  l0 : 0 ≤ lim
  l1 : lim ≤ 4194304
  len : ws.length ≤ lim

theorem Hp.drewN {w : World} {B b : Nat} {vw vb : Value} {lim : Int} {ws : List Int} {bs : List Bool} (h : Hp w B b vw vb lim ws bs) (n : Nat) : Hp (w.drewN n) B b vw vb lim ws bs := ⟨h.sp.drewN n, h.l0, h.l1, h.len⟩

set_option maxHeartbeats 400000 in
theorem bad_made {w : World} {B b : Nat} {vw vb : Value} {lim : Int} {ws : List Int} {bs : List Bool} (h : Hp w B b vw vb lim ws bs) :
    Calls Try.prog 30 #[.pointer (some ⟨b, 0, none⟩)] w fun e w' => e = .returned (.bool false) ∧ w = w' := by
  have hc2 : w.cell? ⟨b, 3, none⟩ = some (.bool true) := by rw [h.sp.blk.cell]; rfl
  go_enter Try.func30, Try.ntmps30
  go_wp2
  go_ret
  exact ⟨rfl, rfl⟩

set_option maxHeartbeats 400000 in
theorem bad_nil (w : World) :
    Calls Try.prog 30 #[.pointer none] w fun e w' => e = .returned (.bool true) ∧ w = w' := by
  go_enter Try.func30, Try.ntmps30
  go_wp2
  go_ret
  exact ⟨rfl, rfl⟩

set_option maxHeartbeats 400000 in
theorem bad_bare (w : World) (b : Nat) (hc2 : w.cell? ⟨b, 3, none⟩ = some (.bool false)) :
    Calls Try.prog 30 #[.pointer (some ⟨b, 0, none⟩)] w fun e w' => e = .returned (.bool true) ∧ w = w' := by
  go_enter Try.func30, Try.ntmps30
  go_wp2
  go_ret
  exact ⟨rfl, rfl⟩

set_option maxHeartbeats 400000 in
theorem used_made {w : World} {B b : Nat} {vw vb : Value} {lim : Int} {ws : List Int} {bs : List Bool} (h : Hp w B b vw vb lim ws bs) :
    Calls Try.prog 12 #[.pointer (some ⟨b, 0, none⟩)] w fun e w' => e = .returned (.int .i64 ws.length) ∧ w = w' := by
  obtain ⟨A, c, rfl, hnc, hcm, hl, hA0, hA⟩ := own_form h.sp.ow
  have hc0 : w.cell? ⟨b, 0, none⟩ = some (.slice A ws.length c) := by rw [h.sp.blk.cell]; rfl
  clear hA hA0
  go_enter Try.func12, Try.ntmps12
  go_wp2_with (go_at_call 30; refine (bad_made h).mono ?_; rintro e w' ⟨rfl, rfl⟩)
  go_ret
  exact ⟨rfl, rfl⟩

set_option maxHeartbeats 400000 in
theorem object_made {w : World} {B b : Nat} {vw vb : Value} {lim : Int} {ws : List Int} {bs : List Bool} (h : Hp w B b vw vb lim ws bs) (p : Int) (hp : I64 p) :
    Calls Try.prog 40 #[.pointer (some ⟨b, 0, none⟩), .int .i64 p] w fun e w' => e = .returned (.tuple #[.int .i64 (p.tdiv 8), .bool (isP p && rightB bs p)]) ∧ w = w' := by
  have hbm := bad_made h
  have hrt := right_any h.sp p hp
  have hw := tdiv8 p hp
  obtain ⟨hlo, hhi⟩ := hp
  cases hpp : isP p
  · go_enter Try.func40, Try.ntmps40
    go_wp2_with (first | (go_at_call 30; refine hbm.mono ?_; rintro e w' ⟨rfl, rfl⟩) | (go_at_call 37; refine (pointer_any _ _).mono ?_; rintro e w' ⟨rfl, rfl⟩))
    go_ret2
    exact ⟨by simp, rfl⟩
  · go_enter Try.func40, Try.ntmps40
    go_wp2_with (first | (go_at_call 30; refine hbm.mono ?_; rintro e w' ⟨rfl, rfl⟩) | (go_at_call 37; refine (pointer_any _ _).mono ?_; rintro e w' ⟨rfl, rfl⟩) | (go_at_call 33; refine hrt.mono ?_; rintro e w' ⟨rfl, rfl⟩))
    go_ret2
    exact ⟨by simp, rfl⟩
end Go.Proofs.Ytkmfohocicngaaa
