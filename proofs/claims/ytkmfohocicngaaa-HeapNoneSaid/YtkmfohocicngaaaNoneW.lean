/- HeapNone, walked: a heap that is none. -/
import Derived.Test.YtkmfohocicngaaaRoom
namespace Go.Proofs.Ytkmfohocicngaaa
open Go.RowKit

/-- A heap that is nil, or that New has not made. -/
def BadH (w : World) (A : Option Addr) : Prop := A = none ∨ ∃ b, A = some ⟨b, 0, none⟩ ∧ Blk w b 58 #[.slice none 0 0, .slice none 0 0, .int .i64 0, .bool false]

section
variable {w w1 : World} {A : Option Addr}

theorem BadH.keep (h : BadH w A) (hu : Upd (fun _ => False) w w1) : BadH w1 A := by
  rcases h with rfl | ⟨b, rfl, hb⟩
  · exact .inl rfl
  · exact .inr ⟨b, rfl, hu.blk hb (fun h => h)⟩

theorem BadH.bad (h : BadH w A) : Calls Try.prog 30 #[.pointer A] w fun e w' => e = .returned (.bool true) ∧ w = w' := by
  rcases h with rfl | ⟨b, rfl, hb⟩
  · exact bad_nil w
  · exact bad_bare w b (by rw [hb.cell]; rfl)

set_option maxHeartbeats 400000 in
theorem BadH.object (h : BadH w A) (p : Int) : Calls Try.prog 40 #[.pointer A, .int .i64 p] w fun e w' => e = .returned (.tuple #[.int .i64 (wrap64 (p.tdiv 8)), .bool false]) ∧ w = w' := by
  have hb := h.bad
  clear h
  obtain ⟨q, hq⟩ : ∃ q, q = wrap64 (p.tdiv 8) := ⟨_, rfl⟩
  go_enter Try.func40, Try.ntmps40
  go_wp2_with (go_at_call 30; refine hb.mono ?_; rintro e w' ⟨rfl, rfl⟩)
  go_ret2
  exact ⟨rfl, rfl⟩

set_option maxHeartbeats 400000 in
theorem BadH.alloc (h : BadH w A) (kind : Int) (S : Option Addr) (n c : Nat) : Calls Try.prog 11 #[.pointer A, .int .i64 kind, .slice S n c] w (Same1 w 0 1) := by
  have hb := (h.keep (Upd.alloc (fun _ => False) w (.cells #[.pointer A] 24))).bad
  have hu := hide (Upd.alloc (fun _ => False) w (.cells #[.pointer A] 24))
  clear h
  go_enter Try.func11, Try.ntmps11
  go_wp2_with (go_at_call 30; refine hb.mono ?_; rintro e w' ⟨rfl, rfl⟩)
  go_ret2
  exact ⟨rfl, hu.out⟩

def CollNo (w : World) (e : Ending) (w' : World) : Prop := e = .returned (.tuple #[.slice none 0 0, .int .i64 1]) ∧ Upd (fun _ => False) w w'

set_option maxHeartbeats 400000 in
theorem BadH.collect (h : BadH w A) (S : Option Addr) (n c : Nat) : Calls Try.prog 13 #[.pointer A, .slice S n c] w (CollNo w) := by
  have hb := (h.keep (Upd.alloc (fun _ => False) w (.cells #[.pointer A] 24))).bad
  have hu := hide (Upd.alloc (fun _ => False) w (.cells #[.pointer A] 24))
  clear h
  go_enter Try.func13, Try.ntmps13
  go_wp2_with (go_at_call 30; refine hb.mono ?_; rintro e w' ⟨rfl, rfl⟩)
  go_ret2
  exact ⟨rfl, hu.out⟩

set_option maxHeartbeats 400000 in
theorem BadH.used (h : BadH w A) : Calls Try.prog 12 #[.pointer A] w fun e w' => e = .returned (.int .i64 0) ∧ w = w' := by
  have hb := h.bad
  clear h
  go_enter Try.func12, Try.ntmps12
  go_wp2_with (go_at_call 30; refine hb.mono ?_; rintro e w' ⟨rfl, rfl⟩)
  go_ret
  exact ⟨rfl, rfl⟩
end

def NoneRel (w wr : World) (bs b : Nat) : Prop :=
  Below w.heap.size w wr ∧ Blk wr bs 24 #[.pointer none, .pointer (some ⟨b, 0, none⟩)] ∧ Blk wr b 58 #[.slice none 0 0, .slice none 0 0, .int .i64 0, .bool false]

theorem NoneRel.keep {w wr w1 : World} {bs b : Nat} (h : NoneRel w wr bs b) (hu : Upd (fun _ => False) wr w1) : NoneRel w w1 bs b :=
  ⟨Below.upd h.1 hu fun _ h => h.elim, hu.blk h.2.1 (fun h => h), hu.blk h.2.2 (fun h => h)⟩

theorem NoneRel.heap {w wr : World} {bs b : Nat} (h : NoneRel w wr bs b) {k : Nat} (hk : k < 2) : ∃ A, wr.cell? ⟨bs, k, none⟩ = some (.pointer A) ∧ BadH wr A := by
  match k, hk with
  | 0, _ => exact ⟨none, by rw [h.2.1.cell]; rfl, .inl rfl⟩
  | 1, _ => exact ⟨_, by rw [h.2.1.cell]; rfl, .inr ⟨b, rfl, h.2.2⟩⟩

set_option maxRecDepth 100000 in
set_option maxHeartbeats 2000000 in
theorem none_walk (p i v : Int) (S : Option Addr) (n c : Nat) (w : World) : Calls Try.prog 8 #[.int .i64 p, .int .i64 i, .int .i64 v, .slice S n c] w fun e w' => e = .returned (.bool true) ∧ Below w.heap.size w w' := by
  go_enter Try.func8, Try.ntmps8
  go_wp2_with (go_at_call 9; refine (awake_any _).mono ?_; rintro e w1 ⟨rfl, hb1⟩; have HB1 := hide hb1; clear hb1)
  have HR : Hid (NoneRel w ((w1.alloc (.cells #[.slice none 0 0, .slice none 0 0, .int .i64 0, .bool false] 58)).alloc (.cells #[.pointer none, .pointer (some ⟨w1.heap.size, 0, none⟩)] 24)) (w1.heap.size + 1) w1.heap.size) := by
    refine ⟨(HB1.out.alloc HB1.out.size _).alloc (by have := HB1.out.size; simp; omega) _, ?_, (Upd.alloc (fun _ => False) _ _).blk (Blk.new w1 58 _) (fun h => h)⟩
    have := Blk.new (w1.alloc (.cells #[.slice none 0 0, .slice none 0 0, .int .i64 0, .bool false] 58)) 24 #[.pointer none, .pointer (some ⟨w1.heap.size, 0, none⟩)]
    simpa using this
  generalize (w1.alloc (.cells #[.slice none 0 0, .slice none 0 0, .int .i64 0, .bool false] 58)).alloc (.cells #[.pointer none, .pointer (some ⟨w1.heap.size, 0, none⟩)] 24) = w2 at HR ⊢
  generalize w1.heap.size + 1 = bs at HR ⊢
  generalize w1.heap.size = b at HR ⊢
  clear HB1
  go_loopw [12] (fun kv wr => ∃ k : Nat, k ≤ 2 ∧ kv = .int .i64 k ∧ NoneRel w wr bs b) (fun kv _ => 2 - (intOf kv).toNat)
  case atStart => exact ⟨0, by decide, rfl, HR.out⟩
  case round =>
    obtain ⟨k, hk, rfl, hr⟩ := hrel
    have HR1 := hide hr
    clear hr
    by_cases hlt : k < 2
    · obtain ⟨A, hA, hb⟩ := HR1.out.heap hlt
      have HB := hide hb
      clear hb
      go_wp2_with (first
        | (go_at_call 11; refine (HB.out.alloc _ _ _ _).mono ?_; rintro e w3 ⟨rfl, hu3⟩; have HB3 := hide (HB.out.keep hu3); have HU3 := hide hu3; clear hu3)
        | (go_at_call 24; refine (kind_no (HB3.out.object _)).mono ?_; rintro e w' ⟨rfl, rfl⟩)
        | (go_at_call 14; refine (fields_no (HB3.out.object _)).mono ?_; rintro e w' ⟨rfl, rfl⟩)
        | (go_at_call 17; refine (set_no1 (HB3.out.object _)).mono ?_; rintro e w' ⟨rfl, rfl⟩)
        | (go_at_call 13; refine (HB3.out.collect _ _ _).mono ?_; rintro e w4 ⟨rfl, hu4⟩; have HB4 := hide (HB3.out.keep hu4); have HU4 := hide hu4; clear hu4)
        | (go_at_call 12; refine HB4.out.used.mono ?_; rintro e w' ⟨rfl, rfl⟩))
      go_roundw
      case rel => exact ⟨k + 1, by omega, by go_num, (HR1.out.keep HU3.out).keep HU4.out⟩
      case measure => simp [intOf]; omega
    · go_wp2
      go_ret
      exact ⟨rb rfl, HR1.out.1⟩
end Go.Proofs.Ytkmfohocicngaaa
