/- 'MovesRings', walked: the law's own function. -/
import Derived.Test.YtkmgdnhedafomaaMLr
import Derived.Lib.OwnKind
namespace Go.Proofs.Ytkmgdnhedafomaa
open Go.RowKit

/-- A row that grows. -/
structure OneR (w wr : World) (v : Value) (k : Nat) (xs : List Int) : Prop where
  o1 : wr.ownsRow w.heap.size 3 1 v k (xs.map (.int .i64))
  upd : Upd (fun _ => False) w wr

/-- A row of ints that grows beside a list of moves. -/
structure BesR (w wr : World) (v : Value) (k : Nat) (xs : List Int) (B : Nat) (u : Value) (m : Nat) (ms : List (Int × Int)) : Prop where
  o1 : wr.ownsRow w.heap.size 3 1 v k (xs.map (.int .i64))
  o2 : wr.ownsRow B 32 2 u m (mcells ms)
  upd : Upd (fun _ => False) w wr

section
variable {w wr w' : World} {v u : Value} {k m B : Nat} {xs : List Int} {ms : List (Int × Int)}

theorem OneR.same (h : OneR w wr v k xs) (hu : Upd (fun _ => False) wr w') : OneR w w' v k xs :=
  ⟨hu.own h.o1 (fun _ _ h => h), h.upd.trans hu⟩

theorem OneR.app (h : OneR w wr v k xs) {v' : Value} {x : Int} (ho : w'.ownsRow w.heap.size 3 1 v' (k + 1) (xs.map (Value.int .i64) ++ [.int .i64 x])) (hu : Upd (fun q => v.ownBlock = some q) wr w') : OneR w w' v' (k + 1) (xs ++ [x]) :=
  ⟨by rw [List.map_append]; exact ho, h.upd.extend hu fun q hq => .inr (own_lo h.o1 hq)⟩

theorem OneR.start (w : World) : OneR w w (.slice none 0 0) 0 [] := ⟨World.ownsRow_nil _ _ _ _, Upd.refl _ _⟩

theorem BesR.same (h : BesR w wr v k xs B u m ms) (hu : Upd (fun _ => False) wr w') : BesR w w' v k xs B u m ms :=
  ⟨hu.own h.o1 (fun _ _ h => h), hu.own h.o2 (fun _ _ h => h), h.upd.trans hu⟩

theorem BesR.app (h : BesR w wr v k xs B u m ms) {v' : Value} {x : Int} (ho : w'.ownsRow w.heap.size 3 1 v' (k + 1) (xs.map (Value.int .i64) ++ [.int .i64 x])) (hu : Upd (fun q => v.ownBlock = some q) wr w') : BesR w w' v' (k + 1) (xs ++ [x]) B u m ms :=
  ⟨by rw [List.map_append]; exact ho, hu.own h.o2 (fun q hq e => by
    obtain ⟨c, fz, h1⟩ := Go.Lib.ownsRow_kind h.o1 q e
    obtain ⟨c', fz', h2⟩ := Go.Lib.ownsRow_kind h.o2 q hq
    rw [h1] at h2
    injection h2 with h2
    injection h2 with _ h3
    exact absurd h3 (by decide)), h.upd.extend hu fun q hq => .inr (own_lo h.o1 hq)⟩
end

set_option maxRecDepth 100000 in
set_option maxHeartbeats 4000000 in
theorem rings_walk (n m : Int) (w : World) : Calls Try.prog 6 #[.int .i64 n, .int .i64 m] w (BoolN w true) := by
  have HAW := hide (awake_any (w := w))
  have h15 : bits BinOp.and IntKind.i64 n 15 = n % 16 := bits_mask 4 (by decide) n
  have g15 : bits BinOp.and IntKind.i64 m 15 = m % 16 := bits_mask 4 (by decide) m
  have hm0 : 0 ≤ n % 16 := Int.emod_nonneg _ (by decide)
  have hm1 : n % 16 < 16 := Int.emod_lt_of_pos _ (by decide)
  have hb0 : 0 ≤ m % 16 := Int.emod_nonneg _ (by decide)
  have hb1 : m % 16 < 16 := Int.emod_lt_of_pos _ (by decide)
  obtain ⟨a, ha⟩ : ∃ a : Nat, 2 + n % 16 = (a : Int) := ⟨(2 + n % 16).toNat, by omega⟩
  obtain ⟨b, hb⟩ : ∃ b : Nat, 2 + m % 16 = (b : Int) := ⟨(2 + m % 16).toNat, by omega⟩
  have ha1 : 2 ≤ a := by omega
  have ha2 : a ≤ 17 := by omega
  have hbb1 : 2 ≤ b := by omega
  have hbb2 : b ≤ 17 := by omega
  have HT0 : Hid (∀ w2 : World, OneR w2 w2 (.slice none 0 0) 0 (ringL a 0)) := fun w2 => OneR.start w2
  go_enter Try.func6, Try.ntmps6
  go_wp2_with (go_at_call 8; refine HAW.out.mono ?_; rintro e w1 ⟨rfl, hu⟩; have HU1 := hide hu; clear hu)
  have HT1 := hide (HT0.out w1)
  clear h15 g15 hm0 hm1 hb0 hb1 HT0 ha hb HAW
  go_loopw [8, 9] (fun pv iv wr => ∃ (i : Nat) (A3 : Option Addr) (c3 : Nat), i ≤ a ∧ pv = .slice A3 i c3 ∧ iv = .int .i64 i ∧ Hid (OneR w1 wr (.slice A3 i c3) i (ringL a i))) (fun _ iv _ => a - (intOf iv).toNat)
  case atStart => exact ⟨0, none, 0, Nat.zero_le _, rfl, rfl, HT1.out⟩
  case round =>
    clear HT1
    obtain ⟨i, A3, c3, hi, rfl, rfl, HT⟩ := hrel
    by_cases hik : i < a
    · have HTA := hide (HT.out.same (Upd.alloc (fun _ => False) wr (.cells #[.int .i64 (((i : Int) + 1) % (a : Int))] 3)))
      have hza := HTA.out.upd.size
      have HS1 := hide (ringL_succ a i)
      go_wp2_with (at_builtin; refine wpList_app (v := .slice A3 i c3) (u := .slice (some ⟨wr.heap.size, 0, none⟩) 1 1) Try.ints rfl (.tmp 27) (.tmp 32) rfl rfl HTA.out.o1 rfl (Rd.new1 _ (.int .i64 (((i : Int) + 1) % (a : Int))) 3 rfl) (by simp [Value.oneCell']) (i + 1) rfl (by omega) (by omega) hza ?_; intro A5 c5 w5 own5 u5 at5 ne5; have HT5 := hide (HTA.out.app own5 u5); clear own5 u5 at5 ne5)
      go_roundw
      case rel => exact ⟨i + 1, A5, c5, by omega, rfl, by go_num, by rw [HS1.out]; exact HT5.out⟩
      case measure => simp [intOf]; omega
    · obtain rfl : i = a := by omega
      obtain ⟨ms1, hr1, hl1, hc1⟩ := ring_one ha1 ha2
      have ho1 := order_any (s := 100) (Rd.of_own HT.out.o1) (by simp [ringL]) (by omega) ⟨by omega, by omega⟩
      rw [hr1] at ho1
      have HO1 := hide ho1
      have HL1 := hide hl1
      have HC1 := hide hc1
      clear ho1 hr1 hl1 hc1
      go_upto_region 10 with (go_at_call 9; refine HO1.out.mono ?_; clear HO1; rintro e w2 ⟨A5, n5, c5, rfl, HN5, HO5⟩; obtain rfl : n5 = i + 1 := HN5.out.trans HL1.out; have HB0 : Hid (BesR w1 w2 (.slice A3 i c3) (i + 0) (ring2L i b 0) wr.heap.size (.slice A5 (i + 1) c5) (i + 1) ms1) := (by rw [ring2L_zero]; exact ⟨HO5.out.2.own HT.out.o1 (fun _ _ h => h), HO5.out.1, HT.out.upd.trans HO5.out.2⟩); clear HO5)
      clear HT hik hi
      generalize wr.heap.size = B1 at HB0
      clear HN5
      go_wp2
      go_loopw [8, 12] (fun pv jv wr => ∃ (j : Nat) (A3 : Option Addr) (c3 : Nat), j ≤ b ∧ pv = .slice A3 (i + j) c3 ∧ jv = .int .i64 j ∧ Hid (BesR w1 wr (.slice A3 (i + j) c3) (i + j) (ring2L i b j) B1 (.slice A5 (i + 1) c5) (i + 1) ms1)) (fun _ jv _ => b - (intOf jv).toNat)
      case atStart => exact ⟨0, A3, c3, Nat.zero_le _, rfl, rfl, HB0.out⟩
      case round =>
        clear HB0
        obtain ⟨j, A6, c6, hj, rfl, rfl, HT⟩ := hrel
        by_cases hjk : j < b
        · have HTA := hide (HT.out.same (Upd.alloc (fun _ => False) wr (.cells #[.int .i64 ((i : Int) + ((j : Int) + 1) % (b : Int))] 3)))
          have hza := HTA.out.upd.size
          have HS1 := hide (ring2L_succ i b j)
          have hm0 : 0 ≤ ((j : Int) + 1) % (b : Int) := Int.emod_nonneg _ (by omega)
          have hm1 : ((j : Int) + 1) % (b : Int) < (b : Int) := Int.emod_lt_of_pos _ (by omega)
          go_wp2_with (at_builtin; refine wpList_app (v := .slice A6 (i + j) c6) (u := .slice (some ⟨wr.heap.size, 0, none⟩) 1 1) Try.ints rfl (.tmp 44) (.tmp 51) rfl rfl HTA.out.o1 rfl (Rd.new1 _ (.int .i64 ((i : Int) + ((j : Int) + 1) % (b : Int))) 3 rfl) (by simp [Value.oneCell']) (i + (j + 1)) rfl (by omega) (by omega) hza ?_; intro A7 c7 w5 own5 u5 at5 ne5; have HT5 := hide (HTA.out.app own5 u5); clear own5 u5 at5 ne5)
          go_roundw
          case rel => exact ⟨j + 1, A7, c7, by omega, rfl, by go_num, by rw [HS1.out]; exact HT5.out⟩
          case measure => simp [intOf]; omega
        · obtain rfl : j = b := by omega
          obtain ⟨ms2, hr2, hl2, hc2⟩ := ring_two ha1 ha2 hbb1 hbb2
          have ho2 := order_any (s := 100) (Rd.of_own HT.out.o1) (by simp [ring2L_len]) (by omega) ⟨by omega, by omega⟩
          rw [hr2] at ho2
          have HO2 := hide ho2
          have HL2 := hide hl2
          have HC2 := hide hc2
          clear ho2 hr2 hl2 hc2
          have HM1 := hide (MRd.of_own HT.out.o2 HL1.out.symm)
          have HUa := hide (HU1.out.trans HT.out.upd)
          clear HT
          go_upto_region 15 with (go_at_call 9; refine HO2.out.mono ?_; clear HO2; rintro e w3 ⟨A8, n8, c8, rfl, HN8, HO8⟩; obtain rfl : n8 = i + j + 2 := HN8.out.trans HL2.out; have HUb := hide (HUa.out.trans HO8.out.2); have HSP1 := hide (spare_any (c := c5) (HM1.out.keep HO8.out.2) (by omega)); rw [HC1.out] at HSP1; have HSP2 := hide (spare_any (c := c8) (MRd.of_own HO8.out.1 HL2.out.symm) (by omega)); rw [HC2.out] at HSP2; clear HO8)
          go_wp2_with (first | (go_at_call 12; refine HSP1.out.mono ?_; clear HSP1; rintro e w4 ⟨rfl, rfl⟩) | (go_at_call 12; refine HSP2.out.mono ?_; clear HSP2; rintro e w5 ⟨rfl, rfl⟩))
          go_ret
          exact ⟨rfl, HUb.out⟩

end Go.Proofs.Ytkmgdnhedafomaa
