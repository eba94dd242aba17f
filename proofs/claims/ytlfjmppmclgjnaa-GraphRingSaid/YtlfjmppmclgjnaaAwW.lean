/- 'awake', walked. -/
import Derived.Test.YtlfjmppmclgjnaaAw
namespace Go.Proofs.Ytlfjmppmclgjnaa
open Go.RowKit

/-- A literal list. -/
theorem Rd.lit {w : World} {b : Nat} {cs : Array Value} {xs : List Int} (h : Blk w b 3 cs) (hc : cs = (xs.map (Value.int .i64)).toArray) {n c : Nat} (hn : n = xs.length) : Rd w (.slice (some ⟨b, 0, none⟩) n c) 1 n (xs.map (.int .i64)) := by
  refine ⟨_, _, rfl, by simp [hn], fun h => by simp at h, fun ad had j u hu => ?_⟩
  injection had with had
  subst had
  rw [Addr.add_lit, Nat.zero_add, h.cell, hc]
  simpa using hu

/-- The laws' own graph, as it is laid. -/
theorem g0_read (w : World) : GRd (((w.alloc (.cells #[.int .i64 1] 3)).alloc (.cells #[.int .i64 0, .int .i64 2] 3)).alloc (.cells #[.slice (some ⟨w.heap.size, 0, none⟩) 1 1, .slice (some ⟨w.heap.size + 1, 0, none⟩) 2 2, .slice none 0 0] 23)) (some ⟨w.heap.size + 1 + 1, 0, none⟩) 3 g0 := by
  have b1 : Blk (w.alloc (.cells #[.int .i64 1] 3)) w.heap.size 3 #[.int .i64 1] := Blk.new _ _ _
  have u2 := Upd.alloc (fun _ => False) (w.alloc (.cells #[.int .i64 1] 3)) (.cells #[.int .i64 0, .int .i64 2] 3)
  have b2 := Blk.new (w.alloc (.cells #[.int .i64 1] 3)) 3 #[.int .i64 0, .int .i64 2]
  rw [show (w.alloc (.cells #[.int .i64 1] 3)).heap.size = w.heap.size + 1 by simp] at b2
  have b1' := u2.blk b1 (fun h => h)
  have u3 := Upd.alloc (fun _ => False) ((w.alloc (.cells #[.int .i64 1] 3)).alloc (.cells #[.int .i64 0, .int .i64 2] 3)) (.cells #[.slice (some ⟨w.heap.size, 0, none⟩) 1 1, .slice (some ⟨w.heap.size + 1, 0, none⟩) 2 2, .slice none 0 0] 23)
  have b3 := Blk.new ((w.alloc (.cells #[.int .i64 1] 3)).alloc (.cells #[.int .i64 0, .int .i64 2] 3)) 23 #[.slice (some ⟨w.heap.size, 0, none⟩) 1 1, .slice (some ⟨w.heap.size + 1, 0, none⟩) 2 2, .slice none 0 0]
  rw [show ((w.alloc (.cells #[.int .i64 1] 3)).alloc (.cells #[.int .i64 0, .int .i64 2] 3)).heap.size = w.heap.size + 1 + 1 by simp] at b3
  have b1'' := u3.blk b1' (fun h => h)
  have b2' := u3.blk b2 (fun h => h)
  refine ⟨rfl, fun i xs hi => ?_⟩
  rcases i with _ | _ | _ | i
  · obtain rfl : [1] = xs := by simpa [g0] using hi
    exact ⟨_, _, _, _, _, _, rfl, by rw [Addr.add_lit, b3.cell]; rfl, Rd.lit (xs := [1]) b1'' rfl rfl, rfl, by decide, by unfold I64; simp⟩
  · obtain rfl : [0, 2] = xs := by simpa [g0] using hi
    exact ⟨_, _, _, _, _, _, rfl, by rw [Addr.add_lit, b3.cell]; rfl, Rd.lit (xs := [0, 2]) b2' rfl rfl, rfl, by decide, by unfold I64; simp⟩
  · obtain rfl : [] = xs := by simpa [g0] using hi
    exact ⟨_, _, _, _, _, _, rfl, by rw [Addr.add_lit, b3.cell]; rfl, Rd.nil _, rfl, by decide, by simp⟩
  · simp [g0] at hi

set_option maxHeartbeats 2000000 in
theorem awake_any {w : World} : Calls Try.prog 9 #[] w (BoolN w true) := by
  have hg := g0_read w
  have hu3 := ((Upd.alloc (fun _ => False) w (.cells #[.int .i64 1] 3)).trans (Upd.alloc (fun _ => False) _ (.cells #[.int .i64 0, .int .i64 2] 3))).trans (Upd.alloc (fun _ => False) _ (.cells #[.slice (some ⟨w.heap.size, 0, none⟩) 1 1, .slice (some ⟨w.heap.size + 1, 0, none⟩) 2 2, .slice none 0 0] 23))
  obtain ⟨w3, hw3⟩ : ∃ w3, w3 = ((w.alloc (.cells #[.int .i64 1] 3)).alloc (.cells #[.int .i64 0, .int .i64 2] 3)).alloc (.cells #[.slice (some ⟨w.heap.size, 0, none⟩) 1 1, .slice (some ⟨w.heap.size + 1, 0, none⟩) 2 2, .slice none 0 0] 23) := ⟨_, rfl⟩
  rw [← hw3] at hg hu3
  have HG := hide hg
  have HU3 := hide hu3
  have HC := hide (groups_any (c := 3) hg (by omega) (fun _ => by have := edges0; omega))
  rw [groupsR0] at HC
  have HR : Hid (∀ w4, Upd (fun _ => False) w3 w4 → ∀ b, b = w4.heap.size → Calls Try.prog 11 #[.slice (some ⟨w.heap.size + 1 + 1, 0, none⟩) 3 3, .slice (some ⟨b, 0, none⟩) 1 1] (w4.alloc (.cells #[.int .i64 0] 3)) (ListN (w4.alloc (.cells #[.int .i64 0] 3)) (some [0, 1, 2]))) := by
    rintro w4 hu b rfl
    have := gReach_any (c := 3) (S := [0]) (hg.keep (hu.trans (Upd.alloc (fun _ => False) w4 (.cells #[.int .i64 0] 3)))) (by omega) (Rd.new1 _ (.int .i64 0) _ rfl) rfl (by omega) (fun _ => by have := edges0; omega)
    rw [reachR0] at this
    exact this
  have HW3 := hide hw3.symm
  clear hg hu3 hw3
  go_enter Try.func9, Try.ntmps9
  have HI1 : Hid (∀ (a : Option Addr) (kk : Nat) (W : World), Rd W (.slice a 1 kk) 1 1 ([2].map (.int .i64)) → ∀ b, b = W.heap.size → Calls Try.prog 13 #[.slice a 1 kk, .slice (some ⟨b, 0, none⟩) 1 1] (W.alloc (.cells #[.int .i64 2] 3)) (BoolN W true)) := by
    rintro a kk W hr b rfl
    have hu := Upd.alloc (fun _ => False) W (.cells #[.int .i64 2] 3)
    have h := ints_any (c' := 1) (ys := [2]) (hr.keep hu (fun _ _ h => h)) rfl (Rd.lit (xs := [2]) (Blk.new W 3 #[.int .i64 2]) rfl rfl) rfl (by omega)
    rw [decide_eq_true rfl] at h
    refine h.mono ?_
    rintro e w' ⟨rfl, q, rfl⟩
    exact ⟨rfl, hu.trans (Upd.drewN _ _ _)⟩
  have HI2 : Hid (∀ (a : Option Addr) (kk : Nat) (W : World), Rd W (.slice a 2 kk) 1 2 ([0, 1].map (.int .i64)) → ∀ b, b = W.heap.size → Calls Try.prog 13 #[.slice a 2 kk, .slice (some ⟨b, 0, none⟩) 2 2] (W.alloc (.cells #[.int .i64 0, .int .i64 1] 3)) (BoolN W true)) := by
    rintro a kk W hr b rfl
    have hu := Upd.alloc (fun _ => False) W (.cells #[.int .i64 0, .int .i64 1] 3)
    have h := ints_any (c' := 2) (ys := [0, 1]) (hr.keep hu (fun _ _ h => h)) rfl (Rd.lit (xs := [0, 1]) (Blk.new W 3 #[.int .i64 0, .int .i64 1]) rfl rfl) rfl (by omega)
    rw [decide_eq_true rfl] at h
    refine h.mono ?_
    rintro e w' ⟨rfl, q, rfl⟩
    exact ⟨rfl, hu.trans (Upd.drewN _ _ _)⟩
  have HI3 : Hid (∀ (a : Option Addr) (kk : Nat) (W : World), Rd W (.slice a 3 kk) 1 3 ([0, 1, 2].map (.int .i64)) → ∀ b, b = W.heap.size → Calls Try.prog 13 #[.slice a 3 kk, .slice (some ⟨b, 0, none⟩) 3 3] (W.alloc (.cells #[.int .i64 0, .int .i64 1, .int .i64 2] 3)) (BoolN W true)) := by
    rintro a kk W hr b rfl
    have hu := Upd.alloc (fun _ => False) W (.cells #[.int .i64 0, .int .i64 1, .int .i64 2] 3)
    have h := ints_any (c' := 3) (ys := [0, 1, 2]) (hr.keep hu (fun _ _ h => h)) rfl (Rd.lit (xs := [0, 1, 2]) (Blk.new W 3 #[.int .i64 0, .int .i64 1, .int .i64 2]) rfl rfl) rfl (by omega)
    rw [decide_eq_true rfl] at h
    refine h.mono ?_
    rintro e w' ⟨rfl, q, rfl⟩
    exact ⟨rfl, hu.trans (Upd.drewN _ _ _)⟩
  go_wp2_with fail
  rw [HW3.out]
  refine HC.out.mono ?_
  rintro e w4 ⟨A4, n4, c4, rfl, HN4, HG4⟩
  obtain rfl : n4 = 2 := HN4.out
  obtain ⟨gb, go, gs, a0, m0, k0, rfl, hc0, hd0, hm0, _⟩ := HG4.out.1.2 0 [2] rfl
  obtain rfl : m0 = 1 := hm0
  obtain ⟨a1, m1, k1, hc1, hd1, hm1, _⟩ := HG4.out.1.rowAt (k := 1) (ys := [0, 1]) rfl
  obtain rfl : m1 = 2 := hm1
  have HD0 := hide hd0
  have HD1 := hide hd1
  rw [show (⟨gb, go, gs⟩ : Addr).add 0 = ⟨gb, go, gs⟩ by simp [Addr.add]] at hc0
  have HQ0 := hide hc0
  rw [show (⟨gb, go, gs⟩ : Addr).add 1 = ⟨gb, go + 1, none⟩ by simp [Addr.add]] at hc1
  have HQ1 := hide hc1
  clear hc0 hd0 hc1 hd1
  go_wp2_with (first | (go_at_call 11; refine (HR.out w4 HG4.out.2 _ rfl).mono ?_; rintro e w5 ⟨A5, n5, c5, rfl, HN5, HO5⟩; obtain rfl : n5 = 3 := HN5.out; have hu5 := (Upd.alloc (fun _ => False) w4 (.cells #[.int .i64 0] 3)).trans HO5.out.2; have hc0 := cell_upd hu5 HQ0.out; have hc1 := cell_upd hu5 HQ1.out; have HP0 := hide (HD0.out.keep hu5 (fun _ _ h => h)); have HP1 := hide (HD1.out.keep hu5 (fun _ _ h => h)); have HP2 : Hid (Rd w5 (.slice A5 3 c5) 1 3 ([0, 1, 2].map (.int .i64))) := hide (Rd.of_own HO5.out.1); have HU5 := hide ((HU3.out.trans HG4.out.2).trans hu5); clear hu5) | (go_at_call 13; refine (HI1.out a0 k0 w5 HP0.out _ rfl).mono ?_; rintro e w6 ⟨rfl, hu⟩; have hc2 := cell_upd hu hc1; have HS1 := hide (HP1.out.keep hu (fun _ _ h => h)); have HS2 := hide (HP2.out.keep hu (fun _ _ h => h)); have HU6 := hide (HU5.out.trans hu); clear hu hc0 hc1 HP0) | (go_at_call 13; refine (HI2.out a1 k1 w6 HS1.out _ rfl).mono ?_; rintro e w7 ⟨rfl, hu⟩; have HT2 := hide (HS2.out.keep hu (fun _ _ h => h)); have HU7 := hide (HU6.out.trans hu); clear hu hc2 HS1) | (go_at_call 13; refine (HI3.out A5 c5 w7 HT2.out _ rfl).mono ?_; rintro e w8 ⟨rfl, hu⟩; have HU8 := hide (HU7.out.trans hu); clear hu))
  go_ret
  exact ⟨rfl, HU8.out⟩
end Go.Proofs.Ytlfjmppmclgjnaa
