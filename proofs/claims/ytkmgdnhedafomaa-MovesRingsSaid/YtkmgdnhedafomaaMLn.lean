/- 'MovesNone', walked. -/
import Derived.Test.YtkmgdnhedafomaaMLa
import Derived.Outline
namespace Go.Proofs.Ytkmgdnhedafomaa
open Go.RowKit

theorem bits_mask (m : Nat) (hm : m ≤ 62) (v : Int) : bits BinOp.and IntKind.i64 v ((2 ^ m - 1 : Nat) : Int) = v % ((2 ^ m : Nat) : Int) := by
  have hp : 0 < 2 ^ m := Nat.two_pow_pos m
  have hlt : 2 ^ m ≤ 2 ^ 62 := Nat.pow_le_pow_right (by decide) hm
  have h7 : (BitVec.ofInt 64 ((2 ^ m - 1 : Nat) : Int)) = BitVec.ofNat 64 (2 ^ m - 1) := BitVec.ofInt_natCast _ _
  have hd : 2 ^ m ∣ 2 ^ 64 := Nat.pow_dvd_pow 2 (by omega)
  have hmod : (v % ((2 ^ 64 : Nat) : Int)).toNat % 2 ^ m = (v % ((2 ^ m : Nat) : Int)).toNat := by
    have h1 : 0 ≤ v % ((2 ^ 64 : Nat) : Int) := Int.emod_nonneg _ (by omega)
    have h2 : 0 ≤ v % ((2 ^ m : Nat) : Int) := Int.emod_nonneg _ (by omega)
    have h3 : ((v % ((2 ^ 64 : Nat) : Int)).toNat % 2 ^ m : Nat) = ((v % ((2 ^ 64 : Nat) : Int)) % ((2 ^ m : Nat) : Int)).toNat := by
      rw [Int.toNat_emod h1 (by omega), Int.toNat_natCast]
    rw [h3, Int.emod_emod_of_dvd _ (by exact_mod_cast hd)]
  have hm' : (BitVec.ofInt 64 v &&& BitVec.ofInt 64 ((2 ^ m - 1 : Nat) : Int)).toNat = (v % ((2 ^ m : Nat) : Int)).toNat := by
    rw [h7, BitVec.toNat_and, BitVec.toNat_ofNat, Nat.mod_eq_of_lt (by omega), Nat.and_two_pow_sub_one_eq_mod, BitVec.toNat_ofInt, hmod]
  show IntKind.i64.wrap ((BitVec.ofInt 64 v &&& BitVec.ofInt 64 ((2 ^ m - 1 : Nat) : Int)).toNat : Int) = _
  have h2 : 0 ≤ v % ((2 ^ m : Nat) : Int) := Int.emod_nonneg _ (by omega)
  have h3 : v % ((2 ^ m : Nat) : Int) < ((2 ^ m : Nat) : Int) := Int.emod_lt_of_pos _ (by omega)
  have h4 : ((2 ^ m : Nat) : Int) ≤ ((4611686018427387904 : Nat) : Int) := Int.ofNat_le.2 (Nat.le_trans hlt (by decide))
  rw [hm', IntKind.wrap_i64, Int.toNat_of_nonneg h2]
  omega

def sameL (k : Nat) : List Int := (List.range k).map fun (i : Nat) => (i : Int)
def chL (k d : Nat) : List Int := (List.range k).map fun (i : Nat) => (i : Int) + (d : Int)

theorem sameL_succ (k : Nat) : sameL (k + 1) = sameL k ++ [(k : Int)] := by unfold sameL; rw [List.range_succ, List.map_append]; rfl
theorem chL_succ (k d : Nat) : chL (k + 1) d = chL k d ++ [(k : Int) + (d : Int)] := by unfold chL; rw [List.range_succ, List.map_append]; rfl

theorem not_bad {src : List Int} {s : Int} (h1 : src.length ≤ 1000) (h2 : (src.length : Int) ≤ s) (h3 : s ≤ 1000000) (h4 : ∀ x ∈ src, 0 ≤ x ∧ x ≤ 1000000 ∧ x ≠ s) : badF src s = false := by
  unfold badF
  have : src.any (badV s) = false := by
    rw [List.any_eq_false]
    intro x hx
    obtain ⟨g1, g2, g3⟩ := h4 x hx
    unfold badV
    simp
    omega
  rw [this, decide_eq_false (by omega), decide_eq_false (by omega), decide_eq_false (by omega)]
  rfl

theorem none_same {k : Nat} (hk : k ≤ 63) : orderR (sameL k) 500 = some [] := by
  have hl : (sameL k).length = k := by simp [sameL]
  have hb : badF (sameL k) 500 = false := not_bad (by omega) (by omega) (by decide) fun x hx => by
    obtain ⟨i, hi, rfl⟩ := List.mem_map.1 hx
    have := List.mem_range.1 hi
    omega
  have hL : leftTo (sameL k) (sameL k).length = [] := by
    rw [List.eq_nil_iff_forall_not_mem]
    intro p hp
    obtain ⟨h1, h2, h3⟩ := leftTo_mem.1 hp
    rw [hl] at h1
    rw [List.getD_eq_getElem?_getD, show (sameL k)[p.1]? = some (p.1 : Int) by simp [sameL, h1]] at h2
    exact h3 h2
  unfold orderR
  rw [hb, hL]
  rfl

def chM (k d : Nat) : List (Int × Int) := (List.range k).map fun (i : Nat) => ((i : Int), (i : Int) + (d : Int))

theorem none_chain {k d : Nat} (hk : k ≤ 63) (hd1 : 1 ≤ d) (hd2 : d ≤ 64) : orderR (chL k d) 500 = some (chM k d) := by
  have hl : (chL k d).length = k := by simp [chL]
  have hb : badF (chL k d) 500 = false := not_bad (by omega) (by omega) (by decide) fun x hx => by
    obtain ⟨i, hi, rfl⟩ := List.mem_map.1 hx
    have := List.mem_range.1 hi
    omega
  have hg : ∀ i, i < k → (chL k d).getD i 0 = (i : Int) + (d : Int) := fun i hi => by
    rw [List.getD_eq_getElem?_getD, show (chL k d)[i]? = some ((i : Int) + (d : Int)) by simp [chL, hi]]; rfl
  have hL : leftTo (chL k d) (chL k d).length = (List.range k).map fun (i : Nat) => (i, (i : Int) + (d : Int)) := by
    rw [hl]
    unfold leftTo
    rw [List.filter_eq_self.2 (fun i hi => by
      rw [hg i (List.mem_range.1 hi)]
      simp; omega)]
    apply List.map_congr_left
    intro i hi
    rw [hg i (List.mem_range.1 hi)]
  have hA := inc_all (s := 500) (leftTo_sort (chL k d) (chL k d).length) (fun p hp => by
    obtain ⟨h1, h2, h3⟩ := leftTo_mem.1 hp
    rw [hl] at h1
    rw [hg _ h1] at h2
    omega)
  unfold orderR
  rw [hb, hA, hL]
  unfold chM
  rw [List.map_map]
  rfl

theorem chM_get {k d i : Nat} {x y : Int} (h : (chM k d)[i]? = some (x, y)) : x = (i : Int) ∧ y = (i : Int) + (d : Int) ∧ i < k := by
  have hi : i < k := by have := (List.getElem?_eq_some_iff.1 h).1; simpa [chM] using this
  rw [show (chM k d)[i]? = some ((i : Int), (i : Int) + (d : Int)) by simp [chM, hi]] at h
  injection h with h
  injection h with h1 h2
  exact ⟨h1.symm, h2.symm, hi⟩

set_option maxRecDepth 100000 in
set_option maxHeartbeats 4000000 in
theorem none_walk (n b : Int) (w : World) : Calls Try.prog 5 #[.int .i64 n, .int .i64 b] w (BoolN w true) := by
  have HAW := hide (awake_any (w := w))
  have h63 : bits BinOp.and IntKind.i64 n 63 = n % 64 := bits_mask 6 (by decide) n
  have g63 : bits BinOp.and IntKind.i64 b 63 = b % 64 := bits_mask 6 (by decide) b
  have hm0 : 0 ≤ n % 64 := Int.emod_nonneg _ (by decide)
  have hm1 : n % 64 < 64 := Int.emod_lt_of_pos _ (by decide)
  have hb0 : 0 ≤ b % 64 := Int.emod_nonneg _ (by decide)
  have hb1 : b % 64 < 64 := Int.emod_lt_of_pos _ (by decide)
  obtain ⟨d, hd⟩ : ∃ d : Nat, 1 + b % 64 = (d : Int) := ⟨(1 + b % 64).toNat, by omega⟩
  have hd1 : 1 ≤ d := by omega
  have hd2 : d ≤ 64 := by omega
  obtain ⟨k, hk⟩ : ∃ k : Nat, n % 64 = (k : Int) := ⟨(n % 64).toNat, by omega⟩
  have hk63 : k ≤ 63 := by omega
  rw [hk] at h63
  have HT0 : Hid (∀ w2 : World, TwoR w2 w2 (.slice none 0 0) 0 (sameL 0) (.slice none 0 0) 0 (chL 0 d)) := fun w2 => TwoR.start w2
  clear hk hm0 hm1
  go_enter Try.func5, Try.ntmps5
  go_wp2_with (go_at_call 8; refine HAW.out.mono ?_; rintro e w1 ⟨rfl, hu⟩; have HU1 := hide hu; clear hu)
  have HT1 := hide (HT0.out w1)
  clear h63 g63 hb0 hb1 hd HT0
  go_loopw [8, 9, 10] (fun pv vv iv wr => ∃ (i : Nat) (A3 : Option Addr) (c3 : Nat) (A4 : Option Addr) (c4 : Nat), i ≤ k ∧ pv = .slice A3 i c3 ∧ vv = .slice A4 i c4 ∧ iv = .int .i64 i ∧ Hid (TwoR w1 wr (.slice A3 i c3) i (sameL i) (.slice A4 i c4) i (chL i d))) (fun _ _ iv _ => k - (intOf iv).toNat)
  case atStart => exact ⟨0, none, 0, none, 0, Nat.zero_le _, rfl, rfl, rfl, HT1.out⟩
  case round =>
    clear HT1
    obtain ⟨i, A3, c3, A4, c4, hi, rfl, rfl, rfl, HT⟩ := hrel
    by_cases hik : i < k
    · have HTA := hide (HT.out.same (Upd.alloc (fun _ => False) wr (.cells #[.int .i64 (i : Int)] 3)))
      have hza := HTA.out.upd.size
      have HS1 := hide (sameL_succ i)
      have HS2 := hide (chL_succ i d)
      go_wp2_with (first | (at_builtin; refine wpList_app (v := .slice A3 i c3) (u := .slice (some ⟨wr.heap.size, 0, none⟩) 1 1) Try.ints rfl (.tmp 27) (.tmp 29) rfl rfl HTA.out.o1 rfl (Rd.new1 _ (.int .i64 (i : Int)) 3 rfl) (by simp [Value.oneCell']) (i + 1) rfl (by omega) (by omega) hza ?_; intro A5 c5 w5 own5 u5 at5 ne5; have HT5 := hide (HTA.out.app1 own5 u5 at5); have HTB := hide (HT5.out.same (Upd.alloc (fun _ => False) w5 (.cells #[.int .i64 ((i : Int) + (d : Int))] 3))); have hzb := HTB.out.upd.size; clear own5 u5 at5 ne5) | (at_builtin; refine wpList_app (v := .slice A4 i c4) (u := .slice (some ⟨w5.heap.size, 0, none⟩) 1 1) Try.ints rfl (.tmp 31) (.tmp 35) rfl rfl HTB.out.o2 rfl (Rd.new1 _ (.int .i64 ((i : Int) + (d : Int))) 3 rfl) (by simp [Value.oneCell']) (i + 1) rfl (by omega) (by omega) hzb ?_; intro A6 c6 w6 own6 u6 at6 ne6; have HT6 := hide (HTB.out.app2 own6 u6 at6); clear own6 u6 at6 ne6))
      go_roundw
      case rel => exact ⟨i + 1, A5, c5, A6, c6, by omega, rfl, rfl, by go_num, by rw [HS1.out, HS2.out]; exact HT6.out⟩
      case measure => simp [intOf]; omega
    · obtain rfl : i = k := by omega
      have ho1 := order_any (s := 500) (Rd.of_own HT.out.o1) (by simp [sameL]) (by omega) ⟨by omega, by omega⟩
      rw [none_same hk63] at ho1
      have HO1 := hide ho1
      have HO2 : Hid (∀ wz, Upd (fun _ => False) wr wz → Calls Try.prog 9 #[.slice A4 i c4, .int .i64 500] wz (MovesN wz 32 (some (chM i d)))) := fun wz hu => by
        rw [← none_chain hk63 hd1 hd2]
        exact order_any ((Rd.of_own HT.out.o2).keep hu (fun _ _ h => h)) (by simp [chL]) (by omega) ⟨by omega, by omega⟩
      have HU3 := hide (HU1.out.trans HT.out.upd)
      have hcl : Hid ((chM i d).length = i) := by simp [chM, Hid]
      clear ho1 HT
      go_wp2_with (first | (go_at_call 9; refine HO1.out.mono ?_; clear HO1; rintro e w2 ⟨A5, n5, c5, rfl, HN5, HO5⟩; obtain rfl : n5 = 0 := HN5.out; have HU5 := hide (HU3.out.trans HO5.out.2); have HC2 := hide (HO2.out w2 HO5.out.2)) | (go_at_call 9; refine HC2.out.mono ?_; rintro e w3 ⟨A6, n6, c6, rfl, HN6, HO6⟩; have HU6 := hide (HU5.out.trans HO6.out.2); have HR6 := hide (MRd.of_own HO6.out.1 HN6.out); obtain rfl : n6 = i := HN6.out.trans hcl.out))
      go_loop [15] (fun iv => ∃ j : Nat, j ≤ n6 ∧ iv = .int .i64 j) (fun iv => n6 - (intOf iv).toNat)
      case atStart => exact ⟨0, Nat.zero_le _, rfl⟩
      case round =>
        obtain ⟨j, hj, rfl⟩ := hrel
        by_cases hjn : j < n6
        · obtain ⟨g, x, y, rfl, hm, hc1, hc2⟩ := HR6.out.at_ hjn
          obtain ⟨rfl, rfl, _⟩ := chM_get hm
          clear hm
          have hq5 : (((j : Int)) == 500) = false := by simp; omega
          go_wp2_with fail
          go_round
          case rel => exact ⟨j + 1, by omega, by go_num⟩
          case measure => simp [intOf]; omega
        · go_wp2_with fail
          go_ret
          exact ⟨rfl, HU6.out⟩

end Go.Proofs.Ytkmgdnhedafomaa
