/- 'MovesRings', walked. -/
import Derived.Test.YtkmgdnhedafomaaMLn
namespace Go.Proofs.Ytkmgdnhedafomaa
open Go.RowKit

def ringL (a k : Nat) : List Int := (List.range k).map fun i => (((i + 1) % a : Nat) : Int)
def ring2L (a b k : Nat) : List Int := ringL a a ++ (List.range k).map fun i => ((a + (i + 1) % b : Nat) : Int)

theorem ringL_succ (a k : Nat) : ringL a (k + 1) = ringL a k ++ [((k : Int) + 1) % (a : Int)] := by
  unfold ringL; rw [List.range_succ, List.map_append]; simp
theorem ring2L_succ (a b k : Nat) : ring2L a b (k + 1) = ring2L a b k ++ [(a : Int) + ((k : Int) + 1) % (b : Int)] := by
  unfold ring2L; rw [List.range_succ, List.map_append, ← List.append_assoc]; simp
theorem ring2L_zero (a b : Nat) : ring2L a b 0 = ringL a a := by simp [ring2L]
theorem ringL_len (a k : Nat) : (ringL a k).length = k := by simp [ringL]
theorem ring2L_len (a b k : Nat) : (ring2L a b k).length = a + k := by simp [ring2L, ringL]

def chk (src : List Int) (len cnt : Nat) : Bool := match orderR src 100 with | some ms => ms.length == len && countTo ms 100 == cnt | none => false

theorem rings1 : ∀ a : Fin 16, chk (ringL (a.val + 2) (a.val + 2)) (a.val + 2 + 1) 1 = true := by decide +kernel
theorem rings2 : ∀ a : Fin 16, ∀ b : Fin 16, chk (ring2L (a.val + 2) (b.val + 2) (b.val + 2)) (a.val + 2 + (b.val + 2) + 2) 2 = true := by decide +kernel

theorem chk_is {src : List Int} {len cnt : Nat} (h : chk src len cnt = true) : ∃ ms, orderR src 100 = some ms ∧ ms.length = len ∧ countTo ms 100 = cnt := by
  unfold chk at h
  cases ho : orderR src 100 with
  | none => rw [ho] at h; simp at h
  | some ms =>
    rw [ho] at h
    simp at h
    exact ⟨ms, rfl, h.1, h.2⟩

theorem ring_one {a : Nat} (h1 : 2 ≤ a) (h2 : a ≤ 17) : ∃ ms, orderR (ringL a a) 100 = some ms ∧ ms.length = a + 1 ∧ countTo ms 100 = 1 := by
  have := rings1 ⟨a - 2, by omega⟩
  have e : a - 2 + 2 = a := by omega
  rw [show ((⟨a - 2, by omega⟩ : Fin 16).val) = a - 2 from rfl, e] at this
  exact chk_is this

theorem ring_two {a b : Nat} (h1 : 2 ≤ a) (h2 : a ≤ 17) (g1 : 2 ≤ b) (g2 : b ≤ 17) : ∃ ms, orderR (ring2L a b b) 100 = some ms ∧ ms.length = a + b + 2 ∧ countTo ms 100 = 2 := by
  have := rings2 ⟨a - 2, by omega⟩ ⟨b - 2, by omega⟩
  have e : a - 2 + 2 = a := by omega
  have e' : b - 2 + 2 = b := by omega
  rw [show ((⟨a - 2, by omega⟩ : Fin 16).val) = a - 2 from rfl, show ((⟨b - 2, by omega⟩ : Fin 16).val) = b - 2 from rfl, e, e'] at this
  exact chk_is this

theorem count_succ' {ms : List (Int × Int)} {i : Nat} {x y : Int} (h : ms[i]? = some (x, y)) (z : Int) : countTo (ms.take (i + 1)) z = countTo (ms.take i) z + if x = z then 1 else 0 := by
  obtain ⟨hi, he⟩ := List.getElem?_eq_some_iff.1 h
  unfold countTo
  rw [List.take_succ_eq_append_getElem hi, List.filter_append, List.length_append, he]
  by_cases e : x = z
  · rw [if_pos e, List.filter_cons_of_pos (by simpa using e)]; rfl
  · rw [if_neg e, List.filter_cons_of_neg (by simpa using e)]; rfl

set_option maxHeartbeats 1000000 in
theorem spare_any {w : World} {A : Option Addr} {n c : Nat} {ms : List (Int × Int)} (h : MRd w A n ms) (hl : n ≤ 100000) : Calls Try.prog 12 #[.slice A n c] w fun e w' => e = .returned (.int .i64 (countTo ms 100 : Int)) ∧ w = w' := by
  have HR := hide h
  have HN : Hid (n = ms.length) := h.1
  clear h
  go_enter Try.func12, Try.ntmps12
  go_wp2
  go_loop [3, 4] (fun nv iv => ∃ k q : Nat, k ≤ n ∧ q ≤ k ∧ nv = .int .i64 q ∧ iv = .int .i64 k ∧ Hid (q = countTo (ms.take k) 100)) (fun _ iv => n - (intOf iv).toNat)
  case atStart => exact ⟨0, 0, Nat.zero_le _, Nat.le_refl _, rfl, rfl, rfl⟩
  case round =>
    obtain ⟨k, q, hk, hq, rfl, rfl, HQ⟩ := hrel
    by_cases hkn : k < n
    · obtain ⟨g, x, y, rfl, hm, hc1, hc2⟩ := HR.out.at_ hkn
      have HC := hide (count_succ' hm 100)
      clear hm hc2
      by_cases hx : x = 100
      · have hx2 : (x == 100) = true := by simpa using hx
        rw [if_pos hx] at HC
        clear hx
        go_wp2_with fail
        go_round
        case rel => exact ⟨k + 1, q + 1, by omega, by omega, by go_num, by go_num, by show _ = _; rw [HC.out, ← HQ.out]⟩
        case measure => simp [intOf]; omega
      · have hx2 : (x == 100) = false := by simpa using hx
        rw [if_neg hx] at HC
        clear hx
        go_wp2_with fail
        go_round
        case rel => exact ⟨k + 1, q, by omega, by omega, rfl, by go_num, by show _ = _; rw [HC.out, ← HQ.out]; rfl⟩
        case measure => simp [intOf]; omega
    · obtain rfl : k = n := by omega
      have HF : Hid (q = countTo ms 100) := by have := HQ.out; rw [HN.out, List.take_length] at this; exact this
      go_wp2_with fail
      go_ret
      rw [← HF.out]
      exact ⟨rfl, rfl⟩

end Go.Proofs.Ytkmgdnhedafomaa
