/- 'holds', walked. -/
import Derived.Test.YtlfjmppmclgjnaaVl
namespace Go.Proofs.Ytlfjmppmclgjnaa
open Go.RowKit

set_option maxHeartbeats 1000000 in
theorem holds_any {w : World} {A A' : Option Addr} {n n' c c' : Nat} {xs ys : List Int} (hx : Rd w (.slice A n c) 1 n (xs.map (.int .i64))) (hn : n = xs.length) (hy : Rd w (.slice A' n' c') 1 n' (ys.map (.int .i64))) (hn' : n' = ys.length) (hl : n ≤ 9223372036854775806) (hl' : n' ≤ 9223372036854775806) :
    Calls Try.prog 16 #[.slice A n c, .slice A' n' c'] w (IntsPost w (ys.all fun y => xs.any fun x => x == y)) := by
  have HX := hide hx
  have HY := hide hy
  have HN := hide hn
  have HN' := hide hn'
  clear hx hy hn hn'
  go_enter Try.func16, Try.ntmps16
  go_wp2
  go_loopw [5] (fun i wr => ∃ k : Nat, k ≤ n' ∧ i = .int .i64 k ∧ Hid (∀ j, (h : j < ys.length) → j < k → (xs.any fun x => x == ys[j]'h) = true) ∧ ∃ q, wr = w.drewN q) (fun i _ => n' - (intOf i).toNat)
  case atStart => exact ⟨0, Nat.zero_le _, rfl, fun j _ h => absurd h (by omega), 0, rfl⟩
  case round =>
    obtain ⟨k, hk, rfl, HP, q, rfl⟩ := hrel
    by_cases hlt : k < n'
    · obtain ⟨gb, go, gs, y, rfl, hye, hyc⟩ := HY.out.get HN'.out hlt
      have HYE := hide hye
      clear hye
      go_wp2_with fail
      go_loopw [6, 7] (fun fv jv wr => ∃ t q : Nat, t ≤ n ∧ jv = .int .i64 t ∧ fv = .bool ((xs.take t).any fun x => x == y) ∧ wr = w.drewN q) (fun _ jv _ => n - (intOf jv).toNat)
      case atStart => exact ⟨0, q, Nat.zero_le _, rfl, rfl, rfl⟩
      case round =>
        obtain ⟨t, q2, ht, rfl, rfl, rfl⟩ := hrel
        by_cases htn : t < n
        · obtain ⟨gb2, go2, gs2, x, rfl, hxe, hxc⟩ := HX.out.get HN.out htn
          have HST : Hid (((xs.take (t + 1)).any fun x => x == y) = (((xs.take t).any fun x => x == y) || x == y)) := by
            show _ = _
            have hx := HN.out
            rw [List.take_succ_eq_append_getElem (by omega), List.any_append, ← hxe]
            simp
          clear hxe
          cases hb : (xs.take t).any fun x => x == y
          · rw [hb] at HST
            go_wp2_with fail
            go_quiet (fail)
            go_wp2_with fail
            go_roundw
            case rel => exact ⟨t + 1, _, by omega, by go_num, by rw [HST.out]; rfl, (by first | rfl | rw [World.drewN_drewN])⟩
            case measure => simp [intOf]; omega
          · rw [hb] at HST
            go_wp2_with fail
            go_quiet (fail)
            go_wp2_with fail
            go_roundw
            case rel => exact ⟨t + 1, _, by omega, by go_num, by rw [HST.out]; rfl, (by first | rfl | rw [World.drewN_drewN])⟩
            case measure => simp [intOf]; omega
        · have htk : xs.take t = xs := List.take_of_length_le (by have := HN.out; omega)
          rw [htk]
          cases hb : xs.any fun x => x == y
          · have HB := hide hb
            clear hb htk
            go_wp2_with fail
            go_ret
            refine ⟨rb ?_, _, rfl⟩
            have hyl := HN'.out
            symm
            rw [List.all_eq_false]
            exact ⟨y, by rw [HYE.out]; exact List.getElem_mem _, by rw [HB.out]; simp⟩
          · have HB := hide hb
            clear hb htk
            go_wp2_with fail
            go_roundw
            case rel =>
              refine ⟨k + 1, by omega, by go_num, fun j hj hjk => ?_, q2, rfl⟩
              by_cases hjk' : j < k
              · exact HP.out j hj hjk'
              · obtain rfl : j = k := by omega
                rw [← HYE.out]; exact HB.out
            case measure => simp [intOf]; omega
    · go_wp2
      go_ret
      refine ⟨rb ?_, q, rfl⟩
      symm
      rw [List.all_eq_true]
      intro y hy
      obtain ⟨j, hj, rfl⟩ := List.getElem_of_mem hy
      exact HP.out j hj (by have := HN'.out; omega)

end Go.Proofs.Ytlfjmppmclgjnaa
