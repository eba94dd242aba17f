/- slices.ContainsFunc over values that may not be right; Alloc; New. -/
import Derived.Test.YtkmfohocicngaaaLay
namespace Go.Proofs.Ytkmfohocicngaaa
open Go.RowKit

set_option maxHeartbeats 400000 in
theorem clos32 {w : World} {B b t bh : Nat} {cs : Array Value} {vw vb : Value} {ws : List Int} {bs : List Bool} (h : Sp w B b t cs vw vb ws bs) (hb : w.cell? ⟨bh, 0, none⟩ = some (.pointer (some ⟨b, 0, none⟩))) (v : Int) (hi : I64 v) :
    Calls Try.prog 32 #[.int .i64 v, .pointer (some ⟨bh, 0, none⟩)] w fun e w' => e = .returned (.bool (!rightB bs v)) ∧ w = w' := by
  have hr := right_any h v hi
  go_enter Try.func32, Try.ntmps32
  go_wp2_with (go_at_call 33; refine hr.mono ?_; rintro e w' ⟨rfl, rfl⟩)
  go_ret
  exact ⟨rfl, rfl⟩

set_option maxHeartbeats 400000 in
theorem clos35 {w : World} {B b t bh : Nat} {cs : Array Value} {vw vb : Value} {ws : List Int} {bs : List Bool} (h : Sp w B b t cs vw vb ws bs) (hb : w.cell? ⟨bh, 0, none⟩ = some (.pointer (some ⟨b, 0, none⟩))) (v : Int) (hi : I64 v) :
    Calls Try.prog 35 #[.int .i64 v, .pointer (some ⟨bh, 0, none⟩)] w fun e w' => e = .returned (.bool (!rightB bs v)) ∧ w = w' := by
  have hr := right_any h v hi
  go_enter Try.func35, Try.ntmps35
  go_wp2_with (go_at_call 33; refine hr.mono ?_; rintro e w' ⟨rfl, rfl⟩)
  go_ret
  exact ⟨rfl, rfl⟩

/-- What IndexFunc answers: below 0 just if none of the values meets p. -/
def IdxPost (w : World) (p : Int → Bool) (xs : List Int) (e : Ending) (w' : World) : Prop :=
  ∃ r : Int, e = .returned (.int .i64 r) ∧ decide (0 ≤ r) = xs.any p ∧ w = w'

theorem any_take {p : Int → Bool} {xs : List Int} {k : Nat} (hk : k < xs.length) (h : p xs[k] = true) : xs.any p = true :=
  List.any_eq_true.2 ⟨xs[k], List.getElem_mem hk, h⟩

set_option maxHeartbeats 400000 in
theorem index32 {w : World} {A : Option Addr} {n c bh : Nat} {xs : List Int} (hx : Rd w (.slice A n c) 1 n (xs.map (.int .i64))) (hn : xs.length = n) (hl : n ≤ 9223372036854775806) (p : Int → Bool)
    (hc : ∀ x ∈ xs, Calls Try.prog 32 #[.int .i64 x, .pointer (some ⟨bh, 0, none⟩)] w fun e w' => e = .returned (.bool (p x)) ∧ w = w') :
    Calls Try.prog 46 #[.slice A n c, .func (.func 32) #[] #[.pointer (some ⟨bh, 0, none⟩)]] w (IdxPost w p xs) := by
  have HC := hide hc
  have HX := hide hx
  have HN := hide hn
  clear hc hx hn
  go_enter Try.func46, Try.ntmps46
  go_wp2
  go_loop [8] (fun i => ∃ k : Nat, k ≤ n ∧ i = .int .i64 k ∧ Hid (∀ j, (h : j < xs.length) → j < k → p xs[j] = false)) (fun i => n - (intOf i).toNat)
  case atStart => exact ⟨0, Nat.zero_le _, rfl, fun j _ h => absurd h (by omega)⟩
  case round =>
    obtain ⟨k, hk, rfl, HP⟩ := hrel
    by_cases hlt : k < n
    · have hkx : k < xs.length := by have := HN.out; omega
      obtain ⟨A', c', hv, _, hA0, hA⟩ := HX.out
      injection hv with hv1 hv2 hv3
      subst hv1 hv3
      cases A with
      | none => have := hA0 rfl; omega
      | some ad =>
        have hcell := hA ad rfl k (.int .i64 xs[k]) (by simp [hkx])
        obtain ⟨x, hx⟩ : ∃ x, x = xs[k] := ⟨_, rfl⟩
        rw [← hx] at hcell
        have hcx := HC.out x (by rw [hx]; exact List.getElem_mem hkx)
        have HXX := hide hx
        clear hA hA0 hx
        obtain ⟨gb, go, gs⟩ := ad
        cases hpx : p x
        · go_wp2_with (go_at_call 32; refine hcx.mono ?_; rintro e w' ⟨rfl, rfl⟩)
          go_round
          case rel =>
            refine ⟨k + 1, by omega, by go_num, fun j hj hjk => ?_⟩
            by_cases hjk' : j < k
            · exact HP.out j hj hjk'
            · obtain rfl : j = k := by omega
              rw [← HXX.out]; exact hpx
          case measure => simp [intOf]; omega
        · go_wp2_with (go_at_call 32; refine hcx.mono ?_; rintro e w' ⟨rfl, rfl⟩)
          go_ret
          exact ⟨k, rfl, by rw [any_take hkx (by rw [← HXX.out]; exact hpx)]; simp, rfl⟩
    · go_wp2
      go_ret
      refine ⟨-1, rfl, ?_, rfl⟩
      have : xs.any p = false := by
        rw [List.any_eq_false]
        intro x hx
        obtain ⟨j, hj, rfl⟩ := List.getElem_of_mem hx
        rw [HP.out j hj (by have := HN.out; omega)]; simp
      rw [this]; simp

set_option maxHeartbeats 400000 in
theorem contains32 {w : World} {A : Option Addr} {n c bh : Nat} {xs : List Int} (hx : Rd w (.slice A n c) 1 n (xs.map (.int .i64))) (hn : xs.length = n) (hl : n ≤ 9223372036854775806) (p : Int → Bool)
    (hc : ∀ x ∈ xs, Calls Try.prog 32 #[.int .i64 x, .pointer (some ⟨bh, 0, none⟩)] w fun e w' => e = .returned (.bool (p x)) ∧ w = w') :
    Calls Try.prog 31 #[.slice A n c, .func (.func 32) #[] #[.pointer (some ⟨bh, 0, none⟩)]] w fun e w' => e = .returned (.bool (xs.any p)) ∧ w = w' := by
  have hi := index32 hx hn hl p hc
  clear hx hn hl hc
  go_enter Try.func31, Try.ntmps31
  go_wp2_with (go_at_call 46; refine hi.mono ?_; rintro e w' ⟨r, rfl, hr, rfl⟩; have HR := hide hr; clear hr)
  go_ret
  exact ⟨rb HR.out, rfl⟩

set_option maxHeartbeats 400000 in
theorem index35 {w : World} {A : Option Addr} {n c bh : Nat} {xs : List Int} (hx : Rd w (.slice A n c) 1 n (xs.map (.int .i64))) (hn : xs.length = n) (hl : n ≤ 9223372036854775806) (p : Int → Bool)
    (hc : ∀ x ∈ xs, Calls Try.prog 35 #[.int .i64 x, .pointer (some ⟨bh, 0, none⟩)] w fun e w' => e = .returned (.bool (p x)) ∧ w = w') :
    Calls Try.prog 46 #[.slice A n c, .func (.func 35) #[] #[.pointer (some ⟨bh, 0, none⟩)]] w (IdxPost w p xs) := by
  have HC := hide hc
  have HX := hide hx
  have HN := hide hn
  clear hc hx hn
  go_enter Try.func46, Try.ntmps46
  go_wp2
  go_loop [8] (fun i => ∃ k : Nat, k ≤ n ∧ i = .int .i64 k ∧ Hid (∀ j, (h : j < xs.length) → j < k → p xs[j] = false)) (fun i => n - (intOf i).toNat)
  case atStart => exact ⟨0, Nat.zero_le _, rfl, fun j _ h => absurd h (by omega)⟩
  case round =>
    obtain ⟨k, hk, rfl, HP⟩ := hrel
    by_cases hlt : k < n
    · have hkx : k < xs.length := by have := HN.out; omega
      obtain ⟨A', c', hv, _, hA0, hA⟩ := HX.out
      injection hv with hv1 hv2 hv3
      subst hv1 hv3
      cases A with
      | none => have := hA0 rfl; omega
      | some ad =>
        have hcell := hA ad rfl k (.int .i64 xs[k]) (by simp [hkx])
        obtain ⟨x, hx⟩ : ∃ x, x = xs[k] := ⟨_, rfl⟩
        rw [← hx] at hcell
        have hcx := HC.out x (by rw [hx]; exact List.getElem_mem hkx)
        have HXX := hide hx
        clear hA hA0 hx
        obtain ⟨gb, go, gs⟩ := ad
        cases hpx : p x
        · go_wp2_with (go_at_call 35; refine hcx.mono ?_; rintro e w' ⟨rfl, rfl⟩)
          go_round
          case rel =>
            refine ⟨k + 1, by omega, by go_num, fun j hj hjk => ?_⟩
            by_cases hjk' : j < k
            · exact HP.out j hj hjk'
            · obtain rfl : j = k := by omega
              rw [← HXX.out]; exact hpx
          case measure => simp [intOf]; omega
        · go_wp2_with (go_at_call 35; refine hcx.mono ?_; rintro e w' ⟨rfl, rfl⟩)
          go_ret
          exact ⟨k, rfl, by rw [any_take hkx (by rw [← HXX.out]; exact hpx)]; simp, rfl⟩
    · go_wp2
      go_ret
      refine ⟨-1, rfl, ?_, rfl⟩
      have : xs.any p = false := by
        rw [List.any_eq_false]
        intro x hx
        obtain ⟨j, hj, rfl⟩ := List.getElem_of_mem hx
        rw [HP.out j hj (by have := HN.out; omega)]; simp
      rw [this]; simp

set_option maxHeartbeats 400000 in
theorem contains35 {w : World} {A : Option Addr} {n c bh : Nat} {xs : List Int} (hx : Rd w (.slice A n c) 1 n (xs.map (.int .i64))) (hn : xs.length = n) (hl : n ≤ 9223372036854775806) (p : Int → Bool)
    (hc : ∀ x ∈ xs, Calls Try.prog 35 #[.int .i64 x, .pointer (some ⟨bh, 0, none⟩)] w fun e w' => e = .returned (.bool (p x)) ∧ w = w') :
    Calls Try.prog 31 #[.slice A n c, .func (.func 35) #[] #[.pointer (some ⟨bh, 0, none⟩)]] w fun e w' => e = .returned (.bool (xs.any p)) ∧ w = w' := by
  have hi := index35 hx hn hl p hc
  clear hx hn hl hc
  go_enter Try.func31, Try.ntmps31
  go_wp2_with (go_at_call 46; refine hi.mono ?_; rintro e w' ⟨r, rfl, hr, rfl⟩; have HR := hide hr; clear hr)
  go_ret
  exact ⟨rb HR.out, rfl⟩

end Go.Proofs.Ytkmfohocicngaaa
