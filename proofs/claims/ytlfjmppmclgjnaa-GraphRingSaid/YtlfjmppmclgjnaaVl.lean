/- Ints, few: what the laws use beside the graph; the reference's 'right'. -/
import Derived.Test.YtlfjmppmclgjnaaGr
import Derived.BigQuiet
import Derived.WalkSmall
import Derived.WalkMore
import Derived.Outline
namespace Go.Proofs.Ytlfjmppmclgjnaa
open Go.RowKit

def IntsPost (w : World) (r : Bool) (e : Ending) (w' : World) : Prop := e = .returned (.bool r) ∧ ∃ m, w' = w.drewN m

set_option maxHeartbeats 1000000 in
theorem ints_any {w : World} {A A' : Option Addr} {n n' c c' : Nat} {xs ys : List Int} (hx : Rd w (.slice A n c) 1 n (xs.map (.int .i64))) (hn : n = xs.length) (hy : Rd w (.slice A' n' c') 1 n' (ys.map (.int .i64))) (hn' : n' = ys.length) (hl : n ≤ 9223372036854775806) :
    Calls Try.prog 13 #[.slice A n c, .slice A' n' c'] w (IntsPost w (decide (xs = ys))) := by
  by_cases hne : n = n'
  · subst hne
    have HX := hide hx
    have HY := hide hy
    have HN := hide hn
    have HN' := hide hn'
    clear hx hy hn hn'
    go_enter Try.func13, Try.ntmps13
    go_wp2
    go_loopw [5] (fun i wr => ∃ k : Nat, k ≤ n ∧ i = .int .i64 k ∧ Hid (xs.take k = ys.take k) ∧ ∃ q, wr = w.drewN q) (fun i _ => n - (intOf i).toNat)
    case atStart => exact ⟨0, Nat.zero_le _, rfl, rfl, 0, rfl⟩
    case round =>
      obtain ⟨k, hk, rfl, HT, q, rfl⟩ := hrel
      by_cases hlt : k < n
      · obtain ⟨gb, go, gs, x, rfl, hxe, hxc⟩ := HX.out.get HN.out hlt
        obtain ⟨gb', go', gs', y, rfl, hye, hyc⟩ := HY.out.get HN'.out hlt
        have HXE := hide hxe
        have HYE := hide hye
        clear hxe hye
        cases hxy : (x == y)
        · have hxy' : (x != y) = true := by simp [bne, hxy]
          have HNE := hide hxy
          clear hxy
          go_wp2_with fail
          go_quiet (fail)
          go_wp2_with fail
          go_ret
          refine ⟨rb ?_, _, (by first | rfl | rw [World.drewN_drewN])⟩
          have hx := HN.out; have hy := HN'.out
          have : xs ≠ ys := fun e => by
            have h1 := HXE.out
            have h2 := HYE.out
            subst e
            have h3 := HNE.out
            rw [h1, h2] at h3
            simp at h3
          simp [this]
        · have hxy' : (x != y) = false := by simp [bne, hxy]
          have HE := hide hxy
          clear hxy
          go_wp2_with fail
          go_quiet (fail)
          go_wp2_with fail
          go_roundw
          case rel =>
            refine ⟨k + 1, by omega, by go_num, ?_, _, (by first | rfl | rw [World.drewN_drewN])⟩
            have hx := HN.out; have hy := HN'.out
            show xs.take (k + 1) = ys.take (k + 1)
            rw [List.take_succ_eq_append_getElem (by omega), List.take_succ_eq_append_getElem (by omega), HT.out, ← HXE.out, ← HYE.out]
            have := HE.out
            simp at this
            rw [this]
          case measure => simp [intOf]; omega
      · go_wp2
        go_ret
        refine ⟨rb ?_, q, rfl⟩
        have hx := HN.out; have hy := HN'.out
        have hT := HT.out
        rw [List.take_of_length_le (by omega), List.take_of_length_le (by omega)] at hT
        simp [hT]
  · have hd : decide (xs = ys) = false := by
      simp; intro e; subst e; omega
    rw [hd]
    have hb : ((n : Int) != (n' : Int)) = true := by rw [bne_iff_ne]; omega
    have hb' : (n != n') = true := by rw [bne_iff_ne]; omega
    have hb2 : (n == n') = false := by simp; omega
    clear hn hn' hx hy hd
    go_enter Try.func13, Try.ntmps13
    go_wp2
    go_ret
    exact ⟨rb rfl, 0, rfl⟩



theorem GRd.row {w : World} {A : Option Addr} {n : Nat} {g : List (List Int)} (h : GRd w A n g) {k : Nat} (hk : k < n) :
    ∃ ys gb go gs a m kk, g[k]? = some ys ∧ A = some ⟨gb, go, gs⟩ ∧ w.cell? ((⟨gb, go, gs⟩ : Addr).add k) = some (.slice a m kk) ∧ Rd w (.slice a m kk) 1 m (ys.map (.int .i64)) ∧ m = ys.length ∧ m ≤ 9223372036854775807 := by
  have hk2 : k < g.length := by have := h.1; omega
  obtain ⟨gb, go, gs, a, m, kk, h1, h2, h3, h4, h5, _⟩ := h.2 k _ (List.getElem?_eq_getElem hk2)
  exact ⟨_, gb, go, gs, a, m, kk, List.getElem?_eq_getElem hk2, h1, h2, h3, h4, h5⟩

def fewB (g : List (List Int)) (N : Nat) : Bool := decide (g.length ≤ N) && g.all (fun l => decide (l.length ≤ 100))

set_option maxHeartbeats 1000000 in
theorem few_any {w : World} {A : Option Addr} {n c N : Nat} {g : List (List Int)} (hg : GRd w A n g) (hl : n ≤ 9223372036854775807) :
    Calls Try.prog 10 #[.slice A n c, .int .i64 N] w fun e w' => e = .returned (.bool (fewB g N)) ∧ w = w' := by
  have hgl := hg.1
  by_cases h0 : N < n
  · have HF : Hid (fewB g N = false) := by show fewB g N = false; unfold fewB; rw [← hgl, show decide (n ≤ N) = false by simp; omega]; rfl
    have h0' : (N : Int) < (n : Int) := by omega
    clear hg hgl
    go_enter Try.func10, Try.ntmps10
    go_wp2
    go_ret
    exact ⟨rb HF.out.symm, rfl⟩
  · have HG := hide hg
    have HGL := hide hgl
    have HN := hide h0
    have h0' : ¬ (N : Int) < (n : Int) := by omega
    clear hg hgl
    go_enter Try.func10, Try.ntmps10
    go_wp2
    clear h0' h0
    go_loop [5] (fun i => ∃ k : Nat, k ≤ n ∧ i = .int .i64 k ∧ Hid (∀ j, (h : j < g.length) → j < k → (g[j]'h).length ≤ 100)) (fun i => n - (intOf i).toNat)
    case atStart => exact ⟨0, Nat.zero_le _, rfl, fun j _ h => absurd h (by omega)⟩
    case round =>
      obtain ⟨k, hk, rfl, HP⟩ := hrel
      by_cases hlt : k < n
      · obtain ⟨ys, gb, go, gs, a, m, kk, hys, rfl, hcell, _, hm, hml⟩ := HG.out.row hlt
        have HYS := hide hys
        have HM := hide hm
        clear hys hm
        by_cases hm100 : 100 < m
        · have hm2 : (100 : Int) < (m : Int) := by omega
          go_wp2_with fail
          go_ret
          refine ⟨rb ?_, rfl⟩
          obtain ⟨hkg, hke⟩ := List.getElem?_eq_some_iff.1 HYS.out
          have : g.all (fun l => decide (l.length ≤ 100)) = false := by
            rw [List.all_eq_false]
            refine ⟨ys, by rw [← hke]; exact List.getElem_mem hkg, ?_⟩
            have := HM.out
            simp; omega
          unfold fewB
          simp [this]
        · have hm2 : ¬ (100 : Int) < (m : Int) := by omega
          go_wp2_with fail
          go_round
          case rel =>
            refine ⟨k + 1, by omega, by go_num, fun j hj hjk => ?_⟩
            by_cases hjk' : j < k
            · exact HP.out j hj hjk'
            · obtain rfl : j = k := by omega
              rw [(List.getElem?_eq_some_iff.1 HYS.out).2, ← HM.out]
              omega
          case measure => simp [intOf]; omega
      · go_wp2
        go_ret
        refine ⟨rb ?_, rfl⟩
        have hg := HGL.out
        have hn := HN.out
        have : g.all (fun l => decide (l.length ≤ 100)) = true := by
          rw [List.all_eq_true]
          intro x hx
          obtain ⟨j, hj, rfl⟩ := List.getElem_of_mem hx
          simpa using HP.out j hj (by omega)
        unfold fewB
        rw [this]
        simp; omega

end Go.Proofs.Ytlfjmppmclgjnaa
