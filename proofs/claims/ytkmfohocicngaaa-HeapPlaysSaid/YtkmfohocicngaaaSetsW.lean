/- HeapSets, walked. -/
import Derived.Test.YtkmfohocicngaaaSets
namespace Go.Proofs.Ytkmfohocicngaaa
open Go.RowKit

theorem Rd.below {w w1 : World} {v : Value} {size n : Nat} {xs : List Value} (h : Rd w v size n xs) (hb : Below w.heap.size w w1) : Rd w1 v size n xs :=
  h.keep (Upd.of_below hb) fun _ _ h => h

theorem built_call {w w1 : World} {A A' : Option Addr} {n n' c c' : Nat} {xs ys : List Int} (hb : Below w.heap.size w w1) (hx : Rd w (.slice A n c) 1 n (xs.map (.int .i64))) (hn : n = xs.length) (hy : Rd w (.slice A' n' c') 1 n' (ys.map (.int .i64))) (hn' : n' = ys.length) (hl : n ≤ 9223372036854775807) (hl' : n' ≤ 9223372036854775807) :
    Calls Try.prog 15 #[.slice A n c, .slice A' n' c'] w1 (BuiltPost w1) := built_any (hx.below hb) hn (hy.below hb) hn' hl hl'

theorem below_end {w w1 w2 : World} {b : Nat} {L : List Ob} {rs : List (Nat × List Int)} (h : Below w.heap.size w w1) (hs : SS w1 w2 b L rs) : Below w.heap.size w w2 := by
  obtain ⟨K, hk, _⟩ := hs
  have h2 := hk.below
  exact ⟨h2.os.trans h.os, h2.tape.trans h.tape, h2.output.trans h.output, Nat.le_trans h.size h2.size, fun k hk => (h2.block k (Nat.lt_of_lt_of_le hk h.size)).trans (h.block k hk)⟩

set_option maxRecDepth 100000 in
set_option maxHeartbeats 4000000 in
theorem sets_walk (which field value : Int) (A : Option Addr) (n c : Nat) (xs : List Int) (A' : Option Addr) (n' c' : Nat) (ys : List Int) (w : World) (hx : Rd w (.slice A n c) 1 n (xs.map (.int .i64))) (hn : n = xs.length) (hy : Rd w (.slice A' n' c') 1 n' (ys.map (.int .i64))) (hn' : n' = ys.length) (hl : n ≤ 9223372036854775807) (hl' : n' ≤ 9223372036854775807) :
    Calls Try.prog 5 #[.slice A n c, .slice A' n' c', .int .i64 which, .int .i64 field, .int .i64 value] w fun e w' => e = .returned (.bool true) ∧ Below w.heap.size w w' := by
  have HBU : Hid (∀ w1, Below w.heap.size w w1 → Calls Try.prog 15 #[.slice A n c, .slice A' n' c'] w1 (BuiltPost w1)) := fun w1 hb => built_call hb hx hn hy hn' hl hl'
  clear hx hn hy hn' hl hl'
  obtain ⟨q, hq⟩ : ∃ q : Nat, which % 1024 = (q : Int) := ⟨(which % 1024).toNat, by have := Int.emod_nonneg which (show (1024 : Int) ≠ 0 by decide); omega⟩
  have hb1 := bits_and1023 which
  rw [hq] at hb1
  clear hq
  obtain ⟨v, hv⟩ : ∃ v, bits BinOp.andNot IntKind.i64 value 1 = v := ⟨_, rfl⟩
  have hvv := bits_andNot1 value
  rw [hv] at hvv
  have HV := hide hvv
  clear hvv
  go_enter Try.func5, Try.ntmps5
  go_wp2_with (go_at_call 9; refine (awake_any _).mono ?_; rintro e w1 ⟨rfl, hb1⟩; have HB1 := hide hb1; clear hb1)
  refine (HBU.out _ HB1.out).mono ?_
  rintro e w2 ⟨b, L, A1, k, c1, ps, rfl, hk30, HS⟩
  clear HBU
  by_cases hk : k = 0
  · subst hk
    go_wp2_with fail
    go_ret
    exact ⟨rb rfl, below_end HB1.out (SS.of_bst HS.out)⟩
  · have h0 : 0 < k := by omega
    obtain ⟨r, hr⟩ : ∃ r : Nat, q % k = r := ⟨_, rfl⟩
    have hrn : r < k := hr ▸ Nat.mod_lt _ h0
    have hrem : Int.tmod (q : Int) (k : Int) = (r : Int) := by rw [← hr]; rfl
    clear hr
    have hget := HS.out.get hrn
    obtain ⟨gb, p, rfl, hp, hpi, hpc⟩ := hget
    obtain ⟨o, ho, hol⟩ := HS.out.2.2.2.2 p hp
    have HO := hide ho
    have HSS := hide (SS.of_bst HS.out)
    clear HS hp hpi ho
    go_wp2_with fail
    refine (HSS.out.one HV.out.1 rfl).mono ?_
    rintro e w3 ⟨g3, c3, rfl, HS3⟩
    clear HSS
    obtain ⟨m, hm⟩ : ∃ m : Nat, m = o.2.length := ⟨_, rfl⟩
    have hm3 : m ≤ 3 := by omega
    have HM := hide hm
    clear hm hol
    have hvc := HS3.out.cell (List.mem_cons_self ..) (show 0 < [v].length by simp)
    go_wp2_with fail
    refine (HS3.out.fields HO.out HM.out).mono ?_
    rintro e w4 ⟨g4, c4, rfl, HS4⟩
    clear HS3 hvc
    have hvc := HS4.out.cell (List.mem_cons_of_mem _ (List.mem_cons_self ..)) (show 0 < [v].length by simp)
    by_cases hf : 0 ≤ field ∧ field < m
    · obtain ⟨f, rfl⟩ : ∃ f : Nat, field = (f : Int) := ⟨field.toNat, by omega⟩
      have HF : Hid (f < o.2.length) := by have := HM.out; show f < o.2.length; omega
      go_wp2_with fail
      refine (HS4.out.set_yes HO.out HF.out HV.out.1 (by have := HV.out.2; simp [isP]; omega)).mono ?_
      rintro e w5 ⟨rfl, HS5⟩
      clear hvc HS4
      have HO2 := hide (setL_obj HO.out f v)
      have HM2 : Hid (m = (o.1, o.2.set f v).2.length) := by have := HM.out; show m = (o.2.set f v).length; rw [List.length_set]; exact this
      go_wp2_with fail
      refine (HS5.out.fields HO2.out HM2.out).mono ?_
      rintro e w6 ⟨g5, c5, rfl, HS6⟩
      go_wp2_with fail
      refine (HS6.out.fields HO2.out HM2.out).mono ?_
      rintro e w7 ⟨g6, c6, rfl, HS7⟩
      clear HS5 HS6
      go_wp2_with fail
      refine (HS7.out.ints (List.mem_cons_of_mem _ (List.mem_cons_self ..)) (List.mem_cons_self ..) (by have := HM2.out; omega) HM2.out).mono ?_
      rintro e w8 ⟨rfl, q8, rfl⟩
      go_wp2_with fail
      go_loopw [24] (fun iv wr => ∃ (j q : Nat), j ≤ m ∧ iv = .int .i64 j ∧ wr = w7.drewN q) (fun iv _ => m - (intOf iv).toNat)
      case atStart => exact ⟨0, q8, Nat.zero_le _, rfl, rfl⟩
      case round =>
        obtain ⟨j, q9, hj, rfl, rfl⟩ := hrel
        by_cases hjm : j < m
        · have hvc := HS7.out.cell (g := g3) (xs := [v]) (j := 0) (by simp) (by simp)
          simp only [List.getElem_cons_zero] at hvc
          have hjo : j < o.2.length := by have := HM.out; omega
          have hn0 := HS7.out.cell (g := g5) (xs := o.2.set f v) (j := j) (by simp) (by simpa using hjo)
          by_cases hjf : j = f
          · subst hjf
            simp only [List.getElem_set_self] at hn0
            clear hjo
            go_wp2_with fail
            go_quiet (fail)
            go_wp2_with fail
            go_roundw
            case rel => exact ⟨j + 1, _, by omega, by go_num, by first | rfl | rw [World.drewN_drewN]⟩
            case measure => simp [intOf]; omega
          · have hw0 := HS7.out.cell (g := g4) (xs := o.2) (j := j) (by simp) hjo
            rw [List.getElem_set_ne (Ne.symm hjf)] at hn0
            generalize o.2[j] = u at hn0 hw0
            clear hjo
            go_wp2_with fail
            go_quiet (fail)
            go_wp2_with fail
            go_roundw
            case rel => exact ⟨j + 1, _, by omega, by go_num, by first | rfl | rw [World.drewN_drewN]⟩
            case measure => simp [intOf]; omega
        · obtain ⟨hf0, hf1⟩ := hf
          go_wp2_with fail
          go_ret
          exact ⟨rb rfl, below_end HB1.out (HS7.out.keep (Upd.drewN _ _ _))⟩
    · have HF : Hid (¬ (0 ≤ field ∧ field < o.2.length)) := HM.out ▸ hf
      go_wp2_with fail
      refine (HS4.out.set_no HO.out HF.out HV.out.1).mono ?_
      rintro e w5 ⟨rfl, rfl⟩
      clear hvc
      go_wp2_with fail
      refine (HS4.out.fields HO.out HM.out).mono ?_
      rintro e w6 ⟨g5, c5, rfl, HS6⟩
      go_wp2_with fail
      refine (HS6.out.fields HO.out HM.out).mono ?_
      rintro e w7 ⟨g6, c6, rfl, HS7⟩
      clear HS4 HS6
      go_wp2_with fail
      refine (HS7.out.ints (List.mem_cons_of_mem _ (List.mem_cons_self ..)) (List.mem_cons_self ..) (by have := HM.out; omega) HM.out).mono ?_
      rintro e w8 ⟨rfl, q8, rfl⟩
      go_wp2_with fail
      go_loopw [24] (fun iv wr => ∃ (j q : Nat), j ≤ m ∧ iv = .int .i64 j ∧ wr = w7.drewN q) (fun iv _ => m - (intOf iv).toNat)
      case atStart => exact ⟨0, q8, Nat.zero_le _, rfl, rfl⟩
      case round =>
        obtain ⟨j, q9, hj, rfl, rfl⟩ := hrel
        by_cases hjm : j < m
        · have hjo : j < o.2.length := by have := HM.out; omega
          have hn0 := HS7.out.cell (g := g5) (xs := o.2) (j := j) (by simp) hjo
          have hw0 := HS7.out.cell (g := g4) (xs := o.2) (j := j) (by simp) hjo
          generalize o.2[j] = u at hn0 hw0
          clear hjo
          go_wp2_with fail
          go_quiet (fail)
          go_wp2_with fail
          go_roundw
          case rel => exact ⟨j + 1, _, by omega, by go_num, by first | rfl | rw [World.drewN_drewN]⟩
          case measure => simp [intOf]; omega
        · by_cases hf0 : 0 ≤ field
          · have hf1 : ¬ field < (m : Int) := fun h => hf ⟨hf0, h⟩
            clear hf
            go_wp2_with fail
            go_ret
            exact ⟨rb rfl, below_end HB1.out (HS7.out.keep (Upd.drewN _ _ _))⟩
          · clear hf
            go_wp2_with fail
            go_ret
            exact ⟨rb rfl, below_end HB1.out (HS7.out.keep (Upd.drewN _ _ _))⟩

end Go.Proofs.Ytkmfohocicngaaa
