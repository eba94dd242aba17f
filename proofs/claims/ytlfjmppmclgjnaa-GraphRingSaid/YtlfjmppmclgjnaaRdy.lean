/- 'ready', walked. -/
import Derived.Test.YtlfjmppmclgjnaaRg
namespace Go.Proofs.Ytlfjmppmclgjnaa
open Go.RowKit

/-- What leads to one another with k, in rising order. -/
noncomputable def classL (g : List (List Int)) (k : Nat) : List Int := (reachL g [(k : Int)]).filter fun v => ledB g [v] k

/-- All that k leads to is done, or leads back. -/
noncomputable def readyB (g : List (List Int)) (done : Nat → Bool) (k : Nat) : Bool := (reachL g [(k : Int)]).all fun v => ledB g [v] k || done v.toNat

noncomputable def readyR (g : List (List Int)) (done : Nat → Bool) (k : Nat) : Option (List Int) := if readyB g done k then some (classL g k) else none

/-- A list of the call's own; or nil. -/
def RowR (w : World) (r : Option (List Int)) (e : Ending) (w' : World) : Prop :=
  match r with
  | none => e = .returned (.slice none 0 0) ∧ Upd (fun _ => False) w w'
  | some xs => ∃ A n c, e = .returned (.slice A n c) ∧ Hid (n = xs.length) ∧ Hid (w'.ownsRow w.heap.size 3 1 (.slice A n c) n (xs.map (.int .i64)) ∧ Upd (fun _ => False) w w')

def mapsArr (mbs : List Nat) : Array Value := (mbs.map fun b => Value.map (some b)).toArray

/-- What each leads to, as maps. -/
def LeadsAt (w : World) (lb : Nat) (g : List (List Int)) (mbs : List Nat) : Prop :=
  Blk w lb 37 (mapsArr mbs) ∧ mbs.length = g.length ∧ ∀ (i b : Nat), mbs[i]? = some b → MapF w b (mapOf (ledB g [(i : Int)]))

theorem LeadsAt.keep {w w' : World} {lb : Nat} {g : List (List Int)} {mbs : List Nat} (h : LeadsAt w lb g mbs) (hu : Upd (fun _ => False) w w') : LeadsAt w' lb g mbs :=
  ⟨hu.blk h.1 (fun h => h), h.2.1, fun i b hi => (h.2.2 i b hi).keep hu (fun h => h)⟩

theorem LeadsAt.get {w : World} {lb : Nat} {g : List (List Int)} {mbs : List Nat} (h : LeadsAt w lb g mbs) {i : Nat} (hi : i < g.length) : ∃ b, w.cell? ⟨lb, i, none⟩ = some (.map (some b)) ∧ MapF w b (mapOf (ledB g [(i : Int)])) := by
  have h1 : mbs[i]? = some (mbs[i]'(by rw [h.2.1]; exact hi)) := List.getElem?_eq_getElem _
  refine ⟨_, ?_, h.2.2 i _ h1⟩
  rw [h.1.cell]
  simp [mapsArr, h1]

theorem sorted_class {g : List (List Int)} {k : Nat} {xs : List Int} (hp : xs.Perm (classL g k)) : xs.mergeSort (fun x y => decide (x ≤ y)) = classL g k := by
  refine List.Perm.eq_of_pairwise (le := fun a b => decide (a ≤ b) = true) (fun a b _ _ h1 h2 => by simp only [decide_eq_true_eq] at h1 h2; omega) (List.pairwise_mergeSort ?_ ?_ xs) (((reachL_lt g [(k : Int)]).sublist List.filter_sublist).imp fun {a b} h => by simp only [decide_eq_true_eq]; omega) ((List.mergeSort_perm xs _).trans hp)
  · intro a b c h1 h2; simp only [decide_eq_true_eq] at *; omega
  · intro a b; simp only [Bool.or_eq_true, decide_eq_true_eq]; omega

set_option maxHeartbeats 2000000 in
theorem ready_any {w : World} {lb db n k : Nat} {g : List (List Int)} {mbs : List Nat} {done : Nat → Bool} (hL : LeadsAt w lb g mbs) (hD : Blk w db 4 (boolArr n done)) (hok : GOk g) (hn : n = g.length) (hk : k < n) (hnl : n ≤ 1000) :
    Calls Try.prog 23 #[.slice (some ⟨lb, 0, none⟩) n n, .int .i64 k, .slice (some ⟨db, 0, none⟩) n n] w (RowR w (readyR g done k)) := by
  obtain ⟨mb, hcell, hmf⟩ := hL.get (i := k) (by omega)
  have HPK : Hid (∀ ks : List Int, ks.Nodup → (∀ j, j ∈ ks ↔ (mapOf (ledB g [(k : Int)]) j).isSome = true) → ks.Perm (reachL g [(k : Int)])) := fun ks h1 h2 => keys_perm hok (fun x hx => by obtain rfl := List.mem_singleton.1 hx; omega) h1 h2
  have HMF := hide hmf
  have HL := hide hL
  have HD := hide hD
  have HN := hide hn
  have HLE : Hid ((reachL g [(k : Int)]).length ≤ 1000) := Nat.le_trans (reachL_le g _) (by omega)
  have hkn : (k : Int) < (n : Int) := by omega
  clear hmf hL hD hok hn
  go_enter Try.func23, Try.ntmps23
  go_wp2_with (at_range; refine wpList_mrange rfl (.tmp 12) rfl Try.underlying37 rfl HMF.out ?_; intro ks w3 hks1 hks2 hit hu3 hs3; have HIT := hide hit; have HPR := hide (HPK.out ks hks1 hks2); have HU3 := hide hu3; clear hks1 hks2 hit hu3 hs3)
  clear HPK hcell
  go_frame
  go_loopw [7] (fun l wr => ∃ (m : Nat) (A1 : Option Addr) (c1 : Nat) (old ks' : List Int), m ≤ old.length ∧ l = .slice A1 m c1 ∧ Hid (m = (old.filter fun v => ledB g [v] k).length) ∧ Hid (wr.ownsRow w.heap.size 3 1 (.slice A1 m c1) m ((old.filter fun v => ledB g [v] k).map (.int .i64))) ∧ Hid (MapIt wr w.heap.size mb ks') ∧ Hid ((old ++ ks').Perm ks) ∧ Hid (Upd (fun _ => False) w wr) ∧ Hid (∀ v ∈ old, ledB g [v] k = true ∨ done v.toNat = true)) (fun _ wr => leftW w.heap.size wr)
  case atStart => exact ⟨0, none, 0, [], ks, Nat.zero_le _, rfl, rfl, World.ownsRow_nil _ _ _ _, HIT.out, List.Perm.refl _, HU3.out, fun v h => by simp at h⟩
  case round =>
    obtain ⟨m, A1, c1, old, ks', hmo, rfl, HM, HO, HI, HP2, HU, HB⟩ := hrel
    have hlen : old.length + ks'.length ≤ 1000 := by have h1 := HP2.out.length_eq; have h2 := HPR.out.length_eq; have h3 := HLE.out; simp at h1; omega
    cases ks' with
    | nil =>
      have HPO : Hid (old.Perm (reachL g [(k : Int)])) := by
        have h := HP2.out
        rw [List.append_nil] at h
        exact h.trans HPR.out
      have HPC : Hid ((old.filter fun v => ledB g [v] k).Perm (classL g k)) := HPO.out.filter _
      have HRY : Hid (readyR g done k = some (classL g k)) := by
        show _ = _
        unfold readyR
        rw [if_pos]
        unfold readyB
        rw [List.all_eq_true]
        intro v hv
        have := HB.out v (HPO.out.symm.subset hv)
        simpa using this
      have HSO := hide (sort_any HO.out (by simp at hlen; omega))
      have HSR := hide (sorted_class HPC.out)
      have HLC : Hid (m = (classL g k).length) := by show m = _; rw [HM.out, HPC.out.length_eq]
      clear hlen HM HPO HPC HB
      go_wp2_with (first | (at_next; refine wpList_mnext0 rfl (.tmp 13) rfl rfl HI.out ?_) | (go_at_call 20; refine HSO.out.mono ?_; rintro e w4 ⟨rfl, hown, hu4⟩; have HO4 := hide hown; have HU4 := hide hu4; clear hown hu4))
      go_ret
      rw [HRY.out]
      refine ⟨A1, m, c1, rfl, HLC.out, ?_, HU.out.extend HU4.out fun q hq => .inr (own_lo HO.out hq)⟩
      have h := HO4.out
      rw [HSR.out] at h
      exact h
    | cons y ys =>
      have hwr := HU.out.size
      have hlft := HI.out.left
      simp only [List.length_cons] at hlen
      go_step
      go_step
      first | at_next | (go_step; at_next)
      refine wpList_mnext1 rfl (.tmp 13) rfl rfl HI.out ?_
      intro kk v ks2 w4 hp hit hu4 hen
      have HI4 := hide hit
      have HO4 := hide (hu4.own HO.out (fun q hq e => (HI.out.ne_own HO.out q hq).1 e))
      have HU4 := hide (HU.out.extend hu4 fun q hq => .inr (by omega))
      have hw4 := hu4.size
      have HPQ : Hid ((old ++ kk :: ks2).Perm ks) := (hp.append_left old).trans HP2.out
      have hkm : kk ∈ reachL g [(k : Int)] := HPR.out.subset (HPQ.out.subset (by simp))
      obtain ⟨hk0, hk1, hk2⟩ := reachL_mem.1 hkm
      obtain ⟨i, rfl⟩ := Int.eq_ofNat_of_zero_le hk0
      have hin : i < n := by have := HN.out; omega
      have hlq : Hid (ks2.length < (y :: ys).length) := by have := hp.length_eq; show _ < _; rw [← this]; simp
      obtain ⟨mi, hci, hmfi⟩ := (HL.out.keep HU4.out).get (i := i) (by omega)
      have HMI := hide hmfi
      have hbd := ((HU4.out.blk HD.out (fun h => h))).cell i
      rw [boolArr_get hin] at hbd
      have HGET := hide (mapOf_get (f := ledB g [(i : Int)]) (x := (k : Int)) (by omega))
      rw [Int.toNat_natCast] at HGET
      have HKM := hide hkm
      clear hp hit hu4 hk0 hk1 hk2 hmfi hkm
      have HLF : Hid (ks2.length < leftW w.heap.size wr) := by show _ < _; rw [hlft]; exact hlq.out
      have HP3 : Hid (((old ++ [(i : Int)]) ++ ks2).Perm ks) := by show List.Perm _ _; rw [List.append_assoc]; exact HPQ.out
      clear hlft
      cases hlk : ledB g [(i : Int)] k
      · rw [hlk] at HGET
        have HLK := hide hlk
        clear hlk
        have HFE : Hid (((old ++ [(i : Int)]).filter fun v => ledB g [v] k) = old.filter fun v => ledB g [v] k) := by
          show _ = _
          rw [List.filter_append, List.filter_cons_of_neg (by rw [HLK.out]; simp)]; simp
        cases hdi : done i
        · rw [hdi] at hbd
          have HRY : Hid (readyR g done k = none) := by
            show _ = _
            unfold readyR
            rw [if_neg]
            unfold readyB
            rw [Bool.not_eq_true, List.all_eq_false]
            exact ⟨(i : Int), HKM.out, by rw [HLK.out, Int.toNat_natCast, hdi]; simp⟩
          clear hdi
          go_wp2_with (at_lookup; refine wpList_look rfl (.tmp 22) (.tmp 23) false rfl Try.underlying37 Try.underlying3 (Try.zero4 _) rfl HMI.out rfl ?_; simp only [Bool.false_eq_true, if_false]; rw [HGET.out])
          go_ret
          rw [HRY.out]
          exact ⟨rfl, HU4.out⟩
        · rw [hdi] at hbd
          have HDI := hide hdi
          clear hdi
          go_wp2_with (at_lookup; refine wpList_look rfl (.tmp 22) (.tmp 23) false rfl Try.underlying37 Try.underlying3 (Try.zero4 _) rfl HMI.out rfl ?_; simp only [Bool.false_eq_true, if_false]; rw [HGET.out])
          go_roundw
          case rel =>
            refine ⟨m, A1, c1, old ++ [(i : Int)], ks2, by simp; omega, rfl, ?_, ?_, HI4.out, HP3.out, HU4.out, fun v hv => ?_⟩
            · rw [HFE.out]; exact HM.out
            · rw [HFE.out]; exact HO4.out
            · rcases List.mem_append.1 hv with hv | hv
              · exact HB.out v hv
              · obtain rfl := List.mem_singleton.1 hv
                exact .inr HDI.out
          case measure => rw [HI4.out.left]; exact HLF.out
      · rw [hlk] at HGET
        have HLK := hide hlk
        clear hlk
        have HFE : Hid (((old ++ [(i : Int)]).filter fun v => ledB g [v] k) = (old.filter fun v => ledB g [v] k) ++ [(i : Int)]) := by
          show _ = _
          rw [List.filter_append, List.filter_cons_of_pos (by rw [HLK.out])]; simp
        go_wp2_with (first | (at_lookup; refine wpList_look rfl (.tmp 22) (.tmp 23) false rfl Try.underlying37 Try.underlying3 (Try.zero4 _) rfl HMI.out rfl ?_; simp only [Bool.false_eq_true, if_false]; rw [HGET.out]) | (at_builtin; refine wpList_app (v := .slice A1 m c1) (u := .slice (some ⟨w4.heap.size, 0, none⟩) 1 1) Try.ints rfl (.tmp 25) (.tmp 27) rfl rfl ((Upd.alloc (fun _ => False) w4 (.cells #[.int .i64 (i : Int)] 3)).own HO4.out (fun _ _ h => h)) rfl (Rd.new1 _ (.int .i64 (i : Int)) 3 rfl) (by simp [Value.oneCell']) (m + 1) rfl (by omega) (by omega) (by simp; omega) ?_; intro A2 c2 w5 own5 u5 at5 ne5; have HO5 := hide own5; have HU5 := hide u5; clear own5 u5 at5 ne5))
        go_roundw
        case rel =>
          have hal := Upd.alloc (fun _ => False) w4 (.cells #[.int .i64 (i : Int)] 3)
          refine ⟨m + 1, A2, c2, old ++ [(i : Int)], ks2, by simp; omega, rfl, ?_, ?_, ?_, HP3.out, ?_, fun v hv => ?_⟩
          · rw [HFE.out, List.length_append, ← HM.out]; rfl
          · rw [HFE.out, List.map_append]
            exact HO5.out
          · exact (HI4.out.keep hal (fun h => h) (fun h => h)).keep HU5.out (fun h => (HI4.out.ne_own HO4.out _ h).1 rfl) (fun h => (HI4.out.ne_own HO4.out _ h).2 rfl)
          · exact (HU4.out.trans hal).extend HU5.out fun q hq => .inr (own_lo HO4.out hq)
          · rcases List.mem_append.1 hv with hv | hv
            · exact HB.out v hv
            · obtain rfl := List.mem_singleton.1 hv
              exact .inl HLK.out
        case measure =>
          have hal := Upd.alloc (fun _ => False) w4 (.cells #[.int .i64 (i : Int)] 3)
          rw [((HI4.out.keep hal (fun h => h) (fun h => h)).keep HU5.out (fun h => (HI4.out.ne_own HO4.out _ h).1 rfl) (fun h => (HI4.out.ne_own HO4.out _ h).2 rfl)).left]
          exact HLF.out
end Go.Proofs.Ytlfjmppmclgjnaa
