/- 'graph.Reach', walked. -/
import Derived.Test.YtlfjmppmclgjnaaRch
import Derived.Test.YtlfjmppmclgjnaaMit
import Derived.Maps.RangeWalk
namespace Go.Proofs.Ytlfjmppmclgjnaa
open Go.RowKit

/-- What some lead to, in rising order. -/
noncomputable def reachL (g : List (List Int)) (S : List Int) : List Int := ((List.range g.length).filter (ledB g S)).map Int.ofNat

theorem reachL_le (g : List (List Int)) (S : List Int) : (reachL g S).length ≤ g.length := by
  unfold reachL
  rw [List.length_map]
  exact Nat.le_trans (List.length_filter_le _ _) (by simp)

theorem reachL_mem {g : List (List Int)} {S : List Int} {k : Int} : k ∈ reachL g S ↔ 0 ≤ k ∧ k < g.length ∧ Led g S k.toNat := by
  unfold reachL
  simp only [List.mem_map, List.mem_filter, List.mem_range, ledB_iff]
  constructor
  · rintro ⟨a, ⟨h1, h2⟩, rfl⟩
    exact ⟨by simp, by simpa using h1, by simpa using h2⟩
  · rintro ⟨h0, h1, h2⟩
    exact ⟨k.toNat, ⟨by omega, h2⟩, by simp; omega⟩

theorem reachL_lt (g : List (List Int)) (S : List Int) : (reachL g S).Pairwise (fun a b => a < b) := by
  unfold reachL
  rw [List.pairwise_map]
  exact (List.pairwise_lt_range.sublist List.filter_sublist).imp fun h => by simpa using h

theorem reachL_nodup (g : List (List Int)) (S : List Int) : (reachL g S).Nodup := (reachL_lt g S).imp fun h => by omega

theorem sorted_reach {g : List (List Int)} {S ks : List Int} (hp : ks.Perm (reachL g S)) : ks.mergeSort (fun x y => decide (x ≤ y)) = reachL g S := by
  refine List.Perm.eq_of_pairwise (le := fun a b => decide (a ≤ b) = true) (fun a b _ _ h1 h2 => by simp only [decide_eq_true_eq] at h1 h2; omega) (List.pairwise_mergeSort ?_ ?_ ks) ((reachL_lt g S).imp fun {a b} h => by simp only [decide_eq_true_eq]; omega) ((List.mergeSort_perm ks _).trans hp)
  · intro a b c h1 h2; simp only [decide_eq_true_eq] at *; omega
  · intro a b; simp only [Bool.or_eq_true, decide_eq_true_eq]; omega

theorem keys_perm {g : List (List Int)} {S ks : List Int} (hg : GOk g) (hS : ∀ x ∈ S, 0 ≤ x ∧ x < g.length) (hn : ks.Nodup) (hm : ∀ k, k ∈ ks ↔ (mapOf (ledB g S) k).isSome = true) : ks.Perm (reachL g S) := by
  rw [List.perm_ext_iff_of_nodup hn (reachL_nodup g S)]
  intro k
  rw [hm k, reachL_mem]
  unfold mapOf
  by_cases h0 : 0 ≤ k
  · have e : (decide (0 ≤ k) && ledB g S k.toNat) = ledB g S k.toNat := by simp [h0]
    rw [e]
    constructor
    · intro h
      have hl : ledB g S k.toNat = true := by
        cases hb : ledB g S k.toNat with
        | true => rfl
        | false => rw [hb] at h; simp at h
      have := Led.lt hg hS (ledB_iff.1 hl)
      exact ⟨h0, by omega, ledB_iff.1 hl⟩
    · rintro ⟨_, _, h⟩
      rw [ledB_iff.2 h]; simp
  · have e : (decide (0 ≤ k) && ledB g S k.toNat) = false := by simp [h0]
    rw [e]
    simp [h0]

theorem MapIt.ne_own {w : World} {r bm : Nat} {ks : List Int} {B e size n : Nat} {v : Value} {xs : List Value} (h : MapIt w r bm ks) (hb : w.ownsRow B e size v n xs) : ∀ k, v.ownBlock = some k → k ≠ r ∧ k ≠ bm := by
  intro k hk
  obtain ⟨es, clock, since, seen, c0, h1, _, h3, _⟩ := h
  rcases hb.2 with ⟨rfl, _⟩ | ⟨g, cap, cur, rfl, _, hg, _⟩
  · simp [Value.ownBlock] at hk
  · obtain rfl : g = k := by simpa [Value.ownBlock] using hk
    exact ⟨by rintro rfl; rw [h3] at hg; exact absurd hg (by simp), by rintro rfl; rw [h1] at hg; exact absurd hg (by simp)⟩

def lenV : Value → Nat
  | .slice _ n _ => n
  | _ => 0

/-- A list of the call's own and no error; or an error. -/
def ListN (w : World) (r : Option (List Int)) (e : Ending) (w' : World) : Prop :=
  match r with
  | none => e = .returned (.tuple #[.slice none 0 0, .int .i64 1]) ∧ Upd (fun _ => False) w w'
  | some xs => ∃ A n c, e = .returned (.tuple #[.slice A n c, .int .i64 0]) ∧ Hid (n = xs.length) ∧ Hid (w'.ownsRow w.heap.size 3 1 (.slice A n c) n (xs.map (.int .i64)) ∧ Upd (fun _ => False) w w')

theorem wrong_false {g : List (List Int)} {S : List Int} (h : wrongB g S = false) : g.length ≤ 1000 ∧ (∀ x ∈ S, 0 ≤ x ∧ x < g.length) ∧ GOk g := by
  unfold wrongB at h
  simp only [Bool.or_eq_false_iff, decide_eq_false_iff_not, List.any_eq_false, badB, Bool.or_eq_true, decide_eq_true_eq, List.any_eq_true] at h
  refine ⟨by omega, fun x hx => ?_, fun l hl x hx => ?_⟩
  · have := h.1.2 x hx; omega
  · have := fun hh => h.2 l hl ⟨x, hx, hh⟩
    by_cases h0 : x < 0
    · exact absurd (.inl h0) this
    · by_cases h1 : (g.length : Int) ≤ x
      · exact absurd (.inr h1) this
      · omega

set_option maxHeartbeats 2000000 in
theorem greach_any {w : World} {A : Option Addr} {n c : Nat} {g : List (List Int)} (hg : GRd w A n g) (hl : n ≤ 9223372036854775807) {A' : Option Addr} {n' c' : Nat} {S : List Int} (hx : Rd w (.slice A' n' c') 1 n' (S.map (.int .i64))) (hn' : n' = S.length) (hl' : n' ≤ 9223372036854775807) (he : wrongB g S = false → n' + edges g ≤ 10000000) :
    Calls Try.prog 11 #[.slice A n c, .slice A' n' c'] w (ListN w (if wrongB g S then none else some (reachL g S))) := by
  have HWR := hide (wrong_any (c := c) hg hl hx hn' hl')
  cases hw : wrongB g S
  · obtain ⟨hk, hS, hok⟩ := wrong_false hw
    rw [hw] at HWR
    have hgl := hg.1
    have HR : Hid (∀ w1, Upd (fun _ => False) w w1 → Calls Try.prog 19 #[.slice A n c, .slice A' n' c'] w1 (MapN w1 (ledB g S))) := fun w1 hu => reach_any (hg.keep hu) hok (hx.keep hu (fun _ _ h => h)) hn' (by omega) (he hw) hS
    have HP : Hid (∀ ks : List Int, ks.Nodup → (∀ k, k ∈ ks ↔ (mapOf (ledB g S) k).isSome = true) → ks.Perm (reachL g S)) := fun ks h1 h2 => keys_perm hok hS h1 h2
    have HL : Hid ((reachL g S).length ≤ 1000) := Nat.le_trans (reachL_le g S) hk
    clear hw hgl hk hS hok hg hl hx hn' hl' he
    go_enter Try.func11, Try.ntmps11
    go_wp2_with (first | (go_at_call 18; refine HWR.out.mono ?_; rintro e w1 ⟨rfl, hu1⟩; have HU1 := hide hu1; clear hu1) | (go_at_call 19; refine (HR.out w1 HU1.out).mono ?_; rintro e w2 ⟨mb, rfl, HM2⟩) | (at_range; refine wpList_mrange rfl (.tmp 13) rfl Try.underlying37 rfl HM2.out.2.1 ?_; intro ks w3 hks1 hks2 hit hu3 hs3; have HIT := hide hit; have HPK := hide (HP.out ks hks1 hks2); have HU3 := hide hu3; clear hks1 hks2 hit hu3 hs3))
    have HU := hide ((HU1.out.trans HM2.out.2.2).trans HU3.out)
    have HSZ := hide HM2.out.1
    go_loopw [6, 7] (fun l _ wr => ∃ (k : Nat) (A1 : Option Addr) (c1 : Nat) (acc ks' : List Int), k = acc.length ∧ l = .slice A1 k c1 ∧ Hid (wr.ownsRow w.heap.size 3 1 (.slice A1 k c1) k (acc.map (.int .i64))) ∧ Hid (MapIt wr w2.heap.size mb ks') ∧ Hid ((acc ++ ks').Perm ks) ∧ Hid (Upd (fun _ => False) w wr)) (fun l _ _ => ks.length - lenV l)
    case atStart => exact ⟨0, none, 0, [], ks, rfl, rfl, World.ownsRow_nil _ _ _ _, HIT.out, List.Perm.refl _, HU.out⟩
    case round =>
      obtain ⟨k, A1, c1, acc, ks', HK, rfl, HO, HI, HPR, HUR⟩ := hrel
      have hlen : k + ks'.length = ks.length := by have := HPR.out.length_eq; simp at this; omega
      have hks : ks.length ≤ 1000 := by have := HPK.out.length_eq; have := HL.out; omega
      cases ks' with
      | nil =>
        have HP2 : Hid (acc.Perm (reachL g S)) := by
          have h := HPR.out
          rw [List.append_nil] at h
          exact h.trans HPK.out
        have HSO := hide (sort_any HO.out (by simp at hlen; omega))
        have HSR := hide (sorted_reach HP2.out)
        have HLE : Hid (k = (reachL g S).length) := by show k = _; rw [HK, HP2.out.length_eq]
        clear hlen hks HK
        go_wp2_with (first | (at_next; refine wpList_mnext0 rfl (.tmp 14) rfl rfl HI.out ?_) | (go_at_call 20; refine HSO.out.mono ?_; rintro e w4 ⟨rfl, hown, hu4⟩; have HO4 := hide hown; have HU4 := hide hu4; clear hown hu4))
        go_ret2
        refine ⟨A1, k, c1, rfl, HLE.out, ?_, HUR.out.extend HU4.out fun q hq => .inr (own_lo HO.out hq)⟩
        have h := HO4.out
        rw [HSR.out] at h
        exact h
      | cons y ys =>
        have HK2 := hide HK
        have hr0 : Hid (w.heap.size ≤ w2.heap.size) := (HU1.out.trans HM2.out.2.2).size
        have hwr := HUR.out.size
        simp only [List.length_cons] at hlen
        clear HK
        go_wp2_with (first | (at_next; refine wpList_mnext1 rfl (.tmp 14) rfl rfl HI.out ?_; intro kk v ks2 w4 hp hit hu4 hen; have HI4 := hide hit; have HU4 := hide hu4; have HPQ := hide hp; have HO4 := hide (hu4.own HO.out (fun q hq e => (HI.out.ne_own HO.out q hq).1 e)); have hw4 := hu4.size; clear hp hit hu4) | (at_builtin; refine wpList_app (v := .slice A1 k c1) (u := .slice (some ⟨w4.heap.size, 0, none⟩) 1 1) Try.ints rfl (.tmp 19) (.tmp 21) rfl rfl ((Upd.alloc (fun _ => False) w4 (.cells #[.int .i64 kk] 3)).own HO4.out (fun _ _ h => h)) rfl (Rd.new1 _ (.int .i64 kk) 3 rfl) (by simp [Value.oneCell']) (k + 1) rfl (by omega) (by omega) (by simp; omega) ?_; intro A2 c2 w5 own5 u5 at5 ne5; have HO5 := hide own5; have HU5 := hide u5; clear own5 u5 at5 ne5))
        go_roundw
        case rel =>
          have hal := Upd.alloc (fun _ => False) w4 (.cells #[.int .i64 kk] 3)
          refine ⟨k + 1, A2, c2, acc ++ [kk], ks2, ?_, rfl, ?_, ?_, ?_, ?_⟩
          · have := HK2.out; simp; omega
          · have h := HO5.out
            show World.ownsRow _ _ _ _ _ _ _
            rw [List.map_append]
            exact h
          · exact (HI4.out.keep hal (fun h => h) (fun h => h)).keep HU5.out (fun h => (HI4.out.ne_own HO4.out _ h).1 rfl) (fun h => (HI4.out.ne_own HO4.out _ h).2 rfl)
          · have h := HPQ.out.append_left acc
            have h2 := h.trans HPR.out
            show List.Perm _ _
            rw [List.append_assoc]
            exact h2
          · have hr := hr0.out
            exact ((HUR.out.extend HU4.out fun q hq => .inr (by omega)).trans hal).extend HU5.out fun q hq => .inr (own_lo HO4.out hq)
        case measure => simp [lenV]; omega
  · rw [hw] at HWR
    clear hw hg hl hx hn' hl' he
    go_enter Try.func11, Try.ntmps11
    go_wp2_with (go_at_call 18; refine HWR.out.mono ?_; rintro e w1 ⟨rfl, hu1⟩; have HU1 := hide hu1; clear hu1)
    go_ret2
    exact ⟨rfl, HU1.out⟩
/-- What 'Reach' answers: nothing where something is wrong. -/
noncomputable def reachR (g : List (List Int)) (S : List Int) : Option (List Int) := if wrongB g S then none else some (reachL g S)

theorem gReach_any {w : World} {A : Option Addr} {n c : Nat} {g : List (List Int)} (hg : GRd w A n g) (hl : n ≤ 9223372036854775807) {A' : Option Addr} {n' c' : Nat} {S : List Int} (hx : Rd w (.slice A' n' c') 1 n' (S.map (.int .i64))) (hn' : n' = S.length) (hl' : n' ≤ 9223372036854775807) (he : wrongB g S = false → n' + edges g ≤ 10000000) :
    Calls Try.prog 11 #[.slice A n c, .slice A' n' c'] w (ListN w (reachR g S)) := greach_any hg hl hx hn' hl' he

end Go.Proofs.Ytlfjmppmclgjnaa
