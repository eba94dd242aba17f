/- The reference's heap in memory; what reads it: find, Right, Used, Kind, New. -/
import Derived.Test.YtkmfohocicngaaaKeepsL
import Derived.Test.YtkmfohocicngaaaRefA
namespace Go.Proofs.Ytkmfohocicngaaa
open Go.RowKit

theorem ri64 {a b : Int} (h : a = b) : Ending.returned (.int .i64 a) = .returned (.int .i64 b) := by rw [h]

/-- An owned slice of elements of several cells, taken apart. -/
theorem own_cells {w : World} {B : Nat} {e size : Nat} {v : Value} {n : Nat} {xs : List Value} (h : w.ownsRow B e size v n xs) :
    ∃ A c, v = .slice A n c ∧ n ≤ c ∧ c ≤ maxLen ∧ (A = none → n = 0 ∧ c = 0) ∧
      ∀ g, v.ownBlock = some g → A = some ⟨g, 0, none⟩ ∧ B ≤ g ∧ g < w.heap.size ∧ (∀ k, w.frozen? ⟨g, k, none⟩ = false) ∧ ∀ k u, xs[k]? = some u → w.cell? ⟨g, k, none⟩ = some u := by
  obtain ⟨hl, h2⟩ := h
  rcases h2 with ⟨rfl, rfl⟩ | ⟨g, cap, cur, rfl, hb, hg, hnc, hcm, hcs, htake⟩
  · exact ⟨none, 0, rfl, Nat.le_refl _, Nat.zero_le _, fun _ => ⟨rfl, rfl⟩, fun g hg => by simp [Value.ownBlock] at hg⟩
  · refine ⟨_, cap, rfl, hnc, hcm, fun h => by simp at h, fun g' hg' => ?_⟩
    obtain rfl : g = g' := by simpa [Value.ownBlock] using hg'
    have hblk : Blk w g e cur := hg
    refine ⟨rfl, hb, hblk.lt, fun k => hblk.free k, fun k u hu => ?_⟩
    rw [hblk.cell k]
    rw [← htake, List.getElem?_take] at hu
    split at hu
    · simpa using hu
    · cases hu

/-- A row of the reference's objects. -/
structure Ro (w : World) (B : Nat) (v : Value) (L : List Ob) (G : List (Nat × Nat)) : Prop where
  row : w.ownsRow B 73 3 v L.length (ocells 0 L G)
  len : G.length = L.length
  each : ∀ (i : Nat) (o : Ob) (g : Nat × Nat), L[i]? = some o → G[i]? = some g → w.ownsRow B 3 1 (.slice (some ⟨g.1, 0, none⟩) o.2.length g.2) o.2.length (o.2.map (.int .i64))
  nodup : (G.map (·.1)).Nodup

/-- The blocks of such a row. -/
def RoF (v : Value) (G : List (Nat × Nat)) (k : Nat) : Prop := v.ownBlock = some k ∨ k ∈ G.map (·.1)

theorem Ro.keep {w w' : World} {B : Nat} {v : Value} {L : List Ob} {G : List (Nat × Nat)} (h : Ro w B v L G) {S : Nat → Prop} (hu : Upd S w w') (hS : ∀ k, RoF v G k → ¬ S k) : Ro w' B v L G :=
  ⟨hu.own h.row fun k hk => hS k (.inl hk), h.len, fun i o g ho hg => hu.own (h.each i o g ho hg) fun k hk => hS k (.inr (by
    simp [Value.ownBlock] at hk
    subst hk
    exact List.mem_map.2 ⟨g, List.mem_of_getElem? hg, rfl⟩)), h.nodup⟩

theorem Ro.lt {w : World} {B : Nat} {v : Value} {L : List Ob} {G : List (Nat × Nat)} (h : Ro w B v L G) {k : Nat} (hk : RoF v G k) : B ≤ k ∧ k < w.heap.size := by
  rcases hk with hk | hk
  · exact h.row.lt k hk
  · obtain ⟨g, hg, rfl⟩ := List.mem_map.1 hk
    obtain ⟨i, hi, hgi⟩ := List.getElem_of_mem hg
    have hl := h.len
    have := h.each i (L[i]'(by omega)) g (List.getElem?_eq_getElem (by omega)) (by rw [← hgi]; exact List.getElem?_eq_getElem hi)
    exact this.lt g.1 rfl

/-- What an object of the row gives a walk. -/
theorem Ro.at {w : World} {B : Nat} {v : Value} {L : List Ob} {G : List (Nat × Nat)} (h : Ro w B v L G) (i : Nat) (o : Ob) (ho : L[i]? = some o) :
    ∃ q g c, v = .slice (some ⟨q, 0, none⟩) L.length c ∧ v.ownBlock = some q ∧ G[i]? = some g ∧ w.cell? ⟨q, i * 3, none⟩ = some (.int .i64 (offL L i)) ∧ w.cell? ⟨q, i * 3 + 1, none⟩ = some (.int .i64 o.1) ∧
      w.cell? ⟨q, i * 3 + 2, none⟩ = some (.slice (some ⟨g.1, 0, none⟩) o.2.length g.2) ∧ w.ownsRow B 3 1 (.slice (some ⟨g.1, 0, none⟩) o.2.length g.2) o.2.length (o.2.map (.int .i64)) := by
  obtain ⟨A, c, hv, hnc, hcm, h0, hA⟩ := own_cells h.row
  have hi := (List.getElem?_eq_some_iff.1 ho).1
  have hl := h.len
  have hg := List.getElem?_eq_getElem (show i < G.length by omega)
  obtain ⟨c0, c1, c2⟩ := ocells_get 0 L G i o _ ho hg
  rw [Nat.mul_comm 3 i] at c0 c1 c2
  have hq : ∃ q, v.ownBlock = some q := by
    rcases h.row.2 with ⟨rfl, hn⟩ | ⟨q, cap, cur, rfl, _⟩
    · omega
    · exact ⟨q, rfl⟩
  obtain ⟨q, hq⟩ := hq
  obtain ⟨rfl, _, _, _, hc⟩ := hA q hq
  exact ⟨q, _, c, hv, hq, hg, by simpa using hc _ _ c0, hc _ _ c1, hc _ _ c2, h.each i o _ ho hg⟩

/-- The reference's heap in block b, its objects L, all of it in blocks of F. -/
structure RHv (w : World) (B b : Nat) (lim : Int) (L : List Ob) (v : Value) (G : List (Nat × Nat)) : Prop where
  blk : Blk w b 71 #[.int .i64 lim, v]
  le : B ≤ b
  ro : Ro w B v L G
  wf : WfL L
  l0 : 0 ≤ lim
  l1 : lim ≤ 4194304
  tot : (total L : Int) ≤ lim

theorem Ro.blk_ne {w : World} {B b t : Nat} {cs : Array Value} {v : Value} {L : List Ob} {G : List (Nat × Nat)} (h : Ro w B v L G) (hb : Blk w b t cs) (h1 : t ≠ 73) (h2 : t ≠ 3) {k : Nat} (hk : RoF v G k) : k ≠ b := by
  rcases hk with hk | hk
  · exact own_ne_blk h.row hb (Ne.symm h1) k hk
  · obtain ⟨g, hg, rfl⟩ := List.mem_map.1 hk
    obtain ⟨i, hi, hgi⟩ := List.getElem_of_mem hg
    have hl := h.len
    have := h.each i (L[i]'(by omega)) g (List.getElem?_eq_getElem (by omega)) (by rw [← hgi]; exact List.getElem?_eq_getElem hi)
    exact own_ne_blk this hb (Ne.symm h2) g.1 rfl

theorem length_le_total (L : List Ob) : L.length ≤ total L := by
  induction L with
  | nil => simp
  | cons o L ih => rw [total_cons, List.length_cons]; omega

def RH (w : World) (B b : Nat) (lim : Int) (L : List Ob) (F : Nat → Prop) : Prop := ∃ v G, RHv w B b lim L v G ∧ F b ∧ ∀ k, RoF v G k → F k

theorem RH.keep {S : Nat → Prop} {w w' : World} {B b : Nat} {lim : Int} {L : List Ob} {F : Nat → Prop} (h : RH w B b lim L F) (hu : Upd S w w') (hS : ∀ k, F k → ¬ S k) : RH w' B b lim L F := by
  obtain ⟨v, G, h1, h2, h3⟩ := h
  exact ⟨v, G, ⟨hu.blk h1.blk (hS _ h2), h1.le, h1.ro.keep hu fun k hk => hS k (h3 k hk), h1.wf, h1.l0, h1.l1, h1.tot⟩, h2, h3⟩

section
variable {w : World} {B b : Nat} {lim : Int} {L : List Ob} {F : Nat → Prop} {v : Value} {G : List (Nat × Nat)}

theorem RHv.slice (h : RHv w B b lim L v G) : ∃ A c, v = .slice A L.length c ∧ w.cell? ⟨b, 1, none⟩ = some (.slice A L.length c) ∧ w.cell? ⟨b, 0, none⟩ = some (.int .i64 lim) ∧ L.length ≤ 4194304 := by
  obtain ⟨A, c, hv, _⟩ := own_cells h.ro.row
  have := length_le_total L
  have := h.tot; have := h.l1
  exact ⟨A, c, hv, by rw [h.blk.cell]; exact congrArg some hv, by rw [h.blk.cell]; rfl, by omega⟩

set_option maxHeartbeats 400000 in
theorem find_plain (h : RHv w B b lim L v G) {x : Int} (hp : isP x = false) :
    Calls Try.prog 43 #[.pointer (some ⟨b, 0, none⟩), .int .i64 x] w fun e w' => e = .returned (.int .i64 (-1)) ∧ w = w' := by
  have HPT := hide (pointer_law x)
  rw [hp] at HPT
  clear hp
  obtain ⟨A, c, _, hc, _, hl⟩ := h.slice
  obtain ⟨n, hn⟩ : ∃ n, L.length = n := ⟨_, rfl⟩
  rw [hn] at hc hl
  clear hn h
  by_cases h0 : 0 < n
  all_goals
    go_enter Try.func43, Try.ntmps43
    go_wp2_with fail
    go_loop [5] (fun i => i = .int .i64 0) (fun _ => 0)
    case atStart => rfl
    case round =>
      obtain rfl := hrel
      go_wp2_with (go_at_call 28; refine (HPT.out _).mono ?_; rintro e w4 ⟨rfl, rfl⟩)
      go_ret
      exact ⟨rfl, rfl⟩

set_option maxHeartbeats 1000000 in
theorem find_none (h : RHv w B b lim L v G) {x : Int} (hp : isP x = true) (hno : ∀ i, i < L.length → (offL L i : Int) ≠ x / 8) :
    Calls Try.prog 43 #[.pointer (some ⟨b, 0, none⟩), .int .i64 x] w fun e w' => e = .returned (.int .i64 (-1)) ∧ w = w' := by
  have HPT := hide (pointer_law x)
  rw [hp] at HPT
  clear hp
  obtain ⟨A, c, hv, hc, _, hl⟩ := h.slice
  have HAT := hide h.ro.at
  have HNO := hide hno
  have HV := hide hv
  obtain ⟨n, hn⟩ : ∃ n, L.length = n := ⟨_, rfl⟩
  rw [hn] at hc hl
  have HN := hide hn
  clear hn h hno hv
  go_enter Try.func43, Try.ntmps43
  go_wp2_with fail
  go_loop [5] (fun i => ∃ k : Nat, k ≤ n ∧ i = .int .i64 k) (fun i => n - (intOf i).toNat)
  case atStart => exact ⟨0, Nat.zero_le _, rfl⟩
  case round =>
    obtain ⟨k, hk, rfl⟩ := hrel
    by_cases hlt : k < n
    · obtain ⟨q, g, c', hv', _, _, hc0, _⟩ := HAT.out _ _ (List.getElem?_eq_getElem (by rw [HN.out]; exact hlt))
      rw [HV.out] at hv'
      injection hv' with hA
      subst hA
      have hne : ((offL L k : Int) == x / 8) = false := by simpa using HNO.out k (by rw [HN.out]; exact hlt)
      generalize (offL L k : Int) = z at hc0 hne
      go_wp2_with (go_at_call 28; refine (HPT.out _).mono ?_; rintro e w4 ⟨rfl, rfl⟩)
      go_round
      case rel => exact ⟨k + 1, by omega, by go_num⟩
      case measure => simp [intOf]; omega
    · go_wp2_with fail
      go_ret
      exact ⟨rfl, rfl⟩

set_option maxHeartbeats 1000000 in
theorem find_yes (h : RHv w B b lim L v G) {x : Int} (hp : isP x = true) {j : Nat} (hj : j < L.length) (hat : (offL L j : Int) = x / 8) :
    Calls Try.prog 43 #[.pointer (some ⟨b, 0, none⟩), .int .i64 x] w fun e w' => e = .returned (.int .i64 j) ∧ w = w' := by
  have HPT := hide (pointer_law x)
  rw [hp] at HPT
  clear hp
  obtain ⟨A, c, hv, hc, _, hl⟩ := h.slice
  have HAT := hide h.ro.at
  have HJ := hide hat
  have HV := hide hv
  obtain ⟨n, hn⟩ : ∃ n, L.length = n := ⟨_, rfl⟩
  rw [hn] at hc hl hj
  have HN := hide hn
  clear hn h hat hv
  go_enter Try.func43, Try.ntmps43
  go_wp2_with fail
  go_loop [5] (fun i => ∃ k : Nat, k ≤ j ∧ i = .int .i64 k) (fun i => n - (intOf i).toNat)
  case atStart => exact ⟨0, Nat.zero_le _, rfl⟩
  case round =>
    obtain ⟨k, hk, rfl⟩ := hrel
    obtain ⟨q, g, c', hv', _, _, hc0, _⟩ := HAT.out _ _ (List.getElem?_eq_getElem (show k < L.length by rw [HN.out]; omega))
    rw [HV.out] at hv'
    injection hv' with hA
    subst hA
    by_cases hlt : k < j
    · have hne : ((offL L k : Int) == x / 8) = false := by
        rw [← HJ.out]
        have := offL_lt hlt (by rw [HN.out]; omega)
        simp; omega
      have hkn : k < n := by omega
      generalize (offL L k : Int) = z at hc0 hne
      go_wp2_with (go_at_call 28; refine (HPT.out _).mono ?_; rintro e w4 ⟨rfl, rfl⟩)
      go_round
      case rel => exact ⟨k + 1, by omega, by go_num⟩
      case measure => simp [intOf]; omega
    · obtain rfl : k = j := by omega
      have hne : ((offL L k : Int) == x / 8) = true := by
        rw [HJ.out]; simp
      generalize (offL L k : Int) = z at hc0 hne
      go_wp2_with (go_at_call 28; refine (HPT.out _).mono ?_; rintro e w4 ⟨rfl, rfl⟩)
      go_ret
      exact ⟨rfl, rfl⟩

/-- Which object a value leads to; -1: none. -/
def findZ (L : List Ob) (x r : Int) : Prop := (objL L x = none ∧ r = -1) ∨ ∃ (i : Nat) (o : Ob), objL L x = some o ∧ L[i]? = some o ∧ i < L.length ∧ isP x = true ∧ (offL L i : Int) = x / 8 ∧ r = i

theorem findZ_ex (L : List Ob) (x : Int) : ∃ r, findZ L x r := by
  cases ho : objL L x with
  | none => exact ⟨-1, .inl ⟨ho, rfl⟩⟩
  | some o => obtain ⟨i, h1, h2, h3, h4⟩ := objL_ix ho; exact ⟨i, .inr ⟨i, o, ho, h1, h2, h3, h4, rfl⟩⟩

theorem find_any (h : RHv w B b lim L v G) {x r : Int} (hr : findZ L x r) :
    Calls Try.prog 43 #[.pointer (some ⟨b, 0, none⟩), .int .i64 x] w fun e w' => e = .returned (.int .i64 r) ∧ w = w' := by
  rcases hr with ⟨ho, rfl⟩ | ⟨i, o, ho, hi, hl, hp, hat, rfl⟩
  · cases hp : isP x with
    | false => exact find_plain h hp
    | true => exact find_none h hp fun i hi => objL_none ho hp hi
  · exact find_yes h hp hl hat

set_option maxHeartbeats 400000 in
theorem rright_any (h : RHv w B b lim L v G) (x : Int) :
    Calls Try.prog 42 #[.pointer (some ⟨b, 0, none⟩), .int .i64 x] w fun e w' => e = .returned (.bool (rightL L x)) ∧ w = w' := by
  have HPT := hide (pointer_law x)
  obtain ⟨r, hr⟩ := findZ_ex L x
  have HF := hide (find_any h hr)
  have hs := @objL_some L x
  cases hp : isP x with
  | false =>
    rw [hp] at HPT
    have HR : Hid (rightL L x = true) := by show rightL L x = true; simp [rightL, hp]
    clear hp hr hs HF h
    go_enter Try.func42, Try.ntmps42
    go_wp2_with (go_at_call 28; refine (HPT.out _).mono ?_; rintro e w4 ⟨rfl, rfl⟩)
    go_ret
    exact ⟨rb HR.out.symm, rfl⟩
  | true =>
    rw [hp] at HPT
    rw [hp, Bool.true_and] at hs
    rcases hr with ⟨ho, rfl⟩ | ⟨i, o, ho, hi, hl, hp', hat, rfl⟩
    · rw [ho] at hs
      have HR : Hid (rightL L x = false) := hs.symm
      clear hp hs ho h
      go_enter Try.func42, Try.ntmps42
      go_wp2_with (first | (go_at_call 28; refine (HPT.out _).mono ?_; rintro e w4 ⟨rfl, rfl⟩) | (go_at_call 43; refine HF.out.mono ?_; rintro e w4 ⟨rfl, rfl⟩))
      go_ret
      exact ⟨rb HR.out.symm, rfl⟩
    · rw [ho] at hs
      have HR : Hid (rightL L x = true) := hs.symm
      clear hp hs ho h hi hl hp' hat
      go_enter Try.func42, Try.ntmps42
      go_wp2_with (first | (go_at_call 28; refine (HPT.out _).mono ?_; rintro e w4 ⟨rfl, rfl⟩) | (go_at_call 43; refine HF.out.mono ?_; rintro e w4 ⟨rfl, rfl⟩))
      go_ret
      exact ⟨rb HR.out.symm, rfl⟩

set_option maxHeartbeats 1000000 in
theorem rused_any (h : RHv w B b lim L v G) :
    Calls Try.prog 27 #[.pointer (some ⟨b, 0, none⟩)] w fun e w' => e = .returned (.int .i64 (total L)) ∧ w = w' := by
  obtain ⟨A, c, hv, hc, _, hl⟩ := h.slice
  have HAT := hide h.ro.at
  have HV := hide hv
  have htot : total L ≤ 4194304 := by have := h.tot; have := h.l1; omega
  have HT := hide htot
  obtain ⟨n, hn⟩ : ∃ n, L.length = n := ⟨_, rfl⟩
  rw [hn] at hc hl
  have HN := hide hn
  clear hn h hv htot
  go_enter Try.func27, Try.ntmps27
  go_wp2_with fail
  go_loop [3, 4] (fun s i => ∃ k : Nat, k ≤ n ∧ i = .int .i64 k ∧ s = .int .i64 (offL L k)) (fun _ i => n - (intOf i).toNat)
  case atStart => exact ⟨0, Nat.zero_le _, rfl, rfl⟩
  case round =>
    obtain ⟨k, hk, rfl, rfl⟩ := hrel
    by_cases hlt : k < n
    · have hLk := List.getElem?_eq_getElem (show k < L.length by rw [HN.out]; exact hlt)
      obtain ⟨q, g, c', hv', _, _, _, _, hc2, _⟩ := HAT.out _ _ hLk
      rw [HV.out] at hv'
      injection hv' with hA
      subst hA
      have hs := offL_succ hLk
      have hle : offL L (k + 1) ≤ 4194304 := Nat.le_trans (offL_le (by rw [HN.out]; omega)) HT.out
      generalize (L[k]'(by rw [HN.out]; exact hlt)).2.length = m at hc2 hs
      have HS := hide hs
      have hb : offL L k + m + 1 ≤ 4194304 := by omega
      clear hs hle hLk
      generalize hz : offL L k = z at hb
      have HZ := hide hz
      clear hz
      go_wp2_with fail
      go_round
      case rel => exact ⟨k + 1, by omega, by go_num, by rw [HS.out, HZ.out]; go_num⟩
      case measure => simp [intOf]; omega
    · obtain rfl : k = n := by omega
      go_wp2_with fail
      go_ret
      exact ⟨ri64 (by rw [← HN.out, offL_all]), rfl⟩

set_option maxHeartbeats 400000 in
theorem rkind_any (h : RHv w B b lim L v G) (x : Int) :
    Calls Try.prog 25 #[.pointer (some ⟨b, 0, none⟩), .int .i64 x] w fun e w' => e = .returned (.tuple #[.int .i64 (kindL L x).1, .int .i64 (kindL L x).2]) ∧ w = w' := by
  obtain ⟨r, hr⟩ := findZ_ex L x
  have HF := hide (find_any h hr)
  rcases hr with ⟨ho, rfl⟩ | ⟨i, o, ho, hi, hl, hp', hat, rfl⟩
  · rw [show kindL L x = (0, 1) by simp [kindL, ho]]
    clear ho h
    go_enter Try.func25, Try.ntmps25
    go_wp2_with (go_at_call 43; refine HF.out.mono ?_; rintro e w4 ⟨rfl, rfl⟩)
    go_ret2
    exact ⟨rfl, rfl⟩
  · rw [show kindL L x = (o.1, 0) by simp [kindL, ho]]
    obtain ⟨A, c, hv, hc, _, hll⟩ := h.slice
    obtain ⟨q, g, c', hv', _, _, _, hc1, _⟩ := h.ro.at _ _ hi
    rw [hv] at hv'
    injection hv' with hA
    subst hA
    generalize o.1 = kd at hc1
    clear ho h hi hp' hat hv
    generalize L.length = n at *
    go_enter Try.func25, Try.ntmps25
    go_wp2_with (go_at_call 43; refine HF.out.mono ?_; rintro e w4 ⟨rfl, rfl⟩)
    go_ret2
    exact ⟨rfl, rfl⟩

set_option maxHeartbeats 400000 in
theorem rnew_no {n : Int} (w : World) (h : n < 0 ∨ 4194304 < n) :
    Calls Try.prog 19 #[.int .i64 n] w fun e w' => e = .returned (.tuple #[.pointer none, .int .i64 1]) ∧ w = w' := by
  by_cases h0 : n < 0
  · go_enter Try.func19, Try.ntmps19
    go_wp2
    go_ret2
    exact ⟨rfl, rfl⟩
  · have h1 : 4194304 < n := by omega
    go_enter Try.func19, Try.ntmps19
    go_wp2
    go_ret2
    exact ⟨rfl, rfl⟩

set_option maxHeartbeats 400000 in
theorem rnew_yes {n : Int} (w : World) (h0 : 0 ≤ n) (h1 : n ≤ 4194304) :
    Calls Try.prog 19 #[.int .i64 n] w fun e w' => e = .returned (.tuple #[.pointer (some ⟨w.heap.size, 0, none⟩), .int .i64 0]) ∧ w.alloc (.cells #[.int .i64 n, .slice none 0 0] 71) = w' := by
  go_enter Try.func19, Try.ntmps19
  go_wp2
  go_ret2
  exact ⟨rfl, rfl⟩

end
end Go.Proofs.Ytkmfohocicngaaa
