/- HeapChain, walked. -/
import Derived.Test.YtkmfohocicngaaaRoom
import Derived.Test.YtkmfohocicngaaaChain
namespace Go.Proofs.Ytkmfohocicngaaa
open Go.RowKit

theorem objL_i64 {L : List Ob} {v : Int} {o : Ob} (h : objL L v = some o) (ht : total L ≤ 4194304) : I64 v := by
  obtain ⟨k, _, h2, _, hat⟩ := objL_place h
  have := atL_lt hat
  exact ⟨by omega, by omega⟩

theorem Chain.i64 {L : List Ob} {i : Nat} {v : Int} (h : Chain L i v) (ht : total L ≤ 4194304) : I64 v := by
  cases i with
  | zero => obtain rfl : v = 0 := h; exact ⟨by decide, by decide⟩
  | succ i => obtain ⟨p, h1, _⟩ := h; exact objL_i64 h1 ht

theorem alloc_right (lim : Int) (L : List Ob) (kind : Int) (xs : List Int) (h0 : 0 ≤ kind) (h1 : kind ≤ 15) (h2 : xs.length ≤ 65535) (h3 : ∀ x ∈ xs, rightL L x = true) :
    allocRes lim L kind xs = if lim < (total L : Int) + xs.length + 1 then (0, 6, L) else ((total L : Int) * 8 + 5, 0, L ++ [(kind, xs)]) := by
  unfold allocRes
  have h : xs.any (fun x => !rightL L x) = false := by
    rw [List.any_eq_false]
    intro x hx
    simp [h3 x hx]
  rw [if_neg (by simp [h]; omega)]

theorem objL_new (L : List Ob) (o : Ob) : objL (L ++ [o]) ((total L : Int) * 8 + 5) = some o := by
  unfold objL
  rw [if_pos ⟨isP_mk _, by omega⟩, place_mk]
  exact atL_append_at L o []

/-- The memory of the call behind some objects that are dropped. -/
def WasteSt (w0 : World) (b : Nat) (lim : Int) (i : Nat) (last : Int) (m : Nat) (e : Ending) (w' : World) : Prop :=
  ∃ r1 r2 L, e = .returned (.tuple #[.int .i64 r1, .int .i64 r2]) ∧ St w0 w' b lim L ∧ Chain L i last ∧ total L ≤ m

theorem waste_call {w0 w : World} {b : Nat} {lim : Int} {L : List Ob} (h : St w0 w b lim L) {i : Nat} {last : Int} (hc : Chain L i last) {m : Nat} (hm : total L ≤ m) {g : Nat} (hg : g = w.heap.size) :
    Calls Try.prog 11 #[.pointer (some ⟨b, 0, none⟩), .int .i64 3, .slice (some ⟨g, 0, none⟩) 1 1] (w.alloc (.cells #[.int .i64 last] 3)) (WasteSt w0 b lim i last (m + 2)) := by
  subst hg
  obtain ⟨_, hl0, hl1, hl2⟩ := h.wf
  have hal := h.alloc (Upd.alloc (fun _ => False) w (.cells #[.int .i64 last] 3)) 3 (some ⟨w.heap.size, 0, none⟩) 1 1 [last] (Rd.lit w #[.int .i64 last] 3 rfl rfl 1) rfl (fun k hk => by simp [Value.ownBlock] at hk; omega) (by decide) (by intro x hx; simp at hx; subst hx; exact hc.i64 (by omega))
  rw [alloc_right lim L 3 [last] (by decide) (by decide) (by simp) (by intro x hx; simp at hx; subst hx; exact hc.right)] at hal
  refine hal.mono ?_
  split
  · rintro e w' ⟨he, hs⟩
    exact ⟨_, _, L, he, hs, hc, by omega⟩
  · rintro e w' ⟨he, hs⟩
    refine ⟨_, _, _, he, hs, hc.append _, ?_⟩
    rw [total_append, total_cons, total_nil]
    simp; omega

def ChainSt (w0 : World) (b : Nat) (lim : Int) (i : Nat) (e : Ending) (w' : World) : Prop :=
  ∃ p L, e = .returned (.tuple #[.int .i64 p, .int .i64 0]) ∧ St w0 w' b lim L ∧ Chain L (i + 1) p ∧ (total L : Int) + 17 ≤ lim

theorem chain_call {w0 w : World} {b : Nat} {lim : Int} {L : List Ob} (h : St w0 w b lim L) {i : Nat} {last : Int} (hc : Chain L i last) (hm : (total L : Int) + 20 ≤ lim) {g : Nat} (hg : g = w.heap.size) :
    Calls Try.prog 11 #[.pointer (some ⟨b, 0, none⟩), .int .i64 1, .slice (some ⟨g, 0, none⟩) 2 2] (w.alloc (.cells #[.int .i64 (8 * (i : Int)), .int .i64 last] 3)) (ChainSt w0 b lim i) := by
  subst hg
  obtain ⟨hL, hl0, hl1, hl2⟩ := h.wf
  by_cases hi : (i : Int) ≤ 4194304
  · have hal := h.alloc (Upd.alloc (fun _ => False) w (.cells #[.int .i64 (8 * (i : Int)), .int .i64 last] 3)) 1 (some ⟨w.heap.size, 0, none⟩) 2 2 [8 * (i : Int), last] (Rd.lit w #[.int .i64 (8 * (i : Int)), .int .i64 last] 3 rfl rfl 2) rfl (fun k hk => by simp [Value.ownBlock] at hk; omega) (by decide)
      (by intro x hx; simp at hx; rcases hx with rfl | rfl; exact ⟨by omega, by omega⟩; exact hc.i64 (by omega))
    rw [alloc_right lim L 1 _ (by decide) (by decide) (by simp) (by intro x hx; simp at hx; rcases hx with rfl | rfl; simp [rightL, isP_8]; exact hc.right), if_neg (by simp; omega)] at hal
    refine hal.mono ?_
    rintro e w' ⟨he, hs⟩
    refine ⟨_, _, he, hs, ⟨last, objL_new _ _, hc.append _⟩, ?_⟩
    rw [total_append, total_cons, total_nil]
    simp; omega
  · exfalso
    obtain ⟨ps, a, b', _, d, _⟩ := hc.places
    have hsub : ∀ k ∈ ps, k ∈ List.range (total L) := fun k hk => by
      obtain ⟨j, p, _, hat, _⟩ := d k hk
      exact List.mem_range.2 (atL_lt hat)
    have := length_le_of_sub b' hsub
    simp at this
    have hcc := chain_collect hL hc
    obtain ⟨L', v', hr, _, ht⟩ := hcc
    have hle : total L' ≤ total L := by
      unfold collRes at hr
      split at hr
      · cases hr
      · have := (collect_wf [last] hL (by omega)).2
        rw [Option.some.inj hr] at this
        exact this
    omega

theorem St.fields {w0 w : World} {b : Nat} {lim : Int} {L : List Ob} (h : St w0 w b lim L) (p : Int) (hp : I64 p) : Calls Try.prog 14 #[.pointer (some ⟨b, 0, none⟩), .int .i64 p] w fun e w' => FieldsPost w (fieldsL L p) e w' ∧ St w0 w' b lim L := by
  obtain ⟨F, h1, h2⟩ := h
  refine (fields_made h1 p hp).mono fun e w' hh => ⟨hh, ?_⟩
  cases hr : fieldsL L p with
  | none =>
    rw [hr] at hh
    obtain ⟨_, rfl⟩ := hh
    exact ⟨F, h1, h2⟩
  | some xs =>
    rw [hr] at hh
    obtain ⟨v, _, _, _, hb⟩ := hh
    exact St.keep ⟨F, h1, h2⟩ (Upd.of_below hb)

def PairSt (w0 : World) (b : Nat) (lim : Int) (L : List Ob) (x y : Int) (e : Ending) (w' : World) : Prop :=
  ∃ g c, e = .returned (.tuple #[.slice (some ⟨g, 0, none⟩) 2 c, .int .i64 0]) ∧ w'.cell? ⟨g, 0, none⟩ = some (.int .i64 x) ∧ w'.cell? ⟨g, 1, none⟩ = some (.int .i64 y) ∧ 2 ≤ c ∧ St w0 w' b lim L

theorem pair_call {w0 w : World} {b : Nat} {lim : Int} {L : List Ob} (h : St w0 w b lim L) {v x y k : Int} (ho : objL L v = some (k, [x, y])) : Calls Try.prog 14 #[.pointer (some ⟨b, 0, none⟩), .int .i64 v] w (PairSt w0 b lim L x y) := by
  obtain ⟨_, _, hl1, hl2⟩ := h.wf
  refine (h.fields v (objL_i64 ho (by omega))).mono ?_
  rintro e w' ⟨hf, hs⟩
  rw [show fieldsL L v = some [x, y] by simp [fieldsL, ho]] at hf
  obtain ⟨u, he, hu, hown, _⟩ := hf
  obtain ⟨A, c, hv, hnc, _, _, _, hA⟩ := own_form hown
  obtain ⟨g, hg⟩ := own_some hown (by simp)
  obtain ⟨rfl, _, _, _, hcell⟩ := hA g hg
  subst hv
  exact ⟨g, c, he, hcell 0 _ rfl, hcell 1 _ rfl, hnc, hs⟩

def CollChainSt (w0 : World) (b : Nat) (lim : Int) (j : Nat) (e : Ending) (w' : World) : Prop :=
  ∃ g c v L', e = .returned (.tuple #[.slice (some ⟨g, 0, none⟩) 1 c, .int .i64 0]) ∧ w'.cell? ⟨g, 0, none⟩ = some (.int .i64 v) ∧ 1 ≤ c ∧ St w0 w' b lim L' ∧ Chain L' j v ∧ total L' = 3 * j

theorem collchain_call {w0 w : World} {b : Nat} {lim : Int} {L : List Ob} (h : St w0 w b lim L) {j : Nat} {last : Int} (hc : Chain L j last) {g : Nat} (hg : g = w.heap.size) :
    Calls Try.prog 13 #[.pointer (some ⟨b, 0, none⟩), .slice (some ⟨g, 0, none⟩) 1 1] (w.alloc (.cells #[.int .i64 last] 3)) (CollChainSt w0 b lim j) := by
  subst hg
  obtain ⟨hL, hl0, hl1, hl2⟩ := h.wf
  have hcc := (h.keep (Upd.alloc (fun _ => False) w (.cells #[.int .i64 last] 3))).collect (some ⟨w.heap.size, 0, none⟩) 1 1 [last] (Rd.lit w #[.int .i64 last] 3 rfl rfl 1) rfl (by decide) (by intro x hx; simp at hx; subst hx; exact hc.i64 (by omega))
  obtain ⟨L', v', hr, hch, ht⟩ := chain_collect hL hc
  rw [hr] at hcc
  refine hcc.mono ?_
  rintro e w' ⟨A, c, he, hs, hown⟩
  obtain ⟨A1, c1, hv, hnc, _, _, _, hA⟩ := own_form hown
  obtain ⟨g, hg⟩ := own_some hown (by simp)
  obtain ⟨hAg, _, _, _, hcell⟩ := hA g hg
  injection hv with hv1 hv2 hv3
  subst hv1 hv3 hAg
  exact ⟨g, c, v', L', he, hcell 0 _ rfl, hnc, hs, hch, ht⟩

set_option maxRecDepth 100000 in
set_option maxHeartbeats 2000000 in
theorem chain_walk (n every waste : Int) (w : World) : Calls Try.prog 4 #[.int .i64 n, .int .i64 every, .int .i64 waste] w fun e w' => e = .returned (.bool true) ∧ Below w.heap.size w w' := by
  have h63 := bits_and63 n
  have h7 := bits_and7 every
  have h3 := bits_and3 waste
  obtain ⟨k, hk⟩ : ∃ k : Nat, n % 64 = (k : Int) := ⟨(n % 64).toNat, by have := Int.emod_nonneg n (show (64 : Int) ≠ 0 by decide); omega⟩
  have hk1 : k ≤ 63 := by have := Int.emod_lt_of_pos n (show (0 : Int) < 64 by decide); omega
  obtain ⟨m, hm⟩ : ∃ m : Int, every % 8 = m := ⟨_, rfl⟩
  have hm0 : 0 ≤ m := by omega
  have hm1 : m ≤ 7 := by omega
  obtain ⟨q, hq⟩ : ∃ q : Nat, waste % 4 = (q : Int) := ⟨(waste % 4).toNat, by have := Int.emod_nonneg waste (show (4 : Int) ≠ 0 by decide); omega⟩
  have hq1 : q ≤ 3 := by have := Int.emod_lt_of_pos waste (show (0 : Int) < 4 by decide); omega
  rw [hk] at h63
  rw [hm] at h7
  rw [hq] at h3
  clear hk hm hq
  go_enter Try.func4, Try.ntmps4
  go_wp2_with (first | (go_at_call 9; refine (awake_any _).mono ?_; rintro e w1 ⟨rfl, hb1⟩; have HB1 := hide hb1; clear hb1) | (go_at_call 10; refine (new_yes _ (by omega) (by omega)).mono ?_; rintro e w2 ⟨rfl, hw2⟩; have HW2 := hide hw2; clear hw2))
  have HS : Hid (St w w2 w1.heap.size (3 * (k : Int) + 40) []) := by
    have := St.new HB1.out (show 0 ≤ 3 * (k : Int) + 40 by omega) (by omega)
    rw [HW2.out] at this
    exact this
  generalize w1.heap.size = b at HS ⊢
  clear HW2 HB1
  go_loopw [12, 13] (fun l i wr => ∃ (j : Nat) (last : Int) (L : List Ob), j ≤ k ∧ i = .int .i64 j ∧ l = .int .i64 last ∧ total L ≤ 3 * k + 23 ∧ Chain L j last ∧ St w wr b (3 * (k : Int) + 40) L) (fun _ i _ => k - (intOf i).toNat)
  case atStart => exact ⟨0, 0, [], Nat.zero_le _, rfl, rfl, by rw [total_nil]; omega, rfl, HS.out⟩
  case round =>
    obtain ⟨j, last, L, hj, rfl, rfl, htl, hch, hst⟩ := hrel
    have HST := hide hst
    have HCH := hide hch
    clear hst hch
    by_cases hlt : j < k
    · obtain ⟨wo, hwo⟩ : ∃ wo : World, wo = wr := ⟨_, rfl⟩
      rw [← hwo] at HST ⊢
      clear hwo
      go_wp2
      go_loopw [14] (fun jv wr => ∃ (t : Nat) (L : List Ob), t ≤ q ∧ jv = .int .i64 t ∧ total L ≤ 3 * k + 23 + 2 * t ∧ Chain L j last ∧ St w wr b (3 * (k : Int) + 40) L) (fun jv _ => q - (intOf jv).toNat)
      case atStart => exact ⟨0, L, Nat.zero_le _, rfl, by omega, HCH.out, HST.out⟩
      case round =>
        obtain ⟨t, L1, ht, rfl, htl1, hch1, hst1⟩ := hrel
        have HST1 := hide hst1
        have HCH1 := hide hch1
        clear hst1 hch1
        by_cases hlt1 : t < q
        · go_wp2_with (go_at_call 11; refine (waste_call HST1.out HCH1.out htl1 rfl).mono ?_; rintro e w3 ⟨r1, r2, L2, rfl, hs3, hc3, ht3⟩; have HS3 := hide hs3; have HC3 := hide hc3; clear hs3 hc3)
          go_roundw
          case rel => exact ⟨t + 1, _, by omega, by go_num, by omega, HC3.out, HS3.out⟩
          case measure => simp [intOf]; omega
        · cases hC : ((j : Int) % (1 + m) == 0)
          · have hus := hide HST1.out.used
            by_cases hU : 3 * (k : Int) + 20 < (total L1 : Int)
            · go_wp2_with (go_at_call 12; refine hus.out.mono ?_; rintro e w4 ⟨rfl, rfl⟩)
              refine (collchain_call HST1.out HCH1.out rfl).mono ?_
              rintro e w3 ⟨g, c, v, L', rfl, hcv, hc1, hs3, hch3, ht3⟩
              have HS3 := hide hs3
              have HC3 := hide hch3
              have HT3 := hide ht3
              have hu3 := hide hs3.used
              rw [ht3] at hu3
              clear hs3 hch3 ht3
              go_wp2_with fail
              refine hu3.out.mono ?_
              rintro e w4 ⟨rfl, rfl⟩
              go_wp2_with fail
              refine (chain_call HS3.out HC3.out (by rw [HT3.out]; omega) rfl).mono ?_
              rintro e w5 ⟨p, L5, rfl, hs5, hc5, ht5⟩
              have HS5 := hide hs5
              have HC5 := hide hc5
              clear hs5 hc5
              go_wp2_with fail
              go_roundw
              case rel => exact ⟨j + 1, p, L5, by omega, by go_num, rfl, by omega, HC5.out, HS5.out⟩
              case measure => simp [intOf]; omega
            · go_wp2_with (go_at_call 12; refine hus.out.mono ?_; rintro e w4 ⟨rfl, rfl⟩)
              refine (chain_call HST1.out HCH1.out (by omega) rfl).mono ?_
              rintro e w5 ⟨p, L5, rfl, hs5, hc5, ht5⟩
              have HS5 := hide hs5
              have HC5 := hide hc5
              clear hs5 hc5
              go_wp2_with fail
              go_roundw
              case rel => exact ⟨j + 1, p, L5, by omega, by go_num, rfl, by omega, HC5.out, HS5.out⟩
              case measure => simp [intOf]; omega
          · go_wp2_with fail
            refine (collchain_call HST1.out HCH1.out rfl).mono ?_
            rintro e w3 ⟨g, c, v, L', rfl, hcv, hc1, hs3, hch3, ht3⟩
            have HS3 := hide hs3
            have HC3 := hide hch3
            have HT3 := hide ht3
            have hu3 := hide hs3.used
            rw [ht3] at hu3
            clear hs3 hch3 ht3
            go_wp2_with fail
            refine hu3.out.mono ?_
            rintro e w4 ⟨rfl, rfl⟩
            go_wp2_with fail
            refine (chain_call HS3.out HC3.out (by rw [HT3.out]; omega) rfl).mono ?_
            rintro e w5 ⟨p, L5, rfl, hs5, hc5, ht5⟩
            have HS5 := hide hs5
            have HC5 := hide hc5
            clear hs5 hc5
            go_wp2_with fail
            go_roundw
            case rel => exact ⟨j + 1, p, L5, by omega, by go_num, rfl, by omega, HC5.out, HS5.out⟩
            case measure => simp [intOf]; omega
    · obtain rfl : j = k := by omega
      have hl : Hid (total L ≤ 4194304) := by show _ ≤ _; omega
      go_wp2
      obtain ⟨wo, hwo⟩ : ∃ wo : World, wo = wr := ⟨_, rfl⟩
      rw [← hwo] at HST ⊢
      clear hwo
      go_loopw [12, 19] (fun l i wr => ∃ (t : Nat) (last : Int), t ≤ j ∧ i = .int .i64 ((t : Int) - 1) ∧ l = .int .i64 last ∧ Chain L t last ∧ St w wr b (3 * (j : Int) + 40) L) (fun _ i _ => (intOf i + 1).toNat)
      case atStart => exact ⟨j, last, by omega, rfl, rfl, HCH.out, HST.out⟩
      case round =>
        obtain ⟨t, last, ht, rfl, rfl, hch, hst⟩ := hrel
        have HST1 := hide hst
        cases t with
        | zero =>
          obtain rfl : last = 0 := hch
          clear hst
          go_wp2
          go_ret
          obtain ⟨_, _, _, hb⟩ := HST1.out
          exact ⟨rb rfl, hb⟩
        | succ t =>
          obtain ⟨p, ho, hch'⟩ := hch
          have HC1 := hide hch'
          have hpc := hide (pair_call hst ho)
          have e1 : ((t + 1 : Nat) : Int) - 1 = (t : Int) := by omega
          rw [e1]
          clear hst ho hch' e1
          go_wp2_with (go_at_call 14; refine hpc.out.mono ?_; rintro e w3 ⟨g, c, rfl, hx0, hx1, h2c, hs3⟩; have HS3 := hide hs3; clear hs3)
          go_roundw
          case rel => exact ⟨t, p, by omega, rfl, rfl, HC1.out, HS3.out⟩
          case measure => simp [intOf]
end Go.Proofs.Ytkmfohocicngaaa
