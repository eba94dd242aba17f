/- A graph that came in; 'wrong', walked. -/
import Derived.Test.YtlfjmppmclgjnaaMaps
import Derived.Laws.EntriesVeiled
namespace Go.Proofs.Ytlfjmppmclgjnaa
open Go.RowKit

theorem Try.ints : ElemOk Try.prog 23 3 (.int .i64 0) 1 8 := ⟨Try.underlying23, by kernel_rfl, rfl, by decide⟩

theorem own_lt {w : World} {B e n size : Nat} {v : Value} {xs : List Value} (h : w.ownsRow B e size v n xs) {k : Nat} (hk : v.ownBlock = some k) : k < w.heap.size := (h.lt k hk).2
theorem own_lo {w : World} {B e n size : Nat} {v : Value} {xs : List Value} (h : w.ownsRow B e size v n xs) {k : Nat} (hk : v.ownBlock = some k) : B ≤ k := (h.lt k hk).1

theorem own_base {w : World} {B B' : Nat} {e size n : Nat} {v : Value} {xs : List Value} (h : w.ownsRow B e size v n xs) (hB : B' ≤ B) : w.ownsRow B' e size v n xs := by
  obtain ⟨h1, h2⟩ := h
  refine ⟨h1, ?_⟩
  rcases h2 with h2 | ⟨g, cap, cur, hv, hb, r⟩
  · exact .inl h2
  · exact .inr ⟨g, cap, cur, hv, Nat.le_trans hB hb, r⟩

theorem Rd.nil (w : World) : Rd w (.slice none 0 0) 1 0 [] := ⟨none, 0, rfl, rfl, fun _ => ⟨rfl, rfl⟩, fun ad h => by simp at h⟩

theorem ints_oneC (xs : List Int) : ∀ y ∈ xs.map (Value.int .i64), y.oneCell' = true := by
  intro y hy
  obtain ⟨x, _, rfl⟩ := List.mem_map.1 hy
  rfl

theorem Rd.below {w w1 : World} {v : Value} {size n : Nat} {xs : List Value} (h : Rd w v size n xs) (hb : Below w.heap.size w w1) : Rd w1 v size n xs :=
  h.keep (S := fun _ => False) (Upd.of_below hb) fun _ _ h => h

theorem cell_upd {w w2 : World} (hu : Upd (fun _ => False) w w2) {a : Addr} {v : Value} (hc : w.cell? a = some v) : w2.cell? a = some v := by
  rw [World.cell?_of_block (hu.block a.block (World.block_lt_of_cell? w _ hc) (fun h => h)), hc]

/-- The cell of a list's element. -/
theorem Rd.get {w : World} {A : Option Addr} {n c : Nat} {xs : List Int} (h : Rd w (.slice A n c) 1 n (xs.map (.int .i64))) (hn : n = xs.length) {k : Nat} (hk : k < n) :
    ∃ gb go gs x, A = some ⟨gb, go, gs⟩ ∧ x = xs[k]'(by omega) ∧ w.cell? ((⟨gb, go, gs⟩ : Addr).add k) = some (.int .i64 x) := by
  obtain ⟨A1, c1, hv, _, hA0, hA⟩ := h
  injection hv with hv1 hv2 hv3
  subst hv1
  cases A with
  | none => have := hA0 rfl; omega
  | some ad => exact ⟨ad.block, ad.off, ad.spot, _, rfl, rfl, hA ad rfl k _ (by rw [List.getElem?_map, List.getElem?_eq_getElem (by omega)]; rfl)⟩

/-- What a graph that came in reads as. -/
def GRd (w : World) (A : Option Addr) (n : Nat) (g : List (List Int)) : Prop :=
  n = g.length ∧ ∀ (i : Nat) (xs : List Int), g[i]? = some xs → ∃ gb go gs a m k, A = some ⟨gb, go, gs⟩ ∧ w.cell? ((⟨gb, go, gs⟩ : Addr).add i) = some (.slice a m k) ∧ Rd w (.slice a m k) 1 m (xs.map (.int .i64)) ∧ m = xs.length ∧ m ≤ 9223372036854775807 ∧ ∀ x ∈ xs, I64 x

theorem GRd.keep {w w' : World} {A : Option Addr} {n : Nat} {g : List (List Int)} (h : GRd w A n g) (hu : Upd (fun _ => False) w w') : GRd w' A n g :=
  ⟨h.1, fun i xs hi => by
    obtain ⟨gb, go, gs, a, m, k, h1, h2, h3, h4⟩ := h.2 i xs hi
    exact ⟨gb, go, gs, a, m, k, h1, cell_upd hu h2, h3.keep hu (fun _ _ h => h), h4⟩⟩

def badB (n : Nat) (x : Int) : Bool := decide (x < 0) || decide ((n : Int) ≤ x)
def wrongB (g : List (List Int)) (from_ : List Int) : Bool := decide (1000 < g.length) || from_.any (badB g.length) || g.any (fun l => l.any (badB g.length))

set_option maxHeartbeats 400000 in
theorem clos24 {w : World} {bh n c : Nat} {A : Option Addr} (hb : w.cell? ⟨bh, 0, none⟩ = some (.slice A n c)) (hn : n ≤ 9223372036854775807) (v : Int) :
    Calls Try.prog 24 #[.int .i64 v, .pointer (some ⟨bh, 0, none⟩)] w fun e w' => e = .returned (.bool (badB n v)) ∧ w = w' := by
  by_cases h0 : v < 0
  · have h0' : decide (v < 0) = true := by simpa using h0
    have hb2 : Hid (badB n v = true) := by show badB n v = true; simp [badB, h0]
    clear h0
    go_enter Try.func24, Try.ntmps24
    go_wp2
    go_ret
    exact ⟨rb hb2.out.symm, rfl⟩
  · have h0' : decide (v < 0) = false := by simpa using h0
    have hb2 : Hid (badB n v = decide ((n : Int) ≤ v)) := by show badB n v = _; simp [badB, h0]
    clear h0
    go_enter Try.func24, Try.ntmps24
    go_wp2
    go_ret
    exact ⟨rb hb2.out.symm, rfl⟩

/-- What IndexFunc answers: below 0 just if none of the values meets p. -/
def IdxPost {α : Type} (w : World) (p : α → Bool) (xs : List α) (e : Ending) (w' : World) : Prop :=
  ∃ r : Int, e = .returned (.int .i64 r) ∧ decide (0 ≤ r) = xs.any p ∧ w = w'

theorem any_take {α : Type} {p : α → Bool} {xs : List α} {k : Nat} (hk : k < xs.length) (h : p xs[k] = true) : xs.any p = true :=
  List.any_eq_true.2 ⟨xs[k], List.getElem_mem hk, h⟩

set_option maxHeartbeats 400000 in
theorem index24 {w : World} {A : Option Addr} {n c bh : Nat} {xs : List Int} (hx : Rd w (.slice A n c) 1 n (xs.map (.int .i64))) (hn : n = xs.length) (hl : n ≤ 9223372036854775807) (p : Int → Bool)
    (hc : ∀ x, Calls Try.prog 24 #[.int .i64 x, .pointer (some ⟨bh, 0, none⟩)] w fun e w' => e = .returned (.bool (p x)) ∧ w = w') :
    Calls Try.prog 31 #[.slice A n c, .func (.func 24) #[] #[.pointer (some ⟨bh, 0, none⟩)]] w (IdxPost w p xs) := by
  have HC := hide hc
  have HX := hide hx
  have HN := hide hn
  clear hc hx hn
  go_enter Try.func31, Try.ntmps31
  go_wp2
  go_loop [8] (fun i => ∃ k : Nat, k ≤ n ∧ i = .int .i64 k ∧ Hid (∀ j, (h : j < xs.length) → j < k → p xs[j] = false)) (fun i => n - (intOf i).toNat)
  case atStart => exact ⟨0, Nat.zero_le _, rfl, fun j _ h => absurd h (by omega)⟩
  case round =>
    obtain ⟨k, hk, rfl, HP⟩ := hrel
    by_cases hlt : k < n
    · obtain ⟨gb, go, gs, x, rfl, hx, hcell⟩ := HX.out.get HN.out hlt
      have hcx := HC.out x
      have HXX := hide hx
      clear hx
      cases hpx : p x
      · rw [hpx] at hcx
        have HPX := hide hpx
        have HCX := hide hcx
        clear hpx hcx
        go_wp2_with (go_at_call 24; refine HCX.out.mono ?_; rintro e w' ⟨rfl, rfl⟩)
        go_round
        case rel =>
          refine ⟨k + 1, by omega, by go_num, fun j hj hjk => ?_⟩
          by_cases hjk' : j < k
          · exact HP.out j hj hjk'
          · obtain rfl : j = k := by omega
            rw [← HXX.out]; exact HPX.out
        case measure => simp [intOf]; omega
      · rw [hpx] at hcx
        have HPX := hide hpx
        have HCX := hide hcx
        clear hpx hcx
        go_wp2_with (go_at_call 24; refine HCX.out.mono ?_; rintro e w' ⟨rfl, rfl⟩)
        go_ret
        exact ⟨k, rfl, by rw [any_take (by rw [← HN.out]; exact hlt) (by rw [← HXX.out]; exact HPX.out)]; simp, rfl⟩
    · go_wp2
      go_ret
      refine ⟨-1, rfl, ?_, rfl⟩
      have : xs.any p = false := by
        rw [List.any_eq_false]
        intro x hx
        obtain ⟨j, hj, rfl⟩ := List.getElem_of_mem hx
        rw [HP.out j hj (by have := HN.out; omega)]; simp
      rw [this]; simp

set_option maxHeartbeats 400000 in
theorem contains24 {w : World} {A : Option Addr} {n c bh : Nat} {xs : List Int} (hx : Rd w (.slice A n c) 1 n (xs.map (.int .i64))) (hn : n = xs.length) (hl : n ≤ 9223372036854775807) (p : Int → Bool)
    (hc : ∀ x, Calls Try.prog 24 #[.int .i64 x, .pointer (some ⟨bh, 0, none⟩)] w fun e w' => e = .returned (.bool (p x)) ∧ w = w') :
    Calls Try.prog 25 #[.slice A n c, .func (.func 24) #[] #[.pointer (some ⟨bh, 0, none⟩)]] w fun e w' => e = .returned (.bool (xs.any p)) ∧ w = w' := by
  have hi := index24 hx hn hl p hc
  clear hx hn hl hc
  go_enter Try.func25, Try.ntmps25
  go_wp2_with (go_at_call 31; refine hi.mono ?_; rintro e w' ⟨r, rfl, hr, rfl⟩; have HR := hide hr; clear hr)
  go_ret
  exact ⟨rb HR.out, rfl⟩

set_option maxHeartbeats 400000 in
theorem clos27 {w : World} {b2 bh : Nat} {A : Option Addr} {n c : Nat} {xs : List Int} (hb : w.cell? ⟨b2, 0, none⟩ = some (.func (.func 24) #[] #[.pointer (some ⟨bh, 0, none⟩)])) (hx : Rd w (.slice A n c) 1 n (xs.map (.int .i64))) (hn : n = xs.length) (hl : n ≤ 9223372036854775807) (p : Int → Bool)
    (hc : ∀ x, Calls Try.prog 24 #[.int .i64 x, .pointer (some ⟨bh, 0, none⟩)] w fun e w' => e = .returned (.bool (p x)) ∧ w = w') :
    Calls Try.prog 27 #[.slice A n c, .pointer (some ⟨b2, 0, none⟩)] w fun e w' => e = .returned (.bool (xs.any p)) ∧ w = w' := by
  have hi := hide (contains24 hx hn hl p hc)
  clear hx hn hl hc
  go_enter Try.func27, Try.ntmps27
  go_wp2_with (go_at_call 25; refine hi.out.mono ?_; rintro e w' ⟨rfl, rfl⟩)
  go_ret
  exact ⟨rfl, rfl⟩

set_option maxHeartbeats 400000 in
theorem index27 {w : World} {A : Option Addr} {n c b2 : Nat} {g : List (List Int)} (hx : GRd w A n g) (hl : n ≤ 9223372036854775807) (p : List Int → Bool)
    (hc : ∀ (xs : List Int) (a : Option Addr) (m k : Nat), Rd w (.slice a m k) 1 m (xs.map (.int .i64)) → m = xs.length → m ≤ 9223372036854775807 → Calls Try.prog 27 #[.slice a m k, .pointer (some ⟨b2, 0, none⟩)] w fun e w' => e = .returned (.bool (p xs)) ∧ w = w') :
    Calls Try.prog 32 #[.slice A n c, .func (.func 27) #[] #[.pointer (some ⟨b2, 0, none⟩)]] w (IdxPost w p g) := by
  have HC := hide hc
  have HX := hide hx
  clear hc hx
  go_enter Try.func32, Try.ntmps32
  go_wp2
  go_loop [8] (fun i => ∃ k : Nat, k ≤ n ∧ i = .int .i64 k ∧ Hid (∀ j, (h : j < g.length) → j < k → p g[j] = false)) (fun i => n - (intOf i).toNat)
  case atStart => exact ⟨0, Nat.zero_le _, rfl, fun j _ h => absurd h (by omega)⟩
  case round =>
    obtain ⟨k, hk, rfl, HP⟩ := hrel
    by_cases hlt : k < n
    · have hkg : k < g.length := by have := HX.out.1; omega
      obtain ⟨ys, hys⟩ : ∃ ys, g[k]? = some ys := ⟨_, List.getElem?_eq_getElem hkg⟩
      obtain ⟨gb, go, gs, a, m, k', rfl, hcell, hrd, hm, hml, hxi⟩ := HX.out.2 k ys hys
      have hcx := HC.out _ a m k' hrd hm hml
      have HKG := hide hkg
      clear hxi
      obtain ⟨px, hpx0⟩ : ∃ px, p ys = px := ⟨_, rfl⟩
      rw [hpx0] at hcx
      have HPP : Hid (p (g[k]'HKG.out) = px) := by show p (g[k]'hkg) = px; rw [← hpx0, (List.getElem?_eq_some_iff.1 hys).2]
      clear hpx0 hrd hm hml hkg hys
      have HCX := hide hcx
      clear hcx
      cases px
      · go_wp2_with (go_at_call 27; refine HCX.out.mono ?_; rintro e w' ⟨rfl, rfl⟩)
        go_round
        case rel =>
          refine ⟨k + 1, by omega, by go_num, fun j hj hjk => ?_⟩
          by_cases hjk' : j < k
          · exact HP.out j hj hjk'
          · obtain rfl : j = k := by omega
            exact HPP.out
        case measure => simp [intOf]; omega
      · go_wp2_with (go_at_call 27; refine HCX.out.mono ?_; rintro e w' ⟨rfl, rfl⟩)
        go_ret
        exact ⟨k, rfl, by rw [any_take HKG.out HPP.out]; simp, rfl⟩
    · go_wp2
      go_ret
      refine ⟨-1, rfl, ?_, rfl⟩
      have : g.any p = false := by
        rw [List.any_eq_false]
        intro x hx
        obtain ⟨j, hj, rfl⟩ := List.getElem_of_mem hx
        rw [HP.out j hj (by have := HX.out.1; omega)]; simp
      rw [this]; simp

set_option maxHeartbeats 400000 in
theorem contains27 {w : World} {A : Option Addr} {n c b2 : Nat} {g : List (List Int)} (hx : GRd w A n g) (hl : n ≤ 9223372036854775807) (p : List Int → Bool)
    (hc : ∀ (xs : List Int) (a : Option Addr) (m k : Nat), Rd w (.slice a m k) 1 m (xs.map (.int .i64)) → m = xs.length → m ≤ 9223372036854775807 → Calls Try.prog 27 #[.slice a m k, .pointer (some ⟨b2, 0, none⟩)] w fun e w' => e = .returned (.bool (p xs)) ∧ w = w') :
    Calls Try.prog 26 #[.slice A n c, .func (.func 27) #[] #[.pointer (some ⟨b2, 0, none⟩)]] w fun e w' => e = .returned (.bool (g.any p)) ∧ w = w' := by
  have hi := hide (index27 (c := c) hx hl p hc)
  clear hx hl hc
  go_enter Try.func26, Try.ntmps26
  go_wp2_with (go_at_call 32; refine hi.out.mono ?_; rintro e w' ⟨r, rfl, hr, rfl⟩; have HR := hide hr; clear hr)
  go_ret
  exact ⟨rb HR.out, rfl⟩

def BoolN (w : World) (r : Bool) (e : Ending) (w' : World) : Prop := e = .returned (.bool r) ∧ Upd (fun _ => False) w w'

set_option maxHeartbeats 1000000 in
theorem wrong_any {w : World} {A : Option Addr} {n c : Nat} {g : List (List Int)} (hg : GRd w A n g) (hl : n ≤ 9223372036854775807) {A' : Option Addr} {n' c' : Nat} {xs : List Int} (hx : Rd w (.slice A' n' c') 1 n' (xs.map (.int .i64))) (hn' : n' = xs.length) (hl' : n' ≤ 9223372036854775807) :
    Calls Try.prog 18 #[.slice A n c, .slice A' n' c'] w (BoolN w (wrongB g xs)) := by
  have hgl := hg.1
  obtain ⟨w1, hw1⟩ : ∃ w1, w1 = (w.alloc (.cells #[.slice A n c] 22)).alloc (.cells #[.func (.func 24) #[] #[.pointer (some ⟨w.heap.size, 0, none⟩)]] 36) := ⟨_, rfl⟩
  have hu1 := (Upd.alloc (fun _ => False) w (.cells #[.slice A n c] 22)).trans (Upd.alloc (fun _ => False) _ (.cells #[.func (.func 24) #[] #[.pointer (some ⟨w.heap.size, 0, none⟩)]] 36))
  have hb1 : Blk (w.alloc (.cells #[.slice A n c] 22)) w.heap.size 22 #[.slice A n c] := Blk.new _ _ _
  have hb2 := (Upd.alloc (fun _ => False) (w.alloc (.cells #[.slice A n c] 22)) (.cells #[.func (.func 24) #[] #[.pointer (some ⟨w.heap.size, 0, none⟩)]] 36)).blk hb1 (fun h => h)
  have hb3 := Blk.new (w.alloc (.cells #[.slice A n c] 22)) 36 #[.func (.func 24) #[] #[.pointer (some ⟨w.heap.size, 0, none⟩)]]
  rw [show (w.alloc (.cells #[.slice A n c] 22)).heap.size = w.heap.size + 1 by simp] at hb3
  rw [← hw1] at hu1 hb2 hb3
  have hcl := fun x => clos24 (w := w1) (by rw [hb2.cell]; rfl) hl x
  have HW : Hid ((w.alloc (.cells #[.slice A n c] 22)).alloc (.cells #[.func (.func 24) #[] #[.pointer (some ⟨w.heap.size, 0, none⟩)]] 36) = w1) := hw1.symm
  have HU1 := hide hu1
  have HC1 := hide (contains24 (hx.keep hu1 (fun _ _ h => h)) hn' hl' (badB n) hcl)
  have HC2 := hide (contains27 (c := c) (b2 := w.heap.size + 1) (hg.keep hu1) hl (fun l => l.any (badB n)) (fun ys a m k h1 h2 h3 => clos27 (by rw [hb3.cell]; rfl) h1 h2 h3 (badB n) hcl))
  have HWR : Hid (wrongB g xs = (decide (1000 < n) || xs.any (badB n) || g.any (fun l => l.any (badB n)))) := by show wrongB g xs = _; unfold wrongB; rw [hgl]
  have hcA : w1.cell? ⟨w.heap.size, 0, none⟩ = some (.slice A n c) := by rw [hb2.cell]; rfl
  clear hw1 hu1 hb1 hb2 hb3 hcl hg hx hn' hgl
  by_cases h0 : 1000 < n
  · go_enter Try.func18, Try.ntmps18
    go_wp2_with fail
    go_ret
    rw [HWR.out, HW.out]
    exact ⟨rb (by simp [h0]), HU1.out⟩
  · cases h1 : xs.any (badB n) with
    | true =>
      rw [h1] at HC1 HWR
      clear h1
      go_enter Try.func18, Try.ntmps18
      go_wp2_with fail
      rw [HW.out]
      refine HC1.out.mono ?_
      rintro e w2 ⟨rfl, rfl⟩
      go_wp2_with fail
      go_ret
      rw [HWR.out]
      exact ⟨rb (by simp), HU1.out⟩
    | false =>
      rw [h1] at HC1 HWR
      clear h1
      generalize g.any (fun l => l.any (badB n)) = r at HC2 HWR
      go_enter Try.func18, Try.ntmps18
      go_wp2_with fail
      rw [HW.out]
      refine HC1.out.mono ?_
      rintro e w2 ⟨rfl, rfl⟩
      go_wp2_with fail
      refine HC2.out.mono ?_
      rintro e w2 ⟨rfl, rfl⟩
      go_wp2_with fail
      go_ret
      rw [HWR.out]
      exact ⟨rb (by simp [h0]; intro h; exact absurd h (by omega)), HU1.out⟩

end Go.Proofs.Ytlfjmppmclgjnaa
