/- The reference's heap: Alloc. -/
import Derived.Test.YtkmfohocicngaaaRef2
import Derived.Deep.RegionHeld3
import Derived.Deep.DrawnRows
import Derived.Deep.RegionLaw
namespace Go.Proofs.Ytkmfohocicngaaa
open Go.RowKit
attribute [local go_sem ↓] Go.wp_at_zero Go.wp_at_succ

theorem Try.objs : ElemOk Try.prog 69 73 (.agg #[.int .i64 0, .int .i64 0, .slice none 0 0]) 3 40 := ⟨Try.underlying69, by kernel_rfl, rfl, by decide⟩

section
variable {w : World} {B b : Nat} {lim : Int} {L : List Ob} {F : Nat → Prop} {v : Value} {G : List (Nat × Nat)}

theorem Ro.push (h : Ro w B v L G) {w2 : World} {v' : Value} {o : Ob} {g c : Nat} {S : Nat → Prop} (hu : Upd S w w2) (hS : ∀ k, S k → v.ownBlock = some k) (hB : B ≤ w.heap.size)
    (ho : w2.ownsRow w.heap.size 3 1 (.slice (some ⟨g, 0, none⟩) o.2.length c) o.2.length (o.2.map (.int .i64)))
    (hr : w2.ownsRow B 73 3 v' (L.length + 1) (ocells 0 L G ++ [.int .i64 (total L), .int .i64 o.1, .slice (some ⟨g, 0, none⟩) o.2.length c])) : Ro w2 B v' (L ++ [o]) (G ++ [(g, c)]) := by
  have hlo := (ho.lt g rfl).1
  refine ⟨?_, by simp [h.len], fun i o' g' ho' hg' => ?_, ?_⟩
  · rw [List.length_append, List.length_singleton, ocells_append 0 L G o (g, c) h.len, Nat.zero_add]
    exact hr
  · have hl := h.len
    rcases Nat.lt_trichotomy i L.length with hi | hi | hi
    · rw [List.getElem?_append_left hi] at ho'
      rw [List.getElem?_append_left (by omega)] at hg'
      have he := h.each i o' g' ho' hg'
      exact hu.own he fun k hk hSk => own_ne_own h.row he (by decide) k (hS k hSk) hk
    · subst hi
      rw [List.getElem?_append_right (Nat.le_refl _), Nat.sub_self] at ho'
      rw [List.getElem?_append_right (by omega), hl, Nat.sub_self] at hg'
      simp at ho' hg'
      subst ho' hg'
      exact own_base ho hB
    · rw [List.getElem?_eq_none (by simp; omega)] at ho'
      cases ho'
  · rw [List.map_append, List.nodup_append]
    refine ⟨h.nodup, by simp, fun x hx y hy => ?_⟩
    simp at hy
    subst hy
    have := (h.lt (.inr hx)).2
    omega

def RAllocPost (w : World) (B b : Nat) (lim : Int) (F : Nat → Prop) (r : Int × Int × List Ob) (e : Ending) (w' : World) : Prop :=
  e = .returned (.tuple #[.int .i64 r.1, .int .i64 r.2.1]) ∧ RH w' B b lim r.2.2 (grow F w) ∧ Upd F w w'

set_option maxHeartbeats 400000 in
theorem ralloc_no {kind : Int} (A : Option Addr) (n c : Nat) (p : Option Addr) (w : World) (hk : kind < 0 ∨ 15 < kind ∨ 65535 < n) :
    Calls Try.prog 20 #[.pointer p, .int .i64 kind, .slice A n c] w fun e w' => e = .returned (.tuple #[.int .i64 0, .int .i64 1]) ∧ w = w' := by
  by_cases h0 : kind < 0
  · have h0' : decide (kind < 0) = true := by simpa using h0
    clear hk h0
    go_enter Try.func20, Try.ntmps20
    go_wp2_with fail
    go_ret2
    exact ⟨rfl, rfl⟩
  · by_cases h1 : 15 < kind
    · clear hk
      go_enter Try.func20, Try.ntmps20
      go_wp2_with fail
      go_ret2
      exact ⟨rfl, rfl⟩
    · have h2 : 65535 < n := by omega
      clear hk
      go_enter Try.func20, Try.ntmps20
      go_wp2_with fail
      go_ret2
      exact ⟨rfl, rfl⟩

/-- What the region of Alloc leaves. -/
theorem ralloc_end (h : RHv w B b lim L v G) {kind : Int} {xs : List Int} {n : Nat} (hn : n = xs.length) (hw : WfO (kind, xs)) (hr : ∀ x ∈ xs, rightL L x = true) (ht : (total L : Int) + n + 1 ≤ lim) (hFb : F b) (hF : ∀ k, RoF v G k → F k)
    {w1 w2 w3 w4 : World} {A' A2 : Option Addr} {c1 c2 N : Nat} (hN : N = L.length + 1)
    (h1 : Upd (fun _ => False) w w1) (u1 : Upd (fun k => (Value.slice (some ⟨w.heap.size, 0, none⟩) 0 0).ownBlock = some k) w1 w2)
    (o1 : w2.ownsRow w.heap.size 3 1 (.slice A' n c1) n ([] ++ xs.map (.int .i64))) (n1 : (Value.slice (some ⟨w.heap.size, 0, none⟩) 0 0).ownBlock ≠ none → (Value.slice A' n c1).ownBlock ≠ none)
    (h2 : Upd (fun _ => False) w2 w3) (u2 : Upd (fun k => v.ownBlock = some k) w3 w4) (o2 : w4.ownsRow B 73 3 (.slice A2 N c2) N (ocells 0 L G ++ [.int .i64 (total L), .int .i64 kind, .slice A' n c1]))
    (at2 : (Value.slice A2 N c2).ownBlock = v.ownBlock ∨ (Value.slice A2 N c2).ownBlock = some w3.heap.size) :
    RH (w4.setCell ⟨b, 1, none⟩ (.slice A2 N c2)) B b lim (L ++ [(kind, xs)]) (grow F w) ∧ Upd F w (w4.setCell ⟨b, 1, none⟩ (.slice A2 N c2)) := by
  subst hn hN
  rw [List.nil_append] at o1
  obtain ⟨g, rfl, hgc, hglo, hglt⟩ := own_slice o1 (n1 (by simp [Value.ownBlock]))
  have hB := Nat.le_of_lt (Nat.lt_of_le_of_lt h.le h.blk.lt)
  have e12 : Upd (fun k => v.ownBlock = some k) w w2 := ((h1.extend (T := fun k => (Value.slice (some ⟨w.heap.size, 0, none⟩) 0 0).ownBlock = some k) u1 fun q hq => .inr (by simp [Value.ownBlock] at hq; omega)).mono fun _ _ h => h.elim)
  have e4 : Upd (fun k => v.ownBlock = some k) w w4 := (e12.trans (h2.mono fun _ _ h => h.elim)).trans u2
  have s2 := h2.size; have s3 := u2.size; have s1 := e12.size
  have o1' : w4.ownsRow w.heap.size 3 1 (.slice (some ⟨g, 0, none⟩) xs.length c1) xs.length (xs.map (.int .i64)) :=
    u2.own (h2.own o1 fun _ _ h => h) fun k hk hv => by
      have := (h.ro.lt (.inl hv)).2
      simp [Value.ownBlock] at hk; omega
  have ro4 : Ro w4 B (.slice A2 (L.length + 1) c2) (L ++ [(kind, xs)]) (G ++ [(g, c1)]) := h.ro.push e4 (fun _ h => h) hB o1' o2
  have hb4 : Blk w4 b 71 #[.int .i64 lim, v] := e4.blk h.blk fun hv => h.ro.blk_ne h.blk (by decide) (by decide) (.inl hv) rfl
  have hu5 : Upd (fun q => q = b) w4 (w4.setCell ⟨b, 1, none⟩ (.slice A2 (L.length + 1) c2)) := Upd.set _ _ _ rfl
  refine ⟨⟨.slice A2 (L.length + 1) c2, G ++ [(g, c1)], ⟨by simpa using hb4.set 1 (.slice A2 (L.length + 1) c2), h.le, ?_, ?_, h.l0, h.l1, ?_⟩, .inl hFb, ?_⟩, ?_⟩
  · exact ro4.keep hu5 fun k hk e => ro4.blk_ne hb4 (by decide) (by decide) hk e
  · exact h.wf.push hw hr
  · rw [total_append, total_cons, total_nil]; show ((total L + (xs.length + 1 + 0) : Nat) : Int) ≤ lim; omega
  · intro k hk
    rcases hk with hk | hk
    · rcases at2 with e | e
      · rw [e] at hk; exact .inl (hF k (.inl hk))
      · rw [e] at hk; injection hk with hk; right; omega
    · rw [List.map_append, List.mem_append] at hk
      rcases hk with hk | hk
      · exact .inl (hF k (.inr hk))
      · simp at hk; subst hk; exact .inr hglo
  · exact (e4.mono fun k _ hk => hF k (.inl hk)).trans (Upd.set _ _ _ hFb)

theorem oneO (k1 k2 : Int) (a : Option Addr) (n c : Nat) : ∀ y ∈ [Value.int .i64 k1, .int .i64 k2, .slice a n c], y.oneCell' = true := by
  intro y hy; simp at hy; rcases hy with rfl | rfl | rfl <;> rfl

theorem Rd.new3 (w : World) (x y z : Value) (t : TypeId) {g : Nat} (hg : g = w.heap.size) : Rd (w.alloc (.cells #[x, y, z] t)) (.slice (some ⟨g, 0, none⟩) 1 1) 3 1 [x, y, z] := by
  subst hg
  refine ⟨_, 1, rfl, rfl, fun h => by simp at h, fun ad had j u hu => ?_⟩
  obtain rfl := Option.some.inj had
  rw [Addr.add_lit, Nat.zero_add, (Blk.new w t #[x, y, z]).cell]
  simpa using hu

def AS (b : Nat) (v : Value) (w' : World) : Prop := w'.cell? ⟨b, 1, none⟩ = some v ∧ w'.frozen? ⟨b, 1, none⟩ = false

theorem AS.of {w' : World} (h : Blk w' b 71 #[.int .i64 lim, v]) : AS b v w' := ⟨by rw [h.cell]; rfl, h.free 1⟩

theorem made0 (w : World) : (w.alloc (.cells #[] 3)).drew.ownsRow w.heap.size 3 1 (.slice (some ⟨w.heap.size, 0, none⟩) 0 0) 0 [] :=
  (Upd.drew (fun _ => False) _).own (World.ownsRow_made w #[] 0 (Nat.le_refl _) (by decide) rfl) fun _ _ h => h

theorem rd0 {A : Option Addr} {n c : Nat} {xs : List Value} (h : Rd w (.slice A n c) 1 n xs) : Rd (w.alloc (.cells #[] 3)).drew (.slice A n c) 1 n xs :=
  h.keep ((Upd.alloc (fun _ => False) w (.cells #[] 3)).trans (Upd.drew _ _)) fun _ _ h => h

theorem le1 (h : RHv w B b lim L v G) {w1 wx : World} (hu : Upd (fun k => (Value.slice (some ⟨w.heap.size, 0, none⟩) 0 0).ownBlock = some k) (w.alloc (.cells #[] 3)).drew w1) (hx : Upd (fun _ => False) w1 wx) : B ≤ wx.heap.size := by
  have := h.le; have := h.blk.lt; have := hu.size; have := hx.size
  simp at *; omega

theorem le0 (w : World) : w.heap.size ≤ (w.alloc (.cells #[] 3)).drew.heap.size := by simp

theorem alloc_k0 (h : RHv w B b lim L v G) : Blk (w.alloc (.cells #[] 3)).drew b 71 #[.int .i64 lim, v] :=
  ((Upd.alloc (fun _ => False) w (.cells #[] 3)).trans (Upd.drew _ _)).blk h.blk fun h => h

theorem alloc_k1 (h : RHv w B b lim L v G) {w1 : World} (hu : Upd (fun k => (Value.slice (some ⟨w.heap.size, 0, none⟩) 0 0).ownBlock = some k) (w.alloc (.cells #[] 3)).drew w1) : Blk w1 b 71 #[.int .i64 lim, v] := by
  refine hu.blk (alloc_k0 h) fun e => ?_
  have := h.blk.lt
  simp [Value.ownBlock] at e
  omega

theorem alloc_k2 (h : RHv w B b lim L v G) {w1 wx w2 : World} (hu : Upd (fun k => (Value.slice (some ⟨w.heap.size, 0, none⟩) 0 0).ownBlock = some k) (w.alloc (.cells #[] 3)).drew w1) (hx : Upd (fun _ => False) w1 wx)
    (hu2 : Upd (fun k => v.ownBlock = some k) wx w2) : Blk w2 b 71 #[.int .i64 lim, v] :=
  hu2.blk (hx.blk (alloc_k1 h hu) fun h => h) fun e => h.ro.blk_ne h.blk (by decide) (by decide) (.inl e) rfl

theorem alloc_own (h : RHv w B b lim L v G) {w1 wx : World} (hu : Upd (fun k => (Value.slice (some ⟨w.heap.size, 0, none⟩) 0 0).ownBlock = some k) (w.alloc (.cells #[] 3)).drew w1) (hx : Upd (fun _ => False) w1 wx) : wx.ownsRow B 73 3 v L.length (ocells 0 L G) :=
  hx.own (hu.own (((Upd.alloc (fun _ => False) w (.cells #[] 3)).trans (Upd.drew _ _)).own h.ro.row fun _ _ h => h) fun k hk e => by
    have := (h.ro.row.lt k hk).2
    simp [Value.ownBlock] at e; omega) fun _ _ h => h

set_option maxHeartbeats 4000000 in
theorem ralloc_yes (h : RHv w B b lim L v G) (hFb : F b) (hF : ∀ k, RoF v G k → F k) (kind : Int) (A : Option Addr) (n c : Nat) (xs : List Int) (hx : Rd w (.slice A n c) 1 n (xs.map (.int .i64))) (hnx : n = xs.length) (hk0 : 0 ≤ kind) (hk1 : kind ≤ 15) (hn : n ≤ 65535) (hi : ∀ x ∈ xs, I64 x) :
    Calls Try.prog 20 #[.pointer (some ⟨b, 0, none⟩), .int .i64 kind, .slice A n c] w (RAllocPost w B b lim F (allocRes lim L kind xs)) := by
  have HRT := hide (rright_any h)
  have HUS := hide (rused_any h)
  obtain ⟨A1, c1, hv, hc1, hc0, hll⟩ := h.slice
  subst hv
  have HNO : Hid (∀ j, j < n → (∀ h : j < xs.length, rightL L (xs[j]'h) = false) → allocRes lim L kind xs = (0, 1, L)) := by
    intro j hj hf
    unfold allocRes
    rw [if_pos (.inr (.inr (.inr (List.any_eq_true.2 ⟨xs[j]'(by omega), List.getElem_mem _, by simp [hf (by omega)]⟩))))]
  have HYES : Hid ((∀ j, j < n → ∀ h : j < xs.length, rightL L (xs[j]'h) = true) → allocRes lim L kind xs = if lim < (total L : Int) + n + 1 then (0, 6, L) else ((total L : Int) * 8 + 5, 0, L ++ [(kind, xs)])) := by
    intro hr
    unfold allocRes
    rw [if_neg, ← hnx]
    rintro (h | h | h | h)
    · omega
    · omega
    · omega
    · obtain ⟨x, hm, hx⟩ := List.any_eq_true.1 h
      obtain ⟨j, hj, rfl⟩ := List.getElem_of_mem hm
      simp [hr j (by omega) hj] at hx
  have HSM : Hid (RH w B b lim L (grow F w)) := ⟨_, G, h, .inl hFb, fun k hk => .inl (hF k hk)⟩
  have HH := hide h
  have HFb := hide hFb
  have HF := hide hF
  have HX := hide hx
  have HN := hide hnx
  have HI := hide hi
  have ht1 := h.tot
  have hl1 := h.l1
  obtain ⟨t, ht⟩ : ∃ t, total L = t := ⟨_, rfl⟩
  rw [ht] at HUS ht1 HYES
  obtain ⟨m, hm⟩ : ∃ m, L.length = m := ⟨_, rfl⟩
  rw [hm] at hc1 hll HH
  have HT := hide ht
  have HM := hide hm
  have HRW := hide h.ro.row
  rw [hm] at HRW HF
  have hBw : B ≤ w.heap.size := Nat.le_of_lt (Nat.lt_of_le_of_lt h.le h.blk.lt)
  have hfb := h.blk.free 1
  clear h hFb hF hx hnx hi ht hm
  go_enter Try.func20, Try.ntmps20
  go_wp2_with fail
  go_loop [8] (fun i => ∃ k : Nat, k ≤ n ∧ i = .int .i64 k ∧ Hid (∀ j, j < k → ∀ h : j < xs.length, rightL L (xs[j]'h) = true)) (fun i => n - (intOf i).toNat)
  case atStart => exact ⟨0, Nat.zero_le _, rfl, fun j hj => absurd hj (Nat.not_lt_zero _)⟩
  case round =>
    obtain ⟨k, hk, rfl, HQ⟩ := hrel
    by_cases hlt : k < n
    · obtain ⟨gb, go, gs, x, rfl, hxe, hxc⟩ := HX.out.get HN.out hlt
      have HXE := hide hxe
      have HR1 := hide (HRT.out x)
      clear hxe
      cases hr : rightL L x
      · rw [hr] at HR1
        have HE := hide (HNO.out k hlt fun h => by rw [← HXE.out]; exact hr)
        clear hr HYES HNO HQ
        go_wp2_with (go_at_call 42; refine HR1.out.mono ?_; rintro e w4 ⟨rfl, rfl⟩)
        go_ret2
        rw [HE.out]
        exact ⟨rfl, HSM.out, Upd.refl _ _⟩
      · rw [hr] at HR1
        have HQ2 : Hid (∀ j, j < k + 1 → ∀ h : j < xs.length, rightL L (xs[j]'h) = true) := by
          intro j hj h
          rcases Nat.lt_or_ge j k with h1 | h1
          · exact HQ.out j h1 h
          · obtain rfl : j = k := by omega
            rw [← HXE.out]; exact hr
        clear hr
        go_wp2_with (go_at_call 42; refine HR1.out.mono ?_; rintro e w4 ⟨rfl, rfl⟩)
        go_round
        case rel => exact ⟨k + 1, by omega, by go_num, HQ2.out⟩
        case measure => simp [intOf]; omega
    · obtain rfl : k = n := by omega
      have HE := hide (HYES.out HQ.out)
      by_cases hf : lim < (t : Int) + k + 1
      · rw [if_pos hf] at HE
        have hf1 : decide (lim < (t : Int) + 1 + k) = true := by simp; omega
        clear hf HYES HNO HQ
        go_wp2_with (go_at_call 27; refine HUS.out.mono ?_; rintro e w4 ⟨rfl, rfl⟩)
        go_ret2
        rw [HE.out]
        exact ⟨rfl, HSM.out, Upd.refl _ _⟩
      · rw [if_neg hf] at HE
        have hf1 : decide (lim < (t : Int) + 1 + k) = false := by simp; omega
        have HTL : Hid ((t : Int) + k + 1 ≤ lim) := by show (t : Int) + k + 1 ≤ lim; omega
        have HRR : Hid (∀ x ∈ xs, rightL L x = true) := by
          intro x hm
          obtain ⟨j, hj, rfl⟩ := List.getElem_of_mem hm
          exact HQ.out j (by have := HN.out; omega) hj
        have HWO : Hid (WfO (kind, xs)) := ⟨hk0, hk1, by have := HN.out; show xs.length ≤ 65535; omega, HI.out⟩
        have HX1 : Hid (Rd w.drew (.slice A k c) 1 k (xs.map (.int .i64))) := HX.out
        have HB1 := hide hBw
        clear hf HYES HNO HQ HRT hlt hk0 hk1
        go_wp2_with (go_at_call 27; refine HUS.out.mono ?_; rintro e w4 ⟨rfl, rfl⟩)
        obtain ⟨hk0, hk0f⟩ := AS.of (alloc_k0 HH.out)
        go_region_law (first | ((refine step_app (v := .slice (some ⟨w.heap.size, 0, none⟩) 0 0) Try.ints (by rfl) (.tmp 53) (.tmp 54) (by rfl) (by rfl) (made0 w) (by rfl) (rd0 HX.out) (ints_oneCell _ _) k (by omega) (by omega) (by omega) (le0 w) ?_; intro A' cc w1 own1 u1 at1 ne1; have HO1 := hide own1; have HU1 := hide u1; have HN1 := hide ne1; clear own1 u1 at1 ne1; obtain ⟨hk1, hk1f⟩ := AS.of (alloc_k1 HH.out HU1.out); obtain ⟨hk2, hk2f⟩ := AS.of ((Upd.alloc (fun _ => False) w1 (.cells #[.int .i64 t, .int .i64 kind, .slice A' k cc] 73)).blk (alloc_k1 HH.out HU1.out) (fun h => h)))) | ((refine step_app (v := .slice A1 m c1) Try.objs (by rfl) (.tmp 50) (.tmp 57) (by rfl) (by rfl) (HM.out ▸ alloc_own HH.out HU1.out (Upd.alloc (fun _ => False) _ _)) (by rfl) (Rd.new3 _ _ _ _ 73 rfl) (oneO _ _ _ _ _) (m + 1) (by omega) (by omega) (by omega) (le1 HH.out HU1.out (Upd.alloc (fun _ => False) _ _)) ?_; intro A2 c2 w2 own2 u2 at2 ne2; have HO2 := hide own2; have HU2 := hide u2; have HAT2 := hide at2; clear own2 u2 at2 ne2; obtain ⟨hk3, hk3f⟩ := AS.of (alloc_k2 HH.out HU1.out (Upd.alloc (fun _ => False) _ _) HU2.out))))
        all_goals
          have HOT := hide HO2.out
          rw [HT.out.symm] at HOT
          have HRES := hide (ralloc_end HH.out HN.out HWO.out HRR.out (HT.out ▸ HTL.out) HFb.out HF.out (by rw [HM.out]) ((Upd.alloc (fun _ => False) w (.cells #[] 3)).trans (Upd.drew _ _)) HU1.out HO1.out HN1.out (Upd.alloc (fun _ => False) _ _) HU2.out HOT.out HAT2.out)
          clear HOT HO2 HO1 HN1 HAT2 HU1 HU2 hk0 hk0f hk1 hk1f hk2 hk2f hk3 hk3f HRW HX1 HX
          go_wp2_with fail
          go_ret2
          rw [HE.out]
          exact ⟨rfl, HRES.out⟩

theorem ralloc_any (h : RH w B b lim L F) (kind : Int) (A : Option Addr) (n c : Nat) (xs : List Int) (hx : Rd w (.slice A n c) 1 n (xs.map (.int .i64))) (hnx : n = xs.length) (hi : ∀ x ∈ xs, I64 x) :
    Calls Try.prog 20 #[.pointer (some ⟨b, 0, none⟩), .int .i64 kind, .slice A n c] w (RAllocPost w B b lim F (allocRes lim L kind xs)) := by
  obtain ⟨v, G, h, hFb, hF⟩ := h
  by_cases hk : kind < 0 ∨ 15 < kind ∨ 65535 < n
  · have e : allocRes lim L kind xs = (0, 1, L) := by
      unfold allocRes
      rw [if_pos]
      rcases hk with hk | hk | hk
      · exact .inl hk
      · exact .inr (.inl hk)
      · exact .inr (.inr (.inl (by omega)))
    rw [e]
    refine (ralloc_no A n c _ w hk).mono ?_
    rintro e w' ⟨he, rfl⟩
    exact ⟨he, ⟨v, G, h, .inl hFb, fun k hk => .inl (hF k hk)⟩, Upd.refl _ _⟩
  · exact ralloc_yes h hFb hF kind A n c xs hx hnx (by omega) (by omega) (by omega) hi
end
end Go.Proofs.Ytkmfohocicngaaa
