/- lay: an object is laid behind all others. -/
import Derived.Test.YtkmfohocicngaaaSet
namespace Go.Proofs.Ytkmfohocicngaaa
open Go.RowKit

section
variable {w w1 : World} {B b t : Nat} {cs : Array Value} {vw vb : Value} {ws : List Int} {bs : List Bool}

theorem Sp.cell0 (h : Sp w B b t cs vw vb ws bs) : w.cell? ⟨b, 0, none⟩ = some vw := by rw [h.blk.cell]; exact h.c0
theorem Sp.cell1 (h : Sp w B b t cs vw vb ws bs) : w.cell? ⟨b, 1, none⟩ = some vb := by rw [h.blk.cell]; exact h.c1
theorem Sp.nb_w (h : Sp w B b t cs vw vb ws bs) : ¬ vw.ownBlock = some b := fun e => own_ne_blk h.ow h.blk h.t3 b e rfl
theorem Sp.nb_b (h : Sp w B b t cs vw vb ws bs) : ¬ vb.ownBlock = some b := fun e => own_ne_blk h.ob h.blk h.t4 b e rfl

/-- The words' row has grown, and the new slice is stored. -/
theorem Sp.push_w (h : Sp w B b t cs vw vb ws bs) (hu : Upd (fun k => vw.ownBlock = some k) w w1) {v' : Value} {ws' : List Int} (ho : w1.ownsRow B 3 1 v' ws'.length (ws'.map (.int .i64))) (hl : ws'.length ≤ 140737488351232) :
    Sp (w1.setCell ⟨b, 0, none⟩ v') B b t (cs.setIfInBounds 0 v') v' vb ws' bs := by
  have hb1 : Blk w1 b t cs := hu.blk h.blk h.nb_w
  have hs : Upd (fun k => k = b) w1 (w1.setCell ⟨b, 0, none⟩ v') := Upd.set _ _ _ rfl
  have hc : 0 < cs.size := (Array.getElem?_eq_some_iff.1 h.c0).1
  refine ⟨hb1.set 0 v', h.le, by simp [hc], ?_, hs.own ho ?_, hs.own (hu.own h.ob ?_) ?_, h.t3, h.t4, hl, h.lb⟩
  · rw [Array.getElem?_setIfInBounds, if_neg (by omega)]; exact h.c1
  · exact fun k hk => own_ne_blk ho hb1 h.t3 k hk
  · exact fun k hk e => own_ne_own h.ow h.ob (by decide) k e hk
  · exact fun k hk => own_ne_blk h.ob h.blk h.t4 k hk

/-- The beginnings' row has grown, and the new slice is stored. -/
theorem Sp.push_b (h : Sp w B b t cs vw vb ws bs) (hu : Upd (fun k => vb.ownBlock = some k) w w1) {v' : Value} {bs' : List Bool} (ho : w1.ownsRow B 4 1 v' bs'.length (bs'.map .bool)) (hl : bs'.length ≤ 140737488351232) :
    Sp (w1.setCell ⟨b, 1, none⟩ v') B b t (cs.setIfInBounds 1 v') vw v' ws bs' := by
  have hb1 : Blk w1 b t cs := hu.blk h.blk h.nb_b
  have hs : Upd (fun k => k = b) w1 (w1.setCell ⟨b, 1, none⟩ v') := Upd.set _ _ _ rfl
  have hc : 1 < cs.size := (Array.getElem?_eq_some_iff.1 h.c1).1
  refine ⟨hb1.set 1 v', h.le, ?_, by simp [hc], hs.own (hu.own h.ow ?_) ?_, hs.own ho ?_, h.t3, h.t4, h.lw, hl⟩
  · rw [Array.getElem?_setIfInBounds, if_neg (by omega)]; exact h.c0
  · exact fun k hk e => own_ne_own h.ow h.ob (by decide) k hk e
  · exact fun k hk => own_ne_blk h.ow h.blk h.t3 k hk
  · exact fun k hk => own_ne_blk ho hb1 h.t4 k hk
end

theorem Sp.keep0 {w w1 : World} {B b t : Nat} {cs : Array Value} {vw vb : Value} {ws : List Int} {bs : List Bool} (h : Sp w B b t cs vw vb ws bs) (hu : Upd (fun k => vw.ownBlock = some k) w w1) :
    w1.cell? ⟨b, 0, none⟩ = some vw ∧ w1.frozen? ⟨b, 0, none⟩ = false ∧ w1.cell? ⟨b, 1, none⟩ = some vb ∧ w1.frozen? ⟨b, 1, none⟩ = false := by
  have hb := hu.blk h.blk h.nb_w
  exact ⟨by rw [hb.cell]; exact h.c0, hb.free 0, by rw [hb.cell]; exact h.c1, hb.free 1⟩

theorem Sp.keep1 {w w1 : World} {B b t : Nat} {cs : Array Value} {vw vb : Value} {ws : List Int} {bs : List Bool} (h : Sp w B b t cs vw vb ws bs) (hu : Upd (fun k => vb.ownBlock = some k) w w1) :
    w1.cell? ⟨b, 0, none⟩ = some vw ∧ w1.frozen? ⟨b, 0, none⟩ = false ∧ w1.cell? ⟨b, 1, none⟩ = some vb ∧ w1.frozen? ⟨b, 1, none⟩ = false := by
  have hb := hu.blk h.blk h.nb_b
  exact ⟨by rw [hb.cell]; exact h.c0, hb.free 0, by rw [hb.cell]; exact h.c1, hb.free 1⟩

/-- What is left to say of a space in the middle of 'lay': k of the fields' beginnings are written. -/
def LayInv (w : World) (B b t : Nat) (cs : Array Value) (F : Nat → Prop) (ws : List Int) (bs : List Bool) (wr : World) : Prop :=
  ∃ vw vb, Sp wr B b t ((cs.setIfInBounds 0 vw).setIfInBounds 1 vb) vw vb ws bs ∧ Upd F w wr ∧ (∀ k, vw.ownBlock = some k → F k ∨ w.heap.size ≤ k) ∧ (∀ k, vb.ownBlock = some k → F k ∨ w.heap.size ≤ k)

def LayPost (w : World) (B b t : Nat) (cs : Array Value) (F : Nat → Prop) (ws : List Int) (bs : List Bool) (at_ : Nat) (e : Ending) (w' : World) : Prop :=
  e = .returned (.int .i64 at_) ∧ LayInv w B b t cs F ws bs w'

theorem Upd.behind {w w1 : World} {v : Value} {o : Obj} (u1 : Upd (fun k => v.ownBlock = some k) (w.alloc o) w1) : Upd (fun k => v.ownBlock = some k) w w1 := (Upd.alloc _ _ _).trans u1

theorem Upd.behind2 {w w1 w2 : World} {v v1 : Value} {n : Nat} (u1 : Upd (fun k => v.ownBlock = some k) w w1) (at1 : v1.ownBlock = v.ownBlock ∨ v1.ownBlock = some n) (hn : w.heap.size ≤ n) (u2 : Upd (fun k => v1.ownBlock = some k) w1 w2) : Upd (fun k => v.ownBlock = some k) w w2 :=
  ⟨u2.os.trans u1.os, u2.tape.trans u1.tape, u2.output.trans u1.output, Nat.le_trans u1.size u2.size, fun k hk hS => (u2.block k (Nat.lt_of_lt_of_le hk u1.size) (fun e => by
    rcases at1 with h | h
    · rw [h] at e; exact hS e
    · rw [h] at e; obtain rfl := Option.some.inj e; omega)).trans (u1.block k hk hS)⟩

/-- Where a row lies behind an append. -/
theorem at_foot {F : Nat → Prop} {v v1 : Value} {n m : Nat} (at1 : v1.ownBlock = v.ownBlock ∨ v1.ownBlock = some n) (hF : ∀ k, v.ownBlock = some k → F k ∨ m ≤ k) (hn : m ≤ n) : ∀ k, v1.ownBlock = some k → F k ∨ m ≤ k := by
  intro k hk
  rcases at1 with h | h
  · rw [h] at hk; exact hF k hk
  · rw [h] at hk; obtain rfl := Option.some.inj hk; exact .inr hn

theorem lay_own {w2 : World} {B n : Nat} {v : Value} {ws ys : List Int} {head : Int} (h : w2.ownsRow B 3 1 v (ws.length + 1 + n) (ws.map (.int .i64) ++ [.int .i64 head] ++ ys.map (.int .i64))) (hn : n = ys.length) :
    w2.ownsRow B 3 1 v (ws ++ head :: ys).length ((ws ++ head :: ys).map (.int .i64)) := by
  have e : (ws ++ head :: ys).length = ws.length + 1 + n := by simp; omega
  rw [e]
  simpa using h

theorem push_own {w2 : World} {B : Nat} {v : Value} {bs : List Bool} {x : Bool} (h : w2.ownsRow B 4 1 v (bs.length + 1) (bs.map .bool ++ [.bool x])) :
    w2.ownsRow B 4 1 v (bs ++ [x]).length ((bs ++ [x]).map .bool) := by
  simpa using h

/-- The loop's relation: k of the fields' beginnings are written. -/
def LayRel (w : World) (B b t : Nat) (cs : Array Value) (F : Nat → Prop) (v2 : Value) (ws' : List Int) (bs : List Bool) (k : Nat) (wr : World) : Prop :=
  ∃ A' c', Sp wr B b t ((cs.setIfInBounds 0 v2).setIfInBounds 1 (.slice A' (bs.length + 1 + k) c')) v2 (.slice A' (bs.length + 1 + k) c') ws' (bs ++ true :: List.replicate k false) ∧ Upd F w wr ∧ (∀ q, (Value.slice A' (bs.length + 1 + k) c').ownBlock = some q → F q ∨ w.heap.size ≤ q)

theorem rep_snoc (bs : List Bool) (k : Nat) : bs ++ true :: List.replicate (k + 1) false = (bs ++ true :: List.replicate k false) ++ [false] := by
  rw [List.replicate_succ']; simp

theorem LayRel.next {w wr w1 : World} {B b t : Nat} {cs : Array Value} {F : Nat → Prop} {v2 : Value} {ws' : List Int} {bs : List Bool} {k c' c1 : Nat} {A' A1 : Option Addr} (hF : F b)
    (hS : Sp wr B b t ((cs.setIfInBounds 0 v2).setIfInBounds 1 (.slice A' (bs.length + 1 + k) c')) v2 (.slice A' (bs.length + 1 + k) c') ws' (bs ++ true :: List.replicate k false)) (hU : Upd F w wr)
    (hq : ∀ q, (Value.slice A' (bs.length + 1 + k) c').ownBlock = some q → F q ∨ w.heap.size ≤ q)
    {o : Obj} (ho : w1.ownsRow B 4 1 (.slice A1 (bs.length + 1 + k + 1) c1) (bs.length + 1 + k + 1) ((bs ++ true :: List.replicate k false).map .bool ++ [.bool false])) (hu : Upd (fun q => (Value.slice A' (bs.length + 1 + k) c').ownBlock = some q) (wr.alloc o) w1)
    (hat : (Value.slice A1 (bs.length + 1 + k + 1) c1).ownBlock = (Value.slice A' (bs.length + 1 + k) c').ownBlock ∨ (Value.slice A1 (bs.length + 1 + k + 1) c1).ownBlock = some (wr.alloc o).heap.size) (hl : bs.length + 1 + k + 1 ≤ 140737488351232) :
    LayRel w B b t cs F v2 ws' bs (k + 1) (w1.setCell ⟨b, 1, none⟩ (.slice A1 (bs.length + 1 + k + 1) c1)) := by
  have hlen : (bs ++ true :: List.replicate (k + 1) false).length = bs.length + 1 + k + 1 := by simp; omega
  have hp := hS.push_b (v' := .slice A1 (bs.length + 1 + k + 1) c1) (bs' := bs ++ true :: List.replicate (k + 1) false) hu.behind (by rw [hlen, rep_snoc, List.map_append]; exact ho) (by rw [hlen]; exact hl)
  refine ⟨A1, c1, ?_, ?_, ?_⟩
  · rw [Array.setIfInBounds_setIfInBounds] at hp
    exact hp
  · exact (hU.extend hu.behind hq).trans (Upd.set _ _ _ hF)
  · have hsz := hU.size
    exact at_foot hat hq (by simp; omega)

set_option maxHeartbeats 1000000 in
theorem lay_any {w : World} {B b t : Nat} {cs : Array Value} {vw vb : Value} {ws : List Int} {bs : List Bool} (h : Sp w B b t cs vw vb ws bs) (F : Nat → Prop) (hFb : F b) (hFw : ∀ k, vw.ownBlock = some k → F k) (hFv : ∀ k, vb.ownBlock = some k → F k)
    (head : Int) (A : Option Addr) (n c : Nat) (ys : List Int) (hr : Rd w (.slice A n c) 1 n (ys.map (.int .i64))) (hn : n = ys.length) (hA : ∀ k, (Value.slice A n c).ownBlock = some k → ¬ F k) (hn1 : n ≤ 65535) (hl1 : ws.length ≤ 4194304) (hl2 : bs.length ≤ 4194304) :
    Calls Try.prog 34 #[.pointer (some ⟨b, 0, none⟩), .int .i64 head, .slice A n c] w (LayPost w B b t cs F (ws ++ head :: ys) (bs ++ true :: List.replicate n false) ws.length) := by
  obtain ⟨Aw, cw, rfl, _⟩ := own_form h.ow
  obtain ⟨Ab, cb, rfl, _⟩ := own_form h.ob
  have HN := hide hn
  have hBw : B ≤ w.heap.size := by have := h.blk.lt; have := h.le; omega
  have c0 := h.cell0
  have c1 := h.cell1
  have HR := hide hr
  have HH := hide h
  have HFw := hide hFw
  have HFv := hide hFv
  have HA := hide hA
  have HFb := hide hFb
  clear hr hn hA hFw hFv hFb
  go_enter Try.func34, Try.ntmps34
  go_wp2_with (first
    | (at_builtin; refine wpList_app (v := .slice Aw ws.length cw) (u := .slice (some ⟨w.heap.size, 0, none⟩) 1 1) Try.ints rfl (.tmp 17) (.tmp 19) rfl rfl ((Upd.alloc (fun _ => False) _ _).own HH.out.ow (fun _ _ h => h)) rfl (Rd.new1 w (.int .i64 head) 3 rfl) (by simp [Value.oneCell']) (ws.length + 1) rfl (by omega) (by omega) (by simp; omega) ?_; intro A1 c1' w1 own1 u1 at1 ne1; clear ne1; have R1 := hide ((HR.out.keep (Upd.alloc (fun _ => False) w (.cells #[.int .i64 head] 3)) (fun _ _ h => h)).keep u1 (fun k hk e => HA.out k hk (HFw.out k e))); have B1 : B ≤ w1.heap.size := Nat.le_trans (by simp; omega) u1.size)
    | (at_builtin; refine wpList_app (v := .slice A1 (ws.length + 1) c1') (u := .slice A n c) Try.ints rfl (.tmp 20) (.tmp 21) rfl rfl own1 rfl R1.out (ints_oneCell _ _) (ws.length + 1 + n) rfl (by omega) (by omega) B1 ?_; intro A2 c2' w2 own2 u2 at2 ne2; clear ne2; have B2 : B ≤ w2.heap.size := Nat.le_trans B1 u2.size; have U2 := hide (u1.behind.behind2 at1 (by simp) u2); have hc0 := (HH.out.keep0 U2.out).1; have hf0 := (HH.out.keep0 U2.out).2.1; have hc1 := (HH.out.keep0 U2.out).2.2.1; have hf1 := (HH.out.keep0 U2.out).2.2.2; have S2 := hide (HH.out.push_w U2.out (lay_own own2 HN.out) (by have := HN.out; simp; omega)))
    | (at_builtin; go_loud (refine wpList_app (v := .slice Ab bs.length cb) (u := .slice (some ⟨w2.heap.size, 0, none⟩) 1 1) Try.bools rfl (.tmp 29) (.tmp 30) rfl rfl ((Upd.alloc (fun _ => False) _ _).own S2.out.ob (fun _ _ h => h)) rfl (Rd.new1 _ (.bool true) 4 (by simp [World.setCell])) (by simp [Value.oneCell']) (bs.length + 1) rfl (by omega) (by omega) (by simp [World.setCell]; omega) ?_); intro A3 c3' w3 own3 u3 at3 ne3; clear ne3; have hd0 := (S2.out.keep1 u3.behind).1; have hg0 := (S2.out.keep1 u3.behind).2.1; have hd1 := (S2.out.keep1 u3.behind).2.2.1; have hg1 := (S2.out.keep1 u3.behind).2.2.2; have S3 := hide (S2.out.push_b u3.behind (push_own own3) (by simp; omega))))
  have hU3 : Upd F w (w3.setCell ⟨b, 1, none⟩ (.slice A3 (bs.length + 1) c3')) := by
    refine Upd.trans (b := w2.setCell ⟨b, 0, none⟩ (.slice A2 (ws.length + 1 + n) c2')) ((U2.out.mono fun k _ => HFw.out k).trans (Upd.set _ _ _ HFb.out)) ((u3.behind.mono fun k _ => HFv.out k).trans (Upd.set _ _ _ HFb.out))
  have hq2 : ∀ k, (Value.slice A2 (ws.length + 1 + n) c2').ownBlock = some k → F k ∨ w.heap.size ≤ k := at_foot at2 (at_foot at1 (fun k hk => .inl (HFw.out k hk)) (by simp)) (by have := u1.size; simp at this; omega)
  have hq3 : ∀ k, (Value.slice A3 (bs.length + 1) c3').ownBlock = some k → F k ∨ w.heap.size ≤ k := at_foot at3 (fun k hk => .inl (HFv.out k hk)) (by have := U2.out.size; simp [World.setCell]; omega)
  have HS : Hid (LayRel w B b t cs F (.slice A2 (ws.length + 1 + n) c2') (ws ++ head :: ys) bs 0 (w3.setCell ⟨b, 1, none⟩ (.slice A3 (bs.length + 1) c3'))) := ⟨A3, c3', S3.out, hU3, hq3⟩
  have HQ := hide hq2
  clear hU3 hq2 hq3 S3 S2 at3 own3 u3 at2 at1 own2 own1 u1 u2 U2 R1 HR hc0 hc1 hf0 hf1 hd0 hd1 hg0 hg1 c0 c1
  go_loopw [36] (fun i wr => ∃ k : Nat, k ≤ n ∧ i = .int .i64 k ∧ LayRel w B b t cs F (.slice A2 (ws.length + 1 + n) c2') (ws ++ head :: ys) bs k wr) (fun i _ => n - (intOf i).toNat)
  case atStart => exact ⟨0, Nat.zero_le _, rfl, HS.out⟩
  case round =>
    obtain ⟨k, hk, rfl, A', c', hS, hU, hq⟩ := hrel
    have hc1 := hS.cell1
    have S4 := hide hS
    have HU := hide hU
    have Hq := hide hq
    have HB : B ≤ wr.heap.size := by have := hS.blk.lt; have := hS.le; omega
    clear hS hU hq
    by_cases hlt : k < n
    · go_wp2_with (at_builtin; refine wpList_app (v := .slice A' (bs.length + 1 + k) c') (u := .slice (some ⟨wr.heap.size, 0, none⟩) 1 1) Try.bools rfl (.tmp 42) (.tmp 43) rfl rfl ((Upd.alloc (fun _ => False) _ _).own (show wr.ownsRow B 4 1 _ (bs.length + 1 + k) _ by have := S4.out.ob; simpa [Nat.add_assoc, Nat.add_comm k 1] using this) (fun _ _ h => h)) rfl (Rd.new1 _ (.bool false) 4 rfl) (by simp [Value.oneCell']) (bs.length + 1 + k + 1) rfl (by omega) (by omega) (by simp; omega) ?_; intro A4 c4' w4 own4 u4 at4 ne4; clear ne4; have hd0 := (S4.out.keep1 u4.behind).1; have hg0 := (S4.out.keep1 u4.behind).2.1; have hd1 := (S4.out.keep1 u4.behind).2.2.1; have hg1 := (S4.out.keep1 u4.behind).2.2.2)
      go_roundw
      case rel => exact ⟨k + 1, by omega, by go_num, LayRel.next HFb.out S4.out HU.out Hq.out (by simpa using own4) u4 at4 (by omega)⟩
      case measure => simp [intOf]; omega
    · obtain rfl : k = n := by omega
      go_wp2
      go_ret
      exact ⟨ri rfl, _, _, S4.out, HU.out, HQ.out, Hq.out⟩
end Go.Proofs.Ytkmfohocicngaaa
