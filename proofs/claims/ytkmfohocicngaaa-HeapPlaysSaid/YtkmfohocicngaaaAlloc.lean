/- Alloc and New. -/
import Derived.Test.YtkmfohocicngaaaAny
namespace Go.Proofs.Ytkmfohocicngaaa
open Go.RowKit

theorem rpi {a : Option Addr} {k : IntKind} {c d : Int} (h' : c = d) : Ending.returned (.tuple #[.pointer a, .int k c]) = .returned (.tuple #[.pointer a, .int k d]) := by rw [h']

set_option maxHeartbeats 400000 in
theorem new_no {n : Int} (w : World) (h : n < 0 ∨ 4194304 < n) :
    Calls Try.prog 10 #[.int .i64 n] w fun e w' => e = .returned (.tuple #[.pointer none, .int .i64 1]) ∧ w = w' := by
  by_cases h0 : n < 0
  · go_enter Try.func10, Try.ntmps10
    go_wp2
    go_ret2
    exact ⟨rfl, rfl⟩
  · have h1 : 4194304 < n := by omega
    go_enter Try.func10, Try.ntmps10
    go_wp2
    go_ret2
    exact ⟨rfl, rfl⟩

set_option maxHeartbeats 400000 in
theorem new_yes {n : Int} (w : World) (h0 : 0 ≤ n) (h1 : n ≤ 4194304) :
    Calls Try.prog 10 #[.int .i64 n] w fun e w' => e = .returned (.tuple #[.pointer (some ⟨w.heap.size, 0, none⟩), .int .i64 0]) ∧ w.alloc (.cells #[.slice none 0 0, .slice none 0 0, .int .i64 n, .bool true] 58) = w' := by
  go_enter Try.func10, Try.ntmps10
  go_wp2
  go_ret2
  exact ⟨rfl, rfl⟩

theorem HpL.new (w : World) (B : Nat) (n : Int) (hB : B ≤ w.heap.size) (h0 : 0 ≤ n) (h1 : n ≤ 4194304) (F : Nat → Prop) (hF : F w.heap.size) :
    HpL (w.alloc (.cells #[.slice none 0 0, .slice none 0 0, .int .i64 n, .bool true] 58)) B w.heap.size n [] F := by
  refine ⟨.slice none 0 0, .slice none 0 0, ⟨⟨Blk.new _ _ _, hB, rfl, rfl, World.ownsRow_nil _ _ _ _, World.ownsRow_nil _ _ _ _, by decide, by decide, by simp [wordsOf], by simp [beginsOf]⟩, h0, h1, by simpa [wordsOf] using h0⟩, WfL.nil, hF, fun k hk => ?_, fun k hk => ?_⟩ <;> simp [Value.ownBlock] at hk

/-- What Alloc answers: the pointer, the error, the objects behind it. -/
def allocRes (lim : Int) (L : List Ob) (kind : Int) (xs : List Int) : Int × Int × List Ob :=
  if kind < 0 ∨ 15 < kind ∨ 65535 < xs.length ∨ xs.any (fun x => !rightL L x) = true then (0, 1, L)
  else if lim < (total L : Int) + xs.length + 1 then (0, 6, L)
  else ((total L : Int) * 8 + 5, 0, L ++ [(kind, xs)])

/-- A footprint, and what is new. -/
def grow (F : Nat → Prop) (w : World) : Nat → Prop := fun k => F k ∨ w.heap.size ≤ k

def AllocPost (w : World) (B b : Nat) (lim : Int) (F : Nat → Prop) (r : Int × Int × List Ob) (e : Ending) (w' : World) : Prop :=
  e = .returned (.tuple #[.int .i64 r.1, .int .i64 r.2.1]) ∧ HpL w' B b lim r.2.2 (grow F w) ∧ Upd F w w'

section
variable {w : World} {B b : Nat} {vw vb : Value} {lim : Int} {ws : List Int} {bs : List Bool}
theorem Hp.alloc (h : Hp w B b vw vb lim ws bs) (o : Obj) : Hp (w.alloc o) B b vw vb lim ws bs :=
  ⟨h.sp.keep (S := fun _ => False) (Upd.alloc _ _ _) (fun h => h) (fun _ _ h => h) (fun _ _ h => h), h.l0, h.l1, h.len⟩

def Same1 (w : World) (r1 r2 : Int) (e : Ending) (w' : World) : Prop := e = .returned (.tuple #[.int .i64 r1, .int .i64 r2]) ∧ Upd (fun _ => False) w w'

set_option maxHeartbeats 400000 in
theorem alloc_no1 (h : Hp w B b vw vb lim ws bs) {kind : Int} (A : Option Addr) (n c : Nat) (hk : kind < 0 ∨ 15 < kind) :
    Calls Try.prog 11 #[.pointer (some ⟨b, 0, none⟩), .int .i64 kind, .slice A n c] w (Same1 w 0 1) := by
  have hbm := bad_made (h.alloc (.cells #[.pointer (some ⟨b, 0, none⟩)] 24))
  have hu := hide (Upd.alloc (fun _ => False) w (.cells #[.pointer (some ⟨b, 0, none⟩)] 24))
  by_cases h0 : kind < 0
  · go_enter Try.func11, Try.ntmps11
    go_wp2_with (go_at_call 30; refine hbm.mono ?_; rintro e w' ⟨rfl, rfl⟩)
    go_ret2
    exact ⟨rfl, hu.out⟩
  · have h1 : 15 < kind := by omega
    go_enter Try.func11, Try.ntmps11
    go_wp2_with (go_at_call 30; refine hbm.mono ?_; rintro e w' ⟨rfl, rfl⟩)
    go_ret2
    exact ⟨rfl, hu.out⟩

set_option maxHeartbeats 400000 in
theorem alloc_no2 (h : Hp w B b vw vb lim ws bs) {kind : Int} (A : Option Addr) (n c : Nat) (hk0 : 0 ≤ kind) (hk1 : kind ≤ 15) (hn : 65535 < n) :
    Calls Try.prog 11 #[.pointer (some ⟨b, 0, none⟩), .int .i64 kind, .slice A n c] w (Same1 w 0 1) := by
  have hbm := bad_made (h.alloc (.cells #[.pointer (some ⟨b, 0, none⟩)] 24))
  have hu := hide (Upd.alloc (fun _ => False) w (.cells #[.pointer (some ⟨b, 0, none⟩)] 24))
  go_enter Try.func11, Try.ntmps11
  go_wp2_with (go_at_call 30; refine hbm.mono ?_; rintro e w' ⟨rfl, rfl⟩)
  go_ret2
  exact ⟨rfl, hu.out⟩

theorem any_right (h : Hp w B b vw vb lim ws bs) (A : Option Addr) (n c : Nat) (xs : List Int) (hx : Rd w (.slice A n c) 1 n (xs.map (.int .i64))) (hn : n = xs.length) (hl : n ≤ 9223372036854775806) (hi : ∀ x ∈ xs, I64 x) :
    Calls Try.prog 31 #[.slice A n c, .func (.func 32) #[] #[.pointer (some ⟨w.heap.size, 0, none⟩)]] (w.alloc (.cells #[.pointer (some ⟨b, 0, none⟩)] 24)) fun e w' => e = .returned (.bool (xs.any fun x => !rightB bs x)) ∧ w.alloc (.cells #[.pointer (some ⟨b, 0, none⟩)] 24) = w' :=
  contains32 (hx.keep (S := fun _ => False) (Upd.alloc _ _ _) (fun _ _ h => h)) hn.symm hl (fun x => !rightB bs x) fun x hm => clos32 (h.alloc _).sp (by rw [(Blk.new w 24 _).cell]; rfl) x (hi x hm)

set_option maxHeartbeats 400000 in
theorem alloc_no3 (h : Hp w B b vw vb lim ws bs) {kind : Int} (A : Option Addr) (n c : Nat) (hk0 : 0 ≤ kind) (hk1 : kind ≤ 15) (hn : n ≤ 65535)
    (hr : Calls Try.prog 31 #[.slice A n c, .func (.func 32) #[] #[.pointer (some ⟨w.heap.size, 0, none⟩)]] (w.alloc (.cells #[.pointer (some ⟨b, 0, none⟩)] 24)) fun e w' => e = .returned (.bool true) ∧ w.alloc (.cells #[.pointer (some ⟨b, 0, none⟩)] 24) = w') :
    Calls Try.prog 11 #[.pointer (some ⟨b, 0, none⟩), .int .i64 kind, .slice A n c] w (Same1 w 0 1) := by
  have hbm := bad_made (h.alloc (.cells #[.pointer (some ⟨b, 0, none⟩)] 24))
  have hu := hide (Upd.alloc (fun _ => False) w (.cells #[.pointer (some ⟨b, 0, none⟩)] 24))
  go_enter Try.func11, Try.ntmps11
  go_wp2_with (first | (go_at_call 30; refine hbm.mono ?_; rintro e w' ⟨rfl, rfl⟩) | (go_at_call 31; refine hr.mono ?_; rintro e w' ⟨rfl, rfl⟩))
  go_ret2
  exact ⟨rfl, hu.out⟩

set_option maxHeartbeats 400000 in
theorem alloc_full (h : Hp w B b vw vb lim ws bs) {kind : Int} (A : Option Addr) (n c : Nat) (hk0 : 0 ≤ kind) (hk1 : kind ≤ 15) (hn : n ≤ 65535) (hf : lim < (ws.length : Int) + n + 1)
    (hr : Calls Try.prog 31 #[.slice A n c, .func (.func 32) #[] #[.pointer (some ⟨w.heap.size, 0, none⟩)]] (w.alloc (.cells #[.pointer (some ⟨b, 0, none⟩)] 24)) fun e w' => e = .returned (.bool false) ∧ w.alloc (.cells #[.pointer (some ⟨b, 0, none⟩)] 24) = w') :
    Calls Try.prog 11 #[.pointer (some ⟨b, 0, none⟩), .int .i64 kind, .slice A n c] w (Same1 w 0 6) := by
  have h' := h.alloc (.cells #[.pointer (some ⟨b, 0, none⟩)] 24)
  have hbm := bad_made h'
  obtain ⟨Aw, cw, rfl, _⟩ := own_form h.sp.ow
  have c0 := h'.sp.cell0
  have c2 : (w.alloc (.cells #[.pointer (some ⟨b, 0, none⟩)] 24)).cell? ⟨b, 2, none⟩ = some (.int .i64 lim) := by rw [h'.sp.blk.cell]; rfl
  have hlw := h.sp.lw
  have hu := hide (Upd.alloc (fun _ => False) w (.cells #[.pointer (some ⟨b, 0, none⟩)] 24))
  go_enter Try.func11, Try.ntmps11
  go_wp2_with (first | (go_at_call 30; refine hbm.mono ?_; rintro e w' ⟨rfl, rfl⟩) | (go_at_call 31; refine hr.mono ?_; rintro e w' ⟨rfl, rfl⟩))
  go_quiet (fail)
  go_wp2_with fail
  go_ret2
  exact ⟨rfl, hu.out.trans (Upd.drewN _ _ _)⟩

def AllocOk (w : World) (B b : Nat) (lim : Int) (F : Nat → Prop) (ws : List Int) (bs : List Bool) (at_ : Int) (e : Ending) (w' : World) : Prop :=
  e = .returned (.tuple #[.int .i64 at_, .int .i64 0]) ∧ ∃ vw vb, Hp w' B b vw vb lim ws bs ∧ Upd F w w' ∧ (∀ k, vw.ownBlock = some k → F k ∨ w.heap.size ≤ k) ∧ (∀ k, vb.ownBlock = some k → F k ∨ w.heap.size ≤ k)

set_option maxHeartbeats 1000000 in
theorem alloc_yes (h : Hp w B b vw vb lim ws bs) (F : Nat → Prop) (hFb : F b) (hFw : ∀ k, vw.ownBlock = some k → F k) (hFv : ∀ k, vb.ownBlock = some k → F k) {kind : Int} (A : Option Addr) (n c : Nat) (xs : List Int) (hx : Rd w (.slice A n c) 1 n (xs.map (.int .i64))) (hnx : n = xs.length)
    (hA : ∀ k, (Value.slice A n c).ownBlock = some k → ¬ F k) (hlb : bs.length = ws.length) (hk0 : 0 ≤ kind) (hk1 : kind ≤ 15) (hn : n ≤ 65535) (hf : (ws.length : Int) + n + 1 ≤ lim)
    (hr : Calls Try.prog 31 #[.slice A n c, .func (.func 32) #[] #[.pointer (some ⟨w.heap.size, 0, none⟩)]] (w.alloc (.cells #[.pointer (some ⟨b, 0, none⟩)] 24)) fun e w' => e = .returned (.bool false) ∧ w.alloc (.cells #[.pointer (some ⟨b, 0, none⟩)] 24) = w') :
    Calls Try.prog 11 #[.pointer (some ⟨b, 0, none⟩), .int .i64 kind, .slice A n c] w (AllocOk w B b lim F (ws ++ ((n : Int) * 16 + kind) :: xs) (bs ++ true :: List.replicate n false) ((ws.length : Int) * 8 + 5)) := by
  have h' := h.alloc (.cells #[.pointer (some ⟨b, 0, none⟩)] 24)
  have hbm := bad_made h'
  have hll := h.l1
  have hlay := fun q => lay_any (h'.drewN q).sp F hFb hFw hFv ((n : Int) * 16 + kind) A n c xs ((hx.keep (S := fun _ => False) (Upd.alloc _ _ _) (fun _ _ h => h)).keep (S := fun _ => False) (Upd.drewN _ _ q) (fun _ _ h => h)) hnx hA hn (by omega) (by omega)
  obtain ⟨Aw, cw, rfl, _⟩ := own_form h.sp.ow
  have c0 := h'.sp.cell0
  have c2 : (w.alloc (.cells #[.pointer (some ⟨b, 0, none⟩)] 24)).cell? ⟨b, 2, none⟩ = some (.int .i64 lim) := by rw [h'.sp.blk.cell]; rfl
  have hlw := h.sp.lw
  have hu := hide (Upd.alloc F w (.cells #[.pointer (some ⟨b, 0, none⟩)] 24))
  have HL := hide hlay
  have HN := hide hnx
  have HH := hide h
  clear hlay hnx hlb hx hA hFw hFv
  go_enter Try.func11, Try.ntmps11
  go_wp2_with (first | (go_at_call 30; refine hbm.mono ?_; rintro e w' ⟨rfl, rfl⟩) | (go_at_call 31; refine hr.mono ?_; rintro e w' ⟨rfl, rfl⟩))
  go_quiet (fail)
  go_wp2_with (go_at_call 34; refine (HL.out _).mono ?_; rintro e w' ⟨rfl, v1, v2, hS, hU, hq1, hq2⟩; have HS := hide hS; have HU := hide hU; have HQ1 := hide hq1; have HQ2 := hide hq2; clear hS hU hq1 hq2)
  go_ret2
  refine ⟨rfl, v1, v2, ⟨HS.out, h.l0, h.l1, ?_⟩, hu.out.trans ((Upd.drewN _ _ _).trans HU.out), fun k hk => (HQ1.out k hk).imp id (fun h => by simp at h; omega), fun k hk => (HQ2.out k hk).imp id (fun h => by simp at h; omega)⟩
  have := HN.out
  simp; omega
end

theorem alloc_any {w : World} {B b : Nat} {lim : Int} {L : List Ob} {F : Nat → Prop} (h : HpL w B b lim L F) (kind : Int) (A : Option Addr) (n c : Nat) (xs : List Int) (hx : Rd w (.slice A n c) 1 n (xs.map (.int .i64))) (hnx : n = xs.length)
    (hA : ∀ k, (Value.slice A n c).ownBlock = some k → ¬ F k) (hl : n ≤ 9223372036854775806) (hi : ∀ x ∈ xs, I64 x) :
    Calls Try.prog 11 #[.pointer (some ⟨b, 0, none⟩), .int .i64 kind, .slice A n c] w (AllocPost w B b lim F (allocRes lim L kind xs)) := by
  have hsame : ∀ {r1 r2 : Int} {e : Ending} {w' : World}, Same1 w r1 r2 e w' → AllocPost w B b lim F (r1, r2, L) e w' := fun ⟨he, hu⟩ => ⟨he, (h.keep hu (fun _ _ h => h)).weak (fun k hk => .inl hk), hu.mono fun _ _ h => h.elim⟩
  obtain ⟨vw, vb, h1, h2, h3, h4, h5⟩ := h
  have hr := any_right h1 A n c xs hx hnx hl hi
  simp only [rightB_begins] at hr
  unfold allocRes
  by_cases hk : kind < 0 ∨ 15 < kind
  · rw [if_pos (by rcases hk with h | h; exact .inl h; exact .inr (.inl h))]
    exact (alloc_no1 h1 A n c hk).mono fun _ _ => hsame
  · by_cases hn : 65535 < xs.length
    · rw [if_pos (.inr (.inr (.inl hn)))]
      exact (alloc_no2 h1 A n c (by omega) (by omega) (by omega)).mono fun _ _ => hsame
    · cases ha : xs.any (fun x => !rightL L x) with
      | true =>
        rw [if_pos (.inr (.inr (.inr rfl)))]
        rw [ha] at hr
        exact (alloc_no3 h1 A n c (by omega) (by omega) (by omega) hr).mono fun _ _ => hsame
      | false =>
        rw [if_neg (by simp; omega)]
        rw [ha] at hr
        by_cases hf : lim < (total L : Int) + xs.length + 1
        · rw [if_pos hf]
          exact (alloc_full h1 A n c (by omega) (by omega) (by omega) (by rw [hnx]; exact hf) hr).mono fun _ _ => hsame
        · rw [if_neg hf]
          refine (alloc_yes h1 F h3 h4 h5 A n c xs hx hnx hA (begins_length L) (by omega) (by omega) (by omega) (by rw [hnx]; show (total L : Int) + _ + 1 ≤ _; omega) hr).mono ?_
          rintro e w' ⟨he, v1, v2, hh, hu, hq1, hq2⟩
          refine ⟨he, ⟨v1, v2, ?_, h2.push ⟨by show 0 ≤ kind; omega, by show kind ≤ 15; omega, by show xs.length ≤ 65535; omega, hi⟩ (fun x hx => ?_), .inl h3, hq1, hq2⟩, hu⟩
          · rw [wordsOf_append, beginsOf_append]
            simpa [wordsOf, beginsOf, headOf, hnx] using hh
          · have := List.any_eq_false.1 ha x hx
            simpa using this

end Go.Proofs.Ytkmfohocicngaaa
