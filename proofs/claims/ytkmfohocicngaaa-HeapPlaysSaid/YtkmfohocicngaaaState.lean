/- The heap of a law: one heap in memory of the call's own; its methods' contracts in one form; the document's example. -/
import Derived.Test.YtkmfohocicngaaaColl2
namespace Go.Proofs.Ytkmfohocicngaaa
open Go.RowKit

theorem HpL.tight {w : World} {B b : Nat} {lim : Int} {L : List Ob} {F : Nat → Prop} (h : HpL w B b lim L F) : HpL w B b lim L (fun k => F k ∧ k < w.heap.size) := by
  obtain ⟨vw, vb, h1, h2, h3, h4, h5⟩ := h
  exact ⟨vw, vb, h1, h2, ⟨h3, h1.sp.blk.lt⟩, fun k hk => ⟨h4 k hk, own_lt h1.sp.ow hk⟩, fun k hk => ⟨h5 k hk, own_lt h1.sp.ob hk⟩⟩

/-- In w, which has come of w0, block b holds a heap of its own: L are its objects. -/
def St (w0 w : World) (b : Nat) (lim : Int) (L : List Ob) : Prop :=
  ∃ F, HpL w w0.heap.size b lim L F ∧ (∀ k, F k → w0.heap.size ≤ k ∧ k < w.heap.size) ∧ Below w0.heap.size w0 w

section
variable {w0 w w1 : World} {b : Nat} {lim : Int} {L : List Ob}

theorem Below.upd {S : Nat → Prop} (h : Below w0.heap.size w0 w) (hu : Upd S w w1) (hS : ∀ k, S k → w0.heap.size ≤ k) : Below w0.heap.size w0 w1 :=
  h.trans (hu.below h.size hS)

theorem St.keep (h : St w0 w b lim L) (hu : Upd (fun _ => False) w w1) : St w0 w1 b lim L := by
  obtain ⟨F, h1, h2, h3⟩ := h
  exact ⟨F, h1.keep hu (fun _ _ h => h), fun k hk => ⟨(h2 k hk).1, Nat.lt_of_lt_of_le (h2 k hk).2 hu.size⟩, Below.upd h3 hu fun _ h => h.elim⟩

theorem St.wf (h : St w0 w b lim L) : WfL L ∧ 0 ≤ lim ∧ lim ≤ 4194304 ∧ (total L : Int) ≤ lim := by
  obtain ⟨F, ⟨vw, vb, h1, h2, _⟩, _⟩ := h
  exact ⟨h2, h1.l0, h1.l1, h1.len⟩

def AllocSt (w0 : World) (b : Nat) (lim : Int) (r : Int × Int × List Ob) (e : Ending) (w' : World) : Prop :=
  e = .returned (.tuple #[.int .i64 r.1, .int .i64 r.2.1]) ∧ St w0 w' b lim r.2.2

theorem St.alloc (h : St w0 w b lim L) (hu : Upd (fun _ => False) w w1) (kind : Int) (A : Option Addr) (n c : Nat) (xs : List Int) (hx : Rd w1 (.slice A n c) 1 n (xs.map (.int .i64))) (hnx : n = xs.length)
    (hA : ∀ k, (Value.slice A n c).ownBlock = some k → k < w0.heap.size ∨ w.heap.size ≤ k) (hl : n ≤ 9223372036854775806) (hi : ∀ x ∈ xs, I64 x) :
    Calls Try.prog 11 #[.pointer (some ⟨b, 0, none⟩), .int .i64 kind, .slice A n c] w1 (AllocSt w0 b lim (allocRes lim L kind xs)) := by
  obtain ⟨F, h1, h2, h3⟩ := h
  refine (alloc_any (h1.keep hu (fun _ _ h => h)) kind A n c xs hx hnx (fun k hk hF => ?_) hl hi).mono ?_
  · have := h2 k hF
    rcases hA k hk with h | h <;> omega
  · rintro e w' ⟨he, g1, g2⟩
    have hs := hu.size
    refine ⟨he, _, g1.tight, fun k hk => ?_, Below.upd (Below.upd h3 hu fun _ h => h.elim) g2 fun k hk => (h2 k hk).1⟩
    obtain ⟨hk1, hk2⟩ := hk
    rcases hk1 with hk1 | hk1
    · exact ⟨(h2 k hk1).1, hk2⟩
    · have := h3.size; exact ⟨by omega, hk2⟩

def CollSt (w0 : World) (b : Nat) (lim : Int) (r : Option (List Ob × List Int)) (L : List Ob) (e : Ending) (w' : World) : Prop :=
  match r with
  | none => e = .returned (.tuple #[.slice none 0 0, .int .i64 1]) ∧ St w0 w' b lim L
  | some (L', os) => ∃ A c, e = .returned (.tuple #[.slice A os.length c, .int .i64 0]) ∧ St w0 w' b lim L' ∧ w'.ownsRow w0.heap.size 3 1 (.slice A os.length c) os.length (os.map (.int .i64))

theorem own_base {B B' : Nat} {e size n : Nat} {v : Value} {xs : List Value} (h : w.ownsRow B e size v n xs) (hB : B' ≤ B) : w.ownsRow B' e size v n xs := by
  obtain ⟨h1, h2⟩ := h
  refine ⟨h1, ?_⟩
  rcases h2 with h2 | ⟨g, cap, cur, hv, hb, r⟩
  · exact .inl h2
  · exact .inr ⟨g, cap, cur, hv, Nat.le_trans hB hb, r⟩

theorem collect_any {B : Nat} {FH : Nat → Prop} (h : HpL w B b lim L FH) (hFH : ∀ k, FH k → k < w.heap.size) (A : Option Addr) (n c : Nat) (xs : List Int) (hx : Rd w (.slice A n c) 1 n (xs.map (.int .i64))) (hn : n = xs.length) (hl : n ≤ 17592186043904) (hi : ∀ x ∈ xs, I64 x) :
    Calls Try.prog 13 #[.pointer (some ⟨b, 0, none⟩), .slice A n c] w (CollectPost w B b lim FH (collRes L xs)) := by
  have hr := any_right35 h A n c xs hx hn (by omega) hi
  unfold collRes
  cases ha : xs.any (fun x => !rightL L x) with
  | true =>
    rw [if_pos rfl]
    rw [ha] at hr
    exact collect_no h A n c hr
  | false =>
    rw [if_neg (by simp)]
    rw [ha] at hr
    exact collect_yes h hFH A n c xs hx hn hl hi (fun x hm => by have := List.any_eq_false.1 ha x hm; simpa using this) hr

theorem St.collect (h : St w0 w b lim L) (A : Option Addr) (n c : Nat) (xs : List Int) (hx : Rd w (.slice A n c) 1 n (xs.map (.int .i64))) (hnx : n = xs.length) (hl : n ≤ 17592186043904) (hi : ∀ x ∈ xs, I64 x) :
    Calls Try.prog 13 #[.pointer (some ⟨b, 0, none⟩), .slice A n c] w (CollSt w0 b lim (collRes L xs) L) := by
  obtain ⟨F, h1, h2, h3⟩ := h
  refine (collect_any h1 (fun k hk => (h2 k hk).2) A n c xs hx hnx hl hi).mono ?_
  intro e w' hp
  cases hr : collRes L xs with
  | none =>
    rw [hr] at hp
    obtain ⟨he, hu⟩ := hp
    exact ⟨he, St.keep ⟨F, h1, h2, h3⟩ hu⟩
  | some r =>
    rw [hr] at hp
    obtain ⟨v, F', he, ho, g1, g2, g3, g4⟩ := hp
    have hs := g4.size
    have h3s := h3.size
    obtain ⟨A', c', hv, _⟩ := own_form ho
    subst hv
    refine ⟨A', c', he, ⟨_, g1.tight, fun k hk => ?_, Below.upd h3 g4 fun k hk => (h2 k hk).1⟩, own_base ho h3s⟩
    obtain ⟨hk1, hk2⟩ := hk
    rcases g2 k hk1 with h | h
    · exact ⟨(h2 k h).1, hk2⟩
    · exact ⟨by omega, hk2⟩

theorem St.used (h : St w0 w b lim L) : Calls Try.prog 12 #[.pointer (some ⟨b, 0, none⟩)] w fun e w' => e = .returned (.int .i64 (total L)) ∧ w = w' := by
  obtain ⟨F, h1, _⟩ := h
  exact used_any h1

theorem St.new (hw : Below w0.heap.size w0 w) {n : Int} (h0 : 0 ≤ n) (h1 : n ≤ 4194304) : St w0 (w.alloc (.cells #[.slice none 0 0, .slice none 0 0, .int .i64 n, .bool true] 58)) w.heap.size n [] :=
  ⟨fun k => k = w.heap.size, HpL.new w _ n hw.size h0 h1 _ rfl, fun k hk => by subst hk; exact ⟨hw.size, by simp⟩, hw.alloc hw.size _⟩

theorem Rd.nil (w : World) : Rd w (.slice none 0 0) 1 0 [] := ⟨none, 0, rfl, rfl, fun _ => ⟨rfl, rfl⟩, fun ad h => by simp at h⟩

theorem Rd.lit (w : World) (cs : Array Value) (t : TypeId) {g : Nat} (hg : g = w.heap.size) {n : Nat} (hn : n = cs.size) (c : Nat) : Rd (w.alloc (.cells cs t)) (.slice (some ⟨g, 0, none⟩) n c) 1 n cs.toList := by
  subst hg
  refine ⟨_, c, rfl, by simp [hn], fun h => by simp at h, fun ad had j x hx => ?_⟩
  obtain rfl := Option.some.inj had
  rw [Addr.add_lit, Nat.zero_add, (Blk.new w t cs).cell]
  simpa using hx
end

set_option maxHeartbeats 1000000 in
theorem awake_any (w : World) : Calls Try.prog 9 #[] w fun e w' => e = .returned (.bool true) ∧ Below w.heap.size w w' := by
  have s0 := hide (St.new (Below.refl w.heap.size w) (n := 5) (by decide) (by decide))
  go_enter Try.func9, Try.ntmps9
  go_wp2_with fail
  refine (new_yes w (n := 5) (by decide) (by decide)).mono ?_
  rintro e w1 ⟨rfl, hw1⟩
  rw [hw1] at s0
  clear hw1
  go_wp2_with fail
  have u1 := Upd.alloc (fun _ => False) w1 (.cells #[.int .i64 8, .int .i64 16] 3)
  have g1 := s0.out.alloc u1 1 (some ⟨w1.heap.size, 0, none⟩) 2 2 [8, 16] (Rd.lit w1 #[.int .i64 8, .int .i64 16] 3 rfl rfl 2) rfl (fun k hk => by simp [Value.ownBlock] at hk; omega) (by decide) (by intro x hx; simp at hx; rcases hx with rfl | rfl <;> exact ⟨by decide, by decide⟩)
  rw [show allocRes 5 [] 1 [8, 16] = (5, 0, [(1, [8, 16])]) by decide] at g1
  refine g1.mono ?_
  rintro e w2 ⟨rfl, hs2⟩
  have s2 := hide hs2
  clear hs2 s0 u1 g1
  go_wp2_with fail
  have u2 := Upd.alloc (fun _ => False) w2 (.cells #[.int .i64 5] 3)
  have g2 := s2.out.alloc u2 1 (some ⟨w2.heap.size, 0, none⟩) 1 1 [5] (Rd.lit w2 #[.int .i64 5] 3 rfl rfl 1) rfl (fun k hk => by simp [Value.ownBlock] at hk; omega) (by decide) (by intro x hx; simp at hx; subst hx; exact ⟨by decide, by decide⟩)
  rw [show allocRes 5 [(1, [8, 16])] 1 [5] = (29, 0, [(1, [8, 16]), (1, [5])]) by decide] at g2
  refine g2.mono ?_
  rintro e w3 ⟨rfl, hs3⟩
  have s3 := hide hs3
  clear hs3 s2 u2 g2
  go_wp2_with fail
  have g3 := s3.out.alloc (Upd.refl _ _) 0 none 0 0 [] (Rd.nil w3) rfl (fun k hk => by simp [Value.ownBlock] at hk) (by decide) (by simp)
  rw [show allocRes 5 [(1, [8, 16]), (1, [5])] 0 [] = (0, 6, [(1, [8, 16]), (1, [5])]) by decide] at g3
  refine g3.mono ?_
  rintro e w4 ⟨rfl, hs4⟩
  have s4 := hide hs4
  clear hs4 s3 g3
  go_wp2_with fail
  have s4' := s4.out.keep (Upd.alloc (fun _ => False) w4 (.cells #[.int .i64 29] 3))
  have g4 := s4'.collect (some ⟨w4.heap.size, 0, none⟩) 1 1 [29] (Rd.lit w4 #[.int .i64 29] 3 rfl rfl 1) rfl (by decide) (by intro x hx; simp at hx; subst hx; exact ⟨by decide, by decide⟩)
  rw [show collRes [(1, [8, 16]), (1, [5])] [29] = some ([(1, [21]), (1, [8, 16])], [5]) by decide] at g4
  refine g4.mono ?_
  rintro e w5 ⟨A, c, rfl, hs5, ho⟩
  have s5 := hide hs5
  obtain ⟨A1, c1, hv, _, _, _, _, hA⟩ := own_form ho
  obtain ⟨g, hg⟩ := own_some ho (by decide)
  obtain ⟨hAg, _, _, _, hcell⟩ := hA g hg
  injection hv with hv1 hv2 hv3
  rw [← hv1] at hAg
  subst hAg
  have hc5 := hcell 0 (.int .i64 5) rfl
  clear hs5 s4 g4 s4' hA hcell hv1 hv2 hv3 hg ho
  simp only [List.length_cons, List.length_nil]
  go_wp2_with fail
  go_ret
  obtain ⟨_, _, _, hb⟩ := s5.out
  exact ⟨rb rfl, hb⟩
end Go.Proofs.Ytkmfohocicngaaa
