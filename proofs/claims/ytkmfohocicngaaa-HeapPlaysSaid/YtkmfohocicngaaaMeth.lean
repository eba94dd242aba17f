/- The heap's methods that read: Kind, Fields, Used; and Set. -/
import Derived.Test.YtkmfohocicngaaaRead2
namespace Go.Proofs.Ytkmfohocicngaaa
open Go.RowKit

/-- Block b holds a heap of lim words whose objects are L; it and its rows are blocks of F. -/
def HpL (w : World) (B b : Nat) (lim : Int) (L : List Ob) (F : Nat → Prop) : Prop :=
  ∃ vw vb, Hp w B b vw vb lim (wordsOf L) (beginsOf L) ∧ WfL L ∧ F b ∧ (∀ k, vw.ownBlock = some k → F k) ∧ (∀ k, vb.ownBlock = some k → F k)

theorem HpL.drewN {w : World} {B b : Nat} {lim : Int} {L : List Ob} {F : Nat → Prop} (h : HpL w B b lim L F) (n : Nat) : HpL (w.drewN n) B b lim L F := by
  obtain ⟨vw, vb, h1, h2⟩ := h
  exact ⟨vw, vb, h1.drewN n, h2⟩

theorem Sp.keep {S : Nat → Prop} {w w' : World} {B b t : Nat} {cs : Array Value} {vw vb : Value} {ws : List Int} {bs : List Bool} (h : Sp w B b t cs vw vb ws bs) (hu : Upd S w w')
    (h1 : ¬ S b) (h2 : ∀ k, vw.ownBlock = some k → ¬ S k) (h3 : ∀ k, vb.ownBlock = some k → ¬ S k) : Sp w' B b t cs vw vb ws bs :=
  ⟨hu.blk h.blk h1, h.le, h.c0, h.c1, hu.own h.ow h2, hu.own h.ob h3, h.t3, h.t4, h.lw, h.lb⟩

theorem HpL.keep {S : Nat → Prop} {w w' : World} {B b : Nat} {lim : Int} {L : List Ob} {F : Nat → Prop} (h : HpL w B b lim L F) (hu : Upd S w w') (hS : ∀ k, F k → ¬ S k) : HpL w' B b lim L F := by
  obtain ⟨vw, vb, h1, h2, h3, h4, h5⟩ := h
  exact ⟨vw, vb, ⟨h1.sp.keep hu (hS _ h3) (fun k hk => hS _ (h4 k hk)) (fun k hk => hS _ (h5 k hk)), h1.l0, h1.l1, h1.len⟩, h2, h3, h4, h5⟩

theorem HpL.weak {w : World} {B b : Nat} {lim : Int} {L : List Ob} {F F' : Nat → Prop} (h : HpL w B b lim L F) (hF : ∀ k, F k → F' k) : HpL w B b lim L F' := by
  obtain ⟨vw, vb, h1, h2, h3, h4, h5⟩ := h
  exact ⟨vw, vb, h1, h2, hF _ h3, fun k hk => hF _ (h4 k hk), fun k hk => hF _ (h5 k hk)⟩

theorem used_any {w : World} {B b : Nat} {lim : Int} {L : List Ob} {F : Nat → Prop} (h : HpL w B b lim L F) :
    Calls Try.prog 12 #[.pointer (some ⟨b, 0, none⟩)] w fun e w' => e = .returned (.int .i64 (total L)) ∧ w = w' := by
  obtain ⟨vw, vb, h1, _⟩ := h
  exact used_made h1

theorem rightB_begins (L : List Ob) (v : Int) : rightB (beginsOf L) v = rightL L v := by
  unfold rightB rightL
  rw [atL_begins]

theorem object_any {w : World} {B b : Nat} {lim : Int} {L : List Ob} {F : Nat → Prop} (h : HpL w B b lim L F) (p : Int) (hp : I64 p) :
    Calls Try.prog 40 #[.pointer (some ⟨b, 0, none⟩), .int .i64 p] w fun e w' => e = .returned (.tuple #[.int .i64 (p.tdiv 8), .bool (objL L p).isSome]) ∧ w = w' := by
  obtain ⟨vw, vb, h1, _⟩ := h
  have := object_made h1 p hp
  rw [rightB_begins, ← objL_some] at this
  exact this

theorem objL_place {L : List Ob} {p : Int} {o : Ob} (h : objL L p = some o) : ∃ k : Nat, p.tdiv 8 = (k : Int) ∧ p = 8 * (k : Int) + 5 ∧ (p / 8).toNat = k ∧ atL L k = some o := by
  unfold objL at h
  split at h
  · rename_i hc
    obtain ⟨h1, h2⟩ := hc
    have h5 : p % 8 = 5 := by simpa [isP] using h1
    refine ⟨(p / 8).toNat, ?_, by omega, rfl, h⟩
    rw [Int.tdiv_eq_ediv_of_nonneg (by omega)]; omega
  · cases h

theorem rt2 {k k' : IntKind} {a b c d : Int} (h : a = b) (h' : c = d) : Ending.returned (.tuple #[.int k a, .int k' c]) = .returned (.tuple #[.int k b, .int k' d]) := by rw [h, h']

def kindL (L : List Ob) (p : Int) : Int × Int := match objL L p with | some o => (o.1, 0) | none => (0, 1)

set_option maxHeartbeats 400000 in
theorem kind_no {w : World} {A : Option Addr} {p q : Int} (hob : Calls Try.prog 40 #[.pointer A, .int .i64 p] w fun e w' => e = .returned (.tuple #[.int .i64 q, .bool false]) ∧ w = w') :
    Calls Try.prog 24 #[.pointer A, .int .i64 p] w fun e w' => e = .returned (.tuple #[.int .i64 0, .int .i64 1]) ∧ w = w' := by
  go_enter Try.func24, Try.ntmps24
  go_wp2_with (go_at_call 40; refine hob.mono ?_; rintro e w' ⟨rfl, rfl⟩)
  go_ret2
  exact ⟨rfl, rfl⟩

set_option maxHeartbeats 400000 in
theorem kind_yes {w : World} {b g k n c : Nat} {p x : Int} (hob : Calls Try.prog 40 #[.pointer (some ⟨b, 0, none⟩), .int .i64 p] w fun e w' => e = .returned (.tuple #[.int .i64 (k : Int), .bool true]) ∧ w = w')
    (hc0 : w.cell? ⟨b, 0, none⟩ = some (.slice (some ⟨g, 0, none⟩) n c)) (hcx : w.cell? ⟨g, k, none⟩ = some (.int .i64 x)) (hk : k < n) (_hn : n ≤ 140737488351232) (_h0 : 0 ≤ x) (_h1 : x ≤ 1048575) :
    Calls Try.prog 24 #[.pointer (some ⟨b, 0, none⟩), .int .i64 p] w fun e w' => e = .returned (.tuple #[.int .i64 (x % 16), .int .i64 0]) ∧ w = w' := by
  go_enter Try.func24, Try.ntmps24
  go_wp2_with (go_at_call 40; refine hob.mono ?_; rintro e w' ⟨rfl, rfl⟩)
  go_ret2
  exact ⟨rfl, rfl⟩

/-- What an object's place gives a walk. -/
theorem HpL.place {w : World} {B b : Nat} {lim : Int} {L : List Ob} {F : Nat → Prop} (h : HpL w B b lim L F) {k : Nat} {o : Ob} (hat : atL L k = some o) :
    ∃ vw vb g c, Hp w B b vw vb lim (wordsOf L) (beginsOf L) ∧ WfO o ∧ vw.ownBlock = some g ∧ F g ∧ w.cell? ⟨b, 0, none⟩ = some (.slice (some ⟨g, 0, none⟩) (total L) c) ∧ w.cell? ⟨g, k, none⟩ = some (.int .i64 (headOf o)) ∧ k < total L ∧ total L ≤ 140737488351232 ∧
      0 ≤ headOf o ∧ headOf o ≤ 1048575 ∧ k + 1 + o.2.length ≤ total L ∧ (wordsOf L)[k]? = some (headOf o) ∧ (∀ j u, o.2[j]? = some u → w.cell? ⟨g, k + 1 + j, none⟩ = some (.int .i64 u)) ∧ (∀ j, w.frozen? ⟨g, j, none⟩ = false) := by
  obtain ⟨vw, vb, h1, h2, _, h4, _⟩ := h
  obtain ⟨hw, hf, hle, hm⟩ := atL_words hat
  obtain ⟨hb0, hb1⟩ := head_bd (h2.each o hm)
  obtain ⟨A, c, hv, hnc, hcm, hl, hA0, hA⟩ := own_form h1.sp.ow
  have hkl : k < (wordsOf L).length := (List.getElem?_eq_some_iff.1 hw).1
  obtain ⟨g, hg⟩ := own_some h1.sp.ow (by omega)
  obtain ⟨rfl, _, _, hfr, hcell⟩ := hA g hg
  refine ⟨vw, vb, g, c, h1, h2.each o hm, hg, h4 g hg, ?_, hcell k _ (by simp [hw]), hkl, h1.sp.lw, hb0, hb1, hle, hw, fun j u hu => hcell _ _ ?_, hfr⟩
  · rw [h1.sp.blk.cell]; exact congrArg some hv
  · rw [List.getElem?_map, hf j (List.getElem?_eq_some_iff.1 hu).1, hu]; rfl

theorem kind_any {w : World} {B b : Nat} {lim : Int} {L : List Ob} {F : Nat → Prop} (h : HpL w B b lim L F) (p : Int) (hp : I64 p) :
    Calls Try.prog 24 #[.pointer (some ⟨b, 0, none⟩), .int .i64 p] w fun e w' => e = .returned (.tuple #[.int .i64 (kindL L p).1, .int .i64 (kindL L p).2]) ∧ w = w' := by
  have hob := object_any h p hp
  unfold kindL
  cases ho : objL L p with
  | none =>
    rw [ho] at hob
    exact kind_no hob
  | some o =>
    rw [ho] at hob
    obtain ⟨k, hd, _, _, hat⟩ := objL_place ho
    rw [hd] at hob
    obtain ⟨vw, vb, g, c, h1, ho1, _, _, hc0, hcx, hk, hn, h0, h1', _⟩ := h.place hat
    have := kind_yes hob hc0 hcx hk hn h0 h1'
    rw [head_mod ho1] at this
    exact this

def fieldsL (L : List Ob) (p : Int) : Option (List Int) := (objL L p).map (·.2)

set_option maxHeartbeats 400000 in
theorem fields_no {w : World} {A : Option Addr} {p q : Int} (hob : Calls Try.prog 40 #[.pointer A, .int .i64 p] w fun e w' => e = .returned (.tuple #[.int .i64 q, .bool false]) ∧ w = w') :
    Calls Try.prog 14 #[.pointer A, .int .i64 p] w fun e w' => e = .returned (.tuple #[.slice none 0 0, .int .i64 1]) ∧ w = w' := by
  go_enter Try.func14, Try.ntmps14
  go_wp2_with (go_at_call 40; refine hob.mono ?_; rintro e w' ⟨rfl, rfl⟩)
  go_ret2
  exact ⟨rfl, rfl⟩

theorem Try.ints : ElemOk Try.prog 22 3 (.int .i64 0) 1 8 := ⟨Try.underlying22, by kernel_rfl, rfl, by decide⟩
theorem Try.bools : ElemOk Try.prog 54 4 (.bool false) 1 1 := ⟨Try.underlying54, by kernel_rfl, rfl, by decide⟩

/-- A new row that the call made and hands back. -/
def NewInts (w : World) (xs : List Int) (e : Ending) (w' : World) : Prop :=
  ∃ v, e = .returned v ∧ v.ownBlock ≠ none ∧ w'.ownsRow w.heap.size 3 1 v xs.length (xs.map (.int .i64)) ∧ Below w.heap.size w w'

theorem Rd.ints {w : World} {v : Value} {n : Nat} {xs : List Int} (ad : Addr) (c : Nat) (hv : v = .slice (some ad) n c) (hn : xs.length = n) (hx : ∀ j u, xs[j]? = some u → w.cell? (ad.add j) = some (.int .i64 u)) : Rd w v 1 n (xs.map (.int .i64)) := by
  refine ⟨some ad, c, hv, by simpa using hn, fun h => by simp at h, fun ad' h j u hu => ?_⟩
  obtain rfl := Option.some.inj h
  rw [List.getElem?_map, Option.map_eq_some_iff] at hu
  obtain ⟨y, hy, rfl⟩ := hu
  exact hx j y hy

set_option maxHeartbeats 400000 in
theorem clone_any {w : World} (ad : Addr) (c n : Nat) (xs : List Int) (hx : Rd w (.slice (some ad) n c) 1 n (xs.map (.int .i64))) (hl : n ≤ 65535) (hxs : n = xs.length) :
    Calls Try.prog 41 #[.slice (some ad) n c] w (NewInts w xs) := by
  have hm : Hid (Rd (w.alloc (.cells #[] 3)) (.slice (some ad) n c) 1 n (xs.map (.int .i64))) := hx.keep (S := fun _ => False) (Upd.alloc _ _ _) (fun _ _ h => h)
  have hq : ∀ (w : World) (a : Option Addr) (n c n' c' : Nat), (binOp .eql 22 (.slice a n c) (.slice none n' c')).run Try.prog w = .ok (.bool a.isNone) w := fun w a n c n' c' => Lib.run_eql_slice_nil w _ _ a n c n' c' Try.underlying22
  have HX : Hid (n = xs.length) := hxs
  have hbs : Hid (Below w.heap.size w (w.alloc (.cells #[] 3))) := (Below.refl _ _).alloc (Nat.le_refl _) _
  clear hx hxs
  go_enter Try.func41, Try.ntmps41
  go_wp2_with (at_builtin; refine wpList_app (v := .slice (some ⟨w.heap.size, 0, none⟩) 0 0) Try.ints rfl (.tmp 5) (.tmp 6) rfl rfl (World.ownsRow_made w #[] 0 (Nat.le_refl _) (by decide) rfl) rfl hm.out (ints_oneCell _ _) n (by omega) (by omega) (by omega) (by simp) ?_; intro A' c' w' hown hu hat hne)
  go_ret
  refine ⟨_, rfl, hne (by simp [Value.ownBlock]), ?_, hbs.out.trans (hu.below (by simp) (fun k hk => ?_))⟩
  · rw [← HX.out]; simpa using hown
  · simp [Value.ownBlock] at hk; omega

/-- Fields answers nil and an error, or new memory that reads as the object's fields. -/
def FieldsPost (w : World) (r : Option (List Int)) (e : Ending) (w' : World) : Prop :=
  match r with
  | none => e = .returned (.tuple #[.slice none 0 0, .int .i64 1]) ∧ w = w'
  | some xs => ∃ v, e = .returned (.tuple #[v, .int .i64 0]) ∧ v.ownBlock ≠ none ∧ w'.ownsRow w.heap.size 3 1 v xs.length (xs.map (.int .i64)) ∧ Below w.heap.size w w'

set_option maxHeartbeats 400000 in
theorem fields_yes {w : World} {b k : Nat} {p : Int} {xs : List Int} {vw : Value} (hob : Calls Try.prog 40 #[.pointer (some ⟨b, 0, none⟩), .int .i64 p] w fun e w' => e = .returned (.tuple #[.int .i64 (k : Int), .bool true]) ∧ w = w')
    (hf : Calls Try.prog 38 #[.pointer (some ⟨b, 0, none⟩), .int .i64 k] w (FieldsAt vw k xs.length w))
    (hb : ∀ g, vw.ownBlock = some g → g < w.heap.size) (hx : ∀ g, vw.ownBlock = some g → ∀ j u, xs[j]? = some u → w.cell? ⟨g, k + 1 + j, none⟩ = some (.int .i64 u)) (hl : xs.length ≤ 65535) (hbb : w.cell? ⟨b, 0, none⟩ ≠ none) :
    Calls Try.prog 14 #[.pointer (some ⟨b, 0, none⟩), .int .i64 p] w (FieldsPost w (some xs)) := by
  have hcl : Hid (∀ g ad c m, vw.ownBlock = some g → ad.block < w.heap.size → (0 < xs.length → ad = ⟨g, k + 1, none⟩) → Calls Try.prog 41 #[.slice (some ad) xs.length c] (w.drewN m) (NewInts (w.drewN m) xs)) := by
    intro g ad c m hg ha hn
    refine clone_any ad c xs.length xs (Rd.ints ad c rfl rfl fun j u hu => ?_) hl rfl
    rw [hn (by have := (List.getElem?_eq_some_iff.1 hu).1; omega), Addr.add_lit]
    exact hx g hg j u hu
  clear hx hl
  go_enter Try.func14, Try.ntmps14
  go_wp2_with (go_at_call 40; refine hob.mono ?_; rintro e w' ⟨rfl, rfl⟩)
  refine hf.mono ?_
  rintro e w' ⟨g, ad, c, hg, rfl, hnc, hag, hn, m, rfl⟩
  have hcl1 := hcl.out g ad c m hg (by rw [hag]; exact hb g hg) hn
  have HG : Hid (vw.ownBlock = some g) := hg
  have HA : Hid (ad.block = g) := hag
  clear hg hag
  go_wp2_with (go_at_call 41; refine hcl1.mono ?_; rintro e w' ⟨v, rfl, hv, hown, hbl⟩)
  go_ret2
  exact ⟨v, rfl, hv, hown, ⟨hbl.os, hbl.tape, hbl.output, hbl.size, hbl.block⟩⟩

theorem fields_made {w : World} {B b : Nat} {lim : Int} {L : List Ob} {F : Nat → Prop} (h : HpL w B b lim L F) (p : Int) (hp : I64 p) :
    Calls Try.prog 14 #[.pointer (some ⟨b, 0, none⟩), .int .i64 p] w (FieldsPost w (fieldsL L p)) := by
  have hob := object_any h p hp
  unfold fieldsL
  cases ho : objL L p with
  | none =>
    rw [ho] at hob
    exact fields_no hob
  | some o =>
    rw [ho] at hob
    obtain ⟨k, hd, _, _, hat⟩ := objL_place ho
    rw [hd] at hob
    obtain ⟨vw, vb, g, c, h1, ho1, hvw, _, hc0, hcx, hk, hn, h0, h1', hle, hw, hfc, _⟩ := h.place hat
    have hf := fields_any h1.sp k (headOf o) o.2.length hw h0 (by omega) (head_div ho1) hle
    refine fields_yes (xs := o.2) hob hf (fun g' hg' => ?_) (fun g' hg' => ?_) ho1.len (by rw [hc0]; simp)
    · obtain rfl : g = g' := by rw [hvw] at hg'; exact Option.some.inj hg'
      exact World.block_lt_of_cell? w _ hcx
    · obtain rfl : g = g' := by rw [hvw] at hg'; exact Option.some.inj hg'
      exact hfc

end Go.Proofs.Ytkmfohocicngaaa
