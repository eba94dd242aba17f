/- 'graph.Groups': its parts. -/
import Derived.Test.YtlfjmppmclgjnaaGP
namespace Go.Proofs.Ytlfjmppmclgjnaa
open Go.RowKit

theorem Try.maps : ElemOk Try.prog 42 37 (.map none) 1 8 := ⟨Try.underlying42, by kernel_rfl, rfl, by decide⟩
theorem Try.rows : ElemOk Try.prog 22 23 (.slice none 0 0) 1 24 := ⟨Try.underlying22, by kernel_rfl, rfl, by decide⟩

theorem make_maps (w : World) (s : Nat) (hs : s ≤ 100000) : (Instr.makeSlice 42 (.int .i64 (s : Int)) (.int .i64 (s : Int))).run Try.prog w = .ok (.slice (some ⟨w.heap.size, 0, none⟩) s s) (w.alloc (.cells (madeCells (Value.map none).cells (s * 1)) 37)) := by
  obtain ⟨i, hi0, hi1, hi2, hi3⟩ := info_parts Try.maps.hi
  have hb' : (i.bytes : Int) * (s : Int) ≤ 281474976710656 := by
    rw [hi3]
    omega
  have hrun := run_make (P := Try.prog) w 42 37 i _ Try.maps.ht hi0 hi1 .i64 .i64 s s (by omega) (by omega) hb' (by omega)
  rw [hi2] at hrun
  simpa only [Int.toNat_natCast] using hrun

def mapsPart (n : Nat) (mbs : List Nat) : Array Value := ((mbs.map fun b => Value.map (some b)) ++ List.replicate (n - mbs.length) (Value.map none)).toArray

theorem mapsPart_set {n : Nat} {mbs : List Nat} (h : mbs.length < n) (b : Nat) : (mapsPart n mbs).setIfInBounds mbs.length (.map (some b)) = mapsPart n (mbs ++ [b]) := by
  unfold mapsPart
  rw [List.setIfInBounds_toArray]
  congr 1
  rw [List.set_append_right _ _ (by simp), show n - mbs.length = (n - (mbs ++ [b]).length) + 1 by simp; omega, List.replicate_succ]
  simp

theorem mapsPart_get {n : Nat} {mbs : List Nat} (h : mbs.length < n) : (mapsPart n mbs)[mbs.length]? = some (.map none) := by
  unfold mapsPart
  rw [List.getElem?_toArray, List.getElem?_append_right (by simp), show n - mbs.length = (n - mbs.length - 1) + 1 by omega, List.replicate_succ]
  simp

theorem mapsPart_all {n : Nat} {mbs : List Nat} (h : mbs.length = n) : mapsPart n mbs = mapsArr mbs := by
  unfold mapsPart mapsArr
  rw [h]; simp

/-- The leads, as far as they are laid. -/
def LeadsTo (w wr : World) (lb n : Nat) (g : List (List Int)) (mbs : List Nat) : Prop :=
  w.heap.size ≤ lb ∧ Blk wr lb 37 (mapsPart n mbs) ∧ (∀ (i b : Nat), mbs[i]? = some b → MapF wr b (mapOf (ledB g [(i : Int)]))) ∧ Upd (fun _ => False) w wr

theorem MapF.ne_blk {w : World} {b lb : Nat} {f : Int → Option Value} {t : TypeId} {cs : Array Value} (h : MapF w b f) (hb : Blk w lb t cs) : b ≠ lb := by
  rintro rfl
  obtain ⟨es, clock, h1, _⟩ := h
  unfold Blk at hb
  rw [h1] at hb
  cases hb

theorem LeadsTo.keep {w wr w' : World} {lb n : Nat} {g : List (List Int)} {mbs : List Nat} (h : LeadsTo w wr lb n g mbs) (hu : Upd (fun _ => False) wr w') : LeadsTo w w' lb n g mbs :=
  ⟨h.1, hu.blk h.2.1 (fun h => h), fun i b hi => (h.2.2.1 i b hi).keep hu (fun h => h), h.2.2.2.trans hu⟩

theorem LeadsTo.next {w wr : World} {lb n : Nat} {g : List (List Int)} {mbs : List Nat} (h : LeadsTo w wr lb n g mbs) {b k : Nat} (hk : k = mbs.length) (hkn : k < n) (hb : MapF wr b (mapOf (ledB g [(k : Int)]))) : LeadsTo w (wr.setCell ⟨lb, k, none⟩ (.map (some b))) lb n g (mbs ++ [b]) := by
  have hu : Upd (fun q => q = lb) wr (wr.setCell ⟨lb, k, none⟩ (.map (some b))) := Upd.set _ _ _ rfl
  refine ⟨h.1, ?_, fun i b' hi => ?_, h.2.2.2.extend hu fun q hq => .inr (by subst hq; exact h.1)⟩
  · rw [← mapsPart_set (by omega), ← hk]
    exact h.2.1.set k _
  · rcases Nat.lt_or_ge i mbs.length with hi' | hi'
    · rw [List.getElem?_append_left hi'] at hi
      have := h.2.2.1 i b' hi
      exact this.keep hu (this.ne_blk h.2.1)
    · rw [List.getElem?_append_right hi'] at hi
      have : i = k := by
        rcases Nat.lt_or_ge i (mbs.length + 1) with h3 | h3
        · omega
        · rw [List.getElem?_eq_none (by simp; omega)] at hi; simp at hi
      subst this
      rw [hk, Nat.sub_self] at hi
      obtain rfl : b = b' := by simpa using hi
      exact hb.keep hu (hb.ne_blk h.2.1)

theorem LeadsTo.all {w wr : World} {lb n : Nat} {g : List (List Int)} {mbs : List Nat} (h : LeadsTo w wr lb n g mbs) (hn : n = g.length) (hm : mbs.length = n) : LeadsAt wr lb g mbs :=
  ⟨by rw [← mapsPart_all hm]; exact h.2.1, by rw [hm, hn], h.2.2.1⟩

/-- Rows of the call's own, as a list of lists. -/
def GOwn (w : World) (B : Nat) (vals : List Value) (gs : List (List Int)) : Prop :=
  vals.length = gs.length ∧ ∀ (i : Nat) (ys : List Int), gs[i]? = some ys → ∃ a m c, vals[i]? = some (.slice a m c) ∧ m = ys.length ∧ w.ownsRow B 3 1 (.slice a m c) m (ys.map (.int .i64))

theorem GOwn.keep {T : Nat → Prop} {w w' : World} {B : Nat} {vals : List Value} {gs : List (List Int)} (h : GOwn w B vals gs) (hu : Upd T w w') (hT : ∀ (v : Value) (n : Nat) (xs : List Value), w.ownsRow B 3 1 v n xs → ∀ k, v.ownBlock = some k → ¬ T k) : GOwn w' B vals gs :=
  ⟨h.1, fun i ys hi => by
    obtain ⟨a, m, c, h1, h2, h3⟩ := h.2 i ys hi
    exact ⟨a, m, c, h1, h2, hu.own h3 (hT _ _ _ h3)⟩⟩

theorem GOwn.snoc {w : World} {B : Nat} {vals : List Value} {gs : List (List Int)} (h : GOwn w B vals gs) {a : Option Addr} {m c : Nat} {ys : List Int} (hm : m = ys.length) (ho : w.ownsRow B 3 1 (.slice a m c) m (ys.map (.int .i64))) : GOwn w B (vals ++ [.slice a m c]) (gs ++ [ys]) :=
  ⟨by simp [h.1], fun i zs hi => by
    rcases Nat.lt_or_ge i gs.length with hl | hl
    · rw [List.getElem?_append_left hl] at hi
      rw [List.getElem?_append_left (by rw [h.1]; exact hl)]
      exact h.2 i zs hi
    · rw [List.getElem?_append_right hl] at hi
      rw [List.getElem?_append_right (by rw [h.1]; exact hl), h.1]
      rcases Nat.lt_or_ge (i - gs.length) 1 with h3 | h3
      · have e : i - gs.length = 0 := by omega
        rw [e] at hi ⊢
        obtain rfl : ys = zs := by simpa using hi
        exact ⟨a, m, c, rfl, hm, ho⟩
      · rw [List.getElem?_eq_none (by simp; omega)] at hi; simp at hi⟩

theorem own_ne_rows {w : World} {B B' e e' n n' size size' : Nat} {v v' : Value} {xs xs' : List Value} (h : w.ownsRow B e size v n xs) (h' : w.ownsRow B' e' size' v' n' xs') (he : e ≠ e') : ∀ k, v.ownBlock = some k → ¬ v'.ownBlock = some k := by
  intro k hk hk'
  rcases h.2 with ⟨rfl, _⟩ | ⟨g, cap, cur, rfl, _, hg, _⟩
  · simp [Value.ownBlock] at hk
  · rcases h'.2 with ⟨rfl, _⟩ | ⟨g', cap', cur', rfl, _, hg', _⟩
    · simp [Value.ownBlock] at hk'
    · obtain rfl : g = k := by simpa [Value.ownBlock] using hk
      obtain rfl : g' = g := by simpa [Value.ownBlock] using hk'
      rw [hg] at hg'
      injection hg' with hg'
      injection hg' with _ h3
      exact he h3

/-- What lies about while the groups are made. -/
structure GW (w wr : World) (lb db n m : Nat) (A : Option Addr) (c : Nat) (g : List (List Int)) (mbs : List Nat) (done : Nat → Bool) (gs : List (List Int)) (vals : List Value) : Prop where
  leads : LeadsAt wr lb g mbs
  blk : Blk wr db 4 (boolArr n done)
  upd : Upd (fun _ => False) w wr
  lo : w.heap.size ≤ db
  own : wr.ownsRow w.heap.size 23 1 (.slice A m c) m vals
  rows : GOwn wr w.heap.size vals gs
  num : m = gs.length

theorem GW.keep {w wr w' : World} {lb db n m : Nat} {A : Option Addr} {c : Nat} {g : List (List Int)} {mbs : List Nat} {done : Nat → Bool} {gs : List (List Int)} {vals : List Value} (h : GW w wr lb db n m A c g mbs done gs vals) (hu : Upd (fun _ => False) wr w') : GW w w' lb db n m A c g mbs done gs vals :=
  ⟨h.leads.keep hu, hu.blk h.blk (fun h => h), h.upd.trans hu, h.lo, hu.own h.own (fun _ _ h => h), h.rows.keep hu (fun _ _ _ _ _ _ h => h), h.num⟩

theorem LeadsAt.mark {w : World} {lb db n : Nat} {g : List (List Int)} {mbs : List Nat} {done : Nat → Bool} (h : LeadsAt w lb g mbs) (hd : Blk w db 4 (boolArr n done)) (i : Nat) (u : Value) : LeadsAt (w.setCell ⟨db, i, none⟩ u) lb g mbs := by
  have hu : Upd (fun q => q = db) w (w.setCell ⟨db, i, none⟩ u) := Upd.set _ _ _ rfl
  exact ⟨hu.blk h.1 (fun e => h.1.ne hd (by decide) e), h.2.1, fun j b hj => (h.2.2 j b hj).keep hu ((h.2.2 j b hj).ne_blk hd)⟩

theorem GW.mark {w wr : World} {lb db n m : Nat} {A : Option Addr} {c : Nat} {g : List (List Int)} {mbs : List Nat} {done : Nat → Bool} {gs : List (List Int)} {vals : List Value} (h : GW w wr lb db n m A c g mbs done gs vals) (i : Nat) : GW w (wr.setCell ⟨db, i, none⟩ (.bool true)) lb db n m A c g mbs (fun y => done y || y == i) gs vals := by
  have hu : Upd (fun q => q = db) wr (wr.setCell ⟨db, i, none⟩ (.bool true)) := Upd.set _ _ _ rfl
  refine ⟨h.leads.mark h.blk i _, by rw [← boolArr_set]; exact h.blk.set i _, h.upd.extend hu fun q hq => .inr (by subst hq; exact h.lo), h.lo, hu.own h.own (fun k hk e => own_ne_blk h.own h.blk (by decide) k hk e), h.rows.keep hu (fun v k xs ho q hq e => own_ne_blk ho h.blk (by decide) q hq e), h.num⟩

theorem GW.app {w wr w' : World} {lb db n m : Nat} {A A' : Option Addr} {c c' : Nat} {g : List (List Int)} {mbs : List Nat} {done : Nat → Bool} {gs : List (List Int)} {vals : List Value} (h : GW w wr lb db n m A c g mbs done gs vals) {a : Option Addr} {p cp : Nat} {ys : List Int} (hp : p = ys.length) (ho : wr.ownsRow w.heap.size 3 1 (.slice a p cp) p (ys.map (.int .i64)))
    (hown : w'.ownsRow w.heap.size 23 1 (.slice A' (m + 1) c') (m + 1) (vals ++ [.slice a p cp])) (hu : Upd (fun k => (Value.slice A m c).ownBlock = some k) wr w') : GW w w' lb db n (m + 1) A' c' g mbs done (gs ++ [ys]) (vals ++ [.slice a p cp]) := by
  have hne : ∀ (v : Value) (k : Nat) (xs : List Value), wr.ownsRow w.heap.size 3 1 v k xs → ∀ q, v.ownBlock = some q → ¬ (Value.slice A m c).ownBlock = some q := fun v k xs ho2 => own_ne_rows ho2 h.own (by decide)
  refine ⟨⟨hu.blk h.leads.1 (fun e => own_ne_blk h.own h.leads.1 (by decide) _ e rfl), h.leads.2.1, fun j b hj => (h.leads.2.2 j b hj).keep hu (fun e => (h.leads.2.2 j b hj).ne_own h.own _ e rfl)⟩, hu.blk h.blk (fun e => own_ne_blk h.own h.blk (by decide) _ e rfl), h.upd.extend hu fun q hq => .inr (own_lo h.own hq), h.lo, hown, (h.rows.keep hu hne).snoc hp (hu.own ho (hne _ _ _ ho)), by rw [h.num]; simp⟩

/-- What 'Groups' answers. -/
noncomputable def groupsR (g : List (List Int)) : Option (List (List Int)) := if wrongB g [] then none else some (groupsAll g)

def ListsN (w : World) (r : Option (List (List Int))) (e : Ending) (w' : World) : Prop :=
  match r with
  | none => e = .returned (.tuple #[.slice none 0 0, .int .i64 1]) ∧ Upd (fun _ => False) w w'
  | some gs => ∃ A n c, e = .returned (.tuple #[.slice A n c, .int .i64 0]) ∧ Hid (n = gs.length) ∧ Hid (GRd w' A n gs ∧ Upd (fun _ => False) w w')

theorem GW.read {w wr : World} {lb db n m : Nat} {A : Option Addr} {c : Nat} {g : List (List Int)} {mbs : List Nat} {done : Nat → Bool} {gs : List (List Int)} {vals : List Value} (h : GW w wr lb db n m A c g mbs done gs vals) (hi : ∀ xs ∈ gs, ∃ k, k < g.length ∧ xs = classL g k) (hg : g.length ≤ 1000) : GRd wr A m gs := by
  refine ⟨h.num, fun i xs hx => ?_⟩
  obtain ⟨a, p, cp, h1, h2, h3⟩ := h.rows.2 i xs hx
  have hlt : i < gs.length := (List.getElem?_eq_some_iff.1 hx).1
  obtain ⟨A1, c1, hv, _, _, _, _, hA⟩ := own_form h.own
  obtain ⟨ga, hga⟩ := own_some h.own (by have := h.num; omega)
  obtain ⟨hAg, _, _, _, hcc⟩ := hA ga hga
  injection hv with hv1 hv2 hv3
  obtain ⟨k, hk, rfl⟩ := hi xs (List.mem_of_getElem? hx)
  have hlen : (classL g k).length ≤ 1000 := Nat.le_trans (List.length_filter_le _ _) (Nat.le_trans (reachL_le g _) hg)
  refine ⟨ga, 0, none, a, p, cp, by rw [hv1, hAg], ?_, Rd.of_own h3, h2, by omega, fun x hx => ?_⟩
  · have := hcc i _ h1
    rw [Addr.add_lit, Nat.zero_add]
    exact this
  · obtain ⟨h0, h1, _⟩ := class_mem.1 hx
    unfold I64
    omega

end Go.Proofs.Ytlfjmppmclgjnaa
