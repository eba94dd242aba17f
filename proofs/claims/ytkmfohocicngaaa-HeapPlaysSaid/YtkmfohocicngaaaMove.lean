/- The closure that moves a value, in Collect. -/
import Derived.Test.YtkmfohocicngaaaAlloc
import Derived.Test.YtkmfohocicngaaaMaps
import Derived.Test.YtkmfohocicngaaaRegion
import Derived.Test.YtkmfohocicngaaaCopy2
namespace Go.Proofs.Ytkmfohocicngaaa
open Go.RowKit

def goneF (T : Tl) (i : Int) : Option Value := if 0 ≤ i then (newAt T i.toNat).map (fun p => .int .i64 ((p : Int) * 8 + 5)) else none

/-- A footprint, and what has come in between two worlds. -/
def growT (F : Nat → Prop) (w w' : World) : Nat → Prop := fun k => F k ∨ (w.heap.size ≤ k ∧ k < w'.heap.size)

/-- The collector's memory in the middle of its work: the heap, the space to which it copies, what is gone where. -/
structure CS (w : World) (B b bt bg bm bh : Nat) (lim : Int) (L : List Ob) (T : Tl) (FH FT : Nat → Prop) : Prop where
  hp : HpL w B b lim L FH
  to_ : ∃ vw vb, Sp w B bt 56 #[vw, vb] vw vb (wordsOf (obs T)) (beginsOf (obs T)) ∧ (∀ k, vw.ownBlock = some k → FT k) ∧ (∀ k, vb.ownBlock = some k → FT k)
  ftt : FT bt
  ftm : FT bm
  gone : Blk w bg 62 #[.map (some bm)]
  map_ : MapF w bm (goneF T)
  box : Blk w bh 24 #[.pointer (some ⟨b, 0, none⟩)]
  fh : ∀ k, FT k → ¬ FH k
  lg : ∀ k, FT k → k ≠ bg
  lh : ∀ k, FT k → k ≠ bh
  tot : total (obs T) ≤ 4194304

theorem Try.law62 : Try.prog.underlying 62 = some (.map 3 3) := Try.underlying62
theorem Try.zero3 (w : World) : (zeroValue 3).run Try.prog w = .ok (.int .i64 0) w := by kernel_rfl

section
variable {w : World} {B b bt bg bm bh : Nat} {lim : Int} {L : List Ob} {T : Tl} {FH FT : Nat → Prop}

theorem CS.keep {S : Nat → Prop} {w' : World} (h : CS w B b bt bg bm bh lim L T FH FT) (hu : Upd S w w') (h1 : ∀ k, FH k → ¬ S k) (h2 : ∀ k, FT k → ¬ S k) (h3 : ¬ S bg) (h4 : ¬ S bh) : CS w' B b bt bg bm bh lim L T FH FT := by
  obtain ⟨vw, vb, hs, hv1, hv2⟩ := h.to_
  exact ⟨h.hp.keep hu h1, ⟨vw, vb, hs.keep hu (h2 _ h.ftt) (fun k hk => h2 _ (hv1 k hk)) (fun k hk => h2 _ (hv2 k hk)), hv1, hv2⟩, h.ftt, h.ftm, hu.blk h.gone h3, h.map_.keep hu (h2 _ h.ftm), hu.blk h.box h4, h.fh, h.lg, h.lh, h.tot⟩

def MovePost (w : World) (B b bt bg bm bh : Nat) (lim : Int) (L : List Ob) (FH FT : Nat → Prop) (r : Tl × Int) (e : Ending) (w' : World) : Prop :=
  e = .returned (.int .i64 r.2) ∧ CS w' B b bt bg bm bh lim L r.1 FH (growT FT w w') ∧ Upd FT w w'

theorem CS.grown (h : CS w B b bt bg bm bh lim L T FH FT) (hFH : ∀ k, FH k → k < w.heap.size) {w' : World} (h' : CS w' B b bt bg bm bh lim L T FH FT) : CS w' B b bt bg bm bh lim L T FH (growT FT w w') := by
  have hg := h.gone.lt
  have hb := h.box.lt
  obtain ⟨vw, vb, hs, hv1, hv2⟩ := h'.to_
  refine ⟨h'.hp, ⟨vw, vb, hs, fun k hk => .inl (hv1 k hk), fun k hk => .inl (hv2 k hk)⟩, .inl h'.ftt, .inl h'.ftm, h'.gone, h'.map_, h'.box, fun k hk hk' => ?_, fun k hk => ?_, fun k hk => ?_, h'.tot⟩
  · rcases hk with hk | hk
    · exact h.fh k hk hk'
    · have := hFH k hk'; omega
  · rcases hk with hk | hk
    · exact h.lg k hk
    · omega
  · rcases hk with hk | hk
    · exact h.lh k hk
    · omega

set_option maxHeartbeats 400000 in
theorem move_plain {v : Int} {a1 a2 a3 : Value} (w : World) (hp : isP v = false) :
    Calls Try.prog 36 #[.int .i64 v, a1, a2, a3] w fun e w' => e = .returned (.int .i64 v) ∧ w = w' := by
  go_enter Try.func36, Try.ntmps36
  go_wp2_with (go_at_call 37; refine (pointer_any _ _).mono ?_; rintro e w' ⟨rfl, rfl⟩)
  go_ret
  exact ⟨rfl, rfl⟩

set_option maxHeartbeats 400000 in
theorem move_gone {v q : Int} {a2 a3 : Value} {f : Int → Option Value} (hp : isP v = true) (h0 : 0 < v) (h1 : v ≤ 9223372036854775807) (hg : Blk w bg 62 #[.map (some bm)]) (hm : MapF w bm f) (hf : f (v / 8) = some (.int .i64 q)) :
    Calls Try.prog 36 #[.int .i64 v, .pointer (some ⟨bg, 0, none⟩), a2, a3] w fun e w' => e = .returned (.int .i64 q) ∧ w = w' := by
  have hgc : w.cell? ⟨bg, 0, none⟩ = some (.map (some bm)) := by rw [hg.cell]; rfl
  have hm' := hide hm
  have hf' := hide hf
  clear hm hf hg
  go_enter Try.func36, Try.ntmps36
  go_wp2_with (first | (go_at_call 37; refine (pointer_any _ _).mono ?_; rintro e w' ⟨rfl, rfl⟩) | (at_lookup; refine wpList_look rfl (.tmp 16) (.tmp 17) true rfl Try.underlying62 Try.underlying3 (Try.zero3 _) rfl hm'.out rfl ?_; rw [hf'.out]))
  go_ret
  exact ⟨ri rfl, rfl⟩

def NewPost (w : World) (k : Nat) (F : Nat → Prop) (B bt bm : Nat) (f : Int → Option Value) (ws : List Int) (bs : List Bool) (p : Int) (e : Ending) (w' : World) : Prop :=
  e = .returned (.int .i64 p) ∧ (∃ vw vb, Sp w' B bt 56 #[vw, vb] vw vb ws bs ∧ (∀ k, vw.ownBlock = some k → F k ∨ w.heap.size ≤ k) ∧ (∀ k, vb.ownBlock = some k → F k ∨ w.heap.size ≤ k)) ∧ MapF w' bm f ∧ Upd F w w'

theorem MapF.ne_blk {w : World} {f : Int → Option Value} {b' t' : Nat} {cs : Array Value} (h : MapF w bm f) (hb : Blk w b' t' cs) : bm ≠ b' := by
  rintro rfl
  obtain ⟨es, clock, h1, _⟩ := h
  unfold Blk at hb
  rw [h1] at hb
  simp at hb

theorem MapF.ne_own {w : World} {f : Int → Option Value} {e size n : Nat} {v : Value} {xs : List Value} (h : MapF w bm f) (hb : w.ownsRow B e size v n xs) : v.ownBlock ≠ some bm := by
  intro hk
  rcases hb.2 with ⟨rfl, _⟩ | ⟨g, cap, cur, rfl, _, hg, _⟩
  · simp [Value.ownBlock] at hk
  · obtain rfl : g = bm := by simpa [Value.ownBlock] using hk
    exact h.ne_blk (show Blk w g e cur from hg) rfl

set_option maxHeartbeats 1000000 in
theorem move_new {v : Int} {f : Int → Option Value} {k g c c' : Nat} {o : Ob} {vw vb : Value} {ws : List Int} {bs : List Bool} (hp : isP v = true) (h0 : 0 < v) (h1 : v ≤ 9223372036854775807) (hk : v / 8 = (k : Int)) (hg : Blk w bg 62 #[.map (some bm)]) (hbx : Blk w bh 24 #[.pointer (some ⟨b, 0, none⟩)]) (hm : MapF w bm f) (hf : f (k : Int) = none)
    (hc0 : w.cell? ⟨b, 0, none⟩ = some (.slice (some ⟨g, 0, none⟩) (total L) c)) (hcx : w.cell? ⟨g, k, none⟩ = some (.int .i64 (headOf o))) (hkl : k < total L) (htl : total L ≤ 140737488351232) (ho : WfO o)
    (hfl : ∀ q, Calls Try.prog 38 #[.pointer (some ⟨b, 0, none⟩), .int .i64 k] (w.drewN q) (FieldsIs (w.drewN q) g c' k o.2.length)) (hcc : k + 1 + o.2.length ≤ c') (hfc : ∀ j u, o.2[j]? = some u → w.cell? ⟨g, k + 1 + j, none⟩ = some (.int .i64 u))
    (hs : Sp w B bt 56 #[vw, vb] vw vb ws bs) (F : Nat → Prop) (hFb : F bt) (hFm : F bm) (hFw : ∀ k, vw.ownBlock = some k → F k) (hFv : ∀ k, vb.ownBlock = some k → F k) (hFg : ¬ F g) (hFbg : ¬ F bg)
    (hl1 : ws.length ≤ 4194304) (hl2 : bs.length ≤ 4194304) :
    Calls Try.prog 36 #[.int .i64 v, .pointer (some ⟨bg, 0, none⟩), .pointer (some ⟨bt, 0, none⟩), .pointer (some ⟨bh, 0, none⟩)] w (NewPost w k F B bt bm (fun j => if j = k then some (.int .i64 ((ws.length : Int) * 8 + 5)) else f j) (ws ++ headOf o :: o.2) (bs ++ true :: List.replicate o.2.length false) ((ws.length : Int) * 8 + 5)) := by
  have hgc : w.cell? ⟨bg, 0, none⟩ = some (.map (some bm)) := by rw [hg.cell]; rfl
  have hbc : w.cell? ⟨bh, 0, none⟩ = some (.pointer (some ⟨b, 0, none⟩)) := by rw [hbx.cell]; rfl
  obtain ⟨x, hx⟩ : ∃ x, x = headOf o := ⟨_, rfl⟩
  obtain ⟨hb0, hb1⟩ := head_bd ho
  rw [← hx] at hcx hb0 hb1 ⊢
  obtain ⟨n, hn⟩ : ∃ n, n = o.2.length := ⟨_, rfl⟩
  have hn1 : n ≤ 65535 := by rw [hn]; exact ho.len
  rw [← hn] at hfl hcc ⊢
  obtain ⟨F', hF'⟩ : ∃ F' : Nat → Prop, F' = fun k => k = bt ∨ vw.ownBlock = some k ∨ vb.ownBlock = some k := ⟨_, rfl⟩
  have hFF : ∀ k, F' k → F k := fun k hk => by
    rw [hF'] at hk
    rcases hk with rfl | hk | hk
    · exact hFb
    · exact hFw k hk
    · exact hFv k hk
  have hFm' : ¬ F' bm := fun hk => by
    rw [hF'] at hk
    rcases hk with hk | hk | hk
    · exact hm.ne_blk hs.blk hk
    · exact hm.ne_own hs.ow hk
    · exact hm.ne_own hs.ob hk
  have hlay := fun q => lay_any (hs.drewN q) F' (by rw [hF']; exact .inl rfl) (fun k hk => by rw [hF']; exact .inr (.inl hk)) (fun k hk => by rw [hF']; exact .inr (.inr hk)) x (some (fieldsA g c' k)) n (c' - (k + 1)) o.2
    (Rd.ints (fieldsA g c' k) (c' - (k + 1)) rfl hn.symm fun j u hu => by
      rw [show fieldsA g c' k = ⟨g, k + 1, none⟩ from if_neg (by have := (List.getElem?_eq_some_iff.1 hu).1; omega), Addr.add_lit]; exact hfc j u hu) hn
    (fun k' hk' hF => by
      have hkg : (fieldsA g c' k).block = k' := by simpa [Value.ownBlock] using hk'
      rw [fieldsA_block] at hkg
      exact hFg (hkg ▸ hFF k' hF)) hn1 hl1 hl2
  have HL := hide hlay
  have HFL := hide hfl
  have HM := hide hm
  have HF := hide hf
  have HG := hide hg
  have HS := hide hs
  have HFB := hide hFbg
  have HFm := hide hFm
  have HFF := hide hFF
  have HFm' := hide hFm'
  have HK := hide hk
  have HX := hide hx
  have HN := hide hn
  clear hlay hfl hm hf hg hs hFbg hFm hFw hFv hFb hfc ho hx hn hFg hbx hk hF' hFF hFm'
  go_enter Try.func36, Try.ntmps36
  go_wp2_with (first | (go_at_call 37; refine (pointer_any _ _).mono ?_; rintro e w' ⟨rfl, rfl⟩) | (at_lookup; rw [HK.out]; refine wpList_look rfl (.tmp 16) (.tmp 17) true rfl Try.underlying62 Try.underlying3 (Try.zero3 _) rfl HM.out rfl ?_; rw [HF.out]))
  refine wp_region_quiet_tail 13 (by kernel_rfl) (by kernel_rfl) ?_
  simp only [List.take_succ_cons, List.take_zero, List.drop_succ_cons, List.drop_zero]
  repeat (first | go_big_quiet_step ((go_at_call 38; exact Calls.quiet_of ((HFL.out _).mono fun _ _ h => h))) | quiet_step ((go_at_call 38; exact Calls.quiet_of ((HFL.out _).mono fun _ _ h => h))))
  refine wpQuiet_nil ?_
  rintro w1 ⟨nq, rfl⟩
  go_wp2_with (first
    | (go_at_call 34; refine (HL.out nq).mono ?_; rintro e w1 ⟨rfl, v1, v2, hS, hU, hq1, hq2⟩; have HS1 := hide hS; have HU := hide hU; have HQ1 := hide hq1; have HQ2 := hide hq2; clear hS hU hq1 hq2; have HM1 := hide ((HM.out.keep (Upd.drewN F' w nq) HFm'.out).keep HU.out HFm'.out); have hgc1 : w1.cell? ⟨bg, 0, none⟩ = some (.map (some bm)) := by rw [((HG.out).cell_keep ((Upd.drewN F' w nq).trans HU.out) (fun h => HFB.out (HFF.out _ h)))]; rfl)
    | (at_mapUpdate; refine wpList_put rfl (.tmp 39) (.tmp 40) (.tmp 41) rfl Try.underlying62 Try.underlying3 rfl HM1.out rfl rfl ?_; intro w2 hm2 hu2; have HM2 := hide hm2; have HU2 := hide hu2; clear hm2 hu2))
  go_ret
  have hU1 : Upd F' w w1 := (Upd.drewN F' w nq).trans HU.out
  refine ⟨ri rfl, ⟨v1, v2, HS1.out.keep HU2.out ?_ ?_ ?_, ?_, ?_⟩, HM2.out, (hU1.mono fun k _ => HFF.out k).trans (HU2.out.mono fun k _ hk => hk ▸ HFm.out)⟩
  · exact fun h => HM1.out.ne_blk HS1.out.blk h.symm
  · exact fun k hk h => HM1.out.ne_own HS1.out.ow (h ▸ hk)
  · exact fun k hk h => HM1.out.ne_own HS1.out.ob (h ▸ hk)
  · exact fun k hk => (HQ1.out k hk).imp (HFF.out k) id
  · exact fun k hk => (HQ2.out k hk).imp (HFF.out k) id
end
end Go.Proofs.Ytkmfohocicngaaa
