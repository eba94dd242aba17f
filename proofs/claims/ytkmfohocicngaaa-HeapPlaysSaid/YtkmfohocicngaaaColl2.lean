/- Collect, walked. -/
import Derived.Test.YtkmfohocicngaaaColl
namespace Go.Proofs.Ytkmfohocicngaaa
open Go.RowKit

def CollectPost (w : World) (B b : Nat) (lim : Int) (FH : Nat → Prop) (r : Option (List Ob × List Int)) (e : Ending) (w' : World) : Prop :=
  match r with
  | none => e = .returned (.tuple #[.slice none 0 0, .int .i64 1]) ∧ Upd (fun _ => False) w w'
  | some (L', os) => ∃ v F', e = .returned (.tuple #[v, .int .i64 0]) ∧ w'.ownsRow w.heap.size 3 1 v os.length (os.map (.int .i64)) ∧ HpL w' B b lim L' F' ∧ (∀ k, F' k → FH k ∨ w.heap.size ≤ k) ∧ (∀ k, v.ownBlock = some k → ¬ F' k) ∧ Upd FH w w'

section
variable {w : World} {B b : Nat} {lim : Int} {L : List Ob} {FH : Nat → Prop}

theorem any_right35 (h : HpL w B b lim L FH) (A : Option Addr) (n c : Nat) (xs : List Int) (hx : Rd w (.slice A n c) 1 n (xs.map (.int .i64))) (hn : n = xs.length) (hl : n ≤ 9223372036854775806) (hi : ∀ x ∈ xs, I64 x) :
    Calls Try.prog 31 #[.slice A n c, .func (.func 35) #[] #[.pointer (some ⟨w.heap.size, 0, none⟩)]] (w.alloc (.cells #[.pointer (some ⟨b, 0, none⟩)] 24)) fun e w' => e = .returned (.bool (xs.any fun x => !rightL L x)) ∧ w.alloc (.cells #[.pointer (some ⟨b, 0, none⟩)] 24) = w' := by
  obtain ⟨vw, vb, h1, _⟩ := h
  have := contains35 (hx.keep (S := fun _ => False) (Upd.alloc (fun _ => False) w (.cells #[.pointer (some ⟨b, 0, none⟩)] 24)) (fun _ _ h => h)) hn.symm hl (fun x => !rightB (beginsOf L) x) fun x hm => clos35 (h1.alloc (.cells #[.pointer (some ⟨b, 0, none⟩)] 24)).sp (by rw [(Blk.new w 24 _).cell]; rfl) x (hi x hm)
  simpa only [rightB_begins] using this

set_option maxHeartbeats 400000 in
theorem collect_no (h : HpL w B b lim L FH) (A : Option Addr) (n c : Nat)
    (hr : Calls Try.prog 31 #[.slice A n c, .func (.func 35) #[] #[.pointer (some ⟨w.heap.size, 0, none⟩)]] (w.alloc (.cells #[.pointer (some ⟨b, 0, none⟩)] 24)) fun e w' => e = .returned (.bool true) ∧ w.alloc (.cells #[.pointer (some ⟨b, 0, none⟩)] 24) = w') :
    Calls Try.prog 13 #[.pointer (some ⟨b, 0, none⟩), .slice A n c] w (CollectPost w B b lim FH none) := by
  obtain ⟨vw, vb, h1, _⟩ := h
  have hbm := bad_made (h1.alloc (.cells #[.pointer (some ⟨b, 0, none⟩)] 24))
  have hu := hide (Upd.alloc (fun _ => False) w (.cells #[.pointer (some ⟨b, 0, none⟩)] 24))
  go_enter Try.func13, Try.ntmps13
  go_wp2_with (first | (go_at_call 30; refine hbm.mono ?_; rintro e w' ⟨rfl, rfl⟩) | (go_at_call 31; refine hr.mono ?_; rintro e w' ⟨rfl, rfl⟩))
  go_ret2
  exact ⟨rfl, hu.out⟩

section
variable {wr : World} {bt bg bm bh : Nat} {T : Tl} {v : Value} {os : List Int}

def CallRel (w : World) (B b bt bg bm bh : Nat) (lim : Int) (L : List Ob) (T : Tl) (FH : Nat → Prop) (v : Value) (os : List Int) (p : Int) (e : Ending) (w' : World) : Prop :=
  e = .returned (.int .i64 p) ∧ CRel w w' B b bt bg bm bh lim L T FH v os

theorem CRel.call (h : CRel w wr B b bt bg bm bh lim L T FH v os) (hFH : ∀ k, FH k → k < w.heap.size) (x : Int) (hi : I64 x) (hr : rightL L x = true) (ht : total (obs (mv L T x).1) ≤ 4194304) :
    Calls Try.prog 36 #[.int .i64 x, .pointer (some ⟨bg, 0, none⟩), .pointer (some ⟨bt, 0, none⟩), .pointer (some ⟨bh, 0, none⟩)] wr (CallRel w B b bt bg bm bh lim L (mv L T x).1 FH v os (mv L T x).2) := by
  obtain ⟨FT, h1, h2, h3, h4, h5⟩ := h
  refine (move_any h1 (fun k hk => Nat.lt_of_lt_of_le (hFH k hk) h2.size) x hi hr ht).mono ?_
  rintro e w' ⟨he, g1, g2⟩
  have hs := g2.size
  have hs2 := h2.size
  refine ⟨he, growT FT wr w', g1, h2.extend g2 (fun q hq => .inr (h5 q hq).1), g2.own h3 h4, fun k hk hg => ?_, fun k hk => ?_⟩
  · rcases hg with hg | hg
    · exact h4 k hk hg
    · have := own_lt h3 hk; omega
  · rcases hk with hk | hk
    · have := h5 k hk; omega
    · omega

theorem CRel.start (h : HpL w B b lim L FH) (hFH : ∀ k, FH k → k < w.heap.size) :
    CRel w ((((w.alloc (.cells #[.pointer (some ⟨b, 0, none⟩)] 24)).alloc (.cells #[.slice none 0 0, .slice none 0 0] 56)).alloc (.map #[] 0)).alloc (.cells #[.map (some (w.heap.size + 1 + 1))] 62)) B b (w.heap.size + 1) (w.heap.size + 1 + 1 + 1) (w.heap.size + 1 + 1) w.heap.size lim L [] FH (.slice none 0 0) [] := by
  have hBb : B ≤ w.heap.size := by
    obtain ⟨vw, vb, h1, _⟩ := h
    have := h1.sp.le; have := h1.sp.blk.lt; omega
  have e1 : (w.alloc (.cells #[.pointer (some ⟨b, 0, none⟩)] 24)).heap.size = w.heap.size + 1 := by simp
  have e2 : ((w.alloc (.cells #[.pointer (some ⟨b, 0, none⟩)] 24)).alloc (.cells #[.slice none 0 0, .slice none 0 0] 56)).heap.size = w.heap.size + 1 + 1 := by simp
  have e3 : (((w.alloc (.cells #[.pointer (some ⟨b, 0, none⟩)] 24)).alloc (.cells #[.slice none 0 0, .slice none 0 0] 56)).alloc (.map #[] 0)).heap.size = w.heap.size + 1 + 1 + 1 := by simp
  have b1 := Blk.new w 24 #[.pointer (some ⟨b, 0, none⟩)]
  have b2 := Blk.new (w.alloc (.cells #[.pointer (some ⟨b, 0, none⟩)] 24)) 56 #[.slice none 0 0, .slice none 0 0]
  rw [e1] at b2
  have b3 := MapF.made ((w.alloc (.cells #[.pointer (some ⟨b, 0, none⟩)] 24)).alloc (.cells #[.slice none 0 0, .slice none 0 0] 56))
  rw [e2] at b3
  have b4 := Blk.new (((w.alloc (.cells #[.pointer (some ⟨b, 0, none⟩)] 24)).alloc (.cells #[.slice none 0 0, .slice none 0 0] 56)).alloc (.map #[] 0)) 62 #[.map (some (w.heap.size + 1 + 1))]
  rw [e3] at b4
  have u : ∀ (w : World) (o : Obj), Upd (fun _ => False) w (w.alloc o) := fun w o => Upd.alloc _ w o
  refine ⟨fun k => k = w.heap.size + 1 ∨ k = w.heap.size + 1 + 1, ⟨h.keep (((u _ _).trans (u _ _)).trans ((u _ _).trans (u _ _))) (fun _ _ h => h), ⟨.slice none 0 0, .slice none 0 0, ?_, fun k hk => by simp [Value.ownBlock] at hk, fun k hk => by simp [Value.ownBlock] at hk⟩, .inl rfl, .inr rfl, b4, ?_, ?_, ?_, ?_, ?_, by simp [obs, total, wordsOf]⟩, ((u _ _).trans (u _ _)).trans ((u _ _).trans (u _ _)), World.ownsRow_nil _ _ _ _, fun k hk => by simp [Value.ownBlock] at hk, fun k hk => by rcases hk with rfl | rfl <;> simp <;> omega⟩
  · exact ⟨((u _ _).trans (u _ _)).blk b2 (fun h => h), by omega, rfl, rfl, World.ownsRow_nil _ _ _ _, World.ownsRow_nil _ _ _ _, by decide, by decide, by simp [obs, wordsOf], by simp [obs, beginsOf]⟩
  · have := b3.keep (u _ (.cells #[.map (some (w.heap.size + 1 + 1))] 62)) (fun h => h)
    rw [show goneF [] = fun _ => none by funext i; simp [goneF, newAt]]
    exact this
  · exact ((u _ _).trans ((u _ _).trans (u _ _))).blk b1 (fun h => h)
  · intro k hk hF
    have := hFH k hF
    rcases hk with rfl | rfl <;> omega
  · intro k hk
    rcases hk with rfl | rfl <;> omega
  · intro k hk
    rcases hk with rfl | rfl <;> omega
end

/-- What the last store reads and writes. -/
theorem CRel.box {wr : World} {bt bg bm : Nat} {T : Tl} {v : Value} {os : List Int} (h : CRel w wr B b bt bg bm w.heap.size lim L T FH v os) :
    wr.cell? ⟨w.heap.size, 0, none⟩ = some (.pointer (some ⟨b, 0, none⟩)) ∧ ∃ v0 v1, wr.cell? ⟨b, 0, none⟩ = some v0 ∧ wr.cell? ⟨b, 1, none⟩ = some v1 ∧ wr.frozen? ⟨b, 0, none⟩ = false ∧ wr.frozen? ⟨b, 1, none⟩ = false ∧ bt ≠ b := by
  obtain ⟨FT, h1, _⟩ := h
  obtain ⟨vw, vb, h2, _, hb, _⟩ := h1.hp
  exact ⟨by rw [h1.box.cell]; rfl, vw, vb, h2.sp.cell0, h2.sp.cell1, h2.sp.blk.free 0, h2.sp.blk.free 1, fun e => h1.fh bt h1.ftt (e ▸ hb)⟩

theorem CRel.done {wr : World} {bt bg bm : Nat} {T : Tl} {v vw vb : Value} {os : List Int} (h : CRel w wr B b bt bg bm w.heap.size lim L T FH v os) (hb : FH b) (hFH : ∀ k, FH k → k < w.heap.size) (hs : Sc L T T.length 0) (h0 : wr.cell? ⟨bt, 0, none⟩ = some vw) (h1 : wr.cell? ⟨bt, 1, none⟩ = some vb) :
    ∃ F', (((wr.setCell ⟨b, 0, none⟩ vw).setCell ⟨b, 1, none⟩ vb).ownsRow w.heap.size 3 1 v os.length (os.map (.int .i64))) ∧ HpL ((wr.setCell ⟨b, 0, none⟩ vw).setCell ⟨b, 1, none⟩ vb) B b lim (obs T) F' ∧ (∀ k, F' k → FH k ∨ w.heap.size ≤ k) ∧ (∀ k, v.ownBlock = some k → ¬ F' k) ∧ Upd FH w ((wr.setCell ⟨b, 0, none⟩ vw).setCell ⟨b, 1, none⟩ vb) := by
  obtain ⟨FT, g1, g2, g3, g4, g5⟩ := h
  obtain ⟨vw0, vb0, hp, hL, hFb, _⟩ := g1.hp
  obtain ⟨vw', vb', hsp, hv1, hv2⟩ := g1.to_
  obtain rfl : vw' = vw := by have := hsp.cell0; rw [h0] at this; exact (Option.some.inj this).symm
  obtain rfl : vb' = vb := by have := hsp.cell1; rw [h1] at this; exact (Option.some.inj this).symm
  have hbt : bt ≠ b := fun e => g1.fh bt g1.ftt (e ▸ hb)
  have hu : Upd (fun k => k = b) wr ((wr.setCell ⟨b, 0, none⟩ vw').setCell ⟨b, 1, none⟩ vb') := Upd.trans (b := wr.setCell ⟨b, 0, none⟩ vw') (Upd.set (S := fun k => k = b) _ _ _ rfl) (Upd.set (S := fun k => k = b) _ _ _ rfl)
  have hblk := (hp.sp.blk.set 0 vw').set 1 vb'
  have htt := hs.total
  have hlen := hp.len
  have hl1 := hp.l1
  have hwf := hs.wf hL (by have : total L = (wordsOf L).length := rfl; omega)
  have hFTb : ¬ FT b := fun e => g1.fh b e hb
  refine ⟨fun k => k = b ∨ FT k, hu.own g3 (fun k hk e => ?_), ⟨vw', vb', ⟨⟨?_, hp.sp.le, rfl, rfl, ?_, ?_, by decide, by decide, hsp.lw, hsp.lb⟩, hp.l0, hp.l1, ?_⟩, hwf, .inl rfl, fun k hk => .inr (hv1 k hk), fun k hk => .inr (hv2 k hk)⟩, ?_, ?_, ?_⟩
  · exact own_ne_blk g3 hp.sp.blk (by decide) k hk e
  · simpa using hblk
  · exact hu.own hsp.ow (fun k hk e => hFTb (e ▸ hv1 k hk))
  · exact hu.own hsp.ob (fun k hk e => hFTb (e ▸ hv2 k hk))
  · have : total (obs T) = (wordsOf (obs T)).length := rfl
    have : total L = (wordsOf L).length := rfl
    omega
  · intro k hk
    rcases hk with rfl | hk
    · exact .inl hb
    · exact .inr (g5 k hk).1
  · intro k hk hF
    rcases hF with hF | hF
    · exact own_ne_blk g3 hp.sp.blk (by decide) k hk hF
    · exact g4 k hk hF
  · exact (g2.mono fun _ _ h => h.elim).extend hu (fun q hq => by subst hq; exact .inl hb)

theorem mv_offs (L : List Ob) {T : Tl} (x : Int) {i : Nat} (hi : i ≤ T.length) : offs (mv L T x).1 i = offs T i := by
  unfold offs
  congr 2
  have h := (mv_ext L T x).pre
  apply List.ext_getElem?
  intro m
  by_cases hm : m < i
  · have hm' : m < T.length := by omega
    rw [List.getElem?_take_of_lt hm, List.getElem?_take_of_lt hm, h m _ (List.getElem?_eq_getElem hm'), List.getElem?_eq_getElem hm']
  · simp [List.getElem?_take, hm]

theorem steps_offs {L : List Ob} {T : Tl} {i : Nat} (hL : WfL L) (h : Sc L T i 0) (hi : i < T.length) (j : Nat) (hj : j ≤ lenAt T i) : offs (stepsF L T i j) i = offs T i := by
  induction j with
  | zero => rfl
  | succ j ih =>
    have ih' := ih (by omega)
    obtain ⟨_, b, c⟩ := steps_sc hL h j (by omega) hi
    show offs (stepF L (stepsF L T i j) i j) i = _
    unfold stepF
    split
    · exact ih'
    · split
      · exact ih'
      · rw [setF_offs, mv_offs L _ (by omega), ih']

set_option maxHeartbeats 2000000 in
theorem collect_yes (h : HpL w B b lim L FH) (hFH : ∀ k, FH k → k < w.heap.size) (A : Option Addr) (n c : Nat) (xs : List Int) (hx : Rd w (.slice A n c) 1 n (xs.map (.int .i64))) (hn : n = xs.length) (hl : n ≤ 17592186043904) (hi : ∀ x ∈ xs, I64 x) (hrt : ∀ x ∈ xs, rightL L x = true)
    (hr : Calls Try.prog 31 #[.slice A n c, .func (.func 35) #[] #[.pointer (some ⟨w.heap.size, 0, none⟩)]] (w.alloc (.cells #[.pointer (some ⟨b, 0, none⟩)] 24)) fun e w' => e = .returned (.bool false) ∧ w.alloc (.cells #[.pointer (some ⟨b, 0, none⟩)] 24) = w') :
    Calls Try.prog 13 #[.pointer (some ⟨b, 0, none⟩), .slice A n c] w (CollectPost w B b lim FH (some (collectR L xs))) := by
  have hbm : Calls Try.prog 30 #[.pointer (some ⟨b, 0, none⟩)] (w.alloc (.cells #[.pointer (some ⟨b, 0, none⟩)] 24)) fun e w' => e = .returned (.bool false) ∧ w.alloc (.cells #[.pointer (some ⟨b, 0, none⟩)] 24) = w' := by
    obtain ⟨vw, vb, h1, _⟩ := h
    exact bad_made (h1.alloc _)
  have HH := hide h
  have HX := hide hx
  have HN := hide hn
  have HI := hide hi
  have HRT := hide hrt
  have HFH := hide hFH
  have hmm := @run_makeMap Try.prog
  clear h hx hn hi hrt hFH
  go_enter Try.func13, Try.ntmps13
  go_wp2_with (first | (go_at_call 30; refine hbm.mono ?_; rintro e w' ⟨rfl, rfl⟩) | (go_at_call 31; refine hr.mono ?_; rintro e w' ⟨rfl, rfl⟩))
  have HS := hide (CRel.start HH.out HFH.out)
  generalize ((((w.alloc (.cells #[.pointer (some ⟨b, 0, none⟩)] 24)).alloc (.cells #[.slice none 0 0, .slice none 0 0] 56)).alloc (.map #[] 0)).alloc (.cells #[.map (some (w.heap.size + 1 + 1))] 62)) = W0 at HS ⊢
  generalize w.heap.size + 1 + 1 + 1 = bg at HS ⊢
  generalize w.heap.size + 1 + 1 = bm at HS ⊢
  generalize w.heap.size + 1 = bt at HS ⊢
  clear hr hbm hmm
  have HL : Hid (WfL L) := by obtain ⟨_, _, _, h2, _⟩ := HH.out; exact h2
  have HT : Hid (total L ≤ 4194304) := by
    obtain ⟨vw, vb, h1, _⟩ := HH.out
    have h2 := h1.len; have h3 := h1.l1
    show (wordsOf L).length ≤ 4194304
    omega
  go_loopw [9, 26] (fun v i wr => ∃ k : Nat, k ≤ n ∧ i = .int .i64 k ∧ ∃ A' c', v = .slice A' k c' ∧ Hid ((mvs L [] (xs.take k)).2.length = k) ∧ CRel w wr B b bt bg bm w.heap.size lim L (mvs L [] (xs.take k)).1 FH v (mvs L [] (xs.take k)).2) (fun _ i _ => n - (intOf i).toNat)
  case atStart => exact ⟨0, Nat.zero_le _, rfl, none, 0, rfl, rfl, HS.out⟩
  case round =>
    obtain ⟨k, hk, rfl, A', c', rfl, hlen, hC⟩ := hrel
    have HC := hide hC
    clear hC
    by_cases hlt : k < n
    · have hkx : k < xs.length := by have := HN.out; omega
      obtain ⟨x, hxk⟩ : ∃ x, x = xs[k] := ⟨_, rfl⟩
      have hxm : x ∈ xs := by rw [hxk]; exact List.getElem_mem hkx
      have hxi := HI.out x hxm
      have hxr := HRT.out x hxm
      have hsc := (mvs_sc (xs.take k) [] (Sc.nil L)).mv x (.inr ⟨rfl, Nat.zero_le _⟩)
      have htot : total (obs (mv L (mvs L [] (xs.take k)).1 x).1) ≤ 4194304 := by have := hsc.total; have := HT.out; omega
      have hcall := hide (HC.out.call HFH.out x hxi hxr htot)
      have hsn : Hid (mvs L [] (xs.take (k + 1)) = ((mv L (mvs L [] (xs.take k)).1 x).1, (mvs L [] (xs.take k)).2 ++ [(mv L (mvs L [] (xs.take k)).1 x).2])) := by
        show _ = _
        rw [← mvs_snoc, List.take_succ_eq_append_getElem hkx, hxk]
      have hcell : ∃ gb go gs, A = some ⟨gb, go, gs⟩ ∧ wr.cell? ((⟨gb, go, gs⟩ : Addr).add k) = some (.int .i64 x) := by
        obtain ⟨FT, _, hu, _⟩ := HC.out
        obtain ⟨A1, c1, hv, _, hA0, hA⟩ := HX.out.keep hu (fun _ _ h => h)
        injection hv with hv1 hv2 hv3
        subst hv1
        cases A with
        | none => have := hA0 rfl; omega
        | some ad => exact ⟨ad.block, ad.off, ad.spot, rfl, hA ad rfl k (.int .i64 x) (by simp [hkx, hxk])⟩
      obtain ⟨gb, go, gs, rfl, hcx⟩ := hcell
      have hkw : Hid (k + 1 ≤ 140737488355327) := by show _ ≤ _; omega
      generalize (mv L (mvs L [] (xs.take k)).1 x).2 = p at hcall hsn
      clear hsc htot hxi hxr hxm hxk
      go_wp2_with (first
        | (go_at_call 36; refine hcall.out.mono ?_; rintro e w1 ⟨rfl, hC1⟩; have HC1 := hide hC1; clear hC1)
        | (at_builtin; (refine wpList_app (v := .slice A' k c') (u := .slice (some ⟨w1.heap.size, 0, none⟩) 1 1) Try.ints rfl (.tmp 30) (.tmp 34) rfl rfl ((Upd.alloc (fun _ => False) _ _).own (by obtain ⟨FT, _, _, h3, _⟩ := HC1.out; rw [hlen.out] at h3; exact h3) (fun _ _ h => h)) rfl (Rd.new1 _ (.int .i64 p) 3 rfl) (by simp [Value.oneCell']) (k + 1) rfl (by omega) (by omega) (by obtain ⟨FT, _, h2, _⟩ := HC1.out; have := h2.size; simp; omega) ?_); intro A2 c2 w2 own2 u2 at2 ne2; clear ne2; have HO := hide own2; have HU := hide u2; have HA := hide at2; clear own2 u2 at2))
      go_roundw
      case rel =>
        refine ⟨k + 1, by omega, by go_num, A2, c2, rfl, ?_, ?_⟩
        · show _ = _
          rw [hsn.out]; simp [hlen.out]
        · rw [hsn.out]
          exact HC1.out.push HFH.out (by rw [hlen.out]; exact HO.out) HU.out HA.out
      case measure => simp [intOf]; omega
    · obtain rfl : k = n := by omega
      have hxs : Hid (xs.take k = xs) := List.take_of_length_le (by have := HN.out; omega)
      rw [hxs.out] at hlen HC
      obtain ⟨T0, hT0⟩ : ∃ T0, T0 = (mvs L [] xs).1 := ⟨_, rfl⟩
      obtain ⟨os, hos⟩ : ∃ os, os = (mvs L [] xs).2 := ⟨_, rfl⟩
      have hsc0 : Hid (Sc L T0 0 0) := by rw [hT0]; exact mvs_sc xs [] (Sc.nil L)
      rw [← hT0, ← hos] at HC
      rw [← hos] at hlen
      have HT0 := hide hT0
      have HOS := hide hos
      clear hT0 hos HX HI HRT HN HS
      obtain ⟨wo, hwo⟩ : ∃ wo : World, wo = wr := ⟨_, rfl⟩
      rw [← hwo] at HC ⊢
      clear hwo
      go_wp2
      go_loopw [12] (fun a wr => ∃ i p : Nat, a = .int .i64 p ∧ Hid (p = offs (scanN L T0 i) i) ∧ Hid (∀ i', i' < i → i' < (scanN L T0 i').length) ∧ Hid (i ≤ (scanN L T0 i).length) ∧ p ≤ 4194304 ∧ CRel w wr B b bt bg bm w.heap.size lim L (scanN L T0 i) FH (.slice A' k c') os) (fun a _ => 4194305 - (intOf a).toNat)
      case atStart => exact ⟨0, 0, rfl, by show _ = _; rw [offs_zero], fun i' h => absurd h (by omega), Nat.zero_le _, by omega, HC.out⟩
      case round =>
        obtain ⟨i, p, rfl, hp, hdone, hile, hp4, hC⟩ := hrel
        have HC1 := hide hC
        have hsi : Hid (Sc L (scanN L T0 i) i 0) := scanN_sc HL.out hsc0.out i hdone.out
        obtain ⟨T, hT⟩ : ∃ T, T = scanN L T0 i := ⟨_, rfl⟩
        have HTE := hide hT
        rw [← hT] at HC1 hp hsi hile
        clear hC hT
        obtain ⟨vw, vb, Aw, cw, hsp, hvw, hcw, htc, hent⟩ := HC1.out.words
        have hc0 := hsp.cell0
        rw [hvw] at hc0
        have HSP := hide hsp
        have HENT := hide hent
        have HVW := hide hvw
        obtain ⟨tot, htot⟩ : ∃ tot, tot = total (obs T) := ⟨_, rfl⟩
        rw [← htot] at hc0 hcw htc
        have HTOT := hide htot
        clear hsp hent htot
        by_cases hlt : i < T.length
        · have hpt : p < tot := by rw [hp.out, HTOT.out]; exact offs_lt hlt
          obtain ⟨⟨kk, o⟩, ho⟩ : ∃ q, T[i]? = some q := ⟨_, List.getElem?_eq_getElem hlt⟩
          obtain ⟨o0, hat0, hk0, hl0, _⟩ := hsi.out.ent i kk o ho
          have hwo := (HL.out).each o0 (atL_words hat0).2.2.2
          have hwo' : 0 ≤ o.1 ∧ o.1 ≤ 15 ∧ o.2.length ≤ 65535 := ⟨by rw [hk0]; exact hwo.k0, by rw [hk0]; exact hwo.k1, by rw [hl0]; exact hwo.len⟩
          have hlA : Hid (lenAt T i = o.2.length) := by show _ = _; simp [lenAt, ho]
          obtain ⟨g, hg, hAg, hle, hwd, _, _⟩ := HENT.out i kk o ho
          rw [← hp.out, ← HTOT.out] at hle
          rw [← hp.out] at hwd
          obtain ⟨ln, hln⟩ : ∃ ln, ln = o.2.length := ⟨_, rfl⟩
          rw [← hln] at hle hlA
          have hln1 : ln ≤ 65535 := by omega
          have hsz := size_any HSP.out p (headOf o) hwd (by unfold headOf; omega) (by unfold headOf; omega)
          rw [show headOf o / 16 = (ln : Int) by unfold headOf; omega] at hsz
          have HLN := hide hln
          have HO := hide ho
          have hsz' := hide hsz
          have HLE := hide hle
          have HWO := hide hwo'
          clear hsz hat0 hwo hwo' hk0 hl0 hg hAg hwd hln ho hle
          go_wp2_with (go_at_call 39; refine hsz'.out.mono ?_; rintro e w' ⟨rfl, rfl⟩)
          obtain ⟨wi, hwi⟩ : ∃ wi : World, wi = wr := ⟨_, rfl⟩
          rw [← hwi] at HC1 ⊢
          clear hwi
          go_loopw [49] (fun jv wr2 => ∃ j : Nat, j ≤ ln ∧ jv = .int .i64 j ∧ CRel w wr2 B b bt bg bm w.heap.size lim L (stepsF L T i j) FH (.slice A' k c') os) (fun jv _ => ln - (intOf jv).toNat)
          case atStart => exact ⟨0, Nat.zero_le _, rfl, HC1.out⟩
          case round =>
            obtain ⟨j, hj, rfl, hC2⟩ := hrel
            have HC2 := hide hC2
            clear hC2
            have hst := steps_sc HL.out hsi.out j (by rw [hlA.out]; exact hj) hlt
            obtain ⟨hs2, hb2, hlen2⟩ := hst
            obtain ⟨o', ho', hk', hl'⟩ := hb2 kk o HO.out
            have hoff2 := steps_offs HL.out hsi.out hlt j (by rw [hlA.out]; exact hj)
            obtain ⟨T2, hT2⟩ : ∃ T2, T2 = stepsF L T i j := ⟨_, rfl⟩
            have HT2 := hide hT2
            rw [← hT2] at HC2 hs2 ho' hoff2 hlen2
            clear hT2 hb2
            have hi2 : i < T2.length := by omega
            obtain ⟨vw2, vb2, Aw2, cw2, hsp2, hvw2, hcw2, htc2, hent2⟩ := HC2.out.words
            obtain ⟨g2, hg2, hAg2, hle2, hwd2, hfc2, hfr2⟩ := hent2 i kk o' ho'
            rw [hoff2, ← hp.out] at hle2 hwd2 hfc2
            rw [hl', ← HLN.out] at hle2
            by_cases hjl : j < ln
            · have hjo : j < o'.2.length := by rw [hl', ← HLN.out]; exact hjl
              obtain ⟨x, hx⟩ : ∃ x, x = o'.2[j] := ⟨_, rfl⟩
              have hxg : o'.2[j]? = some x := by rw [hx]; exact List.getElem?_eq_getElem hjo
              obtain ⟨o0, hat0, _, hl0, hm0⟩ := hs2.ent i kk o' ho'
              have hm0l := (atL_words hat0).2.2.2
              have hj0 : j < o0.2.length := by omega
              have hx0 : o'.2[j]? = some (o0.2[j]) := (hm0 j _ (List.getElem?_eq_getElem hj0)).2 (by omega)
              have hxe : x = o0.2[j] := by rw [hxg] at hx0; exact Option.some.inj hx0
              have hxi : I64 x := by rw [hxe]; exact (HL.out.each o0 hm0l).i64 _ (List.getElem_mem hj0)
              have hxr : rightL L x = true := by rw [hxe]; exact HL.out.right o0 hm0l _ (List.getElem_mem hj0)
              have hs3 := hs2.mv x (.inl hi2)
              have hcall := hide (HC2.out.call HFH.out x hxi hxr (by have := hs3.total; have := HT.out; omega))
              have hoff3 : offs (mv L T2 x).1 i = p := by rw [mv_offs L x (by omega), hoff2, hp.out]
              have ho3 : (mv L T2 x).1[i]? = some (kk, o') := (mv_ext L T2 x).pre i _ ho'
              have hstep : Hid (stepsF L T i (j + 1) = setF (mv L T2 x).1 i j (mv L T2 x).2) := by
                show stepF L (stepsF L T i j) i j = _
                rw [← HT2.out]
                exact stepF_eq ho' hxg
              obtain ⟨T3, hT3⟩ : ∃ T3, T3 = (mv L T2 x).1 := ⟨_, rfl⟩
              obtain ⟨q, hq⟩ : ∃ q, q = (mv L T2 x).2 := ⟨_, rfl⟩
              rw [← hT3, ← hq] at hcall hstep
              rw [← hT3] at hoff3 ho3
              have hc02 := hsp2.cell0
              rw [hvw2, hAg2] at hc02
              have hcx2 := hfc2 j x hxg
              obtain ⟨tt2, htt2⟩ : ∃ tt2, tt2 = total (obs T2) := ⟨_, rfl⟩
              rw [← htt2] at hc02 hle2 hcw2 htc2
              have hfacts : Hid (∀ w3, CRel w w3 B b bt bg bm w.heap.size lim L T3 FH (.slice A' k c') os → ∃ vw3 tt3 g3 cw3, w3.cell? ⟨bt, 0, none⟩ = some (.slice (some ⟨g3, 0, none⟩) tt3 cw3) ∧ w3.cell? ⟨g3, p + 1 + j, none⟩ = some (.int .i64 x) ∧ w3.frozen? ⟨g3, p + 1 + j, none⟩ = false ∧ p + 1 + ln ≤ tt3 ∧ tt3 ≤ cw3 ∧ tt3 ≤ 4194304 ∧ Hid (w3.cell? ⟨bt, 0, none⟩ = some vw3 ∧ vw3.ownBlock = some g3)) := by
                intro w3 h3
                obtain ⟨vw3, vb3, Aw3, cw3, hsp3, hvw3, hcw3, htc3, hent3⟩ := h3.words
                obtain ⟨g3, hg3, hAg3, hle3, _, hfc3, hfr3⟩ := hent3 i kk o' ho3
                rw [hoff3] at hle3 hfc3
                exact ⟨vw3, _, g3, cw3, by rw [hsp3.cell0, hvw3, hAg3], hfc3 j x hxg, hfr3 _, by rw [HLN.out, ← hl']; exact hle3, hcw3, htc3, hsp3.cell0, hg3⟩
              have HOFF := hide hoff3
              have HO3 := hide ho3
              have HJO := hide hjo
              clear hsp2 hvw2 hent2 hg2 hAg2 hwd2 hfc2 hfr2 hx hxg hat0 hl0 hm0 hm0l hj0 hx0 hxe hxi hxr hs3 hs2 hoff2 hoff3 ho3 hT3 hq htt2 hlen2 ho' hk' hl' hi2 hjo
              go_wp2_with (go_at_call 36; refine hcall.out.mono ?_; rintro e w3 ⟨rfl, hC3⟩; have HC3 := hide hC3; obtain ⟨vw3, tt3, g3, cw3, hd0, hdx, hdf, hdl, hdc, hdt, HV3⟩ := hfacts.out w3 hC3; clear hC3)
              go_roundw
              case rel =>
                refine ⟨j + 1, by omega, by go_num, ?_⟩
                rw [hstep.out, ← HOFF.out]
                exact HC3.out.setw HO3.out HJO.out q HV3.out.1 HV3.out.2
              case measure => simp [intOf]; omega
            · obtain rfl : j = ln := by omega
              have hw1 := HWO.out
              have hsz2 := size_any hsp2 p (headOf o') hwd2 (by unfold headOf; omega) (by unfold headOf; omega)
              rw [show headOf o' / 16 = (j : Int) by have := HLN.out; unfold headOf; omega] at hsz2
              have HSZ2 := hide hsz2
              have hsc3 : Hid (scanN L T0 (i + 1) = T2) := by
                show scanO L (scanN L T0 i) i = T2
                rw [← HTE.out, HT2.out]; unfold scanO; rw [hlA.out]
              have hend3 : Hid (p + (j + 1) = offs T2 (i + 1)) := by
                show p + (j + 1) = _
                have := HLN.out
                rw [offs_succ ho', hoff2, ← hp.out]; simp only []; omega
              have hlen3 : Hid (i + 1 ≤ T2.length) := by show i + 1 ≤ T2.length; omega
              have hple : p + (j + 1) ≤ 4194304 := by omega
              clear hw1 hsz2 hsp2 hvw2 hent2 hg2 hAg2 hwd2 hfc2 hfr2 hs2 hoff2 hlen2 ho' hk' hl' hi2 hle2 hcw2 htc2
              go_wp2_with (go_at_call 39; refine HSZ2.out.mono ?_; rintro e w' ⟨rfl, rfl⟩)
              go_roundw
              case rel =>
                refine ⟨i + 1, p + (j + 1), by go_num, by rw [hsc3.out]; exact hend3.out, fun i' hi' => ?_, by rw [hsc3.out]; exact hlen3.out, hple, by rw [hsc3.out]; exact HC2.out⟩
                rcases Nat.lt_or_ge i' i with h | h
                · exact hdone.out i' h
                · obtain rfl : i' = i := by omega
                  rw [← HTE.out]; exact hlt
              case measure => simp [intOf]; omega
        · have hpt : p = tot := by
            have e1 : i = T.length := by have := hile.out; omega
            rw [hp.out, HTOT.out, e1, offs_all]
          have hTL : Hid (T.length = i) := by show _ = _; have := hile.out; omega
          subst hpt
          obtain ⟨hbx, v0, v1, hb0, hb1, hf0, hf1, hne⟩ := HC1.out.box
          obtain ⟨Ab, cb, hvb, _⟩ := own_form HSP.out.ob
          have hc1 := HSP.out.cell1
          rw [hvb] at hc1
          have HVB := hide hvb
          have HHb : Hid (FH b) := by obtain ⟨_, _, _, _, h3, _⟩ := HH.out; exact h3
          clear hvw hvb
          go_wp2
          go_ret2
          obtain ⟨F', g1, g2, g3, g4, g5⟩ := HC1.out.done HHb.out HFH.out (by rw [hTL.out]; exact hsi.out) hc0 hc1
          have hend := scan_end (roots := xs) HL.out (n := i) (by rw [← HT0.out]; exact hdone.out) (by rw [← HT0.out, ← HTE.out]; exact hTL.out)
          have hfin : collectR L xs = (obs T, os) := by
            unfold collectR
            rw [← hend, ← HT0.out, ← HTE.out, ← HOS.out]
          rw [hfin]
          exact ⟨_, F', rfl, g1, g2, g3, g4, g5⟩
end
end Go.Proofs.Ytkmfohocicngaaa
