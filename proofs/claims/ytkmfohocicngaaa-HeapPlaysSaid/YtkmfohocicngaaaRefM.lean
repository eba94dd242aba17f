/- The reference's collector: one value is moved. -/
import Derived.Test.YtkmfohocicngaaaRef3
import Derived.Test.YtkmfohocicngaaaRegionZ
namespace Go.Proofs.Ytkmfohocicngaaa
open Go.RowKit
attribute [local go_sem ↓] Go.wp_at_zero Go.wp_at_succ

/-- Where each object goes, one more than its new place; 0: nowhere yet. -/
def movedL (L : List Ob) (T : Tl) : List Int := (List.range L.length).map fun i => match newAt T (offL L i) with | some p => (p : Int) + 1 | none => 0

theorem movedL_length (L : List Ob) (T : Tl) : (movedL L T).length = L.length := by simp [movedL]

theorem movedL_get {L : List Ob} (T : Tl) {i : Nat} (hi : i < L.length) : (movedL L T)[i]? = some (match newAt T (offL L i) with | some p => (p : Int) + 1 | none => 0) := by
  simp [movedL, hi]

theorem movedL_push {L : List Ob} {T : Tl} {i : Nat} (hi : i < L.length) (o : Ob) (hn : newAt T (offL L i) = none) : movedL L (T ++ [(offL L i, o)]) = (movedL L T).set i ((total (obs T) : Int) + 1) := by
  apply List.ext_getElem?
  intro j
  by_cases hj : j < L.length
  · rw [movedL_get _ hj, newAt_append]
    by_cases hij : i = j
    · subst hij
      rw [List.getElem?_set_self (by rw [movedL_length]; exact hj), hn]
      simp only [if_true]
    · rw [List.getElem?_set_ne hij, movedL_get _ hj]
      cases hq : newAt T (offL L j) with
      | some p => rfl
      | none =>
        have hne : ¬ offL L i = offL L j := fun e => hij (offL_inj (Nat.le_of_lt hi) (Nat.le_of_lt hj) e)
        simp only [if_neg hne]
  · rw [List.getElem?_eq_none (by rw [movedL_length]; omega), List.getElem?_eq_none (by rw [List.length_set, movedL_length]; omega)]

structure MSv (w : World) (B rb mb : Nat) (lim : Int) (L : List Ob) (v : Value) (G : List (Nat × Nat)) (T : Tl) (va vl : Value) (G' : List (Nat × Nat)) : Prop where
  h : RHv w B rb lim L v G
  bm : Blk w mb 76 #[va, vl, .int .i64 (total (obs T))]
  le : B ≤ mb
  mo : w.ownsRow B 3 1 va L.length ((movedL L T).map (.int .i64))
  ro : Ro w B vl (obs T) G'
  ag : ∀ k, va.ownBlock = some k → k ∉ G'.map (·.1)

/-- The mover at work: the heap in blocks of FH, what it makes in blocks of FT. -/
def MS (w : World) (B rb mb : Nat) (lim : Int) (L : List Ob) (T : Tl) (FH FT : Nat → Prop) : Prop :=
  ∃ v G va vl G', MSv w B rb mb lim L v G T va vl G' ∧ FH rb ∧ (∀ k, RoF v G k → FH k) ∧ FT mb ∧ (∀ k, va.ownBlock = some k → FT k) ∧ (∀ k, RoF vl G' k → FT k) ∧ (∀ k, FH k → ¬ FT k)

def MovePostR (w : World) (B rb mb : Nat) (lim : Int) (L : List Ob) (FH FT : Nat → Prop) (r : Tl × Int) (e : Ending) (w' : World) : Prop :=
  e = .returned (.int .i64 r.2) ∧ MS w' B rb mb lim L r.1 FH (growT FT w w') ∧ Upd FT w w'

section
variable {w : World} {B rb mb : Nat} {lim : Int} {L : List Ob} {T : Tl} {FH FT : Nat → Prop} {v va vl : Value} {G G' : List (Nat × Nat)}

set_option maxHeartbeats 400000 in
theorem rmove_plain {x : Int} (a1 a2 : Value) (w : World) (hp : isP x = false) : Calls Try.prog 44 #[a1, a2, .int .i64 x] w fun e w' => e = .returned (.int .i64 x) ∧ w = w' := by
  have HPT := hide (pointer_law x)
  rw [hp] at HPT
  clear hp
  go_enter Try.func44, Try.ntmps44
  go_wp2_with (go_at_call 28; refine (HPT.out _).mono ?_; rintro e w4 ⟨rfl, rfl⟩)
  go_ret
  exact ⟨rfl, rfl⟩

set_option maxHeartbeats 400000 in
theorem rmove_gone {x : Int} {i p n ga ca : Nat} (hp : isP x = true) (HF : Hid (Calls Try.prog 43 #[.pointer (some ⟨rb, 0, none⟩), .int .i64 x] w fun e w' => e = .returned (.int .i64 i) ∧ w = w'))
    (hc : w.cell? ⟨mb, 0, none⟩ = some (.slice (some ⟨ga, 0, none⟩) n ca)) (hi : i < n) (hn : n ≤ 4194304) (hci : w.cell? ⟨ga, i, none⟩ = some (.int .i64 ((p : Int) + 1))) (hpb : p ≤ 4194304) :
    Calls Try.prog 44 #[.pointer (some ⟨mb, 0, none⟩), .pointer (some ⟨rb, 0, none⟩), .int .i64 x] w fun e w' => e = .returned (.int .i64 ((p : Int) * 8 + 5)) ∧ w = w' := by
  have HPT := hide (pointer_law x)
  rw [hp] at HPT
  clear hp
  have h0 : (((p : Int) + 1) == 0) = false := by simp; omega
  have h0' : (((p + 1 : Nat) : Int) == 0) = false := by simp; omega
  go_enter Try.func44, Try.ntmps44
  go_wp2_with (first | (go_at_call 28; refine (HPT.out _).mono ?_; rintro e w4 ⟨rfl, rfl⟩) | (go_at_call 43; refine HF.out.mono ?_; rintro e w4 ⟨rfl, rfl⟩))
  go_ret
  exact ⟨ri64 (by omega), rfl⟩

theorem MS.keep {w' : World} (h : MS w B rb mb lim L T FH FT) (hu : Upd (fun _ => False) w w') : MS w' B rb mb lim L T FH FT := by
  obtain ⟨v, G, va, vl, G', h1, h2⟩ := h
  exact ⟨v, G, va, vl, G', ⟨⟨hu.blk h1.h.blk fun h => h, h1.h.le, h1.h.ro.keep hu (fun _ _ h => h), h1.h.wf, h1.h.l0, h1.h.l1, h1.h.tot⟩, hu.blk h1.bm fun h => h, h1.le, hu.own h1.mo fun _ _ h => h, h1.ro.keep hu (fun _ _ h => h), h1.ag⟩, h2⟩

theorem MSv.keep {w' : World} (h : MSv w B rb mb lim L v G T va vl G') (hu : Upd (fun _ => False) w w') : MSv w' B rb mb lim L v G T va vl G' :=
  ⟨⟨hu.blk h.h.blk fun h => h, h.h.le, h.h.ro.keep hu (fun _ _ h => h), h.h.wf, h.h.l0, h.h.l1, h.h.tot⟩, hu.blk h.bm fun h => h, h.le, hu.own h.mo fun _ _ h => h, h.ro.keep hu (fun _ _ h => h), h.ag⟩

theorem made1 (w : World) {H : Nat} (hH : w.heap.size = H) : (w.alloc (.cells #[] 3)).drew.ownsRow H 3 1 (.slice (some ⟨H, 0, none⟩) 0 0) 0 [] := by
  subst hH; exact made0 w

theorem move_k1 {w1 w2 : World} {cs : Array Value} {t b H : Nat} (h : Blk w1 b t cs) (hH : w1.heap.size = H) (hu : Upd (fun k => (Value.slice (some ⟨H, 0, none⟩) 0 0).ownBlock = some k) (w1.alloc (.cells #[] 3)).drew w2) : Blk w2 b t cs := by
  subst hH
  refine hu.blk (((Upd.alloc (fun _ => False) w1 (.cells #[] 3)).trans (Upd.drew _ _)).blk h fun h => h) fun e => ?_
  have := h.lt
  simp [Value.ownBlock] at e
  omega

theorem move_o1 {w1 w2 : World} {B e size n H : Nat} {v : Value} {xs : List Value} (h : w1.ownsRow B e size v n xs) (hH : w1.heap.size = H) (hu : Upd (fun k => (Value.slice (some ⟨H, 0, none⟩) 0 0).ownBlock = some k) (w1.alloc (.cells #[] 3)).drew w2) : w2.ownsRow B e size v n xs := by
  subst hH
  refine hu.own (((Upd.alloc (fun _ => False) w1 (.cells #[] 3)).trans (Upd.drew _ _)).own h fun _ _ h => h) fun k hk e => ?_
  have := (h.lt k hk).2
  simp [Value.ownBlock] at e
  omega

/-- What the first region of move needs of the cells that it loads. -/
def MC (w' : World) (mb ob : Nat) (vl : Value) (t kd : Int) (sl : Value) : Prop := w'.cell? ⟨mb, 1, none⟩ = some vl ∧ w'.cell? ⟨mb, 2, none⟩ = some (.int .i64 t) ∧ w'.cell? ⟨ob, 1, none⟩ = some (.int .i64 kd) ∧ w'.cell? ⟨ob, 2, none⟩ = some sl

theorem MC.of {w' : World} {ob : Nat} {vl va sl : Value} {t kd z : Int} (h1 : Blk w' mb 76 #[va, vl, .int .i64 t]) (h2 : Blk w' ob 73 #[.int .i64 z, .int .i64 kd, sl]) : MC w' mb ob vl t kd sl :=
  ⟨by rw [h1.cell]; rfl, by rw [h1.cell]; rfl, by rw [h2.cell]; rfl, by rw [h2.cell]; rfl⟩

theorem ob_len (A : Option Addr) (n c n' c' : Nat) : (Value.slice A n c).ownBlock = (Value.slice A n' c').ownBlock := by cases A <;> simp [Value.ownBlock]

theorem mover_end {i : Nat} {o : Ob} (hM : MSv w B rb mb lim L v G T va vl G') (ho : L[i]? = some o) (hn : newAt T (offL L i) = none) (ht : total (obs T) + o.2.length + 1 ≤ 4194304)
    (hf : FH rb ∧ (∀ k, RoF v G k → FH k) ∧ FT mb ∧ (∀ k, va.ownBlock = some k → FT k) ∧ (∀ k, RoF vl G' k → FT k) ∧ (∀ k, FH k → ¬ FT k) ∧ ∀ k, FH k → k < w.heap.size)
    {w1 w2 w2' w3 w7 : World} {A' A2 : Option Addr} {m cc c2 N ga : Nat} {kd : Int} {t : Nat} (hm : o.2.length = m) (hkd : o.1 = kd) (hN : N = (obs T).length + 1) (htt : total (obs T) = t) (hga : va.ownBlock = some ga)
    (hu1 : Upd (fun _ => False) w w1) (u1 : Upd (fun k => (Value.slice (some ⟨w1.heap.size, 0, none⟩) 0 0).ownBlock = some k) (w1.alloc (.cells #[] 3)).drew w2)
    (o1 : w2.ownsRow w1.heap.size 3 1 (.slice A' m cc) m ([] ++ o.2.map (.int .i64))) (n1 : (Value.slice (some ⟨w1.heap.size, 0, none⟩) 0 0).ownBlock ≠ none → (Value.slice A' m cc).ownBlock ≠ none)
    (h2 : Upd (fun _ => False) w2 w2') (u2 : Upd (fun k => vl.ownBlock = some k) w2' w3) (o2 : w3.ownsRow B 73 3 (.slice A2 N c2) N (ocells 0 (obs T) G' ++ [.int .i64 t, .int .i64 kd, .slice A' m cc]))
    (at2 : (Value.slice A2 N c2).ownBlock = vl.ownBlock ∨ (Value.slice A2 N c2).ownBlock = some w2'.heap.size)
    (hw7 : Upd (fun _ => False) (((w3.setCell ⟨mb, 1, none⟩ (.slice A2 N c2)).setCell ⟨ga, i, none⟩ (.int .i64 ((t : Int) + 1))).setCell ⟨mb, 2, none⟩ (.int .i64 ((t : Int) + 1 + m))) w7) :
    MS w7 B rb mb lim L (T ++ [(offL L i, o)]) FH (growT FT w w7) ∧ Upd FT w w7 := by
  subst hm hkd hN htt
  obtain ⟨f1, f2, f3, f4, f5, f6, f7⟩ := hf
  rw [List.nil_append] at o1
  obtain ⟨g, rfl, hgc, hglo, hglt⟩ := own_slice o1 (n1 (by simp [Value.ownBlock]))
  have hi := (List.getElem?_eq_some_iff.1 ho).1
  have s1 := hu1.size
  have u1s := u1.size
  have s2 := h2.size; have s3 := u2.size; have s7 := hw7.size
  simp at u1s s7
  have hB := Nat.le_of_lt (Nat.lt_of_le_of_lt hM.le hM.bm.lt)
  -- one memory after another
  have e2 : Upd (fun _ => False) w w2 := by
    refine hu1.trans ?_
    refine ((Upd.alloc (fun _ => False) w1 (.cells #[] 3)).trans (Upd.drew _ _)).extend u1 fun q hq => .inr ?_
    simp [Value.ownBlock] at hq; omega
  have e3 : Upd (fun k => vl.ownBlock = some k) w w3 := ((e2.trans h2).mono fun _ _ h => h.elim).trans u2
  have hlw : ∀ k, vl.ownBlock = some k → k < w.heap.size := fun k hk => (hM.ro.row.lt k hk).2
  have o1' : w3.ownsRow w1.heap.size 3 1 (.slice (some ⟨g, 0, none⟩) o.2.length cc) o.2.length (o.2.map (.int .i64)) :=
    u2.own (h2.own o1 fun _ _ h => h) fun k hk hv => by
      have := hlw k hv
      simp [Value.ownBlock] at hk; omega
  have ro3 : Ro w3 B (.slice A2 ((obs T).length + 1) c2) (obs T ++ [o]) (G' ++ [(g, cc)]) := hM.ro.push e3 (fun _ h => h) hB (own_base o1' s1) o2
  have mo3 : w3.ownsRow B 3 1 va L.length ((movedL L T).map (.int .i64)) := e3.own hM.mo fun k hk e => own_ne_own hM.ro.row hM.mo (by decide) k e hk
  have bm3 : Blk w3 mb 76 #[va, vl, .int .i64 (total (obs T))] := e3.blk hM.bm fun e => own_ne_blk hM.ro.row hM.bm (by decide) _ e rfl
  have gm : ga ≠ mb := own_ne_blk hM.mo hM.bm (by decide) ga hga
  have ag3 : ∀ k, va.ownBlock = some k → k ∉ (G' ++ [(g, cc)]).map (·.1) := by
    intro k hk hkm
    rw [List.map_append, List.mem_append] at hkm
    rcases hkm with h | h
    · exact hM.ag k hk h
    · simp at h; subst h
      have := (hM.mo.lt k hk).2
      omega
  have vl3 : ∀ k, (Value.slice A2 ((obs T).length + 1) c2).ownBlock = some k → FT k ∨ (w.heap.size ≤ k ∧ k < w3.heap.size) := by
    intro k hk
    have hk3 := (ro3.row.lt k (by simpa [obs_length] using hk)).2
    rcases at2 with e | e
    · rw [e] at hk; exact .inl (f5 k (.inl hk))
    · rw [e] at hk; injection hk with hk; right; have := e2.size; exact ⟨by omega, hk3⟩
  -- the heap itself
  have hvG : ∀ k, RoF v G k → vl.ownBlock ≠ some k := fun k hk e => f6 k (f2 k hk) (f5 k (.inl e))
  have hR : ∀ {wx : World}, Upd FT w wx → RHv wx B rb lim L v G := fun hu =>
    ⟨hu.blk hM.h.blk (f6 rb f1), hM.h.le, hM.h.ro.keep hu fun k hk => f6 k (f2 k hk), hM.h.wf, hM.h.l0, hM.h.l1, hM.h.tot⟩
  have hgF : FT ga := f4 ga hga
  -- the three stores
  have uFT : Upd FT w w7 := by
    refine (e3.mono fun k _ hk => f5 k (.inl hk)).trans (((Upd.set _ _ _ f3).trans ((Upd.set _ _ _ hgF).trans (Upd.set _ _ _ f3))).trans (hw7.mono fun _ _ h => h.elim))
  have c4 := bm3.set 1 (.slice A2 ((obs T).length + 1) c2)
  have hs1 : Upd (fun q => q = mb) w3 (w3.setCell ⟨mb, 1, none⟩ (.slice A2 ((obs T).length + 1) c2)) := Upd.set _ _ _ rfl
  have ro4 := ro3.keep hs1 fun k hk e => ro3.blk_ne bm3 (by decide) (by decide) hk e
  have mo4 := hs1.own mo3 fun k hk e => own_ne_blk mo3 bm3 (by decide) k hk e
  have hs2 : Upd (fun q => q = ga) (w3.setCell ⟨mb, 1, none⟩ (.slice A2 ((obs T).length + 1) c2)) ((w3.setCell ⟨mb, 1, none⟩ (.slice A2 ((obs T).length + 1) c2)).setCell ⟨ga, i, none⟩ (.int .i64 ((total (obs T) : Int) + 1))) := Upd.set _ _ _ rfl
  have c5 := hs2.blk c4 (Ne.symm gm)
  have ro5 := ro4.keep hs2 fun k hk e => by
    subst e
    rcases hk with hk | hk
    · exact own_ne_own ro4.row mo4 (by decide) k hk hga
    · exact ag3 k hga hk
  have mo5 := own_set mo4 hga i hi (.int .i64 ((total (obs T) : Int) + 1))
  have hs3 : Upd (fun q => q = mb) ((w3.setCell ⟨mb, 1, none⟩ (.slice A2 ((obs T).length + 1) c2)).setCell ⟨ga, i, none⟩ (.int .i64 ((total (obs T) : Int) + 1))) _ := Upd.set _ ⟨mb, 2, none⟩ (.int .i64 ((total (obs T) : Int) + 1 + o.2.length)) rfl
  have c6 := c5.set 2 (.int .i64 ((total (obs T) : Int) + 1 + o.2.length))
  have ro6 := ro5.keep hs3 fun k hk e => ro5.blk_ne c5 (by decide) (by decide) hk e
  have mo6 := hs3.own mo5 fun k hk e => own_ne_blk mo5 c5 (by decide) k hk e
  have hobs : obs (T ++ [(offL L i, o)]) = obs T ++ [o] := by simp [obs]
  refine ⟨⟨v, G, va, .slice A2 ((obs T).length + 1) c2, G' ++ [(g, cc)], ⟨hR uFT, ?_, hM.le, ?_, ?_, ag3⟩, f1, f2, .inl f3, fun k hk => .inl (f4 k hk), fun k hk => ?_, fun k hk hg => ?_⟩, uFT⟩
  · have := hw7.blk c6 (fun h => h)
    rw [hobs, total_append, total_cons, total_nil]
    simpa [show ((total (obs T) + (o.2.length + 1 + 0) : Nat) : Int) = (total (obs T) : Int) + 1 + o.2.length by omega] using this
  · rw [movedL_push hi o hn, List.map_set]
    exact hw7.own mo6 fun _ _ h => h
  · rw [hobs]
    exact ro6.keep hw7 fun _ _ h => h
  · rcases hk with hk | hk
    · rcases vl3 k hk with h | h
      · exact .inl h
      · exact .inr ⟨h.1, by omega⟩
    · rw [List.map_append, List.mem_append] at hk
      rcases hk with hk | hk
      · exact .inl (f5 k (.inr hk))
      · simp at hk; subst hk
        exact .inr ⟨by omega, by omega⟩
  · rcases hg with hg | hg
    · exact f6 k hk hg
    · have := f7 k hk; omega

set_option maxHeartbeats 4000000 in
theorem rmove_new (hM : MSv w B rb mb lim L v G T va vl G') {x : Int} {i : Nat} {o : Ob} (hp : isP x = true) (HF : Hid (Calls Try.prog 43 #[.pointer (some ⟨rb, 0, none⟩), .int .i64 x] w fun e w' => e = .returned (.int .i64 i) ∧ w = w'))
    (ho : L[i]? = some o) (hn : newAt T (offL L i) = none) (ht : total (obs T) + o.2.length + 1 ≤ 4194304)
    (hf : FH rb ∧ (∀ k, RoF v G k → FH k) ∧ FT mb ∧ (∀ k, va.ownBlock = some k → FT k) ∧ (∀ k, RoF vl G' k → FT k) ∧ (∀ k, FH k → ¬ FT k) ∧ ∀ k, FH k → k < w.heap.size) :
    Calls Try.prog 44 #[.pointer (some ⟨mb, 0, none⟩), .pointer (some ⟨rb, 0, none⟩), .int .i64 x] w (MovePostR w B rb mb lim L FH FT (T ++ [(offL L i, o)], (total (obs T) : Int) * 8 + 5)) := by
  have HFF := hide hf
  have HTT := hide ht
  clear hf
  have HPT := hide (pointer_law x)
  rw [hp] at HPT
  clear hp
  obtain ⟨A0, c0, hv, hr1, _, hll⟩ := hM.h.slice
  obtain ⟨q, g, c, hv', _, _, hq0, hq1, hq2, hof⟩ := hM.h.ro.at _ _ ho
  rw [hv] at hv'
  injection hv' with hA _ hcc
  subst hA hcc
  have hi := (List.getElem?_eq_some_iff.1 ho).1
  obtain ⟨Aa, ca, hva, _, _, _, _, hAA⟩ := own_form hM.mo
  obtain ⟨ga, hga⟩ := own_some hM.mo (by omega)
  obtain ⟨rfl, _, _, hfra, hca⟩ := hAA ga hga
  have hci : w.cell? ⟨ga, i, none⟩ = some (.int .i64 0) := hca i _ (by rw [List.getElem?_map, movedL_get T hi, hn]; rfl)
  obtain ⟨Al, cl, hvl, _⟩ := own_cells hM.ro.row
  subst hva hvl
  have hm0 : w.cell? ⟨mb, 0, none⟩ = some (.slice (some ⟨ga, 0, none⟩) L.length ca) := by rw [hM.bm.cell]; rfl
  have hm1 : w.cell? ⟨mb, 1, none⟩ = some (.slice Al (obs T).length cl) := by rw [hM.bm.cell]; rfl
  have hm2 : w.cell? ⟨mb, 2, none⟩ = some (.int .i64 (total (obs T))) := by rw [hM.bm.cell]; rfl
  have hol : o.2.length ≤ 65535 := (hM.h.wf.each o (List.mem_of_getElem? ho)).len
  have HO := hide ho
  have HN := hide hn
  have HM := hide hM
  have HRD := hide (Rd.of_own hof)
  have hnT := length_le_total (obs T)
  obtain ⟨t, ht'⟩ : ∃ t, total (obs T) = t := ⟨_, rfl⟩
  obtain ⟨n, hn'⟩ : ∃ n, L.length = n := ⟨_, rfl⟩
  obtain ⟨k, hk'⟩ : ∃ k, (obs T).length = k := ⟨_, rfl⟩
  obtain ⟨m, hm'⟩ : ∃ m, o.2.length = m := ⟨_, rfl⟩
  obtain ⟨kd, hkd⟩ : ∃ kd, o.1 = kd := ⟨_, rfl⟩
  obtain ⟨z, hz⟩ : ∃ z : Int, (offL L i : Int) = z := ⟨_, rfl⟩
  rw [ht'] at ht hm2 hnT
  rw [hm'] at ht hq2 hol HRD
  rw [hn'] at hi hr1 hm0 hll
  rw [hk'] at hm1 hnT
  rw [hkd] at hq1
  rw [hz] at hq0
  have HT := hide ht'
  have HL := hide hn'
  have HK := hide hk'
  have HMM := hide hm'
  have HKD := hide hkd
  have HZ := hide hz
  have HA := hide hAA
  clear hv hM hof ho hn ht' hn' hk' hm' hkd hz hAA hca hfra hga
  go_enter Try.func44, Try.ntmps44
  go_wp2_with (first | (go_at_call 28; refine (HPT.out _).mono ?_; rintro e w4 ⟨rfl, rfl⟩) | (go_at_call 43; refine HF.out.mono ?_; rintro e w4 ⟨rfl, rfl⟩))
  clear hm0 hm1 hm2 hr1 hq0 hq1 hq2 hci HF HPT
  have hu1 : Upd (fun _ => False) w (w.alloc (.cells #[.int .i64 z, .int .i64 kd, .slice (some ⟨g.1, 0, none⟩) m g.2] 73)) := Upd.alloc _ _ _
  have hob : Blk (w.alloc (.cells #[.int .i64 z, .int .i64 kd, .slice (some ⟨g.1, 0, none⟩) m g.2] 73)) w.heap.size 73 #[.int .i64 z, .int .i64 kd, .slice (some ⟨g.1, 0, none⟩) m g.2] := Blk.new _ _ _
  have hs1 : (w.alloc (.cells #[.int .i64 z, .int .i64 kd, .slice (some ⟨g.1, 0, none⟩) m g.2] 73)).heap.size = w.heap.size + 1 := by simp
  generalize w.alloc (.cells #[.int .i64 z, .int .i64 kd, .slice (some ⟨g.1, 0, none⟩) m g.2] 73) = w1 at hu1 hob hs1 ⊢
  have HU1 := hide hu1
  have HM1 := hide (HM.out.keep hu1)
  have HRD1 := hide (HRD.out.keep hu1 (fun _ _ h => h))
  have HOB := hide hob
  have HS1 := hide hs1
  obtain ⟨ob, hob'⟩ : ∃ ob, w.heap.size = ob := ⟨_, rfl⟩
  rw [hob'] at HOB HS1 ⊢
  have HOW := hide hob'
  have HBM : Hid (Blk w1 mb 76 #[.slice (some ⟨ga, 0, none⟩) n ca, .slice Al k cl, .int .i64 (t : Int)]) := by have := HM1.out.bm; rw [HL.out, HK.out, HT.out] at this; exact this
  have HRW : Hid (w1.ownsRow B 73 3 (.slice Al k cl) k (ocells 0 (obs T) G')) := by have := HM1.out.ro.row; rw [HK.out] at this; exact this
  have HLE : Hid (B ≤ w1.heap.size) := Nat.le_of_lt (Nat.lt_of_le_of_lt HM1.out.le HM1.out.bm.lt)
  have hHeld := MC.of (w' := w1.drew) ((Upd.drew (fun _ => False) w1).blk HBM.out (fun h => h)) ((Upd.drew (fun _ => False) w1).blk HOB.out (fun h => h))
  have HVO : Hid (∀ j, (Value.slice Al k cl).ownBlock = some j → j ≠ ob) := by
    intro j hj e
    have hlt := (HM.out.ro.row.lt j (by rw [HK.out]; exact hj)).2
    rw [HOW.out] at hlt
    omega
  clear hu1 hob hs1 hob' HRD
  refine zg_start (S := fun w' => w'.cell? ⟨mb, 1, none⟩ = some (.slice Al k cl) ∧ w'.cell? ⟨mb, 2, none⟩ = some (.int .i64 t) ∧ w'.cell? ⟨ob, 1, none⟩ = some (.int .i64 kd) ∧ w'.cell? ⟨ob, 2, none⟩ = some (.slice (some ⟨g.1, 0, none⟩) m g.2)) (z := 20) (by kernel_rfl) ?_
  unfold MC at hHeld
  refine zg_take 0 (v := ?_) (by simp only [List.getElem?_toArray, List.getElem?_cons_succ, List.getElem?_cons_zero]; rfl) (by kernel_rfl) ?_ (by assumption) (Or.inl ⟨by rfl, ?_⟩) ?_
  rotate_left
  · exact fun _ _ _ h => h
  · intro wS hSw; (try dsimp only at hSw); go_simp <;> (try with_reducible rfl)
  try simp only [Act.put, List.setIfInBounds_toArray, List.set_cons_zero, List.set_cons_succ]
  refine zg_take 1 (v := ?_) (by simp only [List.getElem?_toArray, List.getElem?_cons_succ, List.getElem?_cons_zero]; rfl) (by kernel_rfl) ?_ (by assumption) (Or.inl ⟨by rfl, ?_⟩) ?_
  rotate_left
  · exact fun _ _ _ h => h
  · intro wS hSw; (try dsimp only at hSw); go_simp <;> (try with_reducible rfl)
  try simp only [Act.put, List.setIfInBounds_toArray, List.set_cons_zero, List.set_cons_succ]
  refine zg_take 2 (v := ?_) (by simp only [List.getElem?_toArray, List.getElem?_cons_succ, List.getElem?_cons_zero]; rfl) (by kernel_rfl) ?_ (by assumption) (Or.inl ⟨by rfl, ?_⟩) ?_
  rotate_left
  · exact fun _ _ _ h => h
  · intro wS hSw; (try dsimp only at hSw); go_simp <;> (try with_reducible rfl)
  try simp only [Act.put, List.setIfInBounds_toArray, List.set_cons_zero, List.set_cons_succ]
  refine zg_take 3 (v := ?_) (by simp only [List.getElem?_toArray, List.getElem?_cons_succ, List.getElem?_cons_zero]; rfl) (by kernel_rfl) ?_ (by assumption) (Or.inl ⟨by rfl, ?_⟩) ?_
  rotate_left
  · exact fun _ _ _ h => h
  · intro wS hSw; (try dsimp only at hSw); go_simp <;> (try with_reducible rfl)
  try simp only [Act.put, List.setIfInBounds_toArray, List.set_cons_zero, List.set_cons_succ]
  refine zg_take 4 (v := ?_) (by simp only [List.getElem?_toArray, List.getElem?_cons_succ, List.getElem?_cons_zero]; rfl) (by kernel_rfl) ?_ (by assumption) (Or.inl ⟨by rfl, ?_⟩) ?_
  rotate_left
  · exact fun _ _ _ h => h
  · intro wS hSw; (try dsimp only at hSw); go_simp <;> (try with_reducible rfl)
  try simp only [Act.put, List.setIfInBounds_toArray, List.set_cons_zero, List.set_cons_succ]
  refine zg_take 5 (v := ?_) (by simp only [List.getElem?_toArray, List.getElem?_cons_succ, List.getElem?_cons_zero]; rfl) (by kernel_rfl) ?_ (by assumption) (Or.inl ⟨by rfl, ?_⟩) ?_
  rotate_left
  · exact fun _ _ _ h => h
  · intro wS hSw; (try dsimp only at hSw); go_simp <;> (try with_reducible rfl)
  try simp only [Act.put, List.setIfInBounds_toArray, List.set_cons_zero, List.set_cons_succ]
  refine zg_take 6 (v := ?_) (by simp only [List.getElem?_toArray, List.getElem?_cons_succ, List.getElem?_cons_zero]; rfl) (by kernel_rfl) ?_ (by assumption) (Or.inl ⟨by rfl, ?_⟩) ?_
  rotate_left
  · exact fun _ _ _ h => h
  · intro wS hSw; (try dsimp only at hSw); go_simp <;> (try with_reducible rfl)
  try simp only [Act.put, List.setIfInBounds_toArray, List.set_cons_zero, List.set_cons_succ]
  refine zg_take 7 (v := ?_) (by simp only [List.getElem?_toArray, List.getElem?_cons_succ, List.getElem?_cons_zero]; rfl) (by kernel_rfl) ?_ (by assumption) (Or.inl ⟨by rfl, ?_⟩) ?_
  rotate_left
  · exact fun _ _ _ h => h
  · intro wS hSw; (try dsimp only at hSw); go_simp <;> (try with_reducible rfl)
  try simp only [Act.put, List.setIfInBounds_toArray, List.set_cons_zero, List.set_cons_succ]
  refine zg_take 8 (v := ?_) (by simp only [List.getElem?_toArray, List.getElem?_cons_succ, List.getElem?_cons_zero]; rfl) (by kernel_rfl) ?_ (by assumption) (Or.inl ⟨by rfl, ?_⟩) ?_
  rotate_left
  · exact fun _ _ _ h => h
  · intro wS hSw; (try dsimp only at hSw); go_simp <;> (try with_reducible rfl)
  try simp only [Act.put, List.setIfInBounds_toArray, List.set_cons_zero, List.set_cons_succ]
  refine zg_take 9 (v := ?_) (by simp only [List.getElem?_toArray, List.getElem?_cons_succ, List.getElem?_cons_zero]; rfl) (by kernel_rfl) ?_ (by assumption) (Or.inl ⟨by rfl, ?_⟩) ?_
  rotate_left
  · exact fun _ _ _ h => h
  · intro wS hSw; (try dsimp only at hSw); go_simp <;> (try with_reducible rfl)
  try simp only [Act.put, List.setIfInBounds_toArray, List.set_cons_zero, List.set_cons_succ]
  refine zg_take 10 (v := ?_) (by simp only [List.getElem?_toArray, List.getElem?_cons_succ, List.getElem?_cons_zero]; rfl) (by kernel_rfl) ?_ (by assumption) (Or.inl ⟨by rfl, ?_⟩) ?_
  rotate_left
  · exact fun _ _ _ h => h
  · intro wS hSw; (try dsimp only at hSw); go_simp <;> (try with_reducible rfl)
  try simp only [Act.put, List.setIfInBounds_toArray, List.set_cons_zero, List.set_cons_succ]
  refine zg_take 12 (v := ?_) (by simp only [List.getElem?_toArray, List.getElem?_cons_succ, List.getElem?_cons_zero]; rfl) (by kernel_rfl) ?_ (by assumption) (Or.inl ⟨by rfl, ?_⟩) ?_
  rotate_left
  · exact fun _ _ _ h => h
  · intro wS hSw; (try dsimp only at hSw); go_simp <;> (try with_reducible rfl)
  try simp only [Act.put, List.setIfInBounds_toArray, List.set_cons_zero, List.set_cons_succ]
  refine zg_take 13 (v := ?_) (by simp only [List.getElem?_toArray, List.getElem?_cons_succ, List.getElem?_cons_zero]; rfl) (by kernel_rfl) ?_ (by assumption) (Or.inl ⟨by rfl, ?_⟩) ?_
  rotate_left
  · exact fun _ _ _ h => h
  · intro wS hSw; (try dsimp only at hSw); go_simp <;> (try with_reducible rfl)
  try simp only [Act.put, List.setIfInBounds_toArray, List.set_cons_zero, List.set_cons_succ]
  refine zg_one 11 (by simp only [List.getElem?_toArray, List.getElem?_cons_succ, List.getElem?_cons_zero]; rfl) (by kernel_rfl) (fun K hK => ?_)
  go_simp
  refine hK.out _ _ ?_ (fun hHeld => ?_)
  · (try dsimp only); first | exact MC.of HB3.out HOB3.out | exact MC.of (((Upd.alloc (fun _ => False) w1 (.cells #[] 3)).trans (Upd.drew _ _)).blk HBM.out (fun h => h)) (((Upd.alloc (fun _ => False) w1 (.cells #[] 3)).trans (Upd.drew _ _)).blk HOB.out (fun h => h)) | exact MC.of (move_k1 HBM.out rfl HV1.out) (move_k1 HOB.out rfl HV1.out) | exact MC.of ((Upd.alloc (fun _ => False) _ _).blk (move_k1 HBM.out rfl HV1.out) (fun h => h)) ((Upd.alloc (fun _ => False) _ _).blk (move_k1 HOB.out rfl HV1.out) (fun h => h))
  clear hK K
  try simp only [Act.put, List.setIfInBounds_toArray, List.set_cons_zero, List.set_cons_succ]
  refine zg_one 14 (by simp only [List.getElem?_toArray, List.getElem?_cons_succ, List.getElem?_cons_zero]; rfl) (by kernel_rfl) (fun K hK => ?_)
  refine step_app (v := .slice (some ⟨w1.heap.size, 0, none⟩) 0 0) Try.ints (by rfl) (.tmp 42) (.tmp 44) (by rfl) (by rfl) (made0 w1) (by rfl) (rd0 HRD1.out) (ints_oneCell _ _) m (by omega) (by omega) (by omega) (le0 w1) ?_; intro A' cc w2 own1 u1 at1 ne1; have HO1 := hide own1; have HV1 := hide u1; have HN1 := hide ne1; clear own1 u1 at1 ne1
  refine hK.out _ _ ?_ (fun hHeld => ?_)
  · (try dsimp only); first | exact MC.of HB3.out HOB3.out | exact MC.of (((Upd.alloc (fun _ => False) w1 (.cells #[] 3)).trans (Upd.drew _ _)).blk HBM.out (fun h => h)) (((Upd.alloc (fun _ => False) w1 (.cells #[] 3)).trans (Upd.drew _ _)).blk HOB.out (fun h => h)) | exact MC.of (move_k1 HBM.out rfl HV1.out) (move_k1 HOB.out rfl HV1.out) | exact MC.of ((Upd.alloc (fun _ => False) _ _).blk (move_k1 HBM.out rfl HV1.out) (fun h => h)) ((Upd.alloc (fun _ => False) _ _).blk (move_k1 HOB.out rfl HV1.out) (fun h => h))
  clear hK K
  try simp only [Act.put, List.setIfInBounds_toArray, List.set_cons_zero, List.set_cons_succ]
  refine zg_take 15 (v := ?_) (by simp only [List.getElem?_toArray, List.getElem?_cons_succ, List.getElem?_cons_zero]; rfl) (by kernel_rfl) ?_ (by assumption) (Or.inl ⟨by rfl, ?_⟩) ?_
  rotate_left
  · exact fun _ _ _ h => h
  · intro wS hSw; (try dsimp only at hSw); go_simp <;> (try with_reducible rfl)
  try simp only [Act.put, List.setIfInBounds_toArray, List.set_cons_zero, List.set_cons_succ]
  refine zg_one 16 (by simp only [List.getElem?_toArray, List.getElem?_cons_succ, List.getElem?_cons_zero]; rfl) (by kernel_rfl) (fun K hK => ?_)
  go_simp
  refine hK.out _ _ ?_ (fun hHeld => ?_)
  · (try dsimp only); first | exact MC.of HB3.out HOB3.out | exact MC.of (((Upd.alloc (fun _ => False) w1 (.cells #[] 3)).trans (Upd.drew _ _)).blk HBM.out (fun h => h)) (((Upd.alloc (fun _ => False) w1 (.cells #[] 3)).trans (Upd.drew _ _)).blk HOB.out (fun h => h)) | exact MC.of (move_k1 HBM.out rfl HV1.out) (move_k1 HOB.out rfl HV1.out) | exact MC.of ((Upd.alloc (fun _ => False) _ _).blk (move_k1 HBM.out rfl HV1.out) (fun h => h)) ((Upd.alloc (fun _ => False) _ _).blk (move_k1 HOB.out rfl HV1.out) (fun h => h))
  clear hK K
  try simp only [Act.put, List.setIfInBounds_toArray, List.set_cons_zero, List.set_cons_succ]
  refine zg_one 17 (by simp only [List.getElem?_toArray, List.getElem?_cons_succ, List.getElem?_cons_zero]; rfl) (by kernel_rfl) (fun K hK => ?_)
  refine step_app (v := .slice Al k cl) Try.objs (by rfl) (.tmp 35) (.tmp 47) (by rfl) (by rfl) ((Upd.alloc (fun _ => False) _ _).own (move_o1 HRW.out rfl HV1.out) (fun _ _ h => h)) (by rfl) (Rd.new3 _ _ _ _ 73 rfl) (oneO _ _ _ _ _) (k + 1) (by omega) (by omega) (by omega) (by have := HLE.out; have := HV1.out.size; simp at *; omega) ?_; intro A2 c2 w3 own2 u2 at2 ne2; have HO2 := hide own2; have HV2 := hide u2; have HAT2 := hide at2; clear own2 u2 at2 ne2; have HB3 := hide (HV2.out.blk ((Upd.alloc (fun _ => False) _ _).blk (move_k1 HBM.out rfl HV1.out) (fun h => h)) (fun e => own_ne_blk HRW.out HBM.out (by decide) _ e rfl)); have HOB3 := hide (HV2.out.blk ((Upd.alloc (fun _ => False) _ _).blk (move_k1 HOB.out rfl HV1.out) (fun h => h)) (fun e => HVO.out _ e rfl)); have hfz3 := HB3.out.free 1; have hcz3 := (MC.of HB3.out HOB3.out).1
  refine hK.out _ _ ?_ (fun hHeld => ?_)
  · (try dsimp only); first | exact MC.of HB3.out HOB3.out | exact MC.of (((Upd.alloc (fun _ => False) w1 (.cells #[] 3)).trans (Upd.drew _ _)).blk HBM.out (fun h => h)) (((Upd.alloc (fun _ => False) w1 (.cells #[] 3)).trans (Upd.drew _ _)).blk HOB.out (fun h => h)) | exact MC.of (move_k1 HBM.out rfl HV1.out) (move_k1 HOB.out rfl HV1.out) | exact MC.of ((Upd.alloc (fun _ => False) _ _).blk (move_k1 HBM.out rfl HV1.out) (fun h => h)) ((Upd.alloc (fun _ => False) _ _).blk (move_k1 HOB.out rfl HV1.out) (fun h => h))
  clear hK K
  try simp only [Act.put, List.setIfInBounds_toArray, List.set_cons_zero, List.set_cons_succ]
  refine zg_take 18 (v := ?_) (by simp only [List.getElem?_toArray, List.getElem?_cons_succ, List.getElem?_cons_zero]; rfl) (by kernel_rfl) ?_ (by assumption) (Or.inl ⟨by rfl, ?_⟩) ?_
  rotate_left
  · exact fun _ _ _ h => h
  · intro wS hSw; (try dsimp only at hSw); go_simp <;> (try with_reducible rfl)
  try simp only [Act.put, List.setIfInBounds_toArray, List.set_cons_zero, List.set_cons_succ]
  refine zg_take 19 (v := ?_) (by simp only [List.getElem?_toArray, List.getElem?_cons_succ, List.getElem?_cons_zero]; rfl) (by kernel_rfl) ?_ (by assumption) (Or.inl ⟨by rfl, ?_⟩) ?_
  rotate_left
  · exact fun _ _ _ h => h
  · intro wS hSw; (try dsimp only at hSw); go_simp <;> (try with_reducible rfl)
  try simp only [Act.put, List.setIfInBounds_toArray, List.set_cons_zero, List.set_cons_succ]
  refine zg_last (by simp only [List.getElem?_toArray, List.getElem?_cons_succ, List.getElem?_cons_zero]; rfl) (by kernel_rfl) (fun K hK => ?_)
  go_simp
  refine hK.out _ _ ?_
  clear hK K
  try simp only [Act.put, List.setIfInBounds_toArray, List.set_cons_zero, List.set_cons_succ]
  have HB4 : Hid (Blk (w3.setCell ⟨mb, 1, none⟩ (.slice A2 (k + 1) c2)) mb 76 #[.slice (some ⟨ga, 0, none⟩) n ca, .slice A2 (k + 1) c2, .int .i64 (t : Int)]) := HB3.out.set 1 (.slice A2 (k + 1) c2)
  have hmo : mb ≠ ob := HB3.out.ne HOB3.out (by decide)
  have hu4 : Upd (fun q => q = mb) w3 (w3.setCell ⟨mb, 1, none⟩ (.slice A2 (k + 1) c2)) := Upd.set _ _ _ rfl
  have HOB4 : Hid (Blk (w3.setCell ⟨mb, 1, none⟩ (.slice A2 (k + 1) c2)) ob 73 #[.int .i64 z, .int .i64 kd, .slice (some ⟨g.1, 0, none⟩) m g.2]) := hu4.blk HOB3.out (fun e => hmo e.symm)
  have HAR : Hid (∀ w', Upd (fun _ => False) (w3.setCell ⟨mb, 1, none⟩ (.slice A2 (k + 1) c2)) w' → w'.ownsRow B 3 1 (.slice (some ⟨ga, 0, none⟩) n ca) n ((movedL L T).map (.int .i64))) := by
    have h1 := HM1.out.mo
    rw [HL.out] at h1
    have h2 := (Upd.alloc (fun _ => False) w2 (.cells #[.int .i64 t, .int .i64 kd, .slice A' m cc] 73)).own (move_o1 h1 rfl HV1.out) (fun _ _ h => h)
    have h3 := HV2.out.own h2 (fun j hj e => own_ne_own HRW.out h1 (by decide) j e hj)
    have h4 := hu4.own h3 (fun j hj e => own_ne_blk h1 HBM.out (by decide) j hj e)
    exact fun w' hu => hu.own h4 fun _ _ h => h
  have HCG : Hid (∀ w', Upd (fun _ => False) (w3.setCell ⟨mb, 1, none⟩ (.slice A2 (k + 1) c2)) w' → w'.cell? ⟨ga, i, none⟩ = some (.int .i64 0) ∧ w'.frozen? ⟨ga, i, none⟩ = false) := by
    intro w' hu
    obtain ⟨_, _, _, _, _, _, _, hAA⟩ := own_form (HAR.out w' hu)
    obtain ⟨_, _, _, hfr, hc⟩ := hAA ga rfl
    exact ⟨hc i _ (by rw [List.getElem?_map, movedL_get T (by rw [HL.out]; exact hi), HN.out]; rfl), hfr i⟩
  have hgm : ga ≠ mb := own_ne_blk HM1.out.mo HM1.out.bm (by decide) ga (by rfl)
  have hgo : ga ≠ ob := fun e => own_ne_blk HM1.out.mo HOB.out (by decide) ga (by rfl) e
  clear hu4 hHeld hcz3 hfz3
  generalize hw4 : w3.setCell ⟨mb, 1, none⟩ (.slice A2 (k + 1) c2) = w4 at HB4 HOB4 HAR HCG ⊢
  have HW4 := hide hw4
  have b0 : w4.cell? ⟨mb, 0, none⟩ = some (.slice (some ⟨ga, 0, none⟩) n ca) := by rw [HB4.out.cell]; rfl
  have b2 : w4.cell? ⟨mb, 2, none⟩ = some (.int .i64 (t : Int)) := by rw [HB4.out.cell]; rfl
  have b2f := HB4.out.free 2
  have o2 : w4.cell? ⟨ob, 2, none⟩ = some (.slice (some ⟨g.1, 0, none⟩) m g.2) := by rw [HOB4.out.cell]; rfl
  obtain ⟨c4, f4⟩ := HCG.out w4 (Upd.refl _ _)
  clear hw4 HVO HRD1 HBM HRW HLE hmo
  have hin : (i : Int) < (n : Int) := by omega
  go_wp2_with fail
  refine wp_region_quiet_tail 11 (by kernel_rfl) (by kernel_rfl) ?_
  simp only [List.take_succ_cons, List.take_zero, List.drop_succ_cons, List.drop_zero]
  repeat (first | go_big_quiet_step (fail) | quiet_step (fail))
  refine wpQuiet_nil ?_
  rintro w5 ⟨nq, rfl⟩
  go_wp2_with fail
  refine wp_region_quiet_tail 12 (by kernel_rfl) (by kernel_rfl) ?_
  simp only [List.take_succ_cons, List.take_zero, List.drop_succ_cons, List.drop_zero]
  repeat (first | go_big_quiet_step (fail) | quiet_step (fail))
  refine wpQuiet_nil ?_
  rintro w6 ⟨nq2, rfl⟩
  go_wp2_with fail
  go_ret
  refine ⟨ri64 ?_, mover_end HM.out HO.out HN.out HTT.out HFF.out HMM.out HKD.out ?_ HT.out (by rfl) HU1.out HV1.out HO1.out HN1.out (Upd.alloc (fun _ => False) _ _) (HV2.out.mono (T := fun q => (Value.slice Al (obs T).length cl).ownBlock = some q) fun q _ h => (ob_len ..).trans h) HO2.out (HAT2.out.imp (fun h => h.trans (ob_len ..)) id) ?_⟩
  · show (t : Int) * 8 + 5 = (total (obs T) : Int) * 8 + 5
    rw [HT.out]
  · rw [HK.out]
  · rw [← HW4.out]
    exact ⟨rfl, rfl, rfl, Nat.le_refl _, fun _ _ _ => rfl⟩

theorem rmove_any (h : MS w B rb mb lim L T FH FT) (hlt : ∀ k, FH k → k < w.heap.size) (x : Int) (hr : rightL L x = true) (ht : total (obs (mv L T x).1) ≤ 4194304) :
    Calls Try.prog 44 #[.pointer (some ⟨mb, 0, none⟩), .pointer (some ⟨rb, 0, none⟩), .int .i64 x] w (MovePostR w B rb mb lim L FH FT (mv L T x)) := by
  have hsame : ∀ {r : Int} {e : Ending} {w' : World}, mv L T x = (T, r) → e = .returned (.int .i64 r) ∧ w = w' → MovePostR w B rb mb lim L FH FT (mv L T x) e w' := by
    rintro r e w' hm ⟨he, rfl⟩
    rw [hm]
    refine ⟨he, ?_, Upd.refl _ _⟩
    obtain ⟨v, G, va, vl, G', h1, f1, f2, f3, f4, f5, f6⟩ := h
    exact ⟨v, G, va, vl, G', h1, f1, f2, .inl f3, fun k hk => .inl (f4 k hk), fun k hk => .inl (f5 k hk), fun k hk hg => hg.elim (f6 k hk) fun h => by have := hlt k hk; omega⟩
  cases hp : isP x with
  | false => exact (rmove_plain _ _ w hp).mono fun e w' hh => hsame (by simp [mv, hp]) hh
  | true =>
    have hh := h
    obtain ⟨v, G, va, vl, G', h1, f⟩ := h
    have hs := @objL_some L x
    rw [hp, hr] at hs
    obtain ⟨o, ho⟩ := Option.isSome_iff_exists.1 hs
    obtain ⟨i, hi, hl, _, hat⟩ := objL_ix ho
    have HF := hide (find_any h1.h (x := x) (r := i) (.inr ⟨i, o, ho, hi, hl, hp, hat, rfl⟩))
    have hx8 : (x / 8).toNat = offL L i := by omega
    obtain ⟨Aa, ca, hva, _, _, _, _, hAA⟩ := own_form h1.mo
    obtain ⟨ga, hga⟩ := own_some h1.mo (by omega)
    obtain ⟨rfl, _, _, _, hca⟩ := hAA ga hga
    have hm0 : w.cell? ⟨mb, 0, none⟩ = some (.slice (some ⟨ga, 0, none⟩) L.length ca) := by rw [h1.bm.cell, hva]; rfl
    obtain ⟨_, _, _, _, _, hll⟩ := h1.h.slice
    cases hn : newAt T (offL L i) with
    | some p =>
      have hm : mv L T x = (T, (p : Int) * 8 + 5) := by simp [mv, hp, hx8, hn]
      refine (rmove_gone hp HF hm0 hl hll (hca i _ (by rw [List.getElem?_map, movedL_get T hl, hn]; rfl)) ?_).mono fun e w' hh => hsame hm hh
      obtain ⟨j, o', hj, hpj⟩ := newAt_some hn
      rw [hm] at ht
      have := offs_lt (List.getElem?_eq_some_iff.1 hj).1
      simp only at ht
      omega
    | none =>
      have hat2 := atL_off hi
      have hm : mv L T x = (T ++ [(offL L i, o)], (total (obs T) : Int) * 8 + 5) := by simp [mv, hp, hx8, hn, hat2]
      rw [hm] at ht ⊢
      refine rmove_new h1 hp HF hi hn ?_ ⟨f.1, f.2.1, f.2.2.1, f.2.2.2.1, f.2.2.2.2.1, f.2.2.2.2.2, hlt⟩
      simp only [obs_append, total_append] at ht
      simp [obs, total_cons, total_nil] at ht ⊢
      omega
end
end Go.Proofs.Ytkmfohocicngaaa
