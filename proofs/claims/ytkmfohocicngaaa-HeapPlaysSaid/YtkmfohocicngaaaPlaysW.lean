/- HeapPlays, walked. -/
import Derived.Test.YtkmfohocicngaaaPlaysL
namespace Go.Proofs.Ytkmfohocicngaaa
open Go.RowKit
attribute [local go_sem ↓] Go.wp_at_zero Go.wp_at_succ

/-- One of a script's: what, kind, place, field; the list. -/
theorem alloc_i64 {lim : Int} {L : List Ob} {kind : Int} {xs : List Int} (h0 : lim ≤ 4194304) (h1 : (total L : Int) ≤ lim) : I64 (allocRes lim L kind xs).1 := by
  unfold allocRes
  split
  · exact ⟨by show (-9223372036854775808 : Int) ≤ 0; decide, by show (0 : Int) ≤ 9223372036854775807; decide⟩
  · split
    · exact ⟨by show (-9223372036854775808 : Int) ≤ 0; decide, by show (0 : Int) ≤ 9223372036854775807; decide⟩
    · exact ⟨by show _ ≤ (total L : Int) * 8 + 5; omega, by show (total L : Int) * 8 + 5 ≤ _; omega⟩

theorem coll_i64 {L : List Ob} {vs : List Int} (hL : WfL L) (ht : total L ≤ 4194304) (hi : ∀ v ∈ vs, I64 v) : ∀ x ∈ colO (collRes L vs), I64 x := by
  intro x hx
  cases hc : collRes L vs with
  | none => rw [hc] at hx; simp [colO] at hx
  | some q =>
    rw [hc] at hx
    have hr : ∀ v ∈ vs, rightL L v = true := by
      intro v hv
      cases hr : rightL L v with
      | true => rfl
      | false =>
        unfold collRes at hc
        rw [if_pos (List.any_eq_true.2 ⟨v, hv, by simp [hr]⟩)] at hc
        cases hc
    rw [collRes_right hr] at hc
    obtain rfl := Option.some.inj hc
    have hw := collect_wf vs hL ht
    obtain ⟨ho, hcm⟩ := collect_out vs hr
    simp only [colO] at hx
    rw [ho] at hx
    obtain ⟨v, hv, rfl⟩ := List.mem_map.1 hx
    exact (fwd_right (L := L) (hi v hv) (hcm v hv) (by have := hw.2; simp only [collectR] at this; omega) rfl).1

theorem coll_len {L : List Ob} {vs : List Int} : (colO (collRes L vs)).length ≤ vs.length := by
  cases hc : collRes L vs with
  | none => simp [colO]
  | some q =>
    unfold collRes at hc
    split at hc
    · cases hc
    · obtain rfl := Option.some.inj hc
      have : ∀ (T : Tl) (l : List Int), (mvs L T l).2.length = l.length := by
        intro T l
        induction l generalizing T with
        | nil => rfl
        | cons a l ih => simp [mvs, ih]
      simp [colO, collectR, this]

theorem flds_len {L : List Ob} (hL : WfL L) (p : Int) : ((fieldsL L p).getD []).length ≤ 65535 := by
  unfold fieldsL
  cases ho : objL L p with
  | none => simp
  | some o =>
    obtain ⟨i, hi, _⟩ := objL_ix ho
    exact (hL.each o (List.mem_of_getElem? hi)).len

/-- Hidden: what a box holds, told as cells. -/
theorem box_cells {w : World} {g : Nat} {x0 x1 x2 x3 x4 : Value} (h : Blk w g 47 #[x0, x1, x2, x3, x4]) :
    w.cell? ⟨g, 0, none⟩ = some x0 ∧ w.cell? ⟨g, 1, none⟩ = some x1 ∧ w.cell? ⟨g, 2, none⟩ = some x2 ∧ w.cell? ⟨g, 3, none⟩ = some x3 ∧ w.cell? ⟨g, 4, none⟩ = some x4 :=
  ⟨by rw [h.cell]; rfl, by rw [h.cell]; rfl, by rw [h.cell]; rfl, by rw [h.cell]; rfl, by rw [h.cell]; rfl⟩

theorem PK.first {w0 w : World} {b rb : Nat} {lim : Int} {L M : List Ob} {bx : Option (Nat × Array Value)} {rs : List RowK} (h : PK w0 w b rb lim L M bx rs) {A : Option Addr} {n c : Nat} {xs : List Int} (hr : (A, n, c, xs) ∈ rs) (hn : n = xs.length) (h0 : 0 < n) (hi : ∀ x ∈ xs, I64 x) :
    ∃ g v, A = some ⟨g, 0, none⟩ ∧ xs[0]? = some v ∧ I64 v := by
  have ho := h.own hr
  obtain ⟨A1, c1, hv1, _, _, _, _, hA⟩ := own_form ho
  obtain ⟨g, hg⟩ := own_some ho h0
  obtain ⟨hAg, _⟩ := hA g hg
  injection hv1 with hv1
  exact ⟨g, xs[0]'(by omega), by rw [hv1, hAg], List.getElem?_eq_getElem (by omega), hi _ (List.getElem_mem _)⟩

theorem PK.two {w0 w : World} {b rb : Nat} {lim : Int} {L M : List Ob} {rs : List RowK} {ob : Nat} {x0 x1 x2 x3 x4 : Value} (h : PK w0 w b rb lim L M (some (ob, #[x0, x1, x2, x3, x4])) rs) {g n c : Nat} {xs : List Int} {v : Int} (hr : (some ⟨g, 0, none⟩, n, c, xs) ∈ rs) (hv : xs[0]? = some v) :
    w.cell? ⟨ob, 3, none⟩ = some x3 ∧ w.cell? ⟨g, 0, none⟩ = some (.int .i64 v) := by
  obtain ⟨A1, c1, hv1, _, _, _, _, hA⟩ := own_form (h.own hr)
  obtain ⟨_, _, _, _, hc⟩ := hA g rfl
  exact ⟨(box_cells h.blk).2.2.2.1, hc 0 _ (by rw [List.getElem?_map, hv]; rfl)⟩

def SetQ (w0 : World) (b rb : Nat) (lim : Int) (L M : List Ob) (bx : Option (Nat × Array Value)) (rs : List RowK) (ev : Int) (e : Ending) (w' : World) : Prop := e = .returned (.int .i64 ev) ∧ Hid (PK w0 w' b rb lim L M bx rs)

theorem PK.set2 {w0 w : World} {b rb : Nat} {lim : Int} {L M : List Ob} {bx : Option (Nat × Array Value)} {rs : List RowK} (h : PK w0 w b rb lim L M bx rs) (p i v : Int) (hp : I64 p) (hv : I64 v) {ev : Int} (hev : (if setRes L p i v = none then (1 : Int) else 0) = ev) {L' : List Ob} (hL : (setRes L p i v).getD L = L') :
    Calls Try.prog 17 #[.pointer (some ⟨b, 0, none⟩), .int .i64 p, .int .i64 i, .int .i64 v] w (SetQ w0 b rb lim L' M bx rs ev) := by
  subst hev hL
  exact h.set p i v hp hv

theorem PK.rset2 {w0 w : World} {b rb : Nat} {lim : Int} {L M : List Ob} {bx : Option (Nat × Array Value)} {rs : List RowK} (h : PK w0 w b rb lim L M bx rs) (p i v : Int) (hv : I64 v) {ev : Int} (hev : (if setRes M p i v = none then (1 : Int) else 0) = ev) {M' : List Ob} (hL : (setRes M p i v).getD M = M') :
    Calls Try.prog 22 #[.pointer (some ⟨rb, 0, none⟩), .int .i64 p, .int .i64 i, .int .i64 v] w (SetQ w0 b rb lim L M' bx rs ev) := by
  subst hev hL
  exact h.rset p i v hv

abbrev OpV := (Int × Int × Int × Int) × RowK

/-- What a slice of a script's ops reads as. -/
def OpsRd (w : World) (A : Option Addr) (n : Nat) (ops : List OpV) : Prop :=
  n = ops.length ∧ ∀ (i : Nat) (o : OpV), ops[i]? = some o → ∃ gb go gs, A = some ⟨gb, go, gs⟩ ∧
    w.cell? ((⟨gb, go, gs⟩ : Addr).add (i * 5)) = some (.int .i64 o.1.1) ∧ w.cell? ⟨((⟨gb, go, gs⟩ : Addr).add (i * 5)).block, ((⟨gb, go, gs⟩ : Addr).add (i * 5)).off + 1, none⟩ = some (.int .i64 o.1.2.1) ∧ w.cell? ⟨((⟨gb, go, gs⟩ : Addr).add (i * 5)).block, ((⟨gb, go, gs⟩ : Addr).add (i * 5)).off + 2, none⟩ = some (.int .i64 o.1.2.2.1) ∧
    w.cell? ⟨((⟨gb, go, gs⟩ : Addr).add (i * 5)).block, ((⟨gb, go, gs⟩ : Addr).add (i * 5)).off + 3, none⟩ = some (.int .i64 o.1.2.2.2) ∧ w.cell? ⟨((⟨gb, go, gs⟩ : Addr).add (i * 5)).block, ((⟨gb, go, gs⟩ : Addr).add (i * 5)).off + 4, none⟩ = some (.slice o.2.1 o.2.2.1 o.2.2.2.1) ∧
    Rd w (.slice o.2.1 o.2.2.1 o.2.2.2.1) 1 o.2.2.1 (o.2.2.2.2.map (.int .i64)) ∧ o.2.2.1 = o.2.2.2.2.length ∧ o.2.2.1 ≤ 9223372036854775807 ∧ (∀ x ∈ o.2.2.2.2, I64 x) ∧ I64 o.1.2.2.1

set_option maxRecDepth 100000 in
set_option maxHeartbeats 4000000 in
theorem plays_walk (words : Int) (A : Option Addr) (n c : Nat) (ops : List OpV) (w : World) (hx : OpsRd w A n ops) (hl : n ≤ 9223372036854775807) :
    Calls Try.prog 6 #[.int .i64 words, .slice A n c] w fun e w' => e = .returned (.bool true) ∧ Below w.heap.size w w' := by
  have HX := hide hx
  clear hx
  by_cases hw : words < 0 ∨ 4194304 < words
  · have HN := hide (fun w => new_no w hw)
    have HR := hide (fun w => rnew_no w hw)
    clear hw
    go_enter Try.func6, Try.ntmps6
    go_wp2_with (first | (go_at_call 9; refine (awake_any _).mono ?_; rintro e w1 ⟨rfl, hb1⟩; have HB1 := hide hb1; clear hb1) | (go_at_call 10; refine (HN.out _).mono ?_; rintro e w2 ⟨rfl, rfl⟩) | (go_at_call 19; refine (HR.out _).mono ?_; rintro e w3 ⟨rfl, rfl⟩))
    go_ret
    exact ⟨rb rfl, HB1.out⟩
  · have HN := hide (fun w => new_yes w (n := words) (by omega) (by omega))
    have HR := hide (fun w => rnew_yes w (n := words) (by omega) (by omega))
    have HW1 : Hid (0 ≤ words) := by show 0 ≤ words; omega
    have HW2 : Hid (words ≤ 4194304) := by show words ≤ 4194304; omega
    clear hw
    by_cases hbig : 60 < n
    · go_enter Try.func6, Try.ntmps6
      go_wp2_with (first | (go_at_call 9; refine (awake_any _).mono ?_; rintro e w1 ⟨rfl, hb1⟩; have HB1 := hide hb1; clear hb1) | (go_at_call 10; refine (HN.out _).mono ?_; rintro e w2 ⟨rfl, rfl⟩) | (go_at_call 19; refine (HR.out _).mono ?_; rintro e w3 ⟨rfl, rfl⟩))
      go_ret
      exact ⟨rb rfl, (PK.new HB1.out HW1.out HW2.out).below⟩
    · go_enter Try.func6, Try.ntmps6
      go_wp2_with (first | (go_at_call 9; refine (awake_any _).mono ?_; rintro e w1 ⟨rfl, hb1⟩; have HB1 := hide hb1; clear hb1) | (go_at_call 10; refine (HN.out _).mono ?_; rintro e w2 ⟨rfl, rfl⟩) | (go_at_call 19; refine (HR.out _).mono ?_; rintro e w3 ⟨rfl, rfl⟩))
      have HP := hide (PK.new HB1.out HW1.out HW2.out)
      clear HB1 HN HR HW1 HW2
      generalize (w1.alloc (.cells #[.slice none 0 0, .slice none 0 0, .int .i64 words, .bool true] 58)).alloc (.cells #[.int .i64 words, .slice none 0 0] 71) = W at HP ⊢
      generalize w1.heap.size + 1 = rh at HP ⊢
      generalize w1.heap.size = b at HP ⊢
      go_loopw [10, 11] (fun tv iv wr => ∃ (j k : Nat) (A1 : Option Addr) (c1 : Nat) (L : List Ob) (ps : List Int), j ≤ n ∧ iv = .int .i64 j ∧ tv = .slice A1 k c1 ∧ Hid (k = ps.length) ∧ k ≤ 40 + j ∧ Hid (∀ p ∈ ps, I64 p) ∧ Hid (PK w wr b rh words L L none [(A1, k, c1, ps)])) (fun _ iv _ => n - (intOf iv).toNat)
      case atStart => exact ⟨0, 0, none, 0, [], [], Nat.zero_le _, rfl, rfl, rfl, by omega, fun p h => by simp at h, HP.out⟩
      case round =>
        clear HP
        obtain ⟨j, k, A1, c1, L, ps, hj, rfl, rfl, HK, hk, HI, HP⟩ := hrel
        by_cases hlt : j < n
        · obtain ⟨⟨⟨q0, q1, q2, q3⟩, Al, nl, cl, xs⟩, ho⟩ : ∃ o, ops[j]? = some o := ⟨_, List.getElem?_eq_getElem (by rw [← HX.out.1]; exact hlt)⟩
          obtain ⟨gb, go, gs, rfl, hc0, hc1, hc2, hc3, hc4, hrd, hnl, hll, hxi, hp2⟩ := HX.out.2 j _ ho
          have hbl := HP.out.below
          have HRD := hide (hrd.below hbl)
          replace hc0 := cell_below hbl hc0
          replace hc1 := cell_below hbl hc1
          replace hc2 := cell_below hbl hc2
          replace hc3 := cell_below hbl hc3
          replace hc4 := cell_below hbl hc4
          have HNL := hide hnl
          have HXI := hide hxi
          have HP2 := hide hp2
          clear hrd hnl hxi hp2 ho hbl
          have hand := bits_and3 q0
          go_wp2_with fail
          have HB := hide (HP.out.box (cs := #[.int .i64 q0, .int .i64 q1, .int .i64 q2, .int .i64 q3, .slice Al nl cl]))
          refine (HB.out.values mem0 HK.out (by omega) (HRD.out.keep (Upd.alloc (fun _ => False) _ _) (fun _ _ h => h)) HNL.out hll HXI.out).mono ?_
          rintro e w2 ⟨A2, n2, c2, rfl, hn2, HB2⟩
          have HVI : Hid (∀ v ∈ valuesL xs ps, I64 v) := by
            intro v hv
            obtain ⟨z, hz, rfl⟩ := List.mem_map.1 hv
            exact valW_i64 (HXI.out z (List.mem_of_mem_take hz)) HI.out
          have hn40 : n2 ≤ 40 := by rw [hn2]; simp [valuesL]; omega
          have HPI : Hid (I64 (valW ps q2)) := valW_i64 HP2.out HI.out
          have HP2X := HP2
          generalize valuesL xs ps = vs at hn2 HB2 HVI
          have HN2 := hide hn2
          obtain ⟨hWF, hlim0, hlim1, htot⟩ := HB2.out.wf
          have HWF := hide hWF
          have HTOT := hide htot
          have HLIM := hide hlim1
          have htl : total L ≤ 4194304 := by omega
          clear hn2 HB HP HRD hc0 hc1 hc2 hc3 hc4 HNL HXI HP2 hll hWF htot hlim0 hlim1
          generalize wr.heap.size = ob at HB2 ⊢
          obtain ⟨b0, b1, b2, b3, b4⟩ := box_cells HB2.out.blk
          by_cases h0 : q0 % 4 = 0
          · rw [h0] at hand
            clear h0
            go_wp2_with fail
            refine (HB2.out.alloc q1 mem0 HN2.out (by omega) HVI.out).mono ?_
            rintro e w3 ⟨rfl, HB3⟩
            have HRI := hide (alloc_i64 (kind := q1) (xs := vs) HLIM.out HTOT.out)
            clear b0 b1 b2 b3 b4 HB2
            obtain ⟨b0, b1, b2, b3, b4⟩ := box_cells HB3.out.blk
            go_wp2_with fail
            refine (HB3.out.ralloc q1 mem0 HN2.out HVI.out).mono ?_
            rintro e w4 ⟨rfl, HB4⟩
            clear b0 b1 b2 b3 b4 HB3
            generalize allocRes words L q1 vs = r at HB4 HRI ⊢
            obtain ⟨r1, r2, L'⟩ := r
            simp only [] at HB4 HRI ⊢
            cases hr2 : (r2 == 0)
            · have HU1 := hide HB4.out.used
              have HU2 := hide HB4.out.rused
              generalize (total L' : Int) = u at HU1 HU2
              go_wp2_with (first | (go_at_call 12; refine HU1.out.mono ?_; rintro e w9 ⟨rfl, rfl⟩) | (go_at_call 27; refine HU2.out.mono ?_; rintro e w9 ⟨rfl, rfl⟩))
              go_roundw
              case rel => exact ⟨j + 1, k, A1, c1, L', ps, by omega, by go_num, rfl, HK.out, by omega, HI.out, (HB4.out.less fun r hr => List.mem_cons_of_mem _ hr).unbox⟩
              case measure => simp [intOf]; omega
            · go_wp2_with (at_builtin; refine wpList_app (v := .slice A1 k c1) (u := .slice (some ⟨w4.heap.size, 0, none⟩) 1 1) Try.ints rfl (.tmp 156) (.tmp 158) rfl rfl ((Upd.alloc (fun _ => False) _ _).own (HB4.out.own mem1) (fun _ _ h => h)) rfl (Rd.new1 _ (.int .i64 r1) 3 rfl) (by simp [Value.oneCell']) (k + 1) rfl (by omega) (by omega) (by have := HB4.out.below.size; simp; omega) ?_; intro A3 c3 w5 own2 u2 at2 ne2; have HB5 := hide (HB4.out.told mem1 u2 own2 at2); clear ne2 own2 u2 at2)
              have HU1 := hide HB5.out.used
              have HU2 := hide HB5.out.rused
              generalize (total L' : Int) = u at HU1 HU2
              have HK5 : Hid (k + 1 = (ps ++ [r1]).length) := by have := HK.out; show k + 1 = _; simp; omega
              have HI5 : Hid (∀ p ∈ ps ++ [r1], I64 p) := by
                intro p hp
                rcases List.mem_append.1 hp with hp | hp
                · exact HI.out p hp
                · obtain rfl := List.mem_singleton.1 hp
                  exact HRI.out
              clear HB4
              go_wp2_with (first | (go_at_call 12; refine HU1.out.mono ?_; rintro e w9 ⟨rfl, rfl⟩) | (go_at_call 27; refine HU2.out.mono ?_; rintro e w9 ⟨rfl, rfl⟩))
              go_roundw
              case rel => exact ⟨j + 1, k + 1, A3, c3, L', ps ++ [r1], by omega, by go_num, rfl, HK5.out, by omega, HI5.out, HB5.out.unbox⟩
              case measure => simp [intOf]; omega
          · by_cases h1 : q0 % 4 = 1
            · rw [h1] at hand
              clear h0 h1
              go_wp2_with fail
              refine (HB2.out.one (x := q2) mem1 HK.out (by omega) HP2X.out).mono ?_
              rintro e w3 ⟨rfl, HB3⟩
              generalize valW ps q2 = p at HPI ⊢
              clear b0 b1 b2 b3 b4 HB2
              by_cases hz : n2 = 0
              · subst hz
                have HU1 := hide (fun q => (HB3.out.keep (Upd.drewN _ w3 q)).used)
                have HU2 := hide (fun q => (HB3.out.keep (Upd.drewN _ w3 q)).rused)
                generalize (total L : Int) = u at HU1 HU2
                go_wp2_with fail
                go_quiet (fail)
                go_wp2_with (first | (go_at_call 12; refine (HU1.out _).mono ?_; rintro e w9 ⟨rfl, rfl⟩) | (go_at_call 27; refine (HU2.out _).mono ?_; rintro e w9 ⟨rfl, rfl⟩))
                go_roundw
                case rel => exact ⟨j + 1, k, A1, c1, L, ps, by omega, by go_num, rfl, HK.out, by omega, HI.out, ((HB3.out.keep (Upd.drewN _ w3 _)).less fun r hr => List.mem_cons_of_mem _ hr).unbox⟩
                case measure => simp [intOf]; omega
              · have hpos : decide ((0 : Int) < (n2 : Int)) = true := by simp; omega
                have hposN : decide (0 < n2) = true := by simp; omega
                have h0N : 0 < n2 := by omega
                obtain ⟨g2, v0, rfl, hv0, hvi⟩ := HB3.out.first mem0 HN2.out (by omega) HVI.out
                obtain ⟨s1, s2⟩ := HB3.out.two mem0 hv0
                have HV0 := hide hv0
                have HVJ := hide hvi
                have h0i : (0 : Int) < (n2 : Int) := by omega
                obtain ⟨ev, hev⟩ : ∃ ev : Int, (if setRes L p q3 v0 = none then (1 : Int) else 0) = ev := ⟨_, rfl⟩
                obtain ⟨L', hL'⟩ : ∃ L', (setRes L p q3 v0).getD L = L' := ⟨_, rfl⟩
                have HC1 := hide ((HB3.out.keep (Upd.drew (fun _ => False) w3)).set2 p q3 v0 HPI.out HVJ.out hev hL')
                have HC2 : Hid (∀ w4, PK w w4 b rh words L' L (some (ob, #[.int .i64 q0, .int .i64 q1, .int .i64 q2, .int .i64 q3, .slice Al nl cl])) [(some ⟨g2, 0, none⟩, n2, c2, vs), (A1, k, c1, ps)] → _) := fun w4 h4 => h4.rset2 p q3 v0 HVJ.out hev hL'
                clear hv0 hvi hev hL'
                go_wp2_with fail
                go_region_held3 (fun w' => w'.cell? ⟨ob, 3, none⟩ = some (.int .i64 q3) ∧ w'.cell? ⟨g2, 0, none⟩ = some (.int .i64 v0)) (first | exact HB4.out.two mem0 HV0.out | exact HB5.out.two mem0 HV0.out | go_keep) (first | (go_at_call 17; refine HC1.out.mono ?_; rintro e w4 ⟨rfl, HB4⟩) | (go_at_call 22; refine (HC2.out _ HB4.out).mono ?_; rintro e w5 ⟨rfl, HB5⟩))
                have HU1 := hide HB5.out.used
                have HU2 := hide HB5.out.rused
                generalize (total L' : Int) = u at HU1 HU2
                clear HB4 HC1 HC2 HB3
                go_wp2_with (first | (go_at_call 12; refine HU1.out.mono ?_; rintro e w9 ⟨rfl, rfl⟩) | (go_at_call 27; refine HU2.out.mono ?_; rintro e w9 ⟨rfl, rfl⟩))
                go_roundw
                case rel => exact ⟨j + 1, k, A1, c1, L', ps, by omega, by go_num, rfl, HK.out, by omega, HI.out, (HB5.out.less fun r hr => List.mem_cons_of_mem _ hr).unbox⟩
                case measure => simp [intOf]; omega
            · by_cases h2 : q0 % 4 = 2
              · rw [h2] at hand
                clear h0 h1 h2
                go_wp2_with fail
                refine (HB2.out.collect mem0 HN2.out (by omega) HVI.out).mono ?_
                rintro e w3 ⟨A3, n3, c3, rfl, hn3, HB3⟩
                have HN3 := hide hn3
                have hn3l : n3 ≤ 40 := by have h1 := coll_len (L := L) (vs := vs); have := HN2.out; omega
                clear b0 b1 b2 b3 b4 hn3
                go_wp2_with fail
                refine (HB3.out.rcollect mem1 HN2.out (by omega)).mono ?_
                rintro e w4 ⟨A4, n4, c4, rfl, hn4, HB4⟩
                have HCI := hide (coll_i64 HWF.out htl HVI.out)
                have HN4 := hide hn4
                generalize collRes L vs = r at HB4 HN3 HN4 HCI ⊢
                clear HB3 HB2 hn4
                have HIN := hide (HB4.out.ints mem1 mem0 HN3.out HN4.out (by omega))
                cases r with
                | none =>
                  have hE : colE none = 1 := rfl
                  rw [hE]
                  clear hE
                  simp only [colL] at HB4
                  go_wp2_with fail
                  refine HIN.out.mono ?_
                  rintro e w7 ⟨rfl, q7, rfl⟩
                  have HB7 := hide (HB4.out.keep (Upd.drewN _ w4 q7))
                  have HU1 := hide HB7.out.used
                  have HU2 := hide HB7.out.rused
                  generalize (total L : Int) = u at HU1 HU2
                  generalize w4.drewN q7 = w7 at HB7 HU1 HU2 ⊢
                  clear HB4 HIN
                  go_wp2_with (first | (go_at_call 12; refine HU1.out.mono ?_; rintro e w9 ⟨rfl, rfl⟩) | (go_at_call 27; refine HU2.out.mono ?_; rintro e w9 ⟨rfl, rfl⟩))
                  go_roundw
                  case rel => exact ⟨j + 1, k, A1, c1, L, ps, by omega, by go_num, rfl, HK.out, by omega, HI.out, (HB7.out.less fun r hr => by obtain rfl := List.mem_singleton.1 hr; exact mem3).unbox⟩
                  case measure => simp [intOf]; omega
                | some q =>
                  obtain ⟨L', os⟩ := q
                  have hE : colE (some (L', os)) = 0 := by simp [colE]
                  rw [hE]
                  clear hE
                  simp only [colL] at HB4
                  go_wp2_with fail
                  refine HIN.out.mono ?_
                  rintro e w7 ⟨rfl, q7, rfl⟩
                  have HB7 := hide (HB4.out.keep (Upd.drewN _ w4 q7))
                  have HU1 := hide HB7.out.used
                  have HU2 := hide HB7.out.rused
                  generalize (total L' : Int) = u at HU1 HU2
                  generalize w4.drewN q7 = w7 at HB7 HU1 HU2 ⊢
                  clear HB4 HIN
                  go_wp2_with (first | (go_at_call 12; refine HU1.out.mono ?_; rintro e w9 ⟨rfl, rfl⟩) | (go_at_call 27; refine HU2.out.mono ?_; rintro e w9 ⟨rfl, rfl⟩))
                  go_roundw
                  case rel => exact ⟨j + 1, n3, A3, c3, L', os, by omega, by go_num, rfl, HN3.out, by omega, HCI.out, (HB7.out.less fun r hr => by obtain rfl := List.mem_singleton.1 hr; exact mem1).unbox⟩
                  case measure => simp [intOf]; omega
              · have h3 : q0 % 4 = 3 := by omega
                rw [h3] at hand
                clear h0 h1 h2 h3
                go_wp2_with fail
                refine (HB2.out.one (x := q2) mem1 HK.out (by omega) HP2X.out).mono ?_
                rintro e w3 ⟨rfl, HB3⟩
                generalize valW ps q2 = p at HPI ⊢
                have HKA := hide (HB3.out.kind p HPI.out)
                have HKB := hide (HB3.out.rkind p)
                have HFA := hide (HB3.out.fields p HPI.out)
                have hfl := flds_len HWF.out p
                obtain ⟨r, hr⟩ : ∃ r, fieldsL L p = r := ⟨_, rfl⟩
                rw [hr] at HFA hfl
                have HFL := hide hr
                clear hr
                generalize (kindL L p).1 = k1 at HKA HKB
                generalize (kindL L p).2 = k2 at HKA HKB
                clear b0 b1 b2 b3 b4 HB2
                go_wp2_with (first | (go_at_call 24; refine HKA.out.mono ?_; rintro e w9 ⟨rfl, rfl⟩) | (go_at_call 25; refine HKB.out.mono ?_; rintro e w9 ⟨rfl, rfl⟩))
                refine HFA.out.mono ?_
                rintro e w4 ⟨A3, n3, c3, rfl, hn3, HB4⟩
                have HN3 := hide hn3
                have hn3l : n3 ≤ 65535 := by rw [hn3]; exact hfl
                have HFB := hide (HB4.out.rfields p)
                rw [HFL.out] at HFB
                clear hn3 HFA HB3
                go_wp2_with fail
                refine HFB.out.mono ?_
                rintro e w5 ⟨A4, n4, c4, rfl, hn4, HB5⟩
                have HN4 := hide hn4
                have HIN := hide (HB5.out.ints mem1 mem0 HN3.out HN4.out (by omega))
                clear hn4 HFB HB4 hfl
                generalize fldE r = fe
                go_wp2_with fail
                refine HIN.out.mono ?_
                rintro e w7 ⟨rfl, q7, rfl⟩
                have HB7 := hide (HB5.out.keep (Upd.drewN _ w5 q7))
                have HU1 := hide HB7.out.used
                have HU2 := hide HB7.out.rused
                generalize (total L : Int) = u at HU1 HU2
                generalize w5.drewN q7 = w7 at HB7 HU1 HU2 ⊢
                clear HB5 HIN
                go_wp2_with (first | (go_at_call 12; refine HU1.out.mono ?_; rintro e w9 ⟨rfl, rfl⟩) | (go_at_call 27; refine HU2.out.mono ?_; rintro e w9 ⟨rfl, rfl⟩))
                go_roundw
                case rel => exact ⟨j + 1, k, A1, c1, L, ps, by omega, by go_num, rfl, HK.out, by omega, HI.out, (HB7.out.less fun r hr => by obtain rfl := List.mem_singleton.1 hr; exact mem3).unbox⟩
                case measure => simp [intOf]; omega
        · go_wp2_with fail
          go_ret
          exact ⟨rb rfl, HP.out.below⟩
end Go.Proofs.Ytkmfohocicngaaa
