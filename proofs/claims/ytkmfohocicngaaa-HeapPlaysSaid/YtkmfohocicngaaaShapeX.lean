/- 'shape', walked. -/
import Derived.Test.YtkmfohocicngaaaShapeW
namespace Go.Proofs.Ytkmfohocicngaaa
open Go.RowKit

theorem cellA_upd {w w2 : World} (hu : Upd (fun _ => False) w w2) {a : Addr} {v : Value} (hc : w.cell? a = some v) : w2.cell? a = some v := by
  rw [World.cell?_of_block (hu.block a.block (World.block_lt_of_cell? w _ hc) (fun h => h)), hc]

theorem stepS_new {s : Sh} {x y : Int} {n1 : Nat} (hp : isP x = true) (hy : numW s.1 x = y) (hn : n1 = s.1.length) (h : y = -1 - (n1 : Int)) : stepS s x = (s.1 ++ [x], s.2 ++ [y]) := by
  subst hn
  unfold stepS
  rw [hy, if_pos ⟨hp, h⟩]

theorem stepS_old {s : Sh} {x y : Int} {n1 : Nat} (hy : numW s.1 x = y) (hn : n1 = s.1.length) (h : ¬ (isP x = true ∧ y = -1 - (n1 : Int))) : stepS s x = (s.1, s.2 ++ [y]) := by
  subst hn
  unfold stepS
  rw [hy, if_neg h]

theorem ShSt.number {w wr : World} {s : Sh} {A1 A2 : Option Addr} {n1 c1 n2 c2 : Nat} {rs : List (Nat × List Int)} (h : ShSt w wr s A1 n1 c1 A2 n2 c2 rs) (hl : n1 ≤ 100000000) {x y : Int} (hy : numW s.1 x = y) :
    Calls Try.prog 45 #[.slice A1 n1 c1, .int .i64 x] wr fun e w' => e = .returned (.int .i64 y) ∧ wr = w' := by
  subst hy
  exact number_any x (Rd.of_own h.seen) h.l1 hl

theorem shape_end {L : List Ob} {vs : List Int} {s : Sh} {X : List Int} (hX : shapeL L vs = X) (hs : vs.foldl stepS ([], []) = s) {i N : Nat} (hN : N = 100) (hi : i ≤ N) (h : i = N ∨ (iterS L s i).1.length ≤ i) : (iterS L s i).2 = X := by
  unfold shapeL at hX
  rw [hs, ← hN] at hX
  rcases h with rfl | h
  · exact hX
  · obtain ⟨d, rfl⟩ : ∃ d, N = i + d := ⟨N - i, by omega⟩
    rw [iterS_end h] at hX
    exact hX

theorem iter_len {L : List Ob} (hL : WfL L) (s : Sh) (h1 : s.1.length ≤ 40) (h2 : s.2.length ≤ 40) (i : Nat) (hi : i ≤ 100) : (iterS L s i).1.length ≤ 6553740 ∧ (iterS L s i).2.length ≤ 6553740 := by
  obtain ⟨c, hc⟩ : ∃ c : Nat, c = 65537 := ⟨_, rfl⟩
  have h := iterS_len hL s (c := c) (by omega) i
  have h2 := Nat.mul_le_mul_right c hi
  subst hc
  exact ⟨by omega, by omega⟩

def ShapePost (w : World) (xs : List Int) (e : Ending) (w' : World) : Prop := ∃ A2 n2 c2, e = .returned (.slice A2 n2 c2) ∧ n2 = xs.length ∧ n2 ≤ 10000000 ∧ Hid (w'.ownsRow w.heap.size 3 1 (.slice A2 n2 c2) n2 (xs.map (.int .i64)) ∧ Upd (fun _ => False) w w')

theorem fold_snoc {xs : List Int} {k : Nat} (h : k < xs.length) {x : Int} (hx : x = xs[k]) (s0 : Sh) : (xs.take (k + 1)).foldl stepS s0 = stepS ((xs.take k).foldl stepS s0) x := by
  rw [List.take_succ_eq_append_getElem h, List.foldl_append, hx]; rfl

theorem iter_next {L : List Ob} {s s1 T0 : Sh} {i m : Nat} {p : Int} {o : Ob} (hF : iterS L s i = s1) (hp : s1.1[i]? = some p) (ho : objL L p = some o) (hi : i < s1.1.length) (hm : m = o.2.length) (hT : (s1.1, s1.2 ++ [o.1, (m : Int)]) = T0) : iterS L s (i + 1) = o.2.foldl stepS T0 := by
  have e : iterS L s (i + 1) = if i < (iterS L s i).1.length then objS L (iterS L s i) i else iterS L s i := rfl
  rw [e, hF, if_pos hi]
  unfold objS
  rw [List.getD_eq_getElem?_getD, hp, Option.getD_some, ho, ← hT, hm]

theorem ShSt.get {w wr : World} {s : Sh} {A1 A2 : Option Addr} {n1 c1 n2 c2 : Nat} {rs : List (Nat × List Int)} (h : ShSt w wr s A1 n1 c1 A2 n2 c2 rs) {i : Nat} (hi : i < n1) :
    ∃ gb p, A1 = some ⟨gb, 0, none⟩ ∧ s.1[i]? = some p ∧ wr.cell? ⟨gb, i, none⟩ = some (.int .i64 p) := by
  obtain ⟨A, c, hv, _, _, hl, _, hA⟩ := own_form h.seen
  obtain ⟨g, hg⟩ := own_some h.seen (by omega)
  obtain ⟨rfl, _, _, _, hc⟩ := hA g hg
  have hil : i < s.1.length := by have := h.l1; omega
  injection hv with hv1
  exact ⟨g, s.1[i], hv1, List.getElem?_eq_getElem hil, hc i _ (by rw [List.getElem?_map, List.getElem?_eq_getElem hil]; rfl)⟩

def FieldsH (w : World) (s : Sh) (A1 : Option Addr) (n1 c1 : Nat) (A2 : Option Addr) (n2 c2 : Nat) (xs : List Int) (m : Nat) (e : Ending) (w' : World) : Prop :=
  ∃ g c, e = .returned (.tuple #[.slice (some ⟨g, 0, none⟩) m c, .int .i64 0]) ∧ Hid (ShSt w w' s A1 n1 c1 A2 n2 c2 [(g, xs)])

theorem ShSt.fields {w wr : World} {s : Sh} {A1 A2 : Option Addr} {n1 c1 n2 c2 : Nat} (h : ShSt w wr s A1 n1 c1 A2 n2 c2 []) {w0 : World} {b : Nat} {L : List Ob} {K : Nat → Prop} (hs : Sk w0 w b 4000 L K) {p : Int} {o : Ob} (ho : objL L p = some o) {m : Nat} (hm : m = o.2.length) :
    Calls Try.prog 14 #[.pointer (some ⟨b, 0, none⟩), .int .i64 p] wr (FieldsH w s A1 n1 c1 A2 n2 c2 o.2 m) := by
  subst hm
  refine ((hs.keep h.upd).fields p (hs.i64 ho)).mono ?_
  intro e w3 hh
  rw [show fieldsL L p = some o.2 by simp [fieldsL, ho]] at hh
  obtain ⟨g, c, he, hc, hlo, hown, hu⟩ := hh
  obtain ⟨A, c', hv, _, _, _, _, hA⟩ := own_form hown
  obtain ⟨_, _, hlt, _, hcc⟩ := hA g rfl
  exact ⟨g, c, he, h.push hu hlo hlt fun j u hj => hcc j _ (by rw [List.getElem?_map, hj]; rfl)⟩

theorem shape_ret {w wr : World} {s : Sh} {A1 A2 : Option Addr} {n1 c1 n2 c2 : Nat} {rs : List (Nat × List Int)} {X : List Int} (h : ShSt w wr s A1 n1 c1 A2 n2 c2 rs) (hX : s.2 = X) (hn : n2 ≤ 8000000) : ShapePost w X (.returned (.slice A2 n2 c2)) wr := by
  subst hX
  exact ⟨A2, n2, c2, rfl, h.l2, by omega, h.out, h.upd⟩

set_option maxRecDepth 100000 in
set_option maxHeartbeats 4000000 in
theorem shape_any {w0 w : World} {b : Nat} {L : List Ob} {K : Nat → Prop} (hs : Sk w0 w b 4000 L K) {A : Option Addr} {n c : Nat} {vs : List Int} (hx : Rd w (.slice A n c) 1 n (vs.map (.int .i64))) (hn : n = vs.length) (hl : n ≤ 40) (hv : ∀ v ∈ vs, isP v = true → ∃ o, objL L v = some o) :
    Calls Try.prog 29 #[.pointer (some ⟨b, 0, none⟩), .slice A n c] w (ShapePost w (shapeL L vs)) := by
  obtain ⟨X, hX⟩ : ∃ X, shapeL L vs = X := ⟨_, rfl⟩
  rw [hX]
  have HSX := hide hX
  clear hX
  have HK := hide hs
  have HX := hide hx
  have HN := hide hn
  have HV := hide hv
  clear hs hx hn hv
  go_enter Try.func29, Try.ntmps29
  go_wp2
  go_loopw [5, 6, 7] (fun sv ov iv wr => ∃ (k n1 n2 : Nat) (s : Sh) (A1 A2 : Option Addr) (c1 c2 : Nat), k ≤ n ∧ n1 ≤ 40 ∧ n2 ≤ 40 ∧ iv = .int .i64 k ∧ sv = .slice A1 n1 c1 ∧ ov = .slice A2 n2 c2 ∧ Hid ((vs.take k).foldl stepS ([], []) = s) ∧ Hid (ShSt w wr s A1 n1 c1 A2 n2 c2 [])) (fun _ _ iv _ => n - (intOf iv).toNat)
  case atStart => exact ⟨0, 0, 0, ([], []), none, none, 0, 0, Nat.zero_le _, by decide, by decide, rfl, rfl, rfl, rfl, ShSt.start w⟩
  case round =>
    obtain ⟨k, n1, n2, s, A1, A2, c1, c2, hk, hn1, hn2, rfl, rfl, rfl, HF, HS⟩ := hrel
    by_cases hlt : k < n
    · obtain ⟨gb, go, gs, x, rfl, hxe, hxw⟩ := HX.out.get HN.out hlt
      have HXW := hide hxw
      have hxc := cellA_upd HS.out.upd hxw
      have HXE := hide hxe
      clear hxe hxw
      have hbd := foldS_len (vs.take k) ([], [])
      rw [HF.out] at hbd
      have hb1 : n1 ≤ k := by have := HS.out.l1; simp at hbd; omega
      have hb2 : n2 ≤ k := by have := HS.out.l2; simp at hbd; omega
      clear hbd
      obtain ⟨y, hy⟩ : ∃ y, numW s.1 x = y := ⟨_, rfl⟩
      have HY := hide hy
      have HNUM := hide (HS.out.number (show n1 ≤ 100000000 by omega) hy)
      clear hy
      have HFN : Hid ((vs.take (k + 1)).foldl stepS ([], []) = stepS s x) := by
        show (vs.take (k + 1)).foldl stepS ([], []) = stepS s x
        rw [fold_snoc (by have := HN.out; omega) HXE.out, HF.out]
      have HPT := hide (pointer_law x)
      cases hp : isP x
      · rw [hp] at HPT
        have HST := hide (stepS_old HY.out HS.out.l1 (by simp [hp]))
        clear hp
        go_wp2_with (first | (go_at_call 45; refine HNUM.out.mono ?_; rintro e w3 ⟨rfl, rfl⟩) | (go_at_call 28; refine (HPT.out _).mono ?_; rintro e w3 ⟨rfl, rfl⟩) | (at_builtin; refine wpList_app (v := .slice A2 n2 c2) (u := .slice (some ⟨wr.heap.size, 0, none⟩) 1 1) Try.ints rfl (.tmp 28) (.tmp 30) rfl rfl ((Upd.alloc (fun _ => False) _ _).own HS.out.out (fun _ _ h => h)) rfl (Rd.new1 _ (.int .i64 y) 3 rfl) (by simp [Value.oneCell']) (n2 + 1) rfl (by omega) (by omega) (by have := HS.out.upd.size; simp; omega) ?_; intro A3 c3 w2 own2 u2 at2 ne2; have HS2 := hide (HS.out.addO (ys := [y]) rfl own2 u2 at2); have hxc2 := cellA_upd HS2.out.upd HXW.out; clear ne2 own2 u2 at2))
        go_roundw
        case rel => exact ⟨k + 1, n1, n2 + 1, _, A1, A3, c1, c3, by omega, by omega, by omega, by go_num, rfl, rfl, HFN.out.trans HST.out, HS2.out⟩
        case measure => simp [intOf]; omega
      · rw [hp] at HPT
        by_cases hyn : y = -1 - (n1 : Int)
        · have HST := hide (stepS_new hp HY.out HS.out.l1 hyn)
          have hyb : (y == -1 - (n1 : Int)) = true := by simp [hyn]
          clear hp
          subst hyn
          go_wp2_with (first | (go_at_call 45; refine HNUM.out.mono ?_; rintro e w3 ⟨rfl, rfl⟩) | (go_at_call 28; refine (HPT.out _).mono ?_; rintro e w3 ⟨rfl, rfl⟩) | (at_builtin; refine wpList_app (v := .slice A2 n2 c2) (u := .slice (some ⟨wr.heap.size, 0, none⟩) 1 1) Try.ints rfl (.tmp 28) (.tmp 30) rfl rfl ((Upd.alloc (fun _ => False) _ _).own HS.out.out (fun _ _ h => h)) rfl (Rd.new1 _ (.int .i64 (-1 - (n1 : Int))) 3 rfl) (by simp [Value.oneCell']) (n2 + 1) rfl (by omega) (by omega) (by have := HS.out.upd.size; simp; omega) ?_; intro A3 c3 w2 own2 u2 at2 ne2; have HS2 := hide (HS.out.addO (ys := [-1 - (n1 : Int)]) rfl own2 u2 at2); have hxc2 := cellA_upd HS2.out.upd HXW.out; clear ne2 own2 u2 at2) | (at_builtin; refine wpList_app (v := .slice A1 n1 c1) (u := .slice (some ⟨w2.heap.size, 0, none⟩) 1 1) Try.ints rfl (.tmp 44) (.tmp 49) rfl rfl ((Upd.alloc (fun _ => False) _ _).own HS2.out.seen (fun _ _ h => h)) rfl (Rd.new1 _ (.int .i64 x) 3 rfl) (by simp [Value.oneCell']) (n1 + 1) rfl (by omega) (by omega) (by have := HS2.out.upd.size; simp; omega) ?_; intro A4 c4 w4 own2 u2 at2 ne2; have HS4 := hide (HS2.out.addS (ys := [x]) rfl own2 u2 at2); clear ne2 own2 u2 at2))
          go_roundw
          case rel => exact ⟨k + 1, n1 + 1, n2 + 1, _, A4, A3, c4, c3, by omega, by omega, by omega, by go_num, rfl, rfl, HFN.out.trans HST.out, HS4.out⟩
          case measure => simp [intOf]; omega
        · have HST := hide (stepS_old HY.out HS.out.l1 (by rintro ⟨_, h⟩; exact hyn h))
          have hyb : (y == -1 - (n1 : Int)) = false := by simp [hyn]
          clear hp
          go_wp2_with (first | (go_at_call 45; refine HNUM.out.mono ?_; rintro e w3 ⟨rfl, rfl⟩) | (go_at_call 28; refine (HPT.out _).mono ?_; rintro e w3 ⟨rfl, rfl⟩) | (at_builtin; refine wpList_app (v := .slice A2 n2 c2) (u := .slice (some ⟨wr.heap.size, 0, none⟩) 1 1) Try.ints rfl (.tmp 28) (.tmp 30) rfl rfl ((Upd.alloc (fun _ => False) _ _).own HS.out.out (fun _ _ h => h)) rfl (Rd.new1 _ (.int .i64 y) 3 rfl) (by simp [Value.oneCell']) (n2 + 1) rfl (by omega) (by omega) (by have := HS.out.upd.size; simp; omega) ?_; intro A3 c3 w2 own2 u2 at2 ne2; have HS2 := hide (HS.out.addO (ys := [y]) rfl own2 u2 at2); have hxc2 := cellA_upd HS2.out.upd HXW.out; clear ne2 own2 u2 at2))
          go_roundw
          case rel => exact ⟨k + 1, n1, n2 + 1, _, A1, A3, c1, c3, by omega, by omega, by omega, by go_num, rfl, rfl, HFN.out.trans HST.out, HS2.out⟩
          case measure => simp [intOf]; omega
    · obtain rfl : k = n := by omega
      obtain ⟨S0, hS0⟩ : ∃ S0, vs.foldl stepS ([], []) = S0 := ⟨_, rfl⟩
      have HS0 := hide hS0
      have hsS : s = S0 := by have h1 := HF.out; have h2 := HN.out; rw [List.take_of_length_le (by omega)] at h1; rw [← h1, hS0]
      subst hsS
      have HOK : Hid (SeenOk L s) := by
        show SeenOk L s
        rw [← hS0]
        exact SeenOk.fold vs (s := ([], [])) (by intro p hp; simp at hp) HV.out
      have HLEN := hide (iter_len HK.out.wf.1 s (by have := HS.out.l1; omega) (by have := HS.out.l2; omega))
      obtain ⟨N, hN⟩ : ∃ N : Nat, N = 100 := ⟨_, rfl⟩
      have HEND : Hid (∀ i, i ≤ N → (i = N ∨ (iterS L s i).1.length ≤ i) → (iterS L s i).2 = X) := fun i => shape_end HSX.out hS0 hN
      clear HSX
      clear hS0 HF HX HV HN
      go_wp2
      go_loopw [5, 6, 9] (fun sv ov iv wr => ∃ (i n1 n2 : Nat) (s1 : Sh) (A1 A2 : Option Addr) (c1 c2 : Nat), i ≤ 100 ∧ n1 ≤ 8000000 ∧ n2 ≤ 8000000 ∧ iv = .int .i64 i ∧ sv = .slice A1 n1 c1 ∧ ov = .slice A2 n2 c2 ∧ Hid (iterS L s i = s1) ∧ Hid (ShSt w wr s1 A1 n1 c1 A2 n2 c2 [])) (fun _ _ iv _ => 100 - (intOf iv).toNat)
      case atStart => exact ⟨0, n1, n2, s, A1, A2, c1, c2, Nat.zero_le _, by omega, by omega, rfl, rfl, rfl, rfl, HS.out⟩
      case round =>
        clear HS hn1 hn2
        obtain ⟨i, n1, n2, s1, A1, A2, c1, c2, hi, hn1, hn2, rfl, rfl, rfl, HF, HS⟩ := hrel
        by_cases hin : i < n1
        · by_cases hi100 : i < 100
          · obtain ⟨gb, p, rfl, hpg, hpc⟩ := HS.out.get hin
            obtain ⟨o, ho⟩ := (by have := SeenOk.iter HK.out.wf.1 HOK.out i; rw [HF.out] at this; exact this : SeenOk L s1) p (List.mem_of_getElem? hpg)
            have hwf := HK.out.wf.1.each o (objL_mem ho)
            obtain ⟨m, hm⟩ : ∃ m : Nat, m = o.2.length := ⟨_, rfl⟩
            have hm1 : m ≤ 65535 := by have := hwf.len; omega
            have HM := hide hm
            have HO := hide ho
            have hlen := HLEN.out i (by omega)
            rw [HF.out, ← HS.out.l1, ← HS.out.l2] at hlen
            obtain ⟨hb1, hb2⟩ := hlen
            obtain ⟨T0, hT0⟩ : ∃ T0 : Sh, (s1.1, s1.2 ++ [o.1, (m : Int)]) = T0 := ⟨_, rfl⟩
            have HNX : Hid (iterS L s (i + 1) = o.2.foldl stepS T0) := by
              show iterS L s (i + 1) = o.2.foldl stepS T0
              exact iter_next HF.out hpg ho (by have := HS.out.l1; omega) hm hT0
            have HTB : Hid (∀ j, j ≤ m → ((o.2.take j).foldl stepS T0).1.length ≤ 6650000 ∧ ((o.2.take j).foldl stepS T0).2.length ≤ 6650000) := by
              intro j hj
              have h := foldS_len (o.2.take j) T0
              have h1 := HS.out.l1
              have h2 := HS.out.l2
              rw [← hT0] at h ⊢
              simp only [List.length_take, List.length_append, List.length_cons, List.length_nil] at h
              exact ⟨by omega, by omega⟩
            have HT0 := hide hT0
            have HKI := hide ((HK.out.keep HS.out.upd).kind p (HK.out.i64 ho))
            rw [show kindL L p = (o.1, 0) by simp [kindL, ho]] at HKI
            have HFI := hide (HS.out.fields HK.out ho hm)
            obtain ⟨kd, hkd⟩ : ∃ kd, o.1 = kd := ⟨_, rfl⟩
            simp only [hkd] at HKI
            rw [hkd] at HT0
            clear hT0 hm ho hwf hkd hpg
            go_wp2_with (first | (go_at_call 24; refine HKI.out.mono ?_; rintro e w3 ⟨rfl, rfl⟩) | (go_at_call 14; refine HFI.out.mono ?_; rintro e w4 ⟨g4, c4, rfl, HS4⟩) | (at_builtin; refine wpList_app (v := .slice A2 n2 c2) (u := .slice (some ⟨w4.heap.size, 0, none⟩) 2 2) Try.ints rfl (.tmp 79) (.tmp 83) rfl rfl ((Upd.alloc (fun _ => False) _ _).own HS4.out.out (fun _ _ h => h)) rfl (Rd.lit _ #[.int .i64 kd, .int .i64 (m : Int)] 3 rfl rfl 2) (by simp [Value.oneCell']) (n2 + 2) rfl (by omega) (by omega) (by have := HS4.out.upd.size; simp; omega) ?_; intro A5 c5 w5 own2 u2 at2 ne2; have HS5 := hide (HS4.out.addO (ys := [kd, (m : Int)]) rfl own2 u2 at2); clear ne2 own2 u2 at2))
            rw [HT0.out] at HS5
            go_loopw [5, 6, 14] (fun sv ov jv wr => ∃ (j n1 n2 : Nat) (s2 : Sh) (A1 A2 : Option Addr) (c1 c2 : Nat), j ≤ m ∧ n1 ≤ 7000000 ∧ n2 ≤ 7000000 ∧ jv = .int .i64 j ∧ sv = .slice A1 n1 c1 ∧ ov = .slice A2 n2 c2 ∧ Hid ((o.2.take j).foldl stepS T0 = s2) ∧ Hid (ShSt w wr s2 A1 n1 c1 A2 n2 c2 [(g4, o.2)])) (fun _ _ jv _ => m - (intOf jv).toNat)
            case atStart => exact ⟨0, n1, n2 + 2, T0, some ⟨gb, 0, none⟩, A5, c1, c5, Nat.zero_le _, by omega, by omega, rfl, rfl, rfl, rfl, HS5.out⟩
            case round =>
              clear HS HS4 HS5 hpc HFI HKI hn1 hn2 hb1 hb2 hin
              obtain ⟨j, n1, n2, s2, A1, A2, c1, c2, hj, hn1, hn2, rfl, rfl, rfl, HF2, HS⟩ := hrel
              have hlen := HTB.out j hj
              rw [HF2.out, ← HS.out.l1, ← HS.out.l2] at hlen
              obtain ⟨hb1, hb2⟩ := hlen
              by_cases hjm : j < m
              · have hjo : j < o.2.length := by have := HM.out; omega
                obtain ⟨x, hxe⟩ : ∃ x, x = o.2[j] := ⟨_, rfl⟩
                have hxg : o.2[j]? = some x := by rw [List.getElem?_eq_getElem hjo, hxe]
                have hxc := (HS.out.row (g4, o.2) (by simp)).2.2.2 j x hxg
                have HXG := hide hxg
                obtain ⟨y, hy⟩ : ∃ y, numW s2.1 x = y := ⟨_, rfl⟩
                have HY := hide hy
                have HNUM := hide (HS.out.number (show n1 ≤ 100000000 by omega) hy)
                have HFN : Hid ((o.2.take (j + 1)).foldl stepS T0 = stepS s2 x) := by
                  show (o.2.take (j + 1)).foldl stepS T0 = stepS s2 x
                  rw [fold_snoc hjo hxe, HF2.out]
                have HPT := hide (pointer_law x)
                clear hy hjo hxe hxg
                cases hp : isP x
                · rw [hp] at HPT
                  have HST := hide (stepS_old HY.out HS.out.l1 (by simp [hp]))
                  clear hp
                  go_wp2_with (first | (go_at_call 45; refine HNUM.out.mono ?_; rintro e w3 ⟨rfl, rfl⟩) | (go_at_call 28; refine (HPT.out _).mono ?_; rintro e w3 ⟨rfl, rfl⟩) | (at_builtin; refine wpList_app (v := .slice A2 n2 c2) (u := .slice (some ⟨wr.heap.size, 0, none⟩) 1 1) Try.ints rfl (.tmp 97) (.tmp 99) rfl rfl ((Upd.alloc (fun _ => False) _ _).own HS.out.out (fun _ _ h => h)) rfl (Rd.new1 _ (.int .i64 y) 3 rfl) (by simp [Value.oneCell']) (n2 + 1) rfl (by omega) (by omega) (by have := HS.out.upd.size; simp; omega) ?_; intro A3 c3 w2 own2 u2 at2 ne2; have HS2 := hide (HS.out.addO (ys := [y]) rfl own2 u2 at2); have hxc2 := (HS2.out.row (g4, o.2) (by simp)).2.2.2 j x HXG.out; clear ne2 own2 u2 at2))
                  go_roundw
                  case rel => exact ⟨j + 1, n1, n2 + 1, _, A1, A3, c1, c3, by omega, by omega, by omega, by go_num, rfl, rfl, HFN.out.trans HST.out, HS2.out⟩
                  case measure => simp [intOf]; omega
                · rw [hp] at HPT
                  by_cases hyn : y = -1 - (n1 : Int)
                  · have HST := hide (stepS_new hp HY.out HS.out.l1 hyn)
                    have hyb : (y == -1 - (n1 : Int)) = true := by simp [hyn]
                    clear hp
                    subst hyn
                    go_wp2_with (first | (go_at_call 45; refine HNUM.out.mono ?_; rintro e w3 ⟨rfl, rfl⟩) | (go_at_call 28; refine (HPT.out _).mono ?_; rintro e w3 ⟨rfl, rfl⟩) | (at_builtin; refine wpList_app (v := .slice A2 n2 c2) (u := .slice (some ⟨wr.heap.size, 0, none⟩) 1 1) Try.ints rfl (.tmp 97) (.tmp 99) rfl rfl ((Upd.alloc (fun _ => False) _ _).own HS.out.out (fun _ _ h => h)) rfl (Rd.new1 _ (.int .i64 (-1 - (n1 : Int))) 3 rfl) (by simp [Value.oneCell']) (n2 + 1) rfl (by omega) (by omega) (by have := HS.out.upd.size; simp; omega) ?_; intro A3 c3 w2 own2 u2 at2 ne2; have HS2 := hide (HS.out.addO (ys := [-1 - (n1 : Int)]) rfl own2 u2 at2); have hxc2 := (HS2.out.row (g4, o.2) (by simp)).2.2.2 j x HXG.out; clear ne2 own2 u2 at2) | (at_builtin; refine wpList_app (v := .slice A1 n1 c1) (u := .slice (some ⟨w2.heap.size, 0, none⟩) 1 1) Try.ints rfl (.tmp 113) (.tmp 118) rfl rfl ((Upd.alloc (fun _ => False) _ _).own HS2.out.seen (fun _ _ h => h)) rfl (Rd.new1 _ (.int .i64 x) 3 rfl) (by simp [Value.oneCell']) (n1 + 1) rfl (by omega) (by omega) (by have := HS2.out.upd.size; simp; omega) ?_; intro A4 c4 w4 own2 u2 at2 ne2; have HS4 := hide (HS2.out.addS (ys := [x]) rfl own2 u2 at2); clear ne2 own2 u2 at2))
                    go_roundw
                    case rel => exact ⟨j + 1, n1 + 1, n2 + 1, _, A4, A3, c4, c3, by omega, by omega, by omega, by go_num, rfl, rfl, HFN.out.trans HST.out, HS4.out⟩
                    case measure => simp [intOf]; omega
                  · have HST := hide (stepS_old HY.out HS.out.l1 (by rintro ⟨_, h⟩; exact hyn h))
                    have hyb : (y == -1 - (n1 : Int)) = false := by simp [hyn]
                    clear hp
                    go_wp2_with (first | (go_at_call 45; refine HNUM.out.mono ?_; rintro e w3 ⟨rfl, rfl⟩) | (go_at_call 28; refine (HPT.out _).mono ?_; rintro e w3 ⟨rfl, rfl⟩) | (at_builtin; refine wpList_app (v := .slice A2 n2 c2) (u := .slice (some ⟨wr.heap.size, 0, none⟩) 1 1) Try.ints rfl (.tmp 97) (.tmp 99) rfl rfl ((Upd.alloc (fun _ => False) _ _).own HS.out.out (fun _ _ h => h)) rfl (Rd.new1 _ (.int .i64 y) 3 rfl) (by simp [Value.oneCell']) (n2 + 1) rfl (by omega) (by omega) (by have := HS.out.upd.size; simp; omega) ?_; intro A3 c3 w2 own2 u2 at2 ne2; have HS2 := hide (HS.out.addO (ys := [y]) rfl own2 u2 at2); have hxc2 := (HS2.out.row (g4, o.2) (by simp)).2.2.2 j x HXG.out; clear ne2 own2 u2 at2))
                    go_roundw
                    case rel => exact ⟨j + 1, n1, n2 + 1, _, A1, A3, c1, c3, by omega, by omega, by omega, by go_num, rfl, rfl, HFN.out.trans HST.out, HS2.out⟩
                    case measure => simp [intOf]; omega
              · obtain rfl : j = m := by omega
                go_wp2
                go_roundw
                case rel => exact ⟨i + 1, n1, n2, _, A1, A2, c1, c2, by omega, by omega, by omega, by go_num, rfl, rfl, HNX.out.trans (by have h1 := HF2.out; have h2 := HM.out; rw [List.take_of_length_le (by omega)] at h1; exact h1), HS.out.pop⟩
                case measure => simp [intOf]; omega
          · have hiN : i = N := by omega
            go_wp2
            go_ret
            exact shape_ret HS.out (by rw [← HF.out]; exact HEND.out i (by omega) (.inl hiN)) hn2
        · go_wp2
          go_ret
          exact shape_ret HS.out (by rw [← HF.out]; exact HEND.out i (by omega) (.inr (by rw [HF.out, ← HS.out.l1]; omega))) hn2

end Go.Proofs.Ytkmfohocicngaaa
