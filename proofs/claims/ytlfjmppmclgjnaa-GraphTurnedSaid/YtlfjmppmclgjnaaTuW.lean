/- 'GraphTurned', walked. -/
import Derived.Test.YtlfjmppmclgjnaaTuB
namespace Go.Proofs.Ytlfjmppmclgjnaa
open Go.RowKit

set_option maxRecDepth 100000 in
set_option maxHeartbeats 6000000 in
theorem turned_walk {w : World} {A : Option Addr} {n c : Nat} {g : List (List Int)} (hg : GRd w A n g) (hl : n ≤ 9223372036854775807) :
    Calls Try.prog 7 #[.slice A n c] w (BoolN w true) := by
  have HAW := hide (awake_any (w := w))
  have hgl := hg.1
  have HFW : Hid (∀ w1, Upd (fun _ => False) w w1 → Calls Try.prog 10 #[.slice A n c, .int .i64 40] w1 fun e w' => e = .returned (.bool (fewB g 40)) ∧ w1 = w') := fun w1 hu => few_any (N := 40) (hg.keep hu) hl
  cases hf : fewB g 40
  · rw [hf] at HFW
    clear hg hgl hf
    go_enter Try.func7, Try.ntmps7
    go_wp2_with (first | (go_at_call 9; refine HAW.out.mono ?_; rintro e w1 ⟨rfl, hu⟩; have HU1 := hide hu; clear hu) | (go_at_call 10; refine (HFW.out w1 HU1.out).mono ?_; rintro e w2 ⟨rfl, rfl⟩))
    go_ret
    exact ⟨rfl, HU1.out⟩
  · rw [hf] at HFW
    have hfe := few_edges hf
    have HR : Hid (∀ w1, Upd (fun _ => False) w w1 → Calls Try.prog 14 #[.slice A n c] w1 (ListsN w1 (groupsR g))) := fun w1 hu => groups_any (hg.keep hu) hl fun _ => by omega
    cases hw : wrongB g []
    · have hrr : groupsR g = some (groupsAll g) := by unfold groupsR; rw [hw]; rfl
      obtain ⟨_, _, hok⟩ := wrong_false hw
      have hn40 : n ≤ 40 := by omega
      have HRW : Hid (∀ l ∈ g, l.length ≤ 100) := fun l hl' => by
        unfold fewB at hf
        simp only [Bool.and_eq_true, decide_eq_true_eq, List.all_eq_true] at hf
        exact hf.2 l hl'
      rw [hrr] at HR
      have HPT := hide (groups_parts hok)
      have HOK := hide hok
      have HGL := hide hgl
      have HG := hide hg
      have hgc := groupsR_count hrr
      generalize groupsAll g = gs at HR HPT hgc
      have hmk := fun w1 : World => make_rows w1 n (by omega)
      have HRB : Hid (∀ w1 : World, BkW w1 (w1.alloc (.cells (madeCells (Value.slice none 0 0).cells (n * 1)) 23)) w1.heap.size n (fun _ => []) (fun _ => .slice none 0 0)) := fun w1 => BkW.made w1 n
      generalize madeCells (Value.slice none 0 0).cells (n * 1) = cs at hmk HRB
      have HMK := hide hmk
      have HTG : Hid (∀ w5 (A2 : Option Addr) (m c2 : Nat), GRd w5 A2 m gs → Calls Try.prog 17 #[.slice A2 m c2, .int .i64 (n : Int)] w5 (StrN w5 (togS g n))) := fun w5 A2 m c2 h => together_any h HPT.out hgl hn40 (by rw [h.1]; exact hgc)
      have HGB : Hid (∀ bk, BkSt g g.length 0 bk → ∃ ms, ms.length = gs.length ∧ (∀ w5 (A2 : Option Addr) (c2 : Nat), GRd w5 A2 n (backG n bk) → Calls Try.prog 14 #[.slice A2 n c2] w5 (ListsN w5 (some ms))) ∧
          ∀ w5 (A2 : Option Addr) (m c2 : Nat), GRd w5 A2 m ms → Calls Try.prog 17 #[.slice A2 m c2, .int .i64 (n : Int)] w5 (StrN w5 (togS g n))) := fun bk hb => by
        have hwb := back_wrong hb (by omega)
        have hrb : groupsR (backG g.length bk) = some (groupsAll (backG g.length bk)) := by unfold groupsR; rw [hwb]; rfl
        have hpb := groups_parts (back_ok hb)
        have hcl : ∀ x, x < n → classL (backG g.length bk) x = classL g x := fun x hx => class_back hok hb (by omega)
        refine ⟨groupsAll (backG g.length bk), parts_same HPT.out hpb (backG_len _ _) fun x hx => hcl x (by omega), fun w5 A2 c2 h => ?_, fun w5 A2 m c2 h => ?_⟩
        · have := groups_any (c := c2) h (by omega) fun _ => by rw [hgl]; exact back_edges hb (by omega)
          rw [hgl, hrb] at this
          rw [hgl]
          exact this
        · have := together_any (c := c2) h hpb (by rw [backG_len]; exact hgl) hn40 (by rw [h.1]; exact groupsR_count hrb)
          rw [togS_same hcl] at this
          exact this
      clear hg hgl hf hw hrr hok hfe hmk
      generalize togS g n = ts at HTG HGB
      go_enter Try.func7, Try.ntmps7
      go_wp2_with (first | (go_at_call 9; refine HAW.out.mono ?_; rintro e w1 ⟨rfl, hu⟩; have HU1 := hide hu; clear hu) | (go_at_call 10; refine (HFW.out w1 HU1.out).mono ?_; rintro e w2 ⟨rfl, rfl⟩) | (go_at_call 14; refine (HR.out w1 HU1.out).mono ?_; rintro e w2 ⟨A2, m, c2, rfl, HN2, HO2⟩; have HU2 := hide (HU1.out.trans HO2.out.2); have hmk := HMK.out w2; clear HR))
      obtain rfl : m = gs.length := HN2.out
      have HB0 := hide (HRB.out w2)
      have HGW := hide (HG.out.keep HU2.out)
      have hlt : Hid (w2.heap.size < w2.heap.size + 1) := Nat.lt_succ_self _
      clear hmk HMK HRB
      generalize w2.heap.size = bb at HB0 hlt ⊢
      go_loopw [7] (fun iv wr => ∃ (i : Nat) (bk : Nat → List Int) (V : Nat → Value), i ≤ n ∧ iv = .int .i64 i ∧ Hid (BkSt g i 0 bk) ∧ Hid (BkW w2 wr bb n bk V)) (fun iv _ => n - (intOf iv).toNat)
      case atStart => exact ⟨0, fun _ => [], _, Nat.zero_le _, rfl, BkSt.start g, HB0.out⟩
      case round =>
        clear HB0
        obtain ⟨i, bk, V, hi, rfl, HS, HW⟩ := hrel
        by_cases hit : i < n
        · obtain ⟨ys, gb, go, sp, a, m, kk, hys, hA2, hcc, hrr, hm, hml⟩ := HGW.out.row hit
          subst hA2
          have hm100 : m ≤ 100 := by rw [hm]; exact HRW.out ys (List.mem_of_getElem? hys)
          have HAD : Hid (adj g i = ys) := adj_get hys
          have HYS := hide hys
          have HM := hide hm
          have HCL : Hid (∀ w5, Upd (fun _ => False) w2 w5 → w5.cell? ((⟨gb, go, sp⟩ : Addr).add i) = some (.slice a m kk) ∧ Rd w5 (.slice a m kk) 1 m (ys.map (.int .i64))) := fun w5 hu => ⟨cell_upd hu hcc, hrr.keep hu (fun _ _ h => h)⟩
          clear hys hm hcc hrr
          go_wp2_with fail
          go_loopw [8] (fun kv w3 => ∃ (k : Nat) (bk : Nat → List Int) (V : Nat → Value), k ≤ m ∧ kv = .int .i64 k ∧ Hid (BkSt g i k bk) ∧ Hid (BkW w2 w3 bb n bk V)) (fun kv _ => m - (intOf kv).toNat)
          case atStart => exact ⟨0, bk, V, Nat.zero_le _, rfl, HS.out, HW.out⟩
          case round =>
            clear HS HW
            obtain ⟨k, bk, V, hk, rfl, HS, HW⟩ := hrel
            obtain ⟨hci, hrd⟩ := HCL.out wr HW.out.upd
            have HRD := hide hrd
            clear hrd
            by_cases hkm : k < m
            · obtain ⟨yb, yo, ysp, x, rfl, hxe, hxc⟩ := HRD.out.get HM.out hkm
              have hkl : k < (adj g i).length := by rw [HAD.out, ← HM.out]; exact hkm
              have hxe2 : x = (adj g i)[k] := by simp only [HAD.out]; exact hxe
              have hxm : x ∈ adj g i := by rw [hxe2]; exact List.getElem_mem _
              obtain ⟨hx0, hx1⟩ := adj_ok HOK.out hxm
              obtain ⟨xx, rfl⟩ := Int.eq_ofNat_of_zero_le hx0
              have hxn : xx < n := by have := HGL.out; omega
              have HS3 := hide (HS.out.push hkl hxe2)
              obtain ⟨⟨aV, cV, hV⟩, hown⟩ := HW.out.rows xx hxn
              have hlen := HS.out.len xx
              have HP : Hid (∀ (W w5 : World) (A' : Option Addr) (c' : Nat), Upd (fun _ => False) wr W → w5.ownsRow w2.heap.size 3 1 (.slice A' ((bk xx).length + 1) c') ((bk xx).length + 1) ((bk xx).map (Value.int .i64) ++ [.int .i64 (i : Int)]) → Upd (fun k => (Value.slice aV (bk xx).length cV).ownBlock = some k) W w5 → ((Value.slice A' ((bk xx).length + 1) c').ownBlock = (Value.slice aV (bk xx).length cV).ownBlock ∨ (Value.slice A' ((bk xx).length + 1) c').ownBlock = some W.heap.size) →
                  ∃ V', BkW w2 (w5.setCell ⟨bb, xx, none⟩ (.slice A' ((bk xx).length + 1) c')) bb n (bpush bk xx (i : Int)) V') := fun W w5 A' c' hu ho hv hat => by
                rw [← hV] at hv hat
                exact ⟨_, (HW.out.keep hu).push hxn ho hv hat⟩
              have HOWN : Hid (∀ W, Upd (fun _ => False) wr W → W.ownsRow w2.heap.size 3 1 (.slice aV (bk xx).length cV) (bk xx).length ((bk xx).map (Value.int .i64))) := fun W hu => hu.own (by rw [← hV]; exact hown) (fun _ _ h => h)
              have HSK : Hid (∀ W, Upd (fun _ => False) wr W → W.cell? ((⟨gb, go, sp⟩ : Addr).add i) = some (.slice (some ⟨yb, yo, ysp⟩) m kk) ∧ W.cell? ((⟨yb, yo, ysp⟩ : Addr).add k) = some (.int .i64 (xx : Int)) ∧ W.cell? ⟨bb, xx, none⟩ = some (.slice aV (bk xx).length cV)) := fun W hu => ⟨cell_upd hu hci, cell_upd hu hxc, by rw [(HW.out.keep hu).blk.cell, valArr_get hxn, hV]⟩
              have HU52 : ∀ W w5, Upd (fun _ => False) wr W → Upd (fun k => (Value.slice aV (bk xx).length cV).ownBlock = some k) W w5 → Upd (fun _ => False) w2 w5 ∧ Blk w5 bb 23 (valArr n V) := fun W w5 hu hv => by
                have hb := HW.out.keep hu
                have ho := (hb.rows xx hxn).2
                rw [hV] at ho
                exact ⟨hb.upd.extend hv fun q hq => .inr (own_lo ho hq), hv.blk hb.blk (fun e => own_ne_blk ho hb.blk (by decide) _ e rfl)⟩
              have HS5 : Hid (∀ W w5, Upd (fun _ => False) wr W → Upd (fun k => (Value.slice aV (bk xx).length cV).ownBlock = some k) W w5 → w5.cell? ((⟨gb, go, sp⟩ : Addr).add i) = some (.slice (some ⟨yb, yo, ysp⟩) m kk) ∧ w5.cell? ((⟨yb, yo, ysp⟩ : Addr).add k) = some (.int .i64 (xx : Int)) ∧ w5.cell? ⟨bb, xx, none⟩ = some (.slice aV (bk xx).length cV)) := fun W w5 hu hv => by
                obtain ⟨h1, h2⟩ := HU52 W w5 hu hv
                obtain ⟨h3, h4⟩ := HCL.out w5 h1
                obtain ⟨_, _, _, x', hae, hx', hxc'⟩ := h4.get HM.out hkm
                injection hae with hae
                injection hae with e1 e2 e3
                subst e1 e2 e3
                rw [← hxe] at hx'
                subst hx'
                exact ⟨h3, hxc', by rw [h2.cell, valArr_get hxn, hV]⟩
              have HF5 : Hid (∀ W w5, Upd (fun _ => False) wr W → Upd (fun k => (Value.slice aV (bk xx).length cV).ownBlock = some k) W w5 → w5.frozen? ⟨bb, xx, none⟩ = false) := fun W w5 hu hv => (HU52 W w5 hu hv).2.free xx
              have HLE : Hid (∀ W, Upd (fun _ => False) wr W → w2.heap.size ≤ W.heap.size) := fun W hu => (HW.out.upd.trans hu).size
              generalize (bk xx).map (Value.int .i64) = rv at HP HOWN
              generalize hLL : (bk xx).length = L at HP HOWN HSK HS5 HF5 hlen
              have hL4 : L ≤ 5000 := by omega
              clear hxe hxe2 hxm hx0 hx1 hkl HRD hLL hown hV HU52 hlen HW HS hxc
              go_wp2_with fail
              have hHeld := HSK.out wr.drew (Upd.drew _ _)
              refine zg_start (S := fun w' => w'.cell? ((⟨gb, go, sp⟩ : Addr).add i) = some (.slice (some ⟨yb, yo, ysp⟩) m kk) ∧ w'.cell? ((⟨yb, yo, ysp⟩ : Addr).add k) = some (.int .i64 (xx : Int)) ∧ w'.cell? ⟨bb, xx, none⟩ = some (.slice aV L cV)) (z := 22) (by kernel_rfl) ?_
              refine zg_take 0 (v := ?_) (by simp only [List.getElem?_toArray, List.getElem?_cons_succ, List.getElem?_cons_zero]; rfl) (by kernel_rfl) ?_ (by assumption) (Or.inl ⟨by rfl, ?_⟩) ?_
              rotate_left
              · exact fun _ _ _ h => h
              · intro wS hSw; (try dsimp only at hSw); go_simp <;> (try with_reducible rfl)
              try simp only [Act.put, List.setIfInBounds_toArray, List.set_cons_zero, List.set_cons_succ]
              refine zg_take 1 (v := ?_) (by simp only [List.getElem?_toArray, List.getElem?_cons_succ, List.getElem?_cons_zero]; rfl) (by kernel_rfl) ?_ (by assumption) (Or.inl ⟨by rfl, ?_⟩) ?_
              rotate_left
              · exact fun _ _ _ h => h
              · intro wS hSw; (try dsimp only at hSw); go_simp <;> (try with_reducible rfl)
              try simp only [Act.put, List.setIfInBounds_toArray, List.set_cons_zero, List.set_cons_succ]
              refine zg_take 2 (v := ?_) (by simp only [List.getElem?_toArray, List.getElem?_cons_succ, List.getElem?_cons_zero]; rfl) (by kernel_rfl) ?_ (by assumption) (Or.inl ⟨by rfl, ?_⟩) ?_
              rotate_left
              · exact fun _ _ _ h => h
              · intro wS hSw; (try dsimp only at hSw); go_simp <;> (try with_reducible rfl)
              try simp only [Act.put, List.setIfInBounds_toArray, List.set_cons_zero, List.set_cons_succ]
              refine zg_take 3 (v := ?_) (by simp only [List.getElem?_toArray, List.getElem?_cons_succ, List.getElem?_cons_zero]; rfl) (by kernel_rfl) ?_ (by assumption) (Or.inl ⟨by rfl, ?_⟩) ?_
              rotate_left
              · exact fun _ _ _ h => h
              · intro wS hSw; (try dsimp only at hSw); go_simp <;> (try with_reducible rfl)
              try simp only [Act.put, List.setIfInBounds_toArray, List.set_cons_zero, List.set_cons_succ]
              refine zg_take 4 (v := ?_) (by simp only [List.getElem?_toArray, List.getElem?_cons_succ, List.getElem?_cons_zero]; rfl) (by kernel_rfl) ?_ (by assumption) (Or.inl ⟨by rfl, ?_⟩) ?_
              rotate_left
              · exact fun _ _ _ h => h
              · intro wS hSw; (try dsimp only at hSw); go_simp <;> (try with_reducible rfl)
              try simp only [Act.put, List.setIfInBounds_toArray, List.set_cons_zero, List.set_cons_succ]
              refine zg_take 5 (v := ?_) (by simp only [List.getElem?_toArray, List.getElem?_cons_succ, List.getElem?_cons_zero]; rfl) (by kernel_rfl) ?_ (by assumption) (Or.inl ⟨by rfl, ?_⟩) ?_
              rotate_left
              · exact fun _ _ _ h => h
              · intro wS hSw; (try dsimp only at hSw); go_simp <;> (try with_reducible rfl)
              try simp only [Act.put, List.setIfInBounds_toArray, List.set_cons_zero, List.set_cons_succ]
              refine zg_take 6 (v := ?_) (by simp only [List.getElem?_toArray, List.getElem?_cons_succ, List.getElem?_cons_zero]; rfl) (by kernel_rfl) ?_ (by assumption) (Or.inl ⟨by rfl, ?_⟩) ?_
              rotate_left
              · exact fun _ _ _ h => h
              · intro wS hSw; (try dsimp only at hSw); go_simp <;> (try with_reducible rfl)
              try simp only [Act.put, List.setIfInBounds_toArray, List.set_cons_zero, List.set_cons_succ]
              refine zg_take 7 (v := ?_) (by simp only [List.getElem?_toArray, List.getElem?_cons_succ, List.getElem?_cons_zero]; rfl) (by kernel_rfl) ?_ (by assumption) (Or.inl ⟨by rfl, ?_⟩) ?_
              rotate_left
              · exact fun _ _ _ h => h
              · intro wS hSw; (try dsimp only at hSw); go_simp <;> (try with_reducible rfl)
              try simp only [Act.put, List.setIfInBounds_toArray, List.set_cons_zero, List.set_cons_succ]
              refine zg_take 8 (v := ?_) (by simp only [List.getElem?_toArray, List.getElem?_cons_succ, List.getElem?_cons_zero]; rfl) (by kernel_rfl) ?_ (by assumption) (Or.inl ⟨by rfl, ?_⟩) ?_
              rotate_left
              · exact fun _ _ _ h => h
              · intro wS hSw; (try dsimp only at hSw); go_simp <;> (try with_reducible rfl)
              try simp only [Act.put, List.setIfInBounds_toArray, List.set_cons_zero, List.set_cons_succ]
              refine zg_take 9 (v := ?_) (by simp only [List.getElem?_toArray, List.getElem?_cons_succ, List.getElem?_cons_zero]; rfl) (by kernel_rfl) ?_ (by assumption) (Or.inl ⟨by rfl, ?_⟩) ?_
              rotate_left
              · exact fun _ _ _ h => h
              · intro wS hSw; (try dsimp only at hSw); go_simp <;> (try with_reducible rfl)
              try simp only [Act.put, List.setIfInBounds_toArray, List.set_cons_zero, List.set_cons_succ]
              refine zg_take 10 (v := ?_) (by simp only [List.getElem?_toArray, List.getElem?_cons_succ, List.getElem?_cons_zero]; rfl) (by kernel_rfl) ?_ (by assumption) (Or.inl ⟨by rfl, ?_⟩) ?_
              rotate_left
              · exact fun _ _ _ h => h
              · intro wS hSw; (try dsimp only at hSw); go_simp <;> (try with_reducible rfl)
              try simp only [Act.put, List.setIfInBounds_toArray, List.set_cons_zero, List.set_cons_succ]
              refine zg_take 11 (v := ?_) (by simp only [List.getElem?_toArray, List.getElem?_cons_succ, List.getElem?_cons_zero]; rfl) (by kernel_rfl) ?_ (by assumption) (Or.inl ⟨by rfl, ?_⟩) ?_
              rotate_left
              · exact fun _ _ _ h => h
              · intro wS hSw; (try dsimp only at hSw); go_simp <;> (try with_reducible rfl)
              try simp only [Act.put, List.setIfInBounds_toArray, List.set_cons_zero, List.set_cons_succ]
              refine zg_take 12 (v := ?_) (by simp only [List.getElem?_toArray, List.getElem?_cons_succ, List.getElem?_cons_zero]; rfl) (by kernel_rfl) ?_ (by assumption) (Or.inl ⟨by rfl, ?_⟩) ?_
              rotate_left
              · exact fun _ _ _ h => h
              · intro wS hSw; (try dsimp only at hSw); go_simp <;> (try with_reducible rfl)
              try simp only [Act.put, List.setIfInBounds_toArray, List.set_cons_zero, List.set_cons_succ]
              refine zg_take 13 (v := ?_) (by simp only [List.getElem?_toArray, List.getElem?_cons_succ, List.getElem?_cons_zero]; rfl) (by kernel_rfl) ?_ (by assumption) (Or.inl ⟨by rfl, ?_⟩) ?_
              rotate_left
              · exact fun _ _ _ h => h
              · intro wS hSw; (try dsimp only at hSw); go_simp <;> (try with_reducible rfl)
              try simp only [Act.put, List.setIfInBounds_toArray, List.set_cons_zero, List.set_cons_succ]
              refine zg_take 14 (v := ?_) (by simp only [List.getElem?_toArray, List.getElem?_cons_succ, List.getElem?_cons_zero]; rfl) (by kernel_rfl) ?_ (by assumption) (Or.inl ⟨by rfl, ?_⟩) ?_
              rotate_left
              · exact fun _ _ _ h => h
              · intro wS hSw; (try dsimp only at hSw); go_simp <;> (try with_reducible rfl)
              try simp only [Act.put, List.setIfInBounds_toArray, List.set_cons_zero, List.set_cons_succ]
              refine zg_take 15 (v := ?_) (by simp only [List.getElem?_toArray, List.getElem?_cons_succ, List.getElem?_cons_zero]; rfl) (by kernel_rfl) ?_ (by assumption) (Or.inl ⟨by rfl, ?_⟩) ?_
              rotate_left
              · exact fun _ _ _ h => h
              · intro wS hSw; (try dsimp only at hSw); go_simp <;> (try with_reducible rfl)
              try simp only [Act.put, List.setIfInBounds_toArray, List.set_cons_zero, List.set_cons_succ]
              refine zg_take 16 (v := ?_) (by simp only [List.getElem?_toArray, List.getElem?_cons_succ, List.getElem?_cons_zero]; rfl) (by kernel_rfl) ?_ (by assumption) (Or.inl ⟨by rfl, ?_⟩) ?_
              rotate_left
              · exact fun _ _ _ h => h
              · intro wS hSw; (try dsimp only at hSw); go_simp <;> (try with_reducible rfl)
              try simp only [Act.put, List.setIfInBounds_toArray, List.set_cons_zero, List.set_cons_succ]
              refine zg_take 17 (v := ?_) (by simp only [List.getElem?_toArray, List.getElem?_cons_succ, List.getElem?_cons_zero]; rfl) (by kernel_rfl) ?_ (by assumption) (Or.inl ⟨by rfl, ?_⟩) ?_
              rotate_left
              · exact fun _ _ _ h => h
              · intro wS hSw; (try dsimp only at hSw); go_simp <;> (try with_reducible rfl)
              try simp only [Act.put, List.setIfInBounds_toArray, List.set_cons_zero, List.set_cons_succ]
              refine zg_take 18 (v := ?_) (by simp only [List.getElem?_toArray, List.getElem?_cons_succ, List.getElem?_cons_zero]; rfl) (by kernel_rfl) ?_ (by assumption) (Or.inl ⟨by rfl, ?_⟩) ?_
              rotate_left
              · exact fun _ _ _ h => h
              · intro wS hSw; (try dsimp only at hSw); go_simp <;> (try with_reducible rfl)
              try simp only [Act.put, List.setIfInBounds_toArray, List.set_cons_zero, List.set_cons_succ]
              refine zg_one 19 (by simp only [List.getElem?_toArray, List.getElem?_cons_succ, List.getElem?_cons_zero]; rfl) (by kernel_rfl) (fun K hK => ?_)
              go_simp
              refine hK.out _ _ ?_ (fun hHeld => ?_)
              · (try dsimp only); first | exact HSK.out _ (Upd.drew _ _) | exact HSK.out _ ((Upd.alloc (fun _ => False) wr (.cells #[.int .i64 (i : Int)] 3)).trans (Upd.drew _ _)) | exact hS5
              clear hK K
              try simp only [Act.put, List.setIfInBounds_toArray, List.set_cons_zero, List.set_cons_succ]
              refine zg_one 20 (by simp only [List.getElem?_toArray, List.getElem?_cons_succ, List.getElem?_cons_zero]; rfl) (by kernel_rfl) (fun K hK => ?_)
              refine step_app (v := .slice aV L cV) (u := .slice (some ⟨wr.heap.size, 0, none⟩) 1 1) Try.ints (by rfl) (.tmp 59) (.tmp 61) (by rfl) (by rfl) (HOWN.out _ ((Upd.alloc (fun _ => False) wr (.cells #[.int .i64 (i : Int)] 3)).trans (Upd.drew _ _))) (by rfl) ((Rd.new1 wr (.int .i64 (i : Int)) 3 rfl).keep (Upd.drew (fun _ => False) _) (fun _ _ h => h)) (by simp [Value.oneCell']) (L + 1) rfl (by omega) (by omega) (HLE.out _ ((Upd.alloc (fun _ => False) wr (.cells #[.int .i64 (i : Int)] 3)).trans (Upd.drew _ _))) ?_; intro A5 c5 w5 own5 u5 at5 ne5; have hS5 := HS5.out _ w5 ((Upd.alloc (fun _ => False) wr (.cells #[.int .i64 (i : Int)] 3)).trans (Upd.drew _ _)) u5; have HB5 := hide (HP.out _ w5 A5 c5 ((Upd.alloc (fun _ => False) wr (.cells #[.int .i64 (i : Int)] 3)).trans (Upd.drew _ _)) own5 u5 at5); have hf5 := HF5.out _ w5 ((Upd.alloc (fun _ => False) wr (.cells #[.int .i64 (i : Int)] 3)).trans (Upd.drew _ _)) u5; clear own5 u5 at5 ne5
              refine hK.out _ _ ?_ (fun hHeld => ?_)
              · (try dsimp only); first | exact HSK.out _ (Upd.drew _ _) | exact HSK.out _ ((Upd.alloc (fun _ => False) wr (.cells #[.int .i64 (i : Int)] 3)).trans (Upd.drew _ _)) | exact hS5
              clear hK K
              try simp only [Act.put, List.setIfInBounds_toArray, List.set_cons_zero, List.set_cons_succ]
              refine zg_take 21 (v := ?_) (by simp only [List.getElem?_toArray, List.getElem?_cons_succ, List.getElem?_cons_zero]; rfl) (by kernel_rfl) ?_ (by assumption) (Or.inl ⟨by rfl, ?_⟩) ?_
              rotate_left
              · exact fun _ _ _ h => h
              · intro wS hSw; (try dsimp only at hSw); go_simp <;> (try with_reducible rfl)
              try simp only [Act.put, List.setIfInBounds_toArray, List.set_cons_zero, List.set_cons_succ]
              refine zg_last (by simp only [List.getElem?_toArray, List.getElem?_cons_succ, List.getElem?_cons_zero]; rfl) (by kernel_rfl) (fun K hK => ?_)
              go_simp
              refine hK.out _ _ ?_
              clear hK K
              try simp only [Act.put, List.setIfInBounds_toArray, List.set_cons_zero, List.set_cons_succ]
              clear hS5 hf5 hHeld
              go_wp2_with fail
              obtain ⟨V', HB6⟩ := HB5.out
              go_roundw
              case rel => exact ⟨k + 1, _, V', by omega, by go_num, HS3.out, HB6⟩
              case measure => simp [intOf]; omega
            · obtain rfl : k = m := by omega
              have HS4 := hide (HS.out.next (by rw [HAD.out, ← HM.out]; exact Nat.le_refl _) hm100)
              go_wp2_with fail
              go_roundw
              case rel => exact ⟨i + 1, bk, V, by omega, by go_num, HS4.out, HW.out⟩
              case measure => simp [intOf]; omega
        · obtain rfl : i = n := by omega
          have hbs := HS.out
          rw [HGL.out] at hbs
          obtain ⟨ms, hms, hgb, htb⟩ := HGB.out bk hbs
          have HBK := hide (HW.out.read (fun y => by have := HS.out.len y; omega) (fun y x hx => by
            obtain ⟨z, rfl, h1⟩ := (HS.out.mem y x).1 hx
            have : z ≤ i := by rcases h1 with h1 | h1 <;> omega
            unfold I64; omega))
          have HU3 := hide (HU2.out.trans HW.out.upd)
          have HG3 := hide (HO2.out.1.keep HW.out.upd)
          have HGR := hide (hgb wr (some ⟨bb, 0, none⟩) i HBK.out)
          have HTB := hide htb
          have HMS := hide hms
          clear hbs hgb htb hms HS HW
          go_wp2_with (first | (go_at_call 14; refine HGR.out.mono ?_; rintro e w4 ⟨A4, m4, c4, rfl, HN4, HO4⟩; obtain rfl : m4 = gs.length := (HN4.out.trans HMS.out); have HG4 := hide (HG3.out.keep HO4.out.2); have HU4 := hide (HU3.out.trans HO4.out.2); have hT1 := HTG.out w4 A2 gs.length c2 HG4.out; have HT1 := hide hT1; clear hT1) | (go_at_call 17; refine HT1.out.mono ?_; clear HT1; rintro e w5 ⟨rfl, hu⟩; have HU5 := hide (HU4.out.trans hu); have HT2 := hide (HTB.out w5 A4 gs.length c4 (HO4.out.1.keep hu)); clear hu) | (go_at_call 17; refine HT2.out.mono ?_; rintro e w6 ⟨rfl, hu⟩; have HU6 := hide (HU5.out.trans hu); clear hu))
          go_ret
          exact ⟨rfl, HU6.out⟩
    · have hrr : groupsR g = none := by unfold groupsR; rw [hw]; rfl
      rw [hrr] at HR
      clear hg hgl hf hw hrr hfe
      go_enter Try.func7, Try.ntmps7
      go_wp2_with (first | (go_at_call 9; refine HAW.out.mono ?_; rintro e w1 ⟨rfl, hu⟩; have HU1 := hide hu; clear hu) | (go_at_call 10; refine (HFW.out w1 HU1.out).mono ?_; rintro e w2 ⟨rfl, rfl⟩) | (go_at_call 14; refine (HR.out w1 HU1.out).mono ?_; rintro e w2 ⟨rfl, hu⟩; have HU2 := hide (HU1.out.trans hu); clear hu))
      go_ret
      exact ⟨rfl, HU2.out⟩

end Go.Proofs.Ytlfjmppmclgjnaa
