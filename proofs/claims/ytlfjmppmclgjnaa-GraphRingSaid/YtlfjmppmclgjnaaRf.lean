/- The reference's 'reach', walked. -/
import Derived.Test.YtlfjmppmclgjnaaRr
namespace Go.Proofs.Ytlfjmppmclgjnaa
open Go.RowKit

theorem Try.bools : ElemOk Try.prog 40 4 (.bool false) 1 1 := ⟨Try.underlying40, by kernel_rfl, rfl, by decide⟩

theorem make_bools (w : World) (s : Nat) (hs : s ≤ 100000) : (Instr.makeSlice 40 (.int .i64 (s : Int)) (.int .i64 (s : Int))).run Try.prog w = .ok (.slice (some ⟨w.heap.size, 0, none⟩) s s) (w.alloc (.cells (madeCells (Value.bool false).cells (s * 1)) 4)) := by
  obtain ⟨i, hi0, hi1, hi2, hi3⟩ := info_parts Try.bools.hi
  have hb' : (i.bytes : Int) * (s : Int) ≤ 281474976710656 := by
    rw [hi3]
    omega
  have hrun := run_make (P := Try.prog) w 40 4 i _ Try.bools.ht hi0 hi1 .i64 .i64 s s (by omega) (by omega) hb' (by omega)
  rw [hi2] at hrun
  simpa only [Int.toNat_natCast] using hrun

/-- A set of things as a row of bools. -/
def boolArr (n : Nat) (f : Nat → Bool) : Array Value := ((List.range n).map fun i => Value.bool (f i)).toArray

theorem boolArr_get {n : Nat} {f : Nat → Bool} {i : Nat} (h : i < n) : (boolArr n f)[i]? = some (.bool (f i)) := by
  simp [boolArr, h]

theorem boolArr_set {n : Nat} {f : Nat → Bool} (i : Nat) : (boolArr n f).setIfInBounds i (.bool true) = boolArr n (fun y => f y || y == i) := by
  apply Array.ext_getElem?
  intro j
  rw [Array.getElem?_setIfInBounds]
  by_cases hj : i = j
  · subst hj
    by_cases hi : i < n
    · rw [if_pos rfl, if_pos (by simpa [boolArr] using hi), boolArr_get hi]; simp
    · rw [if_pos rfl, if_neg (by simpa [boolArr] using hi), Array.getElem?_eq_none (by simpa [boolArr] using hi)]
  · rw [if_neg hj]
    by_cases hi : j < n
    · rw [boolArr_get hi, boolArr_get hi, show (j == i) = false by simp; omega, Bool.or_false]
    · rw [Array.getElem?_eq_none (by simpa [boolArr] using hi), Array.getElem?_eq_none (by simpa [boolArr] using hi)]

theorem madeList (v : Value) (s : Nat) : madeCells #[v] s = (List.replicate s v).toArray := by
  apply Array.ext
  · simp [madeCells]
  · intro i h1 h2
    simp [madeCells, Nat.mod_one]

def cntF (n : Nat) (f : Nat → Bool) : Nat := ((List.range n).filter (fun y => !f y)).length

theorem cntF_succ (n : Nat) (f : Nat → Bool) : cntF (n + 1) f = cntF n f + if f n then 0 else 1 := by
  unfold cntF
  rw [List.range_succ, List.filter_append, List.length_append]
  cases hf : f n <;> simp [hf]

theorem cntF_le {f f' : Nat → Bool} (h : ∀ y, f y = true → f' y = true) : ∀ n, cntF n f' ≤ cntF n f
  | 0 => by simp [cntF]
  | n + 1 => by
    have := cntF_le h n
    rw [cntF_succ, cntF_succ]
    have h1 := h n
    cases hf : f n <;> cases hf' : f' n <;> simp [hf, hf'] at h1 ⊢ <;> omega

theorem cntF_lt {f : Nat → Bool} {i : Nat} (hi : f i = false) : ∀ n, i < n → cntF n (fun y => f y || y == i) < cntF n f
  | 0, h => by omega
  | n + 1, h => by
    rw [cntF_succ, cntF_succ]
    by_cases hn : i = n
    · subst hn
      have := cntF_le (f := f) (f' := fun y => f y || y == i) (fun y h => by simp [h]) i
      simp [hi]
      omega
    · have := cntF_lt hi n (by omega)
      have e : (n == i) = false := by simp; omega
      simp only [e, Bool.or_false]
      omega

/-- How many cells of a block say no. -/
def cntW (b : Nat) (w : World) : Nat :=
  match w.heap[b]? with
  | some (.cells cs _ _) => (cs.toList.filter fun v => match v with | .bool false => true | _ => false).length
  | _ => 0

theorem cntW_eq {w : World} {b n : Nat} {f : Nat → Bool} (h : Blk w b 4 (boolArr n f)) : cntW b w = cntF n f := by
  unfold cntW
  unfold Blk at h
  rw [h]
  unfold boolArr cntF
  simp only [List.filter_map, List.length_map]
  congr 1
  apply List.filter_congr
  intro x _
  simp only [Function.comp]
  cases f x <;> rfl

structure Fix (g : List (List Int)) (S : List Int) (f : Nat → Bool) : Prop where
  sound : ∀ y, f y = true → Led g S y
  from_ : ∀ x ∈ S, f x.toNat = true

theorem Fix.all {g : List (List Int)} {S : List Int} {f : Nat → Bool} (h : Fix g S f) (hc : ∀ x, x < g.length → f x = true → ∀ y ∈ adj g x, f y.toNat = true) : f = ledB g S := by
  funext y
  rw [Bool.eq_iff_iff, ledB_iff]
  refine ⟨h.sound y, fun hl => hl.ind (fun y => f y = true) h.from_ fun x hx z hz => ?_⟩
  rcases Nat.lt_or_ge x g.length with hlt | hge
  · exact hc x hlt hx z hz
  · rw [adj_out hge] at hz; simp at hz

structure Turn (g : List (List Int)) (S : List Int) (f0 f : Nat → Bool) (m : Bool) (k : Nat) : Prop where
  fix : Fix g S f
  le : cntF g.length f ≤ cntF g.length f0
  lt : m = true → cntF g.length f < cntF g.length f0
  closed : m = false → ∀ x, x < k → f x = true → ∀ y ∈ adj g x, f y.toNat = true

theorem Turn.new {g : List (List Int)} {S : List Int} {f0 f : Nat → Bool} {m : Bool} {k x i : Nat} {y : Int} (h : Turn g S f0 f m k) (hx : f x = true) (hy : y ∈ adj g x) (hyi : y.toNat = i) (hi : f i = false) (hil : i < g.length) : Turn g S f0 (fun y => f y || y == i) true k :=
  ⟨⟨fun z hz => by
      by_cases hfz : f z = true
      · exact h.fix.sound z hfz
      · simp [hfz] at hz
        subst hz
        rw [← hyi]
        exact (h.fix.sound x hx).step hy, fun z hz => by simp [h.fix.from_ z hz]⟩,
    Nat.le_of_lt (Nat.lt_of_lt_of_le (cntF_lt hi _ hil) h.le), fun _ => Nat.lt_of_lt_of_le (cntF_lt hi _ hil) h.le, fun h => by simp at h⟩

theorem Turn.next {g : List (List Int)} {S : List Int} {f0 f : Nat → Bool} {m : Bool} {k : Nat} (h : Turn g S f0 f m k) (hk : m = false → f k = true → ∀ y ∈ adj g k, f y.toNat = true) : Turn g S f0 f m (k + 1) :=
  ⟨h.fix, h.le, h.lt, fun hm x hx => by
    by_cases hxk : x < k
    · exact h.closed hm x hxk
    · obtain rfl : x = k := by omega
      exact hk hm⟩

def RS (w wr : World) (b n : Nat) (f : Nat → Bool) : Prop := w.heap.size ≤ b ∧ Blk wr b 4 (boolArr n f) ∧ Upd (fun _ => False) w wr

theorem RS.set {w wr : World} {b n : Nat} {f : Nat → Bool} (h : RS w wr b n f) (i : Nat) : RS w (wr.setCell ⟨b, i, none⟩ (.bool true)) b n (fun y => f y || y == i) :=
  ⟨h.1, by rw [← boolArr_set]; exact h.2.1.set i _, h.2.2.extend (Upd.set (S := fun q => q = b) _ _ _ rfl) fun q hq => .inr (by subst hq; exact h.1)⟩

theorem RS.cell {w wr : World} {b n : Nat} {f : Nat → Bool} (h : RS w wr b n f) {i : Nat} (hi : i < n) : wr.cell? ⟨b, i, none⟩ = some (.bool (f i)) := by
  rw [h.2.1.cell, boolArr_get hi]
theorem RS.free {w wr : World} {b n : Nat} {f : Nat → Bool} (h : RS w wr b n f) (i : Nat) : wr.frozen? ⟨b, i, none⟩ = false := h.2.1.free i

/-- New memory that says which. -/
def BoolsN (w : World) (n : Nat) (f : Nat → Bool) (e : Ending) (w' : World) : Prop := ∃ b, e = .returned (.slice (some ⟨b, 0, none⟩) n n) ∧ Hid (RS w w' b n f)

theorem GRd.rowAt {w : World} {gb go : Nat} {gs : Option Nat} {n : Nat} {g : List (List Int)} (h : GRd w (some ⟨gb, go, gs⟩) n g) {k : Nat} {ys : List Int} (hk : g[k]? = some ys) :
    ∃ a m kk, w.cell? ((⟨gb, go, gs⟩ : Addr).add k) = some (.slice a m kk) ∧ Rd w (.slice a m kk) 1 m (ys.map (.int .i64)) ∧ m = ys.length ∧ m ≤ 9223372036854775807 := by
  obtain ⟨gb', go', gs', a, m, kk, h1, h2, h3, h4, h5, _⟩ := h.2 k ys hk
  injection h1 with h1
  rw [← h1] at h2
  exact ⟨a, m, kk, h2, h3, h4, h5⟩

set_option maxHeartbeats 2000000 in
theorem rreach_any {w : World} {A : Option Addr} {n c : Nat} {g : List (List Int)} (hg : GRd w A n g) (hok : GOk g) (hl : n ≤ 1000) {A' : Option Addr} {n' c' : Nat} {S : List Int} (hx : Rd w (.slice A' n' c') 1 n' (S.map (.int .i64))) (hn' : n' = S.length) (hl' : n' ≤ 9223372036854775807) (hS : ∀ x ∈ S, 0 ≤ x ∧ x < g.length) :
    Calls Try.prog 22 #[.slice A n c, .slice A' n' c'] w (BoolsN w n (ledB g S)) := by
  have hgl := hg.1
  have hmk := make_bools w n (by omega)
  have hcs : madeCells (Value.bool false).cells (n * 1) = boolArr n (fun _ => false) := by
    rw [Nat.mul_one]
    refine (madeList _ _).trans ?_
    unfold boolArr
    congr 1
    rw [List.map_const']
    simp
  have hrs : RS w (w.alloc (.cells (madeCells (Value.bool false).cells (n * 1)) 4)) w.heap.size n (fun _ => false) := ⟨Nat.le_refl _, by rw [hcs]; exact Blk.new _ _ _, Upd.alloc _ _ _⟩
  have HRS := hide hrs
  generalize madeCells (Value.bool false).cells (n * 1) = cs at hmk HRS
  have HG := hide hg
  have HX := hide hx
  have HOK := hide hok
  have HGL := hide hgl
  have HN' := hide hn'
  have HSS := hide hS
  clear hcs hrs hg hx hok hgl hn' hS
  go_enter Try.func22, Try.ntmps22
  go_wp2_with fail
  go_loopw [6] (fun i wr => ∃ (k : Nat) (f : Nat → Bool), k ≤ n' ∧ i = .int .i64 k ∧ Hid (RS w wr w.heap.size n f) ∧ Hid ((∀ y, f y = true → Led g S y) ∧ ∀ j, (h : j < S.length) → j < k → f (S[j]'h).toNat = true)) (fun i _ => n' - (intOf i).toNat)
  case atStart => exact ⟨0, fun _ => false, Nat.zero_le _, rfl, HRS.out, fun y h => by simp at h, fun j _ h => absurd h (by omega)⟩
  case round =>
    obtain ⟨k, f, hk, rfl, HR, HF⟩ := hrel
    by_cases hlt : k < n'
    · obtain ⟨yb, yo, ysp, x, rfl, hxe, hxc⟩ := (HX.out.keep HR.out.2.2 (fun _ _ h => h)).get HN'.out hlt
      have hxm : x ∈ S := by rw [hxe]; exact List.getElem_mem _
      obtain ⟨hx0, hx1⟩ := HSS.out x hxm
      obtain ⟨i, rfl⟩ := Int.eq_ofNat_of_zero_le hx0
      have hin : i < n := by have := HGL.out; omega
      have hbc := HR.out.cell hin
      have hfr := HR.out.free i
      have HXE := hide hxe
      have HXM := hide hxm
      clear hxe hxm hx0 hx1
      go_wp2_with fail
      go_roundw
      case rel =>
        refine ⟨k + 1, fun y => f y || y == i, by omega, by go_num, HR.out.set i, fun y hy => ?_, fun j hj hjk => ?_⟩
        · by_cases hfy : f y = true
          · exact HF.out.1 y hfy
          · simp [hfy] at hy
            subst hy
            exact Led.start HXM.out
        · by_cases hjk' : j < k
          · simp [HF.out.2 j hj hjk']
          · obtain rfl : j = k := by omega
            rw [← HXE.out]; simp
      case measure => simp [intOf]; omega
    · have HFX : Hid (Fix g S f) := ⟨HF.out.1, fun x hx => by
        obtain ⟨j, hj, rfl⟩ := List.getElem_of_mem hx
        exact HF.out.2 j hj (by have := HN'.out; omega)⟩
      clear HF HRS
      go_wp2_with fail
      go_loopw [7] (fun mv wr => ∃ (m : Bool) (f : Nat → Bool), mv = .bool m ∧ Hid (RS w wr w.heap.size n f) ∧ Hid (Fix g S f ∧ (m = false → ∀ x, x < g.length → f x = true → ∀ y ∈ adj g x, f y.toNat = true))) (fun mv wr => 2 * cntW w.heap.size wr + match mv with | .bool true => 1 | _ => 0)
      case atStart => exact ⟨true, f, rfl, HR.out, HFX.out, fun h => by simp at h⟩
      case round =>
        clear HR HFX
        obtain ⟨m, f, rfl, HR, HFX⟩ := hrel
        cases m
        · have HALL := hide (HFX.out.1.all (HFX.out.2 rfl))
          go_wp2_with fail
          go_ret
          refine ⟨_, rfl, ?_⟩
          rw [← HALL.out]
          exact HR.out
        · go_wp2_with fail
          go_loopw [7, 8] (fun mv i w3 => ∃ (m : Bool) (k : Nat) (f3 : Nat → Bool), k ≤ n ∧ mv = .bool m ∧ i = .int .i64 k ∧ Hid (RS w w3 w.heap.size n f3) ∧ Hid (Turn g S f f3 m k)) (fun _ i _ => n - (intOf i).toNat)
          case atStart => exact ⟨false, 0, f, Nat.zero_le _, rfl, rfl, HR.out, HFX.out.1, Nat.le_refl _, fun h => by simp at h, fun _ x hx => absurd hx (by omega)⟩
          case round =>
            obtain ⟨m, k, f3, hk, rfl, rfl, HR3, HT3⟩ := hrel
            by_cases hlt : k < n
            · obtain ⟨ys, gb, go, gs, a, M, kk, hys, rfl, _⟩ := (HG.out.keep HR3.out.2.2).row hlt
              have HYS := hide hys
              clear hys
              go_wp2_with fail
              go_loopw [7, 9] (fun mv j w4 => ∃ (m : Bool) (t : Nat) (f4 : Nat → Bool), t ≤ ys.length ∧ mv = .bool m ∧ j = .int .i64 t ∧ Hid (RS w w4 w.heap.size n f4) ∧ Hid (Turn g S f f4 m k) ∧ Hid (m = false → f4 k = true → ∀ j, (h : j < ys.length) → j < t → f4 (ys[j]'h).toNat = true)) (fun _ j _ => ys.length - (intOf j).toNat)
              case atStart => exact ⟨m, 0, f3, Nat.zero_le _, rfl, rfl, HR3.out, HT3.out, fun _ _ j _ h => absurd h (by omega)⟩
              case round =>
                clear HR3 HT3
                obtain ⟨m, t, f4, ht, rfl, rfl, HR4, HT4, HC4⟩ := hrel
                obtain ⟨a, M, kk, hcell, hrd, hM, hml⟩ := (HG.out.keep HR4.out.2.2).rowAt HYS.out
                have hkc := HR4.out.cell hlt
                have HRD := hide hrd
                have HM := hide hM
                have hgs : Hid (adj g k = ys) := adj_get HYS.out
                clear hrd
                by_cases htm : t < M
                · cases hfk : f4 k
                  · rw [hfk] at hkc
                    have HFK := hide hfk
                    clear hfk hM
                    go_wp2_with fail
                    go_roundw
                    case rel => exact ⟨m, k + 1, f4, by omega, rfl, by go_num, HR4.out, HT4.out.next fun _ h => by rw [HFK.out] at h; simp at h⟩
                    case measure => simp [intOf]; omega
                  · rw [hfk] at hkc
                    have HFK := hide hfk
                    obtain ⟨yb, yo, ysp, x, rfl, hxe, hxc⟩ := HRD.out.get HM.out htm
                    have hxm : x ∈ adj g k := by rw [hgs.out, hxe]; exact List.getElem_mem _
                    obtain ⟨hx0, hx1⟩ := adj_ok HOK.out hxm
                    obtain ⟨i, rfl⟩ := Int.eq_ofNat_of_zero_le hx0
                    have hin : i < n := by have := HGL.out; omega
                    have hbc := HR4.out.cell hin
                    have hfr := HR4.out.free i
                    have HXE := hide hxe
                    have HXM := hide hxm
                    clear hxe hxm hx0 hx1 hfk hM
                    cases hfi : f4 i
                    · rw [hfi] at hbc
                      have HFI := hide hfi
                      clear hfi
                      go_wp2_with fail
                      go_roundw
                      case rel =>
                        have hil : i < g.length := by have := HGL.out; omega
                        have hM := HM.out
                        exact ⟨true, t + 1, fun y => f4 y || y == i, by omega, rfl, by go_num, HR4.out.set i, HT4.out.new HFK.out HXM.out (Int.toNat_natCast i) HFI.out hil, fun h => by simp at h⟩
                      case measure => have hM := HM.out; simp [intOf]; omega
                    · rw [hfi] at hbc
                      have HFI := hide hfi
                      clear hfi
                      go_wp2_with fail
                      go_roundw
                      case rel =>
                        have hM := HM.out
                        refine ⟨m, t + 1, f4, by omega, rfl, by go_num, HR4.out, HT4.out, fun hm hfk j hj hjt => ?_⟩
                        by_cases hjt2 : j < t
                        · exact HC4.out hm hfk j hj hjt2
                        · obtain rfl : j = t := by omega
                          rw [← HXE.out, Int.toNat_natCast]
                          exact HFI.out
                      case measure => have hM := HM.out; simp [intOf]; omega
                · clear hM
                  go_wp2_with fail
                  go_roundw
                  case rel =>
                    refine ⟨m, k + 1, f4, by omega, rfl, by go_num, HR4.out, HT4.out.next fun hm hfk y hy => ?_⟩
                    rw [hgs.out] at hy
                    obtain ⟨j, hj, rfl⟩ := List.getElem_of_mem hy
                    exact HC4.out hm hfk j hj (by have := HM.out; omega)
                  case measure => simp [intOf]; omega
            · go_wp2_with fail
              go_roundw
              case rel => exact ⟨m, f3, rfl, HR3.out, HT3.out.fix, fun hm x hx => HT3.out.closed hm x (by have := HGL.out; omega)⟩
              case measure =>
                rw [cntW_eq HR3.out.2.1, cntW_eq HR.out.2.1, HGL.out]
                have h1 := HT3.out.le
                have h2 := HT3.out.lt
                cases m
                · simp; omega
                · have := h2 rfl; simp; omega
end Go.Proofs.Ytlfjmppmclgjnaa
