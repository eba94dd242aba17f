/- 'GraphRing', walked. -/
import Derived.Test.YtlfjmppmclgjnaaTuB
import Derived.Test.YtlfjmppmclgjnaaRiP
import Derived.Outline
namespace Go.Proofs.Ytlfjmppmclgjnaa
open Go.RowKit

theorem bits_mask (m : Nat) (hm : m ≤ 62) (v : Int) : bits BinOp.and IntKind.i64 v ((2 ^ m - 1 : Nat) : Int) = v % ((2 ^ m : Nat) : Int) := by
  have hp : 0 < 2 ^ m := Nat.two_pow_pos m
  have hlt : 2 ^ m ≤ 2 ^ 62 := Nat.pow_le_pow_right (by decide) hm
  have h7 : (BitVec.ofInt 64 ((2 ^ m - 1 : Nat) : Int)) = BitVec.ofNat 64 (2 ^ m - 1) := BitVec.ofInt_natCast _ _
  have hd : 2 ^ m ∣ 2 ^ 64 := Nat.pow_dvd_pow 2 (by omega)
  have hmod : (v % ((2 ^ 64 : Nat) : Int)).toNat % 2 ^ m = (v % ((2 ^ m : Nat) : Int)).toNat := by
    have h1 : 0 ≤ v % ((2 ^ 64 : Nat) : Int) := Int.emod_nonneg _ (by omega)
    have h2 : 0 ≤ v % ((2 ^ m : Nat) : Int) := Int.emod_nonneg _ (by omega)
    have h3 : ((v % ((2 ^ 64 : Nat) : Int)).toNat % 2 ^ m : Nat) = ((v % ((2 ^ 64 : Nat) : Int)) % ((2 ^ m : Nat) : Int)).toNat := by
      rw [Int.toNat_emod h1 (by omega), Int.toNat_natCast]
    rw [h3, Int.emod_emod_of_dvd _ (by exact_mod_cast hd)]
  have hm' : (BitVec.ofInt 64 v &&& BitVec.ofInt 64 ((2 ^ m - 1 : Nat) : Int)).toNat = (v % ((2 ^ m : Nat) : Int)).toNat := by
    rw [h7, BitVec.toNat_and, BitVec.toNat_ofNat, Nat.mod_eq_of_lt (by omega), Nat.and_two_pow_sub_one_eq_mod, BitVec.toNat_ofInt, hmod]
  show IntKind.i64.wrap ((BitVec.ofInt 64 v &&& BitVec.ofInt 64 ((2 ^ m - 1 : Nat) : Int)).toNat : Int) = _
  have h2 : 0 ≤ v % ((2 ^ m : Nat) : Int) := Int.emod_nonneg _ (by omega)
  have h3 : v % ((2 ^ m : Nat) : Int) < ((2 ^ m : Nat) : Int) := Int.emod_lt_of_pos _ (by omega)
  have h4 : ((2 ^ m : Nat) : Int) ≤ ((4611686018427387904 : Nat) : Int) := Int.ofNat_le.2 (Nat.le_trans hlt (by decide))
  rw [hm', IntKind.wrap_i64, Int.toNat_of_nonneg h2]
  omega

/-- Rows that are nil or of one thing. -/
structure LitW (w wr : World) (rb n : Nat) (R : Nat → List Int) (V : Nat → Value) : Prop where
  lo : w.heap.size ≤ rb
  blk : Blk wr rb 23 (valArr n V)
  rows : ∀ y, y < n → (V y = .slice none 0 0 ∧ R y = []) ∨ ∃ b x, V y = .slice (some ⟨b, 0, none⟩) 1 1 ∧ R y = [x] ∧ Blk wr b 3 #[.int .i64 x]

section
variable {w wr w' : World} {rb n : Nat} {R R' : Nat → List Int} {V : Nat → Value}

theorem LitW.keep {S : Nat → Prop} (h : LitW w wr rb n R V) (hu : Upd S wr w') (h1 : ¬ S rb) (h2 : ∀ b cs, Blk wr b 3 cs → ¬ S b) : LitW w w' rb n R V :=
  ⟨h.lo, hu.blk h.blk h1, fun y hy => (h.rows y hy).imp id fun ⟨b, x, e1, e2, e3⟩ => ⟨b, x, e1, e2, hu.blk e3 (h2 b _ e3)⟩⟩

theorem LitW.congr (h : LitW w wr rb n R V) (hr : ∀ y, y < n → R y = R' y) : LitW w wr rb n R' V :=
  ⟨h.lo, h.blk, fun y hy => by rw [← hr y hy]; exact h.rows y hy⟩

theorem LitW.other {cb : Nat} {cs : Array Value} (h : LitW w wr rb n R V) (hb : Blk wr cb 23 cs) (hne : rb ≠ cb) (i : Nat) (u : Value) : LitW w (wr.setCell ⟨cb, i, none⟩ u) rb n R V :=
  h.keep (Upd.set (S := fun q => q = cb) _ _ _ rfl) hne (fun b _ h3 e => h3.ne hb (by decide) e)

theorem LitW.set (h : LitW w wr rb n R V) (i : Nat) (x : Int) : LitW w ((wr.alloc (.cells #[.int .i64 x] 3)).setCell ⟨rb, i, none⟩ (.slice (some ⟨wr.heap.size, 0, none⟩) 1 1)) rb n (fun y => if y = i then [x] else R y) (fun y => if y = i then .slice (some ⟨wr.heap.size, 0, none⟩) 1 1 else V y) := by
  have ha := Upd.alloc (fun _ => False) wr (.cells #[.int .i64 x] 3)
  have h1 := h.keep ha (fun h => h) (fun _ _ _ h => h)
  have hs : Upd (fun q => q = rb) (wr.alloc (.cells #[.int .i64 x] 3)) ((wr.alloc (.cells #[.int .i64 x] 3)).setCell ⟨rb, i, none⟩ (.slice (some ⟨wr.heap.size, 0, none⟩) 1 1)) := Upd.set _ _ _ rfl
  have hnb := Blk.new wr 3 #[.int .i64 x]
  refine ⟨h.lo, by rw [← valArr_set]; exact h1.blk.set i _, fun y hy => ?_⟩
  by_cases e : y = i
  · simp only [if_pos e]
    exact .inr ⟨wr.heap.size, x, rfl, rfl, hs.blk hnb (fun e => hnb.ne h1.blk (by decide) e)⟩
  · simp only [if_neg e]
    rcases h1.rows y hy with ⟨e1, e2⟩ | ⟨b, z, e1, e2, e3⟩
    · exact .inl ⟨e1, e2⟩
    · exact .inr ⟨b, z, e1, e2, hs.blk e3 (fun e => e3.ne h1.blk (by decide) e)⟩

theorem LitW.read (h : LitW w wr rb n R V) (hi : ∀ y, y < n → ∀ x ∈ R y, I64 x) : GRd wr (some ⟨rb, 0, none⟩) n ((List.range n).map R) := by
  refine ⟨by simp, fun i xs hx => ?_⟩
  have hin : i < n := by have := (List.getElem?_eq_some_iff.1 hx).1; simpa using this
  have hxs : xs = R i := by
    have : ((List.range n).map R)[i]? = some (R i) := by simp [hin]
    rw [this] at hx; injection hx with hx; exact hx.symm
  subst hxs
  have hc : wr.cell? ((⟨rb, 0, none⟩ : Addr).add i) = some (V i) := by rw [Addr.add_lit, Nat.zero_add, h.blk.cell, valArr_get hin]
  rcases h.rows i hin with ⟨e1, e2⟩ | ⟨b, z, e1, e2, e3⟩
  · rw [e2]
    exact ⟨rb, 0, none, none, 0, 0, rfl, by rw [hc, e1], Rd.nil _, rfl, by omega, by simp⟩
  · have hiz := hi i hin
    rw [e2] at hiz ⊢
    exact ⟨rb, 0, none, some ⟨b, 0, none⟩, 1, 1, rfl, by rw [hc, e1], Rd.lit (xs := [z]) e3 rfl rfl, rfl, by simp, hiz⟩

theorem LitW.made (w : World) (n : Nat) : LitW w (w.alloc (.cells (madeCells (Value.slice none 0 0).cells (n * 1)) 23)) w.heap.size n (fun _ => []) (fun _ => .slice none 0 0) :=
  ⟨Nat.le_refl _, by rw [made_rows]; exact Blk.new _ _ _, fun y _ => .inl ⟨rfl, rfl⟩⟩
end

/-- Both graphs, as far as they are laid. -/
structure TwoW (w wr : World) (rb cb k i : Nat) (V U : Nat → Value) : Prop where
  ring : LitW w wr rb (k + 1) (fun y => if y < i then ringR k y else []) V
  chain : LitW w wr cb k (fun y => if y < i then chainR k y else []) U
  ne : rb ≠ cb
  upd : Upd (fun _ => False) w wr

theorem TwoW.ring8 {w wr : World} {rb cb k i : Nat} {V U : Nat → Value} (h : TwoW w wr rb cb k i V U) (hi : i < k) :
    LitW w ((wr.alloc (.cells #[.int .i64 (((i : Int) + 1) % (k : Int))] 3)).setCell ⟨rb, i, none⟩ (.slice (some ⟨wr.heap.size, 0, none⟩) 1 1)) rb (k + 1) (fun y => if y < i + 1 then ringR k y else []) (fun y => if y = i then .slice (some ⟨wr.heap.size, 0, none⟩) 1 1 else V y) ∧
    LitW w ((wr.alloc (.cells #[.int .i64 (((i : Int) + 1) % (k : Int))] 3)).setCell ⟨rb, i, none⟩ (.slice (some ⟨wr.heap.size, 0, none⟩) 1 1)) cb k (fun y => if y < i then chainR k y else []) U ∧
    Upd (fun _ => False) w ((wr.alloc (.cells #[.int .i64 (((i : Int) + 1) % (k : Int))] 3)).setCell ⟨rb, i, none⟩ (.slice (some ⟨wr.heap.size, 0, none⟩) 1 1)) := by
  refine ⟨(h.ring.set i _).congr fun y hy => ?_, ?_, ?_⟩
  · by_cases e : y = i
    · subst e
      rw [if_pos rfl, if_pos (by omega)]
      unfold ringR
      rw [if_pos hi]
    · rw [if_neg e]
      by_cases h1 : y < i
      · rw [if_pos h1, if_pos (by omega)]
      · rw [if_neg h1, if_neg (by omega)]
  · have ha := Upd.alloc (fun _ => False) wr (.cells #[.int .i64 (((i : Int) + 1) % (k : Int))] 3)
    exact (h.chain.keep ha (fun h => h) (fun _ _ _ h => h)).other (ha.blk h.ring.blk (fun h => h)) (Ne.symm h.ne) _ _
  · exact (h.upd.trans (Upd.alloc _ _ _)).extend (Upd.set (S := fun q => q = rb) _ _ _ rfl) fun q hq => .inr (by subst hq; exact h.ring.lo)

theorem TwoW.next {w wr : World} {rb cb k i : Nat} {V U : Nat → Value} (h1 : LitW w wr rb (k + 1) (fun y => if y < i + 1 then ringR k y else []) V) (h2 : LitW w wr cb k (fun y => if y < i then chainR k y else []) U) (hne : rb ≠ cb) (hu : Upd (fun _ => False) w wr) (hi : i + 1 < k) :
    TwoW w ((wr.alloc (.cells #[.int .i64 ((i : Int) + 1)] 3)).setCell ⟨cb, i, none⟩ (.slice (some ⟨wr.heap.size, 0, none⟩) 1 1)) rb cb k (i + 1) V (fun y => if y = i then .slice (some ⟨wr.heap.size, 0, none⟩) 1 1 else U y) := by
  have ha := Upd.alloc (fun _ => False) wr (.cells #[.int .i64 ((i : Int) + 1)] 3)
  refine ⟨(h1.keep ha (fun h => h) (fun _ _ _ h => h)).other (ha.blk h2.blk (fun h => h)) hne _ _, (h2.set i _).congr fun y hy => ?_, hne, (hu.trans ha).extend (Upd.set (S := fun q => q = cb) _ _ _ rfl) fun q hq => .inr (by subst hq; exact h2.lo)⟩
  by_cases e : y = i
  · subst e
    rw [if_pos rfl, if_pos (by omega)]
    unfold chainR
    rw [if_pos hi]
  · rw [if_neg e]
    by_cases h1 : y < i
    · rw [if_pos h1, if_pos (by omega)]
    · rw [if_neg h1, if_neg (by omega)]

theorem TwoW.last {w wr : World} {rb cb k i : Nat} {V U : Nat → Value} (h1 : LitW w wr rb (k + 1) (fun y => if y < i + 1 then ringR k y else []) V) (h2 : LitW w wr cb k (fun y => if y < i then chainR k y else []) U) (hne : rb ≠ cb) (hu : Upd (fun _ => False) w wr) (hi : ¬ i + 1 < k) :
    TwoW w wr rb cb k (i + 1) V U := by
  refine ⟨h1, h2.congr fun y hy => ?_, hne, hu⟩
  by_cases h3 : y < i
  · rw [if_pos h3, if_pos (by omega)]
  · rw [if_neg h3]
    by_cases h4 : y < i + 1
    · rw [if_pos h4]
      unfold chainR
      rw [if_neg (by omega)]
    · rw [if_neg h4]

theorem TwoW.end_ {w wr : World} {rb cb k : Nat} {V U : Nat → Value} (h : TwoW w wr rb cb k k V U) (hk : 0 < k) (hk2 : k ≤ 64) :
    GRd ((wr.alloc (.cells #[.int .i64 0] 3)).setCell ⟨rb, k, none⟩ (.slice (some ⟨wr.heap.size, 0, none⟩) 1 1)) (some ⟨rb, 0, none⟩) (k + 1) (ringG k) ∧
    GRd ((wr.alloc (.cells #[.int .i64 0] 3)).setCell ⟨rb, k, none⟩ (.slice (some ⟨wr.heap.size, 0, none⟩) 1 1)) (some ⟨cb, 0, none⟩) k (chainG k) ∧
    Upd (fun _ => False) w ((wr.alloc (.cells #[.int .i64 0] 3)).setCell ⟨rb, k, none⟩ (.slice (some ⟨wr.heap.size, 0, none⟩) 1 1)) := by
  have ha := Upd.alloc (fun _ => False) wr (.cells #[.int .i64 0] 3)
  refine ⟨((h.ring.set k 0).congr (R' := ringR k) fun y hy => ?_).read fun y hy x hx => ?_, ((((h.chain.keep ha (fun h => h) (fun _ _ _ h => h)).other (ha.blk h.ring.blk (fun h => h)) (Ne.symm h.ne) _ _)).congr (R' := chainR k) fun y hy => ?_).read fun y hy x hx => ?_, (h.upd.trans ha).extend (Upd.set (S := fun q => q = rb) _ _ _ rfl) fun q hq => .inr (by subst hq; exact h.ring.lo)⟩
  · by_cases e : y = k
    · subst e
      rw [if_pos rfl]
      unfold ringR
      rw [if_neg (by omega)]
    · rw [if_neg e, if_pos (by omega)]
  · unfold ringR at hx
    unfold I64
    split at hx
    · obtain rfl := List.mem_singleton.1 hx
      rw [mod_nat]
      have := Nat.mod_lt (y + 1) hk
      omega
    · obtain rfl := List.mem_singleton.1 hx
      omega
  · rw [if_pos hy]
  · unfold chainR at hx
    split at hx
    · obtain rfl := List.mem_singleton.1 hx
      unfold I64; omega
    · simp at hx

set_option maxRecDepth 100000 in
set_option maxHeartbeats 4000000 in
theorem ring_walk (n : Int) (w : World) : Calls Try.prog 8 #[.int .i64 n] w (BoolN w true) := by
  have HAW := hide (awake_any (w := w))
  have h63 : bits BinOp.and IntKind.i64 n 63 = n % 64 := bits_mask 6 (by decide) n
  have hm0 : 0 ≤ n % 64 := Int.emod_nonneg _ (by decide)
  have hm1 : n % 64 < 64 := Int.emod_lt_of_pos _ (by decide)
  obtain ⟨k, hk⟩ : ∃ k : Nat, 1 + n % 64 = (k : Int) := ⟨(1 + n % 64).toNat, by omega⟩
  obtain ⟨kp, hkp⟩ : ∃ kp : Nat, (k : Int) + 1 = (kp : Int) := ⟨k + 1, by omega⟩
  have hkk : 0 < k ∧ k ≤ 64 ∧ kp = k + 1 := by omega
  have HK := hide hkk
  have hmk1 := fun w1 : World => make_rows w1 kp (by omega)
  have hmk2 := fun w1 : World => make_rows w1 k (by omega)
  have HR1 : Hid (∀ w1 : World, LitW w1 (w1.alloc (.cells (madeCells (Value.slice none 0 0).cells (kp * 1)) 23)) w1.heap.size kp (fun _ => []) (fun _ => .slice none 0 0)) := fun w1 => LitW.made w1 kp
  have HR2 : Hid (∀ w1 : World, LitW w1 (w1.alloc (.cells (madeCells (Value.slice none 0 0).cells (k * 1)) 23)) w1.heap.size k (fun _ => []) (fun _ => .slice none 0 0)) := fun w1 => LitW.made w1 k
  generalize madeCells (Value.slice none 0 0).cells (kp * 1) = cs1 at hmk1 HR1
  generalize madeCells (Value.slice none 0 0).cells (k * 1) = cs2 at hmk2 HR2
  have HM1 := hide hmk1
  have HM2 := hide hmk2
  clear hkk hmk1 hmk2
  go_enter Try.func8, Try.ntmps8
  go_wp2_with (go_at_call 9; refine HAW.out.mono ?_; rintro e w1 ⟨rfl, hu⟩; have HU1 := hide hu; clear hu; have hmk1 := HM1.out w1; have hmk2 := HM2.out (w1.alloc (.cells cs1 23)))
  have HT0 : Hid (TwoW w1 ((w1.alloc (.cells cs1 23)).alloc (.cells cs2 23)) w1.heap.size (w1.heap.size + 1) k 0 (fun _ => .slice none 0 0) (fun _ => .slice none 0 0)) := by
    have h1 := (HR1.out w1).keep (Upd.alloc (fun _ => False) (w1.alloc (.cells cs1 23)) (.cells cs2 23)) (fun h => h) (fun _ _ _ h => h)
    have h2 := HR2.out (w1.alloc (.cells cs1 23))
    have hs : (w1.alloc (.cells cs1 23)).heap.size = w1.heap.size + 1 := by simp
    rw [hs] at h2
    rw [HK.out.2.2] at h1
    refine ⟨h1.congr fun y _ => by rw [if_neg (by omega)], ⟨by omega, h2.blk, fun y hy => by rw [if_neg (by omega)]; exact h2.rows y hy⟩, by omega, (Upd.alloc _ _ _).trans (Upd.alloc _ _ _)⟩
  have hk0 : 0 < k := HK.out.1
  have hk1 : k ≤ 64 := HK.out.2.1
  have hkk : k < kp := by have := HK.out.2.2; omega
  have hkp1 : kp ≤ 65 := by have := HK.out.2.2; omega
  clear h63 hm0 hm1 hk hkp hmk1 hmk2 HM1 HM2 HR1 HR2
  have hlt : Hid (w1.heap.size + 1 < w1.heap.size + 1 + 1) := Nat.lt_succ_self _
  generalize w1.heap.size + 1 = cb at HT0 hlt ⊢
  generalize w1.heap.size = rb at HT0 ⊢
  go_loopw [7] (fun iv wr => ∃ (i : Nat) (V U : Nat → Value), i ≤ k ∧ iv = .int .i64 i ∧ Hid (TwoW w1 wr rb cb k i V U)) (fun iv _ => k - (intOf iv).toNat)
  case atStart => exact ⟨0, _, _, Nat.zero_le _, rfl, HT0.out⟩
  case round =>
    clear HT0
    obtain ⟨i, V, U, hi, rfl, HT⟩ := hrel
    by_cases hlt : i < k
    · have hcr : (wr.alloc (.cells #[.int .i64 (((i : Int) + 1) % (k : Int))] 3)).cell? ⟨rb, i, none⟩ = some (V i) := by rw [((Upd.alloc (fun _ => False) wr (.cells #[.int .i64 (((i : Int) + 1) % (k : Int))] 3)).blk HT.out.ring.blk (fun h => h)).cell, valArr_get (by omega)]
      have hfr := ((Upd.alloc (fun _ => False) wr (.cells #[.int .i64 (((i : Int) + 1) % (k : Int))] 3)).blk HT.out.ring.blk (fun h => h)).free i
      go_upto_region 9 with (fail)
      obtain ⟨h1, h2, h3⟩ := HT.out.ring8 hlt
      have hne := HT.out.ne
      clear hcr hfr HT
      generalize (wr.alloc (.cells #[.int .i64 (((i : Int) + 1) % (k : Int))] 3)).setCell ⟨rb, i, none⟩ (.slice (some ⟨wr.heap.size, 0, none⟩) 1 1) = w8 at h1 h2 h3 ⊢
      generalize (fun y => if y = i then Value.slice (some ⟨wr.heap.size, 0, none⟩) 1 1 else V y) = V8 at h1
      have H1 := hide h1
      have H2 := hide h2
      have H3 := hide h3
      have HNE := hide hne
      by_cases hi1 : i + 1 < k
      · have hcr : (w8.alloc (.cells #[.int .i64 ((i : Int) + 1)] 3)).cell? ⟨cb, i, none⟩ = some (U i) := by rw [((Upd.alloc (fun _ => False) w8 (.cells #[.int .i64 ((i : Int) + 1)] 3)).blk h2.blk (fun h => h)).cell, valArr_get hlt]
        have hfr := ((Upd.alloc (fun _ => False) w8 (.cells #[.int .i64 ((i : Int) + 1)] 3)).blk h2.blk (fun h => h)).free i
        clear h1 h2 h3 hne
        go_wp2_with fail
        go_roundw
        case rel => exact ⟨i + 1, _, _, by omega, by go_num, TwoW.next H1.out H2.out HNE.out H3.out hi1⟩
        case measure => simp [intOf]; omega
      · clear h1 h2 h3 hne
        go_wp2_with fail
        go_roundw
        case rel => exact ⟨i + 1, _, _, by omega, by go_num, TwoW.last H1.out H2.out HNE.out H3.out hi1⟩
        case measure => simp [intOf]; omega
    · obtain rfl : i = k := by omega
      have hcr : (wr.alloc (.cells #[.int .i64 0] 3)).cell? ⟨rb, i, none⟩ = some (V i) := by rw [((Upd.alloc (fun _ => False) wr (.cells #[.int .i64 0] 3)).blk HT.out.ring.blk (fun h => h)).cell, valArr_get (by omega)]
      have hfr := ((Upd.alloc (fun _ => False) wr (.cells #[.int .i64 0] 3)).blk HT.out.ring.blk (fun h => h)).free i
      go_upto_region 12 with (fail)
      obtain ⟨h1, h2, h3⟩ := HT.out.end_ hk0 hk1
      clear hcr hfr HT
      generalize (wr.alloc (.cells #[.int .i64 0] 3)).setCell ⟨rb, i, none⟩ (.slice (some ⟨wr.heap.size, 0, none⟩) 1 1) = w9 at h1 h2 h3 ⊢
      have hrr : groupsR (ringG i) = some [below i, [(i : Int)]] := by
        unfold groupsR
        rw [wrong_of_ok (ring_ok hk0) (by rw [ringG_len]; omega), ring_groups hk0]; rfl
      have hrc : groupsR (chainG i) = some ((List.range i).reverse.map (fun x : Nat => [(x : Int)])) := by
        unfold groupsR
        rw [wrong_of_ok (chain_ok i) (by rw [chainG_len]; omega), chain_groups]; rfl
      have HG1 := groups_any (c := kp) h1 (by omega) (fun _ => ring_edges i hk1)
      rw [hrr, ← HK.out.2.2] at HG1
      have HGA := hide HG1
      have HGB : Hid (∀ w', Upd (fun _ => False) w9 w' → Calls Try.prog 14 #[.slice (some ⟨cb, 0, none⟩) i i] w' (ListsN w' (some ((List.range i).reverse.map (fun x : Nat => [(x : Int)]))))) := fun w' hu => by
        rw [← hrc]
        exact groups_any (c := i) (h2.keep hu) (by omega) (fun _ => chain_edges i hk1)
      have HU9 := hide (HU1.out.trans h3)
      clear h1 h2 h3 hrr hrc HG1
      go_upto_region 14 with (first | (go_at_call 14; refine HGA.out.mono ?_; clear HGA; rintro e w10 ⟨A4, n4, c4, rfl, HN4, HO4⟩; have HC := hide (HGB.out w10 HO4.out.2)) | (go_at_call 14; refine HC.out.mono ?_; rintro e w11 ⟨A5, n5, c5, rfl, HN5, HO5⟩))
      obtain rfl : n4 = 2 := HN4.out
      obtain rfl : n5 = i := by have := HN5.out; simpa using this
      have hga := HO4.out.1.keep HO5.out.2
      obtain ⟨gb, go, gs, a0, m0, k0, rfl, hc0, hd0, hm0, _⟩ := hga.2 0 (below n5) rfl
      obtain rfl : m0 = n5 := by rw [hm0]; simp [below]
      obtain ⟨a1, m1, k1, hc1, hd1, hm1, _⟩ := hga.rowAt (k := 1) (ys := [(m0 : Int)]) rfl
      obtain rfl : m1 = 1 := hm1
      obtain ⟨yb, yo, ysp, x, rfl, hxe, hxc⟩ := hd1.get rfl (k := 0) (by omega)
      obtain rfl : x = (m0 : Int) := hxe
      rw [show (⟨gb, go, gs⟩ : Addr).add 0 = ⟨gb, go, gs⟩ by simp [Addr.add]] at hc0
      rw [show (⟨gb, go, gs⟩ : Addr).add 1 = ⟨gb, go + 1, none⟩ by simp [Addr.add]] at hc1
      rw [show (⟨yb, yo, ysp⟩ : Addr).add 0 = ⟨yb, yo, ysp⟩ by simp [Addr.add]] at hxc
      have HU11 := hide ((HU9.out.trans HO4.out.2).trans HO5.out.2)
      have HG5 := hide HO5.out.1
      clear hga hd0 hm0 hd1
      go_wp2_with fail
      go_loop [12] (fun iv => ∃ j : Nat, j ≤ m0 ∧ iv = .int .i64 j) (fun iv => m0 - (intOf iv).toNat)
      case atStart => exact ⟨0, Nat.zero_le _, rfl⟩
      case round =>
        clear hc0 hc1 hxc
        obtain ⟨j, hj, rfl⟩ := hrel
        by_cases hjm : j < m0
        · obtain ⟨ys, gb, go, gs, a, m, kk, hys, rfl, hcc, hrr, hm, _⟩ := HG5.out.row hjm
          rw [chain_at hjm] at hys
          injection hys with hys
          subst hys
          obtain rfl : m = 1 := hm
          obtain ⟨yb, yo, ysp, x, rfl, hxe, hxc⟩ := hrr.get rfl (k := 0) (by omega)
          obtain rfl : x = (m0 : Int) - 1 - j := hxe
          rw [show (⟨yb, yo, ysp⟩ : Addr).add 0 = ⟨yb, yo, ysp⟩ by simp [Addr.add]] at hxc
          clear hrr
          go_wp2_with fail
          go_round
          case rel => exact ⟨j + 1, by omega, by go_num⟩
          case measure => simp [intOf]; omega
        · go_wp2_with fail
          go_ret
          exact ⟨rfl, HU11.out⟩

end Go.Proofs.Ytlfjmppmclgjnaa
