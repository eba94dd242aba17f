/- HeapRoom, walked. -/
import Derived.Test.YtkmfohocicngaaaState
namespace Go.Proofs.Ytkmfohocicngaaa
open Go.RowKit

theorem bits_mask (m : Nat) (hm : m ≤ 62) (v : Int) : bits BinOp.and IntKind.i64 v ((2 ^ m - 1 : Nat) : Int) = v % ((2 ^ m : Nat) : Int) := by
  have hp : 0 < 2 ^ m := Nat.two_pow_pos m
  have hlt : 2 ^ m ≤ 2 ^ 62 := Nat.pow_le_pow_right (by decide) hm
  have h7 : (BitVec.ofInt 64 ((2 ^ m - 1 : Nat) : Int)) = BitVec.ofNat 64 (2 ^ m - 1) := BitVec.ofInt_natCast _ _
  have hd : 2 ^ m ∣ 2 ^ 64 := Nat.pow_dvd_pow 2 (by omega)
  have hmod : (v % ((2 ^ 64 : Nat) : Int)).toNat % 2 ^ m = (v % ((2 ^ m : Nat) : Int)).toNat := by
    have h1 : 0 ≤ v % ((2 ^ 64 : Nat) : Int) := Int.emod_nonneg _ (by omega)
    have h2 : 0 ≤ v % ((2 ^ m : Nat) : Int) := Int.emod_nonneg _ (by omega)
    have h3 : ((v % ((2 ^ 64 : Nat) : Int)).toNat % 2 ^ m : Nat) = ((v % ((2 ^ 64 : Nat) : Int)) % ((2 ^ m : Nat) : Int)).toNat := by
      rw [Int.toNat_emod h1 (by omega), Int.toNat_natCast]
    rw [h3, Int.emod_emod_of_dvd _ (by exact_mod_cast hd)]
  have hm' : (BitVec.ofInt 64 v &&& BitVec.ofInt 64 ((2 ^ m - 1 : Nat) : Int)).toNat = (v % ((2 ^ m : Nat) : Int)).toNat := by
    rw [h7, BitVec.toNat_and, BitVec.toNat_ofNat, Nat.mod_eq_of_lt (by omega), Nat.and_two_pow_sub_one_eq_mod, BitVec.toNat_ofInt, hmod]
  show IntKind.i64.wrap ((BitVec.ofInt 64 v &&& BitVec.ofInt 64 ((2 ^ m - 1 : Nat) : Int)).toNat : Int) = _
  have h2 : 0 ≤ v % ((2 ^ m : Nat) : Int) := Int.emod_nonneg _ (by omega)
  have h3 : v % ((2 ^ m : Nat) : Int) < ((2 ^ m : Nat) : Int) := Int.emod_lt_of_pos _ (by omega)
  have h4 : ((2 ^ m : Nat) : Int) ≤ ((4611686018427387904 : Nat) : Int) := Int.ofNat_le.2 (Nat.le_trans hlt (by decide))
  rw [hm', IntKind.wrap_i64, Int.toNat_of_nonneg h2]
  omega

theorem bits_and31 (v : Int) : bits BinOp.and IntKind.i64 v 31 = v % 32 := bits_mask 5 (by decide) v
theorem bits_and255 (v : Int) : bits BinOp.and IntKind.i64 v 255 = v % 256 := bits_mask 8 (by decide) v
theorem bits_and63 (v : Int) : bits BinOp.and IntKind.i64 v 63 = v % 64 := bits_mask 6 (by decide) v
theorem bits_and15 (v : Int) : bits BinOp.and IntKind.i64 v 15 = v % 16 := bits_mask 4 (by decide) v
theorem bits_and3 (v : Int) : bits BinOp.and IntKind.i64 v 3 = v % 4 := bits_mask 2 (by decide) v
theorem bits_and1 (v : Int) : bits BinOp.and IntKind.i64 v 1 = v % 2 := bits_mask 1 (by decide) v
theorem bits_and1023 (v : Int) : bits BinOp.and IntKind.i64 v 1023 = v % 1024 := bits_mask 10 (by decide) v

/-- 'make([]T, n)' at the walk: the world written out. -/
theorem wpList_mk {P : Program} {t e : TypeId} {z : Value} {size bytes : Nat} (E : ElemOk P t e z size bytes) {ops : Array Oper} {rest : List Oper} {o : Oper} {a : Act} {Q : Exit → Act → World → Prop} {w : World} (hgd : o.guard = none) (l c : Operand)
    (hop : o.op = Op.makeSlice t l c) {n : Nat} (hl : a.eval l = .int .i64 (n : Int)) (hc : a.eval c = .int .i64 (n : Int)) (hb : n * bytes ≤ 281474976710656) (hn : n ≤ 9223372036854775807) {cs : Array Value} (hcs : madeCells z.cells (n * size) = cs)
    (K : wpList P ops Q rest (a.put o.dst (.slice (some ⟨w.heap.size, 0, none⟩) n n)) (w.alloc (.cells cs e))) : wpList P ops Q (o :: rest) a w := by
  subst hcs
  refine wpList_plain hgd fun _ hK => ?_
  obtain ⟨i, hi0, hi1, hi2, hi3⟩ := info_parts E.hi
  have hb' : (i.bytes : Int) * (n : Int) ≤ 281474976710656 := by
    rw [hi3, ← Int.natCast_mul, Nat.mul_comm]
    omega
  have hrun := run_make (P := P) w t e i z E.ht hi0 hi1 .i64 .i64 n n (by omega) (by omega) hb' (by omega)
  rw [hi2] at hrun
  simp only [Int.toNat_natCast] at hrun
  unfold Oper.wp
  simp only [execOp, hop, hl, hc, Sem.run_bind, Sem.run_pure, hrun, Result.andThen_ok]
  exact hK _ _ K

theorem made_ints (n : Nat) : (madeCells (Value.int .i64 0).cells (n * 1)).toList = (List.replicate n (0 : Int)).map (.int .i64) := by
  apply List.ext_getElem
  · simp [madeCells]
  · intro i h1 h2
    simp [madeCells, Value.cells, Nat.mod_one] at h1 ⊢

theorem collect_nil (L : List Ob) : collRes L [] = some ([], []) := by
  have h : ∀ n, scanN L [] n = [] := by
    intro n
    induction n with
    | zero => rfl
    | succ n ih => show scanO L (scanN L [] n) n = []; rw [ih]; simp [scanO, lenAt, stepsF]
  simp [collRes, collectR, collectT, mvs, h, obs]

theorem alloc_zeros (lim : Int) (L : List Ob) (k : Nat) (hk : k ≤ 65535) : allocRes lim L 0 (List.replicate k 0) = if lim < (total L : Int) + k + 1 then (0, 6, L) else ((total L : Int) * 8 + 5, 0, L ++ [(0, List.replicate k 0)]) := by
  unfold allocRes
  have h : (List.replicate k (0 : Int)).any (fun x => !rightL L x) = false := by
    rw [List.any_eq_false]
    intro x hx
    obtain rfl := List.eq_of_mem_replicate hx
    simp [rightL, isP]
  rw [if_neg (by simp [h]; omega), List.length_replicate]

theorem Rd.of_row {w : World} {a : Option Addr} {len cap : Nat} {zs : List Int} (h : (a = none ∧ len = 0 ∧ cap = 0 ∧ zs = []) ∨ ∃ x, a = some x ∧ len ≤ cap ∧ cap ≤ maxLen ∧ zs.length = cap ∧ (∀ i, i < zs.length → w.cell? (x.add i) = some (.int .i64 (zs.getD i 0))) ∧ ∀ n ∈ zs, (Lit.int .i64 n).wf = true) :
    Rd w (.slice a len cap) 1 len ((zs.take len).map (.int .i64)) ∧ (zs.take len).length = len ∧ (∀ x ∈ zs.take len, I64 x) ∧ (∀ k, (Value.slice a len cap).ownBlock = some k → len ≠ 0 → k < w.heap.size) := by
  rcases h with ⟨rfl, rfl, rfl, rfl⟩ | ⟨x, rfl, hl, hm, hz, hc, hw⟩
  · exact ⟨Rd.nil w, rfl, by simp, fun k hk => by simp [Value.ownBlock] at hk⟩
  · have hlen : (zs.take len).length = len := by simp; omega
    refine ⟨⟨some x, cap, rfl, by simpa using hlen, fun h => by simp at h, fun ad had j u hu => ?_⟩, hlen, fun y hy => ?_, fun k hk h0 => ?_⟩
    · obtain rfl := Option.some.inj had
      rw [List.getElem?_map, Option.map_eq_some_iff] at hu
      obtain ⟨y, hy, rfl⟩ := hu
      rw [List.getElem?_take] at hy
      split at hy
      · have hj := (List.getElem?_eq_some_iff.1 hy).1
        rw [hc j hj, List.getD_eq_getElem?_getD, hy]; rfl
      · cases hy
    · have := hw y (List.mem_of_mem_take hy)
      simp [Lit.wf, IntKind.min, IntKind.max, IntKind.signed, IntKind.bits] at this
      exact ⟨this.1, by omega⟩
    · obtain rfl : x.block = k := by simpa [Value.ownBlock] using hk
      have := World.block_lt_of_cell? w _ (hc 0 (by omega))
      have hb : (x.add 0).block = x.block := rfl
      omega

theorem I64.of_wf {x : Int} (h : (Lit.int .i64 x).wf = true) : I64 x := by
  simp [Lit.wf, IntKind.min, IntKind.max, IntKind.signed, IntKind.bits] at h
  exact ⟨h.1, by omega⟩

set_option maxHeartbeats 1000000 in
theorem room_walk (words : Int) (A : Option Addr) (n c : Nat) (xs : List Int) (w : World) (hx : Rd w (.slice A n c) 1 n (xs.map (.int .i64))) (hn : n = xs.length) :
    Calls Try.prog 3 #[.int .i64 words, .slice A n c] w fun e w' => e = .returned (.bool true) ∧ Below w.heap.size w w' := by
  have h255 := bits_and255 words
  have hm0 : 0 ≤ words % 256 := Int.emod_nonneg _ (by decide)
  have hm1 : words % 256 < 256 := Int.emod_lt_of_pos _ (by decide)
  obtain ⟨m, hm⟩ : ∃ m : Int, words % 256 = m := ⟨_, rfl⟩
  rw [hm] at h255 hm0 hm1
  clear hm
  by_cases hlen : 100 < n
  · go_enter Try.func3, Try.ntmps3
    go_wp2_with (first | (go_at_call 9; refine (awake_any _).mono ?_; rintro e w1 ⟨rfl, hb1⟩; have HB1 := hide hb1; clear hb1) | (go_at_call 10; refine (new_yes _ hm0 (by omega)).mono ?_; rintro e w2 ⟨rfl, hw2⟩; have HW2 := hide hw2; clear hw2))
    go_ret
    exact ⟨rb rfl, by rw [← HW2.out]; exact HB1.out.alloc HB1.out.size _⟩
  · have HX := hide hx
    have HN := hide hn
    clear hx hn
    go_enter Try.func3, Try.ntmps3
    go_wp2_with (first | (go_at_call 9; refine (awake_any _).mono ?_; rintro e w1 ⟨rfl, hb1⟩; have HB1 := hide hb1; clear hb1) | (go_at_call 10; refine (new_yes _ hm0 (by omega)).mono ?_; rintro e w2 ⟨rfl, hw2⟩; have HW2 := hide hw2; clear hw2))
    have HS : Hid (St w w2 w1.heap.size m []) := by
      have := St.new HB1.out hm0 (by omega : m ≤ 4194304)
      rw [HW2.out] at this
      exact this
    generalize w1.heap.size = b at HS ⊢
    clear HW2
    go_loopw [9, 10] (fun u i wr => ∃ (k : Nat) (L : List Ob), k ≤ n ∧ i = .int .i64 k ∧ u = .int .i64 (total L) ∧ total L ≤ 255 ∧ St w wr b m L) (fun _ i _ => n - (intOf i).toNat)
    case atStart => exact ⟨0, [], Nat.zero_le _, rfl, rfl, by decide, HS.out⟩
    case round =>
      obtain ⟨k, L, hk, rfl, rfl, htl, hst⟩ := hrel
      have HST := hide hst
      clear hst
      by_cases hlt : k < n
      · obtain ⟨x, hx⟩ : ∃ x, x = xs[k]'(by have := HN.out; omega) := ⟨_, rfl⟩
        have hcell : ∃ gb go gs, A = some ⟨gb, go, gs⟩ ∧ wr.cell? ((⟨gb, go, gs⟩ : Addr).add k) = some (.int .i64 x) := by
          obtain ⟨FT, _, _, hb⟩ := HST.out
          obtain ⟨A1, c1, hv, _, hA0, hA⟩ := HX.out
          injection hv with hv1 hv2 hv3
          subst hv1
          cases A with
          | none => have := hA0 rfl; omega
          | some ad =>
            refine ⟨ad.block, ad.off, ad.spot, rfl, ?_⟩
            have := hA ad rfl k (.int .i64 x) (by rw [List.getElem?_map, List.getElem?_eq_getElem (by have := HN.out; omega), hx]; rfl)
            exact (hb.cell (World.block_lt_of_cell? w _ this)).trans this
        obtain ⟨gb, go, gs, rfl, hcx⟩ := hcell
        obtain ⟨kk, hkk⟩ : ∃ kk : Nat, x % 32 = (kk : Int) := ⟨(x % 32).toNat, by have := Int.emod_nonneg x (show (32 : Int) ≠ 0 by decide); omega⟩
        have hkk1 : kk ≤ 31 := by have := Int.emod_lt_of_pos x (show (0 : Int) < 32 by decide); omega
        have h31 := bits_and31 x
        rw [hkk] at h31
        clear hx hkk
        obtain ⟨cs, hcs⟩ : ∃ cs, madeCells (Value.int .i64 0).cells (kk * 1) = cs := ⟨_, rfl⟩
        have HCS := hide hcs
        have hal := HST.out.alloc (Upd.alloc (fun _ => False) wr (.cells (madeCells (Value.int .i64 0).cells (kk * 1)) 3)) 0 (some ⟨wr.heap.size, 0, none⟩) kk kk (List.replicate kk 0)
          (by have := Rd.lit wr (madeCells (Value.int .i64 0).cells (kk * 1)) 3 rfl (n := kk) (by simp [size_madeCells]) kk; rw [made_ints] at this; exact this) (by simp) (fun q hq => by simp [Value.ownBlock] at hq; omega) (by omega) (fun y hy => by obtain rfl := List.eq_of_mem_replicate hy; exact ⟨by decide, by decide⟩)
        rw [alloc_zeros m L kk (by omega), hcs] at hal
        clear hcs
        by_cases hf : m < (total L : Int) + kk + 1
        · rw [if_pos hf] at hal
          have HAL := hide hal
          clear hal
          go_wp2_with (first | (at_make; refine wpList_mk Try.ints rfl (.tmp 53) (.tmp 53) rfl rfl rfl (by omega) (by omega) HCS.out ?_) | (go_at_call 11; refine HAL.out.mono ?_; rintro e w3 ⟨rfl, hs3⟩; have HS3 := hide hs3; clear hs3) | (go_at_call 12; refine HS3.out.used.mono ?_; rintro e w4 ⟨rfl, rfl⟩))
          go_roundw
          case rel => exact ⟨k + 1, L, by omega, by go_num, rfl, htl, HS3.out⟩
          case measure => simp [intOf]; omega
        · rw [if_neg hf] at hal
          have HAL := hide hal
          have htl' : total (L ++ [(0, List.replicate kk 0)]) = total L + kk + 1 := by rw [total_append, total_cons, total_nil]; simp; omega
          have HTL := hide htl'
          have hf' : (total L : Int) + kk + 1 ≤ m := by omega
          clear hal htl' hf
          go_wp2_with (first | (at_make; refine wpList_mk Try.ints rfl (.tmp 53) (.tmp 53) rfl rfl rfl (by omega) (by omega) HCS.out ?_) | (go_at_call 11; refine HAL.out.mono ?_; rintro e w3 ⟨rfl, hs3⟩; have HS3 := hide hs3; clear hs3) | (go_at_call 12; refine HS3.out.used.mono ?_; rw [HTL.out]; rintro e w4 ⟨rfl, rfl⟩))
          go_roundw
          case rel => exact ⟨k + 1, _, by omega, by go_num, by rw [HTL.out]; go_num, by rw [HTL.out]; omega, HS3.out⟩
          case measure => simp [intOf]; omega
      · have hc := HST.out.collect none 0 0 [] (Rd.nil wr) rfl (by decide) (by simp)
        rw [collect_nil] at hc
        have HC := hide hc
        clear hc
        go_wp2_with (first | (go_at_call 13; refine HC.out.mono ?_; rintro e w3 ⟨A3, c3, rfl, hs3, ho3⟩; have HS3 := hide hs3; clear hs3 ho3; simp only [List.length_nil]) | (go_at_call 12; refine HS3.out.used.mono ?_; rw [total_nil]; rintro e w4 ⟨rfl, rfl⟩))
        go_ret
        obtain ⟨_, _, _, hb⟩ := HS3.out
        exact ⟨rb rfl, hb⟩
end Go.Proofs.Ytkmfohocicngaaa
