/- 'built', walked. -/
import Derived.Test.YtkmfohocicngaaaBuilt
namespace Go.Proofs.Ytkmfohocicngaaa
open Go.RowKit

theorem make_ints (w : World) (s : Nat) (hs : s ≤ 1000) : (Instr.makeSlice 22 (.int .i64 (s : Int)) (.int .i64 (s : Int))).run Try.prog w = .ok (.slice (some ⟨w.heap.size, 0, none⟩) s s) (w.alloc (.cells (madeCells (Value.int .i64 0).cells (s * 1)) 3)) := by
  obtain ⟨i, hi0, hi1, hi2, hi3⟩ := info_parts Try.ints.hi
  have hb' : (i.bytes : Int) * (s : Int) ≤ 281474976710656 := by
    rw [hi3]
    omega
  have hrun := run_make (P := Try.prog) w 22 3 i _ Try.ints.ht hi0 hi1 .i64 .i64 s s (by omega) (by omega) hb' (by omega)
  rw [hi2] at hrun
  simpa only [Int.toNat_natCast] using hrun

theorem cell_below {w w' : World} {a : Addr} {v : Value} (h : Below w.heap.size w w') (hc : w.cell? a = some v) : w'.cell? a = some v := by
  rw [World.cell?_of_block (h.block a.block (World.block_lt_of_cell? w _ hc)), hc]

def BuiltPost (w : World) (e : Ending) (w' : World) : Prop :=
  ∃ b L A k c ps, e = .returned (.tuple #[.pointer (some ⟨b, 0, none⟩), .slice A k c]) ∧ k ≤ 30 ∧ Hid (BSt w w' b L k A c ps)

set_option maxRecDepth 100000 in
set_option maxHeartbeats 4000000 in
theorem built_any {w : World} {A A' : Option Addr} {n n' c c' : Nat} {xs ys : List Int} (hx : Rd w (.slice A n c) 1 n (xs.map (.int .i64))) (hn : n = xs.length) (hy : Rd w (.slice A' n' c') 1 n' (ys.map (.int .i64))) (hn' : n' = ys.length) (hl : n ≤ 9223372036854775807) (hl' : n' ≤ 9223372036854775807) :
    Calls Try.prog 15 #[.slice A n c, .slice A' n' c'] w (BuiltPost w) := by
  have HX := hide hx
  have HN := hide hn
  have HY := hide hy
  have HN' := hide hn'
  clear hx hn hy hn'
  go_enter Try.func15, Try.ntmps15
  go_wp2_with (go_at_call 10; refine (new_yes _ (by decide) (by decide)).mono ?_; rintro e w2 ⟨rfl, hw2⟩; have HB := hide (BSt.new hw2); clear hw2)
  generalize w.heap.size = b at HB ⊢
  go_loopw [8, 9] (fun v i wr => ∃ (k : Nat) (A1 : Option Addr) (c1 : Nat) (L : List Ob) (ps : List Int), k ≤ n ∧ k ≤ 30 ∧ i = .int .i64 k ∧ v = .slice A1 k c1 ∧ Hid (BSt w wr b L k A1 c1 ps)) (fun _ i _ => n - (intOf i).toNat)
  case atStart => exact ⟨0, none, 0, [], [], Nat.zero_le _, Nat.zero_le _, rfl, rfl, HB.out⟩
  case round =>
    obtain ⟨k, A1, c1, L, ps, hk, hk30, rfl, rfl, HS⟩ := hrel
    by_cases hlt : k < n
    · by_cases hlt30 : k < 30
      · obtain ⟨gb, go, gs, x, rfl, hxe, hxw⟩ := HX.out.get HN.out hlt
        have HXW := hide hxw
        have hxc := cell_below HS.out.1.below hxw
        clear hxe hxw
        have hb1 := bits_and15 x
        have hb2 := bits_and3 (x / 16)
        obtain ⟨kd, hkd⟩ : ∃ kd : Int, x % 16 = kd := ⟨_, rfl⟩
        obtain ⟨s, hs⟩ : ∃ s : Nat, (x / 16) % 4 = (s : Int) := ⟨((x / 16) % 4).toNat, by have := Int.emod_nonneg (x / 16) (show (4 : Int) ≠ 0 by decide); omega⟩
        have hkd0 : 0 ≤ kd := by omega
        have hkd1 : kd ≤ 15 := by omega
        have hs3 : s ≤ 3 := by omega
        rw [hkd] at hb1
        rw [hs] at hb2
        clear hkd hs
        have hk0 : (0 : Int) ≤ (k : Int) := Int.natCast_nonneg _
        have hk1 : (k : Int) < (n : Int) := by omega
        have hmk := make_ints wr.drew s (by omega)
        have hcs : (madeCells (Value.int .i64 0).cells (s * 1)).toList = (List.replicate s (0 : Int)).map (.int .i64) := made_ints s
        generalize madeCells (Value.int .i64 0).cells (s * 1) = cs at hmk hcs
        have HCS := hide hcs
        clear hcs
        go_wp2_with fail
        go_region_held3 (fun w' => w'.cell? ((⟨gb, go, gs⟩ : Addr).add k) = some (.int .i64 x)) (first | go_keep | (exact cell_below hG.out.1.below HXW.out))
            (first | (go_at_call 11; refine (HS.out.grow hlt30 hkd0 hkd1 hs3 HCS.out rfl rfl).mono ?_; rintro e w3 ⟨p, L', rfl, hp, hG⟩))
        go_wp2_with (at_builtin; refine wpList_app (v := .slice A1 k c1) (u := .slice (some ⟨w3.heap.size, 0, none⟩) 1 1) Try.ints rfl (.tmp 51) (.tmp 53) rfl rfl (((hide (hG.out.2.1.trans (Upd.alloc _ _ _))).out).own HS.out.2.1 (fun _ hq h => h.1 hq)) rfl (Rd.new1 _ (.int .i64 p) 3 rfl) (by simp [Value.oneCell']) (k + 1) rfl (by omega) (by omega) (by have := hG.out.1.below.size; simp; omega) ?_; intro A2 c2 w2 own2 u2 at2 ne2; have HB2 := hide (HS.out.step hG own2 u2 at2); clear ne2 own2 u2 at2)
        go_roundw
        case rel => exact ⟨k + 1, A2, c2, L', _, by omega, by omega, by go_num, rfl, HB2.out⟩
        case measure => simp [intOf]; omega
      · go_wp2
        go_loopw [12, 13] (fun av iv w2 => ∃ (m j : Nat) (L2 : List Ob), m ≤ 3 * j ∧ j ≤ k ∧ av = .int .i64 m ∧ iv = .int .i64 j ∧ Hid (BSt w w2 b L2 k A1 c1 ps)) (fun _ iv _ => k - (intOf iv).toNat)
        case atStart => exact ⟨0, 0, L, Nat.zero_le _, Nat.zero_le _, rfl, rfl, HS.out⟩
        case round =>
          clear HS
          obtain ⟨m, j, L2, hm, hj, rfl, rfl, HS⟩ := hrel
          by_cases hjk : j < k
          · obtain ⟨gb, p, rfl, hp, hpi, hpc⟩ := HS.out.get hjk
            go_wp2_with (go_at_call 14; refine (HS.out.fields hp).mono ?_; rintro e w4 ⟨g2, m2, c2, rfl, hm2, HS4⟩)
            go_loopw [12, 16, 17] (fun av tv vv w5 => ∃ (m t : Nat) (L5 : List Ob), m ≤ 3 * j + t ∧ t ≤ m2 ∧ av = .int .i64 m ∧ tv = .int .i64 t ∧ Hid (BSt w w5 b L5 k (some ⟨gb, 0, none⟩) c1 ps)) (fun _ tv _ _ => m2 - (intOf tv).toNat)
            case atStart => exact ⟨m, 0, L2, by omega, Nat.zero_le _, rfl, rfl, HS4.out⟩
            case round =>
              clear HS4 HS hpc hpi hp hm
              obtain ⟨m, t, L5, hm, ht, rfl, rfl, HS⟩ := hrel
              obtain ⟨p5, hp, hpi, hpc⟩ := HS.out.get' hjk
              have HSET : Hid (∀ v, I64 v → Calls Try.prog 17 #[.pointer (some ⟨b, 0, none⟩), .int .i64 p5, .int .i64 (t : Int), .int .i64 v] wr (SetB w wr b k (some ⟨gb, 0, none⟩) c1 ps)) := fun v hv => HS.out.set hp hv
              clear hp hpi
              by_cases htm : t < m2
              · by_cases hmn : m < n'
                · obtain ⟨lb, lo, ls, y, rfl, hye, hyw⟩ := HY.out.get HN'.out hmn
                  have hyc := cell_below HS.out.1.below hyw
                  clear hye hyw
                  have hb1 := bits_and1 y
                  by_cases h2 : y % 2 = 1
                  · rw [h2] at hb1
                    obtain ⟨q, hq⟩ : ∃ q : Nat, (y / 2) % 1024 = (q : Int) := ⟨((y / 2) % 1024).toNat, by have := Int.emod_nonneg (y / 2) (show (1024 : Int) ≠ 0 by decide); omega⟩
                    have hb2 := bits_and1023 (y / 2)
                    rw [hq] at hb2
                    have h0 : 0 < k := by omega
                    obtain ⟨r, hr⟩ : ∃ r : Nat, q % k = r := ⟨_, rfl⟩
                    have hrn : r < k := hr ▸ Nat.mod_lt _ h0
                    have hrem : Int.tmod (q : Int) (k : Int) = (r : Int) := by rw [← hr]; rfl
                    obtain ⟨z, _, hzi, hzc⟩ := HS.out.get' hrn
                    clear hq hr h2
                    go_wp2_with (go_at_call 17; refine (HSET.out _ hzi).mono ?_; rintro e w6 ⟨r6, L6, rfl, HS6⟩)
                    go_roundw
                    case rel => exact ⟨m + 1, t + 1, L6, by omega, by omega, by go_num, by go_num, HS6.out⟩
                    case measure => simp [intOf]; omega
                  · rw [show y % 2 = 0 by omega] at hb1
                    clear h2
                    have hji : Hid (I64 (8 * (j : Int))) := ⟨by omega, by omega⟩
                    go_wp2_with (go_at_call 17; refine (HSET.out _ hji.out).mono ?_; rintro e w6 ⟨r6, L6, rfl, HS6⟩)
                    go_roundw
                    case rel => exact ⟨m + 1, t + 1, L6, by omega, by omega, by go_num, by go_num, HS6.out⟩
                    case measure => simp [intOf]; omega
                · have hji : Hid (I64 (8 * (j : Int))) := ⟨by omega, by omega⟩
                  go_wp2_with (go_at_call 17; refine (HSET.out _ hji.out).mono ?_; rintro e w6 ⟨r6, L6, rfl, HS6⟩)
                  go_roundw
                  case rel => exact ⟨m + 1, t + 1, L6, by omega, by omega, by go_num, by go_num, HS6.out⟩
                  case measure => simp [intOf]; omega
              · go_wp2
                go_roundw
                case rel => exact ⟨m, j + 1, L5, by omega, by omega, rfl, by go_num, HS.out⟩
                case measure => simp [intOf]; omega
          · go_wp2
            go_ret2
            exact ⟨b, L2, A1, k, c1, ps, rfl, hk30, HS⟩
    · go_wp2
      go_loopw [12, 13] (fun av iv w2 => ∃ (m j : Nat) (L2 : List Ob), m ≤ 3 * j ∧ j ≤ k ∧ av = .int .i64 m ∧ iv = .int .i64 j ∧ Hid (BSt w w2 b L2 k A1 c1 ps)) (fun _ iv _ => k - (intOf iv).toNat)
      case atStart => exact ⟨0, 0, L, Nat.zero_le _, Nat.zero_le _, rfl, rfl, HS.out⟩
      case round =>
        clear HS
        obtain ⟨m, j, L2, hm, hj, rfl, rfl, HS⟩ := hrel
        by_cases hjk : j < k
        · obtain ⟨gb, p, rfl, hp, hpi, hpc⟩ := HS.out.get hjk
          go_wp2_with (go_at_call 14; refine (HS.out.fields hp).mono ?_; rintro e w4 ⟨g2, m2, c2, rfl, hm2, HS4⟩)
          go_loopw [12, 16, 17] (fun av tv vv w5 => ∃ (m t : Nat) (L5 : List Ob), m ≤ 3 * j + t ∧ t ≤ m2 ∧ av = .int .i64 m ∧ tv = .int .i64 t ∧ Hid (BSt w w5 b L5 k (some ⟨gb, 0, none⟩) c1 ps)) (fun _ tv _ _ => m2 - (intOf tv).toNat)
          case atStart => exact ⟨m, 0, L2, by omega, Nat.zero_le _, rfl, rfl, HS4.out⟩
          case round =>
            clear HS4 HS hpc hpi hp hm
            obtain ⟨m, t, L5, hm, ht, rfl, rfl, HS⟩ := hrel
            obtain ⟨p5, hp, hpi, hpc⟩ := HS.out.get' hjk
            have HSET : Hid (∀ v, I64 v → Calls Try.prog 17 #[.pointer (some ⟨b, 0, none⟩), .int .i64 p5, .int .i64 (t : Int), .int .i64 v] wr (SetB w wr b k (some ⟨gb, 0, none⟩) c1 ps)) := fun v hv => HS.out.set hp hv
            clear hp hpi
            by_cases htm : t < m2
            · by_cases hmn : m < n'
              · obtain ⟨lb, lo, ls, y, rfl, hye, hyw⟩ := HY.out.get HN'.out hmn
                have hyc := cell_below HS.out.1.below hyw
                clear hye hyw
                have hb1 := bits_and1 y
                by_cases h2 : y % 2 = 1
                · rw [h2] at hb1
                  obtain ⟨q, hq⟩ : ∃ q : Nat, (y / 2) % 1024 = (q : Int) := ⟨((y / 2) % 1024).toNat, by have := Int.emod_nonneg (y / 2) (show (1024 : Int) ≠ 0 by decide); omega⟩
                  have hb2 := bits_and1023 (y / 2)
                  rw [hq] at hb2
                  have h0 : 0 < k := by omega
                  obtain ⟨r, hr⟩ : ∃ r : Nat, q % k = r := ⟨_, rfl⟩
                  have hrn : r < k := hr ▸ Nat.mod_lt _ h0
                  have hrem : Int.tmod (q : Int) (k : Int) = (r : Int) := by rw [← hr]; rfl
                  obtain ⟨z, _, hzi, hzc⟩ := HS.out.get' hrn
                  clear hq hr h2
                  go_wp2_with (go_at_call 17; refine (HSET.out _ hzi).mono ?_; rintro e w6 ⟨r6, L6, rfl, HS6⟩)
                  go_roundw
                  case rel => exact ⟨m + 1, t + 1, L6, by omega, by omega, by go_num, by go_num, HS6.out⟩
                  case measure => simp [intOf]; omega
                · rw [show y % 2 = 0 by omega] at hb1
                  clear h2
                  have hji : Hid (I64 (8 * (j : Int))) := ⟨by omega, by omega⟩
                  go_wp2_with (go_at_call 17; refine (HSET.out _ hji.out).mono ?_; rintro e w6 ⟨r6, L6, rfl, HS6⟩)
                  go_roundw
                  case rel => exact ⟨m + 1, t + 1, L6, by omega, by omega, by go_num, by go_num, HS6.out⟩
                  case measure => simp [intOf]; omega
              · have hji : Hid (I64 (8 * (j : Int))) := ⟨by omega, by omega⟩
                go_wp2_with (go_at_call 17; refine (HSET.out _ hji.out).mono ?_; rintro e w6 ⟨r6, L6, rfl, HS6⟩)
                go_roundw
                case rel => exact ⟨m + 1, t + 1, L6, by omega, by omega, by go_num, by go_num, HS6.out⟩
                case measure => simp [intOf]; omega
            · go_wp2
              go_roundw
              case rel => exact ⟨m, j + 1, L5, by omega, by omega, rfl, by go_num, HS.out⟩
              case measure => simp [intOf]; omega
        · go_wp2
          go_ret2
          exact ⟨b, L2, A1, k, c1, ps, rfl, hk30, HS⟩

end Go.Proofs.Ytkmfohocicngaaa
