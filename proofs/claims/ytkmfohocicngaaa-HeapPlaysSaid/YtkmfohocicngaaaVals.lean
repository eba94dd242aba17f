/- Ints, values, one: what the laws use beside the heap. -/
import Derived.Test.YtkmfohocicngaaaSk
namespace Go.Proofs.Ytkmfohocicngaaa
open Go.RowKit

/-- The cell of a list's element. -/
theorem Rd.get {w : World} {A : Option Addr} {n c : Nat} {xs : List Int} (h : Rd w (.slice A n c) 1 n (xs.map (.int .i64))) (hn : n = xs.length) {k : Nat} (hk : k < n) :
    ∃ gb go gs x, A = some ⟨gb, go, gs⟩ ∧ x = xs[k]'(by omega) ∧ w.cell? ((⟨gb, go, gs⟩ : Addr).add k) = some (.int .i64 x) := by
  obtain ⟨A1, c1, hv, _, hA0, hA⟩ := h
  injection hv with hv1 hv2 hv3
  subst hv1
  cases A with
  | none => have := hA0 rfl; omega
  | some ad => exact ⟨ad.block, ad.off, ad.spot, _, rfl, rfl, hA ad rfl k _ (by rw [List.getElem?_map, List.getElem?_eq_getElem (by omega)]; rfl)⟩

theorem Rd.drewN {w : World} {v : Value} {size n : Nat} {xs : List Value} (h : Rd w v size n xs) (q : Nat) : Rd (w.drewN q) v size n xs := h

def IntsPost (w : World) (r : Bool) (e : Ending) (w' : World) : Prop := e = .returned (.bool r) ∧ ∃ m, w' = w.drewN m

set_option maxHeartbeats 1000000 in
theorem ints_any {w : World} {A A' : Option Addr} {n n' c c' : Nat} {xs ys : List Int} (hx : Rd w (.slice A n c) 1 n (xs.map (.int .i64))) (hn : n = xs.length) (hy : Rd w (.slice A' n' c') 1 n' (ys.map (.int .i64))) (hn' : n' = ys.length) (hl : n ≤ 9223372036854775806) :
    Calls Try.prog 18 #[.slice A n c, .slice A' n' c'] w (IntsPost w (decide (xs = ys))) := by
  by_cases hne : n = n'
  · subst hne
    have HX := hide hx
    have HY := hide hy
    have HN := hide hn
    have HN' := hide hn'
    clear hx hy hn hn'
    go_enter Try.func18, Try.ntmps18
    go_wp2
    go_loopw [5] (fun i wr => ∃ k : Nat, k ≤ n ∧ i = .int .i64 k ∧ Hid (xs.take k = ys.take k) ∧ ∃ q, wr = w.drewN q) (fun i _ => n - (intOf i).toNat)
    case atStart => exact ⟨0, Nat.zero_le _, rfl, rfl, 0, rfl⟩
    case round =>
      obtain ⟨k, hk, rfl, HT, q, rfl⟩ := hrel
      by_cases hlt : k < n
      · obtain ⟨gb, go, gs, x, rfl, hxe, hxc⟩ := HX.out.get HN.out hlt
        obtain ⟨gb', go', gs', y, rfl, hye, hyc⟩ := HY.out.get HN'.out hlt
        have HXE := hide hxe
        have HYE := hide hye
        clear hxe hye
        cases hxy : (x == y)
        · have hxy' : (x != y) = true := by simp [bne, hxy]
          have HNE := hide hxy
          clear hxy
          go_wp2_with fail
          go_quiet (fail)
          go_wp2_with fail
          go_ret
          refine ⟨rb ?_, _, (by first | rfl | rw [World.drewN_drewN])⟩
          have hx := HN.out; have hy := HN'.out
          have : xs ≠ ys := fun e => by
            have h1 := HXE.out
            have h2 := HYE.out
            subst e
            have h3 := HNE.out
            rw [h1, h2] at h3
            simp at h3
          simp [this]
        · have hxy' : (x != y) = false := by simp [bne, hxy]
          have HE := hide hxy
          clear hxy
          go_wp2_with fail
          go_quiet (fail)
          go_wp2_with fail
          go_roundw
          case rel =>
            refine ⟨k + 1, by omega, by go_num, ?_, _, (by first | rfl | rw [World.drewN_drewN])⟩
            have hx := HN.out; have hy := HN'.out
            show xs.take (k + 1) = ys.take (k + 1)
            rw [List.take_succ_eq_append_getElem (by omega), List.take_succ_eq_append_getElem (by omega), HT.out, ← HXE.out, ← HYE.out]
            have := HE.out
            simp at this
            rw [this]
          case measure => simp [intOf]; omega
      · go_wp2
        go_ret
        refine ⟨rb ?_, q, rfl⟩
        have hx := HN.out; have hy := HN'.out
        have hT := HT.out
        rw [List.take_of_length_le (by omega), List.take_of_length_le (by omega)] at hT
        simp [hT]
  · have hd : decide (xs = ys) = false := by
      simp; intro e; subst e; omega
    rw [hd]
    have hb : ((n : Int) != (n' : Int)) = true := by rw [bne_iff_ne]; omega
    have hb' : (n != n') = true := by rw [bne_iff_ne]; omega
    have hb2 : (n == n') = false := by simp; omega
    clear hn hn' hx hy hd
    go_enter Try.func18, Try.ntmps18
    go_wp2
    go_ret
    exact ⟨rb rfl, 0, rfl⟩


/-- What the laws' 'values' makes of a list: pointers from the told list at the odd places. -/
def valW (told : List Int) (v : Int) : Int := if v % 2 = 1 ∧ told ≠ [] then told.getD (((v / 2) % 1024) % (told.length : Int)).toNat 0 else v

def valuesL (xs told : List Int) : List Int := (xs.take 40).map (valW told)

theorem valW_i64 {told : List Int} {v : Int} (hv : I64 v) (ht : ∀ x ∈ told, I64 x) : I64 (valW told v) := by
  unfold valW
  split
  · rename_i h
    have hpos : 0 < told.length := List.length_pos_iff.2 h.2
    have : (((v / 2) % 1024) % (told.length : Int)).toNat < told.length := by
      have h1 := Int.emod_nonneg ((v / 2) % 1024) (b := (told.length : Int)) (by omega)
      have h2 := Int.emod_lt_of_pos ((v / 2) % 1024) (b := (told.length : Int)) (by omega)
      omega
    rw [List.getD_eq_getElem?_getD, List.getElem?_eq_getElem this]
    exact ht _ (List.getElem_mem _)
  · exact hv

def ValPost (w : World) (B : Nat) (ys : List Int) (e : Ending) (w' : World) : Prop := ∃ A c, e = .returned (.slice A ys.length c) ∧ w'.ownsRow B 3 1 (.slice A ys.length c) ys.length (ys.map (.int .i64)) ∧ Upd (fun _ => False) w w'

theorem val_step {w2 : World} {B : Nat} {v : Value} {k n : Nat} {told xs : List Int} {x y : Int} (hn : n = xs.length) (hx : ∀ h : k < xs.length, x = xs[k]'h) (hv : valW told x = y) (hlt : k < n)
    (h : w2.ownsRow B 3 1 v (k + 1) (((xs.take k).map (valW told)).map (.int .i64) ++ [.int .i64 y])) : w2.ownsRow B 3 1 v (k + 1) (((xs.take (k + 1)).map (valW told)).map (.int .i64)) := by
  subst hn
  rw [List.take_succ_eq_append_getElem hlt, List.map_append, List.map_append, List.map_cons, List.map_nil, ← hx hlt, hv]
  exact h

theorem val_upd {w wr w2 : World} {A1 : Option Addr} {k c1 : Nat} {ys : List Value} {o : Obj} (ho : wr.ownsRow w.heap.size 3 1 (.slice A1 k c1) k ys) (hu : Upd (fun _ => False) w wr) (hu2 : Upd (fun q => (Value.slice A1 k c1).ownBlock = some q) (wr.alloc o) w2) : Upd (fun _ => False) w w2 := by
  refine (hu.trans (Upd.alloc _ _ _)).extend hu2 fun q hq => .inr ?_
  obtain ⟨A, c, hv, _, _, _, _, hA⟩ := own_form ho
  exact (hA q hq).2.1

theorem val_end {w wr : World} {A1 : Option Addr} {k c1 : Nat} {ys zs : List Int} (ho : wr.ownsRow w.heap.size 3 1 (.slice A1 k c1) k (ys.map (.int .i64))) (hu : Upd (fun _ => False) w wr) (hk : zs.length = k) (hy : zs = ys) :
    ValPost w w.heap.size zs (.returned (.slice A1 k c1)) wr := by
  subst hk hy
  exact ⟨A1, c1, rfl, ho, hu⟩

set_option maxHeartbeats 1000000 in
theorem values_any {w : World} {A A' : Option Addr} {n n' c c' : Nat} {xs told : List Int} (hx : Rd w (.slice A n c) 1 n (xs.map (.int .i64))) (hn : n = xs.length) (ht : Rd w (.slice A' n' c') 1 n' (told.map (.int .i64))) (hn' : n' = told.length) (hl : n ≤ 9223372036854775807) (hl' : n' ≤ 9223372036854775806) (hi : ∀ x ∈ xs, I64 x) :
    Calls Try.prog 16 #[.slice A n c, .slice A' n' c'] w (ValPost w w.heap.size (valuesL xs told)) := by
  have HX := hide hx
  have HN := hide hn
  have HT := hide ht
  have HN' := hide hn'
  have HI := hide hi
  clear hx hn ht hn' hi
  go_enter Try.func16, Try.ntmps16
  go_wp2
  go_loopw [5, 6] (fun v i wr => ∃ (k : Nat) (A1 : Option Addr) (c1 : Nat), k ≤ n ∧ k ≤ 40 ∧ i = .int .i64 k ∧ v = .slice A1 k c1 ∧ Hid (wr.ownsRow w.heap.size 3 1 (.slice A1 k c1) k (((xs.take k).map (valW told)).map (.int .i64))) ∧ Hid (Upd (fun _ => False) w wr)) (fun _ i _ => n - (intOf i).toNat)
  case atStart => exact ⟨0, none, 0, Nat.zero_le _, Nat.zero_le _, rfl, rfl, World.ownsRow_nil .., Upd.refl _ _⟩
  case round =>
    obtain ⟨k, A1, c1, hk, hk40, rfl, rfl, HO, HU⟩ := hrel
    by_cases hlt : k < n
    · by_cases hlt40 : k < 40
      · obtain ⟨gb, go, gs, x, rfl, hxe, hxc⟩ := (HX.out.keep HU.out (fun _ _ h => h)).get HN.out hlt
        have HXE := hide hxe
        clear hxe
        have hb1 := bits_and1 x
        by_cases h2 : x % 2 = 1
        · rw [h2] at hb1
          by_cases h0 : 0 < n'
          · obtain ⟨q, hq⟩ : ∃ q : Nat, (x / 2) % 1024 = (q : Int) := ⟨((x / 2) % 1024).toNat, by have := Int.emod_nonneg (x / 2) (show (1024 : Int) ≠ 0 by decide); omega⟩
            have hb2 := bits_and1023 (x / 2)
            rw [hq] at hb2
            obtain ⟨r, hr⟩ : ∃ r : Nat, q % n' = r := ⟨_, rfl⟩
            have hrn : r < n' := hr ▸ Nat.mod_lt _ h0
            have hrem : Int.tmod (q : Int) (n' : Int) = (r : Int) := by rw [← hr]; rfl
            obtain ⟨gb', go', gs', y, rfl, hye, hyc⟩ := (HT.out.keep HU.out (fun _ _ h => h)).get HN'.out hrn
            have HV : Hid (valW told x = y) := by
              have hn' := HN'.out
              have hne : told ≠ [] := fun e => by rw [e] at hn'; simp at hn'; omega
              show valW told x = y
              unfold valW
              rw [if_pos ⟨h2, hne⟩, hq, ← hn', show (((q : Int) % (n' : Int)).toNat) = q % n' from rfl, hr, List.getD_eq_getElem?_getD, List.getElem?_eq_getElem (by omega), hye]
              rfl
            clear hye hq hr h2
            go_wp2_with (at_builtin; refine wpList_app (v := .slice A1 k c1) (u := .slice (some ⟨wr.heap.size, 0, none⟩) 1 1) Try.ints rfl (.tmp 39) (.tmp 41) rfl rfl ((Upd.alloc (fun _ => False) _ _).own HO.out (fun _ _ h => h)) rfl (Rd.new1 _ (.int .i64 y) 3 rfl) (by simp [Value.oneCell']) (k + 1) rfl (by omega) (by omega) (by have := HU.out.size; simp; omega) ?_; intro A2 c2 w2 own2 u2 at2 ne2; have HO2 := hide own2; have HU2 := hide u2; clear ne2 own2 u2 at2)
            go_roundw
            case rel => exact ⟨k + 1, A2, c2, by omega, by omega, by go_num, rfl, val_step HN.out (fun _ => HXE.out) HV.out hlt HO2.out, val_upd HO.out HU.out HU2.out⟩
            case measure => simp [intOf]; omega
          · have HV : Hid (valW told x = x) := by
              have hn' := HN'.out
              have hne : told = [] := List.eq_nil_of_length_eq_zero (by omega)
              show valW told x = x
              unfold valW
              rw [if_neg (by simp [hne])]
            obtain rfl : n' = 0 := by omega
            clear h2 h0
            go_wp2_with (at_builtin; refine wpList_app (v := .slice A1 k c1) (u := .slice (some ⟨wr.heap.size, 0, none⟩) 1 1) Try.ints rfl (.tmp 39) (.tmp 41) rfl rfl ((Upd.alloc (fun _ => False) _ _).own HO.out (fun _ _ h => h)) rfl (Rd.new1 _ (.int .i64 x) 3 rfl) (by simp [Value.oneCell']) (k + 1) rfl (by omega) (by omega) (by have := HU.out.size; simp; omega) ?_; intro A2 c2 w2 own2 u2 at2 ne2; have HO2 := hide own2; have HU2 := hide u2; clear ne2 own2 u2 at2)
            go_roundw
            case rel => exact ⟨k + 1, A2, c2, by omega, by omega, by go_num, rfl, val_step HN.out (fun _ => HXE.out) HV.out hlt HO2.out, val_upd HO.out HU.out HU2.out⟩
            case measure => simp [intOf]; omega
        · rw [show x % 2 = 0 by omega] at hb1
          have HV : Hid (valW told x = x) := by
            show valW told x = x
            unfold valW
            rw [if_neg (by simp [h2])]
          clear h2
          go_wp2_with (at_builtin; refine wpList_app (v := .slice A1 k c1) (u := .slice (some ⟨wr.heap.size, 0, none⟩) 1 1) Try.ints rfl (.tmp 39) (.tmp 41) rfl rfl ((Upd.alloc (fun _ => False) _ _).own HO.out (fun _ _ h => h)) rfl (Rd.new1 _ (.int .i64 x) 3 rfl) (by simp [Value.oneCell']) (k + 1) rfl (by omega) (by omega) (by have := HU.out.size; simp; omega) ?_; intro A2 c2 w2 own2 u2 at2 ne2; have HO2 := hide own2; have HU2 := hide u2; clear ne2 own2 u2 at2)
          go_roundw
          case rel => exact ⟨k + 1, A2, c2, by omega, by omega, by go_num, rfl, val_step HN.out (fun _ => HXE.out) HV.out hlt HO2.out, val_upd HO.out HU.out HU2.out⟩
          case measure => simp [intOf]; omega
      · have hk4 : k = 40 := by omega
        subst hk4
        go_wp2
        go_ret
        exact val_end HO.out HU.out (by rw [valuesL, List.length_map, List.length_take, ← HN.out]; omega) (by rw [valuesL])
    · have hke : k = n := by omega
      go_wp2
      go_ret
      exact val_end HO.out HU.out (by rw [valuesL, List.length_map, List.length_take, ← HN.out]; omega) (by have := HN.out; rw [valuesL, List.take_of_length_le (by omega), List.take_of_length_le (by omega)])

end Go.Proofs.Ytkmfohocicngaaa
