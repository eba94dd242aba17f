/- From the texts' runs to what script.Run tells. -/
import Derived.Test.YtadbcnekkceoaaaGreatDoorKBAmWk
import Derived.Test.YtadbcnekkceoaaaGreatDoorKBTm
set_option linter.unusedVariables false
namespace Go.Proofs.YtadbcnekkceoaaaGreatDoor.Wk
open Go.RowKit (Below)
open Am
theorem kp_below {w w' : World} (h : Kp w w') : Below w.heap.size w w' := ⟨h.os, h.tape, h.output, h.size, h.block⟩
theorem bytes_lit {l : List Nat} {k : List UInt8} {b : ByteArray} (h : l = b.data.toList.map UInt8.toNat) (e : l = k.map UInt8.toNat) : b = ⟨k.toArray⟩ := by
  have := toN_inj (h.symm.trans e)
  cases b with | mk d => simp only at this; rw [← this, Array.toArray_toList]
section
variable {c1 c2 : List ((Nat × CL) × Nat)} {g1 g2 g3 : List (List TA)} {j1 j2 j3 : List Jb} {tx : List Nat}
theorem sws_mem (a b c : Bool) : [AV.str tx, .agg [.bool a, .bool b, .bool c, .ge 0, .ge 0, .ge 0], .int .i64 (.ofNat 4000), .int .i64 (.ofNat 60000)] ∈ argsX tx := by
  cases a <;> cases b <;> cases c <;> simp [argsX, sws]
theorem run_bad {want : Nat} (s1 : segC mkX 1000 [] g1 j1 c1 = some tok) (s2 : segC mkX 1000 [] g2 j2 c2 = some tok) (s3 : lastC mkX 1000 (c1.map Prod.fst ++ c2.map Prod.fst) g3 j3 10 hp0 (endC want [97]) (argsX tx) = some tok) {s : ByteArray} (e : tx = s.data.toList.map UInt8.toNat) (a b c : Bool) (X Y Z : Nat) (w' : World) (hX : X ≤ 4096) (hY : Y ≤ 4096) (hZ : Z ≤ 4096) (hw : Tb20 w') :
    Calls Tryz.prog 10 #[.string s, .agg #[.bool a, .bool b, .bool c, .int .i64 X, .int .i64 Y, .int .i64 Z], .int .i64 4000, .int .i64 60000] w' (RunP w' (.ofNat want) ⟨#[97]⟩) := by
  refine (run_of s1 s2 s3 (sws_mem a b c) hw (args := #[.string s, .agg #[.bool a, .bool b, .bool c, .int .i64 X, .int .i64 Y, .int .i64 Z], .int .i64 4000, .int .i64 60000]) ?_).mono ?_
  · rw [e]
    exact .cons (.str s) (.cons (.agg (.cons (.bool a) (.cons (.bool b) (.cons (.bool c) (.cons (.ge (Nat.zero_le X) (by omega)) (.cons (.ge (Nat.zero_le Y) (by omega)) (.cons (.ge (Nat.zero_le Z) (by omega)) .nil))))))) (.cons (.int _ _) (.cons (.int _ _) .nil)))
  · rintro e w2 ⟨h1, bo, bv, ua, rfl, h2, _⟩
    obtain rfl := bytes_lit (k := [97]) h2 rfl
    exact ⟨bv, ua, rfl, Mv.hide (kp_below h1)⟩
theorem run_awake (s1 : segC mkX 1000 [] g1 j1 c1 = some tok) (s2 : segC mkX 1000 [] g2 j2 c2 = some tok) (s3 : lastC mkX 1000 (c1.map Prod.fst ++ c2.map Prod.fst) g3 j3 10 hp0 endA (argsA tx) = some tok) (e : tx = sAw.data.toList.map UInt8.toNat) {w : World} (hw : Tb20 w) :
    Calls Tryz.prog 5 #[] w fun e w' => e = .returned (.bool true) ∧ Below w.heap.size w w' := by
  refine awake_of hw fun w1 hw1 => ?_
  have := done_of (w := w1) (s := sAw) (bo := ⟨#[]⟩) (bv := ⟨#[49, 50, 48]⟩) hw1 (by decide) fun w2 hw2 => ?_
  · exact this
  refine (run_of s1 s2 s3 (by unfold argsA; exact List.mem_singleton.2 rfl) hw2 (args := #[.string sAw, .agg #[.bool false, .bool false, .bool false, .int .i64 0, .int .i64 0, .int .i64 0], .int .i64 100, .int .i64 1000]) ?_).mono ?_
  · rw [e]
    exact .cons (.str _) (.cons (.agg (.cons (.bool _) (.cons (.bool _) (.cons (.bool _) (.cons (.int _ _) (.cons (.int _ _) (.cons (.int _ _) .nil))))))) (.cons (.int _ _) (.cons (.int _ _) .nil)))
  · rintro e w3 ⟨h1, bo, bv, ua, rfl, h2, r, h3⟩
    obtain rfl := bytes_lit (k := []) h2 rfl
    obtain ⟨h3, _⟩ := eqLC_ok h3
    obtain rfl := bytes_lit (k := [49, 50, 48]) h3.symm rfl
    exact ⟨ua, rfl, Mv.hide (kp_below h1)⟩
end
end Go.Proofs.YtadbcnekkceoaaaGreatDoor.Wk
namespace Go.Proofs.YtadbcnekkceoaaaGreatDoor.Wk
open Go.RowKit Mv
set_option maxHeartbeats 2000000 in
set_option maxRecDepth 100000 in
theorem bad0 {w : World} (n : Int) (a b c : Bool) (x y z : Int) (ht : Am.Tb20 w) (eK : (bits .and .i64 n 65535).tmod 11 = 0)
    (hA : ∀ w' : World, Am.Tb20 w' → Calls Tryz.prog 5 #[] w' fun e w'' => e = .returned (.bool true) ∧ Below w'.heap.size w' w'')
    (hE : ∀ w' : World, Am.Tb20 w' → Calls Tryz.prog 8 #[.string (sPre ++ ⟨#[40, 99, 97, 114, 32, 49, 41]⟩ ++ sPost), .agg #[.bool a, .bool b, .bool c, .int .i64 x, .int .i64 y, .int .i64 z]] w' fun e w'' => e = .returned (.tuple #[.int .i64 1, .string ⟨#[97]⟩]) ∧ Below w'.heap.size w' w'') :
    Calls Tryz.prog 4 #[.int .i64 n, .agg #[.bool a, .bool b, .bool c, .int .i64 x, .int .i64 y, .int .i64 z]] w fun e w' => e = .returned (.bool true) ∧ Below w.heap.size w w' := by
  have HA := hide hA
  have HE := hide hE
  have HT := hide ht
  have HEK := hide eK
  clear hA ht hE eK
  go_enter Tryz.func4, Tryz.ntmps4
  go_wp2_with (first | (go_at_call 5; refine (HA.out _ (T20.alloc HT.out _)).mono ?_; rintro e w1 ⟨rfl, hu⟩; have HU1 := hide hu; clear hu))
  rw [HEK.out]
  have hz1 : (w1.alloc (.cells strs 9)).heap.size = w1.heap.size + 1 := by simp
  have hz0 : w.heap.size < w1.heap.size := by have := HU1.out.size; simp at this; omega
  have hal2 := blk_new2 w1 (.cells strs 9) 3 ints
  have hal1 : Blk ((w1.alloc (.cells strs 9)).alloc (.cells ints 3)) w1.heap.size 9 strs := ((blw_alloc (w1.alloc (.cells strs 9)) (.cells ints 3)).block w1.heap.size (by omega)).trans (Blk.new w1 9 strs)
  have hB0 : w1.heap[w.heap.size]? = some (.cells #[Value.bool a, Value.bool b, Value.bool c, Value.int IntKind.i64 x, Value.int IntKind.i64 y, Value.int IntKind.i64 z] 23) := (HU1.out.block w.heap.size (by simp)).trans (Blk.new w 23 _)
  have hB3 : Blk ((w1.alloc (.cells strs 9)).alloc (.cells ints 3)) w.heap.size 23 #[Value.bool a, Value.bool b, Value.bool c, Value.int IntKind.i64 x, Value.int IntKind.i64 y, Value.int IntKind.i64 z] := ((blw_alloc (w1.alloc (.cells strs 9)) (.cells ints 3)).block w.heap.size (by omega)).trans (((blw_alloc w1 (.cells strs 9)).block w.heap.size hz0).trans hB0)
  have hU3 : Below w.heap.size w ((w1.alloc (.cells strs 9)).alloc (.cells ints 3)) := bthen (bthen (bthen (blw_alloc w _) HU1.out) (blw_alloc w1 (.cells strs 9))) (blw_alloc (w1.alloc (.cells strs 9)) (.cells ints 3))
  have hlt : w1.heap.size + 1 < ((w1.alloc (.cells strs 9)).alloc (.cells ints 3)).heap.size := by simp
  have HS3 := hide (hal1.cell 0)
  have HI3 := hide (hal2.cell 0)
  have HB3 := hide hB3
  have HU3 := hide hU3
  have HT3 := hide (T20.keep HT.out hU3)
  have HL3 := hide hlt
  clear hal1 hal2 hB0 hB3 hU3 hlt hz1 hz0
  generalize (w1.alloc (.cells strs 9)).alloc (.cells ints 3) = w3 at HS3 HI3 HB3 HU3 HT3 HL3 ⊢
  simp only [strs, ints, List.getElem?_toArray, List.getElem?_cons_zero] at HS3 HI3
  go_region_held3 (fun w' => w'.cell? ⟨w1.heap.size, 0, none⟩ = some (.string ⟨#[40, 99, 97, 114, 32, 49, 41]⟩) ∧ w'.cell? ⟨w.heap.size, 0, none⟩ = some (.bool a) ∧ w'.cell? ⟨w.heap.size, 1, none⟩ = some (.bool b) ∧ w'.cell? ⟨w.heap.size, 2, none⟩ = some (.bool c) ∧ w'.cell? ⟨w.heap.size, 3, none⟩ = some (.int .i64 x) ∧ w'.cell? ⟨w.heap.size, 4, none⟩ = some (.int .i64 y) ∧ w'.cell? ⟨w.heap.size, 5, none⟩ = some (.int .i64 z)) (first | exact ⟨HS3.out, HB3.out.cell 0, HB3.out.cell 1, HB3.out.cell 2, HB3.out.cell 3, HB3.out.cell 4, HB3.out.cell 5⟩ | exact ⟨bcell HU4.out HS3.out, bcell HU4.out (HB3.out.cell 0), bcell HU4.out (HB3.out.cell 1), bcell HU4.out (HB3.out.cell 2), bcell HU4.out (HB3.out.cell 3), bcell HU4.out (HB3.out.cell 4), bcell HU4.out (HB3.out.cell 5)⟩ | go_keep) (first | (go_at_call 8; refine (HE.out _ (T20.drew HT3.out)).mono ?_; rintro e w4 ⟨rfl, hu⟩; have HU4 := hide hu; have HI4 := hide (bcell hu HI3.out); clear hu))
  simp only [Exit.then]
  go_at_K
  have hI4 := HI4.out
  go_wp2_with fail
  go_ret
  exact ⟨rfl, bthen (bthen HU3.out (blw_drew w3)) HU4.out⟩
set_option maxHeartbeats 2000000 in
set_option maxRecDepth 100000 in
theorem bad1 {w : World} (n : Int) (a b c : Bool) (x y z : Int) (ht : Am.Tb20 w) (eK : (bits .and .i64 n 65535).tmod 11 = 1)
    (hA : ∀ w' : World, Am.Tb20 w' → Calls Tryz.prog 5 #[] w' fun e w'' => e = .returned (.bool true) ∧ Below w'.heap.size w' w'')
    (hE : ∀ w' : World, Am.Tb20 w' → Calls Tryz.prog 8 #[.string (sPre ++ ⟨#[40, 40, 108, 97, 109, 98, 100, 97, 32, 40, 120, 41, 32, 120, 41, 41]⟩ ++ sPost), .agg #[.bool a, .bool b, .bool c, .int .i64 x, .int .i64 y, .int .i64 z]] w' fun e w'' => e = .returned (.tuple #[.int .i64 2, .string ⟨#[97]⟩]) ∧ Below w'.heap.size w' w'') :
    Calls Tryz.prog 4 #[.int .i64 n, .agg #[.bool a, .bool b, .bool c, .int .i64 x, .int .i64 y, .int .i64 z]] w fun e w' => e = .returned (.bool true) ∧ Below w.heap.size w w' := by
  have HA := hide hA
  have HE := hide hE
  have HT := hide ht
  have HEK := hide eK
  clear hA ht hE eK
  go_enter Tryz.func4, Tryz.ntmps4
  go_wp2_with (first | (go_at_call 5; refine (HA.out _ (T20.alloc HT.out _)).mono ?_; rintro e w1 ⟨rfl, hu⟩; have HU1 := hide hu; clear hu))
  rw [HEK.out]
  have hz1 : (w1.alloc (.cells strs 9)).heap.size = w1.heap.size + 1 := by simp
  have hz0 : w.heap.size < w1.heap.size := by have := HU1.out.size; simp at this; omega
  have hal2 := blk_new2 w1 (.cells strs 9) 3 ints
  have hal1 : Blk ((w1.alloc (.cells strs 9)).alloc (.cells ints 3)) w1.heap.size 9 strs := ((blw_alloc (w1.alloc (.cells strs 9)) (.cells ints 3)).block w1.heap.size (by omega)).trans (Blk.new w1 9 strs)
  have hB0 : w1.heap[w.heap.size]? = some (.cells #[Value.bool a, Value.bool b, Value.bool c, Value.int IntKind.i64 x, Value.int IntKind.i64 y, Value.int IntKind.i64 z] 23) := (HU1.out.block w.heap.size (by simp)).trans (Blk.new w 23 _)
  have hB3 : Blk ((w1.alloc (.cells strs 9)).alloc (.cells ints 3)) w.heap.size 23 #[Value.bool a, Value.bool b, Value.bool c, Value.int IntKind.i64 x, Value.int IntKind.i64 y, Value.int IntKind.i64 z] := ((blw_alloc (w1.alloc (.cells strs 9)) (.cells ints 3)).block w.heap.size (by omega)).trans (((blw_alloc w1 (.cells strs 9)).block w.heap.size hz0).trans hB0)
  have hU3 : Below w.heap.size w ((w1.alloc (.cells strs 9)).alloc (.cells ints 3)) := bthen (bthen (bthen (blw_alloc w _) HU1.out) (blw_alloc w1 (.cells strs 9))) (blw_alloc (w1.alloc (.cells strs 9)) (.cells ints 3))
  have hlt : w1.heap.size + 1 < ((w1.alloc (.cells strs 9)).alloc (.cells ints 3)).heap.size := by simp
  have HS3 := hide (hal1.cell 1)
  have HI3 := hide (hal2.cell 1)
  have HB3 := hide hB3
  have HU3 := hide hU3
  have HT3 := hide (T20.keep HT.out hU3)
  have HL3 := hide hlt
  clear hal1 hal2 hB0 hB3 hU3 hlt hz1 hz0
  generalize (w1.alloc (.cells strs 9)).alloc (.cells ints 3) = w3 at HS3 HI3 HB3 HU3 HT3 HL3 ⊢
  simp only [strs, ints, List.getElem?_toArray, List.getElem?_cons_zero, List.getElem?_cons_succ] at HS3 HI3
  go_region_held3 (fun w' => w'.cell? ⟨w1.heap.size, 1, none⟩ = some (.string ⟨#[40, 40, 108, 97, 109, 98, 100, 97, 32, 40, 120, 41, 32, 120, 41, 41]⟩) ∧ w'.cell? ⟨w.heap.size, 0, none⟩ = some (.bool a) ∧ w'.cell? ⟨w.heap.size, 1, none⟩ = some (.bool b) ∧ w'.cell? ⟨w.heap.size, 2, none⟩ = some (.bool c) ∧ w'.cell? ⟨w.heap.size, 3, none⟩ = some (.int .i64 x) ∧ w'.cell? ⟨w.heap.size, 4, none⟩ = some (.int .i64 y) ∧ w'.cell? ⟨w.heap.size, 5, none⟩ = some (.int .i64 z)) (first | exact ⟨HS3.out, HB3.out.cell 0, HB3.out.cell 1, HB3.out.cell 2, HB3.out.cell 3, HB3.out.cell 4, HB3.out.cell 5⟩ | exact ⟨bcell HU4.out HS3.out, bcell HU4.out (HB3.out.cell 0), bcell HU4.out (HB3.out.cell 1), bcell HU4.out (HB3.out.cell 2), bcell HU4.out (HB3.out.cell 3), bcell HU4.out (HB3.out.cell 4), bcell HU4.out (HB3.out.cell 5)⟩ | go_keep) (first | (go_at_call 8; refine (HE.out _ (T20.drew HT3.out)).mono ?_; rintro e w4 ⟨rfl, hu⟩; have HU4 := hide hu; have HI4 := hide (bcell hu HI3.out); clear hu))
  simp only [Exit.then]
  go_at_K
  have hI4 := HI4.out
  go_wp2_with fail
  go_ret
  exact ⟨rfl, bthen (bthen HU3.out (blw_drew w3)) HU4.out⟩
set_option maxHeartbeats 2000000 in
set_option maxRecDepth 100000 in
theorem bad2 {w : World} (n : Int) (a b c : Bool) (x y z : Int) (ht : Am.Tb20 w) (eK : (bits .and .i64 n 65535).tmod 11 = 2)
    (hA : ∀ w' : World, Am.Tb20 w' → Calls Tryz.prog 5 #[] w' fun e w'' => e = .returned (.bool true) ∧ Below w'.heap.size w' w'')
    (hE : ∀ w' : World, Am.Tb20 w' → Calls Tryz.prog 8 #[.string (sPre ++ ⟨#[40, 118, 101, 99, 116, 111, 114, 45, 114, 101, 102, 32, 39, 35, 40, 49, 41, 32, 49, 41]⟩ ++ sPost), .agg #[.bool a, .bool b, .bool c, .int .i64 x, .int .i64 y, .int .i64 z]] w' fun e w'' => e = .returned (.tuple #[.int .i64 3, .string ⟨#[97]⟩]) ∧ Below w'.heap.size w' w'') :
    Calls Tryz.prog 4 #[.int .i64 n, .agg #[.bool a, .bool b, .bool c, .int .i64 x, .int .i64 y, .int .i64 z]] w fun e w' => e = .returned (.bool true) ∧ Below w.heap.size w w' := by
  have HA := hide hA
  have HE := hide hE
  have HT := hide ht
  have HEK := hide eK
  clear hA ht hE eK
  go_enter Tryz.func4, Tryz.ntmps4
  go_wp2_with (first | (go_at_call 5; refine (HA.out _ (T20.alloc HT.out _)).mono ?_; rintro e w1 ⟨rfl, hu⟩; have HU1 := hide hu; clear hu))
  rw [HEK.out]
  have hz1 : (w1.alloc (.cells strs 9)).heap.size = w1.heap.size + 1 := by simp
  have hz0 : w.heap.size < w1.heap.size := by have := HU1.out.size; simp at this; omega
  have hal2 := blk_new2 w1 (.cells strs 9) 3 ints
  have hal1 : Blk ((w1.alloc (.cells strs 9)).alloc (.cells ints 3)) w1.heap.size 9 strs := ((blw_alloc (w1.alloc (.cells strs 9)) (.cells ints 3)).block w1.heap.size (by omega)).trans (Blk.new w1 9 strs)
  have hB0 : w1.heap[w.heap.size]? = some (.cells #[Value.bool a, Value.bool b, Value.bool c, Value.int IntKind.i64 x, Value.int IntKind.i64 y, Value.int IntKind.i64 z] 23) := (HU1.out.block w.heap.size (by simp)).trans (Blk.new w 23 _)
  have hB3 : Blk ((w1.alloc (.cells strs 9)).alloc (.cells ints 3)) w.heap.size 23 #[Value.bool a, Value.bool b, Value.bool c, Value.int IntKind.i64 x, Value.int IntKind.i64 y, Value.int IntKind.i64 z] := ((blw_alloc (w1.alloc (.cells strs 9)) (.cells ints 3)).block w.heap.size (by omega)).trans (((blw_alloc w1 (.cells strs 9)).block w.heap.size hz0).trans hB0)
  have hU3 : Below w.heap.size w ((w1.alloc (.cells strs 9)).alloc (.cells ints 3)) := bthen (bthen (bthen (blw_alloc w _) HU1.out) (blw_alloc w1 (.cells strs 9))) (blw_alloc (w1.alloc (.cells strs 9)) (.cells ints 3))
  have hlt : w1.heap.size + 1 < ((w1.alloc (.cells strs 9)).alloc (.cells ints 3)).heap.size := by simp
  have HS3 := hide (hal1.cell 2)
  have HI3 := hide (hal2.cell 2)
  have HB3 := hide hB3
  have HU3 := hide hU3
  have HT3 := hide (T20.keep HT.out hU3)
  have HL3 := hide hlt
  clear hal1 hal2 hB0 hB3 hU3 hlt hz1 hz0
  generalize (w1.alloc (.cells strs 9)).alloc (.cells ints 3) = w3 at HS3 HI3 HB3 HU3 HT3 HL3 ⊢
  simp only [strs, ints, List.getElem?_toArray, List.getElem?_cons_zero, List.getElem?_cons_succ] at HS3 HI3
  go_region_held3 (fun w' => w'.cell? ⟨w1.heap.size, 2, none⟩ = some (.string ⟨#[40, 118, 101, 99, 116, 111, 114, 45, 114, 101, 102, 32, 39, 35, 40, 49, 41, 32, 49, 41]⟩) ∧ w'.cell? ⟨w.heap.size, 0, none⟩ = some (.bool a) ∧ w'.cell? ⟨w.heap.size, 1, none⟩ = some (.bool b) ∧ w'.cell? ⟨w.heap.size, 2, none⟩ = some (.bool c) ∧ w'.cell? ⟨w.heap.size, 3, none⟩ = some (.int .i64 x) ∧ w'.cell? ⟨w.heap.size, 4, none⟩ = some (.int .i64 y) ∧ w'.cell? ⟨w.heap.size, 5, none⟩ = some (.int .i64 z)) (first | exact ⟨HS3.out, HB3.out.cell 0, HB3.out.cell 1, HB3.out.cell 2, HB3.out.cell 3, HB3.out.cell 4, HB3.out.cell 5⟩ | exact ⟨bcell HU4.out HS3.out, bcell HU4.out (HB3.out.cell 0), bcell HU4.out (HB3.out.cell 1), bcell HU4.out (HB3.out.cell 2), bcell HU4.out (HB3.out.cell 3), bcell HU4.out (HB3.out.cell 4), bcell HU4.out (HB3.out.cell 5)⟩ | go_keep) (first | (go_at_call 8; refine (HE.out _ (T20.drew HT3.out)).mono ?_; rintro e w4 ⟨rfl, hu⟩; have HU4 := hide hu; have HI4 := hide (bcell hu HI3.out); clear hu))
  simp only [Exit.then]
  go_at_K
  have hI4 := HI4.out
  go_wp2_with fail
  go_ret
  exact ⟨rfl, bthen (bthen HU3.out (blw_drew w3)) HU4.out⟩
set_option maxHeartbeats 2000000 in
set_option maxRecDepth 100000 in
theorem bad3 {w : World} (n : Int) (a b c : Bool) (x y z : Int) (ht : Am.Tb20 w) (eK : (bits .and .i64 n 65535).tmod 11 = 3)
    (hA : ∀ w' : World, Am.Tb20 w' → Calls Tryz.prog 5 #[] w' fun e w'' => e = .returned (.bool true) ∧ Below w'.heap.size w' w'')
    (hE : ∀ w' : World, Am.Tb20 w' → Calls Tryz.prog 8 #[.string (sPre ++ ⟨#[40, 47, 32, 49, 32, 48, 41]⟩ ++ sPost), .agg #[.bool a, .bool b, .bool c, .int .i64 x, .int .i64 y, .int .i64 z]] w' fun e w'' => e = .returned (.tuple #[.int .i64 4, .string ⟨#[97]⟩]) ∧ Below w'.heap.size w' w'') :
    Calls Tryz.prog 4 #[.int .i64 n, .agg #[.bool a, .bool b, .bool c, .int .i64 x, .int .i64 y, .int .i64 z]] w fun e w' => e = .returned (.bool true) ∧ Below w.heap.size w w' := by
  have HA := hide hA
  have HE := hide hE
  have HT := hide ht
  have HEK := hide eK
  clear hA ht hE eK
  go_enter Tryz.func4, Tryz.ntmps4
  go_wp2_with (first | (go_at_call 5; refine (HA.out _ (T20.alloc HT.out _)).mono ?_; rintro e w1 ⟨rfl, hu⟩; have HU1 := hide hu; clear hu))
  rw [HEK.out]
  have hz1 : (w1.alloc (.cells strs 9)).heap.size = w1.heap.size + 1 := by simp
  have hz0 : w.heap.size < w1.heap.size := by have := HU1.out.size; simp at this; omega
  have hal2 := blk_new2 w1 (.cells strs 9) 3 ints
  have hal1 : Blk ((w1.alloc (.cells strs 9)).alloc (.cells ints 3)) w1.heap.size 9 strs := ((blw_alloc (w1.alloc (.cells strs 9)) (.cells ints 3)).block w1.heap.size (by omega)).trans (Blk.new w1 9 strs)
  have hB0 : w1.heap[w.heap.size]? = some (.cells #[Value.bool a, Value.bool b, Value.bool c, Value.int IntKind.i64 x, Value.int IntKind.i64 y, Value.int IntKind.i64 z] 23) := (HU1.out.block w.heap.size (by simp)).trans (Blk.new w 23 _)
  have hB3 : Blk ((w1.alloc (.cells strs 9)).alloc (.cells ints 3)) w.heap.size 23 #[Value.bool a, Value.bool b, Value.bool c, Value.int IntKind.i64 x, Value.int IntKind.i64 y, Value.int IntKind.i64 z] := ((blw_alloc (w1.alloc (.cells strs 9)) (.cells ints 3)).block w.heap.size (by omega)).trans (((blw_alloc w1 (.cells strs 9)).block w.heap.size hz0).trans hB0)
  have hU3 : Below w.heap.size w ((w1.alloc (.cells strs 9)).alloc (.cells ints 3)) := bthen (bthen (bthen (blw_alloc w _) HU1.out) (blw_alloc w1 (.cells strs 9))) (blw_alloc (w1.alloc (.cells strs 9)) (.cells ints 3))
  have hlt : w1.heap.size + 1 < ((w1.alloc (.cells strs 9)).alloc (.cells ints 3)).heap.size := by simp
  have HS3 := hide (hal1.cell 3)
  have HI3 := hide (hal2.cell 3)
  have HB3 := hide hB3
  have HU3 := hide hU3
  have HT3 := hide (T20.keep HT.out hU3)
  have HL3 := hide hlt
  clear hal1 hal2 hB0 hB3 hU3 hlt hz1 hz0
  generalize (w1.alloc (.cells strs 9)).alloc (.cells ints 3) = w3 at HS3 HI3 HB3 HU3 HT3 HL3 ⊢
  simp only [strs, ints, List.getElem?_toArray, List.getElem?_cons_zero, List.getElem?_cons_succ] at HS3 HI3
  go_region_held3 (fun w' => w'.cell? ⟨w1.heap.size, 3, none⟩ = some (.string ⟨#[40, 47, 32, 49, 32, 48, 41]⟩) ∧ w'.cell? ⟨w.heap.size, 0, none⟩ = some (.bool a) ∧ w'.cell? ⟨w.heap.size, 1, none⟩ = some (.bool b) ∧ w'.cell? ⟨w.heap.size, 2, none⟩ = some (.bool c) ∧ w'.cell? ⟨w.heap.size, 3, none⟩ = some (.int .i64 x) ∧ w'.cell? ⟨w.heap.size, 4, none⟩ = some (.int .i64 y) ∧ w'.cell? ⟨w.heap.size, 5, none⟩ = some (.int .i64 z)) (first | exact ⟨HS3.out, HB3.out.cell 0, HB3.out.cell 1, HB3.out.cell 2, HB3.out.cell 3, HB3.out.cell 4, HB3.out.cell 5⟩ | exact ⟨bcell HU4.out HS3.out, bcell HU4.out (HB3.out.cell 0), bcell HU4.out (HB3.out.cell 1), bcell HU4.out (HB3.out.cell 2), bcell HU4.out (HB3.out.cell 3), bcell HU4.out (HB3.out.cell 4), bcell HU4.out (HB3.out.cell 5)⟩ | go_keep) (first | (go_at_call 8; refine (HE.out _ (T20.drew HT3.out)).mono ?_; rintro e w4 ⟨rfl, hu⟩; have HU4 := hide hu; have HI4 := hide (bcell hu HI3.out); clear hu))
  simp only [Exit.then]
  go_at_K
  have hI4 := HI4.out
  go_wp2_with fail
  go_ret
  exact ⟨rfl, bthen (bthen HU3.out (blw_drew w3)) HU4.out⟩
end Go.Proofs.YtadbcnekkceoaaaGreatDoor.Wk
namespace Go.Proofs.YtadbcnekkceoaaaGreatDoor.Wk
open Go.RowKit Mv
set_option maxHeartbeats 2000000 in
set_option maxRecDepth 100000 in
theorem bad4 {w : World} (n : Int) (a b c : Bool) (x y z : Int) (ht : Am.Tb20 w) (eK : (bits .and .i64 n 65535).tmod 11 = 4)
    (hA : ∀ w' : World, Am.Tb20 w' → Calls Tryz.prog 5 #[] w' fun e w'' => e = .returned (.bool true) ∧ Below w'.heap.size w' w'')
    (hE : ∀ w' : World, Am.Tb20 w' → Calls Tryz.prog 8 #[.string (sPre ++ ⟨#[40, 114, 97, 105, 115, 101, 32, 39, 120, 41]⟩ ++ sPost), .agg #[.bool a, .bool b, .bool c, .int .i64 x, .int .i64 y, .int .i64 z]] w' fun e w'' => e = .returned (.tuple #[.int .i64 7, .string ⟨#[97]⟩]) ∧ Below w'.heap.size w' w'') :
    Calls Tryz.prog 4 #[.int .i64 n, .agg #[.bool a, .bool b, .bool c, .int .i64 x, .int .i64 y, .int .i64 z]] w fun e w' => e = .returned (.bool true) ∧ Below w.heap.size w w' := by
  have HA := hide hA
  have HE := hide hE
  have HT := hide ht
  have HEK := hide eK
  clear hA ht hE eK
  go_enter Tryz.func4, Tryz.ntmps4
  go_wp2_with (first | (go_at_call 5; refine (HA.out _ (T20.alloc HT.out _)).mono ?_; rintro e w1 ⟨rfl, hu⟩; have HU1 := hide hu; clear hu))
  rw [HEK.out]
  have hz1 : (w1.alloc (.cells strs 9)).heap.size = w1.heap.size + 1 := by simp
  have hz0 : w.heap.size < w1.heap.size := by have := HU1.out.size; simp at this; omega
  have hal2 := blk_new2 w1 (.cells strs 9) 3 ints
  have hal1 : Blk ((w1.alloc (.cells strs 9)).alloc (.cells ints 3)) w1.heap.size 9 strs := ((blw_alloc (w1.alloc (.cells strs 9)) (.cells ints 3)).block w1.heap.size (by omega)).trans (Blk.new w1 9 strs)
  have hB0 : w1.heap[w.heap.size]? = some (.cells #[Value.bool a, Value.bool b, Value.bool c, Value.int IntKind.i64 x, Value.int IntKind.i64 y, Value.int IntKind.i64 z] 23) := (HU1.out.block w.heap.size (by simp)).trans (Blk.new w 23 _)
  have hB3 : Blk ((w1.alloc (.cells strs 9)).alloc (.cells ints 3)) w.heap.size 23 #[Value.bool a, Value.bool b, Value.bool c, Value.int IntKind.i64 x, Value.int IntKind.i64 y, Value.int IntKind.i64 z] := ((blw_alloc (w1.alloc (.cells strs 9)) (.cells ints 3)).block w.heap.size (by omega)).trans (((blw_alloc w1 (.cells strs 9)).block w.heap.size hz0).trans hB0)
  have hU3 : Below w.heap.size w ((w1.alloc (.cells strs 9)).alloc (.cells ints 3)) := bthen (bthen (bthen (blw_alloc w _) HU1.out) (blw_alloc w1 (.cells strs 9))) (blw_alloc (w1.alloc (.cells strs 9)) (.cells ints 3))
  have hlt : w1.heap.size + 1 < ((w1.alloc (.cells strs 9)).alloc (.cells ints 3)).heap.size := by simp
  have HS3 := hide (hal1.cell 4)
  have HI3 := hide (hal2.cell 4)
  have HB3 := hide hB3
  have HU3 := hide hU3
  have HT3 := hide (T20.keep HT.out hU3)
  have HL3 := hide hlt
  clear hal1 hal2 hB0 hB3 hU3 hlt hz1 hz0
  generalize (w1.alloc (.cells strs 9)).alloc (.cells ints 3) = w3 at HS3 HI3 HB3 HU3 HT3 HL3 ⊢
  simp only [strs, ints, List.getElem?_toArray, List.getElem?_cons_zero, List.getElem?_cons_succ] at HS3 HI3
  go_region_held3 (fun w' => w'.cell? ⟨w1.heap.size, 4, none⟩ = some (.string ⟨#[40, 114, 97, 105, 115, 101, 32, 39, 120, 41]⟩) ∧ w'.cell? ⟨w.heap.size, 0, none⟩ = some (.bool a) ∧ w'.cell? ⟨w.heap.size, 1, none⟩ = some (.bool b) ∧ w'.cell? ⟨w.heap.size, 2, none⟩ = some (.bool c) ∧ w'.cell? ⟨w.heap.size, 3, none⟩ = some (.int .i64 x) ∧ w'.cell? ⟨w.heap.size, 4, none⟩ = some (.int .i64 y) ∧ w'.cell? ⟨w.heap.size, 5, none⟩ = some (.int .i64 z)) (first | exact ⟨HS3.out, HB3.out.cell 0, HB3.out.cell 1, HB3.out.cell 2, HB3.out.cell 3, HB3.out.cell 4, HB3.out.cell 5⟩ | exact ⟨bcell HU4.out HS3.out, bcell HU4.out (HB3.out.cell 0), bcell HU4.out (HB3.out.cell 1), bcell HU4.out (HB3.out.cell 2), bcell HU4.out (HB3.out.cell 3), bcell HU4.out (HB3.out.cell 4), bcell HU4.out (HB3.out.cell 5)⟩ | go_keep) (first | (go_at_call 8; refine (HE.out _ (T20.drew HT3.out)).mono ?_; rintro e w4 ⟨rfl, hu⟩; have HU4 := hide hu; have HI4 := hide (bcell hu HI3.out); clear hu))
  simp only [Exit.then]
  go_at_K
  have hI4 := HI4.out
  go_wp2_with fail
  go_ret
  exact ⟨rfl, bthen (bthen HU3.out (blw_drew w3)) HU4.out⟩
set_option maxHeartbeats 2000000 in
set_option maxRecDepth 100000 in
theorem bad5 {w : World} (n : Int) (a b c : Bool) (x y z : Int) (ht : Am.Tb20 w) (eK : (bits .and .i64 n 65535).tmod 11 = 5)
    (hA : ∀ w' : World, Am.Tb20 w' → Calls Tryz.prog 5 #[] w' fun e w'' => e = .returned (.bool true) ∧ Below w'.heap.size w' w'')
    (hE : ∀ w' : World, Am.Tb20 w' → Calls Tryz.prog 8 #[.string (sPre ++ ⟨#[40, 49, 32, 50, 41]⟩ ++ sPost), .agg #[.bool a, .bool b, .bool c, .int .i64 x, .int .i64 y, .int .i64 z]] w' fun e w'' => e = .returned (.tuple #[.int .i64 1, .string ⟨#[97]⟩]) ∧ Below w'.heap.size w' w'') :
    Calls Tryz.prog 4 #[.int .i64 n, .agg #[.bool a, .bool b, .bool c, .int .i64 x, .int .i64 y, .int .i64 z]] w fun e w' => e = .returned (.bool true) ∧ Below w.heap.size w w' := by
  have HA := hide hA
  have HE := hide hE
  have HT := hide ht
  have HEK := hide eK
  clear hA ht hE eK
  go_enter Tryz.func4, Tryz.ntmps4
  go_wp2_with (first | (go_at_call 5; refine (HA.out _ (T20.alloc HT.out _)).mono ?_; rintro e w1 ⟨rfl, hu⟩; have HU1 := hide hu; clear hu))
  rw [HEK.out]
  have hz1 : (w1.alloc (.cells strs 9)).heap.size = w1.heap.size + 1 := by simp
  have hz0 : w.heap.size < w1.heap.size := by have := HU1.out.size; simp at this; omega
  have hal2 := blk_new2 w1 (.cells strs 9) 3 ints
  have hal1 : Blk ((w1.alloc (.cells strs 9)).alloc (.cells ints 3)) w1.heap.size 9 strs := ((blw_alloc (w1.alloc (.cells strs 9)) (.cells ints 3)).block w1.heap.size (by omega)).trans (Blk.new w1 9 strs)
  have hB0 : w1.heap[w.heap.size]? = some (.cells #[Value.bool a, Value.bool b, Value.bool c, Value.int IntKind.i64 x, Value.int IntKind.i64 y, Value.int IntKind.i64 z] 23) := (HU1.out.block w.heap.size (by simp)).trans (Blk.new w 23 _)
  have hB3 : Blk ((w1.alloc (.cells strs 9)).alloc (.cells ints 3)) w.heap.size 23 #[Value.bool a, Value.bool b, Value.bool c, Value.int IntKind.i64 x, Value.int IntKind.i64 y, Value.int IntKind.i64 z] := ((blw_alloc (w1.alloc (.cells strs 9)) (.cells ints 3)).block w.heap.size (by omega)).trans (((blw_alloc w1 (.cells strs 9)).block w.heap.size hz0).trans hB0)
  have hU3 : Below w.heap.size w ((w1.alloc (.cells strs 9)).alloc (.cells ints 3)) := bthen (bthen (bthen (blw_alloc w _) HU1.out) (blw_alloc w1 (.cells strs 9))) (blw_alloc (w1.alloc (.cells strs 9)) (.cells ints 3))
  have hlt : w1.heap.size + 1 < ((w1.alloc (.cells strs 9)).alloc (.cells ints 3)).heap.size := by simp
  have HS3 := hide (hal1.cell 5)
  have HI3 := hide (hal2.cell 5)
  have HB3 := hide hB3
  have HU3 := hide hU3
  have HT3 := hide (T20.keep HT.out hU3)
  have HL3 := hide hlt
  clear hal1 hal2 hB0 hB3 hU3 hlt hz1 hz0
  generalize (w1.alloc (.cells strs 9)).alloc (.cells ints 3) = w3 at HS3 HI3 HB3 HU3 HT3 HL3 ⊢
  simp only [strs, ints, List.getElem?_toArray, List.getElem?_cons_zero, List.getElem?_cons_succ] at HS3 HI3
  go_region_held3 (fun w' => w'.cell? ⟨w1.heap.size, 5, none⟩ = some (.string ⟨#[40, 49, 32, 50, 41]⟩) ∧ w'.cell? ⟨w.heap.size, 0, none⟩ = some (.bool a) ∧ w'.cell? ⟨w.heap.size, 1, none⟩ = some (.bool b) ∧ w'.cell? ⟨w.heap.size, 2, none⟩ = some (.bool c) ∧ w'.cell? ⟨w.heap.size, 3, none⟩ = some (.int .i64 x) ∧ w'.cell? ⟨w.heap.size, 4, none⟩ = some (.int .i64 y) ∧ w'.cell? ⟨w.heap.size, 5, none⟩ = some (.int .i64 z)) (first | exact ⟨HS3.out, HB3.out.cell 0, HB3.out.cell 1, HB3.out.cell 2, HB3.out.cell 3, HB3.out.cell 4, HB3.out.cell 5⟩ | exact ⟨bcell HU4.out HS3.out, bcell HU4.out (HB3.out.cell 0), bcell HU4.out (HB3.out.cell 1), bcell HU4.out (HB3.out.cell 2), bcell HU4.out (HB3.out.cell 3), bcell HU4.out (HB3.out.cell 4), bcell HU4.out (HB3.out.cell 5)⟩ | go_keep) (first | (go_at_call 8; refine (HE.out _ (T20.drew HT3.out)).mono ?_; rintro e w4 ⟨rfl, hu⟩; have HU4 := hide hu; have HI4 := hide (bcell hu HI3.out); clear hu))
  simp only [Exit.then]
  go_at_K
  have hI4 := HI4.out
  go_wp2_with fail
  go_ret
  exact ⟨rfl, bthen (bthen HU3.out (blw_drew w3)) HU4.out⟩
set_option maxHeartbeats 2000000 in
set_option maxRecDepth 100000 in
theorem bad6 {w : World} (n : Int) (a b c : Bool) (x y z : Int) (ht : Am.Tb20 w) (eK : (bits .and .i64 n 65535).tmod 11 = 6)
    (hA : ∀ w' : World, Am.Tb20 w' → Calls Tryz.prog 5 #[] w' fun e w'' => e = .returned (.bool true) ∧ Below w'.heap.size w' w'')
    (hE : ∀ w' : World, Am.Tb20 w' → Calls Tryz.prog 8 #[.string (sPre ++ ⟨#[40, 43, 32, 39, 97, 32, 49, 41]⟩ ++ sPost), .agg #[.bool a, .bool b, .bool c, .int .i64 x, .int .i64 y, .int .i64 z]] w' fun e w'' => e = .returned (.tuple #[.int .i64 1, .string ⟨#[97]⟩]) ∧ Below w'.heap.size w' w'') :
    Calls Tryz.prog 4 #[.int .i64 n, .agg #[.bool a, .bool b, .bool c, .int .i64 x, .int .i64 y, .int .i64 z]] w fun e w' => e = .returned (.bool true) ∧ Below w.heap.size w w' := by
  have HA := hide hA
  have HE := hide hE
  have HT := hide ht
  have HEK := hide eK
  clear hA ht hE eK
  go_enter Tryz.func4, Tryz.ntmps4
  go_wp2_with (first | (go_at_call 5; refine (HA.out _ (T20.alloc HT.out _)).mono ?_; rintro e w1 ⟨rfl, hu⟩; have HU1 := hide hu; clear hu))
  rw [HEK.out]
  have hz1 : (w1.alloc (.cells strs 9)).heap.size = w1.heap.size + 1 := by simp
  have hz0 : w.heap.size < w1.heap.size := by have := HU1.out.size; simp at this; omega
  have hal2 := blk_new2 w1 (.cells strs 9) 3 ints
  have hal1 : Blk ((w1.alloc (.cells strs 9)).alloc (.cells ints 3)) w1.heap.size 9 strs := ((blw_alloc (w1.alloc (.cells strs 9)) (.cells ints 3)).block w1.heap.size (by omega)).trans (Blk.new w1 9 strs)
  have hB0 : w1.heap[w.heap.size]? = some (.cells #[Value.bool a, Value.bool b, Value.bool c, Value.int IntKind.i64 x, Value.int IntKind.i64 y, Value.int IntKind.i64 z] 23) := (HU1.out.block w.heap.size (by simp)).trans (Blk.new w 23 _)
  have hB3 : Blk ((w1.alloc (.cells strs 9)).alloc (.cells ints 3)) w.heap.size 23 #[Value.bool a, Value.bool b, Value.bool c, Value.int IntKind.i64 x, Value.int IntKind.i64 y, Value.int IntKind.i64 z] := ((blw_alloc (w1.alloc (.cells strs 9)) (.cells ints 3)).block w.heap.size (by omega)).trans (((blw_alloc w1 (.cells strs 9)).block w.heap.size hz0).trans hB0)
  have hU3 : Below w.heap.size w ((w1.alloc (.cells strs 9)).alloc (.cells ints 3)) := bthen (bthen (bthen (blw_alloc w _) HU1.out) (blw_alloc w1 (.cells strs 9))) (blw_alloc (w1.alloc (.cells strs 9)) (.cells ints 3))
  have hlt : w1.heap.size + 1 < ((w1.alloc (.cells strs 9)).alloc (.cells ints 3)).heap.size := by simp
  have HS3 := hide (hal1.cell 6)
  have HI3 := hide (hal2.cell 6)
  have HB3 := hide hB3
  have HU3 := hide hU3
  have HT3 := hide (T20.keep HT.out hU3)
  have HL3 := hide hlt
  clear hal1 hal2 hB0 hB3 hU3 hlt hz1 hz0
  generalize (w1.alloc (.cells strs 9)).alloc (.cells ints 3) = w3 at HS3 HI3 HB3 HU3 HT3 HL3 ⊢
  simp only [strs, ints, List.getElem?_toArray, List.getElem?_cons_zero, List.getElem?_cons_succ] at HS3 HI3
  go_region_held3 (fun w' => w'.cell? ⟨w1.heap.size, 6, none⟩ = some (.string ⟨#[40, 43, 32, 39, 97, 32, 49, 41]⟩) ∧ w'.cell? ⟨w.heap.size, 0, none⟩ = some (.bool a) ∧ w'.cell? ⟨w.heap.size, 1, none⟩ = some (.bool b) ∧ w'.cell? ⟨w.heap.size, 2, none⟩ = some (.bool c) ∧ w'.cell? ⟨w.heap.size, 3, none⟩ = some (.int .i64 x) ∧ w'.cell? ⟨w.heap.size, 4, none⟩ = some (.int .i64 y) ∧ w'.cell? ⟨w.heap.size, 5, none⟩ = some (.int .i64 z)) (first | exact ⟨HS3.out, HB3.out.cell 0, HB3.out.cell 1, HB3.out.cell 2, HB3.out.cell 3, HB3.out.cell 4, HB3.out.cell 5⟩ | exact ⟨bcell HU4.out HS3.out, bcell HU4.out (HB3.out.cell 0), bcell HU4.out (HB3.out.cell 1), bcell HU4.out (HB3.out.cell 2), bcell HU4.out (HB3.out.cell 3), bcell HU4.out (HB3.out.cell 4), bcell HU4.out (HB3.out.cell 5)⟩ | go_keep) (first | (go_at_call 8; refine (HE.out _ (T20.drew HT3.out)).mono ?_; rintro e w4 ⟨rfl, hu⟩; have HU4 := hide hu; have HI4 := hide (bcell hu HI3.out); clear hu))
  simp only [Exit.then]
  go_at_K
  have hI4 := HI4.out
  go_wp2_with fail
  go_ret
  exact ⟨rfl, bthen (bthen HU3.out (blw_drew w3)) HU4.out⟩
set_option maxHeartbeats 2000000 in
set_option maxRecDepth 100000 in
theorem bad7 {w : World} (n : Int) (a b c : Bool) (x y z : Int) (ht : Am.Tb20 w) (eK : (bits .and .i64 n 65535).tmod 11 = 7)
    (hA : ∀ w' : World, Am.Tb20 w' → Calls Tryz.prog 5 #[] w' fun e w'' => e = .returned (.bool true) ∧ Below w'.heap.size w' w'')
    (hE : ∀ w' : World, Am.Tb20 w' → Calls Tryz.prog 8 #[.string (sPre ++ ⟨#[40, 42, 32, 54, 53, 53, 51, 54, 32, 54, 53, 53, 51, 54, 41]⟩ ++ sPost), .agg #[.bool a, .bool b, .bool c, .int .i64 x, .int .i64 y, .int .i64 z]] w' fun e w'' => e = .returned (.tuple #[.int .i64 3, .string ⟨#[97]⟩]) ∧ Below w'.heap.size w' w'') :
    Calls Tryz.prog 4 #[.int .i64 n, .agg #[.bool a, .bool b, .bool c, .int .i64 x, .int .i64 y, .int .i64 z]] w fun e w' => e = .returned (.bool true) ∧ Below w.heap.size w w' := by
  have HA := hide hA
  have HE := hide hE
  have HT := hide ht
  have HEK := hide eK
  clear hA ht hE eK
  go_enter Tryz.func4, Tryz.ntmps4
  go_wp2_with (first | (go_at_call 5; refine (HA.out _ (T20.alloc HT.out _)).mono ?_; rintro e w1 ⟨rfl, hu⟩; have HU1 := hide hu; clear hu))
  rw [HEK.out]
  have hz1 : (w1.alloc (.cells strs 9)).heap.size = w1.heap.size + 1 := by simp
  have hz0 : w.heap.size < w1.heap.size := by have := HU1.out.size; simp at this; omega
  have hal2 := blk_new2 w1 (.cells strs 9) 3 ints
  have hal1 : Blk ((w1.alloc (.cells strs 9)).alloc (.cells ints 3)) w1.heap.size 9 strs := ((blw_alloc (w1.alloc (.cells strs 9)) (.cells ints 3)).block w1.heap.size (by omega)).trans (Blk.new w1 9 strs)
  have hB0 : w1.heap[w.heap.size]? = some (.cells #[Value.bool a, Value.bool b, Value.bool c, Value.int IntKind.i64 x, Value.int IntKind.i64 y, Value.int IntKind.i64 z] 23) := (HU1.out.block w.heap.size (by simp)).trans (Blk.new w 23 _)
  have hB3 : Blk ((w1.alloc (.cells strs 9)).alloc (.cells ints 3)) w.heap.size 23 #[Value.bool a, Value.bool b, Value.bool c, Value.int IntKind.i64 x, Value.int IntKind.i64 y, Value.int IntKind.i64 z] := ((blw_alloc (w1.alloc (.cells strs 9)) (.cells ints 3)).block w.heap.size (by omega)).trans (((blw_alloc w1 (.cells strs 9)).block w.heap.size hz0).trans hB0)
  have hU3 : Below w.heap.size w ((w1.alloc (.cells strs 9)).alloc (.cells ints 3)) := bthen (bthen (bthen (blw_alloc w _) HU1.out) (blw_alloc w1 (.cells strs 9))) (blw_alloc (w1.alloc (.cells strs 9)) (.cells ints 3))
  have hlt : w1.heap.size + 1 < ((w1.alloc (.cells strs 9)).alloc (.cells ints 3)).heap.size := by simp
  have HS3 := hide (hal1.cell 7)
  have HI3 := hide (hal2.cell 7)
  have HB3 := hide hB3
  have HU3 := hide hU3
  have HT3 := hide (T20.keep HT.out hU3)
  have HL3 := hide hlt
  clear hal1 hal2 hB0 hB3 hU3 hlt hz1 hz0
  generalize (w1.alloc (.cells strs 9)).alloc (.cells ints 3) = w3 at HS3 HI3 HB3 HU3 HT3 HL3 ⊢
  simp only [strs, ints, List.getElem?_toArray, List.getElem?_cons_zero, List.getElem?_cons_succ] at HS3 HI3
  go_region_held3 (fun w' => w'.cell? ⟨w1.heap.size, 7, none⟩ = some (.string ⟨#[40, 42, 32, 54, 53, 53, 51, 54, 32, 54, 53, 53, 51, 54, 41]⟩) ∧ w'.cell? ⟨w.heap.size, 0, none⟩ = some (.bool a) ∧ w'.cell? ⟨w.heap.size, 1, none⟩ = some (.bool b) ∧ w'.cell? ⟨w.heap.size, 2, none⟩ = some (.bool c) ∧ w'.cell? ⟨w.heap.size, 3, none⟩ = some (.int .i64 x) ∧ w'.cell? ⟨w.heap.size, 4, none⟩ = some (.int .i64 y) ∧ w'.cell? ⟨w.heap.size, 5, none⟩ = some (.int .i64 z)) (first | exact ⟨HS3.out, HB3.out.cell 0, HB3.out.cell 1, HB3.out.cell 2, HB3.out.cell 3, HB3.out.cell 4, HB3.out.cell 5⟩ | exact ⟨bcell HU4.out HS3.out, bcell HU4.out (HB3.out.cell 0), bcell HU4.out (HB3.out.cell 1), bcell HU4.out (HB3.out.cell 2), bcell HU4.out (HB3.out.cell 3), bcell HU4.out (HB3.out.cell 4), bcell HU4.out (HB3.out.cell 5)⟩ | go_keep) (first | (go_at_call 8; refine (HE.out _ (T20.drew HT3.out)).mono ?_; rintro e w4 ⟨rfl, hu⟩; have HU4 := hide hu; have HI4 := hide (bcell hu HI3.out); clear hu))
  simp only [Exit.then]
  go_at_K
  have hI4 := HI4.out
  go_wp2_with fail
  go_ret
  exact ⟨rfl, bthen (bthen HU3.out (blw_drew w3)) HU4.out⟩
end Go.Proofs.YtadbcnekkceoaaaGreatDoor.Wk
namespace Go.Proofs.YtadbcnekkceoaaaGreatDoor.Wk
open Go.RowKit Mv
set_option maxHeartbeats 2000000 in
set_option maxRecDepth 100000 in
theorem bad8 {w : World} (n : Int) (a b c : Bool) (x y z : Int) (ht : Am.Tb20 w) (eK : (bits .and .i64 n 65535).tmod 11 = 8)
    (hA : ∀ w' : World, Am.Tb20 w' → Calls Tryz.prog 5 #[] w' fun e w'' => e = .returned (.bool true) ∧ Below w'.heap.size w' w'')
    (hE : ∀ w' : World, Am.Tb20 w' → Calls Tryz.prog 8 #[.string (sPre ++ ⟨#[40, 99, 111, 110, 115, 32, 49, 41]⟩ ++ sPost), .agg #[.bool a, .bool b, .bool c, .int .i64 x, .int .i64 y, .int .i64 z]] w' fun e w'' => e = .returned (.tuple #[.int .i64 2, .string ⟨#[97]⟩]) ∧ Below w'.heap.size w' w'') :
    Calls Tryz.prog 4 #[.int .i64 n, .agg #[.bool a, .bool b, .bool c, .int .i64 x, .int .i64 y, .int .i64 z]] w fun e w' => e = .returned (.bool true) ∧ Below w.heap.size w w' := by
  have HA := hide hA
  have HE := hide hE
  have HT := hide ht
  have HEK := hide eK
  clear hA ht hE eK
  go_enter Tryz.func4, Tryz.ntmps4
  go_wp2_with (first | (go_at_call 5; refine (HA.out _ (T20.alloc HT.out _)).mono ?_; rintro e w1 ⟨rfl, hu⟩; have HU1 := hide hu; clear hu))
  rw [HEK.out]
  have hz1 : (w1.alloc (.cells strs 9)).heap.size = w1.heap.size + 1 := by simp
  have hz0 : w.heap.size < w1.heap.size := by have := HU1.out.size; simp at this; omega
  have hal2 := blk_new2 w1 (.cells strs 9) 3 ints
  have hal1 : Blk ((w1.alloc (.cells strs 9)).alloc (.cells ints 3)) w1.heap.size 9 strs := ((blw_alloc (w1.alloc (.cells strs 9)) (.cells ints 3)).block w1.heap.size (by omega)).trans (Blk.new w1 9 strs)
  have hB0 : w1.heap[w.heap.size]? = some (.cells #[Value.bool a, Value.bool b, Value.bool c, Value.int IntKind.i64 x, Value.int IntKind.i64 y, Value.int IntKind.i64 z] 23) := (HU1.out.block w.heap.size (by simp)).trans (Blk.new w 23 _)
  have hB3 : Blk ((w1.alloc (.cells strs 9)).alloc (.cells ints 3)) w.heap.size 23 #[Value.bool a, Value.bool b, Value.bool c, Value.int IntKind.i64 x, Value.int IntKind.i64 y, Value.int IntKind.i64 z] := ((blw_alloc (w1.alloc (.cells strs 9)) (.cells ints 3)).block w.heap.size (by omega)).trans (((blw_alloc w1 (.cells strs 9)).block w.heap.size hz0).trans hB0)
  have hU3 : Below w.heap.size w ((w1.alloc (.cells strs 9)).alloc (.cells ints 3)) := bthen (bthen (bthen (blw_alloc w _) HU1.out) (blw_alloc w1 (.cells strs 9))) (blw_alloc (w1.alloc (.cells strs 9)) (.cells ints 3))
  have hlt : w1.heap.size + 1 < ((w1.alloc (.cells strs 9)).alloc (.cells ints 3)).heap.size := by simp
  have HS3 := hide (hal1.cell 8)
  have HI3 := hide (hal2.cell 8)
  have HB3 := hide hB3
  have HU3 := hide hU3
  have HT3 := hide (T20.keep HT.out hU3)
  have HL3 := hide hlt
  clear hal1 hal2 hB0 hB3 hU3 hlt hz1 hz0
  generalize (w1.alloc (.cells strs 9)).alloc (.cells ints 3) = w3 at HS3 HI3 HB3 HU3 HT3 HL3 ⊢
  simp only [strs, ints, List.getElem?_toArray, List.getElem?_cons_zero, List.getElem?_cons_succ] at HS3 HI3
  go_region_held3 (fun w' => w'.cell? ⟨w1.heap.size, 8, none⟩ = some (.string ⟨#[40, 99, 111, 110, 115, 32, 49, 41]⟩) ∧ w'.cell? ⟨w.heap.size, 0, none⟩ = some (.bool a) ∧ w'.cell? ⟨w.heap.size, 1, none⟩ = some (.bool b) ∧ w'.cell? ⟨w.heap.size, 2, none⟩ = some (.bool c) ∧ w'.cell? ⟨w.heap.size, 3, none⟩ = some (.int .i64 x) ∧ w'.cell? ⟨w.heap.size, 4, none⟩ = some (.int .i64 y) ∧ w'.cell? ⟨w.heap.size, 5, none⟩ = some (.int .i64 z)) (first | exact ⟨HS3.out, HB3.out.cell 0, HB3.out.cell 1, HB3.out.cell 2, HB3.out.cell 3, HB3.out.cell 4, HB3.out.cell 5⟩ | exact ⟨bcell HU4.out HS3.out, bcell HU4.out (HB3.out.cell 0), bcell HU4.out (HB3.out.cell 1), bcell HU4.out (HB3.out.cell 2), bcell HU4.out (HB3.out.cell 3), bcell HU4.out (HB3.out.cell 4), bcell HU4.out (HB3.out.cell 5)⟩ | go_keep) (first | (go_at_call 8; refine (HE.out _ (T20.drew HT3.out)).mono ?_; rintro e w4 ⟨rfl, hu⟩; have HU4 := hide hu; have HI4 := hide (bcell hu HI3.out); clear hu))
  simp only [Exit.then]
  go_at_K
  have hI4 := HI4.out
  go_wp2_with fail
  go_ret
  exact ⟨rfl, bthen (bthen HU3.out (blw_drew w3)) HU4.out⟩
set_option maxHeartbeats 2000000 in
set_option maxRecDepth 100000 in
theorem bad9 {w : World} (n : Int) (a b c : Bool) (x y z : Int) (ht : Am.Tb20 w) (eK : (bits .and .i64 n 65535).tmod 11 = 9)
    (hA : ∀ w' : World, Am.Tb20 w' → Calls Tryz.prog 5 #[] w' fun e w'' => e = .returned (.bool true) ∧ Below w'.heap.size w' w'')
    (hE : ∀ w' : World, Am.Tb20 w' → Calls Tryz.prog 8 #[.string (sPre ++ ⟨#[40, 97, 112, 112, 108, 121, 32, 99, 97, 114, 32, 53, 41]⟩ ++ sPost), .agg #[.bool a, .bool b, .bool c, .int .i64 x, .int .i64 y, .int .i64 z]] w' fun e w'' => e = .returned (.tuple #[.int .i64 1, .string ⟨#[97]⟩]) ∧ Below w'.heap.size w' w'') :
    Calls Tryz.prog 4 #[.int .i64 n, .agg #[.bool a, .bool b, .bool c, .int .i64 x, .int .i64 y, .int .i64 z]] w fun e w' => e = .returned (.bool true) ∧ Below w.heap.size w w' := by
  have HA := hide hA
  have HE := hide hE
  have HT := hide ht
  have HEK := hide eK
  clear hA ht hE eK
  go_enter Tryz.func4, Tryz.ntmps4
  go_wp2_with (first | (go_at_call 5; refine (HA.out _ (T20.alloc HT.out _)).mono ?_; rintro e w1 ⟨rfl, hu⟩; have HU1 := hide hu; clear hu))
  rw [HEK.out]
  have hz1 : (w1.alloc (.cells strs 9)).heap.size = w1.heap.size + 1 := by simp
  have hz0 : w.heap.size < w1.heap.size := by have := HU1.out.size; simp at this; omega
  have hal2 := blk_new2 w1 (.cells strs 9) 3 ints
  have hal1 : Blk ((w1.alloc (.cells strs 9)).alloc (.cells ints 3)) w1.heap.size 9 strs := ((blw_alloc (w1.alloc (.cells strs 9)) (.cells ints 3)).block w1.heap.size (by omega)).trans (Blk.new w1 9 strs)
  have hB0 : w1.heap[w.heap.size]? = some (.cells #[Value.bool a, Value.bool b, Value.bool c, Value.int IntKind.i64 x, Value.int IntKind.i64 y, Value.int IntKind.i64 z] 23) := (HU1.out.block w.heap.size (by simp)).trans (Blk.new w 23 _)
  have hB3 : Blk ((w1.alloc (.cells strs 9)).alloc (.cells ints 3)) w.heap.size 23 #[Value.bool a, Value.bool b, Value.bool c, Value.int IntKind.i64 x, Value.int IntKind.i64 y, Value.int IntKind.i64 z] := ((blw_alloc (w1.alloc (.cells strs 9)) (.cells ints 3)).block w.heap.size (by omega)).trans (((blw_alloc w1 (.cells strs 9)).block w.heap.size hz0).trans hB0)
  have hU3 : Below w.heap.size w ((w1.alloc (.cells strs 9)).alloc (.cells ints 3)) := bthen (bthen (bthen (blw_alloc w _) HU1.out) (blw_alloc w1 (.cells strs 9))) (blw_alloc (w1.alloc (.cells strs 9)) (.cells ints 3))
  have hlt : w1.heap.size + 1 < ((w1.alloc (.cells strs 9)).alloc (.cells ints 3)).heap.size := by simp
  have HS3 := hide (hal1.cell 9)
  have HI3 := hide (hal2.cell 9)
  have HB3 := hide hB3
  have HU3 := hide hU3
  have HT3 := hide (T20.keep HT.out hU3)
  have HL3 := hide hlt
  clear hal1 hal2 hB0 hB3 hU3 hlt hz1 hz0
  generalize (w1.alloc (.cells strs 9)).alloc (.cells ints 3) = w3 at HS3 HI3 HB3 HU3 HT3 HL3 ⊢
  simp only [strs, ints, List.getElem?_toArray, List.getElem?_cons_zero, List.getElem?_cons_succ] at HS3 HI3
  go_region_held3 (fun w' => w'.cell? ⟨w1.heap.size, 9, none⟩ = some (.string ⟨#[40, 97, 112, 112, 108, 121, 32, 99, 97, 114, 32, 53, 41]⟩) ∧ w'.cell? ⟨w.heap.size, 0, none⟩ = some (.bool a) ∧ w'.cell? ⟨w.heap.size, 1, none⟩ = some (.bool b) ∧ w'.cell? ⟨w.heap.size, 2, none⟩ = some (.bool c) ∧ w'.cell? ⟨w.heap.size, 3, none⟩ = some (.int .i64 x) ∧ w'.cell? ⟨w.heap.size, 4, none⟩ = some (.int .i64 y) ∧ w'.cell? ⟨w.heap.size, 5, none⟩ = some (.int .i64 z)) (first | exact ⟨HS3.out, HB3.out.cell 0, HB3.out.cell 1, HB3.out.cell 2, HB3.out.cell 3, HB3.out.cell 4, HB3.out.cell 5⟩ | exact ⟨bcell HU4.out HS3.out, bcell HU4.out (HB3.out.cell 0), bcell HU4.out (HB3.out.cell 1), bcell HU4.out (HB3.out.cell 2), bcell HU4.out (HB3.out.cell 3), bcell HU4.out (HB3.out.cell 4), bcell HU4.out (HB3.out.cell 5)⟩ | go_keep) (first | (go_at_call 8; refine (HE.out _ (T20.drew HT3.out)).mono ?_; rintro e w4 ⟨rfl, hu⟩; have HU4 := hide hu; have HI4 := hide (bcell hu HI3.out); clear hu))
  simp only [Exit.then]
  go_at_K
  have hI4 := HI4.out
  go_wp2_with fail
  go_ret
  exact ⟨rfl, bthen (bthen HU3.out (blw_drew w3)) HU4.out⟩
set_option maxHeartbeats 2000000 in
set_option maxRecDepth 100000 in
theorem bad10 {w : World} (n : Int) (a b c : Bool) (x y z : Int) (ht : Am.Tb20 w) (eK : (bits .and .i64 n 65535).tmod 11 = 10)
    (hA : ∀ w' : World, Am.Tb20 w' → Calls Tryz.prog 5 #[] w' fun e w'' => e = .returned (.bool true) ∧ Below w'.heap.size w' w'')
    (hE : ∀ w' : World, Am.Tb20 w' → Calls Tryz.prog 8 #[.string (sPre ++ ⟨#[40, 108, 101, 110, 103, 116, 104, 32, 39, 40, 49, 32, 46, 32, 50, 41, 41]⟩ ++ sPost), .agg #[.bool a, .bool b, .bool c, .int .i64 x, .int .i64 y, .int .i64 z]] w' fun e w'' => e = .returned (.tuple #[.int .i64 1, .string ⟨#[97]⟩]) ∧ Below w'.heap.size w' w'') :
    Calls Tryz.prog 4 #[.int .i64 n, .agg #[.bool a, .bool b, .bool c, .int .i64 x, .int .i64 y, .int .i64 z]] w fun e w' => e = .returned (.bool true) ∧ Below w.heap.size w w' := by
  have HA := hide hA
  have HE := hide hE
  have HT := hide ht
  have HEK := hide eK
  clear hA ht hE eK
  go_enter Tryz.func4, Tryz.ntmps4
  go_wp2_with (first | (go_at_call 5; refine (HA.out _ (T20.alloc HT.out _)).mono ?_; rintro e w1 ⟨rfl, hu⟩; have HU1 := hide hu; clear hu))
  rw [HEK.out]
  have hz1 : (w1.alloc (.cells strs 9)).heap.size = w1.heap.size + 1 := by simp
  have hz0 : w.heap.size < w1.heap.size := by have := HU1.out.size; simp at this; omega
  have hal2 := blk_new2 w1 (.cells strs 9) 3 ints
  have hal1 : Blk ((w1.alloc (.cells strs 9)).alloc (.cells ints 3)) w1.heap.size 9 strs := ((blw_alloc (w1.alloc (.cells strs 9)) (.cells ints 3)).block w1.heap.size (by omega)).trans (Blk.new w1 9 strs)
  have hB0 : w1.heap[w.heap.size]? = some (.cells #[Value.bool a, Value.bool b, Value.bool c, Value.int IntKind.i64 x, Value.int IntKind.i64 y, Value.int IntKind.i64 z] 23) := (HU1.out.block w.heap.size (by simp)).trans (Blk.new w 23 _)
  have hB3 : Blk ((w1.alloc (.cells strs 9)).alloc (.cells ints 3)) w.heap.size 23 #[Value.bool a, Value.bool b, Value.bool c, Value.int IntKind.i64 x, Value.int IntKind.i64 y, Value.int IntKind.i64 z] := ((blw_alloc (w1.alloc (.cells strs 9)) (.cells ints 3)).block w.heap.size (by omega)).trans (((blw_alloc w1 (.cells strs 9)).block w.heap.size hz0).trans hB0)
  have hU3 : Below w.heap.size w ((w1.alloc (.cells strs 9)).alloc (.cells ints 3)) := bthen (bthen (bthen (blw_alloc w _) HU1.out) (blw_alloc w1 (.cells strs 9))) (blw_alloc (w1.alloc (.cells strs 9)) (.cells ints 3))
  have hlt : w1.heap.size + 1 < ((w1.alloc (.cells strs 9)).alloc (.cells ints 3)).heap.size := by simp
  have HS3 := hide (hal1.cell 10)
  have HI3 := hide (hal2.cell 10)
  have HB3 := hide hB3
  have HU3 := hide hU3
  have HT3 := hide (T20.keep HT.out hU3)
  have HL3 := hide hlt
  clear hal1 hal2 hB0 hB3 hU3 hlt hz1 hz0
  generalize (w1.alloc (.cells strs 9)).alloc (.cells ints 3) = w3 at HS3 HI3 HB3 HU3 HT3 HL3 ⊢
  simp only [strs, ints, List.getElem?_toArray, List.getElem?_cons_zero, List.getElem?_cons_succ] at HS3 HI3
  go_region_held3 (fun w' => w'.cell? ⟨w1.heap.size, 10, none⟩ = some (.string ⟨#[40, 108, 101, 110, 103, 116, 104, 32, 39, 40, 49, 32, 46, 32, 50, 41, 41]⟩) ∧ w'.cell? ⟨w.heap.size, 0, none⟩ = some (.bool a) ∧ w'.cell? ⟨w.heap.size, 1, none⟩ = some (.bool b) ∧ w'.cell? ⟨w.heap.size, 2, none⟩ = some (.bool c) ∧ w'.cell? ⟨w.heap.size, 3, none⟩ = some (.int .i64 x) ∧ w'.cell? ⟨w.heap.size, 4, none⟩ = some (.int .i64 y) ∧ w'.cell? ⟨w.heap.size, 5, none⟩ = some (.int .i64 z)) (first | exact ⟨HS3.out, HB3.out.cell 0, HB3.out.cell 1, HB3.out.cell 2, HB3.out.cell 3, HB3.out.cell 4, HB3.out.cell 5⟩ | exact ⟨bcell HU4.out HS3.out, bcell HU4.out (HB3.out.cell 0), bcell HU4.out (HB3.out.cell 1), bcell HU4.out (HB3.out.cell 2), bcell HU4.out (HB3.out.cell 3), bcell HU4.out (HB3.out.cell 4), bcell HU4.out (HB3.out.cell 5)⟩ | go_keep) (first | (go_at_call 8; refine (HE.out _ (T20.drew HT3.out)).mono ?_; rintro e w4 ⟨rfl, hu⟩; have HU4 := hide hu; have HI4 := hide (bcell hu HI3.out); clear hu))
  simp only [Exit.then]
  go_at_K
  have hI4 := HI4.out
  go_wp2_with fail
  go_ret
  exact ⟨rfl, bthen (bthen HU3.out (blw_drew w3)) HU4.out⟩
end Go.Proofs.YtadbcnekkceoaaaGreatDoor.Wk
