/-
  DERIVED: THE SHELF's CONTRACTS AT THIS DUMP, IN PLAIN WORDS (tools/lay-plain.mjs out of 'TryShelf.lean', which tools/lay-shelf.mjs wrote): THE SAME DECLARATIONS UNDER THE SAME NAMES: 'import', 'namespace', 'open', 'def', 'theorem' AND NOTHING ELSE: no command of the shelf's: FOR A HAND-IN. Each laying: the table of numbers ('.._ren') and one theorem, a field a fact of the dump's own or the kernel's comparison; each contract: ONE APPLICATION.
-/
import Derived.Shelf.Sort.Plain
import Derived.Ground.Names2Prog
import Derived.Shelf.Slices.Clone
import Derived.Shelf.Slices.In.SortNone
import Derived.Test.YtlfjmppmclgjnaaProg
namespace Go.Proofs
open Go.Shelf
def Try.lays189_ren : Go.Shelf.Ren := ⟨fun | 189 => 20 | 125 => 30 | 257 => 29 | 128 => 42 | 129 => 43 | 294 => 33 | 295 => 34 | 296 => 35 | 297 => 36 | 298 => 37 | 299 => 38 | 216 => 39 | 300 => 40 | 301 => 41 | 328 => 44 | 329 => 45 | 330 => 46 | 331 => 47 | 332 => 48 | 215 => 49 | 343 => 50 | n => n, fun | 28 => 23 | 3 => 3 | 46 => 52 | 0 => 0 | 51 => 65 | 53 => 67 | 4 => 4 | 183 => 57 | 182 => 56 | 131 => 62 | 5 => 5 | 9 => 9 | 218 => 68 | 222 => 72 | 228 => 74 | 229 => 75 | n => n, fun | n => n⟩
theorem Try.lays189 : Go.Proofs.Lays.n189 Try.prog Try.lays189_ren := {
  mixed := by kernel_rfl
  f125 := Try.func30.trans (congrArg some (by kernel_rfl))
  f128 := Try.func42.trans (congrArg some (by kernel_rfl))
  f129 := Try.func43.trans (congrArg some (by kernel_rfl))
  f189 := Try.func20.trans (congrArg some (by kernel_rfl))
  f215 := Try.func49.trans (congrArg some (by kernel_rfl))
  f216 := Try.func39.trans (congrArg some (by kernel_rfl))
  f257 := Try.func29.trans (congrArg some (by kernel_rfl))
  f294 := Try.func33.trans (congrArg some (by kernel_rfl))
  f295 := Try.func34.trans (congrArg some (by kernel_rfl))
  f296 := Try.func35.trans (congrArg some (by kernel_rfl))
  f297 := Try.func36.trans (congrArg some (by kernel_rfl))
  f298 := Try.func37.trans (congrArg some (by kernel_rfl))
  f299 := Try.func38.trans (congrArg some (by kernel_rfl))
  f300 := Try.func40.trans (congrArg some (by kernel_rfl))
  f301 := Try.func41.trans (congrArg some (by kernel_rfl))
  f328 := Try.func44.trans (congrArg some (by kernel_rfl))
  f329 := Try.func45.trans (congrArg some (by kernel_rfl))
  f330 := Try.func46.trans (congrArg some (by kernel_rfl))
  f331 := Try.func47.trans (congrArg some (by kernel_rfl))
  f332 := Try.func48.trans (congrArg some (by kernel_rfl))
  f343 := Try.func50.trans (congrArg some (by kernel_rfl))
  t0 := Try.underlying0
  a0 := Try.isAgg0
  z0 := Try.sizeOf0
  v0 := Try.zeroValue0
  t3 := Try.underlying3
  a3 := Try.isAgg3
  z3 := Try.sizeOf3
  v3 := Try.zeroValue3
  t4 := Try.underlying4
  a4 := Try.isAgg4
  z4 := Try.sizeOf4
  v4 := Try.zeroValue4
  t5 := Try.underlying5
  a5 := Try.isAgg5
  z5 := Try.sizeOf5
  v5 := Try.zeroValue5
  t9 := Try.underlying9
  a9 := Try.isAgg9
  z9 := Try.sizeOf9
  v9 := Try.zeroValue9
  t28 := Try.underlying23
  a28 := Try.isAgg23
  z28 := Try.sizeOf23
  v28 := Try.zeroValue23
  t46 := Try.underlying52
  a46 := Try.isAgg52
  z46 := Try.sizeOf52
  v46 := Try.zeroValue52
  t51 := Try.underlying65
  a51 := Try.isAgg65
  z51 := Try.sizeOf65
  v51 := Try.zeroValue65
  t53 := Try.underlying67
  a53 := Try.isAgg67
  z53 := Try.sizeOf67
  v53 := Try.zeroValue67
  t131 := Try.underlying62
  a131 := Try.isAgg62
  z131 := Try.sizeOf62
  v131 := Try.zeroValue62
  t182 := Try.underlying56
  a182 := Try.isAgg56
  z182 := Try.sizeOf56
  v182 := Try.zeroValue56
  t183 := Try.underlying57
  a183 := Try.isAgg57
  z183 := Try.sizeOf57
  v183 := Try.zeroValue57
  t218 := Try.underlying68
  a218 := Try.isAgg68
  z218 := Try.sizeOf68
  v218 := Try.zeroValue68
  t222 := Try.underlying72
  a222 := Try.isAgg72
  z222 := Try.sizeOf72
  v222 := Try.zeroValue72
  t228 := Try.underlying74
  a228 := Try.isAgg74
  z228 := Try.sizeOf74
  v228 := Try.zeroValue74
  t229 := Try.underlying75
  a229 := Try.isAgg75
  z229 := Try.sizeOf75
  v229 := Try.zeroValue75 }
open Go.Sort Go.RowKit in
theorem Try.slices_Sort_int (blk off cap : Nat) (zs : List Int) (w : World) (hH : Holds (Value.int .i64) w blk off zs.toArray) (hblk : blk < w.heap.size) (hsz : zs.length < 4611686018427387904) :
    Calls Try.prog 20 #[.slice (some ⟨blk, off, none⟩) zs.length cap] w fun e w' =>
      e = .returned (.tuple #[]) ∧ ∃ n os, w' = grow (putRow (Value.int .i64) (Sort.ahead w n) blk off (zs.mergeSort fun x y => decide (x ≤ y)).toArray) os := Any.slices_Sort_int Try.lays189 blk off cap zs w hH hblk hsz
def Try.laysNm215_ren : Go.Shelf.Ren := ⟨fun | 15 => 28 | n => n, fun | 22 => 23 | 3 => 3 | 4 => 4 | n => n, fun | n => n⟩
theorem Try.laysNm215 : Go.Proofs.Lays2.n15 Try.prog Try.laysNm215_ren := {
  mixed := by kernel_rfl
  f15 := Try.func28.trans (congrArg some (by kernel_rfl))
  t3 := Try.underlying3
  a3 := Try.isAgg3
  z3 := Try.sizeOf3
  v3 := Try.zeroValue3
  t4 := Try.underlying4
  a4 := Try.isAgg4
  z4 := Try.sizeOf4
  v4 := Try.zeroValue4
  t22 := Try.underlying23
  a22 := Try.isAgg23
  z22 := Try.sizeOf23
  v22 := Try.zeroValue23
  i3 := by kernel_rfl }
open Go.RowKit Go.Lib in
/-- slices.Clone at []int: "Clone returns a copy of the slice. The elements are copied using assignment, so this is a shallow clone. The result may have additional unused capacity. The result preserves the nilness of s.": OF A SLICE THAT IS NOT nil IT RETURNS A SLICE THAT IS NOT nil, OF THE SAME ELEMENTS, IN MEMORY OF THE CALL's OWN: in the how-to's words (6f): 'w'.ownsRow B e 1 v' n cells': v' begins at the head of a row among the blocks from B on (B: the heap's size at the call), not frozen, whose first cells are the elements · 'Below B w w'': below B all is as it was. The capacity is whatever the run-time gives. 'zs': what the cells behind the slice's address hold; 'zs.take n': its elements. (LAID: no walk: one application.) -/
theorem Try.slices_Clone_int (b off n c : Nat) (zs : List Int) (w : World) (hz : n ≤ zs.length) (hbig : n * 8 ≤ 140737488355328) (hc : ∀ j, j < zs.length → w.cell? ⟨b, off + j, none⟩ = some (.int .i64 (zs.getD j 0))) :
    Calls Try.prog 28 #[.slice (some ⟨b, off, none⟩) n c] w fun e w' => ∃ v', e = .returned v' ∧ w'.ownsRow w.heap.size 3 1 v' n ((zs.take n).map (Value.int .i64)) ∧ v' ≠ .slice none 0 0 ∧ Below w.heap.size w w' := Any.slices_Clone_int Try.laysNm215 b off n c zs w hz hbig hc
open Go.RowKit Go.Lib in
/-- The same at nil: nil comes back; the world is as it was. (LAID: no walk: one application.) -/
theorem Try.slices_Clone_int_nil (n c : Nat) (w : World) :
    Calls Try.prog 28 #[.slice none n c] w fun e w' => e = .returned (.slice none 0 0) ∧ w' = w := Any.slices_Clone_int_nil Try.laysNm215 n c w
open Go.RowKit Go.Lib in
/-- The same at a slice of length 0 that is not nil, WHATEVER ITS ADDRESS (no cell is asked for): a slice that is not nil and owns nothing comes back. (LAID: no walk: one application.) -/
theorem Try.slices_Clone_int_zero (a : Addr) (c : Nat) (w : World) :
    Calls Try.prog 28 #[.slice (some a) 0 c] w fun e w' => ∃ v', e = .returned v' ∧ w'.ownsRow w.heap.size 3 1 v' 0 [] ∧ v' ≠ .slice none 0 0 ∧ Below w.heap.size w w' := Any.slices_Clone_int_zero Try.laysNm215 a c w
open Go.RowKit Go.Sort in
/-- .. and plain. (LAID: no walk: one application.) -/
theorem Try.slices_Sort_int_none (p : Option Addr) (cap : Nat) (w : World) :
    Calls Try.prog 20 #[.slice p 0 cap] w fun e w' => e = .returned (.tuple #[]) ∧ w' = w := Any.slices_Sort_int_none Try.lays189 p cap w
end Go.Proofs
