/- The statements' own functions, walked. -/
import Derived.Test.YtadbcnekkceoaaaGreatDoorKOMvBase
import Derived.Test.YtadbcnekkceoaaaGreatDoorKOAmTa
import Derived.Handy
import Derived.Deep.RegionHeld3
set_option linter.unusedVariables false
namespace Go.Proofs.YtadbcnekkceoaaaGreatDoor.Wk
open Go.RowKit Mv
theorem res6 {fn : Func} {tm : Array Value} {t b : Nat} {w : World} {x0 x1 x2 x3 x4 x5 : Value} (hr : fn.results = #[.cell t 39]) (ht : tm.getD t undef = .pointer (some ⟨b,0,none⟩)) (hb : Blk w b 39 #[x0,x1,x2,x3,x4,x5]) :
    (results fn tm).run Tryz.prog w = .ok (.agg #[x0,x1,x2,x3,x4,x5]) w:=by
  have h0:=hb.cell 0
  have h1:=hb.cell 1
  have h2:=hb.cell 2
  have h3:=hb.cell 3
  have h4:=hb.cell 4
  have h5:=hb.cell 5
  simp only [List.getElem?_toArray,List.getElem?_cons_zero,List.getElem?_cons_succ] at h0 h1 h2 h3 h4 h5
  rw [Array.getD_eq_getD_getElem?] at ht
  simp [results,hr,go_sem,ht,h0,h1,h2,h3,h4,h5]
theorem blk_new2 (w : World) (o : Obj) (t : TypeId) (cs : Array Value) : Blk ((w.alloc o).alloc (.cells cs t)) (w.heap.size + 1) t cs:=by
  have h:=Blk.new (w.alloc o) t cs
  rwa [show (w.alloc o).heap.size = w.heap.size + 1 by simp] at h
theorem mine_any {w : World} (a b c : Bool) (x y z : Int) : Calls Tryz.prog 11 #[.agg #[.bool a,.bool b,.bool c,.int .i64 x,.int .i64 y,.int .i64 z]] w fun e w'=>e = .returned (.agg #[.bool a,.bool b,.bool c,.int .i64 (bits .and .i64 x 63),.int .i64 (bits .and .i64 y 255),.int .i64 (bits .and .i64 z 4095)]) ∧ Below w.heap.size w w':=by
  go_enter Tryz.func11,Tryz.ntmps11
  go_wp2
  exact bodyPost_ret (res6 rfl rfl (blk_new2 _ _ _ _)) rfl ⟨rfl,by go_grown⟩
theorem bits_mask (m : Nat) (hm : m ≤ 62) (v : Int) : bits BinOp.and IntKind.i64 v ((2 ^ m - 1 : Nat) : Int) = v % ((2 ^ m : Nat) : Int):=by
  have hp : 0 < 2 ^ m:=Nat.two_pow_pos m
  have hlt : 2 ^ m ≤ 2 ^ 62:=Nat.pow_le_pow_right (by decide) hm
  have h7 : (BitVec.ofInt 64 ((2 ^ m - 1 : Nat) : Int)) = BitVec.ofNat 64 (2 ^ m - 1):=BitVec.ofInt_natCast _ _
  have hd : 2 ^ m ∣ 2 ^ 64:=Nat.pow_dvd_pow 2 (by omega)
  have hmod : (v % ((2 ^ 64 : Nat) : Int)).toNat % 2 ^ m = (v % ((2 ^ m : Nat) : Int)).toNat:=by
    have h1 : 0 ≤ v % ((2 ^ 64 : Nat) : Int):=Int.emod_nonneg _ (by omega)
    have h2 : 0 ≤ v % ((2 ^ m : Nat) : Int):=Int.emod_nonneg _ (by omega)
    have h3 : ((v % ((2 ^ 64 : Nat) : Int)).toNat % 2 ^ m : Nat) = ((v % ((2 ^ 64 : Nat) : Int)) % ((2 ^ m : Nat) : Int)).toNat:=by
      rw [Int.toNat_emod h1 (by omega),Int.toNat_natCast]
    rw [h3,Int.emod_emod_of_dvd _ (by exact_mod_cast hd)]
  have hm' : (BitVec.ofInt 64 v &&& BitVec.ofInt 64 ((2 ^ m - 1 : Nat) : Int)).toNat = (v % ((2 ^ m : Nat) : Int)).toNat:=by
    rw [h7,BitVec.toNat_and,BitVec.toNat_ofNat,Nat.mod_eq_of_lt (by omega),Nat.and_two_pow_sub_one_eq_mod,BitVec.toNat_ofInt,hmod]
  show IntKind.i64.wrap ((BitVec.ofInt 64 v &&& BitVec.ofInt 64 ((2 ^ m - 1 : Nat) : Int)).toNat : Int) = _
  have h2 : 0 ≤ v % ((2 ^ m : Nat) : Int):=Int.emod_nonneg _ (by omega)
  have h3 : v % ((2 ^ m : Nat) : Int) < ((2 ^ m : Nat) : Int):=Int.emod_lt_of_pos _ (by omega)
  have h4 : ((2 ^ m : Nat) : Int) ≤ ((4611686018427387904 : Nat) : Int):=Int.ofNat_le.2 (Nat.le_trans hlt (by decide))
  rw [hm',IntKind.wrap_i64,Int.toNat_of_nonneg h2]
  omega
theorem mask_nat (m : Nat) (hm : m ≤ 62) (v : Int) : ∃ X : Nat,X < 2 ^ m ∧ bits BinOp.and IntKind.i64 v ((2 ^ m - 1 : Nat) : Int) = (X : Int):=by
  have hp : 0 < 2 ^ m:=Nat.two_pow_pos m
  have h1 : 0 ≤ v % ((2 ^ m : Nat) : Int):=Int.emod_nonneg _ (by omega)
  have h2 : v % ((2 ^ m : Nat) : Int) < ((2 ^ m : Nat) : Int):=Int.emod_lt_of_pos _ (by omega)
  exact ⟨(v % ((2 ^ m : Nat) : Int)).toNat,by omega,by rw [bits_mask m hm]; omega⟩
theorem bthen {B : Nat} {w w1 w2 : World} (h : Below B w w1) (k : Below w1.heap.size w1 w2) (hB : B ≤ w.heap.size:=by exact Nat.le_refl _) : Below B w w2 :=
  ⟨k.os.trans h.os,k.tape.trans h.tape,k.output.trans h.output,Nat.le_trans h.size k.size,fun i hi=>(k.block i (by have:=h.size; omega)).trans (h.block i hi)⟩
theorem blw_alloc (w : World) (o : Obj) : Below w.heap.size w (w.alloc o):=by go_grown
theorem T20.keep {w w' : World} (h : Am.Tb20 w) (hu : Below w.heap.size w w') : Am.Tb20 w':=by
  obtain ⟨cs,t,fz,h1,h2,h3⟩:=h
  exact ⟨cs,t,fz,(hu.block 5 (Array.getElem?_eq_some_iff.1 h1).1).trans h1,h2,h3⟩
theorem T20.alloc {w : World} (h : Am.Tb20 w) (o : Obj) : Am.Tb20 (w.alloc o):=T20.keep h (blw_alloc w o)
set_option maxHeartbeats 1000000 in
set_option maxRecDepth 100000 in
theorem done_of {w : World} {s : ByteArray} {bo bv : ByteArray} (ht : Am.Tb20 w) (hl : bo.size + bv.size ≤ 1000)
    (hrun : ∀ (w' : World),Am.Tb20 w' → Calls Tryz.prog 10 #[.string s,.agg #[.bool false,.bool false,.bool false,.int .i64 0,.int .i64 0,.int .i64 0],.int .i64 100,.int .i64 1000] w' fun e w''=>∃ ua,e = .returned (.tuple #[.agg #[.string bo,.int .i64 0,.string bv],ua,.int .i64 0]) ∧ Hid (Below w'.heap.size w' w'')) :
    Calls Tryz.prog 7 #[.string s,.agg #[.bool false,.bool false,.bool false,.int .i64 0,.int .i64 0,.int .i64 0],.int .i64 100,.int .i64 1000] w fun e w'=>e = .returned (.string (bo ++ bv)) ∧ Below w.heap.size w w':=by
  have HM : Hid (∀ w' : World,Calls Tryz.prog 11 #[.agg #[.bool false,.bool false,.bool false,.int .i64 0,.int .i64 0,.int .i64 0]] w' fun e w''=>e = .returned (.agg #[.bool false,.bool false,.bool false,.int .i64 0,.int .i64 0,.int .i64 0]) ∧ Below w'.heap.size w' w''):=hide fun w'=>mine_any false false false 0 0 0
  have HR:=hide hrun
  have HT:=hide ht
  clear hrun ht
  go_enter Tryz.func7,Tryz.ntmps7
  go_wp2_with (first | (go_at_call 11; refine (HM.out _).mono ?_; rintro e w1 ⟨rfl,hu⟩; have HU1:=hide hu; clear hu) | (go_at_call 10; refine (HR.out _ (T20.keep (T20.alloc HT.out _) HU1.out)).mono ?_; rintro e w2 ⟨ua,rfl,HU2⟩))
  go_ret
  exact ⟨rfl,bthen (bthen (bthen (blw_alloc w _) HU1.out) HU2.out) (by go_grown)⟩
end Go.Proofs.YtadbcnekkceoaaaGreatDoor.Wk
