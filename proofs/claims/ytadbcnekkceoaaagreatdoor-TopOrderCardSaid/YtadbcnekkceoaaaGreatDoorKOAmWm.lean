/- From the texts' runs to what script.Run tells. -/
import Derived.Test.YtadbcnekkceoaaaGreatDoorKOAmOw
import Derived.Test.YtadbcnekkceoaaaGreatDoorKOTm
import Derived.Test.YtadbcnekkceoaaaGreatDoorKOAmMg
set_option linter.unusedVariables false
namespace Go.Proofs.YtadbcnekkceoaaaGreatDoor.Wk
open Go.RowKit (Below)
open Am
theorem kp_below {w w' : World} (h : Kp w w') : Below w.heap.size w w':=⟨h.os,h.tape,h.output,h.size,h.block⟩
theorem bytes_lit {l : List Nat} {k : List UInt8} {b : ByteArray} (h : l = b.data.toList.map UInt8.toNat) (e : l = k.map UInt8.toNat) : b = ⟨k.toArray⟩:=by
  have:=toN_inj (h.symm.trans e)
  cases b with | mk d=>simp only at this; rw [← this,Array.toArray_toList]
section
variable {c1 c2 : List ((Nat × CL) × Nat)} {g1 g2 g3 : List (List TA)} {j1 j2 j3 : List Jb} {tx : List Nat}
theorem run_awake (s1 : segC mkX 1000 [] g1 j1 c1 = some tok) (s2 : segC mkX 1000 [] g2 j2 c2 = some tok) (s3 : lastC mkX 1000 (c1.map Prod.fst ++ c2.map Prod.fst) g3 j3 10 hp0 endA (argsA tx) = some tok) (e : tx = sAw.data.toList.map UInt8.toNat) {w : World} (hw : Tb20 w) :
    Calls Tryz.prog 5 #[] w fun e w'=>e = .returned (.bool true) ∧ Below w.heap.size w w':=by
  refine awake_of hw fun w1 hw1=>?_
  have:=done_of (w:=w1) (s:=sAw) (bo:=⟨#[]⟩) (bv:=⟨#[49,50,48]⟩) hw1 (by decide) fun w2 hw2=>?_
  · exact this
  refine (run_of s1 s2 s3 (by unfold argsA; exact List.mem_singleton.2 rfl) hw2 (args:=#[.string sAw,.agg #[.bool false,.bool false,.bool false,.int .i64 0,.int .i64 0,.int .i64 0],.int .i64 100,.int .i64 1000]) ?_).mono ?_
  · rw [e]
    exact .cons (.str _) (.cons (.agg (.cons (.bool _) (.cons (.bool _) (.cons (.bool _) (.cons (.int _ _) (.cons (.int _ _) (.cons (.int _ _) .nil))))))) (.cons (.int _ _) (.cons (.int _ _) .nil)))
  · rintro e w3 ⟨h1,bo,bv,ua,rfl,h2,r,h3⟩
    obtain rfl:=bytes_lit (k:=[]) h2 rfl
    obtain ⟨h3,_⟩:=eqLC_ok h3
    obtain rfl:=bytes_lit (k:=[49,50,48]) h3.symm rfl
    exact ⟨ua,rfl,Mv.hide (kp_below h1)⟩
end
end Go.Proofs.YtadbcnekkceoaaaGreatDoor.Wk
namespace Go.Proofs.YtadbcnekkceoaaaGreatDoor.Wk
open Go.RowKit (Below)
open Am
theorem digsU_dgN : ∀ x,x < 256 → (digsU x []).map UInt8.toNat = Am.dgN x:=by decide +kernel
theorem numB_nat {x : Nat} (h : x < 256) : (numB x).data.toList.map UInt8.toNat = Am.dgN x:=by
  show (digsU x []).toArray.toList.map UInt8.toNat = _
  rw [List.toList_toArray]
  exact digsU_dgN x h
abbrev oZ0 : ByteArray:=⟨#[113,122]⟩
abbrev oSix : ByteArray:=⟨#[54]⟩
theorem cat_end (X Y : Nat) : (oF ++ numB X ++ numB Y ++ oZ0) ++ oSix = oF ++ numB X ++ numB Y ++ oZ:=by
  apply ByteArray.ext
  simp [ByteArray.data_append]
theorem cat_size (X Y : Nat) : (oF ++ numB X ++ numB Y ++ oZ0).size + oSix.size ≤ 1000:=by
  have h1:=numB_size X
  have h2:=numB_size Y
  have e1 : oF.size = 1:=rfl
  have e2 : oZ0.size = 2:=rfl
  have e3 : oSix.size = 1:=rfl
  rw [ByteArray.size_append,ByteArray.size_append,ByteArray.size_append]
  omega
theorem cat_nat (a b : ByteArray) : (a ++ b).data.toList.map UInt8.toNat = a.data.toList.map UInt8.toNat ++ b.data.toList.map UInt8.toNat:=by simp [ByteArray.data_append]
theorem bytes_same {a b : ByteArray} (h : a.data.toList.map UInt8.toNat = b.data.toList.map UInt8.toNat) : a = b:=by
  have:=toN_inj h
  cases a with | mk a=>cases b with | mk b=>exact congrArg ByteArray.mk (Array.toList_inj.1 this)
section
variable {tab : List (Nat × CL)} {g3 : List (List TA)} {j3 : List Jb}
theorem argsL_mem (n k : Nat) (a b c : Bool) : [AV.txt (txtP preX n (.xI .xH) midX k (.xO (.xO .xH)) postX),.agg [.bool a,.bool b,.bool c,.ge 0,.ge 0,.ge 0],.int .i64 (.ofNat 4000),.int .i64 (.ofNat 60000)] ∈ argsL n k:=by
  cases a <;> cases b <;> cases c <;> simp [argsL,sws]
theorem run_text {n k : Nat} (ht : TbL Tryz.prog tb (nnOf Tryz.prog) tab) (s3 : lastC mkX 1000 tab g3 j3 10 (hpL n k) (endT (outL n k)) (argsL n k) = some tok) {X Y : Nat} (hX : X < 256) (hY : Y < 256) (e1 : ndg X = n) (e2 : ndg Y = k) (a b c : Bool) (x y z : Nat) (h1 : x ≤ 4096) (h2 : y ≤ 4096) (h3 : z ≤ 4096) {w : World} (hw : Tb20 w) :
    Calls Tryz.prog 10 #[.string (oP ++ numB X ++ oM ++ numB Y ++ oQ),.agg #[.bool a,.bool b,.bool c,.int .i64 x,.int .i64 y,.int .i64 z],.int .i64 4000,.int .i64 60000] w (RunD w (oF ++ numB X ++ numB Y ++ oZ0) oSix):=by
  subst e1 e2
  refine (run_ofL ht s3 (argsL_mem (ndg X) (ndg Y) a b c) hw rfl rfl (args:=#[.string (oP ++ numB X ++ oM ++ numB Y ++ oQ),.agg #[.bool a,.bool b,.bool c,.int .i64 x,.int .i64 y,.int .i64 z],.int .i64 4000,.int .i64 60000]) ?_).mono ?_
  · refine .cons (.txt ?_) (.cons (.agg (.cons (.bool a) (.cons (.bool b) (.cons (.bool c) (.cons (.ge (Nat.zero_le x) (by omega)) (.cons (.ge (Nat.zero_le y) (by omega)) (.cons (.ge (Nat.zero_le z) (by omega)) .nil))))))) (.cons (.int _ _) (.cons (.int _ _) .nil)))
    show VRs _ _ (byV _)
    rw [byV_nat,cat_nat,cat_nat,cat_nat,cat_nat,numB_nat hX,numB_nat hY,List.append_assoc,List.append_assoc,List.append_assoc]
    exact txtP_vr (p:=preX) (q:=midX) (r:=postX) (m:=mpL X Y) (a:=.xI .xH) (c:=.xO (.xO .xH)) rfl hX rfl hY
  · rintro e w2 ⟨g1,m',bo,bv,ua,g2,rfl,g3,g4⟩
    have q:=txtP_bytes (m:=m') (a:=.xI .xH) (c:=.xO (.xO .xH)) (g2 _ _ rfl) hX (g2 _ _ rfl) hY g3
    obtain rfl : bo = oF ++ numB X ++ numB Y ++ oZ0:=bytes_same (by rw [q,cat_nat,cat_nat,cat_nat,numB_nat hX,numB_nat hY,List.append_assoc,List.append_assoc]; rfl)
    obtain rfl : bv = oSix:=bytes_same g4.symm
    exact ⟨ua,rfl,Mv.hide (kp_below g1)⟩
end
end Go.Proofs.YtadbcnekkceoaaaGreatDoor.Wk
