/- TopOrder returns true for every input, and leaves its arguments as they were. No condition but what the row lists: package-level variables of Go's library hold their tables when the call begins, which the card ties to the program's text. -/
import Derived.Test.YtadbcnekkceoaaaGreatDoorCards
import Derived.Test.YtadbcnekkceoaaaGreatDoorTie
import Derived.Test.YtadbcnekkceoaaaGreatDoorKOAmCo1
import Derived.Test.YtadbcnekkceoaaaGreatDoorKOAmCo2
import Derived.Test.YtadbcnekkceoaaaGreatDoorKOAmCo3
import Derived.Test.YtadbcnekkceoaaaGreatDoorKOAmCd
import Derived.Test.YtadbcnekkceoaaaGreatDoorKOAmOz
import Derived.WalkKit
import Derived.ProofKit
import Derived.OpenShut
import Derived.ChangeOld
import Derived.Below
import Derived.LaidMore
import Derived.Lay
import Derived.SevenTiedAt
import Derived.Stop.Joined
set_option linter.unusedVariables false
namespace Go.Proofs.YtadbcnekkceoaaaGreatDoor.topOrder
open Go.ChangeShapes Go.WideShapes Go.ChangeAt Go.RowKit
theorem own : ownKnob Tryz.prog.godebug = none:=by kernel_rfl
theorem laidOut : laidOutB Tryz.prog = true:=by kernel_rfl
theorem closed : joinedFacts Tryz.pinned.checked.prog 3 Tryz.f3 Rows.topOrderSpec Rows.topOrderRow = true:=by
  have hA:=fA
  have hF:=fF
  simp only [Bool.and_eq_true] at hA hF
  obtain ⟨⟨⟨⟨⟨⟨⟨⟨a0,a1⟩,a2⟩,a3⟩,a4⟩,a5⟩,a6⟩,a7⟩,a8⟩:=hA
  obtain ⟨⟨⟨⟨⟨⟨⟨⟨⟨⟨⟨⟨⟨⟨⟨⟨⟨⟨g0,g1⟩,g2⟩,g3⟩,g4⟩,g5⟩,g6⟩,g7⟩,g8⟩,g9⟩,g10⟩,g11⟩,g12⟩,g13⟩,g14⟩,g15⟩,g16⟩,g17⟩,g18⟩:=hF
  simp only [joinedFacts,Bool.and_eq_true]
  exact ⟨⟨⟨⟨⟨⟨⟨⟨⟨⟨⟨⟨⟨⟨⟨⟨⟨⟨⟨⟨⟨⟨⟨⟨⟨⟨⟨⟨⟨⟨⟨a0,a1⟩,a2⟩,a3⟩,a4⟩,a5⟩,a6⟩,a7⟩,a8⟩,fB⟩,fC⟩,fD⟩,fE⟩,g0⟩,g1⟩,g2⟩,g3⟩,g4⟩,g5⟩,g6⟩,g7⟩,g8⟩,g9⟩,g10⟩,g11⟩,g12⟩,g13⟩,g14⟩,(by kernel_rfl)⟩,g16⟩,g17⟩,g18⟩
theorem noHandle : (Rows.topOrderRow.laid.all fun x=>x.2.handleName?.isNone) = true:=by kernel_rfl
theorem table {W : World} (h : laidMetH Tryz.prog Rows.topOrderRow.laid W) : Am.Tb20 W:=by
  rw [MakeChecks.laidMetH_plain _ _ _ noHandle] at h
  obtain ⟨_,⟨_,_,_,_,_,_,_,_,_,_,⟨_,_,_,_,_,_,_,_,_,_,⟨g,t,cs,fuel,p,q,hg,ht,hv,hd,_⟩,_⟩,_⟩,_⟩:=h
  exact Cd.tb20_of rfl hg ht hv hd
noncomputable def args0 : Array Value:=#[.int .i64 0,.int .i64 0,.agg #[.bool false,.bool false,.bool false,.int .i64 0,.int .i64 0,.int .i64 0]]
theorem wZip (os : Os) : ((World.laidAll Tryz.prog os Rows.topOrderRow.laid).forCall (fun _ _=>0) ⟨#[],args0,[]⟩).Shaped Tryz.prog:=World.shaped_of_ZipB (by kernel_rfl) (by kernel_rfl)
theorem wOk (os : Os) : Input.okWideB Tryz.prog ((World.laidAll Tryz.prog os Rows.topOrderRow.laid).forCall (fun _ _=>0) ⟨#[],args0,[]⟩) 3 ⟨#[],args0,[]⟩ = true:=by kernel_rfl
theorem wPre (os : Os) {H : Type} (enc : TypeId × Value → H) : Rows.topOrderSpec.preB enc Tryz.prog Tryz.f3 Rows.topOrderRow.domain false ((World.laidAll Tryz.prog os Rows.topOrderRow.laid).forCall (fun _ _=>0) ⟨#[],args0,[]⟩).memory args0 8 = true:=by kernel_rfl
theorem wSized (os : Os) {H : Type} (enc : TypeId × Value → H) : Rows.topOrderSpec.sizedB enc Tryz.prog Tryz.f3 false ((World.laidAll Tryz.prog os Rows.topOrderRow.laid).forCall (fun _ _=>0) ⟨#[],args0,[]⟩).memory args0 8 = true:=by kernel_rfl
theorem wLaid (os : Os) : laidMetH Tryz.prog Rows.topOrderRow.laid ((World.laidAll Tryz.prog os Rows.topOrderRow.laid).forCall (fun _ _=>0) ⟨#[],args0,[]⟩).memory:=by
  rw [MakeChecks.laidMetH_plain _ _ _ noHandle]
  exact laidMet_laidAll _ (by kernel_rfl) (by kernel_rfl)
set_option maxRecDepth 100000 in
theorem lifted (os : Os) (started : os.Started) (H : Type) (enc : TypeId × Value → H) :
    ReturnsInHanded {} Tryz.checked os 3 .any (fun w args=>(Rows.topOrderSpec.pre enc Tryz.prog Tryz.f3 Rows.topOrderRow.domain false w args ∧ laidMetH Tryz.prog Rows.topOrderRow.laid w) ∧ sizedMet enc Tryz.prog Tryz.f3 (OpenSpec.ofChange Rows.topOrderSpec) false w args)
      (Rows.topOrderSpec.post enc Tryz.prog Tryz.f3 false true false false):=by
  refine returnsInHanded_of_change_and (C:=Tryz.checked) (X:=fun w _=>laidMetH Tryz.prog Rows.topOrderRow.laid w) (fun _ _ _ hh h=>h.of_heap hh) own started (by kernel_rfl) Tryz.func3
    (ChangeSpec.witness_shaped (enc:=enc) (C:=Tryz.checked) (os:=os) (X:=fun w _=>laidMetH Tryz.prog Rows.topOrderRow.laid w) false (World.laidAll Tryz.prog os Rows.topOrderRow.laid) args0 8 (World.laidAll_os _ _ _)
      (wZip os) (wOk os) (wPre os enc) (wSized os enc) (wLaid os)) ?_
  intro W base args ds gs before hval0 hW _ _ hL _
  have hval : ∀ (j : Nat) t v,Tryz.f3.params[j]? = some t → args[j]? = some v → Value.okWide Tryz.prog W .any base t v:=hval0
  have hW':=hW
  obtain ⟨p,q,hA0,hV,rfl,_,_⟩:=hW
  have hA : DataW.TrodAll enc Tryz.prog W 0 (fun _=>true) true Tryz.f3.params.toList args.toList ds p:=hA0
  rw [Tryz.params3] at hA hval
  obtain ⟨v0,vs0,d0,ds0,p0,q0,hargs,rfl,rfl,h0,r0⟩:=trodAll_cons hA
  obtain ⟨v1,vs1,d1,ds1,p1,q1,rfl,rfl,rfl,h1,r1⟩:=trodAll_cons r0
  obtain ⟨v2,vs2,d2,ds2,p2,q2,rfl,rfl,rfl,h2,r2⟩:=trodAll_cons r1
  obtain ⟨rfl,rfl,rfl⟩:=trodAll_nil r2
  obtain rfl : args = #[v0,v1,v2]:=by cases args; simp_all
  obtain ⟨rfl,rfl⟩:=trodVars_none hV
  obtain ⟨n,rfl,rfl,rfl,w0⟩:=open_int Tryz.underlying3 (hval 0 3 v0 rfl rfl) h0
  obtain ⟨m,rfl,rfl,rfl,w1⟩:=open_int Tryz.underlying3 (hval 1 3 v1 rfl rfl) h1
  obtain ⟨a,b,c,x,y,z,rfl⟩:=Cd.open_sw (hval 2 23 v2 rfl rfl) h2
  have k2:=h2
  have lt2 : ∀ x ∈ p2,x.block < W.heap.size:=by obtain ⟨m,hm⟩:=k2; exact DataW.trod_lt m _ _ _ hm
  clear hA0 hval0
  refine (Wk.order_any n m a b c x y z (table hL)).mono fun e W' ⟨he,bel⟩=>?_
  subst he
  exact ⟨_,rfl,_,_,_,[],_,[],hW',trodAll_mk1 (shut_bool Tryz.underlying4 _),(trodAll_cons_mk (shut_int Tryz.underlying3 w0) (trodAll_cons_mk (shut_int Tryz.underlying3 w1) (trodAll_cons_mk (Below.trod laidOut (by kernel_rfl) (of_decide_eq_true (by kernel_rfl)) k2 bel lt2) trodAll_mk0))),rfl,bel.frame _,fun h=>by cases h⟩
theorem said : Rows.TopOrderSaid :=
  OpenClaim.holds_of_wide 3 Tryz.f3 rfl rfl rfl rfl rfl rfl rfl ⟨rfl,rfl,rfl,rfl,rfl⟩ rfl rfl rfl rfl rfl (by kernel_rfl) Tryz.func3 closed
    (of_decide_eq_true (by kernel_rfl)) (by unfold Func.isWrapper; first | (rw [if_pos (by decide +kernel)]; kernel_rfl) | (rw [if_neg (by decide +kernel)]; exact ⟨rfl,rfl⟩))
    (fun os started H enc _=>lifted os started H enc)
theorem looksOn : true = Tryz.pinned.checked.prog.looks []:=by kernel_rfl
theorem plain (f : FuncId) (fn : Func) (hf : Tryz.pinned.checked.prog.funcNamed "corbel/corbeltop.TopOrder" = some f) (hfn : Tryz.pinned.checked.prog.funcs[f]? = some fn) :
    true = Tryz.pinned.checked.prog.looks [] ∧ ∀ (j : Nat) t,fn.params[j]? = some t → Tryz.pinned.checked.prog.wantsStandIn t = false:=by
  obtain rfl : f = 3:=Option.some.inj ((show Tryz.prog.funcNamed "corbel/corbeltop.TopOrder" = some 3 by kernel_rfl).symm.trans hf) |>.symm
  obtain rfl : fn = Tryz.f3:=(Option.some.inj (Tryz.func3.symm.trans hfn)).symm
  refine ⟨looksOn,fun j t ht=>?_⟩
  rw [Tryz.params3] at ht
  have hm : t ∈ [3,23]:=by have:=Array.mem_of_getElem? ht; simp at this ⊢; omega
  have hall : ([3,23].all fun u=>!Tryz.prog.wantsStandIn u) = true:=by kernel_rfl
  exact (show Tryz.prog.wantsStandIn t = false by simpa using List.all_eq_true.1 hall t hm)
theorem wfText : Rows.topOrderRow.wfByText (OpenSpec.ofChange Rows.topOrderSpec) = true:=by kernel_rfl
theorem mainAt : Tryz.pinned.checked.prog.mainIs = some (true,"74d79842dacfb8ae2f12215a1b7ad85cd41ac1b7f724c62f943c4673be3cc08a".toList):=by kernel_rfl
theorem proved : Rows.TopOrderCardSaid :=
  Claim7.holds_tied_plain_at .later [] _ _ _ _ said (fun _ h=>by cases h) wfText (fun _ h=>by cases h) topOrder_row_tie rfl ⟨rfl,rfl⟩ mainAt rfl plain (Cd.goes_no noGo _ rfl)
#print axioms proved
end Go.Proofs.YtadbcnekkceoaaaGreatDoor.topOrder
