/- Words for the cards: a struct of switches opened; the table's cells; no goroutine is started. -/
import Derived.Test.YtadbcnekkceoaaaGreatDoorRows
import Derived.Test.YtadbcnekkceoaaaGreatDoorKOAmTa
import GoSem.ClaimGoes
import Derived.ProofKit
import Derived.OpenShut
import Derived.LaidMore
import Derived.Lay
import Derived.Lib.LaidTab
set_option linter.unusedVariables false
namespace Go.Proofs.YtadbcnekkceoaaaGreatDoor.Cd
open Go.ChangeShapes Go.WideShapes Go.ChangeAt Go.RowKit
theorem goes_no {P : Program} (h : P.funcs.any Func.goes = false) (c : OpenClaim) (hst : c.start = .entering) : false = c.goesBy P:=by
  have key : ∀ f,P.goes f = false:=fun f=>by
    unfold Program.goes
    rw [h,Bool.and_false,Bool.or_false,List.any_eq_false]
    intro g _
    cases hg : P.funcs[g]? with
    | none=>simp
    | some fn =>
      have h2 : fn ∈ P.funcs:=Array.mem_of_getElem? hg
      rw [Array.any_eq_false'] at h
      have:=h fn h2
      simpa using this
  unfold OpenClaim.goesBy Program.goesAt Program.goesFrom
  rw [hst]
  cases P.funcNamed c.func with
  | none=>rfl
  | some f=>simp [key f]
theorem size23 : Tryz.prog.cellsOf 23 = 6:=by kernel_rfl
theorem size3 : Tryz.prog.cellsOf 3 = 1:=by kernel_rfl
theorem size4 : Tryz.prog.cellsOf 4 = 1:=by kernel_rfl
theorem array6 {α : Type} {cs : Array α} (h : cs.size = 6) : ∃ c0 c1 c2 c3 c4 c5,cs = #[c0,c1,c2,c3,c4,c5]:=by
  obtain ⟨l⟩:=cs
  match l,h with
  | [c0,c1,c2,c3,c4,c5],_=>exact ⟨c0,c1,c2,c3,c4,c5,rfl⟩
section
variable {H : Type} {enc : TypeId × Value → H} {w : World} {base : Nat} {spare : Nat → Bool} {held : Bool}
set_option maxRecDepth 100000 in
theorem open_sw {r : Reach} {b0 : Nat} {v : Value} {d : DataW H} {p : List MemPlace} (hv : Value.okWide Tryz.prog w r b0 23 v) (h : DataW.Trod enc Tryz.prog w base spare held 23 v d p) : ∃ (a b c : Bool) (x y z : Int),v = .agg #[.bool a,.bool b,.bool c,.int .i64 x,.int .i64 y,.int .i64 z]:=by
  obtain ⟨cs,rfl,hsz⟩:=okWide_struct Tryz.underlying23 hv
  obtain ⟨c0,c1,c2,c3,c4,c5,rfl⟩:=array6 (hsz.trans size23)
  obtain ⟨fuel,hf⟩:=h
  obtain ⟨xs,n,_,_,_,hlen,hfl⟩:=DataW.trod_struct Tryz.underlying23 hf
  have hx : ∀ i,i < 6 → ∃ y,xs[i]? = some y:=fun i hi=>⟨xs[i]'(by rw [hlen]; exact hi),List.getElem?_eq_getElem _⟩
  obtain ⟨y0,e0⟩:=hx 0 (by decide)
  obtain ⟨y1,e1⟩:=hx 1 (by decide)
  obtain ⟨y2,e2⟩:=hx 2 (by decide)
  obtain ⟨y3,e3⟩:=hx 3 (by decide)
  obtain ⟨y4,e4⟩:=hx 4 (by decide)
  obtain ⟨y5,e5⟩:=hx 5 (by decide)
  have g0:=(hfl 0 _ rfl).trans e0
  have g1:=(hfl 1 _ rfl).trans e1
  have g2:=(hfl 2 _ rfl).trans e2
  have g3:=(hfl 3 _ rfl).trans e3
  have g4:=(hfl 4 _ rfl).trans e4
  have g5:=(hfl 5 _ rfl).trans e5
  simp only [Value.cells] at g0 g1 g2 g3 g4 g5
  obtain ⟨b0,k0,_⟩:=DataW.trod_bool Tryz.underlying4 g0
  obtain ⟨b1,k1,_⟩:=DataW.trod_bool Tryz.underlying4 g1
  obtain ⟨b2,k2,_⟩:=DataW.trod_bool Tryz.underlying4 g2
  obtain ⟨x3,k3,_⟩:=DataW.trod_int Tryz.underlying3 g3
  obtain ⟨x4,k4,_⟩:=DataW.trod_int Tryz.underlying3 g4
  obtain ⟨x5,k5,_⟩:=DataW.trod_int Tryz.underlying3 g5
  simp [size3,size4] at k0 k1 k2 k3 k4 k5
  subst k0 k1 k2 k3 k4 k5
  exact ⟨_,_,_,_,_,_,rfl⟩
end
theorem gTab : Tryz.prog.globalNamed "internal/strconv.uint64pow10" = some 5:=by kernel_rfl
theorem gTabType : (Tryz.prog.globals[5]?).map (·.type) = some 520:=by kernel_rfl
theorem cellsT : Tryz.prog.cellsOf 520 = 20:=by kernel_rfl
theorem cells42 : Tryz.prog.cellsOf 42 = 1:=by kernel_rfl
theorem tb20_of {W : World} {d : DataW Unit} {t : TypeId} {cs : Array Value} {fuel : Nat} {p : List MemPlace} {g : Nat} (hd0 : d = Lib.tabData .u64 ((List.range 20).map fun j=>(10 : Int) ^ j)) (hg : Tryz.prog.globalNamed "internal/strconv.uint64pow10" = some g) (ht : (Tryz.prog.globals[g]?).map (·.type) = some t) (hv : W.var? Tryz.prog "internal/strconv.uint64pow10" = some cs)
    (hd : DataW.trod (fun _=>()) Tryz.prog W 0 (fun _=>true) false fuel t cs.toList = some (d,p)) : Am.Tb20 W:=by
  subst hd0
  obtain rfl:=Option.some.inj (gTab.symm.trans hg)
  obtain rfl:=Option.some.inj (gTabType.symm.trans ht)
  have h:=Lib.cells_of_tab Tryz.underlying520 Tryz.underlying42 cells42 cellsT hd
  unfold World.var? at hv
  rw [gTab] at hv
  simp only [Option.bind_some] at hv
  split at hv
  · next cs' t' fz hh =>
    injection hv with hv
    subst hv
    refine ⟨_,_,_,hh,?_,fun j hj=>?_⟩
    · have:=congrArg List.length h
      simpa using this
    · rw [← Array.getElem?_toList,h,List.getElem?_map,List.getElem?_map,List.getElem?_range hj]
      simp
  · cases hv
end Go.Proofs.YtadbcnekkceoaaaGreatDoor.Cd
