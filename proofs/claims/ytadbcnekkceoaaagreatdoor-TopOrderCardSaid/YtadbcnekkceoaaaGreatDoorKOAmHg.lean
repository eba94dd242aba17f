/- How a function ends: its deferred calls. -/
import Derived.Test.YtadbcnekkceoaaaGreatDoorKOAmD
import Derived.Defers
set_option linter.unusedVariables false
namespace Go.Proofs.YtadbcnekkceoaaaGreatDoor
namespace Am
inductive CRes | ret (v : AV) (h : H) (pn : Pn) | pan (v : AV) (h : H) (pn : Pn)
section
variable {P : Program} {tb : Tb} {NN : Nat → Nat} {b : Frame}
def FnGoal (P : Program) (tb : Tb) (NN : Nat → Nat) (b : Frame) (m : Mp) (h : H) (w : World) (B : Nat) (cs0 : List Frame) (M : Machine) : CRes → Prop
  | .ret v h' pn=>∃ m' w' u fr cs',Steps P M (lone fr cs' w') ∧ fr.fn = b.fn ∧ fr.kind = b.kind ∧ fr.going P w' (.returned u) ∧ VR m' v u ∧ HR tb NN m' h' w' ∧ Go B m h w m' h' w' ∧ CsR m' b cs0 pn cs'
  | .pan v h' pn=>∃ m' w' u fr cs',Steps P M (lone fr cs' w') ∧ fr.fn = b.fn ∧ fr.kind = b.kind ∧ fr.going P w' (.panicked [{ v:=u,recovered:=false }]) ∧ VR m' v u ∧ HR tb NN m' h' w' ∧ Go B m h w m' h' w' ∧ CsR m' b cs0 pn cs'
theorem FnGoal.of_steps {m : Mp} {h : H} {w : World} {B : Nat} {cs0 : List Frame} {M M' : Machine} (hs : Steps P M M') : ∀ {r : CRes},FnGoal P tb NN b m h w B cs0 M' r → FnGoal P tb NN b m h w B cs0 M r
  | .ret _ _ _,⟨m',w',u,fr,cs',g,rest⟩=>⟨m',w',u,fr,cs',hs.trans g,rest⟩
  | .pan _ _ _,⟨m',w',u,fr,cs',g,rest⟩=>⟨m',w',u,fr,cs',hs.trans g,rest⟩
theorem FnGoal.after {m m1 : Mp} {h h1 : H} {w w1 : World} {B : Nat} {cs0 : List Frame} {M : Machine} (g : Go B m h w m1 h1 w1) : ∀ {r : CRes},FnGoal P tb NN b m1 h1 w1 B cs0 M r → FnGoal P tb NN b m h w B cs0 M r
  | .ret _ _ _,⟨m',w',u,fr,cs',a1,a2,a3,a4,a5,a6,a7,a8⟩=>⟨m',w',u,fr,cs',a1,a2,a3,a4,a5,a6,g.trans a7,a8⟩
  | .pan _ _ _,⟨m',w',u,fr,cs',a1,a2,a3,a4,a5,a6,a7,a8⟩=>⟨m',w',u,fr,cs',a1,a2,a3,a4,a5,a6,g.trans a7,a8⟩
def MdR (m : Mp) : Option AV → FrameMode → Prop
  | none,μ=>μ = .returning
  | some v,μ=>∃ u,μ = .panicking [{ v:=u,recovered:=false }] ∧ VR m v u
theorem MdR.mono {m m' : Mp} (hm : m.le m') : ∀ {x : Option AV} {μ : FrameMode},MdR m x μ → MdR m' x μ
  | none,_,h=>h
  | some _,_,⟨u,h1,h2⟩=>⟨u,h1,h2.mono hm⟩
def LvOk (P : Program) (tb : Tb) (NN : Nat → Nat) (b : Frame) (e : E) (h : H) (dfs : List (AV × List AV)) (md : Option AV) (pn : Pn) (r : CRes) : Prop :=
  ∀ (m : Mp) (w : World) (fr : Frame) (cs0 cs : List Frame) (B : Nat),HR tb NN m h w → fr.fn = b.fn → fr.kind = b.kind → MdR m md fr.mode → DfRs m dfs fr.defers → ER tb m b.fn e fr.tmps → CsR m b cs0 pn cs → B ≤ h.next.nat →
    FnGoal P tb NN b m h w B cs0 (lone fr cs w) r
theorem lkS_tmp {m : Mp} {fn : Nat} {e : E} {tmps : Array Value} (he : ER tb m fn e tmps) (t : Tmp) : VR m (lkS tb fn e (.tmp t)) (tmps.getD t undef):=by
  show VR m (match tb.slot fn t with | some s=>E.get s e | none=>.junk) _
  cases h : tb.slot fn t with
  | none=>exact .junk _
  | some s=>exact he t s h
theorem lv_ret {fn : Func} (hf : P.funcs[b.fn]? = some fn) {e : E} {h : H} {pn : Pn} {r : List AV} (hr : resA P (lkS tb b.fn e) h fn.results.toList = some r) : LvOk P tb NN b e h [] none pn (.ret (resV r) h pn):=fun m w fr cs0 cs B h1 h2 h3 h4 h5 h6 h7 _=>by
  obtain ⟨u,k1,k2⟩:=results_ok (P:=P) (fn:=fn) h1 (lkS_tmp h6) hr
  have hd : fr.defers = []:=by generalize fr.defers = l at h5; cases h5; rfl
  exact ⟨m,w,u,fr,cs,.refl _ _,h2,h3,⟨h4,hd,fn,by rw [h2]; exact hf,k1⟩,k2,h1,Go.refl _ _ _ _,h7⟩
theorem lv_pan {fn : Func} (hf : P.funcs[b.fn]? = some fn) {e : E} {h : H} {pn : Pn} {v : AV} : LvOk P tb NN b e h [] (some v) pn (.pan v h pn):=fun m w fr cs0 cs B h1 h2 h3 h4 h5 h6 h7 _=>by
  obtain ⟨u,k1,k2⟩:=h4
  have hd : fr.defers = []:=by generalize fr.defers = l at h5; cases h5; rfl
  exact ⟨m,w,u,fr,cs,.refl _ _,h2,h3,⟨k1,hd,fn,by rw [h2]; exact hf⟩,k2,h1,Go.refl _ _ _ _,h7⟩
def baseOf (g : Nat) (κ : CallKind) : Frame:={ (default : Frame) with fn:=g,kind:=κ }
def FnOk (P : Program) (tb : Tb) (NN : Nat → Nat) (g : Nat) (κ : CallKind) (as : List AV) (pn : Pn) (h : H) (r : CRes) : Prop :=
  ∀ (m : Mp) (w : World) (args : Array Value) (cs0 : List Frame) (B : Nat),HR tb NN m h w → VRs m as args.toList → CsR m (baseOf g κ) cs0 pn cs0 → B ≤ h.next.nat →
    FnGoal P tb NN (baseOf g κ) m h w B cs0 (lone (Frame.enter P g args κ) cs0 w) r
def Bodied (P : Program) (g : Nat) : Prop:=∃ fn,P.funcs[g]? = some fn ∧ (fn.name == "runtime.NumGoroutine") = false ∧ fn.body.isNone = false
theorem invoke_fn {g : Nat} (hb : Bodied P g) (cap args : Array Value) (w : World) : (invoke (.fn (.func g) cap) args).run P w = .ok (.enter g (args ++ cap)) w:=by
  obtain ⟨fn,h1,h2,h3⟩:=hb
  have hp : (program : Sem Program).run P w = .ok P w:=rfl
  simp only [invoke,callFunc,Sem.run_bind,hp,Result.andThen_ok,h1,h2,h3,Bool.false_eq_true,if_false,Sem.run_pure]
def pnOf : Option AV → Pn | none=>.no | some v=>.yes v
def mdOf : Option AV → Pn → Option AV
  | none,_=>none
  | some _,.done=>none
  | some v,_=>some v
theorem lv_call {e : E} {h h1 : H} {g : Nat} {x y as : List AV} {dfs : List (AV × List AV)} {md : Option AV} {pn pn1 : Pn} {v : AV} {r : CRes} (hb : Bodied P g) (hc : FnOk P tb NN g .deferred (x ++ as ++ y) (pnOf md) h (.ret v h1 pn1)) (hl : LvOk P tb NN b e h1 dfs (mdOf md pn1) pn r) :
    LvOk P tb NN b e h ((.fn g x y,as) :: dfs) md pn r:=fun m w fr cs0 cs B q1 q2 q3 q4 q5 q6 q7 q8=>by
  generalize hds : fr.defers = l at q5
  cases q5 with | cons d1 d2 =>
  cases d1 with | fn _ a1 a2 a3 =>
  rename_i ds u1 u2 bs
  have hrun : fr.mode ≠ .run:=by
    cases md with
    | none=>rw [q4]; intro e; cases e
    | some v=>obtain ⟨u,k1,_⟩:=q4; rw [k1]; intro e; cases e
  have hst:=step_defer (P:=P) (cs:=cs) (w:=w) hrun hds rfl (invoke_fn hb u2 (u1 ++ bs) w)
  have hcs : CsR m (baseOf g .deferred) ({ fr with defers:=ds } :: cs) (pnOf md) ({ fr with defers:=ds } :: cs):=by
    cases md with
    | none =>
      refine ⟨rfl,fun a todo=>?_⟩
      have hm : ({ fr with defers:=ds } : Frame).mode = .returning:=q4
      show tryRecover ((baseOf g .deferred).atR a todo) _ = none
      unfold tryRecover
      have hk : ((baseOf g .deferred).atR a todo).kind = .deferred:=rfl
      rw [hk]
      dsimp only
      rw [hm]
    | some v =>
      obtain ⟨u,k1,k2⟩:=q4
      exact ⟨rfl,rfl,_,_,u,rfl,k1,k2⟩
  have hargs : VRs m (x ++ as ++ y) (u1 ++ bs ++ u2).toList:=by
    rw [Array.toList_append,Array.toList_append]
    exact (a1.app a3).app a2
  obtain ⟨m1,w1,u,fr1,cs1,g1,g2,g3,g4,g5,g6,g7,g8⟩:=hc m w (u1 ++ bs ++ u2) ({ fr with defers:=ds } :: cs) B q1 hargs hcs q8
  have hcal : ∃ c' : Frame,cs1 = c' :: cs ∧ c'.fn = fr.fn ∧ c'.kind = fr.kind ∧ c'.defers = ds ∧ c'.tmps = fr.tmps ∧ MdR m1 (mdOf md pn1) (settle c'.mode):=by
    cases pn1 with
    | no =>
      obtain ⟨k1,_⟩:=g8
      refine ⟨_,k1,rfl,rfl,rfl,rfl,?_⟩
      cases md with
      | none=>show settle fr.mode = .returning; rw [q4]; rfl
      | some v=>obtain ⟨u',k2,k3⟩:=q4; exact ⟨u',by show settle fr.mode = _; rw [k2]; rfl,k3.mono g7.le⟩
    | yes v' =>
      obtain ⟨k1,_⟩:=g8
      refine ⟨_,k1,rfl,rfl,rfl,rfl,?_⟩
      cases md with
      | none=>show settle fr.mode = .returning; rw [q4]; rfl
      | some v=>obtain ⟨u',k2,k3⟩:=q4; exact ⟨u',by show settle fr.mode = _; rw [k2]; rfl,k3.mono g7.le⟩
    | done =>
      obtain ⟨_,c0,rest,u',k1,k2,k3⟩:=g8
      injection k1 with k1 k4
      subst k1 k4
      refine ⟨_,k3,rfl,rfl,rfl,rfl,?_⟩
      cases md <;> rfl
  obtain ⟨c',e1,e2,e3,e4,e5,e6⟩:=hcal
  subst e1
  have hk1 : fr1.kind = .deferred:=g3
  have hgo:=step_going_returned (cs:=cs) (c:=c') hk1 g4
  have:=hl m1 w1 { c' with mode:=settle c'.mode } cs0 cs B g6 (e2.trans q2) (e3.trans q3) e6 (by show DfRs m1 dfs c'.defers; rw [e4]; exact d2.mono g7.le) (by show ER tb m1 b.fn e c'.tmps; rw [e5]; exact q6.mono g7.le) (q7.mono g7.le) (Nat.le_trans q8 g7.next)
  exact (this.after g7).of_steps (.head hst (g1.trans (.one hgo)))
end
end Am
end Go.Proofs.YtadbcnekkceoaaaGreatDoor
namespace Go.Proofs.YtadbcnekkceoaaaGreatDoor
namespace Am
section
variable {P : Program} {tb : Tb} {NN : Nat → Nat} {b : Frame}
theorem step_coll {fr : Frame} {cs : List Frame} {w w' : World} {q : Nat} {as : Array Value} {ds calls : List Deferred} (hm : fr.mode ≠ .run) (hd : fr.defers = { target:=.collected q,args:=as } :: ds) (hr : (Instr.takeDeferred q).run P w = .ok calls w') :
    step P (lone fr cs w) = .next (lone { fr with defers:=calls ++ ds } cs w'):=by
  refine step_lone_go ?_
  cases hmode : fr.mode with
  | run=>exact absurd hmode hm
  | returning=>simp [stepG,unwind,hmode,hd,Sem.runT_eq,hr]
  | panicking chain=>simp [stepG,unwind,hmode,hd,Sem.runT_eq,hr]
theorem lv_coll {e : E} {h : H} {a : Pos} {l dfs : List (AV × List AV)} {md : Option AV} {pn : Pn} {r : CRes} (hg : h.get a = some (.dfd (some l))) (hl : LvOk P tb NN b e (h.set a (.dfd none)) (l ++ dfs) md pn r) :
    LvOk P tb NN b e h ((.yld a,[]) :: dfs) md pn r:=fun m w fr cs0 cs B q1 q2 q3 q4 q5 q6 q7 q8=>by
  generalize hds : fr.defers = ll at q5
  cases q5 with | cons d1 d2 =>
  cases d1 with | coll hm =>
  rename_i ds i sz
  have hrun : fr.mode ≠ .run:=by
    cases md with
    | none=>rw [q4]; intro e; cases e
    | some v=>obtain ⟨u,k1,_⟩:=q4; rw [k1]; intro e; cases e
  obtain ⟨i',sz',o,k1,k2,k3⟩:=q1.blk _ _ hg
  rw [hm] at k1; injection k1 with k1; injection k1 with k1 k4
  subst k1 k4
  cases k3 with | dfd k5 =>
  rename_i calls
  have hro : (AB.dfd (some l)).ro = false:=rfl
  obtain ⟨r1,r2⟩:=q1.turn (b':=.dfd none) (o':=.deferred none) hg hro hm .dfdN rfl B
  have hrun2 : (Instr.takeDeferred i).run P w = .ok calls (pw w i (.deferred none)):=by
    unfold Instr.takeDeferred
    simp only [Sem.run_bind,run_getObj_ok k2 (fun _ _ _ e=>by cases e),Result.andThen_ok,run_setObj_pw k2 (fun _ _ _ e=>by cases e),Sem.run_pure]
  have hst:=step_coll (cs:=cs) hrun hds hrun2
  have:=hl m (pw w i (.deferred none)) { fr with defers:=calls ++ ds } cs0 cs B r1 q2 q3 q4 (k5.app d2) q6 q7 (Nat.le_trans q8 r2.next)
  exact (this.after r2).of_steps (.one hst)
def X.md : X → Option (Option AV)
  | .nrm=>some none
  | .ret=>some none
  | .pan v=>some (some v)
  | .ext _=>none
  | .gto _=>none
theorem fn_ok {g : Nat} {κ : CallKind} {fn : Func} {c : Code} (hf : P.funcs[g]? = some fn) (hc : fn.body = some c) {as : List AV} {pn : Pn} {h : H} {x : X} {st1 : St} {md : Option AV} {r : CRes}
    (hfol : Fol P tb NN (baseOf g κ) fn.ntmps c ⟨enterE tb g as 0 E.new,h,⟨[],pn⟩⟩ x st1) (hx : x.md = some md) (hl : LvOk P tb NN (baseOf g κ) st1.e st1.h st1.f.dfs md st1.f.pn r) : FnOk P tb NN g κ as pn h r:=fun m w args cs0 B h1 h2 h3 h4=>by
  have hent : Frame.enter P g args κ = (baseOf g κ).atR { tmps:=args ++ Array.replicate (fn.ntmps - args.size) undef,defers:=[] } [.code c]:=by
    simp [Frame.enter,Frame.atR,baseOf,hf,hc]
    rfl
  rw [hent]
  obtain ⟨m',w',act',cs',r1,r2,r3,r4,r5,r6,r7⟩:=hfol m w { tmps:=args ++ Array.replicate (fn.ntmps - args.size) undef,defers:=[] } cs0 cs0 [] B h1 h3 .nil (by simp; omega) (enter_ER h2 _) h4
  have hb : (baseOf g κ).roundOf = none:=rfl
  have fin : ∀ fr : Frame,fr.fn = g → fr.kind = κ → MdR m' md fr.mode → fr.defers = act'.defers → fr.tmps = act'.tmps → FnGoal P tb NN (baseOf g κ) m h w B cs0 (lone fr cs' w') r:=fun fr e1 e2 e3 e4 e5 =>
    (hl m' w' fr cs0 cs' B r1 e1 e2 e3 (by rw [e4]; exact r4) (by rw [e5]; exact r6) r3 (Nat.le_trans h4 r2.next)).after r2
  cases x with
  | nrm =>
    injection hx with hx; subst hx
    exact (fin { (baseOf g κ).atR act' [] with mode:=.returning } rfl rfl rfl rfl rfl).of_steps (r7.trans (.one (stepR_end hb)))
  | ret =>
    injection hx with hx; subst hx
    obtain ⟨k',g1⟩:=r7
    exact (fin { (baseOf g κ).atR act' (.code .ret :: k') with mode:=.returning } rfl rfl rfl rfl rfl).of_steps (g1.trans (.one (stepR_ret hb)))
  | pan v =>
    injection hx with hx; subst hx
    obtain ⟨k',u,g0,g1⟩:=r7
    exact (fin { (baseOf g κ).atR act' k' with mode:=.panicking [{ v:=u,recovered:=false }] } rfl rfl ⟨u,rfl,g0⟩ rfl rfl).of_steps g1
  | ext id=>cases hx
  | gto l=>cases hx
end
end Am
end Go.Proofs.YtadbcnekkceoaaaGreatDoor
namespace Go.Proofs.YtadbcnekkceoaaaGreatDoor
namespace Am
def callS (u : Value) (args : Array Value) : Sem Next:=do let d ← Deferred.ofValue u args; invoke d.target d.args
inductive NxS (P : Program) : Next → Frame → Prop
  | enter (f : FuncId) (args : Array Value) : NxS P (.enter f args) (Frame.enter P f args .normal)
  | round (l : Nat) (f : FuncId) (tmps : Array Value) (asg body : Code) : NxS P (.round l f tmps asg body) (Frame.round l f tmps asg body .normal)
section
variable {P : Program} {tb : Tb} {NN : Nat → Nat}
def RtGoal (P : Program) (tb : Tb) (NN : Nat → Nat) (m : Mp) (h : H) (w : World) (B : Nat) (fr : Frame) (cs : List Frame) (M : Machine) : CRes → Prop
  | .ret v h' _=>∃ m' w' u,Steps P M (lone (fr.finish u) cs w') ∧ VR m' v u ∧ HR tb NN m' h' w' ∧ Go B m h w m' h' w'
  | .pan v h' _=>∃ m' w' u,Steps P M (lone { fr with mode:=.panicking [{ v:=u,recovered:=false }] } cs w') ∧ VR m' v u ∧ HR tb NN m' h' w' ∧ Go B m h w m' h' w'
def CalOk (P : Program) (tb : Tb) (NN : Nat → Nat) (c : AV) (as : List AV) (h : H) (r : CRes) : Prop :=
  ∀ (m : Mp) (w : World) (u : Value) (args : Array Value) (B : Nat),HR tb NN m h w → VR m c u → VRs m as args.toList → B ≤ h.next.nat →
    ∃ nx fr0,(callS u args).run P w = .ok nx w ∧ NxS P nx fr0 ∧ ∀ (fr : Frame) (cs : List Frame),fr.mode = .run → RtGoal P tb NN m h w B fr cs (lone fr0 (fr :: cs) w) r
theorem raise_run {fr : Frame} (h : fr.mode = .run) (vs : List PanicEntry) : fr.raise vs = { fr with mode:=.panicking vs }:=by
  unfold Frame.raise
  rw [h]
theorem cal_fn {g : Nat} {x y as : List AV} {h : H} {r : CRes} (hb : Bodied P g) (hc : FnOk P tb NN g .normal (x ++ as ++ y) .no h r) : CalOk P tb NN (.fn g x y) as h r:=fun m w u args B hr hu ha hB=>by
  cases hu with | fn _ hx hy =>
  rename_i fx fy
  refine ⟨.enter g (fx ++ args ++ fy),_,?_,.enter _ _,fun fr cs hm=>?_⟩
  · simp only [callS,Deferred.ofValue,Sem.run_bind,Sem.run_pure,Result.andThen_ok,invoke_fn hb]
  have hargs : VRs m (x ++ as ++ y) (fx ++ args ++ fy).toList:=by
    rw [Array.toList_append,Array.toList_append]
    exact (hx.app ha).app hy
  have hcs0 : CsR m (baseOf g .normal) (fr :: cs) .no (fr :: cs):=⟨rfl,fun a todo=>by
    have hk : ((baseOf g .normal).atR a todo).kind = .normal:=rfl
    unfold tryRecover
    rw [hk]⟩
  have goal:=hc m w _ _ B hr hargs hcs0 hB
  have hcs' : ∀ {m' : Mp} {pn' : Pn} {cs' : List Frame},CsR m' (baseOf g .normal) (fr :: cs) pn' cs' → cs' = fr :: cs:=fun {m' pn' cs'} h=>by
    cases pn' with
    | no=>exact h.1
    | yes v=>exact h.1
    | done=>have:=h.1; cases this
  cases r with
  | ret v h' pn' =>
    obtain ⟨m',w',u,fr1,cs',g1,g2,g3,g4,g5,g6,g7,g8⟩:=goal
    have e:=hcs' g8
    subst e
    obtain ⟨a1,a2,a3⟩:=g4
    have hlv : fr1.leaving P w' (.returned u):=⟨a1,a2,g3,a3⟩
    exact ⟨m',w',u,g1.trans (.one (step_leave_returned (c:=fr) (cs:=cs) hlv)),g5,g6,g7⟩
  | pan v h' pn' =>
    obtain ⟨m',w',u,fr1,cs',g1,g2,g3,g4,g5,g6,g7,g8⟩:=goal
    have e:=hcs' g8
    subst e
    have hs2:=step_leave_panicked (w:=w') (c:=fr) (cs:=cs) g4
    rw [raise_run hm] at hs2
    exact ⟨m',w',u,g1.trans (.one hs2),g5,g6,g7⟩
theorem cal_goal {b : Frame} {o : Oper} {c : Call} {gx : Operand} (hop : o.op = .call c) (hcal : c.callee = .value gx) {lk : Operand → AV} {h : H} {a : Pos} {f : Fx} {r : CRes} (hc : CalOk P tb NN (lk gx) (c.args.toList.map lk) h r)
    {m : Mp} {w : World} {act : Act} {k : List Item} {cs0 cs : List Frame} {ops : Array Oper} {i : Nat} {rest : List Nat} {B : Nat}
    (hr : HR tb NN m h w) (hl : ∀ x,VR m (lk x) (act.eval x)) (hB : B ≤ h.next.nat) (hcs : CsR m b cs0 f.pn cs) (hdf : DfRs m f.dfs act.defers) (ho : ops[i]? = some o) (hw : Region.wanted o (yielded ops act.tmps) = true) :
    HxGoal P tb NN m h w b act k cs0 cs ops i o rest a B (match r with | .ret v h' _=>.val v h' f | .pan v h' _=>.pan v h' f):=by
  have hd : ∀ c,o.op ≠ .defer c:=fun c e=>by rw [hop] at e; cases e
  have hargs : VRs m (c.args.toList.map lk) (c.args.map act.eval).toList:=by
    rw [Array.toList_map]
    exact VRs.of_lk hl c.args.toList
  obtain ⟨nx,fr0,q1,q2,q3⟩:=hc m w (act.eval gx) (c.args.map act.eval) h.next.nat hr (hl gx) hargs (Nat.le_refl _)
  have hrun : (execOp act.eval o).run P w = .ok nx w:=by
    unfold execOp
    rw [hop]
    simp only [resolve,hcal]
    exact q1
  have hst : step P (lone (b.atR act (.inRegion ops (i :: rest) :: k)) cs w) = .next (lone fr0 (b.atR act (.inRegion ops (i :: rest) :: k) :: cs) w):=by
    cases q2 with
    | enter f args=>exact at_enter (P:=P) (b:=b) (a:=act) (k:=k) (cs:=cs) (rest:=rest) ho hw hd hrun
    | round l f tmps asg body=>exact at_round (P:=P) (b:=b) (a:=act) (k:=k) (cs:=cs) (rest:=rest) ho hw hd hrun
  have goal:=q3 (b.atR act (.inRegion ops (i :: rest) :: k)) cs rfl
  cases r with
  | ret v h' pn' =>
    obtain ⟨m',w',u,g1,g5,g6,g7⟩:=goal
    rw [fin_at ho] at g1
    exact ⟨m',w',u,act.defers,cs,.head hst g1,g5,g6,g7.low hB,hcs.mono g7.le,hdf.mono g7.le,fun c _ hc2 hm=>g7.new c hc2 hm⟩
  | pan v h' pn' =>
    obtain ⟨m',w',u,g1,g5,g6,g7⟩:=goal
    exact ⟨m',w',u,act.defers,cs,_,.head hst g1,g5,g6,g7.low hB,hcs.mono g7.le,hdf.mono g7.le⟩
def roundE (tb : Tb) (fn : Nat) : List Nat → List AV → E → E
  | t :: ts,v :: vs,e=>roundE tb fn ts vs (match tb.slot fn t with | some s=>E.set s v e | none=>e)
  | _,_,e=>e
theorem ER.put1 {m : Mp} {fn : Nat} {e : E} {tmps : Array Value} (he : ER tb m fn e tmps) {v : AV} {u : Value} (hv : VR m v u) {t : Nat} (ht : t < tmps.size) : ER tb m fn (match tb.slot fn t with | some s=>E.set s v e | none=>e) (tmps.setIfInBounds t u):=fun t' s' h'=>by
  by_cases hh : t' = t
  · subst hh
    rw [h']
    dsimp only
    rw [E.get_set _ _ (Tb.slot_lt h').1 (Tb.slot_lt h').1,if_pos rfl]
    have : (tmps.setIfInBounds t' u).getD t' undef = u:=by simp [Array.getD_eq_getD_getElem?,ht]
    rw [this]; exact hv
  · have : (tmps.setIfInBounds t u).getD t' undef = tmps.getD t' undef:=by simp [Array.getD_eq_getD_getElem?,Ne.symm hh]
    rw [this]
    cases hs : tb.slot fn t with
    | none=>exact he t' s' h'
    | some s =>
      dsimp only
      rw [E.get_set _ _ (Tb.slot_lt hs).1 (Tb.slot_lt h').1,if_neg fun e=>?_]
      · exact he t' s' h'
      · subst e
        exact hh (slotF_inj (Tb.slot_lt h').2 (Tb.slot_lt hs).2)
theorem roundE_ok {m : Mp} {fn : Nat} : ∀ (ts : List Nat) {vs : List AV} {us : List Value} {e : E} {tmps : Array Value},VRs m vs us → (∀ t,t ∈ ts → t < tmps.size) → ER tb m fn e tmps →
    ER tb m fn (roundE tb fn ts vs e) ((ts.zip us).foldl (fun tmps x=>tmps.setIfInBounds x.1 x.2) tmps) ∧ ((ts.zip us).foldl (fun tmps x=>tmps.setIfInBounds x.1 x.2) tmps).size = tmps.size
  | [],_,_,_,_,_,_,he=>⟨by unfold roundE; exact he,rfl⟩
  | _ :: _,_,_,_,_,.nil,_,he=>⟨he,rfl⟩
  | t :: ts,_,_,e,tmps,.cons a b,ht,he=>by
    rw [roundE,List.zip_cons_cons,List.foldl_cons]
    have h1:=roundE_ok ts (tmps:=tmps.setIfInBounds t _) b (fun t' h'=>by simpa using ht t' (List.mem_cons_of_mem _ h')) (he.put1 a (ht t List.mem_cons_self))
    exact ⟨h1.1,h1.2.trans (by simp)⟩
def roundB (f l : Nat) : Frame:={ (default : Frame) with fn:=f,kind:=.normal,roundOf:=some l }
theorem csr_round {m : Mp} {f l : Nat} (cs : List Frame) : CsR m (roundB f l) cs .no cs:=⟨rfl,fun a todo=>by
  have hk : ((roundB f l).atR a todo).kind = .normal:=rfl
  unfold tryRecover
  rw [hk]⟩
theorem run_getLoop {w : World} {l : Nat} {r : Loop} (h : w.heap[l]? = some (.loop r)) : (Instr.getLoop l).run P w = .ok r w:=by
  unfold Instr.getLoop
  simp only [Sem.run_bind,run_getObj_ok h (fun _ _ _ e=>by cases e),Result.andThen_ok,Sem.run_pure]
def endR (x : X) : Option (LoopState × Option Code × Bool) :=
  match x with
  | .nrm=>some (.ready,none,true)
  | .ret=>some (.done,some .ret,false)
  | .ext id=>some (.done,some (.exit id),false)
  | .pan _=>none
  | .gto _=>none
theorem cal_yld {a : Pos} {as : List AV} {h : H} {s0 s2 : LoopState} {p0 p1 p2 : Option Code} {lab lab1 lab2 : Nat} {e e1 e2 : E} {d d1 d2 : Pos} {L : Lab} {st1 st2 : St} {x : X} {s' : LoopState} {p' : Option Code} {bb : Bool}
    (hg : h.get a = some (.loop s0 p0 lab e d)) (hL : tb.lab lab = some L) (hps : L.ps.size = as.length) (hpt : ∀ t,t ∈ L.ps.toList → t < NN L.fn)
    (hasg : ∀ l,Fol P tb NN (roundB L.fn l) (NN L.fn) L.asg ⟨roundE tb L.fn L.ps.toList as e,h,⟨[],.no⟩⟩ .nrm st1) (hpn1 : st1.f.pn = .no)
    (hg1 : st1.h.get a = some (.loop .ready p1 lab1 e1 d1))
    (hbody : ∀ l,Fol P tb NN (roundB L.fn l) (NN L.fn) L.body ⟨st1.e,st1.h.set a (.loop .busy p1 lab1 e1 d1),st1.f⟩ x st2) (hpn2 : st2.f.pn = .no)
    (hg2 : st2.h.get a = some (.loop s2 p2 lab2 e2 d2)) (hx : endR x = some (s',p',bb)) :
    CalOk P tb NN (.yld a) as h (.ret (.bool bb) (st2.h.set a (.loop s' p' lab2 e2 d2)) .no):=fun m w u args B hr hu ha hB=>by
  cases hu with | yld hm =>
  rename_i l sz
  obtain ⟨i',sz',o,k1,k2,k3⟩:=hr.blk _ _ hg
  rw [hm] at k1; injection k1 with k1; injection k1 with k1 k4
  subst k1 k4
  cases k3 with | loop b1 b2 b3 b4 =>
  rename_i di ds L' tmps
  rw [hL] at b1; injection b1 with b1; subst b1
  have hsz : args.size = L.ps.size:=by rw [hps]; have:=ha.len; simp at this; exact this.symm
  have hlt : ∀ t,t ∈ L.ps.toList → t < tmps.size:=fun t ht=>Nat.lt_of_lt_of_le (hpt t ht) b3
  obtain ⟨er0,ersz⟩:=roundE_ok L.ps.toList ha hlt b2
  refine ⟨.round l L.fn ((L.ps.zip args).foldl (fun tmps x=>tmps.setIfInBounds x.1 x.2) tmps) L.asg L.body,_,?_,.round _ _ _ _ _,fun fr cs hmode=>?_⟩
  · simp only [callS,Deferred.ofValue,Sem.run_bind,Sem.run_pure,Result.andThen_ok,invoke,Instr.yield,run_getLoop k2]
    rw [if_neg (by simpa using hsz),Array.empty_append]
    rfl
  have hz : (L.ps.zip args).foldl (fun tmps x=>tmps.setIfInBounds x.1 x.2) tmps = (L.ps.toList.zip args.toList).foldl (fun tmps x=>tmps.setIfInBounds x.1 x.2) tmps:=by
    rw [← Array.foldl_toList,Array.toList_zip]
  rw [← hz] at er0 ersz
  generalize htm : (L.ps.zip args).foldl (fun tmps x=>tmps.setIfInBounds x.1 x.2) tmps = tm at er0 ersz
  obtain ⟨m1,w1,act1,cs1,r1,r2,r3,r4,r5,r6,r7⟩:=hasg l m w { tmps:=tm,defers:=[] } (fr :: cs) (fr :: cs) [.beginRound,.code L.body] B hr (csr_round _) .nil (by rw [show ({ tmps:=tm,defers:=[] } : Act).tmps = tm from rfl,ersz]; exact b3) er0 hB
  rw [hpn1] at r3
  have c1:=r3.1
  subst c1
  have hm1:=r2.le _ _ hm
  obtain ⟨i1,sz1,o1,k1,k5,k6⟩:=r1.blk _ _ hg1
  rw [hm1] at k1; injection k1 with k1; injection k1 with k1 k7
  subst k1 k7
  have k6':=k6
  cases k6 with | loop y1 y2 y3 y4 =>
  rename_i di1 ds1 L1 tmps1
  have hbr : (Instr.beginRound l).run P w1 = .ok () (pw w1 l (.loop { state:=.busy,pending:=p1,fn:=L1.fn,tmps:=tmps1,params:=L1.ps,assign:=L1.asg,body:=L1.body,defers:=di1 })):=by
    unfold Instr.beginRound
    simp only [Sem.run_bind,run_getLoop k5,Result.andThen_ok,run_setObj_pw k5 (fun _ _ _ e=>by cases e),Sem.run_pure]
  obtain ⟨t1,t2⟩:=r1.turn (b':=.loop .busy p1 lab1 e1 d1) (o':=.loop { state:=.busy,pending:=p1,fn:=L1.fn,tmps:=tmps1,params:=L1.ps,assign:=L1.asg,body:=L1.body,defers:=di1 }) hg1 rfl hm1 (.loop y1 y2 y3 y4) rfl B
  obtain ⟨m2,w2,act2,cs2,z1,z2,z3,z4,z5,z6,z7⟩:=hbody l m1 _ act1 (fr :: cs) (fr :: cs) [] B t1 (by rw [hpn1]; exact csr_round _) r4 (by rw [r5,show ({ tmps:=tm,defers:=[] } : Act).tmps = tm from rfl,ersz]; exact b3) r6 (Nat.le_trans hB (Nat.le_trans r2.next t2.next))
  rw [hpn2] at z3
  have c2:=z3.1
  subst c2
  have hm2:=z2.le _ _ hm1
  obtain ⟨i2,sz2,o2,k1,k8,k9⟩:=z1.blk _ _ hg2
  rw [hm2] at k1; injection k1 with k1; injection k1 with k1 k10
  subst k1 k10
  cases k9 with | loop v1 v2 v3 v4 =>
  rename_i di2 ds2 L2 tmps2
  have her : ∀ jump : Option Code,(Instr.endRound l jump).run P w2 = .ok (.bool jump.isNone) (pw w2 l (.loop { state:=if jump.isNone then .ready else .done,pending:=jump,fn:=L2.fn,tmps:=tmps2,params:=L2.ps,assign:=L2.asg,body:=L2.body,defers:=di2 })):=fun jump=>by
    unfold Instr.endRound
    simp only [Sem.run_bind,run_getLoop k8,Result.andThen_ok,run_setObj_pw k8 (fun _ _ _ e=>by cases e),Sem.run_pure]
  obtain ⟨f1,f2⟩:=z1.turn (b':=.loop s' p' lab2 e2 d2) (o':=.loop { state:=s',pending:=p',fn:=L2.fn,tmps:=tmps2,params:=L2.ps,assign:=L2.asg,body:=L2.body,defers:=di2 }) hg2 rfl hm2 (.loop v1 v2 v3 v4) rfl B
  have hfr : Frame.round l L.fn tm L.asg L.body .normal = (roundB L.fn l).atR { tmps:=tm,defers:=[] } [.code L.asg,.beginRound,.code L.body]:=rfl
  have hbeg : step P (lone ((roundB L.fn l).atR act1 [.beginRound,.code L.body]) (fr :: cs) w1) = .next (lone ((roundB L.fn l).atR act1 [.code L.body]) (fr :: cs) _):=stepR_beginRound (b:=roundB L.fn l) (a:=act1) (k:=[.code L.body]) (cs:=fr :: cs) rfl hbr
  have front : Steps P (lone ((roundB L.fn l).atR { tmps:=tm,defers:=[] } [.code L.asg,.beginRound,.code L.body]) (fr :: cs) w) (lone ((roundB L.fn l).atR act1 [.code L.body]) (fr :: cs) (pw w1 l (.loop { state:=.busy,pending:=p1,fn:=L1.fn,tmps:=tmps1,params:=L1.ps,assign:=L1.asg,body:=L1.body,defers:=di1 }))):=Steps.trans r7 (.one hbeg)
  rw [hfr]
  have hgo:=(r2.trans t2).trans (z2.trans f2)
  cases x with
  | nrm =>
    injection hx with hx; injection hx with e1 e2; injection e2 with e2 e3
    subst e1 e2 e3
    exact ⟨m2,_,_,front.trans (Steps.trans z7 (.one (stepR_round_end (b:=roundB L.fn l) (c:=fr) rfl rfl (her none)))),.bool true,f1,hgo⟩
  | ret =>
    injection hx with hx; injection hx with e1 e2; injection e2 with e2 e3
    subst e1 e2 e3
    obtain ⟨k',z7⟩:=z7
    exact ⟨m2,_,_,front.trans (Steps.trans z7 (.one (stepR_round_ret (b:=roundB L.fn l) (c:=fr) rfl rfl (her (some .ret))))),.bool false,f1,hgo⟩
  | ext id =>
    injection hx with hx; injection hx with e1 e2; injection e2 with e2 e3
    subst e1 e2 e3
    obtain ⟨k',y7,z7⟩:=z7
    exact ⟨m2,_,_,front.trans (Steps.trans z7 (.one (stepR_round_exit (b:=roundB L.fn l) (c:=fr) rfl rfl (y7.trans rfl) (her (some (.exit id)))))),.bool false,f1,hgo⟩
  | pan v=>cases hx
  | gto l=>cases hx
end
end Am
end Go.Proofs.YtadbcnekkceoaaaGreatDoor
