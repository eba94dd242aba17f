/- A range over a function, outside of rounds. -/
import Derived.Test.YtadbcnekkceoaaaGreatDoorKOAmHg
import Derived.RangeFuncRecord
set_option linter.unusedVariables false
namespace Go.Proofs.YtadbcnekkceoaaaGreatDoor
namespace Am
section
variable {P : Program} {tb : Tb} {NN : Nat → Nat} {b : Frame} {N : Nat} {st : St}
theorem step_rf {a : Act} {k : List Item} {cs : List Frame} {w w1 : World} {g : Operand} {ps : Array Tmp} {asg body : Code} {nx : Next} {fr0 : Frame} {l : Nat} {mark : List Deferred}
    (he : (Instr.enterLoop b.fn a.tmps ps asg body b.roundOf).run P w = .ok (l,mark) w1) (hc : (callS (a.eval g) #[.func (.yield l) #[] #[]]).run P w1 = .ok nx w1) (hn : NxS P nx fr0) :
    step P (lone (b.atR a (.code (.rangeFunc g ps asg body) :: k)) cs w) = .next (lone fr0 (b.atR { a with defers:=mark ++ a.defers } (.inRangeFunc l :: k) :: cs) w1):=by
  have hev:=Frame.eval_atR b { a with defers:=mark ++ a.defers } (.inRangeFunc l :: k)
  simp only [Frame.atR] at hev
  have hc' : Sem.run P (do let d ← resolve ({ tmps:=a.tmps,defers:=mark ++ a.defers } : Act).eval { callee:=.value g,args:=#[.const (.func (.yield l) #[] #[])],argTypes:=#[] } 0; invoke d.target d.args) w1 = .ok nx w1:=by
    have hev2 : ({ tmps:=a.tmps,defers:=mark ++ a.defers } : Act).eval g = a.eval g:=by cases g <;> rfl
    simp only [resolve,hev2,List.map_toArray,List.map_cons,List.map_nil]
    exact hc
  rw [Sem.run_bind] at hc'
  cases hn with
  | enter f args=>exact step_lone_go (by simp [stepG,stepG.exec,Frame.atR,Sem.runT_eq,he,GStep.bare_after,stepG.apply,hev,Sem.run_bind,hc'])
  | round l' f tmps asg' body'=>exact step_lone_go (by simp [stepG,stepG.exec,Frame.atR,Sem.runT_eq,he,GStep.bare_after,stepG.apply,hev,Sem.run_bind,hc'])
theorem finish_irf {a : Act} {k : List Item} (l : Nat) (v : Value) : (b.atR a (.inRangeFunc l :: k)).finish v = b.atR a (.endRangeFunc l :: k):=by
  simp [Frame.finish,Frame.atR]
theorem step_erf {a : Act} {k : List Item} {cs : List Frame} {w w' : World} {l : Nat} {jump : Option Code} (h : (Instr.endLoop l).run P w = .ok jump w') :
    step P (lone (b.atR a (.endRangeFunc l :: k)) cs w) = .next (lone (b.atR a ((jump.map Item.code).toList ++ k)) cs w') :=
  step_lone_go (by simp [stepG,stepG.exec,Frame.atR,Sem.runT_eq,h,GStep.bare_after])
def rfH (h : H) (lab : Nat) (e : E) : H:=((h.res 2).set h.next (.dfd (some []))).set h.next.succ (.loop .ready none lab e h.next)
def rfF (h : H) (f : Fx) : Fx:={ f with dfs:=(.yld h.next,[]) :: f.dfs }
theorem rf_blocks {m : Mp} {h : H} {w : World} {e : E} {act : Act} {lab : Nat} {L : Lab} (hr : HR tb NN m h w) (hL : tb.lab lab = some L) (hfn : L.fn = b.fn) (he : ER tb m b.fn e act.tmps) (hN : NN b.fn ≤ act.tmps.size) {B : Nat} (hB : B ≤ h.next.nat) :
    ∃ m1,HR tb NN m1 (rfH h lab e) ((w.alloc (.deferred (some []))).alloc (.loop { state:=.ready,pending:=none,fn:=b.fn,tmps:=act.tmps,params:=L.ps,assign:=L.asg,body:=L.body,defers:=w.heap.size })) ∧
      Go B m h w m1 (rfH h lab e) ((w.alloc (.deferred (some []))).alloc (.loop { state:=.ready,pending:=none,fn:=b.fn,tmps:=act.tmps,params:=L.ps,assign:=L.asg,body:=L.body,defers:=w.heap.size })) ∧
      m1 h.next = some (w.heap.size,0) ∧ m1 h.next.succ = some (w.heap.size + 1,0):=by
  have n1 : m h.next = none:=hr.fresh _ (Nat.le_refl _)
  have n2 : m h.next.succ = none:=hr.fresh _ (by rw [Pos.nat_succ]; omega)
  have hnx : (h.res 2).next.nat = h.next.nat + 2:=Pos.nat_add _ _
  obtain ⟨r0,g0⟩:=hr.res 2 B
  obtain ⟨r1,g1⟩:=r0.fresh_blk (a:=h.next) n1 (by rw [hnx]; omega) hB (b:=.dfd (some [])) (o:=.deferred (some [])) (sz:=0) (fun _ _=>.dfd .nil) rfl
  have hp1 : (m.put h.next (w.heap.size,0)) h.next = some (w.heap.size,0):=Mp.put_same _ _ _
  have n2' : (m.put h.next (w.heap.size,0)) h.next.succ = none:=by
    rw [Mp.put_ne _ _ (fun e=>by have:=congrArg Pos.nat e; rw [Pos.nat_succ] at this; omega)]; exact n2
  obtain ⟨r2,g2⟩:=r1.fresh_blk (a:=h.next.succ) n2' (by show h.next.succ.nat < (h.res 2).next.nat; rw [hnx,Pos.nat_succ]; omega) (B:=B) (by rw [Pos.nat_succ]; omega)
    (b:=.loop .ready none lab e h.next) (o:=.loop { state:=.ready,pending:=none,fn:=b.fn,tmps:=act.tmps,params:=L.ps,assign:=L.asg,body:=L.body,defers:=w.heap.size }) (sz:=0) (fun m' hm'=>by
      have:=BR.loop (tb:=tb) (N:=NN) (sz:=0) (st:=.ready) (pend:=none) hL (by rw [hfn]; exact he.mono (Mp.le_trans g1.le hm')) (by rw [hfn]; exact hN) (hm' _ _ hp1)
      rw [hfn] at this
      exact this) rfl
  refine ⟨_,r2,g0.trans (g1.trans g2),g2.le _ _ hp1,?_⟩
  rw [Mp.put_same,nw_size]
def rfEnd (p : Option Code) : Option X :=
  match p with
  | none=>some .nrm
  | some .ret=>some .ret
  | some (.exit id)=>some (.ext id)
  | _=>none
theorem fol_rf (hb : b.roundOf = none) {g : Operand} {lab : Nat} {L : Lab} (hL : tb.lab lab = some L) (hfn : L.fn = b.fn) {h2 : H} {pn2 : Pn} {v : AV} {s : LoopState} {p : Option Code} {lab' : Nat} {e' : E} {d' : Pos} {x : X}
    (hc : CalOk P tb NN (lkS tb b.fn st.e g) [.yld st.h.next.succ] (rfH st.h lab st.e) (.ret v h2 pn2)) (hg : h2.get st.h.next.succ = some (.loop s p lab' e' d')) (hs : s ≠ .busy) (hx : rfEnd p = some x) :
    Fol P tb NN b (NN b.fn) (.rangeFunc g L.ps L.asg L.body) st x ⟨st.e,h2.set st.h.next.succ (.loop .exhausted p lab' e' d'),rfF st.h st.f⟩:=fun m w act cs0 cs k B hr hcs hdf hN he hB=>by
  obtain ⟨m1,r1,g1,p1,p2⟩:=rf_blocks (b:=b) hr hL hfn he hN hB
  have hen:=run_enterLoop_outer (P:=P) (w:=w) b.fn act.tmps L.ps L.asg L.body
  rw [← hb] at hen
  obtain ⟨nx,fr0,q1,q2,q3⟩:=hc m1 _ (act.eval g) #[.func (.yield (w.heap.size + 1)) #[] #[]] B r1 ((lkS_ok he g).mono g1.le) (.cons (.yld p2) .nil) (Nat.le_trans hB g1.next)
  have hst:=step_rf (b:=b) (k:=k) (cs:=cs) hen q1 q2
  obtain ⟨m',w',u,z1,z2,z3,z4⟩:=q3 (b.atR { act with defers:=[{ target:=.collected w.heap.size,args:=#[] }] ++ act.defers } (.inRangeFunc (w.heap.size + 1) :: k)) cs rfl
  rw [finish_irf] at z1
  have hm':=z4.le _ _ p2
  obtain ⟨i,sz,o,k1,k2,k3⟩:=z3.blk _ _ hg
  rw [hm'] at k1; injection k1 with k1; injection k1 with k1 k4
  subst k1 k4
  cases k3 with | loop b1 b2 b3 b4 =>
  rename_i di ds L' tmps
  have hel:=run_endLoop (P:=P) k2 hs
  obtain ⟨t1,t2⟩:=z3.turn (b':=.loop .exhausted p lab' e' d') (o':=.loop { state:=.exhausted,pending:=p,fn:=L'.fn,tmps:=tmps,params:=L'.ps,assign:=L'.asg,body:=L'.body,defers:=di }) hg rfl hm' (.loop b1 b2 b3 b4) rfl B
  have hend:=step_erf (P:=P) (b:=b) (a:={ act with defers:=[{ target:=.collected w.heap.size,args:=#[] }] ++ act.defers }) (k:=k) (cs:=cs) hel
  have hgo:=g1.trans (z4.trans t2)
  refine ⟨m',_,{ act with defers:=[{ target:=.collected w.heap.size,args:=#[] }] ++ act.defers },cs,t1,hgo,hcs.mono hgo.le,.cons (.coll (z4.le _ _ p1)) (hdf.mono hgo.le),rfl,he.mono hgo.le,?_⟩
  have front:=Steps.head hst (z1.trans (.one hend))
  unfold rfEnd at hx
  split at hx
  · injection hx with hx; subst hx; exact front
  · injection hx with hx; subst hx; exact ⟨k,front⟩
  · injection hx with hx; subst hx; exact ⟨k,rfl,front⟩
  · cases hx
theorem fol_rf_pan (hb : b.roundOf = none) {g : Operand} {lab : Nat} {L : Lab} (hL : tb.lab lab = some L) (hfn : L.fn = b.fn) {h2 : H} {pn2 : Pn} {v : AV}
    (hc : CalOk P tb NN (lkS tb b.fn st.e g) [.yld st.h.next.succ] (rfH st.h lab st.e) (.pan v h2 pn2)) :
    Fol P tb NN b (NN b.fn) (.rangeFunc g L.ps L.asg L.body) st (.pan v) ⟨st.e,h2,rfF st.h st.f⟩:=fun m w act cs0 cs k B hr hcs hdf hN he hB=>by
  obtain ⟨m1,r1,g1,p1,p2⟩:=rf_blocks (b:=b) hr hL hfn he hN hB
  have hen:=run_enterLoop_outer (P:=P) (w:=w) b.fn act.tmps L.ps L.asg L.body
  rw [← hb] at hen
  obtain ⟨nx,fr0,q1,q2,q3⟩:=hc m1 _ (act.eval g) #[.func (.yield (w.heap.size + 1)) #[] #[]] B r1 ((lkS_ok he g).mono g1.le) (.cons (.yld p2) .nil) (Nat.le_trans hB g1.next)
  have hst:=step_rf (b:=b) (k:=k) (cs:=cs) hen q1 q2
  obtain ⟨m',w',u,z1,z2,z3,z4⟩:=q3 (b.atR { act with defers:=[{ target:=.collected w.heap.size,args:=#[] }] ++ act.defers } (.inRangeFunc (w.heap.size + 1) :: k)) cs rfl
  have hgo:=g1.trans z4
  exact ⟨m',w',{ act with defers:=[{ target:=.collected w.heap.size,args:=#[] }] ++ act.defers },cs,z3,hgo,hcs.mono hgo.le,.cons (.coll (z4.le _ _ p1)) (hdf.mono hgo.le),rfl,he.mono hgo.le,_,u,z2,.head hst z1⟩
end
end Am
end Go.Proofs.YtadbcnekkceoaaaGreatDoor
namespace Go.Proofs.YtadbcnekkceoaaaGreatDoor
namespace Am
abbrev CallF:=Bool → AV → List AV → Pn → H → Option CRes
def rowH (f : Fx) : Option (AV × H) → Option HRes | some (v,h')=>some (.val v h' f) | none=>none
def rowF (P : Program) (op : Op) (lk : Operand → AV) (h : H) (a : Pos) (f : Fx) : Option HRes:=rowH f (hardF P op lk h a)
def HRes.of (f : Fx) : CRes → HRes | .ret v h' _=>.val v h' f | .pan v h' _=>.pan v h' f
def hxF (P : Program) (rnd : Bool) (call : CallF) : Hx:=fun o lk h a f =>
  match o.op with
  | .panic x=>(match lk x with | .ifc t v=>some (.pan (.ifc t v) h f) | _=>none)
  | .defer c=>(match rnd with
    | true=>none
    | false=>match c.callee with
      | .value g=>(match lk g with | .fn n x y=>some (.val (.tup []) h { f with dfs:=(.fn n x y,c.args.toList.map lk) :: f.dfs }) | _=>none)
      | _=>none)
  | .call c=>(match c.callee with
    | .value gx=>(match call false (lk gx) (c.args.toList.map lk) .no h with | some r=>some (.of f r) | none=>none)
    | .builtin .recover=>(match rnd with | true=>none | false=>some (.val f.pn.gives.1 h { f with pn:=f.pn.gives.2 }))
    | _=>rowF P o.op lk h a f)
  | _=>rowF P o.op lk h a f
section
variable {P : Program} {tb : Tb} {NN : Nat → Nat} {call : CallF} {rnd : Bool}
theorem hxF_store : HxStore P (hxF P rnd call):=fun o t p x ho lk h a f=>by
  unfold hxF
  rw [ho]
  show rowF P (.store t p x) lk h a f = _
  unfold rowF rowH
  cases hardF P (.store t p x) lk h a <;> rfl
theorem rowF_ok {b : Frame} {o : Oper} {lk : Operand → AV} {h : H} {a : Pos} {f : Fx} {r : HRes} (hv : rowF P o.op lk h a f = some r) {m : Mp} {w : World} {act : Act} {k : List Item} {cs0 cs : List Frame} {ops : Array Oper} {i : Nat} {rest : List Nat} {B : Nat}
    (hr : HR tb NN m h w) (hl : ∀ x,VR m (lk x) (act.eval x)) (ha : m a = none) (hn : a.nat < h.next.nat) (hB : B ≤ a.nat) (hcs : CsR m b cs0 f.pn cs) (hdf : DfRs m f.dfs act.defers) (ho : ops[i]? = some o) (hw : Region.wanted o (yielded ops act.tmps) = true) :
    HxGoal P tb NN m h w b act k cs0 cs ops i o rest a B r:=by
  unfold rowF rowH at hv
  split at hv
  · next v h' hh=>injection hv with hv; subst hv; exact row_goal hh hr hl ha hn hB hcs hdf ho hw
  · cases hv
theorem hxF_ok {b : Frame} (hb : rnd = false → b.roundOf = none) (hcall : ∀ c as h r,call false c as .no h = some r → CalOk P tb NN c as h r) : HxOk P tb NN b (hxF P rnd call):=fun o lk h a f r hv m w act k cs0 cs ops i rest B h1 h2 h3 h4 h5 h6 h7 h8 h9=>by
  have row : rowF P o.op lk h a f = some r → HxGoal P tb NN m h w b act k cs0 cs ops i o rest a B r:=fun hh=>rowF_ok hh h1 h2 h3 h4 h5 h6 h7 h8 h9
  unfold hxF at hv
  split at hv
  · next x hop =>
    split at hv
    · next t v hx=>injection hv with hv; subst hv; exact panic_goal hop hx h1 h2 h6 h7 h8 h9
    · cases hv
  · next c hop =>
    split at hv
    · cases hv
    · split at hv
      · next g hc =>
        split at hv
        · next n x y hg=>injection hv with hv; subst hv; exact defer_goal hop hc (hb rfl) hg h1 h2 h6 h7 h8 h9
        · cases hv
      · cases hv
  · next c hop =>
    split at hv
    · next gx hc =>
      split at hv
      · next r' hr' =>
        injection hv with hv; subst hv
        have:=cal_goal (k:=k) (rest:=rest) (a:=a) hop hc (hcall _ _ _ _ hr') h1 h2 (show B ≤ h.next.nat by omega) h6 h7 h8 h9
        cases r' <;> exact this
      · cases hv
    · next hc =>
      split at hv
      · cases hv
      · injection hv with hv; subst hv; exact recover_goal (lk:=lk) hop hc (hb rfl) h1 h6 h7 h8 h9
    · exact row hv
  · exact row hv
end
def loopF (body : St → Option (X × St)) : Nat → St → Option (X × St)
  | 0,_=>none
  | n + 1,st=>match body st with
    | some (.nrm,st1)=>loopF body n st1
    | r=>r
def scopeF (c : Code) (at_ : Nat → St → Option (X × St)) : Nat → Option (X × St) → Option (X × St)
  | 0,_=>none
  | n + 1,r=>match r with
    | some (.gto l,st1)=>(match findLabel c l with | some _=>scopeF c at_ n (at_ l st1) | none=>some (.gto l,st1))
    | r=>r
def newO (P : Program) (o : Oper) : Bool:=newK (kindOf P o.op)
def ixF (P : Program) : List Oper → Nat → Nat
  | [],_=>0
  | _ :: _,0=>0
  | o :: l,i + 1=>bif newO P o then Nat.succ (ixF P l i) else ixF P l i
def nrOf (P : Program) : List Oper → Nat
  | []=>0
  | o :: l=>bif newO P o then Nat.succ (nrOf P l) else nrOf P l
def rgOf (P : Program) (tb : Tb) (fn : Nat) (ops : List Oper) (draw : Bool) : Rg:=⟨ops,preOf ops draw,tb.slot fn,ixF P ops,nrOf P ops⟩
def regF (P : Program) (tb : Tb) (fn : Nat) (hx : Hx) (ops : List Oper) (draw : Bool) (st : St) : Option (X × St) :=
  match (rgOf P tb fn ops draw).run P hx st.h.next st.e (plan P ops (preOf ops draw)) ⟨⟨[],[]⟩,st.h.res (nrOf P ops),st.f⟩ with
  | some out=>some (out.toX,out.toSt (rgOf P tb fn ops draw) st.e)
  | none=>none
def rfN : Code → Nat
  | .seq a b=>Nat.add (rfN a) (rfN b)
  | .cond _ a b=>Nat.add (rfN a) (rfN b)
  | .block _ b | .loop b | .scope b=>rfN b
  | .rangeFunc ..=>1
  | _=>0
def labKey (fn i : Nat) : Nat:=Nat.add (Nat.mul fn 64) i
def rfF2 (call : CallF) (lk : Operand → AV) (g : Operand) (lab : Nat) (st : St) : Option (X × St) :=
  match call false (lk g) [.yld st.h.next.succ] .no (rfH st.h lab st.e) with
  | some (.ret _ h2 _)=>(match h2.get st.h.next.succ with
    | some (.loop s p lab' e' d')=>(match s with
      | .busy=>none
      | _=>match rfEnd p with | some x=>some (x,⟨st.e,h2.set st.h.next.succ (.loop .exhausted p lab' e' d'),rfF st.h st.f⟩) | none=>none)
    | _=>none)
  | some (.pan v h2 _)=>some (.pan v,⟨st.e,h2,rfF st.h st.f⟩)
  | none=>none
section
variable (P : Program) (tb : Tb) (call : CallF) (fn : Nat) (rnd : Bool) (N : Nat)
mutual
def exec : Nat → Code → St → Option (X × St)
  | _,.skip,st=>some (.nrm,st)
  | _,.label _,st=>some (.nrm,st)
  | _,.ret,st=>some (.ret,st)
  | _,.exit id,st=>some (.ext id,st)
  | _,.goto l,st=>some (.gto l,st)
  | i,.seq a c,st=>match exec i a st with
    | some (.nrm,st1)=>exec (Nat.add i (rfN a)) c st1
    | r=>r
  | i,.cond c p q,st=>match lkS tb fn st.e c with
    | .bool true=>exec i p st
    | .bool false=>exec (Nat.add i (rfN p)) q st
    | _=>none
  | i,.block id c,st=>match exec i c st with | some (x,st1)=>some (x.block id,st1) | none=>none
  | i,.loop c,st=>loopF (exec i c) N st
  | i,.scope c,st=>scopeF c (fun l=>execAt i l c) N (exec i c st)
  | _,.region _ ops draw,st=>regF P tb fn (hxF P rnd call) ops.toList draw st
  | i,.rangeFunc g _ _ _,st=>match rnd with | true=>none | false=>rfF2 call (lkS tb fn st.e) g (labKey fn i) st
  | _,_,_=>none
def execAt : Nat → Nat → Code → St → Option (X × St)
  | i,l,.seq a c,st=>match findLabel a l with
    | some _=>(match execAt i l a st with
      | some (.nrm,st1)=>exec (Nat.add i (rfN a)) c st1
      | r=>r)
    | none=>execAt (Nat.add i (rfN a)) l c st
  | _,_,.label _,st=>some (.nrm,st)
  | _,_,_,_=>none
end
end
def CodeOk (P : Program) (tb : Tb) (fn N : Nat) : Nat → Code → Prop
  | i,.seq a c=>CodeOk P tb fn N i a ∧ CodeOk P tb fn N (Nat.add i (rfN a)) c
  | i,.cond _ p q=>CodeOk P tb fn N i p ∧ CodeOk P tb fn N (Nat.add i (rfN p)) q
  | i,.block _ c=>CodeOk P tb fn N i c
  | i,.loop c=>CodeOk P tb fn N i c
  | i,.scope c=>CodeOk P tb fn N i c
  | _,.region _ ops draw=>(rgOf P tb fn ops.toList draw).chk N draw (plan P ops.toList (preOf ops.toList draw)) = true
  | i,.rangeFunc _ ps a c=>tb.lab (labKey fn i) = some ⟨fn,ps,a,c⟩
  | _,_=>True
set_option linter.unusedSectionVars false
section
variable {P : Program} {tb : Tb} {NN : Nat → Nat} {b : Frame} {call : CallF} {rnd : Bool} {N : Nat}
theorem rfF2_ok (hb : b.roundOf = none) (hcall : ∀ c as h r,call false c as .no h = some r → CalOk P tb NN c as h r) {g : Operand} {lab : Nat} {L : Lab} (hL : tb.lab lab = some L) (hfn : L.fn = b.fn) {st st' : St} {x : X} (h : rfF2 call (lkS tb b.fn st.e) g lab st = some (x,st')) :
    Fol P tb NN b (NN b.fn) (.rangeFunc g L.ps L.asg L.body) st x st':=by
  unfold rfF2 at h
  split at h
  · next v h2 pn2 hc =>
    split at h
    · next s p lab' e' d' hg =>
      have key : s ≠ .busy → (match rfEnd p with | some x=>some (x,(⟨st.e,h2.set st.h.next.succ (.loop .exhausted p lab' e' d'),rfF st.h st.f⟩ : St)) | none=>none) = some (x,st') → Fol P tb NN b (NN b.fn) (.rangeFunc g L.ps L.asg L.body) st x st':=fun hs h=>by
        split at h
        · next x' hx=>injection h with h; injection h with h1 h3; subst h1 h3; exact fol_rf hb hL hfn (hcall _ _ _ _ hc) hg hs hx
        · cases h
      split at h
      · cases h
      · next hs=>exact key (fun e=>hs e) h
    · cases h
  · next v h2 pn2 hc=>injection h with h; injection h with h1 h3; subst h1 h3; exact fol_rf_pan hb hL hfn (hcall _ _ _ _ hc)
  · cases h
theorem loopF_ok {body : St → Option (X × St)} {c : Code} {M : Nat} (h : ∀ st x st',body st = some (x,st') → Fol P tb NN b M c st x st') : ∀ (n : Nat) (st : St) (x : X) (st' : St),loopF body n st = some (x,st') → FolL P tb NN b M c st x st'
  | 0,_,_,_,hh=>by cases hh
  | n + 1,st,x,st',hh=>by
    rw [loopF] at hh
    split at hh
    · next st1 h1=>exact folL_go (h _ _ _ h1) (loopF_ok h n _ _ _ hh)
    · next hn=>exact folL_x (h _ _ _ hh) (fun e=>by subst e; exact hn _ hh)
def FolS (P : Program) (tb : Tb) (NN : Nat → Nat) (b : Frame) (N : Nat) (c0 c : Code) (st : St) (x : X) (st' : St) : Prop :=
  ∀ (m : Mp) (w : World) (act : Act) (cs0 cs : List Frame) (k : List Item) (B : Nat),HR tb NN m st.h w → CsR m b cs0 st.f.pn cs → DfRs m st.f.dfs act.defers → N ≤ act.tmps.size → ER tb m b.fn st.e act.tmps → B ≤ st.h.next.nat →
    ExGoal P tb NN b m st.h w B act.tmps.size cs0 k (lone (b.atR act (.code c :: .inScope c0 :: k)) cs w) x st'
theorem step_inScope {a : Act} {k : List Item} {cs : List Frame} {w : World} {c : Code} : step P (lone (b.atR a (.inScope c :: k)) cs w) = .next (lone (b.atR a k) cs w) :=
  step_lone_go (by simp [stepG,stepG.exec,Frame.atR])
theorem step_scope {a : Act} {k : List Item} {cs : List Frame} {w : World} {c : Code} : step P (lone (b.atR a (.code (.scope c) :: k)) cs w) = .next (lone (b.atR a (.code c :: .inScope c :: k)) cs w) :=
  step_lone_go (by simp [stepG,stepG.exec,Frame.atR])
theorem fol_scope {c : Code} {M : Nat} {st st' : St} {x : X} (h : FolS P tb NN b M c c st x st') : Fol P tb NN b M (.scope c) st x st':=fun m w act cs0 cs k B hr hcs hdf hN he hB=>(h m w act cs0 cs k B hr hcs hdf hN he hB).head step_scope
theorem folS_go {c0 c rest : Code} {M : Nat} {st st1 st' : St} {x : X} {l : Nat} (h : Fol P tb NN b M c st (.gto l) st1) (hl : findLabel c0 l = some rest) (h2 : FolS P tb NN b M c0 rest st1 x st') : FolS P tb NN b M c0 c st x st':=fun m w act cs0 cs k B hr hcs hdf hN he hB=>by
  obtain ⟨m2,w2,act2,cs2,s1,s2,s3,s4,s5,s6,k',s7,s8⟩:=h m w act cs0 cs (.inScope c0 :: k) B hr hcs hdf hN he hB
  have hg : gotoIn l k' = some (.code rest :: .inScope c0 :: k):=by rw [s7]; simp [gotoIn,hl]
  obtain ⟨m3,w3,act3,cs3,t1,t2,t3,t4,t5,t6,t7⟩:=h2 m2 w2 act2 cs0 cs2 k B s1 s3 s4 (by omega) s6 (Nat.le_trans hB s2.next)
  exact ⟨m3,w3,act3,cs3,t1,s2.trans t2,t3,t4,t5.trans s5,t6,Arr.of_steps (s8.trans (.one (stepR_goto hg))) t7⟩
theorem folS_x {c0 c : Code} {M : Nat} {st st1 : St} {x : X} (h : Fol P tb NN b M c st x st1) (hx : ∀ l,x = .gto l → findLabel c0 l = none) : FolS P tb NN b M c0 c st x st1:=fun m w act cs0 cs k B hr hcs hdf hN he hB=>by
  obtain ⟨m2,w2,act2,cs2,s1,s2,s3,s4,s5,s6,s7⟩:=h m w act cs0 cs (.inScope c0 :: k) B hr hcs hdf hN he hB
  refine ⟨m2,w2,act2,cs2,s1,s2,s3,s4,s5,s6,?_⟩
  cases x with
  | nrm=>exact s7.trans (.one step_inScope)
  | ret=>exact s7
  | pan v=>exact s7
  | ext j=>obtain ⟨k',g1,g2⟩:=s7; exact ⟨k',g1.trans rfl,g2⟩
  | gto l =>
    obtain ⟨k',g1,g2⟩:=s7
    exact ⟨k',g1.trans (by simp [gotoIn,hx l rfl]),g2⟩
theorem scopeF_ok {c0 : Code} {at_ : Nat → St → Option (X × St)} {M : Nat} (h : ∀ l st x st',at_ l st = some (x,st') → ∀ rest,findLabel c0 l = some rest → Fol P tb NN b M rest st x st') : ∀ (n : Nat) (c : Code) (st : St) (r : Option (X × St)) (x : X) (st' : St),(∀ x1 st1,r = some (x1,st1) → Fol P tb NN b M c st x1 st1) → scopeF c0 at_ n r = some (x,st') → FolS P tb NN b M c0 c st x st'
  | 0,_,_,_,_,_,_,hh=>by cases hh
  | n + 1,c,st,r,x,st',hr,hh=>by
    cases r with
    | none=>cases hh
    | some p =>
      obtain ⟨x1,st1⟩:=p
      have other : (∀ l,x1 ≠ .gto l) → (some (x1,st1) : Option (X × St)) = some (x,st') → FolS P tb NN b M c0 c st x st':=fun hne hh=>by
        injection hh with hh; injection hh with h1 h2; subst h1 h2
        exact folS_x (hr _ _ rfl) (fun l e=>(hne l e).elim)
      cases x1 with
      | gto l =>
        simp only [scopeF] at hh
        split at hh
        · next rest hl=>exact folS_go (hr _ _ rfl) hl (scopeF_ok h n rest st1 _ x st' (fun x1 st2 h2=>h l st1 x1 st2 h2 rest hl) hh)
        · next hl=>injection hh with hh; injection hh with h1 h2; subst h1 h2; exact folS_x (hr _ _ rfl) (fun l' e=>by injection e with e; subst e; exact hl)
      | nrm=>exact other (fun l e=>by cases e) hh
      | ret=>exact other (fun l e=>by cases e) hh
      | ext id=>exact other (fun l e=>by cases e) hh
      | pan v=>exact other (fun l e=>by cases e) hh
mutual
theorem exec_ok (hmix : P.follows .mixedOrders = true) (hb : rnd = false → b.roundOf = none) (hcall : ∀ c as h r,call false c as .no h = some r → CalOk P tb NN c as h r) : ∀ (c : Code) (i : Nat) (st : St) (x : X) (st' : St),CodeOk P tb b.fn (NN b.fn) i c → exec P tb call b.fn rnd N i c st = some (x,st') → Fol P tb NN b (NN b.fn) c st x st'
  | .skip,i,st,x,st',_,h=>by rw [exec] at h; injection h with h; injection h with h1 h2; subst h1 h2; exact fol_skip
  | .label _,i,st,x,st',_,h=>by rw [exec] at h; injection h with h; injection h with h1 h2; subst h1 h2; exact fol_label
  | .ret,i,st,x,st',_,h=>by rw [exec] at h; injection h with h; injection h with h1 h2; subst h1 h2; exact fol_ret
  | .exit _,i,st,x,st',_,h=>by rw [exec] at h; injection h with h; injection h with h1 h2; subst h1 h2; exact fol_exit
  | .goto _,i,st,x,st',_,h=>by rw [exec] at h; injection h with h; injection h with h1 h2; subst h1 h2; exact fol_goto
  | .seq a c,i,st,x,st',hc,h=>by
    rw [exec] at h
    rw [CodeOk] at hc
    split at h
    · next st1 h1=>exact fol_seq (exec_ok hmix hb hcall a i st .nrm st1 hc.1 h1) (exec_ok hmix hb hcall c _ st1 x st' hc.2 h)
    · next hn=>exact fol_seq_x (exec_ok hmix hb hcall a i st x st' hc.1 h) (fun e=>by subst e; exact hn _ h)
  | .cond c p q,i,st,x,st',hc,h=>by
    rw [exec] at h
    rw [CodeOk] at hc
    split at h
    · next h1=>exact fol_cond (t:=true) h1 (exec_ok hmix hb hcall p i st x st' hc.1 h)
    · next h1=>exact fol_cond (t:=false) h1 (exec_ok hmix hb hcall q _ st x st' hc.2 h)
    · cases h
  | .block id c,i,st,x,st',hc,h=>by
    rw [exec] at h
    rw [CodeOk] at hc
    split at h
    · next x1 st1 h1=>injection h with h; injection h with h2 h3; subst h2 h3; exact fol_block (exec_ok hmix hb hcall c i st x1 st1 hc h1)
    · cases h
  | .loop c,i,st,x,st',hc,h=>by
    rw [exec] at h
    rw [CodeOk] at hc
    exact fol_loop (loopF_ok (fun st x st' hh=>exec_ok hmix hb hcall c i st x st' hc hh) N st x st' h)
  | .scope c,i,st,x,st',hc,h=>by
    rw [exec] at h
    rw [CodeOk] at hc
    exact fol_scope (scopeF_ok (fun l st x st' hh rest hl=>execAt_ok hmix hb hcall c i l st x st' rest hc hl hh) N c st _ x st' (fun x1 st1 h1=>exec_ok hmix hb hcall c i st x1 st1 hc h1) h)
  | .region id ops draw,i,st,x,st',hc,h=>by
    rw [exec] at h
    rw [CodeOk] at hc
    unfold regF at h
    split at h
    · next out hrun =>
      injection h with h; injection h with h1 h2; subst h1 h2
      have:=fol_region (id:=id) (st:=st) hmix hxF_store (hxF_ok hb hcall) rfl hc hrun
      exact this
    · cases h
  | .rangeFunc g ps a c,i,st,x,st',hc,h=>by
    rw [CodeOk] at hc
    cases rnd with
    | true=>simp only [exec] at h; cases h
    | false=>simp only [exec] at h; exact rfF2_ok (hb rfl) hcall hc rfl h
  | .refuse _,i,st,x,st',_,h=>by simp only [exec] at h; cases h
theorem execAt_ok (hmix : P.follows .mixedOrders = true) (hb : rnd = false → b.roundOf = none) (hcall : ∀ c as h r,call false c as .no h = some r → CalOk P tb NN c as h r) : ∀ (c : Code) (i l : Nat) (st : St) (x : X) (st' : St) (rest : Code),CodeOk P tb b.fn (NN b.fn) i c → findLabel c l = some rest → execAt P tb call b.fn rnd N i l c st = some (x,st') → Fol P tb NN b (NN b.fn) rest st x st'
  | .seq a c,i,l,st,x,st',rest,hc,hl,h=>by
    rw [execAt] at h
    rw [CodeOk] at hc
    rw [findLabel] at hl
    split at h
    · next r hr =>
      rw [hr] at hl
      injection hl with hl; subst hl
      split at h
      · next st1 h1=>exact fol_seq (execAt_ok hmix hb hcall a i l st .nrm st1 r hc.1 hr h1) (exec_ok hmix hb hcall c _ st1 x st' hc.2 h)
      · next hn=>exact fol_seq_x (execAt_ok hmix hb hcall a i l st x st' r hc.1 hr h) (fun e=>by subst e; exact hn _ h)
    · next hr =>
      rw [hr] at hl
      exact execAt_ok hmix hb hcall c _ l st x st' rest hc.2 hl h
  | .label l',i,l,st,x,st',rest,hc,hl,h=>by
    rw [execAt] at h
    rw [findLabel] at hl
    split at hl
    · injection hl with hl; subst hl
      injection h with h; injection h with h1 h2; subst h1 h2
      exact fol_skip
    · cases hl
  | .skip,_,_,_,_,_,_,_,hl,_=>by simp [findLabel] at hl
  | .ret,_,_,_,_,_,_,_,hl,_=>by simp [findLabel] at hl
  | .exit _,_,_,_,_,_,_,_,hl,_=>by simp [findLabel] at hl
  | .goto _,_,_,_,_,_,_,_,hl,_=>by simp [findLabel] at hl
  | .cond _ _ _,_,_,_,_,_,_,_,hl,_=>by simp [findLabel] at hl
  | .block _ _,_,_,_,_,_,_,_,hl,_=>by simp [findLabel] at hl
  | .loop _,_,_,_,_,_,_,_,hl,_=>by simp [findLabel] at hl
  | .scope _,_,_,_,_,_,_,_,hl,_=>by simp [findLabel] at hl
  | .region _ _ _,_,_,_,_,_,_,_,hl,_=>by simp [findLabel] at hl
  | .rangeFunc _ _ _ _,_,_,_,_,_,_,_,hl,_=>by simp [findLabel] at hl
  | .refuse _,_,_,_,_,_,_,_,hl,_=>by simp [findLabel] at hl
end
end
end Am
end Go.Proofs.YtadbcnekkceoaaaGreatDoor
namespace Go.Proofs.YtadbcnekkceoaaaGreatDoor
namespace Am
def leaveF (P : Program) (tb : Tb) (call : CallF) (g : Nat) (rs : List ResultVar) : Nat → E → H → List (AV × List AV) → Option AV → Pn → Option CRes
  | 0,_,_,_,_,_=>none
  | _ + 1,e,h,[],none,pn=>(match resA P (lkS tb g e) h rs with | some r=>some (.ret (resV r) h pn) | none=>none)
  | _ + 1,_,h,[],some v,pn=>some (.pan v h pn)
  | n + 1,e,h,(c,as) :: dfs,md,pn=>match c with
    | .fn _ _ _=>(match call true c as (pnOf md) h with
      | some (.ret _ h1 pn1)=>leaveF P tb call g rs n e h1 dfs (mdOf md pn1) pn
      | _=>none)
    | .yld a=>(match as,h.get a with
      | [],some (.dfd (some l))=>leaveF P tb call g rs n e (h.set a (.dfd none)) (l ++ dfs) md pn
      | _,_=>none)
    | _=>none
def bodyF (P : Program) (tb : Tb) (call : CallF) (L : Nat) (g : Nat) (c : Code) (rs : List ResultVar) (as : List AV) (pn : Pn) (h : H) : Option CRes :=
  match exec P tb call g false L 0 c ⟨enterE tb g as 0 E.new,h,⟨[],pn⟩⟩ with
  | some (x,st)=>(match x.md with | some md=>leaveF P tb call g rs L st.e st.h st.f.dfs md st.f.pn | none=>none)
  | none=>none
def roundF (P : Program) (tb : Tb) (call : CallF) (L : Nat) (a : Pos) (as : List AV) (h : H) : Option CRes :=
  match h.get a with
  | some (.loop _ _ lab e _)=>(match tb.lab lab with
    | some ⟨fn,ps,asg,body⟩=>(match Nat.beq ps.size as.length with
      | true=>(match exec P tb call fn true L 0 asg ⟨roundE tb fn ps.toList as e,h,⟨[],.no⟩⟩ with
        | some (.nrm,⟨e1,h1,⟨dfs1,.no⟩⟩)=>(match h1.get a with
          | some (.loop .ready p1 lab1 e1' d1)=>(match exec P tb call fn true L 0 body ⟨e1,h1.set a (.loop .busy p1 lab1 e1' d1),⟨dfs1,.no⟩⟩ with
            | some (x,⟨_,h2,⟨_,.no⟩⟩)=>(match h2.get a,endR x with
              | some (.loop _ _ lab2 e2 d2),some (s',p',bb)=>some (.ret (.bool bb) (h2.set a (.loop s' p' lab2 e2 d2)) .no)
              | _,_=>none)
            | _=>none)
          | _=>none)
        | _=>none)
      | false=>none)
    | none=>none)
  | _=>none
structure Tbl where
  mac : Nat → Option (List AV → H → Option CRes)
  fns : Nat → Option (CallF → List AV → Pn → H → Option CRes)
  rnd : CallF → Pos → List AV → H → Option CRes
def callT (T : Tbl) : Nat → CallF
  | 0,_,_,_,_,_=>none
  | n + 1,df,c,as,pn,h=>match c with
    | .fn g x y=>(match df with
      | false=>(match (match T.mac g with | some F=>F (x ++ as ++ y) h | none=>none : Option CRes) with
        | some r=>some r
        | none=>(match T.fns g with | some F=>F (callT T n) (x ++ as ++ y) pn h | none=>none))
      | true=>(match T.fns g with | some F=>F (callT T n) (x ++ as ++ y) pn h | none=>none))
    | .yld a=>(match df with | false=>T.rnd (callT T n) a as h | true=>none)
    | _=>none
section
variable {P : Program} {tb : Tb} {NN : Nat → Nat} {call : CallF}
def DefOk (P : Program) (tb : Tb) (NN : Nat → Nat) (call : CallF) : Prop:=∀ g x y as pn h r,call true (.fn g x y) as pn h = some r → Bodied P g ∧ FnOk P tb NN g .deferred (x ++ as ++ y) pn h r
theorem leaveF_ok (hdef : DefOk P tb NN call) {b : Frame} {fn : Func} (hf : P.funcs[b.fn]? = some fn) : ∀ (n : Nat) (e : E) (h : H) (dfs : List (AV × List AV)) (md : Option AV) (pn : Pn) (r : CRes),leaveF P tb call b.fn fn.results.toList n e h dfs md pn = some r → LvOk P tb NN b e h dfs md pn r
  | 0,_,_,_,_,_,_,h=>by cases h
  | n + 1,e,h,[],none,pn,r,hh=>by
    simp only [leaveF] at hh
    split at hh
    · next rr hr=>injection hh with hh; subst hh; exact lv_ret hf hr
    · cases hh
  | n + 1,e,h,[],some v,pn,r,hh=>by
    simp only [leaveF] at hh
    injection hh with hh; subst hh; exact lv_pan hf
  | n + 1,e,h,(c,as) :: dfs,md,pn,r,hh=>by
    cases c with
    | fn g x y =>
      simp only [leaveF] at hh
      split at hh
      · next v h1 pn1 hc =>
        obtain ⟨q1,q2⟩:=hdef _ _ _ _ _ _ _ hc
        exact lv_call q1 q2 (leaveF_ok hdef hf n _ _ _ _ _ _ hh)
      · cases hh
    | yld a =>
      simp only [leaveF] at hh
      split at hh
      · next l hg=>exact lv_coll hg (leaveF_ok hdef hf n _ _ _ _ _ _ hh)
      · cases hh
    | _=>simp only [leaveF] at hh; cases hh
theorem bodyF_ok (hmix : P.follows .mixedOrders = true) (hcall : ∀ c as h r,call false c as .no h = some r → CalOk P tb NN c as h r) (hdef : DefOk P tb NN call) {L g : Nat} {fn : Func} {c : Code} (hf : P.funcs[g]? = some fn) (hb : fn.body = some c) (hN : NN g = fn.ntmps) (hok : CodeOk P tb g (NN g) 0 c) {as : List AV} {pn : Pn} {h : H} {r : CRes} (κ : CallKind)
    (hh : bodyF P tb call L g c fn.results.toList as pn h = some r) : FnOk P tb NN g κ as pn h r:=by
  unfold bodyF at hh
  split at hh
  · next x st hx =>
    split at hh
    · next md hmd =>
      have h1:=exec_ok (b:=baseOf g κ) (rnd:=false) hmix (fun _=>rfl) hcall c 0 _ _ _ hok hx
      have h2:=leaveF_ok (b:=baseOf g κ) hdef hf _ _ _ _ _ _ _ hh
      refine fn_ok hf hb ?_ hmd h2
      rw [← hN]
      exact h1
    · cases hh
  · cases hh
def LabOk (P : Program) (tb : Tb) (NN : Nat → Nat) : Prop:=∀ lab L,tb.lab lab = some L → (∀ t,t ∈ L.ps.toList → t < NN L.fn) ∧ CodeOk P tb L.fn (NN L.fn) 0 L.asg ∧ CodeOk P tb L.fn (NN L.fn) 0 L.body
theorem roundF_ok (hmix : P.follows .mixedOrders = true) (hcall : ∀ c as h r,call false c as .no h = some r → CalOk P tb NN c as h r) (hlab : LabOk P tb NN) {L : Nat} {a : Pos} {as : List AV} {h : H} {r : CRes} (hh : roundF P tb call L a as h = some r) : CalOk P tb NN (.yld a) as h r:=by
  unfold roundF at hh
  split at hh <;> try (cases hh; done)
  next s0 p0 lab e d hg =>
  split at hh <;> try (cases hh; done)
  next fn ps asg body hL =>
  obtain ⟨l1,l2,l3⟩:=hlab _ _ hL
  split at hh <;> try (cases hh; done)
  next hps =>
  split at hh <;> try (cases hh; done)
  next e1 h1 dfs1 hx1 =>
  split at hh <;> try (cases hh; done)
  next p1 lab1 e1' d1 hg1 =>
  split at hh <;> try (cases hh; done)
  next x e2 h2 dfs2 hx2 =>
  split at hh <;> try (cases hh; done)
  next s2 p2 lab2 e2' d2 s' p' bb hg2 hend =>
  injection hh with hh; subst hh
  exact cal_yld hg hL (Nat.eq_of_beq_eq_true hps) l1 (fun l=>exec_ok (b:=roundB fn l) (rnd:=true) hmix (fun e=>by cases e) hcall asg 0 _ _ _ l2 hx1) rfl hg1 (fun l=>exec_ok (b:=roundB fn l) (rnd:=true) hmix (fun e=>by cases e) hcall body 0 _ _ _ l3 hx2) rfl hg2 hend
end
structure TblOk (P : Program) (tb : Tb) (NN : Nat → Nat) (T : Tbl) : Prop where
  mac : ∀ g F,T.mac g = some F → ∀ x y as h r,F (x ++ as ++ y) h = some r → CalOk P tb NN (.fn g x y) as h r
  fns : ∀ g F,T.fns g = some F → Bodied P g ∧ ∃ fn c L,P.funcs[g]? = some fn ∧ fn.body = some c ∧ NN g = fn.ntmps ∧ CodeOk P tb g (NN g) 0 c ∧ ∀ call as pn h r,F call as pn h = some r → bodyF P tb call L g c fn.results.toList as pn h = some r
  rnd : ∃ L,∀ call a as h r,T.rnd call a as h = some r → roundF P tb call L a as h = some r
  lab : LabOk P tb NN
theorem callT_ok {P : Program} {tb : Tb} {NN : Nat → Nat} {T : Tbl} (hmix : P.follows .mixedOrders = true) (ok : TblOk P tb NN T) : ∀ n : Nat,(∀ c as h r,callT T n false c as .no h = some r → CalOk P tb NN c as h r) ∧ DefOk P tb NN (callT T n)
  | 0=>⟨fun _ _ _ _ h=>(by cases h),fun _ _ _ _ _ _ _ h=>(by cases h)⟩
  | n + 1=>by
    obtain ⟨ih1,ih2⟩:=callT_ok hmix ok n
    have fn : ∀ g F,T.fns g = some F → ∀ as pn h r κ,F (callT T n) as pn h = some r → Bodied P g ∧ FnOk P tb NN g κ as pn h r:=fun g F hg as pn h r κ hh=>by
      obtain ⟨q1,f,c,L,q2,q3,q4,q5,q6⟩:=ok.fns g F hg
      have hh:=q6 _ _ _ _ _ hh
      exact ⟨q1,bodyF_ok hmix ih1 ih2 q2 q3 q4 q5 κ hh⟩
    refine ⟨fun c as h r hh=>?_,fun g x y as pn h r hh=>?_⟩
    · cases c with
      | fn g x y =>
        simp only [callT] at hh
        split at hh
        · next r' hF =>
          injection hh with hh; subst hh
          split at hF
          · next F hg=>exact ok.mac g F hg x y as h _ hF
          · cases hF
        · split at hh
          · next F hF =>
            obtain ⟨q1,q2⟩:=fn g F hF _ _ _ _ .normal hh
            exact cal_fn q1 q2
          · cases hh
      | yld a =>
        simp only [callT] at hh
        obtain ⟨L,hL⟩:=ok.rnd
        exact roundF_ok hmix ih1 ok.lab (hL _ _ _ _ _ hh)
      | _=>simp only [callT] at hh; cases hh
    · simp only [callT] at hh
      split at hh
      · next F hF=>exact fn g F hF _ _ _ _ .deferred hh
      · cases hh
theorem callT_fn {P : Program} {tb : Tb} {NN : Nat → Nat} {T : Tbl} (hmix : P.follows .mixedOrders = true) (ok : TblOk P tb NN T) {g : Nat} (hm : T.mac g = none) : ∀ {n : Nat} {as : List AV} {h : H} {r : CRes},callT T n false (.fn g [] []) as .no h = some r → FnOk P tb NN g .normal as .no h r
  | 0,_,_,_,hh=>by cases hh
  | n + 1,as,h,r,hh=>by
    obtain ⟨ih1,ih2⟩:=callT_ok hmix ok n
    simp only [callT,hm,List.nil_append,List.append_nil] at hh
    split at hh
    · next F hF =>
      obtain ⟨q1,f,c,L,q2,q3,q4,q5,q6⟩:=ok.fns g F hF
      exact bodyF_ok hmix ih1 ih2 q2 q3 q4 q5 .normal (q6 _ _ _ _ _ hh)
    · cases hh
end Am
end Go.Proofs.YtadbcnekkceoaaaGreatDoor
