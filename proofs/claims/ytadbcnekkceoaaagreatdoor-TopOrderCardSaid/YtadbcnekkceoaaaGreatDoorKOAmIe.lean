/- Code as instructions. -/
import Derived.Test.YtadbcnekkceoaaaGreatDoorKOAmFr
set_option linter.unusedVariables false
namespace Go.Proofs.YtadbcnekkceoaaaGreatDoor
namespace Am
inductive IC
  | skip | ret | ext (id : Nat) | gto (l : Nat)
  | seq (a b : IC) | cond (x : Od) (p q : IC) | block (id : Nat) (b : IC) | loop (b : IC) | scope (b : IC) (l : Nat) (r : IC)
  | reg (nr : Nat) (is : List IStep) (outs : List (SP × Od))
  | rf (g : Od) (lab : Nat)
  | no
def outV (e0 : E) (l : List AV) : List (SP × Od) → E → E
  | [],e=>e
  | (p,n) :: outs,e=>outV e0 l outs (setP p (n.get e0 l) e)
def junkV : List (SP × Od) → E → E
  | [],e=>e
  | (p,_) :: ps,e=>junkV ps (setP p .junk e)
def scopeI (l : Nat) (at_ : St → Option (X × St)) : Nat → Option (X × St) → Option (X × St)
  | 0,_=>none
  | n + 1,r=>match r with
    | some (.gto l',st1)=>(match Nat.beq l l' with | true=>scopeI l at_ n (at_ st1) | false=>none)
    | r=>r
def rfI (call : CallF) (g : AV) (lab : Nat) (st : St) : Option (X × St) :=
  match call false g [.yld st.h.next.succ] .no (rfH st.h lab st.e) with
  | some (.ret _ h2 _)=>(match h2.get st.h.next.succ with
    | some (.loop s p lab' e' d')=>(match s with
      | .busy=>none
      | _=>match rfEnd p with | some x=>some (x,⟨st.e,h2.set st.h.next.succ (.loop .exhausted p lab' e' d'),rfF st.h st.f⟩) | none=>none)
    | _=>none)
  | some (.pan v h2 _)=>some (.pan v,⟨st.e,h2,rfF st.h st.f⟩)
  | none=>none
def regI (rnd : Bool) (call : CallF) (nr : Nat) (is : List IStep) (outs : List (SP × Od)) (st : St) : Option (X × St) :=
  match irS rnd call st.e st.h.next is [] [] (st.h.res nr) st.f with
  | some (.ok l h f)=>some (.nrm,⟨outV st.e l outs st.e,h,f⟩)
  | some (.pan v h f)=>some (.pan v,⟨junkV outs st.e,h,f⟩)
  | none=>none
section
variable (rnd : Bool) (call : CallF) (N : Nat)
def irun : IC → St → Option (X × St)
  | .skip,st=>some (.nrm,st)
  | .ret,st=>some (.ret,st)
  | .ext id,st=>some (.ext id,st)
  | .gto l,st=>some (.gto l,st)
  | .seq a c,st=>match irun a st with
    | some (.nrm,st1)=>irun c st1
    | r=>r
  | .cond x p q,st=>match x.get st.e [] with
    | .bool true=>irun p st
    | .bool false=>irun q st
    | _=>none
  | .block id c,st=>match irun c st with | some (x,st1)=>some (x.block id,st1) | none=>none
  | .loop c,st=>loopF (irun c) N st
  | .scope c l r,st=>scopeI l (irun r) N (irun c st)
  | .reg nr is outs,st=>regI rnd call nr is outs st
  | .rf g lab,st=>match rnd with | true=>none | false=>rfI call (g.get st.e []) lab st
  | .no,_=>none
end
def mkSeq (a b : IC) : IC:=match a with | .no=>.no | .skip=>b | a=>.seq a b
def mkCond (x : Od) (p q : IC) : IC:=match p,q with | .no,.no=>.no | p,q=>.cond x p q
def mkBlock (id : Nat) (b : IC) : IC:=match b with | .no=>.no | b=>.block id b
def mkLoop (b : IC) : IC:=match b with | .no=>.no | b=>.loop b
section
variable (P : Program) (tb : Tb) (fn : Nat) (live : Nat → Bool)
def cS : Operand → Od
  | .tmp t=>(match tb.slot fn t with | some s=>.s (SP.of s) | none=>.c .junk)
  | .const v=>.c (ofV v)
  | .global _=>.c .junk
  | .func f=>.c (.fn f [] [])
def cOuts (R : Rg) (env : SvE) (n : Nat) : List Oper → Nat → Option (List (SP × Od))
  | [],_=>some []
  | o :: l,i=>match o.dst with
    | some d=>(match R.slot d with
      | some s=>(match vfind env i,cOuts R env n l (Nat.succ i) with | some v,some r=>some ((SP.of s,v.od n) :: r) | _,_=>none)
      | none=>cOuts R env n l (Nat.succ i))
    | none=>cOuts R env n l (Nat.succ i)
def cReg (ops : List Oper) (draw : Bool) : IC :=
  let R:=rgOf P tb fn ops draw
  match cStages P R (plan P ops R.pm) [] 0 [] with
  | some (is,env,n)=>(match cOuts R env n ops 0 with | some outs=>.reg R.nr is outs | none=>.no)
  | none=>.no
def labelOf : Code → Option Nat
  | .seq a b=>(match labelOf a with | some l=>some l | none=>labelOf b)
  | .label l=>some l
  | _=>none
mutual
def cC : Nat → Code → IC
  | _,.skip=>.skip
  | _,.label _=>.skip
  | _,.ret=>.ret
  | _,.exit id=>.ext id
  | _,.goto l=>.gto l
  | i,.seq a c=>mkSeq (cC i a) (cC (Nat.add i (rfN a)) c)
  | i,.cond c p q=>mkCond (cS tb fn c) (cC i p) (cC (Nat.add i (rfN p)) q)
  | i,.block id c=>mkBlock id (cC i c)
  | i,.loop c=>mkLoop (cC i c)
  | i,.scope c=>(match labelOf c with | some l=>.scope (cC i c) l (cAt l i c) | none=>.scope (cC i c) 0 .no)
  | _,.region id ops draw=>(match live id with | true=>cReg P tb fn ops.toList draw | false=>.no)
  | i,.rangeFunc g _ _ _=>.rf (cS tb fn g) (labKey fn i)
  | _,.refuse _=>.no
def cAt (l : Nat) : Nat → Code → IC
  | i,.seq a c=>(match findLabel a l with
    | some _=>mkSeq (cAt l i a) (cC (Nat.add i (rfN a)) c)
    | none=>cAt l (Nat.add i (rfN a)) c)
  | _,.label l'=>(match Nat.beq l' l with | true=>.skip | false=>.no)
  | _,_=>.no
end
end
section
variable {P : Program} {tb : Tb} {fn : Nat} {live : Nat → Bool} {rnd : Bool} {call : CallF} {N : Nat}
theorem cS_ok (e : E) (x : Operand) : (cS tb fn x).get e [] = lkS tb fn e x:=by
  cases x with
  | tmp t=>unfold cS lkS; dsimp only; cases tb.slot fn t <;> rfl
  | _=>rfl
theorem outE_ok {R : Rg} {env : SvE} {e0 : E} {l : List AV} {vs : List (Nat × AV)} (hv : VsR e0 env l vs) : ∀ {ops : List Oper} {i : Nat} {outs : List (SP × Od)} {e : E},cOuts R env l.length ops i = some outs → R.outE (fun i=>match vfind vs i with | some v=>v | none=>.junk) ops i e = outV e0 l outs e
  | [],i,outs,e,h=>by simp only [cOuts] at h; injection h with h; subst h; rfl
  | o :: ops,i,outs,e,h=>by
    simp only [cOuts] at h
    simp only [Rg.outE]
    split at h
    · next d hd =>
      split at h
      · next s hs =>
        split at h <;> try (cases h; done)
        next n r hn hr =>
        injection h with h; subst h
        rw [hd]
        dsimp only
        rw [hs]
        dsimp only
        rw [hv.val,hn]
        exact outE_ok hv hr
      · next hs=>rw [hd]; dsimp only; rw [hs]; exact outE_ok hv h
    · next hd=>rw [hd]; exact outE_ok hv h
theorem outJ_ok {R : Rg} {env : SvE} {n : Nat} : ∀ {ops : List Oper} {i : Nat} {outs : List (SP × Od)} {e : E},cOuts R env n ops i = some outs → R.outE (fun _=>.junk) ops i e = junkV outs e
  | [],i,outs,e,h=>by simp only [cOuts] at h; injection h with h; subst h; rfl
  | o :: ops,i,outs,e,h=>by
    simp only [cOuts] at h
    simp only [Rg.outE]
    split at h
    · next d hd =>
      split at h
      · next s hs =>
        split at h <;> try (cases h; done)
        next n r hn hr =>
        injection h with h; subst h
        rw [hd]
        dsimp only
        rw [hs]
        exact outJ_ok hr
      · next hs=>rw [hd]; dsimp only; rw [hs]; exact outJ_ok h
    · next hd=>rw [hd]; exact outJ_ok h
theorem cReg_ok {ops : List Oper} {draw : Bool} {st : St} {r : X × St} (h : irun rnd call N (cReg P tb fn ops draw) st = some r) : regF P tb fn (hxF P rnd call) ops draw st = some r:=by
  unfold cReg at h
  dsimp only at h
  have v0 : VsR st.e [] [] []:=⟨fun _=>rfl,fun _ _ h=>by cases h⟩
  split at h
  · next is env n hc =>
    split at h
    · next outs ho =>
      simp only [irun] at h
      unfold regI at h
      unfold regF
      split at h
      · next l h' f' hr =>
        obtain ⟨out',q1,q2⟩:=cStages_ok hc (l:=[]) (lb:=[]) v0 rfl rfl hr
        cases q2 with | ok _ vs _ _ hv hl =>
        injection h with h; subst h
        have q1' : (rgOf P tb fn ops draw).run P (hxF P rnd call) st.h.next st.e (plan P ops (preOf ops draw)) ⟨⟨[],[]⟩,st.h.res (nrOf P ops),st.f⟩ = some _:=q1
        rw [q1']
        rw [← hl] at ho
        exact congrArg (fun e=>some (X.nrm,(⟨e,h',f'⟩ : St))) (outE_ok hv ho)
      · next v h' f' hr =>
        obtain ⟨out',q1,q2⟩:=cStages_ok hc (l:=[]) (lb:=[]) v0 rfl rfl hr
        cases q2 with | pan vs _ _ _ =>
        injection h with h; subst h
        have q1' : (rgOf P tb fn ops draw).run P (hxF P rnd call) st.h.next st.e (plan P ops (preOf ops draw)) ⟨⟨[],[]⟩,st.h.res (nrOf P ops),st.f⟩ = some _:=q1
        rw [q1']
        exact congrArg (fun e=>some (X.pan v,(⟨e,h',f'⟩ : St))) (outJ_ok ho)
      · cases h
    · simp only [irun] at h; cases h
  · simp only [irun] at h; cases h
theorem loopF_mono {f g : St → Option (X × St)} (hfg : ∀ st r,f st = some r → g st = some r) : ∀ (n : Nat) (st : St) (r : X × St),loopF f n st = some r → loopF g n st = some r
  | 0,_,_,h=>by cases h
  | n + 1,st,r,h=>by
    rw [loopF] at h ⊢
    cases hf : f st with
    | none=>rw [hf] at h; cases h
    | some p =>
      rw [hf] at h
      rw [hfg _ _ hf]
      obtain ⟨x,st1⟩:=p
      cases x with
      | nrm=>exact loopF_mono hfg n st1 r h
      | _=>exact h
theorem scopeI_ok {c : Code} {l : Nat} {f : St → Option (X × St)} {g : Nat → St → Option (X × St)} (hfg : ∀ st r,f st = some r → (findLabel c l).isSome = true ∧ g l st = some r) : ∀ (n : Nat) (r0 r1 : Option (X × St)) (r : X × St),(∀ p,r0 = some p → r1 = some p) → scopeI l f n r0 = some r → (∀ l' st1,r = (.gto l',st1) → False) → scopeF c g n r1 = some r
  | 0,_,_,_,_,h,_=>by cases h
  | n + 1,r0,r1,r,h01,h,hr=>by
    cases r0 with
    | none=>cases h
    | some p =>
      rw [h01 p rfl]
      obtain ⟨x,st1⟩:=p
      cases x with
      | gto l' =>
        simp only [scopeI] at h
        simp only [scopeF]
        split at h
        · next hb =>
          have:=Nat.eq_of_beq_eq_true hb
          subst this
          cases hf : f st1 with
          | none=>rw [hf] at h; cases n <;> cases h
          | some p2 =>
            obtain ⟨q1,q2⟩:=hfg _ _ hf
            cases hl : findLabel c l with
            | none=>rw [hl] at q1; cases q1
            | some rest =>
              dsimp only
              exact scopeI_ok hfg n (f st1) (g l st1) r (fun p3 h3=>(hfg _ _ h3).2) h hr
        · cases h
      | _=>exact h
theorem scopeI_ngto {l : Nat} {f : St → Option (X × St)} : ∀ (n : Nat) (r0 : Option (X × St)) (l' : Nat) (st1 : St),scopeI l f n r0 = some (.gto l',st1) → False
  | 0,_,_,_,h=>by cases h
  | n + 1,r0,l',st1,h=>by
    cases r0 with
    | none=>cases h
    | some p =>
      obtain ⟨x,st2⟩:=p
      cases x with
      | gto l2 =>
        simp only [scopeI] at h
        split at h
        · exact scopeI_ngto n _ l' st1 h
        · cases h
      | _=>injection h with h; injection h with h _; cases h
theorem mkSeq_ok {a b : IC} {st : St} {r : X × St} (h : irun rnd call N (mkSeq a b) st = some r) : irun rnd call N (.seq a b) st = some r:=by
  unfold mkSeq at h
  split at h
  · simp only [irun] at h; cases h
  · simp only [irun]; exact h
  · exact h
theorem mkCond_ok {x : Od} {a b : IC} {st : St} {r : X × St} (h : irun rnd call N (mkCond x a b) st = some r) : irun rnd call N (.cond x a b) st = some r:=by
  unfold mkCond at h
  split at h
  · simp only [irun] at h; cases h
  · exact h
theorem mkBlock_ok {id : Nat} {b : IC} {st : St} {r : X × St} (h : irun rnd call N (mkBlock id b) st = some r) : irun rnd call N (.block id b) st = some r:=by
  unfold mkBlock at h
  split at h
  · simp only [irun] at h; cases h
  · exact h
theorem mkLoop_ok {b : IC} {st : St} {r : X × St} (h : irun rnd call N (mkLoop b) st = some r) : irun rnd call N (.loop b) st = some r:=by
  unfold mkLoop at h
  split at h
  · simp only [irun] at h; cases h
  · exact h
mutual
theorem cC_ok : ∀ (c : Code) (i : Nat) (st : St) (r : X × St),irun rnd call N (cC P tb fn live i c) st = some r → exec P tb call fn rnd N i c st = some r
  | .skip,i,st,r,h=>by rw [cC] at h; exact h
  | .label _,i,st,r,h=>by rw [cC] at h; exact h
  | .ret,i,st,r,h=>by rw [cC] at h; exact h
  | .exit _,i,st,r,h=>by rw [cC] at h; exact h
  | .goto _,i,st,r,h=>by rw [cC] at h; exact h
  | .seq a c,i,st,r,h=>by
    rw [cC] at h
    have h:=mkSeq_ok h
    simp only [irun] at h
    simp only [exec]
    split at h
    · next st1 h1=>rw [cC_ok a i st _ h1]; exact cC_ok c _ st1 r h
    · next hn =>
      rw [cC_ok a i st _ h]
      obtain ⟨x,st1⟩:=r
      cases x with
      | nrm=>exact (hn st1 h).elim
      | _=>rfl
  | .cond c p q,i,st,r,h=>by
    rw [cC] at h
    have h:=mkCond_ok h
    simp only [irun] at h
    simp only [exec]
    rw [cS_ok] at h
    split at h
    · next h1=>rw [h1]; exact cC_ok p i st r h
    · next h1=>rw [h1]; exact cC_ok q _ st r h
    · cases h
  | .block id c,i,st,r,h=>by
    rw [cC] at h
    have h:=mkBlock_ok h
    simp only [irun] at h
    simp only [exec]
    split at h
    · next x st1 h1=>rw [cC_ok c i st _ h1]; exact h
    · cases h
  | .loop c,i,st,r,h=>by
    rw [cC] at h
    have h:=mkLoop_ok h
    simp only [irun] at h
    simp only [exec]
    exact loopF_mono (fun st r hh=>cC_ok c i st r hh) N st r h
  | .scope c,i,st,r,h=>by
    rw [cC] at h
    simp only [exec]
    split at h
    · next l hl =>
      simp only [irun] at h
      refine scopeI_ok (l:=l) (fun st r hh=>?_) N _ _ r (fun p hp=>cC_ok c i st p hp) h (fun l' st1 e=>by subst e; exact scopeI_ngto _ _ _ _ h)
      exact cAt_ok c l i st r hh
    · simp only [irun] at h
      exact scopeI_ok (l:=0) (f:=irun rnd call N .no) (fun st r hh=>by simp only [irun] at hh; cases hh) N _ _ r (fun p hp=>cC_ok c i st p hp) h (fun l' st1 e=>by subst e; exact scopeI_ngto _ _ _ _ h)
  | .region id ops draw,i,st,r,h=>by
    rw [cC] at h
    simp only [exec]
    split at h
    · exact cReg_ok h
    · simp only [irun] at h; cases h
  | .rangeFunc g _ _ _,i,st,r,h=>by
    rw [cC] at h
    cases rnd with
    | true=>simp only [irun] at h; cases h
    | false=>rw [exec]; simp only [irun] at h; rw [cS_ok] at h; exact h
  | .refuse _,i,st,r,h=>by rw [cC] at h; simp only [irun] at h; cases h
theorem cAt_ok : ∀ (c : Code) (l i : Nat) (st : St) (r : X × St),irun rnd call N (cAt P tb fn live l i c) st = some r → (findLabel c l).isSome = true ∧ execAt P tb call fn rnd N i l c st = some r
  | .seq a c,l,i,st,r,h=>by
    rw [cAt] at h
    simp only [execAt,findLabel]
    split at h
    · next rest hr =>
      have h:=mkSeq_ok h
      rw [hr]
      simp only [irun] at h
      refine ⟨rfl,?_⟩
      dsimp only
      split at h
      · next st1 h1=>rw [(cAt_ok a l i st _ h1).2]; exact cC_ok c _ st1 r h
      · next hn =>
        rw [(cAt_ok a l i st _ h).2]
        obtain ⟨x,st1⟩:=r
        cases x with
        | nrm=>exact (hn st1 h).elim
        | _=>rfl
    · next hr =>
      rw [hr]
      exact cAt_ok c l _ st r h
  | .label l',l,i,st,r,h=>by
    rw [cAt] at h
    simp only [execAt,findLabel]
    split at h
    · next hb =>
      have:=Nat.eq_of_beq_eq_true hb
      subst this
      simp only [irun] at h
      exact ⟨by simp,h⟩
    · simp only [irun] at h; cases h
  | .skip,_,_,_,_,h=>by simp only [cAt,irun] at h; cases h
  | .ret,_,_,_,_,h=>by simp only [cAt,irun] at h; cases h
  | .exit _,_,_,_,_,h=>by simp only [cAt,irun] at h; cases h
  | .goto _,_,_,_,_,h=>by simp only [cAt,irun] at h; cases h
  | .cond _ _ _,_,_,_,_,h=>by simp only [cAt,irun] at h; cases h
  | .block _ _,_,_,_,_,h=>by simp only [cAt,irun] at h; cases h
  | .loop _,_,_,_,_,h=>by simp only [cAt,irun] at h; cases h
  | .scope _,_,_,_,_,h=>by simp only [cAt,irun] at h; cases h
  | .region _ _ _,_,_,_,_,h=>by simp only [cAt,irun] at h; cases h
  | .rangeFunc _ _ _ _,_,_,_,_,h=>by simp only [cAt,irun] at h; cases h
  | .refuse _,_,_,_,_,h=>by simp only [cAt,irun] at h; cases h
end
end
end Am
end Go.Proofs.YtadbcnekkceoaaaGreatDoor
namespace Go.Proofs.YtadbcnekkceoaaaGreatDoor
namespace Am
inductive RsI | t (x : Od) | m (i : RI Od)
structure IFn where
  ps : List (Option SP)
  code : IC
  res : List RsI
structure IRnd where
  ps : List (Option SP)
  asg : IC
  body : IC
def putI (v : AV) (e : E) : Option SP → E | some p=>setP p v e | none=>e
def enterI : List (Option SP) → List AV → E → Option E
  | _,[],e=>some e
  | p :: ps,v :: vs,e=>enterI ps vs (putI v e p)
  | [],_ :: _,_=>none
def resI (e : E) (h : H) : List RsI → Option (List AV)
  | []=>some []
  | .t x :: l=>(match resI e h l with | some r=>some (x.get e [] :: r) | none=>none)
  | .m i :: l=>(match i.ev (Od.get e []) h,resI e h l with | some v,some r=>some (v :: r) | _,_=>none)
def leaveI (call : CallF) (rs : List RsI) : Nat → E → H → List (AV × List AV) → Option AV → Pn → Option CRes
  | 0,_,_,_,_,_=>none
  | _ + 1,e,h,[],none,pn=>(match resI e h rs with | some r=>some (.ret (resV r) h pn) | none=>none)
  | _ + 1,_,h,[],some v,pn=>some (.pan v h pn)
  | n + 1,e,h,(c,as) :: dfs,md,pn=>match c with
    | .fn _ _ _=>(match call true c as (pnOf md) h with
      | some (.ret _ h1 pn1)=>leaveI call rs n e h1 dfs (mdOf md pn1) pn
      | _=>none)
    | .yld a=>(match as,h.get a with
      | [],some (.dfd (some l))=>leaveI call rs n e (h.set a (.dfd none)) (l ++ dfs) md pn
      | _,_=>none)
    | _=>none
def bodyI (L : Nat) (f : IFn) (call : CallF) (as : List AV) (pn : Pn) (h : H) : Option CRes :=
  match enterI f.ps as E.new with
  | some e=>(match irun false call L f.code ⟨e,h,⟨[],pn⟩⟩ with
    | some (x,st)=>(match x.md with | some md=>leaveI call f.res L st.e st.h st.f.dfs md st.f.pn | none=>none)
    | none=>none)
  | none=>none
def roundI (L : Nat) (rnds : Nat → Option IRnd) (call : CallF) (a : Pos) (as : List AV) (h : H) : Option CRes :=
  match h.get a with
  | some (.loop _ _ lab e _)=>(match rnds lab with
    | some ⟨ps,asg,body⟩=>(match Nat.beq ps.length as.length,enterI ps as e with
      | true,some e0=>(match irun true call L asg ⟨e0,h,⟨[],.no⟩⟩ with
        | some (.nrm,⟨e1,h1,⟨dfs1,.no⟩⟩)=>(match h1.get a with
          | some (.loop .ready p1 lab1 e1' d1)=>(match irun true call L body ⟨e1,h1.set a (.loop .busy p1 lab1 e1' d1),⟨dfs1,.no⟩⟩ with
            | some (x,⟨_,h2,⟨_,.no⟩⟩)=>(match h2.get a,endR x with
              | some (.loop _ _ lab2 e2 d2),some (s',p',bb)=>some (.ret (.bool bb) (h2.set a (.loop s' p' lab2 e2 d2)) .no)
              | _,_=>none)
            | _=>none)
          | _=>none)
        | _=>none)
      | _,_=>none)
    | none=>none)
  | _=>none
section
variable (P : Program) (tb : Tb)
def cSl (fn t : Nat) : Option SP:=(tb.slot fn t).map SP.of
def cRes (fn : Nat) : List ResultVar → Option (List RsI)
  | []=>some []
  | .tmp t :: l=>(match cRes fn l with | some r=>some (.t (cS tb fn (.tmp t)) :: r) | none=>none)
  | .cell a t :: l=>(match cR P (.load t (.tmp a)),cRes fn l with
    | some i,some r=>some (.m (i.map (cS tb fn)) :: r)
    | _,_=>none)
def cFn (live : Nat → Bool) (g : Nat) : Option IFn :=
  match P.funcs[g]? with
  | some fn=>(match fn.body with
    | some c=>(match cRes P tb g fn.results.toList with
      | some rs=>some ⟨(List.range (fn.params.size + fn.nfree)).map (cSl tb g),cC P tb g live 0 c,rs⟩
      | none=>none)
    | none=>none)
  | none=>none
def cRnd (live : Nat → Bool) (L : Lab) : IRnd:=⟨L.ps.toList.map (cSl tb L.fn),cC P tb L.fn live 0 L.asg,cC P tb L.fn live 0 L.body⟩
end
section
variable {P : Program} {tb : Tb} {call : CallF}
theorem putI_ok (v : AV) (e : E) (fn t : Nat) : putI v e (cSl tb fn t) = (match tb.slot fn t with | some s=>E.set s v e | none=>e):=by
  unfold cSl
  cases tb.slot fn t <;> rfl
theorem enterI_ok {fn n : Nat} : ∀ (k i : Nat) {as : List AV} {e e' : E},enterI ((List.range' i k).map (cSl tb fn)) as e = some e' → enterE tb fn as i e = e'
  | k,i,[],e,e',h=>by
    have : some e = some e':=by cases k <;> exact h
    injection this
  | 0,i,v :: as,e,e',h=>by cases h
  | k + 1,i,v :: as,e,e',h=>by
    rw [List.range'_succ,List.map_cons] at h
    simp only [enterI] at h
    rw [putI_ok] at h
    rw [enterE]
    exact enterI_ok (n:=n) k (i + 1) h
theorem roundE_eq {fn : Nat} : ∀ (ts : List Nat) {as : List AV} {e e' : E},enterI (ts.map (cSl tb fn)) as e = some e' → roundE tb fn ts as e = e'
  | ts,[],e,e',h=>by
    have : some e = some e':=by cases ts <;> exact h
    injection this with this
    subst this
    cases ts <;> rfl
  | [],v :: as,e,e',h=>by cases h
  | t :: ts,v :: as,e,e',h=>by
    simp only [List.map_cons,enterI] at h
    rw [putI_ok] at h
    rw [roundE]
    exact roundE_eq ts h
theorem cRes_ok {fn : Nat} {e : E} {h : H} : ∀ {l : List ResultVar} {rs : List RsI} {r : List AV},cRes P tb fn l = some rs → resI e h rs = some r → resA P (lkS tb fn e) h l = some r
  | [],rs,r,hc,hr=>by
    simp only [cRes] at hc
    injection hc with hc; subst hc
    exact hr
  | .tmp t :: l,rs,r,hc,hr=>by
    simp only [cRes] at hc
    split at hc <;> try (cases hc; done)
    next r' h1 =>
    injection hc with hc; subst hc
    simp only [resI] at hr
    simp only [resA]
    split at hr <;> try (cases hr; done)
    next r2 h2 =>
    rw [cRes_ok h1 h2,← cS_ok]
    exact hr
  | .cell a t :: l,rs,r,hc,hr=>by
    simp only [cRes] at hc
    split at hc <;> try (cases hc; done)
    next i r' hi h1 =>
    injection hc with hc; subst hc
    simp only [resI] at hr
    simp only [resA]
    split at hr <;> try (cases hr; done)
    next v r2 hv h2 =>
    injection hr with hr; subst hr
    rw [RI.ev_map] at hv
    have e1 : (fun x=>Od.get e [] (cS tb fn x)) = lkS tb fn e:=funext fun x=>cS_ok e x
    rw [e1] at hv
    have hv' : readF P (.load t (.tmp a)) (lkS tb fn e) h = some v:=by rw [cR_ok hi]; exact hv
    have hp : ∃ b o,lkS tb fn e (.tmp a) = .ptr b o:=by
      simp only [readF] at hv'
      split at hv'
      · next b o hb=>exact ⟨b,o,hb⟩
      · cases hv'
    obtain ⟨b,o,hb⟩:=hp
    rw [hb]
    dsimp only
    rw [hv',cRes_ok h1 h2]
theorem leaveI_ok {fn : Nat} {l : List ResultVar} {rs : List RsI} (hc : cRes P tb fn l = some rs) : ∀ (n : Nat) (e : E) (h : H) (dfs : List (AV × List AV)) (md : Option AV) (pn : Pn) (r : CRes),leaveI call rs n e h dfs md pn = some r → leaveF P tb call fn l n e h dfs md pn = some r
  | 0,_,_,_,_,_,_,h=>by cases h
  | n + 1,e,h,[],none,pn,r,hh=>by
    simp only [leaveI] at hh
    simp only [leaveF]
    split at hh <;> try (cases hh; done)
    next rr hr=>rw [cRes_ok hc hr]; exact hh
  | n + 1,e,h,[],some v,pn,r,hh=>hh
  | n + 1,e,h,(c,as) :: dfs,md,pn,r,hh=>by
    cases c with
    | fn g x y =>
      simp only [leaveI] at hh
      simp only [leaveF]
      split at hh <;> try (cases hh; done)
      next v h1 pn1 h2=>rw [h2]; exact leaveI_ok hc n _ _ _ _ _ _ hh
    | yld a =>
      simp only [leaveI] at hh
      simp only [leaveF]
      split at hh <;> try (cases hh; done)
      next l hg=>rw [hg]; exact leaveI_ok hc n _ _ _ _ _ _ hh
    | _=>simp only [leaveI] at hh; cases hh
theorem bodyI_ok {live : Nat → Bool} {g L : Nat} {f : IFn} (hf : cFn P tb live g = some f) {as : List AV} {pn : Pn} {h : H} {r : CRes} (hh : bodyI L f call as pn h = some r) :
    ∃ fn c,P.funcs[g]? = some fn ∧ fn.body = some c ∧ bodyF P tb call L g c fn.results.toList as pn h = some r:=by
  unfold cFn at hf
  split at hf <;> try (cases hf; done)
  next fn hfn =>
  split at hf <;> try (cases hf; done)
  next c hb =>
  split at hf <;> try (cases hf; done)
  next rs hrs =>
  injection hf with hf; subst hf
  refine ⟨fn,c,hfn,hb,?_⟩
  unfold bodyI at hh
  split at hh <;> try (cases hh; done)
  next e he =>
  split at hh <;> try (cases hh; done)
  next x st hx =>
  split at hh <;> try (cases hh; done)
  next md hmd =>
  unfold bodyF
  dsimp only at he
  rw [List.range_eq_range'] at he
  rw [show enterE tb g as 0 E.new = e from enterI_ok (n:=0) _ _ he,cC_ok c 0 _ _ hx]
  dsimp only
  rw [hmd]
  exact leaveI_ok hrs _ _ _ _ _ _ _ hh
theorem roundI_ok {L : Nat} {rnds : Nat → Option IRnd} (hr : ∀ lab R,rnds lab = some R → ∃ live L,tb.lab lab = some L ∧ R = cRnd P tb live L) {a : Pos} {as : List AV} {h : H} {r : CRes} (hh : roundI L rnds call a as h = some r) : roundF P tb call L a as h = some r:=by
  unfold roundI at hh
  split at hh <;> try (cases hh; done)
  next s0 p0 lab e d hg =>
  split at hh <;> try (cases hh; done)
  next ps asg body hL =>
  obtain ⟨live,Lb,q1,q2⟩:=hr _ _ hL
  obtain ⟨fn,ps0,asg0,body0⟩:=Lb
  unfold cRnd at q2
  injection q2 with e1 e2 e3
  subst e1 e2 e3
  split at hh <;> try (cases hh; done)
  next e0 hps he =>
  split at hh <;> try (cases hh; done)
  next e1 h1 dfs1 hx1 =>
  split at hh <;> try (cases hh; done)
  next p1 lab1 e1' d1 hg1 =>
  split at hh <;> try (cases hh; done)
  next x e2 h2 dfs2 hx2 =>
  split at hh <;> try (cases hh; done)
  next s2 p2 lab2 e2' d2 s' p' bb hg2 hend =>
  injection hh with hh; subst hh
  unfold roundF
  rw [hg]
  dsimp only
  rw [q1]
  dsimp only
  rw [List.length_map,Array.length_toList] at hps
  rw [hps]
  dsimp only
  rw [roundE_eq _ he,cC_ok asg0 0 _ _ hx1]
  dsimp only
  rw [hg1]
  dsimp only
  rw [cC_ok body0 0 _ _ hx2]
  dsimp only
  rw [hg2,hend]
end
end Am
end Go.Proofs.YtadbcnekkceoaaaGreatDoor
