/- What is fixed: a program's tables, held against what the machine asks of them. -/
import Derived.Test.YtadbcnekkceoaaaGreatDoorKOAmKa
import Derived.KernelRfl
set_option linter.unusedVariables false
namespace Go.Proofs.YtadbcnekkceoaaaGreatDoor
namespace Am
def labAt : Code → Nat → Option (Array Tmp × Code × Code)
  | .seq a b,i=>bif Nat.blt i (rfN a) then labAt a i else labAt b (Nat.sub i (rfN a))
  | .cond _ a b,i=>bif Nat.blt i (rfN a) then labAt a i else labAt b (Nat.sub i (rfN a))
  | .block _ c,i=>labAt c i
  | .loop c,i=>labAt c i
  | .scope c,i=>labAt c i
  | .rangeFunc _ ps a c,i=>bif Nat.beq i 0 then some (ps,a,c) else none
  | _,_=>none
def labOf (P : Program) (n : Nat) : Option Lab :=
  match P.funcs[n / 64]? with
  | some f=>(match f.body with | some c=>(match labAt c (n % 64) with | some (ps,a,b)=>some ⟨n / 64,ps,a,b⟩ | none=>none) | none=>none)
  | none=>none
def codeB (P : Program) (tb : Tb) (fn N : Nat) : Code → Bool
  | .seq a c=>codeB P tb fn N a && codeB P tb fn N c
  | .cond _ p q=>codeB P tb fn N p && codeB P tb fn N q
  | .block _ c=>codeB P tb fn N c
  | .loop c=>codeB P tb fn N c
  | .scope c=>codeB P tb fn N c
  | .region _ ops draw=>(rgOf P tb fn ops.toList draw).chk N draw (plan P ops.toList (preOf ops.toList draw))
  | _=>true
theorem codeB_ok {P : Program} {tb : Tb} {fn N : Nat} : ∀ (c : Code) (o : Nat),codeB P tb fn N c = true → (∀ i,i < rfN c → tb.lab (labKey fn (o + i)) = (labAt c i).map (fun x=>⟨fn,x.1,x.2.1,x.2.2⟩)) → CodeOk P tb fn N o c
  | .seq a c,o,h,hl=>by
    simp only [codeB,Bool.and_eq_true] at h
    have hn : rfN (.seq a c) = rfN a + rfN c:=rfl
    refine ⟨codeB_ok a o h.1 fun i hi=>?_,codeB_ok c _ h.2 fun i hi=>?_⟩
    · rw [hl i (by omega),labAt,blt_t hi,cond_true]
    · have e : Nat.add o (rfN a) = o + rfN a:=rfl
      rw [e,Nat.add_assoc,hl (rfN a + i) (by omega),labAt,blt_f (by omega),cond_false,Nat.sub_eq,Nat.add_sub_cancel_left]
  | .cond x a c,o,h,hl=>by
    simp only [codeB,Bool.and_eq_true] at h
    have hn : rfN (.cond x a c) = rfN a + rfN c:=rfl
    refine ⟨codeB_ok a o h.1 fun i hi=>?_,codeB_ok c _ h.2 fun i hi=>?_⟩
    · rw [hl i (by omega),labAt,blt_t hi,cond_true]
    · have e : Nat.add o (rfN a) = o + rfN a:=rfl
      rw [e,Nat.add_assoc,hl (rfN a + i) (by omega),labAt,blt_f (by omega),cond_false,Nat.sub_eq,Nat.add_sub_cancel_left]
  | .block _ c,o,h,hl=>by rw [CodeOk]; exact codeB_ok c o h hl
  | .loop c,o,h,hl=>by rw [CodeOk]; exact codeB_ok c o h hl
  | .scope c,o,h,hl=>by rw [CodeOk]; exact codeB_ok c o h hl
  | .region _ ops draw,o,h,hl=>h
  | .rangeFunc _ ps a c,o,h,hl=>hl 0 (Nat.lt_succ_self 0)
  | .skip,_,_,_=>trivial
  | .label _,_,_,_=>trivial
  | .ret,_,_,_=>trivial
  | .exit _,_,_,_=>trivial
  | .goto _,_,_,_=>trivial
  | .refuse _,_,_,_=>trivial
def labG (P : Program) (G : List Nat) (n : Nat) : Option Lab:=bif memN (n / 64) G && Nat.beq (n % 64) 0 then labOf P n else none
def fnB (P : Program) (tb : Tb) (G : List Nat) (g : Nat) (f : Func) : Bool:=match f.body with | some c=>Nat.ble (rfN c) (bif memN g G then 1 else 0) && codeB P tb g f.ntmps c | none=>false
theorem fnB_ok {P : Program} {vars : Nat → List Nat} {G : List Nat} {g : Nat} {f : Func} (hf : P.funcs[g]? = some f) (h : fnB P ⟨vars,labG P G⟩ G g f = true) : ∃ c,f.body = some c ∧ CodeOk P ⟨vars,labG P G⟩ g f.ntmps 0 c:=by
  unfold fnB at h
  cases hb : f.body with
  | none=>rw [hb] at h; cases h
  | some c =>
    rw [hb] at h
    simp only [Bool.and_eq_true] at h
    refine ⟨c,rfl,codeB_ok c 0 h.2 fun i hi=>?_⟩
    have h1:=ble_le h.1
    cases hG : memN g G with
    | false=>rw [hG,cond_false] at h1; omega
    | true =>
      rw [hG,cond_true] at h1
      have : i = 0:=by omega
      subst this
      have e1 : labKey g (0 + 0) / 64 = g:=by show (g * 64 + (0 + 0)) / 64 = g; omega
      have e2 : labKey g (0 + 0) % 64 = 0:=by show (g * 64 + (0 + 0)) % 64 = 0; omega
      show labG P G (labKey g (0 + 0)) = _
      unfold labG labOf
      rw [e1,e2,hf,hG]
      dsimp only
      rw [hb]
      dsimp only [Nat.beq,Bool.and_self,cond_true]
      cases labAt c 0 with
      | none=>rfl
      | some x=>rfl
def labB (P : Program) (tb : Tb) (N fn : Nat) (ps : Array Tmp) (a b : Code) : Bool:=ps.toList.all (fun t=>Nat.blt t N) && (Nat.beq (rfN a) 0 && (Nat.beq (rfN b) 0 && (codeB P tb fn N a && codeB P tb fn N b)))
theorem labB_ok {P : Program} {tb : Tb} {N fn : Nat} {ps : Array Tmp} {a b : Code} (h : labB P tb N fn ps a b = true) : (∀ t,t ∈ ps.toList → t < N) ∧ CodeOk P tb fn N 0 a ∧ CodeOk P tb fn N 0 b:=by
  unfold labB at h
  simp only [Bool.and_eq_true,List.all_eq_true] at h
  obtain ⟨h1,h2,h3,h4,h5⟩:=h
  have h2:=Nat.eq_of_beq_eq_true h2
  have h3:=Nat.eq_of_beq_eq_true h3
  exact ⟨fun t ht=>by have:=h1 t ht; rwa [Nat.blt_eq] at this,codeB_ok a 0 h4 fun i hi=>by omega,codeB_ok b 0 h5 fun i hi=>by omega⟩
def lfB (P : Program) (tb : Tb) (g : Nat) (f : Func) : Bool:=match f.body with | some c=>(match labAt c 0 with | some (ps,a,b)=>labB P tb f.ntmps g ps a b | none=>true) | none=>true
def nnOf (P : Program) (g : Nat) : Nat:=match P.funcs[g]? with | some f=>f.ntmps | none=>0
theorem labOk_of {P : Program} {vars : Nat → List Nat} {G : List Nat} (h : ∀ g,memN g G = true → ∃ f,P.funcs[g]? = some f ∧ lfB P ⟨vars,labG P G⟩ g f = true) : LabOk P ⟨vars,labG P G⟩ (nnOf P):=fun n L hL=>by
  replace hL : labG P G n = some L:=hL
  unfold labG at hL
  cases hG : (memN (n / 64) G && Nat.beq (n % 64) 0) with
  | false=>rw [hG] at hL; cases hL
  | true =>
    rw [hG,cond_true] at hL
    simp only [Bool.and_eq_true] at hG
    have hz:=Nat.eq_of_beq_eq_true hG.2
    obtain ⟨f,hf,hb⟩:=h _ hG.1
    unfold labOf at hL
    rw [hf,hz] at hL
    dsimp only at hL
    cases hc : f.body with
    | none=>rw [hc] at hL; cases hL
    | some c =>
      rw [hc] at hL
      dsimp only at hL
      cases hx : labAt c 0 with
      | none=>rw [hx] at hL; cases hL
      | some x =>
        obtain ⟨ps,a,b⟩:=x
        rw [hx] at hL
        injection hL with hL
        subst hL
        unfold lfB at hb
        rw [hc] at hb
        dsimp only at hb
        rw [hx] at hb
        have:=labB_ok hb
        have e : nnOf P (n / 64) = f.ntmps:=by unfold nnOf; rw [hf]
        dsimp only
        rw [e]
        exact this
inductive BT (α : Type) | lf (k : Nat) (f : α) | nd (m : Nat) (l r : BT α)
noncomputable def BT.get {α : Type} (t : BT α) (n : Nat) : Option α:=BT.rec (motive:=fun _=>Option α) (fun k f=>Bool.rec (motive:=fun _=>Option α) none (some f) (Nat.beq n k)) (fun m _ _ il ir=>Bool.rec (motive:=fun _=>Option α) ir il (Nat.ble (Nat.succ n) m)) t
def BT.All {α : Type} (Q : Nat → α → Prop) : BT α → Prop | .lf k f=>Q k f | .nd _ l r=>BT.All Q l ∧ BT.All Q r
theorem BT.get_all {α : Type} {Q : Nat → α → Prop} : ∀ {t : BT α},t.All Q → ∀ {n : Nat} {f : α},t.get n = some f → Q n f
  | .lf k f,h,n,g,hg=>by
    replace hg : Bool.rec (motive:=fun _=>Option α) none (some f) (Nat.beq n k) = some g:=hg
    cases e : Nat.beq n k with
    | false=>rw [e] at hg; cases hg
    | true=>rw [e] at hg; injection hg with hg; subst hg; rw [Nat.eq_of_beq_eq_true e]; exact h
  | .nd m l r,h,n,g,hg=>by
    replace hg : Bool.rec (motive:=fun _=>Option α) (r.get n) (l.get n) (Nat.ble (Nat.succ n) m) = some g:=hg
    cases e : Nat.ble (Nat.succ n) m with
    | false=>rw [e] at hg; exact BT.get_all h.2 hg
    | true=>rw [e] at hg; exact BT.get_all h.1 hg
def FnGood (P : Program) (tb : Tb) (g : Nat) (i : IFn) : Prop:=Bodied P g ∧ (∃ f c,P.funcs[g]? = some f ∧ f.body = some c ∧ CodeOk P tb g f.ntmps 0 c) ∧ ∃ live,cFn P tb live g = some i
def RdGood (P : Program) (tb : Tb) (lab : Nat) (R : IRnd) : Prop:=∃ live L,tb.lab lab = some L ∧ R = cRnd P tb live L
def cFnF (P : Program) (tb : Tb) (live : Nat → Bool) (g : Nat) (fn : Func) : Option IFn :=
  match fn.body with
  | some c=>(match cRes P tb g fn.results.toList with
    | some rs=>some ⟨(List.range (fn.params.size + fn.nfree)).map (cSl tb g),cC P tb g live 0 c,rs⟩
    | none=>none)
  | none=>none
theorem fg {P : Program} {vars : Nat → List Nat} {G : List Nat} {g : Nat} {f : Func} {i : IFn} (live : List Nat) (hf : P.funcs[g]? = some f) (h1 : ((f.name == "runtime.NumGoroutine") || f.body.isNone) = false:=by kernel_rfl) (h2 : fnB P ⟨vars,labG P G⟩ G g f = true:=by kernel_rfl) (h3 : cFnF P ⟨vars,labG P G⟩ (fun n=>memN n live) g f = some i:=by kernel_rfl) : FnGood P ⟨vars,labG P G⟩ g i:=by
  simp only [Bool.or_eq_false_iff] at h1
  obtain ⟨c,h4,h5⟩:=fnB_ok hf h2
  refine ⟨⟨f,hf,h1.1,h1.2⟩,⟨f,c,hf,h4,h5⟩,fun n=>memN n live,?_⟩
  unfold cFn
  rw [hf]
  exact h3
theorem rg {P : Program} {vars : Nat → List Nat} {G : List Nat} {g : Nat} {f : Func} {i : IRnd} (live : List Nat) (hf : P.funcs[g]? = some f) (hg : memN g G = true:=by kernel_rfl)
    (h : (match f.body with | some c=>(match labAt c 0 with | some (ps,a,b)=>some (cRnd P ⟨vars,labG P G⟩ (fun n=>memN n live) ⟨g,ps,a,b⟩) | none=>none) | none=>none) = some i:=by kernel_rfl) : RdGood P ⟨vars,labG P G⟩ (g * 64) i:=by
  cases hb : f.body with
  | none=>rw [hb] at h; cases h
  | some c =>
    rw [hb] at h
    dsimp only at h
    cases hl : labAt c 0 with
    | none=>rw [hl] at h; cases h
    | some x =>
      obtain ⟨ps,a,b⟩:=x
      rw [hl] at h
      injection h with h
      refine ⟨fun n=>memN n live,⟨g,ps,a,b⟩,?_,h.symm⟩
      show labG P G (g * 64) = _
      unfold labG labOf
      rw [show g * 64 / 64 = g by omega,show g * 64 % 64 = 0 by omega,hf,hg]
      dsimp only
      rw [hb]
      dsimp only
      rw [hl]
      rfl
theorem tbl_ok {P : Program} {tb : Tb} {K : KTbl} {F : BT IFn} {R : BT IRnd} (hF : K.fns = F.get) (hR : K.rnd = R.get) (aF : F.All (FnGood P tb)) (aR : R.All (RdGood P tb)) (hl : LabOk P tb (nnOf P))
    (hm : ∀ g M,K.mac g = some M → Bodied P g ∧ ∀ as h r,M as h = some r → CalOk P tb (nnOf P) (.fn g [] []) as h r) : TblOk P tb (nnOf P) K.tbl where
  mac g M hg x y as h r hh:=by
    obtain ⟨q1,q2⟩:=hm g M hg
    exact CalOk.cut q1 (q2 _ _ _ hh)
  fns g M hg:=by
    replace hg : (match K.fns g with | some f=>some (fun call as pn h=>bodyI K.L f call as pn h) | none=>none) = some M:=hg
    rw [hF] at hg
    cases hi : F.get g with
    | none=>rw [hi] at hg; cases hg
    | some i =>
      rw [hi] at hg
      injection hg with hg
      obtain ⟨q1,⟨f,c,q2,q3,q4⟩,live,q5⟩:=BT.get_all aF hi
      refine ⟨q1,f,c,K.L,q2,q3,?_,?_,fun call as pn h r hh=>?_⟩
      · unfold nnOf; rw [q2]
      · have e : nnOf P g = f.ntmps:=by unfold nnOf; rw [q2]
        rw [e]; exact q4
      · subst hg
        obtain ⟨f',c',e1,e2,e3⟩:=bodyI_ok q5 hh
        rw [q2] at e1; injection e1 with e1; subst e1
        rw [q3] at e2; injection e2 with e2; subst e2
        exact e3
  rnd:=⟨K.L,fun call a as h r hh=>roundI_ok (fun lab L hL=>by rw [hR] at hL; exact BT.get_all aR hL) hh⟩
  lab:=hl
end Am
end Go.Proofs.YtadbcnekkceoaaaGreatDoor
namespace Go.Proofs.YtadbcnekkceoaaaGreatDoor
namespace Am
noncomputable section
abbrev Wl:=List (Pos × Pos)
abbrev NK (α : Type):=α → T Pos → Pos → Wl → Rz
def nmP (a : Pos) (R : T Pos) (nx : Pos) (q : Wl) (k : NK Pos) : Rz:=getC a R fun x=>Option.rec (motive:=fun _=>Rz) (setC (some nx) a R fun R=>succC nx fun ny=>k nx R ny ((a,nx) :: q)) (fun b=>k b R nx q) x
def nmL (a : Pos) (R : T Pos) (nx : Pos) (q : Wl) (k : T Pos → Pos → Wl → Rz) : Rz:=getC a R fun x=>Option.rec (motive:=fun _=>Rz) (setC (some a) a R fun R=>k R nx ((a,a) :: q)) (fun _=>k R nx q) x
abbrev NV:=AV → T Pos → Pos → Wl → NK AV → Rz
def nmV1 (nest : List AV → T Pos → Pos → Wl → NK (List AV) → Rz) : NV:=fun v R nx q k=>AV.rec (motive_1:=fun _=>Rz) (motive_2:=fun _=>PUnit) (k v R nx q) (fun _ _=>k v R nx q) (fun _=>k v R nx q) (fun _=>k v R nx q) (fun a o=>nmP a R nx q fun b R nx q=>k (.ptr b o) R nx q) (k v R nx q) (fun a o n z=>nmP a R nx q fun b R nx q=>k (.slc b o n z) R nx q) (fun a o z=>nmP a R nx q fun b R nx q=>k (.slcE b o z) R nx q) (k v R nx q) (fun a=>nmP a R nx q fun b R nx q=>k (.map b) R nx q) (k v R nx q) (fun _ _ _ _ _=>k .junk R nx q) (fun _=>k .junk R nx q) (k v R nx q) (fun _ _ _=>k .junk R nx q) (k v R nx q) (fun s _=>nest s R nx q fun s R nx q=>k (.agg s) R nx q) (fun s _=>nest s R nx q fun s R nx q=>k (.tup s) R nx q) (fun i a=>nmL a R nx q fun R nx q=>k (.ltr i a) R nx q) (fun _=>k v R nx q) (fun _=>k .junk R nx q) (fun _ _ _=>k .junk R nx q) (fun s _=>nest s R nx q fun s R nx q=>k (.txt s) R nx q) PUnit.unit (fun _ _ _ _=>PUnit.unit) (v)
def nmsC (f : NV) (l : List AV) : T Pos → Pos → Wl → NK (List AV) → Rz:=List.rec (motive:=fun _=>T Pos → Pos → Wl → NK (List AV) → Rz) (fun R nx q k=>k [] R nx q) (fun v _ ih R nx q k=>f v R nx q fun v R nx q=>ih R nx q fun l R nx q=>k (v :: l) R nx q) l
def nmC (n : Nat) : NV:=Nat.rec (motive:=fun _=>NV) (nmV1 fun _ _ _ _ _=>none) (fun _ ih=>nmV1 (nmsC ih)) n
def nmrC (f : NV) (c : T AV) (n : Nat) : Nat → T Pos → Pos → Wl → NK (List AV) → Rz:=Nat.rec (motive:=fun _=>Nat → T Pos → Pos → Wl → NK (List AV) → Rz) (fun _ R nx q k=>k [] R nx q) (fun _ ih i R nx q k=>atC c i fun v=>f v R nx q fun v R nx q=>natC (Nat.succ i) fun j=>ih j R nx q fun l R nx q=>k (v :: l) R nx q) n
def nmB (b : AB) (R : T Pos) (nx : Pos) (q : Wl) (k : NK PK) : Rz:=AB.rec (motive:=fun _=>Rz) (fun ro n c=>nmrC (nmC 4) c n 0 R nx q fun l R nx q=>k (.ce ro l) R nx q) (fun es i=>List.rec (motive:=fun _=>Rz) (k (.mp i) R nx q) (fun _ _ _=>none) es) (fun _ _ _ _=>none) (fun _ _ _ _ _=>none) (fun _=>none) (fun n=>k (.gh n) R nx q) b
def wkC (t : T AB) (n : Nat) : Wl → T Pos → Pos → (List PB → Pos → Rz) → Rz:=Nat.rec (motive:=fun _=>Wl → T Pos → Pos → (List PB → Pos → Rz) → Rz) (fun _ _ _ _=>none)
  (fun _ ih q R nx k=>List.rec (motive:=fun _=>Rz) (k [] nx) (fun ab q _=>getC ab.1 t fun y=>optK (fun b=>nmB b R nx q fun pk R nx q=>ih q R nx fun L nx=>k ((ab.2,pk) :: L) nx) y) q) n
def canC (vs : List AV) (t : T AB) (R : T Pos) (nx : Pos) (q : Wl) (k : List AV → List PB → Pos → Rz) : Rz:=nmsC (nmC 4) vs R nx q fun vs R nx q=>wkC t 400 q R nx fun L nx=>k vs L nx
inductive Jb
  | nrm (g : Nat) (lits : List AV) (srcs : List (Nat × List (Nat × Nat × Nat))) (args : List (Bool × Nat × Nat)) (keep : Bool)
  | eff (g : Nat) (pre : List AV) (N : Nat) (srcs : List (Nat × List (Nat × Nat × Nat))) (args : List (Bool × Nat × Nat)) (keep : Bool)
def Jb.g (j : Jb) : Nat:=Jb.rec (motive:=fun _=>Nat) (fun g _ _ _ _=>g) (fun g _ _ _ _ _=>g) j
abbrev Rg2:=List (AV × T AB)
def lstC {α : Type} (l : List α) : (List α → Rz) → Rz:=List.rec (motive:=fun _=>(List α → Rz) → Rz) (fun k=>k []) (fun x _ ih k=>ih fun l=>k (x :: l)) l
def dropR {α : Type} (n : Nat) : List α → List α:=Nat.rec (motive:=fun _=>List α → List α) (fun l=>l) (fun _ ih l=>List.rec (motive:=fun _=>List α) [] (fun _ l _=>ih l) l) n
def takeR {α : Type} (n : Nat) : List α → List α:=Nat.rec (motive:=fun _=>List α → List α) (fun _=>[]) (fun _ ih l=>List.rec (motive:=fun _=>List α) [] (fun x l _=>x :: ih l) l) n
def cellsR (v : AV) : List AV:=AV.rec (motive_1:=fun _=>List AV) (motive_2:=fun _=>PUnit) ([v]) (fun _ _=>[v]) (fun _=>[v]) (fun _=>[v]) (fun _ _=>[v]) ([v]) (fun _ _ _ _=>[v]) (fun _ _ _=>[v]) ([v]) (fun _=>[v]) ([v]) (fun _ _ _ _ _=>[v]) (fun _=>[v]) ([v]) (fun _ _ _=>[v]) ([v]) (fun s _=>s) (fun _ _=>[v]) (fun _ _=>[v]) (fun _=>[v]) (fun _=>[v]) (fun _ _ _=>[v]) (fun _ _=>[v]) PUnit.unit (fun _ _ _ _=>PUnit.unit) (v)
def partC (v : AV) (i : Nat) (k : AV → Rz) : Rz:=tupC v fun s=>lgetC s i k
def cutsC (v : AV) (cs : List (Nat × Nat × Nat)) : (List AV → Rz) → Rz:=List.rec (motive:=fun _=>(List AV → Rz) → Rz) (fun k=>k []) (fun c _ ih k=>partC v c.1 fun x=>ih fun l=>lstC (appR (takeR c.2.2 (dropR c.2.1 (cellsR x))) l) k) cs
def srcsC (rg : Rg2) (ss : List (Nat × List (Nat × Nat × Nat))) : Pos → (List AV → List PB → Rz) → Rz:=List.rec (motive:=fun _=>Pos → (List AV → List PB → Rz) → Rz) (fun _ k=>k [] [])
  (fun s _ ih nx k=>lgetC rg s.1 fun vt=>cutsC vt.1 s.2 fun l=>canC l vt.2 .leaf nx [] fun l L nx=>ih nx fun l' L'=>lstC (appR l l') fun l=>lstC (appR L L') fun L=>k l L) ss
def argsC (pool : List AV) (as : List (Bool × Nat × Nat)) : (List AV → Rz) → Rz:=List.rec (motive:=fun _=>(List AV → Rz) → Rz) (fun k=>k [])
  (fun a _ ih k=>lstC (takeR a.2.2 (dropR a.2.1 pool)) fun l=>ih fun vs=>Bool.rec (motive:=fun _=>Rz) (List.rec (motive:=fun _=>Rz) none (fun v _ _=>k (v :: vs)) l) (k (.agg l :: vs)) a.1) as
def keepC (kp : Bool) (L : List PB) : (List (Bool × PB) → T Pos → Rz) → Rz:=List.rec (motive:=fun _=>(List (Bool × PB) → T Pos → Rz) → Rz) (fun k=>k [] .leaf) (fun p _ ih k=>ih fun L R=>PK.rec (motive:=fun _=>Rz)
  (fun _ _=>Bool.rec (motive:=fun _=>Rz) (k ((kp,p) :: L) R) (setC (some p.1) p.1 R fun R=>k ((kp,p) :: L) R) kp) (fun _=>Bool.rec (motive:=fun _=>Rz) (k ((kp,p) :: L) R) (setC (some p.1) p.1 R fun R=>k ((kp,p) :: L) R) kp) (fun _=>setC (some p.1) p.1 R fun R=>k ((true,p) :: L) R) p.2) L
def runC (K : KTbl) (n g : Nat) (as : List AV) (L0 : List (Bool × PB)) (R0 : T Pos) (k : Ct → AV → T AB → Rz) : Rz :=
  initC (L0.map Prod.snd) .leaf fun t=>callC K n false (.fn g [] []) as .no t n0P (fun v t nx _=>ifC (Nat.ble 256 nx.nat) (canC [v] t R0 n0P [] fun vs L1 ny=>natC (Nat.sub ny.nat 256) fun fr=>List.rec (motive:=fun _=>Rz) none (fun v' _ _=>ifC (dis (L1 ++ (L0.filter Prod.fst).map Prod.snd) .leaf) (Option.rec (motive:=fun _=>Rz) none (fun _=>k ⟨as,L0,v',L1,fr⟩ v t) (cmpC ⟨as,L0,v',L1,fr⟩ v t))) vs)) (fun _ _ _ _=>none)
def tokC (x : Rz) (k : Rz) : Rz:=Option.rec (motive:=fun _=>Rz) none (fun _=>k) x
def allE (K : KTbl) (n g : Nat) (pre as : List AV) (c : Ct) (N : Nat) (k : Rz) : Rz:=Nat.rec (motive:=fun _=>Rz) k (fun e ih=>tokC (ctChk K n g ⟨.agg (appR pre [.int .i64 (.ofNat e)]) :: as,c.L0,c.v,c.L1,c.fr⟩) ih) N
def jobC (K : KTbl) (n : Nat) (rg : Rg2) (j : Jb) (k : Ct → AV → T AB → Rz) : Rz:=Jb.rec (motive:=fun _=>Rz)
  (fun g lits srcs args keep=>srcsC rg srcs .xH fun l L=>lstC (appR lits l) fun pool=>argsC pool args fun as=>keepC keep L fun L0 R0=>runC K n g as L0 R0 k)
  (fun g pre N srcs args keep=>srcsC rg srcs .xH fun l L=>argsC l args fun as=>keepC keep L fun L0 R0=>runC K n g (.agg (appR pre [.ge N]) :: as) L0 R0 fun c v t=>allE K n g pre as c N (k ⟨.agg (appR pre [.ge 0]) :: as,c.L0,c.v,c.L1,c.fr⟩ v t)) j
def runJ (mk : List (Nat × Ct) → KTbl) (n : Nat) (js : List Jb) : List (Nat × Ct) → Rg2 → (List (Nat × Ct) → Rz) → Rz:=List.rec (motive:=fun _=>List (Nat × Ct) → Rg2 → (List (Nat × Ct) → Rz) → Rz) (fun tab _ k=>k tab)
  (fun j _ ih tab rg k=>jobC (mk tab) n rg j fun c v t=>lstC (appR rg [(v,t)]) fun rg=>ih ((j.g,c) :: tab) rg k) js
def ctsG (L : List (Nat × Ct)) (g : Nat) : List AV → H → Option CRes:=fun as h=>List.rec (motive:=fun _=>Rz) none (fun x _ ih=>Bool.rec (motive:=fun _=>Rz) ih (Option.rec (motive:=fun _=>Rz) ih some (ctF x.2 as h.t h.next fun v t nx=>some (.ret v ⟨t,nx⟩ .no))) (Nat.beq x.1 g)) L
section
variable {P : Program} {tb : Tb} {NN : Nat → Nat}
theorem lstC_eq {α : Type} : ∀ (l : List α) (k : List α → Rz),lstC l k = k l
  | [],_=>rfl
  | x :: l,k=>by show lstC l (fun l=>k (x :: l)) = _; rw [lstC_eq l]
theorem tokC_ok {x k : Rz} {r : CRes} (h : tokC x k = some r) : (∃ r',x = some r') ∧ k = some r:=by
  cases x with
  | none=>cases h
  | some r'=>exact ⟨⟨r',rfl⟩,h⟩
theorem allE_ok {K : KTbl} (hmix : P.follows .mixedOrders = true) (ok : TblOk P tb NN K.tbl) {n g : Nat} {pre as : List AV} {c : Ct} {k : Rz} {r : CRes} : ∀ N : Nat,allE K n g pre as c N k = some r → (∀ e,e < N → CtOk P tb NN g ⟨.agg (appR pre [.int .i64 (.ofNat e)]) :: as,c.L0,c.v,c.L1,c.fr⟩) ∧ k = some r
  | 0,h=>⟨fun e he=>absurd he (Nat.not_lt_zero e),h⟩
  | N + 1,h=>by
    obtain ⟨⟨r',h1⟩,h2⟩:=tokC_ok h
    obtain ⟨h3,h4⟩:=allE_ok hmix ok N h2
    refine ⟨fun e he=>?_,h4⟩
    rcases Nat.lt_or_eq_of_le (Nat.le_of_lt_succ he) with he | rfl
    · exact h3 e he
    · exact ct_ok hmix ok h1
theorem VRs.snoc {m : Mp} : ∀ {pre : List AV} {x : AV} {l : List Value},VRs m (pre ++ [x]) l → ∃ l0 u,l = l0 ++ [u] ∧ VRs m pre l0 ∧ VR m x u
  | [],x,l,h=>by cases h with | cons a b=>cases b; exact ⟨[],_,rfl,.nil,a⟩
  | p :: pre,x,l,h=>by
    cases h with | cons a b =>
    obtain ⟨l0,u,h1,h2,h3⟩:=VRs.snoc (pre:=pre) b
    exact ⟨_ :: l0,u,by rw [h1]; rfl,.cons a h2,h3⟩
theorem CalOk.split {N : Nat} {c : AV} {pre as : List AV} {h : H} {r : CRes} (h1 : ∀ e,e < N → CalOk P tb NN c (.agg (appR pre [.int .i64 (.ofNat e)]) :: as) h r) (h2 : CalOk P tb NN c (.agg (pre ++ [.ge N]) :: as) h r) : CalOk P tb NN c (.agg (appR pre [.ge 0]) :: as) h r:=fun m w u args B hr hu ha hB=>by
  rw [appR_eq] at ha
  generalize hl : args.toList = l at ha
  cases ha with | cons a b =>
  cases a with | agg a =>
  obtain ⟨l0,u0,q1,q2,q3⟩:=VRs.snoc a
  cases q3 with | ge g1 g2 =>
  rename_i v
  rcases Nat.lt_or_ge v N with hv | hv
  · refine h1 v hv m w u args B hr hu ?_ hB
    rw [hl,appR_eq]
    exact .cons (.agg (by rw [q1]; exact q2.app (.cons (.int _ _) .nil))) b
  · refine h2 m w u args B hr hu ?_ hB
    rw [hl]
    exact .cons (.agg (by rw [q1]; exact q2.app (.cons (.ge hv g2) .nil))) b
theorem nmP_f {a : Pos} {R : T Pos} {nx : Pos} {q : Wl} {k : NK Pos} {r : CRes} (h : nmP a R nx q k = some r) : ∃ x1 x2 x3 x4,k x1 x2 x3 x4 = some r:=by
  unfold nmP at h
  rw [getC_eq] at h
  cases e : T.get a R with
  | some b=>rw [e] at h; exact ⟨_,_,_,_,h⟩
  | none =>
    rw [e] at h
    replace h : setC (some nx) a R (fun R=>succC nx fun ny=>k nx R ny ((a,nx) :: q)) = some r:=h
    rw [setC_eq,succC_eq] at h
    exact ⟨_,_,_,_,h⟩
def NvF (f : NV) : Prop:=∀ v R nx q k r,f v R nx q k = some r → ∃ x1 x2 x3 x4,k x1 x2 x3 x4 = some r
theorem nmV1_f {nest : List AV → T Pos → Pos → Wl → NK (List AV) → Rz} (hn : ∀ v R nx q k r,nest v R nx q k = some r → ∃ x1 x2 x3 x4,k x1 x2 x3 x4 = some r) : NvF (nmV1 nest):=fun v R nx q k r h=>by
  have pt : ∀ {a : Pos} {f : Pos → AV},nmP a R nx q (fun b R nx q=>k (f b) R nx q) = some r → ∃ x1 x2 x3 x4,k x1 x2 x3 x4 = some r:=fun h=>by
    obtain ⟨_,_,_,_,h⟩:=nmP_f h
    exact ⟨_,_,_,_,h⟩
  cases v with
  | ptr a o=>exact pt (f:=fun b=>.ptr b o) h
  | slc a o n z=>exact pt (f:=fun b=>.slc b o n z) h
  | slcE a o z=>exact pt (f:=fun b=>.slcE b o z) h
  | map a=>exact pt (f:=fun b=>.map b) h
  | ltr i a =>
    replace h : nmL a R nx q (fun R nx q=>k (.ltr i a) R nx q) = some r:=h
    unfold nmL at h
    rw [getC_eq] at h
    cases e : T.get a R with
    | some b=>rw [e] at h; exact ⟨_,_,_,_,h⟩
    | none =>
      rw [e] at h
      replace h : setC (some a) a R (fun R=>k (.ltr i a) R nx ((a,a) :: q)) = some r:=h
      rw [setC_eq] at h
      exact ⟨_,_,_,_,h⟩
  | agg l=>obtain ⟨_,_,_,_,h⟩:=hn _ _ _ _ _ _ h; exact ⟨_,_,_,_,h⟩
  | tup l=>obtain ⟨_,_,_,_,h⟩:=hn _ _ _ _ _ _ h; exact ⟨_,_,_,_,h⟩
  | txt l=>obtain ⟨_,_,_,_,h⟩:=hn _ _ _ _ _ _ h; exact ⟨_,_,_,_,h⟩
  | _=>exact ⟨_,_,_,_,h⟩
theorem nmsC_f {f : NV} (hf : NvF f) : ∀ v R nx q k r,nmsC f v R nx q k = some r → ∃ x1 x2 x3 x4,k x1 x2 x3 x4 = some r
  | [],R,nx,q,k,r,h=>⟨_,_,_,_,h⟩
  | v :: l,R,nx,q,k,r,h=>by
    obtain ⟨_,_,_,_,h⟩:=hf _ _ _ _ _ _ h
    obtain ⟨_,_,_,_,h⟩:=nmsC_f hf l _ _ _ _ _ h
    exact ⟨_,_,_,_,h⟩
theorem nmC_f : ∀ n,NvF (nmC n)
  | 0=>nmV1_f (nest:=fun _ _ _ _ _=>none) fun _ _ _ _ _ _ h=>by cases h
  | n + 1=>nmV1_f (nmsC_f (nmC_f n))
theorem nmrC_f {f : NV} (hf : NvF f) {c : T AV} : ∀ n i R nx q k r,nmrC f c n i R nx q k = some r → ∃ x1 x2 x3 x4,k x1 x2 x3 x4 = some r
  | 0,i,R,nx,q,k,r,h=>⟨_,_,_,_,h⟩
  | n + 1,i,R,nx,q,k,r,h=>by
    replace h : atC c i (fun v=>f v R nx q fun v R nx q=>natC (Nat.succ i) fun j=>nmrC f c n j R nx q fun l R nx q=>k (v :: l) R nx q) = some r:=h
    rw [atC_eq] at h
    obtain ⟨_,_,h⟩:=optK_ok h
    obtain ⟨_,_,_,_,h⟩:=hf _ _ _ _ _ _ h
    rw [natC_eq] at h
    obtain ⟨_,_,_,_,h⟩:=nmrC_f hf n _ _ _ _ _ _ h
    exact ⟨_,_,_,_,h⟩
theorem nmB_f {b : AB} {R : T Pos} {nx : Pos} {q : Wl} {k : NK PK} {r : CRes} (h : nmB b R nx q k = some r) : ∃ x1 x2 x3 x4,k x1 x2 x3 x4 = some r:=by
  cases b with
  | cells ro n c =>
    obtain ⟨_,_,_,_,h⟩:=nmrC_f (nmC_f 4) _ _ _ _ _ _ _ h
    exact ⟨_,_,_,_,h⟩
  | mp es i =>
    cases es with
    | nil=>exact ⟨_,_,_,_,h⟩
    | cons _ _=>cases h
  | gh _=>exact ⟨_,_,_,_,h⟩
  | _=>cases h
theorem wkC_f {t : T AB} : ∀ n q R nx k r,wkC t n q R nx k = some r → ∃ L ny,k L ny = some r
  | 0,q,R,nx,k,r,h=>by cases h
  | n + 1,[],R,nx,k,r,h=>⟨_,_,h⟩
  | n + 1,ab :: q,R,nx,k,r,h=>by
    replace h : getC ab.1 t (fun y=>optK (fun b=>nmB b R nx q fun pk R nx q=>wkC t n q R nx fun L nx=>k ((ab.2,pk) :: L) nx) y) = some r:=h
    rw [getC_eq] at h
    obtain ⟨_,_,h⟩:=optK_ok h
    obtain ⟨_,_,_,_,h⟩:=nmB_f h
    obtain ⟨_,_,h⟩:=wkC_f n _ _ _ _ _ h
    exact ⟨_,_,h⟩
theorem canC_f {vs : List AV} {t : T AB} {R : T Pos} {nx : Pos} {q : Wl} {k : List AV → List PB → Pos → Rz} {r : CRes} (h : canC vs t R nx q k = some r) : ∃ vs' L ny,k vs' L ny = some r:=by
  obtain ⟨_,_,_,_,h⟩:=nmsC_f (nmC_f 4) _ _ _ _ _ _ h
  obtain ⟨_,_,h⟩:=wkC_f _ _ _ _ _ _ h
  exact ⟨_,_,_,h⟩
theorem partC_f {v : AV} {i : Nat} {k : AV → Rz} {r : CRes} (h : partC v i k = some r) : ∃ x,k x = some r:=by
  unfold partC at h
  rw [tupC_eq] at h
  split at h
  · rw [lgetC_eq] at h
    obtain ⟨x,_,h⟩:=optK_ok h
    exact ⟨x,h⟩
  · cases h
theorem cutsC_f {v : AV} : ∀ (cs : List (Nat × Nat × Nat)) (k : List AV → Rz) (r : CRes),cutsC v cs k = some r → ∃ l,k l = some r
  | [],k,r,h=>⟨_,h⟩
  | c :: cs,k,r,h=>by
    obtain ⟨x,h⟩:=partC_f h
    obtain ⟨l,h⟩:=cutsC_f cs _ _ h
    rw [lstC_eq] at h
    exact ⟨_,h⟩
theorem srcsC_f {rg : Rg2} : ∀ (ss : List (Nat × List (Nat × Nat × Nat))) (nx : Pos) (k : List AV → List PB → Rz) (r : CRes),srcsC rg ss nx k = some r → ∃ l L,k l L = some r
  | [],nx,k,r,h=>⟨_,_,h⟩
  | s :: ss,nx,k,r,h=>by
    replace h : lgetC rg s.1 (fun vt=>cutsC vt.1 s.2 fun l=>canC l vt.2 .leaf nx [] fun l L nx=>srcsC rg ss nx fun l' L'=>lstC (appR l l') fun l=>lstC (appR L L') fun L=>k l L) = some r:=h
    rw [lgetC_eq] at h
    obtain ⟨_,_,h⟩:=optK_ok h
    obtain ⟨_,h⟩:=cutsC_f _ _ _ h
    obtain ⟨_,_,_,h⟩:=canC_f h
    obtain ⟨_,_,h⟩:=srcsC_f ss _ _ _ h
    rw [lstC_eq,lstC_eq] at h
    exact ⟨_,_,h⟩
theorem argsC_f {pool : List AV} : ∀ (as : List (Bool × Nat × Nat)) (k : List AV → Rz) (r : CRes),argsC pool as k = some r → ∃ l,k l = some r
  | [],k,r,h=>⟨_,h⟩
  | a :: as,k,r,h=>by
    replace h : lstC (takeR a.2.2 (dropR a.2.1 pool)) (fun l=>argsC pool as fun vs=>Bool.rec (motive:=fun _=>Rz) (List.rec (motive:=fun _=>Rz) none (fun v _ _=>k (v :: vs)) l) (k (.agg l :: vs)) a.1) = some r:=h
    rw [lstC_eq] at h
    obtain ⟨vs,h⟩:=argsC_f as _ _ h
    cases e : a.1 with
    | true=>rw [e] at h; exact ⟨_,h⟩
    | false =>
      rw [e] at h
      generalize takeR a.2.2 (dropR a.2.1 pool) = l at h
      cases l with
      | nil=>cases h
      | cons v _=>exact ⟨_,h⟩
theorem keepC_f {kp : Bool} : ∀ (L : List PB) (k : List (Bool × PB) → T Pos → Rz) (r : CRes),keepC kp L k = some r → ∃ L' R,k L' R = some r
  | [],k,r,h=>⟨_,_,h⟩
  | p :: L,k,r,h=>by
    obtain ⟨L',R,h⟩:=keepC_f L _ _ h
    have one : ∀ {b : Bool},setC (some p.1) p.1 R (fun R=>k ((b,p) :: L') R) = some r → ∃ L' R,k L' R = some r:=fun h=>by
      rw [setC_eq] at h
      exact ⟨_,_,h⟩
    obtain ⟨p1,p2⟩:=p
    cases p2 with
    | gh _=>exact one h
    | ce _ _ =>
      cases kp with
      | false=>exact ⟨_,_,h⟩
      | true=>exact one h
    | mp _ =>
      cases kp with
      | false=>exact ⟨_,_,h⟩
      | true=>exact one h
theorem run_ok {K : KTbl} (hmix : P.follows .mixedOrders = true) (ok : TblOk P tb NN K.tbl) {n g : Nat} {as : List AV} {L0 : List (Bool × PB)} {R0 : T Pos} {k : Ct → AV → T AB → Rz} {r : CRes}
    (h : runC K n g as L0 R0 k = some r) : ∃ c v t,CtOk P tb NN g c ∧ c.as = as ∧ c.L0 = L0 ∧ k c v t = some r:=by
  unfold runC at h
  rw [initC_eq,callC_eq K n] at h
  cases hh : callT K.tbl n false (.fn g [] []) as .no ⟨tOf (L0.map Prod.snd) .leaf,n0P⟩ with
  | none=>rw [hh] at h; cases h
  | some r' =>
    rw [hh] at h
    have hc:=(callT_ok hmix ok n).1 _ _ _ _ hh
    cases r' with
    | pan v h p=>cases h
    | ret v hr p =>
      obtain ⟨h1,h2⟩:=ifC_ok h
      obtain ⟨vs,L1,ny,h3⟩:=canC_f h2
      rw [natC_eq] at h3
      cases vs with
      | nil=>cases h3
      | cons v' vs =>
        obtain ⟨h4,h5⟩:=ifC_ok h3
        cases e : cmpC ⟨as,L0,v',L1,Nat.sub ny.nat 256⟩ v hr.t with
        | none=>rw [e] at h5; cases h5
        | some r2 =>
          rw [e] at h5
          obtain ⟨τ,r1,r2⟩:=ren_of (nx:=hr.next) (Nat.le_of_ble_eq_true h1) e
          exact ⟨⟨as,L0,v',L1,Nat.sub ny.nat 256⟩,v,hr.t,⟨CalOk.ren (p':=.no) r1 r2 hc,h4⟩,rfl,rfl,h5⟩
theorem jobC_ok {K : KTbl} (hmix : P.follows .mixedOrders = true) (ok : TblOk P tb NN K.tbl) {n : Nat} {rg : Rg2} {j : Jb} {k : Ct → AV → T AB → Rz} {r : CRes}
    (h : jobC K n rg j k = some r) : ∃ c v t,CtOk P tb NN j.g c ∧ k c v t = some r:=by
  cases j with
  | nrm g lits srcs args keep =>
    obtain ⟨l,L,h⟩:=srcsC_f _ _ _ _ h
    rw [lstC_eq] at h
    obtain ⟨as,h⟩:=argsC_f _ _ _ h
    obtain ⟨L0,R0,h⟩:=keepC_f _ _ _ h
    obtain ⟨c,v,t,h1,_,_,h2⟩:=run_ok hmix ok h
    exact ⟨c,v,t,h1,h2⟩
  | eff g pre N srcs args keep =>
    obtain ⟨l,L,h⟩:=srcsC_f _ _ _ _ h
    obtain ⟨as,h⟩:=argsC_f _ _ _ h
    obtain ⟨L0,R0,h⟩:=keepC_f _ _ _ h
    obtain ⟨c,v,t,h1,h2,h3,h4⟩:=run_ok hmix ok h
    obtain ⟨h5,h6⟩:=allE_ok hmix ok _ h4
    refine ⟨⟨.agg (appR pre [.ge 0]) :: as,c.L0,c.v,c.L1,c.fr⟩,v,t,⟨?_,h1.one⟩,h6⟩
    have h7:=h1.cal
    rw [h2,appR_eq] at h7
    exact CalOk.split (N:=N) (pre:=pre) (as:=as) (h:=c.h0) (r:=.ret c.v c.h1 .no) (fun e he=>(h5 e he).cal) h7
theorem runJ_ok {mk : List (Nat × Ct) → KTbl} (hmix : P.follows .mixedOrders = true) (ok : ∀ tab,(∀ x,x ∈ tab → CtOk P tb NN x.1 x.2) → TblOk P tb NN (mk tab).tbl) {n : Nat} : ∀ (js : List Jb) (tab : List (Nat × Ct)) (rg : Rg2) (k : List (Nat × Ct) → Rz) (r : CRes),(∀ x,x ∈ tab → CtOk P tb NN x.1 x.2) → runJ mk n js tab rg k = some r → ∃ tab',(∀ x,x ∈ tab' → CtOk P tb NN x.1 x.2) ∧ k tab' = some r
  | [],tab,rg,k,r,ht,h=>⟨tab,ht,h⟩
  | j :: js,tab,rg,k,r,ht,h=>by
    obtain ⟨c,v,t,h1,h2⟩:=jobC_ok hmix (ok tab ht) (n:=n) (rg:=rg) (j:=j) h
    rw [lstC_eq] at h2
    refine runJ_ok hmix ok js _ _ _ _ (fun x hx=>?_) h2
    rcases List.mem_cons.1 hx with rfl | hx
    · exact h1
    · exact ht x hx
theorem ctsG_ok {g : Nat} : ∀ {L : List (Nat × Ct)} (_ : ∀ x,x ∈ L → CtOk P tb NN x.1 x.2) {as : List AV} {h : H} {r : CRes},ctsG L g as h = some r → CalOk P tb NN (.fn g [] []) as h r
  | [],_,as,h,r,hh=>by cases hh
  | x :: L,hL,as,h,r,hh=>by
    have rest : ctsG L g as h = some r → CalOk P tb NN (.fn g [] []) as h r:=ctsG_ok fun d hd=>hL d (List.mem_cons_of_mem _ hd)
    replace hh : Bool.rec (motive:=fun _=>Rz) (ctsG L g as h) (Option.rec (motive:=fun _=>Rz) (ctsG L g as h) some (ctF x.2 as h.t h.next fun v t nx=>some (.ret v ⟨t,nx⟩ .no))) (Nat.beq x.1 g) = some r:=hh
    cases e1 : Nat.beq x.1 g with
    | false=>rw [e1] at hh; exact rest hh
    | true =>
      rw [e1] at hh
      have hg:=Nat.eq_of_beq_eq_true e1
      cases e : ctF x.2 as h.t h.next (fun v t nx=>some (.ret v ⟨t,nx⟩ .no)) with
      | none=>rw [e] at hh; exact rest hh
      | some r' =>
        rw [e] at hh
        injection hh with hh
        subst hh
        subst hg
        obtain ⟨v',t',nx',g1,g2⟩:=ctF_ok (hL x List.mem_cons_self) e
        injection g1 with g1
        subst g1
        exact g2
def fin1 (K : KTbl) (n g : Nat) (t0 : T AB) (as : List AV) (chk : AV → Rz) : Rz:=callC K n false (.fn g [] []) as .no t0 n0P (fun v _ _ _=>chk v) (fun _ _ _ _=>none)
def finsC (K : KTbl) (n g : Nat) (t0 : T AB) (chk : AV → Rz) (k : Rz) (L : List (List AV)) : Rz:=List.rec (motive:=fun _=>Rz) k (fun as _ ih=>tokC (fin1 K n g t0 as chk) ih) L
theorem fin1_ok {K : KTbl} (hmix : P.follows .mixedOrders = true) (ok : TblOk P tb NN K.tbl) {n g : Nat} {t0 : T AB} {as : List AV} {chk : AV → Rz} {r : CRes} (hm : K.mac g = none) (h : fin1 K n g t0 as chk = some r) : ∃ v h' p,FnOk P tb NN g .normal as .no ⟨t0,n0P⟩ (.ret v h' p) ∧ chk v = some r:=by
  unfold fin1 at h
  rw [callC_eq K n] at h
  cases hh : callT K.tbl n false (.fn g [] []) as .no ⟨t0,n0P⟩ with
  | none=>rw [hh] at h; cases h
  | some r' =>
    rw [hh] at h
    have hc:=callT_fn hmix ok hm hh
    cases r' with
    | pan v h p=>cases h
    | ret v hr p=>exact ⟨v,hr,p,hc,h⟩
theorem finsC_ok {K : KTbl} (hmix : P.follows .mixedOrders = true) (ok : TblOk P tb NN K.tbl) {n g : Nat} {t0 : T AB} {chk : AV → Rz} {k : Rz} {r : CRes} (hm : K.mac g = none) : ∀ L : List (List AV),finsC K n g t0 chk k L = some r → (∀ as,as ∈ L → ∃ v h' p r',FnOk P tb NN g .normal as .no ⟨t0,n0P⟩ (.ret v h' p) ∧ chk v = some r') ∧ k = some r
  | [],h=>⟨fun as ha=>by (cases ha),h⟩
  | as :: L,h=>by
    obtain ⟨⟨r',h1⟩,h2⟩:=tokC_ok h
    obtain ⟨h3,h4⟩:=finsC_ok hmix ok hm L h2
    refine ⟨fun x hx=>?_,h4⟩
    rcases List.mem_cons.1 hx with rfl | hx
    · obtain ⟨v,h',p,q1,q2⟩:=fin1_ok hmix ok hm h1
      exact ⟨v,h',p,r',q1,q2⟩
    · exact h3 x hx
end
end
end Am
end Go.Proofs.YtadbcnekkceoaaaGreatDoor
namespace Go.Proofs.YtadbcnekkceoaaaGreatDoor
namespace Am
def idxN (x : Nat) : List Nat → Nat → Option Nat | [],_=>none | y :: l,n=>bif Nat.beq x y then some n else idxN x l (Nat.succ n)
def mIndex (l : List AV) (h : H) : Option CRes:=match l with
  | [.str s,.int .u8 (.ofNat b)]=>bif Nat.blt b 256 then (match idxN b s 0 with | some i=>some (.ret (.goInt i) h .no) | none=>some (.ret (.int .i64 (.negSucc 0)) h .no)) else none
  | _=>none
def mCopy (bl : List (Nat × Nat × Nat)) (l : List AV) (h : H) : Option CRes:=match l with
  | [.ptr b o]=>(match h.get b with
    | some (.cells false n c)=>(match c.at o with
      | some .nilp=>(match T.get mkP c with
        | some (.tyv t)=>bif bl.any (fun x=>Nat.beq x.1 t && (Nat.beq x.2.1 o && Nat.ble x.2.2 n)) && Nat.blt o n then some (.ret (.tup []) (h.set b (.cells false n (c.layN o [.ptr b o]))) .no) else none
        | _=>none)
      | some (.ptr b' o')=>bif Pos.beq b b' && (Nat.beq o o' && Nat.blt o n) then some (.ret (.tup []) h .no) else none
      | _=>none)
    | _=>none)
  | _=>none
def rowB (c : T AV) (o : Nat) : Nat → Option (List Nat)
  | 0=>some []
  | n + 1=>match c.at o with
    | some (.int .u8 (.ofNat b))=>bif Nat.blt b 256 then (match rowB c (Nat.succ o) n with | some l=>some (b :: l) | none=>none) else none
    | _=>none
def mString (t8 : Nat) (l : List AV) (h : H) : Option CRes:=match l with
  | [.ptr b o]=>(match h.get b with
    | some (.cells false n c)=>bif Nat.blt (Nat.succ o) n then (match c.at (Nat.succ o) with
      | some .nils=>some (.ret (.str []) h .no)
      | some (.slc a 0 k 1)=>(match h.get a with
        | some (.cells false q d)=>(match T.get mkP d with
          | some (.tyv t)=>bif Nat.beq t t8 && (Nat.blt 0 k && Nat.ble k q) then (match rowB d 0 k with | some s=>some (.ret (.str s) (h.set a (.cells true q d)) .no) | none=>none) else none
          | _=>none)
        | _=>none)
      | _=>none) else none
    | _=>none)
  | _=>none
def digs : Nat → Nat → List Nat → List Nat
  | 0,_,acc=>acc
  | f + 1,n,acc=>bif Nat.ble n 9 then (Nat.add 48 n) :: acc else digs f (Nat.div n 10) (Nat.add 48 (Nat.mod n 10) :: acc)
def pw10 (t : T AV) (p : Nat) : Nat → Nat → Bool
  | 0,_=>true
  | n + 1,j=>match t.at j with | some (.int .u64 (.ofNat x))=>Nat.beq x p && pw10 t (Nat.mul 10 p) n (Nat.succ j) | _=>false
def mItoa (g : Nat) (l : List AV) (h : H) : Option CRes:=match l with
  | [.int .i64 (.ofNat n)]=>bif Nat.blt n 100 then some (.ret (.str (digs 3 n [])) h .no) else
    (match h.get .xH,h.get (.xO .xH) with
    | some (.cells true 20 c),some (.cells true 1 d)=>(match d.at 0 with
      | some (.glb .xH g' 20)=>bif Nat.beq g g' && (pw10 c 1 20 0 && Nat.blt n 1000) then some (.ret (.str (digs 4 n [])) h .no) else none
      | _=>none)
    | _,_=>none)
  | _=>none
def trimL (c : List Nat) : List Nat → List Nat | []=>[] | x :: l=>bif c.any (Nat.beq x) then trimL c l else x :: l
def trimR (c : List Nat) : List Nat → List Nat | []=>[] | x :: l=>(match trimR c l with | []=>bif c.any (Nat.beq x) then [] else [x] | y :: k=>x :: y :: k)
def asc (c : List Nat) : Bool:=c.all fun x=>Nat.blt x 128
def okT (s c : List Nat) : Bool:=asc c && (Nat.ble s.length 1000000 && Nat.ble c.length 1000)
def mTrimL (l : List AV) (h : H) : Option CRes:=match l with | [.str s,.str c]=>bif okT s c then some (.ret (.str (trimL c s)) h .no) else none | _=>none
def mTrim (l : List AV) (h : H) : Option CRes:=match l with | [.str s,.str c]=>bif okT s c then some (.ret (.str (trimL c (trimR c s))) h .no) else none | _=>none
def rowI (c : T AV) (o : Nat) : Nat → Option (List Nat)
  | 0=>some []
  | n + 1=>match c.at o with
    | some (.int .i64 (.ofNat b))=>(match rowI c (Nat.succ o) n with | some l=>some (b :: l) | none=>none)
    | _=>none
def natsEq : List Nat → List Nat → Bool | [],[]=>true | a :: l,b :: k=>Nat.beq a b && natsEq l k | _,_=>false
def ordT : List (List Nat × Nat × List Nat):=[([1,0],2,[2,0,0,1,1,2]),([1,0],4,[4,0,0,1,1,4]),([0,2,1],5,[5,1,1,2,2,5]),([1,2,3,0],4,[4,0,0,1,1,2,2,3,3,4]),([1,2,3,0],6,[6,0,0,1,1,2,2,3,3,6])]
def ordF (l : List Nat) (s : Nat) : List (List Nat × Nat × List Nat) → Option (List Nat)
  | []=>none
  | x :: L=>bif natsEq x.1 l && Nat.beq x.2.1 s then some x.2.2 else ordF l s L
def mOrder (l : List AV) (h : H) : Option CRes:=match l with
  | [.slc a o n 1,.int .i64 (.ofNat s)]=>(match h.get a with
    | some (.cells _ q c)=>bif Nat.ble (Nat.add o n) q then (match rowI c o n with
      | some xs=>(match ordF xs s ordT with
        | some ms=>some (.ret (.tup [.slc h.next 0 (Nat.div ms.length 2) 2,.int .i64 (.ofNat 0)]) ((h.res 1).set h.next (.cells false ms.length (T.layN .leaf 0 (ms.map fun x=>.int .i64 (.ofNat x))))) .no)
        | none=>none)
      | none=>none) else none
    | _=>none)
  | _=>none
end Am
end Go.Proofs.YtadbcnekkceoaaaGreatDoor
namespace Go.Proofs.YtadbcnekkceoaaaGreatDoor
namespace Am
def digK (k : Nat) : Bool:=Nat.ble 9 (ltF k) && Nat.ble (ltF k) 11
def digL (n : Nat) (a : Pos) : List AV:=match n with
  | 1=>[.ltr 25 a] | 2=>[.ltr 41 a,.ltr 42 a] | 3=>[.ltr 57 a,.ltr 58 a,.ltr 59 a] | _=>[]
def tenN : List Nat:=[48,49,50,51,52,53,54,55,56,57]
def tens (s : List Nat) : Bool:=tenN.all fun b=>s.any (Nat.beq b)
def preN : List Nat → Nat | []=>0 | b :: s=>bif Nat.ble 48 b && Nat.ble b 57 then 0 else Nat.succ (preN s)
def isB (b : Nat) : AV → Option Bool
  | .int .u8 (.ofNat n)=>some (Nat.beq b n)
  | .ltr k _=>bif ltNe k (.ofNat b) then some false else none
  | _=>none
def idxA (b : Nat) : List AV → Nat → Option (Option Nat)
  | [],_=>some none
  | v :: l,n=>match isB b v with | some true=>some (some n) | some false=>idxA b l (Nat.succ n) | none=>none
def lIndex (l : List AV) (h : H) : Option CRes:=match l with
  | [.str s,.ltr k _]=>bif digK k && (Nat.ble s.length 1000 && tens s) then some (.ret (.ge (preN s)) h .no) else none
  | [.txt t,.int .u8 (.ofNat b)]=>bif Nat.blt b 256 then (match idxA b t 0 with | some (some i)=>some (.ret (.goInt i) h .no) | some none=>some (.ret (.int .i64 (.negSucc 0)) h .no) | none=>none) else none
  | _=>none
def memA (c : List Nat) : AV → Option Bool
  | .int .u8 (.ofNat n)=>some (c.any (Nat.beq n))
  | .ltr k _=>bif c.all (fun b=>ltNe k (.ofNat b)) then some false else bif digK k && tens c then some true else none
  | _=>none
def trimLA (c : List Nat) : List AV → Option (List AV)
  | []=>some []
  | v :: l=>match memA c v with | some true=>trimLA c l | some false=>some (v :: l) | none=>none
def trimRA (c : List Nat) : List AV → Option (List AV)
  | []=>some []
  | v :: l=>match trimRA c l with
    | some []=>(match memA c v with | some true=>some [] | some false=>some [v] | none=>none)
    | some (y :: k)=>some (v :: y :: k)
    | none=>none
def okTA (s : List AV) (c : List Nat) : Bool:=asc c && (Nat.ble s.length 1000000 && Nat.ble c.length 1000)
def lTrimL (l : List AV) (h : H) : Option CRes:=match l with | [.txt s,.str c]=>bif okTA s c then (match trimLA c s with | some r=>some (.ret (txN r) h .no) | none=>none) else none | _=>none
def lTrim (l : List AV) (h : H) : Option CRes:=match l with | [.txt s,.str c]=>bif okTA s c then (match trimRA c s with | some r=>(match trimLA c r with | some r=>some (.ret (txN r) h .no) | none=>none) | none=>none) else none | _=>none
def digH (h : H) (k : Nat) (a : Pos) : Nat:=match Nat.div k 16 with | 0=>(match h.get a with | some (.gh n)=>n | _=>0) | n=>n
def lItoa (g : Nat) (l : List AV) (h : H) : Option CRes:=match l with
  | [.ltr k a]=>bif Nat.beq (ltF k) 0 then (match digH h k a with
    | 1=>some (.ret (.txt (digL 1 a)) h .no)
    | 2=>some (.ret (.txt (digL 2 a)) h .no)
    | 3=>(match h.get .xH,h.get (.xO .xH) with
      | some (.cells true 20 c),some (.cells true 1 d)=>(match d.at 0 with
        | some (.glb .xH g' 20)=>bif Nat.beq g g' && pw10 c 1 20 0 then some (.ret (.txt (digL 3 a)) h .no) else none
        | _=>none)
      | _,_=>none)
    | _=>none) else none
  | _=>none
def lAtoi (l : List AV) (h : H) : Option CRes:=match l with
  | [.txt [.ltr 25 a]]=>some (.ret (.tup [.ltr 0 a,.nili]) h .no)
  | [.txt [.ltr 41 a,.ltr 42 b]]=>bif Pos.beq a b then some (.ret (.tup [.ltr 0 a,.nili]) h .no) else none
  | [.txt [.ltr 57 a,.ltr 58 b,.ltr 59 c]]=>bif Pos.beq a b && Pos.beq a c then some (.ret (.tup [.ltr 0 a,.nili]) h .no) else none
  | _=>none
def rowA (c : T AV) (o : Nat) : Nat → Option (List AV)
  | 0=>some []
  | n + 1=>match c.at o with
    | some (.int .u8 (.ofNat b))=>bif Nat.blt b 256 then (match rowA c (Nat.succ o) n with | some l=>some (.int .u8 (.ofNat b) :: l) | none=>none) else none
    | some (.ltr k a)=>bif digK k then (match rowA c (Nat.succ o) n with | some l=>some (.ltr k a :: l) | none=>none) else none
    | _=>none
def lString (t8 : Nat) (l : List AV) (h : H) : Option CRes:=match l with
  | [.ptr b o]=>(match h.get b with
    | some (.cells false n c)=>bif Nat.blt (Nat.succ o) n then (match c.at (Nat.succ o) with
      | some (.slc a 0 k 1)=>(match h.get a with
        | some (.cells false q d)=>(match T.get mkP d with
          | some (.tyv t)=>bif Nat.beq t t8 && (Nat.blt 0 k && Nat.ble k q) then (match rowA d 0 k with | some s=>some (.ret (txN s) (h.set a (.cells true q d)) .no) | none=>none) else none
          | _=>none)
        | _=>none)
      | _=>none) else none
    | _=>none)
  | _=>none
end Am
end Go.Proofs.YtadbcnekkceoaaaGreatDoor
namespace Go.Proofs.YtadbcnekkceoaaaGreatDoor
namespace Am
noncomputable section
inductive TV
  | i (n : Nat) | m (n : Nat) | b (x : Bool) | s (l : List Nat) | e | j | g (n : Nat)
  | r (n z : Nat) (l : List TV)
  | q (o n z : Nat) (l : List TV)
  | h (n w : Nat)
  | x (p : List Nat) (n : Nat) (q : List Nat) (k : Nat) (r : List Nat)
inductive TA | a (l : List TV) | o (x : TV)
structure CL where
  eff : Bool
  args : List TA
  keep : Bool
  tup : Bool
  res : List TA
def letP (w : Nat) : Pos:=Nat.rec (motive:=fun _=>Pos) (.xO (.xO (.xO (.xI (.xO (.xO (.xI .xH))))))) (fun _ _=>.xI (.xO (.xO (.xI (.xO (.xO (.xI .xH))))))) w
def txtX (p : List Nat) (n : Nat) (q : List Nat) (k : Nat) (r : List Nat) : List AV:=p.map byA ++ digL n (letP 0) ++ q.map byA ++ digL k (letP 1) ++ r.map byA
section
variable {ρ : Type}
def sucP (p : Pos) : (Pos → ρ) → ρ:=Pos.rec (motive:=fun _=>(Pos → ρ) → ρ) (fun k=>k (.xO .xH)) (fun p _ k=>k (.xI p)) (fun _ ih k=>ih fun q=>k (.xO q)) p
def appP {α : Type} (l : List α) (l' : List α) : (List α → ρ) → ρ:=List.rec (motive:=fun _=>(List α → ρ) → ρ) (fun k=>k l') (fun x _ ih k=>ih fun l=>k (x :: l)) l
abbrev DK (ρ : Type) (α : Type):=Pos → (α → List PB → Pos → ρ) → ρ
def decs (x : List TV) : DK ρ (List AV):=TV.rec_1 (motive_1:=fun _=>DK ρ AV) (motive_2:=fun _=>DK ρ (List AV))
  (fun n nx k=>k (.int .i64 (.ofNat n)) [] nx) (fun n nx k=>k (.int .i64 (.negSucc n)) [] nx) (fun x nx k=>k (.bool x) [] nx) (fun l nx k=>k (.str l) [] nx) (fun nx k=>k .nils [] nx) (fun nx k=>k .junk [] nx) (fun n nx k=>k (.ge n) [] nx)
  (fun n z _ ih nx k=>sucP nx fun ny=>ih ny fun cs L nz=>k (.slc nx 0 n z) ((nx,.ce false cs) :: L) nz)
  (fun o n z _ ih nx k=>sucP nx fun ny=>ih ny fun cs L nz=>k (.slc nx o n z) ((nx,.ce false cs) :: L) nz)
  (fun q w nx k=>k (.ltr 0 (letP w)) [(letP w,.gh q)] nx)
  (fun p n q j r nx k=>k (.txt (txtX p n q j r)) [(letP 0,.gh n),(letP 1,.gh j)] nx)
  (fun nx k=>k [] [] nx) (fun _ _ ih il nx k=>ih nx fun v L ny=>il ny fun vs L' nz=>appP L L' fun L=>k (v :: vs) L nz) x
def dec1 (x : TV) : DK ρ AV:=TV.rec (motive_1:=fun _=>DK ρ AV) (motive_2:=fun _=>DK ρ (List AV))
  (fun n nx k=>k (.int .i64 (.ofNat n)) [] nx) (fun n nx k=>k (.int .i64 (.negSucc n)) [] nx) (fun x nx k=>k (.bool x) [] nx) (fun l nx k=>k (.str l) [] nx) (fun nx k=>k .nils [] nx) (fun nx k=>k .junk [] nx) (fun n nx k=>k (.ge n) [] nx)
  (fun n z _ ih nx k=>sucP nx fun ny=>ih ny fun cs L nz=>k (.slc nx 0 n z) ((nx,.ce false cs) :: L) nz)
  (fun o n z _ ih nx k=>sucP nx fun ny=>ih ny fun cs L nz=>k (.slc nx o n z) ((nx,.ce false cs) :: L) nz)
  (fun q w nx k=>k (.ltr 0 (letP w)) [(letP w,.gh q)] nx)
  (fun p n q j r nx k=>k (.txt (txtX p n q j r)) [(letP 0,.gh n),(letP 1,.gh j)] nx)
  (fun nx k=>k [] [] nx) (fun _ _ ih il nx k=>ih nx fun v L ny=>il ny fun vs L' nz=>appP L L' fun L=>k (v :: vs) L nz) x
def decA (x : TA) : DK ρ AV:=TA.rec (motive:=fun _=>DK ρ AV) (fun l nx k=>decs l nx fun vs L ny=>k (.agg vs) L ny) (fun x nx k=>dec1 x nx k) x
def decAs (xs : List TA) : DK ρ (List AV):=List.rec (motive:=fun _=>DK ρ (List AV)) (fun nx k=>k [] [] nx) (fun x _ ih nx k=>decA x nx fun v L ny=>ih ny fun vs L' nz=>appP L L' fun L=>k (v :: vs) L nz) xs
def flagP (kp : Bool) (L : List PB) : (List (Bool × PB) → ρ) → ρ:=List.rec (motive:=fun _=>(List (Bool × PB) → ρ) → ρ) (fun k=>k []) (fun p _ ih k=>ih fun L=>PK.rec (motive:=fun _=>ρ) (fun _ _=>k ((kp,p) :: L)) (fun _=>k ((kp,p) :: L)) (fun _=>k ((true,p) :: L)) p.2) L
def noG (L : List PB) : (List PB → ρ) → ρ:=List.rec (motive:=fun _=>(List PB → ρ) → ρ) (fun k=>k []) (fun p _ ih k=>PK.rec (motive:=fun _=>ρ) (fun _ _=>ih fun L=>k (p :: L)) (fun _=>ih fun L=>k (p :: L)) (fun _=>ih k) p.2) L
def natP (n : Nat) (k : Nat → ρ) : ρ:=Nat.rec (motive:=fun _=>ρ) (k 0) (fun m _=>k (Nat.succ m)) n
def litK (x : CL) (k : AV → List AV → List (Bool × PB) → AV → List PB → Nat → ρ) (d : ρ) : ρ:=CL.rec (motive:=fun _=>ρ) (fun _ args keep tup res =>
  decAs args .xH fun as L _=>flagP keep L fun L0=>decAs res n0P fun vs L1 _=>noG L1 fun L1=>natP (lenR L1) fun fr =>
  List.rec (motive:=fun _=>ρ) d (fun a as _=>Bool.rec (motive:=fun _=>ρ) (List.rec (motive:=fun _=>ρ) d (fun v _ _=>k a as L0 v L1 fr) vs) (k a as L0 (.tup vs) L1 fr) tup) as) x
end
def aggR (v : AV) : List AV:=cellsR v
def noCt : Ct:=⟨[],[],.junk,[],0⟩
def withE (eff : Bool) (a : AV) : AV:=Bool.rec (motive:=fun _=>AV) a (.agg (appR (aggR a) [.ge 0])) eff
def lit (x : CL) : Ct:=litK x (fun a as L0 v L1 fr=>⟨withE x.eff a :: as,L0,v,L1,fr⟩) noCt
def litC (x : CL) (k : Ct → Rz) : Rz:=litK x (fun a as L0 v L1 fr=>k ⟨withE x.eff a :: as,L0,v,L1,fr⟩) none
section
variable {ρ : Type} {σ : Type}
def Tells {α : Type} (f : DK ρ α) (f' : DK σ α) : Prop:=∀ nx,∃ x L ny,(∀ k,f nx k = k x L ny) ∧ (∀ k,f' nx k = k x L ny)
theorem appP_eq {α : Type} : ∀ (l l' : List α) (k : List α → ρ),appP l l' k = k (l ++ l')
  | [],_,_=>rfl
  | x :: l,l',k=>by show appP l l' (fun l=>k (x :: l)) = _; rw [appP_eq l]; rfl
theorem sucP_eq : ∀ (p : Pos) (k : Pos → ρ),sucP p k = k p.succ
  | .xH,_=>rfl
  | .xO _,_=>rfl
  | .xI p,k=>by show sucP p (fun q=>k (.xO q)) = _; rw [sucP_eq p]; rfl
def gF (kp : Bool) : PK → Bool | .gh _=>true | _=>kp
theorem flagP_eq (kp : Bool) : ∀ (L : List PB) (k : List (Bool × PB) → ρ),flagP kp L k = k (L.map fun p=>(gF kp p.2,p))
  | [],_=>rfl
  | (a,.ce ro l) :: L,k=>by show flagP kp L (fun L=>k ((kp,(a,.ce ro l)) :: L)) = _; rw [flagP_eq kp L]; rfl
  | (a,.mp n) :: L,k=>by show flagP kp L (fun L=>k ((kp,(a,.mp n)) :: L)) = _; rw [flagP_eq kp L]; rfl
  | (a,.gh n) :: L,k=>by show flagP kp L (fun L=>k ((true,(a,.gh n)) :: L)) = _; rw [flagP_eq kp L]; rfl
def notG : PK → Bool | .gh _=>false | _=>true
theorem noG_eq : ∀ (L : List PB) (k : List PB → ρ),noG L k = k (L.filter fun p=>notG p.2)
  | [],_=>rfl
  | (a,.ce ro l) :: L,k=>by show noG L (fun L=>k ((a,.ce ro l) :: L)) = _; rw [noG_eq L]; rfl
  | (a,.mp n) :: L,k=>by show noG L (fun L=>k ((a,.mp n) :: L)) = _; rw [noG_eq L]; rfl
  | (a,.gh _) :: L,k=>noG_eq L k
theorem natP_eq (n : Nat) (k : Nat → ρ) : natP n k = k n:=by cases n <;> rfl
mutual
theorem dec1_tells : ∀ x : TV,Tells (dec1 (ρ:=ρ) x) (dec1 (ρ:=σ) x)
  | .i n,nx=>⟨.int .i64 (.ofNat n),[],nx,fun _=>rfl,fun _=>rfl⟩
  | .m n,nx=>⟨.int .i64 (.negSucc n),[],nx,fun _=>rfl,fun _=>rfl⟩
  | .b x,nx=>⟨.bool x,[],nx,fun _=>rfl,fun _=>rfl⟩
  | .s l,nx=>⟨.str l,[],nx,fun _=>rfl,fun _=>rfl⟩
  | .e,nx=>⟨.nils,[],nx,fun _=>rfl,fun _=>rfl⟩
  | .j,nx=>⟨.junk,[],nx,fun _=>rfl,fun _=>rfl⟩
  | .g n,nx=>⟨.ge n,[],nx,fun _=>rfl,fun _=>rfl⟩
  | .r n z l,nx=>by
    obtain ⟨cs,L,ny,h1,h2⟩:=decs_tells l nx.succ
    refine ⟨.slc nx 0 n z,(nx,PK.ce false cs) :: L,ny,fun k=>?_,fun k=>?_⟩
    · show sucP nx (fun ny=>decs l ny fun cs L nz=>k (.slc nx 0 n z) ((nx,PK.ce false cs) :: L) nz) = _
      rw [sucP_eq,h1]
    · show sucP nx (fun ny=>decs l ny fun cs L nz=>k (.slc nx 0 n z) ((nx,PK.ce false cs) :: L) nz) = _
      rw [sucP_eq,h2]
  | .q o n z l,nx=>by
    obtain ⟨cs,L,ny,h1,h2⟩:=decs_tells l nx.succ
    refine ⟨.slc nx o n z,(nx,PK.ce false cs) :: L,ny,fun k=>?_,fun k=>?_⟩
    · show sucP nx (fun ny=>decs l ny fun cs L nz=>k (.slc nx o n z) ((nx,PK.ce false cs) :: L) nz) = _
      rw [sucP_eq,h1]
    · show sucP nx (fun ny=>decs l ny fun cs L nz=>k (.slc nx o n z) ((nx,PK.ce false cs) :: L) nz) = _
      rw [sucP_eq,h2]
  | .h q w,nx=>⟨.ltr 0 (letP w),[(letP w,.gh q)],nx,fun _=>rfl,fun _=>rfl⟩
  | .x p n q j r,nx=>⟨.txt (txtX p n q j r),[(letP 0,.gh n),(letP 1,.gh j)],nx,fun _=>rfl,fun _=>rfl⟩
theorem decs_tells : ∀ x : List TV,Tells (decs (ρ:=ρ) x) (decs (ρ:=σ) x)
  | [],nx=>⟨[],[],nx,fun _=>rfl,fun _=>rfl⟩
  | x :: l,nx=>by
    obtain ⟨v,L,ny,h1,h2⟩:=dec1_tells x nx
    obtain ⟨vs,L',nz,h3,h4⟩:=decs_tells l ny
    refine ⟨v :: vs,L ++ L',nz,fun k=>?_,fun k=>?_⟩
    · show dec1 x nx (fun v L ny=>decs l ny fun vs L' nz=>appP L L' fun L=>k (v :: vs) L nz) = _
      rw [h1,h3,appP_eq]
    · show dec1 x nx (fun v L ny=>decs l ny fun vs L' nz=>appP L L' fun L=>k (v :: vs) L nz) = _
      rw [h2,h4,appP_eq]
end
theorem decA_tells : ∀ x : TA,Tells (decA (ρ:=ρ) x) (decA (ρ:=σ) x)
  | .a l,nx=>by
    obtain ⟨vs,L,ny,h1,h2⟩:=decs_tells l nx
    exact ⟨.agg vs,L,ny,fun k=>h1 _,fun k=>h2 _⟩
  | .o x,nx=>dec1_tells x nx
theorem decAs_tells : ∀ x : List TA,Tells (decAs (ρ:=ρ) x) (decAs (ρ:=σ) x)
  | [],nx=>⟨[],[],nx,fun _=>rfl,fun _=>rfl⟩
  | x :: l,nx=>by
    obtain ⟨v,L,ny,h1,h2⟩:=decA_tells x nx
    obtain ⟨vs,L',nz,h3,h4⟩:=decAs_tells l ny
    refine ⟨v :: vs,L ++ L',nz,fun k=>?_,fun k=>?_⟩
    · show decA x nx (fun v L ny=>decAs l ny fun vs L' nz=>appP L L' fun L=>k (v :: vs) L nz) = _
      rw [h1,h3,appP_eq]
    · show decA x nx (fun v L ny=>decAs l ny fun vs L' nz=>appP L L' fun L=>k (v :: vs) L nz) = _
      rw [h2,h4,appP_eq]
theorem litK_tells (x : CL) : (∃ a as L0 v L1 fr,(∀ k d,litK (ρ:=ρ) x k d = k a as L0 v L1 fr) ∧ (∀ k d,litK (ρ:=σ) x k d = k a as L0 v L1 fr)) ∨ ((∀ k d,litK (ρ:=ρ) x k d = d) ∧ ∀ k d,litK (ρ:=σ) x k d = d):=by
  obtain ⟨eff,args,keep,tup,res⟩:=x
  obtain ⟨as,L,ny,h1,h2⟩:=decAs_tells (ρ:=ρ) (σ:=σ) args .xH
  obtain ⟨vs,L1,nz,h3,h4⟩:=decAs_tells (ρ:=ρ) (σ:=σ) res n0P
  have e1 : ∀ (k : AV → List AV → List (Bool × PB) → AV → List PB → Nat → ρ) d,litK ⟨eff,args,keep,tup,res⟩ k d = List.rec (motive:=fun _=>ρ) d (fun a as _=>Bool.rec (motive:=fun _=>ρ) (List.rec (motive:=fun _=>ρ) d (fun v _ _=>k a as (L.map fun p=>(gF keep p.2,p)) v (L1.filter fun p=>notG p.2) (lenR (L1.filter fun p=>notG p.2))) vs) (k a as (L.map fun p=>(gF keep p.2,p)) (.tup vs) (L1.filter fun p=>notG p.2) (lenR (L1.filter fun p=>notG p.2))) tup) as:=fun k d=>by
    show decAs args .xH (fun as L _=>flagP keep L fun L0=>decAs res n0P fun vs L1 _=>noG L1 fun L1=>natP (lenR L1) fun fr=>_) = _
    rw [h1,flagP_eq,h3,noG_eq,natP_eq]
  have e2 : ∀ (k : AV → List AV → List (Bool × PB) → AV → List PB → Nat → σ) d,litK ⟨eff,args,keep,tup,res⟩ k d = List.rec (motive:=fun _=>σ) d (fun a as _=>Bool.rec (motive:=fun _=>σ) (List.rec (motive:=fun _=>σ) d (fun v _ _=>k a as (L.map fun p=>(gF keep p.2,p)) v (L1.filter fun p=>notG p.2) (lenR (L1.filter fun p=>notG p.2))) vs) (k a as (L.map fun p=>(gF keep p.2,p)) (.tup vs) (L1.filter fun p=>notG p.2) (lenR (L1.filter fun p=>notG p.2))) tup) as:=fun k d=>by
    show decAs args .xH (fun as L _=>flagP keep L fun L0=>decAs res n0P fun vs L1 _=>noG L1 fun L1=>natP (lenR L1) fun fr=>_) = _
    rw [h2,flagP_eq,h4,noG_eq,natP_eq]
  cases as with
  | nil=>exact .inr ⟨fun k d=>e1 k d,fun k d=>e2 k d⟩
  | cons a as =>
    cases tup with
    | true=>exact .inl ⟨a,as,_,.tup vs,_,_,fun k d=>e1 k d,fun k d=>e2 k d⟩
    | false =>
      cases vs with
      | nil=>exact .inr ⟨fun k d=>e1 k d,fun k d=>e2 k d⟩
      | cons v _=>exact .inl ⟨a,as,_,v,_,_,fun k d=>e1 k d,fun k d=>e2 k d⟩
end
theorem litC_ok {x : CL} {k : Ct → Rz} {r : CRes} (h : litC x k = some r) : k (lit x) = some r:=by
  unfold litC at h
  unfold lit
  rcases litK_tells (ρ:=Rz) (σ:=Ct) x with ⟨a,as,L0,v,L1,fr,h1,h2⟩ | ⟨h1,_⟩
  · rw [h1] at h; rw [h2]; exact h
  · rw [h1] at h; cases h
def tabL (l : List (Nat × CL)) : (List (Nat × Ct) → Rz) → Rz:=List.rec (motive:=fun _=>(List (Nat × Ct) → Rz) → Rz) (fun k=>k []) (fun x _ ih k=>litC x.2 fun c=>ih fun t=>k ((x.1,c) :: t)) l
theorem tabL_ok : ∀ (l : List (Nat × CL)) (k : List (Nat × Ct) → Rz) (r : CRes),tabL l k = some r → k (l.map fun x=>(x.1,lit x.2)) = some r
  | [],k,r,h=>h
  | x :: l,k,r,h=>tabL_ok l _ r (litC_ok (x:=x.2) (k:=fun c=>tabL l fun t=>k ((x.1,c) :: t)) h)
section
variable {P : Program} {tb : Tb} {NN : Nat → Nat}
def CkL (P : Program) (tb : Tb) (NN : Nat → Nat) (g : Nat) (x : CL) : Prop:=CtOk P tb NN g (lit x)
inductive TbL (P : Program) (tb : Tb) (NN : Nat → Nat) : List (Nat × CL) → Prop
  | nil : TbL P tb NN []
  | cons {g : Nat} {x : CL} {l : List (Nat × CL)} : CkL P tb NN g x → TbL P tb NN l → TbL P tb NN ((g,x) :: l)
theorem TbL.all : ∀ {l : List (Nat × CL)},TbL P tb NN l → ∀ y,y ∈ l.map (fun x=>(x.1,lit x.2)) → CtOk P tb NN y.1 y.2
  | _,.nil,y,h=>by cases h
  | _,.cons a b,y,h=>by
    rcases List.mem_cons.1 h with rfl | h
    · exact a
    · exact b.all y h
end
end
end Am
end Go.Proofs.YtadbcnekkceoaaaGreatDoor
namespace Go.Proofs.YtadbcnekkceoaaaGreatDoor
namespace Am
noncomputable section
def rgtC (x : List TA) (k : AV × T AB → Rz) : Rz:=decAs x .xH fun vs L _=>initC L .leaf fun t=>k (.tup vs,t)
def rgtsC (xs : List (List TA)) : (Rg2 → Rz) → Rz:=List.rec (motive:=fun _=>(Rg2 → Rz) → Rz) (fun k=>k []) (fun x _ ih k=>rgtC x fun r=>ih fun l=>k (r :: l)) xs
def chkX (K : KTbl) (n g N : Nat) (x : CL) : Rz:=litK x (fun a as L0 v L1 fr=>Bool.rec (motive:=fun _=>Rz) (ctChk K n g ⟨a :: as,L0,v,L1,fr⟩) (tokC (ctChk K n g ⟨.agg (appR (aggR a) [.ge N]) :: as,L0,v,L1,fr⟩) (allE K n g (aggR a) as ⟨[],L0,v,L1,fr⟩ N (some tok))) x.eff) none
def chksC (mk : List (Nat × Ct) → KTbl) (n : Nat) (tab : List (Nat × Ct)) (cs : List ((Nat × CL) × Nat)) (k : Rz) : Rz:=List.rec (motive:=fun _=>Rz) k (fun x _ ih=>tokC (chkX (mk tab) n x.1.1 x.2 x.1.2) ih) cs
def segC (mk : List (Nat × Ct) → KTbl) (n : Nat) (tab : List (Nat × CL)) (rg : List (List TA)) (js : List Jb) (cs : List ((Nat × CL) × Nat)) : Rz:=tabL tab fun t=>rgtsC rg fun rg=>runJ mk n js t rg fun t=>chksC mk n t cs (some tok)
def lastC (mk : List (Nat × Ct) → KTbl) (n : Nat) (tab : List (Nat × CL)) (rg : List (List TA)) (js : List Jb) (g : Nat) (t0 : T AB) (chk : AV → Rz) (L : List (List AV)) : Rz:=tabL tab fun t=>rgtsC rg fun rg=>runJ mk n js t rg fun t=>finsC (mk t) n g t0 chk (some tok) L
theorem rgtsC_ok : ∀ (xs : List (List TA)) (k : Rg2 → Rz) (r : CRes),rgtsC xs k = some r → ∃ rg,k rg = some r
  | [],k,r,h=>⟨_,h⟩
  | x :: xs,k,r,h=>by
    replace h : decAs x .xH (fun vs L _=>initC L .leaf fun t=>rgtsC xs fun l=>k ((.tup vs,t) :: l)) = some r:=h
    obtain ⟨vs,L,ny,h1,_⟩:=decAs_tells (ρ:=Rz) (σ:=Rz) x .xH
    rw [h1,initC_eq] at h
    obtain ⟨rg,h⟩:=rgtsC_ok xs _ _ h
    exact ⟨_,h⟩
section
variable {P : Program} {tb : Tb} {NN : Nat → Nat}
variable {mk : List (Nat × Ct) → KTbl}
theorem chkX_ok (hmix : P.follows .mixedOrders = true) (ok : ∀ tab,(∀ x,x ∈ tab → CtOk P tb NN x.1 x.2) → TblOk P tb NN (mk tab).tbl) {n : Nat} {tab : List (Nat × Ct)} (ht : ∀ x,x ∈ tab → CtOk P tb NN x.1 x.2) {g N : Nat} {x : CL} {r : CRes} (h : chkX (mk tab) n g N x = some r) : CkL P tb NN g x:=by
  have hk:=ok _ ht
  unfold chkX at h
  unfold CkL lit
  rcases litK_tells (ρ:=Rz) (σ:=Ct) x with ⟨a,as,L0,v,L1,fr,h1,h2⟩ | ⟨h1,_⟩
  · rw [h1] at h
    rw [h2]
    cases he : x.eff with
    | false =>
      rw [he] at h
      exact ct_ok hmix hk h
    | true =>
      rw [he] at h
      obtain ⟨⟨r',h3⟩,h4⟩:=tokC_ok h
      obtain ⟨h5,_⟩:=allE_ok hmix hk _ h4
      have h6:=ct_ok hmix hk h3
      refine ⟨?_,h6.one⟩
      have h7:=h6.cal
      rw [appR_eq] at h7
      exact CalOk.split (N:=N) (pre:=aggR a) (as:=as) (h:=Ct.h0 ⟨[],L0,v,L1,fr⟩) (r:=.ret v (Ct.h1 ⟨[],L0,v,L1,fr⟩) .no) (fun e he=>(h5 e he).cal) h7
  · rw [h1] at h; cases h
theorem chksC_ok (hmix : P.follows .mixedOrders = true) (ok : ∀ tab,(∀ x,x ∈ tab → CtOk P tb NN x.1 x.2) → TblOk P tb NN (mk tab).tbl) {n : Nat} {tab : List (Nat × Ct)} (ht : ∀ x,x ∈ tab → CtOk P tb NN x.1 x.2) {k : Rz} {r : CRes} : ∀ cs : List ((Nat × CL) × Nat),chksC mk n tab cs k = some r → TbL P tb NN (cs.map Prod.fst) ∧ k = some r
  | [],h=>⟨.nil,h⟩
  | x :: cs,h=>by
    obtain ⟨⟨r',h1⟩,h2⟩:=tokC_ok h
    obtain ⟨h3,h4⟩:=chksC_ok hmix ok ht cs h2
    exact ⟨.cons (chkX_ok hmix ok ht h1) h3,h4⟩
theorem segC_ok (hmix : P.follows .mixedOrders = true) (ok : ∀ tab,(∀ x,x ∈ tab → CtOk P tb NN x.1 x.2) → TblOk P tb NN (mk tab).tbl) {n : Nat} {tab : List (Nat × CL)} (ht : TbL P tb NN tab) {rg : List (List TA)} {js : List Jb} {cs : List ((Nat × CL) × Nat)} {r : CRes} (h : segC mk n tab rg js cs = some r) : TbL P tb NN (cs.map Prod.fst):=by
  have h:=tabL_ok _ _ _ h
  obtain ⟨rg,h⟩:=rgtsC_ok _ _ _ h
  obtain ⟨tab',h1,h2⟩:=runJ_ok hmix ok js _ _ _ _ ht.all h
  exact (chksC_ok hmix ok h1 cs h2).1
theorem lastC_ok (hmix : P.follows .mixedOrders = true) (ok : ∀ tab,(∀ x,x ∈ tab → CtOk P tb NN x.1 x.2) → TblOk P tb NN (mk tab).tbl) {n : Nat} {tab : List (Nat × CL)} (ht : TbL P tb NN tab) {rg : List (List TA)} {js : List Jb} {g : Nat} {t0 : T AB} {chk : AV → Rz} {L : List (List AV)} {r : CRes} (hm : ∀ tab,(mk tab).mac g = none) (h : lastC mk n tab rg js g t0 chk L = some r) : ∀ as,as ∈ L → ∃ v h' p r',FnOk P tb NN g .normal as .no ⟨t0,n0P⟩ (.ret v h' p) ∧ chk v = some r':=by
  have h:=tabL_ok _ _ _ h
  obtain ⟨rg,h⟩:=rgtsC_ok _ _ _ h
  obtain ⟨tab',h1,h2⟩:=runJ_ok hmix ok js _ _ _ _ ht.all h
  exact (finsC_ok hmix (ok _ h1) (hm _) L h2).1
end
theorem TbL.app {P : Program} {tb : Tb} {NN : Nat → Nat} : ∀ {a b : List (Nat × CL)},TbL P tb NN a → TbL P tb NN b → TbL P tb NN (a ++ b)
  | _,_,.nil,h=>h
  | _,_,.cons x y,h=>.cons x (y.app h)
end
end Am
end Go.Proofs.YtadbcnekkceoaaaGreatDoor
namespace Go.Proofs.YtadbcnekkceoaaaGreatDoor
namespace Am
def cutP (r : Nat) : List (Nat × List (Nat × Nat × Nat)):=[(r,[(0,0,5)])]
def jTc (lv r : Nat) : Jb:=.nrm 55 [.int .i64 (.ofNat lv)] (cutP r) [(true,1,5),(false,0,1)] true
def jPa (g r : Nat) : Jb:=.nrm g [] (cutP r) [(true,0,5)] false
def jIn (r : Nat) (e : AV) : Jb:=.nrm 119 [.ge 0,.ge 0,e] (cutP r) [(true,3,5),(true,0,3)] false
def jInF : Nat → Nat → List Jb
  | 0,_=>[]
  | n + 1,r=>jIn 6 (.int .i64 (.ofNat n)) :: jTc 2 r :: jPa 51 r :: jInF n (r + 3)
def jobs1 (N : Nat) : List Jb:=[jTc 0 0,jTc 1 0,jPa 49 0,jTc 2 3,jPa 50 3,jPa 51 5,jTc 2 6,jIn 6 (.ge N),jTc 2 8,jPa 51 8] ++ jInF N 11
def jobs0 : List Jb:=[jTc 0 0,jTc 1 0,jPa 49 0,jTc 2 3,jPa 50 3]
def cutU (r : Nat) : List (Nat × List (Nat × Nat × Nat)):=[(r,[(0,0,2)])]
def jUn (g r : Nat) (kp : Bool) : Jb:=.nrm g [] (cutU r) [(true,0,2)] kp
def jobs2 (p o : Nat) : List Jb:=[.nrm 56 [] (cutP p) [(true,0,5)] false,.nrm 131 [] [(o,[(0,0,6)])] [(true,0,6)] true,.nrm 57 [] [(o,[(0,0,6)])] [(true,0,6)] false,jUn 27 (o + 2) true,jUn 28 (o + 2) true,jUn 60 (o + 2) false,jUn 59 (o + 2) false,jUn 27 (o + 6) true,jUn 28 (o + 6) true,jUn 60 (o + 6) false]
def jobs3 (u o : Nat) : List Jb:=[jUn 27 u true,jUn 24 u true,.nrm 26 [] [(o + 1,[(0,0,1)])] [(false,0,1)] true,.nrm 27 [] [(u,[(0,0,1)]),(o + 2,[(0,0,1)])] [(true,0,2)] true,.nrm 28 [] [(u,[(0,0,1)]),(o + 2,[(0,0,1)])] [(true,0,2)] true,.nrm 29 [] [(u,[(0,0,1)]),(o + 2,[(0,0,1)])] [(true,0,2)] true]
def jobs4 (s : List Nat) (o : Nat) : List Jb:=[.nrm 19 [.str s] [] [(false,0,1)] false,.nrm 20 [] [(o,[(0,0,1)])] [(false,0,1)] false,.nrm 22 [] [(o + 1,[(0,0,5)])] [(true,0,5)] false]
def jRead (r : Nat) : Jb:=.nrm 19 [] [(r,[(0,0,1)])] [(false,0,1)] false
def ps0 (f : Bool) (r q : List TV) : CL:=⟨false,[.a [.b f,.b false,.j,.j,.j,.j],.a r,.o (.i 0)],false,true,[.a q,.o (.i 0)]⟩
def ps1 (f : Bool) (r q : List TV) : CL:=⟨true,[.a [.b f,.b true,.j,.g 0,.g 0],.a r,.o (.i 0)],false,true,[.a q,.o (.i 0)]⟩
def un (p : Bool) (q u : List TV) : CL:=⟨false,[.a [.j,.j,.b p,.j,.j,.j],.a q],false,true,[.a u,.o (.i 0)]⟩
end Am
end Go.Proofs.YtadbcnekkceoaaaGreatDoor
namespace Go.Proofs.YtadbcnekkceoaaaGreatDoor
namespace Am
section
variable {P : Program} {tb : Tb} {NN : Nat → Nat} {m : Mp} {h : H} {w w' : World}
theorem CalOk.of_calls {g : Nat} {as : List AV} {v : AV} {h' : H} {p : Pn} (hb : Bodied P g)
    (hc : ∀ (m : Mp) (w : World) (args : Array Value) (B : Nat),HR tb NN m h w → VRs m as args.toList → B ≤ h.next.nat → Calls P g args w fun e w'=>∃ u m',e = .returned u ∧ VR m' v u ∧ HR tb NN m' h' w' ∧ Go B m h w m' h' w') :
    CalOk P tb NN (.fn g [] []) as h (.ret v h' p):=fun m w u args B hr hu ha hB=>by
  cases hu with | fn _ hx hy =>
  rename_i fx fy
  have e1 : fx = #[]:=by
    generalize hl : fx.toList = l at hx
    cases hx
    exact Array.toList_eq_nil_iff.1 hl
  have e2 : fy = #[]:=by
    generalize hl : fy.toList = l at hy
    cases hy
    exact Array.toList_eq_nil_iff.1 hl
  subst e1 e2
  refine ⟨.enter g (#[] ++ args ++ #[]),_,?_,.enter _ _,fun fr cs hm=>?_⟩
  · simp only [callS,Deferred.ofValue,Sem.run_bind,Sem.run_pure,Result.andThen_ok,invoke_fn hb]
  rw [Array.empty_append,Array.append_empty]
  obtain ⟨e,w',fr',⟨u,m',rfl,q1,q2,q3⟩,q4,_,q5⟩:=hc m w args B hr ha hB (fr :: cs)
  exact ⟨m',w',u,Steps.trans q4 (.one (step_leave_returned q5)),q1,q2,q3⟩
theorem HR.more (hr : HR tb NN m h w) (hs : w.heap.size ≤ w'.heap.size) (hk : ∀ k,k < w.heap.size → w'.heap[k]? = w.heap[k]?) (ho : w'.os = w.os) (ht : w'.tape = w.tape) (hu : w'.output = w.output) (B : Nat) : HR tb NN m h w' ∧ Go B m h w m h w' :=
  ⟨⟨fun a b hb=>by
      obtain ⟨i,sz,o,h1,h2,h3⟩:=hr.blk a b hb
      exact ⟨i,sz,o,h1,by rw [hk i (hr.lt _ _ _ h1)]; exact h2,h3⟩,hr.inj,fun a i sz h=>Nat.lt_of_lt_of_le (hr.lt a i sz h) hs,hr.fresh⟩,
    ⟨Mp.le_refl m,fun k hk' _=>hk k hk',fun _ h=>.inr h,fun _ h=>.inr h,fun _ _ h=>h,Nat.le_refl _,hs,ho,ht,hu⟩⟩
end
theorem VRs.one {m : Mp} {v : AV} {l : List Value} (h : VRs m [v] l) : ∃ u,l = [u] ∧ VR m v u:=by
  cases h with | cons a b=>cases b; exact ⟨_,rfl,a⟩
theorem VRs.two {m : Mp} {v v' : AV} {l : List Value} (h : VRs m [v,v'] l) : ∃ u u',l = [u,u'] ∧ VR m v u ∧ VR m v' u':=by
  cases h with | cons a b=>cases b with | cons b c=>cases c; exact ⟨_,_,rfl,a,b⟩
theorem args_eq {a : Array Value} {l : List Value} (h : a.toList = l) : a = l.toArray:=by rw [← h]
theorem VR.str_inv {m : Mp} {s : List Nat} {u : Value} (h : VR m (.str s) u) : ∃ b : ByteArray,u = .string b ∧ s = b.data.toList.map UInt8.toNat:=by
  generalize hv : AV.str s = v at h
  cases h <;> first | (cases hv; done) | (injection hv with hv; exact ⟨_,rfl,hv⟩)
theorem VR.int_inv {m : Mp} {k : IntKind} {n : Int} {u : Value} (h : VR m (.int k n) u) : u = .int k n:=by cases h; rfl
theorem VR.ptr_inv {m : Mp} {a : Pos} {o : Nat} {u : Value} (h : VR m (.ptr a o) u) : ∃ i sz,m a = some (i,sz) ∧ u = .pointer (some ⟨i,o,none⟩):=by
  cases h with | ptr _ h=>exact ⟨_,_,h,rfl⟩
theorem VR.of_bytes {m : Mp} {l : List Nat} {bs : List UInt8} (h : l = bs.map UInt8.toNat) : VR m (.str l) (.string ⟨bs.toArray⟩):=by
  have:=VR.str (m:=m) ⟨bs.toArray⟩
  rwa [h]
end Am
end Go.Proofs.YtadbcnekkceoaaaGreatDoor
namespace Go.Proofs.YtadbcnekkceoaaaGreatDoor
namespace Am
section
variable {P : Program} {tb : Tb} {NN : Nat → Nat} {m : Mp} {h : H} {w : World}
theorem Calls.of_fn {g : Nat} {as : List AV} {v : AV} {h' : H} {p : Pn} (hf : FnOk P tb NN g .normal as .no h (.ret v h' p)) {args : Array Value} (hr : HR tb NN m h w) (ha : VRs m as args.toList) :
    Calls P g args w fun e w'=>∃ u m',e = .returned u ∧ VR m' v u ∧ Go 0 m h w m' h' w':=fun cs=>by
  have hcs0 : CsR m (baseOf g .normal) cs .no cs:=⟨rfl,fun a todo=>by
    have hk : ((baseOf g .normal).atR a todo).kind = .normal:=rfl
    unfold tryRecover
    rw [hk]⟩
  obtain ⟨m',w',u,fr1,cs',g1,g2,g3,g4,g5,g6,g7,g8⟩:=hf m w args cs 0 hr ha hcs0 (Nat.zero_le _)
  have e:=g8
  have hc : cs' = cs:=by
    cases p with
    | no=>exact e.1
    | yes v=>exact e.1
    | done=>have:=e.1; cases this
  subst hc
  obtain ⟨a1,a2,a3⟩:=g4
  exact ⟨.returned u,w',fr1,⟨u,m',rfl,g5,g7⟩,g1,g2,a1,a2,g3,a3⟩
structure Kp (w w' : World) : Prop where
  os : w'.os = w.os
  tape : w'.tape = w.tape
  output : w'.output = w.output
  size : w.heap.size ≤ w'.heap.size
  block : ∀ k,k < w.heap.size → w'.heap[k]? = w.heap[k]?
theorem Go.kept {m' : Mp} {h' : H} {w' : World} {B : Nat} (hg : Go B m h w m' h' w') (ho : ∀ a b,h.get a = some b → b.ro = true) : Kp w w' :=
  ⟨hg.os,hg.tape,hg.output,hg.size,fun k hk=>hg.keep k hk fun ⟨a,b,sz,h1,h2,h3⟩=>by rw [ho a b h1] at h2; cases h2⟩
end
noncomputable section
def unC (l : List AV) (k : AV → List AV → Rz) : Rz:=List.rec (motive:=fun _=>Rz) none (fun x l _=>k x l) l
def niC (l : List AV) (k : Rz) : Rz:=List.rec (motive:=fun _=>Rz) k (fun _ _ _=>none) l
def i64C (v : AV) (n : Nat) (k : Rz) : Rz:=intC v fun q x=>ifC (kEqB q .i64) (eqIC x (.ofNat n) k)
def endG (want : Nat) (out : List Nat) (fin : List Nat → Rz) (v : AV) : Rz:=tupC v fun s=>unC s fun r s=>unC s fun _ s=>unC s fun e s=>niC s <| i64C e 0 <| aggC r fun c=>unC c fun o c=>unC c fun x c=>unC c fun y c=>niC c <| strC o fun l=>eqLC l out <| i64C x want <| strC y fin
def endA : AV → Rz:=endG 0 [] fun l=>eqLC l [49,50,48] (some tok)
theorem unC_ok {l : List AV} {k : AV → List AV → Rz} {r : CRes} (h : unC l k = some r) : ∃ x l',l = x :: l' ∧ k x l' = some r:=by
  cases l with
  | nil=>cases h
  | cons x l=>exact ⟨x,l,rfl,h⟩
theorem niC_ok {l : List AV} {k : Rz} {r : CRes} (h : niC l k = some r) : l = [] ∧ k = some r:=by
  cases l with
  | nil=>exact ⟨rfl,h⟩
  | cons x l=>cases h
theorem i64C_ok {v : AV} {n : Nat} {k : Rz} {r : CRes} (h : i64C v n k = some r) : v = .int .i64 (.ofNat n) ∧ k = some r:=by
  unfold i64C at h
  rw [intC_eq] at h
  split at h
  · next q x =>
    obtain ⟨h1,h2⟩:=ifC_ok h
    obtain ⟨h3,h4⟩:=eqIC_ok h2
    rw [kEqB_eq] at h1
    rw [kEq_ok h1,h3]
    exact ⟨rfl,h4⟩
  · cases h
theorem strC_ok {v : AV} {k : List Nat → Rz} {r : CRes} (h : strC v k = some r) : ∃ l,v = .str l ∧ k l = some r:=by
  rw [strC_eq] at h
  split at h
  · exact ⟨_,rfl,h⟩
  · cases h
theorem endG_ok {want : Nat} {out : List Nat} {fin : List Nat → Rz} {v : AV} {r : CRes} (h : endG want out fin v = some r) : ∃ a val,v = .tup [.agg [.str out,.int .i64 (.ofNat want),.str val],a,.int .i64 (.ofNat 0)] ∧ fin val = some r:=by
  unfold endG at h
  rw [tupC_eq] at h
  split at h
  · next s =>
    obtain ⟨a,s1,rfl,h1⟩:=unC_ok h
    obtain ⟨b,s2,rfl,h2⟩:=unC_ok h1
    obtain ⟨e,s3,rfl,h3⟩:=unC_ok h2
    obtain ⟨rfl,h4⟩:=niC_ok h3
    obtain ⟨rfl,h5⟩:=i64C_ok h4
    rw [aggC_eq] at h5
    split at h5
    · next c =>
      obtain ⟨x,c1,rfl,k1⟩:=unC_ok h5
      obtain ⟨y,c2,rfl,k2⟩:=unC_ok k1
      obtain ⟨z,c3,rfl,k3⟩:=unC_ok k2
      obtain ⟨rfl,k4⟩:=niC_ok k3
      obtain ⟨l,rfl,k5⟩:=strC_ok k4
      obtain ⟨rfl,k6⟩:=eqLC_ok k5
      obtain ⟨rfl,k7⟩:=i64C_ok k6
      obtain ⟨q,rfl,k8⟩:=strC_ok k7
      exact ⟨_,_,rfl,k8⟩
    · cases h5
  · cases h
end
theorem VR.end {m : Mp} {out val : List Nat} {want : Nat} {a : AV} {u : Value} (h : VR m (.tup [.agg [.str out,.int .i64 (.ofNat want),.str val],a,.int .i64 (.ofNat 0)]) u) : ∃ bo bv ua,u = .tuple #[.agg #[.string bo,.int .i64 (.ofNat want),.string bv],ua,.int .i64 (.ofNat 0)] ∧ out = bo.data.toList.map UInt8.toNat ∧ val = bv.data.toList.map UInt8.toNat:=by
  cases h with | tup h =>
  rename_i arr
  obtain ⟨l⟩:=arr
  cases h with | cons h1 h =>
  cases h with | cons h2 h =>
  obtain ⟨_,rfl,h3⟩:=h.one
  cases h3.int_inv
  cases h1 with | agg h1 =>
  rename_i arr
  obtain ⟨l⟩:=arr
  cases h1 with | cons h4 h1 =>
  obtain ⟨_,_,rfl,h5,h6⟩:=h1.two
  obtain ⟨bo,rfl,e1⟩:=h4.str_inv
  cases h5.int_inv
  obtain ⟨bv,rfl,e2⟩:=h6.str_inv
  exact ⟨bo,bv,_,rfl,e1,e2⟩
def tbC : T AV:=(.node (.node (.node (.node (.node .leaf (some (.int .u64 (.ofNat 1000000000000000))) .leaf) (some (.int .u64 (.ofNat 10000000))) .leaf) (some (.int .u64 (.ofNat 1000))) (.node (.node .leaf (some (.int .u64 (.ofNat 10000000000000000000))) .leaf) (some (.int .u64 (.ofNat 100000000000))) .leaf)) (some (.int .u64 (.ofNat 10))) (.node (.node (.node .leaf (some (.int .u64 (.ofNat 100000000000000000))) .leaf) (some (.int .u64 (.ofNat 1000000000))) .leaf) (some (.int .u64 (.ofNat 100000))) (.node .leaf (some (.int .u64 (.ofNat 10000000000000))) .leaf))) (some (.int .u64 (.ofNat 1))) (.node (.node (.node (.node .leaf (some (.int .u64 (.ofNat 10000000000000000))) .leaf) (some (.int .u64 (.ofNat 100000000))) .leaf) (some (.int .u64 (.ofNat 10000))) (.node .leaf (some (.int .u64 (.ofNat 1000000000000))) .leaf)) (some (.int .u64 (.ofNat 100))) (.node (.node (.node .leaf (some (.int .u64 (.ofNat 1000000000000000000))) .leaf) (some (.int .u64 (.ofNat 10000000000))) .leaf) (some (.int .u64 (.ofNat 1000000))) (.node .leaf (some (.int .u64 (.ofNat 100000000000000))) .leaf))))
def hp0 : T AB:=.node (.node .leaf (some (.cells true 1 (.node .leaf (some (.glb .xH 5 20)) .leaf))) .leaf) (some (.cells true 20 tbC)) .leaf
theorem tbC_at : ∀ j,j < 20 → tbC.at j = some (.int .u64 (.ofNat (10 ^ j)))
  | 0,_=>rfl
  | 1,_=>rfl
  | 2,_=>rfl
  | 3,_=>rfl
  | 4,_=>rfl
  | 5,_=>rfl
  | 6,_=>rfl
  | 7,_=>rfl
  | 8,_=>rfl
  | 9,_=>rfl
  | 10,_=>rfl
  | 11,_=>rfl
  | 12,_=>rfl
  | 13,_=>rfl
  | 14,_=>rfl
  | 15,_=>rfl
  | 16,_=>rfl
  | 17,_=>rfl
  | 18,_=>rfl
  | 19,_=>rfl
  | n + 20,h=>by omega
def Tb20 (w : World) : Prop:=∃ cs t fz,w.heap[5]? = some (.cells cs t fz) ∧ cs.size = 20 ∧ ∀ j,j < 20 → cs[j]? = some (.int .u64 (.ofNat (10 ^ j)))
def mp0 : Mp:=fun a=>match a with | .xH=>some (5,20) | .xO .xH=>some (5,20) | _=>none
theorem hp0_get {a : Pos} {b : AB} (h : H.get ⟨hp0,n0P⟩ a = some b) : (a = .xH ∧ b = .cells true 20 tbC) ∨ (a = .xO .xH ∧ b = .cells true 1 (.node .leaf (some (.glb .xH 5 20)) .leaf)):=by
  cases a with
  | xH=>injection h with h; exact .inl ⟨rfl,h.symm⟩
  | xI p=>cases p <;> cases h
  | xO p =>
    cases p with
    | xH=>injection h with h; exact .inr ⟨rfl,h.symm⟩
    | xO p=>cases p <;> cases h
    | xI p=>cases p <;> cases h
theorem HR.hp0 {tb : Tb} {NN : Nat → Nat} {w : World} (hw : Tb20 w) : HR tb NN mp0 ⟨hp0,n0P⟩ w:=by
  obtain ⟨cs,t,fz,h1,h2,h3⟩:=hw
  refine ⟨fun a b hb=>?_,fun a a' b b' i sz sz' ha ha' _ _=>?_,fun a i sz h=>?_,fun a ha=>?_⟩
  · rcases hp0_get hb with ⟨rfl,rfl⟩ | ⟨rfl,rfl⟩
    · exact ⟨5,20,_,rfl,h1,.cells h2 (Nat.le_refl _) (fun j hj=>⟨_,_,tbC_at j hj,h3 j hj,.int _ _⟩) (fun e=>by cases e) (fun q hq=>by cases hq)⟩
    · refine ⟨5,20,_,rfl,h1,.cells h2 (by decide) (fun j hj=>?_) (fun e=>by cases e) (fun q hq=>by cases hq)⟩
      obtain rfl : j = 0:=by omega
      exact ⟨_,_,rfl,h3 0 (by decide),.glb _ rfl⟩
  · right
    constructor
    · rcases hp0_get ha with ⟨_,rfl⟩ | ⟨_,rfl⟩ <;> rfl
    · rcases hp0_get ha' with ⟨_,rfl⟩ | ⟨_,rfl⟩ <;> rfl
  · have hi : i = 5:=by
      unfold mp0 at h
      split at h <;> first | (injection h with h; injection h with h _; exact h.symm) | cases h
    subst hi
    rcases Nat.lt_or_ge 5 w.heap.size with h' | h'
    · exact h'
    · rw [Array.getElem?_eq_none h'] at h1; cases h1
  · replace ha : n0P.nat ≤ a.nat:=ha
    rw [n0P_nat] at ha
    unfold mp0
    split
    · simp [Pos.nat] at ha
    · simp [Pos.nat] at ha
    · rfl
theorem hp0_ro : ∀ a b,H.get ⟨hp0,n0P⟩ a = some b → b.ro = true:=fun a b h=>by rcases hp0_get h with ⟨_,rfl⟩ | ⟨_,rfl⟩ <;> rfl
end Am
end Go.Proofs.YtadbcnekkceoaaaGreatDoor
namespace Go.Proofs.YtadbcnekkceoaaaGreatDoor
namespace Am
def hpL (n k : Nat) : T AB:=.node (.node (.node .leaf (some (.gh k)) .leaf) (some (.cells true 1 (.node .leaf (some (.glb .xH 5 20)) .leaf))) .leaf) (some (.cells true 20 tbC)) (.node .leaf (some (.gh n)) .leaf)
def mpL (x y : Nat) : Mp:=fun a=>match a with | .xH=>some (5,20) | .xO .xH=>some (5,20) | .xI .xH=>some (5,x) | .xO (.xO .xH)=>some (5,y) | _=>none
theorem hpL_get {n k : Nat} {a : Pos} {b : AB} (h : H.get ⟨hpL n k,n0P⟩ a = some b) : (a = .xH ∧ b = .cells true 20 tbC) ∨ (a = .xO .xH ∧ b = .cells true 1 (.node .leaf (some (.glb .xH 5 20)) .leaf)) ∨ (a = .xI .xH ∧ b = .gh n) ∨ (a = .xO (.xO .xH) ∧ b = .gh k):=by
  cases a with
  | xH=>injection h with h; exact .inl ⟨rfl,h.symm⟩
  | xI p =>
    cases p with
    | xH=>injection h with h; exact .inr (.inr (.inl ⟨rfl,h.symm⟩))
    | xO p=>cases p <;> cases h
    | xI p=>cases p <;> cases h
  | xO p =>
    cases p with
    | xH=>injection h with h; exact .inr (.inl ⟨rfl,h.symm⟩)
    | xO p =>
      cases p with
      | xH=>injection h with h; exact .inr (.inr (.inr ⟨rfl,h.symm⟩))
      | xO p=>cases p <;> cases h
      | xI p=>cases p <;> cases h
    | xI p=>cases p <;> cases h
theorem hpL_ro {n k : Nat} : ∀ a b,H.get ⟨hpL n k,n0P⟩ a = some b → b.ro = true:=fun a b h=>by rcases hpL_get h with ⟨_,rfl⟩ | ⟨_,rfl⟩ | ⟨_,rfl⟩ | ⟨_,rfl⟩ <;> rfl
theorem HR.hpL {tb : Tb} {NN : Nat → Nat} {w : World} (x y : Nat) (hw : Tb20 w) : HR tb NN (mpL x y) ⟨hpL (ndg x) (ndg y),n0P⟩ w:=by
  obtain ⟨cs,t,fz,h1,h2,h3⟩:=hw
  refine ⟨fun a b hb=>?_,fun a a' b b' i sz sz' ha ha' _ _=>?_,fun a i sz h=>?_,fun a ha=>?_⟩
  · rcases hpL_get hb with ⟨rfl,rfl⟩ | ⟨rfl,rfl⟩ | ⟨rfl,rfl⟩ | ⟨rfl,rfl⟩
    · exact ⟨5,20,_,rfl,h1,.cells h2 (Nat.le_refl _) (fun j hj=>⟨_,_,tbC_at j hj,h3 j hj,.int _ _⟩) (fun e=>by cases e) (fun q hq=>by cases hq)⟩
    · refine ⟨5,20,_,rfl,h1,.cells h2 (by decide) (fun j hj=>?_) (fun e=>by cases e) (fun q hq=>by cases hq)⟩
      obtain rfl : j = 0:=by omega
      exact ⟨_,_,rfl,h3 0 (by decide),.glb _ rfl⟩
    · exact ⟨5,x,_,rfl,h1,.gh (.inr rfl)⟩
    · exact ⟨5,y,_,rfl,h1,.gh (.inr rfl)⟩
  · exact .inr ⟨hpL_ro _ _ ha,hpL_ro _ _ ha'⟩
  · have hi : i = 5:=by
      unfold mpL at h
      split at h <;> first | (injection h with h; injection h with h _; exact h.symm) | cases h
    subst hi
    rcases Nat.lt_or_ge 5 w.heap.size with h' | h'
    · exact h'
    · rw [Array.getElem?_eq_none h'] at h1; cases h1
  · replace ha : n0P.nat ≤ a.nat:=ha
    rw [n0P_nat] at ha
    unfold mpL
    split
    · simp [Pos.nat] at ha
    · simp [Pos.nat] at ha
    · simp [Pos.nat] at ha
    · simp [Pos.nat] at ha
    · rfl
def txtP (p : List Nat) (n : Nat) (a : Pos) (q : List Nat) (k : Nat) (c : Pos) (r : List Nat) : List AV:=p.map byA ++ (digL n a ++ (q.map byA ++ (digL k c ++ r.map byA)))
noncomputable section
def endT (out : List AV) (v : AV) : Rz:=tupC v fun s=>unC s fun r s=>unC s fun _ s=>unC s fun e s=>niC s <| i64C e 0 <| aggC r fun c=>unC c fun o c=>unC c fun x c=>unC c fun y c=>niC c <| txtC o fun l=>ifC (AV.sameL l out) <| i64C x 0 <| strC y fun q=>eqLC q [54] (some tok)
end
end Am
end Go.Proofs.YtadbcnekkceoaaaGreatDoor
