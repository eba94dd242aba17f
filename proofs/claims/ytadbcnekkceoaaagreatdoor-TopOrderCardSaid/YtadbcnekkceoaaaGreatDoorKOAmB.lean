/- The model's machine at one operation of a region, in any frame. -/
import Derived.Test.YtadbcnekkceoaaaGreatDoorKOAmY
import Derived.AtR
set_option linter.unusedVariables false
namespace Go.Proofs.YtadbcnekkceoaaaGreatDoor
namespace Am
section
variable {P : Program} {b : Frame} {a : Act} {k : List Item} {cs : List Frame} {w w' : World} {ops : Array Oper} {i : Nat} {rest : List Nat} {o : Oper}
theorem fin_at (ho : ops[i]? = some o) (v : Value) : (b.atR a (.inRegion ops (i :: rest) :: k)).finish v = b.atR (a.put o.dst v) (.inRegion ops rest :: k):=by
  rw [Frame.finish_atR,ho]; rfl
theorem at_unwanted (ho : ops[i]? = some o) (hw : Region.wanted o (yielded ops a.tmps) = false) : step P (lone (b.atR a (.inRegion ops (i :: rest) :: k)) cs w) = .next (lone (b.atR (a.put o.dst undef) (.inRegion ops rest :: k)) cs w):=by
  have:=stepR_op_skip (P:=P) (b:=b) (a:=a) (k:=k) (cs:=cs) (w:=w) (ops:=ops) (i:=i) (rest:=rest) (by rw [ho]; simpa using hw)
  rw [ho] at this
  exact this
theorem at_value (ho : ops[i]? = some o) (hw : Region.wanted o (yielded ops a.tmps) = true) (hd : ∀ c,o.op ≠ .defer c) {v : Value} (hr : (execOp a.eval o).run P w = .ok (.value v) w') :
    step P (lone (b.atR a (.inRegion ops (i :: rest) :: k)) cs w) = .next (lone (b.atR (a.put o.dst v) (.inRegion ops rest :: k)) cs w'):=by
  rw [← fin_at ho]
  refine step_lone_go ?_
  rw [stepGR_op ho hw,Oper.semAt_eq _ _ _ hd]
  simp [stepG.apply,hr]
theorem at_skip (ho : ops[i]? = some o) (hw : Region.wanted o (yielded ops a.tmps) = true) (hd : ∀ c,o.op ≠ .defer c) (hr : (execOp a.eval o).run P w = .ok .skip w') :
    step P (lone (b.atR a (.inRegion ops (i :: rest) :: k)) cs w) = .next (lone (b.atR (a.put o.dst undef) (.inRegion ops rest :: k)) cs w'):=by
  rw [← fin_at ho]
  refine step_lone_go ?_
  rw [stepGR_op ho hw,Oper.semAt_eq _ _ _ hd]
  simp [stepG.apply,hr]
theorem at_enter (ho : ops[i]? = some o) (hw : Region.wanted o (yielded ops a.tmps) = true) (hd : ∀ c,o.op ≠ .defer c) {f : FuncId} {args : Array Value} (hr : (execOp a.eval o).run P w = .ok (.enter f args) w') :
    step P (lone (b.atR a (.inRegion ops (i :: rest) :: k)) cs w) = .next (lone (Frame.enter P f args .normal) (b.atR a (.inRegion ops (i :: rest) :: k) :: cs) w'):=by
  refine step_lone_go ?_
  rw [stepGR_op ho hw,Oper.semAt_eq _ _ _ hd]
  simp [stepG.apply,hr,Frame.atR]
theorem at_round (ho : ops[i]? = some o) (hw : Region.wanted o (yielded ops a.tmps) = true) (hd : ∀ c,o.op ≠ .defer c) {l : Nat} {f : FuncId} {tmps : Array Value} {asg body : Code} (hr : (execOp a.eval o).run P w = .ok (.round l f tmps asg body) w') :
    step P (lone (b.atR a (.inRegion ops (i :: rest) :: k)) cs w) = .next (lone (Frame.round l f tmps asg body .normal) (b.atR a (.inRegion ops (i :: rest) :: k) :: cs) w'):=by
  refine step_lone_go ?_
  rw [stepGR_op ho hw,Oper.semAt_eq _ _ _ hd]
  simp [stepG.apply,hr]
theorem at_defer (ho : ops[i]? = some o) (hw : Region.wanted o (yielded ops a.tmps) = true) (hb : b.roundOf = none) {d : Deferred} (hr : (execOp a.eval o).run P w = .ok (.defer d) w') :
    step P (lone (b.atR a (.inRegion ops (i :: rest) :: k)) cs w) = .next (lone (b.atR ({ a with defers:=d :: a.defers }.put o.dst undef) (.inRegion ops rest :: k)) cs w'):=by
  rw [← fin_at ho]
  refine step_lone_go ?_
  rw [stepGR_op ho hw,hb,Oper.semAt_none]
  simp [stepG.apply,hr,Frame.atR]
theorem at_panic (ho : ops[i]? = some o) (hw : Region.wanted o (yielded ops a.tmps) = true) (hd : ∀ c,o.op ≠ .defer c) {v : Value} (hr : (execOp a.eval o).run P w = .halt (.panic v) w') :
    step P (lone (b.atR a (.inRegion ops (i :: rest) :: k)) cs w) = .next (lone { b.atR a (.inRegion ops (i :: rest) :: k) with mode:=.panicking [{ v,recovered:=false }] } cs w'):=by
  rw [← Frame.raise_atR]
  refine step_lone_go ?_
  rw [stepGR_op ho hw,Oper.semAt_eq _ _ _ hd]
  simp [stepG.apply,hr]
theorem at_recover (ho : ops[i]? = some o) (hw : Region.wanted o (yielded ops a.tmps) = true) (hd : ∀ c,o.op ≠ .defer c) (hb : b.roundOf = none) (hr : (execOp a.eval o).run P w = .ok .recover w') :
    step P (lone (b.atR a (.inRegion ops (i :: rest) :: k)) cs w) = .next (match tryRecover (b.atR a (.inRegion ops (i :: rest) :: k)) cs with
      | some (v,cs')=>lone (b.atR (a.put o.dst v) (.inRegion ops rest :: k)) cs' w'
      | none=>lone (b.atR (a.put o.dst .nilIface) (.inRegion ops rest :: k)) cs w'):=by
  cases ht : tryRecover (b.atR a (.inRegion ops (i :: rest) :: k)) cs with
  | none =>
    dsimp only
    rw [← fin_at ho]
    refine step_lone_go ?_
    rw [stepGR_op ho hw,Oper.semAt_eq _ _ _ hd]
    have hb' : (b.atR a (.inRegion ops (i :: rest) :: k)).roundOf = none:=hb
    simp [stepG.apply,hr,hb',ht]
  | some x =>
    obtain ⟨v,cs'⟩:=x
    dsimp only
    rw [← fin_at ho]
    refine step_lone_go ?_
    rw [stepGR_op ho hw,Oper.semAt_eq _ _ _ hd]
    have hb' : (b.atR a (.inRegion ops (i :: rest) :: k)).roundOf = none:=hb
    simp [stepG.apply,hr,hb',ht]
end
end Am
end Go.Proofs.YtadbcnekkceoaaaGreatDoor
namespace Go.Proofs.YtadbcnekkceoaaaGreatDoor
namespace Am
inductive Kd | pure | read | alloc | hard
def kindOf (P : Program) (op : Op) : Kd :=
  match op with
  | .store ..=>.hard | .mapUpdate ..=>.hard | .insert ..=>.hard | .mapEntry ..=>.hard | .entryStore ..=>.hard | .range ..=>.hard | .next ..=>.hard
  | .panic _=>.hard | .defer _=>.hard | .go _=>.hard
  | .call { callee:=.builtin b,argTypes:=ts,.. }=>match b with
    | .len=>match ts.toList with
      | t :: _=>(match P.underlying t with | some (.map _ _)=>.read | _=>.pure)
      | []=>.hard
    | .cap | .max | .min=>.pure
    | _=>.hard
  | .call _=>.hard
  | .load ..=>.read | .lookup ..=>.read | .entry _=>.read
  | .slice t ..=>(match P.underlying t with | some (.array _ _)=>.read | _=>.pure)
  | .convert s d _=>(match P.underlying s,P.underlying d with | some .string,some (.slice _)=>.hard | _,_=>.pure)
  | .alloc _=>.alloc | .box ..=>.alloc | .buildSlice ..=>.alloc | .makeMap ..=>.alloc | .makeSlice ..=>.alloc
  | _=>.pure
inductive Stp
  | pu (i : Nat) | rd (i : Nat) | al (i : Nat) | re (i : Nat)
structure Stage where
  st : List Stp
  ins : List Nat
  hd : Option Nat
  hd2 : Option Nat
def preD : List Oper → Nat → List Nat → List Nat
  | [],_,acc=>acc.reverse
  | o :: l,j,acc=>preD l (Nat.succ j) (o.after.toList.foldl (fun s e=>bif Region.binds .any e then Nat.lor (Nat.lor s (Nat.pow 2 e.on)) (acc.getD (Nat.sub (Nat.sub j 1) e.on) 0) else s) 0 :: acc)
def preP : Nat → List Nat → List Nat
  | 0,acc=>acc
  | n + 1,acc=>preP n (Nat.sub (Nat.pow 2 n) 1 :: acc)
def preOf (ops : List Oper) (draw : Bool) : List Nat:=bif draw then preD ops 0 [] else preP ops.length []
def bit (s i : Nat) : Bool:=Nat.beq (Nat.land (Nat.shiftRight s i) 1) 1
def isStore : Op → Bool | .store ..=>true | _=>false
def hardI (P : Program) (ops : List Oper) : List (Nat × Bool):=ops.zipIdx.filterMap fun (o,i)=>match kindOf P o.op with | .hard=>some (i,isStore o.op) | _=>none
def pairs (pm : List Nat) : List (Nat × Bool) → List (Nat × Option Nat)
  | (x,b) :: (y,b') :: l=>bif !bit (pm.getD y 0) x && b && b' then (x,some y) :: pairs pm l else (x,none) :: pairs pm ((y,b') :: l)
  | [(x,_)]=>[(x,none)]
  | []=>[]
def has2 (s : Nat) : Nat × Option Nat → Bool | (x,y)=>bit s x || (match y with | some y=>bit s y | none=>false)
def lowG (hs : List (Nat × Option Nat)) (s : Nat) : Nat → Nat → Nat
  | _,acc=>(hs.zipIdx.filter fun (x,_)=>has2 s x).foldl (fun a x=>Nat.max a (Nat.succ x.2)) acc
def lowAt (pm : List Nat) (hs : List (Nat × Option Nat)) (i : Nat) : Nat:=lowG hs (pm.getD i 0) 0 0
def mayAt (pm : List Nat) (hs : List (Nat × Option Nat)) (i j : Nat) : Bool:=Nat.ble (lowAt pm hs i) j && (hs.take j).all fun (x,y)=>!bit (pm.getD x 0) i && (match y with | some y=>!bit (pm.getD y 0) i | none=>true)
def insAt (pm : List Nat) (hs : List (Nat × Option Nat)) (i : Nat) : Nat:=(hs.findIdx? fun (x,y)=>bit (pm.getD x 0) i && (match y with | some y=>bit (pm.getD y 0) i | none=>true)).getD hs.length
def kinds (P : Program) (ops : List Oper) : List (Kd × Nat):=ops.zipIdx.map fun (o,i)=>(kindOf P o.op,i)
def planStage (pm : List Nat) (hs : List (Nat × Option Nat)) (ks : List (Kd × Nat)) (j : Nat) : Stage where
  st:=ks.filterMap fun (k,i)=>match k with
    | .pure=>bif Nat.beq (lowAt pm hs i) j then some (.pu i) else none
    | .alloc=>bif Nat.beq (lowAt pm hs i) j then some (.al i) else none
    | .read=>bif Nat.beq (lowAt pm hs i) j then some (.rd i) else bif mayAt pm hs i j then some (.re i) else none
    | .hard=>none
  ins:=ks.filterMap fun (k,i)=>match k with | .alloc=>bif Nat.beq (insAt pm hs i) j then some i else none | _=>none
  hd:=(hs[j]?).map (·.1)
  hd2:=(hs[j]?).bind (·.2)
def plan (P : Program) (ops : List Oper) (pm : List Nat) : List Stage :=
  let hs:=pairs pm (hardI P ops)
  (List.range (hs.length + 1)).map (planStage pm hs (kinds P ops))
end Am
end Go.Proofs.YtadbcnekkceoaaaGreatDoor
