/- Operations on values: strings, comparisons, parts. -/
import Derived.Test.YtadbcnekkceoaaaGreatDoorKOAmO
import Derived.MapKept
set_option linter.unusedVariables false
namespace Go.Proofs.YtadbcnekkceoaaaGreatDoor
namespace Am
def strEq : List Nat → List Nat → Bool
  | [],[]=>true
  | a :: x,b :: y=>bif Nat.beq a b then strEq x y else false
  | _,_=>false
theorem strEq_ok : ∀ a b : List Nat,strEq a b = (a == b)
  | [],[]=>rfl
  | a :: x,b :: y=>by
    simp only [strEq]
    by_cases h : a = b
    · subst h; rw [nbeq_t rfl,cond_true,strEq_ok x y]; simp
    · rw [nbeq_f h,cond_false]; symm; rw [beq_eq_false_iff_ne]; intro e; injection e with e1; exact h e1
  | [],_ :: _=>rfl
  | _ :: _,[]=>rfl
theorem u8_map_inj : ∀ {a b : List UInt8},a.map UInt8.toNat = b.map UInt8.toNat → a = b
  | [],[],_=>rfl
  | [],_ :: _,h=>by simp at h
  | _ :: _,[],h=>by simp at h
  | x :: a,y :: b,h=>by
    simp only [List.map_cons,List.cons.injEq] at h
    rw [UInt8.toNat_inj.1 h.1,u8_map_inj h.2]
theorem str_eq (a b : ByteArray) : strEq (a.data.toList.map UInt8.toNat) (b.data.toList.map UInt8.toNat) = (a.toList == b.toList):=by
  rw [strEq_ok,ByteArray.toList_eq,ByteArray.toList_eq]
  by_cases h : a.data.toList = b.data.toList
  · rw [h]; simp
  · have : ¬ a.data.toList.map UInt8.toNat = b.data.toList.map UInt8.toNat:=fun e=>h (u8_map_inj e)
    rw [beq_eq_false_iff_ne.2 h,beq_eq_false_iff_ne.2 this]
def binStr (op : BinOp) (a b : List Nat) : Option AV :=
  match op with
  | .add=>bif Nat.ble (Nat.add a.length b.length) 1000000000 then some (.str (a ++ b)) else none
  | .eql=>some (.bool (strEq a b))
  | .neq=>some (.bool (!strEq a b))
  | _=>none
def isC : Operand → Bool | .const _=>true | _=>false
def sbT (P : Program) (t : TypeId) : Bool :=
  match P.underlying t with
  | some (.struct fs)=>(match fs.toList with
    | [f,g]=>!P.stoodInHeld t && !P.eqGuardType P.depth t && f.name != "_" && g.name != "_" && Nat.beq f.offset 0 && Nat.beq g.offset 1 && (match P.underlying f.type,P.underlying g.type with | some .string,some .bool=>true | _,_=>false)
    | _=>false)
  | _=>false
def eqA (P : Program) (t : TypeId) (c : Bool) (x y : AV) : Option Bool :=
  match P.underlying t with
  | some .bool=>match x,y with | .bool a,.bool b=>some (a == b) | _,_=>none
  | some (.pointer _)=>match x,y with | .nilp,.nilp=>some true | .nilp,.ptr _ _=>some false | .ptr _ _,.nilp=>some false | _,_=>none
  | some (.slice _)=>match x,y with | .nils,.nils=>some true | .nils,.slc _ _ _ _=>some false | .slc _ _ _ _,.nils=>some false | .nils,.slcE _ _ _=>some false | .slcE _ _ _,.nils=>some false | _,_=>none
  | some (.map _ _)=>match x,y with | .nilm,.nilm=>some true | .nilm,.map _=>some false | .map _,.nilm=>some false | _,_=>none
  | some (.func _ _ _)=>match x,y with | .nilf,.nilf=>some true | .nilf,.fn _ _ _=>some false | .fn _ _ _,.nilf=>some false | _,_=>none
  | some (.interface _)=>match x,y with | .nili,.nili=>bif c then some true else none | .nili,.ifc _ _=>some false | .ifc _ _,.nili=>some false | _,_=>none
  | some (.struct _)=>bif sbT P t then (match x,y with | .agg [.str a,.bool b],.agg [.str c,.bool d]=>some (strEq a c && (b == d)) | _,_=>none) else none
  | _=>none
def ltLo (k : Nat) : Nat:=match ltF k with | 0=>0 | 1=>0 | 2=>1 | 3=>2 | 4=>3 | 5=>4 | 6=>5 | 7=>6 | 8=>7 | 12=>0 | _=>48
def ltHi (k : Nat) : Nat:=match ltF k with | 0=>255 | 1=>2040 | 2=>2041 | 3=>2042 | 4=>2043 | 5=>2044 | 6=>2045 | 7=>2046 | 8=>2047 | 12=>255 | _=>57
def ltNe (k : Nat) : Int → Bool
  | .negSucc _=>true
  | .ofNat b=>Nat.blt b (ltLo k) || Nat.blt (ltHi k) b || (Nat.blt 0 (ltF k) && Nat.ble (ltF k) 8 && !Nat.beq (Nat.mod b 8) (Nat.pred (ltF k)))
def ltLt (k : Nat) : Int → Option Bool
  | .negSucc _=>some false
  | .ofNat b=>bif Nat.blt (ltHi k) b then some true else bif Nat.ble b (ltLo k) then some false else none
def ltGt (k : Nat) : Int → Option Bool
  | .negSucc _=>some true
  | .ofNat b=>bif Nat.blt b (ltLo k) then some true else bif Nat.ble (ltHi k) b then some false else none
def ltTag (k : Nat) : Bool:=Nat.blt 0 (ltF k) && Nat.ble (ltF k) 8
def ltNum (k : Nat) : Bool:=Nat.beq (ltF k) 0 || Nat.beq (ltF k) 12
def binL (op : BinOp) (k : Nat) (a : Pos) (q : IntKind) (b : Int) : Option AV :=
  match op with
  | .shr=>bif ltTag k then (match b with | .ofNat 3=>some (.ltr (Nat.sub k (ltF k)) a) | _=>none) else none
  | .shl=>none
  | op=>bif kEq (ltK k) q then (match op with
    | .eql=>bif ltNe k b then some (.bool false) else none
    | .neq=>bif ltNe k b then some (.bool true) else none
    | .lss=>(match ltLt k b with | some t=>some (.bool t) | none=>none)
    | .geq=>(match ltLt k b with | some t=>some (.bool (!t)) | none=>none)
    | .gtr=>(match ltGt k b with | some t=>some (.bool t) | none=>none)
    | .leq=>(match ltGt k b with | some t=>some (.bool (!t)) | none=>none)
    | .mul=>(match b with | .ofNat 8=>bif Nat.beq (ltF k) 0 then some (.ltr (Nat.succ k) a) else none | _=>none)
    | .add=>(match b with | .ofNat c=>bif ltTag k && Nat.ble (Nat.add (ltF k) c) 8 then some (.ltr (Nat.add k c) a) else none | _=>none)
    | .and=>(match b with | .ofNat 7=>bif ltTag k then some (.int .i64 (.ofNat (Nat.pred (ltF k)))) else none | _=>none)
    | .quo=>(match b with | .ofNat 1=>bif ltNum k then some (.ltr k a) else none | _=>none)
    | .rem=>(match b with | .ofNat 1=>bif ltNum k then some (.int (ltK k) 0) else none | _=>none)
    | _=>none) else none
def binLL (op : BinOp) (k : Nat) (a : Pos) (q : Nat) (b : Pos) : Option AV :=
  bif Nat.beq k q && Pos.beq a b then (match op with | .eql=>some (.bool true) | .neq=>some (.bool false) | _=>none) else none
def cvL (q : IntKind) (k : Nat) (a : Pos) : Option AV :=
  match q with
  | .u64=>bif Nat.beq (ltF k) 0 then some (.ltr (Nat.add k 12) a) else none
  | .i64=>bif Nat.beq (ltF k) 12 then some (.ltr (Nat.sub k 12) a) else none
  | _=>none
def txB : List AV → Option (List Nat)
  | []=>some []
  | .int .u8 (.ofNat n) :: l=>(match txB l with | some r=>some (n :: r) | none=>none)
  | _=>none
def txN (l : List AV) : AV:=match txB l with | some s=>.str s | none=>.txt l
def byA (n : Nat) : AV:=.int .u8 (.ofNat n)
def txD : List AV → List Nat → Bool
  | [],[]=>false
  | [],_ :: _=>true
  | _ :: _,[]=>true
  | .int _ n :: l,b :: s=>bif ieq n (.ofNat b) then txD l s else true
  | .ltr k _ :: l,b :: s=>bif ltNe k (.ofNat b) then true else txD l s
  | _ :: _,_ :: _=>false
def binT (op : BinOp) (l : List AV) (s : List Nat) : Option AV :=
  match op with
  | .eql=>bif txD l s then some (.bool false) else none
  | .neq=>bif txD l s then some (.bool true) else none
  | _=>none
def binTT (op : BinOp) (a b : List AV) : Option AV :=
  match op with
  | .add=>bif Nat.ble (Nat.add a.length b.length) 1000000000 then some (.txt (a ++ b)) else none
  | _=>none
def binGe (op : BinOp) (n : Nat) (k : IntKind) (b : Int) : Option AV :=
  match op,k,b with
  | .eql,.i64,.ofNat 0=>bif Nat.blt 0 n then some (.bool false) else none
  | .sub,.i64,.ofNat 1=>bif Nat.blt 0 n then some (.ge (Nat.pred n)) else none
  | .geq,.i64,.ofNat c=>bif Nat.ble c n then some (.bool true) else none
  | _,_,_=>none
def maxGe (n : Nat) (k : IntKind) (b : Int) : Option AV:=match k,b with | .i64,.ofNat 0=>some (.ge n) | _,_=>none
def binA (P : Program) (op : BinOp) (t : TypeId) (c : Bool) (x y : AV) : Option AV :=
  match x,y with
  | .ge n,.int k b=>binGe op n k b
  | .int k a,.int k' b=>match op with | .shl=>shK .shl k a b | .shr=>shK .shr k a b | op=>bif kEq k k' then binInt op k a b else none
  | .str a,.str b=>binStr op a b
  | .ltr k a,.int q b=>binL op k a q b
  | .ltr k a,.ltr q b=>binLL op k a q b
  | .txt l,.str s=>match op with | .add=>binTT op l (s.map byA) | op=>binT op l s
  | .str s,.txt l=>match op with | .add=>binTT op (s.map byA) l | op=>binT op l s
  | .txt l,.txt s=>binTT op l s
  | x,y=>match op with
    | .eql=>match eqA P t c x y with | some b=>some (.bool b) | none=>none
    | .neq=>match eqA P t c x y with | some b=>some (.bool (!b)) | none=>none
    | _=>none
section
variable {P : Program} {m : Mp} {w : World}
theorem binStr_ok {op : BinOp} {a b : ByteArray} {v : AV} (h : binStr op (a.data.toList.map UInt8.toNat) (b.data.toList.map UInt8.toNat) = some v) (t : TypeId) : ∃ u,(binOp op t (.string a) (.string b)).run P w = .ok u w ∧ VR m v u:=by
  cases op <;> simp only [binStr,str_eq] at h <;> try (cases h; done)
  case add =>
    cases hb : Nat.ble (Nat.add (a.data.toList.map UInt8.toNat).length (b.data.toList.map UInt8.toNat).length) 1000000000 with
    | false=>rw [hb] at h; cases h
    | true =>
      rw [hb,cond_true] at h
      injection h with h; subst h
      have hl:=ble_le hb
      have hl : a.size + b.size ≤ 1000000000:=by
        have e : ∀ x : ByteArray,(x.data.toList.map UInt8.toNat).length = x.size:=fun x=>by rw [List.length_map]; rfl
        rw [e,e] at hl
        exact hl
      have hn : ¬ (((a.size + b.size : Nat) : Int) > IntKind.i64.max):=by
        have : IntKind.i64.max = 9223372036854775807:=by decide
        rw [this]; omega
      refine ⟨.string (a ++ b),?_,?_⟩
      · simp only [binOp,Op.stringOp,if_neg hn,Sem.run_pure]
      · rw [← List.map_append,← Array.toList_append,← ByteArray.data_append]
        exact .str _
  case eql =>
    injection h with h; subst h
    exact ⟨_,rfl,.bool _⟩
  case neq =>
    injection h with h; subst h
    exact ⟨_,rfl,.bool _⟩
theorem run_partS {e : TypeId} (he : P.underlying e = some .string) {cs : Array Value} {off : Nat} {u : Value} (hc : cs[off]? = some u) : (part e cs off).run P w = .ok u w:=by
  simp only [part,isAgg,Sem.run_bind,run_underlying he,Result.andThen_ok,Sem.run_pure,Bool.false_eq_true,if_false,hc]
theorem run_partB {e : TypeId} (he : P.underlying e = some .bool) {cs : Array Value} {off : Nat} {u : Value} (hc : cs[off]? = some u) : (part e cs off).run P w = .ok u w:=by
  simp only [part,isAgg,Sem.run_bind,run_underlying he,Result.andThen_ok,Sem.run_pure,Bool.false_eq_true,if_false,hc]
theorem equal_sb {t : TypeId} {f g : Field} {n : Nat} (ht : P.underlying t = some (.struct #[f,g])) (hs : P.stoodInHeld t = false) (hf : P.underlying f.type = some .string) (hg : P.underlying g.type = some .bool) (h1 : f.name ≠ "_") (h2 : g.name ≠ "_") (o1 : f.offset = 0) (o2 : g.offset = 1) (a c : ByteArray) (b d : Bool) :
    (Op.equalIn (n + 2) t (.agg #[.string a,.bool b]) (.agg #[.string c,.bool d])).run P w = .ok (a == c && b == d) w:=by
  have e1 : ∀ x y,(Op.equalIn (n + 1) f.type (.string x) (.string y)).run P w = .ok (x == y) w:=fun x y=>by
    rw [Op.equalIn]
    simp only [Sem.run_bind,run_underlying hf,Result.andThen_ok,Sem.run_pure]
  have e2 : ∀ x y,(Op.equalIn (n + 1) g.type (.bool x) (.bool y)).run P w = .ok (x == y) w:=fun x y=>by
    rw [Op.equalIn]
    simp only [Sem.run_bind,run_underlying hg,Result.andThen_ok,Sem.run_pure]
  have p1 : ∀ (x : ByteArray) (y : Bool),(part f.type #[.string x,.bool y] f.offset).run P w = .ok (.string x) w:=fun x y=>run_partS hf (by rw [o1]; rfl)
  have p2 : ∀ (x : ByteArray) (y : Bool),(part g.type #[.string x,.bool y] g.offset).run P w = .ok (.bool y) w:=fun x y=>run_partB hg (by rw [o2]; rfl)
  have hp : (program : Sem Program).run P w = .ok P w:=rfl
  rw [show n + 2 = (n + 1) + 1 from rfl,Op.equalIn]
  simp only [Sem.run_bind,run_underlying ht,Result.andThen_ok,hp,hs,Bool.false_eq_true,if_false]
  cases b <;> cases d <;> cases hac : a == c <;> simp [h1,h2,p1,p2,e1,e2,hac,Sem.run_bind,Sem.run_pure,Result.andThen]
theorem sb_ok {t : TypeId} (h : sbT P t = true) {x y : AV} {r : Bool} (hr : (match x,y with | .agg [.str a,.bool b],.agg [.str c,.bool d]=>some (strEq a c && (b == d)) | _,_=>none) = some r) {u u' : Value} (hx : VR m x u) (hy : VR m y u') :
    (∃ a b,u = .agg a ∧ u' = .agg b) ∧ (Op.equal t u u').run P w = .ok r w ∧ ∀ op ox oy,(eqGuard op t ox oy u u').run P w = .ok () w:=by
  unfold sbT at h
  split at h <;> try (cases h; done)
  next fs ht =>
  split at h <;> try (cases h; done)
  next f g hfs =>
  simp only [Bool.and_eq_true,Bool.not_eq_true',bne_iff_ne] at h
  obtain ⟨⟨⟨⟨⟨⟨h1,h2⟩,h3⟩,h4⟩,h5⟩,h6⟩,h7⟩:=h
  split at h7 <;> try (cases h7; done)
  next hf hg =>
  have e : fs = #[f,g]:=by cases fs; simp at hfs; rw [hfs]
  subst e
  split at hr <;> try (cases hr; done)
  next a b c d =>
  injection hr with hr; subst hr
  cases hx with | agg hx =>
  cases hy with | agg hy =>
  rename_i us vs
  obtain ⟨lu⟩:=us
  obtain ⟨lv⟩:=vs
  cases hx with | cons x1 x2 =>
  cases x2 with | cons x2 x3 =>
  cases hy with | cons y1 y2 =>
  cases y2 with | cons y2 y3 =>
  generalize hA : AV.str a = A at x1
  generalize hC : AV.str c = C at y1
  cases x1 <;> try (cases hA; done)
  cases y1 <;> try (cases hC; done)
  injection hA with hA
  injection hC with hC
  subst hA hC
  cases x2
  cases y2
  cases x3
  cases y3
  refine ⟨⟨_,_,rfl,rfl⟩,?_,fun op ox oy=>?_⟩
  · obtain ⟨dd,hdd⟩ : ∃ d,Op.maxDepth = d + 2:=⟨9998,rfl⟩
    unfold Op.equal
    rw [hdd,equal_sb ht h1 hf hg h3 h4 (Nat.eq_of_beq_eq_true h5) (Nat.eq_of_beq_eq_true h6),str_eq]
    congr 1
    congr 1
    rw [Bool.eq_iff_iff,Go.MapKept.bytes_beq,beq_iff_eq,ByteArray.toList_eq,ByteArray.toList_eq]
    rename_i p q
    exact ⟨fun h=>by rw [h],fun h=>by cases p; cases q; congr 1; exact Array.toList_inj.1 h⟩
  · have hp : (program : Sem Program).run P w = .ok P w:=rfl
    cases op <;> first | rfl | simp [eqGuard,Sem.run_bind,hp,h2,Sem.run_pure,Result.andThen]
set_option maxHeartbeats 4000000 in
theorem eqA_ok {t : TypeId} {c : Bool} {x y : AV} {r : Bool} (h : eqA P t c x y = some r) {u u' : Value} (hx : VR m x u) (hy : VR m y u') :
    (binOp .eql t u u').run P w = .ok (.bool r) w ∧ (binOp .neq t u u').run P w = .ok (.bool !r) w ∧ (∀ op ox oy,(c = true → (isC ox || isC oy) = true) → (eqGuard op t ox oy u u').run P w = .ok () w):=by
  have e1 : (Op.equal t u u').run P w = .ok r w → ((do pure (Value.bool (← Op.equal t u u')) : Sem Value)).run P w = .ok (.bool r) w:=fun e=>by simp only [Sem.run_bind,e,Result.andThen_ok,Sem.run_pure]
  have e2 : (Op.equal t u u').run P w = .ok r w → ((do pure (Value.bool (!(← Op.equal t u u'))) : Sem Value)).run P w = .ok (.bool !r) w:=fun e=>by simp only [Sem.run_bind,e,Result.andThen_ok,Sem.run_pure]
  obtain ⟨d,hdd⟩ : ∃ d,Op.maxDepth = d + 1:=⟨9999,rfl⟩
  have e0 : Op.equal t u u' = Op.equalIn (d + 1) t u u':=by unfold Op.equal; rw [hdd]
  unfold eqA at h
  split at h <;> rename_i hd
  case h_8=>cases h
  case h_7 =>
    cases hb : sbT P t with
    | false=>rw [hb] at h; cases h
    | true =>
      rw [hb,cond_true] at h
      obtain ⟨⟨a,b,rfl,rfl⟩,g1,g2⟩:=sb_ok (P:=P) (w:=w) hb h hx hy
      exact ⟨e1 g1,e2 g1,fun op ox oy _=>g2 op ox oy⟩
  all_goals (split at h <;> (try (cases h; done)))
  all_goals first
    | (injection h with h
       subst h
       cases hx <;> cases hy <;>
       exact ⟨e1 (by rw [e0,Op.equalIn]; simp only [Sem.run_bind,run_underlying hd,Result.andThen_ok]; rfl),e2 (by rw [e0,Op.equalIn]; simp only [Sem.run_bind,run_underlying hd,Result.andThen_ok]; rfl),fun op ox oy _=>by cases op <;> rfl⟩)
    | (cases c with
       | false=>cases h
       | true =>
         injection h with h
         subst h
         cases hx
         cases hy
         refine ⟨e1 (by rw [e0,Op.equalIn]; simp only [Sem.run_bind,run_underlying hd,Result.andThen_ok]; rfl),e2 (by rw [e0,Op.equalIn]; simp only [Sem.run_bind,run_underlying hd,Result.andThen_ok]; rfl),fun op ox oy hc=>?_⟩
         have:=hc rfl
         cases op <;> cases ox <;> cases oy <;> first | rfl | (exact Bool.noConfusion this))
theorem ltF_cases (k : Nat) : ltF k = 0 ∨ ltF k = 1 ∨ ltF k = 2 ∨ ltF k = 3 ∨ ltF k = 4 ∨ ltF k = 5 ∨ ltF k = 6 ∨ ltF k = 7 ∨ ltF k = 8 ∨ ltF k = 9 ∨ ltF k = 10 ∨ ltF k = 11 ∨ ltF k = 12 ∨ ltF k = 13 ∨ ltF k = 14 ∨ ltF k = 15:=by
  have : ltF k < 16:=Nat.mod_lt _ (by decide)
  omega
theorem dgt_lt (n j x : Nat) : dgt n j x < 10:=Nat.mod_lt _ (by decide)
theorem ltN_lo (k x : Nat) : ltLo k ≤ ltN k x:=by
  rcases ltF_cases k with e | e | e | e | e | e | e | e | e | e | e | e | e | e | e | e <;> simp only [ltLo,ltN,e] <;> omega
theorem ltN_hi (k : Nat) {x : Nat} (h : x < 256) : ltN k x ≤ ltHi k:=by
  have hd:=dgt_lt (Nat.div k 16)
  rcases ltF_cases k with e | e | e | e | e | e | e | e | e | e | e | e | e | e | e | e <;> simp only [ltHi,ltN,e] <;> first | omega | (have:=hd (ltF k - 9) x; rw [e] at this; omega)
theorem ltTag_ok {k : Nat} (h : ltTag k = true) (x : Nat) : 1 ≤ ltF k ∧ ltF k ≤ 8 ∧ ltK k = .i64 ∧ ltN k x = 8 * x + (ltF k - 1):=by
  rcases ltF_cases k with e | e | e | e | e | e | e | e | e | e | e | e | e | e | e | e <;> simp only [ltTag,e] at h <;> (try (exact absurd h (by decide))) <;> exact ⟨by omega,by omega,by simp only [ltK,e],by (simp only [ltN,e]) <;> omega⟩
theorem ltNum_ok {k : Nat} (h : ltNum k = true) (x : Nat) : (ltK k = .i64 ∨ ltK k = .u64) ∧ ltN k x = x:=by
  rcases ltF_cases k with e | e | e | e | e | e | e | e | e | e | e | e | e | e | e | e <;> simp only [ltNum,e] at h <;> (try (exact absurd h (by decide))) <;> simp only [ltK,ltN,e] <;> simp
theorem ltNe_ok {k x : Nat} {b : Int} (h : ltNe k b = true) (hx : x < 256) : ieq (.ofNat (ltN k x)) b = false:=by
  cases b with
  | negSucc b=>rfl
  | ofNat b =>
    refine nbeq_f ?_
    have h1:=ltN_lo k x
    have h2:=ltN_hi k hx
    simp only [ltNe,Bool.or_eq_true] at h
    rcases h with (h | h) | h
    · have:=blt_lt h; omega
    · have:=blt_lt h; omega
    · rw [Bool.and_eq_true] at h
      obtain ⟨ht,h⟩:=h
      obtain ⟨q1,q2,_,q4⟩:=ltTag_ok (k:=k) ht x
      intro e
      rw [q4] at e
      have : Nat.beq (Nat.mod b 8) (Nat.pred (ltF k)) = true:=nbeq_t (by show b % 8 = ltF k - 1; omega)
      rw [this] at h; cases h
theorem ltLt_ok {k x : Nat} {b : Int} {t : Bool} (h : ltLt k b = some t) (hx : x < 256) : ilt (.ofNat (ltN k x)) b = t:=by
  cases b with
  | negSucc b=>injection h
  | ofNat b =>
    have h1:=ltN_lo k x
    have h2:=ltN_hi k hx
    simp only [ltLt] at h
    cases e : Nat.blt (ltHi k) b with
    | true=>rw [e] at h; injection h with h; subst h; have:=blt_lt e; exact blt_t (by omega)
    | false =>
      rw [e] at h
      cases e2 : Nat.ble b (ltLo k) with
      | true=>rw [e2] at h; injection h with h; subst h; have:=ble_le e2; exact blt_f (by omega)
      | false=>rw [e2] at h; cases h
theorem ltGt_ok {k x : Nat} {b : Int} {t : Bool} (h : ltGt k b = some t) (hx : x < 256) : ilt b (.ofNat (ltN k x)) = t:=by
  cases b with
  | negSucc b=>injection h
  | ofNat b =>
    have h1:=ltN_lo k x
    have h2:=ltN_hi k hx
    simp only [ltGt] at h
    cases e : Nat.blt b (ltLo k) with
    | true=>rw [e] at h; injection h with h; subst h; have:=blt_lt e; exact blt_t (by omega)
    | false =>
      rw [e] at h
      cases e2 : Nat.ble (ltHi k) b with
      | true=>rw [e2] at h; injection h with h; subst h; have:=ble_le e2; exact blt_f (by omega)
      | false=>rw [e2] at h; cases h
theorem binL_of {op : BinOp} {q : IntKind} {a b : Int} {v v' : AV} (h : binInt op q a b = some v') (hv : ∀ r,VR m v' r → VR m v r) (t : TypeId) : ∃ u,(binOp op t (.int q a) (.int q b)).run P w = .ok u w ∧ VR m v u:=by
  obtain ⟨r,h1,h2⟩:=binInt_ok (P:=P) (w:=w) (m:=m) h t
  exact ⟨r,h1,hv r h2⟩
theorem vr_int {q : IntKind} {n : Int} {v : AV} (h : VR m v (.int q n)) : ∀ r,VR m (.int q n) r → VR m v r:=fun r hr=>by cases hr; exact h
theorem ltF_add {k c : Nat} (h : ltF k + c < 16) : ltF (Nat.add k c) = ltF k + c ∧ Nat.div (Nat.add k c) 16 = Nat.div k 16:=by
  have e1 : ltF k = k % 16:=rfl
  have e2 : ltF (Nat.add k c) = (k + c) % 16:=rfl
  have e3 : Nat.div (Nat.add k c) 16 = (k + c) / 16:=rfl
  have e4 : Nat.div k 16 = k / 16:=rfl
  rw [e1] at h
  rw [e1,e2,e3,e4]
  omega
theorem ltF_sub (k c : Nat) (h : c ≤ ltF k) : ltF (Nat.sub k c) = ltF k - c ∧ Nat.div (Nat.sub k c) 16 = Nat.div k 16:=by
  have e1 : ltF k = k % 16:=rfl
  have e2 : ltF (Nat.sub k c) = (k - c) % 16:=rfl
  have e3 : Nat.div (Nat.sub k c) 16 = (k - c) / 16:=rfl
  have e4 : Nat.div k 16 = k / 16:=rfl
  rw [e1] at h
  rw [e1,e2,e3,e4]
  omega
theorem ltr_num {k : Nat} {a : Pos} {i x : Nat} (hm : m a = some (i,x)) (hx : x < 256) (hd : dgOk k x) (h : ltF k = 0) : VR m (.ltr k a) (.int .i64 (.ofNat x)):=by
  have:=VR.ltr k hm hx hd
  have e1 : ltK k = .i64:=by simp only [ltK,h]
  have e2 : ltN k x = x:=by simp only [ltN,h]
  rwa [e1,e2] at this
theorem ltr_tag {k : Nat} {a : Pos} {i x : Nat} (hm : m a = some (i,x)) (hx : x < 256) (hd : dgOk k x) (h : ltTag k = true) : VR m (.ltr k a) (.int .i64 (.ofNat (8 * x + (ltF k - 1)))):=by
  have:=VR.ltr k hm hx hd
  obtain ⟨_,_,e1,e2⟩:=ltTag_ok h x
  rwa [e1,e2] at this
theorem wrap_small {n : Nat} (h : n ≤ 9223372036854775807) : wrapK .i64 (.ofNat n) = .ofNat n:=by rw [wrapK_ok]; exact inR_ok .i64 _ (ble_t h)
set_option maxHeartbeats 1000000 in
theorem binL_ok {op : BinOp} {k : Nat} {a : Pos} {q : IntKind} {b : Int} {v : AV} (h : binL op k a q b = some v) {i x : Nat} (hm : m a = some (i,x)) (hx : x < 256) (hd : dgOk k x) (t : TypeId) :
    ∃ u,(binOp op t (.int (ltK k) (.ofNat (ltN k x))) (.int q b)).run P w = .ok u w ∧ VR m v u:=by
  by_cases hs : op = .shr
  · subst hs
    simp only [binL] at h
    cases ht : ltTag k with
    | false=>rw [ht] at h; cases h
    | true =>
      rw [ht] at h
      obtain ⟨q1,q2,q3,q4⟩:=ltTag_ok ht x
      cases b with
      | negSucc b=>cases h
      | ofNat b =>
        by_cases hb : b = 3
        · subst hb
          injection h with h; subst h
          obtain ⟨p1,p2⟩:=ltF_sub k (ltF k) (Nat.le_refl _)
          rw [q3,q4]
          obtain ⟨r,h1,h2⟩:=shK_ok (P:=P) (w:=w) (m:=m) (k':=q) (show shK .shr .i64 (.ofNat (8 * x + (ltF k - 1))) (.ofNat 3) = some (.int .i64 (.ofNat (Nat.div (8 * x + (ltF k - 1)) 8))) from rfl) t
          refine ⟨r,h1,?_⟩
          have e : Nat.div (8 * x + (ltF k - 1)) 8 = x:=by show (8 * x + (ltF k - 1)) / 8 = x; omega
          rw [e] at h2
          exact vr_int (ltr_num hm hx (by unfold dgOk; rw [p2]; exact hd) (by rw [p1]; omega)) r h2
        · exfalso
          simp only [cond_true] at h
          split at h
          · next e=>injection e with e; exact hb e
          · cases h
  · by_cases hs2 : op = .shl
    · subst hs2; cases h
    · have hk : kEq (ltK k) q = true:=by
        cases hk : kEq (ltK k) q with
        | true=>rfl
        | false =>
          exfalso
          cases op <;> first | exact hs rfl | exact hs2 rfl | (simp only [binL,hk,cond_false] at h; cases h)
      have hq:=kEq_ok hk
      subst hq
      cases op <;> (try (exact absurd rfl hs)) <;> (try (exact absurd rfl hs2)) <;> simp only [binL,hk,cond_true] at h <;> (try (cases h; done))
      case eql =>
        cases e : ltNe k b with
        | false=>rw [e] at h; cases h
        | true=>rw [e] at h; injection h with h; subst h; exact binInt_ok (by show some (AV.bool (ieq _ _)) = _; rw [ltNe_ok e hx]) t
      case neq =>
        cases e : ltNe k b with
        | false=>rw [e] at h; cases h
        | true=>rw [e] at h; injection h with h; subst h; exact binInt_ok (by show some (AV.bool (!ieq _ _)) = _; rw [ltNe_ok e hx]; rfl) t
      case lss =>
        split at h
        · next e=>injection h with h; subst h; exact binInt_ok (by show some (AV.bool (ilt _ _)) = _; rw [ltLt_ok e hx]) t
        · cases h
      case geq =>
        split at h
        · next e=>injection h with h; subst h; exact binInt_ok (by show some (AV.bool (!ilt _ _)) = _; rw [ltLt_ok e hx]) t
        · cases h
      case gtr =>
        split at h
        · next e=>injection h with h; subst h; exact binInt_ok (by show some (AV.bool (ilt _ _)) = _; rw [ltGt_ok e hx]) t
        · cases h
      case leq =>
        split at h
        · next e=>injection h with h; subst h; exact binInt_ok (by show some (AV.bool (!ilt _ _)) = _; rw [ltGt_ok e hx]) t
        · cases h
      case mul =>
        split at h
        · cases e : Nat.beq (ltF k) 0 with
          | false=>rw [e] at h; cases h
          | true =>
            rw [e] at h; injection h with h; subst h
            have e:=Nat.eq_of_beq_eq_true e
            obtain ⟨p1,p2⟩:=ltF_add (k:=k) (c:=1) (by omega)
            have e1 : ltK k = .i64:=by simp only [ltK,e]
            have e2 : ltN k x = x:=by simp only [ltN,e]
            rw [e1,e2]
            refine binL_of (v':=.int .i64 (.ofNat (8 * x))) (by show some (AV.int .i64 (wrapK .i64 (.ofNat (Nat.mul x 8)))) = _; rw [wrap_small (by show x * 8 ≤ _; omega)]; congr 3; exact Nat.mul_comm x 8) (vr_int ?_) t
            have:=ltr_tag (k:=Nat.add k 1) hm hx (by unfold dgOk; rw [p2]; exact hd) (by simp only [ltTag,p1,e]; rfl)
            rw [p1,e] at this
            exact this
        · cases h
      case add =>
        split at h
        · next c =>
          cases e : ltTag k && Nat.ble (Nat.add (ltF k) c) 8 with
          | false=>rw [e] at h; cases h
          | true =>
            rw [e] at h; injection h with h; subst h
            rw [Bool.and_eq_true] at e
            obtain ⟨q1,q2,q3,q4⟩:=ltTag_ok e.1 x
            have hc : ltF k + c ≤ 8:=ble_le e.2
            obtain ⟨p1,p2⟩:=ltF_add (k:=k) (c:=c) (by omega)
            rw [q3,q4]
            refine binL_of (v':=.int .i64 (.ofNat (8 * x + (ltF k - 1) + c))) (by show some (AV.int .i64 (wrapK .i64 (.ofNat (8 * x + (ltF k - 1) + c)))) = _; rw [wrap_small (by omega)]) (vr_int ?_) t
            have:=ltr_tag (k:=Nat.add k c) hm hx (by unfold dgOk; rw [p2]; exact hd) (by simp only [ltTag,p1,Bool.and_eq_true]; exact ⟨blt_t (by omega),ble_t hc⟩)
            rw [p1] at this
            have e3 : 8 * x + (ltF k + c - 1) = 8 * x + (ltF k - 1) + c:=by omega
            rw [e3] at this
            exact this
        · cases h
      case and =>
        split at h
        · cases e : ltTag k with
          | false=>rw [e] at h; cases h
          | true =>
            rw [e] at h; injection h with h; subst h
            obtain ⟨q1,q2,q3,q4⟩:=ltTag_ok e x
            rw [q3,q4]
            refine binInt_ok (by
              show some (AV.int .i64 (bif inR .i64 (.ofNat (8 * x + (ltF k - 1))) && inR .i64 (.ofNat 7) then .ofNat (Nat.land (8 * x + (ltF k - 1)) 7) else bitM .and .i64 _ _)) = _
              have e1 : inR .i64 (.ofNat (8 * x + (ltF k - 1))) = true:=ble_t (by omega)
              have e2 : inR .i64 (.ofNat 7) = true:=rfl
              rw [e1,e2]
              have e3 : Nat.land (8 * x + (ltF k - 1)) 7 = Nat.pred (ltF k):=by
                show (8 * x + (ltF k - 1)) &&& (2 ^ 3 - 1) = ltF k - 1
                rw [Nat.and_two_pow_sub_one_eq_mod]; omega
              rw [e3]; rfl) t
        · cases h
      case quo =>
        split at h
        · cases e : ltNum k with
          | false=>rw [e] at h; cases h
          | true =>
            rw [e] at h; injection h with h; subst h
            obtain ⟨q1,q2⟩:=ltNum_ok e x
            have hv:=VR.ltr k hm hx hd
            rw [q2] at hv ⊢
            refine binL_of (v':=.int (ltK k) (.ofNat x)) (by
              show some (AV.int (ltK k) (wrapK (ltK k) (.ofNat (Nat.div x 1)))) = _
              have : Nat.div x 1 = x:=Nat.div_one x
              rw [this,wrapK_ok]
              rcases q1 with e | e <;> rw [e] <;> rw [inR_ok] <;> exact ble_t (by omega)) (vr_int hv) t
        · cases h
      case rem =>
        split at h
        · cases e : ltNum k with
          | false=>rw [e] at h; cases h
          | true =>
            rw [e] at h; injection h with h; subst h
            exact binInt_ok (by
              show some (AV.int (ltK k) (.ofNat (Nat.mod (ltN k x) 1))) = _
              have : Nat.mod (ltN k x) 1 = 0:=Nat.mod_one _
              rw [this]; rfl) t
        · cases h
theorem binLL_ok {op : BinOp} {k k' : Nat} {a b : Pos} {v : AV} (h : binLL op k a k' b = some v) {i x j y : Nat} (hm : m a = some (i,x)) (hm2 : m b = some (j,y)) (t : TypeId) :
    ∃ u,(binOp op t (.int (ltK k) (.ofNat (ltN k x))) (.int (ltK k') (.ofNat (ltN k' y)))).run P w = .ok u w ∧ VR m v u:=by
  unfold binLL at h
  cases e : Nat.beq k k' && Pos.beq a b with
  | false=>rw [e] at h; cases h
  | true =>
    rw [e] at h
    rw [Bool.and_eq_true] at e
    have e1:=Nat.eq_of_beq_eq_true e.1
    have e2:=Pos.beq_eq e.2
    subst e1 e2
    rw [hm] at hm2
    injection hm2 with hm2
    injection hm2 with hi hj
    subst hi hj
    have hr : ieq (.ofNat (ltN k x)) (.ofNat (ltN k x)) = true:=nbeq_t rfl
    cases op <;> (try (cases h; done)) <;> (injection h with h; subst h)
    · exact binInt_ok (by show some (AV.bool (ieq _ _)) = _; rw [hr]) t
    · exact binInt_ok (by show some (AV.bool (!ieq _ _)) = _; rw [hr]; rfl) t
theorem cvL_ok {q : IntKind} {k : Nat} {a : Pos} {v : AV} (h : cvL q k a = some v) {i x : Nat} (hm : m a = some (i,x)) (hx : x < 256) (hd : dgOk k x) : VR m v (.int q (q.wrap (.ofNat (ltN k x)))):=by
  cases q <;> (try (cases h; done)) <;> simp only [cvL] at h
  · cases e : Nat.beq (ltF k) 12 with
    | false=>rw [e] at h; cases h
    | true =>
      rw [e] at h; injection h with h; subst h
      have e:=Nat.eq_of_beq_eq_true e
      obtain ⟨p1,p2⟩:=ltF_sub k 12 (by omega)
      have e2 : ltN k x = x:=by simp only [ltN,e]
      rw [e2,show IntKind.wrap .i64 (.ofNat x) = .ofNat x from inR_ok .i64 (.ofNat x) (ble_t (by omega))]
      exact ltr_num hm hx (by unfold dgOk; rw [p2]; exact hd) (by rw [p1]; omega)
  · cases e : Nat.beq (ltF k) 0 with
    | false=>rw [e] at h; cases h
    | true =>
      rw [e] at h; injection h with h; subst h
      have e:=Nat.eq_of_beq_eq_true e
      obtain ⟨p1,p2⟩:=ltF_add (k:=k) (c:=12) (by omega)
      have e2 : ltN k x = x:=by simp only [ltN,e]
      rw [e2,show IntKind.wrap .u64 (.ofNat x) = .ofNat x from inR_ok .u64 (.ofNat x) (ble_t (by omega))]
      have:=VR.ltr (Nat.add k 12) hm hx (by unfold dgOk; rw [p2]; exact hd)
      have f1 : ltF (Nat.add k 12) = 12:=by rw [p1]; omega
      have f2 : ltK (Nat.add k 12) = .u64:=by simp only [ltK,f1]
      have f3 : ltN (Nat.add k 12) x = x:=by simp only [ltN,f1]
      rwa [f2,f3] at this
theorem txB_ok : ∀ {l : List AV} {s : List Nat},txB l = some s → l = s.map byA
  | [],s,h=>by injection h with h; subst h; rfl
  | v :: l,s,h=>by
    unfold txB at h
    split at h
    · next e=>cases e
    · next n l' e =>
      injection e with e1 e2
      subst e1 e2
      split at h
      · next r hr =>
        injection h with h; subst h
        rw [txB_ok hr]; rfl
      · cases h
    · cases h
def byV (b : ByteArray) : List Value:=b.data.toList.map fun x=>Value.int .u8 (.ofNat x.toNat)
theorem bys_vr (m : Mp) : ∀ l : List UInt8,VRs m ((l.map UInt8.toNat).map byA) (l.map fun x=>Value.int .u8 (.ofNat x.toNat))
  | []=>.nil
  | _ :: l=>.cons (.int _ _) (bys_vr m l)
theorem bys_inj : ∀ {s : List Nat} {l : List UInt8},VRs m (s.map byA) (l.map fun x=>Value.int .u8 (.ofNat x.toNat)) → s = l.map UInt8.toNat
  | [],[],_=>rfl
  | [],_ :: _,h=>by cases h
  | _ :: _,[],h=>by cases h
  | n :: s,x :: l,h=>by
    cases h with | cons a b =>
    have:=bys_inj b
    rw [this]
    have e : n = x.toNat:=by
      cases a; rfl
    rw [e]; rfl
theorem txN_ok {l : List AV} {b : ByteArray} (h : VRs m l (byV b)) : VR m (txN l) (.string b):=by
  unfold txN
  split
  · next s hs =>
    rw [txB_ok hs] at h
    rw [bys_inj h]
    exact .str b
  · exact .txt h
theorem txD_ok : ∀ {l : List AV} {s : List Nat} {k : List UInt8},txD l s = true → VRs m l (k.map fun x=>Value.int .u8 (.ofNat x.toNat)) → k.map UInt8.toNat ≠ s
  | [],[],k,h,_=>by cases h
  | [],_ :: _,k,_,hv=>by
    cases k with
    | nil=>intro e; cases e
    | cons x k=>cases hv
  | _ :: _,[],k,_,hv=>by
    cases k with
    | nil=>cases hv
    | cons x k=>intro e; cases e
  | v :: l,b :: s,k,h,hv=>by
    cases k with
    | nil=>cases hv
    | cons x k =>
      cases hv with | cons h1 h2 =>
      replace h1 : VR m v (Value.int IntKind.u8 (Int.ofNat x.toNat)):=h1
      intro e
      injection e with e1 e2
      have ih:=fun h=>txD_ok (l:=l) (s:=s) (k:=k) h h2 e2
      generalize hw : Value.int IntKind.u8 (Int.ofNat x.toNat) = u at h1
      cases v <;> (try (cases h; done)) <;> simp only [txD] at h
      · cases h1
        injection hw with _ hw
        subst hw
        rw [show ieq (Int.ofNat x.toNat) (.ofNat b) = true from nbeq_t e1,cond_true] at h
        exact ih h
      · cases h1 with | ltr h3 h4 h5 h6 =>
        injection hw with _ hw
        cases e3 : ltNe _ (.ofNat b) with
        | true =>
          have:=ltNe_ok e3 h5
          rw [← hw,show ieq (Int.ofNat x.toNat) (.ofNat b) = true from nbeq_t e1] at this
          cases this
        | false=>rw [e3] at h; exact ih h
theorem binT_ok {op : BinOp} {l : List AV} {s b : ByteArray} {v : AV} (h : binT op l (b.data.toList.map UInt8.toNat) = some v) (hl : VRs m l (byV s)) (t : TypeId) :
    (∃ u,(binOp op t (.string s) (.string b)).run P w = .ok u w ∧ VR m v u) ∧ ∃ u,(binOp op t (.string b) (.string s)).run P w = .ok u w ∧ VR m v u:=by
  have key : txD l (b.data.toList.map UInt8.toNat) = true → (s.toList == b.toList) = false ∧ (b.toList == s.toList) = false:=fun hd=>by
    have h1:=txD_ok hd hl
    have : s.toList ≠ b.toList:=fun e=>h1 (by rw [ByteArray.toList_eq,ByteArray.toList_eq] at e; rw [e])
    exact ⟨beq_eq_false_iff_ne.2 this,beq_eq_false_iff_ne.2 (Ne.symm this)⟩
  cases op <;> (try (cases h; done)) <;> simp only [binT] at h
  · cases e : txD l (b.data.toList.map UInt8.toNat) with
    | false=>rw [e] at h; cases h
    | true =>
      rw [e] at h; injection h with h; subst h
      obtain ⟨k1,k2⟩:=key e
      exact ⟨⟨.bool (s.toList == b.toList),rfl,by rw [k1]; exact .bool _⟩,⟨.bool (b.toList == s.toList),rfl,by rw [k2]; exact .bool _⟩⟩
  · cases e : txD l (b.data.toList.map UInt8.toNat) with
    | false=>rw [e] at h; cases h
    | true =>
      rw [e] at h; injection h with h; subst h
      obtain ⟨k1,k2⟩:=key e
      exact ⟨⟨.bool (!(s.toList == b.toList)),rfl,by rw [k1]; exact .bool _⟩,⟨.bool (!(b.toList == s.toList)),rfl,by rw [k2]; exact .bool _⟩⟩
theorem binTT_ok {op : BinOp} {l l' : List AV} {a b : ByteArray} {v : AV} (h : binTT op l l' = some v) (hl : VRs m l (byV a)) (hl' : VRs m l' (byV b)) (t : TypeId) :
    ∃ u,(binOp op t (.string a) (.string b)).run P w = .ok u w ∧ VR m v u:=by
  cases op <;> (try (cases h; done)) <;> simp only [binTT] at h
  cases e : Nat.ble (Nat.add l.length l'.length) 1000000000 with
  | false=>rw [e] at h; cases h
  | true =>
    rw [e] at h; injection h with h; subst h
    have hn:=ble_le e
    rw [hl.len,hl'.len] at hn
    have e1 : ∀ x : ByteArray,(byV x).length = x.size:=fun x=>by unfold byV; rw [List.length_map]; rfl
    rw [e1,e1] at hn
    have hn : a.size + b.size ≤ 1000000000:=hn
    have hn : ¬ (((a.size + b.size : Nat) : Int) > IntKind.i64.max):=by
      have : IntKind.i64.max = 9223372036854775807:=by decide
      rw [this]; omega
    refine ⟨.string (a ++ b),?_,.txt ?_⟩
    · simp only [binOp,Op.stringOp,if_neg hn,Sem.run_pure]
    · rw [ByteArray.data_append,Array.toList_append,List.map_append]
      exact hl.app hl'
theorem eqGuard_int (op : BinOp) (t : TypeId) (ox oy : Operand) (k k' : IntKind) (a b : Int) : (eqGuard op t ox oy (.int k a) (.int k' b)).run P w = .ok () w:=by cases op <;> rfl
theorem eqGuard_str (op : BinOp) (t : TypeId) (ox oy : Operand) (a b : ByteArray) : (eqGuard op t ox oy (.string a) (.string b)).run P w = .ok () w:=by cases op <;> rfl
theorem binA_ok {op : BinOp} {t : TypeId} {c : Bool} {x y v : AV} (h : binA P op t c x y = some v) {u u' : Value} (hx : VR m x u) (hy : VR m y u') {ox oy : Operand} (hc : c = true → (isC ox || isC oy) = true) :
    (eqGuard op t ox oy u u').run P w = .ok () w ∧ ∃ r,(binOp op t u u').run P w = .ok r w ∧ VR m v r:=by
  unfold binA at h
  split at h
  · cases hx with | ge h1 h2 =>
    cases hy
    refine ⟨eqGuard_int _ _ _ _ _ _ _ _,?_⟩
    unfold binGe at h
    rename_i n k b v
    split at h <;> try (cases h; done)
    · cases hb : Nat.blt 0 n with
      | false=>rw [hb] at h; cases h
      | true =>
        rw [hb] at h
        injection h with h; subst h
        have h0 : 0 < n:=by rw [Nat.blt_eq] at hb; exact hb
        have e : binInt .eql .i64 (.ofNat v) (.ofNat 0) = some (.bool false):=by
          show some (AV.bool (ieq (.ofNat v) (.ofNat 0))) = _
          cases v with
          | zero=>omega
          | succ v=>rfl
        exact binInt_ok e t
    · cases hb : Nat.blt 0 n with
      | false=>rw [hb] at h; cases h
      | true =>
        rw [hb] at h
        injection h with h; subst h
        have h0 : 0 < n:=by rw [Nat.blt_eq] at hb; exact hb
        have e : binInt .sub .i64 (.ofNat v) (.ofNat 1) = some (.int .i64 (.ofNat (v - 1))):=by
          show some (AV.int .i64 (wrapK .i64 (isub (.ofNat v) (.ofNat 1)))) = _
          rw [isub_ok,show ((Int.ofNat v) - (Int.ofNat 1)) = Int.ofNat (v - 1) by (have : (Int.ofNat v) = (v : Int):=rfl; have : (Int.ofNat (v - 1)) = ((v - 1 : Nat) : Int):=rfl; have : (Int.ofNat 1) = (1 : Int):=rfl; omega),wrapK_ok,inR_ok .i64 (.ofNat (v - 1)) (ble_t (by omega : v - 1 ≤ 9223372036854775807))]
        obtain ⟨r,e1,e2⟩:=binInt_ok (P:=P) (w:=w) (m:=m) e t
        refine ⟨r,e1,?_⟩
        cases e2
        exact .ge (by rw [Nat.pred_eq_sub_one]; omega) (by omega)
    · rename_i c
      cases hb : Nat.ble c n with
      | false=>rw [hb] at h; cases h
      | true =>
        rw [hb] at h
        injection h with h; subst h
        have h0:=ble_le hb
        exact binInt_ok (by
          show some (AV.bool (!ilt (.ofNat v) (.ofNat c))) = _
          rw [show ilt (.ofNat v) (.ofNat c) = false from blt_f (by omega)]; rfl) t
  · cases hx
    cases hy
    refine ⟨eqGuard_int _ _ _ _ _ _ _ _,?_⟩
    split at h
    · exact shK_ok h t
    · exact shK_ok h t
    · rename_i k a k' b _ _ _
      cases hk : kEq k k' with
      | false=>rw [hk] at h; cases h
      | true =>
        rw [hk,cond_true] at h
        obtain rfl:=kEq_ok hk
        exact binInt_ok h t
  · cases hx
    cases hy
    exact ⟨eqGuard_str _ _ _ _ _ _,binStr_ok h t⟩
  · cases hx with | ltr h1 h2 h3 h4 =>
    cases hy
    exact ⟨eqGuard_int _ _ _ _ _ _ _ _,binL_ok h h2 h3 h4 t⟩
  · cases hx with | ltr h1 h2 h3 h4 =>
    cases hy with | ltr g1 g2 g3 g4 =>
    exact ⟨eqGuard_int _ _ _ _ _ _ _ _,binLL_ok h h2 g2 t⟩
  · cases hx with | txt h1 =>
    cases hy
    refine ⟨eqGuard_str _ _ _ _ _ _,?_⟩
    split at h
    · exact binTT_ok h h1 (bys_vr m _) t
    · exact (binT_ok h h1 t).1
  · cases hx
    cases hy with | txt h1 =>
    refine ⟨eqGuard_str _ _ _ _ _ _,?_⟩
    split at h
    · exact binTT_ok h (bys_vr m _) h1 t
    · exact (binT_ok h h1 t).2
  · cases hx with | txt h1 =>
    cases hy with | txt h2 =>
    exact ⟨eqGuard_str _ _ _ _ _ _,binTT_ok h h1 h2 t⟩
  · rename_i hn1 hn2
    split at h
    · split at h
      · next r hr =>
        injection h with h
        subst h
        obtain ⟨h1,_,h2⟩:=eqA_ok hr hx hy
        exact ⟨h2 _ _ _ hc,_,h1,.bool r⟩
      · cases h
    · split at h
      · next r hr =>
        injection h with h
        subst h
        obtain ⟨_,h1,h2⟩:=eqA_ok hr hx hy
        exact ⟨h2 _ _ _ hc,_,h1,.bool (!r)⟩
      · cases h
    · cases h
end
end Am
end Go.Proofs.YtadbcnekkceoaaaGreatDoor
namespace Go.Proofs.YtadbcnekkceoaaaGreatDoor
namespace Am
def cellsA : AV → Option (List AV) | .junk=>none | .glb _ _ _=>none | .agg cs=>some cs | v=>some [v]
theorem cellsA_ok {m : Mp} {x : AV} {u : Value} (h : VR m x u) {l : List AV} (hl : cellsA x = some l) : VRs m l u.cells.toList:=by
  cases h <;> simp only [cellsA] at hl <;> (try (cases hl; done)) <;> injection hl with hl <;> subst hl
  case agg h=>exact h
  case ltr h1 h2 h3=>exact .cons (.ltr _ h1 h2 h3) .nil
  all_goals exact .cons (by constructor <;> assumption) .nil
def ovl (cells : List AV) (off : Nat) : List AV → List AV
  | []=>cells
  | v :: l=>ovl (cells.set off v) (Nat.succ off) l
def fillA (place : Nat → Option (Nat × Nat)) (cells : List AV) : List (Nat × AV) → Option (List AV)
  | []=>some cells
  | (i,v) :: rest=>match place i,cellsA v with
    | some (off,size),some cs=>bif Nat.beq cs.length size && Nat.ble (Nat.add off cs.length) cells.length then fillA place (ovl cells off cs) rest else none
    | _,_=>none
theorem ovl_ok {m : Mp} : ∀ {l : List AV} {k : List Value},VRs m l k → ∀ {cells : List AV} {cs : Array Value} (off i : Nat),VRs m cells cs.toList → VRs m (ovl cells (off + i) l) ((k.zipIdx i).foldl (fun (cs : Array Value) (c : Value × Nat)=>cs.setIfInBounds (off + c.2) c.1) cs).toList
  | _,_,.nil,_,_,_,_,h=>h
  | _,_,.cons a b,cells,cs,off,i,h=>by
    simp only [ovl,List.zipIdx_cons,List.foldl_cons]
    exact ovl_ok b off (i + 1) (by rw [Array.toList_setIfInBounds]; exact h.set _ a)
inductive PaR (m : Mp) : List (Nat × AV) → List (Nat × Value) → Prop
  | nil : PaR m [] []
  | cons {i : Nat} {x : AV} {u : Value} {l : List (Nat × AV)} {k : List (Nat × Value)} : VR m x u → PaR m l k → PaR m ((i,x) :: l) ((i,u) :: k)
theorem fillA_ok {m : Mp} {place : Nat → Option (Nat × Nat)} : ∀ {l : List (Nat × AV)} {k : List (Nat × Value)},PaR m l k → ∀ {cells r : List AV} {cs : Array Value},VRs m cells cs.toList → fillA place cells l = some r → ∃ rs,Instr.fill place cs k = some rs ∧ VRs m r rs.toList
  | _,_,.nil,_,_,cs,h,hr=>by injection hr with hr; subst hr; exact ⟨cs,rfl,h⟩
  | _,_,.cons (i:=i) (x:=x) (u:=u) a b,cells,r,cs,h,hr=>by
    simp only [fillA] at hr
    split at hr
    · next off size c hp hc =>
      cases hb : Nat.beq c.length size && Nat.ble (Nat.add off c.length) cells.length with
      | false=>rw [hb] at hr; cases hr
      | true =>
        rw [hb,cond_true] at hr
        rw [Bool.and_eq_true] at hb
        have e1:=Nat.eq_of_beq_eq_true hb.1
        have e2:=ble_le hb.2
        have hcu:=cellsA_ok a hc
        have l1 : c.length = u.cells.size:=by rw [hcu.len]; simp
        have l2 : cells.length = cs.size:=by rw [h.len]; simp
        have hcond : ¬ (u.cells.size ≠ size || off + u.cells.size > cs.size) = true:=by
          have e2' : off + c.length ≤ cells.length:=e2
          simp only [ne_eq,decide_not,Bool.or_eq_true,Bool.not_eq_true',decide_eq_false_iff_not,decide_eq_true_eq,not_or,Decidable.not_not]
          omega
        have ho:=ovl_ok hcu off 0 h
        rw [Nat.add_zero] at ho
        obtain ⟨rs,h1,h2⟩:=fillA_ok b (cs:=u.cells.zipIdx.foldl (fun cs x=>cs.setIfInBounds (off + x.2) x.1) cs) (by
          rw [← Array.foldl_toList,Array.toList_zipIdx]; exact ho) hr
        refine ⟨rs,?_,h2⟩
        simp only [Instr.fill,hp]
        rw [if_neg hcond]
        exact h1
    · cases hr
def natA : AV → Option Nat | .int _ (.ofNat n)=>some n | _=>none
theorem natA_ok {m : Mp} {x : AV} {u : Value} (h : VR m x u) {n : Nat} (hn : natA x = some n) : ∃ k,x = .int k (.ofNat n) ∧ u = .int k (n : Int):=by
  cases h <;> simp only [natA] at hn <;> try (cases hn; done)
  split at hn
  · next e=>injection hn with hn; subst hn; injection e with e1 e2; subst e1 e2; exact ⟨_,rfl,rfl⟩
  · cases hn
def aggT (P : Program) (t : TypeId) : Option Bool:=match P.underlying t with | some (.struct _)=>some true | some (.array _ _)=>some true | some _=>some false | none=>none
theorem aggT_ok {P : Program} {t : TypeId} {b : Bool} (h : aggT P t = some b) (w : World) : (isAgg t).run P w = .ok b w:=by
  unfold aggT at h
  unfold isAgg
  split at h
  · next hd=>injection h with h; subst h; simp only [Sem.run_bind,run_underlying hd,Result.andThen_ok]; rfl
  · next hd=>injection h with h; subst h; simp only [Sem.run_bind,run_underlying hd,Result.andThen_ok]; rfl
  · next d h1 h2 hd =>
    injection h with h; subst h
    simp only [Sem.run_bind,run_underlying hd,Result.andThen_ok]
    cases d <;> first | rfl | (exact (h1 _ hd).elim) | (exact (h2 _ _ hd).elim)
  · cases h
def partA (P : Program) (t : TypeId) (cs : List AV) (off : Nat) : Option AV :=
  match aggT P t with
  | some true=>match P.info? t with | some i=>some (.agg ((cs.drop off).take i.size)) | none=>none
  | some false=>cs[off]?
  | none=>none
theorem run_sizeOf' {P : Program} {t : TypeId} {i : TypeInfo} (h : P.info? t = some i) (w : World) : (sizeOf t).run P w = .ok i.size w:=by
  simp only [sizeOf,typeInfo,Sem.run_bind,run_program,Result.andThen_ok,h,Sem.run_pure]
theorem partA_ok {P : Program} {m : Mp} {t : TypeId} {cs : List AV} {us : Array Value} {off : Nat} {v : AV} (h : partA P t cs off = some v) (hc : VRs m cs us.toList) (w : World) : ∃ u,(part t us off).run P w = .ok u w ∧ VR m v u:=by
  unfold partA at h
  split at h
  · next ha =>
    split at h
    · next i hi =>
      injection h with h; subst h
      refine ⟨.agg (us.extract off (off + i.size)),?_,.agg ?_⟩
      · simp only [part,Sem.run_bind,aggT_ok ha,Result.andThen_ok,if_true,run_sizeOf' hi,Sem.run_pure]
      · rw [Array.toList_extract,List.extract_eq_take_drop,show off + i.size - off = i.size by omega]
        exact (hc.drop off).take _
    · cases h
  · next ha =>
    obtain ⟨u,h1,h2⟩:=hc.get h
    refine ⟨u,?_,h2⟩
    have h1' : us[off]? = some u:=by simpa using h1
    simp only [part,Sem.run_bind,aggT_ok ha,Result.andThen_ok,Bool.false_eq_true,if_false,h1',Sem.run_pure]
  · cases h
def zeroA (P : Program) (t : TypeId) : Option AV:=match P.info? t with | some i=>(match i.zero with | some z=>some (ofV z) | none=>none) | none=>none
theorem zeroA_ok {P : Program} {m : Mp} {t : TypeId} {v : AV} (h : zeroA P t = some v) : ∃ i z,P.info? t = some i ∧ i.zero = some z ∧ VR m v z ∧ ∀ w,(zeroValue t).run P w = .ok z w:=by
  unfold zeroA at h
  split at h
  · next i hi =>
    split at h
    · next z hz =>
      injection h with h; subst h
      exact ⟨i,z,hi,hz,ofV_ok m z,fun w=>by simp only [zeroValue,typeInfo,Sem.run_bind,run_program,Result.andThen_ok,hi,Sem.run_pure,hz]⟩
    · cases h
  · cases h
def optN : Option AV → Option (Option Nat) | none=>some none | some v=>match natA v with | some n=>some (some n) | none=>none
def sliceA (x : AV) (lo hi mx : Option AV) (z : Nat) : Option AV :=
  bif Nat.beq z 0 then none else
  match optN lo,optN hi,optN mx with
  | some lo,some hi,some mx =>
    let l:=lo.getD 0
    match x with
    | .str s=>let h:=hi.getD s.length
      match mx with
      | none=>bif Nat.ble l h && Nat.ble h s.length then some (.str ((s.take h).drop l)) else none
      | some _=>none
    | .txt s=>let h:=hi.getD s.length
      match mx with
      | none=>bif Nat.ble l h && Nat.ble h s.length then some (txN ((s.take h).drop l)) else none
      | some _=>none
    | .slc a o n z'=>let h:=hi.getD n
      match mx with
      | none=>bif Nat.ble l h && Nat.ble h n && Nat.beq z z' then some (.slc a (Nat.add o (Nat.mul l z)) (Nat.sub h l) z) else none
      | some m=>bif hi.isSome && Nat.beq m 0 && Nat.beq h 0 && Nat.beq l 0 then some (.slcE a o z) else none
    | .slcE a o z'=>let h:=hi.getD 0
      match mx with
      | none=>bif Nat.beq h 0 && Nat.beq l 0 && Nat.beq z z' then some (.slcE a o z) else none
      | some m=>bif hi.isSome && Nat.beq m 0 && Nat.beq h 0 && Nat.beq l 0 then some (.slcE a o z) else none
    | .nils=>let h:=hi.getD 0
      match mx with
      | none=>bif Nat.beq h 0 && Nat.beq l 0 then some .nils else none
      | some m=>bif hi.isSome && Nat.beq m 0 && Nat.beq h 0 && Nat.beq l 0 then some .nils else none
    | _=>none
  | _,_,_=>none
def lksA (lk : Operand → AV) (ps : Array (Nat × Operand)) : List (Nat × AV):=ps.toList.map fun x=>(x.1,lk x.2)
def pureF (P : Program) (op : Op) (lk : Operand → AV) : Option AV :=
  match op with
  | .move x=>some (lk x)
  | .assign x=>some (lk x)
  | .pick c a b=>match lk c with | .bool t=>some (bif t then lk a else lk b) | _=>none
  | .build t ps=>match zeroA P t with
    | some z=>match cellsA z with
      | some cs=>match P.underlying t with
        | some (.struct fs)=>match fs.toList.mapM fun f=>(P.info? f.type).map fun i=>(f.offset,i.size) with
          | some places=>match fillA (places[·]?) cs (lksA lk ps) with | some r=>some (.agg r) | none=>none
          | none=>none
        | some (.array _ e)=>match P.info? e with
          | some i=>match fillA (fun j=>some (j * i.size,i.size)) cs (lksA lk ps) with | some r=>some (.agg r) | none=>none
          | none=>none
        | _=>none
      | none=>none
    | none=>none
  | .nilCheck x=>match lk x with | .ptr a o=>some (.ptr a o) | .fn f a b=>some (.fn f a b) | .ifc t v=>some (.ifc t v) | _=>none
  | .binOp op t x y _=>binA P op t (isC x || isC y) (lk x) (lk y)
  | .unOp op _ x=>match op,lk x with
    | .neg,.int k n=>some (.int k (wrapK k (isub 0 n)))
    | .not,.bool b=>some (.bool (!b))
    | .xor,.int k n=>some (.int k (bitK .xor k (if k.signed then -1 else k.max) n))
    | _,_=>none
  | .convert s d x=>match P.underlying s,P.underlying d,lk x with
    | some _,some (.int k),.int _ n=>some (.int k (wrapK k n))
    | some _,some .string,.str b=>some (.str b)
    | some _,some (.int k),.ltr q a=>cvL k q a
    | some _,some .string,.txt b=>some (.txt b)
    | _,_,_=>none
  | .makeInterface t x=>match P.underlying t with | some (.interface _)=>none | some _=>some (.ifc t (lk x)) | none=>none
  | .makeFunc (.func f) a b=>some (.fn f (a.toList.map lk) (b.toList.map lk))
  | .slice t x lo hi mx=>match P.underlying t with
    | some .string=>match lk x with | .str s=>sliceA (.str s) (lo.map lk) (hi.map lk) (mx.map lk) 1 | .txt s=>sliceA (.txt s) (lo.map lk) (hi.map lk) (mx.map lk) 1 | _=>none
    | some (.slice e)=>match P.info? e with | some i=>(match lk x with | .str _=>none | .txt _=>none | y=>sliceA y (lo.map lk) (hi.map lk) (mx.map lk) i.size) | none=>none
    | _=>none
  | .fieldAddr s x f=>match P.underlying s,lk x with
    | some (.struct fs),.ptr a o=>match fs[f]? with
      | some fd=>match P.info? fd.type with | some i=>bif Nat.beq i.size 0 then none else some (.ptr a (Nat.add o fd.offset)) | none=>none
      | none=>none
    | _,_=>none
  | .field s x f=>match P.underlying s,lk x with
    | some (.struct fs),.agg cs=>match fs[f]? with | some fd=>partA P fd.type cs fd.offset | none=>none
    | _,_=>none
  | .indexAddr t x i=>match P.underlying t,lk x,natA (lk i) with
    | some (.slice e),.slc a o n _,some j=>match P.info? e with | some f=>bif Nat.blt j n then some (.ptr a (Nat.add o (Nat.mul j f.size))) else none | none=>none
    | some (.array n e),.ptr a o,some j=>match P.info? e with | some f=>bif Nat.blt j n then some (.ptr a (Nat.add o (Nat.mul j f.size))) else none | none=>none
    | _,_,_=>none
  | .index t x i=>match P.underlying t,lk x,natA (lk i) with
    | some (.array n e),.agg cs,some j=>match P.info? e with | some f=>bif Nat.blt j n then partA P e cs (Nat.mul j f.size) else none | none=>none
    | some .string,.str s,some j=>match s[j]? with | some b=>some (.int .u8 (.ofNat b)) | none=>none
    | some .string,.txt s,some j=>s[j]?
    | _,_,_=>none
  | .extract x i=>match lk x with | .tup vs=>vs[i]? | _=>none
  | .typeAssert x _ a ok=>match P.underlying a with
    | some (.struct _)=>match zeroA P a,lk x with
      | some z,.nili=>bif ok then some (.tup [z,.bool false]) else none
      | some z,.ifc t v=>bif Nat.beq t a then some (bif ok then .tup [v,.bool true] else v) else bif ok then some (.tup [z,.bool false]) else none
      | _,_=>none
    | _=>none
  | .call { callee:=.builtin b,args:=args,argTypes:=ts }=>match b with
    | .len=>match ts[0]?,args[0]? with
      | some t,some x=>match P.underlying t,lk x with
        | some .string,.str s=>some (.goInt s.length)
        | some .string,.txt s=>some (.goInt s.length)
        | some (.slice _),.slc _ _ n _=>some (.goInt n)
        | some (.slice _),.slcE _ _ _=>some (.goInt 0)
        | some (.slice _),.nils=>some (.goInt 0)
        | some (.array n _),_=>some (.goInt n)
        | _,_=>none
      | _,_=>none
    | .cap=>match ts[0]?,args[0]? with
      | some t,some x=>match P.underlying t,lk x with
        | some (.slice _),.slcE _ _ _=>some (.goInt 0)
        | some (.slice _),.nils=>some (.goInt 0)
        | _,_=>none
      | _,_=>none
    | .max=>match args.toList.map lk with | [.int k a,.int _ b]=>some (.int k (bif ilt a b then b else a)) | [.ge n,.int k b]=>maxGe n k b | _=>none
    | .min=>match args.toList.map lk with | [.int k a,.int _ b]=>some (.int k (bif ilt b a then b else a)) | _=>none
    | _=>none
  | _=>none
section
variable {P : Program} {m : Mp} {w : World}
theorem exec_value {s : Sem Value} {u : Value} {w' : World} (h : s.run P w = .ok u w') : (do pure (Next.value (← s)) : Sem Next).run P w = .ok (.value u) w':=by
  simp only [Sem.run_bind,h,Result.andThen_ok,Sem.run_pure]
theorem lksA_ok {lk : Operand → AV} {ρ : Operand → Value} (hl : ∀ x,VR m (lk x) (ρ x)) (ps : Array (Nat × Operand)) : PaR m (lksA lk ps) ((ps.map fun (i,x)=>(i,ρ x)).toList):=by
  unfold lksA
  rw [Array.toList_map]
  induction ps.toList with
  | nil=>exact .nil
  | cons x l ih=>exact .cons (hl _) ih
theorem places_ok : ∀ (l : List Field) (r : List (Nat × Nat)),(l.mapM fun f=>(P.info? f.type).map fun i=>(f.offset,i.size)) = some r → (l.mapM fun f=>do pure (f.offset,← sizeOf f.type) : Sem (List (Nat × Nat))).run P w = .ok r w
  | [],r,h=>by simp at h; subst h; rfl
  | f :: l,r,h=>by
    rw [List.mapM_cons] at h
    cases hi : P.info? f.type with
    | none=>rw [hi] at h; simp at h
    | some i =>
      rw [hi] at h
      cases hr : (l.mapM fun f=>(P.info? f.type).map fun i=>(f.offset,i.size)) with
      | none=>rw [hr] at h; simp at h
      | some r' =>
        rw [hr] at h
        simp at h
        subst h
        have ih:=places_ok l r' hr
        simp only [List.mapM_cons,Sem.run_bind,run_sizeOf' hi,Result.andThen_ok,Sem.run_pure,ih]
theorem optN_ok {x : Option AV} {y : Option Value} (h : x.isSome = y.isSome) (hv : ∀ a b,x = some a → y = some b → VR m a b) {r : Option Nat} (hr : optN x = some r) : (r = none ∧ y = none) ∨ ∃ n k,r = some n ∧ y = some (.int k (n : Int)):=by
  cases x with
  | none =>
    cases y with
    | some b=>simp at h
    | none=>simp only [optN] at hr; injection hr with hr; exact .inl ⟨hr.symm,rfl⟩
  | some a =>
    cases y with
    | none=>simp at h
    | some b =>
      simp only [optN] at hr
      split at hr
      · next n hn =>
        injection hr with hr
        obtain ⟨k,_,e⟩:=natA_ok (hv a b rfl rfl) hn
        exact .inr ⟨n,k,hr.symm,by rw [e]⟩
      · cases hr
theorem sliceBound_ok (k : IntKind) {n y : Nat} (h : n ≤ y) (c : BoundsCode) : (Instr.sliceBound (.int k (n : Int)) y c).run P w = .ok n w:=by
  have : (0 : Int) ≤ (n : Int) ∧ (n : Int) ≤ (y : Int):=by omega
  simp only [Instr.sliceBound,asIntOf,Sem.run_bind,Sem.run_pure,Result.andThen_ok,this,and_self,if_true,Int.toNat_natCast]
theorem bounds_ok (isS : Bool) {len cap : Nat} {lo hi : Option Nat} {ylo yhi : Option Value} (hlo : (lo = none ∧ ylo = none) ∨ ∃ n k,lo = some n ∧ ylo = some (.int k (n : Int))) (hhi : (hi = none ∧ yhi = none) ∨ ∃ n k,hi = some n ∧ yhi = some (.int k (n : Int)))
    (h1 : lo.getD 0 ≤ hi.getD len) (h2 : hi.getD len ≤ cap) : (Instr.sliceBounds isS len cap ylo yhi none).run P w = .ok (lo.getD 0,hi.getD len,cap) w:=by
  unfold Instr.sliceBounds
  rcases hhi with ⟨rfl,rfl⟩ | ⟨nh,kh,rfl,rfl⟩ <;> rcases hlo with ⟨rfl,rfl⟩ | ⟨nl,kl,rfl,rfl⟩ <;> simp only [Option.getD_some,Option.getD_none] at h1 h2 ⊢
  · simp only [Sem.run_bind,Sem.run_pure,Result.andThen_ok]
  · simp only [Sem.run_bind,Sem.run_pure,Result.andThen_ok,sliceBound_ok kl h1]
  · simp only [Sem.run_bind,Sem.run_pure,Result.andThen_ok,sliceBound_ok kh h2]
  · simp only [Sem.run_bind,Sem.run_pure,Result.andThen_ok,sliceBound_ok kh h2,sliceBound_ok kl h1]
theorem bounds0_ok (isS : Bool) {len cap : Nat} {lo hi : Option Nat} {ylo yhi : Option Value} {km : IntKind} (hlo : (lo = none ∧ ylo = none) ∨ ∃ n k,lo = some n ∧ ylo = some (.int k (n : Int))) (hhi : (hi = none ∧ yhi = none) ∨ ∃ n k,hi = some n ∧ yhi = some (.int k (n : Int)))
    (h1 : lo.getD 0 = 0) (h2 : hi.getD len = 0) (h3 : hi ≠ none) : (Instr.sliceBounds isS len cap ylo yhi (some (.int km ((0 : Nat) : Int)))).run P w = .ok (0,0,0) w:=by
  unfold Instr.sliceBounds
  rcases hhi with ⟨rfl,rfl⟩ | ⟨nh,kh,rfl,rfl⟩
  · exact absurd rfl h3
  · simp only [Option.getD_some] at h2
    subst h2
    rcases hlo with ⟨rfl,rfl⟩ | ⟨nl,kl,rfl,rfl⟩
    · simp only [Sem.run_bind,Sem.run_pure,Result.andThen_ok,sliceBound_ok km (Nat.zero_le cap),sliceBound_ok kh (Nat.le_refl 0)]
    · simp only [Option.getD_some] at h1
      subst h1
      simp only [Sem.run_bind,Sem.run_pure,Result.andThen_ok,sliceBound_ok km (Nat.zero_le cap),sliceBound_ok kh (Nat.le_refl 0),sliceBound_ok kl (Nat.le_refl 0)]
end
end Am
end Go.Proofs.YtadbcnekkceoaaaGreatDoor
namespace Go.Proofs.YtadbcnekkceoaaaGreatDoor
namespace Am
section
variable {P : Program} {m : Mp} {w : World}
theorem addr_add (i o k : Nat) : (⟨i,o,none⟩ : Addr).add k = ⟨i,o + k,none⟩:=by
  unfold Addr.add
  split
  · next h=>subst h; rfl
  · rfl
theorem str_sub (s : ByteArray) (l h : Nat) (hh : h ≤ s.size) : ((s.extract l h).data.toList.map UInt8.toNat) = (((s.data.toList.map UInt8.toNat).take h).drop l):=by
  have : (s.extract l h).data = s.data.extract l h:=ByteArray.data_extract ..
  rw [this,Array.toList_extract,List.extract_eq_take_drop,List.map_take,List.map_drop,List.drop_take]
theorem sliceA_str {b : ByteArray} {lo hi mx : Option AV} {ylo yhi ymx : Option Value} {z : Nat} {v : AV} {t : TypeId} (h : sliceA (.str (b.data.toList.map UInt8.toNat)) lo hi mx z = some v) (ht : P.underlying t = some .string)
    (hlo : lo.isSome = ylo.isSome ∧ ∀ x y,lo = some x → ylo = some y → VR m x y) (hhi : hi.isSome = yhi.isSome ∧ ∀ x y,hi = some x → yhi = some y → VR m x y) (hmx : mx.isSome = ymx.isSome) : ∃ u,(Instr.sliceAt t (.string b) ylo yhi ymx).run P w = .ok u w ∧ VR m v u:=by
  unfold sliceA at h
  cases hz : Nat.beq z 0 with
  | true=>rw [hz] at h; cases h
  | false =>
    rw [hz,cond_false] at h
    split at h
    · next lo' hi' mx' h1 h2 h3 =>
      simp only at h
      split at h
      · have hm : mx = none:=by
          cases mx with
          | none=>rfl
          | some a=>simp only [optN] at h3; split at h3 <;> cases h3
        subst hm
        have hy : ymx = none:=by cases ymx with | none=>rfl | some a=>simp at hmx
        subst hy
        cases hb : Nat.ble (lo'.getD 0) (hi'.getD (b.data.toList.map UInt8.toNat).length) && Nat.ble (hi'.getD (b.data.toList.map UInt8.toNat).length) (b.data.toList.map UInt8.toNat).length with
        | false=>rw [hb] at h; cases h
        | true =>
          rw [hb,cond_true] at h
          rw [Bool.and_eq_true] at hb
          injection h with h
          have hlen : (b.data.toList.map UInt8.toNat).length = b.size:=by rw [List.length_map]; rfl
          rw [hlen] at hb h
          have b1:=ble_le hb.1
          have b2:=ble_le hb.2
          have hB:=bounds_ok (P:=P) (w:=w) false (len:=b.size) (cap:=b.size) (optN_ok hlo.1 hlo.2 h1) (optN_ok hhi.1 hhi.2 h2) b1 b2
          refine ⟨.string (b.extract (lo'.getD 0) (hi'.getD b.size)),?_,?_⟩
          · unfold Instr.sliceAt
            simp only [Sem.run_bind,run_underlying ht,Result.andThen_ok,Instr.slice,Option.isSome_none,Bool.false_eq_true,if_false,hB,Sem.run_pure]
          · subst h
            rw [← str_sub b _ _ b2]
            exact .str _
      · cases h
    · cases h
theorem sliceA_txt {b : ByteArray} {tl : List AV} (hb : VRs m tl (byV b)) {lo hi mx : Option AV} {ylo yhi ymx : Option Value} {z : Nat} {v : AV} {t : TypeId} (h : sliceA (.txt tl) lo hi mx z = some v) (ht : P.underlying t = some .string)
    (hlo : lo.isSome = ylo.isSome ∧ ∀ x y,lo = some x → ylo = some y → VR m x y) (hhi : hi.isSome = yhi.isSome ∧ ∀ x y,hi = some x → yhi = some y → VR m x y) (hmx : mx.isSome = ymx.isSome) : ∃ u,(Instr.sliceAt t (.string b) ylo yhi ymx).run P w = .ok u w ∧ VR m v u:=by
  have hlen : tl.length = b.size:=by rw [hb.len]; unfold byV; rw [List.length_map]; rfl
  unfold sliceA at h
  cases hz : Nat.beq z 0 with
  | true=>rw [hz] at h; cases h
  | false =>
    rw [hz,cond_false] at h
    split at h
    · next lo' hi' mx' h1 h2 h3 =>
      simp only at h
      split at h
      · have hm : mx = none:=by
          cases mx with
          | none=>rfl
          | some a=>simp only [optN] at h3; split at h3 <;> cases h3
        subst hm
        have hy : ymx = none:=by cases ymx with | none=>rfl | some a=>simp at hmx
        subst hy
        cases hc : Nat.ble (lo'.getD 0) (hi'.getD tl.length) && Nat.ble (hi'.getD tl.length) tl.length with
        | false=>rw [hc] at h; cases h
        | true =>
          rw [hc,cond_true] at h
          rw [Bool.and_eq_true] at hc
          injection h with h
          rw [hlen] at hc h
          have b1:=ble_le hc.1
          have b2:=ble_le hc.2
          have hB:=bounds_ok (P:=P) (w:=w) false (len:=b.size) (cap:=b.size) (optN_ok hlo.1 hlo.2 h1) (optN_ok hhi.1 hhi.2 h2) b1 b2
          refine ⟨.string (b.extract (lo'.getD 0) (hi'.getD b.size)),?_,?_⟩
          · unfold Instr.sliceAt
            simp only [Sem.run_bind,run_underlying ht,Result.andThen_ok,Instr.slice,Option.isSome_none,Bool.false_eq_true,if_false,hB,Sem.run_pure]
          · subst h
            refine txN_ok ?_
            have : byV (b.extract (lo'.getD 0) (hi'.getD b.size)) = ((byV b).take (hi'.getD b.size)).drop (lo'.getD 0):=by
              unfold byV
              rw [show (b.extract (lo'.getD 0) (hi'.getD b.size)).data = b.data.extract (lo'.getD 0) (hi'.getD b.size) from ByteArray.data_extract ..,Array.toList_extract,List.extract_eq_take_drop,List.map_take,List.map_drop,List.drop_take]
            rw [this]
            exact (hb.take _).drop _
      · cases h
    · cases h
theorem sliceA_core {x : AV} {u : Value} (hx : VR m x u) (hns : ∀ s,x ≠ .str s) (hnt : ∀ s,x ≠ .txt s) {lo hi mx : Option AV} {ylo yhi ymx : Option Value} {v : AV} {f : TypeInfo} (h : sliceA x lo hi mx f.size = some v) (R : Sem Value) (isS : Bool)
    (step : ∀ (A : Option Addr) (n c l hh mm : Nat),u = .slice A n c → (Instr.sliceBounds isS n c ylo yhi ymx).run P w = .ok (l,hh,mm) w → R.run P w = .ok (.slice (if mm = l then A else A.map (·.add (l * f.size))) (hh - l) (mm - l)) w)
    (hlo : lo.isSome = ylo.isSome ∧ ∀ x y,lo = some x → ylo = some y → VR m x y) (hhi : hi.isSome = yhi.isSome ∧ ∀ x y,hi = some x → yhi = some y → VR m x y) (hmx : mx.isSome = ymx.isSome ∧ ∀ x y,mx = some x → ymx = some y → VR m x y) : ∃ r,R.run P w = .ok r w ∧ VR m v r:=by
  unfold sliceA at h
  cases hz : Nat.beq f.size 0 with
  | true=>rw [hz] at h; cases h
  | false =>
    rw [hz,cond_false] at h
    have hz0 : 0 < f.size:=by
      rcases Nat.eq_zero_or_pos f.size with e | e
      · rw [e] at hz; cases hz
      · exact e
    split at h
    · next lo' hi' mx' h1 h2 h3 =>
      have o1:=optN_ok hlo.1 hlo.2 h1
      have o2:=optN_ok hhi.1 hhi.2 h2
      have o3:=optN_ok hmx.1 hmx.2 h3
      have three : ∀ (A : Option Addr) (n c mm : Nat),u = .slice A n c → mx' = some mm → (hi'.isSome && Nat.beq mm 0 && Nat.beq (hi'.getD n) 0 && Nat.beq (lo'.getD 0) 0) = true → R.run P w = .ok (.slice A 0 0) w:=by
        intro A n c mm hu hmm hb
        simp only [Bool.and_eq_true] at hb
        obtain ⟨⟨⟨b1,b2⟩,b3⟩,b4⟩:=hb
        have e2:=Nat.eq_of_beq_eq_true b2
        have e3:=Nat.eq_of_beq_eq_true b3
        have e4:=Nat.eq_of_beq_eq_true b4
        subst e2
        rcases o3 with ⟨e,_⟩ | ⟨n3,k3,e,e'⟩
        · rw [e] at hmm; cases hmm
        · rw [e] at hmm; injection hmm with hmm; subst hmm; subst e'
          have:=step A n c 0 0 0 hu (bounds0_ok isS o1 o2 e4 e3 (fun e=>by rw [e] at b1; cases b1))
          simpa using this
      have two : ∀ (A : Option Addr) (n c : Nat),u = .slice A n c → mx' = none → lo'.getD 0 ≤ hi'.getD n → hi'.getD n ≤ c → R.run P w = .ok (.slice (if c = lo'.getD 0 then A else A.map (·.add (lo'.getD 0 * f.size))) (hi'.getD n - lo'.getD 0) (c - lo'.getD 0)) w:=by
        intro A n c hu hmm b1 b2
        rcases o3 with ⟨_,e'⟩ | ⟨n3,k3,e,_⟩
        · subst e'
          exact step A n c _ _ c hu (bounds_ok isS o1 o2 b1 b2)
        · rw [e] at hmm; cases hmm
      cases hx <;> simp only at h <;> (try (cases h; done))
      case str b=>exact absurd rfl (hns _)
      case txt b=>exact absurd rfl (hnt _)
      case slc a i sz o n z c hm hnc hcs hcm =>
        rcases mx' with _ | mm
        · have hmm : (none : Option Nat) = none:=rfl
          simp only at h
          cases hb : Nat.ble (lo'.getD 0) (hi'.getD n) && Nat.ble (hi'.getD n) n && Nat.beq f.size z with
          | false=>rw [hb] at h; cases h
          | true =>
            rw [hb,cond_true] at h
            simp only [Bool.and_eq_true] at hb
            injection h with h
            have b1:=ble_le hb.1.1
            have b2:=ble_le hb.1.2
            have ez:=Nat.eq_of_beq_eq_true hb.2
            refine ⟨_,two _ n c rfl hmm b1 (Nat.le_trans b2 hnc),?_⟩
            subst h
            generalize hl : lo'.getD 0 = l at b1 ⊢
            generalize hi'.getD n = h' at b1 b2 ⊢
            show VR m (.slc a (o + l * f.size) (h' - l) f.size) _
            by_cases hcl : c = l
            · rw [if_pos hcl]
              have e1 : h' - l = 0:=by omega
              rw [e1]
              rcases Nat.eq_zero_or_pos l with e | e
              · subst e
                rw [Nat.zero_mul,Nat.add_zero]
                exact .slc hm (Nat.zero_le _) (by rw [hcl]; simp; have : 0 ≤ c * z:=Nat.zero_le _; omega) (by omega)
              · exact .slc0 _ _ hm (by have:=Nat.mul_le_mul e hz0; omega)
            · rw [if_neg hcl,Option.map_some,addr_add]
              refine .slc hm (by omega) ?_ (by omega)
              have : l * f.size + (c - l) * f.size = c * f.size:=by rw [← Nat.add_mul]; congr 1; omega
              rw [ez] at this ⊢
              omega
        · have hmm : some mm = some mm:=rfl
          simp only at h
          cases hb : hi'.isSome && Nat.beq mm 0 && Nat.beq (hi'.getD n) 0 && Nat.beq (lo'.getD 0) 0 with
          | false=>rw [hb] at h; cases h
          | true =>
            rw [hb,cond_true] at h
            injection h with h; subst h
            exact ⟨_,three _ n c mm rfl hmm hb,.slcE _ _ _ hm⟩
      case slc0 a i sz o z o' c hm ho =>
        rcases mx' with _ | mm
        · have hmm : (none : Option Nat) = none:=rfl
          simp only at h
          cases hb : Nat.ble (lo'.getD 0) (hi'.getD 0) && Nat.ble (hi'.getD 0) 0 && Nat.beq f.size z with
          | false=>rw [hb] at h; cases h
          | true =>
            rw [hb,cond_true] at h
            simp only [Bool.and_eq_true] at hb
            injection h with h
            have b1:=ble_le hb.1.1
            have b2:=ble_le hb.1.2
            refine ⟨_,two _ 0 c rfl hmm b1 (by omega),?_⟩
            subst h
            have e1 : lo'.getD 0 = 0:=by omega
            have e2 : hi'.getD 0 = 0:=by omega
            rw [e1,e2]
            show VR m (.slc a (o + 0 * f.size) 0 f.size) _
            rw [Nat.zero_mul,Nat.add_zero,Nat.sub_zero]
            by_cases hc : c = 0
            · rw [if_pos hc]; exact .slc0 _ _ hm ho
            · rw [if_neg hc,Option.map_some,addr_add]; exact .slc0 _ _ hm ho
        · have hmm : some mm = some mm:=rfl
          simp only at h
          cases hb : hi'.isSome && Nat.beq mm 0 && Nat.beq (hi'.getD 0) 0 && Nat.beq (lo'.getD 0) 0 with
          | false=>rw [hb] at h; cases h
          | true =>
            rw [hb,cond_true] at h
            injection h with h; subst h
            exact ⟨_,three _ 0 c mm rfl hmm hb,.slcE _ _ _ hm⟩
      case slcE a i sz o z o' hm =>
        rcases mx' with _ | mm
        · have hmm : (none : Option Nat) = none:=rfl
          simp only at h
          cases hb : Nat.beq (hi'.getD 0) 0 && Nat.beq (lo'.getD 0) 0 && Nat.beq f.size z with
          | false=>rw [hb] at h; cases h
          | true =>
            rw [hb,cond_true] at h
            simp only [Bool.and_eq_true] at hb
            injection h with h; subst h
            have e1:=Nat.eq_of_beq_eq_true hb.1.1
            have e2:=Nat.eq_of_beq_eq_true hb.1.2
            have:=two _ 0 0 rfl hmm (by omega) (by omega)
            rw [e1,e2,if_pos rfl] at this
            exact ⟨_,this,.slcE _ _ _ hm⟩
        · have hmm : some mm = some mm:=rfl
          simp only at h
          cases hb : hi'.isSome && Nat.beq mm 0 && Nat.beq (hi'.getD 0) 0 && Nat.beq (lo'.getD 0) 0 with
          | false=>rw [hb] at h; cases h
          | true =>
            rw [hb,cond_true] at h
            injection h with h; subst h
            exact ⟨_,three _ 0 0 mm rfl hmm hb,.slcE _ _ _ hm⟩
      case nils =>
        rcases mx' with _ | mm
        · have hmm : (none : Option Nat) = none:=rfl
          simp only at h
          cases hb : Nat.beq (hi'.getD 0) 0 && Nat.beq (lo'.getD 0) 0 with
          | false=>rw [hb] at h; cases h
          | true =>
            rw [hb,cond_true] at h
            simp only [Bool.and_eq_true] at hb
            injection h with h; subst h
            have e1:=Nat.eq_of_beq_eq_true hb.1
            have e2:=Nat.eq_of_beq_eq_true hb.2
            have:=two _ 0 0 rfl hmm (by omega) (by omega)
            rw [e1,e2,if_pos rfl] at this
            exact ⟨_,this,.nils⟩
        · have hmm : some mm = some mm:=rfl
          simp only at h
          cases hb : hi'.isSome && Nat.beq mm 0 && Nat.beq (hi'.getD 0) 0 && Nat.beq (lo'.getD 0) 0 with
          | false=>rw [hb] at h; cases h
          | true =>
            rw [hb,cond_true] at h
            injection h with h; subst h
            exact ⟨_,three _ 0 0 mm rfl hmm hb,.nils⟩
    · cases h
theorem sliceA_slc {x : AV} {u : Value} (hx : VR m x u) (hns : ∀ s,x ≠ .str s) (hnt : ∀ s,x ≠ .txt s) {lo hi mx : Option AV} {ylo yhi ymx : Option Value} {v : AV} {t e : TypeId} {f : TypeInfo} (h : sliceA x lo hi mx f.size = some v) (ht : P.underlying t = some (.slice e)) (he : P.info? e = some f)
    (hlo : lo.isSome = ylo.isSome ∧ ∀ x y,lo = some x → ylo = some y → VR m x y) (hhi : hi.isSome = yhi.isSome ∧ ∀ x y,hi = some x → yhi = some y → VR m x y) (hmx : mx.isSome = ymx.isSome ∧ ∀ x y,mx = some x → ymx = some y → VR m x y) : ∃ r,(Instr.sliceAt t u ylo yhi ymx).run P w = .ok r w ∧ VR m v r :=
  sliceA_core hx hns hnt h _ true (fun A n c l hh mm hu hb=>by
    subst hu
    unfold Instr.sliceAt
    simp only [Sem.run_bind,run_underlying ht,Result.andThen_ok,Instr.slice,hb,run_sizeOf' he,Sem.run_pure]) hlo hhi hmx
theorem sliceA_arr {a : Pos} {i sz o n : Nat} (hm : m a = some (i,sz)) {lo hi : Option AV} {ylo yhi : Option Value} {v : AV} {t e : TypeId} {f : TypeInfo} (h : sliceA (.slc a o n f.size) lo hi none f.size = some v) (ht : P.underlying t = some (.array n e)) (he : P.info? e = some f) (hsz : o + n * f.size ≤ sz) (hn : n ≤ 9223372036854775807)
    (hlo : lo.isSome = ylo.isSome ∧ ∀ x y,lo = some x → ylo = some y → VR m x y) (hhi : hi.isSome = yhi.isSome ∧ ∀ x y,hi = some x → yhi = some y → VR m x y) : ∃ r,(Instr.sliceAt t (.pointer (some ⟨i,o,none⟩)) ylo yhi none).run P w = .ok r w ∧ VR m v r :=
  sliceA_core (mx:=none) (ymx:=none) (.slc hm (Nat.le_refl n) hsz hn) (fun s e=>by cases e) (fun s e=>by cases e) h _ false (fun A n' c l hh mm hu hb=>by
    injection hu with e1 e2 e3
    subst e1 e2 e3
    unfold Instr.sliceAt
    simp only [Sem.run_bind,run_underlying ht,Result.andThen_ok,Instr.sureAddr,hb,run_sizeOf' he,Sem.run_pure]
    by_cases e : mm = l
    · rw [if_pos e,if_pos e]
    · rw [if_neg e,if_neg e]; rfl) hlo hhi ⟨rfl,fun x y h=>by cases h⟩
theorem opt_rel {lk : Operand → AV} {ρ : Operand → Value} (hl : ∀ x,VR m (lk x) (ρ x)) (o : Option Operand) : (o.map lk).isSome = (o.map ρ).isSome ∧ ∀ x y,o.map lk = some x → o.map ρ = some y → VR m x y:=by
  cases o with
  | none=>exact ⟨rfl,fun x y h=>by cases h⟩
  | some a=>exact ⟨rfl,fun x y h h'=>by injection h with h; injection h' with h'; subst h h'; exact hl a⟩
theorem VRs.of_lk {lk : Operand → AV} {ρ : Operand → Value} (hl : ∀ x,VR m (lk x) (ρ x)) : ∀ l : List Operand,VRs m (l.map lk) (l.map ρ)
  | []=>.nil
  | x :: l=>.cons (hl x) (VRs.of_lk hl l)
theorem asBool_ok (b : Bool) : (asBool (.bool b)).run P w = .ok b w:=rfl
set_option maxHeartbeats 4000000 in
theorem pure_ok {o : Oper} {lk : Operand → AV} {ρ : Operand → Value} {v : AV} (h : pureF P o.op lk = some v) (hl : ∀ x,VR m (lk x) (ρ x)) : ∃ u,(execOp ρ o).run P w = .ok (.value u) w ∧ VR m v u:=by
  unfold execOp
  generalize o.op = op at h ⊢
  cases op <;> simp only [pureF] at h <;> (try (cases h; done)) <;> dsimp only
  case move x=>injection h with h; subst h; exact ⟨_,rfl,hl x⟩
  case assign x=>injection h with h; subst h; exact ⟨_,rfl,hl x⟩
  case pick c a b =>
    split at h
    · next t ht =>
      injection h with h; subst h
      have hc:=hl c
      rw [ht] at hc
      cases hcv : ρ c <;> rw [hcv] at hc <;> cases hc
      refine ⟨if t then ρ a else ρ b,?_,?_⟩
      · simp only [Sem.run_bind,asBool_ok,Result.andThen_ok,Sem.run_pure]
      · cases t
        · exact hl b
        · exact hl a
    · cases h
  case build t ps =>
    split at h
    · next z hz =>
      obtain ⟨i,zv,hi,hzz,hzr,hrun⟩:=zeroA_ok (m:=m) hz
      split at h
      · next cs hcs =>
        have hcv:=cellsA_ok hzr hcs
        split at h
        · next fs hu =>
          split at h
          · next places hp =>
            split at h
            · next r hr =>
              injection h with h; subst h
              obtain ⟨rs,h1,h2⟩:=fillA_ok (lksA_ok hl ps) hcv hr
              refine ⟨.agg rs,exec_value ?_,.agg h2⟩
              unfold Instr.build
              simp only [Sem.run_bind,hrun,Result.andThen_ok,run_underlying hu]
              have hpl : (fs.mapM fun f=>do pure (f.offset,← sizeOf f.type) : Sem (Array (Nat × Nat))).run P w = .ok places.toArray w:=by
                rw [Array.mapM_eq_mapM_toList,Sem.run_map,places_ok _ _ hp]
                rfl
              have h1' : Instr.fill (fun x=>places.toArray[x]?) zv.cells (ps.map fun (i,x)=>(i,ρ x)).toList = some rs:=by simpa using h1
              simp only [hpl,Result.andThen_ok]
              rw [h1']
              rfl
            · cases h
          · cases h
        · next e n hu =>
          split at h
          · next f hf =>
            split at h
            · next r hr =>
              injection h with h; subst h
              obtain ⟨rs,h1,h2⟩:=fillA_ok (lksA_ok hl ps) hcv hr
              refine ⟨.agg rs,exec_value ?_,.agg h2⟩
              unfold Instr.build
              simp only [Sem.run_bind,hrun,Result.andThen_ok,run_underlying hu,run_sizeOf' hf,h1,Sem.run_pure]
            · cases h
          · cases h
        · cases h
      · cases h
    · cases h
  case nilCheck x =>
    have hx:=hl x
    generalize ρ x = u at hx ⊢
    split at h <;> try (cases h; done)
    all_goals
      rename_i he
      injection h with h; subst h
      rw [he] at hx
      have hx':=hx
      cases hx
      exact ⟨_,rfl,hx'⟩
  case binOp op t x y yt =>
    obtain ⟨h1,r,h2,h3⟩:=binA_ok h (hl x) (hl y) (ox:=x) (oy:=y) (w:=w) (fun e=>e)
    exact ⟨r,exec_value (by simp only [Sem.run_bind,h1,Result.andThen_ok,h2]),h3⟩
  case unOp op t x =>
    have hx:=hl x
    generalize ρ x = u at hx ⊢
    split at h <;> try (cases h; done)
    all_goals
      rename_i he
      injection h with h; subst h
      rw [he] at hx
      cases hx
    · refine ⟨_,exec_value ?_,.int _ _⟩
      simp only [Op.unary,Op.intArith,Sem.run_pure,wrapK_ok,isub_ok]
    · exact ⟨_,exec_value rfl,.bool _⟩
    · refine ⟨_,exec_value ?_,.int _ _⟩
      simp only [Op.unary,Op.intBits,Sem.run_pure,bitK_ok,bitM]
  case convert s d x =>
    have hx:=hl x
    generalize ρ x = u at hx ⊢
    split at h <;> try (cases h; done)
    · next sd _ _ _ h1 h2 he =>
      injection h with h; subst h
      rw [he] at hx
      cases hx
      refine ⟨_,exec_value ?_,.int _ _⟩
      unfold convert
      simp only [Sem.run_bind,run_underlying h1,run_underlying h2,Result.andThen_ok,wrapK_ok]
      cases sd <;> rfl
    · next sd _ h1 h2 he =>
      injection h with h; subst h
      rw [he] at hx
      cases hx
      refine ⟨_,exec_value ?_,.str _⟩
      unfold convert
      simp only [Sem.run_bind,run_underlying h1,run_underlying h2,Result.andThen_ok]
      cases sd <;> rfl
    · next sd _ _ _ h1 h2 he =>
      rw [he] at hx
      cases hx with | ltr g1 g2 g3 g4 =>
      refine ⟨_,exec_value ?_,cvL_ok h g2 g3 g4⟩
      unfold convert
      simp only [Sem.run_bind,run_underlying h1,run_underlying h2,Result.andThen_ok]
      cases sd <;> rfl
    · next sd _ h1 h2 he =>
      injection h with h; subst h
      rw [he] at hx
      cases hx with | txt hb =>
      refine ⟨_,exec_value ?_,.txt hb⟩
      unfold convert
      simp only [Sem.run_bind,run_underlying h1,run_underlying h2,Result.andThen_ok]
      cases sd <;> rfl
  case makeInterface t x =>
    split at h <;> try (cases h; done)
    next d hd hn =>
    injection h with h; subst h
    refine ⟨_,exec_value ?_,.ifc t (hl x)⟩
    unfold Instr.makeInterface
    simp only [Sem.run_bind,run_underlying hn,Result.andThen_ok]
    cases d <;> first | rfl | (exact (hd _ hn).elim)
  case makeFunc fn a b =>
    cases fn <;> dsimp only at h <;> try (cases h; done)
    injection h with h; subst h
    refine ⟨_,rfl,.fn _ ?_ ?_⟩
    · rw [Array.toList_map]; exact VRs.of_lk hl _
    · rw [Array.toList_map]; exact VRs.of_lk hl _
  case slice t x lo hi mx =>
    have hx:=hl x
    have hlo:=opt_rel hl lo
    have hhi:=opt_rel hl hi
    have hmx:=opt_rel hl mx
    generalize ρ x = u at hx ⊢
    generalize lk x = y at hx h
    split at h
    · next ht =>
      split at h
      · cases hx with | str b =>
        obtain ⟨r,h1,h2⟩:=sliceA_str h ht hlo hhi hmx.1
        exact ⟨r,exec_value h1,h2⟩
      · cases hx with | txt hb =>
        obtain ⟨r,h1,h2⟩:=sliceA_txt hb h ht hlo hhi hmx.1
        exact ⟨r,exec_value h1,h2⟩
      · cases h
    · next e ht =>
      split at h
      · next f hf =>
        split at h
        · cases h
        · cases h
        · next hs hs2 =>
          obtain ⟨r,h1,h2⟩:=sliceA_slc hx hs hs2 h ht hf hlo hhi hmx
          exact ⟨r,exec_value h1,h2⟩
      · cases h
    · cases h
  case fieldAddr s x f =>
    have hx:=hl x
    generalize ρ x = u at hx ⊢
    split at h <;> try (cases h; done)
    next fs a o hs he =>
    rw [he] at hx
    cases hx with | ptr _ hm =>
    split at h <;> try (cases h; done)
    next fd hfd =>
    split at h <;> try (cases h; done)
    next i hi =>
    cases hz : Nat.beq i.size 0 with
    | true=>rw [hz] at h; cases h
    | false =>
      rw [hz,cond_false] at h
      injection h with h; subst h
      have hz0 : i.size ≠ 0:=fun e=>by rw [e] at hz; cases hz
      refine ⟨_,exec_value ?_,.ptr _ hm⟩
      unfold Instr.fieldAt
      simp only [Sem.run_bind,run_underlying hs,Result.andThen_ok,hfd,Instr.sureAddr,Sem.run_pure,fieldPlace,run_sizeOf' hi,if_neg hz0,addr_add]
      rfl
  case field s x f =>
    have hx:=hl x
    generalize ρ x = u at hx ⊢
    split at h <;> try (cases h; done)
    next fs cs hs he =>
    rw [he] at hx
    cases hx with | agg hc =>
    split at h <;> try (cases h; done)
    next fd hfd =>
    obtain ⟨r,h1,h2⟩:=partA_ok h hc w
    refine ⟨r,exec_value ?_,h2⟩
    unfold Instr.field
    simp only [Sem.run_bind,run_underlying hs,Result.andThen_ok,hfd,asAgg,Sem.run_pure,h1]
  case indexAddr t x ix =>
    have hx:=hl x
    have hi:=hl ix
    generalize ρ x = u at hx ⊢
    generalize ρ ix = ui at hi ⊢
    split at h <;> try (cases h; done)
    · next e a o n z j ht he hj =>
      split at h <;> try (cases h; done)
      next f hf =>
      cases hb : Nat.blt j n with
      | false=>rw [hb] at h; cases h
      | true =>
        rw [hb,cond_true] at h
        injection h with h; subst h
        have hjn:=blt_lt hb
        obtain ⟨k,_,hk⟩:=natA_ok hi hj
        subst hk
        rw [he] at hx
        cases hx with
        | slc0 _ _ _=>omega
        | slc hm _ _ _ =>
          refine ⟨_,exec_value ?_,.ptr _ hm⟩
          have hr : (0 : Int) ≤ (j : Int) ∧ (j : Int) < (n : Int):=by omega
          unfold Instr.indexAt
          simp only [asIntOf,Sem.run_bind,Sem.run_pure,Result.andThen_ok,run_underlying ht,run_sizeOf' hf,hr,and_self,if_true,Int.toNat_natCast,addr_add]
          rfl
    · next n e a o j ht he hj =>
      split at h <;> try (cases h; done)
      next f hf =>
      cases hb : Nat.blt j n with
      | false=>rw [hb] at h; cases h
      | true =>
        rw [hb,cond_true] at h
        injection h with h; subst h
        have hjn:=blt_lt hb
        obtain ⟨k,_,hk⟩:=natA_ok hi hj
        subst hk
        rw [he] at hx
        cases hx with | ptr _ hm =>
        refine ⟨_,exec_value ?_,.ptr _ hm⟩
        have hr : (0 : Int) ≤ (j : Int) ∧ (j : Int) < (n : Int):=by omega
        unfold Instr.indexAt
        simp only [asIntOf,Sem.run_bind,Sem.run_pure,Result.andThen_ok,run_underlying ht,run_sizeOf' hf,Instr.sureAddr,hr,and_self,if_true,Int.toNat_natCast,addr_add]
        rfl
  case extract x i =>
    have hx:=hl x
    generalize ρ x = u at hx ⊢
    split at h <;> try (cases h; done)
    next vs he =>
    rw [he] at hx
    cases hx with | tup hc =>
    obtain ⟨r,h1,h2⟩:=hc.get h
    refine ⟨r,exec_value ?_,h2⟩
    unfold Instr.extract
    have h1' : _:=h1
    rw [Array.getElem?_toList] at h1'
    simp only [h1',Sem.run_pure]
  case index t x ix =>
    have hx:=hl x
    have hi:=hl ix
    generalize ρ x = u at hx ⊢
    generalize ρ ix = ui at hi ⊢
    split at h <;> try (cases h; done)
    · next n e cs j ht he hj =>
      split at h <;> try (cases h; done)
      next f hf =>
      cases hb : Nat.blt j n with
      | false=>rw [hb] at h; cases h
      | true =>
        rw [hb,cond_true] at h
        have hjn:=blt_lt hb
        obtain ⟨k,_,hk⟩:=natA_ok hi hj
        subst hk
        rw [he] at hx
        cases hx with | agg hc =>
        obtain ⟨r,h1,h2⟩:=partA_ok h hc w
        refine ⟨r,exec_value ?_,h2⟩
        have hr : (0 : Int) ≤ (j : Int) ∧ (j : Int) < (n : Int):=by omega
        unfold Instr.index
        simp only [asIntOf,Sem.run_bind,Sem.run_pure,Result.andThen_ok,run_underlying ht,hr,and_self,if_true,Int.toNat_natCast,run_sizeOf' hf]
        exact h1
    · next s j ht he hj =>
      split at h <;> try (cases h; done)
      next b hb =>
      injection h with h; subst h
      obtain ⟨k,_,hk⟩:=natA_ok hi hj
      subst hk
      rw [he] at hx
      obtain ⟨bs,hbs,hu⟩ : ∃ bs : ByteArray,s = bs.data.toList.map UInt8.toNat ∧ u = .string bs:=by cases hx with | str b=>exact ⟨b,rfl,rfl⟩
      subst hbs hu
      rw [List.getElem?_map] at hb
      cases hg : bs.data.toList[j]? with
      | none=>rw [hg] at hb; cases hb
      | some c =>
        rw [hg] at hb
        injection hb with hb
        subst hb
        refine ⟨.int .u8 (c.toNat : Int),exec_value ?_,.int _ _⟩
        have h0 : (0 : Int) ≤ (j : Int):=by omega
        have hg' : bs[j]? = some c:=by
          have hlt : j < bs.size:=by
            have:=(List.getElem?_eq_some_iff.1 hg).1
            simpa using this
          rw [getElem?_pos bs j hlt]
          rw [List.getElem?_eq_getElem (by simpa using hlt)] at hg
          injection hg with hg
          rw [← hg]
          rfl
        unfold Instr.index
        simp only [asIntOf,Sem.run_bind,Sem.run_pure,Result.andThen_ok,run_underlying ht,if_pos h0,Int.toNat_natCast,hg']
    · next s j ht he hj =>
      obtain ⟨k,_,hk⟩:=natA_ok hi hj
      subst hk
      rw [he] at hx
      cases hx with | txt hb =>
      rename_i bs
      obtain ⟨w',hg,hv⟩:=hb.get h
      rw [List.getElem?_map] at hg
      cases hg2 : bs.data.toList[j]? with
      | none=>rw [hg2] at hg; cases hg
      | some c =>
        rw [hg2] at hg
        injection hg with hg
        subst hg
        refine ⟨.int .u8 (c.toNat : Int),exec_value ?_,hv⟩
        have h0 : (0 : Int) ≤ (j : Int):=by omega
        have hg' : bs[j]? = some c:=by
          have hlt : j < bs.size:=by
            have:=(List.getElem?_eq_some_iff.1 hg2).1
            simpa using this
          rw [getElem?_pos bs j hlt]
          rw [List.getElem?_eq_getElem (by simpa using hlt)] at hg2
          injection hg2 with hg2
          rw [← hg2]
          rfl
        unfold Instr.index
        simp only [asIntOf,Sem.run_bind,Sem.run_pure,Result.andThen_ok,run_underlying ht,if_pos h0,Int.toNat_natCast,hg']
  case typeAssert x t a ok =>
    have hx:=hl x
    generalize ρ x = u at hx ⊢
    split at h <;> try (cases h; done)
    next fs hd =>
    split at h <;> try (cases h; done)
    · next z hz he =>
      cases ok with
      | false=>cases h
      | true =>
        injection h with h; subst h
        rw [he] at hx
        cases hx
        obtain ⟨i,zv,_,_,hzr,hrun⟩:=zeroA_ok (m:=m) hz
        refine ⟨.tuple #[zv,.bool false],exec_value ?_,.tup (.cons hzr (.cons (.bool _) .nil))⟩
        unfold Instr.typeAssert
        simp only [Sem.run_bind,run_underlying hd,Result.andThen_ok,if_true,hrun,Sem.run_pure]
    · next z tt vv hz he =>
      rw [he] at hx
      cases hx with | ifc _ hv =>
      obtain ⟨i,zv,_,_,hzr,hrun⟩:=zeroA_ok (m:=m) hz
      cases hb : Nat.beq tt a with
      | true =>
        rw [hb,cond_true] at h
        injection h with h; subst h
        have e:=Nat.eq_of_beq_eq_true hb
        cases ok with
        | true =>
          refine ⟨.tuple #[_,.bool true],exec_value ?_,.tup (.cons hv (.cons (.bool _) .nil))⟩
          unfold Instr.typeAssert
          simp only [Sem.run_bind,run_underlying hd,Result.andThen_ok,if_true,if_pos e,Sem.run_pure]
        | false =>
          refine ⟨_,exec_value ?_,hv⟩
          unfold Instr.typeAssert
          simp only [Sem.run_bind,run_underlying hd,Result.andThen_ok,Bool.false_eq_true,if_false,if_pos e,Sem.run_pure]
      | false =>
        rw [hb,cond_false] at h
        cases ok with
        | false=>cases h
        | true =>
          injection h with h; subst h
          have e : ¬ tt = a:=fun e=>by rw [e,nbeq_t rfl] at hb; cases hb
          refine ⟨.tuple #[zv,.bool false],exec_value ?_,.tup (.cons hzr (.cons (.bool _) .nil))⟩
          unfold Instr.typeAssert
          simp only [Sem.run_bind,run_underlying hd,Result.andThen_ok,if_true,if_neg e,hrun,Sem.run_pure]
  case call c =>
    obtain ⟨callee,args,ts⟩:=c
    cases callee <;> dsimp only at h <;> try (cases h; done)
    next b =>
    have go : ∀ (s : Sem Value) (r : Value),(∀ cs,builtin b ts o.type cs (args.map ρ) = (do pure (Next.value (← s)))) → s.run P w = .ok r w → (do let d ← resolve ρ { callee:=.builtin b,args:=args,argTypes:=ts } o.type; invoke d.target d.args : Sem Next).run P w = .ok (.value r) w:=by
      intro s r h1 h2
      simp only [resolve,Sem.run_bind,Sem.run_pure,Result.andThen_ok,invoke]
      rw [h1]
      exact exec_value h2
    cases b <;> dsimp only at h <;> try (cases h; done)
    case len =>
      split at h <;> try (cases h; done)
      next t x ht hx0 =>
      have hx:=hl x
      have ha : (args.map ρ)[0]? = some (ρ x):=by simp [hx0]
      generalize ρ x = u at hx ha
      split at h <;> try (cases h; done)
      · next s hu he =>
        injection h with h; subst h
        rw [he] at hx
        obtain ⟨bs,hbs,hu'⟩ : ∃ bs : ByteArray,s = bs.data.toList.map UInt8.toNat ∧ u = .string bs:=by cases hx with | str b=>exact ⟨b,rfl,rfl⟩
        subst hbs hu'
        refine ⟨goInt bs.size,go _ _ (fun _=>rfl) ?_,?_⟩
        · simp only [Builtin.len_,ht,ha,Sem.run_bind,run_underlying hu,Result.andThen_ok,Sem.run_pure]
        · have : (bs.data.toList.map UInt8.toNat).length = bs.size:=by rw [List.length_map]; rfl
          rw [this]
          exact .int _ _
      · next s hu he =>
        injection h with h; subst h
        rw [he] at hx
        cases hx with | txt hb =>
        rename_i bs
        refine ⟨goInt bs.size,go _ _ (fun _=>rfl) ?_,?_⟩
        · simp only [Builtin.len_,ht,ha,Sem.run_bind,run_underlying hu,Result.andThen_ok,Sem.run_pure]
        · have : s.length = bs.size:=by rw [hb.len]; rw [List.length_map]; rfl
          rw [this]
          exact .int _ _
      · next hu he =>
        injection h with h; subst h
        rw [he] at hx
        obtain ⟨A,c,hu'⟩ : ∃ A c,u = .slice A _ c:=by cases hx <;> exact ⟨_,_,rfl⟩
        subst hu'
        refine ⟨_,go _ _ (fun _=>rfl) ?_,.int _ _⟩
        simp only [Builtin.len_,ht,ha,Sem.run_bind,run_underlying hu,Result.andThen_ok,Sem.run_pure]
        rfl
      · next hu he =>
        injection h with h; subst h
        rw [he] at hx
        cases hx
        refine ⟨_,go _ _ (fun _=>rfl) ?_,.int _ _⟩
        simp only [Builtin.len_,ht,ha,Sem.run_bind,run_underlying hu,Result.andThen_ok,Sem.run_pure]
        rfl
      · next hu he =>
        injection h with h; subst h
        rw [he] at hx
        cases hx
        refine ⟨_,go _ _ (fun _=>rfl) ?_,.int _ _⟩
        simp only [Builtin.len_,ht,ha,Sem.run_bind,run_underlying hu,Result.andThen_ok,Sem.run_pure]
        rfl
      · next hu =>
        injection h with h; subst h
        refine ⟨_,go _ _ (fun _=>rfl) ?_,.int _ _⟩
        simp only [Builtin.len_,ht,ha,Sem.run_bind,run_underlying hu,Result.andThen_ok,Sem.run_pure]
        rfl
    case cap =>
      split at h <;> try (cases h; done)
      next t x ht hx0 =>
      have hx:=hl x
      have ha : (args.map ρ)[0]? = some (ρ x):=by simp [hx0]
      generalize ρ x = u at hx ha
      split at h <;> try (cases h; done)
      all_goals
        rename_i hu he
        injection h with h; subst h
        rw [he] at hx
        cases hx
        refine ⟨_,go _ _ (fun _=>rfl) ?_,.int _ _⟩
        simp only [Builtin.cap_,ht,ha,Sem.run_bind,run_underlying hu,Result.andThen_ok,Sem.run_pure]
        try rfl
    case max =>
      have hv:=VRs.of_lk hl args.toList
      have hm : (args.map ρ).toList = args.toList.map ρ:=Array.toList_map ..
      rw [← hm] at hv
      split at h <;> try (cases h; done)
      next k a k' b he =>
        rw [he] at hv
        injection h with h; subst h
        generalize hg : (args.map ρ).toList = us at hv
        cases hv with | cons h1 hv =>
        cases hv with | cons h2 hv =>
        cases hv
        cases h1
        cases h2
        refine ⟨_,go _ _ (fun _=>rfl) ?_,.int _ _⟩
        unfold Builtin.max_
        rw [hg]
        simp only [List.foldlM_cons,List.foldlM_nil,Builtin.max2,Sem.run_bind,Sem.run_pure,Result.andThen_ok]
        rw [ilt_ok]
        by_cases hb : a < b <;> simp [hb]
      next n k b he =>
        rw [he] at hv
        unfold maxGe at h
        split at h <;> try (cases h; done)
        injection h with h; subst h
        generalize hg : (args.map ρ).toList = us at hv
        cases hv with | cons h1 hv =>
        cases hv with | cons h2 hv =>
        cases hv
        cases h1 with | ge g1 g2 =>
        cases h2
        refine ⟨_,go _ _ (fun _=>rfl) ?_,.ge g1 g2⟩
        unfold Builtin.max_
        rw [hg]
        simp only [List.foldlM_cons,List.foldlM_nil,Builtin.max2,Sem.run_bind,Sem.run_pure,Result.andThen_ok]
        rename_i vv
        have hb : ¬ ((Int.ofNat vv) < (Int.ofNat 0)):=by
          have : (Int.ofNat vv) = (vv : Int):=rfl
          have : (Int.ofNat 0) = (0 : Int):=rfl
          omega
        simp []
        omega
    case min =>
      have hv:=VRs.of_lk hl args.toList
      have hm : (args.map ρ).toList = args.toList.map ρ:=Array.toList_map ..
      rw [← hm] at hv
      split at h <;> try (cases h; done)
      next k a k' b he =>
      rw [he] at hv
      injection h with h; subst h
      generalize hg : (args.map ρ).toList = us at hv
      cases hv with | cons h1 hv =>
      cases hv with | cons h2 hv =>
      cases hv
      cases h1
      cases h2
      refine ⟨_,go _ _ (fun _=>rfl) ?_,.int _ _⟩
      unfold Builtin.min_
      rw [hg]
      simp only [List.foldlM_cons,List.foldlM_nil,Builtin.min2,Sem.run_bind,Sem.run_pure,Result.andThen_ok]
      rw [ilt_ok]
      by_cases hb : b < a <;> simp [hb]
end
end Am
end Go.Proofs.YtadbcnekkceoaaaGreatDoor
namespace Go.Proofs.YtadbcnekkceoaaaGreatDoor
namespace Am
open Go.MapKept
def H.load (h : H) (a : Pos) (o n : Nat) : Option (List AV) :=
  match h.get a with
  | some (.cells _ k c)=>bif Nat.ble (Nat.add o n) k then c.takeN o n else none
  | _=>none
def H.load1 (h : H) (a : Pos) (o : Nat) : Option AV :=
  match h.get a with
  | some (.cells _ k c)=>bif Nat.blt o k then c.at o else none
  | _=>none
def keyEq : AV → AV → Option Bool
  | .int k a,.int k' b=>bif kEq k k' then some (ieq a b) else none
  | .str a,.str b=>some (strEq a b)
  | .agg [.int k a,.int l b],.agg [.int k' a',.int l' b']=>bif kEq k k' && kEq l l' then some (ieq a a' && ieq b b') else none
  | _,_=>none
def findE (k : AV) : List Ent → Nat → Option (Option (Nat × AV))
  | [],_=>some none
  | e :: es,i=>match keyEq k e.k with
    | some true=>some (some (i,e.v))
    | some false=>findE k es (Nat.succ i)
    | none=>none
def keyA (P : Program) (kt : TypeId) (k : AV) : Bool :=
  match P.underlying kt with
  | some (.int q)=>match k with | .int q' _=>kEq q' q | _=>false
  | some .string=>match k with | .str _=>true | _=>false
  | some (.array n e)=>bif Nat.beq n 2 then (match P.underlying e,P.info? e with
    | some (.int q),some i=>bif Nat.beq i.size 1 then (match k with | .agg [.int q1 _,.int q2 _]=>kEq q1 q && kEq q2 q | _=>false) else false
    | _,_=>false) else false
  | _=>false
def lookE (P : Program) (kt : TypeId) (k : AV) (es : List Ent) : Option (Option (Nat × AV)):=bif keyA P kt k then findE k es 0 else none
def readF (P : Program) (op : Op) (lk : Operand → AV) (h : H) : Option AV :=
  match op with
  | .load t a=>match lk a with
    | .ptr b o=>match aggT P t with
      | some true=>match P.info? t with | some i=>(match h.load b o i.size with | some l=>some (.agg l) | none=>none) | none=>none
      | some false=>h.load1 b o
      | none=>none
    | _=>none
  | .slice t x lo hi none=>match P.underlying t,lk x with
    | some (.array n e),.ptr a o=>match P.info? e with
      | some i=>match h.get a with
        | some (.cells _ k _)=>bif Nat.ble (Nat.add o (Nat.mul n i.size)) k && Nat.ble n 9223372036854775807 && Nat.blt 0 i.size then sliceA (.slc a o n i.size) (lo.map lk) (hi.map lk) none i.size else none
        | _=>none
      | none=>none
    | _,_=>none
  | .lookup t x i ok=>match P.underlying t with
    | some (.map kt e)=>match zeroA P e with
      | some z=>match lk x with
        | .nilm=>match lookE P kt (lk i) [] with | some _=>some (bif ok then .tup [z,.bool false] else z) | none=>none
        | .map a=>match h.get a with
          | some (.mp es _)=>match lookE P kt (lk i) es with
            | some (some (_,v))=>some (bif ok then .tup [v,.bool true] else v)
            | some none=>some (bif ok then .tup [z,.bool false] else z)
            | none=>none
          | _=>none
        | _=>none
      | none=>none
    | _=>none
  | .entry i=>match lk i with
    | .ptr r 0=>match h.get r with
      | some (.it (some a) _ seen st)=>match seen.getLast?,h.get a with
        | some b,some (.mp es cl)=>bif Nat.beq cl st then (match es.find? (fun e=>Nat.beq e.born b) with | some e=>some (.tup [e.k,e.v]) | none=>none) else none
        | _,_=>none
      | _=>none
    | _=>none
  | .call { callee:=.builtin .len,args:=args,argTypes:=ts }=>match ts[0]?,args[0]? with
    | some t,some x=>match P.underlying t,lk x with
      | some (.map _ _),.nilm=>some (.goInt 0)
      | some (.map _ _),.map a=>match h.get a with | some (.mp es _)=>some (.goInt es.length) | _=>none
      | _,_=>none
    | _,_=>none
  | _=>none
section
variable {P : Program} {m : Mp} {w : World} {tb : Tb} {N : Nat → Nat} {h : H}
theorem HR.cells (hr : HR tb N m h w) {a : Pos} {ro : Bool} {k : Nat} {c : T AV} (hg : h.get a = some (.cells ro k c)) : ∃ i sz cs t fz,m a = some (i,sz) ∧ w.heap[i]? = some (.cells cs t fz) ∧ cs.size = sz ∧ k ≤ sz ∧ (∀ j,j < k → ∃ v u,c.at j = some v ∧ cs[j]? = some u ∧ VR m v u) ∧ (ro = false → fz = (0,0)) ∧ (∀ q,T.get mkP c = some (.tyv q) → t = q):=by
  obtain ⟨i,sz,o,h1,h2,h3⟩:=hr.blk _ _ hg
  cases h3 with
  | cells a b c d e=>exact ⟨i,sz,_,_,_,h1,h2,a,b,c,d,e⟩
theorem load_ok (hr : HR tb N m h w) {a : Pos} {o n : Nat} {l : List AV} (hl : h.load a o n = some l) {i sz : Nat} (ha : m a = some (i,sz)) : ∃ us : List Value,us.length = n ∧ VRs m l us ∧ (loadCells ⟨i,o,none⟩ n).run P w = .ok us.toArray w:=by
  unfold H.load at hl
  split at hl
  · next ro k c hg =>
    cases hb : Nat.ble (Nat.add o n) k with
    | false=>rw [hb] at hl; cases hl
    | true =>
      rw [hb,cond_true] at hl
      have hk : o + n ≤ k:=ble_le hb
      obtain ⟨i',sz',cs,t,fz,h1,h2,h3,h4,h5,_⟩:=hr.cells hg
      rw [h1] at ha; injection ha with ha; injection ha with e1 e2; subst e1 e2
      obtain ⟨l1,l2⟩:=T.takeN_spec n c o l hl
      have hcell : ∀ j,j < n → w.cell? ((⟨i',o,none⟩ : Addr).add j) = some (cs.getD (o + j) undef):=fun j hj=>by
        obtain ⟨v,u,_,h7,_⟩:=h5 (o + j) (by omega)
        rw [addr_add]
        simp [World.cell?,h2,h7,Array.getD_eq_getD_getElem?]
      refine ⟨(List.range n).map fun j=>cs.getD (o + j) undef,by simp,VRs.of_get (by simp [l1]) fun j x hx=>?_,run_loadCells w _ n _ hcell⟩
      have hj : j < n:=by have:=(List.getElem?_eq_some_iff.1 hx).1; omega
      obtain ⟨v,u,h6,h7,h8⟩:=h5 (o + j) (by omega)
      rw [l2 j hj,hx] at h6
      injection h6 with h6; subst h6
      exact ⟨u,by simp [hj,h7,Array.getD_eq_getD_getElem?],h8⟩
  · cases hl
theorem load1_ok (hr : HR tb N m h w) {a : Pos} {o : Nat} {v : AV} (hl : h.load1 a o = some v) {i sz : Nat} (ha : m a = some (i,sz)) : ∃ u,VR m v u ∧ (load ⟨i,o,none⟩).run P w = .ok u w:=by
  unfold H.load1 at hl
  split at hl
  · next ro k c hg =>
    cases hb : Nat.blt o k with
    | false=>rw [hb] at hl; cases hl
    | true =>
      rw [hb,cond_true] at hl
      have hk:=blt_lt hb
      obtain ⟨i',sz',cs,t,fz,h1,h2,h3,h4,h5,_⟩:=hr.cells hg
      rw [h1] at ha; injection ha with ha; injection ha with e1 e2; subst e1 e2
      obtain ⟨v',u,h6,h7,h8⟩:=h5 o hk
      rw [hl] at h6; injection h6 with h6; subst h6
      refine ⟨u,h8,?_⟩
      have : w.cell? ⟨i',o,none⟩ = some u:=by simp [World.cell?,h2,h7]
      rw [run_load,this]
  · cases hl
theorem run_part1 {e : TypeId} {q : IntKind} (he : P.underlying e = some (.int q)) {cs : Array Value} {off : Nat} {u : Value} (hc : cs[off]? = some u) : (part e cs off).run P w = .ok u w:=by
  have ha : aggT P e = some false:=by unfold aggT; rw [he]
  simp only [part,Sem.run_bind,aggT_ok ha,Result.andThen_ok,Bool.false_eq_true,if_false,hc,Sem.run_pure]
theorem equal_arr2 {kt e : TypeId} {q : IntKind} {i : TypeInfo} (hkt : P.underlying kt = some (.array 2 e)) (he : P.underlying e = some (.int q)) (hi : P.info? e = some i) (hs : i.size = 1) (a b c d : Int) :
    (Op.equal kt (.agg #[.int q a,.int q b]) (.agg #[.int q c,.int q d])).run P w = .ok (a == c && b == d) w:=by
  have e0 : ∀ x y,(Op.equalIn 9999 e (.int q x) (.int q y)).run P w = .ok (x == y) w:=fun x y=>by
    rw [show (9999 : Nat) = 9998 + 1 from rfl,Op.equalIn]
    simp only [Sem.run_bind,run_underlying he,Result.andThen_ok,if_true,Sem.run_pure]
  have p1 : ∀ x y,(part e #[.int q x,.int q y] 0).run P w = .ok (.int q x) w:=fun x y=>run_part1 he rfl
  have p2 : ∀ x y,(part e #[.int q x,.int q y] 1).run P w = .ok (.int q y) w:=fun x y=>run_part1 he rfl
  unfold Op.equal
  rw [show Op.maxDepth = 9999 + 1 from rfl,Op.equalIn]
  simp only [Sem.run_bind,run_underlying hkt,Result.andThen_ok,run_sizeOf' hi,hs,Std.Legacy.Range.forIn_eq_forIn_range',Std.Legacy.Range.size]
  simp [List.range',p1,e0,Sem.run_bind,Sem.run_pure,Result.andThen]
  by_cases h1 : a = c <;> by_cases h2 : b = d <;> simp [h1,h2,p2,e0,Sem.run_bind,Sem.run_pure,Result.andThen]
theorem check_arr2 {kt e : TypeId} {q : IntKind} {i : TypeInfo} (hkt : P.underlying kt = some (.array 2 e)) (he : P.underlying e = some (.int q)) (hi : P.info? e = some i) (hs : i.size = 1) (a b : Int) (em : Bool) :
    (Instr.checkKey em 10000 kt (.agg #[.int q a,.int q b])).run P w = .ok () w:=by
  have e0 : ∀ x,(Instr.checkKey em 9999 e (.int q x)).run P w = .ok () w:=fun x=>by
    rw [show (9999 : Nat) = 9998 + 1 from rfl,Instr.checkKey]
    simp only [Sem.run_bind,run_underlying he,Result.andThen_ok,Sem.run_pure]
  have p1 : ∀ x y,(part e #[.int q x,.int q y] 0).run P w = .ok (.int q x) w:=fun x y=>run_part1 he rfl
  have p2 : ∀ x y,(part e #[.int q x,.int q y] 1).run P w = .ok (.int q y) w:=fun x y=>run_part1 he rfl
  rw [show (10000 : Nat) = 9999 + 1 from rfl,Instr.checkKey]
  simp only [Sem.run_bind,run_underlying hkt,Result.andThen_ok,Std.Legacy.Range.forIn_eq_forIn_range',Std.Legacy.Range.size]
  simp [List.range',p1,p2,e0,Sem.run_bind,Sem.run_pure,Result.andThen,run_sizeOf' hi,hs]
theorem stays_arr2 (q : IntKind) (a b : Int) : (Instr.keyThatStays (.agg #[.int q a,.int q b]) (.agg #[.int q a,.int q b])).run P w = .ok (.agg #[.int q a,.int q b]) w:=by
  unfold Instr.keyThatStays
  have : Instr.sameBits 10000 (.agg #[.int q a,.int q b]) (.agg #[.int q a,.int q b]) = true:=by simp [Instr.sameBits]
  rw [if_pos this]; rfl
structure Arr2 (P : Program) (kt : TypeId) (k : AV) (u : Value) (e : TypeId) (q : IntKind) (i : TypeInfo) (a b : Int) : Prop where
  hkt : P.underlying kt = some (.array 2 e)
  he : P.underlying e = some (.int q)
  hi : P.info? e = some i
  hs : i.size = 1
  hk : k = .agg [.int q a,.int q b]
  hu : u = .agg #[.int q a,.int q b]
theorem keyA_ok {kt : TypeId} {k : AV} {u : Value} (hk : keyA P kt k = true) (hv : VR m k u) : (∃ d,P.underlying kt = some d ∧ IsKey d u ∧ ((∃ q n,k = .int q n ∧ u = .int q n ∧ d = .int q) ∨ (∃ b : ByteArray,k = .str (b.data.toList.map UInt8.toNat) ∧ u = .string b ∧ d = .string))) ∨ ∃ e q i a b,Arr2 P kt k u e q i a b:=by
  unfold keyA at hk
  split at hk
  · next q hq =>
    split at hk
    · next q' n =>
      cases hv
      obtain rfl:=kEq_ok hk
      exact .inl ⟨_,hq,rfl,.inl ⟨_,_,rfl,rfl,rfl⟩⟩
    · cases hk
  · next hq =>
    split at hk
    · cases hv with | str b=>exact .inl ⟨_,hq,trivial,.inr ⟨b,rfl,rfl,rfl⟩⟩
    · cases hk
  · next n e hq =>
    cases hn : Nat.beq n 2 with
    | false=>rw [hn] at hk; cases hk
    | true =>
      rw [hn,cond_true] at hk
      have:=Nat.eq_of_beq_eq_true hn
      subst this
      split at hk
      · next q i he hi =>
        cases hs : Nat.beq i.size 1 with
        | false=>rw [hs] at hk; cases hk
        | true =>
          rw [hs,cond_true] at hk
          split at hk
          · next q1 a q2 b =>
            rw [Bool.and_eq_true] at hk
            obtain rfl:=kEq_ok hk.1
            obtain rfl:=kEq_ok hk.2
            cases hv with | agg hv =>
            rename_i us
            refine .inr ⟨e,_,i,a,b,hq,he,hi,Nat.eq_of_beq_eq_true hs,rfl,?_⟩
            obtain ⟨l⟩:=us
            cases hv with | cons h1 h2 =>
            cases h2 with | cons h2 h3 =>
            cases h1
            cases h2
            cases h3
            rfl
          · cases hk
      · cases hk
  · cases hk
theorem findArr_ok {kt e : TypeId} {k : AV} {u : Value} {q : IntKind} {i0 : TypeInfo} {a b : Int} (hk : Arr2 P kt k u e q i0 a b) : ∀ {es : List Ent} {xs : List MapEntry},EntR m es xs → ∀ (i : Nat) {r : Option (Nat × AV)},findE k es i = some r →
    (r = none ∧ ∀ w,(Instr.findAsking kt u xs i).run P w = .ok none w) ∨ ∃ j v x e,r = some (j,v) ∧ (∀ w,(Instr.findAsking kt u xs i).run P w = .ok (some (j,x.val)) w) ∧ i ≤ j ∧ xs[j - i]? = some x ∧ es[j - i]? = some e ∧ e.v = v ∧ VR m v x.val ∧ x.key = u:=by
  intro es xs he
  induction he with
  | nil=>intro i r h; injection h with h; exact .inl ⟨h.symm,fun w=>rfl⟩
  | @cons e x l k' h1 h2 h3 h4 ih =>
    intro i r h
    simp only [findE] at h
    have hs : ∀ b,keyEq k e.k = some b → (∀ w,(Op.equal kt u x.key).run P w = .ok b w) ∧ (b = true → x.key = u):=by
      intro bb hb
      generalize e.k = y at h1 hb
      generalize x.key = z at h1
      rw [hk.hk] at hb
      rw [hk.hu]
      unfold keyEq at hb
      split at hb
      · exact AV.noConfusion ‹AV.agg [AV.int q a,AV.int q b] = AV.int _ _›
      · exact AV.noConfusion ‹AV.agg [AV.int q a,AV.int q b] = AV.str _›
      · next k1 a1 l1 b1 k2 a2 l2 b2 e1 =>
        injection e1 with e1
        injection e1 with e1 e3
        injection e3 with e3 _
        injection e1 with e1 e4
        injection e3 with e3 e5
        subst e1 e3 e4 e5
        cases hq : kEq q k2 && kEq q l2 with
        | false=>rw [hq] at hb; cases hb
        | true =>
          rw [hq,cond_true] at hb
          injection hb with hb
          rw [Bool.and_eq_true] at hq
          obtain rfl:=kEq_ok hq.1
          obtain rfl:=kEq_ok hq.2
          cases h1 with | agg hv =>
          rename_i us
          obtain ⟨l⟩:=us
          cases hv with | cons v1 v2 =>
          cases v2 with | cons v2 v3 =>
          cases v1
          cases v2
          cases v3
          refine ⟨fun w=>?_,fun e=>?_⟩
          · rw [equal_arr2 hk.hkt hk.he hk.hi hk.hs,← hb,ieq_ok,ieq_ok]
          · rw [e,Bool.and_eq_true,ieq_ok,ieq_ok,beq_iff_eq,beq_iff_eq] at hb
            rw [hb.1,hb.2]
      · cases hb
    split at h
    · next hb =>
      injection h with h
      obtain ⟨g1,g2⟩:=hs _ hb
      refine .inr ⟨i,e.v,x,e,h.symm,fun w=>by simp only [Instr.findAsking,Sem.run_bind,g1,Result.andThen_ok,if_true,Sem.run_pure],Nat.le_refl _,by simp,by simp,rfl,h2,g2 rfl⟩
    · next hb =>
      obtain ⟨g1,_⟩:=hs _ hb
      rcases ih (i + 1) h with ⟨g2,g3⟩ | ⟨j,v,x',e',g2,g3,g4,g5,g6,g7⟩
      · exact .inl ⟨g2,fun w=>by simp only [Instr.findAsking,Sem.run_bind,g1,Result.andThen_ok,Bool.false_eq_true,if_false,g3]⟩
      · refine .inr ⟨j,v,x',e',g2,fun w=>by simp only [Instr.findAsking,Sem.run_bind,g1,Result.andThen_ok,Bool.false_eq_true,if_false,g3],by omega,?_,?_,g7⟩
        · rw [show j - i = (j - (i + 1)) + 1 by omega]; simpa using g5
        · rw [show j - i = (j - (i + 1)) + 1 by omega]; simpa using g6
    · cases h
theorem findKey_arr {kt e : TypeId} (hkt : P.underlying kt = some (.array 2 e)) (u : Value) (xs : List MapEntry) (w : World) : (Instr.findKey kt u xs).run P w = (Instr.findAsking kt u xs 0).run P w:=by
  unfold Instr.findKey
  simp only [Sem.run_bind,run_underlying hkt,Result.andThen_ok]
  cases xs with
  | nil=>rfl
  | cons x l =>
    have : Instr.findNow (.array 2 e) u (x :: l) 0 = none:=by
      simp only [Instr.findNow]
      have : Instr.sameNow (.array 2 e) u x.key = none:=by unfold Instr.sameNow; rfl
      rw [this]
    rw [this]
theorem findE_ok {d : TypeDesc} {k : AV} {u : Value} (hk : (∃ q n,k = .int q n ∧ u = .int q n ∧ d = .int q) ∨ (∃ b : ByteArray,k = .str (b.data.toList.map UInt8.toNat) ∧ u = .string b ∧ d = .string)) : ∀ {es : List Ent} {xs : List MapEntry},EntR m es xs → ∀ (i : Nat) {r : Option (Nat × AV)},findE k es i = some r →
    (r = none ∧ Instr.findNow d u xs i = some none) ∨ ∃ j v x e,r = some (j,v) ∧ Instr.findNow d u xs i = some (some (j,x.val)) ∧ i ≤ j ∧ xs[j - i]? = some x ∧ es[j - i]? = some e ∧ e.v = v ∧ VR m v x.val ∧ x.key = u:=by
  intro es xs he
  induction he with
  | nil=>intro i r h; injection h with h; exact .inl ⟨h.symm,rfl⟩
  | @cons e x l k' h1 h2 h3 h4 ih =>
    intro i r h
    simp only [findE] at h
    have hs : ∀ b,keyEq k e.k = some b → Instr.sameNow d u x.key = some b ∧ (b = true → x.key = u):=by
      intro b hb
      have hu : IsKey d u:=by rcases hk with ⟨q,n,rfl,rfl,rfl⟩ | ⟨s,rfl,rfl,rfl⟩ <;> first | rfl | trivial
      suffices hx : IsKey d x.key ∧ (b = true ↔ u = x.key) by
        obtain ⟨r',hr,hiff⟩:=sameNow_of_keys hu hx.1
        have : r' = b:=by
          have:=hiff.trans hx.2.symm
          cases r' <;> cases b <;> simp_all
        exact ⟨by rw [hr,this],fun e=>(hx.2.1 e).symm⟩
      generalize e.k = y at h1 hb
      generalize x.key = z at h1
      rcases hk with ⟨q,n,rfl,rfl,rfl⟩ | ⟨s,rfl,rfl,rfl⟩
      · cases y <;> simp only [keyEq] at hb <;> try (cases hb; done)
        next k2 b1 =>
        cases hq : kEq q k2 with
        | false=>rw [hq] at hb; cases hb
        | true =>
          rw [hq,cond_true] at hb
          injection hb with hb
          obtain rfl:=kEq_ok hq
          cases h1
          refine ⟨rfl,?_⟩
          rw [← hb,ieq_ok,beq_iff_eq]
          exact ⟨fun e=>by rw [e],fun e=>by injection e⟩
      · cases y <;> simp only [keyEq] at hb <;> try (cases hb; done)
        next b1 =>
        injection hb with hb
        obtain ⟨bs,hbs,hz⟩ : ∃ bs : ByteArray,b1 = bs.data.toList.map UInt8.toNat ∧ z = .string bs:=by cases h1 with | str b=>exact ⟨b,rfl,rfl⟩
        subst hbs hz
        refine ⟨trivial,?_⟩
        rw [← hb,str_eq,beq_iff_eq,ByteArray.toList_eq,ByteArray.toList_eq]
        refine ⟨fun e=>?_,fun e=>by injection e with e; rw [e]⟩
        have : s = bs:=by cases s; cases bs; congr; exact Array.toList_inj.1 e
        rw [this]
    split at h
    · next hb =>
      injection h with h
      obtain ⟨g1,g2⟩:=hs _ hb
      refine .inr ⟨i,e.v,x,e,h.symm,by simp only [Instr.findNow,g1],Nat.le_refl _,by simp,by simp,rfl,h2,g2 rfl⟩
    · next hb =>
      obtain ⟨g1,_⟩:=hs _ hb
      rcases ih (i + 1) h with ⟨g2,g3⟩ | ⟨j,v,x',e',g2,g3,g4,g5,g6,g7⟩
      · exact .inl ⟨g2,by simp only [Instr.findNow,g1,g3]⟩
      · refine .inr ⟨j,v,x',e',g2,by simp only [Instr.findNow,g1,g3],by omega,?_,?_,g7⟩
        · rw [show j - i = (j - (i + 1)) + 1 by omega]; simpa using g5
        · rw [show j - i = (j - (i + 1)) + 1 by omega]; simpa using g6
    · cases h
theorem lookE_ok {kt : TypeId} {k : AV} {u : Value} {es : List Ent} {xs : List MapEntry} {r : Option (Nat × AV)} (h : lookE P kt k es = some r) (hv : VR m k u) (he : EntR m es xs) :
    ∃ q d,P.underlying kt = some d ∧ (∀ w,(Instr.keyThatStays u u).run P w = .ok u w) ∧ (∀ w,(Instr.findKey kt u xs).run P w = .ok q w) ∧ (∀ w b,(Instr.checkKey b 10000 kt u).run P w = .ok () w) ∧
    ((r = none ∧ q = none) ∨ ∃ j v x e,r = some (j,v) ∧ q = some (j,x.val) ∧ xs[j]? = some x ∧ es[j]? = some e ∧ e.v = v ∧ VR m v x.val ∧ x.key = u):=by
  unfold lookE at h
  cases hk : keyA P kt k with
  | false=>rw [hk] at h; cases h
  | true =>
    rw [hk,cond_true] at h
    rcases keyA_ok hk hv with ⟨d,hd,hi,hc⟩ | ⟨e,q,i,a,b,ha⟩
    · rcases findE_ok hc he 0 h with ⟨h1,h2⟩ | ⟨j,v,x,e,h1,h2,_,h3,h4,h5,h6,h7⟩
      · exact ⟨none,d,hd,fun w=>run_keyThatStays hi,fun w=>run_findKey hd h2,fun w b=>run_checkKey hd hi b 9999,.inl ⟨h1,rfl⟩⟩
      · exact ⟨_,d,hd,fun w=>run_keyThatStays hi,fun w=>run_findKey hd h2,fun w b=>run_checkKey hd hi b 9999,.inr ⟨j,v,x,e,h1,rfl,by simpa using h3,by simpa using h4,h5,h6,h7⟩⟩
    · have hst : ∀ w,(Instr.keyThatStays u u).run P w = .ok u w:=fun w=>by rw [ha.hu]; exact stays_arr2 _ _ _
      have hch : ∀ w b,(Instr.checkKey b 10000 kt u).run P w = .ok () w:=fun w b=>by rw [ha.hu]; exact check_arr2 ha.hkt ha.he ha.hi ha.hs _ _ _
      rcases findArr_ok ha he 0 h with ⟨h1,h2⟩ | ⟨j,v,x,e',h1,h2,_,h3,h4,h5,h6,h7⟩
      · exact ⟨none,_,ha.hkt,hst,fun w=>by rw [findKey_arr ha.hkt]; exact h2 w,hch,.inl ⟨h1,rfl⟩⟩
      · exact ⟨_,_,ha.hkt,hst,fun w=>by rw [findKey_arr ha.hkt]; exact h2 w,hch,.inr ⟨j,v,x,e',h1,rfl,by simpa using h3,by simpa using h4,h5,h6,h7⟩⟩
theorem EntR.len : ∀ {l : List Ent} {k : List MapEntry},EntR m l k → l.length = k.length
  | _,_,.nil=>rfl
  | _,_,.cons _ _ _ d=>by simp [d.len]
theorem EntR.find (b : Nat) : ∀ {l : List Ent} {k : List MapEntry},EntR m l k → ∀ {e : Ent},l.find? (fun e=>Nat.beq e.born b) = some e → ∃ x,k.find? (·.born == b) = some x ∧ VR m e.k x.key ∧ VR m e.v x.val
  | _,_,.nil,e,h=>by simp at h
  | _,_,.cons (e:=e') (x:=x') h1 h2 h3 h4,e,h=>by
    rw [List.find?_cons] at h
    by_cases hb : e'.born = b
    · rw [nbeq_t hb] at h
      injection h with h; subst h
      exact ⟨x',by rw [List.find?_cons,← h3,hb]; simp,h1,h2⟩
    · rw [nbeq_f hb] at h
      obtain ⟨x,g1,g2⟩:=h4.find b h
      refine ⟨x,?_,g2⟩
      have : (x'.born == b) = false:=by rw [beq_eq_false_iff_ne,← h3]; exact hb
      rw [List.find?_cons,this]
      exact g1
theorem HR.mp (hr : HR tb N m h w) {a : Pos} {es : List Ent} {cl : Nat} (hg : h.get a = some (.mp es cl)) : ∃ i sz xs,m a = some (i,sz) ∧ w.heap[i]? = some (.map xs cl) ∧ EntR m es xs.toList:=by
  obtain ⟨i,sz,o,h1,h2,h3⟩:=hr.blk _ _ hg
  cases h3 with
  | mp a=>exact ⟨i,sz,_,h1,h2,a⟩
set_option maxHeartbeats 4000000 in
theorem read_ok (hr : HR tb N m h w) {o : Oper} {lk : Operand → AV} {ρ : Operand → Value} {v : AV} (hv : readF P o.op lk h = some v) (hl : ∀ x,VR m (lk x) (ρ x)) : ∃ u,(execOp ρ o).run P w = .ok (.value u) w ∧ VR m v u:=by
  unfold execOp
  generalize o.op = op at hv ⊢
  cases op <;> simp only [readF] at hv <;> (try (cases hv; done)) <;> dsimp only
  case load t a =>
    have ha:=hl a
    generalize ρ a = u at ha ⊢
    split at hv <;> try (cases hv; done)
    next b p he =>
    rw [he] at ha
    cases ha with | ptr _ hm =>
    split at hv <;> try (cases hv; done)
    · next hag =>
      split at hv <;> try (cases hv; done)
      next i hi =>
      split at hv <;> try (cases hv; done)
      next l hld =>
      injection hv with hv; subst hv
      obtain ⟨us,h1,h2,h3⟩:=load_ok (P:=P) hr hld hm
      refine ⟨.agg us.toArray,exec_value ?_,.agg h2⟩
      simp only [Instr.loadAt,Instr.sureAddr,loadVar,Sem.run_bind,Sem.run_pure,Result.andThen_ok,aggT_ok hag,if_true,run_sizeOf' hi,h3]
    · next hag =>
      obtain ⟨u,h1,h2⟩:=load1_ok (P:=P) hr hv hm
      refine ⟨u,exec_value ?_,h1⟩
      simp only [Instr.loadAt,Instr.sureAddr,loadVar,Sem.run_bind,Sem.run_pure,Result.andThen_ok,aggT_ok hag,Bool.false_eq_true,if_false]
      exact h2
  case slice t x lo hi mx =>
    cases mx with
    | some mx=>cases hv
    | none =>
      have hx:=hl x
      have hlo:=opt_rel hl lo
      have hhi:=opt_rel hl hi
      generalize ρ x = u at hx ⊢
      dsimp only at hv
      split at hv <;> try (cases hv; done)
      next n e a p ht he =>
      rw [he] at hx
      cases hx with | ptr _ hm =>
      split at hv <;> try (cases hv; done)
      next f hf =>
      split at hv <;> try (cases hv; done)
      next ro k c hg =>
      cases hb : Nat.ble (Nat.add p (Nat.mul n f.size)) k && Nat.ble n 9223372036854775807 && Nat.blt 0 f.size with
      | false=>rw [hb] at hv; cases hv
      | true =>
        rw [hb,cond_true] at hv
        simp only [Bool.and_eq_true] at hb
        have b1 : p + n * f.size ≤ k:=ble_le hb.1.1
        have b2:=ble_le hb.1.2
        obtain ⟨i',sz',cs,t',fz,h1,h2,h3,h4,h5,_⟩:=hr.cells hg
        rw [hm] at h1; injection h1 with h1; injection h1 with e1 e2; subst e1 e2
        obtain ⟨r,g1,g2⟩:=sliceA_arr hm hv ht hf (by omega) b2 hlo hhi
        exact ⟨r,exec_value g1,g2⟩
  case lookup t x ix ok =>
    have hx:=hl x
    have hi:=hl ix
    generalize ρ x = u at hx ⊢
    generalize ρ ix = ui at hi ⊢
    split at hv <;> try (cases hv; done)
    next kt e ht =>
    split at hv <;> try (cases hv; done)
    next z hz =>
    obtain ⟨_,zv,_,_,hzr,hzrun⟩:=zeroA_ok (m:=m) hz
    split at hv <;> try (cases hv; done)
    · next he =>
      rw [he] at hx
      cases hx
      split at hv <;> try (cases hv; done)
      next r hlk =>
      injection hv with hv; subst hv
      obtain ⟨q,d,_,_,h1,h2,h3⟩:=lookE_ok (P:=P) hlk hi (.nil)
      have hq : q = none:=by
        rcases h3 with ⟨_,e⟩ | ⟨j,v,x,e,_,_,e,_⟩
        · exact e
        · simp at e
      subst hq
      cases ok with
      | true =>
        refine ⟨.tuple #[zv,.bool false],exec_value ?_,.tup (.cons hzr (.cons (.bool _) .nil))⟩
        simp only [Instr.lookup,Sem.run_bind,run_underlying ht,Result.andThen_ok,Sem.run_pure,h2,h1,hzrun,if_true]
      | false =>
        refine ⟨zv,exec_value ?_,hzr⟩
        simp only [Instr.lookup,Sem.run_bind,run_underlying ht,Result.andThen_ok,Sem.run_pure,h2,h1,hzrun,Bool.false_eq_true,if_false]
    · next a he =>
      rw [he] at hx
      cases hx with | map hm =>
      split at hv <;> try (cases hv; done)
      next es cl hg =>
      obtain ⟨i,sz,xs,g1,g2,g3⟩:=hr.mp hg
      rw [hm] at g1; injection g1 with g1; injection g1 with g1 _; subst g1
      split at hv <;> try (cases hv; done)
      · next j v' hlk =>
        injection hv with hv
        obtain ⟨q,d,_,_,h1,h2,h3⟩:=lookE_ok (P:=P) hlk hi g3
        obtain ⟨j',v2,x2,e2,q1,q2,_,_,_,q3,_⟩ : ∃ j' v2 x2 e2,some (j,v') = some (j',v2) ∧ q = some (j',x2.val) ∧ xs.toList[j']? = some x2 ∧ es[j']? = some e2 ∧ e2.v = v2 ∧ VR m v2 x2.val ∧ x2.key = ui:=by
          rcases h3 with ⟨e,_⟩ | h3
          · cases e
          · exact h3
        injection q1 with q1; injection q1 with q1 q1'; subst q1 q1' q2
        cases ok with
        | true =>
          subst hv
          refine ⟨.tuple #[x2.val,.bool true],exec_value ?_,.tup (.cons q3 (.cons (.bool _) .nil))⟩
          simp only [Instr.lookup,Sem.run_bind,run_underlying ht,Result.andThen_ok,Go.MapKept.run_getObj_map g2,Sem.run_pure,h2,h1,if_true]
        | false =>
          subst hv
          refine ⟨x2.val,exec_value ?_,q3⟩
          simp only [Instr.lookup,Sem.run_bind,run_underlying ht,Result.andThen_ok,Go.MapKept.run_getObj_map g2,Sem.run_pure,h2,h1,Bool.false_eq_true,if_false]
      · next hlk =>
        injection hv with hv
        obtain ⟨q,d,_,_,h1,h2,h3⟩:=lookE_ok (P:=P) hlk hi g3
        have hq : q = none:=by
          rcases h3 with ⟨_,e⟩ | ⟨j,v,x,e,e',_⟩
          · exact e
          · cases e'
        subst hq
        cases ok with
        | true =>
          subst hv
          refine ⟨.tuple #[zv,.bool false],exec_value ?_,.tup (.cons hzr (.cons (.bool _) .nil))⟩
          simp only [Instr.lookup,Sem.run_bind,run_underlying ht,Result.andThen_ok,Go.MapKept.run_getObj_map g2,Sem.run_pure,h2,h1,hzrun,if_true]
        | false =>
          subst hv
          refine ⟨zv,exec_value ?_,hzr⟩
          simp only [Instr.lookup,Sem.run_bind,run_underlying ht,Result.andThen_ok,Go.MapKept.run_getObj_map g2,Sem.run_pure,h2,h1,hzrun,Bool.false_eq_true,if_false]
  case entry i =>
    have hi:=hl i
    generalize ρ i = u at hi ⊢
    split at hv <;> try (cases hv; done)
    next r he =>
    rw [he] at hi
    cases hi with | ptr _ hm =>
    split at hv <;> try (cases hv; done)
    next a since seen st hg =>
    split at hv <;> try (cases hv; done)
    next b es cl hs hgm =>
    cases hb : Nat.beq cl st with
    | false=>rw [hb] at hv; cases hv
    | true =>
      rw [hb,cond_true] at hv
      split at hv <;> try (cases hv; done)
      next e hf =>
      injection hv with hv; subst hv
      obtain ⟨i1,s1,o1,g1,g2,g3⟩:=hr.blk _ _ hg
      rw [hm] at g1; injection g1 with g1; injection g1 with g1 _; subst g1
      cases g3 with
      | it hma =>
      obtain ⟨i2,s2,xs,g4,g5,g6⟩:=hr.mp hgm
      rw [hma] at g4; injection g4 with g4; injection g4 with g4 _; subst g4
      obtain ⟨x,g7,g8,g9⟩:=g6.find b hf
      have ecl:=Nat.eq_of_beq_eq_true hb
      refine ⟨.tuple #[x.key,x.val],exec_value ?_,.tup (.cons g8 (.cons g9 .nil))⟩
      have hgo : ∀ {q : Nat} {o : Obj},w.heap[q]? = some o → (∀ cs t fz,o ≠ .cells cs t fz) → (getObj q).run P w = .ok o w:=by
        intro q o ho hn
        unfold getObj
        cases o <;> first | (exact absurd rfl (hn _ _ _)) | simp only [Sem.run,ho]
      have hsb : seen.toArray.back? = some b:=by rw [List.back?_toArray]; exact hs
      have hfx : xs.find? (fun x=>x.born == b) = some x:=by rw [← Array.find?_toList]; exact g7
      have hne : (cl != st) = false:=by rw [ecl]; simp
      unfold Instr.entry
      simp only [Sem.run_bind,hgo g2 (by simp),hgo g5 (by simp),Result.andThen_ok,hsb,hne,Bool.false_eq_true,if_false,hfx,Sem.run_pure]
  case call c =>
    obtain ⟨callee,args,ts⟩:=c
    cases callee <;> (try dsimp only at hv) <;> try (cases hv; done)
    next b =>
    cases b <;> (try dsimp only at hv) <;> try (cases hv; done)
    split at hv <;> try (cases hv; done)
    next t x ht hx0 =>
    have hx:=hl x
    have ha : (args.map ρ)[0]? = some (ρ x):=by simp [hx0]
    have go : ∀ (s : Sem Value) (r : Value),(∀ cs,builtin .len ts o.type cs (args.map ρ) = (do pure (Next.value (← s)))) → s.run P w = .ok r w → (do let d ← resolve ρ { callee:=.builtin .len,args:=args,argTypes:=ts } o.type; invoke d.target d.args : Sem Next).run P w = .ok (.value r) w:=by
      intro s r h1 h2
      simp only [resolve,Sem.run_bind,Sem.run_pure,Result.andThen_ok,invoke]
      rw [h1]
      exact exec_value h2
    generalize ρ x = u at hx ha
    split at hv <;> try (cases hv; done)
    · next hu he =>
      injection hv with hv; subst hv
      rw [he] at hx
      cases hx
      refine ⟨_,go _ _ (fun _=>rfl) ?_,.int _ _⟩
      simp only [Builtin.len_,ht,ha,Sem.run_bind,run_underlying hu,Result.andThen_ok,Sem.run_pure]
      rfl
    · next a hu he =>
      split at hv <;> try (cases hv; done)
      next es cl hg =>
      injection hv with hv; subst hv
      rw [he] at hx
      cases hx with | map hm =>
      obtain ⟨i2,s2,xs,g4,g5,g6⟩:=hr.mp hg
      rw [hm] at g4; injection g4 with g4; injection g4 with g4 _; subst g4
      have hlen : es.length = xs.size:=by rw [g6.len]; simp
      refine ⟨goInt xs.size,go _ _ (fun _=>rfl) ?_,by rw [hlen]; exact .int _ _⟩
      simp only [Builtin.len_,ht,ha,Sem.run_bind,run_underlying hu,Result.andThen_ok,Go.MapKept.run_getObj_map g5,Sem.run_pure]
end
end Am
end Go.Proofs.YtadbcnekkceoaaaGreatDoor
namespace Go.Proofs.YtadbcnekkceoaaaGreatDoor
namespace Am
def repL (zs : List AV) : Nat → List AV | 0=>[] | n + 1=>zs ++ repL zs n
def AB.ofM (t : Nat) (l : List AV) : AB:=.cells false l.length (T.set mkP (some (.tyv t)) (T.layN .leaf 0 l))
theorem at_mk {α : Type} {c : T α} {x : Option α} {j : Nat} (h : j < 4094) : T.at (T.set mkP x c) j = c.at j:=T.get_set_ne _ _ _ _ fun e=>by
  have:=congrArg Pos.nat e
  rw [Pos.of_nat] at this
  have h2 : mkP.nat = 4095:=rfl
  omega
def hasB (P : Program) (t : TypeId) : Bool:=match P.underlying t with
  | some (.struct fs)=>fs.toList.any (fun f=>match P.underlying f.type with | some (.struct gs)=>(match gs.toList with | g :: _=>g.name == "addr" | []=>false) | _=>false)
  | _=>false
def allocF (P : Program) (op : Op) (lk : Operand → AV) (a : Pos) : Option (AV × AB) :=
  match op with
  | .alloc t=>match zeroA P t with
    | some z=>(match cellsA z with | some cs=>some (.ptr a 0,AB.ofL cs) | none=>none)
    | none=>none
  | .box t x=>match cellsA (lk x) with | some cs=>bif hasB P t then (bif Nat.ble cs.length 4094 then some (.ptr a 0,AB.ofM t cs) else none) else some (.ptr a 0,AB.ofL cs) | none=>none
  | .buildSlice t n ps=>match P.underlying t with
    | some (.slice e)=>match P.info? e,zeroA P e with
      | some i,some z=>match cellsA z with
        | some zs=>bif Nat.beq zs.length i.size && Nat.blt 0 i.size && Nat.ble (Nat.mul n i.size) 16777216 then (match fillA (fun j=>some (j * i.size,i.size)) (repL zs n) (lksA lk ps) with | some r=>some (.slc a 0 n i.size,AB.ofL r) | none=>none) else none
        | none=>none
      | _,_=>none
    | _=>none
  | .makeMap _ none=>some (.map a,.mp [] 0)
  | .makeSlice t l c=>match P.underlying t with
    | some (.slice e)=>match P.info? e,zeroA P e,natA (lk l),natA (lk c) with
      | some i,some z,some n,some k=>match cellsA z with
        | some zs=>bif Nat.beq zs.length i.size && Nat.blt 0 i.size && Nat.ble n k && Nat.ble k 1000000000 && Nat.ble i.bytes 1000 then some (.slc a 0 n i.size,AB.ofL (repL zs n)) else none
        | none=>none
      | _,_,_,_=>none
    | _=>none
  | _=>none
theorem repL_get (zs : List AV) : ∀ n,(repL zs n).length = n * zs.length ∧ ∀ j,j < n * zs.length → (repL zs n)[j]? = zs[j % zs.length]?
  | 0=>⟨by simp [repL],fun j hj=>by simp at hj⟩
  | n + 1=>by
    obtain ⟨h1,h2⟩:=repL_get zs n
    have e : (n + 1) * zs.length = zs.length + n * zs.length:=by rw [Nat.add_mul]; omega
    refine ⟨by simp only [repL,List.length_append,h1]; omega,fun j hj=>?_⟩
    simp only [repL]
    by_cases hlt : j < zs.length
    · rw [List.getElem?_append_left hlt,Nat.mod_eq_of_lt hlt]
    · rw [List.getElem?_append_right (by omega),h2 _ (by omega)]
      congr 1
      conv=>rhs; rw [show j = (j - zs.length) + zs.length by omega,Nat.add_mod_right]
theorem ovl_len : ∀ (l cells : List AV) (off : Nat),(ovl cells off l).length = cells.length
  | [],_,_=>rfl
  | v :: l,cells,off=>by simp only [ovl]; rw [ovl_len l]; simp
theorem fillA_len {place : Nat → Option (Nat × Nat)} : ∀ {l : List (Nat × AV)} {cells r : List AV},fillA place cells l = some r → r.length = cells.length
  | [],cells,r,h=>by injection h with h; rw [h]
  | (i,v) :: l,cells,r,h=>by
    simp only [fillA] at h
    split at h
    · next off size cs hp hc =>
      cases hb : Nat.beq cs.length size && Nat.ble (Nat.add off cs.length) cells.length with
      | false=>rw [hb] at h; cases h
      | true =>
        rw [hb,cond_true] at h
        rw [fillA_len h,ovl_len]
    · cases h
section
variable {P : Program} {m : Mp} {w : World} {tb : Tb} {N : Nat → Nat} {h : H}
theorem mk_lay {l : List AV} {us : List Value} (hl : VRs m l us) {c : T AV} {o : Nat} {t : TypeId} (hc : ∀ q,T.get mkP c = some (.tyv q) → t = q) : ∀ q,T.get mkP (c.layN o l) = some (.tyv q) → t = q:=fun q hq=>by
  rw [← mkP_at,T.at_layN] at hq
  split at hq
  · obtain ⟨u,_,h2⟩:=hl.get hq
    cases h2
  · rw [mkP_at] at hq; exact hc q hq
theorem mk_new {l : List AV} {us : List Value} (hl : VRs m l us) {o : Nat} {t : TypeId} : ∀ q,T.get mkP ((T.leaf : T AV).layN o l) = some (.tyv q) → t = q:=mk_lay hl fun q hq=>by rw [T.get_leaf] at hq; cases hq
theorem BR.ofL {l : List AV} {cs : Array Value} (hl : VRs m l cs.toList) (t : TypeId) : BR tb N m (AB.ofL l) (.cells cs t (0,0)) cs.size:=by
  have hlen : l.length = cs.size:=by rw [hl.len]; simp
  refine .cells rfl (Nat.le_of_eq hlen) (fun j hj=>?_) (fun _=>rfl) (mk_new hl)
  obtain ⟨u,h1,h2⟩:=hl.get (List.getElem?_eq_getElem hj)
  refine ⟨l[j],u,?_,by simpa using h1,h2⟩
  rw [T.at_layN,if_pos ⟨Nat.zero_le j,by omega⟩,Nat.sub_zero,List.getElem?_eq_getElem hj]
theorem repL_ok {zs : List AV} {zv : Array Value} (hz : VRs m zs zv.toList) (n : Nat) : VRs m (repL zs n) ((Array.range (n * zv.size)).map (fun j=>zv[j % zv.size]!)).toList:=by
  have hlen : zs.length = zv.size:=by rw [hz.len]; simp
  obtain ⟨h1,h2⟩:=repL_get zs n
  refine VRs.of_get (by rw [h1,hlen]; simp) fun j x hx=>?_
  have hj : j < n * zs.length:=by have:=(List.getElem?_eq_some_iff.1 hx).1; omega
  have hz0 : 0 < zs.length:=by
    rcases Nat.eq_zero_or_pos zs.length with e | e
    · rw [e] at hj; omega
    · exact e
  rw [h2 j hj] at hx
  obtain ⟨u,h3,h4⟩:=hz.get hx
  refine ⟨u,?_,h4⟩
  rw [hlen] at hj h3
  have hlt : j % zv.size < zv.size:=Nat.mod_lt _ (by omega)
  have h3' : zv[j % zv.size]? = some u:=by simpa using h3
  rw [Array.getElem?_eq_getElem hlt] at h3'
  injection h3' with h3'
  simp [hj,getElem!_pos zv (j % zv.size) hlt,h3']
theorem BR.ofM {l : List AV} {cs : Array Value} (hl : VRs m l cs.toList) (t : TypeId) (h : l.length ≤ 4094) : BR tb N m (AB.ofM t l) (.cells cs t (0,0)) cs.size:=by
  have hlen : l.length = cs.size:=by rw [hl.len]; simp
  refine .cells rfl (Nat.le_of_eq hlen) (fun j hj=>?_) (fun _=>rfl) (fun q hq=>?_)
  · obtain ⟨u,h1,h2⟩:=hl.get (List.getElem?_eq_getElem hj)
    refine ⟨l[j],u,?_,by simpa using h1,h2⟩
    rw [at_mk (by omega),T.at_layN,if_pos ⟨Nat.zero_le j,by omega⟩,Nat.sub_zero,List.getElem?_eq_getElem hj]
  · rw [T.get_set_same] at hq
    injection hq with hq; injection hq
def AllocOk (tb : Tb) (N : Nat → Nat) (m : Mp) (w : World) (a : Pos) (v : AV) (b : AB) (r : Result Next) : Prop :=
  ∃ u o sz,r = .ok (.value u) (nw w o) ∧ b.ro = false ∧ ∀ m',m.le m' → m' a = some (w.heap.size,sz) → VR m' v u ∧ BR tb N m' b o sz
set_option maxHeartbeats 4000000 in
theorem alloc_ok {o : Oper} {lk : Operand → AV} {ρ : Operand → Value} {a : Pos} {v : AV} {b : AB} (hv : allocF P o.op lk a = some (v,b)) (hl : ∀ x,VR m (lk x) (ρ x)) : AllocOk tb N m w a v b ((execOp ρ o).run P w):=by
  unfold execOp
  generalize o.op = op at hv ⊢
  cases op <;> simp only [allocF] at hv <;> (try (cases hv; done)) <;> dsimp only
  case alloc t =>
    split at hv <;> try (cases hv; done)
    next z hz =>
    split at hv <;> try (cases hv; done)
    next cs hcs =>
    injection hv with hv; injection hv with e1 e2; subst e1 e2
    obtain ⟨_,zv,_,_,hzr,hzrun⟩:=zeroA_ok (m:=m) hz
    have hc:=cellsA_ok hzr hcs
    refine ⟨_,.cells zv.cells t,zv.cells.size,exec_value ?_,rfl,fun m' hm ha=>⟨.ptr 0 ha,.ofL (hc.mono hm) t⟩⟩
    simp only [Instr.alloc,Sem.run_bind,hzrun,Result.andThen_ok,newVar,newRow,run_newObj,Sem.run_pure]
    rfl
  case box t x =>
    split at hv <;> try (cases hv; done)
    next cs hcs =>
    have hc:=cellsA_ok (hl x) hcs
    cases hB : hasB P t with
    | true =>
      rw [hB,cond_true] at hv
      cases hb : Nat.ble cs.length 4094 with
      | false=>rw [hb] at hv; cases hv
      | true =>
        rw [hb,cond_true] at hv
        injection hv with hv; injection hv with e1 e2; subst e1 e2
        refine ⟨_,.cells (ρ x).cells t,(ρ x).cells.size,exec_value ?_,rfl,fun m' hm ha=>⟨.ptr 0 ha,.ofM (hc.mono hm) t (ble_le hb)⟩⟩
        simp only [Instr.box,Sem.run_bind,Result.andThen_ok,newVar,newRow,run_newObj,Sem.run_pure]
        rfl
    | false =>
    rw [hB,cond_false] at hv
    injection hv with hv; injection hv with e1 e2; subst e1 e2
    refine ⟨_,.cells (ρ x).cells t,(ρ x).cells.size,exec_value ?_,rfl,fun m' hm ha=>⟨.ptr 0 ha,.ofL (hc.mono hm) t⟩⟩
    simp only [Instr.box,Sem.run_bind,Result.andThen_ok,newVar,newRow,run_newObj,Sem.run_pure]
    rfl
  case buildSlice t n ps =>
    split at hv <;> try (cases hv; done)
    next e ht =>
    split at hv <;> try (cases hv; done)
    next i z hi hz =>
    split at hv <;> try (cases hv; done)
    next zs hzs =>
    cases hb : Nat.beq zs.length i.size && Nat.blt 0 i.size && Nat.ble (Nat.mul n i.size) 16777216 with
    | false=>rw [hb] at hv; cases hv
    | true =>
      rw [hb,cond_true] at hv
      simp only [Bool.and_eq_true] at hb
      split at hv <;> try (cases hv; done)
      next r hr =>
      injection hv with hv; injection hv with e1 e2; subst e1 e2
      have b1:=Nat.eq_of_beq_eq_true hb.1.1
      have b2:=blt_lt hb.1.2
      have b3 : n * i.size ≤ 16777216:=ble_le hb.2
      obtain ⟨_,zv,_,_,hzr,hzrun⟩:=zeroA_ok (m:=m) hz
      have hc:=cellsA_ok hzr hzs
      have hzl : zv.cells.size = i.size:=by have:=hc.len; simp at this; omega
      have hrep:=repL_ok hc n
      rw [hzl] at hrep
      obtain ⟨rs,h1,h2⟩:=fillA_ok (lksA_ok hl ps) hrep hr
      have hrl : r.length = n * i.size:=by rw [fillA_len hr,(repL_get zs n).1,b1]
      have hrs : rs.size = n * i.size:=by have:=h2.len; simp at this; omega
      refine ⟨_,.cells rs e,rs.size,exec_value ?_,rfl,fun m' hm ha=>⟨.slc ha (Nat.le_refl n) (by omega) ?_,.ofL (h2.mono hm) e⟩⟩
      · have c1 : ¬ n * i.size > 2 ^ 24:=by omega
        unfold Instr.buildSlice
        simp only [Sem.run_bind,run_underlying ht,Result.andThen_ok,run_sizeOf' hi,if_neg c1]
        have h1' : Instr.fill (fun j=>some (j * i.size,i.size)) (Array.map (fun j=>zv.cells[j % i.size]!) (Array.range (n * i.size))) (Array.map (fun x : Nat × Operand=>(x.fst,ρ x.snd)) ps).toList = some rs:=h1
        by_cases h0 : n * i.size = 0
        · rw [if_pos h0]
          have e0 : ∀ f : Nat → Value,Array.map f (Array.range (n * i.size)) = #[]:=fun f=>by rw [h0]; simp
          rw [e0] at h1'
          simp only [Sem.run_bind,Sem.run_pure,Result.andThen_ok,e0,h1',newRow,run_newObj]
          rfl
        · rw [if_neg h0]
          simp only [Sem.run_bind,hzrun,Result.andThen_ok,Sem.run_pure,hzl,h1',newRow,run_newObj]
          rfl
      · have : n ≤ n * i.size:=Nat.le_mul_of_pos_right n b2
        omega
  case makeMap t r =>
    cases r <;> dsimp only at hv <;> try (cases hv; done)
    injection hv with hv; injection hv with e1 e2; subst e1 e2
    refine ⟨_,.map #[] 0,0,exec_value ?_,rfl,fun m' hm ha=>⟨.map ha,.mp .nil⟩⟩
    rfl
  case makeSlice t l c =>
    have hL:=hl l
    have hC:=hl c
    generalize ρ l = ul at hL ⊢
    generalize ρ c = uc at hC ⊢
    split at hv <;> try (cases hv; done)
    next e ht =>
    split at hv <;> try (cases hv; done)
    next i z n k hi hz hn hk =>
    split at hv <;> try (cases hv; done)
    next zs hzs =>
    cases hb : Nat.beq zs.length i.size && Nat.blt 0 i.size && Nat.ble n k && Nat.ble k 1000000000 && Nat.ble i.bytes 1000 with
    | false=>rw [hb] at hv; cases hv
    | true =>
      rw [hb,cond_true] at hv
      simp only [Bool.and_eq_true] at hb
      injection hv with hv; injection hv with e1 e2; subst e1 e2
      have b1:=Nat.eq_of_beq_eq_true hb.1.1.1.1
      have b2:=blt_lt hb.1.1.1.2
      have b3:=ble_le hb.1.1.2
      have b4:=ble_le hb.1.2
      have b5:=ble_le hb.2
      obtain ⟨_,_,rfl⟩:=natA_ok hL hn
      obtain ⟨_,_,rfl⟩:=natA_ok hC hk
      obtain ⟨_,zv,_,_,hzr,hzrun⟩:=zeroA_ok (m:=m) hz
      have hc:=cellsA_ok hzr hzs
      have hzl : zv.cells.size = i.size:=by have:=hc.len; simp at this; omega
      have hrep:=repL_ok hc k
      have hrepn:=repL_ok hc n
      rw [hzl] at hrep hrepn
      have hbk : i.bytes * k ≤ 1000 * 1000000000:=Nat.mul_le_mul b5 b4
      have hbn : i.bytes * n ≤ 1000 * 1000000000:=Nat.mul_le_mul b5 (by omega)
      have w1 : IntKind.i64.wrap (n : Int) = n:=Go.IntWalk.i64_in _ (by omega)
      have w2 : IntKind.i64.wrap (k : Int) = k:=Go.IntWalk.i64_in _ (by omega)
      have hinfo : (typeInfo e).run P w = .ok i w:=by simp only [typeInfo,Sem.run_bind,run_program,Result.andThen_ok,hi,Sem.run_pure]
      refine ⟨_,.cells ((Array.range (k * i.size)).map (fun j=>zv.cells[j % i.size]!)) e,k * i.size,exec_value ?_,rfl,fun m' hm ha=>⟨.slc ha b3 (by omega) (by omega),?_⟩⟩
      · have c0 : (i.bytes : Int) * (k : Int) ≤ 2 ^ 48:=by
          have : (i.bytes : Int) * (k : Int) = ((i.bytes * k : Nat) : Int):=by simp
          rw [this]
          omega
        have c1 : (decide ((k : Int) < 0) || decide ((i.bytes : Int) * (k : Int) > 2 ^ 48)) = false:=by
          simp only [Bool.or_eq_false_iff,decide_eq_false_iff_not]
          omega
        have c2 : (decide ((n : Int) < 0)) = false:=by simp only [decide_eq_false_iff_not]; omega
        have c3 : (decide ((n : Int) > (k : Int))) = false:=by simp only [decide_eq_false_iff_not]; omega
        unfold Instr.makeSlice
        simp only [Sem.run_bind,run_underlying ht,Result.andThen_ok,asInt,asIntOf,Sem.run_pure,hinfo,w1,w2,c1,c2,c3,Bool.or_self,Bool.false_eq_true,if_false,run_askRoom,run_sizeOf' hi,Int.toNat_natCast]
        by_cases h0 : k * i.size = 0
        · rw [if_pos h0]
          have e0 : ∀ f : Nat → Value,Array.map f (Array.range (k * i.size)) = #[]:=fun f=>by rw [h0]; simp
          simp only [Sem.run_bind,Sem.run_pure,Result.andThen_ok,e0,newRow,run_newObj]
          rfl
        · rw [if_neg h0]
          simp only [Sem.run_bind,hzrun,Result.andThen_ok,Sem.run_pure,hzl,newRow,run_newObj]
          rfl
      · have hnk : n * i.size ≤ k * i.size:=Nat.mul_le_mul_right _ b3
        have hln : (repL zs n).length = n * i.size:=by rw [(repL_get zs n).1,b1]
        refine .cells (by simp) (by rw [hln]; exact hnk) (fun j hj=>?_) (fun _=>rfl) (mk_new hrepn)
        rw [hln] at hj
        have hx : (repL zs n)[j]? = some ((repL zs n)[j]'(by omega)):=List.getElem?_eq_getElem _
        obtain ⟨u,h1,h2⟩:=hrepn.get hx
        refine ⟨_,u,?_,?_,h2.mono hm⟩
        · rw [T.at_layN,if_pos ⟨Nat.zero_le j,by omega⟩,Nat.sub_zero]; exact hx
        · simp only [Array.toList_map,List.getElem?_map,Array.getElem?_map] at h1 ⊢
          rw [← h1]
          simp [hj,Nat.lt_of_lt_of_le hj hnk]
end
end Am
end Go.Proofs.YtadbcnekkceoaaaGreatDoor
namespace Go.Proofs.YtadbcnekkceoaaaGreatDoor
namespace Am
open Go.MapKept
def AV.one : AV → Bool | .junk=>false | .glb _ _ _=>false | .agg _=>false | .tup _=>false | _=>true
def ones : List AV → Bool | []=>true | v :: l=>bif v.one then ones l else false
theorem ones_ok {m : Mp} : ∀ {l : List AV} {k : List Value},VRs m l k → ones l = true → ∀ u ∈ k,u.oneCell' = true
  | _,_,.nil,_,u,hu=>by simp at hu
  | _,_,.cons (x:=x) (u:=u') a b,h,u,hu=>by
    simp only [ones] at h
    cases hx : x.one with
    | false=>rw [hx] at h; cases h
    | true =>
      rw [hx,cond_true] at h
      rcases List.mem_cons.1 hu with e | e
      · subst e; cases a <;> first | rfl | (cases hx)
      · exact ones_ok b h u e
def H.store (h : H) (a : Pos) (o : Nat) (l : List AV) : Option H :=
  match h.get a with
  | some (.cells false k c)=>bif Nat.ble (Nat.add o l.length) k && ones l then some (h.set a (.cells false k (c.layN o l))) else none
  | _=>none
theorem setRow_pw {w : World} {i : Nat} {cs cs' : Array Value} {t : TypeId} {fz : Nat × Nat} (h : w.heap[i]? = some (.cells cs t fz)) : w.setRow i cs' = pw w i (.cells cs' t fz):=by
  have hi : i < w.heap.size:=(Array.getElem?_eq_some_iff.1 h).1
  have hg : w.heap[i] = .cells cs t fz:=(Array.getElem?_eq_some_iff.1 h).2
  unfold World.setRow pw
  congr 1
  apply Array.ext_getElem?
  intro j
  rw [Array.getElem?_modify,Array.getElem?_setIfInBounds]
  by_cases e : i = j
  · subst e; rw [if_pos rfl,if_pos rfl,if_pos hi,h]; rfl
  · rw [if_neg e,if_neg e]
section
variable {P : Program} {m : Mp} {w : World} {tb : Tb} {N : Nat → Nat} {h : H}
theorem lay_cells {c : T AV} {cs : Array Value} {k o : Nat} {l : List AV} {vs : List Value} (hc : ∀ j,j < k → ∃ v u,c.at j = some v ∧ cs[j]? = some u ∧ VR m v u) (hk : k ≤ cs.size) (hl : VRs m l vs) (ho : o + l.length ≤ cs.size) (k' : Nat) (hk' : k' ≤ k ∨ (o ≤ k ∧ k' ≤ o + l.length)) :
    ((cs.toList.take o ++ vs ++ cs.toList.drop (o + vs.length)).toArray).size = cs.size ∧ ∀ j,j < k' → ∃ v u,(c.layN o l).at j = some v ∧ ((cs.toList.take o ++ vs ++ cs.toList.drop (o + vs.length)).toArray)[j]? = some u ∧ VR m v u:=by
  have hlen:=hl.len
  refine ⟨by simp; omega,fun j hj=>?_⟩
  rw [T.at_layN]
  by_cases hin : o ≤ j ∧ j < o + l.length
  · rw [if_pos hin]
    have hx : l[j - o]? = some (l[j - o]'(by omega)):=List.getElem?_eq_getElem _
    obtain ⟨u,h1,h2⟩:=hl.get hx
    refine ⟨_,u,hx,?_,h2⟩
    simp only [List.getElem?_toArray]
    rw [List.append_assoc,List.getElem?_append_right (by simp; omega),List.getElem?_append_left (by simp; omega)]
    have : (cs.toList.take o).length = o:=by simp; omega
    rw [this]
    exact h1
  · rw [if_neg hin]
    obtain ⟨v,u,h1,h2,h3⟩:=hc j (by omega)
    refine ⟨v,u,h1,?_,h3⟩
    simp only [List.getElem?_toArray]
    by_cases hlt : j < o
    · rw [List.append_assoc,List.getElem?_append_left (by simp; omega),List.getElem?_take_of_lt hlt]
      simpa using h2
    · rw [List.getElem?_append_right (by simp; omega),List.getElem?_drop]
      have e : o + vs.length + (j - (cs.toList.take o ++ vs).length) = j:=by simp; omega
      rw [e]
      simpa using h2
def HardOk (tb : Tb) (N : Nat → Nat) (B : Nat) (m : Mp) (h : H) (w : World) (a : Pos) (v : AV) (h' : H) (r : Result Next) : Prop :=
  ∃ m' w',((∃ u,r = .ok (.value u) w' ∧ VR m' v u) ∨ (r = .ok .skip w' ∧ v = .junk)) ∧ HR tb N m' h' w' ∧ Go B m h w m' h' w' ∧ ∀ b,b ≠ a → m' b = m b
theorem store_run (hr : HR tb N m h w) {a : Pos} {o : Nat} {l : List AV} {h' : H} (hs : h.store a o l = some h') {i sz : Nat} (ha : m a = some (i,sz)) {vs : List Value} (hl : VRs m l vs) (B : Nat) :
    ∃ w',(storeCells ⟨i,o,none⟩ vs).run P w = .ok () w' ∧ HR tb N m h' w' ∧ Go B m h w m h' w':=by
  unfold H.store at hs
  split at hs
  · next k c hg =>
    cases hb : Nat.ble (Nat.add o l.length) k && ones l with
    | false=>rw [hb] at hs; cases hs
    | true =>
      rw [hb,cond_true] at hs
      rw [Bool.and_eq_true] at hb
      have b1 : o + l.length ≤ k:=ble_le hb.1
      injection hs with hs; subst hs
      obtain ⟨i',sz',cs,t,fz,h1,h2,h3,h4,h5,h6,h7⟩:=hr.cells hg
      rw [h1] at ha; injection ha with ha; injection ha with e1 e2; subst e1 e2
      have hfz:=h6 rfl
      subst hfz
      have hlen:=hl.len
      have hrun:=run_storeCells_at (P:=P) i' o t vs 0 cs w h2 (by omega) (ones_ok hl hb.2)
      rw [Nat.add_zero] at hrun
      obtain ⟨g1,g2⟩:=lay_cells (cs:=cs) (o:=o) h5 (by omega) hl (by omega) k (.inl (Nat.le_refl k))
      refine ⟨_,hrun,?_⟩
      rw [setRow_pw h2]
      exact hr.turn hg rfl h1 (.cells (by rw [g1,h3]) h4 g2 (fun _=>rfl) (mk_lay hl h7)) rfl B
  · cases hs
theorem store_ok (hr : HR tb N m h w) {t : TypeId} {u x : Value} {p : AV} {v : AV} {b : Pos} {o : Nat} (hp : p = .ptr b o) (hu : VR m p u) (hx : VR m v x) {cs : List AV} (hcs : cellsA v = some cs) {i : TypeInfo} (hi : P.info? t = some i) (hsz : cs.length = i.size) {h' : H} (hs : h.store b o cs = some h') (B : Nat) :
    ∃ w',(Instr.storeAt t u x).run P w = .ok () w' ∧ HR tb N m h' w' ∧ Go B m h w m h' w':=by
  subst hp
  cases hu with | ptr _ hm =>
  have hc:=cellsA_ok hx hcs
  obtain ⟨w',h1,h2,h3⟩:=store_run (P:=P) hr hs hm hc B
  refine ⟨w',?_,h2,h3⟩
  have hl : ¬ x.cells.size ≠ i.size:=by have:=hc.len; simp at this; omega
  simp only [Instr.storeAt,Instr.sureAddr,storeVar,Sem.run_bind,Sem.run_pure,Result.andThen_ok,run_sizeOf' hi,if_neg hl]
  exact h1
theorem run_setObj_pw {i : Nat} {o : Obj} (ho : w.heap[i]? = some o) (hn : ∀ cs t fz,o ≠ .cells cs t fz) (o' : Obj) : (setObj i o').run P w = .ok () (pw w i o'):=by
  unfold setObj
  cases o <;> first | (exact absurd rfl (hn _ _ _)) | (simp only [Sem.run,ho]; rfl)
theorem run_getObj_ok {i : Nat} {o : Obj} (ho : w.heap[i]? = some o) (hn : ∀ cs t fz,o ≠ .cells cs t fz) : (getObj i).run P w = .ok o w:=by
  unfold getObj
  cases o <;> first | (exact absurd rfl (hn _ _ _)) | simp only [Sem.run,ho]
def modE (v : AV) : Nat → List Ent → List Ent
  | _,[]=>[]
  | 0,e :: l=>⟨e.k,v,e.born⟩ :: l
  | j + 1,e :: l=>e :: modE v j l
theorem EntR.modify {v : AV} {u : Value} (hv : VR m v u) : ∀ {l : List Ent} {k : List MapEntry},EntR m l k → ∀ j,EntR m (modE v j l) (k.modify j fun e=>{ e with val:=u })
  | _,_,.nil,j=>by cases j <;> exact .nil
  | _,_,.cons a b c d,0=>.cons a hv c d
  | _,_,.cons a b c d,j + 1=>.cons a b c (d.modify hv j)
theorem EntR.app {l : List Ent} {k : List MapEntry} (h : EntR m l k) {e : Ent} {x : MapEntry} (h1 : VR m e.k x.key) (h2 : VR m e.v x.val) (h3 : e.born = x.born) : EntR m (l ++ [e]) (k ++ [x]):=by
  induction h with
  | nil=>exact .cons h1 h2 h3 .nil
  | cons a b c _ ih=>exact .cons a b c ih
theorem modify_key {xs : Array MapEntry} {j : Nat} {x : MapEntry} {u v : Value} (hx : xs.toList[j]? = some x) (hk : x.key = u) : xs.modify j (fun e=>{ e with key:=u,val:=v }) = xs.modify j (fun e=>{ e with val:=v }):=by
  apply Array.ext_getElem?
  intro i
  rw [Array.getElem?_modify,Array.getElem?_modify]
  split
  · next e =>
    subst e
    have : xs[j]? = some x:=by simpa using hx
    rw [this,Option.map_some,Option.map_some]
    rw [← hk]
  · rfl
def updM (k v : AV) (es : List Ent) (cl : Nat) : Option (Nat × AV) → AB
  | some (j,_)=>.mp (modE v j es) cl
  | none=>.mp (es ++ [⟨k,v,cl⟩]) (Nat.succ cl)
theorem mapUpdate_ok (hr : HR tb N m h w) {t kt et : TypeId} (ht : P.underlying t = some (.map kt et)) {b : Pos} {es : List Ent} {cl i sz : Nat} (hg : h.get b = some (.mp es cl)) (hm : m b = some (i,sz)) {k v : AV} {uk uv : Value} (hk : VR m k uk) (hv : VR m v uv) {r : Option (Nat × AV)} (hlk : lookE P kt k es = some r) (B : Nat) :
    ∃ w',(Instr.mapUpdate t (.map (some i)) uk uv).run P w = .ok () w' ∧ HR tb N m (h.set b (updM k v es cl r)) w' ∧ Go B m h w m (h.set b (updM k v es cl r)) w':=by
  obtain ⟨i',sz',xs,g1,g2,g3⟩:=hr.mp hg
  rw [hm] at g1; injection g1 with g1; injection g1 with e1 e2; subst e1 e2
  obtain ⟨q,d,hd,hik,h1,h2,h3⟩:=lookE_ok (P:=P) hlk hk g3
  have hnc : ∀ cs t fz,Obj.map xs cl ≠ .cells cs t fz:=by simp
  rcases h3 with ⟨rfl,rfl⟩ | ⟨j,v',x,e,rfl,rfl,h4,h5,h6,h7,h8⟩
  · refine ⟨pw w i (.map (xs.push { key:=uk,val:=uv,born:=cl }) (cl + 1)),?_,hr.turn hg rfl hm (.mp ?_) rfl B⟩
    · simp only [Instr.mapUpdate,Sem.run_bind,run_underlying ht,Result.andThen_ok,run_getObj_ok g2 hnc,h2,h1,run_setObj_pw g2 hnc]
    · rw [Array.toList_push]
      exact g3.app hk hv rfl
  · refine ⟨pw w i (.map (xs.modify j fun e=>{ e with val:=uv }) cl),?_,hr.turn hg rfl hm (.mp ?_) rfl B⟩
    · have hxj : xs[j]? = some x:=by simpa using h4
      simp only [Instr.mapUpdate,Sem.run_bind,run_underlying ht,Result.andThen_ok,run_getObj_ok g2 hnc,h2,h1,hxj,Option.map_some,Option.getD_some,h8,hik,modify_key h4 h8,run_setObj_pw g2 hnc]
    · rw [Array.toList_modify]
      exact g3.modify hv j
theorem mapEntry_ok (hr : HR tb N m h w) {t kt et : TypeId} (ht : P.underlying t = some (.map kt et)) {b : Pos} {es : List Ent} {cl i sz : Nat} (hg : h.get b = some (.mp es cl)) (hm : m b = some (i,sz)) {k z : AV} {uk : Value} (hk : VR m k uk) (hz : zeroA P et = some z) {r : Option (Nat × AV)} (hlk : lookE P kt k es = some r) (B : Nat) :
    (r = none → ∃ w' u,(Instr.mapEntry t (.map (some i)) uk).run P w = .ok u w' ∧ VR m (.tup [z,.goInt cl]) u ∧ HR tb N m (h.set b (updM k z es cl none)) w' ∧ Go B m h w m (h.set b (updM k z es cl none)) w') ∧
    (∀ j v e,r = some (j,v) → es[j]? = some e → ∃ w' u,(Instr.mapEntry t (.map (some i)) uk).run P w = .ok u w' ∧ VR m (.tup [v,.goInt e.born]) u ∧ HR tb N m h w' ∧ Go B m h w m h w'):=by
  obtain ⟨i',sz',xs,g1,g2,g3⟩:=hr.mp hg
  rw [hm] at g1; injection g1 with g1; injection g1 with e1 e2; subst e1 e2
  obtain ⟨q,d,hd,hik,h1,h2,h3⟩:=lookE_ok (P:=P) hlk hk g3
  obtain ⟨_,zv,_,_,hzr,hzrun⟩:=zeroA_ok (m:=m) hz
  have hnc : ∀ cs t fz,Obj.map xs cl ≠ .cells cs t fz:=by simp
  rcases h3 with ⟨rfl,rfl⟩ | ⟨j,v',x,e,rfl,rfl,h4,h5,h6,h7,h8⟩
  · refine ⟨fun _=>?_,fun j v e h=>by cases h⟩
    refine ⟨pw w i (.map (xs.push { key:=uk,val:=zv,born:=cl }) (cl + 1)),.tuple #[zv,goInt cl],?_,.tup (.cons hzr (.cons (.int _ _) .nil)),hr.turn hg rfl hm (.mp ?_) rfl B⟩
    · simp only [Instr.mapEntry,Sem.run_bind,run_underlying ht,Result.andThen_ok,run_getObj_ok g2 hnc,h2,h1,hzrun,run_setObj_pw g2 hnc,Sem.run_pure]
    · rw [Array.toList_push]
      exact g3.app hk hzr rfl
  · refine ⟨fun h=>(by cases h),fun j' v e' h he=>?_⟩
    injection h with h; injection h with e1 e2; subst e1 e2
    rw [h5] at he; injection he with he; subst he
    have hxj : xs[j]? = some x:=by simpa using h4
    have hsame : xs.modify j (fun e=>{ e with key:=uk }) = xs:=by
      apply Array.ext_getElem?
      intro i
      rw [Array.getElem?_modify]
      split
      · next e'=>subst e'; rw [hxj,Option.map_some,← h8]
      · rfl
    have hborn : e.born = x.born:=by
      have : ∀ {l : List Ent} {k : List MapEntry},EntR m l k → ∀ {j : Nat} {e : Ent} {x : MapEntry},l[j]? = some e → k[j]? = some x → e.born = x.born:=by
        intro l k hlk
        induction hlk with
        | nil=>intro j e x h; simp at h
        | cons a b c _ ih =>
          intro j e x h h'
          cases j with
          | zero=>simp at h h'; subst h h'; exact c
          | succ j=>exact ih (by simpa using h) (by simpa using h')
      exact this g3 h5 h4
    have hpw : pw w i (.map xs cl) = w:=by
      unfold pw
      have : w.heap.setIfInBounds i (.map xs cl) = w.heap:=by
        apply Array.ext_getElem?
        intro q
        rw [Array.getElem?_setIfInBounds]
        split
        · next e'=>subst e'; rw [g2]; have:=(Array.getElem?_eq_some_iff.1 g2).1; rw [if_pos this]
        · rfl
      rw [this]
    refine ⟨w,.tuple #[x.val,goInt x.born],?_,.tup (.cons h7 (.cons (by rw [hborn]; exact .int _ _) .nil)),hr,Go.refl B m h w⟩
    simp only [Instr.mapEntry,Sem.run_bind,run_underlying ht,Result.andThen_ok,run_getObj_ok g2 hnc,h2,h1,hxj,Option.map_some,Option.getD_some,h8,hik,hsame,run_setObj_pw g2 hnc,hpw,Sem.run_pure]
end
end Am
end Go.Proofs.YtadbcnekkceoaaaGreatDoor
