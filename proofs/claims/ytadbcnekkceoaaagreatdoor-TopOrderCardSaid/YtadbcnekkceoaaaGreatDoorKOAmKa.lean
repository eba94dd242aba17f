/- The machine as the kernel likes it: recursors, continuations. Parts. -/
import Derived.Test.YtadbcnekkceoaaaGreatDoorKOAmIe
import Derived.Test.YtadbcnekkceoaaaGreatDoorKOAmFr
set_option linter.unusedVariables false
namespace Go.Proofs.YtadbcnekkceoaaaGreatDoor
namespace Am
noncomputable section
abbrev Rz:=Option CRes
def optK {α : Type} (k : α → Rz) (x : Option α) : Rz:=Option.rec (motive:=fun _=>Rz) none k x
def intC (v : AV) (k : IntKind → Int → Rz) : Rz:=AV.rec (motive_1:=fun _=>Rz) (motive_2:=fun _=>PUnit) (none) (fun q m=>k q m) (fun _=>none) (fun _=>none) (fun _ _=>none) (none) (fun _ _ _ _=>none) (fun _ _ _=>none) (none) (fun _=>none) (none) (fun _ _ _ _ _=>none) (fun _=>none) (none) (fun _ _ _=>none) (none) (fun _ _=>none) (fun _ _=>none) (fun _ _=>none) (fun _=>none) (fun _=>none) (fun _ _ _=>none) (fun _ _=>none) PUnit.unit (fun _ _ _ _=>PUnit.unit) (v)
def boolC (v : AV) (t f : Rz) : Rz:=AV.rec (motive_1:=fun _=>Rz) (motive_2:=fun _=>PUnit) (none) (fun _ _=>none) (fun b=>Bool.rec (motive:=fun _=>Rz) f t b) (fun _=>none) (fun _ _=>none) (none) (fun _ _ _ _=>none) (fun _ _ _=>none) (none) (fun _=>none) (none) (fun _ _ _ _ _=>none) (fun _=>none) (none) (fun _ _ _=>none) (none) (fun _ _=>none) (fun _ _=>none) (fun _ _=>none) (fun _=>none) (fun _=>none) (fun _ _ _=>none) (fun _ _=>none) PUnit.unit (fun _ _ _ _=>PUnit.unit) (v)
def ptrC (v : AV) (k : Pos → Nat → Rz) : Rz:=AV.rec (motive_1:=fun _=>Rz) (motive_2:=fun _=>PUnit) (none) (fun _ _=>none) (fun _=>none) (fun _=>none) (fun a o=>k a o) (none) (fun _ _ _ _=>none) (fun _ _ _=>none) (none) (fun _=>none) (none) (fun _ _ _ _ _=>none) (fun _=>none) (none) (fun _ _ _=>none) (none) (fun _ _=>none) (fun _ _=>none) (fun _ _=>none) (fun _=>none) (fun _=>none) (fun _ _ _=>none) (fun _ _=>none) PUnit.unit (fun _ _ _ _=>PUnit.unit) (v)
def strC (v : AV) (k : List Nat → Rz) : Rz:=AV.rec (motive_1:=fun _=>Rz) (motive_2:=fun _=>PUnit) (none) (fun _ _=>none) (fun _=>none) (fun s=>k s) (fun _ _=>none) (none) (fun _ _ _ _=>none) (fun _ _ _=>none) (none) (fun _=>none) (none) (fun _ _ _ _ _=>none) (fun _=>none) (none) (fun _ _ _=>none) (none) (fun _ _=>none) (fun _ _=>none) (fun _ _=>none) (fun _=>none) (fun _=>none) (fun _ _ _=>none) (fun _ _=>none) PUnit.unit (fun _ _ _ _=>PUnit.unit) (v)
def aggC (v : AV) (k : List AV → Rz) : Rz:=AV.rec (motive_1:=fun _=>Rz) (motive_2:=fun _=>PUnit) (none) (fun _ _=>none) (fun _=>none) (fun _=>none) (fun _ _=>none) (none) (fun _ _ _ _=>none) (fun _ _ _=>none) (none) (fun _=>none) (none) (fun _ _ _ _ _=>none) (fun _=>none) (none) (fun _ _ _=>none) (none) (fun s _=>k s) (fun _ _=>none) (fun _ _=>none) (fun _=>none) (fun _=>none) (fun _ _ _=>none) (fun _ _=>none) PUnit.unit (fun _ _ _ _=>PUnit.unit) (v)
def txtC (v : AV) (k : List AV → Rz) : Rz:=AV.rec (motive_1:=fun _=>Rz) (motive_2:=fun _=>PUnit) (none) (fun _ _=>none) (fun _=>none) (fun _=>none) (fun _ _=>none) (none) (fun _ _ _ _=>none) (fun _ _ _=>none) (none) (fun _=>none) (none) (fun _ _ _ _ _=>none) (fun _=>none) (none) (fun _ _ _=>none) (none) (fun _ _=>none) (fun _ _=>none) (fun _ _=>none) (fun _=>none) (fun _=>none) (fun _ _ _=>none) (fun s _=>k s) PUnit.unit (fun _ _ _ _=>PUnit.unit) v
def tupC (v : AV) (k : List AV → Rz) : Rz:=AV.rec (motive_1:=fun _=>Rz) (motive_2:=fun _=>PUnit) (none) (fun _ _=>none) (fun _=>none) (fun _=>none) (fun _ _=>none) (none) (fun _ _ _ _=>none) (fun _ _ _=>none) (none) (fun _=>none) (none) (fun _ _ _ _ _=>none) (fun _=>none) (none) (fun _ _ _=>none) (none) (fun _ _=>none) (fun s _=>k s) (fun _ _=>none) (fun _=>none) (fun _=>none) (fun _ _ _=>none) (fun _ _=>none) PUnit.unit (fun _ _ _ _=>PUnit.unit) (v)
def slcC (v : AV) (k : Pos → Nat → Nat → Nat → Rz) : Rz:=AV.rec (motive_1:=fun _=>Rz) (motive_2:=fun _=>PUnit) (none) (fun _ _=>none) (fun _=>none) (fun _=>none) (fun _ _=>none) (none) (fun a o n z=>k a o n z) (fun _ _ _=>none) (none) (fun _=>none) (none) (fun _ _ _ _ _=>none) (fun _=>none) (none) (fun _ _ _=>none) (none) (fun _ _=>none) (fun _ _=>none) (fun _ _=>none) (fun _=>none) (fun _=>none) (fun _ _ _=>none) (fun _ _=>none) PUnit.unit (fun _ _ _ _=>PUnit.unit) (v)
theorem intC_eq (v : AV) (k : IntKind → Int → Rz) : intC v k = (match v with | .int q m=>k q m | _=>none):=by cases v <;> rfl
theorem boolC_eq (v : AV) (t f : Rz) : boolC v t f = (match v with | .bool true=>t | .bool false=>f | _=>none):=by
  cases v <;> first | rfl | (rename_i b; cases b <;> rfl)
theorem ptrC_eq (v : AV) (k : Pos → Nat → Rz) : ptrC v k = (match v with | .ptr a o=>k a o | _=>none):=by cases v <;> rfl
theorem strC_eq (v : AV) (k : List Nat → Rz) : strC v k = (match v with | .str s=>k s | _=>none):=by cases v <;> rfl
theorem aggC_eq (v : AV) (k : List AV → Rz) : aggC v k = (match v with | .agg s=>k s | _=>none):=by cases v <;> rfl
theorem txtC_eq (v : AV) (k : List AV → Rz) : txtC v k = (match v with | .txt s=>k s | _=>none):=by cases v <;> rfl
theorem tupC_eq (v : AV) (k : List AV → Rz) : tupC v k = (match v with | .tup s=>k s | _=>none):=by cases v <;> rfl
def natC (n : Nat) (k : Nat → Rz) : Rz:=Nat.rec (motive:=fun _=>Rz) (k 0) (fun m _=>k (Nat.succ m)) n
theorem natC_eq (n : Nat) (k : Nat → Rz) : natC n k = k n:=by cases n <;> rfl
def iC (i : Int) (k : Int → Rz) : Rz:=Int.rec (motive:=fun _=>Rz) (fun n=>natC n fun n=>k (.ofNat n)) (fun n=>natC n fun n=>k (.negSucc n)) i
theorem iC_eq (i : Int) (k : Int → Rz) : iC i k = k i:=by
  cases i with
  | ofNat n=>exact natC_eq n fun n=>k (.ofNat n)
  | negSucc n=>exact natC_eq n fun n=>k (.negSucc n)
def bC (b : Bool) (k : Bool → Rz) : Rz:=Bool.rec (motive:=fun _=>Rz) (k false) (k true) b
theorem bC_eq (b : Bool) (k : Bool → Rz) : bC b k = k b:=by cases b <;> rfl
def ifC (b : Bool) (x : Rz) : Rz:=Bool.rec (motive:=fun _=>Rz) none x b
theorem ifC_eq (b : Bool) (x : Rz) : ifC b x = (bif b then x else none):=by cases b <;> rfl
def natvC (v : AV) (k : Nat → Rz) : Rz:=intC v fun _ i=>Int.rec (motive:=fun _=>Rz) k (fun _=>none) i
theorem natvC_eq (v : AV) (k : Nat → Rz) : natvC v k = optK k (natA v):=by
  cases v <;> try rfl
  rename_i q i; cases i <;> rfl
def getC {α : Type} (p : Pos) : T α → (Option α → Rz) → Rz :=
  Pos.rec (motive:=fun _=>T α → (Option α → Rz) → Rz)
    (fun t k=>T.rec (motive:=fun _=>Rz) (k none) (fun _ v _ _ _=>k v) t)
    (fun _ ih t k=>T.rec (motive:=fun _=>Rz) (k none) (fun l _ _ _ _=>ih l k) t)
    (fun _ ih t k=>T.rec (motive:=fun _=>Rz) (k none) (fun _ _ r _ _=>ih r k) t) p
theorem getC_eq {α : Type} : ∀ (p : Pos) (t : T α) (k : Option α → Rz),getC p t k = k (T.get p t)
  | .xH,.leaf,k=>rfl
  | .xO p,.leaf,k=>rfl
  | .xI p,.leaf,k=>rfl
  | .xH,.node l v r,k=>rfl
  | .xO p,.node l v r,k=>getC_eq p l k
  | .xI p,.node l v r,k=>getC_eq p r k
def setC {α : Type} (x : Option α) (p : Pos) : T α → (T α → Rz) → Rz :=
  Pos.rec (motive:=fun _=>T α → (T α → Rz) → Rz)
    (fun t k=>T.rec (motive:=fun _=>Rz) (k (.node .leaf x .leaf)) (fun l _ r _ _=>k (.node l x r)) t)
    (fun _ ih t k=>T.rec (motive:=fun _=>Rz) (ih .leaf fun l=>k (.node l none .leaf)) (fun l v r _ _=>ih l fun l=>k (.node l v r)) t)
    (fun _ ih t k=>T.rec (motive:=fun _=>Rz) (ih .leaf fun r=>k (.node .leaf none r)) (fun l v r _ _=>ih r fun r=>k (.node l v r)) t) p
theorem setC_eq {α : Type} (x : Option α) : ∀ (p : Pos) (t : T α) (k : T α → Rz),setC x p t k = k (T.set p x t)
  | .xH,.leaf,k=>rfl
  | .xO p,.leaf,k=>setC_eq x p .leaf _
  | .xI p,.leaf,k=>setC_eq x p .leaf _
  | .xH,.node l v r,k=>rfl
  | .xO p,.node l v r,k=>setC_eq x p l _
  | .xI p,.node l v r,k=>setC_eq x p r _
def succC (p : Pos) : (Pos → Rz) → Rz :=
  Pos.rec (motive:=fun _=>(Pos → Rz) → Rz) (fun k=>k (.xO .xH)) (fun p _ k=>k (.xI p)) (fun _ ih k=>ih fun q=>k (.xO q)) p
theorem succC_eq : ∀ (p : Pos) (k : Pos → Rz),succC p k = k p.succ
  | .xH,k=>rfl
  | .xO p,k=>rfl
  | .xI p,k=>succC_eq p _
def addC (p : Pos) (n : Nat) : (Pos → Rz) → Rz:=Nat.rec (motive:=fun _=>(Pos → Rz) → Rz) (fun k=>k p) (fun _ ih k=>ih fun q=>succC q k) n
theorem addC_eq (p : Pos) : ∀ (n : Nat) (k : Pos → Rz),addC p n k = k (p.add n)
  | 0,k=>rfl
  | n + 1,k=>by
    show addC p n (fun q=>succC q k) = _
    rw [addC_eq p n,succC_eq]; rfl
def atC {α : Type} (t : T α) : Nat → (α → Rz) → Rz :=
  T.rec (motive:=fun _=>Nat → (α → Rz) → Rz) (fun _ _=>none) (fun _ v _ il ir n k=>Bool.rec (motive:=fun _=>Rz) (Bool.rec (motive:=fun _=>Rz) (ir (Nat.pred (Nat.div n 2)) k) (il (Nat.div n 2) k) (Nat.beq (Nat.mod n 2) 1)) (optK k v) (Nat.beq n 0)) t
theorem of_unfold (n : Nat) : Pos.of n = bif Nat.beq n 0 then .xH else bif Nat.beq (Nat.mod n 2) 1 then .xO (Pos.of (Nat.div n 2)) else .xI (Pos.of (Nat.pred (Nat.div n 2))):=by
  have key : ∀ a b : Pos,a.nat = b.nat → a = b:=fun a b h=>Pos.nat_inj h
  refine key _ _ ?_
  rw [Pos.of_nat]
  cases h0 : Nat.beq n 0 with
  | true=>have:=Nat.eq_of_beq_eq_true h0; subst this; rfl
  | false =>
    have hn : n ≠ 0:=fun e=>by subst e; cases h0
    rw [cond_false]
    have hd : Nat.div n 2 = n / 2:=rfl
    have hm : Nat.mod n 2 = n % 2:=rfl
    rw [hd,hm]
    cases h1 : Nat.beq (n % 2) 1 with
    | true =>
      have:=Nat.eq_of_beq_eq_true h1
      simp only [cond_true,Pos.nat,Pos.of_nat]; omega
    | false =>
      have : n % 2 ≠ 1:=fun e=>by rw [e] at h1; cases h1
      simp only [cond_false,Pos.nat,Pos.of_nat,Nat.pred_eq_sub_one]; omega
theorem atC_eq {α : Type} : ∀ (t : T α) (n : Nat) (k : α → Rz),atC t n k = optK k (t.at n)
  | .leaf,n,k=>by unfold T.at; rw [T.get_leaf]; rfl
  | .node l v r,n,k=>by
    show Bool.rec (motive:=fun _=>Rz) (Bool.rec (motive:=fun _=>Rz) (atC r (Nat.pred (Nat.div n 2)) k) (atC l (Nat.div n 2) k) (Nat.beq (Nat.mod n 2) 1)) (optK k v) (Nat.beq n 0) = _
    unfold T.at
    rw [of_unfold,atC_eq r,atC_eq l]
    cases Nat.beq n 0 with
    | true=>rfl
    | false=>cases Nat.beq (Nat.mod n 2) 1 <;> rfl
def layC {α : Type} (x : α) (t : T α) : Nat → (T α → Rz) → Rz :=
  T.rec (motive:=fun _=>Nat → (T α → Rz) → Rz)
    (fun n k=>Bool.rec (motive:=fun _=>Rz) (k (T.lay .leaf n x)) (k (.node .leaf (some x) .leaf)) (Nat.beq n 0))
    (fun l v r il ir n k=>Bool.rec (motive:=fun _=>Rz) (Bool.rec (motive:=fun _=>Rz) (ir (Nat.pred (Nat.div n 2)) fun r=>k (.node l v r)) (il (Nat.div n 2) fun l=>k (.node l v r)) (Nat.beq (Nat.mod n 2) 1)) (k (.node l (some x) r)) (Nat.beq n 0)) t
theorem layC_eq {α : Type} (x : α) : ∀ (t : T α) (n : Nat) (k : T α → Rz),layC x t n k = k (t.lay n x)
  | .leaf,n,k=>by
    show Bool.rec (motive:=fun _=>Rz) (k (T.lay .leaf n x)) (k (.node .leaf (some x) .leaf)) (Nat.beq n 0) = _
    cases h : Nat.beq n 0 with
    | true=>have:=Nat.eq_of_beq_eq_true h; subst this; rfl
    | false=>rfl
  | .node l v r,n,k=>by
    show Bool.rec (motive:=fun _=>Rz) (Bool.rec (motive:=fun _=>Rz) (layC x r (Nat.pred (Nat.div n 2)) fun r=>k (.node l v r)) (layC x l (Nat.div n 2) fun l=>k (.node l v r)) (Nat.beq (Nat.mod n 2) 1)) (k (.node l (some x) r)) (Nat.beq n 0) = _
    rw [layC_eq x r,layC_eq x l]
    unfold T.lay
    rw [of_unfold n]
    cases Nat.beq n 0 with
    | true=>rfl
    | false=>cases Nat.beq (Nat.mod n 2) 1 <;> rfl
def layNC (l : List AV) : T AV → Nat → (T AV → Rz) → Rz :=
  List.rec (motive:=fun _=>T AV → Nat → (T AV → Rz) → Rz) (fun t _ k=>k t) (fun v _ ih t o k=>layC v t o fun t=>natC (Nat.succ o) fun o=>ih t o k) l
theorem layNC_eq : ∀ (l : List AV) (t : T AV) (o : Nat) (k : T AV → Rz),layNC l t o k = k (t.layN o l)
  | [],t,o,k=>rfl
  | v :: l,t,o,k=>by
    show layC v t o (fun t=>natC (Nat.succ o) fun o=>layNC l t o k) = _
    rw [layC_eq,natC_eq,layNC_eq l]; rfl
def takeNC (t : T AV) (n : Nat) : Nat → (List AV → Rz) → Rz :=
  Nat.rec (motive:=fun _=>Nat → (List AV → Rz) → Rz) (fun _ k=>k []) (fun _ ih o k=>atC t o fun v=>ih (Nat.succ o) fun l=>k (v :: l)) n
theorem takeNC_eq (t : T AV) : ∀ (n o : Nat) (k : List AV → Rz),takeNC t n o k = optK k (t.takeN o n)
  | 0,o,k=>rfl
  | n + 1,o,k=>by
    show atC t o (fun v=>takeNC t n (Nat.succ o) fun l=>k (v :: l)) = _
    rw [atC_eq,T.takeN]
    cases t.at o with
    | none=>rfl
    | some v =>
      show takeNC t n (Nat.succ o) (fun l=>k (v :: l)) = _
      rw [takeNC_eq t n]
      cases t.takeN (Nat.succ o) n <;> rfl
def d8C {α : Type} (d : D8) : S8 α → (α → Rz) → Rz:=D8.rec (motive:=fun _=>S8 α → (α → Rz) → Rz)
  (fun s k=>S8.rec (motive:=fun _=>Rz) (fun a _ _ _ _ _ _ _=>k a) s) (fun s k=>S8.rec (motive:=fun _=>Rz) (fun _ a _ _ _ _ _ _=>k a) s) (fun s k=>S8.rec (motive:=fun _=>Rz) (fun _ _ a _ _ _ _ _=>k a) s) (fun s k=>S8.rec (motive:=fun _=>Rz) (fun _ _ _ a _ _ _ _=>k a) s)
  (fun s k=>S8.rec (motive:=fun _=>Rz) (fun _ _ _ _ a _ _ _=>k a) s) (fun s k=>S8.rec (motive:=fun _=>Rz) (fun _ _ _ _ _ a _ _=>k a) s) (fun s k=>S8.rec (motive:=fun _=>Rz) (fun _ _ _ _ _ _ a _=>k a) s) (fun s k=>S8.rec (motive:=fun _=>Rz) (fun _ _ _ _ _ _ _ a=>k a) s) d
theorem d8C_eq {α : Type} (d : D8) (s : S8 α) (k : α → Rz) : d8C d s k = k (s.get d):=by cases d <;> rfl
def d8S {α : Type} (v : α) (d : D8) : S8 α → (S8 α → Rz) → Rz:=D8.rec (motive:=fun _=>S8 α → (S8 α → Rz) → Rz)
  (fun s k=>S8.rec (motive:=fun _=>Rz) (fun _ b c d e f g h=>k ⟨v,b,c,d,e,f,g,h⟩) s) (fun s k=>S8.rec (motive:=fun _=>Rz) (fun a _ c d e f g h=>k ⟨a,v,c,d,e,f,g,h⟩) s) (fun s k=>S8.rec (motive:=fun _=>Rz) (fun a b _ d e f g h=>k ⟨a,b,v,d,e,f,g,h⟩) s) (fun s k=>S8.rec (motive:=fun _=>Rz) (fun a b c _ e f g h=>k ⟨a,b,c,v,e,f,g,h⟩) s)
  (fun s k=>S8.rec (motive:=fun _=>Rz) (fun a b c d _ f g h=>k ⟨a,b,c,d,v,f,g,h⟩) s) (fun s k=>S8.rec (motive:=fun _=>Rz) (fun a b c d e _ g h=>k ⟨a,b,c,d,e,v,g,h⟩) s) (fun s k=>S8.rec (motive:=fun _=>Rz) (fun a b c d e f _ h=>k ⟨a,b,c,d,e,f,v,h⟩) s) (fun s k=>S8.rec (motive:=fun _=>Rz) (fun a b c d e f g _=>k ⟨a,b,c,d,e,f,g,v⟩) s) d
theorem d8S_eq {α : Type} (v : α) (d : D8) (s : S8 α) (k : S8 α → Rz) : d8S v d s k = k (s.set d v):=by cases d <;> rfl
def getSC (p : SP) (e : E) (k : AV → Rz) : Rz:=Prod.rec (motive:=fun _=>Rz) (fun a b=>d8C a e fun s=>d8C b s k) p
theorem getSC_eq (p : SP) (e : E) (k : AV → Rz) : getSC p e k = k (getP p e):=by
  obtain ⟨a,b⟩:=p
  show d8C a e (fun s=>d8C b s k) = _
  rw [d8C_eq,d8C_eq]; rfl
def setSC (p : SP) (v : AV) (e : E) (k : E → Rz) : Rz:=Prod.rec (motive:=fun _=>Rz) (fun a b=>d8C a e fun s=>d8S v b s fun s=>d8S s a e k) p
theorem setSC_eq (p : SP) (v : AV) (e : E) (k : E → Rz) : setSC p v e k = k (setP p v e):=by
  obtain ⟨a,b⟩:=p
  show d8C a e (fun s=>d8S v b s fun s=>d8S s a e k) = _
  rw [d8C_eq,d8S_eq,d8S_eq]; rfl
def nthC (l : List AV) : Nat → (AV → Rz) → Rz :=
  List.rec (motive:=fun _=>Nat → (AV → Rz) → Rz) (fun _ k=>k .junk) (fun a _ ih n k=>Nat.rec (motive:=fun _=>Rz) (k a) (fun m _=>ih m k) n) l
theorem nthC_eq : ∀ (l : List AV) (n : Nat) (k : AV → Rz),nthC l n k = k (nthA l n)
  | [],n,k=>by cases n <;> rfl
  | a :: l,0,k=>rfl
  | a :: l,n + 1,k=>nthC_eq l n k
def odC (o : Od) : E → List AV → (AV → Rz) → Rz :=
  Od.rec (motive:=fun _=>E → List AV → (AV → Rz) → Rz) (fun n _ l k=>nthC l n k) (fun p e _ k=>getSC p e k) (fun a _ _ k=>k a) o
theorem odC_eq (o : Od) (e : E) (l : List AV) (k : AV → Rz) : odC o e l k = k (o.get e l):=by
  cases o with
  | v n=>exact nthC_eq l n k
  | s p=>exact getSC_eq p e k
  | c a=>rfl
def odsC (xs : List Od) : E → List AV → (List AV → Rz) → Rz :=
  List.rec (motive:=fun _=>E → List AV → (List AV → Rz) → Rz) (fun _ _ k=>k []) (fun x _ ih e l k=>odC x e l fun v=>ih e l fun vs=>k (v :: vs)) xs
theorem odsC_eq : ∀ (xs : List Od) (e : E) (l : List AV) (k : List AV → Rz),odsC xs e l k = k (xs.map (Od.get e l))
  | [],e,l,k=>rfl
  | x :: xs,e,l,k=>by
    show odC x e l (fun v=>odsC xs e l fun vs=>k (v :: vs)) = _
    rw [odC_eq,odsC_eq xs]; rfl
end
end Am
end Go.Proofs.YtadbcnekkceoaaaGreatDoor
namespace Go.Proofs.YtadbcnekkceoaaaGreatDoor
namespace Am
noncomputable section
def kidx (k : IntKind) : Nat:=IntKind.rec (motive:=fun _=>Nat) 0 1 2 3 4 5 6 7 k
def kEqB (a b : IntKind) : Bool:=Nat.beq (kidx a) (kidx b)
theorem kEqB_eq (a b : IntKind) : kEqB a b = kEq a b:=by cases a <;> cases b <;> rfl
def limK (k : IntKind) : Nat:=IntKind.rec (motive:=fun _=>Nat) 0 0 2147483647 9223372036854775807 255 0 4294967295 18446744073709551615 k
theorem limK_ok (k : IntKind) {m : Nat} (h : m ≤ limK k) : k.wrap (Int.ofNat m) = Int.ofNat m:=by
  have z : ∀ k : IntKind,k.wrap 0 = 0:=fun k=>by cases k <;> decide
  cases k
  case i8=>have : m = 0:=Nat.le_zero.1 h; subst this; exact z _
  case i16=>have : m = 0:=Nat.le_zero.1 h; subst this; exact z _
  case u16=>have : m = 0:=Nat.le_zero.1 h; subst this; exact z _
  all_goals exact inR_ok _ _ (ble_t h)
def wrapC (q : IntKind) (i : Int) (k : Int → Rz) : Rz :=
  Int.rec (motive:=fun _=>Rz) (fun m=>natC m fun m=>Bool.rec (motive:=fun _=>Rz) (iC (q.wrap (.ofNat m)) k) (k (.ofNat m)) (Nat.ble m (limK q))) (fun m=>natC m fun m=>iC (wrapK q (.negSucc m)) k) i
theorem wrapC_eq (q : IntKind) (i : Int) (k : Int → Rz) : wrapC q i k = k (wrapK q i):=by
  cases i with
  | ofNat m =>
    show natC m (fun m=>Bool.rec (motive:=fun _=>Rz) (iC (q.wrap (.ofNat m)) k) (k (.ofNat m)) (Nat.ble m (limK q))) = _
    rw [natC_eq,wrapK_ok]
    cases h : Nat.ble m (limK q) with
    | false=>exact iC_eq _ _
    | true=>rw [limK_ok q (ble_le h)]
  | negSucc m =>
    show natC m (fun m=>iC (wrapK q (.negSucc m)) k) = _
    rw [natC_eq,iC_eq]
def iltC (a b : Int) (k : Bool → Rz) : Rz :=
  Int.rec (motive:=fun _=>Rz) (fun m=>Int.rec (motive:=fun _=>Rz) (fun n=>bC (Nat.ble (Nat.succ m) n) k) (fun _=>k false) b) (fun m=>Int.rec (motive:=fun _=>Rz) (fun _=>k true) (fun n=>bC (Nat.ble (Nat.succ n) m) k) b) a
theorem iltC_eq (a b : Int) (k : Bool → Rz) : iltC a b k = k (ilt a b):=by cases a <;> cases b <;> first | rfl | exact bC_eq _ _
def ieqC (a b : Int) (k : Bool → Rz) : Rz :=
  Int.rec (motive:=fun _=>Rz) (fun m=>Int.rec (motive:=fun _=>Rz) (fun n=>bC (Nat.beq m n) k) (fun _=>k false) b) (fun m=>Int.rec (motive:=fun _=>Rz) (fun _=>k false) (fun n=>bC (Nat.beq m n) k) b) a
theorem ieqC_eq (a b : Int) (k : Bool → Rz) : ieqC a b k = k (ieq a b):=by cases a <;> cases b <;> first | rfl | exact bC_eq _ _
def strEqR (a : List Nat) : List Nat → Bool :=
  List.rec (motive:=fun _=>List Nat → Bool) (fun b=>List.rec (motive:=fun _=>Bool) true (fun _ _ _=>false) b) (fun x _ ih b=>List.rec (motive:=fun _=>Bool) false (fun y l _=>Bool.rec (motive:=fun _=>Bool) false (ih l) (Nat.beq x y)) b) a
theorem strEqR_eq : ∀ a b : List Nat,strEqR a b = strEq a b
  | [],[]=>rfl
  | [],_ :: _=>rfl
  | _ :: _,[]=>rfl
  | x :: a,y :: b=>by
    show Bool.rec (motive:=fun _=>Bool) false (strEqR a b) (Nat.beq x y) = _
    rw [strEqR_eq a b,strEq]
    cases Nat.beq x y <;> rfl
def lenR {α : Type} (l : List α) : Nat:=List.rec (motive:=fun _=>Nat) 0 (fun _ _ ih=>Nat.succ ih) l
theorem lenR_eq {α : Type} : ∀ l : List α,lenR l = l.length
  | []=>rfl
  | _ :: l=>congrArg Nat.succ (lenR_eq l)
def lgetC {α : Type} (l : List α) : Nat → (α → Rz) → Rz :=
  List.rec (motive:=fun _=>Nat → (α → Rz) → Rz) (fun _ _=>none) (fun a _ ih n k=>Nat.rec (motive:=fun _=>Rz) (k a) (fun m _=>ih m k) n) l
theorem lgetC_eq {α : Type} : ∀ (l : List α) (n : Nat) (k : α → Rz),lgetC l n k = optK k l[n]?
  | [],n,k=>by cases n <;> rfl
  | a :: l,0,k=>rfl
  | a :: l,n + 1,k=>by
    show lgetC l n k = _
    rw [lgetC_eq l n k,List.getElem?_cons_succ]
def frcC (v : AV) (k : AV → Rz) : Rz:=AV.rec (motive_1:=fun _=>Rz) (motive_2:=fun _=>PUnit) (k v) (fun _ _=>k v) (fun _=>k v) (fun _=>k v) (fun _ _=>k v) (k v) (fun a o n z=>natC o fun o=>natC n fun n=>k (.slc a o n z)) (fun a o z=>natC o fun o=>k (.slcE a o z)) (k v) (fun _=>k v) (k v) (fun _ _ _ _ _=>k v) (fun _=>k v) (k v) (fun _ _ _=>k v) (k v) (fun _ _=>k v) (fun _ _=>k v) (fun q a=>natC q fun q=>k (.ltr q a)) (fun _=>k v) (fun _=>k v) (fun _ _ _=>k v) (fun _ _=>k v) PUnit.unit (fun _ _ _ _=>PUnit.unit) (v)
theorem frcC_eq (v : AV) (k : AV → Rz) : frcC v k = k v:=by
  cases v <;> try rfl
  · rename_i a o n z
    show natC o (fun o=>natC n fun n=>k (.slc a o n z)) = _
    rw [natC_eq,natC_eq]
  · rename_i a o z
    show natC o (fun o=>k (.slcE a o z)) = _
    rw [natC_eq]
  · rename_i q a
    show natC q (fun q=>k (.ltr q a)) = _
    rw [natC_eq]
def opfC (o : Option AV) (k : AV → Rz) : Rz:=optK (fun v=>frcC v k) o
theorem opfC_eq (o : Option AV) (k : AV → Rz) : opfC o k = optK k o:=by cases o <;> first | rfl | exact frcC_eq _ _
def cellsC (v : AV) (k : List AV → Rz) : Rz:=AV.rec (motive_1:=fun _=>Rz) (motive_2:=fun _=>PUnit) (none) (fun _ _=>k [v]) (fun _=>k [v]) (fun _=>k [v]) (fun _ _=>k [v]) (k [v]) (fun _ _ _ _=>k [v]) (fun _ _ _=>k [v]) (k [v]) (fun _=>k [v]) (k [v]) (fun _ _ _ _ _=>k [v]) (fun _=>k [v]) (k [v]) (fun _ _ _=>k [v]) (k [v]) (fun s _=>k s) (fun _ _=>k [v]) (fun _ _=>k [v]) (fun _=>k [v]) (fun _=>k [v]) (fun a g z=>none) (fun _ _=>k [v]) PUnit.unit (fun _ _ _ _=>PUnit.unit) (v)
theorem cellsC_eq (v : AV) (k : List AV → Rz) : cellsC v k = optK k (cellsA v):=by cases v <;> rfl
def stxC (v : AV) (ks : List Nat → Rz) (kt : List AV → Rz) : Rz:=AV.rec (motive_1:=fun _=>Rz) (motive_2:=fun _=>PUnit) none (fun _ _=>none) (fun _=>none) (fun s=>ks s) (fun _ _=>none) none (fun _ _ _ _=>none) (fun _ _ _=>none) none (fun _=>none) none (fun _ _ _ _ _=>none) (fun _=>none) none (fun _ _ _=>none) none (fun _ _=>none) (fun _ _=>none) (fun _ _=>none) (fun _=>none) (fun _=>none) (fun _ _ _=>none) (fun l _=>kt l) PUnit.unit (fun _ _ _ _=>PUnit.unit) v
def ilC (v : AV) (ki : IntKind → Int → Rz) (kl : Nat → Pos → Rz) : Rz:=AV.rec (motive_1:=fun _=>Rz) (motive_2:=fun _=>PUnit) none (fun q n=>ki q n) (fun _=>none) (fun _=>none) (fun _ _=>none) none (fun _ _ _ _=>none) (fun _ _ _=>none) none (fun _=>none) none (fun _ _ _ _ _=>none) (fun _=>none) none (fun _ _ _=>none) none (fun _ _=>none) (fun _ _=>none) (fun q a=>kl q a) (fun _=>none) (fun _=>none) (fun _ _ _=>none) (fun _ _=>none) PUnit.unit (fun _ _ _ _=>PUnit.unit) v
def strX (v : AV) (ks : List Nat → Rz) (e : Rz) : Rz:=AV.rec (motive_1:=fun _=>Rz) (motive_2:=fun _=>PUnit) e (fun _ _=>e) (fun _=>e) (fun s=>ks s) (fun _ _=>e) e (fun _ _ _ _=>e) (fun _ _ _=>e) e (fun _=>e) e (fun _ _ _ _ _=>e) (fun _=>e) e (fun _ _ _=>e) e (fun _ _=>e) (fun _ _=>e) (fun _ _=>e) (fun _=>e) (fun _=>e) (fun _ _ _=>e) (fun _ _=>e) PUnit.unit (fun _ _ _ _=>PUnit.unit) v
def F1C (f : F1) : AV → (AV → Rz) → Rz:=F1.rec (motive:=fun _=>AV → (AV → Rz) → Rz)
  (fun x k=>k x)
  (fun x k=>AV.rec (motive_1:=fun _=>Rz) (motive_2:=fun _=>PUnit) (none) (fun _ _=>none) (fun _=>none) (fun _=>none) (fun a o=>k (.ptr a o)) (none) (fun _ _ _ _=>none) (fun _ _ _=>none) (none) (fun _=>none) (none) (fun f a b _ _=>k (.fn f a b)) (fun _=>none) (none) (fun t v _=>k (.ifc t v)) (none) (fun _ _=>none) (fun _ _=>none) (fun _ _=>none) (fun _=>none) (fun _=>none) (fun _ _ _=>none) (fun _ _=>none) PUnit.unit (fun _ _ _ _=>PUnit.unit) (x))
  (fun x k=>opfC (F1.ev .neg x) k)
  (fun x k=>boolC x (k (.bool false)) (k (.bool true)))
  (fun x k=>opfC (F1.ev .cpl x) k)
  (fun q x k=>ilC x (fun _ n=>wrapC q n fun n=>k (.int q n)) (fun j a=>opfC (cvL q j a) k))
  (fun x k=>stxC x (fun s=>k (.str s)) (fun l=>k (.txt l)))
  (fun t x k=>k (.ifc t x))
  (fun o x k=>ptrC x fun a p=>natC (Nat.add p o) fun p=>k (.ptr a p))
  (fun o n x k=>opfC (F1.ev (.fg o n) x) k)
  (fun o x k=>aggC x fun cs=>lgetC cs o k)
  (fun i x k=>tupC x fun vs=>lgetC vs i k)
  (fun x k=>stxC x (fun s=>natC (lenR s) fun n=>k (.goInt n)) (fun s=>natC (lenR s) fun n=>k (.goInt n)))
  (fun x k=>AV.rec (motive_1:=fun _=>Rz) (motive_2:=fun _=>PUnit) (none) (fun _ _=>none) (fun _=>none) (fun _=>none) (fun _ _=>none) (none) (fun a o n z=>k (.goInt n)) (fun a o z=>k (.goInt 0)) (k (.goInt 0)) (fun _=>none) (none) (fun _ _ _ _ _=>none) (fun _=>none) (none) (fun _ _ _=>none) (none) (fun _ _=>none) (fun _ _=>none) (fun _ _=>none) (fun _=>none) (fun _=>none) (fun _ _ _=>none) (fun _ _=>none) PUnit.unit (fun _ _ _ _=>PUnit.unit) (x))
  (fun n _ k=>k (.goInt n))
  (fun x k=>opfC (F1.ev .cap x) k)
  (fun a ok z x k=>opfC (F1.ev (.ta a ok z) x) k)
  f
theorem F1C_eq (f : F1) (x : AV) (k : AV → Rz) : F1C f x k = optK k (f.ev x):=by
  cases f with
  | id=>rfl
  | nc=>cases x <;> rfl
  | neg=>exact opfC_eq _ _
  | not=>cases x <;> first | rfl | (rename_i b; cases b <;> rfl)
  | cpl=>exact opfC_eq _ _
  | cv q=>cases x <;> first | rfl | exact wrapC_eq _ _ _ | exact opfC_eq _ _
  | tx=>cases x <;> rfl
  | mi t=>rfl
  | fa o =>
    cases x <;> try rfl
    rename_i a p
    show natC (Nat.add p o) (fun p=>k (.ptr a p)) = _
    rw [natC_eq]; rfl
  | fg o n=>exact opfC_eq _ _
  | f1 o=>cases x <;> first | rfl | exact lgetC_eq _ _ _
  | ex i=>cases x <;> first | rfl | exact lgetC_eq _ _ _
  | ls =>
    cases x <;> try rfl
    · rename_i s
      show natC (lenR s) (fun n=>k (.goInt n)) = _
      rw [natC_eq,lenR_eq]; rfl
    · rename_i s
      show natC (lenR s) (fun n=>k (.goInt n)) = _
      rw [natC_eq,lenR_eq]; rfl
  | ll=>cases x <;> rfl
  | ln n=>rfl
  | cap=>exact opfC_eq _ _
  | ta a ok z=>exact opfC_eq _ _
def int2C (x y : AV) (k : IntKind → Int → Int → Rz) : Rz:=intC x fun p a=>intC y fun q b=>ifC (kEqB p q) (k p a b)
def gbinC (op : BinOp) (q : EqK) (x y : AV) (k : AV → Rz) : Rz:=opfC (binV op q x y) k
def isInt (x : AV) (a b : Rz) : Rz:=AV.rec (motive_1:=fun _=>Rz) (motive_2:=fun _=>PUnit) (b) (fun q m=>a) (fun _=>b) (fun _=>b) (fun _ _=>b) (b) (fun _ _ _ _=>b) (fun _ _ _=>b) (b) (fun _=>b) (b) (fun _ _ _ _ _=>b) (fun _=>b) (b) (fun _ _ _=>b) (b) (fun _ _=>b) (fun _ _=>b) (fun _ _=>b) (fun _=>b) (fun _=>b) (fun _ _ _=>b) (fun _ _=>b) PUnit.unit (fun _ _ _ _=>PUnit.unit) (x)
def arC (f : Int → Int → Int) (op : BinOp) (q : EqK) (x y : AV) (k : AV → Rz) : Rz:=isInt x (int2C x y fun p a b=>wrapC p (f a b) fun n=>k (.int p n)) (gbinC op q x y k)
def ltC (op : BinOp) (q : EqK) (x y : AV) (k : AV → Rz) : Rz:=isInt x (int2C x y fun _ a b=>iltC a b fun t=>k (.bool t)) (gbinC op q x y k)
def geC (op : BinOp) (q : EqK) (x y : AV) (k : AV → Rz) : Rz:=isInt x (int2C x y fun _ a b=>iltC a b fun t=>k (.bool (!t))) (gbinC op q x y k)
def gtC (op : BinOp) (q : EqK) (x y : AV) (k : AV → Rz) : Rz:=isInt x (int2C x y fun _ a b=>iltC b a fun t=>k (.bool t)) (gbinC op q x y k)
def leC (op : BinOp) (q : EqK) (x y : AV) (k : AV → Rz) : Rz:=isInt x (int2C x y fun _ a b=>iltC b a fun t=>k (.bool (!t))) (gbinC op q x y k)
def eqC (q : EqK) (x y : AV) (k : AV → Rz) : Rz:=AV.rec (motive_1:=fun _=>Rz) (motive_2:=fun _=>PUnit) (gbinC .eql q x y k) (fun p a=>int2C x y fun _ a b=>ieqC a b fun t=>k (.bool t)) (fun _=>gbinC .eql q x y k) (fun s=>strX y (fun u=>bC (strEqR s u) fun t=>k (.bool t)) (gbinC .eql q x y k)) (fun _ _=>gbinC .eql q x y k) (gbinC .eql q x y k) (fun _ _ _ _=>gbinC .eql q x y k) (fun _ _ _=>gbinC .eql q x y k) (gbinC .eql q x y k) (fun _=>gbinC .eql q x y k) (gbinC .eql q x y k) (fun _ _ _ _ _=>gbinC .eql q x y k) (fun _=>gbinC .eql q x y k) (gbinC .eql q x y k) (fun _ _ _=>gbinC .eql q x y k) (gbinC .eql q x y k) (fun _ _=>gbinC .eql q x y k) (fun _ _=>gbinC .eql q x y k) (fun _ _=>gbinC .eql q x y k) (fun _=>gbinC .eql q x y k) (fun _=>gbinC .eql q x y k) (fun _ _ _=>gbinC .eql q x y k) (fun _ _=>gbinC .eql q x y k) PUnit.unit (fun _ _ _ _=>PUnit.unit) (x)
def neC (q : EqK) (x y : AV) (k : AV → Rz) : Rz:=AV.rec (motive_1:=fun _=>Rz) (motive_2:=fun _=>PUnit) (gbinC .neq q x y k) (fun p a=>int2C x y fun _ a b=>ieqC a b fun t=>k (.bool (!t))) (fun _=>gbinC .neq q x y k) (fun s=>strX y (fun u=>bC (strEqR s u) fun t=>k (.bool (!t))) (gbinC .neq q x y k)) (fun _ _=>gbinC .neq q x y k) (gbinC .neq q x y k) (fun _ _ _ _=>gbinC .neq q x y k) (fun _ _ _=>gbinC .neq q x y k) (gbinC .neq q x y k) (fun _=>gbinC .neq q x y k) (gbinC .neq q x y k) (fun _ _ _ _ _=>gbinC .neq q x y k) (fun _=>gbinC .neq q x y k) (gbinC .neq q x y k) (fun _ _ _=>gbinC .neq q x y k) (gbinC .neq q x y k) (fun _ _=>gbinC .neq q x y k) (fun _ _=>gbinC .neq q x y k) (fun _ _=>gbinC .neq q x y k) (fun _=>gbinC .neq q x y k) (fun _=>gbinC .neq q x y k) (fun _ _ _=>gbinC .neq q x y k) (fun _ _=>gbinC .neq q x y k) PUnit.unit (fun _ _ _ _=>PUnit.unit) (x)
def binC (op : BinOp) : EqK → AV → AV → (AV → Rz) → Rz:=BinOp.rec (motive:=fun _=>EqK → AV → AV → (AV → Rz) → Rz)
  (arC iadd .add) (arC isub .sub) (arC imul .mul) (gbinC .quo) (gbinC .rem) (gbinC .and) (gbinC .or) (gbinC .xor) (gbinC .shl) (gbinC .shr) (gbinC .andNot)
  eqC neC (ltC .lss) (leC .leq) (gtC .gtr) (geC .geq) op
theorem gbinC_eq (op : BinOp) (q : EqK) (x y : AV) (k : AV → Rz) : gbinC op q x y k = optK k (binV op q x y):=opfC_eq _ _
theorem int2C_eq (op : BinOp) (q : EqK) (h1 : op ≠ .shl) (h2 : op ≠ .shr) (x y : AV) (p : IntKind) (a : Int) (hx : x = .int p a) (f : IntKind → Int → Int → Rz) (k : AV → Rz) (hf : ∀ p a b,f p a b = optK k (binInt op p a b)) : int2C x y f = optK k (binV op q x y):=by
  subst hx
  cases y with
  | int r b =>
    show ifC (kEqB p r) (f p a b) = _
    rw [ifC_eq,kEqB_eq,hf]
    cases op <;> first | exact absurd rfl h1 | exact absurd rfl h2 | (simp only [binV]; cases kEq p r <;> rfl)
  | _=>cases op <;> cases q <;> first | exact absurd rfl h1 | exact absurd rfl h2 | rfl
theorem binC_eq (op : BinOp) (q : EqK) (x y : AV) (k : AV → Rz) : binC op q x y k = optK k (binV op q x y):=by
  have gen : ∀ (op : BinOp) (f : IntKind → Int → Int → Rz),op ≠ .shl → op ≠ .shr → (∀ p a b,f p a b = optK k (binInt op p a b)) → isInt x (int2C x y f) (gbinC op q x y k) = optK k (binV op q x y):=fun op f h1 h2 hf=>by
    cases x with
    | int p a=>exact int2C_eq op q h1 h2 _ y p a rfl f k hf
    | _=>exact gbinC_eq _ _ _ _ _
  cases op with
  | add=>exact gen .add _ (by decide) (by decide) fun p a b=>by (rw [wrapC_eq]; rfl)
  | sub=>exact gen .sub _ (by decide) (by decide) fun p a b=>by (rw [wrapC_eq]; rfl)
  | mul=>exact gen .mul _ (by decide) (by decide) fun p a b=>by (rw [wrapC_eq]; rfl)
  | lss=>exact gen .lss _ (by decide) (by decide) fun p a b=>by (rw [iltC_eq]; rfl)
  | leq=>exact gen .leq _ (by decide) (by decide) fun p a b=>by (rw [iltC_eq]; rfl)
  | gtr=>exact gen .gtr _ (by decide) (by decide) fun p a b=>by (rw [iltC_eq]; rfl)
  | geq=>exact gen .geq _ (by decide) (by decide) fun p a b=>by (rw [iltC_eq]; rfl)
  | eql =>
    show eqC q x y k = _
    cases x with
    | int p a=>exact int2C_eq .eql q (by decide) (by decide) _ y p a rfl _ k fun p a b=>by (rw [ieqC_eq]; rfl)
    | str s =>
      show strX y (fun u=>bC (strEqR s u) fun t=>k (.bool t)) (gbinC .eql q (.str s) y k) = _
      cases y with
      | str u=>show bC (strEqR s u) (fun t=>k (.bool t)) = _; rw [bC_eq,strEqR_eq]; rfl
      | _=>exact gbinC_eq _ _ _ _ _
    | _=>exact gbinC_eq _ _ _ _ _
  | neq =>
    show neC q x y k = _
    cases x with
    | int p a=>exact int2C_eq .neq q (by decide) (by decide) _ y p a rfl _ k fun p a b=>by (rw [ieqC_eq]; rfl)
    | str s =>
      show strX y (fun u=>bC (strEqR s u) fun t=>k (.bool (!t))) (gbinC .neq q (.str s) y k) = _
      cases y with
      | str u=>show bC (strEqR s u) (fun t=>k (.bool (!t))) = _; rw [bC_eq,strEqR_eq]; rfl
      | _=>exact gbinC_eq _ _ _ _ _
    | _=>exact gbinC_eq _ _ _ _ _
  | _=>exact gbinC_eq _ _ _ _ _
def F2C (f : F2) : AV → AV → (AV → Rz) → Rz:=F2.rec (motive:=fun _=>AV → AV → (AV → Rz) → Rz)
  (fun op q x y k=>binC op q x y k)
  (fun z x y k=>slcC x fun a o n _=>natvC y fun j=>ifC (Nat.ble (Nat.succ j) n) (natC (Nat.add o (Nat.mul j z)) fun p=>k (.ptr a p)))
  (fun n z x y k=>ptrC x fun a o=>natvC y fun j=>ifC (Nat.ble (Nat.succ j) n) (natC (Nat.add o (Nat.mul j z)) fun p=>k (.ptr a p)))
  (fun n z m x y k=>opfC (F2.ev (.xg n z m) x y) k)
  (fun n z x y k=>opfC (F2.ev (.x1 n z) x y) k)
  (fun x y k=>stxC x (fun s=>natvC y fun j=>lgetC s j fun b=>k (.int .u8 (.ofNat b))) (fun s=>natvC y fun j=>lgetC s j k))
  f
theorem F2C_eq (f : F2) (x y : AV) (k : AV → Rz) : F2C f x y k = optK k (f.ev x y):=by
  cases f with
  | bin op q=>exact binC_eq op q x y k
  | ia z =>
    show slcC x (fun a o n _=>natvC y fun j=>ifC (Nat.ble (Nat.succ j) n) (natC (Nat.add o (Nat.mul j z)) fun p=>k (.ptr a p))) = _
    cases x <;> try rfl
    rename_i a o n z'
    show natvC y (fun j=>ifC (Nat.ble (Nat.succ j) n) (natC (Nat.add o (Nat.mul j z)) fun p=>k (.ptr a p))) = _
    rw [natvC_eq]
    simp only [F2.ev]
    cases natA y with
    | none=>rfl
    | some j =>
      show ifC (Nat.ble (Nat.succ j) n) (natC (Nat.add o (Nat.mul j z)) fun p=>k (.ptr a p)) = optK k (bif Nat.blt j n then some (.ptr a (Nat.add o (Nat.mul j z))) else none)
      rw [natC_eq,ifC_eq,show Nat.blt j n = Nat.ble (Nat.succ j) n from rfl]
      cases Nat.ble (Nat.succ j) n <;> rfl
  | ip m z =>
    show ptrC x (fun a o=>natvC y fun j=>ifC (Nat.ble (Nat.succ j) m) (natC (Nat.add o (Nat.mul j z)) fun p=>k (.ptr a p))) = _
    cases x <;> try rfl
    rename_i a o
    show natvC y (fun j=>ifC (Nat.ble (Nat.succ j) m) (natC (Nat.add o (Nat.mul j z)) fun p=>k (.ptr a p))) = _
    rw [natvC_eq]
    simp only [F2.ev]
    cases natA y with
    | none=>rfl
    | some j =>
      show ifC (Nat.ble (Nat.succ j) m) (natC (Nat.add o (Nat.mul j z)) fun p=>k (.ptr a p)) = optK k (bif Nat.blt j m then some (.ptr a (Nat.add o (Nat.mul j z))) else none)
      rw [natC_eq,ifC_eq,show Nat.blt j m = Nat.ble (Nat.succ j) m from rfl]
      cases Nat.ble (Nat.succ j) m <;> rfl
  | xg n z m=>exact opfC_eq _ _
  | x1 n z=>exact opfC_eq _ _
  | xs =>
    show stxC x (fun s=>natvC y fun j=>lgetC s j fun b=>k (.int .u8 (.ofNat b))) (fun s=>natvC y fun j=>lgetC s j k) = _
    cases x <;> try rfl
    · rename_i s
      show natvC y (fun j=>lgetC s j fun b=>k (.int .u8 (.ofNat b))) = _
      rw [natvC_eq]
      simp only [F2.ev]
      cases natA y with
      | none=>rfl
      | some j =>
        show lgetC s j (fun b=>k (.int .u8 (.ofNat b))) = _
        rw [lgetC_eq]
        dsimp only
        cases s[j]? <;> rfl
    · rename_i s
      show natvC y (fun j=>lgetC s j k) = _
      rw [natvC_eq]
      simp only [F2.ev]
      cases natA y with
      | none=>rfl
      | some j =>
        show lgetC s j k = _
        rw [lgetC_eq]
def piC (i : PI Od) : E → List AV → (AV → Rz) → Rz:=PI.rec (motive:=fun _=>E → List AV → (AV → Rz) → Rz)
  (fun f x e l k=>odC x e l fun v=>F1C f v k)
  (fun f x y e l k=>odC x e l fun v=>odC y e l fun u=>F2C f v u k)
  (fun c a b e l k=>odC c e l fun t=>boolC t (odC a e l k) (odC b e l k))
  (fun x y e l k=>opfC (PI.ev (Od.get e l) (.xm x y)) k)
  (fun x y e l k=>opfC (PI.ev (Od.get e l) (.nm x y)) k)
  (fun f xs ys e l k=>odsC xs e l fun us=>odsC ys e l fun vs=>k (.fn f us vs))
  (fun cs pl xs e l k=>odsC xs e l fun vs=>optK (fun r=>k (.agg r)) (fillP cs pl vs))
  (fun s z x lo hi mx e l k=>opfC (PI.ev (Od.get e l) (.sl s z x lo hi mx)) k)
  i
theorem piC_eq (i : PI Od) (e : E) (l : List AV) (k : AV → Rz) : piC i e l k = optK k (i.ev (Od.get e l)):=by
  cases i with
  | o1 f x=>show odC x e l (fun v=>F1C f v k) = _; rw [odC_eq,F1C_eq]; rfl
  | o2 f x y=>show odC x e l (fun v=>odC y e l fun u=>F2C f v u k) = _; rw [odC_eq,odC_eq,F2C_eq]; rfl
  | pk c a b =>
    show odC c e l (fun t=>boolC t (odC a e l k) (odC b e l k)) = _
    rw [odC_eq,odC_eq,odC_eq,boolC_eq]
    simp only [PI.ev]
    cases c.get e l <;> first | rfl | (rename_i t; cases t <;> rfl)
  | xm x y=>exact opfC_eq _ _
  | nm x y=>exact opfC_eq _ _
  | mk f xs ys=>show odsC xs e l (fun us=>odsC ys e l fun vs=>k (.fn f us vs)) = _; rw [odsC_eq,odsC_eq]; rfl
  | bd cs pl xs =>
    show odsC xs e l (fun vs=>optK (fun r=>k (.agg r)) (fillP cs pl vs)) = _
    rw [odsC_eq]
    simp only [PI.ev]
    cases fillP cs pl (xs.map (Od.get e l)) <;> rfl
  | sl s z x lo hi mx=>exact opfC_eq _ _
end
end Am
end Go.Proofs.YtadbcnekkceoaaaGreatDoor
namespace Go.Proofs.YtadbcnekkceoaaaGreatDoor
namespace Am
noncomputable section
def cellsAB (ob : Option AB) (k : Bool → Nat → T AV → Rz) : Rz:=Option.rec (motive:=fun _=>Rz) none (fun b=>AB.rec (motive:=fun _=>Rz) k (fun _ _=>none) (fun _ _ _ _=>none) (fun _ _ _ _ _=>none) (fun _=>none) (fun _=>none) b) ob
def blkC (t : T AB) (a : Pos) (k : Bool → Nat → T AV → Rz) : Rz:=getC a t fun ob=>cellsAB ob k
theorem blkC_eq (t : T AB) (a : Pos) (k : Bool → Nat → T AV → Rz) : blkC t a k = (match T.get a t with | some (.cells ro n c)=>k ro n c | _=>none):=by
  unfold blkC
  rw [getC_eq]
  cases T.get a t with
  | none=>rfl
  | some b=>cases b <;> rfl
def ld1C (t : T AB) (b : Pos) (o : Nat) (k : AV → Rz) : Rz:=blkC t b fun _ n c=>ifC (Nat.ble (Nat.succ o) n) (atC c o k)
theorem ld1C_eq (t : T AB) (nx b : Pos) (o : Nat) (k : AV → Rz) : ld1C t b o k = optK k (H.load1 ⟨t,nx⟩ b o):=by
  unfold ld1C H.load1 H.get
  rw [blkC_eq]
  cases T.get b t with
  | none=>rfl
  | some x =>
    cases x with
    | cells ro n c =>
      dsimp only
      rw [ifC_eq,atC_eq,show Nat.blt o n = Nat.ble (Nat.succ o) n from rfl]
      cases Nat.ble (Nat.succ o) n <;> rfl
    | _=>rfl
def ldnC (t : T AB) (b : Pos) (o m : Nat) (k : List AV → Rz) : Rz:=blkC t b fun _ n c=>ifC (Nat.ble (Nat.add o m) n) (takeNC c m o k)
theorem ldnC_eq (t : T AB) (nx b : Pos) (o m : Nat) (k : List AV → Rz) : ldnC t b o m k = optK k (H.load ⟨t,nx⟩ b o m):=by
  unfold ldnC H.load H.get
  rw [blkC_eq]
  cases T.get b t with
  | none=>rfl
  | some x =>
    cases x with
    | cells ro n c =>
      dsimp only
      rw [ifC_eq,takeNC_eq]
      cases Nat.ble (Nat.add o m) n <;> rfl
    | _=>rfl
def oneR (v : AV) : Bool:=AV.rec (motive_1:=fun _=>Bool) (motive_2:=fun _=>PUnit) (false) (fun _ _=>true) (fun _=>true) (fun _=>true) (fun _ _=>true) (true) (fun _ _ _ _=>true) (fun _ _ _=>true) (true) (fun _=>true) (true) (fun _ _ _ _ _=>true) (fun _=>true) (true) (fun _ _ _=>true) (true) (fun s _=>false) (fun s _=>false) (fun _ _=>true) (fun _=>true) (fun _=>true) (fun a g z=>false) (fun _ _=>true) PUnit.unit (fun _ _ _ _=>PUnit.unit) (v)
def onesR (l : List AV) : Bool:=List.rec (motive:=fun _=>Bool) true (fun v _ ih=>Bool.rec (motive:=fun _=>Bool) false ih (oneR v)) l
theorem onesR_eq : ∀ l : List AV,onesR l = ones l
  | []=>rfl
  | v :: l=>by
    show Bool.rec (motive:=fun _=>Bool) false (onesR l) (oneR v) = _
    rw [onesR_eq l,show oneR v = v.one by cases v <;> rfl,ones]
    cases v.one <;> rfl
def stC (t : T AB) (b : Pos) (o : Nat) (cs : List AV) (k : T AB → Rz) : Rz :=
  blkC t b fun ro n c=>Bool.rec (motive:=fun _=>Rz) (ifC (Nat.ble (Nat.add o (lenR cs)) n) (ifC (onesR cs) (layNC cs c o fun c=>setC (some (.cells false n c)) b t k))) none ro
theorem stC_eq (t : T AB) (nx b : Pos) (o : Nat) (cs : List AV) (k : T AB → Rz) : stC t b o cs k = optK (fun h=>k h.t) (H.store ⟨t,nx⟩ b o cs):=by
  unfold stC H.store H.get
  rw [blkC_eq]
  cases T.get b t with
  | none=>rfl
  | some x =>
    cases x with
    | cells ro n c =>
      cases ro with
      | true=>rfl
      | false =>
        dsimp only
        rw [lenR_eq,onesR_eq,ifC_eq,ifC_eq,layNC_eq,setC_eq]
        cases Nat.ble (Nat.add o cs.length) n <;> cases ones cs <;> rfl
    | _=>rfl
def riC (i : RI Od) : E → List AV → T AB → Pos → (AV → Rz) → Rz:=RI.rec (motive:=fun _=>E → List AV → T AB → Pos → (AV → Rz) → Rz)
  (fun x e l t _ k=>odC x e l fun v=>ptrC v fun b o=>ld1C t b o k)
  (fun n x e l t _ k=>odC x e l fun v=>ptrC v fun b o=>ldnC t b o n fun cs=>k (.agg cs))
  (fun q z ok x i e l t nx k=>opfC (RI.ev (Od.get e l) ⟨t,nx⟩ (.lk q z ok x i)) k)
  (fun i e l t nx k=>opfC (RI.ev (Od.get e l) ⟨t,nx⟩ (.en i)) k)
  (fun x e l t nx k=>opfC (RI.ev (Od.get e l) ⟨t,nx⟩ (.lm x)) k)
  (fun n z x lo hi e l t nx k=>opfC (RI.ev (Od.get e l) ⟨t,nx⟩ (.sa n z x lo hi)) k)
  i
theorem riC_eq (i : RI Od) (e : E) (l : List AV) (t : T AB) (nx : Pos) (k : AV → Rz) : riC i e l t nx k = optK k (i.ev (Od.get e l) ⟨t,nx⟩):=by
  cases i with
  | l1 x =>
    show odC x e l (fun v=>ptrC v fun b o=>ld1C t b o k) = _
    rw [odC_eq,ptrC_eq]
    simp only [RI.ev]
    cases x.get e l <;> first | rfl | exact ld1C_eq _ _ _ _ _
  | ln n x =>
    show odC x e l (fun v=>ptrC v fun b o=>ldnC t b o n fun cs=>k (.agg cs)) = _
    rw [odC_eq,ptrC_eq]
    simp only [RI.ev]
    cases x.get e l <;> try rfl
    dsimp only
    rw [ldnC_eq t nx]
    generalize H.load _ _ _ _ = r
    cases r <;> rfl
  | _=>exact opfC_eq _ _
def ofLC (l : List AV) (k : AB → Rz) : Rz:=layNC l .leaf 0 fun c=>natC (lenR l) fun n=>k (.cells false n c)
theorem ofLC_eq (l : List AV) (k : AB → Rz) : ofLC l k = k (AB.ofL l):=by
  unfold ofLC
  rw [layNC_eq,natC_eq,lenR_eq]; rfl
def aiC (i : AI Od) : E → List AV → Pos → (AV → AB → Rz) → Rz:=AI.rec (motive:=fun _=>E → List AV → Pos → (AV → AB → Rz) → Rz)
  (fun b _ _ a k=>k (.ptr a 0) b)
  (fun x e l a k=>odC x e l fun v=>cellsC v fun cs=>ofLC cs fun b=>k (.ptr a 0) b)
  (fun n z cs pl xs e l a k=>odsC xs e l fun vs=>optK (fun r=>ofLC r fun b=>k (.slc a 0 n z) b) (fillP cs pl vs))
  (fun _ _ a k=>k (.map a) (.mp [] 0))
  (fun z zs x y e l a k=>optK (fun (p : AV × AB)=>frcC p.1 fun v=>k v p.2) (AI.ev (Od.get e l) a (.ms z zs x y)))
  (fun t x e l a k=>optK (fun (p : AV × AB)=>frcC p.1 fun v=>k v p.2) (AI.ev (Od.get e l) a (.bm t x)))
  i
theorem aiC_eq (i : AI Od) (e : E) (l : List AV) (a : Pos) (k : AV → AB → Rz) : aiC i e l a k = optK (fun p=>k p.1 p.2) (i.ev (Od.get e l) a):=by
  cases i with
  | al b=>rfl
  | bx x =>
    show odC x e l (fun v=>cellsC v fun cs=>ofLC cs fun b=>k (.ptr a 0) b) = _
    rw [odC_eq,cellsC_eq]
    simp only [AI.ev]
    cases cellsA (x.get e l) with
    | none=>rfl
    | some cs=>exact ofLC_eq _ _
  | bs n z cs pl xs =>
    show odsC xs e l (fun vs=>optK (fun r=>ofLC r fun b=>k (.slc a 0 n z) b) (fillP cs pl vs)) = _
    rw [odsC_eq]
    simp only [AI.ev]
    cases fillP cs pl (xs.map (Od.get e l)) with
    | none=>rfl
    | some r=>exact ofLC_eq _ _
  | mm=>rfl
  | ms z zs x y =>
    show optK (fun (p : AV × AB)=>frcC p.1 fun v=>k v p.2) _ = _
    cases AI.ev (Od.get e l) a (.ms z zs x y) with
    | none=>rfl
    | some p =>
      show frcC p.1 (fun v=>k v p.2) = _
      rw [frcC_eq]; rfl
  | bm t x =>
    show optK (fun (p : AV × AB)=>frcC p.1 fun v=>k v p.2) _ = _
    cases AI.ev (Od.get e l) a (.bm t x) with
    | none=>rfl
    | some p =>
      show frcC p.1 (fun v=>k v p.2) = _
      rw [frcC_eq]; rfl
def srcC (t : T AB) (z : Nat) (v : AV) (k : Nat → List AV → Rz) : Rz:=AV.rec (motive_1:=fun _=>Rz) (motive_2:=fun _=>PUnit) (none) (fun _ _=>none) (fun _=>none) (fun _=>none) (fun _ _=>none) (none) (fun b p n _=>Bool.rec (motive:=fun _=>Rz) (natC (Nat.mul n z) fun m=>ldnC t b p m fun l=>k n l) (k 0 []) (Nat.beq n 0)) (fun a o z=>k 0 []) (k 0 []) (fun _=>none) (none) (fun _ _ _ _ _=>none) (fun _=>none) (none) (fun _ _ _=>none) (none) (fun _ _=>none) (fun _ _=>none) (fun _ _=>none) (fun _=>none) (fun _=>none) (fun _ _ _=>none) (fun _ _=>none) PUnit.unit (fun _ _ _ _=>PUnit.unit) (v)
theorem srcC_eq (t : T AB) (nx : Pos) (z : Nat) (v : AV) (k : Nat → List AV → Rz) : srcC t z v k = optK (fun p=>k p.1 p.2) (srcA ⟨t,nx⟩ z v):=by
  cases v <;> try rfl
  rename_i b p n y
  show Bool.rec (motive:=fun _=>Rz) (natC (Nat.mul n z) fun m=>ldnC t b p m fun l=>k n l) (k 0 []) (Nat.beq n 0) = _
  simp only [srcA]
  cases Nat.beq n 0 with
  | true=>rfl
  | false =>
    show natC (Nat.mul n z) (fun m=>ldnC t b p m fun l=>k n l) = _
    rw [natC_eq,ldnC_eq t nx]
    simp only [cond_false]
    cases H.load ⟨t,nx⟩ b p (Nat.mul n z) <;> rfl
def newC (t : T AB) (a : Pos) (z k : Nat) (l : List AV) (kv : AV → T AB → Rz) : Rz:=ifC (Nat.ble k 1000000000) (ofLC l fun b=>setC (some b) a t fun t=>kv (.slc a 0 k z) t)
def appC (t : T AB) (a : Pos) (z k : Nat) (l : List AV) (s : AV) (kv : AV → T AB → Rz) : Rz:=Bool.rec (motive:=fun _=>Rz) (ifC (onesR l) (AV.rec (motive_1:=fun _=>Rz) (motive_2:=fun _=>PUnit) (none) (fun _ _=>none) (fun _=>none) (fun _=>none) (fun _ _=>none) (none) (fun b o n y=>ifC (Nat.beq o 0) (ifC (Nat.beq y z) (natC (Nat.add n k) fun m=>ifC (Nat.ble m 1000000000) (natC (Nat.mul n z) fun q0=>blkC t b fun ro q c=>Bool.rec (motive:=fun _=>Rz) (ifC (Nat.ble q0 q) (getC mkP c fun y=>Option.rec (motive:=fun _=>Rz) (layNC l c q0 fun c=>setC none b t fun t=>natC (Nat.add q0 (lenR l)) fun w=>setC (some (.cells false w c)) a t fun t=>kv (.slc a 0 m z) t) (fun _=>none) y)) none ro)))) (fun b o y=>newC t a z k l kv) (newC t a z k l kv) (fun _=>none) (none) (fun _ _ _ _ _=>none) (fun _=>none) (none) (fun _ _ _=>none) (none) (fun _ _=>none) (fun _ _=>none) (fun _ _=>none) (fun _=>none) (fun _=>none) (fun _ _ _=>none) (fun _ _=>none) PUnit.unit (fun _ _ _ _=>PUnit.unit) (s))) (AV.rec (motive_1:=fun _=>Rz) (motive_2:=fun _=>PUnit) (none) (fun _ _=>none) (fun _=>none) (fun _=>none) (fun _ _=>none) (none) (fun b o n y=>kv (.slc b o n y) t) (fun b o y=>kv (.slcE b o y) t) (kv .nils t) (fun _=>none) (none) (fun _ _ _ _ _=>none) (fun _=>none) (none) (fun _ _ _=>none) (none) (fun _ _=>none) (fun _ _=>none) (fun _ _=>none) (fun _=>none) (fun _=>none) (fun _ _ _=>none) (fun _ _=>none) PUnit.unit (fun _ _ _ _=>PUnit.unit) (s)) (Nat.beq k 0)
theorem newC_eq (t : T AB) (a : Pos) (z k : Nat) (l : List AV) (kv : AV → T AB → Rz) : newC t a z k l kv = (bif Nat.ble k 1000000000 then kv (.slc a 0 k z) (T.set a (some (AB.ofL l)) t) else none):=by
  unfold newC
  rw [ifC_eq,ofLC_eq,setC_eq]
theorem appC_eq (t : T AB) (nx a : Pos) (z k : Nat) (l : List AV) (s : AV) (kv : AV → T AB → Rz) : appC t a z k l s kv = optK (fun p=>kv p.1 p.2.t) (appA ⟨t,nx⟩ a z k l s):=by
  unfold appC appA
  cases Nat.beq k 0 with
  | true=>cases s <;> rfl
  | false =>
    simp only [cond_false]
    rw [onesR_eq]
    cases ones l with
    | false=>rfl
    | true =>
      simp only [cond_true]
      cases s <;> try rfl
      · rename_i b o n y
        show ifC (Nat.beq o 0) (ifC (Nat.beq y z) (natC (Nat.add n k) fun m=>ifC (Nat.ble m 1000000000) (natC (Nat.mul n z) fun q0=>blkC t b fun ro q c=>Bool.rec (motive:=fun _=>Rz) (ifC (Nat.ble q0 q) (getC mkP c fun y=>Option.rec (motive:=fun _=>Rz) (layNC l c q0 fun c=>setC none b t fun t=>natC (Nat.add q0 (lenR l)) fun w=>setC (some (.cells false w c)) a t fun t=>kv (.slc a 0 m z) t) (fun _=>none) y)) none ro))) = _
        rw [ifC_eq,ifC_eq,natC_eq,ifC_eq,natC_eq,blkC_eq]
        dsimp only
        cases Nat.beq o 0 with
        | false=>rfl
        | true =>
          cases Nat.beq y z with
          | false=>rfl
          | true =>
            cases Nat.ble (Nat.add n k) 1000000000 with
            | false=>rfl
            | true =>
              simp only [cond_true,Bool.and_self]
              show _ = optK _ (match T.get b t with | some (.cells false q c)=>_ | _=>none)
              cases T.get b t with
              | none=>rfl
              | some x =>
                cases x with
                | cells ro q c =>
                  cases ro with
                  | true=>rfl
                  | false =>
                    dsimp only
                    rw [ifC_eq,getC_eq]
                    unfold noMk
                    cases T.get mkP c with
                    | some y=>cases Nat.ble (Nat.mul n z) q <;> rfl
                    | none =>
                      show (bif Nat.ble (Nat.mul n z) q then layNC l c (Nat.mul n z) (fun c=>setC none b t fun t=>natC (Nat.add (Nat.mul n z) (lenR l)) fun w=>setC (some (.cells false w c)) a t fun t=>kv (.slc a 0 (Nat.add n k) z) t) else none) = _
                      rw [layNC_eq,setC_eq,natC_eq,setC_eq,lenR_eq]
                      cases Nat.ble (Nat.mul n z) q <;> rfl
                | _=>rfl
      · show newC t a z k l kv = _
        rw [newC_eq]
        cases Nat.ble k 1000000000 <;> rfl
      · show newC t a z k l kv = _
        rw [newC_eq]
        cases Nat.ble k 1000000000 <;> rfl
abbrev KR:=AV → T AB → Pos → Pn → Rz
abbrev KV:=AV → T AB → Pos → Fx → Rz
abbrev CallK:=Bool → AV → List AV → Pn → T AB → Pos → KR → KR → Rz
def CallEq (ck : CallK) (call : CallF) : Prop:=∀ df c as pn t nx kr kp,ck df c as pn t nx kr kp = (match call df c as pn ⟨t,nx⟩ with | some (.ret v h p)=>kr v h.t h.next p | some (.pan v h p)=>kp v h.t h.next p | none=>none)
def rowC (i : HI Od) (e : E) (l : List AV) (t : T AB) (nx a : Pos) (f : Fx) (kv : KV) : Rz:=optK (fun p=>frcC p.1 fun v=>kv v p.2.t p.2.next f) (i.row (Od.get e l) ⟨t,nx⟩ a)
abbrev HK:=Bool → CallK → E → List AV → T AB → Pos → Pos → Fx → KV → KV → Rz
def hiC (i : HI Od) : HK:=HI.rec (motive:=fun _=>HK)
  (fun n p x _ _ e l t nx _ f kv _=>odC p e l fun v=>ptrC v fun b o=>odC x e l fun u=>cellsC u fun cs=>ifC (Nat.beq (lenR cs) n) (stC t b o cs fun t=>kv .junk t nx f))
  (fun q x k v _ _ e l t nx a f kv _=>rowC (.hmu q x k v) e l t nx a f kv)
  (fun q z x k _ _ e l t nx a f kv _=>rowC (.hme q z x k) e l t nx a f kv)
  (fun x s v _ _ e l t nx a f kv _=>rowC (.hes x s v) e l t nx a f kv)
  (fun x _ _ e l t nx a f kv _=>rowC (.hrg x) e l t nx a f kv)
  (fun i _ _ e l t nx a f kv _=>rowC (.hnx i) e l t nx a f kv)
  (fun z s x _ _ e l t nx a f kv _=>odC x e l fun u=>srcC t z u fun k cs=>odC s e l fun v=>appC t a z k cs v fun r t=>kv r t nx f)
  (fun z zs s k _ _ e l t nx a f kv _=>rowC (.haz z zs s k) e l t nx a f kv)
  (fun z d x _ _ e l t nx a f kv _=>rowC (.hcy z d x) e l t nx a f kv)
  (fun zs x _ _ e l t nx a f kv _=>rowC (.hcl zs x) e l t nx a f kv)
  (fun q x k _ _ e l t nx a f kv _=>rowC (.hde q x k) e l t nx a f kv)
  (fun x _ _ e l t nx _ f _ kp=>odC x e l fun v=>AV.rec (motive_1:=fun _=>Rz) (motive_2:=fun _=>PUnit) (none) (fun _ _=>none) (fun _=>none) (fun _=>none) (fun _ _=>none) (none) (fun _ _ _ _=>none) (fun _ _ _=>none) (none) (fun _=>none) (none) (fun _ _ _ _ _=>none) (fun _=>none) (none) (fun ty u _=>kp (.ifc ty u) t nx f) (none) (fun _ _=>none) (fun _ _=>none) (fun _ _=>none) (fun _=>none) (fun _=>none) (fun _ _ _=>none) (fun _ _=>none) PUnit.unit (fun _ _ _ _=>PUnit.unit) (v))
  (fun x xs rnd _ e l t nx _ f kv _=>Bool.rec (motive:=fun _=>Rz) (odC x e l fun v=>odsC xs e l fun us=>AV.rec (motive_1:=fun _=>Rz) (motive_2:=fun _=>PUnit) (none) (fun _ _=>none) (fun _=>none) (fun _=>none) (fun _ _=>none) (none) (fun _ _ _ _=>none) (fun _ _ _=>none) (none) (fun _=>none) (none) (fun n y z _ _=>kv (.tup []) t nx ⟨(.fn n y z,us) :: f.dfs,f.pn⟩) (fun _=>none) (none) (fun _ _ _=>none) (none) (fun _ _=>none) (fun _ _=>none) (fun _ _=>none) (fun _=>none) (fun _=>none) (fun _ _ _=>none) (fun _ _=>none) PUnit.unit (fun _ _ _ _=>PUnit.unit) (v)) none rnd)
  (fun rnd _ _ _ t nx _ f kv _=>Bool.rec (motive:=fun _=>Rz) (kv f.pn.gives.1 t nx ⟨f.dfs,f.pn.gives.2⟩) none rnd)
  (fun x xs _ ck e l t nx _ f kv kp=>odC x e l fun v=>odsC xs e l fun us=>ck false v us .no t nx (fun u t nx _=>kv u t nx f) (fun u t nx _=>kp u t nx f))
  (fun x _ _ e l t nx a f kv _=>rowC (.hcb x) e l t nx a f kv)
  (fun q s x _ _ e l t nx a f kv _=>rowC (.has q s x) e l t nx a f kv)
  i
theorem rowC_eq (i : HI Od) (e : E) (l : List AV) (t : T AB) (nx a : Pos) (f : Fx) (kv kp : KV) : rowC i e l t nx a f kv = (match rowH f (i.row (Od.get e l) ⟨t,nx⟩ a) with | some (.val v h f')=>kv v h.t h.next f' | some (.pan v h f')=>kp v h.t h.next f' | none=>none):=by
  unfold rowC
  cases i.row (Od.get e l) ⟨t,nx⟩ a with
  | none=>rfl
  | some p =>
    show frcC p.1 (fun v=>kv v p.2.t p.2.next f) = _
    rw [frcC_eq]; rfl
theorem hiC_eq {ck : CallK} {call : CallF} (hc : CallEq ck call) (i : HI Od) (rnd : Bool) (e : E) (l : List AV) (t : T AB) (nx a : Pos) (f : Fx) (kv kp : KV) :
    hiC i rnd ck e l t nx a f kv kp = (match i.ev rnd call (Od.get e l) ⟨t,nx⟩ a f with | some (.val v h f')=>kv v h.t h.next f' | some (.pan v h f')=>kp v h.t h.next f' | none=>none):=by
  cases i with
  | hst n p x =>
    show odC p e l (fun v=>ptrC v fun b o=>odC x e l fun u=>cellsC u fun cs=>ifC (Nat.beq (lenR cs) n) (stC t b o cs fun t=>kv .junk t nx f)) = _
    rw [odC_eq,ptrC_eq]
    simp only [HI.ev,HI.row]
    cases p.get e l <;> try rfl
    rename_i b o
    dsimp only
    rw [odC_eq,cellsC_eq]
    cases cellsA (x.get e l) with
    | none=>rfl
    | some cs =>
      show ifC (Nat.beq (lenR cs) n) (stC t b o cs fun t=>kv .junk t nx f) = _
      rw [ifC_eq,lenR_eq,stC_eq t nx]
      dsimp only
      cases Nat.beq cs.length n with
      | false=>rfl
      | true =>
        simp only [cond_true]
        unfold H.store
        simp only [optK,rowH]
        split <;> try rfl
        cases (Nat.ble (Nat.add o cs.length) _ && ones cs) <;> rfl
  | hap z s x =>
    show odC x e l (fun u=>srcC t z u fun k cs=>odC s e l fun v=>appC t a z k cs v fun r t=>kv r t nx f) = _
    rw [odC_eq,srcC_eq t nx]
    simp only [HI.ev,HI.row]
    cases srcA ⟨t,nx⟩ z (x.get e l) with
    | none=>rfl
    | some p =>
      obtain ⟨k,cs⟩:=p
      show odC s e l (fun v=>appC t a z k cs v fun r t=>kv r t nx f) = _
      rw [odC_eq,appC_eq t nx]
      dsimp only
      have hn : ∀ v h',appA ⟨t,nx⟩ a z k cs (s.get e l) = some (v,h') → h'.next = nx:=fun v h' hh=>by
        unfold appA at hh
        generalize Nat.beq k 0 = b0 at hh
        cases b0 with
        | true=>rw [cond_true] at hh; split at hh <;> first | (injection hh with hh; injection hh with _ hh; subst hh; rfl) | cases hh
        | false =>
          rw [cond_false] at hh
          generalize ones cs = b1 at hh
          cases b1 with
          | false=>cases hh
          | true =>
            rw [cond_true] at hh
            split at hh
            · cases hb : Nat.ble k 1000000000 <;> rw [hb] at hh <;> first | (cases hh; done) | (injection hh with hh; injection hh with _ hh; subst hh; rfl)
            · cases hb : Nat.ble k 1000000000 <;> rw [hb] at hh <;> first | (cases hh; done) | (injection hh with hh; injection hh with _ hh; subst hh; rfl)
            · generalize (Nat.beq _ 0 && Nat.beq _ z && Nat.ble _ 1000000000) = bb at hh
              cases bb with
              | false=>cases hh
              | true =>
                rw [cond_true] at hh
                split at hh <;> try (cases hh; done)
                generalize (Nat.ble _ _ && noMk _) = bb at hh
                cases bb with
                | false=>cases hh
                | true=>injection hh with hh; injection hh with _ hh; subst hh; rfl
            · cases hh
      cases ha : appA ⟨t,nx⟩ a z k cs (s.get e l) with
      | none=>rfl
      | some p =>
        obtain ⟨v,h'⟩:=p
        show kv v h'.t nx f = kv v h'.t h'.next f
        rw [hn v h' ha]
  | hpn x =>
    show odC x e l _ = _
    rw [odC_eq]
    simp only [HI.ev]
    cases x.get e l <;> rfl
  | hdf x xs =>
    cases rnd with
    | true=>rfl
    | false =>
      show odC x e l _ = _
      rw [odC_eq,odsC_eq]
      simp only [HI.ev]
      cases x.get e l <;> rfl
  | hrc=>cases rnd <;> rfl
  | hca x xs =>
    show odC x e l _ = _
    rw [odC_eq,odsC_eq,hc]
    simp only [HI.ev]
    cases call false (x.get e l) (xs.map (Od.get e l)) .no ⟨t,nx⟩ with
    | none=>rfl
    | some r=>cases r <;> rfl
  | _=>exact rowC_eq _ _ _ _ _ _ _ _ _
end
end Am
end Go.Proofs.YtadbcnekkceoaaaGreatDoor
namespace Go.Proofs.YtadbcnekkceoaaaGreatDoor
namespace Am
noncomputable section
structure KCx where
  rnd : Bool
  ck : CallK
  e : E
  base : Pos
  kok : List AV → T AB → Pos → Fx → Rz
  kpan : KV
abbrev KS:=KCx → List AV → List (Option AB) → T AB → Pos → Fx → Rz
def bxR (a b : Bool) (x y : Rz) : Rz:=Bool.rec (motive:=fun _=>Rz) (Bool.rec (motive:=fun _=>Rz) x y b) (Bool.rec (motive:=fun _=>Rz) y x b) a
theorem bxR_eq (a b : Bool) (x y : Rz) : bxR a b x y = (bif a == b then x else y):=by cases a <;> cases b <;> rfl
def grdC (g : Grd) (e : E) (l : List AV) (yes no : Rz) : Rz:=Option.rec (motive:=fun _=>Rz) yes (fun p=>odC p.1 e l fun v=>AV.rec (motive_1:=fun _=>Rz) (motive_2:=fun _=>PUnit) (none) (fun _ _=>none) (fun b=>bxR b p.2 yes no) (fun _=>none) (fun _ _=>none) (none) (fun _ _ _ _=>none) (fun _ _ _=>none) (none) (fun _=>none) (none) (fun _ _ _ _ _=>none) (fun _=>none) (none) (fun _ _ _=>none) (none) (fun _ _=>none) (fun s _=>List.rec (motive:=fun _=>Rz) no (fun _ _ _=>none) s) (fun _ _=>none) (fun _=>none) (fun _=>none) (fun _ _ _=>none) (fun _ _=>none) PUnit.unit (fun _ _ _ _=>PUnit.unit) (v)) g
theorem grdC_eq (g : Grd) (e : E) (l : List AV) (yes no : Rz) : grdC g e l yes no = (match grdV e l g with | some true=>yes | some false=>no | none=>none):=by
  cases g with
  | none=>rfl
  | some p =>
    obtain ⟨x,want⟩:=p
    show odC x e l _ = _
    rw [odC_eq]
    simp only [grdV]
    cases x.get e l <;> try rfl
    · rename_i b
      show bxR b want yes no = _
      rw [bxR_eq]
      dsimp only
      cases b == want <;> rfl
    · rename_i s; cases s <;> rfl
def nthBC (lb : List (Option AB)) : Nat → (Option AB → Rz) → Rz :=
  List.rec (motive:=fun _=>Nat → (Option AB → Rz) → Rz) (fun _ _=>none) (fun a _ ih n k=>Nat.rec (motive:=fun _=>Rz) (k a) (fun m _=>ih m k) n) lb
theorem nthBC_eq : ∀ (l : List (Option AB)) (n : Nat) (k : Option AB → Rz),nthBC l n k = optK k (nthB l n)
  | [],n,k=>by cases n <;> rfl
  | a :: l,0,k=>rfl
  | a :: l,n + 1,k=>nthBC_eq l n k
def sameC (v u : AV) (k : Rz) : Rz:=AV.rec (motive_1:=fun _=>Rz) (motive_2:=fun _=>PUnit) (ifC (AV.same v u) k) (fun p a=>intC u fun q b=>ifC (kEqB p q) (ieqC a b fun t=>ifC t k)) (fun b=>boolC u (bxR b true k none) (bxR b false k none)) (fun _=>ifC (AV.same v u) k) (fun _ _=>ifC (AV.same v u) k) (ifC (AV.same v u) k) (fun _ _ _ _=>ifC (AV.same v u) k) (fun _ _ _=>ifC (AV.same v u) k) (ifC (AV.same .nils u) k) (fun _=>ifC (AV.same v u) k) (ifC (AV.same v u) k) (fun _ _ _ _ _=>ifC (AV.same v u) k) (fun _=>ifC (AV.same v u) k) (ifC (AV.same v u) k) (fun _ _ _=>ifC (AV.same v u) k) (ifC (AV.same v u) k) (fun _ _=>ifC (AV.same v u) k) (fun _ _=>ifC (AV.same v u) k) (fun _ _=>ifC (AV.same v u) k) (fun _=>ifC (AV.same v u) k) (fun _=>ifC (AV.same v u) k) (fun _ _ _=>ifC (AV.same v u) k) (fun _ _=>ifC (AV.same v u) k) PUnit.unit (fun _ _ _ _=>PUnit.unit) (v)
theorem sameC_eq (v u : AV) (k : Rz) : sameC v u k = (match AV.same v u with | true=>k | false=>none):=by
  have gen : ∀ b : Bool,ifC b k = (match b with | true=>k | false=>none):=fun b=>by cases b <;> rfl
  cases v with
  | int p a =>
    show intC u (fun q b=>ifC (kEqB p q) (ieqC a b fun t=>ifC t k)) = _
    rw [intC_eq]
    cases u <;> try rfl
    rename_i q b
    dsimp only
    rw [ifC_eq,kEqB_eq,ieqC_eq,ifC_eq]
    have : kbeq p q = kEq p q:=by cases p <;> cases q <;> rfl
    simp only [AV.same,this]
    cases kEq p q <;> cases ieq a b <;> rfl
  | bool b =>
    show boolC u (bxR b true k none) (bxR b false k none) = _
    rw [boolC_eq]
    cases u <;> try rfl
    rename_i c
    cases b <;> cases c <;> rfl
  | junk  => show ifC (AV.same (.junk ) u) k = _; exact gen (AV.same (.junk ) u)
  | str s=>show ifC (AV.same (.str s) u) k = _; exact gen (AV.same (.str s) u)
  | ptr a o=>show ifC (AV.same (.ptr a o) u) k = _; exact gen (AV.same (.ptr a o) u)
  | nilp  => show ifC (AV.same (.nilp ) u) k = _; exact gen (AV.same (.nilp ) u)
  | slc a o n z=>show ifC (AV.same (.slc a o n z) u) k = _; exact gen (AV.same (.slc a o n z) u)
  | slcE a o z=>show ifC (AV.same (.slcE a o z) u) k = _; exact gen (AV.same (.slcE a o z) u)
  | nils  => show ifC (AV.same (.nils ) u) k = _; exact gen (AV.same (.nils ) u)
  | map a=>show ifC (AV.same (.map a) u) k = _; exact gen (AV.same (.map a) u)
  | nilm  => show ifC (AV.same (.nilm ) u) k = _; exact gen (AV.same (.nilm ) u)
  | fn f x y=>show ifC (AV.same (.fn f x y) u) k = _; exact gen (AV.same (.fn f x y) u)
  | yld a=>show ifC (AV.same (.yld a) u) k = _; exact gen (AV.same (.yld a) u)
  | nilf  => show ifC (AV.same (.nilf ) u) k = _; exact gen (AV.same (.nilf ) u)
  | ifc t v=>show ifC (AV.same (.ifc t v) u) k = _; exact gen (AV.same (.ifc t v) u)
  | nili  => show ifC (AV.same (.nili ) u) k = _; exact gen (AV.same (.nili ) u)
  | agg s=>show ifC (AV.same (.agg s) u) k = _; exact gen (AV.same (.agg s) u)
  | tup s=>show ifC (AV.same (.tup s) u) k = _; exact gen (AV.same (.tup s) u)
  | ltr q a=>show ifC (AV.same (.ltr q a) u) k = _; exact gen (AV.same (.ltr q a) u)
  | ge n=>show ifC (AV.same (.ge n) u) k = _; exact gen (AV.same (.ge n) u)
  | tyv n=>show ifC (AV.same (.tyv n) u) k = _; exact gen (AV.same (.tyv n) u)
  | glb a g z=>show ifC (AV.same (.glb a g z) u) k = _; exact gen (AV.same (.glb a g z) u)
  | txt l=>show ifC (AV.same (.txt l) u) k = _; exact gen (AV.same (.txt l) u)
def irSC (is : List IStep) : KS:=List.rec (motive:=fun _=>KS) (fun c l _ t nx f=>c.kok l t nx f)
  (fun s _ ih=>IStep.rec (motive:=fun _=>KS → KS)
    (fun g i ih c l lb t nx f=>grdC g c.e l (piC i c.e l fun v=>ih c (v :: l) lb t nx f) (ih c (.tup [] :: l) lb t nx f))
    (fun g i ih c l lb t nx f=>grdC g c.e l (riC i c.e l t nx fun v=>ih c (v :: l) lb t nx f) (ih c (.tup [] :: l) lb t nx f))
    (fun g i k ih c l lb t nx f=>grdC g c.e l (addC c.base k fun a=>aiC i c.e l a fun v b=>ih c (v :: l) (some b :: lb) t nx f) (ih c (.tup [] :: l) (none :: lb) t nx f))
    (fun n k ih c l lb t nx f=>nthBC lb n fun ob=>Option.rec (motive:=fun _=>Rz) (ih c l lb t nx f) (fun b=>addC c.base k fun a=>setC (some b) a t fun t=>ih c l lb t nx f) ob)
    (fun g i k ih c l lb t nx f=>grdC g c.e l (addC c.base k fun a=>hiC i c.rnd c.ck c.e l t nx a f (fun v t nx f=>ih c (v :: l) lb t nx f) c.kpan) (ih c (.tup [] :: l) lb t nx f))
    (fun g i n ih c l lb t nx f=>grdC g c.e l (riC i c.e l t nx fun v=>odC n c.e l fun u=>sameC v u (ih c l lb t nx f)) (ih c l lb t nx f))
    (fun x y ih c l lb t nx f=>odC x c.e l fun v=>odC y c.e l fun u=>ptrC v fun a _=>ptrC u fun b _=>Bool.rec (motive:=fun _=>Rz) (ih c l lb t nx f) none (Pos.beq a b))
    s ih) is
theorem irSC_eq {call : CallF} : ∀ (is : List IStep) (c : KCx) (_ : CallEq c.ck call) (l : List AV) (lb : List (Option AB)) (t : T AB) (nx : Pos) (f : Fx),
    irSC is c l lb t nx f = (match irS c.rnd call c.e c.base is l lb ⟨t,nx⟩ f with | some (.ok l h f)=>c.kok l h.t h.next f | some (.pan v h f)=>c.kpan v h.t h.next f | none=>none)
  | [],c,hc,l,lb,t,nx,f=>rfl
  | s :: is,c,hc,l,lb,t,nx,f=>by
    have ih:=irSC_eq is c hc
    cases s with
    | p g i =>
      show grdC g c.e l (piC i c.e l fun v=>irSC is c (v :: l) lb t nx f) (irSC is c (.tup [] :: l) lb t nx f) = _
      rw [grdC_eq,piC_eq,ih]
      simp only [irS]
      cases grdV c.e l g with
      | none=>rfl
      | some b =>
        cases b with
        | false=>rfl
        | true =>
          dsimp only
          cases i.ev (Od.get c.e l) with
          | none=>rfl
          | some v=>exact ih _ _ _ _ _
    | r g i =>
      show grdC g c.e l (riC i c.e l t nx fun v=>irSC is c (v :: l) lb t nx f) (irSC is c (.tup [] :: l) lb t nx f) = _
      rw [grdC_eq,riC_eq,ih]
      simp only [irS]
      cases grdV c.e l g with
      | none=>rfl
      | some b =>
        cases b with
        | false=>rfl
        | true =>
          dsimp only
          cases i.ev (Od.get c.e l) ⟨t,nx⟩ with
          | none=>rfl
          | some v=>exact ih _ _ _ _ _
    | a g i k =>
      show grdC g c.e l (addC c.base k fun a=>aiC i c.e l a fun v b=>irSC is c (v :: l) (some b :: lb) t nx f) (irSC is c (.tup [] :: l) (none :: lb) t nx f) = _
      rw [grdC_eq,addC_eq,aiC_eq,ih]
      simp only [irS]
      cases grdV c.e l g with
      | none=>rfl
      | some b =>
        cases b with
        | false=>rfl
        | true =>
          dsimp only
          cases i.ev (Od.get c.e l) (c.base.add k) with
          | none=>rfl
          | some p=>exact ih _ _ _ _ _
    | l n k =>
      show nthBC lb n (fun ob=>Option.rec (motive:=fun _=>Rz) (irSC is c l lb t nx f) (fun b=>addC c.base k fun a=>setC (some b) a t fun t=>irSC is c l lb t nx f) ob) = _
      rw [nthBC_eq]
      simp only [irS]
      cases nthB lb n with
      | none=>rfl
      | some ob =>
        cases ob with
        | none=>exact ih _ _ _ _ _
        | some b =>
          show addC c.base k (fun a=>setC (some b) a t fun t=>irSC is c l lb t nx f) = _
          rw [addC_eq,setC_eq,ih]; rfl
    | h g i k =>
      show grdC g c.e l (addC c.base k fun a=>hiC i c.rnd c.ck c.e l t nx a f (fun v t nx f=>irSC is c (v :: l) lb t nx f) c.kpan) (irSC is c (.tup [] :: l) lb t nx f) = _
      rw [grdC_eq,addC_eq,hiC_eq hc,ih]
      simp only [irS]
      cases grdV c.e l g with
      | none=>rfl
      | some b =>
        cases b with
        | false=>rfl
        | true =>
          dsimp only
          cases i.ev c.rnd call (Od.get c.e l) ⟨t,nx⟩ (c.base.add k) f with
          | none=>rfl
          | some r =>
            cases r with
            | val v h f'=>exact ih _ _ _ _ _
            | pan v h f'=>rfl
    | q g i n =>
      show grdC g c.e l (riC i c.e l t nx fun v=>odC n c.e l fun u=>sameC v u (irSC is c l lb t nx f)) (irSC is c l lb t nx f) = _
      rw [grdC_eq,riC_eq,ih]
      simp only [irS]
      cases grdV c.e l g with
      | none=>rfl
      | some b =>
        cases b with
        | false=>rfl
        | true =>
          dsimp only
          cases i.ev (Od.get c.e l) ⟨t,nx⟩ with
          | none=>rfl
          | some v =>
            show odC n c.e l (fun u=>sameC v u _) = _
            rw [odC_eq,sameC_eq]
            dsimp only
            cases AV.same v (n.get c.e l) <;> rfl
    | d x y =>
      show odC x c.e l (fun v=>odC y c.e l fun u=>ptrC v fun a _=>ptrC u fun b _=>Bool.rec (motive:=fun _=>Rz) (irSC is c l lb t nx f) none (Pos.beq a b)) = _
      rw [odC_eq,odC_eq,ih]
      simp only [irS]
      rw [ptrC_eq]
      cases x.get c.e l <;> try rfl
      rename_i a o
      dsimp only
      rw [ptrC_eq]
      cases y.get c.e l <;> try rfl
      rename_i b o'
      dsimp only
      cases Pos.beq a b <;> rfl
def outC (outs : List (SP × Od)) : E → List AV → E → (E → Rz) → Rz :=
  List.rec (motive:=fun _=>E → List AV → E → (E → Rz) → Rz) (fun _ _ e k=>k e) (fun p _ ih e0 l e k=>odC p.2 e0 l fun v=>setSC p.1 v e fun e=>ih e0 l e k) outs
theorem outC_eq : ∀ (outs : List (SP × Od)) (e0 : E) (l : List AV) (e : E) (k : E → Rz),outC outs e0 l e k = k (outV e0 l outs e)
  | [],e0,l,e,k=>rfl
  | (p,x) :: outs,e0,l,e,k=>by
    show odC x e0 l (fun v=>setSC p v e fun e=>outC outs e0 l e k) = _
    rw [odC_eq,setSC_eq,outC_eq outs]; rfl
structure ICx where
  rnd : Bool
  ck : CallK
  N : Nat
abbrev KN:=E → T AB → Pos → Fx → Rz
abbrev KX:=X → E → T AB → Pos → Fx → Rz
abbrev KI:=ICx → E → T AB → Pos → Fx → KN → KX → Rz
def rfEndI (st : St) (h2 : H) : Option (X × St) :=
  match h2.get st.h.next.succ with
  | some (.loop s p lab' e' d')=>(match s with
    | .busy=>none
    | _=>match rfEnd p with | some x=>some (x,⟨st.e,h2.set st.h.next.succ (.loop .exhausted p lab' e' d'),rfF st.h st.f⟩) | none=>none)
  | _=>none
def tellX (kn : KN) (kx : KX) (p : X × St) : Rz:=X.rec (motive:=fun _=>Rz) (kn p.2.e p.2.h.t p.2.h.next p.2.f) (fun id=>kx (.ext id) p.2.e p.2.h.t p.2.h.next p.2.f) (fun l=>kx (.gto l) p.2.e p.2.h.t p.2.h.next p.2.f) (kx .ret p.2.e p.2.h.t p.2.h.next p.2.f) (fun v=>kx (.pan v) p.2.e p.2.h.t p.2.h.next p.2.f) p.1
def xblC (id : Nat) (kn : KN) (kx : KX) : KX:=fun x=>X.rec (motive:=fun _=>E → T AB → Pos → Fx → Rz) kn (fun j e t nx f=>Bool.rec (motive:=fun _=>Rz) (kx (.ext j) e t nx f) (kn e t nx f) (Nat.beq j id)) (fun l=>kx (.gto l)) (kx .ret) (fun v=>kx (.pan v)) x
def scpC (l : Nat) (r : ICx → E → T AB → Pos → Fx → KN → KX → Rz) (c : ICx) (kn : KN) (kx : KX) (n : Nat) : KX :=
  Nat.rec (motive:=fun _=>KX) (fun _ _ _ _ _=>none) (fun _ ih x=>X.rec (motive:=fun _=>E → T AB → Pos → Fx → Rz) kn (fun j=>kx (.ext j)) (fun l' e t nx f=>Bool.rec (motive:=fun _=>Rz) none (r c e t nx f (ih .nrm) ih) (Nat.beq l l')) (kx .ret) (fun v=>kx (.pan v)) x) n
def lopC (b : KI) (c : ICx) (kx : KX) (n : Nat) : KN:=Nat.rec (motive:=fun _=>KN) (fun _ _ _ _=>none) (fun _ ih e t nx f=>b c e t nx f ih kx) n
def irunC (ic : IC) : KI:=IC.rec (motive:=fun _=>KI)
  (fun _ e t nx f kn _=>kn e t nx f)
  (fun _ e t nx f _ kx=>kx .ret e t nx f)
  (fun id _ e t nx f _ kx=>kx (.ext id) e t nx f)
  (fun l _ e t nx f _ kx=>kx (.gto l) e t nx f)
  (fun _ _ a b c e t nx f kn kx=>a c e t nx f (fun e t nx f=>b c e t nx f kn kx) kx)
  (fun x _ _ p q c e t nx f kn kx=>odC x e [] fun v=>boolC v (p c e t nx f kn kx) (q c e t nx f kn kx))
  (fun id _ b c e t nx f kn kx=>b c e t nx f kn (xblC id kn kx))
  (fun _ b c e t nx f _ kx=>lopC b c kx c.N e t nx f)
  (fun _ l _ b r c e t nx f kn kx=>b c e t nx f (scpC l r c kn kx c.N .nrm) (scpC l r c kn kx c.N))
  (fun nr is outs c e t nx f kn kx=>addC nx nr fun nx'=>irSC is ⟨c.rnd,c.ck,e,nx,fun l t nx f=>outC outs e l e fun e=>kn e t nx f,fun v t nx f=>kx (.pan v) (junkV outs e) t nx f⟩ [] [] t nx' f)
  (fun g lab c e t nx f kn kx=>Bool.rec (motive:=fun _=>Rz) (odC g e [] fun gv=>c.ck false gv [.yld nx.succ] .no (rfH ⟨t,nx⟩ lab e).t (rfH ⟨t,nx⟩ lab e).next (fun _ t2 nx2 _=>optK (tellX kn kx) (rfEndI ⟨e,⟨t,nx⟩,f⟩ ⟨t2,nx2⟩)) (fun v t2 nx2 _=>kx (.pan v) e t2 nx2 (rfF ⟨t,nx⟩ f))) none c.rnd)
  (fun _ _ _ _ _ _ _=>none)
  ic
def toldX (kn : KN) (kx : KX) : Option (X × St) → Rz
  | some (.nrm,st)=>kn st.e st.h.t st.h.next st.f
  | some (x,st)=>kx x st.e st.h.t st.h.next st.f
  | none=>none
theorem tellX_eq (kn : KN) (kx : KX) (o : Option (X × St)) : optK (tellX kn kx) o = toldX kn kx o:=by
  cases o with
  | none=>rfl
  | some p=>obtain ⟨x,st⟩:=p; cases x <;> rfl
theorem lopC_eq {b : KI} {c : ICx} {kx : KX} {body : St → Option (X × St)} (hb : ∀ e t nx f kn kx,b c e t nx f kn kx = toldX kn kx (body ⟨e,⟨t,nx⟩,f⟩)) (kn : KN) : ∀ (n : Nat) (e : E) (t : T AB) (nx : Pos) (f : Fx),lopC b c kx n e t nx f = toldX kn kx (loopF body n ⟨e,⟨t,nx⟩,f⟩)
  | 0,e,t,nx,f=>rfl
  | n + 1,e,t,nx,f=>by
    show b c e t nx f (lopC b c kx n) kx = _
    rw [hb,loopF]
    cases body ⟨e,⟨t,nx⟩,f⟩ with
    | none=>rfl
    | some p =>
      obtain ⟨x,st⟩:=p
      cases x with
      | nrm=>exact lopC_eq hb kn n st.e st.h.t st.h.next st.f
      | _=>rfl
theorem scpC_eq {r : KI} {c : ICx} {kn : KN} {kx : KX} {l : Nat} {at_ : St → Option (X × St)} (hb : ∀ e t nx f kn kx,r c e t nx f kn kx = toldX kn kx (at_ ⟨e,⟨t,nx⟩,f⟩)) : ∀ (n : Nat) (x : X) (st : St),scpC l r c kn kx n x st.e st.h.t st.h.next st.f = toldX kn kx (scopeI l at_ n (some (x,st)))
  | 0,x,st=>by cases x <;> rfl
  | n + 1,x,st=>by
    cases x with
    | gto l' =>
      show Bool.rec (motive:=fun _=>Rz) none (r c st.e st.h.t st.h.next st.f (scpC l r c kn kx n .nrm) (scpC l r c kn kx n)) (Nat.beq l l') = _
      rw [hb]
      simp only [scopeI]
      cases Nat.beq l l' with
      | false=>rfl
      | true =>
        dsimp only
        cases hat : at_ ⟨st.e,⟨st.h.t,st.h.next⟩,st.f⟩ with
        | none=>cases n <;> rfl
        | some p =>
          obtain ⟨x2,st2⟩:=p
          cases x2 with
          | nrm=>exact scpC_eq hb n .nrm st2
          | ext j=>exact scpC_eq hb n (.ext j) st2
          | gto j=>exact scpC_eq hb n (.gto j) st2
          | ret=>exact scpC_eq hb n .ret st2
          | pan v=>exact scpC_eq hb n (.pan v) st2
    | _=>rfl
theorem scopeI_none (l : Nat) (at_ : St → Option (X × St)) (n : Nat) : scopeI l at_ n none = none:=by cases n <;> rfl
theorem irunC_eq {call : CallF} : ∀ (ic : IC) (c : ICx) (_ : CallEq c.ck call) (e : E) (t : T AB) (nx : Pos) (f : Fx) (kn : KN) (kx : KX),irunC ic c e t nx f kn kx = toldX kn kx (irun c.rnd call c.N ic ⟨e,⟨t,nx⟩,f⟩)
  | .skip,c,hc,e,t,nx,f,kn,kx=>rfl
  | .ret,c,hc,e,t,nx,f,kn,kx=>rfl
  | .ext id,c,hc,e,t,nx,f,kn,kx=>rfl
  | .gto l,c,hc,e,t,nx,f,kn,kx=>rfl
  | .no,c,hc,e,t,nx,f,kn,kx=>rfl
  | .seq a b,c,hc,e,t,nx,f,kn,kx=>by
    show irunC a c e t nx f (fun e t nx f=>irunC b c e t nx f kn kx) kx = _
    rw [irunC_eq a c hc]
    simp only [irun]
    cases irun c.rnd call c.N a ⟨e,⟨t,nx⟩,f⟩ with
    | none=>rfl
    | some p =>
      obtain ⟨x,st⟩:=p
      cases x with
      | nrm=>exact irunC_eq b c hc st.e st.h.t st.h.next st.f kn kx
      | _=>rfl
  | .cond x p q,c,hc,e,t,nx,f,kn,kx=>by
    show odC x e [] (fun v=>boolC v (irunC p c e t nx f kn kx) (irunC q c e t nx f kn kx)) = _
    rw [odC_eq,boolC_eq,irunC_eq p c hc,irunC_eq q c hc]
    simp only [irun]
    cases x.get e [] <;> try rfl
    rename_i b
    cases b <;> rfl
  | .block id b,c,hc,e,t,nx,f,kn,kx=>by
    show irunC b c e t nx f kn (xblC id kn kx) = _
    rw [irunC_eq b c hc]
    simp only [irun]
    cases irun c.rnd call c.N b ⟨e,⟨t,nx⟩,f⟩ with
    | none=>rfl
    | some p =>
      obtain ⟨x,st⟩:=p
      cases x with
      | ext j =>
        show Bool.rec (motive:=fun _=>Rz) (kx (.ext j) st.e st.h.t st.h.next st.f) (kn st.e st.h.t st.h.next st.f) (Nat.beq j id) = toldX kn kx (some (bif Nat.beq j id then .nrm else .ext j,st))
        cases Nat.beq j id <;> rfl
      | _=>rfl
  | .loop b,c,hc,e,t,nx,f,kn,kx=>lopC_eq (b:=irunC b) (fun e t nx f kn kx=>irunC_eq b c hc e t nx f kn kx) kn c.N e t nx f
  | .scope b l r,c,hc,e,t,nx,f,kn,kx=>by
    show irunC b c e t nx f (scpC l (irunC r) c kn kx c.N .nrm) (scpC l (irunC r) c kn kx c.N) = _
    rw [irunC_eq b c hc]
    simp only [irun]
    cases irun c.rnd call c.N b ⟨e,⟨t,nx⟩,f⟩ with
    | none=>rw [scopeI_none]; rfl
    | some p =>
      obtain ⟨x,st⟩:=p
      have:=scpC_eq (l:=l) (kn:=kn) (kx:=kx) (r:=irunC r) (c:=c) (at_:=irun c.rnd call c.N r) (fun e t nx f kn kx=>irunC_eq r c hc e t nx f kn kx) c.N x st
      cases x <;> exact this
  | .reg nr is outs,c,hc,e,t,nx,f,kn,kx=>by
    show addC nx nr (fun nx'=>irSC is ⟨c.rnd,c.ck,e,nx,fun l t nx f=>outC outs e l e fun e=>kn e t nx f,fun v t nx f=>kx (.pan v) (junkV outs e) t nx f⟩ [] [] t nx' f) = _
    rw [addC_eq,irSC_eq is ⟨c.rnd,c.ck,e,nx,_,_⟩ hc]
    simp only [irun]
    unfold regI
    show (match irS c.rnd call e nx is [] [] ⟨t,nx.add nr⟩ f with | some (.ok l h f)=>outC outs e l e (fun e=>kn e h.t h.next f) | some (.pan v h f)=>kx (.pan v) (junkV outs e) h.t h.next f | none=>none) = toldX kn kx (match irS c.rnd call e nx is [] [] ⟨t,nx.add nr⟩ f with | some (.ok l h f)=>some (.nrm,⟨outV e l outs e,h,f⟩) | some (.pan v h f)=>some (.pan v,⟨junkV outs e,h,f⟩) | none=>none)
    cases irS c.rnd call e nx is [] [] ⟨t,nx.add nr⟩ f with
    | none=>rfl
    | some r =>
      cases r with
      | ok l h f=>exact outC_eq _ _ _ _ _
      | pan v h f=>rfl
  | .rf g lab,c,hc,e,t,nx,f,kn,kx=>by
    show Bool.rec (motive:=fun _=>Rz) (odC g e [] fun gv=>c.ck false gv [.yld nx.succ] .no (rfH ⟨t,nx⟩ lab e).t (rfH ⟨t,nx⟩ lab e).next (fun _ t2 nx2 _=>optK (tellX kn kx) (rfEndI ⟨e,⟨t,nx⟩,f⟩ ⟨t2,nx2⟩)) (fun v t2 nx2 _=>kx (.pan v) e t2 nx2 (rfF ⟨t,nx⟩ f))) none c.rnd = _
    simp only [irun]
    cases c.rnd with
    | true=>rfl
    | false =>
      show odC g e [] _ = _
      rw [odC_eq,hc]
      unfold rfI
      dsimp only
      cases call false (g.get e []) [.yld nx.succ] .no (rfH ⟨t,nx⟩ lab e) with
      | none=>rfl
      | some r =>
        cases r with
        | ret v h2 pn =>
          show optK (tellX kn kx) (rfEndI ⟨e,⟨t,nx⟩,f⟩ h2) = _
          rw [tellX_eq]
          unfold rfEndI
          rfl
        | pan v h2 pn=>rfl
end
end Am
end Go.Proofs.YtadbcnekkceoaaaGreatDoor
namespace Go.Proofs.YtadbcnekkceoaaaGreatDoor
namespace Am
noncomputable section
def enterC (ps : List (Option SP)) : List AV → E → (E → Rz) → Rz :=
  List.rec (motive:=fun _=>List AV → E → (E → Rz) → Rz) (fun as e k=>List.rec (motive:=fun _=>Rz) (k e) (fun _ _ _=>none) as)
    (fun p _ ih as e k=>List.rec (motive:=fun _=>Rz) (k e) (fun v vs _=>Option.rec (motive:=fun _=>Rz) (ih vs e k) (fun q=>setSC q v e fun e=>ih vs e k) p) as) ps
theorem enterC_eq : ∀ (ps : List (Option SP)) (as : List AV) (e : E) (k : E → Rz),enterC ps as e k = optK k (enterI ps as e)
  | [],[],e,k=>rfl
  | [],_ :: _,e,k=>rfl
  | _ :: _,[],e,k=>rfl
  | p :: ps,v :: vs,e,k=>by
    cases p with
    | none=>exact enterC_eq ps vs e k
    | some q =>
      show setSC q v e (fun e=>enterC ps vs e k) = _
      rw [setSC_eq,enterC_eq ps]; rfl
def resC (rs : List RsI) : E → T AB → Pos → (List AV → Rz) → Rz :=
  List.rec (motive:=fun _=>E → T AB → Pos → (List AV → Rz) → Rz) (fun _ _ _ k=>k [])
    (fun r _ ih e t nx k=>RsI.rec (motive:=fun _=>Rz) (fun x=>odC x e [] fun v=>ih e t nx fun vs=>k (v :: vs)) (fun i=>riC i e [] t nx fun v=>ih e t nx fun vs=>k (v :: vs)) r) rs
theorem resC_eq : ∀ (rs : List RsI) (e : E) (t : T AB) (nx : Pos) (k : List AV → Rz),resC rs e t nx k = optK k (resI e ⟨t,nx⟩ rs)
  | [],e,t,nx,k=>rfl
  | .t x :: rs,e,t,nx,k=>by
    show odC x e [] (fun v=>resC rs e t nx fun vs=>k (v :: vs)) = _
    rw [odC_eq,resC_eq rs]
    simp only [resI]
    cases resI e ⟨t,nx⟩ rs <;> rfl
  | .m i :: rs,e,t,nx,k=>by
    show riC i e [] t nx (fun v=>resC rs e t nx fun vs=>k (v :: vs)) = _
    rw [riC_eq]
    simp only [resI]
    cases i.ev (Od.get e []) ⟨t,nx⟩ with
    | none=>rfl
    | some v =>
      show resC rs e t nx (fun vs=>k (v :: vs)) = _
      rw [resC_eq rs]
      cases resI e ⟨t,nx⟩ rs <;> rfl
def appR {α : Type} (a b : List α) : List α:=List.rec (motive:=fun _=>List α) b (fun x _ ih=>x :: ih) a
theorem appR_eq {α : Type} : ∀ a b : List α,appR a b = a ++ b
  | [],b=>rfl
  | x :: a,b=>congrArg (x :: ·) (appR_eq a b)
def resVC (vs : List AV) (k : AV → Rz) : Rz:=List.rec (motive:=fun _=>Rz) (k (.tup [])) (fun v l _=>List.rec (motive:=fun _=>Rz) (k v) (fun u l' _=>k (.tup (v :: u :: l'))) l) vs
theorem resVC_eq (vs : List AV) (k : AV → Rz) : resVC vs k = k (resV vs):=by
  cases vs with
  | nil=>rfl
  | cons v l=>cases l <;> rfl
def tellR (kr kp : KR) : Option CRes → Rz
  | some (.ret v h p)=>kr v h.t h.next p
  | some (.pan v h p)=>kp v h.t h.next p
  | none=>none
abbrev KL:=E → T AB → Pos → List (AV × List AV) → Option AV → Pn → KR → KR → Rz
def dfdC (ob : Option AB) (k : List (AV × List AV) → Rz) : Rz:=Option.rec (motive:=fun _=>Rz) none (fun b=>AB.rec (motive:=fun _=>Rz) (fun _ _ _=>none) (fun _ _=>none) (fun _ _ _ _=>none) (fun _ _ _ _ _=>none) (fun l=>optK k l) (fun _=>none) b) ob
def leaveC (ck : CallK) (rs : List RsI) (n : Nat) : KL:=Nat.rec (motive:=fun _=>KL) (fun _ _ _ _ _ _ _ _=>none) (fun _ ih e t nx dfs md pn kr kp=>List.rec (motive:=fun _=>Rz) (Option.rec (motive:=fun _=>Rz) (resC rs e t nx fun vs=>resVC vs fun v=>kr v t nx pn) (fun v=>kp v t nx pn) md) (fun d rest _=>AV.rec (motive_1:=fun _=>Rz) (motive_2:=fun _=>PUnit) (none) (fun _ _=>none) (fun _=>none) (fun _=>none) (fun _ _=>none) (none) (fun _ _ _ _=>none) (fun _ _ _=>none) (none) (fun _=>none) (none) (fun f x y _ _=>ck true d.1 d.2 (pnOf md) t nx (fun _ t nx pn1=>ih e t nx rest (mdOf md pn1) pn kr kp) (fun _ _ _ _=>none)) (fun a=>List.rec (motive:=fun _=>Rz) (getC a t fun ob=>dfdC ob fun l=>setC (some (.dfd none)) a t fun t=>ih e t nx (appR l rest) md pn kr kp) (fun _ _ _=>none) d.2) (none) (fun _ _ _=>none) (none) (fun _ _=>none) (fun _ _=>none) (fun _ _=>none) (fun _=>none) (fun _=>none) (fun _ _ _=>none) (fun _ _=>none) PUnit.unit (fun _ _ _ _=>PUnit.unit) (d.1)) dfs) n
theorem leaveC_eq {ck : CallK} {call : CallF} (hc : CallEq ck call) (rs : List RsI) : ∀ (n : Nat) (e : E) (t : T AB) (nx : Pos) (dfs : List (AV × List AV)) (md : Option AV) (pn : Pn) (kr kp : KR),leaveC ck rs n e t nx dfs md pn kr kp = tellR kr kp (leaveI call rs n e ⟨t,nx⟩ dfs md pn)
  | 0,_,_,_,_,_,_,_,_=>rfl
  | n + 1,e,t,nx,[],none,pn,kr,kp=>by
    show resC rs e t nx (fun vs=>resVC vs fun v=>kr v t nx pn) = _
    rw [resC_eq]
    simp only [leaveI]
    cases resI e ⟨t,nx⟩ rs with
    | none=>rfl
    | some r =>
      show resVC r (fun v=>kr v t nx pn) = _
      rw [resVC_eq]; rfl
  | n + 1,e,t,nx,[],some v,pn,kr,kp=>rfl
  | n + 1,e,t,nx,(c,as) :: dfs,md,pn,kr,kp=>by
    cases c with
    | fn f x y =>
      show ck true (.fn f x y) as (pnOf md) t nx (fun _ t nx pn1=>leaveC ck rs n e t nx dfs (mdOf md pn1) pn kr kp) (fun _ _ _ _=>none) = _
      rw [hc]
      simp only [leaveI]
      cases call true (.fn f x y) as (pnOf md) ⟨t,nx⟩ with
      | none=>rfl
      | some r =>
        cases r with
        | ret v h p=>exact leaveC_eq hc rs n _ _ _ _ _ _ _ _
        | pan v h p=>rfl
    | yld a =>
      cases as with
      | cons _ _=>rfl
      | nil =>
        show getC a t (fun ob=>dfdC ob fun l=>setC (some (.dfd none)) a t fun t=>leaveC ck rs n e t nx (appR l dfs) md pn kr kp) = _
        rw [getC_eq]
        simp only [leaveI]
        unfold H.get
        dsimp only
        cases T.get a t with
        | none=>rfl
        | some b =>
          cases b with
          | dfd l =>
            cases l with
            | none=>rfl
            | some l =>
              show setC (some (.dfd none)) a t (fun t=>leaveC ck rs n e t nx (appR l dfs) md pn kr kp) = _
              rw [setC_eq,appR_eq,leaveC_eq hc rs n]; rfl
          | _=>rfl
    | _=>rfl
def bodyC (L : Nat) (f : IFn) (ck : CallK) (as : List AV) (pn : Pn) (t : T AB) (nx : Pos) (kr kp : KR) : Rz :=
  enterC f.ps as E.new fun e=>irunC f.code ⟨false,ck,L⟩ e t nx ⟨[],pn⟩ (fun e t nx f'=>leaveC ck f.res L e t nx f'.dfs none f'.pn kr kp)
    (fun x e t nx f'=>X.rec (motive:=fun _=>Rz) none (fun _=>none) (fun _=>none) (leaveC ck f.res L e t nx f'.dfs none f'.pn kr kp) (fun v=>leaveC ck f.res L e t nx f'.dfs (some v) f'.pn kr kp) x)
theorem bodyC_eq {ck : CallK} {call : CallF} (hc : CallEq ck call) (L : Nat) (f : IFn) (as : List AV) (pn : Pn) (t : T AB) (nx : Pos) (kr kp : KR) : bodyC L f ck as pn t nx kr kp = tellR kr kp (bodyI L f call as pn ⟨t,nx⟩):=by
  unfold bodyC bodyI
  rw [enterC_eq]
  cases enterI f.ps as E.new with
  | none=>rfl
  | some e =>
    show irunC f.code ⟨false,ck,L⟩ e t nx ⟨[],pn⟩ _ _ = _
    rw [irunC_eq f.code ⟨false,ck,L⟩ hc]
    dsimp only
    cases irun false call L f.code ⟨e,⟨t,nx⟩,⟨[],pn⟩⟩ with
    | none=>rfl
    | some p =>
      obtain ⟨x,st⟩:=p
      cases x with
      | nrm=>exact leaveC_eq hc _ _ _ _ _ _ _ _ _ _
      | ret=>exact leaveC_eq hc _ _ _ _ _ _ _ _ _ _
      | pan v=>exact leaveC_eq hc _ _ _ _ _ _ _ _ _ _
      | ext j=>rfl
      | gto j=>rfl
structure KTbl where
  mac : Nat → Option (List AV → H → Option CRes)
  fns : Nat → Option IFn
  rnd : Nat → Option IRnd
  L : Nat
def KTbl.tbl (K : KTbl) : Tbl where
  mac:=K.mac
  fns g:=match K.fns g with | some f=>some (fun call as pn h=>bodyI K.L f call as pn h) | none=>none
  rnd call a as h:=roundI K.L K.rnd call a as h
def roundC (K : KTbl) (ck : CallK) (a : Pos) (as : List AV) (t : T AB) (nx : Pos) (kr : KR) : Rz :=
  getC a t fun ob=>Option.rec (motive:=fun _=>Rz) none (fun b=>AB.rec (motive:=fun _=>Rz) (fun _ _ _=>none) (fun _ _=>none) (fun _ _ _ _=>none)
    (fun _ _ lab e _=>Option.rec (motive:=fun _=>Rz) none (fun R=>ifC (Nat.beq (lenR R.ps) (lenR as)) (enterC R.ps as e fun e0 =>
      irunC R.asg ⟨true,ck,K.L⟩ e0 t nx ⟨[],.no⟩ (fun e1 t1 nx1 f1 =>
        Pn.rec (motive:=fun _=>Rz) (getC a t1 fun ob1=>optK (fun q=>setC (some q) a t1 fun t2=>irunC R.body ⟨true,ck,K.L⟩ e1 t2 nx1 f1
          (fun _ t3 nx3 f3=>Pn.rec (motive:=fun _=>Rz) (getC a t3 fun ob3=>optK (fun q=>setC (some q) a t3 fun t4=>kr (.bool true) t4 nx3 .no) (rdEnd .ready none ob3)) (fun _=>none) none f3.pn)
          (fun x _ t3 nx3 f3=>Pn.rec (motive:=fun _=>Rz) (getC a t3 fun ob3=>optK (fun r=>optK (fun q=>setC (some q) a t3 fun t4=>kr (.bool r.2.2) t4 nx3 .no) (rdEnd r.1 r.2.1 ob3)) (endR x)) (fun _=>none) none f3.pn)) (rdBeg ob1)) (fun _=>none) none f1.pn)
        (fun _ _ _ _ _=>none))) (K.rnd lab)) (fun _=>none) (fun _=>none) b) ob
 where
  rdBeg : Option AB → Option AB
    | some (.loop .ready p lab e d)=>some (.loop .busy p lab e d)
    | _=>none
  rdEnd (s : LoopState) (p : Option Code) : Option AB → Option AB
    | some (.loop _ _ lab e d)=>some (.loop s p lab e d)
    | _=>none
theorem roundC_eq (K : KTbl) {ck : CallK} {call : CallF} (hc : CallEq ck call) (a : Pos) (as : List AV) (t : T AB) (nx : Pos) (kr kp : KR) : roundC K ck a as t nx kr = tellR kr kp (roundI K.L K.rnd call a as ⟨t,nx⟩):=by
  unfold roundC roundI
  rw [getC_eq]
  unfold H.get
  dsimp only
  cases T.get a t with
  | none=>rfl
  | some b =>
    cases b with
    | loop s0 p0 lab e d =>
      dsimp only
      cases K.rnd lab with
      | none=>rfl
      | some R =>
        dsimp only
        rw [ifC_eq,lenR_eq,lenR_eq,enterC_eq]
        cases Nat.beq R.ps.length as.length with
        | false=>rfl
        | true =>
          simp only [cond_true]
          cases enterI R.ps as e with
          | none=>rfl
          | some e0 =>
            show irunC R.asg ⟨true,ck,K.L⟩ e0 t nx ⟨[],.no⟩ _ _ = _
            rw [irunC_eq R.asg ⟨true,ck,K.L⟩ hc]
            dsimp only
            cases irun true call K.L R.asg ⟨e0,⟨t,nx⟩,⟨[],.no⟩⟩ with
            | none=>rfl
            | some p =>
              obtain ⟨x,e1,h1,dfs1,pn1⟩:=p
              cases x <;> try rfl
              cases pn1 <;> try rfl
              show getC a h1.t _ = _
              rw [getC_eq]
              dsimp only
              cases T.get a h1.t with
              | none=>rfl
              | some b1 =>
                cases b1 with
                | loop s1 p1 lab1 e1' d1 =>
                  cases s1 <;> try rfl
                  show setC (some (.loop .busy p1 lab1 e1' d1)) a h1.t _ = _
                  rw [setC_eq]
                  rw [irunC_eq R.body ⟨true,ck,K.L⟩ hc]
                  dsimp only
                  show toldX _ _ (irun true call K.L R.body ⟨e1,h1.set a (.loop .busy p1 lab1 e1' d1),⟨dfs1,.no⟩⟩) = _
                  cases irun true call K.L R.body ⟨e1,h1.set a (.loop .busy p1 lab1 e1' d1),⟨dfs1,.no⟩⟩ with
                  | none=>rfl
                  | some p2 =>
                    obtain ⟨x2,e2,h2,dfs2,pn2⟩:=p2
                    have fin : ∀ (s : LoopState) (p : Option Code) (bb : Bool),getC a h2.t (fun ob3=>optK (fun q=>setC (some q) a h2.t fun t4=>kr (.bool bb) t4 h2.next .no) (roundC.rdEnd s p ob3)) = tellR kr kp (match T.get a h2.t,(some (s,p,bb) : Option (LoopState × Option Code × Bool)) with | some (.loop _ _ lab2 e2 d2),some (s',p',bb)=>some (.ret (.bool bb) (h2.set a (.loop s' p' lab2 e2 d2)) .no) | _,_=>none):=fun s p bb=>by
                      rw [getC_eq]
                      cases T.get a h2.t with
                      | none=>rfl
                      | some b3 =>
                        cases b3 with
                        | loop s3 p3 lab3 e3 d3 =>
                          show setC (some (.loop s p lab3 e3 d3)) a h2.t _ = _
                          rw [setC_eq]; rfl
                        | _=>rfl
                    cases pn2 with
                    | no =>
                      cases x2 with
                      | nrm=>exact fin .ready none true
                      | ret=>exact fin .done (some .ret) false
                      | ext j=>exact fin .done (some (.exit j)) false
                      | gto j =>
                        show getC a h2.t (fun ob3=>none) = _
                        rw [getC_eq]
                        dsimp only
                        cases T.get a h2.t with
                        | none=>rfl
                        | some b3=>cases b3 <;> rfl
                      | pan v =>
                        show getC a h2.t (fun ob3=>none) = _
                        rw [getC_eq]
                        dsimp only
                        cases T.get a h2.t with
                        | none=>rfl
                        | some b3=>cases b3 <;> rfl
                    | yes v=>cases x2 <;> rfl
                    | done=>cases x2 <;> rfl
                | _=>rfl
    | _=>rfl
def callC (K : KTbl) (n : Nat) : CallK:=Nat.rec (motive:=fun _=>CallK) (fun _ _ _ _ _ _ _ _=>none) (fun _ ih df c as pn t nx kr kp=>AV.rec (motive_1:=fun _=>Rz) (motive_2:=fun _=>PUnit) (none) (fun _ _=>none) (fun _=>none) (fun _=>none) (fun _ _=>none) (none) (fun _ _ _ _=>none) (fun _ _ _=>none) (none) (fun _=>none) (none) (fun g x y _ _=>Bool.rec (motive:=fun _=>Rz) (Option.rec (motive:=fun _=>Rz) (optK (fun f=>bodyC K.L f ih (appR (appR x as) y) pn t nx kr kp) (K.fns g)) (fun F=>Option.rec (motive:=fun _=>Rz) (optK (fun f=>bodyC K.L f ih (appR (appR x as) y) pn t nx kr kp) (K.fns g)) (fun r=>tellR kr kp (some r)) (F (appR (appR x as) y) ⟨t,nx⟩)) (K.mac g)) (optK (fun f=>bodyC K.L f ih (appR (appR x as) y) pn t nx kr kp) (K.fns g)) df) (fun a=>Bool.rec (motive:=fun _=>Rz) (roundC K ih a as t nx kr) none df) (none) (fun _ _ _=>none) (none) (fun _ _=>none) (fun _ _=>none) (fun _ _=>none) (fun _=>none) (fun _=>none) (fun _ _ _=>none) (fun _ _=>none) PUnit.unit (fun _ _ _ _=>PUnit.unit) (c)) n
theorem callC_eq (K : KTbl) : ∀ n : Nat,CallEq (callC K n) (callT K.tbl n)
  | 0=>fun _ _ _ _ _ _ _ _=>rfl
  | n + 1=>fun df c as pn t nx kr kp=>by
    have ih:=callC_eq K n
    have fin : ∀ g x y,optK (fun f=>bodyC K.L f (callC K n) (appR (appR x as) y) pn t nx kr kp) (K.fns g) = tellR kr kp (match K.tbl.fns g with | some F=>F (callT K.tbl n) (x ++ as ++ y) pn ⟨t,nx⟩ | none=>none):=fun g x y=>by
      show _ = tellR kr kp (match (match K.fns g with | some f=>some (fun call as pn h=>bodyI K.L f call as pn h) | none=>none : Option (CallF → List AV → Pn → H → Option CRes)) with | some F=>F (callT K.tbl n) (x ++ as ++ y) pn ⟨t,nx⟩ | none=>none)
      cases K.fns g with
      | none=>rfl
      | some f =>
        show bodyC K.L f (callC K n) (appR (appR x as) y) pn t nx kr kp = _
        rw [bodyC_eq ih,appR_eq,appR_eq]
    cases c with
    | fn g x y =>
      cases df with
      | true=>exact fin g x y
      | false =>
        show Option.rec (motive:=fun _=>Rz) (optK (fun f=>bodyC K.L f (callC K n) (appR (appR x as) y) pn t nx kr kp) (K.fns g)) (fun F=>Option.rec (motive:=fun _=>Rz) (optK (fun f=>bodyC K.L f (callC K n) (appR (appR x as) y) pn t nx kr kp) (K.fns g)) (fun r=>tellR kr kp (some r)) (F (appR (appR x as) y) ⟨t,nx⟩)) (K.mac g) = tellR kr kp (match (match K.mac g with | some F=>F (x ++ as ++ y) ⟨t,nx⟩ | none=>none : Option CRes) with | some r=>some r | none=>match K.tbl.fns g with | some F=>F (callT K.tbl n) (x ++ as ++ y) pn ⟨t,nx⟩ | none=>none)
        cases K.mac g with
        | none=>exact fin g x y
        | some F =>
          dsimp only
          have e : appR (appR x as) y = x ++ as ++ y:=by rw [appR_eq,appR_eq]
          rw [e]
          cases F (x ++ as ++ y) ⟨t,nx⟩ with
          | none=>exact (e ▸ fin g x y)
          | some r=>rfl
    | yld a =>
      cases df with
      | true=>rfl
      | false=>exact roundC_eq K ih a as t nx kr kp
    | _=>rfl
end
end Am
end Go.Proofs.YtadbcnekkceoaaaGreatDoor
namespace Go.Proofs.YtadbcnekkceoaaaGreatDoor
namespace Am
noncomputable section
def eqPC (p : Pos) : Pos → Rz → Rz:=Pos.rec (motive:=fun _=>Pos → Rz → Rz)
  (fun q k=>Pos.rec (motive:=fun _=>Rz) k (fun _ _=>none) (fun _ _=>none) q)
  (fun _ ih q k=>Pos.rec (motive:=fun _=>Rz) none (fun q _=>ih q k) (fun _ _=>none) q)
  (fun _ ih q k=>Pos.rec (motive:=fun _=>Rz) none (fun _ _=>none) (fun q _=>ih q k) q) p
theorem eqPC_ok : ∀ {p q : Pos} {k : Rz} {r : CRes},eqPC p q k = some r → p = q ∧ k = some r
  | .xH,.xH,_,_,h=>⟨rfl,h⟩
  | .xH,.xO _,_,_,h=>by cases h
  | .xH,.xI _,_,_,h=>by cases h
  | .xO _,.xH,_,_,h=>by cases h
  | .xO p,.xO q,k,r,h=>by obtain ⟨a,b⟩:=eqPC_ok (p:=p) (q:=q) (k:=k) (r:=r) h; exact ⟨by rw [a],b⟩
  | .xO _,.xI _,_,_,h=>by cases h
  | .xI _,.xH,_,_,h=>by cases h
  | .xI _,.xO _,_,_,h=>by cases h
  | .xI p,.xI q,k,r,h=>by obtain ⟨a,b⟩:=eqPC_ok (p:=p) (q:=q) (k:=k) (r:=r) h; exact ⟨by rw [a],b⟩
theorem ifC_ok {b : Bool} {x : Rz} {r : CRes} (h : ifC b x = some r) : b = true ∧ x = some r:=by
  cases b with
  | false=>cases h
  | true=>exact ⟨rfl,h⟩
def eqNC (a b : Nat) (k : Rz) : Rz:=ifC (Nat.beq a b) k
theorem eqNC_ok {a b : Nat} {k : Rz} {r : CRes} (h : eqNC a b k = some r) : a = b ∧ k = some r:=by
  obtain ⟨h1,h2⟩:=ifC_ok h
  exact ⟨Nat.eq_of_beq_eq_true h1,h2⟩
def eqIC (a b : Int) (k : Rz) : Rz:=Int.rec (motive:=fun _=>Rz) (fun n=>Int.rec (motive:=fun _=>Rz) (fun m=>eqNC n m k) (fun _=>none) b) (fun n=>Int.rec (motive:=fun _=>Rz) (fun _=>none) (fun m=>eqNC n m k) b) a
theorem eqIC_ok {a b : Int} {k : Rz} {r : CRes} (h : eqIC a b k = some r) : a = b ∧ k = some r:=by
  cases a <;> cases b <;> first | (cases h; done) | (obtain ⟨h1,h2⟩:=eqNC_ok h; exact ⟨by rw [h1],h2⟩)
def eqLC (l : List Nat) : List Nat → Rz → Rz:=List.rec (motive:=fun _=>List Nat → Rz → Rz) (fun l' k=>List.rec (motive:=fun _=>Rz) k (fun _ _ _=>none) l') (fun a _ ih l' k=>List.rec (motive:=fun _=>Rz) none (fun b l' _=>eqNC a b (ih l' k)) l') l
theorem eqLC_ok : ∀ {l l' : List Nat} {k : Rz} {r : CRes},eqLC l l' k = some r → l = l' ∧ k = some r
  | [],[],_,_,h=>⟨rfl,h⟩
  | [],_ :: _,_,_,h=>by cases h
  | _ :: _,[],_,_,h=>by cases h
  | a :: l,b :: l',k,r,h=>by
    obtain ⟨h1,h2⟩:=eqNC_ok (a:=a) (b:=b) (k:=eqLC l l' k) (r:=r) h
    obtain ⟨h3,h4⟩:=eqLC_ok h2
    exact ⟨by rw [h1,h3],h4⟩
def kN : IntKind → Nat | .i8=>0 | .i16=>1 | .i32=>2 | .i64=>3 | .u8=>4 | .u16=>5 | .u32=>6 | .u64=>7
theorem kN_inj {a b : IntKind} (h : kN a = kN b) : a = b:=by cases a <;> cases b <;> first | rfl | cases h
def eqBC (a b : Bool) (k : Rz) : Rz:=Bool.rec (motive:=fun _=>Rz) (Bool.rec (motive:=fun _=>Rz) k none b) (Bool.rec (motive:=fun _=>Rz) none k b) a
theorem eqBC_ok {a b : Bool} {k : Rz} {r : CRes} (h : eqBC a b k = some r) : a = b ∧ k = some r:=by
  cases a <;> cases b <;> first | exact ⟨rfl,h⟩ | cases h
abbrev KMt:=T Pos → T Unit → Rz
def ptC (t : T AB) (a0 a' : Pos) (R : T Pos) (S : T Unit) (k : KMt) : Rz :=
  getC a0 R fun x=>Option.rec (motive:=fun _=>Rz)
    (getC a' S fun y=>Option.rec (motive:=fun _=>Rz) (getC a' t fun z=>Option.rec (motive:=fun _=>Rz) none (fun _=>setC (some a') a0 R fun R=>setC (some ()) a' S fun S=>k R S) z) (fun _=>none) y)
    (fun b=>eqPC b a' (k R S)) x
structure MOk (t : T AB) (R : T Pos) (S : T Unit) : Prop where
  inj : ∀ a a' b,T.get a R = some b → T.get a' R = some b → a = a'
  taken : ∀ a b,T.get a R = some b → T.get b S = some ()
  live : ∀ a b,T.get a R = some b → ∃ x,T.get b t = some x
def RLe (R R' : T Pos) : Prop:=∀ a b,T.get a R = some b → T.get a R' = some b
theorem RLe.refl (R : T Pos) : RLe R R:=fun _ _ h=>h
theorem RLe.trans {R R' R'' : T Pos} (h : RLe R R') (h' : RLe R' R'') : RLe R R'':=fun a b e=>h' a b (h a b e)
theorem ptC_ok {t : T AB} {a0 a' : Pos} {R : T Pos} {S : T Unit} {k : KMt} {r : CRes} (hm : MOk t R S) (h : ptC t a0 a' R S k = some r) : ∃ R' S',MOk t R' S' ∧ RLe R R' ∧ T.get a0 R' = some a' ∧ k R' S' = some r:=by
  unfold ptC at h
  rw [getC_eq] at h
  cases e : T.get a0 R with
  | some b =>
    rw [e] at h
    obtain ⟨h1,h2⟩:=eqPC_ok (p:=b) (q:=a') (k:=k R S) h
    subst h1
    exact ⟨R,S,hm,RLe.refl R,e,h2⟩
  | none =>
    rw [e] at h
    replace h : getC a' S (fun y=>Option.rec (motive:=fun _=>Rz) (getC a' t fun z=>Option.rec (motive:=fun _=>Rz) none (fun _=>setC (some a') a0 R fun R=>setC (some ()) a' S fun S=>k R S) z) (fun _=>none) y) = some r:=h
    rw [getC_eq] at h
    cases e2 : T.get a' S with
    | some y=>rw [e2] at h; cases h
    | none =>
      rw [e2] at h
      replace h : getC a' t (fun z=>Option.rec (motive:=fun _=>Rz) none (fun _=>setC (some a') a0 R fun R=>setC (some ()) a' S fun S=>k R S) z) = some r:=h
      rw [getC_eq] at h
      cases e3 : T.get a' t with
      | none=>rw [e3] at h; cases h
      | some z =>
        rw [e3] at h
        replace h : setC (some a') a0 R (fun R=>setC (some ()) a' S fun S=>k R S) = some r:=h
        rw [setC_eq,setC_eq] at h
        have hg : ∀ a,T.get a (T.set a0 (some a') R) = if a = a0 then some a' else T.get a R:=fun a=>by
          by_cases q : a = a0
          · subst q; rw [if_pos rfl]; exact T.get_set_same _ _ _
          · rw [if_neg q]; exact T.get_set_ne _ _ _ _ q
        have hs : ∀ a,T.get a (T.set a' (some ()) S) = if a = a' then some () else T.get a S:=fun a=>by
          by_cases q : a = a'
          · subst q; rw [if_pos rfl]; exact T.get_set_same _ _ _
          · rw [if_neg q]; exact T.get_set_ne _ _ _ _ q
        refine ⟨_,_,⟨fun a b c ha hb=>?_,fun a b ha=>?_,fun a b ha=>?_⟩,fun a b ha=>?_,?_,h⟩
        · rw [hg] at ha hb
          split at ha <;> split at hb
          · next q1 q2=>rw [q1,q2]
          · next q1 q2=>injection ha with ha; subst ha; rw [hm.taken _ _ hb] at e2; cases e2
          · next q1 q2=>injection hb with hb; subst hb; rw [hm.taken _ _ ha] at e2; cases e2
          · exact hm.inj _ _ _ ha hb
        · rw [hg] at ha
          rw [hs]
          split at ha
          · injection ha with ha; rw [if_pos ha.symm]
          · split
            · rfl
            · exact hm.taken _ _ ha
        · rw [hg] at ha
          split at ha
          · injection ha with ha; subst ha; exact ⟨z,e3⟩
          · exact hm.live _ _ ha
        · rw [hg,if_neg (fun q=>by rw [q,e] at ha; cases ha)]; exact ha
        · rw [hg,if_pos rfl]
def junkC (v : AV) (k : Rz) : Rz:=AV.rec (motive_1:=fun _=>Rz) (motive_2:=fun _=>PUnit) (k) (fun _ _=>none) (fun _=>none) (fun _=>none) (fun _ _=>none) none (fun _ _ _ _=>none) (fun _ _ _=>none) none (fun _=>none) none (fun _ _ _ _ _=>none) (fun _=>none) none (fun _ _ _=>none) none (fun _ _=>none) (fun _ _=>none) (fun _ _=>none) (fun _=>none) (fun _=>none) (fun _ _ _=>none) (fun _ _=>none) PUnit.unit (fun _ _ _ _=>PUnit.unit) v
theorem junkC_ok {v : AV} {k : Rz} {r : CRes} (h : junkC v k = some r) : v = .junk ∧ k = some r:=by cases v <;> first | exact ⟨rfl,h⟩ | cases h
def nilpC (v : AV) (k : Rz) : Rz:=AV.rec (motive_1:=fun _=>Rz) (motive_2:=fun _=>PUnit) none (fun _ _=>none) (fun _=>none) (fun _=>none) (fun _ _=>none) (k) (fun _ _ _ _=>none) (fun _ _ _=>none) none (fun _=>none) none (fun _ _ _ _ _=>none) (fun _=>none) none (fun _ _ _=>none) none (fun _ _=>none) (fun _ _=>none) (fun _ _=>none) (fun _=>none) (fun _=>none) (fun _ _ _=>none) (fun _ _=>none) PUnit.unit (fun _ _ _ _=>PUnit.unit) v
theorem nilpC_ok {v : AV} {k : Rz} {r : CRes} (h : nilpC v k = some r) : v = .nilp ∧ k = some r:=by cases v <;> first | exact ⟨rfl,h⟩ | cases h
def nilsC (v : AV) (k : Rz) : Rz:=AV.rec (motive_1:=fun _=>Rz) (motive_2:=fun _=>PUnit) none (fun _ _=>none) (fun _=>none) (fun _=>none) (fun _ _=>none) none (fun _ _ _ _=>none) (fun _ _ _=>none) (k) (fun _=>none) none (fun _ _ _ _ _=>none) (fun _=>none) none (fun _ _ _=>none) none (fun _ _=>none) (fun _ _=>none) (fun _ _=>none) (fun _=>none) (fun _=>none) (fun _ _ _=>none) (fun _ _=>none) PUnit.unit (fun _ _ _ _=>PUnit.unit) v
theorem nilsC_ok {v : AV} {k : Rz} {r : CRes} (h : nilsC v k = some r) : v = .nils ∧ k = some r:=by cases v <;> first | exact ⟨rfl,h⟩ | cases h
def nilmC (v : AV) (k : Rz) : Rz:=AV.rec (motive_1:=fun _=>Rz) (motive_2:=fun _=>PUnit) none (fun _ _=>none) (fun _=>none) (fun _=>none) (fun _ _=>none) none (fun _ _ _ _=>none) (fun _ _ _=>none) none (fun _=>none) (k) (fun _ _ _ _ _=>none) (fun _=>none) none (fun _ _ _=>none) none (fun _ _=>none) (fun _ _=>none) (fun _ _=>none) (fun _=>none) (fun _=>none) (fun _ _ _=>none) (fun _ _=>none) PUnit.unit (fun _ _ _ _=>PUnit.unit) v
theorem nilmC_ok {v : AV} {k : Rz} {r : CRes} (h : nilmC v k = some r) : v = .nilm ∧ k = some r:=by cases v <;> first | exact ⟨rfl,h⟩ | cases h
def nilfC (v : AV) (k : Rz) : Rz:=AV.rec (motive_1:=fun _=>Rz) (motive_2:=fun _=>PUnit) none (fun _ _=>none) (fun _=>none) (fun _=>none) (fun _ _=>none) none (fun _ _ _ _=>none) (fun _ _ _=>none) none (fun _=>none) none (fun _ _ _ _ _=>none) (fun _=>none) (k) (fun _ _ _=>none) none (fun _ _=>none) (fun _ _=>none) (fun _ _=>none) (fun _=>none) (fun _=>none) (fun _ _ _=>none) (fun _ _=>none) PUnit.unit (fun _ _ _ _=>PUnit.unit) v
theorem nilfC_ok {v : AV} {k : Rz} {r : CRes} (h : nilfC v k = some r) : v = .nilf ∧ k = some r:=by cases v <;> first | exact ⟨rfl,h⟩ | cases h
def niliC (v : AV) (k : Rz) : Rz:=AV.rec (motive_1:=fun _=>Rz) (motive_2:=fun _=>PUnit) none (fun _ _=>none) (fun _=>none) (fun _=>none) (fun _ _=>none) none (fun _ _ _ _=>none) (fun _ _ _=>none) none (fun _=>none) none (fun _ _ _ _ _=>none) (fun _=>none) none (fun _ _ _=>none) (k) (fun _ _=>none) (fun _ _=>none) (fun _ _=>none) (fun _=>none) (fun _=>none) (fun _ _ _=>none) (fun _ _=>none) PUnit.unit (fun _ _ _ _=>PUnit.unit) v
theorem niliC_ok {v : AV} {k : Rz} {r : CRes} (h : niliC v k = some r) : v = .nili ∧ k = some r:=by cases v <;> first | exact ⟨rfl,h⟩ | cases h
def boolvC (v : AV) (k : Bool → Rz) : Rz:=AV.rec (motive_1:=fun _=>Rz) (motive_2:=fun _=>PUnit) none (fun _ _=>none) (fun b=>k b) (fun _=>none) (fun _ _=>none) none (fun _ _ _ _=>none) (fun _ _ _=>none) none (fun _=>none) none (fun _ _ _ _ _=>none) (fun _=>none) none (fun _ _ _=>none) none (fun _ _=>none) (fun _ _=>none) (fun _ _=>none) (fun _=>none) (fun _=>none) (fun _ _ _=>none) (fun _ _=>none) PUnit.unit (fun _ _ _ _=>PUnit.unit) v
def slcEC (v : AV) (k : Pos → Nat → Nat → Rz) : Rz:=AV.rec (motive_1:=fun _=>Rz) (motive_2:=fun _=>PUnit) none (fun _ _=>none) (fun _=>none) (fun _=>none) (fun _ _=>none) none (fun _ _ _ _=>none) (fun a o z=>k a o z) none (fun _=>none) none (fun _ _ _ _ _=>none) (fun _=>none) none (fun _ _ _=>none) none (fun _ _=>none) (fun _ _=>none) (fun _ _=>none) (fun _=>none) (fun _=>none) (fun _ _ _=>none) (fun _ _=>none) PUnit.unit (fun _ _ _ _=>PUnit.unit) v
def mapC (v : AV) (k : Pos → Rz) : Rz:=AV.rec (motive_1:=fun _=>Rz) (motive_2:=fun _=>PUnit) none (fun _ _=>none) (fun _=>none) (fun _=>none) (fun _ _=>none) none (fun _ _ _ _=>none) (fun _ _ _=>none) none (fun a=>k a) none (fun _ _ _ _ _=>none) (fun _=>none) none (fun _ _ _=>none) none (fun _ _=>none) (fun _ _=>none) (fun _ _=>none) (fun _=>none) (fun _=>none) (fun _ _ _=>none) (fun _ _=>none) PUnit.unit (fun _ _ _ _=>PUnit.unit) v
def ltrC (v : AV) (k : Nat → Pos → Rz) : Rz:=AV.rec (motive_1:=fun _=>Rz) (motive_2:=fun _=>PUnit) (none) (fun _ _=>none) (fun _=>none) (fun _=>none) (fun _ _=>none) (none) (fun _ _ _ _=>none) (fun _ _ _=>none) (none) (fun _=>none) (none) (fun _ _ _ _ _=>none) (fun _=>none) (none) (fun _ _ _=>none) (none) (fun _ _=>none) (fun _ _=>none) (fun q a=>k q a) (fun _=>none) (fun _=>none) (fun _ _ _=>none) (fun _ _=>none) PUnit.unit (fun _ _ _ _=>PUnit.unit) v
def geC' (v : AV) (k : Nat → Rz) : Rz:=AV.rec (motive_1:=fun _=>Rz) (motive_2:=fun _=>PUnit) (none) (fun _ _=>none) (fun _=>none) (fun _=>none) (fun _ _=>none) (none) (fun _ _ _ _=>none) (fun _ _ _=>none) (none) (fun _=>none) (none) (fun _ _ _ _ _=>none) (fun _=>none) (none) (fun _ _ _=>none) (none) (fun _ _=>none) (fun _ _=>none) (fun _ _=>none) (fun n=>k n) (fun _=>none) (fun _ _ _=>none) (fun _ _=>none) PUnit.unit (fun _ _ _ _=>PUnit.unit) v
def leastC (n : Nat) (v : AV) (k : Rz) : Rz:=AV.rec (motive_1:=fun _=>Rz) (motive_2:=fun _=>PUnit) (none) (fun q i=>eqNC (kN q) 3 (Int.rec (motive:=fun _=>Rz) (fun m=>ifC (Nat.ble n m) (ifC (Nat.ble m 4611686018427387904) k)) (fun _=>none) i)) (fun _=>none) (fun _=>none) (fun _ _=>none) (none) (fun _ _ _ _=>none) (fun _ _ _=>none) (none) (fun _=>none) (none) (fun _ _ _ _ _=>none) (fun _=>none) (none) (fun _ _ _=>none) (none) (fun _ _=>none) (fun _ _=>none) (fun _ _=>none) (fun m=>ifC (Nat.ble n m) k) (fun _=>none) (fun _ _ _=>none) (fun _ _=>none) PUnit.unit (fun _ _ _ _=>PUnit.unit) v
def ifB (st : Bool) (x y : Rz) : Rz:=Bool.rec (motive:=fun _=>Rz) y x st
abbrev MV:=AV → AV → T Pos → T Unit → KMt → Rz
def mv1 (st : Bool) (t : T AB) (nest : List AV → List AV → T Pos → T Unit → KMt → Rz) : MV:=fun v0 v' R S k=>AV.rec (motive_1:=fun _=>Rz) (motive_2:=fun _=>PUnit) (ifB st (junkC v' (k R S)) (k R S)) (fun q n=>intC v' fun q' n'=>eqNC (kN q) (kN q') (eqIC n n' (k R S))) (fun b=>boolvC v' fun b'=>eqBC b b' (k R S)) (fun s=>strC v' fun s'=>eqLC s s' (k R S)) (fun a o=>ptrC v' fun a' o'=>eqNC o o' (ptC t a a' R S k)) (nilpC v' (k R S)) (fun a o n z=>slcC v' fun a' o' n' z'=>eqNC o o' (eqNC n n' (eqNC z z' (ptC t a a' R S k)))) (fun a o z=>slcEC v' fun a' o' z'=>eqNC o o' (eqNC z z' (ptC t a a' R S k))) (nilsC v' (k R S)) (fun a=>mapC v' fun a'=>ptC t a a' R S k) (nilmC v' (k R S)) (fun _ _ _ _ _=>none) (fun _=>none) (nilfC v' (k R S)) (fun _ _ _=>none) (niliC v' (k R S)) (fun l _=>aggC v' fun l'=>nest l l' R S k) (fun l _=>tupC v' fun l'=>nest l l' R S k) (fun q a=>ltrC v' fun q' a'=>eqNC q q' (ptC t a a' R S k)) (fun n=>ifB st (geC' v' fun n'=>eqNC n n' (k R S)) (leastC n v' (k R S))) (fun _=>none) (fun _ _ _=>none) (fun l _=>txtC v' fun l'=>nest l l' R S k) PUnit.unit (fun _ _ _ _=>PUnit.unit) v0
def msC (f : MV) (l : List AV) : List AV → T Pos → T Unit → KMt → Rz:=List.rec (motive:=fun _=>List AV → T Pos → T Unit → KMt → Rz)
  (fun l' R S k=>List.rec (motive:=fun _=>Rz) (k R S) (fun _ _ _=>none) l')
  (fun v _ ih l' R S k=>List.rec (motive:=fun _=>Rz) none (fun v' l' _=>f v v' R S fun R S=>ih l' R S k) l') l
def mvC (st : Bool) (t : T AB) (n : Nat) : MV:=Nat.rec (motive:=fun _=>MV) (mv1 st t fun _ _ _ _ _=>none) (fun _ ih=>mv1 st t (msC ih)) n
def Agr (R : T Pos) (ρ : Pos → Pos) : Prop:=∀ a b,T.get a R = some b → ρ a = b
theorem Agr.le {R R' : T Pos} {ρ : Pos → Pos} (h : Agr R' ρ) (hl : RLe R R') : Agr R ρ:=fun a b e=>h a b (hl a b e)
def Srv (st : Bool) (ρ : Pos → Pos) (v0 v' : AV) : Prop:=JLe v' (rn ρ v0) ∧ (st = true → v' = rn ρ v0)
def Srvs (st : Bool) (ρ : Pos → Pos) (l0 l' : List AV) : Prop:=JLes l' (rns ρ l0) ∧ (st = true → l' = rns ρ l0)
theorem Srv.eq {st : Bool} {ρ : Pos → Pos} {v0 v' : AV} (h : v' = rn ρ v0) : Srv st ρ v0 v':=⟨JLe.of_eq h,fun _=>h⟩
def MvOk (st : Bool) (t : T AB) (f : MV) : Prop:=∀ v0 v' R S k r,MOk t R S → f v0 v' R S k = some r → ∃ R' S',MOk t R' S' ∧ RLe R R' ∧ k R' S' = some r ∧ ∀ ρ,Agr R' ρ → Srv st ρ v0 v'
def MsOk (st : Bool) (t : T AB) (f : List AV → List AV → T Pos → T Unit → KMt → Rz) : Prop:=∀ v0 v' R S k r,MOk t R S → f v0 v' R S k = some r → ∃ R' S',MOk t R' S' ∧ RLe R R' ∧ k R' S' = some r ∧ ∀ ρ,Agr R' ρ → Srvs st ρ v0 v'
theorem leastC_ok {n : Nat} {v : AV} {k : Rz} {r : CRes} (h : leastC n v k = some r) : JLe v (.ge n) ∧ k = some r:=by
  cases v <;> try (cases h; done)
  · rename_i q i
    obtain ⟨h1,h2⟩:=eqNC_ok h
    have : q = .i64:=kN_inj h1
    subst this
    cases i with
    | negSucc m=>cases h2
    | ofNat m =>
      obtain ⟨h3,h4⟩:=ifC_ok h2
      obtain ⟨h5,h6⟩:=ifC_ok h4
      exact ⟨JLe.int (Nat.le_of_ble_eq_true h3) (Nat.le_of_ble_eq_true h5),h6⟩
  · obtain ⟨h3,h4⟩:=ifC_ok h
    exact ⟨JLe.ge (Nat.le_of_ble_eq_true h3),h4⟩
theorem mv1_ok {st : Bool} {t : T AB} {nest : List AV → List AV → T Pos → T Unit → KMt → Rz} (hn : MsOk st t nest) : MvOk st t (mv1 st t nest):=fun v0 v' R S k r hm h=>by
  have same : ∀ {x : Rz},x = some r → k R S = x → (∀ ρ,v' = rn ρ v0) → ∃ R' S',MOk t R' S' ∧ RLe R R' ∧ k R' S' = some r ∧ ∀ ρ,Agr R' ρ → Srv st ρ v0 v':=fun h1 h2 h3=>⟨R,S,hm,RLe.refl R,h2.trans h1,fun ρ _=>.eq (h3 ρ)⟩
  cases v0 with
  | junk =>
    cases st with
    | true=>obtain ⟨h1,h2⟩:=junkC_ok h; exact same h2 rfl fun ρ=>h1
    | false=>exact ⟨R,S,hm,RLe.refl R,h,fun ρ _=>⟨JLe.junk _,fun h=>by cases h⟩⟩
  | ge n =>
    cases st with
    | true =>
      cases v' <;> try (cases h; done)
      obtain ⟨h1,h2⟩:=eqNC_ok h
      exact same h2 rfl fun ρ=>by rw [h1]; rfl
    | false =>
      obtain ⟨h1,h2⟩:=leastC_ok h
      exact ⟨R,S,hm,RLe.refl R,h2,fun ρ _=>⟨h1,fun h=>by cases h⟩⟩
  | nilp=>obtain ⟨h1,h2⟩:=nilpC_ok h; exact same h2 rfl fun ρ=>h1
  | nils=>obtain ⟨h1,h2⟩:=nilsC_ok h; exact same h2 rfl fun ρ=>h1
  | nilm=>obtain ⟨h1,h2⟩:=nilmC_ok h; exact same h2 rfl fun ρ=>h1
  | nilf=>obtain ⟨h1,h2⟩:=nilfC_ok h; exact same h2 rfl fun ρ=>h1
  | nili=>obtain ⟨h1,h2⟩:=niliC_ok h; exact same h2 rfl fun ρ=>h1
  | int q n =>
    cases v' <;> try (cases h; done)
    obtain ⟨h1,h2⟩:=eqNC_ok h
    obtain ⟨h3,h4⟩:=eqIC_ok h2
    exact same h4 rfl fun ρ=>by rw [kN_inj h1,h3]; rfl
  | bool b =>
    cases v' <;> try (cases h; done)
    obtain ⟨h1,h2⟩:=eqBC_ok h
    exact same h2 rfl fun ρ=>by rw [h1]; rfl
  | str l =>
    cases v' <;> try (cases h; done)
    obtain ⟨h1,h2⟩:=eqLC_ok h
    exact same h2 rfl fun ρ=>by rw [h1]; rfl
  | ptr a o =>
    cases v' <;> try (cases h; done)
    obtain ⟨h1,h2⟩:=eqNC_ok h
    obtain ⟨R',S',q1,q2,q3,q4⟩:=ptC_ok hm h2
    exact ⟨R',S',q1,q2,q4,fun ρ hr=>.eq (by rw [h1,rn,hr _ _ q3])⟩
  | slc a o n z =>
    cases v' <;> try (cases h; done)
    obtain ⟨h1,h2⟩:=eqNC_ok h
    obtain ⟨h3,h4⟩:=eqNC_ok h2
    obtain ⟨h5,h6⟩:=eqNC_ok h4
    obtain ⟨R',S',q1,q2,q3,q4⟩:=ptC_ok hm h6
    exact ⟨R',S',q1,q2,q4,fun ρ hr=>.eq (by rw [h1,h3,h5,rn,hr _ _ q3])⟩
  | slcE a o z =>
    cases v' <;> try (cases h; done)
    obtain ⟨h1,h2⟩:=eqNC_ok h
    obtain ⟨h5,h6⟩:=eqNC_ok h2
    obtain ⟨R',S',q1,q2,q3,q4⟩:=ptC_ok hm h6
    exact ⟨R',S',q1,q2,q4,fun ρ hr=>.eq (by rw [h1,h5,rn,hr _ _ q3])⟩
  | map a =>
    cases v' <;> try (cases h; done)
    obtain ⟨R',S',q1,q2,q3,q4⟩:=ptC_ok hm h
    exact ⟨R',S',q1,q2,q4,fun ρ hr=>.eq (by rw [rn,hr _ _ q3])⟩
  | ltr q a =>
    cases v' <;> try (cases h; done)
    obtain ⟨h1,h2⟩:=eqNC_ok h
    obtain ⟨R',S',q1,q2,q3,q4⟩:=ptC_ok hm h2
    exact ⟨R',S',q1,q2,q4,fun ρ hr=>.eq (by rw [h1,rn,hr _ _ q3])⟩
  | agg l =>
    cases v' <;> try (cases h; done)
    obtain ⟨R',S',q1,q2,q3,q4⟩:=hn _ _ _ _ _ _ hm h
    exact ⟨R',S',q1,q2,q3,fun ρ hr=>⟨by rw [rn]; exact JLe.agg (q4 ρ hr).1,fun e=>by rw [rn,← (q4 ρ hr).2 e]⟩⟩
  | tup l =>
    cases v' <;> try (cases h; done)
    obtain ⟨R',S',q1,q2,q3,q4⟩:=hn _ _ _ _ _ _ hm h
    exact ⟨R',S',q1,q2,q3,fun ρ hr=>⟨by rw [rn]; exact JLe.tup (q4 ρ hr).1,fun e=>by rw [rn,← (q4 ρ hr).2 e]⟩⟩
  | txt l =>
    cases v' <;> try (cases h; done)
    obtain ⟨R',S',q1,q2,q3,q4⟩:=hn _ _ _ _ _ _ hm h
    exact ⟨R',S',q1,q2,q3,fun ρ hr=>⟨by rw [rn]; exact JLe.txt (q4 ρ hr).1,fun e=>by rw [rn,← (q4 ρ hr).2 e]⟩⟩
  | fn _ _ _=>cases h
  | yld _=>cases h
  | ifc _ _=>cases h
  | tyv _=>cases h
  | glb _ _ _=>cases h
theorem msC_ok {st : Bool} {t : T AB} {f : MV} (hf : MvOk st t f) : ∀ (l : List AV) (l' : List AV) (R : T Pos) (S : T Unit) (k : KMt) (r : CRes),MOk t R S → msC f l l' R S k = some r → ∃ R' S',MOk t R' S' ∧ RLe R R' ∧ k R' S' = some r ∧ ∀ ρ,Agr R' ρ → Srvs st ρ l l'
  | [],[],R,S,k,r,hm,h=>⟨R,S,hm,RLe.refl R,h,fun _ _=>⟨JLes.nil,fun _=>rfl⟩⟩
  | [],_ :: _,_,_,_,_,_,h=>by cases h
  | _ :: _,[],_,_,_,_,_,h=>by cases h
  | v :: l,v' :: l',R,S,k,r,hm,h=>by
    obtain ⟨R1,S1,q1,q2,q3,q4⟩:=hf v v' R S (fun R S=>msC f l l' R S k) r hm h
    obtain ⟨R2,S2,p1,p2,p3,p4⟩:=msC_ok hf l l' R1 S1 k r q1 q3
    exact ⟨R2,S2,p1,q2.trans p2,p3,fun ρ hr=>⟨by rw [rns]; exact JLes.cons (q4 ρ (hr.le p2)).1 (p4 ρ hr).1,fun e=>by rw [rns,← (q4 ρ (hr.le p2)).2 e,← (p4 ρ hr).2 e]⟩⟩
theorem mvC_ok (st : Bool) (t : T AB) : ∀ n,MvOk st t (mvC st t n)
  | 0=>mv1_ok fun _ _ _ _ _ _ _ h=>by cases h
  | n + 1=>mv1_ok (msC_ok (mvC_ok st t n))
inductive PK | ce (ro : Bool) (l : List AV) | mp (k : Nat) | gh (n : Nat)
abbrev PB:=Pos × PK
def PK.ab : PK → AB | .ce ro l=>.cells ro l.length (T.layN .leaf 0 l) | .mp k=>.mp [] k | .gh n=>.gh n
def mrowC (f : MV) (c : T AV) (l : List AV) : Nat → T Pos → T Unit → KMt → Rz:=List.rec (motive:=fun _=>Nat → T Pos → T Unit → KMt → Rz)
  (fun _ R S k=>k R S) (fun v _ ih i R S k=>atC c i fun v'=>natC (Nat.succ i) fun j=>f v v' R S fun R S=>ih j R S k) l
def mcellsC (b : AB) (k : Bool → Nat → T AV → Rz) : Rz:=AB.rec (motive:=fun _=>Rz) (fun ro n c=>k ro n c) (fun _ _=>none) (fun _ _ _ _=>none) (fun _ _ _ _ _=>none) (fun _=>none) (fun _=>none) b
def mghC (b : AB) (k : Nat → Rz) : Rz:=AB.rec (motive:=fun _=>Rz) (fun _ _ _=>none) (fun _ _=>none) (fun _ _ _ _=>none) (fun _ _ _ _ _=>none) (fun _=>none) k b
def gokC (n0 n : Nat) (k : Rz) : Rz:=Nat.rec (motive:=fun _=>Rz) k (fun _ _=>eqNC n0 n k) n0
theorem gokC_ok {n0 n : Nat} {k : Rz} {r : CRes} (h : gokC n0 n k = some r) : (n0 = 0 ∨ n0 = n) ∧ k = some r:=by
  cases n0 with
  | zero=>exact ⟨.inl rfl,h⟩
  | succ m =>
    obtain ⟨h1,h2⟩:=eqNC_ok (a:=Nat.succ m) (b:=n) (k:=k) (r:=r) h
    exact ⟨.inr h1,h2⟩
def mmpC (b : AB) (k : Nat → Rz) : Rz:=AB.rec (motive:=fun _=>Rz) (fun _ _ _=>none) (fun es q=>List.rec (motive:=fun _=>Rz) (k q) (fun _ _ _=>none) es) (fun _ _ _ _=>none) (fun _ _ _ _ _=>none) (fun _=>none) (fun _=>none) b
def mpkC (f : MV) (p : PK) : AB → T Pos → T Unit → KMt → Rz:=PK.rec (motive:=fun _=>AB → T Pos → T Unit → KMt → Rz)
  (fun ro0 l b R S k=>mcellsC b fun ro n c=>eqBC ro0 ro (eqNC (lenR l) n (getC mkP c fun y=>Option.rec (motive:=fun _=>Rz) (mrowC f c l 0 R S k) (fun _=>ifC (Nat.ble 4095 n) (mrowC f c l 0 R S k)) y)))
  (fun q0 b R S k=>mmpC b fun q=>eqNC q0 q (k R S))
  (fun n0 b R S k=>mghC b fun n=>gokC n0 n (k R S)) p
def mblkC (t : T AB) (f : Bool → MV) (L : List (Bool × PB)) : T Pos → T Unit → KMt → Rz:=List.rec (motive:=fun _=>T Pos → T Unit → KMt → Rz)
  (fun R S k=>k R S)
  (fun b _ ih R S k=>getC b.2.1 R fun x=>optK (fun a'=>getC a' t fun y=>optK (fun b'=>mpkC (f b.1) b.2.2 b' R S fun R S=>ih R S k) y) x) L
theorem optK_ok {α : Type} {k : α → Rz} {x : Option α} {r : CRes} (h : optK k x = some r) : ∃ a,x = some a ∧ k a = some r:=by
  cases x with
  | none=>cases h
  | some a=>exact ⟨a,rfl,h⟩
theorem mrowC_ok {st : Bool} {t : T AB} {f : MV} (hf : MvOk st t f) {c : T AV} : ∀ (l : List AV) (i : Nat) (R : T Pos) (S : T Unit) (k : KMt) (r : CRes),MOk t R S → mrowC f c l i R S k = some r → ∃ R' S',MOk t R' S' ∧ RLe R R' ∧ k R' S' = some r ∧ ∀ ρ,Agr R' ρ → ∀ j v,l[j]? = some v → ∃ v',c.at (i + j) = some v' ∧ Srv st ρ v v'
  | [],i,R,S,k,r,hm,h=>⟨R,S,hm,RLe.refl R,h,fun _ _ j v hv=>by simp at hv⟩
  | v :: l,i,R,S,k,r,hm,h=>by
    replace h : atC c i (fun v'=>natC (Nat.succ i) fun j=>f v v' R S fun R S=>mrowC f c l j R S k) = some r:=h
    rw [atC_eq] at h
    obtain ⟨v',h1,h2⟩:=optK_ok h
    rw [natC_eq] at h2
    obtain ⟨R1,S1,q1,q2,q3,q4⟩:=hf v v' R S _ r hm h2
    obtain ⟨R2,S2,p1,p2,p3,p4⟩:=mrowC_ok hf l (i + 1) R1 S1 k r q1 q3
    refine ⟨R2,S2,p1,q2.trans p2,p3,fun ρ hr j u hu=>?_⟩
    cases j with
    | zero=>simp at hu; subst hu; exact ⟨v',h1,q4 ρ (hr.le p2)⟩
    | succ j=>have:=p4 ρ hr j u (by simpa using hu); rw [show i + (j + 1) = i + 1 + j by omega]; exact this
theorem mcellsC_ok {b : AB} {k : Bool → Nat → T AV → Rz} {r : CRes} (h : mcellsC b k = some r) : ∃ ro n c,b = .cells ro n c ∧ k ro n c = some r:=by
  cases b <;> first | exact ⟨_,_,_,rfl,h⟩ | cases h
theorem mghC_ok {b : AB} {k : Nat → Rz} {r : CRes} (h : mghC b k = some r) : ∃ n,b = .gh n ∧ k n = some r:=by
  cases b <;> first | exact ⟨_,rfl,h⟩ | cases h
theorem mmpC_ok {b : AB} {k : Nat → Rz} {r : CRes} (h : mmpC b k = some r) : ∃ q,b = .mp [] q ∧ k q = some r:=by
  cases b <;> try (cases h; done)
  rename_i es q
  cases es with
  | nil=>exact ⟨q,rfl,h⟩
  | cons _ _=>cases h
theorem mk_lays (l : List AV) : ∀ q,T.get mkP ((T.leaf : T AV).layN 0 l) = some (.tyv q) → 4094 < l.length:=fun q hq=>by
  rw [← mkP_at,T.at_layN] at hq
  split at hq
  · next h=>omega
  · rw [mkP_at,T.get_leaf] at hq; cases hq
theorem mpkC_ok {st : Bool} {t : T AB} {f : MV} (hf : MvOk st t f) {p : PK} {b' : AB} {R : T Pos} {S : T Unit} {k : KMt} {r : CRes} (hm : MOk t R S) (h : mpkC f p b' R S k = some r) :
    ∃ R' S',MOk t R' S' ∧ RLe R R' ∧ k R' S' = some r ∧ ∀ ρ,Agr R' ρ → p.ab.fit ρ b' ∧ (st = true → p.ab.kv ρ b'):=by
  cases p with
  | mp q0 =>
    obtain ⟨q,h1,h2⟩:=mmpC_ok (k:=fun q=>eqNC q0 q (k R S)) h
    obtain ⟨h3,h4⟩:=eqNC_ok h2
    subst h1; subst h3
    exact ⟨R,S,hm,RLe.refl R,h4,fun ρ _=>⟨rfl,fun _=>.inl rfl⟩⟩
  | gh n0 =>
    obtain ⟨n,h1,h2⟩:=mghC_ok (k:=fun n=>gokC n0 n (k R S)) h
    subst h1
    obtain ⟨h3,h4⟩:=gokC_ok h2
    exact ⟨R,S,hm,RLe.refl R,h4,fun ρ _=>⟨h3,fun _=>.inr ⟨_,_,rfl,rfl⟩⟩⟩
  | ce ro0 l =>
    obtain ⟨ro,n,c,h5,h6⟩:=mcellsC_ok (k:=fun ro n c=>eqBC ro0 ro (eqNC (lenR l) n (getC mkP c fun y=>Option.rec (motive:=fun _=>Rz) (mrowC f c l 0 R S k) (fun _=>ifC (Nat.ble 4095 n) (mrowC f c l 0 R S k)) y))) h
    obtain ⟨h7,h8⟩:=eqBC_ok h6
    obtain ⟨h9,h10'⟩:=eqNC_ok h8
    rw [getC_eq] at h10'
    have hmk : (∀ q,T.get mkP c = some (.tyv q) → 4094 < n) ∧ mrowC f c l 0 R S k = some r:=by
      cases e : T.get mkP c with
      | none=>rw [e] at h10'; exact ⟨fun q hq=>by (cases hq),h10'⟩
      | some y =>
        rw [e] at h10'
        obtain ⟨g1,g2⟩:=ifC_ok (b:=Nat.ble 4095 n) (x:=mrowC f c l 0 R S k) h10'
        exact ⟨fun q _=>Nat.le_of_ble_eq_true g1,g2⟩
    obtain ⟨hmk,h10⟩:=hmk
    rw [lenR_eq] at h9
    obtain ⟨R1,S1,q1,q2,q3,q4⟩:=mrowC_ok hf _ _ _ _ _ _ hm h10
    subst h5; subst h7; subst h9
    have key : ∀ ρ,Agr R1 ρ → ∀ j,j < l.length → ∃ v v',(T.layN .leaf 0 l).at j = some v ∧ c.at j = some v' ∧ Srv st ρ v v':=fun ρ hr j hj=>by
      obtain ⟨v,hv⟩ : ∃ v,l[j]? = some v:=⟨l[j],List.getElem?_eq_getElem hj⟩
      obtain ⟨v',g1,g2⟩:=q4 ρ hr j v hv
      rw [Nat.zero_add] at g1
      refine ⟨v,v',?_,g1,g2⟩
      rw [T.at_layN,if_pos ⟨Nat.zero_le _,by omega⟩]; exact hv
    refine ⟨R1,S1,q1,q2,q3,fun ρ hr=>⟨⟨rfl,Nat.le_refl _,mk_lays l,fun j hj=>?_⟩,fun e=>.inl ⟨rfl,Nat.le_refl _,hmk,fun j hj=>?_⟩⟩⟩
    · obtain ⟨v,v',g1,g2,g3⟩:=key ρ hr j hj
      exact ⟨v,v',g1,g2,g3.1⟩
    · obtain ⟨v,v',g1,g2,g3⟩:=key ρ hr j hj
      exact ⟨v,v',g1,g2,JLe.of_eq (g3.2 e).symm⟩
theorem mblkC_ok {t : T AB} {f : Bool → MV} (hf : ∀ st,MvOk st t (f st)) : ∀ (L : List (Bool × PB)) (R : T Pos) (S : T Unit) (k : KMt) (r : CRes),MOk t R S → mblkC t f L R S k = some r →
    ∃ R' S',MOk t R' S' ∧ RLe R R' ∧ k R' S' = some r ∧ ∀ ρ,Agr R' ρ → ∀ b,b ∈ L → ∃ a' b',T.get b.2.1 R' = some a' ∧ T.get a' t = some b' ∧ b.2.2.ab.fit ρ b' ∧ (b.1 = true → b.2.2.ab.kv ρ b')
  | [],R,S,k,r,hm,h=>⟨R,S,hm,RLe.refl R,h,fun _ _ b hb=>by cases hb⟩
  | b :: L,R,S,k,r,hm,h=>by
    replace h : getC b.2.1 R (fun x=>optK (fun a'=>getC a' t fun y=>optK (fun b'=>mpkC (f b.1) b.2.2 b' R S fun R S=>mblkC t f L R S k) y) x) = some r:=h
    rw [getC_eq] at h
    obtain ⟨a',h1,h2⟩:=optK_ok h
    rw [getC_eq] at h2
    obtain ⟨b',h3,h4⟩:=optK_ok h2
    obtain ⟨R1,S1,q1,q2,q3,q4⟩:=mpkC_ok (hf b.1) hm h4
    obtain ⟨R2,S2,p1,p2,p3,p4⟩:=mblkC_ok hf L R1 S1 k r q1 q3
    refine ⟨R2,S2,p1,q2.trans p2,p3,fun ρ hr d hd=>?_⟩
    rcases List.mem_cons.1 hd with rfl | hd
    · exact ⟨a',b',p2 _ _ (q2 _ _ h1),h3,q4 ρ (hr.le p2)⟩
    · exact p4 ρ hr d hd
end
end Am
end Go.Proofs.YtadbcnekkceoaaaGreatDoor
namespace Go.Proofs.YtadbcnekkceoaaaGreatDoor
namespace Am
noncomputable section
def tOf : List PB → T AB → T AB | [],t=>t | b :: L,t=>tOf L (T.set b.1 (some b.2.ab) t)
theorem tOf_get : ∀ {L : List PB} {t : T AB} {a : Pos} {x : AB},T.get a (tOf L t) = some x → (∃ b,b ∈ L ∧ b.1 = a ∧ x = b.2.ab) ∨ T.get a t = some x
  | [],t,a,x,h=>.inr h
  | b :: L,t,a,x,h=>by
    rcases tOf_get (L:=L) h with ⟨d,h1,h2,h3⟩ | h
    · exact .inl ⟨d,List.mem_cons_of_mem _ h1,h2,h3⟩
    · by_cases e : a = b.1
      · subst e
        rw [T.get_set_same] at h
        injection h with h
        exact .inl ⟨b,List.mem_cons_self,rfl,h.symm⟩
      · rw [T.get_set_ne _ _ _ _ e] at h
        exact .inr h
def dis : List PB → T Unit → Bool
  | [],_=>true
  | b :: L,S=>match T.get b.1 S with | none=>dis L (T.set b.1 (some ()) S) | some _=>false
theorem dis_old : ∀ {L : List PB} {S : T Unit} {t : T AB} {a : Pos},dis L S = true → T.get a S = some () → T.get a (tOf L t) = T.get a t
  | [],S,t,a,_,_=>rfl
  | b :: L,S,t,a,h,ha=>by
    unfold dis at h
    split at h
    · next hb =>
      have e : a ≠ b.1:=fun e=>by rw [← e,ha] at hb; cases hb
      rw [show tOf (b :: L) t = tOf L (T.set b.1 (some b.2.ab) t) from rfl,dis_old h (by rw [T.get_set_ne _ _ _ _ e]; exact ha),T.get_set_ne _ _ _ _ e]
    · cases h
theorem dis_get : ∀ {L : List PB} {S : T Unit} {t : T AB},dis L S = true → ∀ b,b ∈ L → T.get b.1 (tOf L t) = some b.2.ab
  | [],_,_,_,b,hb=>by cases hb
  | b :: L,S,t,h,d,hd=>by
    unfold dis at h
    split at h
    · rcases List.mem_cons.1 hd with rfl | hd
      · rw [show tOf (d :: L) t = tOf L (T.set d.1 (some d.2.ab) t) from rfl,dis_old h (T.get_set_same _ _ _),T.get_set_same]
      · exact dis_get h d hd
    · cases h
def shal {α : Type} (t : T α) : Nat → Bool:=T.rec (motive:=fun _=>Nat → Bool) (fun _=>true) (fun _ _ _ il ir n=>Nat.rec (motive:=fun _=>Bool) false (fun m _=>Bool.rec (motive:=fun _=>Bool) false (ir m) (il m)) n) t
theorem shal_get {α : Type} : ∀ {t : T α} {d : Nat} {a : Pos} {x : α},shal t d = true → T.get a t = some x → a.nat < 2 ^ d
  | .leaf,d,a,x,_,h=>by rw [T.get_leaf] at h; cases h
  | .node l v r,0,a,x,h,_=>by cases h
  | .node l v r,d + 1,a,x,h,hg=>by
    have h2 : shal l d = true ∧ shal r d = true:=by
      replace h : Bool.rec (motive:=fun _=>Bool) false (shal r d) (shal l d) = true:=h
      cases e : shal l d with
      | false=>rw [e] at h; cases h
      | true=>rw [e] at h; exact ⟨rfl,h⟩
    have hp : 0 < 2 ^ d:=Nat.pow_pos (by omega)
    cases a with
    | xH=>simp only [Pos.nat]; rw [Nat.pow_succ]; omega
    | xO p=>have:=shal_get (a:=p) h2.1 hg; simp only [Pos.nat]; rw [Nat.pow_succ]; omega
    | xI p=>have:=shal_get (a:=p) h2.2 hg; simp only [Pos.nat]; rw [Nat.pow_succ]; omega
def deepB (p : Pos) : Nat → Bool:=Pos.rec (motive:=fun _=>Nat → Bool) (fun n=>Nat.beq n 0) (fun _ ih n=>Nat.rec (motive:=fun _=>Bool) true (fun m _=>ih m) n) (fun _ ih n=>Nat.rec (motive:=fun _=>Bool) true (fun m _=>ih m) n) p
theorem deepB_ok : ∀ {p : Pos} {n : Nat},deepB p n = true → 2 ^ n ≤ p.nat
  | p,0,_=>p.nat_pos
  | .xH,n + 1,h=>by cases h
  | .xO p,n + 1,h=>by have:=deepB_ok (p:=p) (n:=n) h; simp only [Pos.nat]; rw [Nat.pow_succ]; omega
  | .xI p,n + 1,h=>by have:=deepB_ok (p:=p) (n:=n) h; simp only [Pos.nat]; rw [Nat.pow_succ]; omega
def n0P : Pos:=.xO (.xO (.xO (.xO (.xO (.xO (.xO (.xO .xH)))))))
theorem n0P_nat : n0P.nat = 2 ^ 8:=rfl
def rhoOf (R : T Pos) (s : Nat) (a : Pos) : Pos:=if a.nat < 2 ^ 8 then (T.get a R).getD .xH else a.add s
theorem rhoOf_agr {R : T Pos} {s : Nat} (hs : shal R 8 = true) : Agr R (rhoOf R s):=fun a b h=>by
  unfold rhoOf
  rw [if_pos (shal_get hs h),h]; rfl
def frC (n : Nat) : Pos → Pos → T Pos → (T Pos → Pos → Rz) → Rz:=Nat.rec (motive:=fun _=>Pos → Pos → T Pos → (T Pos → Pos → Rz) → Rz)
  (fun _ q R k=>k R q) (fun _ ih p q R k=>setC (some q) p R fun R=>succC p fun p=>succC q fun q=>ih p q R k) n
theorem frC_ok {ρ : Pos → Pos} : ∀ (n : Nat) (p q : Pos) (R : T Pos) (k : T Pos → Pos → Rz) (r : CRes),Agr R ρ → (∀ i,i < n → ρ (p.add i) = q.add i) → frC n p q R k = some r →
    ∃ R' q',Agr R' ρ ∧ q'.nat = q.nat + n ∧ k R' q' = some r
  | 0,p,q,R,k,r,hr,_,h=>⟨R,q,hr,rfl,h⟩
  | n + 1,p,q,R,k,r,hr,hq,h=>by
    replace h : setC (some q) p R (fun R=>succC p fun p=>succC q fun q=>frC n p q R k) = some r:=h
    rw [setC_eq,succC_eq,succC_eq] at h
    have hadd : ∀ (p : Pos) i,p.succ.add i = p.add (i + 1):=fun p i=>Pos.nat_inj (by simp only [Pos.nat_add,Pos.nat_succ]; omega)
    have hr' : Agr (T.set p (some q) R) ρ:=fun a b hg=>by
      by_cases e : a = p
      · subst e
        rw [T.get_set_same] at hg
        injection hg with hg
        rw [← hg]
        exact hq 0 (by omega)
      · rw [T.get_set_ne _ _ _ _ e] at hg
        exact hr a b hg
    obtain ⟨R',q',h1,h2,h3⟩:=frC_ok n p.succ q.succ _ k r hr' (fun i hi=>by rw [hadd,hadd]; exact hq (i + 1) (by omega)) h
    exact ⟨R',q',h1,by rw [h2,Pos.nat_succ]; omega,h3⟩
abbrev RV:=AV → (AV → Rz) → Rz
def rnV1 (R : T Pos) (nest : List AV → (List AV → Rz) → Rz) : RV:=fun v k=>AV.rec (motive_1:=fun _=>Rz) (motive_2:=fun _=>PUnit) (k v) (fun _ _=>k v) (fun _=>k v) (fun _=>k v) (fun a o=>getC a R (optK fun b=>k (.ptr b o))) (k v) (fun a o n z=>getC a R (optK fun b=>k (.slc b o n z))) (fun a o z=>getC a R (optK fun b=>k (.slcE b o z))) (k v) (fun a=>getC a R (optK fun b=>k (.map b))) (k v) (fun _ _ _ _ _=>none) (fun _=>none) (k v) (fun _ _ _=>none) (k v) (fun l _=>nest l fun l=>k (.agg l)) (fun l _=>nest l fun l=>k (.tup l)) (fun q a=>getC a R (optK fun b=>k (.ltr q b))) (fun _=>k v) (fun _=>k v) (fun _ _ _=>none) (fun l _=>nest l fun l=>k (.txt l)) PUnit.unit (fun _ _ _ _=>PUnit.unit) v
def rnsC (f : RV) (l : List AV) : (List AV → Rz) → Rz:=List.rec (motive:=fun _=>(List AV → Rz) → Rz) (fun k=>k []) (fun v _ ih k=>f v fun v=>ih fun l=>k (v :: l)) l
def rnC (n : Nat) (R : T Pos) : RV:=Nat.rec (motive:=fun _=>RV) (rnV1 R fun _ _=>none) (fun _ ih=>rnV1 R (rnsC ih)) n
def RvOk (ρ : Pos → Pos) (f : RV) : Prop:=∀ v k r,f v k = some r → k (rn ρ v) = some r
theorem rnV1_ok {R : T Pos} {ρ : Pos → Pos} (hr : Agr R ρ) {nest : List AV → (List AV → Rz) → Rz} (hn : ∀ l k r,nest l k = some r → k (rns ρ l) = some r) : RvOk ρ (rnV1 R nest):=fun v k r h=>by
  have pt : ∀ {a : Pos} {f : Pos → AV},getC a R (optK fun b=>k (f b)) = some r → k (f (ρ a)) = some r:=fun {a f} h=>by
    rw [getC_eq] at h
    obtain ⟨b,h1,h2⟩:=optK_ok h
    rw [hr _ _ h1]; exact h2
  cases v with
  | ptr a o=>exact pt (f:=fun b=>.ptr b o) h
  | slc a o n z=>exact pt (f:=fun b=>.slc b o n z) h
  | slcE a o z=>exact pt (f:=fun b=>.slcE b o z) h
  | map a=>exact pt (f:=fun b=>.map b) h
  | ltr q a=>exact pt (f:=fun b=>.ltr q b) h
  | agg l=>exact hn _ _ _ h
  | tup l=>exact hn _ _ _ h
  | txt l=>exact hn _ _ _ h
  | fn _ _ _=>cases h
  | yld _=>cases h
  | ifc _ _=>cases h
  | glb _ _ _=>cases h
  | _=>exact h
theorem rnsC_ok {ρ : Pos → Pos} {f : RV} (hf : RvOk ρ f) : ∀ (l : List AV) (k : List AV → Rz) (r : CRes),rnsC f l k = some r → k (rns ρ l) = some r
  | [],k,r,h=>h
  | v :: l,k,r,h=>by
    have h1:=hf v _ r h
    exact rnsC_ok hf l _ r h1
theorem rnC_ok {R : T Pos} {ρ : Pos → Pos} (hr : Agr R ρ) : ∀ n,RvOk ρ (rnC n R)
  | 0=>rnV1_ok (nest:=fun _ _=>none) hr fun _ _ _ h=>by cases h
  | n + 1=>rnV1_ok hr (rnsC_ok (rnC_ok hr n))
theorem rns_get {ρ : Pos → Pos} : ∀ (l : List AV) (j : Nat),(rns ρ l)[j]? = l[j]?.map (rn ρ)
  | [],j=>by simp [rns]
  | v :: l,0=>by simp [rns]
  | v :: l,j + 1=>by simp [rns,rns_get l j]
theorem rns_len {ρ : Pos → Pos} : ∀ (l : List AV),(rns ρ l).length = l.length
  | []=>rfl
  | v :: l=>by simp [rns,rns_len l]
def bkC (f : RV) (p : PK) : (AB → Rz) → Rz:=PK.rec (motive:=fun _=>(AB → Rz) → Rz)
  (fun ro l k=>rnsC f l fun l=>layNC l .leaf 0 fun c=>k (.cells ro (lenR l) c)) (fun q k=>k (.mp [] q)) (fun n k=>k (.gh n)) p
theorem bkC_ok {ρ : Pos → Pos} {f : RV} (hf : RvOk ρ f) {p : PK} {k : AB → Rz} {r : CRes} (h : bkC f p k = some r) : ∃ b,p.ab.mv ρ b ∧ k b = some r:=by
  cases p with
  | mp q=>exact ⟨.mp [] q,(rfl : q = q),h⟩
  | gh n=>exact ⟨.gh n,(rfl : n = n),h⟩
  | ce ro l =>
    replace h : rnsC f l (fun l=>layNC l .leaf 0 fun c=>k (.cells ro (lenR l) c)) = some r:=h
    have h1:=rnsC_ok hf _ _ _ h
    rw [layNC_eq,lenR_eq] at h1
    have hm : (PK.ce ro l).ab.mv ρ (.cells ro (rns ρ l).length (T.layN .leaf 0 (rns ρ l))):=⟨rfl,by rw [rns_len]; exact Nat.le_refl _,mk_lays _,fun j hj=>by
      rw [rns_len] at hj
      obtain ⟨v,hv⟩ : ∃ v,l[j]? = some v:=⟨l[j],List.getElem?_eq_getElem hj⟩
      refine ⟨v,rn ρ v,?_,?_,JLe.refl _⟩
      · rw [T.at_layN,if_pos ⟨Nat.zero_le _,by omega⟩]; exact hv
      · rw [T.at_layN,if_pos ⟨Nat.zero_le _,by rw [rns_len]; omega⟩,rns_get,Nat.sub_zero,hv]; rfl⟩
    exact ⟨_,hm,h1⟩
def laysC (R : T Pos) (L : List PB) : T AB → (T AB → Rz) → Rz:=List.rec (motive:=fun _=>T AB → (T AB → Rz) → Rz)
  (fun t k=>k t) (fun b _ ih t k=>getC b.1 R fun x=>optK (fun a=>bkC (rnC 4 R) b.2 fun q=>setC (some q) a t fun t=>ih t k) x) L
theorem laysC_ok {R : T Pos} {ρ : Pos → Pos} (hr : Agr R ρ) : ∀ (L : List PB) (t : T AB) (k : T AB → Rz) (r : CRes),laysC R L t k = some r →
    ∃ t',k t' = some r ∧ ∀ a b,T.get a t' = some b → T.get a t = some b ∨ ∃ p,p ∈ L ∧ a = ρ p.1 ∧ p.2.ab.mv ρ b
  | [],t,k,r,h=>⟨t,h,fun a b hb=>.inl hb⟩
  | p :: L,t,k,r,h=>by
    replace h : getC p.1 R (fun x=>optK (fun a=>bkC (rnC 4 R) p.2 fun q=>setC (some q) a t fun t=>laysC R L t k) x) = some r:=h
    rw [getC_eq] at h
    obtain ⟨a',h1,h2⟩:=optK_ok h
    obtain ⟨q,h3,h4⟩:=bkC_ok (rnC_ok hr 4) h2
    rw [setC_eq] at h4
    obtain ⟨t',g1,g2⟩:=laysC_ok hr L _ k r h4
    refine ⟨t',g1,fun a b hb=>?_⟩
    rcases g2 a b hb with hb | ⟨d,e1,e2,e3⟩
    · by_cases e : a = a'
      · subst e
        rw [T.get_set_same] at hb
        injection hb with hb
        subst hb
        exact .inr ⟨p,List.mem_cons_self,(hr _ _ h1).symm,h3⟩
      · rw [T.get_set_ne _ _ _ _ e] at hb
        exact .inl hb
    · exact .inr ⟨d,List.mem_cons_of_mem _ e1,e2,e3⟩
def delsC (R : T Pos) (L : List (Bool × PB)) : T AB → (T AB → Rz) → Rz:=List.rec (motive:=fun _=>T AB → (T AB → Rz) → Rz)
  (fun t k=>k t) (fun b _ ih t k=>Bool.rec (motive:=fun _=>Rz) (getC b.2.1 R fun x=>optK (fun a=>setC none a t fun t=>ih t k) x) (ih t k) b.1) L
theorem delsC_ok {R : T Pos} {ρ : Pos → Pos} (hr : Agr R ρ) : ∀ (L : List (Bool × PB)) (t : T AB) (k : T AB → Rz) (r : CRes),delsC R L t k = some r →
    ∃ t',k t' = some r ∧ ∀ a b,T.get a t' = some b → T.get a t = some b ∧ ∀ p,p ∈ L → p.1 = false → a ≠ ρ p.2.1
  | [],t,k,r,h=>⟨t,h,fun a b hb=>⟨hb,fun p hp=>by cases hp⟩⟩
  | (true,p) :: L,t,k,r,h=>by
    obtain ⟨t',g1,g2⟩:=delsC_ok hr L t k r h
    refine ⟨t',g1,fun a b hb=>⟨(g2 a b hb).1,fun d hd e=>?_⟩⟩
    rcases List.mem_cons.1 hd with rfl | hd
    · cases e
    · exact (g2 a b hb).2 d hd e
  | (false,p) :: L,t,k,r,h=>by
    replace h : getC p.1 R (fun x=>optK (fun a=>setC none a t fun t=>delsC R L t k) x) = some r:=h
    rw [getC_eq] at h
    obtain ⟨a',h1,h2⟩:=optK_ok h
    rw [setC_eq] at h2
    obtain ⟨t',g1,g2⟩:=delsC_ok hr L _ k r h2
    have key : ∀ a b,T.get a t' = some b → a ≠ a':=fun a b hb e=>by
      have:=(g2 a b hb).1
      rw [e,T.get_set_same] at this
      cases this
    refine ⟨t',g1,fun a b hb=>⟨?_,fun d hd e=>?_⟩⟩
    · have:=(g2 a b hb).1
      rwa [T.get_set_ne _ _ _ _ (key a b hb)] at this
    · rcases List.mem_cons.1 hd with rfl | hd
      · rw [hr _ _ h1]; exact key a b hb
      · exact (g2 a b hb).2 d hd e
structure Ct where
  as : List AV
  L0 : List (Bool × PB)
  v : AV
  L1 : List PB
  fr : Nat
def Ct.h0 (c : Ct) : H:=⟨tOf (c.L0.map Prod.snd) .leaf,n0P⟩
def Ct.out (c : Ct) : List PB:=c.L1 ++ (c.L0.filter Prod.fst).map Prod.snd
def Ct.h1 (c : Ct) : H:=⟨tOf c.out .leaf,n0P.add c.fr⟩
def ctF (c : Ct) (as : List AV) (t : T AB) (nx : Pos) (k : AV → T AB → Pos → Rz) : Rz:=Ct.rec (motive:=fun _=>Rz)
  (fun as0 L0 v L1 fr=>msC (mvC false t 4) as0 as .leaf .leaf fun R S=>mblkC t (fun st=>mvC st t 4) L0 R S fun R _ =>
    ifC (shal R 8) (ifC (deepB nx 8) (delsC R L0 t fun t=>frC fr n0P nx R fun R nx=>laysC R L1 t fun t=>rnC 4 R v fun v=>k v t nx))) c
structure CtOk (P : Program) (tb : Tb) (NN : Nat → Nat) (g : Nat) (c : Ct) : Prop where
  cal : CalOk P tb NN (.fn g [] []) c.as c.h0 (.ret c.v c.h1 .no)
  one : dis c.out .leaf = true
section
variable {P : Program} {tb : Tb} {NN : Nat → Nat}
theorem MOk.nil (t : T AB) : MOk t .leaf .leaf where
  inj a a' b h:=by rw [T.get_leaf] at h; cases h
  taken a b h:=by rw [T.get_leaf] at h; cases h
  live a b h:=by rw [T.get_leaf] at h; cases h
theorem ctF_ok {g : Nat} {c : Ct} (hc : CtOk P tb NN g c) {as : List AV} {t : T AB} {nx : Pos} {k : AV → T AB → Pos → Rz} {r : CRes} (h : ctF c as t nx k = some r) :
    ∃ v' t' nx',k v' t' nx' = some r ∧ CalOk P tb NN (.fn g [] []) as ⟨t,nx⟩ (.ret v' ⟨t',nx'⟩ .no):=by
  obtain ⟨as0,L0,v,L1,fr⟩:=c
  replace h : msC (mvC false t 4) as0 as .leaf .leaf (fun R S=>mblkC t (fun st=>mvC st t 4) L0 R S fun R _ =>
    ifC (shal R 8) (ifC (deepB nx 8) (delsC R L0 t fun t=>frC fr n0P nx R fun R nx=>laysC R L1 t fun t=>rnC 4 R v fun v=>k v t nx))) = some r:=h
  obtain ⟨R1,S1,q1,q2,q3,q4⟩:=msC_ok (mvC_ok false t 4) _ _ _ _ _ _ (MOk.nil t) h
  obtain ⟨R,S,p1,p2,p3,p4⟩:=mblkC_ok (fun st=>mvC_ok st t 4) _ _ _ _ _ q1 q3
  obtain ⟨h1,h2⟩:=ifC_ok p3
  obtain ⟨h3,h4⟩:=ifC_ok h2
  have hnx:=deepB_ok h3
  obtain ⟨s,hs⟩ : ∃ s,2 ^ 8 + s = nx.nat:=⟨nx.nat - 2 ^ 8,by omega⟩
  have hA : Agr R (rhoOf R s):=rhoOf_agr h1
  obtain ⟨t1,h5,h6⟩:=delsC_ok hA _ _ _ _ h4
  have hshift : ∀ i,rhoOf R s (n0P.add i) = nx.add i:=fun i=>by
    unfold rhoOf
    rw [if_neg (by rw [Pos.nat_add,n0P_nat]; omega)]
    exact Pos.nat_inj (by rw [Pos.nat_add,Pos.nat_add,Pos.nat_add,n0P_nat]; omega)
  obtain ⟨R2,nx2,h7,h8,h9⟩:=frC_ok fr n0P nx R _ _ hA (fun i _=>hshift i) h5
  obtain ⟨t2,h10,h11⟩:=laysC_ok h7 _ _ _ _ h9
  have h12:=rnC_ok h7 4 v _ _ h10
  refine ⟨_,_,_,h12,?_⟩
  obtain ⟨j1,_⟩:=q4 _ (hA.le p2)
  have hb:=p4 _ hA
  have fit : Fit (rhoOf R s) s (Ct.h0 ⟨as0,L0,v,L1,fr⟩) ⟨t,nx⟩:=by
    refine ⟨hs,fun a ha=>?_,fun a ha=>?_,fun a x hx=>?_,fun a a' x x' hx hx' he=>?_⟩
    · have ha : 2 ^ 8 ≤ a.nat:=ha
      unfold rhoOf
      rw [if_neg (by omega),Pos.nat_add]
    · have ha : a.nat < 2 ^ 8:=ha
      unfold rhoOf
      rw [if_pos ha]
      cases e : T.get a R with
      | none =>
        left
        have:=a.nat_pos
        show 1 < nx.nat
        omega
      | some b=>exact .inr (p1.live a b e)
    · rcases tOf_get hx with ⟨b,h1,h2,h3⟩ | hx
      · obtain ⟨d,e1,e2⟩:=List.mem_map.1 h1
        subst e2; subst h2; subst h3
        obtain ⟨a',b',g1,g2,g3,_⟩:=hb d e1
        rw [hA _ _ g1]
        exact ⟨b',g2,g3⟩
      · rw [T.get_leaf] at hx; cases hx
    · rcases tOf_get hx with ⟨b,h1,h2,_⟩ | hx
      · rcases tOf_get hx' with ⟨b',h1',h2',_⟩ | hx'
        · obtain ⟨d,e1,e2⟩:=List.mem_map.1 h1
          obtain ⟨d',e1',e2'⟩:=List.mem_map.1 h1'
          subst e2; subst h2; subst e2'; subst h2'
          obtain ⟨y,_,g1,_⟩:=hb d e1
          obtain ⟨y',_,g1',_⟩:=hb d' e1'
          rw [hA _ _ g1,hA _ _ g1'] at he
          subst he
          exact p1.inj _ _ _ g1 g1'
        · rw [T.get_leaf] at hx'; cases hx'
      · rw [T.get_leaf] at hx; cases hx
  have hkeep : ∀ d,d ∈ L0 → d.1 = true → T.get d.2.1 (tOf (L1 ++ (L0.filter Prod.fst).map Prod.snd) .leaf) = some d.2.2.ab:=fun d hd he =>
    dis_get hc.one d.2 (List.mem_append.2 (.inr (List.mem_map.2 ⟨d,List.mem_filter.2 ⟨hd,he⟩,rfl⟩)))
  have out : Out (rhoOf R s) s (Ct.h0 ⟨as0,L0,v,L1,fr⟩) ⟨t,nx⟩ (Ct.h1 ⟨as0,L0,v,L1,fr⟩) ⟨t2,nx2⟩:=by
    refine ⟨?_,fun a b hg=>?_⟩
    · show nx2.nat = (n0P.add fr).nat + s
      rw [h8,Pos.nat_add,n0P_nat]; omega
    · rcases h11 a b hg with hg | ⟨p,e1,e2,e3⟩
      · obtain ⟨g1,g2⟩:=h6 a b hg
        by_cases hh : ∃ d,d ∈ L0 ∧ a = rhoOf R s d.2.1
        · obtain ⟨d,e1,e2⟩:=hh
          right
          have ht : d.1 = true:=by
            cases e : d.1 with
            | true=>rfl
            | false=>exact absurd e2 (g2 d e1 e)
          obtain ⟨a',b',k1,k2,k3,k4⟩:=hb d e1
          have : a = a':=e2.trans (hA _ _ k1)
          subst this
          rw [g1] at k2
          injection k2 with k2
          subst k2
          exact ⟨_,_,hkeep d e1 ht,e2,(k4 ht).imp id fun ⟨n,n',p,q⟩=>⟨n,n',p,q,g1⟩⟩
        · left
          refine ⟨g1,fun a0 b0 hx he=>hh ?_⟩
          rcases tOf_get hx with ⟨b,h1,h2,_⟩ | hx
          · obtain ⟨d,e1,e2⟩:=List.mem_map.1 h1
            subst e2; subst h2
            exact ⟨d,e1,he⟩
          · rw [T.get_leaf] at hx; cases hx
      · right
        exact ⟨p.1,p.2.ab,dis_get hc.one p (List.mem_append.2 (.inl e1)),e2,.inl e3⟩
  exact hc.cal.frame fit out (JLe.refl _) j1 (JLe.refl _)
def regC (t : T AB) (L : List (Bool × PB)) : T Pos → T Unit → KMt → Rz:=List.rec (motive:=fun _=>T Pos → T Unit → KMt → Rz)
  (fun R S k=>k R S) (fun b _ ih R S k=>Bool.rec (motive:=fun _=>Rz) (ih R S k) (ptC t b.2.1 b.2.1 R S fun R S=>ih R S k) b.1) L
theorem regC_ok {t : T AB} : ∀ (L : List (Bool × PB)) (R : T Pos) (S : T Unit) (k : KMt) (r : CRes),MOk t R S → regC t L R S k = some r → ∃ R' S',MOk t R' S' ∧ RLe R R' ∧ k R' S' = some r
  | [],R,S,k,r,hm,h=>⟨R,S,hm,RLe.refl R,h⟩
  | (false,p) :: L,R,S,k,r,hm,h=>regC_ok L R S k r hm h
  | (true,p) :: L,R,S,k,r,hm,h=>by
    obtain ⟨R1,S1,q1,q2,q3,q4⟩:=ptC_ok (k:=fun R S=>regC t L R S k) hm h
    obtain ⟨R2,S2,p1,p2,p3⟩:=regC_ok L R1 S1 k r q1 q4
    exact ⟨R2,S2,p1,q2.trans p2,p3⟩
def regL (t : T AB) (L : List PB) : T Pos → T Unit → KMt → Rz:=List.rec (motive:=fun _=>T Pos → T Unit → KMt → Rz)
  (fun R S k=>k R S) (fun b _ ih R S k=>Bool.rec (motive:=fun _=>Rz) (ih R S k) (ptC t b.1 b.1 R S fun R S=>ih R S k) (Nat.blt (Pos.nat b.1) 256)) L
theorem regL_ok {t : T AB} : ∀ (L : List PB) (R : T Pos) (S : T Unit) (k : KMt) (r : CRes),MOk t R S → regL t L R S k = some r → ∃ R' S',MOk t R' S' ∧ RLe R R' ∧ k R' S' = some r
  | [],R,S,k,r,hm,h=>⟨R,S,hm,RLe.refl R,h⟩
  | p :: L,R,S,k,r,hm,h=>by
    replace h : Bool.rec (motive:=fun _=>Rz) (regL t L R S k) (ptC t p.1 p.1 R S fun R S=>regL t L R S k) (Nat.blt (Pos.nat p.1) 256) = some r:=h
    cases e : Nat.blt (Pos.nat p.1) 256 with
    | false=>rw [e] at h; exact regL_ok L R S k r hm h
    | true =>
      rw [e] at h
      obtain ⟨R1,S1,q1,q2,q3,q4⟩:=ptC_ok (k:=fun R S=>regL t L R S k) hm h
      obtain ⟨R2,S2,p1,p2,p3⟩:=regL_ok L R1 S1 k r q1 q4
      exact ⟨R2,S2,p1,q2.trans p2,p3⟩
def okR (n : Nat) : T Pos → Nat → Nat → Bool
  | .leaf,_,_=>true
  | .node l v r,c,p=>(match v with | none=>true | some b=>bif Nat.blt (Nat.add c p) 256 then Nat.beq b.nat (Nat.add c p) else Nat.blt (Nat.add c p) n) && (okR n l c (Nat.mul 2 p) && okR n r (Nat.add c p) (Nat.mul 2 p))
theorem okR_get {n : Nat} : ∀ {R : T Pos} {c p : Nat} {a b : Pos},okR n R c p = true → T.get a R = some b → (c + p * a.nat < 256 → b.nat = c + p * a.nat) ∧ (256 ≤ c + p * a.nat → c + p * a.nat < n)
  | .leaf,c,p,a,b,_,h=>by rw [T.get_leaf] at h; cases h
  | .node l v r,c,p,a,b,h,hg=>by
    unfold okR at h
    simp only [Bool.and_eq_true] at h
    obtain ⟨h1,h2,h3⟩:=h
    have e1 : Nat.mul 2 p = 2 * p:=rfl
    have e2 : Nat.add c p = c + p:=rfl
    cases a with
    | xH =>
      have hv : v = some b:=hg
      subst hv
      simp only [Pos.nat,Nat.mul_one]
      rw [e2] at h1
      by_cases hh : c + p < 256
      · have hb : Nat.blt (c + p) 256 = true:=by rw [Nat.blt_eq]; exact hh
        simp only [hb,cond_true] at h1
        exact ⟨fun _=>Nat.eq_of_beq_eq_true h1,fun h=>by omega⟩
      · have hb : Nat.blt (c + p) 256 = false:=by
          cases e : Nat.blt (c + p) 256 with
          | false=>rfl
          | true=>rw [Nat.blt_eq] at e; omega
        simp only [hb,cond_false] at h1
        rw [Nat.blt_eq] at h1
        exact ⟨fun h=>by omega,fun _=>h1⟩
    | xO q =>
      have:=okR_get (a:=q) h2 hg
      rw [e1] at this
      simp only [Pos.nat]
      rw [show p * (2 * q.nat) = 2 * p * q.nat by rw [← Nat.mul_assoc,Nat.mul_comm p 2]]
      exact this
    | xI q =>
      have:=okR_get (a:=q) h3 hg
      rw [e1,e2] at this
      simp only [Pos.nat]
      rw [show c + p * (2 * q.nat + 1) = c + p + 2 * p * q.nat by rw [Nat.mul_add,← Nat.mul_assoc,Nat.mul_comm p 2]; omega]
      exact this
def initC (L : List PB) : T AB → (T AB → Rz) → Rz:=List.rec (motive:=fun _=>T AB → (T AB → Rz) → Rz)
  (fun t k=>k t) (fun b _ ih t k=>PK.rec (motive:=fun _=>Rz) (fun ro l=>layNC l .leaf 0 fun c=>setC (some (.cells ro (lenR l) c)) b.1 t fun t=>ih t k) (fun q=>setC (some (.mp [] q)) b.1 t fun t=>ih t k) (fun n=>setC (some (.gh n)) b.1 t fun t=>ih t k) b.2) L
theorem initC_eq : ∀ (L : List PB) (t : T AB) (k : T AB → Rz),initC L t k = k (tOf L t)
  | [],t,k=>rfl
  | (a,.ce ro l) :: L,t,k=>by
    show layNC l .leaf 0 (fun c=>setC (some (.cells ro (lenR l) c)) a t fun t=>initC L t k) = _
    rw [layNC_eq,setC_eq,initC_eq L,lenR_eq]; rfl
  | (a,.mp q) :: L,t,k=>by
    show setC (some (.mp [] q)) a t (fun t=>initC L t k) = _
    rw [setC_eq,initC_eq L]; rfl
  | (a,.gh n) :: L,t,k=>by
    show setC (some (.gh n)) a t (fun t=>initC L t k) = _
    rw [setC_eq,initC_eq L]; rfl
def tok : CRes:=.ret .junk ⟨.leaf,.xH⟩ .no
def cmpC (c : Ct) (v : AV) (t : T AB) : Rz:=regC t c.L0 .leaf .leaf fun R S=>regL t c.L1 R S fun R S=>mvC false t 4 c.v v R S fun R S=>mblkC t (fun st=>mvC st t 4) (c.out.map fun p=>(false,p)) R S fun R _=>ifC (okR (256 + c.fr) R 0 1) (some tok)
def ctChk (K : KTbl) (n g : Nat) (c : Ct) : Rz:=ifC (dis c.out .leaf) (initC (c.L0.map Prod.snd) .leaf fun t=>callC K n false (.fn g [] []) c.as .no t n0P (fun v t _ _=>cmpC c v t) (fun _ _ _ _=>none))
theorem ren_of {c : Ct} {v : AV} {t : T AB} {nx : Pos} {r : CRes} (hl : 256 ≤ nx.nat) (h : cmpC c v t = some r) : ∃ τ,Ren τ 256 ⟨t,nx⟩ c.h1 ∧ JLe v (rn τ c.v):=by
  unfold cmpC at h
  obtain ⟨R9,S9,d1,d2,d3⟩:=regC_ok _ _ _ _ _ (MOk.nil t) h
  obtain ⟨R0,S0,a1,a2,a3⟩:=regL_ok _ _ _ _ _ d1 d3
  obtain ⟨R1,S1,b1,b2,b3,b4⟩:=mvC_ok false t 4 _ _ _ _ _ _ a1 a3
  obtain ⟨R,S,p1,p2,p3,p4⟩:=mblkC_ok (fun st=>mvC_ok st t 4) _ _ _ _ _ b1 b3
  obtain ⟨h1,h2⟩:=ifC_ok p3
  have hget : ∀ a b,T.get a R = some b → (a.nat < 256 → b.nat = a.nat) ∧ (256 ≤ a.nat → a.nat < 256 + c.fr):=fun a b hg=>by
    have:=okR_get (a:=a) h1 hg
    rwa [Nat.zero_add,Nat.one_mul] at this
  let τ : Pos → Pos:=fun a=>if a.nat < 256 then a else (T.get a R).getD (a.add nx.nat)
  have hA : Agr R τ:=fun a b hg=>by
    show (if a.nat < 256 then a else (T.get a R).getD (a.add nx.nat)) = b
    split
    · next hh=>exact Pos.nat_inj ((hget a b hg).1 hh).symm
    · rw [hg]; rfl
  have hb:=p4 τ hA
  have hmem : ∀ {a x},T.get a (tOf c.out .leaf) = some x → ∃ a' b',T.get a R = some a' ∧ T.get a' t = some b' ∧ x.fit τ b':=fun {a x} hx=>by
    rcases tOf_get hx with ⟨d,h1,h2,h3⟩ | hx
    · subst h2; subst h3
      obtain ⟨a',b',g1,g2,g3,_⟩:=hb (false,d) (List.mem_map.2 ⟨d,h1,rfl⟩)
      exact ⟨a',b',g1,g2,g3⟩
    · rw [T.get_leaf] at hx; cases hx
  refine ⟨τ,⟨fun a ha=>if_pos ha,fun a x hx=>?_,fun a a' x x' hx hx' he=>?_,fun a ha=>?_,?_⟩,(b4 τ (hA.le p2)).1⟩
  · obtain ⟨a',b',g1,g2,g3⟩:=hmem hx
    exact ⟨b',by rw [hA _ _ g1]; exact g2,g3⟩
  · obtain ⟨y,_,g1,_⟩:=hmem hx
    obtain ⟨y',_,g1',_⟩:=hmem hx'
    rw [hA _ _ g1,hA _ _ g1'] at he
    subst he
    exact p1.inj _ _ _ g1 g1'
  · have ha : (n0P.add c.fr).nat ≤ a.nat:=ha
    rw [Pos.nat_add,n0P_nat] at ha
    show nx.nat ≤ (if a.nat < 256 then a else (T.get a R).getD (a.add nx.nat)).nat
    rw [if_neg (by omega)]
    cases e : T.get a R with
    | some b=>have:=(hget a b e).2 (by omega); omega
    | none =>
      show nx.nat ≤ (a.add nx.nat).nat
      rw [Pos.nat_add]; omega
  · show 256 ≤ (n0P.add c.fr).nat
    rw [Pos.nat_add,n0P_nat]; omega
theorem CalOk.mono_next {c : AV} {as : List AV} {h : H} {v : AV} {h1 : H} {p : Pn} (hc : CalOk P tb NN c as h (.ret v h1 p)) (hn : h1.next.nat < h.next.nat) {m : Mp} {w : World} {u : Value} {args : Array Value} (hr : HR tb NN m h w) (hu : VR m c u) (ha : VRs m as args.toList) : False:=by
  obtain ⟨nx,fr0,q1,q2,q3⟩:=hc m w u args 0 hr hu ha (Nat.zero_le _)
  obtain ⟨m1,w1,u1,p1,p2,p3,p4⟩:=q3 { (default : Frame) with mode:=.run } [] rfl
  have:=p4.next
  omega
theorem ct_ok {K : KTbl} (hmix : P.follows .mixedOrders = true) (ok : TblOk P tb NN K.tbl) {n g : Nat} {c : Ct} {r : CRes} (h : ctChk K n g c = some r) : CtOk P tb NN g c:=by
  unfold ctChk at h
  obtain ⟨h1,h2⟩:=ifC_ok h
  rw [initC_eq,callC_eq K n] at h2
  cases hh : callT K.tbl n false (.fn g [] []) c.as .no ⟨tOf (c.L0.map Prod.snd) .leaf,n0P⟩ with
  | none=>rw [hh] at h2; cases h2
  | some r' =>
    rw [hh] at h2
    have hc:=(callT_ok hmix ok n).1 _ _ _ _ hh
    cases r' with
    | pan v h p=>cases h2
    | ret v hr p =>
      replace h2 : cmpC c v hr.t = some r:=h2
      refine ⟨?_,h1⟩
      rcases Nat.lt_or_ge hr.next.nat 256 with hl | hl
      · intro m w u args B hrr hu ha hB
        exact (CalOk.mono_next hc hl hrr hu ha).elim
      · obtain ⟨τ,r1,r2⟩:=ren_of (nx:=hr.next) hl h2
        exact CalOk.ren (p':=.no) r1 r2 hc
end
end
end Am
end Go.Proofs.YtadbcnekkceoaaaGreatDoor
