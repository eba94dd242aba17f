/- In which orders the model goes through a region. -/
import Derived.Test.YtadbcnekkceoaaaGreatDoorKOAmB
import Derived.Orders
set_option linter.unusedVariables false
namespace Go.Proofs.YtadbcnekkceoaaaGreatDoor
namespace Am
def Sch (n : Nat) (dep : Nat → Nat → Prop) : List Nat → List Nat → Prop
  | D,[]=>∀ i,i < n → i ∈ D
  | D,i :: rest=>i < n ∧ i ∉ D ∧ (∀ j,dep i j → j ∈ D) ∧ Sch n dep (i :: D) rest
theorem Sch.plain (n : Nat) : ∀ (k s : Nat) (D : List Nat),s + k = n → (∀ i,i ∈ D ↔ i < s) → Sch n (fun i j=>j < i) D (List.range' s k)
  | 0,s,D,h,hD=>fun i hi=>(hD i).2 (by omega)
  | k + 1,s,D,h,hD=>by
    rw [List.range'_succ]
    refine ⟨by omega,fun hs=>by have:=(hD s).1 hs; omega,fun j hj=>(hD j).2 hj,Sch.plain n k (s + 1) (s :: D) (by omega) fun i=>?_⟩
    rw [List.mem_cons,hD]
    omega
theorem sch_range (n : Nat) : Sch n (fun i j=>j < i) [] (List.range n):=by
  rw [List.range_eq_range']
  exact Sch.plain n n 0 [] (by omega) fun i=>by simp
def Dep (ops : Array Oper) (i j : Nat) : Prop:=∃ o e,ops[i]? = some o ∧ e ∈ o.after ∧ Region.binds .any e = true ∧ e.on = j
theorem ready_mem {ops : Array Oper} {L : Array Bool} {i : Nat} : i ∈ Region.ready .any ops L ↔ i < ops.size ∧ L.getD i true = false ∧ ∀ j,Dep ops i j → L.getD j false = true:=by
  unfold Region.ready
  rw [List.mem_filter,List.mem_range]
  refine and_congr_right fun hi=>?_
  have ho : ops[i]? = some ops[i]:=Array.getElem?_eq_getElem hi
  rw [ho]
  simp only [Option.map_some,Option.getD_some,Bool.and_eq_true,Bool.not_eq_true',Array.all_eq_true,Bool.or_eq_true]
  refine and_congr_right fun _=>⟨fun h j ⟨o,e,h1,h2,h3,h4⟩=>?_,fun h k hk=>?_⟩
  · rw [ho] at h1; injection h1 with h1; subst h1
    obtain ⟨k,hk,hke⟩:=Array.mem_iff_getElem.1 h2
    have:=h k hk
    rw [hke,h3] at this
    subst h4
    simpa using this
  · cases hb : Region.binds .any ops[i].after[k] with
    | false=>exact .inl rfl
    | true=>exact .inr (h _ ⟨_,_,ho,Array.getElem_mem hk,hb,rfl⟩)
theorem len_le_of_nodup : ∀ (n : Nat) (D : List Nat),D.Nodup → (∀ i ∈ D,i < n) → D.length ≤ n
  | 0,D,_,h2=>by
    cases D with
    | nil=>simp
    | cons x l=>have:=h2 x (by simp); omega
  | n + 1,D,h1,h2=>by
    have h3:=len_le_of_nodup n (D.erase n) (h1.erase n) (fun i hi=>by
      have h4:=(h1.mem_erase_iff).1 hi
      have:=h2 i h4.2
      have:=h4.1
      omega)
    rw [List.length_erase] at h3
    split at h3 <;> omega
theorem all_of_len {n : Nat} {D : List Nat} (h1 : D.Nodup) (h2 : ∀ i ∈ D,i < n) (h3 : D.length = n) : ∀ i,i < n → i ∈ D:=by
  intro i hi
  apply Classical.byContradiction
  intro hn
  have:=len_le_of_nodup n (i :: D) (List.nodup_cons.2 ⟨hn,h1⟩) (fun j hj=>by
    rcases List.mem_cons.1 hj with rfl | hj
    · exact hi
    · exact h2 j hj)
  simp at this
  omega
theorem least {p : Nat → Prop} : ∀ n,p n → ∃ m,p m ∧ ∀ k,k < m → ¬ p k:=by
  intro n
  induction n using Nat.strongRecOn with
  | _ n ih =>
    intro h
    by_cases hk : ∃ k,k < n ∧ p k
    · obtain ⟨k,h1,h2⟩:=hk
      exact ih k h1 h2
    · exact ⟨n,h,fun k h1 h2=>hk ⟨k,h1,h2⟩⟩
theorem sch_go {ops : Array Oper} (hE : ∀ i j,Dep ops i j → j < i) : ∀ (fuel t : Nat) (L : Array Bool) (D : List Nat),L.size = ops.size → D.Nodup → (∀ i ∈ D,i < ops.size) → (∀ i,i < ops.size → (L.getD i false = true ↔ i ∈ D)) → fuel + D.length = ops.size →
    Sch ops.size (Dep ops) D (Region.linearise.go .any ops fuel t L []):=by
  intro fuel
  induction fuel with
  | zero=>exact fun t L D _ h1 h2 _ h3=>all_of_len h1 h2 (by omega)
  | succ fuel ih =>
    intro t L D hL h1 h2 hD h3
    simp only [Region.linearise.go]
    change Sch ops.size (Dep ops) D (match (Region.ready .any ops L)[t % (Region.ready .any ops L).length]? with
      | some i=>Region.linearise.go .any ops fuel (t / (Region.ready .any ops L).length) (L.setIfInBounds i true) [i]
      | none=>[].reverse)
    cases hi : (Region.ready .any ops L)[t % (Region.ready .any ops L).length]? with
    | none =>
      have hnil : Region.ready .any ops L = []:=by
        cases hr : Region.ready .any ops L with
        | nil=>rfl
        | cons x xs =>
          rw [hr] at hi
          have hlt : t % (x :: xs).length < (x :: xs).length:=Nat.mod_lt _ (by simp)
          rw [List.getElem?_eq_getElem hlt] at hi
          cases hi
      intro i hin
      apply Classical.byContradiction
      intro hn
      obtain ⟨m,⟨q1,q2⟩,q3⟩:=least (p:=fun i=>i < ops.size ∧ i ∉ D) i ⟨hin,hn⟩
      have : m ∈ Region.ready .any ops L:=ready_mem.2 ⟨q1,by
        have hf : L.getD m false = false:=by
          cases e : L.getD m false with
          | false=>rfl
          | true=>exact absurd ((hD m q1).1 e) q2
        rw [← hf]
        simp [Array.getD,hL,q1],fun j hj=>by
        have hjm:=hE m j hj
        exact (hD j (by omega)).2 (Classical.byContradiction fun hj'=>q3 j hjm ⟨by omega,hj'⟩)⟩
      rw [hnil] at this
      cases this
    | some i =>
      simp only []
      rw [linearise_go_acc,List.reverse_singleton,List.singleton_append]
      obtain ⟨r1,r2,r3⟩:=ready_mem.1 (List.mem_of_getElem? hi)
      have hiD : i ∉ D:=fun hm=>by
        have:=(hD i r1).2 hm
        simp [Array.getD,hL,r1] at this r2
        rw [this] at r2; cases r2
      refine ⟨r1,hiD,fun j hj=>(hD j (by have:=hE i j hj; omega)).1 (r3 j hj),ih _ _ _ (by simp [hL]) (List.nodup_cons.2 ⟨hiD,h1⟩) (fun k hk=>?_) (fun k hk=>?_) (by simp; omega)⟩
      · rcases List.mem_cons.1 hk with rfl | hk
        · exact r1
        · exact h2 k hk
      · rw [List.mem_cons,← hD k hk]
        by_cases e : k = i
        · subst e
          simp [Array.getD,hL,hk]
        · have : (L.setIfInBounds i true).getD k false = L.getD k false:=by
            simp [Array.getD,hL,hk,Ne.symm e]
          rw [this]
          simp [e]
theorem sch_drawn {ops : Array Oper} (hE : ∀ i j,Dep ops i j → j < i) (t : Nat) : Sch ops.size (Dep ops) [] (Region.schedule true ops t):=by
  simp only [Region.schedule,Bool.true_or,if_true]
  exact sch_go hE ops.size t _ [] (by simp) List.nodup_nil (fun i hi=>by simp at hi) (fun i hi=>by simp [Array.getD,hi]) (by simp)
end Am
end Go.Proofs.YtadbcnekkceoaaaGreatDoor
namespace Go.Proofs.YtadbcnekkceoaaaGreatDoor
namespace Am
inductive Pn | no | yes (v : AV) | done
structure Fx where
  dfs : List (AV × List AV)
  pn : Pn
def CsR (m : Mp) (b : Frame) (cs0 : List Frame) : Pn → List Frame → Prop
  | .no,cs=>cs = cs0 ∧ ∀ a todo,tryRecover (b.atR a todo) cs = none
  | .yes v,cs=>cs = cs0 ∧ b.kind = .deferred ∧ ∃ c rest u,cs0 = c :: rest ∧ c.mode = .panicking [{ v:=u,recovered:=false }] ∧ VR m v u
  | .done,cs=>b.kind = .deferred ∧ ∃ c rest u,cs0 = c :: rest ∧ c.mode = .panicking [{ v:=u,recovered:=false }] ∧ cs = { c with mode:=.panicking [{ v:=u,recovered:=true }] } :: rest
theorem CsR.mono {m m' : Mp} (hm : m.le m') {b : Frame} {cs0 : List Frame} : ∀ {p : Pn} {cs : List Frame},CsR m b cs0 p cs → CsR m' b cs0 p cs
  | .no,_,h=>h
  | .yes _,_,⟨h1,h2,c,rest,u,h3,h4,h5⟩=>⟨h1,h2,c,rest,u,h3,h4,h5.mono hm⟩
  | .done,_,h=>h
inductive HRes | val (v : AV) (h : H) (f : Fx) | pan (v : AV) (h : H) (f : Fx)
abbrev Hx:=Oper → (Operand → AV) → H → Pos → Fx → Option HRes
def HxGoal (P : Program) (tb : Tb) (N : Nat → Nat) (m : Mp) (h : H) (w : World) (b : Frame) (act : Act) (k : List Item) (cs0 cs : List Frame) (ops : Array Oper) (i : Nat) (o : Oper) (rest : List Nat) (a : Pos) (B : Nat) : HRes → Prop
  | .val v h' f'=>∃ m' w' u ds' cs',Steps P (lone (b.atR act (.inRegion ops (i :: rest) :: k)) cs w) (lone (b.atR (({ tmps:=act.tmps,defers:=ds' } : Act).put o.dst u) (.inRegion ops rest :: k)) cs' w') ∧ VR m' v u ∧ HR tb N m' h' w' ∧ Go B m h w m' h' w' ∧ CsR m' b cs0 f'.pn cs' ∧ DfRs m' f'.dfs ds' ∧ ∀ c,c ≠ a → c.nat < h.next.nat → m c = none → m' c = none
  | .pan v h' f'=>∃ m' w' u ds' cs' k',Steps P (lone (b.atR act (.inRegion ops (i :: rest) :: k)) cs w) (lone { b.atR { tmps:=act.tmps,defers:=ds' } k' with mode:=.panicking [{ v:=u,recovered:=false }] } cs' w') ∧ VR m' v u ∧ HR tb N m' h' w' ∧ Go B m h w m' h' w' ∧ CsR m' b cs0 f'.pn cs' ∧ DfRs m' f'.dfs ds'
def HxOk (P : Program) (tb : Tb) (N : Nat → Nat) (b : Frame) (hx : Hx) : Prop :=
  ∀ (o : Oper) (lk : Operand → AV) (h : H) (a : Pos) (f : Fx) (r : HRes),hx o lk h a f = some r →
  ∀ (m : Mp) (w : World) (act : Act) (k : List Item) (cs0 cs : List Frame) (ops : Array Oper) (i : Nat) (rest : List Nat) (B : Nat),
    HR tb N m h w → (∀ x,VR m (lk x) (act.eval x)) → m a = none → a.nat < h.next.nat → B ≤ a.nat → CsR m b cs0 f.pn cs → DfRs m f.dfs act.defers → ops[i]? = some o → Region.wanted o (yielded ops act.tmps) = true →
    HxGoal P tb N m h w b act k cs0 cs ops i o rest a B r
inductive RRes | ok (h : H) (f : Fx) | pan (v : AV) (h : H) (f : Fx)
structure Sys (σ : Type) where
  ops : Array Oper
  dep : Nat → Nat → Prop
  pre : Nat → Nat → Prop
  K : Nat → Kd
  vals : Nat → AV
  skip : Nat → Bool
  rch : σ → Prop
  hp : σ → H
  fx : σ → Fx
  done : σ → Nat → Prop
  laid : σ → Nat → Prop
  inl : σ → Nat → List Nat
  inlE : σ → List Nat
  nxt : σ → Nat → Option σ
  id : Nat → Pos
  blk : Nat → AB
  res : RRes
def Kd.isHard : Kd → Prop | .hard=>True | _=>False
def Kd.isNew : Kd → Prop | .alloc=>True | .hard=>True | _=>False
section
variable {σ : Type} (S : Sys σ)
def Sys.dst (i : Nat) : Option Tmp:=(S.ops[i]?).bind (·.dst)
def Sys.can (c : σ) (i : Nat) : Prop:=i < S.ops.size ∧ (∀ y,y < S.ops.size → (S.K y).isHard → S.pre i y → S.done c y) ∧ (∀ y,S.done c y → ¬ S.pre y i) ∧ ¬ S.done c i
def Sys.insH (l : List Nat) (h : H) : H:=l.foldl (fun h i=>bif S.skip i then h else h.set (S.id i) (S.blk i)) h
structure Sys.LkOk (m0 : Mp) (tmps0 : Array Value) (i : Nat) (lk : Operand → AV) : Prop where
  tmp : ∀ t,lk (.tmp t) = .junk ∨ (∃ j,j < S.ops.size ∧ S.pre i j ∧ S.dst j = some t ∧ lk (.tmp t) = S.vals j) ∨ ((∀ j,j < S.ops.size → S.dst j = some t → j = i ∨ S.pre j i) ∧ VR m0 (lk (.tmp t)) (tmps0.getD t undef))
  const : ∀ v,lk (.const v) = ofV v
  glob : ∀ g,lk (.global g) = .junk
  func : ∀ f,lk (.func f) = .fn f [] []
def SameH (h h' : H) : Prop:=(∀ a,h.get a = h'.get a) ∧ h.next = h'.next
structure SysOk (P : Program) (fn : Nat) (tmps0 : Array Value) (m0 : Mp) (h0 : H) (base : Nat) (hx : Hx) : Prop where
  trans : ∀ i j,i < S.ops.size → S.pre i j → S.dep i j ∨ ∃ d,S.dep i d ∧ S.pre d j
  size : ∀ i d,i < S.ops.size → S.dst i = some d → d < tmps0.size
  one : ∀ i j d,i < S.ops.size → j < S.ops.size → S.dst i = some d → S.dst j = some d → i = j
  dn : ∀ c i,S.rch c → S.done c i → i < S.ops.size ∧ (S.K i).isHard
  want : ∀ c i o,S.rch c → S.can c i → S.ops[i]? = some o → (o.guard = none ∧ S.skip i = false) ∨ ∃ j want,o.guard = some (j,want) ∧ j < S.ops.size ∧ S.pre i j ∧ (∃ d,S.dst j = some d) ∧ ((∃ b,S.vals j = .bool b ∧ S.skip i = !(b == want)) ∨ (S.vals j = .tup [] ∧ S.skip i = true))
  skp : ∀ c i,S.rch c → S.can c i → S.skip i = true → S.vals i = .tup []
  pur : ∀ c i o,S.rch c → S.can c i → S.ops[i]? = some o → S.K i = .pure → S.skip i = false → ∃ lk,S.LkOk m0 tmps0 i lk ∧ pureF P o.op lk = some (S.vals i)
  rd : ∀ c i o,S.rch c → S.can c i → S.ops[i]? = some o → S.K i = .read → S.skip i = false → ∃ lk,S.LkOk m0 tmps0 i lk ∧ readF P o.op lk (S.hp c) = some (S.vals i)
  al : ∀ c i o,S.rch c → S.can c i → S.ops[i]? = some o → S.K i = .alloc → S.skip i = false → ∃ lk,S.LkOk m0 tmps0 i lk ∧ allocF P o.op lk (S.id i) = some (S.vals i,S.blk i)
  hd : ∀ c x o,S.rch c → S.can c x → S.ops[x]? = some o → S.K x = .hard →
    (∀ i,i ∈ S.inl c x → i < S.ops.size ∧ S.K i = .alloc ∧ ¬ S.laid c i ∧ S.pre x i) ∧ (S.inl c x).Nodup ∧
    (∀ c',S.nxt c x = some c' → S.rch c' ∧ (∀ y,S.done c' y ↔ S.done c y ∨ y = x) ∧ (∀ i,S.laid c' i ↔ S.laid c i ∨ i ∈ S.inl c x) ∧
      (S.skip x = true → S.hp c' = S.insH (S.inl c x) (S.hp c) ∧ S.fx c' = S.fx c) ∧
      (S.skip x = false → ∃ lk h',S.LkOk m0 tmps0 x lk ∧ hx o lk (S.insH (S.inl c x) (S.hp c)) (S.id x) (S.fx c) = some (.val (S.vals x) h' (S.fx c')) ∧ SameH h' (S.hp c'))) ∧
    (S.nxt c x = none → S.skip x = false ∧ ∃ lk v h f,S.LkOk m0 tmps0 x lk ∧ hx o lk (S.insH (S.inl c x) (S.hp c)) (S.id x) (S.fx c) = some (.pan v h f) ∧ S.res = .pan v h f)
  fin : ∀ c,S.rch c → (∀ x,x < S.ops.size → (S.K x).isHard → S.done c x) → (∀ i,i ∈ S.inlE c → i < S.ops.size ∧ S.K i = .alloc ∧ ¬ S.laid c i) ∧ (S.inlE c).Nodup ∧ S.res = .ok (S.insH (S.inlE c) (S.hp c)) (S.fx c)
  idn : ∀ i,i < S.ops.size → (S.K i).isNew → base ≤ (S.id i).nat ∧ (S.id i).nat < h0.next.nat
  idi : ∀ i j,i < S.ops.size → j < S.ops.size → (S.K i).isNew → (S.K j).isNew → S.id i = S.id j → i = j
structure Inv (tb : Tb) (N : Nat → Nat) (b : Frame) (tmps0 : Array Value) (m0 : Mp) (h0 : H) (w0 : World) (base : Nat) (cs0 : List Frame) (D : List Nat) (c : σ) (m : Mp) (w : World) (act : Act) (cs : List Frame) : Prop where
  lt : ∀ i,i ∈ D → i < S.ops.size
  cl : ∀ i,i ∈ D → ∀ j,S.pre i j → j ∈ D
  rch : S.rch c
  dn : ∀ y,y < S.ops.size → (S.K y).isHard → (S.done c y ↔ y ∈ D)
  hr : HR tb N m (S.hp c) w
  val : ∀ i d,i ∈ D → S.dst i = some d → VR m (S.vals i) (act.tmps.getD d undef)
  old : ∀ t,(∀ i,i ∈ D → S.dst i ≠ some t) → act.tmps.getD t undef = tmps0.getD t undef
  size : act.tmps.size = tmps0.size
  pend : ∀ i,i ∈ D → S.K i = .alloc → S.skip i = false → ¬ S.laid c i → ∃ q sz o,m (S.id i) = some (q,sz) ∧ w.heap[q]? = some o ∧ BR tb N m (S.blk i) o sz ∧ ¬ Liv m (S.hp c) q ∧ (S.blk i).ro = false ∧ w0.heap.size ≤ q
  apart : ∀ i j,i ∈ D → j ∈ D → S.K i = .alloc → S.K j = .alloc → S.skip i = false → S.skip j = false → ¬ S.laid c i → ¬ S.laid c j → ∀ q s s',m (S.id i) = some (q,s) → m (S.id j) = some (q,s') → i = j
  free : ∀ i,i < S.ops.size → (S.K i).isNew → i ∉ D → m (S.id i) = none
  go : Go base m0 h0 w0 m (S.hp c) w
  ldn : ∀ i,S.laid c i → i ∈ D
  cs : CsR m b cs0 (S.fx c).pn cs
  df : DfRs m (S.fx c).dfs act.defers
end
end Am
end Go.Proofs.YtadbcnekkceoaaaGreatDoor
namespace Go.Proofs.YtadbcnekkceoaaaGreatDoor
namespace Am
theorem put_getD (a : Act) {d : Tmp} (v : Value) (t : Nat) (hd : d < a.tmps.size) : (a.put (some d) v).tmps.getD t undef = if t = d then v else a.tmps.getD t undef:=by
  by_cases e : t = d
  · subst e
    simp [Act.put,Array.getD,hd]
  · rw [if_neg e]
    by_cases ht : t < a.tmps.size
    · simp [Act.put,Array.getD,ht,Ne.symm e]
    · simp [Act.put,Array.getD,ht]
theorem put_size (a : Act) (d : Option Tmp) (v : Value) : (a.put d v).tmps.size = a.tmps.size:=by cases d <;> simp [Act.put]
theorem put_defers (a : Act) (d : Option Tmp) (v : Value) : (a.put d v).defers = a.defers:=by cases d <;> rfl
section
variable {σ : Type} {S : Sys σ} {P : Program} {fn : Nat} {tmps0 : Array Value} {m0 : Mp} {h0 : H} {w0 : World} {base : Nat} {hx : Hx} {tb : Tb} {N : Nat → Nat} {b : Frame} {cs0 cs : List Frame} {D : List Nat} {c : σ} {m : Mp} {w : World} {act : Act} {i : Nat}
theorem Own.liv {m : Mp} {h : H} {k : Nat} : Own m h k → Liv m h k | ⟨a,b,s,h1,_,h3⟩=>⟨a,b,s,h1,h3⟩
theorem Inv.preD (ok : SysOk S P fn tmps0 m0 h0 base hx) (iv : Inv S tb N b tmps0 m0 h0 w0 base cs0 D c m w act cs) (hi : i < S.ops.size) (hp : ∀ j,S.dep i j → j ∈ D) : ∀ j,S.pre i j → j ∈ D:=fun j hj=>by
  rcases ok.trans i j hi hj with h | ⟨d,h1,h2⟩
  · exact hp j h
  · exact iv.cl d (hp d h1) j h2
theorem Inv.can (ok : SysOk S P fn tmps0 m0 h0 base hx) (iv : Inv S tb N b tmps0 m0 h0 w0 base cs0 D c m w act cs) (hi : i < S.ops.size) (hn : i ∉ D) (hp : ∀ j,S.pre i j → j ∈ D) : S.can c i :=
  ⟨hi,fun y hy hk h=>(iv.dn y hy hk).2 (hp y h),fun y hy h=>by
    obtain ⟨q1,q2⟩:=ok.dn c y iv.rch hy
    exact hn (iv.cl y ((iv.dn y q1 q2).1 hy) i h),fun h=>by
    obtain ⟨q1,q2⟩:=ok.dn c i iv.rch h
    exact hn ((iv.dn i q1 q2).1 h)⟩
theorem Inv.eval (iv : Inv S tb N b tmps0 m0 h0 w0 base cs0 D c m w act cs) (hn : i ∉ D) (hp : ∀ j,S.pre i j → j ∈ D) {lk : Operand → AV} (hl : S.LkOk m0 tmps0 i lk) : ∀ x,VR m (lk x) (act.eval x):=by
  intro x
  cases x with
  | const v=>rw [hl.const]; exact ofV_ok m v
  | global g=>rw [hl.glob]; exact .junk _
  | func f=>rw [hl.func]; exact .fn f .nil .nil
  | tmp t =>
    rcases hl.tmp t with h | ⟨j,hj,h1,h2,h3⟩ | ⟨h1,h2⟩
    · rw [h]; exact .junk _
    · rw [h3]; exact iv.val j t (hp j h1) h2
    · have : act.tmps.getD t undef = tmps0.getD t undef:=iv.old t fun j hj hd=>by
        rcases h1 j (iv.lt j hj) hd with e | e
        · exact hn (e ▸ hj)
        · exact hn (iv.cl j hj i e)
      show VR m _ (act.tmps.getD t undef)
      rw [this]
      exact h2.mono iv.go.le
theorem HR.same {h h' : H} (hr : HR tb N m h w) (e : SameH h h') : HR tb N m h' w :=
  ⟨fun a x hx=>hr.blk a x ((e.1 a).trans hx),fun a a' x x' i s s' hx hx'=>hr.inj a a' x x' i s s' ((e.1 a).trans hx) ((e.1 a').trans hx'),hr.lt,fun a ha=>hr.fresh a (by rw [e.2]; exact ha)⟩
theorem Go.same {B : Nat} {h h' h'' : H} {m' : Mp} {w' : World} (g : Go B m h w m' h' w') (e : SameH h' h'') : Go B m h w m' h'' w' :=
  ⟨g.le,g.keep,fun k ⟨a,x,s,h1,h2,h3⟩=>g.img k ⟨a,x,s,(e.1 a).trans h1,h2,h3⟩,fun k ⟨a,x,s,h1,h3⟩=>g.imgA k ⟨a,x,s,(e.1 a).trans h1,h3⟩,g.new,by rw [← e.2]; exact g.next,g.size,g.os,g.tape,g.output⟩
theorem Inv.wanted (ok : SysOk S P fn tmps0 m0 h0 base hx) (iv : Inv S tb N b tmps0 m0 h0 w0 base cs0 D c m w act cs) (hi : i < S.ops.size) (hn : i ∉ D) (hp : ∀ j,S.pre i j → j ∈ D) {o : Oper} (ho : S.ops[i]? = some o) : Region.wanted o (yielded S.ops act.tmps) = !S.skip i:=by
  unfold Region.wanted
  rcases ok.want c i o iv.rch (iv.can ok hi hn hp) ho with ⟨h1,h2⟩ | ⟨j,want,h1,hj,h2,⟨d,h3⟩,h4⟩
  · rw [h1,h2]; rfl
  · rw [h1]
    dsimp only
    have hd : d < act.tmps.size:=by rw [iv.size]; exact ok.size j d hj h3
    have hv:=iv.val j d (hp j h2) h3
    have hy : yielded S.ops act.tmps j = match act.tmps.getD d undef with | .bool b=>some b | _=>none:=by
      unfold yielded
      have h3' : (S.ops[j]?).bind (·.dst) = some d:=h3
      rw [h3']
      have : act.tmps[d]? = some (act.tmps.getD d undef):=by simp [Array.getD,hd]
      rw [Option.bind_some,this]
      cases act.tmps.getD d undef <;> rfl
    rw [hy]
    generalize act.tmps.getD d undef = u at hv
    rcases h4 with ⟨x,h5,h6⟩ | ⟨h5,h6⟩
    · rw [h5] at hv
      cases hv
      rw [h6,Bool.not_not]
      cases x <;> cases want <;> rfl
    · rw [h5] at hv
      cases hv
      rw [h6]
      rfl
theorem Inv.tmps (ok : SysOk S P fn tmps0 m0 h0 base hx) (iv : Inv S tb N b tmps0 m0 h0 w0 base cs0 D c m w act cs) (hi : i < S.ops.size) {o : Oper} (ho : S.ops[i]? = some o) (hn : i ∉ D) {m' : Mp} (hm : m.le m') {u : Value} (hu : VR m' (S.vals i) u) (ds : List Deferred) :
    (∀ j d,j ∈ i :: D → S.dst j = some d → VR m' (S.vals j) ((({ tmps:=act.tmps,defers:=ds } : Act).put o.dst u).tmps.getD d undef)) ∧
    (∀ t,(∀ j,j ∈ i :: D → S.dst j ≠ some t) → (({ tmps:=act.tmps,defers:=ds } : Act).put o.dst u).tmps.getD t undef = tmps0.getD t undef) ∧
    (({ tmps:=act.tmps,defers:=ds } : Act).put o.dst u).tmps.size = tmps0.size:=by
  have hdst : S.dst i = o.dst:=by unfold Sys.dst; rw [ho]; rfl
  refine ⟨fun j d hj hd=>?_,fun t ht=>?_,by rw [put_size]; exact iv.size⟩
  · cases e : o.dst with
    | none =>
      rcases List.mem_cons.1 hj with rfl | hj
      · rw [hdst,e] at hd; cases hd
      · exact (iv.val j d hj hd).mono hm
    | some d' =>
      have hb : d' < ({ tmps:=act.tmps,defers:=ds } : Act).tmps.size:=by show d' < act.tmps.size; rw [iv.size]; exact ok.size i d' hi (hdst.trans e)
      rw [put_getD _ _ _ hb]
      split
      · next e2 =>
        have : j = i:=ok.one j i d (by rcases List.mem_cons.1 hj with rfl | hj; exact hi; exact iv.lt j hj) hi hd (by rw [hdst,e,e2])
        rw [this]; exact hu
      · next e2 =>
        rcases List.mem_cons.1 hj with rfl | hj
        · rw [hdst,e] at hd; injection hd with hd; exact absurd hd.symm e2
        · exact (iv.val j d hj hd).mono hm
  · cases e : o.dst with
    | none=>exact iv.old t fun j hj=>ht j (List.mem_cons_of_mem _ hj)
    | some d' =>
      have hb : d' < ({ tmps:=act.tmps,defers:=ds } : Act).tmps.size:=by show d' < act.tmps.size; rw [iv.size]; exact ok.size i d' hi (hdst.trans e)
      rw [put_getD _ _ _ hb,if_neg (fun e2=>ht i (List.mem_cons_self ..) (by rw [hdst,e,e2]))]
      exact iv.old t fun j hj=>ht j (List.mem_cons_of_mem _ hj)
theorem pend_keep {B : Nat} {h h' : H} {m m' : Mp} {w w' : World} (hr : HR tb N m h w) (g : Go B m h w m' h' w') {a : Pos} {q sz : Nat} {o : Obj} {x : AB} (h1 : m a = some (q,sz)) (h2 : w.heap[q]? = some o) (h3 : BR tb N m x o sz) (h4 : ¬ Liv m h q) :
    m' a = some (q,sz) ∧ w'.heap[q]? = some o ∧ BR tb N m' x o sz ∧ ¬ Liv m' h' q:=by
  have hq:=hr.lt _ _ _ h1
  refine ⟨g.le _ _ h1,(g.keep q hq fun ho=>h4 ho.liv).trans h2,h3.mono g.le,fun hl=>?_⟩
  rcases g.imgA q hl with e | e
  · omega
  · exact h4 e
end
end Am
end Go.Proofs.YtadbcnekkceoaaaGreatDoor
namespace Go.Proofs.YtadbcnekkceoaaaGreatDoor
namespace Am
section
variable {σ : Type} {S : Sys σ} {P : Program} {fn : Nat} {tmps0 : Array Value} {m0 : Mp} {h0 : H} {w0 : World} {base : Nat} {hx : Hx} {tb : Tb} {N : Nat → Nat} {b : Frame} {cs0 cs : List Frame} {D : List Nat} {c : σ} {m : Mp} {w : World} {act : Act} {i : Nat}
theorem Inv.next (ok : SysOk S P fn tmps0 m0 h0 base hx) (iv : Inv S tb N b tmps0 m0 h0 w0 base cs0 D c m w act cs) (hi : i < S.ops.size) (hn : i ∉ D) (hp : ∀ j,S.pre i j → j ∈ D) {o : Oper} (ho : S.ops[i]? = some o) (hk : ¬ (S.K i).isHard)
    {m' : Mp} {w' : World} {u : Value} (hr : HR tb N m' (S.hp c) w') (g : Go base m (S.hp c) w m' (S.hp c) w') (hu : VR m' (S.vals i) u) (hf : ∀ j,j < S.ops.size → (S.K j).isNew → j ≠ i → m (S.id j) = none → m' (S.id j) = none)
    (hb : S.K i = .alloc → S.skip i = false → ∃ q sz x,m' (S.id i) = some (q,sz) ∧ w'.heap[q]? = some x ∧ BR tb N m' (S.blk i) x sz ∧ w.heap.size ≤ q ∧ (S.blk i).ro = false) :
    Inv S tb N b tmps0 m0 h0 w0 base cs0 (i :: D) c m' w' (act.put o.dst u) cs:=by
  obtain ⟨t1,t2,t3⟩:=iv.tmps ok hi ho hn g.le hu act.defers
  have pk : ∀ j,j ∈ D → S.K j = .alloc → S.skip j = false → ¬ S.laid c j → ∃ q sz o,m (S.id j) = some (q,sz) ∧ m' (S.id j) = some (q,sz) ∧ w'.heap[q]? = some o ∧ BR tb N m' (S.blk j) o sz ∧ ¬ Liv m' (S.hp c) q ∧ (S.blk j).ro = false ∧ w0.heap.size ≤ q ∧ q < w.heap.size:=fun j hj e1 e2 e3=>by
    obtain ⟨q,sz,x,h1,h2,h3,h4,h5,h6⟩:=iv.pend j hj e1 e2 e3
    obtain ⟨g1,g2,g3,g4⟩:=pend_keep iv.hr g h1 h2 h3 h4
    exact ⟨q,sz,x,h1,g1,g2,g3,g4,h5,h6,iv.hr.lt _ _ _ h1⟩
  refine ⟨fun j hj=>?_,fun j hj k hk'=>?_,iv.rch,fun y hy hh=>?_,hr,t1,t2,t3,fun j hj e1 e2 e3=>?_,fun j k hj hk' e1 e2 e3 e4 e5 e6 q s s' h1 h2=>?_,fun j hj hjn hjD=>?_,iv.go.trans g,fun j hj=>List.mem_cons_of_mem _ (iv.ldn j hj),iv.cs.mono g.le,?_⟩
  · rcases List.mem_cons.1 hj with rfl | hj
    · exact hi
    · exact iv.lt j hj
  · rcases List.mem_cons.1 hj with rfl | hj
    · exact List.mem_cons_of_mem _ (hp k hk')
    · exact List.mem_cons_of_mem _ (iv.cl j hj k hk')
  · rw [iv.dn y hy hh,List.mem_cons]
    refine ⟨.inr,fun h=>h.resolve_left fun e=>?_⟩
    subst e; exact hk hh
  · rcases List.mem_cons.1 hj with rfl | hj
    · obtain ⟨q,sz,x,h1,h2,h3,h4,h5⟩:=hb e1 e2
      refine ⟨q,sz,x,h1,h2,h3,fun ⟨a,y,s,l1,l2⟩=>?_,h5,Nat.le_trans iv.go.size h4⟩
      obtain ⟨q',s',_,l3,_,_⟩:=iv.hr.blk a y l1
      have:=g.le _ _ l3
      rw [l2] at this
      injection this with this
      injection this with this _
      have:=iv.hr.lt _ _ _ l3
      omega
    · obtain ⟨q,sz,x,_,h1,h2,h3,h4,h5,h6,_⟩:=pk j hj e1 e2 e3
      exact ⟨q,sz,x,h1,h2,h3,h4,h5,h6⟩
  · rcases List.mem_cons.1 hj with ej | hj1 <;> rcases List.mem_cons.1 hk' with ek | hk1
    · rw [ej,ek]
    · subst ej
      obtain ⟨q1,s1,x1,g1,g2,g3,g4,g5⟩:=hb e1 e3
      obtain ⟨q2,s2,x2,_,l1,l2,l3,l4,l5,l6,l7⟩:=pk k hk1 e2 e4 e6
      rw [g1] at h1; injection h1 with h1; injection h1 with h1 _
      rw [l1] at h2; injection h2 with h2; injection h2 with h2 _
      omega
    · subst ek
      obtain ⟨q1,s1,x1,g1,g2,g3,g4,g5⟩:=hb e2 e4
      obtain ⟨q2,s2,x2,_,l1,l2,l3,l4,l5,l6,l7⟩:=pk j hj1 e1 e3 e5
      rw [g1] at h2; injection h2 with h2; injection h2 with h2 _
      rw [l1] at h1; injection h1 with h1; injection h1 with h1 _
      omega
    · obtain ⟨q1,s1,x1,g0,g1,_⟩:=pk j hj1 e1 e3 e5
      obtain ⟨q2,s2,x2,l0,l1,_⟩:=pk k hk1 e2 e4 e6
      rw [g1] at h1; injection h1 with h1; injection h1 with h1 _
      rw [l1] at h2; injection h2 with h2; injection h2 with h2 _
      subst h1 h2
      exact iv.apart j k hj1 hk1 e1 e2 e3 e4 e5 e6 _ _ _ g0 l0
  · rw [List.mem_cons] at hjD
    exact hf j hj hjn (fun e=>hjD (.inl e)) (iv.free j hj hjn fun e=>hjD (.inr e))
  · rw [put_defers]; exact iv.df.mono g.le
theorem insH_ok : ∀ (l : List Nat) (h : H),HR tb N m h w → l.Nodup →
    (∀ i,i ∈ l → S.skip i = false → ∃ q sz o,m (S.id i) = some (q,sz) ∧ w.heap[q]? = some o ∧ BR tb N m (S.blk i) o sz ∧ ¬ Liv m h q) →
    (∀ i j,i ∈ l → j ∈ l → S.skip i = false → S.skip j = false → ∀ q s s',m (S.id i) = some (q,s) → m (S.id j) = some (q,s') → i = j) →
    HR tb N m (S.insH l h) w ∧ (S.insH l h).next = h.next ∧
    (∀ q,Liv m (S.insH l h) q → Liv m h q ∨ ∃ i,i ∈ l ∧ S.skip i = false ∧ ∃ s,m (S.id i) = some (q,s)) ∧
    (∀ q,Own m (S.insH l h) q → Own m h q ∨ ∃ i,i ∈ l ∧ S.skip i = false ∧ ∃ s,m (S.id i) = some (q,s))
  | [],h,hr,_,_,_=>⟨hr,rfl,fun q hq=>.inl hq,fun q hq=>.inl hq⟩
  | i :: l,h,hr,hnd,hpd,hap=>by
    obtain ⟨hil,hnd'⟩:=List.nodup_cons.1 hnd
    cases hs : S.skip i with
    | true =>
      have e : S.insH (i :: l) h = S.insH l h:=by unfold Sys.insH; rw [List.foldl_cons,hs]; rfl
      rw [e]
      obtain ⟨r1,r2,r3,r4⟩:=insH_ok l h hr hnd' (fun j hj=>hpd j (List.mem_cons_of_mem _ hj)) (fun j k hj hk=>hap j k (List.mem_cons_of_mem _ hj) (List.mem_cons_of_mem _ hk))
      refine ⟨r1,r2,fun q hq=>?_,fun q hq=>?_⟩
      · rcases r3 q hq with h | ⟨j,h1,h2⟩
        · exact .inl h
        · exact .inr ⟨j,List.mem_cons_of_mem _ h1,h2⟩
      · rcases r4 q hq with h | ⟨j,h1,h2⟩
        · exact .inl h
        · exact .inr ⟨j,List.mem_cons_of_mem _ h1,h2⟩
    | false =>
      have e : S.insH (i :: l) h = S.insH l (h.set (S.id i) (S.blk i)):=by unfold Sys.insH; rw [List.foldl_cons,hs]; rfl
      rw [e]
      obtain ⟨q,sz,o,p1,p2,p3,p4⟩:=hpd i (List.mem_cons_self ..) hs
      have hg : h.get (S.id i) = none:=by
        cases eg : h.get (S.id i) with
        | none=>rfl
        | some x=>exact absurd ⟨S.id i,x,sz,eg,p1⟩ p4
      have hr':=hr.ins p1 hg p2 p3 (fun a' b' s g1 g2=>p4 ⟨a',b',s,g1,g2⟩)
      have hl : ∀ q',Liv m (h.set (S.id i) (S.blk i)) q' → Liv m h q' ∨ q' = q:=fun q' ⟨a,x,s,l1,l2⟩=>by
        rw [H.get_set] at l1
        split at l1
        · next e=>subst e; rw [p1] at l2; injection l2 with l2; injection l2 with l2 _; exact .inr l2.symm
        · exact .inl ⟨a,x,s,l1,l2⟩
      have hw : ∀ q',Own m (h.set (S.id i) (S.blk i)) q' → Own m h q' ∨ q' = q:=fun q' ⟨a,x,s,l1,l0,l2⟩=>by
        rw [H.get_set] at l1
        split at l1
        · next e=>subst e; rw [p1] at l2; injection l2 with l2; injection l2 with l2 _; exact .inr l2.symm
        · exact .inl ⟨a,x,s,l1,l0,l2⟩
      obtain ⟨r1,r2,r3,r4⟩:=insH_ok l _ hr' hnd' (fun j hj ej=>by
        obtain ⟨q2,s2,o2,z1,z2,z3,z4⟩:=hpd j (List.mem_cons_of_mem _ hj) ej
        refine ⟨q2,s2,o2,z1,z2,z3,fun hv=>?_⟩
        rcases hl q2 hv with h | h
        · exact z4 h
        · subst h
          have:=hap i j (List.mem_cons_self ..) (List.mem_cons_of_mem _ hj) hs ej q2 _ _ p1 z1
          subst this; exact hil hj) (fun j k hj hk=>hap j k (List.mem_cons_of_mem _ hj) (List.mem_cons_of_mem _ hk))
      refine ⟨r1,r2,fun q' hq=>?_,fun q' hq=>?_⟩
      · rcases r3 q' hq with h | ⟨j,h1,h2⟩
        · rcases hl q' h with h | h
          · exact .inl h
          · exact .inr ⟨i,List.mem_cons_self ..,hs,sz,h ▸ p1⟩
        · exact .inr ⟨j,List.mem_cons_of_mem _ h1,h2⟩
      · rcases r4 q' hq with h | ⟨j,h1,h2⟩
        · rcases hw q' h with h | h
          · exact .inl h
          · exact .inr ⟨i,List.mem_cons_self ..,hs,sz,h ▸ p1⟩
        · exact .inr ⟨j,List.mem_cons_of_mem _ h1,h2⟩
theorem Inv.lay (iv : Inv S tb N b tmps0 m0 h0 w0 base cs0 D c m w act cs) {l : List Nat} (hnd : l.Nodup) (hl : ∀ i,i ∈ l → i ∈ D ∧ S.K i = .alloc ∧ ¬ S.laid c i) :
    HR tb N m (S.insH l (S.hp c)) w ∧ (S.insH l (S.hp c)).next = (S.hp c).next ∧ Go base m0 h0 w0 m (S.insH l (S.hp c)) w ∧
    ∀ q,Liv m (S.insH l (S.hp c)) q → Liv m (S.hp c) q ∨ ∃ i,i ∈ l ∧ S.skip i = false ∧ ∃ s,m (S.id i) = some (q,s):=by
  obtain ⟨r1,r2,r3,r4⟩:=insH_ok (S:=S) l (S.hp c) iv.hr hnd (fun i hi hs=>by
    obtain ⟨h1,h2,h3⟩:=hl i hi
    obtain ⟨q,sz,o,p1,p2,p3,p4,_⟩:=iv.pend i h1 h2 hs h3
    exact ⟨q,sz,o,p1,p2,p3,p4⟩) (fun i j hi hj si sj q s s' h1 h2=>iv.apart i j (hl i hi).1 (hl j hj).1 (hl i hi).2.1 (hl j hj).2.1 si sj (hl i hi).2.2 (hl j hj).2.2 q s s' h1 h2)
  have hq : ∀ q i,i ∈ l → S.skip i = false → (∃ s,m (S.id i) = some (q,s)) → w0.heap.size ≤ q:=fun q i hi hs ⟨s,hm⟩=>by
    obtain ⟨h1,h2,h3⟩:=hl i hi
    obtain ⟨q',sz,o,p1,p2,p3,p4,p5,p6⟩:=iv.pend i h1 h2 hs h3
    rw [p1] at hm; injection hm with hm; injection hm with hm _
    omega
  refine ⟨r1,r2,⟨iv.go.le,iv.go.keep,fun q ho=>?_,fun q ho=>?_,iv.go.new,by rw [r2]; exact iv.go.next,iv.go.size,iv.go.os,iv.go.tape,iv.go.output⟩,r3⟩
  · rcases r4 q ho with h | ⟨j,h1,h2,h3⟩
    · exact iv.go.img q h
    · exact .inl (hq q j h1 h2 h3)
  · rcases r3 q ho with h | ⟨j,h1,h2,h3⟩
    · exact iv.go.imgA q h
    · exact .inl (hq q j h1 h2 h3)
theorem Inv.hard (ok : SysOk S P fn tmps0 m0 h0 base hx) (iv : Inv S tb N b tmps0 m0 h0 w0 base cs0 D c m w act cs) (hi : i < S.ops.size) (hn : i ∉ D) (hp : ∀ j,S.pre i j → j ∈ D) {o : Oper} (ho : S.ops[i]? = some o) {l : List Nat} {c' : σ}
    (hnd : l.Nodup) (hl : ∀ i,i ∈ l → i ∈ D ∧ S.K i = .alloc ∧ ¬ S.laid c i) (hk : (S.K i).isHard) (hc : S.rch c') (hdn : ∀ y,S.done c' y ↔ S.done c y ∨ y = i) (hld : ∀ j,S.laid c' j ↔ S.laid c j ∨ j ∈ l)
    {m' : Mp} {w' : World} {u : Value} {ds : List Deferred} {cs' : List Frame} (hr : HR tb N m' (S.hp c') w') (g : Go base m (S.insH l (S.hp c)) w m' (S.hp c') w') (hu : VR m' (S.vals i) u)
    (hf : ∀ j,j < S.ops.size → (S.K j).isNew → j ≠ i → m (S.id j) = none → m' (S.id j) = none) (hcs : CsR m' b cs0 (S.fx c').pn cs') (hds : DfRs m' (S.fx c').dfs ds) :
    Inv S tb N b tmps0 m0 h0 w0 base cs0 (i :: D) c' m' w' (({ tmps:=act.tmps,defers:=ds } : Act).put o.dst u) cs':=by
  obtain ⟨t1,t2,t3⟩:=iv.tmps ok hi ho hn g.le hu ds
  obtain ⟨r1,r2,r3,r4⟩:=iv.lay hnd hl
  have hKi : ∀ j,S.K j = .alloc → j ≠ i:=fun j e e'=>by subst e'; rw [e] at hk; exact hk
  have pk : ∀ j,j ∈ i :: D → S.K j = .alloc → S.skip j = false → ¬ S.laid c' j → j ∈ D ∧ ¬ S.laid c j ∧ ∃ q sz o,m (S.id j) = some (q,sz) ∧ m' (S.id j) = some (q,sz) ∧ w'.heap[q]? = some o ∧ BR tb N m' (S.blk j) o sz ∧ ¬ Liv m' (S.hp c') q ∧ (S.blk j).ro = false ∧ w0.heap.size ≤ q:=fun j hj e1 e2 e3=>by
    have hjD : j ∈ D:=(List.mem_cons.1 hj).resolve_left (hKi j e1)
    have hlj : ¬ S.laid c j:=fun h=>e3 ((hld j).2 (.inl h))
    obtain ⟨q,sz,x,h1,h2,h3,h4,h5,h6⟩:=iv.pend j hjD e1 e2 hlj
    have h4' : ¬ Liv m (S.insH l (S.hp c)) q:=fun hv=>by
      rcases r4 q hv with h | ⟨z,z1,z2,s,z3⟩
      · exact h4 h
      · have:=iv.apart j z hjD (hl z z1).1 e1 (hl z z1).2.1 e2 z2 hlj (hl z z1).2.2 q _ _ h1 z3
        subst this
        exact e3 ((hld j).2 (.inr z1))
    obtain ⟨g1,g2,g3,g4⟩:=pend_keep r1 g h1 h2 h3 h4'
    exact ⟨hjD,hlj,q,sz,x,h1,g1,g2,g3,g4,h5,h6⟩
  refine ⟨fun j hj=>?_,fun j hj k hk'=>?_,hc,fun y hy hh=>?_,hr,t1,t2,t3,fun j hj e1 e2 e3=>?_,fun j k hj hk' e1 e2 e3 e4 e5 e6 q s s' h1 h2=>?_,fun j hj hjn hjD=>?_,r3.trans g,fun j hj=>?_,hcs,?_⟩
  · rcases List.mem_cons.1 hj with rfl | hj
    · exact hi
    · exact iv.lt j hj
  · rcases List.mem_cons.1 hj with rfl | hj
    · exact List.mem_cons_of_mem _ (hp k hk')
    · exact List.mem_cons_of_mem _ (iv.cl j hj k hk')
  · rw [hdn,iv.dn y hy hh,List.mem_cons]
    exact ⟨fun h=>h.symm,fun h=>h.symm⟩
  · obtain ⟨_,_,q,sz,x,_,h1,h2,h3,h4,h5,h6⟩:=pk j hj e1 e2 e3
    exact ⟨q,sz,x,h1,h2,h3,h4,h5,h6⟩
  · obtain ⟨a1,a2,q1,s1,x1,g0,g1,_⟩:=pk j hj e1 e3 e5
    obtain ⟨b1,b2,q2,s2,x2,l0,l1,_⟩:=pk k hk' e2 e4 e6
    rw [g1] at h1; injection h1 with h1; injection h1 with h1 _
    rw [l1] at h2; injection h2 with h2; injection h2 with h2 _
    subst h1 h2
    exact iv.apart j k a1 b1 e1 e2 e3 e4 a2 b2 _ _ _ g0 l0
  · rw [List.mem_cons] at hjD
    exact hf j hj hjn (fun e=>hjD (.inl e)) (iv.free j hj hjn fun e=>hjD (.inr e))
  · rcases (hld j).1 hj with h | h
    · exact List.mem_cons_of_mem _ (iv.ldn j h)
    · exact List.mem_cons_of_mem _ (hl j h).1
  · rw [put_defers]; exact hds
end
end Am
end Go.Proofs.YtadbcnekkceoaaaGreatDoor
namespace Go.Proofs.YtadbcnekkceoaaaGreatDoor
namespace Am
section
variable {σ : Type} {S : Sys σ} {P : Program} {fn : Nat} {tmps0 : Array Value} {m0 : Mp} {h0 : H} {w0 : World} {base : Nat} {hx : Hx} {tb : Tb} {N : Nat → Nat} {b : Frame} {cs0 cs : List Frame} {D : List Nat} {c : σ} {m : Mp} {w : World} {act : Act} {i : Nat} {k : List Item}
def RGoal (S : Sys σ) (P : Program) (tb : Tb) (N : Nat → Nat) (b : Frame) (tmps0 : Array Value) (m0 : Mp) (h0 : H) (w0 : World) (base : Nat) (cs0 : List Frame) (k : List Item) (M : Machine) : RRes → Prop
  | .ok h f => ∃ m' w' act' cs', Steps P M (lone (b.atR act' k) cs' w') ∧ HR tb N m' h w' ∧ Go base m0 h0 w0 m' h w' ∧ CsR m' b cs0 f.pn cs' ∧ DfRs m' f.dfs act'.defers ∧ act'.tmps.size = tmps0.size ∧
      (∀ i d, i < S.ops.size → S.dst i = some d → VR m' (S.vals i) (act'.tmps.getD d undef)) ∧ ∀ t, (∀ i, i < S.ops.size → S.dst i ≠ some t) → act'.tmps.getD t undef = tmps0.getD t undef
  | .pan v h f => ∃ m' w' u act' cs' k', Steps P M (lone { b.atR act' k' with mode := .panicking [{ v := u, recovered := false }] } cs' w') ∧ VR m' v u ∧ HR tb N m' h w' ∧ Go base m0 h0 w0 m' h w' ∧ CsR m' b cs0 f.pn cs' ∧ DfRs m' f.dfs act'.defers ∧ act'.tmps.size = tmps0.size ∧
      ∀ t, (∀ i, i < S.ops.size → S.dst i ≠ some t) → act'.tmps.getD t undef = tmps0.getD t undef
theorem RGoal.step {M M' : Machine} (h : step P M = .next M') : ∀ {r : RRes},RGoal S P tb N b tmps0 m0 h0 w0 base cs0 k M' r → RGoal S P tb N b tmps0 m0 h0 w0 base cs0 k M r
  | .ok _ _,⟨m',w',act',cs',g,rest⟩=>⟨m',w',act',cs',.head h g,rest⟩
  | .pan _ _ _,⟨m',w',u,act',cs',k',g,rest⟩=>⟨m',w',u,act',cs',k',.head h g,rest⟩
theorem RGoal.steps {M M' : Machine} (h : Steps P M M') : ∀ {r : RRes},RGoal S P tb N b tmps0 m0 h0 w0 base cs0 k M' r → RGoal S P tb N b tmps0 m0 h0 w0 base cs0 k M r
  | .ok _ _,⟨m',w',act',cs',g,rest⟩=>⟨m',w',act',cs',h.trans g,rest⟩
  | .pan _ _ _,⟨m',w',u,act',cs',k',g,rest⟩=>⟨m',w',u,act',cs',k',h.trans g,rest⟩
theorem pureF_defer {op : Op} {lk : Operand → AV} {v : AV} (h : pureF P op lk = some v) : ∀ c,op ≠ .defer c:=fun c e=>by subst e; cases h
theorem readF_defer {op : Op} {lk : Operand → AV} {h : H} {v : AV} (hh : readF P op lk h = some v) : ∀ c,op ≠ .defer c:=fun c e=>by subst e; cases hh
theorem allocF_defer {op : Op} {lk : Operand → AV} {a : Pos} {v : AV × AB} (h : allocF P op lk a = some v) : ∀ c,op ≠ .defer c:=fun c e=>by subst e; cases h
theorem sys_ok (ok : SysOk S P fn tmps0 m0 h0 base hx) (hok : HxOk P tb N b hx) : ∀ (rest D : List Nat) (c : σ) (m : Mp) (w : World) (act : Act) (cs : List Frame),Sch S.ops.size S.dep D rest → Inv S tb N b tmps0 m0 h0 w0 base cs0 D c m w act cs →
    RGoal S P tb N b tmps0 m0 h0 w0 base cs0 k (lone (b.atR act (.inRegion S.ops rest :: k)) cs w) S.res
  | [],D,c,m,w,act,cs,hsch,iv=>by
    have hall : ∀ i,i < S.ops.size → i ∈ D:=hsch
    obtain ⟨f1,f2,f3⟩:=ok.fin c iv.rch fun x hx hh=>(iv.dn x hx hh).2 (hall x hx)
    obtain ⟨r1,r2,r3,_⟩:=iv.lay f2 fun i hi=>⟨hall i (f1 i hi).1,(f1 i hi).2⟩
    rw [f3]
    exact ⟨m,w,act,cs,.one stepR_region_end,r1,r3,iv.cs,iv.df,iv.size,fun i d hi hd=>iv.val i d (hall i hi) hd,fun t ht=>iv.old t fun i hi=>ht i (iv.lt i hi)⟩
  | i :: rest,D,c,m,w,act,cs,⟨hi,hn,hdep,hsch⟩,iv=>by
    have hp:=iv.preD ok hi hdep
    have hc:=iv.can ok hi hn hp
    have ho : S.ops[i]? = some S.ops[i]:=Array.getElem?_eq_getElem hi
    generalize S.ops[i] = o at ho
    have hwant:=iv.wanted ok hi hn hp ho
    cases hs : S.skip i with
    | true =>
      rw [hs] at hwant
      refine RGoal.step (at_unwanted ho hwant) ?_
      have hv : VR m (S.vals i) undef:=by rw [ok.skp c i iv.rch hc hs]; exact .tup .nil
      cases hk : S.K i with
      | hard =>
        obtain ⟨d1,d2,d3,d4⟩:=ok.hd c i o iv.rch hc ho hk
        cases hnx : S.nxt c i with
        | none=>have:=(d4 hnx).1; rw [hs] at this; cases this
        | some c' =>
          obtain ⟨e1,e2,e3,e4,_⟩:=d3 c' hnx
          obtain ⟨e5,e6⟩:=e4 hs
          have hl : ∀ j,j ∈ S.inl c i → j ∈ D ∧ S.K j = .alloc ∧ ¬ S.laid c j:=fun j hj=>⟨hp j (d1 j hj).2.2.2,(d1 j hj).2.1,(d1 j hj).2.2.1⟩
          obtain ⟨r1,r2,r3,_⟩:=iv.lay d2 hl
          exact sys_ok ok hok rest (i :: D) c' m w _ cs hsch (iv.hard ok hi hn hp ho d2 hl (by rw [hk]; exact trivial) e1 e2 e3 (by rw [e5]; exact r1) (by rw [e5]; exact Go.refl _ _ _ _) hv (fun _ _ _ _ h=>h) (by rw [e6]; exact iv.cs) (by rw [e6]; exact iv.df))
      | pure=>exact sys_ok ok hok rest (i :: D) c m w _ cs hsch (iv.next ok hi hn hp ho (by rw [hk]; exact id) iv.hr (Go.refl _ _ _ _) hv (fun _ _ _ _ h=>h) fun _ h=>by rw [hs] at h; cases h)
      | read=>exact sys_ok ok hok rest (i :: D) c m w _ cs hsch (iv.next ok hi hn hp ho (by rw [hk]; exact id) iv.hr (Go.refl _ _ _ _) hv (fun _ _ _ _ h=>h) fun _ h=>by rw [hs] at h; cases h)
      | alloc=>exact sys_ok ok hok rest (i :: D) c m w _ cs hsch (iv.next ok hi hn hp ho (by rw [hk]; exact id) iv.hr (Go.refl _ _ _ _) hv (fun _ _ _ _ h=>h) fun _ h=>by rw [hs] at h; cases h)
    | false =>
      rw [hs] at hwant
      cases hk : S.K i with
      | pure =>
        obtain ⟨lk,hlk,hF⟩:=ok.pur c i o iv.rch hc ho hk hs
        have hev:=iv.eval hn hp hlk
        obtain ⟨u,hr,hu⟩:=pure_ok (P:=P) (w:=w) hF hev
        exact RGoal.step (at_value ho hwant (pureF_defer hF) hr) (sys_ok ok hok rest (i :: D) c m w _ cs hsch (iv.next ok hi hn hp ho (by rw [hk]; exact id) iv.hr (Go.refl _ _ _ _) hu (fun _ _ _ _ h=>h) fun h _=>by rw [hk] at h; cases h))
      | read =>
        obtain ⟨lk,hlk,hF⟩:=ok.rd c i o iv.rch hc ho hk hs
        have hev:=iv.eval hn hp hlk
        obtain ⟨u,hr,hu⟩:=read_ok (P:=P) iv.hr hF hev
        exact RGoal.step (at_value ho hwant (readF_defer hF) hr) (sys_ok ok hok rest (i :: D) c m w _ cs hsch (iv.next ok hi hn hp ho (by rw [hk]; exact id) iv.hr (Go.refl _ _ _ _) hu (fun _ _ _ _ h=>h) fun h _=>by rw [hk] at h; cases h))
      | alloc =>
        obtain ⟨lk,hlk,hF⟩:=ok.al c i o iv.rch hc ho hk hs
        have hev:=iv.eval hn hp hlk
        have hni : (S.K i).isNew:=by rw [hk]; exact trivial
        have hfr:=iv.free i hi hni hn
        have hnx : (S.id i).nat < (S.hp c).next.nat:=Nat.lt_of_lt_of_le (ok.idn i hi hni).2 iv.go.next
        obtain ⟨u,x,sz,hr,hro,hu⟩:=alloc_ok (P:=P) (tb:=tb) (N:=N) (w:=w) (m:=m) hF hev
        obtain ⟨h1,h2⟩:=iv.hr.push hfr hnx (ok.idn i hi hni).1 x sz
        obtain ⟨h3,h4⟩:=hu _ h2.le (Mp.put_same _ _ _)
        refine RGoal.step (at_value ho hwant (allocF_defer hF) hr) (sys_ok ok hok rest (i :: D) c _ _ _ cs hsch (iv.next ok hi hn hp ho (by rw [hk]; exact id) h1 h2 h3 (fun j hj hjn hji h=>?_) fun _ _=>⟨_,sz,x,Mp.put_same _ _ _,nw_new w x,h4,Nat.le_refl _,hro⟩))
        rw [Mp.put_ne _ _ (fun e=>hji (ok.idi j i hj hi hjn hni e))]; exact h
      | hard =>
        obtain ⟨d1,d2,d3,d4⟩:=ok.hd c i o iv.rch hc ho hk
        have hni : (S.K i).isNew:=by rw [hk]; exact trivial
        have hfr:=iv.free i hi hni hn
        have hl : ∀ j,j ∈ S.inl c i → j ∈ D ∧ S.K j = .alloc ∧ ¬ S.laid c j:=fun j hj=>⟨hp j (d1 j hj).2.2.2,(d1 j hj).2.1,(d1 j hj).2.2.1⟩
        obtain ⟨r1,r2,r3,_⟩:=iv.lay d2 hl
        have hnx : ∀ j,j < S.ops.size → (S.K j).isNew → (S.id j).nat < (S.insH (S.inl c i) (S.hp c)).next.nat:=fun j hj hjn=>by rw [r2]; exact Nat.lt_of_lt_of_le (ok.idn j hj hjn).2 iv.go.next
        cases hnxt : S.nxt c i with
        | some c' =>
          obtain ⟨e1,e2,e3,_,e4⟩:=d3 c' hnxt
          obtain ⟨lk,hH,hlk,hF,hsm⟩:=e4 hs
          have hev:=iv.eval hn hp hlk
          obtain ⟨m',w',u,ds',cs',g1,g2,g3,g4,g5,g6,g7⟩:=hok o _ _ _ _ _ hF m w act k cs0 cs S.ops i rest base r1 hev hfr (hnx i hi hni) (ok.idn i hi hni).1 iv.cs iv.df ho hwant
          exact RGoal.steps g1 (sys_ok ok hok rest (i :: D) c' m' w' _ cs' hsch (iv.hard ok hi hn hp ho d2 hl (by rw [hk]; exact trivial) e1 e2 e3 (g3.same hsm) (g4.same hsm) g2 (fun j hj hjn hji h=>g7 _ (fun e=>hji (ok.idi j i hj hi hjn hni e)) (hnx j hj hjn) h) g5 g6))
        | none =>
          obtain ⟨_,lk,v,h,f,hlk,q1,q2⟩:=d4 hnxt
          have hev:=iv.eval hn hp hlk
          obtain ⟨m',w',u,ds',cs',k',g1,g2,g3,g4,g5,g6⟩:=hok o _ _ _ _ _ q1 m w act k cs0 cs S.ops i rest base r1 hev hfr (hnx i hi hni) (ok.idn i hi hni).1 iv.cs iv.df ho hwant
          rw [q2]
          exact ⟨m',w',u,_,cs',k',g1,g2,g3,r3.trans g4,g5,g6,iv.size,fun t ht=>iv.old t fun j hj=>ht j (iv.lt j hj)⟩
end
end Am
end Go.Proofs.YtadbcnekkceoaaaGreatDoor
namespace Go.Proofs.YtadbcnekkceoaaaGreatDoor
namespace Am
def vfind {α : Type} : List (Nat × α) → Nat → Option α
  | [],_=>none
  | (j,v) :: l,i=>bif Nat.beq j i then some v else vfind l i
def beqN : List Nat → List Nat → Bool
  | [],[]=>true
  | a :: l,b :: k=>Nat.beq a b && beqN l k
  | _,_=>false
def kbeq (a b : IntKind) : Bool:=if a = b then true else false
mutual
def AV.same : AV → AV → Bool
  | .int k a,.int k' b=>kbeq k k' && ieq a b
  | .bool a,.bool b=>a == b
  | .str a,.str b=>beqN a b
  | .ptr a o,.ptr b p=>Pos.beq a b && Nat.beq o p
  | .nilp,.nilp=>true
  | .slc a o n z,.slc b p k y=>Pos.beq a b && Nat.beq o p && Nat.beq n k && Nat.beq z y
  | .slcE a o z,.slcE b p y=>Pos.beq a b && Nat.beq o p && Nat.beq z y
  | .nils,.nils=>true
  | .map a,.map b=>Pos.beq a b
  | .nilm,.nilm=>true
  | .fn f a b,.fn g c d=>Nat.beq f g && AV.sameL a c && AV.sameL b d
  | .yld a,.yld b=>Pos.beq a b
  | .nilf,.nilf=>true
  | .ifc t v,.ifc u w=>Nat.beq t u && AV.same v w
  | .nili,.nili=>true
  | .agg a,.agg b=>AV.sameL a b
  | .tup a,.tup b=>AV.sameL a b
  | .ltr k a,.ltr j b=>Nat.beq k j && Pos.beq a b
  | .ge a,.ge b=>Nat.beq a b
  | .txt a,.txt b=>AV.sameL a b
  | .junk,.junk=>true
  | _,_=>false
def AV.sameL : List AV → List AV → Bool
  | [],[]=>true
  | a :: l,b :: k=>AV.same a b && AV.sameL l k
  | _,_=>false
end
structure Rg where
  ops : List Oper
  pm : List Nat
  slot : Nat → Option Nat
  ix : Nat → Nat
  nr : Nat
def wrF (t : Nat) : List Oper → Nat → Option Nat
  | [],_=>none
  | o :: l,i=>match o.dst with
    | some d=>bif Nat.beq d t then some i else wrF t l (Nat.succ i)
    | none=>wrF t l (Nat.succ i)
def Rg.wr (R : Rg) (t : Nat) : Option Nat:=wrF t R.ops 0
def Rg.pre (R : Rg) (i j : Nat) : Bool:=bit (R.pm.getD i 0) j
def Rg.slotV (R : Rg) (e : E) (t : Nat) : AV:=match R.slot t with | some s=>E.get s e | none=>.junk
def Rg.lk (R : Rg) (e : E) (vs : List (Nat × AV)) (i : Nat) : Operand → AV
  | .tmp t=>match R.wr t with
    | some j=>bif R.pre i j then (match vfind vs j with | some v=>v | none=>.junk) else bif Nat.beq j i || R.pre j i then R.slotV e t else .junk
    | none=>R.slotV e t
  | .const v=>ofV v
  | .global _=>.junk
  | .func f=>.fn f [] []
def Rg.hasDst (R : Rg) (j : Nat) : Bool:=match R.ops[j]? with | some o=>o.dst.isSome | none=>false
def Rg.want (R : Rg) (vs : List (Nat × AV)) (i : Nat) (o : Oper) : Option Bool :=
  match o.guard with
  | none=>some true
  | some (j,want)=>bif R.pre i j && R.hasDst j then (match vfind vs j with | some (.bool b)=>some (b == want) | some (.tup [])=>some false | _=>none) else none
structure VB where
  vs : List (Nat × AV)
  bs : List (Nat × Option AB)
structure RSt where
  vb : VB
  h : H
  f : Fx
inductive ROut | ok (vs : List (Nat × AV)) (h : H) (f : Fx) | pan (vs : List (Nat × AV)) (v : AV) (h : H) (f : Fx)
def freshN {α : Type} (l : List (Nat × α)) (i : Nat) : Bool:=match vfind l i with | none=>true | some _=>false
def Rg.step (R : Rg) (P : Program) (base : Pos) (e : E) (h : H) (s : Stp) (vb : VB) : Option VB :=
  match s with
  | .pu i=>bif freshN vb.vs i then match R.ops[i]? with
    | some o=>match R.want vb.vs i o with
      | some true=>(match pureF P o.op (R.lk e vb.vs i) with | some v=>some ⟨(i,v) :: vb.vs,vb.bs⟩ | none=>none)
      | some false=>some ⟨(i,.tup []) :: vb.vs,vb.bs⟩
      | none=>none
    | none=>none
    else none
  | .rd i=>bif freshN vb.vs i then match R.ops[i]? with
    | some o=>match R.want vb.vs i o with
      | some true=>(match readF P o.op (R.lk e vb.vs i) h with | some v=>some ⟨(i,v) :: vb.vs,vb.bs⟩ | none=>none)
      | some false=>some ⟨(i,.tup []) :: vb.vs,vb.bs⟩
      | none=>none
    | none=>none
    else none
  | .al i=>bif freshN vb.vs i && freshN vb.bs i then match R.ops[i]? with
    | some o=>match R.want vb.vs i o with
      | some true=>(match allocF P o.op (R.lk e vb.vs i) (base.add (R.ix i)) with | some (v,b)=>some ⟨(i,v) :: vb.vs,(i,some b) :: vb.bs⟩ | none=>none)
      | some false=>some ⟨(i,.tup []) :: vb.vs,(i,none) :: vb.bs⟩
      | none=>none
    | none=>none
    else none
  | .re i=>match R.ops[i]? with
    | some o=>match R.want vb.vs i o,vfind vb.vs i with
      | some true,some u=>(match readF P o.op (R.lk e vb.vs i) h with | some v=>bif AV.same v u then some vb else none | none=>none)
      | some false,some _=>some vb
      | _,_=>none
    | none=>none
def Rg.steps (R : Rg) (P : Program) (base : Pos) (e : E) (h : H) : List Stp → VB → Option VB
  | [],vb=>some vb
  | s :: l,vb=>match R.step P base e h s vb with | some vb'=>Rg.steps R P base e h l vb' | none=>none
def layB (ix : Nat → Nat) (base : Pos) (bs : List (Nat × Option AB)) : List Nat → H → Option H
  | [],h=>some h
  | i :: l,h=>match vfind bs i with
    | some (some b)=>layB ix base bs l (h.set (base.add (ix i)) b)
    | some none=>layB ix base bs l h
    | none=>none
def Rg.hard (R : Rg) (hx : Hx) (base : Pos) (e : E) (x : Nat) (vs : List (Nat × AV)) (h : H) (f : Fx) : Option HRes :=
  bif freshN vs x then match R.ops[x]? with
  | some o=>match R.want vs x o with
    | some true=>hx o (R.lk e vs x) h (base.add (R.ix x)) f
    | some false=>some (.val (.tup []) h f)
    | none=>none
  | none=>none
  else none
def Rg.aim (R : Rg) (e : E) (x : Nat) (vs : List (Nat × AV)) : Option Pos :=
  match R.ops[x]? with
  | some o=>match o.op,o.guard with
    | .store _ p _,none=>(match R.lk e vs x p with | .ptr a _=>some a | _=>none)
    | _,_=>none
  | none=>none
def Rg.run (R : Rg) (P : Program) (hx : Hx) (base : Pos) (e : E) : List Stage → RSt → Option ROut
  | [],_=>none
  | s :: rest,q=>match R.steps P base e q.h s.st q.vb with
    | some vb=>match layB R.ix base vb.bs s.ins q.h with
      | some h1=>match s.hd with
        | none=>some (.ok vb.vs h1 q.f)
        | some x=>match R.hard hx base e x vb.vs h1 q.f with
          | some (.pan v h' f')=>(match s.hd2 with | none=>some (.pan vb.vs v h' f') | some _=>none)
          | some (.val v h2 f2)=>match s.hd2 with
            | none=>Rg.run R P hx base e rest ⟨⟨(x,v) :: vb.vs,vb.bs⟩,h2,f2⟩
            | some y=>match R.aim e x vb.vs,R.aim e y ((x,v) :: vb.vs) with
              | some a,some a'=>bif Pos.beq a a' || Nat.beq x y then none else match R.hard hx base e y ((x,v) :: vb.vs) h2 f2 with
                | some (.val v' h3 f3)=>Rg.run R P hx base e rest ⟨⟨(y,v') :: (x,v) :: vb.vs,vb.bs⟩,h3,f3⟩
                | _=>none
              | _,_=>none
          | none=>none
      | none=>none
    | none=>none
def Stp.ent (c : Nat) : Stp → List (Nat × (Kd × Nat))
  | .pu i=>[(i,(.pure,c))] | .rd i=>[(i,(.read,c))] | .al i=>[(i,(.alloc,c))] | .re _=>[]
def Stage.hds (s : Stage) : List Nat:=(match s.hd with | some x=>[x] | none=>[]) ++ (match s.hd2 with | some y=>[y] | none=>[])
def tblF : List Stage → Nat → List (Nat × (Kd × Nat))
  | [],_=>[]
  | s :: l,c=>s.st.flatMap (Stp.ent c) ++ s.hds.map (fun x=>(x,(.hard,c))) ++ tblF l (Nat.succ c)
def keysOk : List Nat → Bool
  | []=>true
  | i :: l=>l.all (fun j=>!Nat.beq i j) && keysOk l
def lastOk : List Stage → Bool
  | []=>false
  | [s]=>s.hd.isNone && s.hd2.isNone
  | s :: l=>s.hd.isSome && lastOk l
def memN (i : Nat) (l : List Nat) : Bool:=l.any (Nat.beq i)
def Stage.res (s : Stage) : List Nat:=s.st.filterMap fun | .re i=>some i | _=>none
def Rg.readOk (R : Rg) (i s : Nat) : List Stage → Nat → List Nat → Bool
  | [],_,_=>true
  | g :: l,c,hs =>
    (Nat.ble c s || memN i g.res || hs.any (fun y=>R.pre y i)) &&
    (Nat.blt c s || g.hd2.isNone || hs.any (fun y=>R.pre y i) || g.hds.all (fun y=>R.pre y i)) &&
    Rg.readOk R i s l (Nat.succ c) (g.hds ++ hs)
def edgesOk (ops : List Oper) (pm : List Nat) : List Oper → Nat → Bool
  | [],_=>true
  | o :: l,i=>o.after.toList.all (fun e=>bif Region.binds .any e then Nat.blt e.on i else true) &&
    Nat.beq (pm.getD i 0) (o.after.toList.foldl (fun s e=>bif Region.binds .any e then Nat.lor (Nat.lor s (Nat.pow 2 e.on)) (pm.getD e.on 0) else s) 0) && edgesOk ops pm l (Nat.succ i)
def plainOk (pm : List Nat) : Nat → Bool
  | 0=>true
  | i + 1=>Nat.blt (pm.getD i 0) (Nat.pow 2 i) && plainOk pm i
def Rg.dstOk (R : Rg) (N : Nat) : List Oper → Nat → Bool
  | [],_=>true
  | o :: l,i=>(match o.dst with | some d=>Nat.blt d N && (match R.wr d with | some j=>Nat.beq j i | none=>false) | none=>true) && Rg.dstOk R N l (Nat.succ i)
def Rg.insOk (R : Rg) (tbl : List (Nat × (Kd × Nat))) : List Stage → Nat → Bool
  | [],_=>true
  | g :: l,c=>g.ins.all (fun i=>(match vfind tbl i with | some (.alloc,s)=>Nat.ble s c | _=>false) && g.hds.all (fun x=>R.pre x i)) && Rg.insOk R tbl l (Nat.succ c)
def newK : Kd → Bool | .alloc=>true | .hard=>true | _=>false
def Rg.ixOk (R : Rg) (tbl : List (Nat × (Kd × Nat))) : Bool:=tbl.all (fun (i,(k,_))=>!newK k || (Nat.blt (R.ix i) R.nr && tbl.all (fun (j,(k',_))=>!newK k' || Nat.beq i j || !Nat.beq (R.ix i) (R.ix j))))
def Rg.chk (R : Rg) (N : Nat) (draw : Bool) (ss : List Stage) : Bool :=
  let n:=R.ops.length
  let tbl:=tblF ss 0
  Rg.dstOk R N R.ops 0 && (bif draw then edgesOk R.ops R.pm R.ops 0 else plainOk R.pm n) && lastOk ss &&
  keysOk (tbl.map (·.1)) && Nat.beq tbl.length n && tbl.all (fun (i,_)=>Nat.blt i n) &&
  tbl.all (fun (i,(_,s))=>match s with | 0=>true | c + 1=>(match ss[c]? with | some g=>g.hds.all (fun y=>R.pre i y) | none=>false)) &&
  tbl.all (fun (i,(k,s))=>match k with | .read=>Rg.readOk R i s ss 0 [] | _=>true) &&
  keysOk (ss.flatMap (·.ins)) && Rg.insOk R tbl ss 0 &&
  tbl.all (fun (i,(k,_))=>match k with | .alloc=>memN i (ss.flatMap (·.ins)) | _=>true) && R.ixOk tbl
end Am
end Go.Proofs.YtadbcnekkceoaaaGreatDoor
namespace Go.Proofs.YtadbcnekkceoaaaGreatDoor
namespace Am
def Ext {α : Type} (a b : List (Nat × α)) : Prop:=∀ i v,vfind a i = some v → vfind b i = some v
theorem Ext.refl {α : Type} (a : List (Nat × α)) : Ext a a:=fun _ _ h=>h
theorem Ext.trans {α : Type} {a b c : List (Nat × α)} (h : Ext a b) (k : Ext b c) : Ext a c:=fun i v e=>k i v (h i v e)
theorem freshN_eq {α : Type} {l : List (Nat × α)} {i : Nat} (h : freshN l i = true) : vfind l i = none:=by
  unfold freshN at h
  split at h
  · assumption
  · cases h
theorem Ext.cons {α : Type} {l : List (Nat × α)} {i : Nat} (v : α) (h : freshN l i = true) : Ext l ((i,v) :: l):=fun j u e=>by
  unfold vfind
  cases hb : Nat.beq i j with
  | true=>rw [← Nat.eq_of_beq_eq_true hb,freshN_eq h] at e; cases e
  | false=>rw [cond_false]; exact e
theorem vfind_head {α : Type} (l : List (Nat × α)) (i : Nat) (v : α) : vfind ((i,v) :: l) i = some v:=by
  unfold vfind
  rw [Nat.beq_refl,cond_true]
structure ExtB (a b : VB) : Prop where
  vs : Ext a.vs b.vs
  bs : Ext a.bs b.bs
theorem ExtB.refl (a : VB) : ExtB a a:=⟨Ext.refl _,Ext.refl _⟩
theorem ExtB.trans {a b c : VB} (h : ExtB a b) (k : ExtB b c) : ExtB a c:=⟨h.vs.trans k.vs,h.bs.trans k.bs⟩
section
variable {R : Rg} {P : Program} {hx : Hx} {base : Pos} {e : E}
def Rg.StepOk (R : Rg) (P : Program) (base : Pos) (e : E) (h : H) (s : Stp) (vb vb' : VB) : Prop :=
  match s with
  | .pu i=>∃ o b,R.ops[i]? = some o ∧ R.want vb.vs i o = some b ∧ ∃ v,vfind vb'.vs i = some v ∧ (b = true → pureF P o.op (R.lk e vb.vs i) = some v) ∧ (b = false → v = .tup [])
  | .rd i=>∃ o b,R.ops[i]? = some o ∧ R.want vb.vs i o = some b ∧ ∃ v,vfind vb'.vs i = some v ∧ (b = true → readF P o.op (R.lk e vb.vs i) h = some v) ∧ (b = false → v = .tup [])
  | .al i=>∃ o b,R.ops[i]? = some o ∧ R.want vb.vs i o = some b ∧ ∃ v,vfind vb'.vs i = some v ∧ (b = true → ∃ x,allocF P o.op (R.lk e vb.vs i) (base.add (R.ix i)) = some (v,x) ∧ vfind vb'.bs i = some (some x)) ∧ (b = false → v = .tup [] ∧ vfind vb'.bs i = some none)
  | .re i=>∃ o b,R.ops[i]? = some o ∧ R.want vb.vs i o = some b ∧ ∃ v,vfind vb.vs i = some v ∧ (b = true → ∃ u,readF P o.op (R.lk e vb.vs i) h = some u ∧ AV.same u v = true)
theorem step_ok {h : H} {s : Stp} {vb vb' : VB} (hs : R.step P base e h s vb = some vb') : ExtB vb vb' ∧ R.StepOk P base e h s vb vb':=by
  cases s with
  | pu i =>
    simp only [Rg.step] at hs
    cases hf : freshN vb.vs i with
    | false=>rw [hf] at hs; cases hs
    | true =>
      rw [hf,cond_true] at hs
      split at hs <;> try (cases hs; done)
      next o ho =>
      split at hs <;> try (cases hs; done)
      · next hw =>
        split at hs <;> try (cases hs; done)
        next v hv =>
        injection hs with hs; subst hs
        exact ⟨⟨Ext.cons _ hf,Ext.refl _⟩,o,true,ho,hw,v,vfind_head _ _ _,fun _=>hv,fun h=>by cases h⟩
      · next hw =>
        injection hs with hs; subst hs
        exact ⟨⟨Ext.cons _ hf,Ext.refl _⟩,o,false,ho,hw,_,vfind_head _ _ _,fun h=>by (cases h),fun _=>rfl⟩
  | rd i =>
    simp only [Rg.step] at hs
    cases hf : freshN vb.vs i with
    | false=>rw [hf] at hs; cases hs
    | true =>
      rw [hf,cond_true] at hs
      split at hs <;> try (cases hs; done)
      next o ho =>
      split at hs <;> try (cases hs; done)
      · next hw =>
        split at hs <;> try (cases hs; done)
        next v hv =>
        injection hs with hs; subst hs
        exact ⟨⟨Ext.cons _ hf,Ext.refl _⟩,o,true,ho,hw,v,vfind_head _ _ _,fun _=>hv,fun h=>by cases h⟩
      · next hw =>
        injection hs with hs; subst hs
        exact ⟨⟨Ext.cons _ hf,Ext.refl _⟩,o,false,ho,hw,_,vfind_head _ _ _,fun h=>by (cases h),fun _=>rfl⟩
  | al i =>
    simp only [Rg.step] at hs
    cases hf : freshN vb.vs i && freshN vb.bs i with
    | false=>rw [hf] at hs; cases hs
    | true =>
      rw [hf,cond_true] at hs
      rw [Bool.and_eq_true] at hf
      split at hs <;> try (cases hs; done)
      next o ho =>
      split at hs <;> try (cases hs; done)
      · next hw =>
        split at hs <;> try (cases hs; done)
        next v x hv =>
        injection hs with hs; subst hs
        exact ⟨⟨Ext.cons _ hf.1,Ext.cons _ hf.2⟩,o,true,ho,hw,v,vfind_head _ _ _,fun _=>⟨x,hv,vfind_head _ _ _⟩,fun h=>by cases h⟩
      · next hw =>
        injection hs with hs; subst hs
        exact ⟨⟨Ext.cons _ hf.1,Ext.cons _ hf.2⟩,o,false,ho,hw,_,vfind_head _ _ _,fun h=>by (cases h),fun _=>⟨rfl,vfind_head _ _ _⟩⟩
  | re i =>
    simp only [Rg.step] at hs
    split at hs <;> try (cases hs; done)
    next o ho =>
    split at hs <;> try (cases hs; done)
    · next u hw hu =>
      split at hs <;> try (cases hs; done)
      next v hv =>
      cases hb : AV.same v u with
      | false=>rw [hb] at hs; cases hs
      | true =>
        rw [hb,cond_true] at hs
        injection hs with hs; subst hs
        exact ⟨ExtB.refl _,o,true,ho,hw,u,hu,fun _=>⟨v,hv,hb⟩⟩
    · next u hw hu =>
      injection hs with hs; subst hs
      exact ⟨ExtB.refl _,o,false,ho,hw,u,hu,fun h=>by cases h⟩
theorem steps_ok {h : H} : ∀ {l : List Stp} {vb vb' : VB},R.steps P base e h l vb = some vb' → ExtB vb vb' ∧ ∀ s,s ∈ l → ∃ v1 v2,ExtB vb v1 ∧ ExtB v1 v2 ∧ ExtB v2 vb' ∧ R.StepOk P base e h s v1 v2
  | [],vb,vb',hs=>by
    simp only [Rg.steps] at hs
    injection hs with hs; subst hs
    exact ⟨ExtB.refl _,fun s h=>by cases h⟩
  | s :: l,vb,vb',hs=>by
    simp only [Rg.steps] at hs
    split at hs <;> try (cases hs; done)
    next v1 h1 =>
    obtain ⟨a1,a2⟩:=step_ok h1
    obtain ⟨b1,b2⟩:=steps_ok hs
    refine ⟨a1.trans b1,fun s' hs'=>?_⟩
    rcases List.mem_cons.1 hs' with rfl | hs'
    · exact ⟨vb,v1,ExtB.refl _,a1,b1,a2⟩
    · obtain ⟨u1,u2,c1,c2,c3,c4⟩:=b2 s' hs'
      exact ⟨u1,u2,a1.trans c1,c2,c3,c4⟩
theorem hard_shows {x : Nat} {vs : List (Nat × AV)} {h : H} {f : Fx} {r : HRes} (hh : R.hard hx base e x vs h f = some r) : freshN vs x = true ∧ ∃ o b,R.ops[x]? = some o ∧ R.want vs x o = some b ∧ (b = true → hx o (R.lk e vs x) h (base.add (R.ix x)) f = some r) ∧ (b = false → r = .val (.tup []) h f):=by
  unfold Rg.hard at hh
  cases hf : freshN vs x with
  | false=>rw [hf] at hh; cases hh
  | true =>
    rw [hf,cond_true] at hh
    refine ⟨rfl,?_⟩
    split at hh <;> try (cases hh; done)
    next o ho =>
    split at hh <;> try (cases hh; done)
    · next hw=>exact ⟨o,true,ho,hw,fun _=>hh,fun h=>by cases h⟩
    · next hw=>injection hh with hh; exact ⟨o,false,ho,hw,fun h=>by (cases h),fun _=>hh.symm⟩
end
end Am
end Go.Proofs.YtadbcnekkceoaaaGreatDoor
namespace Go.Proofs.YtadbcnekkceoaaaGreatDoor
namespace Am
theorem Pos.beq_refl : ∀ a : Pos,Pos.beq a a = true
  | .xH=>rfl
  | .xO a=>Pos.beq_refl a
  | .xI a=>Pos.beq_refl a
theorem beqN_eq : ∀ {a b : List Nat},beqN a b = true → a = b
  | [],[],_=>rfl
  | x :: l,y :: k,h=>by
    simp only [beqN,Bool.and_eq_true] at h
    rw [Nat.eq_of_beq_eq_true h.1,beqN_eq h.2]
  | [],_ :: _,h=>by cases h
  | _ :: _,[],h=>by cases h
theorem kbeq_eq {a b : IntKind} (h : kbeq a b = true) : a = b:=by
  unfold kbeq at h
  split at h
  · assumption
  · cases h
set_option maxHeartbeats 4000000 in
mutual
theorem AV.same_eq : ∀ {a b : AV},AV.same a b = true → a = b:=by
  intro a b h
  cases a <;> cases b <;> simp only [AV.same,Bool.and_eq_true,Bool.false_eq_true] at h <;> try rfl
  case int.int k n k' n'=>rw [kbeq_eq h.1,eq_of_beq ((ieq_ok _ _).symm.trans h.2)]
  case bool.bool x y=>rw [eq_of_beq h]
  case str.str x y=>rw [beqN_eq h]
  case ptr.ptr x o y p=>rw [Pos.beq_eq h.1,Nat.eq_of_beq_eq_true h.2]
  case slc.slc=>rw [Pos.beq_eq h.1.1.1,Nat.eq_of_beq_eq_true h.1.1.2,Nat.eq_of_beq_eq_true h.1.2,Nat.eq_of_beq_eq_true h.2]
  case slcE.slcE=>rw [Pos.beq_eq h.1.1,Nat.eq_of_beq_eq_true h.1.2,Nat.eq_of_beq_eq_true h.2]
  case map.map=>rw [Pos.beq_eq h]
  case fn.fn=>rw [Nat.eq_of_beq_eq_true h.1.1,AV.sameL_eq h.1.2,AV.sameL_eq h.2]
  case yld.yld=>rw [Pos.beq_eq h]
  case ifc.ifc=>rw [Nat.eq_of_beq_eq_true h.1,AV.same_eq h.2]
  case agg.agg=>rw [AV.sameL_eq h]
  case txt.txt=>rw [AV.sameL_eq h]
  case tup.tup=>rw [AV.sameL_eq h]
  case ltr.ltr=>rw [Nat.eq_of_beq_eq_true h.1,Pos.beq_eq h.2]
  case ge.ge=>rw [Nat.eq_of_beq_eq_true h]
theorem AV.sameL_eq : ∀ {a b : List AV},AV.sameL a b = true → a = b
  | [],[],_=>rfl
  | x :: l,y :: k,h=>by
    simp only [AV.sameL,Bool.and_eq_true] at h
    rw [AV.same_eq h.1,AV.sameL_eq h.2]
  | [],_ :: _,h=>by simp [AV.sameL] at h
  | _ :: _,[],h=>by simp [AV.sameL] at h
end
section
variable {R : Rg} {P : Program} {hx : Hx} {base : Pos} {e : E}
def Rg.Over (R : Rg) (hx : Hx) (base : Pos) (e : E) (s : Stage) (q : RSt) (vb : VB) (h1 : H) (q' : RSt) : Prop :=
  ∃ x v h2 f2,s.hd = some x ∧ R.hard hx base e x vb.vs h1 q.f = some (.val v h2 f2) ∧
    ((s.hd2 = none ∧ q' = ⟨⟨(x,v) :: vb.vs,vb.bs⟩,h2,f2⟩) ∨
     (∃ y a a' v' h3 f3,s.hd2 = some y ∧ x ≠ y ∧ R.aim e x vb.vs = some a ∧ R.aim e y ((x,v) :: vb.vs) = some a' ∧ a ≠ a' ∧ R.hard hx base e y ((x,v) :: vb.vs) h2 f2 = some (.val v' h3 f3) ∧ q' = ⟨⟨(y,v') :: (x,v) :: vb.vs,vb.bs⟩,h3,f3⟩))
def Rg.Last (R : Rg) (hx : Hx) (base : Pos) (e : E) (s : Stage) (q : RSt) (vb : VB) (h1 : H) (out : ROut) : Prop :=
  (s.hd = none ∧ out = .ok vb.vs h1 q.f) ∨ ∃ x v h f,s.hd = some x ∧ s.hd2 = none ∧ R.hard hx base e x vb.vs h1 q.f = some (.pan v h f) ∧ out = .pan vb.vs v h f
theorem run_trace : ∀ (ss : List Stage) (q : RSt) (out : ROut),R.run P hx base e ss q = some out →
    ∃ (L : Nat) (qs : Nat → RSt) (vb : Nat → VB) (h1 : Nat → H),qs 0 = q ∧
      (∀ c,c ≤ L → ∃ s,ss[c]? = some s ∧ R.steps P base e (qs c).h s.st (qs c).vb = some (vb c) ∧ layB R.ix base (vb c).bs s.ins (qs c).h = some (h1 c)) ∧
      (∀ c s,c < L → ss[c]? = some s → R.Over hx base e s (qs c) (vb c) (h1 c) (qs (c + 1))) ∧
      (∀ s,ss[L]? = some s → R.Last hx base e s (qs L) (vb L) (h1 L) out)
  | [],q,out,h=>by simp only [Rg.run] at h; cases h
  | s :: rest,q,out,h=>by
    simp only [Rg.run] at h
    split at h <;> try (cases h; done)
    next vb hst =>
    split at h <;> try (cases h; done)
    next h1 hly =>
    have last : ∀ out',R.Last hx base e s q vb h1 out' → ∃ (L : Nat) (qs : Nat → RSt) (vb : Nat → VB) (h1 : Nat → H),qs 0 = q ∧
        (∀ c,c ≤ L → ∃ g,(s :: rest)[c]? = some g ∧ R.steps P base e (qs c).h g.st (qs c).vb = some (vb c) ∧ layB R.ix base (vb c).bs g.ins (qs c).h = some (h1 c)) ∧
        (∀ c g,c < L → (s :: rest)[c]? = some g → R.Over hx base e g (qs c) (vb c) (h1 c) (qs (c + 1))) ∧
        (∀ g,(s :: rest)[L]? = some g → R.Last hx base e g (qs L) (vb L) (h1 L) out'):=fun out' hl =>
      ⟨0,fun _=>q,fun _=>vb,fun _=>h1,rfl,fun c hc=>by
        have : c = 0:=by omega
        subst this; exact ⟨s,rfl,hst,hly⟩,fun c g hc=>by omega,fun g hg=>by injection hg with hg; subst hg; exact hl⟩
    have more : ∀ q',R.Over hx base e s q vb h1 q' → R.run P hx base e rest q' = some out → ∃ (L : Nat) (qs : Nat → RSt) (vb : Nat → VB) (h1 : Nat → H),qs 0 = q ∧
        (∀ c,c ≤ L → ∃ g,(s :: rest)[c]? = some g ∧ R.steps P base e (qs c).h g.st (qs c).vb = some (vb c) ∧ layB R.ix base (vb c).bs g.ins (qs c).h = some (h1 c)) ∧
        (∀ c g,c < L → (s :: rest)[c]? = some g → R.Over hx base e g (qs c) (vb c) (h1 c) (qs (c + 1))) ∧
        (∀ g,(s :: rest)[L]? = some g → R.Last hx base e g (qs L) (vb L) (h1 L) out):=fun q' ho hr=>by
      obtain ⟨L,qs,vbs,hs,i1,i2,i3,i4⟩:=run_trace rest q' out hr
      refine ⟨L + 1,fun c=>match c with | 0=>q | c + 1=>qs c,fun c=>match c with | 0=>vb | c + 1=>vbs c,fun c=>match c with | 0=>h1 | c + 1=>hs c,rfl,fun c hc=>?_,fun c g hc hg=>?_,fun g hg=>?_⟩
      · cases c with
        | zero=>exact ⟨s,rfl,hst,hly⟩
        | succ c=>exact i2 c (by omega)
      · cases c with
        | zero =>
          injection hg with hg; subst hg
          dsimp only
          rw [i1]; exact ho
        | succ c=>exact i3 c g (by omega) hg
      · exact i4 g hg
    split at h
    · next hhd =>
      injection h with h; subst h
      exact last _ (.inl ⟨hhd,rfl⟩)
    · next x hhd =>
      split at h <;> try (cases h; done)
      · next v h' f' hh =>
        split at h <;> try (cases h; done)
        next h2 =>
        injection h with h; subst h
        exact last _ (.inr ⟨x,v,h',f',hhd,h2,hh,rfl⟩)
      · next v h2 f2 hh =>
        split at h
        · next hd2=>exact more _ ⟨x,v,h2,f2,hhd,hh,.inl ⟨hd2,rfl⟩⟩ h
        · next y hd2 =>
          split at h <;> try (cases h; done)
          next a a' ha ha' =>
          cases hb : Pos.beq a a' || Nat.beq x y with
          | true=>rw [hb] at h; cases h
          | false =>
            rw [hb,cond_false] at h
            rw [Bool.or_eq_false_iff] at hb
            split at h <;> try (cases h; done)
            next v' h3 f3 hh3 =>
            exact more _ ⟨x,v,h2,f2,hhd,hh,.inr ⟨y,a,a',v',h3,f3,hd2,fun e=>by (subst e; rw [Nat.beq_refl] at hb; cases hb.2),ha,ha',fun e=>by (subst e; rw [Pos.beq_refl] at hb; cases hb.1),hh3,rfl⟩⟩ h
end
end Am
end Go.Proofs.YtadbcnekkceoaaaGreatDoor
namespace Go.Proofs.YtadbcnekkceoaaaGreatDoor
namespace Am
theorem SameH.refl (h : H) : SameH h h:=⟨fun _=>rfl,rfl⟩
theorem store_inv {h h' : H} {a : Pos} {o : Nat} {l : List AV} (hs : h.store a o l = some h') : ∃ b b',h.get a = some b ∧ h' = h.set a b' ∧ ∀ g : H,g.get a = some b → g.store a o l = some (g.set a b'):=by
  unfold H.store at hs
  split at hs
  · next k c hg =>
    cases hb : Nat.ble (Nat.add o l.length) k && ones l with
    | true =>
      rw [hb,cond_true] at hs
      refine ⟨_,_,hg,(Option.some.inj hs).symm,fun g hg'=>?_⟩
      unfold H.store
      rw [hg']
      dsimp only
      rw [hb]
      rfl
    | false=>rw [hb] at hs; cases hs
  · cases hs
theorem store_comm {h h2 h3 : H} {a a' : Pos} {o o' : Nat} {l l' : List AV} (h1 : h.store a o l = some h2) (h2' : h2.store a' o' l' = some h3) (hne : a ≠ a') :
    ∃ g2,h.store a' o' l' = some g2 ∧ ∃ g3,g2.store a o l = some g3 ∧ SameH g3 h3:=by
  obtain ⟨b,b',q1,q2,q3⟩:=store_inv h1
  obtain ⟨c,c',r1,r2,r3⟩:=store_inv h2'
  subst q2
  rw [H.get_set,if_neg (fun e=>hne e.symm)] at r1
  refine ⟨_,r3 h r1,_,q3 _ (by rw [H.get_set,if_neg hne]; exact q1),fun x=>?_,?_⟩
  · subst r2
    rw [H.get_set,H.get_set,H.get_set,H.get_set]
    by_cases e1 : x = a
    · subst e1; rw [if_pos rfl,if_neg hne,if_pos rfl]
    · rw [if_neg e1]
      by_cases e2 : x = a'
      · rw [if_pos e2,if_pos e2]
      · rw [if_neg e2,if_neg e2,if_neg e1]
  · subst r2; rfl
theorem hardF_store {P : Program} {t : TypeId} {p x : Operand} {lk : Operand → AV} {h h' : H} {a : Pos} {v : AV} (hv : hardF P (.store t p x) lk h a = some (v,h')) :
    ∃ b o cs,lk p = .ptr b o ∧ v = .junk ∧ h.store b o cs = some h' ∧ ∀ g g' : H,g.store b o cs = some g' → ∀ a',hardF P (.store t p x) lk g a' = some (.junk,g'):=by
  simp only [hardF] at hv
  split at hv <;> try (cases hv; done)
  next b o he =>
  split at hv <;> try (cases hv; done)
  next cs i hcs hi =>
  cases hb : Nat.beq cs.length i.size with
  | false=>rw [hb] at hv; cases hv
  | true =>
    rw [hb,cond_true] at hv
    split at hv <;> try (cases hv; done)
    next h2 hs =>
    injection hv with hv; injection hv with e1 e2; subst e1 e2
    refine ⟨b,o,cs,he,rfl,hs,fun g g' hg a'=>?_⟩
    simp only [hardF,he,hcs,hi,hb,cond_true,hg]
end Am
end Go.Proofs.YtadbcnekkceoaaaGreatDoor
namespace Go.Proofs.YtadbcnekkceoaaaGreatDoor
namespace Am
theorem keysOk_nodup : ∀ {l : List Nat},keysOk l = true → l.Nodup
  | [],_=>List.nodup_nil
  | i :: l,h=>by
    simp only [keysOk,Bool.and_eq_true,List.all_eq_true,Bool.not_eq_true'] at h
    refine List.nodup_cons.2 ⟨fun hm=>?_,keysOk_nodup h.2⟩
    have:=h.1 i hm
    rw [Nat.beq_refl] at this; cases this
theorem vfind_mem {α : Type} : ∀ {l : List (Nat × α)} {i : Nat} {v : α},vfind l i = some v → (i,v) ∈ l
  | [],_,_,h=>by cases h
  | (j,u) :: l,i,v,h=>by
    unfold vfind at h
    cases hb : Nat.beq j i with
    | true =>
      rw [hb,cond_true] at h
      injection h with h
      rw [Nat.eq_of_beq_eq_true hb,h]
      exact List.mem_cons_self ..
    | false=>rw [hb,cond_false] at h; exact List.mem_cons_of_mem _ (vfind_mem h)
theorem mem_vfind {α : Type} : ∀ {l : List (Nat × α)} {i : Nat} {v : α},(l.map (·.1)).Nodup → (i,v) ∈ l → vfind l i = some v
  | [],_,_,_,h=>by cases h
  | (j,u) :: l,i,v,hn,h=>by
    obtain ⟨h1,h2⟩:=List.nodup_cons.1 hn
    unfold vfind
    rcases List.mem_cons.1 h with e | h
    · injection e with e1 e2
      subst e1 e2
      rw [Nat.beq_refl,cond_true]
    · have : Nat.beq j i = false:=by
        cases hb : Nat.beq j i with
        | false=>rfl
        | true =>
          have:=Nat.eq_of_beq_eq_true hb
          subst this
          exact absurd (List.mem_map.2 ⟨_,h,rfl⟩) h1
      rw [this,cond_false]
      exact mem_vfind h2 h
def EntS (s : Stage) (i : Nat) : Kd → Prop
  | .pure=>Stp.pu i ∈ s.st
  | .read=>Stp.rd i ∈ s.st
  | .alloc=>Stp.al i ∈ s.st
  | .hard=>i ∈ s.hds
theorem tblF_mem : ∀ {ss : List Stage} {b i : Nat} {k : Kd} {c : Nat},(i,(k,c)) ∈ tblF ss b ↔ ∃ d s,c = b + d ∧ ss[d]? = some s ∧ EntS s i k
  | [],b,i,k,c=>by simp [tblF]
  | s :: l,b,i,k,c=>by
    have hst : (i,(k,c)) ∈ s.st.flatMap (Stp.ent b) ++ s.hds.map (fun x=>(x,(Kd.hard,b))) ↔ c = b ∧ EntS s i k:=by
      rw [List.mem_append,List.mem_flatMap,List.mem_map]
      constructor
      · rintro (⟨a,h1,h2⟩ | ⟨a,h1,h2⟩)
        · cases a <;> simp only [Stp.ent,List.mem_singleton,List.not_mem_nil,Prod.mk.injEq] at h2 <;> (obtain ⟨e1,e2,e3⟩:=h2; subst e1 e2 e3; exact ⟨rfl,h1⟩)
        · simp only [Prod.mk.injEq] at h2
          obtain ⟨e1,e2,e3⟩:=h2
          subst e1 e2 e3
          exact ⟨rfl,h1⟩
      · rintro ⟨rfl,h⟩
        cases k with
        | pure=>exact .inl ⟨_,h,by simp [Stp.ent]⟩
        | read=>exact .inl ⟨_,h,by simp [Stp.ent]⟩
        | alloc=>exact .inl ⟨_,h,by simp [Stp.ent]⟩
        | hard=>exact .inr ⟨i,h,rfl⟩
    simp only [tblF]
    rw [List.mem_append,hst,tblF_mem (ss:=l) (b:=b.succ)]
    constructor
    · rintro (⟨h1,h2⟩ | ⟨d,g,h1,h2,h3⟩)
      · exact ⟨0,s,by omega,rfl,h2⟩
      · exact ⟨d + 1,g,by omega,h2,h3⟩
    · rintro ⟨d,g,h1,h2,h3⟩
      cases d with
      | zero=>injection h2 with h2; subst h2; exact .inl ⟨by omega,h3⟩
      | succ d=>exact .inr ⟨d,g,by omega,h2,h3⟩
theorem bit_testBit (s i : Nat) : bit s i = s.testBit i:=by
  unfold bit
  have h : ∀ x : Nat,x &&& 1 = x % 2:=fun x=>Nat.and_one_is_mod x
  show Nat.beq ((s >>> i) &&& 1) 1 = s.testBit i
  rw [Nat.testBit,Nat.and_comm 1 (s >>> i),h]
  rcases Nat.mod_two_eq_zero_or_one (s >>> i) with e | e <;> rw [e] <;> rfl
theorem plainOk_pre {pm : List Nat} : ∀ {n : Nat},plainOk pm n = true → ∀ i j,i < n → bit (pm.getD i 0) j = true → j < i
  | 0,_,i,j,hi,_=>by omega
  | n + 1,h,i,j,hi,hb=>by
    simp only [plainOk,Bool.and_eq_true] at h
    by_cases e : i = n
    · subst e
      have h1 : pm.getD i 0 < 2 ^ i:=blt_lt h.1
      rw [bit_testBit] at hb
      have h2:=Nat.ge_two_pow_of_testBit hb
      exact Classical.byContradiction fun hn=>by
        have : 2 ^ i ≤ 2 ^ j:=Nat.pow_le_pow_right (by omega) (by omega)
        omega
    · exact plainOk_pre h.2 i j (by omega) hb
theorem edge_bit {pm : List Nat} {j : Nat} : ∀ (l : List Edge) (a : Nat),(l.foldl (fun s e=>bif Region.binds .any e then Nat.lor (Nat.lor s (Nat.pow 2 e.on)) (pm.getD e.on 0) else s) a).testBit j = true → a.testBit j = true ∨ ∃ e,e ∈ l ∧ Region.binds .any e = true ∧ (e.on = j ∨ (pm.getD e.on 0).testBit j = true)
  | [],a,h=>.inl h
  | e :: l,a,h=>by
    rw [List.foldl_cons] at h
    rcases edge_bit l _ h with h | ⟨x,h1,h2,h3⟩
    · cases hb : Region.binds .any e with
      | false=>rw [hb,cond_false] at h; exact .inl h
      | true =>
        rw [hb,cond_true] at h
        have h' : (a ||| 2 ^ e.on ||| pm.getD e.on 0).testBit j = true:=h
        rw [Nat.testBit_or,Nat.testBit_or,Bool.or_eq_true,Bool.or_eq_true] at h'
        rcases h' with (h | h) | h
        · exact .inl h
        · refine .inr ⟨e,List.mem_cons_self ..,hb,.inl ?_⟩
          rw [Nat.testBit_two_pow] at h
          simpa using h
        · exact .inr ⟨e,List.mem_cons_self ..,hb,.inr h⟩
    · exact .inr ⟨x,List.mem_cons_of_mem _ h1,h2,h3⟩
theorem edgesOk_at {ops : List Oper} {pm : List Nat} : ∀ {l : List Oper} {b : Nat},edgesOk ops pm l b = true → ∀ i o,l[i]? = some o → (∀ e,e ∈ o.after → Region.binds .any e = true → e.on < b + i) ∧ ∀ j,bit (pm.getD (b + i) 0) j = true → ∃ e,e ∈ o.after ∧ Region.binds .any e = true ∧ (e.on = j ∨ bit (pm.getD e.on 0) j = true)
  | [],_,_,i,o,ho=>by cases i <;> cases ho
  | x :: l,b,h,i,o,ho=>by
    simp only [edgesOk,Bool.and_eq_true,List.all_eq_true] at h
    cases i with
    | zero =>
      injection ho with ho; subst ho
      refine ⟨fun e he hb=>?_,fun j hj=>?_⟩
      · have:=h.1.1 e (Array.mem_toList_iff.2 he)
        rw [hb,cond_true] at this
        exact blt_lt this
      · rw [bit_testBit] at hj
        rw [Nat.add_zero,Nat.eq_of_beq_eq_true h.1.2] at hj
        rcases edge_bit _ _ hj with h | ⟨e,h1,h2,h3⟩
        · rw [Nat.zero_testBit] at h; cases h
        · exact ⟨e,Array.mem_toList_iff.1 h1,h2,by rw [bit_testBit]; exact h3⟩
    | succ i =>
      have:=edgesOk_at h.2 i o ho
      rwa [Nat.succ_add_eq_add_succ] at this
theorem dstOk_at {R : Rg} {N : Nat} : ∀ {l : List Oper} {b : Nat},R.dstOk N l b = true → ∀ i o d,l[i]? = some o → o.dst = some d → d < N ∧ R.wr d = some (b + i)
  | [],_,_,i,o,d,ho,_=>by cases i <;> cases ho
  | x :: l,b,h,i,o,d,ho,hd=>by
    simp only [Rg.dstOk,Bool.and_eq_true] at h
    cases i with
    | zero =>
      injection ho with ho; subst ho
      have h1:=h.1
      rw [hd] at h1
      simp only [Bool.and_eq_true] at h1
      refine ⟨blt_lt h1.1,?_⟩
      have h2:=h1.2
      split at h2
      · next j hj=>rw [hj,Nat.eq_of_beq_eq_true h2]; rfl
      · cases h2
    | succ i =>
      have:=dstOk_at h.2 i o d ho hd
      rwa [Nat.succ_add_eq_add_succ] at this
theorem lastOk_at : ∀ {ss : List Stage},lastOk ss = true → ∀ c s,ss[c]? = some s → (s.hd = none → c + 1 = ss.length) ∧ (c + 1 = ss.length → s.hd = none ∧ s.hd2 = none)
  | [],h,_,_,_=>by cases h
  | [x],h,c,s,hc=>by
    simp only [lastOk,Bool.and_eq_true,Option.isNone_iff_eq_none] at h
    cases c with
    | zero=>injection hc with hc; subst hc; exact ⟨fun _=>rfl,fun _=>h⟩
    | succ c=>simp at hc
  | x :: y :: l,h,c,s,hc=>by
    simp only [lastOk,Bool.and_eq_true] at h
    cases c with
    | zero=>injection hc with hc; subst hc; exact ⟨fun e=>by (rw [e] at h; cases h.1),fun e=>by (simp at e)⟩
    | succ c =>
      obtain ⟨h1,h2⟩:=lastOk_at (ss:=y :: l) h.2 c s hc
      exact ⟨fun e=>by (rw [h1 e]; rfl),fun e=>h2 (by simpa using e)⟩
theorem insOk_at {R : Rg} {tbl : List (Nat × (Kd × Nat))} : ∀ {l : List Stage} {b : Nat},R.insOk tbl l b = true → ∀ c g i,l[c]? = some g → i ∈ g.ins → (∃ s,vfind tbl i = some (.alloc,s) ∧ s ≤ b + c) ∧ ∀ x,x ∈ g.hds → R.pre x i = true
  | [],_,_,c,g,i,hc,_=>by cases c <;> cases hc
  | x :: l,b,h,c,g,i,hc,hi=>by
    simp only [Rg.insOk,Bool.and_eq_true,List.all_eq_true] at h
    cases c with
    | zero =>
      injection hc with hc; subst hc
      obtain ⟨h1,h2⟩:=h.1 i hi
      refine ⟨?_,h2⟩
      split at h1
      · next s hs=>exact ⟨s,hs,ble_le h1⟩
      · cases h1
    | succ c =>
      have:=insOk_at h.2 c g i hc hi
      rwa [Nat.succ_add_eq_add_succ] at this
theorem readOk_at {R : Rg} {i s : Nat} : ∀ {l : List Stage} {b : Nat} {hs : List Nat},R.readOk i s l b hs = true → ∀ c g,l[c]? = some g →
    (b + c ≤ s ∨ i ∈ g.res ∨ (∃ y,y ∈ hs ∧ R.pre y i = true) ∨ ∃ d g' y,d < c ∧ l[d]? = some g' ∧ y ∈ g'.hds ∧ R.pre y i = true) ∧
    (b + c < s ∨ g.hd2 = none ∨ ((∃ y,y ∈ hs ∧ R.pre y i = true) ∨ ∃ d g' y,d < c ∧ l[d]? = some g' ∧ y ∈ g'.hds ∧ R.pre y i = true) ∨ ∀ y,y ∈ g.hds → R.pre y i = true)
  | [],_,_,_,c,g,hc=>by cases c <;> cases hc
  | x :: l,b,hs,h,c,g,hc=>by
    simp only [Rg.readOk,Bool.and_eq_true,Bool.or_eq_true,List.any_eq_true,List.all_eq_true,Option.isNone_iff_eq_none,memN] at h
    obtain ⟨⟨h1,h2⟩,h3⟩:=h
    cases c with
    | zero =>
      injection hc with hc; subst hc
      refine ⟨?_,?_⟩
      · rcases h1 with (h1 | ⟨y,h1,h1'⟩) | h1
        · exact .inl (ble_le h1)
        · rw [Nat.eq_of_beq_eq_true h1']; exact .inr (.inl h1)
        · exact .inr (.inr (.inl h1))
      · rcases h2 with ((h2 | h2) | h2) | h2
        · exact .inl (blt_lt h2)
        · exact .inr (.inl h2)
        · exact .inr (.inr (.inl (.inl h2)))
        · exact .inr (.inr (.inr h2))
    | succ c =>
      have:=readOk_at h3 c g hc
      rw [Nat.succ_add_eq_add_succ] at this
      have up : ((∃ y,y ∈ x.hds ++ hs ∧ R.pre y i = true) ∨ ∃ d g' y,d < c ∧ l[d]? = some g' ∧ y ∈ g'.hds ∧ R.pre y i = true) → (∃ y,y ∈ hs ∧ R.pre y i = true) ∨ ∃ d g' y,d < c + 1 ∧ (x :: l)[d]? = some g' ∧ y ∈ g'.hds ∧ R.pre y i = true:=by
        rintro (⟨y,h1,h2⟩ | ⟨d,g',y,h1,h2,h3,h4⟩)
        · rcases List.mem_append.1 h1 with h1 | h1
          · exact .inr ⟨0,x,y,by omega,rfl,h1,h2⟩
          · exact .inl ⟨y,h1,h2⟩
        · exact .inr ⟨d + 1,g',y,by omega,h2,h3,h4⟩
      refine ⟨?_,?_⟩
      · rcases this.1 with h | h | h | h
        · exact .inl h
        · exact .inr (.inl h)
        · rcases up (.inl h) with h | h
          · exact .inr (.inr (.inl h))
          · exact .inr (.inr (.inr h))
        · rcases up (.inr h) with h | h
          · exact .inr (.inr (.inl h))
          · exact .inr (.inr (.inr h))
      · rcases this.2 with h | h | h | h
        · exact .inl h
        · exact .inr (.inl h)
        · exact .inr (.inr (.inl (up h)))
        · exact .inr (.inr (.inr h))
end Am
end Go.Proofs.YtadbcnekkceoaaaGreatDoor
namespace Go.Proofs.YtadbcnekkceoaaaGreatDoor
namespace Am
inductive Hf | z | x | y
  deriving DecidableEq
structure Dt where
  R : Rg
  ss : List Stage
  draw : Bool
  L : Nat
  qs : Nat → RSt
  vb : Nat → VB
  h1 : Nat → H
  hX : Nat → H
  hY : Nat → H
  base : Pos
  res : RRes
def Dt.F (d : Dt) : VB:=d.vb d.L
def Dt.upto (d : Dt) (c i : Nat) : Prop:=∃ q s,q < c ∧ d.ss[q]? = some s ∧ i ∈ s.hds
def Dt.half (d : Dt) (c : Nat) (r : Hf) (i : Nat) : Prop:=match r with
  | .z=>False
  | .x=>∃ s,d.ss[c]? = some s ∧ s.hd = some i
  | .y=>∃ s,d.ss[c]? = some s ∧ s.hd2 = some i
def Dt.insOf (d : Dt) (c : Nat) : List Nat:=match d.ss[c]? with | some s=>s.ins | none=>[]
def Dt.sys (d : Dt) : Sys (Nat × Hf) where
  ops:=d.R.ops.toArray
  dep i j:=match d.draw with | true=>Dep d.R.ops.toArray i j | false=>j < i
  pre i j:=d.R.pre i j = true
  K i:=match vfind (tblF d.ss 0) i with | some (k,_)=>k | none=>.pure
  vals i:=match vfind d.F.vs i with | some v=>v | none=>.junk
  skip i:=match d.R.ops[i]? with | some o=>(match d.R.want d.F.vs i o with | some false=>true | _=>false) | none=>false
  rch q:=q.1 ≤ d.L ∧ (q.2 = .z ∨ (q.1 < d.L ∧ ∃ s,d.ss[q.1]? = some s ∧ s.hd2 ≠ none))
  hp q:=match q.2 with | .z=>(d.qs q.1).h | .x=>d.hX q.1 | .y=>d.hY q.1
  fx q:=(d.qs q.1).f
  done q i:=d.upto q.1 i ∨ d.half q.1 q.2 i
  laid q i:=∃ c s,(c < q.1 ∨ (c = q.1 ∧ q.2 ≠ .z)) ∧ d.ss[c]? = some s ∧ i ∈ s.ins
  inl q _:=match q.2 with | .z=>d.insOf q.1 | _=>[]
  inlE q:=d.insOf q.1
  nxt q x:=match q.2 with
    | .z=>match d.ss[q.1]? with
      | some s=>if s.hd = some x then (if q.1 = d.L then none else if s.hd2 = none then some (q.1 + 1,.z) else some (q.1,.x)) else some (q.1,.y)
      | none=>none
    | _=>some (q.1 + 1,.z)
  id i:=d.base.add (d.R.ix i)
  blk i:=match vfind d.F.bs i with | some (some b)=>b | _=>.mp [] 0
  res:=d.res
structure DtOk (d : Dt) (P : Program) (hx : Hx) (e : E) (N : Nat) : Prop where
  dst : ∀ i o t,d.R.ops[i]? = some o → o.dst = some t → t < N ∧ d.R.wr t = some i
  edge : d.draw = true → ∀ i o,d.R.ops[i]? = some o → (∀ e,e ∈ o.after → Region.binds .any e = true → e.on < i) ∧ ∀ j,d.R.pre i j = true → ∃ e,e ∈ o.after ∧ Region.binds .any e = true ∧ (e.on = j ∨ d.R.pre e.on j = true)
  plain : d.draw = false → ∀ i j,i < d.R.ops.length → d.R.pre i j = true → j < i
  last : ∀ c s,d.ss[c]? = some s → (s.hd = none → c + 1 = d.ss.length) ∧ (c + 1 = d.ss.length → s.hd = none ∧ s.hd2 = none)
  nod : ((tblF d.ss 0).map (·.1)).Nodup
  lt : ∀ x,x ∈ tblF d.ss 0 → x.1 < d.R.ops.length
  all : ∀ i,i < d.R.ops.length → ∃ k c,(i,(k,c)) ∈ tblF d.ss 0
  ahead : ∀ i k c,(i,(k,c + 1)) ∈ tblF d.ss 0 → ∃ g,d.ss[c]? = some g ∧ ∀ y,y ∈ g.hds → d.R.pre i y = true
  reads : ∀ i s,(i,(Kd.read,s)) ∈ tblF d.ss 0 → ∀ c g,d.ss[c]? = some g → (c ≤ s ∨ i ∈ g.res ∨ ∃ q g' y,q < c ∧ d.ss[q]? = some g' ∧ y ∈ g'.hds ∧ d.R.pre y i = true) ∧ (c < s ∨ g.hd2 = none ∨ (∃ q g' y,q < c ∧ d.ss[q]? = some g' ∧ y ∈ g'.hds ∧ d.R.pre y i = true) ∨ ∀ y,y ∈ g.hds → d.R.pre y i = true)
  ix : d.R.ixOk (tblF d.ss 0) = true
  insN : (d.ss.flatMap (·.ins)).Nodup
  ins : ∀ c g i,d.ss[c]? = some g → i ∈ g.ins → (∃ s,(i,(Kd.alloc,s)) ∈ tblF d.ss 0 ∧ s ≤ c) ∧ ∀ x,x ∈ g.hds → d.R.pre x i = true
  stg : ∀ c,c ≤ d.L → ∃ s,d.ss[c]? = some s ∧ d.R.steps P d.base e (d.qs c).h s.st (d.qs c).vb = some (d.vb c) ∧ layB d.R.ix d.base (d.vb c).bs s.ins (d.qs c).h = some (d.h1 c)
  over1 : ∀ c s,c < d.L → d.ss[c]? = some s → s.hd2 = none → ∃ x v h2 f2,s.hd = some x ∧ d.R.hard hx d.base e x (d.vb c).vs (d.h1 c) (d.qs c).f = some (.val v h2 f2) ∧ d.qs (c + 1) = ⟨⟨(x,v) :: (d.vb c).vs,(d.vb c).bs⟩,h2,f2⟩
  over2 : ∀ c s,c < d.L → d.ss[c]? = some s → s.hd2 ≠ none → ∃ x y v v',s.hd = some x ∧ s.hd2 = some y ∧ x ≠ y ∧ d.R.hard hx d.base e x (d.vb c).vs (d.h1 c) (d.qs c).f = some (.val v (d.hX c) (d.qs c).f) ∧
    d.R.hard hx d.base e y ((x,v) :: (d.vb c).vs) (d.hX c) (d.qs c).f = some (.val v' (d.qs (c + 1)).h (d.qs c).f) ∧ d.qs (c + 1) = ⟨⟨(y,v') :: (x,v) :: (d.vb c).vs,(d.vb c).bs⟩,(d.qs (c + 1)).h,(d.qs c).f⟩ ∧
    (∃ o,d.R.ops[y]? = some o ∧ o.guard = none ∧ hx o (d.R.lk e ((x,v) :: (d.vb c).vs) y) (d.h1 c) (d.base.add (d.R.ix y)) (d.qs c).f = some (.val v' (d.hY c) (d.qs c).f)) ∧
    (∃ o h',d.R.ops[x]? = some o ∧ o.guard = none ∧ hx o (d.R.lk e (d.vb c).vs x) (d.hY c) (d.base.add (d.R.ix x)) (d.qs c).f = some (.val v h' (d.qs c).f) ∧ SameH h' (d.qs (c + 1)).h)
  lastR : ∀ s,d.ss[d.L]? = some s → (s.hd = none ∧ d.res = .ok (d.h1 d.L) (d.qs d.L).f) ∨ ∃ x v h f,s.hd = some x ∧ s.hd2 = none ∧ d.R.hard hx d.base e x (d.vb d.L).vs (d.h1 d.L) (d.qs d.L).f = some (.pan v h f) ∧ d.res = .pan v h f
section
variable {d : Dt} {P : Program} {hx : Hx} {e : E} {N : Nat}
theorem DtOk.uniq (ok : DtOk d P hx e N) {i : Nat} {k k' : Kd} {c c' : Nat} (h : (i,(k,c)) ∈ tblF d.ss 0) (h' : (i,(k',c')) ∈ tblF d.ss 0) : k = k' ∧ c = c':=by
  have a:=mem_vfind ok.nod h
  rw [mem_vfind ok.nod h'] at a
  injection a with a; injection a with a1 a2
  exact ⟨a1.symm,a2.symm⟩
theorem DtOk.K_of (ok : DtOk d P hx e N) {i : Nat} {k : Kd} {c : Nat} (h : (i,(k,c)) ∈ tblF d.ss 0) : d.sys.K i = k:=by
  show (match vfind (tblF d.ss 0) i with | some (k,_)=>k | none=>.pure) = k
  rw [mem_vfind ok.nod h]
theorem hard_ent {c i : Nat} {s : Stage} (hs : d.ss[c]? = some s) (hi : i ∈ s.hds) : (i,(Kd.hard,c)) ∈ tblF d.ss 0:=tblF_mem.2 ⟨c,s,by omega,hs,hi⟩
theorem mem_hds {s : Stage} {i : Nat} : i ∈ s.hds ↔ s.hd = some i ∨ s.hd2 = some i:=by
  unfold Stage.hds
  rw [List.mem_append]
  cases s.hd <;> cases s.hd2 <;> simp [eq_comm]
theorem DtOk.ext1 (ok : DtOk d P hx e N) {c : Nat} (hc : c ≤ d.L) : ExtB (d.qs c).vb (d.vb c):=by
  obtain ⟨s,_,h,_⟩:=ok.stg c hc
  exact (steps_ok h).1
theorem DtOk.ext2 (ok : DtOk d P hx e N) {c : Nat} (hc : c < d.L) : ExtB (d.vb c) (d.qs (c + 1)).vb:=by
  obtain ⟨s,hs,_⟩:=ok.stg c (Nat.le_of_lt hc)
  by_cases h2 : s.hd2 = none
  · obtain ⟨x,v,h2,f2,_,h4,h5⟩:=ok.over1 c s hc hs h2
    rw [h5]
    exact ⟨Ext.cons _ (hard_shows h4).1,Ext.refl _⟩
  · obtain ⟨x,y,v,v',_,_,_,h4,h5,h6,_⟩:=ok.over2 c s hc hs h2
    rw [h6]
    exact ⟨(Ext.cons _ (hard_shows h4).1).trans (Ext.cons _ (hard_shows h5).1),Ext.refl _⟩
theorem DtOk.extF (ok : DtOk d P hx e N) : ∀ {n c : Nat},c + n = d.L → ExtB (d.vb c) d.F
  | 0,c,h=>by
    have : c = d.L:=by omega
    subst this; exact ExtB.refl _
  | n + 1,c,h=>(ok.ext2 (by omega)).trans ((ok.ext1 (by omega)).trans (DtOk.extF ok (n:=n) (c:=c + 1) (by omega)))
theorem DtOk.extL (ok : DtOk d P hx e N) {c : Nat} (h : c ≤ d.L) : ExtB (d.vb c) d.F:=ok.extF (n:=d.L - c) (by omega)
theorem DtOk.extQ (ok : DtOk d P hx e N) {c : Nat} (h : c ≤ d.L) : ExtB (d.qs c).vb d.F:=(ok.ext1 h).trans (ok.extL h)
theorem want_ext {R : Rg} {vs vs' : List (Nat × AV)} (h : Ext vs vs') {i : Nat} {o : Oper} {b : Bool} (hw : R.want vs i o = some b) : R.want vs' i o = some b:=by
  unfold Rg.want at hw ⊢
  split at hw
  · next hg=>exact hw
  · next j want hg =>
    cases hb : R.pre i j && R.hasDst j with
    | false=>rw [hb] at hw; cases hw
    | true =>
      rw [hb,cond_true] at hw
      rw [cond_true]
      split at hw <;> try (cases hw; done)
      · next x hx=>rw [h _ _ hx]; exact hw
      · next hx=>rw [h _ _ hx]; exact hw
theorem skip_of {i : Nat} {o : Oper} {b : Bool} {vs : List (Nat × AV)} (ho : d.R.ops[i]? = some o) (hw : d.R.want vs i o = some b) (he : Ext vs d.F.vs) : d.sys.skip i = !b:=by
  show (match d.R.ops[i]? with | some o=>(match d.R.want d.F.vs i o with | some false=>true | _=>false) | none=>false) = !b
  rw [ho]
  dsimp only
  rw [want_ext he hw]
  cases b <;> rfl
theorem vals_of {i : Nat} {v : AV} {vs : List (Nat × AV)} (h : vfind vs i = some v) (he : Ext vs d.F.vs) : d.sys.vals i = v:=by
  show (match vfind d.F.vs i with | some v=>v | none=>.junk) = v
  rw [he _ _ h]
end
end Am
end Go.Proofs.YtadbcnekkceoaaaGreatDoor
namespace Go.Proofs.YtadbcnekkceoaaaGreatDoor
namespace Am
theorem wrF_some {t : Nat} : ∀ {l : List Oper} {b i : Nat},wrF t l b = some i → ∃ j o,i = b + j ∧ l[j]? = some o ∧ o.dst = some t
  | [],_,_,h=>by cases h
  | x :: l,b,i,h=>by
    unfold wrF at h
    have up : wrF t l b.succ = some i → ∃ j o,i = b + j ∧ (x :: l)[j]? = some o ∧ o.dst = some t:=fun h=>by
      obtain ⟨j,o,h1,h2,h3⟩:=wrF_some h
      exact ⟨j + 1,o,by omega,h2,h3⟩
    split at h
    · next d hd =>
      cases hb : Nat.beq d t with
      | true =>
        rw [hb,cond_true] at h
        injection h with h
        exact ⟨0,x,by omega,rfl,by rw [hd,Nat.eq_of_beq_eq_true hb]⟩
      | false=>rw [hb,cond_false] at h; exact up h
    · exact up h
section
variable {d : Dt} {P : Program} {hx : Hx} {e : E} {N : Nat} {tmps0 : Array Value} {m0 : Mp} {q : Nat × Hf} {i : Nat}
theorem sys_get {i : Nat} : d.sys.ops[i]? = d.R.ops[i]?:=by show d.R.ops.toArray[i]? = _; simp
theorem sys_size : d.sys.ops.size = d.R.ops.length:=by show d.R.ops.toArray.size = _; simp
theorem sys_dst {i : Nat} {o : Oper} (ho : d.R.ops[i]? = some o) : d.sys.dst i = o.dst:=by unfold Sys.dst; rw [sys_get,ho]; rfl
theorem DtOk.lkOk (ok : DtOk d P hx e N) (hsl : ∀ t,VR m0 (d.R.slotV e t) (tmps0.getD t undef)) {vs : List (Nat × AV)} (he : Ext vs d.F.vs) (i : Nat) : d.sys.LkOk m0 tmps0 i (d.R.lk e vs i):=by
  have one : ∀ j t,j < d.sys.ops.size → d.sys.dst j = some t → d.R.wr t = some j:=fun j t hj hd=>by
    rw [sys_size] at hj
    have ho:=List.getElem?_eq_getElem hj
    rw [sys_dst ho] at hd
    exact (ok.dst _ _ _ ho hd).2
  refine ⟨fun t=>?_,fun v=>rfl,fun g=>rfl,fun f=>rfl⟩
  show (match d.R.wr t with | some j=>bif d.R.pre i j then (match vfind vs j with | some v=>v | none=>.junk) else bif Nat.beq j i || d.R.pre j i then d.R.slotV e t else .junk | none=>d.R.slotV e t) = .junk ∨ _
  cases hw : d.R.wr t with
  | none =>
    refine .inr (.inr ⟨fun j hj hd=>?_,?_⟩)
    · rw [one j t hj hd] at hw; cases hw
    · show VR m0 (match d.R.wr t with | some j=>_ | none=>d.R.slotV e t) _
      rw [hw]; exact hsl t
  | some j =>
    dsimp only
    cases hp : d.R.pre i j with
    | true =>
      rw [cond_true]
      cases hv : vfind vs j with
      | none=>exact .inl rfl
      | some v =>
        obtain ⟨j',o,h1,h2,h3⟩:=wrF_some hw
        have : j = j':=by omega
        subst this
        refine .inr (.inl ⟨j,by rw [sys_size]; exact (List.getElem?_eq_some_iff.1 h2).1,hp,(sys_dst h2).trans h3,?_⟩)
        show (match d.R.wr t with | some j=>bif d.R.pre i j then (match vfind vs j with | some v=>v | none=>.junk) else bif Nat.beq j i || d.R.pre j i then d.R.slotV e t else .junk | none=>d.R.slotV e t) = _
        rw [hw]
        dsimp only
        rw [hp,cond_true,hv]
        exact (vals_of hv he).symm
    | false =>
      rw [cond_false]
      cases hb : Nat.beq j i || d.R.pre j i with
      | false=>exact .inl rfl
      | true =>
        refine .inr (.inr ⟨fun j' hj hd=>?_,?_⟩)
        · have:=one j' t hj hd
          rw [hw] at this; injection this with this; subst this
          rw [Bool.or_eq_true] at hb
          rcases hb with hb | hb
          · exact .inl (Nat.eq_of_beq_eq_true hb)
          · exact .inr hb
        · show VR m0 (match d.R.wr t with | some j=>bif d.R.pre i j then (match vfind vs j with | some v=>v | none=>.junk) else bif Nat.beq j i || d.R.pre j i then d.R.slotV e t else .junk | none=>d.R.slotV e t) _
          rw [hw]
          dsimp only
          rw [hp,cond_false,hb,cond_true]
          exact hsl t
theorem DtOk.dn (ok : DtOk d P hx e N) (hd : d.sys.done q i) : ∃ c s,d.ss[c]? = some s ∧ i ∈ s.hds ∧ (i,(Kd.hard,c)) ∈ tblF d.ss 0 ∧ (c < q.1 ∨ (c = q.1 ∧ d.half q.1 q.2 i)):=by
  rcases hd with ⟨c,s,h1,h2,h3⟩ | h
  · exact ⟨c,s,h2,h3,hard_ent h2 h3,.inl h1⟩
  · cases hr : q.2 with
    | z=>rw [hr] at h; exact h.elim
    | x =>
      rw [hr] at h
      obtain ⟨s,h1,h2⟩:=h
      have:=mem_hds.2 (.inl h2)
      exact ⟨q.1,s,h1,this,hard_ent h1 this,.inr ⟨rfl,s,h1,h2⟩⟩
    | y =>
      rw [hr] at h
      obtain ⟨s,h1,h2⟩:=h
      have:=mem_hds.2 (.inr h2)
      exact ⟨q.1,s,h1,this,hard_ent h1 this,.inr ⟨rfl,s,h1,h2⟩⟩
theorem DtOk.notall (ok : DtOk d P hx e N) (hr : d.sys.rch q) {g : Stage} (hg : d.ss[q.1]? = some g) (hh : g.hd ≠ none) (hall : ∀ y,y ∈ g.hds → d.half q.1 q.2 y) : False:=by
  obtain ⟨h1,h2⟩:=hr
  cases hx : g.hd with
  | none=>exact hh hx
  | some x =>
    have hxm : x ∈ g.hds:=mem_hds.2 (.inl hx)
    have h3:=hall x hxm
    rcases h2 with h2 | ⟨h2,s,h4,h5⟩
    · rw [h2] at h3; exact h3
    · rw [hg] at h4; injection h4 with h4; subst h4
      obtain ⟨x',y,v,v',e1,e2,e3,_⟩:=ok.over2 q.1 g h2 hg h5
      rw [hx] at e1; injection e1 with e1; subst e1
      have h6:=hall y (mem_hds.2 (.inr e2))
      cases hq : q.2 with
      | z=>rw [hq] at h3; exact h3
      | x =>
        rw [hq] at h6
        obtain ⟨s,k1,k2⟩:=h6
        rw [hg] at k1; injection k1 with k1; subst k1
        rw [hx] at k2; injection k2 with k2; exact e3 k2
      | y =>
        rw [hq] at h3
        obtain ⟨s,k1,k2⟩:=h3
        rw [hg] at k1; injection k1 with k1; subst k1
        rw [e2] at k2; injection k2 with k2; exact e3 k2.symm
theorem DtOk.stage (ok : DtOk d P hx e N) (hr : d.sys.rch q) (hc : d.sys.can q i) {k : Kd} {s0 : Nat} (hent : (i,(k,s0)) ∈ tblF d.ss 0) : s0 ≤ q.1:=by
  apply Classical.byContradiction
  intro hn
  obtain ⟨c,hc0⟩ : ∃ c,s0 = c + 1:=⟨s0 - 1,by omega⟩
  subst hc0
  obtain ⟨g,hg,hpre⟩:=ok.ahead i k c hent
  obtain ⟨dd,s,e1,e2,_⟩:=tblF_mem.1 hent
  have hlen : c + 1 < d.ss.length:=by have:=(List.getElem?_eq_some_iff.1 e2).1; omega
  have hdone : ∀ y,y ∈ g.hds → c = q.1 ∧ d.half q.1 q.2 y:=fun y hy=>by
    have hen:=hard_ent hg hy
    have hyd:=hc.2.1 y (by rw [sys_size]; exact ok.lt _ hen) (by rw [ok.K_of hen]; exact trivial) (hpre y hy)
    obtain ⟨c',s',_,_,h3,h4⟩:=ok.dn hyd
    have:=(ok.uniq hen h3).2
    subst this
    rcases h4 with h4 | h4
    · omega
    · exact h4
  have hhd : g.hd ≠ none:=fun h=>by have:=(ok.last c g hg).1 h; omega
  cases hx : g.hd with
  | none=>exact hhd hx
  | some x =>
    have:=(hdone x (mem_hds.2 (.inl hx))).1
    subst this
    exact ok.notall hr hg hhd fun y hy=>(hdone y hy).2
theorem DtOk.now (ok : DtOk d P hx e N) (hr : d.sys.rch q) (hc : d.sys.can q i) (hk : (d.sys.K i).isHard) : ∃ s,d.ss[q.1]? = some s ∧ i ∈ s.hds ∧ (i,(Kd.hard,q.1)) ∈ tblF d.ss 0:=by
  obtain ⟨k,c,hent⟩:=ok.all i (by have:=hc.1; rwa [sys_size] at this)
  rw [ok.K_of hent] at hk
  cases k <;> try exact hk.elim
  have h1:=ok.stage hr hc hent
  obtain ⟨c',s,e1,e2,e3⟩:=tblF_mem.1 hent
  have : c = c':=by omega
  subst this
  rcases Nat.lt_or_ge c q.1 with h | h
  · exact absurd (.inl ⟨c,s,h,e2,e3⟩) hc.2.2.2
  · have : c = q.1:=by omega
    subst this
    exact ⟨s,e2,e3,hent⟩
theorem DtOk.stepOf (ok : DtOk d P hx e N) {c : Nat} (hc : c ≤ d.L) {s : Stage} (hs : d.ss[c]? = some s) {t : Stp} (ht : t ∈ s.st) : ∃ v1 v2,d.R.StepOk P d.base e (d.qs c).h t v1 v2 ∧ Ext v1.vs d.F.vs ∧ ExtB v2 d.F:=by
  obtain ⟨s',h1,h2,_⟩:=ok.stg c hc
  rw [hs] at h1; injection h1 with h1; subst h1
  obtain ⟨v1,v2,g1,g2,g3,g4⟩:=(steps_ok h2).2 t ht
  exact ⟨v1,v2,g4,(g2.trans (g3.trans (ok.extL hc))).vs,g3.trans (ok.extL hc)⟩
end
end Am
end Go.Proofs.YtadbcnekkceoaaaGreatDoor
namespace Go.Proofs.YtadbcnekkceoaaaGreatDoor
namespace Am
section
variable {d : Dt} {P : Program} {hx : Hx} {e : E} {N : Nat} {tmps0 : Array Value} {m0 : Mp} {q : Nat × Hf} {i : Nat}
theorem DtOk.hardW (ok : DtOk d P hx e N) (hr : d.sys.rch q) (hc : d.sys.can q i) (hk : (d.sys.K i).isHard) : ∃ vs h f r,Ext vs d.F.vs ∧ d.R.hard hx d.base e i vs h f = some r ∧ ∀ v h' f',r = .val v h' f' → vfind d.F.vs i = some v:=by
  obtain ⟨s,hs,hi,_⟩:=ok.now hr hc hk
  have hi':=mem_hds.1 hi
  rcases Nat.lt_or_ge q.1 d.L with hlt | hge
  · by_cases h2 : s.hd2 = none
    · obtain ⟨x,v,h2',f2,e1,e2,e3⟩:=ok.over1 q.1 s hlt hs h2
      have : i = x:=by
        rcases hi' with h | h
        · rw [e1] at h; injection h with h; exact h.symm
        · rw [h2] at h; cases h
      subst this
      refine ⟨_,_,_,_,(ok.extL (Nat.le_of_lt hlt)).vs,e2,fun v' h' f' e=>?_⟩
      injection e with e
      subst e
      refine (ok.extQ (c:=q.1 + 1) hlt).vs i v ?_
      rw [e3]
      exact vfind_head _ _ _
    · obtain ⟨x,y,v,v',e1,e2,e3,e4,e5,e6,_⟩:=ok.over2 q.1 s hlt hs h2
      have hq:=(ok.extQ (c:=q.1 + 1) hlt).vs
      rw [e6] at hq
      have hf2:=Ext.cons v' (hard_shows e5).1
      rcases hi' with h | h
      · rw [e1] at h; injection h with h; subst h
        refine ⟨_,_,_,_,(ok.extL (Nat.le_of_lt hlt)).vs,e4,fun u h' f' e=>?_⟩
        injection e with e
        subst e
        exact hq x v (hf2 x v (vfind_head _ _ _))
      · rw [e2] at h; injection h with h; subst h
        refine ⟨_,_,_,_,hf2.trans hq,e5,fun u h' f' e=>?_⟩
        injection e with e
        subst e
        exact hq y v' (vfind_head _ _ _)
  · have : q.1 = d.L:=Nat.le_antisymm hr.1 hge
    rw [this] at hs
    rcases ok.lastR s hs with ⟨h1,_⟩ | ⟨x,v,h,f,e1,e2,e3,_⟩
    · have h2:=((ok.last _ _ hs).2 ((ok.last _ _ hs).1 h1)).2
      rcases hi' with h | h
      · rw [h1] at h; cases h
      · rw [h2] at h; cases h
    · have : i = x:=by
        rcases hi' with h | h
        · rw [e1] at h; injection h with h; exact h.symm
        · rw [e2] at h; cases h
      subst this
      exact ⟨_,_,_,_,Ext.refl _,e3,fun v' h' f' e=>by cases e⟩
theorem DtOk.wantOf (ok : DtOk d P hx e N) (hr : d.sys.rch q) (hc : d.sys.can q i) {o : Oper} (ho : d.R.ops[i]? = some o) : ∃ vs b,Ext vs d.F.vs ∧ d.R.want vs i o = some b ∧ (b = false → vfind d.F.vs i = some (.tup [])):=by
  obtain ⟨k,c,hent⟩:=ok.all i (by have:=hc.1; rwa [sys_size] at this)
  have h1:=Nat.le_trans (ok.stage hr hc hent) hr.1
  obtain ⟨c',s,e1,e2,e3⟩:=tblF_mem.1 hent
  have : c = c':=by omega
  subst this
  cases k with
  | hard =>
    obtain ⟨vs,h,f,r,g1,g2,g3⟩:=ok.hardW hr hc (by rw [ok.K_of hent]; exact trivial)
    obtain ⟨_,o',b,k1,k2,k3,k4⟩:=hard_shows g2
    rw [ho] at k1; injection k1 with k1; subst k1
    exact ⟨vs,b,g1,k2,fun hb=>g3 _ _ _ (k4 hb)⟩
  | pure =>
    obtain ⟨v1,v2,⟨o',b,k1,k2,v,k3,k4,k5⟩,g2,g3⟩:=ok.stepOf h1 e2 e3
    rw [ho] at k1; injection k1 with k1; subst k1
    exact ⟨v1.vs,b,g2,k2,fun hb=>by rw [← k5 hb]; exact g3.vs _ _ k3⟩
  | read =>
    obtain ⟨v1,v2,⟨o',b,k1,k2,v,k3,k4,k5⟩,g2,g3⟩:=ok.stepOf h1 e2 e3
    rw [ho] at k1; injection k1 with k1; subst k1
    exact ⟨v1.vs,b,g2,k2,fun hb=>by rw [← k5 hb]; exact g3.vs _ _ k3⟩
  | alloc =>
    obtain ⟨v1,v2,⟨o',b,k1,k2,v,k3,k4,k5⟩,g2,g3⟩:=ok.stepOf h1 e2 e3
    rw [ho] at k1; injection k1 with k1; subst k1
    exact ⟨v1.vs,b,g2,k2,fun hb=>by rw [← (k5 hb).1]; exact g3.vs _ _ k3⟩
theorem DtOk.want (ok : DtOk d P hx e N) (hr : d.sys.rch q) (hc : d.sys.can q i) {o : Oper} (ho : d.sys.ops[i]? = some o) : (o.guard = none ∧ d.sys.skip i = false) ∨ ∃ j want,o.guard = some (j,want) ∧ j < d.sys.ops.size ∧ d.sys.pre i j ∧ (∃ t,d.sys.dst j = some t) ∧ ((∃ b,d.sys.vals j = .bool b ∧ d.sys.skip i = !(b == want)) ∨ (d.sys.vals j = .tup [] ∧ d.sys.skip i = true)):=by
  rw [sys_get] at ho
  obtain ⟨vs,b,h1,h2,_⟩:=ok.wantOf hr hc ho
  have hsk:=skip_of ho h2 h1
  unfold Rg.want at h2
  split at h2
  · next hg=>injection h2 with h2; subst h2; exact .inl ⟨hg,hsk⟩
  · next j want hg =>
    cases hb : d.R.pre i j && d.R.hasDst j with
    | false=>rw [hb] at h2; cases h2
    | true =>
      rw [hb,cond_true] at h2
      rw [Bool.and_eq_true] at hb
      have hd : ∃ o' t,d.R.ops[j]? = some o' ∧ o'.dst = some t:=by
        have:=hb.2
        unfold Rg.hasDst at this
        split at this
        · next o' ho'=>exact ⟨o',_,ho',(Option.some_get this).symm⟩
        · cases this
      obtain ⟨o',t,k1,k2⟩:=hd
      refine .inr ⟨j,want,hg,by rw [sys_size]; exact (List.getElem?_eq_some_iff.1 k1).1,hb.1,⟨t,(sys_dst k1).trans k2⟩,?_⟩
      split at h2 <;> try (cases h2; done)
      · next x hx=>injection h2 with h2; subst h2; exact .inl ⟨x,vals_of hx h1,hsk⟩
      · next hx=>injection h2 with h2; subst h2; exact .inr ⟨vals_of hx h1,hsk⟩
theorem DtOk.skp (ok : DtOk d P hx e N) (hr : d.sys.rch q) (hc : d.sys.can q i) (hs : d.sys.skip i = true) : d.sys.vals i = .tup []:=by
  have hi:=hc.1
  rw [sys_size] at hi
  obtain ⟨vs,b,h1,h2,h3⟩:=ok.wantOf hr hc (List.getElem?_eq_getElem hi)
  rw [skip_of (List.getElem?_eq_getElem hi) h2 h1] at hs
  cases b with
  | true=>cases hs
  | false=>exact vals_of (h3 rfl) (Ext.refl _)
theorem layB_insH : ∀ {l : List Nat} {h h' : H} {bs : List (Nat × Option AB)},layB d.R.ix d.base bs l h = some h' → (∀ i,i ∈ l → (vfind bs i = some none → d.sys.skip i = true) ∧ ∀ b,vfind bs i = some (some b) → d.sys.skip i = false ∧ d.sys.blk i = b) → d.sys.insH l h = h'
  | [],h,h',bs,hl,_=>by injection hl
  | i :: l,h,h',bs,hl,hf=>by
    simp only [layB] at hl
    obtain ⟨f1,f2⟩:=hf i (List.mem_cons_self ..)
    have e : d.sys.insH (i :: l) h = d.sys.insH l (bif d.sys.skip i then h else h.set (d.sys.id i) (d.sys.blk i)):=by unfold Sys.insH; rw [List.foldl_cons]
    rw [e]
    split at hl <;> try (cases hl; done)
    · next b hb =>
      obtain ⟨g1,g2⟩:=f2 b hb
      rw [g1,g2,cond_false]
      exact layB_insH hl fun j hj=>hf j (List.mem_cons_of_mem _ hj)
    · next hb =>
      rw [f1 hb,cond_true]
      exact layB_insH hl fun j hj=>hf j (List.mem_cons_of_mem _ hj)
theorem insOf_eq {c : Nat} {s : Stage} (hs : d.ss[c]? = some s) : d.insOf c = s.ins:=by unfold Dt.insOf; rw [hs]
theorem DtOk.insH_at (ok : DtOk d P hx e N) {c : Nat} (hc : c ≤ d.L) : d.sys.insH (d.insOf c) (d.qs c).h = d.h1 c:=by
  obtain ⟨s,hs,_,hl⟩:=ok.stg c hc
  rw [insOf_eq hs]
  refine layB_insH hl fun i hi=>?_
  obtain ⟨⟨s',h1,h2⟩,_⟩:=ok.ins c s i hs hi
  obtain ⟨c',g,e1,e2,e3⟩:=tblF_mem.1 h1
  have : s' = c':=by omega
  subst this
  obtain ⟨v1,v2,⟨o,b,k1,k2,v,k3,k4,k5⟩,g2,g3⟩:=ok.stepOf (Nat.le_trans h2 hc) e2 e3
  have hsk:=skip_of k1 k2 g2
  have hF : ∀ w,vfind (d.vb c).bs i = some w → vfind d.F.bs i = some w:=fun w hw=>(ok.extL hc).bs _ _ hw
  cases b with
  | true =>
    obtain ⟨x,k6,k7⟩:=k4 rfl
    have:=g3.bs _ _ k7
    refine ⟨fun h=>?_,fun b hb=>⟨hsk,?_⟩⟩
    · rw [hF _ h] at this; cases this
    · show (match vfind d.F.bs i with | some (some b)=>b | _=>.mp [] 0) = b
      rw [hF _ hb]
  | false =>
    have:=g3.bs _ _ (k5 rfl).2
    refine ⟨fun _=>hsk,fun b hb=>?_⟩
    rw [hF _ hb] at this; cases this
theorem ins_uniq : ∀ {ss : List Stage},(ss.flatMap (·.ins)).Nodup → ∀ {c c' : Nat} {s s' : Stage} {i : Nat},ss[c]? = some s → ss[c']? = some s' → i ∈ s.ins → i ∈ s'.ins → c = c' ∧ s.ins.Nodup
  | [],_,c,_,_,_,_,h,_,_,_=>by cases c <;> cases h
  | x :: l,hn,c,c',s,s',i,h,h',hi,hi'=>by
    rw [List.flatMap_cons,List.nodup_append] at hn
    obtain ⟨n1,n2,n3⟩:=hn
    have mem : ∀ {c : Nat} {s : Stage},l[c]? = some s → i ∈ s.ins → i ∈ l.flatMap (·.ins):=fun h hi=>List.mem_flatMap.2 ⟨_,List.mem_of_getElem? h,hi⟩
    cases c with
    | zero =>
      injection h with h; subst h
      cases c' with
      | zero=>exact ⟨rfl,n1⟩
      | succ c'=>exact absurd rfl (n3 i hi i (mem h' hi'))
    | succ c =>
      cases c' with
      | zero =>
        injection h' with h'; subst h'
        exact absurd rfl (n3 i hi' i (mem h hi))
      | succ c' =>
        obtain ⟨r1,r2⟩:=ins_uniq n2 (c:=c) (c':=c') h h' hi hi'
        exact ⟨by rw [r1],r2⟩
theorem ins_nodup : ∀ {ss : List Stage},(ss.flatMap (·.ins)).Nodup → ∀ {c : Nat} {s : Stage},ss[c]? = some s → s.ins.Nodup
  | [],_,c,_,h=>by cases c <;> cases h
  | x :: l,hn,c,s,h=>by
    rw [List.flatMap_cons,List.nodup_append] at hn
    cases c with
    | zero=>injection h with h; subst h; exact hn.1
    | succ c=>exact ins_nodup hn.2.1 (c:=c) h
end
end Am
end Go.Proofs.YtadbcnekkceoaaaGreatDoor
namespace Go.Proofs.YtadbcnekkceoaaaGreatDoor
namespace Am
section
variable {d : Dt} {P : Program} {hx : Hx} {e : E} {N : Nat} {tmps0 : Array Value} {m0 : Mp} {q : Nat × Hf} {i : Nat}
theorem DtOk.entK (ok : DtOk d P hx e N) (hc : d.sys.can q i) {k : Kd} (hk : d.sys.K i = k) : ∃ c s,(i,(k,c)) ∈ tblF d.ss 0 ∧ d.ss[c]? = some s ∧ EntS s i k:=by
  obtain ⟨k',c,hent⟩:=ok.all i (by have:=hc.1; rwa [sys_size] at this)
  rw [ok.K_of hent] at hk
  subst hk
  obtain ⟨c',s,e1,e2,e3⟩:=tblF_mem.1 hent
  have : c = c':=by omega
  subst this
  exact ⟨c,s,hent,e2,e3⟩
theorem DtOk.pur (ok : DtOk d P hx e N) (hsl : ∀ t,VR m0 (d.R.slotV e t) (tmps0.getD t undef)) (hr : d.sys.rch q) (hc : d.sys.can q i) {o : Oper} (ho : d.sys.ops[i]? = some o) (hk : d.sys.K i = .pure) (hs : d.sys.skip i = false) : ∃ lk,d.sys.LkOk m0 tmps0 i lk ∧ pureF P o.op lk = some (d.sys.vals i):=by
  rw [sys_get] at ho
  obtain ⟨c,s,h1,h2,h3⟩:=ok.entK hc hk
  obtain ⟨v1,v2,⟨o',b,k1,k2,v,k3,k4,k5⟩,g2,g3⟩:=ok.stepOf (Nat.le_trans (ok.stage hr hc h1) hr.1) h2 h3
  rw [ho] at k1; injection k1 with k1; subst k1
  rw [skip_of ho k2 g2] at hs
  cases b with
  | false=>cases hs
  | true=>exact ⟨_,ok.lkOk hsl g2 i,by rw [vals_of k3 g3.vs]; exact k4 rfl⟩
theorem DtOk.al (ok : DtOk d P hx e N) (hsl : ∀ t,VR m0 (d.R.slotV e t) (tmps0.getD t undef)) (hr : d.sys.rch q) (hc : d.sys.can q i) {o : Oper} (ho : d.sys.ops[i]? = some o) (hk : d.sys.K i = .alloc) (hs : d.sys.skip i = false) : ∃ lk,d.sys.LkOk m0 tmps0 i lk ∧ allocF P o.op lk (d.sys.id i) = some (d.sys.vals i,d.sys.blk i):=by
  rw [sys_get] at ho
  obtain ⟨c,s,h1,h2,h3⟩:=ok.entK hc hk
  obtain ⟨v1,v2,⟨o',b,k1,k2,v,k3,k4,k5⟩,g2,g3⟩:=ok.stepOf (Nat.le_trans (ok.stage hr hc h1) hr.1) h2 h3
  rw [ho] at k1; injection k1 with k1; subst k1
  rw [skip_of ho k2 g2] at hs
  cases b with
  | false=>cases hs
  | true =>
    obtain ⟨x,k6,k7⟩:=k4 rfl
    refine ⟨_,ok.lkOk hsl g2 i,?_⟩
    have hb : d.sys.blk i = x:=by
      show (match vfind d.F.bs i with | some (some b)=>b | _=>.mp [] 0) = x
      rw [g3.bs _ _ k7]
    rw [vals_of k3 g3.vs,hb]
    exact k6
theorem hds_ne (ok : DtOk d P hx e N) {c : Nat} {g : Stage} (hg : d.ss[c]? = some g) (h : g.hd2 ≠ none) : g.hd ≠ none:=fun hn=>h ((ok.last c g hg).2 ((ok.last c g hg).1 hn)).2
theorem DtOk.rd (ok : DtOk d P hx e N) (hsl : ∀ t,VR m0 (d.R.slotV e t) (tmps0.getD t undef)) (hr : d.sys.rch q) (hc : d.sys.can q i) {o : Oper} (ho : d.sys.ops[i]? = some o) (hk : d.sys.K i = .read) (hs : d.sys.skip i = false) : ∃ lk,d.sys.LkOk m0 tmps0 i lk ∧ readF P o.op lk (d.sys.hp q) = some (d.sys.vals i):=by
  rw [sys_get] at ho
  obtain ⟨c,s,h1,h2,h3⟩:=ok.entK hc hk
  have hcq:=ok.stage hr hc h1
  obtain ⟨g,hg,_⟩:=ok.stg q.1 hr.1
  obtain ⟨r1,r2⟩:=ok.reads i c h1 q.1 g hg
  have nope : ¬ ∃ c' g' y,c' < q.1 ∧ d.ss[c']? = some g' ∧ y ∈ g'.hds ∧ d.R.pre y i = true:=fun ⟨c',g',y,a1,a2,a3,a4⟩=>hc.2.2.1 y (.inl ⟨c',g',a1,a2,a3⟩) a4
  have hz : q.2 = .z:=by
    rcases hr.2 with h | ⟨hlt,s',k1,k2⟩
    · exact h
    · rw [hg] at k1; injection k1 with k1; subst k1
      have hall : ∀ y,y ∈ g.hds → d.R.pre y i = true:=by
        rcases r2 with h | h | h | h
        · omega
        · exact absurd h k2
        · exact absurd h nope
        · exact h
      cases hq : q.2 with
      | z=>rfl
      | x =>
        exfalso
        cases hd : g.hd with
        | none=>exact hds_ne ok hg k2 hd
        | some x=>exact hc.2.2.1 x (.inr (by rw [hq]; exact ⟨g,hg,hd⟩)) (hall x (mem_hds.2 (.inl hd)))
      | y =>
        exfalso
        cases hd : g.hd2 with
        | none=>exact k2 hd
        | some y=>exact hc.2.2.1 y (.inr (by rw [hq]; exact ⟨g,hg,hd⟩)) (hall y (mem_hds.2 (.inr hd)))
  have hhp : d.sys.hp q = (d.qs q.1).h:=by
    show (match q.2 with | .z=>(d.qs q.1).h | .x=>d.hX q.1 | .y=>d.hY q.1) = _
    rw [hz]
  rw [hhp]
  have first : c = q.1 → ∃ lk,d.sys.LkOk m0 tmps0 i lk ∧ readF P o.op lk (d.qs q.1).h = some (d.sys.vals i):=fun e=>by
    subst e
    obtain ⟨v1,v2,⟨o',b,k1,k2,v,k3,k4,k5⟩,g2,g3⟩:=ok.stepOf hr.1 h2 h3
    rw [ho] at k1; injection k1 with k1; subst k1
    rw [skip_of ho k2 g2] at hs
    cases b with
    | false=>cases hs
    | true=>exact ⟨_,ok.lkOk hsl g2 i,by rw [vals_of k3 g3.vs]; exact k4 rfl⟩
  rcases r1 with h | h | h
  · exact first (by omega)
  · have hre : Stp.re i ∈ g.st:=by
      unfold Stage.res at h
      obtain ⟨t,t1,t2⟩:=List.mem_filterMap.1 h
      cases t <;> cases t2
      exact t1
    obtain ⟨v1,v2,⟨o',b,k1,k2,v,k3,k4⟩,g2,g3⟩:=ok.stepOf hr.1 hg hre
    rw [ho] at k1; injection k1 with k1; subst k1
    rw [skip_of ho k2 g2] at hs
    cases b with
    | false=>cases hs
    | true =>
      obtain ⟨u,k5,k6⟩:=k4 rfl
      exact ⟨_,ok.lkOk hsl g2 i,by rw [vals_of k3 g2,← AV.same_eq k6]; exact k5⟩
  · exact absurd h nope
theorem DtOk.fin (ok : DtOk d P hx e N) (hr : d.sys.rch q) (hall : ∀ x,x < d.sys.ops.size → (d.sys.K x).isHard → d.sys.done q x) : (∀ i,i ∈ d.sys.inlE q → i < d.sys.ops.size ∧ d.sys.K i = .alloc ∧ ¬ d.sys.laid q i) ∧ (d.sys.inlE q).Nodup ∧ d.sys.res = .ok (d.sys.insH (d.sys.inlE q) (d.sys.hp q)) (d.sys.fx q):=by
  obtain ⟨g,hg,_⟩:=ok.stg q.1 hr.1
  have hdone : ∀ y,y ∈ g.hds → d.half q.1 q.2 y:=fun y hy=>by
    have hen:=hard_ent hg hy
    obtain ⟨c',s',_,_,h3,h4⟩:=ok.dn (hall y (by rw [sys_size]; exact ok.lt _ hen) (by rw [ok.K_of hen]; exact trivial))
    have:=(ok.uniq hen h3).2
    subst this
    rcases h4 with h4 | h4
    · omega
    · exact h4.2
  have hhd : g.hd = none:=by
    cases h : g.hd with
    | none=>rfl
    | some x=>exact (ok.notall hr hg (by rw [h]; intro e; cases e) hdone).elim
  have hL : q.1 = d.L:=by
    have h1:=(ok.last _ _ hg).1 hhd
    obtain ⟨gL,hgL,_⟩:=ok.stg d.L (Nat.le_refl _)
    have:=(List.getElem?_eq_some_iff.1 hgL).1
    have:=hr.1
    omega
  have hz : q.2 = .z:=by
    rcases hr.2 with h | ⟨h,_⟩
    · exact h
    · omega
  have hres : d.res = .ok (d.h1 d.L) (d.qs d.L).f:=by
    rw [hL] at hg
    rcases ok.lastR g hg with ⟨_,h⟩ | ⟨x,_,_,_,h,_⟩
    · exact h
    · rw [hhd] at h; cases h
  have hin : d.sys.inlE q = g.ins:=insOf_eq hg
  rw [hin]
  refine ⟨fun i hi=>?_,ins_nodup ok.insN hg,?_⟩
  · obtain ⟨⟨s',h1,h2⟩,_⟩:=ok.ins q.1 g i hg hi
    refine ⟨by rw [sys_size]; exact ok.lt _ h1,ok.K_of h1,fun ⟨c,s,h3,h4,h5⟩=>?_⟩
    have:=(ins_uniq ok.insN h4 hg h5 hi).1
    subst this
    rcases h3 with h3 | ⟨_,h3⟩
    · omega
    · exact h3 hz
  · have h1:=ok.insH_at (Nat.le_refl d.L)
    have hhp : d.sys.hp q = (d.qs d.L).h:=by
      show (match q.2 with | .z=>(d.qs q.1).h | .x=>d.hX q.1 | .y=>d.hY q.1) = _
      rw [hz,hL]
    have hfx : d.sys.fx q = (d.qs d.L).f:=by show (d.qs q.1).f = _; rw [hL]
    rw [hhp,hfx,← insOf_eq hg,hL,h1]
    exact hres
end
end Am
end Go.Proofs.YtadbcnekkceoaaaGreatDoor
namespace Go.Proofs.YtadbcnekkceoaaaGreatDoor
namespace Am
section
variable {d : Dt} {P : Program} {hx : Hx} {e : E} {N : Nat} {tmps0 : Array Value} {m0 : Mp} {q : Nat × Hf} {i : Nat}
theorem upto_succ {c y : Nat} {s : Stage} (hs : d.ss[c]? = some s) : d.upto (c + 1) y ↔ d.upto c y ∨ y ∈ s.hds:=by
  constructor
  · rintro ⟨c',s',h1,h2,h3⟩
    rcases Nat.lt_or_ge c' c with h | h
    · exact .inl ⟨c',s',h,h2,h3⟩
    · have : c' = c:=by omega
      subst this
      rw [hs] at h2; injection h2 with h2; subst h2
      exact .inr h3
  · rintro (⟨c',s',h1,h2,h3⟩ | h)
    · exact ⟨c',s',by omega,h2,h3⟩
    · exact ⟨c,s,by omega,hs,h⟩
theorem laid_succ {c j : Nat} {s : Stage} (hs : d.ss[c]? = some s) : d.sys.laid (c + 1,.z) j ↔ d.sys.laid (c,.z) j ∨ j ∈ s.ins:=by
  constructor
  · rintro ⟨c',s',h1,h2,h3⟩
    rcases h1 with h1 | ⟨_,h1⟩
    · rcases Nat.lt_or_ge c' c with h | h
      · exact .inl ⟨c',s',.inl h,h2,h3⟩
      · have : c' = c:=by (have h1' : c' < c + 1:=h1); omega
        subst this
        rw [hs] at h2; injection h2 with h2; subst h2
        exact .inr h3
    · exact absurd rfl h1
  · rintro (⟨c',s',h1,h2,h3⟩ | h)
    · rcases h1 with h1 | ⟨_,h1⟩
      · exact ⟨c',s',.inl (by (have h1' : c' < c:=h1); show c' < c + 1; omega),h2,h3⟩
      · exact absurd rfl h1
    · exact ⟨c,s,.inl (by show c < c + 1; omega),hs,h⟩
theorem laid_half {c j : Nat} {r : Hf} (hr : r ≠ .z) {s : Stage} (hs : d.ss[c]? = some s) : d.sys.laid (c,r) j ↔ d.sys.laid (c,.z) j ∨ j ∈ s.ins:=by
  constructor
  · rintro ⟨c',s',h1,h2,h3⟩
    rcases h1 with h1 | ⟨h1,_⟩
    · exact .inl ⟨c',s',.inl h1,h2,h3⟩
    · have h1 : c' = c:=h1
      subst h1
      rw [hs] at h2; injection h2 with h2; subst h2
      exact .inr h3
  · rintro (⟨c',s',h1,h2,h3⟩ | h)
    · rcases h1 with h1 | ⟨_,h1⟩
      · exact ⟨c',s',.inl h1,h2,h3⟩
      · exact absurd rfl h1
    · exact ⟨c,s,.inr ⟨rfl,hr⟩,hs,h⟩
theorem laid_two {c j : Nat} {r : Hf} (hr : r ≠ .z) {s : Stage} (hs : d.ss[c]? = some s) : d.sys.laid (c + 1,.z) j ↔ d.sys.laid (c,r) j ∨ j ∈ ([] : List Nat):=by
  rw [laid_succ hs,laid_half hr hs]
  simp
def HdGoal (S : Sys (Nat × Hf)) (m0 : Mp) (tmps0 : Array Value) (hx : Hx) (q : Nat × Hf) (x : Nat) (o : Oper) : Prop :=
    (∀ i, i ∈ S.inl q x → i < S.ops.size ∧ S.K i = .alloc ∧ ¬ S.laid q i ∧ S.pre x i) ∧ (S.inl q x).Nodup ∧
    (∀ q', S.nxt q x = some q' → S.rch q' ∧ (∀ y, S.done q' y ↔ S.done q y ∨ y = x) ∧ (∀ i, S.laid q' i ↔ S.laid q i ∨ i ∈ S.inl q x) ∧
      (S.skip x = true → S.hp q' = S.insH (S.inl q x) (S.hp q) ∧ S.fx q' = S.fx q) ∧
      (S.skip x = false → ∃ lk h', S.LkOk m0 tmps0 x lk ∧ hx o lk (S.insH (S.inl q x) (S.hp q)) (S.id x) (S.fx q) = some (.val (S.vals x) h' (S.fx q')) ∧ SameH h' (S.hp q'))) ∧
    (S.nxt q x = none → S.skip x = false ∧ ∃ lk v h f, S.LkOk m0 tmps0 x lk ∧ hx o lk (S.insH (S.inl q x) (S.hp q)) (S.id x) (S.fx q) = some (.pan v h f) ∧ S.res = .pan v h f)
theorem hard_val (ok : DtOk d P hx e N) (hsl : ∀ t,VR m0 (d.R.slotV e t) (tmps0.getD t undef)) {x : Nat} {o : Oper} (ho : d.R.ops[x]? = some o) {vs : List (Nat × AV)} {h h2 : H} {f f2 : Fx} {v : AV} (hh : d.R.hard hx d.base e x vs h f = some (.val v h2 f2)) (he : Ext vs d.F.vs) (hv : vfind d.F.vs x = some v) :
    (d.sys.skip x = true → h2 = h ∧ f2 = f) ∧ (d.sys.skip x = false → ∃ lk,d.sys.LkOk m0 tmps0 x lk ∧ hx o lk h (d.sys.id x) f = some (.val (d.sys.vals x) h2 f2)):=by
  obtain ⟨_,o',b,k1,k2,k3,k4⟩:=hard_shows hh
  rw [ho] at k1; injection k1 with k1; subst k1
  rw [skip_of ho k2 he,vals_of hv (Ext.refl _)]
  cases b with
  | true=>exact ⟨fun h=>by (cases h),fun _=>⟨_,ok.lkOk hsl he x,k3 rfl⟩⟩
  | false =>
    refine ⟨fun _=>?_,fun h=>by cases h⟩
    have:=k4 rfl
    injection this with e1 e2 e3
    exact ⟨e2,e3⟩
theorem DtOk.insFacts (ok : DtOk d P hx e N) {c x : Nat} {s : Stage} (hs : d.ss[c]? = some s) (hx : x ∈ s.hds) : ∀ i,i ∈ s.ins → i < d.sys.ops.size ∧ d.sys.K i = .alloc ∧ ¬ d.sys.laid (c,.z) i ∧ d.sys.pre x i:=fun i hi=>by
  obtain ⟨⟨s',h1,h2⟩,h3⟩:=ok.ins c s i hs hi
  refine ⟨by rw [sys_size]; exact ok.lt _ h1,ok.K_of h1,fun ⟨c',s',h4,h5,h6⟩=>?_,h3 x hx⟩
  have:=(ins_uniq ok.insN h5 hs h6 hi).1
  subst this
  rcases h4 with h4 | ⟨_,h4⟩
  · exact Nat.lt_irrefl _ h4
  · exact h4 rfl
theorem inl_z {c x : Nat} {s : Stage} (hs : d.ss[c]? = some s) : d.sys.inl (c,.z) x = s.ins:=insOf_eq hs
theorem DtOk.hd (ok : DtOk d P hx e N) (hsl : ∀ t,VR m0 (d.R.slotV e t) (tmps0.getD t undef)) {q : Nat × Hf} {x : Nat} (hr : d.sys.rch q) (hc : d.sys.can q x) {o : Oper} (ho : d.sys.ops[x]? = some o) (hk : d.sys.K x = .hard) : HdGoal d.sys m0 tmps0 hx q x o:=by
  rw [sys_get] at ho
  obtain ⟨s,hs,hi,hent⟩:=ok.now hr hc (by rw [hk]; exact trivial)
  obtain ⟨c,r⟩:=q
  have hcL : c ≤ d.L:=hr.1
  have hs : d.ss[c]? = some s:=hs
  have hi':=mem_hds.1 hi
  have hnd : ∀ y,y ∈ s.hds → ¬ d.upto c y:=fun y hy ⟨c',s',h1,h2,h3⟩=>by
    have:=(ok.uniq (hard_ent hs hy) (hard_ent h2 h3)).2
    omega
  have hh1 : d.sys.insH s.ins (d.qs c).h = d.h1 c:=by have:=ok.insH_at hcL; rwa [insOf_eq hs] at this
  rcases Nat.lt_or_ge c d.L with hlt | hge
  · by_cases h2 : s.hd2 = none
    ·
      have hrz : r = .z:=by
        rcases hr.2 with h | ⟨_,s',k1,k2⟩
        · exact h
        · have k1 : d.ss[c]? = some s':=k1
          rw [hs] at k1; injection k1 with k1; subst k1; exact absurd h2 k2
      subst hrz
      obtain ⟨x',v,h2',f2,e1,e2,e3⟩:=ok.over1 c s hlt hs h2
      have hxx : x = x':=by
        rcases hi' with h | h
        · rw [e1] at h; injection h with h; exact h.symm
        · rw [h2] at h; cases h
      subst hxx
      have hv : vfind d.F.vs x = some v:=(ok.extQ (c:=c + 1) hlt).vs x v (by rw [e3]; exact vfind_head _ _ _)
      obtain ⟨g1,g2⟩:=hard_val ok hsl ho e2 (ok.extL hcL).vs hv
      have hn : d.sys.nxt (c,.z) x = some (c + 1,.z):=by
        show (match d.ss[c]? with | some s=>if s.hd = some x then (if c = d.L then none else if s.hd2 = none then some (c + 1,Hf.z) else some (c,.x)) else some (c,.y) | none=>none) = _
        rw [hs]
        dsimp only
        rw [if_pos e1,if_neg (by omega),if_pos h2]
      unfold HdGoal
      rw [hn,inl_z hs]
      refine ⟨ok.insFacts hs hi,ins_nodup ok.insN hs,fun q' hq=>?_,fun h=>by cases h⟩
      injection hq with hq; subst hq
      have hhp : d.sys.hp (c + 1,.z) = h2':=by show (d.qs (c + 1)).h = h2'; rw [e3]
      have hfx : d.sys.fx (c + 1,.z) = f2:=by show (d.qs (c + 1)).f = f2; rw [e3]
      refine ⟨⟨hlt,.inl rfl⟩,fun y=>?_,fun j=>laid_succ hs,fun h=>?_,fun h=>?_⟩
      · show d.upto (c + 1) y ∨ False ↔ (d.upto c y ∨ False) ∨ y = x
        rw [or_false,or_false,upto_succ hs,mem_hds,e1,h2]
        simp [eq_comm]
      · rw [hhp,hfx]
        show h2' = d.sys.insH s.ins (d.qs c).h ∧ f2 = (d.qs c).f
        rw [hh1]; exact g1 h
      · obtain ⟨lk,l1,l2⟩:=g2 h
        refine ⟨lk,h2',l1,?_,by rw [hhp]; exact SameH.refl _⟩
        rw [hfx]
        show hx o lk (d.sys.insH s.ins (d.qs c).h) _ (d.qs c).f = _
        rw [hh1]; exact l2
    ·
      obtain ⟨x1,y1,v,v',e1,e2,e3,e4,e5,e6,⟨oy,e7,gy,e8⟩,⟨ox,h',e9,gx,e10,e11⟩⟩:=ok.over2 c s hlt hs h2
      have hq:=(ok.extQ (c:=c + 1) hlt).vs
      rw [e6] at hq
      have hf2:=Ext.cons v' (hard_shows e5).1
      have hvy : vfind d.F.vs y1 = some v':=hq y1 v' (vfind_head _ _ _)
      have hvx : vfind d.F.vs x1 = some v:=hq x1 v (hf2 x1 v (vfind_head _ _ _))
      have hfx : (d.qs (c + 1)).f = (d.qs c).f:=by rw [e6]
      have hsx : d.sys.skip x1 = false:=skip_of (b:=true) (vs:=d.F.vs) e9 (by unfold Rg.want; rw [gx]) (Ext.refl _)
      have hsy : d.sys.skip y1 = false:=skip_of (b:=true) (vs:=d.F.vs) e7 (by unfold Rg.want; rw [gy]) (Ext.refl _)
      have hfxs : d.sys.fx (c + 1,.z) = (d.qs c).f:=hfx
      have hdy : ∀ y,y ∈ s.hds ↔ y = x1 ∨ y = y1:=fun y=>by rw [mem_hds,e1,e2]; simp [eq_comm]
      have hhx : ∀ y,(∃ s',d.ss[c]? = some s' ∧ s'.hd = some y) ↔ y = x1:=fun y=>⟨fun ⟨s',k1,k2⟩=>by
        rw [hs] at k1; injection k1 with k1; subst k1
        rw [e1] at k2; injection k2 with k2; exact k2.symm,fun h=>⟨s,hs,by rw [h]; exact e1⟩⟩
      have hhy : ∀ y,(∃ s',d.ss[c]? = some s' ∧ s'.hd2 = some y) ↔ y = y1:=fun y=>⟨fun ⟨s',k1,k2⟩=>by
        rw [hs] at k1; injection k1 with k1; subst k1
        rw [e2] at k2; injection k2 with k2; exact k2.symm,fun h=>⟨s,hs,by rw [h]; exact e2⟩⟩
      have hvals : ∀ {z : Nat} {u : AV},vfind d.F.vs z = some u → d.sys.vals z = u:=fun h=>vals_of h (Ext.refl _)
      have hnz : ∀ z,d.sys.nxt (c,.z) z = if s.hd = some z then some (c,.x) else some (c,.y):=fun z=>by
        show (match d.ss[c]? with | some s=>if s.hd = some z then (if c = d.L then none else if s.hd2 = none then some (c + 1,Hf.z) else some (c,.x)) else some (c,.y) | none=>none) = _
        rw [hs]
        dsimp only
        rw [if_neg (show ¬ c = d.L by omega),if_neg h2]
      cases r with
      | z =>
        rcases hi' with h | h
        · rw [e1] at h; injection h with h; subst h
          unfold HdGoal
          rw [hnz,if_pos e1,inl_z hs]
          refine ⟨ok.insFacts hs hi,ins_nodup ok.insN hs,fun q' hq'=>?_,fun h=>by cases h⟩
          injection hq' with hq'; subst hq'
          refine ⟨⟨hcL,.inr ⟨hlt,s,hs,h2⟩⟩,fun y=>?_,fun j=>laid_half (by intro e; cases e) hs,fun h=>by (rw [hsx] at h; cases h),fun h=>?_⟩
          · show d.upto c y ∨ (∃ s',d.ss[c]? = some s' ∧ s'.hd = some y) ↔ (d.upto c y ∨ False) ∨ y = x1
            rw [hhx,or_false]
          · obtain ⟨lk,l1,l2⟩:=(hard_val ok hsl ho e4 (ok.extL hcL).vs hvx).2 h
            refine ⟨lk,d.hX c,l1,?_,SameH.refl _⟩
            show hx o lk (d.sys.insH s.ins (d.qs c).h) _ (d.qs c).f = _
            rw [hh1]; exact l2
        · rw [e2] at h; injection h with h; subst h
          rw [ho] at e7; injection e7 with e7; subst e7
          unfold HdGoal
          rw [hnz,if_neg (by rw [e1]; intro e; injection e with e; exact e3 e),inl_z hs]
          refine ⟨ok.insFacts hs hi,ins_nodup ok.insN hs,fun q' hq'=>?_,fun h=>by cases h⟩
          injection hq' with hq'; subst hq'
          refine ⟨⟨hcL,.inr ⟨hlt,s,hs,h2⟩⟩,fun y=>?_,fun j=>laid_half (by intro e; cases e) hs,fun h=>by (rw [hsy] at h; cases h),fun h=>?_⟩
          · show d.upto c y ∨ (∃ s',d.ss[c]? = some s' ∧ s'.hd2 = some y) ↔ (d.upto c y ∨ False) ∨ y = y1
            rw [hhy,or_false]
          · refine ⟨_,d.hY c,ok.lkOk hsl (hf2.trans hq) y1,?_,SameH.refl _⟩
            show hx o _ (d.sys.insH s.ins (d.qs c).h) _ (d.qs c).f = _
            rw [hh1,hvals hvy]; exact e8
      | x =>
        rcases hi' with h | h
        · exact absurd (.inr ⟨s,hs,h⟩) hc.2.2.2
        · rw [e2] at h; injection h with h; subst h
          refine ⟨fun j hj=>by (cases hj),List.nodup_nil,fun q' hq'=>?_,fun h=>by cases h⟩
          injection hq' with hq'; subst hq'
          refine ⟨⟨hlt,.inl rfl⟩,fun y=>?_,fun j=>laid_two (by intro e; cases e) hs,fun h=>by (rw [hsy] at h; cases h),fun h=>?_⟩
          · show d.upto (c + 1) y ∨ False ↔ (d.upto c y ∨ (∃ s',d.ss[c]? = some s' ∧ s'.hd = some y)) ∨ y = y1
            rw [hhx,or_false,upto_succ hs,hdy,or_assoc]
          · obtain ⟨lk,l1,l2⟩:=(hard_val ok hsl ho e5 (hf2.trans hq) hvy).2 h
            refine ⟨lk,_,l1,?_,SameH.refl _⟩
            rw [hfxs]
            exact l2
      | y =>
        rcases hi' with h | h
        · rw [e1] at h; injection h with h; subst h
          rw [ho] at e9; injection e9 with e9; subst e9
          refine ⟨fun j hj=>by (cases hj),List.nodup_nil,fun q' hq'=>?_,fun h=>by cases h⟩
          injection hq' with hq'; subst hq'
          refine ⟨⟨hlt,.inl rfl⟩,fun y=>?_,fun j=>laid_two (by intro e; cases e) hs,fun h=>by (rw [hsx] at h; cases h),fun h=>?_⟩
          · show d.upto (c + 1) y ∨ False ↔ (d.upto c y ∨ (∃ s',d.ss[c]? = some s' ∧ s'.hd2 = some y)) ∨ y = x1
            rw [hhy,or_false,upto_succ hs,hdy,or_assoc,or_comm (a:=y = x1)]
          · refine ⟨_,h',ok.lkOk hsl (ok.extL hcL).vs x1,?_,e11⟩
            rw [hfxs,hvals hvx]
            exact e10
        · exact absurd (.inr ⟨s,hs,h⟩) hc.2.2.2
  ·
    have hcc : c = d.L:=Nat.le_antisymm hcL hge
    subst hcc
    have hrz : r = .z:=by
      rcases hr.2 with h | ⟨h,_⟩
      · exact h
      · exact absurd h (Nat.lt_irrefl _)
    subst hrz
    rcases ok.lastR s hs with ⟨h1,_⟩ | ⟨x',v,h,f,e1,e2,e3,e4⟩
    · have h2:=((ok.last _ _ hs).2 ((ok.last _ _ hs).1 h1)).2
      rcases hi' with h | h
      · rw [h1] at h; cases h
      · rw [h2] at h; cases h
    · have hxx : x = x':=by
        rcases hi' with h | h
        · rw [e1] at h; injection h with h; exact h.symm
        · rw [e2] at h; cases h
      subst hxx
      have hn : d.sys.nxt (d.L,.z) x = none:=by
        show (match d.ss[d.L]? with | some s=>if s.hd = some x then (if d.L = d.L then none else if s.hd2 = none then some (d.L + 1,Hf.z) else some (d.L,.x)) else some (d.L,.y) | none=>none) = _
        rw [hs]
        dsimp only
        rw [if_pos e1,if_pos rfl]
      unfold HdGoal
      rw [hn,inl_z hs]
      refine ⟨ok.insFacts hs hi,ins_nodup ok.insN hs,fun q' hq=>by (cases hq),fun _=>?_⟩
      obtain ⟨_,o',b,k1,k2,k3,k4⟩:=hard_shows e3
      rw [ho] at k1; injection k1 with k1; subst k1
      rw [skip_of ho k2 (Ext.refl _)]
      cases b with
      | false=>have:=k4 rfl; cases this
      | true =>
        refine ⟨rfl,_,v,h,f,ok.lkOk hsl (Ext.refl _) x,?_,e4⟩
        show hx o _ (d.sys.insH s.ins (d.qs d.L).h) _ (d.qs d.L).f = _
        rw [hh1]; exact k3 rfl
end
end Am
end Go.Proofs.YtadbcnekkceoaaaGreatDoor
namespace Go.Proofs.YtadbcnekkceoaaaGreatDoor
namespace Am
section
variable {d : Dt} {P : Program} {hx : Hx} {e : E} {N : Nat} {tmps0 : Array Value} {m0 : Mp} {h0 : H} {fn : Nat}
theorem newK_of {k : Kd} (h : k.isNew) : newK k = true:=by cases k <;> first | rfl | exact h.elim
theorem DtOk.ixlt (ok : DtOk d P hx e N) {i : Nat} (hi : i < d.sys.ops.size) (hn : (d.sys.K i).isNew) : d.R.ix i < d.R.nr:=by
  obtain ⟨k,c,h⟩:=ok.all i (by rwa [sys_size] at hi)
  rw [ok.K_of h] at hn
  have:=ok.ix
  unfold Rg.ixOk at this
  have h1:=List.all_eq_true.1 this _ h
  simp only [newK_of hn,Bool.not_true,Bool.false_or,Bool.and_eq_true] at h1
  exact blt_lt h1.1
theorem DtOk.ixinj (ok : DtOk d P hx e N) {i j : Nat} (hi : i < d.sys.ops.size) (hj : j < d.sys.ops.size) (hn : (d.sys.K i).isNew) (hm : (d.sys.K j).isNew) (he : d.R.ix i = d.R.ix j) : i = j:=by
  obtain ⟨k,c,h⟩:=ok.all i (by rwa [sys_size] at hi)
  obtain ⟨k',c',h'⟩:=ok.all j (by rwa [sys_size] at hj)
  rw [ok.K_of h] at hn
  rw [ok.K_of h'] at hm
  have:=ok.ix
  unfold Rg.ixOk at this
  have h1:=List.all_eq_true.1 this _ h
  simp only [newK_of hn,Bool.not_true,Bool.false_or,Bool.and_eq_true] at h1
  have h2:=List.all_eq_true.1 h1.2 _ h'
  simp only [newK_of hm,Bool.not_true,Bool.false_or,Bool.or_eq_true,Bool.not_eq_true'] at h2
  rcases h2 with h2 | h2
  · exact Nat.eq_of_beq_eq_true h2
  · rw [he,Nat.beq_refl] at h2; cases h2
theorem DtOk.sysOk (ok : DtOk d P hx e N) (hN : N ≤ tmps0.size) (hsl : ∀ t,VR m0 (d.R.slotV e t) (tmps0.getD t undef)) (hid : ∀ i,i < d.R.nr → (d.base.add i).nat < h0.next.nat) (hinj : ∀ i j,d.base.add i = d.base.add j → i = j) (hlow : ∀ i,d.base.nat ≤ (d.base.add i).nat) :
    SysOk d.sys P fn tmps0 m0 h0 d.base.nat hx:=by
  refine ⟨fun i j hi hp=>?_,fun i t hi hd=>?_,fun i j t hi hj h1 h2=>?_,fun q i _ hd=>?_,fun q i o hr hc ho=>ok.want hr hc ho,fun q i hr hc hs=>ok.skp hr hc hs,fun q i o hr hc ho hk hs=>ok.pur hsl hr hc ho hk hs,fun q i o hr hc ho hk hs=>ok.rd hsl hr hc ho hk hs,fun q i o hr hc ho hk hs=>ok.al hsl hr hc ho hk hs,fun q x o hr hc ho hk=>ok.hd hsl hr hc ho hk,fun q hr hall=>ok.fin hr hall,fun i hi hn=>⟨hlow _,hid _ (ok.ixlt hi hn)⟩,fun i j hi hj hn hm h=>ok.ixinj hi hj hn hm (hinj _ _ h)⟩
  · rw [sys_size] at hi
    have ho:=List.getElem?_eq_getElem hi
    show (match d.draw with | true=>Dep d.R.ops.toArray i j | false=>j < i) ∨ ∃ k,(match d.draw with | true=>Dep d.R.ops.toArray i k | false=>k < i) ∧ d.R.pre k j = true
    cases hd : d.draw with
    | true =>
      obtain ⟨x,h1,h2,h3⟩:=((ok.edge hd i _ ho).2 j hp)
      have hdep : Dep d.R.ops.toArray i x.on:=⟨_,x,by (simp),h1,h2,rfl⟩
      rcases h3 with h3 | h3
      · subst h3; exact .inl hdep
      · exact .inr ⟨x.on,hdep,h3⟩
    | false=>exact .inl (ok.plain hd i j hi hp)
  · rw [sys_size] at hi
    have ho:=List.getElem?_eq_getElem hi
    rw [sys_dst ho] at hd
    exact Nat.lt_of_lt_of_le (ok.dst _ _ _ ho hd).1 hN
  · rw [sys_size] at hi hj
    have ho:=List.getElem?_eq_getElem hi
    have ho':=List.getElem?_eq_getElem hj
    rw [sys_dst ho] at h1
    rw [sys_dst ho'] at h2
    have a:=(ok.dst _ _ _ ho h1).2
    rw [(ok.dst _ _ _ ho' h2).2] at a
    injection a with a
    exact a.symm
  · obtain ⟨c,s,_,_,h,_⟩:=ok.dn hd
    exact ⟨by rw [sys_size]; exact ok.lt _ h,by rw [ok.K_of h]; exact trivial⟩
theorem DtOk.inv0 {tb : Tb} {NN : Nat → Nat} {b : Frame} {w0 : World} {cs0 cs : List Frame} {act : Act} {q0 : RSt} (ok : DtOk d P hx e N) (hq : d.qs 0 = q0) (hr : HR tb NN m0 q0.h w0) (hfree : ∀ i,i < d.R.nr → m0 (d.base.add i) = none) (hcs : CsR m0 b cs0 q0.f.pn cs) (hdf : DfRs m0 q0.f.dfs act.defers) :
    Inv d.sys tb NN b act.tmps m0 q0.h w0 d.base.nat cs0 [] (0,.z) m0 w0 act cs:=by
  have hhp : d.sys.hp (0,.z) = q0.h:=by show (d.qs 0).h = _; rw [hq]
  have hfx : d.sys.fx (0,.z) = q0.f:=by show (d.qs 0).f = _; rw [hq]
  refine ⟨fun i hi=>by (cases hi),fun i hi=>by (cases hi),⟨Nat.zero_le _,.inl rfl⟩,fun y _ _=>⟨fun h=>?_,fun h=>by (cases h)⟩,by (rw [hhp]; exact hr),fun i t hi=>by (cases hi),fun t _=>rfl,rfl,fun i hi=>by (cases hi),fun i j hi=>by (cases hi),fun i hi hn _=>hfree _ (ok.ixlt hi hn),by (rw [hhp]; exact Go.refl _ _ _ _),fun i h=>?_,by (rw [hfx]; exact hcs),by (rw [hfx]; exact hdf)⟩
  · rcases h with ⟨c,s,h1,_⟩ | h
    · exact absurd h1 (Nat.not_lt_zero _)
    · exact h.elim
  · obtain ⟨c,s,h1,_⟩:=h
    rcases h1 with h1 | ⟨_,h1⟩
    · exact absurd h1 (Nat.not_lt_zero _)
    · exact absurd rfl h1
end
end Am
end Go.Proofs.YtadbcnekkceoaaaGreatDoor
namespace Go.Proofs.YtadbcnekkceoaaaGreatDoor
namespace Am
def HxStore (P : Program) (hx : Hx) : Prop:=∀ (o : Oper) (t : TypeId) (p x : Operand),o.op = .store t p x → ∀ lk h a f,hx o lk h a f = match hardF P o.op lk h a with | some (v,h')=>some (.val v h' f) | none=>none
section
variable {R : Rg} {P : Program} {hx : Hx} {base : Pos} {e : E}
theorem aim_inv {x : Nat} {vs : List (Nat × AV)} {a : Pos} (h : R.aim e x vs = some a) : ∃ o t p u k,R.ops[x]? = some o ∧ o.op = .store t p u ∧ o.guard = none ∧ R.lk e vs x p = .ptr a k:=by
  unfold Rg.aim at h
  split at h <;> try (cases h; done)
  next o ho =>
  split at h <;> try (cases h; done)
  next t p u hop hg =>
  split at h <;> try (cases h; done)
  next b k hk =>
  injection h with h; subst h
  exact ⟨o,t,p,u,k,ho,hop,hg,hk⟩
theorem hard_store (hs : HxStore P hx) {x : Nat} {vs : List (Nat × AV)} {h h' : H} {f f' : Fx} {v : AV} {o : Oper} {t : TypeId} {p u : Operand} (ho : R.ops[x]? = some o) (hop : o.op = .store t p u) (hg : o.guard = none) (hh : R.hard hx base e x vs h f = some (.val v h' f')) :
    f' = f ∧ hardF P (.store t p u) (R.lk e vs x) h (base.add (R.ix x)) = some (v,h'):=by
  obtain ⟨_,o',b,k1,k2,k3,k4⟩:=hard_shows hh
  rw [ho] at k1; injection k1 with k1; subst k1
  have hw : R.want vs x o = some true:=by unfold Rg.want; rw [hg]
  rw [hw] at k2; injection k2 with k2; subst k2
  have:=k3 rfl
  rw [hs o t p u hop,hop] at this
  split at this
  · next v1 h1 hf =>
    injection this with this; injection this with e1 e2 e3
    subst e1 e2 e3
    exact ⟨rfl,hf⟩
  · cases this
theorem pair_ok (hs : HxStore P hx) {x y : Nat} {vs : List (Nat × AV)} {h1 h2 h3 : H} {f f2 f3 : Fx} {v v' : AV} {a a' : Pos} (h : R.hard hx base e x vs h1 f = some (.val v h2 f2)) (ha : R.aim e x vs = some a) (ha' : R.aim e y ((x,v) :: vs) = some a') (hne : a ≠ a') (h' : R.hard hx base e y ((x,v) :: vs) h2 f2 = some (.val v' h3 f3)) :
    f2 = f ∧ f3 = f ∧ ∃ g,(∃ o,R.ops[y]? = some o ∧ o.guard = none ∧ hx o (R.lk e ((x,v) :: vs) y) h1 (base.add (R.ix y)) f = some (.val v' g f)) ∧
      ∃ o g',R.ops[x]? = some o ∧ o.guard = none ∧ hx o (R.lk e vs x) g (base.add (R.ix x)) f = some (.val v g' f) ∧ SameH g' h3:=by
  obtain ⟨o,t,p,u,k,ho,hop,hg,hk⟩:=aim_inv ha
  obtain ⟨o',t',p',u',k',ho',hop',hg',hk'⟩:=aim_inv ha'
  obtain ⟨q1,q2⟩:=hard_store hs ho hop hg h
  subst q1
  obtain ⟨q3,q4⟩:=hard_store hs ho' hop' hg' h'
  subst q3
  obtain ⟨b,ob,cs,r1,r2,r3,r4⟩:=hardF_store q2
  obtain ⟨b',ob',cs',s1,s2,s3,s4⟩:=hardF_store q4
  rw [hk] at r1; injection r1 with r1 _; subst r1
  rw [hk'] at s1; injection s1 with s1 _; subst s1
  obtain ⟨g2,z1,g3,z2,z3⟩:=store_comm r3 s3 hne
  refine ⟨rfl,rfl,g2,⟨o',ho',hg',?_⟩,o,g3,ho,hg,?_,z3⟩
  · rw [hs o' t' p' u' hop',hop',s4 _ _ z1,s2]
  · rw [hs o t p u hop,hop,r4 _ _ z2,r2]
end
end Am
end Go.Proofs.YtadbcnekkceoaaaGreatDoor
namespace Go.Proofs.YtadbcnekkceoaaaGreatDoor
namespace Am
def ROut.res : ROut → RRes | .ok _ h f=>.ok h f | .pan _ v h f=>.pan v h f
def ROut.vs : ROut → List (Nat × AV) | .ok vs _ _=>vs | .pan vs _ _ _=>vs
section
variable {R : Rg} {P : Program} {hx : Hx} {base : Pos} {e : E} {N : Nat} {draw : Bool} {ss : List Stage}
theorem run_dt (hs : HxStore P hx) (hc : R.chk N draw ss = true) {q : RSt} {out : ROut} (hrun : R.run P hx base e ss q = some out) :
    ∃ d : Dt,d.R = R ∧ d.ss = ss ∧ d.draw = draw ∧ d.base = base ∧ d.qs 0 = q ∧ d.res = out.res ∧ d.F.vs = out.vs ∧ DtOk d P hx e N:=by
  obtain ⟨L,qs,vb,h1,i1,i2,i3,i4⟩:=run_trace ss q out hrun
  have pk : ∀ c,∃ XY : H × H,∀ s,c < L → ss[c]? = some s → s.hd2 ≠ none → ∃ x y v v',s.hd = some x ∧ s.hd2 = some y ∧ x ≠ y ∧ R.hard hx base e x (vb c).vs (h1 c) (qs c).f = some (.val v XY.1 (qs c).f) ∧
      R.hard hx base e y ((x,v) :: (vb c).vs) XY.1 (qs c).f = some (.val v' (qs (c + 1)).h (qs c).f) ∧ qs (c + 1) = ⟨⟨(y,v') :: (x,v) :: (vb c).vs,(vb c).bs⟩,(qs (c + 1)).h,(qs c).f⟩ ∧
      (∃ o,R.ops[y]? = some o ∧ o.guard = none ∧ hx o (R.lk e ((x,v) :: (vb c).vs) y) (h1 c) (base.add (R.ix y)) (qs c).f = some (.val v' XY.2 (qs c).f)) ∧
      (∃ o h',R.ops[x]? = some o ∧ o.guard = none ∧ hx o (R.lk e (vb c).vs x) XY.2 (base.add (R.ix x)) (qs c).f = some (.val v h' (qs c).f) ∧ SameH h' (qs (c + 1)).h):=fun c=>by
    by_cases hx : ∃ s,c < L ∧ ss[c]? = some s ∧ s.hd2 ≠ none
    · obtain ⟨s,hcL,hs1,hs2⟩:=hx
      obtain ⟨x,v,h2,f2,e1,e2,e3⟩:=i3 c s hcL hs1
      rcases e3 with ⟨e3,_⟩ | ⟨y,a,a',v',h3,f3,e3,e4,e5,e6,e7,e8,e9⟩
      · exact absurd e3 hs2
      · obtain ⟨g1,g2,g,g3,g4⟩:=pair_ok hs e2 e5 e6 e7 e8
        subst g1 g2
        refine ⟨(h2,g),fun s' _ hs1' _=>?_⟩
        rw [hs1] at hs1'; injection hs1' with hs1'; subst hs1'
        have e10 : (qs (c + 1)).h = h3:=by rw [e9]
        rw [e10]
        exact ⟨x,y,v,v',e1,e3,e4,e2,e8,e9,g3,g4⟩
    · exact ⟨(h1 c,h1 c),fun s a1 a2 a3=>absurd ⟨s,a1,a2,a3⟩ hx⟩
  obtain ⟨XY,hXY⟩:=Classical.axiomOfChoice pk
  simp only [Rg.chk,Bool.and_eq_true,List.all_eq_true] at hc
  obtain ⟨⟨⟨⟨⟨⟨⟨⟨⟨⟨⟨c1,c2⟩,c3⟩,c4⟩,c5⟩,c6⟩,c7⟩,c8⟩,c9⟩,c10⟩,c11⟩,c12⟩:=hc
  have nod:=keysOk_nodup c4
  have hlt : ∀ x,x ∈ tblF ss 0 → x.1 < R.ops.length:=fun x hx=>blt_lt (c6 x hx)
  obtain ⟨sL,hL1,hL2,hL3⟩:=i2 L (Nat.le_refl _)
  refine ⟨⟨R,ss,draw,L,qs,vb,h1,fun c=>(XY c).1,fun c=>(XY c).2,base,out.res⟩,rfl,rfl,rfl,rfl,i1,rfl,?_,⟨fun i o t ho ht=>?_,fun hd i o ho=>?_,fun hd i j hi hp=>?_,lastOk_at c3,nod,hlt,fun i hi=>?_,fun i k c hm=>?_,fun i s hm c g hg=>?_,c12,keysOk_nodup c9,fun c g i hg hi=>?_,i2,fun c s hcL hs1 h2=>?_,fun c s hcL hs1 h2=>hXY c s hcL hs1 h2,fun s hs1=>?_⟩⟩
  · show (vb L).vs = out.vs
    rcases i4 sL hL1 with ⟨_,h⟩ | ⟨_,_,_,_,_,_,_,h⟩ <;> rw [h] <;> rfl
  · have:=dstOk_at c1 i o t ho ht
    rwa [Nat.zero_add] at this
  · have hd : draw = true:=hd
    rw [hd,cond_true] at c2
    have:=edgesOk_at c2 i o ho
    rwa [Nat.zero_add] at this
  · have hd : draw = false:=hd
    rw [hd,cond_false] at c2
    exact plainOk_pre c2 i j hi hp
  · have hm:=all_of_len nod (fun j hj=>by
      obtain ⟨x,hx,he⟩:=List.mem_map.1 hj
      rw [← he]; exact hlt x hx) (by rw [List.length_map]; exact Nat.eq_of_beq_eq_true c5) i hi
    obtain ⟨⟨j,k,c⟩,hx,he⟩:=List.mem_map.1 hm
    have he : j = i:=he
    subst he
    exact ⟨k,c,hx⟩
  · have:=c7 _ hm
    dsimp only at this
    split at this
    · next g hg=>exact ⟨g,hg,fun y hy=>(List.all_eq_true.1 this) y hy⟩
    · cases this
  · have:=readOk_at (c8 _ hm) c g hg
    rw [Nat.zero_add] at this
    refine ⟨?_,?_⟩
    · rcases this.1 with h | h | ⟨y,h,_⟩ | h
      · exact .inl h
      · exact .inr (.inl h)
      · cases h
      · exact .inr (.inr h)
    · rcases this.2 with h | h | (⟨y,h,_⟩ | h) | h
      · exact .inl h
      · exact .inr (.inl h)
      · cases h
      · exact .inr (.inr (.inl h))
      · exact .inr (.inr (.inr h))
  · obtain ⟨⟨s,a1,a2⟩,a3⟩:=insOk_at c10 c g i hg hi
    exact ⟨⟨s,vfind_mem a1,by omega⟩,a3⟩
  · obtain ⟨x,v,h2',f2,e1,e2,e3⟩:=i3 c s hcL hs1
    rcases e3 with ⟨_,e3⟩ | ⟨y,_,_,_,_,_,e3,_⟩
    · exact ⟨x,v,h2',f2,e1,e2,e3⟩
    · rw [h2] at e3; cases e3
  · rcases i4 s hs1 with ⟨a1,a2⟩ | ⟨x,v,h,f,a1,a2,a3,a4⟩
    · exact .inl ⟨a1,by rw [a2]; rfl⟩
    · exact .inr ⟨x,v,h,f,a1,a2,a3,by rw [a4]; rfl⟩
end
end Am
end Go.Proofs.YtadbcnekkceoaaaGreatDoor
namespace Go.Proofs.YtadbcnekkceoaaaGreatDoor
namespace Am
def Rg.outE (R : Rg) (val : Nat → AV) : List Oper → Nat → E → E
  | [],_,e=>e
  | o :: l,i,e=>match o.dst with
    | some d=>(match R.slot d with
      | some s=>Rg.outE R val l (Nat.succ i) (E.set s (val i) e)
      | none=>Rg.outE R val l (Nat.succ i) e)
    | none=>Rg.outE R val l (Nat.succ i) e
theorem outE_get {R : Rg} {val : Nat → AV} (hinj : ∀ t t' s,R.slot t = some s → R.slot t' = some s → t = t') (hlt : ∀ t s,R.slot t = some s → s < 64) : ∀ (l : List Oper) (b : Nat) (e : E) (t s : Nat),R.slot t = some s →
    (∃ (i : Nat) (o : Oper),l[i]? = some o ∧ o.dst = some t ∧ E.get s (R.outE val l b e) = val (b + i)) ∨ ((∀ (i : Nat) (o : Oper),l[i]? = some o → o.dst ≠ some t) ∧ E.get s (R.outE val l b e) = E.get s e)
  | [],b,e,t,s,_=>.inr ⟨fun i o h=>by (cases i <;> cases h),rfl⟩
  | x :: l,b,e,t,s,hs=>by
    have up : ∀ e' : E,(E.get s e' = E.get s e ∧ x.dst ≠ some t) ∨ (x.dst = some t ∧ E.get s e' = val b) → R.outE val (x :: l) b e = R.outE val l b.succ e' →
        (∃ (i : Nat) (o : Oper),(x :: l)[i]? = some o ∧ o.dst = some t ∧ E.get s (R.outE val (x :: l) b e) = val (b + i)) ∨ ((∀ (i : Nat) (o : Oper),(x :: l)[i]? = some o → o.dst ≠ some t) ∧ E.get s (R.outE val (x :: l) b e) = E.get s e):=fun e' he heq=>by
      rw [heq]
      rcases outE_get hinj hlt l b.succ e' t s hs with ⟨i,o,h1,h2,h3⟩ | ⟨h1,h2⟩
      · exact .inl ⟨i + 1,o,h1,h2,by rw [h3,Nat.succ_add_eq_add_succ]⟩
      · rcases he with ⟨h3,h4⟩ | ⟨h3,h4⟩
        · refine .inr ⟨fun i o ho=>?_,h2.trans h3⟩
          cases i with
          | zero=>injection ho with ho; subst ho; exact h4
          | succ i=>exact h1 i o ho
        · exact .inl ⟨0,x,rfl,h3,h2.trans h4⟩
    cases hd : x.dst with
    | none=>exact up e (.inl ⟨rfl,by rw [hd]; intro h; cases h⟩) (by rw [Rg.outE,hd])
    | some d =>
      cases hsd : R.slot d with
      | none =>
        refine up e (.inl ⟨rfl,fun h=>?_⟩) (by rw [Rg.outE,hd]; dsimp only; rw [hsd])
        rw [hd] at h; injection h with h; subst h; rw [hs] at hsd; cases hsd
      | some s' =>
        refine up (E.set s' (val b) e) ?_ (by rw [Rg.outE,hd]; dsimp only; rw [hsd])
        rw [E.get_set _ _ (hlt _ _ hsd) (hlt _ _ hs)]
        by_cases hss : s = s'
        · subst hss
          have:=hinj _ _ _ hs hsd
          subst this
          exact .inr ⟨hd,if_pos rfl⟩
        · refine .inl ⟨if_neg hss,fun h=>?_⟩
          rw [hd] at h; injection h with h; subst h; rw [hs] at hsd; injection hsd with hsd; exact hss hsd
section
variable {P : Program} {tb : Tb} {NN : Nat → Nat} {b : Frame} {hx : Hx} {R : Rg} {ss : List Stage} {draw : Bool} {N id : Nat}
def CGoal (P : Program) (tb : Tb) (NN : Nat → Nat) (b : Frame) (R : Rg) (m : Mp) (h : H) (w : World) (B : Nat) (e : E) (act : Act) (cs0 : List Frame) (k : List Item) (M : Machine) : ROut → Prop
  | .ok vs h' f => ∃ m' w' act' cs', Steps P M (lone (b.atR act' k) cs' w') ∧ HR tb NN m' h' w' ∧ Go B m h w m' h' w' ∧ CsR m' b cs0 f.pn cs' ∧ DfRs m' f.dfs act'.defers ∧ act'.tmps.size = act.tmps.size ∧
      ER tb m' b.fn (R.outE (fun i => match vfind vs i with | some v => v | none => .junk) R.ops 0 e) act'.tmps
  | .pan _ v h' f => ∃ m' w' u act' cs' k', Steps P M (lone { b.atR act' k' with mode := .panicking [{ v := u, recovered := false }] } cs' w') ∧ VR m' v u ∧ HR tb NN m' h' w' ∧ Go B m h w m' h' w' ∧ CsR m' b cs0 f.pn cs' ∧ DfRs m' f.dfs act'.defers ∧ act'.tmps.size = act.tmps.size ∧
      ER tb m' b.fn (R.outE (fun _ => .junk) R.ops 0 e) act'.tmps
theorem region_ok (hmix : P.follows .mixedOrders = true) (hs : HxStore P hx) (hok : HxOk P tb NN b hx) (hslot : R.slot = tb.slot b.fn) (hc : R.chk N draw ss = true) {h : H} {f : Fx} {e : E} {out : ROut}
    (hrun : R.run P hx h.next e ss ⟨⟨[],[]⟩,h.res R.nr,f⟩ = some out) {m : Mp} {w : World} {act : Act} {cs0 cs : List Frame} {k : List Item} (hr : HR tb NN m h w) (he : ER tb m b.fn e act.tmps) (hN : N ≤ act.tmps.size) (hcs : CsR m b cs0 f.pn cs) (hdf : DfRs m f.dfs act.defers) {B : Nat} (hB : B ≤ h.next.nat) :
    CGoal P tb NN b R m h w B e act cs0 k (lone (b.atR act (.code (.region id R.ops.toArray draw) :: k)) cs w) out:=by
  obtain ⟨d,d1,d2,d3,d4,d5,d6,d7,ok⟩:=run_dt hs hc hrun
  have hsl : ∀ t,VR m (d.R.slotV e t) (act.tmps.getD t undef):=fun t=>by
    unfold Rg.slotV
    rw [d1,hslot]
    cases hh : tb.slot b.fn t with
    | none=>exact .junk _
    | some s=>exact he t s hh
  have hnat : ∀ i,(d.base.add i).nat = h.next.nat + i:=fun i=>by rw [d4]; exact Pos.nat_add _ _
  have hres : (h.res R.nr).next.nat = h.next.nat + R.nr:=Pos.nat_add _ _
  have hinj : ∀ t t' s,R.slot t = some s → R.slot t' = some s → t = t':=fun t t' s a1 a2=>by
    rw [hslot] at a1 a2
    exact slotF_inj (Tb.slot_lt a1).2 (Tb.slot_lt a2).2
  have hlt : ∀ t s,R.slot t = some s → s < 64:=fun t s a=>by rw [hslot] at a; exact (Tb.slot_lt a).1
  have main : ∀ (w0 : World) (rest : List Nat),HR tb NN m (h.res R.nr) w0 → Go B m h w m (h.res R.nr) w0 → Sch d.sys.ops.size d.sys.dep [] rest →
      CGoal P tb NN b R m h w B e act cs0 k (lone (b.atR act (.inRegion R.ops.toArray rest :: k)) cs w0) out:=fun w0 rest r0 g0 hsch=>by
    have hops : d.sys.ops = R.ops.toArray:=by show d.R.ops.toArray = _; rw [d1]
    have sok:=ok.sysOk (fn:=b.fn) (tmps0:=act.tmps) (m0:=m) (h0:=h.res R.nr) hN hsl (fun i hi=>by rw [hnat,hres]; rw [d1] at hi; omega) (fun i j hij=>by
      have:=congrArg Pos.nat hij
      rw [hnat,hnat] at this
      omega) (fun i=>by rw [hnat,d4]; omega)
    have iv:=ok.inv0 (tb:=tb) (NN:=NN) (b:=b) (w0:=w0) (cs0:=cs0) (cs:=cs) (act:=act) (m0:=m) d5 r0 (fun i hi=>hr.fresh _ (by rw [hnat]; omega)) hcs hdf
    have goal:=sys_ok (k:=k) sok hok rest [] (0,.z) m w0 act cs hsch iv
    rw [hops] at goal
    have hB' : B ≤ d.base.nat:=by rw [d4]; exact hB
    have hsz : d.sys.ops.size = R.ops.length:=by rw [hops]; simp
    have hres' : d.sys.res = out.res:=d6
    rw [hres'] at goal
    cases out with
    | ok vs h' f' =>
      obtain ⟨m',w',act',cs',g1,g2,g3,g4,g5,g6,g7,g8⟩:=goal
      refine ⟨m',w',act',cs',g1,g2,g0.trans (g3.low hB'),g4,g5,g6,fun t s hts=>?_⟩
      have hts' : R.slot t = some s:=by rw [hslot]; exact hts
      rcases outE_get (R:=R) (val:=fun i=>match vfind vs i with | some v=>v | none=>.junk) hinj hlt R.ops 0 e t s hts' with ⟨i,o,a1,a2,a3⟩ | ⟨a1,a2⟩
      · rw [a3,Nat.zero_add]
        have hi : i < d.sys.ops.size:=by rw [hsz]; exact (List.getElem?_eq_some_iff.1 a1).1
        have:=g7 i t hi (by rw [← a2]; exact sys_dst (by rw [d1]; exact a1))
        have hv : d.sys.vals i = match vfind vs i with | some v=>v | none=>.junk:=by
          show (match vfind d.F.vs i with | some v=>v | none=>.junk) = _
          rw [d7]; rfl
        rw [hv] at this
        exact this
      · rw [a2,g8 t fun i hi hd=>?_]
        · exact (he t s hts).mono (Mp.le_trans g0.le g3.le)
        · rw [hsz] at hi
          have ho:=List.getElem?_eq_getElem hi
          exact a1 i _ ho ((sys_dst (by rw [d1]; exact ho)).symm.trans hd)
    | pan vs v h' f' =>
      obtain ⟨m',w',u,act',cs',k',g1,g2,g3,g4,g5,g6,g7,g8⟩:=goal
      refine ⟨m',w',u,act',cs',k',g1,g2,g3,g0.trans (g4.low hB'),g5,g6,g7,fun t s hts=>?_⟩
      have hts' : R.slot t = some s:=by rw [hslot]; exact hts
      rcases outE_get (R:=R) (val:=fun _=>.junk) hinj hlt R.ops 0 e t s hts' with ⟨i,o,a1,a2,a3⟩ | ⟨a1,a2⟩
      · rw [a3]; exact .junk _
      · rw [a2,g8 t fun i hi hd=>?_]
        · exact (he t s hts).mono (Mp.le_trans g0.le g4.le)
        · rw [hsz] at hi
          have ho:=List.getElem?_eq_getElem hi
          exact a1 i _ ho ((sys_dst (by rw [d1]; exact ho)).symm.trans hd)
  obtain ⟨r1,r2⟩:=hr.res R.nr B
  have lift : ∀ {M M' : Machine},step P M = .next M' → CGoal P tb NN b R m h w B e act cs0 k M' out → CGoal P tb NN b R m h w B e act cs0 k M out:=fun hst hg=>by
    cases out with
    | ok vs h' f'=>obtain ⟨m',w',act',cs',g1,g⟩:=hg; exact ⟨m',w',act',cs',.head hst g1,g⟩
    | pan vs v h' f'=>obtain ⟨m',w',u,act',cs',k',g1,g⟩:=hg; exact ⟨m',w',u,act',cs',k',.head hst g1,g⟩
  have hsize : d.sys.ops.size = R.ops.length:=by rw [sys_size,d1]
  cases hd : draw with
  | false =>
    refine lift stepR_region (main w _ r1 r2 ?_)
    have : R.ops.toArray.size = R.ops.length:=by simp
    rw [this,hsize]
    have hdep : d.sys.dep = fun i j=>j < i:=by
      show (fun i j=>match d.draw with | true=>Dep d.R.ops.toArray i j | false=>j < i) = _
      rw [d3,hd]
    rw [hdep]
    exact sch_range _
  | true =>
    refine lift stepR_region_draw (main _ _ (r1.congr rfl) ⟨r2.le,r2.keep,r2.img,r2.imgA,r2.new,r2.next,r2.size,r2.os,r2.tape,r2.output⟩ ?_)
    rw [hmix]
    have hdep : d.sys.dep = Dep R.ops.toArray:=by
      show (fun i j=>match d.draw with | true=>Dep d.R.ops.toArray i j | false=>j < i) = _
      rw [d3,hd,d1]
    rw [hdep]
    have hsz : d.sys.ops.size = R.ops.toArray.size:=by rw [hsize]; simp
    rw [hsz]
    refine sch_drawn (fun i j ⟨o,x,a1,a2,a3,a4⟩=>?_) _
    have ho : d.R.ops[i]? = some o:=by rw [d1]; simpa using a1
    subst a4
    exact (ok.edge (by rw [d3,hd]) i o ho).1 x a2 a3
end
end Am
end Go.Proofs.YtadbcnekkceoaaaGreatDoor
namespace Go.Proofs.YtadbcnekkceoaaaGreatDoor
namespace Am
section
variable {P : Program} {tb : Tb} {N : Nat → Nat} {b : Frame}
theorem hardF_defer {op : Op} {lk : Operand → AV} {h : H} {a : Pos} {r : AV × H} (hv : hardF P op lk h a = some r) : ∀ c,op ≠ .defer c:=fun c e=>by subst e; cases hv
theorem row_goal {o : Oper} {lk : Operand → AV} {h h' : H} {a : Pos} {f : Fx} {v : AV} (hv : hardF P o.op lk h a = some (v,h')) {m : Mp} {w : World} {act : Act} {k : List Item} {cs0 cs : List Frame} {ops : Array Oper} {i : Nat} {rest : List Nat} {B : Nat}
    (hr : HR tb N m h w) (hl : ∀ x,VR m (lk x) (act.eval x)) (ha : m a = none) (hn : a.nat < h.next.nat) (hB : B ≤ a.nat) (hcs : CsR m b cs0 f.pn cs) (hdf : DfRs m f.dfs act.defers) (ho : ops[i]? = some o) (hw : Region.wanted o (yielded ops act.tmps) = true) :
    HxGoal P tb N m h w b act k cs0 cs ops i o rest a B (.val v h' f):=by
  obtain ⟨m',w',h1,h2,h3,h4⟩:=hard_ok (P:=P) hr hv hl ha hn hB
  rcases h1 with ⟨u,h1,hu⟩ | ⟨h1,hv0⟩
  · exact ⟨m',w',u,act.defers,cs,.one (at_value ho hw (hardF_defer hv) h1),hu,h2,h3,hcs.mono h3.le,hdf.mono h3.le,fun c hc _ hm=>by rw [h4 c hc]; exact hm⟩
  · subst hv0
    exact ⟨m',w',undef,act.defers,cs,.one (at_skip ho hw (hardF_defer hv) h1),.junk _,h2,h3,hcs.mono h3.le,hdf.mono h3.le,fun c hc _ hm=>by rw [h4 c hc]; exact hm⟩
end
end Am
end Go.Proofs.YtadbcnekkceoaaaGreatDoor
namespace Go.Proofs.YtadbcnekkceoaaaGreatDoor
namespace Am
section
variable {P : Program} {tb : Tb} {N : Nat → Nat} {b : Frame}
theorem panic_goal {o : Oper} {x : Operand} (hop : o.op = .panic x) {lk : Operand → AV} {h : H} {a : Pos} {f : Fx} {t : Nat} {v : AV} (hx : lk x = .ifc t v) {m : Mp} {w : World} {act : Act} {k : List Item} {cs0 cs : List Frame} {ops : Array Oper} {i : Nat} {rest : List Nat} {B : Nat}
    (hr : HR tb N m h w) (hl : ∀ x,VR m (lk x) (act.eval x)) (hcs : CsR m b cs0 f.pn cs) (hdf : DfRs m f.dfs act.defers) (ho : ops[i]? = some o) (hw : Region.wanted o (yielded ops act.tmps) = true) :
    HxGoal P tb N m h w b act k cs0 cs ops i o rest a B (.pan (.ifc t v) h f):=by
  have hv:=hl x
  rw [hx] at hv
  refine ⟨m,w,act.eval x,act.defers,cs,_,.one (at_panic ho hw (fun c e=>by rw [hop] at e; cases e) ?_),hv,hr,Go.refl _ _ _ _,hcs,hdf⟩
  unfold execOp
  rw [hop]
  dsimp only
  generalize act.eval x = u at hv
  cases hv
  simp only [Instr.panic,Sem.run_bind]
  rfl
theorem defer_goal {o : Oper} {c : Call} {g : Operand} (hop : o.op = .defer c) (hcal : c.callee = .value g) (hb : b.roundOf = none) {lk : Operand → AV} {h : H} {a : Pos} {f : Fx} {n : Nat} {x y : List AV} (hg : lk g = .fn n x y) {m : Mp} {w : World} {act : Act} {k : List Item} {cs0 cs : List Frame} {ops : Array Oper} {i : Nat} {rest : List Nat} {B : Nat}
    (hr : HR tb N m h w) (hl : ∀ x,VR m (lk x) (act.eval x)) (hcs : CsR m b cs0 f.pn cs) (hdf : DfRs m f.dfs act.defers) (ho : ops[i]? = some o) (hw : Region.wanted o (yielded ops act.tmps) = true) :
    HxGoal P tb N m h w b act k cs0 cs ops i o rest a B (.val (.tup []) h { f with dfs:=(.fn n x y,c.args.toList.map lk) :: f.dfs }):=by
  have hv:=hl g
  rw [hg] at hv
  generalize hu : act.eval g = u at hv
  cases hv with | fn _ hx hy =>
  rename_i fx fy
  refine ⟨m,w,undef,{ target:=.fn (.func n) fy,args:=fx ++ c.args.map act.eval } :: act.defers,cs,.one (at_defer ho hw hb ?_),.tup .nil,hr,Go.refl _ _ _ _,hcs,.cons (.fn n hx hy ?_) hdf,fun _ _ _ h=>h⟩
  · unfold execOp
    rw [hop]
    simp only [resolve,hcal,hu,Deferred.ofValue,Sem.run_bind,Sem.run_pure,Result.andThen_ok]
  · rw [Array.toList_map]
    exact VRs.of_lk hl c.args.toList
def Pn.gives : Pn → AV × Pn
  | .no=>(.nili,.no)
  | .yes v=>(v,.done)
  | .done=>(.nili,.done)
theorem recover_goal {o : Oper} {c : Call} (hop : o.op = .call c) (hcal : c.callee = .builtin .recover) (hb : b.roundOf = none) {lk : Operand → AV} {h : H} {a : Pos} {f : Fx} {m : Mp} {w : World} {act : Act} {k : List Item} {cs0 cs : List Frame} {ops : Array Oper} {i : Nat} {rest : List Nat} {B : Nat}
    (hr : HR tb N m h w) (hcs : CsR m b cs0 f.pn cs) (hdf : DfRs m f.dfs act.defers) (ho : ops[i]? = some o) (hw : Region.wanted o (yielded ops act.tmps) = true) :
    HxGoal P tb N m h w b act k cs0 cs ops i o rest a B (.val f.pn.gives.1 h { f with pn:=f.pn.gives.2 }):=by
  have hd : ∀ c,o.op ≠ .defer c:=fun c e=>by rw [hop] at e; cases e
  have hx : (execOp act.eval o).run P w = .ok .recover w:=by
    unfold execOp
    rw [hop]
    simp only [resolve,hcal,invoke,Sem.run_bind,Sem.run_pure,Result.andThen_ok]
    rfl
  have hst:=at_recover (P:=P) (b:=b) (a:=act) (k:=k) (cs:=cs) (rest:=rest) ho hw hd hb hx
  obtain ⟨dfs,pn⟩:=f
  cases pn with
  | no =>
    obtain ⟨h1,h2⟩:=hcs
    rw [h2] at hst
    exact ⟨m,w,.nilIface,act.defers,cs,.one hst,.nili,hr,Go.refl _ _ _ _,⟨h1,h2⟩,hdf,fun _ _ _ h=>h⟩
  | yes v =>
    obtain ⟨h1,h2,c0,rest0,u,h3,h4,h5⟩:=hcs
    subst h1
    have ht : ∀ todo,tryRecover (b.atR act todo) cs = some (u,{ c0 with mode:=.panicking [{ v:=u,recovered:=true }] } :: rest0):=fun todo=>by
      have hk : (b.atR act todo).kind = .deferred:=h2
      unfold tryRecover
      rw [hk,h3]
      dsimp only
      rw [h4]
    rw [ht] at hst
    exact ⟨m,w,u,act.defers,_,.one hst,h5,hr,Go.refl _ _ _ _,⟨h2,c0,rest0,u,h3,h4,rfl⟩,hdf,fun _ _ _ h=>h⟩
  | done =>
    obtain ⟨h2,c0,rest0,u,h3,h4,h5⟩:=hcs
    have ht : ∀ todo,tryRecover (b.atR act todo) cs = none:=fun todo=>by
      have hk : (b.atR act todo).kind = .deferred:=h2
      unfold tryRecover
      rw [hk,h5]
    rw [ht] at hst
    exact ⟨m,w,.nilIface,act.defers,cs,.one hst,.nili,hr,Go.refl _ _ _ _,⟨h2,c0,rest0,u,h3,h4,h5⟩,hdf,fun _ _ _ h=>h⟩
end
end Am
end Go.Proofs.YtadbcnekkceoaaaGreatDoor
namespace Go.Proofs.YtadbcnekkceoaaaGreatDoor
namespace Am
inductive X | nrm | ext (id : Nat) | gto (l : Nat) | ret | pan (v : AV)
structure St where
  e : E
  h : H
  f : Fx
section
variable {P : Program} {tb : Tb} {NN : Nat → Nat} {b : Frame}
def Arr (P : Program) (b : Frame) (k : List Item) (M : Machine) (m : Mp) (act : Act) (cs : List Frame) (w : World) : X → Prop
  | .nrm=>Steps P M (lone (b.atR act k) cs w)
  | .ext id=>∃ k',exitTo id k' = exitTo id k ∧ Steps P M (lone (b.atR act (.code (.exit id) :: k')) cs w)
  | .gto l=>∃ k',gotoIn l k' = gotoIn l k ∧ Steps P M (lone (b.atR act (.code (.goto l) :: k')) cs w)
  | .ret=>∃ k',Steps P M (lone (b.atR act (.code .ret :: k')) cs w)
  | .pan v=>∃ k' u,VR m v u ∧ Steps P M (lone { b.atR act k' with mode:=.panicking [{ v:=u,recovered:=false }] } cs w)
theorem Arr.of_steps {k : List Item} {M M' : Machine} {m : Mp} {act : Act} {cs : List Frame} {w : World} (h : Steps P M M') : ∀ {x : X},Arr P b k M' m act cs w x → Arr P b k M m act cs w x
  | .nrm,g=>h.trans g
  | .ext _,⟨k',g1,g2⟩=>⟨k',g1,h.trans g2⟩
  | .gto _,⟨k',g1,g2⟩=>⟨k',g1,h.trans g2⟩
  | .ret,⟨k',g⟩=>⟨k',h.trans g⟩
  | .pan _,⟨k',u,g1,g2⟩=>⟨k',u,g1,h.trans g2⟩
def ExGoal (P : Program) (tb : Tb) (NN : Nat → Nat) (b : Frame) (m : Mp) (h : H) (w : World) (B : Nat) (sz : Nat) (cs0 : List Frame) (k : List Item) (M : Machine) (x : X) (st : St) : Prop :=
  ∃ m' w' act' cs',HR tb NN m' st.h w' ∧ Go B m h w m' st.h w' ∧ CsR m' b cs0 st.f.pn cs' ∧ DfRs m' st.f.dfs act'.defers ∧ act'.tmps.size = sz ∧ ER tb m' b.fn st.e act'.tmps ∧ Arr P b k M m' act' cs' w' x
def Fol (P : Program) (tb : Tb) (NN : Nat → Nat) (b : Frame) (N : Nat) (c : Code) (st : St) (x : X) (st' : St) : Prop :=
  ∀ (m : Mp) (w : World) (act : Act) (cs0 cs : List Frame) (k : List Item) (B : Nat),HR tb NN m st.h w → CsR m b cs0 st.f.pn cs → DfRs m st.f.dfs act.defers → N ≤ act.tmps.size → ER tb m b.fn st.e act.tmps → B ≤ st.h.next.nat →
    ExGoal P tb NN b m st.h w B act.tmps.size cs0 k (lone (b.atR act (.code c :: k)) cs w) x st'
variable {N : Nat} {st st1 st2 : St} {x : X}
theorem fol_skip : Fol P tb NN b N .skip st .nrm st:=fun m w act cs0 cs k B hr hcs hdf _ he _=>⟨m,w,act,cs,hr,Go.refl _ _ _ _,hcs,hdf,rfl,he,.one stepR_skip⟩
theorem fol_exit {id : Nat} : Fol P tb NN b N (.exit id) st (.ext id) st:=fun m w act cs0 cs k B hr hcs hdf _ he _=>⟨m,w,act,cs,hr,Go.refl _ _ _ _,hcs,hdf,rfl,he,k,rfl,.refl _ _⟩
theorem fol_goto {l : Nat} : Fol P tb NN b N (.goto l) st (.gto l) st:=fun m w act cs0 cs k B hr hcs hdf _ he _=>⟨m,w,act,cs,hr,Go.refl _ _ _ _,hcs,hdf,rfl,he,k,rfl,.refl _ _⟩
theorem fol_label {l : Nat} : Fol P tb NN b N (.label l) st .nrm st:=fun m w act cs0 cs k B hr hcs hdf _ he _=>⟨m,w,act,cs,hr,Go.refl _ _ _ _,hcs,hdf,rfl,he,.one stepR_label⟩
theorem fol_ret : Fol P tb NN b N .ret st .ret st:=fun m w act cs0 cs k B hr hcs hdf _ he _=>⟨m,w,act,cs,hr,Go.refl _ _ _ _,hcs,hdf,rfl,he,k,.refl _ _⟩
theorem ExGoal.go {m : Mp} {h : H} {w : World} {B sz : Nat} {cs0 : List Frame} {k k1 : List Item} {M : Machine} (h1 : ExGoal P tb NN b m h w B sz cs0 k1 M .nrm st1) (hB : B ≤ h.next.nat)
    (h2 : ∀ m' w' act' cs',HR tb NN m' st1.h w' → CsR m' b cs0 st1.f.pn cs' → DfRs m' st1.f.dfs act'.defers → act'.tmps.size = sz → ER tb m' b.fn st1.e act'.tmps → B ≤ st1.h.next.nat → ExGoal P tb NN b m' st1.h w' B act'.tmps.size cs0 k (lone (b.atR act' k1) cs' w') x st2) :
    ExGoal P tb NN b m h w B sz cs0 k M x st2:=by
  obtain ⟨m',w',act',cs',r1,r2,r3,r4,r5,r6,r7⟩:=h1
  obtain ⟨m2,w2,act2,cs2,s1,s2,s3,s4,s5,s6,s7⟩:=h2 m' w' act' cs' r1 r3 r4 r5 r6 (Nat.le_trans hB r2.next)
  exact ⟨m2,w2,act2,cs2,s1,r2.trans s2,s3,s4,s5.trans r5,s6,Arr.of_steps r7 s7⟩
theorem fol_seq {a c : Code} (ha : Fol P tb NN b N a st .nrm st1) (hc : Fol P tb NN b N c st1 x st2) : Fol P tb NN b N (.seq a c) st x st2:=fun m w act cs0 cs k B hr hcs hdf hN he hB=>by
  have h1:=ha m w act cs0 cs (.code c :: k) B hr hcs hdf hN he hB
  have h2:=h1.go (k:=k) (st2:=st2) (x:=x) hB fun m' w' act' cs' r1 r2 r3 r4 r5 r6=>hc m' w' act' cs0 cs' k B r1 r2 r3 (by omega) r5 r6
  obtain ⟨m2,w2,act2,cs2,s1,s2,s3,s4,s5,s6,s7⟩:=h2
  exact ⟨m2,w2,act2,cs2,s1,s2,s3,s4,s5,s6,Arr.of_steps (.one stepR_seq) s7⟩
theorem Arr.pass {y : Item} {k : List Item} {M : Machine} {m : Mp} {act : Act} {cs : List Frame} {w : World} (hy : ∀ id,exitTo id (y :: k) = exitTo id k) (hz : ∀ l,gotoIn l (y :: k) = gotoIn l k) (hx : x ≠ .nrm) (h : Arr P b (y :: k) M m act cs w x) : Arr P b k M m act cs w x:=by
  cases x with
  | nrm=>exact absurd rfl hx
  | ext id=>obtain ⟨k',g1,g2⟩:=h; exact ⟨k',g1.trans (hy id),g2⟩
  | gto l=>obtain ⟨k',g1,g2⟩:=h; exact ⟨k',g1.trans (hz l),g2⟩
  | ret=>exact h
  | pan v=>exact h
theorem fol_seq_x {a c : Code} (ha : Fol P tb NN b N a st x st1) (hx : x ≠ .nrm) : Fol P tb NN b N (.seq a c) st x st1:=fun m w act cs0 cs k B hr hcs hdf hN he hB=>by
  obtain ⟨m2,w2,act2,cs2,s1,s2,s3,s4,s5,s6,s7⟩:=ha m w act cs0 cs (.code c :: k) B hr hcs hdf hN he hB
  exact ⟨m2,w2,act2,cs2,s1,s2,s3,s4,s5,s6,Arr.of_steps (.one stepR_seq) (Arr.pass (fun _=>rfl) (fun _=>rfl) hx s7)⟩
end
end Am
end Go.Proofs.YtadbcnekkceoaaaGreatDoor
namespace Go.Proofs.YtadbcnekkceoaaaGreatDoor
namespace Am
section
variable {P : Program} {tb : Tb} {NN : Nat → Nat} {b : Frame} {N : Nat} {st st1 st2 : St} {x : X}
def lkS (tb : Tb) (fn : Nat) (e : E) : Operand → AV
  | .tmp t=>match tb.slot fn t with | some s=>E.get s e | none=>.junk
  | .const v=>ofV v
  | .global _=>.junk
  | .func f=>.fn f [] []
theorem lkS_ok {m : Mp} {e : E} {act : Act} (he : ER tb m b.fn e act.tmps) : ∀ y,VR m (lkS tb b.fn e y) (act.eval y)
  | .tmp t=>by
    show VR m (match tb.slot b.fn t with | some s=>E.get s e | none=>.junk) (act.tmps.getD t undef)
    cases h : tb.slot b.fn t with
    | none=>exact .junk _
    | some s=>exact he t s h
  | .const v=>ofV_ok m v
  | .global _=>.junk _
  | .func f=>.fn f .nil .nil
theorem ExGoal.head {m : Mp} {h : H} {w : World} {B sz : Nat} {cs0 : List Frame} {k : List Item} {M M' : Machine} (hs : step P M = .next M') (g : ExGoal P tb NN b m h w B sz cs0 k M' x st2) : ExGoal P tb NN b m h w B sz cs0 k M x st2:=by
  obtain ⟨m2,w2,act2,cs2,s1,s2,s3,s4,s5,s6,s7⟩:=g
  exact ⟨m2,w2,act2,cs2,s1,s2,s3,s4,s5,s6,Arr.of_steps (.one hs) s7⟩
theorem fol_cond {c : Operand} {p q : Code} {t : Bool} (hc : lkS tb b.fn st.e c = .bool t) (h : Fol P tb NN b N (if t then p else q) st x st2) : Fol P tb NN b N (.cond c p q) st x st2:=fun m w act cs0 cs k B hr hcs hdf hN he hB=>by
  have hv:=lkS_ok he c
  rw [hc] at hv
  have hb : act.eval c = .bool t:=by generalize act.eval c = u at hv; cases hv; rfl
  exact (h m w act cs0 cs k B hr hcs hdf hN he hB).head (stepR_cond hb)
def X.block (id : Nat) : X → X
  | .ext j=>bif Nat.beq j id then .nrm else .ext j
  | x=>x
theorem fol_block {id : Nat} {c : Code} (h : Fol P tb NN b N c st x st2) : Fol P tb NN b N (.block id c) st (x.block id) st2:=fun m w act cs0 cs k B hr hcs hdf hN he hB=>by
  obtain ⟨m2,w2,act2,cs2,s1,s2,s3,s4,s5,s6,s7⟩:=h m w act cs0 cs (.inBlock id :: k) B hr hcs hdf hN he hB
  refine ⟨m2,w2,act2,cs2,s1,s2,s3,s4,s5,s6,Arr.of_steps (.one stepR_block) ?_⟩
  cases x with
  | nrm=>exact s7.trans (.one stepR_inBlock)
  | ret=>exact s7
  | pan v=>exact s7
  | gto l=>obtain ⟨k',g1,g2⟩:=s7; exact ⟨k',g1.trans rfl,g2⟩
  | ext j =>
    obtain ⟨k',g1,g2⟩:=s7
    show Arr P b k _ m2 act2 cs2 w2 (bif Nat.beq j id then .nrm else .ext j)
    cases hb : Nat.beq j id with
    | true =>
      have:=Nat.eq_of_beq_eq_true hb
      subst this
      have hx : exitTo j k' = some k:=by rw [g1]; simp [exitTo]
      exact g2.trans (.one (stepR_exit hx))
    | false =>
      refine ⟨k',g1.trans ?_,g2⟩
      have hne : (id == j) = false:=by
        cases e : id == j with
        | false=>rfl
        | true=>rw [eq_of_beq e,Nat.beq_refl] at hb; cases hb
      simp [exitTo,hne]
def FolL (P : Program) (tb : Tb) (NN : Nat → Nat) (b : Frame) (N : Nat) (c : Code) (st : St) (x : X) (st' : St) : Prop :=
  ∀ (m : Mp) (w : World) (act : Act) (cs0 cs : List Frame) (k : List Item) (B : Nat),HR tb NN m st.h w → CsR m b cs0 st.f.pn cs → DfRs m st.f.dfs act.defers → N ≤ act.tmps.size → ER tb m b.fn st.e act.tmps → B ≤ st.h.next.nat →
    ExGoal P tb NN b m st.h w B act.tmps.size cs0 k (lone (b.atR act (.code c :: .inLoop c :: k)) cs w) x st'
theorem fol_loop {c : Code} (h : FolL P tb NN b N c st x st2) : Fol P tb NN b N (.loop c) st x st2:=fun m w act cs0 cs k B hr hcs hdf hN he hB=>(h m w act cs0 cs k B hr hcs hdf hN he hB).head stepR_loop
theorem folL_x {c : Code} (h : Fol P tb NN b N c st x st1) (hx : x ≠ .nrm) : FolL P tb NN b N c st x st1:=fun m w act cs0 cs k B hr hcs hdf hN he hB=>by
  obtain ⟨m2,w2,act2,cs2,s1,s2,s3,s4,s5,s6,s7⟩:=h m w act cs0 cs (.inLoop c :: k) B hr hcs hdf hN he hB
  exact ⟨m2,w2,act2,cs2,s1,s2,s3,s4,s5,s6,Arr.pass (fun _=>rfl) (fun _=>rfl) hx s7⟩
theorem folL_go {c : Code} (h : Fol P tb NN b N c st .nrm st1) (h2 : FolL P tb NN b N c st1 x st2) : FolL P tb NN b N c st x st2:=fun m w act cs0 cs k B hr hcs hdf hN he hB =>
  (h m w act cs0 cs (.inLoop c :: k) B hr hcs hdf hN he hB).go hB fun m' w' act' cs' r1 r2 r3 r4 r5 r6=>(h2 m' w' act' cs0 cs' k B r1 r2 r3 (by omega) r5 r6).head stepR_inLoop
def ROut.toX : ROut → X | .ok _ _ _=>.nrm | .pan _ v _ _=>.pan v
def ROut.toSt (R : Rg) (e : E) : ROut → St
  | .ok vs h f=>⟨R.outE (fun i=>match vfind vs i with | some v=>v | none=>.junk) R.ops 0 e,h,f⟩
  | .pan _ _ h f=>⟨R.outE (fun _=>.junk) R.ops 0 e,h,f⟩
theorem fol_region {hx : Hx} {R : Rg} {ss : List Stage} {draw : Bool} {id : Nat} (hmix : P.follows .mixedOrders = true) (hs : HxStore P hx) (hok : HxOk P tb NN b hx) (hslot : R.slot = tb.slot b.fn) (hc : R.chk N draw ss = true) {out : ROut}
    (hrun : R.run P hx st.h.next st.e ss ⟨⟨[],[]⟩,st.h.res R.nr,st.f⟩ = some out) : Fol P tb NN b N (.region id R.ops.toArray draw) st out.toX (out.toSt R st.e):=fun m w act cs0 cs k B hr hcs hdf hN he hB=>by
  have g:=region_ok (id:=id) (k:=k) hmix hs hok hslot hc hrun hr he hN hcs hdf hB
  cases out with
  | ok vs h f =>
    obtain ⟨m',w',act',cs',g1,g2,g3,g4,g5,g6,g7⟩:=g
    exact ⟨m',w',act',cs',g2,g3,g4,g5,g6,g7,g1⟩
  | pan vs v h f =>
    obtain ⟨m',w',u,act',cs',k',g1,g2,g3,g4,g5,g6,g7,g8⟩:=g
    exact ⟨m',w',act',cs',g3,g4,g5,g6,g7,g8,k',u,g2,g1⟩
end
end Am
end Go.Proofs.YtadbcnekkceoaaaGreatDoor
namespace Go.Proofs.YtadbcnekkceoaaaGreatDoor
namespace Am
section
variable {P : Program} {tb : Tb} {NN : Nat → Nat} {m : Mp}
def enterE (tb : Tb) (fn : Nat) : List AV → Nat → E → E
  | [],_,e=>e
  | v :: l,i,e=>enterE tb fn l (Nat.succ i) (match tb.slot fn i with | some s=>E.set s v e | none=>e)
theorem enterE_get {fn : Nat} : ∀ (l : List AV) (i : Nat) (e : E) (t s : Nat),tb.slot fn t = some s →
    E.get s (enterE tb fn l i e) = if i ≤ t ∧ t < i + l.length then (l[t - i]?).getD .junk else E.get s e
  | [],i,e,t,s,h=>by
    rw [if_neg (by simp)]; rfl
  | v :: l,i,e,t,s,h=>by
    rw [enterE,enterE_get l i.succ _ t s h]
    by_cases h1 : i.succ ≤ t ∧ t < i.succ + l.length
    · rw [if_pos h1,if_pos (by simp; omega)]
      have : t - i = (t - i.succ) + 1:=by omega
      rw [this,List.getElem?_cons_succ]
    · rw [if_neg h1]
      by_cases h2 : t = i
      · subst h2
        rw [if_pos (by simp),h]
        dsimp only
        rw [E.get_set _ _ (Tb.slot_lt h).1 (Tb.slot_lt h).1,if_pos rfl]
        simp
      · rw [if_neg (by simp; omega)]
        cases hi : tb.slot fn i with
        | none=>rfl
        | some s' =>
          dsimp only
          rw [E.get_set _ _ (Tb.slot_lt hi).1 (Tb.slot_lt h).1,if_neg fun e=>?_]
          subst e
          exact h2 (slotF_inj (Tb.slot_lt h).2 (Tb.slot_lt hi).2)
theorem E.get_new {s : Nat} : E.get s E.new = .junk:=by
  have key : ∀ p : SP,getP p E.new = .junk:=fun p=>by obtain ⟨a,b⟩:=p; cases a <;> cases b <;> rfl
  exact key _
theorem enter_ER {fn : Nat} {as : List AV} {args : Array Value} (ha : VRs m as args.toList) (n : Nat) : ER tb m fn (enterE tb fn as 0 E.new) (args ++ Array.replicate n undef):=fun t s h=>by
  rw [enterE_get _ _ _ _ _ h,Nat.zero_add,Nat.sub_zero]
  by_cases ht : 0 ≤ t ∧ t < as.length
  · rw [if_pos ht,List.getElem?_eq_getElem ht.2]
    obtain ⟨u,h1,h2⟩:=ha.get (List.getElem?_eq_getElem ht.2)
    have hlt : t < args.size:=by have:=ha.len; simp at this; omega
    have : (args ++ Array.replicate n undef).getD t undef = u:=by
      rw [Array.getD_eq_getD_getElem?,Array.getElem?_append_left hlt]
      rw [Array.getElem?_toList] at h1
      rw [h1]; rfl
    rw [this]; exact h2
  · rw [if_neg ht,E.get_new]; exact .junk _
end
end Am
end Go.Proofs.YtadbcnekkceoaaaGreatDoor
namespace Go.Proofs.YtadbcnekkceoaaaGreatDoor
namespace Am
section
variable {P : Program} {tb : Tb} {NN : Nat → Nat} {m : Mp} {h : H} {w : World}
def resA (P : Program) (lk : Operand → AV) (h : H) : List ResultVar → Option (List AV)
  | []=>some []
  | .tmp t :: l=>match resA P lk h l with | some r=>some (lk (.tmp t) :: r) | none=>none
  | .cell a t :: l=>match lk (.tmp a) with
    | .ptr _ _=>(match readF P (.load t (.tmp a)) lk h,resA P lk h l with | some v,some r=>some (v :: r) | _,_=>none)
    | _=>none
def resV : List AV → AV
  | [v]=>v
  | l=>.tup l
theorem loadVar_ok (hr : HR tb NN m h w) {lk : Operand → AV} {ρ : Operand → Value} (hl : ∀ x,VR m (lk x) (ρ x)) {t : TypeId} {a : Operand} {v : AV} {b : Pos} {o : Nat} (ha : lk a = .ptr b o) (hv : readF P (.load t a) lk h = some v) :
    ∃ u,(do loadVar t (← asAddr (ρ a)) : Sem Value).run P w = .ok u w ∧ VR m v u:=by
  obtain ⟨u,h1,h2⟩:=read_ok (P:=P) (o:={ (default : Oper) with op:=.load t a }) hr hv hl
  refine ⟨u,?_,h2⟩
  have hp:=hl a
  rw [ha] at hp
  unfold execOp at h1
  dsimp only at h1
  generalize ρ a = x at hp h1
  cases hp with | ptr _ hm =>
  simp only [Instr.loadAt,Instr.sureAddr,Sem.run_bind,Sem.run_pure,Result.andThen_ok] at h1
  simp only [asAddr,Sem.run_bind,Sem.run_pure,Result.andThen_ok]
  cases hq : (loadVar t ⟨_,o,none⟩).run P w with
  | halt y w'=>rw [hq] at h1; cases h1
  | ok y w' =>
    rw [hq] at h1
    simp only [Result.andThen_ok] at h1
    injection h1 with h1 h3
    injection h1 with h1
    rw [h1,h3]
def resOne (tmps : Array Value) : ResultVar → Sem Value
  | .tmp t=>pure (tmps.getD t undef)
  | .cell a t=>do loadVar t (← asAddr (tmps.getD a undef))
theorem resL_ok (hr : HR tb NN m h w) {lk : Operand → AV} {tmps : Array Value} (hl : ∀ t,VR m (lk (.tmp t)) (tmps.getD t undef)) : ∀ {l : List ResultVar} {r : List AV},resA P lk h l = some r →
    ∃ us,(l.mapM (resOne tmps)).run P w = .ok us w ∧ VRs m r us
  | [],r,hv=>by injection hv with hv; subst hv; exact ⟨[],rfl,.nil⟩
  | .tmp t :: l,r,hv=>by
    simp only [resA] at hv
    split at hv <;> try (cases hv; done)
    next r' hr' =>
    injection hv with hv; subst hv
    obtain ⟨us,h1,h2⟩:=resL_ok hr hl hr'
    refine ⟨tmps.getD t undef :: us,?_,.cons (hl t) h2⟩
    rw [List.mapM_cons]
    simp only [resOne,Sem.run_bind,Sem.run_pure,Result.andThen_ok]
    rw [h1]
    rfl
  | .cell a t :: l,r,hv=>by
    simp only [resA] at hv
    split at hv <;> try (cases hv; done)
    next b o ha =>
    split at hv <;> try (cases hv; done)
    next v r' hv1 hr' =>
    injection hv with hv; subst hv
    obtain ⟨us,h1,h2⟩:=resL_ok hr hl hr'
    obtain ⟨u,h3,h4⟩:=loadVar_ok (P:=P) (lk:=fun | .tmp t=>lk (.tmp t) | _=>.junk) (ρ:=fun | .tmp t=>tmps.getD t undef | _=>undef) (a:=.tmp a) (t:=t) hr (fun x=>by cases x <;> first | exact hl _ | exact .junk _) ha (by
      simp only [readF,ha] at hv1 ⊢
      exact hv1)
    refine ⟨u :: us,?_,.cons h4 h2⟩
    rw [List.mapM_cons]
    simp only [resOne,Sem.run_bind] at h3 ⊢
    rw [h3]
    simp only [Result.andThen_ok]
    rw [h1]
    rfl
theorem results_ok (hr : HR tb NN m h w) {lk : Operand → AV} {tmps : Array Value} (hl : ∀ t,VR m (lk (.tmp t)) (tmps.getD t undef)) {fn : Func} {r : List AV} (hv : resA P lk h fn.results.toList = some r) : ∃ u,(results fn tmps).run P w = .ok u w ∧ VR m (resV r) u:=by
  obtain ⟨us,h1,h2⟩:=resL_ok hr hl hv
  have e : results fn tmps = (do let vs ← fn.results.mapM (resOne tmps); pure (if h : vs.size = 1 then vs[0] else .tuple vs)):=by
    unfold results
    have : (fun | .tmp t=>pure (tmps.getD t undef) | .cell a t=>do loadVar t (← asAddr (tmps.getD a undef)) : ResultVar → Sem Value) = resOne tmps:=by funext x; cases x <;> rfl
    rw [← this]
    rfl
  rw [e,Array.mapM_eq_mapM_toList]
  simp only [Sem.run_bind,map_eq_pure_bind]
  rw [h1]
  simp only [Result.andThen_ok,Sem.run_pure]
  refine ⟨_,rfl,?_⟩
  cases h2 with
  | nil=>exact .tup .nil
  | cons a c =>
    cases c with
    | nil=>exact a
    | cons a' c=>exact .tup (.cons a (.cons a' c))
end
end Am
end Go.Proofs.YtadbcnekkceoaaaGreatDoor
