/- append. -/
import Derived.Test.YtadbcnekkceoaaaGreatDoorKOAmP
import Derived.Laws.AppendOwn
set_option linter.unusedVariables false
namespace Go.Proofs.YtadbcnekkceoaaaGreatDoor
namespace Am
section
variable {P : Program} {m : Mp} {w : World} {tb : Tb} {N : Nat → Nat} {h : H}
theorem HR.congr (hr : HR tb N m h w) {w' : World} (hh : w'.heap = w.heap) : HR tb N m h w' :=
  ⟨by rw [hh]; exact hr.blk,hr.inj,by rw [hh]; exact hr.lt,hr.fresh⟩
theorem Go.congr {B : Nat} {m' : Mp} {h' : H} {w0 w' : World} (g : Go B m h w0 m' h' w') (hh : w0.heap = w.heap) (ho : w0.os = w.os) (ht : w0.tape = w.tape) (hu : w0.output = w.output) : Go B m h w m' h' w' :=
  ⟨g.le,by rw [← hh]; exact g.keep,by rw [← hh]; exact g.img,by rw [← hh]; exact g.imgA,g.new,g.next,by rw [← hh]; exact g.size,by rw [← ho]; exact g.os,by rw [← ht]; exact g.tape,by rw [← hu]; exact g.output⟩
theorem HR.fresh_blk0 (hr : HR tb N m h w) {a : Pos} (ha : m a = none) (hn : a.nat < h.next.nat) {B : Nat} (hB : B ≤ a.nat) {b : AB} {o : Obj} {sz : Nat} (hb : ∀ m',m.le m' → BR tb N m' b o sz) :
    HR tb N (m.put a (w.heap.size,sz)) (h.set a b) (nw w o) ∧ Go B m h w (m.put a (w.heap.size,sz)) (h.set a b) (nw w o):=by
  obtain ⟨h1,h2⟩:=hr.push ha hn hB o sz
  have hg : h.get a = none:=by
    cases e : h.get a with
    | none=>rfl
    | some x=>obtain ⟨_,_,_,e',_⟩:=hr.blk _ _ e; rw [ha] at e'; cases e'
  have h3:=h1.ins (Mp.put_same _ _ _) hg (nw_new w o) (hb _ (Mp.le_put _ ha)) (fun a' b' s hg' hm'=>by
    by_cases e : a' = a
    · subst e; rw [hg] at hg'; cases hg'
    · rw [Mp.put_ne _ _ e] at hm'
      have:=hr.lt _ _ _ hm'
      omega)
  refine ⟨h3,⟨h2.le,h2.keep,fun k ⟨c,x,s,q1,q2,q3⟩=>?_,fun k ⟨c,x,s,q1,q3⟩=>?_,h2.new,h2.next,h2.size,h2.os,h2.tape,h2.output⟩⟩
  · rw [H.get_set] at q1
    split at q1
    · next e=>subst e; rw [Mp.put_same] at q3; injection q3 with q3; injection q3 with q3 _; exact .inl (Nat.le_of_eq q3)
    · exact h2.img k ⟨c,x,s,q1,q2,q3⟩
  · rw [H.get_set] at q1
    split at q1
    · next e=>subst e; rw [Mp.put_same] at q3; injection q3 with q3; injection q3 with q3 _; exact .inl (Nat.le_of_eq q3)
    · exact h2.imgA k ⟨c,x,s,q1,q3⟩
theorem HR.fresh_blk (hr : HR tb N m h w) {a : Pos} (ha : m a = none) (hn : a.nat < h.next.nat) {B : Nat} (hB : B ≤ a.nat) {b : AB} {o : Obj} {sz : Nat} (hb : ∀ m', m.le m' → BR tb N m' b o sz) (_ : b.ro = false) :
    HR tb N (m.put a (w.heap.size, sz)) (h.set a b) (nw w o) ∧ Go B m h w (m.put a (w.heap.size, sz)) (h.set a b) (nw w o) := hr.fresh_blk0 ha hn hB hb
def srcA (h : H) (size : Nat) : AV → Option (Nat × List AV)
  | .nils=>some (0,[])
  | .slcE _ _ _=>some (0,[])
  | .slc b p k _=>bif Nat.beq k 0 then some (0,[]) else match h.load b p (Nat.mul k size) with | some l=>some (k,l) | none=>none
  | _=>none
theorem src_ok (hr : HR tb N m h w) {size : Nat} {x : AV} {u : Value} (hx : VR m x u) {k : Nat} {l : List AV} (hs : srcA h size x = some (k,l)) : (Builtin.lenOf u).run P w = .ok k w ∧ ∃ us : List Value,VRs m l us ∧ us.length = k * size ∧ (Builtin.firstCells size k u).run P w = .ok us.toArray w:=by
  cases hx <;> simp only [srcA] at hs <;> try (cases hs; done)
  case slc a i sz o n z c hm h1 h2 h3 =>
    cases hb : Nat.beq n 0 with
    | true =>
      rw [hb,cond_true] at hs
      injection hs with hs; injection hs with e1 e2; subst e1 e2
      have:=Nat.eq_of_beq_eq_true hb
      subst this
      exact ⟨rfl,[],.nil,by simp,by simp [Builtin.firstCells,loadCells,loadCellsFrom]⟩
    | false =>
      rw [hb,cond_false] at hs
      split at hs
      · next l' hl =>
        injection hs with hs; injection hs with e1 e2; subst e1 e2
        obtain ⟨us,g1,g2,g3⟩:=load_ok (P:=P) hr hl hm
        exact ⟨rfl,us,g2,g1,g3⟩
      · cases hs
  case slc0 =>
    simp only [show Nat.beq 0 0 = true from rfl,cond_true] at hs
    injection hs with hs; injection hs with e1 e2; subst e1 e2
    exact ⟨rfl,[],.nil,by simp,by simp [Builtin.firstCells,loadCells,loadCellsFrom]⟩
  case slcE =>
    injection hs with hs; injection hs with e1 e2; subst e1 e2
    exact ⟨rfl,[],.nil,by simp,by simp [Builtin.firstCells,loadCells,loadCellsFrom]⟩
  case nils =>
    injection hs with hs; injection hs with e1 e2; subst e1 e2
    exact ⟨rfl,[],.nil,by simp,by simp [Builtin.firstCells]⟩
def bytesL (l : List Nat) : List AV:=l.map fun b=>.int .u8 (.ofNat b)
def appA (h : H) (a : Pos) (size k : Nat) (l : List AV) (s : AV) : Option (AV × H) :=
  bif Nat.beq k 0 then (match s with | .nils=>some (.nils,h) | .slcE b o z=>some (.slcE b o z,h) | .slc b o n z=>some (.slc b o n z,h) | _=>none)
  else bif ones l then match s with
    | .nils=>bif Nat.ble k 1000000000 then some (.slc a 0 k size,h.set a (AB.ofL l)) else none
    | .slcE _ _ _=>bif Nat.ble k 1000000000 then some (.slc a 0 k size,h.set a (AB.ofL l)) else none
    | .slc b o n z=>bif Nat.beq o 0 && Nat.beq z size && Nat.ble (Nat.add n k) 1000000000 then match h.get b with
      | some (.cells false q c)=>bif Nat.ble (Nat.mul n size) q && noMk c then some (.slc a 0 (Nat.add n k) size,(h.del b).set a (.cells false (Nat.add (Nat.mul n size) l.length) (c.layN (Nat.mul n size) l))) else none
      | _=>none else none
    | _=>none
  else none
theorem run_app_room {t t' e e' ty : TypeId} {i : TypeInfo} (ht : P.underlying t = some (.slice e)) (ht' : P.underlying t' = some (.slice e') ∨ P.underlying t' = some .string) (hi : P.info? e = some i) {base : Option Addr} {n c k : Nat} {ux : Value} (hk : (Builtin.lenOf ux).run P w = .ok k w) {us : Array Value} (hf : (Builtin.firstCells i.size k ux).run P w = .ok us w) (hroom : n + k ≤ c)
    {w' : World} (hst : ∀ b,base = some b → (storeCells (b.add (n * i.size)) us.toList).run P w = .ok () w') (hno : base = none → w' = w) : (Builtin.append_ #[t,t'] ty #[.slice base n c,ux]).run P w = .ok (.slice base (n + k) c) w':=by
  have e0 : (#[t,t'] : Array TypeId)[0]? = some t:=rfl
  have e1 : (#[t,t'] : Array TypeId)[1]? = some t':=rfl
  have e2 : (#[Value.slice base n c,ux] : Array Value)[0]? = some (.slice base n c):=rfl
  have e3 : (#[Value.slice base n c,ux] : Array Value)[1]? = some ux:=rfl
  rcases ht' with ht' | ht' <;>
  cases base with
  | none =>
    have:=hno rfl
    subst this
    simp only [Builtin.append_,e0,e1,e2,e3,Sem.run_bind,run_underlying ht,run_underlying ht',Result.andThen_ok,run_sizeOf' hi,Sem.run_pure,Bool.false_eq_true,if_false,hk,if_pos hroom,Bool.not_false,if_true,hf]
  | some b =>
    simp only [Builtin.append_,e0,e1,e2,e3,Sem.run_bind,run_underlying ht,run_underlying ht',Result.andThen_ok,run_sizeOf' hi,Sem.run_pure,Bool.false_eq_true,if_false,hk,if_pos hroom,Bool.not_false,if_true,hf,hst b rfl]
theorem run_app_grow {t t' e e' ty : TypeId} {i : TypeInfo} {zv : Value} (ht : P.underlying t = some (.slice e)) (ht' : P.underlying t' = some (.slice e') ∨ P.underlying t' = some .string) (hi : P.info? e = some i) (hz : i.zero = some zv) {base : Option Addr} {n c k : Nat} {ux : Value} (hk : (Builtin.lenOf ux).run P w = .ok k w)
    {old us : Array Value} (ho : (Builtin.firstCells i.size n (.slice base n c)).run P w.drew = .ok old w.drew) (hf : (Builtin.firstCells i.size k ux).run P w.drew = .ok us w.drew) (hroom : c < n + k) (hs : n + k ≤ 1000000000) (hby : i.bytes ≤ 1000) :
    ∃ c',n + k ≤ c' ∧ c' ≤ 9223372036854775807 ∧ (Builtin.append_ #[t,t'] ty #[.slice base n c,ux]).run P w = .ok (.slice (some ⟨w.heap.size,0,none⟩) (n + k) c') (nw w.drew (.cells (old ++ us ++ Builtin.zeroCells zv.cells (c' - (n + k))) e)):=by
  refine ⟨grownCap w (n + k) c e,grownCap_ge w _ _ e,?_,?_⟩
  · have:=grownCap_le_maxLen w (n + k) c e (by unfold maxLen; omega)
    unfold maxLen at this
    omega
  have e0 : (#[t,t'] : Array TypeId)[0]? = some t:=rfl
  have e1 : (#[t,t'] : Array TypeId)[1]? = some t':=rfl
  have e2 : (#[Value.slice base n c,ux] : Array Value)[0]? = some (.slice base n c):=rfl
  have e3 : (#[Value.slice base n c,ux] : Array Value)[1]? = some ux:=rfl
  have hinfo : ∀ w,(typeInfo e).run P w = .ok i w:=fun w=>by simp only [typeInfo,Sem.run_bind,run_program,Result.andThen_ok,hi,Sem.run_pure]
  have hzr : ∀ w,(zeroValue e).run P w = .ok zv w:=fun w=>by simp only [zeroValue,hinfo,Sem.run_bind,Result.andThen_ok,hz,Sem.run_pure]
  have c1 : ¬ (((n + k : Nat) : Int) > IntKind.i64.max ∧ (False ∨ i.bytes = 0)):=by
    have : IntKind.i64.max = 9223372036854775807:=by decide
    rw [this]; omega
  have c2 : ¬ Builtin.nextslicecap (n + k) c * i.bytes > 2 ^ 48:=by
    have h1 : (n + k) * i.bytes ≤ 1000000000 * 1000:=Nat.mul_le_mul hs hby
    have:=growslice_fits (need:=n + k) (old:=c) (bytes:=i.bytes) hroom (by omega)
    omega
  have hnr : ¬ n + k ≤ c:=by omega
  have ho' : (Builtin.firstCells i.size n (.slice base n c)).run P { w with drawn:=w.drawn + 1 } = .ok old { w with drawn:=w.drawn + 1 }:=ho
  have hf' : (Builtin.firstCells i.size k ux).run P { w with drawn:=w.drawn + 1 } = .ok us { w with drawn:=w.drawn + 1 }:=hf
  rcases ht' with ht' | ht' <;>
  (simp only [Builtin.append_,e0,e1,e2,e3,Sem.run_bind,run_underlying ht,run_underlying ht',Result.andThen_ok,run_sizeOf' hi,Sem.run_pure,Bool.false_eq_true,if_false,hk,if_neg hnr,hinfo]
   rw [if_neg c1]
   simp only [Sem.run_bind,hinfo,Result.andThen_ok,if_neg c2,run_choose,Question.forced,Bool.false_eq_true,if_false,run_askRoom,ho',Bool.not_false,if_true,hf',hzr,newRow,run_newObj,Sem.run_pure]
   rfl)
theorem grow_size {A C : Array Value} {Z : Array Value} {n k c z : Nat} (hA : A.size = n * z) (hC : C.size = k * z) (hz : Z.size = z) (hc : n + k ≤ c) : (A ++ C ++ Builtin.zeroCells Z (c - (n + k))).size = c * z:=by
  have h1 : (Builtin.zeroCells Z (c - (n + k))).size = (c - (n + k)) * z:=by simp [Builtin.zeroCells,hz]
  rw [Array.size_append,Array.size_append,h1,hA,hC,← Nat.add_mul,← Nat.add_mul]
  congr 1
  omega
def newM : Option Nat → List AV → AB | none,l=>AB.ofL l | some e,l=>AB.ofM e l
def okM : Option Nat → Nat → Bool | none,_=>true | some _,n=>Nat.ble n 4094
def isM : Option Nat → T AV → Bool | none,c=>noMk c | some e,c=>match T.get mkP c with | some (.tyv q)=>Nat.beq q e | _=>false
theorem BR.newM {mk : Option Nat} {l : List AV} {m' : Mp} {cs : Array Value} {e : TypeId} {sz : Nat} (ho : okM mk l.length = true) (hm : ∀ q,mk = some q → q = e) (h1 : cs.size = sz) (h2 : l.length ≤ sz) (h4 : ∀ q,T.get mkP ((T.leaf : T AV).layN 0 l) = some (.tyv q) → e = q)
    (h3 : ∀ j,j < l.length → ∃ v u,((T.leaf : T AV).layN 0 l).at j = some v ∧ cs[j]? = some u ∧ VR m' v u) : BR tb N m' (newM mk l) (.cells cs e (0,0)) sz:=by
  cases mk with
  | none=>exact .cells h1 h2 h3 (fun _=>rfl) h4
  | some t =>
    have:=ble_le ho
    refine .cells h1 h2 (fun j hj=>?_) (fun _=>rfl) (fun q hq=>?_)
    · rw [at_mk (by omega)]; exact h3 j hj
    · rw [T.get_set_same] at hq
      injection hq with hq; injection hq with hq
      rw [← hq]; exact (hm t rfl).symm
theorem isM_lay {mk : Option Nat} {l : List AV} {us : List Value} (hl : VRs m l us) {c : T AV} {o : Nat} (hi : isM mk c = true) (ho : okM mk (o + l.length) = true) {e t : TypeId} (hm : ∀ q,mk = some q → q = e) (ht : (∀ q,T.get mkP c = some (.tyv q) → t = q) ∨ t = e) : ∀ q,T.get mkP (c.layN o l) = some (.tyv q) → t = q:=by
  cases mk with
  | none =>
    refine mk_lay hl fun q hq=>?_
    replace hi : noMk c = true:=hi
    unfold noMk at hi
    rw [hq] at hi
    cases hi
  | some e' =>
    have ho:=ble_le ho
    intro q hq
    rw [← mkP_at,T.at_layN,if_neg (by omega),mkP_at] at hq
    rcases ht with ht | ht
    · exact ht q hq
    · replace hi : (match T.get mkP c with | some (.tyv q)=>Nat.beq q e' | _=>false) = true:=hi
      rw [hq] at hi
      rw [ht,← hm e' rfl]
      exact (Nat.eq_of_beq_eq_true hi).symm
def appM (mk : Option Nat) (h : H) (a : Pos) (size k : Nat) (l : List AV) (s : AV) : Option (AV × H) :=
  bif Nat.beq k 0 then (match s with | .nils=>some (.nils,h) | .slcE b o z=>some (.slcE b o z,h) | .slc b o n z=>some (.slc b o n z,h) | _=>none)
  else bif ones l then match s with
    | .nils=>bif Nat.ble k 1000000000 && okM mk l.length then some (.slc a 0 k size,h.set a (newM mk l)) else none
    | .slcE _ _ _=>bif Nat.ble k 1000000000 && okM mk l.length then some (.slc a 0 k size,h.set a (newM mk l)) else none
    | .slc b o n z=>bif Nat.beq o 0 && Nat.beq z size && Nat.ble (Nat.add n k) 1000000000 then match h.get b with
      | some (.cells false q c)=>bif Nat.ble (Nat.mul n size) q && (isM mk c && okM mk (Nat.add (Nat.mul n size) l.length)) then some (.slc a 0 (Nat.add n k) size,(h.del b).set a (.cells false (Nat.add (Nat.mul n size) l.length) (c.layN (Nat.mul n size) l))) else none
      | _=>none else none
    | _=>none
  else none
theorem appM_none (h : H) (a : Pos) (size k : Nat) (l : List AV) (s : AV) : appA h a size k l s = appM none h a size k l s:=by
  unfold appA appM
  simp only [okM,newM,isM,Bool.and_true]
theorem appM_ok (mk : Option Nat) (hr : HR tb N m h w) {a : Pos} (ha : m a = none) (hn : a.nat < h.next.nat) {B : Nat} (hB : B ≤ a.nat) {t t' e e' ty : TypeId} {i : TypeInfo} {zv : Value} (ht : P.underlying t = some (.slice e)) (ht' : P.underlying t' = some (.slice e') ∨ P.underlying t' = some .string) (hmkt : ∀ q,mk = some q → q = e) (hi : P.info? e = some i) (hz : i.zero = some zv) (hpos : 0 < i.size) (hzs : zv.cells.size = i.size) (hby : i.bytes ≤ 1000)
    {s : AV} {us ux : Value} (hs : VR m s us) {k : Nat} {l : List AV} (hk : (Builtin.lenOf ux).run P w = .ok k w)
    (hsrc : ∀ w1 : World,w1.heap = w.heap → ∃ xs : List Value,VRs m l xs ∧ xs.length = k * i.size ∧ (Builtin.firstCells i.size k ux).run P w1 = .ok xs.toArray w1) {v : AV} {h' : H} (hv : appM mk h a i.size k l s = some (v,h')) :
    ∃ m' w' u,(Builtin.append_ #[t,t'] ty #[us,ux]).run P w = .ok u w' ∧ VR m' v u ∧ HR tb N m' h' w' ∧ Go B m h w m' h' w' ∧ ∀ b,b ≠ a → m' b = m b:=by
  obtain ⟨xs,hxl,hxn,hxf⟩:=hsrc w rfl
  have hll : l.length = k * i.size:=by rw [hxl.len,hxn]
  have hrd : HR tb N m h w.drew:=hr.congr rfl
  obtain ⟨xs',hxl',hxn',hxf'⟩:=hsrc w.drew rfl
  have hput : ∀ (q : Nat × Nat) b,b ≠ a → (m.put a q) b = m b:=fun q b hb=>Mp.put_ne _ _ hb
  have hle : ∀ q,m.le (m.put a q):=fun q=>Mp.le_put q ha
  unfold appM at hv
  cases hk0 : Nat.beq k 0 with
  | true =>
    rw [hk0,cond_true] at hv
    have:=Nat.eq_of_beq_eq_true hk0
    subst this
    have hxs : xs = []:=List.eq_nil_of_length_eq_zero (by rw [hxn,Nat.zero_mul])
    subst hxs
    have hst : ∀ b : Addr,(storeCells b (#[] : Array Value).toList).run P w = .ok () w:=fun b=>rfl
    have nothing : ∀ (base : Option Addr) (n c : Nat),n ≤ c → us = .slice base n c → (Builtin.append_ #[t,t'] ty #[us,ux]).run P w = .ok us w:=by
      intro base n c hnc hus
      subst hus
      exact run_app_room ht ht' hi hk hxf (by omega) (w':=w) (fun b _=>hst _) (fun _=>rfl)
    have same : ∀ {base : Option Addr} {n c : Nat},n ≤ c → us = .slice base n c → v = s → h' = h → ∃ m' w' u,(Builtin.append_ #[t,t'] ty #[us,ux]).run P w = .ok u w' ∧ VR m' v u ∧ HR tb N m' h' w' ∧ Go B m h w m' h' w' ∧ ∀ b,b ≠ a → m' b = m b:=by
      intro base n c hnc hus e1 e2
      subst e1 e2
      exact ⟨m,w,us,nothing base n c hnc hus,hs,hr,Go.refl B m _ w,fun _ _=>rfl⟩
    split at hv <;> (try (cases hv; done)) <;> injection hv with hv <;> injection hv with e1 e2
    · cases hs; exact same (Nat.le_refl 0) rfl e1.symm e2.symm
    · cases hs; exact same (Nat.le_refl 0) rfl e1.symm e2.symm
    · have e1':=e1.symm
      have e2':=e2.symm
      have hsx : ∃ base n c,us = .slice base n c ∧ n ≤ c:=by cases hs with | slc _ h1 _ _=>exact ⟨_,_,_,rfl,h1⟩ | slc0 _ _ _=>exact ⟨_,_,_,rfl,Nat.zero_le _⟩
      obtain ⟨base,n',c',h1,h2⟩:=hsx
      exact same h2 h1 e1' e2'
  | false =>
    rw [hk0,cond_false] at hv
    have hkp : 0 < k:=by
      rcases Nat.eq_zero_or_pos k with e | e
      · rw [e] at hk0; cases hk0
      · exact e
    cases hon : ones l with
    | false=>rw [hon] at hv; cases hv
    | true =>
      rw [hon,cond_true] at hv
      have grow0 : ∀ base,us = .slice base 0 0 → (Nat.ble k 1000000000 && okM mk l.length) = true → ∃ m' w' u,(Builtin.append_ #[t,t'] ty #[us,ux]).run P w = .ok u w' ∧ VR m' (.slc a 0 k i.size) u ∧ HR tb N m' (h.set a (newM mk l)) w' ∧ Go B m h w m' (h.set a (newM mk l)) w' ∧ ∀ b,b ≠ a → m' b = m b:=by
        intro base hus hkb
        subst hus
        rw [Bool.and_eq_true] at hkb
        have hkm:=hkb.2
        have hkk:=ble_le hkb.1
        have hold : (Builtin.firstCells i.size 0 (.slice base 0 0)).run P w.drew = .ok #[] w.drew:=by
          cases base <;> simp [Builtin.firstCells,loadCells,loadCellsFrom]
        obtain ⟨c',h1,h2,h3⟩:=run_app_grow (ty:=ty) ht ht' hi hz hk hold hxf' (by omega) (by omega) hby
        rw [Nat.zero_add] at h1 h3
        have hcs : ((#[] : Array Value) ++ xs'.toArray ++ Builtin.zeroCells zv.cells (c' - k)).size = c' * i.size:=by
          have:=grow_size (A:=#[]) (C:=xs'.toArray) (Z:=zv.cells) (n:=0) (k:=k) (c:=c') (z:=i.size) (by simp) (by simpa using hxn') hzs (by omega)
          rw [Nat.zero_add] at this
          exact this
        have hbr : ∀ m',m.le m' → BR tb N m' (newM mk l) (.cells (#[] ++ xs'.toArray ++ Builtin.zeroCells zv.cells (c' - k)) e) (c' * i.size):=by
          intro m' hm'
          have hkc : k * i.size ≤ c' * i.size:=Nat.mul_le_mul_right _ h1
          refine BR.newM hkm hmkt hcs (by rw [hll]; exact hkc) (mk_new hxl') (fun j hj=>?_)
          have hx : l[j]? = some (l[j]'hj):=List.getElem?_eq_getElem hj
          obtain ⟨u,q1,q2⟩:=hxl'.get hx
          refine ⟨_,u,?_,?_,q2.mono hm'⟩
          · rw [T.at_layN,if_pos ⟨Nat.zero_le j,by omega⟩,Nat.sub_zero]; exact hx
          · rw [Array.empty_append,Array.getElem?_append_left (by simp; rw [← hxl'.len]; exact hj)]
            simpa using q1
        obtain ⟨g1,g2⟩:=hrd.fresh_blk ha hn hB hbr (by cases mk <;> rfl)
        refine ⟨_,_,_,h3,.slc (Mp.put_same _ _ _) h1 (by omega) h2,g1,g2.congr rfl rfl rfl rfl,hput _⟩
      split at hv <;> try (cases hv; done)
      · cases hb : (Nat.ble k 1000000000 && okM mk l.length) with
        | false=>rw [hb] at hv; cases hv
        | true =>
          rw [hb,cond_true] at hv
          injection hv with hv; injection hv with e1 e2; subst e1 e2
          cases hs
          exact grow0 _ rfl hb
      · cases hb : (Nat.ble k 1000000000 && okM mk l.length) with
        | false=>rw [hb] at hv; cases hv
        | true =>
          rw [hb,cond_true] at hv
          injection hv with hv; injection hv with e1 e2; subst e1 e2
          cases hs
          exact grow0 _ rfl hb
      · next b o n z =>
        cases hb : Nat.beq o 0 && Nat.beq z i.size && Nat.ble (Nat.add n k) 1000000000 with
        | false=>rw [hb] at hv; cases hv
        | true =>
          rw [hb,cond_true] at hv
          simp only [Bool.and_eq_true] at hb
          have eo:=Nat.eq_of_beq_eq_true hb.1.1
          have ez:=Nat.eq_of_beq_eq_true hb.1.2
          have hnk : n + k ≤ 1000000000:=ble_le hb.2
          subst eo
          split at hv <;> try (cases hv; done)
          next q c hg =>
          cases hb2 : Nat.ble (Nat.mul n i.size) q && (isM mk c && okM mk (Nat.add (Nat.mul n i.size) l.length)) with
          | false=>rw [hb2] at hv; cases hv
          | true =>
            rw [hb2,cond_true] at hv
            injection hv with hv; injection hv with e1 e2; subst e1 e2
            rw [Bool.and_eq_true] at hb2
            have hnq : n * i.size ≤ q:=ble_le hb2.1
            have hb3:=(Bool.and_eq_true _ _).mp hb2.2
            have hok : okM mk (n * i.size + l.length) = true:=hb3.2
            have hmk : ∀ {us : List Value},VRs m l us → ∀ t : TypeId,(∀ q,T.get mkP c = some (.tyv q) → t = q) ∨ t = e → ∀ q,T.get mkP (c.layN (n * i.size) l) = some (.tyv q) → t = q:=fun hl t ht=>isM_lay hl hb3.1 hok hmkt ht
            cases hs with
            | slc0 _ _ ho=>exact absurd ho (by omega)
            | @slc _ ib sz _ _ _ cap hm h1 h2 h3 =>
              rw [Nat.zero_add] at h2
              rw [ez] at h2
              obtain ⟨i',sz',cs,t',fz,q1,q2,q3,q4,q5,q6,q7⟩:=hr.cells hg
              rw [hm] at q1; injection q1 with q1; injection q1 with e1 e2; subst e1 e2
              have hfz:=q6 rfl
              subst hfz
              show ∃ m' w' u,_ ∧ VR m' (.slc a 0 (n + k) i.size) u ∧ HR tb N m' ((h.del b).set a (.cells false (n * i.size + l.length) (c.layN (n * i.size) l))) w' ∧ Go B m h w m' ((h.del b).set a (.cells false (n * i.size + l.length) (c.layN (n * i.size) l))) w' ∧ _
              by_cases hroom : n + k ≤ cap
              · have hfit : n * i.size + k * i.size ≤ cap * i.size:=by rw [← Nat.add_mul]; exact Nat.mul_le_mul_right _ hroom
                have hxlen:=hxl.len
                have hrun:=run_storeCells_at (P:=P) ib (n * i.size) t' xs 0 cs w q2 (by omega) (ones_ok hxl hon)
                rw [Nat.add_zero] at hrun
                obtain ⟨p1,p2⟩:=lay_cells (cs:=cs) (o:=n * i.size) q5 (by omega) hxl (by omega) (n * i.size + l.length) (.inr ⟨hnq,Nat.le_refl _⟩)
                obtain ⟨g1,g2⟩:=hr.move hg rfl hm ha hn hB (b':=.cells false (n * i.size + l.length) (c.layN (n * i.size) l)) (o':=.cells ((cs.toList.take (n * i.size) ++ xs ++ cs.toList.drop (n * i.size + xs.length)).toArray) t' (0,0)) (.cells (by rw [p1,q3]) (by omega) p2 (fun _=>rfl) (hmk hxl _ (.inl q7))) rfl
                refine ⟨_,_,_,run_app_room ht ht' hi hk hxf hroom (fun b' hb'=>?_) (fun hb'=>by cases hb'),.slc (Mp.put_same _ _ _) hroom (by omega) h3,g1,g2,hput _⟩
                injection hb' with hb'
                subst hb'
                rw [addr_add,Nat.zero_add,← setRow_pw q2]
                exact hrun
              · have hsd : VR m (.slc b 0 n z) (.slice (some ⟨ib,0,none⟩) n cap):=.slc hm h1 (by rw [Nat.zero_add,ez]; exact h2) h3
                have hnsz : n * i.size ≤ q:=hnq
                have hld : ∀ j,j < n * i.size → w.drew.cell? ((⟨ib,0,none⟩ : Addr).add j) = some (cs.getD j undef):=fun j hj=>by
                  obtain ⟨v,u,_,p2,_⟩:=q5 j (by omega)
                  rw [addr_add,Nat.zero_add]
                  have : w.drew.heap[ib]? = some (.cells cs t' (0,0)):=q2
                  simp [World.cell?,this,p2,Array.getD_eq_getD_getElem?]
                have hold : (Builtin.firstCells i.size n (.slice (some ⟨ib,0,none⟩) n cap)).run P w.drew = .ok ((List.range (n * i.size)).map fun j=>cs.getD j undef).toArray w.drew:=run_loadCells w.drew _ _ _ hld
                obtain ⟨c',g1,g2,g3⟩:=run_app_grow (ty:=ty) ht ht' hi hz hk hold hxf' (by omega) hnk hby
                have hcs:=grow_size (A:=((List.range (n * i.size)).map fun j=>cs.getD j undef).toArray) (C:=xs'.toArray) (Z:=zv.cells) (n:=n) (k:=k) (c:=c') (z:=i.size) (by simp) (by simpa using hxn') hzs g1
                have hkc : n * i.size + k * i.size ≤ c' * i.size:=by rw [← Nat.add_mul]; exact Nat.mul_le_mul_right _ g1
                have hbr : ∀ m',m.le m' → BR tb N m' (.cells false (n * i.size + l.length) (c.layN (n * i.size) l)) (.cells (((List.range (n * i.size)).map fun j=>cs.getD j undef).toArray ++ xs'.toArray ++ Builtin.zeroCells zv.cells (c' - (n + k))) e) (c' * i.size):=by
                  intro m' hm'
                  refine .cells hcs (by omega) (fun j hj=>?_) (fun _=>rfl) (hmk hxl' _ (.inr rfl))
                  rw [T.at_layN]
                  by_cases hin : n * i.size ≤ j ∧ j < n * i.size + l.length
                  · rw [if_pos hin]
                    have hx : l[j - n * i.size]? = some (l[j - n * i.size]'(by omega)):=List.getElem?_eq_getElem _
                    obtain ⟨u,p1,p2⟩:=hxl'.get hx
                    refine ⟨_,u,hx,?_,p2.mono hm'⟩
                    rw [Array.getElem?_append_left (by simp; omega),Array.getElem?_append_right (by simp; omega)]
                    simpa using p1
                  · rw [if_neg hin]
                    obtain ⟨v,u,p1,p2,p3⟩:=q5 j (by omega)
                    refine ⟨v,u,p1,?_,p3.mono hm'⟩
                    have hj' : j < n * i.size:=by omega
                    rw [Array.getElem?_append_left (by simp; omega),Array.getElem?_append_left (by simp; omega)]
                    simp [hj',p2,Array.getD_eq_getD_getElem?]
                obtain ⟨d1,d2⟩:=hrd.del b B
                obtain ⟨f1,f2⟩:=d1.fresh_blk ha (show a.nat < (h.del b).next.nat from hn) hB hbr rfl
                refine ⟨_,_,_,g3,.slc (Mp.put_same _ _ _) g1 (by omega) g2,f1,(d2.trans f2).congr rfl rfl rfl rfl,hput _⟩
theorem app_ok (hr : HR tb N m h w) {a : Pos} (ha : m a = none) (hn : a.nat < h.next.nat) {B : Nat} (hB : B ≤ a.nat) {t t' e e' ty : TypeId} {i : TypeInfo} {zv : Value} (ht : P.underlying t = some (.slice e)) (ht' : P.underlying t' = some (.slice e')) (hi : P.info? e = some i) (hz : i.zero = some zv) (hpos : 0 < i.size) (hzs : zv.cells.size = i.size) (hby : i.bytes ≤ 1000)
    {s x : AV} {us ux : Value} (hs : VR m s us) (hx : VR m x ux) {k : Nat} {l : List AV} (hsrc : srcA h i.size x = some (k,l)) {v : AV} {h' : H} (hv : appA h a i.size k l s = some (v,h')) :
    ∃ m' w' u,(Builtin.append_ #[t,t'] ty #[us,ux]).run P w = .ok u w' ∧ VR m' v u ∧ HR tb N m' h' w' ∧ Go B m h w m' h' w' ∧ ∀ b,b ≠ a → m' b = m b :=
  appM_ok none hr ha hn hB ht (.inl ht') (fun q h=>by cases h) hi hz hpos hzs hby hs (src_ok (P:=P) hr hx hsrc).1 (fun w1 hw=>(src_ok (P:=P) (hr.congr hw) hx hsrc).2) (by rw [← appM_none]; exact hv)
theorem appS_ok (hr : HR tb N m h w) {a : Pos} (ha : m a = none) (hn : a.nat < h.next.nat) {B : Nat} (hB : B ≤ a.nat) {t t' e ty : TypeId} {i : TypeInfo} {zv : Value} (ht : P.underlying t = some (.slice e)) (ht' : P.underlying t' = some .string) (hi : P.info? e = some i) (hz : i.zero = some zv) (hsz : i.size = 1) (hzs : zv.cells.size = i.size) (hby : i.bytes ≤ 1000)
    {s : AV} {us : Value} (hs : VR m s us) {bs : ByteArray} {v : AV} {h' : H} (hv : appM (some e) h a 1 bs.size (bytesL (bs.data.toList.map UInt8.toNat)) s = some (v,h')) :
    ∃ m' w' u,(Builtin.append_ #[t,t'] ty #[us,.string bs]).run P w = .ok u w' ∧ VR m' v u ∧ HR tb N m' h' w' ∧ Go B m h w m' h' w' ∧ ∀ b,b ≠ a → m' b = m b:=by
  refine appM_ok (e':=0) (some e) hr ha hn hB ht (.inr ht') (fun q h=>by injection h with h; exact h.symm) hi hz (by omega) hzs hby hs rfl (fun w1 _=>?_) (by rw [hsz]; exact hv)
  refine ⟨bs.data.toList.map fun b=>.int .u8 b.toNat,?_,by rw [hsz,List.length_map,Nat.mul_one]; rfl,?_⟩
  · have key : ∀ l : List UInt8,VRs m (bytesL (l.map UInt8.toNat)) (l.map fun b=>Value.int .u8 b.toNat):=fun l=>by
      induction l with
      | nil=>exact .nil
      | cons b l ih=>exact .cons (.int _ _) ih
    exact key _
  · have e1 : bs.extract 0 bs.size = bs:=by simp
    simp only [Builtin.firstCells,e1,Sem.run_pure]
    congr 1
    rw [← Array.toList_inj]
    simp
theorem appT_ok (hr : HR tb N m h w) {a : Pos} (ha : m a = none) (hn : a.nat < h.next.nat) {B : Nat} (hB : B ≤ a.nat) {t t' e ty : TypeId} {i : TypeInfo} {zv : Value} (ht : P.underlying t = some (.slice e)) (ht' : P.underlying t' = some .string) (hi : P.info? e = some i) (hz : i.zero = some zv) (hsz : i.size = 1) (hzs : zv.cells.size = i.size) (hby : i.bytes ≤ 1000)
    {s : AV} {us : Value} (hs : VR m s us) {bs : ByteArray} {tl : List AV} (hb : VRs m tl (byV bs)) {v : AV} {h' : H} (hv : appM (some e) h a 1 tl.length tl s = some (v,h')) :
    ∃ m' w' u,(Builtin.append_ #[t,t'] ty #[us,.string bs]).run P w = .ok u w' ∧ VR m' v u ∧ HR tb N m' h' w' ∧ Go B m h w m' h' w' ∧ ∀ b,b ≠ a → m' b = m b:=by
  have hlen : tl.length = bs.size:=by rw [hb.len]; unfold byV; rw [List.length_map]; rfl
  rw [hlen] at hv
  refine appM_ok (e':=0) (some e) hr ha hn hB ht (.inr ht') (fun q h=>by injection h with h; exact h.symm) hi hz (by omega) hzs hby hs rfl (fun w1 _=>?_) (by rw [hsz]; exact hv)
  refine ⟨bs.data.toList.map fun b=>.int .u8 b.toNat,?_,by rw [hsz,List.length_map,Nat.mul_one]; rfl,?_⟩
  · exact hb
  · have e1 : bs.extract 0 bs.size = bs:=by simp
    simp only [Builtin.firstCells,e1,Sem.run_pure]
    congr 1
    rw [← Array.toList_inj]
    simp
end
end Am
end Go.Proofs.YtadbcnekkceoaaaGreatDoor
