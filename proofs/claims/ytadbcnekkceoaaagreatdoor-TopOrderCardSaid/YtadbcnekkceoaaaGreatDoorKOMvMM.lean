/- Maps that are cut and turned: memory. -/
import Derived.Test.YtadbcnekkceoaaaGreatDoorKOMvMit
import Derived.Test.YtadbcnekkceoaaaGreatDoorKOMvMP
import Derived.WideLaws
set_option linter.unusedVariables false
namespace Go.Proofs.YtadbcnekkceoaaaGreatDoor.Mv
open Go.RowKit Go.MapKept
open Go.ChangeMaps (setBlock)
def lookF (L : Wt) : Int → Option Value:=fun k=>(L.find? fun p=>(p.1 : Int) == k).map fun p=>.int .i64 p.2
theorem lookF_some {L : Wt} {k : Int} {v : Value} (h : lookF L k = some v) : ∃ p ∈ L,(p.1 : Int) = k ∧ v = .int .i64 p.2:=by
  unfold lookF at h
  obtain ⟨p,hp,rfl⟩:=Option.map_eq_some_iff.1 h
  exact ⟨p,List.mem_of_find?_eq_some hp,by have:=List.find?_some hp; simpa using this,rfl⟩
theorem lookF_none {L : Wt} {k : Int} (h : ∀ p ∈ L,(p.1 : Int) ≠ k) : lookF L k = none:=by
  unfold lookF
  rw [Option.map_eq_none_iff,List.find?_eq_none]
  intro p hp
  simpa using h p hp
theorem lookF_mem {L : Wt} (hs : L.Pairwise fun a b=>a.1 < b.1) {p : Nat × Int} (hp : p ∈ L) : lookF L (p.1 : Int) = some (.int .i64 p.2):=by
  unfold lookF
  have : L.find? (fun q=>(q.1 : Int) == (p.1 : Int)) = some p:=by
    induction L with
    | nil=>simp at hp
    | cons q L ih =>
      rw [List.pairwise_cons] at hs
      rcases List.mem_cons.1 hp with h | h
      · subst h; rw [List.find?_cons_of_pos (by simp)]
      · rw [List.find?_cons_of_neg (by have:=hs.1 p h; simp; omega)]
        exact ih hs.2 h
  rw [this]; rfl
theorem lookF_isSome {L : Wt} {k : Int} : (lookF L k).isSome = true ↔ k ∈ L.map fun p=>(p.1 : Int):=by
  unfold lookF
  rw [Option.isSome_map,List.find?_isSome,List.mem_map]
  simp
theorem lookF_snoc {L : Wt} {k : Nat} {v : Int} (hk : ∀ p ∈ L,p.1 ≠ k) : (fun j=>if j = (k : Int) then some (Value.int .i64 v) else lookF L j) = lookF (L ++ [(k,v)]):=by
  funext j
  unfold lookF
  rw [List.find?_append]
  by_cases hj : j = (k : Int)
  · subst hj
    have : L.find? (fun p=>(p.1 : Int) == (k : Int)) = none:=by
      rw [List.find?_eq_none]
      intro p hp
      have:=hk p hp
      simp; omega
    rw [if_pos rfl,this]
    simp
  · rw [if_neg hj]
    have : ¬ ((k : Int) = j):=fun e=>hj e.symm
    cases L.find? (fun p=>(p.1 : Int) == j) <;> simp [this]
theorem lookF_cut (L : Wt) (k : Nat) : lookF (cutL L k) = fun j=>if j = (k : Int) then none else lookF L j:=by
  funext j
  by_cases hj : j = (k : Int)
  · rw [if_pos hj]
    apply lookF_none
    intro p hp
    unfold cutL at hp
    have:=(List.mem_filter.1 hp).2
    simp at this
    omega
  · rw [if_neg hj]
    unfold lookF cutL
    congr 1
    induction L with
    | nil=>rfl
    | cons p L ih =>
      by_cases hp : p.1 = k
      · rw [List.filter_cons_of_neg (by simp [hp]),List.find?_cons_of_neg (by simp [hp]; exact fun e=>hj e.symm),ih]
      · rw [List.filter_cons_of_pos (by simpa using hp)]
        by_cases hpj : (p.1 : Int) = j
        · rw [List.find?_cons_of_pos (by simpa using hpj),List.find?_cons_of_pos (by simpa using hpj)]
        · rw [List.find?_cons_of_neg (by simpa using hpj),List.find?_cons_of_neg (by simpa using hpj),ih]
def turnF (L : Wt) (k : Nat) (s : Int) (old : List Int) : Int → Option Value:=fun j=>(L.find? fun p=>(p.1 : Int) == j).map fun p=>.int .i64 (if p.2 = (k : Int) ∧ (p.1 : Int) ∈ old then s else p.2)
theorem turnF_nil (L : Wt) (k : Nat) (s : Int) : turnF L k s [] = lookF L:=by
  funext j; unfold turnF lookF; simp
theorem turnF_all {L : Wt} {k : Nat} {s : Int} {old : List Int} (h : ∀ p ∈ L,(p.1 : Int) ∈ old) : turnF L k s old = lookF (turnL L k s):=by
  funext j
  unfold turnF lookF turnL
  rw [List.find?_map,Option.map_map]
  cases hf : L.find? (fun p=>(p.1 : Int) == j) with
  | none =>
    have : L.find? ((fun p : Nat × Int=>(p.1 : Int) == j) ∘ fun q=>(q.1,if q.2 = (k : Int) then s else q.2)) = none:=hf
    rw [this]; rfl
  | some p =>
    have : L.find? ((fun p : Nat × Int=>(p.1 : Int) == j) ∘ fun q=>(q.1,if q.2 = (k : Int) then s else q.2)) = some p:=hf
    rw [this]
    have hp:=h p (List.mem_of_find?_eq_some hf)
    simp [hp]
theorem turnF_some {L : Wt} {k : Nat} {s : Int} {old : List Int} {j : Int} {v : Value} (h : turnF L k s old j = some v) (hj : j ∉ old) : ∃ p ∈ L,(p.1 : Int) = j ∧ v = .int .i64 p.2:=by
  unfold turnF at h
  obtain ⟨p,hp,rfl⟩:=Option.map_eq_some_iff.1 h
  have e : (p.1 : Int) = j:=by have:=List.find?_some hp; simpa using this
  refine ⟨p,List.mem_of_find?_eq_some hp,e,?_⟩
  rw [if_neg (fun h=>hj (e ▸ h.2))]
theorem turnF_put {L : Wt} (hs : L.Pairwise fun a b=>a.1 < b.1) {k : Nat} {s : Int} {old : List Int} {p : Nat × Int} (hp : p ∈ L) (hk : p.2 = (k : Int)) : (fun j=>if j = (p.1 : Int) then some (Value.int .i64 s) else turnF L k s old j) = turnF L k s (old ++ [(p.1 : Int)]):=by
  funext j
  have hfind : L.find? (fun q=>(q.1 : Int) == (p.1 : Int)) = some p:=by
    have:=lookF_mem hs hp
    unfold lookF at this
    obtain ⟨q,hq,_⟩:=Option.map_eq_some_iff.1 this
    rw [hq]
    have e1 : (q.1 : Int) = p.1:=by have:=List.find?_some hq; simpa using this
    have hqm:=List.mem_of_find?_eq_some hq
    congr 1
    obtain ⟨a,ha,rfl⟩:=List.getElem_of_mem hqm
    obtain ⟨b,hb,rfl⟩:=List.getElem_of_mem hp
    have hpw:=List.pairwise_iff_getElem.1 hs
    rcases Nat.lt_trichotomy a b with h | h | h
    · have:=hpw a b ha hb h; omega
    · subst h; rfl
    · have:=hpw b a hb ha h; omega
  unfold turnF
  by_cases hj : j = (p.1 : Int)
  · subst hj
    rw [if_pos rfl,hfind]
    simp [hk]
  · rw [if_neg hj]
    cases hf : L.find? (fun q=>(q.1 : Int) == j) with
    | none=>rfl
    | some q =>
      have e1 : (q.1 : Int) = j:=by have:=List.find?_some hf; simpa using this
      have : ((q.1 : Int) ∈ old ++ [(p.1 : Int)]) ↔ (q.1 : Int) ∈ old:=by
        rw [List.mem_append,List.mem_singleton,e1]
        exact ⟨fun h=>h.resolve_right hj,.inl⟩
      simp only [Option.map_some,this]
theorem turnF_pass {L : Wt} {k : Nat} {s : Int} {old : List Int} {p : Nat × Int} (hs : L.Pairwise fun a b=>a.1 < b.1) (hp : p ∈ L) (hk : p.2 ≠ (k : Int)) : turnF L k s old = turnF L k s (old ++ [(p.1 : Int)]):=by
  funext j
  unfold turnF
  cases hf : L.find? (fun q=>(q.1 : Int) == j) with
  | none=>rfl
  | some q =>
    have e1 : (q.1 : Int) = j:=by have:=List.find?_some hf; simpa using this
    have hqm:=List.mem_of_find?_eq_some hf
    simp only [Option.map_some]
    by_cases hq : (q.1 : Int) = (p.1 : Int)
    · have h1:=lookF_mem hs hqm
      have h2:=lookF_mem hs hp
      rw [hq,h2] at h1
      have : p.2 = q.2:=by injection h1 with h1; injection h1
      rw [← this,if_neg (fun h=>hk h.1),if_neg (fun h=>hk h.1)]
    · have : ((q.1 : Int) ∈ old ++ [(p.1 : Int)]) ↔ (q.1 : Int) ∈ old:=by
        rw [List.mem_append,List.mem_singleton]
        exact ⟨fun h=>h.resolve_right hq,.inl⟩
      simp only [this]
section
variable {P : Program} {t kt et : TypeId} {w : World} {b : Nat} {f : Int → Option Value}
theorem MapF.del (h : MapF w b f) (ht : P.underlying t = some (.map kt et)) (hk : P.underlying kt = some (.int .i64)) (ty : TypeId) (k : Int) :
    ∃ o,(Builtin.delete_ #[t,kt] ty #[.map (some b),.int .i64 k]).run P w = .ok (.tuple #[]) (setBlock w b o) ∧ MapF (setBlock w b o) b (fun j=>if j = k then none else f j):=by
  obtain ⟨es,clock,hb,hs,hks,hf⟩:=h
  have hkey : IsKey (.int .i64) (.int .i64 k):=rfl
  rcases findNow_spec hkey es.toList 0 hks with ⟨h1,h2⟩ | ⟨j,e,h1,h2,h3⟩
  · refine ⟨.map es clock,?_,_,_,(heap_set hb).1,hs,hks,fun i=>?_⟩
    · simp [Builtin.delete_,run_underlying ht,MapKept.run_getObj_map hb,run_checkKey hk hkey,run_findKey hk h1,MapKept.run_setObj_map _ hb,Result.andThen,setBlock]
    · show (if i = k then none else f i) = _
      by_cases hi : i = k
      · subst hi
        rw [if_pos rfl,find_miss h2]; rfl
      · rw [if_neg hi,hf i]
  · have hsub : (es.eraseIdxIfInBounds j).toList = es.toList.eraseIdx j:=by
      unfold Array.eraseIdxIfInBounds
      have hj : j < es.size:=by have:=(List.getElem?_eq_some_iff.1 h2).1; simpa using this
      rw [dif_pos hj]
      simp
    refine ⟨.map (es.eraseIdxIfInBounds j) clock,?_,_,_,(heap_set hb).1,stamped_erase hs j,?_,fun i=>?_⟩
    · simp [Builtin.delete_,run_underlying ht,MapKept.run_getObj_map hb,run_checkKey hk hkey,run_findKey hk h1,MapKept.run_setObj_map _ hb,Result.andThen,setBlock]
    · intro x hx
      rw [hsub] at hx
      exact hks x ((List.eraseIdx_sublist _ _).subset hx)
    · show (if i = k then none else f i) = _
      rw [hsub,find_erase hks hs.2.2 h2 h3,hf i]
      by_cases hi : i = k
      · rw [if_pos hi,if_pos hi]; rfl
      · rw [if_neg hi,if_neg hi]
theorem wpList_del {ops : Array Oper} {rest : List Oper} {o : Oper} {a : Act} {Q : Exit → Act → World → Prop} (hg : o.guard = none) (m x : Operand) (hop : o.op = Op.call { callee:=Callee.builtin Builtin.delete,args:=#[m,x],argTypes:=#[t,kt] }) (ht : P.underlying t = some (.map kt et)) (hk : P.underlying kt = some (.int .i64))
    (hm : a.eval m = .map (some b)) (h : MapF w b f) {k : Int} (hx : a.eval x = .int .i64 k)
    (K : ∀ w',MapF w' b (fun j=>if j = k then none else f j) → Upd (fun q=>q = b) w w' → wpList P ops Q rest (a.put o.dst (.tuple #[])) w') : wpList P ops Q (o :: rest) a w:=by
  refine wpList_plain hg fun _ hK=>?_
  obtain ⟨o',hrun,h'⟩:=h.del (P:=P) ht hk o.type k
  unfold Oper.wp
  simp only [execOp,hop,resolve,invoke,builtin,hm,hx,Sem.run_bind,Sem.run_pure,Result.andThen_ok,List.map_toArray,List.map_cons,List.map_nil,hrun]
  exact hK _ _ (K _ h' (Upd.setBlock _ _ _ rfl))
theorem keys_of {es : List MapEntry} (hks : ∀ x ∈ es,IsKey (.int .i64) x.key) : es.map (·.key) = (es.map keyInt).map (Value.int .i64):=by
  rw [List.map_map]
  exact List.map_congr_left fun x hx=>keyInt_eq (hks x hx)
theorem MapF.size {L : Wt} (h : MapF w b (lookF L)) (hs : L.Pairwise fun a b=>a.1 < b.1) : ∃ es clock,w.heap[b]? = some (.map es clock) ∧ es.size = L.length:=by
  obtain ⟨es,clock,hb,hst,hks,hf⟩:=h
  refine ⟨es,clock,hb,?_⟩
  have hn1 : (es.toList.map keyInt).Nodup:=by
    have h1:=hst.2.2
    rw [keys_of hks] at h1
    exact (List.pairwise_map.1 h1).imp fun h e=>h (by rw [e])
  have hn2 : (L.map fun p=>(p.1 : Int)).Nodup:=by
    rw [List.nodup_iff_pairwise_ne,List.pairwise_map]
    exact hs.imp fun h=>by omega
  have hp : (es.toList.map keyInt).Perm (L.map fun p=>(p.1 : Int)):=by
    rw [List.perm_ext_iff_of_nodup hn1 hn2]
    intro k
    rw [← lookF_isSome,hf k,Option.isSome_map,List.find?_isSome]
    constructor
    · intro hk
      obtain ⟨x,hx,rfl⟩:=List.mem_map.1 hk
      exact ⟨x,hx,by rw [keyInt_eq (hks x hx)]; simp⟩
    · rintro ⟨x,hx,hxk⟩
      rw [keyInt_eq (hks x hx)] at hxk
      exact List.mem_map.2 ⟨x,hx,by simpa using hxk⟩
  have:=hp.length_eq
  simpa using this
theorem wpList_lenm {ops : Array Oper} {rest : List Oper} {o : Oper} {a : Act} {Q : Exit → Act → World → Prop} (hg : o.guard = none) (m : Operand) (hop : o.op = Op.call { callee:=Callee.builtin Builtin.len,args:=#[m],argTypes:=#[t] }) (ht : P.underlying t = some (.map (P.mapKeyOf t) (P.mapElemOf t)))
    (hm : a.eval m = .map (some b)) {L : Wt} (h : MapF w b (lookF L)) (hs : L.Pairwise fun a b=>a.1 < b.1)
    (K : wpList P ops Q rest (a.put o.dst (.int .i64 (L.length : Int))) w) : wpList P ops Q (o :: rest) a w:=by
  refine wpList_plain hg fun _ hK=>?_
  obtain ⟨es,clock,hb,hsz⟩:=h.size hs
  have hrun:=run_len_map (P:=P) (w:=w) t o.type b es clock ht hb
  rw [hsz] at hrun
  unfold Oper.wp
  simp only [execOp,hop,resolve,invoke,builtin,hm,Sem.run_bind,Sem.run_pure,Result.andThen_ok,List.map_toArray,List.map_cons,List.map_nil,hrun]
  exact hK _ _ K
theorem map_filter_modify {p : Nat → Bool} {f : MapEntry → MapEntry} (hb : ∀ e,(f e).born = e.born) : ∀ (L : List MapEntry) (j : Nat),(∀ e,L[j]? = some e → (f e).key = e.key) → ((L.modify j f).filter fun x=>p x.born).map (·.key) = (L.filter fun x=>p x.born).map (·.key)
  | [],j,_=>by simp
  | x :: L,0,h=>by
    have hx : (f x).key = x.key:=h x rfl
    simp only [List.modify_zero_cons,List.filter_cons,hb]
    split <;> simp [hx]
  | x :: L,j + 1,h=>by
    have ih:=map_filter_modify (p:=p) hb L j (fun e he=>h e (by simpa using he))
    simp only [List.modify_succ_cons,List.filter_cons]
    split <;> simp [ih]
theorem MapIt.put {r : Nat} {ks : List Int} (h : MapIt w r b ks) (hf : MapF w b f) (ht : P.underlying t = some (.map kt et)) (hk : P.underlying kt = some (.int .i64)) (k : Int) (v : Value) (hsome : (f k).isSome = true) :
    ∃ o,(Instr.mapUpdate t (.map (some b)) (.int .i64 k) v).run P w = .ok () (setBlock w b o) ∧ MapF (setBlock w b o) b (fun j=>if j = k then some v else f j) ∧ MapIt (setBlock w b o) r b ks:=by
  obtain ⟨es,clock,hb,hs,hks,hff⟩:=hf
  have hkey : IsKey (.int .i64) (.int .i64 k):=rfl
  have hlt : b < w.heap.size:=(Array.getElem?_eq_some_iff.1 hb).1
  have h':=h
  obtain ⟨es',clock',since,seen,c0,h1,h2,h3,h4,h5,h6,h7⟩:=h'
  rw [hb] at h1
  injection h1 with h1
  injection h1 with e1 e2
  subst e1 e2
  have hrb : b ≠ r:=by rintro rfl; rw [hb] at h3; cases h3
  rcases findNow_spec hkey es.toList 0 hks with ⟨_,g2⟩ | ⟨j,e,g1,g2,g3⟩
  · exfalso
    rw [hff k,find_miss g2] at hsome
    simp at hsome
  · obtain ⟨o,hrun,hmf⟩:=MapF.put (P:=P) ⟨es,clock,hb,hs,hks,hff⟩ ht hk k v
    have hj : es[j]? = some e:=by simpa using g2
    have hrun2 : (Instr.mapUpdate t (.map (some b)) (.int .i64 k) v).run P w = .ok () (setBlock w b (.map (es.modify j fun e'=>{ e' with key:=.int .i64 k,val:=v }) clock)):=by
      simp [Instr.mapUpdate,run_underlying ht,MapKept.run_getObj_map hb,run_checkKey hk hkey,run_findKey hk g1,hj,g3,run_keyThatStays hkey,MapKept.run_setObj_map _ hb,Result.andThen,setBlock]
    have ho : setBlock w b o = setBlock w b (.map (es.modify j fun e'=>{ e' with key:=.int .i64 k,val:=v }) clock):=by
      rw [hrun] at hrun2
      injection hrun2
    have hkeyf : ∀ e',es[j]? = some e' → ({ e' with key:=.int .i64 k,val:=v } : MapEntry).key = e'.key:=fun e' he'=>by rw [hj] at he'; cases he'; exact g3.symm
    have hst:=stamped_modify hs j (fun e'=>{ e' with key:=.int .i64 k,val:=v }) (fun _ _=>rfl) (fun e' _ he'=>hkeyf e' he')
    refine ⟨o,hrun,hmf,?_⟩
    rw [ho]
    refine ⟨_,clock,since,seen,c0,(heap_set hb).1,hst,?_,?_,h5,h6,?_⟩
    · simp only [setBlock,Array.getElem?_setIfInBounds,if_neg hrb]; exact h3
    · intro x hx
      rw [Array.toList_modify] at hx
      obtain ⟨m,hm,rfl⟩:=List.getElem_of_mem hx
      rw [List.getElem_modify]
      have hml : m < es.toList.length:=by simpa using hm
      split
      · exact h4 es.toList[m] (List.getElem_mem hml)
      · exact h4 _ (List.getElem_mem hml)
    · have e3 : (leftOf (es.modify j fun e'=>{ e' with key:=.int .i64 k,val:=v }) seen).toList.map (·.key) = (leftOf es seen).toList.map (·.key):=by
        unfold leftOf
        rw [Array.toList_filter,Array.toList_filter,Array.toList_modify]
        exact map_filter_modify (p:=fun x=>!seen.contains x) (f:=fun e'=>{ e' with key:=.int .i64 k,val:=v }) (fun _=>rfl) es.toList j (fun e' he'=>hkeyf e' (by simpa using he'))
      rw [e3]
      exact h7
theorem wpList_putIt {r : Nat} {ks : List Int} {ops : Array Oper} {rest : List Oper} {o : Oper} {a : Act} {Q : Exit → Act → World → Prop} (hg : o.guard = none) (m x v : Operand) (hop : o.op = Op.mapUpdate t m x v) (ht : P.underlying t = some (.map kt et)) (hk : P.underlying kt = some (.int .i64))
    (hm : a.eval m = .map (some b)) (h : MapIt w r b ks) (hf : MapF w b f) {k : Int} (hx : a.eval x = .int .i64 k) {u : Value} (hv : a.eval v = u) (hsome : (f k).isSome = true)
    (K : ∀ w',MapF w' b (fun j=>if j = k then some u else f j) → MapIt w' r b ks → Upd (fun q=>q = b) w w' → wpList P ops Q rest (a.put o.dst undef) w') : wpList P ops Q (o :: rest) a w:=by
  refine wpList_plain hg fun _ hK=>?_
  obtain ⟨o',hrun,h1,h2⟩:=h.put (P:=P) hf ht hk k u hsome
  unfold Oper.wp
  simp only [execOp,hop,hm,hx,hv,Sem.run_bind,Sem.run_pure,hrun,Result.andThen_ok]
  exact hK _ _ (K _ h1 h2 (Upd.setBlock _ _ _ rfl))
end
end Go.Proofs.YtadbcnekkceoaaaGreatDoor.Mv
