/- Maps keyed by ints: what a block of entries answers. -/
import Derived.Test.YtadbcnekkceoaaaGreatDoorKOMvBase
import Derived.Carry
import Derived.Maps.OwnOps
import Derived.Maps.Own
set_option linter.unusedVariables false
namespace Go.Proofs.YtadbcnekkceoaaaGreatDoor.Mv
open Go.RowKit Go.MapKept
open Go.ChangeMaps (setBlock)
def MapF (w : World) (b : Nat) (f : Int → Option Value) : Prop :=
  ∃ es clock,w.heap[b]? = some (.map es clock) ∧ Stamped es clock ∧ (∀ x ∈ es.toList,IsKey (.int .i64) x.key) ∧ ∀ k,f k = (es.toList.find? (fun x=>match x.key with | .int .i64 j=>j == k | _=>false)).map (·.val)
theorem Upd.setBlock {S : Nat → Prop} (w : World) (b : Nat) (o : Obj) (hS : S b) : Upd S w (setBlock w b o) :=
  ⟨rfl,rfl,rfl,by simp [Go.ChangeMaps.setBlock],fun k _ hk=>by
    simp only [Go.ChangeMaps.setBlock,Array.getElem?_setIfInBounds]
    rw [if_neg (fun e=>hk (by rw [← e]; exact hS))]⟩
theorem MapF.lt {w : World} {b : Nat} {f : Int → Option Value} (h : MapF w b f) : b < w.heap.size:=by
  obtain ⟨es,clock,hb,_⟩:=h
  exact (Array.getElem?_eq_some_iff.1 hb).1
theorem MapF.keep {S : Nat → Prop} {w w' : World} {b : Nat} {f : Int → Option Value} (h : MapF w b f) (hu : Upd S w w') (hS : ¬ S b) : MapF w' b f:=by
  have hl:=h.lt
  obtain ⟨es,clock,hb,r⟩:=h
  exact ⟨es,clock,(hu.block b hl hS).trans hb,r⟩
theorem MapF.made (w : World) : MapF (w.alloc (.map #[] 0)) w.heap.size (fun _=>none) :=
  ⟨#[],0,(MapKept.heap_alloc w _).1,stamped_empty 0,by simp,fun k=>by simp⟩
theorem find_hit {es : List MapEntry} {k : Int} {j : Nat} {e : MapEntry} (hks : ∀ x ∈ es,IsKey (.int .i64) x.key) (hn : (es.map (·.key)).Nodup) (hj : es[j]? = some e) (he : e.key = .int .i64 k) :
    es.find? (fun x=>match x.key with | .int .i64 i=>i == k | _=>false) = some e:=by
  induction es generalizing j with
  | nil=>simp at hj
  | cons x es ih =>
    simp only [List.map_cons,List.nodup_cons] at hn
    cases j with
    | zero =>
      simp at hj
      subst hj
      simp [he]
    | succ j =>
      simp at hj
      have hx : x.key ≠ .int .i64 k:=fun h=>hn.1 (List.mem_map.2 ⟨e,List.mem_of_getElem? hj,by rw [he,h]⟩)
      have hxk:=hks x (by simp)
      cases hkx : x.key <;> simp [hkx,IsKey] at hxk
      rename_i kk i
      subst hxk
      rw [hkx] at hx
      rw [List.find?_cons_of_neg (by simp [hkx]; intro e; exact hx (by rw [e]))]
      exact ih (fun y hy=>hks y (by simp [hy])) hn.2 hj
theorem find_miss {es : List MapEntry} {k : Int} (h : ∀ x ∈ es,x.key ≠ .int .i64 k) : es.find? (fun x=>match x.key with | .int .i64 i=>i == k | _=>false) = none:=by
  rw [List.find?_eq_none]
  intro x hx
  have:=h x hx
  cases hk : x.key with
  | int kk i =>
    rw [hk] at this
    cases kk <;> simp
    intro e
    exact this (by rw [e])
  | _=>simp
theorem find_erase {es : List MapEntry} {j : Nat} {e : MapEntry} {k : Int} (hks : ∀ x ∈ es,IsKey (.int .i64) x.key) (hn : (es.map (·.key)).Nodup) (hj : es[j]? = some e) (he : e.key = .int .i64 k) (i : Int) :
    ((es.eraseIdx j).find? fun x=>match x.key with | .int .i64 a=>a == i | _=>false) = if i = k then none else es.find? fun x=>match x.key with | .int .i64 a=>a == i | _=>false:=by
  by_cases hi : i = k
  · subst hi
    rw [if_pos rfl,find_miss]
    intro x hx hxk
    obtain ⟨m,hm,hmx⟩:=List.mem_eraseIdx_iff_getElem?.1 hx
    have hml : m < es.length:=(List.getElem?_eq_some_iff.1 hmx).1
    have hjl : j < es.length:=(List.getElem?_eq_some_iff.1 hj).1
    have h1 : (es.map (·.key))[m]? = (es.map (·.key))[j]?:=by rw [List.getElem?_map,List.getElem?_map,hmx,hj]; simp [hxk,he]
    rw [List.nodup_iff_pairwise_ne] at hn
    have hpw:=List.pairwise_iff_getElem.1 hn
    rw [List.getElem?_eq_getElem (by simpa using hml),List.getElem?_eq_getElem (by simpa using hjl)] at h1
    injection h1 with h1
    rcases Nat.lt_trichotomy m j with h | h | h
    · exact hpw m j (by simpa using hml) (by simpa using hjl) h h1
    · exact hm h
    · exact hpw j m (by simpa using hjl) (by simpa using hml) h h1.symm
  · rw [if_neg hi]
    have hn' : ((es.eraseIdx j).map (·.key)).Nodup:=List.Sublist.nodup (List.Sublist.map _ (List.eraseIdx_sublist _ _)) hn
    have hks' : ∀ x ∈ es.eraseIdx j,IsKey (.int .i64) x.key:=fun x hx=>hks x ((List.eraseIdx_sublist _ _).subset hx)
    rcases findNow_spec (show IsKey (.int .i64) (.int .i64 i) from rfl) es 0 hks with ⟨_,g2⟩ | ⟨j',e',_,g2,g3⟩
    · rw [find_miss g2,find_miss fun x hx=>g2 x ((List.eraseIdx_sublist _ _).subset hx)]
    · have hne : j' ≠ j:=by
        rintro rfl
        rw [hj] at g2
        obtain rfl:=Option.some.inj g2
        rw [he] at g3
        simp at g3
        exact hi g3.symm
      have hmem : e' ∈ es.eraseIdx j:=List.mem_eraseIdx_iff_getElem?.2 ⟨j',hne,g2⟩
      obtain ⟨m,hm,hme⟩:=List.getElem_of_mem hmem
      rw [find_hit hks hn g2 g3,find_hit hks' hn' (j:=m) (by rw [List.getElem?_eq_getElem hm,hme]) g3]
section
variable {P : Program} {t kt et : TypeId} {w : World} {b : Nat} {f : Int → Option Value}
theorem MapF.look (h : MapF w b f) (ht : P.underlying t = some (.map kt et)) (hk : P.underlying kt = some (.int .i64)) {z : Value} (hz : (zeroValue et).run P w = .ok z w) (k : Int) (ok : Bool) :
    (Instr.lookup t (.map (some b)) (.int .i64 k) ok).run P w = .ok (if ok then .tuple #[(f k).getD z,.bool (f k).isSome] else (f k).getD z) w:=by
  obtain ⟨es,clock,hb,hs,hks,hf⟩:=h
  have hkey : IsKey (.int .i64) (.int .i64 k):=rfl
  rw [hf k]
  rcases findNow_spec hkey es.toList 0 hks with ⟨h1,h2⟩ | ⟨j,e,h1,h2,h3⟩
  · rw [find_miss h2]
    cases ok <;> simp [Instr.lookup,run_underlying ht,MapKept.run_getObj_map hb,run_checkKey hk hkey,run_findKey hk h1,Result.andThen,hz]
  · rw [find_hit hks hs.2.2 h2 h3]
    cases ok <;> simp [Instr.lookup,run_underlying ht,MapKept.run_getObj_map hb,run_checkKey hk hkey,run_findKey hk h1,Result.andThen]
theorem MapF.put (h : MapF w b f) (ht : P.underlying t = some (.map kt et)) (hk : P.underlying kt = some (.int .i64)) (k : Int) (v : Value) :
    ∃ o,(Instr.mapUpdate t (.map (some b)) (.int .i64 k) v).run P w = .ok () (setBlock w b o) ∧ MapF (setBlock w b o) b (fun j=>if j = k then some v else f j):=by
  obtain ⟨es,clock,hb,hs,hks,hf⟩:=h
  have hkey : IsKey (.int .i64) (.int .i64 k):=rfl
  have hlt : b < w.heap.size:=(Array.getElem?_eq_some_iff.1 hb).1
  rcases findNow_spec hkey es.toList 0 hks with ⟨h1,h2⟩ | ⟨j,e,h1,h2,h3⟩
  · refine ⟨.map (es.push ⟨.int .i64 k,v,clock⟩) (clock + 1),?_,_,_,(heap_set hb).1,stamped_push hs h2,?_,fun i=>?_⟩
    · simp [Instr.mapUpdate,run_underlying ht,MapKept.run_getObj_map hb,run_checkKey hk hkey,run_findKey hk h1,MapKept.run_setObj_map _ hb,Result.andThen,setBlock]
    · intro x hx
      simp only [Array.toList_push,List.mem_append,List.mem_singleton] at hx
      rcases hx with hx | rfl
      · exact hks x hx
      · rfl
    · show (if i = k then some v else f i) = _
      rw [hf i,Array.toList_push,List.find?_append]
      by_cases hi : i = k
      · subst hi
        rw [find_miss h2]
        simp
      · simp [hi,show ¬ k = i from fun e=>hi e.symm]
  · have hj : es[j]? = some e:=by simpa using h2
    have hkeyf : ∀ e',es[j]? = some e' → ({ e' with key:=.int .i64 k,val:=v } : MapEntry).key = e'.key:=fun e' he'=>by rw [hj] at he'; cases he'; exact h3.symm
    have hst:=stamped_modify hs j (fun e'=>{ e' with key:=.int .i64 k,val:=v }) (fun _ _=>rfl) (fun e' _ he'=>hkeyf e' he')
    have hks':=isKey_modify hks j (fun e'=>{ e' with key:=.int .i64 k,val:=v }) hkeyf
    refine ⟨.map (es.modify j fun e'=>{ e' with key:=.int .i64 k,val:=v }) clock,?_,_,_,(heap_set hb).1,hst,hks',fun i=>?_⟩
    · simp [Instr.mapUpdate,run_underlying ht,MapKept.run_getObj_map hb,run_checkKey hk hkey,run_findKey hk h1,hj,h3,run_keyThatStays hkey,MapKept.run_setObj_map _ hb,Result.andThen,setBlock]
    · show (if i = k then some v else f i) = _
      by_cases hi : i = k
      · subst hi
        rw [if_pos rfl,find_hit (j:=j) hks' hst.2.2 (e:={ e with key:=.int .i64 i,val:=v }) (by simp [hj]) rfl]
        rfl
      · rw [if_neg hi,hf i]
        have hkk : (es.modify j fun e'=>{ e' with key:=.int .i64 k,val:=v }).toList.map (·.key) = es.toList.map (·.key):=modify_keys j _ hkeyf
        rcases findNow_spec (show IsKey (.int .i64) (.int .i64 i) from rfl) es.toList 0 hks with ⟨_,g2⟩ | ⟨j',e',_,g2,g3⟩
        · rw [find_miss g2,find_miss]
          intro x hx he
          have : x.key ∈ es.toList.map (·.key):=by rw [← hkk]; exact List.mem_map.2 ⟨x,hx,rfl⟩
          obtain ⟨y,hy,hyx⟩:=List.mem_map.1 this
          exact g2 y hy (hyx.trans he)
        · have hne : j ≠ j':=by
            rintro rfl
            rw [h2] at g2
            obtain rfl:=Option.some.inj g2
            rw [h3] at g3
            simp at g3
            exact hi g3.symm
          have g2' : es[j']? = some e':=by simpa using g2
          rw [find_hit hks hs.2.2 g2 g3,find_hit (j:=j') hks' hst.2.2 (e:=e') (by simp [hne,g2']) g3]
theorem wpList_look {ops : Array Oper} {rest : List Oper} {o : Oper} {a : Act} {Q : Exit → Act → World → Prop} (hg : o.guard = none) (m x : Operand) (ok : Bool) (hop : o.op = Op.lookup t m x ok) (ht : P.underlying t = some (.map kt et)) (hk : P.underlying kt = some (.int .i64)) {z : Value} (hz : (zeroValue et).run P w = .ok z w)
    (hm : a.eval m = .map (some b)) (h : MapF w b f) {k : Int} (hx : a.eval x = .int .i64 k)
    (K : wpList P ops Q rest (a.put o.dst (if ok then .tuple #[(f k).getD z,.bool (f k).isSome] else (f k).getD z)) w) : wpList P ops Q (o :: rest) a w:=by
  refine wpList_plain hg fun _ hK=>?_
  have hrun:=h.look ht hk hz k ok
  unfold Oper.wp
  simp only [execOp,hop,hm,hx,Sem.run_bind,Sem.run_pure,hrun,Result.andThen_ok]
  exact hK _ _ K
theorem wpList_put {ops : Array Oper} {rest : List Oper} {o : Oper} {a : Act} {Q : Exit → Act → World → Prop} (hg : o.guard = none) (m x v : Operand) (hop : o.op = Op.mapUpdate t m x v) (ht : P.underlying t = some (.map kt et)) (hk : P.underlying kt = some (.int .i64))
    (hm : a.eval m = .map (some b)) (h : MapF w b f) {k : Int} (hx : a.eval x = .int .i64 k) {u : Value} (hv : a.eval v = u)
    (K : ∀ w',MapF w' b (fun j=>if j = k then some u else f j) → Upd (fun q=>q = b) w w' → wpList P ops Q rest (a.put o.dst undef) w') : wpList P ops Q (o :: rest) a w:=by
  refine wpList_plain hg fun _ hK=>?_
  obtain ⟨o',hrun,h'⟩:=h.put (P:=P) ht hk k u
  unfold Oper.wp
  simp only [execOp,hop,hm,hx,hv,Sem.run_bind,Sem.run_pure,hrun,Result.andThen_ok]
  exact hK _ _ (K _ h' (Upd.setBlock _ _ _ rfl))
end
end Go.Proofs.YtadbcnekkceoaaaGreatDoor.Mv
