/- The other operations that turn memory. -/
import Derived.Test.YtadbcnekkceoaaaGreatDoorKOAmX
import Derived.Lib.ConvBytes
set_option linter.unusedVariables false
namespace Go.Proofs.YtadbcnekkceoaaaGreatDoor
namespace Am
open Go.MapKept
def bornE (b : Nat) : List Ent → Nat → Option Nat
  | [],_=>none
  | e :: l,i=>bif Nat.beq e.born b then some i else bornE b l (Nat.succ i)
def eraE : Nat → List Ent → List Ent
  | _,[]=>[]
  | 0,_ :: l=>l
  | j + 1,e :: l=>e :: eraE j l
def delE (r : Option (Nat × AV)) (es : List Ent) : List Ent:=match r with | some (j,_)=>eraE j es | none=>es
def nextA (h : H) (x : AV) : Option (AV × H) :=
  match x with
  | .ptr r 0=>match h.get r with
    | some (.it none _ _ _)=>some (.tup [.bool false],h)
    | some (.it (some c) since seen st)=>match h.get c with
      | some (.mp es cl)=>bif seen.isEmpty || (es.isEmpty || es.any fun e=>Nat.blt e.born st) then
          match es.filter fun e=>!(seen.contains e.born) with
          | []=>some (.tup [.bool false],h)
          | [e]=>bif Nat.blt e.born since then some (.tup [.bool true,e.k,e.v],h.set r (.it (some c) since (seen ++ [e.born]) cl)) else none
          | _=>none
        else none
      | _=>none
    | _=>none
  | _=>none
section
variable {P : Program} {m : Mp} {w : World} {tb : Tb} {N : Nat → Nat} {h : H}
theorem EntR.born (b : Nat) : ∀ {l : List Ent} {k : List MapEntry},EntR m l k → ∀ {i j : Nat},bornE b l i = some j → i ≤ j ∧ k.findIdx? (fun e=>((e.born : Int) == (b : Int))) = some (j - i)
  | _,_,.nil,i,j,h=>by cases h
  | _,_,.cons (e:=e) (x:=x) _ _ c d,i,j,h=>by
    simp only [bornE] at h
    rw [List.findIdx?_cons]
    by_cases hb : e.born = b
    · rw [nbeq_t hb,cond_true] at h
      injection h with h; subst h
      have : ((x.born : Int) == (b : Int)) = true:=by rw [← c,hb]; simp
      rw [this]
      exact ⟨Nat.le_refl _,by simp⟩
    · rw [nbeq_f hb,cond_false] at h
      obtain ⟨h1,h2⟩:=d.born b h
      have : ((x.born : Int) == (b : Int)) = false:=by rw [← c,beq_eq_false_iff_ne]; exact fun e=>hb (Int.ofNat.inj e)
      rw [this]
      refine ⟨by omega,?_⟩
      simp only [Bool.false_eq_true,if_false,h2,Option.map_some]
      congr 1
      omega
theorem EntR.erase : ∀ {l : List Ent} {k : List MapEntry},EntR m l k → ∀ j,EntR m (eraE j l) (k.eraseIdx j)
  | _,_,.nil,j=>by cases j <;> exact .nil
  | _,_,.cons a b c d,0=>d
  | _,_,.cons a b c d,j + 1=>.cons a b c (d.erase j)
theorem entryStore_ok (hr : HR tb N m h w) {t : TypeId} {b : Pos} {es : List Ent} {cl i sz : Nat} (hg : h.get b = some (.mp es cl)) (hm : m b = some (i,sz)) {v : AV} {u us : Value} (hv : VR m v u) {k : IntKind} {s j : Nat} (hs : us = .int k (s : Int)) (hj : bornE s es 0 = some j) (B : Nat) :
    ∃ w',(Instr.entryStore t (.map (some i)) us u).run P w = .ok () w' ∧ HR tb N m (h.set b (.mp (modE v j es) cl)) w' ∧ Go B m h w m (h.set b (.mp (modE v j es) cl)) w':=by
  subst hs
  obtain ⟨i',sz',xs,g1,g2,g3⟩:=hr.mp hg
  rw [hm] at g1; injection g1 with g1; injection g1 with e1 e2; subst e1 e2
  have hnc : ∀ cs t fz,Obj.map xs cl ≠ .cells cs t fz:=by simp
  obtain ⟨_,hf⟩:=g3.born s hj
  have hf' : xs.findIdx? (fun e=>((e.born : Int) == (s : Int))) = some j:=by
    have e : xs = xs.toList.toArray:=by simp
    rw [e,List.findIdx?_toArray]
    simpa using hf
  refine ⟨pw w i (.map (xs.modify j fun e=>{ e with val:=u }) cl),?_,hr.turn hg rfl hm (.mp ?_) rfl B⟩
  · simp only [Instr.entryStore,Sem.run_bind,Result.andThen_ok,run_getObj_ok g2 hnc,asInt,asIntOf,Sem.run_pure,hf',run_setObj_pw g2 hnc]
  · rw [Array.toList_modify]
    exact g3.modify hv j
theorem delete_ok (hr : HR tb N m h w) {t kt et kt' ty : TypeId} (ht : P.underlying t = some (.map kt et)) {b : Pos} {es : List Ent} {cl i sz : Nat} (hg : h.get b = some (.mp es cl)) (hm : m b = some (i,sz)) {k : AV} {uk : Value} (hk : VR m k uk) {r : Option (Nat × AV)} (hlk : lookE P kt k es = some r) (B : Nat) :
    ∃ w',(Builtin.delete_ #[t,kt'] ty #[.map (some i),uk]).run P w = .ok (.tuple #[]) w' ∧ HR tb N m (h.set b (.mp (delE r es) cl)) w' ∧ Go B m h w m (h.set b (.mp (delE r es) cl)) w':=by
  obtain ⟨i',sz',xs,g1,g2,g3⟩:=hr.mp hg
  rw [hm] at g1; injection g1 with g1; injection g1 with e1 e2; subst e1 e2
  obtain ⟨q,d,hd,hik,h1,h2,h3⟩:=lookE_ok (P:=P) hlk hk g3
  have hnc : ∀ cs t fz,Obj.map xs cl ≠ .cells cs t fz:=by simp
  have e0 : (#[t,kt'] : Array TypeId)[0]? = some t:=rfl
  have e2 : (#[Value.map (some i),uk] : Array Value)[0]? = some (.map (some i)):=rfl
  have e3 : (#[Value.map (some i),uk] : Array Value)[1]? = some uk:=rfl
  rcases h3 with ⟨rfl,rfl⟩ | ⟨j,v',x,e,rfl,rfl,h4,h5,h6,h7,h8⟩
  · refine ⟨pw w i (.map xs cl),?_,hr.turn hg rfl hm (.mp g3) rfl B⟩
    simp only [Builtin.delete_,e0,e2,e3,Sem.run_bind,run_underlying ht,Result.andThen_ok,run_getObj_ok g2 hnc,h2,h1,run_setObj_pw g2 hnc,Sem.run_pure]
  · refine ⟨pw w i (.map (xs.eraseIdxIfInBounds j) cl),?_,hr.turn hg rfl hm (.mp ?_) rfl B⟩
    · simp only [Builtin.delete_,e0,e2,e3,Sem.run_bind,run_underlying ht,Result.andThen_ok,run_getObj_ok g2 hnc,h2,h1,run_setObj_pw g2 hnc,Sem.run_pure]
    · have hj : j < xs.size:=by have:=(List.getElem?_eq_some_iff.1 h4).1; simpa using this
      have : (xs.eraseIdxIfInBounds j).toList = xs.toList.eraseIdx j:=by
        unfold Array.eraseIdxIfInBounds
        rw [dif_pos hj]
        simp
      rw [this]
      exact g3.erase j
theorem range_ok (hr : HR tb N m h w) {a : Pos} (ha : m a = none) (hn : a.nat < h.next.nat) {B : Nat} (hB : B ≤ a.nat) {t kt et : TypeId} (ht : P.underlying t = some (.map kt et)) {x : AV} {u : Value} (hx : VR m x u) {b : AB}
    (hb : (x = .nilm ∧ b = .it none 0 [] 0) ∨ ∃ c es cl,x = .map c ∧ h.get c = some (.mp es cl) ∧ b = .it (some c) cl [] cl) :
    ∃ m' w' r,(Instr.range t u).run P w = .ok r w' ∧ VR m' (.ptr a 0) r ∧ HR tb N m' (h.set a b) w' ∧ Go B m h w m' (h.set a b) w' ∧ ∀ c,c ≠ a → m' c = m c:=by
  rcases hb with ⟨rfl,rfl⟩ | ⟨c,es,cl,rfl,hg,rfl⟩
  · cases hx
    obtain ⟨h1,h2⟩:=hr.fresh_blk ha hn hB (b:=.it none 0 [] 0) (o:=.mapIter none 0 #[] 0) (sz:=0) (fun m' _=>.itN) rfl
    refine ⟨_,_,.pointer (some ⟨w.heap.size,0,none⟩),?_,.ptr 0 (Mp.put_same _ _ _),h1,h2,fun c hc=>Mp.put_ne _ _ hc⟩
    simp only [Instr.range,Sem.run_bind,run_underlying ht,Result.andThen_ok,Sem.run_pure,run_newObj]
    rfl
  · cases hx with | map hm =>
    obtain ⟨i',sz',xs,g1,g2,g3⟩:=hr.mp hg
    rw [hm] at g1; injection g1 with g1; injection g1 with e1 e2; subst e1 e2
    have hnc : ∀ cs t fz,Obj.map xs cl ≠ .cells cs t fz:=by simp
    obtain ⟨h1,h2⟩:=hr.fresh_blk ha hn hB (b:=.it (some c) cl [] cl) (o:=.mapIter (some _) cl #[] cl) (sz:=0) (fun m' hm'=>.it (hm' _ _ hm)) rfl
    refine ⟨_,_,.pointer (some ⟨w.heap.size,0,none⟩),?_,.ptr 0 (Mp.put_same _ _ _),h1,h2,fun c hc=>Mp.put_ne _ _ hc⟩
    simp only [Instr.range,Sem.run_bind,run_underlying ht,Result.andThen_ok,run_getObj_ok g2 hnc,Sem.run_pure,run_newObj]
    rfl
theorem EntR.filter {p : Ent → Bool} {q : MapEntry → Bool} (hpq : ∀ e x,e.born = x.born → p e = q x) : ∀ {l : List Ent} {k : List MapEntry},EntR m l k → EntR m (l.filter p) (k.filter q)
  | _,_,.nil=>.nil
  | _,_,.cons (e:=e) (x:=x) a b c d=>by
    rw [List.filter_cons,List.filter_cons,hpq e x c]
    split
    · exact .cons a b c (d.filter hpq)
    · exact d.filter hpq
theorem EntR.all {p : Ent → Bool} {q : MapEntry → Bool} (hpq : ∀ e x,e.born = x.born → p e = !(q x)) : ∀ {l : List Ent} {k : List MapEntry},EntR m l k → l.any p = !(k.all q)
  | _,_,.nil=>rfl
  | _,_,.cons (e:=e) (x:=x) a b c d=>by
    rw [List.any_cons,List.all_cons,hpq e x c,d.all hpq,Bool.not_and]
theorem next_ok (hr : HR tb N m h w) {x : AV} {u : Value} (hx : VR m x u) {v : AV} {h' : H} (hv : nextA h x = some (v,h')) (ty : TypeId) (B : Nat) :
    ∃ w' r,(Instr.next u false ty).run P w = .ok r w' ∧ VR m v r ∧ HR tb N m h' w' ∧ Go B m h w m h' w':=by
  unfold nextA at hv
  split at hv <;> try (cases hv; done)
  next r =>
  cases hx with | ptr _ hm =>
  split at hv <;> try (cases hv; done)
  · next hg =>
    injection hv with hv; injection hv with e1 e2; subst e1 e2
    obtain ⟨i,sz,o,g1,g2,g3⟩:=hr.blk _ _ hg
    rw [hm] at g1; injection g1 with g1; injection g1 with e1 e2; subst e1 e2
    cases g3
    refine ⟨w,.tuple #[.bool false],?_,.tup (.cons (.bool _) .nil),hr,Go.refl _ _ _ _⟩
    unfold Instr.next
    simp only [Sem.run_bind,run_getObj_ok g2 (by simp),Result.andThen_ok,Sem.run_pure]
  · next c since seen st hg =>
    split at hv <;> try (cases hv; done)
    next es cl hgm =>
    obtain ⟨i,sz,o,g1,g2,g3⟩:=hr.blk _ _ hg
    rw [hm] at g1; injection g1 with g1; injection g1 with e1 e2; subst e1 e2
    cases g3 with
    | @it _ ic _ sz _ _ _ hmc =>
    obtain ⟨i2,s2,xs,q1,q2,q3⟩:=hr.mp hgm
    rw [hmc] at q1; injection q1 with q1; injection q1 with e1 e2; subst e1 e2
    have hncm : ∀ cs t fz,Obj.map xs cl ≠ .cells cs t fz:=by simp
    cases hok : seen.isEmpty || (es.isEmpty || es.any fun e=>Nat.blt e.born st) with
    | false=>rw [hok] at hv; cases hv
    | true =>
      rw [hok,cond_true] at hv
      have hall:=EntR.all (p:=fun e=>Nat.blt e.born st) (q:=fun x=>decide (x.born ≥ st)) (fun e x hb=>by
        rw [hb]
        by_cases hlt : x.born < st
        · rw [blt_t hlt]; simp; omega
        · rw [blt_f (Nat.le_of_not_lt hlt)]; simp; omega) q3
      have hem : es.isEmpty = xs.isEmpty:=by
        have:=q3.len
        cases es <;> simp at this ⊢
        · simpa [Array.isEmpty] using (by omega : xs.size = 0)
        · intro e; rw [e] at this; simp at this
      have hcond : ((!seen.toArray.isEmpty && !xs.isEmpty && xs.all fun x=>decide (x.born ≥ st)) = true) → False:=by
        intro e
        simp only [Bool.and_eq_true,Bool.not_eq_true'] at e
        obtain ⟨⟨f1,f2⟩,f3⟩:=e
        have f1' : seen.isEmpty = false:=by cases seen <;> simp at f1 ⊢
        rw [f1',hem,f2,hall] at hok
        rw [Array.all_toList] at hok
        rw [f3] at hok
        cases hok
      have hfil:=EntR.filter (p:=fun e=>!(seen.contains e.born)) (q:=fun x=>!(seen.toArray.contains x.born)) (fun e x hb=>by rw [hb]; simp) q3
      have hleft : (xs.filter fun x=>!(seen.toArray.contains x.born)).toList = xs.toList.filter fun x=>!(seen.toArray.contains x.born):=Array.toList_filter ..
      split at hv <;> try (cases hv; done)
      · next hl0 =>
        injection hv with hv; injection hv with e1 e2; subst e1 e2
        rw [hl0] at hfil
        have hk : xs.filter (fun x=>!(seen.toArray.contains x.born)) = #[]:=by
          apply Array.toList_inj.1
          rw [hleft]
          generalize hq : xs.toList.filter _ = l at hfil
          cases hfil; rfl
        refine ⟨w,.tuple #[.bool false],?_,.tup (.cons (.bool _) .nil),hr,Go.refl _ _ _ _⟩
        unfold Instr.next
        simp only [Sem.run_bind,run_getObj_ok g2 (by simp),run_getObj_ok q2 hncm,Result.andThen_ok]
        rw [if_neg (fun e=>hcond e)]
        simp only [hk]
        have hc : ((if (Array.filter (fun x : MapEntry=>decide (x.born < since)) #[]).isEmpty = true then #[none] else #[]) ++ Array.map some (Array.filter (fun x : MapEntry=>decide (x.born < since)) #[] ++ Array.filter (fun x : MapEntry=>decide (x.born ≥ since)) #[])) = #[none]:=by simp
        rw [hc]
        have hf : (Question.mapNext (#[none] : Array (Option MapEntry)).size).forced = true:=rfl
        simp only [Sem.run_bind,run_choose,hf,if_true,Result.andThen_ok]
        rfl
      · next e hl1 =>
        cases hbs : Nat.blt e.born since with
        | false=>rw [hbs] at hv; cases hv
        | true =>
          rw [hbs,cond_true] at hv
          injection hv with hv; injection hv with e1 e2; subst e1 e2
          have hlt:=blt_lt hbs
          rw [hl1] at hfil
          obtain ⟨y,hy,ek,ev,eb⟩ : ∃ y,xs.toList.filter (fun x=>!(seen.toArray.contains x.born)) = [y] ∧ VR m e.k y.key ∧ VR m e.v y.val ∧ e.born = y.born:=by
            generalize xs.toList.filter _ = l at hfil
            cases hfil with | cons a b c d=>cases d; exact ⟨_,rfl,a,b,c⟩
          have hk : xs.filter (fun x=>!(seen.toArray.contains x.born)) = #[y]:=by
            apply Array.toList_inj.1
            rw [hleft,hy]
          have hyb : y.born < since:=by omega
          have hncr : ∀ cs t fz,Obj.mapIter (some ic) since seen.toArray st ≠ .cells cs t fz:=by simp
          obtain ⟨h1,h2⟩:=hr.turn hg rfl hm (b':=.it (some c) since (seen ++ [e.born]) cl) (o':=.mapIter (some ic) since (seen.toArray.push y.born) cl) (by
            have e3 : seen.toArray.push y.born = (seen ++ [y.born]).toArray:=by simp
            rw [eb,e3]
            exact .it hmc) rfl B
          refine ⟨_,.tuple #[.bool true,y.key,y.val],?_,.tup (.cons (.bool _) (.cons ek (.cons ev .nil))),h1,h2⟩
          unfold Instr.next
          simp only [Sem.run_bind,run_getObj_ok g2 hncr,run_getObj_ok q2 hncm,Result.andThen_ok]
          rw [if_neg (fun e=>hcond e)]
          simp only [hk]
          have hc : ((if (Array.filter (fun x : MapEntry=>decide (x.born < since)) #[y]).isEmpty = true then #[none] else #[]) ++ Array.map some (Array.filter (fun x : MapEntry=>decide (x.born < since)) #[y] ++ Array.filter (fun x : MapEntry=>decide (x.born ≥ since)) #[y])) = #[some y]:=by
            have n1 : ¬ since ≤ y.born:=by omega
            have f1 : Array.filter (fun x : MapEntry=>decide (x.born < since)) #[y] = #[y]:=by
              apply Array.toList_inj.1
              rw [Array.toList_filter]
              simp [hyb]
            have f2 : Array.filter (fun x : MapEntry=>decide (x.born ≥ since)) #[y] = #[]:=by
              apply Array.toList_inj.1
              rw [Array.toList_filter]
              simp [n1]
            rw [f1,f2]
            simp
          rw [hc]
          have hf : (Question.mapNext (#[some y] : Array (Option MapEntry)).size).forced = true:=rfl
          have hget : (#[some y] : Array (Option MapEntry))[0]? = some (some y):=rfl
          simp only [Sem.run_bind,run_choose,hf,if_true,Result.andThen_ok,hget,run_setObj_pw g2 hncr,Sem.run_pure]
theorem clear_ok (hr : HR tb N m h w) {t e ty : TypeId} (ht : P.underlying t = some (.slice e)) {z : AV} (hz : zeroA P e = some z) {zs : List AV} (hzs : cellsA z = some zs) {a : Pos} {o n q : Nat} {u : Value} (hx : VR m (.slc a o n q) u) (hn : 0 < n) {h' : H} (hs : h.store a o (repL zs n) = some h') (B : Nat) :
    ∃ w',(Builtin.clear_ #[t] ty #[u]).run P w = .ok (.tuple #[]) w' ∧ HR tb N m h' w' ∧ Go B m h w m h' w':=by
  obtain ⟨_,zv,_,_,hzr,hzrun⟩:=zeroA_ok (m:=m) hz
  have hc:=repL_ok (cellsA_ok hzr hzs) n
  cases hx with
  | slc0 _ _ _=>omega
  | slc hm _ _ _ =>
    obtain ⟨w',h1,h2,h3⟩:=store_run (P:=P) hr hs hm hc B
    refine ⟨w',?_,h2,h3⟩
    have e0 : (#[t] : Array TypeId)[0]? = some t:=rfl
    obtain ⟨n',rfl⟩ : ∃ n',n = n' + 1:=⟨n - 1,by omega⟩
    have e1 : ∀ x : Value,(#[x] : Array Value)[0]? = some x:=fun _=>rfl
    unfold Builtin.clear_
    simp only [e0,e1,Sem.run_bind,run_underlying ht,Result.andThen_ok,hzrun,Builtin.zeroCells]
    rw [h1]
    rfl
theorem copy_ok (hr : HR tb N m h w) {t t' e ty : TypeId} {i : TypeInfo} (ht : P.underlying t = some (.slice e)) (hi : P.info? e = some i) {d x : AV} {ud ux : Value} (hd : VR m d ud) (hx : VR m x ux) {k : Nat} {l : List AV} (hsrc : srcA h i.size x = some (k,l)) {a : Pos} {o n z : Nat} (hda : d = .slc a o n z) (hn : 0 < n) (hkn : k ≤ n) {h' : H}
    (hs : h.store a o l = some h') (B : Nat) :
    ∃ w',(Builtin.copy_ #[t,t'] ty #[ud,ux]).run P w = .ok (goInt (k : Nat)) w' ∧ HR tb N m h' w' ∧ Go B m h w m h' w':=by
  subst hda
  obtain ⟨hk,xs,hxl,hxn,hxf⟩:=src_ok (P:=P) hr hx hsrc
  cases hd with
  | slc0 _ _ _=>omega
  | @slc _ ib sz _ _ _ cap hm _ _ _ =>
    have hmin : Nat.min k n = k:=Nat.min_eq_left hkn
    obtain ⟨w',h1,h2,h3⟩:=store_run (P:=P) hr hs hm hxl B
    refine ⟨w',?_,h2,h3⟩
    have e0 : (#[t,t'] : Array TypeId)[0]? = some t:=rfl
    have e2 : (#[Value.slice (some ⟨ib,o,none⟩) n cap,ux] : Array Value)[0]? = some (.slice (some ⟨ib,o,none⟩) n cap):=rfl
    have e3 : (#[Value.slice (some ⟨ib,o,none⟩) n cap,ux] : Array Value)[1]? = some ux:=rfl
    unfold Builtin.copy_
    simp only [e0,e2,e3,Sem.run_bind,run_underlying ht,Result.andThen_ok,hk,run_sizeOf' hi,hmin,hxf,h1,Sem.run_pure]
theorem appZ_ok (hr : HR tb N m h w) {a : Pos} (ha : m a = none) (hn : a.nat < h.next.nat) {B : Nat} (hB : B ≤ a.nat) {t ti e ty : TypeId} {ki : IntKind} {i : TypeInfo} {z : AV} (ht : P.underlying t = some (.slice e)) (hti : P.underlying ti = some (.int ki)) (hi : P.info? e = some i) (hz : zeroA P e = some z) {zs : List AV} (hzs : cellsA z = some zs) (hpos : 0 < i.size) (hzl : zs.length = i.size) (hby : i.bytes ≤ 1000)
    {k : Nat} (hk0 : 0 < k) (hk : k ≤ 1000000000) (kk : IntKind) :
    ∃ m' w' u,(Builtin.append_ #[t,ti] ty #[.slice none 0 0,.int kk (k : Int)]).run P w = .ok u w' ∧ VR m' (.slc a 0 k i.size) u ∧ HR tb N m' (h.set a (AB.ofL (repL zs k))) w' ∧ Go B m h w m' (h.set a (AB.ofL (repL zs k))) w' ∧ ∀ b,b ≠ a → m' b = m b:=by
  obtain ⟨i',zv,hi',hzz,hzr,_⟩:=zeroA_ok (m:=m) hz
  rw [hi] at hi'; injection hi' with hi'; subst hi'
  have hc:=cellsA_ok hzr hzs
  have hzv : zv.cells.size = i.size:=by have:=hc.len; simp at this; omega
  have hrd : HR tb N m h w.drew:=hr.congr rfl
  have e0 : (#[t,ti] : Array TypeId)[0]? = some t:=rfl
  have e1 : (#[t,ti] : Array TypeId)[1]? = some ti:=rfl
  have e2 : (#[Value.slice none 0 0,.int kk (k : Int)] : Array Value)[0]? = some (.slice none 0 0):=rfl
  have e3 : (#[Value.slice none 0 0,.int kk (k : Int)] : Array Value)[1]? = some (.int kk (k : Int)):=rfl
  have hinfo : ∀ w,(typeInfo e).run P w = .ok i w:=fun w=>by simp only [typeInfo,Sem.run_bind,run_program,Result.andThen_ok,hi,Sem.run_pure]
  have hzrun : ∀ w,(zeroValue e).run P w = .ok zv w:=fun w=>by simp only [zeroValue,hinfo,Sem.run_bind,Result.andThen_ok,hzz,Sem.run_pure]
  have w1 : IntKind.i64.wrap (k : Int) = k:=Go.IntWalk.i64_in _ (by omega)
  have hkb : k * i.bytes ≤ 1000000000 * 1000:=Nat.mul_le_mul hk hby
  have c0 : ¬ (k : Int) < 0:=by omega
  have c1 : ¬ (k : Int) * (i.bytes : Int) > 2 ^ 48:=by
    have : (k : Int) * (i.bytes : Int) = ((k * i.bytes : Nat) : Int):=by simp
    rw [this]; omega
  have c2 : ¬ (((0 + k : Nat) : Int) > IntKind.i64.max ∧ (True ∨ i.bytes = 0)):=by
    have : IntKind.i64.max = 9223372036854775807:=by decide
    rw [this]; omega
  have c3 : ¬ Builtin.nextslicecap (0 + k) 0 * i.bytes > 2 ^ 48:=by
    have:=growslice_fits (need:=0 + k) (old:=0) (bytes:=i.bytes) (by omega) (by rw [Nat.zero_add]; omega)
    omega
  have c4 : ¬ 0 + k ≤ 0:=by omega
  have c5 : ¬ k * i.size = 0:=by
    have:=Nat.mul_pos hk0 hpos
    omega
  have hge:=grownCap_ge w (0 + k) 0 e
  have hle:=grownCap_le_maxLen w (0 + k) 0 e (by unfold maxLen; omega)
  have hle' : grownCap w (0 + k) 0 e ≤ 9223372036854775807:=by unfold maxLen at hle; omega
  have hrun : (Builtin.append_ #[t,ti] ty #[.slice none 0 0,.int kk (k : Int)]).run P w = .ok (.slice (some ⟨w.heap.size,0,none⟩) (0 + k) (grownCap w (0 + k) 0 e)) (nw w.drew (.cells (#[] ++ Builtin.zeroCells zv.cells k ++ Builtin.zeroCells zv.cells (grownCap w (0 + k) 0 e - (0 + k))) e)):=by
    simp only [Builtin.append_,e0,e1,e2,e3,Sem.run_bind,run_underlying ht,run_underlying hti,Result.andThen_ok,run_sizeOf' hi,Sem.run_pure,if_true,asInt,asIntOf,w1,if_neg c0,hinfo,if_neg c1,Int.toNat_natCast,if_neg c4]
    rw [if_neg c2]
    simp only [Sem.run_bind,hinfo,Result.andThen_ok,if_neg c3,run_choose,Question.forced,Bool.false_eq_true,if_false,run_askRoom,Bool.not_true,Builtin.firstCells,Sem.run_pure,if_neg c5,hzrun,newRow,run_newObj]
    rfl
  have hge : k ≤ grownCap w (0 + k) 0 e:=by have:=hge; omega
  have hcs:=grow_size (A:=#[]) (C:=Builtin.zeroCells zv.cells k) (Z:=zv.cells) (n:=0) (k:=k) (c:=grownCap w (0 + k) 0 e) (z:=i.size) (by simp) (by simp [Builtin.zeroCells,hzv]) hzv (by omega)
  have hrep:=repL_ok hc k
  have hrl : (repL zs k).length = k * i.size:=by rw [(repL_get zs k).1,hzl]
  have hkc : k * i.size ≤ grownCap w (0 + k) 0 e * i.size:=Nat.mul_le_mul_right _ hge
  obtain ⟨g1,g2⟩:=hrd.fresh_blk ha hn hB (b:=AB.ofL (repL zs k)) (o:=.cells (#[] ++ Builtin.zeroCells zv.cells k ++ Builtin.zeroCells zv.cells (grownCap w (0 + k) 0 e - (0 + k))) e) (sz:=grownCap w (0 + k) 0 e * i.size) (fun m' hm'=>by
    refine .cells hcs (by rw [hrl]; exact hkc) (fun j hj=>?_) (fun _=>rfl) (mk_new hrep)
    have hx : (repL zs k)[j]? = some ((repL zs k)[j]'hj):=List.getElem?_eq_getElem hj
    obtain ⟨u,q1,q2⟩:=hrep.get hx
    rw [hrl] at hj
    refine ⟨_,u,?_,?_,q2.mono hm'⟩
    · rw [T.at_layN,if_pos ⟨Nat.zero_le j,by omega⟩,Nat.sub_zero]; exact hx
    · rw [Array.empty_append,Array.getElem?_append_left (by simp [Builtin.zeroCells,hzv]; exact hj)]
      rw [Array.getElem?_toList] at q1
      exact q1) rfl
  refine ⟨_,_,_,hrun,?_,g1,g2.congr rfl rfl rfl rfl,fun b hb=>Mp.put_ne _ _ hb⟩
  have h0 : ∀ c,Value.slice (some ⟨w.heap.size,0,none⟩) (0 + k) c = .slice (some ⟨w.heap.size,0,none⟩) k c:=fun c=>by rw [Nat.zero_add]
  rw [h0]
  exact .slc (Mp.put_same _ _ _) hge (by rw [Nat.zero_add]; exact Nat.le_refl _) hle'
theorem bytes_heap (w : World) (e : TypeId) (s : ByteArray) : (Lib.bytesWorld w e s).heap = (nw w.drew (.cells (Lib.bytesCells w e s) e ((Lib.bytesCells w e s).size,(Lib.bytesCells w e s).size + 1))).heap:=by
  have hd : w.drew.heap.size = w.heap.size:=rfl
  refine Array.ext_getElem? fun j=>?_
  rcases Nat.lt_trichotomy j w.heap.size with h | h | h
  · rw [Lib.bytesWorld_at_old w e s j h,nw_old _ _ (by rw [hd]; exact h)]; rfl
  · subst h
    have:=nw_new w.drew (.cells (Lib.bytesCells w e s) e ((Lib.bytesCells w e s).size,(Lib.bytesCells w e s).size + 1))
    rw [hd] at this
    rw [Lib.bytesWorld_at_new,this]
  · rw [Array.getElem?_eq_none (by rw [Lib.bytesWorld_size]; omega),Array.getElem?_eq_none (by rw [nw_size,hd]; omega)]
theorem bytes_ok (hr : HR tb N m h w) {a : Pos} (ha : m a = none) (hn : a.nat < h.next.nat) {B : Nat} (hB : B ≤ a.nat) {src dst e : TypeId} (hs : P.underlying src = some .string) (hd : P.underlying dst = some (.slice e)) (he : P.underlying e = some (.int .u8))
    {s : ByteArray} (hl : s.size ≤ 1000000000) : ∃ m' w' u,(convert src dst (.string s)).run P w = .ok u w' ∧ VR m' (.slc a 0 s.size 1) u ∧ HR tb N m' (h.set a (.cells true s.size (T.layN .leaf 0 (bytesL (s.data.toList.map UInt8.toNat))))) w' ∧
      Go B m h w m' (h.set a (.cells true s.size (T.layN .leaf 0 (bytesL (s.data.toList.map UInt8.toNat))))) w' ∧ ∀ b,b ≠ a → m' b = m b:=by
  have hge:=grownCap_ge w s.size 0 e
  have hle:=grownCap_le_maxLen w s.size 0 e (by unfold maxLen; omega)
  have hle' : grownCap w s.size 0 e ≤ 9223372036854775807:=by unfold maxLen at hle; omega
  have hsz : (Lib.bytesCells w e s).size = grownCap w s.size 0 e:=by
    have : s.data.size = s.size:=rfl
    simp [Lib.bytesCells,this]; omega
  have hrd : HR tb N m h w.drew:=hr.congr rfl
  obtain ⟨g1,g2⟩:=hrd.fresh_blk0 ha hn hB (b:=.cells true s.size (T.layN .leaf 0 (bytesL (s.data.toList.map UInt8.toNat)))) (o:=.cells (Lib.bytesCells w e s) e ((Lib.bytesCells w e s).size,(Lib.bytesCells w e s).size + 1)) (sz:=(Lib.bytesCells w e s).size) (fun m' hm'=>by
    refine .cells rfl (by rw [hsz]; exact hge) (fun j hj=>?_) (fun h=>by cases h) (fun q hq=>?_)
    rotate_left
    · rw [← mkP_at,T.at_layN] at hq
      split at hq
      · simp [bytesL] at hq
      · rw [mkP_at,T.get_leaf] at hq; cases hq
    have hj2 : j < s.data.size:=hj
    refine ⟨.int .u8 (.ofNat s.data[j].toNat),.int .u8 (s.data[j].toNat : Int),?_,?_,.int _ _⟩
    · rw [T.at_layN,if_pos ⟨Nat.zero_le j,by simp [bytesL]; exact hj⟩,Nat.sub_zero]
      have : s.data[j]? = some s.data[j]:=Array.getElem?_eq_getElem hj2
      simp [bytesL,this]
    · have : s.data[j]? = some s.data[j]:=Array.getElem?_eq_getElem hj2
      simp only [Lib.bytesCells,Array.getElem?_append,Array.size_map,if_pos hj2,Array.getElem?_map,this,Option.map_some])
  refine ⟨_,_,_,Lib.run_convert_string_bytes w src dst e s hs hd he,.slc (Mp.put_same _ _ _) hge (by rw [hsz]; omega) hle',g1.congr (bytes_heap w e s),?_,fun b hb=>Mp.put_ne _ _ hb⟩
  have g3:=g2.congr (w:=w) rfl rfl rfl rfl
  have hh:=bytes_heap w e s
  exact ⟨g3.le,by rw [hh]; exact g3.keep,g3.img,g3.imgA,g3.new,g3.next,by rw [hh]; exact g3.size,rfl,rfl,rfl⟩
end
end Am
end Go.Proofs.YtadbcnekkceoaaaGreatDoor
namespace Go.Proofs.YtadbcnekkceoaaaGreatDoor
namespace Am
def hardF (P : Program) (op : Op) (lk : Operand → AV) (h : H) (a : Pos) : Option (AV × H) :=
  match op with
  | .store t p x=>match lk p with
    | .ptr b o=>match cellsA (lk x),P.info? t with
      | some cs,some i=>bif Nat.beq cs.length i.size then (match h.store b o cs with | some h'=>some (.junk,h') | none=>none) else none
      | _,_=>none
    | _=>none
  | .mapUpdate t q k v=>match P.underlying t,lk q with
    | some (.map kt _),.map b=>match h.get b with
      | some (.mp es cl)=>(match lookE P kt (lk k) es with | some r=>some (.junk,h.set b (updM (lk k) (lk v) es cl r)) | none=>none)
      | _=>none
    | _,_=>none
  | .insert t q k v=>match P.underlying t,lk q with
    | some (.map kt _),.map b=>match h.get b with
      | some (.mp es cl)=>(match lookE P kt (lk k) es with | some r=>some (.junk,h.set b (updM (lk k) (lk v) es cl r)) | none=>none)
      | _=>none
    | _,_=>none
  | .mapEntry t q k=>match P.underlying t,lk q with
    | some (.map kt et),.map b=>match h.get b,zeroA P et with
      | some (.mp es cl),some z=>match lookE P kt (lk k) es with
        | some none=>some (.tup [z,.goInt cl],h.set b (updM (lk k) z es cl none))
        | some (some (j,v))=>(match es[j]? with | some e=>some (.tup [v,.goInt e.born],h) | none=>none)
        | none=>none
      | _,_=>none
    | _,_=>none
  | .entryStore _ q s v=>match lk q,natA (lk s) with
    | .map b,some s=>match h.get b with
      | some (.mp es cl)=>(match bornE s es 0 with | some j=>some (.junk,h.set b (.mp (modE (lk v) j es) cl)) | none=>none)
      | _=>none
    | _,_=>none
  | .range t x=>match P.underlying t with
    | some (.map _ _)=>match lk x with
      | .nilm=>some (.ptr a 0,h.set a (.it none 0 [] 0))
      | .map c=>(match h.get c with | some (.mp _ cl)=>some (.ptr a 0,h.set a (.it (some c) cl [] cl)) | _=>none)
      | _=>none
    | _=>none
  | .next i false=>nextA h (lk i)
  | .convert s d x=>match P.underlying s,P.underlying d,lk x with
    | some .string,some (.slice e),.str l=>(match P.underlying e with
      | some (.int .u8)=>bif Nat.ble l.length 1000000000 then some (.slc a 0 l.length 1,h.set a (.cells true l.length (T.layN .leaf 0 (bytesL l)))) else none
      | _=>none)
    | _,_,_=>none
  | .call { callee:=.builtin b,args:=args,argTypes:=ts }=>match b,ts.toList,args.toList with
    | .append,[t,t'],[s,x]=>match P.underlying t,P.underlying t' with
      | some (.slice e),some (.slice _)=>match P.info? e,zeroA P e with
        | some i,some z=>match cellsA z,srcA h i.size (lk x) with
          | some zs,some (k,l)=>bif Nat.blt 0 i.size && Nat.beq zs.length i.size && Nat.ble i.bytes 1000 then appA h a i.size k l (lk s) else none
          | _,_=>none
        | _,_=>none
      | some (.slice e),some (.int _)=>match P.info? e,zeroA P e,lk s,natA (lk x) with
        | some i,some z,.nils,some k=>match cellsA z with
          | some zs=>bif Nat.blt 0 i.size && Nat.beq zs.length i.size && Nat.ble i.bytes 1000 && Nat.blt 0 k && Nat.ble k 1000000000 then some (.slc a 0 k i.size,h.set a (AB.ofL (repL zs k))) else none
          | none=>none
        | _,_,_,_=>none
      | some (.slice e),some .string=>match P.info? e,zeroA P e,lk x with
        | some i,some z,.str l=>match cellsA z with
          | some zs=>bif Nat.beq i.size 1 && Nat.beq zs.length i.size && Nat.ble i.bytes 1000 then appM (some e) h a 1 l.length (bytesL l) (lk s) else none
          | none=>none
        | some i,some z,.txt l=>match cellsA z with
          | some zs=>bif Nat.beq i.size 1 && Nat.beq zs.length i.size && Nat.ble i.bytes 1000 then appM (some e) h a 1 l.length l (lk s) else none
          | none=>none
        | _,_,_=>none
      | _,_=>none
    | .copy,[t,_],[d,x]=>match P.underlying t with
      | some (.slice e)=>match P.info? e,lk d with
        | some i,.slc b o n _=>match srcA h i.size (lk x) with
          | some (k,l)=>bif Nat.blt 0 n && Nat.ble k n then (match h.store b o l with | some h'=>some (.goInt k,h') | none=>none) else none
          | none=>none
        | _,_=>none
      | _=>none
    | .clear,[t],[x]=>match P.underlying t with
      | some (.slice e)=>match zeroA P e,lk x with
        | some z,.slc b o n _=>match cellsA z with
          | some zs=>bif Nat.beq n 0 then some (.tup [],h) else (match h.store b o (repL zs n) with | some h'=>some (.tup [],h') | none=>none)
          | none=>none
        | _,.nils=>some (.tup [],h)
        | _,.slcE _ _ _=>some (.tup [],h)
        | _,_=>none
      | _=>none
    | .delete,[t,_],[q,k]=>match P.underlying t,lk q with
      | some (.map kt _),.map b=>match h.get b with
        | some (.mp es cl)=>(match lookE P kt (lk k) es with | some r=>some (.tup [],h.set b (.mp (delE r es) cl)) | none=>none)
        | _=>none
      | _,_=>none
    | _,_,_=>none
  | _=>none
section
variable {P : Program} {m : Mp} {w : World} {tb : Tb} {N : Nat → Nat} {h : H}
theorem exec_skip {s : Sem Unit} {w' : World} (h : s.run P w = .ok () w') : (do s; pure Next.skip : Sem Next).run P w = .ok .skip w':=by
  simp only [Sem.run_bind,h,Result.andThen_ok,Sem.run_pure]
theorem list_args {α β : Type} {f : α → β} {xs : Array α} {l : List α} (h : xs.toList = l) : xs.map f = (l.map f).toArray:=by
  subst h
  rw [← Array.toList_map]
set_option maxHeartbeats 8000000 in
theorem hard_ok (hr : HR tb N m h w) {o : Oper} {lk : Operand → AV} {ρ : Operand → Value} {a : Pos} {v : AV} {h' : H} (hv : hardF P o.op lk h a = some (v,h')) (hl : ∀ x,VR m (lk x) (ρ x)) (ha : m a = none) (hn : a.nat < h.next.nat) {B : Nat} (hB : B ≤ a.nat) : HardOk tb N B m h w a v h' ((execOp ρ o).run P w):=by
  unfold execOp
  generalize o.op = op at hv ⊢
  cases op <;> simp only [hardF] at hv <;> (try (cases hv; done)) <;> dsimp only
  case store t p x =>
    split at hv <;> try (cases hv; done)
    next b q he =>
    split at hv <;> try (cases hv; done)
    next cs i hcs hi =>
    cases hb : Nat.beq cs.length i.size with
    | false=>rw [hb] at hv; cases hv
    | true =>
      rw [hb,cond_true] at hv
      split at hv <;> try (cases hv; done)
      next h2 hs =>
      injection hv with hv; injection hv with e1 e2; subst e1 e2
      obtain ⟨w',g1,g2,g3⟩:=store_ok (P:=P) hr he (hl p) (hl x) hcs hi (Nat.eq_of_beq_eq_true hb) hs B
      exact ⟨m,w',.inr ⟨exec_skip g1,rfl⟩,g2,g3,fun _ _=>rfl⟩
  case mapUpdate t q k x =>
    have hq:=hl q
    split at hv <;> try (cases hv; done)
    next kt et b ht he =>
    rw [he] at hq
    split at hv <;> try (cases hv; done)
    next es cl hg =>
    split at hv <;> try (cases hv; done)
    next r hlk =>
    injection hv with hv; injection hv with e1 e2; subst e1 e2
    generalize ρ q = u at hq ⊢
    cases hq with | map hm =>
    obtain ⟨w',g1,g2,g3⟩:=mapUpdate_ok (P:=P) hr ht hg hm (hl k) (hl x) hlk B
    exact ⟨m,w',.inr ⟨exec_skip g1,rfl⟩,g2,g3,fun _ _=>rfl⟩
  case insert t q k x =>
    have hq:=hl q
    split at hv <;> try (cases hv; done)
    next kt et b ht he =>
    rw [he] at hq
    split at hv <;> try (cases hv; done)
    next es cl hg =>
    split at hv <;> try (cases hv; done)
    next r hlk =>
    injection hv with hv; injection hv with e1 e2; subst e1 e2
    generalize ρ q = u at hq ⊢
    cases hq with | map hm =>
    obtain ⟨w',g1,g2,g3⟩:=mapUpdate_ok (P:=P) hr ht hg hm (hl k) (hl x) hlk B
    exact ⟨m,w',.inr ⟨exec_skip g1,rfl⟩,g2,g3,fun _ _=>rfl⟩
  case mapEntry t q k =>
    have hq:=hl q
    split at hv <;> try (cases hv; done)
    next kt et b ht he =>
    rw [he] at hq
    split at hv <;> try (cases hv; done)
    next es cl z hg hz =>
    generalize ρ q = u at hq ⊢
    cases hq with | map hm =>
    split at hv <;> try (cases hv; done)
    · next hlk =>
      injection hv with hv; injection hv with e1 e2; subst e1 e2
      obtain ⟨w',u,g1,g2,g3,g4⟩:=(mapEntry_ok (P:=P) hr ht hg hm (hl k) hz hlk B).1 rfl
      exact ⟨m,w',.inl ⟨u,exec_value g1,g2⟩,g3,g4,fun _ _=>rfl⟩
    · next j x hlk =>
      split at hv <;> try (cases hv; done)
      next e hej =>
      injection hv with hv; injection hv with e1 e2; subst e1 e2
      obtain ⟨w',u,g1,g2,g3,g4⟩:=(mapEntry_ok (P:=P) hr ht hg hm (hl k) hz hlk B).2 j x e rfl hej
      exact ⟨m,w',.inl ⟨u,exec_value g1,g2⟩,g3,g4,fun _ _=>rfl⟩
  case entryStore t q s x =>
    have hq:=hl q
    split at hv <;> try (cases hv; done)
    next b sn he hs =>
    rw [he] at hq
    split at hv <;> try (cases hv; done)
    next es cl hg =>
    split at hv <;> try (cases hv; done)
    next j hj =>
    injection hv with hv; injection hv with e1 e2; subst e1 e2
    obtain ⟨kk,_,hsv⟩:=natA_ok (hl s) hs
    generalize ρ q = u at hq ⊢
    cases hq with | map hm =>
    obtain ⟨w',g1,g2,g3⟩:=entryStore_ok (P:=P) (t:=t) hr hg hm (hl x) hsv hj B
    exact ⟨m,w',.inr ⟨exec_skip g1,rfl⟩,g2,g3,fun _ _=>rfl⟩
  case range t x =>
    have hx:=hl x
    generalize ρ x = u at hx ⊢
    split at hv <;> try (cases hv; done)
    next kt et ht =>
    split at hv <;> try (cases hv; done)
    · next he =>
      injection hv with hv; injection hv with e1 e2; subst e1 e2
      obtain ⟨m',w',r,g1,g2,g3,g4,g5⟩:=range_ok (P:=P) hr ha hn hB ht hx (.inl ⟨he,rfl⟩)
      exact ⟨m',w',.inl ⟨r,exec_value g1,g2⟩,g3,g4,g5⟩
    · next c he =>
      split at hv <;> try (cases hv; done)
      next es cl hg =>
      injection hv with hv; injection hv with e1 e2; subst e1 e2
      obtain ⟨m',w',r,g1,g2,g3,g4,g5⟩:=range_ok (P:=P) hr ha hn hB ht hx (.inr ⟨c,es,cl,he,hg,rfl⟩)
      exact ⟨m',w',.inl ⟨r,exec_value g1,g2⟩,g3,g4,g5⟩
  case next i s =>
    cases s <;> dsimp only at hv <;> try (cases hv; done)
    obtain ⟨w',r,g1,g2,g3,g4⟩:=next_ok (P:=P) hr (hl i) hv o.type B
    exact ⟨m,w',.inl ⟨r,exec_value g1,g2⟩,g3,g4,fun _ _=>rfl⟩
  case convert s d x =>
    have hx:=hl x
    split at hv <;> try (cases hv; done)
    next e l hs hd he =>
    rw [he] at hx
    split at hv <;> try (cases hv; done)
    next hu =>
    cases hb : Nat.ble l.length 1000000000 with
    | false=>rw [hb] at hv; cases hv
    | true =>
      rw [hb,cond_true] at hv
      injection hv with hv; injection hv with e1 e2; subst e1 e2
      have hbl:=ble_le hb
      generalize ρ x = u at hx ⊢
      cases hx with | str bs =>
      have ez : (bs.data.toList.map UInt8.toNat).length = bs.size:=by rw [List.length_map]; rfl
      rw [ez] at hbl ⊢
      obtain ⟨m',w',r,g1,g2,g3,g4,g5⟩:=bytes_ok (P:=P) hr ha hn hB hs hd hu hbl
      exact ⟨m',w',.inl ⟨r,exec_value g1,g2⟩,g3,g4,g5⟩
  case call c =>
    obtain ⟨callee,args,ts⟩:=c
    cases callee <;> (try dsimp only at hv) <;> try (cases hv; done)
    next b =>
    have go : ∀ (s : Sem Value) (r : Value) (w' : World),(∀ cs,builtin b ts o.type cs (args.map ρ) = (do pure (Next.value (← s)))) → s.run P w = .ok r w' → (do let d ← resolve ρ { callee:=.builtin b,args:=args,argTypes:=ts } o.type; invoke d.target d.args : Sem Next).run P w = .ok (.value r) w':=by
      intro s r w' h1 h2
      simp only [resolve,Sem.run_bind,Sem.run_pure,Result.andThen_ok,invoke]
      rw [h1]
      exact exec_value h2
    split at hv <;> try (cases hv; done)
    · next t t' s x hts has =>
      have ea:=list_args (f:=ρ) has
      have et : ts = #[t,t']:=by rw [← Array.toList_inj]; exact hts
      subst et
      split at hv <;> try (cases hv; done)
      · next e e' ht ht' =>
        split at hv <;> try (cases hv; done)
        next i z hi hz =>
        split at hv <;> try (cases hv; done)
        next zs k l hzs hsrc =>
        cases hb : Nat.blt 0 i.size && Nat.beq zs.length i.size && Nat.ble i.bytes 1000 with
        | false=>rw [hb] at hv; cases hv
        | true =>
          rw [hb,cond_true] at hv
          simp only [Bool.and_eq_true] at hb
          obtain ⟨i',zv,hi',hzz,hzr,_⟩:=zeroA_ok (m:=m) hz
          rw [hi] at hi'; injection hi' with hi'; subst hi'
          have hc:=cellsA_ok hzr hzs
          have hzv : zv.cells.size = i.size:=by have h1:=hc.len; have h2:=Nat.eq_of_beq_eq_true hb.1.2; simp at h1; omega
          obtain ⟨m',w',u,g1,g2,g3,g4,g5⟩:=app_ok (P:=P) (ty:=o.type) hr ha hn hB ht ht' hi hzz (blt_lt hb.1.1) hzv (ble_le hb.2) (hl s) (hl x) hsrc hv
          refine ⟨m',w',.inl ⟨u,go _ _ _ (fun cs=>rfl) ?_,g2⟩,g3,g4,g5⟩
          rw [ea]
          exact g1
      · next e ki ht hti =>
        split at hv <;> try (cases hv; done)
        next i z k hi hz hs hk =>
        split at hv <;> try (cases hv; done)
        next zs hzs =>
        cases hb : Nat.blt 0 i.size && Nat.beq zs.length i.size && Nat.ble i.bytes 1000 && Nat.blt 0 k && Nat.ble k 1000000000 with
        | false=>rw [hb] at hv; cases hv
        | true =>
          rw [hb,cond_true] at hv
          simp only [Bool.and_eq_true] at hb
          injection hv with hv; injection hv with e1 e2; subst e1 e2
          obtain ⟨kk,_,hx⟩:=natA_ok (hl x) hk
          have hsv:=hl s
          rw [hs] at hsv
          obtain ⟨m',w',u,g1,g2,g3,g4,g5⟩:=appZ_ok (P:=P) (ty:=o.type) hr ha hn hB ht hti hi hz hzs (blt_lt hb.1.1.1.1) (Nat.eq_of_beq_eq_true hb.1.1.1.2) (ble_le hb.1.1.2) (blt_lt hb.1.2) (ble_le hb.2) kk
          refine ⟨m',w',.inl ⟨u,go _ _ _ (fun cs=>rfl) ?_,g2⟩,g3,g4,g5⟩
          rw [ea]
          simp only [List.map_cons,List.map_nil,hx]
          generalize ρ s = us at hsv ⊢
          cases hsv
          exact g1
      · next e ht ht' =>
        split at hv <;> try (cases hv; done)
        · next i z l hi hz hx =>
          split at hv <;> try (cases hv; done)
          next zs hzs =>
          cases hb : Nat.beq i.size 1 && Nat.beq zs.length i.size && Nat.ble i.bytes 1000 with
          | false=>rw [hb] at hv; cases hv
          | true =>
            rw [hb,cond_true] at hv
            simp only [Bool.and_eq_true] at hb
            obtain ⟨i',zv,hi',hzz,hzr,_⟩:=zeroA_ok (m:=m) hz
            rw [hi] at hi'; injection hi' with hi'; subst hi'
            have hc:=cellsA_ok hzr hzs
            have hzv : zv.cells.size = i.size:=by have h1:=hc.len; have h2:=Nat.eq_of_beq_eq_true hb.1.2; simp at h1; omega
            have hxv:=hl x
            rw [hx] at hxv
            generalize hux : ρ x = ux at hxv
            cases hxv with | str bs =>
            have ez : (bs.data.toList.map UInt8.toNat).length = bs.size:=by rw [List.length_map]; rfl
            rw [ez] at hv
            obtain ⟨m',w',u,g1,g2,g3,g4,g5⟩:=appS_ok (P:=P) (ty:=o.type) hr ha hn hB ht ht' hi hzz (Nat.eq_of_beq_eq_true hb.1.1) hzv (ble_le hb.2) (hl s) hv
            refine ⟨m',w',.inl ⟨u,go _ _ _ (fun cs=>rfl) ?_,g2⟩,g3,g4,g5⟩
            rw [ea]
            simp only [List.map_cons,List.map_nil,hux]
            exact g1
        · next i z l hi hz hx =>
          split at hv <;> try (cases hv; done)
          next zs hzs =>
          cases hb : Nat.beq i.size 1 && Nat.beq zs.length i.size && Nat.ble i.bytes 1000 with
          | false=>rw [hb] at hv; cases hv
          | true =>
            rw [hb,cond_true] at hv
            simp only [Bool.and_eq_true] at hb
            obtain ⟨i',zv,hi',hzz,hzr,_⟩:=zeroA_ok (m:=m) hz
            rw [hi] at hi'; injection hi' with hi'; subst hi'
            have hc:=cellsA_ok hzr hzs
            have hzv : zv.cells.size = i.size:=by have h1:=hc.len; have h2:=Nat.eq_of_beq_eq_true hb.1.2; simp at h1; omega
            have hxv:=hl x
            rw [hx] at hxv
            generalize hux : ρ x = ux at hxv
            cases hxv with | txt htx =>
            obtain ⟨m',w',u,g1,g2,g3,g4,g5⟩:=appT_ok (P:=P) (ty:=o.type) hr ha hn hB ht ht' hi hzz (Nat.eq_of_beq_eq_true hb.1.1) hzv (ble_le hb.2) (hl s) htx hv
            refine ⟨m',w',.inl ⟨u,go _ _ _ (fun cs=>rfl) ?_,g2⟩,g3,g4,g5⟩
            rw [ea]
            simp only [List.map_cons,List.map_nil,hux]
            exact g1
    · next t t' d x hts has =>
      have ea:=list_args (f:=ρ) has
      have et : ts = #[t,t']:=by rw [← Array.toList_inj]; exact hts
      subst et
      split at hv <;> try (cases hv; done)
      next e ht =>
      split at hv <;> try (cases hv; done)
      next i b o' n z hi hd =>
      split at hv <;> try (cases hv; done)
      next k l hsrc =>
      cases hb : Nat.blt 0 n && Nat.ble k n with
      | false=>rw [hb] at hv; cases hv
      | true =>
        rw [hb,cond_true] at hv
        rw [Bool.and_eq_true] at hb
        split at hv <;> try (cases hv; done)
        next h2 hs =>
        injection hv with hv; injection hv with e1 e2; subst e1 e2
        obtain ⟨w',g1,g2,g3⟩:=copy_ok (P:=P) (t':=t') (ty:=o.type) hr ht hi (hl d) (hl x) hsrc hd (blt_lt hb.1) (ble_le hb.2) hs B
        refine ⟨m,w',.inl ⟨_,go _ _ _ (fun cs=>rfl) (by rw [ea]; exact g1),.int _ _⟩,g2,g3,fun _ _=>rfl⟩
    · next t x hts has =>
      have ea:=list_args (f:=ρ) has
      have et : ts = #[t]:=by rw [← Array.toList_inj]; exact hts
      subst et
      have hx:=hl x
      have e0 : (#[t] : Array TypeId)[0]? = some t:=rfl
      have e1 : ∀ x : Value,(#[x] : Array Value)[0]? = some x:=fun _=>rfl
      split at hv <;> try (cases hv; done)
      next e ht =>
      split at hv <;> try (cases hv; done)
      · next z b o' n q hz he =>
        rw [he] at hx
        split at hv <;> try (cases hv; done)
        next zs hzs =>
        cases hb : Nat.beq n 0 with
        | true =>
          rw [hb,cond_true] at hv
          injection hv with hv; injection hv with e1' e2'; subst e1' e2'
          have hn0:=Nat.eq_of_beq_eq_true hb
          subst hn0
          refine ⟨m,w,.inl ⟨.tuple #[],go _ _ _ (fun cs=>rfl) ?_,.tup .nil⟩,hr,Go.refl _ _ _ _,fun _ _=>rfl⟩
          rw [ea]
          simp only [List.map_cons,List.map_nil]
          generalize ρ x = u at hx ⊢
          cases hx <;> (unfold Builtin.clear_; simp only [e0,e1,Sem.run_bind,run_underlying ht,Result.andThen_ok]; rfl)
        | false =>
          rw [hb,cond_false] at hv
          split at hv <;> try (cases hv; done)
          next h2 hs =>
          injection hv with hv; injection hv with e1' e2'; subst e1' e2'
          have hn0 : 0 < n:=by
            rcases Nat.eq_zero_or_pos n with e | e
            · rw [e] at hb; cases hb
            · exact e
          obtain ⟨w',g1,g2,g3⟩:=clear_ok (P:=P) (ty:=o.type) hr ht hz hzs hx hn0 hs B
          refine ⟨m,w',.inl ⟨.tuple #[],go _ _ _ (fun cs=>rfl) (by rw [ea]; exact g1),.tup .nil⟩,g2,g3,fun _ _=>rfl⟩
      all_goals
        rename_i he
        injection hv with hv; injection hv with e1' e2'; subst e1' e2'
        rw [he] at hx
        refine ⟨m,w,.inl ⟨.tuple #[],go _ _ _ (fun cs=>rfl) ?_,.tup .nil⟩,hr,Go.refl _ _ _ _,fun _ _=>rfl⟩
        rw [ea]
        simp only [List.map_cons,List.map_nil]
        generalize ρ x = u at hx ⊢
        cases hx
        unfold Builtin.clear_
        simp only [e0,e1,Sem.run_bind,run_underlying ht,Result.andThen_ok]
        rfl
    · next t t' q k hts has =>
      have ea:=list_args (f:=ρ) has
      have et : ts = #[t,t']:=by rw [← Array.toList_inj]; exact hts
      subst et
      have hq:=hl q
      split at hv <;> try (cases hv; done)
      next kt et' b ht he =>
      rw [he] at hq
      split at hv <;> try (cases hv; done)
      next es cl hg =>
      split at hv <;> try (cases hv; done)
      next r hlk =>
      injection hv with hv; injection hv with e1 e2; subst e1 e2
      have hk:=hl k
      simp only [List.map_cons,List.map_nil] at ea
      generalize ρ q = u at hq ea
      cases hq with | map hm =>
      obtain ⟨w',g1,g2,g3⟩:=delete_ok (P:=P) (kt':=t') (ty:=o.type) hr ht hg hm hk hlk B
      refine ⟨m,w',.inl ⟨.tuple #[],go _ _ _ (fun cs=>rfl) (by rw [ea]; exact g1),.tup .nil⟩,g2,g3,fun _ _=>rfl⟩
end
end Am
end Go.Proofs.YtadbcnekkceoaaaGreatDoor
