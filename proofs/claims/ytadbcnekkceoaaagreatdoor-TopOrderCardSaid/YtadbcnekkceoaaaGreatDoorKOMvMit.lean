/- A range over a map keyed by ints; a sort of what the call has built. -/
import Derived.Test.YtadbcnekkceoaaaGreatDoorKOMvMaps
import Derived.Test.YtadbcnekkceoaaaGreatDoorKOSh
import Derived.Maps.RangeRun
import Derived.Sort.OwnSortedInts
set_option linter.unusedVariables false
namespace Go.Proofs.YtadbcnekkceoaaaGreatDoor.Mv
open Go.RowKit Go.MapKept Go.Sort
open Go.ChangeMaps (setBlock)
def MapIt (w : World) (r b : Nat) (ks : List Int) : Prop :=
  ∃ es clock since seen c0,w.heap[b]? = some (.map es clock) ∧ Stamped es clock ∧ w.heap[r]? = some (.mapIter (some b) since seen c0) ∧ (∀ x ∈ es.toList,x.born < since) ∧ since ≤ c0 ∧ since ≤ clock ∧ ((leftOf es seen).toList.map (·.key)).Perm (ks.map (.int .i64))
theorem MapIt.lt {w : World} {r b : Nat} {ks : List Int} (h : MapIt w r b ks) : r < w.heap.size ∧ b < w.heap.size:=by
  obtain ⟨es,clock,since,seen,c0,h1,_,h3,_⟩:=h
  exact ⟨(Array.getElem?_eq_some_iff.1 h3).1,(Array.getElem?_eq_some_iff.1 h1).1⟩
theorem MapIt.keep {S : Nat → Prop} {w w' : World} {r b : Nat} {ks : List Int} (h : MapIt w r b ks) (hu : Upd S w w') (hr : ¬ S r) (hb : ¬ S b) : MapIt w' r b ks:=by
  have hl:=h.lt
  obtain ⟨es,clock,since,seen,c0,h1,h2,h3,h4⟩:=h
  exact ⟨es,clock,since,seen,c0,(hu.block b hl.2 hb).trans h1,h2,(hu.block r hl.1 hr).trans h3,h4⟩
theorem perm_born {L : List MapEntry} {e : MapEntry} (hn : (L.map (·.born)).Nodup) (he : e ∈ L) : L.Perm (e :: L.filter (fun x=>!(x.born == e.born))):=by
  induction L with
  | nil=>simp at he
  | cons x L ih =>
    simp only [List.map_cons,List.nodup_cons] at hn
    by_cases hx : x.born = e.born
    · have hxe : e = x:=by
        rcases List.mem_cons.1 he with h | h
        · exact h
        · exact absurd (List.mem_map.2 ⟨e,h,hx.symm⟩) hn.1
      subst hxe
      have : L.filter (fun y=>!(y.born == e.born)) = L:=by
        rw [List.filter_eq_self]
        intro y hy
        have : y.born ≠ e.born:=fun h=>hn.1 (List.mem_map.2 ⟨y,hy,h⟩)
        simpa using this
      rw [List.filter_cons_of_neg (by simp),this]
    · have he' : e ∈ L:=by
        rcases List.mem_cons.1 he with h | h
        · exact absurd (by rw [h]) hx
        · exact h
      rw [List.filter_cons_of_pos (by simpa using hx)]
      exact ((ih hn.2 he').cons x).trans (List.Perm.swap _ _ _)
theorem nodup_filter_map {L : List MapEntry} (p : MapEntry → Bool) (hn : (L.map (·.born)).Nodup) : ((L.filter p).map (·.born)).Nodup :=
  List.Sublist.nodup (List.Sublist.map _ List.filter_sublist) hn
section
variable {P : Program} {t kt et : TypeId} {w : World} {b r : Nat} {ks : List Int}
theorem MapIt.next (h : MapIt w r b ks) (ty : TypeId) :
    (ks = [] ∧ (Instr.next (.pointer (some ⟨r,0,none⟩)) false ty).run P w = .ok (.tuple #[.bool false]) w) ∨
    ∃ k v ks' w',(k :: ks').Perm ks ∧ (Instr.next (.pointer (some ⟨r,0,none⟩)) false ty).run P w = .ok (.tuple #[.bool true,.int .i64 k,v]) w' ∧ MapIt w' r b ks' ∧ Upd (fun q=>q = r) w w' ∧
      (Instr.entry (.pointer (some ⟨r,0,none⟩))).run P w' = .ok (.tuple #[.int .i64 k,v]) w' ∧ ∀ f,MapF w b f → f k = some v:=by
  obtain ⟨es,clock,since,seen,c0,h1,h2,h3,h4,h5,h6,h7⟩:=h
  have hrb : r ≠ b:=by rintro rfl; rw [h1] at h3; cases h3
  rcases run_next_at (P:=P) w ty r b since c0 seen es clock h3 h1 h4 h5 with ⟨h0,hrun⟩ | ⟨e,he,w1,hw1,hrun⟩
  · refine .inl ⟨?_,hrun⟩
    have h8:=h7.length_eq
    simp only [List.length_map,Array.length_toList] at h8
    exact List.eq_nil_of_length_eq_zero (by omega)
  · have hL : (leftOf es seen).toList = es.toList.filter (fun x=>!seen.contains x.born):=by simp [leftOf]
    have hL' : (leftOf es (seen.push e.born)).toList = (leftOf es seen).toList.filter (fun x=>!(x.born == e.born)):=by
      rw [hL]
      simp only [leftOf,Array.toList_filter,List.filter_filter]
      apply List.filter_congr
      intro x _
      rw [Bool.eq_iff_iff]
      simp [Array.mem_push]
      exact ⟨fun h=>⟨h.2,h.1⟩,fun h=>⟨h.2,h.1⟩⟩
    have hes : e ∈ es.toList:=by rw [hL] at he; exact (List.mem_filter.1 he).1
    have hnd : ((leftOf es seen).toList.map (·.born)).Nodup:=by rw [hL]; exact nodup_filter_map _ h2.2.1
    have hp:=(perm_born hnd he).map (·.key)
    rw [← hL',List.map_cons] at hp
    have hk : e.key ∈ ks.map (Value.int .i64):=h7.subset (List.mem_map.2 ⟨e,he,rfl⟩)
    obtain ⟨k,hks,hk⟩:=List.mem_map.1 hk
    have hp2 : ((leftOf es (seen.push e.born)).toList.map (·.key)).Perm ((ks.erase k).map (Value.int .i64)):=by
      have h8:=hp.symm.trans (h7.trans ((List.perm_cons_erase hks).map (Value.int .i64)))
      rw [List.map_cons,hk] at h8
      exact h8.cons_inv
    have hsz1 : w1.heap = w.heap:=by rcases hw1 with rfl | rfl <;> rfl
    have hr1 : r < w.heap.size:=(Array.getElem?_eq_some_iff.1 h3).1
    have hbk : (setBlock w1 r (.mapIter (some b) since (seen.push e.born) clock)).heap[b]? = some (.map es clock):=by
      simp only [setBlock,hsz1,Array.getElem?_setIfInBounds,if_neg hrb]; exact h1
    have hrk : (setBlock w1 r (.mapIter (some b) since (seen.push e.born) clock)).heap[r]? = some (.mapIter (some b) since (seen.push e.born) clock):=by
      simp [setBlock,hsz1,hr1]
    refine .inr ⟨k,e.val,ks.erase k,_,(List.perm_cons_erase hks).symm,by rw [hrun,hk],⟨es,clock,since,_,clock,hbk,h2,hrk,h4,h6,h6,hp2⟩,?_,?_⟩
    · rcases hw1 with rfl | rfl
      · exact Upd.setBlock _ _ _ rfl
      · exact ⟨rfl,rfl,rfl,by simp [setBlock,hsz1],fun i _ hi=>by simp only [setBlock,hsz1,Array.getElem?_setIfInBounds]; rw [if_neg (fun e=>hi e.symm)]⟩
    · refine ⟨?_,fun f hf=>?_⟩
      · rw [hk]
        exact run_entry_at _ r b since seen es clock e hrk hbk hes h2.2.1
      · obtain ⟨es',clock',hb',hs',hks',hf'⟩:=hf
        rw [h1] at hb'
        injection hb' with hb'
        injection hb' with e1 e2
        subst e1
        obtain ⟨j,hj,hje⟩:=List.getElem_of_mem hes
        rw [hf',find_hit hks' hs'.2.2 (j:=j) (e:=e) (by rw [List.getElem?_eq_getElem hj,hje]) hk.symm]
        rfl
def keyInt (x : MapEntry) : Int:=match x.key with | .int .i64 j=>j | _=>0
theorem keyInt_eq {x : MapEntry} (h : IsKey (.int .i64) x.key) : x.key = .int .i64 (keyInt x):=by
  unfold keyInt
  cases hk : x.key <;> simp [hk,IsKey] at h
  subst h
  rfl
theorem MapF.range {f : Int → Option Value} (h : MapF w b f) (ht : P.underlying t = some (.map kt et)) :
    ∃ ks w',ks.Nodup ∧ (∀ k,k ∈ ks ↔ (f k).isSome = true) ∧ (Instr.range t (.map (some b))).run P w = .ok (.pointer (some ⟨w.heap.size,0,none⟩)) w' ∧ MapIt w' w.heap.size b ks ∧ Upd (fun _=>False) w w' ∧ w'.heap.size = w.heap.size + 1:=by
  obtain ⟨es,clock,hb,hs,hks,hf⟩:=h
  have hlt : b < w.heap.size:=(Array.getElem?_eq_some_iff.1 hb).1
  have hkeys : es.toList.map (·.key) = (es.toList.map keyInt).map (Value.int .i64):=by
    rw [List.map_map]
    exact List.map_congr_left fun x hx=>keyInt_eq (hks x hx)
  have hu:=Upd.alloc (fun _=>False) w (.mapIter (some b) clock #[] clock)
  refine ⟨es.toList.map keyInt,_,?_,fun k=>?_,run_range_map w t kt et b es clock ht hb,⟨es,clock,clock,#[],clock,(hu.block b hlt (fun h=>h)).trans hb,hs,heap_alloc_new w _,hs.1,Nat.le_refl _,Nat.le_refl _,?_⟩,hu,by simp⟩
  · have h1:=hs.2.2
    rw [hkeys] at h1
    exact (List.pairwise_map.1 h1).imp fun h e=>h (by rw [e])
  · rw [hf k,Option.isSome_map,List.find?_isSome]
    constructor
    · rintro hk
      obtain ⟨x,hx,rfl⟩:=List.mem_map.1 hk
      exact ⟨x,hx,by rw [keyInt_eq (hks x hx)]; simp⟩
    · rintro ⟨x,hx,hxk⟩
      rw [keyInt_eq (hks x hx)] at hxk
      exact List.mem_map.2 ⟨x,hx,by simpa using hxk⟩
  · rw [← hkeys]
    have : leftOf es #[] = es:=by simp [leftOf]
    rw [this]
theorem wpList_mrange {f : Int → Option Value} {ops : Array Oper} {rest : List Oper} {o : Oper} {a : Act} {Q : Exit → Act → World → Prop} (hg : o.guard = none) (m : Operand) (hop : o.op = Op.range t m) (ht : P.underlying t = some (.map kt et)) (hm : a.eval m = .map (some b)) (h : MapF w b f)
    (K : ∀ ks w',ks.Nodup → (∀ k,k ∈ ks ↔ (f k).isSome = true) → MapIt w' w.heap.size b ks → Upd (fun _=>False) w w' → w'.heap.size = w.heap.size + 1 → wpList P ops Q rest (a.put o.dst (.pointer (some ⟨w.heap.size,0,none⟩))) w') : wpList P ops Q (o :: rest) a w:=by
  refine wpList_plain hg fun _ hK=>?_
  obtain ⟨ks,w',h1,h2,hrun,h3,h4,h5⟩:=h.range (P:=P) ht
  unfold Oper.wp
  simp only [execOp,hop,hm,hrun,Sem.run_bind,Sem.run_pure,Result.andThen_ok]
  exact hK _ _ (K ks w' h1 h2 h3 h4 h5)
theorem wpList_mnext {ops : Array Oper} {rest : List Oper} {o : Oper} {a : Act} {Q : Exit → Act → World → Prop} (hg : o.guard = none) (it : Operand) (hop : o.op = Op.next it false) (hm : a.eval it = .pointer (some ⟨r,0,none⟩)) (h : MapIt w r b ks)
    (K0 : ks = [] → wpList P ops Q rest (a.put o.dst (.tuple #[.bool false])) w)
    (K1 : ∀ k v ks' w',(k :: ks').Perm ks → MapIt w' r b ks' → Upd (fun q=>q = r) w w' → (Instr.entry (.pointer (some ⟨r,0,none⟩))).run P w' = .ok (.tuple #[.int .i64 k,v]) w' → (∀ f,MapF w b f → f k = some v) → wpList P ops Q rest (a.put o.dst (.tuple #[.bool true,.int .i64 k,v])) w') : wpList P ops Q (o :: rest) a w:=by
  refine wpList_plain hg fun _ hK=>?_
  unfold Oper.wp
  rcases h.next (P:=P) o.type with ⟨h0,hrun⟩ | ⟨k,v,ks',w',h1,hrun,h2,h3,h4⟩
  · simp only [execOp,hop,hm,hrun,Sem.run_bind,Sem.run_pure,Result.andThen_ok]
    exact hK _ _ (K0 h0)
  · simp only [execOp,hop,hm,hrun,Sem.run_bind,Sem.run_pure,Result.andThen_ok]
    exact hK _ _ (K1 k v ks' w' h1 h2 h3 h4.1 h4.2)
end
theorem wpList_mnext0 {P : Program} {w : World} {b r : Nat} {ops : Array Oper} {rest : List Oper} {o : Oper} {a : Act} {Q : Exit → Act → World → Prop} (hg : o.guard = none) (it : Operand) (hop : o.op = Op.next it false) (hm : a.eval it = .pointer (some ⟨r,0,none⟩)) (h : MapIt w r b [])
    (K0 : wpList P ops Q rest (a.put o.dst (.tuple #[.bool false])) w) : wpList P ops Q (o :: rest) a w :=
  wpList_mnext hg it hop hm h (fun _=>K0) (fun _ _ _ _ hp _ _ _ _=>absurd hp.length_eq (by simp))
theorem wpList_mnext1 {P : Program} {w : World} {b r : Nat} {y : Int} {ys : List Int} {ops : Array Oper} {rest : List Oper} {o : Oper} {a : Act} {Q : Exit → Act → World → Prop} (hg : o.guard = none) (it : Operand) (hop : o.op = Op.next it false) (hm : a.eval it = .pointer (some ⟨r,0,none⟩)) (h : MapIt w r b (y :: ys))
    (K1 : ∀ k v ks' w',(k :: ks').Perm (y :: ys) → MapIt w' r b ks' → Upd (fun q=>q = r) w w' → (Instr.entry (.pointer (some ⟨r,0,none⟩))).run P w' = .ok (.tuple #[.int .i64 k,v]) w' → (∀ f,MapF w b f → f k = some v) → wpList P ops Q rest (a.put o.dst (.tuple #[.bool true,.int .i64 k,v])) w') : wpList P ops Q (o :: rest) a w :=
  wpList_mnext hg it hop hm h (fun h=>by simp at h) K1
def leftW (r : Nat) (w : World) : Nat :=
  match w.heap[r]? with
  | some (.mapIter (some b) _ seen _)=>match w.heap[b]? with
    | some (.map es _)=>(leftOf es seen).size
    | _=>0
  | _=>0
theorem MapIt.left {w : World} {r b : Nat} {ks : List Int} (h : MapIt w r b ks) : leftW r w = ks.length:=by
  obtain ⟨es,clock,since,seen,c0,h1,_,h3,_,_,_,h7⟩:=h
  unfold leftW
  rw [h3]
  simp only [h1]
  have:=h7.length_eq
  simpa using this
theorem sort_any {w : World} {B : Nat} {A : Option Addr} {n c : Nat} {xs : List Int} (h : w.ownsRow B 3 1 (.slice A n c) n (xs.map (.int .i64))) (hs : n < 4611686018427387904) :
    Calls Tryz.prog 244 #[.slice A n c] w fun e w'=>e = .returned (.tuple #[]) ∧ w'.ownsRow B 3 1 (.slice A n c) n ((xs.mergeSort fun x y=>decide (x ≤ y)).map (.int .i64)) ∧ Upd (fun k=>(Value.slice A n c).ownBlock = some k) w w':=by
  have hn : xs.length = n:=by simpa using h.1
  rcases h.2 with ⟨h0,h1⟩ | ⟨g,cap,cur,hv,hb,hg,hnc,hcm,hcs,ht⟩
  · subst h1
    have hx : xs = []:=List.eq_nil_of_length_eq_zero hn
    subst hx
    refine (Tryz.slices_Sort_int_none A c w).mono ?_
    rintro e w' ⟨rfl,rfl⟩
    exact ⟨rfl,by simpa using h,Upd.refl _ _⟩
  · injection hv with hv1 _ hv3
    subst hv1 hv3 hn
    rw [Nat.mul_one] at ht
    refine (Tryz.slices_Sort_int g 0 c xs w (holds_of_blockI hg ht) (Array.getElem?_eq_some_iff.1 hg).1 hs).mono ?_
    rintro e w' ⟨rfl,n,os,rfl⟩
    exact ⟨rfl,ownsRow_sortedI (by simp) hb hg hnc hcm hcs,Upd.grown (grownBy_sortedI _) fun k hk=>by simpa [Value.ownBlock] using hk⟩
end Go.Proofs.YtadbcnekkceoaaaGreatDoor.Mv
