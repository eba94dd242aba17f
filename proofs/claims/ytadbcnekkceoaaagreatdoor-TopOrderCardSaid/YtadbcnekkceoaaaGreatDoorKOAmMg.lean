/- moves.Order: from its walked contract to the machine's. -/
import Derived.Test.YtadbcnekkceoaaaGreatDoorKOAmMc
import Derived.Test.YtadbcnekkceoaaaGreatDoorKOMvMO
import Derived.Test.YtadbcnekkceoaaaGreatDoorKOAmTa
set_option linter.unusedVariables false
namespace Go.Proofs.YtadbcnekkceoaaaGreatDoor
namespace Am
open Go.Shelf Go.RowKit
section
variable {P : Program} {tb : Tb} {NN : Nat → Nat} {m : Mp} {h : H} {w w' : World}
theorem HR.take (hr : HR tb NN m h w') {a : Pos} (ha : m a = none) (hn : a.nat < h.next.nat) {k sz : Nat} {o : Obj} {b : AB} (hk : w'.heap[k]? = some o) (hw : ∀ a' i s,m a' = some (i,s) → i ≠ k) (hb : BR tb NN m b o sz) : HR tb NN (m.put a (k,sz)) (h.set a b) w':=by
  have hle:=Mp.le_put (k,sz) ha
  have hkl : k < w'.heap.size:=(Array.getElem?_eq_some_iff.1 hk).1
  refine ⟨fun c x hc=>?_,fun c c' x x' i s s' hc hc' h1 h2=>?_,fun c i s hc=>?_,fun c hc=>?_⟩
  · rw [H.get_set] at hc
    split at hc
    · next e=>subst e; injection hc with hc; subst hc; exact ⟨k,sz,o,Mp.put_same _ _ _,hk,hb.mono hle⟩
    · obtain ⟨i,s,o',h1,h2,h3⟩:=hr.blk c x hc
      exact ⟨i,s,o',hle _ _ h1,h2,h3.mono hle⟩
  · rw [H.get_set] at hc hc'
    split at hc
    · next e =>
      subst e
      split at hc'
      · next e'=>exact .inl e'.symm
      · next e' =>
        rw [Mp.put_same] at h1; injection h1 with h1; injection h1 with h1 _
        rw [Mp.put_ne _ _ e'] at h2
        exact (hw _ _ _ h2 h1.symm).elim
    · next e =>
      rw [Mp.put_ne _ _ e] at h1
      split at hc'
      · next e' =>
        subst e'
        rw [Mp.put_same] at h2; injection h2 with h2; injection h2 with h2 _
        exact (hw _ _ _ h1 h2.symm).elim
      · next e' =>
        rw [Mp.put_ne _ _ e'] at h2
        exact hr.inj c c' x x' i s s' hc hc' h1 h2
  · by_cases e : c = a
    · subst e; rw [Mp.put_same] at hc; injection hc with hc; injection hc with hc _; omega
    · rw [Mp.put_ne _ _ e] at hc; exact hr.lt _ _ _ hc
  · rw [Mp.put_ne _ _ (fun e=>by
      replace hc : h.next.nat ≤ c.nat:=hc
      rw [e] at hc; omega)]
    exact hr.fresh c hc
theorem Go.take (hr : HR tb NN m h w) (hs : w.heap.size ≤ w'.heap.size) (hkp : ∀ k,k < w.heap.size → w'.heap[k]? = w.heap[k]?) (ho : w'.os = w.os) (ht : w'.tape = w.tape) (hu : w'.output = w.output) {B k sz : Nat} {b : AB} (hB : B ≤ h.next.nat) (hk : w.heap.size ≤ k) : Go B m h w (m.put h.next (k,sz)) ((h.res 1).set h.next b) w' where
  le:=Mp.le_put _ (hr.fresh _ (Nat.le_refl _))
  keep k' hk' _:=hkp k' hk'
  img q:=by
    rintro ⟨c,x,s,h1,h2,h3⟩
    by_cases e : c = h.next
    · subst e; rw [Mp.put_same] at h3; injection h3 with h3; injection h3 with h3 _; exact .inl (by omega)
    · rw [H.get_set,if_neg e] at h1; rw [Mp.put_ne _ _ e] at h3
      exact .inr ⟨c,x,s,h1,h2,h3⟩
  imgA q:=by
    rintro ⟨c,x,s,h1,h3⟩
    by_cases e : c = h.next
    · subst e; rw [Mp.put_same] at h3; injection h3 with h3; injection h3 with h3 _; exact .inl (by omega)
    · rw [H.get_set,if_neg e] at h1; rw [Mp.put_ne _ _ e] at h3
      exact .inr ⟨c,x,s,h1,h3⟩
  new c hc hn:=by rw [Mp.put_ne _ _ (fun e=>by rw [e] at hc; omega)]; exact hn
  next:=by show h.next.nat ≤ (h.next.add 1).nat; rw [Pos.nat_add]; omega
  size:=hs
  os:=ho
  tape:=ht
  output:=hu
end
theorem natsEq_ok : ∀ {l k : List Nat},natsEq l k = true → l = k
  | [],[],_=>rfl
  | a :: l,b :: k,h=>by
    simp only [natsEq,Bool.and_eq_true] at h
    rw [Nat.eq_of_beq_eq_true h.1,natsEq_ok h.2]
  | [],_ :: _,h=>by cases h
  | _ :: _,[],h=>by cases h
theorem ordF_mem {l : List Nat} {s : Nat} {ms : List Nat} : ∀ {L : List (List Nat × Nat × List Nat)},ordF l s L = some ms → (l,s,ms) ∈ L
  | [],h=>by cases h
  | x :: L,h=>by
    unfold ordF at h
    cases hk : (natsEq x.1 l && Nat.beq x.2.1 s) with
    | false=>rw [hk] at h; exact List.mem_cons_of_mem _ (ordF_mem h)
    | true =>
      rw [hk] at h
      injection h with h
      simp only [Bool.and_eq_true] at hk
      rw [← natsEq_ok hk.1,← Nat.eq_of_beq_eq_true hk.2,← h]
      exact List.mem_cons_self
theorem ordF_ok {l : List Nat} {s : Nat} {ms : List Nat} (h : ordF l s ordT = some ms) : l.length ≤ 1000 ∧ s ≤ 1000000 ∧ l ≠ [] ∧ ∃ mv : List (Int × Int),Mv.orderR (l.map Int.ofNat) (.ofNat s) = some mv ∧ 0 < mv.length ∧ mv.length ≤ 1000 ∧ ms.length = mv.length * 2 ∧ Mv.mcells mv = ms.map fun x=>.int .i64 (.ofNat x):=by
  have h:=ordF_mem h
  simp only [ordT,List.mem_cons,List.not_mem_nil,or_false,Prod.mk.injEq] at h
  rcases h with ⟨rfl,rfl,rfl⟩ | ⟨rfl,rfl,rfl⟩ | ⟨rfl,rfl,rfl⟩ | ⟨rfl,rfl,rfl⟩ | ⟨rfl,rfl,rfl⟩
  · exact ⟨by decide,by decide,by decide,[(2,0),(0,1),(1,2)],by decide +kernel,by decide,by decide,rfl,rfl⟩
  · exact ⟨by decide,by decide,by decide,[(4,0),(0,1),(1,4)],by decide +kernel,by decide,by decide,rfl,rfl⟩
  · exact ⟨by decide,by decide,by decide,[(5,1),(1,2),(2,5)],by decide +kernel,by decide,by decide,rfl,rfl⟩
  · exact ⟨by decide,by decide,by decide,[(4,0),(0,1),(1,2),(2,3),(3,4)],by decide +kernel,by decide,by decide,rfl,rfl⟩
  · exact ⟨by decide,by decide,by decide,[(6,0),(0,1),(1,2),(2,3),(3,6)],by decide +kernel,by decide,by decide,rfl,rfl⟩
theorem rowI_ok {c : T AV} : ∀ (n o : Nat) (l : List Nat),rowI c o n = some l → l.length = n ∧ ∀ (j x : Nat),l[j]? = some x → c.at (o + j) = some (.int .i64 (.ofNat x))
  | 0,o,l,h=>by
    injection h with h
    subst h
    exact ⟨rfl,fun j x hx=>by simp at hx⟩
  | n + 1,o,l,h=>by
    unfold rowI at h
    split at h <;> try (cases h; done)
    next b hb =>
    split at h <;> try (cases h; done)
    next l' hl =>
    injection h with h
    subst h
    obtain ⟨h1,h2⟩:=rowI_ok n (Nat.succ o) l' hl
    refine ⟨by simp [h1],fun j x hx=>?_⟩
    cases j with
    | zero=>simp at hx; subst hx; exact hb
    | succ j =>
      have:=h2 j x (by simpa using hx)
      rw [show o + (j + 1) = Nat.succ o + j by omega]
      exact this
theorem order_ok {tb : Tb} {NN : Nat → Nat} {xs : List AV} {h : H} {r : CRes} (hr : mOrder xs h = some r) : CalOk Tryz.prog tb NN (.fn 338 [] []) xs h r:=by
  unfold mOrder at hr
  split at hr <;> try (cases hr; done)
  next a o n s =>
  split at hr <;> try (cases hr; done)
  next q c hg =>
  cases hk : Nat.ble (Nat.add o n) q with
  | false=>rw [hk] at hr; cases hr
  | true =>
  rw [hk,cond_true] at hr
  have hk:=Nat.le_of_ble_eq_true hk
  replace hk : o + n ≤ q:=hk
  split at hr <;> try (cases hr; done)
  next l hl =>
  split at hr <;> try (cases hr; done)
  next ms hms =>
  injection hr with hr
  subst hr
  obtain ⟨g1,g2,g7,mv,g4,g5,g8,g3,g6⟩:=ordF_ok hms
  have hdv : Nat.div ms.length 2 = mv.length:=by rw [g3]; exact Nat.mul_div_cancel _ (by decide)
  rw [hdv]
  obtain ⟨r1,r2⟩:=rowI_ok _ _ _ hl
  refine CalOk.of_calls ⟨_,Tryz.func338,by decide,by decide⟩ fun m w args B hw ha hB=>?_
  obtain ⟨u1,u2,e,v1,v2⟩:=ha.two
  have:=v2.int_inv
  subst this
  rw [args_eq e]
  cases v1 with
  | slc0 o' c h1 h2=>exact absurd (List.length_eq_zero_iff.1 r1) g7
  | slc hma hle hsz hmax =>
  rename_i i sz cap
  obtain ⟨i',sz',cs,t,fz,a1,a2,a3,a4,a5,a6,a7⟩:=hw.cells hg
  rw [hma] at a1
  injection a1 with a1
  injection a1 with e1 e2
  subst e1; subst e2
  have hrd : Mv.Rd w (.slice (some ⟨i,o,none⟩) n cap) 1 n ((l.map Int.ofNat).map (.int .i64)):=⟨_,_,rfl,by simp [r1],fun h=>by (cases h),fun ad had j u hu=>by
    injection had with had
    subst had
    rw [List.map_map,List.getElem?_map] at hu
    cases hx : l[j]? with
    | none=>rw [hx] at hu; cases hu
    | some x =>
      rw [hx] at hu
      injection hu with hu
      subst hu
      have hj : j < l.length:=(List.getElem?_eq_some_iff.1 hx).1
      obtain ⟨v0,u0,c1,c2,c3⟩:=a5 (o + j) (by omega)
      rw [r2 j x hx] at c1
      injection c1 with c1
      subst c1
      cases c3
      have ea : (⟨i,o,none⟩ : Addr).add j = ⟨i,o + j,none⟩:=by
        unfold Addr.add
        split
        · next e=>subst e; rfl
        · rfl
      rw [ea,Lib.cell_of_heap a2]
      exact c2⟩
  refine (Mv.order_any hrd (by simp [r1]) (by omega) ⟨by show (-9223372036854775808 : Int) ≤ (s : Int); omega,by show (s : Int) ≤ 9223372036854775807; omega⟩).mono fun e w' q=>?_
  rw [g4] at q
  obtain ⟨A,n',c',q1,q2,q3⟩:=q
  have q2:=q2.out
  obtain ⟨q3,q4⟩:=q3.out
  subst q2
  obtain ⟨q5,q6⟩:=q3
  rcases q6 with ⟨q7,q8⟩ | ⟨g,cap',cur,q7,q8,q9,q10,q11,q12,q13⟩
  · omega
  · injection q7 with q7 _ q14
    subst q7 q14
    have hms6 : ∀ j,j < mv.length * 2 → ∃ x,ms[j]? = some x ∧ cur[j]? = some (.int .i64 (.ofNat x)):=fun j hj=>by
      obtain ⟨x,hx⟩ : ∃ x,ms[j]? = some x:=⟨ms[j]'(by omega),List.getElem?_eq_getElem _⟩
      refine ⟨x,hx,?_⟩
      have : (cur.toList.take (mv.length * 2))[j]? = cur[j]?:=by rw [List.getElem?_take,if_pos hj,Array.getElem?_toList]
      rw [← this,q13,g6,List.getElem?_map,hx]
      rfl
    refine ⟨_,m.put h.next (g,cur.size),q1,?_,?_,Go.take hw q4.size (fun k hk=>q4.block k hk id) q4.os q4.tape q4.output hB q8⟩
    · exact .tup (.cons (.slc (Mp.put_same _ _ _) q10 (by omega) (Nat.le_trans q11 (by decide))) (.cons (.int _ _) .nil))
    · have k1:=(HR.more hw q4.size (fun k hk=>q4.block k hk id) q4.os q4.tape q4.output B).1
      refine HR.take (k1.res 1 B).1 (hw.fresh _ (Nat.le_refl _)) (by show h.next.nat < (h.next.add 1).nat; rw [Pos.nat_add]; omega) q9 (fun a' i s hm=>by have:=hw.lt _ _ _ hm; omega) (.cells rfl (by omega) (fun j hj=>?_) (fun _=>rfl) (fun q hq=>?_))
      · obtain ⟨x,x1,x2⟩:=hms6 j (by rw [← g3]; exact hj)
        refine ⟨_,_,?_,x2,.int _ _⟩
        rw [T.at_layN,if_pos ⟨Nat.zero_le _,by simp [g3]; omega⟩,Nat.sub_zero,List.getElem?_map,x1]
        rfl
      · have:=mk_lays _ q hq
        rw [List.length_map,g3] at this
        omega
end Am
end Go.Proofs.YtadbcnekkceoaaaGreatDoor
namespace Go.Proofs.YtadbcnekkceoaaaGreatDoor
namespace Am
open Go.Shelf Go.RowKit
section
variable {m : Mp}
theorem VR.ltr_inv {k : Nat} {a : Pos} {u : Value} (h : VR m (.ltr k a) u) : ∃ i x,m a = some (i,x) ∧ x < 256 ∧ dgOk k x ∧ u = .int (ltK k) (.ofNat (ltN k x)):=by
  cases h with | ltr _ h1 h2 h3=>exact ⟨_,_,h1,h2,h3,rfl⟩
theorem VR.txt_inv {l : List AV} {u : Value} (h : VR m (.txt l) u) : ∃ b : ByteArray,u = .string b ∧ VRs m l (byV b):=by
  cases h with | txt h=>exact ⟨_,rfl,h⟩
def bv (k : List UInt8) : List Value:=k.map fun x=>Value.int .u8 (.ofNat x.toNat)
theorem byV_mk (k : List UInt8) : byV ⟨k.toArray⟩ = bv k:=by unfold byV bv; simp
theorem digK_ok {k : Nat} (h : digK k = true) (x : Nat) : ltLo k = 48 ∧ ltHi k = 57 ∧ ltK k = .u8 ∧ 48 ≤ ltN k x ∧ ltN k x ≤ 57:=by
  have hd:=dgt_lt (Nat.div k 16)
  unfold digK at h
  rcases ltF_cases k with e | e | e | e | e | e | e | e | e | e | e | e | e | e | e | e <;> rw [e] at h <;> (try (exact absurd h (by decide)))
  · have:=hd (9 - 9) x; exact ⟨by simp only [ltLo,e],by simp only [ltHi,e],by simp only [ltK,e],by (simp only [ltN,e]) <;> omega,by (simp only [ltN,e]) <;> omega⟩
  · have:=hd (10 - 9) x; exact ⟨by simp only [ltLo,e],by simp only [ltHi,e],by simp only [ltK,e],by (simp only [ltN,e]) <;> omega,by (simp only [ltN,e]) <;> omega⟩
  · have:=hd (11 - 9) x; exact ⟨by simp only [ltLo,e],by simp only [ltHi,e],by simp only [ltK,e],by (simp only [ltN,e]) <;> omega,by (simp only [ltN,e]) <;> omega⟩
theorem tens_ok {s : List Nat} (h : tens s = true) {b : Nat} (h1 : 48 ≤ b) (h2 : b ≤ 57) : s.any (Nat.beq b) = true:=by
  unfold tens at h
  rw [List.all_eq_true] at h
  refine h b ?_
  have : b = 48 ∨ b = 49 ∨ b = 50 ∨ b = 51 ∨ b = 52 ∨ b = 53 ∨ b = 54 ∨ b = 55 ∨ b = 56 ∨ b = 57:=by omega
  rcases this with e | e | e | e | e | e | e | e | e | e <;> subst e <;> decide
theorem memA_ok {c : List UInt8} {v : AV} {t : Bool} (h : memA (c.map UInt8.toNat) v = some t) {x : UInt8} (hv : VR m v (.int .u8 (.ofNat x.toNat))) : c.contains x = t:=by
  unfold memA at h
  split at h
  · next n =>
    have:=hv.int_inv
    injection this with _ e
    have e:=Int.ofNat.inj e
    injection h with h
    rw [← h,← e,any_toN]
  · next k a =>
    obtain ⟨i,y,h1,h2,h3,e⟩:=hv.ltr_inv
    injection e with _ e
    have e:=Int.ofNat.inj e
    cases hc : (c.map UInt8.toNat).all (fun b=>ltNe k (.ofNat b)) with
    | true =>
      rw [hc] at h
      injection h with h
      rw [← h,← any_toN,List.any_eq_false]
      intro b hb
      rw [List.all_eq_true] at hc
      have:=ltNe_ok (hc b hb) h2
      rw [← e] at this
      intro hq
      rw [show ieq (Int.ofNat x.toNat) (.ofNat b) = Nat.beq x.toNat b from rfl,hq] at this
      cases this
    | false =>
      rw [hc,cond_false] at h
      cases hd : digK k && tens (c.map UInt8.toNat) with
      | false=>rw [hd] at h; cases h
      | true =>
        rw [hd] at h
        injection h with h
        rw [Bool.and_eq_true] at hd
        obtain ⟨_,_,_,q1,q2⟩:=digK_ok hd.1 y
        rw [← h,← any_toN]
        exact tens_ok hd.2 (by omega) (by omega)
  · cases h
theorem trimLA_ok {c : List UInt8} : ∀ {l r : List AV} {k : List UInt8},trimLA (c.map UInt8.toNat) l = some r → VRs m l (bv k) → VRs m r (bv (Lib.trimLeftS k c))
  | [],r,k,h,hv=>by
    injection h with h
    subst h
    cases k with
    | nil=>exact .nil
    | cons x k=>cases hv
  | v :: l,r,k,h,hv=>by
    cases k with
    | nil=>cases hv
    | cons x k =>
      have hv0:=hv
      cases hv with | cons h1 h2 =>
      replace h1 : VR m v (Value.int IntKind.u8 (Int.ofNat x.toNat)):=h1
      unfold trimLA at h
      split at h
      · next e =>
        unfold Lib.trimLeftS
        rw [List.dropWhile_cons,memA_ok e h1,if_pos rfl]
        exact trimLA_ok h h2
      · next e =>
        injection h with h
        subst h
        unfold Lib.trimLeftS
        rw [List.dropWhile_cons,memA_ok e h1]
        exact hv0
      · cases h
theorem trimRA_ok {c : List UInt8} : ∀ {l r : List AV} {k : List UInt8},trimRA (c.map UInt8.toNat) l = some r → VRs m l (bv k) → VRs m r (bv (Lib.trimRightS k c))
  | [],r,k,h,hv=>by
    injection h with h
    subst h
    cases k with
    | nil=>exact .nil
    | cons x k=>cases hv
  | v :: l,r,k,h,hv=>by
    cases k with
    | nil=>cases hv
    | cons x k =>
      cases hv with | cons h1 h2 =>
      replace h1 : VR m v (Value.int IntKind.u8 (Int.ofNat x.toNat)):=h1
      rw [trimRS_cons]
      unfold trimRA at h
      split at h
      · next e =>
        have ih:=trimRA_ok e h2
        have e0 : Lib.trimRightS k c = []:=by
          cases hq : Lib.trimRightS k c with
          | nil=>rfl
          | cons y z=>rw [hq] at ih; cases ih
        rw [e0]
        dsimp only
        split at h
        · next e =>
          injection h with h
          subst h
          rw [memA_ok e h1]
          exact .nil
        · next e =>
          injection h with h
          subst h
          rw [memA_ok e h1]
          exact .cons h1 .nil
        · cases h
      · next y z e =>
        have ih:=trimRA_ok e h2
        injection h with h
        subst h
        cases hq : Lib.trimRightS k c with
        | nil=>rw [hq] at ih; cases ih
        | cons a b =>
          rw [hq] at ih
          exact .cons h1 ih
      · cases h
theorem okTA_ok {s : List AV} {k c : List UInt8} (h : okTA s (c.map UInt8.toNat) = true) (hv : VRs m s (bv k)) : (∀ (j : Nat) b,c[j]? = some b → b.toNat < 128) ∧ k.length ≤ 1000000 ∧ c.length ≤ 1000:=by
  unfold okTA at h
  simp only [Bool.and_eq_true] at h
  obtain ⟨h1,h2,h3⟩:=h
  have h2:=Nat.le_of_ble_eq_true h2
  have h3:=Nat.le_of_ble_eq_true h3
  have:=hv.len
  unfold bv at this
  rw [List.length_map] at h3 this
  exact ⟨asc_ok h1,by omega,h3⟩
end
section
variable {tb : Tb} {NN : Nat → Nat}
theorem ltrimL_ok {xs : List AV} {h : H} {r : CRes} (hr : lTrimL xs h = some r) : CalOk Tryz.prog tb NN (.fn 92 [] []) xs h r:=by
  unfold lTrimL at hr
  split at hr <;> try (cases hr; done)
  next s c =>
  cases hk : okTA s c with
  | false=>rw [hk] at hr; cases hr
  | true =>
    rw [hk,cond_true] at hr
    split at hr <;> try (cases hr; done)
    next l hl =>
    injection hr with hr
    subst hr
    refine CalOk.of_calls ⟨_,Tryz.func92,by decide,by decide⟩ fun m w args B hw ha _=>?_
    obtain ⟨u1,u2,e,v1,v2⟩:=ha.two
    obtain ⟨b1,rfl,v3⟩:=v1.txt_inv
    obtain ⟨b2,rfl,rfl⟩:=v2.str_inv
    rw [args_eq e]
    obtain ⟨q1,q2,q3⟩:=okTA_ok (k:=b1.data.toList) hk v3
    refine (Any.strings_TrimLeft_laid Tryz.lays161 (by kernel_rfl) b1 b2 w ?_ q1).mono fun e w' q=>⟨_,m,q.1,?_,below_kept q.2 hw B⟩
    · have : b2.size = b2.data.toList.length:=rfl
      omega
    · exact txN_ok (by rw [byV_mk]; exact trimLA_ok hl v3)
theorem ltrim_ok {xs : List AV} {h : H} {r : CRes} (hr : lTrim xs h = some r) : CalOk Tryz.prog tb NN (.fn 286 [] []) xs h r:=by
  unfold lTrim at hr
  split at hr <;> try (cases hr; done)
  next s c =>
  cases hk : okTA s c with
  | false=>rw [hk] at hr; cases hr
  | true =>
    rw [hk,cond_true] at hr
    split at hr <;> try (cases hr; done)
    next l hl =>
    split at hr <;> try (cases hr; done)
    next l2 hl2 =>
    injection hr with hr
    subst hr
    refine CalOk.of_calls ⟨_,Tryz.func286,by decide,by decide⟩ fun m w args B hw ha _=>?_
    obtain ⟨u1,u2,e,v1,v2⟩:=ha.two
    obtain ⟨b1,rfl,v3⟩:=v1.txt_inv
    obtain ⟨b2,rfl,rfl⟩:=v2.str_inv
    rw [args_eq e]
    obtain ⟨q1,q2,q3⟩:=okTA_ok (k:=b1.data.toList) hk v3
    refine (Any.strings_Trim_laid Tryz.lays160 (by kernel_rfl) b1 b2 w ?_ ?_ q1).mono fun e w' q=>⟨_,m,q.1,?_,below_kept q.2 hw B⟩
    · have : b1.size = b1.data.toList.length:=rfl
      omega
    · have : b2.size = b2.data.toList.length:=rfl
      omega
    · exact txN_ok (by rw [byV_mk]; exact trimLA_ok hl2 (trimRA_ok hl v3))
end
end Am
end Go.Proofs.YtadbcnekkceoaaaGreatDoor
namespace Go.Proofs.YtadbcnekkceoaaaGreatDoor
namespace Am
open Go.Shelf Go.RowKit
theorem any_cons {b y : Nat} {s : List Nat} (h : (y :: s).any (Nat.beq b) = true) (h2 : Nat.beq b y = false) : s.any (Nat.beq b) = true:=by
  rw [List.any_cons,h2,Bool.false_or] at h; exact h
theorem idxN_dig : ∀ (s : List Nat) (n b : Nat),48 ≤ b → b ≤ 57 → s.any (Nat.beq b) = true → ∃ i,idxN b s n = some i ∧ n + preN s ≤ i ∧ i < n + s.length
  | [],n,b,_,_,h=>by cases h
  | y :: s,n,b,h1,h2,h=>by
    unfold idxN preN
    cases e : Nat.beq b y with
    | true =>
      have e:=Nat.eq_of_beq_eq_true e
      subst e
      rw [cond_true,ble_t h1,ble_t h2]
      exact ⟨n,rfl,Nat.le_refl _,by rw [List.length_cons]; omega⟩
    | false =>
      rw [cond_false]
      obtain ⟨i,q1,q2,q3⟩:=idxN_dig s (Nat.succ n) b h1 h2 (any_cons h e)
      refine ⟨i,q1,?_,by rw [List.length_cons]; omega⟩
      cases Nat.ble 48 y && Nat.ble y 57 with
      | true=>rw [cond_true]; omega
      | false=>rw [cond_false]; omega
theorem idx_some {k : List UInt8} {b : UInt8} {i : Nat} (h : idxN b.toNat (k.map UInt8.toNat) 0 = some i) : Lib.indexByte k b = Int.ofNat i:=by
  rw [idxN_eq] at h
  split at h
  · cases h
  · next h1 =>
    injection h with h
    have:=Lib.indexByte_ge k b
    show _ = (i : Int)
    omega
theorem idx_none {k : List UInt8} {b : UInt8} (h : idxN b.toNat (k.map UInt8.toNat) 0 = none) : Lib.indexByte k b = .negSucc 0:=by
  rw [idxN_eq] at h
  split at h
  · next h1=>exact h1
  · cases h
section
variable {m : Mp}
theorem isB_ok {b : Nat} {v : AV} {t : Bool} (h : isB b v = some t) {x : UInt8} (hv : VR m v (.int .u8 (.ofNat x.toNat))) : Nat.beq b x.toNat = t:=by
  unfold isB at h
  split at h
  · have:=hv.int_inv
    injection this with _ e
    rw [Int.ofNat.inj e]
    injection h
  · next k a =>
    obtain ⟨i,y,h1,h2,h3,e⟩:=hv.ltr_inv
    injection e with _ e
    cases hc : ltNe k (.ofNat b) with
    | false=>rw [hc] at h; cases h
    | true =>
      rw [hc] at h
      injection h with h
      rw [← h]
      have:=ltNe_ok hc h2
      rw [← e] at this
      refine nbeq_f fun e2=>?_
      rw [show ieq (Int.ofNat x.toNat) (.ofNat b) = Nat.beq x.toNat b from rfl,e2,Nat.beq_refl] at this
      cases this
  · cases h
theorem idxA_ok {b : Nat} : ∀ {l : List AV} {k : List UInt8} {n : Nat} {r : Option Nat},idxA b l n = some r → VRs m l (bv k) → idxN b (k.map UInt8.toNat) n = r
  | [],k,n,r,h,hv=>by
    injection h with h
    subst h
    cases k with
    | nil=>rfl
    | cons x k=>cases hv
  | v :: l,k,n,r,h,hv=>by
    cases k with
    | nil=>cases hv
    | cons x k =>
      cases hv with | cons h1 h2 =>
      replace h1 : VR m v (Value.int IntKind.u8 (Int.ofNat x.toNat)):=h1
      rw [List.map_cons]
      unfold idxN
      unfold idxA at h
      split at h
      · next e=>rw [isB_ok e h1]; injection h
      · next e=>rw [isB_ok e h1]; exact idxA_ok h h2
      · cases h
end
section
variable {tb : Tb} {NN : Nat → Nat}
theorem lindex_ok {xs : List AV} {h : H} {r : CRes} (hr : lIndex xs h = some r) : CalOk Tryz.prog tb NN (.fn 175 [] []) xs h r:=by
  unfold lIndex at hr
  split at hr <;> try (cases hr; done)
  · next s k a =>
    cases hk : digK k && (Nat.ble s.length 1000 && tens s) with
    | false=>rw [hk] at hr; cases hr
    | true =>
      rw [hk,cond_true] at hr
      injection hr with hr
      subst hr
      simp only [Bool.and_eq_true] at hk
      obtain ⟨k1,k2,k3⟩:=hk
      have k2:=Nat.le_of_ble_eq_true k2
      refine CalOk.of_calls ⟨_,Tryz.func175,by decide,by decide⟩ fun m w args B hw ha _=>?_
      obtain ⟨u1,u2,e,v1,v2⟩:=ha.two
      obtain ⟨b1,rfl,rfl⟩:=v1.str_inv
      obtain ⟨i,x,h1,h2,h3,rfl⟩:=v2.ltr_inv
      obtain ⟨q1,q2,q3,q4,q5⟩:=digK_ok k1 x
      rw [q3] at e
      rw [args_eq e]
      generalize ltN k x = b at q4 q5
      have hc : (Int.toNat (.ofNat b)).toUInt8.toNat = b:=by
        show b % 256 = b
        omega
      obtain ⟨j,p1,p2,p3⟩:=idxN_dig (b1.data.toList.map UInt8.toNat) 0 b q4 q5 (tens_ok k3 q4 q5)
      refine (Tryz.stringslite_IndexByte b1 (.ofNat b) w).mono fun e w' q=>⟨_,m,q.1,?_,?_⟩
      · rw [← hc] at p1
        rw [idx_some p1]
        exact .ge (by omega) (by omega)
      · rw [q.2]
        exact ⟨hw,Go.refl _ _ _ _⟩
  · next t b =>
    cases hb : Nat.blt b 256 with
    | false=>rw [hb] at hr; cases hr
    | true =>
      rw [hb,cond_true] at hr
      rw [Nat.blt_eq] at hb
      have hc : (Int.toNat (.ofNat b)).toUInt8.toNat = b:=by
        show b % 256 = b
        omega
      have key : ∀ v,(∀ (m : Mp) (b1 : ByteArray),VRs m t (byV b1) → VR m v (.int .i64 (Lib.indexByte b1.data.toList (Int.toNat (.ofNat b)).toUInt8))) → CalOk Tryz.prog tb NN (.fn 175 [] []) [.txt t,.int .u8 (.ofNat b)] h (.ret v h .no):=fun v hv=>by
        refine CalOk.of_calls ⟨_,Tryz.func175,by decide,by decide⟩ fun m w args B hw ha _=>?_
        obtain ⟨u1,u2,e,v1,v2⟩:=ha.two
        obtain ⟨b1,rfl,v3⟩:=v1.txt_inv
        have:=v2.int_inv
        subst this
        rw [args_eq e]
        refine (Tryz.stringslite_IndexByte b1 (.ofNat b) w).mono fun e w' q=>⟨_,m,q.1,hv m b1 v3,?_⟩
        rw [q.2]
        exact ⟨hw,Go.refl _ _ _ _⟩
      split at hr
      · next i hi =>
        injection hr with hr
        subst hr
        refine key _ fun m b1 hv=>?_
        have:=idxA_ok (k:=b1.data.toList) hi hv
        rw [← hc] at this
        rw [idx_some this]
        exact .int _ _
      · next hi =>
        injection hr with hr
        subst hr
        refine key _ fun m b1 hv=>?_
        have:=idxA_ok (k:=b1.data.toList) hi hv
        rw [← hc] at this
        rw [idx_none this]
        exact .int _ _
      · cases hr
theorem digs1 : ∀ x,x < 256 → ndg x = 1 → x < 100 ∧ digs 3 x [] = [48 + dgt 1 0 x]:=by decide +kernel
theorem digs2 : ∀ x,x < 256 → ndg x = 2 → x < 100 ∧ digs 3 x [] = [48 + dgt 2 0 x,48 + dgt 2 1 x]:=by decide +kernel
theorem digs3 : ∀ x,x < 256 → ndg x = 3 → 100 ≤ x ∧ digs 4 x [] = [48 + dgt 3 0 x,48 + dgt 3 1 x,48 + dgt 3 2 x]:=by decide +kernel
theorem digL_vr {m : Mp} {a : Pos} {i x : Nat} (hm : m a = some (i,x)) (hx : x < 256) : (ndg x = 1 → VRs m (digL 1 a) ([48 + dgt 1 0 x].map fun n=>Value.int .u8 (.ofNat n))) ∧ (ndg x = 2 → VRs m (digL 2 a) ([48 + dgt 2 0 x,48 + dgt 2 1 x].map fun n=>Value.int .u8 (.ofNat n))) ∧ (ndg x = 3 → VRs m (digL 3 a) ([48 + dgt 3 0 x,48 + dgt 3 1 x,48 + dgt 3 2 x].map fun n=>Value.int .u8 (.ofNat n))) :=
  ⟨fun h=>.cons (.ltr 25 hm hx (.inr h)) .nil,fun h=>.cons (.ltr 41 hm hx (.inr h)) (.cons (.ltr 42 hm hx (.inr h)) .nil),fun h=>.cons (.ltr 57 hm hx (.inr h)) (.cons (.ltr 58 hm hx (.inr h)) (.cons (.ltr 59 hm hx (.inr h)) .nil))⟩
theorem byV_nat (b : ByteArray) : byV b = (b.data.toList.map UInt8.toNat).map fun n=>Value.int .u8 (.ofNat n):=by unfold byV; rw [List.map_map]; rfl
theorem digH_ok {m : Mp} {h : H} {w : World} {k : Nat} {a : Pos} {i x n : Nat} (hr : HR tb NN m h w) (hm : m a = some (i,x)) (hd : dgOk k x) (hn : digH h k a = n) (h0 : n ≠ 0) : ndg x = n:=by
  unfold digH at hn
  split at hn
  · split at hn
    · next n' hg =>
      obtain ⟨i',sz,o,p1,p2,p3⟩:=hr.blk _ _ hg
      rw [hm] at p1
      injection p1 with p1
      injection p1 with _ e2
      subst e2
      cases p3 with
      | gh q =>
        rcases q with q | q
        · exact absurd (hn.symm.trans q) h0
        · exact q.trans hn
    · exact absurd hn.symm h0
  · next hz =>
    rcases hd with hd | hd
    · exact absurd hd hz
    · rw [hd]; exact hn
theorem CalOk.letter {n : Nat} {l : List AV} {c : AV} {a : Pos} {h h' : H} {p : Pn} {D : Nat → List Nat} (h1 : ∀ x,x < 256 → ndg x = n → CalOk Tryz.prog tb NN c [.int .i64 (.ofNat x)] h (.ret (.str (D x)) h' p)) (h2 : ∀ (m : Mp) i x,m a = some (i,x) → x < 256 → ndg x = n → VRs m l ((D x).map fun n=>Value.int .u8 (.ofNat n))) {k : Nat} (hk : ltF k = 0) (hn : digH h k a = n) (h0 : n ≠ 0) : CalOk Tryz.prog tb NN c [.ltr k a] h (.ret (.txt l) h' p):=fun m w u args B hr hu ha hB=>by
  obtain ⟨u0,e,v⟩:=ha.one
  obtain ⟨i,x,q1,q2,q3,rfl⟩:=v.ltr_inv
  replace q3:=digH_ok hr q1 q3 hn h0
  have e1 : ltK k = .i64:=by simp only [ltK,hk]
  have e2 : ltN k x = x:=by simp only [ltN,hk]
  rw [e1,e2] at e
  obtain ⟨g1,g2,g3,g4,g5⟩:=h1 x q2 q3 m w u args B hr hu (by rw [e]; exact .cons (.int _ _) .nil) hB
  refine ⟨g1,g2,g3,g4,fun fr cs hm=>?_⟩
  obtain ⟨m',w',u',s1,s2,s3,s4⟩:=g5 fr cs hm
  refine ⟨m',w',u',s1,?_,s3,s4⟩
  obtain ⟨b,rfl,hb⟩:=s2.str_inv
  refine .txt ?_
  have:=h2 m' i x (s4.le _ _ q1) q2 q3
  rw [hb,← byV_nat] at this
  exact this
theorem litoa_ok {xs : List AV} {h : H} {r : CRes} (hg : Tryz.prog.globalNamed "internal/strconv.uint64pow10" = some 5) (hr : lItoa 5 xs h = some r) : CalOk Tryz.prog tb NN (.fn 420 [] []) xs h r:=by
  unfold lItoa at hr
  split at hr <;> try (cases hr; done)
  next k a =>
  cases hk : Nat.beq (ltF k) 0 with
  | false=>rw [hk] at hr; cases hr
  | true =>
    rw [hk,cond_true] at hr
    have hk:=Nat.eq_of_beq_eq_true hk
    split at hr <;> try (cases hr; done)
    · next hn =>
      injection hr with hr
      subst hr
      refine CalOk.letter (D:=fun x=>digs 3 x []) (fun x hx hd=>itoa_ok hg ?_) (fun m i x hm hx hd=>?_) hk hn (by decide)
      · simp only [mItoa]; rw [blt_t (digs1 x hx hd).1]; rfl
      · rw [(digs1 x hx hd).2]; exact (digL_vr hm hx).1 hd
    · next hn =>
      injection hr with hr
      subst hr
      refine CalOk.letter (D:=fun x=>digs 3 x []) (fun x hx hd=>itoa_ok hg ?_) (fun m i x hm hx hd=>?_) hk hn (by decide)
      · simp only [mItoa]; rw [blt_t (digs2 x hx hd).1]; rfl
      · rw [(digs2 x hx hd).2]; exact (digL_vr hm hx).2.1 hd
    · next hn =>
      split at hr <;> try (cases hr; done)
      next c d hc hd =>
      split at hr <;> try (cases hr; done)
      next g' hgl =>
      cases hk2 : Nat.beq 5 g' && pw10 c 1 20 0 with
      | false=>rw [hk2] at hr; cases hr
      | true =>
        rw [hk2,cond_true] at hr
        injection hr with hr
        subst hr
        rw [Bool.and_eq_true] at hk2
        refine CalOk.letter (D:=fun x=>digs 4 x []) (fun x hx hd'=>itoa_ok hg ?_) (fun m i x hm hx hd'=>?_) hk hn (by decide)
        · simp only [mItoa]; rw [blt_f (digs3 x hx hd').1,hc,hd]; simp only [hgl,cond_false,hk2.1,hk2.2,Bool.true_and,blt_t (show x < 1000 by omega),cond_true]
        · rw [(digs3 x hx hd').2]; exact (digL_vr hm hx).2.2 hd'
theorem HR.bytesW {m : Mp} {h : H} {w : World} (hw : HR tb NN m h w) (e : TypeId) (s : ByteArray) (B : Nat) : HR tb NN m h (Lib.bytesWorld w e s) ∧ Go B m h w m h (Lib.bytesWorld w e s) :=
  HR.more hw (by rw [bytes_heap]; show w.heap.size ≤ (w.heap.push _).size; rw [Array.size_push]; omega) (fun k hk=>Lib.bytesWorld_at_old w e s k hk) rfl rfl rfl B
theorem atoi1 : ∀ x,x < 256 → ndg x = 1 → Lib.atoi [UInt8.ofNat (48 + dgt 1 0 x)] = some (.ofNat x):=by decide +kernel
theorem atoi2 : ∀ x,x < 256 → ndg x = 2 → Lib.atoi [UInt8.ofNat (48 + dgt 2 0 x),UInt8.ofNat (48 + dgt 2 1 x)] = some (.ofNat x):=by decide +kernel
theorem atoi3 : ∀ x,x < 256 → ndg x = 3 → Lib.atoi [UInt8.ofNat (48 + dgt 3 0 x),UInt8.ofNat (48 + dgt 3 1 x),UInt8.ofNat (48 + dgt 3 2 x)] = some (.ofNat x):=by decide +kernel
theorem u8_of {a : UInt8} {n : Nat} (h : Value.int .u8 (.ofNat a.toNat) = Value.int .u8 (.ofNat n)) : a = UInt8.ofNat n:=by
  injection h with _ h
  rw [← Int.ofNat.inj h]; simp
theorem atoi_of {m : Mp} {a : Pos} {i x k : Nat} {d : List Nat} (hm : m a = some (i,x)) (hx : x < 256) (hd : dgOk k x) (hk : ltF k = 0) (h : H) (w : World) (B : Nat) (hw : HR tb NN m h w) (b : ByteArray) (hb : byV b = d.map fun n=>Value.int .u8 (.ofNat n)) (hl : d.length ≤ 3) (ha : Lib.atoi (d.map UInt8.ofNat) = some (.ofNat x)) :
    Calls Tryz.prog 357 #[.string b] w fun e w'=>∃ u m',e = .returned u ∧ VR m' (.tup [.ltr k a,.nili]) u ∧ HR tb NN m' h w' ∧ Go B m h w m' h w':=by
  have e1 : b.data.toList = d.map UInt8.ofNat:=by
    unfold byV at hb
    generalize b.data.toList = l at hb
    clear ha hl
    induction l generalizing d with
    | nil=>cases d with | nil=>rfl | cons=>cases hb
    | cons y l ih =>
      cases d with
      | nil=>cases hb
      | cons z d =>
        injection hb with h1 h2
        rw [List.map_cons,← u8_of h1,ih h2]
  have hs : b.size ≤ 18:=by
    have : b.size = b.data.toList.length:=rfl
    rw [this,e1,List.length_map]; omega
  refine (Tryz.strconv_Atoi b (.ofNat x) hs (by rw [e1]; exact ha) w).mono fun e w' q=>⟨_,m,q.1,?_,?_⟩
  · exact .tup (.cons (ltr_num hm hx hd hk) (.cons .nili .nil))
  · obtain ⟨t,rfl⟩:=q.2
    exact HR.bytesW hw _ _ _
theorem ltr_same {m : Mp} {k j : Nat} {a : Pos} {u u' : Value} (h : VR m (.ltr k a) u) (h' : VR m (.ltr j a) u') {x : Nat} (e : ∃ i,m a = some (i,x)) : u = .int (ltK k) (.ofNat (ltN k x)) ∧ u' = .int (ltK j) (.ofNat (ltN j x)):=by
  obtain ⟨i,y,q1,_,_,rfl⟩:=h.ltr_inv
  obtain ⟨i',y',p1,_,_,rfl⟩:=h'.ltr_inv
  obtain ⟨i0,e⟩:=e
  rw [e] at q1 p1
  injection q1 with q1
  injection q1 with _ q1
  injection p1 with p1
  injection p1 with _ p1
  subst q1 p1
  exact ⟨rfl,rfl⟩
theorem latoi_ok {xs : List AV} {h : H} {r : CRes} (hr : lAtoi xs h = some r) : CalOk Tryz.prog tb NN (.fn 357 [] []) xs h r:=by
  unfold lAtoi at hr
  split at hr <;> try (cases hr; done)
  · next a =>
    injection hr with hr
    subst hr
    refine CalOk.of_calls ⟨_,Tryz.func357,by decide,by decide⟩ fun m w args B hw ha _=>?_
    obtain ⟨u1,e,v1⟩:=ha.one
    obtain ⟨b1,rfl,v3⟩:=v1.txt_inv
    rw [args_eq e]
    obtain ⟨u,e2,v4⟩:=v3.one
    obtain ⟨i,x,q1,q2,q3,rfl⟩:=v4.ltr_inv
    exact atoi_of (k:=0) (d:=[48 + dgt 1 0 x]) q1 q2 (.inl rfl) rfl h w B hw b1 e2 (by simp) (atoi1 x q2 (q3.resolve_left (by decide)))
  · next a b =>
    cases hk : Pos.beq a b with
    | false=>rw [hk] at hr; cases hr
    | true =>
      rw [hk,cond_true] at hr
      injection hr with hr
      subst hr
      have hk:=Pos.beq_eq hk
      subst hk
      refine CalOk.of_calls ⟨_,Tryz.func357,by decide,by decide⟩ fun m w args B hw ha _=>?_
      obtain ⟨u1,e,v1⟩:=ha.one
      obtain ⟨b1,rfl,v3⟩:=v1.txt_inv
      rw [args_eq e]
      obtain ⟨u,u',e2,v4,v5⟩:=v3.two
      obtain ⟨i,x,q1,q2,q3,_⟩:=v4.ltr_inv
      obtain ⟨rfl,rfl⟩:=ltr_same v4 v5 ⟨i,q1⟩
      exact atoi_of (k:=0) (d:=[48 + dgt 2 0 x,48 + dgt 2 1 x]) q1 q2 (.inl rfl) rfl h w B hw b1 e2 (by simp) (atoi2 x q2 (q3.resolve_left (by decide)))
  · next a b c =>
    cases hk : Pos.beq a b && Pos.beq a c with
    | false=>rw [hk] at hr; cases hr
    | true =>
      rw [hk,cond_true] at hr
      injection hr with hr
      subst hr
      rw [Bool.and_eq_true] at hk
      have hk1:=Pos.beq_eq hk.1
      have hk2:=Pos.beq_eq hk.2
      subst hk1
      subst hk2
      refine CalOk.of_calls ⟨_,Tryz.func357,by decide,by decide⟩ fun m w args B hw ha _=>?_
      obtain ⟨u1,e,v1⟩:=ha.one
      obtain ⟨b1,rfl,v3⟩:=v1.txt_inv
      rw [args_eq e]
      generalize hl : byV b1 = l at v3
      cases v3 with | cons v4 v6 =>
      obtain ⟨u',u'',e2,v5,v7⟩:=v6.two
      subst e2
      obtain ⟨i,x,q1,q2,q3,_⟩:=v4.ltr_inv
      obtain ⟨rfl,rfl⟩:=ltr_same v4 v5 ⟨i,q1⟩
      obtain ⟨_,rfl⟩:=ltr_same v4 v7 ⟨i,q1⟩
      exact atoi_of (k:=0) (d:=[48 + dgt 3 0 x,48 + dgt 3 1 x,48 + dgt 3 2 x]) q1 q2 (.inl rfl) rfl h w B hw b1 hl (by simp) (atoi3 x q2 (q3.resolve_left (by decide)))
end
end Am
end Go.Proofs.YtadbcnekkceoaaaGreatDoor
namespace Go.Proofs.YtadbcnekkceoaaaGreatDoor
namespace Am
open Go.Shelf Go.RowKit
theorem rowA_ok {m : Mp} {c : T AV} {cs : Array Value} : ∀ (n o : Nat) (s : List AV),rowA c o n = some s → (∀ j,j < o + n → ∃ v u,c.at j = some v ∧ cs[j]? = some u ∧ VR m v u) →
    ∃ l : List UInt8,VRs m s (bv l) ∧ l.length = n ∧ ∀ (j : Nat) (x : UInt8),l[j]? = some x → cs[o + j]? = some (Value.int .u8 x.toNat)
  | 0,o,s,h,_=>by
    injection h with h
    subst h
    exact ⟨[],.nil,rfl,fun j x hx=>by simp at hx⟩
  | n + 1,o,s,h,hc=>by
    have step : ∀ (v : AV) (b : Nat) (s' : List AV),b < 256 → c.at o = some v → (∀ u,VR m v u → u = .int .u8 (.ofNat b)) → rowA c (Nat.succ o) n = some s' → ∃ l : List UInt8,VRs m (v :: s') (bv l) ∧ l.length = n + 1 ∧ ∀ (j : Nat) (x : UInt8),l[j]? = some x → cs[o + j]? = some (Value.int .u8 x.toNat):=fun v b s' hb hv hu hs=>by
      obtain ⟨l,q1,q2,q3⟩:=rowA_ok n (Nat.succ o) s' hs (fun j hj=>hc j (by omega))
      obtain ⟨v',u,d1,d2,d3⟩:=hc o (by omega)
      rw [hv] at d1
      injection d1 with d1
      subst d1
      have e:=hu u d3
      subst e
      have hb' : (UInt8.ofNat b).toNat = b:=by rw [UInt8.toNat_ofNat',Nat.mod_eq_of_lt (by omega)]
      refine ⟨UInt8.ofNat b :: l,.cons (by show VR m v (Value.int .u8 (.ofNat (UInt8.ofNat b).toNat)); rw [hb']; exact d3) q1,by rw [List.length_cons,q2],fun j x hx=>?_⟩
      cases j with
      | zero=>simp at hx; subst hx; rw [hb']; exact d2
      | succ j =>
        have:=q3 j x (by simpa using hx)
        rw [show o + (j + 1) = Nat.succ o + j by omega]
        exact this
    unfold rowA at h
    split at h <;> try (cases h; done)
    · next b hb =>
      cases hk : Nat.blt b 256 with
      | false=>rw [hk] at h; cases h
      | true =>
        rw [hk,cond_true] at h
        rw [Nat.blt_eq] at hk
        split at h <;> try (cases h; done)
        next l' hl =>
        injection h with h
        subst h
        exact step _ b l' hk hb (fun u hu=>hu.int_inv) hl
    · next k a hb =>
      cases hk : digK k with
      | false=>rw [hk] at h; cases h
      | true =>
        rw [hk,cond_true] at h
        split at h <;> try (cases h; done)
        next l' hl =>
        injection h with h
        subst h
        obtain ⟨v',u',d1,d2,d3⟩:=hc o (by omega)
        rw [hb] at d1
        injection d1 with d1
        subst d1
        obtain ⟨i,x,p1,p2,p3,rfl⟩:=d3.ltr_inv
        obtain ⟨g1,g2,g3,g4,g5⟩:=digK_ok hk x
        refine step _ (ltN k x) l' (by omega) hb (fun u hu=>?_) hl
        obtain ⟨i',x',p1',p2',p3',rfl⟩:=hu.ltr_inv
        rw [p1] at p1'
        injection p1' with p1'
        injection p1' with _ e
        subst e
        rw [g3]
theorem lstring_ok {tb : Tb} {NN : Nat → Nat} {xs : List AV} {h : H} {r : CRes} (hr : lString 5 xs h = some r) : CalOk Tryz.prog tb NN (.fn 37 [] []) xs h r:=by
  unfold lString at hr
  split at hr <;> try (cases hr; done)
  next b o =>
  split at hr <;> try (cases hr; done)
  next n c hg =>
  cases hk : Nat.blt (Nat.succ o) n with
  | false=>rw [hk] at hr; cases hr
  | true =>
    rw [hk,cond_true] at hr
    rw [Nat.blt_eq] at hk
    split at hr <;> try (cases hr; done)
    · next a k ho =>
      split at hr <;> try (cases hr; done)
      next q d hgd =>
      split at hr <;> try (cases hr; done)
      next t ht =>
      cases hk2 : (Nat.beq t 5 && (Nat.blt 0 k && Nat.ble k q)) with
      | false=>rw [hk2] at hr; cases hr
      | true =>
        rw [hk2,cond_true] at hr
        simp only [Bool.and_eq_true] at hk2
        obtain ⟨k1,k2,k3⟩:=hk2
        have k1:=Nat.eq_of_beq_eq_true k1
        subst k1
        rw [Nat.blt_eq] at k2
        have k3:=Nat.le_of_ble_eq_true k3
        split at hr <;> try (cases hr; done)
        next s hs =>
        injection hr with hr
        subst hr
        refine CalOk.of_calls ⟨_,Tryz.func37,by decide,by decide⟩ fun m w args B hw ha _=>?_
        obtain ⟨u,e,v⟩:=ha.one
        obtain ⟨i,sz,hm,rfl⟩:=v.ptr_inv
        rw [args_eq e]
        obtain ⟨i',sz',cs,t',fz,a1,a2,a3,a4,a5,a6,a7⟩:=hw.cells hg
        rw [hm] at a1
        injection a1 with a1
        injection a1 with e1 e2
        subst e1; subst e2
        obtain ⟨v0,u0,c1,c2,c3⟩:=a5 (o + 1) hk
        rw [show c.at (o + 1) = some (.slc a 0 k 1) from ho] at c1
        injection c1 with c1
        subst c1
        cases c3 with
        | slc0 o' c h0 h1=>exact absurd h1 (Nat.lt_irrefl 0)
        | slc hma hle hsz hmax =>
        rename_i g sg cap
        obtain ⟨g',sg',cs',t5,fz',b1,b2,b3,b4,b5,b6,b7⟩:=hw.cells hgd
        rw [hma] at b1
        injection b1 with b1
        injection b1 with e1 e2
        subst e1; subst e2
        have:=b7 _ ht
        subst this
        obtain ⟨l,hls,hll,hl⟩:=rowA_ok (m:=m) (cs:=cs') _ 0 _ hs (fun j hj=>by
          obtain ⟨v1,u1,d1,d2,d3⟩:=b5 j (by omega)
          exact ⟨v1,u1,d1,d2,d3⟩)
        replace hl : ∀ (j : Nat) (x : UInt8),l[j]? = some x → cs'[j]? = some (Value.int .u8 x.toNat):=fun j x hx=>by
          have:=hl j x hx
          rwa [Nat.zero_add] at this
        refine (string_row w i o g cap cs' fz' l (by rw [hll,Lib.cell_of_heap a2]; exact c2) (fun e=>by rw [e] at hll; simp at hll; omega) b2 (by omega) (by omega) (by omega) hl).mono fun e w' q=>?_
        obtain ⟨q1,kk,q2⟩:=q
        obtain ⟨fz2,q3⟩:=freeze_pw (w:=w.drewN kk) (n:=l.length) b2 (by omega)
        rw [q3] at q2
        refine ⟨_,m,q1,txN_ok (by rw [byV_mk]; exact hls),?_⟩
        rw [q2]
        have hw' : HR tb NN m h (w.drewN kk):=hw.congr rfl
        obtain ⟨g1,g2⟩:=hw'.turnR (b':=.cells true q d) hgd rfl hma (.cells b3 b4 b5 (fun e=>by cases e) b7) (o':=.cells cs' 5 fz2) B
        exact ⟨g1,⟨g2.le,g2.keep,g2.img,g2.imgA,g2.new,g2.next,g2.size,g2.os,g2.tape,g2.output⟩⟩
end Am
end Go.Proofs.YtadbcnekkceoaaaGreatDoor
namespace Go.Proofs.YtadbcnekkceoaaaGreatDoor
namespace Am
def dgN (x : Nat) : List Nat:=match ndg x with | 1=>[48 + dgt 1 0 x] | 2=>[48 + dgt 2 0 x,48 + dgt 2 1 x] | _=>[48 + dgt 3 0 x,48 + dgt 3 1 x,48 + dgt 3 2 x]
def flat (v : AV) : Bool:=match v with | .int _ _=>true | .ltr _ _=>true | _=>false
section
variable {m : Mp}
theorem ndg_or (x : Nat) : ndg x = 1 ∨ ndg x = 2 ∨ ndg x = 3:=by
  unfold ndg
  cases Nat.blt x 10 <;> cases Nat.blt x 100 <;> simp
theorem dgN_vr {a : Pos} {i x : Nat} (hm : m a = some (i,x)) (hx : x < 256) : VRs m (digL (ndg x) a) ((dgN x).map fun n=>Value.int .u8 (.ofNat n)):=by
  obtain ⟨h1,h2,h3⟩:=digL_vr (m:=m) hm hx
  unfold dgN
  rcases ndg_or x with h | h | h
  · rw [h]; exact h1 h
  · rw [h]; exact h2 h
  · rw [h]; exact h3 h
theorem byl_vr : ∀ p : List Nat,VRs m (p.map byA) (p.map fun n=>Value.int .u8 (.ofNat n))
  | []=>.nil
  | n :: p=>.cons (.int .u8 (.ofNat n)) (byl_vr p)
theorem txtP_vr {p q r : List Nat} {a c : Pos} {i j x y : Nat} (h1 : m a = some (i,x)) (hx : x < 256) (h2 : m c = some (j,y)) (hy : y < 256) : VRs m (txtP p (ndg x) a q (ndg y) c r) ((p ++ (dgN x ++ (q ++ (dgN y ++ r)))).map fun n=>Value.int .u8 (.ofNat n)):=by
  simp only [List.map_append]
  exact (byl_vr p).app ((dgN_vr h1 hx).app ((byl_vr q).app ((dgN_vr h2 hy).app (byl_vr r))))
theorem flat_det : ∀ {l : List AV} {k k' : List Value},l.all flat = true → VRs m l k → VRs m l k' → k = k'
  | [],_,_,_,.nil,.nil=>rfl
  | v :: l,_,_,h,.cons a b,.cons a' b'=>by
    rw [List.all_cons,Bool.and_eq_true] at h
    rw [flat_det h.2 b b']
    congr 1
    cases v with
    | int q n=>rw [a.int_inv,a'.int_inv]
    | ltr q n =>
      obtain ⟨i,x,p1,p2,p3,rfl⟩:=a.ltr_inv
      obtain ⟨i',x',p1',p2',p3',rfl⟩:=a'.ltr_inv
      rw [p1] at p1'
      injection p1' with p1'
      injection p1' with _ e
      rw [e]
    | _=>cases h.1
theorem flat_bys : ∀ p : List Nat,(p.map byA).all flat = true
  | []=>rfl
  | _ :: p=>flat_bys p
theorem flat_dig (n : Nat) (a : Pos) : (digL n a).all flat = true:=by
  unfold digL
  split <;> rfl
theorem flat_txtP (p : List Nat) (n : Nat) (a : Pos) (q : List Nat) (k : Nat) (c : Pos) (r : List Nat) : (txtP p n a q k c r).all flat = true:=by
  unfold txtP
  rw [List.all_append,List.all_append,List.all_append,List.all_append,flat_bys,flat_dig,flat_bys,flat_dig,flat_bys]
  rfl
theorem u8s_inj : ∀ {l k : List Nat},(l.map fun n=>Value.int .u8 (.ofNat n)) = (k.map fun n=>Value.int .u8 (.ofNat n)) → l = k
  | [],[],_=>rfl
  | [],_ :: _,h=>by cases h
  | _ :: _,[],h=>by cases h
  | a :: l,b :: k,h=>by
    rw [List.map_cons,List.map_cons] at h
    injection h with h1 h2
    injection h1 with _ h1
    rw [Int.ofNat.inj h1,u8s_inj h2]
theorem txtP_bytes {p q r : List Nat} {a c : Pos} {i j x y : Nat} (h1 : m a = some (i,x)) (hx : x < 256) (h2 : m c = some (j,y)) (hy : y < 256) {b : ByteArray} (h : VRs m (txtP p (ndg x) a q (ndg y) c r) (byV b)) : b.data.toList.map UInt8.toNat = p ++ (dgN x ++ (q ++ (dgN y ++ r))):=by
  have:=flat_det (flat_txtP _ _ _ _ _ _ _) h (txtP_vr h1 hx h2 hy)
  rw [byV_nat] at this
  exact u8s_inj this
end
noncomputable section
theorem endT_ok {out : List AV} {v : AV} {r : CRes} (h : endT out v = some r) : ∃ a,v = .tup [.agg [.txt out,.int .i64 (.ofNat 0),.str [54]],a,.int .i64 (.ofNat 0)]:=by
  unfold endT at h
  rw [tupC_eq] at h
  split at h
  · next s =>
    obtain ⟨a,s1,rfl,h1⟩:=unC_ok h
    obtain ⟨b,s2,rfl,h2⟩:=unC_ok h1
    obtain ⟨e,s3,rfl,h3⟩:=unC_ok h2
    obtain ⟨rfl,h4⟩:=niC_ok h3
    obtain ⟨rfl,h5⟩:=i64C_ok h4
    rw [aggC_eq] at h5
    split at h5
    · next c =>
      obtain ⟨x,c1,rfl,k1⟩:=unC_ok h5
      obtain ⟨y,c2,rfl,k2⟩:=unC_ok k1
      obtain ⟨z,c3,rfl,k3⟩:=unC_ok k2
      obtain ⟨rfl,k4⟩:=niC_ok k3
      rw [txtC_eq] at k4
      split at k4
      · next l =>
        obtain ⟨k5,k6⟩:=ifC_ok k4
        obtain ⟨rfl,k7⟩:=i64C_ok k6
        obtain ⟨q,rfl,k8⟩:=strC_ok k7
        obtain ⟨rfl,k9⟩:=eqLC_ok k8
        rw [AV.sameL_eq k5]
        exact ⟨_,rfl⟩
      · cases k4
    · cases h5
  · cases h
end
theorem VR.endT {m : Mp} {out : List AV} {a : AV} {u : Value} (h : VR m (.tup [.agg [.txt out,.int .i64 (.ofNat 0),.str [54]],a,.int .i64 (.ofNat 0)]) u) : ∃ bo bv ua,u = .tuple #[.agg #[.string bo,.int .i64 0,.string bv],ua,.int .i64 0] ∧ VRs m out (byV bo) ∧ [54] = bv.data.toList.map UInt8.toNat:=by
  cases h with | tup h =>
  rename_i arr
  obtain ⟨l⟩:=arr
  cases h with | cons h1 h =>
  cases h with | cons h2 h =>
  obtain ⟨_,rfl,h3⟩:=h.one
  cases h3.int_inv
  cases h1 with | agg h1 =>
  rename_i arr
  obtain ⟨l⟩:=arr
  cases h1 with | cons h4 h1 =>
  obtain ⟨_,_,rfl,h5,h6⟩:=h1.two
  cases h5.int_inv
  obtain ⟨bv,rfl,e2⟩:=h6.str_inv
  cases h4 with | txt h4 =>
  exact ⟨_,bv,_,rfl,h4,e2⟩
end Am
end Go.Proofs.YtadbcnekkceoaaaGreatDoor
