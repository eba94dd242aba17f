/- The frame law: what a call does in a small heap, it does in every heap that holds the small one under other numbers. -/
import Derived.Test.YtadbcnekkceoaaaGreatDoorKOAmHj
set_option linter.unusedVariables false
namespace Go.Proofs.YtadbcnekkceoaaaGreatDoor
namespace Am
mutual
def rn (ρ : Pos → Pos) : AV → AV
  | .ptr a o=>.ptr (ρ a) o
  | .slc a o n z=>.slc (ρ a) o n z
  | .slcE a o z=>.slcE (ρ a) o z
  | .map a=>.map (ρ a)
  | .yld a=>.yld (ρ a)
  | .fn f x y=>.fn f (rns ρ x) (rns ρ y)
  | .ifc t v=>.ifc t (rn ρ v)
  | .agg l=>.agg (rns ρ l)
  | .tup l=>.tup (rns ρ l)
  | .junk=>.junk
  | .int k n=>.int k n
  | .bool b=>.bool b
  | .str s=>.str s
  | .nilp=>.nilp
  | .nils=>.nils
  | .nilm=>.nilm
  | .nilf=>.nilf
  | .nili=>.nili
  | .ltr k a=>.ltr k (ρ a)
  | .ge n=>.ge n
  | .tyv n=>.tyv n
  | .glb a g z=>.glb (ρ a) g z
  | .txt l=>.txt (rns ρ l)
def rns (ρ : Pos → Pos) : List AV → List AV
  | []=>[]
  | v :: l=>rn ρ v :: rns ρ l
end
mutual
theorem VR.rn {m : Mp} {ρ : Pos → Pos} : ∀ {v : AV} {u : Value},VR (fun a=>m (ρ a)) v u → VR m (rn ρ v) u
  | _,_,.junk v=>.junk v
  | _,_,.int k n=>.int k n
  | _,_,.bool b=>.bool b
  | _,_,.str b=>.str b
  | _,_,.ptr o h=>.ptr o h
  | _,_,.nilp=>.nilp
  | _,_,.slc h a b c=>.slc h a b c
  | _,_,.slc0 o c h a=>.slc0 o c h a
  | _,_,.slcE o z o' h=>.slcE o z o' h
  | _,_,.nils=>.nils
  | _,_,.map h=>.map h
  | _,_,.nilm=>.nilm
  | _,_,.fn f a b=>.fn f a.rns b.rns
  | _,_,.yld h=>.yld h
  | _,_,.nilf=>.nilf
  | _,_,.ifc t h=>.ifc t h.rn
  | _,_,.nili=>.nili
  | _,_,.agg h=>.agg h.rns
  | _,_,.tup h=>.tup h.rns
  | _,_,.ltr k h l n=>.ltr k h l n
  | _,_,.ge h l=>.ge h l
  | _,_,.glb v h=>.glb v h
  | _,_,.txt h=>.txt h.rns
theorem VRs.rns {m : Mp} {ρ : Pos → Pos} : ∀ {l : List AV} {k : List Value},VRs (fun a=>m (ρ a)) l k → VRs m (rns ρ l) k
  | _,_,.nil=>.nil
  | _,_,.cons a b=>.cons a.rn b.rns
end
mutual
theorem VR.nr {m : Mp} {ρ : Pos → Pos} : ∀ (v : AV) {u : Value},VR m (Am.rn ρ v) u → VR (fun a=>m (ρ a)) v u
  | .junk,_,.junk v=>.junk v
  | .int _ _,_,.int k n=>.int k n
  | .bool _,_,.bool b=>.bool b
  | .str _,_,.str b=>.str b
  | .ptr _ _,_,.ptr o h=>.ptr o h
  | .nilp,_,.nilp=>.nilp
  | .slc _ _ _ _,_,.slc h a b c=>.slc h a b c
  | .slc _ _ _ _,_,.slc0 o c h a=>.slc0 o c h a
  | .slcE _ _ _,_,.slcE o z o' h=>.slcE o z o' h
  | .nils,_,.nils=>.nils
  | .map _,_,.map h=>.map h
  | .nilm,_,.nilm=>.nilm
  | .fn _ x y,_,.fn f a b=>.fn f (VRs.nr x a) (VRs.nr y b)
  | .yld _,_,.yld h=>.yld h
  | .nilf,_,.nilf=>.nilf
  | .ifc _ v,_,.ifc t h=>.ifc t (VR.nr v h)
  | .nili,_,.nili=>.nili
  | .agg l,_,.agg h=>.agg (VRs.nr l h)
  | .tup l,_,.tup h=>.tup (VRs.nr l h)
  | .ltr _ _,_,.ltr k h l n=>.ltr k h l n
  | .ge _,_,.ge h l=>.ge h l
  | .glb _ _ _,_,.glb v h=>.glb v h
  | .txt l,_,.txt h=>.txt (VRs.nr l h)
theorem VRs.nr {m : Mp} {ρ : Pos → Pos} : ∀ (l : List AV) {k : List Value},VRs m (Am.rns ρ l) k → VRs (fun a=>m (ρ a)) l k
  | [],_,.nil=>.nil
  | v :: l,_,.cons a b=>.cons (VR.nr v a) (VRs.nr l b)
end
def JLe (v v' : AV) : Prop:=∀ m u,VR m v u → VR m v' u
def JLes (l l' : List AV) : Prop:=∀ m k,VRs m l k → VRs m l' k
theorem JLe.refl (v : AV) : JLe v v:=fun _ _ h=>h
theorem JLe.of_eq {v v' : AV} (h : v = v') : JLe v v':=fun _ _ q=>h ▸ q
theorem JLes.refl (v : List AV) : JLes v v:=fun _ _ h=>h
theorem JLes.nil : JLes [] []:=fun _ _ h=>h
theorem JLes.cons {v v' : AV} {l l' : List AV} (h : JLe v v') (k : JLes l l') : JLes (v :: l) (v' :: l'):=fun m x q=>by
  cases q with | cons a b=>exact .cons (h _ _ a) (k _ _ b)
theorem JLe.agg {l l' : List AV} (h : JLes l l') : JLe (.agg l) (.agg l'):=fun m u q=>by
  cases q with | agg a=>exact .agg (h _ _ a)
theorem JLe.tup {l l' : List AV} (h : JLes l l') : JLe (.tup l) (.tup l'):=fun m u q=>by
  cases q with | tup a=>exact .tup (h _ _ a)
theorem JLe.txt {l l' : List AV} (h : JLes l l') : JLe (.txt l) (.txt l'):=fun m u q=>by
  cases q with | txt a=>exact .txt (h _ _ a)
theorem JLe.junk (v : AV) : JLe v .junk:=fun _ u _=>.junk u
theorem JLe.ge {n n' : Nat} (h : n' ≤ n) : JLe (.ge n) (.ge n'):=fun m u q=>by
  cases q with | ge a b=>exact .ge (Nat.le_trans h a) b
theorem JLe.int {n v : Nat} (h : n ≤ v) (h' : v ≤ 4611686018427387904) : JLe (.int .i64 (.ofNat v)) (.ge n):=fun m u q=>by
  cases q; exact .ge h h'
def AB.fit (ρ : Pos → Pos) : AB → AB → Prop
  | .cells ro n c,.cells ro' n' c'=>ro = ro' ∧ n ≤ n' ∧ (∀ q,T.get mkP c = some (.tyv q) → 4094 < n) ∧ ∀ j,j < n → ∃ v v',c.at j = some v ∧ c'.at j = some v' ∧ JLe v' (rn ρ v)
  | .mp [] k,.mp [] k'=>k = k'
  | .gh n,.gh n'=>n = 0 ∨ n = n'
  | _,_=>False
def AB.mv (ρ : Pos → Pos) : AB → AB → Prop
  | .cells ro n c,.cells ro' n' c'=>ro = ro' ∧ n' ≤ n ∧ (∀ q,T.get mkP c' = some (.tyv q) → 4094 < n') ∧ ∀ j,j < n' → ∃ v v',c.at j = some v ∧ c'.at j = some v' ∧ JLe (rn ρ v) v'
  | .mp [] k,.mp [] k'=>k = k'
  | .gh n,.gh n'=>n = n'
  | _,_=>False
def AB.kv (ρ : Pos → Pos) (b b' : AB) : Prop:=b.mv ρ b' ∨ ∃ n n',b = .gh n ∧ b' = .gh n'
section
variable {tb : Tb} {N : Nat → Nat} {m : Mp} {ρ : Pos → Pos}
theorem AB.fit_cases {b b' : AB} (h : b.fit ρ b') : (∃ ro n c n' c',b = .cells ro n c ∧ b' = .cells ro n' c' ∧ n ≤ n' ∧ (∀ q,T.get mkP c = some (.tyv q) → 4094 < n) ∧ ∀ j,j < n → ∃ v v',c.at j = some v ∧ c'.at j = some v' ∧ JLe v' (rn ρ v)) ∨ (∃ k,b = .mp [] k ∧ b' = .mp [] k) ∨ (∃ n n',b = .gh n ∧ b' = .gh n' ∧ (n = 0 ∨ n = n')):=by
  unfold AB.fit at h
  split at h
  · obtain ⟨h1,h2,h3⟩:=h; subst h1; exact .inl ⟨_,_,_,_,_,rfl,rfl,h2,h3.1,h3.2⟩
  · subst h; exact .inr (.inl ⟨_,rfl,rfl⟩)
  · exact .inr (.inr ⟨_,_,rfl,rfl,h⟩)
  · exact h.elim
theorem AB.mv_cases {b b' : AB} (h : b.mv ρ b') : (∃ ro n c n' c',b = .cells ro n c ∧ b' = .cells ro n' c' ∧ n' ≤ n ∧ (∀ q,T.get mkP c' = some (.tyv q) → 4094 < n') ∧ ∀ j,j < n' → ∃ v v',c.at j = some v ∧ c'.at j = some v' ∧ JLe (rn ρ v) v') ∨ (∃ k,b = .mp [] k ∧ b' = .mp [] k) ∨ (∃ n,b = .gh n ∧ b' = .gh n):=by
  unfold AB.mv at h
  split at h
  · obtain ⟨h1,h2,h3⟩:=h; subst h1; exact .inl ⟨_,_,_,_,_,rfl,rfl,h2,h3.1,h3.2⟩
  · subst h; exact .inr (.inl ⟨_,rfl,rfl⟩)
  · subst h; exact .inr (.inr ⟨_,rfl,rfl⟩)
  · exact h.elim
theorem AB.fit.ro {b b' : AB} (h : b.fit ρ b') : b.ro = b'.ro:=by
  rcases AB.fit_cases h with ⟨_,_,_,_,_,rfl,rfl,_⟩ | ⟨_,rfl,rfl⟩ | ⟨_,_,rfl,rfl,_⟩ <;> rfl
theorem AB.mv.ro {b b' : AB} (h : b.mv ρ b') : b.ro = b'.ro:=by
  rcases AB.mv_cases h with ⟨_,_,_,_,_,rfl,rfl,_⟩ | ⟨_,rfl,rfl⟩ | ⟨_,rfl,rfl⟩ <;> rfl
theorem AB.fit.br {b b' : AB} (h : b.fit ρ b') {o : Obj} {sz : Nat} (hb : BR tb N m b' o sz) : BR tb N (fun a=>m (ρ a)) b o sz:=by
  rcases AB.fit_cases h with ⟨ro,n,c,n',c',rfl,rfl,h2,h4,h3⟩ | ⟨k,rfl,rfl⟩ | ⟨n,n',rfl,rfl,hn⟩
  · cases hb with
    | cells a cc d e g =>
      have key : ∀ j,j < n → ∃ v u,c.at j = some v ∧ _ ∧ VR (fun a=>m (ρ a)) v u:=fun j hj=>by
        obtain ⟨v,v',q1,q2,q6⟩:=h3 j hj
        obtain ⟨v'',u,q3,q4,q5⟩:=d j (by omega)
        rw [q2] at q3
        injection q3 with q3
        subst q3
        exact ⟨v,u,q1,q4,VR.nr v (q6 _ _ q5)⟩
      refine .cells a (by omega) (fun j hj=>?_) e (fun q hq=>?_)
      rotate_left
      · obtain ⟨v,u,k1,_,k3⟩:=key 4094 (h4 q hq)
        rw [mkP_at,hq] at k1
        injection k1 with k1
        subst k1
        cases k3
      obtain ⟨v,v',q1,q2,q6⟩:=h3 j hj
      obtain ⟨v'',u,q3,q4,q5⟩:=d j (by omega)
      rw [q2] at q3
      injection q3 with q3
      subst q3
      exact ⟨v,u,q1,q4,VR.nr v (q6 _ _ q5)⟩
  · cases hb with
    | mp h =>
      generalize hx : Array.toList _ = xs at h
      cases h
      exact .mp (by rw [hx]; exact .nil)
  · cases hb with
    | gh h=>rcases hn with rfl | rfl; exact .gh (.inl rfl); exact .gh h
theorem AB.mv.br {b b' : AB} (h : b.mv ρ b') {o : Obj} {sz : Nat} (hb : BR tb N (fun a=>m (ρ a)) b o sz) : BR tb N m b' o sz:=by
  rcases AB.mv_cases h with ⟨ro,n,c,n',c',rfl,rfl,h2,h4,h3⟩ | ⟨k,rfl,rfl⟩ | ⟨n,rfl,rfl⟩
  · cases hb with
    | cells a cc d e g =>
      have key : ∀ j,j < n' → ∃ v u,c'.at j = some v ∧ _ ∧ VR m v u:=fun j hj=>by
        obtain ⟨v,v',q1,q2,q6⟩:=h3 j hj
        obtain ⟨v'',u,q3,q4,q5⟩:=d j (by omega)
        rw [q1] at q3
        injection q3 with q3
        subst q3
        exact ⟨v',u,q2,q4,q6 _ _ q5.rn⟩
      refine .cells a (by omega) (fun j hj=>?_) e (fun q hq=>?_)
      rotate_left
      · obtain ⟨v,u,k1,_,k3⟩:=key 4094 (h4 q hq)
        rw [mkP_at,hq] at k1
        injection k1 with k1
        subst k1
        cases k3
      obtain ⟨v,v',q1,q2,q6⟩:=h3 j hj
      obtain ⟨v'',u,q3,q4,q5⟩:=d j (by omega)
      rw [q1] at q3
      injection q3 with q3
      subst q3
      exact ⟨v',u,q2,q4,q6 _ _ q5.rn⟩
  · cases hb with
    | mp h =>
      generalize hx : Array.toList _ = xs at h
      cases h
      exact .mp (by rw [hx]; exact .nil)
  · cases hb with
    | gh h=>exact .gh h
end
structure Fit (ρ : Pos → Pos) (s : Nat) (h0 h : H) : Prop where
  next : h0.next.nat + s = h.next.nat
  hi : ∀ a,h0.next.nat ≤ a.nat → (ρ a).nat = a.nat + s
  lo : ∀ a,a.nat < h0.next.nat → (ρ a).nat < h.next.nat ∨ ∃ b,h.get (ρ a) = some b
  blk : ∀ a b,h0.get a = some b → ∃ b',h.get (ρ a) = some b' ∧ b.fit ρ b'
  inj : ∀ a a' b b',h0.get a = some b → h0.get a' = some b' → ρ a = ρ a' → a = a'
def Kv (h : H) (ρ : Pos → Pos) (a : Pos) (b1 b : AB) : Prop:=b1.mv ρ b ∨ ∃ n0 n,b1 = .gh n0 ∧ b = .gh n ∧ h.get a = some b
theorem Kv.ro {h : H} {ρ : Pos → Pos} {a : Pos} {b1 b : AB} (k : Kv h ρ a b1 b) : b1.ro = b.ro:=by
  rcases k with k | ⟨n0,n,rfl,rfl,_⟩
  · exact AB.mv.ro k
  · rfl
structure Out (ρ : Pos → Pos) (s : Nat) (h0 h h1 h' : H) : Prop where
  next : h'.next.nat = h1.next.nat + s
  blk : ∀ a b,h'.get a = some b → (h.get a = some b ∧ ∀ a0 b0,h0.get a0 = some b0 → a ≠ ρ a0) ∨ ∃ a1 b1,h1.get a1 = some b1 ∧ a = ρ a1 ∧ Kv h ρ a b1 b
section
variable {P : Program} {tb : Tb} {NN : Nat → Nat} {ρ : Pos → Pos} {s : Nat} {h0 h h1 h' : H}
theorem Fit.hr (f : Fit ρ s h0 h) {m : Mp} {w : World} (hr : HR tb NN m h w) : HR tb NN (fun a=>m (ρ a)) h0 w where
  blk a b hb:=by
    obtain ⟨b',q1,q2⟩:=f.blk a b hb
    obtain ⟨i,sz,o,p1,p2,p3⟩:=hr.blk _ _ q1
    exact ⟨i,sz,o,p1,p2,q2.br p3⟩
  inj a a' b b' i sz sz' ha ha' hm hm':=by
    obtain ⟨c,q1,q2⟩:=f.blk a b ha
    obtain ⟨c',q1',q2'⟩:=f.blk a' b' ha'
    rcases hr.inj _ _ _ _ _ _ _ q1 q1' hm hm' with h | h
    · exact .inl (f.inj _ _ _ _ ha ha' h)
    · exact .inr ⟨q2.ro.trans h.1,q2'.ro.trans h.2⟩
  lt a i sz hm:=hr.lt _ _ _ hm
  fresh a ha:=hr.fresh _ (by rw [f.hi a ha,← f.next]; omega)
open Classical in
noncomputable def mpOut (ρ : Pos → Pos) (h0 h : H) (m m1 : Mp) : Mp:=fun a =>
  if a.nat < h.next.nat then m a else if e : ∃ b,ρ b = a ∧ h0.next.nat ≤ b.nat then m1 e.choose else none
theorem Fit.out (f : Fit ρ s h0 h) (o : Out ρ s h0 h h1 h') {m m1 : Mp} {w w1 : World} {B : Nat} (hB : B ≤ h.next.nat) (hr : HR tb NN m h w) (hr1 : HR tb NN m1 h1 w1) (g : Go h0.next.nat (fun a=>m (ρ a)) h0 w m1 h1 w1) :
    m1 = (fun a=>mpOut ρ h0 h m m1 (ρ a)) ∧ HR tb NN (mpOut ρ h0 h m m1) h' w1 ∧ Go B m h w (mpOut ρ h0 h m m1) h' w1:=by
  have hlow : ∀ a,a.nat < h.next.nat → mpOut ρ h0 h m m1 a = m a:=fun a ha=>by unfold mpOut; rw [if_pos ha]
  have hhigh : ∀ a,h0.next.nat ≤ a.nat → mpOut ρ h0 h m m1 (ρ a) = m1 a:=fun a ha=>by
    have hn:=f.hi a ha
    have:=f.next
    unfold mpOut
    rw [if_neg (by omega)]
    have e : ∃ b,ρ b = ρ a ∧ h0.next.nat ≤ b.nat:=⟨a,rfl,ha⟩
    rw [dif_pos e]
    have h1:=e.choose_spec
    have h2:=f.hi _ h1.2
    rw [h1.1] at h2
    rw [Pos.nat_inj (p:=e.choose) (q:=a) (by omega)]
  have hlt : ∀ a b,h.get a = some b → a.nat < h.next.nat:=fun a b hb=>by
    obtain ⟨i,sz,o,p1,_,_⟩:=hr.blk _ _ hb
    rcases Nat.lt_or_ge a.nat h.next.nat with hl | hl
    · exact hl
    · rw [hr.fresh a hl] at p1; cases p1
  have hm1 : ∀ a,m1 a = mpOut ρ h0 h m m1 (ρ a):=fun a=>by
    by_cases ha : a.nat < h0.next.nat
    · rw [hlow _ ((f.lo a ha).elim id fun ⟨b,hb⟩=>hlt _ _ hb)]
      cases e : m (ρ a) with
      | some x=>exact g.le a x e
      | none=>exact g.new a ha e
    · rw [hhigh a (by omega)]
  have hown : ∀ k,Own (fun a=>m (ρ a)) h0 k → Own m h k:=fun k ⟨a,b,sz,q1,q2,q3⟩=>by
    obtain ⟨b',p1,p2⟩:=f.blk a b q1
    exact ⟨_,b',sz,p1,p2.ro ▸ q2,q3⟩
  have hliv : ∀ k,Liv (fun a=>m (ρ a)) h0 k → Liv m h k:=fun k ⟨a,b,sz,q1,q3⟩=>by
    obtain ⟨b',p1,p2⟩:=f.blk a b q1
    exact ⟨_,b',sz,p1,q3⟩
  have hfr : ∀ {a b i sz},h.get a = some b → (∀ a0 b0,h0.get a0 = some b0 → a ≠ ρ a0) → m a = some (i,sz) → ¬ Own (fun a=>m (ρ a)) h0 i:=fun {a b i sz} hb hne hm ⟨a0,b0,sz0,q1,q2,q3⟩=>by
    obtain ⟨b',p1,p2⟩:=f.blk a0 b0 q1
    rcases hr.inj _ _ _ _ _ _ _ hb p1 hm q3 with e | e
    · exact hne a0 b0 q1 e
    · rw [← p2.ro,q2] at e; cases e.2
  have hcross : ∀ {a b a1 b1} {b' : AB} {i sz sz'},h.get a = some b → (∀ a0 b0,h0.get a0 = some b0 → a ≠ ρ a0) → h1.get a1 = some b1 → b1.ro = b'.ro → m a = some (i,sz) → m1 a1 = some (i,sz') → b.ro = true ∧ b'.ro = true:=fun {a b a1 b1 b' i sz sz'} hb hne hb1 hmv hm hma=>by
    have hi:=hr.lt _ _ _ hm
    have l1 : b.ro = true:=by
      rcases g.imgA i ⟨a1,b1,sz',hb1,hma⟩ with q | ⟨a0,b0,sz0,q1,q3⟩
      · omega
      · obtain ⟨c,p1,p2⟩:=f.blk a0 b0 q1
        rcases hr.inj _ _ _ _ _ _ _ hb p1 hm q3 with e | e
        · exact absurd e (hne a0 b0 q1)
        · exact e.1
    refine ⟨l1,?_⟩
    rw [← hmv]
    cases e : b1.ro with
    | true=>rfl
    | false =>
      rcases g.img i ⟨a1,b1,sz',hb1,e,hma⟩ with q | q
      · omega
      · exact absurd q (hfr hb hne hm)
  refine ⟨funext hm1,⟨fun a b hb=>?_,fun a a' b b' i sz sz' hb hb' hm hm'=>?_,fun a i sz hm=>?_,fun a ha=>?_⟩,⟨fun a x hx=>?_,fun k hk hn=>?_,fun k hk=>?_,fun k hk=>?_,fun a ha hn=>?_,?_,g.size,g.os,g.tape,g.output⟩⟩
  · rcases o.blk a b hb with ⟨q1,q2⟩ | ⟨a1,b1,q1,q2,q3⟩
    · obtain ⟨i,sz,ob,p1,p2,p3⟩:=hr.blk _ _ q1
      have hi:=hr.lt _ _ _ p1
      have hle : m.le (mpOut ρ h0 h m m1):=fun a x hx=>by
        rcases Nat.lt_or_ge a.nat h.next.nat with hl | hl
        · rw [hlow a hl,hx]
        · rw [hr.fresh a hl] at hx; cases hx
      exact ⟨i,sz,ob,hle _ _ p1,by rw [g.keep i hi (hfr q1 q2 p1)]; exact p2,p3.mono hle⟩
    · subst q2
      rcases q3 with q3 | ⟨n0,n,rfl,rfl,q4⟩
      · obtain ⟨i,sz,ob,p1,p2,p3⟩:=hr1.blk _ _ q1
        refine ⟨i,sz,ob,by rw [← hm1]; exact p1,p2,q3.br ?_⟩
        rw [← funext hm1]; exact p3
      · obtain ⟨i,sz,ob,p1,p2,p3⟩:=hr.blk _ _ q4
        have hi:=hr.lt _ _ _ p1
        have hi1:=Nat.lt_of_lt_of_le hi g.size
        refine ⟨i,sz,_,by rw [hlow _ (hlt _ _ q4)]; exact p1,Array.getElem?_eq_getElem hi1,?_⟩
        cases p3 with
        | gh hh=>exact .gh hh
  · rcases o.blk a b hb with ⟨q1,q2⟩ | ⟨a1,b1,q1,q2,q3⟩
    · rw [hlow _ (hlt _ _ q1)] at hm
      rcases o.blk a' b' hb' with ⟨p1,p2⟩ | ⟨a1',b1',p1,p2,p3⟩
      · rw [hlow _ (hlt _ _ p1)] at hm'
        exact hr.inj _ _ _ _ _ _ _ q1 p1 hm hm'
      · subst p2
        rw [← hm1] at hm'
        exact .inr (hcross q1 q2 p1 p3.ro hm hm')
    · subst q2
      rw [← hm1] at hm
      rcases o.blk a' b' hb' with ⟨p1,p2⟩ | ⟨a1',b1',p1,p2,p3⟩
      · rw [hlow _ (hlt _ _ p1)] at hm'
        exact .inr (hcross p1 p2 q1 q3.ro hm' hm).symm
      · subst p2
        rw [← hm1] at hm'
        rcases hr1.inj _ _ _ _ _ _ _ q1 p1 hm hm' with e | e
        · exact .inl (by rw [e])
        · exact .inr ⟨q3.ro ▸ e.1,p3.ro ▸ e.2⟩
  · by_cases ha : a.nat < h.next.nat
    · rw [hlow a ha] at hm
      exact Nat.lt_of_lt_of_le (hr.lt _ _ _ hm) g.size
    · unfold mpOut at hm
      rw [if_neg ha] at hm
      split at hm
      · exact hr1.lt _ _ _ hm
      · cases hm
  · have:=o.next
    have:=g.next
    have:=f.next
    unfold mpOut
    rw [if_neg (by omega)]
    split
    · next e =>
      have q1:=e.choose_spec
      have q2:=f.hi _ q1.2
      rw [q1.1] at q2
      exact hr1.fresh _ (by omega)
    · rfl
  · rcases Nat.lt_or_ge a.nat h.next.nat with hl | hl
    · rw [hlow a hl,hx]
    · rw [hr.fresh a hl] at hx; cases hx
  · exact g.keep k hk fun q=>hn (hown k q)
  · obtain ⟨a,b,sz,q1,q2,q3⟩:=hk
    rcases o.blk a b q1 with ⟨p1,p2⟩ | ⟨a1,b1,p1,p2,p3⟩
    · rw [hlow _ (hlt _ _ p1)] at q3
      exact .inr ⟨a,b,sz,p1,q2,q3⟩
    · subst p2
      rw [← hm1] at q3
      rcases g.img k ⟨a1,b1,sz,p1,p3.ro.trans q2,q3⟩ with q | q
      · exact .inl q
      · exact .inr (hown k q)
  · obtain ⟨a,b,sz,q1,q3⟩:=hk
    rcases o.blk a b q1 with ⟨p1,p2⟩ | ⟨a1,b1,p1,p2,p3⟩
    · rw [hlow _ (hlt _ _ p1)] at q3
      exact .inr ⟨a,b,sz,p1,q3⟩
    · subst p2
      rw [← hm1] at q3
      rcases g.imgA k ⟨a1,b1,sz,p1,q3⟩ with q | q
      · exact .inl q
      · exact .inr (hliv k q)
  · rw [hlow a (by omega)]; exact hn
  · have:=o.next
    have:=g.next
    have:=f.next
    omega
theorem CalOk.frame (f : Fit ρ s h0 h) (o : Out ρ s h0 h h1 h') {c c' : AV} {as as' : List AV} {v v' : AV} {p p' : Pn} (hc : CalOk P tb NN c as h0 (.ret v h1 p)) (jc : JLe c' (rn ρ c)) (ja : JLes as' (rns ρ as)) (jv : JLe (rn ρ v) v') : CalOk P tb NN c' as' h (.ret v' h' p'):=fun m w u args B hr hu ha hB=>by
  obtain ⟨nx,fr0,q1,q2,q3⟩:=hc (fun a=>m (ρ a)) w u args h0.next.nat (f.hr hr) (VR.nr c (jc _ _ hu)) (VRs.nr as (ja _ _ ha)) (Nat.le_refl _)
  refine ⟨nx,fr0,q1,q2,fun fr cs hm=>?_⟩
  obtain ⟨m1,w1,u1,p1,p2,p3,p4⟩:=q3 fr cs hm
  obtain ⟨r1,r2,r3⟩:=f.out o hB hr p3 p4
  refine ⟨mpOut ρ h0 h m m1,w1,u1,p1,?_,r2,r3⟩
  rw [r1] at p2
  exact jv _ _ p2.rn
structure Ren (τ : Pos → Pos) (n0 : Nat) (hr h1 : H) : Prop where
  low : ∀ a,a.nat < n0 → τ a = a
  blk : ∀ a b,h1.get a = some b → ∃ b',hr.get (τ a) = some b' ∧ b.fit τ b'
  inj : ∀ a a' b b',h1.get a = some b → h1.get a' = some b' → τ a = τ a' → a = a'
  fresh : ∀ a,h1.next.nat ≤ a.nat → hr.next.nat ≤ (τ a).nat
  next : n0 ≤ h1.next.nat
theorem CalOk.ren {τ : Pos → Pos} {c : AV} {as : List AV} {vr v1 : AV} {hr1 : H} {p p' : Pn} (r : Ren τ h0.next.nat hr1 h1) (hv : JLe vr (rn τ v1)) (hc : CalOk P tb NN c as h0 (.ret vr hr1 p)) : CalOk P tb NN c as h0 (.ret v1 h1 p'):=fun m w u args B hr hu ha hB=>by
  obtain ⟨nx,fr0,q1,q2,q3⟩:=hc m w u args B hr hu ha hB
  refine ⟨nx,fr0,q1,q2,fun fr cs hm=>?_⟩
  obtain ⟨m1,w1,u1,p1,p2,p3,p4⟩:=q3 fr cs hm
  refine ⟨fun a=>m1 (τ a),w1,u1,p1,VR.nr v1 (hv _ _ p2),⟨fun a b hb=>?_,fun a a' b b' i sz sz' ha ha' hm hm'=>?_,fun a i sz hm=>p3.lt _ _ _ hm,fun a ha=>p3.fresh _ (r.fresh a ha)⟩,
    ⟨fun a x hx=>?_,p4.keep,fun k hk=>?_,fun k hk=>?_,fun a ha hn=>?_,r.next,p4.size,p4.os,p4.tape,p4.output⟩⟩
  · obtain ⟨b',g1,g2⟩:=r.blk a b hb
    obtain ⟨i,sz,o,g3,g4,g5⟩:=p3.blk _ _ g1
    exact ⟨i,sz,o,g3,g4,g2.br g5⟩
  · obtain ⟨d,g1,g2⟩:=r.blk a b ha
    obtain ⟨d',g1',g2'⟩:=r.blk a' b' ha'
    rcases p3.inj _ _ _ _ _ _ _ g1 g1' hm hm' with h | h
    · exact .inl (r.inj _ _ _ _ ha ha' h)
    · exact .inr ⟨g2.ro.trans h.1,g2'.ro.trans h.2⟩
  · have : a.nat < h0.next.nat:=by
      rcases Nat.lt_or_ge a.nat h0.next.nat with h | h
      · exact h
      · rw [hr.fresh a h] at hx; cases hx
    show m1 (τ a) = _
    rw [r.low a this]
    exact p4.le a x hx
  · obtain ⟨a,b,sz,g1,g2,g3⟩:=hk
    obtain ⟨b',e1,e2⟩:=r.blk a b g1
    exact p4.img k ⟨_,b',sz,e1,e2.ro ▸ g2,g3⟩
  · obtain ⟨a,b,sz,g1,g3⟩:=hk
    obtain ⟨b',e1,e2⟩:=r.blk a b g1
    exact p4.imgA k ⟨_,b',sz,e1,g3⟩
  · show m1 (τ a) = _
    rw [r.low a (by omega)]
    exact p4.new a ha hn
theorem CalOk.cases {ι : Type} {hs : ι → H} {c : AV} {as : List AV} {r : CRes} (hn : ∀ i,(hs i).next = h.next) (hro : ∀ i a b,(hs i).get a = some b → ∃ b',h.get a = some b' ∧ b.ro = b'.ro)
    (hex : ∀ m w,HR tb NN m h w → ∃ i,HR tb NN m (hs i) w) (hc : ∀ i,CalOk P tb NN c as (hs i) r) : CalOk P tb NN c as h r:=fun m w u args B hr hu ha hB=>by
  obtain ⟨i,hi⟩:=hex m w hr
  obtain ⟨nx,fr0,q1,q2,q3⟩:=hc i m w u args B hi hu ha (by rw [hn i]; exact hB)
  have hown : ∀ k,Own m (hs i) k → Own m h k:=fun k ⟨a,b,sz,g1,g2,g3⟩=>by
    obtain ⟨b',e1,e2⟩:=hro i a b g1
    exact ⟨a,b',sz,e1,e2 ▸ g2,g3⟩
  have hliv : ∀ k,Liv m (hs i) k → Liv m h k:=fun k ⟨a,b,sz,g1,g3⟩=>by
    obtain ⟨b',e1,e2⟩:=hro i a b g1
    exact ⟨a,b',sz,e1,g3⟩
  have hgo : ∀ {m' h' w'},Go B m (hs i) w m' h' w' → Go B m h w m' h' w':=fun g =>
    ⟨g.le,fun k hk hn=>g.keep k hk fun q=>hn (hown k q),fun k hk=>(g.img k hk).imp id (hown k),fun k hk=>(g.imgA k hk).imp id (hliv k),g.new,by rw [← hn i]; exact g.next,g.size,g.os,g.tape,g.output⟩
  refine ⟨nx,fr0,q1,q2,fun fr cs hm=>?_⟩
  cases r with
  | ret v h' pn' =>
    obtain ⟨m1,w1,u1,p1,p2,p3,p4⟩:=q3 fr cs hm
    exact ⟨m1,w1,u1,p1,p2,p3,hgo p4⟩
  | pan v h' pn' =>
    obtain ⟨m1,w1,u1,p1,p2,p3,p4⟩:=q3 fr cs hm
    exact ⟨m1,w1,u1,p1,p2,p3,hgo p4⟩
theorem CalOk.cut {g : Nat} {x y as : List AV} {r : CRes} (hb : Bodied P g) (hc : CalOk P tb NN (.fn g [] []) (x ++ as ++ y) h r) : CalOk P tb NN (.fn g x y) as h r:=fun m w u args B hr hu ha hB=>by
  cases hu with | fn _ hx hy =>
  rename_i fx fy
  have hargs : VRs m (x ++ as ++ y) (fx ++ args ++ fy).toList:=by
    rw [Array.toList_append,Array.toList_append]
    exact (hx.app ha).app hy
  obtain ⟨nx,fr0,q1,q2,q3⟩:=hc m w (.func (.func g) #[] #[]) (fx ++ args ++ fy) B hr (.fn g .nil .nil) hargs hB
  simp only [callS,Deferred.ofValue,Sem.run_bind,Sem.run_pure,Result.andThen_ok,invoke_fn hb,Array.empty_append,Array.append_empty] at q1
  refine ⟨nx,fr0,?_,q2,q3⟩
  simp only [callS,Deferred.ofValue,Sem.run_bind,Sem.run_pure,Result.andThen_ok,invoke_fn hb]
  exact q1
end
end Am
end Go.Proofs.YtadbcnekkceoaaaGreatDoor
namespace Go.Proofs.YtadbcnekkceoaaaGreatDoor
namespace Am
inductive Od | v (n : Nat) | s (p : SP) | c (a : AV)
def nthA : List AV → Nat → AV
  | [],_=>.junk
  | a :: _,0=>a
  | _ :: l,n + 1=>nthA l n
def Od.get (e : E) (l : List AV) : Od → AV
  | .v n=>nthA l n
  | .s p=>getP p e
  | .c a=>a
inductive EqK | bo | pt | sl | mp | fn | ifc (c : Bool) | sb | no
def eqK (P : Program) (t : TypeId) (c : Bool) : EqK :=
  match P.underlying t with
  | some .bool=>.bo | some (.pointer _)=>.pt | some (.slice _)=>.sl | some (.map _ _)=>.mp | some (.func _ _ _)=>.fn | some (.interface _)=>.ifc c
  | some (.struct _)=>bif sbT P t then .sb else .no
  | _=>.no
def eqV (k : EqK) (x y : AV) : Option Bool :=
  match k with
  | .bo=>(match x,y with | .bool a,.bool b=>some (a == b) | _,_=>none)
  | .pt=>(match x,y with | .nilp,.nilp=>some true | .nilp,.ptr _ _=>some false | .ptr _ _,.nilp=>some false | _,_=>none)
  | .sl=>(match x,y with | .nils,.nils=>some true | .nils,.slc _ _ _ _=>some false | .slc _ _ _ _,.nils=>some false | .nils,.slcE _ _ _=>some false | .slcE _ _ _,.nils=>some false | _,_=>none)
  | .mp=>(match x,y with | .nilm,.nilm=>some true | .nilm,.map _=>some false | .map _,.nilm=>some false | _,_=>none)
  | .fn=>(match x,y with | .nilf,.nilf=>some true | .nilf,.fn _ _ _=>some false | .fn _ _ _,.nilf=>some false | _,_=>none)
  | .ifc c=>(match x,y with | .nili,.nili=>bif c then some true else none | .nili,.ifc _ _=>some false | .ifc _ _,.nili=>some false | _,_=>none)
  | .sb=>(match x,y with | .agg [.str a,.bool b],.agg [.str c,.bool d]=>some (strEq a c && (b == d)) | _,_=>none)
  | .no=>none
theorem eqV_ok (P : Program) (t : TypeId) (c : Bool) (x y : AV) : eqA P t c x y = eqV (eqK P t c) x y:=by
  unfold eqA eqK
  cases h : P.underlying t with
  | none=>rfl
  | some d =>
    cases d <;> try rfl
    dsimp only
    cases sbT P t <;> rfl
def binV (op : BinOp) (q : EqK) (x y : AV) : Option AV :=
  match x,y with
  | .ge n,.int k b=>binGe op n k b
  | .int k a,.int k' b=>match op with | .shl=>shK .shl k a b | .shr=>shK .shr k a b | op=>bif kEq k k' then binInt op k a b else none
  | .str a,.str b=>binStr op a b
  | .ltr k a,.int q b=>binL op k a q b
  | .ltr k a,.ltr q b=>binLL op k a q b
  | .txt l,.str s=>match op with | .add=>binTT op l (s.map byA) | op=>binT op l s
  | .str s,.txt l=>match op with | .add=>binTT op (s.map byA) l | op=>binT op l s
  | .txt l,.txt s=>binTT op l s
  | x,y=>match op with
    | .eql=>match eqV q x y with | some b=>some (.bool b) | none=>none
    | .neq=>match eqV q x y with | some b=>some (.bool (!b)) | none=>none
    | _=>none
set_option maxHeartbeats 4000000 in
theorem binV_ok (P : Program) (op : BinOp) (t : TypeId) (c : Bool) (x y : AV) : binA P op t c x y = binV op (eqK P t c) x y:=by
  cases x <;> cases y <;> first | rfl | (cases op <;> first | rfl | (simp only [binA,binV,eqV_ok]; generalize eqV _ _ _ = r; cases r <;> rfl))
inductive KeyK | int (k : IntKind) | str | ar (k : IntKind) | no
def keyK (P : Program) (kt : TypeId) : KeyK :=
  match P.underlying kt with
  | some (.int q)=>.int q
  | some .string=>.str
  | some (.array n e)=>bif Nat.beq n 2 then (match P.underlying e,P.info? e with | some (.int q),some i=>bif Nat.beq i.size 1 then .ar q else .no | _,_=>.no) else .no
  | _=>.no
def keyV (q : KeyK) (k : AV) : Bool:=match q with
  | .int q=>(match k with | .int q' _=>kEq q' q | _=>false)
  | .str=>(match k with | .str _=>true | _=>false)
  | .ar q=>(match k with | .agg [.int q1 _,.int q2 _]=>kEq q1 q && kEq q2 q | _=>false)
  | .no=>false
theorem keyV_ok (P : Program) (kt : TypeId) (k : AV) : keyA P kt k = keyV (keyK P kt) k:=by
  unfold keyA keyK
  cases h : P.underlying kt with
  | none=>rfl
  | some d =>
    cases d <;> try rfl
    next n e =>
    dsimp only
    cases Nat.beq n 2 with
    | false=>rfl
    | true =>
      simp only [cond_true]
      cases P.underlying e with
      | none=>rfl
      | some d =>
        cases P.info? e with
        | none=>cases d <;> rfl
        | some i =>
          cases d <;> try rfl
          dsimp only
          cases Nat.beq i.size 1 <;> rfl
def lookV (q : KeyK) (k : AV) (es : List Ent) : Option (Option (Nat × AV)):=bif keyV q k then findE k es 0 else none
theorem lookV_ok (P : Program) (kt : TypeId) (k : AV) (es : List Ent) : lookE P kt k es = lookV (keyK P kt) k es:=by
  unfold lookE lookV; rw [keyV_ok]
inductive F1
  | id | nc | neg | not | cpl | cv (k : IntKind) | tx | mi (t : Nat) | fa (o : Nat) | fg (o n : Nat) | f1 (o : Nat) | ex (i : Nat) | ls | ll | ln (n : Nat) | cap | ta (t : Nat) (ok : Bool) (z : AV)
def F1.ev : F1 → AV → Option AV
  | .id=>fun x=>some x
  | .nc=>fun x=>match x with | .ptr a o=>some (.ptr a o) | .fn f a b=>some (.fn f a b) | .ifc t v=>some (.ifc t v) | _=>none
  | .neg=>fun x=>match x with | .int k n=>some (.int k (wrapK k (isub 0 n))) | _=>none
  | .not=>fun x=>match x with | .bool b=>some (.bool (!b)) | _=>none
  | .cpl=>fun x=>match x with | .int k n=>some (.int k (bitK .xor k (if k.signed then -1 else k.max) n)) | _=>none
  | .cv k=>fun x=>match x with | .int _ n=>some (.int k (wrapK k n)) | .ltr q a=>cvL k q a | _=>none
  | .tx=>fun x=>match x with | .str b=>some (.str b) | .txt b=>some (.txt b) | _=>none
  | .mi t=>fun x=>some (.ifc t x)
  | .fa o=>fun x=>match x with | .ptr a p=>some (.ptr a (Nat.add p o)) | _=>none
  | .fg o n=>fun x=>match x with | .agg cs=>some (.agg ((cs.drop o).take n)) | _=>none
  | .f1 o=>fun x=>match x with | .agg cs=>cs[o]? | _=>none
  | .ex i=>fun x=>match x with | .tup vs=>vs[i]? | _=>none
  | .ls=>fun x=>match x with | .str s=>some (.goInt s.length) | .txt s=>some (.goInt s.length) | _=>none
  | .ll=>fun x=>match x with | .slc _ _ n _=>some (.goInt n) | .slcE _ _ _=>some (.goInt 0) | .nils=>some (.goInt 0) | _=>none
  | .ln n=>fun _=>some (.goInt n)
  | .cap=>fun x=>match x with | .slcE _ _ _=>some (.goInt 0) | .nils=>some (.goInt 0) | _=>none
  | .ta a ok z=>fun x=>match x with
    | .nili=>bif ok then some (.tup [z,.bool false]) else none
    | .ifc t v=>bif Nat.beq t a then some (bif ok then .tup [v,.bool true] else v) else bif ok then some (.tup [z,.bool false]) else none
    | _=>none
inductive F2
  | bin (op : BinOp) (q : EqK) | ia (z : Nat) | ip (n z : Nat) | xg (n z k : Nat) | x1 (n z : Nat) | xs
def F2.ev : F2 → AV → AV → Option AV
  | .bin op q=>fun x y=>binV op q x y
  | .ia z=>fun x y=>match x,natA y with | .slc a o n _,some j=>bif Nat.blt j n then some (.ptr a (Nat.add o (Nat.mul j z))) else none | _,_=>none
  | .ip n z=>fun x y=>match x,natA y with | .ptr a o,some j=>bif Nat.blt j n then some (.ptr a (Nat.add o (Nat.mul j z))) else none | _,_=>none
  | .xg n z k=>fun x y=>match x,natA y with | .agg cs,some j=>bif Nat.blt j n then some (.agg ((cs.drop (Nat.mul j z)).take k)) else none | _,_=>none
  | .x1 n z=>fun x y=>match x,natA y with | .agg cs,some j=>bif Nat.blt j n then cs[Nat.mul j z]? else none | _,_=>none
  | .xs=>fun x y=>match x,natA y with | .str s,some j=>(match s[j]? with | some b=>some (.int .u8 (.ofNat b)) | none=>none) | .txt s,some j=>s[j]? | _,_=>none
def fillP : List AV → List (Nat × Nat) → List AV → Option (List AV)
  | cells,[],[]=>some cells
  | cells,(off,size) :: pl,v :: vs=>(match cellsA v with
    | some cs=>bif Nat.beq cs.length size && Nat.ble (Nat.add off cs.length) cells.length then fillP (ovl cells off cs) pl vs else none
    | none=>none)
  | _,_,_=>none
theorem fillP_ok {place : Nat → Option (Nat × Nat)} {lk : Operand → AV} : ∀ (ps : List (Nat × Operand)) (pl : List (Nat × Nat)) (cells : List AV),ps.mapM (fun x=>place x.1) = some pl → fillA place cells (ps.map fun x=>(x.1,lk x.2)) = fillP cells pl (ps.map fun x=>lk x.2)
  | [],pl,cells,h=>by simp at h; subst h; rfl
  | (i,x) :: ps,pl,cells,h=>by
    rw [List.mapM_cons] at h
    cases hp : place i with
    | none=>simp [hp] at h
    | some os =>
      cases hr : ps.mapM (fun x=>place x.1) with
      | none=>simp [hp,hr] at h
      | some pl' =>
        simp [hp,hr] at h
        subst h
        obtain ⟨off,size⟩:=os
        simp only [List.map_cons,fillA,fillP,hp]
        cases hc : cellsA (lk x) with
        | none=>rfl
        | some cs =>
          dsimp only
          rw [fillP_ok ps pl' _ hr]
inductive PI (α : Type)
  | o1 (f : F1) (x : α) | o2 (f : F2) (x y : α) | pk (c a b : α) | xm (x y : α) | nm (x y : α) | mk (f : Nat) (xs ys : List α) | bd (cs : List AV) (pl : List (Nat × Nat)) (xs : List α)
  | sl (str : Bool) (z : Nat) (x : α) (lo hi mx : Option α)
def PI.ev {α : Type} (g : α → AV) : PI α → Option AV
  | .o1 f x=>f.ev (g x)
  | .o2 f x y=>f.ev (g x) (g y)
  | .pk c a b=>(match g c with | .bool t=>some (bif t then g a else g b) | _=>none)
  | .xm x y=>(match g x,g y with | .int k a,.int _ b=>some (.int k (bif ilt a b then b else a)) | .ge n,.int k b=>maxGe n k b | _,_=>none)
  | .nm x y=>(match g x,g y with | .int k a,.int _ b=>some (.int k (bif ilt b a then b else a)) | _,_=>none)
  | .mk f xs ys=>some (.fn f (xs.map g) (ys.map g))
  | .bd cs pl xs=>(match fillP cs pl (xs.map g) with | some r=>some (.agg r) | none=>none)
  | .sl str z x lo hi mx=>(match str with
    | true=>(match g x with | .str s=>sliceA (.str s) (lo.map g) (hi.map g) (mx.map g) 1 | .txt s=>sliceA (.txt s) (lo.map g) (hi.map g) (mx.map g) 1 | _=>none)
    | false=>(match g x with | .str _=>none | .txt _=>none | y=>sliceA y (lo.map g) (hi.map g) (mx.map g) z))
def PI.map {α β : Type} (r : α → β) : PI α → PI β
  | .o1 f x=>.o1 f (r x) | .o2 f x y=>.o2 f (r x) (r y) | .pk c a b=>.pk (r c) (r a) (r b) | .xm x y=>.xm (r x) (r y) | .nm x y=>.nm (r x) (r y) | .mk f xs ys=>.mk f (xs.map r) (ys.map r) | .bd cs pl xs=>.bd cs pl (xs.map r)
  | .sl s z x lo hi mx=>.sl s z (r x) (lo.map r) (hi.map r) (mx.map r)
theorem PI.ev_map {α β : Type} (r : α → β) (g : β → AV) (i : PI α) : (i.map r).ev g = i.ev (fun x=>g (r x)):=by
  cases i <;> simp only [PI.map,PI.ev,List.map_map,Option.map_map] <;> rfl
inductive RI (α : Type)
  | l1 (x : α) | ln (n : Nat) (x : α) | lk (q : KeyK) (z : AV) (ok : Bool) (x i : α) | en (i : α) | lm (x : α) | sa (n z : Nat) (x : α) (lo hi : Option α)
def RI.ev {α : Type} (g : α → AV) (h : H) : RI α → Option AV
  | .l1 x=>(match g x with | .ptr b o=>h.load1 b o | _=>none)
  | .ln n x=>(match g x with | .ptr b o=>(match h.load b o n with | some l=>some (.agg l) | none=>none) | _=>none)
  | .lk q z ok x i=>(match g x with
    | .nilm=>(match lookV q (g i) [] with | some _=>some (bif ok then .tup [z,.bool false] else z) | none=>none)
    | .map a=>(match h.get a with
      | some (.mp es _)=>(match lookV q (g i) es with
        | some (some (_,v))=>some (bif ok then .tup [v,.bool true] else v)
        | some none=>some (bif ok then .tup [z,.bool false] else z)
        | none=>none)
      | _=>none)
    | _=>none)
  | .en i=>(match g i with
    | .ptr r 0=>(match h.get r with
      | some (.it (some a) _ seen st)=>(match seen.getLast?,h.get a with
        | some b,some (.mp es cl)=>bif Nat.beq cl st then (match es.find? (fun e=>Nat.beq e.born b) with | some e=>some (.tup [e.k,e.v]) | none=>none) else none
        | _,_=>none)
      | _=>none)
    | _=>none)
  | .lm x=>(match g x with
    | .nilm=>some (.goInt 0)
    | .map a=>(match h.get a with | some (.mp es _)=>some (.goInt es.length) | _=>none)
    | _=>none)
  | .sa n z x lo hi=>(match g x with
    | .ptr a o=>(match h.get a with
      | some (.cells _ k _)=>bif Nat.ble (Nat.add o (Nat.mul n z)) k && Nat.ble n 9223372036854775807 && Nat.blt 0 z then sliceA (.slc a o n z) (lo.map g) (hi.map g) none z else none
      | _=>none)
    | _=>none)
def RI.map {α β : Type} (r : α → β) : RI α → RI β
  | .l1 x=>.l1 (r x) | .ln n x=>.ln n (r x) | .lk q z ok x i=>.lk q z ok (r x) (r i) | .en i=>.en (r i) | .lm x=>.lm (r x) | .sa n z x lo hi=>.sa n z (r x) (lo.map r) (hi.map r)
theorem RI.ev_map {α β : Type} (r : α → β) (g : β → AV) (h : H) (i : RI α) : (i.map r).ev g h = i.ev (fun x=>g (r x)) h:=by
  cases i <;> simp only [RI.map,RI.ev,Option.map_map] <;> rfl
inductive AI (α : Type)
  | al (b : AB) | bx (x : α) | bs (n z : Nat) (cs : List AV) (pl : List (Nat × Nat)) (xs : List α) | mm | ms (z : Nat) (zs : List AV) (l c : α) | bm (t : Nat) (x : α)
def AI.ev {α : Type} (g : α → AV) (a : Pos) : AI α → Option (AV × AB)
  | .al b=>some (.ptr a 0,b)
  | .bx x=>(match cellsA (g x) with | some cs=>some (.ptr a 0,AB.ofL cs) | none=>none)
  | .bm t x=>(match cellsA (g x) with | some cs=>bif Nat.ble cs.length 4094 then some (.ptr a 0,AB.ofM t cs) else none | none=>none)
  | .bs n z cs pl xs=>(match fillP cs pl (xs.map g) with | some r=>some (.slc a 0 n z,AB.ofL r) | none=>none)
  | .mm=>some (.map a,.mp [] 0)
  | .ms z zs l c=>(match natA (g l),natA (g c) with
    | some n,some k=>bif Nat.ble n k && Nat.ble k 1000000000 then some (.slc a 0 n z,AB.ofL (repL zs n)) else none
    | _,_=>none)
def AI.map {α β : Type} (r : α → β) : AI α → AI β
  | .al b=>.al b | .bx x=>.bx (r x) | .bs n z cs pl xs=>.bs n z cs pl (xs.map r) | .mm=>.mm | .ms z zs l c=>.ms z zs (r l) (r c) | .bm t x=>.bm t (r x)
theorem AI.ev_map {α β : Type} (r : α → β) (g : β → AV) (a : Pos) (i : AI α) : (i.map r).ev g a = i.ev (fun x=>g (r x)) a:=by
  cases i <;> simp only [AI.map,AI.ev,List.map_map] <;> rfl
inductive HI (α : Type)
  | hst (n : Nat) (p x : α) | hmu (q : KeyK) (x k v : α) | hme (q : KeyK) (z : AV) (x k : α) | hes (x s v : α) | hrg (x : α) | hnx (i : α) | hap (z : Nat) (s x : α) | haz (z : Nat) (zs : List AV) (s k : α) | hcy (z : Nat) (d x : α) | hcl (zs : List AV) (x : α) | hde (q : KeyK) (x k : α)
  | hpn (x : α) | hdf (g : α) (xs : List α) | hrc | hca (g : α) (xs : List α) | hcb (x : α) | has (e : Nat) (s x : α)
def HI.row {α : Type} (g : α → AV) (h : H) (a : Pos) : HI α → Option (AV × H)
  | .hst n p x=>(match g p with
    | .ptr b o=>(match cellsA (g x) with
      | some cs=>bif Nat.beq cs.length n then (match h.store b o cs with | some h'=>some (.junk,h') | none=>none) else none
      | none=>none)
    | _=>none)
  | .hmu q x k v=>(match g x with
    | .map b=>(match h.get b with
      | some (.mp es cl)=>(match lookV q (g k) es with | some r=>some (.junk,h.set b (updM (g k) (g v) es cl r)) | none=>none)
      | _=>none)
    | _=>none)
  | .hme q z x k=>(match g x with
    | .map b=>(match h.get b with
      | some (.mp es cl)=>(match lookV q (g k) es with
        | some none=>some (.tup [z,.goInt cl],h.set b (updM (g k) z es cl none))
        | some (some (j,v))=>(match es[j]? with | some e=>some (.tup [v,.goInt e.born],h) | none=>none)
        | none=>none)
      | _=>none)
    | _=>none)
  | .hes x s v=>(match g x,natA (g s) with
    | .map b,some s=>(match h.get b with
      | some (.mp es cl)=>(match bornE s es 0 with | some j=>some (.junk,h.set b (.mp (modE (g v) j es) cl)) | none=>none)
      | _=>none)
    | _,_=>none)
  | .hrg x=>(match g x with
    | .nilm=>some (.ptr a 0,h.set a (.it none 0 [] 0))
    | .map c=>(match h.get c with | some (.mp _ cl)=>some (.ptr a 0,h.set a (.it (some c) cl [] cl)) | _=>none)
    | _=>none)
  | .hnx i=>nextA h (g i)
  | .hcb x=>(match g x with | .str l=>bif Nat.ble l.length 1000000000 then some (.slc a 0 l.length 1,h.set a (.cells true l.length (T.layN .leaf 0 (bytesL l)))) else none | _=>none)
  | .has e s x=>(match g x with | .str l=>appM (some e) h a 1 l.length (bytesL l) (g s) | .txt l=>appM (some e) h a 1 l.length l (g s) | _=>none)
  | .hap z s x=>(match srcA h z (g x) with | some (k,l)=>appA h a z k l (g s) | none=>none)
  | .haz z zs s x=>(match g s,natA (g x) with
    | .nils,some k=>bif Nat.blt 0 k && Nat.ble k 1000000000 then some (.slc a 0 k z,h.set a (AB.ofL (repL zs k))) else none
    | _,_=>none)
  | .hcy z d x=>(match g d with
    | .slc b o n _=>(match srcA h z (g x) with
      | some (k,l)=>bif Nat.blt 0 n && Nat.ble k n then (match h.store b o l with | some h'=>some (.goInt k,h') | none=>none) else none
      | none=>none)
    | _=>none)
  | .hcl zs x=>(match g x with
    | .slc b o n _=>bif Nat.beq n 0 then some (.tup [],h) else (match h.store b o (repL zs n) with | some h'=>some (.tup [],h') | none=>none)
    | .nils=>some (.tup [],h)
    | .slcE _ _ _=>some (.tup [],h)
    | _=>none)
  | .hde q x k=>(match g x with
    | .map b=>(match h.get b with
      | some (.mp es cl)=>(match lookV q (g k) es with | some r=>some (.tup [],h.set b (.mp (delE r es) cl)) | none=>none)
      | _=>none)
    | _=>none)
  | _=>none
def HI.ev {α : Type} (rnd : Bool) (call : CallF) (g : α → AV) (h : H) (a : Pos) (f : Fx) : HI α → Option HRes
  | .hpn x=>(match g x with | .ifc t v=>some (.pan (.ifc t v) h f) | _=>none)
  | .hdf x xs=>(match rnd with
    | true=>none
    | false=>match g x with | .fn n a b=>some (.val (.tup []) h { f with dfs:=(.fn n a b,xs.map g) :: f.dfs }) | _=>none)
  | .hrc=>(match rnd with | true=>none | false=>some (.val f.pn.gives.1 h { f with pn:=f.pn.gives.2 }))
  | .hca x xs=>(match call false (g x) (xs.map g) .no h with | some r=>some (.of f r) | none=>none)
  | i=>rowH f (i.row g h a)
def HI.map {α β : Type} (r : α → β) : HI α → HI β
  | .hst n p x=>.hst n (r p) (r x) | .hmu q x k v=>.hmu q (r x) (r k) (r v) | .hme q z x k=>.hme q z (r x) (r k) | .hes x s v=>.hes (r x) (r s) (r v) | .hrg x=>.hrg (r x) | .hnx i=>.hnx (r i) | .hap z s x=>.hap z (r s) (r x) | .haz z zs s k=>.haz z zs (r s) (r k)
  | .hcy z d x=>.hcy z (r d) (r x) | .hcl zs x=>.hcl zs (r x) | .hde q x k=>.hde q (r x) (r k) | .hpn x=>.hpn (r x) | .hdf x xs=>.hdf (r x) (xs.map r) | .hrc=>.hrc | .hca x xs=>.hca (r x) (xs.map r) | .hcb x=>.hcb (r x) | .has e s x=>.has e (r s) (r x)
theorem HI.ev_map {α β : Type} (rnd : Bool) (call : CallF) (r : α → β) (g : β → AV) (h : H) (a : Pos) (f : Fx) (i : HI α) : (i.map r).ev rnd call g h a f = i.ev rnd call (fun x=>g (r x)) h a f:=by
  cases i <;> simp only [HI.map,HI.ev,HI.row,List.map_map] <;> rfl
end Am
end Go.Proofs.YtadbcnekkceoaaaGreatDoor
namespace Go.Proofs.YtadbcnekkceoaaaGreatDoor
namespace Am
def cP (P : Program) : Op → Option (PI Operand)
  | .move x=>some (.o1 .id x)
  | .assign x=>some (.o1 .id x)
  | .pick c a b=>some (.pk c a b)
  | .build t ps=>match zeroA P t with
    | some z=>(match cellsA z with
      | some cs=>(match P.underlying t with
        | some (.struct fs)=>(match fs.toList.mapM fun f=>(P.info? f.type).map fun i=>(f.offset,i.size) with
          | some places=>(match ps.toList.mapM (fun x=>places[x.1]?) with | some pl=>some (.bd cs pl (ps.toList.map (·.2))) | none=>none)
          | none=>none)
        | some (.array _ e)=>(match P.info? e with
          | some i=>(match ps.toList.mapM (fun x=>(some (x.1 * i.size,i.size) : Option (Nat × Nat))) with | some pl=>some (.bd cs pl (ps.toList.map (·.2))) | none=>none)
          | none=>none)
        | _=>none)
      | none=>none)
    | none=>none
  | .nilCheck x=>some (.o1 .nc x)
  | .binOp op t x y _=>some (.o2 (.bin op (eqK P t (isC x || isC y))) x y)
  | .unOp op _ x=>(match op with | .neg=>some (.o1 .neg x) | .not=>some (.o1 .not x) | .xor=>some (.o1 .cpl x) | _=>none)
  | .convert s d x=>(match P.underlying s,P.underlying d with
    | some _,some (.int k)=>some (.o1 (.cv k) x)
    | some _,some .string=>some (.o1 .tx x)
    | _,_=>none)
  | .makeInterface t x=>(match P.underlying t with | some (.interface _)=>none | some _=>some (.o1 (.mi t) x) | none=>none)
  | .makeFunc (.func f) a b=>some (.mk f a.toList b.toList)
  | .slice t x lo hi mx=>(match P.underlying t with
    | some .string=>some (.sl true 1 x lo hi mx)
    | some (.slice e)=>(match P.info? e with | some i=>some (.sl false i.size x lo hi mx) | none=>none)
    | _=>none)
  | .fieldAddr s x f=>(match P.underlying s with
    | some (.struct fs)=>(match fs[f]? with
      | some fd=>(match P.info? fd.type with | some i=>bif Nat.beq i.size 0 then none else some (.o1 (.fa fd.offset) x) | none=>none)
      | none=>none)
    | _=>none)
  | .field s x f=>(match P.underlying s with
    | some (.struct fs)=>(match fs[f]? with
      | some fd=>(match aggT P fd.type with
        | some true=>(match P.info? fd.type with | some i=>some (.o1 (.fg fd.offset i.size) x) | none=>none)
        | some false=>some (.o1 (.f1 fd.offset) x)
        | none=>none)
      | none=>none)
    | _=>none)
  | .indexAddr t x i=>(match P.underlying t with
    | some (.slice e)=>(match P.info? e with | some f=>some (.o2 (.ia f.size) x i) | none=>none)
    | some (.array n e)=>(match P.info? e with | some f=>some (.o2 (.ip n f.size) x i) | none=>none)
    | _=>none)
  | .index t x i=>(match P.underlying t with
    | some (.array n e)=>(match P.info? e with
      | some f=>(match aggT P e with
        | some true=>some (.o2 (.xg n f.size f.size) x i)
        | some false=>some (.o2 (.x1 n f.size) x i)
        | none=>none)
      | none=>none)
    | some .string=>some (.o2 .xs x i)
    | _=>none)
  | .extract x i=>some (.o1 (.ex i) x)
  | .typeAssert x _ a ok=>(match P.underlying a with
    | some (.struct _)=>(match zeroA P a with | some z=>some (.o1 (.ta a ok z) x) | none=>none)
    | _=>none)
  | .call { callee:=.builtin b,args:=args,argTypes:=ts }=>(match b with
    | .len=>(match ts[0]?,args[0]? with
      | some t,some x=>(match P.underlying t with
        | some .string=>some (.o1 .ls x)
        | some (.slice _)=>some (.o1 .ll x)
        | some (.array n _)=>some (.o1 (.ln n) x)
        | _=>none)
      | _,_=>none)
    | .cap=>(match ts[0]?,args[0]? with
      | some t,some x=>(match P.underlying t with
        | some (.slice _)=>some (.o1 .cap x)
        | _=>none)
      | _,_=>none)
    | .max=>(match args.toList with | [x,y]=>some (.xm x y) | _=>none)
    | .min=>(match args.toList with | [x,y]=>some (.nm x y) | _=>none)
    | _=>none)
  | _=>none
theorem cP_ok {P : Program} {lk : Operand → AV} : ∀ {op : Op} {i : PI Operand},cP P op = some i → pureF P op lk = i.ev lk:=by
  intro op i h
  unfold cP at h
  split at h
  · injection h with h; subst h; rfl
  · injection h with h; subst h; rfl
  · injection h with h; subst h; rfl
  · next t ps =>
    simp only [pureF]
    split at h <;> try (cases h; done)
    next z hz =>
    rw [hz]
    dsimp only
    split at h <;> try (cases h; done)
    next cs hcs =>
    rw [hcs]
    dsimp only
    split at h
    · next fs hu =>
      split at h <;> try (cases h; done)
      next places hp =>
      split at h <;> try (cases h; done)
      next pl hpl =>
      injection h with h; subst h
      rw [hu]
      dsimp only
      rw [hp]
      dsimp only
      unfold lksA
      rw [fillP_ok _ _ _ hpl]
      simp only [PI.ev,List.map_map]
      rfl
    · next e hu =>
      split at h <;> try (cases h; done)
      next inf hp =>
      split at h <;> try (cases h; done)
      next pl hpl =>
      injection h with h; subst h
      rw [hu]
      dsimp only
      rw [hp]
      dsimp only
      unfold lksA
      rw [fillP_ok (place:=fun j=>some (j * inf.size,inf.size)) _ _ _ hpl]
      simp only [PI.ev,List.map_map]
      rfl
    · cases h
  · injection h with h; subst h; rfl
  · next op t x y _ =>
    injection h with h; subst h
    exact binV_ok P op t _ _ _
  · next op _ x =>
    split at h <;> (try (cases h; done)) <;> (injection h with h; subst h; simp only [pureF,PI.ev,F1.ev]; cases lk x <;> rfl)
  · next s d x =>
    simp only [pureF]
    split at h <;> (try (cases h; done)) <;> (next h1 h2=>(injection h with h; subst h; rw [h1,h2]; simp only [PI.ev,F1.ev]; cases lk x <;> rfl))
  · next t x =>
    simp only [pureF]
    split at h <;> (try (cases h; done))
    next hn hu=>injection h with h; subst h; rw [hu]; rename_i d; cases d <;> first | rfl | (exact (hn _ rfl).elim)
  · injection h with h; subst h; rfl
  · next t x lo hi mx =>
    simp only [pureF]
    split at h
    · next hu=>injection h with h; subst h; rw [hu]; rfl
    · next e hu =>
      split at h <;> try (cases h; done)
      next inf hi =>
      injection h with h; subst h; rw [hu]; dsimp only; rw [hi]; rfl
    · cases h
  · next s x f =>
    simp only [pureF]
    split at h <;> try (cases h; done)
    next fs hu =>
    split at h <;> try (cases h; done)
    next fd hf =>
    split at h <;> try (cases h; done)
    next inf hi =>
    cases hb : Nat.beq inf.size 0 with
    | true=>rw [hb] at h; cases h
    | false =>
      rw [hb,cond_false] at h
      injection h with h; subst h
      rw [hu]
      simp only [PI.ev,F1.ev]
      cases lk x <;> simp only [hf,hi,hb,cond_false]
  · next s x f =>
    simp only [pureF]
    split at h <;> try (cases h; done)
    next fs hu =>
    split at h <;> try (cases h; done)
    next fd hf =>
    rw [hu]
    split at h
    · next ha =>
      split at h <;> try (cases h; done)
      next inf hi =>
      injection h with h; subst h
      simp only [PI.ev,F1.ev]
      cases lk x <;> simp only [hf,partA,ha,hi]
    · next ha =>
      injection h with h; subst h
      simp only [PI.ev,F1.ev]
      cases lk x <;> simp only [hf,partA,ha]
    · cases h
  · next t x i =>
    simp only [pureF]
    split at h
    · next e hu =>
      split at h <;> try (cases h; done)
      next inf hi =>
      injection h with h; subst h
      rw [hu]
      simp only [PI.ev,F2.ev]
      cases lk x <;> cases natA (lk i) <;> simp only [hi]
    · next n e hu =>
      split at h <;> try (cases h; done)
      next inf hi =>
      injection h with h; subst h
      rw [hu]
      simp only [PI.ev,F2.ev]
      cases lk x <;> cases natA (lk i) <;> simp only [hi]
    · cases h
  · next t x i =>
    simp only [pureF]
    split at h
    · next n e hu =>
      split at h <;> try (cases h; done)
      next inf hi =>
      rw [hu]
      split at h
      · next ha =>
        injection h with h; subst h
        simp only [PI.ev,F2.ev]
        cases lk x <;> cases natA (lk i) <;> simp only [hi,partA,ha]
      · next ha =>
        injection h with h; subst h
        simp only [PI.ev,F2.ev]
        cases lk x <;> cases natA (lk i) <;> simp only [hi,partA,ha]
      · cases h
    · next hu =>
      injection h with h; subst h
      rw [hu]
      simp only [PI.ev,F2.ev]
      cases lk x <;> cases natA (lk i) <;> rfl
    · cases h
  · injection h with h; subst h; rfl
  · next x _ a ok =>
    simp only [pureF]
    split at h <;> try (cases h; done)
    next fs hu =>
    split at h <;> try (cases h; done)
    next z hz =>
    injection h with h; subst h
    rw [hu]
    dsimp only
    rw [hz]
    simp only [PI.ev,F1.ev]
    cases lk x <;> rfl
  · next b args ts =>
    simp only [pureF]
    split at h
    · split at h <;> try (cases h; done)
      next t x ht hx =>
      rw [ht,hx]
      dsimp only
      split at h <;> (try (cases h; done)) <;> (next hu=>(injection h with h; subst h; rw [hu]; simp only [PI.ev,F1.ev]; (try (cases lk x <;> rfl))))
    · split at h <;> try (cases h; done)
      next t x ht hx =>
      rw [ht,hx]
      dsimp only
      split at h <;> (try (cases h; done)) <;> (next hu=>(injection h with h; subst h; rw [hu]; simp only [PI.ev,F1.ev]; cases lk x <;> rfl))
    · split at h <;> try (cases h; done)
      next x y he =>
      injection h with h; subst h
      rw [he]
      simp only [PI.ev,List.map_cons,List.map_nil]
      cases lk x <;> cases lk y <;> rfl
    · split at h <;> try (cases h; done)
      next x y he =>
      injection h with h; subst h
      rw [he]
      simp only [PI.ev,List.map_cons,List.map_nil]
      cases lk x <;> cases lk y <;> rfl
    · cases h
  · cases h
end Am
end Go.Proofs.YtadbcnekkceoaaaGreatDoor
namespace Go.Proofs.YtadbcnekkceoaaaGreatDoor
namespace Am
def cR (P : Program) : Op → Option (RI Operand)
  | .load t a=>(match aggT P t with
    | some true=>(match P.info? t with | some i=>some (.ln i.size a) | none=>none)
    | some false=>some (.l1 a)
    | none=>none)
  | .slice t x lo hi none=>(match P.underlying t with
    | some (.array n e)=>(match P.info? e with | some i=>some (.sa n i.size x lo hi) | none=>none)
    | _=>none)
  | .lookup t x i ok=>(match P.underlying t with
    | some (.map kt e)=>(match zeroA P e with | some z=>some (.lk (keyK P kt) z ok x i) | none=>none)
    | _=>none)
  | .entry i=>some (.en i)
  | .call { callee:=.builtin .len,args:=args,argTypes:=ts }=>(match ts[0]?,args[0]? with
    | some t,some x=>(match P.underlying t with | some (.map _ _)=>some (.lm x) | _=>none)
    | _,_=>none)
  | _=>none
theorem cR_ok {P : Program} {lk : Operand → AV} {h : H} {op : Op} {i : RI Operand} (hc : cR P op = some i) : readF P op lk h = i.ev lk h:=by
  unfold cR at hc
  split at hc
  · next t a =>
    simp only [readF]
    split at hc
    · next ha =>
      split at hc <;> try (cases hc; done)
      next inf hi =>
      injection hc with hc; subst hc
      simp only [RI.ev]
      cases lk a <;> simp only [ha,hi]
      generalize h.load _ _ _ = r
      cases r <;> rfl
    · next ha =>
      injection hc with hc; subst hc
      simp only [RI.ev]
      cases lk a <;> simp only [ha]
    · cases hc
  · next t x lo hi =>
    simp only [readF]
    split at hc <;> try (cases hc; done)
    next n e hu =>
    split at hc <;> try (cases hc; done)
    next inf hi' =>
    injection hc with hc; subst hc
    rw [hu]
    simp only [RI.ev]
    cases lk x <;> simp only [hi']
    generalize h.get _ = r
    cases r with
    | none=>rfl
    | some b=>cases b <;> rfl
  · next t x i ok =>
    simp only [readF]
    split at hc <;> try (cases hc; done)
    next kt e hu =>
    split at hc <;> try (cases hc; done)
    next z hz =>
    injection hc with hc; subst hc
    rw [hu]
    dsimp only
    rw [hz]
    simp only [RI.ev,lookV_ok]
    rfl
  · injection hc with hc; subst hc; rfl
  · next args ts =>
    simp only [readF]
    split at hc <;> try (cases hc; done)
    next t x ht hx =>
    split at hc <;> try (cases hc; done)
    next hu =>
    injection hc with hc; subst hc
    rw [ht,hx]
    dsimp only
    rw [hu]
    simp only [RI.ev]
    cases lk x <;> rfl
  · cases hc
def cA (P : Program) : Op → Option (AI Operand)
  | .alloc t=>(match zeroA P t with
    | some z=>(match cellsA z with | some cs=>some (.al (AB.ofL cs)) | none=>none)
    | none=>none)
  | .box t x=>(match hasB P t with | true=>some (.bm t x) | false=>some (.bx x))
  | .buildSlice t n ps=>(match P.underlying t with
    | some (.slice e)=>(match P.info? e,zeroA P e with
      | some i,some z=>(match cellsA z with
        | some zs=>(match Nat.beq zs.length i.size && Nat.blt 0 i.size && Nat.ble (Nat.mul n i.size) 16777216,ps.toList.mapM (fun x=>(some (x.1 * i.size,i.size) : Option (Nat × Nat))) with
          | true,some pl=>some (.bs n i.size (repL zs n) pl (ps.toList.map (·.2)))
          | _,_=>none)
        | none=>none)
      | _,_=>none)
    | _=>none)
  | .makeMap _ none=>some .mm
  | .makeSlice t l c=>(match P.underlying t with
    | some (.slice e)=>(match P.info? e,zeroA P e with
      | some i,some z=>(match cellsA z with
        | some zs=>(match Nat.beq zs.length i.size && Nat.blt 0 i.size && Nat.ble i.bytes 1000 with | true=>some (.ms i.size zs l c) | false=>none)
        | none=>none)
      | _,_=>none)
    | _=>none)
  | _=>none
theorem cA_ok {P : Program} {lk : Operand → AV} {a : Pos} {op : Op} {i : AI Operand} (hc : cA P op = some i) : allocF P op lk a = i.ev lk a:=by
  unfold cA at hc
  split at hc
  · next t =>
    simp only [allocF]
    split at hc <;> try (cases hc; done)
    next z hz =>
    split at hc <;> try (cases hc; done)
    next cs hcs =>
    injection hc with hc; subst hc
    rw [hz]
    dsimp only
    rw [hcs]
    rfl
  · next t x =>
    simp only [allocF]
    split at hc
    · next hB=>injection hc with hc; subst hc; simp only [AI.ev,hB,cond_true]; cases cellsA (lk x) <;> rfl
    · next hB=>injection hc with hc; subst hc; simp only [AI.ev,hB,cond_false]; cases cellsA (lk x) <;> rfl
  · next t n ps =>
    simp only [allocF]
    split at hc <;> try (cases hc; done)
    next e hu =>
    split at hc <;> try (cases hc; done)
    next inf z hi hz =>
    split at hc <;> try (cases hc; done)
    next zs hzs =>
    split at hc <;> try (cases hc; done)
    next pl hb hpl =>
    injection hc with hc; subst hc
    rw [hu]
    dsimp only
    rw [hi,hz]
    dsimp only
    rw [hzs]
    dsimp only
    rw [hb,cond_true]
    unfold lksA
    rw [fillP_ok (place:=fun j=>some (j * inf.size,inf.size)) _ _ _ hpl]
    simp only [AI.ev,List.map_map]
    rfl
  · injection hc with hc; subst hc; rfl
  · next t l c =>
    simp only [allocF]
    split at hc <;> try (cases hc; done)
    next e hu =>
    split at hc <;> try (cases hc; done)
    next inf z hi hz =>
    split at hc <;> try (cases hc; done)
    next zs hzs =>
    split at hc <;> try (cases hc; done)
    next hb =>
    injection hc with hc; subst hc
    rw [hu]
    dsimp only
    rw [hi,hz]
    simp only [AI.ev]
    rw [Bool.and_eq_true,Bool.and_eq_true] at hb
    obtain ⟨⟨b1,b2⟩,b3⟩:=hb
    cases natA (lk l) <;> cases natA (lk c) <;> simp only [hzs,b1,b2,b3,Bool.true_and,Bool.and_true]
  · cases hc
def cH (P : Program) : Op → Option (HI Operand)
  | .store t p x=>(match P.info? t with | some i=>some (.hst i.size p x) | none=>none)
  | .mapUpdate t q k v=>(match P.underlying t with | some (.map kt _)=>some (.hmu (keyK P kt) q k v) | _=>none)
  | .insert t q k v=>(match P.underlying t with | some (.map kt _)=>some (.hmu (keyK P kt) q k v) | _=>none)
  | .mapEntry t q k=>(match P.underlying t with | some (.map kt et)=>(match zeroA P et with | some z=>some (.hme (keyK P kt) z q k) | none=>none) | _=>none)
  | .entryStore _ q s v=>some (.hes q s v)
  | .range t x=>(match P.underlying t with | some (.map _ _)=>some (.hrg x) | _=>none)
  | .next i false=>some (.hnx i)
  | .convert s d x=>(match P.underlying s,P.underlying d with
    | some .string,some (.slice e)=>(match P.underlying e with | some (.int .u8)=>some (.hcb x) | _=>none)
    | _,_=>none)
  | .panic x=>some (.hpn x)
  | .defer { callee:=.value g,args:=as,.. }=>some (.hdf g as.toList)
  | .call { callee:=.value g,args:=as,.. }=>some (.hca g as.toList)
  | .call { callee:=.builtin .recover,.. }=>some .hrc
  | .call { callee:=.builtin .append,args:=args,argTypes:=ts }=>(match ts.toList,args.toList with
    | [t,t'],[s,x]=>(match P.underlying t,P.underlying t' with
      | some (.slice e),some (.slice _)=>(match P.info? e,zeroA P e with
        | some i,some z=>(match cellsA z with
          | some zs=>(match Nat.blt 0 i.size && Nat.beq zs.length i.size && Nat.ble i.bytes 1000 with | true=>some (.hap i.size s x) | false=>none)
          | none=>none)
        | _,_=>none)
      | some (.slice e),some (.int _)=>(match P.info? e,zeroA P e with
        | some i,some z=>(match cellsA z with
          | some zs=>(match Nat.blt 0 i.size && Nat.beq zs.length i.size && Nat.ble i.bytes 1000 with | true=>some (.haz i.size zs s x) | false=>none)
          | none=>none)
        | _,_=>none)
      | some (.slice e),some .string=>(match P.info? e,zeroA P e with
        | some i,some z=>(match cellsA z with
          | some zs=>(match Nat.beq i.size 1 && Nat.beq zs.length i.size && Nat.ble i.bytes 1000 with | true=>some (.has e s x) | false=>none)
          | none=>none)
        | _,_=>none)
      | _,_=>none)
    | _,_=>none)
  | .call { callee:=.builtin .copy,args:=args,argTypes:=ts }=>(match ts.toList,args.toList with
    | [t,_],[d,x]=>(match P.underlying t with
      | some (.slice e)=>(match P.info? e with | some i=>some (.hcy i.size d x) | none=>none)
      | _=>none)
    | _,_=>none)
  | .call { callee:=.builtin .clear,args:=args,argTypes:=ts }=>(match ts.toList,args.toList with
    | [t],[x]=>(match P.underlying t with
      | some (.slice e)=>(match zeroA P e with | some z=>(match cellsA z with | some zs=>some (.hcl zs x) | none=>none) | none=>none)
      | _=>none)
    | _,_=>none)
  | .call { callee:=.builtin .delete,args:=args,argTypes:=ts }=>(match ts.toList,args.toList with
    | [t,_],[q,k]=>(match P.underlying t with | some (.map kt _)=>some (.hde (keyK P kt) q k) | _=>none)
    | _,_=>none)
  | _=>none
theorem rowF_of {P : Program} {op : Op} {lk : Operand → AV} {h : H} {a : Pos} {f : Fx} {r : Option (AV × H)} (hr : hardF P op lk h a = r) : rowF P op lk h a f = rowH f r:=by
  unfold rowF; rw [hr]
theorem cH_ok {P : Program} {rnd : Bool} {call : CallF} {lk : Operand → AV} {h : H} {a : Pos} {f : Fx} {o : Oper} {i : HI Operand} (hc : cH P o.op = some i) : hxF P rnd call o lk h a f = i.ev rnd call lk h a f:=by
  unfold cH at hc
  split at hc
  · next t p x hop =>
    split at hc <;> try (cases hc; done)
    next inf hi =>
    injection hc with hc; subst hc
    have base : hxF P rnd call o lk h a f = rowF P o.op lk h a f:=by unfold hxF; rw [hop]
    rw [base,hop]
    refine rowF_of ?_
    simp only [hardF,HI.row]
    cases lk p <;> first | rfl | (cases cellsA (lk x) <;> simp only [hi] <;> (generalize h.store _ _ _ = r; cases r <;> rfl))
  · next t q k v hop =>
    split at hc <;> try (cases hc; done)
    next kt et hu =>
    injection hc with hc; subst hc
    have base : hxF P rnd call o lk h a f = rowF P o.op lk h a f:=by unfold hxF; rw [hop]
    rw [base,hop]
    refine rowF_of ?_
    simp only [hardF,HI.row,hu,lookV_ok]
    cases lk q <;> rfl
  · next t q k v hop =>
    split at hc <;> try (cases hc; done)
    next kt et hu =>
    injection hc with hc; subst hc
    have base : hxF P rnd call o lk h a f = rowF P o.op lk h a f:=by unfold hxF; rw [hop]
    rw [base,hop]
    refine rowF_of ?_
    simp only [hardF,HI.row,hu,lookV_ok]
    cases lk q <;> rfl
  · next t q k hop =>
    split at hc <;> try (cases hc; done)
    next kt et hu =>
    split at hc <;> try (cases hc; done)
    next z hz =>
    injection hc with hc; subst hc
    have base : hxF P rnd call o lk h a f = rowF P o.op lk h a f:=by unfold hxF; rw [hop]
    rw [base,hop]
    refine rowF_of ?_
    simp only [hardF,HI.row,hu,lookV_ok]
    cases lk q <;> try rfl
    next b =>
    dsimp only
    rw [hz]
    cases h.get b with
    | none=>rfl
    | some bb=>cases bb <;> rfl
  · next t q s v hop =>
    injection hc with hc; subst hc
    have base : hxF P rnd call o lk h a f = rowF P o.op lk h a f:=by unfold hxF; rw [hop]
    rw [base,hop]
    exact rowF_of rfl
  · next t x hop =>
    split at hc <;> try (cases hc; done)
    next hu =>
    injection hc with hc; subst hc
    have base : hxF P rnd call o lk h a f = rowF P o.op lk h a f:=by unfold hxF; rw [hop]
    rw [base,hop]
    refine rowF_of ?_
    simp only [hardF,HI.row,hu]
    cases lk x <;> rfl
  · next i hop =>
    injection hc with hc; subst hc
    have base : hxF P rnd call o lk h a f = rowF P o.op lk h a f:=by unfold hxF; rw [hop]
    rw [base,hop]
    exact rowF_of rfl
  · next t d x hop =>
    split at hc <;> try (cases hc; done)
    next e hs hd =>
    split at hc <;> try (cases hc; done)
    next he =>
    injection hc with hc; subst hc
    have base : hxF P rnd call o lk h a f = rowF P o.op lk h a f:=by unfold hxF; rw [hop]
    rw [base,hop]
    refine rowF_of ?_
    simp only [hardF,HI.row,hs,hd]
    cases lk x <;> first | rfl | simp only [he]
  · next x hop =>
    injection hc with hc; subst hc
    unfold hxF
    rw [hop]
    rfl
  · next g as _ hop =>
    injection hc with hc; subst hc
    unfold hxF
    rw [hop]
    cases rnd <;> rfl
  · next g as _ hop =>
    injection hc with hc; subst hc
    unfold hxF
    rw [hop]
    rfl
  · next hop =>
    injection hc with hc; subst hc
    unfold hxF
    rw [hop]
    cases rnd <;> rfl
  · next args ts hop =>
    split at hc <;> try (cases hc; done)
    next t t' s x ht hx =>
    have base : hxF P rnd call o lk h a f = rowF P o.op lk h a f:=by unfold hxF; rw [hop]
    rw [base,hop]
    split at hc
    · next e e' hu hu' =>
      split at hc <;> try (cases hc; done)
      next inf z hi hz =>
      split at hc <;> try (cases hc; done)
      next zs hzs =>
      split at hc <;> try (cases hc; done)
      next hb =>
      injection hc with hc; subst hc
      refine rowF_of ?_
      simp only [hardF,ht,hx,hu,hu',hi,hz,hzs,HI.row]
      cases srcA h inf.size (lk x) with
      | none=>rfl
      | some r=>obtain ⟨k,l⟩:=r; simp only [hb,cond_true]
    · next e e' hu hu' =>
      split at hc <;> try (cases hc; done)
      next inf z hi hz =>
      split at hc <;> try (cases hc; done)
      next zs hzs =>
      split at hc <;> try (cases hc; done)
      next hb =>
      injection hc with hc; subst hc
      refine rowF_of ?_
      simp only [hardF,ht,hx,hu,hu',hi,hz,HI.row]
      cases lk s <;> cases natA (lk x) <;> first | rfl | (simp only [hzs,hb,Bool.true_and])
    · next e hu hu' =>
      split at hc <;> try (cases hc; done)
      next inf z hi hz =>
      split at hc <;> try (cases hc; done)
      next zs hzs =>
      split at hc <;> try (cases hc; done)
      next hb =>
      injection hc with hc; subst hc
      refine rowF_of ?_
      simp only [hardF,ht,hx,hu,hu',hi,hz,HI.row]
      cases lk x <;> first | rfl | (simp only [hzs,hb,cond_true])
    · cases hc
  · next args ts hop =>
    split at hc <;> try (cases hc; done)
    next t t' d x ht hx =>
    have base : hxF P rnd call o lk h a f = rowF P o.op lk h a f:=by unfold hxF; rw [hop]
    rw [base,hop]
    split at hc <;> try (cases hc; done)
    next e hu =>
    split at hc <;> try (cases hc; done)
    next inf hi =>
    injection hc with hc; subst hc
    refine rowF_of ?_
    simp only [hardF,ht,hx,hu,hi,HI.row]
    cases lk d <;> rfl
  · next args ts hop =>
    split at hc <;> try (cases hc; done)
    next t x ht hx =>
    have base : hxF P rnd call o lk h a f = rowF P o.op lk h a f:=by unfold hxF; rw [hop]
    rw [base,hop]
    split at hc <;> try (cases hc; done)
    next e hu =>
    split at hc <;> try (cases hc; done)
    next z hz =>
    split at hc <;> try (cases hc; done)
    next zs hzs =>
    injection hc with hc; subst hc
    refine rowF_of ?_
    simp only [hardF,ht,hx,hu,hz,HI.row]
    cases lk x <;> first | rfl | (simp only [hzs]; generalize h.store _ _ _ = r; cases r <;> rfl)
  · next args ts hop =>
    split at hc <;> try (cases hc; done)
    next t t' q k ht hx =>
    have base : hxF P rnd call o lk h a f = rowF P o.op lk h a f:=by unfold hxF; rw [hop]
    rw [base,hop]
    split at hc <;> try (cases hc; done)
    next kt et hu =>
    injection hc with hc; subst hc
    refine rowF_of ?_
    simp only [hardF,ht,hx,hu,HI.row,lookV_ok]
    cases lk q <;> rfl
  · cases hc
end Am
end Go.Proofs.YtadbcnekkceoaaaGreatDoor
namespace Go.Proofs.YtadbcnekkceoaaaGreatDoor
namespace Am
abbrev Grd:=Option (Od × Bool)
inductive IStep
  | p (g : Grd) (i : PI Od) | r (g : Grd) (i : RI Od) | a (g : Grd) (i : AI Od) (k : Nat) | l (n k : Nat) | h (g : Grd) (i : HI Od) (k : Nat) | q (g : Grd) (i : RI Od) (n : Od) | d (x y : Od)
inductive IOut | ok (l : List AV) (h : H) (f : Fx) | pan (v : AV) (h : H) (f : Fx)
def grdV (e : E) (l : List AV) : Grd → Option Bool
  | none=>some true
  | some (x,want)=>(match x.get e l with | .bool b=>some (b == want) | .tup []=>some false | _=>none)
def nthB : List (Option AB) → Nat → Option (Option AB)
  | [],_=>none
  | a :: _,0=>some a
  | _ :: l,n + 1=>nthB l n
section
variable (rnd : Bool) (call : CallF) (e : E) (base : Pos)
def irS : List IStep → List AV → List (Option AB) → H → Fx → Option IOut
  | [],l,_,h,f=>some (.ok l h f)
  | s :: rest,l,lb,h,f=>(match s with
    | .p g i=>(match grdV e l g with
      | some true=>(match i.ev (Od.get e l) with | some v=>irS rest (v :: l) lb h f | none=>none)
      | some false=>irS rest (.tup [] :: l) lb h f
      | none=>none)
    | .r g i=>(match grdV e l g with
      | some true=>(match i.ev (Od.get e l) h with | some v=>irS rest (v :: l) lb h f | none=>none)
      | some false=>irS rest (.tup [] :: l) lb h f
      | none=>none)
    | .a g i k=>(match grdV e l g with
      | some true=>(match i.ev (Od.get e l) (base.add k) with | some (v,b)=>irS rest (v :: l) (some b :: lb) h f | none=>none)
      | some false=>irS rest (.tup [] :: l) (none :: lb) h f
      | none=>none)
    | .l n k=>(match nthB lb n with
      | some (some b)=>irS rest l lb (h.set (base.add k) b) f
      | some none=>irS rest l lb h f
      | none=>none)
    | .h g i k=>(match grdV e l g with
      | some true=>(match i.ev rnd call (Od.get e l) h (base.add k) f with
        | some (.val v h' f')=>irS rest (v :: l) lb h' f'
        | some (.pan v h' f')=>some (.pan v h' f')
        | none=>none)
      | some false=>irS rest (.tup [] :: l) lb h f
      | none=>none)
    | .q g i n=>(match grdV e l g with
      | some true=>(match i.ev (Od.get e l) h with | some v=>(match AV.same v (n.get e l) with | true=>irS rest l lb h f | false=>none) | none=>none)
      | some false=>irS rest l lb h f
      | none=>none)
    | .d x y=>(match x.get e l,y.get e l with
      | .ptr a _,.ptr b _=>(match Pos.beq a b with | true=>none | false=>irS rest l lb h f)
      | _,_=>none))
end
def idxF : List Nat → Nat → Nat → Option Nat
  | [],_,_=>none
  | j :: l,i,n=>bif Nat.beq j i then some n else idxF l i (Nat.succ n)
inductive Sv | lv (k : Nat) | sl (p : SP) | ct (a : AV)
def Sv.od (n : Nat) : Sv → Od | .lv k=>.v (Nat.sub (Nat.sub n 1) k) | .sl p=>.s p | .ct a=>.c a
abbrev SvE:=List (Nat × Sv)
section
variable (P : Program) (R : Rg)
inductive Src | v (j : Nat) | s (n : Nat) | no
def Rg.src (i t : Nat) : Src :=
  let slot : Src:=match R.slot t with | some s=>.s s | none=>.no
  match R.wr t with
  | some j=>bif R.pre i j then .v j else bif Nat.beq j i || R.pre j i then slot else .no
  | none=>slot
def svOf (i : Nat) (env : SvE) : Operand → Sv
  | .tmp t=>(match R.src i t with
    | .v j=>(match vfind env j with | some s=>s | none=>.ct .junk)
    | .s n=>.sl (SP.of n)
    | .no=>.ct .junk)
  | .const v=>.ct (ofV v)
  | .global _=>.ct .junk
  | .func f=>.ct (.fn f [] [])
def cOd (i : Nat) (env : SvE) (n : Nat) (x : Operand) : Od:=(svOf R i env x).od n
def cG (i : Nat) (env : SvE) (n : Nat) (o : Oper) : Option Grd :=
  match o.guard with
  | none=>some none
  | some (j,want)=>(match R.pre i j && R.hasDst j with | true=>(match vfind env j with | some s=>some (some (s.od n,want)) | none=>none) | false=>none)
def mvOf (o : Oper) : Option Operand:=match o.op,o.guard with | .move x,none=>some x | .assign x,none=>some x | _,_=>none
def cStep (env : SvE) (n : Nat) (ordB : List Nat) : Stp → Option (List IStep × SvE × Nat × List Nat)
  | .pu i=>(match R.ops[i]?,vfind env i with
    | some o,none=>(match mvOf o with
      | some x=>some ([],(i,svOf R i env x) :: env,n,ordB)
      | none=>(match cG R i env n o,cP P o.op with | some g,some c=>some ([.p g (c.map (cOd R i env n))],(i,.lv n) :: env,Nat.succ n,ordB) | _,_=>none))
    | _,_=>none)
  | .rd i=>(match R.ops[i]?,vfind env i with
    | some o,none=>(match cG R i env n o,cR P o.op with | some g,some c=>some ([.r g (c.map (cOd R i env n))],(i,.lv n) :: env,Nat.succ n,ordB) | _,_=>none)
    | _,_=>none)
  | .al i=>(match R.ops[i]?,vfind env i,idxF ordB i 0 with
    | some o,none,none=>(match cG R i env n o,cA P o.op with | some g,some c=>some ([.a g (c.map (cOd R i env n)) (R.ix i)],(i,.lv n) :: env,Nat.succ n,i :: ordB) | _,_=>none)
    | _,_,_=>none)
  | .re i=>(match R.ops[i]?,vfind env i with
    | some o,some s=>(match cG R i env n o,cR P o.op with | some g,some c=>some ([.q g (c.map (cOd R i env n)) (s.od n)],env,n,ordB) | _,_=>none)
    | _,_=>none)
def cSteps : List Stp → SvE → Nat → List Nat → Option (List IStep × SvE × Nat × List Nat)
  | [],env,n,ordB=>some ([],env,n,ordB)
  | s :: l,env,n,ordB=>(match cStep P R env n ordB s with
    | some (i,env1,n1,ordB1)=>(match cSteps l env1 n1 ordB1 with | some (is,r)=>some (i ++ is,r) | none=>none)
    | none=>none)
def cLay (ordB : List Nat) : List Nat → Option (List IStep)
  | []=>some []
  | i :: l=>(match idxF ordB i 0,cLay ordB l with | some n,some is=>some (.l n (R.ix i) :: is) | _,_=>none)
def cHd (env : SvE) (n : Nat) (x : Nat) : Option IStep :=
  match R.ops[x]?,vfind env x with
  | some o,none=>(match cG R x env n o,cH P o.op with | some g,some c=>some (.h g (c.map (cOd R x env n)) (R.ix x)) | _,_=>none)
  | _,_=>none
def cAim (env : SvE) (x : Nat) : Option Sv :=
  match R.ops[x]? with
  | some o=>(match o.op,o.guard with | .store _ p _,none=>some (svOf R x env p) | _,_=>none)
  | none=>none
def cStages : List Stage → SvE → Nat → List Nat → Option (List IStep × SvE × Nat)
  | [],_,_,_=>none
  | s :: rest,env,n,ordB=>(match cSteps P R s.st env n ordB with
    | some (is1,env1,n1,ordB1)=>(match cLay R ordB1 s.ins with
      | some is2=>(match s.hd with
        | none=>(match rest with | []=>some (is1 ++ is2,env1,n1) | _=>none)
        | some x=>(match cHd P R env1 n1 x with
          | some i3=>(match s.hd2 with
            | none=>(match cStages rest ((x,.lv n1) :: env1) (Nat.succ n1) ordB1 with | some (is4,r)=>some (is1 ++ (is2 ++ (i3 :: is4)),r) | none=>none)
            | some y=>(match Nat.beq x y,cAim R env1 x,cAim R ((x,.lv n1) :: env1) y,cHd P R ((x,.lv n1) :: env1) (Nat.succ n1) y with
              | false,some a,some a',some i4=>(match cStages rest ((y,.lv (Nat.succ n1)) :: (x,.lv n1) :: env1) (Nat.succ (Nat.succ n1)) ordB1 with
                | some (is4,r)=>some (is1 ++ (is2 ++ (i3 :: .d (a.od (Nat.succ n1)) (a'.od (Nat.succ n1)) :: i4 :: is4)),r)
                | none=>none)
              | _,_,_,_=>none))
          | none=>none))
      | none=>none)
    | none=>none)
end
theorem idxF_lt : ∀ {ord : List Nat} {i b n : Nat},idxF ord i b = some n → b ≤ n ∧ n < b + ord.length
  | [],_,_,_,h=>by cases h
  | j :: l,i,b,n,h=>by
    unfold idxF at h
    cases hb : Nat.beq j i with
    | true=>rw [hb,cond_true] at h; injection h with h; subst h; exact ⟨Nat.le_refl _,by simp⟩
    | false=>rw [hb,cond_false] at h; have:=idxF_lt h; simp; omega
theorem vfind_zipB : ∀ {ord : List Nat} {l : List (Option AB)} {i b n : Nat},ord.length = l.length → idxF ord i b = some n → vfind (ord.zip l) i = nthB l (n - b)
  | [],_,_,_,_,_,h=>by cases h
  | _ :: _,[],_,_,_,hl,_=>by simp at hl
  | j :: ord,v :: l,i,b,n,hl,h=>by
    unfold idxF at h
    simp only [List.zip_cons_cons,vfind]
    cases hb : Nat.beq j i with
    | true=>rw [hb,cond_true] at h; injection h with h; subst h; rw [cond_true,Nat.sub_self]; rfl
    | false =>
      rw [hb,cond_false] at h
      rw [cond_false,vfind_zipB (by simpa using hl) h]
      have:=(idxF_lt h).1
      have e : n - b = (n - b.succ) + 1:=by omega
      rw [e]; rfl
theorem fresh_zip {α : Type} : ∀ {ord : List Nat} {l : List α} {i b : Nat},idxF ord i b = none → freshN (ord.zip l) i = true
  | [],_,_,_,_=>rfl
  | _ :: _,[],_,_,_=>rfl
  | j :: ord,v :: l,i,b,h=>by
    unfold idxF at h
    cases hb : Nat.beq j i with
    | true=>rw [hb] at h; cases h
    | false =>
      rw [hb,cond_false] at h
      have:=fresh_zip (l:=l) h
      unfold freshN at this ⊢
      simp only [List.zip_cons_cons,vfind,hb,cond_false]
      exact this
section
variable {P : Program} {R : Rg} {rnd : Bool} {call : CallF} {e : E} {base : Pos}
structure VsR (e : E) (env : SvE) (l : List AV) (vs : List (Nat × AV)) : Prop where
  val : ∀ i,vfind vs i = (vfind env i).map fun s=>(s.od l.length).get e l
  wf : ∀ i k,vfind env i = some (.lv k) → k < l.length
theorem od_push {l : List AV} {v : AV} {s : Sv} (hs : ∀ k,s = .lv k → k < l.length) : (s.od (v :: l).length).get e (v :: l) = (s.od l.length).get e l:=by
  cases s with
  | sl p=>rfl
  | ct a=>rfl
  | lv k =>
    have hk:=hs k rfl
    show nthA (v :: l) (l.length + 1 - 1 - k) = nthA l (l.length - 1 - k)
    have : l.length + 1 - 1 - k = (l.length - 1 - k) + 1:=by omega
    rw [this]; rfl
theorem VsR.push {env : SvE} {l : List AV} {vs : List (Nat × AV)} (h : VsR e env l vs) (i : Nat) (v : AV) : VsR e ((i,.lv l.length) :: env) (v :: l) ((i,v) :: vs):=by
  refine ⟨fun j=>?_,fun j k hj=>?_⟩
  · simp only [vfind]
    cases hb : Nat.beq i j with
    | true =>
      simp only [cond_true,Option.map_some]
      show some v = some (nthA (v :: l) (l.length + 1 - 1 - l.length))
      rw [show l.length + 1 - 1 - l.length = 0 by omega]
      rfl
    | false =>
      simp only [cond_false]
      rw [h.val]
      cases hs : vfind env j with
      | none=>rfl
      | some s=>simp only [Option.map_some]; rw [od_push fun k hk=>h.wf j k (by rw [hs,hk])]
  · simp only [vfind] at hj
    cases hb : Nat.beq i j with
    | true=>rw [hb,cond_true] at hj; injection hj with hj; injection hj with hj; subst hj; simp
    | false=>rw [hb,cond_false] at hj; have:=h.wf j k hj; simp; omega
theorem VsR.alias {env : SvE} {l : List AV} {vs : List (Nat × AV)} (h : VsR e env l vs) (i : Nat) (s : Sv) (hs : ∀ k,s = .lv k → k < l.length) : VsR e ((i,s) :: env) l ((i,(s.od l.length).get e l) :: vs):=by
  refine ⟨fun j=>?_,fun j k hj=>?_⟩
  · simp only [vfind]
    cases hb : Nat.beq i j with
    | true=>rfl
    | false=>simp only [cond_false]; exact h.val j
  · simp only [vfind] at hj
    cases hb : Nat.beq i j with
    | true=>rw [hb,cond_true] at hj; injection hj with hj; exact hs k hj
    | false=>rw [hb,cond_false] at hj; exact h.wf j k hj
theorem VsR.fresh {env : SvE} {l : List AV} {vs : List (Nat × AV)} (h : VsR e env l vs) {i : Nat} (hi : vfind env i = none) : freshN vs i = true:=by
  unfold freshN
  rw [h.val,hi]; rfl
theorem svOf_ok {env : SvE} {l : List AV} {vs : List (Nat × AV)} (h : VsR e env l vs) {i : Nat} (x : Operand) : ((svOf R i env x).od l.length).get e l = R.lk e vs i x ∧ ∀ k,svOf R i env x = .lv k → k < l.length:=by
  cases x with
  | const v=>exact ⟨rfl,fun k h=>by cases h⟩
  | global g=>exact ⟨rfl,fun k h=>by cases h⟩
  | func f=>exact ⟨rfl,fun k h=>by cases h⟩
  | tmp t =>
    simp only [svOf,Rg.lk]
    unfold Rg.src
    unfold Rg.slotV
    cases hw : R.wr t with
    | none =>
      dsimp only
      cases R.slot t <;> exact ⟨rfl,fun k h=>by cases h⟩
    | some j =>
      dsimp only
      cases hp : R.pre i j with
      | true =>
        simp only [cond_true]
        rw [h.val]
        cases hn : vfind env j with
        | none=>exact ⟨rfl,fun k h=>by cases h⟩
        | some s=>exact ⟨rfl,fun k hk=>h.wf j k (by rw [hn]; exact congrArg some hk)⟩
      | false =>
        simp only [cond_false]
        cases Nat.beq j i || R.pre j i with
        | true=>simp only [cond_true]; cases R.slot t <;> exact ⟨rfl,fun k h=>by cases h⟩
        | false=>exact ⟨rfl,fun k h=>by cases h⟩
theorem lk_eq {env : SvE} {l : List AV} {vs : List (Nat × AV)} (h : VsR e env l vs) {i : Nat} : (fun x=>(cOd R i env l.length x).get e l) = R.lk e vs i:=funext fun x=>(svOf_ok h x).1
theorem cG_ok {env : SvE} {l : List AV} {vs : List (Nat × AV)} (hv : VsR e env l vs) {i : Nat} {o : Oper} {g : Grd} (h : cG R i env l.length o = some g) : R.want vs i o = grdV e l g:=by
  unfold cG at h
  unfold Rg.want
  split at h
  · next hg=>injection h with h; subst h; rw [hg]; rfl
  · next j want hg =>
    rw [hg]
    dsimp only
    split at h
    · next hb =>
      rw [hb,cond_true]
      split at h
      · next s hn =>
        injection h with h; subst h
        rw [hv.val,hn]
        unfold grdV
        simp only [Option.map_some]
        cases (s.od l.length).get e l <;> first | rfl | (rename_i vs; cases vs <;> rfl)
      · cases h
    · cases h
theorem mv_ok {o : Oper} {x : Operand} (h : mvOf o = some x) {vs : List (Nat × AV)} {i : Nat} : R.want vs i o = some true ∧ pureF P o.op (R.lk e vs i) = some (R.lk e vs i x):=by
  unfold mvOf at h
  unfold Rg.want
  split at h <;> (try (cases h; done)) <;> (next ho hg=>(injection h with h; subst h; rw [ho,hg]; exact ⟨rfl,rfl⟩))
theorem cStep_ok {env env1 : SvE} {n n1 : Nat} {ordB ordB1 : List Nat} {s : Stp} {is : List IStep} (hc : cStep P R env n ordB s = some (is,env1,n1,ordB1)) {l : List AV} {lb : List (Option AB)} {vs : List (Nat × AV)} (hv : VsR e env l vs) (hl : l.length = n) (hb : ordB.length = lb.length) {rest : List IStep} {h : H} {f : Fx} {out : IOut} (hr : irS rnd call e base (is ++ rest) l lb h f = some out) :
    ∃ l1 lb1 vs1,R.step P base e h s ⟨vs,ordB.zip lb⟩ = some ⟨vs1,ordB1.zip lb1⟩ ∧ VsR e env1 l1 vs1 ∧ l1.length = n1 ∧ ordB1.length = lb1.length ∧ irS rnd call e base rest l1 lb1 h f = some out:=by
  subst hl
  unfold cStep at hc
  split at hc
  · next i0 =>
    split at hc <;> try (cases hc; done)
    next o ho hi =>
    split at hc
    · next x hx =>
      injection hc with hc; injection hc with e1 hc; injection hc with e2 hc; injection hc with e3 e4
      subst e1 e2 e3 e4
      obtain ⟨m1,m2⟩:=mv_ok (P:=P) (R:=R) (e:=e) hx (vs:=vs) (i:=i0)
      obtain ⟨s1,s2⟩:=svOf_ok (R:=R) hv (i:=i0) x
      refine ⟨l,lb,(i0,R.lk e vs i0 x) :: vs,?_,by (rw [← s1]; exact hv.alias i0 _ s2),rfl,hb,hr⟩
      simp only [Rg.step]
      rw [hv.fresh hi,cond_true,ho]
      dsimp only
      rw [m1]
      dsimp only
      rw [m2]
    split at hc <;> try (cases hc; done)
    next g c hg hcp =>
    injection hc with hc; injection hc with e1 hc; injection hc with e2 hc; injection hc with e3 e4
    subst e1 e2 e3 e4
    simp only [List.singleton_append,irS] at hr
    simp only [Rg.step]
    rw [hv.fresh hi,cond_true,ho]
    dsimp only
    rw [cG_ok hv hg]
    split at hr
    · next hgv =>
      split at hr <;> try (cases hr; done)
      next v hv' =>
      rw [hgv]
      dsimp only
      rw [PI.ev_map,lk_eq hv] at hv'
      rw [cP_ok hcp,hv']
      exact ⟨v :: l,lb,_,rfl,hv.push i0 v,rfl,hb,hr⟩
    · next hgv=>rw [hgv]; exact ⟨.tup [] :: l,lb,_,rfl,hv.push i0 _,rfl,hb,hr⟩
    · cases hr
  · next i0 =>
    split at hc <;> try (cases hc; done)
    next o ho hi =>
    split at hc <;> try (cases hc; done)
    next g c hg hcp =>
    injection hc with hc; injection hc with e1 hc; injection hc with e2 hc; injection hc with e3 e4
    subst e1 e2 e3 e4
    simp only [List.singleton_append,irS] at hr
    simp only [Rg.step]
    rw [hv.fresh hi,cond_true,ho]
    dsimp only
    rw [cG_ok hv hg]
    split at hr
    · next hgv =>
      split at hr <;> try (cases hr; done)
      next v hv' =>
      rw [hgv]
      dsimp only
      rw [RI.ev_map,lk_eq hv] at hv'
      rw [cR_ok hcp,hv']
      exact ⟨v :: l,lb,_,rfl,hv.push i0 v,rfl,hb,hr⟩
    · next hgv=>rw [hgv]; exact ⟨.tup [] :: l,lb,_,rfl,hv.push i0 _,rfl,hb,hr⟩
    · cases hr
  · next i0 =>
    split at hc <;> try (cases hc; done)
    next o ho hi hib =>
    split at hc <;> try (cases hc; done)
    next g c hg hcp =>
    injection hc with hc; injection hc with e1 hc; injection hc with e2 hc; injection hc with e3 e4
    subst e1 e2 e3 e4
    simp only [List.singleton_append,irS] at hr
    simp only [Rg.step]
    rw [hv.fresh hi,fresh_zip hib,Bool.and_self,cond_true,ho]
    dsimp only
    rw [cG_ok hv hg]
    split at hr
    · next hgv =>
      split at hr <;> try (cases hr; done)
      next v b hv' =>
      rw [hgv]
      dsimp only
      rw [AI.ev_map,lk_eq hv] at hv'
      rw [cA_ok hcp,hv']
      exact ⟨v :: l,some b :: lb,_,rfl,hv.push i0 v,rfl,by simp [hb],hr⟩
    · next hgv=>rw [hgv]; exact ⟨.tup [] :: l,none :: lb,_,rfl,hv.push i0 _,rfl,by simp [hb],hr⟩
    · cases hr
  · next i0 =>
    split at hc <;> try (cases hc; done)
    next o s ho hi =>
    split at hc <;> try (cases hc; done)
    next g c hg hcp =>
    injection hc with hc; injection hc with e1 hc; injection hc with e2 hc; injection hc with e3 e4
    subst e1 e2 e3 e4
    simp only [List.singleton_append,irS] at hr
    simp only [Rg.step]
    rw [ho]
    dsimp only
    rw [cG_ok hv hg,hv.val,hi]
    simp only [Option.map_some]
    split at hr
    · next hgv =>
      split at hr <;> try (cases hr; done)
      next v hv' =>
      split at hr <;> try (cases hr; done)
      next hs =>
      rw [hgv]
      dsimp only
      rw [RI.ev_map,lk_eq hv] at hv'
      rw [cR_ok hcp,hv']
      dsimp only
      rw [hs]
      exact ⟨l,lb,vs,rfl,hv,rfl,hb,hr⟩
    · next hgv=>rw [hgv]; exact ⟨l,lb,vs,rfl,hv,rfl,hb,hr⟩
    · cases hr
theorem cSteps_ok {out : IOut} {h : H} {f : Fx} : ∀ {st : List Stp} {env env1 : SvE} {n n1 : Nat} {ordB ordB1 : List Nat} {is rest : List IStep},cSteps P R st env n ordB = some (is,env1,n1,ordB1) → ∀ {l : List AV} {lb : List (Option AB)} {vs : List (Nat × AV)},VsR e env l vs → l.length = n → ordB.length = lb.length → irS rnd call e base (is ++ rest) l lb h f = some out →
    ∃ l1 lb1 vs1,R.steps P base e h st ⟨vs,ordB.zip lb⟩ = some ⟨vs1,ordB1.zip lb1⟩ ∧ VsR e env1 l1 vs1 ∧ l1.length = n1 ∧ ordB1.length = lb1.length ∧ irS rnd call e base rest l1 lb1 h f = some out
  | [],env,env1,n,n1,ordB,ordB1,is,rest,hc,l,lb,vs,hv,hl,hb,hr=>by
    simp only [cSteps] at hc
    injection hc with hc; injection hc with e1 hc; injection hc with e2 hc; injection hc with e3 e4
    subst e1 e2 e3 e4
    exact ⟨l,lb,vs,rfl,hv,hl,hb,hr⟩
  | s :: st,env,env1,n,n1,ordB,ordB1,is,rest,hc,l,lb,vs,hv,hl,hb,hr=>by
    simp only [cSteps] at hc
    split at hc <;> try (cases hc; done)
    next i en1 nn1 oB1 h1 =>
    split at hc <;> try (cases hc; done)
    next is' r h2 =>
    injection hc with hc; injection hc with e1 e2
    subst e1
    subst e2
    rw [List.append_assoc] at hr
    obtain ⟨l1,lb1,vs1,q1,q2,q3,q4,q5⟩:=cStep_ok h1 hv hl hb hr
    obtain ⟨l2,lb2,vs2,p1,p2,p3,p4,p5⟩:=cSteps_ok h2 q2 q3 q4 q5
    refine ⟨l2,lb2,vs2,?_,p2,p3,p4,p5⟩
    simp only [Rg.steps]
    rw [q1]
    exact p1
theorem cLay_ok {out : IOut} {f : Fx} {ordB : List Nat} {l : List AV} {lb : List (Option AB)} (hb : ordB.length = lb.length) : ∀ {ins : List Nat} {is rest : List IStep} {h : H},cLay R ordB ins = some is → irS rnd call e base (is ++ rest) l lb h f = some out → ∃ h1,layB R.ix base (ordB.zip lb) ins h = some h1 ∧ irS rnd call e base rest l lb h1 f = some out
  | [],is,rest,h,hc,hr=>by
    simp only [cLay] at hc
    injection hc with hc; subst hc
    exact ⟨h,rfl,hr⟩
  | i :: ins,is,rest,h,hc,hr=>by
    simp only [cLay] at hc
    split at hc <;> try (cases hc; done)
    next n is' hn h2 =>
    injection hc with hc; subst hc
    simp only [List.cons_append,irS] at hr
    simp only [layB]
    rw [vfind_zipB hb hn,Nat.sub_zero]
    split at hr
    · next b hb'=>rw [hb']; exact cLay_ok hb h2 hr
    · next hb'=>rw [hb']; exact cLay_ok hb h2 hr
    · cases hr
theorem cHd_ok {env : SvE} {n x : Nat} {i : IStep} (hc : cHd P R env n x = some i) {l : List AV} {lb : List (Option AB)} {vs : List (Nat × AV)} (hv : VsR e env l vs) (hl : l.length = n) {rest : List IStep} {h : H} {f : Fx} {out : IOut} (hr : irS rnd call e base (i :: rest) l lb h f = some out) :
    (∃ v h' f',R.hard (hxF P rnd call) base e x vs h f = some (.val v h' f') ∧ irS rnd call e base rest (v :: l) lb h' f' = some out) ∨ ∃ v h' f',R.hard (hxF P rnd call) base e x vs h f = some (.pan v h' f') ∧ out = .pan v h' f':=by
  subst hl
  unfold cHd at hc
  split at hc <;> try (cases hc; done)
  next o ho hi =>
  split at hc <;> try (cases hc; done)
  next g c hg hcp =>
  injection hc with hc; subst hc
  simp only [irS] at hr
  unfold Rg.hard
  rw [hv.fresh hi,cond_true,ho]
  dsimp only
  rw [cG_ok hv hg]
  split at hr
  · next hgv =>
    rw [hgv]
    dsimp only
    split at hr
    · next v h' f' hv' =>
      rw [HI.ev_map,lk_eq hv] at hv'
      rw [cH_ok hcp,hv']
      exact .inl ⟨v,h',f',rfl,hr⟩
    · next v h' f' hv' =>
      rw [HI.ev_map,lk_eq hv] at hv'
      rw [cH_ok hcp,hv']
      injection hr with hr
      exact .inr ⟨v,h',f',rfl,hr.symm⟩
    · cases hr
  · next hgv=>rw [hgv]; exact .inl ⟨_,_,_,rfl,hr⟩
  · cases hr
theorem cAim_ok {env : SvE} {x : Nat} {a : Sv} (hc : cAim R env x = some a) {l : List AV} {vs : List (Nat × AV)} (hv : VsR e env l vs) : R.aim e x vs = (match (a.od l.length).get e l with | .ptr b _=>some b | _=>none) ∧ ∀ k,a = .lv k → k < l.length:=by
  unfold cAim at hc
  split at hc <;> try (cases hc; done)
  next o ho =>
  split at hc <;> try (cases hc; done)
  next t p u hop hg =>
  injection hc with hc; subst hc
  unfold Rg.aim
  rw [ho]
  dsimp only
  rw [hop,hg,(svOf_ok (R:=R) hv p).1]
  exact ⟨rfl,(svOf_ok (R:=R) hv p).2⟩
theorem aim_val {env : SvE} {x : Nat} {a : Sv} (hc : cAim R env x = some a) {vs : List (Nat × AV)} {h h' : H} {f f' : Fx} {v : AV} (hr : R.hard (hxF P rnd call) base e x vs h f = some (.pan v h' f')) : False:=by
  unfold cAim at hc
  split at hc <;> try (cases hc; done)
  next o ho =>
  split at hc <;> try (cases hc; done)
  next t p u hop hg =>
  unfold Rg.hard at hr
  have hw : R.want vs x o = some true:=by unfold Rg.want; rw [hg]
  cases hf : freshN vs x with
  | false=>rw [hf,cond_false] at hr; cases hr
  | true =>
    rw [hf,cond_true,ho] at hr
    dsimp only at hr
    rw [hw] at hr
    dsimp only at hr
    rw [hxF_store (P:=P) (rnd:=rnd) (call:=call) o t p u hop] at hr
    split at hr <;> cases hr
inductive OutR (e : E) (env : SvE) (n : Nat) : IOut → ROut → Prop
  | ok (l : List AV) (vs : List (Nat × AV)) (h : H) (f : Fx) : VsR e env l vs → l.length = n → OutR e env n (.ok l h f) (.ok vs h f)
  | pan (vs : List (Nat × AV)) (v : AV) (h : H) (f : Fx) : OutR e env n (.pan v h f) (.pan vs v h f)
theorem cStages_ok {out : IOut} : ∀ {ss : List Stage} {env envF : SvE} {n nF : Nat} {ordB : List Nat} {is : List IStep},cStages P R ss env n ordB = some (is,envF,nF) → ∀ {l : List AV} {lb : List (Option AB)} {vs : List (Nat × AV)} {h : H} {f : Fx},VsR e env l vs → l.length = n → ordB.length = lb.length → irS rnd call e base is l lb h f = some out →
    ∃ out',R.run P (hxF P rnd call) base e ss ⟨⟨vs,ordB.zip lb⟩,h,f⟩ = some out' ∧ OutR e envF nF out out'
  | [],_,_,_,_,_,_,hc,_,_,_,_,_,_,_,_,_=>by cases hc
  | s :: rest,env,envF,n,nF,ordB,is,hc,l,lb,vs,h,f,hv,hl,hb,hr=>by
    simp only [cStages] at hc
    split at hc <;> try (cases hc; done)
    next is1 env1 n1 ordB1 h1 =>
    split at hc <;> try (cases hc; done)
    next is2 h2 =>
    split at hc
    · next hhd =>
      split at hc <;> try (cases hc; done)
      injection hc with hc; injection hc with e1 hc; injection hc with e2 e3
      subst e1 e2 e3
      rw [← List.append_nil is2] at hr
      obtain ⟨l1,lb1,vs1,q1,q2,q2',q3,q4⟩:=cSteps_ok h1 hv hl hb hr
      obtain ⟨hh,p1,p2⟩:=cLay_ok q3 h2 q4
      simp only [irS] at p2
      injection p2 with p2; subst p2
      refine ⟨_,?_,.ok l1 vs1 hh f q2 q2'⟩
      simp only [Rg.run]
      rw [q1]
      dsimp only
      rw [p1]
      dsimp only
      rw [hhd]
    · next x hhd =>
      split at hc <;> try (cases hc; done)
      next i3 h3 =>
      split at hc
      · next hh2 =>
        split at hc <;> try (cases hc; done)
        next is4 r h4 =>
        injection hc with hc; injection hc with e1 e2
        subst e1 e2
        obtain ⟨l1,lb1,vs1,q1,q2,q2',q3,q4⟩:=cSteps_ok h1 hv hl hb hr
        obtain ⟨hh,p1,p2⟩:=cLay_ok q3 h2 q4
        rcases cHd_ok h3 q2 q2' p2 with ⟨v,h',f',r1,r2⟩ | ⟨v,h',f',r1,r2⟩
        · have hv2:=q2.push x v
          rw [q2'] at hv2
          obtain ⟨out',o1,o2⟩:=cStages_ok h4 (l:=v :: l1) hv2 (by simp [q2']) q3 r2
          refine ⟨out',?_,o2⟩
          simp only [Rg.run]
          rw [q1]
          dsimp only
          rw [p1]
          dsimp only
          rw [hhd]
          dsimp only
          rw [r1]
          dsimp only
          rw [hh2]
          exact o1
        · subst r2
          refine ⟨.pan vs1 v h' f',?_,.pan _ v h' f'⟩
          simp only [Rg.run]
          rw [q1]
          dsimp only
          rw [p1]
          dsimp only
          rw [hhd]
          dsimp only
          rw [r1]
          dsimp only
          rw [hh2]
      · next y hh2 =>
        split at hc <;> try (cases hc; done)
        next a a' i4 hxy ha ha' h4 =>
        split at hc <;> try (cases hc; done)
        next is5 r h5 =>
        injection hc with hc; injection hc with e1 e2
        subst e1 e2
        obtain ⟨l1,lb1,vs1,q1,q2,q2',q3,q4⟩:=cSteps_ok h1 hv hl hb hr
        obtain ⟨hh,p1,p2⟩:=cLay_ok q3 h2 q4
        rcases cHd_ok h3 q2 q2' p2 with ⟨v,h',f',r1,r2⟩ | ⟨v,h',f',r1,r2⟩
        · have hv2:=q2.push x v
          have hl2 : (v :: l1).length = Nat.succ n1:=by simp [q2']
          rw [q2'] at hv2
          simp only [irS] at r2
          obtain ⟨am1,am1'⟩:=cAim_ok (e:=e) ha q2
          obtain ⟨am2,_⟩:=cAim_ok (e:=e) ha' hv2
          have hpu:=od_push (e:=e) (l:=l1) (v:=v) (s:=a) am1'
          rw [hl2] at hpu am2
          rw [hpu] at r2
          split at r2 <;> try (cases r2; done)
          next b1 k1 b2 k2 e3 e4 =>
          rw [e3] at am1
          rw [e4] at am2
          dsimp only at am1 am2
          split at r2 <;> try (cases r2; done)
          next hbb =>
          rcases cHd_ok h4 hv2 hl2 r2 with ⟨v',h'',f'',s1,s2⟩ | ⟨v',h'',f'',s1,s2⟩
          · have hv3:=hv2.push y v'
            rw [hl2] at hv3
            obtain ⟨out',o1,o2⟩:=cStages_ok h5 (l:=v' :: v :: l1) hv3 (by simp [q2']) q3 s2
            refine ⟨out',?_,o2⟩
            simp only [Rg.run]
            rw [q1]
            dsimp only
            rw [p1]
            dsimp only
            rw [hhd]
            dsimp only
            rw [r1]
            dsimp only
            rw [hh2]
            dsimp only
            rw [am1,am2]
            dsimp only
            rw [hbb,hxy]
            rw [s1]
            exact o1
          · exact (aim_val ha' s1).elim
        · exact (aim_val ha r1).elim
end
end Am
end Go.Proofs.YtadbcnekkceoaaaGreatDoor
