/- Words for memory that this seat's proofs share: a block known whole, what may have turned between two worlds, a slice that the call owns. -/
import Derived.Test.YtadbcnekkceoaaaGreatDoorProg
import Derived.WalkKit
import Derived.WalkSpells
import Derived.WalkLawsBesides
import Derived.Deep.QuietTactic
import Derived.BigQuiet
import Derived.Maps.AppendAt
set_option linter.unusedVariables false
namespace Go.Proofs.YtadbcnekkceoaaaGreatDoor.Mv
open Go.RowKit
def I64 (v : Int) : Prop:=-9223372036854775808 ≤ v ∧ v ≤ 9223372036854775807
theorem rb {a b : Bool} (h : a = b) : Ending.returned (.bool a) = .returned (.bool b):=by rw [h]
def Blk (w : World) (b : Nat) (t : TypeId) (cs : Array Value) : Prop:=w.heap[b]? = some (.cells cs t (0,0))
theorem Blk.lt {w : World} {b : Nat} {t : TypeId} {cs : Array Value} (h : Blk w b t cs) : b < w.heap.size:=by
  unfold Blk at h
  exact (Array.getElem?_eq_some_iff.1 h).1
theorem Blk.cell {w : World} {b : Nat} {t : TypeId} {cs : Array Value} (h : Blk w b t cs) (i : Nat) : w.cell? ⟨b,i,none⟩ = cs[i]?:=by
  unfold Blk at h
  simp [World.cell?,h]
theorem Blk.free {w : World} {b : Nat} {t : TypeId} {cs : Array Value} (h : Blk w b t cs) (i : Nat) : w.frozen? ⟨b,i,none⟩ = false:=by
  unfold Blk at h
  simp [World.frozen?,h]
theorem Blk.ne {w : World} {b b' : Nat} {t t' : TypeId} {cs cs' : Array Value} (h : Blk w b t cs) (h' : Blk w b' t' cs') (ht : t ≠ t') : b ≠ b':=by
  rintro rfl
  unfold Blk at h h'
  rw [h] at h'
  simp at h'
  exact ht h'.2
structure Upd (S : Nat → Prop) (w w' : World) : Prop where
  os : w'.os = w.os
  tape : w'.tape = w.tape
  output : w'.output = w.output
  size : w.heap.size ≤ w'.heap.size
  block : ∀ k,k < w.heap.size → ¬ S k → w'.heap[k]? = w.heap[k]?
theorem Upd.refl (S : Nat → Prop) (w : World) : Upd S w w:=⟨rfl,rfl,rfl,Nat.le_refl _,fun _ _ _=>rfl⟩
theorem Upd.trans {S : Nat → Prop} {a b c : World} (h : Upd S a b) (k : Upd S b c) : Upd S a c :=
  ⟨k.os.trans h.os,k.tape.trans h.tape,k.output.trans h.output,Nat.le_trans h.size k.size,fun i hi hS=>(k.block i (Nat.lt_of_lt_of_le hi h.size) hS).trans (h.block i hi hS)⟩
theorem Upd.mono {S T : Nat → Prop} {a b : World} (h : Upd S a b) (hST : ∀ k,k < a.heap.size → S k → T k) : Upd T a b :=
  ⟨h.os,h.tape,h.output,h.size,fun i hi hT=>h.block i hi fun hS=>hT (hST i hi hS)⟩
theorem Upd.extend {F T : Nat → Prop} {w wr w1 : World} (hU : Upd F w wr) (hT : Upd T wr w1) (h : ∀ q,T q → F q ∨ w.heap.size ≤ q) : Upd F w w1 :=
  ⟨hT.os.trans hU.os,hT.tape.trans hU.tape,hT.output.trans hU.output,Nat.le_trans hU.size hT.size,fun k hk hS=>(hT.block k (Nat.lt_of_lt_of_le hk hU.size) (fun e=>by
    rcases h k e with h | h
    · exact hS h
    · omega)).trans (hU.block k hk hS)⟩
theorem Upd.drewN (S : Nat → Prop) (w : World) (n : Nat) : Upd S w (w.drewN n):=⟨rfl,rfl,rfl,Nat.le_refl _,fun _ _ _=>rfl⟩
theorem Upd.drew (S : Nat → Prop) (w : World) : Upd S w w.drew:=⟨rfl,rfl,rfl,Nat.le_refl _,fun _ _ _=>rfl⟩
theorem Upd.alloc (S : Nat → Prop) (w : World) (o : Obj) : Upd S w (w.alloc o) :=
  ⟨rfl,rfl,rfl,by simp,fun k hk _=>Below.heap_alloc w o k hk⟩
theorem Upd.set {S : Nat → Prop} (w : World) (a : Addr) (u : Value) (ha : S a.block) : Upd S w (w.setCell a u) :=
  ⟨rfl,rfl,rfl,by simp [World.setCell],fun k _ hS=>Below.heap_setCell w a u k (fun e=>hS (e ▸ ha))⟩
theorem Upd.grown {S : Nat → Prop} {w w' : World} {row : Option Nat} (h : w.grownBy w' row) (hr : ∀ k,row = some k → S k) : Upd S w w' :=
  ⟨h.os,h.tape,h.output,h.size,fun k hk hS=>h.block k hk (fun e=>hS (hr k e.symm))⟩
theorem Upd.blk {S : Nat → Prop} {w w' : World} {b : Nat} {t : TypeId} {cs : Array Value} (h : Upd S w w') (hb : Blk w b t cs) (hS : ¬ S b) : Blk w' b t cs :=
  (h.block b hb.lt hS).trans hb
theorem Blk.new (w : World) (t : TypeId) (cs : Array Value) : Blk (w.alloc (.cells cs t)) w.heap.size t cs:=heap_alloc_new w _
theorem Blk.set {w : World} {b : Nat} {t : TypeId} {cs : Array Value} (h : Blk w b t cs) (i : Nat) (u : Value) : Blk (w.setCell ⟨b,i,none⟩ u) b t (cs.setIfInBounds i u):=by
  unfold Blk at h ⊢
  simp [World.setCell,Array.getElem?_modify,h]
theorem Upd.own {S : Nat → Prop} {w w' : World} {B : Nat} {e : TypeId} {size : Nat} {v : Value} {n : Nat} {xs : List Value} (h : Upd S w w') (ho : w.ownsRow B e size v n xs) (hS : ∀ k,v.ownBlock = some k → ¬ S k) :
    w'.ownsRow B e size v n xs:=by
  refine ⟨ho.1,?_⟩
  rcases ho.2 with hn | ⟨g,cap,cur,rfl,hb,hg,rest⟩
  · exact .inl hn
  · exact .inr ⟨g,cap,cur,rfl,hb,(h.block g (Array.getElem?_eq_some_iff.1 hg).1 (hS g rfl)).trans hg,rest⟩
theorem own_form {w : World} {B : Nat} {e : TypeId} {v : Value} {n : Nat} {xs : List Value} (h : w.ownsRow B e 1 v n xs) :
    ∃ A c,v = .slice A n c ∧ n ≤ c ∧ c ≤ maxLen ∧ xs.length = n ∧ (A = none → n = 0 ∧ c = 0) ∧
      ∀ g,v.ownBlock = some g → A = some ⟨g,0,none⟩ ∧ B ≤ g ∧ g < w.heap.size ∧ (∀ k,w.frozen? ⟨g,k,none⟩ = false) ∧ ∀ k u,xs[k]? = some u → w.cell? ⟨g,k,none⟩ = some u:=by
  obtain ⟨hl,h2⟩:=h
  rcases h2 with ⟨rfl,rfl⟩ | ⟨g,cap,cur,rfl,hb,hg,hnc,hcm,hcs,htake⟩
  · exact ⟨none,0,rfl,Nat.le_refl _,Nat.zero_le _,by simpa using hl,fun _=>⟨rfl,rfl⟩,fun g hg=>by simp [Value.ownBlock] at hg⟩
  · refine ⟨_,cap,rfl,hnc,hcm,by simpa using hl,fun h=>by simp at h,fun g' hg'=>?_⟩
    obtain rfl : g = g':=by simpa [Value.ownBlock] using hg'
    have hblk : Blk w g e cur:=hg
    refine ⟨rfl,hb,hblk.lt,fun k=>hblk.free k,fun k u hu=>?_⟩
    rw [hblk.cell k]
    rw [← htake,List.getElem?_take] at hu
    split at hu
    · simpa using hu
    · cases hu
theorem own_ne_blk {w : World} {B b : Nat} {e t : TypeId} {size : Nat} {v : Value} {n : Nat} {xs : List Value} {cs : Array Value} (h : w.ownsRow B e size v n xs) (hb : Blk w b t cs) (ht : e ≠ t) : ∀ k,v.ownBlock = some k → k ≠ b:=by
  intro k hk
  rcases h.2 with ⟨rfl,_⟩ | ⟨g,cap,cur,rfl,_,hg,_⟩
  · simp [Value.ownBlock] at hk
  · obtain rfl : g = k:=by simpa [Value.ownBlock] using hk
    exact Blk.ne (w:=w) (show Blk w g e cur from hg) hb ht
def Rd (w : World) (v : Value) (size n : Nat) (xs : List Value) : Prop :=
  ∃ A c,v = .slice A n c ∧ xs.length = n * size ∧ (A = none → n = 0 ∧ c = 0) ∧ (∀ ad,A = some ad → ∀ j u,xs[j]? = some u → w.cell? (ad.add j) = some u)
theorem Rd.of_own {w : World} {B : Nat} {e : TypeId} {v : Value} {n : Nat} {xs : List Value} (h : w.ownsRow B e 1 v n xs) : Rd w v 1 n xs:=by
  obtain ⟨A,c,rfl,_,_,hl,h0,hA⟩:=own_form h
  refine ⟨A,c,rfl,by simpa using hl,h0,fun ad had j u hu=>?_⟩
  subst had
  obtain ⟨e1,_,_,_,hc⟩:=hA ad.block rfl
  injection e1 with e1
  rw [e1,Addr.add_lit,Nat.zero_add]
  exact hc j u hu
theorem Rd.keep {S : Nat → Prop} {w w' : World} {v : Value} {size n : Nat} {xs : List Value} (h : Rd w v size n xs) (hu : Upd S w w') (hS : ∀ k,v.ownBlock = some k → ¬ S k) : Rd w' v size n xs:=by
  obtain ⟨A,c,rfl,hl,h0,hA⟩:=h
  refine ⟨A,c,rfl,hl,h0,fun ad had j u hj=>?_⟩
  have hc:=hA ad had j u hj
  have hb : (ad.add j).block = ad.block:=by unfold Addr.add; split <;> rfl
  have:=hu.block (ad.add j).block (World.block_lt_of_cell? w _ hc) (by rw [hb]; exact hS _ (by rw [had]; rfl))
  rw [World.cell?_of_block this]
  exact hc
theorem Rd.new1 (w : World) (u : Value) (t : TypeId) {g : Nat} (hg : g = w.heap.size) : Rd (w.alloc (.cells #[u] t)) (.slice (some ⟨g,0,none⟩) 1 1) 1 1 [u]:=by
  subst hg
  refine ⟨_,1,rfl,rfl,fun h=>by simp at h,fun ad had j x hx=>?_⟩
  obtain rfl:=Option.some.inj had
  rw [Addr.add_lit,Nat.zero_add,(Blk.new w t #[u]).cell]
  simpa using hx
structure ElemOk (P : Program) (t e : TypeId) (z : Value) (size bytes : Nat) : Prop where
  ht : P.underlying t = some (.slice e)
  hi : (P.info? e).map (fun i=>(i.zero,i.size,i.bytes)) = some (some z,size,bytes)
  hz : z.cells.size = size
  pos : 0 < size
theorem run_app {P : Program} {t e : TypeId} {z : Value} {size bytes : Nat} (E : ElemOk P t e z size bytes) (ty : TypeId) {w : World} {B : Nat} {v : Value} {n : Nat} {xs : List Value} (hown : w.ownsRow B e size v n xs)
    {u : Value} {m : Nat} {ys : List Value} (hr : Rd w u size m ys) (h1 : ∀ y ∈ ys,y.oneCell' = true) (hb : n + m ≤ 140737488355327) (hby : (n + m) * bytes ≤ 140737488355328) (hB : B ≤ w.heap.size) :
    ∃ v' w',(Builtin.append_ #[t,t] ty #[v,u]).run P w = .ok v' w' ∧ w'.ownsRow B e size v' (n + m) (xs ++ ys) ∧ Upd (fun k=>v.ownBlock = some k) w w' ∧ (v'.ownBlock = v.ownBlock ∨ v'.ownBlock = some w.heap.size) ∧ (v.ownBlock ≠ none → v'.ownBlock ≠ none):=by
  obtain ⟨ht,hi,hz,hpos⟩:=E
  obtain ⟨i,hi0,hi1,hi2,hi3⟩:=info_parts hi
  obtain ⟨A,c,rfl,hl,h0,hA⟩:=hr
  cases A with
  | none =>
    obtain ⟨rfl,rfl⟩:=h0 rfl
    have hy : ys = []:=List.eq_nil_of_length_eq_zero (by simpa using hl)
    subst hy
    exact ⟨v,w,run_append_owned_none (P:=P) w B t ty e i size ht hi0 v n xs hown,by simpa using hown,Upd.refl _ _,.inl rfl,id⟩
  | some ad =>
    obtain ⟨v',w',hrun,ho,hg,hnil,hat⟩:=run_append_own_at (P:=P) w B t ty e i z size bytes ht hi0 hi1 hi2 hi3 hz hpos v n xs hown ad m c ys hl (hA ad rfl) h1 (by unfold maxLen; omega) hby hB
    refine ⟨v',w',hrun,ho,Upd.grown hg (fun k hk=>hk),hat,fun hv=>?_⟩
    rcases hat with hat | hat <;> rw [hat]
    · exact hv
    · simp
theorem wpList_app {P : Program} {t e : TypeId} {z : Value} {size bytes : Nat} (E : ElemOk P t e z size bytes) {ops : Array Oper} {rest : List Oper} {o : Oper} {a : Act} {Q : Exit → Act → World → Prop} (hgd : o.guard = none) (s x : Operand)
    (ho : o.op = .call { callee:=.builtin .append,args:=#[s,x],argTypes:=#[t,t] }) {w : World} {B : Nat} {v : Value} {n : Nat} {xs : List Value} (hs : a.eval s = v) (hown : w.ownsRow B e size v n xs)
    {u : Value} {m : Nat} {ys : List Value} (hx : a.eval x = u) (hr : Rd w u size m ys) (h1 : ∀ y ∈ ys,y.oneCell' = true) (N : Nat) (hN : n + m = N) (hb : N ≤ 140737488355327) (hby : N * bytes ≤ 140737488355328) (hB : B ≤ w.heap.size)
    (K : ∀ A' c' w',w'.ownsRow B e size (.slice A' N c') N (xs ++ ys) → Upd (fun k=>v.ownBlock = some k) w w' → ((Value.slice A' N c').ownBlock = v.ownBlock ∨ (Value.slice A' N c').ownBlock = some w.heap.size) →
      (v.ownBlock ≠ none → (Value.slice A' N c').ownBlock ≠ none) → wpList P ops Q rest (a.put o.dst (.slice A' N c')) w') :
    wpList P ops Q (o :: rest) a w:=by
  subst hN
  refine wpList_plain hgd fun _ hK=>?_
  obtain ⟨v',w',hrun,h2,h3,h4,h5⟩:=run_app E o.type hown hr h1 hb hby hB
  have hv : ∃ A' c',v' = .slice A' (n + m) c':=by
    rcases h2.2 with ⟨rfl,h0⟩ | ⟨g,cap,cur,rfl,_⟩
    · exact ⟨none,0,by rw [h0]⟩
    · exact ⟨_,_,rfl⟩
  obtain ⟨A',c',rfl⟩:=hv
  unfold Oper.wp execOp
  simp only [ho,resolve,invoke,builtin,Sem.run_bind,Sem.run_pure,Result.andThen_ok,List.map_toArray,List.map_cons,List.map_nil,hs,hx,hrun]
  exact hK _ _ (K A' c' w' h2 h3 h4 h5)
theorem hide {p : Prop} (h : p) : Hid p:=h
end Go.Proofs.YtadbcnekkceoaaaGreatDoor.Mv
