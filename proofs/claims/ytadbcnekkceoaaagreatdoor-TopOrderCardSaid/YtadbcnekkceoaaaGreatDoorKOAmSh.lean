/- A written contract of a number of any size, held in parts. -/
import Derived.Test.YtadbcnekkceoaaaGreatDoorKOAmTa
set_option linter.unusedVariables false
namespace Go.Proofs.YtadbcnekkceoaaaGreatDoor
namespace Am
noncomputable section
def rngE (K : KTbl) (n g : Nat) (pre as : List AV) (c : Ct) (lo cnt : Nat) (k : Rz) : Rz:=Nat.rec (motive:=fun _=>Rz) k (fun e ih=>natP (Nat.add lo e) fun x=>tokC (ctChk K n g ⟨.agg (appR pre [.int .i64 (.ofNat x)]) :: as,c.L0,c.v,c.L1,c.fr⟩) ih) cnt
def chkR (K : KTbl) (n g lo cnt : Nat) (x : CL) : Rz:=litK x (fun a as L0 v L1 fr=>rngE K n g (aggR a) as ⟨[],L0,v,L1,fr⟩ lo cnt (some tok)) none
def chkT (K : KTbl) (n g N : Nat) (x : CL) : Rz:=litK x (fun a as L0 v L1 fr=>ctChk K n g ⟨.agg (appR (aggR a) [.ge N]) :: as,L0,v,L1,fr⟩) none
def segR (mk : List (Nat × Ct) → KTbl) (n : Nat) (rg : List (List TA)) (js : List Jb) (g lo cnt : Nat) (x : CL) : Rz:=rgtsC rg fun rg=>runJ mk n js [] rg fun t=>chkR (mk t) n g lo cnt x
def segT (mk : List (Nat × Ct) → KTbl) (n : Nat) (rg : List (List TA)) (js : List Jb) (g N : Nat) (x : CL) : Rz:=rgtsC rg fun rg=>runJ mk n js [] rg fun t=>chkT (mk t) n g N x
def EffOk (P : Program) (tb : Tb) (NN : Nat → Nat) (g : Nat) (x : CL) (e : AV) : Prop:=litK (ρ:=Prop) x (fun a as L0 v L1 fr=>CtOk P tb NN g ⟨.agg (appR (aggR a) [e]) :: as,L0,v,L1,fr⟩) False
section
variable {P : Program} {tb : Tb} {NN : Nat → Nat}
variable {mk : List (Nat × Ct) → KTbl}
theorem rngE_ok {K : KTbl} (hmix : P.follows .mixedOrders = true) (ok : TblOk P tb NN K.tbl) {n g lo : Nat} {pre as : List AV} {c : Ct} {k : Rz} {r : CRes} : ∀ N : Nat,rngE K n g pre as c lo N k = some r → ∀ e,lo ≤ e → e < lo + N → CtOk P tb NN g ⟨.agg (appR pre [.int .i64 (.ofNat e)]) :: as,c.L0,c.v,c.L1,c.fr⟩
  | 0,h=>fun e h1 h2=>by omega
  | N + 1,h=>fun e h1 h2=>by
    replace h : natP (Nat.add lo N) (fun x=>tokC (ctChk K n g ⟨.agg (appR pre [.int .i64 (.ofNat x)]) :: as,c.L0,c.v,c.L1,c.fr⟩) (rngE K n g pre as c lo N k)) = some r:=h
    rw [natP_eq] at h
    obtain ⟨⟨r',h3⟩,h4⟩:=tokC_ok h
    rcases Nat.lt_or_eq_of_le (Nat.le_of_lt_succ h2) with he | he
    · exact rngE_ok hmix ok N h4 e h1 he
    · subst he
      exact ct_ok hmix ok h3
theorem chkR_ok (hmix : P.follows .mixedOrders = true) {K : KTbl} (ok : TblOk P tb NN K.tbl) {n g lo cnt : Nat} {x : CL} {r : CRes} (h : chkR K n g lo cnt x = some r) : ∀ e,lo ≤ e → e < lo + cnt → EffOk P tb NN g x (.int .i64 (.ofNat e)):=fun e h1 h2=>by
  unfold chkR at h
  unfold EffOk
  rcases litK_tells (ρ:=Rz) (σ:=Prop) x with ⟨a,as,L0,v,L1,fr,g1,g2⟩ | ⟨g1,_⟩
  · rw [g1] at h
    rw [g2]
    exact rngE_ok hmix ok cnt h e h1 h2
  · rw [g1] at h; cases h
theorem chkT_ok (hmix : P.follows .mixedOrders = true) {K : KTbl} (ok : TblOk P tb NN K.tbl) {n g N : Nat} {x : CL} {r : CRes} (h : chkT K n g N x = some r) : EffOk P tb NN g x (.ge N):=by
  unfold chkT at h
  unfold EffOk
  rcases litK_tells (ρ:=Rz) (σ:=Prop) x with ⟨a,as,L0,v,L1,fr,g1,g2⟩ | ⟨g1,_⟩
  · rw [g1] at h
    rw [g2]
    exact ct_ok hmix ok h
  · rw [g1] at h; cases h
theorem segR_ok (hmix : P.follows .mixedOrders = true) (ok : ∀ tab,(∀ x,x ∈ tab → CtOk P tb NN x.1 x.2) → TblOk P tb NN (mk tab).tbl) {n : Nat} {rg : List (List TA)} {js : List Jb} {g lo cnt : Nat} {x : CL} {r : CRes} (h : segR mk n rg js g lo cnt x = some r) : ∀ e,lo ≤ e → e < lo + cnt → EffOk P tb NN g x (.int .i64 (.ofNat e)):=by
  obtain ⟨rg,h⟩:=rgtsC_ok _ _ _ h
  obtain ⟨tab',h1,h2⟩:=runJ_ok hmix ok js _ _ _ _ (fun _ q=>by cases q) h
  exact chkR_ok hmix (ok _ h1) h2
theorem segT_ok (hmix : P.follows .mixedOrders = true) (ok : ∀ tab,(∀ x,x ∈ tab → CtOk P tb NN x.1 x.2) → TblOk P tb NN (mk tab).tbl) {n : Nat} {rg : List (List TA)} {js : List Jb} {g N : Nat} {x : CL} {r : CRes} (h : segT mk n rg js g N x = some r) : EffOk P tb NN g x (.ge N):=by
  obtain ⟨rg,h⟩:=rgtsC_ok _ _ _ h
  obtain ⟨tab',h1,h2⟩:=runJ_ok hmix ok js _ _ _ _ (fun _ q=>by cases q) h
  exact chkT_ok hmix (ok _ h1) h2
theorem eff_join {g N : Nat} {x : CL} (hx : x.eff = true) (hr : ∀ e,e < N → EffOk P tb NN g x (.int .i64 (.ofNat e))) (ht : EffOk P tb NN g x (.ge N)) : CkL P tb NN g x:=by
  unfold CkL lit
  unfold EffOk at hr ht
  rcases litK_tells (ρ:=Prop) (σ:=Ct) x with ⟨a,as,L0,v,L1,fr,h1,h2⟩ | ⟨h1,_⟩
  · rw [h1] at ht
    rw [h2]
    have h5 : ∀ e,e < N → CtOk P tb NN g ⟨.agg (appR (aggR a) [.int .i64 (.ofNat e)]) :: as,L0,v,L1,fr⟩:=fun e he=>by
      have:=hr e he
      rw [h1] at this
      exact this
    rw [hx]
    refine ⟨?_,ht.one⟩
    have h7:=ht.cal
    rw [appR_eq] at h7
    exact CalOk.split (N:=N) (pre:=aggR a) (as:=as) (h:=Ct.h0 ⟨[],L0,v,L1,fr⟩) (r:=.ret v (Ct.h1 ⟨[],L0,v,L1,fr⟩) .no) (fun e he=>(h5 e he).cal) h7
  · rw [h1] at ht; exact ht.elim
end
end
end Am
end Go.Proofs.YtadbcnekkceoaaaGreatDoor
