/- Moves, plain. -/
import GoSem.Core.Value
set_option linter.unusedVariables false
namespace Go.Proofs.YtadbcnekkceoaaaGreatDoor.Mv
abbrev Wt:=List (Nat × Int)
def wants (L : Wt) (k : Nat) : Bool:=L.any fun p=>p.2 == (k : Int)
def freeP (L : Wt) : Option (Nat × Int):=L.find? fun p=>!wants L p.1
def cutL (L : Wt) (k : Nat) : Wt:=L.filter fun q=>q.1 != k
def turnL (L : Wt) (k : Nat) (s : Int) : Wt:=L.map fun q=>(q.1,if q.2 = (k : Int) then s else q.2)
def firstK (L : Wt) : Nat:=(L.headD (0,0)).1
def stepM (s : Int) (L : Wt) : (Int × Int) × Wt :=
  match freeP L with
  | some p=>(((p.1 : Int),p.2),cutL L p.1)
  | none=>((s,(firstK L : Int)),turnL L (firstK L) s)
def runM (s : Int) : Nat → Wt → List (Int × Int)
  | 0,_=>[]
  | n + 1,L=>if L.isEmpty then [] else (stepM s L).1 :: runM s n (stepM s L).2
def allM (s : Int) (L : Wt) : List (Int × Int):=runM s (2 * L.length + 1) L
structure WOk (s : Int) (L : Wt) : Prop where
  sort : L.Pairwise fun a b=>a.1 < b.1
  lt : ∀ p ∈ L,(p.1 : Int) < s
  noself : ∀ p ∈ L,p.2 ≠ (p.1 : Int)
  rng : ∀ p ∈ L,0 ≤ p.2 ∧ p.2 ≤ 1000000
def mu (L : Wt) : Nat:=2 * L.length + if (freeP L).isSome then 0 else 1
theorem mu_le (L : Wt) : mu L ≤ 2 * L.length + 1:=by unfold mu; split <;> omega
theorem freeP_mem {L : Wt} {p : Nat × Int} (h : freeP L = some p) : p ∈ L ∧ wants L p.1 = false:=by
  unfold freeP at h
  exact ⟨List.mem_of_find?_eq_some h,by have:=List.find?_some h; simpa using this⟩
theorem cutL_lt {L : Wt} {p : Nat × Int} (hp : p ∈ L) : (cutL L p.1).length < L.length:=by
  unfold cutL
  have h1:=List.length_filter_le (fun q : Nat × Int=>q.1 != p.1) L
  rcases Nat.lt_or_ge (L.filter fun q=>q.1 != p.1).length L.length with h | h
  · exact h
  · have:=(List.length_filter_eq_length_iff).1 (Nat.le_antisymm h1 h) p hp
    simp at this
theorem firstK_mem {L : Wt} (h : L ≠ []) : ∃ v r,L = (firstK L,v) :: r:=by
  cases L with
  | nil=>exact absurd rfl h
  | cons p L=>exact ⟨p.2,L,rfl⟩
theorem turn_unwanted {s : Int} {L : Wt} {k : Nat} (hk : (k : Int) < s) : wants (turnL L k s) k = false:=by
  unfold wants turnL
  rw [List.any_eq_false]
  intro p hp
  obtain ⟨q,hq,rfl⟩:=List.mem_map.1 hp
  simp only [beq_iff_eq]
  split <;> omega
theorem turn_free {s : Int} {L : Wt} (h : WOk s L) (hne : L ≠ []) : freeP (turnL L (firstK L) s) = some (firstK L,(turnL L (firstK L) s).headD (0,0) |>.2):=by
  obtain ⟨v,r,hL⟩:=firstK_mem hne
  have hlt : ((firstK L : Nat) : Int) < s:=h.lt (firstK L,v) (by rw [hL]; simp [firstK])
  have hu:=turn_unwanted (L:=L) hlt
  generalize firstK L = k at *
  subst hL
  unfold freeP
  generalize hT : turnL ((k,v) :: r) k s = T at hu
  have hT2 : T = (k,if v = (k : Int) then s else v) :: turnL r k s:=by rw [← hT]; rfl
  rw [hT2,List.find?_cons_of_pos]
  · rfl
  · rw [hT2] at hu
    simp [hu]
theorem turn_isSome {s : Int} {L : Wt} (h : WOk s L) (hne : L ≠ []) : (freeP (turnL L (firstK L) s)).isSome = true:=by rw [turn_free h hne]; rfl
theorem WOk.cut {s : Int} {L : Wt} (h : WOk s L) (k : Nat) : WOk s (cutL L k) :=
  ⟨h.sort.sublist List.filter_sublist,fun p hp=>h.lt p (List.mem_filter.1 hp).1,fun p hp=>h.noself p (List.mem_filter.1 hp).1,fun p hp=>h.rng p (List.mem_filter.1 hp).1⟩
theorem WOk.turn {s : Int} {L : Wt} (h : WOk s L) (hs : s ≤ 1000000) (k : Nat) : WOk s (turnL L k s):=by
  refine ⟨?_,fun p hp=>?_,fun p hp=>?_,fun p hp=>?_⟩
  · unfold turnL
    rw [List.pairwise_map]
    exact h.sort
  · obtain ⟨q,hq,rfl⟩:=List.mem_map.1 hp
    exact h.lt q hq
  · obtain ⟨q,hq,rfl⟩:=List.mem_map.1 hp
    have h1:=h.lt q hq
    have h2:=h.noself q hq
    dsimp only
    split <;> omega
  · obtain ⟨q,hq,rfl⟩:=List.mem_map.1 hp
    have h1:=h.lt q hq
    have h2:=h.rng q hq
    dsimp only
    split <;> omega
theorem WOk.step {s : Int} {L : Wt} (h : WOk s L) (hs : s ≤ 1000000) : WOk s (stepM s L).2:=by
  unfold stepM
  split
  · exact h.cut _
  · exact h.turn hs _
theorem mu_step {s : Int} {L : Wt} (h : WOk s L) (hne : L ≠ []) : mu (stepM s L).2 < mu L:=by
  unfold stepM
  cases hf : freeP L with
  | some p =>
    have h1:=cutL_lt (freeP_mem hf).1
    have h2:=mu_le (cutL L p.1)
    have h3 : mu L = 2 * L.length:=by unfold mu; rw [hf]; rfl
    show mu (cutL L p.1) < mu L
    omega
  | none =>
    have h1:=turn_isSome h hne
    show mu (turnL L (firstK L) s) < mu L
    unfold mu
    rw [hf,if_pos h1]
    simp [turnL]
structure MvSt (s : Int) (L0 : Wt) (pre : List (Int × Int)) (L : Wt) : Prop where
  ok : WOk s L
  all : ∃ fuel,mu L ≤ fuel ∧ pre ++ runM s fuel L = allM s L0
  len : pre.length + mu L ≤ 2 * L0.length + 1
theorem MvSt.start {s : Int} {L : Wt} (h : WOk s L) : MvSt s L [] L:=⟨h,⟨2 * L.length + 1,mu_le L,rfl⟩,by have:=mu_le L; simpa using this⟩
theorem MvSt.next {s : Int} {L0 L : Wt} {pre : List (Int × Int)} (h : MvSt s L0 pre L) (hs : s ≤ 1000000) (hne : L ≠ []) : MvSt s L0 (pre ++ [(stepM s L).1]) (stepM s L).2:=by
  have hm:=mu_step h.ok hne
  refine ⟨h.ok.step hs,?_,?_⟩
  · obtain ⟨fuel,h1,h2⟩:=h.all
    obtain ⟨f,rfl⟩ : ∃ f,fuel = f + 1:=⟨fuel - 1,by omega⟩
    refine ⟨f,by omega,?_⟩
    rw [← h2,runM,if_neg (by simpa using hne),List.append_assoc]
    rfl
  · have:=h.len
    rw [List.length_append]
    simp; omega
theorem MvSt.done {s : Int} {L0 : Wt} {pre : List (Int × Int)} (h : MvSt s L0 pre []) : pre = allM s L0:=by
  obtain ⟨fuel,_,h2⟩:=h.all
  rw [← h2]
  cases fuel with
  | zero=>simp [runM]
  | succ n=>simp [runM]
def leftTo (src : List Int) (k : Nat) : Wt:=((List.range k).filter fun i=>decide (src.getD i 0 ≠ (i : Int))).map fun i=>(i,src.getD i 0)
theorem leftTo_succ (src : List Int) (k : Nat) : leftTo src (k + 1) = if src.getD k 0 ≠ (k : Int) then leftTo src k ++ [(k,src.getD k 0)] else leftTo src k:=by
  unfold leftTo
  rw [List.range_succ,List.filter_append,List.map_append]
  by_cases h : src.getD k 0 ≠ (k : Int)
  · rw [if_pos h,List.filter_cons,if_pos (by simpa using h)]; rfl
  · rw [if_neg h,List.filter_cons,if_neg (by simpa using h)]; simp
theorem leftTo_mem {src : List Int} {k : Nat} {p : Nat × Int} : p ∈ leftTo src k ↔ p.1 < k ∧ p.2 = src.getD p.1 0 ∧ p.2 ≠ (p.1 : Int):=by
  unfold leftTo
  rw [List.mem_map]
  constructor
  · rintro ⟨i,hi,rfl⟩
    obtain ⟨h1,h2⟩:=List.mem_filter.1 hi
    exact ⟨List.mem_range.1 h1,rfl,by simpa using h2⟩
  · rintro ⟨h1,h2,h3⟩
    refine ⟨p.1,List.mem_filter.2 ⟨List.mem_range.2 h1,?_⟩,?_⟩
    · rw [h2] at h3; simpa using h3
    · rw [← h2]
theorem leftTo_sort (src : List Int) (k : Nat) : (leftTo src k).Pairwise fun a b=>a.1 < b.1:=by
  unfold leftTo
  rw [List.pairwise_map]
  exact (List.pairwise_lt_range).sublist List.filter_sublist
theorem leftTo_len (src : List Int) (k : Nat) : (leftTo src k).length ≤ k:=by
  unfold leftTo
  rw [List.length_map]
  exact Nat.le_trans (List.length_filter_le _ _) (by simp)
def badV (s x : Int) : Bool:=decide (x < 0) || decide (1000000 < x) || x == s
def badF (src : List Int) (s : Int) : Bool:=decide (1000 < src.length) || decide (s < src.length) || decide (1000000 < s) || src.any (badV s)
theorem leftTo_ok {src : List Int} {s : Int} (h : badF src s = false) : WOk s (leftTo src src.length) ∧ src.length ≤ 1000 ∧ s ≤ 1000000 ∧ (src.length : Int) ≤ s:=by
  unfold badF at h
  simp only [Bool.or_eq_false_iff,decide_eq_false_iff_not,List.any_eq_false,Bool.not_eq_true] at h
  obtain ⟨⟨⟨h1,h2⟩,h3⟩,h4⟩:=h
  refine ⟨⟨leftTo_sort _ _,fun p hp=>?_,fun p hp=>(leftTo_mem.1 hp).2.2,fun p hp=>?_⟩,by omega,by omega,by omega⟩
  · have:=(leftTo_mem.1 hp).1; omega
  · obtain ⟨g1,g2,_⟩:=leftTo_mem.1 hp
    have : badV s (src.getD p.1 0) = false:=by
      rw [List.getD_eq_getElem?_getD,List.getElem?_eq_getElem g1]
      exact h4 _ (List.getElem_mem g1)
    rw [← g2] at this
    unfold badV at this
    simp only [Bool.or_eq_false_iff,decide_eq_false_iff_not] at this
    omega
def orderR (src : List Int) (s : Int) : Option (List (Int × Int)):=if badF src s then none else some (allM s (leftTo src src.length))
end Go.Proofs.YtadbcnekkceoaaaGreatDoor.Mv
