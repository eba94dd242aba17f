/- 'free', walked. -/
import Derived.Test.YtadbcnekkceoaaaGreatDoorKOMvMM
import Derived.Scope
import Derived.WalkMore
import Derived.Outline
set_option linter.unusedVariables false
namespace Go.Proofs.YtadbcnekkceoaaaGreatDoor.Mv
open Go.RowKit
theorem Tryz.ints : ElemOk Tryz.prog 29 3 (.int .i64 0) 1 8:=⟨Tryz.underlying29,by kernel_rfl,rfl,by decide⟩
theorem Rd.get {w : World} {A : Option Addr} {n c : Nat} {xs : List Int} (h : Rd w (.slice A n c) 1 n (xs.map (.int .i64))) (hn : n = xs.length) {k : Nat} (hk : k < n) :
    ∃ gb go gs x,A = some ⟨gb,go,gs⟩ ∧ x = xs[k]'(by omega) ∧ w.cell? ((⟨gb,go,gs⟩ : Addr).add k) = some (.int .i64 x):=by
  obtain ⟨A1,c1,hv,_,hA0,hA⟩:=h
  injection hv with hv1 hv2 hv3
  subst hv1
  cases A with
  | none=>have:=hA0 rfl; omega
  | some ad=>exact ⟨ad.block,ad.off,ad.spot,_,rfl,rfl,hA ad rfl k _ (by rw [List.getElem?_map,List.getElem?_eq_getElem (by omega)]; rfl)⟩
theorem own_lt {w : World} {B e n size : Nat} {v : Value} {xs : List Value} (h : w.ownsRow B e size v n xs) {k : Nat} (hk : v.ownBlock = some k) : k < w.heap.size:=(h.lt k hk).2
theorem own_lo {w : World} {B e n size : Nat} {v : Value} {xs : List Value} (h : w.ownsRow B e size v n xs) {k : Nat} (hk : v.ownBlock = some k) : B ≤ k:=(h.lt k hk).1
theorem MapF.ne_own {w : World} {bm : Nat} {f : Int → Option Value} {B e size n : Nat} {v : Value} {xs : List Value} (h : MapF w bm f) (hb : w.ownsRow B e size v n xs) : ∀ k,v.ownBlock = some k → k ≠ bm:=by
  rintro k hk rfl
  obtain ⟨es,clock,h1,_⟩:=h
  rcases hb.2 with ⟨rfl,_⟩ | ⟨g,cap,cur,rfl,_,hg,_⟩
  · simp [Value.ownBlock] at hk
  · obtain rfl : g = k:=by simpa [Value.ownBlock] using hk
    rw [h1] at hg; cases hg
theorem MapIt.ne_own {w : World} {r bm : Nat} {ks : List Int} {B e size n : Nat} {v : Value} {xs : List Value} (h : MapIt w r bm ks) (hb : w.ownsRow B e size v n xs) : ∀ k,v.ownBlock = some k → k ≠ r ∧ k ≠ bm:=by
  intro k hk
  obtain ⟨es,clock,since,seen,c0,h1,_,h3,_⟩:=h
  rcases hb.2 with ⟨rfl,_⟩ | ⟨g,cap,cur,rfl,_,hg,_⟩
  · simp [Value.ownBlock] at hk
  · obtain rfl : g = k:=by simpa [Value.ownBlock] using hk
    refine ⟨?_,?_⟩
    · rintro rfl; rw [h3] at hg; cases hg
    · rintro rfl; rw [h1] at hg; cases hg
def setF (vs : List Int) : Int → Option Value:=fun j=>if vs.contains j then some (.bool true) else none
theorem setF_put (vs : List Int) (v : Int) : (fun j=>if j = v then some (Value.bool true) else setF vs j) = setF (vs ++ [v]):=by
  funext j
  unfold setF
  by_cases h : j = v
  · subst h; simp
  · simp [h]
theorem setF_get (vs : List Int) (j : Int) : (setF vs j).getD (.bool false) = .bool (vs.contains j):=by
  unfold setF
  cases h : vs.contains j <;> simp
def freeR (L : Wt) : Int × Bool :=
  match freeP L with
  | some p=>((p.1 : Int),true)
  | none=>((firstK L : Int),false)
def FreeN (w : World) (r : Int × Bool) (e : Ending) (w' : World) : Prop:=e = .returned (.tuple #[.int .i64 r.1,.bool r.2]) ∧ Upd (fun _=>False) w w'
def keysL (L : Wt) : List Int:=L.map fun p=>(p.1 : Int)
theorem keysL_len (L : Wt) : (keysL L).length = L.length:=by simp [keysL]
theorem sorted_keys {L : Wt} (hs : L.Pairwise fun a b=>a.1 < b.1) {ks : List Int} (hp : ks.Perm (keysL L)) : ks.mergeSort (fun x y=>decide (x ≤ y)) = keysL L:=by
  have hpw : (keysL L).Pairwise fun a b=>a < b:=by
    unfold keysL
    rw [List.pairwise_map]
    exact hs.imp fun h=>by omega
  refine List.Perm.eq_of_pairwise (le:=fun a b=>decide (a ≤ b) = true) (fun a b _ _ h1 h2=>by simp only [decide_eq_true_eq] at h1 h2; omega) (List.pairwise_mergeSort ?_ ?_ ks) (hpw.imp fun {a b} h=>by simp only [decide_eq_true_eq]; omega) ((List.mergeSort_perm ks _).trans hp)
  · intro a b c h1 h2; simp only [decide_eq_true_eq] at *; omega
  · intro a b; simp only [Bool.or_eq_true,decide_eq_true_eq]; omega
theorem keys_perm {L : Wt} (hs : L.Pairwise fun a b=>a.1 < b.1) {ks : List Int} (hn : ks.Nodup) (hm : ∀ k,k ∈ ks ↔ (lookF L k).isSome = true) : ks.Perm (keysL L):=by
  rw [List.perm_ext_iff_of_nodup hn]
  · intro k
    rw [hm k,lookF_isSome]; rfl
  · unfold keysL
    rw [List.nodup_iff_pairwise_ne,List.pairwise_map]
    exact hs.imp fun h=>by omega
theorem Tryz.zero4 (w : World) : (zeroValue 4).run Tryz.prog w = .ok (.bool false) w:=by kernel_rfl
theorem free_at {L : Wt} {i : Nat} {q : Nat × Int} (hi : L[i]? = some q) (hw : wants L q.1 = false) (hb : ∀ j p,j < i → L[j]? = some p → wants L p.1 = true) : freeR L = ((q.1 : Int),true):=by
  obtain ⟨hl,rfl⟩:=List.getElem?_eq_some_iff.1 hi
  have : freeP L = some L[i]:=by
    unfold freeP
    rw [List.find?_eq_some_iff_getElem]
    exact ⟨by simp [hw],i,hl,rfl,fun j hj=>by simp [hb j _ hj (List.getElem?_eq_getElem (by omega))]⟩
  unfold freeR
  rw [this]
theorem free_no {L : Wt} (hb : ∀ j p,j < L.length → L[j]? = some p → wants L p.1 = true) : freeR L = ((firstK L : Int),false):=by
  have : freeP L = none:=by
    unfold freeP
    rw [List.find?_eq_none]
    intro p hp
    obtain ⟨j,hj,rfl⟩:=List.getElem_of_mem hp
    simp [hb j _ hj (List.getElem?_eq_getElem hj)]
  unfold freeR
  rw [this]
set_option maxHeartbeats 2000000 in
theorem free_any {w : World} {mb : Nat} {L : Wt} (hm : MapF w mb (lookF L)) (hs : L.Pairwise fun a b=>a.1 < b.1) (hne : L ≠ []) (hl : L.length ≤ 1000) :
    Calls Tryz.prog 445 #[.map (some mb)] w (FreeN w (freeR L)):=by
  have hmm:=@run_makeMap Tryz.prog
  have hu0:=Upd.alloc (fun _=>False) w (.map #[] 0)
  have HM0:=hide (hm.keep hu0 (fun h=>h))
  have HW0:=hide (MapF.made w)
  have HU0:=hide hu0
  have HPK : Hid (∀ ks : List Int,ks.Nodup → (∀ j,j ∈ ks ↔ (lookF L j).isSome = true) → ks.Perm (keysL L)):=fun ks h1 h2=>keys_perm hs h1 h2
  have HMB : Hid (mb < w.heap.size):=hm.lt
  have HM:=hide hm
  have HS:=hide hs
  have HLL : Hid ((keysL L).length ≤ 1000):=by show _ ≤ _; rw [keysL_len]; exact hl
  have HNE:=hide hne
  have hs1 : (w.alloc (.map #[] 0)).heap.size = w.heap.size + 1:=by simp
  have HS1:=hide hs1
  clear hm hs hne hu0 hs1
  go_enter Tryz.func445,Tryz.ntmps445
  go_wp2_with (at_range; (refine wpList_mrange rfl (.tmp 11) rfl Tryz.underlying457 rfl HM0.out ?_; intro ks w3 hks1 hks2 hit hu3 hs3; have HIT:=hide hit; have HPR:=hide (HPK.out ks hks1 hks2); have HU3:=hide hu3; have HND:=hide hks1; clear hks1 hks2 hit hu3 hs3))
  clear HPK hmm
  rw [HS1.out] at HIT ⊢
  have HU4:=hide (HU0.out.trans HU3.out)
  have HW4:=hide (HW0.out.keep HU3.out (fun h=>h))
  obtain ⟨wb,hwb⟩ : ∃ wb,w.heap.size = wb:=⟨_,rfl⟩
  have HWB:=hide hwb
  rw [hwb] at HIT HW4 ⊢
  clear hwb HU3 HW0 HM0 HU0 HS1
  go_frame
  go_loopw [5] (fun l wr=>∃ (m : Nat) (A1 : Option Addr) (c1 : Nat) (old vs ks' : List Int),m ≤ old.length ∧ l = .slice A1 m c1 ∧ Hid (m = old.length) ∧ Hid (wr.ownsRow w.heap.size 3 1 (.slice A1 m c1) m (old.map (.int .i64))) ∧ Hid (MapF wr wb (setF vs)) ∧ Hid (MapIt wr (wb + 1) mb ks') ∧ Hid ((old ++ ks').Perm ks) ∧ Hid (Upd (fun _=>False) w wr) ∧ Hid (∀ v : Int,v ∈ vs ↔ ∃ p ∈ L,(p.1 : Int) ∈ old ∧ p.2 = v)) (fun _ wr=>leftW (wb + 1) wr)
  case atStart=>exact ⟨0,none,0,[],[],ks,Nat.zero_le _,rfl,rfl,World.ownsRow_nil _ _ _ _,HW4.out,HIT.out,List.Perm.refl _,HU4.out,fun v=>by simp⟩
  case round =>
    clear HIT HW4 HU4
    obtain ⟨m,A1,c1,old,vs,ks',hmo,rfl,HMO,HO,HW,HI,HP2,HU,HV⟩:=hrel
    have hlen : old.length + ks'.length ≤ 1000:=by have h1:=HP2.out.length_eq; have h2:=HPR.out.length_eq; have h3:=HLL.out; simp at h1; omega
    cases ks' with
    | nil =>
      have HPO : Hid (old.Perm (keysL L)):=by
        have h:=HP2.out
        rw [List.append_nil] at h
        exact h.trans HPR.out
      have HWT : Hid (∀ k : Nat,vs.contains (k : Int) = wants L k):=fun k=>by
        rw [Bool.eq_iff_iff,List.contains_iff_mem,HV.out]
        unfold wants
        rw [List.any_eq_true]
        constructor
        · rintro ⟨p,hp,_,h2⟩; exact ⟨p,hp,by simp [h2]⟩
        · rintro ⟨p,hp,h2⟩; exact ⟨p,hp,HPO.out.symm.subset (List.mem_map.2 ⟨p,hp,rfl⟩),by simpa using h2⟩
      have HSO:=hide (sort_any HO.out (by simp at hlen; omega))
      have HSR:=hide (sorted_keys HS.out HPO.out)
      have hml : m = L.length:=by rw [HMO.out,HPO.out.length_eq,keysL_len]
      have HML:=hide hml
      clear hlen HPO HV HP2 HPR hml
      go_wp2_with (first | (at_next; (refine wpList_mnext0 rfl (.tmp 12) rfl rfl HI.out ?_)) | (go_at_call 244; (refine HSO.out.mono ?_; rintro e w4 ⟨rfl,hown,hu4⟩; rw [HSR.out] at hown; have HO4:=hide hown; have HU4:=hide hu4; have HW5:=hide (HW.out.keep hu4 (fun e=>HW.out.ne_own HO.out _ e rfl)); clear hown hu4)))
      have HU5:=hide (HU.out.extend HU4.out fun q hq=>.inr (own_lo HO.out hq))
      have hm1000 : m ≤ 1000:=by rw [HML.out]; exact hl
      go_loop [28] (fun iv=>∃ i : Nat,i ≤ m ∧ iv = .int .i64 i ∧ Hid (∀ j p,j < i → L[j]? = some p → wants L p.1 = true)) (fun iv=>m - (intOf iv).toNat)
      case atStart=>exact ⟨0,Nat.zero_le _,rfl,fun j _ h=>absurd h (by omega)⟩
      case round =>
        obtain ⟨i,hi,rfl,HB⟩:=hrel
        have HRD:=hide (Rd.of_own HO4.out)
        have hmk : m = (keysL L).length:=by rw [keysL_len]; exact HML.out
        by_cases him : i < m
        · obtain ⟨gb,go,gs,x,rfl,hxe,hxc⟩:=HRD.out.get hmk him
          have hil : i < L.length:=by rw [← HML.out]; exact him
          obtain ⟨kx,kv,hq⟩ : ∃ kx kv,L[i]? = some (kx,kv):=⟨_,_,List.getElem?_eq_getElem hil⟩
          obtain rfl : x = (kx : Int):=by
            rw [hxe]
            simp only [keysL,List.getElem_map]
            rw [(List.getElem?_eq_some_iff.1 hq).2]
          have hget:=setF_get vs (kx : Int)
          rw [HWT.out] at hget
          have HGET:=hide hget
          have HQ:=hide hq
          clear hxe hmk hget hil hq
          cases hw : wants L kx
          · rw [hw] at HGET
            have HFR:=hide (free_at HQ.out hw HB.out)
            clear hw
            go_wp2_with (at_lookup; (refine wpList_look rfl (.tmp 32) (.tmp 33) false rfl Tryz.underlying190 Tryz.underlying3 (Tryz.zero4 _) rfl HW5.out rfl ?_; simp only [Bool.false_eq_true,if_false]; rw [HGET.out]))
            go_ret2
            rw [HFR.out]
            exact ⟨rfl,HU5.out⟩
          · rw [hw] at HGET
            have HWI:=hide hw
            clear hw
            go_wp2_with (at_lookup; (refine wpList_look rfl (.tmp 32) (.tmp 33) false rfl Tryz.underlying190 Tryz.underlying3 (Tryz.zero4 _) rfl HW5.out rfl ?_; simp only [Bool.false_eq_true,if_false]; rw [HGET.out]))
            go_round
            case rel =>
              refine ⟨i + 1,by omega,by go_num,fun j p hji hp=>?_⟩
              by_cases hji' : j < i
              · exact HB.out j p hji' hp
              · obtain rfl : j = i:=by omega
                rw [HQ.out] at hp
                injection hp with hp
                rw [← hp]
                exact HWI.out
            case measure=>simp [intOf]; omega
        · have HFR:=hide (free_no (L:=L) fun j p hj hp=>HB.out j p (by have:=HML.out; omega) hp)
          have h0 : 0 < m:=by rw [HML.out]; exact List.length_pos_iff.2 HNE.out
          obtain ⟨gb,go,gs,x,rfl,hxe,hxc⟩:=HRD.out.get hmk h0
          have hx0 : x = (firstK L : Int):=by
            rw [hxe]
            obtain ⟨v,r,hL⟩:=firstK_mem HNE.out
            have : keysL L = (firstK L : Int) :: keysL r:=by
              rw [show keysL L = keysL ((firstK L,v) :: r) from congrArg keysL hL]; rfl
            simp only [this]; rfl
          subst hx0
          rw [show (⟨gb,go,gs⟩ : Addr).add 0 = ⟨gb,go,gs⟩ by simp [Addr.add]] at hxc
          clear hxe hmk
          go_wp2_with fail
          go_ret2
          rw [HFR.out]
          exact ⟨rfl,HU5.out⟩
    | cons y ys =>
      have hwr:=HU.out.size
      have hlft:=HI.out.left
      simp only [List.length_cons] at hlen
      go_step
      go_step
      first | at_next | (go_step; at_next)
      refine wpList_mnext1 rfl (.tmp 12) rfl rfl HI.out ?_
      intro kk v ks2 w4 hp hit hu4 hen hval
      have HV4:=hide (hval _ ((HM.out.keep HU.out (fun h=>h))))
      obtain ⟨q,hqm,hqk,rfl⟩:=lookF_some HV4.out
      have HI4:=hide hit
      have HO4:=hide (hu4.own HO.out (fun q hq e=>(HI.out.ne_own HO.out q hq).1 e))
      have hmb : mb ≠ wb:=by have h1:=HMB.out; have h2:=HWB.out; omega
      have hwbl : w.heap.size ≤ wb + 1:=by have:=HWB.out; omega
      have HU4:=hide (HU.out.extend hu4 fun q hq=>.inr (by omega))
      have hw4:=hu4.size
      have HW4:=hide (HW.out.keep hu4 (by omega))
      have HPQ : Hid (((old ++ [kk]) ++ ks2).Perm ks):=by
        show List.Perm _ _
        rw [List.append_assoc]
        exact (hp.append_left old).trans HP2.out
      have hlq : Hid (ks2.length < (y :: ys).length):=by have:=hp.length_eq; show _ < _; rw [← this]; simp
      have HLF : Hid (ks2.length < leftW (wb + 1) wr):=by show _ < _; rw [hlft]; exact hlq.out
      have HPUT:=hide (setF_put vs q.2)
      have HQM:=hide hqm
      have HQK:=hide hqk
      obtain ⟨vv,hvv⟩ : ∃ vv,q.2 = vv:=⟨_,rfl⟩
      rw [hvv] at HPUT hen ⊢
      have HVV:=hide hvv
      clear hp hit hu4 hval hqm hqk hlft hvv HV4
      go_wp2_with (first | (at_mapUpdate; (refine wpList_put (u:=.bool true) rfl (.tmp 18) (.tmp 19) (.const (.bool true)) rfl Tryz.underlying190 Tryz.underlying3 rfl HW4.out rfl rfl ?_; intro w5 hmf5 hu5; rw [HPUT.out] at hmf5; have HW5:=hide hmf5; have HO5:=hide (hu5.own HO4.out (fun q hq e=>HW4.out.ne_own HO4.out q hq e)); have HI5:=hide (HI4.out.keep hu5 (fun e=>Nat.succ_ne_self wb e) (fun e=>hmb e)); have HU5:=hide (HU4.out.extend hu5 fun q hq=>.inr (by have:=HWB.out; omega)); have hw5:=hu5.size; have HA5:=hide ((Upd.alloc (fun _=>False) w5 (.cells #[.int .i64 kk] 3)).own HO5.out (fun _ _ h=>h)); clear hmf5 hu5)) | (at_builtin; (refine wpList_app (v:=.slice A1 m c1) (u:=.slice (some ⟨w5.heap.size,0,none⟩) 1 1) Tryz.ints rfl (.tmp 20) (.tmp 22) rfl rfl HA5.out rfl (Rd.new1 _ (.int .i64 kk) 3 rfl) (by simp [Value.oneCell']) (m + 1) rfl (by omega) (by omega) (by simp; omega) ?_; intro A6 c6 w6 own6 u6 at6 ne6; have HO6:=hide own6; have HU6:=hide u6; have HI6:=hide ((HI5.out.keep (Upd.alloc (fun _=>False) w5 (.cells #[.int .i64 kk] 3)) (fun h=>h) (fun h=>h)).keep u6 (fun h=>(HI5.out.ne_own HO5.out _ h).1 rfl) (fun h=>(HI5.out.ne_own HO5.out _ h).2 rfl)); clear own6 u6 at6 ne6)))
      go_roundw
      case rel =>
        have hal:=Upd.alloc (fun _=>False) w5 (.cells #[.int .i64 kk] 3)
        refine ⟨m + 1,A6,c6,old ++ [kk],vs ++ [vv],ks2,by simp; omega,rfl,?_,?_,?_,?_,HPQ.out,?_,?_⟩
        · show _ = _; rw [HMO.out]; simp
        · have h:=HO6.out
          show World.ownsRow _ _ _ _ _ _ _
          rw [List.map_append]
          exact h
        · exact (HW5.out.keep hal (fun h=>h)).keep HU6.out (fun e=>HW5.out.ne_own HO5.out _ e rfl)
        · exact HI6.out
        · exact (HU5.out.trans hal).extend HU6.out fun q hq=>.inr (own_lo HO5.out hq)
        · intro v
          rw [List.mem_append,HV.out,List.mem_singleton]
          constructor
          · rintro (⟨p,h1,h2,h3⟩ | rfl)
            · exact ⟨p,h1,List.mem_append_left _ h2,h3⟩
            · exact ⟨q,HQM.out,by rw [HQK.out]; simp,HVV.out⟩
          · rintro ⟨p,h1,h2,h3⟩
            rcases List.mem_append.1 h2 with h2 | h2
            · exact .inl ⟨p,h1,h2,h3⟩
            · right
              have e1:=lookF_mem HS.out h1
              have e2:=lookF_mem HS.out HQM.out
              rw [HQK.out] at e2
              rw [List.mem_singleton.1 h2,e2] at e1
              injection e1 with e1
              injection e1 with _ e1
              rw [← h3,← e1]
              exact HVV.out
      case measure=>rw [HI6.out.left]; exact HLF.out
end Go.Proofs.YtadbcnekkceoaaaGreatDoor.Mv
