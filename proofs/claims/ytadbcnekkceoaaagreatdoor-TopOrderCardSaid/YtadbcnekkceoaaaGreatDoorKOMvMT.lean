/- 'told', walked. -/
import Derived.Test.YtadbcnekkceoaaaGreatDoorKOMvMF
import Derived.RangeFuncRecord
import Derived.RangeFuncBound
import Derived.OwnWalkIn
import Derived.TacticsInMore
import Derived.LoopIn
set_option linter.unusedVariables false
namespace Go.Proofs.YtadbcnekkceoaaaGreatDoor.Mv
open Go.RowKit
attribute [local go_sem] Oper.semAt_some
def mcells (pre : List (Int × Int)) : List Value:=pre.flatMap fun x=>[.int .i64 x.1,.int .i64 x.2]
theorem mcells_snoc (pre : List (Int × Int)) (x : Int × Int) : mcells (pre ++ [x]) = mcells pre ++ [.int .i64 x.1,.int .i64 x.2]:=by simp [mcells]
structure OutW (B l D ob : Nat) (r : Loop) (pre : List (Int × Int)) (v : Value) (W : World) : Prop where
  lp : W.heap[l]? = some (.loop r)
  df : W.heap[D]? = some (.deferred (some []))
  box : Blk W ob 412 #[v]
  row : W.ownsRow B 416 2 v pre.length (mcells pre)
section
variable {B l D ob : Nat} {r : Loop} {pre : List (Int × Int)} {v : Value} {W W' : World}
theorem OutW.lt_l (h : OutW B l D ob r pre v W) : l < W.heap.size:=(Array.getElem?_eq_some_iff.1 h.lp).1
theorem OutW.lt_D (h : OutW B l D ob r pre v W) : D < W.heap.size:=(Array.getElem?_eq_some_iff.1 h.df).1
theorem OutW.keep {S : Nat → Prop} (h : OutW B l D ob r pre v W) (hu : Upd S W W') (h1 : ¬ S l) (h2 : ¬ S D) (h3 : ¬ S ob) (h4 : ∀ k,v.ownBlock = some k → ¬ S k) : OutW B l D ob r pre v W' :=
  ⟨(hu.block l h.lt_l h1).trans h.lp,(hu.block D h.lt_D h2).trans h.df,hu.blk h.box h3,hu.own h.row h4⟩
theorem OutW.same (h : OutW B l D ob r pre v W) (hu : Upd (fun _=>False) W W') : OutW B l D ob r pre v W':=h.keep hu (fun h=>h) (fun h=>h) (fun h=>h) (fun _ _ h=>h)
theorem own_obj {B e size n : Nat} {v : Value} {xs : List Value} (h : W.ownsRow B e size v n xs) {k : Nat} (hk : v.ownBlock = some k) : ∃ cs,W.heap[k]? = some (.cells cs e (0,0)):=by
  rcases h.2 with ⟨rfl,_⟩ | ⟨g,cap,cur,rfl,_,hg,_⟩
  · simp [Value.ownBlock] at hk
  · obtain rfl : g = k:=by simpa [Value.ownBlock] using hk
    exact ⟨cur,hg⟩
theorem OutW.beside (h : OutW B l D ob r pre v W) {q : Nat} {o : Obj} (hq : W.heap[q]? = some o) (ho : (match o with | .map _ _=>true | .mapIter _ _ _ _=>true | _=>false) = true) (hu : Upd (fun k=>k = q) W W') : OutW B l D ob r pre v W':=by
  refine h.keep hu ?_ ?_ ?_ ?_
  · rintro rfl; rw [h.lp] at hq; injection hq with hq; subst hq; simp at ho
  · rintro rfl; rw [h.df] at hq; injection hq with hq; subst hq; simp at ho
  · rintro rfl; have:=h.box; unfold Blk at this; rw [this] at hq; injection hq with hq; subst hq; simp at ho
  · rintro k hk rfl
    obtain ⟨cs,hc⟩:=own_obj h.row hk
    rw [hc] at hq; injection hq with hq; subst hq; simp at ho
theorem OutW.beside_map (h : OutW B l D ob r pre v W) {q : Nat} {f : Int → Option Value} (hm : MapF W q f) (hu : Upd (fun k=>k = q) W W') : OutW B l D ob r pre v W':=by
  obtain ⟨es,clock,hb,_⟩:=hm
  exact h.beside hb rfl hu
theorem OutW.beside_it (h : OutW B l D ob r pre v W) {q b : Nat} {ks : List Int} (hm : MapIt W q b ks) (hu : Upd (fun k=>k = q) W W') : OutW B l D ob r pre v W':=by
  obtain ⟨es,clock,since,seen,c0,_,_,h3,_⟩:=hm
  exact h.beside h3 rfl hu
theorem OutW.lo (h : OutW B l D ob r pre v W) (h1 : B ≤ l) (h2 : B ≤ ob) {q : Nat} (hq : q = l ∨ q = ob ∨ v.ownBlock = some q) : B ≤ q:=by
  rcases hq with rfl | rfl | hq
  · exact h1
  · exact h2
  · exact own_lo h.row hq
end
structure ItW (tb sb mb : Nat) (s : Int) (L : Wt) (W : World) : Prop where
  tbox : Blk W tb 457 #[.map (some mb)]
  sbox : Blk W sb 3 #[.int .i64 s]
  map : MapF W mb (lookF L)
theorem ItW.keep {tb sb mb : Nat} {s : Int} {L : Wt} {W W' : World} {S : Nat → Prop} (h : ItW tb sb mb s L W) (hu : Upd S W W') (h1 : ¬ S tb) (h2 : ¬ S sb) (h3 : ¬ S mb) : ItW tb sb mb s L W' :=
  ⟨hu.blk h.tbox h1,hu.blk h.sbox h2,h.map.keep hu h3⟩
theorem ItW.same {tb sb mb : Nat} {s : Int} {L : Wt} {W W' : World} (h : ItW tb sb mb s L W) (hu : Upd (fun _=>False) W W') : ItW tb sb mb s L W':=h.keep hu (fun h=>h) (fun h=>h) (fun h=>h)
theorem ItW.round {tb sb mb : Nat} {s : Int} {L : Wt} {B l D ob : Nat} {r : Loop} {pre : List (Int × Int)} {v : Value} {W W' : World} (h : ItW tb sb mb s L W) (ho : OutW B l D ob r pre v W) (hu : Upd (fun q=>q = l ∨ q = ob ∨ v.ownBlock = some q) W W') : ItW tb sb mb s L W':=by
  have hne : ∀ (q : Nat) (o : Obj),W.heap[q]? = some o → (match o with | .map _ _=>true | .cells _ t _=>t == 457 || t == 3 | _=>false) = true → ¬ (q = l ∨ q = ob ∨ v.ownBlock = some q):=by
    rintro q o hq hoo (rfl | rfl | hk)
    · rw [ho.lp] at hq; injection hq with hq; subst hq; simp at hoo
    · have:=ho.box; unfold Blk at this; rw [this] at hq; injection hq with hq; subst hq; simp at hoo
    · obtain ⟨cs,hc⟩:=own_obj ho.row hk
      rw [hc] at hq; injection hq with hq; subst hq; simp at hoo
  obtain ⟨es,clock,hb,_⟩:=h.map
  exact h.keep hu (hne tb _ h.tbox rfl) (hne sb _ h.sbox rfl) (hne mb _ hb rfl)
structure RingW (B l D ob : Nat) (r : Loop) (pre : List (Int × Int)) (v : Value) (tb sb mB mb : Nat) (s : Int) (k : Nat) (W : World) : Prop where
  out : OutW B l D ob r pre v W
  tbox : Blk W tb 457 #[.map (some mb)]
  sbox : Blk W sb 3 #[.int .i64 s]
  bx : Blk W mB 416 #[.int .i64 s,.int .i64 (k : Int)]
section
variable {B l D ob : Nat} {r : Loop} {pre : List (Int × Int)} {v : Value} {tb sb mB mb : Nat} {s : Int} {k : Nat} {W W' : World}
theorem RingW.same (h : RingW B l D ob r pre v tb sb mB mb s k W) (hu : Upd (fun _=>False) W W') : RingW B l D ob r pre v tb sb mB mb s k W' :=
  ⟨h.out.same hu,hu.blk h.tbox (fun h=>h),hu.blk h.sbox (fun h=>h),hu.blk h.bx (fun h=>h)⟩
theorem Blk.beside {W W' : World} {b q : Nat} {t : TypeId} {cs : Array Value} (h : Blk W b t cs) {o : Obj} (hq : W.heap[q]? = some o) (ho : (match o with | .map _ _=>true | .mapIter _ _ _ _=>true | _=>false) = true) (hu : Upd (fun k=>k = q) W W') : Blk W' b t cs :=
  hu.blk h (by rintro rfl; unfold Blk at h; rw [h] at hq; injection hq with hq; subst hq; simp at ho)
theorem RingW.beside_map (h : RingW B l D ob r pre v tb sb mB mb s k W) {q : Nat} {f : Int → Option Value} (hm : MapF W q f) (hu : Upd (fun k=>k = q) W W') : RingW B l D ob r pre v tb sb mB mb s k W':=by
  obtain ⟨es,clock,hb,_⟩:=hm
  exact ⟨h.out.beside hb rfl hu,h.tbox.beside hb rfl hu,h.sbox.beside hb rfl hu,h.bx.beside hb rfl hu⟩
theorem RingW.beside_it (h : RingW B l D ob r pre v tb sb mB mb s k W) {q b : Nat} {ks : List Int} (hm : MapIt W q b ks) (hu : Upd (fun k=>k = q) W W') : RingW B l D ob r pre v tb sb mB mb s k W':=by
  obtain ⟨es,clock,since,seen,c0,_,_,h3,_⟩:=hm
  exact ⟨h.out.beside h3 rfl hu,h.tbox.beside h3 rfl hu,h.sbox.beside h3 rfl hu,h.bx.beside h3 rfl hu⟩
end
theorem MapIt.ne_map {w : World} {r b : Nat} {ks : List Int} (h : MapIt w r b ks) : b ≠ r:=by
  rintro rfl
  obtain ⟨es,clock,since,seen,c0,h1,_,h3,_⟩:=h
  rw [h1] at h3; cases h3
theorem lookF_inj {L L' : Wt} (hs : L.Pairwise fun a b=>a.1 < b.1) (hs' : L'.Pairwise fun a b=>a.1 < b.1) (h : lookF L = lookF L') : L = L':=by
  have hm : ∀ {L L' : Wt},L.Pairwise (fun a b=>a.1 < b.1) → lookF L = lookF L' → ∀ p ∈ L,p ∈ L':=by
    intro L L' hs h p hp
    have h1:=lookF_mem hs hp
    rw [h] at h1
    obtain ⟨q,hq,e1,e2⟩:=lookF_some h1
    have : p = q:=by
      refine Prod.ext ?_ ?_
      · omega
      · injection e2
    rw [this]; exact hq
  have hn : ∀ {L : Wt},L.Pairwise (fun a b=>a.1 < b.1) → L.Nodup:=fun hs=>hs.imp fun h e=>by rw [e] at h; omega
  have hp : L.Perm L':=(List.perm_ext_iff_of_nodup (hn hs) (hn hs')).2 fun p=>⟨hm hs h p,hm hs' h.symm p⟩
  refine hp.eq_of_pairwise (le:=fun a b=>decide (a.1 < b.1 ∨ a = b) = true) (fun a b _ _ h1 h2=>?_) (hs.imp fun h=>by simp [h]) (hs'.imp fun h=>by simp [h])
  simp only [decide_eq_true_eq] at h1 h2
  rcases h1 with h1 | h1
  · rcases h2 with h2 | h2
    · omega
    · exact h2.symm
  · exact h1
noncomputable def muW (mb : Nat) (W : World) : Nat:=@dite Nat (∃ L : Wt,L.Pairwise (fun a b=>a.1 < b.1) ∧ MapF W mb (lookF L)) (Classical.propDecidable _) (fun h=>mu (Classical.choose h)) (fun _=>0)
theorem MapF.one {w : World} {b : Nat} {f f' : Int → Option Value} (h : MapF w b f) (h' : MapF w b f') : f = f':=by
  obtain ⟨es,clock,hb,_,_,hf⟩:=h
  obtain ⟨es',clock',hb',_,_,hf'⟩:=h'
  rw [hb] at hb'
  injection hb' with hb'
  injection hb' with h1 h2
  subst h1
  funext k
  rw [hf,hf']
theorem muW_eq {mb : Nat} {W : World} {L : Wt} (hs : L.Pairwise fun a b=>a.1 < b.1) (h : MapF W mb (lookF L)) : muW mb W = mu L:=by
  unfold muW
  have he : ∃ L : Wt,L.Pairwise (fun a b=>a.1 < b.1) ∧ MapF W mb (lookF L):=⟨L,hs,h⟩
  simp only [dif_pos he]
  obtain ⟨h1,h2⟩:=Classical.choose_spec he
  rw [lookF_inj h1 hs (h2.one h)]
theorem step_free {s : Int} {L : Wt} {p : Nat × Int} (h : freeP L = some p) : stepM s L = (((p.1 : Int),p.2),cutL L p.1) ∧ freeR L = ((p.1 : Int),true):=by
  unfold stepM freeR
  rw [h]
  exact ⟨rfl,rfl⟩
theorem step_ring {s : Int} {L : Wt} (h : freeP L = none) : stepM s L = ((s,(firstK L : Int)),turnL L (firstK L) s) ∧ freeR L = ((firstK L : Int),false):=by
  unfold stepM freeR
  rw [h]
  exact ⟨rfl,rfl⟩
theorem MapF.ne_blk {w : World} {b lb : Nat} {f : Int → Option Value} {t : TypeId} {cs : Array Value} (h : MapF w b f) (hb : Blk w lb t cs) : b ≠ lb:=by
  rintro rfl
  obtain ⟨es,clock,h1,_⟩:=h
  unfold Blk at hb
  rw [h1] at hb
  cases hb
def ToldPost (B l D ob : Nat) (r : Loop) (all : List (Int × Int)) (W : World) (e : Ending) (W' : World) : Prop:=(∃ u,e = .returned u) ∧ ∃ v,OutW B l D ob r all v W' ∧ Upd (fun q=>B ≤ q) W W'
theorem Tryz.zero3 (w : World) : (zeroValue 3).run Tryz.prog w = .ok (.int .i64 0) w:=by kernel_rfl
set_option maxRecDepth 100000 in
set_option maxHeartbeats 4000000 in
theorem told_any {B l D ob tb sb mb : Nat} {r : Loop} {s : Int} {L0 : Wt} {v0 : Value} {W : World} (hI : ItW tb sb mb s L0 W) (hO : OutW B l D ob r [] v0 W) (hok : WOk s L0) (hs : s ≤ 1000000) (hs0 : 0 ≤ s) (hl : L0.length ≤ 1000) (hBl : B ≤ l) (hBo : B ≤ ob) (hBm : B ≤ mb) (hBW : B ≤ W.heap.size)
    (hY : ∀ (pre : List (Int × Int)) (x y : Int) (v : Value) (W1 : World),OutW B l D ob r pre v W1 → B ≤ W1.heap.size → pre.length < 3000 → I64 x → I64 y → YieldAt Fence.wide 3 Tryz.prog l #[.agg #[.int .i64 x,.int .i64 y]] W1 fun e W'=>e = .returned (.bool true) ∧ ∃ v',OutW B l D ob r (pre ++ [(x,y)]) v' W' ∧ Upd (fun q=>q = l ∨ q = ob ∨ v.ownBlock = some q) W1 W') :
    Calls Tryz.prog 444 #[.func (.yield l) #[] #[],.pointer (some ⟨tb,0,none⟩),.pointer (some ⟨sb,0,none⟩)] W (ToldPost B l D ob r (allM s L0) W):=by
  have HY:=hide hY
  have HI0:=hide hI
  have HO0:=hide hO
  have HM0:=hide (MvSt.start hok)
  clear hY hI hO hok
  go_enter Tryz.func444,Tryz.ntmps444
  go_wp2_with fail
  go_loopw [4] (fun _ wr=>∃ (pre : List (Int × Int)) (L : Wt) (v : Value),Hid (MvSt s L0 pre L) ∧ Hid (L.length ≤ 1000) ∧ Hid (OutW B l D ob r pre v wr) ∧ Hid (ItW tb sb mb s L wr) ∧ Hid (Upd (fun q=>B ≤ q) W wr)) (fun _ wr=>muW mb wr)
  case atStart=>exact ⟨[],L0,v0,HM0.out,hl,HO0.out,HI0.out,Upd.refl _ _⟩
  case round =>
    clear HM0 HO0 HI0
    obtain ⟨pre,L,v,HM,HLL,HO,HI,HU⟩:=hrel
    have hct:=HI.out.tbox.cell 0
    simp only [List.getElem?_toArray,List.getElem?_cons_zero] at hct
    have HSO:=hide HM.out.ok.sort
    by_cases hne : L = []
    · subst hne
      have HAL:=hide HM.out.done
      go_wp2_with (at_len; refine wpList_lenm rfl (.tmp 9) rfl (by kernel_rfl) rfl HI.out.map HSO.out ?_)
      go_end0
      rw [← HAL.out]
      exact ⟨⟨_,rfl⟩,v,HO.out,HU.out⟩
    · have hlp : 0 < L.length:=List.length_pos_iff.2 hne
      have HNX:=hide (HM.out.next hs hne)
      have HMU:=hide (mu_step HM.out.ok hne)
      have HMW:=hide (muW_eq HSO.out HI.out.map)
      have HF:=hide (free_any HI.out.map HSO.out hne HLL.out)
      have HLN:=HM.out.len
      have hprl : pre.length < 3000:=by omega
      clear hne HLN
      cases hf : freeP L with
      | some p =>
        obtain ⟨kx,kv⟩:=p
        obtain ⟨h1,h2⟩:=step_free (s:=s) hf
        rw [h1] at HNX HMU
        rw [h2] at HF
        obtain ⟨hpm,_⟩:=freeP_mem hf
        have hkx:=HM.out.ok.lt _ hpm
        have hkv:=HM.out.ok.rng _ hpm
        have HLK : Hid ((lookF L (kx : Int)).getD (.int .i64 0) = .int .i64 kv):=by show _ = _; rw [lookF_mem HSO.out hpm]; rfl
        dsimp only at HNX HMU HF hkx hkv
        clear h1 h2 hf hpm
        go_upto_region 4 with (first | (at_len; refine wpList_lenm rfl (.tmp 9) rfl (by kernel_rfl) rfl HI.out.map HSO.out ?_) | (go_at_call 445; refine HF.out.mono ?_; rintro e w1 ⟨rfl,hu⟩; have HI1:=hide (HI.out.same hu); have HO1:=hide (HO.out.same hu); have HU1:=hide (HU.out.extend hu (fun q h=>h.elim)); have hct1:=HI1.out.tbox.cell 0; simp only [List.getElem?_toArray,List.getElem?_cons_zero] at hct1; clear hu) | (at_lookup; refine wpList_look rfl (.tmp 18) (.tmp 19) false rfl Tryz.underlying457 Tryz.underlying3 (Tryz.zero3 _) rfl HI1.out.map rfl ?_; simp only [Bool.false_eq_true,if_false]; rw [HLK.out]))
        have hvl : Hid (∀ k,v.ownBlock = some k → k < w1.heap.size):=fun k hk=>own_lt HO1.out.row hk
        have hal:=Upd.alloc (fun _=>False) w1 (.cells #[.int .i64 (kx : Int),.int .i64 kv] 416)
        have HI2:=hide (HI1.out.same hal)
        have HO2:=hide (HO1.out.same hal)
        have HB2:=hide (Blk.new w1 416 #[.int .i64 (kx : Int),.int .i64 kv])
        have HU2:=hide (HU1.out.extend hal (fun q h=>h.elim))
        clear hal hct1
        generalize w1.alloc (.cells #[.int .i64 (kx : Int),.int .i64 kv] 416) = w2 at HI2 HO2 HB2 HU2 ⊢
        generalize w1.heap.size = mB at HB2 hvl ⊢
        have hct2:=HI2.out.tbox.cell 0
        simp only [List.getElem?_toArray,List.getElem?_cons_zero] at hct2
        go_upto_region 11 with (at_delete; refine wpList_del rfl (.tmp 23) (.tmp 24) rfl Tryz.underlying457 Tryz.underlying3 rfl HI2.out.map rfl ?_; intro w3 hmf hu; rw [← lookF_cut] at hmf; have HO3:=hide (HO2.out.beside_map HI2.out.map hu); have HB3:=hide (hu.blk HB2.out (fun e=>HI2.out.map.ne_blk HB2.out e.symm)); have HI3 : Hid (ItW tb sb mb s (cutL L kx) w3):=⟨hu.blk HI2.out.tbox (fun e=>HI2.out.map.ne_blk HI2.out.tbox e.symm),hu.blk HI2.out.sbox (fun e=>HI2.out.map.ne_blk HI2.out.sbox e.symm),hmf⟩; have HU3:=hide (HU2.out.extend hu (fun q hq=>.inl (by rw [hq]; exact hBm))); clear hmf hu)
        have hcb0:=HB3.out.cell 0
        have hcb1:=HB3.out.cell 1
        simp only [List.getElem?_toArray,List.getElem?_cons_zero,List.getElem?_cons_succ] at hcb0 hcb1
        obtain ⟨fn,tmps,assign,body,hy,hR⟩:=HY.out pre (kx : Int) kv v w3 HO3.out (Nat.le_trans hBW HU3.out.size) hprl (by unfold I64; omega) (by unfold I64; omega)
        have HR:=hide hR
        clear hct2 hR
        refine (wpIn_wide (n:=4)).1 ?_
        gi_wp2
        refine HR.out.mono ?_
        rintro e w4 ⟨rfl,v',ho4,hu4⟩
        have HO4:=hide ho4
        have HI4:=hide (HI3.out.round HO3.out hu4)
        have HV4:=hide hu4
        clear hy HR ho4 hu4 hcb0 hcb1
        gi_wp2
        go_wp2_with fail
        go_roundw
        case rel=>exact ⟨_,_,v',HNX.out,Nat.le_trans (List.length_filter_le _ _) HLL.out,HO4.out,HI4.out,HU3.out.trans (HV4.out.mono fun q _ hq=>OutW.lo HO3.out hBl hBo hq)⟩
        case measure=>rw [muW_eq HNX.out.ok.sort HI4.out.map,HMW.out]; exact HMU.out
      | none =>
        obtain ⟨h1,h2⟩:=step_ring (s:=s) hf
        rw [h1] at HNX HMU
        rw [h2] at HF
        obtain ⟨vv,Lr,hL⟩:=firstK_mem (List.length_pos_iff.1 hlp)
        have hpm : (firstK L,vv) ∈ L:=by
          have : (firstK L,vv) ∈ (firstK L,vv) :: Lr:=by simp
          rwa [← hL] at this
        have hkx:=HM.out.ok.lt _ hpm
        have HLK : Hid ((lookF L (firstK L : Int)).getD (.int .i64 0) = .int .i64 vv):=by show _ = _; rw [lookF_mem HSO.out hpm]; rfl
        dsimp only at HNX HMU HF hkx
        clear h1 h2 hf hpm hL
        generalize firstK L = kx at *
        have hcs:=HI.out.sbox.cell 0
        simp only [List.getElem?_toArray,List.getElem?_cons_zero] at hcs
        go_upto_region 6 with (first | (at_len; refine wpList_lenm rfl (.tmp 9) rfl (by kernel_rfl) rfl HI.out.map HSO.out ?_) | (go_at_call 445; refine HF.out.mono ?_; rintro e w1 ⟨rfl,hu⟩; have HI1:=hide (HI.out.same hu); have HO1:=hide (HO.out.same hu); have HU1:=hide (HU.out.extend hu (fun q h=>h.elim)); have hct1:=HI1.out.tbox.cell 0; have hcs1:=(HI1.out.same (Upd.alloc (fun _=>False) w1 (.cells #[.int .i64 (kx : Int),.int .i64 vv] 416))).sbox.cell 0; simp only [List.getElem?_toArray,List.getElem?_cons_zero] at hct1 hcs1; clear hu) | (at_lookup; refine wpList_look rfl (.tmp 18) (.tmp 19) false rfl Tryz.underlying457 Tryz.underlying3 (Tryz.zero3 _) rfl HI1.out.map rfl ?_; simp only [Bool.false_eq_true,if_false]; rw [HLK.out]))
        have hal:=Upd.alloc (fun _=>False) w1 (.cells #[.int .i64 s,.int .i64 (kx : Int)] 416)
        have HI2:=hide (HI1.out.same hal)
        have HR2 : Hid (RingW B l D ob r pre v tb sb w1.heap.size mb s kx (w1.alloc (.cells #[.int .i64 s,.int .i64 (kx : Int)] 416))):=⟨HO1.out.same hal,HI2.out.tbox,HI2.out.sbox,Blk.new _ _ _⟩
        have HU2:=hide (HU1.out.extend hal (fun q h=>h.elim))
        clear hal hct1 hcs1 hcs
        generalize w1.alloc (.cells #[.int .i64 s,.int .i64 (kx : Int)] 416) = w2 at HI2 HR2 HU2 ⊢
        generalize w1.heap.size = mB at HR2 ⊢
        have hct2:=HI2.out.tbox.cell 0
        simp only [List.getElem?_toArray,List.getElem?_cons_zero] at hct2
        have hBw2 : Hid (B ≤ w2.heap.size):=Nat.le_trans hBW HU2.out.size
        go_wp2_with (at_range; refine wpList_mrange rfl (.tmp 28) rfl Tryz.underlying457 rfl HI2.out.map ?_; intro ks w3 hks1 hks2 hit hu3 hs3; have HIT:=hide hit; have HPR:=hide (keys_perm HSO.out hks1 hks2); have HND:=hide hks1; have HM3:=hide (HI2.out.map.keep hu3 (fun h=>h)); have HR3:=hide (HR2.out.same hu3); have HU3:=hide (HU2.out.extend hu3 (fun q h=>h.elim)); clear hks1 hks2 hit hu3 hs3)
        generalize w2.heap.size = rb at HIT hBw2 ⊢
        go_frame
        go_loopw [7] (fun _ wr=>∃ (old ks' : List Int),Hid (MapF wr mb (turnF L kx s old)) ∧ Hid (MapIt wr rb mb ks') ∧ Hid ((old ++ ks').Perm ks) ∧ Hid (RingW B l D ob r pre v tb sb mB mb s kx wr) ∧ Hid (Upd (fun q=>B ≤ q) W wr)) (fun _ wr=>leftW rb wr)
        case atStart=>exact ⟨[],ks,by rw [turnF_nil]; exact HM3.out,HIT.out,List.Perm.refl _,HR3.out,HU3.out⟩
        case round =>
          clear HM3 HIT HR3 HU3 hct2
          obtain ⟨old,ks',HMF,HI,HP,HR,HU⟩:=hrel
          cases ks' with
          | nil =>
            have HTF : Hid (turnF L kx s old = lookF (turnL L kx s)):=turnF_all fun p hp=>by
              have h:=HP.out
              rw [List.append_nil] at h
              exact (h.trans HPR.out).symm.subset (List.mem_map.2 ⟨p,hp,rfl⟩)
            have HMF2 : Hid (MapF wr mb (lookF (turnL L kx s))):=by have h:=HMF.out; rw [HTF.out] at h; exact h
            go_upto_region 11 with (at_next; refine wpList_mnext0 rfl (.tmp 29) rfl rfl HI.out ?_)
            have hcb0:=HR.out.bx.cell 0
            have hcb1:=HR.out.bx.cell 1
            simp only [List.getElem?_toArray,List.getElem?_cons_zero,List.getElem?_cons_succ] at hcb0 hcb1
            obtain ⟨fn,tmps,assign,body,hy,hRR⟩:=HY.out pre s (kx : Int) v wr HR.out.out (Nat.le_trans hBW HU.out.size) hprl (by unfold I64; omega) (by unfold I64; omega)
            have HRR:=hide hRR
            clear hRR
            refine (wpIn_wide (n:=4)).1 ?_
            gi_wp2
            refine HRR.out.mono ?_
            rintro e w4 ⟨rfl,v',ho4,hu4⟩
            have HO4:=hide ho4
            have HI4 : Hid (ItW tb sb mb s (turnL L kx s) w4):=ItW.round ⟨HR.out.tbox,HR.out.sbox,HMF2.out⟩ HR.out.out hu4
            have HV4:=hide hu4
            clear hy HRR ho4 hu4 hcb0 hcb1
            gi_wp2
            go_wp2_with fail
            go_roundw
            case rel=>exact ⟨_,_,v',HNX.out,by show (turnL L kx s).length ≤ 1000; rw [show (turnL L kx s).length = L.length by simp [turnL]]; exact HLL.out,HO4.out,HI4.out,HU.out.trans (HV4.out.mono fun q _ hq=>OutW.lo HR.out.out hBl hBo hq)⟩
            case measure=>rw [muW_eq HNX.out.ok.sort HI4.out.map,HMW.out]; exact HMU.out
          | cons y ys =>
            have hlft:=HI.out.left
            go_step
            go_step
            first | at_next | (go_step; at_next)
            refine wpList_mnext1 rfl (.tmp 29) rfl rfl HI.out ?_
            intro kk u ks2 w4 hp hit hu4 hen hval
            have HPQ : Hid ((old ++ kk :: ks2).Perm ks):=(hp.append_left old).trans HP.out
            have hnk : kk ∉ old:=by
              have h:=(HPQ.out.nodup_iff).2 HND.out
              rw [List.nodup_append] at h
              exact fun hm=>h.2.2 kk hm kk (by simp) rfl
            obtain ⟨q,hqm,hqk,rfl⟩:=turnF_some (hval _ HMF.out) hnk
            have HPS : Hid (((old ++ [kk]) ++ ks2).Perm ks):=by show List.Perm _ _; rw [List.append_assoc]; exact HPQ.out
            have hlq : Hid (ks2.length < (y :: ys).length):=by have:=hp.length_eq; show _ < _; rw [← this]; simp
            have HLF : Hid (ks2.length < leftW rb wr):=by show _ < _; rw [hlft]; exact hlq.out
            have HI4:=hide hit
            have HMF4:=hide (HMF.out.keep hu4 (fun e=>HI.out.ne_map e))
            have HR4:=hide (HR.out.beside_it HI.out hu4)
            have HU4:=hide (HU.out.extend hu4 fun q hq=>.inl (by rw [hq]; exact hBw2.out))
            have hct4:=HR4.out.tbox.cell 0
            have hcs4:=HR4.out.sbox.cell 0
            simp only [List.getElem?_toArray,List.getElem?_cons_zero] at hct4 hcs4
            obtain ⟨qk,qv⟩:=q
            dsimp only at hqk hen
            have HQM:=hide hqm
            have HQK:=hide hqk
            clear hp hit hu4 hval hnk hqm hqk hlft
            cases hqv : (qv == (kx : Int))
            · have hne : qv ≠ (kx : Int):=by simpa using hqv
              have HPASS:=hide (turnF_pass (s:=s) (old:=old) HSO.out HQM.out hne)
              clear hne
              go_wp2_with fail
              go_roundw
              case rel =>
                refine ⟨old ++ [kk],ks2,?_,HI4.out,HPS.out,HR4.out,HU4.out⟩
                have h:=HMF4.out
                rw [HPASS.out] at h
                rw [← HQK.out]
                exact h
              case measure=>rw [HI4.out.left]; exact HLF.out
            · have heq : qv = (kx : Int):=by simpa using hqv
              have HPUT:=hide (turnF_put (s:=s) (old:=old) HSO.out HQM.out heq)
              have HSM : Hid ((turnF L kx s old kk).isSome = true):=by
                show _ = _
                unfold turnF
                rw [Option.isSome_map,List.find?_isSome]
                exact ⟨_,HQM.out,by simp [HQK.out]⟩
              clear heq
              go_wp2_with (at_mapUpdate; refine wpList_putIt (u:=.int .i64 s) rfl (.tmp 38) (.tmp 39) (.tmp 40) rfl Tryz.underlying457 Tryz.underlying3 rfl HI4.out HMF4.out rfl rfl HSM.out ?_; intro w5 hmf5 hit5 hu5; have HMF5:=hide hmf5; have HI5:=hide hit5; have HR5:=hide (HR4.out.beside_map HMF4.out hu5); have HU5:=hide (HU4.out.extend hu5 fun q hq=>.inl (by rw [hq]; exact hBm)); clear hmf5 hit5 hu5)
              go_roundw
              case rel =>
                have h:=HMF5.out
                rw [← HQK.out] at h
                rw [HPUT.out,HQK.out] at h
                first
                  | exact ⟨old ++ [kk],ks2,h,HI5.out,HPS.out,HR5.out,HU5.out⟩
                  | exact ⟨old ++ [kk],h,ks2,HI5.out,HPS.out⟩
              case measure=>rw [HI5.out.left]; exact HLF.out
end Go.Proofs.YtadbcnekkceoaaaGreatDoor.Mv
