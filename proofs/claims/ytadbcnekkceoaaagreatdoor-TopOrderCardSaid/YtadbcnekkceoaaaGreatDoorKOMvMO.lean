/- 'Order', walked. -/
import Derived.Test.YtadbcnekkceoaaaGreatDoorKOMvMT
import Derived.Shelf.Abstract
set_option linter.unusedVariables false
namespace Go.Proofs.YtadbcnekkceoaaaGreatDoor.Mv
open Go.RowKit Go.Shelf
attribute [local go_sem] Oper.semAt_some
theorem Tryz.movs : ElemOk Tryz.prog 412 416 (.agg #[.int .i64 0,.int .i64 0]) 2 16:=⟨Tryz.underlying412,by kernel_rfl,rfl,by decide⟩
theorem wpListIn_app {F : Fence} {nF : Nat} {P : Program} {t e : TypeId} {z : Value} {size bytes : Nat} (E : ElemOk P t e z size bytes) {ops : Array Oper} {rest : List Oper} {o : Oper} {a : Act} {Q : Exit → Act → World → Prop} (hgd : o.guard = none) (s x : Operand)
    (ho : o.op = .call { callee:=.builtin .append,args:=#[s,x],argTypes:=#[t,t] }) {w : World} {B : Nat} {v : Value} {n : Nat} {xs : List Value} (hs : a.eval s = v) (hown : w.ownsRow B e size v n xs)
    {u : Value} {m : Nat} {ys : List Value} (hx : a.eval x = u) (hr : Rd w u size m ys) (h1 : ∀ y ∈ ys,y.oneCell' = true) (N : Nat) (hN : n + m = N) (hb : N ≤ 140737488355327) (hby : N * bytes ≤ 140737488355328) (hB : B ≤ w.heap.size)
    (K : ∀ A' c' w',w'.ownsRow B e size (.slice A' N c') N (xs ++ ys) → Upd (fun k=>v.ownBlock = some k) w w' → ((Value.slice A' N c').ownBlock = v.ownBlock ∨ (Value.slice A' N c').ownBlock = some w.heap.size) →
      (v.ownBlock ≠ none → (Value.slice A' N c').ownBlock ≠ none) → wpListIn F nF P ops Q rest (a.put o.dst (.slice A' N c')) w') :
    wpListIn F nF P ops Q (o :: rest) a w:=by
  subst hN
  refine wpListIn_plain hgd fun _ hK=>?_
  obtain ⟨v',w',hrun,h2,h3,h4,h5⟩:=run_app E o.type hown hr h1 hb hby hB
  have hv : ∃ A' c',v' = .slice A' (n + m) c':=by
    rcases h2.2 with ⟨rfl,h0⟩ | ⟨g,cap,cur,rfl,_⟩
    · exact ⟨none,0,by rw [h0]⟩
    · exact ⟨_,_,rfl⟩
  obtain ⟨A',c',rfl⟩:=hv
  unfold Oper.wpIn
  refine ⟨?_,?_⟩
  · simp [Oper.about,ho,resolve,Target.leads,Sem.run_pure]
  · rw [Oper.semAt_plain F _ _ (by rw [ho]; intro c hc'; cases hc')]
    simp only [execOp,ho,resolve,invoke,builtin,Sem.run_bind,Sem.run_pure,Result.andThen_ok,List.map_toArray,List.map_cons,List.map_nil,hs,hx,hrun]
    exact hK _ _ (K A' c' w' h2 h3 h4 h5)
theorem own_slice {w : World} {B e size n : Nat} {v : Value} {xs : List Value} (h : w.ownsRow B e size v n xs) : ∃ A c,v = .slice A n c:=by
  rcases h.2 with ⟨rfl,h0⟩ | ⟨g,cap,cur,rfl,_⟩
  · exact ⟨none,0,by rw [h0]⟩
  · exact ⟨_,_,rfl⟩
theorem Rd.new2 (w : World) (x y : Value) (t : TypeId) {g : Nat} (hg : g = w.heap.size) : Rd (w.alloc (.cells #[x,y] t)) (.slice (some ⟨g,0,none⟩) 1 1) 2 1 [x,y]:=by
  subst hg
  refine ⟨_,1,rfl,rfl,fun h=>by simp at h,fun ad had j u hu=>?_⟩
  obtain rfl:=Option.some.inj had
  rw [Addr.add_lit,Nat.zero_add,(Blk.new w t #[x,y]).cell]
  simpa using hu
theorem Upd.putObj {S : Nat → Prop} (w : World) (b : Nat) (o : Obj) (hS : S b) : Upd S w (w.putObj b o) :=
  ⟨rfl,rfl,rfl,by simp,fun k _ hk=>World.putObj_heap_other (fun e=>hk (e ▸ hS))⟩
theorem told_val (w : World) (mb : Nat) (s : Int) : Calls Tryz.prog 409 #[.map (some mb),.int .i64 s] w fun e w'=>e = .returned (.func (.func 444) #[] #[.pointer (some ⟨w.heap.size,0,none⟩),.pointer (some ⟨w.heap.size + 1,0,none⟩)]) ∧ w' = (w.alloc (.cells #[.map (some mb)] 457)).alloc (.cells #[.int .i64 s] 3):=by
  go_enter Tryz.func409,Tryz.ntmps409
  go_wp2
  go_ret
  exact ⟨rfl,rfl⟩
def MovesN (w : World) (e : TypeId) (r : Option (List (Int × Int))) (en : Ending) (w' : World) : Prop :=
  match r with
  | none=>en = .returned (.tuple #[.slice none 0 0,.int .i64 1]) ∧ Upd (fun _=>False) w w'
  | some ms=>∃ A n c,en = .returned (.tuple #[.slice A n c,.int .i64 0]) ∧ Hid (n = ms.length) ∧ Hid (w'.ownsRow w.heap.size e 2 (.slice A n c) n (mcells ms) ∧ Upd (fun _=>False) w w')
theorem badV_parts {s x : Int} (h1 : decide (x < 0) = false) (h2 : decide (1000000 < x) = false) (h3 : (x == s) = false) : badV s x = false:=by unfold badV; rw [h1,h2,h3]; rfl
theorem bad_any {src : List Int} {s : Int} {k : Nat} (hk : k < src.length) (h : badV s src[k] = true) : badF src s = true:=by
  unfold badF
  have : src.any (badV s) = true:=List.any_eq_true.2 ⟨_,List.getElem_mem hk,h⟩
  rw [this]; simp
theorem ret_plain {F : Fence} {n : Nat} {P : Program} {fn : Func} {R : Ending → World → Prop} {tmps : Array Value} {w : World} {v : Value} (hr : (results fn tmps).run P w = .ok v w) (h : R (.returned v) w) : bodyPostM F n P fn R .ret { tmps:=tmps,defers:=[] } w:=⟨v,hr,h⟩
theorem ret_mark {F : Fence} {n : Nat} {P : Program} {fn : Func} {R : Ending → World → Prop} {tmps : Array Value} {w : World} {v : Value} {D : Nat} (hK : w.heap[D]? = some (.deferred (some []))) (hr : ∀ w',(results fn tmps).run P w' = .ok v w') (h : R (.returned v) (w.putObj D (.deferred none))) :
    bodyPostM F n P fn R .ret { tmps:=tmps,defers:=[{ target:=.collected D,args:=#[] }] } w :=
  ⟨by simp,.inl ⟨D,_,rfl,run_takeDeferred hK,v,hr _,h⟩⟩
theorem Blk.beside_loop {W W' : World} {b q : Nat} {t : TypeId} {cs : Array Value} {r : Loop} (h : Blk W b t cs) (hq : W.heap[q]? = some (.loop r)) (hu : Upd (fun k=>k = q) W W') : Blk W' b t cs :=
  hu.blk h (by rintro rfl; unfold Blk at h; rw [h] at hq; cases hq)
theorem OutW.row_ne_l {B l D ob : Nat} {r : Loop} {pre : List (Int × Int)} {v : Value} {W : World} (h : OutW B l D ob r pre v W) {q : Nat} (hq : v.ownBlock = some q) : q ≠ l:=by
  rintro rfl
  obtain ⟨cs,hc⟩:=own_obj h.row hq
  rw [h.lp] at hc
  cases hc
theorem wp_rangeFunc_outer {P : Program} {g : Operand} {ps : Array Tmp} {assign body : Code} {Q : Exit → Act → World → Prop} {tmps : Array Value} {w : World} {gf : Nat} {lb : Array Value} (hg : ({ tmps:=tmps,defers:=[] } : Act).eval g = .func (.func gf) #[] lb) (eg : Enters P gf)
    (h : ∀ r : Loop,r.state = .ready → r.pending = none → r.tmps = tmps → r.params = ps → r.assign = assign → r.body = body →
      Calls P gf (#[.func (.yield (w.heap.size + 1)) #[] #[]] ++ lb) ((w.alloc (.deferred (some []))).alloc (.loop r)) fun e W'=>(∃ u,e = .returned u) ∧ W'.heap[w.heap.size + 1]? = some (.loop r) ∧ Q .normal { tmps:=tmps,defers:=[{ target:=.collected w.heap.size,args:=#[] }] } (W'.putObj (w.heap.size + 1) (.loop { r with state:=.exhausted }))) :
    (Code.rangeFunc g ps assign body).wp P Q { tmps:=tmps,defers:=[] } w:=by
  refine (wpIn_wide (n:=6)).1 ?_
  refine wpIn_rangeFunc (fun fn _=>?_)
  have h1:=h { state:=.ready,pending:=none,fn:=fn,tmps:=tmps,params:=ps,assign:=assign,body:=body,defers:=w.heap.size } rfl rfl rfl rfl rfl rfl
  have eg' : ∀ args w,(callFunc gf args).run P w = .ok (.enter gf args) w:=eg
  generalize hr : ({ state:=.ready,pending:=none,fn:=fn,tmps:=tmps,params:=ps,assign:=assign,body:=body,defers:=w.heap.size } : Loop) = r at h1
  have hpe : r.pending = none:=by rw [← hr]
  have hst : r.state ≠ .busy:=by rw [← hr]; simp
  have hen:=run_enterLoop_outer (P:=P) (w:=w) fn tmps ps assign body
  rw [hr] at hen
  refine ⟨w.heap.size + 1,[{ target:=.collected w.heap.size,args:=#[] }],(w.alloc (.deferred (some []))).alloc (.loop r),{ target:=.fn (.func gf) lb,args:=#[.func (.yield (w.heap.size + 1)) #[] #[]] },(w.alloc (.deferred (some []))).alloc (.loop r),gf,#[.func (.yield (w.heap.size + 1)) #[] #[]] ++ lb,(w.alloc (.deferred (some []))).alloc (.loop r),hen,?_,?_,?_,?_,?_⟩
  · simp only [resolve,hg]
    simp [go_sem]
  · intro f' hf'; exact trivial
  · simp [invoke,go_sem,eg']
  · intro h; cases h
  · refine callsIn_wide.2 (h1.mono ?_)
    rintro e W' ⟨⟨u,rfl⟩,hl,hq⟩
    refine ⟨none,_,?_,hq⟩
    have:=run_endLoop (P:=P) hl hst
    rw [this,hpe]
set_option maxRecDepth 100000 in
set_option maxHeartbeats 4000000 in
theorem order_any {w : World} {A : Option Addr} {n c : Nat} {src : List Int} {s : Int} (hx : Rd w (.slice A n c) 1 n (src.map (.int .i64))) (hn : n = src.length) (hl : n ≤ 9223372036854775807) (hs : I64 s) :
    Calls Tryz.prog 338 #[.slice A n c,.int .i64 s] w (MovesN w 416 (orderR src s)):=by
  have hmm:=@run_makeMap Tryz.prog
  have HX:=hide hx
  have HN:=hide hn
  have hsl:=hs.1
  have hsu:=hs.2
  clear hx hn hs
  refine (callsIn_wide (n:=6)).1 ?_
  refine callsIn_of_wp_marks Tryz.func338 rfl trivial ?_ rfl
  refine wpIn_wide.2 ?_
  simp only [Tryz.ntmps338,List.size_toArray,List.length_cons,List.length_nil,Nat.reduceAdd,Nat.reduceSub,Array.replicate_succ,Array.replicate_zero,List.push_toArray,List.append_toArray,List.nil_append,List.cons_append]
  by_cases h1 : 1000 < n
  · have HR : Hid (orderR src s = none):=by
      show _ = _
      unfold orderR badF
      rw [← HN.out,decide_eq_true h1]; rfl
    go_wp2_with fail
    refine ret_plain (results_tmp2 rfl _ _ _) ?_
    rw [HR.out]
    exact ⟨rfl,Upd.refl _ _⟩
  · by_cases h2 : s < (n : Int)
    · have HR : Hid (orderR src s = none):=by
        show _ = _
        unfold orderR badF
        rw [← HN.out,decide_eq_true h2]; simp
      go_wp2_with fail
      refine ret_plain (results_tmp2 rfl _ _ _) ?_
      rw [HR.out]
      exact ⟨rfl,Upd.refl _ _⟩
    · by_cases h3 : 1000000 < s
      · have HR : Hid (orderR src s = none):=by
          show _ = _
          unfold orderR badF
          rw [← HN.out,decide_eq_true h3]; simp
        go_wp2_with fail
        refine ret_plain (results_tmp2 rfl _ _ _) ?_
        rw [HR.out]
        exact ⟨rfl,Upd.refl _ _⟩
      · have hn1000 : n ≤ 1000:=by omega
        have hs0 : (n : Int) ≤ s:=by omega
        have hs1 : s ≤ 1000000:=by omega
        have HM0 : Hid (MapF (w.alloc (.map #[] 0)) w.heap.size (lookF (leftTo src 0))):=MapF.made w
        have HU0:=hide (Upd.alloc (fun _=>False) w (.map #[] 0))
        have HMB : Hid (w.heap.size ≤ w.heap.size):=Nat.le_refl _
        clear h1 h2 h3
        go_wp2_with fail
        obtain ⟨mb,hmb⟩ : ∃ mb,w.heap.size = mb:=⟨_,rfl⟩
        have HMBE:=hide hmb
        rw [hmb] at HM0 ⊢
        clear hmb HMB
        go_loopw [27] (fun iv wr=>∃ k : Nat,k ≤ n ∧ iv = .int .i64 k ∧ Hid (MapF wr mb (lookF (leftTo src k))) ∧ Hid (∀ j (h : j < src.length),j < k → badV s (src[j]'h) = false) ∧ Hid (Upd (fun _=>False) w wr)) (fun iv _=>n - (intOf iv).toNat)
        case atStart=>exact ⟨0,Nat.zero_le _,rfl,HM0.out,fun j _ h=>absurd h (by omega),HU0.out⟩
        case round =>
          clear HM0 HU0
          obtain ⟨k,hk,rfl,HM,HB,HU⟩:=hrel
          by_cases hlt : k < n
          · obtain ⟨gb,go,gs,x,rfl,hxe,hxc⟩:=(HX.out.keep HU.out (fun _ _ h=>h)).get HN.out hlt
            have hks : k < src.length:=by have:=HN.out; omega
            have HKS:=hide hks
            have HXE : Hid (x = src[k]'HKS.out):=hxe
            have HD : Hid (src.getD k 0 = x):=by show _ = _; rw [List.getD_eq_getElem?_getD,List.getElem?_eq_getElem hks,hxe]; rfl
            have HSU:=hide (leftTo_succ src k)
            rw [HD.out] at HSU
            have HBD : badV s x = true → Hid (orderR src s = none):=fun h=>by
              show _ = _
              unfold orderR
              rw [bad_any HKS.out (by rw [← HXE.out]; exact h)]; rfl
            clear hxe hks
            cases hx0 : decide (x < 0)
            · cases hx1 : decide (1000000 < x)
              · cases hx2 : (x == s)
                · have HOK:=hide (badV_parts hx0 hx1 hx2)
                  have HB2 : Hid (∀ j (h : j < src.length),j < k + 1 → badV s (src[j]'h) = false):=fun j hj hjk=>by
                    by_cases hjk' : j < k
                    · exact HB.out j hj hjk'
                    · obtain rfl : j = k:=by omega
                      rw [← HXE.out]; exact HOK.out
                  clear HBD
                  by_cases hxk : x = (k : Int)
                  · have hxk2 : (x != (k : Int)) = false:=by simp [hxk]
                    have HSK:=HSU.out
                    rw [if_neg (by simp [hxk])] at HSK
                    have HSK2:=hide HSK
                    clear hxk HSK HSU
                    go_wp2_with fail
                    go_roundw
                    case rel=>exact ⟨k + 1,by omega,by go_num,by rw [HSK2.out]; exact HM.out,HB2.out,HU.out⟩
                    case measure=>simp [intOf]; omega
                  · have hxk2 : (x != (k : Int)) = true:=by simp [hxk]
                    have HSK:=HSU.out
                    rw [if_pos hxk] at HSK
                    have HSK2:=hide HSK
                    have HSN:=hide (lookF_snoc (L:=leftTo src k) (k:=k) (v:=x) fun p hp=>by have:=(leftTo_mem.1 hp).1; omega)
                    clear hxk HSK HSU
                    go_wp2_with (at_mapUpdate; refine wpList_put (u:=.int .i64 x) rfl (.tmp 46) (.tmp 47) (.tmp 48) rfl Tryz.underlying457 Tryz.underlying3 rfl HM.out rfl rfl ?_; intro w3 hmf hu; rw [HSN.out] at hmf; have HM3:=hide hmf; have HU3:=hide (HU.out.extend hu fun q hq=>.inr (by rw [hq]; exact Nat.le_of_eq HMBE.out)); clear hmf hu)
                    go_roundw
                    case rel=>exact ⟨k + 1,by omega,by go_num,by rw [HSK2.out]; exact HM3.out,HB2.out,HU3.out⟩
                    case measure=>simp [intOf]; omega
                · have HR:=HBD (by unfold badV; rw [hx2]; simp)
                  clear HBD
                  go_wp2_with fail
                  refine ret_plain (results_tmp2 rfl _ _ _) ?_
                  rw [HR.out]
                  exact ⟨rfl,HU.out⟩
              · have HR:=HBD (by unfold badV; rw [hx1]; simp)
                clear HBD
                go_wp2_with fail
                refine ret_plain (results_tmp2 rfl _ _ _) ?_
                rw [HR.out]
                exact ⟨rfl,HU.out⟩
            · have HR:=HBD (by unfold badV; rw [hx0]; simp)
              clear HBD
              go_wp2_with fail
              refine ret_plain (results_tmp2 rfl _ _ _) ?_
              rw [HR.out]
              exact ⟨rfl,HU.out⟩
          · obtain rfl : k = n:=by omega
            have hbf : badF src s = false:=by
              unfold badF
              have h4 : src.any (badV s) = false:=by
                rw [List.any_eq_false]
                intro x hx
                obtain ⟨j,hj,rfl⟩:=List.getElem_of_mem hx
                rw [HB.out j hj (by have:=HN.out; omega)]; simp
              rw [h4,← HN.out,decide_eq_false (by omega),decide_eq_false (by omega),decide_eq_false (by omega)]; rfl
            have HR : Hid (orderR src s = some (allM s (leftTo src src.length))):=by show _ = _; unfold orderR; rw [hbf]; rfl
            have HOK:=hide (leftTo_ok hbf).1
            have HLL:=hide (leftTo_len src src.length)
            have HM2 : Hid (MapF wr mb (lookF (leftTo src src.length))):=by have h:=HM.out; rw [HN.out] at h; exact h
            generalize leftTo src src.length = L0 at HR HOK HM2 HLL
            clear hbf HM HB HX
            go_wp2_with (go_at_call 409; refine (told_val _ _ _).mono ?_; rintro e w3 ⟨rfl,rfl⟩)
            have hu1:=Upd.alloc (fun _=>False) wr (.cells #[.slice none 0 0] 412)
            have hu2:=Upd.alloc (fun _=>False) (wr.alloc (.cells #[.slice none 0 0] 412)) (.cells #[.map (some mb)] 457)
            have hu3:=Upd.alloc (fun _=>False) ((wr.alloc (.cells #[.slice none 0 0] 412)).alloc (.cells #[.map (some mb)] 457)) (.cells #[.int .i64 s] 3)
            have hs1 : (wr.alloc (.cells #[.slice none 0 0] 412)).heap.size = wr.heap.size + 1:=by simp
            have hs2 : ((wr.alloc (.cells #[.slice none 0 0] 412)).alloc (.cells #[.map (some mb)] 457)).heap.size = wr.heap.size + 1 + 1:=by simp
            have hb1:=(hu2.trans hu3).blk (Blk.new wr 412 #[.slice none 0 0]) (fun h=>h)
            have hb2:=hu3.blk (Blk.new (wr.alloc (.cells #[.slice none 0 0] 412)) 457 #[.map (some mb)]) (fun h=>h)
            have hb3:=Blk.new ((wr.alloc (.cells #[.slice none 0 0] 412)).alloc (.cells #[.map (some mb)] 457)) 3 #[.int .i64 s]
            rw [hs1] at hb2
            rw [hs2] at hb3
            have HU3:=hide (HU.out.trans ((hu1.trans hu2).trans hu3))
            have HM3:=hide (HM2.out.keep ((hu1.trans hu2).trans hu3) (fun h=>h))
            have hob:=HU.out.size
            clear hu1 hu2 hu3 hs1 hs2
            generalize ((wr.alloc (.cells #[.slice none 0 0] 412)).alloc (.cells #[.map (some mb)] 457)).alloc (.cells #[.int .i64 s] 3) = w3 at hb1 hb2 hb3 HU3 HM3 ⊢
            generalize wr.heap.size = ob at hb1 hb2 hb3 hob ⊢
            have HB1:=hide hb1
            have HB2:=hide hb2
            have HB3:=hide hb3
            clear hb1 hb2 hb3
            refine wp_rangeFunc_outer rfl (enters_of Tryz.func444 (by kernel_rfl) rfl) ?_
            intro r hr1 hr2 hr3 hr4 hr5 hr6
            have hu1:=Upd.alloc (fun _=>False) w3 (.deferred (some []))
            have hu2:=Upd.alloc (fun _=>False) (w3.alloc (.deferred (some []))) (.loop r)
            have hD:=hu2.block w3.heap.size (by simp) (fun h=>h)
            rw [World.alloc_heap_new] at hD
            have hL:=World.alloc_heap_new (w3.alloc (.deferred (some []))) (.loop r)
            rw [show (w3.alloc (.deferred (some []))).heap.size = w3.heap.size + 1 by simp] at hL
            have HO4 : Hid (OutW w.heap.size (w3.heap.size + 1) w3.heap.size ob r [] (.slice none 0 0) ((w3.alloc (.deferred (some []))).alloc (.loop r))):=⟨hL,hD,(hu1.trans hu2).blk HB1.out (fun h=>h),World.ownsRow_nil _ _ _ _⟩
            have HI4 : Hid (ItW (ob + 1) (ob + 1 + 1) mb s L0 ((w3.alloc (.deferred (some []))).alloc (.loop r))):=⟨(hu1.trans hu2).blk HB2.out (fun h=>h),(hu1.trans hu2).blk HB3.out (fun h=>h),HM3.out.keep (hu1.trans hu2) (fun h=>h)⟩
            have HU4:=hide (HU3.out.trans (hu1.trans hu2))
            have hB3:=HU3.out.size
            clear hu1 hu2 hD hL
            refine (told_any HI4.out HO4.out HOK.out hs1 (by omega) (by have:=HLL.out; have:=HN.out; omega) (by omega) hob (by have:=HMBE.out; omega) HU4.out.size ?_).mono ?_
            · intro pre x y v W1 hO hB hlen hx hy
              obtain ⟨A1,c1,rfl⟩:=own_slice hO.row
              have hy1:=run_yield (P:=Tryz.prog) (args:=#[.agg #[.int .i64 x,.int .i64 y]]) hO.lp (by rw [hr4]; rfl)
              rw [hr3,hr4,hr5,hr6] at hy1
              refine ⟨r.fn,_,_,_,hy1,roundIn_of_wpIn trivial ?_⟩
              clear hy1
              gi_wp2
              have hal:=Upd.alloc (fun _=>False) W1 (.cells #[.int .i64 x,.int .i64 y] 416)
              have hO2:=hO.same hal
              have hX2:=Blk.new W1 416 #[.int .i64 x,.int .i64 y]
              refine ⟨_,run_beginRound hO2.lp hr1,?_⟩
              have hu2:=Upd.putObj (S:=fun q=>q = w3.heap.size + 1) (W1.alloc (.cells #[.int .i64 x,.int .i64 y] 416)) (w3.heap.size + 1) (.loop { r with state:=.busy }) rfl
              have HU2:=hide ((hal.mono (T:=fun q=>q = w3.heap.size + 1 ∨ q = ob ∨ (Value.slice A1 pre.length c1).ownBlock = some q) fun _ _ h=>h.elim).extend hu2 fun q hq=>.inl (.inl hq))
              have HL2 : Hid (((W1.alloc (.cells #[.int .i64 x,.int .i64 y] 416)).putObj (w3.heap.size + 1) (.loop { r with state:=.busy })).heap[w3.heap.size + 1]? = some (.loop { r with state:=.busy })):=World.putObj_heap_same hO2.lt_l
              have HD2:=hide ((hu2.block w3.heap.size hO2.lt_D (fun e=>Nat.succ_ne_self _ e.symm)).trans hO2.df)
              have HB2':=hide (hO2.box.beside_loop hO2.lp hu2)
              have HX2:=hide (hX2.beside_loop hO2.lp hu2)
              have HR2:=hide (hu2.own hO2.row (fun q hq e=>hO2.row_ne_l hq e))
              have hsz2 : w.heap.size ≤ W1.heap.size:=hB
              have hsz3:=hu2.size
              have hsz4:=hal.size
              clear hal hO2 hX2 hu2 hO
              generalize (W1.alloc (.cells #[.int .i64 x,.int .i64 y] 416)).putObj (w3.heap.size + 1) (.loop { r with state:=.busy }) = W2 at HU2 HL2 HD2 HB2' HX2 HR2 hsz3 ⊢
              have hc0:=HX2.out.cell 0
              have hc1:=HX2.out.cell 1
              have hcb:=HB2'.out.cell 0
              simp only [List.getElem?_toArray,List.getElem?_cons_zero,List.getElem?_cons_succ] at hc0 hc1 hcb
              have hza : w.heap.size ≤ (W2.alloc (.cells #[.int .i64 x,.int .i64 y] 416)).heap.size:=by simp; omega
              gi_wp2_with (gi_at_builtin; refine wpListIn_app (v:=.slice A1 pre.length c1) (u:=.slice (some ⟨W2.heap.size,0,none⟩) 1 1) Tryz.movs rfl (.tmp 54) (.tmp 56) rfl rfl ((Upd.alloc (fun _=>False) W2 (.cells #[.int .i64 x,.int .i64 y] 416)).own HR2.out (fun _ _ h=>h)) rfl (Rd.new2 _ (.int .i64 x) (.int .i64 y) 416 rfl) (by simp [Value.oneCell']) (pre.length + 1) rfl (by omega) (by omega) hza ?_; intro A5 c5 W5 own5 u5 at5 ne5; have HO5:=hide own5; have HU5:=hide u5; have HB5:=hide (u5.blk ((Upd.alloc (fun _=>False) W2 (.cells #[.int .i64 x,.int .i64 y] 416)).blk HB2'.out (fun h=>h)) (fun e=>own_ne_blk HR2.out HB2'.out (by decide) _ e rfl)); have hcb5:=HB5.out.cell 0; have hfb5:=HB5.out.free 0; simp only [List.getElem?_toArray,List.getElem?_cons_zero] at hcb5; clear own5 u5 at5 ne5)
              have hal:=Upd.alloc (fun _=>False) W2 (.cells #[.int .i64 x,.int .i64 y] 416)
              have hnel : ∀ q,(Value.slice A1 pre.length c1).ownBlock = some q → q ≠ w3.heap.size + 1:=fun q hq e=>by
                obtain ⟨cs,hcs⟩:=own_obj HR2.out hq
                rw [e,HL2.out] at hcs; cases hcs
              have hneD : ∀ q,(Value.slice A1 pre.length c1).ownBlock = some q → q ≠ w3.heap.size:=fun q hq e=>by
                obtain ⟨cs,hcs⟩:=own_obj HR2.out hq
                rw [e,HD2.out] at hcs; cases hcs
              have hL5:=(HU5.out.block _ (by have:=(Array.getElem?_eq_some_iff.1 HL2.out).1; simp; omega) (fun e=>hnel _ e rfl)).trans ((hal.block _ (Array.getElem?_eq_some_iff.1 HL2.out).1 (fun h=>h)).trans HL2.out)
              have hD5:=(HU5.out.block _ (by have:=(Array.getElem?_eq_some_iff.1 HD2.out).1; simp; omega) (fun e=>hneD _ e rfl)).trans ((hal.block _ (Array.getElem?_eq_some_iff.1 HD2.out).1 (fun h=>h)).trans HD2.out)
              have hobl : ob ≠ w3.heap.size + 1:=fun e=>by have h:=HB5.out; unfold Blk at h; rw [e,hL5] at h; cases h
              have hobD : ob ≠ w3.heap.size:=fun e=>by have h:=HB5.out; unfold Blk at h; rw [e,hD5] at h; cases h
              have hu6 : Upd (fun q=>q = ob) W5 (W5.setCell ⟨ob,0,none⟩ (.slice A5 (pre.length + 1) c5)):=Upd.set _ _ _ rfl
              have hB6:=HB5.out.set 0 (.slice A5 (pre.length + 1) c5)
              have hL6:=(hu6.block _ (Array.getElem?_eq_some_iff.1 hL5).1 (fun e=>hobl e.symm)).trans hL5
              have hD6:=(hu6.block _ (Array.getElem?_eq_some_iff.1 hD5).1 (fun e=>hobD e.symm)).trans hD5
              have hR6:=hu6.own HO5.out (fun q hq e=>own_ne_blk HO5.out HB5.out (by decide) q hq e)
              have hU6:=((HU2.out.trans (hal.mono fun _ _ h=>h.elim)).extend HU5.out fun q hq=>.inl (.inr (.inr hq))).extend hu6 fun q hq=>.inl (.inr (.inl hq))
              refine ⟨_,_,run_endRound none hL6,rfl,.slice A5 (pre.length + 1) c5,?_,?_⟩
              · have hu7:=Upd.putObj (S:=fun q=>q = w3.heap.size + 1) (W5.setCell ⟨ob,0,none⟩ (.slice A5 (pre.length + 1) c5)) (w3.heap.size + 1) (.loop { { r with state:=.busy } with state:=if (none : Option Code).isNone then .ready else .done,pending:=none }) rfl
                refine ⟨?_,?_,?_,?_⟩
                · rw [World.putObj_heap_same (Array.getElem?_eq_some_iff.1 hL6).1]
                  cases r
                  dsimp only at hr1 hr2
                  subst hr1 hr2
                  rfl
                · exact (hu7.block _ (Array.getElem?_eq_some_iff.1 hD6).1 (fun e=>Nat.succ_ne_self _ e.symm)).trans hD6
                · exact hB6.beside_loop hL6 hu7
                · have h:=hu7.own hR6 (fun q hq e=>by
                    obtain ⟨cs,hcs⟩:=own_obj hR6 hq
                    rw [e,hL6] at hcs; cases hcs)
                  rw [mcells_snoc,List.length_append]
                  exact h
              · exact hU6.extend (Upd.putObj (S:=fun q=>q = w3.heap.size + 1) _ _ _ rfl) fun q hq=>.inl (.inl hq)
            · rintro e W5 ⟨hu,v,ho,hu5⟩
              refine ⟨hu,ho.lp,?_⟩
              have HU5:=hide (HU4.out.extend hu5 fun q hq=>.inr hq)
              have HO5:=hide ho
              have hu6:=Upd.putObj (S:=fun q=>q = w3.heap.size + 1) W5 (w3.heap.size + 1) (.loop { r with state:=.exhausted }) rfl
              have hO6:=ho.box.beside_loop ho.lp hu6
              have hR6:=hu6.own ho.row (fun q hq e=>ho.row_ne_l hq e)
              have hD6:=(hu6.block w3.heap.size ho.lt_D (fun e=>Nat.succ_ne_self _ e.symm)).trans ho.df
              have HU6:=hide (HU5.out.extend hu6 fun q hq=>.inr (by rw [hq]; omega))
              clear hu ho hu5 hu6
              generalize W5.putObj (w3.heap.size + 1) (.loop { r with state:=.exhausted }) = W6 at hO6 hR6 hD6 HU6 ⊢
              obtain ⟨A6,c6,rfl⟩:=own_slice hR6
              have hc6:=hO6.cell 0
              simp only [List.getElem?_toArray,List.getElem?_cons_zero] at hc6
              have HD6:=hide hD6
              have HR6:=hide hR6
              clear hD6 hR6 hO6
              simp only [Exit.inBlock,Exit.then]
              go_at_K
              go_wp2_with fail
              refine ret_mark HD6.out (results_tmp2 rfl _ _) ?_
              rw [HR.out]
              have hu7:=Upd.putObj (S:=fun q=>q = w3.heap.size) W6 w3.heap.size (.deferred none) rfl
              refine ⟨A6,_,c6,rfl,rfl,hu7.own HR6.out (fun q hq e=>?_),HU6.out.extend hu7 fun q hq=>.inr (by rw [hq]; exact hB3)⟩
              obtain ⟨cs,hcs⟩:=own_obj HR6.out hq
              rw [e,HD6.out] at hcs
              cases hcs
end Go.Proofs.YtadbcnekkceoaaaGreatDoor.Mv
