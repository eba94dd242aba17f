/- Library functions: from the kit's contracts to the machine's. -/
import Derived.Test.YtadbcnekkceoaaaGreatDoorKOAmTa
import Derived.Test.YtadbcnekkceoaaaGreatDoorKOSh
set_option linter.unusedVariables false
namespace Go.Proofs.YtadbcnekkceoaaaGreatDoor
namespace Am
open Go.Shelf Go.RowKit
section
variable {tb : Tb} {NN : Nat → Nat}
theorem below_kept {w w' : World} (h : Below w.heap.size w w') {m : Mp} {x : H} (hr : HR tb NN m x w) (B : Nat) : HR tb NN m x w' ∧ Go B m x w m x w':=HR.more hr h.size h.block h.os h.tape h.output B
theorem toN_inj {l k : List UInt8} (h : l.map UInt8.toNat = k.map UInt8.toNat) : l = k:=by
  induction l generalizing k with
  | nil=>cases k with | nil=>rfl | cons _ _=>cases h
  | cons a l ih =>
    cases k with
    | nil=>cases h
    | cons b k =>
      injection h with h1 h2
      rw [UInt8.toNat_inj.1 h1,ih h2]
theorem any_toN (x : UInt8) : ∀ c : List UInt8,(c.map UInt8.toNat).any (Nat.beq x.toNat) = c.contains x
  | []=>rfl
  | y :: c=>by
    rw [List.map_cons,List.any_cons,List.contains_cons,any_toN x c]
    congr 1
    by_cases e : x = y
    · subst e; rw [Nat.beq_refl]; simp
    · have : x.toNat ≠ y.toNat:=fun h=>e (UInt8.toNat_inj.1 h)
      rw [show Nat.beq x.toNat y.toNat = false from Bool.eq_false_iff.2 fun h=>this (Nat.eq_of_beq_eq_true h)]
      simp [e]
theorem trimL_eq (c : List UInt8) : ∀ l : List UInt8,trimL (c.map UInt8.toNat) (l.map UInt8.toNat) = (Lib.trimLeftS l c).map UInt8.toNat
  | []=>rfl
  | x :: l=>by
    rw [List.map_cons,trimL,any_toN,Lib.trimLeftS,List.dropWhile_cons]
    cases c.contains x with
    | true=>exact trimL_eq c l
    | false=>rfl
theorem dropW_app {α : Type} (p : α → Bool) : ∀ (l : List α) (x : α),(l ++ [x]).dropWhile p = match l.dropWhile p with | []=>[x].dropWhile p | y :: k=>y :: k ++ [x]
  | [],x=>rfl
  | a :: l,x=>by
    rw [List.cons_append,List.dropWhile_cons,List.dropWhile_cons]
    cases p a with
    | true=>exact dropW_app p l x
    | false=>rfl
theorem trimRS_cons (c : List UInt8) (x : UInt8) (l : List UInt8) : Lib.trimRightS (x :: l) c = match Lib.trimRightS l c with | []=>if c.contains x then [] else [x] | y :: k=>x :: y :: k:=by
  unfold Lib.trimRightS
  rw [List.reverse_cons,dropW_app]
  cases h : l.reverse.dropWhile (c.contains ·) with
  | nil =>
    simp only [List.reverse_nil]
    rw [List.dropWhile_cons]
    cases c.contains x <;> rfl
  | cons y k =>
    simp only [List.reverse_append,List.reverse_cons,List.reverse_nil,List.nil_append,List.singleton_append]
    cases h2 : (y :: k).reverse with
    | nil=>simp at h2
    | cons a b =>
      rw [List.reverse_cons] at h2
      rw [h2]
theorem trimR_eq (c : List UInt8) : ∀ l : List UInt8,trimR (c.map UInt8.toNat) (l.map UInt8.toNat) = (Lib.trimRightS l c).map UInt8.toNat
  | []=>rfl
  | x :: l=>by
    rw [List.map_cons,trimR,any_toN,trimR_eq c l,trimRS_cons]
    cases h : Lib.trimRightS l c with
    | nil =>
      simp only [List.map_nil]
      cases c.contains x <;> rfl
    | cons y k=>rfl
theorem asc_ok {c : List UInt8} (h : asc (c.map UInt8.toNat) = true) : ∀ (j : Nat) b,c[j]? = some b → b.toNat < 128:=fun j b hb=>by
  unfold asc at h
  rw [List.all_map,List.all_eq_true] at h
  have:=h b (List.mem_of_getElem? hb)
  rwa [Function.comp_apply,Nat.blt_eq] at this
theorem okT_ok {s c : List UInt8} (h : okT (s.map UInt8.toNat) (c.map UInt8.toNat) = true) : (∀ (j : Nat) b,c[j]? = some b → b.toNat < 128) ∧ s.length ≤ 1000000 ∧ c.length ≤ 1000:=by
  unfold okT at h
  simp only [Bool.and_eq_true] at h
  obtain ⟨h1,h2,h3⟩:=h
  have h2:=Nat.le_of_ble_eq_true h2
  have h3:=Nat.le_of_ble_eq_true h3
  rw [List.length_map] at h2 h3
  exact ⟨asc_ok h1,h2,h3⟩
theorem trimL_ok {xs : List AV} {h : H} {r : CRes} (hr : mTrimL xs h = some r) : CalOk Tryz.prog tb NN (.fn 92 [] []) xs h r:=by
  unfold mTrimL at hr
  split at hr <;> try (cases hr; done)
  next s c =>
  cases hk : okT s c with
  | false=>rw [hk] at hr; cases hr
  | true =>
    rw [hk,cond_true] at hr
    injection hr with hr
    subst hr
    refine CalOk.of_calls ⟨_,Tryz.func92,by decide,by decide⟩ fun m w args B hw ha _=>?_
    obtain ⟨u1,u2,e,v1,v2⟩:=ha.two
    obtain ⟨b1,rfl,rfl⟩:=v1.str_inv
    obtain ⟨b2,rfl,rfl⟩:=v2.str_inv
    rw [args_eq e]
    obtain ⟨q1,q2,q3⟩:=okT_ok hk
    refine (Any.strings_TrimLeft_laid Tryz.lays161 (by kernel_rfl) b1 b2 w ?_ q1).mono fun e w' q=>⟨_,m,q.1,?_,below_kept q.2 hw B⟩
    · have : b2.size = b2.data.toList.length:=rfl
      omega
    · exact VR.of_bytes (trimL_eq _ _)
theorem trim_ok {xs : List AV} {h : H} {r : CRes} (hr : mTrim xs h = some r) : CalOk Tryz.prog tb NN (.fn 286 [] []) xs h r:=by
  unfold mTrim at hr
  split at hr <;> try (cases hr; done)
  next s c =>
  cases hk : okT s c with
  | false=>rw [hk] at hr; cases hr
  | true =>
    rw [hk,cond_true] at hr
    injection hr with hr
    subst hr
    refine CalOk.of_calls ⟨_,Tryz.func286,by decide,by decide⟩ fun m w args B hw ha _=>?_
    obtain ⟨u1,u2,e,v1,v2⟩:=ha.two
    obtain ⟨b1,rfl,rfl⟩:=v1.str_inv
    obtain ⟨b2,rfl,rfl⟩:=v2.str_inv
    rw [args_eq e]
    obtain ⟨q1,q2,q3⟩:=okT_ok hk
    refine (Any.strings_Trim_laid Tryz.lays160 (by kernel_rfl) b1 b2 w ?_ ?_ q1).mono fun e w' q=>⟨_,m,q.1,?_,below_kept q.2 hw B⟩
    · have : b1.size = b1.data.toList.length:=rfl
      omega
    · have : b2.size = b2.data.toList.length:=rfl
      omega
    · exact VR.of_bytes (by rw [trimR_eq,trimL_eq]; rfl)
theorem idxN_eq (c : UInt8) : ∀ (l : List UInt8) (n : Nat),idxN c.toNat (l.map UInt8.toNat) n = if Lib.indexByte l c = -1 then none else some (n + (Lib.indexByte l c).toNat)
  | [],n=>rfl
  | b :: l,n=>by
    rw [List.map_cons,idxN,Lib.indexByte]
    by_cases e : b = c
    · subst e
      rw [Nat.beq_refl]
      simp
    · have h1 : Nat.beq c.toNat b.toNat = false:=Bool.eq_false_iff.2 fun h=>e (UInt8.toNat_inj.1 (Nat.eq_of_beq_eq_true h)).symm
      have h2 : (b == c) = false:=by simp [e]
      rw [h1,h2,cond_false,idxN_eq c l (Nat.succ n)]
      have:=Lib.indexByte_ge l c
      by_cases e1 : Lib.indexByte l c = -1
      · simp [e1]
      · have e2 : (Lib.indexByte l c == -1) = false:=by simp [e1]
        rw [if_neg e1,e2]
        simp only [Bool.false_eq_true,if_false]
        rw [if_neg (by omega)]
        congr 1
        omega
theorem index_ok {xs : List AV} {h : H} {r : CRes} (hr : mIndex xs h = some r) : CalOk Tryz.prog tb NN (.fn 175 [] []) xs h r:=by
  unfold mIndex at hr
  split at hr <;> try (cases hr; done)
  next s b =>
  cases hb : Nat.blt b 256 with
  | false=>rw [hb] at hr; cases hr
  | true =>
    rw [hb,cond_true] at hr
    rw [Nat.blt_eq] at hb
    have key : ∀ v,(∀ (b1 : ByteArray),s = b1.data.toList.map UInt8.toNat → ∀ m,VR m v (.int .i64 (Lib.indexByte b1.data.toList (Int.toNat (.ofNat b)).toUInt8))) → CalOk Tryz.prog tb NN (.fn 175 [] []) [.str s,.int .u8 (.ofNat b)] h (.ret v h .no):=fun v hv=>by
      refine CalOk.of_calls ⟨_,Tryz.func175,by decide,by decide⟩ fun m w args B hw ha _=>?_
      obtain ⟨u1,u2,e,v1,v2⟩:=ha.two
      obtain ⟨b1,rfl,rfl⟩:=v1.str_inv
      have:=v2.int_inv
      subst this
      rw [args_eq e]
      refine (Tryz.stringslite_IndexByte b1 (.ofNat b) w).mono fun e w' q=>⟨_,m,q.1,hv b1 rfl m,?_⟩
      rw [q.2]
      exact ⟨hw,Go.refl _ _ _ _⟩
    have hc : (Int.toNat (.ofNat b)).toUInt8.toNat = b:=by
      show b % 256 = b
      omega
    cases hi : idxN b s 0 with
    | none =>
      rw [hi] at hr
      injection hr with hr
      subst hr
      refine key _ fun b1 e m=>?_
      rw [e,← hc,idxN_eq] at hi
      split at hi
      · next h1 =>
        rw [h1]
        exact .int _ _
      · cases hi
    | some i =>
      rw [hi] at hr
      injection hr with hr
      subst hr
      refine key _ fun b1 e m=>?_
      rw [e,← hc,idxN_eq] at hi
      split at hi
      · cases hi
      · next h1 =>
        injection hi with hi
        have:=Lib.indexByte_ge b1.data.toList (Int.toNat (.ofNat b)).toUInt8
        have e2 : Lib.indexByte b1.data.toList (Int.toNat (.ofNat b)).toUInt8 = Int.ofNat i:=by
          show _ = (i : Int)
          omega
        rw [e2]
        exact .int _ _
end
end Am
end Go.Proofs.YtadbcnekkceoaaaGreatDoor
namespace Go.Proofs.YtadbcnekkceoaaaGreatDoor
namespace Am
open Go.Shelf Go.RowKit
section
variable {tb : Tb} {NN : Nat → Nat}
theorem digs_eq : ∀ (f n : Nat) (acc : List Nat),n < 10 ^ (f + 1) → digs (f + 1) n acc = (Lib.decDigits n).map UInt8.toNat ++ acc:=fun f=>by
  induction f with
  | zero =>
    intro n acc h
    rw [digs,Lib.decDigits,dif_pos (by omega),show Nat.ble n 9 = true from ble_t (by omega)]
    show Nat.add 48 n :: acc = _
    rw [List.map_cons,List.map_nil,UInt8.toNat_ofNat',show (48 + n) % 2 ^ 8 = 48 + n from Nat.mod_eq_of_lt (by omega)]
    rfl
  | succ f ih =>
    intro n acc h
    rw [digs,Lib.decDigits]
    by_cases h9 : n < 10
    · rw [dif_pos h9,show Nat.ble n 9 = true from ble_t (by omega)]
      show Nat.add 48 n :: acc = _
      rw [List.map_cons,List.map_nil,UInt8.toNat_ofNat',show (48 + n) % 2 ^ 8 = 48 + n from Nat.mod_eq_of_lt (by omega)]
      rfl
    · rw [dif_neg h9,show Nat.ble n 9 = false from ble_f (by omega),cond_false,ih (Nat.div n 10) _ (by rw [Nat.pow_succ] at h; show n / 10 < _; omega)]
      rw [List.map_append,List.append_assoc,List.map_cons,List.map_nil,UInt8.toNat_ofNat',show (48 + n % 10) % 2 ^ 8 = 48 + n % 10 from Nat.mod_eq_of_lt (by omega)]
      rfl
theorem pw10_ok {t : T AV} : ∀ (n j p : Nat),pw10 t p n j = true → ∀ i,i < n → t.at (j + i) = some (.int .u64 (.ofNat (p * 10 ^ i)))
  | 0,_,_,_,i,hi=>absurd hi (Nat.not_lt_zero i)
  | n + 1,j,p,h,i,hi=>by
    unfold pw10 at h
    split at h <;> try (cases h; done)
    next x hx =>
    simp only [Bool.and_eq_true] at h
    have h1:=Nat.eq_of_beq_eq_true h.1
    subst h1
    cases i with
    | zero=>simpa using hx
    | succ i =>
      have:=pw10_ok n (Nat.succ j) (Nat.mul 10 x) h.2 i (by omega)
      rw [show j + (i + 1) = Nat.succ j + i by omega,this,Nat.pow_succ]
      congr 3
      show 10 * x * 10 ^ i = x * (10 ^ i * 10)
      rw [Nat.mul_comm (10 ^ i) 10,← Nat.mul_assoc,Nat.mul_comm x 10]
theorem itoa_ok {xs : List AV} {h : H} {r : CRes} (hg : Tryz.prog.globalNamed "internal/strconv.uint64pow10" = some 5) (hr : mItoa 5 xs h = some r) : CalOk Tryz.prog tb NN (.fn 420 [] []) xs h r:=by
  unfold mItoa at hr
  split at hr <;> try (cases hr; done)
  next n =>
  cases hb : Nat.blt n 100 with
  | true =>
    rw [hb,cond_true] at hr
    rw [Nat.blt_eq] at hb
    injection hr with hr
    subst hr
    refine CalOk.of_calls ⟨_,Tryz.func420,by decide,by decide⟩ fun m w args B hw ha _=>?_
    obtain ⟨u,e,v⟩:=ha.one
    have:=v.int_inv
    subst this
    rw [args_eq e]
    refine (Tryz.strconv_Itoa_small n hb w).mono fun e w' q=>⟨_,m,q.1,?_,?_⟩
    · exact VR.of_bytes (by rw [digs_eq 2 n [] (by omega),List.append_nil])
    · rw [q.2]; exact ⟨hw,Go.refl _ _ _ _⟩
  | false =>
    rw [hb,cond_false] at hr
    split at hr <;> try (cases hr; done)
    next c d hc hd =>
    split at hr <;> try (cases hr; done)
    next g' hgl =>
    cases hk : (Nat.beq 5 g' && (pw10 c 1 20 0 && Nat.blt n 1000)) with
    | false=>rw [hk] at hr; cases hr
    | true =>
      rw [hk,cond_true] at hr
      injection hr with hr
      subst hr
      simp only [Bool.and_eq_true] at hk
      obtain ⟨k1,k2,k3⟩:=hk
      have k1:=Nat.eq_of_beq_eq_true k1
      subst k1
      rw [Nat.blt_eq] at k3
      refine CalOk.of_calls ⟨_,Tryz.func420,by decide,by decide⟩ fun m w args B hw ha _=>?_
      obtain ⟨u,e,v⟩:=ha.one
      have:=v.int_inv
      subst this
      rw [args_eq e]
      have tab : Lib.TabIs Tryz.prog w "internal/strconv.uint64pow10" .u64 Lib.pow10Tab:=by
        obtain ⟨i1,s1,o1,a1,a2,a3⟩:=hw.blk _ _ hc
        obtain ⟨i2,s2,o2,b1,b2,b3⟩:=hw.blk _ _ hd
        have hm : m .xH = some (5,20):=by
          cases b3 with | cells q1 q2 q3 q4 q5 =>
          obtain ⟨v,u,p1,p2,p3⟩:=q3 0 (by omega)
          rw [hgl] at p1
          injection p1 with p1
          subst p1
          cases p3 with | glb _ h=>exact h
        rw [hm] at a1
        injection a1 with a1
        injection a1 with a4 a5
        subst a4; subst a5
        cases a3 with | cells q1 q2 q3 q4 q5 =>
        rename_i cs t fz
        show w.var? _ _ = _
        unfold World.var?
        rw [hg]
        show (match w.heap[5]? with | some (.cells cs _ _)=>some cs | _=>none) = _
        rw [a2]
        show some cs = _
        congr 1
        apply Array.ext
        · rw [q1]; rfl
        · intro i h1 h2
          obtain ⟨v,u,p1,p2,p3⟩:=q3 i (by omega)
          have:=pw10_ok 20 0 1 k2 i (by omega)
          rw [Nat.zero_add] at this
          rw [this] at p1
          injection p1 with p1
          subst p1
          have:=p3.int_inv
          subst this
          rw [Array.getElem?_eq_getElem h1] at p2
          injection p2 with p2
          rw [p2]
          have hi : i < 20:=by omega
          simp [Lib.pow10Tab]
      refine (Tryz.strconv_Itoa (.ofNat n) (by have : (Int.ofNat n) = (n : Int):=rfl; omega) (by have : (Int.ofNat n) = (n : Int):=rfl; omega) w tab).mono fun e w' q=>⟨_,m,q.1,?_,?_⟩
      · exact VR.of_bytes (by
          rw [digs_eq 3 n [] (by omega),List.append_nil]
          show _ = (Lib.itoa (n : Int)).map _
          unfold Lib.itoa
          rw [if_neg (by omega)]
          rfl)
      · obtain ⟨k,os,rfl⟩:=q.2
        refine HR.more (w:=w) (w':=Sort.grow (w.drewN k) os) hw ?_ (fun k hk=>?_) rfl rfl rfl B
        · show w.heap.size ≤ (w.heap ++ os).size
          rw [Array.size_append]; omega
        · show (w.heap ++ os)[k]? = _
          rw [Array.getElem?_append_left hk]
end
end Am
end Go.Proofs.YtadbcnekkceoaaaGreatDoor
namespace Go.Proofs.YtadbcnekkceoaaaGreatDoor
namespace Am
open Go.Shelf Go.RowKit
def cbl : List (Nat × Nat × Nat):=[(90,8,17),(420,0,3),(88,0,2)]
set_option maxRecDepth 100000 in
theorem copy_used (w : World) (a : Addr) (h0 : w.cell? a = some (.pointer (some a))) :
    Calls Tryz.prog 413 #[.pointer (some a)] w fun e w'=>e = .returned (.tuple #[]) ∧ w' = w:=by
  obtain ⟨j,hj,_⟩:=Option.map_eq_some_iff.1 (show (Tryz.prog.info? 88).map (·.size) = some 2 from by kernel_rfl)
  go_enter Tryz.func413,Tryz.ntmps413
  go_wp2
  rw [Lib.run_neq_ptr_same w _ Tryz.underlying86 hj]
  go_wp2
  go_end0
  exact ⟨rfl,rfl⟩
set_option maxRecDepth 100000 in
theorem copy_fresh (w : World) (i o t n : Nat) (h0 : w.cell? ⟨i,o,none⟩ = some (.pointer none)) (hsh : w.shape? i = some (t,n)) (ho : o < n) (hfz : w.frozen? ⟨i,o,none⟩ = false) (hl : liesAt Tryz.prog Tryz.prog.depth t (n / Tryz.prog.cellsOf t) o 88 1 = true) :
    Calls Tryz.prog 413 #[.pointer (some ⟨i,o,none⟩)] w fun e w'=>e = .returned (.tuple #[]) ∧ w' = w.setCell ⟨i,o,none⟩ (.pointer (some ⟨i,o,none⟩)):=by
  obtain ⟨j,hj,hjs⟩:=Option.map_eq_some_iff.1 (show (Tryz.prog.info? 88).map (·.size) = some 2 from by kernel_rfl)
  go_enter Tryz.func413,Tryz.ntmps413
  go_wp2
  rw [Lib.run_to_unsafe w ⟨i,o,none⟩ Tryz.underlying86 Tryz.underlying487 hj (by rw [hjs]; decide) hsh ho]
  simp only [Result.andThen]
  rw [Oper.upon_value]
  go_wp2
  rw [run_callFunc_extern Tryz.func447 (by kernel_rfl) (by kernel_rfl) (by kernel_rfl) (e:=Extern.AbiNoEscape.same) (by kernel_rfl)]
  rw [Lib.run_noEscape]
  simp only [Result.andThen]
  rw [Oper.upon_value]
  go_wp2
  rw [Lib.run_from_unsafe w ⟨i,o,none⟩ Tryz.underlying487 Tryz.underlying86 hj hsh hl]
  simp only [Result.andThen]
  rw [Oper.upon_value]
  go_wp2
  go_end0
  exact ⟨rfl,rfl⟩
theorem rowAt_more {P : Program} {f : TypeId → Bool} : ∀ (d : Nat) {e : TypeId} {c o : Nat},o < P.cellsOf e → 1 ≤ c → rowAt P f d e 1 o 1 = true → rowAt P f d e c o 1 = true
  | 0,e,c,o,_,_,h=>by cases h
  | d + 1,e,c,o,ho,hc,h=>by
    unfold rowAt at h ⊢
    have h0 : P.cellsOf e ≠ 0:=by omega
    simp only [if_neg h0,Nat.div_eq_of_lt ho,Nat.mod_eq_of_lt ho,Nat.zero_add,Nat.zero_lt_one,Nat.le_refl,decide_true,Bool.and_true,Bool.true_and] at h ⊢
    have h1 : decide (1 ≤ c) = true:=decide_eq_true hc
    have h2 : decide (0 < c) = true:=decide_eq_true (by omega)
    simp only [h1,h2,Bool.and_true,Bool.true_and]
    exact h
theorem lies_more {P : Program} {e u : TypeId} {c o : Nat} (ho : o < P.cellsOf e) (hc : 1 ≤ c) {d : Nat} (hd : P.depth = d + 1) (h : rowAt P (sameLayout P P.depth · u) P.depth e 1 o 1 = true) : liesAt P P.depth e c o u 1 = true:=by
  have:=rowAt_more P.depth (c:=c) ho hc h
  conv=>lhs; rw [hd]
  unfold liesAt
  rw [this,Bool.true_or]
theorem depth_pos (P : Program) : ∃ d,P.depth = d + 1:=⟨2 * (P.types.size + Made.depth) + 1,rfl⟩
theorem cbl_ok {t o z c : Nat} (hm : (t,o,z) ∈ cbl) (hc : z ≤ c) : o ≠ 4094 ∧ o < z ∧ liesAt Tryz.prog Tryz.prog.depth t (c / Tryz.prog.cellsOf t) o 88 1 = true:=by
  obtain ⟨d,hd⟩:=depth_pos Tryz.prog
  simp only [cbl,List.mem_cons,List.not_mem_nil,or_false] at hm
  rcases hm with h | h | h
  · cases h
    have e : Tryz.prog.cellsOf 90 = 17:=by kernel_rfl
    exact ⟨by decide,by decide,lies_more (by rw [e]; decide) (by rw [e]; omega) hd (by kernel_rfl)⟩
  · cases h
    have e : Tryz.prog.cellsOf 420 = 3:=by kernel_rfl
    exact ⟨by decide,by decide,lies_more (by rw [e]; decide) (by rw [e]; omega) hd (by kernel_rfl)⟩
  · cases h
    have e : Tryz.prog.cellsOf 88 = 2:=by kernel_rfl
    exact ⟨by decide,by decide,lies_more (by rw [e]; decide) (by rw [e]; omega) hd (by kernel_rfl)⟩
theorem cbl_any {t o n : Nat} (h : cbl.any (fun x=>Nat.beq x.1 t && (Nat.beq x.2.1 o && Nat.ble x.2.2 n)) = true) : ∃ z,(t,o,z) ∈ cbl ∧ z ≤ n:=by
  rw [List.any_eq_true] at h
  obtain ⟨⟨t',o',z⟩,h1,h2⟩:=h
  simp only [Bool.and_eq_true] at h2
  have e1:=Nat.eq_of_beq_eq_true h2.1
  have e2:=Nat.eq_of_beq_eq_true h2.2.1
  subst e1; subst e2
  exact ⟨z,h1,Nat.le_of_ble_eq_true h2.2.2⟩
theorem setCell_pw {w : World} {i o t : Nat} {cs : Array Value} {fz : Nat × Nat} (h : w.heap[i]? = some (.cells cs t fz)) (v : Value) : w.setCell ⟨i,o,none⟩ v = pw w i (.cells (cs.setIfInBounds o v) t fz):=by
  have hi : i < w.heap.size:=by
    rcases Nat.lt_or_ge i w.heap.size with h' | h'
    · exact h'
    · rw [Array.getElem?_eq_none h'] at h; cases h
  unfold World.setCell pw
  congr 1
  apply Array.ext
  · simp
  · intro k h1 h2
    rw [Array.getElem_modify,Array.getElem_setIfInBounds (by simpa using h2)]
    split
    · next e =>
      subst e
      have : w.heap[i] = .cells cs t fz:=by rw [Array.getElem?_eq_getElem hi] at h; injection h
      simp only [this]
      rfl
    · rfl
theorem copyCheck_ok {tb : Tb} {NN : Nat → Nat} {xs : List AV} {h : H} {r : CRes} (hr : mCopy cbl xs h = some r) : CalOk Tryz.prog tb NN (.fn 413 [] []) xs h r:=by
  unfold mCopy at hr
  split at hr <;> try (cases hr; done)
  next b o =>
  split at hr <;> try (cases hr; done)
  next n c hg =>
  split at hr <;> try (cases hr; done)
  · next ho =>
    split at hr <;> try (cases hr; done)
    next t ht =>
    cases hk : (cbl.any (fun x=>Nat.beq x.1 t && (Nat.beq x.2.1 o && Nat.ble x.2.2 n)) && Nat.blt o n) with
    | false=>rw [hk] at hr; cases hr
    | true =>
      rw [hk,cond_true] at hr
      injection hr with hr
      subst hr
      simp only [Bool.and_eq_true] at hk
      obtain ⟨k1,k2⟩:=hk
      rw [Nat.blt_eq] at k2
      obtain ⟨z,k3,k4⟩:=cbl_any k1
      refine CalOk.of_calls ⟨_,Tryz.func413,by decide,by decide⟩ fun m w args B hw ha _=>?_
      obtain ⟨u,e,v⟩:=ha.one
      obtain ⟨i,sz,hm,rfl⟩:=v.ptr_inv
      rw [args_eq e]
      obtain ⟨i',sz',cs,t',fz,a1,a2,a3,a4,a5,a6,a7⟩:=hw.cells hg
      rw [hm] at a1
      injection a1 with a1
      injection a1 with e1 e2
      subst e1; subst e2
      have:=a7 _ ht
      subst this
      have hfz:=a6 rfl
      subst hfz
      obtain ⟨b1,b2,b3⟩:=cbl_ok (c:=cs.size) k3 (by omega)
      obtain ⟨v0,u0,c1,c2,c3⟩:=a5 o k2
      rw [ho] at c1
      injection c1 with c1
      subst c1
      cases c3
      have hcell : w.cell? ⟨i,o,none⟩ = some (.pointer none):=by rw [Lib.cell_of_heap a2]; exact c2
      refine (copy_fresh w i o t' cs.size hcell (by simp [World.shape?,a2]) (by omega) (Lib.frozen_of_heap a2 o) b3).mono fun e w' q=>?_
      rw [setCell_pw a2] at q
      refine ⟨_,m,q.1,.tup .nil,?_⟩
      rw [q.2]
      refine hw.turn hg rfl hm (.cells (by simpa using a3) a4 (fun j hj=>?_) (fun _=>rfl) (fun q hq=>a7 q ?_)) rfl B
      · rw [T.at_layN]
        by_cases e : j = o
        · subst e
          rw [if_pos ⟨Nat.le_refl _,by simp⟩,Nat.sub_self]
          exact ⟨_,_,rfl,by rw [Array.getElem?_setIfInBounds_self_of_lt (by omega)],.ptr _ hm⟩
        · obtain ⟨v1,u1,d1,d2,d3⟩:=a5 j hj
          rw [if_neg (by simp only [List.length_cons,List.length_nil]; omega)]
          exact ⟨v1,u1,d1,by rw [Array.getElem?_setIfInBounds_ne (Ne.symm e)]; exact d2,d3⟩
      · rw [← mkP_at,T.at_layN,if_neg (by simp only [List.length_cons,List.length_nil]; omega),mkP_at] at hq
        exact hq
  · next b' o' ho =>
    cases hk : (Pos.beq b b' && (Nat.beq o o' && Nat.blt o n)) with
    | false=>rw [hk] at hr; cases hr
    | true =>
      rw [hk,cond_true] at hr
      injection hr with hr
      subst hr
      simp only [Bool.and_eq_true] at hk
      obtain ⟨k1,k2,k3⟩:=hk
      have k1:=Pos.beq_eq k1
      have k2:=Nat.eq_of_beq_eq_true k2
      subst k1; subst k2
      rw [Nat.blt_eq] at k3
      refine CalOk.of_calls ⟨_,Tryz.func413,by decide,by decide⟩ fun m w args B hw ha _=>?_
      obtain ⟨u,e,v⟩:=ha.one
      obtain ⟨i,sz,hm,rfl⟩:=v.ptr_inv
      rw [args_eq e]
      obtain ⟨i',sz',cs,t',fz,a1,a2,a3,a4,a5,a6,a7⟩:=hw.cells hg
      rw [hm] at a1
      injection a1 with a1
      injection a1 with e1 e2
      subst e1; subst e2
      obtain ⟨v0,u0,c1,c2,c3⟩:=a5 o k3
      rw [ho] at c1
      injection c1 with c1
      subst c1
      obtain ⟨i2,s2,f1,rfl⟩:=c3.ptr_inv
      rw [hm] at f1
      injection f1 with f1
      injection f1 with g1 g2
      subst g1; subst g2
      refine (copy_used w ⟨i,o,none⟩ (by rw [Lib.cell_of_heap a2]; exact c2)).mono fun e w' q=>⟨_,m,q.1,.tup .nil,?_⟩
      rw [q.2]
      exact ⟨hw,Go.refl _ _ _ _⟩
end Am
end Go.Proofs.YtadbcnekkceoaaaGreatDoor
namespace Go.Proofs.YtadbcnekkceoaaaGreatDoor
namespace Am
open Go.Shelf Go.RowKit
set_option maxHeartbeats 1000000 in
set_option maxRecDepth 100000 in
theorem string_row (w : World) (i o g cap : Nat) (cs : Array Value) (fz : Nat × Nat) (l : List UInt8) (h1 : w.cell? ⟨i,o + 1,none⟩ = some (.slice (some ⟨g,0,none⟩) l.length cap)) (h0 : l ≠ []) (hg : w.heap[g]? = some (.cells cs 5 fz)) (hn : l.length ≤ cs.size) (hcap : l.length ≤ cap) (h63 : l.length ≤ 9223372036854775807) (hl : ∀ (j : Nat) (x : UInt8),l[j]? = some x → cs[j]? = some (Value.int .u8 x.toNat)) :
    Calls Tryz.prog 37 #[.pointer (some ⟨i,o,none⟩)] w fun e w'=>e = .returned (.string ⟨l.toArray⟩) ∧ ∃ k,w' = (w.drewN k).freeze ⟨g,0,none⟩ l.length:=by
  have hl0 : l.length ≠ 0:=by simpa using h0
  have c1 : w.drew.cell? ⟨i,o + 1,none⟩ = some (.slice (some ⟨g,0,none⟩) l.length cap):=h1
  have hSD : (Builtin.unsafeSliceData_ #[53] 174 #[.slice (some ⟨g,0,none⟩) l.length cap]).run Tryz.prog w.drew = .ok (.pointer (some ⟨g,0,none⟩)) w.drew :=
    Lib.run_unsafeSliceData_row _ _ _ _ _ _ (by omega)
  have hUS : (Builtin.unsafeString_ #[174,3] 9 #[.pointer (some ⟨g,0,none⟩),.int .i64 l.length]).run Tryz.prog w.drew = .ok (.string ⟨l.toArray⟩) (w.drew.freeze ⟨g,0,none⟩ l.length):=by
    refine Lib.run_unsafeString_row w.drew 174 3 9 5 Tryz.underlying174 (by kernel_rfl) g cs.size (by have hg' : w.drew.heap[g]? = some (.cells cs 5 fz):=hg; simp [World.shape?,hg']) l h0 (by omega) h63 ?_
    intro j x hx
    have hg' : w.drew.heap[g]? = some (.cells cs 5 fz):=hg
    have:=hl j x hx
    rw [addr_add,Lib.cell_of_heap hg',Nat.zero_add]
    exact this
  go_enter Tryz.func37,Tryz.ntmps37
  go_wp2
  go_region
  all_goals (go_wp2; go_ret; exact ⟨rfl,1,rfl⟩)
section
variable {tb : Tb} {N : Nat → Nat} {m : Mp} {h : H} {w : World}
theorem HR.turnR (hr : HR tb N m h w) {a : Pos} {b b' : AB} {k sz : Nat} {o' : Obj} (hg : h.get a = some b) (hro : b.ro = false) (ha : m a = some (k,sz)) (hb : BR tb N m b' o' sz) (B : Nat) : HR tb N m (h.set a b') (pw w k o') ∧ Go B m h w m (h.set a b') (pw w k o'):=by
  have hk:=hr.lt _ _ _ ha
  refine ⟨⟨fun c x hc=>?_,fun c c' x x' i s s' hc hc' h1 h2=>?_,fun c i s hc=>by rw [pw_size]; exact hr.lt _ _ _ hc,hr.fresh⟩,⟨Mp.le_refl m,fun i _ hn=>pw_ne w o' (fun e=>hn (e ▸ ⟨a,b,sz,hg,hro,ha⟩)),fun i hi=>.inr ?_,fun i hi=>.inr ?_,fun _ _ h=>h,Nat.le_refl _,by rw [pw_size]; exact Nat.le_refl _,rfl,rfl,rfl⟩⟩
  · rw [H.get_set] at hc
    split at hc
    · next e=>subst e; injection hc with hc; subst hc; exact ⟨k,sz,o',ha,pw_same hk o',hb⟩
    · next e =>
      obtain ⟨i,s,o,h1,h2,h3⟩:=hr.blk c x hc
      refine ⟨i,s,o,h1,(pw_ne w o' (fun e'=>?_)).trans h2,h3⟩
      subst e'
      rcases hr.inj c a x b i s sz hc hg h1 ha with e1 | ⟨_,e1⟩
      · exact e e1
      · rw [hro] at e1; cases e1
  · rw [H.get_set] at hc hc'
    split at hc
    · next e =>
      subst e
      injection hc with hc; subst hc
      split at hc'
      · next e'=>exact .inl e'.symm
      · rcases hr.inj c c' b x' i s s' hg hc' h1 h2 with e1 | ⟨e1,_⟩
        · exact .inl e1
        · rw [hro] at e1; cases e1
    · split at hc'
      · next e' =>
        subst e'
        injection hc' with hc'; subst hc'
        rcases hr.inj c c' x b i s s' hc hg h1 h2 with e1 | ⟨_,e1⟩
        · exact .inl e1
        · rw [hro] at e1; cases e1
      · exact hr.inj c c' x x' i s s' hc hc' h1 h2
  · obtain ⟨c,x,s,h1,h2,h3⟩:=hi
    rw [H.get_set] at h1
    split at h1
    · next e=>subst e; exact ⟨c,b,s,hg,hro,h3⟩
    · exact ⟨c,x,s,h1,h2,h3⟩
  · obtain ⟨c,x,s,h1,h3⟩:=hi
    rw [H.get_set] at h1
    split at h1
    · next e=>subst e; exact ⟨c,b,s,hg,h3⟩
    · exact ⟨c,x,s,h1,h3⟩
end
theorem rowB_ok {c : T AV} : ∀ (n o : Nat) (l : List Nat),rowB c o n = some l → l.length = n ∧ ∀ (j x : Nat),l[j]? = some x → c.at (o + j) = some (.int .u8 (.ofNat x)) ∧ x < 256
  | 0,o,l,h=>by
    injection h with h
    subst h
    exact ⟨rfl,fun j x hx=>by simp at hx⟩
  | n + 1,o,l,h=>by
    unfold rowB at h
    split at h <;> try (cases h; done)
    next b hb =>
    cases hk : Nat.blt b 256 with
    | false=>rw [hk] at h; cases h
    | true =>
      rw [hk,cond_true] at h
      rw [Nat.blt_eq] at hk
      split at h <;> try (cases h; done)
      next l' hl =>
      injection h with h
      subst h
      obtain ⟨h1,h2⟩:=rowB_ok n (Nat.succ o) l' hl
      refine ⟨by simp [h1],fun j x hx=>?_⟩
      cases j with
      | zero=>simp at hx; subst hx; exact ⟨hb,hk⟩
      | succ j =>
        have:=h2 j x (by simpa using hx)
        rw [show o + (j + 1) = Nat.succ o + j by omega]
        exact this
theorem freeze_pw {w : World} {g t : Nat} {cs : Array Value} {fz : Nat × Nat} (h : w.heap[g]? = some (.cells cs t fz)) {n : Nat} (hn : n ≠ 0) : ∃ fz',w.freeze ⟨g,0,none⟩ n = pw w g (.cells cs t fz'):=by
  have hi : g < w.heap.size:=by
    rcases Nat.lt_or_ge g w.heap.size with h' | h'
    · exact h'
    · rw [Array.getElem?_eq_none h'] at h; cases h
  obtain ⟨lo,hi'⟩:=fz
  refine ⟨if lo == hi' then (0,0 + n) else (min lo 0,max hi' (0 + n)),?_⟩
  unfold World.freeze pw
  rw [if_neg hn]
  congr 1
  apply Array.ext
  · simp
  · intro k h1 h2
    rw [Array.getElem_modify,Array.getElem_setIfInBounds (by simpa using h2)]
    split
    · next e =>
      subst e
      have : w.heap[g] = .cells cs t (lo,hi'):=by rw [Array.getElem?_eq_getElem hi] at h; injection h
      simp only [this]
    · rfl
set_option maxHeartbeats 1000000 in
set_option maxRecDepth 100000 in
theorem string_nil (w : World) (i o : Nat) (h1 : w.cell? ⟨i,o + 1,none⟩ = some (.slice none 0 0)) :
    Calls Tryz.prog 37 #[.pointer (some ⟨i,o,none⟩)] w fun e w'=>e = .returned (.string ⟨#[]⟩) ∧ ∃ k,w' = w.drewN k:=by
  have c1 : w.drew.cell? ⟨i,o + 1,none⟩ = some (.slice none 0 0):=h1
  have hSD : (Builtin.unsafeSliceData_ #[53] 174 #[.slice none 0 0]).run Tryz.prog w.drew = .ok (.pointer none) w.drew:=rfl
  have hUS : ∀ W : World,∀ q : Option Addr,(Builtin.unsafeString_ #[174,3] 9 #[.pointer q,.int .i64 0]).run Tryz.prog W = .ok (.string .empty) W:=fun W q=>Lib.run_unsafeString_none W _ _ _ q
  go_enter Tryz.func37,Tryz.ntmps37
  go_wp2
  go_region
  all_goals (go_wp2; go_ret; exact ⟨rfl,1,rfl⟩)
theorem string_ok {tb : Tb} {NN : Nat → Nat} {xs : List AV} {h : H} {r : CRes} (hr : mString 5 xs h = some r) : CalOk Tryz.prog tb NN (.fn 37 [] []) xs h r:=by
  unfold mString at hr
  split at hr <;> try (cases hr; done)
  next b o =>
  split at hr <;> try (cases hr; done)
  next n c hg =>
  cases hk : Nat.blt (Nat.succ o) n with
  | false=>rw [hk] at hr; cases hr
  | true =>
    rw [hk,cond_true] at hr
    rw [Nat.blt_eq] at hk
    split at hr <;> try (cases hr; done)
    · next ho =>
      injection hr with hr
      subst hr
      refine CalOk.of_calls ⟨_,Tryz.func37,by decide,by decide⟩ fun m w args B hw ha _=>?_
      obtain ⟨u,e,v⟩:=ha.one
      obtain ⟨i,sz,hm,rfl⟩:=v.ptr_inv
      rw [args_eq e]
      obtain ⟨i',sz',cs,t',fz,a1,a2,a3,a4,a5,a6,a7⟩:=hw.cells hg
      rw [hm] at a1
      injection a1 with a1
      injection a1 with e1 e2
      subst e1; subst e2
      obtain ⟨v0,u0,c1,c2,c3⟩:=a5 (o + 1) hk
      rw [show c.at (o + 1) = some .nils from ho] at c1
      injection c1 with c1
      subst c1
      cases c3
      refine (string_nil w i o (by rw [Lib.cell_of_heap a2]; exact c2)).mono fun e w' q=>⟨_,m,q.1,VR.of_bytes rfl,?_⟩
      obtain ⟨k,rfl⟩:=q.2
      exact HR.more (w:=w) (w':=w.drewN k) hw (Nat.le_refl _) (fun _ _=>rfl) rfl rfl rfl B
    · next a k ho =>
      split at hr <;> try (cases hr; done)
      next q d hgd =>
      split at hr <;> try (cases hr; done)
      next t ht =>
      cases hk2 : (Nat.beq t 5 && (Nat.blt 0 k && Nat.ble k q)) with
      | false=>rw [hk2] at hr; cases hr
      | true =>
        rw [hk2,cond_true] at hr
        simp only [Bool.and_eq_true] at hk2
        obtain ⟨k1,k2,k3⟩:=hk2
        have k1:=Nat.eq_of_beq_eq_true k1
        subst k1
        rw [Nat.blt_eq] at k2
        have k3:=Nat.le_of_ble_eq_true k3
        split at hr <;> try (cases hr; done)
        next s hs =>
        injection hr with hr
        subst hr
        obtain ⟨r1,r2⟩:=rowB_ok _ _ _ hs
        refine CalOk.of_calls ⟨_,Tryz.func37,by decide,by decide⟩ fun m w args B hw ha _=>?_
        obtain ⟨u,e,v⟩:=ha.one
        obtain ⟨i,sz,hm,rfl⟩:=v.ptr_inv
        rw [args_eq e]
        obtain ⟨i',sz',cs,t',fz,a1,a2,a3,a4,a5,a6,a7⟩:=hw.cells hg
        rw [hm] at a1
        injection a1 with a1
        injection a1 with e1 e2
        subst e1; subst e2
        obtain ⟨v0,u0,c1,c2,c3⟩:=a5 (o + 1) hk
        rw [show c.at (o + 1) = some (.slc a 0 k 1) from ho] at c1
        injection c1 with c1
        subst c1
        cases c3 with
        | slc0 o' c h0 h1=>exact absurd h1 (Nat.lt_irrefl 0)
        | slc hma hle hsz hmax =>
        rename_i g sg cap
        obtain ⟨g',sg',cs',t5,fz',b1,b2,b3,b4,b5,b6,b7⟩:=hw.cells hgd
        rw [hma] at b1
        injection b1 with b1
        injection b1 with e1 e2
        subst e1; subst e2
        have:=b7 _ ht
        subst this
        let l : List UInt8:=s.map UInt8.ofNat
        have hls : l.map UInt8.toNat = s:=by
          show (s.map UInt8.ofNat).map UInt8.toNat = s
          rw [List.map_map]
          conv=>rhs; rw [← List.map_id s]
          apply List.map_congr_left
          intro x hx
          obtain ⟨j,hj⟩:=List.getElem?_of_mem hx
          have:=(r2 j x hj).2
          show (UInt8.ofNat x).toNat = x
          rw [UInt8.toNat_ofNat',Nat.mod_eq_of_lt (by omega)]
        have hll : l.length = k:=by show (s.map _).length = k; rw [List.length_map,r1]
        have hl : ∀ (j : Nat) (x : UInt8),l[j]? = some x → cs'[j]? = some (Value.int .u8 x.toNat):=fun j x hx=>by
          have hsj : s[j]? = some x.toNat:=by rw [← hls,List.getElem?_map,hx]; rfl
          have hj : j < k:=by
            have:=(List.getElem?_eq_some_iff.1 hx).1
            omega
          obtain ⟨v1,u1,d1,d2,d3⟩:=b5 j (by omega)
          have:=(r2 j _ hsj).1
          rw [Nat.zero_add] at this
          rw [this] at d1
          injection d1 with d1
          subst d1
          rw [d2,d3.int_inv]
          rfl
        refine (string_row w i o g cap cs' fz' l (by rw [hll,Lib.cell_of_heap a2]; exact c2) (fun e=>by rw [e] at hll; simp at hll; omega) b2 (by omega) (by omega) (by omega) hl).mono fun e w' q=>?_
        obtain ⟨q1,kk,q2⟩:=q
        obtain ⟨fz2,q3⟩:=freeze_pw (w:=w.drewN kk) (n:=l.length) b2 (by omega)
        rw [q3] at q2
        refine ⟨_,m,q1,VR.of_bytes hls.symm,?_⟩
        rw [q2]
        have hw' : HR tb NN m h (w.drewN kk):=hw.congr rfl
        obtain ⟨g1,g2⟩:=hw'.turnR (b':=.cells true q d) hgd rfl hma (.cells b3 b4 b5 (fun e=>by cases e) b7) (o':=.cells cs' 5 fz2) B
        exact ⟨g1,⟨g2.le,g2.keep,g2.img,g2.imgA,g2.new,g2.next,g2.size,g2.os,g2.tape,g2.output⟩⟩
end Am
end Go.Proofs.YtadbcnekkceoaaaGreatDoor
