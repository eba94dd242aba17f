/- Operations that read no memory. -/
import Derived.Test.YtadbcnekkceoaaaGreatDoorKOAmT
import Derived.Laws.Cells
import Derived.Laws.CopyRow
import Derived.Laws.Tables
import Derived.ChangeKeysEq
import Derived.IntWalk
set_option linter.unusedVariables false
namespace Go.Proofs.YtadbcnekkceoaaaGreatDoor
namespace Am
def ofVF : Nat → Value → AV
  | 0,_=>.junk
  | f + 1,v=>match v with
    | .int k n=>.int k n
    | .bool b=>.bool b
    | .string s=>.str (s.data.toList.map UInt8.toNat)
    | .pointer none=>.nilp
    | .slice none 0 0=>.nils
    | .map none=>.nilm
    | .nilFunc=>.nilf
    | .nilIface=>.nili
    | .func (.func g) a b=>.fn g (a.toList.map (ofVF f)) (b.toList.map (ofVF f))
    | .agg cs=>.agg (cs.toList.map (ofVF f))
    | .tuple cs=>.tup (cs.toList.map (ofVF f))
    | .iface t v=>.ifc t (ofVF f v)
    | _=>.junk
def ofV (v : Value) : AV:=ofVF 4 v
theorem VRs.of_map {m : Mp} {g : Value → AV} (h : ∀ v,VR m (g v) v) : ∀ l : List Value,VRs m (l.map g) l
  | []=>.nil
  | v :: l=>.cons (h v) (VRs.of_map h l)
theorem ofVF_ok (m : Mp) : ∀ (f : Nat) (v : Value),VR m (ofVF f v) v
  | 0,v=>.junk v
  | f + 1,v=>by
    unfold ofVF
    split
    · exact .int _ _
    · exact .bool _
    · exact .str _
    · exact .nilp
    · exact .nils
    · exact .nilm
    · exact .nilf
    · exact .nili
    · exact .fn _ (VRs.of_map (ofVF_ok m f) _) (VRs.of_map (ofVF_ok m f) _)
    · exact .agg (VRs.of_map (ofVF_ok m f) _)
    · exact .tup (VRs.of_map (ofVF_ok m f) _)
    · exact .ifc _ (ofVF_ok m f _)
    · exact .junk _
theorem ofV_ok (m : Mp) (v : Value) : VR m (ofV v) v:=ofVF_ok m 4 v
def ilt : Int → Int → Bool
  | .ofNat a,.ofNat b=>Nat.blt a b
  | .ofNat _,.negSucc _=>false
  | .negSucc _,.ofNat _=>true
  | .negSucc a,.negSucc b=>Nat.blt b a
def ieq : Int → Int → Bool
  | .ofNat a,.ofNat b=>Nat.beq a b
  | .negSucc a,.negSucc b=>Nat.beq a b
  | _,_=>false
def iadd : Int → Int → Int
  | .ofNat a,.ofNat b=>.ofNat (Nat.add a b)
  | a,b=>a + b
def isub : Int → Int → Int
  | .ofNat a,.ofNat b=>bif Nat.ble b a then .ofNat (Nat.sub a b) else .negSucc (Nat.pred (Nat.sub b a))
  | a,b=>a - b
def imul : Int → Int → Int
  | .ofNat a,.ofNat b=>.ofNat (Nat.mul a b)
  | a,b=>a * b
theorem nbeq_t {a b : Nat} (h : a = b) : Nat.beq a b = true:=by subst h; exact Nat.beq_refl a
theorem nbeq_f {a b : Nat} (h : a ≠ b) : Nat.beq a b = false:=by cases e : Nat.beq a b with | false=>rfl | true=>exact absurd (Nat.eq_of_beq_eq_true e) h
theorem ble_t {a b : Nat} (h : a ≤ b) : Nat.ble a b = true:=by rw [Nat.ble_eq]; exact h
theorem ble_f {a b : Nat} (h : ¬ a ≤ b) : Nat.ble a b = false:=by
  cases e : Nat.ble a b with
  | false=>rfl
  | true=>rw [Nat.ble_eq] at e; exact absurd e h
theorem ble_le {a b : Nat} (h : Nat.ble a b = true) : a ≤ b:=by rw [Nat.ble_eq] at h; exact h
theorem blt_lt {a b : Nat} (h : Nat.blt a b = true) : a < b:=by rw [Nat.blt_eq] at h; exact h
theorem ilt_ok : ∀ a b : Int,ilt a b = decide (a < b)
  | .ofNat a,.ofNat b=>by
    simp only [ilt]
    by_cases h : a < b
    · rw [blt_t h]; symm; rw [decide_eq_true_iff]; exact Int.ofNat_lt.2 h
    · rw [blt_f (Nat.le_of_not_lt h)]; symm; rw [decide_eq_false_iff_not]; exact fun e=>h (Int.ofNat_lt.1 e)
  | .ofNat a,.negSucc b=>by simp only [ilt]; symm; rw [decide_eq_false_iff_not]; have : (Int.ofNat a) = (a : Int):=rfl; omega
  | .negSucc a,.ofNat b=>by simp only [ilt]; symm; rw [decide_eq_true_iff]; have : (Int.ofNat b) = (b : Int):=rfl; omega
  | .negSucc a,.negSucc b=>by
    simp only [ilt]
    by_cases h : b < a
    · rw [blt_t h]; symm; rw [decide_eq_true_iff]; omega
    · rw [blt_f (Nat.le_of_not_lt h)]; symm; rw [decide_eq_false_iff_not]; omega
theorem ieq_ok : ∀ a b : Int,ieq a b = (a == b)
  | .ofNat a,.ofNat b=>by
    simp only [ieq]
    by_cases h : a = b
    · subst h; rw [nbeq_t rfl]; simp
    · rw [nbeq_f h]; symm; rw [beq_eq_false_iff_ne]; exact fun e=>h (Int.ofNat.inj e)
  | .ofNat a,.negSucc b=>rfl
  | .negSucc a,.ofNat b=>rfl
  | .negSucc a,.negSucc b=>by
    simp only [ieq]
    by_cases h : a = b
    · subst h; rw [nbeq_t rfl]; simp
    · rw [nbeq_f h]; symm; rw [beq_eq_false_iff_ne]; exact fun e=>h (Int.negSucc.inj e)
theorem iadd_ok (a b : Int) : iadd a b = a + b:=by cases a <;> cases b <;> rfl
theorem imul_ok (a b : Int) : imul a b = a * b:=by cases a <;> cases b <;> rfl
theorem isub_ok (a b : Int) : isub a b = a - b:=by
  cases a <;> cases b <;> try rfl
  next a b =>
    simp only [isub]
    by_cases h : b ≤ a
    · rw [ble_t h,cond_true]
      show ((a - b : Nat) : Int) = (a : Int) - (b : Int)
      omega
    · rw [ble_f h,cond_false,Int.negSucc_eq,Nat.pred_eq_sub_one]
      show -((((b - a : Nat) - 1 : Nat) : Int) + 1) = (a : Int) - (b : Int)
      omega
def inR : IntKind → Int → Bool
  | .i64,.ofNat n=>Nat.ble n 9223372036854775807
  | .u64,.ofNat n=>Nat.ble n 18446744073709551615
  | .u8,.ofNat n=>Nat.ble n 255
  | .u32,.ofNat n=>Nat.ble n 4294967295
  | .i32,.ofNat n=>Nat.ble n 2147483647
  | .i64,.negSucc n=>Nat.ble n 9223372036854775807
  | .i32,.negSucc n=>Nat.ble n 2147483647
  | _,_=>false
def wrapK (k : IntKind) (n : Int) : Int:=bif inR k n then n else k.wrap n
theorem inR_ok (k : IntKind) (n : Int) (h : inR k n = true) : k.wrap n = n:=by
  cases k <;> cases n <;> simp only [inR] at h <;> (try cases h) <;> have h1:=ble_le h
  · next n=>exact Go.IntWalk.i32_in _ (by have : Int.ofNat n = (n : Int):=rfl; omega)
  · next n=>exact Go.IntWalk.i32_in _ (by omega)
  · next n=>exact Go.IntWalk.i64_in _ (by have : Int.ofNat n = (n : Int):=rfl; omega)
  · next n=>exact Go.IntWalk.i64_in _ (by omega)
  · next n=>exact Go.IntWalk.u8_in _ (by have : Int.ofNat n = (n : Int):=rfl; omega)
  · next n=>exact Go.IntWalk.u32_in _ (by have : Int.ofNat n = (n : Int):=rfl; omega)
  · next n=>exact Go.IntWalk.u64_in _ (by have : Int.ofNat n = (n : Int):=rfl; omega)
theorem wrapK_ok (k : IntKind) (n : Int) : wrapK k n = k.wrap n:=by
  unfold wrapK
  cases h : inR k n with
  | false=>rfl
  | true=>rw [cond_true,inR_ok k n h]
def bitN (op : BinOp) (a b : Nat) : Nat:=match op with | .and=>Nat.land a b | .or=>Nat.lor a b | .xor=>Nat.xor a b | _=>Nat.xor a (Nat.land a b)
def bitM (op : BinOp) (k : IntKind) (a b : Int) : Int:=match op with
  | .and=>k.wrap ((BitVec.ofInt k.bits a) &&& (BitVec.ofInt k.bits b)).toNat
  | .or=>k.wrap ((BitVec.ofInt k.bits a) ||| (BitVec.ofInt k.bits b)).toNat
  | .xor=>k.wrap ((BitVec.ofInt k.bits a) ^^^ (BitVec.ofInt k.bits b)).toNat
  | _=>k.wrap ((BitVec.ofInt k.bits a) &&& ~~~(BitVec.ofInt k.bits b)).toNat
def bitK (op : BinOp) (k : IntKind) (a b : Int) : Int :=
  match a,b with
  | .ofNat m,.ofNat n=>bif inR k (.ofNat m) && inR k (.ofNat n) then .ofNat (bitN op m n) else bitM op k a b
  | _,_=>bitM op k a b
def exK : IntKind → Nat | .i64=>63 | .u64=>64 | .u8=>8 | .u32=>32 | .i32=>31 | _=>0
theorem inR_pow {k : IntKind} {m : Nat} (h : inR k (.ofNat m) = true) : m < 2 ^ exK k ∧ exK k ≤ k.bits ∧ ∀ r,r < 2 ^ exK k → k.wrap (Int.ofNat r) = Int.ofNat r:=by
  have key : ∀ r,r < 2 ^ exK k → inR k (.ofNat r) = true:=fun r hr=>by
    cases k <;> simp only [inR] at h <;> (try cases h) <;> simp only [exK,inR] at hr ⊢ <;> exact ble_t (by omega)
  refine ⟨?_,?_,fun r hr=>inR_ok k _ (key r hr)⟩
  · cases k <;> simp only [inR] at h <;> (try cases h) <;> have h1:=ble_le h <;> simp only [exK] <;> omega
  · cases k <;> simp only [inR] at h <;> (try cases h) <;> decide
theorem bv_nat {k : IntKind} {m : Nat} (h : m < 2 ^ k.bits) : (BitVec.ofInt k.bits (Int.ofNat m)).toNat = m:=by
  have : BitVec.ofInt k.bits (Int.ofNat m) = BitVec.ofNat k.bits m:=BitVec.ofInt_natCast _ _
  rw [this,BitVec.toNat_ofNat,Nat.mod_eq_of_lt h]
theorem andNot_nat {w a b : Nat} (ha : a < 2 ^ w) (hb : b < 2 ^ w) : a &&& (2 ^ w - 1 - b) = a ^^^ (a &&& b):=by
  apply Nat.eq_of_testBit_eq
  intro i
  rw [Nat.testBit_and,Nat.testBit_xor,Nat.testBit_and]
  have : 2 ^ w - 1 - b = 2 ^ w - (b + 1):=by omega
  rw [this,Nat.testBit_two_pow_sub_succ hb]
  by_cases hi : i < w
  · simp [hi]; cases a.testBit i <;> cases b.testBit i <;> rfl
  · have : a.testBit i = false:=Nat.testBit_lt_two_pow (Nat.lt_of_lt_of_le ha (Nat.pow_le_pow_right (by decide) (Nat.le_of_not_lt hi)))
    simp [hi,this]
theorem bitK_ok (op : BinOp) (k : IntKind) (a b : Int) : bitK op k a b = bitM op k a b:=by
  unfold bitK
  split
  · next m n =>
    cases h : inR k (.ofNat m) && inR k (.ofNat n) with
    | false=>rfl
    | true =>
      rw [Bool.and_eq_true] at h
      obtain ⟨h1,h2⟩:=h
      obtain ⟨p1,p2,p3⟩:=inR_pow h1
      obtain ⟨q1,_,_⟩:=inR_pow h2
      have hp : 2 ^ exK k ≤ 2 ^ k.bits:=Nat.pow_le_pow_right (by decide) p2
      have e1:=bv_nat (k:=k) (Nat.lt_of_lt_of_le p1 hp)
      have e2:=bv_nat (k:=k) (Nat.lt_of_lt_of_le q1 hp)
      rw [cond_true]
      have ra : m &&& n < 2 ^ exK k:=Nat.and_lt_two_pow _ q1
      have ro : m ||| n < 2 ^ exK k:=Nat.or_lt_two_pow p1 q1
      have rx : m ^^^ n < 2 ^ exK k:=Nat.xor_lt_two_pow p1 q1
      have rn : m ^^^ (m &&& n) < 2 ^ exK k:=Nat.xor_lt_two_pow p1 ra
      unfold bitM
      split
      · rw [BitVec.toNat_and,e1,e2]; exact (p3 _ ra).symm
      · rw [BitVec.toNat_or,e1,e2]; exact (p3 _ ro).symm
      · rw [BitVec.toNat_xor,e1,e2]; exact (p3 _ rx).symm
      · next h1 h2 h3 =>
        rw [BitVec.toNat_and,BitVec.toNat_not,e1,e2,andNot_nat (Nat.lt_of_lt_of_le p1 hp) (Nat.lt_of_lt_of_le q1 hp)]
        have : bitN op m n = m ^^^ (m &&& n):=by
          unfold bitN
          split
          · exact absurd rfl h1
          · exact absurd rfl h2
          · exact absurd rfl h3
          · rfl
        rw [this]
        exact (p3 _ rn).symm
  · rfl
def kEq : IntKind → IntKind → Bool
  | .i8,.i8=>true | .i16,.i16=>true | .i32,.i32=>true | .i64,.i64=>true | .u8,.u8=>true | .u16,.u16=>true | .u32,.u32=>true | .u64,.u64=>true
  | _,_=>false
theorem kEq_ok {a b : IntKind} (h : kEq a b = true) : a = b:=by cases a <;> cases b <;> first | rfl | (exact absurd h (by decide))
def binInt (op : BinOp) (k : IntKind) (a b : Int) : Option AV :=
  match op with
  | .add=>some (.int k (wrapK k (iadd a b)))
  | .sub=>some (.int k (wrapK k (isub a b)))
  | .mul=>some (.int k (wrapK k (imul a b)))
  | .quo=>match a,b with | .ofNat m,.ofNat n=>bif Nat.beq n 0 then none else some (.int k (wrapK k (.ofNat (Nat.div m n)))) | _,_=>none
  | .rem=>match a,b with | .ofNat m,.ofNat n=>bif Nat.beq n 0 then none else some (.int k (.ofNat (Nat.mod m n))) | _,_=>none
  | .and | .or | .xor | .andNot=>some (.int k (bitK op k a b))
  | .eql=>some (.bool (ieq a b))
  | .neq=>some (.bool (!ieq a b))
  | .lss=>some (.bool (ilt a b))
  | .leq=>some (.bool (!ilt b a))
  | .gtr=>some (.bool (ilt b a))
  | .geq=>some (.bool (!ilt a b))
  | _=>none
def shK (op : BinOp) (k : IntKind) (a b : Int) : Option AV :=
  match a,b with
  | .ofNat m,.ofNat n =>
    let s:=bif Nat.ble n k.bits then n else k.bits
    match op with
    | .shl=>some (.int k (wrapK k (.ofNat (Nat.mul m (Nat.pow 2 s)))))
    | .shr=>some (.int k (.ofNat (Nat.div m (Nat.pow 2 s))))
    | _=>none
  | _,_=>none
section
variable {P : Program} {m : Mp} {w : World}
theorem binInt_ok {op : BinOp} {k : IntKind} {a b : Int} {v : AV} (h : binInt op k a b = some v) (t : TypeId) : ∃ u,(binOp op t (.int k a) (.int k b)).run P w = .ok u w ∧ VR m v u:=by
  have hdec : ∀ p : Prop,[Decidable p] → (decide ¬p) = !decide p:=fun p _=>by by_cases h : p <;> simp [h]
  cases op <;> simp only [binInt] at h
  case quo =>
    split at h
    · next x y =>
      cases hy : Nat.beq y 0 with
      | true=>rw [hy] at h; cases h
      | false =>
        rw [hy,cond_false] at h
        injection h with h; subst h
        have hy0 : (Int.ofNat y) ≠ 0:=fun e=>by have : y = 0:=Int.ofNat.inj e; subst this; cases hy
        refine ⟨_,?_,.int k _⟩
        simp only [binOp,ne_eq,not_true_eq_false,if_false,Op.intDiv,if_neg hy0,Sem.run_pure,wrapK_ok]
        rfl
    · cases h
  case rem =>
    split at h
    · next x y =>
      cases hy : Nat.beq y 0 with
      | true=>rw [hy] at h; cases h
      | false =>
        rw [hy,cond_false] at h
        injection h with h; subst h
        have hy0 : (Int.ofNat y) ≠ 0:=fun e=>by have : y = 0:=Int.ofNat.inj e; subst this; cases hy
        refine ⟨_,?_,.int k _⟩
        simp only [binOp,ne_eq,not_true_eq_false,if_false,Op.intDiv,if_neg hy0,Sem.run_pure]
        rfl
    · cases h
  case shl=>cases h
  case shr=>cases h
  all_goals
    injection h with h
    subst h
    refine ⟨_,?_,by constructor⟩
    simp [binOp,Op.intArith,Op.intBits,Op.intCmp,wrapK_ok,iadd_ok,isub_ok,imul_ok,bitK_ok,bitM,ieq_ok,ilt_ok,← Int.not_le,bne]
theorem shK_ok {op : BinOp} {k k' : IntKind} {a b : Int} {v : AV} (h : shK op k a b = some v) (t : TypeId) : ∃ u,(binOp op t (.int k a) (.int k' b)).run P w = .ok u w ∧ VR m v u:=by
  unfold shK at h
  split at h
  · next x y =>
    have hs : (bif Nat.ble y k.bits then y else k.bits) = min y k.bits:=by
      by_cases hh : y ≤ k.bits
      · rw [ble_t hh,cond_true,Nat.min_eq_left hh]
      · rw [ble_f hh,cond_false,Nat.min_eq_right (by omega)]
    have hy : ¬ (Int.ofNat y) < 0:=by have : (Int.ofNat y) = (y : Int):=rfl; omega
    simp only [hs] at h
    split at h
    · injection h with h; subst h
      refine ⟨_,?_,.int k _⟩
      simp only [binOp,Op.shift,if_neg hy,Sem.run_pure,wrapK_ok]
      congr 3
    · injection h with h; subst h
      refine ⟨_,?_,.int k _⟩
      simp only [binOp,Op.shift,if_neg hy,Sem.run_pure]
      congr 2
      show (x : Int).fdiv _ = ((x / 2 ^ min y k.bits : Nat) : Int)
      rw [Int.fdiv_eq_ediv_of_nonneg _ (by exact Int.pow_nonneg (by decide)),Int.natCast_ediv,Int.natCast_pow]
      rfl
    · cases h
  · cases h
end
end Am
end Go.Proofs.YtadbcnekkceoaaaGreatDoor
