/- A number's digits, as the document's answer writes them: walked. -/
import Derived.Test.YtadbcnekkceoaaaGreatDoorKOAmWk
import Derived.Scope
import Derived.WalkMore
import Derived.Outline
import Derived.Deep.RegionHeld3
set_option linter.unusedVariables false
namespace Go.Proofs.YtadbcnekkceoaaaGreatDoor.Wk
open Go.RowKit Mv
theorem size_any {w : World} {n : Nat} (h : n ≤ 255) : Calls Tryz.prog 14 #[.int .i64 (n : Int)] w fun e w'=>e = .returned (.int .u64 (n : Int)) ∧ w = w':=by
  have h1 : IntKind.u64.wrap (n : Int) = n:=Go.IntWalk.u64_in _ (by omega)
  go_enter Tryz.func14,Tryz.ntmps14
  go_wp2
  go_ret
  simp
theorem gcd_any {w : World} {a : Nat} (ha : a ≤ 255) : Calls Tryz.prog 18 #[.int .u64 (a : Int),.int .u64 1] w fun e w'=>e = .returned (.int .u64 1) ∧ w = w':=by
  go_enter Tryz.func18,Tryz.ntmps18
  go_wp2
  go_loop [0,1] (fun x y=>∃ c d : Nat,x = .int .u64 (c : Int) ∧ y = .int .u64 (d : Int) ∧ c ≤ 255 ∧ d ≤ 1 ∧ Hid (d = 0 → c = 1)) (fun _ y=>(intOf y).toNat)
  case atStart=>exact ⟨a,1,rfl,rfl,ha,Nat.le_refl _,fun h=>by cases h⟩
  case round =>
    obtain ⟨c,d,rfl,rfl,hc,hd,HG⟩:=hrel
    by_cases h0 : d = 0
    · have h1:=HG.out h0
      clear HG
      subst h0 h1
      go_wp2
      go_ret
      exact ⟨rfl,rfl⟩
    · obtain rfl : d = 1:=by omega
      go_wp2
      go_round
      case rel=>exact ⟨1,0,rfl,by go_num,by omega,by omega,fun _=>rfl⟩
      case measure=>simp [intOf]
theorem tright_any {w : World} {n : Nat} (h : n ≤ 255) : Calls Tryz.prog 12 #[.int .i64 (n : Int),.int .i64 1] w fun e w'=>e = .returned (.bool true) ∧ w = w':=by
  have h6 : IntKind.u64.wrap (1 : Int) = 1:=rfl
  have HC:=hide (gcd_any (w:=w) (a:=n) h)
  have HA:=hide (size_any (w:=w) (n:=n) h)
  go_enter Tryz.func12,Tryz.ntmps12
  go_wp2_with (first | (go_at_call 14; refine HA.out.mono ?_; rintro e w1 ⟨rfl,rfl⟩) | (go_at_call 18; refine HC.out.mono ?_; rintro e w1 ⟨rfl,rfl⟩))
  go_ret
  exact ⟨rfl,rfl⟩
def digsU (c : Nat) (t : List UInt8) : List UInt8:=if c ≤ 9 then UInt8.ofNat (48 + c) :: t else if c ≤ 99 then UInt8.ofNat (48 + c / 10) :: UInt8.ofNat (48 + c % 10) :: t else UInt8.ofNat (48 + c / 100) :: UInt8.ofNat (48 + c / 10 % 10) :: UInt8.ofNat (48 + c % 10) :: t
theorem digsU_step {c : Nat} (t : List UInt8) (h1 : 9 < c) (h2 : c ≤ 255) : digsU (c / 10) (UInt8.ofNat (48 + c % 10) :: t) = digsU c t:=by
  unfold digsU
  by_cases h : c ≤ 99
  · rw [if_pos (show c / 10 ≤ 9 by omega),if_neg (show ¬ c ≤ 9 by omega),if_pos h]
  · rw [if_neg (show ¬ c / 10 ≤ 9 by omega),if_pos (show c / 10 ≤ 99 by omega),if_neg (show ¬ c ≤ 9 by omega),if_neg h,Nat.div_div_eq_div_mul]
theorem digsU_end {c : Nat} (t : List UInt8) (h1 : c ≤ 9) : digsU c t = UInt8.ofNat (48 + c) :: t:=if_pos h1
theorem digsU_len {c : Nat} (t : List UInt8) : (digsU c t).length ≤ 3 + t.length:=by
  unfold digsU
  split
  · simp; omega
  · split <;> simp <;> omega
def numB (x : Nat) : ByteArray:=⟨(digsU x []).toArray⟩
theorem numB_size (x : Nat) : (numB x).size ≤ 3:=by
  have:=digsU_len (c:=x) []
  show (digsU x []).toArray.size ≤ 3
  simpa using this
end Go.Proofs.YtadbcnekkceoaaaGreatDoor.Wk
namespace Go.Proofs.YtadbcnekkceoaaaGreatDoor.Wk
open Go.RowKit Mv
abbrev ints : Array Value:=#[.int .i64 1,.int .i64 2,.int .i64 3,.int .i64 4,.int .i64 7,.int .i64 1,.int .i64 1,.int .i64 3,.int .i64 2,.int .i64 1,.int .i64 1]
abbrev sAw : ByteArray:=⟨#[40,100,101,102,105,110,101,32,40,102,32,110,41,32,40,105,102,32,40,61,32,110,32,48,41,32,49,32,40,42,32,110,32,40,102,32,40,45,32,110,32,49,41,41,41,41,41,32,40,102,32,53,41]⟩
theorem T20.drew {w : World} (h : Am.Tb20 w) : Am.Tb20 w.drew:=h
theorem bcell {w w' : World} (hu : Below w.heap.size w w') {a : Addr} {v : Value} (h : w.cell? a = some v) : w'.cell? a = some v:=by
  rw [World.cell?_of_block (hu.block _ (World.block_lt_of_cell? w _ h))]
  exact h
set_option maxRecDepth 100000 in
theorem awake_of {w : World} (ht : Am.Tb20 w) (hD : ∀ w' : World,Am.Tb20 w' → Calls Tryz.prog 7 #[.string sAw,.agg #[.bool false,.bool false,.bool false,.int .i64 0,.int .i64 0,.int .i64 0],.int .i64 100,.int .i64 1000] w' fun e w''=>e = .returned (.string ⟨#[49,50,48]⟩) ∧ Below w'.heap.size w' w'') :
    Calls Tryz.prog 5 #[] w fun e w'=>e = .returned (.bool true) ∧ Below w.heap.size w w':=by
  have HD:=hide hD
  have HT:=hide ht
  clear hD ht
  go_enter Tryz.func5,Tryz.ntmps5
  go_wp2_with (go_at_call 7; refine (HD.out _ HT.out).mono ?_; rintro e w1 ⟨rfl,hu⟩; have HU1:=hide hu; clear hu)
  go_ret
  exact ⟨rfl,HU1.out⟩
end Go.Proofs.YtadbcnekkceoaaaGreatDoor.Wk
namespace Go.Proofs.YtadbcnekkceoaaaGreatDoor.Wk
open Go.RowKit Mv
abbrev oP : ByteArray:=⟨#[40,40,98,101,103,105,110,32,40,100,105,115,112,108,97,121,32,39,102,41,32,43,41,32,40,98,101,103,105,110,32,40,100,105,115,112,108,97,121,32]⟩
abbrev oM : ByteArray:=⟨#[41,32,49,41,32,40,108,101,116,32,40,40,112,32,40,100,105,115,112,108,97,121,32]⟩
abbrev oQ : ByteArray:=⟨#[41,41,32,40,113,32,40,100,105,115,112,108,97,121,32,39,113,41,41,41,32,50,41,32,40,98,101,103,105,110,32,40,100,105,115,112,108,97,121,32,39,122,41,32,51,41,41]⟩
abbrev oF : ByteArray:=⟨#[102]⟩
abbrev oZ : ByteArray:=⟨#[113,122,54]⟩
def RunD (w : World) (bo bv : ByteArray) (e : Ending) (w' : World) : Prop:=∃ ua,e = .returned (.tuple #[.agg #[.string bo,.int .i64 0,.string bv],ua,.int .i64 0]) ∧ Hid (Below w.heap.size w w')
set_option maxHeartbeats 1000000 in
set_option maxRecDepth 100000 in
theorem done_any {w : World} {s : ByteArray} {bo bv : ByteArray} (a b c : Bool) (x y z : Int) (ht : Am.Tb20 w) (hl : bo.size + bv.size ≤ 1000)
    (hrun : ∀ (X Y Z : Nat) (w' : World),X ≤ 4096 → Y ≤ 4096 → Z ≤ 4096 → Am.Tb20 w' → Calls Tryz.prog 10 #[.string s,.agg #[.bool a,.bool b,.bool c,.int .i64 X,.int .i64 Y,.int .i64 Z],.int .i64 4000,.int .i64 60000] w' (RunD w' bo bv)) :
    Calls Tryz.prog 7 #[.string s,.agg #[.bool a,.bool b,.bool c,.int .i64 x,.int .i64 y,.int .i64 z],.int .i64 4000,.int .i64 60000] w fun e w'=>e = .returned (.string (bo ++ bv)) ∧ Below w.heap.size w w':=by
  obtain ⟨X,hX,eX⟩:=mask_nat 6 (by decide) x
  obtain ⟨Y,hY,eY⟩:=mask_nat 8 (by decide) y
  obtain ⟨Z,hZ,eZ⟩:=mask_nat 12 (by decide) z
  have HM : Hid (∀ w' : World,Calls Tryz.prog 11 #[.agg #[.bool a,.bool b,.bool c,.int .i64 x,.int .i64 y,.int .i64 z]] w' fun e w''=>e = .returned (.agg #[.bool a,.bool b,.bool c,.int .i64 X,.int .i64 Y,.int .i64 Z]) ∧ Below w'.heap.size w' w''):=hide fun w'=>by
    rw [← eX,← eY,← eZ]
    exact mine_any a b c x y z
  have HR : Hid (∀ w' : World,Am.Tb20 w' → Calls Tryz.prog 10 #[.string s,.agg #[.bool a,.bool b,.bool c,.int .i64 X,.int .i64 Y,.int .i64 Z],.int .i64 4000,.int .i64 60000] w' (RunD w' bo bv)):=hide fun w' h=>hrun X Y Z w' (by omega) (by omega) (by omega) h
  have HT:=hide ht
  clear hrun ht eX eY eZ hX hY hZ
  go_enter Tryz.func7,Tryz.ntmps7
  go_wp2_with (first | (go_at_call 11; refine (HM.out _).mono ?_; rintro e w1 ⟨rfl,hu⟩; have HU1:=hide hu; clear hu) | (go_at_call 10; refine (HR.out _ (T20.keep (T20.alloc HT.out _) HU1.out)).mono ?_; rintro e w2 ⟨ua,rfl,HU2⟩))
  go_ret
  exact ⟨rfl,bthen (bthen (bthen (blw_alloc w _) HU1.out) HU2.out) (by go_grown)⟩
theorem conv1 (w : World) (k : Nat) (hk : k < 256) : (convert 53 9 (.slice (some ⟨w.heap.size,0,none⟩) 1 1)).run Tryz.prog (w.alloc (.cells #[.int .u8 (k : Int)] 5)) = .ok (.string ⟨#[UInt8.ofNat k]⟩) (w.alloc (.cells #[.int .u8 (k : Int)] 5)):=by
  have hk' : (UInt8.ofNat k).toNat = k:=by rw [UInt8.toNat_ofNat',Nat.mod_eq_of_lt (by omega)]
  exact run_convert_bytes_back (P:=Tryz.prog) (w.alloc (.cells #[.int .u8 (k : Int)] 5)) 53 9 5 ⟨w.heap.size,0,none⟩ 1 [UInt8.ofNat k] Tryz.underlying53 Tryz.underlying5 Tryz.underlying9 fun j hj=>by
    have hj0 : j = 0:=by simp at hj; omega
    subst hj0
    have:=(Blk.new w 5 #[.int .u8 (k : Int)]).cell 0
    simp only [List.getElem_cons_zero,hk']
    exact this
set_option maxHeartbeats 1000000 in
set_option maxRecDepth 100000 in
theorem digits_any {w : World} {n : Nat} (h : n ≤ 255) : Calls Tryz.prog 13 #[.int .i64 (n : Int)] w fun e w'=>e = .returned (.string (numB n)) ∧ Below w.heap.size w w':=by
  go_enter Tryz.func13,Tryz.ntmps13
  go_wp2
  go_loopw [0,3] (fun nv sv wr=>∃ (c : Nat) (t : List UInt8),nv = .int .i64 (c : Int) ∧ sv = .string ⟨t.toArray⟩ ∧ c ≤ 255 ∧ t.length ≤ 2 ∧ Hid (digsU c t = digsU n []) ∧ Hid (Below w.heap.size w wr)) (fun nv _ _=>(intOf nv).toNat)
  case atStart=>exact ⟨n,[],rfl,rfl,h,by simp,rfl,Below.refl _ _⟩
  case round =>
    obtain ⟨c,t,rfl,rfl,hc,ht,HG,HU⟩:=hrel
    by_cases h0 : c ≤ 9
    · have hG:=HG.out
      rw [digsU_end t h0] at hG
      have HG':=hide hG
      clear HG hG
      have hcv:=conv1 wr (48 + c) (by omega)
      rw [show ((48 + c : Nat) : Int) = 48 + (c : Int) by omega] at hcv
      have hsz : (⟨t.toArray⟩ : ByteArray).size ≤ 2:=by show t.toArray.size ≤ 2; simpa using ht
      generalize UInt8.ofNat (48 + c) = b1 at hcv HG'
      go_wp2
      go_ret
      refine ⟨?_,bthen HU.out (blw_alloc _ _)⟩
      show Ending.returned (.string ⟨(b1 :: t).toArray⟩) = _
      rw [HG'.out]
      rfl
    · have hG:=HG.out
      rw [← digsU_step t (by omega) hc] at hG
      have HG':=hide hG
      have hlt : t.length ≤ 1:=by
        have h1:=congrArg List.length hG
        have h2:=digsU_len (c:=n) []
        have h3 : 2 + t.length ≤ (digsU (c / 10) (UInt8.ofNat (48 + c % 10) :: t)).length:=by
          unfold digsU
          split
          · simp; omega
          · split <;> simp <;> omega
        simp at h2
        omega
      clear HG hG
      have hcv:=conv1 wr (48 + c % 10) (by omega)
      rw [show ((48 + c % 10 : Nat) : Int) = 48 + (c : Int) % 10 by omega] at hcv
      have hsz : (⟨t.toArray⟩ : ByteArray).size ≤ 2:=by show t.toArray.size ≤ 2; simpa using ht
      generalize UInt8.ofNat (48 + c % 10) = b1 at hcv HG'
      go_wp2
      go_roundw
      case rel=>exact ⟨c / 10,b1 :: t,by go_num,rfl,by omega,by simp; omega,HG'.out,bthen HU.out (blw_alloc _ _)⟩
      case measure=>simp [intOf]; omega
theorem text_any {w : World} {n : Nat} (h : n ≤ 255) : Calls Tryz.prog 9 #[.int .i64 (n : Int),.int .i64 1] w fun e w'=>e = .returned (.string (numB n)) ∧ Below w.heap.size w w':=by
  have HR : Hid (∀ w' : World,Calls Tryz.prog 12 #[.int .i64 (n : Int),.int .i64 1] w' fun e w''=>e = .returned (.bool true) ∧ w' = w''):=hide fun w'=>tright_any h
  have HS : Hid (∀ w' : World,Calls Tryz.prog 14 #[.int .i64 (n : Int)] w' fun e w''=>e = .returned (.int .u64 (n : Int)) ∧ w' = w''):=hide fun w'=>size_any h
  have HD : Hid (∀ w' : World,Calls Tryz.prog 13 #[.int .i64 (n : Int)] w' fun e w''=>e = .returned (.string (numB n)) ∧ Below w'.heap.size w' w''):=hide fun w'=>digits_any h
  have h1 : IntKind.i64.wrap (n : Int) = n:=by rw [Go.IntKind.wrap_i64]; omega
  go_enter Tryz.func9,Tryz.ntmps9
  go_wp2_with (first | (go_at_call 12; refine (HR.out _).mono ?_; rintro e w1 ⟨rfl,rfl⟩) | (go_at_call 14; refine (HS.out _).mono ?_; rintro e w2 ⟨rfl,rfl⟩) | (go_at_call 13; refine (HD.out _).mono ?_; rintro e w3 ⟨rfl,hu⟩; have HU3:=hide hu; clear hu))
  go_ret
  exact ⟨rfl,HU3.out⟩
theorem num_any {w : World} {n : Nat} (h : n ≤ 255) : Calls Tryz.prog 6 #[.int .i64 (n : Int)] w fun e w'=>e = .returned (.string (numB n)) ∧ Below w.heap.size w w':=by
  have HD : Hid (∀ w' : World,Calls Tryz.prog 9 #[.int .i64 (n : Int),.int .i64 1] w' fun e w''=>e = .returned (.string (numB n)) ∧ Below w'.heap.size w' w''):=hide fun w'=>text_any h
  go_enter Tryz.func6,Tryz.ntmps6
  go_wp2_with (go_at_call 9; refine (HD.out _).mono ?_; rintro e w1 ⟨rfl,hu⟩; have HU1:=hide hu; clear hu)
  go_ret
  exact ⟨rfl,HU1.out⟩
theorem sw_cells {w w1 w2 w3 : World} {a b c : Bool} {x y z : Int} (h1 : Below (w.alloc (.cells #[.bool a,.bool b,.bool c,.int .i64 x,.int .i64 y,.int .i64 z] 23)).heap.size (w.alloc (.cells #[.bool a,.bool b,.bool c,.int .i64 x,.int .i64 y,.int .i64 z] 23)) w1) (h2 : Below w1.heap.size w1 w2) (h3 : Below w2.heap.size w2 w3) :
    w3.cell? ⟨w.heap.size,0,none⟩ = some (.bool a) ∧ w3.cell? ⟨w.heap.size,1,none⟩ = some (.bool b) ∧ w3.cell? ⟨w.heap.size,2,none⟩ = some (.bool c) ∧ w3.cell? ⟨w.heap.size,3,none⟩ = some (.int .i64 x) ∧ w3.cell? ⟨w.heap.size,4,none⟩ = some (.int .i64 y) ∧ w3.cell? ⟨w.heap.size,5,none⟩ = some (.int .i64 z):=by
  have hB:=Blk.new w 23 #[.bool a,.bool b,.bool c,.int .i64 x,.int .i64 y,.int .i64 z]
  exact ⟨bcell h3 (bcell h2 (bcell h1 (hB.cell 0))),bcell h3 (bcell h2 (bcell h1 (hB.cell 1))),bcell h3 (bcell h2 (bcell h1 (hB.cell 2))),bcell h3 (bcell h2 (bcell h1 (hB.cell 3))),bcell h3 (bcell h2 (bcell h1 (hB.cell 4))),bcell h3 (bcell h2 (bcell h1 (hB.cell 5)))⟩
set_option maxHeartbeats 2000000 in
set_option maxRecDepth 100000 in
theorem order_of {w : World} (n m : Int) (a b c : Bool) (x y z : Int) (X Y : Nat) (ht : Am.Tb20 w) (hX : X < 256) (hY : Y < 256) (eX : bits .and .i64 n 255 = (X : Int)) (eY : bits .and .i64 m 255 = (Y : Int))
    (hA : ∀ w' : World,Am.Tb20 w' → Calls Tryz.prog 5 #[] w' fun e w''=>e = .returned (.bool true) ∧ Below w'.heap.size w' w'')
    (hD : ∀ w' : World,Am.Tb20 w' → Calls Tryz.prog 7 #[.string (oP ++ numB X ++ oM ++ numB Y ++ oQ),.agg #[.bool a,.bool b,.bool c,.int .i64 x,.int .i64 y,.int .i64 z],.int .i64 4000,.int .i64 60000] w' fun e w''=>e = .returned (.string (oF ++ numB X ++ numB Y ++ oZ)) ∧ Below w'.heap.size w' w'') :
    Calls Tryz.prog 3 #[.int .i64 n,.int .i64 m,.agg #[.bool a,.bool b,.bool c,.int .i64 x,.int .i64 y,.int .i64 z]] w fun e w'=>e = .returned (.bool true) ∧ Below w.heap.size w w':=by
  have HA:=hide hA
  have HD:=hide hD
  have HT:=hide ht
  have HN : Hid (∀ w' : World,Calls Tryz.prog 6 #[.int .i64 (bits .and .i64 n 255)] w' fun e w''=>e = .returned (.string (numB X)) ∧ Below w'.heap.size w' w''):=hide fun w'=>by rw [eX]; exact num_any (by omega)
  have HM : Hid (∀ w' : World,Calls Tryz.prog 6 #[.int .i64 (bits .and .i64 m 255)] w' fun e w''=>e = .returned (.string (numB Y)) ∧ Below w'.heap.size w' w''):=hide fun w'=>by rw [eY]; exact num_any (by omega)
  have hx:=numB_size X
  have hy:=numB_size Y
  clear hA hD ht eX eY hX hY
  generalize numB X = bx at *
  generalize numB Y = by' at *
  go_enter Tryz.func3,Tryz.ntmps3
  go_wp2_with (first | (go_at_call 5; refine (HA.out _ (T20.alloc HT.out _)).mono ?_; rintro e w1 ⟨rfl,hu⟩; have HU1:=hide hu; clear hu) | (go_at_call 6; refine (HN.out _).mono ?_; rintro e w2 ⟨rfl,hu⟩; have HU2:=hide hu; clear hu) | (go_at_call 6; refine (HM.out _).mono ?_; rintro e w3 ⟨rfl,hu⟩; have HU3:=hide hu; clear hu; obtain ⟨C0,C1,C2,C3,C4,C5⟩:=sw_cells HU1.out HU2.out HU3.out) | (go_at_call 7; refine (HD.out _ (T20.keep (T20.keep (T20.keep (T20.alloc HT.out _) HU1.out) HU2.out) HU3.out)).mono ?_; rintro e w4 ⟨rfl,hu⟩; have HU4:=hide hu; clear hu))
  go_ret
  exact ⟨rfl,bthen (bthen (bthen (bthen (blw_alloc w _) HU1.out) HU2.out) HU3.out) HU4.out⟩
end Go.Proofs.YtadbcnekkceoaaaGreatDoor.Wk
