/- The tables. -/
import Derived.Test.YtadbcnekkceoaaaGreatDoorKOTf0
import Derived.Test.YtadbcnekkceoaaaGreatDoorKOTf1
import Derived.Test.YtadbcnekkceoaaaGreatDoorKOTf2
import Derived.Test.YtadbcnekkceoaaaGreatDoorKOTf3
import Derived.Test.YtadbcnekkceoaaaGreatDoorKOAmTa
section
set_option maxRecDepth 100000
set_option maxHeartbeats 4000000
namespace Go.Proofs.YtadbcnekkceoaaaGreatDoor
namespace Am
noncomputable section
def FT : BT IFn := (.nd 180 (.nd 100 T0.1 T1.1) (.nd 273 T2.1 T3.1))
theorem FT_ok : FT.All Gd := ⟨⟨T0_ok, T1_ok⟩, ⟨T2_ok, T3_ok⟩⟩
def RT : {t : BT IRnd // t = (.nd 19328 (.nd 7232 (.lf 6272 r6272) (.nd 14912 (.lf 7232 r7232) (.lf 14912 r14912))) (.nd 21632 (.lf 19328 r19328) (.nd 23808 (.lf 21632 r21632) (.lf 23808 r23808))))} := by
  dsimp only [r6272, r7232, r14912, r19328, r21632, r23808, p3, p4, p5, p6, p8, p9, p15, p17, s2, s4, s5, s6, s7, s8, s9, s15, s16, s17, v0, v1, v2, v3, v4, v5, v6, v7, m0, m1, m2, m3, m4, z1, z7, z17, z25, y2, y9, y11, O, I, ff, gt, pk, al, gfa, go, gl, cd, ps, k, fa, l, ln, st, ca, sq]
  exact ⟨_, rfl⟩
theorem RT_ok : RT.1.All Rd := by
  rw [RT.2]
  exact ⟨⟨hr6272, ⟨hr7232, hr14912⟩⟩, ⟨hr19328, ⟨hr21632, hr23808⟩⟩⟩
theorem mix : Tryz.prog.follows .mixedOrders = true := by kernel_rfl
theorem memN_mem {g : Nat} {l : List Nat} (h : memN g l = true) : g ∈ l := by
  unfold memN at h
  rw [List.any_eq_true] at h
  obtain ⟨x, h1, h2⟩ := h
  rw [Nat.eq_of_beq_eq_true h2]; exact h1
theorem lab_ok : LabOk Tryz.prog tb (nnOf Tryz.prog) := labOk_of fun g hg => by
  have h := memN_mem hg
  simp only [G, List.mem_cons, List.not_mem_nil, or_false] at h
  rcases h with rfl | rfl | rfl | rfl | rfl | rfl
  · exact ⟨_, Tryz.func98, by kernel_rfl⟩
  · exact ⟨_, Tryz.func113, by kernel_rfl⟩
  · exact ⟨_, Tryz.func233, by kernel_rfl⟩
  · exact ⟨_, Tryz.func302, by kernel_rfl⟩
  · exact ⟨_, Tryz.func338, by kernel_rfl⟩
  · exact ⟨_, Tryz.func372, by kernel_rfl⟩
def KT (mac : Nat → Option (List AV → H → Option CRes)) : KTbl := ⟨mac, FT.get, RT.1.get, 1000000⟩
theorem kt_ok {mac : Nat → Option (List AV → H → Option CRes)} (hm : ∀ g M, mac g = some M → Bodied Tryz.prog g ∧ ∀ xs h r, M xs h = some r → CalOk Tryz.prog tb (nnOf Tryz.prog) (.fn g [] []) xs h r) : TblOk Tryz.prog tb (nnOf Tryz.prog) (KT mac).tbl := tbl_ok rfl rfl FT_ok RT_ok lab_ok hm
end
end Am
end Go.Proofs.YtadbcnekkceoaaaGreatDoor
end
section
set_option maxRecDepth 100000
namespace Go.Proofs.YtadbcnekkceoaaaGreatDoor
namespace Am
noncomputable section
def orM (f g : List AV → H → Option CRes) (xs : List AV) (h : H) : Option CRes := Option.rec (motive := fun _ => Option CRes) (g xs h) (fun r => some r) (f xs h)
def Wt : BT (Option (List AV → H → Option CRes)) := (.nd 55 (.nd 27 (.nd 22 (.nd 20 (.lf 19 none) (.nd 21 (.lf 20 none) (.lf 21 none))) (.nd 24 (.nd 23 (.lf 22 none) (.lf 23 none)) (.nd 26 (.lf 24 none) (.lf 26 none)))) (.nd 37 (.nd 28 (.lf 27 none) (.nd 29 (.lf 28 none) (.lf 29 none))) (.nd 50 (.nd 49 (.lf 37 (some (orM (mString 5) (lString 5)))) (.lf 49 none)) (.nd 51 (.lf 50 none) (.lf 51 none))))) (.nd 131 (.nd 59 (.nd 56 (.lf 55 none) (.nd 57 (.lf 56 none) (.lf 57 none))) (.nd 92 (.nd 60 (.lf 59 none) (.lf 60 none)) (.nd 119 (.lf 92 (some (orM (mTrimL) (lTrimL)))) (.lf 119 none)))) (.nd 338 (.nd 175 (.lf 131 none) (.nd 286 (.lf 175 (some (orM (mIndex) (lIndex)))) (.lf 286 (some (orM (mTrim) (lTrim)))))) (.nd 413 (.nd 357 (.lf 338 (some (mOrder))) (.lf 357 (some (lAtoi)))) (.nd 420 (.lf 413 (some (mCopy [(90, 8, 17), (420, 0, 3), (88, 0, 2)]))) (.lf 420 (some (orM (mItoa 5) (lItoa 5)))))))))
def macX (tab : List (Nat × Ct)) (g : Nat) : Option (List AV → H → Option CRes) := Option.rec (motive := fun _ => Option (List AV → H → Option CRes)) none (fun e => Option.rec (motive := fun _ => Option (List AV → H → Option CRes)) (some (ctsG tab g)) some e) (Wt.get g)
def mkX (tab : List (Nat × Ct)) : KTbl := KT (macX tab)
def argsA (s : List Nat) : List (List AV) := [[.str s, .agg [.bool false, .bool false, .bool false, .int .i64 (.ofNat 0), .int .i64 (.ofNat 0), .int .i64 (.ofNat 0)], .int .i64 (.ofNat 100), .int .i64 (.ofNat 1000)]]
def sws : List (List AV) := [[.bool false, .bool false, .bool false, .ge 0, .ge 0, .ge 0], [.bool false, .bool false, .bool true, .ge 0, .ge 0, .ge 0], [.bool false, .bool true, .bool false, .ge 0, .ge 0, .ge 0], [.bool false, .bool true, .bool true, .ge 0, .ge 0, .ge 0], [.bool true, .bool false, .bool false, .ge 0, .ge 0, .ge 0], [.bool true, .bool false, .bool true, .ge 0, .ge 0, .ge 0], [.bool true, .bool true, .bool false, .ge 0, .ge 0, .ge 0], [.bool true, .bool true, .bool true, .ge 0, .ge 0, .ge 0]]
def argsX (s : List Nat) : List (List AV) := sws.map fun w => [.str s, .agg w, .int .i64 (.ofNat 4000), .int .i64 (.ofNat 60000)]
def preX : List Nat := [40, 40, 98, 101, 103, 105, 110, 32, 40, 100, 105, 115, 112, 108, 97, 121, 32, 39, 102, 41, 32, 43, 41, 32, 40, 98, 101, 103, 105, 110, 32, 40, 100, 105, 115, 112, 108, 97, 121, 32]
def midX : List Nat := [41, 32, 49, 41, 32, 40, 108, 101, 116, 32, 40, 40, 112, 32, 40, 100, 105, 115, 112, 108, 97, 121, 32]
def postX : List Nat := [41, 41, 32, 40, 113, 32, 40, 100, 105, 115, 112, 108, 97, 121, 32, 39, 113, 41, 41, 41, 32, 50, 41, 32, 40, 98, 101, 103, 105, 110, 32, 40, 100, 105, 115, 112, 108, 97, 121, 32, 39, 122, 41, 32, 51, 41, 41]
def outL (n k : Nat) : List AV := txtP [102] n (.xI .xH) [] k (.xO (.xO .xH)) [113, 122]
def argsL (n k : Nat) : List (List AV) := sws.map fun w => [.txt (txtP preX n (.xI .xH) midX k (.xO (.xO .xH)) postX), .agg w, .int .i64 (.ofNat 4000), .int .i64 (.ofNat 60000)]
end
end Am
end Go.Proofs.YtadbcnekkceoaaaGreatDoor
end
