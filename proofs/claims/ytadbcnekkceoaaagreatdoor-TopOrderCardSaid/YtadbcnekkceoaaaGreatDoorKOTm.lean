/- The contracts serve: what is worked out holds of the program. -/
import Derived.Test.YtadbcnekkceoaaaGreatDoorKOTt
import Derived.Test.YtadbcnekkceoaaaGreatDoorKOAmMg
section
set_option maxRecDepth 100000
namespace Go.Proofs.YtadbcnekkceoaaaGreatDoor
namespace Am
theorem orM_ok {f g : List AV → H → Option CRes} {xs : List AV} {h : H} {r : CRes} (hh : orM f g xs h = some r) : f xs h = some r ∨ g xs h = some r := by
  unfold orM at hh
  cases e : f xs h with
  | some q => rw [e] at hh; exact .inl hh
  | none => rw [e] at hh; exact .inr hh
theorem Wt_ok : Wt.All fun g e => Bodied Tryz.prog g ∧ ∀ F, e = some F → ∀ xs h r, F xs h = some r → CalOk Tryz.prog tb (nnOf Tryz.prog) (.fn g [] []) xs h r :=
    ⟨⟨⟨⟨⟨⟨_, Tryz.func19, by decide, by decide⟩, fun F h => by cases h⟩,
    ⟨⟨⟨_, Tryz.func20, by decide, by decide⟩, fun F h => by cases h⟩,
    ⟨⟨_, Tryz.func21, by decide, by decide⟩, fun F h => by cases h⟩⟩⟩,
    ⟨⟨⟨⟨_, Tryz.func22, by decide, by decide⟩, fun F h => by cases h⟩,
    ⟨⟨_, Tryz.func23, by decide, by decide⟩, fun F h => by cases h⟩⟩,
    ⟨⟨⟨_, Tryz.func24, by decide, by decide⟩, fun F h => by cases h⟩,
    ⟨⟨_, Tryz.func26, by decide, by decide⟩, fun F h => by cases h⟩⟩⟩⟩,
    ⟨⟨⟨⟨_, Tryz.func27, by decide, by decide⟩, fun F h => by cases h⟩,
    ⟨⟨⟨_, Tryz.func28, by decide, by decide⟩, fun F h => by cases h⟩,
    ⟨⟨_, Tryz.func29, by decide, by decide⟩, fun F h => by cases h⟩⟩⟩,
    ⟨⟨⟨⟨_, Tryz.func37, by decide, by decide⟩, fun F h xs hp r hh => by injection h with h; subst h; exact (orM_ok hh).elim (fun q => string_ok q) (fun q => lstring_ok q)⟩,
    ⟨⟨_, Tryz.func49, by decide, by decide⟩, fun F h => by cases h⟩⟩,
    ⟨⟨⟨_, Tryz.func50, by decide, by decide⟩, fun F h => by cases h⟩,
    ⟨⟨_, Tryz.func51, by decide, by decide⟩, fun F h => by cases h⟩⟩⟩⟩⟩,
    ⟨⟨⟨⟨⟨_, Tryz.func55, by decide, by decide⟩, fun F h => by cases h⟩,
    ⟨⟨⟨_, Tryz.func56, by decide, by decide⟩, fun F h => by cases h⟩,
    ⟨⟨_, Tryz.func57, by decide, by decide⟩, fun F h => by cases h⟩⟩⟩,
    ⟨⟨⟨⟨_, Tryz.func59, by decide, by decide⟩, fun F h => by cases h⟩,
    ⟨⟨_, Tryz.func60, by decide, by decide⟩, fun F h => by cases h⟩⟩,
    ⟨⟨⟨_, Tryz.func92, by decide, by decide⟩, fun F h xs hp r hh => by injection h with h; subst h; exact (orM_ok hh).elim (fun q => trimL_ok q) (fun q => ltrimL_ok q)⟩,
    ⟨⟨_, Tryz.func119, by decide, by decide⟩, fun F h => by cases h⟩⟩⟩⟩,
    ⟨⟨⟨⟨_, Tryz.func131, by decide, by decide⟩, fun F h => by cases h⟩,
    ⟨⟨⟨_, Tryz.func175, by decide, by decide⟩, fun F h xs hp r hh => by injection h with h; subst h; exact (orM_ok hh).elim (fun q => index_ok q) (fun q => lindex_ok q)⟩,
    ⟨⟨_, Tryz.func286, by decide, by decide⟩, fun F h xs hp r hh => by injection h with h; subst h; exact (orM_ok hh).elim (fun q => trim_ok q) (fun q => ltrim_ok q)⟩⟩⟩,
    ⟨⟨⟨⟨_, Tryz.func338, by decide, by decide⟩, fun F h xs hp r hh => by injection h with h; subst h; exact order_ok hh⟩,
    ⟨⟨_, Tryz.func357, by decide, by decide⟩, fun F h xs hp r hh => by injection h with h; subst h; exact latoi_ok hh⟩⟩,
    ⟨⟨⟨_, Tryz.func413, by decide, by decide⟩, fun F h xs hp r hh => by injection h with h; subst h; exact copyCheck_ok hh⟩,
    ⟨⟨_, Tryz.func420, by decide, by decide⟩, fun F h xs hp r hh => by injection h with h; subst h; exact (orM_ok hh).elim (fun q => itoa_ok (by kernel_rfl) q) (fun q => litoa_ok (by kernel_rfl) q)⟩⟩⟩⟩⟩⟩
theorem mkX_ok (tab : List (Nat × Ct)) (ht : ∀ x, x ∈ tab → CtOk Tryz.prog tb (nnOf Tryz.prog) x.1 x.2) : TblOk Tryz.prog tb (nnOf Tryz.prog) (mkX tab).tbl := kt_ok fun g M hM => by
  replace hM : Option.rec (motive := fun _ => Option (List AV → H → Option CRes)) none (fun e => Option.rec (motive := fun _ => Option (List AV → H → Option CRes)) (some (ctsG tab g)) some e) (Wt.get g) = some M := hM
  cases e : Wt.get g with
  | none => rw [e] at hM; cases hM
  | some F =>
    rw [e] at hM
    obtain ⟨q1, q2⟩ := BT.get_all Wt_ok e
    refine ⟨q1, fun xs h r hh => ?_⟩
    cases F with
    | none => injection hM with hM; subst hM; exact ctsG_ok ht hh
    | some F => injection hM with hM; subst hM; exact q2 _ rfl xs h r hh
theorem run_of {c1 c2 : List ((Nat × CL) × Nat)} {g1 g2 g3 : List (List TA)} {j1 j2 j3 : List Jb} {L : List (List AV)} {want : Nat} {out : List Nat} {fin : List Nat → Rz} (s1 : segC mkX 1000 [] g1 j1 c1 = some tok) (s2 : segC mkX 1000 [] g2 j2 c2 = some tok) (s3 : lastC mkX 1000 (c1.map Prod.fst ++ c2.map Prod.fst) g3 j3 10 hp0 (endG want out fin) L = some tok) {xs : List AV} (ha : xs ∈ L) {w : World} (hw : Tb20 w) {args : Array Value} (hv : VRs mp0 xs args.toList) :
    Calls Tryz.prog 10 args w fun e w' => Kp w w' ∧ ∃ bo bv ua, e = .returned (.tuple #[.agg #[.string bo, .int .i64 (.ofNat want), .string bv], ua, .int .i64 (.ofNat 0)]) ∧ out = bo.data.toList.map UInt8.toNat ∧ ∃ r, fin (bv.data.toList.map UInt8.toNat) = some r := by
  obtain ⟨v, h', p, r', q1, q2⟩ := lastC_ok mix mkX_ok ((segC_ok mix mkX_ok .nil s1).app (segC_ok mix mkX_ok .nil s2)) (fun _ => rfl) s3 xs ha
  obtain ⟨a, val, rfl, q3⟩ := endG_ok q2
  refine (Calls.of_fn q1 (HR.hp0 hw) hv).mono fun e w' q => ?_
  obtain ⟨u, m', rfl, q4, q5⟩ := q
  obtain ⟨bo, bv, ua, rfl, e1, rfl⟩ := q4.end
  exact ⟨q5.kept hp0_ro, bo, bv, ua, rfl, e1, _, q3⟩
theorem seg_ok {rg : List (List TA)} {js : List Jb} {cs : List ((Nat × CL) × Nat)} (s : segC mkX 1000 [] rg js cs = some tok) : TbL Tryz.prog tb (nnOf Tryz.prog) (cs.map Prod.fst) := segC_ok mix mkX_ok .nil s
theorem run_ofL {tab : List (Nat × CL)} {g3 : List (List TA)} {j3 : List Jb} {L : List (List AV)} {out : List AV} {n k : Nat} (ht : TbL Tryz.prog tb (nnOf Tryz.prog) tab) (s3 : lastC mkX 1000 tab g3 j3 10 (hpL n k) (endT out) L = some tok) {xs : List AV} (ha : xs ∈ L) {w : World} (hw : Tb20 w) {x y : Nat} (e1 : ndg x = n) (e2 : ndg y = k) {args : Array Value} (hv : VRs (mpL x y) xs args.toList) :
    Calls Tryz.prog 10 args w fun e w' => Kp w w' ∧ ∃ m' bo bv ua, (mpL x y).le m' ∧ e = .returned (.tuple #[.agg #[.string bo, .int .i64 0, .string bv], ua, .int .i64 0]) ∧ VRs m' out (byV bo) ∧ [54] = bv.data.toList.map UInt8.toNat := by
  subst e1 e2
  obtain ⟨v, h', p, r', q1, q2⟩ := lastC_ok mix mkX_ok ht (fun _ => rfl) s3 xs ha
  obtain ⟨a, rfl⟩ := endT_ok q2
  refine (Calls.of_fn q1 (HR.hpL x y hw) hv).mono fun e w' q => ?_
  obtain ⟨u, m', rfl, q4, q5⟩ := q
  obtain ⟨bo, bv, ua, rfl, e1, e2⟩ := q4.endT
  exact ⟨q5.kept hpL_ro, m', bo, bv, ua, q5.le, rfl, e1, e2⟩
end Am
end Go.Proofs.YtadbcnekkceoaaaGreatDoor
end
