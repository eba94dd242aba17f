/- TopOrder answers true, whatever its arguments: its text with numbers of one, two, three digits. -/
import Derived.Test.YtadbcnekkceoaaaGreatDoorKOAmWm
import Derived.Test.YtadbcnekkceoaaaGreatDoorKOSgLb
import Derived.Test.YtadbcnekkceoaaaGreatDoorKOSgLc
import Derived.Test.YtadbcnekkceoaaaGreatDoorKOSgLd
import Derived.Test.YtadbcnekkceoaaaGreatDoorKOSgL11
import Derived.Test.YtadbcnekkceoaaaGreatDoorKOSgL13
import Derived.Test.YtadbcnekkceoaaaGreatDoorKOSgL22
import Derived.Test.YtadbcnekkceoaaaGreatDoorKOSgL31
import Derived.Test.YtadbcnekkceoaaaGreatDoorKOSgL33
import Derived.Test.YtadbcnekkceoaaaGreatDoorKOSgA
set_option linter.unusedVariables false
namespace Go.Proofs.YtadbcnekkceoaaaGreatDoor.Wk
open Go.RowKit (Below)
open Am
theorem awake_any {w : World} (hw : Tb20 w) : Calls Tryz.prog 5 #[] w fun e w'=>e = .returned (.bool true) ∧ Below w.heap.size w w':=run_awake XA.s1 XA.s2 XA.s3 (by decide +kernel) hw
theorem tab_ok : TbL Tryz.prog tb (nnOf Tryz.prog) XL.tab:=by
  have hr : ∀ e,e < 25 → EffOk Tryz.prog tb (nnOf Tryz.prog) 21 XL.x01 (.int .i64 (.ofNat e)):=fun e he=>by
    rcases Nat.lt_or_ge e 9 with h | h
    · exact segR_ok mix mkX_ok XL.sR0 e (Nat.zero_le _) (by omega)
    · rcases Nat.lt_or_ge e 17 with h' | h'
      · exact segR_ok mix mkX_ok XL.sR1 e h (by omega)
      · exact segR_ok mix mkX_ok XL.sR2 e h' (by omega)
  exact (seg_ok XL.s0).app ((seg_ok XL.s1a).app (.cons (eff_join rfl hr (segT_ok mix mkX_ok XL.sT)) ((seg_ok XL.s1b).app (seg_ok XL.s2))))
theorem text_run {w : World} (X Y : Nat) (hX : X < 256) (hY : Y < 256) (a b c : Bool) (x y z : Nat) (h1 : x ≤ 4096) (h2 : y ≤ 4096) (h3 : z ≤ 4096) (hw : Tb20 w) :
    Calls Tryz.prog 10 #[.string (oP ++ numB X ++ oM ++ numB Y ++ oQ),.agg #[.bool a,.bool b,.bool c,.int .i64 x,.int .i64 y,.int .i64 z],.int .i64 4000,.int .i64 60000] w (RunD w (oF ++ numB X ++ numB Y ++ oZ0) oSix):=by
  rcases ndg_or X with e1 | e1 | e1 <;> rcases ndg_or Y with e2 | e2 | e2
  · exact run_text tab_ok XL.s11 hX hY e1 e2 a b c x y z h1 h2 h3 hw
  · exact run_text tab_ok XL.s12 hX hY e1 e2 a b c x y z h1 h2 h3 hw
  · exact run_text tab_ok XL.s13 hX hY e1 e2 a b c x y z h1 h2 h3 hw
  · exact run_text tab_ok XL.s21 hX hY e1 e2 a b c x y z h1 h2 h3 hw
  · exact run_text tab_ok XL.s22 hX hY e1 e2 a b c x y z h1 h2 h3 hw
  · exact run_text tab_ok XL.s23 hX hY e1 e2 a b c x y z h1 h2 h3 hw
  · exact run_text tab_ok XL.s31 hX hY e1 e2 a b c x y z h1 h2 h3 hw
  · exact run_text tab_ok XL.s32 hX hY e1 e2 a b c x y z h1 h2 h3 hw
  · exact run_text tab_ok XL.s33 hX hY e1 e2 a b c x y z h1 h2 h3 hw
theorem order_any {w : World} (n m : Int) (a b c : Bool) (x y z : Int) (hw : Tb20 w) : Calls Tryz.prog 3 #[.int .i64 n,.int .i64 m,.agg #[.bool a,.bool b,.bool c,.int .i64 x,.int .i64 y,.int .i64 z]] w fun e w'=>e = .returned (.bool true) ∧ Below w.heap.size w w':=by
  obtain ⟨X,hX,eX⟩:=mask_nat 8 (by decide) n
  obtain ⟨Y,hY,eY⟩:=mask_nat 8 (by decide) m
  refine order_of n m a b c x y z X Y hw hX hY eX eY (fun _ h=>awake_any h) fun _ h=>?_
  rw [← cat_end]
  exact done_any a b c x y z h (cat_size X Y) fun x' y' z' w1 h1 h2 h3 h4=>text_run X Y hX hY a b c x' y' z' h1 h2 h3 h4
end Go.Proofs.YtadbcnekkceoaaaGreatDoor.Wk
