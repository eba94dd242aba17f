/- TopBad answers true, whatever its arguments: each of its eleven texts. -/
import Derived.Test.YtadbcnekkceoaaaGreatDoorKBAmWm
import Derived.Test.YtadbcnekkceoaaaGreatDoorKBSg0
import Derived.Test.YtadbcnekkceoaaaGreatDoorKBSg1
import Derived.Test.YtadbcnekkceoaaaGreatDoorKBSg2
import Derived.Test.YtadbcnekkceoaaaGreatDoorKBSg3
import Derived.Test.YtadbcnekkceoaaaGreatDoorKBSg4
import Derived.Test.YtadbcnekkceoaaaGreatDoorKBSg5
import Derived.Test.YtadbcnekkceoaaaGreatDoorKBSg6
import Derived.Test.YtadbcnekkceoaaaGreatDoorKBSg7
import Derived.Test.YtadbcnekkceoaaaGreatDoorKBSg8
import Derived.Test.YtadbcnekkceoaaaGreatDoorKBSg9
import Derived.Test.YtadbcnekkceoaaaGreatDoorKBSg10
import Derived.Test.YtadbcnekkceoaaaGreatDoorKBSgA
set_option linter.unusedVariables false
namespace Go.Proofs.YtadbcnekkceoaaaGreatDoor.Wk
open Go.RowKit (Below)
open Am
theorem awake_any {w : World} (hw : Tb20 w) : Calls Tryz.prog 5 #[] w fun e w' => e = .returned (.bool true) ∧ Below w.heap.size w w' := run_awake XA.s1 XA.s2 XA.s3 (by decide +kernel) hw
theorem bad_any {w : World} (n : Int) (a b c : Bool) (x y z : Int) (hw : Tb20 w) : Calls Tryz.prog 4 #[.int .i64 n, .agg #[.bool a, .bool b, .bool c, .int .i64 x, .int .i64 y, .int .i64 z]] w fun e w' => e = .returned (.bool true) ∧ Below w.heap.size w w' := by
  obtain ⟨K, hk, eK⟩ := mask11 n
  have h : K = 0 ∨ K = 1 ∨ K = 2 ∨ K = 3 ∨ K = 4 ∨ K = 5 ∨ K = 6 ∨ K = 7 ∨ K = 8 ∨ K = 9 ∨ K = 10 := by omega
  rcases h with rfl | rfl | rfl | rfl | rfl | rfl | rfl | rfl | rfl | rfl | rfl
  · exact bad0 n a b c x y z hw eK (fun _ h => awake_any h) fun _ h => ends_of a b c x y z h fun X Y Z w1 h1 h2 h3 h4 => run_bad X0.s1 X0.s2 X0.s3 (by decide +kernel) a b c X Y Z w1 h1 h2 h3 h4
  · exact bad1 n a b c x y z hw eK (fun _ h => awake_any h) fun _ h => ends_of a b c x y z h fun X Y Z w1 h1 h2 h3 h4 => run_bad X1.s1 X1.s2 X1.s3 (by decide +kernel) a b c X Y Z w1 h1 h2 h3 h4
  · exact bad2 n a b c x y z hw eK (fun _ h => awake_any h) fun _ h => ends_of a b c x y z h fun X Y Z w1 h1 h2 h3 h4 => run_bad X2.s1 X2.s2 X2.s3 (by decide +kernel) a b c X Y Z w1 h1 h2 h3 h4
  · exact bad3 n a b c x y z hw eK (fun _ h => awake_any h) fun _ h => ends_of a b c x y z h fun X Y Z w1 h1 h2 h3 h4 => run_bad X3.s1 X3.s2 X3.s3 (by decide +kernel) a b c X Y Z w1 h1 h2 h3 h4
  · exact bad4 n a b c x y z hw eK (fun _ h => awake_any h) fun _ h => ends_of a b c x y z h fun X Y Z w1 h1 h2 h3 h4 => run_bad X4.s1 X4.s2 X4.s3 (by decide +kernel) a b c X Y Z w1 h1 h2 h3 h4
  · exact bad5 n a b c x y z hw eK (fun _ h => awake_any h) fun _ h => ends_of a b c x y z h fun X Y Z w1 h1 h2 h3 h4 => run_bad X5.s1 X5.s2 X5.s3 (by decide +kernel) a b c X Y Z w1 h1 h2 h3 h4
  · exact bad6 n a b c x y z hw eK (fun _ h => awake_any h) fun _ h => ends_of a b c x y z h fun X Y Z w1 h1 h2 h3 h4 => run_bad X6.s1 X6.s2 X6.s3 (by decide +kernel) a b c X Y Z w1 h1 h2 h3 h4
  · exact bad7 n a b c x y z hw eK (fun _ h => awake_any h) fun _ h => ends_of a b c x y z h fun X Y Z w1 h1 h2 h3 h4 => run_bad X7.s1 X7.s2 X7.s3 (by decide +kernel) a b c X Y Z w1 h1 h2 h3 h4
  · exact bad8 n a b c x y z hw eK (fun _ h => awake_any h) fun _ h => ends_of a b c x y z h fun X Y Z w1 h1 h2 h3 h4 => run_bad X8.s1 X8.s2 X8.s3 (by decide +kernel) a b c X Y Z w1 h1 h2 h3 h4
  · exact bad9 n a b c x y z hw eK (fun _ h => awake_any h) fun _ h => ends_of a b c x y z h fun X Y Z w1 h1 h2 h3 h4 => run_bad X9.s1 X9.s2 X9.s3 (by decide +kernel) a b c X Y Z w1 h1 h2 h3 h4
  · exact bad10 n a b c x y z hw eK (fun _ h => awake_any h) fun _ h => ends_of a b c x y z h fun X Y Z w1 h1 h2 h3 h4 => run_bad X10.s1 X10.s2 X10.s3 (by decide +kernel) a b c X Y Z w1 h1 h2 h3 h4
end Go.Proofs.YtadbcnekkceoaaaGreatDoor.Wk
