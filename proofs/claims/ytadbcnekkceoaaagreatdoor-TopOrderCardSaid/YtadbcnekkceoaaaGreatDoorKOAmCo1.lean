/- Closed facts of the row of TopOrder, each by itself. -/
import Derived.Test.YtadbcnekkceoaaaGreatDoorRows
import Derived.JoinedOf
import GoSem.ClaimGoes
set_option linter.unusedVariables false
namespace Go.Proofs.YtadbcnekkceoaaaGreatDoor.topOrder
theorem fE : (Rows.topOrderRow.named == Tryz.pinned.checked.prog.varsNamed 3) = true:=by kernel_rfl
theorem fB : (Rows.topOrderRow.inPlace == Tryz.pinned.checked.prog.inPlace 3) = true:=by kernel_rfl
end Go.Proofs.YtadbcnekkceoaaaGreatDoor.topOrder
