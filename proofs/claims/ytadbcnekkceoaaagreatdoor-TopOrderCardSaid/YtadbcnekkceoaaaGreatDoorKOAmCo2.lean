/- Closed facts of the row of TopOrder, each by itself. -/
import Derived.Test.YtadbcnekkceoaaaGreatDoorRows
import Derived.JoinedOf
import GoSem.ClaimGoes
set_option linter.unusedVariables false
namespace Go.Proofs.YtadbcnekkceoaaaGreatDoor.topOrder
theorem fC : (Rows.topOrderRow.unfollowed == Tryz.pinned.checked.prog.unfollowed 3) = true:=by kernel_rfl
theorem fD : (Rows.topOrderRow.recurses == Tryz.pinned.checked.prog.recurses 3) = true:=by kernel_rfl
end Go.Proofs.YtadbcnekkceoaaaGreatDoor.topOrder
