/- Closed facts of the row of TopBad, each by itself. -/
import Derived.Test.YtadbcnekkceoaaaGreatDoorRows
import Derived.JoinedOf
import GoSem.ClaimGoes
set_option linter.unusedVariables false
namespace Go.Proofs.YtadbcnekkceoaaaGreatDoor.topBad
theorem fC : (Rows.topBadRow.unfollowed == Tryz.pinned.checked.prog.unfollowed 4) = true := by kernel_rfl
theorem fD : (Rows.topBadRow.recurses == Tryz.pinned.checked.prog.recurses 4) = true := by kernel_rfl
end Go.Proofs.YtadbcnekkceoaaaGreatDoor.topBad
