/- Closed facts of the row of TopBad, each by itself. -/
import Derived.Test.YtadbcnekkceoaaaGreatDoorRows
import Derived.JoinedOf
import GoSem.ClaimGoes
set_option linter.unusedVariables false
namespace Go.Proofs.YtadbcnekkceoaaaGreatDoor.topBad
theorem fE : (Rows.topBadRow.named == Tryz.pinned.checked.prog.varsNamed 4) = true := by kernel_rfl
theorem fB : (Rows.topBadRow.inPlace == Tryz.pinned.checked.prog.inPlace 4) = true := by kernel_rfl
end Go.Proofs.YtadbcnekkceoaaaGreatDoor.topBad
