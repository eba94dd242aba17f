/- TopOrder's text with numbers of 3 and 3 digits. -/
import Derived.Test.YtadbcnekkceoaaaGreatDoorKOSgLa
section
set_option maxRecDepth 1000000
set_option maxHeartbeats 400000000
namespace Go.Proofs.YtadbcnekkceoaaaGreatDoor
namespace Am
namespace XL
open TV
theorem s33 : lastC mkX 1000 tab [[.a (u000 3 3)], [.a (u100 3 3)], [.o (x preX 3 midX 3 postX)]] j3 10 (hpL 3 3) (endT (outL 3 3)) (argsL 3 3) = some tok := by kernel_rfl
end XL
end Am
end Go.Proofs.YtadbcnekkceoaaaGreatDoor
end
