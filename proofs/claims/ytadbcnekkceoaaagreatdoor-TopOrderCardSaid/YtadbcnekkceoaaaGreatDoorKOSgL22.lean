/- TopOrder's text with numbers of 2 and 2 digits. -/
import Derived.Test.YtadbcnekkceoaaaGreatDoorKOSgLa
section
set_option maxRecDepth 1000000
set_option maxHeartbeats 400000000
namespace Go.Proofs.YtadbcnekkceoaaaGreatDoor
namespace Am
namespace XL
open TV
theorem s22 : lastC mkX 1000 tab [[.a (u000 2 2)], [.a (u100 2 2)], [.o (x preX 2 midX 2 postX)]] j3 10 (hpL 2 2) (endT (outL 2 2)) (argsL 2 2) = some tok := by kernel_rfl
end XL
end Am
end Go.Proofs.YtadbcnekkceoaaaGreatDoor
end
section
set_option maxRecDepth 1000000
set_option maxHeartbeats 400000000
namespace Go.Proofs.YtadbcnekkceoaaaGreatDoor
namespace Am
namespace XL
open TV
theorem s23 : lastC mkX 1000 tab [[.a (u000 2 3)], [.a (u100 2 3)], [.o (x preX 2 midX 3 postX)]] j3 10 (hpL 2 3) (endT (outL 2 3)) (argsL 2 3) = some tok := by kernel_rfl
end XL
end Am
end Go.Proofs.YtadbcnekkceoaaaGreatDoor
end
