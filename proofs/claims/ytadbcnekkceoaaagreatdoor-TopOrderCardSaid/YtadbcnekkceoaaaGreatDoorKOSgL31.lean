/- TopOrder's text with numbers of 3 and 1 digits. -/
import Derived.Test.YtadbcnekkceoaaaGreatDoorKOSgLa
section
set_option maxRecDepth 1000000
set_option maxHeartbeats 400000000
namespace Go.Proofs.YtadbcnekkceoaaaGreatDoor
namespace Am
namespace XL
open TV
theorem s31 : lastC mkX 1000 tab [[.a (u000 3 1)], [.a (u100 3 1)], [.o (x preX 3 midX 1 postX)]] j3 10 (hpL 3 1) (endT (outL 3 1)) (argsL 3 1) = some tok := by kernel_rfl
end XL
end Am
end Go.Proofs.YtadbcnekkceoaaaGreatDoor
end
section
set_option maxRecDepth 1000000
set_option maxHeartbeats 400000000
namespace Go.Proofs.YtadbcnekkceoaaaGreatDoor
namespace Am
namespace XL
open TV
theorem s32 : lastC mkX 1000 tab [[.a (u000 3 2)], [.a (u100 3 2)], [.o (x preX 3 midX 2 postX)]] j3 10 (hpL 3 2) (endT (outL 3 2)) (argsL 3 2) = some tok := by kernel_rfl
end XL
end Am
end Go.Proofs.YtadbcnekkceoaaaGreatDoor
end
