/- TopOrder's text with numbers of 1 and 1 digits. -/
import Derived.Test.YtadbcnekkceoaaaGreatDoorKOSgLa
section
set_option maxRecDepth 1000000
set_option maxHeartbeats 400000000
namespace Go.Proofs.YtadbcnekkceoaaaGreatDoor
namespace Am
namespace XL
open TV
theorem s11 : lastC mkX 1000 tab [[.a (u000 1 1)], [.a (u100 1 1)], [.o (x preX 1 midX 1 postX)]] j3 10 (hpL 1 1) (endT (outL 1 1)) (argsL 1 1) = some tok := by kernel_rfl
end XL
end Am
end Go.Proofs.YtadbcnekkceoaaaGreatDoor
end
section
set_option maxRecDepth 1000000
set_option maxHeartbeats 400000000
namespace Go.Proofs.YtadbcnekkceoaaaGreatDoor
namespace Am
namespace XL
open TV
theorem s12 : lastC mkX 1000 tab [[.a (u000 1 2)], [.a (u100 1 2)], [.o (x preX 1 midX 2 postX)]] j3 10 (hpL 1 2) (endT (outL 1 2)) (argsL 1 2) = some tok := by kernel_rfl
end XL
end Am
end Go.Proofs.YtadbcnekkceoaaaGreatDoor
end
