/- TopOrder's text with numbers of 1 and 3 digits. -/
import Derived.Test.YtadbcnekkceoaaaGreatDoorKOSgLa
section
set_option maxRecDepth 1000000
set_option maxHeartbeats 400000000
namespace Go.Proofs.YtadbcnekkceoaaaGreatDoor
namespace Am
namespace XL
open TV
theorem s13 : lastC mkX 1000 tab [[.a (u000 1 3)], [.a (u100 1 3)], [.o (x preX 1 midX 3 postX)]] j3 10 (hpL 1 3) (endT (outL 1 3)) (argsL 1 3) = some tok := by kernel_rfl
end XL
end Am
end Go.Proofs.YtadbcnekkceoaaaGreatDoor
end
section
set_option maxRecDepth 1000000
set_option maxHeartbeats 400000000
namespace Go.Proofs.YtadbcnekkceoaaaGreatDoor
namespace Am
namespace XL
open TV
theorem s21 : lastC mkX 1000 tab [[.a (u000 2 1)], [.a (u100 2 1)], [.o (x preX 2 midX 1 postX)]] j3 10 (hpL 2 1) (endT (outL 2 1)) (argsL 2 1) = some tok := by kernel_rfl
end XL
end Am
end Go.Proofs.YtadbcnekkceoaaaGreatDoor
end
