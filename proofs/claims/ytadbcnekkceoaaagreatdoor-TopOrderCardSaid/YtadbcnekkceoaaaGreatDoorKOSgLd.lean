/- TopOrder's text: from a program to units. -/
import Derived.Test.YtadbcnekkceoaaaGreatDoorKOSgLa
section
set_option maxRecDepth 1000000
set_option maxHeartbeats 400000000
namespace Go.Proofs.YtadbcnekkceoaaaGreatDoor
namespace Am
namespace XL
open TV
theorem s2 : segC mkX 1000 [] [[.a (r2 0 0)], [.a (q10 0 0)], [.a (q11 0 0)]] j2 c2 = some tok := by kernel_rfl
end XL
end Am
end Go.Proofs.YtadbcnekkceoaaaGreatDoor
end
section
set_option maxRecDepth 1000000
set_option maxHeartbeats 400000000
namespace Go.Proofs.YtadbcnekkceoaaaGreatDoor
namespace Am
namespace XL
open TV
theorem s0 : segC mkX 1000 [] [] [] c0 = some tok := by kernel_rfl
end XL
end Am
end Go.Proofs.YtadbcnekkceoaaaGreatDoor
end
