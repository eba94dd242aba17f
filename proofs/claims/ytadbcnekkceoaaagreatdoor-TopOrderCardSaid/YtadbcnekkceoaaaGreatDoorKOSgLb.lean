/- TopOrder's text: without folding. -/
import Derived.Test.YtadbcnekkceoaaaGreatDoorKOSgLa
section
set_option maxRecDepth 1000000
set_option maxHeartbeats 400000000
namespace Go.Proofs.YtadbcnekkceoaaaGreatDoor
namespace Am
namespace XL
open TV
theorem s1a : segC mkX 1000 [] [[.a (r2 0 0)]] jobs0 c1a = some tok := by kernel_rfl
theorem sR0 : segR mkX 1000 [[.a (r2 0 0)]] jobs0 21 0 9 x01 = some tok := by kernel_rfl
theorem sR1 : segR mkX 1000 [[.a (r2 0 0)]] jobs0 21 9 8 x01 = some tok := by kernel_rfl
theorem sR2 : segR mkX 1000 [[.a (r2 0 0)]] jobs0 21 17 8 x01 = some tok := by kernel_rfl
theorem sT : segT mkX 1000 [[.a (r2 0 0)]] jobs0 21 25 x01 = some tok := by kernel_rfl
end XL
end Am
end Go.Proofs.YtadbcnekkceoaaaGreatDoor
end
