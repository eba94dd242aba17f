/- Text A: what its passes make of it, worked out. -/
import Derived.Test.YtadbcnekkceoaaaGreatDoorKOTt
section
set_option maxRecDepth 1000000
set_option maxHeartbeats 400000000
namespace Go.Proofs.YtadbcnekkceoaaaGreatDoor
namespace Am
namespace XA
open TV
def tx : List Nat := [40,100,101,102,105,110,101,32,40,102,32,110,41,32,40,105,102,32,40,61,32,110,32,48,41,32,49,32,40,42,32,110,32,40,102,32,40,45,32,110,32,49,41,41,41,41,41,32,40,102,32,53,41]
def r2 : List TV := [r 4 5 [i 0,i 0,i 1,s [],e,i 0,i 1,i 1,s [],e,i 0,i 1,i 1,s [],e,i 0,i 5,i 1,s [],e],i 7,i 1,r 1 1 [i 0],r 2 4 [i 4,i 0,r 1 1 [i 1],r 1 4 [i 3,i 0,e,r 3 4 [i 5,i 0,e,r 3 4 [i 11,i 4,e,e,i 1,i 1,e,e,i 0,i 0,e,e],i 0,i 1,e,e,i 5,i 0,e,r 3 4 [i 11,i 2,e,e,i 1,i 1,e,e,i 5,i 0,e,r 2 4 [i 1,i 0,e,e,i 5,i 0,e,r 3 4 [i 11,i 1,e,e,i 1,i 1,e,e,i 0,i 2,e,e]]]]],i 5,i 0,e,r 2 4 [i 1,i 0,e,e,i 0,i 3,e,e]]]
def q00 : List TV := [r 4 5 [i 0,i 0,i 1,s [],e,i 0,i 1,i 1,s [],e,i 0,i 1,i 1,s [],e,i 0,i 5,i 1,s [],e],i 9,i 0,r 1 1 [i 0],r 2 4 [i 4,i 0,r 1 1 [i 1],r 1 4 [i 3,i 0,e,r 3 4 [i 5,i 0,e,r 3 4 [i 11,i 4,e,e,i 1,i 1,e,e,i 0,i 0,e,e],i 0,i 1,e,e,i 5,i 0,e,r 3 4 [i 11,i 2,e,e,i 1,i 1,e,e,i 5,i 0,e,r 2 4 [i 1,i 0,e,e,i 5,i 0,e,r 3 4 [i 11,i 1,e,e,i 1,i 1,e,e,i 0,i 2,e,e]]]]],i 5,i 0,e,r 2 4 [i 1,i 0,e,e,i 0,i 3,e,e]]]
def u000 : List TV := [r 4 5 [i 0,i 0,i 1,s [],e,i 0,i 1,i 1,s [],e,i 0,i 1,i 1,s [],e,i 0,i 5,i 1,s [],e],r 2 5 [i 1,.b false,i 5,r 13 5 [i 2,i 1,i 4,i 0,e,i 0,i 2,i 0,i 0,e,i 17,i 1,i 1,i 0,r 2 1 [i 0,i 2],i 16,i 0,i 1,i 6,e,i 0,i 0,i 1,i 0,e,i 22,i 0,i 0,i 0,e,i 2,i 1,i 2,i 0,e,i 5,i 2,i 0,i 0,e,i 2,i 3,i 1,i 0,e,i 0,i 4,i 2,i 0,e,i 17,i 3,i 3,i 0,r 2 1 [i 0,i 4],i 18,i 2,i 0,i 2,r 1 1 [i 3],i 19,i 0,i 1,i 0,r 2 1 [i 0,i 2]],r 13 1 [r 1 1 [i 0],r 2 1 [i 0,i 1],r 1 1 [i 0],r 1 1 [i 0],e,e,r 1 1 [i 0],r 2 1 [i 0,i 1],r 3 1 [i 0,i 1,i 2],r 4 1 [i 0,i 1,i 2,i 3],r 3 1 [i 0,i 1,i 2],r 2 1 [i 0,i 1],e],i 0,.b false,i 2,r 3 5 [i 5,i 0,i 0,i 0,e,i 0,i 1,i 3,i 0,e,i 20,i 0,i 0,i 0,r 1 1 [i 1]],r 3 1 [e,r 1 1 [i 0],e]]]
def c1 : List ((Nat × CL) × Nat) := [((21, ps0 false r2 q00), 0)]
def c2 : List ((Nat × CL) × Nat) := [((23, un false q00 u000), 0)]
def j2 : List Jb := (jobs2 0 1).take 6
def j3 : List Jb := jobs3 0 1 ++ jobs4 tx 7
theorem s1 : segC mkX 1000 [] [[.a r2]] ([jTc 0 0, jPa 49 0, jTc 1 2, jPa 50 2]) c1 = some tok := by kernel_rfl
theorem s2 : segC mkX 1000 [] [[.a q00]] j2 c2 = some tok := by kernel_rfl
theorem s3 : lastC mkX 1000 (c1.map Prod.fst ++ c2.map Prod.fst) [[.a u000]] j3 10 hp0 (endA) (argsA tx) = some tok := by kernel_rfl
end XA
end Am
end Go.Proofs.YtadbcnekkceoaaaGreatDoor
end
