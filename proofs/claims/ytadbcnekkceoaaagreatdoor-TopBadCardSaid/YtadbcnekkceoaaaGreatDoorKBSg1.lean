/- Text 1: what its passes make of it, worked out. -/
import Derived.Test.YtadbcnekkceoaaaGreatDoorKBTt
section
set_option maxRecDepth 1000000
set_option maxHeartbeats 400000000
namespace Go.Proofs.YtadbcnekkceoaaaGreatDoor
namespace Am
namespace X1
open TV
def tx : List Nat := [40,98,101,103,105,110,32,40,100,105,115,112,108,97,121,32,39,97,41,32,40,108,105,115,116,32,40,40,108,97,109,98,100,97,32,40,120,41,32,120,41,41,32,40,100,105,115,112,108,97,121,32,39,98,41,41,32,40,100,105,115,112,108,97,121,32,39,99,41,41]
def r2 : List TV := [r 3 5 [i 2,i 0,i 0,s [97],e,i 2,i 0,i 0,s [98],e,i 2,i 0,i 0,s [99],e],i 6,i 0,e,r 3 4 [i 5,i 0,e,r 2 4 [i 11,i 26,e,e,i 0,i 0,e,e],i 5,i 0,e,r 3 4 [i 11,i 20,e,e,i 5,i 0,e,r 1 4 [i 4,i 0,r 1 1 [i 0],r 1 4 [i 1,i 0,e,e]],i 5,i 0,e,r 2 4 [i 11,i 26,e,e,i 0,i 1,e,e]],i 5,i 0,e,r 2 4 [i 11,i 26,e,e,i 0,i 2,e,e]]]
def q10 : List TV := [r 3 5 [i 2,i 0,i 0,s [97],e,i 2,i 0,i 0,s [98],e,i 2,i 0,i 0,s [99],e],i 6,i 0,e,r 3 4 [i 10,i 26,e,q 4 1 4 [i 11,i 26,e,e,i 0,i 0,e,e],i 10,i 20,e,q 4 2 4 [i 11,i 20,e,e,i 5,i 0,e,r 1 4 [i 4,i 0,r 1 1 [i 0],r 1 4 [i 1,i 0,e,e]],i 10,i 26,e,q 4 1 4 [i 11,i 26,e,e,i 0,i 1,e,e]],i 10,i 26,e,q 4 1 4 [i 11,i 26,e,e,i 0,i 2,e,e]]]
def q11 : List TV := [r 3 5 [i 2,i 0,i 0,s [97],e,i 2,i 0,i 0,s [98],e,i 2,i 0,i 0,s [99],e],i 6,i 0,e,r 3 4 [i 10,i 26,e,r 1 4 [i 0,i 0,e,e],i 10,i 20,e,r 2 4 [i 5,i 0,e,r 1 4 [i 4,i 0,r 1 1 [i 0],r 1 4 [i 1,i 0,e,e]],i 10,i 26,e,r 1 4 [i 0,i 1,e,e]],i 10,i 26,e,r 1 4 [i 0,i 2,e,e]]]
def u000 : List TV := [r 3 5 [i 2,i 0,i 0,s [97],e,i 2,i 0,i 0,s [98],e,i 2,i 0,i 0,s [99],e],r 2 5 [i 1,.b false,i 1,r 1 5 [i 22,i 0,i 0,i 0,e],r 1 1 [e],i 0,.b false,i 4,r 13 5 [i 2,i 0,i 26,i 0,e,i 0,i 1,i 0,i 0,e,i 17,i 0,i 0,i 0,r 1 1 [i 1],i 2,i 0,i 20,i 0,e,i 5,i 1,i 0,i 0,e,i 17,i 1,i 1,i 0,e,i 2,i 2,i 26,i 0,e,i 0,i 3,i 1,i 0,e,i 17,i 2,i 2,i 0,r 1 1 [i 3],i 17,i 0,i 0,i 0,r 2 1 [i 1,i 2],i 2,i 0,i 26,i 0,e,i 0,i 1,i 2,i 0,e,i 19,i 0,i 0,i 0,r 1 1 [i 1]],r 13 1 [e,r 1 1 [i 0],e,e,r 1 1 [i 0],r 1 1 [i 0],r 2 1 [i 0,i 1],r 3 1 [i 0,i 1,i 2],r 2 1 [i 0,i 1],e,e,r 1 1 [i 0],e]]]
def u100 : List TV := [r 3 5 [i 2,i 0,i 0,s [97],e,i 2,i 0,i 0,s [98],e,i 2,i 0,i 0,s [99],e],r 2 5 [i 1,.b false,i 1,r 1 5 [i 22,i 0,i 0,i 0,e],r 1 1 [e],i 0,.b false,i 2,r 10 5 [i 0,i 0,i 0,i 0,e,i 9,i 0,i 26,i 0,r 1 1 [i 0],i 5,i 0,i 0,i 0,e,i 17,i 0,i 0,i 0,e,i 0,i 1,i 1,i 0,e,i 9,i 1,i 26,i 0,r 1 1 [i 1],i 9,i 0,i 20,i 0,r 2 1 [i 0,i 1],i 0,i 0,i 2,i 0,e,i 9,i 0,i 26,i 0,r 1 1 [i 0],i 22,i 0,i 0,i 0,e],r 10 1 [e,e,e,e,r 1 1 [i 0],r 1 1 [i 0],e,e,e,e]]]
def c1 : List ((Nat × CL) × Nat) := [((21, ps0 false r2 r2), 0), ((21, ps1 false r2 r2), 15), ((21, ps0 true r2 q10), 0), ((21, ps1 true r2 q11), 11)]
def c2 : List ((Nat × CL) × Nat) := [((23, un false r2 u000), 0), ((23, un true r2 u000), 0), ((23, un false q10 u100), 0), ((23, un true q10 u100), 0), ((23, un false q11 u100), 0), ((23, un true q11 u100), 0)]
def j2 : List Jb := jobs2 0 3 ++ jobs2 1 13 ++ jobs2 2 23
def j3 : List Jb := jobs3 0 2 ++ jobs3 1 8 ++ jobs4 tx 14
theorem s1 : segC mkX 1000 [] [[.a r2]] (jobs1 11) c1 = some tok := by kernel_rfl
theorem s2 : segC mkX 1000 [] [[.a r2], [.a q10], [.a q11]] j2 c2 = some tok := by kernel_rfl
theorem s3 : lastC mkX 1000 (c1.map Prod.fst ++ c2.map Prod.fst) [[.a u000], [.a u100]] j3 10 hp0 (endC 2 [97]) (argsX tx) = some tok := by kernel_rfl
end X1
end Am
end Go.Proofs.YtadbcnekkceoaaaGreatDoor
end
