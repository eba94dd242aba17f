/-
  No cell of these rows narrows 'for every input' (looked for: loops, veiled, ifaces, maps, wideKeys, modest, calm, conditions, laid).
  DERIVED. THE GIVEN ROWS OF THIS SEAT. 6 by the template 'for every input the law returns true; each argument reads behind the call as it read before'; 0 by the template 'total and deterministic' (their statements: YtlfjmppmclgjnaaTotals.lean).
  GIVEN WITH THE SEED: the statements are not yours to turn. If you find one false, say at which input.
  Laid BY PROGRAM, IN A SANDBOX (cutbox-rows.mjs): the forced cells as the released guide's own fill.sh prints them over the translation 58219d0d3426a6ed… (all of the seat's roots in one cut). By AI agents, Wed Nov 11 2026. No macro, syntax, notation, axiom, sorry.
-/
import Derived.Test.YtlfjmppmclgjnaaChecked
import GoSem.Claim
import GoSem.ClaimJoined
import GoSem.ClaimMapViews
import Derived.JoinedTies
import Derived.KernelRfl
namespace Go.Proofs.Ytlfjmppmclgjnaa
/- THE CELL 'sum', in the pinned program and in every row, IS THE sha256 OF THE DUMP (.gsa) THAT YtlfjmppmclgjnaaProg.lean LOADS. Nothing in Lean hashes anything: it is a label: what it is worth is what the hold of that sum in a sandbox is worth. -/
noncomputable def Try.pinned : Pinned := { name := "ytlfjmppmclgjnaa", sum := "58219d0d3426a6edcae8b227dcf3456b671e00fb0533a7f4a4a098576f34de19", checked := Try.checked }
namespace Rows
def none {H : Type} : Left H := { results := [], args := [] }

/-- 'corbellaw08.GraphReaches': WHATEVER THE INPUT: true; the input reads as it did. -/
def graphReachesSpec : ChangeSpec := { name := "graphReaches", fn := fun _ => fun
  | [d1, d2] => { results := [.lit (.bool true)], args := [d1, d2] }
  | _ => none }
def graphReachesRow : OpenClaim := { program := "ytlfjmppmclgjnaa", sum := "58219d0d3426a6edcae8b227dcf3456b671e00fb0533a7f4a4a098576f34de19", func := "corbel/corbellaw08.GraphReaches", spec := "graphReaches", unfollowed := true, recurses := true, apart := false }
def GraphReachesSaid : Prop := graphReachesRow.holds Try.pinned (OpenSpec.ofChange graphReachesSpec)

/-- ITS FALSE NEIGHBOUR: 'it returns false'. Refute it at one input. -/
def graphReachesWrong : ChangeSpec := { name := "graphReaches", fn := fun _ => fun
  | [d1, d2] => { results := [.lit (.bool false)], args := [d1, d2] }
  | _ => none }
def GraphReachesWrongFalsely : Prop := graphReachesRow.holds Try.pinned (OpenSpec.ofChange graphReachesWrong)

/-- 'corbellaw08.GraphGroups': WHATEVER THE INPUT: true; the input reads as it did. -/
def graphGroupsSpec : ChangeSpec := { name := "graphGroups", fn := fun _ => fun
  | [d] => { results := [.lit (.bool true)], args := [d] }
  | _ => none }
def graphGroupsRow : OpenClaim := { program := "ytlfjmppmclgjnaa", sum := "58219d0d3426a6edcae8b227dcf3456b671e00fb0533a7f4a4a098576f34de19", func := "corbel/corbellaw08.GraphGroups", spec := "graphGroups", unfollowed := true, recurses := true, apart := false }
def GraphGroupsSaid : Prop := graphGroupsRow.holds Try.pinned (OpenSpec.ofChange graphGroupsSpec)

/-- ITS FALSE NEIGHBOUR: 'it returns false'. Refute it at one input. -/
def graphGroupsWrong : ChangeSpec := { name := "graphGroups", fn := fun _ => fun
  | [d] => { results := [.lit (.bool false)], args := [d] }
  | _ => none }
def GraphGroupsWrongFalsely : Prop := graphGroupsRow.holds Try.pinned (OpenSpec.ofChange graphGroupsWrong)

/-- 'corbellaw08.GraphParts': WHATEVER THE INPUT: true; the input reads as it did. -/
def graphPartsSpec : ChangeSpec := { name := "graphParts", fn := fun _ => fun
  | [d] => { results := [.lit (.bool true)], args := [d] }
  | _ => none }
def graphPartsRow : OpenClaim := { program := "ytlfjmppmclgjnaa", sum := "58219d0d3426a6edcae8b227dcf3456b671e00fb0533a7f4a4a098576f34de19", func := "corbel/corbellaw08.GraphParts", spec := "graphParts", unfollowed := true, recurses := true, apart := false }
def GraphPartsSaid : Prop := graphPartsRow.holds Try.pinned (OpenSpec.ofChange graphPartsSpec)

/-- ITS FALSE NEIGHBOUR: 'it returns false'. Refute it at one input. -/
def graphPartsWrong : ChangeSpec := { name := "graphParts", fn := fun _ => fun
  | [d] => { results := [.lit (.bool false)], args := [d] }
  | _ => none }
def GraphPartsWrongFalsely : Prop := graphPartsRow.holds Try.pinned (OpenSpec.ofChange graphPartsWrong)

/-- 'corbellaw08.GraphGrows': WHATEVER THE INPUT: true; the input reads as it did. -/
def graphGrowsSpec : ChangeSpec := { name := "graphGrows", fn := fun _ => fun
  | [d1, d2, d3] => { results := [.lit (.bool true)], args := [d1, d2, d3] }
  | _ => none }
def graphGrowsRow : OpenClaim := { program := "ytlfjmppmclgjnaa", sum := "58219d0d3426a6edcae8b227dcf3456b671e00fb0533a7f4a4a098576f34de19", func := "corbel/corbellaw08.GraphGrows", spec := "graphGrows", unfollowed := true, recurses := true, apart := false }
def GraphGrowsSaid : Prop := graphGrowsRow.holds Try.pinned (OpenSpec.ofChange graphGrowsSpec)

/-- ITS FALSE NEIGHBOUR: 'it returns false'. Refute it at one input. -/
def graphGrowsWrong : ChangeSpec := { name := "graphGrows", fn := fun _ => fun
  | [d1, d2, d3] => { results := [.lit (.bool false)], args := [d1, d2, d3] }
  | _ => none }
def GraphGrowsWrongFalsely : Prop := graphGrowsRow.holds Try.pinned (OpenSpec.ofChange graphGrowsWrong)

/-- 'corbellaw08.GraphTurned': WHATEVER THE INPUT: true; the input reads as it did. -/
def graphTurnedSpec : ChangeSpec := { name := "graphTurned", fn := fun _ => fun
  | [d] => { results := [.lit (.bool true)], args := [d] }
  | _ => none }
def graphTurnedRow : OpenClaim := { program := "ytlfjmppmclgjnaa", sum := "58219d0d3426a6edcae8b227dcf3456b671e00fb0533a7f4a4a098576f34de19", func := "corbel/corbellaw08.GraphTurned", spec := "graphTurned", unfollowed := true, recurses := true, apart := false }
def GraphTurnedSaid : Prop := graphTurnedRow.holds Try.pinned (OpenSpec.ofChange graphTurnedSpec)

/-- ITS FALSE NEIGHBOUR: 'it returns false'. Refute it at one input. -/
def graphTurnedWrong : ChangeSpec := { name := "graphTurned", fn := fun _ => fun
  | [d] => { results := [.lit (.bool false)], args := [d] }
  | _ => none }
def GraphTurnedWrongFalsely : Prop := graphTurnedRow.holds Try.pinned (OpenSpec.ofChange graphTurnedWrong)

/-- 'corbellaw08.GraphRing': WHATEVER THE INPUT: true; the input reads as it did. -/
def graphRingSpec : ChangeSpec := { name := "graphRing", fn := fun _ => fun
  | [d] => { results := [.lit (.bool true)], args := [d] }
  | _ => none }
def graphRingRow : OpenClaim := { program := "ytlfjmppmclgjnaa", sum := "58219d0d3426a6edcae8b227dcf3456b671e00fb0533a7f4a4a098576f34de19", func := "corbel/corbellaw08.GraphRing", spec := "graphRing", unfollowed := true, recurses := true, apart := false }
def GraphRingSaid : Prop := graphRingRow.holds Try.pinned (OpenSpec.ofChange graphRingSpec)

/-- ITS FALSE NEIGHBOUR: 'it returns false'. Refute it at one input. -/
def graphRingWrong : ChangeSpec := { name := "graphRing", fn := fun _ => fun
  | [d] => { results := [.lit (.bool false)], args := [d] }
  | _ => none }
def GraphRingWrongFalsely : Prop := graphRingRow.holds Try.pinned (OpenSpec.ofChange graphRingWrong)

/- THE SECOND FORM. 'bulk': how many values and letters a reading holds, each counted each time it is reached (what is shared counts as often as it is met; a slice's spare places count too). A statement '..UptoSaid' is the law's where the arguments, and the package variables that the reading takes, are together of bulk at most 1048576: NARROWER than '..Said'. Prove '..Said' where nothing that the law and all that it calls make is longer than what came in: it says more and counts as full. Else prove '..UptoSaid'. A law counts once. -/
mutual
def uptoBulk {H : Type} : DataW H → Nat
  | .lit (.string bytes) => bytes.length + 1
  | .lit _ => 1
  | .nil => 1
  | .ptr d => uptoBulk d + 1
  | .slice elems spare => uptoBulkAll elems + uptoBulkAll spare + 1
  | .agg parts => uptoBulkAll parts + 1
  | .iface _ d => uptoBulk d + 1
  | .map entries => uptoBulkEntries entries + 1
  | .held _ => 1
def uptoBulkAll {H : Type} : List (DataW H) → Nat
  | [] => 0
  | d :: r => uptoBulk d + uptoBulkAll r
def uptoBulkEntries {H : Type} : List (Lit × DataW H) → Nat
  | [] => 0
  | x :: r => uptoBulkEntry x + uptoBulkEntries r
def uptoBulkEntry {H : Type} : Lit × DataW H → Nat
  | (.string bytes, d) => bytes.length + uptoBulk d + 1
  | (_, d) => uptoBulk d + 1
 end
def uptoSmall : (H : Type) → List (DataW H) → Bool := fun _ ds => decide (uptoBulkAll ds ≤ 1048576)
def OpenSpec.upto (s : _root_.Go.ChangeSpec) : _root_.Go.OpenSpec := { _root_.Go.OpenSpec.ofChange s with cond := some uptoSmall }

/-- 'corbellaw08.GraphReaches', WHERE WHAT IT READS IS OF BULK AT MOST 1048576: true; the input reads as it did. -/
def graphReachesUptoRow : OpenClaim := { program := "ytlfjmppmclgjnaa", sum := "58219d0d3426a6edcae8b227dcf3456b671e00fb0533a7f4a4a098576f34de19", func := "corbel/corbellaw08.GraphReaches", spec := "graphReaches", unfollowed := true, recurses := true, apart := false, narrowed := true }
def GraphReachesUptoSaid : Prop := graphReachesUptoRow.holds Try.pinned (OpenSpec.upto graphReachesSpec)

/-- 'corbellaw08.GraphGroups', WHERE WHAT IT READS IS OF BULK AT MOST 1048576: true; the input reads as it did. -/
def graphGroupsUptoRow : OpenClaim := { program := "ytlfjmppmclgjnaa", sum := "58219d0d3426a6edcae8b227dcf3456b671e00fb0533a7f4a4a098576f34de19", func := "corbel/corbellaw08.GraphGroups", spec := "graphGroups", unfollowed := true, recurses := true, apart := false, narrowed := true }
def GraphGroupsUptoSaid : Prop := graphGroupsUptoRow.holds Try.pinned (OpenSpec.upto graphGroupsSpec)

/-- 'corbellaw08.GraphParts', WHERE WHAT IT READS IS OF BULK AT MOST 1048576: true; the input reads as it did. -/
def graphPartsUptoRow : OpenClaim := { program := "ytlfjmppmclgjnaa", sum := "58219d0d3426a6edcae8b227dcf3456b671e00fb0533a7f4a4a098576f34de19", func := "corbel/corbellaw08.GraphParts", spec := "graphParts", unfollowed := true, recurses := true, apart := false, narrowed := true }
def GraphPartsUptoSaid : Prop := graphPartsUptoRow.holds Try.pinned (OpenSpec.upto graphPartsSpec)

/-- 'corbellaw08.GraphGrows', WHERE WHAT IT READS IS OF BULK AT MOST 1048576: true; the input reads as it did. -/
def graphGrowsUptoRow : OpenClaim := { program := "ytlfjmppmclgjnaa", sum := "58219d0d3426a6edcae8b227dcf3456b671e00fb0533a7f4a4a098576f34de19", func := "corbel/corbellaw08.GraphGrows", spec := "graphGrows", unfollowed := true, recurses := true, apart := false, narrowed := true }
def GraphGrowsUptoSaid : Prop := graphGrowsUptoRow.holds Try.pinned (OpenSpec.upto graphGrowsSpec)

/-- 'corbellaw08.GraphTurned', WHERE WHAT IT READS IS OF BULK AT MOST 1048576: true; the input reads as it did. -/
def graphTurnedUptoRow : OpenClaim := { program := "ytlfjmppmclgjnaa", sum := "58219d0d3426a6edcae8b227dcf3456b671e00fb0533a7f4a4a098576f34de19", func := "corbel/corbellaw08.GraphTurned", spec := "graphTurned", unfollowed := true, recurses := true, apart := false, narrowed := true }
def GraphTurnedUptoSaid : Prop := graphTurnedUptoRow.holds Try.pinned (OpenSpec.upto graphTurnedSpec)

/-- 'corbellaw08.GraphRing', WHERE WHAT IT READS IS OF BULK AT MOST 1048576: true; the input reads as it did. -/
def graphRingUptoRow : OpenClaim := { program := "ytlfjmppmclgjnaa", sum := "58219d0d3426a6edcae8b227dcf3456b671e00fb0533a7f4a4a098576f34de19", func := "corbel/corbellaw08.GraphRing", spec := "graphRing", unfollowed := true, recurses := true, apart := false, narrowed := true }
def GraphRingUptoSaid : Prop := graphRingUptoRow.holds Try.pinned (OpenSpec.upto graphRingSpec)

end Rows
end Go.Proofs.Ytlfjmppmclgjnaa
