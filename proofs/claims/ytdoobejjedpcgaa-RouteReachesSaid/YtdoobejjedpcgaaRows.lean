/-
  No cell of these rows narrows 'for every input' (looked for: loops, veiled, ifaces, maps, wideKeys, modest, calm, conditions, laid).
  DERIVED. THE GIVEN ROWS OF THIS SEAT. 7 by the template 'for every input the law returns true; each argument reads behind the call as it read before'; 0 by the template 'total and deterministic' (their statements: YtdoobejjedpcgaaTotals.lean).
  GIVEN WITH THE SEED: the statements are not yours to turn. If you find one false, say at which input.
  Laid BY PROGRAM, IN A SANDBOX (cutbox-rows.mjs): the forced cells as the released guide's own fill.sh prints them over the translation da4b8e6a6b214725… (all of the seat's roots in one cut). By AI agents, Wed Nov 11 2026. No macro, syntax, notation, axiom, sorry.
-/
import Derived.Test.YtdoobejjedpcgaaChecked
import GoSem.Claim
import GoSem.ClaimJoined
import GoSem.ClaimMapViews
import Derived.JoinedTies
import Derived.KernelRfl
namespace Go.Proofs.Ytdoobejjedpcgaa
/- THE CELL 'sum', in the pinned program and in every row, IS THE sha256 OF THE DUMP (.gsa) THAT YtdoobejjedpcgaaProg.lean LOADS. Nothing in Lean hashes anything: it is a label: what it is worth is what the hold of that sum in a sandbox is worth. -/
noncomputable def Try.pinned : Pinned := { name := "ytdoobejjedpcgaa", sum := "da4b8e6a6b214725de07b78c8cd32d79154733cdc6dc4ffdd6a71ca587490161", checked := Try.checked }
namespace Rows
def none {H : Type} : Left H := { results := [], args := [] }

/-- 'precentorlaw12.GroupTells': WHATEVER THE INPUT: true; the input reads as it did. -/
def groupTellsSpec : ChangeSpec := { name := "groupTells", fn := fun _ => fun
  | [d1, d2] => { results := [.lit (.bool true)], args := [d1, d2] }
  | _ => none }
def groupTellsRow : OpenClaim := { program := "ytdoobejjedpcgaa", sum := "da4b8e6a6b214725de07b78c8cd32d79154733cdc6dc4ffdd6a71ca587490161", func := "precentor/precentorlaw12.GroupTells", spec := "groupTells", inPlace := ["math.Float64bits", "math.Float64frombits", "math.archTrunc"], apart := false }
def GroupTellsSaid : Prop := groupTellsRow.holds Try.pinned (OpenSpec.ofChange groupTellsSpec)

/-- ITS FALSE NEIGHBOUR: 'it returns false'. Refute it at one input. -/
def groupTellsWrong : ChangeSpec := { name := "groupTells", fn := fun _ => fun
  | [d1, d2] => { results := [.lit (.bool false)], args := [d1, d2] }
  | _ => none }
def GroupTellsWrongFalsely : Prop := groupTellsRow.holds Try.pinned (OpenSpec.ofChange groupTellsWrong)

/-- 'precentorlaw13.ChainWays': WHATEVER THE INPUT: true; the input reads as it did. -/
def chainWaysSpec : ChangeSpec := { name := "chainWays", fn := fun _ => fun
  | [d1, d2, d3] => { results := [.lit (.bool true)], args := [d1, d2, d3] }
  | _ => none }
def chainWaysRow : OpenClaim := { program := "ytdoobejjedpcgaa", sum := "da4b8e6a6b214725de07b78c8cd32d79154733cdc6dc4ffdd6a71ca587490161", func := "precentor/precentorlaw13.ChainWays", spec := "chainWays", inPlace := ["math.Float64bits", "math.Float64frombits"], apart := false }
def ChainWaysSaid : Prop := chainWaysRow.holds Try.pinned (OpenSpec.ofChange chainWaysSpec)

/-- ITS FALSE NEIGHBOUR: 'it returns false'. Refute it at one input. -/
def chainWaysWrong : ChangeSpec := { name := "chainWays", fn := fun _ => fun
  | [d1, d2, d3] => { results := [.lit (.bool false)], args := [d1, d2, d3] }
  | _ => none }
def ChainWaysWrongFalsely : Prop := chainWaysRow.holds Try.pinned (OpenSpec.ofChange chainWaysWrong)

/-- 'precentorlaw13.ChainPlaces': WHATEVER THE INPUT: true; the input reads as it did. -/
def chainPlacesSpec : ChangeSpec := { name := "chainPlaces", fn := fun _ => fun
  | [d] => { results := [.lit (.bool true)], args := [d] }
  | _ => none }
def chainPlacesRow : OpenClaim := { program := "ytdoobejjedpcgaa", sum := "da4b8e6a6b214725de07b78c8cd32d79154733cdc6dc4ffdd6a71ca587490161", func := "precentor/precentorlaw13.ChainPlaces", spec := "chainPlaces", inPlace := ["math.Float64bits", "math.Float64frombits"], apart := false }
def ChainPlacesSaid : Prop := chainPlacesRow.holds Try.pinned (OpenSpec.ofChange chainPlacesSpec)

/-- ITS FALSE NEIGHBOUR: 'it returns false'. Refute it at one input. -/
def chainPlacesWrong : ChangeSpec := { name := "chainPlaces", fn := fun _ => fun
  | [d] => { results := [.lit (.bool false)], args := [d] }
  | _ => none }
def ChainPlacesWrongFalsely : Prop := chainPlacesRow.holds Try.pinned (OpenSpec.ofChange chainPlacesWrong)

/-- 'precentorlaw13.ChainMeets': WHATEVER THE INPUT: true; the input reads as it did. -/
def chainMeetsSpec : ChangeSpec := { name := "chainMeets", fn := fun _ => fun
  | [d1, d2] => { results := [.lit (.bool true)], args := [d1, d2] }
  | _ => none }
def chainMeetsRow : OpenClaim := { program := "ytdoobejjedpcgaa", sum := "da4b8e6a6b214725de07b78c8cd32d79154733cdc6dc4ffdd6a71ca587490161", func := "precentor/precentorlaw13.ChainMeets", spec := "chainMeets", inPlace := ["math.Float64bits", "math.Float64frombits", "math.archTrunc"], apart := false }
def ChainMeetsSaid : Prop := chainMeetsRow.holds Try.pinned (OpenSpec.ofChange chainMeetsSpec)

/-- ITS FALSE NEIGHBOUR: 'it returns false'. Refute it at one input. -/
def chainMeetsWrong : ChangeSpec := { name := "chainMeets", fn := fun _ => fun
  | [d1, d2] => { results := [.lit (.bool false)], args := [d1, d2] }
  | _ => none }
def ChainMeetsWrongFalsely : Prop := chainMeetsRow.holds Try.pinned (OpenSpec.ofChange chainMeetsWrong)

/-- 'precentorlaw13.ChainTells': WHATEVER THE INPUT: true; the input reads as it did. -/
def chainTellsSpec : ChangeSpec := { name := "chainTells", fn := fun _ => fun
  | [d1, d2, d3] => { results := [.lit (.bool true)], args := [d1, d2, d3] }
  | _ => none }
def chainTellsRow : OpenClaim := { program := "ytdoobejjedpcgaa", sum := "da4b8e6a6b214725de07b78c8cd32d79154733cdc6dc4ffdd6a71ca587490161", func := "precentor/precentorlaw13.ChainTells", spec := "chainTells", inPlace := ["math.Float64bits", "math.Float64frombits", "math.archTrunc"], apart := false }
def ChainTellsSaid : Prop := chainTellsRow.holds Try.pinned (OpenSpec.ofChange chainTellsSpec)

/-- ITS FALSE NEIGHBOUR: 'it returns false'. Refute it at one input. -/
def chainTellsWrong : ChangeSpec := { name := "chainTells", fn := fun _ => fun
  | [d1, d2, d3] => { results := [.lit (.bool false)], args := [d1, d2, d3] }
  | _ => none }
def ChainTellsWrongFalsely : Prop := chainTellsRow.holds Try.pinned (OpenSpec.ofChange chainTellsWrong)

/-- 'precentorlaw17.RouteSides': WHATEVER THE INPUT: true; the input reads as it did. -/
def routeSidesSpec : ChangeSpec := { name := "routeSides", fn := fun _ => fun
  | [d1, d2, d3] => { results := [.lit (.bool true)], args := [d1, d2, d3] }
  | _ => none }
def routeSidesRow : OpenClaim := { program := "ytdoobejjedpcgaa", sum := "da4b8e6a6b214725de07b78c8cd32d79154733cdc6dc4ffdd6a71ca587490161", func := "precentor/precentorlaw17.RouteSides", spec := "routeSides", inPlace := ["math.Float64bits", "math.Float64frombits", "math.archTrunc"], unfollowed := true, recurses := true, apart := false }
def RouteSidesSaid : Prop := routeSidesRow.holds Try.pinned (OpenSpec.ofChange routeSidesSpec)

/-- ITS FALSE NEIGHBOUR: 'it returns false'. Refute it at one input. -/
def routeSidesWrong : ChangeSpec := { name := "routeSides", fn := fun _ => fun
  | [d1, d2, d3] => { results := [.lit (.bool false)], args := [d1, d2, d3] }
  | _ => none }
def RouteSidesWrongFalsely : Prop := routeSidesRow.holds Try.pinned (OpenSpec.ofChange routeSidesWrong)

/-- 'precentorlaw17.RouteReaches': WHATEVER THE INPUT: true; the input reads as it did. -/
def routeReachesSpec : ChangeSpec := { name := "routeReaches", fn := fun _ => fun
  | [d1, d2, d3] => { results := [.lit (.bool true)], args := [d1, d2, d3] }
  | _ => none }
def routeReachesRow : OpenClaim := { program := "ytdoobejjedpcgaa", sum := "da4b8e6a6b214725de07b78c8cd32d79154733cdc6dc4ffdd6a71ca587490161", func := "precentor/precentorlaw17.RouteReaches", spec := "routeReaches", inPlace := ["math.Float64bits", "math.Float64frombits", "math.archTrunc"], unfollowed := true, recurses := true, apart := false }
def RouteReachesSaid : Prop := routeReachesRow.holds Try.pinned (OpenSpec.ofChange routeReachesSpec)

/-- ITS FALSE NEIGHBOUR: 'it returns false'. Refute it at one input. -/
def routeReachesWrong : ChangeSpec := { name := "routeReaches", fn := fun _ => fun
  | [d1, d2, d3] => { results := [.lit (.bool false)], args := [d1, d2, d3] }
  | _ => none }
def RouteReachesWrongFalsely : Prop := routeReachesRow.holds Try.pinned (OpenSpec.ofChange routeReachesWrong)

/- THE SECOND FORM. 'bulk': how many values and letters a reading holds, each counted each time it is reached (what is shared counts as often as it is met; a slice's spare places count too). A statement '..UptoSaid' is the law's where the arguments, and the package variables that the reading takes, are together of bulk at most 1048576: NARROWER than '..Said'. Prove '..Said' where nothing that the law and all that it calls make is longer than what came in: it says more and counts as full. Else prove '..UptoSaid'. A law counts once. -/
mutual
def uptoBulk {H : Type} : DataW H → Nat
  | .lit (.string bytes) => bytes.length + 1
  | .lit _ => 1
  | .nil => 1
  | .ptr d => uptoBulk d + 1
  | .slice elems spare => uptoBulkAll elems + uptoBulkAll spare + 1
  | .agg parts => uptoBulkAll parts + 1
  | .iface _ d => uptoBulk d + 1
  | .map entries => uptoBulkEntries entries + 1
  | .held _ => 1
def uptoBulkAll {H : Type} : List (DataW H) → Nat
  | [] => 0
  | d :: r => uptoBulk d + uptoBulkAll r
def uptoBulkEntries {H : Type} : List (Lit × DataW H) → Nat
  | [] => 0
  | x :: r => uptoBulkEntry x + uptoBulkEntries r
def uptoBulkEntry {H : Type} : Lit × DataW H → Nat
  | (.string bytes, d) => bytes.length + uptoBulk d + 1
  | (_, d) => uptoBulk d + 1
 end
def uptoSmall : (H : Type) → List (DataW H) → Bool := fun _ ds => decide (uptoBulkAll ds ≤ 1048576)
def OpenSpec.upto (s : _root_.Go.ChangeSpec) : _root_.Go.OpenSpec := { _root_.Go.OpenSpec.ofChange s with cond := some uptoSmall }

/-- 'precentorlaw12.GroupTells', WHERE WHAT IT READS IS OF BULK AT MOST 1048576: true; the input reads as it did. -/
def groupTellsUptoRow : OpenClaim := { program := "ytdoobejjedpcgaa", sum := "da4b8e6a6b214725de07b78c8cd32d79154733cdc6dc4ffdd6a71ca587490161", func := "precentor/precentorlaw12.GroupTells", spec := "groupTells", inPlace := ["math.Float64bits", "math.Float64frombits", "math.archTrunc"], apart := false, narrowed := true }
def GroupTellsUptoSaid : Prop := groupTellsUptoRow.holds Try.pinned (OpenSpec.upto groupTellsSpec)

/-- 'precentorlaw13.ChainWays', WHERE WHAT IT READS IS OF BULK AT MOST 1048576: true; the input reads as it did. -/
def chainWaysUptoRow : OpenClaim := { program := "ytdoobejjedpcgaa", sum := "da4b8e6a6b214725de07b78c8cd32d79154733cdc6dc4ffdd6a71ca587490161", func := "precentor/precentorlaw13.ChainWays", spec := "chainWays", inPlace := ["math.Float64bits", "math.Float64frombits"], apart := false, narrowed := true }
def ChainWaysUptoSaid : Prop := chainWaysUptoRow.holds Try.pinned (OpenSpec.upto chainWaysSpec)

/-- 'precentorlaw13.ChainPlaces', WHERE WHAT IT READS IS OF BULK AT MOST 1048576: true; the input reads as it did. -/
def chainPlacesUptoRow : OpenClaim := { program := "ytdoobejjedpcgaa", sum := "da4b8e6a6b214725de07b78c8cd32d79154733cdc6dc4ffdd6a71ca587490161", func := "precentor/precentorlaw13.ChainPlaces", spec := "chainPlaces", inPlace := ["math.Float64bits", "math.Float64frombits"], apart := false, narrowed := true }
def ChainPlacesUptoSaid : Prop := chainPlacesUptoRow.holds Try.pinned (OpenSpec.upto chainPlacesSpec)

/-- 'precentorlaw13.ChainMeets', WHERE WHAT IT READS IS OF BULK AT MOST 1048576: true; the input reads as it did. -/
def chainMeetsUptoRow : OpenClaim := { program := "ytdoobejjedpcgaa", sum := "da4b8e6a6b214725de07b78c8cd32d79154733cdc6dc4ffdd6a71ca587490161", func := "precentor/precentorlaw13.ChainMeets", spec := "chainMeets", inPlace := ["math.Float64bits", "math.Float64frombits", "math.archTrunc"], apart := false, narrowed := true }
def ChainMeetsUptoSaid : Prop := chainMeetsUptoRow.holds Try.pinned (OpenSpec.upto chainMeetsSpec)

/-- 'precentorlaw13.ChainTells', WHERE WHAT IT READS IS OF BULK AT MOST 1048576: true; the input reads as it did. -/
def chainTellsUptoRow : OpenClaim := { program := "ytdoobejjedpcgaa", sum := "da4b8e6a6b214725de07b78c8cd32d79154733cdc6dc4ffdd6a71ca587490161", func := "precentor/precentorlaw13.ChainTells", spec := "chainTells", inPlace := ["math.Float64bits", "math.Float64frombits", "math.archTrunc"], apart := false, narrowed := true }
def ChainTellsUptoSaid : Prop := chainTellsUptoRow.holds Try.pinned (OpenSpec.upto chainTellsSpec)

/-- 'precentorlaw17.RouteSides', WHERE WHAT IT READS IS OF BULK AT MOST 1048576: true; the input reads as it did. -/
def routeSidesUptoRow : OpenClaim := { program := "ytdoobejjedpcgaa", sum := "da4b8e6a6b214725de07b78c8cd32d79154733cdc6dc4ffdd6a71ca587490161", func := "precentor/precentorlaw17.RouteSides", spec := "routeSides", inPlace := ["math.Float64bits", "math.Float64frombits", "math.archTrunc"], unfollowed := true, recurses := true, apart := false, narrowed := true }
def RouteSidesUptoSaid : Prop := routeSidesUptoRow.holds Try.pinned (OpenSpec.upto routeSidesSpec)

/-- 'precentorlaw17.RouteReaches', WHERE WHAT IT READS IS OF BULK AT MOST 1048576: true; the input reads as it did. -/
def routeReachesUptoRow : OpenClaim := { program := "ytdoobejjedpcgaa", sum := "da4b8e6a6b214725de07b78c8cd32d79154733cdc6dc4ffdd6a71ca587490161", func := "precentor/precentorlaw17.RouteReaches", spec := "routeReaches", inPlace := ["math.Float64bits", "math.Float64frombits", "math.archTrunc"], unfollowed := true, recurses := true, apart := false, narrowed := true }
def RouteReachesUptoSaid : Prop := routeReachesUptoRow.holds Try.pinned (OpenSpec.upto routeReachesSpec)

end Rows
end Go.Proofs.Ytdoobejjedpcgaa
