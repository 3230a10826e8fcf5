/-
  No cell of these rows narrows 'for every input' (looked for: loops, veiled, ifaces, maps, wideKeys, modest, calm, conditions, laid).
  DERIVED. THE GIVEN ROWS OF THIS SEAT. 3 by the template 'for every input the law returns true; each argument reads behind the call as it read before'; 0 by the template 'total and deterministic' (their statements: YtkbolalalofdhaaTotals.lean).
  GIVEN WITH THE SEED: the statements are not yours to turn. If you find one false, say at which input.
  Laid BY PROGRAM, IN A SANDBOX (cutbox-rows.mjs): the forced cells as the released guide's own fill.sh prints them over the translation 063f33e727a8e126… (all of the seat's roots in one cut). By AI agents, Wed Nov 11 2026. No macro, syntax, notation, axiom, sorry.
-/
import Derived.Test.YtkbolalalofdhaaChecked
import GoSem.Claim
import GoSem.ClaimJoined
import GoSem.ClaimMapViews
import Derived.JoinedTies
import Derived.KernelRfl
namespace Go.Proofs.Ytkbolalalofdhaa
/- THE CELL 'sum', in the pinned program and in every row, IS THE sha256 OF THE DUMP (.gsa) THAT YtkbolalalofdhaaProg.lean LOADS. Nothing in Lean hashes anything: it is a label: what it is worth is what the hold of that sum in a sandbox is worth. -/
noncomputable def Try.pinned : Pinned := { name := "ytkbolalalofdhaa", sum := "063f33e727a8e12672db4cf3d7ead6f0ca182b46ae19d5800267716efaa9de60", checked := Try.checked }
namespace Rows
def none {H : Type} : Left H := { results := [], args := [] }

/-- 'precentorlaw17.RouteKnown': WHATEVER THE INPUT: true; the input reads as it did. -/
def routeKnownSpec : ChangeSpec := { name := "routeKnown", fn := fun _ => fun
  | [] => { results := [.lit (.bool true)], args := [] }
  | _ => none }
def routeKnownRow : OpenClaim := { program := "ytkbolalalofdhaa", sum := "063f33e727a8e12672db4cf3d7ead6f0ca182b46ae19d5800267716efaa9de60", func := "precentor/precentorlaw17.RouteKnown", spec := "routeKnown", inPlace := ["math.Float64bits", "math.archTrunc", "math.Float64frombits"], unfollowed := true, recurses := true, apart := false }
def RouteKnownSaid : Prop := routeKnownRow.holds Try.pinned (OpenSpec.ofChange routeKnownSpec)

/-- ITS FALSE NEIGHBOUR: 'it returns false'. Refute it at one input. -/
def routeKnownWrong : ChangeSpec := { name := "routeKnown", fn := fun _ => fun
  | [] => { results := [.lit (.bool false)], args := [] }
  | _ => none }
def RouteKnownWrongFalsely : Prop := routeKnownRow.holds Try.pinned (OpenSpec.ofChange routeKnownWrong)

/-- 'precentorlaw17.RouteSides': WHATEVER THE INPUT: true; the input reads as it did. -/
def routeSidesSpec : ChangeSpec := { name := "routeSides", fn := fun _ => fun
  | [d1, d2, d3] => { results := [.lit (.bool true)], args := [d1, d2, d3] }
  | _ => none }
def routeSidesRow : OpenClaim := { program := "ytkbolalalofdhaa", sum := "063f33e727a8e12672db4cf3d7ead6f0ca182b46ae19d5800267716efaa9de60", func := "precentor/precentorlaw17.RouteSides", spec := "routeSides", inPlace := ["math.Float64bits", "math.Float64frombits", "math.archTrunc"], unfollowed := true, recurses := true, apart := false }
def RouteSidesSaid : Prop := routeSidesRow.holds Try.pinned (OpenSpec.ofChange routeSidesSpec)

/-- ITS FALSE NEIGHBOUR: 'it returns false'. Refute it at one input. -/
def routeSidesWrong : ChangeSpec := { name := "routeSides", fn := fun _ => fun
  | [d1, d2, d3] => { results := [.lit (.bool false)], args := [d1, d2, d3] }
  | _ => none }
def RouteSidesWrongFalsely : Prop := routeSidesRow.holds Try.pinned (OpenSpec.ofChange routeSidesWrong)

/-- 'precentorlaw17.RouteReaches': WHATEVER THE INPUT: true; the input reads as it did. -/
def routeReachesSpec : ChangeSpec := { name := "routeReaches", fn := fun _ => fun
  | [d1, d2, d3] => { results := [.lit (.bool true)], args := [d1, d2, d3] }
  | _ => none }
def routeReachesRow : OpenClaim := { program := "ytkbolalalofdhaa", sum := "063f33e727a8e12672db4cf3d7ead6f0ca182b46ae19d5800267716efaa9de60", func := "precentor/precentorlaw17.RouteReaches", spec := "routeReaches", inPlace := ["math.Float64bits", "math.Float64frombits", "math.archTrunc"], unfollowed := true, recurses := true, apart := false }
def RouteReachesSaid : Prop := routeReachesRow.holds Try.pinned (OpenSpec.ofChange routeReachesSpec)

/-- ITS FALSE NEIGHBOUR: 'it returns false'. Refute it at one input. -/
def routeReachesWrong : ChangeSpec := { name := "routeReaches", fn := fun _ => fun
  | [d1, d2, d3] => { results := [.lit (.bool false)], args := [d1, d2, d3] }
  | _ => none }
def RouteReachesWrongFalsely : Prop := routeReachesRow.holds Try.pinned (OpenSpec.ofChange routeReachesWrong)

/- THE SECOND FORM. 'bulk': how many values and letters a reading holds, each counted each time it is reached (what is shared counts as often as it is met; a slice's spare places count too). A statement '..UptoSaid' is the law's where the arguments, and the package variables that the reading takes, are together of bulk at most 1048576: NARROWER than '..Said'. Prove '..Said' where nothing that the law and all that it calls make is longer than what came in: it says more and counts as full. Else prove '..UptoSaid'. A law counts once. -/
mutual
def uptoBulk {H : Type} : DataW H → Nat
  | .lit (.string bytes) => bytes.length + 1
  | .lit _ => 1
  | .nil => 1
  | .ptr d => uptoBulk d + 1
  | .slice elems spare => uptoBulkAll elems + uptoBulkAll spare + 1
  | .agg parts => uptoBulkAll parts + 1
  | .iface _ d => uptoBulk d + 1
  | .map entries => uptoBulkEntries entries + 1
  | .held _ => 1
def uptoBulkAll {H : Type} : List (DataW H) → Nat
  | [] => 0
  | d :: r => uptoBulk d + uptoBulkAll r
def uptoBulkEntries {H : Type} : List (Lit × DataW H) → Nat
  | [] => 0
  | x :: r => uptoBulkEntry x + uptoBulkEntries r
def uptoBulkEntry {H : Type} : Lit × DataW H → Nat
  | (.string bytes, d) => bytes.length + uptoBulk d + 1
  | (_, d) => uptoBulk d + 1
 end
def uptoSmall : (H : Type) → List (DataW H) → Bool := fun _ ds => decide (uptoBulkAll ds ≤ 1048576)
def OpenSpec.upto (s : _root_.Go.ChangeSpec) : _root_.Go.OpenSpec := { _root_.Go.OpenSpec.ofChange s with cond := some uptoSmall }

/-- 'precentorlaw17.RouteKnown', WHERE WHAT IT READS IS OF BULK AT MOST 1048576: true; the input reads as it did. -/
def routeKnownUptoRow : OpenClaim := { program := "ytkbolalalofdhaa", sum := "063f33e727a8e12672db4cf3d7ead6f0ca182b46ae19d5800267716efaa9de60", func := "precentor/precentorlaw17.RouteKnown", spec := "routeKnown", inPlace := ["math.Float64bits", "math.archTrunc", "math.Float64frombits"], unfollowed := true, recurses := true, apart := false, narrowed := true }
def RouteKnownUptoSaid : Prop := routeKnownUptoRow.holds Try.pinned (OpenSpec.upto routeKnownSpec)

/-- 'precentorlaw17.RouteSides', WHERE WHAT IT READS IS OF BULK AT MOST 1048576: true; the input reads as it did. -/
def routeSidesUptoRow : OpenClaim := { program := "ytkbolalalofdhaa", sum := "063f33e727a8e12672db4cf3d7ead6f0ca182b46ae19d5800267716efaa9de60", func := "precentor/precentorlaw17.RouteSides", spec := "routeSides", inPlace := ["math.Float64bits", "math.Float64frombits", "math.archTrunc"], unfollowed := true, recurses := true, apart := false, narrowed := true }
def RouteSidesUptoSaid : Prop := routeSidesUptoRow.holds Try.pinned (OpenSpec.upto routeSidesSpec)

/-- 'precentorlaw17.RouteReaches', WHERE WHAT IT READS IS OF BULK AT MOST 1048576: true; the input reads as it did. -/
def routeReachesUptoRow : OpenClaim := { program := "ytkbolalalofdhaa", sum := "063f33e727a8e12672db4cf3d7ead6f0ca182b46ae19d5800267716efaa9de60", func := "precentor/precentorlaw17.RouteReaches", spec := "routeReaches", inPlace := ["math.Float64bits", "math.Float64frombits", "math.archTrunc"], unfollowed := true, recurses := true, apart := false, narrowed := true }
def RouteReachesUptoSaid : Prop := routeReachesUptoRow.holds Try.pinned (OpenSpec.upto routeReachesSpec)

end Rows
end Go.Proofs.Ytkbolalalofdhaa
