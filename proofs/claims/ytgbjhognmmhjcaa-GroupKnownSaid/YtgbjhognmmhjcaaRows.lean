/-
  No cell of these rows narrows 'for every input' (looked for: loops, veiled, ifaces, maps, wideKeys, modest, calm, conditions, laid).
  DERIVED. THE GIVEN ROWS OF THIS SEAT. 4 by the template 'for every input the law returns true; each argument reads behind the call as it read before'; 0 by the template 'total and deterministic' (their statements: YtgbjhognmmhjcaaTotals.lean).
  GIVEN WITH THE SEED: the statements are not yours to turn. If you find one false, say at which input.
  Laid BY PROGRAM, IN A SANDBOX (cutbox-rows.mjs): the forced cells as the released guide's own fill.sh prints them over the translation 3866d79566c4b794… (all of the seat's roots in one cut). By AI agents, Wed Nov 11 2026. No macro, syntax, notation, axiom, sorry.
-/
import Derived.Test.YtgbjhognmmhjcaaChecked
import GoSem.Claim
import GoSem.ClaimJoined
import GoSem.ClaimMapViews
import Derived.JoinedTies
import Derived.KernelRfl
namespace Go.Proofs.Ytgbjhognmmhjcaa
/- THE CELL 'sum', in the pinned program and in every row, IS THE sha256 OF THE DUMP (.gsa) THAT YtgbjhognmmhjcaaProg.lean LOADS. Nothing in Lean hashes anything: it is a label: what it is worth is what the hold of that sum in a sandbox is worth. -/
noncomputable def Try.pinned : Pinned := { name := "ytgbjhognmmhjcaa", sum := "3866d79566c4b7949902c15ea50319cb2c843c31f7006385d6e2d9b4a2425d14", checked := Try.checked }
namespace Rows
def none {H : Type} : Left H := { results := [], args := [] }

/-- 'precentorlaw12.GroupKnown': WHATEVER THE INPUT: true; the input reads as it did. -/
def groupKnownSpec : ChangeSpec := { name := "groupKnown", fn := fun _ => fun
  | [] => { results := [.lit (.bool true)], args := [] }
  | _ => none }
def groupKnownRow : OpenClaim := { program := "ytgbjhognmmhjcaa", sum := "3866d79566c4b7949902c15ea50319cb2c843c31f7006385d6e2d9b4a2425d14", func := "precentor/precentorlaw12.GroupKnown", spec := "groupKnown", inPlace := ["math.Float64bits", "math.archTrunc", "math.Float64frombits"], apart := false }
def GroupKnownSaid : Prop := groupKnownRow.holds Try.pinned (OpenSpec.ofChange groupKnownSpec)

/-- ITS FALSE NEIGHBOUR: 'it returns false'. Refute it at one input. -/
def groupKnownWrong : ChangeSpec := { name := "groupKnown", fn := fun _ => fun
  | [] => { results := [.lit (.bool false)], args := [] }
  | _ => none }
def GroupKnownWrongFalsely : Prop := groupKnownRow.holds Try.pinned (OpenSpec.ofChange groupKnownWrong)

/-- 'precentorlaw12.GroupTells': WHATEVER THE INPUT: true; the input reads as it did. -/
def groupTellsSpec : ChangeSpec := { name := "groupTells", fn := fun _ => fun
  | [d1, d2] => { results := [.lit (.bool true)], args := [d1, d2] }
  | _ => none }
def groupTellsRow : OpenClaim := { program := "ytgbjhognmmhjcaa", sum := "3866d79566c4b7949902c15ea50319cb2c843c31f7006385d6e2d9b4a2425d14", func := "precentor/precentorlaw12.GroupTells", spec := "groupTells", inPlace := ["math.Float64bits", "math.Float64frombits", "math.archTrunc"], apart := false }
def GroupTellsSaid : Prop := groupTellsRow.holds Try.pinned (OpenSpec.ofChange groupTellsSpec)

/-- ITS FALSE NEIGHBOUR: 'it returns false'. Refute it at one input. -/
def groupTellsWrong : ChangeSpec := { name := "groupTells", fn := fun _ => fun
  | [d1, d2] => { results := [.lit (.bool false)], args := [d1, d2] }
  | _ => none }
def GroupTellsWrongFalsely : Prop := groupTellsRow.holds Try.pinned (OpenSpec.ofChange groupTellsWrong)

/-- 'precentorlaw12.GroupReads': WHATEVER THE INPUT: true; the input reads as it did. -/
def groupReadsSpec : ChangeSpec := { name := "groupReads", fn := fun _ => fun
  | [d1, d2] => { results := [.lit (.bool true)], args := [d1, d2] }
  | _ => none }
def groupReadsRow : OpenClaim := { program := "ytgbjhognmmhjcaa", sum := "3866d79566c4b7949902c15ea50319cb2c843c31f7006385d6e2d9b4a2425d14", func := "precentor/precentorlaw12.GroupReads", spec := "groupReads", inPlace := ["math.Float64bits", "math.Float64frombits", "math.archTrunc"], apart := false }
def GroupReadsSaid : Prop := groupReadsRow.holds Try.pinned (OpenSpec.ofChange groupReadsSpec)

/-- ITS FALSE NEIGHBOUR: 'it returns false'. Refute it at one input. -/
def groupReadsWrong : ChangeSpec := { name := "groupReads", fn := fun _ => fun
  | [d1, d2] => { results := [.lit (.bool false)], args := [d1, d2] }
  | _ => none }
def GroupReadsWrongFalsely : Prop := groupReadsRow.holds Try.pinned (OpenSpec.ofChange groupReadsWrong)

/-- 'precentorlaw12.GroupApart': WHATEVER THE INPUT: true; the input reads as it did. -/
def groupApartSpec : ChangeSpec := { name := "groupApart", fn := fun _ => fun
  | [d] => { results := [.lit (.bool true)], args := [d] }
  | _ => none }
def groupApartRow : OpenClaim := { program := "ytgbjhognmmhjcaa", sum := "3866d79566c4b7949902c15ea50319cb2c843c31f7006385d6e2d9b4a2425d14", func := "precentor/precentorlaw12.GroupApart", spec := "groupApart", inPlace := ["math.Float64bits", "math.Float64frombits", "math.archTrunc"], apart := false }
def GroupApartSaid : Prop := groupApartRow.holds Try.pinned (OpenSpec.ofChange groupApartSpec)

/-- ITS FALSE NEIGHBOUR: 'it returns false'. Refute it at one input. -/
def groupApartWrong : ChangeSpec := { name := "groupApart", fn := fun _ => fun
  | [d] => { results := [.lit (.bool false)], args := [d] }
  | _ => none }
def GroupApartWrongFalsely : Prop := groupApartRow.holds Try.pinned (OpenSpec.ofChange groupApartWrong)

/- THE SECOND FORM. 'bulk': how many values and letters a reading holds, each counted each time it is reached (what is shared counts as often as it is met; a slice's spare places count too). A statement '..UptoSaid' is the law's where the arguments, and the package variables that the reading takes, are together of bulk at most 1048576: NARROWER than '..Said'. Prove '..Said' where nothing that the law and all that it calls make is longer than what came in: it says more and counts as full. Else prove '..UptoSaid'. A law counts once. -/
mutual
def uptoBulk {H : Type} : DataW H → Nat
  | .lit (.string bytes) => bytes.length + 1
  | .lit _ => 1
  | .nil => 1
  | .ptr d => uptoBulk d + 1
  | .slice elems spare => uptoBulkAll elems + uptoBulkAll spare + 1
  | .agg parts => uptoBulkAll parts + 1
  | .iface _ d => uptoBulk d + 1
  | .map entries => uptoBulkEntries entries + 1
  | .held _ => 1
def uptoBulkAll {H : Type} : List (DataW H) → Nat
  | [] => 0
  | d :: r => uptoBulk d + uptoBulkAll r
def uptoBulkEntries {H : Type} : List (Lit × DataW H) → Nat
  | [] => 0
  | x :: r => uptoBulkEntry x + uptoBulkEntries r
def uptoBulkEntry {H : Type} : Lit × DataW H → Nat
  | (.string bytes, d) => bytes.length + uptoBulk d + 1
  | (_, d) => uptoBulk d + 1
 end
def uptoSmall : (H : Type) → List (DataW H) → Bool := fun _ ds => decide (uptoBulkAll ds ≤ 1048576)
def OpenSpec.upto (s : _root_.Go.ChangeSpec) : _root_.Go.OpenSpec := { _root_.Go.OpenSpec.ofChange s with cond := some uptoSmall }

/-- 'precentorlaw12.GroupKnown', WHERE WHAT IT READS IS OF BULK AT MOST 1048576: true; the input reads as it did. -/
def groupKnownUptoRow : OpenClaim := { program := "ytgbjhognmmhjcaa", sum := "3866d79566c4b7949902c15ea50319cb2c843c31f7006385d6e2d9b4a2425d14", func := "precentor/precentorlaw12.GroupKnown", spec := "groupKnown", inPlace := ["math.Float64bits", "math.archTrunc", "math.Float64frombits"], apart := false, narrowed := true }
def GroupKnownUptoSaid : Prop := groupKnownUptoRow.holds Try.pinned (OpenSpec.upto groupKnownSpec)

/-- 'precentorlaw12.GroupTells', WHERE WHAT IT READS IS OF BULK AT MOST 1048576: true; the input reads as it did. -/
def groupTellsUptoRow : OpenClaim := { program := "ytgbjhognmmhjcaa", sum := "3866d79566c4b7949902c15ea50319cb2c843c31f7006385d6e2d9b4a2425d14", func := "precentor/precentorlaw12.GroupTells", spec := "groupTells", inPlace := ["math.Float64bits", "math.Float64frombits", "math.archTrunc"], apart := false, narrowed := true }
def GroupTellsUptoSaid : Prop := groupTellsUptoRow.holds Try.pinned (OpenSpec.upto groupTellsSpec)

/-- 'precentorlaw12.GroupReads', WHERE WHAT IT READS IS OF BULK AT MOST 1048576: true; the input reads as it did. -/
def groupReadsUptoRow : OpenClaim := { program := "ytgbjhognmmhjcaa", sum := "3866d79566c4b7949902c15ea50319cb2c843c31f7006385d6e2d9b4a2425d14", func := "precentor/precentorlaw12.GroupReads", spec := "groupReads", inPlace := ["math.Float64bits", "math.Float64frombits", "math.archTrunc"], apart := false, narrowed := true }
def GroupReadsUptoSaid : Prop := groupReadsUptoRow.holds Try.pinned (OpenSpec.upto groupReadsSpec)

/-- 'precentorlaw12.GroupApart', WHERE WHAT IT READS IS OF BULK AT MOST 1048576: true; the input reads as it did. -/
def groupApartUptoRow : OpenClaim := { program := "ytgbjhognmmhjcaa", sum := "3866d79566c4b7949902c15ea50319cb2c843c31f7006385d6e2d9b4a2425d14", func := "precentor/precentorlaw12.GroupApart", spec := "groupApart", inPlace := ["math.Float64bits", "math.Float64frombits", "math.archTrunc"], apart := false, narrowed := true }
def GroupApartUptoSaid : Prop := groupApartUptoRow.holds Try.pinned (OpenSpec.upto groupApartSpec)

end Rows
end Go.Proofs.Ytgbjhognmmhjcaa
