/-
  No cell of these rows narrows 'for every input' (looked for: loops, veiled, ifaces, maps, wideKeys, modest, calm, conditions, laid).
  DERIVED. THE GIVEN ROWS OF THIS SEAT. 4 by the template 'for every input the law returns true; each argument reads behind the call as it read before'; 0 by the template 'total and deterministic' (their statements: YtlodbjbibkpkmaaTotals.lean).
  GIVEN WITH THE SEED: the statements are not yours to turn. If you find one false, say at which input.
  Laid BY PROGRAM, IN A SANDBOX (cutbox-rows.mjs): the forced cells as the released guide's own fill.sh prints them over the translation 94073372c7586b5c… (all of the seat's roots in one cut). By AI agents, Wed Nov 11 2026. No macro, syntax, notation, axiom, sorry.
-/
import Derived.Test.YtlodbjbibkpkmaaChecked
import GoSem.Claim
import GoSem.ClaimJoined
import GoSem.ClaimMapViews
import Derived.JoinedTies
import Derived.KernelRfl
namespace Go.Proofs.Ytlodbjbibkpkmaa
/- THE CELL 'sum', in the pinned program and in every row, IS THE sha256 OF THE DUMP (.gsa) THAT YtlodbjbibkpkmaaProg.lean LOADS. Nothing in Lean hashes anything: it is a label: what it is worth is what the hold of that sum in a sandbox is worth. -/
noncomputable def Try.pinned : Pinned := { name := "ytlodbjbibkpkmaa", sum := "94073372c7586b5c987b07364717976f7f3f0e5a391f12d85d0e81bb04955909", checked := Try.checked }
namespace Rows
def none {H : Type} : Left H := { results := [], args := [] }

/-- 'precentorlaw8.WireKnown': WHATEVER THE INPUT: true; the input reads as it did. -/
def wireKnownSpec : ChangeSpec := { name := "wireKnown", fn := fun _ => fun
  | [] => { results := [.lit (.bool true)], args := [] }
  | _ => none }
def wireKnownRow : OpenClaim := { program := "ytlodbjbibkpkmaa", sum := "94073372c7586b5c987b07364717976f7f3f0e5a391f12d85d0e81bb04955909", func := "precentor/precentorlaw8.WireKnown", spec := "wireKnown", inPlace := ["math.Float64frombits", "math.Float64bits"], unfollowed := true, recurses := true, apart := false }
def WireKnownSaid : Prop := wireKnownRow.holds Try.pinned (OpenSpec.ofChange wireKnownSpec)

/-- ITS FALSE NEIGHBOUR: 'it returns false'. Refute it at one input. -/
def wireKnownWrong : ChangeSpec := { name := "wireKnown", fn := fun _ => fun
  | [] => { results := [.lit (.bool false)], args := [] }
  | _ => none }
def WireKnownWrongFalsely : Prop := wireKnownRow.holds Try.pinned (OpenSpec.ofChange wireKnownWrong)

/-- 'precentorlaw8.WireBack': WHATEVER THE INPUT: true; the input reads as it did. -/
def wireBackSpec : ChangeSpec := { name := "wireBack", fn := fun _ => fun
  | [d1, d2, d3] => { results := [.lit (.bool true)], args := [d1, d2, d3] }
  | _ => none }
def wireBackRow : OpenClaim := { program := "ytlodbjbibkpkmaa", sum := "94073372c7586b5c987b07364717976f7f3f0e5a391f12d85d0e81bb04955909", func := "precentor/precentorlaw8.WireBack", spec := "wireBack", inPlace := ["math.Float64bits", "math.Float64frombits"], unfollowed := true, recurses := true, apart := false }
def WireBackSaid : Prop := wireBackRow.holds Try.pinned (OpenSpec.ofChange wireBackSpec)

/-- ITS FALSE NEIGHBOUR: 'it returns false'. Refute it at one input. -/
def wireBackWrong : ChangeSpec := { name := "wireBack", fn := fun _ => fun
  | [d1, d2, d3] => { results := [.lit (.bool false)], args := [d1, d2, d3] }
  | _ => none }
def WireBackWrongFalsely : Prop := wireBackRow.holds Try.pinned (OpenSpec.ofChange wireBackWrong)

/-- 'precentorlaw8.WireOnly': WHATEVER THE INPUT: true; the input reads as it did. -/
def wireOnlySpec : ChangeSpec := { name := "wireOnly", fn := fun _ => fun
  | [d1, d2, d3, d4, d5] => { results := [.lit (.bool true)], args := [d1, d2, d3, d4, d5] }
  | _ => none }
def wireOnlyRow : OpenClaim := { program := "ytlodbjbibkpkmaa", sum := "94073372c7586b5c987b07364717976f7f3f0e5a391f12d85d0e81bb04955909", func := "precentor/precentorlaw8.WireOnly", spec := "wireOnly", inPlace := ["math.Float64bits", "math.Float64frombits"], unfollowed := true, recurses := true, apart := false }
def WireOnlySaid : Prop := wireOnlyRow.holds Try.pinned (OpenSpec.ofChange wireOnlySpec)

/-- ITS FALSE NEIGHBOUR: 'it returns false'. Refute it at one input. -/
def wireOnlyWrong : ChangeSpec := { name := "wireOnly", fn := fun _ => fun
  | [d1, d2, d3, d4, d5] => { results := [.lit (.bool false)], args := [d1, d2, d3, d4, d5] }
  | _ => none }
def WireOnlyWrongFalsely : Prop := wireOnlyRow.holds Try.pinned (OpenSpec.ofChange wireOnlyWrong)

/-- 'precentorlaw8.WireParts': WHATEVER THE INPUT: true; the input reads as it did. -/
def wirePartsSpec : ChangeSpec := { name := "wireParts", fn := fun _ => fun
  | [d1, d2, d3] => { results := [.lit (.bool true)], args := [d1, d2, d3] }
  | _ => none }
def wirePartsRow : OpenClaim := { program := "ytlodbjbibkpkmaa", sum := "94073372c7586b5c987b07364717976f7f3f0e5a391f12d85d0e81bb04955909", func := "precentor/precentorlaw8.WireParts", spec := "wireParts", inPlace := ["math.Float64bits", "math.Float64frombits"], unfollowed := true, recurses := true, apart := false }
def WirePartsSaid : Prop := wirePartsRow.holds Try.pinned (OpenSpec.ofChange wirePartsSpec)

/-- ITS FALSE NEIGHBOUR: 'it returns false'. Refute it at one input. -/
def wirePartsWrong : ChangeSpec := { name := "wireParts", fn := fun _ => fun
  | [d1, d2, d3] => { results := [.lit (.bool false)], args := [d1, d2, d3] }
  | _ => none }
def WirePartsWrongFalsely : Prop := wirePartsRow.holds Try.pinned (OpenSpec.ofChange wirePartsWrong)

/- THE SECOND FORM. 'bulk': how many values and letters a reading holds, each counted each time it is reached (what is shared counts as often as it is met; a slice's spare places count too). A statement '..UptoSaid' is the law's where the arguments, and the package variables that the reading takes, are together of bulk at most 1048576: NARROWER than '..Said'. Prove '..Said' where nothing that the law and all that it calls make is longer than what came in: it says more and counts as full. Else prove '..UptoSaid'. A law counts once. -/
mutual
def uptoBulk {H : Type} : DataW H → Nat
  | .lit (.string bytes) => bytes.length + 1
  | .lit _ => 1
  | .nil => 1
  | .ptr d => uptoBulk d + 1
  | .slice elems spare => uptoBulkAll elems + uptoBulkAll spare + 1
  | .agg parts => uptoBulkAll parts + 1
  | .iface _ d => uptoBulk d + 1
  | .map entries => uptoBulkEntries entries + 1
  | .held _ => 1
def uptoBulkAll {H : Type} : List (DataW H) → Nat
  | [] => 0
  | d :: r => uptoBulk d + uptoBulkAll r
def uptoBulkEntries {H : Type} : List (Lit × DataW H) → Nat
  | [] => 0
  | x :: r => uptoBulkEntry x + uptoBulkEntries r
def uptoBulkEntry {H : Type} : Lit × DataW H → Nat
  | (.string bytes, d) => bytes.length + uptoBulk d + 1
  | (_, d) => uptoBulk d + 1
 end
def uptoSmall : (H : Type) → List (DataW H) → Bool := fun _ ds => decide (uptoBulkAll ds ≤ 1048576)
def OpenSpec.upto (s : _root_.Go.ChangeSpec) : _root_.Go.OpenSpec := { _root_.Go.OpenSpec.ofChange s with cond := some uptoSmall }

/-- 'precentorlaw8.WireKnown', WHERE WHAT IT READS IS OF BULK AT MOST 1048576: true; the input reads as it did. -/
def wireKnownUptoRow : OpenClaim := { program := "ytlodbjbibkpkmaa", sum := "94073372c7586b5c987b07364717976f7f3f0e5a391f12d85d0e81bb04955909", func := "precentor/precentorlaw8.WireKnown", spec := "wireKnown", inPlace := ["math.Float64frombits", "math.Float64bits"], unfollowed := true, recurses := true, apart := false, narrowed := true }
def WireKnownUptoSaid : Prop := wireKnownUptoRow.holds Try.pinned (OpenSpec.upto wireKnownSpec)

/-- 'precentorlaw8.WireBack', WHERE WHAT IT READS IS OF BULK AT MOST 1048576: true; the input reads as it did. -/
def wireBackUptoRow : OpenClaim := { program := "ytlodbjbibkpkmaa", sum := "94073372c7586b5c987b07364717976f7f3f0e5a391f12d85d0e81bb04955909", func := "precentor/precentorlaw8.WireBack", spec := "wireBack", inPlace := ["math.Float64bits", "math.Float64frombits"], unfollowed := true, recurses := true, apart := false, narrowed := true }
def WireBackUptoSaid : Prop := wireBackUptoRow.holds Try.pinned (OpenSpec.upto wireBackSpec)

/-- 'precentorlaw8.WireOnly', WHERE WHAT IT READS IS OF BULK AT MOST 1048576: true; the input reads as it did. -/
def wireOnlyUptoRow : OpenClaim := { program := "ytlodbjbibkpkmaa", sum := "94073372c7586b5c987b07364717976f7f3f0e5a391f12d85d0e81bb04955909", func := "precentor/precentorlaw8.WireOnly", spec := "wireOnly", inPlace := ["math.Float64bits", "math.Float64frombits"], unfollowed := true, recurses := true, apart := false, narrowed := true }
def WireOnlyUptoSaid : Prop := wireOnlyUptoRow.holds Try.pinned (OpenSpec.upto wireOnlySpec)

/-- 'precentorlaw8.WireParts', WHERE WHAT IT READS IS OF BULK AT MOST 1048576: true; the input reads as it did. -/
def wirePartsUptoRow : OpenClaim := { program := "ytlodbjbibkpkmaa", sum := "94073372c7586b5c987b07364717976f7f3f0e5a391f12d85d0e81bb04955909", func := "precentor/precentorlaw8.WireParts", spec := "wireParts", inPlace := ["math.Float64bits", "math.Float64frombits"], unfollowed := true, recurses := true, apart := false, narrowed := true }
def WirePartsUptoSaid : Prop := wirePartsUptoRow.holds Try.pinned (OpenSpec.upto wirePartsSpec)

end Rows
end Go.Proofs.Ytlodbjbibkpkmaa
