/-
  No cell of these rows narrows 'for every input' (looked for: loops, veiled, ifaces, maps, wideKeys, modest, calm, conditions, laid).
  DERIVED. THE GIVEN ROWS OF THIS SEAT. 5 by the template 'for every input the law returns true; each argument reads behind the call as it read before'; 0 by the template 'total and deterministic' (their statements: YtckakbeeejbmdaaTotals.lean).
  GIVEN WITH THE SEED: the statements are not yours to turn. If you find one false, say at which input.
  Laid BY PROGRAM, IN A SANDBOX (cutbox-rows.mjs): the forced cells as the released guide's own fill.sh prints them over the translation b239049131151c0e… (all of the seat's roots in one cut). By AI agents, Wed Nov 11 2026. No macro, syntax, notation, axiom, sorry.
-/
import Derived.Test.YtckakbeeejbmdaaChecked
import GoSem.Claim
import GoSem.ClaimJoined
import GoSem.ClaimMapViews
import Derived.JoinedTies
import Derived.KernelRfl
namespace Go.Proofs.Ytckakbeeejbmdaa
/- THE CELL 'sum', in the pinned program and in every row, IS THE sha256 OF THE DUMP (.gsa) THAT YtckakbeeejbmdaaProg.lean LOADS. Nothing in Lean hashes anything: it is a label: what it is worth is what the hold of that sum in a sandbox is worth. -/
noncomputable def Try.pinned : Pinned := { name := "ytckakbeeejbmdaa", sum := "b239049131151c0e22adaa8491bdf9ad8bec207655a5ee3d4779a7933549215b", checked := Try.checked }
namespace Rows
def none {H : Type} : Left H := { results := [], args := [] }

/-- 'precentorlaw6.PredKnown': WHATEVER THE INPUT: true; the input reads as it did. -/
def predKnownSpec : ChangeSpec := { name := "predKnown", fn := fun _ => fun
  | [] => { results := [.lit (.bool true)], args := [] }
  | _ => none }
def predKnownRow : OpenClaim := { program := "ytckakbeeejbmdaa", sum := "b239049131151c0e22adaa8491bdf9ad8bec207655a5ee3d4779a7933549215b", func := "precentor/precentorlaw6.PredKnown", spec := "predKnown", inPlace := ["math.Float64frombits", "math.Float64bits", "math.archTrunc"], apart := false }
def PredKnownSaid : Prop := predKnownRow.holds Try.pinned (OpenSpec.ofChange predKnownSpec)

/-- ITS FALSE NEIGHBOUR: 'it returns false'. Refute it at one input. -/
def predKnownWrong : ChangeSpec := { name := "predKnown", fn := fun _ => fun
  | [] => { results := [.lit (.bool false)], args := [] }
  | _ => none }
def PredKnownWrongFalsely : Prop := predKnownRow.holds Try.pinned (OpenSpec.ofChange predKnownWrong)

/-- 'precentorlaw6.PredTells': WHATEVER THE INPUT: true; the input reads as it did. -/
def predTellsSpec : ChangeSpec := { name := "predTells", fn := fun _ => fun
  | [d1, d2, d3, d4] => { results := [.lit (.bool true)], args := [d1, d2, d3, d4] }
  | _ => none }
def predTellsRow : OpenClaim := { program := "ytckakbeeejbmdaa", sum := "b239049131151c0e22adaa8491bdf9ad8bec207655a5ee3d4779a7933549215b", func := "precentor/precentorlaw6.PredTells", spec := "predTells", inPlace := ["math.Float64bits", "math.Float64frombits", "math.archTrunc"], apart := false }
def PredTellsSaid : Prop := predTellsRow.holds Try.pinned (OpenSpec.ofChange predTellsSpec)

/-- ITS FALSE NEIGHBOUR: 'it returns false'. Refute it at one input. -/
def predTellsWrong : ChangeSpec := { name := "predTells", fn := fun _ => fun
  | [d1, d2, d3, d4] => { results := [.lit (.bool false)], args := [d1, d2, d3, d4] }
  | _ => none }
def PredTellsWrongFalsely : Prop := predTellsRow.holds Try.pinned (OpenSpec.ofChange predTellsWrong)

/-- 'precentorlaw6.PredImplies': WHATEVER THE INPUT: true; the input reads as it did. -/
def predImpliesSpec : ChangeSpec := { name := "predImplies", fn := fun _ => fun
  | [d1, d2, d3] => { results := [.lit (.bool true)], args := [d1, d2, d3] }
  | _ => none }
def predImpliesRow : OpenClaim := { program := "ytckakbeeejbmdaa", sum := "b239049131151c0e22adaa8491bdf9ad8bec207655a5ee3d4779a7933549215b", func := "precentor/precentorlaw6.PredImplies", spec := "predImplies", inPlace := ["math.Float64bits", "math.Float64frombits", "math.archTrunc"], apart := false }
def PredImpliesSaid : Prop := predImpliesRow.holds Try.pinned (OpenSpec.ofChange predImpliesSpec)

/-- ITS FALSE NEIGHBOUR: 'it returns false'. Refute it at one input. -/
def predImpliesWrong : ChangeSpec := { name := "predImplies", fn := fun _ => fun
  | [d1, d2, d3] => { results := [.lit (.bool false)], args := [d1, d2, d3] }
  | _ => none }
def PredImpliesWrongFalsely : Prop := predImpliesRow.holds Try.pinned (OpenSpec.ofChange predImpliesWrong)

/-- 'precentorlaw6.PredSound': WHATEVER THE INPUT: true; the input reads as it did. -/
def predSoundSpec : ChangeSpec := { name := "predSound", fn := fun _ => fun
  | [d1, d2] => { results := [.lit (.bool true)], args := [d1, d2] }
  | _ => none }
def predSoundRow : OpenClaim := { program := "ytckakbeeejbmdaa", sum := "b239049131151c0e22adaa8491bdf9ad8bec207655a5ee3d4779a7933549215b", func := "precentor/precentorlaw6.PredSound", spec := "predSound", inPlace := ["math.Float64bits", "math.Float64frombits", "math.archTrunc"], apart := false }
def PredSoundSaid : Prop := predSoundRow.holds Try.pinned (OpenSpec.ofChange predSoundSpec)

/-- ITS FALSE NEIGHBOUR: 'it returns false'. Refute it at one input. -/
def predSoundWrong : ChangeSpec := { name := "predSound", fn := fun _ => fun
  | [d1, d2] => { results := [.lit (.bool false)], args := [d1, d2] }
  | _ => none }
def PredSoundWrongFalsely : Prop := predSoundRow.holds Try.pinned (OpenSpec.ofChange predSoundWrong)

/-- 'precentorlaw6.PredAlike': WHATEVER THE INPUT: true; the input reads as it did. -/
def predAlikeSpec : ChangeSpec := { name := "predAlike", fn := fun _ => fun
  | [d] => { results := [.lit (.bool true)], args := [d] }
  | _ => none }
def predAlikeRow : OpenClaim := { program := "ytckakbeeejbmdaa", sum := "b239049131151c0e22adaa8491bdf9ad8bec207655a5ee3d4779a7933549215b", func := "precentor/precentorlaw6.PredAlike", spec := "predAlike", inPlace := ["math.Float64bits", "math.Float64frombits", "math.archTrunc"], apart := false }
def PredAlikeSaid : Prop := predAlikeRow.holds Try.pinned (OpenSpec.ofChange predAlikeSpec)

/-- ITS FALSE NEIGHBOUR: 'it returns false'. Refute it at one input. -/
def predAlikeWrong : ChangeSpec := { name := "predAlike", fn := fun _ => fun
  | [d] => { results := [.lit (.bool false)], args := [d] }
  | _ => none }
def PredAlikeWrongFalsely : Prop := predAlikeRow.holds Try.pinned (OpenSpec.ofChange predAlikeWrong)

/- THE SECOND FORM. 'bulk': how many values and letters a reading holds, each counted each time it is reached (what is shared counts as often as it is met; a slice's spare places count too). A statement '..UptoSaid' is the law's where the arguments, and the package variables that the reading takes, are together of bulk at most 1048576: NARROWER than '..Said'. Prove '..Said' where nothing that the law and all that it calls make is longer than what came in: it says more and counts as full. Else prove '..UptoSaid'. A law counts once. -/
mutual
def uptoBulk {H : Type} : DataW H → Nat
  | .lit (.string bytes) => bytes.length + 1
  | .lit _ => 1
  | .nil => 1
  | .ptr d => uptoBulk d + 1
  | .slice elems spare => uptoBulkAll elems + uptoBulkAll spare + 1
  | .agg parts => uptoBulkAll parts + 1
  | .iface _ d => uptoBulk d + 1
  | .map entries => uptoBulkEntries entries + 1
  | .held _ => 1
def uptoBulkAll {H : Type} : List (DataW H) → Nat
  | [] => 0
  | d :: r => uptoBulk d + uptoBulkAll r
def uptoBulkEntries {H : Type} : List (Lit × DataW H) → Nat
  | [] => 0
  | x :: r => uptoBulkEntry x + uptoBulkEntries r
def uptoBulkEntry {H : Type} : Lit × DataW H → Nat
  | (.string bytes, d) => bytes.length + uptoBulk d + 1
  | (_, d) => uptoBulk d + 1
 end
def uptoSmall : (H : Type) → List (DataW H) → Bool := fun _ ds => decide (uptoBulkAll ds ≤ 1048576)
def OpenSpec.upto (s : _root_.Go.ChangeSpec) : _root_.Go.OpenSpec := { _root_.Go.OpenSpec.ofChange s with cond := some uptoSmall }

/-- 'precentorlaw6.PredKnown', WHERE WHAT IT READS IS OF BULK AT MOST 1048576: true; the input reads as it did. -/
def predKnownUptoRow : OpenClaim := { program := "ytckakbeeejbmdaa", sum := "b239049131151c0e22adaa8491bdf9ad8bec207655a5ee3d4779a7933549215b", func := "precentor/precentorlaw6.PredKnown", spec := "predKnown", inPlace := ["math.Float64frombits", "math.Float64bits", "math.archTrunc"], apart := false, narrowed := true }
def PredKnownUptoSaid : Prop := predKnownUptoRow.holds Try.pinned (OpenSpec.upto predKnownSpec)

/-- 'precentorlaw6.PredTells', WHERE WHAT IT READS IS OF BULK AT MOST 1048576: true; the input reads as it did. -/
def predTellsUptoRow : OpenClaim := { program := "ytckakbeeejbmdaa", sum := "b239049131151c0e22adaa8491bdf9ad8bec207655a5ee3d4779a7933549215b", func := "precentor/precentorlaw6.PredTells", spec := "predTells", inPlace := ["math.Float64bits", "math.Float64frombits", "math.archTrunc"], apart := false, narrowed := true }
def PredTellsUptoSaid : Prop := predTellsUptoRow.holds Try.pinned (OpenSpec.upto predTellsSpec)

/-- 'precentorlaw6.PredImplies', WHERE WHAT IT READS IS OF BULK AT MOST 1048576: true; the input reads as it did. -/
def predImpliesUptoRow : OpenClaim := { program := "ytckakbeeejbmdaa", sum := "b239049131151c0e22adaa8491bdf9ad8bec207655a5ee3d4779a7933549215b", func := "precentor/precentorlaw6.PredImplies", spec := "predImplies", inPlace := ["math.Float64bits", "math.Float64frombits", "math.archTrunc"], apart := false, narrowed := true }
def PredImpliesUptoSaid : Prop := predImpliesUptoRow.holds Try.pinned (OpenSpec.upto predImpliesSpec)

/-- 'precentorlaw6.PredSound', WHERE WHAT IT READS IS OF BULK AT MOST 1048576: true; the input reads as it did. -/
def predSoundUptoRow : OpenClaim := { program := "ytckakbeeejbmdaa", sum := "b239049131151c0e22adaa8491bdf9ad8bec207655a5ee3d4779a7933549215b", func := "precentor/precentorlaw6.PredSound", spec := "predSound", inPlace := ["math.Float64bits", "math.Float64frombits", "math.archTrunc"], apart := false, narrowed := true }
def PredSoundUptoSaid : Prop := predSoundUptoRow.holds Try.pinned (OpenSpec.upto predSoundSpec)

/-- 'precentorlaw6.PredAlike', WHERE WHAT IT READS IS OF BULK AT MOST 1048576: true; the input reads as it did. -/
def predAlikeUptoRow : OpenClaim := { program := "ytckakbeeejbmdaa", sum := "b239049131151c0e22adaa8491bdf9ad8bec207655a5ee3d4779a7933549215b", func := "precentor/precentorlaw6.PredAlike", spec := "predAlike", inPlace := ["math.Float64bits", "math.Float64frombits", "math.archTrunc"], apart := false, narrowed := true }
def PredAlikeUptoSaid : Prop := predAlikeUptoRow.holds Try.pinned (OpenSpec.upto predAlikeSpec)

end Rows
end Go.Proofs.Ytckakbeeejbmdaa
