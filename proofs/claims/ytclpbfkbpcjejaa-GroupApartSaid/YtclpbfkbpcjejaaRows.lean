/-
  No cell of these rows narrows 'for every input' (looked for: loops, veiled, ifaces, maps, wideKeys, modest, calm, conditions, laid).
  DERIVED. THE GIVEN ROWS OF THIS SEAT. 12 by the template 'for every input the law returns true; each argument reads behind the call as it read before'; 0 by the template 'total and deterministic' (their statements: YtclpbfkbpcjejaaTotals.lean).
  GIVEN WITH THE SEED: the statements are not yours to turn. If you find one false, say at which input.
  Laid BY PROGRAM, IN A SANDBOX (cutbox-rows.mjs): the forced cells as the released guide's own fill.sh prints them over the translation 575edba1eeaa254f… (all of the seat's roots in one cut). By AI agents, Wed Nov 11 2026. No macro, syntax, notation, axiom, sorry.
-/
import Derived.Test.YtclpbfkbpcjejaaChecked
import GoSem.Claim
import GoSem.ClaimJoined
import GoSem.ClaimMapViews
import Derived.JoinedTies
import Derived.KernelRfl
namespace Go.Proofs.Ytclpbfkbpcjejaa
/- THE CELL 'sum', in the pinned program and in every row, IS THE sha256 OF THE DUMP (.gsa) THAT YtclpbfkbpcjejaaProg.lean LOADS. Nothing in Lean hashes anything: it is a label: what it is worth is what the hold of that sum in a sandbox is worth. -/
noncomputable def Try.pinned : Pinned := { name := "ytclpbfkbpcjejaa", sum := "575edba1eeaa254f00b2eaec517a744d2027eeca80a9686a5283b26a458c6066", checked := Try.checked }
namespace Rows
def none {H : Type} : Left H := { results := [], args := [] }

/-- 'precentorlaw6.PredTells': WHATEVER THE INPUT: true; the input reads as it did. -/
def predTellsSpec : ChangeSpec := { name := "predTells", fn := fun _ => fun
  | [d1, d2, d3, d4] => { results := [.lit (.bool true)], args := [d1, d2, d3, d4] }
  | _ => none }
def predTellsRow : OpenClaim := { program := "ytclpbfkbpcjejaa", sum := "575edba1eeaa254f00b2eaec517a744d2027eeca80a9686a5283b26a458c6066", func := "precentor/precentorlaw6.PredTells", spec := "predTells", inPlace := ["math.Float64bits", "math.Float64frombits", "math.archTrunc"], apart := false }
def PredTellsSaid : Prop := predTellsRow.holds Try.pinned (OpenSpec.ofChange predTellsSpec)

/-- ITS FALSE NEIGHBOUR: 'it returns false'. Refute it at one input. -/
def predTellsWrong : ChangeSpec := { name := "predTells", fn := fun _ => fun
  | [d1, d2, d3, d4] => { results := [.lit (.bool false)], args := [d1, d2, d3, d4] }
  | _ => none }
def PredTellsWrongFalsely : Prop := predTellsRow.holds Try.pinned (OpenSpec.ofChange predTellsWrong)

/-- 'precentorlaw6.PredImplies': WHATEVER THE INPUT: true; the input reads as it did. -/
def predImpliesSpec : ChangeSpec := { name := "predImplies", fn := fun _ => fun
  | [d1, d2, d3] => { results := [.lit (.bool true)], args := [d1, d2, d3] }
  | _ => none }
def predImpliesRow : OpenClaim := { program := "ytclpbfkbpcjejaa", sum := "575edba1eeaa254f00b2eaec517a744d2027eeca80a9686a5283b26a458c6066", func := "precentor/precentorlaw6.PredImplies", spec := "predImplies", inPlace := ["math.Float64bits", "math.Float64frombits", "math.archTrunc"], apart := false }
def PredImpliesSaid : Prop := predImpliesRow.holds Try.pinned (OpenSpec.ofChange predImpliesSpec)

/-- ITS FALSE NEIGHBOUR: 'it returns false'. Refute it at one input. -/
def predImpliesWrong : ChangeSpec := { name := "predImplies", fn := fun _ => fun
  | [d1, d2, d3] => { results := [.lit (.bool false)], args := [d1, d2, d3] }
  | _ => none }
def PredImpliesWrongFalsely : Prop := predImpliesRow.holds Try.pinned (OpenSpec.ofChange predImpliesWrong)

/-- 'precentorlaw6.PredSound': WHATEVER THE INPUT: true; the input reads as it did. -/
def predSoundSpec : ChangeSpec := { name := "predSound", fn := fun _ => fun
  | [d1, d2] => { results := [.lit (.bool true)], args := [d1, d2] }
  | _ => none }
def predSoundRow : OpenClaim := { program := "ytclpbfkbpcjejaa", sum := "575edba1eeaa254f00b2eaec517a744d2027eeca80a9686a5283b26a458c6066", func := "precentor/precentorlaw6.PredSound", spec := "predSound", inPlace := ["math.Float64bits", "math.Float64frombits", "math.archTrunc"], apart := false }
def PredSoundSaid : Prop := predSoundRow.holds Try.pinned (OpenSpec.ofChange predSoundSpec)

/-- ITS FALSE NEIGHBOUR: 'it returns false'. Refute it at one input. -/
def predSoundWrong : ChangeSpec := { name := "predSound", fn := fun _ => fun
  | [d1, d2] => { results := [.lit (.bool false)], args := [d1, d2] }
  | _ => none }
def PredSoundWrongFalsely : Prop := predSoundRow.holds Try.pinned (OpenSpec.ofChange predSoundWrong)

/-- 'precentorlaw6.PredAlike': WHATEVER THE INPUT: true; the input reads as it did. -/
def predAlikeSpec : ChangeSpec := { name := "predAlike", fn := fun _ => fun
  | [d] => { results := [.lit (.bool true)], args := [d] }
  | _ => none }
def predAlikeRow : OpenClaim := { program := "ytclpbfkbpcjejaa", sum := "575edba1eeaa254f00b2eaec517a744d2027eeca80a9686a5283b26a458c6066", func := "precentor/precentorlaw6.PredAlike", spec := "predAlike", inPlace := ["math.Float64bits", "math.Float64frombits", "math.archTrunc"], apart := false }
def PredAlikeSaid : Prop := predAlikeRow.holds Try.pinned (OpenSpec.ofChange predAlikeSpec)

/-- ITS FALSE NEIGHBOUR: 'it returns false'. Refute it at one input. -/
def predAlikeWrong : ChangeSpec := { name := "predAlike", fn := fun _ => fun
  | [d] => { results := [.lit (.bool false)], args := [d] }
  | _ => none }
def PredAlikeWrongFalsely : Prop := predAlikeRow.holds Try.pinned (OpenSpec.ofChange predAlikeWrong)

/-- 'precentorlaw7.FilterTells': WHATEVER THE INPUT: true; the input reads as it did. -/
def filterTellsSpec : ChangeSpec := { name := "filterTells", fn := fun _ => fun
  | [d1, d2, d3] => { results := [.lit (.bool true)], args := [d1, d2, d3] }
  | _ => none }
def filterTellsRow : OpenClaim := { program := "ytclpbfkbpcjejaa", sum := "575edba1eeaa254f00b2eaec517a744d2027eeca80a9686a5283b26a458c6066", func := "precentor/precentorlaw7.FilterTells", spec := "filterTells", inPlace := ["math.Float64bits", "math.Float64frombits", "math.archTrunc"], unfollowed := true, recurses := true, apart := false }
def FilterTellsSaid : Prop := filterTellsRow.holds Try.pinned (OpenSpec.ofChange filterTellsSpec)

/-- ITS FALSE NEIGHBOUR: 'it returns false'. Refute it at one input. -/
def filterTellsWrong : ChangeSpec := { name := "filterTells", fn := fun _ => fun
  | [d1, d2, d3] => { results := [.lit (.bool false)], args := [d1, d2, d3] }
  | _ => none }
def FilterTellsWrongFalsely : Prop := filterTellsRow.holds Try.pinned (OpenSpec.ofChange filterTellsWrong)

/-- 'precentorlaw7.FilterReduces': WHATEVER THE INPUT: true; the input reads as it did. -/
def filterReducesSpec : ChangeSpec := { name := "filterReduces", fn := fun _ => fun
  | [d1, d2] => { results := [.lit (.bool true)], args := [d1, d2] }
  | _ => none }
def filterReducesRow : OpenClaim := { program := "ytclpbfkbpcjejaa", sum := "575edba1eeaa254f00b2eaec517a744d2027eeca80a9686a5283b26a458c6066", func := "precentor/precentorlaw7.FilterReduces", spec := "filterReduces", inPlace := ["math.Float64bits", "math.Float64frombits", "math.archTrunc"], unfollowed := true, recurses := true, apart := false }
def FilterReducesSaid : Prop := filterReducesRow.holds Try.pinned (OpenSpec.ofChange filterReducesSpec)

/-- ITS FALSE NEIGHBOUR: 'it returns false'. Refute it at one input. -/
def filterReducesWrong : ChangeSpec := { name := "filterReduces", fn := fun _ => fun
  | [d1, d2] => { results := [.lit (.bool false)], args := [d1, d2] }
  | _ => none }
def FilterReducesWrongFalsely : Prop := filterReducesRow.holds Try.pinned (OpenSpec.ofChange filterReducesWrong)

/-- 'precentorlaw7.FilterKeeps': WHATEVER THE INPUT: true; the input reads as it did. -/
def filterKeepsSpec : ChangeSpec := { name := "filterKeeps", fn := fun _ => fun
  | [d1, d2] => { results := [.lit (.bool true)], args := [d1, d2] }
  | _ => none }
def filterKeepsRow : OpenClaim := { program := "ytclpbfkbpcjejaa", sum := "575edba1eeaa254f00b2eaec517a744d2027eeca80a9686a5283b26a458c6066", func := "precentor/precentorlaw7.FilterKeeps", spec := "filterKeeps", inPlace := ["math.Float64bits", "math.Float64frombits", "math.archTrunc"], unfollowed := true, recurses := true, apart := false }
def FilterKeepsSaid : Prop := filterKeepsRow.holds Try.pinned (OpenSpec.ofChange filterKeepsSpec)

/-- ITS FALSE NEIGHBOUR: 'it returns false'. Refute it at one input. -/
def filterKeepsWrong : ChangeSpec := { name := "filterKeeps", fn := fun _ => fun
  | [d1, d2] => { results := [.lit (.bool false)], args := [d1, d2] }
  | _ => none }
def FilterKeepsWrongFalsely : Prop := filterKeepsRow.holds Try.pinned (OpenSpec.ofChange filterKeepsWrong)

/-- 'precentorlaw7.FilterAll': WHATEVER THE INPUT: true; the input reads as it did. -/
def filterAllSpec : ChangeSpec := { name := "filterAll", fn := fun _ => fun
  | [d] => { results := [.lit (.bool true)], args := [d] }
  | _ => none }
def filterAllRow : OpenClaim := { program := "ytclpbfkbpcjejaa", sum := "575edba1eeaa254f00b2eaec517a744d2027eeca80a9686a5283b26a458c6066", func := "precentor/precentorlaw7.FilterAll", spec := "filterAll", inPlace := ["math.Float64bits", "math.Float64frombits", "math.archTrunc"], unfollowed := true, recurses := true, apart := false }
def FilterAllSaid : Prop := filterAllRow.holds Try.pinned (OpenSpec.ofChange filterAllSpec)

/-- ITS FALSE NEIGHBOUR: 'it returns false'. Refute it at one input. -/
def filterAllWrong : ChangeSpec := { name := "filterAll", fn := fun _ => fun
  | [d] => { results := [.lit (.bool false)], args := [d] }
  | _ => none }
def FilterAllWrongFalsely : Prop := filterAllRow.holds Try.pinned (OpenSpec.ofChange filterAllWrong)

/-- 'precentorlaw7.FilterOwn': WHATEVER THE INPUT: true; the input reads as it did. -/
def filterOwnSpec : ChangeSpec := { name := "filterOwn", fn := fun _ => fun
  | [d1, d2] => { results := [.lit (.bool true)], args := [d1, d2] }
  | _ => none }
def filterOwnRow : OpenClaim := { program := "ytclpbfkbpcjejaa", sum := "575edba1eeaa254f00b2eaec517a744d2027eeca80a9686a5283b26a458c6066", func := "precentor/precentorlaw7.FilterOwn", spec := "filterOwn", inPlace := ["math.Float64bits", "math.Float64frombits", "math.archTrunc"], unfollowed := true, recurses := true, apart := false }
def FilterOwnSaid : Prop := filterOwnRow.holds Try.pinned (OpenSpec.ofChange filterOwnSpec)

/-- ITS FALSE NEIGHBOUR: 'it returns false'. Refute it at one input. -/
def filterOwnWrong : ChangeSpec := { name := "filterOwn", fn := fun _ => fun
  | [d1, d2] => { results := [.lit (.bool false)], args := [d1, d2] }
  | _ => none }
def FilterOwnWrongFalsely : Prop := filterOwnRow.holds Try.pinned (OpenSpec.ofChange filterOwnWrong)

/-- 'precentorlaw12.GroupTells': WHATEVER THE INPUT: true; the input reads as it did. -/
def groupTellsSpec : ChangeSpec := { name := "groupTells", fn := fun _ => fun
  | [d1, d2] => { results := [.lit (.bool true)], args := [d1, d2] }
  | _ => none }
def groupTellsRow : OpenClaim := { program := "ytclpbfkbpcjejaa", sum := "575edba1eeaa254f00b2eaec517a744d2027eeca80a9686a5283b26a458c6066", func := "precentor/precentorlaw12.GroupTells", spec := "groupTells", inPlace := ["math.Float64bits", "math.Float64frombits", "math.archTrunc"], apart := false }
def GroupTellsSaid : Prop := groupTellsRow.holds Try.pinned (OpenSpec.ofChange groupTellsSpec)

/-- ITS FALSE NEIGHBOUR: 'it returns false'. Refute it at one input. -/
def groupTellsWrong : ChangeSpec := { name := "groupTells", fn := fun _ => fun
  | [d1, d2] => { results := [.lit (.bool false)], args := [d1, d2] }
  | _ => none }
def GroupTellsWrongFalsely : Prop := groupTellsRow.holds Try.pinned (OpenSpec.ofChange groupTellsWrong)

/-- 'precentorlaw12.GroupReads': WHATEVER THE INPUT: true; the input reads as it did. -/
def groupReadsSpec : ChangeSpec := { name := "groupReads", fn := fun _ => fun
  | [d1, d2] => { results := [.lit (.bool true)], args := [d1, d2] }
  | _ => none }
def groupReadsRow : OpenClaim := { program := "ytclpbfkbpcjejaa", sum := "575edba1eeaa254f00b2eaec517a744d2027eeca80a9686a5283b26a458c6066", func := "precentor/precentorlaw12.GroupReads", spec := "groupReads", inPlace := ["math.Float64bits", "math.Float64frombits", "math.archTrunc"], apart := false }
def GroupReadsSaid : Prop := groupReadsRow.holds Try.pinned (OpenSpec.ofChange groupReadsSpec)

/-- ITS FALSE NEIGHBOUR: 'it returns false'. Refute it at one input. -/
def groupReadsWrong : ChangeSpec := { name := "groupReads", fn := fun _ => fun
  | [d1, d2] => { results := [.lit (.bool false)], args := [d1, d2] }
  | _ => none }
def GroupReadsWrongFalsely : Prop := groupReadsRow.holds Try.pinned (OpenSpec.ofChange groupReadsWrong)

/-- 'precentorlaw12.GroupApart': WHATEVER THE INPUT: true; the input reads as it did. -/
def groupApartSpec : ChangeSpec := { name := "groupApart", fn := fun _ => fun
  | [d] => { results := [.lit (.bool true)], args := [d] }
  | _ => none }
def groupApartRow : OpenClaim := { program := "ytclpbfkbpcjejaa", sum := "575edba1eeaa254f00b2eaec517a744d2027eeca80a9686a5283b26a458c6066", func := "precentor/precentorlaw12.GroupApart", spec := "groupApart", inPlace := ["math.Float64bits", "math.Float64frombits", "math.archTrunc"], apart := false }
def GroupApartSaid : Prop := groupApartRow.holds Try.pinned (OpenSpec.ofChange groupApartSpec)

/-- ITS FALSE NEIGHBOUR: 'it returns false'. Refute it at one input. -/
def groupApartWrong : ChangeSpec := { name := "groupApart", fn := fun _ => fun
  | [d] => { results := [.lit (.bool false)], args := [d] }
  | _ => none }
def GroupApartWrongFalsely : Prop := groupApartRow.holds Try.pinned (OpenSpec.ofChange groupApartWrong)

/- THE SECOND FORM. 'bulk': how many values and letters a reading holds, each counted each time it is reached (what is shared counts as often as it is met; a slice's spare places count too). A statement '..UptoSaid' is the law's where the arguments, and the package variables that the reading takes, are together of bulk at most 1048576: NARROWER than '..Said'. Prove '..Said' where nothing that the law and all that it calls make is longer than what came in: it says more and counts as full. Else prove '..UptoSaid'. A law counts once. -/
mutual
def uptoBulk {H : Type} : DataW H → Nat
  | .lit (.string bytes) => bytes.length + 1
  | .lit _ => 1
  | .nil => 1
  | .ptr d => uptoBulk d + 1
  | .slice elems spare => uptoBulkAll elems + uptoBulkAll spare + 1
  | .agg parts => uptoBulkAll parts + 1
  | .iface _ d => uptoBulk d + 1
  | .map entries => uptoBulkEntries entries + 1
  | .held _ => 1
def uptoBulkAll {H : Type} : List (DataW H) → Nat
  | [] => 0
  | d :: r => uptoBulk d + uptoBulkAll r
def uptoBulkEntries {H : Type} : List (Lit × DataW H) → Nat
  | [] => 0
  | x :: r => uptoBulkEntry x + uptoBulkEntries r
def uptoBulkEntry {H : Type} : Lit × DataW H → Nat
  | (.string bytes, d) => bytes.length + uptoBulk d + 1
  | (_, d) => uptoBulk d + 1
 end
def uptoSmall : (H : Type) → List (DataW H) → Bool := fun _ ds => decide (uptoBulkAll ds ≤ 1048576)
def OpenSpec.upto (s : _root_.Go.ChangeSpec) : _root_.Go.OpenSpec := { _root_.Go.OpenSpec.ofChange s with cond := some uptoSmall }

/-- 'precentorlaw6.PredTells', WHERE WHAT IT READS IS OF BULK AT MOST 1048576: true; the input reads as it did. -/
def predTellsUptoRow : OpenClaim := { program := "ytclpbfkbpcjejaa", sum := "575edba1eeaa254f00b2eaec517a744d2027eeca80a9686a5283b26a458c6066", func := "precentor/precentorlaw6.PredTells", spec := "predTells", inPlace := ["math.Float64bits", "math.Float64frombits", "math.archTrunc"], apart := false, narrowed := true }
def PredTellsUptoSaid : Prop := predTellsUptoRow.holds Try.pinned (OpenSpec.upto predTellsSpec)

/-- 'precentorlaw6.PredImplies', WHERE WHAT IT READS IS OF BULK AT MOST 1048576: true; the input reads as it did. -/
def predImpliesUptoRow : OpenClaim := { program := "ytclpbfkbpcjejaa", sum := "575edba1eeaa254f00b2eaec517a744d2027eeca80a9686a5283b26a458c6066", func := "precentor/precentorlaw6.PredImplies", spec := "predImplies", inPlace := ["math.Float64bits", "math.Float64frombits", "math.archTrunc"], apart := false, narrowed := true }
def PredImpliesUptoSaid : Prop := predImpliesUptoRow.holds Try.pinned (OpenSpec.upto predImpliesSpec)

/-- 'precentorlaw6.PredSound', WHERE WHAT IT READS IS OF BULK AT MOST 1048576: true; the input reads as it did. -/
def predSoundUptoRow : OpenClaim := { program := "ytclpbfkbpcjejaa", sum := "575edba1eeaa254f00b2eaec517a744d2027eeca80a9686a5283b26a458c6066", func := "precentor/precentorlaw6.PredSound", spec := "predSound", inPlace := ["math.Float64bits", "math.Float64frombits", "math.archTrunc"], apart := false, narrowed := true }
def PredSoundUptoSaid : Prop := predSoundUptoRow.holds Try.pinned (OpenSpec.upto predSoundSpec)

/-- 'precentorlaw6.PredAlike', WHERE WHAT IT READS IS OF BULK AT MOST 1048576: true; the input reads as it did. -/
def predAlikeUptoRow : OpenClaim := { program := "ytclpbfkbpcjejaa", sum := "575edba1eeaa254f00b2eaec517a744d2027eeca80a9686a5283b26a458c6066", func := "precentor/precentorlaw6.PredAlike", spec := "predAlike", inPlace := ["math.Float64bits", "math.Float64frombits", "math.archTrunc"], apart := false, narrowed := true }
def PredAlikeUptoSaid : Prop := predAlikeUptoRow.holds Try.pinned (OpenSpec.upto predAlikeSpec)

/-- 'precentorlaw7.FilterTells', WHERE WHAT IT READS IS OF BULK AT MOST 1048576: true; the input reads as it did. -/
def filterTellsUptoRow : OpenClaim := { program := "ytclpbfkbpcjejaa", sum := "575edba1eeaa254f00b2eaec517a744d2027eeca80a9686a5283b26a458c6066", func := "precentor/precentorlaw7.FilterTells", spec := "filterTells", inPlace := ["math.Float64bits", "math.Float64frombits", "math.archTrunc"], unfollowed := true, recurses := true, apart := false, narrowed := true }
def FilterTellsUptoSaid : Prop := filterTellsUptoRow.holds Try.pinned (OpenSpec.upto filterTellsSpec)

/-- 'precentorlaw7.FilterReduces', WHERE WHAT IT READS IS OF BULK AT MOST 1048576: true; the input reads as it did. -/
def filterReducesUptoRow : OpenClaim := { program := "ytclpbfkbpcjejaa", sum := "575edba1eeaa254f00b2eaec517a744d2027eeca80a9686a5283b26a458c6066", func := "precentor/precentorlaw7.FilterReduces", spec := "filterReduces", inPlace := ["math.Float64bits", "math.Float64frombits", "math.archTrunc"], unfollowed := true, recurses := true, apart := false, narrowed := true }
def FilterReducesUptoSaid : Prop := filterReducesUptoRow.holds Try.pinned (OpenSpec.upto filterReducesSpec)

/-- 'precentorlaw7.FilterKeeps', WHERE WHAT IT READS IS OF BULK AT MOST 1048576: true; the input reads as it did. -/
def filterKeepsUptoRow : OpenClaim := { program := "ytclpbfkbpcjejaa", sum := "575edba1eeaa254f00b2eaec517a744d2027eeca80a9686a5283b26a458c6066", func := "precentor/precentorlaw7.FilterKeeps", spec := "filterKeeps", inPlace := ["math.Float64bits", "math.Float64frombits", "math.archTrunc"], unfollowed := true, recurses := true, apart := false, narrowed := true }
def FilterKeepsUptoSaid : Prop := filterKeepsUptoRow.holds Try.pinned (OpenSpec.upto filterKeepsSpec)

/-- 'precentorlaw7.FilterAll', WHERE WHAT IT READS IS OF BULK AT MOST 1048576: true; the input reads as it did. -/
def filterAllUptoRow : OpenClaim := { program := "ytclpbfkbpcjejaa", sum := "575edba1eeaa254f00b2eaec517a744d2027eeca80a9686a5283b26a458c6066", func := "precentor/precentorlaw7.FilterAll", spec := "filterAll", inPlace := ["math.Float64bits", "math.Float64frombits", "math.archTrunc"], unfollowed := true, recurses := true, apart := false, narrowed := true }
def FilterAllUptoSaid : Prop := filterAllUptoRow.holds Try.pinned (OpenSpec.upto filterAllSpec)

/-- 'precentorlaw7.FilterOwn', WHERE WHAT IT READS IS OF BULK AT MOST 1048576: true; the input reads as it did. -/
def filterOwnUptoRow : OpenClaim := { program := "ytclpbfkbpcjejaa", sum := "575edba1eeaa254f00b2eaec517a744d2027eeca80a9686a5283b26a458c6066", func := "precentor/precentorlaw7.FilterOwn", spec := "filterOwn", inPlace := ["math.Float64bits", "math.Float64frombits", "math.archTrunc"], unfollowed := true, recurses := true, apart := false, narrowed := true }
def FilterOwnUptoSaid : Prop := filterOwnUptoRow.holds Try.pinned (OpenSpec.upto filterOwnSpec)

/-- 'precentorlaw12.GroupTells', WHERE WHAT IT READS IS OF BULK AT MOST 1048576: true; the input reads as it did. -/
def groupTellsUptoRow : OpenClaim := { program := "ytclpbfkbpcjejaa", sum := "575edba1eeaa254f00b2eaec517a744d2027eeca80a9686a5283b26a458c6066", func := "precentor/precentorlaw12.GroupTells", spec := "groupTells", inPlace := ["math.Float64bits", "math.Float64frombits", "math.archTrunc"], apart := false, narrowed := true }
def GroupTellsUptoSaid : Prop := groupTellsUptoRow.holds Try.pinned (OpenSpec.upto groupTellsSpec)

/-- 'precentorlaw12.GroupReads', WHERE WHAT IT READS IS OF BULK AT MOST 1048576: true; the input reads as it did. -/
def groupReadsUptoRow : OpenClaim := { program := "ytclpbfkbpcjejaa", sum := "575edba1eeaa254f00b2eaec517a744d2027eeca80a9686a5283b26a458c6066", func := "precentor/precentorlaw12.GroupReads", spec := "groupReads", inPlace := ["math.Float64bits", "math.Float64frombits", "math.archTrunc"], apart := false, narrowed := true }
def GroupReadsUptoSaid : Prop := groupReadsUptoRow.holds Try.pinned (OpenSpec.upto groupReadsSpec)

/-- 'precentorlaw12.GroupApart', WHERE WHAT IT READS IS OF BULK AT MOST 1048576: true; the input reads as it did. -/
def groupApartUptoRow : OpenClaim := { program := "ytclpbfkbpcjejaa", sum := "575edba1eeaa254f00b2eaec517a744d2027eeca80a9686a5283b26a458c6066", func := "precentor/precentorlaw12.GroupApart", spec := "groupApart", inPlace := ["math.Float64bits", "math.Float64frombits", "math.archTrunc"], apart := false, narrowed := true }
def GroupApartUptoSaid : Prop := groupApartUptoRow.holds Try.pinned (OpenSpec.upto groupApartSpec)

end Rows
end Go.Proofs.Ytclpbfkbpcjejaa
