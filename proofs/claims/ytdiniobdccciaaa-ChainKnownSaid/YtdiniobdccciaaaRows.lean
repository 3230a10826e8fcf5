/-
  No cell of these rows narrows 'for every input' (looked for: loops, veiled, ifaces, maps, wideKeys, modest, calm, conditions, laid).
  DERIVED. THE GIVEN ROWS OF THIS SEAT. 5 by the template 'for every input the law returns true; each argument reads behind the call as it read before'; 0 by the template 'total and deterministic' (their statements: YtdiniobdccciaaaTotals.lean).
  GIVEN WITH THE SEED: the statements are not yours to turn. If you find one false, say at which input.
  Laid BY PROGRAM, IN A SANDBOX (cutbox-rows.mjs): the forced cells as the released guide's own fill.sh prints them over the translation be6e7371efc6ab3c… (all of the seat's roots in one cut). By AI agents, Wed Nov 11 2026. No macro, syntax, notation, axiom, sorry.
-/
import Derived.Test.YtdiniobdccciaaaChecked
import GoSem.Claim
import GoSem.ClaimJoined
import GoSem.ClaimMapViews
import Derived.JoinedTies
import Derived.KernelRfl
namespace Go.Proofs.Ytdiniobdccciaaa
/- THE CELL 'sum', in the pinned program and in every row, IS THE sha256 OF THE DUMP (.gsa) THAT YtdiniobdccciaaaProg.lean LOADS. Nothing in Lean hashes anything: it is a label: what it is worth is what the hold of that sum in a sandbox is worth. -/
noncomputable def Try.pinned : Pinned := { name := "ytdiniobdccciaaa", sum := "be6e7371efc6ab3c9570ab023e1225624d96f3b3930bd255eb2557b5257b9853", checked := Try.checked }
namespace Rows
def none {H : Type} : Left H := { results := [], args := [] }

/-- 'precentorlaw13.ChainKnown': WHATEVER THE INPUT: true; the input reads as it did. -/
def chainKnownSpec : ChangeSpec := { name := "chainKnown", fn := fun _ => fun
  | [] => { results := [.lit (.bool true)], args := [] }
  | _ => none }
def chainKnownRow : OpenClaim := { program := "ytdiniobdccciaaa", sum := "be6e7371efc6ab3c9570ab023e1225624d96f3b3930bd255eb2557b5257b9853", func := "precentor/precentorlaw13.ChainKnown", spec := "chainKnown", inPlace := ["math.Float64bits"], apart := false }
def ChainKnownSaid : Prop := chainKnownRow.holds Try.pinned (OpenSpec.ofChange chainKnownSpec)

/-- ITS FALSE NEIGHBOUR: 'it returns false'. Refute it at one input. -/
def chainKnownWrong : ChangeSpec := { name := "chainKnown", fn := fun _ => fun
  | [] => { results := [.lit (.bool false)], args := [] }
  | _ => none }
def ChainKnownWrongFalsely : Prop := chainKnownRow.holds Try.pinned (OpenSpec.ofChange chainKnownWrong)

/-- 'precentorlaw13.ChainWays': WHATEVER THE INPUT: true; the input reads as it did. -/
def chainWaysSpec : ChangeSpec := { name := "chainWays", fn := fun _ => fun
  | [d1, d2, d3] => { results := [.lit (.bool true)], args := [d1, d2, d3] }
  | _ => none }
def chainWaysRow : OpenClaim := { program := "ytdiniobdccciaaa", sum := "be6e7371efc6ab3c9570ab023e1225624d96f3b3930bd255eb2557b5257b9853", func := "precentor/precentorlaw13.ChainWays", spec := "chainWays", inPlace := ["math.Float64bits", "math.Float64frombits"], apart := false }
def ChainWaysSaid : Prop := chainWaysRow.holds Try.pinned (OpenSpec.ofChange chainWaysSpec)

/-- ITS FALSE NEIGHBOUR: 'it returns false'. Refute it at one input. -/
def chainWaysWrong : ChangeSpec := { name := "chainWays", fn := fun _ => fun
  | [d1, d2, d3] => { results := [.lit (.bool false)], args := [d1, d2, d3] }
  | _ => none }
def ChainWaysWrongFalsely : Prop := chainWaysRow.holds Try.pinned (OpenSpec.ofChange chainWaysWrong)

/-- 'precentorlaw13.ChainPlaces': WHATEVER THE INPUT: true; the input reads as it did. -/
def chainPlacesSpec : ChangeSpec := { name := "chainPlaces", fn := fun _ => fun
  | [d] => { results := [.lit (.bool true)], args := [d] }
  | _ => none }
def chainPlacesRow : OpenClaim := { program := "ytdiniobdccciaaa", sum := "be6e7371efc6ab3c9570ab023e1225624d96f3b3930bd255eb2557b5257b9853", func := "precentor/precentorlaw13.ChainPlaces", spec := "chainPlaces", inPlace := ["math.Float64bits", "math.Float64frombits"], apart := false }
def ChainPlacesSaid : Prop := chainPlacesRow.holds Try.pinned (OpenSpec.ofChange chainPlacesSpec)

/-- ITS FALSE NEIGHBOUR: 'it returns false'. Refute it at one input. -/
def chainPlacesWrong : ChangeSpec := { name := "chainPlaces", fn := fun _ => fun
  | [d] => { results := [.lit (.bool false)], args := [d] }
  | _ => none }
def ChainPlacesWrongFalsely : Prop := chainPlacesRow.holds Try.pinned (OpenSpec.ofChange chainPlacesWrong)

/-- 'precentorlaw13.ChainTells': WHATEVER THE INPUT: true; the input reads as it did. -/
def chainTellsSpec : ChangeSpec := { name := "chainTells", fn := fun _ => fun
  | [d1, d2, d3] => { results := [.lit (.bool true)], args := [d1, d2, d3] }
  | _ => none }
def chainTellsRow : OpenClaim := { program := "ytdiniobdccciaaa", sum := "be6e7371efc6ab3c9570ab023e1225624d96f3b3930bd255eb2557b5257b9853", func := "precentor/precentorlaw13.ChainTells", spec := "chainTells", inPlace := ["math.Float64bits", "math.Float64frombits", "math.archTrunc"], apart := false }
def ChainTellsSaid : Prop := chainTellsRow.holds Try.pinned (OpenSpec.ofChange chainTellsSpec)

/-- ITS FALSE NEIGHBOUR: 'it returns false'. Refute it at one input. -/
def chainTellsWrong : ChangeSpec := { name := "chainTells", fn := fun _ => fun
  | [d1, d2, d3] => { results := [.lit (.bool false)], args := [d1, d2, d3] }
  | _ => none }
def ChainTellsWrongFalsely : Prop := chainTellsRow.holds Try.pinned (OpenSpec.ofChange chainTellsWrong)

/-- 'precentorlaw13.ChainMeets': WHATEVER THE INPUT: true; the input reads as it did. -/
def chainMeetsSpec : ChangeSpec := { name := "chainMeets", fn := fun _ => fun
  | [d1, d2] => { results := [.lit (.bool true)], args := [d1, d2] }
  | _ => none }
def chainMeetsRow : OpenClaim := { program := "ytdiniobdccciaaa", sum := "be6e7371efc6ab3c9570ab023e1225624d96f3b3930bd255eb2557b5257b9853", func := "precentor/precentorlaw13.ChainMeets", spec := "chainMeets", inPlace := ["math.Float64bits", "math.Float64frombits", "math.archTrunc"], apart := false }
def ChainMeetsSaid : Prop := chainMeetsRow.holds Try.pinned (OpenSpec.ofChange chainMeetsSpec)

/-- ITS FALSE NEIGHBOUR: 'it returns false'. Refute it at one input. -/
def chainMeetsWrong : ChangeSpec := { name := "chainMeets", fn := fun _ => fun
  | [d1, d2] => { results := [.lit (.bool false)], args := [d1, d2] }
  | _ => none }
def ChainMeetsWrongFalsely : Prop := chainMeetsRow.holds Try.pinned (OpenSpec.ofChange chainMeetsWrong)

/- THE SECOND FORM. 'bulk': how many values and letters a reading holds, each counted each time it is reached (what is shared counts as often as it is met; a slice's spare places count too). A statement '..UptoSaid' is the law's where the arguments, and the package variables that the reading takes, are together of bulk at most 1048576: NARROWER than '..Said'. Prove '..Said' where nothing that the law and all that it calls make is longer than what came in: it says more and counts as full. Else prove '..UptoSaid'. A law counts once. -/
mutual
def uptoBulk {H : Type} : DataW H → Nat
  | .lit (.string bytes) => bytes.length + 1
  | .lit _ => 1
  | .nil => 1
  | .ptr d => uptoBulk d + 1
  | .slice elems spare => uptoBulkAll elems + uptoBulkAll spare + 1
  | .agg parts => uptoBulkAll parts + 1
  | .iface _ d => uptoBulk d + 1
  | .map entries => uptoBulkEntries entries + 1
  | .held _ => 1
def uptoBulkAll {H : Type} : List (DataW H) → Nat
  | [] => 0
  | d :: r => uptoBulk d + uptoBulkAll r
def uptoBulkEntries {H : Type} : List (Lit × DataW H) → Nat
  | [] => 0
  | x :: r => uptoBulkEntry x + uptoBulkEntries r
def uptoBulkEntry {H : Type} : Lit × DataW H → Nat
  | (.string bytes, d) => bytes.length + uptoBulk d + 1
  | (_, d) => uptoBulk d + 1
 end
def uptoSmall : (H : Type) → List (DataW H) → Bool := fun _ ds => decide (uptoBulkAll ds ≤ 1048576)
def OpenSpec.upto (s : _root_.Go.ChangeSpec) : _root_.Go.OpenSpec := { _root_.Go.OpenSpec.ofChange s with cond := some uptoSmall }

/-- 'precentorlaw13.ChainKnown', WHERE WHAT IT READS IS OF BULK AT MOST 1048576: true; the input reads as it did. -/
def chainKnownUptoRow : OpenClaim := { program := "ytdiniobdccciaaa", sum := "be6e7371efc6ab3c9570ab023e1225624d96f3b3930bd255eb2557b5257b9853", func := "precentor/precentorlaw13.ChainKnown", spec := "chainKnown", inPlace := ["math.Float64bits"], apart := false, narrowed := true }
def ChainKnownUptoSaid : Prop := chainKnownUptoRow.holds Try.pinned (OpenSpec.upto chainKnownSpec)

/-- 'precentorlaw13.ChainWays', WHERE WHAT IT READS IS OF BULK AT MOST 1048576: true; the input reads as it did. -/
def chainWaysUptoRow : OpenClaim := { program := "ytdiniobdccciaaa", sum := "be6e7371efc6ab3c9570ab023e1225624d96f3b3930bd255eb2557b5257b9853", func := "precentor/precentorlaw13.ChainWays", spec := "chainWays", inPlace := ["math.Float64bits", "math.Float64frombits"], apart := false, narrowed := true }
def ChainWaysUptoSaid : Prop := chainWaysUptoRow.holds Try.pinned (OpenSpec.upto chainWaysSpec)

/-- 'precentorlaw13.ChainPlaces', WHERE WHAT IT READS IS OF BULK AT MOST 1048576: true; the input reads as it did. -/
def chainPlacesUptoRow : OpenClaim := { program := "ytdiniobdccciaaa", sum := "be6e7371efc6ab3c9570ab023e1225624d96f3b3930bd255eb2557b5257b9853", func := "precentor/precentorlaw13.ChainPlaces", spec := "chainPlaces", inPlace := ["math.Float64bits", "math.Float64frombits"], apart := false, narrowed := true }
def ChainPlacesUptoSaid : Prop := chainPlacesUptoRow.holds Try.pinned (OpenSpec.upto chainPlacesSpec)

/-- 'precentorlaw13.ChainTells', WHERE WHAT IT READS IS OF BULK AT MOST 1048576: true; the input reads as it did. -/
def chainTellsUptoRow : OpenClaim := { program := "ytdiniobdccciaaa", sum := "be6e7371efc6ab3c9570ab023e1225624d96f3b3930bd255eb2557b5257b9853", func := "precentor/precentorlaw13.ChainTells", spec := "chainTells", inPlace := ["math.Float64bits", "math.Float64frombits", "math.archTrunc"], apart := false, narrowed := true }
def ChainTellsUptoSaid : Prop := chainTellsUptoRow.holds Try.pinned (OpenSpec.upto chainTellsSpec)

/-- 'precentorlaw13.ChainMeets', WHERE WHAT IT READS IS OF BULK AT MOST 1048576: true; the input reads as it did. -/
def chainMeetsUptoRow : OpenClaim := { program := "ytdiniobdccciaaa", sum := "be6e7371efc6ab3c9570ab023e1225624d96f3b3930bd255eb2557b5257b9853", func := "precentor/precentorlaw13.ChainMeets", spec := "chainMeets", inPlace := ["math.Float64bits", "math.Float64frombits", "math.archTrunc"], apart := false, narrowed := true }
def ChainMeetsUptoSaid : Prop := chainMeetsUptoRow.holds Try.pinned (OpenSpec.upto chainMeetsSpec)

end Rows
end Go.Proofs.Ytdiniobdccciaaa
