/-
  No cell of these rows narrows 'for every input' (looked for: loops, veiled, ifaces, maps, wideKeys, modest, calm, conditions, laid).
  DERIVED. THE GIVEN ROWS OF THIS SEAT. 6 by the template 'for every input the law returns true; each argument reads behind the call as it read before'; 0 by the template 'total and deterministic' (their statements: YtmihkicemefjoaaTotals.lean).
  GIVEN WITH THE SEED: the statements are not yours to turn. If you find one false, say at which input.
  Laid BY PROGRAM, IN A SANDBOX (cutbox-rows.mjs): the forced cells as the released guide's own fill.sh prints them over the translation 8045ffcf789efb27… (all of the seat's roots in one cut). By AI agents, Wed Nov 11 2026. No macro, syntax, notation, axiom, sorry.
-/
import Derived.Test.YtmihkicemefjoaaChecked
import GoSem.Claim
import GoSem.ClaimJoined
import GoSem.ClaimMapViews
import Derived.JoinedTies
import Derived.KernelRfl
namespace Go.Proofs.Ytmihkicemefjoaa
/- THE CELL 'sum', in the pinned program and in every row, IS THE sha256 OF THE DUMP (.gsa) THAT YtmihkicemefjoaaProg.lean LOADS. Nothing in Lean hashes anything: it is a label: what it is worth is what the hold of that sum in a sandbox is worth. -/
noncomputable def Try.pinned : Pinned := { name := "ytmihkicemefjoaa", sum := "8045ffcf789efb27bf6538acf469ae43c5eb0efb7439dbea12b4127e8bed3a02", checked := Try.checked }
namespace Rows
def none {H : Type} : Left H := { results := [], args := [] }

/-- 'precentorlaw7.FilterKnown': WHATEVER THE INPUT: true; the input reads as it did. -/
def filterKnownSpec : ChangeSpec := { name := "filterKnown", fn := fun _ => fun
  | [] => { results := [.lit (.bool true)], args := [] }
  | _ => none }
def filterKnownRow : OpenClaim := { program := "ytmihkicemefjoaa", sum := "8045ffcf789efb27bf6538acf469ae43c5eb0efb7439dbea12b4127e8bed3a02", func := "precentor/precentorlaw7.FilterKnown", spec := "filterKnown", inPlace := ["math.Float64bits", "math.archTrunc", "math.Float64frombits"], unfollowed := true, recurses := true, apart := false }
def FilterKnownSaid : Prop := filterKnownRow.holds Try.pinned (OpenSpec.ofChange filterKnownSpec)

/-- ITS FALSE NEIGHBOUR: 'it returns false'. Refute it at one input. -/
def filterKnownWrong : ChangeSpec := { name := "filterKnown", fn := fun _ => fun
  | [] => { results := [.lit (.bool false)], args := [] }
  | _ => none }
def FilterKnownWrongFalsely : Prop := filterKnownRow.holds Try.pinned (OpenSpec.ofChange filterKnownWrong)

/-- 'precentorlaw7.FilterTells': WHATEVER THE INPUT: true; the input reads as it did. -/
def filterTellsSpec : ChangeSpec := { name := "filterTells", fn := fun _ => fun
  | [d1, d2, d3] => { results := [.lit (.bool true)], args := [d1, d2, d3] }
  | _ => none }
def filterTellsRow : OpenClaim := { program := "ytmihkicemefjoaa", sum := "8045ffcf789efb27bf6538acf469ae43c5eb0efb7439dbea12b4127e8bed3a02", func := "precentor/precentorlaw7.FilterTells", spec := "filterTells", inPlace := ["math.Float64bits", "math.Float64frombits", "math.archTrunc"], unfollowed := true, recurses := true, apart := false }
def FilterTellsSaid : Prop := filterTellsRow.holds Try.pinned (OpenSpec.ofChange filterTellsSpec)

/-- ITS FALSE NEIGHBOUR: 'it returns false'. Refute it at one input. -/
def filterTellsWrong : ChangeSpec := { name := "filterTells", fn := fun _ => fun
  | [d1, d2, d3] => { results := [.lit (.bool false)], args := [d1, d2, d3] }
  | _ => none }
def FilterTellsWrongFalsely : Prop := filterTellsRow.holds Try.pinned (OpenSpec.ofChange filterTellsWrong)

/-- 'precentorlaw7.FilterReduces': WHATEVER THE INPUT: true; the input reads as it did. -/
def filterReducesSpec : ChangeSpec := { name := "filterReduces", fn := fun _ => fun
  | [d1, d2] => { results := [.lit (.bool true)], args := [d1, d2] }
  | _ => none }
def filterReducesRow : OpenClaim := { program := "ytmihkicemefjoaa", sum := "8045ffcf789efb27bf6538acf469ae43c5eb0efb7439dbea12b4127e8bed3a02", func := "precentor/precentorlaw7.FilterReduces", spec := "filterReduces", inPlace := ["math.Float64bits", "math.Float64frombits", "math.archTrunc"], unfollowed := true, recurses := true, apart := false }
def FilterReducesSaid : Prop := filterReducesRow.holds Try.pinned (OpenSpec.ofChange filterReducesSpec)

/-- ITS FALSE NEIGHBOUR: 'it returns false'. Refute it at one input. -/
def filterReducesWrong : ChangeSpec := { name := "filterReduces", fn := fun _ => fun
  | [d1, d2] => { results := [.lit (.bool false)], args := [d1, d2] }
  | _ => none }
def FilterReducesWrongFalsely : Prop := filterReducesRow.holds Try.pinned (OpenSpec.ofChange filterReducesWrong)

/-- 'precentorlaw7.FilterKeeps': WHATEVER THE INPUT: true; the input reads as it did. -/
def filterKeepsSpec : ChangeSpec := { name := "filterKeeps", fn := fun _ => fun
  | [d1, d2] => { results := [.lit (.bool true)], args := [d1, d2] }
  | _ => none }
def filterKeepsRow : OpenClaim := { program := "ytmihkicemefjoaa", sum := "8045ffcf789efb27bf6538acf469ae43c5eb0efb7439dbea12b4127e8bed3a02", func := "precentor/precentorlaw7.FilterKeeps", spec := "filterKeeps", inPlace := ["math.Float64bits", "math.Float64frombits", "math.archTrunc"], unfollowed := true, recurses := true, apart := false }
def FilterKeepsSaid : Prop := filterKeepsRow.holds Try.pinned (OpenSpec.ofChange filterKeepsSpec)

/-- ITS FALSE NEIGHBOUR: 'it returns false'. Refute it at one input. -/
def filterKeepsWrong : ChangeSpec := { name := "filterKeeps", fn := fun _ => fun
  | [d1, d2] => { results := [.lit (.bool false)], args := [d1, d2] }
  | _ => none }
def FilterKeepsWrongFalsely : Prop := filterKeepsRow.holds Try.pinned (OpenSpec.ofChange filterKeepsWrong)

/-- 'precentorlaw7.FilterAll': WHATEVER THE INPUT: true; the input reads as it did. -/
def filterAllSpec : ChangeSpec := { name := "filterAll", fn := fun _ => fun
  | [d] => { results := [.lit (.bool true)], args := [d] }
  | _ => none }
def filterAllRow : OpenClaim := { program := "ytmihkicemefjoaa", sum := "8045ffcf789efb27bf6538acf469ae43c5eb0efb7439dbea12b4127e8bed3a02", func := "precentor/precentorlaw7.FilterAll", spec := "filterAll", inPlace := ["math.Float64bits", "math.Float64frombits", "math.archTrunc"], unfollowed := true, recurses := true, apart := false }
def FilterAllSaid : Prop := filterAllRow.holds Try.pinned (OpenSpec.ofChange filterAllSpec)

/-- ITS FALSE NEIGHBOUR: 'it returns false'. Refute it at one input. -/
def filterAllWrong : ChangeSpec := { name := "filterAll", fn := fun _ => fun
  | [d] => { results := [.lit (.bool false)], args := [d] }
  | _ => none }
def FilterAllWrongFalsely : Prop := filterAllRow.holds Try.pinned (OpenSpec.ofChange filterAllWrong)

/-- 'precentorlaw7.FilterOwn': WHATEVER THE INPUT: true; the input reads as it did. -/
def filterOwnSpec : ChangeSpec := { name := "filterOwn", fn := fun _ => fun
  | [d1, d2] => { results := [.lit (.bool true)], args := [d1, d2] }
  | _ => none }
def filterOwnRow : OpenClaim := { program := "ytmihkicemefjoaa", sum := "8045ffcf789efb27bf6538acf469ae43c5eb0efb7439dbea12b4127e8bed3a02", func := "precentor/precentorlaw7.FilterOwn", spec := "filterOwn", inPlace := ["math.Float64bits", "math.Float64frombits", "math.archTrunc"], unfollowed := true, recurses := true, apart := false }
def FilterOwnSaid : Prop := filterOwnRow.holds Try.pinned (OpenSpec.ofChange filterOwnSpec)

/-- ITS FALSE NEIGHBOUR: 'it returns false'. Refute it at one input. -/
def filterOwnWrong : ChangeSpec := { name := "filterOwn", fn := fun _ => fun
  | [d1, d2] => { results := [.lit (.bool false)], args := [d1, d2] }
  | _ => none }
def FilterOwnWrongFalsely : Prop := filterOwnRow.holds Try.pinned (OpenSpec.ofChange filterOwnWrong)

/- THE SECOND FORM. 'bulk': how many values and letters a reading holds, each counted each time it is reached (what is shared counts as often as it is met; a slice's spare places count too). A statement '..UptoSaid' is the law's where the arguments, and the package variables that the reading takes, are together of bulk at most 1048576: NARROWER than '..Said'. Prove '..Said' where nothing that the law and all that it calls make is longer than what came in: it says more and counts as full. Else prove '..UptoSaid'. A law counts once. -/
mutual
def uptoBulk {H : Type} : DataW H → Nat
  | .lit (.string bytes) => bytes.length + 1
  | .lit _ => 1
  | .nil => 1
  | .ptr d => uptoBulk d + 1
  | .slice elems spare => uptoBulkAll elems + uptoBulkAll spare + 1
  | .agg parts => uptoBulkAll parts + 1
  | .iface _ d => uptoBulk d + 1
  | .map entries => uptoBulkEntries entries + 1
  | .held _ => 1
def uptoBulkAll {H : Type} : List (DataW H) → Nat
  | [] => 0
  | d :: r => uptoBulk d + uptoBulkAll r
def uptoBulkEntries {H : Type} : List (Lit × DataW H) → Nat
  | [] => 0
  | x :: r => uptoBulkEntry x + uptoBulkEntries r
def uptoBulkEntry {H : Type} : Lit × DataW H → Nat
  | (.string bytes, d) => bytes.length + uptoBulk d + 1
  | (_, d) => uptoBulk d + 1
 end
def uptoSmall : (H : Type) → List (DataW H) → Bool := fun _ ds => decide (uptoBulkAll ds ≤ 1048576)
def OpenSpec.upto (s : _root_.Go.ChangeSpec) : _root_.Go.OpenSpec := { _root_.Go.OpenSpec.ofChange s with cond := some uptoSmall }

/-- 'precentorlaw7.FilterKnown', WHERE WHAT IT READS IS OF BULK AT MOST 1048576: true; the input reads as it did. -/
def filterKnownUptoRow : OpenClaim := { program := "ytmihkicemefjoaa", sum := "8045ffcf789efb27bf6538acf469ae43c5eb0efb7439dbea12b4127e8bed3a02", func := "precentor/precentorlaw7.FilterKnown", spec := "filterKnown", inPlace := ["math.Float64bits", "math.archTrunc", "math.Float64frombits"], unfollowed := true, recurses := true, apart := false, narrowed := true }
def FilterKnownUptoSaid : Prop := filterKnownUptoRow.holds Try.pinned (OpenSpec.upto filterKnownSpec)

/-- 'precentorlaw7.FilterTells', WHERE WHAT IT READS IS OF BULK AT MOST 1048576: true; the input reads as it did. -/
def filterTellsUptoRow : OpenClaim := { program := "ytmihkicemefjoaa", sum := "8045ffcf789efb27bf6538acf469ae43c5eb0efb7439dbea12b4127e8bed3a02", func := "precentor/precentorlaw7.FilterTells", spec := "filterTells", inPlace := ["math.Float64bits", "math.Float64frombits", "math.archTrunc"], unfollowed := true, recurses := true, apart := false, narrowed := true }
def FilterTellsUptoSaid : Prop := filterTellsUptoRow.holds Try.pinned (OpenSpec.upto filterTellsSpec)

/-- 'precentorlaw7.FilterReduces', WHERE WHAT IT READS IS OF BULK AT MOST 1048576: true; the input reads as it did. -/
def filterReducesUptoRow : OpenClaim := { program := "ytmihkicemefjoaa", sum := "8045ffcf789efb27bf6538acf469ae43c5eb0efb7439dbea12b4127e8bed3a02", func := "precentor/precentorlaw7.FilterReduces", spec := "filterReduces", inPlace := ["math.Float64bits", "math.Float64frombits", "math.archTrunc"], unfollowed := true, recurses := true, apart := false, narrowed := true }
def FilterReducesUptoSaid : Prop := filterReducesUptoRow.holds Try.pinned (OpenSpec.upto filterReducesSpec)

/-- 'precentorlaw7.FilterKeeps', WHERE WHAT IT READS IS OF BULK AT MOST 1048576: true; the input reads as it did. -/
def filterKeepsUptoRow : OpenClaim := { program := "ytmihkicemefjoaa", sum := "8045ffcf789efb27bf6538acf469ae43c5eb0efb7439dbea12b4127e8bed3a02", func := "precentor/precentorlaw7.FilterKeeps", spec := "filterKeeps", inPlace := ["math.Float64bits", "math.Float64frombits", "math.archTrunc"], unfollowed := true, recurses := true, apart := false, narrowed := true }
def FilterKeepsUptoSaid : Prop := filterKeepsUptoRow.holds Try.pinned (OpenSpec.upto filterKeepsSpec)

/-- 'precentorlaw7.FilterAll', WHERE WHAT IT READS IS OF BULK AT MOST 1048576: true; the input reads as it did. -/
def filterAllUptoRow : OpenClaim := { program := "ytmihkicemefjoaa", sum := "8045ffcf789efb27bf6538acf469ae43c5eb0efb7439dbea12b4127e8bed3a02", func := "precentor/precentorlaw7.FilterAll", spec := "filterAll", inPlace := ["math.Float64bits", "math.Float64frombits", "math.archTrunc"], unfollowed := true, recurses := true, apart := false, narrowed := true }
def FilterAllUptoSaid : Prop := filterAllUptoRow.holds Try.pinned (OpenSpec.upto filterAllSpec)

/-- 'precentorlaw7.FilterOwn', WHERE WHAT IT READS IS OF BULK AT MOST 1048576: true; the input reads as it did. -/
def filterOwnUptoRow : OpenClaim := { program := "ytmihkicemefjoaa", sum := "8045ffcf789efb27bf6538acf469ae43c5eb0efb7439dbea12b4127e8bed3a02", func := "precentor/precentorlaw7.FilterOwn", spec := "filterOwn", inPlace := ["math.Float64bits", "math.Float64frombits", "math.archTrunc"], unfollowed := true, recurses := true, apart := false, narrowed := true }
def FilterOwnUptoSaid : Prop := filterOwnUptoRow.holds Try.pinned (OpenSpec.upto filterOwnSpec)

end Rows
end Go.Proofs.Ytmihkicemefjoaa
