/-
  No cell of these rows narrows 'for every input' (looked for: loops, veiled, ifaces, maps, wideKeys, modest, calm, conditions, laid).
  DERIVED. THE GIVEN ROWS OF THIS SEAT. 5 by the template 'for every input the law returns true; each argument reads behind the call as it read before'; 0 by the template 'total and deterministic' (their statements: YtebjpgoadapabaaTotals.lean).
  GIVEN WITH THE SEED: the statements are not yours to turn. If you find one false, say at which input.
  Laid BY PROGRAM, IN A SANDBOX (cutbox-rows.mjs): the forced cells as the released guide's own fill.sh prints them over the translation ada26123144d3743… (all of the seat's roots in one cut). By AI agents, Wed Nov 11 2026. No macro, syntax, notation, axiom, sorry.
-/
import Derived.Test.YtebjpgoadapabaaChecked
import GoSem.Claim
import GoSem.ClaimJoined
import GoSem.ClaimMapViews
import Derived.JoinedTies
import Derived.KernelRfl
namespace Go.Proofs.Ytebjpgoadapabaa
/- THE CELL 'sum', in the pinned program and in every row, IS THE sha256 OF THE DUMP (.gsa) THAT YtebjpgoadapabaaProg.lean LOADS. Nothing in Lean hashes anything: it is a label: what it is worth is what the hold of that sum in a sandbox is worth. -/
noncomputable def Try.pinned : Pinned := { name := "ytebjpgoadapabaa", sum := "ada26123144d374320b4ae7b928f7b3916344dee9f4a24ac93805fabdc49c9fe", checked := Try.checked }
namespace Rows
def none {H : Type} : Left H := { results := [], args := [] }

/-- 'precentorlaw18.LinkKnown': WHATEVER THE INPUT: true; the input reads as it did. -/
def linkKnownSpec : ChangeSpec := { name := "linkKnown", fn := fun _ => fun
  | [] => { results := [.lit (.bool true)], args := [] }
  | _ => none }
def linkKnownRow : OpenClaim := { program := "ytebjpgoadapabaa", sum := "ada26123144d374320b4ae7b928f7b3916344dee9f4a24ac93805fabdc49c9fe", func := "precentor/precentorlaw18.LinkKnown", spec := "linkKnown", unfollowed := true, recurses := true, apart := false }
def LinkKnownSaid : Prop := linkKnownRow.holds Try.pinned (OpenSpec.ofChange linkKnownSpec)

/-- ITS FALSE NEIGHBOUR: 'it returns false'. Refute it at one input. -/
def linkKnownWrong : ChangeSpec := { name := "linkKnown", fn := fun _ => fun
  | [] => { results := [.lit (.bool false)], args := [] }
  | _ => none }
def LinkKnownWrongFalsely : Prop := linkKnownRow.holds Try.pinned (OpenSpec.ofChange linkKnownWrong)

/-- 'precentorlaw18.LinkTells': WHATEVER THE INPUT: true; the input reads as it did. -/
def linkTellsSpec : ChangeSpec := { name := "linkTells", fn := fun _ => fun
  | [d1, d2, d3] => { results := [.lit (.bool true)], args := [d1, d2, d3] }
  | _ => none }
def linkTellsRow : OpenClaim := { program := "ytebjpgoadapabaa", sum := "ada26123144d374320b4ae7b928f7b3916344dee9f4a24ac93805fabdc49c9fe", func := "precentor/precentorlaw18.LinkTells", spec := "linkTells", unfollowed := true, recurses := true, apart := false }
def LinkTellsSaid : Prop := linkTellsRow.holds Try.pinned (OpenSpec.ofChange linkTellsSpec)

/-- ITS FALSE NEIGHBOUR: 'it returns false'. Refute it at one input. -/
def linkTellsWrong : ChangeSpec := { name := "linkTells", fn := fun _ => fun
  | [d1, d2, d3] => { results := [.lit (.bool false)], args := [d1, d2, d3] }
  | _ => none }
def LinkTellsWrongFalsely : Prop := linkTellsRow.holds Try.pinned (OpenSpec.ofChange linkTellsWrong)

/-- 'precentorlaw18.LinkOnce': WHATEVER THE INPUT: true; the input reads as it did. -/
def linkOnceSpec : ChangeSpec := { name := "linkOnce", fn := fun _ => fun
  | [d1, d2, d3] => { results := [.lit (.bool true)], args := [d1, d2, d3] }
  | _ => none }
def linkOnceRow : OpenClaim := { program := "ytebjpgoadapabaa", sum := "ada26123144d374320b4ae7b928f7b3916344dee9f4a24ac93805fabdc49c9fe", func := "precentor/precentorlaw18.LinkOnce", spec := "linkOnce", unfollowed := true, recurses := true, apart := false }
def LinkOnceSaid : Prop := linkOnceRow.holds Try.pinned (OpenSpec.ofChange linkOnceSpec)

/-- ITS FALSE NEIGHBOUR: 'it returns false'. Refute it at one input. -/
def linkOnceWrong : ChangeSpec := { name := "linkOnce", fn := fun _ => fun
  | [d1, d2, d3] => { results := [.lit (.bool false)], args := [d1, d2, d3] }
  | _ => none }
def LinkOnceWrongFalsely : Prop := linkOnceRow.holds Try.pinned (OpenSpec.ofChange linkOnceWrong)

/-- 'precentorlaw18.LinkAll': WHATEVER THE INPUT: true; the input reads as it did. -/
def linkAllSpec : ChangeSpec := { name := "linkAll", fn := fun _ => fun
  | [d1, d2, d3] => { results := [.lit (.bool true)], args := [d1, d2, d3] }
  | _ => none }
def linkAllRow : OpenClaim := { program := "ytebjpgoadapabaa", sum := "ada26123144d374320b4ae7b928f7b3916344dee9f4a24ac93805fabdc49c9fe", func := "precentor/precentorlaw18.LinkAll", spec := "linkAll", unfollowed := true, recurses := true, apart := false }
def LinkAllSaid : Prop := linkAllRow.holds Try.pinned (OpenSpec.ofChange linkAllSpec)

/-- ITS FALSE NEIGHBOUR: 'it returns false'. Refute it at one input. -/
def linkAllWrong : ChangeSpec := { name := "linkAll", fn := fun _ => fun
  | [d1, d2, d3] => { results := [.lit (.bool false)], args := [d1, d2, d3] }
  | _ => none }
def LinkAllWrongFalsely : Prop := linkAllRow.holds Try.pinned (OpenSpec.ofChange linkAllWrong)

/-- 'precentorlaw18.LinkWindow': WHATEVER THE INPUT: true; the input reads as it did. -/
def linkWindowSpec : ChangeSpec := { name := "linkWindow", fn := fun _ => fun
  | [d1, d2, d3, d4] => { results := [.lit (.bool true)], args := [d1, d2, d3, d4] }
  | _ => none }
def linkWindowRow : OpenClaim := { program := "ytebjpgoadapabaa", sum := "ada26123144d374320b4ae7b928f7b3916344dee9f4a24ac93805fabdc49c9fe", func := "precentor/precentorlaw18.LinkWindow", spec := "linkWindow", unfollowed := true, recurses := true, apart := false }
def LinkWindowSaid : Prop := linkWindowRow.holds Try.pinned (OpenSpec.ofChange linkWindowSpec)

/-- ITS FALSE NEIGHBOUR: 'it returns false'. Refute it at one input. -/
def linkWindowWrong : ChangeSpec := { name := "linkWindow", fn := fun _ => fun
  | [d1, d2, d3, d4] => { results := [.lit (.bool false)], args := [d1, d2, d3, d4] }
  | _ => none }
def LinkWindowWrongFalsely : Prop := linkWindowRow.holds Try.pinned (OpenSpec.ofChange linkWindowWrong)

/- THE SECOND FORM. 'bulk': how many values and letters a reading holds, each counted each time it is reached (what is shared counts as often as it is met; a slice's spare places count too). A statement '..UptoSaid' is the law's where the arguments, and the package variables that the reading takes, are together of bulk at most 1048576: NARROWER than '..Said'. Prove '..Said' where nothing that the law and all that it calls make is longer than what came in: it says more and counts as full. Else prove '..UptoSaid'. A law counts once. -/
mutual
def uptoBulk {H : Type} : DataW H → Nat
  | .lit (.string bytes) => bytes.length + 1
  | .lit _ => 1
  | .nil => 1
  | .ptr d => uptoBulk d + 1
  | .slice elems spare => uptoBulkAll elems + uptoBulkAll spare + 1
  | .agg parts => uptoBulkAll parts + 1
  | .iface _ d => uptoBulk d + 1
  | .map entries => uptoBulkEntries entries + 1
  | .held _ => 1
def uptoBulkAll {H : Type} : List (DataW H) → Nat
  | [] => 0
  | d :: r => uptoBulk d + uptoBulkAll r
def uptoBulkEntries {H : Type} : List (Lit × DataW H) → Nat
  | [] => 0
  | x :: r => uptoBulkEntry x + uptoBulkEntries r
def uptoBulkEntry {H : Type} : Lit × DataW H → Nat
  | (.string bytes, d) => bytes.length + uptoBulk d + 1
  | (_, d) => uptoBulk d + 1
 end
def uptoSmall : (H : Type) → List (DataW H) → Bool := fun _ ds => decide (uptoBulkAll ds ≤ 1048576)
def OpenSpec.upto (s : _root_.Go.ChangeSpec) : _root_.Go.OpenSpec := { _root_.Go.OpenSpec.ofChange s with cond := some uptoSmall }

/-- 'precentorlaw18.LinkKnown', WHERE WHAT IT READS IS OF BULK AT MOST 1048576: true; the input reads as it did. -/
def linkKnownUptoRow : OpenClaim := { program := "ytebjpgoadapabaa", sum := "ada26123144d374320b4ae7b928f7b3916344dee9f4a24ac93805fabdc49c9fe", func := "precentor/precentorlaw18.LinkKnown", spec := "linkKnown", unfollowed := true, recurses := true, apart := false, narrowed := true }
def LinkKnownUptoSaid : Prop := linkKnownUptoRow.holds Try.pinned (OpenSpec.upto linkKnownSpec)

/-- 'precentorlaw18.LinkTells', WHERE WHAT IT READS IS OF BULK AT MOST 1048576: true; the input reads as it did. -/
def linkTellsUptoRow : OpenClaim := { program := "ytebjpgoadapabaa", sum := "ada26123144d374320b4ae7b928f7b3916344dee9f4a24ac93805fabdc49c9fe", func := "precentor/precentorlaw18.LinkTells", spec := "linkTells", unfollowed := true, recurses := true, apart := false, narrowed := true }
def LinkTellsUptoSaid : Prop := linkTellsUptoRow.holds Try.pinned (OpenSpec.upto linkTellsSpec)

/-- 'precentorlaw18.LinkOnce', WHERE WHAT IT READS IS OF BULK AT MOST 1048576: true; the input reads as it did. -/
def linkOnceUptoRow : OpenClaim := { program := "ytebjpgoadapabaa", sum := "ada26123144d374320b4ae7b928f7b3916344dee9f4a24ac93805fabdc49c9fe", func := "precentor/precentorlaw18.LinkOnce", spec := "linkOnce", unfollowed := true, recurses := true, apart := false, narrowed := true }
def LinkOnceUptoSaid : Prop := linkOnceUptoRow.holds Try.pinned (OpenSpec.upto linkOnceSpec)

/-- 'precentorlaw18.LinkAll', WHERE WHAT IT READS IS OF BULK AT MOST 1048576: true; the input reads as it did. -/
def linkAllUptoRow : OpenClaim := { program := "ytebjpgoadapabaa", sum := "ada26123144d374320b4ae7b928f7b3916344dee9f4a24ac93805fabdc49c9fe", func := "precentor/precentorlaw18.LinkAll", spec := "linkAll", unfollowed := true, recurses := true, apart := false, narrowed := true }
def LinkAllUptoSaid : Prop := linkAllUptoRow.holds Try.pinned (OpenSpec.upto linkAllSpec)

/-- 'precentorlaw18.LinkWindow', WHERE WHAT IT READS IS OF BULK AT MOST 1048576: true; the input reads as it did. -/
def linkWindowUptoRow : OpenClaim := { program := "ytebjpgoadapabaa", sum := "ada26123144d374320b4ae7b928f7b3916344dee9f4a24ac93805fabdc49c9fe", func := "precentor/precentorlaw18.LinkWindow", spec := "linkWindow", unfollowed := true, recurses := true, apart := false, narrowed := true }
def LinkWindowUptoSaid : Prop := linkWindowUptoRow.holds Try.pinned (OpenSpec.upto linkWindowSpec)

end Rows
end Go.Proofs.Ytebjpgoadapabaa
