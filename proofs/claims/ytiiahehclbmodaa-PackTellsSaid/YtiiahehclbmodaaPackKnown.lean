/- PackKnown: the call returns true and leaves what was there as it was. -/
import Derived.Test.YtiiahehclbmodaaPackTab
namespace Go.Proofs.Ytiiahehclbmodaa
open Go Go.Ab Go.ChangeShapes Go.WideShapes Go.ChangeAt Go.RowKit
set_option linter.unusedVariables false
set_option linter.unusedSimpArgs false
set_option linter.unnecessarySimpa false

theorem known_runs : (match evalFn gS 60 3 [] ⟨[], 0⟩ with | some (.ret (.bool true) none, _) => true | _ => false) = true := by kernel_rfl

set_option maxRecDepth 100000 in
theorem known_lifted (os : Os) (started : os.Started) (H : Type) (enc : TypeId × Value → H) :
    ReturnsInHanded {} Try.checked os 3 .any (Rows.packKnownSpec.pre6 enc Try.prog Try.f3 Rows.packKnownRow.domain false) (Rows.packKnownSpec.post enc Try.prog Try.f3 false true false false) := by
  refine returnsInHanded_of_change_sized (C := Try.checked) Try.own started (by kernel_rfl) Try.func3
    (ChangeSpec.witness6 (enc := enc) (C := Try.checked) false ⟨#[], #[], []⟩ 8 (by kernel_rfl) (by kernel_rfl) (by kernel_rfl) (by kernel_rfl)) ?_
  intro W base args ds gs before hval0 hW _ hsz0 _
  have hW' := hW
  obtain ⟨p, q, hA0, hV, rfl, _, _⟩ := hW
  have hA : DataW.TrodAll enc Try.prog W 0 (fun _ => true) true Try.f3.params.toList args.toList ds p := hA0
  rw [show Try.f3.params.toList = [] from by kernel_rfl] at hA
  obtain ⟨l⟩ := args
  obtain ⟨rfl, rfl, rfl⟩ := trodAll_nil hA
  obtain ⟨rfl, rfl⟩ := trodVars_none hV
  refine (law_calls (gS_calls 60) known_runs (W := W) (args := #[]) .nil).mono ?_
  rintro e W' ⟨rfl, hn⟩
  refine ⟨_, rfl, [], [], _, [], [], [], hW', ?_, trodAll_mk0, rfl, hn.frame _, fun h => by cases h⟩
  exact trodAll_mk1 (shut_bool Try.underlying4 true)

theorem packKnown_holds : Rows.PackKnownSaid :=
  OpenClaim.holds_of_wide 3 Try.f3 rfl rfl rfl rfl rfl rfl rfl ⟨rfl, rfl, rfl, rfl, rfl⟩ rfl rfl rfl rfl rfl (by kernel_rfl) Try.func3 (by kernel_rfl)
    (of_decide_eq_true (by kernel_rfl)) (by unfold Func.isWrapper; first | (rw [if_pos (by decide +kernel)]; kernel_rfl) | (rw [if_neg (by decide +kernel)]; exact ⟨rfl, rfl⟩))
    (fun os started H enc _ => known_lifted os started H enc)
#print axioms packKnown_holds
end Go.Proofs.Ytiiahehclbmodaa
