/- The seat's tables. -/
import Derived.Test.YticjogbnhobehaaAbD
import Derived.Test.YticjogbnhobehaaChecked
import Derived.Test.YticjogbnhobehaaRows
namespace Go.Proofs.Yticjogbnhobehaa
open Go Go.Ab Go.ChangeShapes Go.WideShapes Go.ChangeAt Go.RowKit
set_option linter.unusedVariables false
set_option linter.unusedSimpArgs false
set_option linter.unnecessarySimpa false

theorem Try.own : ownKnob Try.prog.godebug = none := by kernel_rfl
theorem Try.laidOut : laidOutB Try.prog = true := by kernel_rfl

noncomputable def gS : Ab.G := mkG Try.prog (fun _ => none) (some (33, 23)) (fun f => [15,16,18,20,11,24,26,32,38,45].contains f) (fun f => (lk [(9,[13]),(12,[49])] f).getD [])

theorem funcs_ok : Try.prog.funcs.toList.all okFunc = true := by kernel_rfl
theorem mixed_ok : Try.prog.follows .mixedOrders = true := by kernel_rfl
theorem run_ok : RunOk Try.prog 33 23 1 4 20 75 39 Try.f33 Try.f39 where
  hf := Try.func33
  hb := by kernel_rfl
  hn := by kernel_rfl
  hr := by kernel_rfl
  hf1 := Try.func39
  hb1 := by kernel_rfl
  hn1 := by kernel_rfl
  hr1 := by kernel_rfl
  hname := by kernel_rfl
  ue := by kernel_rfl
  ze := ⟨_, rfl, rfl, rfl⟩
  uf := ⟨_, _, _, rfl⟩
  ua := by kernel_rfl
theorem gS_ok : GOk Try.prog gS ∧ DstOk gS := by
  refine mkG_ok funcs_ok mixed_ok (fun f hf b w => ?_) (fun f hf m w => ?_)
  · exact absurd hf (by simp)
  · exact absurd hf (by simp)
theorem gS_calls (n : Nat) : CallOk Try.prog (evalFn gS n) :=
  (evalFn_ok gS_ok.1 gS_ok.2 (fun r te h => by cases h; exact ⟨_, _, _, _, _, _, _, run_ok, by kernel_rfl⟩) n).1
end Go.Proofs.Yticjogbnhobehaa
