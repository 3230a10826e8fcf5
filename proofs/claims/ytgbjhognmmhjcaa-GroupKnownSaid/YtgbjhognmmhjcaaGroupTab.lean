/- The seat's tables. -/
import Derived.Test.YtgbjhognmmhjcaaAbD
import Derived.Test.YtgbjhognmmhjcaaChecked
import Derived.Test.YtgbjhognmmhjcaaRows
namespace Go.Proofs.Ytgbjhognmmhjcaa
open Go Go.Ab Go.ChangeShapes Go.WideShapes Go.ChangeAt Go.RowKit
set_option linter.unusedVariables false
set_option linter.unusedSimpArgs false
set_option linter.unnecessarySimpa false

theorem Try.own : ownKnob Try.prog.godebug = none := by kernel_rfl
theorem Try.laidOut : laidOutB Try.prog = true := by kernel_rfl

noncomputable def gS : Ab.G := mkG Try.prog (fun f => if f == 70 then some .floatBits else if f == 71 then some .floatOf else none) (none) (fun f => [7,9,10,11,12,13,14,17,18,19,20,22,23,24,25,26,28,29,30,32,33,34,35,37,38,39,40,41,44,45,47,48,49,50,51,52,53,54,55,56,57,58,59,60,61,62,63,64,65,66,67,68,69,72,73,74,75,76,77,78,79,81].contains f) (fun f => (lk [(27,[6])] f).getD [])

theorem funcs_ok : Try.prog.funcs.toList.all okFunc = true := by kernel_rfl
theorem mixed_ok : Try.prog.follows .mixedOrders = true := by kernel_rfl
theorem gS_ok : GOk Try.prog gS ∧ DstOk gS := by
  refine mkG_ok funcs_ok mixed_ok (fun f hf b w => ?_) (fun f hf m w => ?_)
  · have : f = 70 := by
      by_cases h : f = 70
      · exact h
      · simp only [beq_iff_eq, h, if_false] at hf; split at hf <;> cases hf
    subst this
    have e : ∀ b w, (callFunc 70 #[.float .f64 b]).run Try.prog w = .ok (.value (.int .u64 b)) w := by intro b w; kernel_rfl
    exact e b w
  · have : f = 71 := by
      by_cases h : f = 71
      · exact h
      · simp only [beq_iff_eq, h, if_false] at hf; split at hf <;> cases hf
    subst this
    have e : ∀ (m : Int) w, (callFunc 71 #[.int .u64 m]).run Try.prog w = .ok (.value (.float .f64 m.toNat)) w := by intro m w; kernel_rfl
    exact e m w
theorem gS_calls (n : Nat) : CallOk Try.prog (evalFn gS n) :=
  (evalFn_ok gS_ok.1 gS_ok.2 (fun r te h => by cases h) n).1
end Go.Proofs.Ytgbjhognmmhjcaa
