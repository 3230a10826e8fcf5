/- The seat's tables. -/
import Derived.Test.YtdiniobdccciaaaAbD
import Derived.Test.YtdiniobdccciaaaChecked
import Derived.Test.YtdiniobdccciaaaRows
namespace Go.Proofs.Ytdiniobdccciaaa
open Go Go.Ab Go.ChangeShapes Go.WideShapes Go.ChangeAt Go.RowKit
set_option linter.unusedVariables false
set_option linter.unusedSimpArgs false
set_option linter.unnecessarySimpa false

theorem Try.own : ownKnob Try.prog.godebug = none := by kernel_rfl
theorem Try.laidOut : laidOutB Try.prog = true := by kernel_rfl

noncomputable def gS : Ab.G := mkG Try.prog (fun f => if f == 99 then some .floatBits else if f == 98 then some .floatOf else if f == 111 then some .trunc else none) (none) (fun f => [8,9,10,11,15,16,17,18,19,20,22,23,24,26,27,28,29,30,31,32,33,34,36,37,39,40,41,42,43,44,45,46,47,48,49,50,52,53,54,55,56,59,60,61,62,63,64,65,66,67,68,70,71,72,73,74,75,76,77,78,79,80,81,82,83,84,85,86,87,88,89,90,91,92,93,94,95,96,97,100,101,102,103,104,105,106,107,108,109,110,112].contains f) (fun f => (lk [(38,[6])] f).getD [])

theorem funcs_ok : Try.prog.funcs.toList.all okFunc = true := by kernel_rfl
theorem mixed_ok : Try.prog.follows .mixedOrders = true := by kernel_rfl
theorem gS_ok : GOk Try.prog gS ∧ DstOk gS := by
  refine mkG_ok funcs_ok mixed_ok (fun f hf b w => ?_) (fun f hf b v w hv => ?_) (fun f hf m w => ?_)
  · have : f = 99 := by
      by_cases h : f = 99
      · exact h
      · exfalso; revert hf
        show (if f == 99 then some .floatBits else if f == 98 then some .floatOf else if f == 111 then some .trunc else none : Option Ext) = some .floatBits → False
        simp only [beq_iff_eq, h, if_false]
        repeat' split
        all_goals simp
    subst this
    have e : ∀ b w, (callFunc 99 #[.float .f64 b]).run Try.prog w = .ok (.value (.int .u64 b)) w := by intro b w; kernel_rfl
    exact e b w
  · have : f = 111 := by
      by_cases h : f = 111
      · exact h
      · exfalso; revert hf
        show (if f == 99 then some .floatBits else if f == 98 then some .floatOf else if f == 111 then some .trunc else none : Option Ext) = some .trunc → False
        simp only [beq_iff_eq, h, if_false]
        repeat' split
        all_goals simp
    subst this
    exact trunc_run (fun u w => by kernel_rfl) b v w hv
  · have : f = 98 := by
      by_cases h : f = 98
      · exact h
      · exfalso; revert hf
        show (if f == 99 then some .floatBits else if f == 98 then some .floatOf else if f == 111 then some .trunc else none : Option Ext) = some .floatOf → False
        simp only [beq_iff_eq, h, if_false]
        repeat' split
        all_goals simp
    subst this
    have e : ∀ (m : Int) w, (callFunc 98 #[.int .u64 m]).run Try.prog w = .ok (.value (.float .f64 m.toNat)) w := by intro m w; kernel_rfl
    exact e m w
theorem gS_calls (n : Nat) : CallOk Try.prog (evalFn gS n) :=
  (evalFn_ok gS_ok.1 gS_ok.2 (fun r te h => by cases h) n).1
end Go.Proofs.Ytdiniobdccciaaa
