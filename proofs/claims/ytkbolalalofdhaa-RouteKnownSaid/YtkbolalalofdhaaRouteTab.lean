/- The seat's tables. -/
import Derived.Test.YtkbolalalofdhaaAbD
import Derived.Test.YtkbolalalofdhaaChecked
import Derived.Test.YtkbolalalofdhaaRows
namespace Go.Proofs.Ytkbolalalofdhaa
open Go Go.Ab Go.ChangeShapes Go.WideShapes Go.ChangeAt Go.RowKit
set_option linter.unusedVariables false
set_option linter.unusedSimpArgs false
set_option linter.unnecessarySimpa false

theorem Try.own : ownKnob Try.prog.godebug = none := by kernel_rfl
theorem Try.laidOut : laidOutB Try.prog = true := by kernel_rfl

def tabS : List (Nat × List Nat × List Nat) := [(2, [], []), (3, [0, 1, 2, 3, 4, 5, 6, 7, 8], []), (4, [0, 1, 2, 6, 7, 8, 9, 10, 11, 12, 13, 14, 15, 16, 17, 18, 19, 20, 21, 22], []), (5, [0, 1, 2, 6, 7, 8, 9, 10, 11, 12, 13, 14, 15, 16, 17, 18, 19, 20], []), (6, [0, 2], []), (7, [0, 2], [2]), (8, [0, 1, 2, 6, 7, 9, 10, 11, 13, 16, 17, 18, 26, 27, 28], [13]), (9, [0, 1, 4, 5, 12, 13], []), (10, [0, 1, 2, 6, 7, 9, 10, 11, 12], [9]), (11, [0, 1, 4, 5, 6], []), (12, [0, 1, 4, 5, 6, 7, 8, 9, 10, 11, 12], [11]), (13, [0, 1, 4, 5], []), (14, [0, 1, 4, 5], []), (15, [0, 2, 3, 4, 5, 6, 7], [6]), (16, [0, 1, 4, 5], []), (17, [0], []), (18, [0, 2, 3, 4, 5], [4]), (19, [0, 1, 2, 6, 7, 8], []), (20, [0, 1, 4, 6, 7, 8, 9, 10, 11], [6, 7]), (21, [0, 1, 4, 6, 7, 8, 9], []), (22, [0, 1, 2, 3, 8, 9, 10, 11, 12, 13, 14, 15], []), (23, [0, 1, 2, 6], []), (24, [0, 1, 4, 6, 7, 8, 9], []), (25, [0, 2, 3, 5, 6, 8, 9, 11, 12, 13, 14, 18, 19, 20, 32, 33, 34], []), (26, [0, 1, 2, 3, 4, 5, 45, 46], [2, 3]), (27, [0, 2, 3, 4, 5], [5]), (28, [0, 2], []), (29, [0, 1, 4, 5, 6, 13], [4, 5]), (30, [0, 1, 4], []), (31, [0, 1, 4, 5, 6, 7, 13, 14, 15], []), (32, [0, 2, 3, 4, 6, 7], [2, 3, 4]), (33, [0, 1, 2, 6], []), (34, [0, 1, 4, 5, 7, 8, 9, 10], [4, 7]), (35, [0, 1, 2, 3, 4, 5, 6, 7, 8, 10, 22, 103, 104, 105], [2, 3, 10]), (36, [0, 1, 2, 6, 7, 8, 9], []), (37, [0, 1, 4, 6, 8, 9, 11, 12, 13, 14, 21, 22, 23, 27, 28, 29], [6, 8, 11]), (38, [0, 2, 3, 4, 8, 9], []), (39, [0, 1, 2, 3, 4], [2, 3]), (40, [0, 2, 3, 4, 5, 6, 7], []), (41, [0, 2, 3], [3]), (42, [0, 1, 2, 8, 25], [1]), (43, [0, 1, 2, 3, 4, 5, 6, 7], [2, 3]), (44, [0, 1, 4], []), (45, [0, 1, 2, 3, 4, 5, 6], [2, 3]), (46, [0, 1, 4, 5], []), (47, [0, 1, 2, 3, 4, 6, 11, 12, 40, 41, 42], [1, 6]), (48, [0, 1, 2, 3, 4, 6, 7, 8, 9, 10, 11, 12, 47, 57, 58, 59, 117], [2, 3, 6, 7, 8, 9, 10]), (49, [0, 1, 4], []), (50, [0, 1, 4], []), (51, [0], []), (52, [0, 2, 3], []), (53, [0, 2, 3], []), (54, [0, 1, 2], [1]), (55, [0, 1, 2, 3, 7], [1, 3]), (56, [0, 2, 4, 5, 6, 7], [4]), (57, [0, 1, 4], []), (58, [0, 1, 4, 5], []), (59, [0, 1, 4, 5, 6, 7], []), (60, [0, 1, 2], [1]), (61, [0, 1, 2, 3, 4], [2, 3]), (62, [0, 1, 2, 3, 5, 6, 15], [1, 2, 3]), (63, [0, 1, 2, 3, 4, 6, 7, 8], [3, 4]), (64, [0, 2], []), (67, [0, 2], []), (68, [0, 1, 4], []), (69, [0, 2], []), (71, [0, 2, 3, 4], []), (72, [0, 2], [])]
noncomputable def gS : Ab.G := mkG Try.prog (fun f => if f == 66 then some .floatBits else if f == 65 then some .floatOf else if f == 70 then some .trunc else none) (none) (fun f => [6,7,9,10,13,16,17,19,20,21,23,24,26,27,30,31,33,34,35,36,37,39,40,42,43,44,45,46,47,48,49,50,51,52,53,54,55,56,57,58,59,60,61,62,63,64,67,68,69,71].contains f) (fun f => (lk [(38,[6])] f).getD []) (lk tabS)

theorem funcs_ok : Try.prog.funcs.toList.all okFunc = true := by kernel_rfl
theorem mixed_ok : Try.prog.follows .mixedOrders = true := by kernel_rfl
theorem gS_ok : GOk Try.prog gS ∧ DstOk gS := by
  refine mkG_ok funcs_ok mixed_ok (fun f hf b w => ?_) (fun f hf b v w hv => ?_) (fun f hf m w => ?_)
  · have : f = 66 := by
      by_cases h : f = 66
      · exact h
      · exfalso; revert hf
        show (if f == 66 then some .floatBits else if f == 65 then some .floatOf else if f == 70 then some .trunc else none : Option Ext) = some .floatBits → False
        simp only [beq_iff_eq, h, if_false]
        repeat' split
        all_goals simp
    subst this
    have e : ∀ b w, (callFunc 66 #[.float .f64 b]).run Try.prog w = .ok (.value (.int .u64 b)) w := by intro b w; kernel_rfl
    exact e b w
  · have : f = 70 := by
      by_cases h : f = 70
      · exact h
      · exfalso; revert hf
        show (if f == 66 then some .floatBits else if f == 65 then some .floatOf else if f == 70 then some .trunc else none : Option Ext) = some .trunc → False
        simp only [beq_iff_eq, h, if_false]
        repeat' split
        all_goals simp
    subst this
    exact trunc_run (fun u w => by kernel_rfl) b v w hv
  · have : f = 65 := by
      by_cases h : f = 65
      · exact h
      · exfalso; revert hf
        show (if f == 66 then some .floatBits else if f == 65 then some .floatOf else if f == 70 then some .trunc else none : Option Ext) = some .floatOf → False
        simp only [beq_iff_eq, h, if_false]
        repeat' split
        all_goals simp
    subst this
    have e : ∀ (m : Int) w, (callFunc 65 #[.int .u64 m]).run Try.prog w = .ok (.value (.float .f64 m.toNat)) w := by intro m w; kernel_rfl
    exact e m w
theorem gS_calls (n : Nat) : CallOk Try.prog (evalFn gS n) :=
  (evalFn_ok gS_ok.1 gS_ok.2 (fun r te h => by cases h) n).1
end Go.Proofs.Ytkbolalalofdhaa
