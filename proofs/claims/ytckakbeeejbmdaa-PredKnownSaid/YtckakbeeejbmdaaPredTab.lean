/- The seat's tables. -/
import Derived.Test.YtckakbeeejbmdaaAbD
import Derived.Test.YtckakbeeejbmdaaChecked
import Derived.Test.YtckakbeeejbmdaaRows
namespace Go.Proofs.Ytckakbeeejbmdaa
open Go Go.Ab Go.ChangeShapes Go.WideShapes Go.ChangeAt Go.RowKit
set_option linter.unusedVariables false
set_option linter.unusedSimpArgs false
set_option linter.unnecessarySimpa false

theorem Try.own : ownKnob Try.prog.godebug = none := by kernel_rfl
theorem Try.laidOut : laidOutB Try.prog = true := by kernel_rfl

def tabS : List (Nat × List Nat × List Nat) := [(2, [], []), (3, [0, 1, 2, 3, 4, 5, 6], [1, 2, 3, 4, 5, 6]), (4, [0, 1, 2, 3, 4, 5, 6, 8, 9, 10, 11], [4, 5, 6, 10, 11]), (5, [0, 1, 2, 3, 4, 6, 7, 8, 9], [3, 4, 8, 9]), (6, [0, 1, 4, 5, 6, 7, 8, 9, 10, 11, 12], [6, 7, 12]), (7, [0, 2, 3, 4, 5, 6, 7, 8, 9, 10, 11, 12, 13, 14], [4, 5, 6]), (8, [0, 2], [2]), (9, [0], []), (10, [0, 2], [2]), (11, [0, 1, 2, 3, 4, 5, 6, 7, 8, 10, 22, 103, 104, 105], [2, 3, 10]), (12, [0, 1, 3, 4], [3, 4]), (13, [0, 1, 2, 3, 4, 6, 7, 8, 9, 10, 11, 12, 47, 57, 58, 59, 117], [2, 3, 6, 7, 8, 9, 10]), (14, [0, 1, 2, 3, 4, 6, 11, 12, 40, 41, 42], [1, 6]), (15, [0, 1, 2, 8, 25], [1]), (16, [0, 2], [2]), (17, [0, 1, 2, 3, 4, 6, 7, 8, 9, 44], [3, 4, 6, 7, 8, 9]), (18, [0, 1, 4, 5], []), (19, [0, 2, 3, 4, 6, 7], [2, 3, 4]), (20, [0], []), (21, [0, 1, 2, 3, 9, 26], [1]), (22, [0, 1, 2, 3, 4, 5, 6, 7, 8, 9, 21], [2, 3]), (23, [0, 1, 2, 3, 4, 5, 10, 11], [1]), (24, [0, 1, 2, 3, 4, 5, 45, 46], [2, 3]), (25, [0, 1, 2, 3, 4], [2, 3]), (26, [0, 1, 2, 3, 4, 5, 6, 7], [2, 3]), (27, [0, 1, 4, 5, 6, 13], [4, 5]), (28, [0, 1, 2, 3, 4, 5, 6], [2, 3]), (30, [0, 1, 2, 3, 4, 5, 6, 7], [2, 3]), (31, [0, 1, 4], []), (32, [0, 1, 2, 3, 4], [2, 3]), (33, [0, 1, 2], [1]), (34, [0, 1, 2, 3, 5, 6, 15], [1, 2, 3]), (35, [0, 1, 2, 3, 4, 6, 7, 8], [3, 4]), (36, [0, 2, 3], []), (37, [0, 1, 2], [1]), (38, [0, 1, 2, 3, 7], [1, 3]), (39, [0, 2, 4, 5, 6, 7], [4]), (40, [0, 2, 3, 4, 5], [5]), (41, [0, 1, 4, 5], []), (42, [0, 2, 3], [3]), (43, [0, 2, 3], []), (44, [0, 1, 2], [1]), (45, [0, 1, 2, 3, 4, 5, 6, 20], [1]), (46, [0, 1, 2, 3, 4, 5, 6, 7], [2, 3]), (47, [0, 1, 4], []), (48, [0, 1, 2, 3, 4, 5, 6], [2, 3]), (49, [0, 1, 2, 3, 4], [2, 3]), (50, [0, 1, 2, 3, 4], [2, 3]), (51, [0, 1, 4, 5], []), (52, [0, 1, 2], [1]), (53, [0, 1, 2, 3, 4, 6, 7, 8], [3, 4]), (54, [0, 1, 2], [1, 2]), (55, [0, 1, 2], [1, 2]), (56, [0, 1, 4], []), (57, [0, 1, 4, 5], []), (58, [0, 1, 4, 5, 6, 7], []), (59, [0, 1, 4], []), (60, [0, 2, 3], []), (61, [0, 1, 4, 5, 6, 7], []), (62, [0, 1, 4, 5], []), (63, [0, 1, 4], []), (64, [0, 2], []), (65, [0, 2], []), (66, [0, 1, 4], []), (67, [0, 2], []), (69, [0, 2], []), (71, [0, 2, 3, 4], []), (72, [0, 2], [])]
noncomputable def gS : Ab.G := mkG Try.prog (fun f => if f == 68 then some .floatBits else if f == 29 then some .floatOf else if f == 70 then some .trunc else none) (none) (fun f => [8,9,10,11,12,13,14,15,16,20,21,22,23,24,25,26,28,30,31,32,33,34,35,36,37,38,39,40,41,43,44,45,46,47,48,49,50,51,52,53,54,55,56,57,58,59,60,61,62,63,64,65,66,67,69,71].contains f) (fun _ => []) (lk tabS)

theorem funcs_ok : Try.prog.funcs.toList.all okFunc = true := by kernel_rfl
theorem mixed_ok : Try.prog.follows .mixedOrders = true := by kernel_rfl
theorem gS_ok : GOk Try.prog gS ∧ DstOk gS := by
  refine mkG_ok funcs_ok mixed_ok (fun f hf b w => ?_) (fun f hf b v w hv => ?_) (fun f hf m w => ?_)
  · have : f = 68 := by
      by_cases h : f = 68
      · exact h
      · exfalso; revert hf
        show (if f == 68 then some .floatBits else if f == 29 then some .floatOf else if f == 70 then some .trunc else none : Option Ext) = some .floatBits → False
        simp only [beq_iff_eq, h, if_false]
        repeat' split
        all_goals simp
    subst this
    have e : ∀ b w, (callFunc 68 #[.float .f64 b]).run Try.prog w = .ok (.value (.int .u64 b)) w := by intro b w; kernel_rfl
    exact e b w
  · have : f = 70 := by
      by_cases h : f = 70
      · exact h
      · exfalso; revert hf
        show (if f == 68 then some .floatBits else if f == 29 then some .floatOf else if f == 70 then some .trunc else none : Option Ext) = some .trunc → False
        simp only [beq_iff_eq, h, if_false]
        repeat' split
        all_goals simp
    subst this
    exact trunc_run (fun u w => by kernel_rfl) b v w hv
  · have : f = 29 := by
      by_cases h : f = 29
      · exact h
      · exfalso; revert hf
        show (if f == 68 then some .floatBits else if f == 29 then some .floatOf else if f == 70 then some .trunc else none : Option Ext) = some .floatOf → False
        simp only [beq_iff_eq, h, if_false]
        repeat' split
        all_goals simp
    subst this
    have e : ∀ (m : Int) w, (callFunc 29 #[.int .u64 m]).run Try.prog w = .ok (.value (.float .f64 m.toNat)) w := by intro m w; kernel_rfl
    exact e m w
theorem gS_calls (n : Nat) : CallOk Try.prog (evalFn gS n) :=
  (evalFn_ok gS_ok.1 gS_ok.2 (fun r te h => by cases h) n).1
end Go.Proofs.Ytckakbeeejbmdaa
