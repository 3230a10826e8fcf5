/- The seat's tables. -/
import Derived.Test.YtlodbjbibkpkmaaAbD
import Derived.Test.YtlodbjbibkpkmaaChecked
import Derived.Test.YtlodbjbibkpkmaaRows
namespace Go.Proofs.Ytlodbjbibkpkmaa
open Go Go.Ab Go.ChangeShapes Go.WideShapes Go.ChangeAt Go.RowKit
set_option linter.unusedVariables false
set_option linter.unusedSimpArgs false
set_option linter.unnecessarySimpa false

theorem Try.own : ownKnob Try.prog.godebug = none := by kernel_rfl
theorem Try.laidOut : laidOutB Try.prog = true := by kernel_rfl

def tabS : List (Nat × List Nat × List Nat) := [(2, [], []), (3, [0, 2, 4, 6, 7, 8, 10, 11, 12, 13], [1, 3, 5, 7, 9, 11, 12, 13]), (4, [0, 1, 2, 6, 7, 8, 9, 10, 11, 12, 13, 15], [8, 10, 12, 14]), (5, [0, 1, 2, 3, 4, 10, 11, 12, 13, 14, 15, 17, 18, 19, 61, 62], [12, 14, 18]), (6, [0, 1, 2, 6, 7, 8, 9], [8, 9]), (7, [0, 2, 3, 4, 5], [2]), (8, [0, 1, 2, 3, 5, 7, 9, 47, 48, 84, 85, 86], [1, 3, 7, 9]), (9, [0, 2], [2]), (10, [0, 1, 2, 3, 4], [1, 3]), (11, [0, 1, 2, 3, 4, 5, 73, 74], [2, 3]), (12, [0, 2, 3, 9, 35, 63], [2, 3]), (13, [0], []), (14, [0, 1, 4, 5], []), (15, [0, 1, 4], []), (16, [0, 1, 2, 3, 6, 7, 8, 31], [3, 6]), (17, [0, 1, 3, 4, 5, 6], []), (18, [0, 1], []), (19, [0, 2, 3, 4, 6, 7], [2, 3, 4, 6]), (20, [0, 2, 3, 4, 8], [2]), (21, [0, 1, 4, 5], []), (22, [0, 1, 3, 4, 6, 8, 10, 21, 22, 35, 36, 37, 55, 56, 57], [3, 8, 10]), (23, [0, 1, 3, 4], [3]), (24, [0, 2], []), (25, [0, 1, 2, 3, 8], []), (26, [0, 1, 2, 3, 4, 26, 27, 28], [1, 4]), (27, [0, 1, 2], [1]), (28, [0, 1, 2], [1]), (29, [0, 1, 2, 3, 4], [2, 3]), (30, [0, 2, 3, 4, 5, 6, 7], [4]), (31, [0, 1, 2, 3, 4, 5, 58, 59], [2, 3]), (32, [0, 1, 2, 3, 4], [2, 3]), (33, [0, 1, 4, 5], []), (34, [0, 2, 3, 4, 5, 6, 7], [6]), (35, [0, 1, 4, 5, 6, 7, 8, 9, 10, 11, 12], [11]), (36, [0, 2, 3], [2, 3]), (37, [0, 2], []), (38, [0, 1], []), (39, [0, 2], []), (40, [0, 1, 2, 6, 7], []), (41, [0, 2, 3, 4], []), (42, [0, 2, 3, 4, 5, 6, 7, 8], [2, 3, 8]), (43, [0, 2, 3, 4], [2, 3]), (44, [0, 1, 2, 4, 6, 7, 8, 9, 10], [4, 6, 7]), (45, [0, 1, 4], []), (46, [0, 1, 3, 4, 10], [3]), (47, [0, 1, 4], []), (48, [0, 1, 4, 6, 8, 13, 14, 15, 27, 51, 52, 53], [6, 8]), (49, [0, 1, 2, 6], []), (50, [0, 2, 3, 4, 8, 9, 10], [4]), (51, [0, 2, 3, 4, 8, 9, 10], [4]), (52, [0, 1, 2, 3, 4], [2, 3]), (53, [0, 1, 4, 5, 12, 13], []), (54, [0, 1, 4, 5, 12, 13], []), (55, [0, 2], []), (56, [0, 1, 4, 5, 6, 13], [4, 5]), (57, [0, 2, 3, 4, 5], [5]), (58, [0, 2, 3, 4, 5], [4]), (59, [0, 2, 3, 4, 5], []), (60, [0, 1, 2, 3], []), (61, [0, 1], []), (62, [0, 1, 4, 5, 6, 7, 8], []), (63, [0, 1, 2, 6, 7], []), (64, [0, 2, 4], [2]), (65, [0, 1, 4, 5, 6, 14], [4, 5]), (66, [0, 1, 4], []), (67, [0, 1, 4], []), (68, [0, 2, 3], []), (69, [0, 1, 2, 3, 7], [1, 3]), (70, [0, 1, 2, 8, 25], [1]), (71, [0, 1, 2, 3, 4], [2, 3]), (72, [0, 1, 2, 3, 4, 5, 45, 46], [2, 3]), (73, [0, 2, 3, 4, 6, 7], [2, 3, 4]), (74, [0], []), (75, [0, 1, 4, 5, 6], []), (76, [0, 2], [2]), (77, [0, 2, 3], []), (78, [0, 2], [2]), (79, [0, 2, 3, 4], []), (80, [0, 2], [2]), (81, [0, 1, 4, 5, 6], []), (82, [0, 2], []), (83, [0, 1, 2], [1]), (84, [0, 2, 4, 5, 6, 7], [4]), (85, [0, 1, 4], []), (86, [0, 2, 3], [3]), (87, [0, 2, 3, 5, 23, 24, 25], []), (88, [0, 2, 3, 4], []), (89, [0, 2], []), (91, [0, 1, 4], []), (92, [0], []), (93, [0, 2, 3], [])]
noncomputable def gS : Ab.G := mkG Try.prog (fun f => if f == 90 then some .floatBits else if f == 94 then some .floatOf else none) (some (37, 34)) (fun f => [7,8,9,10,11,13,14,15,16,20,21,22,23,24,25,26,27,28,29,30,31,32,45,46,47,48,49,50,51,52,53,54,57,66,67,68,69,70,71,72,76,78,80,81,82,83,84,85,88,89,91,92].contains f) (fun _ => []) (lk tabS)

theorem funcs_ok : Try.prog.funcs.toList.all okFunc = true := by kernel_rfl
theorem mixed_ok : Try.prog.follows .mixedOrders = true := by kernel_rfl
set_option maxRecDepth 100000 in
theorem run_ok : RunOk Try.prog 37 34 1 4 20 115 60 Try.f37 Try.f60 where
  hf := Try.func37
  hb := by kernel_rfl
  hn := by kernel_rfl
  hr := by kernel_rfl
  hf1 := Try.func60
  hb1 := by kernel_rfl
  hn1 := by kernel_rfl
  hr1 := by kernel_rfl
  hname := by kernel_rfl
  ue := by kernel_rfl
  ze := ⟨_, rfl, rfl, rfl⟩
  uf := ⟨_, _, _, rfl⟩
  ua := by kernel_rfl
theorem gS_ok : GOk Try.prog gS ∧ DstOk gS := by
  refine mkG_ok funcs_ok mixed_ok (fun f hf b w => ?_) (fun f hf b v w hv => ?_) (fun f hf m w => ?_)
  · have : f = 90 := by
      by_cases h : f = 90
      · exact h
      · exfalso; revert hf
        show (if f == 90 then some .floatBits else if f == 94 then some .floatOf else none : Option Ext) = some .floatBits → False
        simp only [beq_iff_eq, h, if_false]
        repeat' split
        all_goals simp
    subst this
    have e : ∀ b w, (callFunc 90 #[.float .f64 b]).run Try.prog w = .ok (.value (.int .u64 b)) w := by intro b w; kernel_rfl
    exact e b w
  · exfalso; revert hf
    show (if f == 90 then some .floatBits else if f == 94 then some .floatOf else none : Option Ext) = some .trunc → False
    repeat' split
    all_goals simp
  · have : f = 94 := by
      by_cases h : f = 94
      · exact h
      · exfalso; revert hf
        show (if f == 90 then some .floatBits else if f == 94 then some .floatOf else none : Option Ext) = some .floatOf → False
        simp only [beq_iff_eq, h, if_false]
        repeat' split
        all_goals simp
    subst this
    have e : ∀ (m : Int) w, (callFunc 94 #[.int .u64 m]).run Try.prog w = .ok (.value (.float .f64 m.toNat)) w := by intro m w; kernel_rfl
    exact e m w
theorem gS_calls (n : Nat) : CallOk Try.prog (evalFn gS n) :=
  (evalFn_ok gS_ok.1 gS_ok.2 (fun r te h => by cases h; exact ⟨_, _, _, _, _, _, _, run_ok, by kernel_rfl⟩) n).1
end Go.Proofs.Ytlodbjbibkpkmaa
