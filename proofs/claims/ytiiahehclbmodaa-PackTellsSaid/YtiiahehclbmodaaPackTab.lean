/- The seat's tables. -/
import Derived.Test.YtiiahehclbmodaaAbD
import Derived.Test.YtiiahehclbmodaaChecked
import Derived.Test.YtiiahehclbmodaaRows
namespace Go.Proofs.Ytiiahehclbmodaa
open Go Go.Ab Go.ChangeShapes Go.WideShapes Go.ChangeAt Go.RowKit
set_option linter.unusedVariables false
set_option linter.unusedSimpArgs false
set_option linter.unnecessarySimpa false

theorem Try.own : ownKnob Try.prog.godebug = none := by kernel_rfl
theorem Try.laidOut : laidOutB Try.prog = true := by kernel_rfl

def tabS : List (Nat × List Nat × List Nat) := [(2, [], []), (3, [0, 1, 2, 3, 4, 5, 6, 7, 8, 9, 10], []), (4, [0, 1, 2, 3, 8, 9, 10, 11, 12, 13, 14], []), (5, [0, 1, 2, 3, 4, 5, 12, 13, 14, 15, 16], []), (6, [0, 1, 2, 4, 6, 7, 8, 9, 10, 11, 12, 13, 14, 15, 16, 17, 18, 19, 20, 45, 109], []), (7, [0, 1, 2, 3, 4, 5, 6, 7, 8, 10, 11, 12, 13, 14], []), (8, [0, 1, 3, 4, 5, 6], []), (9, [0, 1], []), (10, [0, 2, 3, 4], []), (11, [0, 1], []), (12, [0, 1], []), (13, [0], []), (14, [0, 1], []), (15, [0, 2], []), (16, [0, 1], []), (17, [0, 1, 4, 5, 6], []), (18, [0, 1], []), (19, [0, 1, 4, 5], []), (20, [0, 1, 4], []), (21, [0, 1, 4], []), (22, [0, 1, 4], []), (23, [0], []), (24, [0, 2, 3], []), (25, [0, 1, 4, 5], []), (26, [0, 1, 4], []), (27, [0], []), (28, [0], []), (29, [0], []), (30, [0, 1, 4, 5], []), (31, [0, 2, 3], [3]), (32, [0, 1, 4, 5], []), (33, [0, 1, 4], []), (34, [0, 1, 4], []), (35, [0, 1, 4], []), (36, [0, 1, 4], []), (37, [0, 1, 2, 4, 5, 6, 7, 8, 9, 30], []), (38, [0, 2, 3, 4], []), (40, [0, 2], []), (41, [0, 2, 3, 4, 5], []), (42, [0, 2], []), (43, [0, 2, 3, 4, 5], []), (44, [0, 1, 4, 5, 6, 7], []), (45, [0, 1, 2, 3, 4, 5, 6, 8, 9, 10, 11, 12], []), (46, [0, 2], []), (47, [0, 2], []), (48, [0, 1], []), (49, [0, 1, 4, 5, 6, 7, 8], []), (50, [0], []), (51, [0, 1, 4], []), (52, [0, 1, 4, 5, 6], []), (53, [0, 2, 3, 5, 23, 24, 25], []), (54, [0, 1, 4], []), (55, [0], []), (56, [0, 2, 3], []), (57, [0, 1, 4, 5, 6], []), (58, [0, 2], []), (59, [0, 2], []), (60, [0, 2, 3, 4], []), (61, [0, 2, 3, 4], []), (62, [0, 2, 3, 4], []), (63, [0, 1, 2, 3], []), (65, [0, 2], [])]
noncomputable def gS : Ab.G := mkG Try.prog (fun f => if f == 39 then some .floatBits else if f == 64 then some .floatOf else none) (some (47, 22)) (fun f => [19,20,21,22,25,26,29,32,33,34,35,36,46,51,52,54,55,56,57,58,59,60,62].contains f) (fun _ => []) (lk tabS)

theorem funcs_ok : Try.prog.funcs.toList.all okFunc = true := by kernel_rfl
theorem mixed_ok : Try.prog.follows .mixedOrders = true := by kernel_rfl
set_option maxRecDepth 100000 in
theorem run_ok : RunOk Try.prog 47 22 1 4 20 71 63 Try.f47 Try.f63 where
  hf := Try.func47
  hb := by kernel_rfl
  hn := by kernel_rfl
  hr := by kernel_rfl
  hf1 := Try.func63
  hb1 := by kernel_rfl
  hn1 := by kernel_rfl
  hr1 := by kernel_rfl
  hname := by kernel_rfl
  ue := by kernel_rfl
  ze := ⟨_, rfl, rfl, rfl⟩
  uf := ⟨_, _, _, rfl⟩
  ua := by kernel_rfl
theorem gS_ok : GOk Try.prog gS ∧ DstOk gS := by
  refine mkG_ok funcs_ok mixed_ok (fun f hf b w => ?_) (fun f hf b v w hv => ?_) (fun f hf m w => ?_)
  · have : f = 39 := by
      by_cases h : f = 39
      · exact h
      · exfalso; revert hf
        show (if f == 39 then some .floatBits else if f == 64 then some .floatOf else none : Option Ext) = some .floatBits → False
        simp only [beq_iff_eq, h, if_false]
        repeat' split
        all_goals simp
    subst this
    have e : ∀ b w, (callFunc 39 #[.float .f64 b]).run Try.prog w = .ok (.value (.int .u64 b)) w := by intro b w; kernel_rfl
    exact e b w
  · exfalso; revert hf
    show (if f == 39 then some .floatBits else if f == 64 then some .floatOf else none : Option Ext) = some .trunc → False
    repeat' split
    all_goals simp
  · have : f = 64 := by
      by_cases h : f = 64
      · exact h
      · exfalso; revert hf
        show (if f == 39 then some .floatBits else if f == 64 then some .floatOf else none : Option Ext) = some .floatOf → False
        simp only [beq_iff_eq, h, if_false]
        repeat' split
        all_goals simp
    subst this
    have e : ∀ (m : Int) w, (callFunc 64 #[.int .u64 m]).run Try.prog w = .ok (.value (.float .f64 m.toNat)) w := by intro m w; kernel_rfl
    exact e m w
theorem gS_calls (n : Nat) : CallOk Try.prog (evalFn gS n) :=
  (evalFn_ok gS_ok.1 gS_ok.2 (fun r te h => by cases h; exact ⟨_, _, _, _, _, _, _, run_ok, by kernel_rfl⟩) n).1
end Go.Proofs.Ytiiahehclbmodaa
