/- The pack seat: the program's tables. -/
import Derived.Test.YtiiahehclbmodaaAbD
import Derived.Test.YtiiahehclbmodaaChecked
import Derived.Test.YtiiahehclbmodaaRows
namespace Go.Proofs.Ytiiahehclbmodaa
open Go Go.Ab Go.ChangeShapes Go.WideShapes Go.ChangeAt Go.RowKit
set_option linter.unusedVariables false
set_option linter.unusedSimpArgs false
set_option linter.unnecessarySimpa false

theorem Try.own : ownKnob Try.prog.godebug = none := by kernel_rfl
theorem Try.laidOut : laidOutB Try.prog = true := by kernel_rfl

noncomputable def gS : Ab.G := mkG Try.prog (fun f => if f == 39 then some .floatBits else if f == 64 then some .floatOf else none) (some (47, 22)) (fun _ => false)

theorem funcs_ok : Try.prog.funcs.toList.all okFunc = true := by kernel_rfl
theorem mixed_ok : Try.prog.follows .mixedOrders = true := by kernel_rfl
theorem run_ok : RunOk Try.prog 47 22 1 4 20 71 63 Try.f47 Try.f63 where
  hf := Try.func47
  hb := by kernel_rfl
  hn := by kernel_rfl
  hr := by kernel_rfl
  hf1 := Try.func63
  hb1 := by kernel_rfl
  hn1 := by kernel_rfl
  hr1 := by kernel_rfl
  hname := by kernel_rfl
  ue := by kernel_rfl
  ze := ⟨_, rfl, rfl, rfl⟩
  uf := ⟨_, _, _, rfl⟩
  ua := by kernel_rfl
theorem gS_ok : GOk Try.prog gS ∧ DstOk gS := by
  refine mkG_ok funcs_ok mixed_ok (fun f hf b w => ?_) (fun f hf m w => ?_)
  · have : f = 39 := by
      by_cases h : f = 39
      · exact h
      · simp only [beq_iff_eq, h, if_false] at hf; split at hf <;> cases hf
    subst this
    have e : ∀ b w, (callFunc 39 #[.float .f64 b]).run Try.prog w = .ok (.value (.int .u64 b)) w := by intro b w; kernel_rfl
    exact e b w
  · have : f = 64 := by
      by_cases h : f = 64
      · exact h
      · simp only [beq_iff_eq, h, if_false] at hf; split at hf <;> cases hf
    subst this
    have e : ∀ (m : Int) w, (callFunc 64 #[.int .u64 m]).run Try.prog w = .ok (.value (.float .f64 m.toNat)) w := by intro m w; kernel_rfl
    exact e m w
theorem gS_calls (n : Nat) : CallOk Try.prog (evalFn gS n) :=
  (evalFn_ok gS_ok.1 gS_ok.2 (fun r te h => by cases h; exact ⟨_, _, _, _, _, _, _, run_ok, by kernel_rfl⟩) n).1
end Go.Proofs.Ytiiahehclbmodaa
