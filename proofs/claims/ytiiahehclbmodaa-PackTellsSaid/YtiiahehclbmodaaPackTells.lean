/- PackTells: whatever it is given, the call returns true and leaves what was there as it was. -/
import Derived.Test.YtiiahehclbmodaaPackSym12
import Derived.Test.YtiiahehclbmodaaAbArg
namespace Go.Proofs.Ytiiahehclbmodaa
open Go Go.Ab Go.ChangeShapes Go.WideShapes Go.ChangeAt Go.RowKit
set_option linter.unusedVariables false
set_option linter.unusedSimpArgs false
set_option linter.unnecessarySimpa false
set_option maxRecDepth 100000 in
theorem tells_lifted (os : Os) (started : os.Started) (H : Type) (enc : TypeId × Value → H) :
    ReturnsInHanded {} Try.checked os 5 .any (Rows.packTellsSpec.pre6 enc Try.prog Try.f5 Rows.packTellsRow.domain false) (Rows.packTellsSpec.post enc Try.prog Try.f5 false true false false) := by
  refine returnsInHanded_of_change_sized (C := Try.checked) Try.own started (by kernel_rfl) Try.func5
    (ChangeSpec.witness6 (enc := enc) (C := Try.checked) false ⟨#[], #[.slice none 0 0, .int .i64 0, .int .i64 0, .float .f64 0, .string ⟨#[]⟩, .slice none 0 0], []⟩ 8 (by kernel_rfl) (by kernel_rfl) (by kernel_rfl) (by kernel_rfl)) ?_
  intro W base args ds gs before hval0 hW _ hsz0 _
  have hW' := hW
  obtain ⟨p, q, hA0, hV, rfl, _, _⟩ := hW
  have hA : DataW.TrodAll enc Try.prog W 0 (fun _ => true) true Try.f5.params.toList args.toList ds p := hA0
  have hpar : Try.f5.params = #[24, 3, 2, 38, 9, 39] := by kernel_rfl
  have hval : ∀ (j : Nat) t v, Try.f5.params[j]? = some t → args[j]? = some v → Value.okWide Try.prog W .any base t v := hval0
  rw [hpar] at hA hval
  obtain ⟨l⟩ := args
  obtain ⟨v0, l, d0, ds, p0, r0, rfl, rfl, rfl, h0, hA⟩ := trodAll_cons hA
  obtain ⟨v1, l, d1, ds, p1, r1, rfl, rfl, rfl, h1, hA⟩ := trodAll_cons hA
  obtain ⟨v2, l, d2, ds, p2, r2, rfl, rfl, rfl, h2, hA⟩ := trodAll_cons hA
  obtain ⟨v3, l, d3, ds, p3, r3, rfl, rfl, rfl, h3, hA⟩ := trodAll_cons hA
  obtain ⟨v4, l, d4, ds, p4, r4, rfl, rfl, rfl, h4, hA⟩ := trodAll_cons hA
  obtain ⟨v5, l, d5, ds, p5, r5, rfl, rfl, rfl, h5, hA⟩ := trodAll_cons hA
  obtain ⟨rfl, rfl, rfl⟩ := trodAll_nil hA
  obtain ⟨rfl, rfl⟩ := trodVars_none hV
  obtain ⟨b, a0⟩ := arg_bytes Try.underlying24 Try.underlying5 (by kernel_rfl) (hval 0 24 v0 rfl rfl) h0
  obtain ⟨n, a1⟩ := arg_int Try.underlying3 (hval 1 3 v1 rfl rfl)
  obtain ⟨i, a2⟩ := arg_int Try.underlying2 (hval 2 2 v2 rfl rfl)
  obtain ⟨x, a3⟩ := arg_float Try.underlying38 (hval 3 38 v3 rfl rfl)
  obtain ⟨s, a4⟩ := arg_str Try.underlying9 (hval 4 9 v4 rfl rfl)
  obtain ⟨L, a5, _⟩ := arg_ints Try.underlying39 Try.underlying3 (by kernel_rfl) (hval 5 39 v5 rfl rfl) h5
  have hlt : ∀ y ∈ p0 ++ (p1 ++ (p2 ++ (p3 ++ (p4 ++ (p5 ++ []))))) ++ [], y.block < W.heap.size := fun y hy => hW'.lt y hy
  have hr : Reps K0 W [v0, v1, v2, v3, v4, v5] [.slice (byteVs b), .int .i64 n, .int .i64 i, .float .f64 x, .str s, .slice (intVs L)] := .cons a0 (.cons a1 (.cons a2 (.cons a3 (.cons a4 (.cons a5 .nil)))))
  obtain ⟨st', hrun⟩ := tells b s n i x L
  refine (law_calls (n := 62) (f := 5) (xs := [.slice (byteVs b), .int .i64 n, .int .i64 i, .float .f64 x, .str s, .slice (intVs L)]) (gS_calls 62) (by rw [hrun]) (W := W) (args := #[v0, v1, v2, v3, v4, v5]) hr).mono ?_
  rintro e W' ⟨rfl, hn⟩
  refine ⟨_, rfl, _, _, _, [], p0 ++ (p1 ++ (p2 ++ (p3 ++ (p4 ++ (p5 ++ []))))), [], hW', ?_, ?_, rfl, hn.frame _, fun h => by cases h⟩
  · exact trodAll_mk1 (shut_bool Try.underlying4 true)
  · exact ⟨p0, _, Below.trod Try.laidOut (by kernel_rfl) (of_decide_eq_true (by kernel_rfl)) h0 hn (fun y hy => hlt y (by simp [hy])),
      ⟨p1, _, Below.trod Try.laidOut (by kernel_rfl) (of_decide_eq_true (by kernel_rfl)) h1 hn (fun y hy => hlt y (by simp [hy])),
      ⟨p2, _, Below.trod Try.laidOut (by kernel_rfl) (of_decide_eq_true (by kernel_rfl)) h2 hn (fun y hy => hlt y (by simp [hy])),
      ⟨p3, _, Below.trod Try.laidOut (by kernel_rfl) (of_decide_eq_true (by kernel_rfl)) h3 hn (fun y hy => hlt y (by simp [hy])),
      ⟨p4, _, Below.trod Try.laidOut (by kernel_rfl) (of_decide_eq_true (by kernel_rfl)) h4 hn (fun y hy => hlt y (by simp [hy])),
      ⟨p5, _, Below.trod Try.laidOut (by kernel_rfl) (of_decide_eq_true (by kernel_rfl)) h5 hn (fun y hy => hlt y (by simp [hy])), rfl, rfl⟩, rfl⟩, rfl⟩, rfl⟩, rfl⟩, rfl⟩

theorem packTells_holds : Rows.PackTellsSaid :=
  OpenClaim.holds_of_wide 5 Try.f5 rfl rfl rfl rfl rfl rfl rfl ⟨rfl, rfl, rfl, rfl, rfl⟩ rfl rfl rfl rfl rfl (by kernel_rfl) Try.func5 (by kernel_rfl)
    (of_decide_eq_true (by kernel_rfl)) (by unfold Func.isWrapper; first | (rw [if_pos (by decide +kernel)]; kernel_rfl) | (rw [if_neg (by decide +kernel)]; exact ⟨rfl, rfl⟩))
    (fun os started H enc _ => tells_lifted os started H enc)
#print axioms packTells_holds
end Go.Proofs.Ytiiahehclbmodaa
