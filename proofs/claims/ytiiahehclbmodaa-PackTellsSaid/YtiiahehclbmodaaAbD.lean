/- From the interpreter to the law: tables of a program, and what a call leaves. -/
import Derived.Test.YtiiahehclbmodaaAbO
import Derived.Test.YtiiahehclbmodaaAbT
import Derived.ProofKit
import Derived.SizedLaws
namespace Go.Ab
open Go Go.ChangeShapes Go.WideShapes Go.ChangeAt Go.RowKit
set_option linter.unusedVariables false
set_option linter.unusedSimpArgs false
set_option linter.unnecessarySimpa false

/-- The tables of a program. -/
noncomputable def mkG (P : Program) (ext : Nat → Option Ext) (run : Option (Nat × Nat)) (pure : Nat → Bool) (marks : Nat → List Nat) (tab : Nat → Option (List Nat × List Nat)) : G where
  ty := mkTI P.toTables
  fn := fun f => match P.funcs[f]? with
    | some fn => mkFI fn (pure f) (marks f) (tab f)
    | none => none
  ext := ext
  run := run
  eqs := mkEq P
  u8 := mkU8 P.toTables
  con := P.concrete

def okFunc (fn : Func) : Bool :=
  !(fn.name == "runtime.NumGoroutine") && match fn.body with
    | some c => dstOk fn.ntmps c
    | none => true

theorem mkG_ok {P : Program} {ext : Nat → Option Ext} {run : Option (Nat × Nat)} {pure : Nat → Bool} {marks : Nat → List Nat} {tab : Nat → Option (List Nat × List Nat)} (h : P.funcs.toList.all okFunc = true) (hm : P.follows .mixedOrders = true)
    (hb : ∀ f, ext f = some .floatBits → ∀ b w, (callFunc f #[.float .f64 b]).run P w = .ok (.value (.int .u64 b)) w)
    (htr : ∀ f, ext f = some .trunc → ∀ b v w, truncV b = some v → (callFunc f #[.float .f64 b]).run P w = .ok (.value (.float .f64 v)) w)
    (ho : ∀ f, ext f = some .floatOf → ∀ m w, (callFunc f #[.int .u64 m]).run P w = .ok (.value (.float .f64 m.toNat)) w) : GOk P (mkG P ext run pure marks tab) ∧ DstOk (mkG P ext run pure marks tab) := by
  have key : ∀ f fi, (mkG P ext run pure marks tab).fn f = some fi → ∃ fn, P.funcs[f]? = some fn ∧ fn.body = some fi.body ∧ fn.ntmps = fi.ntmps ∧ fn.results.toList = fi.results ∧ (fn.name == "runtime.NumGoroutine") = false ∧ dstOk fi.ntmps fi.body = true := by
    intro f fi hf
    simp only [mkG] at hf
    split at hf
    · rename_i fn hfn
      have hmem : fn ∈ P.funcs.toList := by
        have := Array.mem_of_getElem? hfn; simpa using this
      have hok := List.all_eq_true.1 h fn hmem
      unfold mkFI at hf
      split at hf
      · rename_i c hc
        simp only [okFunc, hc, Bool.and_eq_true, Bool.not_eq_true'] at hok
        split at hf
        · cases hf; exact ⟨fn, hfn, hc, rfl, rfl, hok.1, hok.2⟩
        · cases hf; exact ⟨fn, hfn, hc, rfl, rfl, hok.1, hok.2⟩
      · cases hf
    · cases hf
  refine ⟨{ ty := { ti := fun t ti h => mkTI_ok h, eq := fun t ks h => h, con := fun t h => h, u8 := fun t h => mkU8_ok h }, fn := fun f fi hf => ?_, bits := hb, ofBits := ho, trunc := htr, mixed := hm }, fun f fi hf => ?_⟩
  · obtain ⟨fn, h1, h2, h3, h4, h5, _⟩ := key f fi hf
    exact ⟨fn, h1, h2, h3, h4, h5⟩
  · obtain ⟨fn, _, _, _, _, _, h6⟩ := key f fi hf
    exact h6

theorem trunc_run {P : Program} {f : Nat} (h : ∀ u w, (callFunc f #[u]).run P w = (do pure (Next.value (← Extern.MathFloor.toIntegral "math.archTrunc" .zero #[u])) : Sem Next).run P w) (b v : Nat) (w : World) (hv : truncV b = some v) :
    (callFunc f #[.float .f64 b]).run P w = .ok (.value (.float .f64 v)) w := by
  rw [h]
  have e : Extern.MathFloor.toIntegral "math.archTrunc" .zero #[.float .f64 b] = (match FloatKind.f64.decode b with
    | .nan s t =>
      if FloatKind.f64.format.quiet t = t then pure (.float .f64 b) else do
      let kept ← choose (.extern "math.Floor,Ceil,Trunc,RoundToEven.signallingNaN kept" 2)
      pure (.float .f64 (if kept == 1 then b else FloatKind.f64.encode (.nan s (FloatKind.f64.format.quiet t))))
    | d => pure (.float .f64 (FloatKind.f64.encode (d.integral .zero)))) := rfl
  rw [e]
  unfold truncV at hv
  cases hd : FloatKind.f64.decode b with
  | nan s t =>
    rw [hd] at hv
    simp only at hv ⊢
    split at hv
    · rename_i hq
      cases hv
      simp [hq]
    · cases hv
  | _ =>
    rw [hd] at hv
    simp only [Option.some.injEq] at hv ⊢
    subst hv
    simp

/-- No owner, no object. -/
def K0 : K := { own := fun _ _ => none, blk := fun _ => none }

/-- A call that the interpreter answers with true: it returns true, and what was there is as it was. -/
theorem law_calls {P : Program} {g : G} {n f : Nat} {xs : List V} (ok : CallOk P (evalFn g n)) (h : (match evalFn g n f xs ⟨[], 0⟩ with | some (.ret (.bool true) none, _) => true | _ => false) = true) {args : Array Value} {W : World} (hr : Reps K0 W args.toList xs) :
    Calls P f args W fun e W' => e = .returned (.bool true) ∧ Below W.heap.size W W' := by
  split at h
  · rename_i st' he
    have hs : Sim K0 W ⟨[], 0⟩ := ⟨Nat.le_refl _, fun b j L h => by simp [K0] at h, fun _ _ => rfl, fun id cs h => by simp [St.obj] at h, fun id cs b h => by simp [St.obj] at h⟩
    refine (ok f xs ⟨[], 0⟩ _ _ he 0 K0 W args hs hr).mono ?_
    rintro e W' ⟨κ', ⟨u, rfl, hu⟩, _, p, _⟩
    refine ⟨by rw [Rep.bool_inv hu], p.os, p.tape, p.out, p.size, fun k hk => (p.free k hk (fun _ => rfl)).1⟩
  · cases h
end Go.Ab
