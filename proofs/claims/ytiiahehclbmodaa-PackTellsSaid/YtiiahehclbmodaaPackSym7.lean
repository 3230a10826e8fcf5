/- The pack seat: floats of the feed. -/
import Derived.Test.YtiiahehclbmodaaPackSym6
namespace Go.Proofs.Ytiiahehclbmodaa
open Go Go.Ab
set_option linter.unusedVariables false
set_option linter.unusedSimpArgs false
set_option linter.unnecessarySimpa false
noncomputable def fiOf (f : Nat) : FI := (gS.fn f).getD ⟨.skip, 0, [], [], [], false, []⟩
theorem fn54 : gS.fn 54 = some (fiOf 54) := by kernel_rfl
theorem p54 : (fiOf 54).pure = true := by kernel_rfl
theorem fn55 : gS.fn 55 = some (fiOf 55) := by kernel_rfl
theorem p55 : (fiOf 55).pure = true := by kernel_rfl
theorem fn56 : gS.fn 56 = some (fiOf 56) := by kernel_rfl
theorem p56 : (fiOf 56).pure = true := by kernel_rfl
theorem copysign (m : Nat) (st : St) : evalFn gS (m + 3) 54 [.float .f64 0, .float .f64 13830554455654793216] st = some (.ret (.float .f64 9223372036854775808) none, st) := by kernel_rfl
theorem nan55 (m : Nat) (st : St) : evalFn gS (m + 3) 55 [] st = some (.ret (.float .f64 9221120237041090561) none, st) := by kernel_rfl
theorem inf56 (m : Nat) (st : St) : evalFn gS (m + 3) 56 [.int .i64 1] st = some (.ret (.float .f64 9218868437227405312) none, st) := by kernel_rfl
theorem ninf56 (m : Nat) (st : St) : evalFn gS (m + 3) 56 [.int .i64 (-1)] st = some (.ret (.float .f64 18442240474082181120) none, st) := by kernel_rfl
theorem ty38' : gS.ty 38 = some { k := .float .f64, size := 1, agg := false, zero := [.float .f64 0] } := by kernel_rfl
theorem ty68 : gS.ty 68 = some { k := .array 14 1 false, size := 14, agg := true, zero := [.float .f64 0, .float .f64 0, .float .f64 0, .float .f64 0, .float .f64 0, .float .f64 0, .float .f64 0, .float .f64 0, .float .f64 0, .float .f64 0, .float .f64 0, .float .f64 0, .float .f64 0, .float .f64 0] } := by kernel_rfl
theorem ty45 : gS.ty 45 = some { k := .array 5 1 false, size := 5, agg := true, zero := [.int .i64 0, .int .i64 0, .int .i64 0, .int .i64 0, .int .i64 0] } := by kernel_rfl
noncomputable def fi31 : FI := { body := codeOf Try.f31, ntmps := 13, results := [.tmp 2], pers := [0, 2, 3], locals := [3], pure := false, marks := [] }
theorem fn31 : gS.fn 31 = some fi31 := by kernel_rfl
theorem start31 (a : V) : startFr fi31 [a] = { ps := [(0, .val a), (2, .any), (3, .any)], ts := [], lc := [] } := rfl
theorem split31 : codeOf Try.f31 = .seq (codeAt (codeOf Try.f31) [false]) (.seq (codeAt (codeOf Try.f31) [true, false]) (codeAt (codeOf Try.f31) [true, true])) := by kernel_rfl
def fls : List V := [.float .f64 0, .float .f64 9223372036854775808, .float .f64 4607182418800017408, .float .f64 4609434218613702656, .float .f64 4611686018427387904, .float .f64 4613937818241073152, .float .f64 13830554455654793216, .float .f64 4591870180066957722, .float .f64 9221120237041090561, .float .f64 9218868437227405312, .float .f64 18442240474082181120, .float .f64 4845873199050653696, .float .f64 4890909195324358656, .float .f64 1]
theorem fls_get (r : Nat) (h : r < 14) : ∃ b, fls[r]? = some (.float .f64 b) := by
  have : r = 0 ∨ r = 1 ∨ r = 2 ∨ r = 3 ∨ r = 4 ∨ r = 5 ∨ r = 6 ∨ r = 7 ∨ r = 8 ∨ r = 9 ∨ r = 10 ∨ r = 11 ∨ r = 12 ∨ r = 13 := by omega
  rcases this with h | h | h | h | h | h | h | h | h | h | h | h | h | h <;> subst h <;> exact ⟨_, rfl⟩
set_option maxRecDepth 40000 in
set_option maxHeartbeats 4000000 in
theorem float31 (m : Nat) (L : List Int) (k : Nat) (ha : k < 2 ^ 40) :
    ∃ b k' : Nat, k' ≤ k + 1 ∧ evalFn gS (m + 4) 31 [.ptr 0 0] (fst L k) = some (.ret (.float .f64 b) none, fst L k') := by
  have hm : fi31.marks = [] := rfl
  have hl : fi31.locals = [3] := rfl
  obtain ⟨r, k', hr, hk, hn⟩ := next30 (m + 1) L k 14 ha (by decide) (by decide)
  obtain ⟨b, hb⟩ := fls_get r (by omega)
  have hb' : fls[r]?.getD .any = .float .f64 b := by rw [hb]; rfl
  refine ⟨b, k', hk, ?_⟩
  obtain ⟨T1, s1⟩ : ∃ T, evalCode gS fi31 (evalFn gS (m + 3)) (m + 3) (codeAt (codeOf Try.f31) [false]) { ps := [(0, .val (.ptr 0 0)), (2, .any), (3, .any)], ts := [], lc := [] } (fst L k) =
      some (.normal, { ps := [(0, .val (.ptr 0 0)), (2, .val (.float .f64 0)), (3, .any)], ts := T, lc := [] }, fst L k) := by
    simp only [codeAt, codeOf, Try.f31, Option.getD_some, if_true, Bool.false_eq_true, if_false]
    simp [ty38', hm, hl, evalCode, evalOps, wantedE, stepM, marked, stepE, stepOp, startFr, Fr.clear, mapR_eq, take, upE, E.calm, Fr.putO, Fr.put_def, Fr.map_def, Fr.raw_def, Fr.get_def, Fr.lend, Fr.op, lk, ins, lset, E.inval, constV, constVs, V.toE, builtinStep, lenE, elemsOf, okV, okE, E.v?, V.strip, binV, E.int?, E.bool?, appendStep, appended, baseOf, resultsOut, resultE, byteVs_length, flats_bytes, V.strip1, V.one, sizes_bytes, sizesOk, consume, E.weak, unV, sliceStep, boundOf, clip, indexAddrStep, indexStep, addrAdd, loadAt, placeOf, loadCs, cellE, storeAt, splice, E.cells?, V.cells, E.noMem, E.noLoc, E.noLp, callStep, vsOf, retE, V.flat, flats, St.obj, St.set, boxCells, Fr.loc_def, Fr.setLoc_def, E.part?, buildCells, buildSliceV, fillV, chunk, elemV, convV, vsOf, minMax, eqV, strBin, floatBin]
  obtain ⟨T2, s2⟩ : ∃ T, evalCode gS fi31 (evalFn gS (m + 3)) (m + 3) (codeAt (codeOf Try.f31) [true, false]) { ps := [(0, .val (.ptr 0 0)), (2, .val (.float .f64 0)), (3, .any)], ts := T1, lc := [] } (fst L k) =
      some (.normal, { ps := [(0, .val (.ptr 0 0)), (2, .val (.float .f64 0)), (3, .lp 3 0)], ts := T, lc := [(3, fls)] }, fst L k) := by
    simp only [codeAt, codeOf, Try.f31, Option.getD_some, if_true, Bool.false_eq_true, if_false]
    simp [gext, fn54, fn55, fn56, copysign, nan55, inf56, ninf56, p54, p55, p56, ty38', ty68, hm, hl, fls, evalCode, evalOps, wantedE, stepM, marked, stepE, stepOp, startFr, Fr.clear, mapR_eq, take, upE, E.calm, Fr.putO, Fr.put_def, Fr.map_def, Fr.raw_def, Fr.get_def, Fr.lend, Fr.op, lk, ins, lset, E.inval, constV, constVs, V.toE, builtinStep, lenE, elemsOf, okV, okE, E.v?, V.strip, binV, E.int?, E.bool?, appendStep, appended, baseOf, resultsOut, resultE, byteVs_length, flats_bytes, V.strip1, V.one, sizes_bytes, sizesOk, consume, E.weak, unV, sliceStep, boundOf, clip, indexAddrStep, indexStep, addrAdd, loadAt, placeOf, loadCs, cellE, storeAt, splice, E.cells?, V.cells, E.noMem, E.noLoc, E.noLp, callStep, vsOf, retE, V.flat, flats, St.obj, St.set, boxCells, Fr.loc_def, Fr.setLoc_def, E.part?, buildCells, buildSliceV, fillV, chunk, elemV, convV, vsOf, minMax, eqV, strBin, floatBin]
  obtain ⟨T3, s3⟩ : ∃ T, evalCode gS fi31 (evalFn gS (m + 3)) (m + 3) (codeAt (codeOf Try.f31) [true, true]) { ps := [(0, .val (.ptr 0 0)), (2, .val (.float .f64 0)), (3, .lp 3 0)], ts := T2, lc := [(3, fls)] } (fst L k) =
      some (.ret, { ps := [(0, .val (.ptr 0 0)), (2, .val (.float .f64 b)), (3, .lp 3 0)], ts := T, lc := [(3, fls)] }, fst L k') := by
    simp only [codeAt, codeOf, Try.f31, Option.getD_some, if_true, Bool.false_eq_true, if_false]
    have e1 : (r : Int) < 14 := hr
    simp [gext, fn30, show fi30.pure = false from rfl, hn, ty38', ty68, ty3, hm, hl, hb, e1, evalCode, evalOps, wantedE, stepM, marked, stepE, stepOp, startFr, Fr.clear, mapR_eq, take, upE, E.calm, Fr.putO, Fr.put_def, Fr.map_def, Fr.raw_def, Fr.get_def, Fr.lend, Fr.op, lk, ins, lset, E.inval, constV, constVs, V.toE, builtinStep, lenE, elemsOf, okV, okE, E.v?, V.strip, binV, E.int?, E.bool?, appendStep, appended, baseOf, resultsOut, resultE, byteVs_length, flats_bytes, V.strip1, V.one, sizes_bytes, sizesOk, consume, E.weak, unV, sliceStep, boundOf, clip, indexAddrStep, indexStep, addrAdd, loadAt, placeOf, loadCs, cellE, storeAt, splice, E.cells?, V.cells, E.noMem, E.noLoc, E.noLp, callStep, vsOf, retE, V.flat, flats, St.obj, St.set, boxCells, Fr.loc_def, Fr.setLoc_def, E.part?, buildCells, buildSliceV, fillV, chunk, elemV, convV, vsOf, minMax, eqV, strBin, floatBin]
  rw [evalFn]; simp only [hrun, evalBody, fn31]
  rw [show fi31.body = codeOf Try.f31 from rfl, split31, start31, seq_norm s1, seq_norm s2, s3]
  simp only [show fi31.results = [.tmp 2] from rfl]
  simp [evalCode, evalOps, wantedE, stepM, marked, stepE, stepOp, startFr, Fr.clear, mapR_eq, take, upE, E.calm, Fr.putO, Fr.put_def, Fr.map_def, Fr.raw_def, Fr.get_def, Fr.lend, Fr.op, lk, ins, lset, E.inval, constV, constVs, V.toE, builtinStep, lenE, elemsOf, okV, okE, E.v?, V.strip, binV, E.int?, E.bool?, appendStep, appended, baseOf, resultsOut, resultE, byteVs_length, flats_bytes, V.strip1, V.one, sizes_bytes, sizesOk, consume, E.weak, unV, sliceStep, boundOf, clip, indexAddrStep, indexStep, addrAdd, loadAt, placeOf, loadCs, cellE, storeAt, splice, E.cells?, V.cells, E.noMem, E.noLoc, E.noLp, callStep, vsOf, retE, V.flat, flats, St.obj, St.set, boxCells, Fr.loc_def, Fr.setLoc_def, E.part?, buildCells, buildSliceV, fillV, chunk, elemV, convV, vsOf, minMax, eqV, strBin, floatBin]
end Go.Proofs.Ytiiahehclbmodaa
