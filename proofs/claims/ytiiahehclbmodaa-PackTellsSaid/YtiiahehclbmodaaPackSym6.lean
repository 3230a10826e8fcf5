/- The pack seat: the feed. -/
import Derived.Test.YtiiahehclbmodaaPackSym5
namespace Go.Proofs.Ytiiahehclbmodaa
open Go Go.Ab
set_option linter.unusedVariables false
set_option linter.unusedSimpArgs false
set_option linter.unnecessarySimpa false
/-- A state that holds a feed alone. -/
def fst (L : List Int) (k : Nat) : St := ⟨[[.slice (intVs L), .int .i64 k]], 0⟩
set_option maxRecDepth 40000 in
set_option maxHeartbeats 4000000 in
theorem next30 (m : Nat) (L : List Int) (k : Nat) (n : Int) (ha : k < 2 ^ 40) (h1 : 1 ≤ n) (h2 : n ≤ 1000) :
    ∃ r k' : Nat, (r : Int) < n ∧ k' ≤ k + 1 ∧ evalFn gS (m + 2) 30 [.ptr 0 0, .int .i64 n] (fst L k) = some (.ret (.int .i64 r) none, fst L k') := by
  have hm : fi30.marks = [] := rfl
  have hl : fi30.locals = [] := rfl
  obtain ⟨T1, s1⟩ : ∃ T, evalCode gS fi30 (evalFn gS (m + 1)) (m + 1) (codeAt (codeOf Try.f30) [false]) { ps := [(0, .val (.ptr 0 0)), (1, .val (.int .i64 n)), (4, .any), (5, .any)], ts := [], lc := [] } (fst L k) =
      some (.normal, { ps := [(0, .val (.ptr 0 0)), (1, .val (.int .i64 n)), (4, .val (.int .i64 0)), (5, .any)], ts := T, lc := [] }, fst L k) := by
    simp only [codeAt, codeOf, Try.f30, Option.getD_some, if_true, Bool.false_eq_true, if_false]
    simp [ty3, hm, hl, evalCode, evalOps, wantedE, stepM, marked, stepE, stepOp, startFr, Fr.clear, mapR_eq, take, upE, E.calm, Fr.putO, Fr.put_def, Fr.map_def, Fr.raw_def, Fr.get_def, Fr.lend, Fr.op, lk, ins, lset, E.inval, constV, constVs, V.toE, builtinStep, lenE, elemsOf, okV, okE, E.v?, V.strip, binV, E.int?, E.bool?, appendStep, appended, baseOf, resultsOut, resultE, byteVs_length, flats_bytes, V.strip1, V.one, sizes_bytes, sizesOk, consume, E.weak, unV, sliceStep, boundOf, clip, indexAddrStep, indexStep, addrAdd, loadAt, placeOf, loadCs, cellE, storeAt, splice, E.cells?, V.cells, E.noMem, E.noLoc, E.noLp, callStep, vsOf, retE, V.flat, flats, St.obj, St.set, boxCells, Fr.loc_def, Fr.setLoc_def, E.part?, buildCells, buildSliceV, fillV, chunk, elemV, convV, vsOf, minMax, eqV, strBin, floatBin]
  by_cases hL : L = []
  · subst hL
    obtain ⟨T2, s2⟩ : ∃ T, evalCode gS fi30 (evalFn gS (m + 1)) (m + 1) (codeAt (codeOf Try.f30) [true, false]) { ps := [(0, .val (.ptr 0 0)), (1, .val (.int .i64 n)), (4, .val (.int .i64 0)), (5, .any)], ts := T1, lc := [] } (fst [] k) =
        some (.ret, { ps := [(0, .val (.ptr 0 0)), (1, .val (.int .i64 n)), (4, .val (.int .i64 0)), (5, .any)], ts := T, lc := [] }, fst [] k) := by
      simp only [codeAt, codeOf, Try.f30, Option.getD_some, if_true, Bool.false_eq_true, if_false]
      simp [ty3, ty39', ty42, hm, hl, fst, intVs, ib_eql, evalCode, evalOps, wantedE, stepM, marked, stepE, stepOp, startFr, Fr.clear, mapR_eq, take, upE, E.calm, Fr.putO, Fr.put_def, Fr.map_def, Fr.raw_def, Fr.get_def, Fr.lend, Fr.op, lk, ins, lset, E.inval, constV, constVs, V.toE, builtinStep, lenE, elemsOf, okV, okE, E.v?, V.strip, binV, E.int?, E.bool?, appendStep, appended, baseOf, resultsOut, resultE, byteVs_length, flats_bytes, V.strip1, V.one, sizes_bytes, sizesOk, consume, E.weak, unV, sliceStep, boundOf, clip, indexAddrStep, indexStep, addrAdd, loadAt, placeOf, loadCs, cellE, storeAt, splice, E.cells?, V.cells, E.noMem, E.noLoc, E.noLp, callStep, vsOf, retE, V.flat, flats, St.obj, St.set, boxCells, Fr.loc_def, Fr.setLoc_def, E.part?, buildCells, buildSliceV, fillV, chunk, elemV, convV, vsOf, minMax, eqV, strBin, floatBin]
    refine ⟨0, k, by omega, by omega, ?_⟩
    rw [evalFn]; simp only [hrun, evalBody, fn30]
    rw [show fi30.body = codeOf Try.f30 from rfl, split30, start30]
    rw [seq_norm s1, seq_out s2]
    simp only [show fi30.results = [.tmp 4] from rfl]
    simp [evalCode, evalOps, wantedE, stepM, marked, stepE, stepOp, startFr, Fr.clear, mapR_eq, take, upE, E.calm, Fr.putO, Fr.put_def, Fr.map_def, Fr.raw_def, Fr.get_def, Fr.lend, Fr.op, lk, ins, lset, E.inval, constV, constVs, V.toE, builtinStep, lenE, elemsOf, okV, okE, E.v?, V.strip, binV, E.int?, E.bool?, appendStep, appended, baseOf, resultsOut, resultE, byteVs_length, flats_bytes, V.strip1, V.one, sizes_bytes, sizesOk, consume, E.weak, unV, sliceStep, boundOf, clip, indexAddrStep, indexStep, addrAdd, loadAt, placeOf, loadCs, cellE, storeAt, splice, E.cells?, V.cells, E.noMem, E.noLoc, E.noLp, callStep, vsOf, retE, V.flat, flats, St.obj, St.set, boxCells, Fr.loc_def, Fr.setLoc_def, E.part?, buildCells, buildSliceV, fillV, chunk, elemV, convV, vsOf, minMax, eqV, strBin, floatBin]
  · have h0 : 0 < L.length := List.length_pos_iff.2 hL
    have e0 : ((L.length : Int) == 0) = false := by rw [beq_eq_false_iff_ne]; omega
    obtain ⟨T2, s2⟩ : ∃ T, evalCode gS fi30 (evalFn gS (m + 1)) (m + 1) (codeAt (codeOf Try.f30) [true, false]) { ps := [(0, .val (.ptr 0 0)), (1, .val (.int .i64 n)), (4, .val (.int .i64 0)), (5, .any)], ts := T1, lc := [] } (fst L k) =
        some (.normal, { ps := [(0, .val (.ptr 0 0)), (1, .val (.int .i64 n)), (4, .val (.int .i64 0)), (5, .any)], ts := T, lc := [] }, fst L k) := by
      simp only [codeAt, codeOf, Try.f30, Option.getD_some, if_true, Bool.false_eq_true, if_false]
      simp [ty3, ty39', ty42, hm, hl, fst, intVs_length, hL, e0, ib_eql, evalCode, evalOps, wantedE, stepM, marked, stepE, stepOp, startFr, Fr.clear, mapR_eq, take, upE, E.calm, Fr.putO, Fr.put_def, Fr.map_def, Fr.raw_def, Fr.get_def, Fr.lend, Fr.op, lk, ins, lset, E.inval, constV, constVs, V.toE, builtinStep, lenE, elemsOf, okV, okE, E.v?, V.strip, binV, E.int?, E.bool?, appendStep, appended, baseOf, resultsOut, resultE, byteVs_length, flats_bytes, V.strip1, V.one, sizes_bytes, sizesOk, consume, E.weak, unV, sliceStep, boundOf, clip, indexAddrStep, indexStep, addrAdd, loadAt, placeOf, loadCs, cellE, storeAt, splice, E.cells?, V.cells, E.noMem, E.noLoc, E.noLp, callStep, vsOf, retE, V.flat, flats, St.obj, St.set, boxCells, Fr.loc_def, Fr.setLoc_def, E.part?, buildCells, buildSliceV, fillV, chunk, elemV, convV, vsOf, minMax, eqV, strBin, floatBin]
    obtain ⟨T3, kk, s3⟩ := draw30 (evalFn gS (m + 1)) (m + 1) L 0 k n (fst L k) T2 rfl h0 ha
    obtain ⟨r, hr, hp⟩ := pick m kk n h1 h2
    refine ⟨r, k + 1, hr, by omega, ?_⟩
    have e1 : IntKind.wrap .i64 ((k : Int) + 1) = (k : Int) + 1 := wrap64 (by omega) (by omega)
    rw [evalFn]; simp only [hrun, evalBody, fn30]
    rw [show fi30.body = codeOf Try.f30 from rfl, split30, start30]
    rw [seq_norm s1, seq_norm s2, seq_norm s3]
    simp only [codeAt, codeOf, Try.f30, Option.getD_some, if_true, Bool.false_eq_true, if_false, show fi30.results = [.tmp 4] from rfl]
    simp [gext, fn25, hp, mkFI, Try.f25, ty3, ty39', ty42, hm, hl, fst, intVs_length, hL, e0, e1, ib_add, evalCode, evalOps, wantedE, stepM, marked, stepE, stepOp, startFr, Fr.clear, mapR_eq, take, upE, E.calm, Fr.putO, Fr.put_def, Fr.map_def, Fr.raw_def, Fr.get_def, Fr.lend, Fr.op, lk, ins, lset, E.inval, constV, constVs, V.toE, builtinStep, lenE, elemsOf, okV, okE, E.v?, V.strip, binV, E.int?, E.bool?, appendStep, appended, baseOf, resultsOut, resultE, byteVs_length, flats_bytes, V.strip1, V.one, sizes_bytes, sizesOk, consume, E.weak, unV, sliceStep, boundOf, clip, indexAddrStep, indexStep, addrAdd, loadAt, placeOf, loadCs, cellE, storeAt, splice, E.cells?, V.cells, E.noMem, E.noLoc, E.noLp, callStep, vsOf, retE, V.flat, flats, St.obj, St.set, boxCells, Fr.loc_def, Fr.setLoc_def, E.part?, buildCells, buildSliceV, fillV, chunk, elemV, convV, vsOf, minMax, eqV, strBin, floatBin]
end Go.Proofs.Ytiiahehclbmodaa
