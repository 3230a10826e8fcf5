/- The pack seat: numbers that are none, texts. -/
import Derived.Test.YtiiahehclbmodaaPackSym3
namespace Go.Proofs.Ytiiahehclbmodaa
open Go Go.Ab
set_option linter.unusedVariables false
set_option linter.unusedSimpArgs false
set_option linter.unnecessarySimpa false
set_option maxRecDepth 20000 in
theorem bad19 (m : Nat) (n : Int) (bs : List UInt8) (h0 : n < 0 ∨ 4611686018427387904 < n) (h1 : bs.length + 9 ≤ 2 ^ 47) (st : St) :
    evalFn gS (m + 12) 19 [.slice (byteVs bs), .int .i64 n] st = some (.ret (.slice (byteVs bs)) (some 1), st) := by
  have hm : fi19.marks = [] := rfl
  have hl : fi19.locals = [] := rfl
  rw [evalFn]; simp only [hrun, evalBody, fn19']
  rw [show fi19.body = codeOf Try.f19 from rfl, split19, start19]
  obtain ⟨T1, s1⟩ := head19 m n bs h1 st (.seq (codeAt (codeOf Try.f19) [true, true, false]) (.seq (.block 0 (.loop (codeAt (codeOf Try.f19) [true, true, true, false, true, true]))) (codeAt (codeOf Try.f19) [true, true, true, true])))
  obtain ⟨T2, s2⟩ : ∃ T, evalCode gS fi19 (evalFn gS (m + 11)) (m + 11) (codeAt (codeOf Try.f19) [true, true, false]) { ps := [(0, .val (.slice (byteVs bs))), (1, .val (.int .i64 n)), (4, .own 0 []), (5, .own 1 (byteVs bs))], ts := T1, lc := [] } st =
      some (.ret, { ps := [(0, .val (.slice (byteVs bs))), (1, .val (.int .i64 n)), (4, .own 1 (byteVs bs)), (5, .val (.slice (byteVs bs)))], ts := T, lc := [] }, st) := by
    simp only [codeAt, codeOf, Try.f19, Option.getD_some, if_true, Bool.false_eq_true, if_false]
    by_cases e1 : n < 0
    · simp [ty24, ty3, hm, hl, ib_lss, ib_gtr, e1, evalCode, evalOps, wantedE, stepM, marked, stepE, stepOp, startFr, Fr.clear, mapR_eq, take, upE, E.calm, Fr.putO, Fr.put_def, Fr.map_def, Fr.raw_def, Fr.get_def, Fr.lend, Fr.op, lk, ins, lset, E.inval, constV, constVs, V.toE, builtinStep, lenE, elemsOf, okV, okE, E.v?, V.strip, binV, E.int?, E.bool?, appendStep, appended, baseOf, resultsOut, resultE, byteVs_length, flats_bytes, V.strip1, V.one, sizes_bytes, sizesOk, consume, E.weak, unV, sliceStep, boundOf, clip, indexAddrStep, indexStep, addrAdd, loadAt, placeOf, loadCs, cellE, storeAt, splice, E.cells?, V.cells, E.noMem, E.noLoc, E.noLp, callStep, vsOf, retE, V.flat, flats, St.obj, St.set, boxCells, Fr.loc_def, Fr.setLoc_def, E.part?, buildCells, buildSliceV, fillV, chunk, elemV, convV, vsOf, minMax, eqV, strBin, floatBin]
    · have e2 : 4611686018427387904 < n := by omega
      simp [ty24, ty3, hm, hl, ib_lss, ib_gtr, e1, e2, evalCode, evalOps, wantedE, stepM, marked, stepE, stepOp, startFr, Fr.clear, mapR_eq, take, upE, E.calm, Fr.putO, Fr.put_def, Fr.map_def, Fr.raw_def, Fr.get_def, Fr.lend, Fr.op, lk, ins, lset, E.inval, constV, constVs, V.toE, builtinStep, lenE, elemsOf, okV, okE, E.v?, V.strip, binV, E.int?, E.bool?, appendStep, appended, baseOf, resultsOut, resultE, byteVs_length, flats_bytes, V.strip1, V.one, sizes_bytes, sizesOk, consume, E.weak, unV, sliceStep, boundOf, clip, indexAddrStep, indexStep, addrAdd, loadAt, placeOf, loadCs, cellE, storeAt, splice, E.cells?, V.cells, E.noMem, E.noLoc, E.noLp, callStep, vsOf, retE, V.flat, flats, St.obj, St.set, boxCells, Fr.loc_def, Fr.setLoc_def, E.part?, buildCells, buildSliceV, fillV, chunk, elemV, convV, vsOf, minMax, eqV, strBin, floatBin]
  rw [s1, seq_out s2]
  simp only [show fi19.results = [.tmp 4] from rfl]
  simp [evalCode, evalOps, wantedE, stepM, marked, stepE, stepOp, startFr, Fr.clear, mapR_eq, take, upE, E.calm, Fr.putO, Fr.put_def, Fr.map_def, Fr.raw_def, Fr.get_def, Fr.lend, Fr.op, lk, ins, lset, E.inval, constV, constVs, V.toE, builtinStep, lenE, elemsOf, okV, okE, E.v?, V.strip, binV, E.int?, E.bool?, appendStep, appended, baseOf, resultsOut, resultE, byteVs_length, flats_bytes, V.strip1, V.one, sizes_bytes, sizesOk, consume, E.weak, unV, sliceStep, boundOf, clip, indexAddrStep, indexStep, addrAdd, loadAt, placeOf, loadCs, cellE, storeAt, splice, E.cells?, V.cells, E.noMem, E.noLoc, E.noLp, callStep, vsOf, retE, V.flat, flats, St.obj, St.set, boxCells, Fr.loc_def, Fr.setLoc_def, E.part?, buildCells, buildSliceV, fillV, chunk, elemV, convV, vsOf, minMax, eqV, strBin, floatBin]
set_option maxRecDepth 20000 in
theorem bad32 (m : Nat) (n : Int) (bs : List UInt8) (h0 : n < 0 ∨ 4611686018427387904 < n) (h1 : bs.length + 9 ≤ 2 ^ 47) (st : St) :
    evalFn gS (m + 12) 32 [.slice (byteVs bs), .int .i64 n] st = some (.ret (.slice (byteVs bs)) (some 1), st) := by
  have hm : fi32.marks = [] := rfl
  have hl : fi32.locals = [] := rfl
  rw [evalFn]; simp only [hrun, evalBody, fn32']
  rw [show fi32.body = codeOf Try.f32 from rfl, split32, start32]
  obtain ⟨T1, s1⟩ := head32 m n bs h1 st (.seq (codeAt (codeOf Try.f32) [true, true, false]) (.seq (.block 0 (.loop (codeAt (codeOf Try.f32) [true, true, true, false, true, true]))) (codeAt (codeOf Try.f32) [true, true, true, true])))
  obtain ⟨T2, s2⟩ : ∃ T, evalCode gS fi32 (evalFn gS (m + 11)) (m + 11) (codeAt (codeOf Try.f32) [true, true, false]) { ps := [(0, .val (.slice (byteVs bs))), (1, .val (.int .i64 n)), (4, .own 0 []), (5, .own 1 (byteVs bs))], ts := T1, lc := [] } st =
      some (.ret, { ps := [(0, .val (.slice (byteVs bs))), (1, .val (.int .i64 n)), (4, .own 1 (byteVs bs)), (5, .val (.slice (byteVs bs)))], ts := T, lc := [] }, st) := by
    simp only [codeAt, codeOf, Try.f32, Option.getD_some, if_true, Bool.false_eq_true, if_false]
    by_cases e1 : n < 0
    · simp [ty24, ty3, hm, hl, ib_lss, ib_gtr, e1, evalCode, evalOps, wantedE, stepM, marked, stepE, stepOp, startFr, Fr.clear, mapR_eq, take, upE, E.calm, Fr.putO, Fr.put_def, Fr.map_def, Fr.raw_def, Fr.get_def, Fr.lend, Fr.op, lk, ins, lset, E.inval, constV, constVs, V.toE, builtinStep, lenE, elemsOf, okV, okE, E.v?, V.strip, binV, E.int?, E.bool?, appendStep, appended, baseOf, resultsOut, resultE, byteVs_length, flats_bytes, V.strip1, V.one, sizes_bytes, sizesOk, consume, E.weak, unV, sliceStep, boundOf, clip, indexAddrStep, indexStep, addrAdd, loadAt, placeOf, loadCs, cellE, storeAt, splice, E.cells?, V.cells, E.noMem, E.noLoc, E.noLp, callStep, vsOf, retE, V.flat, flats, St.obj, St.set, boxCells, Fr.loc_def, Fr.setLoc_def, E.part?, buildCells, buildSliceV, fillV, chunk, elemV, convV, vsOf, minMax, eqV, strBin, floatBin]
    · have e2 : 4611686018427387904 < n := by omega
      simp [ty24, ty3, hm, hl, ib_lss, ib_gtr, e1, e2, evalCode, evalOps, wantedE, stepM, marked, stepE, stepOp, startFr, Fr.clear, mapR_eq, take, upE, E.calm, Fr.putO, Fr.put_def, Fr.map_def, Fr.raw_def, Fr.get_def, Fr.lend, Fr.op, lk, ins, lset, E.inval, constV, constVs, V.toE, builtinStep, lenE, elemsOf, okV, okE, E.v?, V.strip, binV, E.int?, E.bool?, appendStep, appended, baseOf, resultsOut, resultE, byteVs_length, flats_bytes, V.strip1, V.one, sizes_bytes, sizesOk, consume, E.weak, unV, sliceStep, boundOf, clip, indexAddrStep, indexStep, addrAdd, loadAt, placeOf, loadCs, cellE, storeAt, splice, E.cells?, V.cells, E.noMem, E.noLoc, E.noLp, callStep, vsOf, retE, V.flat, flats, St.obj, St.set, boxCells, Fr.loc_def, Fr.setLoc_def, E.part?, buildCells, buildSliceV, fillV, chunk, elemV, convV, vsOf, minMax, eqV, strBin, floatBin]
  rw [s1, seq_out s2]
  simp only [show fi32.results = [.tmp 4] from rfl]
  simp [evalCode, evalOps, wantedE, stepM, marked, stepE, stepOp, startFr, Fr.clear, mapR_eq, take, upE, E.calm, Fr.putO, Fr.put_def, Fr.map_def, Fr.raw_def, Fr.get_def, Fr.lend, Fr.op, lk, ins, lset, E.inval, constV, constVs, V.toE, builtinStep, lenE, elemsOf, okV, okE, E.v?, V.strip, binV, E.int?, E.bool?, appendStep, appended, baseOf, resultsOut, resultE, byteVs_length, flats_bytes, V.strip1, V.one, sizes_bytes, sizesOk, consume, E.weak, unV, sliceStep, boundOf, clip, indexAddrStep, indexStep, addrAdd, loadAt, placeOf, loadCs, cellE, storeAt, splice, E.cells?, V.cells, E.noMem, E.noLoc, E.noLp, callStep, vsOf, retE, V.flat, flats, St.obj, St.set, boxCells, Fr.loc_def, Fr.setLoc_def, E.part?, buildCells, buildSliceV, fillV, chunk, elemV, convV, vsOf, minMax, eqV, strBin, floatBin]
theorem fn21 : gS.fn 21 = mkFI Try.f21 true [] (some ([0, 1, 4], [])) := by kernel_rfl
theorem fn36 : gS.fn 36 = mkFI Try.f36 true [] (some ([0, 1, 4], [])) := by kernel_rfl
set_option maxRecDepth 20000 in
theorem text21 (m : Nat) (bs s : List UInt8) (h1 : bs.length + 1000 ≤ 2 ^ 47) (h2 : s.length ≤ 900) (st : St) :
    evalFn gS (m + 13) 21 [.slice (byteVs bs), .str s] st = some (.ret (.slice (byteVs (bs ++ vbytes s.length ++ s))) (some 1), st) := by
  have hn := nat19 m s.length bs (by omega) (by omega)
  have e5 : (vlow 8 s.length).length ≤ 8 := vlow_len 8 s.length
  have hk : bs.length + (vbytes s.length).length + s.length ≤ 140737488355328 := by simp [vbytes]; omega
  rw [evalFn]; simp only [hrun, evalBody, fn21, mkFI, Try.f21]
  simp [gext, fn19', show fi19.pure = true from rfl, hn, hk, ty24, ty2, ty3, ty9, app_bytes, ← Nat.add_assoc, evalCode, evalOps, wantedE, stepM, marked, stepE, stepOp, startFr, Fr.clear, mapR_eq, take, upE, E.calm, Fr.putO, Fr.put_def, Fr.map_def, Fr.raw_def, Fr.get_def, Fr.lend, Fr.op, lk, ins, lset, E.inval, constV, constVs, V.toE, builtinStep, lenE, elemsOf, okV, okE, E.v?, V.strip, binV, E.int?, E.bool?, appendStep, appended, baseOf, resultsOut, resultE, byteVs_length, flats_bytes, V.strip1, V.one, sizes_bytes, sizesOk, consume, E.weak, unV, sliceStep, boundOf, clip, indexAddrStep, indexStep, addrAdd, loadAt, placeOf, loadCs, cellE, storeAt, splice, E.cells?, V.cells, E.noMem, E.noLoc, E.noLp, callStep, vsOf, retE, V.flat, flats, St.obj, St.set, boxCells, Fr.loc_def, Fr.setLoc_def, E.part?, buildCells, buildSliceV, fillV, chunk, elemV, convV, vsOf, minMax, eqV, strBin, floatBin]
set_option maxRecDepth 20000 in
theorem text36 (m : Nat) (bs s : List UInt8) (h1 : bs.length + 1000 ≤ 2 ^ 47) (h2 : s.length ≤ 900) (st : St) :
    evalFn gS (m + 13) 36 [.slice (byteVs bs), .str s] st = some (.ret (.slice (byteVs (bs ++ vbytes s.length ++ s))) (some 1), st) := by
  have hn := nat32 m s.length bs (by omega) (by omega)
  have e5 : (vlow 8 s.length).length ≤ 8 := vlow_len 8 s.length
  have hk : bs.length + (vbytes s.length).length + s.length ≤ 140737488355328 := by simp [vbytes]; omega
  rw [evalFn]; simp only [hrun, evalBody, fn36, mkFI, Try.f36]
  simp [gext, fn32', show fi32.pure = true from rfl, hn, hk, ty24, ty2, ty3, ty9, app_bytes, ← Nat.add_assoc, evalCode, evalOps, wantedE, stepM, marked, stepE, stepOp, startFr, Fr.clear, mapR_eq, take, upE, E.calm, Fr.putO, Fr.put_def, Fr.map_def, Fr.raw_def, Fr.get_def, Fr.lend, Fr.op, lk, ins, lset, E.inval, constV, constVs, V.toE, builtinStep, lenE, elemsOf, okV, okE, E.v?, V.strip, binV, E.int?, E.bool?, appendStep, appended, baseOf, resultsOut, resultE, byteVs_length, flats_bytes, V.strip1, V.one, sizes_bytes, sizesOk, consume, E.weak, unV, sliceStep, boundOf, clip, indexAddrStep, indexStep, addrAdd, loadAt, placeOf, loadCs, cellE, storeAt, splice, E.cells?, V.cells, E.noMem, E.noLoc, E.noLp, callStep, vsOf, retE, V.flat, flats, St.obj, St.set, boxCells, Fr.loc_def, Fr.setLoc_def, E.part?, buildCells, buildSliceV, fillV, chunk, elemV, convV, vsOf, minMax, eqV, strBin, floatBin]
end Go.Proofs.Ytiiahehclbmodaa
