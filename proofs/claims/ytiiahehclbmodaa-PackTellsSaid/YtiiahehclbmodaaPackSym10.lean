/- PackTells: the walk, second half. -/
import Derived.Test.YtiiahehclbmodaaPackSym9
namespace Go.Proofs.Ytiiahehclbmodaa
open Go Go.Ab
set_option linter.unusedVariables false
set_option linter.unusedSimpArgs false
set_option linter.unnecessarySimpa false
def tw : List UInt8 := [1, 2, 3, 4, 5, 6, 7, 8, 9, 10, 11, 12]
theorem tw_v : [V.int .u8 1, .int .u8 2, .int .u8 3, .int .u8 4, .int .u8 5, .int .u8 6, .int .u8 7, .int .u8 8, .int .u8 9, .int .u8 10, .int .u8 11, .int .u8 12] = byteVs tw := by rfl
theorem app_tw (bs : List UInt8) : byteVs bs ++ [V.int .u8 1, .int .u8 2, .int .u8 3, .int .u8 4, .int .u8 5, .int .u8 6, .int .u8 7, .int .u8 8, .int .u8 9, .int .u8 10, .int .u8 11, .int .u8 12] = byteVs (bs ++ tw) := by rw [tw_v, app_bytes]
theorem take_left (a b : List UInt8) : (a ++ b).take a.length = a := by simp
set_option maxRecDepth 40000 in
set_option maxHeartbeats 4000000 in
theorem stageD1 (bs ss : List UInt8) (hb : bs.take 30 = bs) (hl : bs.length ≤ 30) (n i : Int) (x : Nat) (L : List Int) (k : Nat) (T : List (Nat × E)) :
    ∃ T', ev [true, true, true, true, true, true, false] (F (.own 1 (byteVs bs)) n i x (.val (.str ss)) L (.val (.bool false)) (.val (.ptr 0 0)) .any .any .any T) (fst L k) =
      some (.normal, F (.own 1 (byteVs bs)) n i x (.val (.str ss)) L (.val (.bool false)) (.val (.ptr 0 0)) (.own 1 (byteVs (bs ++ tw))) .any .any T', fst L k) := by
  have hf : ∀ st, evalFn gS 61 26 [.slice (byteVs bs), .int .i64 30] st = some (.ret (.slice (byteVs bs)) (some 1), st) := fun st => by
    have := few 60 bs 30 (by omega) st
    rwa [hb] at this
  have hk : ∀ c : Nat, 1000 ≤ c → bs.length ≤ c := by omega
  simp only [ev, codeAt, codeOf, Try.f5, Option.getD_some, if_true, Bool.false_eq_true, if_false]
  simp [gext, f26, t26, hf, hm5, hl5, F, ty24, ty3, app_tw, hk, show tw.length = 12 from rfl, evalCode, evalOps, wantedE, stepM, marked, stepE, stepOp, startFr, Fr.clear, mapR_eq, take, upE, E.calm, Fr.putO, Fr.put_def, Fr.map_def, Fr.raw_def, Fr.get_def, Fr.lend, Fr.op, lk, ins, lset, E.inval, constV, constVs, V.toE, builtinStep, lenE, elemsOf, okV, okE, E.v?, V.strip, binV, E.int?, E.bool?, appendStep, appended, baseOf, resultsOut, resultE, byteVs_length, flats_bytes, V.strip1, V.one, sizes_bytes, sizesOk, consume, E.weak, unV, sliceStep, boundOf, clip, indexAddrStep, indexStep, addrAdd, loadAt, placeOf, loadCs, cellE, storeAt, splice, E.cells?, V.cells, E.noMem, E.noLoc, E.noLp, callStep, vsOf, retE, V.flat, flats, St.obj, St.set, boxCells, Fr.loc_def, Fr.setLoc_def, E.part?, buildCells, buildSliceV, fillV, chunk, elemV, convV, vsOf, minMax, eqV, strBin, floatBin]
set_option maxRecDepth 40000 in
set_option maxHeartbeats 4000000 in
theorem stageD2 (bs ss : List UInt8) (hl : bs.length ≤ 30) (n i : Int) (x : Nat) (L : List Int) (k : Nat) (T : List (Nat × E)) :
    ∃ T', ev [true, true, true, true, true, true, true, false] (F (.own 1 (byteVs bs)) n i x (.val (.str ss)) L (.val (.bool false)) (.val (.ptr 0 0)) (.own 1 (byteVs (bs ++ tw))) .any .any T) (fst L k) =
      some (.normal, F (.own 1 (byteVs bs)) n i x (.val (.str ss)) L (.val (.bool false)) (.val (.ptr 0 0)) (.own 1 (byteVs (bs ++ tw))) (.val (.slice (byteVs bs))) .any T', fst L k) := by
  have e1 : (bs.length : Int) ≤ (bs.length : Int) + 12 := by omega
  simp only [ev, codeAt, codeOf, Try.f5, Option.getD_some, if_true, Bool.false_eq_true, if_false]
  simp [gext, hm5, hl5, F, ty24, ty3, take_bytes, take_left, e1, show tw.length = 12 from rfl, evalCode, evalOps, wantedE, stepM, marked, stepE, stepOp, startFr, Fr.clear, mapR_eq, take, upE, E.calm, Fr.putO, Fr.put_def, Fr.map_def, Fr.raw_def, Fr.get_def, Fr.lend, Fr.op, lk, ins, lset, E.inval, constV, constVs, V.toE, builtinStep, lenE, elemsOf, okV, okE, E.v?, V.strip, binV, E.int?, E.bool?, appendStep, appended, baseOf, resultsOut, resultE, byteVs_length, flats_bytes, V.strip1, V.one, sizes_bytes, sizesOk, consume, E.weak, unV, sliceStep, boundOf, clip, indexAddrStep, indexStep, addrAdd, loadAt, placeOf, loadCs, cellE, storeAt, splice, E.cells?, V.cells, E.noMem, E.noLoc, E.noLp, callStep, vsOf, retE, V.flat, flats, St.obj, St.set, boxCells, Fr.loc_def, Fr.setLoc_def, E.part?, buildCells, buildSliceV, fillV, chunk, elemV, convV, vsOf, minMax, eqV, strBin, floatBin]
end Go.Proofs.Ytiiahehclbmodaa
