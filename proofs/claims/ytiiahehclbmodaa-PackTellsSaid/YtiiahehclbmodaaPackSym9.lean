/- PackTells: the walk. -/
import Derived.Test.YtiiahehclbmodaaPackSym8
namespace Go.Proofs.Ytiiahehclbmodaa
open Go Go.Ab
set_option linter.unusedVariables false
set_option linter.unusedSimpArgs false
set_option linter.unnecessarySimpa false
noncomputable def fi5 : FI := { body := codeOf Try.f5, ntmps := 110, results := [.tmp 12], pers := [0, 1, 2, 3, 4, 5, 12, 13, 14, 15, 16], locals := [], pure := false, marks := [] }
theorem fn5 : gS.fn 5 = some fi5 := by kernel_rfl
theorem split5 : codeOf Try.f5 = .seq (codeAt (codeOf Try.f5) [false]) (.seq (codeAt (codeOf Try.f5) [true, false]) (.seq (codeAt (codeOf Try.f5) [true, true, false]) (.seq (codeAt (codeOf Try.f5) [true, true, true, false])
  (.seq (codeAt (codeOf Try.f5) [true, true, true, true, false]) (.seq (codeAt (codeOf Try.f5) [true, true, true, true, true, false]) (.seq (codeAt (codeOf Try.f5) [true, true, true, true, true, true, false])
  (.seq (codeAt (codeOf Try.f5) [true, true, true, true, true, true, true, false]) (.seq (codeAt (codeOf Try.f5) [true, true, true, true, true, true, true, true, false]) (.seq (codeAt (codeOf Try.f5) [true, true, true, true, true, true, true, true, true, false])
  (codeAt (codeOf Try.f5) [true, true, true, true, true, true, true, true, true, true])))))))))) := by kernel_rfl
def F (e0 : E) (n i : Int) (x : Nat) (e4 : E) (L : List Int) (e12 e13 e14 e15 e16 : E) (T : List (Nat × E)) : Fr :=
  { ps := [(0, e0), (1, .val (.int .i64 n)), (2, .val (.int .i64 i)), (3, .val (.float .f64 x)), (4, e4), (5, .val (.slice (intVs L))), (12, e12), (13, e13), (14, e14), (15, e15), (16, e16)], ts := T, lc := [] }
theorem start5 (b s : List UInt8) (n i : Int) (x : Nat) (L : List Int) : startFr fi5 [.slice (byteVs b), .int .i64 n, .int .i64 i, .float .f64 x, .str s, .slice (intVs L)] =
  F (.val (.slice (byteVs b))) n i x (.val (.str s)) L .any .any .any .any .any [] := rfl
noncomputable abbrev ev (c : List Bool) (fr : Fr) (st : St) : Res := evalCode gS fi5 (evalFn gS 61) 61 (codeAt (codeOf Try.f5) c) fr st
theorem hm5 : fi5.marks = [] := rfl
theorem hl5 : fi5.locals = [] := rfl
theorem ty2' : True := trivial
theorem t26 : (fiOf 26).pure = true := by kernel_rfl
theorem f26 : gS.fn 26 = some (fiOf 26) := by kernel_rfl
theorem t20 : (fiOf 20).pure = true := by kernel_rfl
theorem f20 : gS.fn 20 = some (fiOf 20) := by kernel_rfl
set_option maxRecDepth 40000 in
set_option maxHeartbeats 4000000 in
theorem stageA (b s : List UInt8) (n i : Int) (x : Nat) (L : List Int) (X : Code) :
    ∃ T, evalCode gS fi5 (evalFn gS 61) 61 (.seq (codeAt (codeOf Try.f5) [false]) (.seq (codeAt (codeOf Try.f5) [true, false]) (.seq (codeAt (codeOf Try.f5) [true, true, false]) (.seq (codeAt (codeOf Try.f5) [true, true, true, false]) X))))
      (F (.val (.slice (byteVs b))) n i x (.val (.str s)) L .any .any .any .any .any []) ⟨[], 0⟩ =
      evalCode gS fi5 (evalFn gS 61) 61 X (F (.own 1 (byteVs (b.take 30))) n i x (.val (.str (s.take 300))) L (.val (.bool false)) (.val (.ptr 0 0)) .any .any .any T) (fst L 0) := by
  have hf : ∀ st, evalFn gS 61 26 [.slice (byteVs b), .int .i64 30] st = some (.ret (.slice (byteVs (b.take 30))) (some 1), st) := fun st => few 60 b 30 (by omega) st
  have hs : ∀ st, evalFn gS 61 20 [.str s, .int .i64 300] st = some (.ret (.str (s.take 300)) none, st) := fun st => short 60 s 300 st
  obtain ⟨T1, s1⟩ : ∃ T, ev [false] (F (.val (.slice (byteVs b))) n i x (.val (.str s)) L .any .any .any .any .any []) ⟨[], 0⟩ =
      some (.normal, F (.val (.slice (byteVs b))) n i x (.val (.str s)) L (.val (.bool false)) .any .any .any .any T, ⟨[], 0⟩) := by
    simp only [ev, codeAt, codeOf, Try.f5, Option.getD_some, if_true, Bool.false_eq_true, if_false]
    simp [hm5, hl5, F, evalCode, evalOps, wantedE, stepM, marked, stepE, stepOp, startFr, Fr.clear, mapR_eq, take, upE, E.calm, Fr.putO, Fr.put_def, Fr.map_def, Fr.raw_def, Fr.get_def, Fr.lend, Fr.op, lk, ins, lset, E.inval, constV, constVs, V.toE, builtinStep, lenE, elemsOf, okV, okE, E.v?, V.strip, binV, E.int?, E.bool?, appendStep, appended, baseOf, resultsOut, resultE, byteVs_length, flats_bytes, V.strip1, V.one, sizes_bytes, sizesOk, consume, E.weak, unV, sliceStep, boundOf, clip, indexAddrStep, indexStep, addrAdd, loadAt, placeOf, loadCs, cellE, storeAt, splice, E.cells?, V.cells, E.noMem, E.noLoc, E.noLp, callStep, vsOf, retE, V.flat, flats, St.obj, St.set, boxCells, Fr.loc_def, Fr.setLoc_def, E.part?, buildCells, buildSliceV, fillV, chunk, elemV, convV, vsOf, minMax, eqV, strBin, floatBin]
  obtain ⟨T2, s2⟩ : ∃ T, ev [true, false] (F (.val (.slice (byteVs b))) n i x (.val (.str s)) L (.val (.bool false)) .any .any .any .any T1) ⟨[], 0⟩ =
      some (.normal, F (.val (.slice (byteVs b))) n i x (.val (.str s)) L (.val (.bool false)) (.val (.ptr 0 0)) .any .any .any T, fst L 0) := by
    simp only [ev, codeAt, codeOf, Try.f5, Option.getD_some, if_true, Bool.false_eq_true, if_false]
    simp [hm5, hl5, F, fst, ty39', ty42, evalCode, evalOps, wantedE, stepM, marked, stepE, stepOp, startFr, Fr.clear, mapR_eq, take, upE, E.calm, Fr.putO, Fr.put_def, Fr.map_def, Fr.raw_def, Fr.get_def, Fr.lend, Fr.op, lk, ins, lset, E.inval, constV, constVs, V.toE, builtinStep, lenE, elemsOf, okV, okE, E.v?, V.strip, binV, E.int?, E.bool?, appendStep, appended, baseOf, resultsOut, resultE, byteVs_length, flats_bytes, V.strip1, V.one, sizes_bytes, sizesOk, consume, E.weak, unV, sliceStep, boundOf, clip, indexAddrStep, indexStep, addrAdd, loadAt, placeOf, loadCs, cellE, storeAt, splice, E.cells?, V.cells, E.noMem, E.noLoc, E.noLp, callStep, vsOf, retE, V.flat, flats, St.obj, St.set, boxCells, Fr.loc_def, Fr.setLoc_def, E.part?, buildCells, buildSliceV, fillV, chunk, elemV, convV, vsOf, minMax, eqV, strBin, floatBin]
  obtain ⟨T3, s3⟩ : ∃ T, ev [true, true, false] (F (.val (.slice (byteVs b))) n i x (.val (.str s)) L (.val (.bool false)) (.val (.ptr 0 0)) .any .any .any T2) (fst L 0) =
      some (.normal, F (.own 1 (byteVs (b.take 30))) n i x (.val (.str s)) L (.val (.bool false)) (.val (.ptr 0 0)) .any .any .any T, fst L 0) := by
    simp only [ev, codeAt, codeOf, Try.f5, Option.getD_some, if_true, Bool.false_eq_true, if_false]
    simp [gext, f26, t26, hf, hm5, hl5, F, ty24, ty3, evalCode, evalOps, wantedE, stepM, marked, stepE, stepOp, startFr, Fr.clear, mapR_eq, take, upE, E.calm, Fr.putO, Fr.put_def, Fr.map_def, Fr.raw_def, Fr.get_def, Fr.lend, Fr.op, lk, ins, lset, E.inval, constV, constVs, V.toE, builtinStep, lenE, elemsOf, okV, okE, E.v?, V.strip, binV, E.int?, E.bool?, appendStep, appended, baseOf, resultsOut, resultE, byteVs_length, flats_bytes, V.strip1, V.one, sizes_bytes, sizesOk, consume, E.weak, unV, sliceStep, boundOf, clip, indexAddrStep, indexStep, addrAdd, loadAt, placeOf, loadCs, cellE, storeAt, splice, E.cells?, V.cells, E.noMem, E.noLoc, E.noLp, callStep, vsOf, retE, V.flat, flats, St.obj, St.set, boxCells, Fr.loc_def, Fr.setLoc_def, E.part?, buildCells, buildSliceV, fillV, chunk, elemV, convV, vsOf, minMax, eqV, strBin, floatBin]
  obtain ⟨T4, s4⟩ : ∃ T, ev [true, true, true, false] (F (.own 1 (byteVs (b.take 30))) n i x (.val (.str s)) L (.val (.bool false)) (.val (.ptr 0 0)) .any .any .any T3) (fst L 0) =
      some (.normal, F (.own 1 (byteVs (b.take 30))) n i x (.val (.str (s.take 300))) L (.val (.bool false)) (.val (.ptr 0 0)) .any .any .any T, fst L 0) := by
    simp only [ev, codeAt, codeOf, Try.f5, Option.getD_some, if_true, Bool.false_eq_true, if_false]
    simp [gext, f20, t20, hs, hm5, hl5, F, ty9, ty3, evalCode, evalOps, wantedE, stepM, marked, stepE, stepOp, startFr, Fr.clear, mapR_eq, take, upE, E.calm, Fr.putO, Fr.put_def, Fr.map_def, Fr.raw_def, Fr.get_def, Fr.lend, Fr.op, lk, ins, lset, E.inval, constV, constVs, V.toE, builtinStep, lenE, elemsOf, okV, okE, E.v?, V.strip, binV, E.int?, E.bool?, appendStep, appended, baseOf, resultsOut, resultE, byteVs_length, flats_bytes, V.strip1, V.one, sizes_bytes, sizesOk, consume, E.weak, unV, sliceStep, boundOf, clip, indexAddrStep, indexStep, addrAdd, loadAt, placeOf, loadCs, cellE, storeAt, splice, E.cells?, V.cells, E.noMem, E.noLoc, E.noLp, callStep, vsOf, retE, V.flat, flats, St.obj, St.set, boxCells, Fr.loc_def, Fr.setLoc_def, E.part?, buildCells, buildSliceV, fillV, chunk, elemV, convV, vsOf, minMax, eqV, strBin, floatBin]
  exact ⟨T4, by rw [seq_norm s1, seq_norm s2, seq_norm s3, seq_norm s4]⟩
theorem p31 : (fi31).pure = false := rfl
set_option maxRecDepth 40000 in
set_option maxHeartbeats 4000000 in
theorem stageB (e0 e4 : E) (n i : Int) (x : Nat) (L : List Int) (T : List (Nat × E)) (h0 : ∃ bs, e0 = .own 1 (byteVs bs)) (h4 : ∃ bs, e4 = .val (.str bs)) :
    ∃ x' k T', k ≤ 2 ∧ ev [true, true, true, true, false] (F e0 n i x e4 L (.val (.bool false)) (.val (.ptr 0 0)) .any .any .any T) (fst L 0) =
      some (.normal, F e0 n i x' e4 L (.val (.bool false)) (.val (.ptr 0 0)) .any .any .any T', fst L k) := by
  obtain ⟨bs, rfl⟩ := h0
  obtain ⟨ss, rfl⟩ := h4
  obtain ⟨r, k1, hr, hk, hn⟩ := next30 59 L 0 2 (by decide) (by decide) (by decide)
  obtain ⟨y, k2, hk2, hf⟩ := float31 57 L k1 (by omega)
  have hn' : evalFn gS 61 30 [.ptr 0 0, .int .i64 2] (fst L 0) = some (.ret (.int .i64 r) none, fst L k1) := hn
  have hf' : evalFn gS 61 31 [.ptr 0 0] (fst L k1) = some (.ret (.float .f64 y) none, fst L k2) := hf
  by_cases h : (r : Int) = 1
  · refine ⟨y, k2, ?_⟩
    have h1 : ((r : Int) == 1) = true := by rw [beq_iff_eq]; exact h
    simp only [ev, codeAt, codeOf, Try.f5, Option.getD_some, if_true, Bool.false_eq_true, if_false]
    simp [gext, fn30, fn31, show fi30.pure = false from rfl, p31, hn', hf', hm5, hl5, F, ty3, ty38', ib_eql, h1, evalCode, evalOps, wantedE, stepM, marked, stepE, stepOp, startFr, Fr.clear, mapR_eq, take, upE, E.calm, Fr.putO, Fr.put_def, Fr.map_def, Fr.raw_def, Fr.get_def, Fr.lend, Fr.op, lk, ins, lset, E.inval, constV, constVs, V.toE, builtinStep, lenE, elemsOf, okV, okE, E.v?, V.strip, binV, E.int?, E.bool?, appendStep, appended, baseOf, resultsOut, resultE, byteVs_length, flats_bytes, V.strip1, V.one, sizes_bytes, sizesOk, consume, E.weak, unV, sliceStep, boundOf, clip, indexAddrStep, indexStep, addrAdd, loadAt, placeOf, loadCs, cellE, storeAt, splice, E.cells?, V.cells, E.noMem, E.noLoc, E.noLp, callStep, vsOf, retE, V.flat, flats, St.obj, St.set, boxCells, Fr.loc_def, Fr.setLoc_def, E.part?, buildCells, buildSliceV, fillV, chunk, elemV, convV, vsOf, minMax, eqV, strBin, floatBin]
    omega
  · refine ⟨x, k1, ?_⟩
    have h1 : ((r : Int) == 1) = false := by rw [beq_eq_false_iff_ne]; exact h
    simp only [ev, codeAt, codeOf, Try.f5, Option.getD_some, if_true, Bool.false_eq_true, if_false]
    simp [gext, fn30, fn31, show fi30.pure = false from rfl, p31, hn', hf', hm5, hl5, F, ty3, ty38', ib_eql, h1, evalCode, evalOps, wantedE, stepM, marked, stepE, stepOp, startFr, Fr.clear, mapR_eq, take, upE, E.calm, Fr.putO, Fr.put_def, Fr.map_def, Fr.raw_def, Fr.get_def, Fr.lend, Fr.op, lk, ins, lset, E.inval, constV, constVs, V.toE, builtinStep, lenE, elemsOf, okV, okE, E.v?, V.strip, binV, E.int?, E.bool?, appendStep, appended, baseOf, resultsOut, resultE, byteVs_length, flats_bytes, V.strip1, V.one, sizes_bytes, sizesOk, consume, E.weak, unV, sliceStep, boundOf, clip, indexAddrStep, indexStep, addrAdd, loadAt, placeOf, loadCs, cellE, storeAt, splice, E.cells?, V.cells, E.noMem, E.noLoc, E.noLp, callStep, vsOf, retE, V.flat, flats, St.obj, St.set, boxCells, Fr.loc_def, Fr.setLoc_def, E.part?, buildCells, buildSliceV, fillV, chunk, elemV, convV, vsOf, minMax, eqV, strBin, floatBin]
    omega
theorem five_get (r : Nat) (h : r < 5) : ∃ v, ([V.int .i64 4611686018427387904, .int .i64 4611686018427387905, .int .i64 127, .int .i64 128, .int .i64 (-1)] : List V)[r]? = some (.int .i64 v) := by
  have : r = 0 ∨ r = 1 ∨ r = 2 ∨ r = 3 ∨ r = 4 := by omega
  rcases this with h | h | h | h | h <;> subst h <;> exact ⟨_, rfl⟩
set_option maxRecDepth 40000 in
set_option maxHeartbeats 4000000 in
theorem stageC (e0 e4 : E) (n i : Int) (x : Nat) (L : List Int) (k : Nat) (hk0 : k ≤ 2) (T : List (Nat × E)) (h0 : ∃ bs, e0 = .own 1 (byteVs bs)) (h4 : ∃ bs, e4 = .val (.str bs)) :
    ∃ n' k' T', ev [true, true, true, true, true, false] (F e0 n i x e4 L (.val (.bool false)) (.val (.ptr 0 0)) .any .any .any T) (fst L k) =
      some (.normal, F e0 n' i x e4 L (.val (.bool false)) (.val (.ptr 0 0)) .any .any .any T', fst L k') := by
  obtain ⟨bs, rfl⟩ := h0
  obtain ⟨ss, rfl⟩ := h4
  obtain ⟨r, k1, hr, hk, hn⟩ := next30 59 L k 3 (by omega) (by decide) (by decide)
  obtain ⟨q, k2, hq, hk2, hn2⟩ := next30 59 L k1 5 (by omega) (by decide) (by decide)
  obtain ⟨v, hv⟩ := five_get q (by omega)
  have hn' : evalFn gS 61 30 [.ptr 0 0, .int .i64 3] (fst L k) = some (.ret (.int .i64 r) none, fst L k1) := hn
  have hn2' : evalFn gS 61 30 [.ptr 0 0, .int .i64 5] (fst L k1) = some (.ret (.int .i64 q) none, fst L k2) := hn2
  by_cases h : (r : Int) = 0
  · refine ⟨v, k2, ?_⟩
    have h1 : ((r : Int) == 0) = true := by rw [beq_iff_eq]; exact h
    simp only [ev, codeAt, codeOf, Try.f5, Option.getD_some, if_true, Bool.false_eq_true, if_false]
    simp [gext, fn30, show fi30.pure = false from rfl, hn', hn2', hm5, hl5, F, ty3, ty45, ib_eql, h1, hv, hq, partV, evalCode, evalOps, wantedE, stepM, marked, stepE, stepOp, startFr, Fr.clear, mapR_eq, take, upE, E.calm, Fr.putO, Fr.put_def, Fr.map_def, Fr.raw_def, Fr.get_def, Fr.lend, Fr.op, lk, ins, lset, E.inval, constV, constVs, V.toE, builtinStep, lenE, elemsOf, okV, okE, E.v?, V.strip, binV, E.int?, E.bool?, appendStep, appended, baseOf, resultsOut, resultE, byteVs_length, flats_bytes, V.strip1, V.one, sizes_bytes, sizesOk, consume, E.weak, unV, sliceStep, boundOf, clip, indexAddrStep, indexStep, addrAdd, loadAt, placeOf, loadCs, cellE, storeAt, splice, E.cells?, V.cells, E.noMem, E.noLoc, E.noLp, callStep, vsOf, retE, V.flat, flats, St.obj, St.set, boxCells, Fr.loc_def, Fr.setLoc_def, E.part?, buildCells, buildSliceV, fillV, chunk, elemV, convV, vsOf, minMax, eqV, strBin, floatBin]
  · refine ⟨n, k1, ?_⟩
    have h1 : ((r : Int) == 0) = false := by rw [beq_eq_false_iff_ne]; exact h
    simp only [ev, codeAt, codeOf, Try.f5, Option.getD_some, if_true, Bool.false_eq_true, if_false]
    simp [gext, fn30, show fi30.pure = false from rfl, hn', hn2', hm5, hl5, F, ty3, ty45, ib_eql, h1, evalCode, evalOps, wantedE, stepM, marked, stepE, stepOp, startFr, Fr.clear, mapR_eq, take, upE, E.calm, Fr.putO, Fr.put_def, Fr.map_def, Fr.raw_def, Fr.get_def, Fr.lend, Fr.op, lk, ins, lset, E.inval, constV, constVs, V.toE, builtinStep, lenE, elemsOf, okV, okE, E.v?, V.strip, binV, E.int?, E.bool?, appendStep, appended, baseOf, resultsOut, resultE, byteVs_length, flats_bytes, V.strip1, V.one, sizes_bytes, sizesOk, consume, E.weak, unV, sliceStep, boundOf, clip, indexAddrStep, indexStep, addrAdd, loadAt, placeOf, loadCs, cellE, storeAt, splice, E.cells?, V.cells, E.noMem, E.noLoc, E.noLp, callStep, vsOf, retE, V.flat, flats, St.obj, St.set, boxCells, Fr.loc_def, Fr.setLoc_def, E.part?, buildCells, buildSliceV, fillV, chunk, elemV, convV, vsOf, minMax, eqV, strBin, floatBin]
end Go.Proofs.Ytiiahehclbmodaa
