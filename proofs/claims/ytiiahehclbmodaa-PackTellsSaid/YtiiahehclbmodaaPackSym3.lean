/- The pack seat: the document's numbers. -/
import Derived.Test.YtiiahehclbmodaaPackSym2
namespace Go.Proofs.Ytiiahehclbmodaa
open Go Go.Ab
set_option linter.unusedVariables false
set_option linter.unusedSimpArgs false
set_option linter.unnecessarySimpa false
set_option maxRecDepth 20000 in
theorem step32 (fi : FI) (hm : fi.marks = []) (hl : fi.locals = []) (call : Calling) (q n : Nat) (b0 out : List UInt8) (T : List (Nat × E)) (st : St) (hn : n < 2 ^ 63) (hlen : out.length < 2 ^ 47) (h : 128 ≤ n) :
    ∃ T', evalCode gS fi call q (codeAt (codeOf Try.f32) [true, true, true, false, true, true])
      { ps := [(0, .val (.slice (byteVs b0))), (1, .val (.int .i64 n)), (4, .own 0 []), (5, .own 1 (byteVs out))], ts := T, lc := [] } st =
      some (.normal, { ps := [(0, .val (.slice (byteVs b0))), (1, .val (.int .i64 ((n / 128 : Nat) : Int))), (4, .own 0 []), (5, .own 1 (byteVs (out ++ [u8 ((n % 128 + 128 : Nat) : Int)])))], ts := T', lc := [] }, st) := by
  have e1 : (128 : Int) ≤ (n : Int) := by omega
  have e2 : ((n : Int)).tmod 128 = ((n % 128 : Nat) : Int) := by rw [Int.tmod_eq_emod_of_nonneg (by omega)]; omega
  have e8 : ((n % 128 : Nat) : Int) + 128 = ((n % 128 + 128 : Nat) : Int) := by omega
  have e3 : IntKind.wrap .u8 ((n % 128 : Nat) : Int) = ((n % 128 : Nat) : Int) := by rw [wrap8]; omega
  have e4 : IntKind.wrap .i64 ((n % 128 : Nat) : Int) = ((n % 128 : Nat) : Int) := wrap64 (by omega) (by omega)
  have e6 : ((n : Int)).tdiv 128 = ((n / 128 : Nat) : Int) := by rw [Int.tdiv_eq_ediv_of_nonneg (by omega)]; omega
  have e7 : IntKind.wrap .i64 ((n / 128 : Nat) : Int) = ((n / 128 : Nat) : Int) := wrap64 (by omega) (by omega)
  have hk : out.length ≤ 140737488355327 := by omega
  simp only [codeAt, codeOf, Try.f32, Option.getD_some, if_true, Bool.false_eq_true, if_false]
  simp [-Int.natCast_emod, -Int.natCast_ediv, -Int.natCast_add, gext, ty24, ty2, ty3, ty5, ty54, ib_add, ib_sub, ib_lss, ib_geq, ib_rem, ib_quo, shiftV, hm, hl, IntKind.bits, snoc_bytes, h, hk, e1, e2, e3, e4, e6, e7, e8, evalCode, evalOps, wantedE, stepM, marked, stepE, stepOp, startFr, Fr.clear, mapR_eq, take, upE, E.calm, Fr.putO, Fr.put_def, Fr.map_def, Fr.raw_def, Fr.get_def, Fr.lend, Fr.op, lk, ins, lset, E.inval, constV, constVs, V.toE, builtinStep, lenE, elemsOf, okV, okE, E.v?, V.strip, binV, E.int?, E.bool?, appendStep, appended, baseOf, resultsOut, resultE, byteVs_length, flats_bytes, V.strip1, V.one, sizes_bytes, sizesOk, consume, E.weak, unV, sliceStep, boundOf, clip, indexAddrStep, indexStep, addrAdd, loadAt, placeOf, loadCs, cellE, storeAt, splice, E.cells?, V.cells, E.noMem, E.noLoc, E.noLp, callStep, vsOf, retE, V.flat, flats, St.obj, St.set, boxCells, Fr.loc_def, Fr.setLoc_def, E.part?, buildCells, buildSliceV, fillV, chunk, elemV, convV, vsOf, minMax, eqV, strBin, floatBin]
set_option maxRecDepth 20000 in
theorem stop32 (fi : FI) (hm : fi.marks = []) (hl : fi.locals = []) (call : Calling) (q n : Nat) (b0 out : List UInt8) (T : List (Nat × E)) (st : St) (h : n < 128) :
    ∃ T', evalCode gS fi call q (codeAt (codeOf Try.f32) [true, true, true, false, true, true])
      { ps := [(0, .val (.slice (byteVs b0))), (1, .val (.int .i64 n)), (4, .own 0 []), (5, .own 1 (byteVs out))], ts := T, lc := [] } st =
      some (.exit 0, { ps := [(0, .val (.slice (byteVs b0))), (1, .val (.int .i64 n)), (4, .own 0 []), (5, .own 1 (byteVs out))], ts := T', lc := [] }, st) := by
  have e1 : ¬ (128 : Int) ≤ (n : Int) := by omega
  simp only [codeAt, codeOf, Try.f32, Option.getD_some, if_true, Bool.false_eq_true, if_false]
  simp [gext, ty24, ty2, ty3, ty5, ty54, ib_add, ib_sub, ib_lss, ib_geq, ib_rem, ib_quo, shiftV, hm, hl, IntKind.bits, snoc_bytes, e1, evalCode, evalOps, wantedE, stepM, marked, stepE, stepOp, startFr, Fr.clear, mapR_eq, take, upE, E.calm, Fr.putO, Fr.put_def, Fr.map_def, Fr.raw_def, Fr.get_def, Fr.lend, Fr.op, lk, ins, lset, E.inval, constV, constVs, V.toE, builtinStep, lenE, elemsOf, okV, okE, E.v?, V.strip, binV, E.int?, E.bool?, appendStep, appended, baseOf, resultsOut, resultE, byteVs_length, flats_bytes, V.strip1, V.one, sizes_bytes, sizesOk, consume, E.weak, unV, sliceStep, boundOf, clip, indexAddrStep, indexStep, addrAdd, loadAt, placeOf, loadCs, cellE, storeAt, splice, E.cells?, V.cells, E.noMem, E.noLoc, E.noLp, callStep, vsOf, retE, V.flat, flats, St.obj, St.set, boxCells, Fr.loc_def, Fr.setLoc_def, E.part?, buildCells, buildSliceV, fillV, chunk, elemV, convV, vsOf, minMax, eqV, strBin, floatBin]
theorem loop32 (fi : FI) (hm : fi.marks = []) (hl : fi.locals = []) (call : Calling) (q : Nat) (b0 : List UInt8) (st : St) :
    ∀ (k n : Nat) (out : List UInt8) (T : List (Nat × E)) (j : Nat), n < 2 ^ 63 → n < 128 ^ (k + 1) → out.length + k < 2 ^ 47 → k < j →
    ∃ T', iterate (evalCode gS fi call q (codeAt (codeOf Try.f32) [true, true, true, false, true, true])) j
      { ps := [(0, .val (.slice (byteVs b0))), (1, .val (.int .i64 n)), (4, .own 0 []), (5, .own 1 (byteVs out))], ts := T, lc := [] } st =
      some (.exit 0, { ps := [(0, .val (.slice (byteVs b0))), (1, .val (.int .i64 (vtop k n))), (4, .own 0 []), (5, .own 1 (byteVs (out ++ vlow k n)))], ts := T', lc := [] }, st)
  | 0, n, out, T, j, h1, h2, h3, h4 => by
    obtain ⟨j, rfl⟩ : ∃ i, j = i + 1 := ⟨j - 1, by omega⟩
    obtain ⟨T', e⟩ := stop32 fi hm hl call q n b0 out T st (by omega)
    exact ⟨T', by simp [iterate, e, vlow, vtop]⟩
  | k + 1, n, out, T, j, h1, h2, h3, h4 => by
    obtain ⟨j, rfl⟩ : ∃ i, j = i + 1 := ⟨j - 1, by omega⟩
    by_cases h : n < 128
    · obtain ⟨T', e⟩ := stop32 fi hm hl call q n b0 out T st h
      exact ⟨T', by simp [iterate, e, vlow, vtop, h]⟩
    · obtain ⟨T1, e⟩ := step32 fi hm hl call q n b0 out T st h1 (by omega) (by omega)
      have h5 : n / 128 < 128 ^ (k + 1) := by rw [Nat.div_lt_iff_lt_mul (by decide)]; rw [Nat.pow_succ] at h2; exact h2
      obtain ⟨T', e'⟩ := loop32 fi hm hl call q b0 st k (n / 128) (out ++ [u8 ((n % 128 + 128 : Nat) : Int)]) T1 j (by omega) h5 (by simp; omega) (by omega)
      refine ⟨T', ?_⟩
      simp only [iterate, e, e']
      simp [vlow, vtop, h]
theorem split32 : codeOf Try.f32 = .seq (codeAt (codeOf Try.f32) [false]) (.seq (codeAt (codeOf Try.f32) [true, false]) (.seq (codeAt (codeOf Try.f32) [true, true, false]) (.seq (.block 0 (.loop (codeAt (codeOf Try.f32) [true, true, true, false, true, true]))) (codeAt (codeOf Try.f32) [true, true, true, true])))) := by kernel_rfl
noncomputable def fi32 : FI := { body := codeOf Try.f32, ntmps := 32, results := [.tmp 4], pers := [0, 1, 4, 5], locals := [], pure := true, marks := [] }
theorem fn32' : gS.fn 32 = some fi32 := by kernel_rfl
theorem start32 (a b : V) : startFr fi32 [a, b] = { ps := [(0, .val a), (1, .val b), (4, .any), (5, .any)], ts := [], lc := [] } := rfl
set_option maxRecDepth 20000 in
theorem head32 (m : Nat) (n : Int) (bs : List UInt8) (h1 : bs.length + 9 ≤ 2 ^ 47) (st : St) (X : Code) :
    ∃ T, evalCode gS fi32 (evalFn gS (m + 11)) (m + 11) (.seq (codeAt (codeOf Try.f32) [false]) (.seq (codeAt (codeOf Try.f32) [true, false]) X)) { ps := [(0, .val (.slice (byteVs bs))), (1, .val (.int .i64 n)), (4, .any), (5, .any)], ts := [], lc := [] } st =
      evalCode gS fi32 (evalFn gS (m + 11)) (m + 11) X { ps := [(0, .val (.slice (byteVs bs))), (1, .val (.int .i64 n)), (4, .own 0 []), (5, .own 1 (byteVs bs))], ts := T, lc := [] } st := by
  have hk : bs.length ≤ 140737488355328 := by omega
  have hm : fi32.marks = [] := rfl
  have hl : fi32.locals = [] := rfl
  obtain ⟨T1, s1⟩ : ∃ T, evalCode gS fi32 (evalFn gS (m + 11)) (m + 11) (codeAt (codeOf Try.f32) [false]) { ps := [(0, .val (.slice (byteVs bs))), (1, .val (.int .i64 n)), (4, .any), (5, .any)], ts := [], lc := [] } st =
      some (.normal, { ps := [(0, .val (.slice (byteVs bs))), (1, .val (.int .i64 n)), (4, .own 0 []), (5, .any)], ts := T, lc := [] }, st) := by
    simp only [codeAt, codeOf, Try.f32, Option.getD_some, if_true, Bool.false_eq_true, if_false]
    simp [ty24, hm, hl, evalCode, evalOps, wantedE, stepM, marked, stepE, stepOp, startFr, Fr.clear, mapR_eq, take, upE, E.calm, Fr.putO, Fr.put_def, Fr.map_def, Fr.raw_def, Fr.get_def, Fr.lend, Fr.op, lk, ins, lset, E.inval, constV, constVs, V.toE, builtinStep, lenE, elemsOf, okV, okE, E.v?, V.strip, binV, E.int?, E.bool?, appendStep, appended, baseOf, resultsOut, resultE, byteVs_length, flats_bytes, V.strip1, V.one, sizes_bytes, sizesOk, consume, E.weak, unV, sliceStep, boundOf, clip, indexAddrStep, indexStep, addrAdd, loadAt, placeOf, loadCs, cellE, storeAt, splice, E.cells?, V.cells, E.noMem, E.noLoc, E.noLp, callStep, vsOf, retE, V.flat, flats, St.obj, St.set, boxCells, Fr.loc_def, Fr.setLoc_def, E.part?, buildCells, buildSliceV, fillV, chunk, elemV, convV, vsOf, minMax, eqV, strBin, floatBin]
  obtain ⟨T2, s2⟩ : ∃ T, evalCode gS fi32 (evalFn gS (m + 11)) (m + 11) (codeAt (codeOf Try.f32) [true, false]) { ps := [(0, .val (.slice (byteVs bs))), (1, .val (.int .i64 n)), (4, .own 0 []), (5, .any)], ts := T1, lc := [] } st =
      some (.normal, { ps := [(0, .val (.slice (byteVs bs))), (1, .val (.int .i64 n)), (4, .own 0 []), (5, .own 1 (byteVs bs))], ts := T, lc := [] }, st) := by
    simp only [codeAt, codeOf, Try.f32, Option.getD_some, if_true, Bool.false_eq_true, if_false]
    simp [gext, ty24, hk, hm, hl, evalCode, evalOps, wantedE, stepM, marked, stepE, stepOp, startFr, Fr.clear, mapR_eq, take, upE, E.calm, Fr.putO, Fr.put_def, Fr.map_def, Fr.raw_def, Fr.get_def, Fr.lend, Fr.op, lk, ins, lset, E.inval, constV, constVs, V.toE, builtinStep, lenE, elemsOf, okV, okE, E.v?, V.strip, binV, E.int?, E.bool?, appendStep, appended, baseOf, resultsOut, resultE, byteVs_length, flats_bytes, V.strip1, V.one, sizes_bytes, sizesOk, consume, E.weak, unV, sliceStep, boundOf, clip, indexAddrStep, indexStep, addrAdd, loadAt, placeOf, loadCs, cellE, storeAt, splice, E.cells?, V.cells, E.noMem, E.noLoc, E.noLp, callStep, vsOf, retE, V.flat, flats, St.obj, St.set, boxCells, Fr.loc_def, Fr.setLoc_def, E.part?, buildCells, buildSliceV, fillV, chunk, elemV, convV, vsOf, minMax, eqV, strBin, floatBin]
  exact ⟨T2, by rw [seq_norm s1, seq_norm s2]⟩
set_option maxRecDepth 20000 in
theorem nat32 (m n : Nat) (bs : List UInt8) (h0 : n ≤ 4611686018427387904) (h1 : bs.length + 9 ≤ 2 ^ 47) (st : St) :
    evalFn gS (m + 12) 32 [.slice (byteVs bs), .int .i64 n] st = some (.ret (.slice (byteVs (bs ++ vbytes n))) (some 1), st) := by
  have hm : fi32.marks = [] := rfl
  have hl : fi32.locals = [] := rfl
  have e1 : ¬ (n : Int) < 0 := by omega
  have e2 : ¬ (4611686018427387904 : Int) < (n : Int) := by omega
  have e3 : vtop 8 n < 128 := vtop_lt 8 n (by simp; omega)
  have e4 : IntKind.wrap .u8 ((vtop 8 n : Nat) : Int) = IntKind.wrap .u8 ((vtop 8 n : Nat) : Int) := rfl
  have e5 : (vlow 8 n).length ≤ 8 := vlow_len 8 n
  have hk : bs.length + (vlow 8 n).length ≤ 140737488355327 := by omega
  rw [evalFn]; simp only [hrun, evalBody, fn32']
  rw [show fi32.body = codeOf Try.f32 from rfl, split32, start32]
  obtain ⟨T1, s1⟩ := head32 m n bs h1 st (.seq (codeAt (codeOf Try.f32) [true, true, false]) (.seq (.block 0 (.loop (codeAt (codeOf Try.f32) [true, true, true, false, true, true]))) (codeAt (codeOf Try.f32) [true, true, true, true])))
  obtain ⟨T2, s2⟩ : ∃ T, evalCode gS fi32 (evalFn gS (m + 11)) (m + 11) (codeAt (codeOf Try.f32) [true, true, false]) { ps := [(0, .val (.slice (byteVs bs))), (1, .val (.int .i64 n)), (4, .own 0 []), (5, .own 1 (byteVs bs))], ts := T1, lc := [] } st =
      some (.normal, { ps := [(0, .val (.slice (byteVs bs))), (1, .val (.int .i64 n)), (4, .own 0 []), (5, .own 1 (byteVs bs))], ts := T, lc := [] }, st) := by
    simp only [codeAt, codeOf, Try.f32, Option.getD_some, if_true, Bool.false_eq_true, if_false]
    simp [ty24, ty3, hm, hl, ib_lss, ib_gtr, e1, e2, evalCode, evalOps, wantedE, stepM, marked, stepE, stepOp, startFr, Fr.clear, mapR_eq, take, upE, E.calm, Fr.putO, Fr.put_def, Fr.map_def, Fr.raw_def, Fr.get_def, Fr.lend, Fr.op, lk, ins, lset, E.inval, constV, constVs, V.toE, builtinStep, lenE, elemsOf, okV, okE, E.v?, V.strip, binV, E.int?, E.bool?, appendStep, appended, baseOf, resultsOut, resultE, byteVs_length, flats_bytes, V.strip1, V.one, sizes_bytes, sizesOk, consume, E.weak, unV, sliceStep, boundOf, clip, indexAddrStep, indexStep, addrAdd, loadAt, placeOf, loadCs, cellE, storeAt, splice, E.cells?, V.cells, E.noMem, E.noLoc, E.noLp, callStep, vsOf, retE, V.flat, flats, St.obj, St.set, boxCells, Fr.loc_def, Fr.setLoc_def, E.part?, buildCells, buildSliceV, fillV, chunk, elemV, convV, vsOf, minMax, eqV, strBin, floatBin]
  obtain ⟨T3, s3⟩ := loop32 fi32 rfl rfl (evalFn gS (m + 11)) (m + 11) bs st 8 n bs T2 (m + 11) (by omega) (by simp; omega) (by omega) (by omega)
  rw [s1, seq_norm s2, seq_norm (show evalCode gS fi32 (evalFn gS (m + 11)) (m + 11) (.block 0 (.loop (codeAt (codeOf Try.f32) [true, true, true, false, true, true]))) _ st = some (.normal, _, st) by simp only [evalCode, s3]; rfl)]
  simp only [codeAt, codeOf, Try.f32, Option.getD_some, if_true, Bool.false_eq_true, if_false, show fi32.results = [.tmp 4] from rfl]
  simp [ty24, ty3, ty5, hm, hl, snoc_bytes, hk, vbytes, evalCode, evalOps, wantedE, stepM, marked, stepE, stepOp, startFr, Fr.clear, mapR_eq, take, upE, E.calm, Fr.putO, Fr.put_def, Fr.map_def, Fr.raw_def, Fr.get_def, Fr.lend, Fr.op, lk, ins, lset, E.inval, constV, constVs, V.toE, builtinStep, lenE, elemsOf, okV, okE, E.v?, V.strip, binV, E.int?, E.bool?, appendStep, appended, baseOf, resultsOut, resultE, byteVs_length, flats_bytes, V.strip1, V.one, sizes_bytes, sizesOk, consume, E.weak, unV, sliceStep, boundOf, clip, indexAddrStep, indexStep, addrAdd, loadAt, placeOf, loadCs, cellE, storeAt, splice, E.cells?, V.cells, E.noMem, E.noLoc, E.noLp, callStep, vsOf, retE, V.flat, flats, St.obj, St.set, boxCells, Fr.loc_def, Fr.setLoc_def, E.part?, buildCells, buildSliceV, fillV, chunk, elemV, convV, vsOf, minMax, eqV, strBin, floatBin]
end Go.Proofs.Ytiiahehclbmodaa
