/- The pack seat: what its functions answer, whatever they are given. -/
import Derived.Test.YtiiahehclbmodaaPackTab
namespace Go.Proofs.Ytiiahehclbmodaa
open Go Go.Ab
set_option linter.unusedVariables false
set_option linter.unusedSimpArgs false
set_option linter.unnecessarySimpa false
theorem ty24 : gS.ty 24 = some { k := .slice 1 1 false [.int .u8 0], size := 1, agg := false, zero := [.osl 0 []] } := by kernel_rfl
theorem ty3 : gS.ty 3 = some { k := .int .i64, size := 1, agg := false, zero := [.int .i64 0] } := by kernel_rfl
theorem ty5 : gS.ty 5 = some { k := .int .u8, size := 1, agg := false, zero := [.int .u8 0] } := by kernel_rfl
theorem ty9 : gS.ty 9 = some { k := .str, size := 1, agg := false, zero := [.str []] } := by kernel_rfl
theorem u24 : gS.u8 24 = true := by kernel_rfl
theorem hrun : gS.run = some (47, 22) := rfl
theorem wrap64 {n : Int} (h1 : -9223372036854775808 ≤ n) (h2 : n ≤ 9223372036854775807) : IntKind.wrap .i64 n = n := by
  rw [IntKind.wrap_i64]; omega
theorem sizes_bytes (bs : List UInt8) : sizesOk 1 (byteVs bs) = true := by
  induction bs with
  | nil => rfl
  | cons b r ih => simp [byteVs, sizesOk, V.cells, V.one] at ih ⊢; exact ih
theorem flats_bytes (bs : List UInt8) : flats (byteVs bs) = true := by
  induction bs with
  | nil => rfl
  | cons b r ih => simp [byteVs, flats, V.flat] at ih ⊢; exact ih
theorem take_bytes (bs : List UInt8) (n : Nat) : (byteVs bs).take n = byteVs (bs.take n) := by simp [byteVs, List.map_take]
theorem app_bytes (a b : List UInt8) : byteVs a ++ byteVs b = byteVs (a ++ b) := by simp [byteVs]

theorem fn51 : gS.fn 51 = mkFI Try.f51 true [] (some ([0, 1, 4], [])) := by kernel_rfl
set_option maxRecDepth 10000 in
theorem behind (m : Nat) (bs : List UInt8) (more : Int) (h0 : 0 ≤ more) (h1 : bs.length + more ≤ 2 ^ 47) (st : St) :
    evalFn gS (m + 1) 51 [.slice (byteVs bs), .int .i64 more] st = some (.ret (.slice (byteVs bs)) (some 1), st) := by
  have e1 : IntKind.wrap .i64 (bs.length + more) = bs.length + more := wrap64 (by omega) (by omega)
  have c1 : (0 : Int) ≤ ↑bs.length + more := by omega
  have c2 : ↑bs.length + more ≤ (140737488355328 : Int) := by omega
  have c3 : bs.length ≤ 140737488355328 := by omega
  simp only [evalFn, hrun, evalBody, fn51, mkFI, Try.f51]
  simp [ty24, ty3, intBin, e1, c1, c2, c3, evalCode, evalOps, wantedE, stepM, marked, stepE, stepOp, startFr, Fr.clear, mapR_eq, take, upE, E.calm, Fr.putO, Fr.put_def, Fr.map_def, Fr.raw_def, Fr.get_def, Fr.lend, Fr.op, lk, ins, lset, E.inval, constV, constVs, V.toE, builtinStep, lenE, elemsOf, okV, okE, E.v?, V.strip, binV, E.int?, E.bool?, appendStep, appended, baseOf, resultsOut, resultE, byteVs_length, flats_bytes, V.strip1, V.one, sizes_bytes, sizesOk, consume, E.weak, unV, sliceStep, boundOf, clip, indexAddrStep, indexStep, addrAdd, loadAt, placeOf, loadCs, cellE, storeAt, splice, E.cells?, V.cells, E.noMem, E.noLoc, E.noLp, callStep, vsOf, retE, V.flat, flats, St.obj, St.set, boxCells, Fr.loc_def, Fr.setLoc_def, E.part?, buildCells, buildSliceV, fillV, chunk, elemV, convV, vsOf, minMax, eqV, strBin, floatBin]
theorem ite_min (n l : Nat) : (if n < l then (n : Int) else (l : Int)) = ((min n l : Nat) : Int) := by split <;> omega
theorem map_i (x : Option E) : True := trivial
theorem fn26 : gS.fn 26 = mkFI Try.f26 true [] (some ([0, 1, 4], [])) := by kernel_rfl
set_option maxRecDepth 10000 in
theorem few (m : Nat) (bs : List UInt8) (n : Nat) (h1 : n ≤ 2 ^ 47) (st : St) :
    evalFn gS (m + 1) 26 [.slice (byteVs bs), .int .i64 n] st = some (.ret (.slice (byteVs (bs.take n))) (some 1), st) := by
  have c1 : min n bs.length ≤ bs.length := Nat.min_le_right _ _
  have c2 : min n bs.length ≤ 140737488355328 := by omega
  have c3 : bs.take (min n bs.length) = bs.take n := by rw [List.take_eq_take_iff]; omega
  simp only [evalFn, hrun, evalBody, fn26, mkFI, Try.f26]
  simp [ty24, ty3, intBin, ite_min, c1, c2, c3, take_bytes, evalCode, evalOps, wantedE, stepM, marked, stepE, stepOp, startFr, Fr.clear, mapR_eq, take, upE, E.calm, Fr.putO, Fr.put_def, Fr.map_def, Fr.raw_def, Fr.get_def, Fr.lend, Fr.op, lk, ins, lset, E.inval, constV, constVs, V.toE, builtinStep, lenE, elemsOf, okV, okE, E.v?, V.strip, binV, E.int?, E.bool?, appendStep, appended, baseOf, resultsOut, resultE, byteVs_length, flats_bytes, V.strip1, V.one, sizes_bytes, sizesOk, consume, E.weak, unV, sliceStep, boundOf, clip, indexAddrStep, indexStep, addrAdd, loadAt, placeOf, loadCs, cellE, storeAt, splice, E.cells?, V.cells, E.noMem, E.noLoc, E.noLp, callStep, vsOf, retE, V.flat, flats, St.obj, St.set, boxCells, Fr.loc_def, Fr.setLoc_def, E.part?, buildCells, buildSliceV, fillV, chunk, elemV, convV, vsOf, minMax, eqV, strBin, floatBin]
theorem fn20 : gS.fn 20 = mkFI Try.f20 true [] (some ([0, 1, 4], [])) := by kernel_rfl
set_option maxRecDepth 10000 in
theorem short (m : Nat) (bs : List UInt8) (n : Nat) (st : St) :
    evalFn gS (m + 1) 20 [.str bs, .int .i64 n] st = some (.ret (.str (bs.take n)) none, st) := by
  have c1 : min n bs.length ≤ bs.length := Nat.min_le_right _ _
  have c3 : bs.take (min n bs.length) = bs.take n := by rw [List.take_eq_take_iff]; omega
  simp only [evalFn, hrun, evalBody, fn20, mkFI, Try.f20]
  simp [ty24, ty3, ty9, intBin, ite_min, c1, c3, take_bytes, evalCode, evalOps, wantedE, stepM, marked, stepE, stepOp, startFr, Fr.clear, mapR_eq, take, upE, E.calm, Fr.putO, Fr.put_def, Fr.map_def, Fr.raw_def, Fr.get_def, Fr.lend, Fr.op, lk, ins, lset, E.inval, constV, constVs, V.toE, builtinStep, lenE, elemsOf, okV, okE, E.v?, V.strip, binV, E.int?, E.bool?, appendStep, appended, baseOf, resultsOut, resultE, byteVs_length, flats_bytes, V.strip1, V.one, sizes_bytes, sizesOk, consume, E.weak, unV, sliceStep, boundOf, clip, indexAddrStep, indexStep, addrAdd, loadAt, placeOf, loadCs, cellE, storeAt, splice, E.cells?, V.cells, E.noMem, E.noLoc, E.noLp, callStep, vsOf, retE, V.flat, flats, St.obj, St.set, boxCells, Fr.loc_def, Fr.setLoc_def, E.part?, buildCells, buildSliceV, fillV, chunk, elemV, convV, vsOf, minMax, eqV, strBin, floatBin]
theorem gext (f : Nat) : gS.ext f = if f = 39 then some .floatBits else if f = 64 then some .floatOf else none := by
  show (if f == 39 then some .floatBits else if f == 64 then some .floatOf else none : Option Ext) = _
  simp only [beq_iff_eq]
theorem ty38 : (gS.ty 38).map TI.k = some (.float .f64) := by kernel_rfl
theorem fn65 : gS.fn 65 = mkFI Try.f65 false [] (some ([0, 2], [])) := by kernel_rfl
def ord (x y : Nat) : Bool := FloatKind.f64.format.order x y == some .eq
set_option maxRecDepth 10000 in
theorem isnan (m b : Nat) (st : St) : evalFn gS (m + 1) 65 [.float .f64 b] st = some (.ret (.bool (!ord b b)) none, st) := by
  simp only [evalFn, hrun, evalBody, fn65, mkFI, Try.f65]
  simp [ty38, ord, bne, evalCode, evalOps, wantedE, stepM, marked, stepE, stepOp, startFr, Fr.clear, mapR_eq, take, upE, E.calm, Fr.putO, Fr.put_def, Fr.map_def, Fr.raw_def, Fr.get_def, Fr.lend, Fr.op, lk, ins, lset, E.inval, constV, constVs, V.toE, builtinStep, lenE, elemsOf, okV, okE, E.v?, V.strip, binV, E.int?, E.bool?, appendStep, appended, baseOf, resultsOut, resultE, byteVs_length, flats_bytes, V.strip1, V.one, sizes_bytes, sizesOk, consume, E.weak, unV, sliceStep, boundOf, clip, indexAddrStep, indexStep, addrAdd, loadAt, placeOf, loadCs, cellE, storeAt, splice, E.cells?, V.cells, E.noMem, E.noLoc, E.noLp, callStep, vsOf, retE, V.flat, flats, St.obj, St.set, boxCells, Fr.loc_def, Fr.setLoc_def, E.part?, buildCells, buildSliceV, fillV, chunk, elemV, convV, vsOf, minMax, eqV, strBin, floatBin]
def bitsOf (b : Nat) : Int := if ord b b then (if ord b 0 then 0 else b) else 9221120237041090560
theorem fn58 : gS.fn 58 = mkFI Try.f58 true [] (some ([0, 2], [])) := by kernel_rfl
set_option maxRecDepth 10000 in
theorem bits58 (m b : Nat) (st : St) : evalFn gS (m + 2) 58 [.float .f64 b] st = some (.ret (.int .u64 (bitsOf b)) none, st) := by
  rw [evalFn]; simp only [hrun, evalBody, fn58, mkFI, Try.f58]
  have hx : (FloatKind.f64.format.order b 0 == some .eq) = ord b 0 := rfl
  cases h1 : ord b b <;> cases h2 : ord b 0 <;>
    simp [gext, fn65, mkFI, Try.f65, isnan, ty38, extV, bitsOf, hx, h1, h2, evalCode, evalOps, wantedE, stepM, marked, stepE, stepOp, startFr, Fr.clear, mapR_eq, take, upE, E.calm, Fr.putO, Fr.put_def, Fr.map_def, Fr.raw_def, Fr.get_def, Fr.lend, Fr.op, lk, ins, lset, E.inval, constV, constVs, V.toE, builtinStep, lenE, elemsOf, okV, okE, E.v?, V.strip, binV, E.int?, E.bool?, appendStep, appended, baseOf, resultsOut, resultE, byteVs_length, flats_bytes, V.strip1, V.one, sizes_bytes, sizesOk, consume, E.weak, unV, sliceStep, boundOf, clip, indexAddrStep, indexStep, addrAdd, loadAt, placeOf, loadCs, cellE, storeAt, splice, E.cells?, V.cells, E.noMem, E.noLoc, E.noLp, callStep, vsOf, retE, V.flat, flats, St.obj, St.set, boxCells, Fr.loc_def, Fr.setLoc_def, E.part?, buildCells, buildSliceV, fillV, chunk, elemV, convV, vsOf, minMax, eqV, strBin, floatBin]
theorem fn59 : gS.fn 59 = mkFI Try.f59 true [] (some ([0, 2], [])) := by kernel_rfl
set_option maxRecDepth 10000 in
theorem bits59 (m b : Nat) (st : St) : evalFn gS (m + 2) 59 [.float .f64 b] st = some (.ret (.int .u64 (bitsOf b)) none, st) := by
  rw [evalFn]; simp only [hrun, evalBody, fn59, mkFI, Try.f59]
  have hx : (FloatKind.f64.format.order b 0 == some .eq) = ord b 0 := rfl
  have hy : (FloatKind.f64.format.order b b == some .eq) = ord b b := rfl
  have hz : (FloatKind.f64.format.order b b != some .eq) = !ord b b := rfl
  cases h1 : ord b b <;> cases h2 : ord b 0 <;>
    simp [gext, ty38, extV, bitsOf, hx, hy, hz, h1, h2, evalCode, evalOps, wantedE, stepM, marked, stepE, stepOp, startFr, Fr.clear, mapR_eq, take, upE, E.calm, Fr.putO, Fr.put_def, Fr.map_def, Fr.raw_def, Fr.get_def, Fr.lend, Fr.op, lk, ins, lset, E.inval, constV, constVs, V.toE, builtinStep, lenE, elemsOf, okV, okE, E.v?, V.strip, binV, E.int?, E.bool?, appendStep, appended, baseOf, resultsOut, resultE, byteVs_length, flats_bytes, V.strip1, V.one, sizes_bytes, sizesOk, consume, E.weak, unV, sliceStep, boundOf, clip, indexAddrStep, indexStep, addrAdd, loadAt, placeOf, loadCs, cellE, storeAt, splice, E.cells?, V.cells, E.noMem, E.noLoc, E.noLp, callStep, vsOf, retE, V.flat, flats, St.obj, St.set, boxCells, Fr.loc_def, Fr.setLoc_def, E.part?, buildCells, buildSliceV, fillV, chunk, elemV, convV, vsOf, minMax, eqV, strBin, floatBin]
def u8 (x : Int) : UInt8 := UInt8.ofNat (IntKind.wrap .u8 x).toNat
theorem wrap8 (x : Int) : IntKind.wrap .u8 x = x % 256 := by rw [IntKind.wrap_u8]
theorem u8_v (x : Int) : ((u8 x).toNat : Int) = IntKind.wrap .u8 x := by
  have h1 : (0 : Int) ≤ x % 256 := Int.emod_nonneg _ (by decide)
  have h2 : x % 256 < 256 := Int.emod_lt_of_pos _ (by decide)
  have h3 : (x % 256).toNat < 256 := by omega
  simp only [u8, wrap8, UInt8.toNat_ofNat']
  rw [Nat.mod_eq_of_lt (by simpa using h3)]
  omega
theorem snoc_bytes (bs : List UInt8) (x : Int) : byteVs bs ++ [V.int .u8 (IntKind.wrap .u8 x)] = byteVs (bs ++ [u8 x]) := by
  simp [byteVs, u8_v]
theorem ty52 : gS.ty 52 = some { k := .int .u64, size := 1, agg := false, zero := [.int .u64 0] } := by kernel_rfl
theorem ty54 : gS.ty 54 = some { k := .int .u64, size := 1, agg := false, zero := [.int .u64 0] } := by kernel_rfl
theorem wrapU {n : Int} (h1 : 0 ≤ n) (h2 : n ≤ 18446744073709551615) : IntKind.wrap .u64 n = n := by
  rw [IntKind.wrap_u64]; omega
def words (u : Int) : List UInt8 := [u8 (u.fdiv (2 ^ 56)), u8 (u.fdiv (2 ^ 48)), u8 (u.fdiv (2 ^ 40)), u8 (u.fdiv (2 ^ 32)), u8 (u.fdiv (2 ^ 24)), u8 (u.fdiv (2 ^ 16)), u8 (u.fdiv (2 ^ 8)), u8 (u.fdiv (2 ^ 0))]
theorem fn52 : gS.fn 52 = mkFI Try.f52 true [] (some ([0, 1, 4, 5, 6], [])) := by kernel_rfl
set_option maxRecDepth 20000 in
set_option maxHeartbeats 2000000 in
theorem word52 (m : Nat) (bs : List UInt8) (u : Int) (h1 : bs.length + 8 ≤ 2 ^ 47) (st : St) :
    evalFn gS (m + 12) 52 [.slice (byteVs bs), .int .u64 u] st = some (.ret (.slice (byteVs (bs ++ words u))) (some 1), st) := by
  have hb := behind (m + 10) bs 8 (by omega) (by omega)
  have hk : ∀ c : Nat, 140737488355320 ≤ c → bs.length ≤ c := by omega
  rw [evalFn]; simp only [hrun, evalBody, fn52, mkFI, Try.f52]
  simp [gext, fn51, hb, mkFI, Try.f51, ty24, ty3, ty5, ty52, ty54, intBin, shiftV, iterate, wrap64, wrapU, snoc_bytes, hk, IntKind.bits, words, evalCode, evalOps, wantedE, stepM, marked, stepE, stepOp, startFr, Fr.clear, mapR_eq, take, upE, E.calm, Fr.putO, Fr.put_def, Fr.map_def, Fr.raw_def, Fr.get_def, Fr.lend, Fr.op, lk, ins, lset, E.inval, constV, constVs, V.toE, builtinStep, lenE, elemsOf, okV, okE, E.v?, V.strip, binV, E.int?, E.bool?, appendStep, appended, baseOf, resultsOut, resultE, byteVs_length, flats_bytes, V.strip1, V.one, sizes_bytes, sizesOk, consume, E.weak, unV, sliceStep, boundOf, clip, indexAddrStep, indexStep, addrAdd, loadAt, placeOf, loadCs, cellE, storeAt, splice, E.cells?, V.cells, E.noMem, E.noLoc, E.noLp, callStep, vsOf, retE, V.flat, flats, St.obj, St.set, boxCells, Fr.loc_def, Fr.setLoc_def, E.part?, buildCells, buildSliceV, fillV, chunk, elemV, convV, vsOf, minMax, eqV, strBin, floatBin]
theorem fn57 : gS.fn 57 = mkFI Try.f57 true [] (some ([0, 1, 4, 5, 6], [])) := by kernel_rfl
set_option maxRecDepth 20000 in
set_option maxHeartbeats 2000000 in
theorem word57 (m : Nat) (bs : List UInt8) (u : Int) (h1 : bs.length + 8 ≤ 2 ^ 47) (st : St) :
    evalFn gS (m + 12) 57 [.slice (byteVs bs), .int .u64 u] st = some (.ret (.slice (byteVs (bs ++ words u))) (some 1), st) := by
  have hk : ∀ c : Nat, 140737488355320 ≤ c → bs.length ≤ c := by omega
  rw [evalFn]; simp only [hrun, evalBody, fn57, mkFI, Try.f57]
  simp [gext, ty24, ty3, ty5, ty52, ty54, intBin, shiftV, iterate, wrap64, wrapU, snoc_bytes, hk, IntKind.bits, words, evalCode, evalOps, wantedE, stepM, marked, stepE, stepOp, startFr, Fr.clear, mapR_eq, take, upE, E.calm, Fr.putO, Fr.put_def, Fr.map_def, Fr.raw_def, Fr.get_def, Fr.lend, Fr.op, lk, ins, lset, E.inval, constV, constVs, V.toE, builtinStep, lenE, elemsOf, okV, okE, E.v?, V.strip, binV, E.int?, E.bool?, appendStep, appended, baseOf, resultsOut, resultE, byteVs_length, flats_bytes, V.strip1, V.one, sizes_bytes, sizesOk, consume, E.weak, unV, sliceStep, boundOf, clip, indexAddrStep, indexStep, addrAdd, loadAt, placeOf, loadCs, cellE, storeAt, splice, E.cells?, V.cells, E.noMem, E.noLoc, E.noLp, callStep, vsOf, retE, V.flat, flats, St.obj, St.set, boxCells, Fr.loc_def, Fr.setLoc_def, E.part?, buildCells, buildSliceV, fillV, chunk, elemV, convV, vsOf, minMax, eqV, strBin, floatBin]
end Go.Proofs.Ytiiahehclbmodaa
