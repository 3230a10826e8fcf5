/- The pack seat: numbers, texts. -/
import Derived.Test.YtiiahehclbmodaaPackSym
namespace Go.Proofs.Ytiiahehclbmodaa
open Go Go.Ab
set_option linter.unusedVariables false
set_option linter.unusedSimpArgs false
set_option linter.unnecessarySimpa false
theorem ty2 : gS.ty 2 = some { k := .int .i64, size := 1, agg := false, zero := [.int .i64 0] } := by kernel_rfl
theorem fn22 : gS.fn 22 = mkFI Try.f22 true [] (some ([0, 1, 4], [])) := by kernel_rfl
theorem fn33 : gS.fn 33 = mkFI Try.f33 true [] (some ([0, 1, 4], [])) := by kernel_rfl
theorem fn34 : gS.fn 34 = mkFI Try.f34 true [] (some ([0, 1, 4], [])) := by kernel_rfl
theorem fn35 : gS.fn 35 = mkFI Try.f35 true [] (some ([0, 1, 4], [])) := by kernel_rfl
set_option maxRecDepth 20000 in
theorem int22 (m : Nat) (bs : List UInt8) (n : Int) (h1 : bs.length + 8 ≤ 2 ^ 47) (st : St) :
    evalFn gS (m + 13) 22 [.slice (byteVs bs), .int .i64 n] st = some (.ret (.slice (byteVs (bs ++ words (IntKind.wrap .u64 n)))) (some 1), st) := by
  have hw := fun u => word52 m bs u h1
  rw [evalFn]; simp only [hrun, evalBody, fn22, mkFI, Try.f22]
  simp [gext, fn52, hw, mkFI, Try.f52, ty24, ty2, ty3, ty52, evalCode, evalOps, wantedE, stepM, marked, stepE, stepOp, startFr, Fr.clear, mapR_eq, take, upE, E.calm, Fr.putO, Fr.put_def, Fr.map_def, Fr.raw_def, Fr.get_def, Fr.lend, Fr.op, lk, ins, lset, E.inval, constV, constVs, V.toE, builtinStep, lenE, elemsOf, okV, okE, E.v?, V.strip, binV, E.int?, E.bool?, appendStep, appended, baseOf, resultsOut, resultE, byteVs_length, flats_bytes, V.strip1, V.one, sizes_bytes, sizesOk, consume, E.weak, unV, sliceStep, boundOf, clip, indexAddrStep, indexStep, addrAdd, loadAt, placeOf, loadCs, cellE, storeAt, splice, E.cells?, V.cells, E.noMem, E.noLoc, E.noLp, callStep, vsOf, retE, V.flat, flats, St.obj, St.set, boxCells, Fr.loc_def, Fr.setLoc_def, E.part?, buildCells, buildSliceV, fillV, chunk, elemV, convV, vsOf, minMax, eqV, strBin, floatBin]
set_option maxRecDepth 20000 in
theorem int33 (m : Nat) (bs : List UInt8) (n : Int) (h1 : bs.length + 8 ≤ 2 ^ 47) (st : St) :
    evalFn gS (m + 13) 33 [.slice (byteVs bs), .int .i64 n] st = some (.ret (.slice (byteVs (bs ++ words (IntKind.wrap .u64 n)))) (some 1), st) := by
  have hw := fun u => word57 m bs u h1
  rw [evalFn]; simp only [hrun, evalBody, fn33, mkFI, Try.f33]
  simp [gext, fn57, hw, mkFI, Try.f57, ty24, ty2, ty3, ty52, evalCode, evalOps, wantedE, stepM, marked, stepE, stepOp, startFr, Fr.clear, mapR_eq, take, upE, E.calm, Fr.putO, Fr.put_def, Fr.map_def, Fr.raw_def, Fr.get_def, Fr.lend, Fr.op, lk, ins, lset, E.inval, constV, constVs, V.toE, builtinStep, lenE, elemsOf, okV, okE, E.v?, V.strip, binV, E.int?, E.bool?, appendStep, appended, baseOf, resultsOut, resultE, byteVs_length, flats_bytes, V.strip1, V.one, sizes_bytes, sizesOk, consume, E.weak, unV, sliceStep, boundOf, clip, indexAddrStep, indexStep, addrAdd, loadAt, placeOf, loadCs, cellE, storeAt, splice, E.cells?, V.cells, E.noMem, E.noLoc, E.noLp, callStep, vsOf, retE, V.flat, flats, St.obj, St.set, boxCells, Fr.loc_def, Fr.setLoc_def, E.part?, buildCells, buildSliceV, fillV, chunk, elemV, convV, vsOf, minMax, eqV, strBin, floatBin]
set_option maxRecDepth 20000 in
theorem float34 (m : Nat) (bs : List UInt8) (x : Nat) (h1 : bs.length + 8 ≤ 2 ^ 47) (st : St) :
    evalFn gS (m + 13) 34 [.slice (byteVs bs), .float .f64 x] st = some (.ret (.slice (byteVs (bs ++ words (bitsOf x)))) (some 1), st) := by
  have hw := fun u => word52 m bs u h1
  have hx := bits58 (m + 10) x
  rw [evalFn]; simp only [hrun, evalBody, fn34, mkFI, Try.f34]
  simp [gext, fn52, fn58, hw, hx, mkFI, Try.f52, Try.f58, ty24, ty2, ty3, ty52, evalCode, evalOps, wantedE, stepM, marked, stepE, stepOp, startFr, Fr.clear, mapR_eq, take, upE, E.calm, Fr.putO, Fr.put_def, Fr.map_def, Fr.raw_def, Fr.get_def, Fr.lend, Fr.op, lk, ins, lset, E.inval, constV, constVs, V.toE, builtinStep, lenE, elemsOf, okV, okE, E.v?, V.strip, binV, E.int?, E.bool?, appendStep, appended, baseOf, resultsOut, resultE, byteVs_length, flats_bytes, V.strip1, V.one, sizes_bytes, sizesOk, consume, E.weak, unV, sliceStep, boundOf, clip, indexAddrStep, indexStep, addrAdd, loadAt, placeOf, loadCs, cellE, storeAt, splice, E.cells?, V.cells, E.noMem, E.noLoc, E.noLp, callStep, vsOf, retE, V.flat, flats, St.obj, St.set, boxCells, Fr.loc_def, Fr.setLoc_def, E.part?, buildCells, buildSliceV, fillV, chunk, elemV, convV, vsOf, minMax, eqV, strBin, floatBin]
set_option maxRecDepth 20000 in
theorem float35 (m : Nat) (bs : List UInt8) (x : Nat) (h1 : bs.length + 8 ≤ 2 ^ 47) (st : St) :
    evalFn gS (m + 13) 35 [.slice (byteVs bs), .float .f64 x] st = some (.ret (.slice (byteVs (bs ++ words (bitsOf x)))) (some 1), st) := by
  have hw := fun u => word57 m bs u h1
  have hx := bits59 (m + 10) x
  rw [evalFn]; simp only [hrun, evalBody, fn35, mkFI, Try.f35]
  simp [gext, fn57, fn59, hw, hx, mkFI, Try.f57, Try.f59, ty24, ty2, ty3, ty52, evalCode, evalOps, wantedE, stepM, marked, stepE, stepOp, startFr, Fr.clear, mapR_eq, take, upE, E.calm, Fr.putO, Fr.put_def, Fr.map_def, Fr.raw_def, Fr.get_def, Fr.lend, Fr.op, lk, ins, lset, E.inval, constV, constVs, V.toE, builtinStep, lenE, elemsOf, okV, okE, E.v?, V.strip, binV, E.int?, E.bool?, appendStep, appended, baseOf, resultsOut, resultE, byteVs_length, flats_bytes, V.strip1, V.one, sizes_bytes, sizesOk, consume, E.weak, unV, sliceStep, boundOf, clip, indexAddrStep, indexStep, addrAdd, loadAt, placeOf, loadCs, cellE, storeAt, splice, E.cells?, V.cells, E.noMem, E.noLoc, E.noLp, callStep, vsOf, retE, V.flat, flats, St.obj, St.set, boxCells, Fr.loc_def, Fr.setLoc_def, E.part?, buildCells, buildSliceV, fillV, chunk, elemV, convV, vsOf, minMax, eqV, strBin, floatBin]
/-- A part of a code. -/
def codeAt : Code → List Bool → Code
  | c, [] => c
  | .seq a b, x :: r => if x then codeAt b r else codeAt a r
  | .cond _ a b, x :: r => if x then codeAt b r else codeAt a r
  | .block _ b, _ :: r => codeAt b r
  | .loop b, _ :: r => codeAt b r
  | c, _ => c
def codeOf (f : Func) : Code := f.body.getD .skip
/-- Seven bits a byte: all but the last. -/
def vlow : Nat → Nat → List UInt8
  | 0, _ => []
  | k + 1, n => if n < 128 then [] else u8 ((n % 128 + 128 : Nat) : Int) :: vlow k (n / 128)
def vtop : Nat → Nat → Nat
  | 0, n => n
  | k + 1, n => if n < 128 then n else vtop k (n / 128)
theorem fn19 : gS.fn 19 = mkFI Try.f19 true [] (some ([0, 1, 4, 5], [])) := by kernel_rfl
theorem fn32 : gS.fn 32 = mkFI Try.f32 true [] (some ([0, 1, 4, 5], [])) := by kernel_rfl
theorem land127 (n : Nat) (h : n < 2 ^ 63) : ((BitVec.ofInt 64 (n : Int) &&& BitVec.ofInt 64 127).toNat) = n % 128 := by
  have h1 : (BitVec.ofInt 64 (n : Int)).toNat = n := by simp [BitVec.toNat_ofInt]; omega
  have h2 : (BitVec.ofInt 64 (127 : Int)).toNat = 127 := by decide
  rw [BitVec.toNat_and, h1, h2]
  exact Nat.and_two_pow_sub_one_eq_mod n 7
theorem lor128 (n : Nat) (h : n < 128) : ((BitVec.ofInt 8 (n : Int) ||| BitVec.ofInt 8 128).toNat) = n + 128 := by
  have h1 : (BitVec.ofInt 8 (n : Int)).toNat = n := by simp [BitVec.toNat_ofInt]; omega
  have h2 : (BitVec.ofInt 8 (128 : Int)).toNat = 128 := by decide
  rw [BitVec.toNat_or, h1, h2]
  have h3 := Nat.two_pow_add_eq_or_of_lt (i := 7) (b := n) (by simpa using h) 1
  rw [Nat.or_comm]
  simp only [Nat.mul_one] at h3
  rw [show (128 : Nat) = 2 ^ 7 from rfl, ← h3]; omega
set_option maxRecDepth 20000 in
theorem ib_add (k : IntKind) (a b : Int) : intBin .add k a b = some (.int k (k.wrap (a + b))) := rfl
theorem ib_sub (k : IntKind) (a b : Int) : intBin .sub k a b = some (.int k (k.wrap (a - b))) := rfl
theorem ib_mul (k : IntKind) (a b : Int) : intBin .mul k a b = some (.int k (k.wrap (a * b))) := rfl
theorem ib_eql (k : IntKind) (a b : Int) : intBin .eql k a b = some (.bool (a == b)) := rfl
theorem ib_neq (k : IntKind) (a b : Int) : intBin .neq k a b = some (.bool (a != b)) := rfl
theorem ib_lss (k : IntKind) (a b : Int) : intBin .lss k a b = some (.bool (decide (a < b))) := rfl
theorem ib_leq (k : IntKind) (a b : Int) : intBin .leq k a b = some (.bool (decide (a ≤ b))) := rfl
theorem ib_gtr (k : IntKind) (a b : Int) : intBin .gtr k a b = some (.bool (decide (a > b))) := rfl
theorem ib_geq (k : IntKind) (a b : Int) : intBin .geq k a b = some (.bool (decide (a ≥ b))) := rfl
theorem ib_quo (k : IntKind) (a b : Int) : intBin .quo k a b = if b = 0 then none else some (.int k (k.wrap (a.tdiv b))) := rfl
theorem ib_rem (k : IntKind) (a b : Int) : intBin .rem k a b = if b = 0 then none else some (.int k (a.tmod b)) := rfl
theorem and127 (n : Nat) (h : n < 2 ^ 63) : intBin .and .i64 (n : Int) 127 = some (.int .i64 ((n % 128 : Nat) : Int)) := by
  show some (V.int .i64 (IntKind.wrap .i64 ((BitVec.ofInt 64 (n : Int) &&& BitVec.ofInt 64 127).toNat))) = _
  rw [land127 n h, wrap64 (by omega) (by omega)]
theorem or128 (n : Nat) (h : n < 128) : intBin .or .u8 (n : Int) 128 = some (.int .u8 (IntKind.wrap .u8 ((n + 128 : Nat) : Int))) := by
  show some (V.int .u8 (IntKind.wrap .u8 ((BitVec.ofInt 8 (n : Int) ||| BitVec.ofInt 8 128).toNat))) = _
  rw [lor128 n h]
set_option maxRecDepth 20000 in
theorem step19 (fi : FI) (hm : fi.marks = []) (hl : fi.locals = []) (call : Calling) (q n : Nat) (b0 out : List UInt8) (T : List (Nat × E)) (st : St) (hn : n < 2 ^ 63) (hlen : out.length < 2 ^ 47) (h : 128 ≤ n) :
    ∃ T', evalCode gS fi call q (codeAt (codeOf Try.f19) [true, true, true, false, true, true])
      { ps := [(0, .val (.slice (byteVs b0))), (1, .val (.int .i64 n)), (4, .own 0 []), (5, .own 1 (byteVs out))], ts := T, lc := [] } st =
      some (.normal, { ps := [(0, .val (.slice (byteVs b0))), (1, .val (.int .i64 ((n / 128 : Nat) : Int))), (4, .own 0 []), (5, .own 1 (byteVs (out ++ [u8 ((n % 128 + 128 : Nat) : Int)])))], ts := T', lc := [] }, st) := by
  have e1 : (128 : Int) ≤ (n : Int) := by omega
  have e2 := and127 n hn
  have e3 : IntKind.wrap .u8 ((n % 128 : Nat) : Int) = ((n % 128 : Nat) : Int) := by rw [wrap8]; omega
  have e4 : IntKind.wrap .i64 ((n % 128 : Nat) : Int) = ((n % 128 : Nat) : Int) := wrap64 (by omega) (by omega)
  have e5 := or128 (n % 128) (Nat.mod_lt _ (by decide))
  have e6 : ((n : Int)).fdiv 128 = ((n / 128 : Nat) : Int) := by rw [Int.fdiv_eq_ediv_of_nonneg _ (by decide)]; omega
  have e7 : IntKind.wrap .i64 ((n / 128 : Nat) : Int) = ((n / 128 : Nat) : Int) := wrap64 (by omega) (by omega)
  have hk : out.length ≤ 140737488355327 := by omega
  simp only [codeAt, codeOf, Try.f19, Option.getD_some, if_true, Bool.false_eq_true, if_false]
  simp [-Int.natCast_emod, -Int.natCast_ediv, -Int.natCast_add, gext, ty24, ty2, ty3, ty5, ty54, ib_add, ib_sub, ib_lss, ib_geq, shiftV, hm, hl, IntKind.bits, snoc_bytes, h, hk, e1, e2, e3, e4, e5, e6, e7, evalCode, evalOps, wantedE, stepM, marked, stepE, stepOp, startFr, Fr.clear, mapR_eq, take, upE, E.calm, Fr.putO, Fr.put_def, Fr.map_def, Fr.raw_def, Fr.get_def, Fr.lend, Fr.op, lk, ins, lset, E.inval, constV, constVs, V.toE, builtinStep, lenE, elemsOf, okV, okE, E.v?, V.strip, binV, E.int?, E.bool?, appendStep, appended, baseOf, resultsOut, resultE, byteVs_length, flats_bytes, V.strip1, V.one, sizes_bytes, sizesOk, consume, E.weak, unV, sliceStep, boundOf, clip, indexAddrStep, indexStep, addrAdd, loadAt, placeOf, loadCs, cellE, storeAt, splice, E.cells?, V.cells, E.noMem, E.noLoc, E.noLp, callStep, vsOf, retE, V.flat, flats, St.obj, St.set, boxCells, Fr.loc_def, Fr.setLoc_def, E.part?, buildCells, buildSliceV, fillV, chunk, elemV, convV, vsOf, minMax, eqV, strBin, floatBin]
set_option maxRecDepth 20000 in
theorem stop19 (fi : FI) (hm : fi.marks = []) (hl : fi.locals = []) (call : Calling) (q n : Nat) (b0 out : List UInt8) (T : List (Nat × E)) (st : St) (h : n < 128) :
    ∃ T', evalCode gS fi call q (codeAt (codeOf Try.f19) [true, true, true, false, true, true])
      { ps := [(0, .val (.slice (byteVs b0))), (1, .val (.int .i64 n)), (4, .own 0 []), (5, .own 1 (byteVs out))], ts := T, lc := [] } st =
      some (.exit 0, { ps := [(0, .val (.slice (byteVs b0))), (1, .val (.int .i64 n)), (4, .own 0 []), (5, .own 1 (byteVs out))], ts := T', lc := [] }, st) := by
  have e1 : ¬ (128 : Int) ≤ (n : Int) := by omega
  simp only [codeAt, codeOf, Try.f19, Option.getD_some, if_true, Bool.false_eq_true, if_false]
  simp [gext, ty24, ty2, ty3, ty5, ty54, ib_add, ib_sub, ib_lss, ib_geq, shiftV, hm, hl, IntKind.bits, snoc_bytes, e1, evalCode, evalOps, wantedE, stepM, marked, stepE, stepOp, startFr, Fr.clear, mapR_eq, take, upE, E.calm, Fr.putO, Fr.put_def, Fr.map_def, Fr.raw_def, Fr.get_def, Fr.lend, Fr.op, lk, ins, lset, E.inval, constV, constVs, V.toE, builtinStep, lenE, elemsOf, okV, okE, E.v?, V.strip, binV, E.int?, E.bool?, appendStep, appended, baseOf, resultsOut, resultE, byteVs_length, flats_bytes, V.strip1, V.one, sizes_bytes, sizesOk, consume, E.weak, unV, sliceStep, boundOf, clip, indexAddrStep, indexStep, addrAdd, loadAt, placeOf, loadCs, cellE, storeAt, splice, E.cells?, V.cells, E.noMem, E.noLoc, E.noLp, callStep, vsOf, retE, V.flat, flats, St.obj, St.set, boxCells, Fr.loc_def, Fr.setLoc_def, E.part?, buildCells, buildSliceV, fillV, chunk, elemV, convV, vsOf, minMax, eqV, strBin, floatBin]
theorem loop19 (fi : FI) (hm : fi.marks = []) (hl : fi.locals = []) (call : Calling) (q : Nat) (b0 : List UInt8) (st : St) :
    ∀ (k n : Nat) (out : List UInt8) (T : List (Nat × E)) (j : Nat), n < 2 ^ 63 → n < 128 ^ (k + 1) → out.length + k < 2 ^ 47 → k < j →
    ∃ T', iterate (evalCode gS fi call q (codeAt (codeOf Try.f19) [true, true, true, false, true, true])) j
      { ps := [(0, .val (.slice (byteVs b0))), (1, .val (.int .i64 n)), (4, .own 0 []), (5, .own 1 (byteVs out))], ts := T, lc := [] } st =
      some (.exit 0, { ps := [(0, .val (.slice (byteVs b0))), (1, .val (.int .i64 (vtop k n))), (4, .own 0 []), (5, .own 1 (byteVs (out ++ vlow k n)))], ts := T', lc := [] }, st)
  | 0, n, out, T, j, h1, h2, h3, h4 => by
    obtain ⟨j, rfl⟩ : ∃ i, j = i + 1 := ⟨j - 1, by omega⟩
    obtain ⟨T', e⟩ := stop19 fi hm hl call q n b0 out T st (by omega)
    exact ⟨T', by simp [iterate, e, vlow, vtop]⟩
  | k + 1, n, out, T, j, h1, h2, h3, h4 => by
    obtain ⟨j, rfl⟩ : ∃ i, j = i + 1 := ⟨j - 1, by omega⟩
    by_cases h : n < 128
    · obtain ⟨T', e⟩ := stop19 fi hm hl call q n b0 out T st h
      exact ⟨T', by simp [iterate, e, vlow, vtop, h]⟩
    · obtain ⟨T1, e⟩ := step19 fi hm hl call q n b0 out T st h1 (by omega) (by omega)
      have h5 : n / 128 < 128 ^ (k + 1) := by rw [Nat.div_lt_iff_lt_mul (by decide)]; rw [Nat.pow_succ] at h2; exact h2
      obtain ⟨T', e'⟩ := loop19 fi hm hl call q b0 st k (n / 128) (out ++ [u8 ((n % 128 + 128 : Nat) : Int)]) T1 j (by omega) h5 (by simp; omega) (by omega)
      refine ⟨T', ?_⟩
      simp only [iterate, e, e']
      simp [vlow, vtop, h]
theorem vtop_lt : ∀ (k n : Nat), n < 128 ^ (k + 1) → vtop k n < 128
  | 0, n, h => by simpa [vtop] using h
  | k + 1, n, h => by
    simp only [vtop]
    split
    · assumption
    · exact vtop_lt k _ (by rw [Nat.div_lt_iff_lt_mul (by decide)]; rw [Nat.pow_succ] at h; exact h)
theorem vlow_len : ∀ (k n : Nat), (vlow k n).length ≤ k
  | 0, n => by simp [vlow]
  | k + 1, n => by
    simp only [vlow]
    split
    · simp
    · simpa using vlow_len k (n / 128)
def vbytes (n : Nat) : List UInt8 := vlow 8 n ++ [u8 (vtop 8 n)]
theorem seq_norm {g : G} {fi : FI} {call : Calling} {q : Nat} {a b : Code} {fr fr' : Fr} {st st' : St} (h : evalCode g fi call q a fr st = some (.normal, fr', st')) : evalCode g fi call q (.seq a b) fr st = evalCode g fi call q b fr' st' := by
  simp only [evalCode, h]
theorem seq_out {g : G} {fi : FI} {call : Calling} {q : Nat} {a b : Code} {fr fr' : Fr} {st st' : St} (h : evalCode g fi call q a fr st = some (.ret, fr', st')) : evalCode g fi call q (.seq a b) fr st = some (.ret, fr', st') := by
  simp only [evalCode, h]
theorem split19 : codeOf Try.f19 = .seq (codeAt (codeOf Try.f19) [false]) (.seq (codeAt (codeOf Try.f19) [true, false]) (.seq (codeAt (codeOf Try.f19) [true, true, false]) (.seq (.block 0 (.loop (codeAt (codeOf Try.f19) [true, true, true, false, true, true]))) (codeAt (codeOf Try.f19) [true, true, true, true])))) := by kernel_rfl
noncomputable def fi19 : FI := { body := codeOf Try.f19, ntmps := 31, results := [.tmp 4], pers := [0, 1, 4, 5], locals := [], pure := true, marks := [] }
theorem fn19' : gS.fn 19 = some fi19 := by kernel_rfl
theorem start19 (a b : V) : startFr fi19 [a, b] = { ps := [(0, .val a), (1, .val b), (4, .any), (5, .any)], ts := [], lc := [] } := rfl
set_option maxRecDepth 20000 in
theorem head19 (m : Nat) (n : Int) (bs : List UInt8) (h1 : bs.length + 9 ≤ 2 ^ 47) (st : St) (X : Code) :
    ∃ T, evalCode gS fi19 (evalFn gS (m + 11)) (m + 11) (.seq (codeAt (codeOf Try.f19) [false]) (.seq (codeAt (codeOf Try.f19) [true, false]) X)) { ps := [(0, .val (.slice (byteVs bs))), (1, .val (.int .i64 n)), (4, .any), (5, .any)], ts := [], lc := [] } st =
      evalCode gS fi19 (evalFn gS (m + 11)) (m + 11) X { ps := [(0, .val (.slice (byteVs bs))), (1, .val (.int .i64 n)), (4, .own 0 []), (5, .own 1 (byteVs bs))], ts := T, lc := [] } st := by
  have hb := behind (m + 10) bs 9 (by omega) (by omega)
  have hm : fi19.marks = [] := rfl
  have hl : fi19.locals = [] := rfl
  obtain ⟨T1, s1⟩ : ∃ T, evalCode gS fi19 (evalFn gS (m + 11)) (m + 11) (codeAt (codeOf Try.f19) [false]) { ps := [(0, .val (.slice (byteVs bs))), (1, .val (.int .i64 n)), (4, .any), (5, .any)], ts := [], lc := [] } st =
      some (.normal, { ps := [(0, .val (.slice (byteVs bs))), (1, .val (.int .i64 n)), (4, .own 0 []), (5, .any)], ts := T, lc := [] }, st) := by
    simp only [codeAt, codeOf, Try.f19, Option.getD_some, if_true, Bool.false_eq_true, if_false]
    simp [ty24, hm, hl, evalCode, evalOps, wantedE, stepM, marked, stepE, stepOp, startFr, Fr.clear, mapR_eq, take, upE, E.calm, Fr.putO, Fr.put_def, Fr.map_def, Fr.raw_def, Fr.get_def, Fr.lend, Fr.op, lk, ins, lset, E.inval, constV, constVs, V.toE, builtinStep, lenE, elemsOf, okV, okE, E.v?, V.strip, binV, E.int?, E.bool?, appendStep, appended, baseOf, resultsOut, resultE, byteVs_length, flats_bytes, V.strip1, V.one, sizes_bytes, sizesOk, consume, E.weak, unV, sliceStep, boundOf, clip, indexAddrStep, indexStep, addrAdd, loadAt, placeOf, loadCs, cellE, storeAt, splice, E.cells?, V.cells, E.noMem, E.noLoc, E.noLp, callStep, vsOf, retE, V.flat, flats, St.obj, St.set, boxCells, Fr.loc_def, Fr.setLoc_def, E.part?, buildCells, buildSliceV, fillV, chunk, elemV, convV, vsOf, minMax, eqV, strBin, floatBin]
  obtain ⟨T2, s2⟩ : ∃ T, evalCode gS fi19 (evalFn gS (m + 11)) (m + 11) (codeAt (codeOf Try.f19) [true, false]) { ps := [(0, .val (.slice (byteVs bs))), (1, .val (.int .i64 n)), (4, .own 0 []), (5, .any)], ts := T1, lc := [] } st =
      some (.normal, { ps := [(0, .val (.slice (byteVs bs))), (1, .val (.int .i64 n)), (4, .own 0 []), (5, .own 1 (byteVs bs))], ts := T, lc := [] }, st) := by
    simp only [codeAt, codeOf, Try.f19, Option.getD_some, if_true, Bool.false_eq_true, if_false]
    simp [gext, fn51, hb, mkFI, Try.f51, ty24, hm, hl, evalCode, evalOps, wantedE, stepM, marked, stepE, stepOp, startFr, Fr.clear, mapR_eq, take, upE, E.calm, Fr.putO, Fr.put_def, Fr.map_def, Fr.raw_def, Fr.get_def, Fr.lend, Fr.op, lk, ins, lset, E.inval, constV, constVs, V.toE, builtinStep, lenE, elemsOf, okV, okE, E.v?, V.strip, binV, E.int?, E.bool?, appendStep, appended, baseOf, resultsOut, resultE, byteVs_length, flats_bytes, V.strip1, V.one, sizes_bytes, sizesOk, consume, E.weak, unV, sliceStep, boundOf, clip, indexAddrStep, indexStep, addrAdd, loadAt, placeOf, loadCs, cellE, storeAt, splice, E.cells?, V.cells, E.noMem, E.noLoc, E.noLp, callStep, vsOf, retE, V.flat, flats, St.obj, St.set, boxCells, Fr.loc_def, Fr.setLoc_def, E.part?, buildCells, buildSliceV, fillV, chunk, elemV, convV, vsOf, minMax, eqV, strBin, floatBin]
  exact ⟨T2, by rw [seq_norm s1, seq_norm s2]⟩
set_option maxRecDepth 20000 in
theorem nat19 (m n : Nat) (bs : List UInt8) (h0 : n ≤ 4611686018427387904) (h1 : bs.length + 9 ≤ 2 ^ 47) (st : St) :
    evalFn gS (m + 12) 19 [.slice (byteVs bs), .int .i64 n] st = some (.ret (.slice (byteVs (bs ++ vbytes n))) (some 1), st) := by
  have hm : fi19.marks = [] := rfl
  have hl : fi19.locals = [] := rfl
  have e1 : ¬ (n : Int) < 0 := by omega
  have e2 : ¬ (4611686018427387904 : Int) < (n : Int) := by omega
  have e3 : vtop 8 n < 128 := vtop_lt 8 n (by simp; omega)
  have e4 : IntKind.wrap .u8 ((vtop 8 n : Nat) : Int) = IntKind.wrap .u8 ((vtop 8 n : Nat) : Int) := rfl
  have e5 : (vlow 8 n).length ≤ 8 := vlow_len 8 n
  have hk : bs.length + (vlow 8 n).length ≤ 140737488355327 := by omega
  rw [evalFn]; simp only [hrun, evalBody, fn19']
  rw [show fi19.body = codeOf Try.f19 from rfl, split19, start19]
  obtain ⟨T1, s1⟩ := head19 m n bs h1 st (.seq (codeAt (codeOf Try.f19) [true, true, false]) (.seq (.block 0 (.loop (codeAt (codeOf Try.f19) [true, true, true, false, true, true]))) (codeAt (codeOf Try.f19) [true, true, true, true])))
  obtain ⟨T2, s2⟩ : ∃ T, evalCode gS fi19 (evalFn gS (m + 11)) (m + 11) (codeAt (codeOf Try.f19) [true, true, false]) { ps := [(0, .val (.slice (byteVs bs))), (1, .val (.int .i64 n)), (4, .own 0 []), (5, .own 1 (byteVs bs))], ts := T1, lc := [] } st =
      some (.normal, { ps := [(0, .val (.slice (byteVs bs))), (1, .val (.int .i64 n)), (4, .own 0 []), (5, .own 1 (byteVs bs))], ts := T, lc := [] }, st) := by
    simp only [codeAt, codeOf, Try.f19, Option.getD_some, if_true, Bool.false_eq_true, if_false]
    simp [ty24, ty3, hm, hl, ib_lss, ib_gtr, e1, e2, evalCode, evalOps, wantedE, stepM, marked, stepE, stepOp, startFr, Fr.clear, mapR_eq, take, upE, E.calm, Fr.putO, Fr.put_def, Fr.map_def, Fr.raw_def, Fr.get_def, Fr.lend, Fr.op, lk, ins, lset, E.inval, constV, constVs, V.toE, builtinStep, lenE, elemsOf, okV, okE, E.v?, V.strip, binV, E.int?, E.bool?, appendStep, appended, baseOf, resultsOut, resultE, byteVs_length, flats_bytes, V.strip1, V.one, sizes_bytes, sizesOk, consume, E.weak, unV, sliceStep, boundOf, clip, indexAddrStep, indexStep, addrAdd, loadAt, placeOf, loadCs, cellE, storeAt, splice, E.cells?, V.cells, E.noMem, E.noLoc, E.noLp, callStep, vsOf, retE, V.flat, flats, St.obj, St.set, boxCells, Fr.loc_def, Fr.setLoc_def, E.part?, buildCells, buildSliceV, fillV, chunk, elemV, convV, vsOf, minMax, eqV, strBin, floatBin]
  obtain ⟨T3, s3⟩ := loop19 fi19 rfl rfl (evalFn gS (m + 11)) (m + 11) bs st 8 n bs T2 (m + 11) (by omega) (by simp; omega) (by omega) (by omega)
  rw [s1, seq_norm s2, seq_norm (show evalCode gS fi19 (evalFn gS (m + 11)) (m + 11) (.block 0 (.loop (codeAt (codeOf Try.f19) [true, true, true, false, true, true]))) _ st = some (.normal, _, st) by simp only [evalCode, s3]; rfl)]
  simp only [codeAt, codeOf, Try.f19, Option.getD_some, if_true, Bool.false_eq_true, if_false, show fi19.results = [.tmp 4] from rfl]
  simp [ty24, ty3, ty5, hm, hl, snoc_bytes, hk, vbytes, evalCode, evalOps, wantedE, stepM, marked, stepE, stepOp, startFr, Fr.clear, mapR_eq, take, upE, E.calm, Fr.putO, Fr.put_def, Fr.map_def, Fr.raw_def, Fr.get_def, Fr.lend, Fr.op, lk, ins, lset, E.inval, constV, constVs, V.toE, builtinStep, lenE, elemsOf, okV, okE, E.v?, V.strip, binV, E.int?, E.bool?, appendStep, appended, baseOf, resultsOut, resultE, byteVs_length, flats_bytes, V.strip1, V.one, sizes_bytes, sizesOk, consume, E.weak, unV, sliceStep, boundOf, clip, indexAddrStep, indexStep, addrAdd, loadAt, placeOf, loadCs, cellE, storeAt, splice, E.cells?, V.cells, E.noMem, E.noLoc, E.noLp, callStep, vsOf, retE, V.flat, flats, St.obj, St.set, boxCells, Fr.loc_def, Fr.setLoc_def, E.part?, buildCells, buildSliceV, fillV, chunk, elemV, convV, vsOf, minMax, eqV, strBin, floatBin]
end Go.Proofs.Ytiiahehclbmodaa
