/- PackTells: the walk, its end. -/
import Derived.Test.YtiiahehclbmodaaPackSym11
namespace Go.Proofs.Ytiiahehclbmodaa
open Go Go.Ab
set_option linter.unusedVariables false
set_option linter.unusedSimpArgs false
set_option linter.unnecessarySimpa false
theorem full_get (bs : List UInt8) (j : Nat) (h : j < 12) : (byteVs (bs ++ tw))[bs.length + j]? = some (.int .u8 ((j : Int) + 1)) := by
  have h1 : (bs ++ tw)[bs.length + j]? = tw[j]? := by rw [List.getElem?_append_right (by omega)]; congr 1; omega
  have h2 : (byteVs (bs ++ tw))[bs.length + j]? = ((bs ++ tw)[bs.length + j]?).map fun b => V.int .u8 b.toNat := by unfold byteVs; rw [List.getElem?_map]
  rw [h2, h1]
  have : j = 0 ∨ j = 1 ∨ j = 2 ∨ j = 3 ∨ j = 4 ∨ j = 5 ∨ j = 6 ∨ j = 7 ∨ j = 8 ∨ j = 9 ∨ j = 10 ∨ j = 11 := by omega
  rcases this with h | h | h | h | h | h | h | h | h | h | h | h <;> subst h <;> rfl
def FG (bs ss : List UInt8) (n i : Int) (x : Nat) (L : List Int) (j : Nat) (T : List (Nat × E)) : Fr := F (.own 1 (byteVs bs)) n i x (.val (.str ss)) L (.val (.bool false)) (.val (.ptr 0 0)) (.own 1 (byteVs (bs ++ tw))) (.val (.slice (byteVs bs))) (.val (.int .i64 j)) T
set_option maxRecDepth 40000 in
set_option maxHeartbeats 8000000 in
theorem stepG (bs ss : List UInt8) (hl : bs.length ≤ 30) (n i : Int) (x : Nat) (L : List Int) (k j : Nat) (hj : j < 12) (T : List (Nat × E)) :
    ∃ T', ev [true, true, true, true, true, true, true, true, true, false, true, true, true] (FG bs ss n i x L j T) (fst L k) = some (.normal, FG bs ss n i x L (j + 1) T', fst L k) := by
  have e0 : (j : Int) < 12 := by omega
  have e1 : IntKind.wrap .i64 ((bs.length : Int) + (j : Int)) = (bs.length : Int) + (j : Int) := wrap64 (by omega) (by omega)
  have e2 : ((bs.length : Int) + (j : Int)).toNat = bs.length + j := by omega
  have e3 : (0 : Int) ≤ (bs.length : Int) + (j : Int) := by omega
  have e4 := full_get bs j hj
  have e5 : IntKind.wrap .i64 ((j : Int) + 1) = (j : Int) + 1 := wrap64 (by omega) (by omega)
  have e6 : IntKind.wrap .u8 ((j : Int) + 1) = (j : Int) + 1 := by rw [wrap8]; omega
  simp only [ev, codeAt, codeOf, Try.f5, Option.getD_some, if_true, Bool.false_eq_true, if_false]
  simp [FG, F, e0, e1, e2, e3, e4, e5, e6, ib_lss, ib_add, ib_neq, hm5, hl5, ty24, ty3, ty5, evalCode, evalOps, wantedE, stepM, marked, stepE, stepOp, startFr, Fr.clear, mapR_eq, take, upE, E.calm, Fr.putO, Fr.put_def, Fr.map_def, Fr.raw_def, Fr.get_def, Fr.lend, Fr.op, lk, ins, lset, E.inval, constV, constVs, V.toE, builtinStep, lenE, elemsOf, okV, okE, E.v?, V.strip, binV, E.int?, E.bool?, appendStep, appended, baseOf, resultsOut, resultE, byteVs_length, flats_bytes, V.strip1, V.one, sizes_bytes, sizesOk, consume, E.weak, unV, sliceStep, boundOf, clip, indexAddrStep, indexStep, addrAdd, loadAt, placeOf, loadCs, cellE, storeAt, splice, E.cells?, V.cells, E.noMem, E.noLoc, E.noLp, callStep, vsOf, retE, V.flat, flats, St.obj, St.set, boxCells, Fr.loc_def, Fr.setLoc_def, E.part?, buildCells, buildSliceV, fillV, chunk, elemV, convV, vsOf, minMax, eqV, strBin, floatBin]
set_option maxRecDepth 40000 in
set_option maxHeartbeats 8000000 in
theorem stopG (bs ss : List UInt8) (n i : Int) (x : Nat) (L : List Int) (k : Nat) (T : List (Nat × E)) :
    ∃ T', ev [true, true, true, true, true, true, true, true, true, false, true, true, true] (FG bs ss n i x L 12 T) (fst L k) = some (.exit 0, FG bs ss n i x L 12 T', fst L k) := by
  simp only [ev, codeAt, codeOf, Try.f5, Option.getD_some, if_true, Bool.false_eq_true, if_false]
  simp [FG, F, ib_lss, ib_add, ib_neq, hm5, hl5, ty24, ty3, ty5, evalCode, evalOps, wantedE, stepM, marked, stepE, stepOp, startFr, Fr.clear, mapR_eq, take, upE, E.calm, Fr.putO, Fr.put_def, Fr.map_def, Fr.raw_def, Fr.get_def, Fr.lend, Fr.op, lk, ins, lset, E.inval, constV, constVs, V.toE, builtinStep, lenE, elemsOf, okV, okE, E.v?, V.strip, binV, E.int?, E.bool?, appendStep, appended, baseOf, resultsOut, resultE, byteVs_length, flats_bytes, V.strip1, V.one, sizes_bytes, sizesOk, consume, E.weak, unV, sliceStep, boundOf, clip, indexAddrStep, indexStep, addrAdd, loadAt, placeOf, loadCs, cellE, storeAt, splice, E.cells?, V.cells, E.noMem, E.noLoc, E.noLp, callStep, vsOf, retE, V.flat, flats, St.obj, St.set, boxCells, Fr.loc_def, Fr.setLoc_def, E.part?, buildCells, buildSliceV, fillV, chunk, elemV, convV, vsOf, minMax, eqV, strBin, floatBin]
theorem loopG (bs ss : List UInt8) (hl : bs.length ≤ 30) (n i : Int) (x : Nat) (L : List Int) (k : Nat) : ∀ (d j q : Nat) (T : List (Nat × E)), j + d = 12 → d < q →
    ∃ T', iterate (evalCode gS fi5 (evalFn gS 61) 61 (codeAt (codeOf Try.f5) [true, true, true, true, true, true, true, true, true, false, true, true, true])) q (FG bs ss n i x L j T) (fst L k) = some (.exit 0, FG bs ss n i x L 12 T', fst L k)
  | 0, j, q, T, h, hq => by
    obtain ⟨q, rfl⟩ : ∃ p, q = p + 1 := ⟨q - 1, by omega⟩
    have : j = 12 := by omega
    subst this
    obtain ⟨T', e⟩ := stopG bs ss n i x L k T
    unfold ev at e
    exact ⟨T', by simp only [iterate]; rw [e]⟩
  | d + 1, j, q, T, h, hq => by
    obtain ⟨q, rfl⟩ : ∃ p, q = p + 1 := ⟨q - 1, by omega⟩
    obtain ⟨T1, e⟩ := stepG bs ss hl n i x L k j (by omega) T
    obtain ⟨T', e'⟩ := loopG bs ss hl n i x L k d (j + 1) q T1 (by omega) (by omega)
    unfold ev at e
    exact ⟨T', by simp only [iterate]; rw [e]; exact e'⟩
theorem splitG : codeAt (codeOf Try.f5) [true, true, true, true, true, true, true, true, true, false] = .seq (codeAt (codeOf Try.f5) [true, true, true, true, true, true, true, true, true, false, false]) (.block 0 (.loop (codeAt (codeOf Try.f5) [true, true, true, true, true, true, true, true, true, false, true, true, true]))) := by kernel_rfl
set_option maxRecDepth 40000 in
theorem stageG (bs ss : List UInt8) (hl : bs.length ≤ 30) (n i : Int) (x : Nat) (L : List Int) (k : Nat) (T : List (Nat × E)) :
    ∃ T', ev [true, true, true, true, true, true, true, true, true, false] (FE bs ss n i x L T) (fst L k) = some (.normal, FG bs ss n i x L 12 T', fst L k) := by
  obtain ⟨T1, s1⟩ : ∃ T', ev [true, true, true, true, true, true, true, true, true, false, false] (FE bs ss n i x L T) (fst L k) = some (.normal, FG bs ss n i x L 0 T', fst L k) := by
    simp only [ev, codeAt, codeOf, Try.f5, Option.getD_some, if_true, Bool.false_eq_true, if_false]
    simp [FE, FG, F, hm5, hl5, ty24, ty3, evalCode, evalOps, wantedE, stepM, marked, stepE, stepOp, startFr, Fr.clear, mapR_eq, take, upE, E.calm, Fr.putO, Fr.put_def, Fr.map_def, Fr.raw_def, Fr.get_def, Fr.lend, Fr.op, lk, ins, lset, E.inval, constV, constVs, V.toE, builtinStep, lenE, elemsOf, okV, okE, E.v?, V.strip, binV, E.int?, E.bool?, appendStep, appended, baseOf, resultsOut, resultE, byteVs_length, flats_bytes, V.strip1, V.one, sizes_bytes, sizesOk, consume, E.weak, unV, sliceStep, boundOf, clip, indexAddrStep, indexStep, addrAdd, loadAt, placeOf, loadCs, cellE, storeAt, splice, E.cells?, V.cells, E.noMem, E.noLoc, E.noLp, callStep, vsOf, retE, V.flat, flats, St.obj, St.set, boxCells, Fr.loc_def, Fr.setLoc_def, E.part?, buildCells, buildSliceV, fillV, chunk, elemV, convV, vsOf, minMax, eqV, strBin, floatBin]
  obtain ⟨T2, s2⟩ := loopG bs ss hl n i x L k 12 0 61 T1 (by omega) (by omega)
  refine ⟨T2, ?_⟩
  show evalCode gS fi5 (evalFn gS 61) 61 (codeAt (codeOf Try.f5) [true, true, true, true, true, true, true, true, true, false]) _ _ = _
  rw [splitG, seq_norm s1]
  simp only [evalCode]
  rw [s2]; rfl
set_option maxRecDepth 40000 in
theorem stageH (bs ss : List UInt8) (n i : Int) (x : Nat) (L : List Int) (k : Nat) (T : List (Nat × E)) :
    ∃ fr', ev [true, true, true, true, true, true, true, true, true, true] (FG bs ss n i x L 12 T) (fst L k) = some (.ret, fr', fst L k) ∧ fr'.get 12 = .val (.bool true) := by
  simp only [ev, codeAt, codeOf, Try.f5, Option.getD_some, if_true, Bool.false_eq_true, if_false]
  simp [FG, F, hm5, hl5, ty24, ty3, ty9, u24, bytes_of, evalCode, evalOps, wantedE, stepM, marked, stepE, stepOp, startFr, Fr.clear, mapR_eq, take, upE, E.calm, Fr.putO, Fr.put_def, Fr.map_def, Fr.raw_def, Fr.get_def, Fr.lend, Fr.op, lk, ins, lset, E.inval, constV, constVs, V.toE, builtinStep, lenE, elemsOf, okV, okE, E.v?, V.strip, binV, E.int?, E.bool?, appendStep, appended, baseOf, resultsOut, resultE, byteVs_length, flats_bytes, V.strip1, V.one, sizes_bytes, sizesOk, consume, E.weak, unV, sliceStep, boundOf, clip, indexAddrStep, indexStep, addrAdd, loadAt, placeOf, loadCs, cellE, storeAt, splice, E.cells?, V.cells, E.noMem, E.noLoc, E.noLp, callStep, vsOf, retE, V.flat, flats, St.obj, St.set, boxCells, Fr.loc_def, Fr.setLoc_def, E.part?, buildCells, buildSliceV, fillV, chunk, elemV, convV, vsOf, minMax, eqV, strBin, floatBin]
/-- What the law answers, whatever it is given. -/
theorem tells (b s : List UInt8) (n i : Int) (x : Nat) (L : List Int) :
    ∃ st', evalFn gS 62 5 [.slice (byteVs b), .int .i64 n, .int .i64 i, .float .f64 x, .str s, .slice (intVs L)] ⟨[], 0⟩ = some (.ret (.bool true) none, st') := by
  have hbs : (b.take 30).take 30 = b.take 30 := by rw [List.take_take]; rfl
  have hl : (b.take 30).length ≤ 30 := by simp; omega
  have hs : (s.take 300).length ≤ 300 := by simp; omega
  obtain ⟨T1, s1⟩ := stageA b s n i x L (.seq (codeAt (codeOf Try.f5) [true, true, true, true, false]) (.seq (codeAt (codeOf Try.f5) [true, true, true, true, true, false]) (.seq (codeAt (codeOf Try.f5) [true, true, true, true, true, true, false])
    (.seq (codeAt (codeOf Try.f5) [true, true, true, true, true, true, true, false]) (.seq (codeAt (codeOf Try.f5) [true, true, true, true, true, true, true, true, false]) (.seq (codeAt (codeOf Try.f5) [true, true, true, true, true, true, true, true, true, false]) (codeAt (codeOf Try.f5) [true, true, true, true, true, true, true, true, true, true])))))))
  obtain ⟨x', k, T2, hk, s2⟩ := stageB (.own 1 (byteVs (b.take 30))) (.val (.str (s.take 300))) n i x L T1 ⟨_, rfl⟩ ⟨_, rfl⟩
  obtain ⟨n', k', T3, s3⟩ := stageC (.own 1 (byteVs (b.take 30))) (.val (.str (s.take 300))) n i x' L k hk T2 ⟨_, rfl⟩ ⟨_, rfl⟩
  obtain ⟨T4, s4⟩ := stageD1 (b.take 30) (s.take 300) hbs hl n' i x' L k' T3
  obtain ⟨T5, s5⟩ := stageD2 (b.take 30) (s.take 300) hl n' i x' L k' T4
  obtain ⟨T6, s6⟩ := stageE (b.take 30) (s.take 300) hl hs n' i x' L k' T5
  obtain ⟨T7, s7⟩ := stageG (b.take 30) (s.take 300) hl n' i x' L k' T6
  obtain ⟨fr', s8, h8⟩ := stageH (b.take 30) (s.take 300) n' i x' L k' T7
  unfold FE at s6 s7
  refine ⟨fst L k', ?_⟩
  rw [evalFn]; simp only [hrun, evalBody, fn5]
  rw [show fi5.body = codeOf Try.f5 from rfl, split5, start5, s1, seq_norm s2, seq_norm s3, seq_norm s4, seq_norm s5, seq_norm s6, seq_norm s7]
  have s8' : evalCode gS fi5 (evalFn gS 61) 61 (codeAt (codeOf Try.f5) [true, true, true, true, true, true, true, true, true, true]) (FG (b.take 30) (s.take 300) n' i x' L 12 T7) (fst L k') = some (.ret, fr', fst L k') := s8
  rw [s8']
  simp [show fi5.results = [.tmp 12] from rfl, resultsOut, resultE, h8, E.v?, V.strip]
end Go.Proofs.Ytiiahehclbmodaa
