/- The pack seat: raw numbers. -/
import Derived.Test.YtiiahehclbmodaaPackSym4
namespace Go.Proofs.Ytiiahehclbmodaa
open Go Go.Ab
set_option linter.unusedVariables false
set_option linter.unusedSimpArgs false
set_option linter.unnecessarySimpa false

/-- A drawn region of quiet operations, in the order in which they stand. -/
noncomputable def evalD (g : G) (fi : FI) (call : Calling) : List Oper → Fr → St → Option Fr
  | [], fr, _ => some fr
  | o :: os, fr, st =>
    match o.guard with
    | some _ => none
    | none =>
      if isQM g fi o then
        match o.op, o.dst with
        | .move (.tmp u), some t => match fr.get u with
          | .own _ _ => none
          | e => evalD g fi call os (fr.put t e.still) st
        | .assign (.tmp u), some t => match fr.get u with
          | .own _ _ => none
          | e => evalD g fi call os (fr.put t e.still) st
        | _, d => match stepQ g fi call fr st o with
          | some e => evalD g fi call os (fr.putO d e) st
          | none => none
      else none
theorem strong_all {g : G} {fi : FI} {ops : Array Oper} (h : ops.toList.all (isQM g fi) = true) (k : Nat) : strongB g fi ops k = true := by
  refine List.all_eq_true.2 fun j hj => ?_
  cases ho : ops[j]? with
  | none => rfl
  | some o =>
    have : isQM g fi o = true := List.all_eq_true.1 h o (by have := Array.mem_of_getElem? ho; simpa using this)
    simp [this]
theorem evalD_ok {g : G} {fi : FI} {call : Calling} {ops : Array Oper} (h : ∀ k, strongB g fi ops k = true) {st : St} : ∀ (l : List Oper) (k : Nat) (fr fr' : Fr), evalD g fi call l fr st = some fr' → evalDraw g fi call ops l k fr st = some (.ok fr' st)
  | [], _, fr, fr', e => by simp only [evalD, Option.some.injEq] at e; simp [evalDraw, e]
  | o :: l, k, fr, fr', e => by
    unfold evalD at e
    split at e
    · cases e
    · rename_i hg
      split at e
      · rename_i hq
        have hw : wantedE ops.toList o fr = some true := by simp [wantedE, hg]
        unfold evalDraw
        rw [hw]; simp only [hq, if_true]
        split at e
        · rename_i u t ho hd
          have hs : stepW g fi call ops k fr st o = some [(t, (fr.get u).still)] ∨ ∃ n xs, fr.get u = .own n xs := by
            cases hu : fr.get u with
            | own n xs => exact .inr ⟨n, xs, rfl⟩
            | _ => left; unfold stepW; simp only [ho, hd, hu, h k, if_true]
          split at e
          · cases e
          · rename_i hn
            rcases hs with hs | ⟨n, xs, hu⟩
            · rw [hs]; exact evalD_ok h l (k + 1) _ _ e
            · exact (hn n xs hu).elim
        · rename_i u t ho hd
          have hs : stepW g fi call ops k fr st o = some [(t, (fr.get u).still)] ∨ ∃ n xs, fr.get u = .own n xs := by
            cases hu : fr.get u with
            | own n xs => exact .inr ⟨n, xs, rfl⟩
            | _ => left; unfold stepW; simp only [ho, hd, hu, h k, if_true]
          split at e
          · cases e
          · rename_i hn
            rcases hs with hs | ⟨n, xs, hu⟩
            · rw [hs]; exact evalD_ok h l (k + 1) _ _ e
            · exact (hn n xs hu).elim
        · rename_i n1 n2
          split at e
          · rename_i e0 hs
            have hw2 : stepW g fi call ops k fr st o = some (o.dst.toList.map fun s => (s, e0)) := by
              unfold stepW
              split
              · rename_i u t ho hd; exact (n1 _ _ ho hd).elim
              · rename_i u t ho hd; exact (n2 _ _ ho hd).elim
              · rw [hs]; simp only [h k, if_true]
            rw [hw2]
            simp only [putO_puts]
            exact evalD_ok h l (k + 1) _ _ e
          · cases e
      · cases e

theorem fn25 : gS.fn 25 = mkFI Try.f25 true [] (some ([0, 1, 4, 5], [])) := by kernel_rfl
set_option maxRecDepth 20000 in
theorem pick (m : Nat) (k n : Int) (h1 : 1 ≤ n) (h2 : n ≤ 1000) : ∃ r : Nat, (r : Int) < n ∧ ∀ st, evalFn gS (m + 1) 25 [.int .i64 k, .int .i64 n] st = some (.ret (.int .i64 r) none, st) := by
  have e1 : ¬ n < 1 := by omega
  have e2 : ¬ n = 0 := by omega
  have b1 := Int.tmod_lt_of_pos k (by omega : 0 < n)
  have b2 : -n < k.tmod n := by
    rcases Int.lt_or_le k 0 with hk | hk
    · have : k.tmod n = -((-k).tmod n) := by rw [Int.neg_tmod]; omega
      have := Int.tmod_lt_of_pos (-k) (by omega : 0 < n)
      omega
    · have := Int.tmod_nonneg n hk; omega
  by_cases e3 : k.tmod n < 0
  · have e4 : IntKind.wrap .i64 (k.tmod n + n) = k.tmod n + n := wrap64 (by omega) (by omega)
    refine ⟨(k.tmod n + n).toNat, by omega, fun st => ?_⟩
    have e5 : (((k.tmod n + n).toNat : Nat) : Int) = k.tmod n + n := by omega
    rw [e5]
    simp only [evalFn, hrun, evalBody, fn25, mkFI, Try.f25]
    simp [ty3, ib_lss, ib_rem, ib_add, e1, e2, e3, e4, evalCode, evalOps, wantedE, stepM, marked, stepE, stepOp, startFr, Fr.clear, mapR_eq, take, upE, E.calm, Fr.putO, Fr.put_def, Fr.map_def, Fr.raw_def, Fr.get_def, Fr.lend, Fr.op, lk, ins, lset, E.inval, constV, constVs, V.toE, builtinStep, lenE, elemsOf, okV, okE, E.v?, V.strip, binV, E.int?, E.bool?, appendStep, appended, baseOf, resultsOut, resultE, byteVs_length, flats_bytes, V.strip1, V.one, sizes_bytes, sizesOk, consume, E.weak, unV, sliceStep, boundOf, clip, indexAddrStep, indexStep, addrAdd, loadAt, placeOf, loadCs, cellE, storeAt, splice, E.cells?, V.cells, E.noMem, E.noLoc, E.noLp, callStep, vsOf, retE, V.flat, flats, St.obj, St.set, boxCells, Fr.loc_def, Fr.setLoc_def, E.part?, buildCells, buildSliceV, fillV, chunk, elemV, convV, vsOf, minMax, eqV, strBin, floatBin]
  · refine ⟨(k.tmod n).toNat, by omega, fun st => ?_⟩
    have e5 : (((k.tmod n).toNat : Nat) : Int) = k.tmod n := by omega
    rw [e5]
    simp only [evalFn, hrun, evalBody, fn25, mkFI, Try.f25]
    simp [ty3, ib_lss, ib_rem, ib_add, e1, e2, e3, evalCode, evalOps, wantedE, stepM, marked, stepE, stepOp, startFr, Fr.clear, mapR_eq, take, upE, E.calm, Fr.putO, Fr.put_def, Fr.map_def, Fr.raw_def, Fr.get_def, Fr.lend, Fr.op, lk, ins, lset, E.inval, constV, constVs, V.toE, builtinStep, lenE, elemsOf, okV, okE, E.v?, V.strip, binV, E.int?, E.bool?, appendStep, appended, baseOf, resultsOut, resultE, byteVs_length, flats_bytes, V.strip1, V.one, sizes_bytes, sizesOk, consume, E.weak, unV, sliceStep, boundOf, clip, indexAddrStep, indexStep, addrAdd, loadAt, placeOf, loadCs, cellE, storeAt, splice, E.cells?, V.cells, E.noMem, E.noLoc, E.noLp, callStep, vsOf, retE, V.flat, flats, St.obj, St.set, boxCells, Fr.loc_def, Fr.setLoc_def, E.part?, buildCells, buildSliceV, fillV, chunk, elemV, convV, vsOf, minMax, eqV, strBin, floatBin]
def intVs (L : List Int) : List V := L.map (V.int .i64)
theorem intVs_length (L : List Int) : (intVs L).length = L.length := by simp [intVs]
theorem intVs_get (L : List Int) (i : Nat) (h : i < L.length) : (intVs L)[i]? = some (.int .i64 L[i]) := by simp [intVs, h]
theorem flats_ints (L : List Int) : flats (intVs L) = true := by
  induction L with
  | nil => rfl
  | cons b r ih => simp [intVs, flats, V.flat] at ih ⊢; exact ih
theorem ty39 : (gS.ty 39).map TI.k = some (.slice 1 8 false [.int .i64 0]) := by kernel_rfl
noncomputable def t39 : TI := (gS.ty 39).getD ⟨.other, 0, false, []⟩
theorem ty39' : gS.ty 39 = some { k := .slice 1 8 false [.int .i64 0], size := 1, agg := false, zero := [.osl 0 []] } := by kernel_rfl
theorem ty42 : gS.ty 42 = some { k := .struct [(0, 1, false), (1, 1, false)], size := 2, agg := true, zero := [.osl 0 [], .int .i64 0] } := by kernel_rfl
noncomputable def fi30 : FI := { body := codeOf Try.f30, ntmps := 61, results := [.tmp 4], pers := [0, 1, 4, 5], locals := [], pure := false, marks := [] }
theorem fn30 : gS.fn 30 = some fi30 := by kernel_rfl
theorem start30 (a b : V) : startFr fi30 [a, b] = { ps := [(0, .val a), (1, .val b), (4, .any), (5, .any)], ts := [], lc := [] } := rfl
theorem split30 : codeOf Try.f30 = .seq (codeAt (codeOf Try.f30) [false]) (.seq (codeAt (codeOf Try.f30) [true, false]) (.seq (codeAt (codeOf Try.f30) [true, true, false]) (codeAt (codeOf Try.f30) [true, true, true]))) := by kernel_rfl
def opsAt (c : Code) : Array Oper := match c with | .region _ o _ => o | _ => #[]
theorem reg30 : codeAt (codeOf Try.f30) [true, true, false] = .region 3 (opsAt (codeAt (codeOf Try.f30) [true, true, false])) true := by kernel_rfl
theorem lex30 : Region.lexB .any (opsAt (codeAt (codeOf Try.f30) [true, true, false])) = true := by kernel_rfl
theorem strong30 : (opsAt (codeAt (codeOf Try.f30) [true, true, false])).toList.all (isQM gS fi30) = true := by kernel_rfl
set_option maxRecDepth 40000 in
set_option maxHeartbeats 4000000 in
theorem draw30 (call : Calling) (q : Nat) (L : List Int) (id at_ : Nat) (n : Int) (st : St) (T : List (Nat × E)) (ho : st.obj id = some [.slice (intVs L), .int .i64 at_]) (h0 : 0 < L.length) (ha : at_ < 2 ^ 40) :
    ∃ T' k, evalCode gS fi30 call q (codeAt (codeOf Try.f30) [true, true, false]) { ps := [(0, .val (.ptr id 0)), (1, .val (.int .i64 n)), (4, .val (.int .i64 0)), (5, .any)], ts := T, lc := [] } st =
      some (.normal, { ps := [(0, .val (.ptr id 0)), (1, .val (.int .i64 n)), (4, .val (.int .i64 0)), (5, .val (.int .i64 k))], ts := T', lc := [] }, st) := by
  have hm : fi30.marks = [] := rfl
  have hl : fi30.locals = [] := rfl
  have e0 : ¬ (L.length : Int) = 0 := by omega
  have e1 : ((at_ : Nat) : Int).tmod (L.length : Int) = ((at_ % L.length : Nat) : Int) := by rw [Int.tmod_eq_emod_of_nonneg (by omega)]; omega
  have e2 : ((at_ : Nat) : Int).tdiv (L.length : Int) = ((at_ / L.length : Nat) : Int) := by rw [Int.tdiv_eq_ediv_of_nonneg (by omega)]; omega
  have e3 := Nat.mod_lt at_ h0
  have hne : ¬ L = [] := fun h => by rw [h] at h0; exact absurd h0 (by decide)
  have e4 : at_ / L.length ≤ at_ := Nat.div_le_self _ _
  have e8 := intVs_get L _ e3
  generalize at_ / L.length = qq at *
  generalize at_ % L.length = rr at *
  have e5 : IntKind.wrap .i64 (qq : Int) = (qq : Int) := wrap64 (by omega) (by omega)
  have e6 : IntKind.wrap .i64 (1 + (qq : Int)) = 1 + (qq : Int) := wrap64 (by omega) (by omega)
  have e7 : ¬ (1 + (qq : Int)) = 0 := by omega
  have key : ∃ T' k, evalD gS fi30 call (opsAt (codeAt (codeOf Try.f30) [true, true, false])).toList { ps := [(0, .val (.ptr id 0)), (1, .val (.int .i64 n)), (4, .val (.int .i64 0)), (5, .any)], ts := [], lc := [] } st =
      some { ps := [(0, .val (.ptr id 0)), (1, .val (.int .i64 n)), (4, .val (.int .i64 0)), (5, .val (.int .i64 k))], ts := T', lc := [] } := by
    simp only [codeAt, codeOf, Try.f30, Option.getD_some, if_true, Bool.false_eq_true, if_false, opsAt]
    simp only [St.obj] at ho
    simp [-Int.natCast_emod, -Int.natCast_ediv, -Int.natCast_add, evalD, stepQ, isQM, isQ, quietOp, E.still, ty39', ty42, ty3, hm, hl, ho, ib_rem, ib_quo, ib_add, intVs_length, hne, e0, e1, e2, e5, e6, e7, e8, evalCode, evalOps, wantedE, stepM, marked, stepE, stepOp, startFr, Fr.clear, mapR_eq, take, upE, E.calm, Fr.putO, Fr.put_def, Fr.map_def, Fr.raw_def, Fr.get_def, Fr.lend, Fr.op, lk, ins, lset, E.inval, constV, constVs, V.toE, builtinStep, lenE, elemsOf, okV, okE, E.v?, V.strip, binV, E.int?, E.bool?, appendStep, appended, baseOf, resultsOut, resultE, byteVs_length, flats_bytes, V.strip1, V.one, sizes_bytes, sizesOk, consume, E.weak, unV, sliceStep, boundOf, clip, indexAddrStep, indexStep, addrAdd, loadAt, placeOf, loadCs, cellE, storeAt, splice, E.cells?, V.cells, E.noMem, E.noLoc, E.noLp, callStep, vsOf, retE, V.flat, flats, St.obj, St.set, boxCells, Fr.loc_def, Fr.setLoc_def, E.part?, buildCells, buildSliceV, fillV, chunk, elemV, convV, vsOf, minMax, eqV, strBin, floatBin]
  obtain ⟨T', k, hk⟩ := key
  refine ⟨T', k, ?_⟩
  rw [reg30]
  have hd := evalD_ok (ops := opsAt (codeAt (codeOf Try.f30) [true, true, false])) (strong_all strong30) _ 0 _ _ hk
  simp only [evalCode, lex30, if_true]
  rw [show Fr.clear { ps := [(0, .val (.ptr id 0)), (1, .val (.int .i64 n)), (4, .val (.int .i64 0)), (5, .any)], ts := T, lc := [] } = { ps := [(0, .val (.ptr id 0)), (1, .val (.int .i64 n)), (4, .val (.int .i64 0)), (5, .any)], ts := [], lc := [] } from rfl, hd]
end Go.Proofs.Ytiiahehclbmodaa
