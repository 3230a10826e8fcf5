/- The pack seat: drawn regions with guards; strings of bytes. -/
import Derived.Test.YtiiahehclbmodaaPackSym7
import Derived.Test.YtiiahehclbmodaaPackKnown
namespace Go.Proofs.Ytiiahehclbmodaa
open Go Go.Ab
set_option linter.unusedVariables false
set_option linter.unusedSimpArgs false
set_option linter.unnecessarySimpa false
/-- The guard of an operation, where the operation stands that it asks. -/
noncomputable def wantedG (ops : Array Oper) (o : Oper) (fr : Fr) : Option Bool :=
  match o.guard with
  | none => some true
  | some (j, want) => match (ops[j]?).bind (·.dst) with
    | some d => match fr.get d with
      | .val (.bool b) => some (b == want)
      | .val (.tuple []) => some false
      | _ => none
    | none => none
theorem wantedG_eq (ops : Array Oper) (o : Oper) (fr : Fr) : wantedE ops.toList o fr = wantedG ops o fr := by
  unfold wantedE wantedG
  simp only [Array.getElem?_toList]
  rfl
/-- A drawn region of quiet operations, with guards. -/
noncomputable def evalG (g : G) (fi : FI) (call : Calling) (ops : Array Oper) : List Oper → Nat → Fr → St → Option Fr
  | [], _, fr, _ => some fr
  | o :: os, k, fr, st =>
    match wantedG ops o fr with
    | some true =>
      if isQM g fi o then
        match o.op, o.dst with
        | .move (.tmp u), some t => match fr.get u with
          | .own _ xs => if borOk ops k u t then none else evalG g fi call ops os (k + 1) (fr.put t (.val (.slice xs))) st
          | e => evalG g fi call ops os (k + 1) (fr.put t e.still) st
        | .assign (.tmp u), some t => match fr.get u with
          | .own _ _ => none
          | e => evalG g fi call ops os (k + 1) (fr.put t e.still) st
        | _, d => match stepQ g fi call fr st o with
          | some e => evalG g fi call ops os (k + 1) (fr.putO d e) st
          | none => none
      else none
    | some false => evalG g fi call ops os (k + 1) (fr.putO o.dst (.val (.tuple []))) st
    | none => none
theorem evalG_ok {g : G} {fi : FI} {call : Calling} {ops : Array Oper} (h : ∀ k, strongB g fi ops k = true) {st : St} : ∀ (l : List Oper) (k : Nat) (fr fr' : Fr), evalG g fi call ops l k fr st = some fr' → evalDraw g fi call ops l k fr st = some (.ok fr' st)
  | [], _, fr, fr', e => by simp only [evalG, Option.some.injEq] at e; simp [evalDraw, e]
  | o :: l, k, fr, fr', e => by
    unfold evalG at e
    unfold evalDraw
    rw [wantedG_eq]
    split at e
    · rename_i hw
      rw [hw]
      split at e
      · rename_i hq
        simp only [hq, if_true]
        split at e
        · rename_i u t ho hd
          split at e
          · rename_i n xs hu
            split at e
            · cases e
            · rename_i hb
              have hs : stepW g fi call ops k fr st o = some [(t, .val (.slice xs))] := by
                unfold stepW; simp only [ho, hd, hu, hb]; rfl
              rw [hs]; exact evalG_ok h l (k + 1) _ _ e
          · rename_i hn
            have hs : stepW g fi call ops k fr st o = some [(t, (fr.get u).still)] := by
              cases hu : fr.get u with
              | own n xs => exact (hn n xs hu).elim
              | _ => unfold stepW; simp only [ho, hd, hu, h k, if_true]
            rw [hs]; exact evalG_ok h l (k + 1) _ _ e
        · rename_i u t ho hd
          split at e
          · cases e
          · rename_i hn
            have hs : stepW g fi call ops k fr st o = some [(t, (fr.get u).still)] := by
              cases hu : fr.get u with
              | own n xs => exact (hn n xs hu).elim
              | _ => unfold stepW; simp only [ho, hd, hu, h k, if_true]
            rw [hs]; exact evalG_ok h l (k + 1) _ _ e
        · rename_i n1 n2
          split at e
          · rename_i e0 hs
            have hw2 : stepW g fi call ops k fr st o = some (o.dst.toList.map fun s => (s, e0)) := by
              unfold stepW
              split
              · rename_i u t ho hd; exact (n1 _ _ ho hd).elim
              · rename_i u t ho hd; exact (n2 _ _ ho hd).elim
              · rw [hs]; simp only [h k, if_true]
            rw [hw2]
            simp only [putO_puts]
            exact evalG_ok h l (k + 1) _ _ e
          · cases e
      · cases e
    · rename_i hw
      rw [hw]
      exact evalG_ok h l (k + 1) _ _ e
    · cases e
theorem bytes_of (bs : List UInt8) : bytesOf (byteVs bs) = some bs := by
  induction bs with
  | nil => rfl
  | cons b r ih => simp [byteVs, bytesOf] at ih ⊢; exact ih
theorem known29 : ∃ st', evalFn gS 61 29 [] ⟨[], 0⟩ = some (.ret (.bool true) none, st') := by
  have hk := known_runs
  split at hk
  · rename_i st' hr
    refine ⟨st', ?_⟩
    have f29 : gS.fn 29 = some (fiOf 29) := by kernel_rfl
    have f3 : gS.fn 3 = some (fiOf 3) := by kernel_rfl
    have p3 : (fiOf 3).pure = false := by kernel_rfl
    rw [evalFn]; simp only [hrun, evalBody, f29]
    have hb : (fiOf 29).body = codeOf Try.f29 := by kernel_rfl
    have hp : (fiOf 29).pers = [0] := by kernel_rfl
    have hm : (fiOf 29).marks = [] := by kernel_rfl
    have hl : (fiOf 29).results = [.tmp 0] := by kernel_rfl
    rw [hb, hl]
    simp only [codeOf, Try.f29, Option.getD_some]
    simp [gext, f3, p3, hr, hp, hm, evalCode, evalOps, wantedE, stepM, marked, stepE, stepOp, startFr, Fr.clear, mapR_eq, take, upE, E.calm, Fr.putO, Fr.put_def, Fr.map_def, Fr.raw_def, Fr.get_def, Fr.lend, Fr.op, lk, ins, lset, E.inval, constV, constVs, V.toE, builtinStep, lenE, elemsOf, okV, okE, E.v?, V.strip, binV, E.int?, E.bool?, appendStep, appended, baseOf, resultsOut, resultE, byteVs_length, flats_bytes, V.strip1, V.one, sizes_bytes, sizesOk, consume, E.weak, unV, sliceStep, boundOf, clip, indexAddrStep, indexStep, addrAdd, loadAt, placeOf, loadCs, cellE, storeAt, splice, E.cells?, V.cells, E.noMem, E.noLoc, E.noLp, callStep, vsOf, retE, V.flat, flats, St.obj, St.set, boxCells, Fr.loc_def, Fr.setLoc_def, E.part?, buildCells, buildSliceV, fillV, chunk, elemV, convV, vsOf, minMax, eqV, strBin, floatBin]
  · cases hk
/-- What a number is laid as, whatever it is. -/
theorem nats (n : Int) (b : List UInt8) (h1 : b.length + 9 ≤ 2 ^ 47) : ∃ z, (∀ st, evalFn gS 61 19 [.slice (byteVs b), .int .i64 n] st = some (.ret (.slice (byteVs z)) (some 1), st)) ∧ (∀ st, evalFn gS 61 32 [.slice (byteVs b), .int .i64 n] st = some (.ret (.slice (byteVs z)) (some 1), st)) := by
  by_cases h : n < 0 ∨ 4611686018427387904 < n
  · exact ⟨b, fun st => bad19 49 n b h h1 st, fun st => bad32 49 n b h h1 st⟩
  · have h0 : n.toNat ≤ 4611686018427387904 := by omega
    have e : ((n.toNat : Nat) : Int) = n := by omega
    refine ⟨b ++ vbytes n.toNat, fun st => ?_, fun st => ?_⟩
    · have := nat19 49 n.toNat b h0 h1 st; rwa [e] at this
    · have := nat32 49 n.toNat b h0 h1 st; rwa [e] at this
end Go.Proofs.Ytiiahehclbmodaa
