/- PackTells: the walk, the drawn region. -/
import Derived.Test.YtiiahehclbmodaaPackSym10
namespace Go.Proofs.Ytiiahehclbmodaa
open Go Go.Ab
set_option linter.unusedVariables false
set_option linter.unusedSimpArgs false
set_option linter.unnecessarySimpa false
noncomputable def ops10 : Array Oper := opsAt (codeAt (codeOf Try.f5) [true, true, true, true, true, true, true, true, false, false])
theorem reg10 : codeAt (codeOf Try.f5) [true, true, true, true, true, true, true, true, false, false] = .region 10 ops10 true := by kernel_rfl
theorem lex10 : Region.lexB .any ops10 = true := by kernel_rfl
theorem all10 : ops10.toList.all (isQM gS fi5) = true := by kernel_rfl
theorem split10 : codeAt (codeOf Try.f5) [true, true, true, true, true, true, true, true, false] = .seq (codeAt (codeOf Try.f5) [true, true, true, true, true, true, true, true, false, false]) (codeAt (codeOf Try.f5) [true, true, true, true, true, true, true, true, false, true]) := by kernel_rfl
theorem g29 : gS.fn 29 = some (fiOf 29) := by kernel_rfl
theorem q29 : (fiOf 29).pure = true := by kernel_rfl
theorem g22 : gS.fn 22 = some (fiOf 22) := by kernel_rfl
theorem q22 : (fiOf 22).pure = true := by kernel_rfl
theorem g33 : gS.fn 33 = some (fiOf 33) := by kernel_rfl
theorem q33 : (fiOf 33).pure = true := by kernel_rfl
theorem g34 : gS.fn 34 = some (fiOf 34) := by kernel_rfl
theorem q34 : (fiOf 34).pure = true := by kernel_rfl
theorem g35 : gS.fn 35 = some (fiOf 35) := by kernel_rfl
theorem q35 : (fiOf 35).pure = true := by kernel_rfl
theorem g21 : gS.fn 21 = some (fiOf 21) := by kernel_rfl
theorem q21 : (fiOf 21).pure = true := by kernel_rfl
theorem g36 : gS.fn 36 = some (fiOf 36) := by kernel_rfl
theorem q36 : (fiOf 36).pure = true := by kernel_rfl
structure Ops10 (O : Array Oper) : Prop where
  d2 : (O[2]?).bind (·.dst) = some 46
  d13 : (O[13]?).bind (·.dst) = some 57
  d24 : (O[24]?).bind (·.dst) = some 68
  d35 : (O[35]?).bind (·.dst) = some 79
  b7 : borOk O 7 0 51 = false
  b18 : borOk O 18 0 62 = false
  b29 : borOk O 29 0 73 = false
  b40 : borOk O 40 0 84 = false
theorem ops10_ok : Ops10 ops10 := ⟨by kernel_rfl, by kernel_rfl, by kernel_rfl, by kernel_rfl, by kernel_rfl, by kernel_rfl, by kernel_rfl, by kernel_rfl⟩
theorem evalG_app {g : G} {fi : FI} {call : Calling} {O : Array Oper} {st : St} : ∀ (l1 l2 : List Oper) (k : Nat) (fr fr1 : Fr), evalG g fi call O l1 k fr st = some fr1 → evalG g fi call O (l1 ++ l2) k fr st = evalG g fi call O l2 (k + l1.length) fr1 st
  | [], l2, k, fr, fr1, h => by simp only [evalG, Option.some.injEq] at h; subst h; rfl
  | o :: l1, l2, k, fr, fr1, h => by
    have hk : k + (o :: l1).length = (k + 1) + l1.length := by simp; omega
    rw [hk, List.cons_append]
    generalize hR : evalG g fi call O l2 (k + 1 + l1.length) fr1 st = R
    unfold evalG at h ⊢
    split at h
    · rename_i hw
      split at h
      · rename_i hq
        rw [if_pos hq]
        split at h
        · split at h
          · split at h
            · cases h
            · rename_i hb
              rw [if_neg hb]; exact (evalG_app l1 l2 _ _ _ h).trans hR
          · exact (evalG_app l1 l2 _ _ _ h).trans hR
        · split at h
          · cases h
          · exact (evalG_app l1 l2 _ _ _ h).trans hR
        · split at h
          · exact (evalG_app l1 l2 _ _ _ h).trans hR
          · cases h
      · cases h
    · exact (evalG_app l1 l2 _ _ _ h).trans hR
    · cases h
noncomputable def seg (a b : Nat) : List Oper := (ops10.toList.drop a).take b
theorem segs : ops10.toList = seg 0 14 ++ (seg 14 11 ++ (seg 25 11 ++ seg 36 10)) := by kernel_rfl
theorem seg_len : (seg 0 14).length = 14 ∧ (seg 14 11).length = 11 ∧ (seg 25 11).length = 11 := by refine ⟨?_, ?_, ?_⟩ <;> kernel_rfl
/-- A slot of the region's own. -/
def own10 (s : Nat) : Bool := decide (16 < s)
noncomputable def FE (bs ss : List UInt8) (n i : Int) (x : Nat) (L : List Int) (T : List (Nat × E)) : Fr := F (.own 1 (byteVs bs)) n i x (.val (.str ss)) L (.val (.bool false)) (.val (.ptr 0 0)) (.own 1 (byteVs (bs ++ tw))) (.val (.slice (byteVs bs))) .any T
noncomputable def pT (T : List (Nat × E)) (s : Nat) (e : E) : List (Nat × E) := ins (T.map fun x => (x.1, x.2.inval (.slot s))) s (e.inval (.slot s))
theorem lk_pT (T : List (Nat × E)) (s t : Nat) (e : E) : lk (pT T s e) t = if t = s then some (e.inval (.slot s)) else (lk T t).map (E.inval (.slot s)) := by
  unfold pT; rw [lk_ins, lk_map (E.inval (.slot s))]
section
variable {bs ss : List UInt8} {n i : Int} {x : Nat} {L : List Int} {T : List (Nat × E)}
theorem FE_put {s : Nat} {e : E} (h : own10 s = true) : (FE bs ss n i x L T).put s e = FE bs ss n i x L (pT T s e) := by
  have h : 16 < s := by simpa [own10] using h
  have e0 : ¬ 0 = s := by omega
  have e1 : ¬ 1 = s := by omega
  have e2 : ¬ 2 = s := by omega
  have e3 : ¬ 3 = s := by omega
  have e4 : ¬ 4 = s := by omega
  have e5 : ¬ 5 = s := by omega
  have e12 : ¬ 12 = s := by omega
  have e13 : ¬ 13 = s := by omega
  have e14 : ¬ 14 = s := by omega
  have e15 : ¬ 15 = s := by omega
  have e16 : ¬ 16 = s := by omega
  simp [FE, F, Fr.put_def, Fr.map_def, Fr.raw_def, lk, E.inval, pT, e0, e1, e2, e3, e4, e5, e12, e13, e14, e15, e16]
theorem FE_get {s : Nat} (h : own10 s = true) : (FE bs ss n i x L T).get s = (lk T s).getD .any := by
  have h : 16 < s := by simpa [own10] using h
  have e0 : ¬ 0 = s := by omega
  have e1 : ¬ 1 = s := by omega
  have e2 : ¬ 2 = s := by omega
  have e3 : ¬ 3 = s := by omega
  have e4 : ¬ 4 = s := by omega
  have e5 : ¬ 5 = s := by omega
  have e12 : ¬ 12 = s := by omega
  have e13 : ¬ 13 = s := by omega
  have e14 : ¬ 14 = s := by omega
  have e15 : ¬ 15 = s := by omega
  have e16 : ¬ 16 = s := by omega
  simp [FE, F, Fr.get_def, lk, e0, e1, e2, e3, e4, e5, e12, e13, e14, e15, e16]
theorem FE_get0 : (FE bs ss n i x L T).get 0 = .own 1 (byteVs bs) := by simp [FE, F, Fr.get_def, lk]
theorem FE_get1 : (FE bs ss n i x L T).get 1 = .val (.int .i64 n) := by simp [FE, F, Fr.get_def, lk]
theorem FE_get2 : (FE bs ss n i x L T).get 2 = .val (.int .i64 i) := by simp [FE, F, Fr.get_def, lk]
theorem FE_get3 : (FE bs ss n i x L T).get 3 = .val (.float .f64 x) := by simp [FE, F, Fr.get_def, lk]
theorem FE_get4 : (FE bs ss n i x L T).get 4 = .val (.str ss) := by simp [FE, F, Fr.get_def, lk]
theorem FE_get15 : (FE bs ss n i x L T).get 15 = .val (.slice (byteVs bs)) := by simp [FE, F, Fr.get_def, lk]
end
theorem strong_head (l : List Oper) (i : Nat) (o : Oper) (h : l[i]? = some o) : l.drop i = o :: l.drop (i + 1) := by
  obtain ⟨hi, rfl⟩ := List.getElem?_eq_some_iff.1 h
  exact List.drop_eq_getElem_cons hi
def Has (T : List (Nat × E)) (l : List (Nat × E)) : Prop := ∀ p ∈ l, lk T p.1 = some p.2
theorem has_put {T l l' : List (Nat × E)} {s : Nat} {v : E} (h : Has T l) (hl : ∀ p ∈ l', p.2.inval (.slot s) = p.2 ∧ (p = (s, v) ∨ (p.1 ≠ s ∧ p ∈ l))) : Has (pT T s v) l' := by
  intro p hp
  rw [lk_pT]
  obtain ⟨h0, h1⟩ := hl p hp
  rcases h1 with rfl | ⟨h1, h2⟩
  · rw [if_pos rfl, h0]
  · rw [if_neg h1, h p h2, Option.map_some, h0]
structure Ctx (O : Array Oper) (bs ss z w1 w2 w3 : List UInt8) (n i : Int) (x : Nat) : Prop where
  o : Ops10 O
  k1 : ∃ st', evalFn gS 61 29 [] ⟨[], 0⟩ = some (.ret (.bool true) none, st')
  z1 : evalFn gS 61 19 [.slice (byteVs bs), .int .i64 n] ⟨[], 0⟩ = some (.ret (.slice (byteVs z)) (some 1), ⟨[], 0⟩)
  z2 : evalFn gS 61 32 [.slice (byteVs bs), .int .i64 n] ⟨[], 0⟩ = some (.ret (.slice (byteVs z)) (some 1), ⟨[], 0⟩)
  i1 : evalFn gS 61 22 [.slice (byteVs bs), .int .i64 i] ⟨[], 0⟩ = some (.ret (.slice (byteVs (bs ++ w1))) (some 1), ⟨[], 0⟩)
  i2 : evalFn gS 61 33 [.slice (byteVs bs), .int .i64 i] ⟨[], 0⟩ = some (.ret (.slice (byteVs (bs ++ w1))) (some 1), ⟨[], 0⟩)
  x1 : evalFn gS 61 34 [.slice (byteVs bs), .float .f64 x] ⟨[], 0⟩ = some (.ret (.slice (byteVs (bs ++ w2))) (some 1), ⟨[], 0⟩)
  x2 : evalFn gS 61 35 [.slice (byteVs bs), .float .f64 x] ⟨[], 0⟩ = some (.ret (.slice (byteVs (bs ++ w2))) (some 1), ⟨[], 0⟩)
  s1 : evalFn gS 61 21 [.slice (byteVs bs), .str ss] ⟨[], 0⟩ = some (.ret (.slice (byteVs (w3))) (some 1), ⟨[], 0⟩)
  s2 : evalFn gS 61 36 [.slice (byteVs bs), .str ss] ⟨[], 0⟩ = some (.ret (.slice (byteVs (w3))) (some 1), ⟨[], 0⟩)
def Goal (O : Array Oper) (bs ss : List UInt8) (n i : Int) (x : Nat) (L : List Int) (k j : Nat) (T : List (Nat × E)) : Prop :=
  ∃ T', evalG gS fi5 (evalFn gS 61) O (ops10.toList.drop j) j (FE bs ss n i x L T) (fst L k) = some (FE bs ss n i x L T') ∧ lk T' 89 = some (.val (.bool false))
noncomputable def opI (j : Nat) : Oper := ops10.toList.getD j { dst := none, op := .move (.tmp 0), type := 0, pos := "", after := #[], guard := none }
section
variable {O : Array Oper} {bs ss z w1 w2 w3 : List UInt8} {n i : Int} {x : Nat} {L : List Int} {k : Nat}
theorem op0 (c : Ctx O bs ss z w1 w2 w3 n i x) (h : ∀ T, Has T [(44, .val (.bool true))] → Goal O bs ss n i x L k 1 T) : ∀ T, Has T [] → Goal O bs ss n i x L k 0 T := by
  intro T hT
  obtain ⟨st9, k1⟩ := c.k1
  have h' := h (pT T 44 (.val (.bool true))) (has_put hT (by simp [E.inval]))
  unfold Goal at h' ⊢
  rw [show ops10.toList.drop 0 = opI 0 :: ops10.toList.drop (0 + 1) by kernel_rfl]
  generalize ops10.toList.drop (0 + 1) = R at h' ⊢
  rw [evalG]
  simp only [opI, ops10, opsAt, codeAt, codeOf, Try.f5, Option.getD_some, if_true, Bool.false_eq_true, if_false, List.getD_cons_zero, List.getD_cons_succ]
  simp [wantedG, stepQ, isQM, isQ, quietOp, E.still, bytes_of, u24, gext, own10, FE_put, FE_get, FE_get0, FE_get1, FE_get2, FE_get3, FE_get4, FE_get15, c.o.d2, c.o.d13, c.o.d24, c.o.d35, c.o.b7, c.o.b18, c.o.b29, c.o.b40, g29, q29, k1, hm5, ty24, ty3, ty9, ty2, ty5, evalCode, stepM, marked, stepE, stepOp, E.calm, Fr.putO, Fr.lend, Fr.op, constV, V.toE, okV, okE, E.v?, V.strip, binV, E.bool?, flats_bytes, unV, callStep, vsOf, retE, V.flat, flats, convV, strBin]
  exact h'
theorem op1 (c : Ctx O bs ss z w1 w2 w3 n i x) (h : ∀ T, Has T [(45, .val (.bool false))] → Goal O bs ss n i x L k 2 T) : ∀ T, Has T [(44, .val (.bool true))] → Goal O bs ss n i x L k 1 T := by
  intro T hT
  have h44 : lk T 44 = some (.val (.bool true)) := hT (44, _) (by simp)
  have h' := h (pT T 45 (.val (.bool false))) (has_put hT (by simp [E.inval]))
  unfold Goal at h' ⊢
  rw [show ops10.toList.drop 1 = opI 1 :: ops10.toList.drop (1 + 1) by kernel_rfl]
  generalize ops10.toList.drop (1 + 1) = R at h' ⊢
  rw [evalG]
  simp only [opI, ops10, opsAt, codeAt, codeOf, Try.f5, Option.getD_some, if_true, Bool.false_eq_true, if_false, List.getD_cons_zero, List.getD_cons_succ]
  simp [wantedG, stepQ, isQM, isQ, quietOp, E.still, bytes_of, u24, gext, own10, FE_put, FE_get, FE_get0, FE_get1, FE_get2, FE_get3, FE_get4, FE_get15, c.o.d2, c.o.d13, c.o.d24, c.o.d35, c.o.b7, c.o.b18, c.o.b29, c.o.b40, h44, hm5, ty24, ty3, ty9, ty2, ty5, evalCode, stepM, marked, stepE, stepOp, E.calm, Fr.putO, Fr.lend, Fr.op, constV, V.toE, okV, okE, E.v?, V.strip, binV, E.bool?, flats_bytes, unV, callStep, vsOf, retE, V.flat, flats, convV, strBin]
  exact h'
theorem op2 (c : Ctx O bs ss z w1 w2 w3 n i x) (h : ∀ T, Has T [(46, .val (.bool false))] → Goal O bs ss n i x L k 3 T) : ∀ T, Has T [(45, .val (.bool false))] → Goal O bs ss n i x L k 2 T := by
  intro T hT
  have h45 : lk T 45 = some (.val (.bool false)) := hT (45, _) (by simp)
  have h' := h (pT T 46 (.val (.bool false))) (has_put hT (by simp [E.inval]))
  unfold Goal at h' ⊢
  rw [show ops10.toList.drop 2 = opI 2 :: ops10.toList.drop (2 + 1) by kernel_rfl]
  generalize ops10.toList.drop (2 + 1) = R at h' ⊢
  rw [evalG]
  simp only [opI, ops10, opsAt, codeAt, codeOf, Try.f5, Option.getD_some, if_true, Bool.false_eq_true, if_false, List.getD_cons_zero, List.getD_cons_succ]
  simp [wantedG, stepQ, isQM, isQ, quietOp, E.still, bytes_of, u24, gext, own10, FE_put, FE_get, FE_get0, FE_get1, FE_get2, FE_get3, FE_get4, FE_get15, c.o.d2, c.o.d13, c.o.d24, c.o.d35, c.o.b7, c.o.b18, c.o.b29, c.o.b40, h45, hm5, ty24, ty3, ty9, ty2, ty5, evalCode, stepM, marked, stepE, stepOp, E.calm, Fr.putO, Fr.lend, Fr.op, constV, V.toE, okV, okE, E.v?, V.strip, binV, E.bool?, flats_bytes, unV, callStep, vsOf, retE, V.flat, flats, convV, strBin]
  exact h'
theorem op3 (c : Ctx O bs ss z w1 w2 w3 n i x) (h : ∀ T, Has T [(46, .val (.bool false)), (47, .val (.slice (byteVs (bs))))] → Goal O bs ss n i x L k 4 T) : ∀ T, Has T [(46, .val (.bool false))] → Goal O bs ss n i x L k 3 T := by
  intro T hT
  have h46 : lk T 46 = some (.val (.bool false)) := hT (46, _) (by simp)
  have h' := h (pT T 47 (.val (.slice (byteVs (bs))))) (has_put hT (by simp [E.inval]))
  unfold Goal at h' ⊢
  rw [show ops10.toList.drop 3 = opI 3 :: ops10.toList.drop (3 + 1) by kernel_rfl]
  generalize ops10.toList.drop (3 + 1) = R at h' ⊢
  rw [evalG]
  simp only [opI, ops10, opsAt, codeAt, codeOf, Try.f5, Option.getD_some, if_true, Bool.false_eq_true, if_false, List.getD_cons_zero, List.getD_cons_succ]
  simp [wantedG, stepQ, isQM, isQ, quietOp, E.still, bytes_of, u24, gext, own10, FE_put, FE_get, FE_get0, FE_get1, FE_get2, FE_get3, FE_get4, FE_get15, c.o.d2, c.o.d13, c.o.d24, c.o.d35, c.o.b7, c.o.b18, c.o.b29, c.o.b40, h46, hm5, ty24, ty3, ty9, ty2, ty5, evalCode, stepM, marked, stepE, stepOp, E.calm, Fr.putO, Fr.lend, Fr.op, constV, V.toE, okV, okE, E.v?, V.strip, binV, E.bool?, flats_bytes, unV, callStep, vsOf, retE, V.flat, flats, convV, strBin]
  exact h'
theorem op4 (c : Ctx O bs ss z w1 w2 w3 n i x) (h : ∀ T, Has T [(46, .val (.bool false)), (47, .val (.slice (byteVs (bs)))), (48, .val (.int .i64 n))] → Goal O bs ss n i x L k 5 T) : ∀ T, Has T [(46, .val (.bool false)), (47, .val (.slice (byteVs (bs))))] → Goal O bs ss n i x L k 4 T := by
  intro T hT
  have h46 : lk T 46 = some (.val (.bool false)) := hT (46, _) (by simp)
  have h' := h (pT T 48 (.val (.int .i64 n))) (has_put hT (by simp [E.inval]))
  unfold Goal at h' ⊢
  rw [show ops10.toList.drop 4 = opI 4 :: ops10.toList.drop (4 + 1) by kernel_rfl]
  generalize ops10.toList.drop (4 + 1) = R at h' ⊢
  rw [evalG]
  simp only [opI, ops10, opsAt, codeAt, codeOf, Try.f5, Option.getD_some, if_true, Bool.false_eq_true, if_false, List.getD_cons_zero, List.getD_cons_succ]
  simp [wantedG, stepQ, isQM, isQ, quietOp, E.still, bytes_of, u24, gext, own10, FE_put, FE_get, FE_get0, FE_get1, FE_get2, FE_get3, FE_get4, FE_get15, c.o.d2, c.o.d13, c.o.d24, c.o.d35, c.o.b7, c.o.b18, c.o.b29, c.o.b40, h46, hm5, ty24, ty3, ty9, ty2, ty5, evalCode, stepM, marked, stepE, stepOp, E.calm, Fr.putO, Fr.lend, Fr.op, constV, V.toE, okV, okE, E.v?, V.strip, binV, E.bool?, flats_bytes, unV, callStep, vsOf, retE, V.flat, flats, convV, strBin]
  exact h'
theorem op5 (c : Ctx O bs ss z w1 w2 w3 n i x) (h : ∀ T, Has T [(46, .val (.bool false)), (49, .own 1 (byteVs (z)))] → Goal O bs ss n i x L k 6 T) : ∀ T, Has T [(46, .val (.bool false)), (47, .val (.slice (byteVs (bs)))), (48, .val (.int .i64 n))] → Goal O bs ss n i x L k 5 T := by
  intro T hT
  have h47 : lk T 47 = some (.val (.slice (byteVs (bs)))) := hT (47, _) (by simp)
  have h48 : lk T 48 = some (.val (.int .i64 n)) := hT (48, _) (by simp)
  have h46 : lk T 46 = some (.val (.bool false)) := hT (46, _) (by simp)
  have h' := h (pT T 49 (.own 1 (byteVs (z)))) (has_put hT (by simp [E.inval]))
  unfold Goal at h' ⊢
  rw [show ops10.toList.drop 5 = opI 5 :: ops10.toList.drop (5 + 1) by kernel_rfl]
  generalize ops10.toList.drop (5 + 1) = R at h' ⊢
  rw [evalG]
  simp only [opI, ops10, opsAt, codeAt, codeOf, Try.f5, Option.getD_some, if_true, Bool.false_eq_true, if_false, List.getD_cons_zero, List.getD_cons_succ]
  simp [wantedG, stepQ, isQM, isQ, quietOp, E.still, bytes_of, u24, gext, own10, FE_put, FE_get, FE_get0, FE_get1, FE_get2, FE_get3, FE_get4, FE_get15, c.o.d2, c.o.d13, c.o.d24, c.o.d35, c.o.b7, c.o.b18, c.o.b29, c.o.b40, fn19', show fi19.pure = true from rfl, c.z1, h47, h48, h46, hm5, ty24, ty3, ty9, ty2, ty5, evalCode, stepM, marked, stepE, stepOp, E.calm, Fr.putO, Fr.lend, Fr.op, constV, V.toE, okV, okE, E.v?, V.strip, binV, E.bool?, flats_bytes, unV, callStep, vsOf, retE, V.flat, flats, convV, strBin]
  exact h'
theorem op6 (c : Ctx O bs ss z w1 w2 w3 n i x) (h : ∀ T, Has T [(46, .val (.bool false)), (50, .val (.str (z)))] → Goal O bs ss n i x L k 7 T) : ∀ T, Has T [(46, .val (.bool false)), (49, .own 1 (byteVs (z)))] → Goal O bs ss n i x L k 6 T := by
  intro T hT
  have h49 : lk T 49 = some (.own 1 (byteVs (z))) := hT (49, _) (by simp)
  have h46 : lk T 46 = some (.val (.bool false)) := hT (46, _) (by simp)
  have h' := h (pT T 50 (.val (.str (z)))) (has_put hT (by simp [E.inval]))
  unfold Goal at h' ⊢
  rw [show ops10.toList.drop 6 = opI 6 :: ops10.toList.drop (6 + 1) by kernel_rfl]
  generalize ops10.toList.drop (6 + 1) = R at h' ⊢
  rw [evalG]
  simp only [opI, ops10, opsAt, codeAt, codeOf, Try.f5, Option.getD_some, if_true, Bool.false_eq_true, if_false, List.getD_cons_zero, List.getD_cons_succ]
  simp [wantedG, stepQ, isQM, isQ, quietOp, E.still, bytes_of, u24, gext, own10, FE_put, FE_get, FE_get0, FE_get1, FE_get2, FE_get3, FE_get4, FE_get15, c.o.d2, c.o.d13, c.o.d24, c.o.d35, c.o.b7, c.o.b18, c.o.b29, c.o.b40, h49, h46, hm5, ty24, ty3, ty9, ty2, ty5, evalCode, stepM, marked, stepE, stepOp, E.calm, Fr.putO, Fr.lend, Fr.op, constV, V.toE, okV, okE, E.v?, V.strip, binV, E.bool?, flats_bytes, unV, callStep, vsOf, retE, V.flat, flats, convV, strBin]
  exact h'
theorem op7 (c : Ctx O bs ss z w1 w2 w3 n i x) (h : ∀ T, Has T [(46, .val (.bool false)), (50, .val (.str (z))), (51, .val (.slice (byteVs (bs))))] → Goal O bs ss n i x L k 8 T) : ∀ T, Has T [(46, .val (.bool false)), (50, .val (.str (z)))] → Goal O bs ss n i x L k 7 T := by
  intro T hT
  have h46 : lk T 46 = some (.val (.bool false)) := hT (46, _) (by simp)
  have h' := h (pT T 51 (.val (.slice (byteVs (bs))))) (has_put hT (by simp [E.inval]))
  unfold Goal at h' ⊢
  rw [show ops10.toList.drop 7 = opI 7 :: ops10.toList.drop (7 + 1) by kernel_rfl]
  generalize ops10.toList.drop (7 + 1) = R at h' ⊢
  rw [evalG]
  simp only [opI, ops10, opsAt, codeAt, codeOf, Try.f5, Option.getD_some, if_true, Bool.false_eq_true, if_false, List.getD_cons_zero, List.getD_cons_succ]
  simp [wantedG, stepQ, isQM, isQ, quietOp, E.still, bytes_of, u24, gext, own10, FE_put, FE_get, FE_get0, FE_get1, FE_get2, FE_get3, FE_get4, FE_get15, c.o.d2, c.o.d13, c.o.d24, c.o.d35, c.o.b7, c.o.b18, c.o.b29, c.o.b40, h46, hm5, ty24, ty3, ty9, ty2, ty5, evalCode, stepM, marked, stepE, stepOp, E.calm, Fr.putO, Fr.lend, Fr.op, constV, V.toE, okV, okE, E.v?, V.strip, binV, E.bool?, flats_bytes, unV, callStep, vsOf, retE, V.flat, flats, convV, strBin]
  exact h'
theorem op8 (c : Ctx O bs ss z w1 w2 w3 n i x) (h : ∀ T, Has T [(46, .val (.bool false)), (50, .val (.str (z))), (51, .val (.slice (byteVs (bs)))), (52, .val (.int .i64 n))] → Goal O bs ss n i x L k 9 T) : ∀ T, Has T [(46, .val (.bool false)), (50, .val (.str (z))), (51, .val (.slice (byteVs (bs))))] → Goal O bs ss n i x L k 8 T := by
  intro T hT
  have h46 : lk T 46 = some (.val (.bool false)) := hT (46, _) (by simp)
  have h' := h (pT T 52 (.val (.int .i64 n))) (has_put hT (by simp [E.inval]))
  unfold Goal at h' ⊢
  rw [show ops10.toList.drop 8 = opI 8 :: ops10.toList.drop (8 + 1) by kernel_rfl]
  generalize ops10.toList.drop (8 + 1) = R at h' ⊢
  rw [evalG]
  simp only [opI, ops10, opsAt, codeAt, codeOf, Try.f5, Option.getD_some, if_true, Bool.false_eq_true, if_false, List.getD_cons_zero, List.getD_cons_succ]
  simp [wantedG, stepQ, isQM, isQ, quietOp, E.still, bytes_of, u24, gext, own10, FE_put, FE_get, FE_get0, FE_get1, FE_get2, FE_get3, FE_get4, FE_get15, c.o.d2, c.o.d13, c.o.d24, c.o.d35, c.o.b7, c.o.b18, c.o.b29, c.o.b40, h46, hm5, ty24, ty3, ty9, ty2, ty5, evalCode, stepM, marked, stepE, stepOp, E.calm, Fr.putO, Fr.lend, Fr.op, constV, V.toE, okV, okE, E.v?, V.strip, binV, E.bool?, flats_bytes, unV, callStep, vsOf, retE, V.flat, flats, convV, strBin]
  exact h'
theorem op9 (c : Ctx O bs ss z w1 w2 w3 n i x) (h : ∀ T, Has T [(46, .val (.bool false)), (50, .val (.str (z))), (53, .own 1 (byteVs (z)))] → Goal O bs ss n i x L k 10 T) : ∀ T, Has T [(46, .val (.bool false)), (50, .val (.str (z))), (51, .val (.slice (byteVs (bs)))), (52, .val (.int .i64 n))] → Goal O bs ss n i x L k 9 T := by
  intro T hT
  have h51 : lk T 51 = some (.val (.slice (byteVs (bs)))) := hT (51, _) (by simp)
  have h52 : lk T 52 = some (.val (.int .i64 n)) := hT (52, _) (by simp)
  have h46 : lk T 46 = some (.val (.bool false)) := hT (46, _) (by simp)
  have h' := h (pT T 53 (.own 1 (byteVs (z)))) (has_put hT (by simp [E.inval]))
  unfold Goal at h' ⊢
  rw [show ops10.toList.drop 9 = opI 9 :: ops10.toList.drop (9 + 1) by kernel_rfl]
  generalize ops10.toList.drop (9 + 1) = R at h' ⊢
  rw [evalG]
  simp only [opI, ops10, opsAt, codeAt, codeOf, Try.f5, Option.getD_some, if_true, Bool.false_eq_true, if_false, List.getD_cons_zero, List.getD_cons_succ]
  simp [wantedG, stepQ, isQM, isQ, quietOp, E.still, bytes_of, u24, gext, own10, FE_put, FE_get, FE_get0, FE_get1, FE_get2, FE_get3, FE_get4, FE_get15, c.o.d2, c.o.d13, c.o.d24, c.o.d35, c.o.b7, c.o.b18, c.o.b29, c.o.b40, fn32', show fi32.pure = true from rfl, c.z2, h51, h52, h46, hm5, ty24, ty3, ty9, ty2, ty5, evalCode, stepM, marked, stepE, stepOp, E.calm, Fr.putO, Fr.lend, Fr.op, constV, V.toE, okV, okE, E.v?, V.strip, binV, E.bool?, flats_bytes, unV, callStep, vsOf, retE, V.flat, flats, convV, strBin]
  exact h'
theorem op10 (c : Ctx O bs ss z w1 w2 w3 n i x) (h : ∀ T, Has T [(46, .val (.bool false)), (50, .val (.str (z))), (54, .val (.str (z)))] → Goal O bs ss n i x L k 11 T) : ∀ T, Has T [(46, .val (.bool false)), (50, .val (.str (z))), (53, .own 1 (byteVs (z)))] → Goal O bs ss n i x L k 10 T := by
  intro T hT
  have h53 : lk T 53 = some (.own 1 (byteVs (z))) := hT (53, _) (by simp)
  have h46 : lk T 46 = some (.val (.bool false)) := hT (46, _) (by simp)
  have h' := h (pT T 54 (.val (.str (z)))) (has_put hT (by simp [E.inval]))
  unfold Goal at h' ⊢
  rw [show ops10.toList.drop 10 = opI 10 :: ops10.toList.drop (10 + 1) by kernel_rfl]
  generalize ops10.toList.drop (10 + 1) = R at h' ⊢
  rw [evalG]
  simp only [opI, ops10, opsAt, codeAt, codeOf, Try.f5, Option.getD_some, if_true, Bool.false_eq_true, if_false, List.getD_cons_zero, List.getD_cons_succ]
  simp [wantedG, stepQ, isQM, isQ, quietOp, E.still, bytes_of, u24, gext, own10, FE_put, FE_get, FE_get0, FE_get1, FE_get2, FE_get3, FE_get4, FE_get15, c.o.d2, c.o.d13, c.o.d24, c.o.d35, c.o.b7, c.o.b18, c.o.b29, c.o.b40, h53, h46, hm5, ty24, ty3, ty9, ty2, ty5, evalCode, stepM, marked, stepE, stepOp, E.calm, Fr.putO, Fr.lend, Fr.op, constV, V.toE, okV, okE, E.v?, V.strip, binV, E.bool?, flats_bytes, unV, callStep, vsOf, retE, V.flat, flats, convV, strBin]
  exact h'
theorem op11 (c : Ctx O bs ss z w1 w2 w3 n i x) (h : ∀ T, Has T [(46, .val (.bool false)), (55, .val (.bool false))] → Goal O bs ss n i x L k 12 T) : ∀ T, Has T [(46, .val (.bool false)), (50, .val (.str (z))), (54, .val (.str (z)))] → Goal O bs ss n i x L k 11 T := by
  intro T hT
  have h50 : lk T 50 = some (.val (.str (z))) := hT (50, _) (by simp)
  have h54 : lk T 54 = some (.val (.str (z))) := hT (54, _) (by simp)
  have h46 : lk T 46 = some (.val (.bool false)) := hT (46, _) (by simp)
  have h' := h (pT T 55 (.val (.bool false))) (has_put hT (by simp [E.inval]))
  unfold Goal at h' ⊢
  rw [show ops10.toList.drop 11 = opI 11 :: ops10.toList.drop (11 + 1) by kernel_rfl]
  generalize ops10.toList.drop (11 + 1) = R at h' ⊢
  rw [evalG]
  simp only [opI, ops10, opsAt, codeAt, codeOf, Try.f5, Option.getD_some, if_true, Bool.false_eq_true, if_false, List.getD_cons_zero, List.getD_cons_succ]
  simp [wantedG, stepQ, isQM, isQ, quietOp, E.still, bytes_of, u24, gext, own10, FE_put, FE_get, FE_get0, FE_get1, FE_get2, FE_get3, FE_get4, FE_get15, c.o.d2, c.o.d13, c.o.d24, c.o.d35, c.o.b7, c.o.b18, c.o.b29, c.o.b40, h50, h54, h46, hm5, ty24, ty3, ty9, ty2, ty5, evalCode, stepM, marked, stepE, stepOp, E.calm, Fr.putO, Fr.lend, Fr.op, constV, V.toE, okV, okE, E.v?, V.strip, binV, E.bool?, flats_bytes, unV, callStep, vsOf, retE, V.flat, flats, convV, strBin]
  exact h'
theorem op12 (c : Ctx O bs ss z w1 w2 w3 n i x) (h : ∀ T, Has T [(56, .val (.bool false))] → Goal O bs ss n i x L k 13 T) : ∀ T, Has T [(46, .val (.bool false)), (55, .val (.bool false))] → Goal O bs ss n i x L k 12 T := by
  intro T hT
  have h46 : lk T 46 = some (.val (.bool false)) := hT (46, _) (by simp)
  have h55 : lk T 55 = some (.val (.bool false)) := hT (55, _) (by simp)
  have h' := h (pT T 56 (.val (.bool false))) (has_put hT (by simp [E.inval]))
  unfold Goal at h' ⊢
  rw [show ops10.toList.drop 12 = opI 12 :: ops10.toList.drop (12 + 1) by kernel_rfl]
  generalize ops10.toList.drop (12 + 1) = R at h' ⊢
  rw [evalG]
  simp only [opI, ops10, opsAt, codeAt, codeOf, Try.f5, Option.getD_some, if_true, Bool.false_eq_true, if_false, List.getD_cons_zero, List.getD_cons_succ]
  simp [wantedG, stepQ, isQM, isQ, quietOp, E.still, bytes_of, u24, gext, own10, FE_put, FE_get, FE_get0, FE_get1, FE_get2, FE_get3, FE_get4, FE_get15, c.o.d2, c.o.d13, c.o.d24, c.o.d35, c.o.b7, c.o.b18, c.o.b29, c.o.b40, h46, h55, hm5, ty24, ty3, ty9, ty2, ty5, evalCode, stepM, marked, stepE, stepOp, E.calm, Fr.putO, Fr.lend, Fr.op, constV, V.toE, okV, okE, E.v?, V.strip, binV, E.bool?, flats_bytes, unV, callStep, vsOf, retE, V.flat, flats, convV, strBin]
  exact h'
theorem op13 (c : Ctx O bs ss z w1 w2 w3 n i x) (h : ∀ T, Has T [(57, .val (.bool false))] → Goal O bs ss n i x L k 14 T) : ∀ T, Has T [(56, .val (.bool false))] → Goal O bs ss n i x L k 13 T := by
  intro T hT
  have h56 : lk T 56 = some (.val (.bool false)) := hT (56, _) (by simp)
  have h' := h (pT T 57 (.val (.bool false))) (has_put hT (by simp [E.inval]))
  unfold Goal at h' ⊢
  rw [show ops10.toList.drop 13 = opI 13 :: ops10.toList.drop (13 + 1) by kernel_rfl]
  generalize ops10.toList.drop (13 + 1) = R at h' ⊢
  rw [evalG]
  simp only [opI, ops10, opsAt, codeAt, codeOf, Try.f5, Option.getD_some, if_true, Bool.false_eq_true, if_false, List.getD_cons_zero, List.getD_cons_succ]
  simp [wantedG, stepQ, isQM, isQ, quietOp, E.still, bytes_of, u24, gext, own10, FE_put, FE_get, FE_get0, FE_get1, FE_get2, FE_get3, FE_get4, FE_get15, c.o.d2, c.o.d13, c.o.d24, c.o.d35, c.o.b7, c.o.b18, c.o.b29, c.o.b40, h56, hm5, ty24, ty3, ty9, ty2, ty5, evalCode, stepM, marked, stepE, stepOp, E.calm, Fr.putO, Fr.lend, Fr.op, constV, V.toE, okV, okE, E.v?, V.strip, binV, E.bool?, flats_bytes, unV, callStep, vsOf, retE, V.flat, flats, convV, strBin]
  exact h'
theorem op14 (c : Ctx O bs ss z w1 w2 w3 n i x) (h : ∀ T, Has T [(57, .val (.bool false)), (58, .val (.slice (byteVs (bs))))] → Goal O bs ss n i x L k 15 T) : ∀ T, Has T [(57, .val (.bool false))] → Goal O bs ss n i x L k 14 T := by
  intro T hT
  have h57 : lk T 57 = some (.val (.bool false)) := hT (57, _) (by simp)
  have h' := h (pT T 58 (.val (.slice (byteVs (bs))))) (has_put hT (by simp [E.inval]))
  unfold Goal at h' ⊢
  rw [show ops10.toList.drop 14 = opI 14 :: ops10.toList.drop (14 + 1) by kernel_rfl]
  generalize ops10.toList.drop (14 + 1) = R at h' ⊢
  rw [evalG]
  simp only [opI, ops10, opsAt, codeAt, codeOf, Try.f5, Option.getD_some, if_true, Bool.false_eq_true, if_false, List.getD_cons_zero, List.getD_cons_succ]
  simp [wantedG, stepQ, isQM, isQ, quietOp, E.still, bytes_of, u24, gext, own10, FE_put, FE_get, FE_get0, FE_get1, FE_get2, FE_get3, FE_get4, FE_get15, c.o.d2, c.o.d13, c.o.d24, c.o.d35, c.o.b7, c.o.b18, c.o.b29, c.o.b40, h57, hm5, ty24, ty3, ty9, ty2, ty5, evalCode, stepM, marked, stepE, stepOp, E.calm, Fr.putO, Fr.lend, Fr.op, constV, V.toE, okV, okE, E.v?, V.strip, binV, E.bool?, flats_bytes, unV, callStep, vsOf, retE, V.flat, flats, convV, strBin]
  exact h'
theorem op15 (c : Ctx O bs ss z w1 w2 w3 n i x) (h : ∀ T, Has T [(57, .val (.bool false)), (58, .val (.slice (byteVs (bs)))), (59, .val (.int .i64 i))] → Goal O bs ss n i x L k 16 T) : ∀ T, Has T [(57, .val (.bool false)), (58, .val (.slice (byteVs (bs))))] → Goal O bs ss n i x L k 15 T := by
  intro T hT
  have h57 : lk T 57 = some (.val (.bool false)) := hT (57, _) (by simp)
  have h' := h (pT T 59 (.val (.int .i64 i))) (has_put hT (by simp [E.inval]))
  unfold Goal at h' ⊢
  rw [show ops10.toList.drop 15 = opI 15 :: ops10.toList.drop (15 + 1) by kernel_rfl]
  generalize ops10.toList.drop (15 + 1) = R at h' ⊢
  rw [evalG]
  simp only [opI, ops10, opsAt, codeAt, codeOf, Try.f5, Option.getD_some, if_true, Bool.false_eq_true, if_false, List.getD_cons_zero, List.getD_cons_succ]
  simp [wantedG, stepQ, isQM, isQ, quietOp, E.still, bytes_of, u24, gext, own10, FE_put, FE_get, FE_get0, FE_get1, FE_get2, FE_get3, FE_get4, FE_get15, c.o.d2, c.o.d13, c.o.d24, c.o.d35, c.o.b7, c.o.b18, c.o.b29, c.o.b40, h57, hm5, ty24, ty3, ty9, ty2, ty5, evalCode, stepM, marked, stepE, stepOp, E.calm, Fr.putO, Fr.lend, Fr.op, constV, V.toE, okV, okE, E.v?, V.strip, binV, E.bool?, flats_bytes, unV, callStep, vsOf, retE, V.flat, flats, convV, strBin]
  exact h'
theorem op16 (c : Ctx O bs ss z w1 w2 w3 n i x) (h : ∀ T, Has T [(57, .val (.bool false)), (60, .own 1 (byteVs (bs ++ w1)))] → Goal O bs ss n i x L k 17 T) : ∀ T, Has T [(57, .val (.bool false)), (58, .val (.slice (byteVs (bs)))), (59, .val (.int .i64 i))] → Goal O bs ss n i x L k 16 T := by
  intro T hT
  have h58 : lk T 58 = some (.val (.slice (byteVs (bs)))) := hT (58, _) (by simp)
  have h59 : lk T 59 = some (.val (.int .i64 i)) := hT (59, _) (by simp)
  have h57 : lk T 57 = some (.val (.bool false)) := hT (57, _) (by simp)
  have h' := h (pT T 60 (.own 1 (byteVs (bs ++ w1)))) (has_put hT (by simp [E.inval]))
  unfold Goal at h' ⊢
  rw [show ops10.toList.drop 16 = opI 16 :: ops10.toList.drop (16 + 1) by kernel_rfl]
  generalize ops10.toList.drop (16 + 1) = R at h' ⊢
  rw [evalG]
  simp only [opI, ops10, opsAt, codeAt, codeOf, Try.f5, Option.getD_some, if_true, Bool.false_eq_true, if_false, List.getD_cons_zero, List.getD_cons_succ]
  simp [wantedG, stepQ, isQM, isQ, quietOp, E.still, bytes_of, u24, gext, own10, FE_put, FE_get, FE_get0, FE_get1, FE_get2, FE_get3, FE_get4, FE_get15, c.o.d2, c.o.d13, c.o.d24, c.o.d35, c.o.b7, c.o.b18, c.o.b29, c.o.b40, g22, q22, c.i1, h58, h59, h57, hm5, ty24, ty3, ty9, ty2, ty5, evalCode, stepM, marked, stepE, stepOp, E.calm, Fr.putO, Fr.lend, Fr.op, constV, V.toE, okV, okE, E.v?, V.strip, binV, E.bool?, flats_bytes, unV, callStep, vsOf, retE, V.flat, flats, convV, strBin]
  exact h'
theorem op17 (c : Ctx O bs ss z w1 w2 w3 n i x) (h : ∀ T, Has T [(57, .val (.bool false)), (61, .val (.str (bs ++ w1)))] → Goal O bs ss n i x L k 18 T) : ∀ T, Has T [(57, .val (.bool false)), (60, .own 1 (byteVs (bs ++ w1)))] → Goal O bs ss n i x L k 17 T := by
  intro T hT
  have h60 : lk T 60 = some (.own 1 (byteVs (bs ++ w1))) := hT (60, _) (by simp)
  have h57 : lk T 57 = some (.val (.bool false)) := hT (57, _) (by simp)
  have h' := h (pT T 61 (.val (.str (bs ++ w1)))) (has_put hT (by simp [E.inval]))
  unfold Goal at h' ⊢
  rw [show ops10.toList.drop 17 = opI 17 :: ops10.toList.drop (17 + 1) by kernel_rfl]
  generalize ops10.toList.drop (17 + 1) = R at h' ⊢
  rw [evalG]
  simp only [opI, ops10, opsAt, codeAt, codeOf, Try.f5, Option.getD_some, if_true, Bool.false_eq_true, if_false, List.getD_cons_zero, List.getD_cons_succ]
  simp [wantedG, stepQ, isQM, isQ, quietOp, E.still, bytes_of, u24, gext, own10, FE_put, FE_get, FE_get0, FE_get1, FE_get2, FE_get3, FE_get4, FE_get15, c.o.d2, c.o.d13, c.o.d24, c.o.d35, c.o.b7, c.o.b18, c.o.b29, c.o.b40, h60, h57, hm5, ty24, ty3, ty9, ty2, ty5, evalCode, stepM, marked, stepE, stepOp, E.calm, Fr.putO, Fr.lend, Fr.op, constV, V.toE, okV, okE, E.v?, V.strip, binV, E.bool?, flats_bytes, unV, callStep, vsOf, retE, V.flat, flats, convV, strBin]
  exact h'
theorem op18 (c : Ctx O bs ss z w1 w2 w3 n i x) (h : ∀ T, Has T [(57, .val (.bool false)), (61, .val (.str (bs ++ w1))), (62, .val (.slice (byteVs (bs))))] → Goal O bs ss n i x L k 19 T) : ∀ T, Has T [(57, .val (.bool false)), (61, .val (.str (bs ++ w1)))] → Goal O bs ss n i x L k 18 T := by
  intro T hT
  have h57 : lk T 57 = some (.val (.bool false)) := hT (57, _) (by simp)
  have h' := h (pT T 62 (.val (.slice (byteVs (bs))))) (has_put hT (by simp [E.inval]))
  unfold Goal at h' ⊢
  rw [show ops10.toList.drop 18 = opI 18 :: ops10.toList.drop (18 + 1) by kernel_rfl]
  generalize ops10.toList.drop (18 + 1) = R at h' ⊢
  rw [evalG]
  simp only [opI, ops10, opsAt, codeAt, codeOf, Try.f5, Option.getD_some, if_true, Bool.false_eq_true, if_false, List.getD_cons_zero, List.getD_cons_succ]
  simp [wantedG, stepQ, isQM, isQ, quietOp, E.still, bytes_of, u24, gext, own10, FE_put, FE_get, FE_get0, FE_get1, FE_get2, FE_get3, FE_get4, FE_get15, c.o.d2, c.o.d13, c.o.d24, c.o.d35, c.o.b7, c.o.b18, c.o.b29, c.o.b40, h57, hm5, ty24, ty3, ty9, ty2, ty5, evalCode, stepM, marked, stepE, stepOp, E.calm, Fr.putO, Fr.lend, Fr.op, constV, V.toE, okV, okE, E.v?, V.strip, binV, E.bool?, flats_bytes, unV, callStep, vsOf, retE, V.flat, flats, convV, strBin]
  exact h'
theorem op19 (c : Ctx O bs ss z w1 w2 w3 n i x) (h : ∀ T, Has T [(57, .val (.bool false)), (61, .val (.str (bs ++ w1))), (62, .val (.slice (byteVs (bs)))), (63, .val (.int .i64 i))] → Goal O bs ss n i x L k 20 T) : ∀ T, Has T [(57, .val (.bool false)), (61, .val (.str (bs ++ w1))), (62, .val (.slice (byteVs (bs))))] → Goal O bs ss n i x L k 19 T := by
  intro T hT
  have h57 : lk T 57 = some (.val (.bool false)) := hT (57, _) (by simp)
  have h' := h (pT T 63 (.val (.int .i64 i))) (has_put hT (by simp [E.inval]))
  unfold Goal at h' ⊢
  rw [show ops10.toList.drop 19 = opI 19 :: ops10.toList.drop (19 + 1) by kernel_rfl]
  generalize ops10.toList.drop (19 + 1) = R at h' ⊢
  rw [evalG]
  simp only [opI, ops10, opsAt, codeAt, codeOf, Try.f5, Option.getD_some, if_true, Bool.false_eq_true, if_false, List.getD_cons_zero, List.getD_cons_succ]
  simp [wantedG, stepQ, isQM, isQ, quietOp, E.still, bytes_of, u24, gext, own10, FE_put, FE_get, FE_get0, FE_get1, FE_get2, FE_get3, FE_get4, FE_get15, c.o.d2, c.o.d13, c.o.d24, c.o.d35, c.o.b7, c.o.b18, c.o.b29, c.o.b40, h57, hm5, ty24, ty3, ty9, ty2, ty5, evalCode, stepM, marked, stepE, stepOp, E.calm, Fr.putO, Fr.lend, Fr.op, constV, V.toE, okV, okE, E.v?, V.strip, binV, E.bool?, flats_bytes, unV, callStep, vsOf, retE, V.flat, flats, convV, strBin]
  exact h'
theorem op20 (c : Ctx O bs ss z w1 w2 w3 n i x) (h : ∀ T, Has T [(57, .val (.bool false)), (61, .val (.str (bs ++ w1))), (64, .own 1 (byteVs (bs ++ w1)))] → Goal O bs ss n i x L k 21 T) : ∀ T, Has T [(57, .val (.bool false)), (61, .val (.str (bs ++ w1))), (62, .val (.slice (byteVs (bs)))), (63, .val (.int .i64 i))] → Goal O bs ss n i x L k 20 T := by
  intro T hT
  have h62 : lk T 62 = some (.val (.slice (byteVs (bs)))) := hT (62, _) (by simp)
  have h63 : lk T 63 = some (.val (.int .i64 i)) := hT (63, _) (by simp)
  have h57 : lk T 57 = some (.val (.bool false)) := hT (57, _) (by simp)
  have h' := h (pT T 64 (.own 1 (byteVs (bs ++ w1)))) (has_put hT (by simp [E.inval]))
  unfold Goal at h' ⊢
  rw [show ops10.toList.drop 20 = opI 20 :: ops10.toList.drop (20 + 1) by kernel_rfl]
  generalize ops10.toList.drop (20 + 1) = R at h' ⊢
  rw [evalG]
  simp only [opI, ops10, opsAt, codeAt, codeOf, Try.f5, Option.getD_some, if_true, Bool.false_eq_true, if_false, List.getD_cons_zero, List.getD_cons_succ]
  simp [wantedG, stepQ, isQM, isQ, quietOp, E.still, bytes_of, u24, gext, own10, FE_put, FE_get, FE_get0, FE_get1, FE_get2, FE_get3, FE_get4, FE_get15, c.o.d2, c.o.d13, c.o.d24, c.o.d35, c.o.b7, c.o.b18, c.o.b29, c.o.b40, g33, q33, c.i2, h62, h63, h57, hm5, ty24, ty3, ty9, ty2, ty5, evalCode, stepM, marked, stepE, stepOp, E.calm, Fr.putO, Fr.lend, Fr.op, constV, V.toE, okV, okE, E.v?, V.strip, binV, E.bool?, flats_bytes, unV, callStep, vsOf, retE, V.flat, flats, convV, strBin]
  exact h'
theorem op21 (c : Ctx O bs ss z w1 w2 w3 n i x) (h : ∀ T, Has T [(57, .val (.bool false)), (61, .val (.str (bs ++ w1))), (65, .val (.str (bs ++ w1)))] → Goal O bs ss n i x L k 22 T) : ∀ T, Has T [(57, .val (.bool false)), (61, .val (.str (bs ++ w1))), (64, .own 1 (byteVs (bs ++ w1)))] → Goal O bs ss n i x L k 21 T := by
  intro T hT
  have h64 : lk T 64 = some (.own 1 (byteVs (bs ++ w1))) := hT (64, _) (by simp)
  have h57 : lk T 57 = some (.val (.bool false)) := hT (57, _) (by simp)
  have h' := h (pT T 65 (.val (.str (bs ++ w1)))) (has_put hT (by simp [E.inval]))
  unfold Goal at h' ⊢
  rw [show ops10.toList.drop 21 = opI 21 :: ops10.toList.drop (21 + 1) by kernel_rfl]
  generalize ops10.toList.drop (21 + 1) = R at h' ⊢
  rw [evalG]
  simp only [opI, ops10, opsAt, codeAt, codeOf, Try.f5, Option.getD_some, if_true, Bool.false_eq_true, if_false, List.getD_cons_zero, List.getD_cons_succ]
  simp [wantedG, stepQ, isQM, isQ, quietOp, E.still, bytes_of, u24, gext, own10, FE_put, FE_get, FE_get0, FE_get1, FE_get2, FE_get3, FE_get4, FE_get15, c.o.d2, c.o.d13, c.o.d24, c.o.d35, c.o.b7, c.o.b18, c.o.b29, c.o.b40, h64, h57, hm5, ty24, ty3, ty9, ty2, ty5, evalCode, stepM, marked, stepE, stepOp, E.calm, Fr.putO, Fr.lend, Fr.op, constV, V.toE, okV, okE, E.v?, V.strip, binV, E.bool?, flats_bytes, unV, callStep, vsOf, retE, V.flat, flats, convV, strBin]
  exact h'
theorem op22 (c : Ctx O bs ss z w1 w2 w3 n i x) (h : ∀ T, Has T [(57, .val (.bool false)), (66, .val (.bool false))] → Goal O bs ss n i x L k 23 T) : ∀ T, Has T [(57, .val (.bool false)), (61, .val (.str (bs ++ w1))), (65, .val (.str (bs ++ w1)))] → Goal O bs ss n i x L k 22 T := by
  intro T hT
  have h61 : lk T 61 = some (.val (.str (bs ++ w1))) := hT (61, _) (by simp)
  have h65 : lk T 65 = some (.val (.str (bs ++ w1))) := hT (65, _) (by simp)
  have h57 : lk T 57 = some (.val (.bool false)) := hT (57, _) (by simp)
  have h' := h (pT T 66 (.val (.bool false))) (has_put hT (by simp [E.inval]))
  unfold Goal at h' ⊢
  rw [show ops10.toList.drop 22 = opI 22 :: ops10.toList.drop (22 + 1) by kernel_rfl]
  generalize ops10.toList.drop (22 + 1) = R at h' ⊢
  rw [evalG]
  simp only [opI, ops10, opsAt, codeAt, codeOf, Try.f5, Option.getD_some, if_true, Bool.false_eq_true, if_false, List.getD_cons_zero, List.getD_cons_succ]
  simp [wantedG, stepQ, isQM, isQ, quietOp, E.still, bytes_of, u24, gext, own10, FE_put, FE_get, FE_get0, FE_get1, FE_get2, FE_get3, FE_get4, FE_get15, c.o.d2, c.o.d13, c.o.d24, c.o.d35, c.o.b7, c.o.b18, c.o.b29, c.o.b40, h61, h65, h57, hm5, ty24, ty3, ty9, ty2, ty5, evalCode, stepM, marked, stepE, stepOp, E.calm, Fr.putO, Fr.lend, Fr.op, constV, V.toE, okV, okE, E.v?, V.strip, binV, E.bool?, flats_bytes, unV, callStep, vsOf, retE, V.flat, flats, convV, strBin]
  exact h'
theorem op23 (c : Ctx O bs ss z w1 w2 w3 n i x) (h : ∀ T, Has T [(67, .val (.bool false))] → Goal O bs ss n i x L k 24 T) : ∀ T, Has T [(57, .val (.bool false)), (66, .val (.bool false))] → Goal O bs ss n i x L k 23 T := by
  intro T hT
  have h57 : lk T 57 = some (.val (.bool false)) := hT (57, _) (by simp)
  have h66 : lk T 66 = some (.val (.bool false)) := hT (66, _) (by simp)
  have h' := h (pT T 67 (.val (.bool false))) (has_put hT (by simp [E.inval]))
  unfold Goal at h' ⊢
  rw [show ops10.toList.drop 23 = opI 23 :: ops10.toList.drop (23 + 1) by kernel_rfl]
  generalize ops10.toList.drop (23 + 1) = R at h' ⊢
  rw [evalG]
  simp only [opI, ops10, opsAt, codeAt, codeOf, Try.f5, Option.getD_some, if_true, Bool.false_eq_true, if_false, List.getD_cons_zero, List.getD_cons_succ]
  simp [wantedG, stepQ, isQM, isQ, quietOp, E.still, bytes_of, u24, gext, own10, FE_put, FE_get, FE_get0, FE_get1, FE_get2, FE_get3, FE_get4, FE_get15, c.o.d2, c.o.d13, c.o.d24, c.o.d35, c.o.b7, c.o.b18, c.o.b29, c.o.b40, h57, h66, hm5, ty24, ty3, ty9, ty2, ty5, evalCode, stepM, marked, stepE, stepOp, E.calm, Fr.putO, Fr.lend, Fr.op, constV, V.toE, okV, okE, E.v?, V.strip, binV, E.bool?, flats_bytes, unV, callStep, vsOf, retE, V.flat, flats, convV, strBin]
  exact h'
theorem op24 (c : Ctx O bs ss z w1 w2 w3 n i x) (h : ∀ T, Has T [(68, .val (.bool false))] → Goal O bs ss n i x L k 25 T) : ∀ T, Has T [(67, .val (.bool false))] → Goal O bs ss n i x L k 24 T := by
  intro T hT
  have h67 : lk T 67 = some (.val (.bool false)) := hT (67, _) (by simp)
  have h' := h (pT T 68 (.val (.bool false))) (has_put hT (by simp [E.inval]))
  unfold Goal at h' ⊢
  rw [show ops10.toList.drop 24 = opI 24 :: ops10.toList.drop (24 + 1) by kernel_rfl]
  generalize ops10.toList.drop (24 + 1) = R at h' ⊢
  rw [evalG]
  simp only [opI, ops10, opsAt, codeAt, codeOf, Try.f5, Option.getD_some, if_true, Bool.false_eq_true, if_false, List.getD_cons_zero, List.getD_cons_succ]
  simp [wantedG, stepQ, isQM, isQ, quietOp, E.still, bytes_of, u24, gext, own10, FE_put, FE_get, FE_get0, FE_get1, FE_get2, FE_get3, FE_get4, FE_get15, c.o.d2, c.o.d13, c.o.d24, c.o.d35, c.o.b7, c.o.b18, c.o.b29, c.o.b40, h67, hm5, ty24, ty3, ty9, ty2, ty5, evalCode, stepM, marked, stepE, stepOp, E.calm, Fr.putO, Fr.lend, Fr.op, constV, V.toE, okV, okE, E.v?, V.strip, binV, E.bool?, flats_bytes, unV, callStep, vsOf, retE, V.flat, flats, convV, strBin]
  exact h'
theorem op25 (c : Ctx O bs ss z w1 w2 w3 n i x) (h : ∀ T, Has T [(68, .val (.bool false)), (69, .val (.slice (byteVs (bs))))] → Goal O bs ss n i x L k 26 T) : ∀ T, Has T [(68, .val (.bool false))] → Goal O bs ss n i x L k 25 T := by
  intro T hT
  have h68 : lk T 68 = some (.val (.bool false)) := hT (68, _) (by simp)
  have h' := h (pT T 69 (.val (.slice (byteVs (bs))))) (has_put hT (by simp [E.inval]))
  unfold Goal at h' ⊢
  rw [show ops10.toList.drop 25 = opI 25 :: ops10.toList.drop (25 + 1) by kernel_rfl]
  generalize ops10.toList.drop (25 + 1) = R at h' ⊢
  rw [evalG]
  simp only [opI, ops10, opsAt, codeAt, codeOf, Try.f5, Option.getD_some, if_true, Bool.false_eq_true, if_false, List.getD_cons_zero, List.getD_cons_succ]
  simp [wantedG, stepQ, isQM, isQ, quietOp, E.still, bytes_of, u24, gext, own10, FE_put, FE_get, FE_get0, FE_get1, FE_get2, FE_get3, FE_get4, FE_get15, c.o.d2, c.o.d13, c.o.d24, c.o.d35, c.o.b7, c.o.b18, c.o.b29, c.o.b40, h68, hm5, ty24, ty3, ty9, ty2, ty5, evalCode, stepM, marked, stepE, stepOp, E.calm, Fr.putO, Fr.lend, Fr.op, constV, V.toE, okV, okE, E.v?, V.strip, binV, E.bool?, flats_bytes, unV, callStep, vsOf, retE, V.flat, flats, convV, strBin]
  exact h'
theorem op26 (c : Ctx O bs ss z w1 w2 w3 n i x) (h : ∀ T, Has T [(68, .val (.bool false)), (69, .val (.slice (byteVs (bs)))), (70, .val (.float .f64 x))] → Goal O bs ss n i x L k 27 T) : ∀ T, Has T [(68, .val (.bool false)), (69, .val (.slice (byteVs (bs))))] → Goal O bs ss n i x L k 26 T := by
  intro T hT
  have h68 : lk T 68 = some (.val (.bool false)) := hT (68, _) (by simp)
  have h' := h (pT T 70 (.val (.float .f64 x))) (has_put hT (by simp [E.inval]))
  unfold Goal at h' ⊢
  rw [show ops10.toList.drop 26 = opI 26 :: ops10.toList.drop (26 + 1) by kernel_rfl]
  generalize ops10.toList.drop (26 + 1) = R at h' ⊢
  rw [evalG]
  simp only [opI, ops10, opsAt, codeAt, codeOf, Try.f5, Option.getD_some, if_true, Bool.false_eq_true, if_false, List.getD_cons_zero, List.getD_cons_succ]
  simp [wantedG, stepQ, isQM, isQ, quietOp, E.still, bytes_of, u24, gext, own10, FE_put, FE_get, FE_get0, FE_get1, FE_get2, FE_get3, FE_get4, FE_get15, c.o.d2, c.o.d13, c.o.d24, c.o.d35, c.o.b7, c.o.b18, c.o.b29, c.o.b40, h68, hm5, ty24, ty3, ty9, ty2, ty5, evalCode, stepM, marked, stepE, stepOp, E.calm, Fr.putO, Fr.lend, Fr.op, constV, V.toE, okV, okE, E.v?, V.strip, binV, E.bool?, flats_bytes, unV, callStep, vsOf, retE, V.flat, flats, convV, strBin]
  exact h'
theorem op27 (c : Ctx O bs ss z w1 w2 w3 n i x) (h : ∀ T, Has T [(68, .val (.bool false)), (71, .own 1 (byteVs (bs ++ w2)))] → Goal O bs ss n i x L k 28 T) : ∀ T, Has T [(68, .val (.bool false)), (69, .val (.slice (byteVs (bs)))), (70, .val (.float .f64 x))] → Goal O bs ss n i x L k 27 T := by
  intro T hT
  have h69 : lk T 69 = some (.val (.slice (byteVs (bs)))) := hT (69, _) (by simp)
  have h70 : lk T 70 = some (.val (.float .f64 x)) := hT (70, _) (by simp)
  have h68 : lk T 68 = some (.val (.bool false)) := hT (68, _) (by simp)
  have h' := h (pT T 71 (.own 1 (byteVs (bs ++ w2)))) (has_put hT (by simp [E.inval]))
  unfold Goal at h' ⊢
  rw [show ops10.toList.drop 27 = opI 27 :: ops10.toList.drop (27 + 1) by kernel_rfl]
  generalize ops10.toList.drop (27 + 1) = R at h' ⊢
  rw [evalG]
  simp only [opI, ops10, opsAt, codeAt, codeOf, Try.f5, Option.getD_some, if_true, Bool.false_eq_true, if_false, List.getD_cons_zero, List.getD_cons_succ]
  simp [wantedG, stepQ, isQM, isQ, quietOp, E.still, bytes_of, u24, gext, own10, FE_put, FE_get, FE_get0, FE_get1, FE_get2, FE_get3, FE_get4, FE_get15, c.o.d2, c.o.d13, c.o.d24, c.o.d35, c.o.b7, c.o.b18, c.o.b29, c.o.b40, g34, q34, c.x1, h69, h70, h68, hm5, ty24, ty3, ty9, ty2, ty5, evalCode, stepM, marked, stepE, stepOp, E.calm, Fr.putO, Fr.lend, Fr.op, constV, V.toE, okV, okE, E.v?, V.strip, binV, E.bool?, flats_bytes, unV, callStep, vsOf, retE, V.flat, flats, convV, strBin]
  exact h'
theorem op28 (c : Ctx O bs ss z w1 w2 w3 n i x) (h : ∀ T, Has T [(68, .val (.bool false)), (72, .val (.str (bs ++ w2)))] → Goal O bs ss n i x L k 29 T) : ∀ T, Has T [(68, .val (.bool false)), (71, .own 1 (byteVs (bs ++ w2)))] → Goal O bs ss n i x L k 28 T := by
  intro T hT
  have h71 : lk T 71 = some (.own 1 (byteVs (bs ++ w2))) := hT (71, _) (by simp)
  have h68 : lk T 68 = some (.val (.bool false)) := hT (68, _) (by simp)
  have h' := h (pT T 72 (.val (.str (bs ++ w2)))) (has_put hT (by simp [E.inval]))
  unfold Goal at h' ⊢
  rw [show ops10.toList.drop 28 = opI 28 :: ops10.toList.drop (28 + 1) by kernel_rfl]
  generalize ops10.toList.drop (28 + 1) = R at h' ⊢
  rw [evalG]
  simp only [opI, ops10, opsAt, codeAt, codeOf, Try.f5, Option.getD_some, if_true, Bool.false_eq_true, if_false, List.getD_cons_zero, List.getD_cons_succ]
  simp [wantedG, stepQ, isQM, isQ, quietOp, E.still, bytes_of, u24, gext, own10, FE_put, FE_get, FE_get0, FE_get1, FE_get2, FE_get3, FE_get4, FE_get15, c.o.d2, c.o.d13, c.o.d24, c.o.d35, c.o.b7, c.o.b18, c.o.b29, c.o.b40, h71, h68, hm5, ty24, ty3, ty9, ty2, ty5, evalCode, stepM, marked, stepE, stepOp, E.calm, Fr.putO, Fr.lend, Fr.op, constV, V.toE, okV, okE, E.v?, V.strip, binV, E.bool?, flats_bytes, unV, callStep, vsOf, retE, V.flat, flats, convV, strBin]
  exact h'
theorem op29 (c : Ctx O bs ss z w1 w2 w3 n i x) (h : ∀ T, Has T [(68, .val (.bool false)), (72, .val (.str (bs ++ w2))), (73, .val (.slice (byteVs (bs))))] → Goal O bs ss n i x L k 30 T) : ∀ T, Has T [(68, .val (.bool false)), (72, .val (.str (bs ++ w2)))] → Goal O bs ss n i x L k 29 T := by
  intro T hT
  have h68 : lk T 68 = some (.val (.bool false)) := hT (68, _) (by simp)
  have h' := h (pT T 73 (.val (.slice (byteVs (bs))))) (has_put hT (by simp [E.inval]))
  unfold Goal at h' ⊢
  rw [show ops10.toList.drop 29 = opI 29 :: ops10.toList.drop (29 + 1) by kernel_rfl]
  generalize ops10.toList.drop (29 + 1) = R at h' ⊢
  rw [evalG]
  simp only [opI, ops10, opsAt, codeAt, codeOf, Try.f5, Option.getD_some, if_true, Bool.false_eq_true, if_false, List.getD_cons_zero, List.getD_cons_succ]
  simp [wantedG, stepQ, isQM, isQ, quietOp, E.still, bytes_of, u24, gext, own10, FE_put, FE_get, FE_get0, FE_get1, FE_get2, FE_get3, FE_get4, FE_get15, c.o.d2, c.o.d13, c.o.d24, c.o.d35, c.o.b7, c.o.b18, c.o.b29, c.o.b40, h68, hm5, ty24, ty3, ty9, ty2, ty5, evalCode, stepM, marked, stepE, stepOp, E.calm, Fr.putO, Fr.lend, Fr.op, constV, V.toE, okV, okE, E.v?, V.strip, binV, E.bool?, flats_bytes, unV, callStep, vsOf, retE, V.flat, flats, convV, strBin]
  exact h'
theorem op30 (c : Ctx O bs ss z w1 w2 w3 n i x) (h : ∀ T, Has T [(68, .val (.bool false)), (72, .val (.str (bs ++ w2))), (73, .val (.slice (byteVs (bs)))), (74, .val (.float .f64 x))] → Goal O bs ss n i x L k 31 T) : ∀ T, Has T [(68, .val (.bool false)), (72, .val (.str (bs ++ w2))), (73, .val (.slice (byteVs (bs))))] → Goal O bs ss n i x L k 30 T := by
  intro T hT
  have h68 : lk T 68 = some (.val (.bool false)) := hT (68, _) (by simp)
  have h' := h (pT T 74 (.val (.float .f64 x))) (has_put hT (by simp [E.inval]))
  unfold Goal at h' ⊢
  rw [show ops10.toList.drop 30 = opI 30 :: ops10.toList.drop (30 + 1) by kernel_rfl]
  generalize ops10.toList.drop (30 + 1) = R at h' ⊢
  rw [evalG]
  simp only [opI, ops10, opsAt, codeAt, codeOf, Try.f5, Option.getD_some, if_true, Bool.false_eq_true, if_false, List.getD_cons_zero, List.getD_cons_succ]
  simp [wantedG, stepQ, isQM, isQ, quietOp, E.still, bytes_of, u24, gext, own10, FE_put, FE_get, FE_get0, FE_get1, FE_get2, FE_get3, FE_get4, FE_get15, c.o.d2, c.o.d13, c.o.d24, c.o.d35, c.o.b7, c.o.b18, c.o.b29, c.o.b40, h68, hm5, ty24, ty3, ty9, ty2, ty5, evalCode, stepM, marked, stepE, stepOp, E.calm, Fr.putO, Fr.lend, Fr.op, constV, V.toE, okV, okE, E.v?, V.strip, binV, E.bool?, flats_bytes, unV, callStep, vsOf, retE, V.flat, flats, convV, strBin]
  exact h'
theorem op31 (c : Ctx O bs ss z w1 w2 w3 n i x) (h : ∀ T, Has T [(68, .val (.bool false)), (72, .val (.str (bs ++ w2))), (75, .own 1 (byteVs (bs ++ w2)))] → Goal O bs ss n i x L k 32 T) : ∀ T, Has T [(68, .val (.bool false)), (72, .val (.str (bs ++ w2))), (73, .val (.slice (byteVs (bs)))), (74, .val (.float .f64 x))] → Goal O bs ss n i x L k 31 T := by
  intro T hT
  have h73 : lk T 73 = some (.val (.slice (byteVs (bs)))) := hT (73, _) (by simp)
  have h74 : lk T 74 = some (.val (.float .f64 x)) := hT (74, _) (by simp)
  have h68 : lk T 68 = some (.val (.bool false)) := hT (68, _) (by simp)
  have h' := h (pT T 75 (.own 1 (byteVs (bs ++ w2)))) (has_put hT (by simp [E.inval]))
  unfold Goal at h' ⊢
  rw [show ops10.toList.drop 31 = opI 31 :: ops10.toList.drop (31 + 1) by kernel_rfl]
  generalize ops10.toList.drop (31 + 1) = R at h' ⊢
  rw [evalG]
  simp only [opI, ops10, opsAt, codeAt, codeOf, Try.f5, Option.getD_some, if_true, Bool.false_eq_true, if_false, List.getD_cons_zero, List.getD_cons_succ]
  simp [wantedG, stepQ, isQM, isQ, quietOp, E.still, bytes_of, u24, gext, own10, FE_put, FE_get, FE_get0, FE_get1, FE_get2, FE_get3, FE_get4, FE_get15, c.o.d2, c.o.d13, c.o.d24, c.o.d35, c.o.b7, c.o.b18, c.o.b29, c.o.b40, g35, q35, c.x2, h73, h74, h68, hm5, ty24, ty3, ty9, ty2, ty5, evalCode, stepM, marked, stepE, stepOp, E.calm, Fr.putO, Fr.lend, Fr.op, constV, V.toE, okV, okE, E.v?, V.strip, binV, E.bool?, flats_bytes, unV, callStep, vsOf, retE, V.flat, flats, convV, strBin]
  exact h'
theorem op32 (c : Ctx O bs ss z w1 w2 w3 n i x) (h : ∀ T, Has T [(68, .val (.bool false)), (72, .val (.str (bs ++ w2))), (76, .val (.str (bs ++ w2)))] → Goal O bs ss n i x L k 33 T) : ∀ T, Has T [(68, .val (.bool false)), (72, .val (.str (bs ++ w2))), (75, .own 1 (byteVs (bs ++ w2)))] → Goal O bs ss n i x L k 32 T := by
  intro T hT
  have h75 : lk T 75 = some (.own 1 (byteVs (bs ++ w2))) := hT (75, _) (by simp)
  have h68 : lk T 68 = some (.val (.bool false)) := hT (68, _) (by simp)
  have h' := h (pT T 76 (.val (.str (bs ++ w2)))) (has_put hT (by simp [E.inval]))
  unfold Goal at h' ⊢
  rw [show ops10.toList.drop 32 = opI 32 :: ops10.toList.drop (32 + 1) by kernel_rfl]
  generalize ops10.toList.drop (32 + 1) = R at h' ⊢
  rw [evalG]
  simp only [opI, ops10, opsAt, codeAt, codeOf, Try.f5, Option.getD_some, if_true, Bool.false_eq_true, if_false, List.getD_cons_zero, List.getD_cons_succ]
  simp [wantedG, stepQ, isQM, isQ, quietOp, E.still, bytes_of, u24, gext, own10, FE_put, FE_get, FE_get0, FE_get1, FE_get2, FE_get3, FE_get4, FE_get15, c.o.d2, c.o.d13, c.o.d24, c.o.d35, c.o.b7, c.o.b18, c.o.b29, c.o.b40, h75, h68, hm5, ty24, ty3, ty9, ty2, ty5, evalCode, stepM, marked, stepE, stepOp, E.calm, Fr.putO, Fr.lend, Fr.op, constV, V.toE, okV, okE, E.v?, V.strip, binV, E.bool?, flats_bytes, unV, callStep, vsOf, retE, V.flat, flats, convV, strBin]
  exact h'
theorem op33 (c : Ctx O bs ss z w1 w2 w3 n i x) (h : ∀ T, Has T [(68, .val (.bool false)), (77, .val (.bool false))] → Goal O bs ss n i x L k 34 T) : ∀ T, Has T [(68, .val (.bool false)), (72, .val (.str (bs ++ w2))), (76, .val (.str (bs ++ w2)))] → Goal O bs ss n i x L k 33 T := by
  intro T hT
  have h72 : lk T 72 = some (.val (.str (bs ++ w2))) := hT (72, _) (by simp)
  have h76 : lk T 76 = some (.val (.str (bs ++ w2))) := hT (76, _) (by simp)
  have h68 : lk T 68 = some (.val (.bool false)) := hT (68, _) (by simp)
  have h' := h (pT T 77 (.val (.bool false))) (has_put hT (by simp [E.inval]))
  unfold Goal at h' ⊢
  rw [show ops10.toList.drop 33 = opI 33 :: ops10.toList.drop (33 + 1) by kernel_rfl]
  generalize ops10.toList.drop (33 + 1) = R at h' ⊢
  rw [evalG]
  simp only [opI, ops10, opsAt, codeAt, codeOf, Try.f5, Option.getD_some, if_true, Bool.false_eq_true, if_false, List.getD_cons_zero, List.getD_cons_succ]
  simp [wantedG, stepQ, isQM, isQ, quietOp, E.still, bytes_of, u24, gext, own10, FE_put, FE_get, FE_get0, FE_get1, FE_get2, FE_get3, FE_get4, FE_get15, c.o.d2, c.o.d13, c.o.d24, c.o.d35, c.o.b7, c.o.b18, c.o.b29, c.o.b40, h72, h76, h68, hm5, ty24, ty3, ty9, ty2, ty5, evalCode, stepM, marked, stepE, stepOp, E.calm, Fr.putO, Fr.lend, Fr.op, constV, V.toE, okV, okE, E.v?, V.strip, binV, E.bool?, flats_bytes, unV, callStep, vsOf, retE, V.flat, flats, convV, strBin]
  exact h'
theorem op34 (c : Ctx O bs ss z w1 w2 w3 n i x) (h : ∀ T, Has T [(78, .val (.bool false))] → Goal O bs ss n i x L k 35 T) : ∀ T, Has T [(68, .val (.bool false)), (77, .val (.bool false))] → Goal O bs ss n i x L k 34 T := by
  intro T hT
  have h68 : lk T 68 = some (.val (.bool false)) := hT (68, _) (by simp)
  have h77 : lk T 77 = some (.val (.bool false)) := hT (77, _) (by simp)
  have h' := h (pT T 78 (.val (.bool false))) (has_put hT (by simp [E.inval]))
  unfold Goal at h' ⊢
  rw [show ops10.toList.drop 34 = opI 34 :: ops10.toList.drop (34 + 1) by kernel_rfl]
  generalize ops10.toList.drop (34 + 1) = R at h' ⊢
  rw [evalG]
  simp only [opI, ops10, opsAt, codeAt, codeOf, Try.f5, Option.getD_some, if_true, Bool.false_eq_true, if_false, List.getD_cons_zero, List.getD_cons_succ]
  simp [wantedG, stepQ, isQM, isQ, quietOp, E.still, bytes_of, u24, gext, own10, FE_put, FE_get, FE_get0, FE_get1, FE_get2, FE_get3, FE_get4, FE_get15, c.o.d2, c.o.d13, c.o.d24, c.o.d35, c.o.b7, c.o.b18, c.o.b29, c.o.b40, h68, h77, hm5, ty24, ty3, ty9, ty2, ty5, evalCode, stepM, marked, stepE, stepOp, E.calm, Fr.putO, Fr.lend, Fr.op, constV, V.toE, okV, okE, E.v?, V.strip, binV, E.bool?, flats_bytes, unV, callStep, vsOf, retE, V.flat, flats, convV, strBin]
  exact h'
theorem op35 (c : Ctx O bs ss z w1 w2 w3 n i x) (h : ∀ T, Has T [(79, .val (.bool false))] → Goal O bs ss n i x L k 36 T) : ∀ T, Has T [(78, .val (.bool false))] → Goal O bs ss n i x L k 35 T := by
  intro T hT
  have h78 : lk T 78 = some (.val (.bool false)) := hT (78, _) (by simp)
  have h' := h (pT T 79 (.val (.bool false))) (has_put hT (by simp [E.inval]))
  unfold Goal at h' ⊢
  rw [show ops10.toList.drop 35 = opI 35 :: ops10.toList.drop (35 + 1) by kernel_rfl]
  generalize ops10.toList.drop (35 + 1) = R at h' ⊢
  rw [evalG]
  simp only [opI, ops10, opsAt, codeAt, codeOf, Try.f5, Option.getD_some, if_true, Bool.false_eq_true, if_false, List.getD_cons_zero, List.getD_cons_succ]
  simp [wantedG, stepQ, isQM, isQ, quietOp, E.still, bytes_of, u24, gext, own10, FE_put, FE_get, FE_get0, FE_get1, FE_get2, FE_get3, FE_get4, FE_get15, c.o.d2, c.o.d13, c.o.d24, c.o.d35, c.o.b7, c.o.b18, c.o.b29, c.o.b40, h78, hm5, ty24, ty3, ty9, ty2, ty5, evalCode, stepM, marked, stepE, stepOp, E.calm, Fr.putO, Fr.lend, Fr.op, constV, V.toE, okV, okE, E.v?, V.strip, binV, E.bool?, flats_bytes, unV, callStep, vsOf, retE, V.flat, flats, convV, strBin]
  exact h'
theorem op36 (c : Ctx O bs ss z w1 w2 w3 n i x) (h : ∀ T, Has T [(79, .val (.bool false)), (80, .val (.slice (byteVs (bs))))] → Goal O bs ss n i x L k 37 T) : ∀ T, Has T [(79, .val (.bool false))] → Goal O bs ss n i x L k 36 T := by
  intro T hT
  have h79 : lk T 79 = some (.val (.bool false)) := hT (79, _) (by simp)
  have h' := h (pT T 80 (.val (.slice (byteVs (bs))))) (has_put hT (by simp [E.inval]))
  unfold Goal at h' ⊢
  rw [show ops10.toList.drop 36 = opI 36 :: ops10.toList.drop (36 + 1) by kernel_rfl]
  generalize ops10.toList.drop (36 + 1) = R at h' ⊢
  rw [evalG]
  simp only [opI, ops10, opsAt, codeAt, codeOf, Try.f5, Option.getD_some, if_true, Bool.false_eq_true, if_false, List.getD_cons_zero, List.getD_cons_succ]
  simp [wantedG, stepQ, isQM, isQ, quietOp, E.still, bytes_of, u24, gext, own10, FE_put, FE_get, FE_get0, FE_get1, FE_get2, FE_get3, FE_get4, FE_get15, c.o.d2, c.o.d13, c.o.d24, c.o.d35, c.o.b7, c.o.b18, c.o.b29, c.o.b40, h79, hm5, ty24, ty3, ty9, ty2, ty5, evalCode, stepM, marked, stepE, stepOp, E.calm, Fr.putO, Fr.lend, Fr.op, constV, V.toE, okV, okE, E.v?, V.strip, binV, E.bool?, flats_bytes, unV, callStep, vsOf, retE, V.flat, flats, convV, strBin]
  exact h'
theorem op37 (c : Ctx O bs ss z w1 w2 w3 n i x) (h : ∀ T, Has T [(79, .val (.bool false)), (80, .val (.slice (byteVs (bs)))), (81, .val (.str ss))] → Goal O bs ss n i x L k 38 T) : ∀ T, Has T [(79, .val (.bool false)), (80, .val (.slice (byteVs (bs))))] → Goal O bs ss n i x L k 37 T := by
  intro T hT
  have h79 : lk T 79 = some (.val (.bool false)) := hT (79, _) (by simp)
  have h' := h (pT T 81 (.val (.str ss))) (has_put hT (by simp [E.inval]))
  unfold Goal at h' ⊢
  rw [show ops10.toList.drop 37 = opI 37 :: ops10.toList.drop (37 + 1) by kernel_rfl]
  generalize ops10.toList.drop (37 + 1) = R at h' ⊢
  rw [evalG]
  simp only [opI, ops10, opsAt, codeAt, codeOf, Try.f5, Option.getD_some, if_true, Bool.false_eq_true, if_false, List.getD_cons_zero, List.getD_cons_succ]
  simp [wantedG, stepQ, isQM, isQ, quietOp, E.still, bytes_of, u24, gext, own10, FE_put, FE_get, FE_get0, FE_get1, FE_get2, FE_get3, FE_get4, FE_get15, c.o.d2, c.o.d13, c.o.d24, c.o.d35, c.o.b7, c.o.b18, c.o.b29, c.o.b40, h79, hm5, ty24, ty3, ty9, ty2, ty5, evalCode, stepM, marked, stepE, stepOp, E.calm, Fr.putO, Fr.lend, Fr.op, constV, V.toE, okV, okE, E.v?, V.strip, binV, E.bool?, flats_bytes, unV, callStep, vsOf, retE, V.flat, flats, convV, strBin]
  exact h'
theorem op38 (c : Ctx O bs ss z w1 w2 w3 n i x) (h : ∀ T, Has T [(79, .val (.bool false)), (82, .own 1 (byteVs (w3)))] → Goal O bs ss n i x L k 39 T) : ∀ T, Has T [(79, .val (.bool false)), (80, .val (.slice (byteVs (bs)))), (81, .val (.str ss))] → Goal O bs ss n i x L k 38 T := by
  intro T hT
  have h80 : lk T 80 = some (.val (.slice (byteVs (bs)))) := hT (80, _) (by simp)
  have h81 : lk T 81 = some (.val (.str ss)) := hT (81, _) (by simp)
  have h79 : lk T 79 = some (.val (.bool false)) := hT (79, _) (by simp)
  have h' := h (pT T 82 (.own 1 (byteVs (w3)))) (has_put hT (by simp [E.inval]))
  unfold Goal at h' ⊢
  rw [show ops10.toList.drop 38 = opI 38 :: ops10.toList.drop (38 + 1) by kernel_rfl]
  generalize ops10.toList.drop (38 + 1) = R at h' ⊢
  rw [evalG]
  simp only [opI, ops10, opsAt, codeAt, codeOf, Try.f5, Option.getD_some, if_true, Bool.false_eq_true, if_false, List.getD_cons_zero, List.getD_cons_succ]
  simp [wantedG, stepQ, isQM, isQ, quietOp, E.still, bytes_of, u24, gext, own10, FE_put, FE_get, FE_get0, FE_get1, FE_get2, FE_get3, FE_get4, FE_get15, c.o.d2, c.o.d13, c.o.d24, c.o.d35, c.o.b7, c.o.b18, c.o.b29, c.o.b40, g21, q21, c.s1, h80, h81, h79, hm5, ty24, ty3, ty9, ty2, ty5, evalCode, stepM, marked, stepE, stepOp, E.calm, Fr.putO, Fr.lend, Fr.op, constV, V.toE, okV, okE, E.v?, V.strip, binV, E.bool?, flats_bytes, unV, callStep, vsOf, retE, V.flat, flats, convV, strBin]
  exact h'
theorem op39 (c : Ctx O bs ss z w1 w2 w3 n i x) (h : ∀ T, Has T [(79, .val (.bool false)), (83, .val (.str (w3)))] → Goal O bs ss n i x L k 40 T) : ∀ T, Has T [(79, .val (.bool false)), (82, .own 1 (byteVs (w3)))] → Goal O bs ss n i x L k 39 T := by
  intro T hT
  have h82 : lk T 82 = some (.own 1 (byteVs (w3))) := hT (82, _) (by simp)
  have h79 : lk T 79 = some (.val (.bool false)) := hT (79, _) (by simp)
  have h' := h (pT T 83 (.val (.str (w3)))) (has_put hT (by simp [E.inval]))
  unfold Goal at h' ⊢
  rw [show ops10.toList.drop 39 = opI 39 :: ops10.toList.drop (39 + 1) by kernel_rfl]
  generalize ops10.toList.drop (39 + 1) = R at h' ⊢
  rw [evalG]
  simp only [opI, ops10, opsAt, codeAt, codeOf, Try.f5, Option.getD_some, if_true, Bool.false_eq_true, if_false, List.getD_cons_zero, List.getD_cons_succ]
  simp [wantedG, stepQ, isQM, isQ, quietOp, E.still, bytes_of, u24, gext, own10, FE_put, FE_get, FE_get0, FE_get1, FE_get2, FE_get3, FE_get4, FE_get15, c.o.d2, c.o.d13, c.o.d24, c.o.d35, c.o.b7, c.o.b18, c.o.b29, c.o.b40, h82, h79, hm5, ty24, ty3, ty9, ty2, ty5, evalCode, stepM, marked, stepE, stepOp, E.calm, Fr.putO, Fr.lend, Fr.op, constV, V.toE, okV, okE, E.v?, V.strip, binV, E.bool?, flats_bytes, unV, callStep, vsOf, retE, V.flat, flats, convV, strBin]
  exact h'
theorem op40 (c : Ctx O bs ss z w1 w2 w3 n i x) (h : ∀ T, Has T [(79, .val (.bool false)), (83, .val (.str (w3))), (84, .val (.slice (byteVs (bs))))] → Goal O bs ss n i x L k 41 T) : ∀ T, Has T [(79, .val (.bool false)), (83, .val (.str (w3)))] → Goal O bs ss n i x L k 40 T := by
  intro T hT
  have h79 : lk T 79 = some (.val (.bool false)) := hT (79, _) (by simp)
  have h' := h (pT T 84 (.val (.slice (byteVs (bs))))) (has_put hT (by simp [E.inval]))
  unfold Goal at h' ⊢
  rw [show ops10.toList.drop 40 = opI 40 :: ops10.toList.drop (40 + 1) by kernel_rfl]
  generalize ops10.toList.drop (40 + 1) = R at h' ⊢
  rw [evalG]
  simp only [opI, ops10, opsAt, codeAt, codeOf, Try.f5, Option.getD_some, if_true, Bool.false_eq_true, if_false, List.getD_cons_zero, List.getD_cons_succ]
  simp [wantedG, stepQ, isQM, isQ, quietOp, E.still, bytes_of, u24, gext, own10, FE_put, FE_get, FE_get0, FE_get1, FE_get2, FE_get3, FE_get4, FE_get15, c.o.d2, c.o.d13, c.o.d24, c.o.d35, c.o.b7, c.o.b18, c.o.b29, c.o.b40, h79, hm5, ty24, ty3, ty9, ty2, ty5, evalCode, stepM, marked, stepE, stepOp, E.calm, Fr.putO, Fr.lend, Fr.op, constV, V.toE, okV, okE, E.v?, V.strip, binV, E.bool?, flats_bytes, unV, callStep, vsOf, retE, V.flat, flats, convV, strBin]
  exact h'
theorem op41 (c : Ctx O bs ss z w1 w2 w3 n i x) (h : ∀ T, Has T [(79, .val (.bool false)), (83, .val (.str (w3))), (84, .val (.slice (byteVs (bs)))), (85, .val (.str ss))] → Goal O bs ss n i x L k 42 T) : ∀ T, Has T [(79, .val (.bool false)), (83, .val (.str (w3))), (84, .val (.slice (byteVs (bs))))] → Goal O bs ss n i x L k 41 T := by
  intro T hT
  have h79 : lk T 79 = some (.val (.bool false)) := hT (79, _) (by simp)
  have h' := h (pT T 85 (.val (.str ss))) (has_put hT (by simp [E.inval]))
  unfold Goal at h' ⊢
  rw [show ops10.toList.drop 41 = opI 41 :: ops10.toList.drop (41 + 1) by kernel_rfl]
  generalize ops10.toList.drop (41 + 1) = R at h' ⊢
  rw [evalG]
  simp only [opI, ops10, opsAt, codeAt, codeOf, Try.f5, Option.getD_some, if_true, Bool.false_eq_true, if_false, List.getD_cons_zero, List.getD_cons_succ]
  simp [wantedG, stepQ, isQM, isQ, quietOp, E.still, bytes_of, u24, gext, own10, FE_put, FE_get, FE_get0, FE_get1, FE_get2, FE_get3, FE_get4, FE_get15, c.o.d2, c.o.d13, c.o.d24, c.o.d35, c.o.b7, c.o.b18, c.o.b29, c.o.b40, h79, hm5, ty24, ty3, ty9, ty2, ty5, evalCode, stepM, marked, stepE, stepOp, E.calm, Fr.putO, Fr.lend, Fr.op, constV, V.toE, okV, okE, E.v?, V.strip, binV, E.bool?, flats_bytes, unV, callStep, vsOf, retE, V.flat, flats, convV, strBin]
  exact h'
theorem op42 (c : Ctx O bs ss z w1 w2 w3 n i x) (h : ∀ T, Has T [(79, .val (.bool false)), (83, .val (.str (w3))), (86, .own 1 (byteVs (w3)))] → Goal O bs ss n i x L k 43 T) : ∀ T, Has T [(79, .val (.bool false)), (83, .val (.str (w3))), (84, .val (.slice (byteVs (bs)))), (85, .val (.str ss))] → Goal O bs ss n i x L k 42 T := by
  intro T hT
  have h84 : lk T 84 = some (.val (.slice (byteVs (bs)))) := hT (84, _) (by simp)
  have h85 : lk T 85 = some (.val (.str ss)) := hT (85, _) (by simp)
  have h79 : lk T 79 = some (.val (.bool false)) := hT (79, _) (by simp)
  have h' := h (pT T 86 (.own 1 (byteVs (w3)))) (has_put hT (by simp [E.inval]))
  unfold Goal at h' ⊢
  rw [show ops10.toList.drop 42 = opI 42 :: ops10.toList.drop (42 + 1) by kernel_rfl]
  generalize ops10.toList.drop (42 + 1) = R at h' ⊢
  rw [evalG]
  simp only [opI, ops10, opsAt, codeAt, codeOf, Try.f5, Option.getD_some, if_true, Bool.false_eq_true, if_false, List.getD_cons_zero, List.getD_cons_succ]
  simp [wantedG, stepQ, isQM, isQ, quietOp, E.still, bytes_of, u24, gext, own10, FE_put, FE_get, FE_get0, FE_get1, FE_get2, FE_get3, FE_get4, FE_get15, c.o.d2, c.o.d13, c.o.d24, c.o.d35, c.o.b7, c.o.b18, c.o.b29, c.o.b40, g36, q36, c.s2, h84, h85, h79, hm5, ty24, ty3, ty9, ty2, ty5, evalCode, stepM, marked, stepE, stepOp, E.calm, Fr.putO, Fr.lend, Fr.op, constV, V.toE, okV, okE, E.v?, V.strip, binV, E.bool?, flats_bytes, unV, callStep, vsOf, retE, V.flat, flats, convV, strBin]
  exact h'
theorem op43 (c : Ctx O bs ss z w1 w2 w3 n i x) (h : ∀ T, Has T [(79, .val (.bool false)), (83, .val (.str (w3))), (87, .val (.str (w3)))] → Goal O bs ss n i x L k 44 T) : ∀ T, Has T [(79, .val (.bool false)), (83, .val (.str (w3))), (86, .own 1 (byteVs (w3)))] → Goal O bs ss n i x L k 43 T := by
  intro T hT
  have h86 : lk T 86 = some (.own 1 (byteVs (w3))) := hT (86, _) (by simp)
  have h79 : lk T 79 = some (.val (.bool false)) := hT (79, _) (by simp)
  have h' := h (pT T 87 (.val (.str (w3)))) (has_put hT (by simp [E.inval]))
  unfold Goal at h' ⊢
  rw [show ops10.toList.drop 43 = opI 43 :: ops10.toList.drop (43 + 1) by kernel_rfl]
  generalize ops10.toList.drop (43 + 1) = R at h' ⊢
  rw [evalG]
  simp only [opI, ops10, opsAt, codeAt, codeOf, Try.f5, Option.getD_some, if_true, Bool.false_eq_true, if_false, List.getD_cons_zero, List.getD_cons_succ]
  simp [wantedG, stepQ, isQM, isQ, quietOp, E.still, bytes_of, u24, gext, own10, FE_put, FE_get, FE_get0, FE_get1, FE_get2, FE_get3, FE_get4, FE_get15, c.o.d2, c.o.d13, c.o.d24, c.o.d35, c.o.b7, c.o.b18, c.o.b29, c.o.b40, h86, h79, hm5, ty24, ty3, ty9, ty2, ty5, evalCode, stepM, marked, stepE, stepOp, E.calm, Fr.putO, Fr.lend, Fr.op, constV, V.toE, okV, okE, E.v?, V.strip, binV, E.bool?, flats_bytes, unV, callStep, vsOf, retE, V.flat, flats, convV, strBin]
  exact h'
theorem op44 (c : Ctx O bs ss z w1 w2 w3 n i x) (h : ∀ T, Has T [(79, .val (.bool false)), (88, .val (.bool false))] → Goal O bs ss n i x L k 45 T) : ∀ T, Has T [(79, .val (.bool false)), (83, .val (.str (w3))), (87, .val (.str (w3)))] → Goal O bs ss n i x L k 44 T := by
  intro T hT
  have h83 : lk T 83 = some (.val (.str (w3))) := hT (83, _) (by simp)
  have h87 : lk T 87 = some (.val (.str (w3))) := hT (87, _) (by simp)
  have h79 : lk T 79 = some (.val (.bool false)) := hT (79, _) (by simp)
  have h' := h (pT T 88 (.val (.bool false))) (has_put hT (by simp [E.inval]))
  unfold Goal at h' ⊢
  rw [show ops10.toList.drop 44 = opI 44 :: ops10.toList.drop (44 + 1) by kernel_rfl]
  generalize ops10.toList.drop (44 + 1) = R at h' ⊢
  rw [evalG]
  simp only [opI, ops10, opsAt, codeAt, codeOf, Try.f5, Option.getD_some, if_true, Bool.false_eq_true, if_false, List.getD_cons_zero, List.getD_cons_succ]
  simp [wantedG, stepQ, isQM, isQ, quietOp, E.still, bytes_of, u24, gext, own10, FE_put, FE_get, FE_get0, FE_get1, FE_get2, FE_get3, FE_get4, FE_get15, c.o.d2, c.o.d13, c.o.d24, c.o.d35, c.o.b7, c.o.b18, c.o.b29, c.o.b40, h83, h87, h79, hm5, ty24, ty3, ty9, ty2, ty5, evalCode, stepM, marked, stepE, stepOp, E.calm, Fr.putO, Fr.lend, Fr.op, constV, V.toE, okV, okE, E.v?, V.strip, binV, E.bool?, flats_bytes, unV, callStep, vsOf, retE, V.flat, flats, convV, strBin]
  exact h'
theorem op45 (c : Ctx O bs ss z w1 w2 w3 n i x) (h : ∀ T, Has T [(89, .val (.bool false))] → Goal O bs ss n i x L k 46 T) : ∀ T, Has T [(79, .val (.bool false)), (88, .val (.bool false))] → Goal O bs ss n i x L k 45 T := by
  intro T hT
  have h79 : lk T 79 = some (.val (.bool false)) := hT (79, _) (by simp)
  have h88 : lk T 88 = some (.val (.bool false)) := hT (88, _) (by simp)
  have h' := h (pT T 89 (.val (.bool false))) (has_put hT (by simp [E.inval]))
  unfold Goal at h' ⊢
  rw [show ops10.toList.drop 45 = opI 45 :: ops10.toList.drop (45 + 1) by kernel_rfl]
  generalize ops10.toList.drop (45 + 1) = R at h' ⊢
  rw [evalG]
  simp only [opI, ops10, opsAt, codeAt, codeOf, Try.f5, Option.getD_some, if_true, Bool.false_eq_true, if_false, List.getD_cons_zero, List.getD_cons_succ]
  simp [wantedG, stepQ, isQM, isQ, quietOp, E.still, bytes_of, u24, gext, own10, FE_put, FE_get, FE_get0, FE_get1, FE_get2, FE_get3, FE_get4, FE_get15, c.o.d2, c.o.d13, c.o.d24, c.o.d35, c.o.b7, c.o.b18, c.o.b29, c.o.b40, h79, h88, hm5, ty24, ty3, ty9, ty2, ty5, evalCode, stepM, marked, stepE, stepOp, E.calm, Fr.putO, Fr.lend, Fr.op, constV, V.toE, okV, okE, E.v?, V.strip, binV, E.bool?, flats_bytes, unV, callStep, vsOf, retE, V.flat, flats, convV, strBin]
  exact h'
theorem keyE (c : Ctx O bs ss z w1 w2 w3 n i x) : Goal O bs ss n i x L k 0 [] := by
  refine (op0 c (op1 c (op2 c (op3 c (op4 c (op5 c (op6 c (op7 c (op8 c (op9 c (op10 c (op11 c (op12 c (op13 c (op14 c (op15 c (op16 c (op17 c (op18 c (op19 c (op20 c (op21 c (op22 c (op23 c (op24 c (op25 c (op26 c (op27 c (op28 c (op29 c (op30 c (op31 c (op32 c (op33 c (op34 c (op35 c (op36 c (op37 c (op38 c (op39 c (op40 c (op41 c (op42 c (op43 c (op44 c (op45 c (fun T hT => ⟨T, by rw [show ops10.toList.drop 46 = [] by kernel_rfl]; rfl, hT (89, _) (by simp)⟩))))))))))))))))))))))))))))))))))))))))))))))) [] (fun p hp => by cases hp)
theorem ctx (bs ss : List UInt8) (hl : bs.length ≤ 30) (hs : ss.length ≤ 300) (n i : Int) (x : Nat) : ∃ z w1 w2 w3, Ctx ops10 bs ss z w1 w2 w3 n i x := by
  obtain ⟨z, z1, z2⟩ := nats n bs (by omega)
  exact ⟨z, _, _, _, ops10_ok, known29, z1 _, z2 _, int22 48 bs i (by omega) _, int33 48 bs i (by omega) _, float34 48 bs x (by omega) _, float35 48 bs x (by omega) _, text21 48 bs ss (by omega) (by omega) _, text36 48 bs ss (by omega) (by omega) _⟩
theorem stageE (bs ss : List UInt8) (hl : bs.length ≤ 30) (hs : ss.length ≤ 300) (n i : Int) (x : Nat) (L : List Int) (k : Nat) (T : List (Nat × E)) :
    ∃ T', ev [true, true, true, true, true, true, true, true, false] (FE bs ss n i x L T) (fst L k) = some (.normal, FE bs ss n i x L T', fst L k) := by
  obtain ⟨z, w1, w2, w3, c⟩ := ctx bs ss hl hs n i x
  obtain ⟨T', h1, h2⟩ := keyE (L := L) (k := k) c
  refine ⟨T', ?_⟩
  have hd := evalG_ok (ops := ops10) (strong_all all10) _ 0 _ _ h1
  rw [List.drop_zero] at hd
  have hr : ev [true, true, true, true, true, true, true, true, false, false] (FE bs ss n i x L T) (fst L k) = some (.normal, FE bs ss n i x L T', fst L k) := by
    show evalCode gS fi5 (evalFn gS 61) 61 (codeAt (codeOf Try.f5) [true, true, true, true, true, true, true, true, false, false]) _ _ = _
    rw [reg10]
    simp only [evalCode, lex10, if_true]
    rw [show (FE bs ss n i x L T).clear = FE bs ss n i x L [] from rfl, hd]
  show evalCode gS fi5 (evalFn gS 61) 61 (codeAt (codeOf Try.f5) [true, true, true, true, true, true, true, true, false]) _ _ = _
  rw [split10, seq_norm hr]
  have hg : (FE bs ss n i x L T').get 89 = .val (.bool false) := by rw [FE_get (by rfl), h2]; rfl
  simp only [codeAt, codeOf, Try.f5, Option.getD_some, if_true, Bool.false_eq_true, if_false]
  simp [evalCode, Fr.op, hg, E.bool?]
end
end Go.Proofs.Ytiiahehclbmodaa
