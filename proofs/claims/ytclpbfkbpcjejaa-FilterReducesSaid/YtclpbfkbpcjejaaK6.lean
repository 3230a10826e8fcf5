/- Of any filters the row is as the document says. Part 6. -/
import Derived.Test.YtclpbfkbpcjejaaK5
namespace Go.Ab
open Go
set_option linter.unusedVariables false
set_option linter.unusedSimpArgs false
set_option linter.unnecessarySimpa false
/-- A right one of the row. -/
def VR (v : Val) : Prop := vright v = true ∧ ∃ r, FV v r
def allVR : List Val := (FVR.drop 1).map (·.1)
theorem all_right : allVR.all vright = true := by kernel_rfl
theorem vr_mem {v : Val} (h : v ∈ allVR) : VR v := by
  refine ⟨List.all_eq_true.1 all_right v h, ?_⟩
  unfold allVR at h
  obtain ⟨x, hx, rfl⟩ := List.mem_map.1 h
  exact ⟨x.2, List.mem_of_mem_drop hx⟩
def floatsR : List Val := F14.map fun x => ⟨2, 0, x, [], false⟩
def textsR : List Val := T6.map fun s => ⟨3, 0, 0, s, false⟩
def intsR : List Val := N6.map fun n => ⟨1, n, 0, [], false⟩
theorem floats_in : (floatsR.all fun v => allVR.contains v) = true := by kernel_rfl
theorem texts_in : (textsR.all fun v => allVR.contains v) = true := by kernel_rfl
theorem ints_in : (intsR.all fun v => allVR.contains v) = true := by kernel_rfl
theorem smalls_in : ((List.range 5).all fun n => allVR.contains (⟨1, (n : Int), 0, [], false⟩ : Val)) = true := by kernel_rfl
theorem bools_in : ([true, false].all fun b => allVR.contains (⟨4, 0, 0, [], b⟩ : Val)) = true := by kernel_rfl
theorem of_contains {l : List Val} {f : Val} (h : (l.all fun v => allVR.contains v) = true) (hf : f ∈ l) : VR f := by
  have := List.all_eq_true.1 h f hf
  exact vr_mem (by simpa using this)
theorem vr_float (l : List Int) (a j : Nat) : VR ⟨2, 0, floatV l a j, [], false⟩ := by
  have hb := fd_bound l a j (n := 14) (by omega)
  refine of_contains floats_in ?_
  unfold floatsR floatV
  refine List.mem_map.2 ⟨_, ?_, rfl⟩
  have hlt : (fd l a j 14).toNat < F14.length := by show _ < 14; omega
  rw [List.getD_eq_getElem?_getD, List.getElem?_eq_getElem hlt]
  exact List.getElem_mem hlt
theorem vr_text {n : Nat} (h : n < 6) : VR ⟨3, 0, 0, T6.getD n [], false⟩ := by
  refine of_contains texts_in ?_
  unfold textsR
  refine List.mem_map.2 ⟨_, ?_, rfl⟩
  have hlt : n < T6.length := h
  rw [List.getD_eq_getElem?_getD, List.getElem?_eq_getElem hlt]
  exact List.getElem_mem hlt
theorem vr_int {n : Nat} (h : n < 6) : VR ⟨1, N6.getD n 0, 0, [], false⟩ := by
  refine of_contains ints_in ?_
  unfold intsR
  refine List.mem_map.2 ⟨_, ?_, rfl⟩
  have hlt : n < N6.length := h
  rw [List.getD_eq_getElem?_getD, List.getElem?_eq_getElem hlt]
  exact List.getElem_mem hlt
theorem vr_small {n : Int} (h0 : 0 ≤ n) (h : n < 5) : VR ⟨1, n, 0, [], false⟩ := by
  have := List.all_eq_true.1 smalls_in n.toNat (List.mem_range.2 (by omega))
  rw [show ((n.toNat : Nat) : Int) = n by omega] at this
  exact vr_mem (by simpa using this)
theorem vr_bool (b : Bool) : VR ⟨4, 0, 0, [], b⟩ := by
  have := List.all_eq_true.1 bools_in b (by cases b <;> simp)
  exact vr_mem (by simpa using this)
theorem vr_value (l : List Int) (a j : Nat) : VR (valueV l a j) := by
  unfold valueV
  have h8 := fd_bound l a j (n := 8) (by omega)
  have h6 := fd_bound l a (j + 1) (n := 6) (by omega)
  have h5 := fd_bound l a (j + 1) (n := 5) (by omega)
  simp only
  repeat' split
  · exact vr_float _ _ _
  · exact vr_text (by omega)
  · exact vr_bool _
  · exact vr_int (by omega)
  · exact vr_small (by omega) (by omega)
theorem vr_vals (l : List Int) (a : Nat) : ∀ (k j : Nat), ∀ x ∈ valsV l a j k, VR x
  | 0, j, x, h => by simp [valsV] at h
  | k + 1, j, x, h => by
    rcases List.mem_cons.1 h with rfl | h
    · exact vr_value _ _ _
    · exact vr_vals l a k _ x h
theorem vals_length (l : List Int) (a : Nat) : ∀ (k j : Nat), (valsV l a j k).length = k
  | 0, j => rfl
  | k + 1, j => by simp [valsV, vals_length l a k]
theorem P4_in : (P4.all fun s => T6.contains s) = true := by kernel_rfl
theorem vr_P4 {n : Nat} (h : n < 4) : VR ⟨3, 0, 0, P4.getD n [], false⟩ := by
  have hlt : n < P4.length := h
  have h1 : P4.getD n [] ∈ P4 := by rw [List.getD_eq_getElem?_getD, List.getElem?_eq_getElem hlt]; exact List.getElem_mem hlt
  have h2 := List.all_eq_true.1 P4_in _ h1
  refine of_contains texts_in ?_
  unfold textsR
  exact List.mem_map.2 ⟨_, by simpa using h2, rfl⟩
theorem fv_zero : ∃ r, FV vzero r := ⟨none, by unfold FV FVR; simp⟩
/-- What a feed yields as a test. -/
theorem pred_fv (l : List Int) (a j : Nat) (nm : List UInt8) : PFV (predV l a j nm).1 := by
  unfold predV
  have h4 := fd_bound l a (j + 1) (n := 4) (by omega)
  simp only
  repeat' split
  · exact ⟨fv_zero, fv_zero, by simp⟩
  · exact ⟨(vr_P4 (by omega)).2, fv_zero, by simp⟩
  · exact ⟨fv_zero, fv_zero, fun x hx => (vr_vals _ _ _ _ x hx).2⟩
  · exact ⟨(vr_value _ _ _).2, (vr_value _ _ _).2, by simp⟩
  · exact ⟨(vr_value _ _ _).2, fv_zero, by simp⟩
theorem same_zero : vsame vzero vzero = true := by kernel_rfl
theorem pred_right (l : List Int) (a j : Nat) {nm : List UInt8} (hn : isWord nm = true) : pright (predV l a j nm).1 = true := by
  have h10 := fd_bound l a j (n := 10) (by omega)
  have h4 := fd_bound l a (j + 1) (n := 4) (by omega)
  unfold predV
  simp only
  split
  · simp [pright, hn, same_zero]
  · split
    · rename_i h
      have hv := (vr_P4 (n := (fd l a (j + 1) 4).toNat) (by omega)).1
      generalize P4.getD (fd l a (j + 1) 4).toNat [] = s at hv
      simp [pright, hn, same_zero, hv]
    · split
      · have hv := fun x hx => (vr_vals l a ((fd l a (j + 1) 4).toNat + 1) (j + 2) x hx).1
        have hl := vals_length l a ((fd l a (j + 1) 4).toNat + 1) (j + 2)
        generalize valsV l a (j + 2) ((fd l a (j + 1) 4).toNat + 1) = vs at hv hl
        have hc : vs.all vright = true := List.all_eq_true.2 hv
        have h5 : 1 ≤ vs.length ∧ vs.length ≤ 4 := by omega
        unfold pright
        rw [if_pos hn]
        simp [same_zero, hc, h5, hv]
      · split
        · simp [pright, hn, same_zero, (vr_value l a (j + 1)).1, (vr_value l a (j + 3)).1]
        · have e1 : 2 ≤ 1 + fd l a j 10 ∧ 1 + fd l a j 10 ≤ 7 := by omega
          have e2 : ¬ 1 + fd l a j 10 = 1 := by omega
          simp only [pright, hn, if_true, e2, if_false, e1, and_self, same_zero, (vr_value l a (j + 1)).1, List.length_nil, decide_true, Bool.and_self]
theorem pred_asks (l : List Int) (a j : Nat) (nm : List UInt8) : (predV l a j nm).2 ≤ 10 := by
  have h4 := fd_bound l a (j + 1) (n := 4) (by omega)
  unfold predV
  simp only
  repeat' split
  all_goals (simp only; omega)
theorem ok_of_right {p : Pred} (h : pright p = true) : p.ok := by
  unfold pright at h
  split at h
  · rename_i hw
    unfold isWord at hw
    simp only [Bool.and_eq_true, decide_eq_true_eq] at hw
    refine ⟨by omega, ?_⟩
    repeat' split at h
    all_goals first
      | (simp only [Bool.and_eq_true, decide_eq_true_eq] at h; omega)
      | cases h
  · cases h
end Go.Ab
namespace Go.Proofs.Ytclpbfkbpcjejaa
open Go Go.Ab
set_option linter.unusedVariables false
set_option linter.unusedSimpArgs false
set_option linter.unnecessarySimpa false
set_option maxRecDepth 20000
noncomputable section
variable (fr : Fr) (st : St) (k : Kt)
theorem k17 (l : List Int) (a j id : Nat)  (fr : Fr) (st : St) (h : FeedOk st id) (ha : a < 549755813888) (hj : j < 549755812000) :
    callStep gS (EvF gS) 17 [.ptr id 0] fr (setF st id l (nA l a j)) = some (.ok (.val ((valueV l a j).enc)) (fr.map E.noMem) (setF st id l (nA l a (j + 2)))) := by
  unfold callStep
  simp only [show gS.ext 17 = none from rfl, fi17_eq, show fi17.pure = false from rfl, Bool.false_eq_true, if_false, c17 l a j id  st h ha (by omega), retE]
  all_goals rfl
def fi29 : FI := { body := codeOf Try.f29, ntmps := 52, results := [.cell 4 27], pers := [0, 1, 4, 5, 6, 13], locals := [4, 5], pure := false, marks := [39, 2000011, 1000000] }
theorem fi29_eq : gS.fn 29 = some fi29 := by kernel_rfl
theorem st29 (a0 a1 : V) : startFr fi29 [a0, a1] = { ps := [(0, .val a0), (1, .val a1), (4, .any), (5, .any), (6, .any), (13, .any)], ts := [], lc := [] } := rfl
def b29 : Code := mini (codeOf Try.f29)
def c29_11 : Code := .seq (codeN b29 299) .ret
def c29_19 : Code := .seq (codeN b29 2795) .ret
def c29_17 : Code := .seq (codeN b29 1259) c29_19
def c29_33 : Code := .cond (.tmp 31) .skip (.exit 1)
def c29_31 : Code := .seq (codeN b29 136171) c29_33
def r29_38 : Array Oper := regOps (codeN (codeOf Try.f29) 300011)
def c29_38 : Code := .region 12 r29_38 true
def q29_38 : List (Oper × Fl) := [(op1 34 (.fieldAddr 27 (.tmp 5) 4) 0, ⟨true, false, false, false, false, false, true, false, false, true, []⟩),
 (ld 35 25 34 25, ⟨true, false, false, false, false, false, true, false, false, true, []⟩),
 (mv 36 0 29, ⟨true, false, true, false, true, false, true, true, false, false, []⟩),
 (cal 37 17 [(.tmp 36)] [29] 24, ⟨false, true, true, false, true, true, true, true, false, false, []⟩),
 (op1 38 (.buildSlice 25 1 #[(0, (.tmp 37))]) 25, ⟨true, false, true, false, true, false, true, true, false, false, []⟩),
 (op1 39 (.call { callee := (.builtin .append), args := #[(.tmp 35), (.tmp 38)], argTypes := #[25, 25] }) 25, ⟨false, true, true, false, true, true, true, true, false, false, []⟩),
 (op1 40 (.fieldAddr 27 (.tmp 5) 4) 0, ⟨true, true, true, false, true, false, true, true, false, false, []⟩),
 (sto 25 40 39, ⟨false, true, true, false, true, true, true, true, false, false, []⟩)]
def c29_39 : Code := codeN b29 234475
def c29_36 : Code := .seq (.block 2 c29_38) c29_39
def c29_30 : Code := .seq c29_31 c29_36
def c29_29 : Code := .loop c29_30
def c29_28 : Code := .block 1 c29_29
def c29_26 : Code := .seq (codeN b29 9195) c29_28
def c29_40 : Code := .seq (codeN b29 11243) .ret
theorem e29_40 : evK gS fi29 c29_40 fr st k = opsR gS fi29 [ld 41 27 5 27,
 sto 27 4 41] fr st (.seq .ret k) := evK_rs 13 rfl (by kernel_rfl)
def c29_25 : Code := .seq c29_26 c29_40
def c29_24 : Code := .cond (.tmp 26) c29_25 .skip
def c29_22 : Code := .seq (codeN b29 1515) c29_24
def c29_16 : Code := .cond (.tmp 17) c29_17 c29_22
def c29_14 : Code := .seq (codeN b29 363) c29_16
def c29_10 : Code := .cond (.tmp 14) c29_11 c29_14
def c29_8 : Code := .seq (codeN b29 75) c29_10
def c29_7 : Code := .block 0 c29_8
def c29_5 : Code := .seq (codeN b29 19) c29_7
def c29_50 : Code := codeN b29 175
def c29_49 : Code := .cond (.tmp 47) c29_50 .skip
def c29_47 : Code := .seq (codeN b29 79) c29_49
def c29_52 : Code := .seq (codeN b29 95) .ret
def c29_46 : Code := .seq c29_47 c29_52
def c29_44 : Code := .seq (codeN b29 23) c29_46
def c29_4 : Code := .seq c29_5 c29_44
def c29_2 : Code := .seq (codeN b29 5) c29_4
def c29_0 : Code := .seq (codeN b29 2) c29_2
theorem E29 : (evK gS fi29 c29_11 fr st k = opsR gS fi29 [ld 16 27 5 27,
 sto 27 4 16] fr st (.seq .ret k)) ∧
 (evK gS fi29 c29_19 fr st k = opsR gS fi29 [ld 25 27 5 27,
 sto 27 4 25] fr st (.seq .ret k)) ∧
 (evK gS fi29 c29_17 fr st k = opsR gS fi29 [op1 19 (.build 107 #[(0, (.const (.string { data := #[] }))), (1, (.const (.string { data := #[97] }))), (2, (.const (.string { data := #[98] }))), (3, (.const (.string { data := #[97, 98] })))]) 107,
 mv 20 0 29,
 cal 21 16 [(.tmp 20), (.const (.int .i64 4))] [29, 3] 3,
 op1 22 (.index 107 (.tmp 19) (.tmp 21)) 9,
 op1 23 (.build 24 #[(0, (.const (.int .i64 3))), (3, (.tmp 22))]) 24,
 op1 24 (.fieldAddr 27 (.tmp 5) 2) 0,
 sto 24 24 23] fr st (.seq c29_19 k)) ∧
 evK gS fi29 c29_33 fr st k = condK gS fi29 (fr.op (.tmp 31)).bool? .skip (.exit 1) fr st k ∧
 (evK gS fi29 c29_31 fr st k = opsR gS fi29 [mv 30 6 3,
 op1 31 (.binOp .geq 3 (.tmp 30) (.const (.int .i64 0)) 3) 4] fr st (.seq c29_33 k)) ∧
 evK gS fi29 c29_38 fr st k = drwR gS fi29 r29_38 q29_38 fr st k ∧
 (evK gS fi29 c29_39 fr st k = opsR gS fi29 [mv 32 6 3,
 op1 33 (.binOp .sub 3 (.tmp 32) (.const (.int .i64 1)) 3) 3,
 asn 6 33 3] fr st k) ∧
 evK gS fi29 c29_36 fr st k = evK gS fi29 c29_38 fr st (.blk 2 (.seq c29_39 k)) ∧
 evK gS fi29 c29_30 fr st k = evK gS fi29 c29_31 fr st (.seq c29_36 k) ∧
 evK gS fi29 c29_28 fr st k = evK gS fi29 c29_29 fr st (.blk 1 k) ∧
 (evK gS fi29 c29_26 fr st k = opsR gS fi29 [mv 28 0 29,
 cal 29 16 [(.tmp 28), (.const (.int .i64 4))] [29, 3] 3,
 asn 6 29 3] fr st (.seq c29_28 k)) ∧
 evK gS fi29 c29_25 fr st k = evK gS fi29 c29_26 fr st (.seq c29_40 k) ∧
 evK gS fi29 c29_24 fr st k = condK gS fi29 (fr.op (.tmp 26)).bool? c29_25 .skip fr st k ∧
 (evK gS fi29 c29_22 fr st k = opsR gS fi29 [op1 27 (.binOp .eql 3 (.tmp 13) (.const (.int .i64 10)) 3) 4,
 asn 26 27 4] fr st (.seq c29_24 k)) ∧
 evK gS fi29 c29_16 fr st k = condK gS fi29 (fr.op (.tmp 17)).bool? c29_17 c29_22 fr st k ∧
 (evK gS fi29 c29_14 fr st k = opsR gS fi29 [op1 18 (.binOp .eql 3 (.tmp 13) (.const (.int .i64 9)) 3) 4,
 asn 17 18 4] fr st (.seq c29_16 k)) ∧
 evK gS fi29 c29_10 fr st k = condK gS fi29 (fr.op (.tmp 14)).bool? c29_11 c29_14 fr st k ∧
 (evK gS fi29 c29_8 fr st k = opsR gS fi29 [op1 15 (.binOp .eql 3 (.tmp 13) (.const (.int .i64 1)) 3) 4,
 asn 14 15 4] fr st (.seq c29_10 k)) ∧
 evK gS fi29 c29_7 fr st k = evK gS fi29 c29_8 fr st (.blk 0 k) ∧
 (evK gS fi29 c29_5 fr st k = opsR gS fi29 [op1 12 (.fieldAddr 27 (.tmp 5) 1) 0,
 ld 13 3 12 3] fr st (.seq c29_7 k)) ∧
 (evK gS fi29 c29_50 fr st k = opsR gS fi29 [mv 48 0 29,
 cal 49 17 [(.tmp 48)] [29] 24,
 op1 50 (.fieldAddr 27 (.tmp 5) 3) 0,
 sto 24 50 49] fr st k) ∧
 evK gS fi29 c29_49 fr st k = condK gS fi29 (fr.op (.tmp 47)).bool? c29_50 .skip fr st k ∧
 (evK gS fi29 c29_47 fr st k = opsR gS fi29 [op1 45 (.fieldAddr 27 (.tmp 5) 1) 0,
 ld 46 3 45 3,
 op1 47 (.binOp .eql 3 (.tmp 46) (.const (.int .i64 8)) 3) 4] fr st (.seq c29_49 k)) ∧
 (evK gS fi29 c29_52 fr st k = opsR gS fi29 [ld 51 27 5 27,
 sto 27 4 51] fr st (.seq .ret k)) ∧
 evK gS fi29 c29_46 fr st k = evK gS fi29 c29_47 fr st (.seq c29_52 k) ∧
 (evK gS fi29 c29_44 fr st k = opsR gS fi29 [mv 42 0 29,
 cal 43 17 [(.tmp 42)] [29] 24,
 op1 44 (.fieldAddr 27 (.tmp 5) 2) 0,
 sto 24 44 43] fr st (.seq c29_46 k)) ∧
 evK gS fi29 c29_4 fr st k = evK gS fi29 c29_5 fr st (.seq c29_44 k) ∧
 (evK gS fi29 c29_2 fr st k = opsR gS fi29 [mv 7 1 9,
 mv 8 0 29,
 cal 9 16 [(.tmp 8), (.const (.int .i64 10))] [29, 3] 3,
 op1 10 (.binOp .add 3 (.const (.int .i64 1)) (.tmp 9) 3) 3,
 op1 11 (.build 27 #[(0, (.tmp 7)), (1, (.tmp 10))]) 27,
 op1 5 (.alloc 27) 0,
 sto 27 5 11] fr st (.seq c29_4 k)) ∧
 evK gS fi29 c29_0 fr st k = opsR gS fi29 [op1 4 (.alloc 27) 0] fr st (.seq c29_2 k) := ⟨evK_rs 4 rfl (by kernel_rfl), evK_rs 7 rfl (by kernel_rfl), evK_rs 6 rfl (by kernel_rfl), rfl, evK_rs 10 rfl (by kernel_rfl), evK_dr 12 rfl (by kernel_rfl) (by kernel_rfl), evK_r 11 (by kernel_rfl), rfl, rfl, rfl, evK_rs 9 rfl (by kernel_rfl), rfl, rfl, evK_rs 8 rfl (by kernel_rfl), rfl, evK_rs 5 rfl (by kernel_rfl), rfl, evK_rs 3 rfl (by kernel_rfl), rfl, evK_rs 2 rfl (by kernel_rfl), evK_r 16 (by kernel_rfl), rfl, evK_rs 15 rfl (by kernel_rfl), evK_rs 17 rfl (by kernel_rfl), rfl, evK_rs 14 rfl (by kernel_rfl), rfl, evK_rs 1 rfl (by kernel_rfl), evK_rs 0 rfl (by kernel_rfl)⟩
theorem m29 : mini fi29.body = c29_0 := by kernel_rfl
theorem n29_29 (fr : Fr) (st : St) (k : Kt) : nextK gS fi29 (.loop c29_30 k) .normal fr st = evK gS fi29 c29_29 fr st k := rfl
set_option maxHeartbeats 4000000 in
theorem T29_40 (nm : List UInt8) (l : List Int) (a id m : Nat) (vs : List Val) (hv : vs ≠ []) (st : St) (h : FeedOk st id) (e0 e1 e6 e13 : E) (h0 : e0.Tame) (h1 : e1.Tame) (h6 : e6.Tame) (h13 : e13.Tame) (T : List (Nat × E)) (X : List (Nat × List V)) (hx4 : lk X 4 = some [.str [], .int .i64 0, .int .i64 0, .int .i64 0, .float .f64 0, .str [], .bool false, .int .i64 0, .int .i64 0, .float .f64 0, .str [], .bool false, .osl 0 []]) (hx5 : lk X 5 = some [.str nm, .int .i64 10, .int .i64 0, .int .i64 0, .float .f64 0, .str [], .bool false, .int .i64 0, .int .i64 0, .float .f64 0, .str [], .bool false, .sref false 5 (st.objs.length + m) 0 vs.length]) :
    evK gS fi29 c29_40 { ps := [(0, e0), (1, e1), (4, .lp 4 0), (5, .lp 5 0), (6, e6), (13, e13)], ts := T, lc := X } (setF (nw st m (vs.flatMap Val.cells)) id l a) (.blk 0 (.seq c29_44 .nil)) = some (.ret ((⟨nm, 10, vzero, vzero, vs⟩ : Pred).enc) none, setF (dd st (m + 1)) id l a) := by
  have hm : fi29.marks = [39, 2000011, 1000000] := rfl
  have hl : fi29.locals = [4, 5] := rfl
  have hr : fi29.results = [.cell 4 27] := rfl
  have hz := fun a0 a1 a2 a3 a4 a5 a6 a7 a8 a9 a10 a11 hf => frz_predcells (a0 := a0) (a1 := a1) (a2 := a2) (a3 := a3) (a4 := a4) (a5 := a5) (a6 := a6) (a7 := a7) (a8 := a8) (a9 := a9) (a10 := a10) (a11 := a11) hf (frz_vals h 4 m vs hv l a)
  simp [lk_lset_self _ _ _ _ hx4, hx4, hx5, h0, h1, h6, h13, hz, vzero, -Int.not_le, -Int.not_lt, -Nat.not_le, -Nat.not_lt, ty3, ty4, ty9, ty24, ty25, ty27, ty29, ty107, eq24, hm, hl, hr, fi16_eq, fi17_eq, E29, q29_38, e29_40, n29_29]
set_option maxHeartbeats 8000000 in
theorem L29 (nm : List UInt8) (l : List Int) (a id : Nat) (ha : a < 549755813888) (st : St) (h : FeedOk st id) (e1 e13 : E) (h1 : e1.Tame) (h13 : e13.Tame) : ∀ (r j m : Nat) (vs : List Val) (T : List (Nat × E)) (X : List (Nat × List V)), j + 2 * r < 549755812000 → vs.length = m + 1 → vs.length + r < 1000 → lk X 4 = some [.str [], .int .i64 0, .int .i64 0, .int .i64 0, .float .f64 0, .str [], .bool false, .int .i64 0, .int .i64 0, .float .f64 0, .str [], .bool false, .osl 0 []] → lk X 5 = some [.str nm, .int .i64 10, .int .i64 0, .int .i64 0, .float .f64 0, .str [], .bool false, .int .i64 0, .int .i64 0, .float .f64 0, .str [], .bool false, .sref false 5 (st.objs.length + m) 0 (m + 1)] →
    evK gS fi29 c29_29 { ps := [(0, .val (.ptr id 0)), (1, e1), (4, .lp 4 0), (5, .lp 5 0), (6, .val (.int .i64 ((r : Int) - 1))), (13, e13)], ts := T, lc := X } (setF (nw st m (vs.flatMap Val.cells)) id l (nA l a j)) (.blk 1 (.seq c29_40 (.blk 0 (.seq c29_44 .nil)))) = some (.ret ((⟨nm, 10, vzero, vzero, vs ++ valsV l a j r⟩ : Pred).enc) none, setF (dd st (m + 1 + r)) id l (nA l a (j + 2 * r))) := by
  intro r
  have hm : fi29.marks = [39, 2000011, 1000000] := rfl
  have hl : fi29.locals = [4, 5] := rfl
  have hr : fi29.results = [.cell 4 27] := rfl
  induction r with
  | zero =>
    intro j m vs T X hj hlen hlt hx4 hx5
    refine evK_loop c29_30 _ _ _ _ rfl ?_
    have ht := fun T => T29_40 nm l (nA l a j) id m vs (by intro e; rw [e] at hlen; simp at hlen) st h (.val (.ptr id 0)) e1 (.val (.int .i64 (-1))) e13 rfl h1 rfl h13 T X hx4 (by rw [hx5, hlen])
    simp [h1, h13, ht, valsV, -Int.not_le, -Int.not_lt, -Nat.not_le, -Nat.not_lt, ty3, ty4, ty9, ty24, ty25, ty27, ty29, ty107, eq24, hm, hl, hr, fi16_eq, fi17_eq, E29, q29_38, n29_29]
  | succ r ih =>
    intro j m vs T X hj hlen hlt hx4 hx5
    refine evK_loop c29_30 _ _ _ _ rfl ?_
    have hv := fun fr => k17 l a j id fr (nw st m (vs.flatMap Val.cells)) (h.nw m _) ha (by omega)
    have e1' : ((r + 1 : Nat) : Int) - 1 = (r : Int) := by omega
    have e2 : (0 : Int) ≤ (r : Int) := by omega
    have e3 : IntKind.wrap .i64 ((r : Int) - 1) = (r : Int) - 1 := wrap64 (by omega) (by omega)
    have e4 := vals_cells_len vs
    have e5 := vals_cells_strip vs
    have e6 := vals_cells_one vs
    have e7 : ∀ v : Val, vs.flatMap Val.cells ++ [.int .i64 v.kind, .int .i64 v.n, .float .f64 v.x, .str v.s, .bool v.b] = (vs ++ [v]).flatMap Val.cells := by intro v; simp [Val.cells]
    have IH := fun T X h4 h5 => ih (j + 2) (m + 1) (vs ++ [valueV l a j]) T X (by omega) (by simp [hlen]) (by simp; omega) h4 h5
    have r1 := obj_gr h m (vs.flatMap Val.cells) l (nA l a (j + 2))
    have r2 := set_gr h m (vs.flatMap Val.cells) l (nA l a (j + 2))
    have r3 := fun fr k len cs => newRef_dd h fr (m + 1) k len cs l (nA l a (j + 2))
    have e8 : (m + 1 + 1) * 48 ≤ 140737488355328 := by omega
    have e9 : (m + 1 + 1) ≤ 140737488355328 := by omega
    rw [hlen] at e4
    rw [e1']
    rw [show valsV l a j (r + 1) = valueV l a j :: valsV l a (j + 2) r from rfl, show m + 1 + (r + 1) = m + 1 + 1 + r by omega, show j + 2 * (r + 1) = j + 2 + 2 * r by omega, List.append_cons vs]
    simp [-List.append_assoc, -List.flatMap_append, -St.obj, -St.set, h1, h13, hx4, hx5, hv, e2, e3, e4, e5, e6, e7, e8, e9, r1, r2, r3, markStep, markAppend, elemsAt, lk_lset_self _ _ _ _ hx5, -Int.not_le, -Int.not_lt, -Nat.not_le, -Nat.not_lt, ty3, ty4, ty9, ty24, ty25, ty27, ty29, ty107, eq24, hm, hl, hr, fi16_eq, fi17_eq, E29, q29_38, n29_29]
    exact IH _ _ (by simp [hx4]) (lk_lset_self _ _ _ _ hx5)
set_option maxHeartbeats 8000000 in
theorem c29 (l : List Int) (a j id : Nat) (nm : List UInt8) (st : St) (h : FeedOk st id) (ha : a < 549755813888) (hj : j < 549755811000) :
    EvF gS 29 [.ptr id 0, .str nm] (setF st id l (nA l a j)) = some (.ret (predV l a j nm).1.enc none, setF (dd st (predV l a j nm).1.set.length) id l (nA l a (j + (predV l a j nm).2))) := by
  refine EvF_start fi29_eq (fun x h => by cases h) m29 ?_
  rw [st29]
  have hm : fi29.marks = [39, 2000011, 1000000] := rfl
  have hl : fi29.locals = [4, 5] := rfl
  have hr : fi29.results = [.cell 4 27] := rfl
  have hb := fd_bound l a j (n := 10) (by omega)
  have hb4 := fd_bound l a (j + 1) (n := 4) (by omega)
  unfold predV
  have hk := fun fr => k16 l a j id 10 fr st h ha (by omega) (by omega)
  have hk4 := fun fr => k16 l a (j + 1) id 4 fr st h ha (by omega) (by omega)
  have hv1 := fun fr => k17 l a (j + 1) id fr st h ha (by omega)
  have hv3 := fun fr => k17 l a (j + 3) id fr st h ha (by omega)
  generalize fd l a j 10 = z at *
  generalize fd l a (j + 1) 4 = y at *
  have hz : z = 0 ∨ z = 1 ∨ z = 2 ∨ z = 3 ∨ z = 4 ∨ z = 5 ∨ z = 6 ∨ z = 7 ∨ z = 8 ∨ z = 9 := by omega
  have hy : y = 0 ∨ y = 1 ∨ y = 2 ∨ y = 3 := by omega
  have d0 := dd_zero st
  have a2 : j + 1 + 1 = j + 2 := rfl
  have a5 : j + 3 + 2 = j + 5 := rfl
  have a3 : j + 1 + 2 = j + 3 := by omega
  have hz2 := fun st a0 a1 a2 a3 a4 a5 a6 a7 a8 a9 a10 a11 hf => frz_predcells (a0 := a0) (a1 := a1) (a2 := a2) (a3 := a3) (a4 := a4) (a5 := a5) (a6 := a6) (a7 := a7) (a8 := a8) (a9 := a9) (a10 := a10) (a11 := a11) hf (frz_nil 4 st)
  have en : encVals [] = [] := rfl
  rcases hz with rfl | rfl | rfl | rfl | rfl | rfl | rfl | rfl | rfl | rfl
  case inr.inr.inr.inr.inr.inr.inr.inr.inl => rcases hy with rfl | rfl | rfl | rfl <;> simp [P4, vzero, d0, en, a2, a3, a5, hz2, w64_1, w64_2, w64_3, w64_4, w64_5, w64_6, w64_7, w64_8, w64_9, w64_10, hk, hk4, hv1, hv3, -Int.not_le, -Int.not_lt, -Nat.not_le, -Nat.not_lt, ty3, ty4, ty9, ty24, ty25, ty27, ty29, ty107, eq24, hm, hl, hr, fi16_eq, fi17_eq, E29, q29_38, n29_29]
  case inr.inr.inr.inr.inr.inr.inr.inr.inr =>
    have hv2 := fun fr => k17 l a (j + 2) id fr st h ha (by omega)
    have e2 : (0 : Int) ≤ y := by omega
    have e3 : IntKind.wrap .i64 (y - 1) = y - 1 := wrap64 (by omega) (by omega)
    have r3 := fun fr k len cs => newRef_setF h fr k len cs l (nA l a (j + 2 + 2))
    simp [-St.obj, -St.set, a2, w64_1, w64_2, w64_3, w64_4, w64_5, w64_6, w64_7, w64_8, w64_9, w64_10, hk, hk4, hv1, hv3, -Int.not_le, -Int.not_lt, -Nat.not_le, -Nat.not_lt, ty3, ty4, ty9, ty24, ty25, ty27, ty29, ty107, eq24, hm, hl, hr, fi16_eq, fi17_eq, E29, q29_38, n29_29]
    refine evK_loop c29_30 _ _ _ _ rfl ?_
    simp [-St.obj, -St.set, e2, e3, hv2, r3, markStep, markAppend, elemsAt, -Int.not_le, -Int.not_lt, -Nat.not_le, -Nat.not_lt, ty3, ty4, ty9, ty24, ty25, ty27, ty29, ty107, eq24, hm, hl, hr, fi16_eq, fi17_eq, E29, q29_38, n29_29]
    have hf := fun T X => L29 nm l a id ha st h (.val (.str nm)) (.val (.int .i64 10)) rfl rfl y.toNat (j + 2 + 2) 0 [valueV l a (j + 2)] T X (by omega) rfl (by simp; omega)
    have ey : ((y.toNat : Nat) : Int) = y := by omega
    rw [ey] at hf
    refine Eq.trans (hf _ _ ?_ ?_) ?_
    · simp
    · simp
    · have hl := vals_length l a (y.toNat + 1) (j + 2)
      have hc : [valueV l a (j + 2)] ++ valsV l a (j + 2 + 2) y.toNat = valsV l a (j + 2) (y.toNat + 1) := rfl
      rw [hc, hl]
      rw [show 0 + 1 + y.toNat = y.toNat + 1 by omega, show j + 2 + 2 + 2 * y.toNat = j + (2 + 2 * (y.toNat + 1)) by omega]
      rfl
  all_goals simp [vzero, d0, en, a2, a3, a5, hz2, w64_1, w64_2, w64_3, w64_4, w64_5, w64_6, w64_7, w64_8, w64_9, w64_10, hk, hk4, hv1, hv3, -Int.not_le, -Int.not_lt, -Nat.not_le, -Nat.not_lt, ty3, ty4, ty9, ty24, ty25, ty27, ty29, ty107, eq24, hm, hl, hr, fi16_eq, fi17_eq, E29, q29_38, n29_29]
theorem k29 (l : List Int) (a j id : Nat) (nm : List UInt8) (fr : Fr) (st : St) (h : FeedOk st id) (ha : a < 549755813888) (hj : j < 549755811000) :
    callStep gS (EvF gS) 29 [.ptr id 0, .str nm] fr (setF st id l (nA l a j)) = some (.ok (.val ((predV l a j nm).1.enc)) (fr.map E.noMem) (setF (dd st ((predV l a j nm).1.set.length)) id l (nA l a (j + (predV l a j nm).2)))) := by
  unfold callStep
  simp only [show gS.ext 29 = none from rfl, fi29_eq, show fi29.pure = false from rfl, Bool.false_eq_true, if_false, c29 l a j id nm st h ha (by omega), retE]
  all_goals rfl
end
end Go.Proofs.Ytclpbfkbpcjejaa
namespace Go.Proofs.Ytclpbfkbpcjejaa
open Go Go.Ab
set_option linter.unusedVariables false
set_option linter.unusedSimpArgs false
set_option linter.unnecessarySimpa false
set_option maxRecDepth 20000
noncomputable section
variable (fr : Fr) (st : St) (k : Kt)
def b5 : Code := mini (codeOf Try.f5)
theorem new_feed (st : St) (l : List Int) : ({ objs := st.objs ++ [[V.slice (intVs l), V.int .i64 0]], wp := st.wp } : St) = setF (nw st 0 []) st.objs.length l (nA l 0 0) := by
  unfold setF nw nA
  simp
theorem feedOk_new {st : St} (h : st.wp ≤ st.objs.length) : FeedOk (nw st 0 []) st.objs.length := ⟨by rw [gr_len]; omega, h⟩
end
end Go.Proofs.Ytclpbfkbpcjejaa
namespace Go.Ab
open Go
set_option linter.unusedVariables false
set_option linter.unusedSimpArgs false
set_option linter.unnecessarySimpa false
def sgt (a b : List UInt8) : Bool := !(Op.bytesLess a b || decide (a = b))
def fcov1 (p : Pred) (g : List Pred) : Bool := g.any fun q => decide (q.name = p.name) && pimplies q p
def fcovers (f g : List Pred) : Bool := g.any pvoid || f.all fun p => fcov1 p g
def fsames : List Pred → List Pred → Bool
  | [], [] => true
  | a :: r, b :: s => psame a b && fsames r s
  | _, _ => false
def fsame (f g : List Pred) : Bool := decide (f.length = g.length) && fsames f g
def fstep (row : List (List Pred)) (f : List Pred) : List (List Pred) := if row.any (fun g => fcovers g f) then row else row.filter (fun g => !fcovers f g) ++ [f]
def freduce (l : List (List Pred)) : List (List Pred) := l.foldl fstep []
def encPredss (l : List (List Pred)) : List V := l.map fun f => V.slice (encPreds f)
theorem encPredss_length (l : List (List Pred)) : (encPredss l).length = l.length := by simp [encPredss]
theorem encPredss_get (l : List (List Pred)) (i : Nat) : (encPredss l)[i]? = (l[i]?).map fun f => V.slice (encPreds f) := by simp [encPredss]
theorem encPredss_gE (l : List (List Pred)) (i : Nat) (h : i < (encPredss l).length) : (encPredss l)[i]'h = .slice (encPreds (l[i]'(by rw [encPredss_length] at h; exact h))) := by simp [encPredss]
theorem flats_predss (l : List (List Pred)) : flats (encPredss l) = true := by
  induction l with
  | nil => rfl
  | cons x r ih => simp only [encPredss, List.map_cons, flats, V.flat, flats_preds] at ih ⊢; exact ih
attribute [simp] encPredss_length encPredss_get encPredss_gE flats_predss
/-- Of a size that may be handled. -/
def POk (f : List Pred) : Prop := f.length < 4611686018427387904 ∧ ∀ p ∈ f, p.ok
theorem POk.get {f : List Pred} (h : POk f) {i : Nat} {p : Pred} (hp : f[i]? = some p) : p.ok := h.2 p (List.mem_of_getElem? hp)
end Go.Ab
namespace Go.Proofs.Ytclpbfkbpcjejaa
open Go Go.Ab
set_option linter.unusedVariables false
set_option linter.unusedSimpArgs false
set_option linter.unnecessarySimpa false
set_option maxRecDepth 20000
noncomputable section
variable (fr : Fr) (st : St) (k : Kt)
def fi42 : FI := { body := codeOf Try.f42, ntmps := 27, results := [.tmp 4], pers := [0, 1, 4, 5], locals := [], pure := true, marks := [] }
theorem fi42_eq : gS.fn 42 = some fi42 := by kernel_rfl
theorem st42 (a0 a1 : V) : startFr fi42 [a0, a1] = { ps := [(0, .val a0), (1, .val a1), (4, .any), (5, .any)], ts := [], lc := [] } := rfl
def b42 : Code := mini (codeOf Try.f42)
def c42_6 : Code := .seq (codeN b42 37) .ret
def c42_5 : Code := .cond (.tmp 10) c42_6 .skip
def c42_3 : Code := .seq (codeN b42 9) c42_5
def c42_18 : Code := .cond (.tmp 14) .skip (.exit 0)
def c42_16 : Code := .seq (codeN b42 267) c42_18
def r42_24 : Array Oper := regOps (codeN (codeOf Try.f42) 1099)
def c42_24 : Code := .region 6 r42_24 true
def q42_24 : List (Oper × Fl) := [(mv 17 0 49, ⟨true, false, true, false, false, false, true, true, false, false, []⟩),
 (mv 18 5 3, ⟨true, false, true, false, false, false, true, true, false, false, []⟩),
 (ixa 19 49 17 18 0, ⟨true, false, true, false, false, false, true, true, false, false, []⟩),
 (ld 20 27 19 27, ⟨true, false, true, false, false, false, true, true, false, false, []⟩),
 (mv 21 1 49, ⟨true, false, true, false, false, false, true, true, false, false, []⟩),
 (mv 22 5 3, ⟨true, false, true, false, true, false, true, true, false, false, []⟩),
 (ixa 23 49 21 22 0, ⟨true, false, true, false, true, false, true, true, false, false, []⟩),
 (ld 24 27 23 27, ⟨true, false, true, false, true, false, true, true, false, false, []⟩),
 (cal 25 26 [(.tmp 20), (.tmp 24)] [27, 27] 4, ⟨true, true, true, false, true, true, true, true, false, false, []⟩),
 (op1 26 (.unOp .not 4 (.tmp 25)) 4, ⟨true, true, true, false, true, false, true, true, false, false, []⟩)]
def c42_26 : Code := .seq (codeN b42 4683) .ret
def c42_25 : Code := .cond (.tmp 26) c42_26 .skip
def c42_23 : Code := .seq c42_24 c42_25
def c42_30 : Code := codeN b42 459
def c42_21 : Code := .seq (.block 1 c42_23) c42_30
def c42_15 : Code := .seq c42_16 c42_21
def c42_14 : Code := .loop c42_15
def c42_13 : Code := .block 0 c42_14
def c42_11 : Code := .seq (codeN b42 19) c42_13
def c42_31 : Code := .seq (codeN b42 23) .ret
def c42_10 : Code := .seq c42_11 c42_31
def c42_2 : Code := .seq c42_3 c42_10
def c42_0 : Code := .seq (codeN b42 2) c42_2
theorem E42 : evK gS fi42 c42_6 fr st k = opsR gS fi42 [op1 4 (.assign (.const (.bool false))) 4] fr st (.seq .ret k) ∧
 evK gS fi42 c42_5 fr st k = condK gS fi42 (fr.op (.tmp 10)).bool? c42_6 .skip fr st k ∧
 (evK gS fi42 c42_3 fr st k = opsR gS fi42 [mv 6 0 49,
 len1 7 6 49 3,
 mv 8 1 49,
 len1 9 8 49 3,
 bop 10 .neq 3 7 9 3 4] fr st (.seq c42_5 k)) ∧
 evK gS fi42 c42_18 fr st k = condK gS fi42 (fr.op (.tmp 14)).bool? .skip (.exit 0) fr st k ∧
 (evK gS fi42 c42_16 fr st k = opsR gS fi42 [mv 11 5 3,
 mv 12 0 49,
 len1 13 12 49 3,
 bop 14 .lss 3 11 13 3 4] fr st (.seq c42_18 k)) ∧
 evK gS fi42 c42_24 fr st k = drwR gS fi42 r42_24 q42_24 fr st k ∧
 evK gS fi42 c42_26 fr st k = opsR gS fi42 [op1 4 (.assign (.const (.bool false))) 4] fr st (.seq .ret k) ∧
 evK gS fi42 c42_25 fr st k = condK gS fi42 (fr.op (.tmp 26)).bool? c42_26 .skip fr st k ∧
 evK gS fi42 c42_23 fr st k = evK gS fi42 c42_24 fr st (.seq c42_25 k) ∧
 (evK gS fi42 c42_30 fr st k = opsR gS fi42 [mv 15 5 3,
 op1 16 (.binOp .add 3 (.tmp 15) (.const (.int .i64 1)) 3) 3,
 asn 5 16 3] fr st k) ∧
 evK gS fi42 c42_21 fr st k = evK gS fi42 c42_23 fr st (.blk 1 (.seq c42_30 k)) ∧
 evK gS fi42 c42_15 fr st k = evK gS fi42 c42_16 fr st (.seq c42_21 k) ∧
 evK gS fi42 c42_13 fr st k = evK gS fi42 c42_14 fr st (.blk 0 k) ∧
 evK gS fi42 c42_11 fr st k = opsR gS fi42 [op1 5 (.assign (.const (.int .i64 0))) 3] fr st (.seq c42_13 k) ∧
 evK gS fi42 c42_31 fr st k = opsR gS fi42 [op1 4 (.assign (.const (.bool true))) 4] fr st (.seq .ret k) ∧
 evK gS fi42 c42_10 fr st k = evK gS fi42 c42_11 fr st (.seq c42_31 k) ∧
 evK gS fi42 c42_2 fr st k = evK gS fi42 c42_3 fr st (.seq c42_10 k) ∧
 evK gS fi42 c42_0 fr st k = opsR gS fi42 [op1 4 (.assign (.const (.bool false))) 4] fr st (.seq c42_2 k) := ⟨evK_rs 2 rfl (by kernel_rfl), rfl, evK_rs 1 rfl (by kernel_rfl), rfl, evK_rs 4 rfl (by kernel_rfl), evK_dr 6 rfl (by kernel_rfl) (by kernel_rfl), evK_rs 7 rfl (by kernel_rfl), rfl, rfl, evK_r 5 (by kernel_rfl), rfl, rfl, rfl, evK_rs 3 rfl (by kernel_rfl), evK_rs 8 rfl (by kernel_rfl), rfl, rfl, evK_rs 0 rfl (by kernel_rfl)⟩
theorem m42 : mini fi42.body = c42_0 := by kernel_rfl
theorem n42_14 (fr : Fr) (st : St) (k : Kt) : nextK gS fi42 (.loop c42_15 k) .normal fr st = evK gS fi42 c42_14 fr st k := rfl
set_option maxHeartbeats 4000000 in
theorem L42_14 (f : List Pred) (g : List Pred) (h_f : POk f) (h_g : POk g) (st : St) : ∀ (n i : Nat) (j : Int)  (T : List (Nat × E)) (X : List (Nat × List V))  (hlen : f.length = g.length), j = (i : Int) → i ≤ (f).length → (f).length - i = n →
    evK gS fi42 c42_14 { ps := [(0, .val (.slice (encPreds f))), (1, .val (.slice (encPreds g))), (4, .val (.bool false)), (5, .val (.int .i64 j))], ts := T, lc := X } st (.blk 0 (.seq c42_31 .nil)) = some ((.ret (.bool (fsames (f.drop i) (g.drop i))) none), st) := by
  intro n
  have hm : fi42.marks = [] := rfl
  have hl : fi42.locals = [] := rfl
  have hr : fi42.results = [.tmp 4] := rfl
  have hfl := h_f.1
  induction n with
  | zero =>
    intro i j   T X  hlen hj hi hn
    obtain rfl : i = (f).length := by omega
    subst hj
    have hz : g.drop f.length = [] := List.drop_eq_nil_of_le (by omega)
    refine evK_loop c42_15 _ st _ _ rfl ?_
    simp (config := { contextual := true, maxSteps := 10000000, maxDischargeDepth := 6 }) [-Int.not_le, -Int.not_lt, -Nat.not_le, -Nat.not_lt, ty3, ty4, ty27, ty49, hm, hl, hr, k26, x26, fi26_eq, p26, E42, q42_24, n42_14, hz]
    all_goals try simp (config := { contextual := true }) [-Int.not_le, -Int.not_lt, -Nat.not_le, -Nat.not_lt, fsames]
    all_goals first | done | grind | omega | (trace_state; fail)
  | succ n ih =>
    intro i j   T X  hlen hj hi hn
    subst hj
    obtain ⟨x, hx⟩ : ∃ x, (f)[i]? = some x := ⟨(f)[i]'(by omega), List.getElem?_eq_getElem (by omega)⟩
    have hd := drop_get hx
    have hlt : (i : Int) < ((f).length : Int) := by omega
    have hlt2 : i < (f).length := by omega
    have hxe : (f)[i]'hlt2 = x := by rw [List.getElem?_eq_getElem hlt2] at hx; exact Option.some.inj hx
    have hw : IntKind.wrap .i64 ((i : Int) + 1) = (i : Int) + 1 := wrap64 (by omega) (by omega)
    have hpo := h_f.get hx
    have hxo := hpo.1
    have hxs := hpo.2
    obtain ⟨y, hy⟩ : ∃ y, (g)[i]? = some y := ⟨(g)[i]'(by omega), List.getElem?_eq_getElem (by omega)⟩
    have hyd := drop_get hy
    have hyl : i < (g).length := by omega
    have hye : (g)[i]'hyl = y := by rw [List.getElem?_eq_getElem hyl] at hy; exact Option.some.inj hy
    have hpy := h_g.get hy
    have hyo := hpy.1
    have hys := hpy.2
    have IH := fun T X hlen => ih (i + 1) ((i : Int) + 1) T X hlen rfl (by omega) (by omega)
    refine evK_loop c42_15 _ st _ _ rfl ?_
    simp (config := { contextual := true, maxSteps := 10000000, maxDischargeDepth := 6 }) [-Int.not_le, -Int.not_lt, -Nat.not_le, -Nat.not_lt, ty3, ty4, ty27, ty49, hm, hl, hr, k26, x26, fi26_eq, p26, E42, q42_24, n42_14, hx, hxe, hd, hlt, hlt2, hw, IH, hy, hye, hyd, hlen, hxo, hxs, hyo, hys]
    all_goals try simp (config := { contextual := true }) [-Int.not_le, -Int.not_lt, -Nat.not_le, -Nat.not_lt, fsames]
    all_goals first | done | grind | omega | (trace_state; fail)
set_option maxHeartbeats 4000000 in
theorem c42 (f : List Pred) (g : List Pred) (h_f : POk f) (h_g : POk g) (st : St) : EvF gS 42 [.slice (encPreds f), .slice (encPreds g)] st = some (.ret (.bool (fsame f g)) none, st) := by
  refine EvF_start fi42_eq (fun x h => by cases h) m42 ?_
  rw [st42]
  have hm : fi42.marks = [] := rfl
  have hl : fi42.locals = [] := rfl
  have hr : fi42.results = [.tmp 4] := rfl
  have hfl := h_f.1
  simp (config := { contextual := true, maxSteps := 10000000, maxDischargeDepth := 6 }) [-Int.not_le, -Int.not_lt, -Nat.not_le, -Nat.not_lt, ty3, ty4, ty27, ty49, hm, hl, hr, k26, x26, fi26_eq, p26, E42, q42_24, n42_14, (fun T X hlen => L42_14 f g h_f h_g st _ 0 0  T X hlen rfl (Nat.zero_le _) rfl), hfl]
  all_goals try simp (config := { contextual := true }) [-Int.not_le, -Int.not_lt, -Nat.not_le, -Nat.not_lt, fsame]
  all_goals first | done | grind | omega | (trace_state; fail)
theorem k42 (f : List Pred) (g : List Pred) (h_f : POk f) (h_g : POk g) (fr : Fr) (st : St) : callStep gS (EvF gS) 42 [.slice (encPreds f), .slice (encPreds g)] fr st = some (.ok (retE none (.bool (fsame f g))) fr st) :=
  call_pure rfl fi42_eq rfl (fun st => c42 f g h_f h_g st) (by simp)
theorem x42 : gS.ext 42 = none := rfl
theorem p42 : fi42.pure = true := rfl
end
end Go.Proofs.Ytclpbfkbpcjejaa
namespace Go.Proofs.Ytclpbfkbpcjejaa
open Go Go.Ab
set_option linter.unusedVariables false
set_option linter.unusedSimpArgs false
set_option linter.unnecessarySimpa false
set_option maxRecDepth 20000
noncomputable section
variable (fr : Fr) (st : St) (k : Kt)
def fi43 : FI := { body := codeOf Try.f43, ntmps := 50, results := [.tmp 4], pers := [0, 1, 4, 6, 8, 9, 11, 12, 13, 14, 21, 22, 23, 27, 28, 29], locals := [6, 8, 11], pure := true, marks := [] }
theorem fi43_eq : gS.fn 43 = some fi43 := by kernel_rfl
theorem st43 (a0 a1 : V) : startFr fi43 [a0, a1] = { ps := [(0, .val a0), (1, .val a1), (4, .any), (6, .any), (8, .any), (9, .any), (11, .any), (12, .any), (13, .any), (14, .any), (21, .any), (22, .any), (23, .any), (27, .any), (28, .any), (29, .any)], ts := [], lc := [] } := rfl
def b43 : Code := mini (codeOf Try.f43)
def c43_20 : Code := .seq (codeN b43 9829) .ret
def c43_19 : Code := .cond (.tmp 19) c43_20 .skip
def c43_17 : Code := .seq (codeN b43 2661) c43_19
def c43_15 : Code := .seq (codeN b43 1125) c43_17
def c43_24 : Code := codeN b43 485
def c43_13 : Code := .seq (.block 1 c43_15) c43_24
def c43_9 : Code := .seq (.cond (.tmp 15) .skip (.exit 0)) c43_13
def c43_7 : Code := .seq (codeN b43 69) c43_9
def c43_6 : Code := .loop c43_7
def c43_5 : Code := .block 0 c43_6
def c43_3 : Code := .seq (codeN b43 9) c43_5
def c43_57 : Code := codeN b43 3353803
def c43_55 : Code := .seq (codeN b43 2305227) c43_57
def c43_58 : Code := codeN b43 994507
def c43_53 : Code := .seq (.block 5 c43_55) c43_58
def c43_49 : Code := .seq (.cond (.tmp 30) .skip (.exit 4)) c43_53
def c43_47 : Code := .seq (codeN b43 142539) c43_49
def c43_46 : Code := .loop c43_47
def c43_45 : Code := .block 4 c43_46
def c43_43 : Code := .seq (codeN b43 19659) c43_45
def c43_62 : Code := .seq (codeN b43 81099) .ret
def c43_61 : Code := .cond (.tmp 48) c43_62 .skip
def c43_59 : Code := .seq (codeN b43 23755) c43_61
theorem e43_59 : evK gS fi43 c43_59 fr st k = opsR gS fi43 [mv 47 9 4,
 op1 48 (.unOp .not 4 (.tmp 47)) 4] fr st (.seq c43_61 k) := evK_rs 16 rfl (by kernel_rfl)
def c43_42 : Code := .seq c43_43 c43_59
def c43_40 : Code := .seq (codeN b43 5323) c43_42
def c43_38 : Code := .seq (codeN b43 2251) c43_40
def c43_66 : Code := codeN b43 971
def c43_36 : Code := .seq (.block 3 c43_38) c43_66
def c43_32 : Code := .seq (.cond (.tmp 24) .skip (.exit 2)) c43_36
def c43_30 : Code := .seq (codeN b43 139) c43_32
def c43_29 : Code := .loop c43_30
def c43_28 : Code := .block 2 c43_29
def c43_26 : Code := .seq (codeN b43 19) c43_28
def c43_67 : Code := .seq (codeN b43 23) .ret
def c43_25 : Code := .seq c43_26 c43_67
theorem e43_25 : evK gS fi43 c43_25 fr st k = evK gS fi43 c43_26 fr st (.seq c43_67 k) := rfl
def c43_2 : Code := .seq c43_3 c43_25
def c43_0 : Code := .seq (codeN b43 2) c43_2
theorem E43 : evK gS fi43 c43_20 fr st k = opsR gS fi43 [op1 4 (.assign (.const (.bool true))) 4] fr st (.seq .ret k) ∧
 evK gS fi43 c43_19 fr st k = condK gS fi43 (fr.op (.tmp 19)).bool? c43_20 .skip fr st k ∧
 (evK gS fi43 c43_17 fr st k = opsR gS fi43 [ld 18 27 6 27,
 cal 19 23 [(.tmp 18)] [27] 4] fr st (.seq c43_19 k)) ∧
 (evK gS fi43 c43_15 fr st k = opsR gS fi43 [ixa 16 49 12 14 0,
 ld 17 27 16 27,
 op1 6 (.alloc 27) 0,
 sto 27 6 17] fr st (.seq c43_17 k)) ∧
 (evK gS fi43 c43_24 fr st k = opsR gS fi43 [op1 20 (.binOp .add 3 (.tmp 14) (.const (.int .i64 1)) 3) 3,
 mv 14 20 3] fr st k) ∧
 evK gS fi43 c43_13 fr st k = evK gS fi43 c43_15 fr st (.blk 1 (.seq c43_24 k)) ∧
 evK gS fi43 c43_9 fr st k = condK gS fi43 (fr.op (.tmp 15)).bool? .skip (.exit 0) fr st (.seq c43_13 k) ∧
 evK gS fi43 c43_7 fr st k = opsR gS fi43 [bop 15 .lss 3 14 13 3 0] fr st (.seq c43_9 k) ∧
 evK gS fi43 c43_5 fr st k = evK gS fi43 c43_6 fr st (.blk 0 k) ∧
 (evK gS fi43 c43_3 fr st k = opsR gS fi43 [mv 12 1 49,
 len1 13 12 49 3,
 op1 14 (.move (.const (.int .i64 0))) 3] fr st (.seq c43_5 k)) ∧
 (evK gS fi43 c43_57 fr st k = opsR gS fi43 [mv 33 9 4,
 mv 34 33 4,
 mk (some 35) (.fieldAddr 27 (.tmp 11) 0) 0 (some (1, false)),
 mk (some 36) (.load 9 (.tmp 35)) 9 (some (1, false)),
 mk (some 37) (.fieldAddr 27 (.tmp 8) 0) 0 (some (1, false)),
 mk (some 38) (.load 9 (.tmp 37)) 9 (some (1, false)),
 mk (some 39) (.binOp .eql 9 (.tmp 36) (.tmp 38) 9) 4 (some (1, false)),
 mk (some 40) (.move (.tmp 39)) 4 (some (1, false)),
 mk (some 41) (.load 27 (.tmp 11)) 27 (some (7, true)),
 mk (some 42) (.load 27 (.tmp 8)) 27 (some (7, true)),
 mk (some 43) (.call { callee := (.value (.func 27)), args := #[(.tmp 41), (.tmp 42)], argTypes := #[27, 27] }) 4 (some (7, true)),
 mk (some 44) (.pick (.tmp 40) (.tmp 43) (.const (.bool false))) 4 (some (1, false)),
 op1 45 (.pick (.tmp 34) (.const (.bool true)) (.tmp 44)) 4,
 asn 9 45 4] fr st k) ∧
 (evK gS fi43 c43_55 fr st k = opsR gS fi43 [ixa 31 49 27 29 0,
 ld 32 27 31 27,
 op1 11 (.alloc 27) 0,
 sto 27 11 32] fr st (.seq c43_57 k)) ∧
 (evK gS fi43 c43_58 fr st k = opsR gS fi43 [op1 46 (.binOp .add 3 (.tmp 29) (.const (.int .i64 1)) 3) 3,
 mv 29 46 3] fr st k) ∧
 evK gS fi43 c43_53 fr st k = evK gS fi43 c43_55 fr st (.blk 5 (.seq c43_58 k)) ∧
 evK gS fi43 c43_49 fr st k = condK gS fi43 (fr.op (.tmp 30)).bool? .skip (.exit 4) fr st (.seq c43_53 k) ∧
 evK gS fi43 c43_47 fr st k = opsR gS fi43 [bop 30 .lss 3 29 28 3 0] fr st (.seq c43_49 k) ∧
 evK gS fi43 c43_45 fr st k = evK gS fi43 c43_46 fr st (.blk 4 k) ∧
 (evK gS fi43 c43_43 fr st k = opsR gS fi43 [mv 27 1 49,
 len1 28 27 49 3,
 op1 29 (.move (.const (.int .i64 0))) 3] fr st (.seq c43_45 k)) ∧
 evK gS fi43 c43_62 fr st k = opsR gS fi43 [op1 4 (.assign (.const (.bool false))) 4] fr st (.seq .ret k) ∧
 evK gS fi43 c43_61 fr st k = condK gS fi43 (fr.op (.tmp 48)).bool? c43_62 .skip fr st k ∧
 evK gS fi43 c43_42 fr st k = evK gS fi43 c43_43 fr st (.seq c43_59 k) ∧
 evK gS fi43 c43_40 fr st k = opsR gS fi43 [op1 9 (.assign (.const (.bool false))) 4] fr st (.seq c43_42 k) ∧
 (evK gS fi43 c43_38 fr st k = opsR gS fi43 [ixa 25 49 21 23 0,
 ld 26 27 25 27,
 op1 8 (.alloc 27) 0,
 sto 27 8 26] fr st (.seq c43_40 k)) ∧
 (evK gS fi43 c43_66 fr st k = opsR gS fi43 [op1 49 (.binOp .add 3 (.tmp 23) (.const (.int .i64 1)) 3) 3,
 mv 23 49 3] fr st k) ∧
 evK gS fi43 c43_36 fr st k = evK gS fi43 c43_38 fr st (.blk 3 (.seq c43_66 k)) ∧
 evK gS fi43 c43_32 fr st k = condK gS fi43 (fr.op (.tmp 24)).bool? .skip (.exit 2) fr st (.seq c43_36 k) ∧
 evK gS fi43 c43_30 fr st k = opsR gS fi43 [bop 24 .lss 3 23 22 3 0] fr st (.seq c43_32 k) ∧
 evK gS fi43 c43_28 fr st k = evK gS fi43 c43_29 fr st (.blk 2 k) ∧
 (evK gS fi43 c43_26 fr st k = opsR gS fi43 [mv 21 0 49,
 len1 22 21 49 3,
 op1 23 (.move (.const (.int .i64 0))) 3] fr st (.seq c43_28 k)) ∧
 evK gS fi43 c43_67 fr st k = opsR gS fi43 [op1 4 (.assign (.const (.bool true))) 4] fr st (.seq .ret k) ∧
 evK gS fi43 c43_2 fr st k = evK gS fi43 c43_3 fr st (.seq c43_25 k) ∧
 evK gS fi43 c43_0 fr st k = opsR gS fi43 [op1 4 (.assign (.const (.bool false))) 4] fr st (.seq c43_2 k) := ⟨evK_rs 5 rfl (by kernel_rfl), rfl, evK_rs 4 rfl (by kernel_rfl), evK_rs 3 rfl (by kernel_rfl), evK_r 6 (by kernel_rfl), rfl, rfl, evK_rs 2 rfl (by kernel_rfl), rfl, evK_rs 1 rfl (by kernel_rfl), evK_r 14 (by kernel_rfl), evK_rs 13 rfl (by kernel_rfl), evK_r 15 (by kernel_rfl), rfl, rfl, evK_rs 12 rfl (by kernel_rfl), rfl, evK_rs 11 rfl (by kernel_rfl), evK_rs 17 rfl (by kernel_rfl), rfl, rfl, evK_rs 10 rfl (by kernel_rfl), evK_rs 9 rfl (by kernel_rfl), evK_r 18 (by kernel_rfl), rfl, rfl, evK_rs 8 rfl (by kernel_rfl), rfl, evK_rs 7 rfl (by kernel_rfl), evK_rs 19 rfl (by kernel_rfl), rfl, evK_rs 0 rfl (by kernel_rfl)⟩
theorem m43 : mini fi43.body = c43_0 := by kernel_rfl
theorem n43_6 (fr : Fr) (st : St) (k : Kt) : nextK gS fi43 (.loop c43_7 k) .normal fr st = evK gS fi43 c43_6 fr st k := rfl
theorem n43_46 (fr : Fr) (st : St) (k : Kt) : nextK gS fi43 (.loop c43_47 k) .normal fr st = evK gS fi43 c43_46 fr st k := rfl
theorem n43_29 (fr : Fr) (st : St) (k : Kt) : nextK gS fi43 (.loop c43_30 k) .normal fr st = evK gS fi43 c43_29 fr st k := rfl
set_option maxHeartbeats 8000000 in
theorem I43 (f g : List Pred) (h_f : POk f) (h_g : POk g) (p : Pred) (h_p : p.ok) (io : Nat) (hio : f[io]? = some p) (st : St) (R : Out × St) (fb : Bool)
    (H : ∀ (e0 e6 e11 e12 e13 e14 : E) (T : List (Nat × E)) (X : List (Nat × List V)) (ht0 : e0.Tame) (ht6 : e6.Tame) (ht11 : e11.Tame) (ht12 : e12.Tame) (ht13 : e13.Tame) (ht14 : e14.Tame) (hx8 : lk X 8 = some [.str p.name, .int .i64 p.test, .int .i64 p.v.kind, .int .i64 p.v.n, .float .f64 p.v.x, .str p.v.s, .bool p.v.b, .int .i64 p.w.kind, .int .i64 p.w.n, .float .f64 p.w.x, .str p.w.s, .bool p.w.b, .slice (encVals p.set)]), evK gS fi43 c43_59 { ps := [(0, e0), (1, .val (.slice (encPreds g))), (4, .val (.bool false)), (6, e6), (8, .lp 8 0), (9, .val (.bool fb)), (11, e11), (12, e12), (13, e13), (14, e14), (21, .val (.slice (encPreds f))), (22, .val (.int .i64 f.length)), (23, .val (.int .i64 (io : Nat))), (27, .val (.slice (encPreds g))), (28, .val (.int .i64 g.length)), (29, .val (.int .i64 (g.length : Nat)))], ts := T, lc := X } st (.blk 3 (.seq c43_66 (.loop c43_30 (.blk 2 (.seq c43_67 .nil))))) = some R) :
    ∀ (n k : Nat) (b : Bool) (e0 e6 e11 e12 e13 e14 : E) (T : List (Nat × E)) (X : List (Nat × List V)) (ht0 : e0.Tame) (ht6 : e6.Tame) (ht11 : e11.Tame) (ht12 : e12.Tame) (ht13 : e13.Tame) (ht14 : e14.Tame) (hx8 : lk X 8 = some [.str p.name, .int .i64 p.test, .int .i64 p.v.kind, .int .i64 p.v.n, .float .f64 p.v.x, .str p.v.s, .bool p.v.b, .int .i64 p.w.kind, .int .i64 p.w.n, .float .f64 p.w.x, .str p.w.s, .bool p.w.b, .slice (encVals p.set)]), k ≤ g.length → g.length - k = n → fb = (b || fcov1 p (g.drop k)) →
    evK gS fi43 c43_46 { ps := [(0, e0), (1, .val (.slice (encPreds g))), (4, .val (.bool false)), (6, e6), (8, .lp 8 0), (9, .val (.bool b)), (11, e11), (12, e12), (13, e13), (14, e14), (21, .val (.slice (encPreds f))), (22, .val (.int .i64 f.length)), (23, .val (.int .i64 (io : Nat))), (27, .val (.slice (encPreds g))), (28, .val (.int .i64 g.length)), (29, .val (.int .i64 (k : Nat)))], ts := T, lc := X } st (.blk 4 (.seq c43_59 (.blk 3 (.seq c43_66 (.loop c43_30 (.blk 2 (.seq c43_67 .nil))))))) = some R := by
  intro n
  have hm : fi43.marks = [] := rfl
  have hl : fi43.locals = [6, 8, 11] := rfl
  have hr : fi43.results = [.tmp 4] := rfl
  have hgl := h_g.1
  have hfl := h_f.1
  have hpo1 := h_p.1
  have hpo2 := h_p.2
  have hil : io < f.length := (List.getElem?_eq_some_iff.1 hio).1
  have hie : f[io]'hil = p := (List.getElem?_eq_some_iff.1 hio).2
  induction n with
  | zero =>
    intro k b e0 e6 e11 e12 e13 e14 T X ht0 ht6 ht11 ht12 ht13 ht14 hx8 hk hn hb
    obtain rfl : k = g.length := by omega
    refine evK_loop c43_47 _ st _ _ rfl ?_
    rw [List.drop_length] at hb
    have hb2 : b = fb := by rw [hb]; simp [fcov1]
    subst hb2
    simp (config := { contextual := true, maxSteps := 10000000, maxDischargeDepth := 6 }) [ht0, ht6, ht11, ht12, ht13, ht14, hx8, -Int.not_le, -Int.not_lt, -Nat.not_le, -Nat.not_lt, ty3, ty4, ty9, ty27, ty49, hm, hl, hr, k23, k27, E43, e43_25, n43_6, n43_46, n43_29]
    all_goals first | done | (refine H _ _ _ _ _ _ _ _ ?_ <;> simp [ht0, ht6, ht11, ht12, ht13, ht14, hx8,]; done) | skip
    all_goals (refine H _ _ _ _ _ _ _ _ ?_ ?_ ?_ ?_ ?_ ?_ ?_ <;> simp (config := { contextual := true, maxSteps := 10000000, maxDischargeDepth := 6 }) [ht0, ht6, ht11, ht12, ht13, ht14, hx8,])
  | succ n ih =>
    intro k b e0 e6 e11 e12 e13 e14 T X ht0 ht6 ht11 ht12 ht13 ht14 hx8 hk hn hb
    obtain ⟨x, hx⟩ : ∃ x, g[k]? = some x := ⟨g[k]'(by omega), List.getElem?_eq_getElem (by omega)⟩
    have hd := drop_get hx
    have hlt : (k : Int) < (g.length : Int) := by omega
    have hlt2 : k < g.length := by omega
    have hxe : g[k]'hlt2 = x := by rw [List.getElem?_eq_getElem hlt2] at hx; exact Option.some.inj hx
    have hw : IntKind.wrap .i64 ((k : Int) + 1) = ((k + 1 : Nat) : Int) := by rw [wrap64 (by omega) (by omega)]; omega
    have hxo := (h_g.get hx).1
    have hxs := (h_g.get hx).2
    have hcast : ((k + 1 : Nat) : Int) = (k : Int) + 1 := by omega
    rw [hd] at hb
    have hc : fcov1 p (x :: g.drop (k + 1)) = (decide (x.name = p.name) && pimplies x p || fcov1 p (g.drop (k + 1))) := rfl
    rw [hc] at hb
    have IH := fun b' hb' e0 e6 e11 e12 e13 e14 T X ht0 ht6 ht11 ht12 ht13 ht14 hx8 => ih (k + 1) b' e0 e6 e11 e12 e13 e14 T X ht0 ht6 ht11 ht12 ht13 ht14 hx8 (by omega) (by omega) hb'
    refine evK_loop c43_47 _ st _ _ rfl ?_
    cases b with
    | true =>
      have IHc := IH true (by rw [hb]; rfl)
      simp (config := { contextual := true, maxSteps := 10000000, maxDischargeDepth := 6 }) [-Int.natCast_add, hio, hil, hie, hx, hxe, hlt, hlt2, hw, hxo, hxs, hpo1, hpo2, IHc, ht0, ht6, ht11, ht12, ht13, ht14, hx8, -Int.not_le, -Int.not_lt, -Nat.not_le, -Nat.not_lt, ty3, ty4, ty9, ty27, ty49, hm, hl, hr, k23, k27, E43, e43_25, n43_6, n43_46, n43_29]
    | false =>
      by_cases hne : x.name = p.name
      · generalize hpi : pimplies x p = t at hb
        have IHc := IH t (by rw [hb]; simp [hne])
        have hpi2 : pimplies ⟨p.name, x.test, x.v, x.w, x.set⟩ p = t := by rw [← hne]; exact hpi
        simp (config := { contextual := true, maxSteps := 10000000, maxDischargeDepth := 6 }) [-Int.natCast_add, hio, hil, hie, hx, hxe, hlt, hlt2, hw, hxo, hxs, hpo1, hpo2, IHc, hne, hpi2, ht0, ht6, ht11, ht12, ht13, ht14, hx8, -Int.not_le, -Int.not_lt, -Nat.not_le, -Nat.not_lt, ty3, ty4, ty9, ty27, ty49, hm, hl, hr, k23, k27, E43, e43_25, n43_6, n43_46, n43_29]
      · have IHc := IH false (by rw [hb]; simp [hne])
        simp (config := { contextual := true, maxSteps := 10000000, maxDischargeDepth := 6 }) [-Int.natCast_add, hio, hil, hie, hx, hxe, hlt, hlt2, hw, hxo, hxs, hpo1, hpo2, IHc, hne, ht0, ht6, ht11, ht12, ht13, ht14, hx8, -Int.not_le, -Int.not_lt, -Nat.not_le, -Nat.not_lt, ty3, ty4, ty9, ty27, ty49, hm, hl, hr, k23, k27, E43, e43_25, n43_6, n43_46, n43_29]
set_option maxHeartbeats 8000000 in
theorem L43_29 (f g : List Pred) (h_f : POk f) (h_g : POk g) (st : St) : ∀ (n io : Nat) (e0 e6 e8 e9 e11 e12 e13 e14 e27 e28 e29 : E) (T : List (Nat × E)) (X : List (Nat × List V)) (ht0 : e0.Tame) (ht6 : e6.Tame) (ht8 : e8.Tame) (ht9 : e9.Tame) (ht11 : e11.Tame) (ht12 : e12.Tame) (ht13 : e13.Tame) (ht14 : e14.Tame) (ht27 : e27.Tame) (ht28 : e28.Tame) (ht29 : e29.Tame), io ≤ f.length → f.length - io = n →
    evK gS fi43 c43_29 { ps := [(0, e0), (1, .val (.slice (encPreds g))), (4, .val (.bool false)), (6, e6), (8, e8), (9, e9), (11, e11), (12, e12), (13, e13), (14, e14), (21, .val (.slice (encPreds f))), (22, .val (.int .i64 f.length)), (23, .val (.int .i64 (io : Nat))), (27, e27), (28, e28), (29, e29)], ts := T, lc := X } st (.blk 2 (.seq c43_67 .nil)) = some (.ret (.bool ((f.drop io).all fun p => fcov1 p g)) none, st) := by
  intro n
  have hm : fi43.marks = [] := rfl
  have hl : fi43.locals = [6, 8, 11] := rfl
  have hr : fi43.results = [.tmp 4] := rfl
  have hgl := h_g.1
  have hfl := h_f.1
  induction n with
  | zero =>
    intro io e0 e6 e8 e9 e11 e12 e13 e14 e27 e28 e29 T X ht0 ht6 ht8 ht9 ht11 ht12 ht13 ht14 ht27 ht28 ht29 hk hn
    obtain rfl : io = f.length := by omega
    refine evK_loop c43_30 _ st _ _ rfl ?_
    simp (config := { contextual := true, maxSteps := 10000000, maxDischargeDepth := 6 }) [ht0, ht6, ht8, ht9, ht11, ht12, ht13, ht14, ht27, ht28, ht29, -Int.not_le, -Int.not_lt, -Nat.not_le, -Nat.not_lt, ty3, ty4, ty9, ty27, ty49, hm, hl, hr, k23, k27, E43, e43_59, e43_25, n43_6, n43_46, n43_29]
  | succ n ih =>
    intro io e0 e6 e8 e9 e11 e12 e13 e14 e27 e28 e29 T X ht0 ht6 ht8 ht9 ht11 ht12 ht13 ht14 ht27 ht28 ht29 hk hn
    obtain ⟨x, hx⟩ : ∃ x, f[io]? = some x := ⟨f[io]'(by omega), List.getElem?_eq_getElem (by omega)⟩
    have hd := drop_get hx
    have hlt : (io : Int) < (f.length : Int) := by omega
    have hlt2 : io < f.length := by omega
    have hxe : f[io]'hlt2 = x := by rw [List.getElem?_eq_getElem hlt2] at hx; exact Option.some.inj hx
    have hw : IntKind.wrap .i64 ((io : Int) + 1) = ((io + 1 : Nat) : Int) := by rw [wrap64 (by omega) (by omega)]; omega
    have hxo := (h_f.get hx).1
    have hxs := (h_f.get hx).2
    have IH := fun e0 e6 e8 e9 e11 e12 e13 e14 e27 e28 e29 T X ht0 ht6 ht8 ht9 ht11 ht12 ht13 ht14 ht27 ht28 ht29 => ih (io + 1) e0 e6 e8 e9 e11 e12 e13 e14 e27 e28 e29 T X ht0 ht6 ht8 ht9 ht11 ht12 ht13 ht14 ht27 ht28 ht29 (by omega) (by omega)
    refine evK_loop c43_30 _ st _ _ rfl ?_
    have II := fun H e0 e6 e11 e12 e13 e14 T X ht0 ht6 ht11 ht12 ht13 ht14 hx8 => I43 f g h_f h_g x (h_f.get hx) io hx st (.ret (.bool ((f.drop io).all fun p => fcov1 p g)) none, st) (fcov1 x g) H g.length 0 false e0 e6 e11 e12 e13 e14 T X ht0 ht6 ht11 ht12 ht13 ht14 hx8 (Nat.zero_le _) (by omega) rfl
    simp (config := { contextual := true, maxSteps := 10000000, maxDischargeDepth := 6 }) [-Int.natCast_add, hx, hxe, hlt, hlt2, hxo, hxs, ht0, ht6, ht8, ht9, ht11, ht12, ht13, ht14, ht27, ht28, ht29, -Int.not_le, -Int.not_lt, -Nat.not_le, -Nat.not_lt, ty3, ty4, ty9, ty27, ty49, hm, hl, hr, k23, k27, E43, e43_59, e43_25, n43_6, n43_46, n43_29]
    refine II ?_ _ _ _ _ _ _ _ _ ?_ ?_ ?_ ?_ ?_ ?_ ?_
    · intro e0 e6 e11 e12 e13 e14 T X ht0 ht6 ht11 ht12 ht13 ht14 hx8
      rw [hd, List.all_cons]
      cases hb : fcov1 x g with
      | true => simp (config := { contextual := true, maxSteps := 10000000, maxDischargeDepth := 6 }) [-Int.natCast_add, IH, hw, hb, ht0, ht6, ht11, ht12, ht13, ht14, hx8, -Int.not_le, -Int.not_lt, -Nat.not_le, -Nat.not_lt, ty3, ty4, ty9, ty27, ty49, hm, hl, hr, k23, k27, E43, e43_59, e43_25, n43_6, n43_46, n43_29]
      | false => simp (config := { contextual := true, maxSteps := 10000000, maxDischargeDepth := 6 }) [-Int.natCast_add, IH, hw, hb, ht0, ht6, ht11, ht12, ht13, ht14, hx8, -Int.not_le, -Int.not_lt, -Nat.not_le, -Nat.not_lt, ty3, ty4, ty9, ty27, ty49, hm, hl, hr, k23, k27, E43, e43_59, e43_25, n43_6, n43_46, n43_29]
    all_goals simp (config := { contextual := true, maxSteps := 10000000, maxDischargeDepth := 6 }) [ht0, ht6, ht8, ht9, ht11, ht12, ht13, ht14, ht27, ht28, ht29,]
def fi44 : FI := { body := codeOf Try.f44, ntmps := 59, results := [.tmp 4], pers := [0, 1, 4, 5, 6, 7, 8], locals := [], pure := true, marks := [] }
theorem fi44_eq : gS.fn 44 = some fi44 := by kernel_rfl
theorem st44 (a0 a1 : V) : startFr fi44 [a0, a1] = { ps := [(0, .val a0), (1, .val a1), (4, .any), (5, .any), (6, .any), (7, .any), (8, .any)], ts := [], lc := [] } := rfl
def b44 : Code := mini (codeOf Try.f44)
def c44_10 : Code := .cond (.tmp 12) .skip (.exit 0)
def c44_8 : Code := .seq (codeN b44 133) c44_10
def c44_18 : Code := .seq (codeN b44 2341) .ret
def c44_17 : Code := .cond (.tmp 19) c44_18 .skip
def c44_15 : Code := .seq (codeN b44 549) c44_17
def c44_22 : Code := codeN b44 229
def c44_13 : Code := .seq (.block 1 c44_15) c44_22
def c44_7 : Code := .seq c44_8 c44_13
def c44_6 : Code := .loop c44_7
def c44_5 : Code := .block 0 c44_6
def c44_3 : Code := .seq (codeN b44 9) c44_5
def c44_31 : Code := .cond (.tmp 23) .skip (.exit 2)
def c44_29 : Code := .seq (codeN b44 267) c44_31
def c44_46 : Code := .cond (.tmp 29) .skip (.exit 4)
def c44_44 : Code := .seq (codeN b44 68171) c44_46
def r44_51 : Array Oper := regOps (codeN (codeOf Try.f44) 150091)
def c44_51 : Code := .region 13 r44_51 true
def q44_51 : List (Oper × Fl) := [(mv 32 7 4, ⟨true, true, true, false, true, false, true, true, false, false, []⟩),
 (mv 33 32 4, ⟨true, true, true, false, true, false, true, true, false, false, []⟩),
 (mk (some 34) (.move (.tmp 1)) 49 (some (1, false)), ⟨true, false, true, false, false, false, true, true, false, false, []⟩),
 (mk (some 35) (.move (.tmp 8)) 3 (some (1, false)), ⟨true, false, true, false, false, false, true, true, false, false, []⟩),
 (mk (some 36) (.indexAddr 49 (.tmp 34) (.tmp 35)) 0 (some (1, false)), ⟨true, false, true, false, false, false, true, true, false, false, []⟩),
 (mk (some 37) (.fieldAddr 27 (.tmp 36) 0) 0 (some (1, false)), ⟨true, false, true, false, false, false, true, true, false, false, []⟩),
 (mk (some 38) (.load 9 (.tmp 37)) 9 (some (1, false)), ⟨true, false, true, false, false, false, true, true, false, false, []⟩),
 (mk (some 39) (.move (.tmp 0)) 49 (some (1, false)), ⟨true, false, true, false, false, false, true, true, false, false, []⟩),
 (mk (some 40) (.move (.tmp 6)) 3 (some (1, false)), ⟨true, false, true, false, false, false, true, true, false, false, []⟩),
 (mk (some 41) (.indexAddr 49 (.tmp 39) (.tmp 40)) 0 (some (1, false)), ⟨true, false, true, false, false, false, true, true, false, false, []⟩),
 (mk (some 42) (.fieldAddr 27 (.tmp 41) 0) 0 (some (1, false)), ⟨true, false, true, false, false, false, true, true, false, false, []⟩),
 (mk (some 43) (.load 9 (.tmp 42)) 9 (some (1, false)), ⟨true, false, true, false, true, false, true, true, false, false, []⟩),
 (mk (some 44) (.binOp .eql 9 (.tmp 38) (.tmp 43) 9) 4 (some (1, false)), ⟨true, true, true, false, true, false, true, true, false, false, []⟩),
 (mk (some 45) (.move (.tmp 44)) 4 (some (1, false)), ⟨true, false, true, false, true, false, true, true, false, false, []⟩),
 (mk (some 46) (.move (.tmp 1)) 49 (some (13, true)), ⟨true, false, true, false, false, false, true, true, false, false, []⟩),
 (mk (some 47) (.move (.tmp 8)) 3 (some (13, true)), ⟨true, false, true, false, false, false, true, true, false, false, []⟩),
 (mk (some 48) (.indexAddr 49 (.tmp 46) (.tmp 47)) 0 (some (13, true)), ⟨true, false, true, false, false, false, true, true, false, false, []⟩),
 (mk (some 49) (.load 27 (.tmp 48)) 27 (some (13, true)), ⟨true, false, true, false, false, false, true, true, false, false, []⟩),
 (mk (some 50) (.move (.tmp 0)) 49 (some (13, true)), ⟨true, false, true, false, false, false, true, true, false, false, []⟩),
 (mk (some 51) (.move (.tmp 6)) 3 (some (13, true)), ⟨true, false, true, false, false, false, true, true, false, false, []⟩),
 (mk (some 52) (.indexAddr 49 (.tmp 50) (.tmp 51)) 0 (some (13, true)), ⟨true, false, true, false, true, false, true, true, false, false, []⟩),
 (mk (some 53) (.load 27 (.tmp 52)) 27 (some (13, true)), ⟨true, false, true, false, true, false, true, true, false, false, []⟩),
 (mk (some 54) (.call { callee := (.value (.func 28)), args := #[(.tmp 49), (.tmp 53)], argTypes := #[27, 27] }) 4 (some (13, true)), ⟨true, true, true, false, true, true, true, true, false, false, []⟩),
 (mk (some 55) (.pick (.tmp 45) (.tmp 54) (.const (.bool false))) 4 (some (1, false)), ⟨true, false, true, false, true, false, true, true, false, false, []⟩),
 (op1 56 (.pick (.tmp 33) (.const (.bool true)) (.tmp 55)) 4, ⟨true, false, true, false, true, false, true, true, false, false, []⟩),
 (asn 7 56 4, ⟨true, true, true, false, true, false, true, true, false, false, []⟩)]
def c44_52 : Code := codeN b44 117323
def c44_49 : Code := .seq (.block 5 c44_51) c44_52
def c44_43 : Code := .seq c44_44 c44_49
def c44_42 : Code := .loop c44_43
def c44_41 : Code := .block 4 c44_42
def c44_39 : Code := .seq (codeN b44 4683) c44_41
def c44_56 : Code := .seq (codeN b44 20043) .ret
def c44_55 : Code := .cond (.tmp 58) c44_56 .skip
def c44_53 : Code := .seq (codeN b44 5707) c44_55
theorem e44_53 : evK gS fi44 c44_53 fr st k = opsR gS fi44 [mv 57 7 4,
 op1 58 (.unOp .not 4 (.tmp 57)) 4] fr st (.seq c44_55 k) := evK_rs 14 rfl (by kernel_rfl)
def c44_38 : Code := .seq c44_39 c44_53
def c44_36 : Code := .seq (codeN b44 1099) c44_38
def c44_60 : Code := codeN b44 459
def c44_34 : Code := .seq (.block 3 c44_36) c44_60
def c44_28 : Code := .seq c44_29 c44_34
def c44_27 : Code := .loop c44_28
def c44_26 : Code := .block 2 c44_27
def c44_24 : Code := .seq (codeN b44 19) c44_26
def c44_61 : Code := .seq (codeN b44 23) .ret
def c44_23 : Code := .seq c44_24 c44_61
theorem e44_23 : evK gS fi44 c44_23 fr st k = evK gS fi44 c44_24 fr st (.seq c44_61 k) := rfl
def c44_2 : Code := .seq c44_3 c44_23
def c44_0 : Code := .seq (codeN b44 2) c44_2
theorem E44 : evK gS fi44 c44_10 fr st k = condK gS fi44 (fr.op (.tmp 12)).bool? .skip (.exit 0) fr st k ∧
 (evK gS fi44 c44_8 fr st k = opsR gS fi44 [mv 9 5 3,
 mv 10 1 49,
 len1 11 10 49 3,
 bop 12 .lss 3 9 11 3 4] fr st (.seq c44_10 k)) ∧
 evK gS fi44 c44_18 fr st k = opsR gS fi44 [op1 4 (.assign (.const (.bool true))) 4] fr st (.seq .ret k) ∧
 evK gS fi44 c44_17 fr st k = condK gS fi44 (fr.op (.tmp 19)).bool? c44_18 .skip fr st k ∧
 (evK gS fi44 c44_15 fr st k = opsR gS fi44 [mv 15 1 49,
 mv 16 5 3,
 ixa 17 49 15 16 0,
 ld 18 27 17 27,
 cal 19 24 [(.tmp 18)] [27] 4] fr st (.seq c44_17 k)) ∧
 (evK gS fi44 c44_22 fr st k = opsR gS fi44 [mv 13 5 3,
 op1 14 (.binOp .add 3 (.tmp 13) (.const (.int .i64 1)) 3) 3,
 asn 5 14 3] fr st k) ∧
 evK gS fi44 c44_13 fr st k = evK gS fi44 c44_15 fr st (.blk 1 (.seq c44_22 k)) ∧
 evK gS fi44 c44_7 fr st k = evK gS fi44 c44_8 fr st (.seq c44_13 k) ∧
 evK gS fi44 c44_5 fr st k = evK gS fi44 c44_6 fr st (.blk 0 k) ∧
 evK gS fi44 c44_3 fr st k = opsR gS fi44 [op1 5 (.assign (.const (.int .i64 0))) 3] fr st (.seq c44_5 k) ∧
 evK gS fi44 c44_31 fr st k = condK gS fi44 (fr.op (.tmp 23)).bool? .skip (.exit 2) fr st k ∧
 (evK gS fi44 c44_29 fr st k = opsR gS fi44 [mv 20 6 3,
 mv 21 0 49,
 len1 22 21 49 3,
 bop 23 .lss 3 20 22 3 4] fr st (.seq c44_31 k)) ∧
 evK gS fi44 c44_46 fr st k = condK gS fi44 (fr.op (.tmp 29)).bool? .skip (.exit 4) fr st k ∧
 (evK gS fi44 c44_44 fr st k = opsR gS fi44 [mv 26 8 3,
 mv 27 1 49,
 len1 28 27 49 3,
 bop 29 .lss 3 26 28 3 4] fr st (.seq c44_46 k)) ∧
 evK gS fi44 c44_51 fr st k = drwR gS fi44 r44_51 q44_51 fr st k ∧
 (evK gS fi44 c44_52 fr st k = opsR gS fi44 [mv 30 8 3,
 op1 31 (.binOp .add 3 (.tmp 30) (.const (.int .i64 1)) 3) 3,
 asn 8 31 3] fr st k) ∧
 evK gS fi44 c44_49 fr st k = evK gS fi44 c44_51 fr st (.blk 5 (.seq c44_52 k)) ∧
 evK gS fi44 c44_43 fr st k = evK gS fi44 c44_44 fr st (.seq c44_49 k) ∧
 evK gS fi44 c44_41 fr st k = evK gS fi44 c44_42 fr st (.blk 4 k) ∧
 evK gS fi44 c44_39 fr st k = opsR gS fi44 [op1 8 (.assign (.const (.int .i64 0))) 3] fr st (.seq c44_41 k) ∧
 evK gS fi44 c44_56 fr st k = opsR gS fi44 [op1 4 (.assign (.const (.bool false))) 4] fr st (.seq .ret k) ∧
 evK gS fi44 c44_55 fr st k = condK gS fi44 (fr.op (.tmp 58)).bool? c44_56 .skip fr st k ∧
 evK gS fi44 c44_38 fr st k = evK gS fi44 c44_39 fr st (.seq c44_53 k) ∧
 evK gS fi44 c44_36 fr st k = opsR gS fi44 [op1 7 (.assign (.const (.bool false))) 4] fr st (.seq c44_38 k) ∧
 (evK gS fi44 c44_60 fr st k = opsR gS fi44 [mv 24 6 3,
 op1 25 (.binOp .add 3 (.tmp 24) (.const (.int .i64 1)) 3) 3,
 asn 6 25 3] fr st k) ∧
 evK gS fi44 c44_34 fr st k = evK gS fi44 c44_36 fr st (.blk 3 (.seq c44_60 k)) ∧
 evK gS fi44 c44_28 fr st k = evK gS fi44 c44_29 fr st (.seq c44_34 k) ∧
 evK gS fi44 c44_26 fr st k = evK gS fi44 c44_27 fr st (.blk 2 k) ∧
 evK gS fi44 c44_24 fr st k = opsR gS fi44 [op1 6 (.assign (.const (.int .i64 0))) 3] fr st (.seq c44_26 k) ∧
 evK gS fi44 c44_61 fr st k = opsR gS fi44 [op1 4 (.assign (.const (.bool true))) 4] fr st (.seq .ret k) ∧
 evK gS fi44 c44_2 fr st k = evK gS fi44 c44_3 fr st (.seq c44_23 k) ∧
 evK gS fi44 c44_0 fr st k = opsR gS fi44 [op1 4 (.assign (.const (.bool false))) 4] fr st (.seq c44_2 k) := ⟨rfl, evK_rs 2 rfl (by kernel_rfl), evK_rs 5 rfl (by kernel_rfl), rfl, evK_rs 4 rfl (by kernel_rfl), evK_r 3 (by kernel_rfl), rfl, rfl, rfl, evK_rs 1 rfl (by kernel_rfl), rfl, evK_rs 7 rfl (by kernel_rfl), rfl, evK_rs 11 rfl (by kernel_rfl), evK_dr 13 rfl (by kernel_rfl) (by kernel_rfl), evK_r 12 (by kernel_rfl), rfl, rfl, rfl, evK_rs 10 rfl (by kernel_rfl), evK_rs 15 rfl (by kernel_rfl), rfl, rfl, evK_rs 9 rfl (by kernel_rfl), evK_r 8 (by kernel_rfl), rfl, rfl, rfl, evK_rs 6 rfl (by kernel_rfl), evK_rs 16 rfl (by kernel_rfl), rfl, evK_rs 0 rfl (by kernel_rfl)⟩
theorem m44 : mini fi44.body = c44_0 := by kernel_rfl
theorem n44_6 (fr : Fr) (st : St) (k : Kt) : nextK gS fi44 (.loop c44_7 k) .normal fr st = evK gS fi44 c44_6 fr st k := rfl
theorem n44_42 (fr : Fr) (st : St) (k : Kt) : nextK gS fi44 (.loop c44_43 k) .normal fr st = evK gS fi44 c44_42 fr st k := rfl
theorem n44_27 (fr : Fr) (st : St) (k : Kt) : nextK gS fi44 (.loop c44_28 k) .normal fr st = evK gS fi44 c44_27 fr st k := rfl
set_option maxHeartbeats 8000000 in
theorem I44 (f g : List Pred) (h_f : POk f) (h_g : POk g) (p : Pred) (h_p : p.ok) (io : Nat) (hio : f[io]? = some p) (st : St) (R : Out × St) (fb : Bool)
    (H : ∀ (e5 : E) (T : List (Nat × E)) (X : List (Nat × List V)) (ht5 : e5.Tame) , evK gS fi44 c44_53 { ps := [(0, .val (.slice (encPreds f))), (1, .val (.slice (encPreds g))), (4, .val (.bool false)), (5, e5), (6, .val (.int .i64 (io : Nat))), (7, .val (.bool fb)), (8, .val (.int .i64 (g.length : Nat)))], ts := T, lc := X } st (.blk 3 (.seq c44_60 (.loop c44_28 (.blk 2 (.seq c44_61 .nil))))) = some R) :
    ∀ (n k : Nat) (b : Bool) (e5 : E) (T : List (Nat × E)) (X : List (Nat × List V)) (ht5 : e5.Tame) , k ≤ g.length → g.length - k = n → fb = (b || fcov1 p (g.drop k)) →
    evK gS fi44 c44_42 { ps := [(0, .val (.slice (encPreds f))), (1, .val (.slice (encPreds g))), (4, .val (.bool false)), (5, e5), (6, .val (.int .i64 (io : Nat))), (7, .val (.bool b)), (8, .val (.int .i64 (k : Nat)))], ts := T, lc := X } st (.blk 4 (.seq c44_53 (.blk 3 (.seq c44_60 (.loop c44_28 (.blk 2 (.seq c44_61 .nil))))))) = some R := by
  intro n
  have hm : fi44.marks = [] := rfl
  have hl : fi44.locals = [] := rfl
  have hr : fi44.results = [.tmp 4] := rfl
  have hgl := h_g.1
  have hfl := h_f.1
  have hpo1 := h_p.1
  have hpo2 := h_p.2
  have hil : io < f.length := (List.getElem?_eq_some_iff.1 hio).1
  have hie : f[io]'hil = p := (List.getElem?_eq_some_iff.1 hio).2
  induction n with
  | zero =>
    intro k b e5 T X ht5  hk hn hb
    obtain rfl : k = g.length := by omega
    refine evK_loop c44_43 _ st _ _ rfl ?_
    rw [List.drop_length] at hb
    have hb2 : b = fb := by rw [hb]; simp [fcov1]
    subst hb2
    simp (config := { contextual := true, maxSteps := 10000000, maxDischargeDepth := 6 }) [ht5,  -Int.not_le, -Int.not_lt, -Nat.not_le, -Nat.not_lt, ty3, ty4, ty9, ty27, ty49, hm, hl, hr, k24, x24, fi24_eq, p24, k28, x28, fi28_eq, p28, E44, q44_51, e44_23, n44_6, n44_42, n44_27]
    all_goals first | done | (refine H _ _ _ ?_ <;> simp [ht5, ]; done) | skip
    all_goals (refine H _ _ _ ?_ <;> simp (config := { contextual := true, maxSteps := 10000000, maxDischargeDepth := 6 }) [ht5, ])
  | succ n ih =>
    intro k b e5 T X ht5  hk hn hb
    obtain ⟨x, hx⟩ : ∃ x, g[k]? = some x := ⟨g[k]'(by omega), List.getElem?_eq_getElem (by omega)⟩
    have hd := drop_get hx
    have hlt : (k : Int) < (g.length : Int) := by omega
    have hlt2 : k < g.length := by omega
    have hxe : g[k]'hlt2 = x := by rw [List.getElem?_eq_getElem hlt2] at hx; exact Option.some.inj hx
    have hw : IntKind.wrap .i64 ((k : Int) + 1) = ((k + 1 : Nat) : Int) := by rw [wrap64 (by omega) (by omega)]; omega
    have hxo := (h_g.get hx).1
    have hxs := (h_g.get hx).2
    have hcast : ((k + 1 : Nat) : Int) = (k : Int) + 1 := by omega
    rw [hd] at hb
    have hc : fcov1 p (x :: g.drop (k + 1)) = (decide (x.name = p.name) && pimplies x p || fcov1 p (g.drop (k + 1))) := rfl
    rw [hc] at hb
    have IH := fun b' hb' e5 T X ht5  => ih (k + 1) b' e5 T X ht5  (by omega) (by omega) hb'
    refine evK_loop c44_43 _ st _ _ rfl ?_
    cases b with
    | true =>
      have IHc := IH true (by rw [hb]; rfl)
      simp (config := { contextual := true, maxSteps := 10000000, maxDischargeDepth := 6 }) [-Int.natCast_add, hio, hil, hie, hx, hxe, hlt, hlt2, hw, hxo, hxs, hpo1, hpo2, IHc, ht5,  -Int.not_le, -Int.not_lt, -Nat.not_le, -Nat.not_lt, ty3, ty4, ty9, ty27, ty49, hm, hl, hr, k24, x24, fi24_eq, p24, k28, x28, fi28_eq, p28, E44, q44_51, e44_23, n44_6, n44_42, n44_27]
    | false =>
      by_cases hne : x.name = p.name
      · generalize hpi : pimplies x p = t at hb
        have IHc := IH t (by rw [hb]; simp [hne])
        have hpi2 : pimplies ⟨p.name, x.test, x.v, x.w, x.set⟩ p = t := by rw [← hne]; exact hpi
        simp (config := { contextual := true, maxSteps := 10000000, maxDischargeDepth := 6 }) [-Int.natCast_add, hio, hil, hie, hx, hxe, hlt, hlt2, hw, hxo, hxs, hpo1, hpo2, IHc, hne, hpi2, ht5,  -Int.not_le, -Int.not_lt, -Nat.not_le, -Nat.not_lt, ty3, ty4, ty9, ty27, ty49, hm, hl, hr, k24, x24, fi24_eq, p24, k28, x28, fi28_eq, p28, E44, q44_51, e44_23, n44_6, n44_42, n44_27]
      · have IHc := IH false (by rw [hb]; simp [hne])
        simp (config := { contextual := true, maxSteps := 10000000, maxDischargeDepth := 6 }) [-Int.natCast_add, hio, hil, hie, hx, hxe, hlt, hlt2, hw, hxo, hxs, hpo1, hpo2, IHc, hne, ht5,  -Int.not_le, -Int.not_lt, -Nat.not_le, -Nat.not_lt, ty3, ty4, ty9, ty27, ty49, hm, hl, hr, k24, x24, fi24_eq, p24, k28, x28, fi28_eq, p28, E44, q44_51, e44_23, n44_6, n44_42, n44_27]
set_option maxHeartbeats 8000000 in
theorem L44_27 (f g : List Pred) (h_f : POk f) (h_g : POk g) (st : St) : ∀ (n io : Nat) (e5 e7 e8 : E) (T : List (Nat × E)) (X : List (Nat × List V)) (ht5 : e5.Tame) (ht7 : e7.Tame) (ht8 : e8.Tame), io ≤ f.length → f.length - io = n →
    evK gS fi44 c44_27 { ps := [(0, .val (.slice (encPreds f))), (1, .val (.slice (encPreds g))), (4, .val (.bool false)), (5, e5), (6, .val (.int .i64 (io : Nat))), (7, e7), (8, e8)], ts := T, lc := X } st (.blk 2 (.seq c44_61 .nil)) = some (.ret (.bool ((f.drop io).all fun p => fcov1 p g)) none, st) := by
  intro n
  have hm : fi44.marks = [] := rfl
  have hl : fi44.locals = [] := rfl
  have hr : fi44.results = [.tmp 4] := rfl
  have hgl := h_g.1
  have hfl := h_f.1
  induction n with
  | zero =>
    intro io e5 e7 e8 T X ht5 ht7 ht8 hk hn
    obtain rfl : io = f.length := by omega
    refine evK_loop c44_28 _ st _ _ rfl ?_
    simp (config := { contextual := true, maxSteps := 10000000, maxDischargeDepth := 6 }) [ht5, ht7, ht8, -Int.not_le, -Int.not_lt, -Nat.not_le, -Nat.not_lt, ty3, ty4, ty9, ty27, ty49, hm, hl, hr, k24, x24, fi24_eq, p24, k28, x28, fi28_eq, p28, E44, q44_51, e44_53, e44_23, n44_6, n44_42, n44_27]
  | succ n ih =>
    intro io e5 e7 e8 T X ht5 ht7 ht8 hk hn
    obtain ⟨x, hx⟩ : ∃ x, f[io]? = some x := ⟨f[io]'(by omega), List.getElem?_eq_getElem (by omega)⟩
    have hd := drop_get hx
    have hlt : (io : Int) < (f.length : Int) := by omega
    have hlt2 : io < f.length := by omega
    have hxe : f[io]'hlt2 = x := by rw [List.getElem?_eq_getElem hlt2] at hx; exact Option.some.inj hx
    have hw : IntKind.wrap .i64 ((io : Int) + 1) = ((io + 1 : Nat) : Int) := by rw [wrap64 (by omega) (by omega)]; omega
    have hxo := (h_f.get hx).1
    have hxs := (h_f.get hx).2
    have IH := fun e5 e7 e8 T X ht5 ht7 ht8 => ih (io + 1) e5 e7 e8 T X ht5 ht7 ht8 (by omega) (by omega)
    refine evK_loop c44_28 _ st _ _ rfl ?_
    have II := fun H e5 T X ht5  => I44 f g h_f h_g x (h_f.get hx) io hx st (.ret (.bool ((f.drop io).all fun p => fcov1 p g)) none, st) (fcov1 x g) H g.length 0 false e5 T X ht5  (Nat.zero_le _) (by omega) rfl
    simp (config := { contextual := true, maxSteps := 10000000, maxDischargeDepth := 6 }) [-Int.natCast_add, hx, hxe, hlt, hlt2, hxo, hxs, ht5, ht7, ht8, -Int.not_le, -Int.not_lt, -Nat.not_le, -Nat.not_lt, ty3, ty4, ty9, ty27, ty49, hm, hl, hr, k24, x24, fi24_eq, p24, k28, x28, fi28_eq, p28, E44, q44_51, e44_53, e44_23, n44_6, n44_42, n44_27]
    refine II ?_ _ _ _ ?_
    · intro e5 T X ht5 
      rw [hd, List.all_cons]
      cases hb : fcov1 x g with
      | true => simp (config := { contextual := true, maxSteps := 10000000, maxDischargeDepth := 6 }) [-Int.natCast_add, IH, hw, hb, ht5,  -Int.not_le, -Int.not_lt, -Nat.not_le, -Nat.not_lt, ty3, ty4, ty9, ty27, ty49, hm, hl, hr, k24, x24, fi24_eq, p24, k28, x28, fi28_eq, p28, E44, q44_51, e44_53, e44_23, n44_6, n44_42, n44_27]
      | false => simp (config := { contextual := true, maxSteps := 10000000, maxDischargeDepth := 6 }) [-Int.natCast_add, IH, hw, hb, ht5,  -Int.not_le, -Int.not_lt, -Nat.not_le, -Nat.not_lt, ty3, ty4, ty9, ty27, ty49, hm, hl, hr, k24, x24, fi24_eq, p24, k28, x28, fi28_eq, p28, E44, q44_51, e44_53, e44_23, n44_6, n44_42, n44_27]
    all_goals simp (config := { contextual := true, maxSteps := 10000000, maxDischargeDepth := 6 }) [ht5, ht7, ht8,]
set_option maxHeartbeats 4000000 in
theorem T43_25 (f : List Pred) (g : List Pred) (h_f : POk f) (h_g : POk g) (st : St) (e6 e8 e9 e11 e12 e13 e14 e21 e22 e23 e27 e28 e29 : E) (T : List (Nat × E)) (X : List (Nat × List V)) (ht6 : e6.Tame) (ht8 : e8.Tame) (ht9 : e9.Tame) (ht11 : e11.Tame) (ht12 : e12.Tame) (ht13 : e13.Tame) (ht14 : e14.Tame) (ht21 : e21.Tame) (ht22 : e22.Tame) (ht23 : e23.Tame) (ht27 : e27.Tame) (ht28 : e28.Tame) (ht29 : e29.Tame)  :
    evK gS fi43 c43_25 { ps := [(0, .val (.slice (encPreds f))), (1, .val (.slice (encPreds g))), (4, .val (.bool false)), (6, e6), (8, e8), (9, e9), (11, e11), (12, e12), (13, e13), (14, e14), (21, e21), (22, e22), (23, e23), (27, e27), (28, e28), (29, e29)], ts := T, lc := X } st .nil = some (.ret (.bool (f.all fun p => fcov1 p g)) none, st) := by
  have hm : fi43.marks = [] := rfl
  have hl : fi43.locals = [6, 8, 11] := rfl
  have hr : fi43.results = [.tmp 4] := rfl
  have L0 := fun e0 e6 e8 e9 e11 e12 e13 e14 e27 e28 e29 T X ht0 ht6 ht8 ht9 ht11 ht12 ht13 ht14 ht27 ht28 ht29 => L43_29 f g h_f h_g st f.length 0 e0 e6 e8 e9 e11 e12 e13 e14 e27 e28 e29 T X ht0 ht6 ht8 ht9 ht11 ht12 ht13 ht14 ht27 ht28 ht29 (Nat.zero_le _) rfl
  simp only [show ((0 : Nat) : Int) = 0 from rfl, List.drop_zero] at L0
  have hfl := h_f.1
  have hgl := h_g.1
  simp (config := { contextual := true, maxSteps := 10000000, maxDischargeDepth := 6 }) [-Int.not_le, -Int.not_lt, -Nat.not_le, -Nat.not_lt, ty3, ty4, ty9, ty27, ty49, hm, hl, hr, k23, k27, E43, e43_59, e43_25, n43_6, n43_46, n43_29, L0, ht6, ht8, ht9, ht11, ht12, ht13, ht14, ht21, ht22, ht23, ht27, ht28, ht29]
  all_goals first | done | grind | omega | (trace_state; fail)
set_option maxHeartbeats 4000000 in
theorem L43_6 (f : List Pred) (g : List Pred) (h_f : POk f) (h_g : POk g) (st : St) : ∀ (n i : Nat) (j : Int)  (e6 e8 e9 e11 e21 e22 e23 e27 e28 e29 : E) (T : List (Nat × E)) (X : List (Nat × List V)) (ht6 : e6.Tame) (ht8 : e8.Tame) (ht9 : e9.Tame) (ht11 : e11.Tame) (ht21 : e21.Tame) (ht22 : e22.Tame) (ht23 : e23.Tame) (ht27 : e27.Tame) (ht28 : e28.Tame) (ht29 : e29.Tame) , j = (i : Int) → i ≤ (g).length → (g).length - i = n →
    evK gS fi43 c43_6 { ps := [(0, .val (.slice (encPreds f))), (1, .val (.slice (encPreds g))), (4, .val (.bool false)), (6, e6), (8, e8), (9, e9), (11, e11), (12, .val (.slice (encPreds g))), (13, .val (.int .i64 g.length)), (14, .val (.int .i64 j)), (21, e21), (22, e22), (23, e23), (27, e27), (28, e28), (29, e29)], ts := T, lc := X } st (.blk 0 (.seq c43_25 .nil)) = some ((.ret (.bool ((g.drop i).any pvoid || f.all fun p => fcov1 p g)) none), st) := by
  intro n
  have hm : fi43.marks = [] := rfl
  have hl : fi43.locals = [6, 8, 11] := rfl
  have hr : fi43.results = [.tmp 4] := rfl
  have hgl := h_g.1
  have hTT := (fun e6 e8 e9 e11 e12 e13 e14 e21 e22 e23 e27 e28 e29 T X ht6 ht8 ht9 ht11 ht12 ht13 ht14 ht21 ht22 ht23 ht27 ht28 ht29 => T43_25 f g h_f h_g st e6 e8 e9 e11 e12 e13 e14 e21 e22 e23 e27 e28 e29 T X ht6 ht8 ht9 ht11 ht12 ht13 ht14 ht21 ht22 ht23 ht27 ht28 ht29)
  induction n with
  | zero =>
    intro i j  e6 e8 e9 e11 e21 e22 e23 e27 e28 e29 T X ht6 ht8 ht9 ht11 ht21 ht22 ht23 ht27 ht28 ht29  hj hi hn
    obtain rfl : i = (g).length := by omega
    subst hj
    refine evK_loop c43_7 _ st _ _ rfl ?_
    simp (config := { contextual := true, maxSteps := 10000000, maxDischargeDepth := 6 }) [-Int.not_le, -Int.not_lt, -Nat.not_le, -Nat.not_lt, ty3, ty4, ty9, ty27, ty49, hm, hl, hr, k23, k27, E43, e43_59, n43_6, n43_46, n43_29, hTT, ht6, ht8, ht9, ht11, ht21, ht22, ht23, ht27, ht28, ht29]
    all_goals first | done | grind | omega | (trace_state; fail)
  | succ n ih =>
    intro i j  e6 e8 e9 e11 e21 e22 e23 e27 e28 e29 T X ht6 ht8 ht9 ht11 ht21 ht22 ht23 ht27 ht28 ht29  hj hi hn
    subst hj
    obtain ⟨x, hx⟩ : ∃ x, (g)[i]? = some x := ⟨(g)[i]'(by omega), List.getElem?_eq_getElem (by omega)⟩
    have hd := drop_get hx
    have hlt : (i : Int) < ((g).length : Int) := by omega
    have hlt2 : i < (g).length := by omega
    have hxe : (g)[i]'hlt2 = x := by rw [List.getElem?_eq_getElem hlt2] at hx; exact Option.some.inj hx
    have hw : IntKind.wrap .i64 ((i : Int) + 1) = (i : Int) + 1 := wrap64 (by omega) (by omega)
    have hpo := h_g.get hx
    have hxo := hpo.1
    have hxs := hpo.2
    have IH := fun e6 e8 e9 e11 e21 e22 e23 e27 e28 e29 T X ht6 ht8 ht9 ht11 ht21 ht22 ht23 ht27 ht28 ht29 => ih (i + 1) ((i : Int) + 1) e6 e8 e9 e11 e21 e22 e23 e27 e28 e29 T X ht6 ht8 ht9 ht11 ht21 ht22 ht23 ht27 ht28 ht29 rfl (by omega) (by omega)
    refine evK_loop c43_7 _ st _ _ rfl ?_
    simp (config := { contextual := true, maxSteps := 10000000, maxDischargeDepth := 6 }) [-Int.not_le, -Int.not_lt, -Nat.not_le, -Nat.not_lt, ty3, ty4, ty9, ty27, ty49, hm, hl, hr, k23, k27, E43, e43_59, n43_6, n43_46, n43_29, hTT, ht6, ht8, ht9, ht11, ht21, ht22, ht23, ht27, ht28, ht29, hx, hxe, hd, hlt, hlt2, hw, IH, hxo, hxs]
    all_goals first | done | grind | omega | (trace_state; fail)
set_option maxHeartbeats 4000000 in
theorem c43 (f : List Pred) (g : List Pred) (h_f : POk f) (h_g : POk g) (st : St) : EvF gS 43 [.slice (encPreds f), .slice (encPreds g)] st = some (.ret (.bool (fcovers f g)) none, st) := by
  refine EvF_start fi43_eq (fun x h => by cases h) m43 ?_
  rw [st43]
  have hm : fi43.marks = [] := rfl
  have hl : fi43.locals = [6, 8, 11] := rfl
  have hr : fi43.results = [.tmp 4] := rfl
  have hgl := h_g.1
  simp (config := { contextual := true, maxSteps := 10000000, maxDischargeDepth := 6 }) [-Int.not_le, -Int.not_lt, -Nat.not_le, -Nat.not_lt, ty3, ty4, ty9, ty27, ty49, hm, hl, hr, k23, k27, E43, e43_59, n43_6, n43_46, n43_29, (fun e6 e8 e9 e11 e21 e22 e23 e27 e28 e29 T X ht6 ht8 ht9 ht11 ht21 ht22 ht23 ht27 ht28 ht29 => L43_6 f g h_f h_g st _ 0 0  e6 e8 e9 e11 e21 e22 e23 e27 e28 e29 T X ht6 ht8 ht9 ht11 ht21 ht22 ht23 ht27 ht28 ht29 rfl (Nat.zero_le _) rfl), hgl]
  all_goals try simp (config := { contextual := true }) [-Int.not_le, -Int.not_lt, -Nat.not_le, -Nat.not_lt, fcovers]
  all_goals first | done | grind | omega | (trace_state; fail)
theorem k43 (f : List Pred) (g : List Pred) (h_f : POk f) (h_g : POk g) (fr : Fr) (st : St) : callStep gS (EvF gS) 43 [.slice (encPreds f), .slice (encPreds g)] fr st = some (.ok (retE none (.bool (fcovers f g))) fr st) :=
  call_pure rfl fi43_eq rfl (fun st => c43 f g h_f h_g st) (by simp)
set_option maxHeartbeats 4000000 in
theorem T44_23 (f : List Pred) (g : List Pred) (h_f : POk f) (h_g : POk g) (st : St) (e5 e6 e7 e8 : E) (T : List (Nat × E)) (X : List (Nat × List V)) (ht5 : e5.Tame) (ht6 : e6.Tame) (ht7 : e7.Tame) (ht8 : e8.Tame)  :
    evK gS fi44 c44_23 { ps := [(0, .val (.slice (encPreds f))), (1, .val (.slice (encPreds g))), (4, .val (.bool false)), (5, e5), (6, e6), (7, e7), (8, e8)], ts := T, lc := X } st .nil = some (.ret (.bool (f.all fun p => fcov1 p g)) none, st) := by
  have hm : fi44.marks = [] := rfl
  have hl : fi44.locals = [] := rfl
  have hr : fi44.results = [.tmp 4] := rfl
  have L0 := fun e5 e7 e8 T X ht5 ht7 ht8 => L44_27 f g h_f h_g st f.length 0 e5 e7 e8 T X ht5 ht7 ht8 (Nat.zero_le _) rfl
  simp only [show ((0 : Nat) : Int) = 0 from rfl, List.drop_zero] at L0
  have hfl := h_f.1
  have hgl := h_g.1
  simp (config := { contextual := true, maxSteps := 10000000, maxDischargeDepth := 6 }) [-Int.not_le, -Int.not_lt, -Nat.not_le, -Nat.not_lt, ty3, ty4, ty9, ty27, ty49, hm, hl, hr, k24, x24, fi24_eq, p24, k28, x28, fi28_eq, p28, E44, q44_51, e44_53, e44_23, n44_6, n44_42, n44_27, L0, ht5, ht6, ht7, ht8]
  all_goals first | done | grind | omega | (trace_state; fail)
set_option maxHeartbeats 4000000 in
theorem L44_6 (f : List Pred) (g : List Pred) (h_f : POk f) (h_g : POk g) (st : St) : ∀ (n i : Nat) (j : Int)  (e6 e7 e8 : E) (T : List (Nat × E)) (X : List (Nat × List V)) (ht6 : e6.Tame) (ht7 : e7.Tame) (ht8 : e8.Tame) , j = (i : Int) → i ≤ (g).length → (g).length - i = n →
    evK gS fi44 c44_6 { ps := [(0, .val (.slice (encPreds f))), (1, .val (.slice (encPreds g))), (4, .val (.bool false)), (5, .val (.int .i64 j)), (6, e6), (7, e7), (8, e8)], ts := T, lc := X } st (.blk 0 (.seq c44_23 .nil)) = some ((.ret (.bool ((g.drop i).any pvoid || f.all fun p => fcov1 p g)) none), st) := by
  intro n
  have hm : fi44.marks = [] := rfl
  have hl : fi44.locals = [] := rfl
  have hr : fi44.results = [.tmp 4] := rfl
  have hgl := h_g.1
  have hTT := (fun e5 e6 e7 e8 T X ht5 ht6 ht7 ht8 => T44_23 f g h_f h_g st e5 e6 e7 e8 T X ht5 ht6 ht7 ht8)
  induction n with
  | zero =>
    intro i j  e6 e7 e8 T X ht6 ht7 ht8  hj hi hn
    obtain rfl : i = (g).length := by omega
    subst hj
    refine evK_loop c44_7 _ st _ _ rfl ?_
    simp (config := { contextual := true, maxSteps := 10000000, maxDischargeDepth := 6 }) [-Int.not_le, -Int.not_lt, -Nat.not_le, -Nat.not_lt, ty3, ty4, ty9, ty27, ty49, hm, hl, hr, k24, x24, fi24_eq, p24, k28, x28, fi28_eq, p28, E44, q44_51, e44_53, n44_6, n44_42, n44_27, hTT, ht6, ht7, ht8]
    all_goals first | done | grind | omega | (trace_state; fail)
  | succ n ih =>
    intro i j  e6 e7 e8 T X ht6 ht7 ht8  hj hi hn
    subst hj
    obtain ⟨x, hx⟩ : ∃ x, (g)[i]? = some x := ⟨(g)[i]'(by omega), List.getElem?_eq_getElem (by omega)⟩
    have hd := drop_get hx
    have hlt : (i : Int) < ((g).length : Int) := by omega
    have hlt2 : i < (g).length := by omega
    have hxe : (g)[i]'hlt2 = x := by rw [List.getElem?_eq_getElem hlt2] at hx; exact Option.some.inj hx
    have hw : IntKind.wrap .i64 ((i : Int) + 1) = (i : Int) + 1 := wrap64 (by omega) (by omega)
    have hpo := h_g.get hx
    have hxo := hpo.1
    have hxs := hpo.2
    have IH := fun e6 e7 e8 T X ht6 ht7 ht8 => ih (i + 1) ((i : Int) + 1) e6 e7 e8 T X ht6 ht7 ht8 rfl (by omega) (by omega)
    refine evK_loop c44_7 _ st _ _ rfl ?_
    simp (config := { contextual := true, maxSteps := 10000000, maxDischargeDepth := 6 }) [-Int.not_le, -Int.not_lt, -Nat.not_le, -Nat.not_lt, ty3, ty4, ty9, ty27, ty49, hm, hl, hr, k24, x24, fi24_eq, p24, k28, x28, fi28_eq, p28, E44, q44_51, e44_53, n44_6, n44_42, n44_27, hTT, ht6, ht7, ht8, hx, hxe, hd, hlt, hlt2, hw, IH, hxo, hxs]
    all_goals first | done | grind | omega | (trace_state; fail)
set_option maxHeartbeats 4000000 in
theorem c44 (f : List Pred) (g : List Pred) (h_f : POk f) (h_g : POk g) (st : St) : EvF gS 44 [.slice (encPreds f), .slice (encPreds g)] st = some (.ret (.bool (fcovers f g)) none, st) := by
  refine EvF_start fi44_eq (fun x h => by cases h) m44 ?_
  rw [st44]
  have hm : fi44.marks = [] := rfl
  have hl : fi44.locals = [] := rfl
  have hr : fi44.results = [.tmp 4] := rfl
  have hgl := h_g.1
  simp (config := { contextual := true, maxSteps := 10000000, maxDischargeDepth := 6 }) [-Int.not_le, -Int.not_lt, -Nat.not_le, -Nat.not_lt, ty3, ty4, ty9, ty27, ty49, hm, hl, hr, k24, x24, fi24_eq, p24, k28, x28, fi28_eq, p28, E44, q44_51, e44_53, n44_6, n44_42, n44_27, (fun e6 e7 e8 T X ht6 ht7 ht8 => L44_6 f g h_f h_g st _ 0 0  e6 e7 e8 T X ht6 ht7 ht8 rfl (Nat.zero_le _) rfl), hgl]
  all_goals try simp (config := { contextual := true }) [-Int.not_le, -Int.not_lt, -Nat.not_le, -Nat.not_lt, fcovers]
  all_goals first | done | grind | omega | (trace_state; fail)
theorem k44 (f : List Pred) (g : List Pred) (h_f : POk f) (h_g : POk g) (fr : Fr) (st : St) : callStep gS (EvF gS) 44 [.slice (encPreds f), .slice (encPreds g)] fr st = some (.ok (retE none (.bool (fcovers f g))) fr st) :=
  call_pure rfl fi44_eq rfl (fun st => c44 f g h_f h_g st) (by simp)
theorem x44 : gS.ext 44 = none := rfl
theorem p44 : fi44.pure = true := rfl
end
end Go.Proofs.Ytclpbfkbpcjejaa
namespace Go.Ab
open Go
set_option linter.unusedVariables false
set_option linter.unusedSimpArgs false
set_option linter.unnecessarySimpa false
/-- A state with one new object, nothing else said of it. -/
theorem nw_obj (st : St) (m : Nat) (cs : List V) : St.obj (nw st m cs) (st.objs.length + m) = some cs := gr_obj st m cs
theorem nw_set {st : St} (h : st.wp ≤ st.objs.length) (m : Nat) (cs cs' : List V) : St.set (nw st m cs) (st.objs.length + m) cs' = some (nw st m cs') := by
  unfold St.set
  rw [if_pos (by rw [gr_wp]; omega)]
  unfold nw
  simp only [Option.some.injEq, St.mk.injEq, and_true]
  rw [List.set_append_right _ _ (by omega), Nat.add_sub_cancel_left, List.set_append_right _ _ (by simp), List.length_replicate, Nat.sub_self]
  rfl
theorem nw_dead (st : St) (m : Nat) : nw st m [] = dd st (m + 1) := by
  unfold nw dd
  rw [List.replicate_succ']
theorem nw_kill {st : St} (h : st.wp ≤ st.objs.length) (m : Nat) (cs : List V) : St.set (nw st m cs) (st.objs.length + m) [] = some (dd st (m + 1)) := by
  rw [nw_set h, nw_dead]
theorem newRef_dd' (st : St) (fr : Fr) (m k len : Nat) (cs : List V) : newRef fr (dd st m) k len cs = .ok (.val (.sref false k (st.objs.length + m) 0 len)) fr (nw st m cs) := by
  unfold newRef
  rw [dd_len]
  unfold nw dd
  simp
theorem newRef_0 (st : St) (fr : Fr) (k len : Nat) (cs : List V) : newRef fr st k len cs = .ok (.val (.sref false k st.objs.length 0 len)) fr (nw st 0 cs) := by
  unfold newRef nw
  simp
variable {α : Type}
theorem row_len (c : α → List V) (k : Nat) (hc : ∀ x, (c x).length = k) : ∀ l : List α, (l.flatMap c).length = l.length * k
  | [] => by simp
  | x :: r => by rw [List.flatMap_cons, List.length_append, hc, row_len c k hc r, List.length_cons, Nat.succ_mul]; omega
theorem row_get (c : α → List V) (k : Nat) (hc : ∀ x, (c x).length = k) {l : List α} {i j : Nat} {x : α} (hx : l[i]? = some x) (hj : j < k) : (l.flatMap c)[i * k + j]? = (c x)[j]? := by
  have hs : l = l.take i ++ x :: l.drop (i + 1) := by
    have h1 := List.take_append_drop i l
    rw [drop_get hx] at h1
    exact h1.symm
  have hl : (l.take i).length = i := by
    have := (List.getElem?_eq_some_iff.1 hx).1
    simp; omega
  rw [hs, List.flatMap_append, List.getElem?_append_right (by rw [row_len c k hc, hl]; omega), row_len c k hc, hl, Nat.add_sub_cancel_left, List.flatMap_cons, List.getElem?_append_left (by rw [hc]; exact hj)]
/-- One place of one of them. -/
theorem row_splice (c : α → List V) (k : Nat) (hc : ∀ x, (c x).length = k) {l : List α} {i j : Nat} {x y : α} {vs : List V} (hx : l[i]? = some x) (hs : splice (c x) j vs = some (c y)) :
    splice (l.flatMap c) (i * k + j) vs = some ((l.set i y).flatMap c) := by
  have hil := (List.getElem?_eq_some_iff.1 hx).1
  have hsl : l = l.take i ++ x :: l.drop (i + 1) := by
    have h1 := List.take_append_drop i l
    rw [drop_get hx] at h1
    exact h1.symm
  have hl : (l.take i).length = i := by simp; omega
  have hset : l.set i y = l.take i ++ y :: l.drop (i + 1) := by
    conv => lhs; rw [hsl]
    rw [List.set_append_right _ _ (by rw [hl]; omega), hl, Nat.sub_self]
    rfl
  have hA : ((l.take i).flatMap c).length = i * k := by rw [row_len c k hc, hl]
  unfold splice at hs ⊢
  split at hs
  · rename_i hle
    have hs' := Option.some.inj hs
    rw [hc] at hle
    rw [hset, List.flatMap_append, List.flatMap_cons, ← hs']
    conv => lhs; rw [hsl]
    rw [List.flatMap_append, List.flatMap_cons]
    generalize (l.take i).flatMap c = A at hA ⊢
    generalize (l.drop (i + 1)).flatMap c = C
    have hB := hc x
    generalize c x = B at hB hs' ⊢
    rw [if_pos (by simp only [List.length_append]; omega)]
    congr 1
    rw [← hA, List.take_append, List.take_of_length_le (by omega), Nat.add_sub_cancel_left, List.take_append_of_le_length (by omega), List.drop_append, List.drop_of_length_le (by omega), show A.length + j + vs.length - A.length = j + vs.length by omega, List.drop_append_of_le_length (by omega)]
    simp [List.append_assoc]
  · cases hs
theorem row_one (c : α → List V) (hc : ∀ x, (c x).all V.one = true) : ∀ l : List α, (l.flatMap c).all V.one = true
  | [] => rfl
  | x :: r => by rw [List.flatMap_cons, List.all_append, hc x, row_one c hc r]; rfl
theorem flats_append : ∀ (a b : List V), flats (a ++ b) = (flats a && flats b)
  | [], _ => by simp [flats]
  | v :: a, b => by simp only [List.cons_append, flats, flats_append a b, Bool.and_assoc]
theorem row_flats (c : α → List V) (hc : ∀ x, flats (c x) = true) : ∀ l : List α, flats (l.flatMap c) = true
  | [] => rfl
  | x :: r => by rw [List.flatMap_cons, flats_append, hc x, row_flats c hc r]; rfl
theorem row_strip (c d : α → List V) (hc : ∀ x, (c x).map V.strip1 = d x) : ∀ l : List α, (l.flatMap c).map V.strip1 = l.flatMap d
  | [] => rfl
  | x :: r => by rw [List.flatMap_cons, List.map_append, hc x, row_strip c d hc r, List.flatMap_cons]
/-- A row of elements is given up. -/
theorem frz_row {st st1 : St} (n id k : Nat) (hk : 0 < k) (c d : α → List V) (hc : ∀ x, (c x).length = k) (hd : ∀ x, (d x).length = k) (hcd : ∀ x, (c x).map V.strip1 = d x) (h1 : ∀ x, (d x).all V.one = true) (hf : ∀ x, flats (d x) = true)
    (l : List α) (hl : l ≠ []) (ho : St.obj st id = some (l.flatMap c)) (hs : St.set st id [] = some st1) : frz (n + 1) st (.sref false k id 0 l.length) = some (.slice (chunk (Nat.blt 1 k) k l.length (l.flatMap d)), st1) := by
  have hne : ¬ l.length = 0 := by simpa using hl
  unfold frz
  simp only [hne, if_false, ho, hs, row_len c k hc, List.drop_zero, Nat.zero_add, Nat.le_refl, and_true, hk, if_true]
  rw [List.take_of_length_le (by rw [row_len c k hc]; omega), row_strip c d hcd, frzL_flat _ _ _ (row_flats d hf l)]
  simp only [row_len d k hd, row_one d h1 l, and_self, if_true]
/-- A test's cells, its values in room of their own. -/
def Pred.cellsO (q : Pred × Bool) : List V := [.str q.1.name, .int .i64 q.1.test, .int .i64 q.1.v.kind, .int .i64 q.1.v.n, .float .f64 q.1.v.x, .str q.1.v.s, .bool q.1.v.b, .int .i64 q.1.w.kind, .int .i64 q.1.w.n, .float .f64 q.1.w.x, .str q.1.w.s, .bool q.1.w.b, if q.2 then .osl 5 (encVals q.1.set) else .slice (encVals q.1.set)]
theorem cellsO_len (q : Pred × Bool) : (Pred.cellsO q).length = 13 := rfl
theorem cells_len (q : Pred × Bool) : (Pred.cells q.1).length = 13 := rfl
theorem cellsO_strip (q : Pred × Bool) : (Pred.cellsO q).map V.strip1 = Pred.cells q.1 := by
  obtain ⟨p, b⟩ := q
  cases b <;> rfl
theorem cells_one (q : Pred × Bool) : (Pred.cells q.1).all V.one = true := rfl
theorem cells_flats (q : Pred × Bool) : flats (Pred.cells q.1) = true := by simp [flats, V.flat]
theorem chunk_preds : ∀ (l : List (Pred × Bool)), chunk true 13 l.length (l.flatMap fun q => Pred.cells q.1) = encPreds (l.map (·.1))
  | [] => rfl
  | x :: r => by
    rw [List.length_cons, chunk, List.flatMap_cons, List.take_left' (cells_len x), List.drop_left' (cells_len x), chunk_preds r]; rfl
/-- A call of a function of plain values, whatever it lays aside. -/
theorem call_pure' {g : G} {f : Nat} {args : List V} {fr : Fr} {st : St} {fi : FI} {v : V} {k : Option Nat} (hx : g.ext f = none) (hf : g.fn f = some fi) (hp : fi.pure = true) (ha : flats args = true)
    (h : ∃ st', EvF g f args ⟨[], 0⟩ = some (.ret v k, st')) (hv : v.flat = true) : callStep g (EvF g) f args fr st = some (.ok (retE k v) fr st) := by
  obtain ⟨st', h⟩ := h
  unfold callStep
  simp only [hx, hf, hp, if_true, ha, h, hv]
end Go.Ab
namespace Go.Proofs.Ytclpbfkbpcjejaa
open Go Go.Ab
set_option linter.unusedVariables false
set_option linter.unusedSimpArgs false
set_option linter.unnecessarySimpa false
set_option maxRecDepth 20000
noncomputable section
variable (fr : Fr) (st : St) (k : Kt)
def fi45 : FI := { body := codeOf Try.f45, ntmps := 24, results := [.tmp 2], pers := [0, 2, 3, 4, 8, 9], locals := [], pure := true, marks := [6, 1000000] }
theorem fi45_eq : gS.fn 45 = some fi45 := by kernel_rfl
theorem st45 (a0 : V) : startFr fi45 [a0] = { ps := [(0, .val a0), (2, .any), (3, .any), (4, .any), (8, .any), (9, .any)], ts := [], lc := [] } := rfl
def b45 : Code := mini (codeOf Try.f45)
def c45_19 : Code := codeN b45 3275
def c45_17 : Code := .seq (codeN b45 2251) c45_19
def c45_20 : Code := codeN b45 971
def c45_15 : Code := .seq (.block 1 c45_17) c45_20
def c45_11 : Code := .seq (.cond (.tmp 10) .skip (.exit 0)) c45_15
def c45_9 : Code := .seq (codeN b45 139) c45_11
def c45_8 : Code := .loop c45_9
def c45_7 : Code := .block 0 c45_8
def c45_5 : Code := .seq (codeN b45 19) c45_7
def c45_21 : Code := .seq (codeN b45 23) .ret
def c45_4 : Code := .seq c45_5 c45_21
def c45_2 : Code := .seq (codeN b45 5) c45_4
def c45_0 : Code := .seq (codeN b45 2) c45_2
theorem E45 : (evK gS fi45 c45_19 fr st k = opsR gS fi45 [mv 12 3 49,
 mv 13 4 3,
 mv 14 3 49,
 mv 15 4 3,
 ixa 16 49 14 15 0,
 op1 17 (.fieldAddr 27 (.tmp 16) 4) 0,
 ld 18 25 17 25,
 op1 19 (.call { callee := (.builtin .append), args := #[(.const (.slice none 0 0)), (.tmp 18)], argTypes := #[25, 25] }) 25,
 ixa 20 49 12 13 0,
 op1 21 (.fieldAddr 27 (.tmp 20) 4) 0,
 sto 25 21 19] fr st k) ∧
 (evK gS fi45 c45_17 fr st k = opsR gS fi45 [mv 11 9 3,
 asn 4 11 3] fr st (.seq c45_19 k)) ∧
 (evK gS fi45 c45_20 fr st k = opsR gS fi45 [op1 22 (.binOp .add 3 (.tmp 9) (.const (.int .i64 1)) 3) 3,
 mv 9 22 3] fr st k) ∧
 evK gS fi45 c45_15 fr st k = evK gS fi45 c45_17 fr st (.blk 1 (.seq c45_20 k)) ∧
 evK gS fi45 c45_11 fr st k = condK gS fi45 (fr.op (.tmp 10)).bool? .skip (.exit 0) fr st (.seq c45_15 k) ∧
 evK gS fi45 c45_9 fr st k = opsR gS fi45 [bop 10 .lss 3 9 8 3 0] fr st (.seq c45_11 k) ∧
 evK gS fi45 c45_7 fr st k = evK gS fi45 c45_8 fr st (.blk 0 k) ∧
 (evK gS fi45 c45_5 fr st k = opsR gS fi45 [mv 7 3 49,
 len1 8 7 49 3,
 op1 9 (.move (.const (.int .i64 0))) 3] fr st (.seq c45_7 k)) ∧
 (evK gS fi45 c45_21 fr st k = opsR gS fi45 [mv 23 3 49,
 asn 2 23 49] fr st (.seq .ret k)) ∧
 evK gS fi45 c45_4 fr st k = evK gS fi45 c45_5 fr st (.seq c45_21 k) ∧
 (evK gS fi45 c45_2 fr st k = opsR gS fi45 [mv 5 0 49,
 op1 6 (.call { callee := (.builtin .append), args := #[(.const (.slice none 0 0)), (.tmp 5)], argTypes := #[49, 49] }) 49,
 asn 3 6 49] fr st (.seq c45_4 k)) ∧
 evK gS fi45 c45_0 fr st k = opsR gS fi45 [op1 2 (.assign (.const (.slice none 0 0))) 49] fr st (.seq c45_2 k) := ⟨evK_r 5 (by kernel_rfl), evK_rs 4 rfl (by kernel_rfl), evK_r 6 (by kernel_rfl), rfl, rfl, evK_rs 3 rfl (by kernel_rfl), rfl, evK_rs 2 rfl (by kernel_rfl), evK_rs 7 rfl (by kernel_rfl), rfl, evK_rs 1 rfl (by kernel_rfl), evK_rs 0 rfl (by kernel_rfl)⟩
theorem m45 : mini fi45.body = c45_0 := by kernel_rfl
theorem n45_8 (fr : Fr) (st : St) (k : Kt) : nextK gS fi45 (.loop c45_9 k) .normal fr st = evK gS fi45 c45_8 fr st k := rfl
theorem preds_cells (f : List Pred) : (encPreds f).flatMap V.cells = (f.map fun p => (p, false)).flatMap Pred.cellsO := by
  induction f with
  | nil => rfl
  | cons x r ih => simp only [encPreds, List.map_cons, List.flatMap_cons] at ih ⊢; rw [ih]; rfl
theorem map_fst (f : List Pred) : (f.map fun p => (p, false)).map (·.1) = f := by induction f with
  | nil => rfl
  | cons x r ih => simp only [List.map_cons, ih]
theorem sizes_vals (l : List Val) : sizesOk 5 (encVals l) = true := by
  induction l with
  | nil => rfl
  | cons x r ih => simp only [encVals, List.map_cons, sizesOk] at ih ⊢; rw [ih]; rfl
theorem sizes_preds (l : List Pred) : sizesOk 13 (encPreds l) = true := by
  induction l with
  | nil => rfl
  | cons x r ih => simp only [encPreds, List.map_cons, sizesOk] at ih ⊢; rw [ih]; rfl
/-- Of a size that may be copied. -/
def PSm (f : List Pred) : Prop := f.length ≤ 1000000 ∧ ∀ p ∈ f, p.name.length < 4611686018427387904 ∧ p.set.length * 48 ≤ 140737488355328
theorem PSm.ok {f : List Pred} (h : PSm f) : POk f := ⟨by have := h.1; omega, fun p hp => ⟨(h.2 p hp).1, by have := (h.2 p hp).2; omega⟩⟩
set_option maxHeartbeats 8000000 in
theorem L45_8 (f : List Pred) (h_f : PSm f) (hne : f ≠ []) (st : St) (hst : st.wp ≤ st.objs.length) : ∀ (n i : Nat) (l : List (Pred × Bool)) (e0 e4 : E) (T : List (Nat × E)) (X : List (Nat × List V)) (ht0 : e0.Tame) (ht4 : e4.Tame), l.map (·.1) = f → i ≤ f.length → f.length - i = n →
    evK gS fi45 c45_8 { ps := [(0, e0), (2, .own 0 []), (3, .val (.sref false 13 st.objs.length 0 f.length)), (4, e4), (8, .val (.int .i64 f.length)), (9, .val (.int .i64 i))], ts := T, lc := X } (nw st 0 (l.flatMap Pred.cellsO)) (.blk 0 (.seq c45_21 .nil)) = some (.ret (.slice (encPreds f)) none, dd st 1) := by
  intro n
  have hm : fi45.marks = [6, 1000000] := rfl
  have hl : fi45.locals = [] := rfl
  have hr : fi45.results = [.tmp 2] := rfl
  have hfl := h_f.1
  induction n with
  | zero =>
    intro i l e0 e4 T X ht0 ht4 hl hi hn
    obtain rfl : i = f.length := by omega
    have hll : l.length = f.length := by rw [← hl]; simp
    have hfz := frz_row (st := nw st 0 (l.flatMap Pred.cellsO)) 5 st.objs.length 13 (by omega) Pred.cellsO (fun q => Pred.cells q.1) cellsO_len cells_len cellsO_strip cells_one cells_flats l (by intro e; subst e; exact hne hl.symm) (nw_obj st 0 _) (nw_kill hst 0 _)
    rw [hll, show Nat.blt 1 13 = true from rfl, ← hll, chunk_preds, hl, hll] at hfz
    refine evK_loop c45_9 _ _ _ _ rfl ?_
    simp [ht0, ht4, hfz, -Int.not_le, -Int.not_lt, -Nat.not_le, -Nat.not_lt, ty3, ty25, ty27, ty49, hm, hl, hr, E45, n45_8]
  | succ n ih =>
    intro i l e0 e4 T X ht0 ht4 hl hi hn
    have hll : l.length = f.length := by rw [← hl]; simp
    obtain ⟨q, hq⟩ : ∃ q, l[i]? = some q := ⟨l[i]'(by omega), List.getElem?_eq_getElem (by omega)⟩
    have hlt : (i : Int) < (f.length : Int) := by omega
    have hlt2 : i < f.length := by omega
    have hw : IntKind.wrap .i64 ((i : Int) + 1) = ((i + 1 : Nat) : Int) := by rw [wrap64 (by omega) (by omega)]; omega
    have hqm : q.1 ∈ f := by rw [← hl]; exact List.mem_map.2 ⟨q, List.mem_of_getElem? hq, rfl⟩
    have hqs := (h_f.2 q.1 hqm).2
    have hqs2 : q.1.set.length ≤ 140737488355328 := by omega
    have hob := nw_obj st 0 (l.flatMap Pred.cellsO)
    have hget := row_get Pred.cellsO 13 cellsO_len hq (j := 12) (by omega)
    have hspl := row_splice Pred.cellsO 13 cellsO_len (j := 12) (y := (q.1, true)) (vs := [.osl 5 (encVals q.1.set)]) hq rfl
    have hset := nw_set hst 0 (l.flatMap Pred.cellsO) ((l.set i (q.1, true)).flatMap Pred.cellsO)
    have hl2 : (l.set i (q.1, true)).map (·.1) = f := by
      rw [List.map_set, hl]
      apply List.ext_getElem?
      intro j
      rw [List.getElem?_set]
      split
      · rename_i hj; subst hj
        rw [← hl, List.getElem?_map, hq]
        rfl
      · rfl
    have IH := fun e0 e4 T X ht0 ht4 => ih (i + 1) (l.set i (q.1, true)) e0 e4 T X ht0 ht4 hl2 (by omega) (by omega)
    rw [Nat.add_zero] at hob hset
    have hsz := sizes_vals q.1.set
    obtain ⟨p, b⟩ := q
    refine evK_loop c45_9 _ _ _ _ rfl ?_
    simp only [Pred.cellsO] at hget
    cases b with
    | true =>
      simp only [List.getElem?_cons_succ, List.getElem?_cons_zero, if_true] at hget
      simp [-Int.natCast_add, -St.obj, -St.set, -splice, ht0, ht4, hlt, hlt2, hw, hob, hget, hspl, hset, hqs, hqs2, hsz, IH, -Int.not_le, -Int.not_lt, -Nat.not_le, -Nat.not_lt, ty3, ty25, ty27, ty49, hm, hl, hr, E45, n45_8]
    | false =>
      simp only [List.getElem?_cons_succ, List.getElem?_cons_zero, Bool.false_eq_true, if_false] at hget
      simp [-Int.natCast_add, -St.obj, -St.set, -splice, ht0, ht4, hlt, hlt2, hw, hob, hget, hspl, hset, hqs, hqs2, hsz, IH, -Int.not_le, -Int.not_lt, -Nat.not_le, -Nat.not_lt, ty3, ty25, ty27, ty49, hm, hl, hr, E45, n45_8]
set_option maxHeartbeats 8000000 in
theorem c45 (f : List Pred) (h_f : PSm f) (st : St) (hst : st.wp ≤ st.objs.length) : ∃ st', EvF gS 45 [.slice (encPreds f)] st = some (.ret (.slice (encPreds f)) none, st') := by
  have hm : fi45.marks = [6, 1000000] := rfl
  have hl : fi45.locals = [] := rfl
  have hr : fi45.results = [.tmp 2] := rfl
  by_cases hne : f = []
  · refine ⟨st, ?_⟩
    refine EvF_start fi45_eq (fun x h => by cases h) m45 ?_
    rw [st45]
    subst hne
    have hz : ∀ st, frz 6 st (.sref true 0 0 0 0) = some (.slice [], st) := fun st => frz_nil 5 st
    simp [markStep, markAppend, elemsAt, encPreds, -Int.not_le, -Int.not_lt, -Nat.not_le, -Nat.not_lt, ty3, ty25, ty27, ty49, hm, hl, hr, E45, n45_8]
    refine evK_loop c45_9 _ _ _ _ rfl ?_
    simp [hz, -Int.not_le, -Int.not_lt, -Nat.not_le, -Nat.not_lt, ty3, ty25, ty27, ty49, hm, hl, hr, E45, n45_8]
  · refine ⟨dd st 1, ?_⟩
    refine EvF_start fi45_eq (fun x h => by cases h) m45 ?_
    rw [st45]
    have hfl := h_f.1
    have hfe : (encPreds f).isEmpty = false := by cases f with | nil => exact absurd rfl hne | cons _ _ => rfl
    have hpc := preds_cells f
    have hsp := sizes_preds f
    have h1 : f.length * 144 ≤ 140737488355328 := by omega
    have h2 : f.length ≤ 140737488355328 := by omega
    have hnr := fun fr k len cs => newRef_0 st fr k len cs
    have L0 := fun e0 e4 T X ht0 ht4 => L45_8 f h_f hne st hst f.length 0 (f.map fun p => (p, false)) e0 e4 T X ht0 ht4 (map_fst f) (Nat.zero_le _) rfl
    simp only [show ((0 : Nat) : Int) = 0 from rfl] at L0
    simp [-St.obj, -St.set, hfe, hpc, hsp, h1, h2, hnr, L0, markStep, markAppend, elemsAt, hne, -Int.not_le, -Int.not_lt, -Nat.not_le, -Nat.not_lt, ty3, ty25, ty27, ty49, hm, hl, hr, E45, n45_8]
    all_goals first | done | skip
end
end Go.Proofs.Ytclpbfkbpcjejaa
namespace Go.Proofs.Ytclpbfkbpcjejaa
open Go Go.Ab
set_option linter.unusedVariables false
set_option linter.unusedSimpArgs false
set_option linter.unnecessarySimpa false
set_option maxRecDepth 20000
noncomputable section
variable (fr : Fr) (st : St) (k : Kt)
theorem k45 (f : List Pred) (h_f : PSm f) (fr : Fr) (st : St) : callStep gS (EvF gS) 45 [.slice (encPreds f)] fr st = some (.ok (.val (.slice (encPreds f))) fr st) :=
  call_pure' rfl fi45_eq rfl (by simp [flats, V.flat]) (c45 f h_f ⟨[], 0⟩ (Nat.le_refl _)) (by simp [V.flat])
theorem sizes_predss (l : List (List Pred)) : sizesOk 1 (encPredss l) = true := by
  induction l with
  | nil => rfl
  | cons x r ih => simp only [encPredss, List.map_cons, sizesOk] at ih ⊢; rw [ih]; rfl
theorem predss_snoc (l : List (List Pred)) (f : List Pred) : encPredss l ++ [.slice (encPreds f)] = encPredss (l ++ [f]) := by simp [encPredss]
def fi49 : FI := { body := codeOf Try.f49, ntmps := 54, results := [.tmp 2], pers := [0, 2, 3, 5, 6, 8, 9, 11, 12, 13, 14, 18, 19, 20, 32, 33, 34], locals := [], pure := true, marks := [1000000] }
theorem fi49_eq : gS.fn 49 = some fi49 := by kernel_rfl
theorem st49 (a0 : V) : startFr fi49 [a0] = { ps := [(0, .val a0), (2, .any), (3, .any), (5, .any), (6, .any), (8, .any), (9, .any), (11, .any), (12, .any), (13, .any), (14, .any), (18, .any), (19, .any), (20, .any), (32, .any), (33, .any), (34, .any)], ts := [], lc := [] } := rfl
def b49 : Code := mini (codeOf Try.f49)
def c49_36 : Code := codeN b49 3353803
def c49_34 : Code := .seq (codeN b49 2305227) c49_36
def c49_37 : Code := codeN b49 994507
def c49_32 : Code := .seq (.block 3 c49_34) c49_37
def c49_28 : Code := .seq (.cond (.tmp 21) .skip (.exit 2)) c49_32
def c49_26 : Code := .seq (codeN b49 142539) c49_28
def c49_25 : Code := .loop c49_26
def c49_24 : Code := .block 2 c49_25
def c49_22 : Code := .seq (codeN b49 19659) c49_24
def c49_41 : Code := .cond (.tmp 31) (.exit 1) .skip
def c49_39 : Code := .seq (codeN b49 40139) c49_41
def c49_64 : Code := codeN b49 93945035
def c49_63 : Code := .cond (.tmp 41) c49_64 .skip
def c49_61 : Code := .seq (codeN b49 43613387) c49_63
def c49_59 : Code := .seq (codeN b49 18447563) c49_61
def c49_66 : Code := codeN b49 7961803
def c49_57 : Code := .seq (.block 5 c49_59) c49_66
def c49_53 : Code := .seq (.cond (.tmp 35) .skip (.exit 4)) c49_57
def c49_51 : Code := .seq (codeN b49 1146059) c49_53
def c49_50 : Code := .loop c49_51
def c49_49 : Code := .block 4 c49_50
def c49_47 : Code := .seq (codeN b49 163019) c49_49
def c49_67 : Code := codeN b49 130251
theorem e49_67 : evK gS fi49 c49_67 fr st k = opsR gS fi49 [mv 47 9 51,
 mv 48 5 49,
 cal 49 45 [(.tmp 48)] [49] 49,
 op1 50 (.buildSlice 51 1 #[(0, (.tmp 49))]) 51,
 op1 51 (.call { callee := (.builtin .append), args := #[(.tmp 47), (.tmp 50)], argTypes := #[51, 51] }) 51,
 asn 3 51 51] fr st k := evK_r 19 (by kernel_rfl)
def c49_46 : Code := .seq c49_47 c49_67
def c49_44 : Code := .seq (codeN b49 48331) c49_46
def c49_38 : Code := .seq c49_39 c49_44
theorem e49_38 : evK gS fi49 c49_38 fr st k = evK gS fi49 c49_39 fr st (.seq c49_44 k) := rfl
def c49_21 : Code := .seq c49_22 c49_38
def c49_19 : Code := .seq (codeN b49 5323) c49_21
def c49_17 : Code := .seq (codeN b49 2251) c49_19
def c49_68 : Code := codeN b49 971
def c49_15 : Code := .seq (.block 1 c49_17) c49_68
def c49_11 : Code := .seq (.cond (.tmp 15) .skip (.exit 0)) c49_15
def c49_9 : Code := .seq (codeN b49 139) c49_11
def c49_8 : Code := .loop c49_9
def c49_7 : Code := .block 0 c49_8
def c49_5 : Code := .seq (codeN b49 19) c49_7
def c49_69 : Code := .seq (codeN b49 23) .ret
def c49_4 : Code := .seq c49_5 c49_69
def c49_2 : Code := .seq (codeN b49 5) c49_4
def c49_0 : Code := .seq (codeN b49 2) c49_2
theorem E49 : (evK gS fi49 c49_36 fr st k = opsR gS fi49 [mv 24 6 4,
 mv 25 24 4,
 mk (some 26) (.move (.tmp 8)) 49 (some (1, false)),
 mk (some 27) (.move (.tmp 5)) 49 (some (1, false)),
 mk (some 28) (.call { callee := (.value (.func 43)), args := #[(.tmp 26), (.tmp 27)], argTypes := #[49, 49] }) 4 (some (1, false)),
 op1 29 (.pick (.tmp 25) (.const (.bool true)) (.tmp 28)) 4,
 asn 6 29 4] fr st k) ∧
 (evK gS fi49 c49_34 fr st k = opsR gS fi49 [ixa 22 51 18 20 0,
 ld 23 49 22 49,
 asn 8 23 49] fr st (.seq c49_36 k)) ∧
 (evK gS fi49 c49_37 fr st k = opsR gS fi49 [op1 30 (.binOp .add 3 (.tmp 20) (.const (.int .i64 1)) 3) 3,
 mv 20 30 3] fr st k) ∧
 evK gS fi49 c49_32 fr st k = evK gS fi49 c49_34 fr st (.blk 3 (.seq c49_37 k)) ∧
 evK gS fi49 c49_28 fr st k = condK gS fi49 (fr.op (.tmp 21)).bool? .skip (.exit 2) fr st (.seq c49_32 k) ∧
 evK gS fi49 c49_26 fr st k = opsR gS fi49 [bop 21 .lss 3 20 19 3 0] fr st (.seq c49_28 k) ∧
 evK gS fi49 c49_24 fr st k = evK gS fi49 c49_25 fr st (.blk 2 k) ∧
 (evK gS fi49 c49_22 fr st k = opsR gS fi49 [mv 18 3 51,
 len1 19 18 51 3,
 op1 20 (.move (.const (.int .i64 0))) 3] fr st (.seq c49_24 k)) ∧
 evK gS fi49 c49_41 fr st k = condK gS fi49 (fr.op (.tmp 31)).bool? (.exit 1) .skip fr st k ∧
 evK gS fi49 c49_39 fr st k = opsR gS fi49 [mv 31 6 4] fr st (.seq c49_41 k) ∧
 (evK gS fi49 c49_64 fr st k = opsR gS fi49 [mv 42 9 51,
 mv 43 11 49,
 op1 44 (.buildSlice 51 1 #[(0, (.tmp 43))]) 51,
 op1 45 (.call { callee := (.builtin .append), args := #[(.tmp 42), (.tmp 44)], argTypes := #[51, 51] }) 51,
 asn 9 45 51] fr st k) ∧
 evK gS fi49 c49_63 fr st k = condK gS fi49 (fr.op (.tmp 41)).bool? c49_64 .skip fr st k ∧
 (evK gS fi49 c49_61 fr st k = opsR gS fi49 [mv 38 5 49,
 mv 39 11 49,
 cal 40 43 [(.tmp 38), (.tmp 39)] [49, 49] 4,
 op1 41 (.unOp .not 4 (.tmp 40)) 4] fr st (.seq c49_63 k)) ∧
 (evK gS fi49 c49_59 fr st k = opsR gS fi49 [ixa 36 51 32 34 0,
 ld 37 49 36 49,
 asn 11 37 49] fr st (.seq c49_61 k)) ∧
 (evK gS fi49 c49_66 fr st k = opsR gS fi49 [op1 46 (.binOp .add 3 (.tmp 34) (.const (.int .i64 1)) 3) 3,
 mv 34 46 3] fr st k) ∧
 evK gS fi49 c49_57 fr st k = evK gS fi49 c49_59 fr st (.blk 5 (.seq c49_66 k)) ∧
 evK gS fi49 c49_53 fr st k = condK gS fi49 (fr.op (.tmp 35)).bool? .skip (.exit 4) fr st (.seq c49_57 k) ∧
 evK gS fi49 c49_51 fr st k = opsR gS fi49 [bop 35 .lss 3 34 33 3 0] fr st (.seq c49_53 k) ∧
 evK gS fi49 c49_49 fr st k = evK gS fi49 c49_50 fr st (.blk 4 k) ∧
 (evK gS fi49 c49_47 fr st k = opsR gS fi49 [mv 32 3 51,
 len1 33 32 51 3,
 op1 34 (.move (.const (.int .i64 0))) 3] fr st (.seq c49_49 k)) ∧
 evK gS fi49 c49_46 fr st k = evK gS fi49 c49_47 fr st (.seq c49_67 k) ∧
 evK gS fi49 c49_44 fr st k = opsR gS fi49 [op1 9 (.assign (.const (.slice none 0 0))) 51] fr st (.seq c49_46 k) ∧
 evK gS fi49 c49_21 fr st k = evK gS fi49 c49_22 fr st (.seq c49_38 k) ∧
 evK gS fi49 c49_19 fr st k = opsR gS fi49 [op1 6 (.assign (.const (.bool false))) 4] fr st (.seq c49_21 k) ∧
 (evK gS fi49 c49_17 fr st k = opsR gS fi49 [ixa 16 51 12 14 0,
 ld 17 49 16 49,
 asn 5 17 49] fr st (.seq c49_19 k)) ∧
 (evK gS fi49 c49_68 fr st k = opsR gS fi49 [op1 52 (.binOp .add 3 (.tmp 14) (.const (.int .i64 1)) 3) 3,
 mv 14 52 3] fr st k) ∧
 evK gS fi49 c49_15 fr st k = evK gS fi49 c49_17 fr st (.blk 1 (.seq c49_68 k)) ∧
 evK gS fi49 c49_11 fr st k = condK gS fi49 (fr.op (.tmp 15)).bool? .skip (.exit 0) fr st (.seq c49_15 k) ∧
 evK gS fi49 c49_9 fr st k = opsR gS fi49 [bop 15 .lss 3 14 13 3 0] fr st (.seq c49_11 k) ∧
 evK gS fi49 c49_7 fr st k = evK gS fi49 c49_8 fr st (.blk 0 k) ∧
 (evK gS fi49 c49_5 fr st k = opsR gS fi49 [mv 12 0 51,
 len1 13 12 51 3,
 op1 14 (.move (.const (.int .i64 0))) 3] fr st (.seq c49_7 k)) ∧
 (evK gS fi49 c49_69 fr st k = opsR gS fi49 [mv 53 3 51,
 asn 2 53 51] fr st (.seq .ret k)) ∧
 evK gS fi49 c49_4 fr st k = evK gS fi49 c49_5 fr st (.seq c49_69 k) ∧
 evK gS fi49 c49_2 fr st k = opsR gS fi49 [op1 3 (.assign (.const (.slice none 0 0))) 51] fr st (.seq c49_4 k) ∧
 evK gS fi49 c49_0 fr st k = opsR gS fi49 [op1 2 (.assign (.const (.slice none 0 0))) 51] fr st (.seq c49_2 k) := ⟨evK_r 9 (by kernel_rfl), evK_rs 8 rfl (by kernel_rfl), evK_r 10 (by kernel_rfl), rfl, rfl, evK_rs 7 rfl (by kernel_rfl), rfl, evK_rs 6 rfl (by kernel_rfl), rfl, evK_rs 11 rfl (by kernel_rfl), evK_r 17 (by kernel_rfl), rfl, evK_rs 16 rfl (by kernel_rfl), evK_rs 15 rfl (by kernel_rfl), evK_r 18 (by kernel_rfl), rfl, rfl, evK_rs 14 rfl (by kernel_rfl), rfl, evK_rs 13 rfl (by kernel_rfl), rfl, evK_rs 12 rfl (by kernel_rfl), rfl, evK_rs 5 rfl (by kernel_rfl), evK_rs 4 rfl (by kernel_rfl), evK_r 20 (by kernel_rfl), rfl, rfl, evK_rs 3 rfl (by kernel_rfl), rfl, evK_rs 2 rfl (by kernel_rfl), evK_rs 21 rfl (by kernel_rfl), rfl, evK_rs 1 rfl (by kernel_rfl), evK_rs 0 rfl (by kernel_rfl)⟩
theorem m49 : mini fi49.body = c49_0 := by kernel_rfl
theorem n49_25 (fr : Fr) (st : St) (k : Kt) : nextK gS fi49 (.loop c49_26 k) .normal fr st = evK gS fi49 c49_25 fr st k := rfl
theorem n49_50 (fr : Fr) (st : St) (k : Kt) : nextK gS fi49 (.loop c49_51 k) .normal fr st = evK gS fi49 c49_50 fr st k := rfl
theorem n49_8 (fr : Fr) (st : St) (k : Kt) : nextK gS fi49 (.loop c49_9 k) .normal fr st = evK gS fi49 c49_8 fr st k := rfl
set_option maxHeartbeats 8000000 in
theorem A49 (l : List (List Pred)) (h_l : ∀ f ∈ l, PSm f) (h_n : l.length ≤ 1000000) (io : Nat) (f : List Pred) (hio : l[io]? = some f) (row : List (List Pred)) (h_r : ∀ g ∈ row, PSm g) (h_m : row.length ≤ 1000000) (kr : Nat) (st : St) (R : Out × St) (fb : Bool)
    (H : ∀ (e0 e8 e9 e11 e32 e33 e34 : E) (T : List (Nat × E)) (X : List (Nat × List V)) (ht0 : e0.Tame) (ht8 : e8.Tame) (ht9 : e9.Tame) (ht11 : e11.Tame) (ht32 : e32.Tame) (ht33 : e33.Tame) (ht34 : e34.Tame), evK gS fi49 c49_38 { ps := [(0, e0), (2, .own 0 []), (3, .own kr (encPredss row)), (5, .val (.slice (encPreds f))), (6, .val (.bool fb)), (8, e8), (9, e9), (11, e11), (12, .val (.slice (encPredss l))), (13, .val (.int .i64 l.length)), (14, .val (.int .i64 (io : Nat))), (18, .val (.slice (encPredss row))), (19, .val (.int .i64 row.length)), (20, .val (.int .i64 (row.length : Nat))), (32, e32), (33, e33), (34, e34)], ts := T, lc := X } st (.blk 1 (.seq c49_68 (.loop c49_9 (.blk 0 (.seq c49_69 .nil))))) = some R) :
    ∀ (n k : Nat) (b : Bool) (e18 : E) (hc18 : e18.calm = .val (.slice (encPredss row))) (e0 e8 e9 e11 e32 e33 e34 : E) (T : List (Nat × E)) (X : List (Nat × List V)) (ht0 : e0.Tame) (ht8 : e8.Tame) (ht9 : e9.Tame) (ht11 : e11.Tame) (ht32 : e32.Tame) (ht33 : e33.Tame) (ht34 : e34.Tame), k ≤ row.length → row.length - k = n → fb = (b || (row.drop k).any fun g => fcovers g f) →
    evK gS fi49 c49_25 { ps := [(0, e0), (2, .own 0 []), (3, .own kr (encPredss row)), (5, .val (.slice (encPreds f))), (6, .val (.bool b)), (8, e8), (9, e9), (11, e11), (12, .val (.slice (encPredss l))), (13, .val (.int .i64 l.length)), (14, .val (.int .i64 (io : Nat))), (18, e18), (19, .val (.int .i64 row.length)), (20, .val (.int .i64 (k : Nat))), (32, e32), (33, e33), (34, e34)], ts := T, lc := X } st (.blk 2 (.seq c49_38 (.blk 1 (.seq c49_68 (.loop c49_9 (.blk 0 (.seq c49_69 .nil))))))) = some R := by
  intro n
  have hm : fi49.marks = [1000000] := rfl
  have hl : fi49.locals = [] := rfl
  have hr : fi49.results = [.tmp 2] := rfl
  have hil : io < l.length := (List.getElem?_eq_some_iff.1 hio).1
  have hie : l[io]'hil = f := (List.getElem?_eq_some_iff.1 hio).2
  have hfs := h_l f (List.mem_of_getElem? hio)
  have hfo := hfs.ok
  induction n with
  | zero =>
    intro k b e18 hc18 e0 e8 e9 e11 e32 e33 e34 T X ht0 ht8 ht9 ht11 ht32 ht33 ht34 hk hn hb
    obtain rfl : k = row.length := by omega
    refine evK_loop c49_26 _ st _ _ rfl ?_
    rw [List.drop_length] at hb
    have hb2 : b = fb := by rw [hb]; simp
    subst hb2
    simp (config := { contextual := true, maxSteps := 10000000, maxDischargeDepth := 6 }) [ht0, ht8, ht9, ht11, ht32, ht33, ht34, hc18, -Int.not_le, -Int.not_lt, -Nat.not_le, -Nat.not_lt, ty3, ty4, ty49, ty51, hm, hl, hr, k43, k45, E49, e49_67, n49_25, n49_50, n49_8]
    all_goals (refine H _ _ _ _ _ _ _ _ _ ?_ ?_ ?_ ?_ ?_ ?_ ?_ <;> simp (config := { contextual := true, maxSteps := 10000000, maxDischargeDepth := 6 }) [ht0, ht8, ht9, ht11, ht32, ht33, ht34, hc18, ])
  | succ n ih =>
    intro k b e18 hc18 e0 e8 e9 e11 e32 e33 e34 T X ht0 ht8 ht9 ht11 ht32 ht33 ht34 hk hn hb
    obtain ⟨x, hx⟩ : ∃ x, row[k]? = some x := ⟨row[k]'(by omega), List.getElem?_eq_getElem (by omega)⟩
    have hd := drop_get hx
    have hlt : (k : Int) < (row.length : Int) := by omega
    have hlt2 : k < row.length := by omega
    have hxe : row[k]'hlt2 = x := by rw [List.getElem?_eq_getElem hlt2] at hx; exact Option.some.inj hx
    have hw : IntKind.wrap .i64 ((k : Int) + 1) = ((k + 1 : Nat) : Int) := by rw [wrap64 (by omega) (by omega)]; omega
    have hxo := (h_r x (List.mem_of_getElem? hx)).ok
    rw [hd, List.any_cons] at hb
    have IH := fun b' hb' e0 e8 e9 e11 e32 e33 e34 T X ht0 ht8 ht9 ht11 ht32 ht33 ht34 => ih (k + 1) b' (.val (.slice (encPredss row))) rfl e0 e8 e9 e11 e32 e33 e34 T X ht0 ht8 ht9 ht11 ht32 ht33 ht34 (by omega) (by omega) hb'
    refine evK_loop c49_26 _ st _ _ rfl ?_
    cases b with
    | true =>
      have IHc := IH true (by rw [hb]; rfl)
      simp (config := { contextual := true, maxSteps := 10000000, maxDischargeDepth := 6 }) [-Int.natCast_add, hio, hil, hie, hx, hxe, hlt, hlt2, hw, IHc, ht0, ht8, ht9, ht11, ht32, ht33, ht34, hc18, -Int.not_le, -Int.not_lt, -Nat.not_le, -Nat.not_lt, ty3, ty4, ty49, ty51, hm, hl, hr, k43, k45, E49, e49_67, n49_25, n49_50, n49_8]
    | false =>
      have IHc := IH (fcovers x f) (by rw [hb]; rfl)
      simp (config := { contextual := true, maxSteps := 10000000, maxDischargeDepth := 6 }) [-Int.natCast_add, hio, hil, hie, hx, hxe, hlt, hlt2, hw, hxo, hfo, IHc, ht0, ht8, ht9, ht11, ht32, ht33, ht34, hc18, -Int.not_le, -Int.not_lt, -Nat.not_le, -Nat.not_lt, ty3, ty4, ty49, ty51, hm, hl, hr, k43, k45, E49, e49_67, n49_25, n49_50, n49_8]
set_option maxHeartbeats 8000000 in
theorem B49 (l : List (List Pred)) (h_l : ∀ f ∈ l, PSm f) (h_n : l.length ≤ 1000000) (io : Nat) (f : List Pred) (hio : l[io]? = some f) (row : List (List Pred)) (h_r : ∀ g ∈ row, PSm g) (h_m : row.length ≤ 1000000) (kr : Nat) (st : St) (R : Out × St) (fl : List (List Pred))
    (H : ∀ (kl : Nat) (e0 e6 e8 e11 e18 e19 e20 : E) (T : List (Nat × E)) (X : List (Nat × List V)) (ht0 : e0.Tame) (ht6 : e6.Tame) (ht8 : e8.Tame) (ht11 : e11.Tame) (ht18 : e18.Tame) (ht19 : e19.Tame) (ht20 : e20.Tame), (kl = 0 ∧ fl = [] ∨ kl = 1) → evK gS fi49 c49_67 { ps := [(0, e0), (2, .own 0 []), (3, .own kr (encPredss row)), (5, .val (.slice (encPreds f))), (6, e6), (8, e8), (9, .own kl (encPredss fl)), (11, e11), (12, .val (.slice (encPredss l))), (13, .val (.int .i64 l.length)), (14, .val (.int .i64 (io : Nat))), (18, e18), (19, e19), (20, e20), (32, .val (.slice (encPredss row))), (33, .val (.int .i64 row.length)), (34, .val (.int .i64 (row.length : Nat)))], ts := T, lc := X } st (.blk 1 (.seq c49_68 (.loop c49_9 (.blk 0 (.seq c49_69 .nil))))) = some R) :
    ∀ (n k : Nat) (kl : Nat) (left : List (List Pred)) (e32 : E) (hc32 : e32.calm = .val (.slice (encPredss row))) (e0 e6 e8 e11 e18 e19 e20 : E) (T : List (Nat × E)) (X : List (Nat × List V)) (ht0 : e0.Tame) (ht6 : e6.Tame) (ht8 : e8.Tame) (ht11 : e11.Tame) (ht18 : e18.Tame) (ht19 : e19.Tame) (ht20 : e20.Tame), k ≤ row.length → row.length - k = n → left.length ≤ k → (kl = 0 ∧ left = [] ∨ kl = 1) → fl = left ++ (row.drop k).filter (fun g => !fcovers f g) →
    evK gS fi49 c49_50 { ps := [(0, e0), (2, .own 0 []), (3, .own kr (encPredss row)), (5, .val (.slice (encPreds f))), (6, e6), (8, e8), (9, .own kl (encPredss left)), (11, e11), (12, .val (.slice (encPredss l))), (13, .val (.int .i64 l.length)), (14, .val (.int .i64 (io : Nat))), (18, e18), (19, e19), (20, e20), (32, e32), (33, .val (.int .i64 row.length)), (34, .val (.int .i64 (k : Nat)))], ts := T, lc := X } st (.blk 4 (.seq c49_67 (.blk 1 (.seq c49_68 (.loop c49_9 (.blk 0 (.seq c49_69 .nil))))))) = some R := by
  intro n
  have hm : fi49.marks = [1000000] := rfl
  have hl : fi49.locals = [] := rfl
  have hr : fi49.results = [.tmp 2] := rfl
  have hil : io < l.length := (List.getElem?_eq_some_iff.1 hio).1
  have hie : l[io]'hil = f := (List.getElem?_eq_some_iff.1 hio).2
  have hfs := h_l f (List.mem_of_getElem? hio)
  have hfo := hfs.ok
  induction n with
  | zero =>
    intro k kl left e32 hc32 e0 e6 e8 e11 e18 e19 e20 T X ht0 ht6 ht8 ht11 ht18 ht19 ht20 hk hn hll hkl hb
    obtain rfl : k = row.length := by omega
    refine evK_loop c49_51 _ st _ _ rfl ?_
    rw [List.drop_length, List.filter_nil, List.append_nil] at hb
    subst hb
    simp (config := { contextual := true, maxSteps := 10000000, maxDischargeDepth := 6 }) [ht0, ht6, ht8, ht11, ht18, ht19, ht20, hc32, -Int.not_le, -Int.not_lt, -Nat.not_le, -Nat.not_lt, ty3, ty4, ty49, ty51, hm, hl, hr, k43, k45, E49, e49_38, n49_25, n49_50, n49_8]
    all_goals (refine H kl _ _ _ _ _ _ _ _ _ ?_ ?_ ?_ ?_ ?_ ?_ ?_ ?_ <;> first | exact hkl | simp (config := { contextual := true, maxSteps := 10000000, maxDischargeDepth := 6 }) [ht0, ht6, ht8, ht11, ht18, ht19, ht20, hc32, ])
  | succ n ih =>
    intro k kl left e32 hc32 e0 e6 e8 e11 e18 e19 e20 T X ht0 ht6 ht8 ht11 ht18 ht19 ht20 hk hn hll hkl hb
    obtain ⟨x, hx⟩ : ∃ x, row[k]? = some x := ⟨row[k]'(by omega), List.getElem?_eq_getElem (by omega)⟩
    have hd := drop_get hx
    have hlt : (k : Int) < (row.length : Int) := by omega
    have hlt2 : k < row.length := by omega
    have hxe : row[k]'hlt2 = x := by rw [List.getElem?_eq_getElem hlt2] at hx; exact Option.some.inj hx
    have hw : IntKind.wrap .i64 ((k : Int) + 1) = ((k + 1 : Nat) : Int) := by rw [wrap64 (by omega) (by omega)]; omega
    have hxo := (h_r x (List.mem_of_getElem? hx)).ok
    rw [hd, List.filter_cons] at hb
    have IH := fun kl left h1 h2 h3 e0 e6 e8 e11 e18 e19 e20 T X ht0 ht6 ht8 ht11 ht18 ht19 ht20 => ih (k + 1) kl left (.val (.slice (encPredss row))) rfl e0 e6 e8 e11 e18 e19 e20 T X ht0 ht6 ht8 ht11 ht18 ht19 ht20 (by omega) (by omega) h1 h2 h3
    refine evK_loop c49_51 _ st _ _ rfl ?_
    cases hcv : fcovers f x with
    | true =>
      have IHc := IH kl left (by omega) hkl (by rw [hb, hcv]; rfl)
      simp (config := { contextual := true, maxSteps := 10000000, maxDischargeDepth := 6 }) [-Int.natCast_add, hio, hil, hie, hx, hxe, hlt, hlt2, hw, hxo, hfo, hcv, IHc, ht0, ht6, ht8, ht11, ht18, ht19, ht20, hc32, -Int.not_le, -Int.not_lt, -Nat.not_le, -Nat.not_lt, ty3, ty4, ty49, ty51, hm, hl, hr, k43, k45, E49, e49_38, n49_25, n49_50, n49_8]
    | false =>
      have IHc := IH 1 (left ++ [x]) (by simp; omega) (.inr rfl) (by rw [hb, hcv]; simp)
      have hs1 := sizes_predss left
      have hs2 := predss_snoc left x
      have hl1 : (left.length + 1) * 24 ≤ 140737488355328 := by omega
      have hl2 : left.length + 1 ≤ 140737488355328 := by omega
      rcases hkl with ⟨rfl, rfl⟩ | rfl
      · rw [show encPredss ([] ++ [x]) = [.slice (encPreds x)] from rfl] at IHc
        have en : encPredss [] = [] := rfl
        simp [-Int.natCast_add, en, hio, hil, hie, hx, hxe, hlt, hlt2, hw, hxo, hfo, hcv, ht0, ht6, ht8, ht11, ht18, ht19, ht20, hc32, -Int.not_le, -Int.not_lt, -Nat.not_le, -Nat.not_lt, ty3, ty4, ty49, ty51, hm, hl, hr, k43, k45, E49, e49_38, n49_25, n49_50, n49_8]
        all_goals (refine IHc _ _ _ _ _ _ _ _ _ ?_ ?_ ?_ ?_ ?_ ?_ ?_ <;> simp [ht0, ht6, ht8, ht11, ht18, ht19, ht20, hc32, ])
      · simp [-List.append_assoc, -Int.natCast_add, hio, hil, hie, hx, hxe, hlt, hlt2, hw, hxo, hfo, hcv, IHc, hs1, hs2, hl1, hl2, ht0, ht6, ht8, ht11, ht18, ht19, ht20, hc32, -Int.not_le, -Int.not_lt, -Nat.not_le, -Nat.not_lt, ty3, ty4, ty49, ty51, hm, hl, hr, k43, k45, E49, e49_38, n49_25, n49_50, n49_8]
def fi50 : FI := { body := codeOf Try.f50, ntmps := 65, results := [.tmp 2], pers := [0, 2, 3, 4, 5, 6, 7, 8], locals := [], pure := true, marks := [1000000] }
theorem fi50_eq : gS.fn 50 = some fi50 := by kernel_rfl
theorem st50 (a0 : V) : startFr fi50 [a0] = { ps := [(0, .val a0), (2, .any), (3, .any), (4, .any), (5, .any), (6, .any), (7, .any), (8, .any)], ts := [], lc := [] } := rfl
def b50 : Code := mini (codeOf Try.f50)
def c50_12 : Code := .cond (.tmp 12) .skip (.exit 0)
def c50_10 : Code := .seq (codeN b50 267) c50_12
def c50_27 : Code := .cond (.tmp 18) .skip (.exit 2)
def c50_25 : Code := .seq (codeN b50 68171) c50_27
def r50_32 : Array Oper := regOps (codeN (codeOf Try.f50) 150091)
def c50_32 : Code := .region 9 r50_32 true
def q50_32 : List (Oper × Fl) := [(mv 21 5 4, ⟨true, true, true, false, true, false, true, true, false, false, []⟩),
 (mv 22 21 4, ⟨true, true, true, false, true, false, true, true, false, false, []⟩),
 (mk (some 23) (.move (.tmp 3)) 51 (some (1, false)), ⟨true, false, true, false, false, false, true, true, false, false, []⟩),
 (mk (some 24) (.move (.tmp 6)) 3 (some (1, false)), ⟨true, false, true, false, false, false, true, true, false, false, []⟩),
 (mk (some 25) (.indexAddr 51 (.tmp 23) (.tmp 24)) 0 (some (1, false)), ⟨true, false, true, false, false, false, true, true, false, false, []⟩),
 (mk (some 26) (.load 49 (.tmp 25)) 49 (some (1, false)), ⟨true, false, true, false, false, false, true, true, false, false, []⟩),
 (mk (some 27) (.move (.tmp 0)) 51 (some (1, false)), ⟨true, false, true, false, false, false, true, true, false, false, []⟩),
 (mk (some 28) (.move (.tmp 4)) 3 (some (1, false)), ⟨true, false, true, false, true, false, true, true, false, false, []⟩),
 (mk (some 29) (.indexAddr 51 (.tmp 27) (.tmp 28)) 0 (some (1, false)), ⟨true, false, true, false, true, false, true, true, false, false, []⟩),
 (mk (some 30) (.load 49 (.tmp 29)) 49 (some (1, false)), ⟨true, false, true, false, true, false, true, true, false, false, []⟩),
 (mk (some 31) (.call { callee := (.value (.func 44)), args := #[(.tmp 26), (.tmp 30)], argTypes := #[49, 49] }) 4 (some (1, false)), ⟨true, true, true, false, true, true, true, true, false, false, []⟩),
 (op1 32 (.pick (.tmp 22) (.const (.bool true)) (.tmp 31)) 4, ⟨true, true, true, false, true, false, true, true, false, false, []⟩),
 (asn 5 32 4, ⟨true, true, true, false, true, false, true, true, false, false, []⟩)]
def c50_33 : Code := codeN b50 117323
def c50_30 : Code := .seq (.block 3 c50_32) c50_33
def c50_24 : Code := .seq c50_25 c50_30
def c50_23 : Code := .loop c50_24
def c50_22 : Code := .block 2 c50_23
def c50_20 : Code := .seq (codeN b50 4683) c50_22
def c50_37 : Code := .cond (.tmp 33) (.exit 1) .skip
def c50_35 : Code := .seq (codeN b50 9803) c50_37
def c50_50 : Code := .cond (.tmp 37) .skip (.exit 4)
def c50_48 : Code := .seq (codeN b50 548427) c50_50
def r50_56 : Array Oper := regOps (codeN (codeOf Try.f50) 2252363)
def c50_56 : Code := .region 15 r50_56 true
def q50_56 : List (Oper × Fl) := [(mv 40 0 51, ⟨true, false, true, false, false, false, true, true, false, false, []⟩),
 (mv 41 4 3, ⟨true, false, true, false, false, false, true, true, false, false, []⟩),
 (ixa 42 51 40 41 0, ⟨true, false, true, false, false, false, true, true, false, false, []⟩),
 (ld 43 49 42 49, ⟨true, false, true, false, false, false, true, true, false, false, []⟩),
 (mv 44 3 51, ⟨true, false, true, false, false, false, true, true, false, false, []⟩),
 (mv 45 8 3, ⟨true, false, true, false, true, false, true, true, false, false, []⟩),
 (ixa 46 51 44 45 0, ⟨true, false, true, false, true, false, true, true, false, false, []⟩),
 (ld 47 49 46 49, ⟨true, false, true, false, true, false, true, true, false, false, []⟩),
 (cal 48 44 [(.tmp 43), (.tmp 47)] [49, 49] 4, ⟨true, true, true, false, true, true, true, true, false, false, []⟩),
 (op1 49 (.unOp .not 4 (.tmp 48)) 4, ⟨true, true, true, false, true, false, true, true, false, false, []⟩)]
def c50_58 : Code := codeN b50 5398091
def c50_57 : Code := .cond (.tmp 49) c50_58 .skip
def c50_55 : Code := .seq c50_56 c50_57
def c50_60 : Code := codeN b50 941643
def c50_53 : Code := .seq (.block 5 c50_55) c50_60
def c50_47 : Code := .seq c50_48 c50_53
def c50_46 : Code := .loop c50_47
def c50_45 : Code := .block 4 c50_46
def c50_43 : Code := .seq (codeN b50 40523) c50_45
def c50_61 : Code := codeN b50 32331
theorem e50_61 : evK gS fi50 c50_61 fr st k = opsR gS fi50 [mv 57 7 51,
 mv 58 0 51,
 mv 59 4 3,
 ixa 60 51 58 59 0,
 ld 61 49 60 49,
 op1 62 (.buildSlice 51 1 #[(0, (.tmp 61))]) 51,
 op1 63 (.call { callee := (.builtin .append), args := #[(.tmp 57), (.tmp 62)], argTypes := #[51, 51] }) 51,
 asn 3 63 51] fr st k := evK_r 17 (by kernel_rfl)
def c50_42 : Code := .seq c50_43 c50_61
def c50_40 : Code := .seq (codeN b50 11851) c50_42
def c50_34 : Code := .seq c50_35 c50_40
theorem e50_34 : evK gS fi50 c50_34 fr st k = evK gS fi50 c50_35 fr st (.seq c50_40 k) := rfl
def c50_19 : Code := .seq c50_20 c50_34
def c50_17 : Code := .seq (codeN b50 1099) c50_19
def c50_62 : Code := codeN b50 459
def c50_15 : Code := .seq (.block 1 c50_17) c50_62
def c50_9 : Code := .seq c50_10 c50_15
def c50_8 : Code := .loop c50_9
def c50_7 : Code := .block 0 c50_8
def c50_5 : Code := .seq (codeN b50 19) c50_7
def c50_63 : Code := .seq (codeN b50 23) .ret
def c50_4 : Code := .seq c50_5 c50_63
def c50_2 : Code := .seq (codeN b50 5) c50_4
def c50_0 : Code := .seq (codeN b50 2) c50_2
theorem E50 : evK gS fi50 c50_12 fr st k = condK gS fi50 (fr.op (.tmp 12)).bool? .skip (.exit 0) fr st k ∧
 (evK gS fi50 c50_10 fr st k = opsR gS fi50 [mv 9 4 3,
 mv 10 0 51,
 len1 11 10 51 3,
 bop 12 .lss 3 9 11 3 4] fr st (.seq c50_12 k)) ∧
 evK gS fi50 c50_27 fr st k = condK gS fi50 (fr.op (.tmp 18)).bool? .skip (.exit 2) fr st k ∧
 (evK gS fi50 c50_25 fr st k = opsR gS fi50 [mv 15 6 3,
 mv 16 3 51,
 len1 17 16 51 3,
 bop 18 .lss 3 15 17 3 4] fr st (.seq c50_27 k)) ∧
 evK gS fi50 c50_32 fr st k = drwR gS fi50 r50_32 q50_32 fr st k ∧
 (evK gS fi50 c50_33 fr st k = opsR gS fi50 [mv 19 6 3,
 op1 20 (.binOp .add 3 (.tmp 19) (.const (.int .i64 1)) 3) 3,
 asn 6 20 3] fr st k) ∧
 evK gS fi50 c50_30 fr st k = evK gS fi50 c50_32 fr st (.blk 3 (.seq c50_33 k)) ∧
 evK gS fi50 c50_24 fr st k = evK gS fi50 c50_25 fr st (.seq c50_30 k) ∧
 evK gS fi50 c50_22 fr st k = evK gS fi50 c50_23 fr st (.blk 2 k) ∧
 evK gS fi50 c50_20 fr st k = opsR gS fi50 [op1 6 (.assign (.const (.int .i64 0))) 3] fr st (.seq c50_22 k) ∧
 evK gS fi50 c50_37 fr st k = condK gS fi50 (fr.op (.tmp 33)).bool? (.exit 1) .skip fr st k ∧
 evK gS fi50 c50_35 fr st k = opsR gS fi50 [mv 33 5 4] fr st (.seq c50_37 k) ∧
 evK gS fi50 c50_50 fr st k = condK gS fi50 (fr.op (.tmp 37)).bool? .skip (.exit 4) fr st k ∧
 (evK gS fi50 c50_48 fr st k = opsR gS fi50 [mv 34 8 3,
 mv 35 3 51,
 len1 36 35 51 3,
 bop 37 .lss 3 34 36 3 4] fr st (.seq c50_50 k)) ∧
 evK gS fi50 c50_56 fr st k = drwR gS fi50 r50_56 q50_56 fr st k ∧
 (evK gS fi50 c50_58 fr st k = opsR gS fi50 [mv 50 7 51,
 mv 51 3 51,
 mv 52 8 3,
 ixa 53 51 51 52 0,
 ld 54 49 53 49,
 op1 55 (.buildSlice 51 1 #[(0, (.tmp 54))]) 51,
 op1 56 (.call { callee := (.builtin .append), args := #[(.tmp 50), (.tmp 55)], argTypes := #[51, 51] }) 51,
 asn 7 56 51] fr st k) ∧
 evK gS fi50 c50_57 fr st k = condK gS fi50 (fr.op (.tmp 49)).bool? c50_58 .skip fr st k ∧
 evK gS fi50 c50_55 fr st k = evK gS fi50 c50_56 fr st (.seq c50_57 k) ∧
 (evK gS fi50 c50_60 fr st k = opsR gS fi50 [mv 38 8 3,
 op1 39 (.binOp .add 3 (.tmp 38) (.const (.int .i64 1)) 3) 3,
 asn 8 39 3] fr st k) ∧
 evK gS fi50 c50_53 fr st k = evK gS fi50 c50_55 fr st (.blk 5 (.seq c50_60 k)) ∧
 evK gS fi50 c50_47 fr st k = evK gS fi50 c50_48 fr st (.seq c50_53 k) ∧
 evK gS fi50 c50_45 fr st k = evK gS fi50 c50_46 fr st (.blk 4 k) ∧
 evK gS fi50 c50_43 fr st k = opsR gS fi50 [op1 8 (.assign (.const (.int .i64 0))) 3] fr st (.seq c50_45 k) ∧
 evK gS fi50 c50_42 fr st k = evK gS fi50 c50_43 fr st (.seq c50_61 k) ∧
 evK gS fi50 c50_40 fr st k = opsR gS fi50 [op1 7 (.assign (.const (.slice none 0 0))) 51] fr st (.seq c50_42 k) ∧
 evK gS fi50 c50_19 fr st k = evK gS fi50 c50_20 fr st (.seq c50_34 k) ∧
 evK gS fi50 c50_17 fr st k = opsR gS fi50 [op1 5 (.assign (.const (.bool false))) 4] fr st (.seq c50_19 k) ∧
 (evK gS fi50 c50_62 fr st k = opsR gS fi50 [mv 13 4 3,
 op1 14 (.binOp .add 3 (.tmp 13) (.const (.int .i64 1)) 3) 3,
 asn 4 14 3] fr st k) ∧
 evK gS fi50 c50_15 fr st k = evK gS fi50 c50_17 fr st (.blk 1 (.seq c50_62 k)) ∧
 evK gS fi50 c50_9 fr st k = evK gS fi50 c50_10 fr st (.seq c50_15 k) ∧
 evK gS fi50 c50_7 fr st k = evK gS fi50 c50_8 fr st (.blk 0 k) ∧
 evK gS fi50 c50_5 fr st k = opsR gS fi50 [op1 4 (.assign (.const (.int .i64 0))) 3] fr st (.seq c50_7 k) ∧
 (evK gS fi50 c50_63 fr st k = opsR gS fi50 [mv 64 3 51,
 asn 2 64 51] fr st (.seq .ret k)) ∧
 evK gS fi50 c50_4 fr st k = evK gS fi50 c50_5 fr st (.seq c50_63 k) ∧
 evK gS fi50 c50_2 fr st k = opsR gS fi50 [op1 3 (.assign (.const (.slice none 0 0))) 51] fr st (.seq c50_4 k) ∧
 evK gS fi50 c50_0 fr st k = opsR gS fi50 [op1 2 (.assign (.const (.slice none 0 0))) 51] fr st (.seq c50_2 k) := ⟨rfl, evK_rs 3 rfl (by kernel_rfl), rfl, evK_rs 7 rfl (by kernel_rfl), evK_dr 9 rfl (by kernel_rfl) (by kernel_rfl), evK_r 8 (by kernel_rfl), rfl, rfl, rfl, evK_rs 6 rfl (by kernel_rfl), rfl, evK_rs 10 rfl (by kernel_rfl), rfl, evK_rs 13 rfl (by kernel_rfl), evK_dr 15 rfl (by kernel_rfl) (by kernel_rfl), evK_r 16 (by kernel_rfl), rfl, rfl, evK_r 14 (by kernel_rfl), rfl, rfl, rfl, evK_rs 12 rfl (by kernel_rfl), rfl, evK_rs 11 rfl (by kernel_rfl), rfl, evK_rs 5 rfl (by kernel_rfl), evK_r 4 (by kernel_rfl), rfl, rfl, rfl, evK_rs 2 rfl (by kernel_rfl), evK_rs 18 rfl (by kernel_rfl), rfl, evK_rs 1 rfl (by kernel_rfl), evK_rs 0 rfl (by kernel_rfl)⟩
theorem m50 : mini fi50.body = c50_0 := by kernel_rfl
theorem n50_23 (fr : Fr) (st : St) (k : Kt) : nextK gS fi50 (.loop c50_24 k) .normal fr st = evK gS fi50 c50_23 fr st k := rfl
theorem n50_46 (fr : Fr) (st : St) (k : Kt) : nextK gS fi50 (.loop c50_47 k) .normal fr st = evK gS fi50 c50_46 fr st k := rfl
theorem n50_8 (fr : Fr) (st : St) (k : Kt) : nextK gS fi50 (.loop c50_9 k) .normal fr st = evK gS fi50 c50_8 fr st k := rfl
theorem bo1 : borOk r50_32 2 3 23 = false := by kernel_rfl
theorem bo2 : borOk r50_56 4 3 44 = false := by kernel_rfl
set_option maxHeartbeats 8000000 in
theorem A50 (l : List (List Pred)) (h_l : ∀ f ∈ l, PSm f) (h_n : l.length ≤ 1000000) (io : Nat) (f : List Pred) (hio : l[io]? = some f) (row : List (List Pred)) (h_r : ∀ g ∈ row, PSm g) (h_m : row.length ≤ 1000000) (kr : Nat) (st : St) (R : Out × St) (fb : Bool)
    (H : ∀ (e7 e8 : E) (T : List (Nat × E)) (X : List (Nat × List V)) (ht7 : e7.Tame) (ht8 : e8.Tame), evK gS fi50 c50_34 { ps := [(0, .val (.slice (encPredss l))), (2, .own 0 []), (3, .own kr (encPredss row)), (4, .val (.int .i64 (io : Nat))), (5, .val (.bool fb)), (6, .val (.int .i64 (row.length : Nat))), (7, e7), (8, e8)], ts := T, lc := X } st (.blk 1 (.seq c50_62 (.loop c50_9 (.blk 0 (.seq c50_63 .nil))))) = some R) :
    ∀ (n k : Nat) (b : Bool) (e7 e8 : E) (T : List (Nat × E)) (X : List (Nat × List V)) (ht7 : e7.Tame) (ht8 : e8.Tame), k ≤ row.length → row.length - k = n → fb = (b || (row.drop k).any fun g => fcovers g f) →
    evK gS fi50 c50_23 { ps := [(0, .val (.slice (encPredss l))), (2, .own 0 []), (3, .own kr (encPredss row)), (4, .val (.int .i64 (io : Nat))), (5, .val (.bool b)), (6, .val (.int .i64 (k : Nat))), (7, e7), (8, e8)], ts := T, lc := X } st (.blk 2 (.seq c50_34 (.blk 1 (.seq c50_62 (.loop c50_9 (.blk 0 (.seq c50_63 .nil))))))) = some R := by
  intro n
  have hm : fi50.marks = [1000000] := rfl
  have hl : fi50.locals = [] := rfl
  have hr : fi50.results = [.tmp 2] := rfl
  have hil : io < l.length := (List.getElem?_eq_some_iff.1 hio).1
  have hie : l[io]'hil = f := (List.getElem?_eq_some_iff.1 hio).2
  have hfs := h_l f (List.mem_of_getElem? hio)
  have hfo := hfs.ok
  induction n with
  | zero =>
    intro k b  e7 e8 T X ht7 ht8 hk hn hb
    obtain rfl : k = row.length := by omega
    refine evK_loop c50_24 _ st _ _ rfl ?_
    rw [List.drop_length] at hb
    have hb2 : b = fb := by rw [hb]; simp
    subst hb2
    simp (config := { contextual := true, maxSteps := 10000000, maxDischargeDepth := 6 }) [ht7, ht8, -Int.not_le, -Int.not_lt, -Nat.not_le, -Nat.not_lt, ty3, ty4, ty49, ty51, hm, hl, hr, k44, x44, fi44_eq, p44, E50, q50_32, q50_56, e50_61, n50_23, n50_46, n50_8, bo1, bo2]
    all_goals (refine H _ _ _ _ ?_ ?_ <;> simp (config := { contextual := true, maxSteps := 10000000, maxDischargeDepth := 6 }) [ht7, ht8, ])
  | succ n ih =>
    intro k b  e7 e8 T X ht7 ht8 hk hn hb
    obtain ⟨x, hx⟩ : ∃ x, row[k]? = some x := ⟨row[k]'(by omega), List.getElem?_eq_getElem (by omega)⟩
    have hd := drop_get hx
    have hlt : (k : Int) < (row.length : Int) := by omega
    have hlt2 : k < row.length := by omega
    have hxe : row[k]'hlt2 = x := by rw [List.getElem?_eq_getElem hlt2] at hx; exact Option.some.inj hx
    have hw : IntKind.wrap .i64 ((k : Int) + 1) = ((k + 1 : Nat) : Int) := by rw [wrap64 (by omega) (by omega)]; omega
    have hxo := (h_r x (List.mem_of_getElem? hx)).ok
    rw [hd, List.any_cons] at hb
    have IH := fun b' hb' e7 e8 T X ht7 ht8 => ih (k + 1) b'  e7 e8 T X ht7 ht8 (by omega) (by omega) hb'
    refine evK_loop c50_24 _ st _ _ rfl ?_
    cases b with
    | true =>
      have IHc := IH true (by rw [hb]; rfl)
      simp (config := { contextual := true, maxSteps := 10000000, maxDischargeDepth := 6 }) [-Int.natCast_add, hio, hil, hie, hx, hxe, hlt, hlt2, hw, IHc, ht7, ht8, -Int.not_le, -Int.not_lt, -Nat.not_le, -Nat.not_lt, ty3, ty4, ty49, ty51, hm, hl, hr, k44, x44, fi44_eq, p44, E50, q50_32, q50_56, e50_61, n50_23, n50_46, n50_8, bo1, bo2]
    | false =>
      have IHc := IH (fcovers x f) (by rw [hb]; rfl)
      simp (config := { contextual := true, maxSteps := 10000000, maxDischargeDepth := 6 }) [-Int.natCast_add, hio, hil, hie, hx, hxe, hlt, hlt2, hw, hxo, hfo, IHc, ht7, ht8, -Int.not_le, -Int.not_lt, -Nat.not_le, -Nat.not_lt, ty3, ty4, ty49, ty51, hm, hl, hr, k44, x44, fi44_eq, p44, E50, q50_32, q50_56, e50_61, n50_23, n50_46, n50_8, bo1, bo2]
set_option maxHeartbeats 8000000 in
theorem B50 (l : List (List Pred)) (h_l : ∀ f ∈ l, PSm f) (h_n : l.length ≤ 1000000) (io : Nat) (f : List Pred) (hio : l[io]? = some f) (row : List (List Pred)) (h_r : ∀ g ∈ row, PSm g) (h_m : row.length ≤ 1000000) (kr : Nat) (st : St) (R : Out × St) (fl : List (List Pred))
    (H : ∀ (kl : Nat) (e5 e6 : E) (T : List (Nat × E)) (X : List (Nat × List V)) (ht5 : e5.Tame) (ht6 : e6.Tame), (kl = 0 ∧ fl = [] ∨ kl = 1) → evK gS fi50 c50_61 { ps := [(0, .val (.slice (encPredss l))), (2, .own 0 []), (3, .own kr (encPredss row)), (4, .val (.int .i64 (io : Nat))), (5, e5), (6, e6), (7, .own kl (encPredss fl)), (8, .val (.int .i64 (row.length : Nat)))], ts := T, lc := X } st (.blk 1 (.seq c50_62 (.loop c50_9 (.blk 0 (.seq c50_63 .nil))))) = some R) :
    ∀ (n k : Nat) (kl : Nat) (left : List (List Pred)) (e5 e6 : E) (T : List (Nat × E)) (X : List (Nat × List V)) (ht5 : e5.Tame) (ht6 : e6.Tame), k ≤ row.length → row.length - k = n → left.length ≤ k → (kl = 0 ∧ left = [] ∨ kl = 1) → fl = left ++ (row.drop k).filter (fun g => !fcovers f g) →
    evK gS fi50 c50_46 { ps := [(0, .val (.slice (encPredss l))), (2, .own 0 []), (3, .own kr (encPredss row)), (4, .val (.int .i64 (io : Nat))), (5, e5), (6, e6), (7, .own kl (encPredss left)), (8, .val (.int .i64 (k : Nat)))], ts := T, lc := X } st (.blk 4 (.seq c50_61 (.blk 1 (.seq c50_62 (.loop c50_9 (.blk 0 (.seq c50_63 .nil))))))) = some R := by
  intro n
  have hm : fi50.marks = [1000000] := rfl
  have hl : fi50.locals = [] := rfl
  have hr : fi50.results = [.tmp 2] := rfl
  have hil : io < l.length := (List.getElem?_eq_some_iff.1 hio).1
  have hie : l[io]'hil = f := (List.getElem?_eq_some_iff.1 hio).2
  have hfs := h_l f (List.mem_of_getElem? hio)
  have hfo := hfs.ok
  induction n with
  | zero =>
    intro k kl left  e5 e6 T X ht5 ht6 hk hn hll hkl hb
    obtain rfl : k = row.length := by omega
    refine evK_loop c50_47 _ st _ _ rfl ?_
    rw [List.drop_length, List.filter_nil, List.append_nil] at hb
    subst hb
    simp (config := { contextual := true, maxSteps := 10000000, maxDischargeDepth := 6 }) [ht5, ht6, -Int.not_le, -Int.not_lt, -Nat.not_le, -Nat.not_lt, ty3, ty4, ty49, ty51, hm, hl, hr, k44, x44, fi44_eq, p44, E50, q50_32, q50_56, e50_34, n50_23, n50_46, n50_8, bo1, bo2]
    all_goals (refine H kl _ _ _ _ ?_ ?_ ?_ <;> first | exact hkl | simp (config := { contextual := true, maxSteps := 10000000, maxDischargeDepth := 6 }) [ht5, ht6, ])
  | succ n ih =>
    intro k kl left  e5 e6 T X ht5 ht6 hk hn hll hkl hb
    obtain ⟨x, hx⟩ : ∃ x, row[k]? = some x := ⟨row[k]'(by omega), List.getElem?_eq_getElem (by omega)⟩
    have hd := drop_get hx
    have hlt : (k : Int) < (row.length : Int) := by omega
    have hlt2 : k < row.length := by omega
    have hxe : row[k]'hlt2 = x := by rw [List.getElem?_eq_getElem hlt2] at hx; exact Option.some.inj hx
    have hw : IntKind.wrap .i64 ((k : Int) + 1) = ((k + 1 : Nat) : Int) := by rw [wrap64 (by omega) (by omega)]; omega
    have hxo := (h_r x (List.mem_of_getElem? hx)).ok
    rw [hd, List.filter_cons] at hb
    have IH := fun kl left h1 h2 h3 e5 e6 T X ht5 ht6 => ih (k + 1) kl left  e5 e6 T X ht5 ht6 (by omega) (by omega) h1 h2 h3
    refine evK_loop c50_47 _ st _ _ rfl ?_
    cases hcv : fcovers f x with
    | true =>
      have IHc := IH kl left (by omega) hkl (by rw [hb, hcv]; rfl)
      simp (config := { contextual := true, maxSteps := 10000000, maxDischargeDepth := 6 }) [-Int.natCast_add, hio, hil, hie, hx, hxe, hlt, hlt2, hw, hxo, hfo, hcv, IHc, ht5, ht6, -Int.not_le, -Int.not_lt, -Nat.not_le, -Nat.not_lt, ty3, ty4, ty49, ty51, hm, hl, hr, k44, x44, fi44_eq, p44, E50, q50_32, q50_56, e50_34, n50_23, n50_46, n50_8, bo1, bo2]
    | false =>
      have IHc := IH 1 (left ++ [x]) (by simp; omega) (.inr rfl) (by rw [hb, hcv]; simp)
      have hs1 := sizes_predss left
      have hs2 := predss_snoc left x
      have hl1 : (left.length + 1) * 24 ≤ 140737488355328 := by omega
      have hl2 : left.length + 1 ≤ 140737488355328 := by omega
      rcases hkl with ⟨rfl, rfl⟩ | rfl
      · rw [show encPredss ([] ++ [x]) = [.slice (encPreds x)] from rfl] at IHc
        have en : encPredss [] = [] := rfl
        simp [-Int.natCast_add, en, hio, hil, hie, hx, hxe, hlt, hlt2, hw, hxo, hfo, hcv, ht5, ht6, -Int.not_le, -Int.not_lt, -Nat.not_le, -Nat.not_lt, ty3, ty4, ty49, ty51, hm, hl, hr, k44, x44, fi44_eq, p44, E50, q50_32, q50_56, e50_34, n50_23, n50_46, n50_8, bo1, bo2]
        all_goals (refine IHc _ _ _ _ ?_ ?_ <;> simp [ht5, ht6, ])
      · simp [-List.append_assoc, -Int.natCast_add, hio, hil, hie, hx, hxe, hlt, hlt2, hw, hxo, hfo, hcv, IHc, hs1, hs2, hl1, hl2, ht5, ht6, -Int.not_le, -Int.not_lt, -Nat.not_le, -Nat.not_lt, ty3, ty4, ty49, ty51, hm, hl, hr, k44, x44, fi44_eq, p44, E50, q50_32, q50_56, e50_34, n50_23, n50_46, n50_8, bo1, bo2]
/-- What is left of filters, one behind the other. -/
def fredStep (row : List (List Pred)) (f : List Pred) : List (List Pred) := if row.any (fun g => fcovers g f) then row else row.filter (fun g => !fcovers f g) ++ [f]
def freduce (l : List (List Pred)) : List (List Pred) := l.foldl fredStep []
theorem fredStep_mem {row : List (List Pred)} {f g : List Pred} (h : g ∈ fredStep row f) : g ∈ row ∨ g = f := by
  unfold fredStep at h
  split at h
  · exact .inl h
  · rcases List.mem_append.1 h with h | h
    · exact .inl (List.mem_filter.1 h).1
    · exact .inr (by simpa using h)
theorem fredStep_len (row : List (List Pred)) (f : List Pred) : (fredStep row f).length ≤ row.length + 1 := by
  unfold fredStep
  split
  · omega
  · have := List.length_filter_le (fun g => !fcovers f g) row
    simp; omega
set_option maxHeartbeats 8000000 in
theorem O49 (l : List (List Pred)) (h_l : ∀ f ∈ l, PSm f) (h_n : l.length ≤ 1000000) (st : St) :
    ∀ (n io : Nat) (row : List (List Pred)) (kr : Nat) (e0 e5 e6 e8 e9 e11 e18 e19 e20 e32 e33 e34 : E) (T : List (Nat × E)) (X : List (Nat × List V)) (ht0 : e0.Tame) (ht5 : e5.Tame) (ht6 : e6.Tame) (ht8 : e8.Tame) (ht9 : e9.Tame) (ht11 : e11.Tame) (ht18 : e18.Tame) (ht19 : e19.Tame) (ht20 : e20.Tame) (ht32 : e32.Tame) (ht33 : e33.Tame) (ht34 : e34.Tame), (∀ g ∈ row, PSm g) → row.length ≤ io → io ≤ l.length → l.length - io = n → (kr = 0 ∧ row = [] ∨ kr = 1) →
    evK gS fi49 c49_8 { ps := [(0, e0), (2, .own 0 []), (3, .own kr (encPredss row)), (5, e5), (6, e6), (8, e8), (9, e9), (11, e11), (12, .val (.slice (encPredss l))), (13, .val (.int .i64 l.length)), (14, .val (.int .i64 (io : Nat))), (18, e18), (19, e19), (20, e20), (32, e32), (33, e33), (34, e34)], ts := T, lc := X } st (.blk 0 (.seq c49_69 .nil)) = some (.ret (.slice (encPredss ((l.drop io).foldl fredStep row))) none, st) := by
  intro n
  have hm : fi49.marks = [1000000] := rfl
  have hl : fi49.locals = [] := rfl
  have hr : fi49.results = [.tmp 2] := rfl
  induction n with
  | zero =>
    intro io row kr e0 e5 e6 e8 e9 e11 e18 e19 e20 e32 e33 e34 T X ht0 ht5 ht6 ht8 ht9 ht11 ht18 ht19 ht20 ht32 ht33 ht34 h_r hri hio hn hkr
    obtain rfl : io = l.length := by omega
    rw [List.drop_length]
    have hz : ∀ st, frz 6 st (.slice (encPredss row)) = some (.slice (encPredss row), st) := fun st => frz_flat 6 st _ (by simp [V.flat])
    show _ = some (Out.ret (V.slice (encPredss row)) none, st)
    refine evK_loop c49_9 _ _ _ _ rfl ?_
    rcases hkr with ⟨rfl, rfl⟩ | rfl
    · have en : encPredss [] = [] := rfl
      rw [en] at hz ⊢
      simp [hz, ht0, ht5, ht6, ht8, ht9, ht11, ht18, ht19, ht20, ht32, ht33, ht34, -Int.not_le, -Int.not_lt, -Nat.not_le, -Nat.not_lt, ty3, ty4, ty49, ty51, hm, hl, hr, k43, k45, E49, e49_38, n49_25, n49_50, n49_8]
    · simp [hz, ht0, ht5, ht6, ht8, ht9, ht11, ht18, ht19, ht20, ht32, ht33, ht34, -Int.not_le, -Int.not_lt, -Nat.not_le, -Nat.not_lt, ty3, ty4, ty49, ty51, hm, hl, hr, k43, k45, E49, e49_38, n49_25, n49_50, n49_8]
  | succ n ih =>
    intro io row kr e0 e5 e6 e8 e9 e11 e18 e19 e20 e32 e33 e34 T X ht0 ht5 ht6 ht8 ht9 ht11 ht18 ht19 ht20 ht32 ht33 ht34 h_r hri hio hn hkr
    obtain ⟨f, hf⟩ : ∃ f, l[io]? = some f := ⟨l[io]'(by omega), List.getElem?_eq_getElem (by omega)⟩
    have hd := drop_get hf
    have hlt : (io : Int) < (l.length : Int) := by omega
    have hlt2 : io < l.length := by omega
    have hfe : l[io]'hlt2 = f := by rw [List.getElem?_eq_getElem hlt2] at hf; exact Option.some.inj hf
    have hw : IntKind.wrap .i64 ((io : Int) + 1) = ((io + 1 : Nat) : Int) := by rw [wrap64 (by omega) (by omega)]; omega
    have hfs := h_l f (List.mem_of_getElem? hf)
    have hfo := hfs.ok
    rw [hd, List.foldl_cons]
    have hmr : ∀ g ∈ fredStep row f, PSm g := fun g hg => by
      rcases fredStep_mem hg with h | rfl
      · exact h_r g h
      · exact hfs
    have hln := fredStep_len row f
    have IH := fun kr hkr e0 e5 e6 e8 e9 e11 e18 e19 e20 e32 e33 e34 T X ht0 ht5 ht6 ht8 ht9 ht11 ht18 ht19 ht20 ht32 ht33 ht34 => ih (io + 1) (fredStep row f) kr e0 e5 e6 e8 e9 e11 e18 e19 e20 e32 e33 e34 T X ht0 ht5 ht6 ht8 ht9 ht11 ht18 ht19 ht20 ht32 ht33 ht34 hmr (by omega) (by omega) (by omega) hkr
    generalize hR : (Out.ret (V.slice (encPredss ((l.drop (io + 1)).foldl fredStep (fredStep row f)))) none, st) = R at IH ⊢
    have AA := fun H => A49 l h_l h_n io f hf row h_r (by omega) kr st R (row.any fun g => fcovers g f) H row.length 0 false 
    have BB := fun H => B49 l h_l h_n io f hf row h_r (by omega) kr st R (row.filter fun g => !fcovers f g) H row.length 0 0 [] 
    clear ih
    clear hR
    refine evK_loop c49_9 _ _ _ _ rfl ?_
    simp [-Int.natCast_add, hf, hfe, hlt, hlt2, hw, ht0, ht5, ht6, ht8, ht9, ht11, ht18, ht19, ht20, ht32, ht33, ht34, -Int.not_le, -Int.not_lt, -Nat.not_le, -Nat.not_lt, ty3, ty4, ty49, ty51, hm, hl, hr, k43, k45, E49, e49_38, n49_25, n49_50, n49_8]
    refine AA ?_ _ rfl _ _ _ _ _ _ _ _ _ ?_ ?_ ?_ ?_ ?_ ?_ ?_ (Nat.zero_le _) rfl (by simp)
    · clear AA
      intro e0 e8 e9 e11 e32 e33 e34 T X ht0 ht8 ht9 ht11 ht32 ht33 ht34
      cases hc : row.any fun g => fcovers g f with
      | true =>
        have he : fredStep row f = row := by unfold fredStep; rw [if_pos hc]
        rw [he] at IH
        have IHr := IH kr hkr
        simp [-Int.natCast_add, hf, hfe, hlt, hlt2, hw, ht0, ht8, ht9, ht11, ht32, ht33, ht34, -Int.not_le, -Int.not_lt, -Nat.not_le, -Nat.not_lt, ty3, ty4, ty49, ty51, hm, hl, hr, k43, k45, E49, e49_38, n49_25, n49_50, n49_8]
        refine IHr _ _ _ _ _ _ _ _ _ _ _ _ _ _ ?_ ?_ ?_ ?_ ?_ ?_ ?_ ?_ ?_ ?_ ?_ ?_
        all_goals simp [ht0, ht8, ht9, ht11, ht32, ht33, ht34, ]
      | false =>
        have he : fredStep row f = row.filter (fun g => !fcovers f g) ++ [f] := by unfold fredStep; rw [if_neg (by rw [hc]; simp)]
        rw [he] at IH
        simp [-Int.natCast_add, hf, hfe, hlt, hlt2, hw, ht0, ht8, ht9, ht11, ht32, ht33, ht34, -Int.not_le, -Int.not_lt, -Nat.not_le, -Nat.not_lt, ty3, ty4, ty49, ty51, hm, hl, hr, k43, k45, E49, e49_38, n49_25, n49_50, n49_8]
        refine BB ?_ _ rfl _ _ _ _ _ _ _ _ _ ?_ ?_ ?_ ?_ ?_ ?_ ?_ (Nat.zero_le _) rfl (Nat.le_refl _) (.inl ⟨rfl, rfl⟩) (by simp)
        · intro kl e0 e6 e8 e11 e18 e19 e20 T X ht0 ht6 ht8 ht11 ht18 ht19 ht20 hkl
          generalize hfl : row.filter (fun g => !fcovers f g) = fl at *
          have hfll : fl.length ≤ 1000000 := by
            have := List.length_filter_le (fun g => !fcovers f g) row
            rw [hfl] at this; omega
          have hs1 := sizes_predss fl
          have hs2 := predss_snoc fl f
          have hl1 : (fl.length + 1) * 24 ≤ 140737488355328 := by omega
          have hl2 : fl.length + 1 ≤ 140737488355328 := by omega
          have IHr := IH 1 (.inr rfl)
          rcases hkl with ⟨rfl, rfl⟩ | rfl
          · rw [show encPredss ([] ++ [f]) = [.slice (encPreds f)] from rfl] at IHr
            have en : encPredss [] = [] := rfl
            simp [-Int.natCast_add, en, hf, hfe, hlt, hlt2, hw, hfs, hfo, ht0, ht6, ht8, ht11, ht18, ht19, ht20, -Int.not_le, -Int.not_lt, -Nat.not_le, -Nat.not_lt, ty3, ty4, ty49, ty51, hm, hl, hr, k43, k45, E49, e49_67, e49_38, n49_25, n49_50, n49_8]
            refine IHr _ _ _ _ _ _ _ _ _ _ _ _ _ _ ?_ ?_ ?_ ?_ ?_ ?_ ?_ ?_ ?_ ?_ ?_ ?_
            all_goals simp [ht0, ht6, ht8, ht11, ht18, ht19, ht20, ]
          · simp [-List.append_assoc, -Int.natCast_add, hf, hfe, hlt, hlt2, hw, hfs, hfo, hs1, hs2, hl1, hl2, ht0, ht6, ht8, ht11, ht18, ht19, ht20, -Int.not_le, -Int.not_lt, -Nat.not_le, -Nat.not_lt, ty3, ty4, ty49, ty51, hm, hl, hr, k43, k45, E49, e49_67, e49_38, n49_25, n49_50, n49_8]
            refine IHr _ _ _ _ _ _ _ _ _ _ _ _ _ _ ?_ ?_ ?_ ?_ ?_ ?_ ?_ ?_ ?_ ?_ ?_ ?_
            all_goals simp [ht0, ht6, ht8, ht11, ht18, ht19, ht20, ]
        all_goals simp [ht0, ht8, ht9, ht11, ht32, ht33, ht34, ]
    all_goals simp [ht0, ht5, ht6, ht8, ht9, ht11, ht18, ht19, ht20, ht32, ht33, ht34, ]
set_option maxHeartbeats 8000000 in
theorem O50 (l : List (List Pred)) (h_l : ∀ f ∈ l, PSm f) (h_n : l.length ≤ 1000000) (st : St) :
    ∀ (n io : Nat) (row : List (List Pred)) (kr : Nat) (e5 e6 e7 e8 : E) (T : List (Nat × E)) (X : List (Nat × List V)) (ht5 : e5.Tame) (ht6 : e6.Tame) (ht7 : e7.Tame) (ht8 : e8.Tame), (∀ g ∈ row, PSm g) → row.length ≤ io → io ≤ l.length → l.length - io = n → (kr = 0 ∧ row = [] ∨ kr = 1) →
    evK gS fi50 c50_8 { ps := [(0, .val (.slice (encPredss l))), (2, .own 0 []), (3, .own kr (encPredss row)), (4, .val (.int .i64 (io : Nat))), (5, e5), (6, e6), (7, e7), (8, e8)], ts := T, lc := X } st (.blk 0 (.seq c50_63 .nil)) = some (.ret (.slice (encPredss ((l.drop io).foldl fredStep row))) none, st) := by
  intro n
  have hm : fi50.marks = [1000000] := rfl
  have hl : fi50.locals = [] := rfl
  have hr : fi50.results = [.tmp 2] := rfl
  induction n with
  | zero =>
    intro io row kr e5 e6 e7 e8 T X ht5 ht6 ht7 ht8 h_r hri hio hn hkr
    obtain rfl : io = l.length := by omega
    rw [List.drop_length]
    have hz : ∀ st, frz 6 st (.slice (encPredss row)) = some (.slice (encPredss row), st) := fun st => frz_flat 6 st _ (by simp [V.flat])
    show _ = some (Out.ret (V.slice (encPredss row)) none, st)
    refine evK_loop c50_9 _ _ _ _ rfl ?_
    rcases hkr with ⟨rfl, rfl⟩ | rfl
    · have en : encPredss [] = [] := rfl
      rw [en] at hz ⊢
      simp [hz, ht5, ht6, ht7, ht8, -Int.not_le, -Int.not_lt, -Nat.not_le, -Nat.not_lt, ty3, ty4, ty49, ty51, hm, hl, hr, k44, x44, fi44_eq, p44, E50, q50_32, q50_56, e50_34, n50_23, n50_46, n50_8, bo1, bo2]
    · simp [hz, ht5, ht6, ht7, ht8, -Int.not_le, -Int.not_lt, -Nat.not_le, -Nat.not_lt, ty3, ty4, ty49, ty51, hm, hl, hr, k44, x44, fi44_eq, p44, E50, q50_32, q50_56, e50_34, n50_23, n50_46, n50_8, bo1, bo2]
  | succ n ih =>
    intro io row kr e5 e6 e7 e8 T X ht5 ht6 ht7 ht8 h_r hri hio hn hkr
    obtain ⟨f, hf⟩ : ∃ f, l[io]? = some f := ⟨l[io]'(by omega), List.getElem?_eq_getElem (by omega)⟩
    have hd := drop_get hf
    have hlt : (io : Int) < (l.length : Int) := by omega
    have hlt2 : io < l.length := by omega
    have hfe : l[io]'hlt2 = f := by rw [List.getElem?_eq_getElem hlt2] at hf; exact Option.some.inj hf
    have hw : IntKind.wrap .i64 ((io : Int) + 1) = ((io + 1 : Nat) : Int) := by rw [wrap64 (by omega) (by omega)]; omega
    have hfs := h_l f (List.mem_of_getElem? hf)
    have hfo := hfs.ok
    rw [hd, List.foldl_cons]
    have hmr : ∀ g ∈ fredStep row f, PSm g := fun g hg => by
      rcases fredStep_mem hg with h | rfl
      · exact h_r g h
      · exact hfs
    have hln := fredStep_len row f
    have IH := fun kr hkr e5 e6 e7 e8 T X ht5 ht6 ht7 ht8 => ih (io + 1) (fredStep row f) kr e5 e6 e7 e8 T X ht5 ht6 ht7 ht8 hmr (by omega) (by omega) (by omega) hkr
    generalize hR : (Out.ret (V.slice (encPredss ((l.drop (io + 1)).foldl fredStep (fredStep row f)))) none, st) = R at IH ⊢
    have AA := fun H => A50 l h_l h_n io f hf row h_r (by omega) kr st R (row.any fun g => fcovers g f) H row.length 0 false 
    have BB := fun H => B50 l h_l h_n io f hf row h_r (by omega) kr st R (row.filter fun g => !fcovers f g) H row.length 0 0 [] 
    clear ih
    clear hR
    refine evK_loop c50_9 _ _ _ _ rfl ?_
    simp [-Int.natCast_add, hf, hfe, hlt, hlt2, hw, ht5, ht6, ht7, ht8, -Int.not_le, -Int.not_lt, -Nat.not_le, -Nat.not_lt, ty3, ty4, ty49, ty51, hm, hl, hr, k44, x44, fi44_eq, p44, E50, q50_32, q50_56, e50_34, n50_23, n50_46, n50_8, bo1, bo2]
    refine AA ?_ _ _ _ _ ?_ ?_ (Nat.zero_le _) rfl (by simp)
    · clear AA
      intro e7 e8 T X ht7 ht8
      cases hc : row.any fun g => fcovers g f with
      | true =>
        have he : fredStep row f = row := by unfold fredStep; rw [if_pos hc]
        rw [he] at IH
        have IHr := IH kr hkr
        simp [-Int.natCast_add, hf, hfe, hlt, hlt2, hw, ht7, ht8, -Int.not_le, -Int.not_lt, -Nat.not_le, -Nat.not_lt, ty3, ty4, ty49, ty51, hm, hl, hr, k44, x44, fi44_eq, p44, E50, q50_32, q50_56, e50_34, n50_23, n50_46, n50_8, bo1, bo2]
        refine IHr _ _ _ _ _ _ ?_ ?_ ?_ ?_
        all_goals simp [ht7, ht8, ]
      | false =>
        have he : fredStep row f = row.filter (fun g => !fcovers f g) ++ [f] := by unfold fredStep; rw [if_neg (by rw [hc]; simp)]
        rw [he] at IH
        simp [-Int.natCast_add, hf, hfe, hlt, hlt2, hw, ht7, ht8, -Int.not_le, -Int.not_lt, -Nat.not_le, -Nat.not_lt, ty3, ty4, ty49, ty51, hm, hl, hr, k44, x44, fi44_eq, p44, E50, q50_32, q50_56, e50_34, n50_23, n50_46, n50_8, bo1, bo2]
        refine BB ?_ _ _ _ _ ?_ ?_ (Nat.zero_le _) rfl (Nat.le_refl _) (.inl ⟨rfl, rfl⟩) (by simp)
        · intro kl e5 e6 T X ht5 ht6 hkl
          generalize hfl : row.filter (fun g => !fcovers f g) = fl at *
          have hfll : fl.length ≤ 1000000 := by
            have := List.length_filter_le (fun g => !fcovers f g) row
            rw [hfl] at this; omega
          have hs1 := sizes_predss fl
          have hs2 := predss_snoc fl f
          have hl1 : (fl.length + 1) * 24 ≤ 140737488355328 := by omega
          have hl2 : fl.length + 1 ≤ 140737488355328 := by omega
          have IHr := IH 1 (.inr rfl)
          rcases hkl with ⟨rfl, rfl⟩ | rfl
          · rw [show encPredss ([] ++ [f]) = [.slice (encPreds f)] from rfl] at IHr
            have en : encPredss [] = [] := rfl
            simp [-Int.natCast_add, en, hf, hfe, hlt, hlt2, hw, hfs, hfo, ht5, ht6, -Int.not_le, -Int.not_lt, -Nat.not_le, -Nat.not_lt, ty3, ty4, ty49, ty51, hm, hl, hr, k44, x44, fi44_eq, p44, E50, q50_32, q50_56, e50_61, e50_34, n50_23, n50_46, n50_8, bo1, bo2]
            refine IHr _ _ _ _ _ _ ?_ ?_ ?_ ?_
            all_goals simp [ht5, ht6, ]
          · simp [-List.append_assoc, -Int.natCast_add, hf, hfe, hlt, hlt2, hw, hfs, hfo, hs1, hs2, hl1, hl2, ht5, ht6, -Int.not_le, -Int.not_lt, -Nat.not_le, -Nat.not_lt, ty3, ty4, ty49, ty51, hm, hl, hr, k44, x44, fi44_eq, p44, E50, q50_32, q50_56, e50_61, e50_34, n50_23, n50_46, n50_8, bo1, bo2]
            refine IHr _ _ _ _ _ _ ?_ ?_ ?_ ?_
            all_goals simp [ht5, ht6, ]
        all_goals simp [ht7, ht8, ]
    all_goals simp [ht5, ht6, ht7, ht8, ]
set_option maxHeartbeats 8000000 in
theorem c49 (l : List (List Pred)) (h_l : ∀ f ∈ l, PSm f) (h_n : l.length ≤ 1000000) (st : St) : EvF gS 49 [.slice (encPredss l)] st = some (.ret (.slice (encPredss (freduce l))) none, st) := by
  refine EvF_start fi49_eq (fun x h => by cases h) m49 ?_
  rw [st49]
  have hm : fi49.marks = [1000000] := rfl
  have hl : fi49.locals = [] := rfl
  have hr : fi49.results = [.tmp 2] := rfl
  have L0 := fun e0 e5 e6 e8 e9 e11 e18 e19 e20 e32 e33 e34 T X ht0 ht5 ht6 ht8 ht9 ht11 ht18 ht19 ht20 ht32 ht33 ht34 => O49 l h_l h_n st l.length 0 [] 0 e0 e5 e6 e8 e9 e11 e18 e19 e20 e32 e33 e34 T X ht0 ht5 ht6 ht8 ht9 ht11 ht18 ht19 ht20 ht32 ht33 ht34 (by simp) (Nat.zero_le _) (Nat.zero_le _) rfl (.inl ⟨rfl, rfl⟩)
  simp only [show ((0 : Nat) : Int) = 0 from rfl, List.drop_zero, show encPredss [] = [] from rfl] at L0
  show _ = some (Out.ret (V.slice (encPredss (l.foldl fredStep []))) none, st)
  simp [L0, -Int.not_le, -Int.not_lt, -Nat.not_le, -Nat.not_lt, ty3, ty4, ty49, ty51, hm, hl, hr, k43, k45, E49, e49_67, e49_38, n49_25, n49_50, n49_8]
theorem k49 (l : List (List Pred)) (h_l : ∀ f ∈ l, PSm f) (h_n : l.length ≤ 1000000) (fr : Fr) (st : St) : callStep gS (EvF gS) 49 [.slice (encPredss l)] fr st = some (.ok (.val (.slice (encPredss (freduce l)))) fr st) :=
  call_pure rfl fi49_eq rfl (fun st => c49 l h_l h_n st) (by simp [V.flat])
set_option maxHeartbeats 8000000 in
theorem c50 (l : List (List Pred)) (h_l : ∀ f ∈ l, PSm f) (h_n : l.length ≤ 1000000) (st : St) : EvF gS 50 [.slice (encPredss l)] st = some (.ret (.slice (encPredss (freduce l))) none, st) := by
  refine EvF_start fi50_eq (fun x h => by cases h) m50 ?_
  rw [st50]
  have hm : fi50.marks = [1000000] := rfl
  have hl : fi50.locals = [] := rfl
  have hr : fi50.results = [.tmp 2] := rfl
  have L0 := fun e5 e6 e7 e8 T X ht5 ht6 ht7 ht8 => O50 l h_l h_n st l.length 0 [] 0 e5 e6 e7 e8 T X ht5 ht6 ht7 ht8 (by simp) (Nat.zero_le _) (Nat.zero_le _) rfl (.inl ⟨rfl, rfl⟩)
  simp only [show ((0 : Nat) : Int) = 0 from rfl, List.drop_zero, show encPredss [] = [] from rfl] at L0
  show _ = some (Out.ret (V.slice (encPredss (l.foldl fredStep []))) none, st)
  simp [L0, -Int.not_le, -Int.not_lt, -Nat.not_le, -Nat.not_lt, ty3, ty4, ty49, ty51, hm, hl, hr, k44, x44, fi44_eq, p44, E50, q50_32, q50_56, e50_61, e50_34, n50_23, n50_46, n50_8]
theorem k50 (l : List (List Pred)) (h_l : ∀ f ∈ l, PSm f) (h_n : l.length ≤ 1000000) (fr : Fr) (st : St) : callStep gS (EvF gS) 50 [.slice (encPredss l)] fr st = some (.ok (.val (.slice (encPredss (freduce l)))) fr st) :=
  call_pure rfl fi50_eq rfl (fun st => c50 l h_l h_n st) (by simp [V.flat])
end
end Go.Proofs.Ytclpbfkbpcjejaa
namespace Go.Ab
open Go
set_option linter.unusedVariables false
set_option linter.unusedSimpArgs false
set_option linter.unnecessarySimpa false
section
variable {α : Type}
theorem row_drop (c : α → List V) (k : Nat) (hc : ∀ x, (c x).length = k) : ∀ (l : List α) (i : Nat), (l.flatMap c).drop (i * k) = (l.drop i).flatMap c
  | [], i => by simp
  | x :: r, 0 => by simp
  | x :: r, i + 1 => by
    rw [List.flatMap_cons, List.drop_succ_cons, ← row_drop c k hc r i, List.drop_append, hc, List.drop_of_length_le (by rw [hc, Nat.succ_mul]; omega), List.nil_append, Nat.succ_mul, Nat.add_sub_cancel]
theorem row_take (c : α → List V) (k : Nat) (hc : ∀ x, (c x).length = k) : ∀ (l : List α) (i : Nat), (l.flatMap c).take (i * k) = (l.take i).flatMap c
  | [], i => by simp
  | x :: r, 0 => by simp
  | x :: r, i + 1 => by
    rw [List.flatMap_cons, List.take_succ_cons, List.flatMap_cons, ← row_take c k hc r i, List.take_append, hc, List.take_of_length_le (by rw [hc, Nat.succ_mul]; omega), Nat.succ_mul, Nat.add_sub_cancel]
theorem row_splices (c : α → List V) (k : Nat) (hc : ∀ x, (c x).length = k) (l m : List α) (i : Nat) (h : i + m.length ≤ l.length) : splice (l.flatMap c) (i * k) (m.flatMap c) = some ((l.take i ++ m ++ l.drop (i + m.length)).flatMap c) := by
  unfold splice
  rw [row_len c k hc, row_len c k hc, if_pos (by rw [← Nat.add_mul]; exact Nat.mul_le_mul_right k h), row_take c k hc, ← Nat.add_mul, row_drop c k hc, List.flatMap_append, List.flatMap_append]
end
def N4 : List (List UInt8) := [[97], [98], [99], [108, 111, 110, 103]]
def nameV (l : List Int) (a j : Nat) : List UInt8 := N4.getD ((fd l a j 12).toNat / 3 % 4) []
/-- Behind which one a name has its place. -/
def insN (f : List Pred) (nm : List UInt8) : Nat → Nat
  | 0 => 0
  | k + 1 => if sgt ((f[k]?).getD ⟨[], 0, vzero, vzero, []⟩).name nm then insN f nm k else k + 1
theorem insN_le (f : List Pred) (nm : List UInt8) : ∀ k, insN f nm k ≤ k
  | 0 => Nat.le_refl _
  | k + 1 => by
    unfold insN; split
    · exact Nat.le_succ_of_le (insN_le f nm k)
    · exact Nat.le_refl _
def insP (f : List Pred) (p : Pred) (nm : List UInt8) : List Pred := f.take (insN f nm f.length) ++ p :: f.drop (insN f nm f.length)
theorem insP_length (f : List Pred) (p : Pred) (nm : List UInt8) : (insP f p nm).length = f.length + 1 := by
  have := insN_le f nm f.length
  unfold insP; simp; omega
/-- A filter, where the feed stands then, how many objects were given up. -/
def filterG (l : List Int) (a : Nat) : Nat → Nat → Nat → List Pred → List Pred × Nat × Nat
  | 0, j, d, f => (f, j, d)
  | n + 1, j, d, f => filterG l a n (j + 1 + (predV l a (j + 1) (nameV l a j)).2) (d + (predV l a (j + 1) (nameV l a j)).1.set.length + 1) (insP f (predV l a (j + 1) (nameV l a j)).1 (nameV l a j))
def filterV (l : List Int) (a j : Nat) : List Pred × Nat × Nat := filterG l a (fd l a j 4).toNat (j + 1) 0 []
def pzero : Pred := ⟨[], 0, vzero, vzero, []⟩
theorem pcells_len (p : Pred) : (Pred.cells p).length = 13 := rfl
theorem pcells_one (p : Pred) : (Pred.cells p).all V.one = true := rfl
theorem pcells_flats (p : Pred) : flats (Pred.cells p) = true := by simp [flats, V.flat]
theorem pcells_strip (p : Pred) : (Pred.cells p).map V.strip1 = Pred.cells p := rfl
theorem chunk_preds1 (l : List Pred) : chunk true 13 l.length (l.flatMap Pred.cells) = encPreds l := chunk_enc Pred.cells 13 (by omega) (fun _ => rfl) l
theorem enc_cells (l : List Pred) : (encPreds l).flatMap V.cells = l.flatMap Pred.cells := by
  induction l with
  | nil => rfl
  | cons x r ih => simp only [encPreds, List.map_cons, List.flatMap_cons] at ih ⊢; rw [ih]; rfl
/-- The elements of a part of a row. -/
theorem elems_row {st : St} {id : Nat} {l : List Pred} (ho : St.obj st id = some (l.flatMap Pred.cells)) (f : Bool) {i : Nat} (hi : i ≤ l.length) :
    elemsAt true 13 st (.val (.sref f 13 id (i * 13) (l.length - i))) = some (encPreds (l.drop i)) := by
  unfold elemsAt
  simp only [ho, row_len Pred.cells 13 pcells_len, true_and]
  have h1 : i * 13 + (l.length - i) * 13 ≤ l.length * 13 := by omega
  have h2 : ((l.flatMap Pred.cells).map V.strip1).all V.one = true := by rw [row_strip _ _ pcells_strip]; exact row_one _ pcells_one l
  have h3 : (true || (13 : Nat) == 1) = true := rfl
  by_cases hz : l.length - i = 0
  · rw [if_pos hz, List.drop_of_length_le (by omega)]; rfl
  rw [if_neg hz, if_pos ⟨h1, h3, h2⟩, row_drop Pred.cells 13 pcells_len, List.take_of_length_le (by rw [row_len Pred.cells 13 pcells_len]; simp), row_strip _ _ pcells_strip]
  have := chunk_preds1 (l.drop i)
  rw [List.length_drop] at this
  rw [this]
theorem frz_preds {st st1 : St} (n id : Nat) (l : List Pred) (hl : l ≠ []) (ho : St.obj st id = some (l.flatMap Pred.cells)) (hs : St.set st id [] = some st1) : frz (n + 1) st (.sref false 13 id 0 l.length) = some (.slice (encPreds l), st1) := by
  have := frz_row n id 13 (by omega) Pred.cells Pred.cells pcells_len pcells_len pcells_strip pcells_one pcells_flats l hl ho hs
  rw [show Nat.blt 1 13 = true from rfl, chunk_preds1] at this
  exact this
/-- A row behind which others were given up. -/
theorem obj_mid {st : St} {id : Nat} (h : FeedOk st id) (m k : Nat) (cs : List V) (l : List Int) (a : Nat) : St.obj (setF (dd (nw st m cs) k) id l a) (st.objs.length + m) = some cs := by
  unfold St.obj setF
  show ((dd (nw st m cs) k).objs.set id _)[_]? = _
  rw [List.getElem?_set_ne (by have := h.1; omega)]
  unfold dd
  show ((nw st m cs).objs ++ _)[_]? = _
  rw [List.getElem?_append_left (by rw [gr_len]; omega), gr_obj]
theorem dd_nw_kill (st : St) (m k : Nat) (cs : List V) (h : st.wp ≤ st.objs.length) : St.set (dd (nw st m cs) k) (st.objs.length + m) [] = some (dd st (m + 1 + k)) := by
  unfold St.set
  rw [if_pos (by rw [dd_wp, gr_wp]; omega)]
  unfold dd nw
  simp only [Option.some.injEq, St.mk.injEq, and_true]
  rw [List.append_assoc, List.set_append_right _ _ (by omega), Nat.add_sub_cancel_left, List.append_assoc, List.set_append_right _ _ (by simp), List.length_replicate, Nat.sub_self]
  simp only [List.singleton_append, List.set_cons_zero]
  rw [show m + 1 + k = m + (1 + k) by omega, ← List.replicate_append_replicate, ← List.replicate_append_replicate (n := 1)]
  rfl
theorem set_mid {st : St} {id : Nat} (h : FeedOk st id) (m k : Nat) (cs : List V) (l : List Int) (a : Nat) : St.set (setF (dd (nw st m cs) k) id l a) (st.objs.length + m) [] = some (setF (dd st (m + 1 + k)) id l a) := by
  have h1 := h.1
  have h2 := h.2
  have hk := dd_nw_kill st m k cs (by omega)
  unfold St.set at hk ⊢
  rw [if_pos (by rw [dd_wp, gr_wp]; omega)] at hk
  rw [if_pos (by rw [setF_wp, dd_wp, gr_wp]; omega)]
  have hk2 := Option.some.inj hk
  congr 1
  rw [← hk2]
  unfold setF
  simp only [St.mk.injEq, and_true]
  rw [List.set_comm _ _ (by omega)]
end Go.Ab
namespace Go.Proofs.Ytclpbfkbpcjejaa
open Go Go.Ab
set_option linter.unusedVariables false
set_option linter.unusedSimpArgs false
set_option linter.unnecessarySimpa false
set_option maxRecDepth 20000
noncomputable section
variable (fr : Fr) (st : St) (k : Kt)
def fi91 : FI := { body := codeOf Try.f91, ntmps := 9, results := [.tmp 2], pers := [0, 2], locals := [], pure := false, marks := [] }
theorem fi91_eq : gS.fn 91 = some fi91 := by kernel_rfl
theorem st91 (a0 : V) : startFr fi91 [a0] = { ps := [(0, .val a0), (2, .any)], ts := [], lc := [] } := rfl
def b91 : Code := mini (codeOf Try.f91)
def c91_2 : Code := .seq (codeN b91 5) .ret
theorem e91_2 : evK gS fi91 c91_2 fr st k = opsR gS fi91 [op1 3 (.build 107 #[(0, (.const (.string { data := #[97] }))), (1, (.const (.string { data := #[98] }))), (2, (.const (.string { data := #[99] }))), (3, (.const (.string { data := #[108, 111, 110, 103] })))]) 107,
 mv 4 0 29,
 cal 5 16 [(.tmp 4), (.const (.int .i64 12))] [29, 3] 3,
 op1 6 (.binOp .quo 3 (.tmp 5) (.const (.int .i64 3)) 3) 3,
 op1 7 (.binOp .rem 3 (.tmp 6) (.const (.int .i64 4)) 3) 3,
 op1 8 (.index 107 (.tmp 3) (.tmp 7)) 9,
 asn 2 8 9] fr st (.seq .ret k) := evK_rs 1 rfl (by kernel_rfl)
def c91_0 : Code := .seq (codeN b91 2) c91_2
theorem e91_0 : evK gS fi91 c91_0 fr st k = opsR gS fi91 [op1 2 (.assign (.const (.string { data := #[] }))) 9] fr st (.seq c91_2 k) := evK_rs 0 rfl (by kernel_rfl)
theorem m91 : mini fi91.body = c91_0 := by kernel_rfl
set_option maxHeartbeats 8000000 in
theorem c91 (l : List Int) (a j id : Nat) (st : St) (h : FeedOk st id) (ha : a < 549755813888) (hj : j < 549755812000) :
    EvF gS 91 [.ptr id 0] (setF st id l (nA l a j)) = some (.ret (.str (nameV l a j)) none, setF st id l (nA l a (j + 1))) := by
  refine EvF_start fi91_eq (fun x h => by cases h) m91 ?_
  rw [st91]
  have hm : fi91.marks = [] := rfl
  have hl : fi91.locals = [] := rfl
  have hr : fi91.results = [.tmp 2] := rfl
  have hb := fd_bound l a j (n := 12) (by omega)
  unfold nameV
  have hk := fun fr => k16 l a j id 12 fr st h ha (by omega) (by omega)
  generalize fd l a j 12 = z at *
  have hz : z = 0 ∨ z = 1 ∨ z = 2 ∨ z = 3 ∨ z = 4 ∨ z = 5 ∨ z = 6 ∨ z = 7 ∨ z = 8 ∨ z = 9 ∨ z = 10 ∨ z = 11 := by omega
  have v1 : IntKind.wrap .i64 1 = 1 := w64_1
  have v2 : IntKind.wrap .i64 2 = 2 := w64_2
  have v3 : IntKind.wrap .i64 3 = 3 := w64_3
  have v0 : IntKind.wrap .i64 0 = 0 := by kernel_rfl
  rcases hz with rfl | rfl | rfl | rfl | rfl | rfl | rfl | rfl | rfl | rfl | rfl | rfl <;>
    simp [N4, hk, v0, v1, v2, v3, -Int.not_le, -Int.not_lt, -Nat.not_le, -Nat.not_lt, ty3, ty9, ty29, ty107, hm, hl, hr, e91_2, e91_0]
theorem k91 (l : List Int) (a j id : Nat)  (fr : Fr) (st : St) (h : FeedOk st id) (ha : a < 549755813888) (hj : j < 549755812000) :
    callStep gS (EvF gS) 91 [.ptr id 0] fr (setF st id l (nA l a j)) = some (.ok (.val (.str (nameV l a j))) (fr.map E.noMem) (setF st id l (nA l a (j + 1)))) := by
  unfold callStep
  simp only [show gS.ext 91 = none from rfl, fi91_eq, show fi91.pure = false from rfl, Bool.false_eq_true, if_false, c91 l a j id  st h ha (by omega), retE]
  all_goals rfl
end
end Go.Proofs.Ytclpbfkbpcjejaa
namespace Go.Proofs.Ytclpbfkbpcjejaa
open Go Go.Ab
set_option linter.unusedVariables false
set_option linter.unusedSimpArgs false
set_option linter.unnecessarySimpa false
set_option maxRecDepth 20000
noncomputable section
variable (fr : Fr) (st : St) (k : Kt)
def fi35 : FI := { body := codeOf Try.f35, ntmps := 57, results := [.tmp 2], pers := [0, 2, 3, 4, 5, 6, 7], locals := [6], pure := false, marks := [43, 1000000] }
theorem fi35_eq : gS.fn 35 = some fi35 := by kernel_rfl
theorem st35 (a0 : V) : startFr fi35 [a0] = { ps := [(0, .val a0), (2, .any), (3, .any), (4, .any), (5, .any), (6, .any), (7, .any)], ts := [], lc := [] } := rfl
def b35 : Code := mini (codeOf Try.f35)
def c35_12 : Code := .cond (.tmp 16) .skip (.exit 0)
def c35_10 : Code := .seq (codeN b35 267) c35_12
def c35_29 : Code := .cond (.tmp 37) .skip (.exit 2)
def c35_27 : Code := .seq (codeN b35 134731) c35_29
def c35_33 : Code := codeN b35 167499
def c35_32 : Code := .block 3 c35_33
def c35_26 : Code := .seq c35_27 c35_32
def c35_25 : Code := .loop c35_26
def r35_37 : Array Oper := regOps (codeN (codeOf Try.f35) 48715)
def c35_37 : Code := .region 11 r35_37 true
def q35_37 : List (Oper × Fl) := [(mv 44 3 49, ⟨true, false, true, false, false, false, true, true, false, false, []⟩),
 (mv 45 7 3, ⟨true, false, true, false, false, false, true, true, false, false, []⟩),
 (op1 46 (.binOp .add 3 (.tmp 45) (.const (.int .i64 1)) 3) 3, ⟨true, false, true, false, false, false, true, true, false, false, []⟩),
 (op1 47 (.slice 49 (.tmp 44) (some (.tmp 46)) none none) 49, ⟨true, false, true, false, false, false, true, true, false, false, []⟩),
 (mv 48 3 49, ⟨true, false, true, false, false, false, true, true, false, false, []⟩),
 (mv 49 7 3, ⟨true, false, true, false, true, false, true, true, false, false, []⟩),
 (op1 50 (.slice 49 (.tmp 48) (some (.tmp 49)) none none) 49, ⟨true, false, true, false, true, false, true, true, false, false, []⟩),
 (op1 51 (.call { callee := (.builtin .copy), args := #[(.tmp 47), (.tmp 50)], argTypes := #[49, 49] }) 3, ⟨false, true, true, false, true, false, true, true, false, false, []⟩)]
def c35_38 : Code := codeN b35 65099
def c35_36 : Code := .seq c35_37 c35_38
def c35_34 : Code := .seq (codeN b35 24139) c35_36
theorem e35_34 : evK gS fi35 c35_34 fr st k = opsR gS fi35 [mv 40 3 49,
 op1 41 (.build 27 #[]) 27,
 op1 42 (.buildSlice 49 1 #[(0, (.tmp 41))]) 49,
 op1 43 (.call { callee := (.builtin .append), args := #[(.tmp 40), (.tmp 42)], argTypes := #[49, 49] }) 49,
 asn 3 43 49] fr st (.seq c35_36 k) := evK_rs 10 rfl (by kernel_rfl)
def c35_23 : Code := .seq (.block 2 c35_25) c35_34
def c35_21 : Code := .seq (codeN b35 5707) c35_23
def c35_19 : Code := .seq (codeN b35 2635) c35_21
def c35_17 : Code := .seq (codeN b35 1099) c35_19
def c35_39 : Code := codeN b35 459
def c35_15 : Code := .seq (.block 1 c35_17) c35_39
def c35_9 : Code := .seq c35_10 c35_15
def c35_8 : Code := .loop c35_9
def c35_7 : Code := .block 0 c35_8
def c35_5 : Code := .seq (codeN b35 19) c35_7
def c35_40 : Code := .seq (codeN b35 23) .ret
def c35_4 : Code := .seq c35_5 c35_40
def c35_2 : Code := .seq (codeN b35 5) c35_4
def c35_0 : Code := .seq (codeN b35 2) c35_2
theorem E35 : evK gS fi35 c35_12 fr st k = condK gS fi35 (fr.op (.tmp 16)).bool? .skip (.exit 0) fr st k ∧
 (evK gS fi35 c35_10 fr st k = opsR gS fi35 [mv 10 4 3,
 op1 11 (.binOp .gtr 3 (.tmp 10) (.const (.int .i64 0)) 3) 4,
 mv 12 11 4,
 mk (some 13) (.move (.tmp 3)) 49 (some (2, true)),
 mk (some 14) (.call { callee := (.builtin .len), args := #[(.tmp 13)], argTypes := #[49] }) 3 (some (2, true)),
 mk (some 15) (.binOp .lss 3 (.tmp 14) (.const (.int .i64 3)) 3) 4 (some (2, true)),
 op1 16 (.pick (.tmp 12) (.tmp 15) (.const (.bool false))) 4] fr st (.seq c35_12 k)) ∧
 evK gS fi35 c35_29 fr st k = condK gS fi35 (fr.op (.tmp 37)).bool? .skip (.exit 2) fr st k ∧
 (evK gS fi35 c35_27 fr st k = opsR gS fi35 [mv 26 7 3,
 op1 27 (.binOp .gtr 3 (.tmp 26) (.const (.int .i64 0)) 3) 4,
 mv 28 27 4,
 mk (some 29) (.move (.tmp 3)) 49 (some (2, true)),
 mk (some 30) (.move (.tmp 7)) 3 (some (2, true)),
 mk (some 31) (.binOp .sub 3 (.tmp 30) (.const (.int .i64 1)) 3) 3 (some (2, true)),
 mk (some 32) (.indexAddr 49 (.tmp 29) (.tmp 31)) 0 (some (2, true)),
 mk (some 33) (.fieldAddr 27 (.tmp 32) 0) 0 (some (2, true)),
 mk (some 34) (.load 9 (.tmp 33)) 9 (some (2, true)),
 mk (some 35) (.move (.tmp 5)) 9 (some (2, true)),
 mk (some 36) (.binOp .gtr 9 (.tmp 34) (.tmp 35) 9) 4 (some (2, true)),
 op1 37 (.pick (.tmp 28) (.tmp 36) (.const (.bool false))) 4] fr st (.seq c35_29 k)) ∧
 (evK gS fi35 c35_33 fr st k = opsR gS fi35 [mv 38 7 3,
 op1 39 (.binOp .sub 3 (.tmp 38) (.const (.int .i64 1)) 3) 3,
 asn 7 39 3] fr st k) ∧
 evK gS fi35 c35_32 fr st k = evK gS fi35 c35_33 fr st (.blk 3 k) ∧
 evK gS fi35 c35_26 fr st k = evK gS fi35 c35_27 fr st (.seq c35_32 k) ∧
 evK gS fi35 c35_37 fr st k = drwR gS fi35 r35_37 q35_37 fr st k ∧
 (evK gS fi35 c35_38 fr st k = opsR gS fi35 [mv 52 3 49,
 mv 53 7 3,
 ld 54 27 6 27,
 ixa 55 49 52 53 0,
 sto 27 55 54] fr st k) ∧
 evK gS fi35 c35_36 fr st k = evK gS fi35 c35_37 fr st (.seq c35_38 k) ∧
 evK gS fi35 c35_23 fr st k = evK gS fi35 c35_25 fr st (.blk 2 (.seq c35_34 k)) ∧
 (evK gS fi35 c35_21 fr st k = opsR gS fi35 [mv 24 3 49,
 len1 25 24 49 3,
 asn 7 25 3] fr st (.seq c35_23 k)) ∧
 (evK gS fi35 c35_19 fr st k = opsR gS fi35 [mv 21 0 29,
 mv 22 5 9,
 cal 23 29 [(.tmp 21), (.tmp 22)] [29, 9] 27,
 op1 6 (.alloc 27) 0,
 sto 27 6 23] fr st (.seq c35_21 k)) ∧
 (evK gS fi35 c35_17 fr st k = opsR gS fi35 [mv 19 0 29,
 cal 20 91 [(.tmp 19)] [29] 9,
 asn 5 20 9] fr st (.seq c35_19 k)) ∧
 (evK gS fi35 c35_39 fr st k = opsR gS fi35 [mv 17 4 3,
 op1 18 (.binOp .sub 3 (.tmp 17) (.const (.int .i64 1)) 3) 3,
 asn 4 18 3] fr st k) ∧
 evK gS fi35 c35_15 fr st k = evK gS fi35 c35_17 fr st (.blk 1 (.seq c35_39 k)) ∧
 evK gS fi35 c35_9 fr st k = evK gS fi35 c35_10 fr st (.seq c35_15 k) ∧
 evK gS fi35 c35_7 fr st k = evK gS fi35 c35_8 fr st (.blk 0 k) ∧
 (evK gS fi35 c35_5 fr st k = opsR gS fi35 [mv 8 0 29,
 cal 9 16 [(.tmp 8), (.const (.int .i64 4))] [29, 3] 3,
 asn 4 9 3] fr st (.seq c35_7 k)) ∧
 (evK gS fi35 c35_40 fr st k = opsR gS fi35 [mv 56 3 49,
 asn 2 56 49] fr st (.seq .ret k)) ∧
 evK gS fi35 c35_4 fr st k = evK gS fi35 c35_5 fr st (.seq c35_40 k) ∧
 evK gS fi35 c35_2 fr st k = opsR gS fi35 [op1 3 (.assign (.const (.slice none 0 0))) 49] fr st (.seq c35_4 k) ∧
 evK gS fi35 c35_0 fr st k = opsR gS fi35 [op1 2 (.assign (.const (.slice none 0 0))) 49] fr st (.seq c35_2 k) := ⟨rfl, evK_rs 3 rfl (by kernel_rfl), rfl, evK_rs 8 rfl (by kernel_rfl), evK_r 9 (by kernel_rfl), rfl, rfl, evK_dr 11 rfl (by kernel_rfl) (by kernel_rfl), evK_r 12 (by kernel_rfl), rfl, rfl, evK_rs 7 rfl (by kernel_rfl), evK_rs 6 rfl (by kernel_rfl), evK_rs 5 rfl (by kernel_rfl), evK_r 4 (by kernel_rfl), rfl, rfl, rfl, evK_rs 2 rfl (by kernel_rfl), evK_rs 13 rfl (by kernel_rfl), rfl, evK_rs 1 rfl (by kernel_rfl), evK_rs 0 rfl (by kernel_rfl)⟩
theorem m35 : mini fi35.body = c35_0 := by kernel_rfl
theorem n35_25 (fr : Fr) (st : St) (k : Kt) : nextK gS fi35 (.loop c35_26 k) .normal fr st = evK gS fi35 c35_25 fr st k := rfl
theorem n35_8 (fr : Fr) (st : St) (k : Kt) : nextK gS fi35 (.loop c35_9 k) .normal fr st = evK gS fi35 c35_8 fr st k := rfl
set_option maxHeartbeats 8000000 in
theorem I35 (nm : List UInt8) (f : List Pred) (idl : Nat) (st : St) (ho : St.obj st idl = some (f.flatMap Pred.cells)) (hfn : f.length < 1000) (R : Out × St) (e0 e4 : E) (h0 : e0.Tame) (h4 : e4.Tame) (X : List (Nat × List V)) (at0 : Nat)
    (H : ∀ T, evK gS fi35 c35_34 { ps := [(0, e0), (2, .own 0 []), (3, .val (.sref false 13 idl 0 f.length)), (4, e4), (5, .val (.str nm)), (6, .lp 6 0), (7, .val (.int .i64 at0))], ts := T, lc := X } st (.blk 1 (.seq c35_39 (.loop c35_9 (.blk 0 (.seq c35_40 .nil))))) = some R) :
    ∀ (k : Nat) (T : List (Nat × E)), k ≤ f.length → at0 = insN f nm k →
    evK gS fi35 c35_25 { ps := [(0, e0), (2, .own 0 []), (3, .val (.sref false 13 idl 0 f.length)), (4, e4), (5, .val (.str nm)), (6, .lp 6 0), (7, .val (.int .i64 k))], ts := T, lc := X } st (.blk 2 (.seq c35_34 (.blk 1 (.seq c35_39 (.loop c35_9 (.blk 0 (.seq c35_40 .nil))))))) = some R := by
  intro k
  have hm : fi35.marks = [43, 1000000] := rfl
  have hl : fi35.locals = [6] := rfl
  have hr : fi35.results = [.tmp 2] := rfl
  induction k with
  | zero =>
    intro T hk hat
    refine evK_loop c35_26 _ _ _ _ rfl ?_
    have h00 : insN f nm 0 = 0 := rfl
    rw [h00] at hat
    subst hat
    simp only [show ((0 : Nat) : Int) = 0 from rfl] at H ⊢
    simp [-St.obj, -St.set, h0, h4, H, -Int.not_le, -Int.not_lt, -Nat.not_le, -Nat.not_lt, ty3, ty4, ty9, ty27, ty29, ty49, hm, hl, hr, fi16_eq, fi29_eq, fi91_eq, E35, q35_37, n35_25, n35_8]
  | succ k ih =>
    intro T hk hat
    refine evK_loop c35_26 _ _ _ _ rfl ?_
    obtain ⟨x, hx⟩ : ∃ x, f[k]? = some x := ⟨f[k]'(by omega), List.getElem?_eq_getElem (by omega)⟩
    have hget := row_get Pred.cells 13 pcells_len hx (j := 0) (by omega)
    have hc0 : (Pred.cells x)[0]? = some (.str x.name) := rfl
    rw [hc0, Nat.add_zero] at hget
    have hins : insN f nm (k + 1) = if sgt x.name nm then insN f nm k else k + 1 := by
      show (if sgt ((f[k]?).getD ⟨[], 0, vzero, vzero, []⟩).name nm then insN f nm k else k + 1) = _
      rw [hx]; rfl
    rw [hins] at hat
    have hw1 : IntKind.wrap .i64 (((k + 1 : Nat) : Int) - 1) = (k : Int) := by rw [wrap64 (by omega) (by omega)]; omega
    have hp : (0 : Int) < ((k + 1 : Nat) : Int) := by omega
    have hlt : (k : Int) < (f.length : Int) := by omega
    have hlt2 : k < f.length := by omega
    have hsg : (!(Op.bytesLess x.name nm || decide (x.name = nm))) = sgt x.name nm := rfl
    cases hs : sgt x.name nm with
    | true =>
      rw [hs] at hsg hat
      have IH := fun T => ih T (by omega) (by rw [hat]; rfl)
      simp [-Int.natCast_add, -Bool.not_or, -St.obj, -St.set, h0, h4, ho, hget, hw1, hp, hlt, hlt2, hsg, IH, -Int.not_le, -Int.not_lt, -Nat.not_le, -Nat.not_lt, ty3, ty4, ty9, ty27, ty29, ty49, hm, hl, hr, fi16_eq, fi29_eq, fi91_eq, E35, q35_37, n35_25, n35_8]
    | false =>
      rw [hs] at hsg hat
      have hat2 : at0 = k + 1 := by rw [hat]; rfl
      subst hat2
      simp [-Int.natCast_add, -Bool.not_or, -St.obj, -St.set, h0, h4, ho, hget, hw1, hp, hlt, hlt2, hsg, H, -Int.not_le, -Int.not_lt, -Nat.not_le, -Nat.not_lt, ty3, ty4, ty9, ty27, ty29, ty49, hm, hl, hr, fi16_eq, fi29_eq, fi91_eq, E35, q35_37, n35_25, n35_8]
theorem ins_shift (f : List Pred) (z p : Pred) {i : Nat} (hi : i ≤ f.length) :
    (((f ++ [z]).take (i + 1) ++ ((f ++ [z]).drop i).take (f.length - i)).take i ++ [p] ++ ((f ++ [z]).take (i + 1) ++ ((f ++ [z]).drop i).take (f.length - i)).drop (i + 1)) = f.take i ++ p :: f.drop i := by
  have h1 : ((f ++ [z]).take (i + 1)).length = i + 1 := by simp; omega
  rw [List.take_append_of_le_length (by omega), List.take_take, Nat.min_eq_left (by omega), List.take_append_of_le_length hi, List.drop_append, h1, Nat.sub_self, List.drop_zero, List.drop_of_length_le (by omega), List.nil_append]
  rw [List.drop_append_of_le_length hi, List.take_append_of_le_length (by simp), List.take_of_length_le (l := f.drop i) (by simp)]
  simp
set_option maxHeartbeats 8000000 in
theorem T35_34 (f : List Pred) (hne : f ≠ []) (p : Pred) (hfn : f.length < 1000) (i : Nat) (hi : i ≤ f.length) (id m q : Nat) (st : St) (h : FeedOk st id) (l : List Int) (A : Nat) (nm : List UInt8) (r : Nat) (hr : r < 1000) (R : Out × St)
    (e0 : E) (h0 : e0.Tame) (X : List (Nat × List V)) (hx : lk X 6 = some p.cells) (T : List (Nat × E))
    (IH : ∀ T, evK gS fi35 c35_8 { ps := [(0, e0), (2, .own 0 []), (3, .val (.sref false 13 (st.objs.length + (m + 1 + q)) 0 (f.length + 1))), (4, .val (.int .i64 r)), (5, .val (.str nm)), (6, .lp 6 0), (7, .val (.int .i64 i))], ts := T, lc := X } (setF (nw st (m + 1 + q) ((f.take i ++ p :: f.drop i).flatMap Pred.cells)) id l A) (.blk 0 (.seq c35_40 .nil)) = some R) :
    evK gS fi35 c35_34 { ps := [(0, e0), (2, .own 0 []), (3, .val (.sref false 13 (st.objs.length + m) 0 f.length)), (4, .val (.int .i64 ((r + 1 : Nat) : Int))), (5, .val (.str nm)), (6, .lp 6 0), (7, .val (.int .i64 i))], ts := T, lc := X } (setF (dd (nw st m (f.flatMap Pred.cells)) q) id l A) (.blk 1 (.seq c35_39 (.loop c35_9 (.blk 0 (.seq c35_40 .nil))))) = some R := by
  have hm : fi35.marks = [43, 1000000] := rfl
  have hl : fi35.locals = [6] := rfl
  have hr : fi35.results = [.tmp 2] := rfl
  have ho := obj_mid h m q (f.flatMap Pred.cells) l A
  have hk := set_mid h m q (f.flatMap Pred.cells) l A
  have hn := fun fr k len cs => newRef_dd h fr (m + 1 + q) k len cs l A
  have hz : f.flatMap Pred.cells ++ [.str [], .int .i64 0, .int .i64 0, .int .i64 0, .float .f64 0, .str [], .bool false, .int .i64 0, .int .i64 0, .float .f64 0, .str [], .bool false, .slice []] = (f ++ [pzero]).flatMap Pred.cells := by simp [pzero, vzero, encVals]
  have hst := row_strip Pred.cells Pred.cells pcells_strip f
  have hon := row_one Pred.cells pcells_one f
  have hle := row_len Pred.cells 13 pcells_len f
  have hfl : 0 < f.length := List.length_pos_iff.2 hne
  have b1 : (f.length + 1) * 144 ≤ 140737488355328 := by omega
  have b2 : f.length + 1 ≤ 140737488355328 := by omega
  have hw1 : IntKind.wrap .i64 ((i : Int) + 1) = ((i + 1 : Nat) : Int) := by rw [wrap64 (by omega) (by omega)]; omega
  have hw2 : IntKind.wrap .i64 (((r + 1 : Nat) : Int) - 1) = (r : Int) := by rw [wrap64 (by omega) (by omega)]; omega
  have ho2 := obj_gr h (m + 1 + q) ((f ++ [pzero]).flatMap Pred.cells) l A
  have hel := elems_row ho2 false (i := i) (by simp; omega)
  rw [List.length_append, List.length_singleton] at hel
  have hlen : (f ++ [pzero]).length = f.length + 1 := by simp
  generalize hE0 : f ++ [pzero] = E0 at *
  have hsh := ins_shift f pzero p hi
  rw [hE0] at hsh
  have hs1 := sizes_preds (E0.drop i)
  have hdl : (E0.drop i).length = f.length + 1 - i := by simp [hlen]
  have c1 : ((i + 1 : Nat) : Int) ≤ (f.length : Int) + 1 := by omega
  have c2 : (i : Int) ≤ (f.length : Int) + 1 := by omega
  have c3 : (i : Int) < (f.length : Int) + 1 := by omega
  have hst2 := fun cs cs' => set_gr' h (m + 1 + q) cs cs' l A
  have hspl := row_splices Pred.cells 13 pcells_len E0 ((E0.drop i).take (f.length - i)) (i + 1) (by rw [List.length_take, hdl, hlen]; omega)
  have hE1 : E0.take (i + 1) ++ (E0.drop i).take (f.length - i) ++ E0.drop (i + 1 + ((E0.drop i).take (f.length - i)).length) = E0.take (i + 1) ++ (E0.drop i).take (f.length - i) := by
    have hd0 : E0.drop (i + 1 + ((E0.drop i).take (f.length - i)).length) = [] := List.drop_of_length_le (by rw [List.length_take, hdl, hlen]; omega)
    rw [hd0, List.append_nil]
  rw [hE1] at hspl
  generalize hE1g : E0.take (i + 1) ++ (E0.drop i).take (f.length - i) = E1 at *
  have hl1 : E1.length = f.length + 1 := by rw [← hE1g, List.length_append, List.length_take, List.length_take, hdl, hlen]; omega
  have hspl2 := row_splices Pred.cells 13 pcells_len E1 [p] i (by rw [hl1, List.length_singleton]; omega)
  rw [List.length_singleton, hsh] at hspl2
  have hpc : [p].flatMap Pred.cells = p.cells := by simp
  rw [hpc] at hspl2
  simp only [Pred.cells] at hspl2 hx
  have hmc : ∀ k, ((encPreds (E0.drop i)).take k).flatMap V.cells = ((E0.drop i).take k).flatMap Pred.cells := fun k => by
    rw [show (encPreds (E0.drop i)).take k = encPreds ((E0.drop i).take k) from by simp [encPreds], enc_cells]
  have hone := row_one Pred.cells pcells_one ((E0.drop i).take (f.length - i))
  have hrl := row_len Pred.cells 13 pcells_len ((E0.drop i).take (f.length - i))
  have ho1 := obj_gr h (m + 1 + q) (E1.flatMap Pred.cells) l A
  have hcp : ∀ n : Nat, (f.length + 1 - i - (n + 1)) = f.length - i - n := fun n => by omega
  have hsz : splice [.str [], .int .i64 0, .int .i64 0, .int .i64 0, .float .f64 0, .str [], .bool false, .int .i64 0, .int .i64 0, .float .f64 0, .str [], .bool false, .osl 0 []] 0 [.str [], .int .i64 0, .int .i64 0, .int .i64 0, .float .f64 0, .str [], .bool false, .int .i64 0, .int .i64 0, .float .f64 0, .str [], .bool false, .slice []] = some [.str [], .int .i64 0, .int .i64 0, .int .i64 0, .float .f64 0, .str [], .bool false, .int .i64 0, .int .i64 0, .float .f64 0, .str [], .bool false, .slice []] := rfl
  have heo : ∀ (ea : Bool) (k : Nat) (st : St) (n : Nat) (xs : List V), elemsAt ea k st (.own n xs) = some xs := fun _ _ _ _ _ => rfl
  by_cases hil : i = f.length
  · have hE01 : E1 = E0 := by
      rw [← hE1g, hil, Nat.sub_self, List.take_zero, List.append_nil, List.take_of_length_le (by omega)]
    subst hil
    rw [Nat.add_sub_cancel_left] at hel
    rw [hE01] at hspl2
    clear hE1 hE1g hspl hsh hone hrl ho1 hcp hmc hpc
    have hd1 : (E0.drop f.length).length = 1 := by rw [hdl]; omega
    simp [-Int.natCast_add, -St.obj, -St.set, -splice, h0, ho, hk, hn, hz, hst, hon, hle, hfl, b1, b2, hw1, hw2, ho2, hel, hlen, hs1, hd1, hspl2, hst2, hsz, heo, copyStep, markStep, markAppend, hx, IH, -Int.not_le, -Int.not_lt, -Nat.not_le, -Nat.not_lt, ty3, ty4, ty9, ty27, ty29, ty49, hm, hl, hr, fi16_eq, fi29_eq, fi91_eq, E35, q35_37, e35_34, n35_25, n35_8]
    simpa [Pred.cells] using IH [(18, .val (.int .i64 (r : Int))), (17, .val (.int .i64 ((r + 1 : Nat) : Int)))]
  · have hmin : min (f.length + 1 - i) (f.length - i) = f.length - i := by omega
    have hlei : ¬ f.length ≤ i := by omega
    have hne0 : ¬ (f.length - i = 0) := by omega
    have hrl2 : (((E0.drop i).take (f.length - i)).flatMap Pred.cells).length = (f.length - i) * 13 := by rw [hrl, List.length_take, hdl]; congr 1; omega
    have hpos2 : 0 < (f.length - i) * 13 := by omega
    have hpos3 : i < f.length := by omega
    have c6 : ((i + 1 : Nat) : Int) ≤ ((f.length + 1 : Nat) : Int) := by omega
    have c7 : (i : Int) ≤ ((f.length + 1 : Nat) : Int) := by omega
    have c8 : (i : Int) < ((f.length + 1 : Nat) : Int) := by omega
    have c9 : (0 : Int) ≤ ((i + 1 : Nat) : Int) := by omega
    have c10 : ¬ i = f.length + 1 := by omega
    simp [-Int.natCast_add, -List.flatMap_append, -St.obj, -St.set, -splice, h0, ho, hk, hn, hz, hst, hon, hle, hfl, b1, b2, hw1, hw2, ho1, ho2, hel, hlen, hs1, hdl, hmin, hlei, hne0, hrl2, hpos2, hpos3, hil, c6, c7, c8, c9, c10, hmc, hone, hspl, hspl2, hst2, hsz, heo, copyStep, markStep, markAppend, hx, -Int.not_le, -Int.not_lt, -Nat.not_le, -Nat.not_lt, ty3, ty4, ty9, ty27, ty29, ty49, hm, hl, hr, fi16_eq, fi29_eq, fi91_eq, E35, q35_37, e35_34, n35_25, n35_8]
    exact IH _
set_option maxHeartbeats 8000000 in
theorem L35 (l : List Int) (a id : Nat) (ha : a < 549755813888) (st : St) (h : FeedOk st id) : ∀ (r j m : Nat) (f : List Pred) (e5 e6 e7 : E) (T : List (Nat × E)) (X : List (Nat × List V)) (h5 : e5.Tame) (h6 : e6.Tame) (h7 : e7.Tame), f ≠ [] → f.length + r ≤ 3 → j + 20 * r < 549755810000 →
    evK gS fi35 c35_8 { ps := [(0, .val (.ptr id 0)), (2, .own 0 []), (3, .val (.sref false 13 (st.objs.length + m) 0 f.length)), (4, .val (.int .i64 r)), (5, e5), (6, e6), (7, e7)], ts := T, lc := X } (setF (nw st m (f.flatMap Pred.cells)) id l (nA l a j)) (.blk 0 (.seq c35_40 .nil)) = some (.ret (.slice (encPreds (filterG l a r j (m + 1) f).1)) none, setF (dd st (filterG l a r j (m + 1) f).2.2) id l (nA l a (filterG l a r j (m + 1) f).2.1)) := by
  intro r
  have hm : fi35.marks = [43, 1000000] := rfl
  have hl : fi35.locals = [6] := rfl
  have hr : fi35.results = [.tmp 2] := rfl
  induction r with
  | zero =>
    intro j m f e5 e6 e7 T X h5 h6 h7 hne hlr hj
    refine evK_loop c35_9 _ _ _ _ rfl ?_
    have hz := frz_preds 5 (st.objs.length + m) f hne (obj_gr h m _ l (nA l a j)) (set_gr h m _ l (nA l a j))
    rw [show filterG l a 0 j (m + 1) f = (f, j, m + 1) from rfl]
    simp [-St.obj, -St.set, h5, h6, h7, hz, -Int.not_le, -Int.not_lt, -Nat.not_le, -Nat.not_lt, ty3, ty4, ty9, ty27, ty29, ty49, hm, hl, hr, fi16_eq, fi29_eq, fi91_eq, E35, q35_37, e35_34, n35_25, n35_8]
  | succ r ih =>
    intro j m f e5 e6 e7 T X h5 h6 h7 hne hlr hj
    refine evK_loop c35_9 _ _ _ _ rfl ?_
    have hn := fun fr => k91 l a j id fr (nw st m (f.flatMap Pred.cells)) (h.nw m _) ha (by omega)
    have hp := fun fr => k29 l a (j + 1) id (nameV l a j) fr (nw st m (f.flatMap Pred.cells)) (h.nw m _) ha (by omega)
    have hg : filterG l a (r + 1) j (m + 1) f = filterG l a r (j + 1 + (predV l a (j + 1) (nameV l a j)).2) (m + 1 + (predV l a (j + 1) (nameV l a j)).1.set.length + 1) (insP f (predV l a (j + 1) (nameV l a j)).1 (nameV l a j)) := rfl
    rw [hg]
    have hpa := pred_asks l a (j + 1) (nameV l a j)
    generalize nameV l a j = nm at *
    generalize predV l a (j + 1) nm = P at *
    obtain ⟨p, k⟩ := P
    simp only at hp hg hpa ⊢
    have c1 : (0 : Int) < ((r + 1 : Nat) : Int) := by omega
    have c2 : (f.length : Int) < 3 := by omega
    have c3 : f.length < 3 := by omega
    have hil := insP_length f p nm
    have hi := insN_le f nm f.length
    have ipe : insP f p nm ≠ [] := by intro e; rw [e] at hil; simp at hil
    have IH := fun T X => ih (j + 1 + k) (m + 1 + p.set.length) (insP f p nm) (.val (.str nm)) (.lp 6 0) (.val (.int .i64 (insN f nm f.length))) T X rfl rfl rfl ipe (by rw [hil]; omega) (by omega)
    rw [hil] at IH
    simp only [insP] at IH ⊢
    have TT := fun X hx T => T35_34 f hne p (by omega) (insN f nm f.length) hi id m p.set.length st h l (nA l a (j + 1 + k)) nm r (by omega) _ (.val (.ptr id 0)) rfl X hx T (fun T => IH T X)
    have II := fun X hx T => I35 nm f (st.objs.length + m) (setF (dd (nw st m (f.flatMap Pred.cells)) p.set.length) id l (nA l a (j + 1 + k))) (obj_mid h m p.set.length _ l _) (by omega) _ (.val (.ptr id 0)) (.val (.int .i64 ((r + 1 : Nat) : Int))) rfl rfl X (insN f nm f.length) (fun T => TT X hx T) f.length T (Nat.le_refl _) rfl
    simp [-Int.natCast_add, -St.obj, -St.set, -List.flatMap_append, h5, h6, h7, hn, hp, c1, c2, c3, -Int.not_le, -Int.not_lt, -Nat.not_le, -Nat.not_lt, ty3, ty4, ty9, ty27, ty29, ty49, hm, hl, hr, fi16_eq, fi29_eq, fi91_eq, E35, q35_37, e35_34, n35_25, n35_8]
    refine II _ ?_ _
    simp
set_option maxHeartbeats 8000000 in
theorem c35 (l : List Int) (a j id : Nat) (st : St) (h : FeedOk st id) (ha : a < 549755813888) (hj : j < 549755809000) :
    EvF gS 35 [.ptr id 0] (setF st id l (nA l a j)) = some (.ret (.slice (encPreds (filterV l a j).1)) none, setF (dd st (filterV l a j).2.2) id l (nA l a (filterV l a j).2.1)) := by
  refine EvF_start fi35_eq (fun x h => by cases h) m35 ?_
  rw [st35]
  have hm : fi35.marks = [43, 1000000] := rfl
  have hl : fi35.locals = [6] := rfl
  have hr : fi35.results = [.tmp 2] := rfl
  have hb := fd_bound l a j (n := 4) (by omega)
  have hk := fun fr => k16 l a j id 4 fr st h ha (by omega) (by omega)
  unfold filterV
  generalize fd l a j 4 = z at *
  obtain ⟨r, rfl⟩ : ∃ r : Nat, z = (r : Int) := ⟨z.toNat, by omega⟩
  rw [Int.toNat_natCast]
  simp [-St.obj, -St.set, hk, -Int.not_le, -Int.not_lt, -Nat.not_le, -Nat.not_lt, ty3, ty4, ty9, ty27, ty29, ty49, hm, hl, hr, fi16_eq, fi29_eq, fi91_eq, E35, q35_37, e35_34, n35_25, n35_8]
  cases r with
  | zero =>
    refine evK_loop c35_9 _ _ _ _ rfl ?_
    have hz : ∀ st, frz 6 st (.slice []) = some (.slice [], st) := fun st => frz_flat 6 st _ rfl
    rw [show filterG l a 0 (j + 1) 0 [] = ([], j + 1, 0) from rfl]
    simp [-St.obj, -St.set, hz, dd_zero, encPreds, -Int.not_le, -Int.not_lt, -Nat.not_le, -Nat.not_lt, ty3, ty4, ty9, ty27, ty29, ty49, hm, hl, hr, fi16_eq, fi29_eq, fi91_eq, E35, q35_37, e35_34, n35_25, n35_8]
  | succ r =>
    refine evK_loop c35_9 _ _ _ _ rfl ?_
    have hn := fun fr => k91 l a (j + 1) id fr st h ha (by omega)
    have hp := fun fr => k29 l a (j + 1 + 1) id (nameV l a (j + 1)) fr st h ha (by omega)
    have hg : filterG l a (r + 1) (j + 1) 0 [] = filterG l a r (j + 1 + 1 + (predV l a (j + 1 + 1) (nameV l a (j + 1))).2) (0 + (predV l a (j + 1 + 1) (nameV l a (j + 1))).1.set.length + 1) (insP [] (predV l a (j + 1 + 1) (nameV l a (j + 1))).1 (nameV l a (j + 1))) := rfl
    rw [hg]
    have hpa := pred_asks l a (j + 1 + 1) (nameV l a (j + 1))
    generalize nameV l a (j + 1) = nm at *
    generalize predV l a (j + 1 + 1) nm = P at *
    obtain ⟨p, k⟩ := P
    simp only at hp hg hpa ⊢
    rw [show insP [] p nm = [p] from rfl, Nat.zero_add]
    have c1 : (0 : Int) < ((r + 1 : Nat) : Int) := by omega
    have LL := fun e5 e6 e7 T X h5 h6 h7 => L35 l a id ha st h r (j + 1 + 1 + k) p.set.length [p] e5 e6 e7 T X h5 h6 h7 (by simp) (by simp; omega) (by omega)
    have hpc : [p].flatMap Pred.cells = p.cells := by simp
    rw [hpc] at LL
    simp only [Pred.cells, List.length_singleton] at LL
    have hnr := fun fr kk len cs => newRef_dd h fr p.set.length kk len cs l (nA l a (j + 1 + 1 + k))
    have ho2 := fun cs => obj_gr h p.set.length cs l (nA l a (j + 1 + 1 + k))
    have hst2 := fun cs cs' => set_gr' h p.set.length cs cs' l (nA l a (j + 1 + 1 + k))
    have heo : ∀ (ea : Bool) (k : Nat) (st : St) (n : Nat) (xs : List V), elemsAt ea k st (.own n xs) = some xs := fun _ _ _ _ _ => rfl
    have hw2 : IntKind.wrap .i64 (((r + 1 : Nat) : Int) - 1) = (r : Int) := by rw [wrap64 (by omega) (by omega)]; omega
    have hel1 : elemsAt true 13 (setF (nw st p.set.length [.str [], .int .i64 0, .int .i64 0, .int .i64 0, .float .f64 0, .str [], .bool false, .int .i64 0, .int .i64 0, .float .f64 0, .str [], .bool false, .slice []]) id l (nA l a (j + 1 + 1 + k))) (.val (.sref false 13 (st.objs.length + p.set.length) 0 1)) = some (encPreds [pzero]) := elems_row (l := [pzero]) (ho2 _) false (i := 0) (Nat.zero_le _)
    have hs1 := sizes_preds [pzero]
    simp [-Int.natCast_add, -St.obj, -St.set, hn, hp, c1, -Int.not_le, -Int.not_lt, -Nat.not_le, -Nat.not_lt, ty3, ty4, ty9, ty27, ty29, ty49, hm, hl, hr, fi16_eq, fi29_eq, fi91_eq, E35, q35_37, e35_34, n35_25, n35_8]
    refine evK_loop c35_26 _ _ _ _ rfl ?_
    simp [-Int.natCast_add, -St.obj, -St.set, hnr, ho2, hst2, heo, hw2, w64_1, hel1, hs1, copyStep, markStep, markAppend, -Int.not_le, -Int.not_lt, -Nat.not_le, -Nat.not_lt, ty3, ty4, ty9, ty27, ty29, ty49, hm, hl, hr, fi16_eq, fi29_eq, fi91_eq, E35, q35_37, e35_34, n35_25, n35_8]
    exact LL _ _ _ _ _ rfl rfl rfl
theorem k35 (l : List Int) (a j id : Nat) (fr : Fr) (st : St) (h : FeedOk st id) (ha : a < 549755813888) (hj : j < 549755809000) :
    callStep gS (EvF gS) 35 [.ptr id 0] fr (setF st id l (nA l a j)) = some (.ok (.val (.slice (encPreds (filterV l a j).1))) (fr.map E.noMem) (setF (dd st (filterV l a j).2.2) id l (nA l a (filterV l a j).2.1))) := by
  unfold callStep
  simp only [show gS.ext 35 = none from rfl, fi35_eq, show fi35.pure = false from rfl, Bool.false_eq_true, if_false, c35 l a j id st h ha hj, retE]
  all_goals rfl
end
end Go.Proofs.Ytclpbfkbpcjejaa
namespace Go.Ab
open Go
set_option linter.unusedVariables false
set_option linter.unusedSimpArgs false
set_option linter.unnecessarySimpa false
def okNames : Bool := N4.all fun x => N4.all fun y => (N4.all fun z => sgt x y || sgt y z || !sgt x z) && (!sgt x y || !sgt y x) && isWord x
theorem names_ok : okNames = true := by kernel_rfl
def NM (x : List UInt8) : Prop := x ∈ N4
theorem nm_trans {x y z : List UInt8} (hx : NM x) (hy : NM y) (hz : NM z) (h1 : sgt x y = false) (h2 : sgt y z = false) : sgt x z = false := by
  have := List.all_eq_true.1 (List.all_eq_true.1 names_ok x hx) y hy
  simp only [Bool.and_eq_true] at this
  have := List.all_eq_true.1 this.1.1 z hz
  rw [h1, h2] at this
  simpa using this
theorem nm_asym {x y : List UInt8} (hx : NM x) (hy : NM y) (h : sgt x y = true) : sgt y x = false := by
  have := List.all_eq_true.1 (List.all_eq_true.1 names_ok x hx) y hy
  simp only [Bool.and_eq_true] at this
  have := this.1.2
  rw [h] at this
  simpa using this
theorem nm_word {x : List UInt8} (hx : NM x) : isWord x = true := by
  have := List.all_eq_true.1 (List.all_eq_true.1 names_ok x hx) x hx
  simp only [Bool.and_eq_true] at this
  exact this.2
theorem nameV_nm (l : List Int) (a j : Nat) : NM (nameV l a j) := by
  unfold NM nameV
  have hlt : (fd l a j 12).toNat / 3 % 4 < N4.length := by show _ < 4; omega
  rw [List.getD_eq_getElem?_getD, List.getElem?_eq_getElem hlt]
  exact List.getElem_mem hlt
/-- Right ones of the row, in their places. -/
structure FFV (f : List Pred) : Prop where
  right : ∀ p ∈ f, pright p = true
  fv : ∀ p ∈ f, PFV p
  nm : ∀ p ∈ f, NM p.name
  srt : f.Pairwise fun x y => sgt x.name y.name = false
theorem ffv_nil : FFV [] := ⟨by simp, by simp, by simp, List.Pairwise.nil⟩
theorem insN_above (f : List Pred) (nm : List UInt8) : ∀ (k i : Nat) (p : Pred), insN f nm k ≤ i → i < k → f[i]? = some p → sgt p.name nm = true
  | 0, i, p, _, h, _ => by omega
  | k + 1, i, p, h1, h2, hp => by
    unfold insN at h1
    split at h1
    · rename_i hs
      by_cases hik : i = k
      · subst hik; rw [hp] at hs; exact hs
      · exact insN_above f nm k i p h1 (by omega) hp
    · omega
theorem insN_below (f : List Pred) (nm : List UInt8) : ∀ (k : Nat) (p : Pred), k ≤ f.length → 0 < insN f nm k → f[insN f nm k - 1]? = some p → sgt p.name nm = false
  | 0, p, _, h, _ => by simp [insN] at h
  | k + 1, p, hk, h, hp => by
    unfold insN at h hp
    split at h
    · rename_i hs
      rw [if_pos hs] at hp
      exact insN_below f nm k p (by omega) h hp
    · rename_i hs
      rw [if_neg hs, Nat.add_sub_cancel] at hp
      rw [hp] at hs
      simpa using hs
theorem ins_ffv {f : List Pred} (h : FFV f) {p : Pred} (h1 : pright p = true) (h2 : PFV p) (h3 : NM p.name) : FFV (insP f p p.name) := by
  have hle := insN_le f p.name f.length
  have hab := insN_above f p.name f.length
  have hbe := insN_below f p.name f.length
  unfold insP
  generalize hi : insN f p.name f.length = i at *
  have mem : ∀ x, x ∈ f.take i ++ p :: f.drop i → x ∈ f ∨ x = p := by
    intro x hx
    rcases List.mem_append.1 hx with hx | hx
    · exact .inl (List.mem_of_mem_take hx)
    · rcases List.mem_cons.1 hx with hx | hx
      · exact .inr hx
      · exact .inl (List.mem_of_mem_drop hx)
  refine ⟨fun x hx => ?_, fun x hx => ?_, fun x hx => ?_, ?_⟩
  · rcases mem x hx with h' | rfl
    · exact h.right x h'
    · exact h1
  · rcases mem x hx with h' | rfl
    · exact h.fv x h'
    · exact h2
  · rcases mem x hx with h' | rfl
    · exact h.nm x h'
    · exact h3
  · have hs := h.srt
    have hsp : f.take i ++ f.drop i = f := List.take_append_drop i f
    rw [← hsp] at hs
    rw [List.pairwise_append] at hs ⊢
    obtain ⟨s1, s2, s3⟩ := hs
    have low : ∀ x ∈ f.take i, sgt x.name p.name = false := by
      intro x hx
      have hpos : 0 < i := by
        cases i with
        | zero => simp at hx
        | succ i => omega
      have hlast : i - 1 < f.length := by omega
      have hb := hbe (f[i - 1]) (Nat.le_refl _) hpos (List.getElem?_eq_getElem hlast)
      obtain ⟨j, hj, rfl⟩ := List.getElem_of_mem hx
      rw [List.length_take] at hj
      rw [List.getElem_take]
      by_cases hji : j = i - 1
      · subst hji; exact hb
      · have hlt : j < i - 1 := by omega
        have hp := List.pairwise_iff_getElem.1 h.srt j (i - 1) (by omega) hlast hlt
        exact nm_trans (h.nm _ (List.getElem_mem _)) (h.nm _ (List.getElem_mem _)) h3 hp hb
    have high : ∀ x ∈ f.drop i, sgt p.name x.name = false := by
      intro x hx
      obtain ⟨j, hj, rfl⟩ := List.getElem_of_mem hx
      rw [List.length_drop] at hj
      rw [List.getElem_drop]
      have := hab (i + j) (f[i + j]'(by omega)) (by omega) (by omega) (List.getElem?_eq_getElem _)
      exact nm_asym (h.nm _ (List.getElem_mem _)) h3 this
    refine ⟨s1, List.pairwise_cons.2 ⟨fun x hx => high x hx, s2⟩, fun x hx y hy => ?_⟩
    rcases List.mem_cons.1 hy with rfl | hy
    · exact low x hx
    · exact s3 x hx y hy
theorem predV_name (l : List Int) (a j : Nat) (nm : List UInt8) : (predV l a j nm).1.name = nm := by
  unfold predV
  simp only
  repeat' split
  all_goals rfl
theorem filterG_ffv (l : List Int) (a : Nat) : ∀ (n j d : Nat) (f : List Pred), FFV f → FFV (filterG l a n j d f).1 ∧ (filterG l a n j d f).1.length = f.length + n
  | 0, j, d, f, h => ⟨h, rfl⟩
  | n + 1, j, d, f, h => by
    have hn := nameV_nm l a j
    have hp := predV_name l a (j + 1) (nameV l a j)
    have h2 := ins_ffv h (p := (predV l a (j + 1) (nameV l a j)).1) (pred_right _ _ _ (nm_word hn)) (pred_fv _ _ _ _) (by rw [hp]; exact hn)
    rw [hp] at h2
    have := filterG_ffv l a n (j + 1 + (predV l a (j + 1) (nameV l a j)).2) (d + (predV l a (j + 1) (nameV l a j)).1.set.length + 1) _ h2
    refine ⟨this.1, ?_⟩
    have h3 := this.2
    rw [insP_length] at h3
    show (filterG l a n _ _ _).1.length = _
    omega
theorem filterV_ffv (l : List Int) (a j : Nat) : FFV (filterV l a j).1 ∧ (filterV l a j).1.length ≤ 3 := by
  have hb := fd_bound l a j (n := 4) (by omega)
  have := filterG_ffv l a (fd l a j 4).toNat (j + 1) 0 [] ffv_nil
  refine ⟨this.1, ?_⟩
  have h2 := this.2
  simp only [List.length_nil, Nat.zero_add] at h2
  unfold filterV
  omega
theorem filterG_bounds (l : List Int) (a : Nat) : ∀ (n j d : Nat) (f : List Pred), (filterG l a n j d f).2.1 ≤ j + 11 * n ∧ (filterG l a n j d f).2.2 ≤ d + 5 * n
  | 0, j, d, f => ⟨by simp [filterG], by simp [filterG]⟩
  | n + 1, j, d, f => by
    have h1 := pred_asks l a (j + 1) (nameV l a j)
    have hn := nm_word (nameV_nm l a j)
    have h2 : (predV l a (j + 1) (nameV l a j)).1.set.length ≤ 4 := by
      have hr := pred_right l a (j + 1) hn
      generalize (predV l a (j + 1) (nameV l a j)).1 = p at hr ⊢
      unfold pright at hr
      split at hr
      · repeat' split at hr
        all_goals first
          | (simp only [Bool.and_eq_true, decide_eq_true_eq] at hr; omega)
          | cases hr
      · cases hr
    have := filterG_bounds l a n (j + 1 + (predV l a (j + 1) (nameV l a j)).2) (d + (predV l a (j + 1) (nameV l a j)).1.set.length + 1) (insP f (predV l a (j + 1) (nameV l a j)).1 (nameV l a j))
    unfold filterG
    omega
theorem filterV_asks (l : List Int) (a j : Nat) : (filterV l a j).2.1 ≤ j + 34 := by
  have hb := fd_bound l a j (n := 4) (by omega)
  have := (filterG_bounds l a (fd l a j 4).toNat (j + 1) 0 []).1
  unfold filterV
  omega
theorem vsame_refl (v : Val) : vsame v v = true := by simp [vsame]
theorem sames_refl : ∀ l : List Val, sames l l = true
  | [] => rfl
  | x :: r => by simp [sames, vsame_refl, sames_refl r]
end Go.Ab
namespace Go.Ab
open Go
set_option linter.unusedVariables false
set_option linter.unusedSimpArgs false
set_option linter.unnecessarySimpa false
theorem dd_nw_set (st : St) (m k : Nat) (cs cs' : List V) (h : st.wp ≤ st.objs.length) : St.set (dd (nw st m cs) k) (st.objs.length + m) cs' = some (dd (nw st m cs') k) := by
  unfold St.set
  rw [if_pos (by rw [dd_wp, gr_wp]; omega)]
  unfold dd nw
  simp only [Option.some.injEq, St.mk.injEq, and_true]
  rw [List.append_assoc, List.set_append_right _ _ (by omega), Nat.add_sub_cancel_left, List.append_assoc, List.set_append_right _ _ (by simp), List.length_replicate, Nat.sub_self]
  simp only [List.singleton_append, List.set_cons_zero, List.append_assoc]
theorem set_mid' {st : St} {id : Nat} (h : FeedOk st id) (m k : Nat) (cs cs' : List V) (l : List Int) (a : Nat) : St.set (setF (dd (nw st m cs) k) id l a) (st.objs.length + m) cs' = some (setF (dd (nw st m cs') k) id l a) := by
  have h1 := h.1
  have h2 := h.2
  have hk := dd_nw_set st m k cs cs' (by omega)
  unfold St.set at hk ⊢
  rw [if_pos (by rw [dd_wp, gr_wp]; omega)] at hk
  rw [if_pos (by rw [setF_wp, dd_wp, gr_wp]; omega)]
  have hk2 := Option.some.inj hk
  congr 1
  rw [← hk2]
  unfold setF
  simp only [St.mk.injEq, and_true]
  rw [List.set_comm _ _ (by omega)]
/-- A copy of a filter, one of its tests another one perhaps; where the feed stands then; how many objects were given up. -/
def turnF (l : List Int) (a : Nat) (y : List Pred) (j : Nat) : List Pred × Nat × Nat :=
  if y = [] then (y, j, 0) else
  if fd l a j 2 = 0 then
    (y.take (fd l a (j + 1) y.length).toNat ++ [(predV l a (j + 2) [97]).1] ++ y.drop ((fd l a (j + 1) y.length).toNat + 1), j + 2 + (predV l a (j + 2) [97]).2, y.length + (predV l a (j + 2) [97]).1.set.length)
  else (y, j + 1, y.length)
def halfF (l : List Int) (a : Nat) (L : List (List Pred)) (f : List Pred) (j : Nat) : List Pred × Nat × Nat :=
  if L = [] then (f, j, 0) else
  if fd l a j 4 = 0 then turnF l a (L.getD (fd l a (j + 1) L.length).toNat []) (j + 2) else (f, j + 1, 0)
/-- One more filter. -/
def stepF (raw : List Pred) (l : List Int) (a : Nat) (L : List (List Pred)) (j : Nat) : List Pred × Nat × Nat :=
  (if fd l a (halfF l a L (filterV l a j).1 (filterV l a j).2.1).2.1 12 = 0 then raw.take 5 else (halfF l a L (filterV l a j).1 (filterV l a j).2.1).1,
   (halfF l a L (filterV l a j).1 (filterV l a j).2.1).2.1 + 1, (filterV l a j).2.2 + (halfF l a L (filterV l a j).1 (filterV l a j).2.1).2.2)
def filtersG (raw : List Pred) (l : List Int) (a : Nat) : Nat → List (List Pred) → Nat → Nat → List (List Pred) × Nat × Nat
  | 0, L, j, d => (L, j, d)
  | n + 1, L, j, d => filtersG raw l a n (L ++ [(stepF raw l a L j).1]) (stepF raw l a L j).2.1 (d + (stepF raw l a L j).2.2)
def filtersV (raw : List Pred) (l : List Int) (a j : Nat) (n : Int) : List (List Pred) × Nat × Nat := filtersG raw l a (fd l a j (n + 1)).toNat [] (j + 1) 0
theorem turnF_asks (l : List Int) (a : Nat) (y : List Pred) (j : Nat) : (turnF l a y j).2.1 ≤ j + 12 := by
  unfold turnF
  have := pred_asks l a (j + 2) [97]
  split
  · simp
  · split
    · simp; omega
    · simp
theorem halfF_asks (l : List Int) (a : Nat) (L : List (List Pred)) (f : List Pred) (j : Nat) : (halfF l a L f j).2.1 ≤ j + 14 := by
  unfold halfF
  split
  · simp
  · split
    · have := turnF_asks l a (L.getD (fd l a (j + 1) L.length).toNat []) (j + 2)
      omega
    · simp
theorem stepF_asks (raw : List Pred) (l : List Int) (a : Nat) (L : List (List Pred)) (j : Nat) : (stepF raw l a L j).2.1 ≤ j + 49 := by
  unfold stepF
  have h1 := halfF_asks l a L (filterV l a j).1 (filterV l a j).2.1
  have h2 := filterV_asks l a j
  simp only
  omega
theorem filtersG_len (raw : List Pred) (l : List Int) (a : Nat) : ∀ (n : Nat) (L : List (List Pred)) (j d : Nat), (filtersG raw l a n L j d).1.length = L.length + n
  | 0, _, _, _ => by simp [filtersG]
  | n + 1, L, j, d => by
    simp only [filtersG]
    rw [filtersG_len raw l a n]; simp; omega
theorem filtersV_len (raw : List Pred) (l : List Int) (a j : Nat) {n : Int} (h : 0 ≤ n) : (filtersV raw l a j n).1.length ≤ n.toNat := by
  unfold filtersV
  rw [filtersG_len]
  have h2 := fd_bound l a j (n := n + 1) (by omega)
  simp; omega
/-- What holds of each test of each filter. -/
theorem turnF_all {P : Pred → Prop} (l : List Int) (a : Nat) (hp : ∀ j, P (predV l a j [97]).1) (y : List Pred) (hy : ∀ p ∈ y, P p) (j : Nat) : (∀ p ∈ (turnF l a y j).1, P p) ∧ (turnF l a y j).1.length ≤ y.length := by
  unfold turnF
  split
  · exact ⟨hy, Nat.le_refl _⟩
  · rename_i hne
    split
    · have hpos : 0 < y.length := List.length_pos_iff.2 hne
      have hb := fd_bound l a (j + 1) (n := (y.length : Int)) (by omega)
      refine ⟨fun p h => ?_, ?_⟩
      · rcases List.mem_append.1 h with h | h
        · rcases List.mem_append.1 h with h | h
          · exact hy p (List.mem_of_mem_take h)
          · simp at h; subst h; exact hp _
        · exact hy p (List.mem_of_mem_drop h)
      · simp; omega
    · exact ⟨hy, Nat.le_refl _⟩
theorem stepF_all {P : Pred → Prop} {k : Nat} (raw : List Pred) (l : List Int) (a : Nat) (hr : ∀ p ∈ raw, P p) (hp : ∀ j, P (predV l a j [97]).1) (hf : ∀ j, (∀ p ∈ (filterV l a j).1, P p)) (hk : 5 ≤ k) (L : List (List Pred)) (hL : ∀ f ∈ L, (∀ p ∈ f, P p) ∧ f.length ≤ k) (j : Nat) :
    (∀ p ∈ (stepF raw l a L j).1, P p) ∧ (stepF raw l a L j).1.length ≤ k := by
  have hf1 := (filterV_ffv l a j).2
  have hff := hf j
  unfold stepF
  simp only
  split
  · refine ⟨fun p h => hr p (List.mem_of_mem_take h), ?_⟩
    simp; omega
  · generalize filterV l a j = F at *
    obtain ⟨f, J, D⟩ := F
    simp only at *
    unfold halfF
    split
    · exact ⟨hff, by simp only; omega⟩
    · rename_i hne
      split
      · have hpos : 0 < L.length := List.length_pos_iff.2 hne
        have hb := fd_bound l a (J + 1) (n := (L.length : Int)) (by omega)
        have hi : (fd l a (J + 1) L.length).toNat < L.length := by omega
        rw [List.getD_eq_getElem?_getD, List.getElem?_eq_getElem hi]
        simp only [Option.getD_some]
        obtain ⟨h1, h2⟩ := hL _ (List.getElem_mem hi)
        obtain ⟨h3, h4⟩ := turnF_all l a hp _ h1 (J + 2)
        exact ⟨h3, by omega⟩
      · exact ⟨hff, by simp only; omega⟩
theorem filtersG_all {P : Pred → Prop} {k : Nat} (raw : List Pred) (l : List Int) (a : Nat) (hr : ∀ p ∈ raw, P p) (hp : ∀ j, P (predV l a j [97]).1) (hf : ∀ j, (∀ p ∈ (filterV l a j).1, P p)) (hk : 5 ≤ k) : ∀ (n : Nat) (L : List (List Pred)) (j d : Nat), (∀ f ∈ L, (∀ p ∈ f, P p) ∧ f.length ≤ k) →
    ∀ f ∈ (filtersG raw l a n L j d).1, (∀ p ∈ f, P p) ∧ f.length ≤ k
  | 0, L, _, _, h => h
  | n + 1, L, j, d, h => by
    simp only [filtersG]
    refine filtersG_all raw l a hr hp hf hk n _ _ _ fun f hf' => ?_
    rcases List.mem_append.1 hf' with h' | h'
    · exact h f h'
    · simp at h'; subst h'
      exact stepF_all raw l a hr hp hf hk L h j
theorem filtersV_all {P : Pred → Prop} (raw : List Pred) (l : List Int) (a : Nat) (hr : ∀ p ∈ raw, P p) (hp : ∀ j, P (predV l a j [97]).1) (hf : ∀ j, (∀ p ∈ (filterV l a j).1, P p)) (j : Nat) (n : Int) :
    ∀ f ∈ (filtersV raw l a j n).1, (∀ p ∈ f, P p) ∧ f.length ≤ 5 := filtersG_all raw l a hr hp hf (Nat.le_refl _) _ _ _ _ (by simp)
end Go.Ab
