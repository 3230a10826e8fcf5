/- Of any filters, any attributes, each answer is as the document says. Part 6. -/
import Derived.Test.YtclpbfkbpcjejaaK5
namespace Go.Ab
open Go
set_option linter.unusedVariables false
set_option linter.unusedSimpArgs false
set_option linter.unnecessarySimpa false
/-- A right one of the row. -/
def VR (v : Val) : Prop := vright v = true ∧ ∃ r, FV v r
def allVR : List Val := (FVR.drop 1).map (·.1)
theorem all_right : allVR.all vright = true := by kernel_rfl
theorem vr_mem {v : Val} (h : v ∈ allVR) : VR v := by
  refine ⟨List.all_eq_true.1 all_right v h, ?_⟩
  unfold allVR at h
  obtain ⟨x, hx, rfl⟩ := List.mem_map.1 h
  exact ⟨x.2, List.mem_of_mem_drop hx⟩
def floatsR : List Val := F14.map fun x => ⟨2, 0, x, [], false⟩
def textsR : List Val := T6.map fun s => ⟨3, 0, 0, s, false⟩
def intsR : List Val := N6.map fun n => ⟨1, n, 0, [], false⟩
theorem floats_in : (floatsR.all fun v => allVR.contains v) = true := by kernel_rfl
theorem texts_in : (textsR.all fun v => allVR.contains v) = true := by kernel_rfl
theorem ints_in : (intsR.all fun v => allVR.contains v) = true := by kernel_rfl
theorem smalls_in : ((List.range 5).all fun n => allVR.contains (⟨1, (n : Int), 0, [], false⟩ : Val)) = true := by kernel_rfl
theorem bools_in : ([true, false].all fun b => allVR.contains (⟨4, 0, 0, [], b⟩ : Val)) = true := by kernel_rfl
theorem of_contains {l : List Val} {f : Val} (h : (l.all fun v => allVR.contains v) = true) (hf : f ∈ l) : VR f := by
  have := List.all_eq_true.1 h f hf
  exact vr_mem (by simpa using this)
theorem vr_float (l : List Int) (a j : Nat) : VR ⟨2, 0, floatV l a j, [], false⟩ := by
  have hb := fd_bound l a j (n := 14) (by omega)
  refine of_contains floats_in ?_
  unfold floatsR floatV
  refine List.mem_map.2 ⟨_, ?_, rfl⟩
  have hlt : (fd l a j 14).toNat < F14.length := by show _ < 14; omega
  rw [List.getD_eq_getElem?_getD, List.getElem?_eq_getElem hlt]
  exact List.getElem_mem hlt
theorem vr_text {n : Nat} (h : n < 6) : VR ⟨3, 0, 0, T6.getD n [], false⟩ := by
  refine of_contains texts_in ?_
  unfold textsR
  refine List.mem_map.2 ⟨_, ?_, rfl⟩
  have hlt : n < T6.length := h
  rw [List.getD_eq_getElem?_getD, List.getElem?_eq_getElem hlt]
  exact List.getElem_mem hlt
theorem vr_int {n : Nat} (h : n < 6) : VR ⟨1, N6.getD n 0, 0, [], false⟩ := by
  refine of_contains ints_in ?_
  unfold intsR
  refine List.mem_map.2 ⟨_, ?_, rfl⟩
  have hlt : n < N6.length := h
  rw [List.getD_eq_getElem?_getD, List.getElem?_eq_getElem hlt]
  exact List.getElem_mem hlt
theorem vr_small {n : Int} (h0 : 0 ≤ n) (h : n < 5) : VR ⟨1, n, 0, [], false⟩ := by
  have := List.all_eq_true.1 smalls_in n.toNat (List.mem_range.2 (by omega))
  rw [show ((n.toNat : Nat) : Int) = n by omega] at this
  exact vr_mem (by simpa using this)
theorem vr_bool (b : Bool) : VR ⟨4, 0, 0, [], b⟩ := by
  have := List.all_eq_true.1 bools_in b (by cases b <;> simp)
  exact vr_mem (by simpa using this)
theorem vr_value (l : List Int) (a j : Nat) : VR (valueV l a j) := by
  unfold valueV
  have h8 := fd_bound l a j (n := 8) (by omega)
  have h6 := fd_bound l a (j + 1) (n := 6) (by omega)
  have h5 := fd_bound l a (j + 1) (n := 5) (by omega)
  simp only
  repeat' split
  · exact vr_float _ _ _
  · exact vr_text (by omega)
  · exact vr_bool _
  · exact vr_int (by omega)
  · exact vr_small (by omega) (by omega)
theorem vr_vals (l : List Int) (a : Nat) : ∀ (k j : Nat), ∀ x ∈ valsV l a j k, VR x
  | 0, j, x, h => by simp [valsV] at h
  | k + 1, j, x, h => by
    rcases List.mem_cons.1 h with rfl | h
    · exact vr_value _ _ _
    · exact vr_vals l a k _ x h
theorem vals_length (l : List Int) (a : Nat) : ∀ (k j : Nat), (valsV l a j k).length = k
  | 0, j => rfl
  | k + 1, j => by simp [valsV, vals_length l a k]
theorem P4_in : (P4.all fun s => T6.contains s) = true := by kernel_rfl
theorem vr_P4 {n : Nat} (h : n < 4) : VR ⟨3, 0, 0, P4.getD n [], false⟩ := by
  have hlt : n < P4.length := h
  have h1 : P4.getD n [] ∈ P4 := by rw [List.getD_eq_getElem?_getD, List.getElem?_eq_getElem hlt]; exact List.getElem_mem hlt
  have h2 := List.all_eq_true.1 P4_in _ h1
  refine of_contains texts_in ?_
  unfold textsR
  exact List.mem_map.2 ⟨_, by simpa using h2, rfl⟩
theorem fv_zero : ∃ r, FV vzero r := ⟨none, by unfold FV FVR; simp⟩
/-- What a feed yields as a test. -/
theorem pred_fv (l : List Int) (a j : Nat) (nm : List UInt8) : PFV (predV l a j nm).1 := by
  unfold predV
  have h4 := fd_bound l a (j + 1) (n := 4) (by omega)
  simp only
  repeat' split
  · exact ⟨fv_zero, fv_zero, by simp⟩
  · exact ⟨(vr_P4 (by omega)).2, fv_zero, by simp⟩
  · exact ⟨fv_zero, fv_zero, fun x hx => (vr_vals _ _ _ _ x hx).2⟩
  · exact ⟨(vr_value _ _ _).2, (vr_value _ _ _).2, by simp⟩
  · exact ⟨(vr_value _ _ _).2, fv_zero, by simp⟩
theorem same_zero : vsame vzero vzero = true := by kernel_rfl
theorem pred_right (l : List Int) (a j : Nat) {nm : List UInt8} (hn : isWord nm = true) : pright (predV l a j nm).1 = true := by
  have h10 := fd_bound l a j (n := 10) (by omega)
  have h4 := fd_bound l a (j + 1) (n := 4) (by omega)
  unfold predV
  simp only
  split
  · simp [pright, hn, same_zero]
  · split
    · rename_i h
      have hv := (vr_P4 (n := (fd l a (j + 1) 4).toNat) (by omega)).1
      generalize P4.getD (fd l a (j + 1) 4).toNat [] = s at hv
      simp [pright, hn, same_zero, hv]
    · split
      · have hv := fun x hx => (vr_vals l a ((fd l a (j + 1) 4).toNat + 1) (j + 2) x hx).1
        have hl := vals_length l a ((fd l a (j + 1) 4).toNat + 1) (j + 2)
        generalize valsV l a (j + 2) ((fd l a (j + 1) 4).toNat + 1) = vs at hv hl
        have hc : vs.all vright = true := List.all_eq_true.2 hv
        have h5 : 1 ≤ vs.length ∧ vs.length ≤ 4 := by omega
        unfold pright
        rw [if_pos hn]
        simp [same_zero, hc, h5, hv]
      · split
        · simp [pright, hn, same_zero, (vr_value l a (j + 1)).1, (vr_value l a (j + 3)).1]
        · have e1 : 2 ≤ 1 + fd l a j 10 ∧ 1 + fd l a j 10 ≤ 7 := by omega
          have e2 : ¬ 1 + fd l a j 10 = 1 := by omega
          simp only [pright, hn, if_true, e2, if_false, e1, and_self, same_zero, (vr_value l a (j + 1)).1, List.length_nil, decide_true, Bool.and_self]
theorem pred_asks (l : List Int) (a j : Nat) (nm : List UInt8) : (predV l a j nm).2 ≤ 10 := by
  have h4 := fd_bound l a (j + 1) (n := 4) (by omega)
  unfold predV
  simp only
  repeat' split
  all_goals (simp only; omega)
theorem ok_of_right {p : Pred} (h : pright p = true) : p.ok := by
  unfold pright at h
  split at h
  · rename_i hw
    unfold isWord at hw
    simp only [Bool.and_eq_true, decide_eq_true_eq] at hw
    refine ⟨by omega, ?_⟩
    repeat' split at h
    all_goals first
      | (simp only [Bool.and_eq_true, decide_eq_true_eq] at h; omega)
      | cases h
  · cases h
end Go.Ab
namespace Go.Proofs.Ytclpbfkbpcjejaa
open Go Go.Ab
set_option linter.unusedVariables false
set_option linter.unusedSimpArgs false
set_option linter.unnecessarySimpa false
set_option maxRecDepth 20000
noncomputable section
variable (fr : Fr) (st : St) (k : Kt)
theorem k17 (l : List Int) (a j id : Nat)  (fr : Fr) (st : St) (h : FeedOk st id) (ha : a < 549755813888) (hj : j < 549755812000) :
    callStep gS (EvF gS) 17 [.ptr id 0] fr (setF st id l (nA l a j)) = some (.ok (.val ((valueV l a j).enc)) (fr.map E.noMem) (setF st id l (nA l a (j + 2)))) := by
  unfold callStep
  simp only [show gS.ext 17 = none from rfl, fi17_eq, show fi17.pure = false from rfl, Bool.false_eq_true, if_false, c17 l a j id  st h ha (by omega), retE]
  all_goals rfl
def fi29 : FI := { body := codeOf Try.f29, ntmps := 52, results := [.cell 4 27], pers := [0, 1, 4, 5, 6, 13], locals := [4, 5], pure := false, marks := [39, 2000011, 1000000] }
theorem fi29_eq : gS.fn 29 = some fi29 := by kernel_rfl
theorem st29 (a0 a1 : V) : startFr fi29 [a0, a1] = { ps := [(0, .val a0), (1, .val a1), (4, .any), (5, .any), (6, .any), (13, .any)], ts := [], lc := [] } := rfl
def b29 : Code := mini (codeOf Try.f29)
def c29_11 : Code := .seq (codeN b29 299) .ret
def c29_19 : Code := .seq (codeN b29 2795) .ret
def c29_17 : Code := .seq (codeN b29 1259) c29_19
def c29_33 : Code := .cond (.tmp 31) .skip (.exit 1)
def c29_31 : Code := .seq (codeN b29 136171) c29_33
def r29_38 : Array Oper := regOps (codeN (codeOf Try.f29) 300011)
def c29_38 : Code := .region 12 r29_38 true
def q29_38 : List (Oper × Fl) := [(op1 34 (.fieldAddr 27 (.tmp 5) 4) 0, ⟨true, false, false, false, false, false, true, false, false, true, []⟩),
 (ld 35 25 34 25, ⟨true, false, false, false, false, false, true, false, false, true, []⟩),
 (mv 36 0 29, ⟨true, false, true, false, true, false, true, true, false, false, []⟩),
 (cal 37 17 [(.tmp 36)] [29] 24, ⟨false, true, true, false, true, true, true, true, false, false, []⟩),
 (op1 38 (.buildSlice 25 1 #[(0, (.tmp 37))]) 25, ⟨true, false, true, false, true, false, true, true, false, false, []⟩),
 (op1 39 (.call { callee := (.builtin .append), args := #[(.tmp 35), (.tmp 38)], argTypes := #[25, 25] }) 25, ⟨false, true, true, false, true, true, true, true, false, false, []⟩),
 (op1 40 (.fieldAddr 27 (.tmp 5) 4) 0, ⟨true, true, true, false, true, false, true, true, false, false, []⟩),
 (sto 25 40 39, ⟨false, true, true, false, true, true, true, true, false, false, []⟩)]
def c29_39 : Code := codeN b29 234475
def c29_36 : Code := .seq (.block 2 c29_38) c29_39
def c29_30 : Code := .seq c29_31 c29_36
def c29_29 : Code := .loop c29_30
def c29_28 : Code := .block 1 c29_29
def c29_26 : Code := .seq (codeN b29 9195) c29_28
def c29_40 : Code := .seq (codeN b29 11243) .ret
theorem e29_40 : evK gS fi29 c29_40 fr st k = opsR gS fi29 [ld 41 27 5 27,
 sto 27 4 41] fr st (.seq .ret k) := evK_rs 13 rfl (by kernel_rfl)
def c29_25 : Code := .seq c29_26 c29_40
def c29_24 : Code := .cond (.tmp 26) c29_25 .skip
def c29_22 : Code := .seq (codeN b29 1515) c29_24
def c29_16 : Code := .cond (.tmp 17) c29_17 c29_22
def c29_14 : Code := .seq (codeN b29 363) c29_16
def c29_10 : Code := .cond (.tmp 14) c29_11 c29_14
def c29_8 : Code := .seq (codeN b29 75) c29_10
def c29_7 : Code := .block 0 c29_8
def c29_5 : Code := .seq (codeN b29 19) c29_7
def c29_50 : Code := codeN b29 175
def c29_49 : Code := .cond (.tmp 47) c29_50 .skip
def c29_47 : Code := .seq (codeN b29 79) c29_49
def c29_52 : Code := .seq (codeN b29 95) .ret
def c29_46 : Code := .seq c29_47 c29_52
def c29_44 : Code := .seq (codeN b29 23) c29_46
def c29_4 : Code := .seq c29_5 c29_44
def c29_2 : Code := .seq (codeN b29 5) c29_4
def c29_0 : Code := .seq (codeN b29 2) c29_2
theorem E29 : (evK gS fi29 c29_11 fr st k = opsR gS fi29 [ld 16 27 5 27,
 sto 27 4 16] fr st (.seq .ret k)) ∧
 (evK gS fi29 c29_19 fr st k = opsR gS fi29 [ld 25 27 5 27,
 sto 27 4 25] fr st (.seq .ret k)) ∧
 (evK gS fi29 c29_17 fr st k = opsR gS fi29 [op1 19 (.build 107 #[(0, (.const (.string { data := #[] }))), (1, (.const (.string { data := #[97] }))), (2, (.const (.string { data := #[98] }))), (3, (.const (.string { data := #[97, 98] })))]) 107,
 mv 20 0 29,
 cal 21 16 [(.tmp 20), (.const (.int .i64 4))] [29, 3] 3,
 op1 22 (.index 107 (.tmp 19) (.tmp 21)) 9,
 op1 23 (.build 24 #[(0, (.const (.int .i64 3))), (3, (.tmp 22))]) 24,
 op1 24 (.fieldAddr 27 (.tmp 5) 2) 0,
 sto 24 24 23] fr st (.seq c29_19 k)) ∧
 evK gS fi29 c29_33 fr st k = condK gS fi29 (fr.op (.tmp 31)).bool? .skip (.exit 1) fr st k ∧
 (evK gS fi29 c29_31 fr st k = opsR gS fi29 [mv 30 6 3,
 op1 31 (.binOp .geq 3 (.tmp 30) (.const (.int .i64 0)) 3) 4] fr st (.seq c29_33 k)) ∧
 evK gS fi29 c29_38 fr st k = drwR gS fi29 r29_38 q29_38 fr st k ∧
 (evK gS fi29 c29_39 fr st k = opsR gS fi29 [mv 32 6 3,
 op1 33 (.binOp .sub 3 (.tmp 32) (.const (.int .i64 1)) 3) 3,
 asn 6 33 3] fr st k) ∧
 evK gS fi29 c29_36 fr st k = evK gS fi29 c29_38 fr st (.blk 2 (.seq c29_39 k)) ∧
 evK gS fi29 c29_30 fr st k = evK gS fi29 c29_31 fr st (.seq c29_36 k) ∧
 evK gS fi29 c29_28 fr st k = evK gS fi29 c29_29 fr st (.blk 1 k) ∧
 (evK gS fi29 c29_26 fr st k = opsR gS fi29 [mv 28 0 29,
 cal 29 16 [(.tmp 28), (.const (.int .i64 4))] [29, 3] 3,
 asn 6 29 3] fr st (.seq c29_28 k)) ∧
 evK gS fi29 c29_25 fr st k = evK gS fi29 c29_26 fr st (.seq c29_40 k) ∧
 evK gS fi29 c29_24 fr st k = condK gS fi29 (fr.op (.tmp 26)).bool? c29_25 .skip fr st k ∧
 (evK gS fi29 c29_22 fr st k = opsR gS fi29 [op1 27 (.binOp .eql 3 (.tmp 13) (.const (.int .i64 10)) 3) 4,
 asn 26 27 4] fr st (.seq c29_24 k)) ∧
 evK gS fi29 c29_16 fr st k = condK gS fi29 (fr.op (.tmp 17)).bool? c29_17 c29_22 fr st k ∧
 (evK gS fi29 c29_14 fr st k = opsR gS fi29 [op1 18 (.binOp .eql 3 (.tmp 13) (.const (.int .i64 9)) 3) 4,
 asn 17 18 4] fr st (.seq c29_16 k)) ∧
 evK gS fi29 c29_10 fr st k = condK gS fi29 (fr.op (.tmp 14)).bool? c29_11 c29_14 fr st k ∧
 (evK gS fi29 c29_8 fr st k = opsR gS fi29 [op1 15 (.binOp .eql 3 (.tmp 13) (.const (.int .i64 1)) 3) 4,
 asn 14 15 4] fr st (.seq c29_10 k)) ∧
 evK gS fi29 c29_7 fr st k = evK gS fi29 c29_8 fr st (.blk 0 k) ∧
 (evK gS fi29 c29_5 fr st k = opsR gS fi29 [op1 12 (.fieldAddr 27 (.tmp 5) 1) 0,
 ld 13 3 12 3] fr st (.seq c29_7 k)) ∧
 (evK gS fi29 c29_50 fr st k = opsR gS fi29 [mv 48 0 29,
 cal 49 17 [(.tmp 48)] [29] 24,
 op1 50 (.fieldAddr 27 (.tmp 5) 3) 0,
 sto 24 50 49] fr st k) ∧
 evK gS fi29 c29_49 fr st k = condK gS fi29 (fr.op (.tmp 47)).bool? c29_50 .skip fr st k ∧
 (evK gS fi29 c29_47 fr st k = opsR gS fi29 [op1 45 (.fieldAddr 27 (.tmp 5) 1) 0,
 ld 46 3 45 3,
 op1 47 (.binOp .eql 3 (.tmp 46) (.const (.int .i64 8)) 3) 4] fr st (.seq c29_49 k)) ∧
 (evK gS fi29 c29_52 fr st k = opsR gS fi29 [ld 51 27 5 27,
 sto 27 4 51] fr st (.seq .ret k)) ∧
 evK gS fi29 c29_46 fr st k = evK gS fi29 c29_47 fr st (.seq c29_52 k) ∧
 (evK gS fi29 c29_44 fr st k = opsR gS fi29 [mv 42 0 29,
 cal 43 17 [(.tmp 42)] [29] 24,
 op1 44 (.fieldAddr 27 (.tmp 5) 2) 0,
 sto 24 44 43] fr st (.seq c29_46 k)) ∧
 evK gS fi29 c29_4 fr st k = evK gS fi29 c29_5 fr st (.seq c29_44 k) ∧
 (evK gS fi29 c29_2 fr st k = opsR gS fi29 [mv 7 1 9,
 mv 8 0 29,
 cal 9 16 [(.tmp 8), (.const (.int .i64 10))] [29, 3] 3,
 op1 10 (.binOp .add 3 (.const (.int .i64 1)) (.tmp 9) 3) 3,
 op1 11 (.build 27 #[(0, (.tmp 7)), (1, (.tmp 10))]) 27,
 op1 5 (.alloc 27) 0,
 sto 27 5 11] fr st (.seq c29_4 k)) ∧
 evK gS fi29 c29_0 fr st k = opsR gS fi29 [op1 4 (.alloc 27) 0] fr st (.seq c29_2 k) := ⟨evK_rs 4 rfl (by kernel_rfl), evK_rs 7 rfl (by kernel_rfl), evK_rs 6 rfl (by kernel_rfl), rfl, evK_rs 10 rfl (by kernel_rfl), evK_dr 12 rfl (by kernel_rfl) (by kernel_rfl), evK_r 11 (by kernel_rfl), rfl, rfl, rfl, evK_rs 9 rfl (by kernel_rfl), rfl, rfl, evK_rs 8 rfl (by kernel_rfl), rfl, evK_rs 5 rfl (by kernel_rfl), rfl, evK_rs 3 rfl (by kernel_rfl), rfl, evK_rs 2 rfl (by kernel_rfl), evK_r 16 (by kernel_rfl), rfl, evK_rs 15 rfl (by kernel_rfl), evK_rs 17 rfl (by kernel_rfl), rfl, evK_rs 14 rfl (by kernel_rfl), rfl, evK_rs 1 rfl (by kernel_rfl), evK_rs 0 rfl (by kernel_rfl)⟩
theorem m29 : mini fi29.body = c29_0 := by kernel_rfl
theorem n29_29 (fr : Fr) (st : St) (k : Kt) : nextK gS fi29 (.loop c29_30 k) .normal fr st = evK gS fi29 c29_29 fr st k := rfl
set_option maxHeartbeats 4000000 in
theorem T29_40 (nm : List UInt8) (l : List Int) (a id m : Nat) (vs : List Val) (hv : vs ≠ []) (st : St) (h : FeedOk st id) (e0 e1 e6 e13 : E) (h0 : e0.Tame) (h1 : e1.Tame) (h6 : e6.Tame) (h13 : e13.Tame) (T : List (Nat × E)) (X : List (Nat × List V)) (hx4 : lk X 4 = some [.str [], .int .i64 0, .int .i64 0, .int .i64 0, .float .f64 0, .str [], .bool false, .int .i64 0, .int .i64 0, .float .f64 0, .str [], .bool false, .osl 0 []]) (hx5 : lk X 5 = some [.str nm, .int .i64 10, .int .i64 0, .int .i64 0, .float .f64 0, .str [], .bool false, .int .i64 0, .int .i64 0, .float .f64 0, .str [], .bool false, .sref false 5 (st.objs.length + m) 0 vs.length]) :
    evK gS fi29 c29_40 { ps := [(0, e0), (1, e1), (4, .lp 4 0), (5, .lp 5 0), (6, e6), (13, e13)], ts := T, lc := X } (setF (nw st m (vs.flatMap Val.cells)) id l a) (.blk 0 (.seq c29_44 .nil)) = some (.ret ((⟨nm, 10, vzero, vzero, vs⟩ : Pred).enc) none, setF (dd st (m + 1)) id l a) := by
  have hm : fi29.marks = [39, 2000011, 1000000] := rfl
  have hl : fi29.locals = [4, 5] := rfl
  have hr : fi29.results = [.cell 4 27] := rfl
  have hz := fun a0 a1 a2 a3 a4 a5 a6 a7 a8 a9 a10 a11 hf => frz_predcells (a0 := a0) (a1 := a1) (a2 := a2) (a3 := a3) (a4 := a4) (a5 := a5) (a6 := a6) (a7 := a7) (a8 := a8) (a9 := a9) (a10 := a10) (a11 := a11) hf (frz_vals h 4 m vs hv l a)
  simp [lk_lset_self _ _ _ _ hx4, hx4, hx5, h0, h1, h6, h13, hz, vzero, -Int.not_le, -Int.not_lt, -Nat.not_le, -Nat.not_lt, ty3, ty4, ty9, ty24, ty25, ty27, ty29, ty107, eq24, hm, hl, hr, fi16_eq, fi17_eq, E29, q29_38, e29_40, n29_29]
set_option maxHeartbeats 8000000 in
theorem L29 (nm : List UInt8) (l : List Int) (a id : Nat) (ha : a < 549755813888) (st : St) (h : FeedOk st id) (e1 e13 : E) (h1 : e1.Tame) (h13 : e13.Tame) : ∀ (r j m : Nat) (vs : List Val) (T : List (Nat × E)) (X : List (Nat × List V)), j + 2 * r < 549755812000 → vs.length = m + 1 → vs.length + r < 1000 → lk X 4 = some [.str [], .int .i64 0, .int .i64 0, .int .i64 0, .float .f64 0, .str [], .bool false, .int .i64 0, .int .i64 0, .float .f64 0, .str [], .bool false, .osl 0 []] → lk X 5 = some [.str nm, .int .i64 10, .int .i64 0, .int .i64 0, .float .f64 0, .str [], .bool false, .int .i64 0, .int .i64 0, .float .f64 0, .str [], .bool false, .sref false 5 (st.objs.length + m) 0 (m + 1)] →
    evK gS fi29 c29_29 { ps := [(0, .val (.ptr id 0)), (1, e1), (4, .lp 4 0), (5, .lp 5 0), (6, .val (.int .i64 ((r : Int) - 1))), (13, e13)], ts := T, lc := X } (setF (nw st m (vs.flatMap Val.cells)) id l (nA l a j)) (.blk 1 (.seq c29_40 (.blk 0 (.seq c29_44 .nil)))) = some (.ret ((⟨nm, 10, vzero, vzero, vs ++ valsV l a j r⟩ : Pred).enc) none, setF (dd st (m + 1 + r)) id l (nA l a (j + 2 * r))) := by
  intro r
  have hm : fi29.marks = [39, 2000011, 1000000] := rfl
  have hl : fi29.locals = [4, 5] := rfl
  have hr : fi29.results = [.cell 4 27] := rfl
  induction r with
  | zero =>
    intro j m vs T X hj hlen hlt hx4 hx5
    refine evK_loop c29_30 _ _ _ _ rfl ?_
    have ht := fun T => T29_40 nm l (nA l a j) id m vs (by intro e; rw [e] at hlen; simp at hlen) st h (.val (.ptr id 0)) e1 (.val (.int .i64 (-1))) e13 rfl h1 rfl h13 T X hx4 (by rw [hx5, hlen])
    simp [h1, h13, ht, valsV, -Int.not_le, -Int.not_lt, -Nat.not_le, -Nat.not_lt, ty3, ty4, ty9, ty24, ty25, ty27, ty29, ty107, eq24, hm, hl, hr, fi16_eq, fi17_eq, E29, q29_38, n29_29]
  | succ r ih =>
    intro j m vs T X hj hlen hlt hx4 hx5
    refine evK_loop c29_30 _ _ _ _ rfl ?_
    have hv := fun fr => k17 l a j id fr (nw st m (vs.flatMap Val.cells)) (h.nw m _) ha (by omega)
    have e1' : ((r + 1 : Nat) : Int) - 1 = (r : Int) := by omega
    have e2 : (0 : Int) ≤ (r : Int) := by omega
    have e3 : IntKind.wrap .i64 ((r : Int) - 1) = (r : Int) - 1 := wrap64 (by omega) (by omega)
    have e4 := vals_cells_len vs
    have e5 := vals_cells_strip vs
    have e6 := vals_cells_one vs
    have e7 : ∀ v : Val, vs.flatMap Val.cells ++ [.int .i64 v.kind, .int .i64 v.n, .float .f64 v.x, .str v.s, .bool v.b] = (vs ++ [v]).flatMap Val.cells := by intro v; simp [Val.cells]
    have IH := fun T X h4 h5 => ih (j + 2) (m + 1) (vs ++ [valueV l a j]) T X (by omega) (by simp [hlen]) (by simp; omega) h4 h5
    have r1 := obj_gr h m (vs.flatMap Val.cells) l (nA l a (j + 2))
    have r2 := set_gr h m (vs.flatMap Val.cells) l (nA l a (j + 2))
    have r3 := fun fr k len cs => newRef_dd h fr (m + 1) k len cs l (nA l a (j + 2))
    have e8 : (m + 1 + 1) * 48 ≤ 140737488355328 := by omega
    have e9 : (m + 1 + 1) ≤ 140737488355328 := by omega
    rw [hlen] at e4
    rw [e1']
    rw [show valsV l a j (r + 1) = valueV l a j :: valsV l a (j + 2) r from rfl, show m + 1 + (r + 1) = m + 1 + 1 + r by omega, show j + 2 * (r + 1) = j + 2 + 2 * r by omega, List.append_cons vs]
    simp [-List.append_assoc, -List.flatMap_append, -St.obj, -St.set, h1, h13, hx4, hx5, hv, e2, e3, e4, e5, e6, e7, e8, e9, r1, r2, r3, markStep, markAppend, elemsAt, lk_lset_self _ _ _ _ hx5, -Int.not_le, -Int.not_lt, -Nat.not_le, -Nat.not_lt, ty3, ty4, ty9, ty24, ty25, ty27, ty29, ty107, eq24, hm, hl, hr, fi16_eq, fi17_eq, E29, q29_38, n29_29]
    exact IH _ _ (by simp [hx4]) (lk_lset_self _ _ _ _ hx5)
set_option maxHeartbeats 8000000 in
theorem c29 (l : List Int) (a j id : Nat) (nm : List UInt8) (st : St) (h : FeedOk st id) (ha : a < 549755813888) (hj : j < 549755811000) :
    EvF gS 29 [.ptr id 0, .str nm] (setF st id l (nA l a j)) = some (.ret (predV l a j nm).1.enc none, setF (dd st (predV l a j nm).1.set.length) id l (nA l a (j + (predV l a j nm).2))) := by
  refine EvF_start fi29_eq (fun x h => by cases h) m29 ?_
  rw [st29]
  have hm : fi29.marks = [39, 2000011, 1000000] := rfl
  have hl : fi29.locals = [4, 5] := rfl
  have hr : fi29.results = [.cell 4 27] := rfl
  have hb := fd_bound l a j (n := 10) (by omega)
  have hb4 := fd_bound l a (j + 1) (n := 4) (by omega)
  unfold predV
  have hk := fun fr => k16 l a j id 10 fr st h ha (by omega) (by omega)
  have hk4 := fun fr => k16 l a (j + 1) id 4 fr st h ha (by omega) (by omega)
  have hv1 := fun fr => k17 l a (j + 1) id fr st h ha (by omega)
  have hv3 := fun fr => k17 l a (j + 3) id fr st h ha (by omega)
  generalize fd l a j 10 = z at *
  generalize fd l a (j + 1) 4 = y at *
  have hz : z = 0 ∨ z = 1 ∨ z = 2 ∨ z = 3 ∨ z = 4 ∨ z = 5 ∨ z = 6 ∨ z = 7 ∨ z = 8 ∨ z = 9 := by omega
  have hy : y = 0 ∨ y = 1 ∨ y = 2 ∨ y = 3 := by omega
  have d0 := dd_zero st
  have a2 : j + 1 + 1 = j + 2 := rfl
  have a5 : j + 3 + 2 = j + 5 := rfl
  have a3 : j + 1 + 2 = j + 3 := by omega
  have hz2 := fun st a0 a1 a2 a3 a4 a5 a6 a7 a8 a9 a10 a11 hf => frz_predcells (a0 := a0) (a1 := a1) (a2 := a2) (a3 := a3) (a4 := a4) (a5 := a5) (a6 := a6) (a7 := a7) (a8 := a8) (a9 := a9) (a10 := a10) (a11 := a11) hf (frz_nil 4 st)
  have en : encVals [] = [] := rfl
  rcases hz with rfl | rfl | rfl | rfl | rfl | rfl | rfl | rfl | rfl | rfl
  case inr.inr.inr.inr.inr.inr.inr.inr.inl => rcases hy with rfl | rfl | rfl | rfl <;> simp [P4, vzero, d0, en, a2, a3, a5, hz2, w64_1, w64_2, w64_3, w64_4, w64_5, w64_6, w64_7, w64_8, w64_9, w64_10, hk, hk4, hv1, hv3, -Int.not_le, -Int.not_lt, -Nat.not_le, -Nat.not_lt, ty3, ty4, ty9, ty24, ty25, ty27, ty29, ty107, eq24, hm, hl, hr, fi16_eq, fi17_eq, E29, q29_38, n29_29]
  case inr.inr.inr.inr.inr.inr.inr.inr.inr =>
    have hv2 := fun fr => k17 l a (j + 2) id fr st h ha (by omega)
    have e2 : (0 : Int) ≤ y := by omega
    have e3 : IntKind.wrap .i64 (y - 1) = y - 1 := wrap64 (by omega) (by omega)
    have r3 := fun fr k len cs => newRef_setF h fr k len cs l (nA l a (j + 2 + 2))
    simp [-St.obj, -St.set, a2, w64_1, w64_2, w64_3, w64_4, w64_5, w64_6, w64_7, w64_8, w64_9, w64_10, hk, hk4, hv1, hv3, -Int.not_le, -Int.not_lt, -Nat.not_le, -Nat.not_lt, ty3, ty4, ty9, ty24, ty25, ty27, ty29, ty107, eq24, hm, hl, hr, fi16_eq, fi17_eq, E29, q29_38, n29_29]
    refine evK_loop c29_30 _ _ _ _ rfl ?_
    simp [-St.obj, -St.set, e2, e3, hv2, r3, markStep, markAppend, elemsAt, -Int.not_le, -Int.not_lt, -Nat.not_le, -Nat.not_lt, ty3, ty4, ty9, ty24, ty25, ty27, ty29, ty107, eq24, hm, hl, hr, fi16_eq, fi17_eq, E29, q29_38, n29_29]
    have hf := fun T X => L29 nm l a id ha st h (.val (.str nm)) (.val (.int .i64 10)) rfl rfl y.toNat (j + 2 + 2) 0 [valueV l a (j + 2)] T X (by omega) rfl (by simp; omega)
    have ey : ((y.toNat : Nat) : Int) = y := by omega
    rw [ey] at hf
    refine Eq.trans (hf _ _ ?_ ?_) ?_
    · simp
    · simp
    · have hl := vals_length l a (y.toNat + 1) (j + 2)
      have hc : [valueV l a (j + 2)] ++ valsV l a (j + 2 + 2) y.toNat = valsV l a (j + 2) (y.toNat + 1) := rfl
      rw [hc, hl]
      rw [show 0 + 1 + y.toNat = y.toNat + 1 by omega, show j + 2 + 2 + 2 * y.toNat = j + (2 + 2 * (y.toNat + 1)) by omega]
      rfl
  all_goals simp [vzero, d0, en, a2, a3, a5, hz2, w64_1, w64_2, w64_3, w64_4, w64_5, w64_6, w64_7, w64_8, w64_9, w64_10, hk, hk4, hv1, hv3, -Int.not_le, -Int.not_lt, -Nat.not_le, -Nat.not_lt, ty3, ty4, ty9, ty24, ty25, ty27, ty29, ty107, eq24, hm, hl, hr, fi16_eq, fi17_eq, E29, q29_38, n29_29]
theorem k29 (l : List Int) (a j id : Nat) (nm : List UInt8) (fr : Fr) (st : St) (h : FeedOk st id) (ha : a < 549755813888) (hj : j < 549755811000) :
    callStep gS (EvF gS) 29 [.ptr id 0, .str nm] fr (setF st id l (nA l a j)) = some (.ok (.val ((predV l a j nm).1.enc)) (fr.map E.noMem) (setF (dd st ((predV l a j nm).1.set.length)) id l (nA l a (j + (predV l a j nm).2)))) := by
  unfold callStep
  simp only [show gS.ext 29 = none from rfl, fi29_eq, show fi29.pure = false from rfl, Bool.false_eq_true, if_false, c29 l a j id nm st h ha (by omega), retE]
  all_goals rfl
end
end Go.Proofs.Ytclpbfkbpcjejaa
namespace Go.Proofs.Ytclpbfkbpcjejaa
open Go Go.Ab
set_option linter.unusedVariables false
set_option linter.unusedSimpArgs false
set_option linter.unnecessarySimpa false
set_option maxRecDepth 20000
noncomputable section
variable (fr : Fr) (st : St) (k : Kt)
def b5 : Code := mini (codeOf Try.f5)
theorem new_feed (st : St) (l : List Int) : ({ objs := st.objs ++ [[V.slice (intVs l), V.int .i64 0]], wp := st.wp } : St) = setF (nw st 0 []) st.objs.length l (nA l 0 0) := by
  unfold setF nw nA
  simp
theorem feedOk_new {st : St} (h : st.wp ≤ st.objs.length) : FeedOk (nw st 0 []) st.objs.length := ⟨by rw [gr_len]; omega, h⟩
end
end Go.Proofs.Ytclpbfkbpcjejaa
namespace Go.Ab
open Go
set_option linter.unusedVariables false
set_option linter.unusedSimpArgs false
set_option linter.unnecessarySimpa false
def aget : List Attr → List UInt8 → Val × Bool
  | [], _ => (vzero, false)
  | a :: r, nm => if a.name = nm then (a.v, true) else aget r nm
def sgt (a b : List UInt8) : Bool := !(Op.bytesLess a b || decide (a = b))
/-- Right ones, their names not falling. -/
def rises : Option (List UInt8) → List Pred → Bool
  | _, [] => true
  | none, p :: r => pright p && rises (some p.name) r
  | some n, p :: r => pright p && !sgt n p.name && rises (some p.name) r
def fright (f : List Pred) : Bool := decide (f.length ≤ 3) && rises none f
def ftakes (f : List Pred) (l : List Attr) : Bool := f.all fun p => (aget l p.name).2 && ptakes p (aget l p.name).1
def fcov1 (p : Pred) (g : List Pred) : Bool := g.any fun q => decide (q.name = p.name) && pimplies q p
def fcovers (f g : List Pred) : Bool := g.any pvoid || f.all fun p => fcov1 p g
def fsames : List Pred → List Pred → Bool
  | [], [] => true
  | a :: r, b :: s => psame a b && fsames r s
  | _, _ => false
def fsame (f g : List Pred) : Bool := decide (f.length = g.length) && fsames f g
def fany (l : List (List Pred)) (a : List Attr) : Bool := l.any fun f => ftakes f a
def encPredss (l : List (List Pred)) : List V := l.map fun f => V.slice (encPreds f)
theorem encPredss_length (l : List (List Pred)) : (encPredss l).length = l.length := by simp [encPredss]
theorem encPredss_get (l : List (List Pred)) (i : Nat) : (encPredss l)[i]? = (l[i]?).map fun f => V.slice (encPreds f) := by simp [encPredss]
theorem encPredss_gE (l : List (List Pred)) (i : Nat) (h : i < (encPredss l).length) : (encPredss l)[i]'h = .slice (encPreds (l[i]'(by rw [encPredss_length] at h; exact h))) := by simp [encPredss]
theorem flats_predss (l : List (List Pred)) : flats (encPredss l) = true := by
  induction l with
  | nil => rfl
  | cons x r ih => simp only [encPredss, List.map_cons, flats, V.flat, flats_preds] at ih ⊢; exact ih
attribute [simp] encPredss_length encPredss_get encPredss_gE flats_predss
/-- Of a size that may be handled. -/
def POk (f : List Pred) : Prop := f.length < 4611686018427387904 ∧ ∀ p ∈ f, p.ok
theorem POk.get {f : List Pred} (h : POk f) {i : Nat} {p : Pred} (hp : f[i]? = some p) : p.ok := h.2 p (List.mem_of_getElem? hp)
theorem rises_some (n : List UInt8) (p : Pred) (r : List Pred) : rises (some n) (p :: r) = (pright p && !sgt n p.name && rises (some p.name) r) := rfl
theorem rises_none (p : Pred) (r : List Pred) : rises none (p :: r) = (pright p && rises (some p.name) r) := rfl
theorem rises_nil (o : Option (List UInt8)) : rises o [] = true := by cases o <;> rfl
/-- The name prevN of a place. -/
def prevN (f : List Pred) (i : Nat) : Option (List UInt8) := if i = 0 then none else (f[i - 1]?).map Pred.name
theorem prevN_zero (f : List Pred) : prevN f 0 = none := rfl
theorem prevN_succ {f : List Pred} {i : Nat} {p : Pred} (h : f[i]? = some p) : prevN f (i + 1) = some p.name := by
  unfold prevN; rw [if_neg (by omega), Nat.add_sub_cancel, h]; rfl
end Go.Ab
namespace Go.Proofs.Ytclpbfkbpcjejaa
open Go Go.Ab
set_option linter.unusedVariables false
set_option linter.unusedSimpArgs false
set_option linter.unnecessarySimpa false
set_option maxRecDepth 20000
noncomputable section
variable (fr : Fr) (st : St) (k : Kt)
def fi92 : FI := { body := codeOf Try.f92, ntmps := 22, results := [.cell 4 24, .tmp 5], pers := [0, 1, 4, 5, 7, 8, 9, 10], locals := [4, 7], pure := true, marks := [] }
theorem fi92_eq : gS.fn 92 = some fi92 := by kernel_rfl
theorem st92 (a0 a1 : V) : startFr fi92 [a0, a1] = { ps := [(0, .val a0), (1, .val a1), (4, .any), (5, .any), (7, .any), (8, .any), (9, .any), (10, .any)], ts := [], lc := [] } := rfl
def b92 : Code := mini (codeOf Try.f92)
def c92_20 : Code := .seq (codeN b92 9829) .ret
def c92_19 : Code := .cond (.tmp 17) c92_20 .skip
def c92_17 : Code := .seq (codeN b92 2661) c92_19
def c92_15 : Code := .seq (codeN b92 1125) c92_17
def c92_24 : Code := codeN b92 485
def c92_13 : Code := .seq (.block 1 c92_15) c92_24
def c92_9 : Code := .seq (.cond (.tmp 11) .skip (.exit 0)) c92_13
def c92_7 : Code := .seq (codeN b92 69) c92_9
def c92_6 : Code := .loop c92_7
def c92_5 : Code := .block 0 c92_6
def c92_3 : Code := .seq (codeN b92 9) c92_5
def c92_25 : Code := .seq (codeN b92 11) .ret
def c92_2 : Code := .seq c92_3 c92_25
def c92_0 : Code := .seq (codeN b92 2) c92_2
theorem E92 : (evK gS fi92 c92_20 fr st k = opsR gS fi92 [op1 18 (.fieldAddr 111 (.tmp 7) 1) 0,
 ld 19 24 18 24,
 sto 24 4 19,
 op1 5 (.assign (.const (.bool true))) 4] fr st (.seq .ret k)) ∧
 evK gS fi92 c92_19 fr st k = condK gS fi92 (fr.op (.tmp 17)).bool? c92_20 .skip fr st k ∧
 (evK gS fi92 c92_17 fr st k = opsR gS fi92 [op1 14 (.fieldAddr 111 (.tmp 7) 0) 0,
 ld 15 9 14 9,
 mv 16 1 9,
 bop 17 .eql 9 15 16 9 4] fr st (.seq c92_19 k)) ∧
 (evK gS fi92 c92_15 fr st k = opsR gS fi92 [ixa 12 50 8 10 0,
 ld 13 111 12 111,
 op1 7 (.alloc 111) 0,
 sto 111 7 13] fr st (.seq c92_17 k)) ∧
 (evK gS fi92 c92_24 fr st k = opsR gS fi92 [op1 20 (.binOp .add 3 (.tmp 10) (.const (.int .i64 1)) 3) 3,
 mv 10 20 3] fr st k) ∧
 evK gS fi92 c92_13 fr st k = evK gS fi92 c92_15 fr st (.blk 1 (.seq c92_24 k)) ∧
 evK gS fi92 c92_9 fr st k = condK gS fi92 (fr.op (.tmp 11)).bool? .skip (.exit 0) fr st (.seq c92_13 k) ∧
 evK gS fi92 c92_7 fr st k = opsR gS fi92 [bop 11 .lss 3 10 9 3 0] fr st (.seq c92_9 k) ∧
 evK gS fi92 c92_5 fr st k = evK gS fi92 c92_6 fr st (.blk 0 k) ∧
 (evK gS fi92 c92_3 fr st k = opsR gS fi92 [mv 8 0 50,
 len1 9 8 50 3,
 op1 10 (.move (.const (.int .i64 0))) 3] fr st (.seq c92_5 k)) ∧
 (evK gS fi92 c92_25 fr st k = opsR gS fi92 [op1 21 (.build 24 #[]) 24,
 sto 24 4 21,
 op1 5 (.assign (.const (.bool false))) 4] fr st (.seq .ret k)) ∧
 evK gS fi92 c92_2 fr st k = evK gS fi92 c92_3 fr st (.seq c92_25 k) ∧
 (evK gS fi92 c92_0 fr st k = opsR gS fi92 [op1 4 (.alloc 24) 0,
 op1 5 (.assign (.const (.bool false))) 4] fr st (.seq c92_2 k)) := ⟨evK_rs 5 rfl (by kernel_rfl), rfl, evK_rs 4 rfl (by kernel_rfl), evK_rs 3 rfl (by kernel_rfl), evK_r 6 (by kernel_rfl), rfl, rfl, evK_rs 2 rfl (by kernel_rfl), rfl, evK_rs 1 rfl (by kernel_rfl), evK_rs 7 rfl (by kernel_rfl), rfl, evK_rs 0 rfl (by kernel_rfl)⟩
theorem m92 : mini fi92.body = c92_0 := by kernel_rfl
theorem n92_6 (fr : Fr) (st : St) (k : Kt) : nextK gS fi92 (.loop c92_7 k) .normal fr st = evK gS fi92 c92_6 fr st k := rfl
set_option maxHeartbeats 4000000 in
theorem L92_6 (l : List Attr) (nm : List UInt8) (h_l : l.length < 4611686018427387904) (st : St) : ∀ (n i : Nat) (j : Int)  (e0 e7 : E) (T : List (Nat × E)) (X : List (Nat × List V)) (ht0 : e0.Tame) (ht7 : e7.Tame) (hx4 : lk X 4 = some [.int .i64 0, .int .i64 0, .float .f64 0, .str [], .bool false]) , j = (i : Int) → i ≤ (l).length → (l).length - i = n →
    evK gS fi92 c92_6 { ps := [(0, e0), (1, .val (.str nm)), (4, .lp 4 0), (5, .val (.bool false)), (7, e7), (8, .val (.slice (encAttrs l))), (9, .val (.int .i64 l.length)), (10, .val (.int .i64 j))], ts := T, lc := X } st (.blk 0 (.seq c92_25 .nil)) = some ((.ret (.tuple [(aget (l.drop i) nm).1.enc, .bool (aget (l.drop i) nm).2]) none), st) := by
  intro n
  have hm : fi92.marks = [] := rfl
  have hl : fi92.locals = [4, 7] := rfl
  have hr : fi92.results = [.cell 4 24, .tmp 5] := rfl
  induction n with
  | zero =>
    intro i j  e0 e7 T X ht0 ht7 hx4  hj hi hn
    obtain rfl : i = (l).length := by omega
    subst hj
    refine evK_loop c92_7 _ st _ _ rfl ?_
    simp (config := { contextual := true, maxSteps := 10000000, maxDischargeDepth := 6 }) [-Int.not_le, -Int.not_lt, -Nat.not_le, -Nat.not_lt, ty3, ty4, ty9, ty24, ty50, ty111, eq24, hm, hl, hr, E92, n92_6, ht0, ht7, hx4, aget, vzero, lk_lset_self _ _ _ _ hx4]
    all_goals first | done | grind | omega | (trace_state; fail)
  | succ n ih =>
    intro i j  e0 e7 T X ht0 ht7 hx4  hj hi hn
    subst hj
    obtain ⟨x, hx⟩ : ∃ x, (l)[i]? = some x := ⟨(l)[i]'(by omega), List.getElem?_eq_getElem (by omega)⟩
    have hd := drop_get hx
    have hlt : (i : Int) < ((l).length : Int) := by omega
    have hlt2 : i < (l).length := by omega
    have hxe : (l)[i]'hlt2 = x := by rw [List.getElem?_eq_getElem hlt2] at hx; exact Option.some.inj hx
    have hw : IntKind.wrap .i64 ((i : Int) + 1) = (i : Int) + 1 := wrap64 (by omega) (by omega)
    have hf4 : ∀ v, lk (lset (X.filter fun x => !(x.1 == 7)) 4 v) 4 = some v := fun v => lk_lset_self _ _ _ _ (by rw [lk_filter _ _ _ rfl]; exact hx4)
    have IH := fun e0 e7 T X ht0 ht7 hx4 => ih (i + 1) ((i : Int) + 1) e0 e7 T X ht0 ht7 hx4 rfl (by omega) (by omega)
    refine evK_loop c92_7 _ st _ _ rfl ?_
    simp (config := { contextual := true, maxSteps := 10000000, maxDischargeDepth := 6 }) [-Int.not_le, -Int.not_lt, -Nat.not_le, -Nat.not_lt, ty3, ty4, ty9, ty24, ty50, ty111, eq24, hm, hl, hr, E92, n92_6, ht0, ht7, hx4, hx, hxe, hd, hlt, hlt2, hw, IH, aget, vzero, hf4, lk_lset_self _ _ _ _ hx4]
    all_goals first | done | grind | omega | (trace_state; fail)
set_option maxHeartbeats 4000000 in
theorem c92 (l : List Attr) (nm : List UInt8)  (h_l : l.length < 4611686018427387904) (st : St) : EvF gS 92 [.slice (encAttrs l), .str nm] st = some (.ret (.tuple [(aget l nm).1.enc, .bool (aget l nm).2]) none, st) := by
  refine EvF_start fi92_eq (fun x h => by cases h) m92 ?_
  rw [st92]
  have hm : fi92.marks = [] := rfl
  have hl : fi92.locals = [4, 7] := rfl
  have hr : fi92.results = [.cell 4 24, .tmp 5] := rfl
  simp (config := { contextual := true, maxSteps := 10000000, maxDischargeDepth := 6 }) [-Int.not_le, -Int.not_lt, -Nat.not_le, -Nat.not_lt, ty3, ty4, ty9, ty24, ty50, ty111, eq24, hm, hl, hr, E92, n92_6, (fun e0 e7 T X ht0 ht7 hx4 => L92_6 l nm h_l st _ 0 0  e0 e7 T X ht0 ht7 hx4 rfl (Nat.zero_le _) rfl), h_l]
  all_goals first | done | grind | omega | (trace_state; fail)
theorem k92 (l : List Attr) (nm : List UInt8)  (h_l : l.length < 4611686018427387904) (fr : Fr) (st : St) : callStep gS (EvF gS) 92 [.slice (encAttrs l), .str nm] fr st = some (.ok (retE none (.tuple [(aget l nm).1.enc, .bool (aget l nm).2])) fr st) :=
  call_pure rfl fi92_eq rfl (fun st => c92 l nm h_l st) (by simp)
def fi93 : FI := { body := codeOf Try.f93, ntmps := 26, results := [.cell 4 24, .tmp 5], pers := [0, 1, 4, 5, 6], locals := [4], pure := true, marks := [] }
theorem fi93_eq : gS.fn 93 = some fi93 := by kernel_rfl
theorem st93 (a0 a1 : V) : startFr fi93 [a0, a1] = { ps := [(0, .val a0), (1, .val a1), (4, .any), (5, .any), (6, .any)], ts := [], lc := [] } := rfl
def b93 : Code := mini (codeOf Try.f93)
def c93_10 : Code := .cond (.tmp 10) .skip (.exit 0)
def c93_8 : Code := .seq (codeN b93 133) c93_10
def c93_18 : Code := .seq (codeN b93 2341) .ret
def c93_17 : Code := .cond (.tmp 19) c93_18 .skip
def c93_15 : Code := .seq (codeN b93 549) c93_17
def c93_22 : Code := codeN b93 229
def c93_13 : Code := .seq (.block 1 c93_15) c93_22
def c93_7 : Code := .seq c93_8 c93_13
def c93_6 : Code := .loop c93_7
def c93_5 : Code := .block 0 c93_6
def c93_3 : Code := .seq (codeN b93 9) c93_5
def c93_23 : Code := .seq (codeN b93 11) .ret
def c93_2 : Code := .seq c93_3 c93_23
def c93_0 : Code := .seq (codeN b93 2) c93_2
theorem E93 : evK gS fi93 c93_10 fr st k = condK gS fi93 (fr.op (.tmp 10)).bool? .skip (.exit 0) fr st k ∧
 (evK gS fi93 c93_8 fr st k = opsR gS fi93 [mv 7 6 3,
 mv 8 0 50,
 len1 9 8 50 3,
 bop 10 .lss 3 7 9 3 4] fr st (.seq c93_10 k)) ∧
 (evK gS fi93 c93_18 fr st k = opsR gS fi93 [mv 20 0 50,
 mv 21 6 3,
 ixa 22 50 20 21 0,
 op1 23 (.fieldAddr 111 (.tmp 22) 1) 0,
 ld 24 24 23 24,
 sto 24 4 24,
 op1 5 (.assign (.const (.bool true))) 4] fr st (.seq .ret k)) ∧
 evK gS fi93 c93_17 fr st k = condK gS fi93 (fr.op (.tmp 19)).bool? c93_18 .skip fr st k ∧
 (evK gS fi93 c93_15 fr st k = opsR gS fi93 [mv 13 0 50,
 mv 14 6 3,
 ixa 15 50 13 14 0,
 op1 16 (.fieldAddr 111 (.tmp 15) 0) 0,
 ld 17 9 16 9,
 mv 18 1 9,
 bop 19 .eql 9 17 18 9 4] fr st (.seq c93_17 k)) ∧
 (evK gS fi93 c93_22 fr st k = opsR gS fi93 [mv 11 6 3,
 op1 12 (.binOp .add 3 (.tmp 11) (.const (.int .i64 1)) 3) 3,
 asn 6 12 3] fr st k) ∧
 evK gS fi93 c93_13 fr st k = evK gS fi93 c93_15 fr st (.blk 1 (.seq c93_22 k)) ∧
 evK gS fi93 c93_7 fr st k = evK gS fi93 c93_8 fr st (.seq c93_13 k) ∧
 evK gS fi93 c93_5 fr st k = evK gS fi93 c93_6 fr st (.blk 0 k) ∧
 evK gS fi93 c93_3 fr st k = opsR gS fi93 [op1 6 (.assign (.const (.int .i64 0))) 3] fr st (.seq c93_5 k) ∧
 (evK gS fi93 c93_23 fr st k = opsR gS fi93 [op1 25 (.build 24 #[]) 24,
 sto 24 4 25,
 op1 5 (.assign (.const (.bool false))) 4] fr st (.seq .ret k)) ∧
 evK gS fi93 c93_2 fr st k = evK gS fi93 c93_3 fr st (.seq c93_23 k) ∧
 (evK gS fi93 c93_0 fr st k = opsR gS fi93 [op1 4 (.alloc 24) 0,
 op1 5 (.assign (.const (.bool false))) 4] fr st (.seq c93_2 k)) := ⟨rfl, evK_rs 2 rfl (by kernel_rfl), evK_rs 5 rfl (by kernel_rfl), rfl, evK_rs 4 rfl (by kernel_rfl), evK_r 3 (by kernel_rfl), rfl, rfl, rfl, evK_rs 1 rfl (by kernel_rfl), evK_rs 6 rfl (by kernel_rfl), rfl, evK_rs 0 rfl (by kernel_rfl)⟩
theorem m93 : mini fi93.body = c93_0 := by kernel_rfl
theorem n93_6 (fr : Fr) (st : St) (k : Kt) : nextK gS fi93 (.loop c93_7 k) .normal fr st = evK gS fi93 c93_6 fr st k := rfl
set_option maxHeartbeats 4000000 in
theorem L93_6 (l : List Attr) (nm : List UInt8) (h_l : l.length < 4611686018427387904) (st : St) : ∀ (n i : Nat) (j : Int)  (T : List (Nat × E)) (X : List (Nat × List V)) (hx4 : lk X 4 = some [.int .i64 0, .int .i64 0, .float .f64 0, .str [], .bool false]) , j = (i : Int) → i ≤ (l).length → (l).length - i = n →
    evK gS fi93 c93_6 { ps := [(0, .val (.slice (encAttrs l))), (1, .val (.str nm)), (4, .lp 4 0), (5, .val (.bool false)), (6, .val (.int .i64 j))], ts := T, lc := X } st (.blk 0 (.seq c93_23 .nil)) = some ((.ret (.tuple [(aget (l.drop i) nm).1.enc, .bool (aget (l.drop i) nm).2]) none), st) := by
  intro n
  have hm : fi93.marks = [] := rfl
  have hl : fi93.locals = [4] := rfl
  have hr : fi93.results = [.cell 4 24, .tmp 5] := rfl
  induction n with
  | zero =>
    intro i j   T X hx4  hj hi hn
    obtain rfl : i = (l).length := by omega
    subst hj
    refine evK_loop c93_7 _ st _ _ rfl ?_
    simp (config := { contextual := true, maxSteps := 10000000, maxDischargeDepth := 6 }) [-Int.not_le, -Int.not_lt, -Nat.not_le, -Nat.not_lt, ty3, ty4, ty9, ty24, ty50, ty111, eq24, hm, hl, hr, E93, n93_6, hx4, aget, vzero, lk_lset_self _ _ _ _ hx4]
    all_goals first | done | grind | omega | (trace_state; fail)
  | succ n ih =>
    intro i j   T X hx4  hj hi hn
    subst hj
    obtain ⟨x, hx⟩ : ∃ x, (l)[i]? = some x := ⟨(l)[i]'(by omega), List.getElem?_eq_getElem (by omega)⟩
    have hd := drop_get hx
    have hlt : (i : Int) < ((l).length : Int) := by omega
    have hlt2 : i < (l).length := by omega
    have hxe : (l)[i]'hlt2 = x := by rw [List.getElem?_eq_getElem hlt2] at hx; exact Option.some.inj hx
    have hw : IntKind.wrap .i64 ((i : Int) + 1) = (i : Int) + 1 := wrap64 (by omega) (by omega)
    have hf4 : ∀ v, lk (lset (X.filter fun x => !(x.1 == 7)) 4 v) 4 = some v := fun v => lk_lset_self _ _ _ _ (by rw [lk_filter _ _ _ rfl]; exact hx4)
    have IH := fun T X hx4 => ih (i + 1) ((i : Int) + 1) T X hx4 rfl (by omega) (by omega)
    refine evK_loop c93_7 _ st _ _ rfl ?_
    simp (config := { contextual := true, maxSteps := 10000000, maxDischargeDepth := 6 }) [-Int.not_le, -Int.not_lt, -Nat.not_le, -Nat.not_lt, ty3, ty4, ty9, ty24, ty50, ty111, eq24, hm, hl, hr, E93, n93_6, hx4, hx, hxe, hd, hlt, hlt2, hw, IH, aget, vzero, hf4, lk_lset_self _ _ _ _ hx4]
    all_goals first | done | grind | omega | (trace_state; fail)
set_option maxHeartbeats 4000000 in
theorem c93 (l : List Attr) (nm : List UInt8)  (h_l : l.length < 4611686018427387904) (st : St) : EvF gS 93 [.slice (encAttrs l), .str nm] st = some (.ret (.tuple [(aget l nm).1.enc, .bool (aget l nm).2]) none, st) := by
  refine EvF_start fi93_eq (fun x h => by cases h) m93 ?_
  rw [st93]
  have hm : fi93.marks = [] := rfl
  have hl : fi93.locals = [4] := rfl
  have hr : fi93.results = [.cell 4 24, .tmp 5] := rfl
  simp (config := { contextual := true, maxSteps := 10000000, maxDischargeDepth := 6 }) [-Int.not_le, -Int.not_lt, -Nat.not_le, -Nat.not_lt, ty3, ty4, ty9, ty24, ty50, ty111, eq24, hm, hl, hr, E93, n93_6, (fun T X hx4 => L93_6 l nm h_l st _ 0 0  T X hx4 rfl (Nat.zero_le _) rfl), h_l]
  all_goals first | done | grind | omega | (trace_state; fail)
theorem k93 (l : List Attr) (nm : List UInt8)  (h_l : l.length < 4611686018427387904) (fr : Fr) (st : St) : callStep gS (EvF gS) 93 [.slice (encAttrs l), .str nm] fr st = some (.ok (retE none (.tuple [(aget l nm).1.enc, .bool (aget l nm).2])) fr st) :=
  call_pure rfl fi93_eq rfl (fun st => c93 l nm h_l st) (by simp)
theorem x93 : gS.ext 93 = none := rfl
theorem p93 : fi93.pure = true := rfl
def fi39 : FI := { body := codeOf Try.f39, ntmps := 31, results := [.tmp 4], pers := [0, 1, 4, 6, 7, 8, 9, 10, 11], locals := [6, 7], pure := true, marks := [] }
theorem fi39_eq : gS.fn 39 = some fi39 := by kernel_rfl
theorem st39 (a0 a1 : V) : startFr fi39 [a0, a1] = { ps := [(0, .val a0), (1, .val a1), (4, .any), (6, .any), (7, .any), (8, .any), (9, .any), (10, .any), (11, .any)], ts := [], lc := [] } := rfl
def b39 : Code := mini (codeOf Try.f39)
def c39_22 : Code := .seq (codeN b39 20069) .ret
def c39_21 : Code := .cond (.tmp 29) c39_22 .skip
def c39_19 : Code := .seq (codeN b39 5733) c39_21
def c39_17 : Code := .seq (codeN b39 2661) c39_19
def c39_15 : Code := .seq (codeN b39 1125) c39_17
def c39_26 : Code := codeN b39 485
def c39_13 : Code := .seq (.block 1 c39_15) c39_26
def c39_9 : Code := .seq (.cond (.tmp 12) .skip (.exit 0)) c39_13
def c39_7 : Code := .seq (codeN b39 69) c39_9
def c39_6 : Code := .loop c39_7
def c39_5 : Code := .block 0 c39_6
def c39_3 : Code := .seq (codeN b39 9) c39_5
def c39_27 : Code := .seq (codeN b39 11) .ret
def c39_2 : Code := .seq c39_3 c39_27
def c39_0 : Code := .seq (codeN b39 2) c39_2
theorem E39 : evK gS fi39 c39_22 fr st k = opsR gS fi39 [op1 4 (.assign (.const (.bool false))) 4] fr st (.seq .ret k) ∧
 evK gS fi39 c39_21 fr st k = condK gS fi39 (fr.op (.tmp 29)).bool? c39_22 .skip fr st k ∧
 (evK gS fi39 c39_19 fr st k = opsR gS fi39 [mv 22 8 4,
 op1 23 (.unOp .not 4 (.tmp 22)) 4,
 mv 24 23 4,
 mk (some 25) (.load 27 (.tmp 6)) 27 (some (2, false)),
 mk (some 26) (.load 24 (.tmp 7)) 24 (some (2, false)),
 mk (some 27) (.call { callee := (.value (.func 21)), args := #[(.tmp 25), (.tmp 26)], argTypes := #[27, 24] }) 4 (some (2, false)),
 mk (some 28) (.unOp .not 4 (.tmp 27)) 4 (some (2, false)),
 op1 29 (.pick (.tmp 24) (.const (.bool true)) (.tmp 28)) 4] fr st (.seq c39_21 k)) ∧
 (evK gS fi39 c39_17 fr st k = opsR gS fi39 [mv 16 1 50,
 op1 17 (.fieldAddr 27 (.tmp 6) 0) 0,
 ld 18 9 17 9,
 cal 19 92 [(.tmp 16), (.tmp 18)] [50, 9] 112,
 mv 15 19 112,
 op1 20 (.extract (.tmp 15) 0) 24,
 op1 21 (.extract (.tmp 15) 1) 4,
 op1 7 (.alloc 24) 0,
 sto 24 7 20,
 asn 8 21 4] fr st (.seq c39_19 k)) ∧
 (evK gS fi39 c39_15 fr st k = opsR gS fi39 [ixa 13 49 9 11 0,
 ld 14 27 13 27,
 op1 6 (.alloc 27) 0,
 sto 27 6 14] fr st (.seq c39_17 k)) ∧
 (evK gS fi39 c39_26 fr st k = opsR gS fi39 [op1 30 (.binOp .add 3 (.tmp 11) (.const (.int .i64 1)) 3) 3,
 mv 11 30 3] fr st k) ∧
 evK gS fi39 c39_13 fr st k = evK gS fi39 c39_15 fr st (.blk 1 (.seq c39_26 k)) ∧
 evK gS fi39 c39_9 fr st k = condK gS fi39 (fr.op (.tmp 12)).bool? .skip (.exit 0) fr st (.seq c39_13 k) ∧
 evK gS fi39 c39_7 fr st k = opsR gS fi39 [bop 12 .lss 3 11 10 3 0] fr st (.seq c39_9 k) ∧
 evK gS fi39 c39_5 fr st k = evK gS fi39 c39_6 fr st (.blk 0 k) ∧
 (evK gS fi39 c39_3 fr st k = opsR gS fi39 [mv 9 0 49,
 len1 10 9 49 3,
 op1 11 (.move (.const (.int .i64 0))) 3] fr st (.seq c39_5 k)) ∧
 evK gS fi39 c39_27 fr st k = opsR gS fi39 [op1 4 (.assign (.const (.bool true))) 4] fr st (.seq .ret k) ∧
 evK gS fi39 c39_2 fr st k = evK gS fi39 c39_3 fr st (.seq c39_27 k) ∧
 evK gS fi39 c39_0 fr st k = opsR gS fi39 [op1 4 (.assign (.const (.bool false))) 4] fr st (.seq c39_2 k) := ⟨evK_rs 6 rfl (by kernel_rfl), rfl, evK_rs 5 rfl (by kernel_rfl), evK_rs 4 rfl (by kernel_rfl), evK_rs 3 rfl (by kernel_rfl), evK_r 7 (by kernel_rfl), rfl, rfl, evK_rs 2 rfl (by kernel_rfl), rfl, evK_rs 1 rfl (by kernel_rfl), evK_rs 8 rfl (by kernel_rfl), rfl, evK_rs 0 rfl (by kernel_rfl)⟩
theorem m39 : mini fi39.body = c39_0 := by kernel_rfl
theorem n39_6 (fr : Fr) (st : St) (k : Kt) : nextK gS fi39 (.loop c39_7 k) .normal fr st = evK gS fi39 c39_6 fr st k := rfl
set_option maxHeartbeats 4000000 in
theorem L39_6 (f : List Pred) (l : List Attr) (h_f : POk f) (h_l : l.length < 4611686018427387904) (st : St) : ∀ (n i : Nat) (j : Int)  (e0 e6 e7 e8 : E) (T : List (Nat × E)) (X : List (Nat × List V)) (ht0 : e0.Tame) (ht6 : e6.Tame) (ht7 : e7.Tame) (ht8 : e8.Tame) , j = (i : Int) → i ≤ (f).length → (f).length - i = n →
    evK gS fi39 c39_6 { ps := [(0, e0), (1, .val (.slice (encAttrs l))), (4, .val (.bool false)), (6, e6), (7, e7), (8, e8), (9, .val (.slice (encPreds f))), (10, .val (.int .i64 f.length)), (11, .val (.int .i64 j))], ts := T, lc := X } st (.blk 0 (.seq c39_27 .nil)) = some ((.ret (.bool (ftakes (f.drop i) l)) none), st) := by
  intro n
  have hm : fi39.marks = [] := rfl
  have hl : fi39.locals = [6, 7] := rfl
  have hr : fi39.results = [.tmp 4] := rfl
  have hfl := h_f.1
  induction n with
  | zero =>
    intro i j  e0 e6 e7 e8 T X ht0 ht6 ht7 ht8  hj hi hn
    obtain rfl : i = (f).length := by omega
    subst hj
    refine evK_loop c39_7 _ st _ _ rfl ?_
    simp (config := { contextual := true, maxSteps := 10000000, maxDischargeDepth := 6 }) [-Int.not_le, -Int.not_lt, -Nat.not_le, -Nat.not_lt, ty3, ty4, ty9, ty24, ty27, ty49, ty50, eq24, hm, hl, hr, k21, k92, E39, n39_6, h_l, ht0, ht6, ht7, ht8]
    all_goals try simp (config := { contextual := true }) [-Int.not_le, -Int.not_lt, -Nat.not_le, -Nat.not_lt, ftakes]
    all_goals first | done | grind | omega | (trace_state; fail)
  | succ n ih =>
    intro i j  e0 e6 e7 e8 T X ht0 ht6 ht7 ht8  hj hi hn
    subst hj
    obtain ⟨x, hx⟩ : ∃ x, (f)[i]? = some x := ⟨(f)[i]'(by omega), List.getElem?_eq_getElem (by omega)⟩
    have hd := drop_get hx
    have hlt : (i : Int) < ((f).length : Int) := by omega
    have hlt2 : i < (f).length := by omega
    have hxe : (f)[i]'hlt2 = x := by rw [List.getElem?_eq_getElem hlt2] at hx; exact Option.some.inj hx
    have hw : IntKind.wrap .i64 ((i : Int) + 1) = (i : Int) + 1 := wrap64 (by omega) (by omega)
    have hpo := h_f.get hx
    have hxo := hpo.1
    have hxs := hpo.2
    have IH := fun e0 e6 e7 e8 T X ht0 ht6 ht7 ht8 => ih (i + 1) ((i : Int) + 1) e0 e6 e7 e8 T X ht0 ht6 ht7 ht8 rfl (by omega) (by omega)
    refine evK_loop c39_7 _ st _ _ rfl ?_
    simp (config := { contextual := true, maxSteps := 10000000, maxDischargeDepth := 6 }) [-Int.not_le, -Int.not_lt, -Nat.not_le, -Nat.not_lt, ty3, ty4, ty9, ty24, ty27, ty49, ty50, eq24, hm, hl, hr, k21, k92, E39, n39_6, h_l, ht0, ht6, ht7, ht8, hx, hxe, hd, hlt, hlt2, hw, IH, hxo, hxs]
    all_goals try simp (config := { contextual := true }) [-Int.not_le, -Int.not_lt, -Nat.not_le, -Nat.not_lt, ftakes]
    all_goals first | done | grind | omega | (trace_state; fail)
set_option maxHeartbeats 4000000 in
theorem c39 (f : List Pred) (l : List Attr) (h_f : POk f) (h_l : l.length < 4611686018427387904) (st : St) : EvF gS 39 [.slice (encPreds f), .slice (encAttrs l)] st = some (.ret (.bool (ftakes f l)) none, st) := by
  refine EvF_start fi39_eq (fun x h => by cases h) m39 ?_
  rw [st39]
  have hm : fi39.marks = [] := rfl
  have hl : fi39.locals = [6, 7] := rfl
  have hr : fi39.results = [.tmp 4] := rfl
  have hfl := h_f.1
  simp (config := { contextual := true, maxSteps := 10000000, maxDischargeDepth := 6 }) [-Int.not_le, -Int.not_lt, -Nat.not_le, -Nat.not_lt, ty3, ty4, ty9, ty24, ty27, ty49, ty50, eq24, hm, hl, hr, k21, k92, E39, n39_6, (fun e0 e6 e7 e8 T X ht0 ht6 ht7 ht8 => L39_6 f l h_f h_l st _ 0 0  e0 e6 e7 e8 T X ht0 ht6 ht7 ht8 rfl (Nat.zero_le _) rfl), hfl]
  all_goals try simp (config := { contextual := true }) [-Int.not_le, -Int.not_lt, -Nat.not_le, -Nat.not_lt, ftakes]
  all_goals first | done | grind | omega | (trace_state; fail)
theorem k39 (f : List Pred) (l : List Attr) (h_f : POk f) (h_l : l.length < 4611686018427387904) (fr : Fr) (st : St) : callStep gS (EvF gS) 39 [.slice (encPreds f), .slice (encAttrs l)] fr st = some (.ok (retE none (.bool (ftakes f l))) fr st) :=
  call_pure rfl fi39_eq rfl (fun st => c39 f l h_f h_l st) (by simp)
def fi40 : FI := { body := codeOf Try.f40, ntmps := 35, results := [.tmp 4], pers := [0, 1, 4, 5, 6, 7], locals := [6], pure := true, marks := [] }
theorem fi40_eq : gS.fn 40 = some fi40 := by kernel_rfl
theorem st40 (a0 a1 : V) : startFr fi40 [a0, a1] = { ps := [(0, .val a0), (1, .val a1), (4, .any), (5, .any), (6, .any), (7, .any)], ts := [], lc := [] } := rfl
def b40 : Code := mini (codeOf Try.f40)
def c40_10 : Code := .cond (.tmp 11) .skip (.exit 0)
def c40_8 : Code := .seq (codeN b40 133) c40_10
def r40_18 : Array Oper := regOps (codeN (codeOf Try.f40) 1317)
def c40_18 : Code := .region 5 r40_18 true
def q40_18 : List (Oper × Fl) := [(mv 24 7 4, ⟨true, true, true, false, true, false, true, true, false, false, []⟩),
 (op1 25 (.unOp .not 4 (.tmp 24)) 4, ⟨true, true, true, false, true, false, true, true, false, false, []⟩),
 (mv 26 25 4, ⟨true, true, true, false, true, false, true, true, false, false, []⟩),
 (mk (some 27) (.move (.tmp 0)) 49 (some (2, false)), ⟨true, false, true, false, false, false, true, true, false, false, []⟩),
 (mk (some 28) (.move (.tmp 5)) 3 (some (2, false)), ⟨true, false, true, false, false, false, true, true, false, false, []⟩),
 (mk (some 29) (.indexAddr 49 (.tmp 27) (.tmp 28)) 0 (some (2, false)), ⟨true, false, true, false, false, false, true, true, false, false, []⟩),
 (mk (some 30) (.load 27 (.tmp 29)) 27 (some (2, false)), ⟨true, false, true, false, false, false, true, true, false, false, []⟩),
 (mk (some 31) (.load 24 (.tmp 6)) 24 (some (2, false)), ⟨true, false, true, false, true, false, true, true, false, false, []⟩),
 (mk (some 32) (.call { callee := (.value (.func 22)), args := #[(.tmp 30), (.tmp 31)], argTypes := #[27, 24] }) 4 (some (2, false)), ⟨true, true, true, false, true, true, true, true, false, false, []⟩),
 (mk (some 33) (.unOp .not 4 (.tmp 32)) 4 (some (2, false)), ⟨true, true, true, false, true, false, true, true, false, false, []⟩),
 (op1 34 (.pick (.tmp 26) (.const (.bool true)) (.tmp 33)) 4, ⟨true, false, true, false, true, false, true, true, false, false, []⟩)]
def c40_20 : Code := .seq (codeN b40 4901) .ret
def c40_19 : Code := .cond (.tmp 34) c40_20 .skip
def c40_17 : Code := .seq c40_18 c40_19
def c40_15 : Code := .seq (codeN b40 549) c40_17
def c40_24 : Code := codeN b40 229
def c40_13 : Code := .seq (.block 1 c40_15) c40_24
def c40_7 : Code := .seq c40_8 c40_13
def c40_6 : Code := .loop c40_7
def c40_5 : Code := .block 0 c40_6
def c40_3 : Code := .seq (codeN b40 9) c40_5
def c40_25 : Code := .seq (codeN b40 11) .ret
def c40_2 : Code := .seq c40_3 c40_25
def c40_0 : Code := .seq (codeN b40 2) c40_2
theorem E40 : evK gS fi40 c40_10 fr st k = condK gS fi40 (fr.op (.tmp 11)).bool? .skip (.exit 0) fr st k ∧
 (evK gS fi40 c40_8 fr st k = opsR gS fi40 [mv 8 5 3,
 mv 9 0 49,
 len1 10 9 49 3,
 bop 11 .lss 3 8 10 3 4] fr st (.seq c40_10 k)) ∧
 evK gS fi40 c40_18 fr st k = drwR gS fi40 r40_18 q40_18 fr st k ∧
 evK gS fi40 c40_20 fr st k = opsR gS fi40 [op1 4 (.assign (.const (.bool false))) 4] fr st (.seq .ret k) ∧
 evK gS fi40 c40_19 fr st k = condK gS fi40 (fr.op (.tmp 34)).bool? c40_20 .skip fr st k ∧
 evK gS fi40 c40_17 fr st k = evK gS fi40 c40_18 fr st (.seq c40_19 k) ∧
 (evK gS fi40 c40_15 fr st k = opsR gS fi40 [mv 15 1 50,
 mv 16 0 49,
 mv 17 5 3,
 ixa 18 49 16 17 0,
 op1 19 (.fieldAddr 27 (.tmp 18) 0) 0,
 ld 20 9 19 9,
 cal 21 93 [(.tmp 15), (.tmp 20)] [50, 9] 112,
 mv 14 21 112,
 op1 22 (.extract (.tmp 14) 0) 24,
 op1 23 (.extract (.tmp 14) 1) 4,
 op1 6 (.alloc 24) 0,
 sto 24 6 22,
 asn 7 23 4] fr st (.seq c40_17 k)) ∧
 (evK gS fi40 c40_24 fr st k = opsR gS fi40 [mv 12 5 3,
 op1 13 (.binOp .add 3 (.tmp 12) (.const (.int .i64 1)) 3) 3,
 asn 5 13 3] fr st k) ∧
 evK gS fi40 c40_13 fr st k = evK gS fi40 c40_15 fr st (.blk 1 (.seq c40_24 k)) ∧
 evK gS fi40 c40_7 fr st k = evK gS fi40 c40_8 fr st (.seq c40_13 k) ∧
 evK gS fi40 c40_5 fr st k = evK gS fi40 c40_6 fr st (.blk 0 k) ∧
 evK gS fi40 c40_3 fr st k = opsR gS fi40 [op1 5 (.assign (.const (.int .i64 0))) 3] fr st (.seq c40_5 k) ∧
 evK gS fi40 c40_25 fr st k = opsR gS fi40 [op1 4 (.assign (.const (.bool true))) 4] fr st (.seq .ret k) ∧
 evK gS fi40 c40_2 fr st k = evK gS fi40 c40_3 fr st (.seq c40_25 k) ∧
 evK gS fi40 c40_0 fr st k = opsR gS fi40 [op1 4 (.assign (.const (.bool false))) 4] fr st (.seq c40_2 k) := ⟨rfl, evK_rs 2 rfl (by kernel_rfl), evK_dr 5 rfl (by kernel_rfl) (by kernel_rfl), evK_rs 6 rfl (by kernel_rfl), rfl, rfl, evK_rs 4 rfl (by kernel_rfl), evK_r 3 (by kernel_rfl), rfl, rfl, rfl, evK_rs 1 rfl (by kernel_rfl), evK_rs 7 rfl (by kernel_rfl), rfl, evK_rs 0 rfl (by kernel_rfl)⟩
theorem m40 : mini fi40.body = c40_0 := by kernel_rfl
theorem n40_6 (fr : Fr) (st : St) (k : Kt) : nextK gS fi40 (.loop c40_7 k) .normal fr st = evK gS fi40 c40_6 fr st k := rfl
set_option maxHeartbeats 4000000 in
theorem L40_6 (f : List Pred) (l : List Attr) (h_f : POk f) (h_l : l.length < 4611686018427387904) (st : St) : ∀ (n i : Nat) (j : Int)  (e6 e7 : E) (T : List (Nat × E)) (X : List (Nat × List V)) (ht6 : e6.Tame) (ht7 : e7.Tame) , j = (i : Int) → i ≤ (f).length → (f).length - i = n →
    evK gS fi40 c40_6 { ps := [(0, .val (.slice (encPreds f))), (1, .val (.slice (encAttrs l))), (4, .val (.bool false)), (5, .val (.int .i64 j)), (6, e6), (7, e7)], ts := T, lc := X } st (.blk 0 (.seq c40_25 .nil)) = some ((.ret (.bool (ftakes (f.drop i) l)) none), st) := by
  intro n
  have hm : fi40.marks = [] := rfl
  have hl : fi40.locals = [6] := rfl
  have hr : fi40.results = [.tmp 4] := rfl
  have hfl := h_f.1
  induction n with
  | zero =>
    intro i j  e6 e7 T X ht6 ht7  hj hi hn
    obtain rfl : i = (f).length := by omega
    subst hj
    refine evK_loop c40_7 _ st _ _ rfl ?_
    simp (config := { contextual := true, maxSteps := 10000000, maxDischargeDepth := 6 }) [-Int.not_le, -Int.not_lt, -Nat.not_le, -Nat.not_lt, ty3, ty4, ty9, ty24, ty27, ty49, ty50, eq24, hm, hl, hr, k22, x22, fi22_eq, p22, k93, x93, fi93_eq, p93, E40, q40_18, n40_6, h_l, ht6, ht7]
    all_goals try simp (config := { contextual := true }) [-Int.not_le, -Int.not_lt, -Nat.not_le, -Nat.not_lt, ftakes]
    all_goals first | done | grind | omega | (trace_state; fail)
  | succ n ih =>
    intro i j  e6 e7 T X ht6 ht7  hj hi hn
    subst hj
    obtain ⟨x, hx⟩ : ∃ x, (f)[i]? = some x := ⟨(f)[i]'(by omega), List.getElem?_eq_getElem (by omega)⟩
    have hd := drop_get hx
    have hlt : (i : Int) < ((f).length : Int) := by omega
    have hlt2 : i < (f).length := by omega
    have hxe : (f)[i]'hlt2 = x := by rw [List.getElem?_eq_getElem hlt2] at hx; exact Option.some.inj hx
    have hw : IntKind.wrap .i64 ((i : Int) + 1) = (i : Int) + 1 := wrap64 (by omega) (by omega)
    have hpo := h_f.get hx
    have hxo := hpo.1
    have hxs := hpo.2
    have IH := fun e6 e7 T X ht6 ht7 => ih (i + 1) ((i : Int) + 1) e6 e7 T X ht6 ht7 rfl (by omega) (by omega)
    refine evK_loop c40_7 _ st _ _ rfl ?_
    simp (config := { contextual := true, maxSteps := 10000000, maxDischargeDepth := 6 }) [-Int.not_le, -Int.not_lt, -Nat.not_le, -Nat.not_lt, ty3, ty4, ty9, ty24, ty27, ty49, ty50, eq24, hm, hl, hr, k22, x22, fi22_eq, p22, k93, x93, fi93_eq, p93, E40, q40_18, n40_6, h_l, ht6, ht7, hx, hxe, hd, hlt, hlt2, hw, IH, hxo, hxs]
    all_goals try simp (config := { contextual := true }) [-Int.not_le, -Int.not_lt, -Nat.not_le, -Nat.not_lt, ftakes]
    all_goals first | done | grind | omega | (trace_state; fail)
set_option maxHeartbeats 4000000 in
theorem c40 (f : List Pred) (l : List Attr) (h_f : POk f) (h_l : l.length < 4611686018427387904) (st : St) : EvF gS 40 [.slice (encPreds f), .slice (encAttrs l)] st = some (.ret (.bool (ftakes f l)) none, st) := by
  refine EvF_start fi40_eq (fun x h => by cases h) m40 ?_
  rw [st40]
  have hm : fi40.marks = [] := rfl
  have hl : fi40.locals = [6] := rfl
  have hr : fi40.results = [.tmp 4] := rfl
  have hfl := h_f.1
  simp (config := { contextual := true, maxSteps := 10000000, maxDischargeDepth := 6 }) [-Int.not_le, -Int.not_lt, -Nat.not_le, -Nat.not_lt, ty3, ty4, ty9, ty24, ty27, ty49, ty50, eq24, hm, hl, hr, k22, x22, fi22_eq, p22, k93, x93, fi93_eq, p93, E40, q40_18, n40_6, (fun e6 e7 T X ht6 ht7 => L40_6 f l h_f h_l st _ 0 0  e6 e7 T X ht6 ht7 rfl (Nat.zero_le _) rfl), hfl]
  all_goals try simp (config := { contextual := true }) [-Int.not_le, -Int.not_lt, -Nat.not_le, -Nat.not_lt, ftakes]
  all_goals first | done | grind | omega | (trace_state; fail)
theorem k40 (f : List Pred) (l : List Attr) (h_f : POk f) (h_l : l.length < 4611686018427387904) (fr : Fr) (st : St) : callStep gS (EvF gS) 40 [.slice (encPreds f), .slice (encAttrs l)] fr st = some (.ok (retE none (.bool (ftakes f l))) fr st) :=
  call_pure rfl fi40_eq rfl (fun st => c40 f l h_f h_l st) (by simp)
def fi41 : FI := { body := codeOf Try.f41, ntmps := 27, results := [.tmp 4], pers := [0, 1, 4, 5, 12, 13], locals := [], pure := true, marks := [] }
theorem fi41_eq : gS.fn 41 = some fi41 := by kernel_rfl
theorem st41 (a0 a1 : V) : startFr fi41 [a0, a1] = { ps := [(0, .val a0), (1, .val a1), (4, .any), (5, .any), (12, .any), (13, .any)], ts := [], lc := [] } := rfl
def b41 : Code := mini (codeOf Try.f41)
def c41_6 : Code := .seq (codeN b41 37) .ret
def c41_5 : Code := .cond (.tmp 10) c41_6 .skip
def c41_3 : Code := .seq (codeN b41 9) c41_5
def r41_26 : Array Oper := regOps (codeN (codeOf Try.f41) 5323)
def c41_26 : Code := .region 6 r41_26 true
def q41_26 : List (Oper × Fl) := [(mv 16 0 49, ⟨true, false, true, false, false, false, true, true, false, false, []⟩),
 (mv 17 5 3, ⟨true, false, true, false, false, false, true, true, false, false, []⟩),
 (ixa 18 49 16 17 0, ⟨true, false, true, false, false, false, true, true, false, false, []⟩),
 (ld 19 27 18 27, ⟨true, false, true, false, false, false, true, true, false, false, []⟩),
 (mv 20 1 49, ⟨true, false, true, false, false, false, true, true, false, false, []⟩),
 (mv 21 5 3, ⟨true, false, true, false, true, false, true, true, false, false, []⟩),
 (ixa 22 49 20 21 0, ⟨true, false, true, false, true, false, true, true, false, false, []⟩),
 (ld 23 27 22 27, ⟨true, false, true, false, true, false, true, true, false, false, []⟩),
 (cal 24 25 [(.tmp 19), (.tmp 23)] [27, 27] 4, ⟨true, true, true, false, true, true, true, true, false, false, []⟩),
 (op1 25 (.unOp .not 4 (.tmp 24)) 4, ⟨true, true, true, false, true, false, true, true, false, false, []⟩)]
def c41_28 : Code := .seq (codeN b41 19659) .ret
def c41_27 : Code := .cond (.tmp 25) c41_28 .skip
def c41_25 : Code := .seq c41_26 c41_27
def c41_23 : Code := .seq (codeN b41 2251) c41_25
def c41_32 : Code := codeN b41 971
def c41_21 : Code := .seq (.block 1 c41_23) c41_32
def c41_17 : Code := .seq (.cond (.tmp 14) .skip (.exit 0)) c41_21
def c41_15 : Code := .seq (codeN b41 139) c41_17
def c41_14 : Code := .loop c41_15
def c41_13 : Code := .block 0 c41_14
def c41_11 : Code := .seq (codeN b41 19) c41_13
def c41_33 : Code := .seq (codeN b41 23) .ret
def c41_10 : Code := .seq c41_11 c41_33
def c41_2 : Code := .seq c41_3 c41_10
def c41_0 : Code := .seq (codeN b41 2) c41_2
theorem E41 : evK gS fi41 c41_6 fr st k = opsR gS fi41 [op1 4 (.assign (.const (.bool false))) 4] fr st (.seq .ret k) ∧
 evK gS fi41 c41_5 fr st k = condK gS fi41 (fr.op (.tmp 10)).bool? c41_6 .skip fr st k ∧
 (evK gS fi41 c41_3 fr st k = opsR gS fi41 [mv 6 0 49,
 len1 7 6 49 3,
 mv 8 1 49,
 len1 9 8 49 3,
 bop 10 .neq 3 7 9 3 4] fr st (.seq c41_5 k)) ∧
 evK gS fi41 c41_26 fr st k = drwR gS fi41 r41_26 q41_26 fr st k ∧
 evK gS fi41 c41_28 fr st k = opsR gS fi41 [op1 4 (.assign (.const (.bool false))) 4] fr st (.seq .ret k) ∧
 evK gS fi41 c41_27 fr st k = condK gS fi41 (fr.op (.tmp 25)).bool? c41_28 .skip fr st k ∧
 evK gS fi41 c41_25 fr st k = evK gS fi41 c41_26 fr st (.seq c41_27 k) ∧
 (evK gS fi41 c41_23 fr st k = opsR gS fi41 [mv 15 13 3,
 asn 5 15 3] fr st (.seq c41_25 k)) ∧
 (evK gS fi41 c41_32 fr st k = opsR gS fi41 [op1 26 (.binOp .add 3 (.tmp 13) (.const (.int .i64 1)) 3) 3,
 mv 13 26 3] fr st k) ∧
 evK gS fi41 c41_21 fr st k = evK gS fi41 c41_23 fr st (.blk 1 (.seq c41_32 k)) ∧
 evK gS fi41 c41_17 fr st k = condK gS fi41 (fr.op (.tmp 14)).bool? .skip (.exit 0) fr st (.seq c41_21 k) ∧
 evK gS fi41 c41_15 fr st k = opsR gS fi41 [bop 14 .lss 3 13 12 3 0] fr st (.seq c41_17 k) ∧
 evK gS fi41 c41_13 fr st k = evK gS fi41 c41_14 fr st (.blk 0 k) ∧
 (evK gS fi41 c41_11 fr st k = opsR gS fi41 [mv 11 0 49,
 len1 12 11 49 3,
 op1 13 (.move (.const (.int .i64 0))) 3] fr st (.seq c41_13 k)) ∧
 evK gS fi41 c41_33 fr st k = opsR gS fi41 [op1 4 (.assign (.const (.bool true))) 4] fr st (.seq .ret k) ∧
 evK gS fi41 c41_10 fr st k = evK gS fi41 c41_11 fr st (.seq c41_33 k) ∧
 evK gS fi41 c41_2 fr st k = evK gS fi41 c41_3 fr st (.seq c41_10 k) ∧
 evK gS fi41 c41_0 fr st k = opsR gS fi41 [op1 4 (.assign (.const (.bool false))) 4] fr st (.seq c41_2 k) := ⟨evK_rs 2 rfl (by kernel_rfl), rfl, evK_rs 1 rfl (by kernel_rfl), evK_dr 6 rfl (by kernel_rfl) (by kernel_rfl), evK_rs 7 rfl (by kernel_rfl), rfl, rfl, evK_rs 5 rfl (by kernel_rfl), evK_r 8 (by kernel_rfl), rfl, rfl, evK_rs 4 rfl (by kernel_rfl), rfl, evK_rs 3 rfl (by kernel_rfl), evK_rs 9 rfl (by kernel_rfl), rfl, rfl, evK_rs 0 rfl (by kernel_rfl)⟩
theorem m41 : mini fi41.body = c41_0 := by kernel_rfl
theorem n41_14 (fr : Fr) (st : St) (k : Kt) : nextK gS fi41 (.loop c41_15 k) .normal fr st = evK gS fi41 c41_14 fr st k := rfl
set_option maxHeartbeats 4000000 in
theorem L41_14 (f : List Pred) (g : List Pred) (h_f : POk f) (h_g : POk g) (st : St) : ∀ (n i : Nat) (j : Int) (m : Int) (e5 : E) (T : List (Nat × E)) (X : List (Nat × List V)) (ht5 : e5.Tame) (hlen : f.length = g.length) (hm12 : m = ((f.length : Nat) : Int)), j = (i : Int) → i ≤ (f).length → (f).length - i = n →
    evK gS fi41 c41_14 { ps := [(0, .val (.slice (encPreds f))), (1, .val (.slice (encPreds g))), (4, .val (.bool false)), (5, e5), (12, .val (.int .i64 m)), (13, .val (.int .i64 j))], ts := T, lc := X } st (.blk 0 (.seq c41_33 .nil)) = some ((.ret (.bool (fsames (f.drop i) (g.drop i))) none), st) := by
  intro n
  have hm : fi41.marks = [] := rfl
  have hl : fi41.locals = [] := rfl
  have hr : fi41.results = [.tmp 4] := rfl
  have hfl := h_f.1
  induction n with
  | zero =>
    intro i j m e5 T X ht5 hlen hm12 hj hi hn
    obtain rfl : i = (f).length := by omega
    subst hj
    subst hm12
    have hz : g.drop f.length = [] := List.drop_eq_nil_of_le (by omega)
    refine evK_loop c41_15 _ st _ _ rfl ?_
    simp (config := { contextual := true, maxSteps := 10000000, maxDischargeDepth := 6 }) [-Int.not_le, -Int.not_lt, -Nat.not_le, -Nat.not_lt, ty3, ty4, ty27, ty49, hm, hl, hr, k25, x25, fi25_eq, p25, E41, q41_26, n41_14, ht5, hz]
    all_goals try simp (config := { contextual := true }) [-Int.not_le, -Int.not_lt, -Nat.not_le, -Nat.not_lt, fsames]
    all_goals first | done | grind | omega | (trace_state; fail)
  | succ n ih =>
    intro i j m e5 T X ht5 hlen hm12 hj hi hn
    subst hj
    obtain ⟨x, hx⟩ : ∃ x, (f)[i]? = some x := ⟨(f)[i]'(by omega), List.getElem?_eq_getElem (by omega)⟩
    have hd := drop_get hx
    have hlt : (i : Int) < ((f).length : Int) := by omega
    have hlt2 : i < (f).length := by omega
    have hxe : (f)[i]'hlt2 = x := by rw [List.getElem?_eq_getElem hlt2] at hx; exact Option.some.inj hx
    have hw : IntKind.wrap .i64 ((i : Int) + 1) = (i : Int) + 1 := wrap64 (by omega) (by omega)
    subst hm12
    have hpo := h_f.get hx
    have hxo := hpo.1
    have hxs := hpo.2
    obtain ⟨y, hy⟩ : ∃ y, (g)[i]? = some y := ⟨(g)[i]'(by omega), List.getElem?_eq_getElem (by omega)⟩
    have hyd := drop_get hy
    have hyl : i < (g).length := by omega
    have hye : (g)[i]'hyl = y := by rw [List.getElem?_eq_getElem hyl] at hy; exact Option.some.inj hy
    have hpy := h_g.get hy
    have hyo := hpy.1
    have hys := hpy.2
    have IH := fun m e5 T X ht5 hlen hm12 => ih (i + 1) ((i : Int) + 1) m e5 T X ht5 hlen hm12 rfl (by omega) (by omega)
    refine evK_loop c41_15 _ st _ _ rfl ?_
    simp (config := { contextual := true, maxSteps := 10000000, maxDischargeDepth := 6 }) [-Int.not_le, -Int.not_lt, -Nat.not_le, -Nat.not_lt, ty3, ty4, ty27, ty49, hm, hl, hr, k25, x25, fi25_eq, p25, E41, q41_26, n41_14, ht5, hx, hxe, hd, hlt, hlt2, hw, IH, hy, hye, hyd, hlen, hxo, hxs, hyo, hys]
    all_goals try simp (config := { contextual := true }) [-Int.not_le, -Int.not_lt, -Nat.not_le, -Nat.not_lt, fsames]
    all_goals first | done | grind | omega | (trace_state; fail)
set_option maxHeartbeats 4000000 in
theorem c41 (f : List Pred) (g : List Pred) (h_f : POk f) (h_g : POk g) (st : St) : EvF gS 41 [.slice (encPreds f), .slice (encPreds g)] st = some (.ret (.bool (fsame f g)) none, st) := by
  refine EvF_start fi41_eq (fun x h => by cases h) m41 ?_
  rw [st41]
  have hm : fi41.marks = [] := rfl
  have hl : fi41.locals = [] := rfl
  have hr : fi41.results = [.tmp 4] := rfl
  have hfl := h_f.1
  simp (config := { contextual := true, maxSteps := 10000000, maxDischargeDepth := 6 }) [-Int.not_le, -Int.not_lt, -Nat.not_le, -Nat.not_lt, ty3, ty4, ty27, ty49, hm, hl, hr, k25, x25, fi25_eq, p25, E41, q41_26, n41_14, (fun m e5 T X ht5 hlen hm12 => L41_14 f g h_f h_g st _ 0 0  m e5 T X ht5 hlen hm12 rfl (Nat.zero_le _) rfl), hfl]
  all_goals try simp (config := { contextual := true }) [-Int.not_le, -Int.not_lt, -Nat.not_le, -Nat.not_lt, fsame]
  all_goals first | done | grind | omega | (trace_state; fail)
theorem k41 (f : List Pred) (g : List Pred) (h_f : POk f) (h_g : POk g) (fr : Fr) (st : St) : callStep gS (EvF gS) 41 [.slice (encPreds f), .slice (encPreds g)] fr st = some (.ok (retE none (.bool (fsame f g))) fr st) :=
  call_pure rfl fi41_eq rfl (fun st => c41 f g h_f h_g st) (by simp)
def fi42 : FI := { body := codeOf Try.f42, ntmps := 27, results := [.tmp 4], pers := [0, 1, 4, 5], locals := [], pure := true, marks := [] }
theorem fi42_eq : gS.fn 42 = some fi42 := by kernel_rfl
theorem st42 (a0 a1 : V) : startFr fi42 [a0, a1] = { ps := [(0, .val a0), (1, .val a1), (4, .any), (5, .any)], ts := [], lc := [] } := rfl
def b42 : Code := mini (codeOf Try.f42)
def c42_6 : Code := .seq (codeN b42 37) .ret
def c42_5 : Code := .cond (.tmp 10) c42_6 .skip
def c42_3 : Code := .seq (codeN b42 9) c42_5
def c42_18 : Code := .cond (.tmp 14) .skip (.exit 0)
def c42_16 : Code := .seq (codeN b42 267) c42_18
def r42_24 : Array Oper := regOps (codeN (codeOf Try.f42) 1099)
def c42_24 : Code := .region 6 r42_24 true
def q42_24 : List (Oper × Fl) := [(mv 17 0 49, ⟨true, false, true, false, false, false, true, true, false, false, []⟩),
 (mv 18 5 3, ⟨true, false, true, false, false, false, true, true, false, false, []⟩),
 (ixa 19 49 17 18 0, ⟨true, false, true, false, false, false, true, true, false, false, []⟩),
 (ld 20 27 19 27, ⟨true, false, true, false, false, false, true, true, false, false, []⟩),
 (mv 21 1 49, ⟨true, false, true, false, false, false, true, true, false, false, []⟩),
 (mv 22 5 3, ⟨true, false, true, false, true, false, true, true, false, false, []⟩),
 (ixa 23 49 21 22 0, ⟨true, false, true, false, true, false, true, true, false, false, []⟩),
 (ld 24 27 23 27, ⟨true, false, true, false, true, false, true, true, false, false, []⟩),
 (cal 25 26 [(.tmp 20), (.tmp 24)] [27, 27] 4, ⟨true, true, true, false, true, true, true, true, false, false, []⟩),
 (op1 26 (.unOp .not 4 (.tmp 25)) 4, ⟨true, true, true, false, true, false, true, true, false, false, []⟩)]
def c42_26 : Code := .seq (codeN b42 4683) .ret
def c42_25 : Code := .cond (.tmp 26) c42_26 .skip
def c42_23 : Code := .seq c42_24 c42_25
def c42_30 : Code := codeN b42 459
def c42_21 : Code := .seq (.block 1 c42_23) c42_30
def c42_15 : Code := .seq c42_16 c42_21
def c42_14 : Code := .loop c42_15
def c42_13 : Code := .block 0 c42_14
def c42_11 : Code := .seq (codeN b42 19) c42_13
def c42_31 : Code := .seq (codeN b42 23) .ret
def c42_10 : Code := .seq c42_11 c42_31
def c42_2 : Code := .seq c42_3 c42_10
def c42_0 : Code := .seq (codeN b42 2) c42_2
theorem E42 : evK gS fi42 c42_6 fr st k = opsR gS fi42 [op1 4 (.assign (.const (.bool false))) 4] fr st (.seq .ret k) ∧
 evK gS fi42 c42_5 fr st k = condK gS fi42 (fr.op (.tmp 10)).bool? c42_6 .skip fr st k ∧
 (evK gS fi42 c42_3 fr st k = opsR gS fi42 [mv 6 0 49,
 len1 7 6 49 3,
 mv 8 1 49,
 len1 9 8 49 3,
 bop 10 .neq 3 7 9 3 4] fr st (.seq c42_5 k)) ∧
 evK gS fi42 c42_18 fr st k = condK gS fi42 (fr.op (.tmp 14)).bool? .skip (.exit 0) fr st k ∧
 (evK gS fi42 c42_16 fr st k = opsR gS fi42 [mv 11 5 3,
 mv 12 0 49,
 len1 13 12 49 3,
 bop 14 .lss 3 11 13 3 4] fr st (.seq c42_18 k)) ∧
 evK gS fi42 c42_24 fr st k = drwR gS fi42 r42_24 q42_24 fr st k ∧
 evK gS fi42 c42_26 fr st k = opsR gS fi42 [op1 4 (.assign (.const (.bool false))) 4] fr st (.seq .ret k) ∧
 evK gS fi42 c42_25 fr st k = condK gS fi42 (fr.op (.tmp 26)).bool? c42_26 .skip fr st k ∧
 evK gS fi42 c42_23 fr st k = evK gS fi42 c42_24 fr st (.seq c42_25 k) ∧
 (evK gS fi42 c42_30 fr st k = opsR gS fi42 [mv 15 5 3,
 op1 16 (.binOp .add 3 (.tmp 15) (.const (.int .i64 1)) 3) 3,
 asn 5 16 3] fr st k) ∧
 evK gS fi42 c42_21 fr st k = evK gS fi42 c42_23 fr st (.blk 1 (.seq c42_30 k)) ∧
 evK gS fi42 c42_15 fr st k = evK gS fi42 c42_16 fr st (.seq c42_21 k) ∧
 evK gS fi42 c42_13 fr st k = evK gS fi42 c42_14 fr st (.blk 0 k) ∧
 evK gS fi42 c42_11 fr st k = opsR gS fi42 [op1 5 (.assign (.const (.int .i64 0))) 3] fr st (.seq c42_13 k) ∧
 evK gS fi42 c42_31 fr st k = opsR gS fi42 [op1 4 (.assign (.const (.bool true))) 4] fr st (.seq .ret k) ∧
 evK gS fi42 c42_10 fr st k = evK gS fi42 c42_11 fr st (.seq c42_31 k) ∧
 evK gS fi42 c42_2 fr st k = evK gS fi42 c42_3 fr st (.seq c42_10 k) ∧
 evK gS fi42 c42_0 fr st k = opsR gS fi42 [op1 4 (.assign (.const (.bool false))) 4] fr st (.seq c42_2 k) := ⟨evK_rs 2 rfl (by kernel_rfl), rfl, evK_rs 1 rfl (by kernel_rfl), rfl, evK_rs 4 rfl (by kernel_rfl), evK_dr 6 rfl (by kernel_rfl) (by kernel_rfl), evK_rs 7 rfl (by kernel_rfl), rfl, rfl, evK_r 5 (by kernel_rfl), rfl, rfl, rfl, evK_rs 3 rfl (by kernel_rfl), evK_rs 8 rfl (by kernel_rfl), rfl, rfl, evK_rs 0 rfl (by kernel_rfl)⟩
theorem m42 : mini fi42.body = c42_0 := by kernel_rfl
theorem n42_14 (fr : Fr) (st : St) (k : Kt) : nextK gS fi42 (.loop c42_15 k) .normal fr st = evK gS fi42 c42_14 fr st k := rfl
set_option maxHeartbeats 4000000 in
theorem L42_14 (f : List Pred) (g : List Pred) (h_f : POk f) (h_g : POk g) (st : St) : ∀ (n i : Nat) (j : Int)  (T : List (Nat × E)) (X : List (Nat × List V))  (hlen : f.length = g.length), j = (i : Int) → i ≤ (f).length → (f).length - i = n →
    evK gS fi42 c42_14 { ps := [(0, .val (.slice (encPreds f))), (1, .val (.slice (encPreds g))), (4, .val (.bool false)), (5, .val (.int .i64 j))], ts := T, lc := X } st (.blk 0 (.seq c42_31 .nil)) = some ((.ret (.bool (fsames (f.drop i) (g.drop i))) none), st) := by
  intro n
  have hm : fi42.marks = [] := rfl
  have hl : fi42.locals = [] := rfl
  have hr : fi42.results = [.tmp 4] := rfl
  have hfl := h_f.1
  induction n with
  | zero =>
    intro i j   T X  hlen hj hi hn
    obtain rfl : i = (f).length := by omega
    subst hj
    have hz : g.drop f.length = [] := List.drop_eq_nil_of_le (by omega)
    refine evK_loop c42_15 _ st _ _ rfl ?_
    simp (config := { contextual := true, maxSteps := 10000000, maxDischargeDepth := 6 }) [-Int.not_le, -Int.not_lt, -Nat.not_le, -Nat.not_lt, ty3, ty4, ty27, ty49, hm, hl, hr, k26, x26, fi26_eq, p26, E42, q42_24, n42_14, hz]
    all_goals try simp (config := { contextual := true }) [-Int.not_le, -Int.not_lt, -Nat.not_le, -Nat.not_lt, fsames]
    all_goals first | done | grind | omega | (trace_state; fail)
  | succ n ih =>
    intro i j   T X  hlen hj hi hn
    subst hj
    obtain ⟨x, hx⟩ : ∃ x, (f)[i]? = some x := ⟨(f)[i]'(by omega), List.getElem?_eq_getElem (by omega)⟩
    have hd := drop_get hx
    have hlt : (i : Int) < ((f).length : Int) := by omega
    have hlt2 : i < (f).length := by omega
    have hxe : (f)[i]'hlt2 = x := by rw [List.getElem?_eq_getElem hlt2] at hx; exact Option.some.inj hx
    have hw : IntKind.wrap .i64 ((i : Int) + 1) = (i : Int) + 1 := wrap64 (by omega) (by omega)
    have hpo := h_f.get hx
    have hxo := hpo.1
    have hxs := hpo.2
    obtain ⟨y, hy⟩ : ∃ y, (g)[i]? = some y := ⟨(g)[i]'(by omega), List.getElem?_eq_getElem (by omega)⟩
    have hyd := drop_get hy
    have hyl : i < (g).length := by omega
    have hye : (g)[i]'hyl = y := by rw [List.getElem?_eq_getElem hyl] at hy; exact Option.some.inj hy
    have hpy := h_g.get hy
    have hyo := hpy.1
    have hys := hpy.2
    have IH := fun T X hlen => ih (i + 1) ((i : Int) + 1) T X hlen rfl (by omega) (by omega)
    refine evK_loop c42_15 _ st _ _ rfl ?_
    simp (config := { contextual := true, maxSteps := 10000000, maxDischargeDepth := 6 }) [-Int.not_le, -Int.not_lt, -Nat.not_le, -Nat.not_lt, ty3, ty4, ty27, ty49, hm, hl, hr, k26, x26, fi26_eq, p26, E42, q42_24, n42_14, hx, hxe, hd, hlt, hlt2, hw, IH, hy, hye, hyd, hlen, hxo, hxs, hyo, hys]
    all_goals try simp (config := { contextual := true }) [-Int.not_le, -Int.not_lt, -Nat.not_le, -Nat.not_lt, fsames]
    all_goals first | done | grind | omega | (trace_state; fail)
set_option maxHeartbeats 4000000 in
theorem c42 (f : List Pred) (g : List Pred) (h_f : POk f) (h_g : POk g) (st : St) : EvF gS 42 [.slice (encPreds f), .slice (encPreds g)] st = some (.ret (.bool (fsame f g)) none, st) := by
  refine EvF_start fi42_eq (fun x h => by cases h) m42 ?_
  rw [st42]
  have hm : fi42.marks = [] := rfl
  have hl : fi42.locals = [] := rfl
  have hr : fi42.results = [.tmp 4] := rfl
  have hfl := h_f.1
  simp (config := { contextual := true, maxSteps := 10000000, maxDischargeDepth := 6 }) [-Int.not_le, -Int.not_lt, -Nat.not_le, -Nat.not_lt, ty3, ty4, ty27, ty49, hm, hl, hr, k26, x26, fi26_eq, p26, E42, q42_24, n42_14, (fun T X hlen => L42_14 f g h_f h_g st _ 0 0  T X hlen rfl (Nat.zero_le _) rfl), hfl]
  all_goals try simp (config := { contextual := true }) [-Int.not_le, -Int.not_lt, -Nat.not_le, -Nat.not_lt, fsame]
  all_goals first | done | grind | omega | (trace_state; fail)
theorem k42 (f : List Pred) (g : List Pred) (h_f : POk f) (h_g : POk g) (fr : Fr) (st : St) : callStep gS (EvF gS) 42 [.slice (encPreds f), .slice (encPreds g)] fr st = some (.ok (retE none (.bool (fsame f g))) fr st) :=
  call_pure rfl fi42_eq rfl (fun st => c42 f g h_f h_g st) (by simp)
def fi47 : FI := { body := codeOf Try.f47, ntmps := 17, results := [.tmp 4], pers := [0, 1, 4, 6, 7, 8, 9], locals := [], pure := true, marks := [] }
theorem fi47_eq : gS.fn 47 = some fi47 := by kernel_rfl
theorem st47 (a0 a1 : V) : startFr fi47 [a0, a1] = { ps := [(0, .val a0), (1, .val a1), (4, .any), (6, .any), (7, .any), (8, .any), (9, .any)], ts := [], lc := [] } := rfl
def b47 : Code := mini (codeOf Try.f47)
def c47_20 : Code := .seq (codeN b47 9829) .ret
def c47_19 : Code := .cond (.tmp 15) c47_20 .skip
def c47_17 : Code := .seq (codeN b47 2661) c47_19
def c47_15 : Code := .seq (codeN b47 1125) c47_17
def c47_24 : Code := codeN b47 485
def c47_13 : Code := .seq (.block 1 c47_15) c47_24
def c47_9 : Code := .seq (.cond (.tmp 10) .skip (.exit 0)) c47_13
def c47_7 : Code := .seq (codeN b47 69) c47_9
def c47_6 : Code := .loop c47_7
def c47_5 : Code := .block 0 c47_6
def c47_3 : Code := .seq (codeN b47 9) c47_5
def c47_25 : Code := .seq (codeN b47 11) .ret
def c47_2 : Code := .seq c47_3 c47_25
def c47_0 : Code := .seq (codeN b47 2) c47_2
theorem E47 : evK gS fi47 c47_20 fr st k = opsR gS fi47 [op1 4 (.assign (.const (.bool true))) 4] fr st (.seq .ret k) ∧
 evK gS fi47 c47_19 fr st k = condK gS fi47 (fr.op (.tmp 15)).bool? c47_20 .skip fr st k ∧
 (evK gS fi47 c47_17 fr st k = opsR gS fi47 [mv 13 6 49,
 mv 14 1 50,
 cal 15 39 [(.tmp 13), (.tmp 14)] [49, 50] 4] fr st (.seq c47_19 k)) ∧
 (evK gS fi47 c47_15 fr st k = opsR gS fi47 [ixa 11 51 7 9 0,
 ld 12 49 11 49,
 asn 6 12 49] fr st (.seq c47_17 k)) ∧
 (evK gS fi47 c47_24 fr st k = opsR gS fi47 [op1 16 (.binOp .add 3 (.tmp 9) (.const (.int .i64 1)) 3) 3,
 mv 9 16 3] fr st k) ∧
 evK gS fi47 c47_13 fr st k = evK gS fi47 c47_15 fr st (.blk 1 (.seq c47_24 k)) ∧
 evK gS fi47 c47_9 fr st k = condK gS fi47 (fr.op (.tmp 10)).bool? .skip (.exit 0) fr st (.seq c47_13 k) ∧
 evK gS fi47 c47_7 fr st k = opsR gS fi47 [bop 10 .lss 3 9 8 3 0] fr st (.seq c47_9 k) ∧
 evK gS fi47 c47_5 fr st k = evK gS fi47 c47_6 fr st (.blk 0 k) ∧
 (evK gS fi47 c47_3 fr st k = opsR gS fi47 [mv 7 0 51,
 len1 8 7 51 3,
 op1 9 (.move (.const (.int .i64 0))) 3] fr st (.seq c47_5 k)) ∧
 evK gS fi47 c47_25 fr st k = opsR gS fi47 [op1 4 (.assign (.const (.bool false))) 4] fr st (.seq .ret k) ∧
 evK gS fi47 c47_2 fr st k = evK gS fi47 c47_3 fr st (.seq c47_25 k) ∧
 evK gS fi47 c47_0 fr st k = opsR gS fi47 [op1 4 (.assign (.const (.bool false))) 4] fr st (.seq c47_2 k) := ⟨evK_rs 5 rfl (by kernel_rfl), rfl, evK_rs 4 rfl (by kernel_rfl), evK_rs 3 rfl (by kernel_rfl), evK_r 6 (by kernel_rfl), rfl, rfl, evK_rs 2 rfl (by kernel_rfl), rfl, evK_rs 1 rfl (by kernel_rfl), evK_rs 7 rfl (by kernel_rfl), rfl, evK_rs 0 rfl (by kernel_rfl)⟩
theorem m47 : mini fi47.body = c47_0 := by kernel_rfl
theorem n47_6 (fr : Fr) (st : St) (k : Kt) : nextK gS fi47 (.loop c47_7 k) .normal fr st = evK gS fi47 c47_6 fr st k := rfl
set_option maxHeartbeats 4000000 in
theorem L47_6 (l : List (List Pred)) (a : List Attr) (h_l : ∀ f ∈ l, POk f) (h_n : l.length < 4611686018427387904) (h_a : a.length < 4611686018427387904) (st : St) : ∀ (n i : Nat) (j : Int)  (e0 e6 : E) (T : List (Nat × E)) (X : List (Nat × List V)) (ht0 : e0.Tame) (ht6 : e6.Tame) , j = (i : Int) → i ≤ (l).length → (l).length - i = n →
    evK gS fi47 c47_6 { ps := [(0, e0), (1, .val (.slice (encAttrs a))), (4, .val (.bool false)), (6, e6), (7, .val (.slice (encPredss l))), (8, .val (.int .i64 l.length)), (9, .val (.int .i64 j))], ts := T, lc := X } st (.blk 0 (.seq c47_25 .nil)) = some ((.ret (.bool (fany (l.drop i) a)) none), st) := by
  intro n
  have hm : fi47.marks = [] := rfl
  have hl : fi47.locals = [] := rfl
  have hr : fi47.results = [.tmp 4] := rfl
  induction n with
  | zero =>
    intro i j  e0 e6 T X ht0 ht6  hj hi hn
    obtain rfl : i = (l).length := by omega
    subst hj
    refine evK_loop c47_7 _ st _ _ rfl ?_
    simp (config := { contextual := true, maxSteps := 10000000, maxDischargeDepth := 6 }) [-Int.not_le, -Int.not_lt, -Nat.not_le, -Nat.not_lt, ty3, ty4, ty49, ty50, ty51, hm, hl, hr, k39, E47, n47_6, h_a, ht0, ht6]
    all_goals try simp (config := { contextual := true }) [-Int.not_le, -Int.not_lt, -Nat.not_le, -Nat.not_lt, fany]
    all_goals first | done | grind | omega | (trace_state; fail)
  | succ n ih =>
    intro i j  e0 e6 T X ht0 ht6  hj hi hn
    subst hj
    obtain ⟨x, hx⟩ : ∃ x, (l)[i]? = some x := ⟨(l)[i]'(by omega), List.getElem?_eq_getElem (by omega)⟩
    have hd := drop_get hx
    have hlt : (i : Int) < ((l).length : Int) := by omega
    have hlt2 : i < (l).length := by omega
    have hxe : (l)[i]'hlt2 = x := by rw [List.getElem?_eq_getElem hlt2] at hx; exact Option.some.inj hx
    have hw : IntKind.wrap .i64 ((i : Int) + 1) = (i : Int) + 1 := wrap64 (by omega) (by omega)
    have hpo := h_l x (List.mem_of_getElem? hx)
    have IH := fun e0 e6 T X ht0 ht6 => ih (i + 1) ((i : Int) + 1) e0 e6 T X ht0 ht6 rfl (by omega) (by omega)
    refine evK_loop c47_7 _ st _ _ rfl ?_
    simp (config := { contextual := true, maxSteps := 10000000, maxDischargeDepth := 6 }) [-Int.not_le, -Int.not_lt, -Nat.not_le, -Nat.not_lt, ty3, ty4, ty49, ty50, ty51, hm, hl, hr, k39, E47, n47_6, h_a, ht0, ht6, hx, hxe, hd, hlt, hlt2, hw, IH, hpo]
    all_goals try simp (config := { contextual := true }) [-Int.not_le, -Int.not_lt, -Nat.not_le, -Nat.not_lt, fany]
    all_goals first | done | grind | omega | (trace_state; fail)
set_option maxHeartbeats 4000000 in
theorem c47 (l : List (List Pred)) (a : List Attr) (h_l : ∀ f ∈ l, POk f) (h_n : l.length < 4611686018427387904) (h_a : a.length < 4611686018427387904) (st : St) : EvF gS 47 [.slice (encPredss l), .slice (encAttrs a)] st = some (.ret (.bool (fany l a)) none, st) := by
  refine EvF_start fi47_eq (fun x h => by cases h) m47 ?_
  rw [st47]
  have hm : fi47.marks = [] := rfl
  have hl : fi47.locals = [] := rfl
  have hr : fi47.results = [.tmp 4] := rfl
  simp (config := { contextual := true, maxSteps := 10000000, maxDischargeDepth := 6 }) [-Int.not_le, -Int.not_lt, -Nat.not_le, -Nat.not_lt, ty3, ty4, ty49, ty50, ty51, hm, hl, hr, k39, E47, n47_6, (fun e0 e6 T X ht0 ht6 => L47_6 l a h_l h_n h_a st _ 0 0  e0 e6 T X ht0 ht6 rfl (Nat.zero_le _) rfl), h_n]
  all_goals try simp (config := { contextual := true }) [-Int.not_le, -Int.not_lt, -Nat.not_le, -Nat.not_lt, fany]
  all_goals first | done | grind | omega | (trace_state; fail)
theorem k47 (l : List (List Pred)) (a : List Attr) (h_l : ∀ f ∈ l, POk f) (h_n : l.length < 4611686018427387904) (h_a : a.length < 4611686018427387904) (fr : Fr) (st : St) : callStep gS (EvF gS) 47 [.slice (encPredss l), .slice (encAttrs a)] fr st = some (.ok (retE none (.bool (fany l a))) fr st) :=
  call_pure rfl fi47_eq rfl (fun st => c47 l a h_l h_n h_a st) (by simp)
def fi48 : FI := { body := codeOf Try.f48, ntmps := 18, results := [.tmp 4], pers := [0, 1, 4, 5], locals := [], pure := true, marks := [] }
theorem fi48_eq : gS.fn 48 = some fi48 := by kernel_rfl
theorem st48 (a0 a1 : V) : startFr fi48 [a0, a1] = { ps := [(0, .val a0), (1, .val a1), (4, .any), (5, .any)], ts := [], lc := [] } := rfl
def b48 : Code := mini (codeOf Try.f48)
def c48_10 : Code := .cond (.tmp 9) .skip (.exit 0)
def c48_8 : Code := .seq (codeN b48 133) c48_10
def c48_18 : Code := .seq (codeN b48 2341) .ret
def c48_17 : Code := .cond (.tmp 17) c48_18 .skip
def c48_15 : Code := .seq (codeN b48 549) c48_17
def c48_22 : Code := codeN b48 229
def c48_13 : Code := .seq (.block 1 c48_15) c48_22
def c48_7 : Code := .seq c48_8 c48_13
def c48_6 : Code := .loop c48_7
def c48_5 : Code := .block 0 c48_6
def c48_3 : Code := .seq (codeN b48 9) c48_5
def c48_23 : Code := .seq (codeN b48 11) .ret
def c48_2 : Code := .seq c48_3 c48_23
def c48_0 : Code := .seq (codeN b48 2) c48_2
theorem E48 : evK gS fi48 c48_10 fr st k = condK gS fi48 (fr.op (.tmp 9)).bool? .skip (.exit 0) fr st k ∧
 (evK gS fi48 c48_8 fr st k = opsR gS fi48 [mv 6 5 3,
 mv 7 0 51,
 len1 8 7 51 3,
 bop 9 .lss 3 6 8 3 4] fr st (.seq c48_10 k)) ∧
 evK gS fi48 c48_18 fr st k = opsR gS fi48 [op1 4 (.assign (.const (.bool true))) 4] fr st (.seq .ret k) ∧
 evK gS fi48 c48_17 fr st k = condK gS fi48 (fr.op (.tmp 17)).bool? c48_18 .skip fr st k ∧
 (evK gS fi48 c48_15 fr st k = opsR gS fi48 [mv 12 0 51,
 mv 13 5 3,
 ixa 14 51 12 13 0,
 ld 15 49 14 49,
 mv 16 1 50,
 cal 17 40 [(.tmp 15), (.tmp 16)] [49, 50] 4] fr st (.seq c48_17 k)) ∧
 (evK gS fi48 c48_22 fr st k = opsR gS fi48 [mv 10 5 3,
 op1 11 (.binOp .add 3 (.tmp 10) (.const (.int .i64 1)) 3) 3,
 asn 5 11 3] fr st k) ∧
 evK gS fi48 c48_13 fr st k = evK gS fi48 c48_15 fr st (.blk 1 (.seq c48_22 k)) ∧
 evK gS fi48 c48_7 fr st k = evK gS fi48 c48_8 fr st (.seq c48_13 k) ∧
 evK gS fi48 c48_5 fr st k = evK gS fi48 c48_6 fr st (.blk 0 k) ∧
 evK gS fi48 c48_3 fr st k = opsR gS fi48 [op1 5 (.assign (.const (.int .i64 0))) 3] fr st (.seq c48_5 k) ∧
 evK gS fi48 c48_23 fr st k = opsR gS fi48 [op1 4 (.assign (.const (.bool false))) 4] fr st (.seq .ret k) ∧
 evK gS fi48 c48_2 fr st k = evK gS fi48 c48_3 fr st (.seq c48_23 k) ∧
 evK gS fi48 c48_0 fr st k = opsR gS fi48 [op1 4 (.assign (.const (.bool false))) 4] fr st (.seq c48_2 k) := ⟨rfl, evK_rs 2 rfl (by kernel_rfl), evK_rs 5 rfl (by kernel_rfl), rfl, evK_rs 4 rfl (by kernel_rfl), evK_r 3 (by kernel_rfl), rfl, rfl, rfl, evK_rs 1 rfl (by kernel_rfl), evK_rs 6 rfl (by kernel_rfl), rfl, evK_rs 0 rfl (by kernel_rfl)⟩
theorem m48 : mini fi48.body = c48_0 := by kernel_rfl
theorem n48_6 (fr : Fr) (st : St) (k : Kt) : nextK gS fi48 (.loop c48_7 k) .normal fr st = evK gS fi48 c48_6 fr st k := rfl
set_option maxHeartbeats 4000000 in
theorem L48_6 (l : List (List Pred)) (a : List Attr) (h_l : ∀ f ∈ l, POk f) (h_n : l.length < 4611686018427387904) (h_a : a.length < 4611686018427387904) (st : St) : ∀ (n i : Nat) (j : Int)  (T : List (Nat × E)) (X : List (Nat × List V))  , j = (i : Int) → i ≤ (l).length → (l).length - i = n →
    evK gS fi48 c48_6 { ps := [(0, .val (.slice (encPredss l))), (1, .val (.slice (encAttrs a))), (4, .val (.bool false)), (5, .val (.int .i64 j))], ts := T, lc := X } st (.blk 0 (.seq c48_23 .nil)) = some ((.ret (.bool (fany (l.drop i) a)) none), st) := by
  intro n
  have hm : fi48.marks = [] := rfl
  have hl : fi48.locals = [] := rfl
  have hr : fi48.results = [.tmp 4] := rfl
  induction n with
  | zero =>
    intro i j   T X   hj hi hn
    obtain rfl : i = (l).length := by omega
    subst hj
    refine evK_loop c48_7 _ st _ _ rfl ?_
    simp (config := { contextual := true, maxSteps := 10000000, maxDischargeDepth := 6 }) [-Int.not_le, -Int.not_lt, -Nat.not_le, -Nat.not_lt, ty3, ty4, ty49, ty50, ty51, hm, hl, hr, k40, E48, n48_6, h_a]
    all_goals try simp (config := { contextual := true }) [-Int.not_le, -Int.not_lt, -Nat.not_le, -Nat.not_lt, fany]
    all_goals first | done | grind | omega | (trace_state; fail)
  | succ n ih =>
    intro i j   T X   hj hi hn
    subst hj
    obtain ⟨x, hx⟩ : ∃ x, (l)[i]? = some x := ⟨(l)[i]'(by omega), List.getElem?_eq_getElem (by omega)⟩
    have hd := drop_get hx
    have hlt : (i : Int) < ((l).length : Int) := by omega
    have hlt2 : i < (l).length := by omega
    have hxe : (l)[i]'hlt2 = x := by rw [List.getElem?_eq_getElem hlt2] at hx; exact Option.some.inj hx
    have hw : IntKind.wrap .i64 ((i : Int) + 1) = (i : Int) + 1 := wrap64 (by omega) (by omega)
    have hpo := h_l x (List.mem_of_getElem? hx)
    have IH := fun T X => ih (i + 1) ((i : Int) + 1) T X rfl (by omega) (by omega)
    refine evK_loop c48_7 _ st _ _ rfl ?_
    simp (config := { contextual := true, maxSteps := 10000000, maxDischargeDepth := 6 }) [-Int.not_le, -Int.not_lt, -Nat.not_le, -Nat.not_lt, ty3, ty4, ty49, ty50, ty51, hm, hl, hr, k40, E48, n48_6, h_a, hx, hxe, hd, hlt, hlt2, hw, IH, hpo]
    all_goals try simp (config := { contextual := true }) [-Int.not_le, -Int.not_lt, -Nat.not_le, -Nat.not_lt, fany]
    all_goals first | done | grind | omega | (trace_state; fail)
set_option maxHeartbeats 4000000 in
theorem c48 (l : List (List Pred)) (a : List Attr) (h_l : ∀ f ∈ l, POk f) (h_n : l.length < 4611686018427387904) (h_a : a.length < 4611686018427387904) (st : St) : EvF gS 48 [.slice (encPredss l), .slice (encAttrs a)] st = some (.ret (.bool (fany l a)) none, st) := by
  refine EvF_start fi48_eq (fun x h => by cases h) m48 ?_
  rw [st48]
  have hm : fi48.marks = [] := rfl
  have hl : fi48.locals = [] := rfl
  have hr : fi48.results = [.tmp 4] := rfl
  simp (config := { contextual := true, maxSteps := 10000000, maxDischargeDepth := 6 }) [-Int.not_le, -Int.not_lt, -Nat.not_le, -Nat.not_lt, ty3, ty4, ty49, ty50, ty51, hm, hl, hr, k40, E48, n48_6, (fun T X => L48_6 l a h_l h_n h_a st _ 0 0  T X rfl (Nat.zero_le _) rfl), h_n]
  all_goals try simp (config := { contextual := true }) [-Int.not_le, -Int.not_lt, -Nat.not_le, -Nat.not_lt, fany]
  all_goals first | done | grind | omega | (trace_state; fail)
theorem k48 (l : List (List Pred)) (a : List Attr) (h_l : ∀ f ∈ l, POk f) (h_n : l.length < 4611686018427387904) (h_a : a.length < 4611686018427387904) (fr : Fr) (st : St) : callStep gS (EvF gS) 48 [.slice (encPredss l), .slice (encAttrs a)] fr st = some (.ok (retE none (.bool (fany l a))) fr st) :=
  call_pure rfl fi48_eq rfl (fun st => c48 l a h_l h_n h_a st) (by simp)
end
end Go.Proofs.Ytclpbfkbpcjejaa
namespace Go.Proofs.Ytclpbfkbpcjejaa
open Go Go.Ab
set_option linter.unusedVariables false
set_option linter.unusedSimpArgs false
set_option linter.unnecessarySimpa false
set_option maxRecDepth 20000
noncomputable section
variable (fr : Fr) (st : St) (k : Kt)
def fi43 : FI := { body := codeOf Try.f43, ntmps := 50, results := [.tmp 4], pers := [0, 1, 4, 6, 8, 9, 11, 12, 13, 14, 21, 22, 23, 27, 28, 29], locals := [6, 8, 11], pure := true, marks := [] }
theorem fi43_eq : gS.fn 43 = some fi43 := by kernel_rfl
theorem st43 (a0 a1 : V) : startFr fi43 [a0, a1] = { ps := [(0, .val a0), (1, .val a1), (4, .any), (6, .any), (8, .any), (9, .any), (11, .any), (12, .any), (13, .any), (14, .any), (21, .any), (22, .any), (23, .any), (27, .any), (28, .any), (29, .any)], ts := [], lc := [] } := rfl
def b43 : Code := mini (codeOf Try.f43)
def c43_20 : Code := .seq (codeN b43 9829) .ret
def c43_19 : Code := .cond (.tmp 19) c43_20 .skip
def c43_17 : Code := .seq (codeN b43 2661) c43_19
def c43_15 : Code := .seq (codeN b43 1125) c43_17
def c43_24 : Code := codeN b43 485
def c43_13 : Code := .seq (.block 1 c43_15) c43_24
def c43_9 : Code := .seq (.cond (.tmp 15) .skip (.exit 0)) c43_13
def c43_7 : Code := .seq (codeN b43 69) c43_9
def c43_6 : Code := .loop c43_7
def c43_5 : Code := .block 0 c43_6
def c43_3 : Code := .seq (codeN b43 9) c43_5
def c43_57 : Code := codeN b43 3353803
def c43_55 : Code := .seq (codeN b43 2305227) c43_57
def c43_58 : Code := codeN b43 994507
def c43_53 : Code := .seq (.block 5 c43_55) c43_58
def c43_49 : Code := .seq (.cond (.tmp 30) .skip (.exit 4)) c43_53
def c43_47 : Code := .seq (codeN b43 142539) c43_49
def c43_46 : Code := .loop c43_47
def c43_45 : Code := .block 4 c43_46
def c43_43 : Code := .seq (codeN b43 19659) c43_45
def c43_62 : Code := .seq (codeN b43 81099) .ret
def c43_61 : Code := .cond (.tmp 48) c43_62 .skip
def c43_59 : Code := .seq (codeN b43 23755) c43_61
theorem e43_59 : evK gS fi43 c43_59 fr st k = opsR gS fi43 [mv 47 9 4,
 op1 48 (.unOp .not 4 (.tmp 47)) 4] fr st (.seq c43_61 k) := evK_rs 16 rfl (by kernel_rfl)
def c43_42 : Code := .seq c43_43 c43_59
def c43_40 : Code := .seq (codeN b43 5323) c43_42
def c43_38 : Code := .seq (codeN b43 2251) c43_40
def c43_66 : Code := codeN b43 971
def c43_36 : Code := .seq (.block 3 c43_38) c43_66
def c43_32 : Code := .seq (.cond (.tmp 24) .skip (.exit 2)) c43_36
def c43_30 : Code := .seq (codeN b43 139) c43_32
def c43_29 : Code := .loop c43_30
def c43_28 : Code := .block 2 c43_29
def c43_26 : Code := .seq (codeN b43 19) c43_28
def c43_67 : Code := .seq (codeN b43 23) .ret
def c43_25 : Code := .seq c43_26 c43_67
theorem e43_25 : evK gS fi43 c43_25 fr st k = evK gS fi43 c43_26 fr st (.seq c43_67 k) := rfl
def c43_2 : Code := .seq c43_3 c43_25
def c43_0 : Code := .seq (codeN b43 2) c43_2
theorem E43 : evK gS fi43 c43_20 fr st k = opsR gS fi43 [op1 4 (.assign (.const (.bool true))) 4] fr st (.seq .ret k) ∧
 evK gS fi43 c43_19 fr st k = condK gS fi43 (fr.op (.tmp 19)).bool? c43_20 .skip fr st k ∧
 (evK gS fi43 c43_17 fr st k = opsR gS fi43 [ld 18 27 6 27,
 cal 19 23 [(.tmp 18)] [27] 4] fr st (.seq c43_19 k)) ∧
 (evK gS fi43 c43_15 fr st k = opsR gS fi43 [ixa 16 49 12 14 0,
 ld 17 27 16 27,
 op1 6 (.alloc 27) 0,
 sto 27 6 17] fr st (.seq c43_17 k)) ∧
 (evK gS fi43 c43_24 fr st k = opsR gS fi43 [op1 20 (.binOp .add 3 (.tmp 14) (.const (.int .i64 1)) 3) 3,
 mv 14 20 3] fr st k) ∧
 evK gS fi43 c43_13 fr st k = evK gS fi43 c43_15 fr st (.blk 1 (.seq c43_24 k)) ∧
 evK gS fi43 c43_9 fr st k = condK gS fi43 (fr.op (.tmp 15)).bool? .skip (.exit 0) fr st (.seq c43_13 k) ∧
 evK gS fi43 c43_7 fr st k = opsR gS fi43 [bop 15 .lss 3 14 13 3 0] fr st (.seq c43_9 k) ∧
 evK gS fi43 c43_5 fr st k = evK gS fi43 c43_6 fr st (.blk 0 k) ∧
 (evK gS fi43 c43_3 fr st k = opsR gS fi43 [mv 12 1 49,
 len1 13 12 49 3,
 op1 14 (.move (.const (.int .i64 0))) 3] fr st (.seq c43_5 k)) ∧
 (evK gS fi43 c43_57 fr st k = opsR gS fi43 [mv 33 9 4,
 mv 34 33 4,
 mk (some 35) (.fieldAddr 27 (.tmp 11) 0) 0 (some (1, false)),
 mk (some 36) (.load 9 (.tmp 35)) 9 (some (1, false)),
 mk (some 37) (.fieldAddr 27 (.tmp 8) 0) 0 (some (1, false)),
 mk (some 38) (.load 9 (.tmp 37)) 9 (some (1, false)),
 mk (some 39) (.binOp .eql 9 (.tmp 36) (.tmp 38) 9) 4 (some (1, false)),
 mk (some 40) (.move (.tmp 39)) 4 (some (1, false)),
 mk (some 41) (.load 27 (.tmp 11)) 27 (some (7, true)),
 mk (some 42) (.load 27 (.tmp 8)) 27 (some (7, true)),
 mk (some 43) (.call { callee := (.value (.func 27)), args := #[(.tmp 41), (.tmp 42)], argTypes := #[27, 27] }) 4 (some (7, true)),
 mk (some 44) (.pick (.tmp 40) (.tmp 43) (.const (.bool false))) 4 (some (1, false)),
 op1 45 (.pick (.tmp 34) (.const (.bool true)) (.tmp 44)) 4,
 asn 9 45 4] fr st k) ∧
 (evK gS fi43 c43_55 fr st k = opsR gS fi43 [ixa 31 49 27 29 0,
 ld 32 27 31 27,
 op1 11 (.alloc 27) 0,
 sto 27 11 32] fr st (.seq c43_57 k)) ∧
 (evK gS fi43 c43_58 fr st k = opsR gS fi43 [op1 46 (.binOp .add 3 (.tmp 29) (.const (.int .i64 1)) 3) 3,
 mv 29 46 3] fr st k) ∧
 evK gS fi43 c43_53 fr st k = evK gS fi43 c43_55 fr st (.blk 5 (.seq c43_58 k)) ∧
 evK gS fi43 c43_49 fr st k = condK gS fi43 (fr.op (.tmp 30)).bool? .skip (.exit 4) fr st (.seq c43_53 k) ∧
 evK gS fi43 c43_47 fr st k = opsR gS fi43 [bop 30 .lss 3 29 28 3 0] fr st (.seq c43_49 k) ∧
 evK gS fi43 c43_45 fr st k = evK gS fi43 c43_46 fr st (.blk 4 k) ∧
 (evK gS fi43 c43_43 fr st k = opsR gS fi43 [mv 27 1 49,
 len1 28 27 49 3,
 op1 29 (.move (.const (.int .i64 0))) 3] fr st (.seq c43_45 k)) ∧
 evK gS fi43 c43_62 fr st k = opsR gS fi43 [op1 4 (.assign (.const (.bool false))) 4] fr st (.seq .ret k) ∧
 evK gS fi43 c43_61 fr st k = condK gS fi43 (fr.op (.tmp 48)).bool? c43_62 .skip fr st k ∧
 evK gS fi43 c43_42 fr st k = evK gS fi43 c43_43 fr st (.seq c43_59 k) ∧
 evK gS fi43 c43_40 fr st k = opsR gS fi43 [op1 9 (.assign (.const (.bool false))) 4] fr st (.seq c43_42 k) ∧
 (evK gS fi43 c43_38 fr st k = opsR gS fi43 [ixa 25 49 21 23 0,
 ld 26 27 25 27,
 op1 8 (.alloc 27) 0,
 sto 27 8 26] fr st (.seq c43_40 k)) ∧
 (evK gS fi43 c43_66 fr st k = opsR gS fi43 [op1 49 (.binOp .add 3 (.tmp 23) (.const (.int .i64 1)) 3) 3,
 mv 23 49 3] fr st k) ∧
 evK gS fi43 c43_36 fr st k = evK gS fi43 c43_38 fr st (.blk 3 (.seq c43_66 k)) ∧
 evK gS fi43 c43_32 fr st k = condK gS fi43 (fr.op (.tmp 24)).bool? .skip (.exit 2) fr st (.seq c43_36 k) ∧
 evK gS fi43 c43_30 fr st k = opsR gS fi43 [bop 24 .lss 3 23 22 3 0] fr st (.seq c43_32 k) ∧
 evK gS fi43 c43_28 fr st k = evK gS fi43 c43_29 fr st (.blk 2 k) ∧
 (evK gS fi43 c43_26 fr st k = opsR gS fi43 [mv 21 0 49,
 len1 22 21 49 3,
 op1 23 (.move (.const (.int .i64 0))) 3] fr st (.seq c43_28 k)) ∧
 evK gS fi43 c43_67 fr st k = opsR gS fi43 [op1 4 (.assign (.const (.bool true))) 4] fr st (.seq .ret k) ∧
 evK gS fi43 c43_2 fr st k = evK gS fi43 c43_3 fr st (.seq c43_25 k) ∧
 evK gS fi43 c43_0 fr st k = opsR gS fi43 [op1 4 (.assign (.const (.bool false))) 4] fr st (.seq c43_2 k) := ⟨evK_rs 5 rfl (by kernel_rfl), rfl, evK_rs 4 rfl (by kernel_rfl), evK_rs 3 rfl (by kernel_rfl), evK_r 6 (by kernel_rfl), rfl, rfl, evK_rs 2 rfl (by kernel_rfl), rfl, evK_rs 1 rfl (by kernel_rfl), evK_r 14 (by kernel_rfl), evK_rs 13 rfl (by kernel_rfl), evK_r 15 (by kernel_rfl), rfl, rfl, evK_rs 12 rfl (by kernel_rfl), rfl, evK_rs 11 rfl (by kernel_rfl), evK_rs 17 rfl (by kernel_rfl), rfl, rfl, evK_rs 10 rfl (by kernel_rfl), evK_rs 9 rfl (by kernel_rfl), evK_r 18 (by kernel_rfl), rfl, rfl, evK_rs 8 rfl (by kernel_rfl), rfl, evK_rs 7 rfl (by kernel_rfl), evK_rs 19 rfl (by kernel_rfl), rfl, evK_rs 0 rfl (by kernel_rfl)⟩
theorem m43 : mini fi43.body = c43_0 := by kernel_rfl
theorem n43_6 (fr : Fr) (st : St) (k : Kt) : nextK gS fi43 (.loop c43_7 k) .normal fr st = evK gS fi43 c43_6 fr st k := rfl
theorem n43_46 (fr : Fr) (st : St) (k : Kt) : nextK gS fi43 (.loop c43_47 k) .normal fr st = evK gS fi43 c43_46 fr st k := rfl
theorem n43_29 (fr : Fr) (st : St) (k : Kt) : nextK gS fi43 (.loop c43_30 k) .normal fr st = evK gS fi43 c43_29 fr st k := rfl
set_option maxHeartbeats 8000000 in
theorem I43 (f g : List Pred) (h_f : POk f) (h_g : POk g) (p : Pred) (h_p : p.ok) (io : Nat) (hio : f[io]? = some p) (st : St) (R : Out × St) (fb : Bool)
    (H : ∀ (e0 e6 e11 e12 e13 e14 : E) (T : List (Nat × E)) (X : List (Nat × List V)) (ht0 : e0.Tame) (ht6 : e6.Tame) (ht11 : e11.Tame) (ht12 : e12.Tame) (ht13 : e13.Tame) (ht14 : e14.Tame) (hx8 : lk X 8 = some [.str p.name, .int .i64 p.test, .int .i64 p.v.kind, .int .i64 p.v.n, .float .f64 p.v.x, .str p.v.s, .bool p.v.b, .int .i64 p.w.kind, .int .i64 p.w.n, .float .f64 p.w.x, .str p.w.s, .bool p.w.b, .slice (encVals p.set)]), evK gS fi43 c43_59 { ps := [(0, e0), (1, .val (.slice (encPreds g))), (4, .val (.bool false)), (6, e6), (8, .lp 8 0), (9, .val (.bool fb)), (11, e11), (12, e12), (13, e13), (14, e14), (21, .val (.slice (encPreds f))), (22, .val (.int .i64 f.length)), (23, .val (.int .i64 (io : Nat))), (27, .val (.slice (encPreds g))), (28, .val (.int .i64 g.length)), (29, .val (.int .i64 (g.length : Nat)))], ts := T, lc := X } st (.blk 3 (.seq c43_66 (.loop c43_30 (.blk 2 (.seq c43_67 .nil))))) = some R) :
    ∀ (n k : Nat) (b : Bool) (e0 e6 e11 e12 e13 e14 : E) (T : List (Nat × E)) (X : List (Nat × List V)) (ht0 : e0.Tame) (ht6 : e6.Tame) (ht11 : e11.Tame) (ht12 : e12.Tame) (ht13 : e13.Tame) (ht14 : e14.Tame) (hx8 : lk X 8 = some [.str p.name, .int .i64 p.test, .int .i64 p.v.kind, .int .i64 p.v.n, .float .f64 p.v.x, .str p.v.s, .bool p.v.b, .int .i64 p.w.kind, .int .i64 p.w.n, .float .f64 p.w.x, .str p.w.s, .bool p.w.b, .slice (encVals p.set)]), k ≤ g.length → g.length - k = n → fb = (b || fcov1 p (g.drop k)) →
    evK gS fi43 c43_46 { ps := [(0, e0), (1, .val (.slice (encPreds g))), (4, .val (.bool false)), (6, e6), (8, .lp 8 0), (9, .val (.bool b)), (11, e11), (12, e12), (13, e13), (14, e14), (21, .val (.slice (encPreds f))), (22, .val (.int .i64 f.length)), (23, .val (.int .i64 (io : Nat))), (27, .val (.slice (encPreds g))), (28, .val (.int .i64 g.length)), (29, .val (.int .i64 (k : Nat)))], ts := T, lc := X } st (.blk 4 (.seq c43_59 (.blk 3 (.seq c43_66 (.loop c43_30 (.blk 2 (.seq c43_67 .nil))))))) = some R := by
  intro n
  have hm : fi43.marks = [] := rfl
  have hl : fi43.locals = [6, 8, 11] := rfl
  have hr : fi43.results = [.tmp 4] := rfl
  have hgl := h_g.1
  have hfl := h_f.1
  have hpo1 := h_p.1
  have hpo2 := h_p.2
  have hil : io < f.length := (List.getElem?_eq_some_iff.1 hio).1
  have hie : f[io]'hil = p := (List.getElem?_eq_some_iff.1 hio).2
  induction n with
  | zero =>
    intro k b e0 e6 e11 e12 e13 e14 T X ht0 ht6 ht11 ht12 ht13 ht14 hx8 hk hn hb
    obtain rfl : k = g.length := by omega
    refine evK_loop c43_47 _ st _ _ rfl ?_
    rw [List.drop_length] at hb
    have hb2 : b = fb := by rw [hb]; simp [fcov1]
    subst hb2
    simp (config := { contextual := true, maxSteps := 10000000, maxDischargeDepth := 6 }) [ht0, ht6, ht11, ht12, ht13, ht14, hx8, -Int.not_le, -Int.not_lt, -Nat.not_le, -Nat.not_lt, ty3, ty4, ty9, ty27, ty49, hm, hl, hr, k23, k27, E43, e43_25, n43_6, n43_46, n43_29]
    all_goals first | done | (refine H _ _ _ _ _ _ _ _ ?_ <;> simp [ht0, ht6, ht11, ht12, ht13, ht14, hx8,]; done) | skip
    all_goals (refine H _ _ _ _ _ _ _ _ ?_ ?_ ?_ ?_ ?_ ?_ ?_ <;> simp (config := { contextual := true, maxSteps := 10000000, maxDischargeDepth := 6 }) [ht0, ht6, ht11, ht12, ht13, ht14, hx8,])
  | succ n ih =>
    intro k b e0 e6 e11 e12 e13 e14 T X ht0 ht6 ht11 ht12 ht13 ht14 hx8 hk hn hb
    obtain ⟨x, hx⟩ : ∃ x, g[k]? = some x := ⟨g[k]'(by omega), List.getElem?_eq_getElem (by omega)⟩
    have hd := drop_get hx
    have hlt : (k : Int) < (g.length : Int) := by omega
    have hlt2 : k < g.length := by omega
    have hxe : g[k]'hlt2 = x := by rw [List.getElem?_eq_getElem hlt2] at hx; exact Option.some.inj hx
    have hw : IntKind.wrap .i64 ((k : Int) + 1) = ((k + 1 : Nat) : Int) := by rw [wrap64 (by omega) (by omega)]; omega
    have hxo := (h_g.get hx).1
    have hxs := (h_g.get hx).2
    have hcast : ((k + 1 : Nat) : Int) = (k : Int) + 1 := by omega
    rw [hd] at hb
    have hc : fcov1 p (x :: g.drop (k + 1)) = (decide (x.name = p.name) && pimplies x p || fcov1 p (g.drop (k + 1))) := rfl
    rw [hc] at hb
    have IH := fun b' hb' e0 e6 e11 e12 e13 e14 T X ht0 ht6 ht11 ht12 ht13 ht14 hx8 => ih (k + 1) b' e0 e6 e11 e12 e13 e14 T X ht0 ht6 ht11 ht12 ht13 ht14 hx8 (by omega) (by omega) hb'
    refine evK_loop c43_47 _ st _ _ rfl ?_
    cases b with
    | true =>
      have IHc := IH true (by rw [hb]; rfl)
      simp (config := { contextual := true, maxSteps := 10000000, maxDischargeDepth := 6 }) [-Int.natCast_add, hio, hil, hie, hx, hxe, hlt, hlt2, hw, hxo, hxs, hpo1, hpo2, IHc, ht0, ht6, ht11, ht12, ht13, ht14, hx8, -Int.not_le, -Int.not_lt, -Nat.not_le, -Nat.not_lt, ty3, ty4, ty9, ty27, ty49, hm, hl, hr, k23, k27, E43, e43_25, n43_6, n43_46, n43_29]
    | false =>
      by_cases hne : x.name = p.name
      · generalize hpi : pimplies x p = t at hb
        have IHc := IH t (by rw [hb]; simp [hne])
        have hpi2 : pimplies ⟨p.name, x.test, x.v, x.w, x.set⟩ p = t := by rw [← hne]; exact hpi
        simp (config := { contextual := true, maxSteps := 10000000, maxDischargeDepth := 6 }) [-Int.natCast_add, hio, hil, hie, hx, hxe, hlt, hlt2, hw, hxo, hxs, hpo1, hpo2, IHc, hne, hpi2, ht0, ht6, ht11, ht12, ht13, ht14, hx8, -Int.not_le, -Int.not_lt, -Nat.not_le, -Nat.not_lt, ty3, ty4, ty9, ty27, ty49, hm, hl, hr, k23, k27, E43, e43_25, n43_6, n43_46, n43_29]
      · have IHc := IH false (by rw [hb]; simp [hne])
        simp (config := { contextual := true, maxSteps := 10000000, maxDischargeDepth := 6 }) [-Int.natCast_add, hio, hil, hie, hx, hxe, hlt, hlt2, hw, hxo, hxs, hpo1, hpo2, IHc, hne, ht0, ht6, ht11, ht12, ht13, ht14, hx8, -Int.not_le, -Int.not_lt, -Nat.not_le, -Nat.not_lt, ty3, ty4, ty9, ty27, ty49, hm, hl, hr, k23, k27, E43, e43_25, n43_6, n43_46, n43_29]
set_option maxHeartbeats 8000000 in
theorem L43_29 (f g : List Pred) (h_f : POk f) (h_g : POk g) (st : St) : ∀ (n io : Nat) (e0 e6 e8 e9 e11 e12 e13 e14 e27 e28 e29 : E) (T : List (Nat × E)) (X : List (Nat × List V)) (ht0 : e0.Tame) (ht6 : e6.Tame) (ht8 : e8.Tame) (ht9 : e9.Tame) (ht11 : e11.Tame) (ht12 : e12.Tame) (ht13 : e13.Tame) (ht14 : e14.Tame) (ht27 : e27.Tame) (ht28 : e28.Tame) (ht29 : e29.Tame), io ≤ f.length → f.length - io = n →
    evK gS fi43 c43_29 { ps := [(0, e0), (1, .val (.slice (encPreds g))), (4, .val (.bool false)), (6, e6), (8, e8), (9, e9), (11, e11), (12, e12), (13, e13), (14, e14), (21, .val (.slice (encPreds f))), (22, .val (.int .i64 f.length)), (23, .val (.int .i64 (io : Nat))), (27, e27), (28, e28), (29, e29)], ts := T, lc := X } st (.blk 2 (.seq c43_67 .nil)) = some (.ret (.bool ((f.drop io).all fun p => fcov1 p g)) none, st) := by
  intro n
  have hm : fi43.marks = [] := rfl
  have hl : fi43.locals = [6, 8, 11] := rfl
  have hr : fi43.results = [.tmp 4] := rfl
  have hgl := h_g.1
  have hfl := h_f.1
  induction n with
  | zero =>
    intro io e0 e6 e8 e9 e11 e12 e13 e14 e27 e28 e29 T X ht0 ht6 ht8 ht9 ht11 ht12 ht13 ht14 ht27 ht28 ht29 hk hn
    obtain rfl : io = f.length := by omega
    refine evK_loop c43_30 _ st _ _ rfl ?_
    simp (config := { contextual := true, maxSteps := 10000000, maxDischargeDepth := 6 }) [ht0, ht6, ht8, ht9, ht11, ht12, ht13, ht14, ht27, ht28, ht29, -Int.not_le, -Int.not_lt, -Nat.not_le, -Nat.not_lt, ty3, ty4, ty9, ty27, ty49, hm, hl, hr, k23, k27, E43, e43_59, e43_25, n43_6, n43_46, n43_29]
  | succ n ih =>
    intro io e0 e6 e8 e9 e11 e12 e13 e14 e27 e28 e29 T X ht0 ht6 ht8 ht9 ht11 ht12 ht13 ht14 ht27 ht28 ht29 hk hn
    obtain ⟨x, hx⟩ : ∃ x, f[io]? = some x := ⟨f[io]'(by omega), List.getElem?_eq_getElem (by omega)⟩
    have hd := drop_get hx
    have hlt : (io : Int) < (f.length : Int) := by omega
    have hlt2 : io < f.length := by omega
    have hxe : f[io]'hlt2 = x := by rw [List.getElem?_eq_getElem hlt2] at hx; exact Option.some.inj hx
    have hw : IntKind.wrap .i64 ((io : Int) + 1) = ((io + 1 : Nat) : Int) := by rw [wrap64 (by omega) (by omega)]; omega
    have hxo := (h_f.get hx).1
    have hxs := (h_f.get hx).2
    have IH := fun e0 e6 e8 e9 e11 e12 e13 e14 e27 e28 e29 T X ht0 ht6 ht8 ht9 ht11 ht12 ht13 ht14 ht27 ht28 ht29 => ih (io + 1) e0 e6 e8 e9 e11 e12 e13 e14 e27 e28 e29 T X ht0 ht6 ht8 ht9 ht11 ht12 ht13 ht14 ht27 ht28 ht29 (by omega) (by omega)
    refine evK_loop c43_30 _ st _ _ rfl ?_
    have II := fun H e0 e6 e11 e12 e13 e14 T X ht0 ht6 ht11 ht12 ht13 ht14 hx8 => I43 f g h_f h_g x (h_f.get hx) io hx st (.ret (.bool ((f.drop io).all fun p => fcov1 p g)) none, st) (fcov1 x g) H g.length 0 false e0 e6 e11 e12 e13 e14 T X ht0 ht6 ht11 ht12 ht13 ht14 hx8 (Nat.zero_le _) (by omega) rfl
    simp (config := { contextual := true, maxSteps := 10000000, maxDischargeDepth := 6 }) [-Int.natCast_add, hx, hxe, hlt, hlt2, hxo, hxs, ht0, ht6, ht8, ht9, ht11, ht12, ht13, ht14, ht27, ht28, ht29, -Int.not_le, -Int.not_lt, -Nat.not_le, -Nat.not_lt, ty3, ty4, ty9, ty27, ty49, hm, hl, hr, k23, k27, E43, e43_59, e43_25, n43_6, n43_46, n43_29]
    refine II ?_ _ _ _ _ _ _ _ _ ?_ ?_ ?_ ?_ ?_ ?_ ?_
    · intro e0 e6 e11 e12 e13 e14 T X ht0 ht6 ht11 ht12 ht13 ht14 hx8
      rw [hd, List.all_cons]
      cases hb : fcov1 x g with
      | true => simp (config := { contextual := true, maxSteps := 10000000, maxDischargeDepth := 6 }) [-Int.natCast_add, IH, hw, hb, ht0, ht6, ht11, ht12, ht13, ht14, hx8, -Int.not_le, -Int.not_lt, -Nat.not_le, -Nat.not_lt, ty3, ty4, ty9, ty27, ty49, hm, hl, hr, k23, k27, E43, e43_59, e43_25, n43_6, n43_46, n43_29]
      | false => simp (config := { contextual := true, maxSteps := 10000000, maxDischargeDepth := 6 }) [-Int.natCast_add, IH, hw, hb, ht0, ht6, ht11, ht12, ht13, ht14, hx8, -Int.not_le, -Int.not_lt, -Nat.not_le, -Nat.not_lt, ty3, ty4, ty9, ty27, ty49, hm, hl, hr, k23, k27, E43, e43_59, e43_25, n43_6, n43_46, n43_29]
    all_goals simp (config := { contextual := true, maxSteps := 10000000, maxDischargeDepth := 6 }) [ht0, ht6, ht8, ht9, ht11, ht12, ht13, ht14, ht27, ht28, ht29,]
def fi44 : FI := { body := codeOf Try.f44, ntmps := 59, results := [.tmp 4], pers := [0, 1, 4, 5, 6, 7, 8], locals := [], pure := true, marks := [] }
theorem fi44_eq : gS.fn 44 = some fi44 := by kernel_rfl
theorem st44 (a0 a1 : V) : startFr fi44 [a0, a1] = { ps := [(0, .val a0), (1, .val a1), (4, .any), (5, .any), (6, .any), (7, .any), (8, .any)], ts := [], lc := [] } := rfl
def b44 : Code := mini (codeOf Try.f44)
def c44_10 : Code := .cond (.tmp 12) .skip (.exit 0)
def c44_8 : Code := .seq (codeN b44 133) c44_10
def c44_18 : Code := .seq (codeN b44 2341) .ret
def c44_17 : Code := .cond (.tmp 19) c44_18 .skip
def c44_15 : Code := .seq (codeN b44 549) c44_17
def c44_22 : Code := codeN b44 229
def c44_13 : Code := .seq (.block 1 c44_15) c44_22
def c44_7 : Code := .seq c44_8 c44_13
def c44_6 : Code := .loop c44_7
def c44_5 : Code := .block 0 c44_6
def c44_3 : Code := .seq (codeN b44 9) c44_5
def c44_31 : Code := .cond (.tmp 23) .skip (.exit 2)
def c44_29 : Code := .seq (codeN b44 267) c44_31
def c44_46 : Code := .cond (.tmp 29) .skip (.exit 4)
def c44_44 : Code := .seq (codeN b44 68171) c44_46
def r44_51 : Array Oper := regOps (codeN (codeOf Try.f44) 150091)
def c44_51 : Code := .region 13 r44_51 true
def q44_51 : List (Oper × Fl) := [(mv 32 7 4, ⟨true, true, true, false, true, false, true, true, false, false, []⟩),
 (mv 33 32 4, ⟨true, true, true, false, true, false, true, true, false, false, []⟩),
 (mk (some 34) (.move (.tmp 1)) 49 (some (1, false)), ⟨true, false, true, false, false, false, true, true, false, false, []⟩),
 (mk (some 35) (.move (.tmp 8)) 3 (some (1, false)), ⟨true, false, true, false, false, false, true, true, false, false, []⟩),
 (mk (some 36) (.indexAddr 49 (.tmp 34) (.tmp 35)) 0 (some (1, false)), ⟨true, false, true, false, false, false, true, true, false, false, []⟩),
 (mk (some 37) (.fieldAddr 27 (.tmp 36) 0) 0 (some (1, false)), ⟨true, false, true, false, false, false, true, true, false, false, []⟩),
 (mk (some 38) (.load 9 (.tmp 37)) 9 (some (1, false)), ⟨true, false, true, false, false, false, true, true, false, false, []⟩),
 (mk (some 39) (.move (.tmp 0)) 49 (some (1, false)), ⟨true, false, true, false, false, false, true, true, false, false, []⟩),
 (mk (some 40) (.move (.tmp 6)) 3 (some (1, false)), ⟨true, false, true, false, false, false, true, true, false, false, []⟩),
 (mk (some 41) (.indexAddr 49 (.tmp 39) (.tmp 40)) 0 (some (1, false)), ⟨true, false, true, false, false, false, true, true, false, false, []⟩),
 (mk (some 42) (.fieldAddr 27 (.tmp 41) 0) 0 (some (1, false)), ⟨true, false, true, false, false, false, true, true, false, false, []⟩),
 (mk (some 43) (.load 9 (.tmp 42)) 9 (some (1, false)), ⟨true, false, true, false, true, false, true, true, false, false, []⟩),
 (mk (some 44) (.binOp .eql 9 (.tmp 38) (.tmp 43) 9) 4 (some (1, false)), ⟨true, true, true, false, true, false, true, true, false, false, []⟩),
 (mk (some 45) (.move (.tmp 44)) 4 (some (1, false)), ⟨true, false, true, false, true, false, true, true, false, false, []⟩),
 (mk (some 46) (.move (.tmp 1)) 49 (some (13, true)), ⟨true, false, true, false, false, false, true, true, false, false, []⟩),
 (mk (some 47) (.move (.tmp 8)) 3 (some (13, true)), ⟨true, false, true, false, false, false, true, true, false, false, []⟩),
 (mk (some 48) (.indexAddr 49 (.tmp 46) (.tmp 47)) 0 (some (13, true)), ⟨true, false, true, false, false, false, true, true, false, false, []⟩),
 (mk (some 49) (.load 27 (.tmp 48)) 27 (some (13, true)), ⟨true, false, true, false, false, false, true, true, false, false, []⟩),
 (mk (some 50) (.move (.tmp 0)) 49 (some (13, true)), ⟨true, false, true, false, false, false, true, true, false, false, []⟩),
 (mk (some 51) (.move (.tmp 6)) 3 (some (13, true)), ⟨true, false, true, false, false, false, true, true, false, false, []⟩),
 (mk (some 52) (.indexAddr 49 (.tmp 50) (.tmp 51)) 0 (some (13, true)), ⟨true, false, true, false, true, false, true, true, false, false, []⟩),
 (mk (some 53) (.load 27 (.tmp 52)) 27 (some (13, true)), ⟨true, false, true, false, true, false, true, true, false, false, []⟩),
 (mk (some 54) (.call { callee := (.value (.func 28)), args := #[(.tmp 49), (.tmp 53)], argTypes := #[27, 27] }) 4 (some (13, true)), ⟨true, true, true, false, true, true, true, true, false, false, []⟩),
 (mk (some 55) (.pick (.tmp 45) (.tmp 54) (.const (.bool false))) 4 (some (1, false)), ⟨true, false, true, false, true, false, true, true, false, false, []⟩),
 (op1 56 (.pick (.tmp 33) (.const (.bool true)) (.tmp 55)) 4, ⟨true, false, true, false, true, false, true, true, false, false, []⟩),
 (asn 7 56 4, ⟨true, true, true, false, true, false, true, true, false, false, []⟩)]
def c44_52 : Code := codeN b44 117323
def c44_49 : Code := .seq (.block 5 c44_51) c44_52
def c44_43 : Code := .seq c44_44 c44_49
def c44_42 : Code := .loop c44_43
def c44_41 : Code := .block 4 c44_42
def c44_39 : Code := .seq (codeN b44 4683) c44_41
def c44_56 : Code := .seq (codeN b44 20043) .ret
def c44_55 : Code := .cond (.tmp 58) c44_56 .skip
def c44_53 : Code := .seq (codeN b44 5707) c44_55
theorem e44_53 : evK gS fi44 c44_53 fr st k = opsR gS fi44 [mv 57 7 4,
 op1 58 (.unOp .not 4 (.tmp 57)) 4] fr st (.seq c44_55 k) := evK_rs 14 rfl (by kernel_rfl)
def c44_38 : Code := .seq c44_39 c44_53
def c44_36 : Code := .seq (codeN b44 1099) c44_38
def c44_60 : Code := codeN b44 459
def c44_34 : Code := .seq (.block 3 c44_36) c44_60
def c44_28 : Code := .seq c44_29 c44_34
def c44_27 : Code := .loop c44_28
def c44_26 : Code := .block 2 c44_27
def c44_24 : Code := .seq (codeN b44 19) c44_26
def c44_61 : Code := .seq (codeN b44 23) .ret
def c44_23 : Code := .seq c44_24 c44_61
theorem e44_23 : evK gS fi44 c44_23 fr st k = evK gS fi44 c44_24 fr st (.seq c44_61 k) := rfl
def c44_2 : Code := .seq c44_3 c44_23
def c44_0 : Code := .seq (codeN b44 2) c44_2
theorem E44 : evK gS fi44 c44_10 fr st k = condK gS fi44 (fr.op (.tmp 12)).bool? .skip (.exit 0) fr st k ∧
 (evK gS fi44 c44_8 fr st k = opsR gS fi44 [mv 9 5 3,
 mv 10 1 49,
 len1 11 10 49 3,
 bop 12 .lss 3 9 11 3 4] fr st (.seq c44_10 k)) ∧
 evK gS fi44 c44_18 fr st k = opsR gS fi44 [op1 4 (.assign (.const (.bool true))) 4] fr st (.seq .ret k) ∧
 evK gS fi44 c44_17 fr st k = condK gS fi44 (fr.op (.tmp 19)).bool? c44_18 .skip fr st k ∧
 (evK gS fi44 c44_15 fr st k = opsR gS fi44 [mv 15 1 49,
 mv 16 5 3,
 ixa 17 49 15 16 0,
 ld 18 27 17 27,
 cal 19 24 [(.tmp 18)] [27] 4] fr st (.seq c44_17 k)) ∧
 (evK gS fi44 c44_22 fr st k = opsR gS fi44 [mv 13 5 3,
 op1 14 (.binOp .add 3 (.tmp 13) (.const (.int .i64 1)) 3) 3,
 asn 5 14 3] fr st k) ∧
 evK gS fi44 c44_13 fr st k = evK gS fi44 c44_15 fr st (.blk 1 (.seq c44_22 k)) ∧
 evK gS fi44 c44_7 fr st k = evK gS fi44 c44_8 fr st (.seq c44_13 k) ∧
 evK gS fi44 c44_5 fr st k = evK gS fi44 c44_6 fr st (.blk 0 k) ∧
 evK gS fi44 c44_3 fr st k = opsR gS fi44 [op1 5 (.assign (.const (.int .i64 0))) 3] fr st (.seq c44_5 k) ∧
 evK gS fi44 c44_31 fr st k = condK gS fi44 (fr.op (.tmp 23)).bool? .skip (.exit 2) fr st k ∧
 (evK gS fi44 c44_29 fr st k = opsR gS fi44 [mv 20 6 3,
 mv 21 0 49,
 len1 22 21 49 3,
 bop 23 .lss 3 20 22 3 4] fr st (.seq c44_31 k)) ∧
 evK gS fi44 c44_46 fr st k = condK gS fi44 (fr.op (.tmp 29)).bool? .skip (.exit 4) fr st k ∧
 (evK gS fi44 c44_44 fr st k = opsR gS fi44 [mv 26 8 3,
 mv 27 1 49,
 len1 28 27 49 3,
 bop 29 .lss 3 26 28 3 4] fr st (.seq c44_46 k)) ∧
 evK gS fi44 c44_51 fr st k = drwR gS fi44 r44_51 q44_51 fr st k ∧
 (evK gS fi44 c44_52 fr st k = opsR gS fi44 [mv 30 8 3,
 op1 31 (.binOp .add 3 (.tmp 30) (.const (.int .i64 1)) 3) 3,
 asn 8 31 3] fr st k) ∧
 evK gS fi44 c44_49 fr st k = evK gS fi44 c44_51 fr st (.blk 5 (.seq c44_52 k)) ∧
 evK gS fi44 c44_43 fr st k = evK gS fi44 c44_44 fr st (.seq c44_49 k) ∧
 evK gS fi44 c44_41 fr st k = evK gS fi44 c44_42 fr st (.blk 4 k) ∧
 evK gS fi44 c44_39 fr st k = opsR gS fi44 [op1 8 (.assign (.const (.int .i64 0))) 3] fr st (.seq c44_41 k) ∧
 evK gS fi44 c44_56 fr st k = opsR gS fi44 [op1 4 (.assign (.const (.bool false))) 4] fr st (.seq .ret k) ∧
 evK gS fi44 c44_55 fr st k = condK gS fi44 (fr.op (.tmp 58)).bool? c44_56 .skip fr st k ∧
 evK gS fi44 c44_38 fr st k = evK gS fi44 c44_39 fr st (.seq c44_53 k) ∧
 evK gS fi44 c44_36 fr st k = opsR gS fi44 [op1 7 (.assign (.const (.bool false))) 4] fr st (.seq c44_38 k) ∧
 (evK gS fi44 c44_60 fr st k = opsR gS fi44 [mv 24 6 3,
 op1 25 (.binOp .add 3 (.tmp 24) (.const (.int .i64 1)) 3) 3,
 asn 6 25 3] fr st k) ∧
 evK gS fi44 c44_34 fr st k = evK gS fi44 c44_36 fr st (.blk 3 (.seq c44_60 k)) ∧
 evK gS fi44 c44_28 fr st k = evK gS fi44 c44_29 fr st (.seq c44_34 k) ∧
 evK gS fi44 c44_26 fr st k = evK gS fi44 c44_27 fr st (.blk 2 k) ∧
 evK gS fi44 c44_24 fr st k = opsR gS fi44 [op1 6 (.assign (.const (.int .i64 0))) 3] fr st (.seq c44_26 k) ∧
 evK gS fi44 c44_61 fr st k = opsR gS fi44 [op1 4 (.assign (.const (.bool true))) 4] fr st (.seq .ret k) ∧
 evK gS fi44 c44_2 fr st k = evK gS fi44 c44_3 fr st (.seq c44_23 k) ∧
 evK gS fi44 c44_0 fr st k = opsR gS fi44 [op1 4 (.assign (.const (.bool false))) 4] fr st (.seq c44_2 k) := ⟨rfl, evK_rs 2 rfl (by kernel_rfl), evK_rs 5 rfl (by kernel_rfl), rfl, evK_rs 4 rfl (by kernel_rfl), evK_r 3 (by kernel_rfl), rfl, rfl, rfl, evK_rs 1 rfl (by kernel_rfl), rfl, evK_rs 7 rfl (by kernel_rfl), rfl, evK_rs 11 rfl (by kernel_rfl), evK_dr 13 rfl (by kernel_rfl) (by kernel_rfl), evK_r 12 (by kernel_rfl), rfl, rfl, rfl, evK_rs 10 rfl (by kernel_rfl), evK_rs 15 rfl (by kernel_rfl), rfl, rfl, evK_rs 9 rfl (by kernel_rfl), evK_r 8 (by kernel_rfl), rfl, rfl, rfl, evK_rs 6 rfl (by kernel_rfl), evK_rs 16 rfl (by kernel_rfl), rfl, evK_rs 0 rfl (by kernel_rfl)⟩
theorem m44 : mini fi44.body = c44_0 := by kernel_rfl
theorem n44_6 (fr : Fr) (st : St) (k : Kt) : nextK gS fi44 (.loop c44_7 k) .normal fr st = evK gS fi44 c44_6 fr st k := rfl
theorem n44_42 (fr : Fr) (st : St) (k : Kt) : nextK gS fi44 (.loop c44_43 k) .normal fr st = evK gS fi44 c44_42 fr st k := rfl
theorem n44_27 (fr : Fr) (st : St) (k : Kt) : nextK gS fi44 (.loop c44_28 k) .normal fr st = evK gS fi44 c44_27 fr st k := rfl
set_option maxHeartbeats 8000000 in
theorem I44 (f g : List Pred) (h_f : POk f) (h_g : POk g) (p : Pred) (h_p : p.ok) (io : Nat) (hio : f[io]? = some p) (st : St) (R : Out × St) (fb : Bool)
    (H : ∀ (e5 : E) (T : List (Nat × E)) (X : List (Nat × List V)) (ht5 : e5.Tame) , evK gS fi44 c44_53 { ps := [(0, .val (.slice (encPreds f))), (1, .val (.slice (encPreds g))), (4, .val (.bool false)), (5, e5), (6, .val (.int .i64 (io : Nat))), (7, .val (.bool fb)), (8, .val (.int .i64 (g.length : Nat)))], ts := T, lc := X } st (.blk 3 (.seq c44_60 (.loop c44_28 (.blk 2 (.seq c44_61 .nil))))) = some R) :
    ∀ (n k : Nat) (b : Bool) (e5 : E) (T : List (Nat × E)) (X : List (Nat × List V)) (ht5 : e5.Tame) , k ≤ g.length → g.length - k = n → fb = (b || fcov1 p (g.drop k)) →
    evK gS fi44 c44_42 { ps := [(0, .val (.slice (encPreds f))), (1, .val (.slice (encPreds g))), (4, .val (.bool false)), (5, e5), (6, .val (.int .i64 (io : Nat))), (7, .val (.bool b)), (8, .val (.int .i64 (k : Nat)))], ts := T, lc := X } st (.blk 4 (.seq c44_53 (.blk 3 (.seq c44_60 (.loop c44_28 (.blk 2 (.seq c44_61 .nil))))))) = some R := by
  intro n
  have hm : fi44.marks = [] := rfl
  have hl : fi44.locals = [] := rfl
  have hr : fi44.results = [.tmp 4] := rfl
  have hgl := h_g.1
  have hfl := h_f.1
  have hpo1 := h_p.1
  have hpo2 := h_p.2
  have hil : io < f.length := (List.getElem?_eq_some_iff.1 hio).1
  have hie : f[io]'hil = p := (List.getElem?_eq_some_iff.1 hio).2
  induction n with
  | zero =>
    intro k b e5 T X ht5  hk hn hb
    obtain rfl : k = g.length := by omega
    refine evK_loop c44_43 _ st _ _ rfl ?_
    rw [List.drop_length] at hb
    have hb2 : b = fb := by rw [hb]; simp [fcov1]
    subst hb2
    simp (config := { contextual := true, maxSteps := 10000000, maxDischargeDepth := 6 }) [ht5,  -Int.not_le, -Int.not_lt, -Nat.not_le, -Nat.not_lt, ty3, ty4, ty9, ty27, ty49, hm, hl, hr, k24, x24, fi24_eq, p24, k28, x28, fi28_eq, p28, E44, q44_51, e44_23, n44_6, n44_42, n44_27]
    all_goals first | done | (refine H _ _ _ ?_ <;> simp [ht5, ]; done) | skip
    all_goals (refine H _ _ _ ?_ <;> simp (config := { contextual := true, maxSteps := 10000000, maxDischargeDepth := 6 }) [ht5, ])
  | succ n ih =>
    intro k b e5 T X ht5  hk hn hb
    obtain ⟨x, hx⟩ : ∃ x, g[k]? = some x := ⟨g[k]'(by omega), List.getElem?_eq_getElem (by omega)⟩
    have hd := drop_get hx
    have hlt : (k : Int) < (g.length : Int) := by omega
    have hlt2 : k < g.length := by omega
    have hxe : g[k]'hlt2 = x := by rw [List.getElem?_eq_getElem hlt2] at hx; exact Option.some.inj hx
    have hw : IntKind.wrap .i64 ((k : Int) + 1) = ((k + 1 : Nat) : Int) := by rw [wrap64 (by omega) (by omega)]; omega
    have hxo := (h_g.get hx).1
    have hxs := (h_g.get hx).2
    have hcast : ((k + 1 : Nat) : Int) = (k : Int) + 1 := by omega
    rw [hd] at hb
    have hc : fcov1 p (x :: g.drop (k + 1)) = (decide (x.name = p.name) && pimplies x p || fcov1 p (g.drop (k + 1))) := rfl
    rw [hc] at hb
    have IH := fun b' hb' e5 T X ht5  => ih (k + 1) b' e5 T X ht5  (by omega) (by omega) hb'
    refine evK_loop c44_43 _ st _ _ rfl ?_
    cases b with
    | true =>
      have IHc := IH true (by rw [hb]; rfl)
      simp (config := { contextual := true, maxSteps := 10000000, maxDischargeDepth := 6 }) [-Int.natCast_add, hio, hil, hie, hx, hxe, hlt, hlt2, hw, hxo, hxs, hpo1, hpo2, IHc, ht5,  -Int.not_le, -Int.not_lt, -Nat.not_le, -Nat.not_lt, ty3, ty4, ty9, ty27, ty49, hm, hl, hr, k24, x24, fi24_eq, p24, k28, x28, fi28_eq, p28, E44, q44_51, e44_23, n44_6, n44_42, n44_27]
    | false =>
      by_cases hne : x.name = p.name
      · generalize hpi : pimplies x p = t at hb
        have IHc := IH t (by rw [hb]; simp [hne])
        have hpi2 : pimplies ⟨p.name, x.test, x.v, x.w, x.set⟩ p = t := by rw [← hne]; exact hpi
        simp (config := { contextual := true, maxSteps := 10000000, maxDischargeDepth := 6 }) [-Int.natCast_add, hio, hil, hie, hx, hxe, hlt, hlt2, hw, hxo, hxs, hpo1, hpo2, IHc, hne, hpi2, ht5,  -Int.not_le, -Int.not_lt, -Nat.not_le, -Nat.not_lt, ty3, ty4, ty9, ty27, ty49, hm, hl, hr, k24, x24, fi24_eq, p24, k28, x28, fi28_eq, p28, E44, q44_51, e44_23, n44_6, n44_42, n44_27]
      · have IHc := IH false (by rw [hb]; simp [hne])
        simp (config := { contextual := true, maxSteps := 10000000, maxDischargeDepth := 6 }) [-Int.natCast_add, hio, hil, hie, hx, hxe, hlt, hlt2, hw, hxo, hxs, hpo1, hpo2, IHc, hne, ht5,  -Int.not_le, -Int.not_lt, -Nat.not_le, -Nat.not_lt, ty3, ty4, ty9, ty27, ty49, hm, hl, hr, k24, x24, fi24_eq, p24, k28, x28, fi28_eq, p28, E44, q44_51, e44_23, n44_6, n44_42, n44_27]
set_option maxHeartbeats 8000000 in
theorem L44_27 (f g : List Pred) (h_f : POk f) (h_g : POk g) (st : St) : ∀ (n io : Nat) (e5 e7 e8 : E) (T : List (Nat × E)) (X : List (Nat × List V)) (ht5 : e5.Tame) (ht7 : e7.Tame) (ht8 : e8.Tame), io ≤ f.length → f.length - io = n →
    evK gS fi44 c44_27 { ps := [(0, .val (.slice (encPreds f))), (1, .val (.slice (encPreds g))), (4, .val (.bool false)), (5, e5), (6, .val (.int .i64 (io : Nat))), (7, e7), (8, e8)], ts := T, lc := X } st (.blk 2 (.seq c44_61 .nil)) = some (.ret (.bool ((f.drop io).all fun p => fcov1 p g)) none, st) := by
  intro n
  have hm : fi44.marks = [] := rfl
  have hl : fi44.locals = [] := rfl
  have hr : fi44.results = [.tmp 4] := rfl
  have hgl := h_g.1
  have hfl := h_f.1
  induction n with
  | zero =>
    intro io e5 e7 e8 T X ht5 ht7 ht8 hk hn
    obtain rfl : io = f.length := by omega
    refine evK_loop c44_28 _ st _ _ rfl ?_
    simp (config := { contextual := true, maxSteps := 10000000, maxDischargeDepth := 6 }) [ht5, ht7, ht8, -Int.not_le, -Int.not_lt, -Nat.not_le, -Nat.not_lt, ty3, ty4, ty9, ty27, ty49, hm, hl, hr, k24, x24, fi24_eq, p24, k28, x28, fi28_eq, p28, E44, q44_51, e44_53, e44_23, n44_6, n44_42, n44_27]
  | succ n ih =>
    intro io e5 e7 e8 T X ht5 ht7 ht8 hk hn
    obtain ⟨x, hx⟩ : ∃ x, f[io]? = some x := ⟨f[io]'(by omega), List.getElem?_eq_getElem (by omega)⟩
    have hd := drop_get hx
    have hlt : (io : Int) < (f.length : Int) := by omega
    have hlt2 : io < f.length := by omega
    have hxe : f[io]'hlt2 = x := by rw [List.getElem?_eq_getElem hlt2] at hx; exact Option.some.inj hx
    have hw : IntKind.wrap .i64 ((io : Int) + 1) = ((io + 1 : Nat) : Int) := by rw [wrap64 (by omega) (by omega)]; omega
    have hxo := (h_f.get hx).1
    have hxs := (h_f.get hx).2
    have IH := fun e5 e7 e8 T X ht5 ht7 ht8 => ih (io + 1) e5 e7 e8 T X ht5 ht7 ht8 (by omega) (by omega)
    refine evK_loop c44_28 _ st _ _ rfl ?_
    have II := fun H e5 T X ht5  => I44 f g h_f h_g x (h_f.get hx) io hx st (.ret (.bool ((f.drop io).all fun p => fcov1 p g)) none, st) (fcov1 x g) H g.length 0 false e5 T X ht5  (Nat.zero_le _) (by omega) rfl
    simp (config := { contextual := true, maxSteps := 10000000, maxDischargeDepth := 6 }) [-Int.natCast_add, hx, hxe, hlt, hlt2, hxo, hxs, ht5, ht7, ht8, -Int.not_le, -Int.not_lt, -Nat.not_le, -Nat.not_lt, ty3, ty4, ty9, ty27, ty49, hm, hl, hr, k24, x24, fi24_eq, p24, k28, x28, fi28_eq, p28, E44, q44_51, e44_53, e44_23, n44_6, n44_42, n44_27]
    refine II ?_ _ _ _ ?_
    · intro e5 T X ht5 
      rw [hd, List.all_cons]
      cases hb : fcov1 x g with
      | true => simp (config := { contextual := true, maxSteps := 10000000, maxDischargeDepth := 6 }) [-Int.natCast_add, IH, hw, hb, ht5,  -Int.not_le, -Int.not_lt, -Nat.not_le, -Nat.not_lt, ty3, ty4, ty9, ty27, ty49, hm, hl, hr, k24, x24, fi24_eq, p24, k28, x28, fi28_eq, p28, E44, q44_51, e44_53, e44_23, n44_6, n44_42, n44_27]
      | false => simp (config := { contextual := true, maxSteps := 10000000, maxDischargeDepth := 6 }) [-Int.natCast_add, IH, hw, hb, ht5,  -Int.not_le, -Int.not_lt, -Nat.not_le, -Nat.not_lt, ty3, ty4, ty9, ty27, ty49, hm, hl, hr, k24, x24, fi24_eq, p24, k28, x28, fi28_eq, p28, E44, q44_51, e44_53, e44_23, n44_6, n44_42, n44_27]
    all_goals simp (config := { contextual := true, maxSteps := 10000000, maxDischargeDepth := 6 }) [ht5, ht7, ht8,]
set_option maxHeartbeats 4000000 in
theorem T43_25 (f : List Pred) (g : List Pred) (h_f : POk f) (h_g : POk g) (st : St) (e6 e8 e9 e11 e12 e13 e14 e21 e22 e23 e27 e28 e29 : E) (T : List (Nat × E)) (X : List (Nat × List V)) (ht6 : e6.Tame) (ht8 : e8.Tame) (ht9 : e9.Tame) (ht11 : e11.Tame) (ht12 : e12.Tame) (ht13 : e13.Tame) (ht14 : e14.Tame) (ht21 : e21.Tame) (ht22 : e22.Tame) (ht23 : e23.Tame) (ht27 : e27.Tame) (ht28 : e28.Tame) (ht29 : e29.Tame)  :
    evK gS fi43 c43_25 { ps := [(0, .val (.slice (encPreds f))), (1, .val (.slice (encPreds g))), (4, .val (.bool false)), (6, e6), (8, e8), (9, e9), (11, e11), (12, e12), (13, e13), (14, e14), (21, e21), (22, e22), (23, e23), (27, e27), (28, e28), (29, e29)], ts := T, lc := X } st .nil = some (.ret (.bool (f.all fun p => fcov1 p g)) none, st) := by
  have hm : fi43.marks = [] := rfl
  have hl : fi43.locals = [6, 8, 11] := rfl
  have hr : fi43.results = [.tmp 4] := rfl
  have L0 := fun e0 e6 e8 e9 e11 e12 e13 e14 e27 e28 e29 T X ht0 ht6 ht8 ht9 ht11 ht12 ht13 ht14 ht27 ht28 ht29 => L43_29 f g h_f h_g st f.length 0 e0 e6 e8 e9 e11 e12 e13 e14 e27 e28 e29 T X ht0 ht6 ht8 ht9 ht11 ht12 ht13 ht14 ht27 ht28 ht29 (Nat.zero_le _) rfl
  simp only [show ((0 : Nat) : Int) = 0 from rfl, List.drop_zero] at L0
  have hfl := h_f.1
  have hgl := h_g.1
  simp (config := { contextual := true, maxSteps := 10000000, maxDischargeDepth := 6 }) [-Int.not_le, -Int.not_lt, -Nat.not_le, -Nat.not_lt, ty3, ty4, ty9, ty27, ty49, hm, hl, hr, k23, k27, E43, e43_59, e43_25, n43_6, n43_46, n43_29, L0, ht6, ht8, ht9, ht11, ht12, ht13, ht14, ht21, ht22, ht23, ht27, ht28, ht29]
  all_goals first | done | grind | omega | (trace_state; fail)
set_option maxHeartbeats 4000000 in
theorem L43_6 (f : List Pred) (g : List Pred) (h_f : POk f) (h_g : POk g) (st : St) : ∀ (n i : Nat) (j : Int)  (e6 e8 e9 e11 e21 e22 e23 e27 e28 e29 : E) (T : List (Nat × E)) (X : List (Nat × List V)) (ht6 : e6.Tame) (ht8 : e8.Tame) (ht9 : e9.Tame) (ht11 : e11.Tame) (ht21 : e21.Tame) (ht22 : e22.Tame) (ht23 : e23.Tame) (ht27 : e27.Tame) (ht28 : e28.Tame) (ht29 : e29.Tame) , j = (i : Int) → i ≤ (g).length → (g).length - i = n →
    evK gS fi43 c43_6 { ps := [(0, .val (.slice (encPreds f))), (1, .val (.slice (encPreds g))), (4, .val (.bool false)), (6, e6), (8, e8), (9, e9), (11, e11), (12, .val (.slice (encPreds g))), (13, .val (.int .i64 g.length)), (14, .val (.int .i64 j)), (21, e21), (22, e22), (23, e23), (27, e27), (28, e28), (29, e29)], ts := T, lc := X } st (.blk 0 (.seq c43_25 .nil)) = some ((.ret (.bool ((g.drop i).any pvoid || f.all fun p => fcov1 p g)) none), st) := by
  intro n
  have hm : fi43.marks = [] := rfl
  have hl : fi43.locals = [6, 8, 11] := rfl
  have hr : fi43.results = [.tmp 4] := rfl
  have hgl := h_g.1
  have hTT := (fun e6 e8 e9 e11 e12 e13 e14 e21 e22 e23 e27 e28 e29 T X ht6 ht8 ht9 ht11 ht12 ht13 ht14 ht21 ht22 ht23 ht27 ht28 ht29 => T43_25 f g h_f h_g st e6 e8 e9 e11 e12 e13 e14 e21 e22 e23 e27 e28 e29 T X ht6 ht8 ht9 ht11 ht12 ht13 ht14 ht21 ht22 ht23 ht27 ht28 ht29)
  induction n with
  | zero =>
    intro i j  e6 e8 e9 e11 e21 e22 e23 e27 e28 e29 T X ht6 ht8 ht9 ht11 ht21 ht22 ht23 ht27 ht28 ht29  hj hi hn
    obtain rfl : i = (g).length := by omega
    subst hj
    refine evK_loop c43_7 _ st _ _ rfl ?_
    simp (config := { contextual := true, maxSteps := 10000000, maxDischargeDepth := 6 }) [-Int.not_le, -Int.not_lt, -Nat.not_le, -Nat.not_lt, ty3, ty4, ty9, ty27, ty49, hm, hl, hr, k23, k27, E43, e43_59, n43_6, n43_46, n43_29, hTT, ht6, ht8, ht9, ht11, ht21, ht22, ht23, ht27, ht28, ht29]
    all_goals first | done | grind | omega | (trace_state; fail)
  | succ n ih =>
    intro i j  e6 e8 e9 e11 e21 e22 e23 e27 e28 e29 T X ht6 ht8 ht9 ht11 ht21 ht22 ht23 ht27 ht28 ht29  hj hi hn
    subst hj
    obtain ⟨x, hx⟩ : ∃ x, (g)[i]? = some x := ⟨(g)[i]'(by omega), List.getElem?_eq_getElem (by omega)⟩
    have hd := drop_get hx
    have hlt : (i : Int) < ((g).length : Int) := by omega
    have hlt2 : i < (g).length := by omega
    have hxe : (g)[i]'hlt2 = x := by rw [List.getElem?_eq_getElem hlt2] at hx; exact Option.some.inj hx
    have hw : IntKind.wrap .i64 ((i : Int) + 1) = (i : Int) + 1 := wrap64 (by omega) (by omega)
    have hpo := h_g.get hx
    have hxo := hpo.1
    have hxs := hpo.2
    have IH := fun e6 e8 e9 e11 e21 e22 e23 e27 e28 e29 T X ht6 ht8 ht9 ht11 ht21 ht22 ht23 ht27 ht28 ht29 => ih (i + 1) ((i : Int) + 1) e6 e8 e9 e11 e21 e22 e23 e27 e28 e29 T X ht6 ht8 ht9 ht11 ht21 ht22 ht23 ht27 ht28 ht29 rfl (by omega) (by omega)
    refine evK_loop c43_7 _ st _ _ rfl ?_
    simp (config := { contextual := true, maxSteps := 10000000, maxDischargeDepth := 6 }) [-Int.not_le, -Int.not_lt, -Nat.not_le, -Nat.not_lt, ty3, ty4, ty9, ty27, ty49, hm, hl, hr, k23, k27, E43, e43_59, n43_6, n43_46, n43_29, hTT, ht6, ht8, ht9, ht11, ht21, ht22, ht23, ht27, ht28, ht29, hx, hxe, hd, hlt, hlt2, hw, IH, hxo, hxs]
    all_goals first | done | grind | omega | (trace_state; fail)
set_option maxHeartbeats 4000000 in
theorem c43 (f : List Pred) (g : List Pred) (h_f : POk f) (h_g : POk g) (st : St) : EvF gS 43 [.slice (encPreds f), .slice (encPreds g)] st = some (.ret (.bool (fcovers f g)) none, st) := by
  refine EvF_start fi43_eq (fun x h => by cases h) m43 ?_
  rw [st43]
  have hm : fi43.marks = [] := rfl
  have hl : fi43.locals = [6, 8, 11] := rfl
  have hr : fi43.results = [.tmp 4] := rfl
  have hgl := h_g.1
  simp (config := { contextual := true, maxSteps := 10000000, maxDischargeDepth := 6 }) [-Int.not_le, -Int.not_lt, -Nat.not_le, -Nat.not_lt, ty3, ty4, ty9, ty27, ty49, hm, hl, hr, k23, k27, E43, e43_59, n43_6, n43_46, n43_29, (fun e6 e8 e9 e11 e21 e22 e23 e27 e28 e29 T X ht6 ht8 ht9 ht11 ht21 ht22 ht23 ht27 ht28 ht29 => L43_6 f g h_f h_g st _ 0 0  e6 e8 e9 e11 e21 e22 e23 e27 e28 e29 T X ht6 ht8 ht9 ht11 ht21 ht22 ht23 ht27 ht28 ht29 rfl (Nat.zero_le _) rfl), hgl]
  all_goals try simp (config := { contextual := true }) [-Int.not_le, -Int.not_lt, -Nat.not_le, -Nat.not_lt, fcovers]
  all_goals first | done | grind | omega | (trace_state; fail)
theorem k43 (f : List Pred) (g : List Pred) (h_f : POk f) (h_g : POk g) (fr : Fr) (st : St) : callStep gS (EvF gS) 43 [.slice (encPreds f), .slice (encPreds g)] fr st = some (.ok (retE none (.bool (fcovers f g))) fr st) :=
  call_pure rfl fi43_eq rfl (fun st => c43 f g h_f h_g st) (by simp)
set_option maxHeartbeats 4000000 in
theorem T44_23 (f : List Pred) (g : List Pred) (h_f : POk f) (h_g : POk g) (st : St) (e5 e6 e7 e8 : E) (T : List (Nat × E)) (X : List (Nat × List V)) (ht5 : e5.Tame) (ht6 : e6.Tame) (ht7 : e7.Tame) (ht8 : e8.Tame)  :
    evK gS fi44 c44_23 { ps := [(0, .val (.slice (encPreds f))), (1, .val (.slice (encPreds g))), (4, .val (.bool false)), (5, e5), (6, e6), (7, e7), (8, e8)], ts := T, lc := X } st .nil = some (.ret (.bool (f.all fun p => fcov1 p g)) none, st) := by
  have hm : fi44.marks = [] := rfl
  have hl : fi44.locals = [] := rfl
  have hr : fi44.results = [.tmp 4] := rfl
  have L0 := fun e5 e7 e8 T X ht5 ht7 ht8 => L44_27 f g h_f h_g st f.length 0 e5 e7 e8 T X ht5 ht7 ht8 (Nat.zero_le _) rfl
  simp only [show ((0 : Nat) : Int) = 0 from rfl, List.drop_zero] at L0
  have hfl := h_f.1
  have hgl := h_g.1
  simp (config := { contextual := true, maxSteps := 10000000, maxDischargeDepth := 6 }) [-Int.not_le, -Int.not_lt, -Nat.not_le, -Nat.not_lt, ty3, ty4, ty9, ty27, ty49, hm, hl, hr, k24, x24, fi24_eq, p24, k28, x28, fi28_eq, p28, E44, q44_51, e44_53, e44_23, n44_6, n44_42, n44_27, L0, ht5, ht6, ht7, ht8]
  all_goals first | done | grind | omega | (trace_state; fail)
set_option maxHeartbeats 4000000 in
theorem L44_6 (f : List Pred) (g : List Pred) (h_f : POk f) (h_g : POk g) (st : St) : ∀ (n i : Nat) (j : Int)  (e6 e7 e8 : E) (T : List (Nat × E)) (X : List (Nat × List V)) (ht6 : e6.Tame) (ht7 : e7.Tame) (ht8 : e8.Tame) , j = (i : Int) → i ≤ (g).length → (g).length - i = n →
    evK gS fi44 c44_6 { ps := [(0, .val (.slice (encPreds f))), (1, .val (.slice (encPreds g))), (4, .val (.bool false)), (5, .val (.int .i64 j)), (6, e6), (7, e7), (8, e8)], ts := T, lc := X } st (.blk 0 (.seq c44_23 .nil)) = some ((.ret (.bool ((g.drop i).any pvoid || f.all fun p => fcov1 p g)) none), st) := by
  intro n
  have hm : fi44.marks = [] := rfl
  have hl : fi44.locals = [] := rfl
  have hr : fi44.results = [.tmp 4] := rfl
  have hgl := h_g.1
  have hTT := (fun e5 e6 e7 e8 T X ht5 ht6 ht7 ht8 => T44_23 f g h_f h_g st e5 e6 e7 e8 T X ht5 ht6 ht7 ht8)
  induction n with
  | zero =>
    intro i j  e6 e7 e8 T X ht6 ht7 ht8  hj hi hn
    obtain rfl : i = (g).length := by omega
    subst hj
    refine evK_loop c44_7 _ st _ _ rfl ?_
    simp (config := { contextual := true, maxSteps := 10000000, maxDischargeDepth := 6 }) [-Int.not_le, -Int.not_lt, -Nat.not_le, -Nat.not_lt, ty3, ty4, ty9, ty27, ty49, hm, hl, hr, k24, x24, fi24_eq, p24, k28, x28, fi28_eq, p28, E44, q44_51, e44_53, n44_6, n44_42, n44_27, hTT, ht6, ht7, ht8]
    all_goals first | done | grind | omega | (trace_state; fail)
  | succ n ih =>
    intro i j  e6 e7 e8 T X ht6 ht7 ht8  hj hi hn
    subst hj
    obtain ⟨x, hx⟩ : ∃ x, (g)[i]? = some x := ⟨(g)[i]'(by omega), List.getElem?_eq_getElem (by omega)⟩
    have hd := drop_get hx
    have hlt : (i : Int) < ((g).length : Int) := by omega
    have hlt2 : i < (g).length := by omega
    have hxe : (g)[i]'hlt2 = x := by rw [List.getElem?_eq_getElem hlt2] at hx; exact Option.some.inj hx
    have hw : IntKind.wrap .i64 ((i : Int) + 1) = (i : Int) + 1 := wrap64 (by omega) (by omega)
    have hpo := h_g.get hx
    have hxo := hpo.1
    have hxs := hpo.2
    have IH := fun e6 e7 e8 T X ht6 ht7 ht8 => ih (i + 1) ((i : Int) + 1) e6 e7 e8 T X ht6 ht7 ht8 rfl (by omega) (by omega)
    refine evK_loop c44_7 _ st _ _ rfl ?_
    simp (config := { contextual := true, maxSteps := 10000000, maxDischargeDepth := 6 }) [-Int.not_le, -Int.not_lt, -Nat.not_le, -Nat.not_lt, ty3, ty4, ty9, ty27, ty49, hm, hl, hr, k24, x24, fi24_eq, p24, k28, x28, fi28_eq, p28, E44, q44_51, e44_53, n44_6, n44_42, n44_27, hTT, ht6, ht7, ht8, hx, hxe, hd, hlt, hlt2, hw, IH, hxo, hxs]
    all_goals first | done | grind | omega | (trace_state; fail)
set_option maxHeartbeats 4000000 in
theorem c44 (f : List Pred) (g : List Pred) (h_f : POk f) (h_g : POk g) (st : St) : EvF gS 44 [.slice (encPreds f), .slice (encPreds g)] st = some (.ret (.bool (fcovers f g)) none, st) := by
  refine EvF_start fi44_eq (fun x h => by cases h) m44 ?_
  rw [st44]
  have hm : fi44.marks = [] := rfl
  have hl : fi44.locals = [] := rfl
  have hr : fi44.results = [.tmp 4] := rfl
  have hgl := h_g.1
  simp (config := { contextual := true, maxSteps := 10000000, maxDischargeDepth := 6 }) [-Int.not_le, -Int.not_lt, -Nat.not_le, -Nat.not_lt, ty3, ty4, ty9, ty27, ty49, hm, hl, hr, k24, x24, fi24_eq, p24, k28, x28, fi28_eq, p28, E44, q44_51, e44_53, n44_6, n44_42, n44_27, (fun e6 e7 e8 T X ht6 ht7 ht8 => L44_6 f g h_f h_g st _ 0 0  e6 e7 e8 T X ht6 ht7 ht8 rfl (Nat.zero_le _) rfl), hgl]
  all_goals try simp (config := { contextual := true }) [-Int.not_le, -Int.not_lt, -Nat.not_le, -Nat.not_lt, fcovers]
  all_goals first | done | grind | omega | (trace_state; fail)
theorem k44 (f : List Pred) (g : List Pred) (h_f : POk f) (h_g : POk g) (fr : Fr) (st : St) : callStep gS (EvF gS) 44 [.slice (encPreds f), .slice (encPreds g)] fr st = some (.ok (retE none (.bool (fcovers f g))) fr st) :=
  call_pure rfl fi44_eq rfl (fun st => c44 f g h_f h_g st) (by simp)
end
end Go.Proofs.Ytclpbfkbpcjejaa
namespace Go.Proofs.Ytclpbfkbpcjejaa
open Go Go.Ab
set_option linter.unusedVariables false
set_option linter.unusedSimpArgs false
set_option linter.unnecessarySimpa false
set_option maxRecDepth 20000
noncomputable section
variable (fr : Fr) (st : St) (k : Kt)
def fi37 : FI := { body := codeOf Try.f37, ntmps := 34, results := [.tmp 2], pers := [0, 2, 3, 4, 8, 9, 10], locals := [4], pure := true, marks := [] }
theorem fi37_eq : gS.fn 37 = some fi37 := by kernel_rfl
theorem st37 (a0 : V) : startFr fi37 [a0] = { ps := [(0, .val a0), (2, .any), (3, .any), (4, .any), (8, .any), (9, .any), (10, .any)], ts := [], lc := [] } := rfl
def b37 : Code := mini (codeOf Try.f37)
def c37_6 : Code := .seq (codeN b37 37) .ret
def c37_5 : Code := .cond (.tmp 7) c37_6 .skip
def c37_3 : Code := .seq (codeN b37 9) c37_5
def r37_26 : Array Oper := regOps (codeN (codeOf Try.f37) 5323)
def c37_26 : Code := .region 6 r37_26 true
def q37_26 : List (Oper × Fl) := [(ld 15 27 4 27, ⟨true, true, true, false, true, false, true, true, false, false, []⟩),
 (cal 16 19 [(.tmp 15)] [27] 4, ⟨true, true, true, false, true, true, true, true, false, false, []⟩),
 (op1 17 (.unOp .not 4 (.tmp 16)) 4, ⟨true, true, true, false, true, false, true, true, false, false, []⟩),
 (mv 18 17 4, ⟨true, true, true, false, true, false, true, true, false, false, []⟩),
 (mk (some 19) (.move (.tmp 3)) 3 (some (3, false)), ⟨true, true, true, false, true, false, true, true, false, false, []⟩),
 (mk (some 20) (.binOp .gtr 3 (.tmp 19) (.const (.int .i64 0)) 3) 4 (some (3, false)), ⟨true, true, true, false, true, false, true, true, false, false, []⟩),
 (mk (some 21) (.move (.tmp 20)) 4 (some (3, false)), ⟨true, true, true, false, true, false, true, true, false, false, []⟩),
 (mk (some 22) (.move (.tmp 0)) 49 (some (6, true)), ⟨true, false, true, false, false, false, true, true, false, false, []⟩),
 (mk (some 23) (.move (.tmp 3)) 3 (some (6, true)), ⟨true, false, true, false, false, false, true, true, false, false, []⟩),
 (mk (some 24) (.binOp .sub 3 (.tmp 23) (.const (.int .i64 1)) 3) 3 (some (6, true)), ⟨true, false, true, false, false, false, true, true, false, false, []⟩),
 (mk (some 25) (.indexAddr 49 (.tmp 22) (.tmp 24)) 0 (some (6, true)), ⟨true, false, true, false, false, false, true, true, false, false, []⟩),
 (mk (some 26) (.fieldAddr 27 (.tmp 25) 0) 0 (some (6, true)), ⟨true, false, true, false, false, false, true, true, false, false, []⟩),
 (mk (some 27) (.load 9 (.tmp 26)) 9 (some (6, true)), ⟨true, false, true, false, false, false, true, true, false, false, []⟩),
 (mk (some 28) (.fieldAddr 27 (.tmp 4) 0) 0 (some (6, true)), ⟨true, false, true, false, true, false, true, true, false, false, []⟩),
 (mk (some 29) (.load 9 (.tmp 28)) 9 (some (6, true)), ⟨true, false, true, false, true, false, true, true, false, false, []⟩),
 (mk (some 30) (.binOp .gtr 9 (.tmp 27) (.tmp 29) 9) 4 (some (6, true)), ⟨true, false, true, false, true, false, true, true, false, false, []⟩),
 (mk (some 31) (.pick (.tmp 21) (.tmp 30) (.const (.bool false))) 4 (some (3, false)), ⟨true, false, true, false, true, false, true, true, false, false, []⟩),
 (op1 32 (.pick (.tmp 18) (.const (.bool true)) (.tmp 31)) 4, ⟨true, false, true, false, true, false, true, true, false, false, []⟩)]
def c37_28 : Code := .seq (codeN b37 19659) .ret
def c37_27 : Code := .cond (.tmp 32) c37_28 .skip
def c37_25 : Code := .seq c37_26 c37_27
def c37_23 : Code := .seq (codeN b37 2251) c37_25
def c37_32 : Code := codeN b37 971
def c37_21 : Code := .seq (.block 1 c37_23) c37_32
def c37_17 : Code := .seq (.cond (.tmp 11) .skip (.exit 0)) c37_21
def c37_15 : Code := .seq (codeN b37 139) c37_17
def c37_14 : Code := .loop c37_15
def c37_13 : Code := .block 0 c37_14
def c37_11 : Code := .seq (codeN b37 19) c37_13
def c37_33 : Code := .seq (codeN b37 23) .ret
def c37_10 : Code := .seq c37_11 c37_33
def c37_2 : Code := .seq c37_3 c37_10
def c37_0 : Code := .seq (codeN b37 2) c37_2
theorem E37 : evK gS fi37 c37_6 fr st k = opsR gS fi37 [op1 2 (.assign (.const (.bool false))) 4] fr st (.seq .ret k) ∧
 evK gS fi37 c37_5 fr st k = condK gS fi37 (fr.op (.tmp 7)).bool? c37_6 .skip fr st k ∧
 (evK gS fi37 c37_3 fr st k = opsR gS fi37 [mv 5 0 49,
 len1 6 5 49 3,
 op1 7 (.binOp .gtr 3 (.tmp 6) (.const (.int .i64 3)) 3) 4] fr st (.seq c37_5 k)) ∧
 evK gS fi37 c37_26 fr st k = drwR gS fi37 r37_26 q37_26 fr st k ∧
 evK gS fi37 c37_28 fr st k = opsR gS fi37 [op1 2 (.assign (.const (.bool false))) 4] fr st (.seq .ret k) ∧
 evK gS fi37 c37_27 fr st k = condK gS fi37 (fr.op (.tmp 32)).bool? c37_28 .skip fr st k ∧
 evK gS fi37 c37_25 fr st k = evK gS fi37 c37_26 fr st (.seq c37_27 k) ∧
 (evK gS fi37 c37_23 fr st k = opsR gS fi37 [mv 12 10 3,
 ixa 13 49 8 10 0,
 ld 14 27 13 27,
 op1 4 (.alloc 27) 0,
 asn 3 12 3,
 sto 27 4 14] fr st (.seq c37_25 k)) ∧
 (evK gS fi37 c37_32 fr st k = opsR gS fi37 [op1 33 (.binOp .add 3 (.tmp 10) (.const (.int .i64 1)) 3) 3,
 mv 10 33 3] fr st k) ∧
 evK gS fi37 c37_21 fr st k = evK gS fi37 c37_23 fr st (.blk 1 (.seq c37_32 k)) ∧
 evK gS fi37 c37_17 fr st k = condK gS fi37 (fr.op (.tmp 11)).bool? .skip (.exit 0) fr st (.seq c37_21 k) ∧
 evK gS fi37 c37_15 fr st k = opsR gS fi37 [bop 11 .lss 3 10 9 3 0] fr st (.seq c37_17 k) ∧
 evK gS fi37 c37_13 fr st k = evK gS fi37 c37_14 fr st (.blk 0 k) ∧
 (evK gS fi37 c37_11 fr st k = opsR gS fi37 [mv 8 0 49,
 len1 9 8 49 3,
 op1 10 (.move (.const (.int .i64 0))) 3] fr st (.seq c37_13 k)) ∧
 evK gS fi37 c37_33 fr st k = opsR gS fi37 [op1 2 (.assign (.const (.bool true))) 4] fr st (.seq .ret k) ∧
 evK gS fi37 c37_10 fr st k = evK gS fi37 c37_11 fr st (.seq c37_33 k) ∧
 evK gS fi37 c37_2 fr st k = evK gS fi37 c37_3 fr st (.seq c37_10 k) ∧
 evK gS fi37 c37_0 fr st k = opsR gS fi37 [op1 2 (.assign (.const (.bool false))) 4] fr st (.seq c37_2 k) := ⟨evK_rs 2 rfl (by kernel_rfl), rfl, evK_rs 1 rfl (by kernel_rfl), evK_dr 6 rfl (by kernel_rfl) (by kernel_rfl), evK_rs 7 rfl (by kernel_rfl), rfl, rfl, evK_rs 5 rfl (by kernel_rfl), evK_r 8 (by kernel_rfl), rfl, rfl, evK_rs 4 rfl (by kernel_rfl), rfl, evK_rs 3 rfl (by kernel_rfl), evK_rs 9 rfl (by kernel_rfl), rfl, rfl, evK_rs 0 rfl (by kernel_rfl)⟩
theorem m37 : mini fi37.body = c37_0 := by kernel_rfl
theorem n37_14 (fr : Fr) (st : St) (k : Kt) : nextK gS fi37 (.loop c37_15 k) .normal fr st = evK gS fi37 c37_14 fr st k := rfl
set_option maxHeartbeats 8000000 in
theorem L37_14 (f : List Pred) (h_f : POk f) (st : St) : ∀ (n i : Nat) (e3 e4 : E) (T : List (Nat × E)) (X : List (Nat × List V)) (ht3 : e3.Tame) (ht4 : e4.Tame), i ≤ f.length → f.length - i = n →
    evK gS fi37 c37_14 { ps := [(0, .val (.slice (encPreds f))), (2, .val (.bool false)), (3, e3), (4, e4), (8, .val (.slice (encPreds f))), (9, .val (.int .i64 f.length)), (10, .val (.int .i64 (i : Nat)))], ts := T, lc := X } st (.blk 0 (.seq c37_33 .nil)) = some (.ret (.bool (rises (prevN f i) (f.drop i))) none, st) := by
  intro n
  have hm : fi37.marks = [] := rfl
  have hl : fi37.locals = [4] := rfl
  have hr : fi37.results = [.tmp 2] := rfl
  have hfl := h_f.1
  induction n with
  | zero =>
    intro i e3 e4 T X ht3 ht4 hi hn
    obtain rfl : i = f.length := by omega
    refine evK_loop c37_15 _ st _ _ rfl ?_
    simp (config := { contextual := true, maxSteps := 10000000, maxDischargeDepth := 6 }) [rises_nil, ht3, ht4, -Int.not_le, -Int.not_lt, -Nat.not_le, -Nat.not_lt, ty3, ty4, ty9, ty27, ty49, hm, hl, hr, k19, x19, fi19_eq, p19, E37, q37_26, n37_14]
    all_goals first | done | grind | omega
  | succ n ih =>
    intro i e3 e4 T X ht3 ht4 hi hn
    obtain ⟨x, hx⟩ : ∃ x, f[i]? = some x := ⟨f[i]'(by omega), List.getElem?_eq_getElem (by omega)⟩
    have hd := drop_get hx
    have hlt : (i : Int) < (f.length : Int) := by omega
    have hlt2 : i < f.length := by omega
    have hxe : f[i]'hlt2 = x := by rw [List.getElem?_eq_getElem hlt2] at hx; exact Option.some.inj hx
    have hw : IntKind.wrap .i64 ((i : Int) + 1) = ((i + 1 : Nat) : Int) := by rw [wrap64 (by omega) (by omega)]; omega
    have hxo := (h_f.get hx).1
    have hxs := (h_f.get hx).2
    have IH := fun e3 e4 T X ht3 ht4 => ih (i + 1) e3 e4 T X ht3 ht4 (by omega) (by omega)
    rw [prevN_succ hx] at IH
    refine evK_loop c37_15 _ st _ _ rfl ?_
    rw [hd]
    by_cases h0 : i = 0
    · subst h0
      rw [prevN_zero, rises_none]
      simp only [Nat.zero_add, show ((1 : Nat) : Int) = 1 from rfl, List.drop_one] at IH
      cases hpr : pright x with
      | true => simp (config := { contextual := true, maxSteps := 10000000, maxDischargeDepth := 6 }) [-Int.natCast_add, w64_1, hx, hxe, hlt, hlt2, hxo, hxs, hpr, IH, ht3, ht4, -Int.not_le, -Int.not_lt, -Nat.not_le, -Nat.not_lt, ty3, ty4, ty9, ty27, ty49, hm, hl, hr, k19, x19, fi19_eq, p19, E37, q37_26, n37_14]
      | false => simp (config := { contextual := true, maxSteps := 10000000, maxDischargeDepth := 6 }) [-Int.natCast_add, hx, hxe, hlt, hlt2, hw, hxo, hxs, hpr, ht3, ht4, -Int.not_le, -Int.not_lt, -Nat.not_le, -Nat.not_lt, ty3, ty4, ty9, ty27, ty49, hm, hl, hr, k19, x19, fi19_eq, p19, E37, q37_26, n37_14]
    · obtain ⟨y, hy⟩ : ∃ y, f[i - 1]? = some y := ⟨f[i - 1]'(by omega), List.getElem?_eq_getElem (by omega)⟩
      have hyl : i - 1 < f.length := by omega
      have hye : f[i - 1]'hyl = y := by rw [List.getElem?_eq_getElem hyl] at hy; exact Option.some.inj hy
      have ha : prevN f i = some y.name := by unfold prevN; rw [if_neg h0, hy]; rfl
      have hip : (0 : Int) < (i : Int) := by omega
      have hip2 : 0 < i := by omega
      have hw1 : IntKind.wrap .i64 ((i : Int) - 1) = ((i - 1 : Nat) : Int) := by rw [wrap64 (by omega) (by omega)]; omega
      rw [ha, rises_some]
      cases hpr : pright x with
      | false => simp (config := { contextual := true, maxSteps := 10000000, maxDischargeDepth := 6 }) [-Int.natCast_add, hx, hxe, hlt, hlt2, hw, hxo, hxs, hpr, ht3, ht4, -Int.not_le, -Int.not_lt, -Nat.not_le, -Nat.not_lt, ty3, ty4, ty9, ty27, ty49, hm, hl, hr, k19, x19, fi19_eq, p19, E37, q37_26, n37_14]
      | true =>
        have hsg : (!(Op.bytesLess y.name x.name || decide (y.name = x.name))) = sgt y.name x.name := rfl
        cases hsq : sgt y.name x.name with
        | true =>
          rw [hsq] at hsg
          simp (config := { contextual := true, maxSteps := 10000000, maxDischargeDepth := 6 }) [-Int.natCast_add, -Bool.not_or, hx, hxe, hlt, hlt2, hw, hw1, hip, hip2, hy, hyl, hye, hxo, hxs, hpr, hsg, ht3, ht4, -Int.not_le, -Int.not_lt, -Nat.not_le, -Nat.not_lt, ty3, ty4, ty9, ty27, ty49, hm, hl, hr, k19, x19, fi19_eq, p19, E37, q37_26, n37_14]
        | false =>
          rw [hsq] at hsg
          simp (config := { contextual := true, maxSteps := 10000000, maxDischargeDepth := 6 }) [-Int.natCast_add, -Bool.not_or, hx, hxe, hlt, hlt2, hw, hw1, hip, hip2, hy, hyl, hye, hxo, hxs, hpr, hsg, IH, ht3, ht4, -Int.not_le, -Int.not_lt, -Nat.not_le, -Nat.not_lt, ty3, ty4, ty9, ty27, ty49, hm, hl, hr, k19, x19, fi19_eq, p19, E37, q37_26, n37_14]
def fi38 : FI := { body := codeOf Try.f38, ntmps := 37, results := [.tmp 2], pers := [0, 2, 3], locals := [], pure := true, marks := [] }
theorem fi38_eq : gS.fn 38 = some fi38 := by kernel_rfl
theorem st38 (a0 : V) : startFr fi38 [a0] = { ps := [(0, .val a0), (2, .any), (3, .any)], ts := [], lc := [] } := rfl
def b38 : Code := mini (codeOf Try.f38)
def c38_10 : Code := .cond (.tmp 7) .skip (.exit 0)
def c38_8 : Code := .seq (codeN b38 133) c38_10
def r38_16 : Array Oper := regOps (codeN (codeOf Try.f38) 549)
def c38_16 : Code := .region 4 r38_16 true
def q38_16 : List (Oper × Fl) := [(mv 10 0 49, ⟨true, false, true, false, false, false, true, true, false, false, []⟩),
 (mv 11 3 3, ⟨true, false, true, false, false, false, true, true, false, false, []⟩),
 (ixa 12 49 10 11 0, ⟨true, false, true, false, false, false, true, true, false, false, []⟩),
 (ld 13 27 12 27, ⟨true, true, true, false, true, false, true, true, false, false, []⟩),
 (cal 14 20 [(.tmp 13)] [27] 4, ⟨true, true, true, false, true, true, true, true, false, false, []⟩),
 (op1 15 (.unOp .not 4 (.tmp 14)) 4, ⟨true, true, true, false, true, false, true, true, false, false, []⟩),
 (mv 16 15 4, ⟨true, true, true, false, true, false, true, true, false, false, []⟩),
 (mk (some 17) (.move (.tmp 3)) 3 (some (6, false)), ⟨true, false, true, false, true, false, true, true, false, false, []⟩),
 (mk (some 18) (.binOp .gtr 3 (.tmp 17) (.const (.int .i64 0)) 3) 4 (some (6, false)), ⟨true, false, true, false, true, false, true, true, false, false, []⟩),
 (mk (some 19) (.move (.tmp 18)) 4 (some (6, false)), ⟨true, false, true, false, true, false, true, true, false, false, []⟩),
 (mk (some 20) (.move (.tmp 0)) 49 (some (9, true)), ⟨true, false, true, false, false, false, true, true, false, false, []⟩),
 (mk (some 21) (.move (.tmp 3)) 3 (some (9, true)), ⟨true, false, true, false, false, false, true, true, false, false, []⟩),
 (mk (some 22) (.binOp .sub 3 (.tmp 21) (.const (.int .i64 1)) 3) 3 (some (9, true)), ⟨true, false, true, false, false, false, true, true, false, false, []⟩),
 (mk (some 23) (.indexAddr 49 (.tmp 20) (.tmp 22)) 0 (some (9, true)), ⟨true, false, true, false, false, false, true, true, false, false, []⟩),
 (mk (some 24) (.fieldAddr 27 (.tmp 23) 0) 0 (some (9, true)), ⟨true, false, true, false, false, false, true, true, false, false, []⟩),
 (mk (some 25) (.load 9 (.tmp 24)) 9 (some (9, true)), ⟨true, false, true, false, false, false, true, true, false, false, []⟩),
 (mk (some 26) (.move (.tmp 0)) 49 (some (9, true)), ⟨true, false, true, false, false, false, true, true, false, false, []⟩),
 (mk (some 27) (.move (.tmp 3)) 3 (some (9, true)), ⟨true, false, true, false, false, false, true, true, false, false, []⟩),
 (mk (some 28) (.indexAddr 49 (.tmp 26) (.tmp 27)) 0 (some (9, true)), ⟨true, false, true, false, false, false, true, true, false, false, []⟩),
 (mk (some 29) (.fieldAddr 27 (.tmp 28) 0) 0 (some (9, true)), ⟨true, false, true, false, true, false, true, true, false, false, []⟩),
 (mk (some 30) (.load 9 (.tmp 29)) 9 (some (9, true)), ⟨true, false, true, false, true, false, true, true, false, false, []⟩),
 (mk (some 31) (.binOp .gtr 9 (.tmp 25) (.tmp 30) 9) 4 (some (9, true)), ⟨true, false, true, false, true, false, true, true, false, false, []⟩),
 (mk (some 32) (.pick (.tmp 19) (.tmp 31) (.const (.bool false))) 4 (some (6, false)), ⟨true, false, true, false, true, false, true, true, false, false, []⟩),
 (op1 33 (.pick (.tmp 16) (.const (.bool true)) (.tmp 32)) 4, ⟨true, false, true, false, true, false, true, true, false, false, []⟩)]
def c38_18 : Code := .seq (codeN b38 2341) .ret
def c38_17 : Code := .cond (.tmp 33) c38_18 .skip
def c38_15 : Code := .seq c38_16 c38_17
def c38_22 : Code := codeN b38 229
def c38_13 : Code := .seq (.block 1 c38_15) c38_22
def c38_7 : Code := .seq c38_8 c38_13
def c38_6 : Code := .loop c38_7
def c38_5 : Code := .block 0 c38_6
def c38_3 : Code := .seq (codeN b38 9) c38_5
def c38_23 : Code := .seq (codeN b38 11) .ret
def c38_2 : Code := .seq c38_3 c38_23
def c38_0 : Code := .seq (codeN b38 2) c38_2
theorem E38 : evK gS fi38 c38_10 fr st k = condK gS fi38 (fr.op (.tmp 7)).bool? .skip (.exit 0) fr st k ∧
 (evK gS fi38 c38_8 fr st k = opsR gS fi38 [mv 4 3 3,
 mv 5 0 49,
 len1 6 5 49 3,
 bop 7 .lss 3 4 6 3 4] fr st (.seq c38_10 k)) ∧
 evK gS fi38 c38_16 fr st k = drwR gS fi38 r38_16 q38_16 fr st k ∧
 evK gS fi38 c38_18 fr st k = opsR gS fi38 [op1 2 (.assign (.const (.bool false))) 4] fr st (.seq .ret k) ∧
 evK gS fi38 c38_17 fr st k = condK gS fi38 (fr.op (.tmp 33)).bool? c38_18 .skip fr st k ∧
 evK gS fi38 c38_15 fr st k = evK gS fi38 c38_16 fr st (.seq c38_17 k) ∧
 (evK gS fi38 c38_22 fr st k = opsR gS fi38 [mv 8 3 3,
 op1 9 (.binOp .add 3 (.tmp 8) (.const (.int .i64 1)) 3) 3,
 asn 3 9 3] fr st k) ∧
 evK gS fi38 c38_13 fr st k = evK gS fi38 c38_15 fr st (.blk 1 (.seq c38_22 k)) ∧
 evK gS fi38 c38_7 fr st k = evK gS fi38 c38_8 fr st (.seq c38_13 k) ∧
 evK gS fi38 c38_5 fr st k = evK gS fi38 c38_6 fr st (.blk 0 k) ∧
 evK gS fi38 c38_3 fr st k = opsR gS fi38 [op1 3 (.assign (.const (.int .i64 0))) 3] fr st (.seq c38_5 k) ∧
 (evK gS fi38 c38_23 fr st k = opsR gS fi38 [mv 34 0 49,
 len1 35 34 49 3,
 op1 36 (.binOp .leq 3 (.tmp 35) (.const (.int .i64 3)) 3) 4,
 asn 2 36 4] fr st (.seq .ret k)) ∧
 evK gS fi38 c38_2 fr st k = evK gS fi38 c38_3 fr st (.seq c38_23 k) ∧
 evK gS fi38 c38_0 fr st k = opsR gS fi38 [op1 2 (.assign (.const (.bool false))) 4] fr st (.seq c38_2 k) := ⟨rfl, evK_rs 2 rfl (by kernel_rfl), evK_dr 4 rfl (by kernel_rfl) (by kernel_rfl), evK_rs 5 rfl (by kernel_rfl), rfl, rfl, evK_r 3 (by kernel_rfl), rfl, rfl, rfl, evK_rs 1 rfl (by kernel_rfl), evK_rs 6 rfl (by kernel_rfl), rfl, evK_rs 0 rfl (by kernel_rfl)⟩
theorem m38 : mini fi38.body = c38_0 := by kernel_rfl
theorem n38_6 (fr : Fr) (st : St) (k : Kt) : nextK gS fi38 (.loop c38_7 k) .normal fr st = evK gS fi38 c38_6 fr st k := rfl
set_option maxHeartbeats 8000000 in
theorem L38_6 (f : List Pred) (h_f : POk f) (st : St) : ∀ (n i : Nat) (T : List (Nat × E)) (X : List (Nat × List V)) , i ≤ f.length → f.length - i = n →
    evK gS fi38 c38_6 { ps := [(0, .val (.slice (encPreds f))), (2, .val (.bool false)), (3, .val (.int .i64 (i : Nat)))], ts := T, lc := X } st (.blk 0 (.seq c38_23 .nil)) = some (.ret (.bool (rises (prevN f i) (f.drop i) && decide (f.length ≤ 3))) none, st) := by
  intro n
  have hm : fi38.marks = [] := rfl
  have hl : fi38.locals = [] := rfl
  have hr : fi38.results = [.tmp 2] := rfl
  have hfl := h_f.1
  induction n with
  | zero =>
    intro i  T X  hi hn
    obtain rfl : i = f.length := by omega
    refine evK_loop c38_7 _ st _ _ rfl ?_
    simp (config := { contextual := true, maxSteps := 10000000, maxDischargeDepth := 6 }) [rises_nil,  -Int.not_le, -Int.not_lt, -Nat.not_le, -Nat.not_lt, ty3, ty4, ty9, ty27, ty49, hm, hl, hr, k20, x20, fi20_eq, p20, E38, q38_16, n38_6]
    all_goals first | done | grind | omega
  | succ n ih =>
    intro i  T X  hi hn
    obtain ⟨x, hx⟩ : ∃ x, f[i]? = some x := ⟨f[i]'(by omega), List.getElem?_eq_getElem (by omega)⟩
    have hd := drop_get hx
    have hlt : (i : Int) < (f.length : Int) := by omega
    have hlt2 : i < f.length := by omega
    have hxe : f[i]'hlt2 = x := by rw [List.getElem?_eq_getElem hlt2] at hx; exact Option.some.inj hx
    have hw : IntKind.wrap .i64 ((i : Int) + 1) = ((i + 1 : Nat) : Int) := by rw [wrap64 (by omega) (by omega)]; omega
    have hxo := (h_f.get hx).1
    have hxs := (h_f.get hx).2
    have IH := fun  T X  => ih (i + 1)  T X  (by omega) (by omega)
    rw [prevN_succ hx] at IH
    refine evK_loop c38_7 _ st _ _ rfl ?_
    rw [hd]
    by_cases h0 : i = 0
    · subst h0
      rw [prevN_zero, rises_none]
      simp only [Nat.zero_add, show ((1 : Nat) : Int) = 1 from rfl, List.drop_one] at IH
      cases hpr : pright x with
      | true => simp (config := { contextual := true, maxSteps := 10000000, maxDischargeDepth := 6 }) [-Int.natCast_add, w64_1, hx, hxe, hlt, hlt2, hxo, hxs, hpr, IH,  -Int.not_le, -Int.not_lt, -Nat.not_le, -Nat.not_lt, ty3, ty4, ty9, ty27, ty49, hm, hl, hr, k20, x20, fi20_eq, p20, E38, q38_16, n38_6]
      | false => simp (config := { contextual := true, maxSteps := 10000000, maxDischargeDepth := 6 }) [-Int.natCast_add, hx, hxe, hlt, hlt2, hw, hxo, hxs, hpr,  -Int.not_le, -Int.not_lt, -Nat.not_le, -Nat.not_lt, ty3, ty4, ty9, ty27, ty49, hm, hl, hr, k20, x20, fi20_eq, p20, E38, q38_16, n38_6]
    · obtain ⟨y, hy⟩ : ∃ y, f[i - 1]? = some y := ⟨f[i - 1]'(by omega), List.getElem?_eq_getElem (by omega)⟩
      have hyl : i - 1 < f.length := by omega
      have hye : f[i - 1]'hyl = y := by rw [List.getElem?_eq_getElem hyl] at hy; exact Option.some.inj hy
      have ha : prevN f i = some y.name := by unfold prevN; rw [if_neg h0, hy]; rfl
      have hip : (0 : Int) < (i : Int) := by omega
      have hip2 : 0 < i := by omega
      have hw1 : IntKind.wrap .i64 ((i : Int) - 1) = ((i - 1 : Nat) : Int) := by rw [wrap64 (by omega) (by omega)]; omega
      rw [ha, rises_some]
      cases hpr : pright x with
      | false => simp (config := { contextual := true, maxSteps := 10000000, maxDischargeDepth := 6 }) [-Int.natCast_add, hx, hxe, hlt, hlt2, hw, hxo, hxs, hpr,  -Int.not_le, -Int.not_lt, -Nat.not_le, -Nat.not_lt, ty3, ty4, ty9, ty27, ty49, hm, hl, hr, k20, x20, fi20_eq, p20, E38, q38_16, n38_6]
      | true =>
        have hsg : (!(Op.bytesLess y.name x.name || decide (y.name = x.name))) = sgt y.name x.name := rfl
        cases hsq : sgt y.name x.name with
        | true =>
          rw [hsq] at hsg
          simp (config := { contextual := true, maxSteps := 10000000, maxDischargeDepth := 6 }) [-Int.natCast_add, -Bool.not_or, hx, hxe, hlt, hlt2, hw, hw1, hip, hip2, hy, hyl, hye, hxo, hxs, hpr, hsg,  -Int.not_le, -Int.not_lt, -Nat.not_le, -Nat.not_lt, ty3, ty4, ty9, ty27, ty49, hm, hl, hr, k20, x20, fi20_eq, p20, E38, q38_16, n38_6]
        | false =>
          rw [hsq] at hsg
          simp (config := { contextual := true, maxSteps := 10000000, maxDischargeDepth := 6 }) [-Int.natCast_add, -Bool.not_or, hx, hxe, hlt, hlt2, hw, hw1, hip, hip2, hy, hyl, hye, hxo, hxs, hpr, hsg, IH,  -Int.not_le, -Int.not_lt, -Nat.not_le, -Nat.not_lt, ty3, ty4, ty9, ty27, ty49, hm, hl, hr, k20, x20, fi20_eq, p20, E38, q38_16, n38_6]
set_option maxHeartbeats 4000000 in
theorem c37 (f : List Pred) (h_f : POk f) (st : St) : EvF gS 37 [.slice (encPreds f)] st = some (.ret (.bool (fright f)) none, st) := by
  refine EvF_start fi37_eq (fun x h => by cases h) m37 ?_
  rw [st37]
  have hm : fi37.marks = [] := rfl
  have hl : fi37.locals = [4] := rfl
  have hr : fi37.results = [.tmp 2] := rfl
  have hfl := h_f.1
  have L0 := fun e3 e4 T X ht3 ht4 => L37_14 f h_f st f.length 0 e3 e4 T X ht3 ht4 (Nat.zero_le _) rfl
  simp only [show ((0 : Nat) : Int) = 0 from rfl, List.drop_zero, prevN_zero] at L0
  simp (config := { contextual := true, maxSteps := 10000000, maxDischargeDepth := 6 }) [-Int.not_le, -Int.not_lt, -Nat.not_le, -Nat.not_lt, ty3, ty4, ty9, ty27, ty49, hm, hl, hr, k19, x19, fi19_eq, p19, E37, q37_26, n37_14, L0, hfl]
  all_goals try simp (config := { contextual := true }) [-Int.not_le, -Int.not_lt, -Nat.not_le, -Nat.not_lt, fright]
  all_goals first | done | grind | (unfold fright; grind)
theorem k37 (f : List Pred) (h_f : POk f) (fr : Fr) (st : St) : callStep gS (EvF gS) 37 [.slice (encPreds f)] fr st = some (.ok (retE none (.bool (fright f))) fr st) :=
  call_pure rfl fi37_eq rfl (fun st => c37 f h_f st) (by simp)
set_option maxHeartbeats 4000000 in
theorem c38 (f : List Pred) (h_f : POk f) (st : St) : EvF gS 38 [.slice (encPreds f)] st = some (.ret (.bool (fright f)) none, st) := by
  refine EvF_start fi38_eq (fun x h => by cases h) m38 ?_
  rw [st38]
  have hm : fi38.marks = [] := rfl
  have hl : fi38.locals = [] := rfl
  have hr : fi38.results = [.tmp 2] := rfl
  have hfl := h_f.1
  have L0 := fun  T X  => L38_6 f h_f st f.length 0  T X  (Nat.zero_le _) rfl
  simp only [show ((0 : Nat) : Int) = 0 from rfl, List.drop_zero, prevN_zero] at L0
  simp (config := { contextual := true, maxSteps := 10000000, maxDischargeDepth := 6 }) [-Int.not_le, -Int.not_lt, -Nat.not_le, -Nat.not_lt, ty3, ty4, ty9, ty27, ty49, hm, hl, hr, k20, x20, fi20_eq, p20, E38, q38_16, n38_6, L0, hfl]
  all_goals try simp (config := { contextual := true }) [-Int.not_le, -Int.not_lt, -Nat.not_le, -Nat.not_lt, fright]
  all_goals first | done | grind | (unfold fright; grind)
theorem k38 (f : List Pred) (h_f : POk f) (fr : Fr) (st : St) : callStep gS (EvF gS) 38 [.slice (encPreds f)] fr st = some (.ok (retE none (.bool (fright f))) fr st) :=
  call_pure rfl fi38_eq rfl (fun st => c38 f h_f st) (by simp)
end
end Go.Proofs.Ytclpbfkbpcjejaa
namespace Go.Ab
open Go
set_option linter.unusedVariables false
set_option linter.unusedSimpArgs false
set_option linter.unnecessarySimpa false
/-- A state with one new object, nothing else said of it. -/
theorem nw_obj (st : St) (m : Nat) (cs : List V) : St.obj (nw st m cs) (st.objs.length + m) = some cs := gr_obj st m cs
theorem nw_set {st : St} (h : st.wp ≤ st.objs.length) (m : Nat) (cs cs' : List V) : St.set (nw st m cs) (st.objs.length + m) cs' = some (nw st m cs') := by
  unfold St.set
  rw [if_pos (by rw [gr_wp]; omega)]
  unfold nw
  simp only [Option.some.injEq, St.mk.injEq, and_true]
  rw [List.set_append_right _ _ (by omega), Nat.add_sub_cancel_left, List.set_append_right _ _ (by simp), List.length_replicate, Nat.sub_self]
  rfl
theorem nw_dead (st : St) (m : Nat) : nw st m [] = dd st (m + 1) := by
  unfold nw dd
  rw [List.replicate_succ']
theorem nw_kill {st : St} (h : st.wp ≤ st.objs.length) (m : Nat) (cs : List V) : St.set (nw st m cs) (st.objs.length + m) [] = some (dd st (m + 1)) := by
  rw [nw_set h, nw_dead]
theorem newRef_dd' (st : St) (fr : Fr) (m k len : Nat) (cs : List V) : newRef fr (dd st m) k len cs = .ok (.val (.sref false k (st.objs.length + m) 0 len)) fr (nw st m cs) := by
  unfold newRef
  rw [dd_len]
  unfold nw dd
  simp
theorem newRef_0 (st : St) (fr : Fr) (k len : Nat) (cs : List V) : newRef fr st k len cs = .ok (.val (.sref false k st.objs.length 0 len)) fr (nw st 0 cs) := by
  unfold newRef nw
  simp
variable {α : Type}
theorem row_len (c : α → List V) (k : Nat) (hc : ∀ x, (c x).length = k) : ∀ l : List α, (l.flatMap c).length = l.length * k
  | [] => by simp
  | x :: r => by rw [List.flatMap_cons, List.length_append, hc, row_len c k hc r, List.length_cons, Nat.succ_mul]; omega
theorem row_get (c : α → List V) (k : Nat) (hc : ∀ x, (c x).length = k) {l : List α} {i j : Nat} {x : α} (hx : l[i]? = some x) (hj : j < k) : (l.flatMap c)[i * k + j]? = (c x)[j]? := by
  have hs : l = l.take i ++ x :: l.drop (i + 1) := by
    have h1 := List.take_append_drop i l
    rw [drop_get hx] at h1
    exact h1.symm
  have hl : (l.take i).length = i := by
    have := (List.getElem?_eq_some_iff.1 hx).1
    simp; omega
  rw [hs, List.flatMap_append, List.getElem?_append_right (by rw [row_len c k hc, hl]; omega), row_len c k hc, hl, Nat.add_sub_cancel_left, List.flatMap_cons, List.getElem?_append_left (by rw [hc]; exact hj)]
/-- One place of one of them. -/
theorem row_splice (c : α → List V) (k : Nat) (hc : ∀ x, (c x).length = k) {l : List α} {i j : Nat} {x y : α} {vs : List V} (hx : l[i]? = some x) (hs : splice (c x) j vs = some (c y)) :
    splice (l.flatMap c) (i * k + j) vs = some ((l.set i y).flatMap c) := by
  have hil := (List.getElem?_eq_some_iff.1 hx).1
  have hsl : l = l.take i ++ x :: l.drop (i + 1) := by
    have h1 := List.take_append_drop i l
    rw [drop_get hx] at h1
    exact h1.symm
  have hl : (l.take i).length = i := by simp; omega
  have hset : l.set i y = l.take i ++ y :: l.drop (i + 1) := by
    conv => lhs; rw [hsl]
    rw [List.set_append_right _ _ (by rw [hl]; omega), hl, Nat.sub_self]
    rfl
  have hA : ((l.take i).flatMap c).length = i * k := by rw [row_len c k hc, hl]
  unfold splice at hs ⊢
  split at hs
  · rename_i hle
    have hs' := Option.some.inj hs
    rw [hc] at hle
    rw [hset, List.flatMap_append, List.flatMap_cons, ← hs']
    conv => lhs; rw [hsl]
    rw [List.flatMap_append, List.flatMap_cons]
    generalize (l.take i).flatMap c = A at hA ⊢
    generalize (l.drop (i + 1)).flatMap c = C
    have hB := hc x
    generalize c x = B at hB hs' ⊢
    rw [if_pos (by simp only [List.length_append]; omega)]
    congr 1
    rw [← hA, List.take_append, List.take_of_length_le (by omega), Nat.add_sub_cancel_left, List.take_append_of_le_length (by omega), List.drop_append, List.drop_of_length_le (by omega), show A.length + j + vs.length - A.length = j + vs.length by omega, List.drop_append_of_le_length (by omega)]
    simp [List.append_assoc]
  · cases hs
theorem row_one (c : α → List V) (hc : ∀ x, (c x).all V.one = true) : ∀ l : List α, (l.flatMap c).all V.one = true
  | [] => rfl
  | x :: r => by rw [List.flatMap_cons, List.all_append, hc x, row_one c hc r]; rfl
theorem flats_append : ∀ (a b : List V), flats (a ++ b) = (flats a && flats b)
  | [], _ => by simp [flats]
  | v :: a, b => by simp only [List.cons_append, flats, flats_append a b, Bool.and_assoc]
theorem row_flats (c : α → List V) (hc : ∀ x, flats (c x) = true) : ∀ l : List α, flats (l.flatMap c) = true
  | [] => rfl
  | x :: r => by rw [List.flatMap_cons, flats_append, hc x, row_flats c hc r]; rfl
theorem row_strip (c d : α → List V) (hc : ∀ x, (c x).map V.strip1 = d x) : ∀ l : List α, (l.flatMap c).map V.strip1 = l.flatMap d
  | [] => rfl
  | x :: r => by rw [List.flatMap_cons, List.map_append, hc x, row_strip c d hc r, List.flatMap_cons]
/-- A row of elements is given up. -/
theorem frz_row {st st1 : St} (n id k : Nat) (hk : 0 < k) (c d : α → List V) (hc : ∀ x, (c x).length = k) (hd : ∀ x, (d x).length = k) (hcd : ∀ x, (c x).map V.strip1 = d x) (h1 : ∀ x, (d x).all V.one = true) (hf : ∀ x, flats (d x) = true)
    (l : List α) (hl : l ≠ []) (ho : St.obj st id = some (l.flatMap c)) (hs : St.set st id [] = some st1) : frz (n + 1) st (.sref false k id 0 l.length) = some (.slice (chunk (Nat.blt 1 k) k l.length (l.flatMap d)), st1) := by
  have hne : ¬ l.length = 0 := by simpa using hl
  unfold frz
  simp only [hne, if_false, ho, hs, row_len c k hc, List.drop_zero, Nat.zero_add, Nat.le_refl, and_true, hk, if_true]
  rw [List.take_of_length_le (by rw [row_len c k hc]; omega), row_strip c d hcd, frzL_flat _ _ _ (row_flats d hf l)]
  simp only [row_len d k hd, row_one d h1 l, and_self, if_true]
/-- A test's cells, its values in room of their own. -/
def Pred.cellsO (q : Pred × Bool) : List V := [.str q.1.name, .int .i64 q.1.test, .int .i64 q.1.v.kind, .int .i64 q.1.v.n, .float .f64 q.1.v.x, .str q.1.v.s, .bool q.1.v.b, .int .i64 q.1.w.kind, .int .i64 q.1.w.n, .float .f64 q.1.w.x, .str q.1.w.s, .bool q.1.w.b, if q.2 then .osl 5 (encVals q.1.set) else .slice (encVals q.1.set)]
theorem cellsO_len (q : Pred × Bool) : (Pred.cellsO q).length = 13 := rfl
theorem cells_len (q : Pred × Bool) : (Pred.cells q.1).length = 13 := rfl
theorem cellsO_strip (q : Pred × Bool) : (Pred.cellsO q).map V.strip1 = Pred.cells q.1 := by
  obtain ⟨p, b⟩ := q
  cases b <;> rfl
theorem cells_one (q : Pred × Bool) : (Pred.cells q.1).all V.one = true := rfl
theorem cells_flats (q : Pred × Bool) : flats (Pred.cells q.1) = true := by simp [flats, V.flat]
theorem chunk_preds : ∀ (l : List (Pred × Bool)), chunk true 13 l.length (l.flatMap fun q => Pred.cells q.1) = encPreds (l.map (·.1))
  | [] => rfl
  | x :: r => by
    rw [List.length_cons, chunk, List.flatMap_cons, List.take_left' (cells_len x), List.drop_left' (cells_len x), chunk_preds r]; rfl
/-- A call of a function of plain values, whatever it lays aside. -/
theorem call_pure' {g : G} {f : Nat} {args : List V} {fr : Fr} {st : St} {fi : FI} {v : V} {k : Option Nat} (hx : g.ext f = none) (hf : g.fn f = some fi) (hp : fi.pure = true) (ha : flats args = true)
    (h : ∃ st', EvF g f args ⟨[], 0⟩ = some (.ret v k, st')) (hv : v.flat = true) : callStep g (EvF g) f args fr st = some (.ok (retE k v) fr st) := by
  obtain ⟨st', h⟩ := h
  unfold callStep
  simp only [hx, hf, hp, if_true, ha, h, hv]
end Go.Ab
namespace Go.Proofs.Ytclpbfkbpcjejaa
open Go Go.Ab
set_option linter.unusedVariables false
set_option linter.unusedSimpArgs false
set_option linter.unnecessarySimpa false
set_option maxRecDepth 20000
noncomputable section
variable (fr : Fr) (st : St) (k : Kt)
def fi45 : FI := { body := codeOf Try.f45, ntmps := 24, results := [.tmp 2], pers := [0, 2, 3, 4, 8, 9], locals := [], pure := true, marks := [6, 1000000] }
theorem fi45_eq : gS.fn 45 = some fi45 := by kernel_rfl
theorem st45 (a0 : V) : startFr fi45 [a0] = { ps := [(0, .val a0), (2, .any), (3, .any), (4, .any), (8, .any), (9, .any)], ts := [], lc := [] } := rfl
def b45 : Code := mini (codeOf Try.f45)
def c45_19 : Code := codeN b45 3275
def c45_17 : Code := .seq (codeN b45 2251) c45_19
def c45_20 : Code := codeN b45 971
def c45_15 : Code := .seq (.block 1 c45_17) c45_20
def c45_11 : Code := .seq (.cond (.tmp 10) .skip (.exit 0)) c45_15
def c45_9 : Code := .seq (codeN b45 139) c45_11
def c45_8 : Code := .loop c45_9
def c45_7 : Code := .block 0 c45_8
def c45_5 : Code := .seq (codeN b45 19) c45_7
def c45_21 : Code := .seq (codeN b45 23) .ret
def c45_4 : Code := .seq c45_5 c45_21
def c45_2 : Code := .seq (codeN b45 5) c45_4
def c45_0 : Code := .seq (codeN b45 2) c45_2
theorem E45 : (evK gS fi45 c45_19 fr st k = opsR gS fi45 [mv 12 3 49,
 mv 13 4 3,
 mv 14 3 49,
 mv 15 4 3,
 ixa 16 49 14 15 0,
 op1 17 (.fieldAddr 27 (.tmp 16) 4) 0,
 ld 18 25 17 25,
 op1 19 (.call { callee := (.builtin .append), args := #[(.const (.slice none 0 0)), (.tmp 18)], argTypes := #[25, 25] }) 25,
 ixa 20 49 12 13 0,
 op1 21 (.fieldAddr 27 (.tmp 20) 4) 0,
 sto 25 21 19] fr st k) ∧
 (evK gS fi45 c45_17 fr st k = opsR gS fi45 [mv 11 9 3,
 asn 4 11 3] fr st (.seq c45_19 k)) ∧
 (evK gS fi45 c45_20 fr st k = opsR gS fi45 [op1 22 (.binOp .add 3 (.tmp 9) (.const (.int .i64 1)) 3) 3,
 mv 9 22 3] fr st k) ∧
 evK gS fi45 c45_15 fr st k = evK gS fi45 c45_17 fr st (.blk 1 (.seq c45_20 k)) ∧
 evK gS fi45 c45_11 fr st k = condK gS fi45 (fr.op (.tmp 10)).bool? .skip (.exit 0) fr st (.seq c45_15 k) ∧
 evK gS fi45 c45_9 fr st k = opsR gS fi45 [bop 10 .lss 3 9 8 3 0] fr st (.seq c45_11 k) ∧
 evK gS fi45 c45_7 fr st k = evK gS fi45 c45_8 fr st (.blk 0 k) ∧
 (evK gS fi45 c45_5 fr st k = opsR gS fi45 [mv 7 3 49,
 len1 8 7 49 3,
 op1 9 (.move (.const (.int .i64 0))) 3] fr st (.seq c45_7 k)) ∧
 (evK gS fi45 c45_21 fr st k = opsR gS fi45 [mv 23 3 49,
 asn 2 23 49] fr st (.seq .ret k)) ∧
 evK gS fi45 c45_4 fr st k = evK gS fi45 c45_5 fr st (.seq c45_21 k) ∧
 (evK gS fi45 c45_2 fr st k = opsR gS fi45 [mv 5 0 49,
 op1 6 (.call { callee := (.builtin .append), args := #[(.const (.slice none 0 0)), (.tmp 5)], argTypes := #[49, 49] }) 49,
 asn 3 6 49] fr st (.seq c45_4 k)) ∧
 evK gS fi45 c45_0 fr st k = opsR gS fi45 [op1 2 (.assign (.const (.slice none 0 0))) 49] fr st (.seq c45_2 k) := ⟨evK_r 5 (by kernel_rfl), evK_rs 4 rfl (by kernel_rfl), evK_r 6 (by kernel_rfl), rfl, rfl, evK_rs 3 rfl (by kernel_rfl), rfl, evK_rs 2 rfl (by kernel_rfl), evK_rs 7 rfl (by kernel_rfl), rfl, evK_rs 1 rfl (by kernel_rfl), evK_rs 0 rfl (by kernel_rfl)⟩
theorem m45 : mini fi45.body = c45_0 := by kernel_rfl
theorem n45_8 (fr : Fr) (st : St) (k : Kt) : nextK gS fi45 (.loop c45_9 k) .normal fr st = evK gS fi45 c45_8 fr st k := rfl
theorem preds_cells (f : List Pred) : (encPreds f).flatMap V.cells = (f.map fun p => (p, false)).flatMap Pred.cellsO := by
  induction f with
  | nil => rfl
  | cons x r ih => simp only [encPreds, List.map_cons, List.flatMap_cons] at ih ⊢; rw [ih]; rfl
theorem map_fst (f : List Pred) : (f.map fun p => (p, false)).map (·.1) = f := by induction f with
  | nil => rfl
  | cons x r ih => simp only [List.map_cons, ih]
theorem sizes_vals (l : List Val) : sizesOk 5 (encVals l) = true := by
  induction l with
  | nil => rfl
  | cons x r ih => simp only [encVals, List.map_cons, sizesOk] at ih ⊢; rw [ih]; rfl
theorem sizes_preds (l : List Pred) : sizesOk 13 (encPreds l) = true := by
  induction l with
  | nil => rfl
  | cons x r ih => simp only [encPreds, List.map_cons, sizesOk] at ih ⊢; rw [ih]; rfl
/-- Of a size that may be copied. -/
def PSm (f : List Pred) : Prop := f.length ≤ 1000000 ∧ ∀ p ∈ f, p.name.length < 4611686018427387904 ∧ p.set.length * 48 ≤ 140737488355328
theorem PSm.ok {f : List Pred} (h : PSm f) : POk f := ⟨by have := h.1; omega, fun p hp => ⟨(h.2 p hp).1, by have := (h.2 p hp).2; omega⟩⟩
set_option maxHeartbeats 8000000 in
theorem L45_8 (f : List Pred) (h_f : PSm f) (hne : f ≠ []) (st : St) (hst : st.wp ≤ st.objs.length) : ∀ (n i : Nat) (l : List (Pred × Bool)) (e0 e4 : E) (T : List (Nat × E)) (X : List (Nat × List V)) (ht0 : e0.Tame) (ht4 : e4.Tame), l.map (·.1) = f → i ≤ f.length → f.length - i = n →
    evK gS fi45 c45_8 { ps := [(0, e0), (2, .own 0 []), (3, .val (.sref false 13 st.objs.length 0 f.length)), (4, e4), (8, .val (.int .i64 f.length)), (9, .val (.int .i64 i))], ts := T, lc := X } (nw st 0 (l.flatMap Pred.cellsO)) (.blk 0 (.seq c45_21 .nil)) = some (.ret (.slice (encPreds f)) none, dd st 1) := by
  intro n
  have hm : fi45.marks = [6, 1000000] := rfl
  have hl : fi45.locals = [] := rfl
  have hr : fi45.results = [.tmp 2] := rfl
  have hfl := h_f.1
  induction n with
  | zero =>
    intro i l e0 e4 T X ht0 ht4 hl hi hn
    obtain rfl : i = f.length := by omega
    have hll : l.length = f.length := by rw [← hl]; simp
    have hfz := frz_row (st := nw st 0 (l.flatMap Pred.cellsO)) 5 st.objs.length 13 (by omega) Pred.cellsO (fun q => Pred.cells q.1) cellsO_len cells_len cellsO_strip cells_one cells_flats l (by intro e; subst e; exact hne hl.symm) (nw_obj st 0 _) (nw_kill hst 0 _)
    rw [hll, show Nat.blt 1 13 = true from rfl, ← hll, chunk_preds, hl, hll] at hfz
    refine evK_loop c45_9 _ _ _ _ rfl ?_
    simp [ht0, ht4, hfz, -Int.not_le, -Int.not_lt, -Nat.not_le, -Nat.not_lt, ty3, ty25, ty27, ty49, hm, hl, hr, E45, n45_8]
  | succ n ih =>
    intro i l e0 e4 T X ht0 ht4 hl hi hn
    have hll : l.length = f.length := by rw [← hl]; simp
    obtain ⟨q, hq⟩ : ∃ q, l[i]? = some q := ⟨l[i]'(by omega), List.getElem?_eq_getElem (by omega)⟩
    have hlt : (i : Int) < (f.length : Int) := by omega
    have hlt2 : i < f.length := by omega
    have hw : IntKind.wrap .i64 ((i : Int) + 1) = ((i + 1 : Nat) : Int) := by rw [wrap64 (by omega) (by omega)]; omega
    have hqm : q.1 ∈ f := by rw [← hl]; exact List.mem_map.2 ⟨q, List.mem_of_getElem? hq, rfl⟩
    have hqs := (h_f.2 q.1 hqm).2
    have hqs2 : q.1.set.length ≤ 140737488355328 := by omega
    have hob := nw_obj st 0 (l.flatMap Pred.cellsO)
    have hget := row_get Pred.cellsO 13 cellsO_len hq (j := 12) (by omega)
    have hspl := row_splice Pred.cellsO 13 cellsO_len (j := 12) (y := (q.1, true)) (vs := [.osl 5 (encVals q.1.set)]) hq rfl
    have hset := nw_set hst 0 (l.flatMap Pred.cellsO) ((l.set i (q.1, true)).flatMap Pred.cellsO)
    have hl2 : (l.set i (q.1, true)).map (·.1) = f := by
      rw [List.map_set, hl]
      apply List.ext_getElem?
      intro j
      rw [List.getElem?_set]
      split
      · rename_i hj; subst hj
        rw [← hl, List.getElem?_map, hq]
        rfl
      · rfl
    have IH := fun e0 e4 T X ht0 ht4 => ih (i + 1) (l.set i (q.1, true)) e0 e4 T X ht0 ht4 hl2 (by omega) (by omega)
    rw [Nat.add_zero] at hob hset
    have hsz := sizes_vals q.1.set
    obtain ⟨p, b⟩ := q
    refine evK_loop c45_9 _ _ _ _ rfl ?_
    simp only [Pred.cellsO] at hget
    cases b with
    | true =>
      simp only [List.getElem?_cons_succ, List.getElem?_cons_zero, if_true] at hget
      simp [-Int.natCast_add, -St.obj, -St.set, -splice, ht0, ht4, hlt, hlt2, hw, hob, hget, hspl, hset, hqs, hqs2, hsz, IH, -Int.not_le, -Int.not_lt, -Nat.not_le, -Nat.not_lt, ty3, ty25, ty27, ty49, hm, hl, hr, E45, n45_8]
    | false =>
      simp only [List.getElem?_cons_succ, List.getElem?_cons_zero, Bool.false_eq_true, if_false] at hget
      simp [-Int.natCast_add, -St.obj, -St.set, -splice, ht0, ht4, hlt, hlt2, hw, hob, hget, hspl, hset, hqs, hqs2, hsz, IH, -Int.not_le, -Int.not_lt, -Nat.not_le, -Nat.not_lt, ty3, ty25, ty27, ty49, hm, hl, hr, E45, n45_8]
set_option maxHeartbeats 8000000 in
theorem c45 (f : List Pred) (h_f : PSm f) (st : St) (hst : st.wp ≤ st.objs.length) : ∃ st', EvF gS 45 [.slice (encPreds f)] st = some (.ret (.slice (encPreds f)) none, st') := by
  have hm : fi45.marks = [6, 1000000] := rfl
  have hl : fi45.locals = [] := rfl
  have hr : fi45.results = [.tmp 2] := rfl
  by_cases hne : f = []
  · refine ⟨st, ?_⟩
    refine EvF_start fi45_eq (fun x h => by cases h) m45 ?_
    rw [st45]
    subst hne
    have hz : ∀ st, frz 6 st (.sref true 0 0 0 0) = some (.slice [], st) := fun st => frz_nil 5 st
    simp [markStep, markAppend, elemsAt, encPreds, -Int.not_le, -Int.not_lt, -Nat.not_le, -Nat.not_lt, ty3, ty25, ty27, ty49, hm, hl, hr, E45, n45_8]
    refine evK_loop c45_9 _ _ _ _ rfl ?_
    simp [hz, -Int.not_le, -Int.not_lt, -Nat.not_le, -Nat.not_lt, ty3, ty25, ty27, ty49, hm, hl, hr, E45, n45_8]
  · refine ⟨dd st 1, ?_⟩
    refine EvF_start fi45_eq (fun x h => by cases h) m45 ?_
    rw [st45]
    have hfl := h_f.1
    have hfe : (encPreds f).isEmpty = false := by cases f with | nil => exact absurd rfl hne | cons _ _ => rfl
    have hpc := preds_cells f
    have hsp := sizes_preds f
    have h1 : f.length * 144 ≤ 140737488355328 := by omega
    have h2 : f.length ≤ 140737488355328 := by omega
    have hnr := fun fr k len cs => newRef_0 st fr k len cs
    have L0 := fun e0 e4 T X ht0 ht4 => L45_8 f h_f hne st hst f.length 0 (f.map fun p => (p, false)) e0 e4 T X ht0 ht4 (map_fst f) (Nat.zero_le _) rfl
    simp only [show ((0 : Nat) : Int) = 0 from rfl] at L0
    simp [-St.obj, -St.set, hfe, hpc, hsp, h1, h2, hnr, L0, markStep, markAppend, elemsAt, hne, -Int.not_le, -Int.not_lt, -Nat.not_le, -Nat.not_lt, ty3, ty25, ty27, ty49, hm, hl, hr, E45, n45_8]
    all_goals first | done | skip
end
end Go.Proofs.Ytclpbfkbpcjejaa
namespace Go.Proofs.Ytclpbfkbpcjejaa
open Go Go.Ab
set_option linter.unusedVariables false
set_option linter.unusedSimpArgs false
set_option linter.unnecessarySimpa false
set_option maxRecDepth 20000
noncomputable section
variable (fr : Fr) (st : St) (k : Kt)
theorem k45 (f : List Pred) (h_f : PSm f) (fr : Fr) (st : St) : callStep gS (EvF gS) 45 [.slice (encPreds f)] fr st = some (.ok (.val (.slice (encPreds f))) fr st) :=
  call_pure' rfl fi45_eq rfl (by simp [flats, V.flat]) (c45 f h_f ⟨[], 0⟩ (Nat.le_refl _)) (by simp [V.flat])
theorem sizes_predss (l : List (List Pred)) : sizesOk 1 (encPredss l) = true := by
  induction l with
  | nil => rfl
  | cons x r ih => simp only [encPredss, List.map_cons, sizesOk] at ih ⊢; rw [ih]; rfl
theorem predss_snoc (l : List (List Pred)) (f : List Pred) : encPredss l ++ [.slice (encPreds f)] = encPredss (l ++ [f]) := by simp [encPredss]
end
end Go.Proofs.Ytclpbfkbpcjejaa
namespace Go.Ab
open Go
set_option linter.unusedVariables false
set_option linter.unusedSimpArgs false
set_option linter.unnecessarySimpa false
section
variable {α : Type}
theorem row_drop (c : α → List V) (k : Nat) (hc : ∀ x, (c x).length = k) : ∀ (l : List α) (i : Nat), (l.flatMap c).drop (i * k) = (l.drop i).flatMap c
  | [], i => by simp
  | x :: r, 0 => by simp
  | x :: r, i + 1 => by
    rw [List.flatMap_cons, List.drop_succ_cons, ← row_drop c k hc r i, List.drop_append, hc, List.drop_of_length_le (by rw [hc, Nat.succ_mul]; omega), List.nil_append, Nat.succ_mul, Nat.add_sub_cancel]
theorem row_take (c : α → List V) (k : Nat) (hc : ∀ x, (c x).length = k) : ∀ (l : List α) (i : Nat), (l.flatMap c).take (i * k) = (l.take i).flatMap c
  | [], i => by simp
  | x :: r, 0 => by simp
  | x :: r, i + 1 => by
    rw [List.flatMap_cons, List.take_succ_cons, List.flatMap_cons, ← row_take c k hc r i, List.take_append, hc, List.take_of_length_le (by rw [hc, Nat.succ_mul]; omega), Nat.succ_mul, Nat.add_sub_cancel]
theorem row_splices (c : α → List V) (k : Nat) (hc : ∀ x, (c x).length = k) (l m : List α) (i : Nat) (h : i + m.length ≤ l.length) : splice (l.flatMap c) (i * k) (m.flatMap c) = some ((l.take i ++ m ++ l.drop (i + m.length)).flatMap c) := by
  unfold splice
  rw [row_len c k hc, row_len c k hc, if_pos (by rw [← Nat.add_mul]; exact Nat.mul_le_mul_right k h), row_take c k hc, ← Nat.add_mul, row_drop c k hc, List.flatMap_append, List.flatMap_append]
end
def N4 : List (List UInt8) := [[97], [98], [99], [108, 111, 110, 103]]
def nameV (l : List Int) (a j : Nat) : List UInt8 := N4.getD ((fd l a j 12).toNat / 3 % 4) []
def A5 : List (List UInt8 × Int) := [([97], 0), ([98], 0), ([99], 0), ([100], 1), ([108, 111, 110, 103], 1)]
def attrsG (l : List Int) (a : Nat) : List (List UInt8 × Int) → Nat → List Attr × Nat
  | [], j => ([], j)
  | (nm, q) :: r, j => if fd l a j 3 > q then (⟨nm, valueV l a (j + 1)⟩ :: (attrsG l a r (j + 3)).1, (attrsG l a r (j + 3)).2) else attrsG l a r (j + 1)
/-- Attributes, and where the feed stands then. -/
def attrsV (l : List Int) (a j : Nat) : List Attr × Nat := attrsG l a A5 j
/-- Behind which one a name has its place. -/
def insN (f : List Pred) (nm : List UInt8) : Nat → Nat
  | 0 => 0
  | k + 1 => if sgt ((f[k]?).getD ⟨[], 0, vzero, vzero, []⟩).name nm then insN f nm k else k + 1
theorem insN_le (f : List Pred) (nm : List UInt8) : ∀ k, insN f nm k ≤ k
  | 0 => Nat.le_refl _
  | k + 1 => by
    unfold insN; split
    · exact Nat.le_succ_of_le (insN_le f nm k)
    · exact Nat.le_refl _
def insP (f : List Pred) (p : Pred) (nm : List UInt8) : List Pred := f.take (insN f nm f.length) ++ p :: f.drop (insN f nm f.length)
theorem insP_length (f : List Pred) (p : Pred) (nm : List UInt8) : (insP f p nm).length = f.length + 1 := by
  have := insN_le f nm f.length
  unfold insP; simp; omega
/-- A filter, where the feed stands then, how many objects were given up. -/
def filterG (l : List Int) (a : Nat) : Nat → Nat → Nat → List Pred → List Pred × Nat × Nat
  | 0, j, d, f => (f, j, d)
  | n + 1, j, d, f => filterG l a n (j + 1 + (predV l a (j + 1) (nameV l a j)).2) (d + (predV l a (j + 1) (nameV l a j)).1.set.length + 1) (insP f (predV l a (j + 1) (nameV l a j)).1 (nameV l a j))
def filterV (l : List Int) (a j : Nat) : List Pred × Nat × Nat := filterG l a (fd l a j 4).toNat (j + 1) 0 []
def pzero : Pred := ⟨[], 0, vzero, vzero, []⟩
theorem pcells_len (p : Pred) : (Pred.cells p).length = 13 := rfl
theorem pcells_one (p : Pred) : (Pred.cells p).all V.one = true := rfl
theorem pcells_flats (p : Pred) : flats (Pred.cells p) = true := by simp [flats, V.flat]
theorem pcells_strip (p : Pred) : (Pred.cells p).map V.strip1 = Pred.cells p := rfl
theorem chunk_preds1 (l : List Pred) : chunk true 13 l.length (l.flatMap Pred.cells) = encPreds l := chunk_enc Pred.cells 13 (by omega) (fun _ => rfl) l
theorem enc_cells (l : List Pred) : (encPreds l).flatMap V.cells = l.flatMap Pred.cells := by
  induction l with
  | nil => rfl
  | cons x r ih => simp only [encPreds, List.map_cons, List.flatMap_cons] at ih ⊢; rw [ih]; rfl
/-- The elements of a part of a row. -/
theorem elems_row {st : St} {id : Nat} {l : List Pred} (ho : St.obj st id = some (l.flatMap Pred.cells)) (f : Bool) {i : Nat} (hi : i ≤ l.length) :
    elemsAt true 13 st (.val (.sref f 13 id (i * 13) (l.length - i))) = some (encPreds (l.drop i)) := by
  unfold elemsAt
  simp only [ho, row_len Pred.cells 13 pcells_len, true_and]
  have h1 : i * 13 + (l.length - i) * 13 ≤ l.length * 13 := by omega
  have h2 : ((l.flatMap Pred.cells).map V.strip1).all V.one = true := by rw [row_strip _ _ pcells_strip]; exact row_one _ pcells_one l
  have h3 : (true || (13 : Nat) == 1) = true := rfl
  by_cases hz : l.length - i = 0
  · rw [if_pos hz, List.drop_of_length_le (by omega)]; rfl
  rw [if_neg hz, if_pos ⟨h1, h3, h2⟩, row_drop Pred.cells 13 pcells_len, List.take_of_length_le (by rw [row_len Pred.cells 13 pcells_len]; simp), row_strip _ _ pcells_strip]
  have := chunk_preds1 (l.drop i)
  rw [List.length_drop] at this
  rw [this]
theorem frz_preds {st st1 : St} (n id : Nat) (l : List Pred) (hl : l ≠ []) (ho : St.obj st id = some (l.flatMap Pred.cells)) (hs : St.set st id [] = some st1) : frz (n + 1) st (.sref false 13 id 0 l.length) = some (.slice (encPreds l), st1) := by
  have := frz_row n id 13 (by omega) Pred.cells Pred.cells pcells_len pcells_len pcells_strip pcells_one pcells_flats l hl ho hs
  rw [show Nat.blt 1 13 = true from rfl, chunk_preds1] at this
  exact this
/-- A row behind which others were given up. -/
theorem obj_mid {st : St} {id : Nat} (h : FeedOk st id) (m k : Nat) (cs : List V) (l : List Int) (a : Nat) : St.obj (setF (dd (nw st m cs) k) id l a) (st.objs.length + m) = some cs := by
  unfold St.obj setF
  show ((dd (nw st m cs) k).objs.set id _)[_]? = _
  rw [List.getElem?_set_ne (by have := h.1; omega)]
  unfold dd
  show ((nw st m cs).objs ++ _)[_]? = _
  rw [List.getElem?_append_left (by rw [gr_len]; omega), gr_obj]
theorem dd_nw_kill (st : St) (m k : Nat) (cs : List V) (h : st.wp ≤ st.objs.length) : St.set (dd (nw st m cs) k) (st.objs.length + m) [] = some (dd st (m + 1 + k)) := by
  unfold St.set
  rw [if_pos (by rw [dd_wp, gr_wp]; omega)]
  unfold dd nw
  simp only [Option.some.injEq, St.mk.injEq, and_true]
  rw [List.append_assoc, List.set_append_right _ _ (by omega), Nat.add_sub_cancel_left, List.append_assoc, List.set_append_right _ _ (by simp), List.length_replicate, Nat.sub_self]
  simp only [List.singleton_append, List.set_cons_zero]
  rw [show m + 1 + k = m + (1 + k) by omega, ← List.replicate_append_replicate, ← List.replicate_append_replicate (n := 1)]
  rfl
theorem set_mid {st : St} {id : Nat} (h : FeedOk st id) (m k : Nat) (cs : List V) (l : List Int) (a : Nat) : St.set (setF (dd (nw st m cs) k) id l a) (st.objs.length + m) [] = some (setF (dd st (m + 1 + k)) id l a) := by
  have h1 := h.1
  have h2 := h.2
  have hk := dd_nw_kill st m k cs (by omega)
  unfold St.set at hk ⊢
  rw [if_pos (by rw [dd_wp, gr_wp]; omega)] at hk
  rw [if_pos (by rw [setF_wp, dd_wp, gr_wp]; omega)]
  have hk2 := Option.some.inj hk
  congr 1
  rw [← hk2]
  unfold setF
  simp only [St.mk.injEq, and_true]
  rw [List.set_comm _ _ (by omega)]
end Go.Ab
namespace Go.Proofs.Ytclpbfkbpcjejaa
open Go Go.Ab
set_option linter.unusedVariables false
set_option linter.unusedSimpArgs false
set_option linter.unnecessarySimpa false
set_option maxRecDepth 20000
noncomputable section
variable (fr : Fr) (st : St) (k : Kt)
def fi91 : FI := { body := codeOf Try.f91, ntmps := 9, results := [.tmp 2], pers := [0, 2], locals := [], pure := false, marks := [] }
theorem fi91_eq : gS.fn 91 = some fi91 := by kernel_rfl
theorem st91 (a0 : V) : startFr fi91 [a0] = { ps := [(0, .val a0), (2, .any)], ts := [], lc := [] } := rfl
def b91 : Code := mini (codeOf Try.f91)
def c91_2 : Code := .seq (codeN b91 5) .ret
theorem e91_2 : evK gS fi91 c91_2 fr st k = opsR gS fi91 [op1 3 (.build 107 #[(0, (.const (.string { data := #[97] }))), (1, (.const (.string { data := #[98] }))), (2, (.const (.string { data := #[99] }))), (3, (.const (.string { data := #[108, 111, 110, 103] })))]) 107,
 mv 4 0 29,
 cal 5 16 [(.tmp 4), (.const (.int .i64 12))] [29, 3] 3,
 op1 6 (.binOp .quo 3 (.tmp 5) (.const (.int .i64 3)) 3) 3,
 op1 7 (.binOp .rem 3 (.tmp 6) (.const (.int .i64 4)) 3) 3,
 op1 8 (.index 107 (.tmp 3) (.tmp 7)) 9,
 asn 2 8 9] fr st (.seq .ret k) := evK_rs 1 rfl (by kernel_rfl)
def c91_0 : Code := .seq (codeN b91 2) c91_2
theorem e91_0 : evK gS fi91 c91_0 fr st k = opsR gS fi91 [op1 2 (.assign (.const (.string { data := #[] }))) 9] fr st (.seq c91_2 k) := evK_rs 0 rfl (by kernel_rfl)
theorem m91 : mini fi91.body = c91_0 := by kernel_rfl
set_option maxHeartbeats 8000000 in
theorem c91 (l : List Int) (a j id : Nat) (st : St) (h : FeedOk st id) (ha : a < 549755813888) (hj : j < 549755812000) :
    EvF gS 91 [.ptr id 0] (setF st id l (nA l a j)) = some (.ret (.str (nameV l a j)) none, setF st id l (nA l a (j + 1))) := by
  refine EvF_start fi91_eq (fun x h => by cases h) m91 ?_
  rw [st91]
  have hm : fi91.marks = [] := rfl
  have hl : fi91.locals = [] := rfl
  have hr : fi91.results = [.tmp 2] := rfl
  have hb := fd_bound l a j (n := 12) (by omega)
  unfold nameV
  have hk := fun fr => k16 l a j id 12 fr st h ha (by omega) (by omega)
  generalize fd l a j 12 = z at *
  have hz : z = 0 ∨ z = 1 ∨ z = 2 ∨ z = 3 ∨ z = 4 ∨ z = 5 ∨ z = 6 ∨ z = 7 ∨ z = 8 ∨ z = 9 ∨ z = 10 ∨ z = 11 := by omega
  have v1 : IntKind.wrap .i64 1 = 1 := w64_1
  have v2 : IntKind.wrap .i64 2 = 2 := w64_2
  have v3 : IntKind.wrap .i64 3 = 3 := w64_3
  have v0 : IntKind.wrap .i64 0 = 0 := by kernel_rfl
  rcases hz with rfl | rfl | rfl | rfl | rfl | rfl | rfl | rfl | rfl | rfl | rfl | rfl <;>
    simp [N4, hk, v0, v1, v2, v3, -Int.not_le, -Int.not_lt, -Nat.not_le, -Nat.not_lt, ty3, ty9, ty29, ty107, hm, hl, hr, e91_2, e91_0]
theorem k91 (l : List Int) (a j id : Nat)  (fr : Fr) (st : St) (h : FeedOk st id) (ha : a < 549755813888) (hj : j < 549755812000) :
    callStep gS (EvF gS) 91 [.ptr id 0] fr (setF st id l (nA l a j)) = some (.ok (.val (.str (nameV l a j))) (fr.map E.noMem) (setF st id l (nA l a (j + 1)))) := by
  unfold callStep
  simp only [show gS.ext 91 = none from rfl, fi91_eq, show fi91.pure = false from rfl, Bool.false_eq_true, if_false, c91 l a j id  st h ha (by omega), retE]
  all_goals rfl
def fi36 : FI := { body := codeOf Try.f36, ntmps := 26, results := [.tmp 2], pers := [0, 2, 3, 4, 5], locals := [4], pure := false, marks := [1000000] }
theorem fi36_eq : gS.fn 36 = some fi36 := by kernel_rfl
theorem st36 (a0 : V) : startFr fi36 [a0] = { ps := [(0, .val a0), (2, .any), (3, .any), (4, .any), (5, .any)], ts := [], lc := [] } := rfl
def b36 : Code := mini (codeOf Try.f36)
def c36_14 : Code := .cond (.tmp 8) .skip (.exit 0)
def c36_12 : Code := .seq (codeN b36 535) c36_14
def r36_22 : Array Oper := regOps (codeN (codeOf Try.f36) 5271)
def c36_22 : Code := .region 7 r36_22 true
def q36_22 : List (Oper × Fl) := [(mv 16 3 50, ⟨true, false, false, false, false, false, true, false, false, true, []⟩),
 (mv 17 5 3, ⟨true, false, false, false, false, false, true, false, false, true, []⟩),
 (ixa 18 109 4 17 0, ⟨true, false, false, false, false, false, true, false, false, true, []⟩),
 (ld 19 9 18 9, ⟨true, false, false, false, false, false, true, false, false, true, []⟩),
 (mv 20 0 29, ⟨true, false, true, false, true, false, true, true, false, false, []⟩),
 (cal 21 17 [(.tmp 20)] [29] 24, ⟨false, true, true, false, true, true, true, true, false, false, []⟩),
 (op1 22 (.build 111 #[(0, (.tmp 19)), (1, (.tmp 21))]) 111, ⟨true, false, true, false, true, false, true, true, false, false, []⟩),
 (op1 23 (.buildSlice 50 1 #[(0, (.tmp 22))]) 50, ⟨true, false, true, false, true, false, true, true, false, false, []⟩),
 (op1 24 (.call { callee := (.builtin .append), args := #[(.tmp 16), (.tmp 23)], argTypes := #[50, 50] }) 50, ⟨false, true, true, false, true, true, true, true, false, false, []⟩),
 (asn 3 24 50, ⟨true, true, true, false, true, false, true, true, false, false, []⟩)]
def c36_21 : Code := .cond (.tmp 15) c36_22 .skip
def c36_19 : Code := .seq (codeN b36 2199) c36_21
def c36_24 : Code := codeN b36 919
def c36_17 : Code := .seq (.block 1 c36_19) c36_24
def c36_11 : Code := .seq c36_12 c36_17
def c36_10 : Code := .loop c36_11
def c36_9 : Code := .block 0 c36_10
def c36_7 : Code := .seq (codeN b36 39) c36_9
def c36_25 : Code := .seq (codeN b36 47) .ret
def c36_6 : Code := .seq c36_7 c36_25
def c36_4 : Code := .seq (codeN b36 11) c36_6
def c36_2 : Code := .seq (codeN b36 5) c36_4
def c36_0 : Code := .seq (codeN b36 2) c36_2
theorem E36 : evK gS fi36 c36_14 fr st k = condK gS fi36 (fr.op (.tmp 8)).bool? .skip (.exit 0) fr st k ∧
 (evK gS fi36 c36_12 fr st k = opsR gS fi36 [mv 7 5 3,
 op1 8 (.binOp .lss 3 (.tmp 7) (.const (.int .i64 5)) 3) 4] fr st (.seq c36_14 k)) ∧
 evK gS fi36 c36_22 fr st k = drwR gS fi36 r36_22 q36_22 fr st k ∧
 evK gS fi36 c36_21 fr st k = condK gS fi36 (fr.op (.tmp 15)).bool? c36_22 .skip fr st k ∧
 (evK gS fi36 c36_19 fr st k = opsR gS fi36 [mv 11 0 29,
 cal 12 16 [(.tmp 11), (.const (.int .i64 3))] [29, 3] 3,
 mv 13 5 3,
 op1 14 (.binOp .quo 3 (.tmp 13) (.const (.int .i64 3)) 3) 3,
 bop 15 .gtr 3 12 14 3 4] fr st (.seq c36_21 k)) ∧
 (evK gS fi36 c36_24 fr st k = opsR gS fi36 [mv 9 5 3,
 op1 10 (.binOp .add 3 (.tmp 9) (.const (.int .i64 1)) 3) 3,
 asn 5 10 3] fr st k) ∧
 evK gS fi36 c36_17 fr st k = evK gS fi36 c36_19 fr st (.blk 1 (.seq c36_24 k)) ∧
 evK gS fi36 c36_11 fr st k = evK gS fi36 c36_12 fr st (.seq c36_17 k) ∧
 evK gS fi36 c36_9 fr st k = evK gS fi36 c36_10 fr st (.blk 0 k) ∧
 evK gS fi36 c36_7 fr st k = opsR gS fi36 [op1 5 (.assign (.const (.int .i64 0))) 3] fr st (.seq c36_9 k) ∧
 (evK gS fi36 c36_25 fr st k = opsR gS fi36 [mv 25 3 50,
 asn 2 25 50] fr st (.seq .ret k)) ∧
 evK gS fi36 c36_6 fr st k = evK gS fi36 c36_7 fr st (.seq c36_25 k) ∧
 (evK gS fi36 c36_4 fr st k = opsR gS fi36 [op1 6 (.build 109 #[(0, (.const (.string { data := #[97] }))), (1, (.const (.string { data := #[98] }))), (2, (.const (.string { data := #[99] }))), (3, (.const (.string { data := #[100] }))), (4, (.const (.string { data := #[108, 111, 110, 103] })))]) 109,
 op1 4 (.alloc 109) 0,
 sto 109 4 6] fr st (.seq c36_6 k)) ∧
 evK gS fi36 c36_2 fr st k = opsR gS fi36 [op1 3 (.assign (.const (.slice none 0 0))) 50] fr st (.seq c36_4 k) ∧
 evK gS fi36 c36_0 fr st k = opsR gS fi36 [op1 2 (.assign (.const (.slice none 0 0))) 50] fr st (.seq c36_2 k) := ⟨rfl, evK_rs 4 rfl (by kernel_rfl), evK_dr 7 rfl (by kernel_rfl) (by kernel_rfl), rfl, evK_rs 6 rfl (by kernel_rfl), evK_r 5 (by kernel_rfl), rfl, rfl, rfl, evK_rs 3 rfl (by kernel_rfl), evK_rs 8 rfl (by kernel_rfl), rfl, evK_rs 2 rfl (by kernel_rfl), evK_rs 1 rfl (by kernel_rfl), evK_rs 0 rfl (by kernel_rfl)⟩
theorem m36 : mini fi36.body = c36_0 := by kernel_rfl
theorem n36_10 (fr : Fr) (st : St) (k : Kt) : nextK gS fi36 (.loop c36_11 k) .normal fr st = evK gS fi36 c36_10 fr st k := rfl
theorem attrs_snoc (l : List Attr) (x : Attr) : encAttrs l ++ [.agg [.str x.name, .int .i64 x.v.kind, .int .i64 x.v.n, .float .f64 x.v.x, .str x.v.s, .bool x.v.b]] = encAttrs (l ++ [x]) := by simp [encAttrs, Attr.enc, Attr.cells]
theorem sizes_attrs (l : List Attr) : sizesOk 6 (encAttrs l) = true := by
  induction l with
  | nil => rfl
  | cons x r ih => simp only [encAttrs, List.map_cons, sizesOk] at ih ⊢; rw [ih]; rfl
set_option maxHeartbeats 8000000 in
theorem L36_5 (l : List Int) (a id : Nat) (ha : a < 549755813888) (st : St) (h : FeedOk st id) (j k : Nat) (f : List Attr) (hj : j + 15 < 549755812000 + 3 * 5) (hf : f.length ≤ 5) (hk : k = 0 ∧ f = [] ∨ k = 6) (T : List (Nat × E)) (X : List (Nat × List V)) (hx : lk X 4 = some [.str [97], .str [98], .str [99], .str [100], .str [108, 111, 110, 103]]) :
    evK gS fi36 c36_10 { ps := [(0, .val (.ptr id 0)), (2, .own 0 []), (3, .own k (encAttrs f)), (4, .lp 4 0), (5, .val (.int .i64 5))], ts := T, lc := X } (setF st id l (nA l a j)) (.blk 0 (.seq c36_25 .nil)) = some (.ret (.slice (encAttrs (f ++ (attrsG l a [] j).1))) none, setF st id l (nA l a (attrsG l a [] j).2)) := by
  have hm : fi36.marks = [1000000] := rfl
  have hl : fi36.locals = [4] := rfl
  have hr : fi36.results = [.tmp 2] := rfl
  refine evK_loop c36_11 _ _ _ _ rfl ?_
  have hz : ∀ st, frz 6 st (.slice (encAttrs f)) = some (.slice (encAttrs f), st) := fun st => frz_flat 6 st _ (by simp [V.flat])
  rw [show (attrsG l a [] j) = ([], j) from rfl]
  rcases hk with ⟨rfl, rfl⟩ | rfl
  · have en : encAttrs [] = [] := rfl
    rw [en] at hz
    simp [en, hz, hx, -Int.not_le, -Int.not_lt, -Nat.not_le, -Nat.not_lt, ty3, ty4, ty9, ty24, ty29, ty50, ty109, ty111, eq24, hm, hl, hr, fi16_eq, fi17_eq, E36, q36_22, n36_10]
  · simp [hz, hx, -Int.not_le, -Int.not_lt, -Nat.not_le, -Nat.not_lt, ty3, ty4, ty9, ty24, ty29, ty50, ty109, ty111, eq24, hm, hl, hr, fi16_eq, fi17_eq, E36, q36_22, n36_10]
set_option maxHeartbeats 8000000 in
theorem L36_4 (l : List Int) (a id : Nat) (ha : a < 549755813888) (st : St) (h : FeedOk st id) (j k : Nat) (f : List Attr) (hj : j + 15 < 549755812000 + 3 * 4) (hf : f.length ≤ 4) (hk : k = 0 ∧ f = [] ∨ k = 6) (T : List (Nat × E)) (X : List (Nat × List V)) (hx : lk X 4 = some [.str [97], .str [98], .str [99], .str [100], .str [108, 111, 110, 103]]) :
    evK gS fi36 c36_10 { ps := [(0, .val (.ptr id 0)), (2, .own 0 []), (3, .own k (encAttrs f)), (4, .lp 4 0), (5, .val (.int .i64 4))], ts := T, lc := X } (setF st id l (nA l a j)) (.blk 0 (.seq c36_25 .nil)) = some (.ret (.slice (encAttrs (f ++ (attrsG l a [([108, 111, 110, 103], 1)] j).1))) none, setF st id l (nA l a (attrsG l a [([108, 111, 110, 103], 1)] j).2)) := by
  have hm : fi36.marks = [1000000] := rfl
  have hl : fi36.locals = [4] := rfl
  have hr : fi36.results = [.tmp 2] := rfl
  refine evK_loop c36_11 _ _ _ _ rfl ?_
  have hb := fd_bound l a j (n := 3) (by omega)
  have hk3 := fun fr => k16 l a j id 3 fr st h ha (by omega) (by omega)
  have hv := fun fr => k17 l a (j + 1) id fr st h ha (by omega)
  have v0 : IntKind.wrap .i64 0 = 0 := by kernel_rfl
  have bo : borOk r36_22 0 3 16 = true := by kernel_rfl
  have bh : handOk r36_22 9 24 = true := by kernel_rfl
  have hr : attrsG l a [([108, 111, 110, 103], 1)] j = if fd l a j 3 > 1 then (⟨[108, 111, 110, 103], valueV l a (j + 1)⟩ :: (attrsG l a [] (j + 3)).1, (attrsG l a [] (j + 3)).2) else attrsG l a [] (j + 1) := rfl
  rw [hr]
  generalize fd l a j 3 = z at *
  by_cases hz : z > 1
  · rw [if_pos hz]
    have N := fun T X hx => L36_5 l a id ha st h (j + 3) 6 (f ++ [⟨[108, 111, 110, 103], valueV l a (j + 1)⟩]) (by omega) (by rw [List.length_append]; exact Nat.add_le_add hf (Nat.le_refl 1)) (.inr rfl) T X hx
    have e1 := attrs_snoc f ⟨[108, 111, 110, 103], valueV l a (j + 1)⟩
    have e2 := sizes_attrs f
    have e3 : (f.length + 1) * 64 ≤ 140737488355328 := by omega
    have e4 : f.length + 1 ≤ 140737488355328 := by omega
    have hz' : (1 : Int) < z := hz
    have a3 : j + 1 + 2 = j + 3 := rfl
    rcases hk with ⟨rfl, rfl⟩ | rfl
    · simp only [List.nil_append, List.cons_append] at N e1
      simp [-List.append_assoc, bo, bh, hx, hk3, hv, v0, w64_1, w64_2, w64_3, w64_4, w64_5, hz', a3, e1, e2, N, -Int.not_le, -Int.not_lt, -Nat.not_le, -Nat.not_lt, ty3, ty4, ty9, ty24, ty29, ty50, ty109, ty111, eq24, hm, hl, hr, fi16_eq, fi17_eq, E36, q36_22, n36_10]
    · rw [show (f ++ (⟨[108, 111, 110, 103], valueV l a (j + 1)⟩ :: (attrsG l a [] (j + 3)).1)) = (f ++ [⟨[108, 111, 110, 103], valueV l a (j + 1)⟩]) ++ (attrsG l a [] (j + 3)).1 by simp]
      simp only [] at e1
      simp [-List.append_assoc, bo, bh, hx, hk3, hv, v0, w64_1, w64_2, w64_3, w64_4, w64_5, hz', a3, e1, e2, e3, e4, N, -Int.not_le, -Int.not_lt, -Nat.not_le, -Nat.not_lt, ty3, ty4, ty9, ty24, ty29, ty50, ty109, ty111, eq24, hm, hl, hr, fi16_eq, fi17_eq, E36, q36_22, n36_10]
  · rw [if_neg hz]
    have N := fun T X hx => L36_5 l a id ha st h (j + 1) k f (by omega) (Nat.le_trans hf (by omega)) hk T X hx
    have hz' : ¬ (1 : Int) < z := hz
    simp [hx, hk3, hv, v0, w64_1, w64_2, w64_3, w64_4, w64_5, hz', N, -Int.not_le, -Int.not_lt, -Nat.not_le, -Nat.not_lt, ty3, ty4, ty9, ty24, ty29, ty50, ty109, ty111, eq24, hm, hl, hr, fi16_eq, fi17_eq, E36, q36_22, n36_10]
set_option maxHeartbeats 8000000 in
theorem L36_3 (l : List Int) (a id : Nat) (ha : a < 549755813888) (st : St) (h : FeedOk st id) (j k : Nat) (f : List Attr) (hj : j + 15 < 549755812000 + 3 * 3) (hf : f.length ≤ 3) (hk : k = 0 ∧ f = [] ∨ k = 6) (T : List (Nat × E)) (X : List (Nat × List V)) (hx : lk X 4 = some [.str [97], .str [98], .str [99], .str [100], .str [108, 111, 110, 103]]) :
    evK gS fi36 c36_10 { ps := [(0, .val (.ptr id 0)), (2, .own 0 []), (3, .own k (encAttrs f)), (4, .lp 4 0), (5, .val (.int .i64 3))], ts := T, lc := X } (setF st id l (nA l a j)) (.blk 0 (.seq c36_25 .nil)) = some (.ret (.slice (encAttrs (f ++ (attrsG l a [([100], 1), ([108, 111, 110, 103], 1)] j).1))) none, setF st id l (nA l a (attrsG l a [([100], 1), ([108, 111, 110, 103], 1)] j).2)) := by
  have hm : fi36.marks = [1000000] := rfl
  have hl : fi36.locals = [4] := rfl
  have hr : fi36.results = [.tmp 2] := rfl
  refine evK_loop c36_11 _ _ _ _ rfl ?_
  have hb := fd_bound l a j (n := 3) (by omega)
  have hk3 := fun fr => k16 l a j id 3 fr st h ha (by omega) (by omega)
  have hv := fun fr => k17 l a (j + 1) id fr st h ha (by omega)
  have v0 : IntKind.wrap .i64 0 = 0 := by kernel_rfl
  have bo : borOk r36_22 0 3 16 = true := by kernel_rfl
  have bh : handOk r36_22 9 24 = true := by kernel_rfl
  have hr : attrsG l a [([100], 1), ([108, 111, 110, 103], 1)] j = if fd l a j 3 > 1 then (⟨[100], valueV l a (j + 1)⟩ :: (attrsG l a [([108, 111, 110, 103], 1)] (j + 3)).1, (attrsG l a [([108, 111, 110, 103], 1)] (j + 3)).2) else attrsG l a [([108, 111, 110, 103], 1)] (j + 1) := rfl
  rw [hr]
  generalize fd l a j 3 = z at *
  by_cases hz : z > 1
  · rw [if_pos hz]
    have N := fun T X hx => L36_4 l a id ha st h (j + 3) 6 (f ++ [⟨[100], valueV l a (j + 1)⟩]) (by omega) (by rw [List.length_append]; exact Nat.add_le_add hf (Nat.le_refl 1)) (.inr rfl) T X hx
    have e1 := attrs_snoc f ⟨[100], valueV l a (j + 1)⟩
    have e2 := sizes_attrs f
    have e3 : (f.length + 1) * 64 ≤ 140737488355328 := by omega
    have e4 : f.length + 1 ≤ 140737488355328 := by omega
    have hz' : (1 : Int) < z := hz
    have a3 : j + 1 + 2 = j + 3 := rfl
    rcases hk with ⟨rfl, rfl⟩ | rfl
    · simp only [List.nil_append, List.cons_append] at N e1
      simp [-List.append_assoc, bo, bh, hx, hk3, hv, v0, w64_1, w64_2, w64_3, w64_4, w64_5, hz', a3, e1, e2, N, -Int.not_le, -Int.not_lt, -Nat.not_le, -Nat.not_lt, ty3, ty4, ty9, ty24, ty29, ty50, ty109, ty111, eq24, hm, hl, hr, fi16_eq, fi17_eq, E36, q36_22, n36_10]
    · rw [show (f ++ (⟨[100], valueV l a (j + 1)⟩ :: (attrsG l a [([108, 111, 110, 103], 1)] (j + 3)).1)) = (f ++ [⟨[100], valueV l a (j + 1)⟩]) ++ (attrsG l a [([108, 111, 110, 103], 1)] (j + 3)).1 by simp]
      simp only [] at e1
      simp [-List.append_assoc, bo, bh, hx, hk3, hv, v0, w64_1, w64_2, w64_3, w64_4, w64_5, hz', a3, e1, e2, e3, e4, N, -Int.not_le, -Int.not_lt, -Nat.not_le, -Nat.not_lt, ty3, ty4, ty9, ty24, ty29, ty50, ty109, ty111, eq24, hm, hl, hr, fi16_eq, fi17_eq, E36, q36_22, n36_10]
  · rw [if_neg hz]
    have N := fun T X hx => L36_4 l a id ha st h (j + 1) k f (by omega) (Nat.le_trans hf (by omega)) hk T X hx
    have hz' : ¬ (1 : Int) < z := hz
    simp [hx, hk3, hv, v0, w64_1, w64_2, w64_3, w64_4, w64_5, hz', N, -Int.not_le, -Int.not_lt, -Nat.not_le, -Nat.not_lt, ty3, ty4, ty9, ty24, ty29, ty50, ty109, ty111, eq24, hm, hl, hr, fi16_eq, fi17_eq, E36, q36_22, n36_10]
set_option maxHeartbeats 8000000 in
theorem L36_2 (l : List Int) (a id : Nat) (ha : a < 549755813888) (st : St) (h : FeedOk st id) (j k : Nat) (f : List Attr) (hj : j + 15 < 549755812000 + 3 * 2) (hf : f.length ≤ 2) (hk : k = 0 ∧ f = [] ∨ k = 6) (T : List (Nat × E)) (X : List (Nat × List V)) (hx : lk X 4 = some [.str [97], .str [98], .str [99], .str [100], .str [108, 111, 110, 103]]) :
    evK gS fi36 c36_10 { ps := [(0, .val (.ptr id 0)), (2, .own 0 []), (3, .own k (encAttrs f)), (4, .lp 4 0), (5, .val (.int .i64 2))], ts := T, lc := X } (setF st id l (nA l a j)) (.blk 0 (.seq c36_25 .nil)) = some (.ret (.slice (encAttrs (f ++ (attrsG l a [([99], 0), ([100], 1), ([108, 111, 110, 103], 1)] j).1))) none, setF st id l (nA l a (attrsG l a [([99], 0), ([100], 1), ([108, 111, 110, 103], 1)] j).2)) := by
  have hm : fi36.marks = [1000000] := rfl
  have hl : fi36.locals = [4] := rfl
  have hr : fi36.results = [.tmp 2] := rfl
  refine evK_loop c36_11 _ _ _ _ rfl ?_
  have hb := fd_bound l a j (n := 3) (by omega)
  have hk3 := fun fr => k16 l a j id 3 fr st h ha (by omega) (by omega)
  have hv := fun fr => k17 l a (j + 1) id fr st h ha (by omega)
  have v0 : IntKind.wrap .i64 0 = 0 := by kernel_rfl
  have bo : borOk r36_22 0 3 16 = true := by kernel_rfl
  have bh : handOk r36_22 9 24 = true := by kernel_rfl
  have hr : attrsG l a [([99], 0), ([100], 1), ([108, 111, 110, 103], 1)] j = if fd l a j 3 > 0 then (⟨[99], valueV l a (j + 1)⟩ :: (attrsG l a [([100], 1), ([108, 111, 110, 103], 1)] (j + 3)).1, (attrsG l a [([100], 1), ([108, 111, 110, 103], 1)] (j + 3)).2) else attrsG l a [([100], 1), ([108, 111, 110, 103], 1)] (j + 1) := rfl
  rw [hr]
  generalize fd l a j 3 = z at *
  by_cases hz : z > 0
  · rw [if_pos hz]
    have N := fun T X hx => L36_3 l a id ha st h (j + 3) 6 (f ++ [⟨[99], valueV l a (j + 1)⟩]) (by omega) (by rw [List.length_append]; exact Nat.add_le_add hf (Nat.le_refl 1)) (.inr rfl) T X hx
    have e1 := attrs_snoc f ⟨[99], valueV l a (j + 1)⟩
    have e2 := sizes_attrs f
    have e3 : (f.length + 1) * 64 ≤ 140737488355328 := by omega
    have e4 : f.length + 1 ≤ 140737488355328 := by omega
    have hz' : (0 : Int) < z := hz
    have a3 : j + 1 + 2 = j + 3 := rfl
    rcases hk with ⟨rfl, rfl⟩ | rfl
    · simp only [List.nil_append, List.cons_append] at N e1
      simp [-List.append_assoc, bo, bh, hx, hk3, hv, v0, w64_1, w64_2, w64_3, w64_4, w64_5, hz', a3, e1, e2, N, -Int.not_le, -Int.not_lt, -Nat.not_le, -Nat.not_lt, ty3, ty4, ty9, ty24, ty29, ty50, ty109, ty111, eq24, hm, hl, hr, fi16_eq, fi17_eq, E36, q36_22, n36_10]
    · rw [show (f ++ (⟨[99], valueV l a (j + 1)⟩ :: (attrsG l a [([100], 1), ([108, 111, 110, 103], 1)] (j + 3)).1)) = (f ++ [⟨[99], valueV l a (j + 1)⟩]) ++ (attrsG l a [([100], 1), ([108, 111, 110, 103], 1)] (j + 3)).1 by simp]
      simp only [] at e1
      simp [-List.append_assoc, bo, bh, hx, hk3, hv, v0, w64_1, w64_2, w64_3, w64_4, w64_5, hz', a3, e1, e2, e3, e4, N, -Int.not_le, -Int.not_lt, -Nat.not_le, -Nat.not_lt, ty3, ty4, ty9, ty24, ty29, ty50, ty109, ty111, eq24, hm, hl, hr, fi16_eq, fi17_eq, E36, q36_22, n36_10]
  · rw [if_neg hz]
    have N := fun T X hx => L36_3 l a id ha st h (j + 1) k f (by omega) (Nat.le_trans hf (by omega)) hk T X hx
    have hz' : ¬ (0 : Int) < z := hz
    simp [hx, hk3, hv, v0, w64_1, w64_2, w64_3, w64_4, w64_5, hz', N, -Int.not_le, -Int.not_lt, -Nat.not_le, -Nat.not_lt, ty3, ty4, ty9, ty24, ty29, ty50, ty109, ty111, eq24, hm, hl, hr, fi16_eq, fi17_eq, E36, q36_22, n36_10]
set_option maxHeartbeats 8000000 in
theorem L36_1 (l : List Int) (a id : Nat) (ha : a < 549755813888) (st : St) (h : FeedOk st id) (j k : Nat) (f : List Attr) (hj : j + 15 < 549755812000 + 3 * 1) (hf : f.length ≤ 1) (hk : k = 0 ∧ f = [] ∨ k = 6) (T : List (Nat × E)) (X : List (Nat × List V)) (hx : lk X 4 = some [.str [97], .str [98], .str [99], .str [100], .str [108, 111, 110, 103]]) :
    evK gS fi36 c36_10 { ps := [(0, .val (.ptr id 0)), (2, .own 0 []), (3, .own k (encAttrs f)), (4, .lp 4 0), (5, .val (.int .i64 1))], ts := T, lc := X } (setF st id l (nA l a j)) (.blk 0 (.seq c36_25 .nil)) = some (.ret (.slice (encAttrs (f ++ (attrsG l a [([98], 0), ([99], 0), ([100], 1), ([108, 111, 110, 103], 1)] j).1))) none, setF st id l (nA l a (attrsG l a [([98], 0), ([99], 0), ([100], 1), ([108, 111, 110, 103], 1)] j).2)) := by
  have hm : fi36.marks = [1000000] := rfl
  have hl : fi36.locals = [4] := rfl
  have hr : fi36.results = [.tmp 2] := rfl
  refine evK_loop c36_11 _ _ _ _ rfl ?_
  have hb := fd_bound l a j (n := 3) (by omega)
  have hk3 := fun fr => k16 l a j id 3 fr st h ha (by omega) (by omega)
  have hv := fun fr => k17 l a (j + 1) id fr st h ha (by omega)
  have v0 : IntKind.wrap .i64 0 = 0 := by kernel_rfl
  have bo : borOk r36_22 0 3 16 = true := by kernel_rfl
  have bh : handOk r36_22 9 24 = true := by kernel_rfl
  have hr : attrsG l a [([98], 0), ([99], 0), ([100], 1), ([108, 111, 110, 103], 1)] j = if fd l a j 3 > 0 then (⟨[98], valueV l a (j + 1)⟩ :: (attrsG l a [([99], 0), ([100], 1), ([108, 111, 110, 103], 1)] (j + 3)).1, (attrsG l a [([99], 0), ([100], 1), ([108, 111, 110, 103], 1)] (j + 3)).2) else attrsG l a [([99], 0), ([100], 1), ([108, 111, 110, 103], 1)] (j + 1) := rfl
  rw [hr]
  generalize fd l a j 3 = z at *
  by_cases hz : z > 0
  · rw [if_pos hz]
    have N := fun T X hx => L36_2 l a id ha st h (j + 3) 6 (f ++ [⟨[98], valueV l a (j + 1)⟩]) (by omega) (by rw [List.length_append]; exact Nat.add_le_add hf (Nat.le_refl 1)) (.inr rfl) T X hx
    have e1 := attrs_snoc f ⟨[98], valueV l a (j + 1)⟩
    have e2 := sizes_attrs f
    have e3 : (f.length + 1) * 64 ≤ 140737488355328 := by omega
    have e4 : f.length + 1 ≤ 140737488355328 := by omega
    have hz' : (0 : Int) < z := hz
    have a3 : j + 1 + 2 = j + 3 := rfl
    rcases hk with ⟨rfl, rfl⟩ | rfl
    · simp only [List.nil_append, List.cons_append] at N e1
      simp [-List.append_assoc, bo, bh, hx, hk3, hv, v0, w64_1, w64_2, w64_3, w64_4, w64_5, hz', a3, e1, e2, N, -Int.not_le, -Int.not_lt, -Nat.not_le, -Nat.not_lt, ty3, ty4, ty9, ty24, ty29, ty50, ty109, ty111, eq24, hm, hl, hr, fi16_eq, fi17_eq, E36, q36_22, n36_10]
    · rw [show (f ++ (⟨[98], valueV l a (j + 1)⟩ :: (attrsG l a [([99], 0), ([100], 1), ([108, 111, 110, 103], 1)] (j + 3)).1)) = (f ++ [⟨[98], valueV l a (j + 1)⟩]) ++ (attrsG l a [([99], 0), ([100], 1), ([108, 111, 110, 103], 1)] (j + 3)).1 by simp]
      simp only [] at e1
      simp [-List.append_assoc, bo, bh, hx, hk3, hv, v0, w64_1, w64_2, w64_3, w64_4, w64_5, hz', a3, e1, e2, e3, e4, N, -Int.not_le, -Int.not_lt, -Nat.not_le, -Nat.not_lt, ty3, ty4, ty9, ty24, ty29, ty50, ty109, ty111, eq24, hm, hl, hr, fi16_eq, fi17_eq, E36, q36_22, n36_10]
  · rw [if_neg hz]
    have N := fun T X hx => L36_2 l a id ha st h (j + 1) k f (by omega) (Nat.le_trans hf (by omega)) hk T X hx
    have hz' : ¬ (0 : Int) < z := hz
    simp [hx, hk3, hv, v0, w64_1, w64_2, w64_3, w64_4, w64_5, hz', N, -Int.not_le, -Int.not_lt, -Nat.not_le, -Nat.not_lt, ty3, ty4, ty9, ty24, ty29, ty50, ty109, ty111, eq24, hm, hl, hr, fi16_eq, fi17_eq, E36, q36_22, n36_10]
set_option maxHeartbeats 8000000 in
theorem L36_0 (l : List Int) (a id : Nat) (ha : a < 549755813888) (st : St) (h : FeedOk st id) (j k : Nat) (f : List Attr) (hj : j + 15 < 549755812000 + 3 * 0) (hf : f.length ≤ 0) (hk : k = 0 ∧ f = [] ∨ k = 6) (T : List (Nat × E)) (X : List (Nat × List V)) (hx : lk X 4 = some [.str [97], .str [98], .str [99], .str [100], .str [108, 111, 110, 103]]) :
    evK gS fi36 c36_10 { ps := [(0, .val (.ptr id 0)), (2, .own 0 []), (3, .own k (encAttrs f)), (4, .lp 4 0), (5, .val (.int .i64 0))], ts := T, lc := X } (setF st id l (nA l a j)) (.blk 0 (.seq c36_25 .nil)) = some (.ret (.slice (encAttrs (f ++ (attrsG l a [([97], 0), ([98], 0), ([99], 0), ([100], 1), ([108, 111, 110, 103], 1)] j).1))) none, setF st id l (nA l a (attrsG l a [([97], 0), ([98], 0), ([99], 0), ([100], 1), ([108, 111, 110, 103], 1)] j).2)) := by
  have hm : fi36.marks = [1000000] := rfl
  have hl : fi36.locals = [4] := rfl
  have hr : fi36.results = [.tmp 2] := rfl
  refine evK_loop c36_11 _ _ _ _ rfl ?_
  have hb := fd_bound l a j (n := 3) (by omega)
  have hk3 := fun fr => k16 l a j id 3 fr st h ha (by omega) (by omega)
  have hv := fun fr => k17 l a (j + 1) id fr st h ha (by omega)
  have v0 : IntKind.wrap .i64 0 = 0 := by kernel_rfl
  have bo : borOk r36_22 0 3 16 = true := by kernel_rfl
  have bh : handOk r36_22 9 24 = true := by kernel_rfl
  have hr : attrsG l a [([97], 0), ([98], 0), ([99], 0), ([100], 1), ([108, 111, 110, 103], 1)] j = if fd l a j 3 > 0 then (⟨[97], valueV l a (j + 1)⟩ :: (attrsG l a [([98], 0), ([99], 0), ([100], 1), ([108, 111, 110, 103], 1)] (j + 3)).1, (attrsG l a [([98], 0), ([99], 0), ([100], 1), ([108, 111, 110, 103], 1)] (j + 3)).2) else attrsG l a [([98], 0), ([99], 0), ([100], 1), ([108, 111, 110, 103], 1)] (j + 1) := rfl
  rw [hr]
  generalize fd l a j 3 = z at *
  by_cases hz : z > 0
  · rw [if_pos hz]
    have N := fun T X hx => L36_1 l a id ha st h (j + 3) 6 (f ++ [⟨[97], valueV l a (j + 1)⟩]) (by omega) (by rw [List.length_append]; exact Nat.add_le_add hf (Nat.le_refl 1)) (.inr rfl) T X hx
    have e1 := attrs_snoc f ⟨[97], valueV l a (j + 1)⟩
    have e2 := sizes_attrs f
    have e3 : (f.length + 1) * 64 ≤ 140737488355328 := by omega
    have e4 : f.length + 1 ≤ 140737488355328 := by omega
    have hz' : (0 : Int) < z := hz
    have a3 : j + 1 + 2 = j + 3 := rfl
    rcases hk with ⟨rfl, rfl⟩ | rfl
    · simp only [List.nil_append, List.cons_append] at N e1
      simp [-List.append_assoc, bo, bh, hx, hk3, hv, v0, w64_1, w64_2, w64_3, w64_4, w64_5, hz', a3, e1, e2, N, -Int.not_le, -Int.not_lt, -Nat.not_le, -Nat.not_lt, ty3, ty4, ty9, ty24, ty29, ty50, ty109, ty111, eq24, hm, hl, hr, fi16_eq, fi17_eq, E36, q36_22, n36_10]
    · rw [show (f ++ (⟨[97], valueV l a (j + 1)⟩ :: (attrsG l a [([98], 0), ([99], 0), ([100], 1), ([108, 111, 110, 103], 1)] (j + 3)).1)) = (f ++ [⟨[97], valueV l a (j + 1)⟩]) ++ (attrsG l a [([98], 0), ([99], 0), ([100], 1), ([108, 111, 110, 103], 1)] (j + 3)).1 by simp]
      simp only [] at e1
      simp [-List.append_assoc, bo, bh, hx, hk3, hv, v0, w64_1, w64_2, w64_3, w64_4, w64_5, hz', a3, e1, e2, e3, e4, N, -Int.not_le, -Int.not_lt, -Nat.not_le, -Nat.not_lt, ty3, ty4, ty9, ty24, ty29, ty50, ty109, ty111, eq24, hm, hl, hr, fi16_eq, fi17_eq, E36, q36_22, n36_10]
  · rw [if_neg hz]
    have N := fun T X hx => L36_1 l a id ha st h (j + 1) k f (by omega) (Nat.le_trans hf (by omega)) hk T X hx
    have hz' : ¬ (0 : Int) < z := hz
    simp [hx, hk3, hv, v0, w64_1, w64_2, w64_3, w64_4, w64_5, hz', N, -Int.not_le, -Int.not_lt, -Nat.not_le, -Nat.not_lt, ty3, ty4, ty9, ty24, ty29, ty50, ty109, ty111, eq24, hm, hl, hr, fi16_eq, fi17_eq, E36, q36_22, n36_10]
set_option maxHeartbeats 8000000 in
theorem c36 (l : List Int) (a j id : Nat) (st : St) (h : FeedOk st id) (ha : a < 549755813888) (hj : j < 549755811000) :
    EvF gS 36 [.ptr id 0] (setF st id l (nA l a j)) = some (.ret (.slice (encAttrs (attrsV l a j).1)) none, setF st id l (nA l a (attrsV l a j).2)) := by
  refine EvF_start fi36_eq (fun x h => by cases h) m36 ?_
  rw [st36]
  have hm : fi36.marks = [1000000] := rfl
  have hl : fi36.locals = [4] := rfl
  have hr : fi36.results = [.tmp 2] := rfl
  have L0 := fun T X hx => L36_0 l a id ha st h j 0 [] (by omega) (by simp) (.inl ⟨rfl, rfl⟩) T X hx
  rw [List.nil_append] at L0
  rw [show attrsV l a j = attrsG l a [([97], 0), ([98], 0), ([99], 0), ([100], 1), ([108, 111, 110, 103], 1)] j from rfl]
  rw [show encAttrs [] = [] from rfl] at L0
  simp [L0, -Int.not_le, -Int.not_lt, -Nat.not_le, -Nat.not_lt, ty3, ty4, ty9, ty24, ty29, ty50, ty109, ty111, eq24, hm, hl, hr, fi16_eq, fi17_eq, E36, q36_22, n36_10]
theorem k36 (l : List Int) (a j id : Nat)  (fr : Fr) (st : St) (h : FeedOk st id) (ha : a < 549755813888) (hj : j < 549755811000) :
    callStep gS (EvF gS) 36 [.ptr id 0] fr (setF st id l (nA l a j)) = some (.ok (.val (.slice (encAttrs (attrsV l a j).1))) (fr.map E.noMem) (setF st id l (nA l a ((attrsV l a j).2)))) := by
  unfold callStep
  simp only [show gS.ext 36 = none from rfl, fi36_eq, show fi36.pure = false from rfl, Bool.false_eq_true, if_false, c36 l a j id  st h ha (by omega), retE]
  all_goals rfl
end
end Go.Proofs.Ytclpbfkbpcjejaa
