/- FilterAll: whatever it is given, the call returns true and leaves what was there as it was; no condition. Part 7. -/
import Derived.Test.YtclpbfkbpcjejaaK6
namespace Go.Proofs.Ytclpbfkbpcjejaa
open Go Go.Ab
set_option linter.unusedVariables false
set_option linter.unusedSimpArgs false
set_option linter.unnecessarySimpa false
set_option maxRecDepth 20000
variable (fr : Fr) (st : St) (k : Kt)
noncomputable def fi35 : FI := { body := codeOf Try.f35, ntmps := 57, results := [.tmp 2], pers := [0, 2, 3, 4, 5, 6, 7], locals := [6], pure := false, marks := [43, 1000000] }
theorem fi35_eq : gS.fn 35 = some fi35 := by kernel_rfl
theorem st35 (a0 : V) : startFr fi35 [a0] = { ps := [(0, .val a0), (2, .any), (3, .any), (4, .any), (5, .any), (6, .any), (7, .any)], ts := [], lc := [] } := rfl
noncomputable def b35 : Code := mini (codeOf Try.f35)
noncomputable def c35_1 : Code := codeAt b35 [false]
theorem e35_1 : evK gS fi35 c35_1 fr st k = opsK gS fi35 [(some 2)] [mk (some 2) (.assign (.const (.slice none 0 0))) 49 none] fr.clear st fr k := evK_reg1 (i := 0) (by kernel_rfl) (by kernel_rfl)
noncomputable def c35_3 : Code := codeAt b35 [true, false]
theorem e35_3 : evK gS fi35 c35_3 fr st k = opsK gS fi35 [(some 3)] [mk (some 3) (.assign (.const (.slice none 0 0))) 49 none] fr.clear st fr k := evK_reg1 (i := 1) (by kernel_rfl) (by kernel_rfl)
noncomputable def c35_6 : Code := codeAt b35 [true, true, false, false]
theorem e35_6 : evK gS fi35 c35_6 fr st k = opsK gS fi35 [(some 8), (some 9), (some 4)] [mk (some 8) (.move (.tmp 0)) 29 none,
  mk (some 9) (.call { callee := (.value (.func 16)), args := #[(.tmp 8), (.const (.int .i64 4))], argTypes := #[29, 3] }) 3 none,
  mk (some 4) (.assign (.tmp 9)) 3 none] fr.clear st fr k := evK_reg1 (i := 2) (by kernel_rfl) (by kernel_rfl)
noncomputable def c35_11 : Code := codeAt b35 [true, true, false, true, false, false, false, false]
theorem e35_11 : evK gS fi35 c35_11 fr st k = opsK gS fi35 [(some 10), (some 11), (some 12), (some 13), (some 14), (some 15), (some 16)] [mk (some 10) (.move (.tmp 4)) 3 none,
  mk (some 11) (.binOp .gtr 3 (.tmp 10) (.const (.int .i64 0)) 3) 4 none,
  mk (some 12) (.move (.tmp 11)) 4 none,
  mk (some 13) (.move (.tmp 3)) 49 (some (2, true)),
  mk (some 14) (.call { callee := (.builtin .len), args := #[(.tmp 13)], argTypes := #[49] }) 3 (some (2, true)),
  mk (some 15) (.binOp .lss 3 (.tmp 14) (.const (.int .i64 3)) 3) 4 (some (2, true)),
  mk (some 16) (.pick (.tmp 12) (.tmp 15) (.const (.bool false))) 4 none] fr.clear st fr k := evK_reg1 (i := 3) (by kernel_rfl) (by kernel_rfl)
noncomputable def c35_13 : Code := .skip
theorem e35_13 : evK gS fi35 c35_13 fr st k = nextK gS fi35 k .normal fr st := rfl
noncomputable def c35_14 : Code := .exit 0
theorem e35_14 : evK gS fi35 c35_14 fr st k = nextK gS fi35 k (.exit 0) fr st := rfl
noncomputable def c35_12 : Code := .cond (.tmp 16) c35_13 c35_14
theorem e35_12 : evK gS fi35 c35_12 fr st k = condK gS fi35 (fr.op (.tmp 16)).bool? c35_13 c35_14 fr st k := rfl
noncomputable def c35_10 : Code := .seq c35_11 c35_12
theorem e35_10 : evK gS fi35 c35_10 fr st k = evK gS fi35 c35_11 fr st (.seq c35_12 k) := rfl
noncomputable def c35_18 : Code := codeAt b35 [true, true, false, true, false, false, true, false, false, false]
theorem e35_18 : evK gS fi35 c35_18 fr st k = opsK gS fi35 [(some 19), (some 20), (some 5)] [mk (some 19) (.move (.tmp 0)) 29 none,
  mk (some 20) (.call { callee := (.value (.func 91)), args := #[(.tmp 19)], argTypes := #[29] }) 9 none,
  mk (some 5) (.assign (.tmp 20)) 9 none] fr.clear st fr k := evK_reg1 (i := 5) (by kernel_rfl) (by kernel_rfl)
noncomputable def c35_20 : Code := codeAt b35 [true, true, false, true, false, false, true, false, false, true, false]
theorem e35_20 : evK gS fi35 c35_20 fr st k = opsK gS fi35 [(some 21), (some 22), (some 23), (some 6), none] [mk (some 21) (.move (.tmp 0)) 29 none,
  mk (some 22) (.move (.tmp 5)) 9 none,
  mk (some 23) (.call { callee := (.value (.func 29)), args := #[(.tmp 21), (.tmp 22)], argTypes := #[29, 9] }) 27 none,
  mk (some 6) (.alloc 27) 0 none,
  mk none (.store 27 (.tmp 6) (.tmp 23)) 0 none] fr.clear st fr k := evK_reg1 (i := 6) (by kernel_rfl) (by kernel_rfl)
noncomputable def c35_22 : Code := codeAt b35 [true, true, false, true, false, false, true, false, false, true, true, false]
theorem e35_22 : evK gS fi35 c35_22 fr st k = opsK gS fi35 [(some 24), (some 25), (some 7)] [mk (some 24) (.move (.tmp 3)) 49 none,
  mk (some 25) (.call { callee := (.builtin .len), args := #[(.tmp 24)], argTypes := #[49] }) 3 none,
  mk (some 7) (.assign (.tmp 25)) 3 none] fr.clear st fr k := evK_reg1 (i := 7) (by kernel_rfl) (by kernel_rfl)
noncomputable def c35_28 : Code := codeAt b35 [true, true, false, true, false, false, true, false, false, true, true, true, false, false, false, false, false]
theorem e35_28 : evK gS fi35 c35_28 fr st k = opsK gS fi35 [(some 26), (some 27), (some 28), (some 29), (some 30), (some 31), (some 32), (some 33), (some 34), (some 35), (some 36), (some 37)] [mk (some 26) (.move (.tmp 7)) 3 none,
  mk (some 27) (.binOp .gtr 3 (.tmp 26) (.const (.int .i64 0)) 3) 4 none,
  mk (some 28) (.move (.tmp 27)) 4 none,
  mk (some 29) (.move (.tmp 3)) 49 (some (2, true)),
  mk (some 30) (.move (.tmp 7)) 3 (some (2, true)),
  mk (some 31) (.binOp .sub 3 (.tmp 30) (.const (.int .i64 1)) 3) 3 (some (2, true)),
  mk (some 32) (.indexAddr 49 (.tmp 29) (.tmp 31)) 0 (some (2, true)),
  mk (some 33) (.fieldAddr 27 (.tmp 32) 0) 0 (some (2, true)),
  mk (some 34) (.load 9 (.tmp 33)) 9 (some (2, true)),
  mk (some 35) (.move (.tmp 5)) 9 (some (2, true)),
  mk (some 36) (.binOp .gtr 9 (.tmp 34) (.tmp 35) 9) 4 (some (2, true)),
  mk (some 37) (.pick (.tmp 28) (.tmp 36) (.const (.bool false))) 4 none] fr.clear st fr k := evK_reg1 (i := 8) (by kernel_rfl) (by kernel_rfl)
noncomputable def c35_30 : Code := .skip
theorem e35_30 : evK gS fi35 c35_30 fr st k = nextK gS fi35 k .normal fr st := rfl
noncomputable def c35_31 : Code := .exit 2
theorem e35_31 : evK gS fi35 c35_31 fr st k = nextK gS fi35 k (.exit 2) fr st := rfl
noncomputable def c35_29 : Code := .cond (.tmp 37) c35_30 c35_31
theorem e35_29 : evK gS fi35 c35_29 fr st k = condK gS fi35 (fr.op (.tmp 37)).bool? c35_30 c35_31 fr st k := rfl
noncomputable def c35_27 : Code := .seq c35_28 c35_29
theorem e35_27 : evK gS fi35 c35_27 fr st k = evK gS fi35 c35_28 fr st (.seq c35_29 k) := rfl
noncomputable def c35_33 : Code := codeAt b35 [true, true, false, true, false, false, true, false, false, true, true, true, false, false, false, true, false]
theorem e35_33 : evK gS fi35 c35_33 fr st k = opsK gS fi35 [(some 38), (some 39), (some 7)] [mk (some 38) (.move (.tmp 7)) 3 none,
  mk (some 39) (.binOp .sub 3 (.tmp 38) (.const (.int .i64 1)) 3) 3 none,
  mk (some 7) (.assign (.tmp 39)) 3 none] fr.clear st fr k := evK_reg1 (i := 9) (by kernel_rfl) (by kernel_rfl)
noncomputable def c35_32 : Code := .block 3 c35_33
theorem e35_32 : evK gS fi35 c35_32 fr st k = evK gS fi35 c35_33 fr st (.blk 3 k) := rfl
noncomputable def c35_26 : Code := .seq c35_27 c35_32
theorem e35_26 : evK gS fi35 c35_26 fr st k = evK gS fi35 c35_27 fr st (.seq c35_32 k) := rfl
noncomputable def c35_25 : Code := .loop c35_26
noncomputable def c35_24 : Code := .block 2 c35_25
theorem e35_24 : evK gS fi35 c35_24 fr st k = evK gS fi35 c35_25 fr st (.blk 2 k) := rfl
noncomputable def c35_35 : Code := codeAt b35 [true, true, false, true, false, false, true, false, false, true, true, true, true, false]
theorem e35_35 : evK gS fi35 c35_35 fr st k = opsK gS fi35 [(some 40), (some 41), (some 42), (some 43), (some 3)] [mk (some 40) (.move (.tmp 3)) 49 none,
  mk (some 41) (.build 27 #[]) 27 none,
  mk (some 42) (.buildSlice 49 1 #[(0, (.tmp 41))]) 49 none,
  mk (some 43) (.call { callee := (.builtin .append), args := #[(.tmp 40), (.tmp 42)], argTypes := #[49, 49] }) 49 none,
  mk (some 3) (.assign (.tmp 43)) 49 none] fr.clear st fr k := evK_reg1 (i := 10) (by kernel_rfl) (by kernel_rfl)
noncomputable def r35_37 : Array Oper := regOps (codeAt (codeOf Try.f35) [true, true, false, true, false, false, true, false, false, true, true, true, true, true, false])
noncomputable def c35_37 : Code := .region 11 r35_37 true
noncomputable def q35_37 : List (Oper × Fl) := [(mk (some 44) (.move (.tmp 3)) 49 none, ⟨true, false, true, false, false, false, true, true, false, false, []⟩),
  (mk (some 45) (.move (.tmp 7)) 3 none, ⟨true, false, true, false, false, false, true, true, false, false, []⟩),
  (mk (some 46) (.binOp .add 3 (.tmp 45) (.const (.int .i64 1)) 3) 3 none, ⟨true, false, true, false, false, false, true, true, false, false, []⟩),
  (mk (some 47) (.slice 49 (.tmp 44) (some (.tmp 46)) none none) 49 none, ⟨true, false, true, false, false, false, true, true, false, false, []⟩),
  (mk (some 48) (.move (.tmp 3)) 49 none, ⟨true, false, true, false, false, false, true, true, false, false, []⟩),
  (mk (some 49) (.move (.tmp 7)) 3 none, ⟨true, false, true, false, true, false, true, true, false, false, []⟩),
  (mk (some 50) (.slice 49 (.tmp 48) (some (.tmp 49)) none none) 49 none, ⟨true, false, true, false, true, false, true, true, false, false, []⟩),
  (mk (some 51) (.call { callee := (.builtin .copy), args := #[(.tmp 47), (.tmp 50)], argTypes := #[49, 49] }) 3 none, ⟨false, true, true, false, true, false, true, true, false, false, []⟩)]
theorem e35_37 : evK gS fi35 c35_37 fr st k = drwK gS fi35 r35_37 [(some 44), (some 45), (some 46), (some 47), (some 48), (some 49), (some 50), (some 51)] q35_37 0 fr.clear st fr k := by
  rw [evK_draw (g := gS) (fi := fi35) (c := c35_37) 11 r35_37 q35_37 fr st k rfl (by kernel_rfl) (by kernel_rfl), show r35_37.toList.map (·.dst) = [(some 44), (some 45), (some 46), (some 47), (some 48), (some 49), (some 50), (some 51)] from by kernel_rfl]
noncomputable def c35_38 : Code := codeAt b35 [true, true, false, true, false, false, true, false, false, true, true, true, true, true, true]
theorem e35_38 : evK gS fi35 c35_38 fr st k = opsK gS fi35 [(some 52), (some 53), (some 54), (some 55), none] [mk (some 52) (.move (.tmp 3)) 49 none,
  mk (some 53) (.move (.tmp 7)) 3 none,
  mk (some 54) (.load 27 (.tmp 6)) 27 none,
  mk (some 55) (.indexAddr 49 (.tmp 52) (.tmp 53)) 0 none,
  mk none (.store 27 (.tmp 55) (.tmp 54)) 0 none] fr.clear st fr k := evK_reg1 (i := 12) (by kernel_rfl) (by kernel_rfl)
noncomputable def c35_36 : Code := .seq c35_37 c35_38
theorem e35_36 : evK gS fi35 c35_36 fr st k = evK gS fi35 c35_37 fr st (.seq c35_38 k) := rfl
noncomputable def c35_34 : Code := .seq c35_35 c35_36
theorem e35_34 : evK gS fi35 c35_34 fr st k = evK gS fi35 c35_35 fr st (.seq c35_36 k) := rfl
noncomputable def c35_23 : Code := .seq c35_24 c35_34
theorem e35_23 : evK gS fi35 c35_23 fr st k = evK gS fi35 c35_24 fr st (.seq c35_34 k) := rfl
noncomputable def c35_21 : Code := .seq c35_22 c35_23
theorem e35_21 : evK gS fi35 c35_21 fr st k = evK gS fi35 c35_22 fr st (.seq c35_23 k) := rfl
noncomputable def c35_19 : Code := .seq c35_20 c35_21
theorem e35_19 : evK gS fi35 c35_19 fr st k = evK gS fi35 c35_20 fr st (.seq c35_21 k) := rfl
noncomputable def c35_17 : Code := .seq c35_18 c35_19
theorem e35_17 : evK gS fi35 c35_17 fr st k = evK gS fi35 c35_18 fr st (.seq c35_19 k) := rfl
noncomputable def c35_16 : Code := .block 1 c35_17
theorem e35_16 : evK gS fi35 c35_16 fr st k = evK gS fi35 c35_17 fr st (.blk 1 k) := rfl
noncomputable def c35_39 : Code := codeAt b35 [true, true, false, true, false, false, true, true]
theorem e35_39 : evK gS fi35 c35_39 fr st k = opsK gS fi35 [(some 17), (some 18), (some 4)] [mk (some 17) (.move (.tmp 4)) 3 none,
  mk (some 18) (.binOp .sub 3 (.tmp 17) (.const (.int .i64 1)) 3) 3 none,
  mk (some 4) (.assign (.tmp 18)) 3 none] fr.clear st fr k := evK_reg1 (i := 4) (by kernel_rfl) (by kernel_rfl)
noncomputable def c35_15 : Code := .seq c35_16 c35_39
theorem e35_15 : evK gS fi35 c35_15 fr st k = evK gS fi35 c35_16 fr st (.seq c35_39 k) := rfl
noncomputable def c35_9 : Code := .seq c35_10 c35_15
theorem e35_9 : evK gS fi35 c35_9 fr st k = evK gS fi35 c35_10 fr st (.seq c35_15 k) := rfl
noncomputable def c35_8 : Code := .loop c35_9
noncomputable def c35_7 : Code := .block 0 c35_8
theorem e35_7 : evK gS fi35 c35_7 fr st k = evK gS fi35 c35_8 fr st (.blk 0 k) := rfl
noncomputable def c35_5 : Code := .seq c35_6 c35_7
theorem e35_5 : evK gS fi35 c35_5 fr st k = evK gS fi35 c35_6 fr st (.seq c35_7 k) := rfl
noncomputable def c35_41 : Code := codeAt b35 [true, true, true, false]
theorem e35_41 : evK gS fi35 c35_41 fr st k = opsK gS fi35 [(some 56), (some 2)] [mk (some 56) (.move (.tmp 3)) 49 none,
  mk (some 2) (.assign (.tmp 56)) 49 none] fr.clear st fr k := evK_reg1 (i := 13) (by kernel_rfl) (by kernel_rfl)
noncomputable def c35_42 : Code := .ret
theorem e35_42 : evK gS fi35 c35_42 fr st k = nextK gS fi35 k .ret fr st := rfl
noncomputable def c35_40 : Code := .seq c35_41 c35_42
theorem e35_40 : evK gS fi35 c35_40 fr st k = evK gS fi35 c35_41 fr st (.seq c35_42 k) := rfl
noncomputable def c35_4 : Code := .seq c35_5 c35_40
theorem e35_4 : evK gS fi35 c35_4 fr st k = evK gS fi35 c35_5 fr st (.seq c35_40 k) := rfl
noncomputable def c35_2 : Code := .seq c35_3 c35_4
theorem e35_2 : evK gS fi35 c35_2 fr st k = evK gS fi35 c35_3 fr st (.seq c35_4 k) := rfl
noncomputable def c35_0 : Code := .seq c35_1 c35_2
theorem e35_0 : evK gS fi35 c35_0 fr st k = evK gS fi35 c35_1 fr st (.seq c35_2 k) := rfl
theorem m35 : mini fi35.body = c35_0 := by kernel_rfl
theorem n35_25 (fr : Fr) (st : St) (k : Kt) : nextK gS fi35 (.loop c35_26 k) .normal fr st = evK gS fi35 c35_25 fr st k := rfl
theorem n35_8 (fr : Fr) (st : St) (k : Kt) : nextK gS fi35 (.loop c35_9 k) .normal fr st = evK gS fi35 c35_8 fr st k := rfl
set_option maxHeartbeats 8000000 in
theorem I35 (nm : List UInt8) (f : List Pred) (idl : Nat) (st : St) (ho : St.obj st idl = some (f.flatMap Pred.cells)) (hfn : f.length < 1000) (R : Out × St) (e0 e4 : E) (h0 : e0.Tame) (h4 : e4.Tame) (X : List (Nat × List V)) (at0 : Nat)
    (H : ∀ T, evK gS fi35 c35_34 { ps := [(0, e0), (2, .own 0 []), (3, .val (.sref false 13 idl 0 f.length)), (4, e4), (5, .val (.str nm)), (6, .lp 6 0), (7, .val (.int .i64 at0))], ts := T, lc := X } st (.blk 1 (.seq c35_39 (.loop c35_9 (.blk 0 (.seq c35_40 .nil))))) = some R) :
    ∀ (k : Nat) (T : List (Nat × E)), k ≤ f.length → at0 = insN f nm k →
    evK gS fi35 c35_25 { ps := [(0, e0), (2, .own 0 []), (3, .val (.sref false 13 idl 0 f.length)), (4, e4), (5, .val (.str nm)), (6, .lp 6 0), (7, .val (.int .i64 k))], ts := T, lc := X } st (.blk 2 (.seq c35_34 (.blk 1 (.seq c35_39 (.loop c35_9 (.blk 0 (.seq c35_40 .nil))))))) = some R := by
  intro k
  have hm : fi35.marks = [43, 1000000] := rfl
  have hl : fi35.locals = [6] := rfl
  have hr : fi35.results = [.tmp 2] := rfl
  induction k with
  | zero =>
    intro T hk hat
    refine evK_loop c35_26 _ _ _ _ rfl ?_
    have h00 : insN f nm 0 = 0 := rfl
    rw [h00] at hat
    subst hat
    simp only [show ((0 : Nat) : Int) = 0 from rfl] at H ⊢
    simp [-St.obj, -St.set, h0, h4, H, -Int.not_le, -Int.not_lt, -Nat.not_le, -Nat.not_lt, ty3, ty4, ty9, ty27, ty29, ty49, hm, hl, hr, fi16_eq, fi29_eq, fi91_eq, e35_1, e35_3, e35_6, e35_11, e35_13, e35_14, e35_12, e35_10, e35_18, e35_20, e35_22, e35_28, e35_30, e35_31, e35_29, e35_27, e35_33, e35_32, e35_26, e35_24, e35_35, e35_37, q35_37, e35_38, e35_36, e35_23, e35_21, e35_19, e35_17, e35_16, e35_39, e35_15, e35_9, e35_7, e35_5, e35_41, e35_42, e35_40, e35_4, e35_2, e35_0, n35_25, n35_8]
  | succ k ih =>
    intro T hk hat
    refine evK_loop c35_26 _ _ _ _ rfl ?_
    obtain ⟨x, hx⟩ : ∃ x, f[k]? = some x := ⟨f[k]'(by omega), List.getElem?_eq_getElem (by omega)⟩
    have hget := row_get Pred.cells 13 pcells_len hx (j := 0) (by omega)
    have hc0 : (Pred.cells x)[0]? = some (.str x.name) := rfl
    rw [hc0, Nat.add_zero] at hget
    have hins : insN f nm (k + 1) = if sgt x.name nm then insN f nm k else k + 1 := by
      show (if sgt ((f[k]?).getD ⟨[], 0, vzero, vzero, []⟩).name nm then insN f nm k else k + 1) = _
      rw [hx]; rfl
    rw [hins] at hat
    have hw1 : IntKind.wrap .i64 (((k + 1 : Nat) : Int) - 1) = (k : Int) := by rw [wrap64 (by omega) (by omega)]; omega
    have hp : (0 : Int) < ((k + 1 : Nat) : Int) := by omega
    have hlt : (k : Int) < (f.length : Int) := by omega
    have hlt2 : k < f.length := by omega
    have hsg : (!(Op.bytesLess x.name nm || decide (x.name = nm))) = sgt x.name nm := rfl
    cases hs : sgt x.name nm with
    | true =>
      rw [hs] at hsg hat
      have IH := fun T => ih T (by omega) (by rw [hat]; rfl)
      simp [-Int.natCast_add, -Bool.not_or, -St.obj, -St.set, h0, h4, ho, hget, hw1, hp, hlt, hlt2, hsg, IH, -Int.not_le, -Int.not_lt, -Nat.not_le, -Nat.not_lt, ty3, ty4, ty9, ty27, ty29, ty49, hm, hl, hr, fi16_eq, fi29_eq, fi91_eq, e35_1, e35_3, e35_6, e35_11, e35_13, e35_14, e35_12, e35_10, e35_18, e35_20, e35_22, e35_28, e35_30, e35_31, e35_29, e35_27, e35_33, e35_32, e35_26, e35_24, e35_35, e35_37, q35_37, e35_38, e35_36, e35_23, e35_21, e35_19, e35_17, e35_16, e35_39, e35_15, e35_9, e35_7, e35_5, e35_41, e35_42, e35_40, e35_4, e35_2, e35_0, n35_25, n35_8]
    | false =>
      rw [hs] at hsg hat
      have hat2 : at0 = k + 1 := by rw [hat]; rfl
      subst hat2
      simp [-Int.natCast_add, -Bool.not_or, -St.obj, -St.set, h0, h4, ho, hget, hw1, hp, hlt, hlt2, hsg, H, -Int.not_le, -Int.not_lt, -Nat.not_le, -Nat.not_lt, ty3, ty4, ty9, ty27, ty29, ty49, hm, hl, hr, fi16_eq, fi29_eq, fi91_eq, e35_1, e35_3, e35_6, e35_11, e35_13, e35_14, e35_12, e35_10, e35_18, e35_20, e35_22, e35_28, e35_30, e35_31, e35_29, e35_27, e35_33, e35_32, e35_26, e35_24, e35_35, e35_37, q35_37, e35_38, e35_36, e35_23, e35_21, e35_19, e35_17, e35_16, e35_39, e35_15, e35_9, e35_7, e35_5, e35_41, e35_42, e35_40, e35_4, e35_2, e35_0, n35_25, n35_8]
theorem ins_shift (f : List Pred) (z p : Pred) {i : Nat} (hi : i ≤ f.length) :
    (((f ++ [z]).take (i + 1) ++ ((f ++ [z]).drop i).take (f.length - i)).take i ++ [p] ++ ((f ++ [z]).take (i + 1) ++ ((f ++ [z]).drop i).take (f.length - i)).drop (i + 1)) = f.take i ++ p :: f.drop i := by
  have h1 : ((f ++ [z]).take (i + 1)).length = i + 1 := by simp; omega
  rw [List.take_append_of_le_length (by omega), List.take_take, Nat.min_eq_left (by omega), List.take_append_of_le_length hi, List.drop_append, h1, Nat.sub_self, List.drop_zero, List.drop_of_length_le (by omega), List.nil_append]
  rw [List.drop_append_of_le_length hi, List.take_append_of_le_length (by simp), List.take_of_length_le (l := f.drop i) (by simp)]
  simp
set_option maxHeartbeats 8000000 in
theorem T35_34 (f : List Pred) (hne : f ≠ []) (p : Pred) (hfn : f.length < 1000) (i : Nat) (hi : i ≤ f.length) (id m q : Nat) (st : St) (h : FeedOk st id) (l : List Int) (A : Nat) (nm : List UInt8) (r : Nat) (hr : r < 1000) (R : Out × St)
    (e0 : E) (h0 : e0.Tame) (X : List (Nat × List V)) (hx : lk X 6 = some p.cells) (T : List (Nat × E))
    (IH : ∀ T, evK gS fi35 c35_8 { ps := [(0, e0), (2, .own 0 []), (3, .val (.sref false 13 (st.objs.length + (m + 1 + q)) 0 (f.length + 1))), (4, .val (.int .i64 r)), (5, .val (.str nm)), (6, .lp 6 0), (7, .val (.int .i64 i))], ts := T, lc := X } (setF (nw st (m + 1 + q) ((f.take i ++ p :: f.drop i).flatMap Pred.cells)) id l A) (.blk 0 (.seq c35_40 .nil)) = some R) :
    evK gS fi35 c35_34 { ps := [(0, e0), (2, .own 0 []), (3, .val (.sref false 13 (st.objs.length + m) 0 f.length)), (4, .val (.int .i64 ((r + 1 : Nat) : Int))), (5, .val (.str nm)), (6, .lp 6 0), (7, .val (.int .i64 i))], ts := T, lc := X } (setF (dd (nw st m (f.flatMap Pred.cells)) q) id l A) (.blk 1 (.seq c35_39 (.loop c35_9 (.blk 0 (.seq c35_40 .nil))))) = some R := by
  have hm : fi35.marks = [43, 1000000] := rfl
  have hl : fi35.locals = [6] := rfl
  have hr : fi35.results = [.tmp 2] := rfl
  have ho := obj_mid h m q (f.flatMap Pred.cells) l A
  have hk := set_mid h m q (f.flatMap Pred.cells) l A
  have hn := fun fr k len cs => newRef_dd h fr (m + 1 + q) k len cs l A
  have hz : f.flatMap Pred.cells ++ [.str [], .int .i64 0, .int .i64 0, .int .i64 0, .float .f64 0, .str [], .bool false, .int .i64 0, .int .i64 0, .float .f64 0, .str [], .bool false, .slice []] = (f ++ [pzero]).flatMap Pred.cells := by simp [pzero, vzero, encVals]
  have hst := row_strip Pred.cells Pred.cells pcells_strip f
  have hon := row_one Pred.cells pcells_one f
  have hle := row_len Pred.cells 13 pcells_len f
  have hfl : 0 < f.length := List.length_pos_iff.2 hne
  have b1 : (f.length + 1) * 144 ≤ 140737488355328 := by omega
  have b2 : f.length + 1 ≤ 140737488355328 := by omega
  have hw1 : IntKind.wrap .i64 ((i : Int) + 1) = ((i + 1 : Nat) : Int) := by rw [wrap64 (by omega) (by omega)]; omega
  have hw2 : IntKind.wrap .i64 (((r + 1 : Nat) : Int) - 1) = (r : Int) := by rw [wrap64 (by omega) (by omega)]; omega
  have ho2 := obj_gr h (m + 1 + q) ((f ++ [pzero]).flatMap Pred.cells) l A
  have hel := elems_row ho2 false (i := i) (by simp; omega)
  rw [List.length_append, List.length_singleton] at hel
  have hlen : (f ++ [pzero]).length = f.length + 1 := by simp
  generalize hE0 : f ++ [pzero] = E0 at *
  have hsh := ins_shift f pzero p hi
  rw [hE0] at hsh
  have hs1 := sizes_preds (E0.drop i)
  have hdl : (E0.drop i).length = f.length + 1 - i := by simp [hlen]
  have c1 : ((i + 1 : Nat) : Int) ≤ (f.length : Int) + 1 := by omega
  have c2 : (i : Int) ≤ (f.length : Int) + 1 := by omega
  have c3 : (i : Int) < (f.length : Int) + 1 := by omega
  have hst2 := fun cs cs' => set_gr' h (m + 1 + q) cs cs' l A
  have hspl := row_splices Pred.cells 13 pcells_len E0 ((E0.drop i).take (f.length - i)) (i + 1) (by rw [List.length_take, hdl, hlen]; omega)
  have hE1 : E0.take (i + 1) ++ (E0.drop i).take (f.length - i) ++ E0.drop (i + 1 + ((E0.drop i).take (f.length - i)).length) = E0.take (i + 1) ++ (E0.drop i).take (f.length - i) := by
    have hd0 : E0.drop (i + 1 + ((E0.drop i).take (f.length - i)).length) = [] := List.drop_of_length_le (by rw [List.length_take, hdl, hlen]; omega)
    rw [hd0, List.append_nil]
  rw [hE1] at hspl
  generalize hE1g : E0.take (i + 1) ++ (E0.drop i).take (f.length - i) = E1 at *
  have hl1 : E1.length = f.length + 1 := by rw [← hE1g, List.length_append, List.length_take, List.length_take, hdl, hlen]; omega
  have hspl2 := row_splices Pred.cells 13 pcells_len E1 [p] i (by rw [hl1, List.length_singleton]; omega)
  rw [List.length_singleton, hsh] at hspl2
  have hpc : [p].flatMap Pred.cells = p.cells := by simp
  rw [hpc] at hspl2
  simp only [Pred.cells] at hspl2 hx
  have hmc : ∀ k, ((encPreds (E0.drop i)).take k).flatMap V.cells = ((E0.drop i).take k).flatMap Pred.cells := fun k => by
    rw [show (encPreds (E0.drop i)).take k = encPreds ((E0.drop i).take k) from by simp [encPreds], enc_cells]
  have hone := row_one Pred.cells pcells_one ((E0.drop i).take (f.length - i))
  have hrl := row_len Pred.cells 13 pcells_len ((E0.drop i).take (f.length - i))
  have ho1 := obj_gr h (m + 1 + q) (E1.flatMap Pred.cells) l A
  have hcp : ∀ n : Nat, (f.length + 1 - i - (n + 1)) = f.length - i - n := fun n => by omega
  have hsz : splice [.str [], .int .i64 0, .int .i64 0, .int .i64 0, .float .f64 0, .str [], .bool false, .int .i64 0, .int .i64 0, .float .f64 0, .str [], .bool false, .osl 0 []] 0 [.str [], .int .i64 0, .int .i64 0, .int .i64 0, .float .f64 0, .str [], .bool false, .int .i64 0, .int .i64 0, .float .f64 0, .str [], .bool false, .slice []] = some [.str [], .int .i64 0, .int .i64 0, .int .i64 0, .float .f64 0, .str [], .bool false, .int .i64 0, .int .i64 0, .float .f64 0, .str [], .bool false, .slice []] := rfl
  have heo : ∀ (ea : Bool) (k : Nat) (st : St) (n : Nat) (xs : List V), elemsAt ea k st (.own n xs) = some xs := fun _ _ _ _ _ => rfl
  by_cases hil : i = f.length
  · have hE01 : E1 = E0 := by
      rw [← hE1g, hil, Nat.sub_self, List.take_zero, List.append_nil, List.take_of_length_le (by omega)]
    subst hil
    rw [Nat.add_sub_cancel_left] at hel
    rw [hE01] at hspl2
    clear hE1 hE1g hspl hsh hone hrl ho1 hcp hmc hpc
    have hd1 : (E0.drop f.length).length = 1 := by rw [hdl]; omega
    simp [-Int.natCast_add, -St.obj, -St.set, -splice, h0, ho, hk, hn, hz, hst, hon, hle, hfl, b1, b2, hw1, hw2, ho2, hel, hlen, hs1, hd1, hspl2, hst2, hsz, heo, copyStep, markStep, markAppend, hx, IH, -Int.not_le, -Int.not_lt, -Nat.not_le, -Nat.not_lt, ty3, ty4, ty9, ty27, ty29, ty49, hm, hl, hr, fi16_eq, fi29_eq, fi91_eq, e35_1, e35_3, e35_6, e35_11, e35_13, e35_14, e35_12, e35_10, e35_18, e35_20, e35_22, e35_28, e35_30, e35_31, e35_29, e35_27, e35_33, e35_32, e35_26, e35_24, e35_35, e35_37, q35_37, e35_38, e35_36, e35_34, e35_23, e35_21, e35_19, e35_17, e35_16, e35_39, e35_15, e35_9, e35_7, e35_5, e35_41, e35_42, e35_40, e35_4, e35_2, e35_0, n35_25, n35_8]
    simpa [Pred.cells] using IH [(18, .val (.int .i64 (r : Int))), (17, .val (.int .i64 ((r + 1 : Nat) : Int)))]
  · have hmin : min (f.length + 1 - i) (f.length - i) = f.length - i := by omega
    have hlei : ¬ f.length ≤ i := by omega
    have hne0 : ¬ (f.length - i = 0) := by omega
    have hrl2 : (((E0.drop i).take (f.length - i)).flatMap Pred.cells).length = (f.length - i) * 13 := by rw [hrl, List.length_take, hdl]; congr 1; omega
    have hpos2 : 0 < (f.length - i) * 13 := by omega
    have hpos3 : i < f.length := by omega
    have c6 : ((i + 1 : Nat) : Int) ≤ ((f.length + 1 : Nat) : Int) := by omega
    have c7 : (i : Int) ≤ ((f.length + 1 : Nat) : Int) := by omega
    have c8 : (i : Int) < ((f.length + 1 : Nat) : Int) := by omega
    have c9 : (0 : Int) ≤ ((i + 1 : Nat) : Int) := by omega
    have c10 : ¬ i = f.length + 1 := by omega
    simp [-Int.natCast_add, -List.flatMap_append, -St.obj, -St.set, -splice, h0, ho, hk, hn, hz, hst, hon, hle, hfl, b1, b2, hw1, hw2, ho1, ho2, hel, hlen, hs1, hdl, hmin, hlei, hne0, hrl2, hpos2, hpos3, hil, c6, c7, c8, c9, c10, hmc, hone, hspl, hspl2, hst2, hsz, heo, copyStep, markStep, markAppend, hx, -Int.not_le, -Int.not_lt, -Nat.not_le, -Nat.not_lt, ty3, ty4, ty9, ty27, ty29, ty49, hm, hl, hr, fi16_eq, fi29_eq, fi91_eq, e35_1, e35_3, e35_6, e35_11, e35_13, e35_14, e35_12, e35_10, e35_18, e35_20, e35_22, e35_28, e35_30, e35_31, e35_29, e35_27, e35_33, e35_32, e35_26, e35_24, e35_35, e35_37, q35_37, e35_38, e35_36, e35_34, e35_23, e35_21, e35_19, e35_17, e35_16, e35_39, e35_15, e35_9, e35_7, e35_5, e35_41, e35_42, e35_40, e35_4, e35_2, e35_0, n35_25, n35_8]
    exact IH _
set_option maxHeartbeats 8000000 in
theorem L35 (l : List Int) (a id : Nat) (ha : a < 549755813888) (st : St) (h : FeedOk st id) : ∀ (r j m : Nat) (f : List Pred) (e5 e6 e7 : E) (T : List (Nat × E)) (X : List (Nat × List V)) (h5 : e5.Tame) (h6 : e6.Tame) (h7 : e7.Tame), f ≠ [] → f.length + r ≤ 3 → j + 20 * r < 549755810000 →
    evK gS fi35 c35_8 { ps := [(0, .val (.ptr id 0)), (2, .own 0 []), (3, .val (.sref false 13 (st.objs.length + m) 0 f.length)), (4, .val (.int .i64 r)), (5, e5), (6, e6), (7, e7)], ts := T, lc := X } (setF (nw st m (f.flatMap Pred.cells)) id l (nA l a j)) (.blk 0 (.seq c35_40 .nil)) = some (.ret (.slice (encPreds (filterG l a r j (m + 1) f).1)) none, setF (dd st (filterG l a r j (m + 1) f).2.2) id l (nA l a (filterG l a r j (m + 1) f).2.1)) := by
  intro r
  have hm : fi35.marks = [43, 1000000] := rfl
  have hl : fi35.locals = [6] := rfl
  have hr : fi35.results = [.tmp 2] := rfl
  induction r with
  | zero =>
    intro j m f e5 e6 e7 T X h5 h6 h7 hne hlr hj
    refine evK_loop c35_9 _ _ _ _ rfl ?_
    have hz := frz_preds 5 (st.objs.length + m) f hne (obj_gr h m _ l (nA l a j)) (set_gr h m _ l (nA l a j))
    rw [show filterG l a 0 j (m + 1) f = (f, j, m + 1) from rfl]
    simp [-St.obj, -St.set, h5, h6, h7, hz, -Int.not_le, -Int.not_lt, -Nat.not_le, -Nat.not_lt, ty3, ty4, ty9, ty27, ty29, ty49, hm, hl, hr, fi16_eq, fi29_eq, fi91_eq, e35_1, e35_3, e35_6, e35_11, e35_13, e35_14, e35_12, e35_10, e35_18, e35_20, e35_22, e35_28, e35_30, e35_31, e35_29, e35_27, e35_33, e35_32, e35_26, e35_24, e35_35, e35_37, q35_37, e35_38, e35_36, e35_34, e35_23, e35_21, e35_19, e35_17, e35_16, e35_39, e35_15, e35_9, e35_7, e35_5, e35_41, e35_42, e35_40, e35_4, e35_2, e35_0, n35_25, n35_8]
  | succ r ih =>
    intro j m f e5 e6 e7 T X h5 h6 h7 hne hlr hj
    refine evK_loop c35_9 _ _ _ _ rfl ?_
    have hn := fun fr => k91 l a j id fr (nw st m (f.flatMap Pred.cells)) (h.nw m _) ha (by omega)
    have hp := fun fr => k29 l a (j + 1) id (nameV l a j) fr (nw st m (f.flatMap Pred.cells)) (h.nw m _) ha (by omega)
    have hg : filterG l a (r + 1) j (m + 1) f = filterG l a r (j + 1 + (predV l a (j + 1) (nameV l a j)).2) (m + 1 + (predV l a (j + 1) (nameV l a j)).1.set.length + 1) (insP f (predV l a (j + 1) (nameV l a j)).1 (nameV l a j)) := rfl
    rw [hg]
    have hpa := pred_asks l a (j + 1) (nameV l a j)
    generalize nameV l a j = nm at *
    generalize predV l a (j + 1) nm = P at *
    obtain ⟨p, k⟩ := P
    simp only at hp hg hpa ⊢
    have c1 : (0 : Int) < ((r + 1 : Nat) : Int) := by omega
    have c2 : (f.length : Int) < 3 := by omega
    have c3 : f.length < 3 := by omega
    have hil := insP_length f p nm
    have hi := insN_le f nm f.length
    have ipe : insP f p nm ≠ [] := by intro e; rw [e] at hil; simp at hil
    have IH := fun T X => ih (j + 1 + k) (m + 1 + p.set.length) (insP f p nm) (.val (.str nm)) (.lp 6 0) (.val (.int .i64 (insN f nm f.length))) T X rfl rfl rfl ipe (by rw [hil]; omega) (by omega)
    rw [hil] at IH
    simp only [insP] at IH ⊢
    have TT := fun X hx T => T35_34 f hne p (by omega) (insN f nm f.length) hi id m p.set.length st h l (nA l a (j + 1 + k)) nm r (by omega) _ (.val (.ptr id 0)) rfl X hx T (fun T => IH T X)
    have II := fun X hx T => I35 nm f (st.objs.length + m) (setF (dd (nw st m (f.flatMap Pred.cells)) p.set.length) id l (nA l a (j + 1 + k))) (obj_mid h m p.set.length _ l _) (by omega) _ (.val (.ptr id 0)) (.val (.int .i64 ((r + 1 : Nat) : Int))) rfl rfl X (insN f nm f.length) (fun T => TT X hx T) f.length T (Nat.le_refl _) rfl
    simp [-Int.natCast_add, -St.obj, -St.set, -List.flatMap_append, h5, h6, h7, hn, hp, c1, c2, c3, -Int.not_le, -Int.not_lt, -Nat.not_le, -Nat.not_lt, ty3, ty4, ty9, ty27, ty29, ty49, hm, hl, hr, fi16_eq, fi29_eq, fi91_eq, e35_1, e35_3, e35_6, e35_11, e35_13, e35_14, e35_12, e35_10, e35_18, e35_20, e35_22, e35_28, e35_30, e35_31, e35_29, e35_27, e35_33, e35_32, e35_26, e35_24, e35_35, e35_37, q35_37, e35_38, e35_36, e35_34, e35_23, e35_21, e35_19, e35_17, e35_16, e35_39, e35_15, e35_9, e35_7, e35_5, e35_41, e35_42, e35_40, e35_4, e35_2, e35_0, n35_25, n35_8]
    refine II _ ?_ _
    simp
set_option maxHeartbeats 8000000 in
theorem c35 (l : List Int) (a j id : Nat) (st : St) (h : FeedOk st id) (ha : a < 549755813888) (hj : j < 549755809000) :
    EvF gS 35 [.ptr id 0] (setF st id l (nA l a j)) = some (.ret (.slice (encPreds (filterV l a j).1)) none, setF (dd st (filterV l a j).2.2) id l (nA l a (filterV l a j).2.1)) := by
  refine EvF_start fi35_eq (fun x h => by cases h) m35 ?_
  rw [st35]
  have hm : fi35.marks = [43, 1000000] := rfl
  have hl : fi35.locals = [6] := rfl
  have hr : fi35.results = [.tmp 2] := rfl
  have hb := fd_bound l a j (n := 4) (by omega)
  have hk := fun fr => k16 l a j id 4 fr st h ha (by omega) (by omega)
  unfold filterV
  generalize fd l a j 4 = z at *
  obtain ⟨r, rfl⟩ : ∃ r : Nat, z = (r : Int) := ⟨z.toNat, by omega⟩
  rw [Int.toNat_natCast]
  simp [-St.obj, -St.set, hk, -Int.not_le, -Int.not_lt, -Nat.not_le, -Nat.not_lt, ty3, ty4, ty9, ty27, ty29, ty49, hm, hl, hr, fi16_eq, fi29_eq, fi91_eq, e35_1, e35_3, e35_6, e35_11, e35_13, e35_14, e35_12, e35_10, e35_18, e35_20, e35_22, e35_28, e35_30, e35_31, e35_29, e35_27, e35_33, e35_32, e35_26, e35_24, e35_35, e35_37, q35_37, e35_38, e35_36, e35_34, e35_23, e35_21, e35_19, e35_17, e35_16, e35_39, e35_15, e35_9, e35_7, e35_5, e35_41, e35_42, e35_40, e35_4, e35_2, e35_0, n35_25, n35_8]
  cases r with
  | zero =>
    refine evK_loop c35_9 _ _ _ _ rfl ?_
    have hz : ∀ st, frz 6 st (.slice []) = some (.slice [], st) := fun st => frz_flat 6 st _ rfl
    rw [show filterG l a 0 (j + 1) 0 [] = ([], j + 1, 0) from rfl]
    simp [-St.obj, -St.set, hz, dd_zero, encPreds, -Int.not_le, -Int.not_lt, -Nat.not_le, -Nat.not_lt, ty3, ty4, ty9, ty27, ty29, ty49, hm, hl, hr, fi16_eq, fi29_eq, fi91_eq, e35_1, e35_3, e35_6, e35_11, e35_13, e35_14, e35_12, e35_10, e35_18, e35_20, e35_22, e35_28, e35_30, e35_31, e35_29, e35_27, e35_33, e35_32, e35_26, e35_24, e35_35, e35_37, q35_37, e35_38, e35_36, e35_34, e35_23, e35_21, e35_19, e35_17, e35_16, e35_39, e35_15, e35_9, e35_7, e35_5, e35_41, e35_42, e35_40, e35_4, e35_2, e35_0, n35_25, n35_8]
  | succ r =>
    refine evK_loop c35_9 _ _ _ _ rfl ?_
    have hn := fun fr => k91 l a (j + 1) id fr st h ha (by omega)
    have hp := fun fr => k29 l a (j + 1 + 1) id (nameV l a (j + 1)) fr st h ha (by omega)
    have hg : filterG l a (r + 1) (j + 1) 0 [] = filterG l a r (j + 1 + 1 + (predV l a (j + 1 + 1) (nameV l a (j + 1))).2) (0 + (predV l a (j + 1 + 1) (nameV l a (j + 1))).1.set.length + 1) (insP [] (predV l a (j + 1 + 1) (nameV l a (j + 1))).1 (nameV l a (j + 1))) := rfl
    rw [hg]
    have hpa := pred_asks l a (j + 1 + 1) (nameV l a (j + 1))
    generalize nameV l a (j + 1) = nm at *
    generalize predV l a (j + 1 + 1) nm = P at *
    obtain ⟨p, k⟩ := P
    simp only at hp hg hpa ⊢
    rw [show insP [] p nm = [p] from rfl, Nat.zero_add]
    have c1 : (0 : Int) < ((r + 1 : Nat) : Int) := by omega
    have LL := fun e5 e6 e7 T X h5 h6 h7 => L35 l a id ha st h r (j + 1 + 1 + k) p.set.length [p] e5 e6 e7 T X h5 h6 h7 (by simp) (by simp; omega) (by omega)
    have hpc : [p].flatMap Pred.cells = p.cells := by simp
    rw [hpc] at LL
    simp only [Pred.cells, List.length_singleton] at LL
    have hnr := fun fr kk len cs => newRef_dd h fr p.set.length kk len cs l (nA l a (j + 1 + 1 + k))
    have ho2 := fun cs => obj_gr h p.set.length cs l (nA l a (j + 1 + 1 + k))
    have hst2 := fun cs cs' => set_gr' h p.set.length cs cs' l (nA l a (j + 1 + 1 + k))
    have heo : ∀ (ea : Bool) (k : Nat) (st : St) (n : Nat) (xs : List V), elemsAt ea k st (.own n xs) = some xs := fun _ _ _ _ _ => rfl
    have hw2 : IntKind.wrap .i64 (((r + 1 : Nat) : Int) - 1) = (r : Int) := by rw [wrap64 (by omega) (by omega)]; omega
    have hel1 : elemsAt true 13 (setF (nw st p.set.length [.str [], .int .i64 0, .int .i64 0, .int .i64 0, .float .f64 0, .str [], .bool false, .int .i64 0, .int .i64 0, .float .f64 0, .str [], .bool false, .slice []]) id l (nA l a (j + 1 + 1 + k))) (.val (.sref false 13 (st.objs.length + p.set.length) 0 1)) = some (encPreds [pzero]) := elems_row (l := [pzero]) (ho2 _) false (i := 0) (Nat.zero_le _)
    have hs1 := sizes_preds [pzero]
    simp [-Int.natCast_add, -St.obj, -St.set, hn, hp, c1, -Int.not_le, -Int.not_lt, -Nat.not_le, -Nat.not_lt, ty3, ty4, ty9, ty27, ty29, ty49, hm, hl, hr, fi16_eq, fi29_eq, fi91_eq, e35_1, e35_3, e35_6, e35_11, e35_13, e35_14, e35_12, e35_10, e35_18, e35_20, e35_22, e35_28, e35_30, e35_31, e35_29, e35_27, e35_33, e35_32, e35_26, e35_24, e35_35, e35_37, q35_37, e35_38, e35_36, e35_34, e35_23, e35_21, e35_19, e35_17, e35_16, e35_39, e35_15, e35_9, e35_7, e35_5, e35_41, e35_42, e35_40, e35_4, e35_2, e35_0, n35_25, n35_8]
    refine evK_loop c35_26 _ _ _ _ rfl ?_
    simp [-Int.natCast_add, -St.obj, -St.set, hnr, ho2, hst2, heo, hw2, w64_1, hel1, hs1, copyStep, markStep, markAppend, -Int.not_le, -Int.not_lt, -Nat.not_le, -Nat.not_lt, ty3, ty4, ty9, ty27, ty29, ty49, hm, hl, hr, fi16_eq, fi29_eq, fi91_eq, e35_1, e35_3, e35_6, e35_11, e35_13, e35_14, e35_12, e35_10, e35_18, e35_20, e35_22, e35_28, e35_30, e35_31, e35_29, e35_27, e35_33, e35_32, e35_26, e35_24, e35_35, e35_37, q35_37, e35_38, e35_36, e35_34, e35_23, e35_21, e35_19, e35_17, e35_16, e35_39, e35_15, e35_9, e35_7, e35_5, e35_41, e35_42, e35_40, e35_4, e35_2, e35_0, n35_25, n35_8]
    exact LL _ _ _ _ _ rfl rfl rfl
theorem k35 (l : List Int) (a j id : Nat) (fr : Fr) (st : St) (h : FeedOk st id) (ha : a < 549755813888) (hj : j < 549755809000) :
    callStep gS (EvF gS) 35 [.ptr id 0] fr (setF st id l (nA l a j)) = some (.ok (.val (.slice (encPreds (filterV l a j).1))) (fr.map E.noMem) (setF (dd st (filterV l a j).2.2) id l (nA l a (filterV l a j).2.1))) := by
  unfold callStep
  simp only [show gS.ext 35 = none from rfl, fi35_eq, show fi35.pure = false from rfl, Bool.false_eq_true, if_false, c35 l a j id st h ha hj, retE]
  all_goals rfl
end Go.Proofs.Ytclpbfkbpcjejaa
namespace Go.Ab
open Go
set_option linter.unusedVariables false
set_option linter.unusedSimpArgs false
set_option linter.unnecessarySimpa false
def okNames : Bool := N4.all fun x => N4.all fun y => (N4.all fun z => sgt x y || sgt y z || !sgt x z) && (!sgt x y || !sgt y x) && isWord x
theorem names_ok : okNames = true := by kernel_rfl
def NM (x : List UInt8) : Prop := x ∈ N4
theorem nm_trans {x y z : List UInt8} (hx : NM x) (hy : NM y) (hz : NM z) (h1 : sgt x y = false) (h2 : sgt y z = false) : sgt x z = false := by
  have := List.all_eq_true.1 (List.all_eq_true.1 names_ok x hx) y hy
  simp only [Bool.and_eq_true] at this
  have := List.all_eq_true.1 this.1.1 z hz
  rw [h1, h2] at this
  simpa using this
theorem nm_asym {x y : List UInt8} (hx : NM x) (hy : NM y) (h : sgt x y = true) : sgt y x = false := by
  have := List.all_eq_true.1 (List.all_eq_true.1 names_ok x hx) y hy
  simp only [Bool.and_eq_true] at this
  have := this.1.2
  rw [h] at this
  simpa using this
theorem nm_word {x : List UInt8} (hx : NM x) : isWord x = true := by
  have := List.all_eq_true.1 (List.all_eq_true.1 names_ok x hx) x hx
  simp only [Bool.and_eq_true] at this
  exact this.2
theorem nameV_nm (l : List Int) (a j : Nat) : NM (nameV l a j) := by
  unfold NM nameV
  have hlt : (fd l a j 12).toNat / 3 % 4 < N4.length := by show _ < 4; omega
  rw [List.getD_eq_getElem?_getD, List.getElem?_eq_getElem hlt]
  exact List.getElem_mem hlt
/-- Right ones of the row, in their places. -/
structure FFV (f : List Pred) : Prop where
  right : ∀ p ∈ f, pright p = true
  fv : ∀ p ∈ f, PFV p
  nm : ∀ p ∈ f, NM p.name
  srt : f.Pairwise fun x y => sgt x.name y.name = false
theorem ffv_nil : FFV [] := ⟨by simp, by simp, by simp, List.Pairwise.nil⟩
theorem insN_above (f : List Pred) (nm : List UInt8) : ∀ (k i : Nat) (p : Pred), insN f nm k ≤ i → i < k → f[i]? = some p → sgt p.name nm = true
  | 0, i, p, _, h, _ => by omega
  | k + 1, i, p, h1, h2, hp => by
    unfold insN at h1
    split at h1
    · rename_i hs
      by_cases hik : i = k
      · subst hik; rw [hp] at hs; exact hs
      · exact insN_above f nm k i p h1 (by omega) hp
    · omega
theorem insN_below (f : List Pred) (nm : List UInt8) : ∀ (k : Nat) (p : Pred), k ≤ f.length → 0 < insN f nm k → f[insN f nm k - 1]? = some p → sgt p.name nm = false
  | 0, p, _, h, _ => by simp [insN] at h
  | k + 1, p, hk, h, hp => by
    unfold insN at h hp
    split at h
    · rename_i hs
      rw [if_pos hs] at hp
      exact insN_below f nm k p (by omega) h hp
    · rename_i hs
      rw [if_neg hs, Nat.add_sub_cancel] at hp
      rw [hp] at hs
      simpa using hs
theorem ins_ffv {f : List Pred} (h : FFV f) {p : Pred} (h1 : pright p = true) (h2 : PFV p) (h3 : NM p.name) : FFV (insP f p p.name) := by
  have hle := insN_le f p.name f.length
  have hab := insN_above f p.name f.length
  have hbe := insN_below f p.name f.length
  unfold insP
  generalize hi : insN f p.name f.length = i at *
  have mem : ∀ x, x ∈ f.take i ++ p :: f.drop i → x ∈ f ∨ x = p := by
    intro x hx
    rcases List.mem_append.1 hx with hx | hx
    · exact .inl (List.mem_of_mem_take hx)
    · rcases List.mem_cons.1 hx with hx | hx
      · exact .inr hx
      · exact .inl (List.mem_of_mem_drop hx)
  refine ⟨fun x hx => ?_, fun x hx => ?_, fun x hx => ?_, ?_⟩
  · rcases mem x hx with h' | rfl
    · exact h.right x h'
    · exact h1
  · rcases mem x hx with h' | rfl
    · exact h.fv x h'
    · exact h2
  · rcases mem x hx with h' | rfl
    · exact h.nm x h'
    · exact h3
  · have hs := h.srt
    have hsp : f.take i ++ f.drop i = f := List.take_append_drop i f
    rw [← hsp] at hs
    rw [List.pairwise_append] at hs ⊢
    obtain ⟨s1, s2, s3⟩ := hs
    have low : ∀ x ∈ f.take i, sgt x.name p.name = false := by
      intro x hx
      have hpos : 0 < i := by
        cases i with
        | zero => simp at hx
        | succ i => omega
      have hlast : i - 1 < f.length := by omega
      have hb := hbe (f[i - 1]) (Nat.le_refl _) hpos (List.getElem?_eq_getElem hlast)
      obtain ⟨j, hj, rfl⟩ := List.getElem_of_mem hx
      rw [List.length_take] at hj
      rw [List.getElem_take]
      by_cases hji : j = i - 1
      · subst hji; exact hb
      · have hlt : j < i - 1 := by omega
        have hp := List.pairwise_iff_getElem.1 h.srt j (i - 1) (by omega) hlast hlt
        exact nm_trans (h.nm _ (List.getElem_mem _)) (h.nm _ (List.getElem_mem _)) h3 hp hb
    have high : ∀ x ∈ f.drop i, sgt p.name x.name = false := by
      intro x hx
      obtain ⟨j, hj, rfl⟩ := List.getElem_of_mem hx
      rw [List.length_drop] at hj
      rw [List.getElem_drop]
      have := hab (i + j) (f[i + j]'(by omega)) (by omega) (by omega) (List.getElem?_eq_getElem _)
      exact nm_asym (h.nm _ (List.getElem_mem _)) h3 this
    refine ⟨s1, List.pairwise_cons.2 ⟨fun x hx => high x hx, s2⟩, fun x hx y hy => ?_⟩
    rcases List.mem_cons.1 hy with rfl | hy
    · exact low x hx
    · exact s3 x hx y hy
theorem predV_name (l : List Int) (a j : Nat) (nm : List UInt8) : (predV l a j nm).1.name = nm := by
  unfold predV
  simp only
  repeat' split
  all_goals rfl
theorem filterG_ffv (l : List Int) (a : Nat) : ∀ (n j d : Nat) (f : List Pred), FFV f → FFV (filterG l a n j d f).1 ∧ (filterG l a n j d f).1.length = f.length + n
  | 0, j, d, f, h => ⟨h, rfl⟩
  | n + 1, j, d, f, h => by
    have hn := nameV_nm l a j
    have hp := predV_name l a (j + 1) (nameV l a j)
    have h2 := ins_ffv h (p := (predV l a (j + 1) (nameV l a j)).1) (pred_right _ _ _ (nm_word hn)) (pred_fv _ _ _ _) (by rw [hp]; exact hn)
    rw [hp] at h2
    have := filterG_ffv l a n (j + 1 + (predV l a (j + 1) (nameV l a j)).2) (d + (predV l a (j + 1) (nameV l a j)).1.set.length + 1) _ h2
    refine ⟨this.1, ?_⟩
    have h3 := this.2
    rw [insP_length] at h3
    show (filterG l a n _ _ _).1.length = _
    omega
theorem filterV_ffv (l : List Int) (a j : Nat) : FFV (filterV l a j).1 ∧ (filterV l a j).1.length ≤ 3 := by
  have hb := fd_bound l a j (n := 4) (by omega)
  have := filterG_ffv l a (fd l a j 4).toNat (j + 1) 0 [] ffv_nil
  refine ⟨this.1, ?_⟩
  have h2 := this.2
  simp only [List.length_nil, Nat.zero_add] at h2
  unfold filterV
  omega
theorem rises_of : ∀ (f : List Pred) (o : Option (List UInt8)), (∀ p ∈ f, pright p = true) → f.Pairwise (fun x y => sgt x.name y.name = false) → (∀ n p, o = some n → f.head? = some p → sgt n p.name = false) → rises o f = true
  | [], o, _, _, _ => rises_nil o
  | p :: r, o, h1, h2, h3 => by
    obtain ⟨h4, h5⟩ := List.pairwise_cons.1 h2
    have ih := rises_of r (some p.name) (fun q hq => h1 q (by simp [hq])) h5 (fun n q hn hq => by
      cases hn
      exact h4 q (List.mem_of_mem_head? hq))
    cases o with
    | none => rw [rises_none, h1 p (by simp), ih]; rfl
    | some n => rw [rises_some, h1 p (by simp), ih, h3 n p rfl rfl]; rfl
theorem ffv_right {f : List Pred} (h : FFV f) (hl : f.length ≤ 3) : fright f = true := by
  unfold fright
  rw [rises_of f none h.right h.srt (fun n p hn => by cases hn)]
  simp [hl]
theorem filterG_bounds (l : List Int) (a : Nat) : ∀ (n j d : Nat) (f : List Pred), (filterG l a n j d f).2.1 ≤ j + 11 * n ∧ (filterG l a n j d f).2.2 ≤ d + 5 * n
  | 0, j, d, f => ⟨by simp [filterG], by simp [filterG]⟩
  | n + 1, j, d, f => by
    have h1 := pred_asks l a (j + 1) (nameV l a j)
    have hn := nm_word (nameV_nm l a j)
    have h2 : (predV l a (j + 1) (nameV l a j)).1.set.length ≤ 4 := by
      have hr := pred_right l a (j + 1) hn
      generalize (predV l a (j + 1) (nameV l a j)).1 = p at hr ⊢
      unfold pright at hr
      split at hr
      · repeat' split at hr
        all_goals first
          | (simp only [Bool.and_eq_true, decide_eq_true_eq] at hr; omega)
          | cases hr
      · cases hr
    have := filterG_bounds l a n (j + 1 + (predV l a (j + 1) (nameV l a j)).2) (d + (predV l a (j + 1) (nameV l a j)).1.set.length + 1) (insP f (predV l a (j + 1) (nameV l a j)).1 (nameV l a j))
    unfold filterG
    omega
theorem filterV_asks (l : List Int) (a j : Nat) : (filterV l a j).2.1 ≤ j + 34 := by
  have hb := fd_bound l a j (n := 4) (by omega)
  have := (filterG_bounds l a (fd l a j 4).toNat (j + 1) 0 []).1
  unfold filterV
  omega
theorem attrsG_asks (l : List Int) (a : Nat) : ∀ (q : List (List UInt8 × Int)) (j : Nat), (attrsG l a q j).2 ≤ j + 3 * q.length
  | [], j => by simp [attrsG]
  | (nm, x) :: r, j => by
    have h1 := attrsG_asks l a r (j + 3)
    have h2 := attrsG_asks l a r (j + 1)
    unfold attrsG
    split
    · simp only [List.length_cons]; omega
    · simp only [List.length_cons]; omega
theorem attrsV_asks (l : List Int) (a j : Nat) : (attrsV l a j).2 ≤ j + 15 := attrsG_asks l a A5 j
theorem attrsG_len (l : List Int) (a : Nat) : ∀ (q : List (List UInt8 × Int)) (j : Nat), (attrsG l a q j).1.length ≤ q.length
  | [], j => by simp [attrsG]
  | (nm, x) :: r, j => by
    have h1 := attrsG_len l a r (j + 3)
    have h2 := attrsG_len l a r (j + 1)
    unfold attrsG
    split
    · simp only [List.length_cons]; omega
    · simp only [List.length_cons]; omega
theorem attrsV_len (l : List Int) (a j : Nat) : (attrsV l a j).1.length ≤ 5 := attrsG_len l a A5 j
theorem vsame_refl (v : Val) : vsame v v = true := by simp [vsame]
theorem sames_refl : ∀ l : List Val, sames l l = true
  | [] => rfl
  | x :: r => by simp [sames, vsame_refl, sames_refl r]
/-- A right test implies itself. -/
theorem implies_refl {p : Pred} (h : pright p = true) : pimplies p p = true := by
  unfold pimplies
  rw [h]
  simp only [Bool.and_self, if_true]
  split
  · rfl
  · rw [if_pos (by simp [vsame_refl, sames_refl])]
theorem fcov1_mem {p : Pred} {g : List Pred} (h : pright p = true) (hm : p ∈ g) : fcov1 p g = true := List.any_eq_true.2 ⟨p, hm, by simp [implies_refl h]⟩
theorem covers_of_sub {f g : List Pred} (h : ∀ p ∈ f, pright p = true) (hs : ∀ p ∈ f, p ∈ g) : fcovers f g = true := by
  unfold fcovers
  rw [Bool.or_eq_true]
  exact .inr (List.all_eq_true.2 fun p hp => fcov1_mem (h p hp) (hs p hp))
end Go.Ab
namespace Go.Proofs.Ytclpbfkbpcjejaa
open Go Go.Ab
set_option linter.unusedVariables false
set_option linter.unusedSimpArgs false
set_option linter.unnecessarySimpa false
set_option maxRecDepth 20000
variable (fr : Fr) (st : St) (k : Kt)
noncomputable def fi46 : FI := { body := codeOf Try.f46, ntmps := 2, results := [.tmp 0], pers := [0], locals := [], pure := true, marks := [] }
theorem fi46_eq : gS.fn 46 = some fi46 := by kernel_rfl
theorem k46 (fr : Fr) (st : St) : callStep gS (EvF gS) 46 [] fr st = some (.ok (.val (.bool true)) fr st) := by
  have hc : EvF gS 46 [] ⟨[], 0⟩ = some (.ret (.bool true) none, ⟨[], 0⟩) := Evn.lim ⟨400, fun n hn => by
    obtain ⟨m, rfl⟩ : ∃ m, n = m + 400 := ⟨n - 400, by omega⟩
    kernel_rfl⟩
  exact call_pure' rfl fi46_eq rfl rfl ⟨_, hc⟩ rfl
noncomputable def fi51 : FI := { body := codeOf Try.f51, ntmps := 25, results := [.tmp 2], pers := [0, 2, 3, 4, 5], locals := [5], pure := true, marks := [] }
theorem fi51_eq : gS.fn 51 = some fi51 := by kernel_rfl
theorem st51 (a0 : V) : startFr fi51 [a0] = { ps := [(0, .val a0), (2, .any), (3, .any), (4, .any), (5, .any)], ts := [], lc := [] } := rfl
noncomputable def b51 : Code := mini (codeOf Try.f51)
noncomputable def c51_1 : Code := codeAt b51 [false]
theorem e51_1 : evK gS fi51 c51_1 fr st k = opsK gS fi51 [(some 2)] [mk (some 2) (.assign (.const (.slice none 0 0))) 49 none] fr.clear st fr k := evK_reg1 (i := 0) (by kernel_rfl) (by kernel_rfl)
noncomputable def c51_3 : Code := codeAt b51 [true, false]
theorem e51_3 : evK gS fi51 c51_3 fr st k = opsK gS fi51 [(some 3)] [mk (some 3) (.assign (.const (.slice none 0 0))) 49 none] fr.clear st fr k := evK_reg1 (i := 1) (by kernel_rfl) (by kernel_rfl)
noncomputable def c51_6 : Code := codeAt b51 [true, true, false, false]
theorem e51_6 : evK gS fi51 c51_6 fr st k = opsK gS fi51 [(some 4)] [mk (some 4) (.assign (.const (.int .i64 0))) 3 none] fr.clear st fr k := evK_reg1 (i := 2) (by kernel_rfl) (by kernel_rfl)
noncomputable def c51_11 : Code := codeAt b51 [true, true, false, true, false, false, false, false]
theorem e51_11 : evK gS fi51 c51_11 fr st k = opsK gS fi51 [(some 6), (some 7), (some 8), (some 9)] [mk (some 6) (.move (.tmp 4)) 3 none,
  mk (some 7) (.move (.tmp 0)) 49 none,
  mk (some 8) (.call { callee := (.builtin .len), args := #[(.tmp 7)], argTypes := #[49] }) 3 none,
  mk (some 9) (.binOp .lss 3 (.tmp 6) (.tmp 8) 3) 4 none] fr.clear st fr k := evK_reg1 (i := 3) (by kernel_rfl) (by kernel_rfl)
noncomputable def c51_13 : Code := .skip
theorem e51_13 : evK gS fi51 c51_13 fr st k = nextK gS fi51 k .normal fr st := rfl
noncomputable def c51_14 : Code := .exit 0
theorem e51_14 : evK gS fi51 c51_14 fr st k = nextK gS fi51 k (.exit 0) fr st := rfl
noncomputable def c51_12 : Code := .cond (.tmp 9) c51_13 c51_14
theorem e51_12 : evK gS fi51 c51_12 fr st k = condK gS fi51 (fr.op (.tmp 9)).bool? c51_13 c51_14 fr st k := rfl
noncomputable def c51_10 : Code := .seq c51_11 c51_12
theorem e51_10 : evK gS fi51 c51_10 fr st k = evK gS fi51 c51_11 fr st (.seq c51_12 k) := rfl
noncomputable def c51_18 : Code := codeAt b51 [true, true, false, true, false, false, true, false, false, false]
theorem e51_18 : evK gS fi51 c51_18 fr st k = opsK gS fi51 [(some 12), (some 13), (some 14), (some 15), (some 5), none] [mk (some 12) (.move (.tmp 0)) 49 none,
  mk (some 13) (.move (.tmp 4)) 3 none,
  mk (some 14) (.indexAddr 49 (.tmp 12) (.tmp 13)) 0 none,
  mk (some 15) (.load 27 (.tmp 14)) 27 none,
  mk (some 5) (.alloc 27) 0 none,
  mk none (.store 27 (.tmp 5) (.tmp 15)) 0 none] fr.clear st fr k := evK_reg1 (i := 5) (by kernel_rfl) (by kernel_rfl)
noncomputable def c51_20 : Code := codeAt b51 [true, true, false, true, false, false, true, false, false, true, false]
theorem e51_20 : evK gS fi51 c51_20 fr st k = opsK gS fi51 [(some 16), (some 17), (some 18), (some 19), none] [mk (some 16) (.fieldAddr 27 (.tmp 5) 4) 0 none,
  mk (some 17) (.load 25 (.tmp 16)) 25 none,
  mk (some 18) (.call { callee := (.builtin .append), args := #[(.const (.slice none 0 0)), (.tmp 17)], argTypes := #[25, 25] }) 25 none,
  mk (some 19) (.fieldAddr 27 (.tmp 5) 4) 0 none,
  mk none (.store 25 (.tmp 19) (.tmp 18)) 0 none] fr.clear st fr k := evK_reg1 (i := 6) (by kernel_rfl) (by kernel_rfl)
noncomputable def c51_21 : Code := codeAt b51 [true, true, false, true, false, false, true, false, false, true, true]
theorem e51_21 : evK gS fi51 c51_21 fr st k = opsK gS fi51 [(some 20), (some 21), (some 22), (some 23), (some 3)] [mk (some 20) (.move (.tmp 3)) 49 none,
  mk (some 21) (.load 27 (.tmp 5)) 27 none,
  mk (some 22) (.buildSlice 49 1 #[(0, (.tmp 21))]) 49 none,
  mk (some 23) (.call { callee := (.builtin .append), args := #[(.tmp 20), (.tmp 22)], argTypes := #[49, 49] }) 49 none,
  mk (some 3) (.assign (.tmp 23)) 49 none] fr.clear st fr k := evK_reg1 (i := 7) (by kernel_rfl) (by kernel_rfl)
noncomputable def c51_19 : Code := .seq c51_20 c51_21
theorem e51_19 : evK gS fi51 c51_19 fr st k = evK gS fi51 c51_20 fr st (.seq c51_21 k) := rfl
noncomputable def c51_17 : Code := .seq c51_18 c51_19
theorem e51_17 : evK gS fi51 c51_17 fr st k = evK gS fi51 c51_18 fr st (.seq c51_19 k) := rfl
noncomputable def c51_16 : Code := .block 1 c51_17
theorem e51_16 : evK gS fi51 c51_16 fr st k = evK gS fi51 c51_17 fr st (.blk 1 k) := rfl
noncomputable def c51_22 : Code := codeAt b51 [true, true, false, true, false, false, true, true]
theorem e51_22 : evK gS fi51 c51_22 fr st k = opsK gS fi51 [(some 10), (some 11), (some 4)] [mk (some 10) (.move (.tmp 4)) 3 none,
  mk (some 11) (.binOp .add 3 (.tmp 10) (.const (.int .i64 1)) 3) 3 none,
  mk (some 4) (.assign (.tmp 11)) 3 none] fr.clear st fr k := evK_reg1 (i := 4) (by kernel_rfl) (by kernel_rfl)
noncomputable def c51_15 : Code := .seq c51_16 c51_22
theorem e51_15 : evK gS fi51 c51_15 fr st k = evK gS fi51 c51_16 fr st (.seq c51_22 k) := rfl
noncomputable def c51_9 : Code := .seq c51_10 c51_15
theorem e51_9 : evK gS fi51 c51_9 fr st k = evK gS fi51 c51_10 fr st (.seq c51_15 k) := rfl
noncomputable def c51_8 : Code := .loop c51_9
noncomputable def c51_7 : Code := .block 0 c51_8
theorem e51_7 : evK gS fi51 c51_7 fr st k = evK gS fi51 c51_8 fr st (.blk 0 k) := rfl
noncomputable def c51_5 : Code := .seq c51_6 c51_7
theorem e51_5 : evK gS fi51 c51_5 fr st k = evK gS fi51 c51_6 fr st (.seq c51_7 k) := rfl
noncomputable def c51_24 : Code := codeAt b51 [true, true, true, false]
theorem e51_24 : evK gS fi51 c51_24 fr st k = opsK gS fi51 [(some 24), (some 2)] [mk (some 24) (.move (.tmp 3)) 49 none,
  mk (some 2) (.assign (.tmp 24)) 49 none] fr.clear st fr k := evK_reg1 (i := 8) (by kernel_rfl) (by kernel_rfl)
noncomputable def c51_25 : Code := .ret
theorem e51_25 : evK gS fi51 c51_25 fr st k = nextK gS fi51 k .ret fr st := rfl
noncomputable def c51_23 : Code := .seq c51_24 c51_25
theorem e51_23 : evK gS fi51 c51_23 fr st k = evK gS fi51 c51_24 fr st (.seq c51_25 k) := rfl
noncomputable def c51_4 : Code := .seq c51_5 c51_23
theorem e51_4 : evK gS fi51 c51_4 fr st k = evK gS fi51 c51_5 fr st (.seq c51_23 k) := rfl
noncomputable def c51_2 : Code := .seq c51_3 c51_4
theorem e51_2 : evK gS fi51 c51_2 fr st k = evK gS fi51 c51_3 fr st (.seq c51_4 k) := rfl
noncomputable def c51_0 : Code := .seq c51_1 c51_2
theorem e51_0 : evK gS fi51 c51_0 fr st k = evK gS fi51 c51_1 fr st (.seq c51_2 k) := rfl
theorem m51 : mini fi51.body = c51_0 := by kernel_rfl
theorem n51_8 (fr : Fr) (st : St) (k : Kt) : nextK gS fi51 (.loop c51_9 k) .normal fr st = evK gS fi51 c51_8 fr st k := rfl
theorem preds_snoc (l : List Pred) (x : Pred) : encPreds l ++ [.agg [.str x.name, .int .i64 x.test, .int .i64 x.v.kind, .int .i64 x.v.n, .float .f64 x.v.x, .str x.v.s, .bool x.v.b, .int .i64 x.w.kind, .int .i64 x.w.n, .float .f64 x.w.x, .str x.w.s, .bool x.w.b, .slice (encVals x.set)]] = encPreds (l ++ [x]) := by simp [encPreds]
/-- How much room a row's cells take that was laid one by one. -/
def kof {α : Type} (k : Nat) (l : List α) : Nat := if l = [] then 0 else k
set_option maxHeartbeats 8000000 in
theorem L51 (f : List Pred) (h_f : PSm f) (st : St) : ∀ (n i : Nat) (e5 : E) (T : List (Nat × E)) (X : List (Nat × List V)) (ht5 : e5.Tame), i ≤ f.length → f.length - i = n →
    evK gS fi51 c51_8 { ps := [(0, .val (.slice (encPreds f))), (2, .own 0 []), (3, .own (kof 13 (f.take i)) (encPreds (f.take i))), (4, .val (.int .i64 i)), (5, e5)], ts := T, lc := X } st (.blk 0 (.seq c51_23 .nil)) = some (.ret (.slice (encPreds f)) (some (kof 13 f)), st) := by
  intro n
  have hm : fi51.marks = [] := rfl
  have hl : fi51.locals = [5] := rfl
  have hr : fi51.results = [.tmp 2] := rfl
  have hfl := h_f.1
  induction n with
  | zero =>
    intro i e5 T X ht5 hi hn
    obtain rfl : i = f.length := by omega
    refine evK_loop c51_9 _ _ _ _ rfl ?_
    rw [List.take_length]
    by_cases hfe : f = []
    · subst hfe
      simp [ht5, kof, encPreds, -Int.not_le, -Int.not_lt, -Nat.not_le, -Nat.not_lt, ty3, ty4, ty25, ty27, ty49, hm, hl, hr, e51_1, e51_3, e51_6, e51_11, e51_13, e51_14, e51_12, e51_10, e51_18, e51_20, e51_21, e51_19, e51_17, e51_16, e51_22, e51_15, e51_9, e51_7, e51_5, e51_24, e51_25, e51_23, e51_4, e51_2, e51_0, n51_8]
    · have hk : kof 13 f = 13 := by unfold kof; rw [if_neg hfe]
      rw [hk]
      simp [ht5, -Int.not_le, -Int.not_lt, -Nat.not_le, -Nat.not_lt, ty3, ty4, ty25, ty27, ty49, hm, hl, hr, e51_1, e51_3, e51_6, e51_11, e51_13, e51_14, e51_12, e51_10, e51_18, e51_20, e51_21, e51_19, e51_17, e51_16, e51_22, e51_15, e51_9, e51_7, e51_5, e51_24, e51_25, e51_23, e51_4, e51_2, e51_0, n51_8]
  | succ n ih =>
    intro i e5 T X ht5 hi hn
    obtain ⟨x, hx⟩ : ∃ x, f[i]? = some x := ⟨f[i]'(by omega), List.getElem?_eq_getElem (by omega)⟩
    have hlt : (i : Int) < (f.length : Int) := by omega
    have hlt2 : i < f.length := by omega
    have hxe : f[i]'hlt2 = x := by rw [List.getElem?_eq_getElem hlt2] at hx; exact Option.some.inj hx
    have hw : IntKind.wrap .i64 ((i : Int) + 1) = ((i + 1 : Nat) : Int) := by rw [wrap64 (by omega) (by omega)]; omega
    have hxs := (h_f.2 x (List.mem_of_getElem? hx)).2
    have hxs2 : x.set.length ≤ 140737488355328 := by omega
    have htk : f.take (i + 1) = f.take i ++ [x] := by rw [List.take_succ_eq_append_getElem hlt2, hxe]
    have IH := fun e5 T X ht5 => ih (i + 1) e5 T X ht5 (by omega) (by omega)
    have hk1 : kof 13 (f.take (i + 1)) = 13 := by rw [htk]; simp [kof]
    rw [hk1, htk] at IH
    have hsv := sizes_vals x.set
    have hsp := sizes_preds (f.take i)
    have hsn := preds_snoc (f.take i) x
    have hln : (f.take i).length = i := by simp; omega
    have b1 : (i + 1) * 144 ≤ 140737488355328 := by omega
    have b2 : i + 1 ≤ 140737488355328 := by omega
    have hk0 : kof 13 (f.take i) = 0 ∧ f.take i = [] ∨ kof 13 (f.take i) = 13 := by
      unfold kof; split
      · exact .inl ⟨rfl, by assumption⟩
      · exact .inr rfl
    refine evK_loop c51_9 _ _ _ _ rfl ?_
    generalize hF : f.take i = F at *
    rcases hk0 with ⟨h1, h2⟩ | h1
    · rw [h1, h2]
      rw [h2] at IH
      have hi0 : i = 0 := by rw [← hln, h2]; rfl
      have hsn0 : encPreds [x] = [.agg [.str x.name, .int .i64 x.test, .int .i64 x.v.kind, .int .i64 x.v.n, .float .f64 x.v.x, .str x.v.s, .bool x.v.b, .int .i64 x.w.kind, .int .i64 x.w.n, .float .f64 x.w.x, .str x.w.s, .bool x.w.b, .slice (encVals x.set)]] := rfl
      rw [List.nil_append, hsn0] at IH
      have en : encPreds [] = [] := rfl
      simp [-Int.natCast_add, en, ht5, hx, hxe, hlt, hlt2, hw, hxs, hxs2, hsv, -Int.not_le, -Int.not_lt, -Nat.not_le, -Nat.not_lt, ty3, ty4, ty25, ty27, ty49, hm, hl, hr, e51_1, e51_3, e51_6, e51_11, e51_13, e51_14, e51_12, e51_10, e51_18, e51_20, e51_21, e51_19, e51_17, e51_16, e51_22, e51_15, e51_9, e51_7, e51_5, e51_24, e51_25, e51_23, e51_4, e51_2, e51_0, n51_8]
      exact IH _ _ _ rfl
    · rw [h1]
      simp [-Int.natCast_add, ht5, hx, hxe, hlt, hlt2, hw, hxs, hxs2, hsv, hsp, hsn, hln, b1, b2, IH, -Int.not_le, -Int.not_lt, -Nat.not_le, -Nat.not_lt, ty3, ty4, ty25, ty27, ty49, hm, hl, hr, e51_1, e51_3, e51_6, e51_11, e51_13, e51_14, e51_12, e51_10, e51_18, e51_20, e51_21, e51_19, e51_17, e51_16, e51_22, e51_15, e51_9, e51_7, e51_5, e51_24, e51_25, e51_23, e51_4, e51_2, e51_0, n51_8]
set_option maxHeartbeats 8000000 in
theorem c51 (f : List Pred) (h_f : PSm f) (st : St) : EvF gS 51 [.slice (encPreds f)] st = some (.ret (.slice (encPreds f)) (some (kof 13 f)), st) := by
  refine EvF_start fi51_eq (fun x h => by cases h) m51 ?_
  rw [st51]
  have hm : fi51.marks = [] := rfl
  have hl : fi51.locals = [5] := rfl
  have hr : fi51.results = [.tmp 2] := rfl
  have L0 := fun e5 T X ht5 => L51 f h_f st f.length 0 e5 T X ht5 (Nat.zero_le _) rfl
  simp only [show ((0 : Nat) : Int) = 0 from rfl, List.take_zero, show kof 13 ([] : List Pred) = 0 from rfl, show encPreds [] = [] from rfl] at L0
  simp [L0, -Int.not_le, -Int.not_lt, -Nat.not_le, -Nat.not_lt, ty3, ty4, ty25, ty27, ty49, hm, hl, hr, e51_1, e51_3, e51_6, e51_11, e51_13, e51_14, e51_12, e51_10, e51_18, e51_20, e51_21, e51_19, e51_17, e51_16, e51_22, e51_15, e51_9, e51_7, e51_5, e51_24, e51_25, e51_23, e51_4, e51_2, e51_0, n51_8]
theorem k51 (f : List Pred) (h_f : PSm f) (fr : Fr) (st : St) : callStep gS (EvF gS) 51 [.slice (encPreds f)] fr st = some (.ok (.own (kof 13 f) (encPreds f)) fr st) :=
  call_pure rfl fi51_eq rfl (fun st => c51 f h_f st) (by simp [V.flat])
noncomputable def fi10 : FI := { body := codeOf Try.f10, ntmps := 73, results := [.tmp 2], pers := [0, 2, 3, 4, 5, 6, 7, 8], locals := [], pure := false, marks := [] }
theorem fi10_eq : gS.fn 10 = some fi10 := by kernel_rfl
theorem st10 (a0 : V) : startFr fi10 [a0] = { ps := [(0, .val a0), (2, .any), (3, .any), (4, .any), (5, .any), (6, .any), (7, .any), (8, .any)], ts := [], lc := [] } := rfl
noncomputable def b10 : Code := mini (codeOf Try.f10)
noncomputable def c10_1 : Code := codeAt b10 [false]
theorem e10_1 : evK gS fi10 c10_1 fr st k = opsK gS fi10 [(some 2)] [mk (some 2) (.assign (.const (.bool false))) 4 none] fr.clear st fr k := evK_reg1 (i := 0) (by kernel_rfl) (by kernel_rfl)
noncomputable def c10_3 : Code := codeAt b10 [true, false]
theorem e10_3 : evK gS fi10 c10_3 fr st k = opsK gS fi10 [(some 9), (some 10), (some 11), (some 3)] [mk (some 9) (.move (.tmp 0)) 28 none,
  mk (some 10) (.build 31 #[(0, (.tmp 9))]) 31 none,
  mk (some 11) (.box 31 (.tmp 10)) 29 none,
  mk (some 3) (.assign (.tmp 11)) 29 none] fr.clear st fr k := evK_reg1 (i := 1) (by kernel_rfl) (by kernel_rfl)
noncomputable def c10_5 : Code := codeAt b10 [true, true, false]
theorem e10_5 : evK gS fi10 c10_5 fr st k = opsK gS fi10 [(some 12), (some 13), (some 4)] [mk (some 12) (.move (.tmp 3)) 29 none,
  mk (some 13) (.call { callee := (.value (.func 35)), args := #[(.tmp 12)], argTypes := #[29] }) 49 none,
  mk (some 4) (.assign (.tmp 13)) 49 none] fr.clear st fr k := evK_reg1 (i := 2) (by kernel_rfl) (by kernel_rfl)
noncomputable def c10_7 : Code := codeAt b10 [true, true, true, false]
theorem e10_7 : evK gS fi10 c10_7 fr st k = opsK gS fi10 [(some 14), (some 15), (some 5)] [mk (some 14) (.move (.tmp 3)) 29 none,
  mk (some 15) (.call { callee := (.value (.func 36)), args := #[(.tmp 14)], argTypes := #[29] }) 50 none,
  mk (some 5) (.assign (.tmp 15)) 50 none] fr.clear st fr k := evK_reg1 (i := 3) (by kernel_rfl) (by kernel_rfl)
noncomputable def c10_9 : Code := codeAt b10 [true, true, true, true, false]
theorem e10_9 : evK gS fi10 c10_9 fr st k = opsK gS fi10 [(some 6)] [mk (some 6) (.assign (.const (.bool true))) 4 none] fr.clear st fr k := evK_reg1 (i := 4) (by kernel_rfl) (by kernel_rfl)
noncomputable def c10_12 : Code := codeAt b10 [true, true, true, true, true, false, false]
theorem e10_12 : evK gS fi10 c10_12 fr st k = opsK gS fi10 [(some 7)] [mk (some 7) (.assign (.const (.int .i64 0))) 3 none] fr.clear st fr k := evK_reg1 (i := 5) (by kernel_rfl) (by kernel_rfl)
noncomputable def c10_17 : Code := codeAt b10 [true, true, true, true, true, false, true, false, false, false, false]
theorem e10_17 : evK gS fi10 c10_17 fr st k = opsK gS fi10 [(some 16), (some 17), (some 18), (some 19)] [mk (some 16) (.move (.tmp 7)) 3 none,
  mk (some 17) (.move (.tmp 4)) 49 none,
  mk (some 18) (.call { callee := (.builtin .len), args := #[(.tmp 17)], argTypes := #[49] }) 3 none,
  mk (some 19) (.binOp .lss 3 (.tmp 16) (.tmp 18) 3) 4 none] fr.clear st fr k := evK_reg1 (i := 6) (by kernel_rfl) (by kernel_rfl)
noncomputable def c10_19 : Code := .skip
theorem e10_19 : evK gS fi10 c10_19 fr st k = nextK gS fi10 k .normal fr st := rfl
noncomputable def c10_20 : Code := .exit 0
theorem e10_20 : evK gS fi10 c10_20 fr st k = nextK gS fi10 k (.exit 0) fr st := rfl
noncomputable def c10_18 : Code := .cond (.tmp 19) c10_19 c10_20
theorem e10_18 : evK gS fi10 c10_18 fr st k = condK gS fi10 (fr.op (.tmp 19)).bool? c10_19 c10_20 fr st k := rfl
noncomputable def c10_16 : Code := .seq c10_17 c10_18
theorem e10_16 : evK gS fi10 c10_16 fr st k = evK gS fi10 c10_17 fr st (.seq c10_18 k) := rfl
noncomputable def c10_23 : Code := codeAt b10 [true, true, true, true, true, false, true, false, false, true, false, false]
theorem e10_23 : evK gS fi10 c10_23 fr st k = opsK gS fi10 [(some 22), (some 23), (some 24), (some 25), (some 26), (some 27), (some 28), (some 29), (some 30), (some 31), (some 6)] [mk (some 22) (.move (.tmp 6)) 4 none,
  mk (some 23) (.move (.tmp 22)) 4 none,
  mk (some 24) (.move (.tmp 4)) 49 (some (1, true)),
  mk (some 25) (.move (.tmp 7)) 3 (some (1, true)),
  mk (some 26) (.move (.tmp 7)) 3 (some (1, true)),
  mk (some 27) (.binOp .add 3 (.tmp 26) (.const (.int .i64 1)) 3) 3 (some (1, true)),
  mk (some 28) (.slice 49 (.tmp 24) (some (.tmp 25)) (some (.tmp 27)) none) 49 (some (1, true)),
  mk (some 29) (.move (.tmp 5)) 50 (some (1, true)),
  mk (some 30) (.call { callee := (.value (.func 39)), args := #[(.tmp 28), (.tmp 29)], argTypes := #[49, 50] }) 4 (some (1, true)),
  mk (some 31) (.pick (.tmp 23) (.tmp 30) (.const (.bool false))) 4 none,
  mk (some 6) (.assign (.tmp 31)) 4 none] fr.clear st fr k := evK_reg1 (i := 8) (by kernel_rfl) (by kernel_rfl)
noncomputable def c10_22 : Code := .block 1 c10_23
theorem e10_22 : evK gS fi10 c10_22 fr st k = evK gS fi10 c10_23 fr st (.blk 1 k) := rfl
noncomputable def c10_24 : Code := codeAt b10 [true, true, true, true, true, false, true, false, false, true, true]
theorem e10_24 : evK gS fi10 c10_24 fr st k = opsK gS fi10 [(some 20), (some 21), (some 7)] [mk (some 20) (.move (.tmp 7)) 3 none,
  mk (some 21) (.binOp .add 3 (.tmp 20) (.const (.int .i64 1)) 3) 3 none,
  mk (some 7) (.assign (.tmp 21)) 3 none] fr.clear st fr k := evK_reg1 (i := 7) (by kernel_rfl) (by kernel_rfl)
noncomputable def c10_21 : Code := .seq c10_22 c10_24
theorem e10_21 : evK gS fi10 c10_21 fr st k = evK gS fi10 c10_22 fr st (.seq c10_24 k) := rfl
noncomputable def c10_15 : Code := .seq c10_16 c10_21
theorem e10_15 : evK gS fi10 c10_15 fr st k = evK gS fi10 c10_16 fr st (.seq c10_21 k) := rfl
noncomputable def c10_14 : Code := .loop c10_15
noncomputable def c10_13 : Code := .block 0 c10_14
theorem e10_13 : evK gS fi10 c10_13 fr st k = evK gS fi10 c10_14 fr st (.blk 0 k) := rfl
noncomputable def c10_11 : Code := .seq c10_12 c10_13
theorem e10_11 : evK gS fi10 c10_11 fr st k = evK gS fi10 c10_12 fr st (.seq c10_13 k) := rfl
noncomputable def c10_26 : Code := codeAt b10 [true, true, true, true, true, true, false]
theorem e10_26 : evK gS fi10 c10_26 fr st k = opsK gS fi10 [(some 32), (some 33), (some 34), (some 35), (some 36), (some 37), (some 8)] [mk (some 32) (.move (.tmp 4)) 49 none,
  mk (some 33) (.call { callee := (.value (.func 51)), args := #[(.tmp 32)], argTypes := #[49] }) 49 none,
  mk (some 34) (.move (.tmp 3)) 29 none,
  mk (some 35) (.call { callee := (.value (.func 29)), args := #[(.tmp 34), (.const (.string { data := #[108, 111, 110, 103] }))], argTypes := #[29, 9] }) 27 none,
  mk (some 36) (.buildSlice 49 1 #[(0, (.tmp 35))]) 49 none,
  mk (some 37) (.call { callee := (.builtin .append), args := #[(.tmp 33), (.tmp 36)], argTypes := #[49, 49] }) 49 none,
  mk (some 8) (.assign (.tmp 37)) 49 none] fr.clear st fr k := evK_reg1 (i := 9) (by kernel_rfl) (by kernel_rfl)
noncomputable def c10_28 : Code := codeAt b10 [true, true, true, true, true, true, true, false]
theorem e10_28 : evK gS fi10 c10_28 fr st k = opsK gS fi10 [(some 38), (some 39), (some 40), (some 41), (some 42), (some 43), (some 44), (some 45), (some 46), (some 47), (some 48), (some 49), (some 50), (some 51), (some 52), (some 53), (some 54), (some 55), (some 56), (some 57), (some 58), (some 59), (some 60), (some 61), (some 62), (some 63), (some 64), (some 65), (some 66), (some 67), (some 68), (some 69), (some 70), (some 71), (some 72), (some 2)] [mk (some 38) (.call { callee := (.value (.func 46)), args := #[], argTypes := #[] }) 4 none,
  mk (some 39) (.move (.tmp 38)) 4 none,
  mk (some 40) (.move (.tmp 4)) 49 (some (1, true)),
  mk (some 41) (.move (.tmp 5)) 50 (some (1, true)),
  mk (some 42) (.call { callee := (.value (.func 39)), args := #[(.tmp 40), (.tmp 41)], argTypes := #[49, 50] }) 4 (some (1, true)),
  mk (some 43) (.move (.tmp 6)) 4 (some (1, true)),
  mk (some 44) (.binOp .eql 4 (.tmp 42) (.tmp 43) 4) 4 (some (1, true)),
  mk (some 45) (.pick (.tmp 39) (.tmp 44) (.const (.bool false))) 4 none,
  mk (some 46) (.move (.tmp 45)) 4 none,
  mk (some 47) (.move (.tmp 8)) 49 (some (8, true)),
  mk (some 48) (.move (.tmp 5)) 50 (some (8, true)),
  mk (some 49) (.call { callee := (.value (.func 39)), args := #[(.tmp 47), (.tmp 48)], argTypes := #[49, 50] }) 4 (some (8, true)),
  mk (some 50) (.unOp .not 4 (.tmp 49)) 4 (some (8, true)),
  mk (some 51) (.move (.tmp 50)) 4 (some (8, true)),
  mk (some 52) (.move (.tmp 6)) 4 (some (13, false)),
  mk (some 53) (.pick (.tmp 51) (.const (.bool true)) (.tmp 52)) 4 (some (8, true)),
  mk (some 54) (.pick (.tmp 46) (.tmp 53) (.const (.bool false))) 4 none,
  mk (some 55) (.move (.tmp 54)) 4 none,
  mk (some 56) (.move (.tmp 4)) 49 (some (17, true)),
  mk (some 57) (.move (.tmp 4)) 49 (some (17, true)),
  mk (some 58) (.call { callee := (.value (.func 43)), args := #[(.tmp 56), (.tmp 57)], argTypes := #[49, 49] }) 4 (some (17, true)),
  mk (some 59) (.pick (.tmp 55) (.tmp 58) (.const (.bool false))) 4 none,
  mk (some 60) (.move (.tmp 59)) 4 none,
  mk (some 61) (.move (.tmp 4)) 49 (some (22, true)),
  mk (some 62) (.call { callee := (.value (.func 43)), args := #[(.const (.slice none 0 0)), (.tmp 61)], argTypes := #[49, 49] }) 4 (some (22, true)),
  mk (some 63) (.pick (.tmp 60) (.tmp 62) (.const (.bool false))) 4 none,
  mk (some 64) (.move (.tmp 63)) 4 none,
  mk (some 65) (.move (.tmp 4)) 49 (some (26, true)),
  mk (some 66) (.move (.tmp 8)) 49 (some (26, true)),
  mk (some 67) (.call { callee := (.value (.func 43)), args := #[(.tmp 65), (.tmp 66)], argTypes := #[49, 49] }) 4 (some (26, true)),
  mk (some 68) (.pick (.tmp 64) (.tmp 67) (.const (.bool false))) 4 none,
  mk (some 69) (.move (.tmp 68)) 4 none,
  mk (some 70) (.move (.tmp 4)) 49 (some (31, true)),
  mk (some 71) (.call { callee := (.value (.func 37)), args := #[(.tmp 70)], argTypes := #[49] }) 4 (some (31, true)),
  mk (some 72) (.pick (.tmp 69) (.tmp 71) (.const (.bool false))) 4 none,
  mk (some 2) (.assign (.tmp 72)) 4 none] fr.clear st fr k := evK_reg1 (i := 10) (by kernel_rfl) (by kernel_rfl)
noncomputable def c10_29 : Code := .ret
theorem e10_29 : evK gS fi10 c10_29 fr st k = nextK gS fi10 k .ret fr st := rfl
noncomputable def c10_27 : Code := .seq c10_28 c10_29
theorem e10_27 : evK gS fi10 c10_27 fr st k = evK gS fi10 c10_28 fr st (.seq c10_29 k) := rfl
noncomputable def c10_25 : Code := .seq c10_26 c10_27
theorem e10_25 : evK gS fi10 c10_25 fr st k = evK gS fi10 c10_26 fr st (.seq c10_27 k) := rfl
noncomputable def c10_10 : Code := .seq c10_11 c10_25
theorem e10_10 : evK gS fi10 c10_10 fr st k = evK gS fi10 c10_11 fr st (.seq c10_25 k) := rfl
noncomputable def c10_8 : Code := .seq c10_9 c10_10
theorem e10_8 : evK gS fi10 c10_8 fr st k = evK gS fi10 c10_9 fr st (.seq c10_10 k) := rfl
noncomputable def c10_6 : Code := .seq c10_7 c10_8
theorem e10_6 : evK gS fi10 c10_6 fr st k = evK gS fi10 c10_7 fr st (.seq c10_8 k) := rfl
noncomputable def c10_4 : Code := .seq c10_5 c10_6
theorem e10_4 : evK gS fi10 c10_4 fr st k = evK gS fi10 c10_5 fr st (.seq c10_6 k) := rfl
noncomputable def c10_2 : Code := .seq c10_3 c10_4
theorem e10_2 : evK gS fi10 c10_2 fr st k = evK gS fi10 c10_3 fr st (.seq c10_4 k) := rfl
noncomputable def c10_0 : Code := .seq c10_1 c10_2
theorem e10_0 : evK gS fi10 c10_0 fr st k = evK gS fi10 c10_1 fr st (.seq c10_2 k) := rfl
theorem m10 : mini fi10.body = c10_0 := by kernel_rfl
theorem n10_14 (fr : Fr) (st : St) (k : Kt) : nextK gS fi10 (.loop c10_15 k) .normal fr st = evK gS fi10 c10_14 fr st k := rfl
theorem psm_right {f : List Pred} (h : ∀ p ∈ f, pright p = true) (hl : f.length ≤ 1000000) : PSm f := by
  refine ⟨hl, fun p hp => ?_⟩
  have hr := h p hp
  refine ⟨(ok_of_right hr).1, ?_⟩
  unfold pright at hr
  split at hr
  · repeat' split at hr
    all_goals first
      | (simp only [Bool.and_eq_true, decide_eq_true_eq] at hr; omega)
      | cases hr
  · cases hr
set_option maxHeartbeats 8000000 in
theorem L10 (f : List Pred) (hf : POk f) (A : List Attr) (hA : A.length < 4611686018427387904) (st : St) (R : Out × St) (fb : Bool) (e0 e3 e8 : E) (h0 : e0.Tame) (h3 : e3.Tame) (h8 : e8.Tame) (X : List (Nat × List V))
    (H : ∀ T, evK gS fi10 c10_25 { ps := [(0, e0), (2, .val (.bool false)), (3, e3), (4, .val (.slice (encPreds f))), (5, .val (.slice (encAttrs A))), (6, .val (.bool fb)), (7, .val (.int .i64 f.length)), (8, e8)], ts := T, lc := X } st .nil = some R) :
    ∀ (n i : Nat) (b : Bool) (T : List (Nat × E)), i ≤ f.length → f.length - i = n → fb = (b && (f.drop i).all fun p => ftakes [p] A) →
    evK gS fi10 c10_14 { ps := [(0, e0), (2, .val (.bool false)), (3, e3), (4, .val (.slice (encPreds f))), (5, .val (.slice (encAttrs A))), (6, .val (.bool b)), (7, .val (.int .i64 i)), (8, e8)], ts := T, lc := X } st (.blk 0 (.seq c10_25 .nil)) = some R := by
  intro n
  have hm : fi10.marks = [] := rfl
  have hl : fi10.locals = [] := rfl
  have hr : fi10.results = [.tmp 2] := rfl
  have hfl := hf.1
  induction n with
  | zero =>
    intro i b T hi hn hb
    obtain rfl : i = f.length := by omega
    rw [List.drop_length] at hb
    have hb2 : b = fb := by rw [hb]; simp
    subst hb2
    refine evK_loop c10_15 _ _ _ _ rfl ?_
    simp [h0, h3, h8, H, -Int.not_le, -Int.not_lt, -Nat.not_le, -Nat.not_lt, ty3, ty4, ty9, ty27, ty28, ty29, ty31, ty49, ty50, hm, hl, hr, k37, k39, k43, k46, k51, e10_1, e10_3, e10_5, e10_7, e10_9, e10_12, e10_17, e10_19, e10_20, e10_18, e10_16, e10_23, e10_22, e10_24, e10_21, e10_15, e10_13, e10_11, e10_26, e10_28, e10_29, e10_27, e10_10, e10_8, e10_6, e10_4, e10_2, e10_0, n10_14]
  | succ n ih =>
    intro i b T hi hn hb
    obtain ⟨x, hx⟩ : ∃ x, f[i]? = some x := ⟨f[i]'(by omega), List.getElem?_eq_getElem (by omega)⟩
    have hlt : (i : Int) < (f.length : Int) := by omega
    have hlt2 : i < f.length := by omega
    have hw : IntKind.wrap .i64 ((i : Int) + 1) = ((i + 1 : Nat) : Int) := by rw [wrap64 (by omega) (by omega)]; omega
    have hxo := hf.get hx
    rw [drop_get hx, List.all_cons] at hb
    have hsl : ((encPreds f).take (i + 1)).drop i = encPreds [x] := by
      rw [show (encPreds f).take (i + 1) = encPreds (f.take (i + 1)) from by simp [encPreds], show (encPreds (f.take (i + 1))).drop i = encPreds ((f.take (i + 1)).drop i) from by simp [encPreds]]
      congr 1
      rw [List.drop_take, drop_get hx]
      simp
    have hsz := sizes_preds f
    have hx1 : POk [x] := ⟨by simp, fun p hp => by simp at hp; subst hp; exact hxo⟩
    have c1 : ((i + 1 : Nat) : Int) ≤ (f.length : Int) := by omega
    have c2 : (i : Int) ≤ ((i + 1 : Nat) : Int) := by omega
    have c3 : (0 : Int) ≤ ((i + 1 : Nat) : Int) := by omega
    have IH := fun b hb T => ih (i + 1) b T (by omega) (by omega) hb
    refine evK_loop c10_15 _ _ _ _ rfl ?_
    cases b with
    | true =>
      have IHc := IH (ftakes [x] A) (by rw [hb]; rfl)
      simp [-Int.natCast_add, h0, h3, h8, hlt, hlt2, hw, hsl, hsz, hx1, hA, c1, c2, c3, IHc, -Int.not_le, -Int.not_lt, -Nat.not_le, -Nat.not_lt, ty3, ty4, ty9, ty27, ty28, ty29, ty31, ty49, ty50, hm, hl, hr, k37, k39, k43, k46, k51, e10_1, e10_3, e10_5, e10_7, e10_9, e10_12, e10_17, e10_19, e10_20, e10_18, e10_16, e10_23, e10_22, e10_24, e10_21, e10_15, e10_13, e10_11, e10_26, e10_28, e10_29, e10_27, e10_10, e10_8, e10_6, e10_4, e10_2, e10_0, n10_14]
    | false =>
      have IHc := IH false (by rw [hb]; rfl)
      simp [-Int.natCast_add, h0, h3, h8, hlt, hlt2, hw, IHc, -Int.not_le, -Int.not_lt, -Nat.not_le, -Nat.not_lt, ty3, ty4, ty9, ty27, ty28, ty29, ty31, ty49, ty50, hm, hl, hr, k37, k39, k43, k46, k51, e10_1, e10_3, e10_5, e10_7, e10_9, e10_12, e10_17, e10_19, e10_20, e10_18, e10_16, e10_23, e10_22, e10_24, e10_21, e10_15, e10_13, e10_11, e10_26, e10_28, e10_29, e10_27, e10_10, e10_8, e10_6, e10_4, e10_2, e10_0, n10_14]
theorem takes_all (f : List Pred) (A : List Attr) : (f.all fun p => ftakes [p] A) = ftakes f A := by
  unfold ftakes
  congr 1
  funext p
  simp
theorem takes_more (f : List Pred) (p : Pred) (A : List Attr) : ftakes (f ++ [p]) A = (ftakes f A && ftakes [p] A) := by
  unfold ftakes; simp
set_option maxHeartbeats 8000000 in
theorem c10 (l : List Int) (st : St) (hst : st.wp ≤ st.objs.length) : ∃ st', EvF gS 10 [.slice (intVs l)] st = some (.ret (.bool true) none, st') := by
  have hm : fi10.marks = [] := rfl
  have hl : fi10.locals = [] := rfl
  have hr : fi10.results = [.tmp 2] := rfl
  have hf := feedOk_new hst
  have n1 := new_feed st l
  have k1 := fun fr => k35 l 0 0 st.objs.length fr (nw st 0 []) hf (by omega) (by omega)
  obtain ⟨g1, g2⟩ := filterV_ffv l 0 0
  have b1 := filterV_asks l 0 0
  generalize filterV l 0 0 = P1 at *
  obtain ⟨f, J, D⟩ := P1
  simp only at k1 g1 g2 b1
  have k2 := fun fr => k36 l 0 J st.objs.length fr (dd (nw st 0 []) D) (hf.dd _) (by omega) (by omega)
  have b2 := attrsV_asks l 0 J
  have b3 := attrsV_len l 0 J
  generalize attrsV l 0 J = P2 at *
  obtain ⟨A, J2⟩ := P2
  simp only at k2 b2 b3
  have k3 := fun fr => k29 l 0 J2 st.objs.length [108, 111, 110, 103] fr (dd (nw st 0 []) D) (hf.dd _) (by omega) (by omega)
  have r3 := pred_right l 0 J2 (nm := [108, 111, 110, 103]) rfl
  generalize predV l 0 J2 [108, 111, 110, 103] = P3 at *
  obtain ⟨p, J3⟩ := P3
  simp only at k3 r3
  have hps := psm_right g1.right (by omega)
  have hpo := hps.ok
  have hrl : ∀ q ∈ f ++ [p], pright q = true := fun q hq => by
    rcases List.mem_append.1 hq with h | h
    · exact g1.right q h
    · simp at h; subst h; exact r3
  have hpl := (psm_right hrl (by simp; omega)).ok
  have hA : A.length < 4611686018427387904 := by omega
  have hko := k51 f hps
  have hcc : fcovers f f = true := covers_of_sub g1.right (fun p hp => hp)
  have hcn : fcovers [] f = true := by simp [fcovers]
  have hcl : fcovers f (f ++ [p]) = true := covers_of_sub g1.right (fun q hq => List.mem_append_left _ hq)
  have hfr := ffv_right g1 g2
  have htm := takes_more f p A
  have hpn : POk ([] : List Pred) := ⟨by simp, by simp⟩
  have kcn : ∀ (fr : Fr) (st : St), callStep gS (EvF gS) 43 [.slice [], .slice (encPreds f)] fr st = some (.ok (.val (.bool true)) fr st) := fun fr st => by rw [← hcn]; exact k43 [] f hpn hpo fr st
  have LL := fun st2 R X H T => L10 f hpo A hA st2 R (ftakes f A) (.val (.slice (intVs l))) (.val (.ptr st.objs.length 0)) .any rfl rfl rfl X H f.length 0 true T (Nat.zero_le _) rfl (by rw [List.drop_zero, takes_all]; rfl)
  have hsp := sizes_preds f
  have hsn := preds_snoc f p
  have hsn0 : encPreds [p] = [.agg [.str p.name, .int .i64 p.test, .int .i64 p.v.kind, .int .i64 p.v.n, .float .f64 p.v.x, .str p.v.s, .bool p.v.b, .int .i64 p.w.kind, .int .i64 p.w.n, .float .f64 p.w.x, .str p.w.s, .bool p.w.b, .slice (encVals p.set)]] := rfl
  refine ⟨setF (dd (dd (nw st 0 []) D) p.set.length) st.objs.length l (nA l 0 (J2 + J3)), ?_⟩
  refine EvF_start fi10_eq (fun x h => by cases h) m10 ?_
  rw [st10]
  simp [n1, k1, k2, -Int.not_le, -Int.not_lt, -Nat.not_le, -Nat.not_lt, ty3, ty4, ty9, ty27, ty28, ty29, ty31, ty49, ty50, hm, hl, hr, k37, k46, k51, e10_1, e10_3, e10_5, e10_7, e10_9, e10_12, e10_17, e10_19, e10_20, e10_18, e10_16, e10_23, e10_22, e10_24, e10_21, e10_15, e10_13, e10_11, e10_26, e10_28, e10_29, e10_27, e10_25, e10_10, e10_8, e10_6, e10_4, e10_2, e10_0, n10_14]
  refine LL _ _ _ (fun T => ?_) _
  have hkk : kof 13 f = 0 ∧ f = [] ∨ kof 13 f = 13 := by
    unfold kof; split
    · exact .inl ⟨rfl, by assumption⟩
    · exact .inr rfl
  have b4 : (f.length + 1) * 144 ≤ 140737488355328 := by omega
  have b5 : f.length + 1 ≤ 140737488355328 := by omega
  have kl : ∀ (fr : Fr) (st : St), callStep gS (EvF gS) 39 [.slice (encPreds (f ++ [p])), .slice (encAttrs A)] fr st = some (.ok (.val (.bool (ftakes f A && ftakes [p] A))) fr st) := fun fr st => by rw [← htm]; exact k39 (f ++ [p]) A hpl hA fr st
  have kx : ∀ (fr : Fr) (st : St), callStep gS (EvF gS) 39 [.slice (encPreds f), .slice (encAttrs A)] fr st = some (.ok (.val (.bool (ftakes f A))) fr st) := fun fr st => k39 f A hpo hA fr st
  have kc : ∀ (fr : Fr) (st : St), callStep gS (EvF gS) 43 [.slice (encPreds f), .slice (encPreds f)] fr st = some (.ok (.val (.bool true)) fr st) := fun fr st => by rw [← hcc]; exact k43 f f hpo hpo fr st
  have kd : ∀ (fr : Fr) (st : St), callStep gS (EvF gS) 43 [.slice (encPreds f), .slice (encPreds (f ++ [p]))] fr st = some (.ok (.val (.bool true)) fr st) := fun fr st => by rw [← hcl]; exact k43 f (f ++ [p]) hpo hpl fr st
  generalize ftakes [p] A = t2 at *
  generalize ftakes f A = t1 at *
  rcases hkk with ⟨hk, hfn⟩ | hk
  · rw [hk] at hko
    cases t1 <;> cases t2 <;> simp [-List.append_assoc, hko, k3, hsp, hsn, kl, kx, kc, kcn, kd, hfr, hpo, b4, b5, -Int.not_le, -Int.not_lt, -Nat.not_le, -Nat.not_lt, ty3, ty4, ty9, ty27, ty28, ty29, ty31, ty49, ty50, hm, hl, hr, k37, k46, k51, e10_1, e10_3, e10_5, e10_7, e10_9, e10_12, e10_17, e10_19, e10_20, e10_18, e10_16, e10_23, e10_22, e10_24, e10_21, e10_15, e10_13, e10_11, e10_26, e10_28, e10_29, e10_27, e10_25, e10_10, e10_8, e10_6, e10_4, e10_2, e10_0, n10_14]
  · rw [hk] at hko
    cases t1 <;> cases t2 <;> simp [-List.append_assoc, hko, k3, hsp, hsn, kl, kx, kc, kcn, kd, hfr, hpo, b4, b5, -Int.not_le, -Int.not_lt, -Nat.not_le, -Nat.not_lt, ty3, ty4, ty9, ty27, ty28, ty29, ty31, ty49, ty50, hm, hl, hr, k37, k46, k51, e10_1, e10_3, e10_5, e10_7, e10_9, e10_12, e10_17, e10_19, e10_20, e10_18, e10_16, e10_23, e10_22, e10_24, e10_21, e10_15, e10_13, e10_11, e10_26, e10_28, e10_29, e10_27, e10_25, e10_10, e10_8, e10_6, e10_4, e10_2, e10_0, n10_14]
theorem run10 (l : List Int) : ∃ st', EvF gS 10 [.slice (intVs l)] ⟨[], 0⟩ = some (.ret (.bool true) none, st') := c10 l ⟨[], 0⟩ (Nat.le_refl _)
end Go.Proofs.Ytclpbfkbpcjejaa
namespace Go.Ab
open Go Go.ChangeShapes Go.WideShapes
set_option linter.unusedVariables false
set_option linter.unusedSimpArgs false
set_option linter.unnecessarySimpa false
variable {H : Type} {enc : TypeId × Value → H} {P : Program} {w : World} {base b0 : Nat} {spare : Nat → Bool} {held : Bool} {r : Reach}
theorem arg_ints {t e : TypeId} {k : IntKind} {v : Value} {d : DataW H} {ps : List MemPlace} (ht : P.underlying t = some (.slice e)) (he : P.underlying e = some (.int k)) (hc : P.cellsOf e = 1)
    (hval : Value.okWide P w r b0 t v) (h : DataW.Trod enc P w base spare held t v d ps) : ∃ zs : List Int, Rep K0 w v (.slice (zs.map (V.int k))) ∧ ∀ n ∈ zs, (Lit.int k n).wf = true := by
  obtain ⟨a0, len, cap, rfl⟩ := okWide_slice ht hval
  obtain ⟨fuel, hf⟩ := h
  rcases open_ints ht he hc hf with ⟨hcs, _⟩ | ⟨a, len', cap', zs, hcs, _, hl, hm, hz, _, hcell, hwz⟩
  · simp [Value.cells] at hcs
    obtain ⟨rfl, rfl, rfl⟩ := hcs
    exact ⟨[], .slice0 _ _, by simp⟩
  · simp [Value.cells] at hcs
    obtain ⟨rfl, rfl, rfl⟩ := hcs
    have hzl : len ≤ zs.length := by rw [hz]; split <;> omega
    by_cases h0 : len = 0
    · subst h0; exact ⟨[], .slice0 _ _, by simp⟩
    · refine ⟨zs.take len, ?_, fun n hn => hwz n (List.mem_of_mem_take hn)⟩
      obtain ⟨b, off, spot⟩ := a
      have hspot : spot = none := by simpa [Addr.add] using World.cell?_spot (hcell 0 (by omega))
      subst hspot
      have hlen : ((zs.take len).map (V.int k)).length = len := by simp; omega
      have hfl : ((zs.take len).map (V.int k)).flatMap V.cells = (zs.take len).map (V.int k) := by
        generalize zs.take len = l
        induction l with
        | nil => rfl
        | cons x r ih => simp only [List.map_cons, List.flatMap_cons, ih]; rfl
      have key : Rep K0 w (.slice (some (at_ b off)) ((zs.take len).map (V.int k)).length cap) (.slice ((zs.take len).map (V.int k))) := by
        refine .slice (k := 1) (by rw [hlen]; exact hl) (fun x hx => ?_) ?_
        · obtain ⟨n, _, rfl⟩ := List.mem_map.1 hx; rfl
        · rw [hfl]
          refine RepAt.of_get fun j x hx => ?_
          rw [List.getElem?_map, List.getElem?_take] at hx
          split at hx
          · rename_i hj
            have hjz : j < zs.length := by omega
            rw [List.getElem?_eq_getElem hjz] at hx
            simp only [Option.map_some, Option.some.injEq] at hx
            subst hx
            refine ⟨.int k zs[j], ⟨?_, rfl⟩, .int _ _⟩
            have := hcell j hjz
            simp only [List.getD, List.getElem?_eq_getElem hjz, Option.getD_some] at this
            rwa [show ({ block := b, off := off } : Addr) = at_ b off from rfl, addr_add] at this
          · cases hx
      rw [hlen] at key
      exact key
end Go.Ab
namespace Go.Proofs.Ytclpbfkbpcjejaa
open Go Go.Ab Go.ChangeShapes Go.WideShapes Go.ChangeAt Go.RowKit
set_option linter.unusedVariables false
set_option linter.unusedSimpArgs false
set_option linter.unnecessarySimpa false
set_option maxRecDepth 100000 in
theorem filterAll_lifted (os : Os) (started : os.Started) (H : Type) (enc : TypeId × Value → H) :
    ReturnsInHanded {} Try.checked os 10 .any (Rows.filterAllSpec.pre6 enc Try.prog Try.f10 Rows.filterAllRow.domain false) (Rows.filterAllSpec.post enc Try.prog Try.f10 false true false false) := by
  refine returnsInHanded_of_change_sized (C := Try.checked) Try.own started (by kernel_rfl) Try.func10
    (ChangeSpec.witness6 (enc := enc) (C := Try.checked) false ⟨#[], #[.slice none 0 0], []⟩ 8 (by kernel_rfl) (by kernel_rfl) (by kernel_rfl) (by kernel_rfl)) ?_
  intro W base args ds gs before hval0 hW _ hsz0 _
  have hW' := hW
  obtain ⟨p, q, hA0, hV, rfl, _, _⟩ := hW
  have hA : DataW.TrodAll enc Try.prog W 0 (fun _ => true) true Try.f10.params.toList args.toList ds p := hA0
  have hpar : Try.f10.params = #[28] := by kernel_rfl
  have hval : ∀ (j : Nat) t v, Try.f10.params[j]? = some t → args[j]? = some v → Value.okWide Try.prog W .any base t v := hval0
  rw [hpar] at hA hval
  obtain ⟨l⟩ := args
  obtain ⟨v0, l, d0, ds, p0, r0, rfl, rfl, rfl, h0, hA⟩ := trodAll_cons hA
  obtain ⟨rfl, rfl, rfl⟩ := trodAll_nil hA
  obtain ⟨rfl, rfl⟩ := trodVars_none hV
  obtain ⟨x0, a0, _⟩ := arg_ints Try.underlying28 Try.underlying3 (by kernel_rfl) (hval 0 28 v0 rfl rfl) h0
  have hlt : ∀ y ∈ (p0 ++ []) ++ [], y.block < W.heap.size := fun y hy => hW'.lt y hy
  have hr : Reps K0 W [v0] [.slice (intVs x0)] := .cons a0 .nil
  obtain ⟨st', hev⟩ := run10 x0
  obtain ⟨nn, hrun⟩ := EvF_fuel hev
  refine (law_calls (n := nn) (f := 10) (xs := [.slice (intVs x0)]) (gS_calls nn) (by rw [hrun]) (W := W) (args := #[v0]) hr).mono ?_
  rintro e W' ⟨rfl, hn⟩
  refine ⟨_, rfl, _, _, _, [], p0 ++ [], [], hW', ?_, ?_, rfl, hn.frame _, fun h => by cases h⟩
  · exact trodAll_mk1 (shut_bool Try.underlying4 true)
  · exact ⟨p0, _, Below.trod Try.laidOut (by kernel_rfl) (of_decide_eq_true (by kernel_rfl)) h0 hn (fun y hy => hlt y (by simp [hy])), rfl, rfl⟩
theorem filterAll_holds : Rows.FilterAllSaid :=
  OpenClaim.holds_of_wide 10 Try.f10 rfl rfl rfl rfl rfl rfl rfl ⟨rfl, rfl, rfl, rfl, rfl⟩ rfl rfl rfl rfl rfl (by kernel_rfl) Try.func10 (by kernel_rfl)
    (of_decide_eq_true (by kernel_rfl)) (by unfold Func.isWrapper; first | (rw [if_pos (by decide +kernel)]; kernel_rfl) | (rw [if_neg (by decide +kernel)]; exact ⟨rfl, rfl⟩))
    (fun os started H enc _ => filterAll_lifted os started H enc)
#print axioms filterAll_holds
end Go.Proofs.Ytclpbfkbpcjejaa
