/- FilterAll: whatever it is given, the call returns true and leaves what was there as it was; no condition. Part 5. -/
import Derived.Test.YtclpbfkbpcjejaaK4
namespace Go.Proofs.Ytclpbfkbpcjejaa
open Go Go.Ab
set_option linter.unusedVariables false
set_option linter.unusedSimpArgs false
set_option linter.unnecessarySimpa false
set_option maxRecDepth 20000
variable (fr : Fr) (st : St) (k : Kt)
noncomputable def fi25 : FI := { body := codeOf Try.f25, ntmps := 62, results := [.tmp 4], pers := [0, 1, 2, 3, 4, 5, 45, 46], locals := [2, 3], pure := true, marks := [] }
theorem fi25_eq : gS.fn 25 = some fi25 := by kernel_rfl
theorem st25 (a0 a1 : V) : startFr fi25 [a0, a1] = { ps := [(0, .val a0), (1, .val a1), (2, .any), (3, .any), (4, .any), (5, .any), (45, .any), (46, .any)], ts := [], lc := [] } := rfl
noncomputable def b25 : Code := mini (codeOf Try.f25)
noncomputable def c25_1 : Code := codeAt b25 [false]
theorem e25_1 : evK gS fi25 c25_1 fr st k = opsK gS fi25 [(some 2), (some 3), (some 4)] [mk (some 2) (.box 27 (.tmp 0)) 0 none,
  mk (some 3) (.box 27 (.tmp 1)) 0 none,
  mk (some 4) (.assign (.const (.bool false))) 4 none] fr.clear st fr k := evK_reg1 (i := 0) (by kernel_rfl) (by kernel_rfl)
noncomputable def c25_4 : Code := codeAt b25 [true, false, false]
theorem e25_4 : evK gS fi25 c25_4 fr st k = opsK gS fi25 [(some 6), (some 7), (some 8), (some 9), (some 10), (some 11), (some 12), (some 13), (some 14), (some 15), (some 16), (some 17), (some 18), (some 19), (some 20), (some 21), (some 22), (some 23), (some 24), (some 25), (some 26), (some 27), (some 28), (some 29), (some 30), (some 31), (some 32), (some 33), (some 34), (some 35), (some 36), (some 37), (some 38), (some 39), (some 40), (some 41), (some 42)] [mk (some 6) (.fieldAddr 27 (.tmp 2) 0) 0 none,
  mk (some 7) (.load 9 (.tmp 6)) 9 none,
  mk (some 8) (.fieldAddr 27 (.tmp 3) 0) 0 none,
  mk (some 9) (.load 9 (.tmp 8)) 9 none,
  mk (some 10) (.binOp .neq 9 (.tmp 7) (.tmp 9) 9) 4 none,
  mk (some 11) (.move (.tmp 10)) 4 none,
  mk (some 12) (.fieldAddr 27 (.tmp 2) 1) 0 (some (5, false)),
  mk (some 13) (.load 3 (.tmp 12)) 3 (some (5, false)),
  mk (some 14) (.fieldAddr 27 (.tmp 3) 1) 0 (some (5, false)),
  mk (some 15) (.load 3 (.tmp 14)) 3 (some (5, false)),
  mk (some 16) (.binOp .neq 3 (.tmp 13) (.tmp 15) 3) 4 (some (5, false)),
  mk (some 17) (.pick (.tmp 11) (.const (.bool true)) (.tmp 16)) 4 none,
  mk (some 18) (.move (.tmp 17)) 4 none,
  mk (some 19) (.fieldAddr 27 (.tmp 2) 2) 0 (some (12, false)),
  mk (some 20) (.load 24 (.tmp 19)) 24 (some (12, false)),
  mk (some 21) (.fieldAddr 27 (.tmp 3) 2) 0 (some (12, false)),
  mk (some 22) (.load 24 (.tmp 21)) 24 (some (12, false)),
  mk (some 23) (.call { callee := (.value (.func 81)), args := #[(.tmp 20), (.tmp 22)], argTypes := #[24, 24] }) 4 (some (12, false)),
  mk (some 24) (.unOp .not 4 (.tmp 23)) 4 (some (12, false)),
  mk (some 25) (.pick (.tmp 18) (.const (.bool true)) (.tmp 24)) 4 none,
  mk (some 26) (.move (.tmp 25)) 4 none,
  mk (some 27) (.fieldAddr 27 (.tmp 2) 3) 0 (some (20, false)),
  mk (some 28) (.load 24 (.tmp 27)) 24 (some (20, false)),
  mk (some 29) (.fieldAddr 27 (.tmp 3) 3) 0 (some (20, false)),
  mk (some 30) (.load 24 (.tmp 29)) 24 (some (20, false)),
  mk (some 31) (.call { callee := (.value (.func 81)), args := #[(.tmp 28), (.tmp 30)], argTypes := #[24, 24] }) 4 (some (20, false)),
  mk (some 32) (.unOp .not 4 (.tmp 31)) 4 (some (20, false)),
  mk (some 33) (.pick (.tmp 26) (.const (.bool true)) (.tmp 32)) 4 none,
  mk (some 34) (.move (.tmp 33)) 4 none,
  mk (some 35) (.fieldAddr 27 (.tmp 2) 4) 0 (some (28, false)),
  mk (some 36) (.load 25 (.tmp 35)) 25 (some (28, false)),
  mk (some 37) (.call { callee := (.builtin .len), args := #[(.tmp 36)], argTypes := #[25] }) 3 (some (28, false)),
  mk (some 38) (.fieldAddr 27 (.tmp 3) 4) 0 (some (28, false)),
  mk (some 39) (.load 25 (.tmp 38)) 25 (some (28, false)),
  mk (some 40) (.call { callee := (.builtin .len), args := #[(.tmp 39)], argTypes := #[25] }) 3 (some (28, false)),
  mk (some 41) (.binOp .neq 3 (.tmp 37) (.tmp 40) 3) 4 (some (28, false)),
  mk (some 42) (.pick (.tmp 34) (.const (.bool true)) (.tmp 41)) 4 none] fr.clear st fr k := evK_reg1 (i := 1) (by kernel_rfl) (by kernel_rfl)
noncomputable def c25_7 : Code := codeAt b25 [true, false, true, false, false]
theorem e25_7 : evK gS fi25 c25_7 fr st k = opsK gS fi25 [(some 4)] [mk (some 4) (.assign (.const (.bool false))) 4 none] fr.clear st fr k := evK_reg1 (i := 2) (by kernel_rfl) (by kernel_rfl)
noncomputable def c25_8 : Code := .ret
theorem e25_8 : evK gS fi25 c25_8 fr st k = nextK gS fi25 k .ret fr st := rfl
noncomputable def c25_6 : Code := .seq c25_7 c25_8
theorem e25_6 : evK gS fi25 c25_6 fr st k = evK gS fi25 c25_7 fr st (.seq c25_8 k) := rfl
noncomputable def c25_9 : Code := .skip
theorem e25_9 : evK gS fi25 c25_9 fr st k = nextK gS fi25 k .normal fr st := rfl
noncomputable def c25_5 : Code := .cond (.tmp 42) c25_6 c25_9
theorem e25_5 : evK gS fi25 c25_5 fr st k = condK gS fi25 (fr.op (.tmp 42)).bool? c25_6 c25_9 fr st k := rfl
noncomputable def c25_3 : Code := .seq c25_4 c25_5
theorem e25_3 : evK gS fi25 c25_3 fr st k = evK gS fi25 c25_4 fr st (.seq c25_5 k) := rfl
noncomputable def c25_12 : Code := codeAt b25 [true, true, false, false]
theorem e25_12 : evK gS fi25 c25_12 fr st k = opsK gS fi25 [(some 43), (some 44), (some 45), (some 46)] [mk (some 43) (.fieldAddr 27 (.tmp 2) 4) 0 none,
  mk (some 44) (.load 25 (.tmp 43)) 25 none,
  mk (some 45) (.call { callee := (.builtin .len), args := #[(.tmp 44)], argTypes := #[25] }) 3 none,
  mk (some 46) (.move (.const (.int .i64 0))) 3 none] fr.clear st fr k := evK_reg1 (i := 3) (by kernel_rfl) (by kernel_rfl)
noncomputable def c25_16 : Code := codeAt b25 [true, true, false, true, false, false, false]
theorem e25_16 : evK gS fi25 c25_16 fr st k = opsK gS fi25 [(some 47)] [mk (some 47) (.binOp .lss 3 (.tmp 46) (.tmp 45) 3) 0 none] fr.clear st fr k := evK_reg1 (i := 4) (by kernel_rfl) (by kernel_rfl)
noncomputable def c25_19 : Code := .skip
theorem e25_19 : evK gS fi25 c25_19 fr st k = nextK gS fi25 k .normal fr st := rfl
noncomputable def c25_20 : Code := .exit 0
theorem e25_20 : evK gS fi25 c25_20 fr st k = nextK gS fi25 k (.exit 0) fr st := rfl
noncomputable def c25_18 : Code := .cond (.tmp 47) c25_19 c25_20
theorem e25_18 : evK gS fi25 c25_18 fr st k = condK gS fi25 (fr.op (.tmp 47)).bool? c25_19 c25_20 fr st k := rfl
noncomputable def c25_24 : Code := codeAt b25 [true, true, false, true, false, false, true, true, false, false, false]
theorem e25_24 : evK gS fi25 c25_24 fr st k = opsK gS fi25 [(some 48), (some 5)] [mk (some 48) (.move (.tmp 46)) 3 none,
  mk (some 5) (.assign (.tmp 48)) 3 none] fr.clear st fr k := evK_reg1 (i := 5) (by kernel_rfl) (by kernel_rfl)
noncomputable def r25_26 : Array Oper := regOps (codeAt (codeOf Try.f25) [true, true, false, true, false, false, true, true, false, false, true, false])
noncomputable def c25_26 : Code := .region 6 r25_26 true
noncomputable def q25_26 : List (Oper × Fl) := [(mk (some 49) (.fieldAddr 27 (.tmp 2) 4) 0 none, ⟨true, false, true, false, false, false, true, true, false, false, []⟩),
  (mk (some 50) (.load 25 (.tmp 49)) 25 none, ⟨true, false, true, false, false, false, true, true, false, false, []⟩),
  (mk (some 51) (.move (.tmp 5)) 3 none, ⟨true, false, true, false, false, false, true, true, false, false, []⟩),
  (mk (some 52) (.indexAddr 25 (.tmp 50) (.tmp 51)) 0 none, ⟨true, false, true, false, false, false, true, true, false, false, []⟩),
  (mk (some 53) (.load 24 (.tmp 52)) 24 none, ⟨true, false, true, false, false, false, true, true, false, false, []⟩),
  (mk (some 54) (.fieldAddr 27 (.tmp 3) 4) 0 none, ⟨true, false, true, false, false, false, true, true, false, false, []⟩),
  (mk (some 55) (.load 25 (.tmp 54)) 25 none, ⟨true, false, true, false, false, false, true, true, false, false, []⟩),
  (mk (some 56) (.move (.tmp 5)) 3 none, ⟨true, false, true, false, true, false, true, true, false, false, []⟩),
  (mk (some 57) (.indexAddr 25 (.tmp 55) (.tmp 56)) 0 none, ⟨true, false, true, false, true, false, true, true, false, false, []⟩),
  (mk (some 58) (.load 24 (.tmp 57)) 24 none, ⟨true, false, true, false, true, false, true, true, false, false, []⟩),
  (mk (some 59) (.call { callee := (.value (.func 81)), args := #[(.tmp 53), (.tmp 58)], argTypes := #[24, 24] }) 4 none, ⟨true, true, true, false, true, true, true, true, false, false, []⟩),
  (mk (some 60) (.unOp .not 4 (.tmp 59)) 4 none, ⟨true, false, true, false, true, false, true, true, false, false, []⟩)]
theorem e25_26 : evK gS fi25 c25_26 fr st k = drwK gS fi25 r25_26 [(some 49), (some 50), (some 51), (some 52), (some 53), (some 54), (some 55), (some 56), (some 57), (some 58), (some 59), (some 60)] q25_26 0 fr.clear st fr k := by
  rw [evK_draw (g := gS) (fi := fi25) (c := c25_26) 6 r25_26 q25_26 fr st k rfl (by kernel_rfl) (by kernel_rfl), show r25_26.toList.map (·.dst) = [(some 49), (some 50), (some 51), (some 52), (some 53), (some 54), (some 55), (some 56), (some 57), (some 58), (some 59), (some 60)] from by kernel_rfl]
noncomputable def c25_29 : Code := codeAt b25 [true, true, false, true, false, false, true, true, false, false, true, true, false, false]
theorem e25_29 : evK gS fi25 c25_29 fr st k = opsK gS fi25 [(some 4)] [mk (some 4) (.assign (.const (.bool false))) 4 none] fr.clear st fr k := evK_reg1 (i := 7) (by kernel_rfl) (by kernel_rfl)
noncomputable def c25_30 : Code := .ret
theorem e25_30 : evK gS fi25 c25_30 fr st k = nextK gS fi25 k .ret fr st := rfl
noncomputable def c25_28 : Code := .seq c25_29 c25_30
theorem e25_28 : evK gS fi25 c25_28 fr st k = evK gS fi25 c25_29 fr st (.seq c25_30 k) := rfl
noncomputable def c25_31 : Code := .skip
theorem e25_31 : evK gS fi25 c25_31 fr st k = nextK gS fi25 k .normal fr st := rfl
noncomputable def c25_27 : Code := .cond (.tmp 60) c25_28 c25_31
theorem e25_27 : evK gS fi25 c25_27 fr st k = condK gS fi25 (fr.op (.tmp 60)).bool? c25_28 c25_31 fr st k := rfl
noncomputable def c25_25 : Code := .seq c25_26 c25_27
theorem e25_25 : evK gS fi25 c25_25 fr st k = evK gS fi25 c25_26 fr st (.seq c25_27 k) := rfl
noncomputable def c25_23 : Code := .seq c25_24 c25_25
theorem e25_23 : evK gS fi25 c25_23 fr st k = evK gS fi25 c25_24 fr st (.seq c25_25 k) := rfl
noncomputable def c25_22 : Code := .block 1 c25_23
theorem e25_22 : evK gS fi25 c25_22 fr st k = evK gS fi25 c25_23 fr st (.blk 1 k) := rfl
noncomputable def c25_32 : Code := codeAt b25 [true, true, false, true, false, false, true, true, true]
theorem e25_32 : evK gS fi25 c25_32 fr st k = opsK gS fi25 [(some 61), (some 46)] [mk (some 61) (.binOp .add 3 (.tmp 46) (.const (.int .i64 1)) 3) 3 none,
  mk (some 46) (.move (.tmp 61)) 3 none] fr.clear st fr k := evK_reg1 (i := 8) (by kernel_rfl) (by kernel_rfl)
noncomputable def c25_21 : Code := .seq c25_22 c25_32
theorem e25_21 : evK gS fi25 c25_21 fr st k = evK gS fi25 c25_22 fr st (.seq c25_32 k) := rfl
noncomputable def c25_17 : Code := .seq c25_18 c25_21
theorem e25_17 : evK gS fi25 c25_17 fr st k = evK gS fi25 c25_18 fr st (.seq c25_21 k) := rfl
noncomputable def c25_15 : Code := .seq c25_16 c25_17
theorem e25_15 : evK gS fi25 c25_15 fr st k = evK gS fi25 c25_16 fr st (.seq c25_17 k) := rfl
noncomputable def c25_14 : Code := .loop c25_15
noncomputable def c25_13 : Code := .block 0 c25_14
theorem e25_13 : evK gS fi25 c25_13 fr st k = evK gS fi25 c25_14 fr st (.blk 0 k) := rfl
noncomputable def c25_11 : Code := .seq c25_12 c25_13
theorem e25_11 : evK gS fi25 c25_11 fr st k = evK gS fi25 c25_12 fr st (.seq c25_13 k) := rfl
noncomputable def c25_34 : Code := codeAt b25 [true, true, true, false]
theorem e25_34 : evK gS fi25 c25_34 fr st k = opsK gS fi25 [(some 4)] [mk (some 4) (.assign (.const (.bool true))) 4 none] fr.clear st fr k := evK_reg1 (i := 9) (by kernel_rfl) (by kernel_rfl)
noncomputable def c25_35 : Code := .ret
theorem e25_35 : evK gS fi25 c25_35 fr st k = nextK gS fi25 k .ret fr st := rfl
noncomputable def c25_33 : Code := .seq c25_34 c25_35
theorem e25_33 : evK gS fi25 c25_33 fr st k = evK gS fi25 c25_34 fr st (.seq c25_35 k) := rfl
noncomputable def c25_10 : Code := .seq c25_11 c25_33
theorem e25_10 : evK gS fi25 c25_10 fr st k = evK gS fi25 c25_11 fr st (.seq c25_33 k) := rfl
noncomputable def c25_2 : Code := .seq c25_3 c25_10
theorem e25_2 : evK gS fi25 c25_2 fr st k = evK gS fi25 c25_3 fr st (.seq c25_10 k) := rfl
noncomputable def c25_0 : Code := .seq c25_1 c25_2
theorem e25_0 : evK gS fi25 c25_0 fr st k = evK gS fi25 c25_1 fr st (.seq c25_2 k) := rfl
theorem m25 : mini fi25.body = c25_0 := by kernel_rfl
theorem n25_14 (fr : Fr) (st : St) (k : Kt) : nextK gS fi25 (.loop c25_15 k) .normal fr st = evK gS fi25 c25_14 fr st k := rfl
set_option maxHeartbeats 4000000 in
theorem L25_14 (a : Pred) (b : Pred) (h_a : a.ok) (st : St) : ∀ (n i : Nat) (j : Int) (m : Int) (e0 e1 e4 e5 : E) (T : List (Nat × E)) (X : List (Nat × List V)) (ht0 : e0.Tame) (ht1 : e1.Tame) (ht4 : e4.Tame) (ht5 : e5.Tame) (hx2 : lk X 2 = some [.str a.name, .int .i64 a.test, .int .i64 a.v.kind, .int .i64 a.v.n, .float .f64 a.v.x, .str a.v.s, .bool a.v.b, .int .i64 a.w.kind, .int .i64 a.w.n, .float .f64 a.w.x, .str a.w.s, .bool a.w.b, .slice (encVals a.set)]) (hx3 : lk X 3 = some [.str b.name, .int .i64 b.test, .int .i64 b.v.kind, .int .i64 b.v.n, .float .f64 b.v.x, .str b.v.s, .bool b.v.b, .int .i64 b.w.kind, .int .i64 b.w.n, .float .f64 b.w.x, .str b.w.s, .bool b.w.b, .slice (encVals b.set)]) (hlen : a.set.length = b.set.length) (hm45 : m = ((a.set.length : Nat) : Int)), j = (i : Int) → i ≤ (a.set).length → (a.set).length - i = n →
    evK gS fi25 c25_14 { ps := [(0, e0), (1, e1), (2, .lp 2 0), (3, .lp 3 0), (4, e4), (5, e5), (45, .val (.int .i64 m)), (46, .val (.int .i64 j))], ts := T, lc := X } st (.blk 0 (.seq c25_33 .nil)) = some ((.ret (.bool (sames (a.set.drop i) (b.set.drop i))) none), st) := by
  intro n
  have hm : fi25.marks = [] := rfl
  have hl : fi25.locals = [2, 3] := rfl
  have hr : fi25.results = [.tmp 4] := rfl
  have hao := h_a.2
  induction n with
  | zero =>
    intro i j m e0 e1 e4 e5 T X ht0 ht1 ht4 ht5 hx2 hx3 hlen hm45 hj hi hn
    obtain rfl : i = (a.set).length := by omega
    subst hj
    subst hm45
    have hz : b.set.drop a.set.length = [] := List.drop_eq_nil_of_le (by omega)
    refine evK_loop c25_15 _ st _ _ rfl ?_
    simp (config := { contextual := true, maxSteps := 10000000, maxDischargeDepth := 6 }) [-Int.not_le, -Int.not_lt, -Nat.not_le, -Nat.not_lt, ty3, ty4, ty9, ty24, ty25, ty27, eq24, hm, hl, hr, k81, x81, fi81_eq, p81, e25_1, e25_4, e25_7, e25_8, e25_6, e25_9, e25_5, e25_3, e25_12, e25_16, e25_19, e25_20, e25_18, e25_24, e25_26, q25_26, e25_29, e25_30, e25_28, e25_31, e25_27, e25_25, e25_23, e25_22, e25_32, e25_21, e25_17, e25_15, e25_13, e25_11, e25_34, e25_35, e25_33, e25_10, e25_2, e25_0, n25_14, ht0, ht1, ht4, ht5, hx2, hx3, hz]
    all_goals try simp (config := { contextual := true }) [-Int.not_le, -Int.not_lt, -Nat.not_le, -Nat.not_lt, sames]
    all_goals first | done | grind | omega | (trace_state; fail)
  | succ n ih =>
    intro i j m e0 e1 e4 e5 T X ht0 ht1 ht4 ht5 hx2 hx3 hlen hm45 hj hi hn
    subst hj
    obtain ⟨x, hx⟩ : ∃ x, (a.set)[i]? = some x := ⟨(a.set)[i]'(by omega), List.getElem?_eq_getElem (by omega)⟩
    have hd := drop_get hx
    have hlt : (i : Int) < ((a.set).length : Int) := by omega
    have hlt2 : i < (a.set).length := by omega
    have hxe : (a.set)[i]'hlt2 = x := by rw [List.getElem?_eq_getElem hlt2] at hx; exact Option.some.inj hx
    have hw : IntKind.wrap .i64 ((i : Int) + 1) = (i : Int) + 1 := wrap64 (by omega) (by omega)
    subst hm45
    obtain ⟨y, hy⟩ : ∃ y, (b.set)[i]? = some y := ⟨(b.set)[i]'(by omega), List.getElem?_eq_getElem (by omega)⟩
    have hyd := drop_get hy
    have hyl : i < (b.set).length := by omega
    have hye : (b.set)[i]'hyl = y := by rw [List.getElem?_eq_getElem hyl] at hy; exact Option.some.inj hy
    have IH := fun m e0 e1 e4 e5 T X ht0 ht1 ht4 ht5 hx2 hx3 hlen hm45 => ih (i + 1) ((i : Int) + 1) m e0 e1 e4 e5 T X ht0 ht1 ht4 ht5 hx2 hx3 hlen hm45 rfl (by omega) (by omega)
    refine evK_loop c25_15 _ st _ _ rfl ?_
    simp (config := { contextual := true, maxSteps := 10000000, maxDischargeDepth := 6 }) [-Int.not_le, -Int.not_lt, -Nat.not_le, -Nat.not_lt, ty3, ty4, ty9, ty24, ty25, ty27, eq24, hm, hl, hr, k81, x81, fi81_eq, p81, e25_1, e25_4, e25_7, e25_8, e25_6, e25_9, e25_5, e25_3, e25_12, e25_16, e25_19, e25_20, e25_18, e25_24, e25_26, q25_26, e25_29, e25_30, e25_28, e25_31, e25_27, e25_25, e25_23, e25_22, e25_32, e25_21, e25_17, e25_15, e25_13, e25_11, e25_34, e25_35, e25_33, e25_10, e25_2, e25_0, n25_14, ht0, ht1, ht4, ht5, hx2, hx3, hx, hxe, hd, hlt, hlt2, hw, IH, hy, hye, hyd, hlen]
    all_goals try simp (config := { contextual := true }) [-Int.not_le, -Int.not_lt, -Nat.not_le, -Nat.not_lt, sames]
    all_goals first | done | grind | omega | (trace_state; fail)
set_option maxHeartbeats 4000000 in
theorem c25 (a : Pred) (b : Pred)  (h_a : Pred.ok a) (h_b : Pred.ok b) (st : St) : EvF gS 25 [a.enc, b.enc] st = some (.ret (.bool (psame a b)) none, st) := by
  refine EvF_start fi25_eq (fun x h => by cases h) m25 ?_
  rw [st25]
  have hm : fi25.marks = [] := rfl
  have hl : fi25.locals = [2, 3] := rfl
  have hr : fi25.results = [.tmp 4] := rfl
  simp (config := { contextual := true, maxSteps := 10000000, maxDischargeDepth := 6 }) [-Int.not_le, -Int.not_lt, -Nat.not_le, -Nat.not_lt, ty3, ty4, ty9, ty24, ty25, ty27, eq24, hm, hl, hr, k81, x81, fi81_eq, p81, e25_1, e25_4, e25_7, e25_8, e25_6, e25_9, e25_5, e25_3, e25_12, e25_16, e25_19, e25_20, e25_18, e25_24, e25_26, q25_26, e25_29, e25_30, e25_28, e25_31, e25_27, e25_25, e25_23, e25_22, e25_32, e25_21, e25_17, e25_15, e25_13, e25_11, e25_34, e25_35, e25_33, e25_10, e25_2, e25_0, n25_14, (fun m e0 e1 e4 e5 T X ht0 ht1 ht4 ht5 hx2 hx3 hlen hm45 => L25_14 a b h_a st _ 0 0  m e0 e1 e4 e5 T X ht0 ht1 ht4 ht5 hx2 hx3 hlen hm45 rfl (Nat.zero_le _) rfl), h_a.1, h_a.2, h_b.1, h_b.2]
  all_goals try simp (config := { contextual := true }) [-Int.not_le, -Int.not_lt, -Nat.not_le, -Nat.not_lt, psame, sames_ne]
  all_goals first | done | grind | omega | (trace_state; fail)
theorem k25 (a_name : List UInt8) (a_test : Int) (a_vk : Int) (a_vn : Int) (a_vx : Nat) (a_vs : List UInt8) (a_vb : Bool) (a_wk : Int) (a_wn : Int) (a_wx : Nat) (a_ws : List UInt8) (a_wb : Bool) (a_set : List Val) (b_name : List UInt8) (b_test : Int) (b_vk : Int) (b_vn : Int) (b_vx : Nat) (b_vs : List UInt8) (b_vb : Bool) (b_wk : Int) (b_wn : Int) (b_wx : Nat) (b_ws : List UInt8) (b_wb : Bool) (b_set : List Val)  (h_a : Pred.ok (⟨a_name, a_test, ⟨a_vk, a_vn, a_vx, a_vs, a_vb⟩, ⟨a_wk, a_wn, a_wx, a_ws, a_wb⟩, a_set⟩ : Pred)) (h_b : Pred.ok (⟨b_name, b_test, ⟨b_vk, b_vn, b_vx, b_vs, b_vb⟩, ⟨b_wk, b_wn, b_wx, b_ws, b_wb⟩, b_set⟩ : Pred)) (fr : Fr) (st : St) : callStep gS (EvF gS) 25 [.agg [.str a_name, .int .i64 a_test, .int .i64 a_vk, .int .i64 a_vn, .float .f64 a_vx, .str a_vs, .bool a_vb, .int .i64 a_wk, .int .i64 a_wn, .float .f64 a_wx, .str a_ws, .bool a_wb, .slice (encVals a_set)], .agg [.str b_name, .int .i64 b_test, .int .i64 b_vk, .int .i64 b_vn, .float .f64 b_vx, .str b_vs, .bool b_vb, .int .i64 b_wk, .int .i64 b_wn, .float .f64 b_wx, .str b_ws, .bool b_wb, .slice (encVals b_set)]] fr st = some (.ok (retE none (.bool (psame (⟨a_name, a_test, ⟨a_vk, a_vn, a_vx, a_vs, a_vb⟩, ⟨a_wk, a_wn, a_wx, a_ws, a_wb⟩, a_set⟩ : Pred) (⟨b_name, b_test, ⟨b_vk, b_vn, b_vx, b_vs, b_vb⟩, ⟨b_wk, b_wn, b_wx, b_ws, b_wb⟩, b_set⟩ : Pred)))) fr st) :=
  call_pure rfl fi25_eq rfl (fun st => c25 (⟨a_name, a_test, ⟨a_vk, a_vn, a_vx, a_vs, a_vb⟩, ⟨a_wk, a_wn, a_wx, a_ws, a_wb⟩, a_set⟩ : Pred) (⟨b_name, b_test, ⟨b_vk, b_vn, b_vx, b_vs, b_vb⟩, ⟨b_wk, b_wn, b_wx, b_ws, b_wb⟩, b_set⟩ : Pred) h_a h_b st) (by simp)
noncomputable def fi84 : FI := { body := codeOf Try.f84, ntmps := 11, results := [.tmp 4], pers := [0, 1, 2, 3, 4], locals := [2, 3], pure := true, marks := [] }
theorem fi84_eq : gS.fn 84 = some fi84 := by kernel_rfl
theorem st84 (a0 a1 : V) : startFr fi84 [a0, a1] = { ps := [(0, .val a0), (1, .val a1), (2, .any), (3, .any), (4, .any)], ts := [], lc := [] } := rfl
noncomputable def b84 : Code := mini (codeOf Try.f84)
noncomputable def c84_1 : Code := codeAt b84 [false]
theorem e84_1 : evK gS fi84 c84_1 fr st k = opsK gS fi84 [(some 2), (some 3), (some 4)] [mk (some 2) (.box 27 (.tmp 0)) 0 none,
  mk (some 3) (.box 27 (.tmp 1)) 0 none,
  mk (some 4) (.assign (.const (.bool false))) 4 none] fr.clear st fr k := evK_reg1 (i := 0) (by kernel_rfl) (by kernel_rfl)
noncomputable def c84_3 : Code := codeAt b84 [true, false]
theorem e84_3 : evK gS fi84 c84_3 fr st k = opsK gS fi84 [(some 5), (some 6), (some 7), none] [mk (some 5) (.fieldAddr 27 (.tmp 3) 0) 0 none,
  mk (some 6) (.load 9 (.tmp 5)) 9 none,
  mk (some 7) (.fieldAddr 27 (.tmp 2) 0) 0 none,
  mk none (.store 9 (.tmp 7) (.tmp 6)) 0 none] fr.clear st fr k := evK_reg1 (i := 1) (by kernel_rfl) (by kernel_rfl)
noncomputable def c84_5 : Code := codeAt b84 [true, true, false]
theorem e84_5 : evK gS fi84 c84_5 fr st k = opsK gS fi84 [(some 8), (some 9), (some 10), (some 4)] [mk (some 8) (.load 27 (.tmp 2)) 27 none,
  mk (some 9) (.load 27 (.tmp 3)) 27 none,
  mk (some 10) (.call { callee := (.value (.func 25)), args := #[(.tmp 8), (.tmp 9)], argTypes := #[27, 27] }) 4 none,
  mk (some 4) (.assign (.tmp 10)) 4 none] fr.clear st fr k := evK_reg1 (i := 2) (by kernel_rfl) (by kernel_rfl)
noncomputable def c84_6 : Code := .ret
theorem e84_6 : evK gS fi84 c84_6 fr st k = nextK gS fi84 k .ret fr st := rfl
noncomputable def c84_4 : Code := .seq c84_5 c84_6
theorem e84_4 : evK gS fi84 c84_4 fr st k = evK gS fi84 c84_5 fr st (.seq c84_6 k) := rfl
noncomputable def c84_2 : Code := .seq c84_3 c84_4
theorem e84_2 : evK gS fi84 c84_2 fr st k = evK gS fi84 c84_3 fr st (.seq c84_4 k) := rfl
noncomputable def c84_0 : Code := .seq c84_1 c84_2
theorem e84_0 : evK gS fi84 c84_0 fr st k = evK gS fi84 c84_1 fr st (.seq c84_2 k) := rfl
theorem m84 : mini fi84.body = c84_0 := by kernel_rfl
set_option maxHeartbeats 4000000 in
theorem c84 (q : Pred) (p : Pred)  (h_q : Pred.ok q) (h_p : Pred.ok p) (st : St) : EvF gS 84 [q.enc, p.enc] st = some (.ret (.bool (decide (q.test = p.test) && vsame q.v p.v && vsame q.w p.w && sames q.set p.set)) none, st) := by
  refine EvF_start fi84_eq (fun x h => by cases h) m84 ?_
  rw [st84]
  have hm : fi84.marks = [] := rfl
  have hl : fi84.locals = [2, 3] := rfl
  have hr : fi84.results = [.tmp 4] := rfl
  simp (config := { contextual := true, maxSteps := 10000000, maxDischargeDepth := 6 }) [-Int.not_le, -Int.not_lt, -Nat.not_le, -Nat.not_lt, ty4, ty9, ty27, hm, hl, hr, k25, e84_1, e84_3, e84_5, e84_6, e84_4, e84_2, e84_0, h_q.1, h_q.2, h_p.1, h_p.2]
  all_goals try simp (config := { contextual := true }) [-Int.not_le, -Int.not_lt, -Nat.not_le, -Nat.not_lt, psame]
  all_goals first | done | grind | omega | (trace_state; fail)
theorem k84 (q_name : List UInt8) (q_test : Int) (q_vk : Int) (q_vn : Int) (q_vx : Nat) (q_vs : List UInt8) (q_vb : Bool) (q_wk : Int) (q_wn : Int) (q_wx : Nat) (q_ws : List UInt8) (q_wb : Bool) (q_set : List Val) (p_name : List UInt8) (p_test : Int) (p_vk : Int) (p_vn : Int) (p_vx : Nat) (p_vs : List UInt8) (p_vb : Bool) (p_wk : Int) (p_wn : Int) (p_wx : Nat) (p_ws : List UInt8) (p_wb : Bool) (p_set : List Val)  (h_q : Pred.ok (⟨q_name, q_test, ⟨q_vk, q_vn, q_vx, q_vs, q_vb⟩, ⟨q_wk, q_wn, q_wx, q_ws, q_wb⟩, q_set⟩ : Pred)) (h_p : Pred.ok (⟨p_name, p_test, ⟨p_vk, p_vn, p_vx, p_vs, p_vb⟩, ⟨p_wk, p_wn, p_wx, p_ws, p_wb⟩, p_set⟩ : Pred)) (fr : Fr) (st : St) : callStep gS (EvF gS) 84 [.agg [.str q_name, .int .i64 q_test, .int .i64 q_vk, .int .i64 q_vn, .float .f64 q_vx, .str q_vs, .bool q_vb, .int .i64 q_wk, .int .i64 q_wn, .float .f64 q_wx, .str q_ws, .bool q_wb, .slice (encVals q_set)], .agg [.str p_name, .int .i64 p_test, .int .i64 p_vk, .int .i64 p_vn, .float .f64 p_vx, .str p_vs, .bool p_vb, .int .i64 p_wk, .int .i64 p_wn, .float .f64 p_wx, .str p_ws, .bool p_wb, .slice (encVals p_set)]] fr st = some (.ok (retE none (.bool (decide ((⟨q_name, q_test, ⟨q_vk, q_vn, q_vx, q_vs, q_vb⟩, ⟨q_wk, q_wn, q_wx, q_ws, q_wb⟩, q_set⟩ : Pred).test = (⟨p_name, p_test, ⟨p_vk, p_vn, p_vx, p_vs, p_vb⟩, ⟨p_wk, p_wn, p_wx, p_ws, p_wb⟩, p_set⟩ : Pred).test) && vsame (⟨q_name, q_test, ⟨q_vk, q_vn, q_vx, q_vs, q_vb⟩, ⟨q_wk, q_wn, q_wx, q_ws, q_wb⟩, q_set⟩ : Pred).v (⟨p_name, p_test, ⟨p_vk, p_vn, p_vx, p_vs, p_vb⟩, ⟨p_wk, p_wn, p_wx, p_ws, p_wb⟩, p_set⟩ : Pred).v && vsame (⟨q_name, q_test, ⟨q_vk, q_vn, q_vx, q_vs, q_vb⟩, ⟨q_wk, q_wn, q_wx, q_ws, q_wb⟩, q_set⟩ : Pred).w (⟨p_name, p_test, ⟨p_vk, p_vn, p_vx, p_vs, p_vb⟩, ⟨p_wk, p_wn, p_wx, p_ws, p_wb⟩, p_set⟩ : Pred).w && sames (⟨q_name, q_test, ⟨q_vk, q_vn, q_vx, q_vs, q_vb⟩, ⟨q_wk, q_wn, q_wx, q_ws, q_wb⟩, q_set⟩ : Pred).set (⟨p_name, p_test, ⟨p_vk, p_vn, p_vx, p_vs, p_vb⟩, ⟨p_wk, p_wn, p_wx, p_ws, p_wb⟩, p_set⟩ : Pred).set))) fr st) :=
  call_pure rfl fi84_eq rfl (fun st => c84 (⟨q_name, q_test, ⟨q_vk, q_vn, q_vx, q_vs, q_vb⟩, ⟨q_wk, q_wn, q_wx, q_ws, q_wb⟩, q_set⟩ : Pred) (⟨p_name, p_test, ⟨p_vk, p_vn, p_vx, p_vs, p_vb⟩, ⟨p_wk, p_wn, p_wx, p_ws, p_wb⟩, p_set⟩ : Pred) h_q h_p st) (by simp)
noncomputable def fi21 : FI := { body := codeOf Try.f21, ntmps := 113, results := [.tmp 4], pers := [0, 1, 2, 3, 4, 5, 6, 7, 8, 10, 22, 103, 104, 105], locals := [2, 3, 10], pure := true, marks := [] }
theorem fi21_eq : gS.fn 21 = some fi21 := by kernel_rfl
theorem st21 (a0 a1 : V) : startFr fi21 [a0, a1] = { ps := [(0, .val a0), (1, .val a1), (2, .any), (3, .any), (4, .any), (5, .any), (6, .any), (7, .any), (8, .any), (10, .any), (22, .any), (103, .any), (104, .any), (105, .any)], ts := [], lc := [] } := rfl
noncomputable def b21 : Code := mini (codeOf Try.f21)
noncomputable def c21_1 : Code := codeAt b21 [false]
theorem e21_1 : evK gS fi21 c21_1 fr st k = opsK gS fi21 [(some 2), (some 3), (some 4)] [mk (some 2) (.box 27 (.tmp 0)) 0 none,
  mk (some 3) (.box 24 (.tmp 1)) 0 none,
  mk (some 4) (.assign (.const (.bool false))) 4 none] fr.clear st fr k := evK_reg1 (i := 0) (by kernel_rfl) (by kernel_rfl)
noncomputable def c21_4 : Code := codeAt b21 [true, false, false]
theorem e21_4 : evK gS fi21 c21_4 fr st k = opsK gS fi21 [(some 11), (some 12), (some 13)] [mk (some 11) (.load 27 (.tmp 2)) 27 none,
  mk (some 12) (.call { callee := (.value (.func 19)), args := #[(.tmp 11)], argTypes := #[27] }) 4 none,
  mk (some 13) (.unOp .not 4 (.tmp 12)) 4 none] fr.clear st fr k := evK_reg1 (i := 1) (by kernel_rfl) (by kernel_rfl)
noncomputable def c21_7 : Code := codeAt b21 [true, false, true, false, false]
theorem e21_7 : evK gS fi21 c21_7 fr st k = opsK gS fi21 [(some 4)] [mk (some 4) (.assign (.const (.bool false))) 4 none] fr.clear st fr k := evK_reg1 (i := 2) (by kernel_rfl) (by kernel_rfl)
noncomputable def c21_8 : Code := .ret
theorem e21_8 : evK gS fi21 c21_8 fr st k = nextK gS fi21 k .ret fr st := rfl
noncomputable def c21_6 : Code := .seq c21_7 c21_8
theorem e21_6 : evK gS fi21 c21_6 fr st k = evK gS fi21 c21_7 fr st (.seq c21_8 k) := rfl
noncomputable def c21_9 : Code := .skip
theorem e21_9 : evK gS fi21 c21_9 fr st k = nextK gS fi21 k .normal fr st := rfl
noncomputable def c21_5 : Code := .cond (.tmp 13) c21_6 c21_9
theorem e21_5 : evK gS fi21 c21_5 fr st k = condK gS fi21 (fr.op (.tmp 13)).bool? c21_6 c21_9 fr st k := rfl
noncomputable def c21_3 : Code := .seq c21_4 c21_5
theorem e21_3 : evK gS fi21 c21_3 fr st k = evK gS fi21 c21_4 fr st (.seq c21_5 k) := rfl
noncomputable def c21_11 : Code := codeAt b21 [true, true, false]
theorem e21_11 : evK gS fi21 c21_11 fr st k = opsK gS fi21 [(some 15), (some 16), (some 17), (some 18), (some 14), (some 19), (some 20), (some 5), (some 6)] [mk (some 15) (.load 24 (.tmp 3)) 24 none,
  mk (some 16) (.fieldAddr 27 (.tmp 2) 2) 0 none,
  mk (some 17) (.load 24 (.tmp 16)) 24 none,
  mk (some 18) (.call { callee := (.value (.func 75)), args := #[(.tmp 15), (.tmp 17)], argTypes := #[24, 24] }) 94 none,
  mk (some 14) (.move (.tmp 18)) 94 none,
  mk (some 19) (.extract (.tmp 14) 0) 3 none,
  mk (some 20) (.extract (.tmp 14) 1) 4 none,
  mk (some 5) (.assign (.tmp 19)) 3 none,
  mk (some 6) (.assign (.tmp 20)) 4 none] fr.clear st fr k := evK_reg1 (i := 3) (by kernel_rfl) (by kernel_rfl)
noncomputable def c21_14 : Code := codeAt b21 [true, true, true, false, false]
theorem e21_14 : evK gS fi21 c21_14 fr st k = opsK gS fi21 [(some 21), (some 22)] [mk (some 21) (.fieldAddr 27 (.tmp 2) 1) 0 none,
  mk (some 22) (.load 3 (.tmp 21)) 3 none] fr.clear st fr k := evK_reg1 (i := 4) (by kernel_rfl) (by kernel_rfl)
noncomputable def c21_17 : Code := codeAt b21 [true, true, true, false, true, false, false]
theorem e21_17 : evK gS fi21 c21_17 fr st k = opsK gS fi21 [(some 24), (some 23)] [mk (some 24) (.binOp .eql 3 (.tmp 22) (.const (.int .i64 1)) 3) 4 none,
  mk (some 23) (.assign (.tmp 24)) 4 none] fr.clear st fr k := evK_reg1 (i := 5) (by kernel_rfl) (by kernel_rfl)
noncomputable def c21_20 : Code := codeAt b21 [true, true, true, false, true, false, true, false, false]
theorem e21_20 : evK gS fi21 c21_20 fr st k = opsK gS fi21 [(some 4)] [mk (some 4) (.assign (.const (.bool true))) 4 none] fr.clear st fr k := evK_reg1 (i := 6) (by kernel_rfl) (by kernel_rfl)
noncomputable def c21_21 : Code := .ret
theorem e21_21 : evK gS fi21 c21_21 fr st k = nextK gS fi21 k .ret fr st := rfl
noncomputable def c21_19 : Code := .seq c21_20 c21_21
theorem e21_19 : evK gS fi21 c21_19 fr st k = evK gS fi21 c21_20 fr st (.seq c21_21 k) := rfl
noncomputable def c21_23 : Code := codeAt b21 [true, true, true, false, true, false, true, true, false]
theorem e21_23 : evK gS fi21 c21_23 fr st k = opsK gS fi21 [(some 26), (some 25)] [mk (some 26) (.binOp .eql 3 (.tmp 22) (.const (.int .i64 2)) 3) 4 none,
  mk (some 25) (.assign (.tmp 26)) 4 none] fr.clear st fr k := evK_reg1 (i := 7) (by kernel_rfl) (by kernel_rfl)
noncomputable def c21_26 : Code := codeAt b21 [true, true, true, false, true, false, true, true, true, false, false]
theorem e21_26 : evK gS fi21 c21_26 fr st k = opsK gS fi21 [(some 27), (some 28), (some 29), (some 30), (some 31), (some 4)] [mk (some 27) (.move (.tmp 6)) 4 none,
  mk (some 28) (.move (.tmp 27)) 4 none,
  mk (some 29) (.move (.tmp 5)) 3 (some (1, true)),
  mk (some 30) (.binOp .eql 3 (.tmp 29) (.const (.int .i64 0)) 3) 4 (some (1, true)),
  mk (some 31) (.pick (.tmp 28) (.tmp 30) (.const (.bool false))) 4 none,
  mk (some 4) (.assign (.tmp 31)) 4 none] fr.clear st fr k := evK_reg1 (i := 8) (by kernel_rfl) (by kernel_rfl)
noncomputable def c21_27 : Code := .ret
theorem e21_27 : evK gS fi21 c21_27 fr st k = nextK gS fi21 k .ret fr st := rfl
noncomputable def c21_25 : Code := .seq c21_26 c21_27
theorem e21_25 : evK gS fi21 c21_25 fr st k = evK gS fi21 c21_26 fr st (.seq c21_27 k) := rfl
noncomputable def c21_29 : Code := codeAt b21 [true, true, true, false, true, false, true, true, true, true, false]
theorem e21_29 : evK gS fi21 c21_29 fr st k = opsK gS fi21 [(some 33), (some 32)] [mk (some 33) (.binOp .eql 3 (.tmp 22) (.const (.int .i64 3)) 3) 4 none,
  mk (some 32) (.assign (.tmp 33)) 4 none] fr.clear st fr k := evK_reg1 (i := 9) (by kernel_rfl) (by kernel_rfl)
noncomputable def c21_32 : Code := codeAt b21 [true, true, true, false, true, false, true, true, true, true, true, false, false]
theorem e21_32 : evK gS fi21 c21_32 fr st k = opsK gS fi21 [(some 34), (some 35), (some 36), (some 37), (some 38), (some 39), (some 4)] [mk (some 34) (.move (.tmp 6)) 4 none,
  mk (some 35) (.move (.tmp 34)) 4 none,
  mk (some 36) (.move (.tmp 5)) 3 (some (1, true)),
  mk (some 37) (.binOp .eql 3 (.tmp 36) (.const (.int .i64 0)) 3) 4 (some (1, true)),
  mk (some 38) (.pick (.tmp 35) (.tmp 37) (.const (.bool false))) 4 none,
  mk (some 39) (.unOp .not 4 (.tmp 38)) 4 none,
  mk (some 4) (.assign (.tmp 39)) 4 none] fr.clear st fr k := evK_reg1 (i := 10) (by kernel_rfl) (by kernel_rfl)
noncomputable def c21_33 : Code := .ret
theorem e21_33 : evK gS fi21 c21_33 fr st k = nextK gS fi21 k .ret fr st := rfl
noncomputable def c21_31 : Code := .seq c21_32 c21_33
theorem e21_31 : evK gS fi21 c21_31 fr st k = evK gS fi21 c21_32 fr st (.seq c21_33 k) := rfl
noncomputable def c21_35 : Code := codeAt b21 [true, true, true, false, true, false, true, true, true, true, true, true, false]
theorem e21_35 : evK gS fi21 c21_35 fr st k = opsK gS fi21 [(some 41), (some 40)] [mk (some 41) (.binOp .eql 3 (.tmp 22) (.const (.int .i64 4)) 3) 4 none,
  mk (some 40) (.assign (.tmp 41)) 4 none] fr.clear st fr k := evK_reg1 (i := 11) (by kernel_rfl) (by kernel_rfl)
noncomputable def c21_38 : Code := codeAt b21 [true, true, true, false, true, false, true, true, true, true, true, true, true, false, false]
theorem e21_38 : evK gS fi21 c21_38 fr st k = opsK gS fi21 [(some 42), (some 43), (some 44), (some 45), (some 46), (some 4)] [mk (some 42) (.move (.tmp 6)) 4 none,
  mk (some 43) (.move (.tmp 42)) 4 none,
  mk (some 44) (.move (.tmp 5)) 3 (some (1, true)),
  mk (some 45) (.binOp .lss 3 (.tmp 44) (.const (.int .i64 0)) 3) 4 (some (1, true)),
  mk (some 46) (.pick (.tmp 43) (.tmp 45) (.const (.bool false))) 4 none,
  mk (some 4) (.assign (.tmp 46)) 4 none] fr.clear st fr k := evK_reg1 (i := 12) (by kernel_rfl) (by kernel_rfl)
noncomputable def c21_39 : Code := .ret
theorem e21_39 : evK gS fi21 c21_39 fr st k = nextK gS fi21 k .ret fr st := rfl
noncomputable def c21_37 : Code := .seq c21_38 c21_39
theorem e21_37 : evK gS fi21 c21_37 fr st k = evK gS fi21 c21_38 fr st (.seq c21_39 k) := rfl
noncomputable def c21_41 : Code := codeAt b21 [true, true, true, false, true, false, true, true, true, true, true, true, true, true, false]
theorem e21_41 : evK gS fi21 c21_41 fr st k = opsK gS fi21 [(some 48), (some 47)] [mk (some 48) (.binOp .eql 3 (.tmp 22) (.const (.int .i64 5)) 3) 4 none,
  mk (some 47) (.assign (.tmp 48)) 4 none] fr.clear st fr k := evK_reg1 (i := 13) (by kernel_rfl) (by kernel_rfl)
noncomputable def c21_44 : Code := codeAt b21 [true, true, true, false, true, false, true, true, true, true, true, true, true, true, true, false, false]
theorem e21_44 : evK gS fi21 c21_44 fr st k = opsK gS fi21 [(some 49), (some 50), (some 51), (some 52), (some 53), (some 4)] [mk (some 49) (.move (.tmp 6)) 4 none,
  mk (some 50) (.move (.tmp 49)) 4 none,
  mk (some 51) (.move (.tmp 5)) 3 (some (1, true)),
  mk (some 52) (.binOp .leq 3 (.tmp 51) (.const (.int .i64 0)) 3) 4 (some (1, true)),
  mk (some 53) (.pick (.tmp 50) (.tmp 52) (.const (.bool false))) 4 none,
  mk (some 4) (.assign (.tmp 53)) 4 none] fr.clear st fr k := evK_reg1 (i := 14) (by kernel_rfl) (by kernel_rfl)
noncomputable def c21_45 : Code := .ret
theorem e21_45 : evK gS fi21 c21_45 fr st k = nextK gS fi21 k .ret fr st := rfl
noncomputable def c21_43 : Code := .seq c21_44 c21_45
theorem e21_43 : evK gS fi21 c21_43 fr st k = evK gS fi21 c21_44 fr st (.seq c21_45 k) := rfl
noncomputable def c21_47 : Code := codeAt b21 [true, true, true, false, true, false, true, true, true, true, true, true, true, true, true, true, false]
theorem e21_47 : evK gS fi21 c21_47 fr st k = opsK gS fi21 [(some 55), (some 54)] [mk (some 55) (.binOp .eql 3 (.tmp 22) (.const (.int .i64 6)) 3) 4 none,
  mk (some 54) (.assign (.tmp 55)) 4 none] fr.clear st fr k := evK_reg1 (i := 15) (by kernel_rfl) (by kernel_rfl)
noncomputable def c21_50 : Code := codeAt b21 [true, true, true, false, true, false, true, true, true, true, true, true, true, true, true, true, true, false, false]
theorem e21_50 : evK gS fi21 c21_50 fr st k = opsK gS fi21 [(some 56), (some 57), (some 58), (some 59), (some 60), (some 4)] [mk (some 56) (.move (.tmp 6)) 4 none,
  mk (some 57) (.move (.tmp 56)) 4 none,
  mk (some 58) (.move (.tmp 5)) 3 (some (1, true)),
  mk (some 59) (.binOp .gtr 3 (.tmp 58) (.const (.int .i64 0)) 3) 4 (some (1, true)),
  mk (some 60) (.pick (.tmp 57) (.tmp 59) (.const (.bool false))) 4 none,
  mk (some 4) (.assign (.tmp 60)) 4 none] fr.clear st fr k := evK_reg1 (i := 16) (by kernel_rfl) (by kernel_rfl)
noncomputable def c21_51 : Code := .ret
theorem e21_51 : evK gS fi21 c21_51 fr st k = nextK gS fi21 k .ret fr st := rfl
noncomputable def c21_49 : Code := .seq c21_50 c21_51
theorem e21_49 : evK gS fi21 c21_49 fr st k = evK gS fi21 c21_50 fr st (.seq c21_51 k) := rfl
noncomputable def c21_53 : Code := codeAt b21 [true, true, true, false, true, false, true, true, true, true, true, true, true, true, true, true, true, true, false]
theorem e21_53 : evK gS fi21 c21_53 fr st k = opsK gS fi21 [(some 62), (some 61)] [mk (some 62) (.binOp .eql 3 (.tmp 22) (.const (.int .i64 7)) 3) 4 none,
  mk (some 61) (.assign (.tmp 62)) 4 none] fr.clear st fr k := evK_reg1 (i := 17) (by kernel_rfl) (by kernel_rfl)
noncomputable def c21_56 : Code := codeAt b21 [true, true, true, false, true, false, true, true, true, true, true, true, true, true, true, true, true, true, true, false, false]
theorem e21_56 : evK gS fi21 c21_56 fr st k = opsK gS fi21 [(some 63), (some 64), (some 65), (some 66), (some 67), (some 4)] [mk (some 63) (.move (.tmp 6)) 4 none,
  mk (some 64) (.move (.tmp 63)) 4 none,
  mk (some 65) (.move (.tmp 5)) 3 (some (1, true)),
  mk (some 66) (.binOp .geq 3 (.tmp 65) (.const (.int .i64 0)) 3) 4 (some (1, true)),
  mk (some 67) (.pick (.tmp 64) (.tmp 66) (.const (.bool false))) 4 none,
  mk (some 4) (.assign (.tmp 67)) 4 none] fr.clear st fr k := evK_reg1 (i := 18) (by kernel_rfl) (by kernel_rfl)
noncomputable def c21_57 : Code := .ret
theorem e21_57 : evK gS fi21 c21_57 fr st k = nextK gS fi21 k .ret fr st := rfl
noncomputable def c21_55 : Code := .seq c21_56 c21_57
theorem e21_55 : evK gS fi21 c21_55 fr st k = evK gS fi21 c21_56 fr st (.seq c21_57 k) := rfl
noncomputable def c21_59 : Code := codeAt b21 [true, true, true, false, true, false, true, true, true, true, true, true, true, true, true, true, true, true, true, true, false]
theorem e21_59 : evK gS fi21 c21_59 fr st k = opsK gS fi21 [(some 69), (some 68)] [mk (some 69) (.binOp .eql 3 (.tmp 22) (.const (.int .i64 8)) 3) 4 none,
  mk (some 68) (.assign (.tmp 69)) 4 none] fr.clear st fr k := evK_reg1 (i := 19) (by kernel_rfl) (by kernel_rfl)
noncomputable def c21_62 : Code := codeAt b21 [true, true, true, false, true, false, true, true, true, true, true, true, true, true, true, true, true, true, true, true, true, false, false]
theorem e21_62 : evK gS fi21 c21_62 fr st k = opsK gS fi21 [(some 71), (some 72), (some 73), (some 74), (some 70), (some 75), (some 76), (some 7), (some 8)] [mk (some 71) (.load 24 (.tmp 3)) 24 none,
  mk (some 72) (.fieldAddr 27 (.tmp 2) 3) 0 none,
  mk (some 73) (.load 24 (.tmp 72)) 24 none,
  mk (some 74) (.call { callee := (.value (.func 75)), args := #[(.tmp 71), (.tmp 73)], argTypes := #[24, 24] }) 94 none,
  mk (some 70) (.move (.tmp 74)) 94 none,
  mk (some 75) (.extract (.tmp 70) 0) 3 none,
  mk (some 76) (.extract (.tmp 70) 1) 4 none,
  mk (some 7) (.assign (.tmp 75)) 3 none,
  mk (some 8) (.assign (.tmp 76)) 4 none] fr.clear st fr k := evK_reg1 (i := 20) (by kernel_rfl) (by kernel_rfl)
noncomputable def c21_64 : Code := codeAt b21 [true, true, true, false, true, false, true, true, true, true, true, true, true, true, true, true, true, true, true, true, true, false, true, false]
theorem e21_64 : evK gS fi21 c21_64 fr st k = opsK gS fi21 [(some 77), (some 78), (some 79), (some 80), (some 81), (some 82), (some 83), (some 84), (some 85), (some 86), (some 87), (some 88), (some 4)] [mk (some 77) (.move (.tmp 6)) 4 none,
  mk (some 78) (.move (.tmp 77)) 4 none,
  mk (some 79) (.move (.tmp 5)) 3 (some (1, true)),
  mk (some 80) (.binOp .geq 3 (.tmp 79) (.const (.int .i64 0)) 3) 4 (some (1, true)),
  mk (some 81) (.pick (.tmp 78) (.tmp 80) (.const (.bool false))) 4 none,
  mk (some 82) (.move (.tmp 81)) 4 none,
  mk (some 83) (.move (.tmp 8)) 4 (some (5, true)),
  mk (some 84) (.pick (.tmp 82) (.tmp 83) (.const (.bool false))) 4 none,
  mk (some 85) (.move (.tmp 84)) 4 none,
  mk (some 86) (.move (.tmp 7)) 3 (some (8, true)),
  mk (some 87) (.binOp .leq 3 (.tmp 86) (.const (.int .i64 0)) 3) 4 (some (8, true)),
  mk (some 88) (.pick (.tmp 85) (.tmp 87) (.const (.bool false))) 4 none,
  mk (some 4) (.assign (.tmp 88)) 4 none] fr.clear st fr k := evK_reg1 (i := 21) (by kernel_rfl) (by kernel_rfl)
noncomputable def c21_65 : Code := .ret
theorem e21_65 : evK gS fi21 c21_65 fr st k = nextK gS fi21 k .ret fr st := rfl
noncomputable def c21_63 : Code := .seq c21_64 c21_65
theorem e21_63 : evK gS fi21 c21_63 fr st k = evK gS fi21 c21_64 fr st (.seq c21_65 k) := rfl
noncomputable def c21_61 : Code := .seq c21_62 c21_63
theorem e21_61 : evK gS fi21 c21_61 fr st k = evK gS fi21 c21_62 fr st (.seq c21_63 k) := rfl
noncomputable def c21_67 : Code := codeAt b21 [true, true, true, false, true, false, true, true, true, true, true, true, true, true, true, true, true, true, true, true, true, true, false]
theorem e21_67 : evK gS fi21 c21_67 fr st k = opsK gS fi21 [(some 90), (some 89)] [mk (some 90) (.binOp .eql 3 (.tmp 22) (.const (.int .i64 9)) 3) 4 none,
  mk (some 89) (.assign (.tmp 90)) 4 none] fr.clear st fr k := evK_reg1 (i := 22) (by kernel_rfl) (by kernel_rfl)
noncomputable def c21_70 : Code := codeAt b21 [true, true, true, false, true, false, true, true, true, true, true, true, true, true, true, true, true, true, true, true, true, true, true, false, false]
theorem e21_70 : evK gS fi21 c21_70 fr st k = opsK gS fi21 [(some 91), (some 92), (some 93), (some 94), (some 95), (some 96), (some 97), (some 98), (some 99), (some 100), (some 101), (some 4)] [mk (some 91) (.fieldAddr 24 (.tmp 3) 0) 0 none,
  mk (some 92) (.load 3 (.tmp 91)) 3 none,
  mk (some 93) (.binOp .eql 3 (.tmp 92) (.const (.int .i64 3)) 3) 4 none,
  mk (some 94) (.move (.tmp 93)) 4 none,
  mk (some 95) (.fieldAddr 24 (.tmp 3) 3) 0 (some (3, true)),
  mk (some 96) (.load 9 (.tmp 95)) 9 (some (3, true)),
  mk (some 97) (.fieldAddr 27 (.tmp 2) 2) 0 (some (3, true)),
  mk (some 98) (.fieldAddr 24 (.tmp 97) 3) 0 (some (3, true)),
  mk (some 99) (.load 9 (.tmp 98)) 9 (some (3, true)),
  mk (some 100) (.call { callee := (.value (.func 76)), args := #[(.tmp 96), (.tmp 99)], argTypes := #[9, 9] }) 4 (some (3, true)),
  mk (some 101) (.pick (.tmp 94) (.tmp 100) (.const (.bool false))) 4 none,
  mk (some 4) (.assign (.tmp 101)) 4 none] fr.clear st fr k := evK_reg1 (i := 23) (by kernel_rfl) (by kernel_rfl)
noncomputable def c21_71 : Code := .ret
theorem e21_71 : evK gS fi21 c21_71 fr st k = nextK gS fi21 k .ret fr st := rfl
noncomputable def c21_69 : Code := .seq c21_70 c21_71
theorem e21_69 : evK gS fi21 c21_69 fr st k = evK gS fi21 c21_70 fr st (.seq c21_71 k) := rfl
noncomputable def c21_72 : Code := .skip
theorem e21_72 : evK gS fi21 c21_72 fr st k = nextK gS fi21 k .normal fr st := rfl
noncomputable def c21_68 : Code := .cond (.tmp 89) c21_69 c21_72
theorem e21_68 : evK gS fi21 c21_68 fr st k = condK gS fi21 (fr.op (.tmp 89)).bool? c21_69 c21_72 fr st k := rfl
noncomputable def c21_66 : Code := .seq c21_67 c21_68
theorem e21_66 : evK gS fi21 c21_66 fr st k = evK gS fi21 c21_67 fr st (.seq c21_68 k) := rfl
noncomputable def c21_60 : Code := .cond (.tmp 68) c21_61 c21_66
theorem e21_60 : evK gS fi21 c21_60 fr st k = condK gS fi21 (fr.op (.tmp 68)).bool? c21_61 c21_66 fr st k := rfl
noncomputable def c21_58 : Code := .seq c21_59 c21_60
theorem e21_58 : evK gS fi21 c21_58 fr st k = evK gS fi21 c21_59 fr st (.seq c21_60 k) := rfl
noncomputable def c21_54 : Code := .cond (.tmp 61) c21_55 c21_58
theorem e21_54 : evK gS fi21 c21_54 fr st k = condK gS fi21 (fr.op (.tmp 61)).bool? c21_55 c21_58 fr st k := rfl
noncomputable def c21_52 : Code := .seq c21_53 c21_54
theorem e21_52 : evK gS fi21 c21_52 fr st k = evK gS fi21 c21_53 fr st (.seq c21_54 k) := rfl
noncomputable def c21_48 : Code := .cond (.tmp 54) c21_49 c21_52
theorem e21_48 : evK gS fi21 c21_48 fr st k = condK gS fi21 (fr.op (.tmp 54)).bool? c21_49 c21_52 fr st k := rfl
noncomputable def c21_46 : Code := .seq c21_47 c21_48
theorem e21_46 : evK gS fi21 c21_46 fr st k = evK gS fi21 c21_47 fr st (.seq c21_48 k) := rfl
noncomputable def c21_42 : Code := .cond (.tmp 47) c21_43 c21_46
theorem e21_42 : evK gS fi21 c21_42 fr st k = condK gS fi21 (fr.op (.tmp 47)).bool? c21_43 c21_46 fr st k := rfl
noncomputable def c21_40 : Code := .seq c21_41 c21_42
theorem e21_40 : evK gS fi21 c21_40 fr st k = evK gS fi21 c21_41 fr st (.seq c21_42 k) := rfl
noncomputable def c21_36 : Code := .cond (.tmp 40) c21_37 c21_40
theorem e21_36 : evK gS fi21 c21_36 fr st k = condK gS fi21 (fr.op (.tmp 40)).bool? c21_37 c21_40 fr st k := rfl
noncomputable def c21_34 : Code := .seq c21_35 c21_36
theorem e21_34 : evK gS fi21 c21_34 fr st k = evK gS fi21 c21_35 fr st (.seq c21_36 k) := rfl
noncomputable def c21_30 : Code := .cond (.tmp 32) c21_31 c21_34
theorem e21_30 : evK gS fi21 c21_30 fr st k = condK gS fi21 (fr.op (.tmp 32)).bool? c21_31 c21_34 fr st k := rfl
noncomputable def c21_28 : Code := .seq c21_29 c21_30
theorem e21_28 : evK gS fi21 c21_28 fr st k = evK gS fi21 c21_29 fr st (.seq c21_30 k) := rfl
noncomputable def c21_24 : Code := .cond (.tmp 25) c21_25 c21_28
theorem e21_24 : evK gS fi21 c21_24 fr st k = condK gS fi21 (fr.op (.tmp 25)).bool? c21_25 c21_28 fr st k := rfl
noncomputable def c21_22 : Code := .seq c21_23 c21_24
theorem e21_22 : evK gS fi21 c21_22 fr st k = evK gS fi21 c21_23 fr st (.seq c21_24 k) := rfl
noncomputable def c21_18 : Code := .cond (.tmp 23) c21_19 c21_22
theorem e21_18 : evK gS fi21 c21_18 fr st k = condK gS fi21 (fr.op (.tmp 23)).bool? c21_19 c21_22 fr st k := rfl
noncomputable def c21_16 : Code := .seq c21_17 c21_18
theorem e21_16 : evK gS fi21 c21_16 fr st k = evK gS fi21 c21_17 fr st (.seq c21_18 k) := rfl
noncomputable def c21_15 : Code := .block 0 c21_16
theorem e21_15 : evK gS fi21 c21_15 fr st k = evK gS fi21 c21_16 fr st (.blk 0 k) := rfl
noncomputable def c21_13 : Code := .seq c21_14 c21_15
theorem e21_13 : evK gS fi21 c21_13 fr st k = evK gS fi21 c21_14 fr st (.seq c21_15 k) := rfl
noncomputable def c21_75 : Code := codeAt b21 [true, true, true, true, false, false]
theorem e21_75 : evK gS fi21 c21_75 fr st k = opsK gS fi21 [(some 102), (some 103), (some 104), (some 105)] [mk (some 102) (.fieldAddr 27 (.tmp 2) 4) 0 none,
  mk (some 103) (.load 25 (.tmp 102)) 25 none,
  mk (some 104) (.call { callee := (.builtin .len), args := #[(.tmp 103)], argTypes := #[25] }) 3 none,
  mk (some 105) (.move (.const (.int .i64 0))) 3 none] fr.clear st fr k := evK_reg1 (i := 24) (by kernel_rfl) (by kernel_rfl)
noncomputable def c21_79 : Code := codeAt b21 [true, true, true, true, false, true, false, false, false]
theorem e21_79 : evK gS fi21 c21_79 fr st k = opsK gS fi21 [(some 106)] [mk (some 106) (.binOp .lss 3 (.tmp 105) (.tmp 104) 3) 0 none] fr.clear st fr k := evK_reg1 (i := 25) (by kernel_rfl) (by kernel_rfl)
noncomputable def c21_82 : Code := .skip
theorem e21_82 : evK gS fi21 c21_82 fr st k = nextK gS fi21 k .normal fr st := rfl
noncomputable def c21_83 : Code := .exit 1
theorem e21_83 : evK gS fi21 c21_83 fr st k = nextK gS fi21 k (.exit 1) fr st := rfl
noncomputable def c21_81 : Code := .cond (.tmp 106) c21_82 c21_83
theorem e21_81 : evK gS fi21 c21_81 fr st k = condK gS fi21 (fr.op (.tmp 106)).bool? c21_82 c21_83 fr st k := rfl
noncomputable def c21_87 : Code := codeAt b21 [true, true, true, true, false, true, false, false, true, true, false, false, false]
theorem e21_87 : evK gS fi21 c21_87 fr st k = opsK gS fi21 [(some 107), (some 108), (some 10), none] [mk (some 107) (.indexAddr 25 (.tmp 103) (.tmp 105)) 0 none,
  mk (some 108) (.load 24 (.tmp 107)) 24 none,
  mk (some 10) (.alloc 24) 0 none,
  mk none (.store 24 (.tmp 10) (.tmp 108)) 0 none] fr.clear st fr k := evK_reg1 (i := 26) (by kernel_rfl) (by kernel_rfl)
noncomputable def c21_89 : Code := codeAt b21 [true, true, true, true, false, true, false, false, true, true, false, false, true, false]
theorem e21_89 : evK gS fi21 c21_89 fr st k = opsK gS fi21 [(some 109), (some 110), (some 111)] [mk (some 109) (.load 24 (.tmp 3)) 24 none,
  mk (some 110) (.load 24 (.tmp 10)) 24 none,
  mk (some 111) (.call { callee := (.value (.func 32)), args := #[(.tmp 109), (.tmp 110)], argTypes := #[24, 24] }) 4 none] fr.clear st fr k := evK_reg1 (i := 27) (by kernel_rfl) (by kernel_rfl)
noncomputable def c21_92 : Code := codeAt b21 [true, true, true, true, false, true, false, false, true, true, false, false, true, true, false, false]
theorem e21_92 : evK gS fi21 c21_92 fr st k = opsK gS fi21 [(some 4)] [mk (some 4) (.assign (.const (.bool true))) 4 none] fr.clear st fr k := evK_reg1 (i := 28) (by kernel_rfl) (by kernel_rfl)
noncomputable def c21_93 : Code := .ret
theorem e21_93 : evK gS fi21 c21_93 fr st k = nextK gS fi21 k .ret fr st := rfl
noncomputable def c21_91 : Code := .seq c21_92 c21_93
theorem e21_91 : evK gS fi21 c21_91 fr st k = evK gS fi21 c21_92 fr st (.seq c21_93 k) := rfl
noncomputable def c21_94 : Code := .skip
theorem e21_94 : evK gS fi21 c21_94 fr st k = nextK gS fi21 k .normal fr st := rfl
noncomputable def c21_90 : Code := .cond (.tmp 111) c21_91 c21_94
theorem e21_90 : evK gS fi21 c21_90 fr st k = condK gS fi21 (fr.op (.tmp 111)).bool? c21_91 c21_94 fr st k := rfl
noncomputable def c21_88 : Code := .seq c21_89 c21_90
theorem e21_88 : evK gS fi21 c21_88 fr st k = evK gS fi21 c21_89 fr st (.seq c21_90 k) := rfl
noncomputable def c21_86 : Code := .seq c21_87 c21_88
theorem e21_86 : evK gS fi21 c21_86 fr st k = evK gS fi21 c21_87 fr st (.seq c21_88 k) := rfl
noncomputable def c21_85 : Code := .block 2 c21_86
theorem e21_85 : evK gS fi21 c21_85 fr st k = evK gS fi21 c21_86 fr st (.blk 2 k) := rfl
noncomputable def c21_95 : Code := codeAt b21 [true, true, true, true, false, true, false, false, true, true, true]
theorem e21_95 : evK gS fi21 c21_95 fr st k = opsK gS fi21 [(some 112), (some 105)] [mk (some 112) (.binOp .add 3 (.tmp 105) (.const (.int .i64 1)) 3) 3 none,
  mk (some 105) (.move (.tmp 112)) 3 none] fr.clear st fr k := evK_reg1 (i := 29) (by kernel_rfl) (by kernel_rfl)
noncomputable def c21_84 : Code := .seq c21_85 c21_95
theorem e21_84 : evK gS fi21 c21_84 fr st k = evK gS fi21 c21_85 fr st (.seq c21_95 k) := rfl
noncomputable def c21_80 : Code := .seq c21_81 c21_84
theorem e21_80 : evK gS fi21 c21_80 fr st k = evK gS fi21 c21_81 fr st (.seq c21_84 k) := rfl
noncomputable def c21_78 : Code := .seq c21_79 c21_80
theorem e21_78 : evK gS fi21 c21_78 fr st k = evK gS fi21 c21_79 fr st (.seq c21_80 k) := rfl
noncomputable def c21_77 : Code := .loop c21_78
noncomputable def c21_76 : Code := .block 1 c21_77
theorem e21_76 : evK gS fi21 c21_76 fr st k = evK gS fi21 c21_77 fr st (.blk 1 k) := rfl
noncomputable def c21_74 : Code := .seq c21_75 c21_76
theorem e21_74 : evK gS fi21 c21_74 fr st k = evK gS fi21 c21_75 fr st (.seq c21_76 k) := rfl
noncomputable def c21_97 : Code := codeAt b21 [true, true, true, true, true, false]
theorem e21_97 : evK gS fi21 c21_97 fr st k = opsK gS fi21 [(some 4)] [mk (some 4) (.assign (.const (.bool false))) 4 none] fr.clear st fr k := evK_reg1 (i := 30) (by kernel_rfl) (by kernel_rfl)
noncomputable def c21_98 : Code := .ret
theorem e21_98 : evK gS fi21 c21_98 fr st k = nextK gS fi21 k .ret fr st := rfl
noncomputable def c21_96 : Code := .seq c21_97 c21_98
theorem e21_96 : evK gS fi21 c21_96 fr st k = evK gS fi21 c21_97 fr st (.seq c21_98 k) := rfl
noncomputable def c21_73 : Code := .seq c21_74 c21_96
theorem e21_73 : evK gS fi21 c21_73 fr st k = evK gS fi21 c21_74 fr st (.seq c21_96 k) := rfl
noncomputable def c21_12 : Code := .seq c21_13 c21_73
theorem e21_12 : evK gS fi21 c21_12 fr st k = evK gS fi21 c21_13 fr st (.seq c21_73 k) := rfl
noncomputable def c21_10 : Code := .seq c21_11 c21_12
theorem e21_10 : evK gS fi21 c21_10 fr st k = evK gS fi21 c21_11 fr st (.seq c21_12 k) := rfl
noncomputable def c21_2 : Code := .seq c21_3 c21_10
theorem e21_2 : evK gS fi21 c21_2 fr st k = evK gS fi21 c21_3 fr st (.seq c21_10 k) := rfl
noncomputable def c21_0 : Code := .seq c21_1 c21_2
theorem e21_0 : evK gS fi21 c21_0 fr st k = evK gS fi21 c21_1 fr st (.seq c21_2 k) := rfl
theorem m21 : mini fi21.body = c21_0 := by kernel_rfl
theorem n21_77 (fr : Fr) (st : St) (k : Kt) : nextK gS fi21 (.loop c21_78 k) .normal fr st = evK gS fi21 c21_77 fr st k := rfl
set_option maxHeartbeats 4000000 in
theorem L21_77 (p : Pred) (v : Val) (h_p : p.ok) (st : St) : ∀ (n i : Nat) (j : Int)  (e0 e1 e2 e4 e5 e6 e7 e8 e10 e22 : E) (T : List (Nat × E)) (X : List (Nat × List V)) (ht0 : e0.Tame) (ht1 : e1.Tame) (ht2 : e2.Tame) (ht4 : e4.Tame) (ht5 : e5.Tame) (ht6 : e6.Tame) (ht7 : e7.Tame) (ht8 : e8.Tame) (ht10 : e10.Tame) (ht22 : e22.Tame) (hx3 : lk X 3 = some [.int .i64 v.kind, .int .i64 v.n, .float .f64 v.x, .str v.s, .bool v.b]) , j = (i : Int) → i ≤ (p.set).length → (p.set).length - i = n →
    evK gS fi21 c21_77 { ps := [(0, e0), (1, e1), (2, e2), (3, .lp 3 0), (4, e4), (5, e5), (6, e6), (7, e7), (8, e8), (10, e10), (22, e22), (103, .val (.slice (encVals p.set))), (104, .val (.int .i64 p.set.length)), (105, .val (.int .i64 j))], ts := T, lc := X } st (.blk 1 (.seq c21_96 .nil)) = some ((.ret (.bool ((p.set.drop i).any (vis v))) none), st) := by
  intro n
  have hm : fi21.marks = [] := rfl
  have hl : fi21.locals = [2, 3, 10] := rfl
  have hr : fi21.results = [.tmp 4] := rfl
  have hpo := h_p.2
  induction n with
  | zero =>
    intro i j  e0 e1 e2 e4 e5 e6 e7 e8 e10 e22 T X ht0 ht1 ht2 ht4 ht5 ht6 ht7 ht8 ht10 ht22 hx3  hj hi hn
    obtain rfl : i = (p.set).length := by omega
    subst hj
    refine evK_loop c21_78 _ st _ _ rfl ?_
    simp (config := { contextual := true, maxSteps := 10000000, maxDischargeDepth := 6 }) [-Int.not_le, -Int.not_lt, -Nat.not_le, -Nat.not_lt, ty3, ty4, ty9, ty24, ty25, ty27, eq24, hm, hl, hr, k19, k32, k75, k76, e21_1, e21_4, e21_7, e21_8, e21_6, e21_9, e21_5, e21_3, e21_11, e21_14, e21_17, e21_20, e21_21, e21_19, e21_23, e21_26, e21_27, e21_25, e21_29, e21_32, e21_33, e21_31, e21_35, e21_38, e21_39, e21_37, e21_41, e21_44, e21_45, e21_43, e21_47, e21_50, e21_51, e21_49, e21_53, e21_56, e21_57, e21_55, e21_59, e21_62, e21_64, e21_65, e21_63, e21_61, e21_67, e21_70, e21_71, e21_69, e21_72, e21_68, e21_66, e21_60, e21_58, e21_54, e21_52, e21_48, e21_46, e21_42, e21_40, e21_36, e21_34, e21_30, e21_28, e21_24, e21_22, e21_18, e21_16, e21_15, e21_13, e21_75, e21_79, e21_82, e21_83, e21_81, e21_87, e21_89, e21_92, e21_93, e21_91, e21_94, e21_90, e21_88, e21_86, e21_85, e21_95, e21_84, e21_80, e21_78, e21_76, e21_74, e21_97, e21_98, e21_96, e21_73, e21_12, e21_10, e21_2, e21_0, n21_77, ht0, ht1, ht2, ht4, ht5, ht6, ht7, ht8, ht10, ht22, hx3]
    all_goals first | done | grind | omega | (trace_state; fail)
  | succ n ih =>
    intro i j  e0 e1 e2 e4 e5 e6 e7 e8 e10 e22 T X ht0 ht1 ht2 ht4 ht5 ht6 ht7 ht8 ht10 ht22 hx3  hj hi hn
    subst hj
    obtain ⟨x, hx⟩ : ∃ x, (p.set)[i]? = some x := ⟨(p.set)[i]'(by omega), List.getElem?_eq_getElem (by omega)⟩
    have hd := drop_get hx
    have hlt : (i : Int) < ((p.set).length : Int) := by omega
    have hlt2 : i < (p.set).length := by omega
    have hxe : (p.set)[i]'hlt2 = x := by rw [List.getElem?_eq_getElem hlt2] at hx; exact Option.some.inj hx
    have hw : IntKind.wrap .i64 ((i : Int) + 1) = (i : Int) + 1 := wrap64 (by omega) (by omega)
    have IH := fun e0 e1 e2 e4 e5 e6 e7 e8 e10 e22 T X ht0 ht1 ht2 ht4 ht5 ht6 ht7 ht8 ht10 ht22 hx3 => ih (i + 1) ((i : Int) + 1) e0 e1 e2 e4 e5 e6 e7 e8 e10 e22 T X ht0 ht1 ht2 ht4 ht5 ht6 ht7 ht8 ht10 ht22 hx3 rfl (by omega) (by omega)
    refine evK_loop c21_78 _ st _ _ rfl ?_
    simp (config := { contextual := true, maxSteps := 10000000, maxDischargeDepth := 6 }) [-Int.not_le, -Int.not_lt, -Nat.not_le, -Nat.not_lt, ty3, ty4, ty9, ty24, ty25, ty27, eq24, hm, hl, hr, k19, k32, k75, k76, e21_1, e21_4, e21_7, e21_8, e21_6, e21_9, e21_5, e21_3, e21_11, e21_14, e21_17, e21_20, e21_21, e21_19, e21_23, e21_26, e21_27, e21_25, e21_29, e21_32, e21_33, e21_31, e21_35, e21_38, e21_39, e21_37, e21_41, e21_44, e21_45, e21_43, e21_47, e21_50, e21_51, e21_49, e21_53, e21_56, e21_57, e21_55, e21_59, e21_62, e21_64, e21_65, e21_63, e21_61, e21_67, e21_70, e21_71, e21_69, e21_72, e21_68, e21_66, e21_60, e21_58, e21_54, e21_52, e21_48, e21_46, e21_42, e21_40, e21_36, e21_34, e21_30, e21_28, e21_24, e21_22, e21_18, e21_16, e21_15, e21_13, e21_75, e21_79, e21_82, e21_83, e21_81, e21_87, e21_89, e21_92, e21_93, e21_91, e21_94, e21_90, e21_88, e21_86, e21_85, e21_95, e21_84, e21_80, e21_78, e21_76, e21_74, e21_97, e21_98, e21_96, e21_73, e21_12, e21_10, e21_2, e21_0, n21_77, ht0, ht1, ht2, ht4, ht5, ht6, ht7, ht8, ht10, ht22, hx3, hx, hxe, hd, hlt, hlt2, hw, IH]
    all_goals first | done | grind | omega | (trace_state; fail)
set_option maxHeartbeats 4000000 in
theorem c21 (p : Pred) (v : Val)  (h_p : Pred.ok p) (st : St) : EvF gS 21 [p.enc, v.enc] st = some (.ret (.bool (ptakes p v)) none, st) := by
  refine EvF_start fi21_eq (fun x h => by cases h) m21 ?_
  rw [st21]
  have hm : fi21.marks = [] := rfl
  have hl : fi21.locals = [2, 3, 10] := rfl
  have hr : fi21.results = [.tmp 4] := rfl
  simp (config := { contextual := true, maxSteps := 10000000, maxDischargeDepth := 6 }) [-Int.not_le, -Int.not_lt, -Nat.not_le, -Nat.not_lt, ty3, ty4, ty9, ty24, ty25, ty27, eq24, hm, hl, hr, k19, k32, k75, k76, e21_1, e21_4, e21_7, e21_8, e21_6, e21_9, e21_5, e21_3, e21_11, e21_14, e21_17, e21_20, e21_21, e21_19, e21_23, e21_26, e21_27, e21_25, e21_29, e21_32, e21_33, e21_31, e21_35, e21_38, e21_39, e21_37, e21_41, e21_44, e21_45, e21_43, e21_47, e21_50, e21_51, e21_49, e21_53, e21_56, e21_57, e21_55, e21_59, e21_62, e21_64, e21_65, e21_63, e21_61, e21_67, e21_70, e21_71, e21_69, e21_72, e21_68, e21_66, e21_60, e21_58, e21_54, e21_52, e21_48, e21_46, e21_42, e21_40, e21_36, e21_34, e21_30, e21_28, e21_24, e21_22, e21_18, e21_16, e21_15, e21_13, e21_75, e21_79, e21_82, e21_83, e21_81, e21_87, e21_89, e21_92, e21_93, e21_91, e21_94, e21_90, e21_88, e21_86, e21_85, e21_95, e21_84, e21_80, e21_78, e21_76, e21_74, e21_97, e21_98, e21_96, e21_73, e21_12, e21_10, e21_2, e21_0, n21_77, (fun e0 e1 e2 e4 e5 e6 e7 e8 e10 e22 T X ht0 ht1 ht2 ht4 ht5 ht6 ht7 ht8 ht10 ht22 hx3 => L21_77 p v h_p st _ 0 0  e0 e1 e2 e4 e5 e6 e7 e8 e10 e22 T X ht0 ht1 ht2 ht4 ht5 ht6 ht7 ht8 ht10 ht22 hx3 rfl (Nat.zero_le _) rfl), h_p.1, h_p.2]
  all_goals try simp (config := { contextual := true }) [-Int.not_le, -Int.not_lt, -Nat.not_le, -Nat.not_lt, ptakes]
  all_goals first | done | grind | omega | (trace_state; fail)
theorem k21 (p_name : List UInt8) (p_test : Int) (p_vk : Int) (p_vn : Int) (p_vx : Nat) (p_vs : List UInt8) (p_vb : Bool) (p_wk : Int) (p_wn : Int) (p_wx : Nat) (p_ws : List UInt8) (p_wb : Bool) (p_set : List Val) (v_k : Int) (v_n : Int) (v_x : Nat) (v_s : List UInt8) (v_b : Bool)  (h_p : Pred.ok (⟨p_name, p_test, ⟨p_vk, p_vn, p_vx, p_vs, p_vb⟩, ⟨p_wk, p_wn, p_wx, p_ws, p_wb⟩, p_set⟩ : Pred)) (fr : Fr) (st : St) : callStep gS (EvF gS) 21 [.agg [.str p_name, .int .i64 p_test, .int .i64 p_vk, .int .i64 p_vn, .float .f64 p_vx, .str p_vs, .bool p_vb, .int .i64 p_wk, .int .i64 p_wn, .float .f64 p_wx, .str p_ws, .bool p_wb, .slice (encVals p_set)], .agg [.int .i64 v_k, .int .i64 v_n, .float .f64 v_x, .str v_s, .bool v_b]] fr st = some (.ok (retE none (.bool (ptakes (⟨p_name, p_test, ⟨p_vk, p_vn, p_vx, p_vs, p_vb⟩, ⟨p_wk, p_wn, p_wx, p_ws, p_wb⟩, p_set⟩ : Pred) (⟨v_k, v_n, v_x, v_s, v_b⟩ : Val)))) fr st) :=
  call_pure rfl fi21_eq rfl (fun st => c21 (⟨p_name, p_test, ⟨p_vk, p_vn, p_vx, p_vs, p_vb⟩, ⟨p_wk, p_wn, p_wx, p_ws, p_wb⟩, p_set⟩ : Pred) (⟨v_k, v_n, v_x, v_s, v_b⟩ : Val) h_p st) (by simp)
noncomputable def fi23 : FI := { body := codeOf Try.f23, ntmps := 50, results := [.tmp 2], pers := [0, 1, 2, 3, 4, 6, 11, 12, 40, 41, 42], locals := [1, 6], pure := true, marks := [] }
theorem fi23_eq : gS.fn 23 = some fi23 := by kernel_rfl
theorem st23 (a0 : V) : startFr fi23 [a0] = { ps := [(0, .val a0), (1, .any), (2, .any), (3, .any), (4, .any), (6, .any), (11, .any), (12, .any), (40, .any), (41, .any), (42, .any)], ts := [], lc := [] } := rfl
noncomputable def b23 : Code := mini (codeOf Try.f23)
noncomputable def c23_1 : Code := codeAt b23 [false]
theorem e23_1 : evK gS fi23 c23_1 fr st k = opsK gS fi23 [(some 1), (some 2)] [mk (some 1) (.box 27 (.tmp 0)) 0 none,
  mk (some 2) (.assign (.const (.bool false))) 4 none] fr.clear st fr k := evK_reg1 (i := 0) (by kernel_rfl) (by kernel_rfl)
noncomputable def c23_4 : Code := codeAt b23 [true, false, false]
theorem e23_4 : evK gS fi23 c23_4 fr st k = opsK gS fi23 [(some 7), (some 8), (some 9)] [mk (some 7) (.load 27 (.tmp 1)) 27 none,
  mk (some 8) (.call { callee := (.value (.func 19)), args := #[(.tmp 7)], argTypes := #[27] }) 4 none,
  mk (some 9) (.unOp .not 4 (.tmp 8)) 4 none] fr.clear st fr k := evK_reg1 (i := 1) (by kernel_rfl) (by kernel_rfl)
noncomputable def c23_7 : Code := codeAt b23 [true, false, true, false, false]
theorem e23_7 : evK gS fi23 c23_7 fr st k = opsK gS fi23 [(some 2)] [mk (some 2) (.assign (.const (.bool false))) 4 none] fr.clear st fr k := evK_reg1 (i := 2) (by kernel_rfl) (by kernel_rfl)
noncomputable def c23_8 : Code := .ret
theorem e23_8 : evK gS fi23 c23_8 fr st k = nextK gS fi23 k .ret fr st := rfl
noncomputable def c23_6 : Code := .seq c23_7 c23_8
theorem e23_6 : evK gS fi23 c23_6 fr st k = evK gS fi23 c23_7 fr st (.seq c23_8 k) := rfl
noncomputable def c23_9 : Code := .skip
theorem e23_9 : evK gS fi23 c23_9 fr st k = nextK gS fi23 k .normal fr st := rfl
noncomputable def c23_5 : Code := .cond (.tmp 9) c23_6 c23_9
theorem e23_5 : evK gS fi23 c23_5 fr st k = condK gS fi23 (fr.op (.tmp 9)).bool? c23_6 c23_9 fr st k := rfl
noncomputable def c23_3 : Code := .seq c23_4 c23_5
theorem e23_3 : evK gS fi23 c23_3 fr st k = evK gS fi23 c23_4 fr st (.seq c23_5 k) := rfl
noncomputable def c23_12 : Code := codeAt b23 [true, true, false, false]
theorem e23_12 : evK gS fi23 c23_12 fr st k = opsK gS fi23 [(some 10), (some 11)] [mk (some 10) (.fieldAddr 27 (.tmp 1) 1) 0 none,
  mk (some 11) (.load 3 (.tmp 10)) 3 none] fr.clear st fr k := evK_reg1 (i := 3) (by kernel_rfl) (by kernel_rfl)
noncomputable def c23_16 : Code := codeAt b23 [true, true, false, true, false, false, false]
theorem e23_16 : evK gS fi23 c23_16 fr st k = opsK gS fi23 [(some 13), (some 12)] [mk (some 13) (.binOp .eql 3 (.tmp 11) (.const (.int .i64 2)) 3) 4 none,
  mk (some 12) (.assign (.tmp 13)) 4 none] fr.clear st fr k := evK_reg1 (i := 4) (by kernel_rfl) (by kernel_rfl)
noncomputable def c23_18 : Code := .skip
theorem e23_18 : evK gS fi23 c23_18 fr st k = nextK gS fi23 k .normal fr st := rfl
noncomputable def c23_20 : Code := codeAt b23 [true, true, false, true, false, false, true, true, false]
theorem e23_20 : evK gS fi23 c23_20 fr st k = opsK gS fi23 [(some 14), (some 12)] [mk (some 14) (.binOp .eql 3 (.tmp 11) (.const (.int .i64 4)) 3) 4 none,
  mk (some 12) (.assign (.tmp 14)) 4 none] fr.clear st fr k := evK_reg1 (i := 5) (by kernel_rfl) (by kernel_rfl)
noncomputable def c23_22 : Code := .skip
theorem e23_22 : evK gS fi23 c23_22 fr st k = nextK gS fi23 k .normal fr st := rfl
noncomputable def c23_24 : Code := codeAt b23 [true, true, false, true, false, false, true, true, true, true, false]
theorem e23_24 : evK gS fi23 c23_24 fr st k = opsK gS fi23 [(some 15), (some 12)] [mk (some 15) (.binOp .eql 3 (.tmp 11) (.const (.int .i64 5)) 3) 4 none,
  mk (some 12) (.assign (.tmp 15)) 4 none] fr.clear st fr k := evK_reg1 (i := 6) (by kernel_rfl) (by kernel_rfl)
noncomputable def c23_26 : Code := .skip
theorem e23_26 : evK gS fi23 c23_26 fr st k = nextK gS fi23 k .normal fr st := rfl
noncomputable def c23_28 : Code := codeAt b23 [true, true, false, true, false, false, true, true, true, true, true, true, false]
theorem e23_28 : evK gS fi23 c23_28 fr st k = opsK gS fi23 [(some 16), (some 12)] [mk (some 16) (.binOp .eql 3 (.tmp 11) (.const (.int .i64 6)) 3) 4 none,
  mk (some 12) (.assign (.tmp 16)) 4 none] fr.clear st fr k := evK_reg1 (i := 7) (by kernel_rfl) (by kernel_rfl)
noncomputable def c23_30 : Code := .skip
theorem e23_30 : evK gS fi23 c23_30 fr st k = nextK gS fi23 k .normal fr st := rfl
noncomputable def c23_31 : Code := codeAt b23 [true, true, false, true, false, false, true, true, true, true, true, true, true, true]
theorem e23_31 : evK gS fi23 c23_31 fr st k = opsK gS fi23 [(some 17), (some 12)] [mk (some 17) (.binOp .eql 3 (.tmp 11) (.const (.int .i64 7)) 3) 4 none,
  mk (some 12) (.assign (.tmp 17)) 4 none] fr.clear st fr k := evK_reg1 (i := 8) (by kernel_rfl) (by kernel_rfl)
noncomputable def c23_29 : Code := .cond (.tmp 12) c23_30 c23_31
theorem e23_29 : evK gS fi23 c23_29 fr st k = condK gS fi23 (fr.op (.tmp 12)).bool? c23_30 c23_31 fr st k := rfl
noncomputable def c23_27 : Code := .seq c23_28 c23_29
theorem e23_27 : evK gS fi23 c23_27 fr st k = evK gS fi23 c23_28 fr st (.seq c23_29 k) := rfl
noncomputable def c23_25 : Code := .cond (.tmp 12) c23_26 c23_27
theorem e23_25 : evK gS fi23 c23_25 fr st k = condK gS fi23 (fr.op (.tmp 12)).bool? c23_26 c23_27 fr st k := rfl
noncomputable def c23_23 : Code := .seq c23_24 c23_25
theorem e23_23 : evK gS fi23 c23_23 fr st k = evK gS fi23 c23_24 fr st (.seq c23_25 k) := rfl
noncomputable def c23_21 : Code := .cond (.tmp 12) c23_22 c23_23
theorem e23_21 : evK gS fi23 c23_21 fr st k = condK gS fi23 (fr.op (.tmp 12)).bool? c23_22 c23_23 fr st k := rfl
noncomputable def c23_19 : Code := .seq c23_20 c23_21
theorem e23_19 : evK gS fi23 c23_19 fr st k = evK gS fi23 c23_20 fr st (.seq c23_21 k) := rfl
noncomputable def c23_17 : Code := .cond (.tmp 12) c23_18 c23_19
theorem e23_17 : evK gS fi23 c23_17 fr st k = condK gS fi23 (fr.op (.tmp 12)).bool? c23_18 c23_19 fr st k := rfl
noncomputable def c23_15 : Code := .seq c23_16 c23_17
theorem e23_15 : evK gS fi23 c23_15 fr st k = evK gS fi23 c23_16 fr st (.seq c23_17 k) := rfl
noncomputable def c23_34 : Code := codeAt b23 [true, true, false, true, false, true, false, false]
theorem e23_34 : evK gS fi23 c23_34 fr st k = opsK gS fi23 [(some 18), (some 19), (some 20), (some 2)] [mk (some 18) (.fieldAddr 27 (.tmp 1) 2) 0 none,
  mk (some 19) (.load 24 (.tmp 18)) 24 none,
  mk (some 20) (.call { callee := (.value (.func 80)), args := #[(.tmp 19)], argTypes := #[24] }) 4 none,
  mk (some 2) (.assign (.tmp 20)) 4 none] fr.clear st fr k := evK_reg1 (i := 9) (by kernel_rfl) (by kernel_rfl)
noncomputable def c23_35 : Code := .ret
theorem e23_35 : evK gS fi23 c23_35 fr st k = nextK gS fi23 k .ret fr st := rfl
noncomputable def c23_33 : Code := .seq c23_34 c23_35
theorem e23_33 : evK gS fi23 c23_33 fr st k = evK gS fi23 c23_34 fr st (.seq c23_35 k) := rfl
noncomputable def c23_37 : Code := codeAt b23 [true, true, false, true, false, true, true, false]
theorem e23_37 : evK gS fi23 c23_37 fr st k = opsK gS fi23 [(some 22), (some 21)] [mk (some 22) (.binOp .eql 3 (.tmp 11) (.const (.int .i64 8)) 3) 4 none,
  mk (some 21) (.assign (.tmp 22)) 4 none] fr.clear st fr k := evK_reg1 (i := 10) (by kernel_rfl) (by kernel_rfl)
noncomputable def c23_40 : Code := codeAt b23 [true, true, false, true, false, true, true, true, false, false]
theorem e23_40 : evK gS fi23 c23_40 fr st k = opsK gS fi23 [(some 24), (some 25), (some 26), (some 27), (some 28), (some 23), (some 29), (some 30), (some 3), (some 4)] [mk (some 24) (.fieldAddr 27 (.tmp 1) 2) 0 none,
  mk (some 25) (.load 24 (.tmp 24)) 24 none,
  mk (some 26) (.fieldAddr 27 (.tmp 1) 3) 0 none,
  mk (some 27) (.load 24 (.tmp 26)) 24 none,
  mk (some 28) (.call { callee := (.value (.func 75)), args := #[(.tmp 25), (.tmp 27)], argTypes := #[24, 24] }) 94 none,
  mk (some 23) (.move (.tmp 28)) 94 none,
  mk (some 29) (.extract (.tmp 23) 0) 3 none,
  mk (some 30) (.extract (.tmp 23) 1) 4 none,
  mk (some 3) (.assign (.tmp 29)) 3 none,
  mk (some 4) (.assign (.tmp 30)) 4 none] fr.clear st fr k := evK_reg1 (i := 11) (by kernel_rfl) (by kernel_rfl)
noncomputable def c23_42 : Code := codeAt b23 [true, true, false, true, false, true, true, true, false, true, false]
theorem e23_42 : evK gS fi23 c23_42 fr st k = opsK gS fi23 [(some 31), (some 32), (some 33), (some 34), (some 35), (some 36), (some 2)] [mk (some 31) (.move (.tmp 4)) 4 none,
  mk (some 32) (.unOp .not 4 (.tmp 31)) 4 none,
  mk (some 33) (.move (.tmp 32)) 4 none,
  mk (some 34) (.move (.tmp 3)) 3 (some (2, false)),
  mk (some 35) (.binOp .gtr 3 (.tmp 34) (.const (.int .i64 0)) 3) 4 (some (2, false)),
  mk (some 36) (.pick (.tmp 33) (.const (.bool true)) (.tmp 35)) 4 none,
  mk (some 2) (.assign (.tmp 36)) 4 none] fr.clear st fr k := evK_reg1 (i := 12) (by kernel_rfl) (by kernel_rfl)
noncomputable def c23_43 : Code := .ret
theorem e23_43 : evK gS fi23 c23_43 fr st k = nextK gS fi23 k .ret fr st := rfl
noncomputable def c23_41 : Code := .seq c23_42 c23_43
theorem e23_41 : evK gS fi23 c23_41 fr st k = evK gS fi23 c23_42 fr st (.seq c23_43 k) := rfl
noncomputable def c23_39 : Code := .seq c23_40 c23_41
theorem e23_39 : evK gS fi23 c23_39 fr st k = evK gS fi23 c23_40 fr st (.seq c23_41 k) := rfl
noncomputable def c23_45 : Code := codeAt b23 [true, true, false, true, false, true, true, true, true, false]
theorem e23_45 : evK gS fi23 c23_45 fr st k = opsK gS fi23 [(some 38), (some 37)] [mk (some 38) (.binOp .eql 3 (.tmp 11) (.const (.int .i64 10)) 3) 4 none,
  mk (some 37) (.assign (.tmp 38)) 4 none] fr.clear st fr k := evK_reg1 (i := 13) (by kernel_rfl) (by kernel_rfl)
noncomputable def c23_49 : Code := codeAt b23 [true, true, false, true, false, true, true, true, true, true, false, false, false]
theorem e23_49 : evK gS fi23 c23_49 fr st k = opsK gS fi23 [(some 39), (some 40), (some 41), (some 42)] [mk (some 39) (.fieldAddr 27 (.tmp 1) 4) 0 none,
  mk (some 40) (.load 25 (.tmp 39)) 25 none,
  mk (some 41) (.call { callee := (.builtin .len), args := #[(.tmp 40)], argTypes := #[25] }) 3 none,
  mk (some 42) (.move (.const (.int .i64 0))) 3 none] fr.clear st fr k := evK_reg1 (i := 14) (by kernel_rfl) (by kernel_rfl)
noncomputable def c23_53 : Code := codeAt b23 [true, true, false, true, false, true, true, true, true, true, false, false, true, false, false, false]
theorem e23_53 : evK gS fi23 c23_53 fr st k = opsK gS fi23 [(some 43)] [mk (some 43) (.binOp .lss 3 (.tmp 42) (.tmp 41) 3) 0 none] fr.clear st fr k := evK_reg1 (i := 15) (by kernel_rfl) (by kernel_rfl)
noncomputable def c23_56 : Code := .skip
theorem e23_56 : evK gS fi23 c23_56 fr st k = nextK gS fi23 k .normal fr st := rfl
noncomputable def c23_57 : Code := .exit 1
theorem e23_57 : evK gS fi23 c23_57 fr st k = nextK gS fi23 k (.exit 1) fr st := rfl
noncomputable def c23_55 : Code := .cond (.tmp 43) c23_56 c23_57
theorem e23_55 : evK gS fi23 c23_55 fr st k = condK gS fi23 (fr.op (.tmp 43)).bool? c23_56 c23_57 fr st k := rfl
noncomputable def c23_61 : Code := codeAt b23 [true, true, false, true, false, true, true, true, true, true, false, false, true, false, false, true, true, false, false, false]
theorem e23_61 : evK gS fi23 c23_61 fr st k = opsK gS fi23 [(some 44), (some 45), (some 6), none] [mk (some 44) (.indexAddr 25 (.tmp 40) (.tmp 42)) 0 none,
  mk (some 45) (.load 24 (.tmp 44)) 24 none,
  mk (some 6) (.alloc 24) 0 none,
  mk none (.store 24 (.tmp 6) (.tmp 45)) 0 none] fr.clear st fr k := evK_reg1 (i := 16) (by kernel_rfl) (by kernel_rfl)
noncomputable def c23_63 : Code := codeAt b23 [true, true, false, true, false, true, true, true, true, true, false, false, true, false, false, true, true, false, false, true, false]
theorem e23_63 : evK gS fi23 c23_63 fr st k = opsK gS fi23 [(some 46), (some 47), (some 48)] [mk (some 46) (.load 24 (.tmp 6)) 24 none,
  mk (some 47) (.call { callee := (.value (.func 80)), args := #[(.tmp 46)], argTypes := #[24] }) 4 none,
  mk (some 48) (.unOp .not 4 (.tmp 47)) 4 none] fr.clear st fr k := evK_reg1 (i := 17) (by kernel_rfl) (by kernel_rfl)
noncomputable def c23_66 : Code := codeAt b23 [true, true, false, true, false, true, true, true, true, true, false, false, true, false, false, true, true, false, false, true, true, false, false]
theorem e23_66 : evK gS fi23 c23_66 fr st k = opsK gS fi23 [(some 2)] [mk (some 2) (.assign (.const (.bool false))) 4 none] fr.clear st fr k := evK_reg1 (i := 18) (by kernel_rfl) (by kernel_rfl)
noncomputable def c23_67 : Code := .ret
theorem e23_67 : evK gS fi23 c23_67 fr st k = nextK gS fi23 k .ret fr st := rfl
noncomputable def c23_65 : Code := .seq c23_66 c23_67
theorem e23_65 : evK gS fi23 c23_65 fr st k = evK gS fi23 c23_66 fr st (.seq c23_67 k) := rfl
noncomputable def c23_68 : Code := .skip
theorem e23_68 : evK gS fi23 c23_68 fr st k = nextK gS fi23 k .normal fr st := rfl
noncomputable def c23_64 : Code := .cond (.tmp 48) c23_65 c23_68
theorem e23_64 : evK gS fi23 c23_64 fr st k = condK gS fi23 (fr.op (.tmp 48)).bool? c23_65 c23_68 fr st k := rfl
noncomputable def c23_62 : Code := .seq c23_63 c23_64
theorem e23_62 : evK gS fi23 c23_62 fr st k = evK gS fi23 c23_63 fr st (.seq c23_64 k) := rfl
noncomputable def c23_60 : Code := .seq c23_61 c23_62
theorem e23_60 : evK gS fi23 c23_60 fr st k = evK gS fi23 c23_61 fr st (.seq c23_62 k) := rfl
noncomputable def c23_59 : Code := .block 2 c23_60
theorem e23_59 : evK gS fi23 c23_59 fr st k = evK gS fi23 c23_60 fr st (.blk 2 k) := rfl
noncomputable def c23_69 : Code := codeAt b23 [true, true, false, true, false, true, true, true, true, true, false, false, true, false, false, true, true, true]
theorem e23_69 : evK gS fi23 c23_69 fr st k = opsK gS fi23 [(some 49), (some 42)] [mk (some 49) (.binOp .add 3 (.tmp 42) (.const (.int .i64 1)) 3) 3 none,
  mk (some 42) (.move (.tmp 49)) 3 none] fr.clear st fr k := evK_reg1 (i := 19) (by kernel_rfl) (by kernel_rfl)
noncomputable def c23_58 : Code := .seq c23_59 c23_69
theorem e23_58 : evK gS fi23 c23_58 fr st k = evK gS fi23 c23_59 fr st (.seq c23_69 k) := rfl
noncomputable def c23_54 : Code := .seq c23_55 c23_58
theorem e23_54 : evK gS fi23 c23_54 fr st k = evK gS fi23 c23_55 fr st (.seq c23_58 k) := rfl
noncomputable def c23_52 : Code := .seq c23_53 c23_54
theorem e23_52 : evK gS fi23 c23_52 fr st k = evK gS fi23 c23_53 fr st (.seq c23_54 k) := rfl
noncomputable def c23_51 : Code := .loop c23_52
noncomputable def c23_50 : Code := .block 1 c23_51
theorem e23_50 : evK gS fi23 c23_50 fr st k = evK gS fi23 c23_51 fr st (.blk 1 k) := rfl
noncomputable def c23_48 : Code := .seq c23_49 c23_50
theorem e23_48 : evK gS fi23 c23_48 fr st k = evK gS fi23 c23_49 fr st (.seq c23_50 k) := rfl
noncomputable def c23_71 : Code := codeAt b23 [true, true, false, true, false, true, true, true, true, true, false, true, false]
theorem e23_71 : evK gS fi23 c23_71 fr st k = opsK gS fi23 [(some 2)] [mk (some 2) (.assign (.const (.bool true))) 4 none] fr.clear st fr k := evK_reg1 (i := 20) (by kernel_rfl) (by kernel_rfl)
noncomputable def c23_72 : Code := .ret
theorem e23_72 : evK gS fi23 c23_72 fr st k = nextK gS fi23 k .ret fr st := rfl
noncomputable def c23_70 : Code := .seq c23_71 c23_72
theorem e23_70 : evK gS fi23 c23_70 fr st k = evK gS fi23 c23_71 fr st (.seq c23_72 k) := rfl
noncomputable def c23_47 : Code := .seq c23_48 c23_70
theorem e23_47 : evK gS fi23 c23_47 fr st k = evK gS fi23 c23_48 fr st (.seq c23_70 k) := rfl
noncomputable def c23_73 : Code := .skip
theorem e23_73 : evK gS fi23 c23_73 fr st k = nextK gS fi23 k .normal fr st := rfl
noncomputable def c23_46 : Code := .cond (.tmp 37) c23_47 c23_73
theorem e23_46 : evK gS fi23 c23_46 fr st k = condK gS fi23 (fr.op (.tmp 37)).bool? c23_47 c23_73 fr st k := rfl
noncomputable def c23_44 : Code := .seq c23_45 c23_46
theorem e23_44 : evK gS fi23 c23_44 fr st k = evK gS fi23 c23_45 fr st (.seq c23_46 k) := rfl
noncomputable def c23_38 : Code := .cond (.tmp 21) c23_39 c23_44
theorem e23_38 : evK gS fi23 c23_38 fr st k = condK gS fi23 (fr.op (.tmp 21)).bool? c23_39 c23_44 fr st k := rfl
noncomputable def c23_36 : Code := .seq c23_37 c23_38
theorem e23_36 : evK gS fi23 c23_36 fr st k = evK gS fi23 c23_37 fr st (.seq c23_38 k) := rfl
noncomputable def c23_32 : Code := .cond (.tmp 12) c23_33 c23_36
theorem e23_32 : evK gS fi23 c23_32 fr st k = condK gS fi23 (fr.op (.tmp 12)).bool? c23_33 c23_36 fr st k := rfl
noncomputable def c23_14 : Code := .seq c23_15 c23_32
theorem e23_14 : evK gS fi23 c23_14 fr st k = evK gS fi23 c23_15 fr st (.seq c23_32 k) := rfl
noncomputable def c23_13 : Code := .block 0 c23_14
theorem e23_13 : evK gS fi23 c23_13 fr st k = evK gS fi23 c23_14 fr st (.blk 0 k) := rfl
noncomputable def c23_11 : Code := .seq c23_12 c23_13
theorem e23_11 : evK gS fi23 c23_11 fr st k = evK gS fi23 c23_12 fr st (.seq c23_13 k) := rfl
noncomputable def c23_75 : Code := codeAt b23 [true, true, true, false]
theorem e23_75 : evK gS fi23 c23_75 fr st k = opsK gS fi23 [(some 2)] [mk (some 2) (.assign (.const (.bool false))) 4 none] fr.clear st fr k := evK_reg1 (i := 21) (by kernel_rfl) (by kernel_rfl)
noncomputable def c23_76 : Code := .ret
theorem e23_76 : evK gS fi23 c23_76 fr st k = nextK gS fi23 k .ret fr st := rfl
noncomputable def c23_74 : Code := .seq c23_75 c23_76
theorem e23_74 : evK gS fi23 c23_74 fr st k = evK gS fi23 c23_75 fr st (.seq c23_76 k) := rfl
noncomputable def c23_10 : Code := .seq c23_11 c23_74
theorem e23_10 : evK gS fi23 c23_10 fr st k = evK gS fi23 c23_11 fr st (.seq c23_74 k) := rfl
noncomputable def c23_2 : Code := .seq c23_3 c23_10
theorem e23_2 : evK gS fi23 c23_2 fr st k = evK gS fi23 c23_3 fr st (.seq c23_10 k) := rfl
noncomputable def c23_0 : Code := .seq c23_1 c23_2
theorem e23_0 : evK gS fi23 c23_0 fr st k = evK gS fi23 c23_1 fr st (.seq c23_2 k) := rfl
theorem m23 : mini fi23.body = c23_0 := by kernel_rfl
theorem n23_51 (fr : Fr) (st : St) (k : Kt) : nextK gS fi23 (.loop c23_52 k) .normal fr st = evK gS fi23 c23_51 fr st k := rfl
set_option maxHeartbeats 4000000 in
theorem L23_51 (p : Pred) (h_p : p.ok) (st : St) : ∀ (n i : Nat) (j : Int)  (e0 e1 e2 e3 e4 e6 e11 e12 : E) (T : List (Nat × E)) (X : List (Nat × List V)) (ht0 : e0.Tame) (ht1 : e1.Tame) (ht2 : e2.Tame) (ht3 : e3.Tame) (ht4 : e4.Tame) (ht6 : e6.Tame) (ht11 : e11.Tame) (ht12 : e12.Tame) , j = (i : Int) → i ≤ (p.set).length → (p.set).length - i = n →
    evK gS fi23 c23_51 { ps := [(0, e0), (1, e1), (2, e2), (3, e3), (4, e4), (6, e6), (11, e11), (12, e12), (40, .val (.slice (encVals p.set))), (41, .val (.int .i64 p.set.length)), (42, .val (.int .i64 j))], ts := T, lc := X } st (.blk 1 (.seq c23_70 (.blk 0 (.seq c23_74 .nil)))) = some ((.ret (.bool ((p.set.drop i).all vnan)) none), st) := by
  intro n
  have hm : fi23.marks = [] := rfl
  have hl : fi23.locals = [1, 6] := rfl
  have hr : fi23.results = [.tmp 2] := rfl
  have hpo := h_p.2
  induction n with
  | zero =>
    intro i j  e0 e1 e2 e3 e4 e6 e11 e12 T X ht0 ht1 ht2 ht3 ht4 ht6 ht11 ht12  hj hi hn
    obtain rfl : i = (p.set).length := by omega
    subst hj
    refine evK_loop c23_52 _ st _ _ rfl ?_
    simp (config := { contextual := true, maxSteps := 10000000, maxDischargeDepth := 6 }) [-Int.not_le, -Int.not_lt, -Nat.not_le, -Nat.not_lt, ty3, ty4, ty24, ty25, ty27, eq24, hm, hl, hr, k19, k75, k80, e23_1, e23_4, e23_7, e23_8, e23_6, e23_9, e23_5, e23_3, e23_12, e23_16, e23_18, e23_20, e23_22, e23_24, e23_26, e23_28, e23_30, e23_31, e23_29, e23_27, e23_25, e23_23, e23_21, e23_19, e23_17, e23_15, e23_34, e23_35, e23_33, e23_37, e23_40, e23_42, e23_43, e23_41, e23_39, e23_45, e23_49, e23_53, e23_56, e23_57, e23_55, e23_61, e23_63, e23_66, e23_67, e23_65, e23_68, e23_64, e23_62, e23_60, e23_59, e23_69, e23_58, e23_54, e23_52, e23_50, e23_48, e23_71, e23_72, e23_70, e23_47, e23_73, e23_46, e23_44, e23_38, e23_36, e23_32, e23_14, e23_13, e23_11, e23_75, e23_76, e23_74, e23_10, e23_2, e23_0, n23_51, ht0, ht1, ht2, ht3, ht4, ht6, ht11, ht12]
    all_goals first | done | grind | omega | (trace_state; fail)
  | succ n ih =>
    intro i j  e0 e1 e2 e3 e4 e6 e11 e12 T X ht0 ht1 ht2 ht3 ht4 ht6 ht11 ht12  hj hi hn
    subst hj
    obtain ⟨x, hx⟩ : ∃ x, (p.set)[i]? = some x := ⟨(p.set)[i]'(by omega), List.getElem?_eq_getElem (by omega)⟩
    have hd := drop_get hx
    have hlt : (i : Int) < ((p.set).length : Int) := by omega
    have hlt2 : i < (p.set).length := by omega
    have hxe : (p.set)[i]'hlt2 = x := by rw [List.getElem?_eq_getElem hlt2] at hx; exact Option.some.inj hx
    have hw : IntKind.wrap .i64 ((i : Int) + 1) = (i : Int) + 1 := wrap64 (by omega) (by omega)
    have IH := fun e0 e1 e2 e3 e4 e6 e11 e12 T X ht0 ht1 ht2 ht3 ht4 ht6 ht11 ht12 => ih (i + 1) ((i : Int) + 1) e0 e1 e2 e3 e4 e6 e11 e12 T X ht0 ht1 ht2 ht3 ht4 ht6 ht11 ht12 rfl (by omega) (by omega)
    refine evK_loop c23_52 _ st _ _ rfl ?_
    simp (config := { contextual := true, maxSteps := 10000000, maxDischargeDepth := 6 }) [-Int.not_le, -Int.not_lt, -Nat.not_le, -Nat.not_lt, ty3, ty4, ty24, ty25, ty27, eq24, hm, hl, hr, k19, k75, k80, e23_1, e23_4, e23_7, e23_8, e23_6, e23_9, e23_5, e23_3, e23_12, e23_16, e23_18, e23_20, e23_22, e23_24, e23_26, e23_28, e23_30, e23_31, e23_29, e23_27, e23_25, e23_23, e23_21, e23_19, e23_17, e23_15, e23_34, e23_35, e23_33, e23_37, e23_40, e23_42, e23_43, e23_41, e23_39, e23_45, e23_49, e23_53, e23_56, e23_57, e23_55, e23_61, e23_63, e23_66, e23_67, e23_65, e23_68, e23_64, e23_62, e23_60, e23_59, e23_69, e23_58, e23_54, e23_52, e23_50, e23_48, e23_71, e23_72, e23_70, e23_47, e23_73, e23_46, e23_44, e23_38, e23_36, e23_32, e23_14, e23_13, e23_11, e23_75, e23_76, e23_74, e23_10, e23_2, e23_0, n23_51, ht0, ht1, ht2, ht3, ht4, ht6, ht11, ht12, hx, hxe, hd, hlt, hlt2, hw, IH]
    all_goals first | done | grind | omega | (trace_state; fail)
set_option maxHeartbeats 4000000 in
theorem c23 (p : Pred)  (h_p : Pred.ok p) (st : St) : EvF gS 23 [p.enc] st = some (.ret (.bool (pvoid p)) none, st) := by
  refine EvF_start fi23_eq (fun x h => by cases h) m23 ?_
  rw [st23]
  have hm : fi23.marks = [] := rfl
  have hl : fi23.locals = [1, 6] := rfl
  have hr : fi23.results = [.tmp 2] := rfl
  simp (config := { contextual := true, maxSteps := 10000000, maxDischargeDepth := 6 }) [-Int.not_le, -Int.not_lt, -Nat.not_le, -Nat.not_lt, ty3, ty4, ty24, ty25, ty27, eq24, hm, hl, hr, k19, k75, k80, e23_1, e23_4, e23_7, e23_8, e23_6, e23_9, e23_5, e23_3, e23_12, e23_16, e23_18, e23_20, e23_22, e23_24, e23_26, e23_28, e23_30, e23_31, e23_29, e23_27, e23_25, e23_23, e23_21, e23_19, e23_17, e23_15, e23_34, e23_35, e23_33, e23_37, e23_40, e23_42, e23_43, e23_41, e23_39, e23_45, e23_49, e23_53, e23_56, e23_57, e23_55, e23_61, e23_63, e23_66, e23_67, e23_65, e23_68, e23_64, e23_62, e23_60, e23_59, e23_69, e23_58, e23_54, e23_52, e23_50, e23_48, e23_71, e23_72, e23_70, e23_47, e23_73, e23_46, e23_44, e23_38, e23_36, e23_32, e23_14, e23_13, e23_11, e23_75, e23_76, e23_74, e23_10, e23_2, e23_0, n23_51, (fun e0 e1 e2 e3 e4 e6 e11 e12 T X ht0 ht1 ht2 ht3 ht4 ht6 ht11 ht12 => L23_51 p h_p st _ 0 0  e0 e1 e2 e3 e4 e6 e11 e12 T X ht0 ht1 ht2 ht3 ht4 ht6 ht11 ht12 rfl (Nat.zero_le _) rfl), h_p.1, h_p.2]
  all_goals try simp (config := { contextual := true }) [-Int.not_le, -Int.not_lt, -Nat.not_le, -Nat.not_lt, pvoid]
  all_goals first | done | grind | omega | (trace_state; fail)
theorem k23 (p_name : List UInt8) (p_test : Int) (p_vk : Int) (p_vn : Int) (p_vx : Nat) (p_vs : List UInt8) (p_vb : Bool) (p_wk : Int) (p_wn : Int) (p_wx : Nat) (p_ws : List UInt8) (p_wb : Bool) (p_set : List Val)  (h_p : Pred.ok (⟨p_name, p_test, ⟨p_vk, p_vn, p_vx, p_vs, p_vb⟩, ⟨p_wk, p_wn, p_wx, p_ws, p_wb⟩, p_set⟩ : Pred)) (fr : Fr) (st : St) : callStep gS (EvF gS) 23 [.agg [.str p_name, .int .i64 p_test, .int .i64 p_vk, .int .i64 p_vn, .float .f64 p_vx, .str p_vs, .bool p_vb, .int .i64 p_wk, .int .i64 p_wn, .float .f64 p_wx, .str p_ws, .bool p_wb, .slice (encVals p_set)]] fr st = some (.ok (retE none (.bool (pvoid (⟨p_name, p_test, ⟨p_vk, p_vn, p_vx, p_vs, p_vb⟩, ⟨p_wk, p_wn, p_wx, p_ws, p_wb⟩, p_set⟩ : Pred)))) fr st) :=
  call_pure rfl fi23_eq rfl (fun st => c23 (⟨p_name, p_test, ⟨p_vk, p_vn, p_vx, p_vs, p_vb⟩, ⟨p_wk, p_wn, p_wx, p_ws, p_wb⟩, p_set⟩ : Pred) h_p st) (by simp)
end Go.Proofs.Ytclpbfkbpcjejaa
namespace Go.Ab
open Go
set_option linter.unusedVariables false
set_option linter.unusedSimpArgs false
set_option linter.unnecessarySimpa false
theorem ended_key (q : Pred) : ((lowE q).is || (highE q).is) = (decide (4 ≤ q.test) && decide (q.test ≤ 8)) := by
  unfold lowE highE
  by_cases h4 : q.test = 4
  · simp [h4]
  · by_cases h5 : q.test = 5
    · simp [h5]
    · by_cases h6 : q.test = 6
      · simp [h6]
      · by_cases h7 : q.test = 7
        · simp [h7]
        · by_cases h8 : q.test = 8
          · simp [h8]
          · simp [h4, h5, h6, h7, h8]; omega
end Go.Ab
namespace Go.Proofs.Ytclpbfkbpcjejaa
open Go Go.Ab
set_option linter.unusedVariables false
set_option linter.unusedSimpArgs false
set_option linter.unnecessarySimpa false
set_option maxRecDepth 20000
variable (fr : Fr) (st : St) (k : Kt)
noncomputable def fi85 : FI := { body := codeOf Try.f85, ntmps := 34, results := [.cell 2 99, .cell 3 99], pers := [0, 1, 2, 3, 5, 6, 15], locals := [1, 2, 3], pure := true, marks := [] }
theorem fi85_eq : gS.fn 85 = some fi85 := by kernel_rfl
theorem st85 (a0 : V) : startFr fi85 [a0] = { ps := [(0, .val a0), (1, .any), (2, .any), (3, .any), (5, .any), (6, .any), (15, .any)], ts := [], lc := [] } := rfl
noncomputable def b85 : Code := mini (codeOf Try.f85)
noncomputable def c85_1 : Code := codeAt b85 [false]
theorem e85_1 : evK gS fi85 c85_1 fr st k = opsK gS fi85 [(some 1), (some 2), (some 3)] [mk (some 1) (.box 27 (.tmp 0)) 0 none,
  mk (some 2) (.alloc 99) 0 none,
  mk (some 3) (.alloc 99) 0 none] fr.clear st fr k := evK_reg1 (i := 0) (by kernel_rfl) (by kernel_rfl)
noncomputable def c85_4 : Code := codeAt b85 [true, false, false]
theorem e85_4 : evK gS fi85 c85_4 fr st k = opsK gS fi85 [(some 4), (some 5)] [mk (some 4) (.fieldAddr 27 (.tmp 1) 1) 0 none,
  mk (some 5) (.load 3 (.tmp 4)) 3 none] fr.clear st fr k := evK_reg1 (i := 1) (by kernel_rfl) (by kernel_rfl)
noncomputable def c85_8 : Code := codeAt b85 [true, false, true, false, false, false]
theorem e85_8 : evK gS fi85 c85_8 fr st k = opsK gS fi85 [(some 7), (some 6)] [mk (some 7) (.binOp .eql 3 (.tmp 5) (.const (.int .i64 4)) 3) 4 none,
  mk (some 6) (.assign (.tmp 7)) 4 none] fr.clear st fr k := evK_reg1 (i := 2) (by kernel_rfl) (by kernel_rfl)
noncomputable def c85_10 : Code := .skip
theorem e85_10 : evK gS fi85 c85_10 fr st k = nextK gS fi85 k .normal fr st := rfl
noncomputable def c85_11 : Code := codeAt b85 [true, false, true, false, false, true, true]
theorem e85_11 : evK gS fi85 c85_11 fr st k = opsK gS fi85 [(some 8), (some 6)] [mk (some 8) (.binOp .eql 3 (.tmp 5) (.const (.int .i64 5)) 3) 4 none,
  mk (some 6) (.assign (.tmp 8)) 4 none] fr.clear st fr k := evK_reg1 (i := 3) (by kernel_rfl) (by kernel_rfl)
noncomputable def c85_9 : Code := .cond (.tmp 6) c85_10 c85_11
theorem e85_9 : evK gS fi85 c85_9 fr st k = condK gS fi85 (fr.op (.tmp 6)).bool? c85_10 c85_11 fr st k := rfl
noncomputable def c85_7 : Code := .seq c85_8 c85_9
theorem e85_7 : evK gS fi85 c85_7 fr st k = evK gS fi85 c85_8 fr st (.seq c85_9 k) := rfl
noncomputable def c85_13 : Code := codeAt b85 [true, false, true, false, true, false]
theorem e85_13 : evK gS fi85 c85_13 fr st k = opsK gS fi85 [(some 9), (some 10), (some 11), (some 12), (some 13), (some 14), none] [mk (some 9) (.fieldAddr 27 (.tmp 1) 1) 0 none,
  mk (some 10) (.load 3 (.tmp 9)) 3 none,
  mk (some 11) (.binOp .eql 3 (.tmp 10) (.const (.int .i64 4)) 3) 4 none,
  mk (some 12) (.fieldAddr 27 (.tmp 1) 2) 0 none,
  mk (some 13) (.load 24 (.tmp 12)) 24 none,
  mk (some 14) (.build 99 #[(0, (.const (.bool true))), (1, (.tmp 11)), (2, (.tmp 13))]) 99 none,
  mk none (.store 99 (.tmp 3) (.tmp 14)) 0 none] fr.clear st fr k := evK_reg1 (i := 4) (by kernel_rfl) (by kernel_rfl)
noncomputable def c85_16 : Code := codeAt b85 [true, false, true, false, true, true, false, false]
theorem e85_16 : evK gS fi85 c85_16 fr st k = opsK gS fi85 [(some 16), (some 15)] [mk (some 16) (.binOp .eql 3 (.tmp 5) (.const (.int .i64 6)) 3) 4 none,
  mk (some 15) (.assign (.tmp 16)) 4 none] fr.clear st fr k := evK_reg1 (i := 5) (by kernel_rfl) (by kernel_rfl)
noncomputable def c85_18 : Code := .skip
theorem e85_18 : evK gS fi85 c85_18 fr st k = nextK gS fi85 k .normal fr st := rfl
noncomputable def c85_19 : Code := codeAt b85 [true, false, true, false, true, true, false, true, true]
theorem e85_19 : evK gS fi85 c85_19 fr st k = opsK gS fi85 [(some 17), (some 15)] [mk (some 17) (.binOp .eql 3 (.tmp 5) (.const (.int .i64 7)) 3) 4 none,
  mk (some 15) (.assign (.tmp 17)) 4 none] fr.clear st fr k := evK_reg1 (i := 6) (by kernel_rfl) (by kernel_rfl)
noncomputable def c85_17 : Code := .cond (.tmp 15) c85_18 c85_19
theorem e85_17 : evK gS fi85 c85_17 fr st k = condK gS fi85 (fr.op (.tmp 15)).bool? c85_18 c85_19 fr st k := rfl
noncomputable def c85_15 : Code := .seq c85_16 c85_17
theorem e85_15 : evK gS fi85 c85_15 fr st k = evK gS fi85 c85_16 fr st (.seq c85_17 k) := rfl
noncomputable def c85_21 : Code := codeAt b85 [true, false, true, false, true, true, true, false]
theorem e85_21 : evK gS fi85 c85_21 fr st k = opsK gS fi85 [(some 18), (some 19), (some 20), (some 21), (some 22), (some 23), none] [mk (some 18) (.fieldAddr 27 (.tmp 1) 1) 0 none,
  mk (some 19) (.load 3 (.tmp 18)) 3 none,
  mk (some 20) (.binOp .eql 3 (.tmp 19) (.const (.int .i64 6)) 3) 4 none,
  mk (some 21) (.fieldAddr 27 (.tmp 1) 2) 0 none,
  mk (some 22) (.load 24 (.tmp 21)) 24 none,
  mk (some 23) (.build 99 #[(0, (.const (.bool true))), (1, (.tmp 20)), (2, (.tmp 22))]) 99 none,
  mk none (.store 99 (.tmp 2) (.tmp 23)) 0 none] fr.clear st fr k := evK_reg1 (i := 7) (by kernel_rfl) (by kernel_rfl)
noncomputable def c85_23 : Code := codeAt b85 [true, false, true, false, true, true, true, true, false]
theorem e85_23 : evK gS fi85 c85_23 fr st k = opsK gS fi85 [(some 25), (some 24)] [mk (some 25) (.binOp .eql 3 (.tmp 5) (.const (.int .i64 8)) 3) 4 none,
  mk (some 24) (.assign (.tmp 25)) 4 none] fr.clear st fr k := evK_reg1 (i := 8) (by kernel_rfl) (by kernel_rfl)
noncomputable def r85_25 : Array Oper := regOps (codeAt (codeOf Try.f85) [true, false, true, false, true, true, true, true, true, false])
noncomputable def c85_25 : Code := .region 9 r85_25 true
noncomputable def q85_25 : List (Oper × Fl) := [(mk (some 26) (.fieldAddr 27 (.tmp 1) 2) 0 none, ⟨true, false, true, false, false, false, true, true, false, false, []⟩),
  (mk (some 27) (.load 24 (.tmp 26)) 24 none, ⟨true, false, true, false, false, false, true, true, false, false, []⟩),
  (mk (some 28) (.build 99 #[(0, (.const (.bool true))), (2, (.tmp 27))]) 99 none, ⟨true, false, true, false, false, false, true, true, false, false, []⟩),
  (mk (some 29) (.fieldAddr 27 (.tmp 1) 3) 0 none, ⟨true, false, false, false, false, false, true, false, false, false, []⟩),
  (mk (some 30) (.load 24 (.tmp 29)) 24 none, ⟨true, false, false, false, false, false, true, false, false, false, [2]⟩),
  (mk (some 31) (.build 99 #[(0, (.const (.bool true))), (2, (.tmp 30))]) 99 none, ⟨true, false, false, false, false, false, true, false, false, false, []⟩),
  (mk none (.store 99 (.tmp 2) (.tmp 28)) 0 none, ⟨false, true, true, false, true, true, true, true, true, false, []⟩),
  (mk none (.store 99 (.tmp 3) (.tmp 31)) 0 none, ⟨false, true, true, false, true, true, true, true, false, false, []⟩)]
theorem e85_25 : evK gS fi85 c85_25 fr st k = drwK gS fi85 r85_25 [(some 26), (some 27), (some 28), (some 29), (some 30), (some 31), none, none] q85_25 0 fr.clear st fr k := by
  rw [evK_draw (g := gS) (fi := fi85) (c := c85_25) 9 r85_25 q85_25 fr st k rfl (by kernel_rfl) (by kernel_rfl), show r85_25.toList.map (·.dst) = [(some 26), (some 27), (some 28), (some 29), (some 30), (some 31), none, none] from by kernel_rfl]
noncomputable def c85_26 : Code := .skip
theorem e85_26 : evK gS fi85 c85_26 fr st k = nextK gS fi85 k .normal fr st := rfl
noncomputable def c85_24 : Code := .cond (.tmp 24) c85_25 c85_26
theorem e85_24 : evK gS fi85 c85_24 fr st k = condK gS fi85 (fr.op (.tmp 24)).bool? c85_25 c85_26 fr st k := rfl
noncomputable def c85_22 : Code := .seq c85_23 c85_24
theorem e85_22 : evK gS fi85 c85_22 fr st k = evK gS fi85 c85_23 fr st (.seq c85_24 k) := rfl
noncomputable def c85_20 : Code := .cond (.tmp 15) c85_21 c85_22
theorem e85_20 : evK gS fi85 c85_20 fr st k = condK gS fi85 (fr.op (.tmp 15)).bool? c85_21 c85_22 fr st k := rfl
noncomputable def c85_14 : Code := .seq c85_15 c85_20
theorem e85_14 : evK gS fi85 c85_14 fr st k = evK gS fi85 c85_15 fr st (.seq c85_20 k) := rfl
noncomputable def c85_12 : Code := .cond (.tmp 6) c85_13 c85_14
theorem e85_12 : evK gS fi85 c85_12 fr st k = condK gS fi85 (fr.op (.tmp 6)).bool? c85_13 c85_14 fr st k := rfl
noncomputable def c85_6 : Code := .seq c85_7 c85_12
theorem e85_6 : evK gS fi85 c85_6 fr st k = evK gS fi85 c85_7 fr st (.seq c85_12 k) := rfl
noncomputable def c85_5 : Code := .block 0 c85_6
theorem e85_5 : evK gS fi85 c85_5 fr st k = evK gS fi85 c85_6 fr st (.blk 0 k) := rfl
noncomputable def c85_3 : Code := .seq c85_4 c85_5
theorem e85_3 : evK gS fi85 c85_3 fr st k = evK gS fi85 c85_4 fr st (.seq c85_5 k) := rfl
noncomputable def r85_28 : Array Oper := regOps (codeAt (codeOf Try.f85) [true, true, false])
noncomputable def c85_28 : Code := .region 10 r85_28 true
noncomputable def q85_28 : List (Oper × Fl) := [(mk (some 32) (.load 99 (.tmp 2)) 99 none, ⟨true, false, true, false, false, false, true, true, false, false, []⟩),
  (mk (some 33) (.load 99 (.tmp 3)) 99 none, ⟨true, false, false, false, false, false, true, false, false, false, [2]⟩),
  (mk none (.store 99 (.tmp 2) (.tmp 32)) 0 none, ⟨false, true, true, false, true, true, true, true, true, false, []⟩),
  (mk none (.store 99 (.tmp 3) (.tmp 33)) 0 none, ⟨false, true, true, false, true, true, true, true, false, false, []⟩)]
theorem e85_28 : evK gS fi85 c85_28 fr st k = drwK gS fi85 r85_28 [(some 32), (some 33), none, none] q85_28 0 fr.clear st fr k := by
  rw [evK_draw (g := gS) (fi := fi85) (c := c85_28) 10 r85_28 q85_28 fr st k rfl (by kernel_rfl) (by kernel_rfl), show r85_28.toList.map (·.dst) = [(some 32), (some 33), none, none] from by kernel_rfl]
noncomputable def c85_29 : Code := .ret
theorem e85_29 : evK gS fi85 c85_29 fr st k = nextK gS fi85 k .ret fr st := rfl
noncomputable def c85_27 : Code := .seq c85_28 c85_29
theorem e85_27 : evK gS fi85 c85_27 fr st k = evK gS fi85 c85_28 fr st (.seq c85_29 k) := rfl
noncomputable def c85_2 : Code := .seq c85_3 c85_27
theorem e85_2 : evK gS fi85 c85_2 fr st k = evK gS fi85 c85_3 fr st (.seq c85_27 k) := rfl
noncomputable def c85_0 : Code := .seq c85_1 c85_2
theorem e85_0 : evK gS fi85 c85_0 fr st k = evK gS fi85 c85_1 fr st (.seq c85_2 k) := rfl
theorem m85 : mini fi85.body = c85_0 := by kernel_rfl
set_option maxHeartbeats 4000000 in
theorem c85 (p : Pred)  (st : St) : EvF gS 85 [p.enc] st = some (.ret (.tuple [(lowE p).encP, (highE p).encP]) none, st) := by
  refine EvF_start fi85_eq (fun x h => by cases h) m85 ?_
  rw [st85]
  have hm : fi85.marks = [] := rfl
  have hl : fi85.locals = [1, 2, 3] := rfl
  have hr : fi85.results = [.cell 2 99, .cell 3 99] := rfl
  simp (config := { contextual := true, maxSteps := 10000000, maxDischargeDepth := 6 }) [-Int.not_le, -Int.not_lt, -Nat.not_le, -Nat.not_lt, ty3, ty4, ty24, ty27, ty99, eq24, hm, hl, hr, e85_1, e85_4, e85_8, e85_10, e85_11, e85_9, e85_7, e85_13, e85_16, e85_18, e85_19, e85_17, e85_15, e85_21, e85_23, e85_25, q85_25, e85_26, e85_24, e85_22, e85_20, e85_14, e85_12, e85_6, e85_5, e85_3, e85_28, q85_28, e85_29, e85_27, e85_2, e85_0]
  all_goals try simp (config := { contextual := true }) [-Int.not_le, -Int.not_lt, -Nat.not_le, -Nat.not_lt, lowE, highE, vzero]
  all_goals first | done | grind | omega | (trace_state; fail)
theorem k85 (p_name : List UInt8) (p_test : Int) (p_vk : Int) (p_vn : Int) (p_vx : Nat) (p_vs : List UInt8) (p_vb : Bool) (p_wk : Int) (p_wn : Int) (p_wx : Nat) (p_ws : List UInt8) (p_wb : Bool) (p_set : List Val)  (fr : Fr) (st : St) : callStep gS (EvF gS) 85 [.agg [.str p_name, .int .i64 p_test, .int .i64 p_vk, .int .i64 p_vn, .float .f64 p_vx, .str p_vs, .bool p_vb, .int .i64 p_wk, .int .i64 p_wn, .float .f64 p_wx, .str p_ws, .bool p_wb, .slice (encVals p_set)]] fr st = some (.ok (retE none (.tuple [(lowE (⟨p_name, p_test, ⟨p_vk, p_vn, p_vx, p_vs, p_vb⟩, ⟨p_wk, p_wn, p_wx, p_ws, p_wb⟩, p_set⟩ : Pred)).encP, (highE (⟨p_name, p_test, ⟨p_vk, p_vn, p_vx, p_vs, p_vb⟩, ⟨p_wk, p_wn, p_wx, p_ws, p_wb⟩, p_set⟩ : Pred)).encP])) fr st) :=
  call_pure rfl fi85_eq rfl (fun st => c85 (⟨p_name, p_test, ⟨p_vk, p_vn, p_vx, p_vs, p_vb⟩, ⟨p_wk, p_wn, p_wx, p_ws, p_wb⟩, p_set⟩ : Pred)  st) (by simp)
noncomputable def fi86 : FI := { body := codeOf Try.f86, ntmps := 42, results := [.tmp 6], pers := [0, 1, 2, 3, 4, 6, 7, 8], locals := [3, 4], pure := true, marks := [] }
theorem fi86_eq : gS.fn 86 = some fi86 := by kernel_rfl
theorem st86 (a0 a1 a2 : V) : startFr fi86 [a0, a1, a2] = { ps := [(0, .val a0), (1, .val a1), (2, .val a2), (3, .any), (4, .any), (6, .any), (7, .any), (8, .any)], ts := [], lc := [] } := rfl
noncomputable def b86 : Code := mini (codeOf Try.f86)
noncomputable def c86_1 : Code := codeAt b86 [false]
theorem e86_1 : evK gS fi86 c86_1 fr st k = opsK gS fi86 [(some 3), (some 4), (some 6)] [mk (some 3) (.box 99 (.tmp 0)) 0 none,
  mk (some 4) (.box 99 (.tmp 1)) 0 none,
  mk (some 6) (.assign (.const (.bool false))) 4 none] fr.clear st fr k := evK_reg1 (i := 0) (by kernel_rfl) (by kernel_rfl)
noncomputable def c86_4 : Code := codeAt b86 [true, false, false]
theorem e86_4 : evK gS fi86 c86_4 fr st k = opsK gS fi86 [(some 9), (some 10), (some 11)] [mk (some 9) (.fieldAddr 99 (.tmp 4) 0) 0 none,
  mk (some 10) (.load 4 (.tmp 9)) 4 none,
  mk (some 11) (.unOp .not 4 (.tmp 10)) 4 none] fr.clear st fr k := evK_reg1 (i := 1) (by kernel_rfl) (by kernel_rfl)
noncomputable def c86_7 : Code := codeAt b86 [true, false, true, false, false]
theorem e86_7 : evK gS fi86 c86_7 fr st k = opsK gS fi86 [(some 6)] [mk (some 6) (.assign (.const (.bool true))) 4 none] fr.clear st fr k := evK_reg1 (i := 2) (by kernel_rfl) (by kernel_rfl)
noncomputable def c86_8 : Code := .ret
theorem e86_8 : evK gS fi86 c86_8 fr st k = nextK gS fi86 k .ret fr st := rfl
noncomputable def c86_6 : Code := .seq c86_7 c86_8
theorem e86_6 : evK gS fi86 c86_6 fr st k = evK gS fi86 c86_7 fr st (.seq c86_8 k) := rfl
noncomputable def c86_9 : Code := .skip
theorem e86_9 : evK gS fi86 c86_9 fr st k = nextK gS fi86 k .normal fr st := rfl
noncomputable def c86_5 : Code := .cond (.tmp 11) c86_6 c86_9
theorem e86_5 : evK gS fi86 c86_5 fr st k = condK gS fi86 (fr.op (.tmp 11)).bool? c86_6 c86_9 fr st k := rfl
noncomputable def c86_3 : Code := .seq c86_4 c86_5
theorem e86_3 : evK gS fi86 c86_3 fr st k = evK gS fi86 c86_4 fr st (.seq c86_5 k) := rfl
noncomputable def c86_12 : Code := codeAt b86 [true, true, false, false]
theorem e86_12 : evK gS fi86 c86_12 fr st k = opsK gS fi86 [(some 12), (some 13), (some 14)] [mk (some 12) (.fieldAddr 99 (.tmp 3) 0) 0 none,
  mk (some 13) (.load 4 (.tmp 12)) 4 none,
  mk (some 14) (.unOp .not 4 (.tmp 13)) 4 none] fr.clear st fr k := evK_reg1 (i := 3) (by kernel_rfl) (by kernel_rfl)
noncomputable def c86_15 : Code := codeAt b86 [true, true, false, true, false, false]
theorem e86_15 : evK gS fi86 c86_15 fr st k = opsK gS fi86 [(some 6)] [mk (some 6) (.assign (.const (.bool false))) 4 none] fr.clear st fr k := evK_reg1 (i := 4) (by kernel_rfl) (by kernel_rfl)
noncomputable def c86_16 : Code := .ret
theorem e86_16 : evK gS fi86 c86_16 fr st k = nextK gS fi86 k .ret fr st := rfl
noncomputable def c86_14 : Code := .seq c86_15 c86_16
theorem e86_14 : evK gS fi86 c86_14 fr st k = evK gS fi86 c86_15 fr st (.seq c86_16 k) := rfl
noncomputable def c86_17 : Code := .skip
theorem e86_17 : evK gS fi86 c86_17 fr st k = nextK gS fi86 k .normal fr st := rfl
noncomputable def c86_13 : Code := .cond (.tmp 14) c86_14 c86_17
theorem e86_13 : evK gS fi86 c86_13 fr st k = condK gS fi86 (fr.op (.tmp 14)).bool? c86_14 c86_17 fr st k := rfl
noncomputable def c86_11 : Code := .seq c86_12 c86_13
theorem e86_11 : evK gS fi86 c86_11 fr st k = evK gS fi86 c86_12 fr st (.seq c86_13 k) := rfl
noncomputable def c86_19 : Code := codeAt b86 [true, true, true, false]
theorem e86_19 : evK gS fi86 c86_19 fr st k = opsK gS fi86 [(some 16), (some 17), (some 18), (some 19), (some 20), (some 15), (some 21), (some 22), (some 7), (some 8)] [mk (some 16) (.fieldAddr 99 (.tmp 3) 2) 0 none,
  mk (some 17) (.load 24 (.tmp 16)) 24 none,
  mk (some 18) (.fieldAddr 99 (.tmp 4) 2) 0 none,
  mk (some 19) (.load 24 (.tmp 18)) 24 none,
  mk (some 20) (.call { callee := (.value (.func 75)), args := #[(.tmp 17), (.tmp 19)], argTypes := #[24, 24] }) 94 none,
  mk (some 15) (.move (.tmp 20)) 94 none,
  mk (some 21) (.extract (.tmp 15) 0) 3 none,
  mk (some 22) (.extract (.tmp 15) 1) 4 none,
  mk (some 7) (.assign (.tmp 21)) 3 none,
  mk (some 8) (.assign (.tmp 22)) 4 none] fr.clear st fr k := evK_reg1 (i := 5) (by kernel_rfl) (by kernel_rfl)
noncomputable def c86_21 : Code := codeAt b86 [true, true, true, true, false]
theorem e86_21 : evK gS fi86 c86_21 fr st k = opsK gS fi86 [(some 23), (some 24), (some 25), (some 26), (some 27), (some 28), (some 29), (some 30), (some 31), (some 32), (some 33), (some 34), (some 35), (some 36), (some 37), (some 38), (some 39), (some 40), (some 41), (some 6)] [mk (some 23) (.move (.tmp 8)) 4 none,
  mk (some 24) (.move (.tmp 23)) 4 none,
  mk (some 25) (.move (.tmp 7)) 3 (some (1, true)),
  mk (some 26) (.move (.tmp 2)) 3 (some (1, true)),
  mk (some 27) (.binOp .eql 3 (.tmp 25) (.tmp 26) 3) 4 (some (1, true)),
  mk (some 28) (.move (.tmp 27)) 4 (some (1, true)),
  mk (some 29) (.move (.tmp 7)) 3 (some (5, false)),
  mk (some 30) (.binOp .eql 3 (.tmp 29) (.const (.int .i64 0)) 3) 4 (some (5, false)),
  mk (some 31) (.move (.tmp 30)) 4 (some (5, false)),
  mk (some 32) (.fieldAddr 99 (.tmp 4) 1) 0 (some (8, true)),
  mk (some 33) (.load 4 (.tmp 32)) 4 (some (8, true)),
  mk (some 34) (.unOp .not 4 (.tmp 33)) 4 (some (8, true)),
  mk (some 35) (.move (.tmp 34)) 4 (some (8, true)),
  mk (some 36) (.fieldAddr 99 (.tmp 3) 1) 0 (some (12, false)),
  mk (some 37) (.load 4 (.tmp 36)) 4 (some (12, false)),
  mk (some 38) (.pick (.tmp 35) (.const (.bool true)) (.tmp 37)) 4 (some (8, true)),
  mk (some 39) (.pick (.tmp 31) (.tmp 38) (.const (.bool false))) 4 (some (5, false)),
  mk (some 40) (.pick (.tmp 28) (.const (.bool true)) (.tmp 39)) 4 (some (1, true)),
  mk (some 41) (.pick (.tmp 24) (.tmp 40) (.const (.bool false))) 4 none,
  mk (some 6) (.assign (.tmp 41)) 4 none] fr.clear st fr k := evK_reg1 (i := 6) (by kernel_rfl) (by kernel_rfl)
noncomputable def c86_22 : Code := .ret
theorem e86_22 : evK gS fi86 c86_22 fr st k = nextK gS fi86 k .ret fr st := rfl
noncomputable def c86_20 : Code := .seq c86_21 c86_22
theorem e86_20 : evK gS fi86 c86_20 fr st k = evK gS fi86 c86_21 fr st (.seq c86_22 k) := rfl
noncomputable def c86_18 : Code := .seq c86_19 c86_20
theorem e86_18 : evK gS fi86 c86_18 fr st k = evK gS fi86 c86_19 fr st (.seq c86_20 k) := rfl
noncomputable def c86_10 : Code := .seq c86_11 c86_18
theorem e86_10 : evK gS fi86 c86_10 fr st k = evK gS fi86 c86_11 fr st (.seq c86_18 k) := rfl
noncomputable def c86_2 : Code := .seq c86_3 c86_10
theorem e86_2 : evK gS fi86 c86_2 fr st k = evK gS fi86 c86_3 fr st (.seq c86_10 k) := rfl
noncomputable def c86_0 : Code := .seq c86_1 c86_2
theorem e86_0 : evK gS fi86 c86_0 fr st k = evK gS fi86 c86_1 fr st (.seq c86_2 k) := rfl
theorem m86 : mini fi86.body = c86_0 := by kernel_rfl
set_option maxHeartbeats 4000000 in
theorem c86 (q : PEnd) (p : PEnd) (t : Int)  (st : St) : EvF gS 86 [q.encP, p.encP, .int .i64 t] st = some (.ret (.bool (within q p t)) none, st) := by
  refine EvF_start fi86_eq (fun x h => by cases h) m86 ?_
  rw [st86]
  have hm : fi86.marks = [] := rfl
  have hl : fi86.locals = [3, 4] := rfl
  have hr : fi86.results = [.tmp 6] := rfl
  simp (config := { contextual := true, maxSteps := 10000000, maxDischargeDepth := 6 }) [-Int.not_le, -Int.not_lt, -Nat.not_le, -Nat.not_lt, ty3, ty4, ty24, ty99, eq24, hm, hl, hr, k75, e86_1, e86_4, e86_7, e86_8, e86_6, e86_9, e86_5, e86_3, e86_12, e86_15, e86_16, e86_14, e86_17, e86_13, e86_11, e86_19, e86_21, e86_22, e86_20, e86_18, e86_10, e86_2, e86_0]
  all_goals try simp (config := { contextual := true }) [-Int.not_le, -Int.not_lt, -Nat.not_le, -Nat.not_lt, within]
  all_goals first | done | grind | omega | (trace_state; fail)
theorem k86 (q_is : Bool) (q_op : Bool) (q_k : Int) (q_n : Int) (q_x : Nat) (q_s : List UInt8) (q_b : Bool) (p_is : Bool) (p_op : Bool) (p_k : Int) (p_n : Int) (p_x : Nat) (p_s : List UInt8) (p_b : Bool) (t : Int)  (fr : Fr) (st : St) : callStep gS (EvF gS) 86 [.agg [.bool q_is, .bool q_op, .int .i64 q_k, .int .i64 q_n, .float .f64 q_x, .str q_s, .bool q_b], .agg [.bool p_is, .bool p_op, .int .i64 p_k, .int .i64 p_n, .float .f64 p_x, .str p_s, .bool p_b], .int .i64 t] fr st = some (.ok (retE none (.bool (within (⟨q_is, q_op, ⟨q_k, q_n, q_x, q_s, q_b⟩⟩ : PEnd) (⟨p_is, p_op, ⟨p_k, p_n, p_x, p_s, p_b⟩⟩ : PEnd) t))) fr st) :=
  call_pure rfl fi86_eq rfl (fun st => c86 (⟨q_is, q_op, ⟨q_k, q_n, q_x, q_s, q_b⟩⟩ : PEnd) (⟨p_is, p_op, ⟨p_k, p_n, p_x, p_s, p_b⟩⟩ : PEnd) t  st) (by simp)
end Go.Proofs.Ytclpbfkbpcjejaa
namespace Go.Proofs.Ytclpbfkbpcjejaa
open Go Go.Ab
set_option linter.unusedVariables false
set_option linter.unusedSimpArgs false
set_option linter.unnecessarySimpa false
set_option maxRecDepth 20000
variable (fr : Fr) (st : St) (k : Kt)
noncomputable def fi27 : FI := { body := codeOf Try.f27, ntmps := 141, results := [.tmp 4], pers := [0, 1, 2, 3, 4, 6, 7, 8, 9, 10, 11, 12, 47, 57, 58, 59, 117], locals := [2, 3, 6, 7, 8, 9, 10], pure := true, marks := [] }
theorem fi27_eq : gS.fn 27 = some fi27 := by kernel_rfl
theorem st27 (a0 a1 : V) : startFr fi27 [a0, a1] = { ps := [(0, .val a0), (1, .val a1), (2, .any), (3, .any), (4, .any), (6, .any), (7, .any), (8, .any), (9, .any), (10, .any), (11, .any), (12, .any), (47, .any), (57, .any), (58, .any), (59, .any), (117, .any)], ts := [], lc := [] } := rfl
noncomputable def b27 : Code := mini (codeOf Try.f27)
noncomputable def c27_1 : Code := codeAt b27 [false]
theorem e27_1 : evK gS fi27 c27_1 fr st k = opsK gS fi27 [(some 2), (some 3), (some 4)] [mk (some 2) (.box 27 (.tmp 0)) 0 none,
  mk (some 3) (.box 27 (.tmp 1)) 0 none,
  mk (some 4) (.assign (.const (.bool false))) 4 none] fr.clear st fr k := evK_reg1 (i := 0) (by kernel_rfl) (by kernel_rfl)
noncomputable def c27_4 : Code := codeAt b27 [true, false, false]
theorem e27_4 : evK gS fi27 c27_4 fr st k = opsK gS fi27 [(some 13), (some 14), (some 15), (some 16), (some 17), (some 18), (some 19), (some 20)] [mk (some 13) (.load 27 (.tmp 2)) 27 none,
  mk (some 14) (.call { callee := (.value (.func 19)), args := #[(.tmp 13)], argTypes := #[27] }) 4 none,
  mk (some 15) (.unOp .not 4 (.tmp 14)) 4 none,
  mk (some 16) (.move (.tmp 15)) 4 none,
  mk (some 17) (.load 27 (.tmp 3)) 27 (some (3, false)),
  mk (some 18) (.call { callee := (.value (.func 19)), args := #[(.tmp 17)], argTypes := #[27] }) 4 (some (3, false)),
  mk (some 19) (.unOp .not 4 (.tmp 18)) 4 (some (3, false)),
  mk (some 20) (.pick (.tmp 16) (.const (.bool true)) (.tmp 19)) 4 none] fr.clear st fr k := evK_reg1 (i := 1) (by kernel_rfl) (by kernel_rfl)
noncomputable def c27_7 : Code := codeAt b27 [true, false, true, false, false]
theorem e27_7 : evK gS fi27 c27_7 fr st k = opsK gS fi27 [(some 4)] [mk (some 4) (.assign (.const (.bool false))) 4 none] fr.clear st fr k := evK_reg1 (i := 2) (by kernel_rfl) (by kernel_rfl)
noncomputable def c27_8 : Code := .ret
theorem e27_8 : evK gS fi27 c27_8 fr st k = nextK gS fi27 k .ret fr st := rfl
noncomputable def c27_6 : Code := .seq c27_7 c27_8
theorem e27_6 : evK gS fi27 c27_6 fr st k = evK gS fi27 c27_7 fr st (.seq c27_8 k) := rfl
noncomputable def c27_9 : Code := .skip
theorem e27_9 : evK gS fi27 c27_9 fr st k = nextK gS fi27 k .normal fr st := rfl
noncomputable def c27_5 : Code := .cond (.tmp 20) c27_6 c27_9
theorem e27_5 : evK gS fi27 c27_5 fr st k = condK gS fi27 (fr.op (.tmp 20)).bool? c27_6 c27_9 fr st k := rfl
noncomputable def c27_3 : Code := .seq c27_4 c27_5
theorem e27_3 : evK gS fi27 c27_3 fr st k = evK gS fi27 c27_4 fr st (.seq c27_5 k) := rfl
noncomputable def c27_12 : Code := codeAt b27 [true, true, false, false]
theorem e27_12 : evK gS fi27 c27_12 fr st k = opsK gS fi27 [(some 21), (some 22), (some 23), (some 24), (some 25), (some 26), (some 27)] [mk (some 21) (.load 27 (.tmp 2)) 27 none,
  mk (some 22) (.call { callee := (.value (.func 23)), args := #[(.tmp 21)], argTypes := #[27] }) 4 none,
  mk (some 23) (.move (.tmp 22)) 4 none,
  mk (some 24) (.fieldAddr 27 (.tmp 3) 1) 0 (some (2, false)),
  mk (some 25) (.load 3 (.tmp 24)) 3 (some (2, false)),
  mk (some 26) (.binOp .eql 3 (.tmp 25) (.const (.int .i64 1)) 3) 4 (some (2, false)),
  mk (some 27) (.pick (.tmp 23) (.const (.bool true)) (.tmp 26)) 4 none] fr.clear st fr k := evK_reg1 (i := 3) (by kernel_rfl) (by kernel_rfl)
noncomputable def c27_15 : Code := codeAt b27 [true, true, false, true, false, false]
theorem e27_15 : evK gS fi27 c27_15 fr st k = opsK gS fi27 [(some 4)] [mk (some 4) (.assign (.const (.bool true))) 4 none] fr.clear st fr k := evK_reg1 (i := 4) (by kernel_rfl) (by kernel_rfl)
noncomputable def c27_16 : Code := .ret
theorem e27_16 : evK gS fi27 c27_16 fr st k = nextK gS fi27 k .ret fr st := rfl
noncomputable def c27_14 : Code := .seq c27_15 c27_16
theorem e27_14 : evK gS fi27 c27_14 fr st k = evK gS fi27 c27_15 fr st (.seq c27_16 k) := rfl
noncomputable def c27_17 : Code := .skip
theorem e27_17 : evK gS fi27 c27_17 fr st k = nextK gS fi27 k .normal fr st := rfl
noncomputable def c27_13 : Code := .cond (.tmp 27) c27_14 c27_17
theorem e27_13 : evK gS fi27 c27_13 fr st k = condK gS fi27 (fr.op (.tmp 27)).bool? c27_14 c27_17 fr st k := rfl
noncomputable def c27_11 : Code := .seq c27_12 c27_13
theorem e27_11 : evK gS fi27 c27_11 fr st k = evK gS fi27 c27_12 fr st (.seq c27_13 k) := rfl
noncomputable def c27_20 : Code := codeAt b27 [true, true, true, false, false]
theorem e27_20 : evK gS fi27 c27_20 fr st k = opsK gS fi27 [(some 28), (some 29), (some 30), (some 31), (some 32), (some 33), (some 34), (some 35), (some 36), (some 37)] [mk (some 28) (.fieldAddr 27 (.tmp 2) 1) 0 none,
  mk (some 29) (.load 3 (.tmp 28)) 3 none,
  mk (some 30) (.fieldAddr 27 (.tmp 3) 1) 0 none,
  mk (some 31) (.load 3 (.tmp 30)) 3 none,
  mk (some 32) (.binOp .eql 3 (.tmp 29) (.tmp 31) 3) 4 none,
  mk (some 33) (.move (.tmp 32)) 4 none,
  mk (some 34) (.load 27 (.tmp 2)) 27 (some (5, true)),
  mk (some 35) (.load 27 (.tmp 3)) 27 (some (5, true)),
  mk (some 36) (.call { callee := (.value (.func 84)), args := #[(.tmp 34), (.tmp 35)], argTypes := #[27, 27] }) 4 (some (5, true)),
  mk (some 37) (.pick (.tmp 33) (.tmp 36) (.const (.bool false))) 4 none] fr.clear st fr k := evK_reg1 (i := 5) (by kernel_rfl) (by kernel_rfl)
noncomputable def c27_23 : Code := codeAt b27 [true, true, true, false, true, false, false]
theorem e27_23 : evK gS fi27 c27_23 fr st k = opsK gS fi27 [(some 4)] [mk (some 4) (.assign (.const (.bool true))) 4 none] fr.clear st fr k := evK_reg1 (i := 6) (by kernel_rfl) (by kernel_rfl)
noncomputable def c27_24 : Code := .ret
theorem e27_24 : evK gS fi27 c27_24 fr st k = nextK gS fi27 k .ret fr st := rfl
noncomputable def c27_22 : Code := .seq c27_23 c27_24
theorem e27_22 : evK gS fi27 c27_22 fr st k = evK gS fi27 c27_23 fr st (.seq c27_24 k) := rfl
noncomputable def c27_25 : Code := .skip
theorem e27_25 : evK gS fi27 c27_25 fr st k = nextK gS fi27 k .normal fr st := rfl
noncomputable def c27_21 : Code := .cond (.tmp 37) c27_22 c27_25
theorem e27_21 : evK gS fi27 c27_21 fr st k = condK gS fi27 (fr.op (.tmp 37)).bool? c27_22 c27_25 fr st k := rfl
noncomputable def c27_19 : Code := .seq c27_20 c27_21
theorem e27_19 : evK gS fi27 c27_19 fr st k = evK gS fi27 c27_20 fr st (.seq c27_21 k) := rfl
noncomputable def c27_28 : Code := codeAt b27 [true, true, true, true, false, false]
theorem e27_28 : evK gS fi27 c27_28 fr st k = opsK gS fi27 [(some 38), (some 39), (some 40)] [mk (some 38) (.fieldAddr 27 (.tmp 3) 1) 0 none,
  mk (some 39) (.load 3 (.tmp 38)) 3 none,
  mk (some 40) (.binOp .eql 3 (.tmp 39) (.const (.int .i64 3)) 3) 4 none] fr.clear st fr k := evK_reg1 (i := 7) (by kernel_rfl) (by kernel_rfl)
noncomputable def c27_31 : Code := codeAt b27 [true, true, true, true, false, true, false, false]
theorem e27_31 : evK gS fi27 c27_31 fr st k = opsK gS fi27 [(some 41), (some 42), (some 43), (some 44), (some 45), (some 4)] [mk (some 41) (.load 27 (.tmp 2)) 27 none,
  mk (some 42) (.fieldAddr 27 (.tmp 3) 2) 0 none,
  mk (some 43) (.load 24 (.tmp 42)) 24 none,
  mk (some 44) (.call { callee := (.value (.func 21)), args := #[(.tmp 41), (.tmp 43)], argTypes := #[27, 24] }) 4 none,
  mk (some 45) (.unOp .not 4 (.tmp 44)) 4 none,
  mk (some 4) (.assign (.tmp 45)) 4 none] fr.clear st fr k := evK_reg1 (i := 8) (by kernel_rfl) (by kernel_rfl)
noncomputable def c27_32 : Code := .ret
theorem e27_32 : evK gS fi27 c27_32 fr st k = nextK gS fi27 k .ret fr st := rfl
noncomputable def c27_30 : Code := .seq c27_31 c27_32
theorem e27_30 : evK gS fi27 c27_30 fr st k = evK gS fi27 c27_31 fr st (.seq c27_32 k) := rfl
noncomputable def c27_33 : Code := .skip
theorem e27_33 : evK gS fi27 c27_33 fr st k = nextK gS fi27 k .normal fr st := rfl
noncomputable def c27_29 : Code := .cond (.tmp 40) c27_30 c27_33
theorem e27_29 : evK gS fi27 c27_29 fr st k = condK gS fi27 (fr.op (.tmp 40)).bool? c27_30 c27_33 fr st k := rfl
noncomputable def c27_27 : Code := .seq c27_28 c27_29
theorem e27_27 : evK gS fi27 c27_27 fr st k = evK gS fi27 c27_28 fr st (.seq c27_29 k) := rfl
noncomputable def c27_36 : Code := codeAt b27 [true, true, true, true, true, false, false]
theorem e27_36 : evK gS fi27 c27_36 fr st k = opsK gS fi27 [(some 46), (some 47)] [mk (some 46) (.fieldAddr 27 (.tmp 2) 1) 0 none,
  mk (some 47) (.load 3 (.tmp 46)) 3 none] fr.clear st fr k := evK_reg1 (i := 9) (by kernel_rfl) (by kernel_rfl)
noncomputable def c27_39 : Code := codeAt b27 [true, true, true, true, true, false, true, false, false]
theorem e27_39 : evK gS fi27 c27_39 fr st k = opsK gS fi27 [(some 49), (some 48)] [mk (some 49) (.binOp .eql 3 (.tmp 47) (.const (.int .i64 2)) 3) 4 none,
  mk (some 48) (.assign (.tmp 49)) 4 none] fr.clear st fr k := evK_reg1 (i := 10) (by kernel_rfl) (by kernel_rfl)
noncomputable def c27_42 : Code := codeAt b27 [true, true, true, true, true, false, true, false, true, false, false]
theorem e27_42 : evK gS fi27 c27_42 fr st k = opsK gS fi27 [(some 50), (some 51), (some 52), (some 53), (some 4)] [mk (some 50) (.load 27 (.tmp 3)) 27 none,
  mk (some 51) (.fieldAddr 27 (.tmp 2) 2) 0 none,
  mk (some 52) (.load 24 (.tmp 51)) 24 none,
  mk (some 53) (.call { callee := (.value (.func 21)), args := #[(.tmp 50), (.tmp 52)], argTypes := #[27, 24] }) 4 none,
  mk (some 4) (.assign (.tmp 53)) 4 none] fr.clear st fr k := evK_reg1 (i := 11) (by kernel_rfl) (by kernel_rfl)
noncomputable def c27_43 : Code := .ret
theorem e27_43 : evK gS fi27 c27_43 fr st k = nextK gS fi27 k .ret fr st := rfl
noncomputable def c27_41 : Code := .seq c27_42 c27_43
theorem e27_41 : evK gS fi27 c27_41 fr st k = evK gS fi27 c27_42 fr st (.seq c27_43 k) := rfl
noncomputable def c27_45 : Code := codeAt b27 [true, true, true, true, true, false, true, false, true, true, false]
theorem e27_45 : evK gS fi27 c27_45 fr st k = opsK gS fi27 [(some 55), (some 54)] [mk (some 55) (.binOp .eql 3 (.tmp 47) (.const (.int .i64 10)) 3) 4 none,
  mk (some 54) (.assign (.tmp 55)) 4 none] fr.clear st fr k := evK_reg1 (i := 12) (by kernel_rfl) (by kernel_rfl)
noncomputable def c27_49 : Code := codeAt b27 [true, true, true, true, true, false, true, false, true, true, true, false, false, false]
theorem e27_49 : evK gS fi27 c27_49 fr st k = opsK gS fi27 [(some 56), (some 57), (some 58), (some 59)] [mk (some 56) (.fieldAddr 27 (.tmp 2) 4) 0 none,
  mk (some 57) (.load 25 (.tmp 56)) 25 none,
  mk (some 58) (.call { callee := (.builtin .len), args := #[(.tmp 57)], argTypes := #[25] }) 3 none,
  mk (some 59) (.move (.const (.int .i64 0))) 3 none] fr.clear st fr k := evK_reg1 (i := 13) (by kernel_rfl) (by kernel_rfl)
noncomputable def c27_53 : Code := codeAt b27 [true, true, true, true, true, false, true, false, true, true, true, false, false, true, false, false, false]
theorem e27_53 : evK gS fi27 c27_53 fr st k = opsK gS fi27 [(some 60)] [mk (some 60) (.binOp .lss 3 (.tmp 59) (.tmp 58) 3) 0 none] fr.clear st fr k := evK_reg1 (i := 14) (by kernel_rfl) (by kernel_rfl)
noncomputable def c27_56 : Code := .skip
theorem e27_56 : evK gS fi27 c27_56 fr st k = nextK gS fi27 k .normal fr st := rfl
noncomputable def c27_57 : Code := .exit 1
theorem e27_57 : evK gS fi27 c27_57 fr st k = nextK gS fi27 k (.exit 1) fr st := rfl
noncomputable def c27_55 : Code := .cond (.tmp 60) c27_56 c27_57
theorem e27_55 : evK gS fi27 c27_55 fr st k = condK gS fi27 (fr.op (.tmp 60)).bool? c27_56 c27_57 fr st k := rfl
noncomputable def c27_61 : Code := codeAt b27 [true, true, true, true, true, false, true, false, true, true, true, false, false, true, false, false, true, true, false, false, false]
theorem e27_61 : evK gS fi27 c27_61 fr st k = opsK gS fi27 [(some 61), (some 62), (some 6), none] [mk (some 61) (.indexAddr 25 (.tmp 57) (.tmp 59)) 0 none,
  mk (some 62) (.load 24 (.tmp 61)) 24 none,
  mk (some 6) (.alloc 24) 0 none,
  mk none (.store 24 (.tmp 6) (.tmp 62)) 0 none] fr.clear st fr k := evK_reg1 (i := 15) (by kernel_rfl) (by kernel_rfl)
noncomputable def c27_63 : Code := codeAt b27 [true, true, true, true, true, false, true, false, true, true, true, false, false, true, false, false, true, true, false, false, true, false]
theorem e27_63 : evK gS fi27 c27_63 fr st k = opsK gS fi27 [(some 63), (some 64), (some 65), (some 66), (some 67), (some 68), (some 69), (some 70), (some 71)] [mk (some 63) (.load 24 (.tmp 6)) 24 none,
  mk (some 64) (.call { callee := (.value (.func 80)), args := #[(.tmp 63)], argTypes := #[24] }) 4 none,
  mk (some 65) (.unOp .not 4 (.tmp 64)) 4 none,
  mk (some 66) (.move (.tmp 65)) 4 none,
  mk (some 67) (.load 27 (.tmp 3)) 27 (some (3, true)),
  mk (some 68) (.load 24 (.tmp 6)) 24 (some (3, true)),
  mk (some 69) (.call { callee := (.value (.func 21)), args := #[(.tmp 67), (.tmp 68)], argTypes := #[27, 24] }) 4 (some (3, true)),
  mk (some 70) (.unOp .not 4 (.tmp 69)) 4 (some (3, true)),
  mk (some 71) (.pick (.tmp 66) (.tmp 70) (.const (.bool false))) 4 none] fr.clear st fr k := evK_reg1 (i := 16) (by kernel_rfl) (by kernel_rfl)
noncomputable def c27_66 : Code := codeAt b27 [true, true, true, true, true, false, true, false, true, true, true, false, false, true, false, false, true, true, false, false, true, true, false, false]
theorem e27_66 : evK gS fi27 c27_66 fr st k = opsK gS fi27 [(some 4)] [mk (some 4) (.assign (.const (.bool false))) 4 none] fr.clear st fr k := evK_reg1 (i := 17) (by kernel_rfl) (by kernel_rfl)
noncomputable def c27_67 : Code := .ret
theorem e27_67 : evK gS fi27 c27_67 fr st k = nextK gS fi27 k .ret fr st := rfl
noncomputable def c27_65 : Code := .seq c27_66 c27_67
theorem e27_65 : evK gS fi27 c27_65 fr st k = evK gS fi27 c27_66 fr st (.seq c27_67 k) := rfl
noncomputable def c27_68 : Code := .skip
theorem e27_68 : evK gS fi27 c27_68 fr st k = nextK gS fi27 k .normal fr st := rfl
noncomputable def c27_64 : Code := .cond (.tmp 71) c27_65 c27_68
theorem e27_64 : evK gS fi27 c27_64 fr st k = condK gS fi27 (fr.op (.tmp 71)).bool? c27_65 c27_68 fr st k := rfl
noncomputable def c27_62 : Code := .seq c27_63 c27_64
theorem e27_62 : evK gS fi27 c27_62 fr st k = evK gS fi27 c27_63 fr st (.seq c27_64 k) := rfl
noncomputable def c27_60 : Code := .seq c27_61 c27_62
theorem e27_60 : evK gS fi27 c27_60 fr st k = evK gS fi27 c27_61 fr st (.seq c27_62 k) := rfl
noncomputable def c27_59 : Code := .block 2 c27_60
theorem e27_59 : evK gS fi27 c27_59 fr st k = evK gS fi27 c27_60 fr st (.blk 2 k) := rfl
noncomputable def c27_69 : Code := codeAt b27 [true, true, true, true, true, false, true, false, true, true, true, false, false, true, false, false, true, true, true]
theorem e27_69 : evK gS fi27 c27_69 fr st k = opsK gS fi27 [(some 72), (some 59)] [mk (some 72) (.binOp .add 3 (.tmp 59) (.const (.int .i64 1)) 3) 3 none,
  mk (some 59) (.move (.tmp 72)) 3 none] fr.clear st fr k := evK_reg1 (i := 18) (by kernel_rfl) (by kernel_rfl)
noncomputable def c27_58 : Code := .seq c27_59 c27_69
theorem e27_58 : evK gS fi27 c27_58 fr st k = evK gS fi27 c27_59 fr st (.seq c27_69 k) := rfl
noncomputable def c27_54 : Code := .seq c27_55 c27_58
theorem e27_54 : evK gS fi27 c27_54 fr st k = evK gS fi27 c27_55 fr st (.seq c27_58 k) := rfl
noncomputable def c27_52 : Code := .seq c27_53 c27_54
theorem e27_52 : evK gS fi27 c27_52 fr st k = evK gS fi27 c27_53 fr st (.seq c27_54 k) := rfl
noncomputable def c27_51 : Code := .loop c27_52
noncomputable def c27_50 : Code := .block 1 c27_51
theorem e27_50 : evK gS fi27 c27_50 fr st k = evK gS fi27 c27_51 fr st (.blk 1 k) := rfl
noncomputable def c27_48 : Code := .seq c27_49 c27_50
theorem e27_48 : evK gS fi27 c27_48 fr st k = evK gS fi27 c27_49 fr st (.seq c27_50 k) := rfl
noncomputable def c27_71 : Code := codeAt b27 [true, true, true, true, true, false, true, false, true, true, true, false, true, false]
theorem e27_71 : evK gS fi27 c27_71 fr st k = opsK gS fi27 [(some 4)] [mk (some 4) (.assign (.const (.bool true))) 4 none] fr.clear st fr k := evK_reg1 (i := 19) (by kernel_rfl) (by kernel_rfl)
noncomputable def c27_72 : Code := .ret
theorem e27_72 : evK gS fi27 c27_72 fr st k = nextK gS fi27 k .ret fr st := rfl
noncomputable def c27_70 : Code := .seq c27_71 c27_72
theorem e27_70 : evK gS fi27 c27_70 fr st k = evK gS fi27 c27_71 fr st (.seq c27_72 k) := rfl
noncomputable def c27_47 : Code := .seq c27_48 c27_70
theorem e27_47 : evK gS fi27 c27_47 fr st k = evK gS fi27 c27_48 fr st (.seq c27_70 k) := rfl
noncomputable def c27_73 : Code := .skip
theorem e27_73 : evK gS fi27 c27_73 fr st k = nextK gS fi27 k .normal fr st := rfl
noncomputable def c27_46 : Code := .cond (.tmp 54) c27_47 c27_73
theorem e27_46 : evK gS fi27 c27_46 fr st k = condK gS fi27 (fr.op (.tmp 54)).bool? c27_47 c27_73 fr st k := rfl
noncomputable def c27_44 : Code := .seq c27_45 c27_46
theorem e27_44 : evK gS fi27 c27_44 fr st k = evK gS fi27 c27_45 fr st (.seq c27_46 k) := rfl
noncomputable def c27_40 : Code := .cond (.tmp 48) c27_41 c27_44
theorem e27_40 : evK gS fi27 c27_40 fr st k = condK gS fi27 (fr.op (.tmp 48)).bool? c27_41 c27_44 fr st k := rfl
noncomputable def c27_38 : Code := .seq c27_39 c27_40
theorem e27_38 : evK gS fi27 c27_38 fr st k = evK gS fi27 c27_39 fr st (.seq c27_40 k) := rfl
noncomputable def c27_37 : Code := .block 0 c27_38
theorem e27_37 : evK gS fi27 c27_37 fr st k = evK gS fi27 c27_38 fr st (.blk 0 k) := rfl
noncomputable def c27_35 : Code := .seq c27_36 c27_37
theorem e27_35 : evK gS fi27 c27_35 fr st k = evK gS fi27 c27_36 fr st (.seq c27_37 k) := rfl
noncomputable def c27_75 : Code := codeAt b27 [true, true, true, true, true, true, false]
theorem e27_75 : evK gS fi27 c27_75 fr st k = opsK gS fi27 [(some 74), (some 75), (some 73), (some 76), (some 77), (some 7), (some 8), none, none] [mk (some 74) (.load 27 (.tmp 2)) 27 none,
  mk (some 75) (.call { callee := (.value (.func 85)), args := #[(.tmp 74)], argTypes := #[27] }) 100 none,
  mk (some 73) (.move (.tmp 75)) 100 none,
  mk (some 76) (.extract (.tmp 73) 0) 99 none,
  mk (some 77) (.extract (.tmp 73) 1) 99 none,
  mk (some 7) (.alloc 99) 0 none,
  mk (some 8) (.alloc 99) 0 none,
  mk none (.store 99 (.tmp 7) (.tmp 76)) 0 none,
  mk none (.store 99 (.tmp 8) (.tmp 77)) 0 none] fr.clear st fr k := evK_reg1 (i := 20) (by kernel_rfl) (by kernel_rfl)
noncomputable def c27_77 : Code := codeAt b27 [true, true, true, true, true, true, true, false]
theorem e27_77 : evK gS fi27 c27_77 fr st k = opsK gS fi27 [(some 79), (some 80), (some 78), (some 81), (some 82), (some 9), (some 10), none, none] [mk (some 79) (.load 27 (.tmp 3)) 27 none,
  mk (some 80) (.call { callee := (.value (.func 85)), args := #[(.tmp 79)], argTypes := #[27] }) 100 none,
  mk (some 78) (.move (.tmp 80)) 100 none,
  mk (some 81) (.extract (.tmp 78) 0) 99 none,
  mk (some 82) (.extract (.tmp 78) 1) 99 none,
  mk (some 9) (.alloc 99) 0 none,
  mk (some 10) (.alloc 99) 0 none,
  mk none (.store 99 (.tmp 9) (.tmp 81)) 0 none,
  mk none (.store 99 (.tmp 10) (.tmp 82)) 0 none] fr.clear st fr k := evK_reg1 (i := 21) (by kernel_rfl) (by kernel_rfl)
noncomputable def c27_80 : Code := codeAt b27 [true, true, true, true, true, true, true, true, false, false]
theorem e27_80 : evK gS fi27 c27_80 fr st k = opsK gS fi27 [(some 83), (some 84), (some 85), (some 86), (some 87), (some 88), (some 89), (some 90), (some 91), (some 92), (some 93), (some 94), (some 95), (some 96)] [mk (some 83) (.fieldAddr 99 (.tmp 7) 0) 0 none,
  mk (some 84) (.load 4 (.tmp 83)) 4 none,
  mk (some 85) (.move (.tmp 84)) 4 none,
  mk (some 86) (.fieldAddr 99 (.tmp 8) 0) 0 (some (2, false)),
  mk (some 87) (.load 4 (.tmp 86)) 4 (some (2, false)),
  mk (some 88) (.pick (.tmp 85) (.const (.bool true)) (.tmp 87)) 4 none,
  mk (some 89) (.move (.tmp 88)) 4 none,
  mk (some 90) (.fieldAddr 99 (.tmp 9) 0) 0 (some (6, true)),
  mk (some 91) (.load 4 (.tmp 90)) 4 (some (6, true)),
  mk (some 92) (.move (.tmp 91)) 4 (some (6, true)),
  mk (some 93) (.fieldAddr 99 (.tmp 10) 0) 0 (some (9, false)),
  mk (some 94) (.load 4 (.tmp 93)) 4 (some (9, false)),
  mk (some 95) (.pick (.tmp 92) (.const (.bool true)) (.tmp 94)) 4 (some (6, true)),
  mk (some 96) (.pick (.tmp 89) (.tmp 95) (.const (.bool false))) 4 none] fr.clear st fr k := evK_reg1 (i := 22) (by kernel_rfl) (by kernel_rfl)
noncomputable def c27_83 : Code := codeAt b27 [true, true, true, true, true, true, true, true, false, true, false, false]
theorem e27_83 : evK gS fi27 c27_83 fr st k = opsK gS fi27 [(some 97), (some 98), (some 99), (some 100), (some 101), (some 102), (some 103), (some 104), (some 4)] [mk (some 97) (.load 99 (.tmp 7)) 99 none,
  mk (some 98) (.load 99 (.tmp 9)) 99 none,
  mk (some 99) (.call { callee := (.value (.func 86)), args := #[(.tmp 97), (.tmp 98), (.const (.int .i64 1))], argTypes := #[99, 99, 3] }) 4 none,
  mk (some 100) (.move (.tmp 99)) 4 none,
  mk (some 101) (.load 99 (.tmp 8)) 99 (some (3, true)),
  mk (some 102) (.load 99 (.tmp 10)) 99 (some (3, true)),
  mk (some 103) (.call { callee := (.value (.func 86)), args := #[(.tmp 101), (.tmp 102), (.const (.int .i64 (-1)))], argTypes := #[99, 99, 3] }) 4 (some (3, true)),
  mk (some 104) (.pick (.tmp 100) (.tmp 103) (.const (.bool false))) 4 none,
  mk (some 4) (.assign (.tmp 104)) 4 none] fr.clear st fr k := evK_reg1 (i := 23) (by kernel_rfl) (by kernel_rfl)
noncomputable def c27_84 : Code := .ret
theorem e27_84 : evK gS fi27 c27_84 fr st k = nextK gS fi27 k .ret fr st := rfl
noncomputable def c27_82 : Code := .seq c27_83 c27_84
theorem e27_82 : evK gS fi27 c27_82 fr st k = evK gS fi27 c27_83 fr st (.seq c27_84 k) := rfl
noncomputable def c27_85 : Code := .skip
theorem e27_85 : evK gS fi27 c27_85 fr st k = nextK gS fi27 k .normal fr st := rfl
noncomputable def c27_81 : Code := .cond (.tmp 96) c27_82 c27_85
theorem e27_81 : evK gS fi27 c27_81 fr st k = condK gS fi27 (fr.op (.tmp 96)).bool? c27_82 c27_85 fr st k := rfl
noncomputable def c27_79 : Code := .seq c27_80 c27_81
theorem e27_79 : evK gS fi27 c27_79 fr st k = evK gS fi27 c27_80 fr st (.seq c27_81 k) := rfl
noncomputable def c27_88 : Code := codeAt b27 [true, true, true, true, true, true, true, true, true, false, false]
theorem e27_88 : evK gS fi27 c27_88 fr st k = opsK gS fi27 [(some 105), (some 106), (some 107)] [mk (some 105) (.fieldAddr 27 (.tmp 2) 1) 0 none,
  mk (some 106) (.load 3 (.tmp 105)) 3 none,
  mk (some 107) (.binOp .neq 3 (.tmp 106) (.const (.int .i64 9)) 3) 4 none] fr.clear st fr k := evK_reg1 (i := 24) (by kernel_rfl) (by kernel_rfl)
noncomputable def c27_91 : Code := codeAt b27 [true, true, true, true, true, true, true, true, true, false, true, false, false]
theorem e27_91 : evK gS fi27 c27_91 fr st k = opsK gS fi27 [(some 4)] [mk (some 4) (.assign (.const (.bool false))) 4 none] fr.clear st fr k := evK_reg1 (i := 25) (by kernel_rfl) (by kernel_rfl)
noncomputable def c27_92 : Code := .ret
theorem e27_92 : evK gS fi27 c27_92 fr st k = nextK gS fi27 k .ret fr st := rfl
noncomputable def c27_90 : Code := .seq c27_91 c27_92
theorem e27_90 : evK gS fi27 c27_90 fr st k = evK gS fi27 c27_91 fr st (.seq c27_92 k) := rfl
noncomputable def c27_93 : Code := .skip
theorem e27_93 : evK gS fi27 c27_93 fr st k = nextK gS fi27 k .normal fr st := rfl
noncomputable def c27_89 : Code := .cond (.tmp 107) c27_90 c27_93
theorem e27_89 : evK gS fi27 c27_89 fr st k = condK gS fi27 (fr.op (.tmp 107)).bool? c27_90 c27_93 fr st k := rfl
noncomputable def c27_87 : Code := .seq c27_88 c27_89
theorem e27_87 : evK gS fi27 c27_87 fr st k = evK gS fi27 c27_88 fr st (.seq c27_89 k) := rfl
noncomputable def c27_95 : Code := codeAt b27 [true, true, true, true, true, true, true, true, true, true, false]
theorem e27_95 : evK gS fi27 c27_95 fr st k = opsK gS fi27 [(some 109), (some 110), (some 111), (some 112), (some 113), (some 108), (some 114), (some 115), (some 11), (some 12)] [mk (some 109) (.fieldAddr 27 (.tmp 2) 2) 0 none,
  mk (some 110) (.load 24 (.tmp 109)) 24 none,
  mk (some 111) (.fieldAddr 27 (.tmp 3) 2) 0 none,
  mk (some 112) (.load 24 (.tmp 111)) 24 none,
  mk (some 113) (.call { callee := (.value (.func 75)), args := #[(.tmp 110), (.tmp 112)], argTypes := #[24, 24] }) 94 none,
  mk (some 108) (.move (.tmp 113)) 94 none,
  mk (some 114) (.extract (.tmp 108) 0) 3 none,
  mk (some 115) (.extract (.tmp 108) 1) 4 none,
  mk (some 11) (.assign (.tmp 114)) 3 none,
  mk (some 12) (.assign (.tmp 115)) 4 none] fr.clear st fr k := evK_reg1 (i := 26) (by kernel_rfl) (by kernel_rfl)
noncomputable def c27_98 : Code := codeAt b27 [true, true, true, true, true, true, true, true, true, true, true, false, false]
theorem e27_98 : evK gS fi27 c27_98 fr st k = opsK gS fi27 [(some 116), (some 117)] [mk (some 116) (.fieldAddr 27 (.tmp 3) 1) 0 none,
  mk (some 117) (.load 3 (.tmp 116)) 3 none] fr.clear st fr k := evK_reg1 (i := 27) (by kernel_rfl) (by kernel_rfl)
noncomputable def c27_101 : Code := codeAt b27 [true, true, true, true, true, true, true, true, true, true, true, false, true, false, false]
theorem e27_101 : evK gS fi27 c27_101 fr st k = opsK gS fi27 [(some 119), (some 118)] [mk (some 119) (.binOp .eql 3 (.tmp 117) (.const (.int .i64 9)) 3) 4 none,
  mk (some 118) (.assign (.tmp 119)) 4 none] fr.clear st fr k := evK_reg1 (i := 28) (by kernel_rfl) (by kernel_rfl)
noncomputable def c27_104 : Code := codeAt b27 [true, true, true, true, true, true, true, true, true, true, true, false, true, false, true, false, false]
theorem e27_104 : evK gS fi27 c27_104 fr st k = opsK gS fi27 [(some 120), (some 121), (some 122), (some 123), (some 124), (some 125), (some 126), (some 4)] [mk (some 120) (.fieldAddr 27 (.tmp 2) 2) 0 none,
  mk (some 121) (.fieldAddr 24 (.tmp 120) 3) 0 none,
  mk (some 122) (.load 9 (.tmp 121)) 9 none,
  mk (some 123) (.fieldAddr 27 (.tmp 3) 2) 0 none,
  mk (some 124) (.fieldAddr 24 (.tmp 123) 3) 0 none,
  mk (some 125) (.load 9 (.tmp 124)) 9 none,
  mk (some 126) (.call { callee := (.value (.func 76)), args := #[(.tmp 122), (.tmp 125)], argTypes := #[9, 9] }) 4 none,
  mk (some 4) (.assign (.tmp 126)) 4 none] fr.clear st fr k := evK_reg1 (i := 29) (by kernel_rfl) (by kernel_rfl)
noncomputable def c27_105 : Code := .ret
theorem e27_105 : evK gS fi27 c27_105 fr st k = nextK gS fi27 k .ret fr st := rfl
noncomputable def c27_103 : Code := .seq c27_104 c27_105
theorem e27_103 : evK gS fi27 c27_103 fr st k = evK gS fi27 c27_104 fr st (.seq c27_105 k) := rfl
noncomputable def c27_107 : Code := codeAt b27 [true, true, true, true, true, true, true, true, true, true, true, false, true, false, true, true, false]
theorem e27_107 : evK gS fi27 c27_107 fr st k = opsK gS fi27 [(some 128), (some 127)] [mk (some 128) (.binOp .eql 3 (.tmp 117) (.const (.int .i64 7)) 3) 4 none,
  mk (some 127) (.assign (.tmp 128)) 4 none] fr.clear st fr k := evK_reg1 (i := 30) (by kernel_rfl) (by kernel_rfl)
noncomputable def c27_110 : Code := codeAt b27 [true, true, true, true, true, true, true, true, true, true, true, false, true, false, true, true, true, false, false]
theorem e27_110 : evK gS fi27 c27_110 fr st k = opsK gS fi27 [(some 129), (some 130), (some 131), (some 132), (some 133), (some 4)] [mk (some 129) (.move (.tmp 12)) 4 none,
  mk (some 130) (.move (.tmp 129)) 4 none,
  mk (some 131) (.move (.tmp 11)) 3 (some (1, true)),
  mk (some 132) (.binOp .geq 3 (.tmp 131) (.const (.int .i64 0)) 3) 4 (some (1, true)),
  mk (some 133) (.pick (.tmp 130) (.tmp 132) (.const (.bool false))) 4 none,
  mk (some 4) (.assign (.tmp 133)) 4 none] fr.clear st fr k := evK_reg1 (i := 31) (by kernel_rfl) (by kernel_rfl)
noncomputable def c27_111 : Code := .ret
theorem e27_111 : evK gS fi27 c27_111 fr st k = nextK gS fi27 k .ret fr st := rfl
noncomputable def c27_109 : Code := .seq c27_110 c27_111
theorem e27_109 : evK gS fi27 c27_109 fr st k = evK gS fi27 c27_110 fr st (.seq c27_111 k) := rfl
noncomputable def c27_113 : Code := codeAt b27 [true, true, true, true, true, true, true, true, true, true, true, false, true, false, true, true, true, true, false]
theorem e27_113 : evK gS fi27 c27_113 fr st k = opsK gS fi27 [(some 135), (some 134)] [mk (some 135) (.binOp .eql 3 (.tmp 117) (.const (.int .i64 6)) 3) 4 none,
  mk (some 134) (.assign (.tmp 135)) 4 none] fr.clear st fr k := evK_reg1 (i := 32) (by kernel_rfl) (by kernel_rfl)
noncomputable def c27_116 : Code := codeAt b27 [true, true, true, true, true, true, true, true, true, true, true, false, true, false, true, true, true, true, true, false, false]
theorem e27_116 : evK gS fi27 c27_116 fr st k = opsK gS fi27 [(some 136), (some 137), (some 138), (some 139), (some 140), (some 4)] [mk (some 136) (.move (.tmp 12)) 4 none,
  mk (some 137) (.move (.tmp 136)) 4 none,
  mk (some 138) (.move (.tmp 11)) 3 (some (1, true)),
  mk (some 139) (.binOp .gtr 3 (.tmp 138) (.const (.int .i64 0)) 3) 4 (some (1, true)),
  mk (some 140) (.pick (.tmp 137) (.tmp 139) (.const (.bool false))) 4 none,
  mk (some 4) (.assign (.tmp 140)) 4 none] fr.clear st fr k := evK_reg1 (i := 33) (by kernel_rfl) (by kernel_rfl)
noncomputable def c27_117 : Code := .ret
theorem e27_117 : evK gS fi27 c27_117 fr st k = nextK gS fi27 k .ret fr st := rfl
noncomputable def c27_115 : Code := .seq c27_116 c27_117
theorem e27_115 : evK gS fi27 c27_115 fr st k = evK gS fi27 c27_116 fr st (.seq c27_117 k) := rfl
noncomputable def c27_118 : Code := .skip
theorem e27_118 : evK gS fi27 c27_118 fr st k = nextK gS fi27 k .normal fr st := rfl
noncomputable def c27_114 : Code := .cond (.tmp 134) c27_115 c27_118
theorem e27_114 : evK gS fi27 c27_114 fr st k = condK gS fi27 (fr.op (.tmp 134)).bool? c27_115 c27_118 fr st k := rfl
noncomputable def c27_112 : Code := .seq c27_113 c27_114
theorem e27_112 : evK gS fi27 c27_112 fr st k = evK gS fi27 c27_113 fr st (.seq c27_114 k) := rfl
noncomputable def c27_108 : Code := .cond (.tmp 127) c27_109 c27_112
theorem e27_108 : evK gS fi27 c27_108 fr st k = condK gS fi27 (fr.op (.tmp 127)).bool? c27_109 c27_112 fr st k := rfl
noncomputable def c27_106 : Code := .seq c27_107 c27_108
theorem e27_106 : evK gS fi27 c27_106 fr st k = evK gS fi27 c27_107 fr st (.seq c27_108 k) := rfl
noncomputable def c27_102 : Code := .cond (.tmp 118) c27_103 c27_106
theorem e27_102 : evK gS fi27 c27_102 fr st k = condK gS fi27 (fr.op (.tmp 118)).bool? c27_103 c27_106 fr st k := rfl
noncomputable def c27_100 : Code := .seq c27_101 c27_102
theorem e27_100 : evK gS fi27 c27_100 fr st k = evK gS fi27 c27_101 fr st (.seq c27_102 k) := rfl
noncomputable def c27_99 : Code := .block 3 c27_100
theorem e27_99 : evK gS fi27 c27_99 fr st k = evK gS fi27 c27_100 fr st (.blk 3 k) := rfl
noncomputable def c27_97 : Code := .seq c27_98 c27_99
theorem e27_97 : evK gS fi27 c27_97 fr st k = evK gS fi27 c27_98 fr st (.seq c27_99 k) := rfl
noncomputable def c27_120 : Code := codeAt b27 [true, true, true, true, true, true, true, true, true, true, true, true, false]
theorem e27_120 : evK gS fi27 c27_120 fr st k = opsK gS fi27 [(some 4)] [mk (some 4) (.assign (.const (.bool false))) 4 none] fr.clear st fr k := evK_reg1 (i := 34) (by kernel_rfl) (by kernel_rfl)
noncomputable def c27_121 : Code := .ret
theorem e27_121 : evK gS fi27 c27_121 fr st k = nextK gS fi27 k .ret fr st := rfl
noncomputable def c27_119 : Code := .seq c27_120 c27_121
theorem e27_119 : evK gS fi27 c27_119 fr st k = evK gS fi27 c27_120 fr st (.seq c27_121 k) := rfl
noncomputable def c27_96 : Code := .seq c27_97 c27_119
theorem e27_96 : evK gS fi27 c27_96 fr st k = evK gS fi27 c27_97 fr st (.seq c27_119 k) := rfl
noncomputable def c27_94 : Code := .seq c27_95 c27_96
theorem e27_94 : evK gS fi27 c27_94 fr st k = evK gS fi27 c27_95 fr st (.seq c27_96 k) := rfl
noncomputable def c27_86 : Code := .seq c27_87 c27_94
theorem e27_86 : evK gS fi27 c27_86 fr st k = evK gS fi27 c27_87 fr st (.seq c27_94 k) := rfl
noncomputable def c27_78 : Code := .seq c27_79 c27_86
theorem e27_78 : evK gS fi27 c27_78 fr st k = evK gS fi27 c27_79 fr st (.seq c27_86 k) := rfl
noncomputable def c27_76 : Code := .seq c27_77 c27_78
theorem e27_76 : evK gS fi27 c27_76 fr st k = evK gS fi27 c27_77 fr st (.seq c27_78 k) := rfl
noncomputable def c27_74 : Code := .seq c27_75 c27_76
theorem e27_74 : evK gS fi27 c27_74 fr st k = evK gS fi27 c27_75 fr st (.seq c27_76 k) := rfl
noncomputable def c27_34 : Code := .seq c27_35 c27_74
theorem e27_34 : evK gS fi27 c27_34 fr st k = evK gS fi27 c27_35 fr st (.seq c27_74 k) := rfl
noncomputable def c27_26 : Code := .seq c27_27 c27_34
theorem e27_26 : evK gS fi27 c27_26 fr st k = evK gS fi27 c27_27 fr st (.seq c27_34 k) := rfl
noncomputable def c27_18 : Code := .seq c27_19 c27_26
theorem e27_18 : evK gS fi27 c27_18 fr st k = evK gS fi27 c27_19 fr st (.seq c27_26 k) := rfl
noncomputable def c27_10 : Code := .seq c27_11 c27_18
theorem e27_10 : evK gS fi27 c27_10 fr st k = evK gS fi27 c27_11 fr st (.seq c27_18 k) := rfl
noncomputable def c27_2 : Code := .seq c27_3 c27_10
theorem e27_2 : evK gS fi27 c27_2 fr st k = evK gS fi27 c27_3 fr st (.seq c27_10 k) := rfl
noncomputable def c27_0 : Code := .seq c27_1 c27_2
theorem e27_0 : evK gS fi27 c27_0 fr st k = evK gS fi27 c27_1 fr st (.seq c27_2 k) := rfl
theorem m27 : mini fi27.body = c27_0 := by kernel_rfl
theorem n27_51 (fr : Fr) (st : St) (k : Kt) : nextK gS fi27 (.loop c27_52 k) .normal fr st = evK gS fi27 c27_51 fr st k := rfl
set_option maxHeartbeats 4000000 in
theorem L27_51 (q : Pred) (p : Pred) (h_q : q.ok) (h_p : p.ok) (st : St) : ∀ (n i : Nat) (j : Int)  (e0 e1 e2 e4 e6 e7 e8 e9 e10 e11 e12 e47 e117 : E) (T : List (Nat × E)) (X : List (Nat × List V)) (ht0 : e0.Tame) (ht1 : e1.Tame) (ht2 : e2.Tame) (ht4 : e4.Tame) (ht6 : e6.Tame) (ht7 : e7.Tame) (ht8 : e8.Tame) (ht9 : e9.Tame) (ht10 : e10.Tame) (ht11 : e11.Tame) (ht12 : e12.Tame) (ht47 : e47.Tame) (ht117 : e117.Tame) (hx3 : lk X 3 = some [.str p.name, .int .i64 p.test, .int .i64 p.v.kind, .int .i64 p.v.n, .float .f64 p.v.x, .str p.v.s, .bool p.v.b, .int .i64 p.w.kind, .int .i64 p.w.n, .float .f64 p.w.x, .str p.w.s, .bool p.w.b, .slice (encVals p.set)]) , j = (i : Int) → i ≤ (q.set).length → (q.set).length - i = n →
    evK gS fi27 c27_51 { ps := [(0, e0), (1, e1), (2, e2), (3, .lp 3 0), (4, e4), (6, e6), (7, e7), (8, e8), (9, e9), (10, e10), (11, e11), (12, e12), (47, e47), (57, .val (.slice (encVals q.set))), (58, .val (.int .i64 q.set.length)), (59, .val (.int .i64 j)), (117, e117)], ts := T, lc := X } st (.blk 1 (.seq c27_70 (.blk 0 (.seq c27_74 .nil)))) = some ((.ret (.bool ((q.set.drop i).all (fun v => vnan v || ptakes p v))) none), st) := by
  intro n
  have hm : fi27.marks = [] := rfl
  have hl : fi27.locals = [2, 3, 6, 7, 8, 9, 10] := rfl
  have hr : fi27.results = [.tmp 4] := rfl
  have hpo := h_q.2
  induction n with
  | zero =>
    intro i j  e0 e1 e2 e4 e6 e7 e8 e9 e10 e11 e12 e47 e117 T X ht0 ht1 ht2 ht4 ht6 ht7 ht8 ht9 ht10 ht11 ht12 ht47 ht117 hx3  hj hi hn
    obtain rfl : i = (q.set).length := by omega
    subst hj
    refine evK_loop c27_52 _ st _ _ rfl ?_
    simp (config := { contextual := true, maxSteps := 10000000, maxDischargeDepth := 6 }) [-Int.not_le, -Int.not_lt, -Nat.not_le, -Nat.not_lt, ty3, ty4, ty9, ty24, ty25, ty27, ty99, eq24, hm, hl, hr, k19, k21, k23, k75, k76, k80, k84, k85, k86, e27_1, e27_4, e27_7, e27_8, e27_6, e27_9, e27_5, e27_3, e27_12, e27_15, e27_16, e27_14, e27_17, e27_13, e27_11, e27_20, e27_23, e27_24, e27_22, e27_25, e27_21, e27_19, e27_28, e27_31, e27_32, e27_30, e27_33, e27_29, e27_27, e27_36, e27_39, e27_42, e27_43, e27_41, e27_45, e27_49, e27_53, e27_56, e27_57, e27_55, e27_61, e27_63, e27_66, e27_67, e27_65, e27_68, e27_64, e27_62, e27_60, e27_59, e27_69, e27_58, e27_54, e27_52, e27_50, e27_48, e27_71, e27_72, e27_70, e27_47, e27_73, e27_46, e27_44, e27_40, e27_38, e27_37, e27_35, e27_75, e27_77, e27_80, e27_83, e27_84, e27_82, e27_85, e27_81, e27_79, e27_88, e27_91, e27_92, e27_90, e27_93, e27_89, e27_87, e27_95, e27_98, e27_101, e27_104, e27_105, e27_103, e27_107, e27_110, e27_111, e27_109, e27_113, e27_116, e27_117, e27_115, e27_118, e27_114, e27_112, e27_108, e27_106, e27_102, e27_100, e27_99, e27_97, e27_120, e27_121, e27_119, e27_96, e27_94, e27_86, e27_78, e27_76, e27_74, e27_34, e27_26, e27_18, e27_10, e27_2, e27_0, n27_51, h_q.1, h_q.2, h_p.1, h_p.2, ht0, ht1, ht2, ht4, ht6, ht7, ht8, ht9, ht10, ht11, ht12, ht47, ht117, hx3]
    all_goals first | done | grind | omega | (trace_state; fail)
  | succ n ih =>
    intro i j  e0 e1 e2 e4 e6 e7 e8 e9 e10 e11 e12 e47 e117 T X ht0 ht1 ht2 ht4 ht6 ht7 ht8 ht9 ht10 ht11 ht12 ht47 ht117 hx3  hj hi hn
    subst hj
    obtain ⟨x, hx⟩ : ∃ x, (q.set)[i]? = some x := ⟨(q.set)[i]'(by omega), List.getElem?_eq_getElem (by omega)⟩
    have hd := drop_get hx
    have hlt : (i : Int) < ((q.set).length : Int) := by omega
    have hlt2 : i < (q.set).length := by omega
    have hxe : (q.set)[i]'hlt2 = x := by rw [List.getElem?_eq_getElem hlt2] at hx; exact Option.some.inj hx
    have hw : IntKind.wrap .i64 ((i : Int) + 1) = (i : Int) + 1 := wrap64 (by omega) (by omega)
    have IH := fun e0 e1 e2 e4 e6 e7 e8 e9 e10 e11 e12 e47 e117 T X ht0 ht1 ht2 ht4 ht6 ht7 ht8 ht9 ht10 ht11 ht12 ht47 ht117 hx3 => ih (i + 1) ((i : Int) + 1) e0 e1 e2 e4 e6 e7 e8 e9 e10 e11 e12 e47 e117 T X ht0 ht1 ht2 ht4 ht6 ht7 ht8 ht9 ht10 ht11 ht12 ht47 ht117 hx3 rfl (by omega) (by omega)
    refine evK_loop c27_52 _ st _ _ rfl ?_
    simp (config := { contextual := true, maxSteps := 10000000, maxDischargeDepth := 6 }) [-Int.not_le, -Int.not_lt, -Nat.not_le, -Nat.not_lt, ty3, ty4, ty9, ty24, ty25, ty27, ty99, eq24, hm, hl, hr, k19, k21, k23, k75, k76, k80, k84, k85, k86, e27_1, e27_4, e27_7, e27_8, e27_6, e27_9, e27_5, e27_3, e27_12, e27_15, e27_16, e27_14, e27_17, e27_13, e27_11, e27_20, e27_23, e27_24, e27_22, e27_25, e27_21, e27_19, e27_28, e27_31, e27_32, e27_30, e27_33, e27_29, e27_27, e27_36, e27_39, e27_42, e27_43, e27_41, e27_45, e27_49, e27_53, e27_56, e27_57, e27_55, e27_61, e27_63, e27_66, e27_67, e27_65, e27_68, e27_64, e27_62, e27_60, e27_59, e27_69, e27_58, e27_54, e27_52, e27_50, e27_48, e27_71, e27_72, e27_70, e27_47, e27_73, e27_46, e27_44, e27_40, e27_38, e27_37, e27_35, e27_75, e27_77, e27_80, e27_83, e27_84, e27_82, e27_85, e27_81, e27_79, e27_88, e27_91, e27_92, e27_90, e27_93, e27_89, e27_87, e27_95, e27_98, e27_101, e27_104, e27_105, e27_103, e27_107, e27_110, e27_111, e27_109, e27_113, e27_116, e27_117, e27_115, e27_118, e27_114, e27_112, e27_108, e27_106, e27_102, e27_100, e27_99, e27_97, e27_120, e27_121, e27_119, e27_96, e27_94, e27_86, e27_78, e27_76, e27_74, e27_34, e27_26, e27_18, e27_10, e27_2, e27_0, n27_51, h_q.1, h_q.2, h_p.1, h_p.2, ht0, ht1, ht2, ht4, ht6, ht7, ht8, ht9, ht10, ht11, ht12, ht47, ht117, hx3, hx, hxe, hd, hlt, hlt2, hw, IH]
    all_goals first | done | grind | omega | (trace_state; fail)
set_option maxHeartbeats 4000000 in
theorem c27 (q : Pred) (p : Pred)  (h_q : Pred.ok q) (h_p : Pred.ok p) (st : St) : EvF gS 27 [q.enc, p.enc] st = some (.ret (.bool (pimplies q p)) none, st) := by
  refine EvF_start fi27_eq (fun x h => by cases h) m27 ?_
  rw [st27]
  have hm : fi27.marks = [] := rfl
  have hl : fi27.locals = [2, 3, 6, 7, 8, 9, 10] := rfl
  have hr : fi27.results = [.tmp 4] := rfl
  simp (config := { contextual := true, maxSteps := 10000000, maxDischargeDepth := 6 }) [-Int.not_le, -Int.not_lt, -Nat.not_le, -Nat.not_lt, ty3, ty4, ty9, ty24, ty25, ty27, ty99, eq24, hm, hl, hr, k19, k21, k23, k75, k76, k80, k84, k85, k86, e27_1, e27_4, e27_7, e27_8, e27_6, e27_9, e27_5, e27_3, e27_12, e27_15, e27_16, e27_14, e27_17, e27_13, e27_11, e27_20, e27_23, e27_24, e27_22, e27_25, e27_21, e27_19, e27_28, e27_31, e27_32, e27_30, e27_33, e27_29, e27_27, e27_36, e27_39, e27_42, e27_43, e27_41, e27_45, e27_49, e27_53, e27_56, e27_57, e27_55, e27_61, e27_63, e27_66, e27_67, e27_65, e27_68, e27_64, e27_62, e27_60, e27_59, e27_69, e27_58, e27_54, e27_52, e27_50, e27_48, e27_71, e27_72, e27_70, e27_47, e27_73, e27_46, e27_44, e27_40, e27_38, e27_37, e27_35, e27_75, e27_77, e27_80, e27_83, e27_84, e27_82, e27_85, e27_81, e27_79, e27_88, e27_91, e27_92, e27_90, e27_93, e27_89, e27_87, e27_95, e27_98, e27_101, e27_104, e27_105, e27_103, e27_107, e27_110, e27_111, e27_109, e27_113, e27_116, e27_117, e27_115, e27_118, e27_114, e27_112, e27_108, e27_106, e27_102, e27_100, e27_99, e27_97, e27_120, e27_121, e27_119, e27_96, e27_94, e27_86, e27_78, e27_76, e27_74, e27_34, e27_26, e27_18, e27_10, e27_2, e27_0, n27_51, -ib_eql, -ib_neq, ib_eqlO, ib_neqO, (fun e0 e1 e2 e4 e6 e7 e8 e9 e10 e11 e12 e47 e117 T X ht0 ht1 ht2 ht4 ht6 ht7 ht8 ht9 ht10 ht11 ht12 ht47 ht117 hx3 => L27_51 q p h_q h_p st _ 0 0  e0 e1 e2 e4 e6 e7 e8 e9 e10 e11 e12 e47 e117 T X ht0 ht1 ht2 ht4 ht6 ht7 ht8 ht9 ht10 ht11 ht12 ht47 ht117 hx3 rfl (Nat.zero_le _) rfl), h_q.1, h_q.2, h_p.1, h_p.2]
  all_goals try simp (config := { contextual := true }) [-Int.not_le, -Int.not_lt, -Nat.not_le, -Nat.not_lt, ieq, pimplies, within]
  all_goals (generalize sames q.set p.set = b3; generalize vsame q.v p.v = b1; generalize vsame q.w p.w = b2; generalize ptakes q p.v = b4; generalize ptakes p q.v = b5)
  all_goals (cases b1 <;> cases b2 <;> cases b3 <;> simp (config := { contextual := true }) <;> grind)
theorem k27 (q_name : List UInt8) (q_test : Int) (q_vk : Int) (q_vn : Int) (q_vx : Nat) (q_vs : List UInt8) (q_vb : Bool) (q_wk : Int) (q_wn : Int) (q_wx : Nat) (q_ws : List UInt8) (q_wb : Bool) (q_set : List Val) (p_name : List UInt8) (p_test : Int) (p_vk : Int) (p_vn : Int) (p_vx : Nat) (p_vs : List UInt8) (p_vb : Bool) (p_wk : Int) (p_wn : Int) (p_wx : Nat) (p_ws : List UInt8) (p_wb : Bool) (p_set : List Val)  (h_q : Pred.ok (⟨q_name, q_test, ⟨q_vk, q_vn, q_vx, q_vs, q_vb⟩, ⟨q_wk, q_wn, q_wx, q_ws, q_wb⟩, q_set⟩ : Pred)) (h_p : Pred.ok (⟨p_name, p_test, ⟨p_vk, p_vn, p_vx, p_vs, p_vb⟩, ⟨p_wk, p_wn, p_wx, p_ws, p_wb⟩, p_set⟩ : Pred)) (fr : Fr) (st : St) : callStep gS (EvF gS) 27 [.agg [.str q_name, .int .i64 q_test, .int .i64 q_vk, .int .i64 q_vn, .float .f64 q_vx, .str q_vs, .bool q_vb, .int .i64 q_wk, .int .i64 q_wn, .float .f64 q_wx, .str q_ws, .bool q_wb, .slice (encVals q_set)], .agg [.str p_name, .int .i64 p_test, .int .i64 p_vk, .int .i64 p_vn, .float .f64 p_vx, .str p_vs, .bool p_vb, .int .i64 p_wk, .int .i64 p_wn, .float .f64 p_wx, .str p_ws, .bool p_wb, .slice (encVals p_set)]] fr st = some (.ok (retE none (.bool (pimplies (⟨q_name, q_test, ⟨q_vk, q_vn, q_vx, q_vs, q_vb⟩, ⟨q_wk, q_wn, q_wx, q_ws, q_wb⟩, q_set⟩ : Pred) (⟨p_name, p_test, ⟨p_vk, p_vn, p_vx, p_vs, p_vb⟩, ⟨p_wk, p_wn, p_wx, p_ws, p_wb⟩, p_set⟩ : Pred)))) fr st) :=
  call_pure rfl fi27_eq rfl (fun st => c27 (⟨q_name, q_test, ⟨q_vk, q_vn, q_vx, q_vs, q_vb⟩, ⟨q_wk, q_wn, q_wx, q_ws, q_wb⟩, q_set⟩ : Pred) (⟨p_name, p_test, ⟨p_vk, p_vn, p_vx, p_vs, p_vb⟩, ⟨p_wk, p_wn, p_wx, p_ws, p_wb⟩, p_set⟩ : Pred) h_q h_p st) (by simp)
end Go.Proofs.Ytclpbfkbpcjejaa
namespace Go.Ab
open Go
set_option linter.unusedVariables false
set_option linter.unusedSimpArgs false
set_option linter.unnecessarySimpa false
def intVs (l : List Int) : List V := l.map (V.int .i64)
theorem intVs_length (l : List Int) : (intVs l).length = l.length := by simp [intVs]
theorem intVs_get (l : List Int) (i : Nat) : (intVs l)[i]? = (l[i]?).map (V.int .i64) := by simp [intVs]
theorem intVs_gE (l : List Int) (i : Nat) (h : i < (intVs l).length) : (intVs l)[i]'h = .int .i64 (l[i]'(by rw [intVs_length] at h; exact h)) := by simp [intVs]
theorem flats_ints (l : List Int) : flats (intVs l) = true := by
  induction l with
  | nil => rfl
  | cons x r ih => simp only [intVs, List.map_cons, flats, V.flat] at ih ⊢; exact ih
attribute [simp] intVs_length intVs_get intVs_gE flats_ints
def pickI (n m : Int) : Int := if m < 1 then 0 else if n.tmod m < 0 then n.tmod m + m else n.tmod m
theorem tmod_bound (n : Int) {m : Int} (h : 1 ≤ m) : -m < n.tmod m ∧ n.tmod m < m := by
  have b1 := Int.tmod_lt_of_pos n (by omega : 0 < m)
  refine ⟨?_, b1⟩
  rcases Int.lt_or_le n 0 with hk | hk
  · have : n.tmod m = -((-n).tmod m) := by rw [Int.neg_tmod]; omega
    have := Int.tmod_lt_of_pos (-n) (by omega : 0 < m)
    omega
  · have := Int.tmod_nonneg m hk; omega
theorem pickI_bound (n : Int) {m : Int} (h : 1 ≤ m) : 0 ≤ pickI n m ∧ pickI n m < m := by
  have := tmod_bound n h
  unfold pickI
  rw [if_neg (by omega)]
  split <;> omega
/-- The feed's memory. -/
def FeedAt (st : St) (id : Nat) (l : List Int) (a : Nat) : Prop := st.objs[id]? = some [.slice (intVs l), .int .i64 a] ∧ st.wp ≤ id
def setF (st : St) (id : Nat) (l : List Int) (a : Nat) : St := { st with objs := st.objs.set id [.slice (intVs l), .int .i64 a] }
theorem FeedAt.lt {st : St} {id : Nat} {l : List Int} {a : Nat} (h : FeedAt st id l a) : id < st.objs.length := (List.getElem?_eq_some_iff.1 h.1).1
theorem setF_setF (st : St) (id : Nat) (l : List Int) (a b : Nat) : setF (setF st id l a) id l b = setF st id l b := by
  unfold setF; simp
theorem setF_same {st : St} {id : Nat} {l : List Int} {a : Nat} (h : FeedAt st id l a) : setF st id l a = st := by
  unfold setF
  obtain ⟨os, wp⟩ := st
  have h1 : os[id]? = some [.slice (intVs l), .int .i64 a] := h.1
  have h2 : id < os.length := h.lt
  congr 1
  show os.set id _ = os
  apply List.ext_getElem?
  intro j
  rw [List.getElem?_set]
  split
  · rename_i hj; subst hj; rw [h1]
  · rfl
/-- The raw number at a place. -/
def rawAt (l : List Int) (a : Nat) : Int := IntKind.wrap .i64 (IntKind.wrap .i64 ((l.getD (a % l.length) 0).tdiv (1 + (a / l.length : Nat))) + (a / l.length : Nat))
def nextV (l : List Int) (a : Nat) (n : Int) : Int := if l = [] then 0 else pickI (rawAt l a) n
def nextA (l : List Int) (a : Nat) : Nat := if l = [] then a else a + 1
theorem nextV_bound (l : List Int) (a : Nat) {n : Int} (h : 1 ≤ n) : 0 ≤ nextV l a n ∧ nextV l a n < n := by
  unfold nextV; split
  · omega
  · exact pickI_bound _ h
/-- Where a feed stands when it was asked `j` times. -/
def nA (l : List Int) (a j : Nat) : Nat := if l = [] then a else a + j
theorem nA_next (l : List Int) (a j : Nat) : nextA l (nA l a j) = nA l a (j + 1) := by
  unfold nextA nA; split <;> omega
theorem nA_le (l : List Int) (a j : Nat) : nA l a j ≤ a + j := by unfold nA; split <;> omega
def FeedOk (st : St) (id : Nat) : Prop := id < st.objs.length ∧ st.wp ≤ id
theorem feed_at {st : St} {id : Nat} (h : FeedOk st id) (l : List Int) (b : Nat) : FeedAt (setF st id l b) id l b := by
  refine ⟨?_, h.2⟩
  show (st.objs.set id _)[id]? = _
  rw [List.getElem?_set_self h.1]
/-- What a feed yields that was asked `j` times. -/
def fd (l : List Int) (a j : Nat) (n : Int) : Int := nextV l (nA l a j) n
theorem fd_bound (l : List Int) (a j : Nat) {n : Int} (h : 1 ≤ n) : 0 ≤ fd l a j n ∧ fd l a j n < n := nextV_bound _ _ h
def F14 : List Nat := [0, 9223372036854775808, 4607182418800017408, 4609434218613702656, 4611686018427387904, 4613937818241073152, 13830554455654793216, 4591870180066957722, 9221120237041090561, 9218868437227405312, 18442240474082181120, 4845873199050653696, 4890909195324358656, 1]
def floatV (l : List Int) (a j : Nat) : Nat := F14.getD (fd l a j 14).toNat 0
def T6 : List (List UInt8) := [[], [97], [97, 98], [98], [98, 97], [116, 119, 101, 108, 118, 101, 32, 98, 121, 116, 101, 115]]
def N6 : List Int := [-9223372036854775808, 9223372036854775807, 9007199254740992, 9007199254740993, -1, 4611686018427387904]
/-- A right value: of two asks. -/
def valueV (l : List Int) (a j : Nat) : Val :=
  let z := fd l a j 8
  if z = 0 ∨ z = 1 then ⟨2, 0, floatV l a (j + 1), [], false⟩
  else if z = 2 then ⟨3, 0, 0, T6.getD (fd l a (j + 1) 6).toNat [], false⟩
  else if z = 3 then ⟨4, 0, 0, [], fd l a (j + 1) 2 = 1⟩
  else if z = 4 then ⟨1, N6.getD (fd l a (j + 1) 6).toNat 0, 0, [], false⟩
  else ⟨1, fd l a (j + 1) 5, 0, [], false⟩
/-- So many values, one behind the other. -/
def valsV (l : List Int) (a : Nat) : Nat → Nat → List Val
  | _, 0 => []
  | j, k + 1 => valueV l a j :: valsV l a (j + 2) k
def P4 : List (List UInt8) := [[], [97], [98], [97, 98]]
/-- A right test of a name, and how many asks it took. -/
def predV (l : List Int) (a j : Nat) (name : List UInt8) : Pred × Nat :=
  let t := 1 + fd l a j 10
  if t = 1 then (⟨name, 1, vzero, vzero, []⟩, 1)
  else if t = 9 then (⟨name, 9, ⟨3, 0, 0, P4.getD (fd l a (j + 1) 4).toNat [], false⟩, vzero, []⟩, 2)
  else if t = 10 then (⟨name, 10, vzero, vzero, valsV l a (j + 2) ((fd l a (j + 1) 4).toNat + 1)⟩, 2 + 2 * ((fd l a (j + 1) 4).toNat + 1))
  else if t = 8 then (⟨name, 8, valueV l a (j + 1), valueV l a (j + 3), []⟩, 5)
  else (⟨name, t, valueV l a (j + 1), vzero, []⟩, 3)
end Go.Ab
namespace Go.Proofs.Ytclpbfkbpcjejaa
open Go Go.Ab
set_option linter.unusedVariables false
set_option linter.unusedSimpArgs false
set_option linter.unnecessarySimpa false
set_option maxRecDepth 20000
variable (fr : Fr) (st : St) (k : Kt)
noncomputable def fi52 : FI := { body := codeOf Try.f52, ntmps := 17, results := [.tmp 4], pers := [0, 1, 4, 5], locals := [], pure := true, marks := [] }
theorem fi52_eq : gS.fn 52 = some fi52 := by kernel_rfl
theorem st52 (a0 a1 : V) : startFr fi52 [a0, a1] = { ps := [(0, .val a0), (1, .val a1), (4, .any), (5, .any)], ts := [], lc := [] } := rfl
noncomputable def b52 : Code := mini (codeOf Try.f52)
noncomputable def c52_1 : Code := codeAt b52 [false]
theorem e52_1 : evK gS fi52 c52_1 fr st k = opsK gS fi52 [(some 4)] [mk (some 4) (.assign (.const (.int .i64 0))) 3 none] fr.clear st fr k := evK_reg1 (i := 0) (by kernel_rfl) (by kernel_rfl)
noncomputable def c52_4 : Code := codeAt b52 [true, false, false]
theorem e52_4 : evK gS fi52 c52_4 fr st k = opsK gS fi52 [(some 6), (some 7)] [mk (some 6) (.move (.tmp 1)) 3 none,
  mk (some 7) (.binOp .lss 3 (.tmp 6) (.const (.int .i64 1)) 3) 4 none] fr.clear st fr k := evK_reg1 (i := 1) (by kernel_rfl) (by kernel_rfl)
noncomputable def c52_7 : Code := codeAt b52 [true, false, true, false, false]
theorem e52_7 : evK gS fi52 c52_7 fr st k = opsK gS fi52 [(some 4)] [mk (some 4) (.assign (.const (.int .i64 0))) 3 none] fr.clear st fr k := evK_reg1 (i := 2) (by kernel_rfl) (by kernel_rfl)
noncomputable def c52_8 : Code := .ret
theorem e52_8 : evK gS fi52 c52_8 fr st k = nextK gS fi52 k .ret fr st := rfl
noncomputable def c52_6 : Code := .seq c52_7 c52_8
theorem e52_6 : evK gS fi52 c52_6 fr st k = evK gS fi52 c52_7 fr st (.seq c52_8 k) := rfl
noncomputable def c52_9 : Code := .skip
theorem e52_9 : evK gS fi52 c52_9 fr st k = nextK gS fi52 k .normal fr st := rfl
noncomputable def c52_5 : Code := .cond (.tmp 7) c52_6 c52_9
theorem e52_5 : evK gS fi52 c52_5 fr st k = condK gS fi52 (fr.op (.tmp 7)).bool? c52_6 c52_9 fr st k := rfl
noncomputable def c52_3 : Code := .seq c52_4 c52_5
theorem e52_3 : evK gS fi52 c52_3 fr st k = evK gS fi52 c52_4 fr st (.seq c52_5 k) := rfl
noncomputable def c52_11 : Code := codeAt b52 [true, true, false]
theorem e52_11 : evK gS fi52 c52_11 fr st k = opsK gS fi52 [(some 8), (some 9), (some 10), (some 5)] [mk (some 8) (.move (.tmp 0)) 3 none,
  mk (some 9) (.move (.tmp 1)) 3 none,
  mk (some 10) (.binOp .rem 3 (.tmp 8) (.tmp 9) 3) 3 none,
  mk (some 5) (.assign (.tmp 10)) 3 none] fr.clear st fr k := evK_reg1 (i := 3) (by kernel_rfl) (by kernel_rfl)
noncomputable def c52_14 : Code := codeAt b52 [true, true, true, false, false]
theorem e52_14 : evK gS fi52 c52_14 fr st k = opsK gS fi52 [(some 11), (some 12)] [mk (some 11) (.move (.tmp 5)) 3 none,
  mk (some 12) (.binOp .lss 3 (.tmp 11) (.const (.int .i64 0)) 3) 4 none] fr.clear st fr k := evK_reg1 (i := 4) (by kernel_rfl) (by kernel_rfl)
noncomputable def c52_16 : Code := codeAt b52 [true, true, true, false, true, false]
theorem e52_16 : evK gS fi52 c52_16 fr st k = opsK gS fi52 [(some 13), (some 14), (some 15), (some 5)] [mk (some 13) (.move (.tmp 5)) 3 none,
  mk (some 14) (.move (.tmp 1)) 3 none,
  mk (some 15) (.binOp .add 3 (.tmp 13) (.tmp 14) 3) 3 none,
  mk (some 5) (.assign (.tmp 15)) 3 none] fr.clear st fr k := evK_reg1 (i := 5) (by kernel_rfl) (by kernel_rfl)
noncomputable def c52_17 : Code := .skip
theorem e52_17 : evK gS fi52 c52_17 fr st k = nextK gS fi52 k .normal fr st := rfl
noncomputable def c52_15 : Code := .cond (.tmp 12) c52_16 c52_17
theorem e52_15 : evK gS fi52 c52_15 fr st k = condK gS fi52 (fr.op (.tmp 12)).bool? c52_16 c52_17 fr st k := rfl
noncomputable def c52_13 : Code := .seq c52_14 c52_15
theorem e52_13 : evK gS fi52 c52_13 fr st k = evK gS fi52 c52_14 fr st (.seq c52_15 k) := rfl
noncomputable def c52_19 : Code := codeAt b52 [true, true, true, true, false]
theorem e52_19 : evK gS fi52 c52_19 fr st k = opsK gS fi52 [(some 16), (some 4)] [mk (some 16) (.move (.tmp 5)) 3 none,
  mk (some 4) (.assign (.tmp 16)) 3 none] fr.clear st fr k := evK_reg1 (i := 6) (by kernel_rfl) (by kernel_rfl)
noncomputable def c52_20 : Code := .ret
theorem e52_20 : evK gS fi52 c52_20 fr st k = nextK gS fi52 k .ret fr st := rfl
noncomputable def c52_18 : Code := .seq c52_19 c52_20
theorem e52_18 : evK gS fi52 c52_18 fr st k = evK gS fi52 c52_19 fr st (.seq c52_20 k) := rfl
noncomputable def c52_12 : Code := .seq c52_13 c52_18
theorem e52_12 : evK gS fi52 c52_12 fr st k = evK gS fi52 c52_13 fr st (.seq c52_18 k) := rfl
noncomputable def c52_10 : Code := .seq c52_11 c52_12
theorem e52_10 : evK gS fi52 c52_10 fr st k = evK gS fi52 c52_11 fr st (.seq c52_12 k) := rfl
noncomputable def c52_2 : Code := .seq c52_3 c52_10
theorem e52_2 : evK gS fi52 c52_2 fr st k = evK gS fi52 c52_3 fr st (.seq c52_10 k) := rfl
noncomputable def c52_0 : Code := .seq c52_1 c52_2
theorem e52_0 : evK gS fi52 c52_0 fr st k = evK gS fi52 c52_1 fr st (.seq c52_2 k) := rfl
theorem m52 : mini fi52.body = c52_0 := by kernel_rfl
set_option maxHeartbeats 4000000 in
theorem c52 (n : Int) (m : Int) (hm1 : m ≤ 4611686018427387904) (st : St) : EvF gS 52 [.int .i64 n, .int .i64 m] st = some (.ret (.int .i64 (pickI n m)) none, st) := by
  refine EvF_start fi52_eq (fun x h => by cases h) m52 ?_
  rw [st52]
  have hm : fi52.marks = [] := rfl
  have hl : fi52.locals = [] := rfl
  have hr : fi52.results = [.tmp 4] := rfl
  by_cases h1 : m < 1
  · simp [h1, pickI, -Int.not_le, -Int.not_lt, -Nat.not_le, -Nat.not_lt, ty3, ty4, hm, hl, hr, e52_1, e52_4, e52_7, e52_8, e52_6, e52_9, e52_5, e52_3, e52_11, e52_14, e52_16, e52_17, e52_15, e52_13, e52_19, e52_20, e52_18, e52_12, e52_10, e52_2, e52_0]
  · have h0 : ¬ m = 0 := by omega
    have hb := tmod_bound n (m := m) (by omega)
    by_cases h2 : n.tmod m < 0
    · have hw : IntKind.wrap .i64 (n.tmod m + m) = n.tmod m + m := wrap64 (by omega) (by omega)
      simp [h1, h0, h2, hw, pickI, -Int.not_le, -Int.not_lt, -Nat.not_le, -Nat.not_lt, ty3, ty4, hm, hl, hr, e52_1, e52_4, e52_7, e52_8, e52_6, e52_9, e52_5, e52_3, e52_11, e52_14, e52_16, e52_17, e52_15, e52_13, e52_19, e52_20, e52_18, e52_12, e52_10, e52_2, e52_0]
    · simp [h1, h0, h2, pickI, -Int.not_le, -Int.not_lt, -Nat.not_le, -Nat.not_lt, ty3, ty4, hm, hl, hr, e52_1, e52_4, e52_7, e52_8, e52_6, e52_9, e52_5, e52_3, e52_11, e52_14, e52_16, e52_17, e52_15, e52_13, e52_19, e52_20, e52_18, e52_12, e52_10, e52_2, e52_0]
theorem k52 (n : Int) (m : Int) (hm1 : m ≤ 4611686018427387904) (fr : Fr) (st : St) : callStep gS (EvF gS) 52 [.int .i64 n, .int .i64 m] fr st = some (.ok (retE none (.int .i64 (pickI n m))) fr st) :=
  call_pure rfl fi52_eq rfl (fun st => c52 n m hm1 st) (by simp)
theorem x52 : gS.ext 52 = none := rfl
theorem p52 : fi52.pure = true := rfl
noncomputable def fi16 : FI := { body := codeOf Try.f16, ntmps := 61, results := [.tmp 4], pers := [0, 1, 4, 5], locals := [], pure := false, marks := [] }
theorem fi16_eq : gS.fn 16 = some fi16 := by kernel_rfl
theorem st16 (a0 a1 : V) : startFr fi16 [a0, a1] = { ps := [(0, .val a0), (1, .val a1), (4, .any), (5, .any)], ts := [], lc := [] } := rfl
noncomputable def b16 : Code := mini (codeOf Try.f16)
noncomputable def c16_1 : Code := codeAt b16 [false]
theorem e16_1 : evK gS fi16 c16_1 fr st k = opsK gS fi16 [(some 4)] [mk (some 4) (.assign (.const (.int .i64 0))) 3 none] fr.clear st fr k := evK_reg1 (i := 0) (by kernel_rfl) (by kernel_rfl)
noncomputable def c16_4 : Code := codeAt b16 [true, false, false]
theorem e16_4 : evK gS fi16 c16_4 fr st k = opsK gS fi16 [(some 6), (some 7), (some 8), (some 9), (some 10), (some 11)] [mk (some 6) (.move (.tmp 0)) 29 none,
  mk (some 7) (.nilCheck (.tmp 6)) 0 none,
  mk (some 8) (.fieldAddr 31 (.tmp 7) 0) 0 none,
  mk (some 9) (.load 28 (.tmp 8)) 28 none,
  mk (some 10) (.call { callee := (.builtin .len), args := #[(.tmp 9)], argTypes := #[28] }) 3 none,
  mk (some 11) (.binOp .eql 3 (.tmp 10) (.const (.int .i64 0)) 3) 4 none] fr.clear st fr k := evK_reg1 (i := 1) (by kernel_rfl) (by kernel_rfl)
noncomputable def c16_7 : Code := codeAt b16 [true, false, true, false, false]
theorem e16_7 : evK gS fi16 c16_7 fr st k = opsK gS fi16 [(some 4)] [mk (some 4) (.assign (.const (.int .i64 0))) 3 none] fr.clear st fr k := evK_reg1 (i := 2) (by kernel_rfl) (by kernel_rfl)
noncomputable def c16_8 : Code := .ret
theorem e16_8 : evK gS fi16 c16_8 fr st k = nextK gS fi16 k .ret fr st := rfl
noncomputable def c16_6 : Code := .seq c16_7 c16_8
theorem e16_6 : evK gS fi16 c16_6 fr st k = evK gS fi16 c16_7 fr st (.seq c16_8 k) := rfl
noncomputable def c16_9 : Code := .skip
theorem e16_9 : evK gS fi16 c16_9 fr st k = nextK gS fi16 k .normal fr st := rfl
noncomputable def c16_5 : Code := .cond (.tmp 11) c16_6 c16_9
theorem e16_5 : evK gS fi16 c16_5 fr st k = condK gS fi16 (fr.op (.tmp 11)).bool? c16_6 c16_9 fr st k := rfl
noncomputable def c16_3 : Code := .seq c16_4 c16_5
theorem e16_3 : evK gS fi16 c16_3 fr st k = evK gS fi16 c16_4 fr st (.seq c16_5 k) := rfl
noncomputable def r16_11 : Array Oper := regOps (codeAt (codeOf Try.f16) [true, true, false])
noncomputable def c16_11 : Code := .region 3 r16_11 true
noncomputable def q16_11 : List (Oper × Fl) := [(mk (some 12) (.move (.tmp 0)) 29 none, ⟨true, false, true, false, false, false, true, true, false, false, []⟩),
  (mk (some 13) (.nilCheck (.tmp 12)) 0 none, ⟨true, false, true, false, false, false, true, true, false, false, []⟩),
  (mk (some 14) (.fieldAddr 31 (.tmp 13) 0) 0 none, ⟨true, false, true, false, false, false, true, true, false, false, []⟩),
  (mk (some 15) (.load 28 (.tmp 14)) 28 none, ⟨true, false, true, false, false, false, true, true, false, false, []⟩),
  (mk (some 16) (.move (.tmp 0)) 29 none, ⟨true, false, true, false, false, false, true, true, false, false, []⟩),
  (mk (some 17) (.nilCheck (.tmp 16)) 0 none, ⟨true, false, true, false, false, false, true, true, false, false, []⟩),
  (mk (some 18) (.fieldAddr 31 (.tmp 17) 1) 0 none, ⟨true, false, true, false, false, false, true, true, false, false, []⟩),
  (mk (some 19) (.load 3 (.tmp 18)) 3 none, ⟨true, false, true, false, false, false, true, true, false, false, []⟩),
  (mk (some 20) (.move (.tmp 0)) 29 none, ⟨true, false, true, false, false, false, true, true, false, false, []⟩),
  (mk (some 21) (.nilCheck (.tmp 20)) 0 none, ⟨true, false, true, false, false, false, true, true, false, false, []⟩),
  (mk (some 22) (.fieldAddr 31 (.tmp 21) 0) 0 none, ⟨true, false, true, false, false, false, true, true, false, false, []⟩),
  (mk (some 23) (.load 28 (.tmp 22)) 28 none, ⟨true, false, true, false, false, false, true, true, false, false, []⟩),
  (mk (some 24) (.call { callee := (.builtin .len), args := #[(.tmp 23)], argTypes := #[28] }) 3 none, ⟨true, false, true, false, false, false, true, true, false, false, []⟩),
  (mk (some 25) (.binOp .rem 3 (.tmp 19) (.tmp 24) 3) 3 none, ⟨true, false, true, false, false, false, true, true, false, false, []⟩),
  (mk (some 26) (.indexAddr 28 (.tmp 15) (.tmp 25)) 0 none, ⟨true, false, true, false, false, false, true, true, false, false, []⟩),
  (mk (some 27) (.load 3 (.tmp 26)) 3 none, ⟨true, false, true, false, false, false, true, true, false, false, []⟩),
  (mk (some 28) (.move (.tmp 0)) 29 none, ⟨true, false, true, false, false, false, true, true, false, false, []⟩),
  (mk (some 29) (.nilCheck (.tmp 28)) 0 none, ⟨true, false, true, false, false, false, true, true, false, false, []⟩),
  (mk (some 30) (.fieldAddr 31 (.tmp 29) 1) 0 none, ⟨true, false, true, false, false, false, true, true, false, false, []⟩),
  (mk (some 31) (.load 3 (.tmp 30)) 3 none, ⟨true, false, true, false, false, false, true, true, false, false, []⟩),
  (mk (some 32) (.move (.tmp 0)) 29 none, ⟨true, false, true, false, false, false, true, true, false, false, []⟩),
  (mk (some 33) (.nilCheck (.tmp 32)) 0 none, ⟨true, false, true, false, false, false, true, true, false, false, []⟩),
  (mk (some 34) (.fieldAddr 31 (.tmp 33) 0) 0 none, ⟨true, false, true, false, false, false, true, true, false, false, []⟩),
  (mk (some 35) (.load 28 (.tmp 34)) 28 none, ⟨true, false, true, false, false, false, true, true, false, false, []⟩),
  (mk (some 36) (.call { callee := (.builtin .len), args := #[(.tmp 35)], argTypes := #[28] }) 3 none, ⟨true, false, true, false, false, false, true, true, false, false, []⟩),
  (mk (some 37) (.binOp .quo 3 (.tmp 31) (.tmp 36) 3) 3 none, ⟨true, false, true, false, false, false, true, true, false, false, []⟩),
  (mk (some 38) (.binOp .add 3 (.const (.int .i64 1)) (.tmp 37) 3) 3 none, ⟨true, false, true, false, false, false, true, true, false, false, []⟩),
  (mk (some 39) (.binOp .quo 3 (.tmp 27) (.tmp 38) 3) 3 none, ⟨true, false, true, false, false, false, true, true, false, false, []⟩),
  (mk (some 40) (.move (.tmp 0)) 29 none, ⟨true, false, true, false, false, false, true, true, false, false, []⟩),
  (mk (some 41) (.nilCheck (.tmp 40)) 0 none, ⟨true, false, true, false, false, false, true, true, false, false, []⟩),
  (mk (some 42) (.fieldAddr 31 (.tmp 41) 1) 0 none, ⟨true, false, true, false, false, false, true, true, false, false, []⟩),
  (mk (some 43) (.load 3 (.tmp 42)) 3 none, ⟨true, false, true, false, false, false, true, true, false, false, []⟩),
  (mk (some 44) (.move (.tmp 0)) 29 none, ⟨true, false, true, false, false, false, true, true, false, false, []⟩),
  (mk (some 45) (.nilCheck (.tmp 44)) 0 none, ⟨true, false, true, false, false, false, true, true, false, false, []⟩),
  (mk (some 46) (.fieldAddr 31 (.tmp 45) 0) 0 none, ⟨true, false, true, false, true, false, true, true, false, false, []⟩),
  (mk (some 47) (.load 28 (.tmp 46)) 28 none, ⟨true, false, true, false, true, false, true, true, false, false, []⟩),
  (mk (some 48) (.call { callee := (.builtin .len), args := #[(.tmp 47)], argTypes := #[28] }) 3 none, ⟨true, false, true, false, true, false, true, true, false, false, []⟩),
  (mk (some 49) (.binOp .quo 3 (.tmp 43) (.tmp 48) 3) 3 none, ⟨true, false, true, false, true, false, true, true, false, false, []⟩),
  (mk (some 50) (.binOp .add 3 (.tmp 39) (.tmp 49) 3) 3 none, ⟨true, false, true, false, true, false, true, true, false, false, []⟩),
  (mk (some 5) (.assign (.tmp 50)) 3 none, ⟨true, true, true, false, true, false, true, true, false, false, []⟩)]
theorem e16_11 : evK gS fi16 c16_11 fr st k = drwK gS fi16 r16_11 [(some 12), (some 13), (some 14), (some 15), (some 16), (some 17), (some 18), (some 19), (some 20), (some 21), (some 22), (some 23), (some 24), (some 25), (some 26), (some 27), (some 28), (some 29), (some 30), (some 31), (some 32), (some 33), (some 34), (some 35), (some 36), (some 37), (some 38), (some 39), (some 40), (some 41), (some 42), (some 43), (some 44), (some 45), (some 46), (some 47), (some 48), (some 49), (some 50), (some 5)] q16_11 0 fr.clear st fr k := by
  rw [evK_draw (g := gS) (fi := fi16) (c := c16_11) 3 r16_11 q16_11 fr st k rfl (by kernel_rfl) (by kernel_rfl), show r16_11.toList.map (·.dst) = [(some 12), (some 13), (some 14), (some 15), (some 16), (some 17), (some 18), (some 19), (some 20), (some 21), (some 22), (some 23), (some 24), (some 25), (some 26), (some 27), (some 28), (some 29), (some 30), (some 31), (some 32), (some 33), (some 34), (some 35), (some 36), (some 37), (some 38), (some 39), (some 40), (some 41), (some 42), (some 43), (some 44), (some 45), (some 46), (some 47), (some 48), (some 49), (some 50), (some 5)] from by kernel_rfl]
noncomputable def c16_13 : Code := codeAt b16 [true, true, true, false]
theorem e16_13 : evK gS fi16 c16_13 fr st k = opsK gS fi16 [(some 51), (some 52), (some 53), (some 54), (some 55), (some 56), (some 57), none] [mk (some 51) (.move (.tmp 0)) 29 none,
  mk (some 52) (.nilCheck (.tmp 51)) 0 none,
  mk (some 53) (.fieldAddr 31 (.tmp 52) 1) 0 none,
  mk (some 54) (.load 3 (.tmp 53)) 3 none,
  mk (some 55) (.binOp .add 3 (.tmp 54) (.const (.int .i64 1)) 3) 3 none,
  mk (some 56) (.nilCheck (.tmp 51)) 0 none,
  mk (some 57) (.fieldAddr 31 (.tmp 56) 1) 0 none,
  mk none (.store 3 (.tmp 57) (.tmp 55)) 0 none] fr.clear st fr k := evK_reg1 (i := 4) (by kernel_rfl) (by kernel_rfl)
noncomputable def c16_15 : Code := codeAt b16 [true, true, true, true, false]
theorem e16_15 : evK gS fi16 c16_15 fr st k = opsK gS fi16 [(some 58), (some 59), (some 60), (some 4)] [mk (some 58) (.move (.tmp 5)) 3 none,
  mk (some 59) (.move (.tmp 1)) 3 none,
  mk (some 60) (.call { callee := (.value (.func 52)), args := #[(.tmp 58), (.tmp 59)], argTypes := #[3, 3] }) 3 none,
  mk (some 4) (.assign (.tmp 60)) 3 none] fr.clear st fr k := evK_reg1 (i := 5) (by kernel_rfl) (by kernel_rfl)
noncomputable def c16_16 : Code := .ret
theorem e16_16 : evK gS fi16 c16_16 fr st k = nextK gS fi16 k .ret fr st := rfl
noncomputable def c16_14 : Code := .seq c16_15 c16_16
theorem e16_14 : evK gS fi16 c16_14 fr st k = evK gS fi16 c16_15 fr st (.seq c16_16 k) := rfl
noncomputable def c16_12 : Code := .seq c16_13 c16_14
theorem e16_12 : evK gS fi16 c16_12 fr st k = evK gS fi16 c16_13 fr st (.seq c16_14 k) := rfl
noncomputable def c16_10 : Code := .seq c16_11 c16_12
theorem e16_10 : evK gS fi16 c16_10 fr st k = evK gS fi16 c16_11 fr st (.seq c16_12 k) := rfl
noncomputable def c16_2 : Code := .seq c16_3 c16_10
theorem e16_2 : evK gS fi16 c16_2 fr st k = evK gS fi16 c16_3 fr st (.seq c16_10 k) := rfl
noncomputable def c16_0 : Code := .seq c16_1 c16_2
theorem e16_0 : evK gS fi16 c16_0 fr st k = evK gS fi16 c16_1 fr st (.seq c16_2 k) := rfl
theorem m16 : mini fi16.body = c16_0 := by kernel_rfl
set_option maxHeartbeats 8000000 in
theorem c16 (l : List Int) (a id : Nat) (n : Int) (st : St) (h : FeedAt st id l a) (ha : a < 1099511627776) (hn : n ≤ 4611686018427387904) :
    EvF gS 16 [.ptr id 0, .int .i64 n] st = some (.ret (.int .i64 (nextV l a n)) none, setF st id l (nextA l a)) := by
  refine EvF_start fi16_eq (fun x h => by cases h) m16 ?_
  rw [st16]
  have hm : fi16.marks = [] := rfl
  have hl : fi16.locals = [] := rfl
  have hr : fi16.results = [.tmp 4] := rfl
  have ho := h.1
  have hwp : ¬ id < st.wp := by have := h.2; omega
  have hwp2 : st.wp ≤ id := h.2
  have hid := h.lt
  by_cases hne : l = []
  · subst hne
    have hs : setF st id [] a = st := setF_same h
    simp [nextV, nextA, hs, ho, -Int.not_le, -Int.not_lt, -Nat.not_le, -Nat.not_lt, ty3, ty4, ty28, ty29, ty31, hm, hl, hr, k52, x52, fi52_eq, p52, e16_1, e16_4, e16_7, e16_8, e16_6, e16_9, e16_5, e16_3, e16_11, q16_11, e16_13, e16_15, e16_16, e16_14, e16_12, e16_10, e16_2, e16_0]
  · have hlen : 0 < l.length := by cases l with | nil => exact (hne rfl).elim | cons _ _ => simp
    have e0 : ¬ (l.length : Int) = 0 := by omega
    have e1 : ((a : Nat) : Int).tmod (l.length : Int) = ((a % l.length : Nat) : Int) := by rw [Int.tmod_eq_emod_of_nonneg (by omega)]; omega
    have e2 : ((a : Nat) : Int).tdiv (l.length : Int) = ((a / l.length : Nat) : Int) := by rw [Int.tdiv_eq_ediv_of_nonneg (by omega)]; omega
    have e3 := Nat.mod_lt a hlen
    have e4 : a / l.length ≤ a := Nat.div_le_self _ _
    have hx : l[a % l.length]? = some (l.getD (a % l.length) 0) := by
      rw [List.getElem?_eq_getElem e3, List.getD_eq_getElem?_getD, List.getElem?_eq_getElem e3]; rfl
    have ea : IntKind.wrap .i64 ((a : Int) + 1) = (a : Int) + 1 := wrap64 (by omega) (by omega)
    have hxe : l[a % l.length]'e3 = l.getD (a % l.length) 0 := by rw [List.getElem?_eq_getElem e3] at hx; exact Option.some.inj hx
    simp only [nextV, nextA, hne, if_false, rawAt]
    generalize l.getD (a % l.length) 0 = x at *
    generalize a % l.length = rr at *
    generalize a / l.length = qq at *
    have e5 : IntKind.wrap .i64 (qq : Int) = (qq : Int) := wrap64 (by omega) (by omega)
    have e6 : IntKind.wrap .i64 (1 + (qq : Int)) = 1 + (qq : Int) := wrap64 (by omega) (by omega)
    have e7 : ¬ (1 + (qq : Int)) = 0 := by omega
    simp [-Int.natCast_emod, -Int.natCast_ediv, setF, ho, hne, e0, e1, e2, e3, e5, e6, e7, hx, hxe, ea, hn, hwp, hwp2, -Int.not_le, -Int.not_lt, -Nat.not_le, -Nat.not_lt, ty3, ty4, ty28, ty29, ty31, hm, hl, hr, k52, x52, fi52_eq, p52, e16_1, e16_4, e16_7, e16_8, e16_6, e16_9, e16_5, e16_3, e16_11, q16_11, e16_13, e16_15, e16_16, e16_14, e16_12, e16_10, e16_2, e16_0]
theorem k16 (l : List Int) (a j id : Nat) (n : Int) (fr : Fr) (st : St) (h : FeedOk st id) (ha : a < 549755813888) (hj : j < 549755813888) (hn : n ≤ 4611686018427387904) :
    callStep gS (EvF gS) 16 [.ptr id 0, .int .i64 n] fr (setF st id l (nA l a j)) = some (.ok (.val (.int .i64 (fd l a j n))) (fr.map E.noMem) (setF st id l (nA l a (j + 1)))) := by
  have hc := c16 l (nA l a j) id n (setF st id l (nA l a j)) (feed_at h l _) (by have := nA_le l a j; omega) hn
  rw [setF_setF, nA_next] at hc
  unfold callStep
  simp only [show gS.ext 16 = none from rfl, fi16_eq, show fi16.pure = false from rfl, Bool.false_eq_true, if_false, hc, retE]
  rfl
end Go.Proofs.Ytclpbfkbpcjejaa
namespace Go.Proofs.Ytclpbfkbpcjejaa
open Go Go.Ab
set_option linter.unusedVariables false
set_option linter.unusedSimpArgs false
set_option linter.unnecessarySimpa false
set_option maxRecDepth 20000
variable (fr : Fr) (st : St) (k : Kt)
theorem kCopy (fr : Fr) (st : St) : callStep gS (EvF gS) 100 [.float .f64 0, .float .f64 13830554455654793216] fr st = some (.ok (.val (.float .f64 9223372036854775808)) fr st) := by
  have hc : EvF gS 100 [.float .f64 0, .float .f64 13830554455654793216] ⟨[], 0⟩ = some (.ret (.float .f64 9223372036854775808) none, ⟨[], 0⟩) := Evn.lim ⟨12, fun n hn => by
    obtain ⟨m, rfl⟩ : ∃ m, n = m + 12 := ⟨n - 12, by omega⟩
    kernel_rfl⟩
  obtain ⟨fi, hf, hp⟩ : ∃ fi, gS.fn 100 = some fi ∧ fi.pure = true := by
    refine ⟨(gS.fn 100).getD ⟨.skip, 0, [], [], [], false, []⟩, by kernel_rfl, by kernel_rfl⟩
  unfold callStep
  simp only [show gS.ext 100 = none from rfl, hf, hp, if_true, show flats [.float .f64 0, .float .f64 13830554455654793216] = true from by simp, hc, show V.flat (.float .f64 9223372036854775808) = true from rfl]
  rfl
theorem kNaN (fr : Fr) (st : St) : callStep gS (EvF gS) 101 [] fr st = some (.ok (.val (.float .f64 9221120237041090561)) fr st) := by
  have hc : EvF gS 101 [] ⟨[], 0⟩ = some (.ret (.float .f64 9221120237041090561) none, ⟨[], 0⟩) := Evn.lim ⟨12, fun n hn => by
    obtain ⟨m, rfl⟩ : ∃ m, n = m + 12 := ⟨n - 12, by omega⟩
    kernel_rfl⟩
  obtain ⟨fi, hf, hp⟩ : ∃ fi, gS.fn 101 = some fi ∧ fi.pure = true := by
    refine ⟨(gS.fn 101).getD ⟨.skip, 0, [], [], [], false, []⟩, by kernel_rfl, by kernel_rfl⟩
  unfold callStep
  simp only [show gS.ext 101 = none from rfl, hf, hp, if_true, show flats [] = true from by simp, hc, show V.flat (.float .f64 9221120237041090561) = true from rfl]
  rfl
theorem kInf (fr : Fr) (st : St) : callStep gS (EvF gS) 102 [.int .i64 1] fr st = some (.ok (.val (.float .f64 9218868437227405312)) fr st) := by
  have hc : EvF gS 102 [.int .i64 1] ⟨[], 0⟩ = some (.ret (.float .f64 9218868437227405312) none, ⟨[], 0⟩) := Evn.lim ⟨12, fun n hn => by
    obtain ⟨m, rfl⟩ : ∃ m, n = m + 12 := ⟨n - 12, by omega⟩
    kernel_rfl⟩
  obtain ⟨fi, hf, hp⟩ : ∃ fi, gS.fn 102 = some fi ∧ fi.pure = true := by
    refine ⟨(gS.fn 102).getD ⟨.skip, 0, [], [], [], false, []⟩, by kernel_rfl, by kernel_rfl⟩
  unfold callStep
  simp only [show gS.ext 102 = none from rfl, hf, hp, if_true, show flats [.int .i64 1] = true from by simp, hc, show V.flat (.float .f64 9218868437227405312) = true from rfl]
  rfl
theorem kInf2 (fr : Fr) (st : St) : callStep gS (EvF gS) 102 [.int .i64 (-1)] fr st = some (.ok (.val (.float .f64 18442240474082181120)) fr st) := by
  have hc : EvF gS 102 [.int .i64 (-1)] ⟨[], 0⟩ = some (.ret (.float .f64 18442240474082181120) none, ⟨[], 0⟩) := Evn.lim ⟨12, fun n hn => by
    obtain ⟨m, rfl⟩ : ∃ m, n = m + 12 := ⟨n - 12, by omega⟩
    kernel_rfl⟩
  obtain ⟨fi, hf, hp⟩ : ∃ fi, gS.fn 102 = some fi ∧ fi.pure = true := by
    refine ⟨(gS.fn 102).getD ⟨.skip, 0, [], [], [], false, []⟩, by kernel_rfl, by kernel_rfl⟩
  unfold callStep
  simp only [show gS.ext 102 = none from rfl, hf, hp, if_true, show flats [.int .i64 (-1)] = true from by simp, hc, show V.flat (.float .f64 18442240474082181120) = true from rfl]
  rfl
noncomputable def fi66 : FI := { body := codeOf Try.f66, ntmps := 13, results := [.tmp 2], pers := [0, 2, 3], locals := [3], pure := false, marks := [] }
theorem fi66_eq : gS.fn 66 = some fi66 := by kernel_rfl
theorem st66 (a0 : V) : startFr fi66 [a0] = { ps := [(0, .val a0), (2, .any), (3, .any)], ts := [], lc := [] } := rfl
noncomputable def b66 : Code := mini (codeOf Try.f66)
noncomputable def c66_1 : Code := codeAt b66 [false]
theorem e66_1 : evK gS fi66 c66_1 fr st k = opsK gS fi66 [(some 2)] [mk (some 2) (.assign (.const (.float .f64 0))) 22 none] fr.clear st fr k := evK_reg1 (i := 0) (by kernel_rfl) (by kernel_rfl)
noncomputable def c66_3 : Code := codeAt b66 [true, false]
theorem e66_3 : evK gS fi66 c66_3 fr st k = opsK gS fi66 [(some 4), (some 5), (some 6), (some 7), (some 8), (some 3), none] [mk (some 4) (.call { callee := (.value (.func 100)), args := #[(.const (.float .f64 0)), (.const (.float .f64 13830554455654793216))], argTypes := #[22, 22] }) 22 none,
  mk (some 5) (.call { callee := (.value (.func 101)), args := #[], argTypes := #[] }) 22 none,
  mk (some 6) (.call { callee := (.value (.func 102)), args := #[(.const (.int .i64 1))], argTypes := #[3] }) 22 none,
  mk (some 7) (.call { callee := (.value (.func 102)), args := #[(.const (.int .i64 (-1)))], argTypes := #[3] }) 22 none,
  mk (some 8) (.build 117 #[(0, (.const (.float .f64 0))), (1, (.tmp 4)), (2, (.const (.float .f64 4607182418800017408))), (3, (.const (.float .f64 4609434218613702656))), (4, (.const (.float .f64 4611686018427387904))), (5, (.const (.float .f64 4613937818241073152))), (6, (.const (.float .f64 13830554455654793216))), (7, (.const (.float .f64 4591870180066957722))), (8, (.tmp 5)), (9, (.tmp 6)), (10, (.tmp 7)), (11, (.const (.float .f64 4845873199050653696))), (12, (.const (.float .f64 4890909195324358656))), (13, (.const (.float .f64 1)))]) 117 none,
  mk (some 3) (.alloc 117) 0 none,
  mk none (.store 117 (.tmp 3) (.tmp 8)) 0 none] fr.clear st fr k := evK_reg1 (i := 1) (by kernel_rfl) (by kernel_rfl)
noncomputable def c66_5 : Code := codeAt b66 [true, true, false]
theorem e66_5 : evK gS fi66 c66_5 fr st k = opsK gS fi66 [(some 9), (some 10), (some 11), (some 12), (some 2)] [mk (some 9) (.move (.tmp 0)) 29 none,
  mk (some 10) (.call { callee := (.value (.func 16)), args := #[(.tmp 9), (.const (.int .i64 14))], argTypes := #[29, 3] }) 3 none,
  mk (some 11) (.indexAddr 117 (.tmp 3) (.tmp 10)) 0 none,
  mk (some 12) (.load 22 (.tmp 11)) 22 none,
  mk (some 2) (.assign (.tmp 12)) 22 none] fr.clear st fr k := evK_reg1 (i := 2) (by kernel_rfl) (by kernel_rfl)
noncomputable def c66_6 : Code := .ret
theorem e66_6 : evK gS fi66 c66_6 fr st k = nextK gS fi66 k .ret fr st := rfl
noncomputable def c66_4 : Code := .seq c66_5 c66_6
theorem e66_4 : evK gS fi66 c66_4 fr st k = evK gS fi66 c66_5 fr st (.seq c66_6 k) := rfl
noncomputable def c66_2 : Code := .seq c66_3 c66_4
theorem e66_2 : evK gS fi66 c66_2 fr st k = evK gS fi66 c66_3 fr st (.seq c66_4 k) := rfl
noncomputable def c66_0 : Code := .seq c66_1 c66_2
theorem e66_0 : evK gS fi66 c66_0 fr st k = evK gS fi66 c66_1 fr st (.seq c66_2 k) := rfl
theorem m66 : mini fi66.body = c66_0 := by kernel_rfl
set_option maxHeartbeats 8000000 in
theorem c66 (l : List Int) (a j id : Nat) (st : St) (h : FeedOk st id) (ha : a < 549755813888) (hj : j < 549755813888) :
    EvF gS 66 [.ptr id 0] (setF st id l (nA l a j)) = some (.ret (.float .f64 (floatV l a j)) none, setF st id l (nA l a (j + 1))) := by
  refine EvF_start fi66_eq (fun x h => by cases h) m66 ?_
  rw [st66]
  have hm : fi66.marks = [] := rfl
  have hl : fi66.locals = [3] := rfl
  have hr : fi66.results = [.tmp 2] := rfl
  have hb := fd_bound l a j (n := 14) (by omega)
  unfold floatV
  have hk := fun fr => k16 l a j id 14 fr st h ha hj (by omega)
  generalize fd l a j 14 = z at *
  have hz : z = 0 ∨ z = 1 ∨ z = 2 ∨ z = 3 ∨ z = 4 ∨ z = 5 ∨ z = 6 ∨ z = 7 ∨ z = 8 ∨ z = 9 ∨ z = 10 ∨ z = 11 ∨ z = 12 ∨ z = 13 := by omega
  rcases hz with rfl | rfl | rfl | rfl | rfl | rfl | rfl | rfl | rfl | rfl | rfl | rfl | rfl | rfl <;>
    simp [F14, hk, -Int.not_le, -Int.not_lt, -Nat.not_le, -Nat.not_lt, ty3, ty22, ty29, ty117, hm, hl, hr, kCopy, kNaN, kInf, kInf2, e66_1, e66_3, e66_5, e66_6, e66_4, e66_2, e66_0]
theorem k66 (l : List Int) (a j id : Nat) (fr : Fr) (st : St) (h : FeedOk st id) (ha : a < 549755813888) (hj : j < 549755813000) :
    callStep gS (EvF gS) 66 [.ptr id 0] fr (setF st id l (nA l a j)) = some (.ok (.val (.float .f64 (floatV l a j))) (fr.map E.noMem) (setF st id l (nA l a (j + 1)))) := by
  unfold callStep
  simp only [show gS.ext 66 = none from rfl, fi66_eq, show fi66.pure = false from rfl, Bool.false_eq_true, if_false, c66 l a j id st h ha (by omega), retE]
  all_goals rfl
noncomputable def fi17 : FI := { body := codeOf Try.f17, ntmps := 38, results := [.cell 2 24], pers := [0, 2, 3, 4, 6, 7], locals := [2, 3, 4], pure := false, marks := [] }
theorem fi17_eq : gS.fn 17 = some fi17 := by kernel_rfl
theorem st17 (a0 : V) : startFr fi17 [a0] = { ps := [(0, .val a0), (2, .any), (3, .any), (4, .any), (6, .any), (7, .any)], ts := [], lc := [] } := rfl
noncomputable def b17 : Code := mini (codeOf Try.f17)
noncomputable def c17_1 : Code := codeAt b17 [false]
theorem e17_1 : evK gS fi17 c17_1 fr st k = opsK gS fi17 [(some 2)] [mk (some 2) (.alloc 24) 0 none] fr.clear st fr k := evK_reg1 (i := 0) (by kernel_rfl) (by kernel_rfl)
noncomputable def c17_4 : Code := codeAt b17 [true, false, false]
theorem e17_4 : evK gS fi17 c17_4 fr st k = opsK gS fi17 [(some 5), (some 6)] [mk (some 5) (.move (.tmp 0)) 29 none,
  mk (some 6) (.call { callee := (.value (.func 16)), args := #[(.tmp 5), (.const (.int .i64 8))], argTypes := #[29, 3] }) 3 none] fr.clear st fr k := evK_reg1 (i := 1) (by kernel_rfl) (by kernel_rfl)
noncomputable def c17_8 : Code := codeAt b17 [true, false, true, false, false, false]
theorem e17_8 : evK gS fi17 c17_8 fr st k = opsK gS fi17 [(some 8), (some 7)] [mk (some 8) (.binOp .eql 3 (.tmp 6) (.const (.int .i64 0)) 3) 4 none,
  mk (some 7) (.assign (.tmp 8)) 4 none] fr.clear st fr k := evK_reg1 (i := 2) (by kernel_rfl) (by kernel_rfl)
noncomputable def c17_10 : Code := .skip
theorem e17_10 : evK gS fi17 c17_10 fr st k = nextK gS fi17 k .normal fr st := rfl
noncomputable def c17_11 : Code := codeAt b17 [true, false, true, false, false, true, true]
theorem e17_11 : evK gS fi17 c17_11 fr st k = opsK gS fi17 [(some 9), (some 7)] [mk (some 9) (.binOp .eql 3 (.tmp 6) (.const (.int .i64 1)) 3) 4 none,
  mk (some 7) (.assign (.tmp 9)) 4 none] fr.clear st fr k := evK_reg1 (i := 3) (by kernel_rfl) (by kernel_rfl)
noncomputable def c17_9 : Code := .cond (.tmp 7) c17_10 c17_11
theorem e17_9 : evK gS fi17 c17_9 fr st k = condK gS fi17 (fr.op (.tmp 7)).bool? c17_10 c17_11 fr st k := rfl
noncomputable def c17_7 : Code := .seq c17_8 c17_9
theorem e17_7 : evK gS fi17 c17_7 fr st k = evK gS fi17 c17_8 fr st (.seq c17_9 k) := rfl
noncomputable def c17_14 : Code := codeAt b17 [true, false, true, false, true, false, false]
theorem e17_14 : evK gS fi17 c17_14 fr st k = opsK gS fi17 [(some 10), (some 11), (some 12), none] [mk (some 10) (.move (.tmp 0)) 29 none,
  mk (some 11) (.call { callee := (.value (.func 66)), args := #[(.tmp 10)], argTypes := #[29] }) 22 none,
  mk (some 12) (.build 24 #[(0, (.const (.int .i64 2))), (2, (.tmp 11))]) 24 none,
  mk none (.store 24 (.tmp 2) (.tmp 12)) 0 none] fr.clear st fr k := evK_reg1 (i := 4) (by kernel_rfl) (by kernel_rfl)
noncomputable def c17_15 : Code := .ret
theorem e17_15 : evK gS fi17 c17_15 fr st k = nextK gS fi17 k .ret fr st := rfl
noncomputable def c17_13 : Code := .seq c17_14 c17_15
theorem e17_13 : evK gS fi17 c17_13 fr st k = evK gS fi17 c17_14 fr st (.seq c17_15 k) := rfl
noncomputable def c17_17 : Code := codeAt b17 [true, false, true, false, true, true, false]
theorem e17_17 : evK gS fi17 c17_17 fr st k = opsK gS fi17 [(some 14), (some 13)] [mk (some 14) (.binOp .eql 3 (.tmp 6) (.const (.int .i64 2)) 3) 4 none,
  mk (some 13) (.assign (.tmp 14)) 4 none] fr.clear st fr k := evK_reg1 (i := 5) (by kernel_rfl) (by kernel_rfl)
noncomputable def c17_20 : Code := codeAt b17 [true, false, true, false, true, true, true, false, false]
theorem e17_20 : evK gS fi17 c17_20 fr st k = opsK gS fi17 [(some 15), (some 3), none] [mk (some 15) (.build 89 #[(0, (.const (.string { data := #[] }))), (1, (.const (.string { data := #[97] }))), (2, (.const (.string { data := #[97, 98] }))), (3, (.const (.string { data := #[98] }))), (4, (.const (.string { data := #[98, 97] }))), (5, (.const (.string { data := #[116, 119, 101, 108, 118, 101, 32, 98, 121, 116, 101, 115] })))]) 89 none,
  mk (some 3) (.alloc 89) 0 none,
  mk none (.store 89 (.tmp 3) (.tmp 15)) 0 none] fr.clear st fr k := evK_reg1 (i := 6) (by kernel_rfl) (by kernel_rfl)
noncomputable def c17_22 : Code := codeAt b17 [true, false, true, false, true, true, true, false, true, false]
theorem e17_22 : evK gS fi17 c17_22 fr st k = opsK gS fi17 [(some 16), (some 17), (some 18), (some 19), (some 20), none] [mk (some 16) (.move (.tmp 0)) 29 none,
  mk (some 17) (.call { callee := (.value (.func 16)), args := #[(.tmp 16), (.const (.int .i64 6))], argTypes := #[29, 3] }) 3 none,
  mk (some 18) (.indexAddr 89 (.tmp 3) (.tmp 17)) 0 none,
  mk (some 19) (.load 9 (.tmp 18)) 9 none,
  mk (some 20) (.build 24 #[(0, (.const (.int .i64 3))), (3, (.tmp 19))]) 24 none,
  mk none (.store 24 (.tmp 2) (.tmp 20)) 0 none] fr.clear st fr k := evK_reg1 (i := 7) (by kernel_rfl) (by kernel_rfl)
noncomputable def c17_23 : Code := .ret
theorem e17_23 : evK gS fi17 c17_23 fr st k = nextK gS fi17 k .ret fr st := rfl
noncomputable def c17_21 : Code := .seq c17_22 c17_23
theorem e17_21 : evK gS fi17 c17_21 fr st k = evK gS fi17 c17_22 fr st (.seq c17_23 k) := rfl
noncomputable def c17_19 : Code := .seq c17_20 c17_21
theorem e17_19 : evK gS fi17 c17_19 fr st k = evK gS fi17 c17_20 fr st (.seq c17_21 k) := rfl
noncomputable def c17_25 : Code := codeAt b17 [true, false, true, false, true, true, true, true, false]
theorem e17_25 : evK gS fi17 c17_25 fr st k = opsK gS fi17 [(some 22), (some 21)] [mk (some 22) (.binOp .eql 3 (.tmp 6) (.const (.int .i64 3)) 3) 4 none,
  mk (some 21) (.assign (.tmp 22)) 4 none] fr.clear st fr k := evK_reg1 (i := 8) (by kernel_rfl) (by kernel_rfl)
noncomputable def c17_28 : Code := codeAt b17 [true, false, true, false, true, true, true, true, true, false, false]
theorem e17_28 : evK gS fi17 c17_28 fr st k = opsK gS fi17 [(some 23), (some 24), (some 25), (some 26), none] [mk (some 23) (.move (.tmp 0)) 29 none,
  mk (some 24) (.call { callee := (.value (.func 16)), args := #[(.tmp 23), (.const (.int .i64 2))], argTypes := #[29, 3] }) 3 none,
  mk (some 25) (.binOp .eql 3 (.tmp 24) (.const (.int .i64 1)) 3) 4 none,
  mk (some 26) (.build 24 #[(0, (.const (.int .i64 4))), (4, (.tmp 25))]) 24 none,
  mk none (.store 24 (.tmp 2) (.tmp 26)) 0 none] fr.clear st fr k := evK_reg1 (i := 9) (by kernel_rfl) (by kernel_rfl)
noncomputable def c17_29 : Code := .ret
theorem e17_29 : evK gS fi17 c17_29 fr st k = nextK gS fi17 k .ret fr st := rfl
noncomputable def c17_27 : Code := .seq c17_28 c17_29
theorem e17_27 : evK gS fi17 c17_27 fr st k = evK gS fi17 c17_28 fr st (.seq c17_29 k) := rfl
noncomputable def c17_31 : Code := codeAt b17 [true, false, true, false, true, true, true, true, true, true, false]
theorem e17_31 : evK gS fi17 c17_31 fr st k = opsK gS fi17 [(some 28), (some 27)] [mk (some 28) (.binOp .eql 3 (.tmp 6) (.const (.int .i64 4)) 3) 4 none,
  mk (some 27) (.assign (.tmp 28)) 4 none] fr.clear st fr k := evK_reg1 (i := 10) (by kernel_rfl) (by kernel_rfl)
noncomputable def c17_34 : Code := codeAt b17 [true, false, true, false, true, true, true, true, true, true, true, false, false]
theorem e17_34 : evK gS fi17 c17_34 fr st k = opsK gS fi17 [(some 29), (some 4), none] [mk (some 29) (.build 90 #[(0, (.const (.int .i64 (-9223372036854775808)))), (1, (.const (.int .i64 9223372036854775807))), (2, (.const (.int .i64 9007199254740992))), (3, (.const (.int .i64 9007199254740993))), (4, (.const (.int .i64 (-1)))), (5, (.const (.int .i64 4611686018427387904)))]) 90 none,
  mk (some 4) (.alloc 90) 0 none,
  mk none (.store 90 (.tmp 4) (.tmp 29)) 0 none] fr.clear st fr k := evK_reg1 (i := 11) (by kernel_rfl) (by kernel_rfl)
noncomputable def c17_36 : Code := codeAt b17 [true, false, true, false, true, true, true, true, true, true, true, false, true, false]
theorem e17_36 : evK gS fi17 c17_36 fr st k = opsK gS fi17 [(some 30), (some 31), (some 32), (some 33), (some 34), none] [mk (some 30) (.move (.tmp 0)) 29 none,
  mk (some 31) (.call { callee := (.value (.func 16)), args := #[(.tmp 30), (.const (.int .i64 6))], argTypes := #[29, 3] }) 3 none,
  mk (some 32) (.indexAddr 90 (.tmp 4) (.tmp 31)) 0 none,
  mk (some 33) (.load 2 (.tmp 32)) 2 none,
  mk (some 34) (.build 24 #[(0, (.const (.int .i64 1))), (1, (.tmp 33))]) 24 none,
  mk none (.store 24 (.tmp 2) (.tmp 34)) 0 none] fr.clear st fr k := evK_reg1 (i := 12) (by kernel_rfl) (by kernel_rfl)
noncomputable def c17_37 : Code := .ret
theorem e17_37 : evK gS fi17 c17_37 fr st k = nextK gS fi17 k .ret fr st := rfl
noncomputable def c17_35 : Code := .seq c17_36 c17_37
theorem e17_35 : evK gS fi17 c17_35 fr st k = evK gS fi17 c17_36 fr st (.seq c17_37 k) := rfl
noncomputable def c17_33 : Code := .seq c17_34 c17_35
theorem e17_33 : evK gS fi17 c17_33 fr st k = evK gS fi17 c17_34 fr st (.seq c17_35 k) := rfl
noncomputable def c17_38 : Code := .skip
theorem e17_38 : evK gS fi17 c17_38 fr st k = nextK gS fi17 k .normal fr st := rfl
noncomputable def c17_32 : Code := .cond (.tmp 27) c17_33 c17_38
theorem e17_32 : evK gS fi17 c17_32 fr st k = condK gS fi17 (fr.op (.tmp 27)).bool? c17_33 c17_38 fr st k := rfl
noncomputable def c17_30 : Code := .seq c17_31 c17_32
theorem e17_30 : evK gS fi17 c17_30 fr st k = evK gS fi17 c17_31 fr st (.seq c17_32 k) := rfl
noncomputable def c17_26 : Code := .cond (.tmp 21) c17_27 c17_30
theorem e17_26 : evK gS fi17 c17_26 fr st k = condK gS fi17 (fr.op (.tmp 21)).bool? c17_27 c17_30 fr st k := rfl
noncomputable def c17_24 : Code := .seq c17_25 c17_26
theorem e17_24 : evK gS fi17 c17_24 fr st k = evK gS fi17 c17_25 fr st (.seq c17_26 k) := rfl
noncomputable def c17_18 : Code := .cond (.tmp 13) c17_19 c17_24
theorem e17_18 : evK gS fi17 c17_18 fr st k = condK gS fi17 (fr.op (.tmp 13)).bool? c17_19 c17_24 fr st k := rfl
noncomputable def c17_16 : Code := .seq c17_17 c17_18
theorem e17_16 : evK gS fi17 c17_16 fr st k = evK gS fi17 c17_17 fr st (.seq c17_18 k) := rfl
noncomputable def c17_12 : Code := .cond (.tmp 7) c17_13 c17_16
theorem e17_12 : evK gS fi17 c17_12 fr st k = condK gS fi17 (fr.op (.tmp 7)).bool? c17_13 c17_16 fr st k := rfl
noncomputable def c17_6 : Code := .seq c17_7 c17_12
theorem e17_6 : evK gS fi17 c17_6 fr st k = evK gS fi17 c17_7 fr st (.seq c17_12 k) := rfl
noncomputable def c17_5 : Code := .block 0 c17_6
theorem e17_5 : evK gS fi17 c17_5 fr st k = evK gS fi17 c17_6 fr st (.blk 0 k) := rfl
noncomputable def c17_3 : Code := .seq c17_4 c17_5
theorem e17_3 : evK gS fi17 c17_3 fr st k = evK gS fi17 c17_4 fr st (.seq c17_5 k) := rfl
noncomputable def c17_40 : Code := codeAt b17 [true, true, false]
theorem e17_40 : evK gS fi17 c17_40 fr st k = opsK gS fi17 [(some 35), (some 36), (some 37), none] [mk (some 35) (.move (.tmp 0)) 29 none,
  mk (some 36) (.call { callee := (.value (.func 16)), args := #[(.tmp 35), (.const (.int .i64 5))], argTypes := #[29, 3] }) 3 none,
  mk (some 37) (.build 24 #[(0, (.const (.int .i64 1))), (1, (.tmp 36))]) 24 none,
  mk none (.store 24 (.tmp 2) (.tmp 37)) 0 none] fr.clear st fr k := evK_reg1 (i := 13) (by kernel_rfl) (by kernel_rfl)
noncomputable def c17_41 : Code := .ret
theorem e17_41 : evK gS fi17 c17_41 fr st k = nextK gS fi17 k .ret fr st := rfl
noncomputable def c17_39 : Code := .seq c17_40 c17_41
theorem e17_39 : evK gS fi17 c17_39 fr st k = evK gS fi17 c17_40 fr st (.seq c17_41 k) := rfl
noncomputable def c17_2 : Code := .seq c17_3 c17_39
theorem e17_2 : evK gS fi17 c17_2 fr st k = evK gS fi17 c17_3 fr st (.seq c17_39 k) := rfl
noncomputable def c17_0 : Code := .seq c17_1 c17_2
theorem e17_0 : evK gS fi17 c17_0 fr st k = evK gS fi17 c17_1 fr st (.seq c17_2 k) := rfl
theorem m17 : mini fi17.body = c17_0 := by kernel_rfl
set_option maxHeartbeats 8000000 in
theorem c17 (l : List Int) (a j id : Nat) (st : St) (h : FeedOk st id) (ha : a < 549755813888) (hj : j < 549755812000) :
    EvF gS 17 [.ptr id 0] (setF st id l (nA l a j)) = some (.ret (valueV l a j).enc none, setF st id l (nA l a (j + 2))) := by
  refine EvF_start fi17_eq (fun x h => by cases h) m17 ?_
  rw [st17]
  have hm : fi17.marks = [] := rfl
  have hl : fi17.locals = [2, 3, 4] := rfl
  have hr : fi17.results = [.cell 2 24] := rfl
  have hb := fd_bound l a j (n := 8) (by omega)
  have hb6 := fd_bound l a (j + 1) (n := 6) (by omega)
  unfold valueV
  have hk := fun fr => k16 l a j id 8 fr st h ha (by omega) (by omega)
  have hk6 := fun fr => k16 l a (j + 1) id 6 fr st h ha (by omega) (by omega)
  have hk2 := fun fr => k16 l a (j + 1) id 2 fr st h ha (by omega) (by omega)
  have hk5 := fun fr => k16 l a (j + 1) id 5 fr st h ha (by omega) (by omega)
  have hf1 := fun fr => k66 l a (j + 1) id fr st h ha (by omega)
  generalize fd l a j 8 = z at *
  generalize fd l a (j + 1) 6 = y at *
  have hz : z = 0 ∨ z = 1 ∨ z = 2 ∨ z = 3 ∨ z = 4 ∨ z = 5 ∨ z = 6 ∨ z = 7 := by omega
  have hy : y = 0 ∨ y = 1 ∨ y = 2 ∨ y = 3 ∨ y = 4 ∨ y = 5 := by omega
  rcases hz with rfl | rfl | rfl | rfl | rfl | rfl | rfl | rfl
  case inr.inr.inl => rcases hy with rfl | rfl | rfl | rfl | rfl | rfl <;> simp [T6, hk, hk6, hk2, hk5, hf1, -Int.not_le, -Int.not_lt, -Nat.not_le, -Nat.not_lt, ty2, ty3, ty4, ty9, ty22, ty24, ty29, ty89, ty90, eq24, hm, hl, hr, e17_1, e17_4, e17_8, e17_10, e17_11, e17_9, e17_7, e17_14, e17_15, e17_13, e17_17, e17_20, e17_22, e17_23, e17_21, e17_19, e17_25, e17_28, e17_29, e17_27, e17_31, e17_34, e17_36, e17_37, e17_35, e17_33, e17_38, e17_32, e17_30, e17_26, e17_24, e17_18, e17_16, e17_12, e17_6, e17_5, e17_3, e17_40, e17_41, e17_39, e17_2, e17_0]
  case inr.inr.inr.inr.inl => rcases hy with rfl | rfl | rfl | rfl | rfl | rfl <;> simp [N6, hk, hk6, hk2, hk5, hf1, -Int.not_le, -Int.not_lt, -Nat.not_le, -Nat.not_lt, ty2, ty3, ty4, ty9, ty22, ty24, ty29, ty89, ty90, eq24, hm, hl, hr, e17_1, e17_4, e17_8, e17_10, e17_11, e17_9, e17_7, e17_14, e17_15, e17_13, e17_17, e17_20, e17_22, e17_23, e17_21, e17_19, e17_25, e17_28, e17_29, e17_27, e17_31, e17_34, e17_36, e17_37, e17_35, e17_33, e17_38, e17_32, e17_30, e17_26, e17_24, e17_18, e17_16, e17_12, e17_6, e17_5, e17_3, e17_40, e17_41, e17_39, e17_2, e17_0]
  all_goals simp [hk, hk6, hk2, hk5, hf1, -Int.not_le, -Int.not_lt, -Nat.not_le, -Nat.not_lt, ty2, ty3, ty4, ty9, ty22, ty24, ty29, ty89, ty90, eq24, hm, hl, hr, e17_1, e17_4, e17_8, e17_10, e17_11, e17_9, e17_7, e17_14, e17_15, e17_13, e17_17, e17_20, e17_22, e17_23, e17_21, e17_19, e17_25, e17_28, e17_29, e17_27, e17_31, e17_34, e17_36, e17_37, e17_35, e17_33, e17_38, e17_32, e17_30, e17_26, e17_24, e17_18, e17_16, e17_12, e17_6, e17_5, e17_3, e17_40, e17_41, e17_39, e17_2, e17_0]
end Go.Proofs.Ytclpbfkbpcjejaa
namespace Go.Ab
open Go
set_option linter.unusedVariables false
set_option linter.unusedSimpArgs false
set_option linter.unnecessarySimpa false
/-- So many objects more that are given up. -/
def dd (st : St) (m : Nat) : St := { st with objs := st.objs ++ List.replicate m [] }
/-- And one behind them. -/
def nw (st : St) (m : Nat) (cs : List V) : St := { st with objs := st.objs ++ (List.replicate m [] ++ [cs]) }
theorem dd_zero (st : St) : dd st 0 = st := by unfold dd; simp
theorem dd_len (st : St) (m : Nat) : (dd st m).objs.length = st.objs.length + m := by simp [dd]
theorem gr_len (st : St) (m : Nat) (cs : List V) : (nw st m cs).objs.length = st.objs.length + m + 1 := by simp [nw]; omega
theorem setF_len (st : St) (id : Nat) (l : List Int) (a : Nat) : (setF st id l a).objs.length = st.objs.length := by simp [setF]
theorem setF_wp (st : St) (id : Nat) (l : List Int) (a : Nat) : (setF st id l a).wp = st.wp := rfl
theorem dd_wp (st : St) (m : Nat) : (dd st m).wp = st.wp := rfl
theorem gr_wp (st : St) (m : Nat) (cs : List V) : (nw st m cs).wp = st.wp := rfl
theorem FeedOk.dd {st : St} {id : Nat} (h : FeedOk st id) (m : Nat) : FeedOk (dd st m) id := ⟨by rw [dd_len]; have := h.1; omega, h.2⟩
theorem FeedOk.nw {st : St} {id : Nat} (h : FeedOk st id) (m : Nat) (cs : List V) : FeedOk (nw st m cs) id := ⟨by rw [gr_len]; have := h.1; omega, h.2⟩
theorem FeedOk.setF {st : St} {id id' : Nat} (h : FeedOk st id) (l : List Int) (a : Nat) : FeedOk (setF st id' l a) id := ⟨by rw [setF_len]; exact h.1, h.2⟩
theorem setF_dd {st : St} {id : Nat} (h : FeedOk st id) (m : Nat) (l : List Int) (a : Nat) : dd (setF st id l a) m = setF (dd st m) id l a := by
  unfold dd setF; simp only [St.mk.injEq, and_true]; rw [List.set_append_left _ _ h.1]
theorem setF_gr {st : St} {id : Nat} (h : FeedOk st id) (m : Nat) (cs : List V) (l : List Int) (a : Nat) : nw (setF st id l a) m cs = setF (nw st m cs) id l a := by
  unfold nw setF; simp only [St.mk.injEq, and_true]; rw [List.set_append_left _ _ h.1]
theorem gr_obj (st : St) (m : Nat) (cs : List V) : (nw st m cs).objs[st.objs.length + m]? = some cs := by
  simp [nw]
theorem obj_gr {st : St} {id : Nat} (h : FeedOk st id) (m : Nat) (cs : List V) (l : List Int) (a : Nat) : St.obj (setF (nw st m cs) id l a) (st.objs.length + m) = some cs := by
  unfold St.obj setF
  show ((nw st m cs).objs.set id _)[_]? = _
  rw [List.getElem?_set_ne (by have := h.1; omega), gr_obj]
theorem set_gr {st : St} {id : Nat} (h : FeedOk st id) (m : Nat) (cs : List V) (l : List Int) (a : Nat) : St.set (setF (nw st m cs) id l a) (st.objs.length + m) [] = some (setF (dd st (m + 1)) id l a) := by
  have h1 := h.1
  have h2 := h.2
  unfold St.set
  rw [if_pos (by rw [setF_wp, gr_wp]; omega)]
  rw [← setF_gr h, ← setF_dd h]
  unfold nw dd
  simp only [Option.some.injEq, St.mk.injEq, and_true]
  rw [List.set_append_right _ _ (by rw [setF_len]; omega), setF_len, show st.objs.length + m - st.objs.length = m by omega, List.set_append_right _ _ (by simp), List.replicate_succ', List.length_replicate, Nat.sub_self]
  rfl
theorem set_gr' {st : St} {id : Nat} (h : FeedOk st id) (m : Nat) (cs cs' : List V) (l : List Int) (a : Nat) : St.set (setF (nw st m cs) id l a) (st.objs.length + m) cs' = some (setF (nw st m cs') id l a) := by
  have h1 := h.1
  have h2 := h.2
  unfold St.set
  rw [if_pos (by rw [setF_wp, gr_wp]; omega)]
  rw [← setF_gr h, ← setF_gr h]
  unfold nw
  simp only [Option.some.injEq, St.mk.injEq, and_true]
  rw [List.set_append_right _ _ (by rw [setF_len]; omega), setF_len, show st.objs.length + m - st.objs.length = m by omega, List.set_append_right _ _ (by simp), List.length_replicate, Nat.sub_self]
  rfl
theorem newRef_dd {st : St} {id : Nat} (h : FeedOk st id) (fr : Fr) (m k len : Nat) (cs : List V) (l : List Int) (a : Nat) :
    newRef fr (setF (dd st m) id l a) k len cs = .ok (.val (.sref false k (st.objs.length + m) 0 len)) fr (setF (nw st m cs) id l a) := by
  unfold newRef
  rw [setF_len, dd_len, ← setF_dd h, ← setF_gr h]
  unfold nw dd
  simp
theorem newRef_setF {st : St} {id : Nat} (h : FeedOk st id) (fr : Fr) (k len : Nat) (cs : List V) (l : List Int) (a : Nat) :
    newRef fr (setF st id l a) k len cs = .ok (.val (.sref false k st.objs.length 0 len)) fr (setF (nw st 0 cs) id l a) := by
  have := newRef_dd h fr 0 k len cs l a
  rw [dd_zero] at this
  exact this
mutual
theorem frz_flat : ∀ (n : Nat) (st : St) (v : V), v.flat = true → frz n st v = some (v, st)
  | 0, _, _, _ => by unfold frz; rfl
  | n + 1, st, v, h => by
    unfold frz
    split
    · simp [V.flat] at h
    · rw [frzL_flat n st _ (by simpa [V.flat] using h)]
    · rw [frzL_flat n st _ (by simpa [V.flat] using h)]
    · rfl
    · rw [if_pos (by simpa [V.flat] using h)]
    · rfl
theorem frzL_flat : ∀ (n : Nat) (st : St) (l : List V), flats l = true → frzL (frz n) st l = some (l, st)
  | _, _, [], _ => rfl
  | n, st, v :: r, h => by
    simp only [flats, Bool.and_eq_true] at h
    unfold frzL
    rw [frz_flat n st v h.1]
    simp only
    rw [frzL_flat n st r h.2]
end
theorem frzL_cons {f : St → V → Option (V × St)} {st st' : St} {v v' : V} {r : List V} (h : f st v = some (v', st')) : frzL f st (v :: r) = match frzL f st' r with
      | some (r', st'') => some (v' :: r', st'')
      | none => none := by
  simp only [frzL, h]
  cases frzL f st' r with
  | none => rfl
  | some x => rfl
theorem frzL_append {f : St → V → Option (V × St)} {st st' st'' : St} : ∀ {xs xs' ys ys' : List V}, frzL f st xs = some (xs', st') → frzL f st' ys = some (ys', st'') → frzL f st (xs ++ ys) = some (xs' ++ ys', st'')
  | [], _, _, _, h, k => by unfold frzL at h; cases h; exact k
  | v :: r, _, ys, ys', h, k => by
    unfold frzL at h
    split at h
    · rename_i v' st1 h1
      split at h
      · rename_i r' st2 h2
        cases h
        rw [List.cons_append, frzL_cons h1, frzL_append h2 k]; rfl
      · cases h
    · cases h
theorem chunk_enc {α : Type} (cells : α → List V) (k : Nat) (hk : 0 < k) (hl : ∀ x, (cells x).length = k) : ∀ (vs : List α), chunk true k vs.length (vs.flatMap cells) = vs.map fun x => V.agg (cells x)
  | [] => rfl
  | x :: r => by
    rw [List.length_cons, chunk, List.flatMap_cons, List.take_left' (hl x), List.drop_left' (hl x), chunk_enc cells k hk hl r]; rfl
theorem vals_cells_len (vs : List Val) : (vs.flatMap Val.cells).length = vs.length * 5 := by
  induction vs with
  | nil => rfl
  | cons x r ih => simp [List.flatMap_cons, ih, Val.cells]; omega
theorem vals_cells_one (vs : List Val) : (vs.flatMap Val.cells).all V.one = true := by
  induction vs with
  | nil => rfl
  | cons x r ih => simp [List.flatMap_cons, ih, Val.cells, V.one]
theorem vals_cells_flat (vs : List Val) : flats (vs.flatMap Val.cells) = true := by
  induction vs with
  | nil => rfl
  | cons x r ih =>
    have : ∀ (a b : List V), flats a = true → flats b = true → flats (a ++ b) = true := by
      intro a
      induction a with
      | nil => intro b _ h; exact h
      | cons v a iha => intro b h1 h2; simp only [flats, List.cons_append, Bool.and_eq_true] at h1 ⊢; exact ⟨h1.1, iha b h1.2 h2⟩
    rw [List.flatMap_cons]
    exact this _ _ (by simp [Val.cells, flats, V.flat]) ih
theorem vals_cells_strip (vs : List Val) : (vs.flatMap Val.cells).map V.strip1 = vs.flatMap Val.cells := by
  induction vs with
  | nil => rfl
  | cons x r ih => simp [List.flatMap_cons, ih, Val.cells, V.strip1]
theorem chunk_vals (vs : List Val) : chunk true 5 vs.length (vs.flatMap Val.cells) = encVals vs := chunk_enc Val.cells 5 (by omega) (fun _ => rfl) vs
/-- A row of values is given up. -/
theorem frz_vals {st : St} {id : Nat} (h : FeedOk st id) (n m : Nat) (vs : List Val) (hv : vs ≠ []) (l : List Int) (a : Nat) :
    frz (n + 1) (setF (nw st m (vs.flatMap Val.cells)) id l a) (.sref false 5 (st.objs.length + m) 0 vs.length) = some (.slice (encVals vs), setF (dd st (m + 1)) id l a) := by
  have hl : ¬ vs.length = 0 := by simpa using hv
  unfold frz
  simp only [hl, if_false, obj_gr h, set_gr h, vals_cells_len, List.drop_zero, Nat.zero_add, Nat.le_refl, and_true, show (0 < 5) = True by simp, if_true]
  rw [List.take_of_length_le (by rw [vals_cells_len]; omega), vals_cells_strip, frzL_flat _ _ _ (vals_cells_flat vs)]
  simp only [vals_cells_len, vals_cells_one, and_self, if_true]
  rw [show Nat.blt 1 5 = true from rfl, chunk_vals]
theorem frz_predcells {st st' : St} {n : Nat} {a0 a1 a2 a3 a4 a5 a6 a7 a8 a9 a10 a11 s s' : V} (hf : flats [a0, a1, a2, a3, a4, a5, a6, a7, a8, a9, a10, a11] = true) (hs : frz n st s = some (s', st')) :
    frz (n + 1) st (.agg [a0, a1, a2, a3, a4, a5, a6, a7, a8, a9, a10, a11, s]) = some (.agg [a0, a1, a2, a3, a4, a5, a6, a7, a8, a9, a10, a11, s'], st') := by
  unfold frz
  have h1 := frzL_flat n st _ hf
  have h2 : frzL (frz n) st [s] = some ([s'], st') := by rw [frzL_cons hs]; rfl
  have := frzL_append h1 h2
  simp only [List.cons_append, List.nil_append] at this
  simp only [this]
theorem frz_nil (n : Nat) (st : St) : frz (n + 1) st (.sref true 0 0 0 0) = some (.slice [], st) := by unfold frz; rfl
theorem w64_1 : IntKind.wrap .i64 1 = 1 := by kernel_rfl
theorem w64_2 : IntKind.wrap .i64 2 = 2 := by kernel_rfl
theorem w64_3 : IntKind.wrap .i64 3 = 3 := by kernel_rfl
theorem w64_4 : IntKind.wrap .i64 4 = 4 := by kernel_rfl
theorem w64_5 : IntKind.wrap .i64 5 = 5 := by kernel_rfl
theorem w64_6 : IntKind.wrap .i64 6 = 6 := by kernel_rfl
theorem w64_7 : IntKind.wrap .i64 7 = 7 := by kernel_rfl
theorem w64_8 : IntKind.wrap .i64 8 = 8 := by kernel_rfl
theorem w64_9 : IntKind.wrap .i64 9 = 9 := by kernel_rfl
theorem w64_10 : IntKind.wrap .i64 10 = 10 := by kernel_rfl
end Go.Ab
namespace Go.Ab
open Go
set_option linter.unusedVariables false
set_option linter.unusedSimpArgs false
set_option linter.unnecessarySimpa false
def FVR : List (Val × Option (Int × Int)) := [
  (vzero, none),
  (⟨2, 0, 0, [], false⟩, some (1, 0)), (⟨2, 0, 9223372036854775808, [], false⟩, some (1, 0)), (⟨2, 0, 4607182418800017408, [], false⟩, some (1, 3)),
  (⟨2, 0, 4609434218613702656, [], false⟩, some (1, 4)), (⟨2, 0, 4611686018427387904, [], false⟩, some (1, 5)), (⟨2, 0, 4613937818241073152, [], false⟩, some (1, 6)),
  (⟨2, 0, 13830554455654793216, [], false⟩, some (1, -1)), (⟨2, 0, 4591870180066957722, [], false⟩, some (1, 2)), (⟨2, 0, 9221120237041090561, [], false⟩, none),
  (⟨2, 0, 9218868437227405312, [], false⟩, some (1, 20)), (⟨2, 0, 18442240474082181120, [], false⟩, some (1, -20)), (⟨2, 0, 4845873199050653696, [], false⟩, some (1, 8)),
  (⟨2, 0, 4890909195324358656, [], false⟩, some (1, 12)), (⟨2, 0, 1, [], false⟩, some (1, 1)),
  (⟨3, 0, 0, [], false⟩, some (3, 0)), (⟨3, 0, 0, [97], false⟩, some (3, 1)), (⟨3, 0, 0, [97, 98], false⟩, some (3, 2)), (⟨3, 0, 0, [98], false⟩, some (3, 3)), (⟨3, 0, 0, [98, 97], false⟩, some (3, 4)),
  (⟨3, 0, 0, [116, 119, 101, 108, 118, 101, 32, 98, 121, 116, 101, 115], false⟩, some (3, 5)),
  (⟨4, 0, 0, [], false⟩, some (4, 0)), (⟨4, 0, 0, [], true⟩, some (4, 1)),
  (⟨1, -9223372036854775808, 0, [], false⟩, some (1, -10)), (⟨1, 9223372036854775807, 0, [], false⟩, some (1, 11)), (⟨1, 9007199254740992, 0, [], false⟩, some (1, 8)), (⟨1, 9007199254740993, 0, [], false⟩, some (1, 9)),
  (⟨1, -1, 0, [], false⟩, some (1, -1)), (⟨1, 4611686018427387904, 0, [], false⟩, some (1, 10)), (⟨1, 0, 0, [], false⟩, some (1, 0)), (⟨1, 1, 0, [], false⟩, some (1, 3)), (⟨1, 2, 0, [], false⟩, some (1, 5)), (⟨1, 3, 0, [], false⟩, some (1, 6)), (⟨1, 4, 0, [], false⟩, some (1, 7))]
def rcmp : Option (Int × Int) → Option (Int × Int) → Int × Bool
  | some (c, x), some (d, y) => if c = d then (sgn (x < y) (x > y), true) else (0, false)
  | _, _ => (0, false)
def FV (v : Val) (r : Option (Int × Int)) : Prop := (v, r) ∈ FVR
def okPair (a b : Val × Option (Int × Int)) : Bool :=
  decide (cmp a.1 b.1 = rcmp a.2 b.2) && (!vsame a.1 b.1 || decide (a.2 = b.2)) && (!(decide (a.1.kind = 3) && isPre a.1.s b.1.s && decide (b.1.kind = 3)) || decide ((cmp a.1 b.1).1 ≥ 0)) && (!vis a.1 b.1 || (decide (a.1.s = b.1.s) && decide ((a.1.kind = 3) = (b.1.kind = 3))))
set_option maxRecDepth 100000 in
theorem pairs_ok : (FVR.all fun a => FVR.all fun b => okPair a b) = true := by kernel_rfl
end Go.Ab
