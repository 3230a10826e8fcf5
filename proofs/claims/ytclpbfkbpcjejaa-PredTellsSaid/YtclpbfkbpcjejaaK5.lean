/- Of any tests, right or not, and any value, what is right, taken, void, alike, and what implies what, is as the document says, whatever the input. Part 5. -/
import Derived.Test.YtclpbfkbpcjejaaK4
namespace Go.Proofs.Ytclpbfkbpcjejaa
open Go Go.Ab
set_option linter.unusedVariables false
set_option linter.unusedSimpArgs false
set_option linter.unnecessarySimpa false
set_option maxRecDepth 20000
noncomputable section
variable (fr : Fr) (st : St) (k : Kt)
def fi19 : FI := { body := codeOf Try.f19, ntmps := 111, results := [.tmp 2], pers := [0, 1, 2, 8, 25], locals := [1], pure := true, marks := [] }
theorem fi19_eq : gS.fn 19 = some fi19 := by kernel_rfl
theorem st19 (a0 : V) : startFr fi19 [a0] = { ps := [(0, .val a0), (1, .any), (2, .any), (8, .any), (25, .any)], ts := [], lc := [] } := rfl
def b19 : Code := mini (codeOf Try.f19)
def c19_1 : Code := codeN b19 2
theorem e19_1 : evK gS fi19 c19_1 fr st k = opsR gS fi19 [op1 1 (.box 27 (.tmp 0)) 0,
 op1 2 (.assign (.const (.bool false))) 4] fr st k := evK_r 0 (by kernel_rfl)
def c19_4 : Code := codeN b19 9
theorem e19_4 : evK gS fi19 c19_4 fr st k = opsR gS fi19 [op1 3 (.fieldAddr 27 (.tmp 1) 0) 0,
 op1 4 (.load 9 (.tmp 3)) 9,
 op1 5 (.call { callee := (.value (.func 68)), args := #[(.tmp 4)], argTypes := #[9] }) 4,
 op1 6 (.unOp .not 4 (.tmp 5)) 4] fr st k := evK_r 1 (by kernel_rfl)
def c19_7 : Code := codeN b19 37
theorem e19_7 : evK gS fi19 c19_7 fr st k = opsR gS fi19 [op1 2 (.assign (.const (.bool false))) 4] fr st k := evK_r 2 (by kernel_rfl)
def c19_8 : Code := .ret
theorem e19_8 : evK gS fi19 c19_8 fr st k = nextK gS fi19 k .ret fr st := rfl
def c19_6 : Code := .seq c19_7 c19_8
theorem e19_6 : evK gS fi19 c19_6 fr st k = evK gS fi19 c19_7 fr st (.seq c19_8 k) := rfl
def c19_9 : Code := .skip
theorem e19_9 : evK gS fi19 c19_9 fr st k = nextK gS fi19 k .normal fr st := rfl
def c19_5 : Code := .cond (.tmp 6) c19_6 c19_9
theorem e19_5 : evK gS fi19 c19_5 fr st k = condK gS fi19 (fr.op (.tmp 6)).bool? c19_6 c19_9 fr st k := rfl
def c19_3 : Code := .seq c19_4 c19_5
theorem e19_3 : evK gS fi19 c19_3 fr st k = evK gS fi19 c19_4 fr st (.seq c19_5 k) := rfl
def c19_12 : Code := codeN b19 19
theorem e19_12 : evK gS fi19 c19_12 fr st k = opsR gS fi19 [op1 7 (.fieldAddr 27 (.tmp 1) 1) 0,
 op1 8 (.load 3 (.tmp 7)) 3] fr st k := evK_r 3 (by kernel_rfl)
def c19_15 : Code := codeN b19 75
theorem e19_15 : evK gS fi19 c19_15 fr st k = opsR gS fi19 [op1 10 (.binOp .eql 3 (.tmp 8) (.const (.int .i64 1)) 3) 4,
 op1 9 (.assign (.tmp 10)) 4] fr st k := evK_r 4 (by kernel_rfl)
def c19_18 : Code := codeN b19 299
theorem e19_18 : evK gS fi19 c19_18 fr st k = opsR gS fi19 [op1 11 (.fieldAddr 27 (.tmp 1) 2) 0,
 op1 12 (.load 24 (.tmp 11)) 24,
 op1 13 (.call { callee := (.value (.func 69)), args := #[(.tmp 12)], argTypes := #[24] }) 4,
 op1 14 (.move (.tmp 13)) 4,
 mk (some 15) (.fieldAddr 27 (.tmp 1) 3) 0 (some (3, true)),
 mk (some 16) (.load 24 (.tmp 15)) 24 (some (3, true)),
 mk (some 17) (.call { callee := (.value (.func 69)), args := #[(.tmp 16)], argTypes := #[24] }) 4 (some (3, true)),
 op1 18 (.pick (.tmp 14) (.tmp 17) (.const (.bool false))) 4,
 op1 19 (.move (.tmp 18)) 4,
 mk (some 20) (.fieldAddr 27 (.tmp 1) 4) 0 (some (8, true)),
 mk (some 21) (.load 25 (.tmp 20)) 25 (some (8, true)),
 mk (some 22) (.call { callee := (.builtin .len), args := #[(.tmp 21)], argTypes := #[25] }) 3 (some (8, true)),
 mk (some 23) (.binOp .eql 3 (.tmp 22) (.const (.int .i64 0)) 3) 4 (some (8, true)),
 op1 24 (.pick (.tmp 19) (.tmp 23) (.const (.bool false))) 4,
 op1 2 (.assign (.tmp 24)) 4] fr st k := evK_r 5 (by kernel_rfl)
def c19_19 : Code := .ret
theorem e19_19 : evK gS fi19 c19_19 fr st k = nextK gS fi19 k .ret fr st := rfl
def c19_17 : Code := .seq c19_18 c19_19
theorem e19_17 : evK gS fi19 c19_17 fr st k = evK gS fi19 c19_18 fr st (.seq c19_19 k) := rfl
def c19_22 : Code := codeN b19 619
theorem e19_22 : evK gS fi19 c19_22 fr st k = opsR gS fi19 [op1 26 (.binOp .eql 3 (.tmp 8) (.const (.int .i64 2)) 3) 4,
 op1 25 (.assign (.tmp 26)) 4] fr st k := evK_r 6 (by kernel_rfl)
def c19_24 : Code := .skip
theorem e19_24 : evK gS fi19 c19_24 fr st k = nextK gS fi19 k .normal fr st := rfl
def c19_26 : Code := codeN b19 2923
theorem e19_26 : evK gS fi19 c19_26 fr st k = opsR gS fi19 [op1 27 (.binOp .eql 3 (.tmp 8) (.const (.int .i64 3)) 3) 4,
 op1 25 (.assign (.tmp 27)) 4] fr st k := evK_r 7 (by kernel_rfl)
def c19_28 : Code := .skip
theorem e19_28 : evK gS fi19 c19_28 fr st k = nextK gS fi19 k .normal fr st := rfl
def c19_30 : Code := codeN b19 12139
theorem e19_30 : evK gS fi19 c19_30 fr st k = opsR gS fi19 [op1 28 (.binOp .eql 3 (.tmp 8) (.const (.int .i64 4)) 3) 4,
 op1 25 (.assign (.tmp 28)) 4] fr st k := evK_r 8 (by kernel_rfl)
def c19_32 : Code := .skip
theorem e19_32 : evK gS fi19 c19_32 fr st k = nextK gS fi19 k .normal fr st := rfl
def c19_34 : Code := codeN b19 49003
theorem e19_34 : evK gS fi19 c19_34 fr st k = opsR gS fi19 [op1 29 (.binOp .eql 3 (.tmp 8) (.const (.int .i64 5)) 3) 4,
 op1 25 (.assign (.tmp 29)) 4] fr st k := evK_r 9 (by kernel_rfl)
def c19_36 : Code := .skip
theorem e19_36 : evK gS fi19 c19_36 fr st k = nextK gS fi19 k .normal fr st := rfl
def c19_38 : Code := codeN b19 196459
theorem e19_38 : evK gS fi19 c19_38 fr st k = opsR gS fi19 [op1 30 (.binOp .eql 3 (.tmp 8) (.const (.int .i64 6)) 3) 4,
 op1 25 (.assign (.tmp 30)) 4] fr st k := evK_r 10 (by kernel_rfl)
def c19_40 : Code := .skip
theorem e19_40 : evK gS fi19 c19_40 fr st k = nextK gS fi19 k .normal fr st := rfl
def c19_41 : Code := codeN b19 524139
theorem e19_41 : evK gS fi19 c19_41 fr st k = opsR gS fi19 [op1 31 (.binOp .eql 3 (.tmp 8) (.const (.int .i64 7)) 3) 4,
 op1 25 (.assign (.tmp 31)) 4] fr st k := evK_r 11 (by kernel_rfl)
def c19_39 : Code := .cond (.tmp 25) c19_40 c19_41
theorem e19_39 : evK gS fi19 c19_39 fr st k = condK gS fi19 (fr.op (.tmp 25)).bool? c19_40 c19_41 fr st k := rfl
def c19_37 : Code := .seq c19_38 c19_39
theorem e19_37 : evK gS fi19 c19_37 fr st k = evK gS fi19 c19_38 fr st (.seq c19_39 k) := rfl
def c19_35 : Code := .cond (.tmp 25) c19_36 c19_37
theorem e19_35 : evK gS fi19 c19_35 fr st k = condK gS fi19 (fr.op (.tmp 25)).bool? c19_36 c19_37 fr st k := rfl
def c19_33 : Code := .seq c19_34 c19_35
theorem e19_33 : evK gS fi19 c19_33 fr st k = evK gS fi19 c19_34 fr st (.seq c19_35 k) := rfl
def c19_31 : Code := .cond (.tmp 25) c19_32 c19_33
theorem e19_31 : evK gS fi19 c19_31 fr st k = condK gS fi19 (fr.op (.tmp 25)).bool? c19_32 c19_33 fr st k := rfl
def c19_29 : Code := .seq c19_30 c19_31
theorem e19_29 : evK gS fi19 c19_29 fr st k = evK gS fi19 c19_30 fr st (.seq c19_31 k) := rfl
def c19_27 : Code := .cond (.tmp 25) c19_28 c19_29
theorem e19_27 : evK gS fi19 c19_27 fr st k = condK gS fi19 (fr.op (.tmp 25)).bool? c19_28 c19_29 fr st k := rfl
def c19_25 : Code := .seq c19_26 c19_27
theorem e19_25 : evK gS fi19 c19_25 fr st k = evK gS fi19 c19_26 fr st (.seq c19_27 k) := rfl
def c19_23 : Code := .cond (.tmp 25) c19_24 c19_25
theorem e19_23 : evK gS fi19 c19_23 fr st k = condK gS fi19 (fr.op (.tmp 25)).bool? c19_24 c19_25 fr st k := rfl
def c19_21 : Code := .seq c19_22 c19_23
theorem e19_21 : evK gS fi19 c19_21 fr st k = evK gS fi19 c19_22 fr st (.seq c19_23 k) := rfl
def c19_44 : Code := codeN b19 1259
theorem e19_44 : evK gS fi19 c19_44 fr st k = opsR gS fi19 [op1 32 (.fieldAddr 27 (.tmp 1) 2) 0,
 op1 33 (.load 24 (.tmp 32)) 24,
 op1 34 (.call { callee := (.value (.func 70)), args := #[(.tmp 33)], argTypes := #[24] }) 4,
 op1 35 (.move (.tmp 34)) 4,
 mk (some 36) (.fieldAddr 27 (.tmp 1) 3) 0 (some (3, true)),
 mk (some 37) (.load 24 (.tmp 36)) 24 (some (3, true)),
 mk (some 38) (.call { callee := (.value (.func 69)), args := #[(.tmp 37)], argTypes := #[24] }) 4 (some (3, true)),
 op1 39 (.pick (.tmp 35) (.tmp 38) (.const (.bool false))) 4,
 op1 40 (.move (.tmp 39)) 4,
 mk (some 41) (.fieldAddr 27 (.tmp 1) 4) 0 (some (8, true)),
 mk (some 42) (.load 25 (.tmp 41)) 25 (some (8, true)),
 mk (some 43) (.call { callee := (.builtin .len), args := #[(.tmp 42)], argTypes := #[25] }) 3 (some (8, true)),
 mk (some 44) (.binOp .eql 3 (.tmp 43) (.const (.int .i64 0)) 3) 4 (some (8, true)),
 op1 45 (.pick (.tmp 40) (.tmp 44) (.const (.bool false))) 4,
 op1 2 (.assign (.tmp 45)) 4] fr st k := evK_r 12 (by kernel_rfl)
def c19_45 : Code := .ret
theorem e19_45 : evK gS fi19 c19_45 fr st k = nextK gS fi19 k .ret fr st := rfl
def c19_43 : Code := .seq c19_44 c19_45
theorem e19_43 : evK gS fi19 c19_43 fr st k = evK gS fi19 c19_44 fr st (.seq c19_45 k) := rfl
def c19_47 : Code := codeN b19 1515
theorem e19_47 : evK gS fi19 c19_47 fr st k = opsR gS fi19 [op1 47 (.binOp .eql 3 (.tmp 8) (.const (.int .i64 8)) 3) 4,
 op1 46 (.assign (.tmp 47)) 4] fr st k := evK_r 13 (by kernel_rfl)
def c19_50 : Code := codeN b19 5099
theorem e19_50 : evK gS fi19 c19_50 fr st k = opsR gS fi19 [op1 48 (.fieldAddr 27 (.tmp 1) 2) 0,
 op1 49 (.load 24 (.tmp 48)) 24,
 op1 50 (.call { callee := (.value (.func 70)), args := #[(.tmp 49)], argTypes := #[24] }) 4,
 op1 51 (.move (.tmp 50)) 4,
 mk (some 52) (.fieldAddr 27 (.tmp 1) 3) 0 (some (3, true)),
 mk (some 53) (.load 24 (.tmp 52)) 24 (some (3, true)),
 mk (some 54) (.call { callee := (.value (.func 70)), args := #[(.tmp 53)], argTypes := #[24] }) 4 (some (3, true)),
 op1 55 (.pick (.tmp 51) (.tmp 54) (.const (.bool false))) 4,
 op1 56 (.move (.tmp 55)) 4,
 mk (some 57) (.fieldAddr 27 (.tmp 1) 4) 0 (some (8, true)),
 mk (some 58) (.load 25 (.tmp 57)) 25 (some (8, true)),
 mk (some 59) (.call { callee := (.builtin .len), args := #[(.tmp 58)], argTypes := #[25] }) 3 (some (8, true)),
 mk (some 60) (.binOp .eql 3 (.tmp 59) (.const (.int .i64 0)) 3) 4 (some (8, true)),
 op1 61 (.pick (.tmp 56) (.tmp 60) (.const (.bool false))) 4,
 op1 2 (.assign (.tmp 61)) 4] fr st k := evK_r 14 (by kernel_rfl)
def c19_51 : Code := .ret
theorem e19_51 : evK gS fi19 c19_51 fr st k = nextK gS fi19 k .ret fr st := rfl
def c19_49 : Code := .seq c19_50 c19_51
theorem e19_49 : evK gS fi19 c19_49 fr st k = evK gS fi19 c19_50 fr st (.seq c19_51 k) := rfl
def c19_53 : Code := codeN b19 6123
theorem e19_53 : evK gS fi19 c19_53 fr st k = opsR gS fi19 [op1 63 (.binOp .eql 3 (.tmp 8) (.const (.int .i64 9)) 3) 4,
 op1 62 (.assign (.tmp 63)) 4] fr st k := evK_r 15 (by kernel_rfl)
def c19_56 : Code := codeN b19 20459
theorem e19_56 : evK gS fi19 c19_56 fr st k = opsR gS fi19 [op1 64 (.fieldAddr 27 (.tmp 1) 2) 0,
 op1 65 (.load 24 (.tmp 64)) 24,
 op1 66 (.call { callee := (.value (.func 70)), args := #[(.tmp 65)], argTypes := #[24] }) 4,
 op1 67 (.move (.tmp 66)) 4,
 mk (some 68) (.fieldAddr 27 (.tmp 1) 2) 0 (some (3, true)),
 mk (some 69) (.fieldAddr 24 (.tmp 68) 0) 0 (some (3, true)),
 mk (some 70) (.load 3 (.tmp 69)) 3 (some (3, true)),
 mk (some 71) (.binOp .eql 3 (.tmp 70) (.const (.int .i64 3)) 3) 4 (some (3, true)),
 op1 72 (.pick (.tmp 67) (.tmp 71) (.const (.bool false))) 4,
 op1 73 (.move (.tmp 72)) 4,
 mk (some 74) (.fieldAddr 27 (.tmp 1) 3) 0 (some (9, true)),
 mk (some 75) (.load 24 (.tmp 74)) 24 (some (9, true)),
 mk (some 76) (.call { callee := (.value (.func 69)), args := #[(.tmp 75)], argTypes := #[24] }) 4 (some (9, true)),
 op1 77 (.pick (.tmp 73) (.tmp 76) (.const (.bool false))) 4,
 op1 78 (.move (.tmp 77)) 4,
 mk (some 79) (.fieldAddr 27 (.tmp 1) 4) 0 (some (14, true)),
 mk (some 80) (.load 25 (.tmp 79)) 25 (some (14, true)),
 mk (some 81) (.call { callee := (.builtin .len), args := #[(.tmp 80)], argTypes := #[25] }) 3 (some (14, true)),
 mk (some 82) (.binOp .eql 3 (.tmp 81) (.const (.int .i64 0)) 3) 4 (some (14, true)),
 op1 83 (.pick (.tmp 78) (.tmp 82) (.const (.bool false))) 4,
 op1 2 (.assign (.tmp 83)) 4] fr st k := evK_r 16 (by kernel_rfl)
def c19_57 : Code := .ret
theorem e19_57 : evK gS fi19 c19_57 fr st k = nextK gS fi19 k .ret fr st := rfl
def c19_55 : Code := .seq c19_56 c19_57
theorem e19_55 : evK gS fi19 c19_55 fr st k = evK gS fi19 c19_56 fr st (.seq c19_57 k) := rfl
def c19_59 : Code := codeN b19 24555
theorem e19_59 : evK gS fi19 c19_59 fr st k = opsR gS fi19 [op1 85 (.binOp .eql 3 (.tmp 8) (.const (.int .i64 10)) 3) 4,
 op1 84 (.assign (.tmp 85)) 4] fr st k := evK_r 17 (by kernel_rfl)
def c19_62 : Code := codeN b19 81899
theorem e19_62 : evK gS fi19 c19_62 fr st k = opsR gS fi19 [op1 86 (.fieldAddr 27 (.tmp 1) 2) 0,
 op1 87 (.load 24 (.tmp 86)) 24,
 op1 88 (.call { callee := (.value (.func 69)), args := #[(.tmp 87)], argTypes := #[24] }) 4,
 op1 89 (.move (.tmp 88)) 4,
 mk (some 90) (.fieldAddr 27 (.tmp 1) 3) 0 (some (3, true)),
 mk (some 91) (.load 24 (.tmp 90)) 24 (some (3, true)),
 mk (some 92) (.call { callee := (.value (.func 69)), args := #[(.tmp 91)], argTypes := #[24] }) 4 (some (3, true)),
 op1 93 (.pick (.tmp 89) (.tmp 92) (.const (.bool false))) 4,
 op1 94 (.move (.tmp 93)) 4,
 mk (some 95) (.fieldAddr 27 (.tmp 1) 4) 0 (some (8, true)),
 mk (some 96) (.load 25 (.tmp 95)) 25 (some (8, true)),
 mk (some 97) (.call { callee := (.builtin .len), args := #[(.tmp 96)], argTypes := #[25] }) 3 (some (8, true)),
 mk (some 98) (.binOp .geq 3 (.tmp 97) (.const (.int .i64 1)) 3) 4 (some (8, true)),
 op1 99 (.pick (.tmp 94) (.tmp 98) (.const (.bool false))) 4,
 op1 100 (.move (.tmp 99)) 4,
 mk (some 101) (.fieldAddr 27 (.tmp 1) 4) 0 (some (14, true)),
 mk (some 102) (.load 25 (.tmp 101)) 25 (some (14, true)),
 mk (some 103) (.call { callee := (.builtin .len), args := #[(.tmp 102)], argTypes := #[25] }) 3 (some (14, true)),
 mk (some 104) (.binOp .leq 3 (.tmp 103) (.const (.int .i64 4)) 3) 4 (some (14, true)),
 op1 105 (.pick (.tmp 100) (.tmp 104) (.const (.bool false))) 4,
 op1 106 (.move (.tmp 105)) 4,
 mk (some 107) (.fieldAddr 27 (.tmp 1) 4) 0 (some (20, true)),
 mk (some 108) (.load 25 (.tmp 107)) 25 (some (20, true)),
 mk (some 109) (.call { callee := (.value (.func 71)), args := #[(.tmp 108)], argTypes := #[25] }) 4 (some (20, true)),
 op1 110 (.pick (.tmp 106) (.tmp 109) (.const (.bool false))) 4,
 op1 2 (.assign (.tmp 110)) 4] fr st k := evK_r 18 (by kernel_rfl)
def c19_63 : Code := .ret
theorem e19_63 : evK gS fi19 c19_63 fr st k = nextK gS fi19 k .ret fr st := rfl
def c19_61 : Code := .seq c19_62 c19_63
theorem e19_61 : evK gS fi19 c19_61 fr st k = evK gS fi19 c19_62 fr st (.seq c19_63 k) := rfl
def c19_64 : Code := .skip
theorem e19_64 : evK gS fi19 c19_64 fr st k = nextK gS fi19 k .normal fr st := rfl
def c19_60 : Code := .cond (.tmp 84) c19_61 c19_64
theorem e19_60 : evK gS fi19 c19_60 fr st k = condK gS fi19 (fr.op (.tmp 84)).bool? c19_61 c19_64 fr st k := rfl
def c19_58 : Code := .seq c19_59 c19_60
theorem e19_58 : evK gS fi19 c19_58 fr st k = evK gS fi19 c19_59 fr st (.seq c19_60 k) := rfl
def c19_54 : Code := .cond (.tmp 62) c19_55 c19_58
theorem e19_54 : evK gS fi19 c19_54 fr st k = condK gS fi19 (fr.op (.tmp 62)).bool? c19_55 c19_58 fr st k := rfl
def c19_52 : Code := .seq c19_53 c19_54
theorem e19_52 : evK gS fi19 c19_52 fr st k = evK gS fi19 c19_53 fr st (.seq c19_54 k) := rfl
def c19_48 : Code := .cond (.tmp 46) c19_49 c19_52
theorem e19_48 : evK gS fi19 c19_48 fr st k = condK gS fi19 (fr.op (.tmp 46)).bool? c19_49 c19_52 fr st k := rfl
def c19_46 : Code := .seq c19_47 c19_48
theorem e19_46 : evK gS fi19 c19_46 fr st k = evK gS fi19 c19_47 fr st (.seq c19_48 k) := rfl
def c19_42 : Code := .cond (.tmp 25) c19_43 c19_46
theorem e19_42 : evK gS fi19 c19_42 fr st k = condK gS fi19 (fr.op (.tmp 25)).bool? c19_43 c19_46 fr st k := rfl
def c19_20 : Code := .seq c19_21 c19_42
theorem e19_20 : evK gS fi19 c19_20 fr st k = evK gS fi19 c19_21 fr st (.seq c19_42 k) := rfl
def c19_16 : Code := .cond (.tmp 9) c19_17 c19_20
theorem e19_16 : evK gS fi19 c19_16 fr st k = condK gS fi19 (fr.op (.tmp 9)).bool? c19_17 c19_20 fr st k := rfl
def c19_14 : Code := .seq c19_15 c19_16
theorem e19_14 : evK gS fi19 c19_14 fr st k = evK gS fi19 c19_15 fr st (.seq c19_16 k) := rfl
def c19_13 : Code := .block 0 c19_14
theorem e19_13 : evK gS fi19 c19_13 fr st k = evK gS fi19 c19_14 fr st (.blk 0 k) := rfl
def c19_11 : Code := .seq c19_12 c19_13
theorem e19_11 : evK gS fi19 c19_11 fr st k = evK gS fi19 c19_12 fr st (.seq c19_13 k) := rfl
def c19_66 : Code := codeN b19 23
theorem e19_66 : evK gS fi19 c19_66 fr st k = opsR gS fi19 [op1 2 (.assign (.const (.bool false))) 4] fr st k := evK_r 19 (by kernel_rfl)
def c19_67 : Code := .ret
theorem e19_67 : evK gS fi19 c19_67 fr st k = nextK gS fi19 k .ret fr st := rfl
def c19_65 : Code := .seq c19_66 c19_67
theorem e19_65 : evK gS fi19 c19_65 fr st k = evK gS fi19 c19_66 fr st (.seq c19_67 k) := rfl
def c19_10 : Code := .seq c19_11 c19_65
theorem e19_10 : evK gS fi19 c19_10 fr st k = evK gS fi19 c19_11 fr st (.seq c19_65 k) := rfl
def c19_2 : Code := .seq c19_3 c19_10
theorem e19_2 : evK gS fi19 c19_2 fr st k = evK gS fi19 c19_3 fr st (.seq c19_10 k) := rfl
def c19_0 : Code := .seq c19_1 c19_2
theorem e19_0 : evK gS fi19 c19_0 fr st k = evK gS fi19 c19_1 fr st (.seq c19_2 k) := rfl
theorem m19 : mini fi19.body = c19_0 := by kernel_rfl
set_option maxHeartbeats 4000000 in
theorem c19 (p : Pred)  (h_p : Pred.ok p) (st : St) : EvF gS 19 [p.enc] st = some (.ret (.bool (pright p)) none, st) := by
  refine EvF_start fi19_eq (fun x h => by cases h) m19 ?_
  rw [st19]
  have hm : fi19.marks = [] := rfl
  have hl : fi19.locals = [1] := rfl
  have hr : fi19.results = [.tmp 2] := rfl
  simp (config := { contextual := true, maxSteps := 10000000, maxDischargeDepth := 6 }) [-Int.not_le, -Int.not_lt, -Nat.not_le, -Nat.not_lt, ty3, ty4, ty9, ty24, ty25, ty27, eq24, hm, hl, hr, k68, k69, k70, k71, e19_1, e19_4, e19_7, e19_8, e19_6, e19_9, e19_5, e19_3, e19_12, e19_15, e19_18, e19_19, e19_17, e19_22, e19_24, e19_26, e19_28, e19_30, e19_32, e19_34, e19_36, e19_38, e19_40, e19_41, e19_39, e19_37, e19_35, e19_33, e19_31, e19_29, e19_27, e19_25, e19_23, e19_21, e19_44, e19_45, e19_43, e19_47, e19_50, e19_51, e19_49, e19_53, e19_56, e19_57, e19_55, e19_59, e19_62, e19_63, e19_61, e19_64, e19_60, e19_58, e19_54, e19_52, e19_48, e19_46, e19_42, e19_20, e19_16, e19_14, e19_13, e19_11, e19_66, e19_67, e19_65, e19_10, e19_2, e19_0, h_p.1, h_p.2]
  all_goals try simp (config := { contextual := true }) [-Int.not_le, -Int.not_lt, -Nat.not_le, -Nat.not_lt, pright]
  all_goals first | done | grind | omega | (trace_state; fail)
theorem k19 (p_name : List UInt8) (p_test : Int) (p_vk : Int) (p_vn : Int) (p_vx : Nat) (p_vs : List UInt8) (p_vb : Bool) (p_wk : Int) (p_wn : Int) (p_wx : Nat) (p_ws : List UInt8) (p_wb : Bool) (p_set : List Val)  (h_p : Pred.ok (⟨p_name, p_test, ⟨p_vk, p_vn, p_vx, p_vs, p_vb⟩, ⟨p_wk, p_wn, p_wx, p_ws, p_wb⟩, p_set⟩ : Pred)) (fr : Fr) (st : St) : callStep gS (EvF gS) 19 [.agg [.str p_name, .int .i64 p_test, .int .i64 p_vk, .int .i64 p_vn, .float .f64 p_vx, .str p_vs, .bool p_vb, .int .i64 p_wk, .int .i64 p_wn, .float .f64 p_wx, .str p_ws, .bool p_wb, .slice (encVals p_set)]] fr st = some (.ok (retE none (.bool (pright (⟨p_name, p_test, ⟨p_vk, p_vn, p_vx, p_vs, p_vb⟩, ⟨p_wk, p_wn, p_wx, p_ws, p_wb⟩, p_set⟩ : Pred)))) fr st) :=
  call_pure rfl fi19_eq rfl (fun st => c19 (⟨p_name, p_test, ⟨p_vk, p_vn, p_vx, p_vs, p_vb⟩, ⟨p_wk, p_wn, p_wx, p_ws, p_wb⟩, p_set⟩ : Pred) h_p st) (by simp)
theorem x19 : gS.ext 19 = none := rfl
theorem p19 : fi19.pure = true := rfl
def fi20 : FI := { body := codeOf Try.f20, ntmps := 121, results := [.tmp 2], pers := [0, 1, 2, 3, 9, 26], locals := [1], pure := true, marks := [] }
theorem fi20_eq : gS.fn 20 = some fi20 := by kernel_rfl
theorem st20 (a0 : V) : startFr fi20 [a0] = { ps := [(0, .val a0), (1, .any), (2, .any), (3, .any), (9, .any), (26, .any)], ts := [], lc := [] } := rfl
def b20 : Code := mini (codeOf Try.f20)
def c20_1 : Code := codeN b20 2
theorem e20_1 : evK gS fi20 c20_1 fr st k = opsR gS fi20 [op1 1 (.box 27 (.tmp 0)) 0,
 op1 2 (.assign (.const (.bool false))) 4] fr st k := evK_r 0 (by kernel_rfl)
def c20_4 : Code := codeN b20 9
theorem e20_4 : evK gS fi20 c20_4 fr st k = opsR gS fi20 [op1 4 (.fieldAddr 27 (.tmp 1) 0) 0,
 op1 5 (.load 9 (.tmp 4)) 9,
 op1 6 (.call { callee := (.value (.func 72)), args := #[(.tmp 5)], argTypes := #[9] }) 4,
 op1 7 (.unOp .not 4 (.tmp 6)) 4] fr st k := evK_r 1 (by kernel_rfl)
def c20_7 : Code := codeN b20 37
theorem e20_7 : evK gS fi20 c20_7 fr st k = opsR gS fi20 [op1 2 (.assign (.const (.bool false))) 4] fr st k := evK_r 2 (by kernel_rfl)
def c20_8 : Code := .ret
theorem e20_8 : evK gS fi20 c20_8 fr st k = nextK gS fi20 k .ret fr st := rfl
def c20_6 : Code := .seq c20_7 c20_8
theorem e20_6 : evK gS fi20 c20_6 fr st k = evK gS fi20 c20_7 fr st (.seq c20_8 k) := rfl
def c20_9 : Code := .skip
theorem e20_9 : evK gS fi20 c20_9 fr st k = nextK gS fi20 k .normal fr st := rfl
def c20_5 : Code := .cond (.tmp 7) c20_6 c20_9
theorem e20_5 : evK gS fi20 c20_5 fr st k = condK gS fi20 (fr.op (.tmp 7)).bool? c20_6 c20_9 fr st k := rfl
def c20_3 : Code := .seq c20_4 c20_5
theorem e20_3 : evK gS fi20 c20_3 fr st k = evK gS fi20 c20_4 fr st (.seq c20_5 k) := rfl
def c20_12 : Code := codeN b20 19
theorem e20_12 : evK gS fi20 c20_12 fr st k = opsR gS fi20 [op1 8 (.fieldAddr 27 (.tmp 1) 1) 0,
 op1 9 (.load 3 (.tmp 8)) 3] fr st k := evK_r 3 (by kernel_rfl)
def c20_15 : Code := codeN b20 75
theorem e20_15 : evK gS fi20 c20_15 fr st k = opsR gS fi20 [op1 11 (.binOp .eql 3 (.tmp 9) (.const (.int .i64 1)) 3) 4,
 op1 10 (.assign (.tmp 11)) 4] fr st k := evK_r 4 (by kernel_rfl)
def c20_18 : Code := codeN b20 299
theorem e20_18 : evK gS fi20 c20_18 fr st k = opsR gS fi20 [op1 12 (.fieldAddr 27 (.tmp 1) 2) 0,
 op1 13 (.load 24 (.tmp 12)) 24,
 op1 14 (.call { callee := (.value (.func 73)), args := #[(.tmp 13)], argTypes := #[24] }) 4,
 op1 15 (.move (.tmp 14)) 4,
 mk (some 16) (.fieldAddr 27 (.tmp 1) 3) 0 (some (3, true)),
 mk (some 17) (.load 24 (.tmp 16)) 24 (some (3, true)),
 mk (some 18) (.call { callee := (.value (.func 73)), args := #[(.tmp 17)], argTypes := #[24] }) 4 (some (3, true)),
 op1 19 (.pick (.tmp 15) (.tmp 18) (.const (.bool false))) 4,
 op1 20 (.move (.tmp 19)) 4,
 mk (some 21) (.fieldAddr 27 (.tmp 1) 4) 0 (some (8, true)),
 mk (some 22) (.load 25 (.tmp 21)) 25 (some (8, true)),
 mk (some 23) (.call { callee := (.builtin .len), args := #[(.tmp 22)], argTypes := #[25] }) 3 (some (8, true)),
 mk (some 24) (.binOp .eql 3 (.tmp 23) (.const (.int .i64 0)) 3) 4 (some (8, true)),
 op1 25 (.pick (.tmp 20) (.tmp 24) (.const (.bool false))) 4,
 op1 2 (.assign (.tmp 25)) 4] fr st k := evK_r 5 (by kernel_rfl)
def c20_19 : Code := .ret
theorem e20_19 : evK gS fi20 c20_19 fr st k = nextK gS fi20 k .ret fr st := rfl
def c20_17 : Code := .seq c20_18 c20_19
theorem e20_17 : evK gS fi20 c20_17 fr st k = evK gS fi20 c20_18 fr st (.seq c20_19 k) := rfl
def c20_22 : Code := codeN b20 619
theorem e20_22 : evK gS fi20 c20_22 fr st k = opsR gS fi20 [op1 27 (.binOp .eql 3 (.tmp 9) (.const (.int .i64 2)) 3) 4,
 op1 26 (.assign (.tmp 27)) 4] fr st k := evK_r 6 (by kernel_rfl)
def c20_24 : Code := .skip
theorem e20_24 : evK gS fi20 c20_24 fr st k = nextK gS fi20 k .normal fr st := rfl
def c20_26 : Code := codeN b20 2923
theorem e20_26 : evK gS fi20 c20_26 fr st k = opsR gS fi20 [op1 28 (.binOp .eql 3 (.tmp 9) (.const (.int .i64 3)) 3) 4,
 op1 26 (.assign (.tmp 28)) 4] fr st k := evK_r 7 (by kernel_rfl)
def c20_28 : Code := .skip
theorem e20_28 : evK gS fi20 c20_28 fr st k = nextK gS fi20 k .normal fr st := rfl
def c20_30 : Code := codeN b20 12139
theorem e20_30 : evK gS fi20 c20_30 fr st k = opsR gS fi20 [op1 29 (.binOp .eql 3 (.tmp 9) (.const (.int .i64 4)) 3) 4,
 op1 26 (.assign (.tmp 29)) 4] fr st k := evK_r 8 (by kernel_rfl)
def c20_32 : Code := .skip
theorem e20_32 : evK gS fi20 c20_32 fr st k = nextK gS fi20 k .normal fr st := rfl
def c20_34 : Code := codeN b20 49003
theorem e20_34 : evK gS fi20 c20_34 fr st k = opsR gS fi20 [op1 30 (.binOp .eql 3 (.tmp 9) (.const (.int .i64 5)) 3) 4,
 op1 26 (.assign (.tmp 30)) 4] fr st k := evK_r 9 (by kernel_rfl)
def c20_36 : Code := .skip
theorem e20_36 : evK gS fi20 c20_36 fr st k = nextK gS fi20 k .normal fr st := rfl
def c20_38 : Code := codeN b20 196459
theorem e20_38 : evK gS fi20 c20_38 fr st k = opsR gS fi20 [op1 31 (.binOp .eql 3 (.tmp 9) (.const (.int .i64 6)) 3) 4,
 op1 26 (.assign (.tmp 31)) 4] fr st k := evK_r 10 (by kernel_rfl)
def c20_40 : Code := .skip
theorem e20_40 : evK gS fi20 c20_40 fr st k = nextK gS fi20 k .normal fr st := rfl
def c20_41 : Code := codeN b20 524139
theorem e20_41 : evK gS fi20 c20_41 fr st k = opsR gS fi20 [op1 32 (.binOp .eql 3 (.tmp 9) (.const (.int .i64 7)) 3) 4,
 op1 26 (.assign (.tmp 32)) 4] fr st k := evK_r 11 (by kernel_rfl)
def c20_39 : Code := .cond (.tmp 26) c20_40 c20_41
theorem e20_39 : evK gS fi20 c20_39 fr st k = condK gS fi20 (fr.op (.tmp 26)).bool? c20_40 c20_41 fr st k := rfl
def c20_37 : Code := .seq c20_38 c20_39
theorem e20_37 : evK gS fi20 c20_37 fr st k = evK gS fi20 c20_38 fr st (.seq c20_39 k) := rfl
def c20_35 : Code := .cond (.tmp 26) c20_36 c20_37
theorem e20_35 : evK gS fi20 c20_35 fr st k = condK gS fi20 (fr.op (.tmp 26)).bool? c20_36 c20_37 fr st k := rfl
def c20_33 : Code := .seq c20_34 c20_35
theorem e20_33 : evK gS fi20 c20_33 fr st k = evK gS fi20 c20_34 fr st (.seq c20_35 k) := rfl
def c20_31 : Code := .cond (.tmp 26) c20_32 c20_33
theorem e20_31 : evK gS fi20 c20_31 fr st k = condK gS fi20 (fr.op (.tmp 26)).bool? c20_32 c20_33 fr st k := rfl
def c20_29 : Code := .seq c20_30 c20_31
theorem e20_29 : evK gS fi20 c20_29 fr st k = evK gS fi20 c20_30 fr st (.seq c20_31 k) := rfl
def c20_27 : Code := .cond (.tmp 26) c20_28 c20_29
theorem e20_27 : evK gS fi20 c20_27 fr st k = condK gS fi20 (fr.op (.tmp 26)).bool? c20_28 c20_29 fr st k := rfl
def c20_25 : Code := .seq c20_26 c20_27
theorem e20_25 : evK gS fi20 c20_25 fr st k = evK gS fi20 c20_26 fr st (.seq c20_27 k) := rfl
def c20_23 : Code := .cond (.tmp 26) c20_24 c20_25
theorem e20_23 : evK gS fi20 c20_23 fr st k = condK gS fi20 (fr.op (.tmp 26)).bool? c20_24 c20_25 fr st k := rfl
def c20_21 : Code := .seq c20_22 c20_23
theorem e20_21 : evK gS fi20 c20_21 fr st k = evK gS fi20 c20_22 fr st (.seq c20_23 k) := rfl
def c20_44 : Code := codeN b20 1259
theorem e20_44 : evK gS fi20 c20_44 fr st k = opsR gS fi20 [op1 33 (.fieldAddr 27 (.tmp 1) 2) 0,
 op1 34 (.load 24 (.tmp 33)) 24,
 op1 35 (.call { callee := (.value (.func 74)), args := #[(.tmp 34)], argTypes := #[24] }) 4,
 op1 36 (.move (.tmp 35)) 4,
 mk (some 37) (.fieldAddr 27 (.tmp 1) 3) 0 (some (3, true)),
 mk (some 38) (.load 24 (.tmp 37)) 24 (some (3, true)),
 mk (some 39) (.call { callee := (.value (.func 73)), args := #[(.tmp 38)], argTypes := #[24] }) 4 (some (3, true)),
 op1 40 (.pick (.tmp 36) (.tmp 39) (.const (.bool false))) 4,
 op1 41 (.move (.tmp 40)) 4,
 mk (some 42) (.fieldAddr 27 (.tmp 1) 4) 0 (some (8, true)),
 mk (some 43) (.load 25 (.tmp 42)) 25 (some (8, true)),
 mk (some 44) (.call { callee := (.builtin .len), args := #[(.tmp 43)], argTypes := #[25] }) 3 (some (8, true)),
 mk (some 45) (.binOp .eql 3 (.tmp 44) (.const (.int .i64 0)) 3) 4 (some (8, true)),
 op1 46 (.pick (.tmp 41) (.tmp 45) (.const (.bool false))) 4,
 op1 2 (.assign (.tmp 46)) 4] fr st k := evK_r 12 (by kernel_rfl)
def c20_45 : Code := .ret
theorem e20_45 : evK gS fi20 c20_45 fr st k = nextK gS fi20 k .ret fr st := rfl
def c20_43 : Code := .seq c20_44 c20_45
theorem e20_43 : evK gS fi20 c20_43 fr st k = evK gS fi20 c20_44 fr st (.seq c20_45 k) := rfl
def c20_47 : Code := codeN b20 1515
theorem e20_47 : evK gS fi20 c20_47 fr st k = opsR gS fi20 [op1 48 (.binOp .eql 3 (.tmp 9) (.const (.int .i64 8)) 3) 4,
 op1 47 (.assign (.tmp 48)) 4] fr st k := evK_r 13 (by kernel_rfl)
def c20_50 : Code := codeN b20 5099
theorem e20_50 : evK gS fi20 c20_50 fr st k = opsR gS fi20 [op1 49 (.fieldAddr 27 (.tmp 1) 2) 0,
 op1 50 (.load 24 (.tmp 49)) 24,
 op1 51 (.call { callee := (.value (.func 74)), args := #[(.tmp 50)], argTypes := #[24] }) 4,
 op1 52 (.move (.tmp 51)) 4,
 mk (some 53) (.fieldAddr 27 (.tmp 1) 3) 0 (some (3, true)),
 mk (some 54) (.load 24 (.tmp 53)) 24 (some (3, true)),
 mk (some 55) (.call { callee := (.value (.func 74)), args := #[(.tmp 54)], argTypes := #[24] }) 4 (some (3, true)),
 op1 56 (.pick (.tmp 52) (.tmp 55) (.const (.bool false))) 4,
 op1 57 (.move (.tmp 56)) 4,
 mk (some 58) (.fieldAddr 27 (.tmp 1) 4) 0 (some (8, true)),
 mk (some 59) (.load 25 (.tmp 58)) 25 (some (8, true)),
 mk (some 60) (.call { callee := (.builtin .len), args := #[(.tmp 59)], argTypes := #[25] }) 3 (some (8, true)),
 mk (some 61) (.binOp .eql 3 (.tmp 60) (.const (.int .i64 0)) 3) 4 (some (8, true)),
 op1 62 (.pick (.tmp 57) (.tmp 61) (.const (.bool false))) 4,
 op1 2 (.assign (.tmp 62)) 4] fr st k := evK_r 14 (by kernel_rfl)
def c20_51 : Code := .ret
theorem e20_51 : evK gS fi20 c20_51 fr st k = nextK gS fi20 k .ret fr st := rfl
def c20_49 : Code := .seq c20_50 c20_51
theorem e20_49 : evK gS fi20 c20_49 fr st k = evK gS fi20 c20_50 fr st (.seq c20_51 k) := rfl
def c20_53 : Code := codeN b20 6123
theorem e20_53 : evK gS fi20 c20_53 fr st k = opsR gS fi20 [op1 64 (.binOp .eql 3 (.tmp 9) (.const (.int .i64 9)) 3) 4,
 op1 63 (.assign (.tmp 64)) 4] fr st k := evK_r 15 (by kernel_rfl)
def c20_56 : Code := codeN b20 20459
theorem e20_56 : evK gS fi20 c20_56 fr st k = opsR gS fi20 [op1 65 (.fieldAddr 27 (.tmp 1) 2) 0,
 op1 66 (.load 24 (.tmp 65)) 24,
 op1 67 (.call { callee := (.value (.func 74)), args := #[(.tmp 66)], argTypes := #[24] }) 4,
 op1 68 (.move (.tmp 67)) 4,
 mk (some 69) (.fieldAddr 27 (.tmp 1) 2) 0 (some (3, true)),
 mk (some 70) (.fieldAddr 24 (.tmp 69) 0) 0 (some (3, true)),
 mk (some 71) (.load 3 (.tmp 70)) 3 (some (3, true)),
 mk (some 72) (.binOp .eql 3 (.tmp 71) (.const (.int .i64 3)) 3) 4 (some (3, true)),
 op1 73 (.pick (.tmp 68) (.tmp 72) (.const (.bool false))) 4,
 op1 74 (.move (.tmp 73)) 4,
 mk (some 75) (.fieldAddr 27 (.tmp 1) 3) 0 (some (9, true)),
 mk (some 76) (.load 24 (.tmp 75)) 24 (some (9, true)),
 mk (some 77) (.call { callee := (.value (.func 73)), args := #[(.tmp 76)], argTypes := #[24] }) 4 (some (9, true)),
 op1 78 (.pick (.tmp 74) (.tmp 77) (.const (.bool false))) 4,
 op1 79 (.move (.tmp 78)) 4,
 mk (some 80) (.fieldAddr 27 (.tmp 1) 4) 0 (some (14, true)),
 mk (some 81) (.load 25 (.tmp 80)) 25 (some (14, true)),
 mk (some 82) (.call { callee := (.builtin .len), args := #[(.tmp 81)], argTypes := #[25] }) 3 (some (14, true)),
 mk (some 83) (.binOp .eql 3 (.tmp 82) (.const (.int .i64 0)) 3) 4 (some (14, true)),
 op1 84 (.pick (.tmp 79) (.tmp 83) (.const (.bool false))) 4,
 op1 2 (.assign (.tmp 84)) 4] fr st k := evK_r 16 (by kernel_rfl)
def c20_57 : Code := .ret
theorem e20_57 : evK gS fi20 c20_57 fr st k = nextK gS fi20 k .ret fr st := rfl
def c20_55 : Code := .seq c20_56 c20_57
theorem e20_55 : evK gS fi20 c20_55 fr st k = evK gS fi20 c20_56 fr st (.seq c20_57 k) := rfl
def c20_59 : Code := codeN b20 24555
theorem e20_59 : evK gS fi20 c20_59 fr st k = opsR gS fi20 [op1 86 (.binOp .eql 3 (.tmp 9) (.const (.int .i64 10)) 3) 4,
 op1 85 (.assign (.tmp 86)) 4] fr st k := evK_r 17 (by kernel_rfl)
def c20_63 : Code := codeN b20 147435
theorem e20_63 : evK gS fi20 c20_63 fr st k = opsR gS fi20 [op1 3 (.assign (.const (.int .i64 0))) 3] fr st k := evK_r 18 (by kernel_rfl)
def c20_68 : Code := codeN b20 2179051
theorem e20_68 : evK gS fi20 c20_68 fr st k = opsR gS fi20 [op1 87 (.move (.tmp 3)) 3,
 op1 88 (.fieldAddr 27 (.tmp 1) 4) 0,
 op1 89 (.load 25 (.tmp 88)) 25,
 op1 90 (.call { callee := (.builtin .len), args := #[(.tmp 89)], argTypes := #[25] }) 3,
 op1 91 (.binOp .lss 3 (.tmp 87) (.tmp 90) 3) 4] fr st k := evK_r 19 (by kernel_rfl)
def c20_70 : Code := .skip
theorem e20_70 : evK gS fi20 c20_70 fr st k = nextK gS fi20 k .normal fr st := rfl
def c20_71 : Code := .exit 1
theorem e20_71 : evK gS fi20 c20_71 fr st k = nextK gS fi20 k (.exit 1) fr st := rfl
def c20_69 : Code := .cond (.tmp 91) c20_70 c20_71
theorem e20_69 : evK gS fi20 c20_69 fr st k = condK gS fi20 (fr.op (.tmp 91)).bool? c20_70 c20_71 fr st k := rfl
def c20_67 : Code := .seq c20_68 c20_69
theorem e20_67 : evK gS fi20 c20_67 fr st k = evK gS fi20 c20_68 fr st (.seq c20_69 k) := rfl
def c20_75 : Code := codeN b20 8994795
theorem e20_75 : evK gS fi20 c20_75 fr st k = opsR gS fi20 [op1 94 (.fieldAddr 27 (.tmp 1) 4) 0,
 op1 95 (.load 25 (.tmp 94)) 25,
 op1 96 (.move (.tmp 3)) 3,
 op1 97 (.indexAddr 25 (.tmp 95) (.tmp 96)) 0,
 op1 98 (.load 24 (.tmp 97)) 24,
 op1 99 (.call { callee := (.value (.func 74)), args := #[(.tmp 98)], argTypes := #[24] }) 4,
 op1 100 (.unOp .not 4 (.tmp 99)) 4] fr st k := evK_r 21 (by kernel_rfl)
def c20_78 : Code := codeN b20 38354923
theorem e20_78 : evK gS fi20 c20_78 fr st k = opsR gS fi20 [op1 2 (.assign (.const (.bool false))) 4] fr st k := evK_r 22 (by kernel_rfl)
def c20_79 : Code := .ret
theorem e20_79 : evK gS fi20 c20_79 fr st k = nextK gS fi20 k .ret fr st := rfl
def c20_77 : Code := .seq c20_78 c20_79
theorem e20_77 : evK gS fi20 c20_77 fr st k = evK gS fi20 c20_78 fr st (.seq c20_79 k) := rfl
def c20_80 : Code := .skip
theorem e20_80 : evK gS fi20 c20_80 fr st k = nextK gS fi20 k .normal fr st := rfl
def c20_76 : Code := .cond (.tmp 100) c20_77 c20_80
theorem e20_76 : evK gS fi20 c20_76 fr st k = condK gS fi20 (fr.op (.tmp 100)).bool? c20_77 c20_80 fr st k := rfl
def c20_74 : Code := .seq c20_75 c20_76
theorem e20_74 : evK gS fi20 c20_74 fr st k = evK gS fi20 c20_75 fr st (.seq c20_76 k) := rfl
def c20_73 : Code := .block 2 c20_74
theorem e20_73 : evK gS fi20 c20_73 fr st k = evK gS fi20 c20_74 fr st (.blk 2 k) := rfl
def c20_81 : Code := codeN b20 3751915
theorem e20_81 : evK gS fi20 c20_81 fr st k = opsR gS fi20 [op1 92 (.move (.tmp 3)) 3,
 op1 93 (.binOp .add 3 (.tmp 92) (.const (.int .i64 1)) 3) 3,
 op1 3 (.assign (.tmp 93)) 3] fr st k := evK_r 20 (by kernel_rfl)
def c20_72 : Code := .seq c20_73 c20_81
theorem e20_72 : evK gS fi20 c20_72 fr st k = evK gS fi20 c20_73 fr st (.seq c20_81 k) := rfl
def c20_66 : Code := .seq c20_67 c20_72
theorem e20_66 : evK gS fi20 c20_66 fr st k = evK gS fi20 c20_67 fr st (.seq c20_72 k) := rfl
def c20_65 : Code := .loop c20_66
def c20_64 : Code := .block 1 c20_65
theorem e20_64 : evK gS fi20 c20_64 fr st k = evK gS fi20 c20_65 fr st (.blk 1 k) := rfl
def c20_62 : Code := .seq c20_63 c20_64
theorem e20_62 : evK gS fi20 c20_62 fr st k = evK gS fi20 c20_63 fr st (.seq c20_64 k) := rfl
def c20_83 : Code := codeN b20 180203
theorem e20_83 : evK gS fi20 c20_83 fr st k = opsR gS fi20 [op1 101 (.fieldAddr 27 (.tmp 1) 2) 0,
 op1 102 (.load 24 (.tmp 101)) 24,
 op1 103 (.call { callee := (.value (.func 73)), args := #[(.tmp 102)], argTypes := #[24] }) 4,
 op1 104 (.move (.tmp 103)) 4,
 mk (some 105) (.fieldAddr 27 (.tmp 1) 3) 0 (some (3, true)),
 mk (some 106) (.load 24 (.tmp 105)) 24 (some (3, true)),
 mk (some 107) (.call { callee := (.value (.func 73)), args := #[(.tmp 106)], argTypes := #[24] }) 4 (some (3, true)),
 op1 108 (.pick (.tmp 104) (.tmp 107) (.const (.bool false))) 4,
 op1 109 (.move (.tmp 108)) 4,
 mk (some 110) (.fieldAddr 27 (.tmp 1) 4) 0 (some (8, true)),
 mk (some 111) (.load 25 (.tmp 110)) 25 (some (8, true)),
 mk (some 112) (.call { callee := (.builtin .len), args := #[(.tmp 111)], argTypes := #[25] }) 3 (some (8, true)),
 mk (some 113) (.binOp .geq 3 (.tmp 112) (.const (.int .i64 1)) 3) 4 (some (8, true)),
 op1 114 (.pick (.tmp 109) (.tmp 113) (.const (.bool false))) 4,
 op1 115 (.move (.tmp 114)) 4,
 mk (some 116) (.fieldAddr 27 (.tmp 1) 4) 0 (some (14, true)),
 mk (some 117) (.load 25 (.tmp 116)) 25 (some (14, true)),
 mk (some 118) (.call { callee := (.builtin .len), args := #[(.tmp 117)], argTypes := #[25] }) 3 (some (14, true)),
 mk (some 119) (.binOp .leq 3 (.tmp 118) (.const (.int .i64 4)) 3) 4 (some (14, true)),
 op1 120 (.pick (.tmp 115) (.tmp 119) (.const (.bool false))) 4,
 op1 2 (.assign (.tmp 120)) 4] fr st k := evK_r 23 (by kernel_rfl)
def c20_84 : Code := .ret
theorem e20_84 : evK gS fi20 c20_84 fr st k = nextK gS fi20 k .ret fr st := rfl
def c20_82 : Code := .seq c20_83 c20_84
theorem e20_82 : evK gS fi20 c20_82 fr st k = evK gS fi20 c20_83 fr st (.seq c20_84 k) := rfl
def c20_61 : Code := .seq c20_62 c20_82
theorem e20_61 : evK gS fi20 c20_61 fr st k = evK gS fi20 c20_62 fr st (.seq c20_82 k) := rfl
def c20_85 : Code := .skip
theorem e20_85 : evK gS fi20 c20_85 fr st k = nextK gS fi20 k .normal fr st := rfl
def c20_60 : Code := .cond (.tmp 85) c20_61 c20_85
theorem e20_60 : evK gS fi20 c20_60 fr st k = condK gS fi20 (fr.op (.tmp 85)).bool? c20_61 c20_85 fr st k := rfl
def c20_58 : Code := .seq c20_59 c20_60
theorem e20_58 : evK gS fi20 c20_58 fr st k = evK gS fi20 c20_59 fr st (.seq c20_60 k) := rfl
def c20_54 : Code := .cond (.tmp 63) c20_55 c20_58
theorem e20_54 : evK gS fi20 c20_54 fr st k = condK gS fi20 (fr.op (.tmp 63)).bool? c20_55 c20_58 fr st k := rfl
def c20_52 : Code := .seq c20_53 c20_54
theorem e20_52 : evK gS fi20 c20_52 fr st k = evK gS fi20 c20_53 fr st (.seq c20_54 k) := rfl
def c20_48 : Code := .cond (.tmp 47) c20_49 c20_52
theorem e20_48 : evK gS fi20 c20_48 fr st k = condK gS fi20 (fr.op (.tmp 47)).bool? c20_49 c20_52 fr st k := rfl
def c20_46 : Code := .seq c20_47 c20_48
theorem e20_46 : evK gS fi20 c20_46 fr st k = evK gS fi20 c20_47 fr st (.seq c20_48 k) := rfl
def c20_42 : Code := .cond (.tmp 26) c20_43 c20_46
theorem e20_42 : evK gS fi20 c20_42 fr st k = condK gS fi20 (fr.op (.tmp 26)).bool? c20_43 c20_46 fr st k := rfl
def c20_20 : Code := .seq c20_21 c20_42
theorem e20_20 : evK gS fi20 c20_20 fr st k = evK gS fi20 c20_21 fr st (.seq c20_42 k) := rfl
def c20_16 : Code := .cond (.tmp 10) c20_17 c20_20
theorem e20_16 : evK gS fi20 c20_16 fr st k = condK gS fi20 (fr.op (.tmp 10)).bool? c20_17 c20_20 fr st k := rfl
def c20_14 : Code := .seq c20_15 c20_16
theorem e20_14 : evK gS fi20 c20_14 fr st k = evK gS fi20 c20_15 fr st (.seq c20_16 k) := rfl
def c20_13 : Code := .block 0 c20_14
theorem e20_13 : evK gS fi20 c20_13 fr st k = evK gS fi20 c20_14 fr st (.blk 0 k) := rfl
def c20_11 : Code := .seq c20_12 c20_13
theorem e20_11 : evK gS fi20 c20_11 fr st k = evK gS fi20 c20_12 fr st (.seq c20_13 k) := rfl
def c20_87 : Code := codeN b20 23
theorem e20_87 : evK gS fi20 c20_87 fr st k = opsR gS fi20 [op1 2 (.assign (.const (.bool false))) 4] fr st k := evK_r 24 (by kernel_rfl)
def c20_88 : Code := .ret
theorem e20_88 : evK gS fi20 c20_88 fr st k = nextK gS fi20 k .ret fr st := rfl
def c20_86 : Code := .seq c20_87 c20_88
theorem e20_86 : evK gS fi20 c20_86 fr st k = evK gS fi20 c20_87 fr st (.seq c20_88 k) := rfl
def c20_10 : Code := .seq c20_11 c20_86
theorem e20_10 : evK gS fi20 c20_10 fr st k = evK gS fi20 c20_11 fr st (.seq c20_86 k) := rfl
def c20_2 : Code := .seq c20_3 c20_10
theorem e20_2 : evK gS fi20 c20_2 fr st k = evK gS fi20 c20_3 fr st (.seq c20_10 k) := rfl
def c20_0 : Code := .seq c20_1 c20_2
theorem e20_0 : evK gS fi20 c20_0 fr st k = evK gS fi20 c20_1 fr st (.seq c20_2 k) := rfl
theorem m20 : mini fi20.body = c20_0 := by kernel_rfl
theorem n20_65 (fr : Fr) (st : St) (k : Kt) : nextK gS fi20 (.loop c20_66 k) .normal fr st = evK gS fi20 c20_65 fr st k := rfl
set_option maxHeartbeats 4000000 in
theorem L20_65 (p : Pred) (h_p : p.ok) (st : St) : ∀ (n i : Nat) (j : Int)  (e0 e2 e9 e26 : E) (T : List (Nat × E)) (X : List (Nat × List V)) (ht0 : e0.Tame) (ht2 : e2.Tame) (ht9 : e9.Tame) (ht26 : e26.Tame) (hx1 : lk X 1 = some [.str p.name, .int .i64 p.test, .int .i64 p.v.kind, .int .i64 p.v.n, .float .f64 p.v.x, .str p.v.s, .bool p.v.b, .int .i64 p.w.kind, .int .i64 p.w.n, .float .f64 p.w.x, .str p.w.s, .bool p.w.b, .slice (encVals p.set)]) , j = (i : Int) → i ≤ (p.set).length → (p.set).length - i = n →
    evK gS fi20 c20_65 { ps := [(0, e0), (1, .lp 1 0), (2, e2), (3, .val (.int .i64 j)), (9, e9), (26, e26)], ts := T, lc := X } st (.blk 1 (.seq c20_82 (.blk 0 (.seq c20_86 .nil)))) = some ((.ret (.bool ((p.set.drop i).all vright && (vsame p.v vzero && vsame p.w vzero && 1 ≤ p.set.length && p.set.length ≤ 4))) none), st) := by
  intro n
  have hm : fi20.marks = [] := rfl
  have hl : fi20.locals = [1] := rfl
  have hr : fi20.results = [.tmp 2] := rfl
  have hpo := h_p.2
  induction n with
  | zero =>
    intro i j  e0 e2 e9 e26 T X ht0 ht2 ht9 ht26 hx1  hj hi hn
    obtain rfl : i = (p.set).length := by omega
    subst hj
    refine evK_loop c20_66 _ st _ _ rfl ?_
    simp (config := { contextual := true, maxSteps := 10000000, maxDischargeDepth := 6 }) [-Int.not_le, -Int.not_lt, -Nat.not_le, -Nat.not_lt, ty3, ty4, ty9, ty24, ty25, ty27, eq24, hm, hl, hr, k72, k73, k74, e20_1, e20_4, e20_7, e20_8, e20_6, e20_9, e20_5, e20_3, e20_12, e20_15, e20_18, e20_19, e20_17, e20_22, e20_24, e20_26, e20_28, e20_30, e20_32, e20_34, e20_36, e20_38, e20_40, e20_41, e20_39, e20_37, e20_35, e20_33, e20_31, e20_29, e20_27, e20_25, e20_23, e20_21, e20_44, e20_45, e20_43, e20_47, e20_50, e20_51, e20_49, e20_53, e20_56, e20_57, e20_55, e20_59, e20_63, e20_68, e20_70, e20_71, e20_69, e20_67, e20_75, e20_78, e20_79, e20_77, e20_80, e20_76, e20_74, e20_73, e20_81, e20_72, e20_66, e20_64, e20_62, e20_83, e20_84, e20_82, e20_61, e20_85, e20_60, e20_58, e20_54, e20_52, e20_48, e20_46, e20_42, e20_20, e20_16, e20_14, e20_13, e20_11, e20_87, e20_88, e20_86, e20_10, e20_2, e20_0, n20_65, h_p.1, h_p.2, ht0, ht2, ht9, ht26, hx1]
    all_goals first | done | grind | omega | (trace_state; fail)
  | succ n ih =>
    intro i j  e0 e2 e9 e26 T X ht0 ht2 ht9 ht26 hx1  hj hi hn
    subst hj
    obtain ⟨x, hx⟩ : ∃ x, (p.set)[i]? = some x := ⟨(p.set)[i]'(by omega), List.getElem?_eq_getElem (by omega)⟩
    have hd := drop_get hx
    have hlt : (i : Int) < ((p.set).length : Int) := by omega
    have hlt2 : i < (p.set).length := by omega
    have hxe : (p.set)[i]'hlt2 = x := by rw [List.getElem?_eq_getElem hlt2] at hx; exact Option.some.inj hx
    have hw : IntKind.wrap .i64 ((i : Int) + 1) = (i : Int) + 1 := wrap64 (by omega) (by omega)
    have IH := fun e0 e2 e9 e26 T X ht0 ht2 ht9 ht26 hx1 => ih (i + 1) ((i : Int) + 1) e0 e2 e9 e26 T X ht0 ht2 ht9 ht26 hx1 rfl (by omega) (by omega)
    refine evK_loop c20_66 _ st _ _ rfl ?_
    simp (config := { contextual := true, maxSteps := 10000000, maxDischargeDepth := 6 }) [-Int.not_le, -Int.not_lt, -Nat.not_le, -Nat.not_lt, ty3, ty4, ty9, ty24, ty25, ty27, eq24, hm, hl, hr, k72, k73, k74, e20_1, e20_4, e20_7, e20_8, e20_6, e20_9, e20_5, e20_3, e20_12, e20_15, e20_18, e20_19, e20_17, e20_22, e20_24, e20_26, e20_28, e20_30, e20_32, e20_34, e20_36, e20_38, e20_40, e20_41, e20_39, e20_37, e20_35, e20_33, e20_31, e20_29, e20_27, e20_25, e20_23, e20_21, e20_44, e20_45, e20_43, e20_47, e20_50, e20_51, e20_49, e20_53, e20_56, e20_57, e20_55, e20_59, e20_63, e20_68, e20_70, e20_71, e20_69, e20_67, e20_75, e20_78, e20_79, e20_77, e20_80, e20_76, e20_74, e20_73, e20_81, e20_72, e20_66, e20_64, e20_62, e20_83, e20_84, e20_82, e20_61, e20_85, e20_60, e20_58, e20_54, e20_52, e20_48, e20_46, e20_42, e20_20, e20_16, e20_14, e20_13, e20_11, e20_87, e20_88, e20_86, e20_10, e20_2, e20_0, n20_65, h_p.1, h_p.2, ht0, ht2, ht9, ht26, hx1, hx, hxe, hd, hlt, hlt2, hw, IH]
    all_goals first | done | grind | omega | (trace_state; fail)
set_option maxHeartbeats 4000000 in
theorem c20 (p : Pred)  (h_p : Pred.ok p) (st : St) : EvF gS 20 [p.enc] st = some (.ret (.bool (pright p)) none, st) := by
  refine EvF_start fi20_eq (fun x h => by cases h) m20 ?_
  rw [st20]
  have hm : fi20.marks = [] := rfl
  have hl : fi20.locals = [1] := rfl
  have hr : fi20.results = [.tmp 2] := rfl
  simp (config := { contextual := true, maxSteps := 10000000, maxDischargeDepth := 6 }) [-Int.not_le, -Int.not_lt, -Nat.not_le, -Nat.not_lt, ty3, ty4, ty9, ty24, ty25, ty27, eq24, hm, hl, hr, k72, k73, k74, e20_1, e20_4, e20_7, e20_8, e20_6, e20_9, e20_5, e20_3, e20_12, e20_15, e20_18, e20_19, e20_17, e20_22, e20_24, e20_26, e20_28, e20_30, e20_32, e20_34, e20_36, e20_38, e20_40, e20_41, e20_39, e20_37, e20_35, e20_33, e20_31, e20_29, e20_27, e20_25, e20_23, e20_21, e20_44, e20_45, e20_43, e20_47, e20_50, e20_51, e20_49, e20_53, e20_56, e20_57, e20_55, e20_59, e20_63, e20_68, e20_70, e20_71, e20_69, e20_67, e20_75, e20_78, e20_79, e20_77, e20_80, e20_76, e20_74, e20_73, e20_81, e20_72, e20_66, e20_64, e20_62, e20_83, e20_84, e20_82, e20_61, e20_85, e20_60, e20_58, e20_54, e20_52, e20_48, e20_46, e20_42, e20_20, e20_16, e20_14, e20_13, e20_11, e20_87, e20_88, e20_86, e20_10, e20_2, e20_0, n20_65, (fun e0 e2 e9 e26 T X ht0 ht2 ht9 ht26 hx1 => L20_65 p h_p st _ 0 0  e0 e2 e9 e26 T X ht0 ht2 ht9 ht26 hx1 rfl (Nat.zero_le _) rfl), h_p.1, h_p.2]
  all_goals try simp (config := { contextual := true }) [-Int.not_le, -Int.not_lt, -Nat.not_le, -Nat.not_lt, pright]
  all_goals first | done | grind | omega | (trace_state; fail)
theorem k20 (p_name : List UInt8) (p_test : Int) (p_vk : Int) (p_vn : Int) (p_vx : Nat) (p_vs : List UInt8) (p_vb : Bool) (p_wk : Int) (p_wn : Int) (p_wx : Nat) (p_ws : List UInt8) (p_wb : Bool) (p_set : List Val)  (h_p : Pred.ok (⟨p_name, p_test, ⟨p_vk, p_vn, p_vx, p_vs, p_vb⟩, ⟨p_wk, p_wn, p_wx, p_ws, p_wb⟩, p_set⟩ : Pred)) (fr : Fr) (st : St) : callStep gS (EvF gS) 20 [.agg [.str p_name, .int .i64 p_test, .int .i64 p_vk, .int .i64 p_vn, .float .f64 p_vx, .str p_vs, .bool p_vb, .int .i64 p_wk, .int .i64 p_wn, .float .f64 p_wx, .str p_ws, .bool p_wb, .slice (encVals p_set)]] fr st = some (.ok (retE none (.bool (pright (⟨p_name, p_test, ⟨p_vk, p_vn, p_vx, p_vs, p_vb⟩, ⟨p_wk, p_wn, p_wx, p_ws, p_wb⟩, p_set⟩ : Pred)))) fr st) :=
  call_pure rfl fi20_eq rfl (fun st => c20 (⟨p_name, p_test, ⟨p_vk, p_vn, p_vx, p_vs, p_vb⟩, ⟨p_wk, p_wn, p_wx, p_ws, p_wb⟩, p_set⟩ : Pred) h_p st) (by simp)
theorem x20 : gS.ext 20 = none := rfl
theorem p20 : fi20.pure = true := rfl
end
end Go.Proofs.Ytclpbfkbpcjejaa
namespace Go.Proofs.Ytclpbfkbpcjejaa
open Go Go.Ab
set_option linter.unusedVariables false
set_option linter.unusedSimpArgs false
set_option linter.unnecessarySimpa false
set_option maxRecDepth 20000
noncomputable section
variable (fr : Fr) (st : St) (k : Kt)
def fi25 : FI := { body := codeOf Try.f25, ntmps := 62, results := [.tmp 4], pers := [0, 1, 2, 3, 4, 5, 45, 46], locals := [2, 3], pure := true, marks := [] }
theorem fi25_eq : gS.fn 25 = some fi25 := by kernel_rfl
theorem st25 (a0 a1 : V) : startFr fi25 [a0, a1] = { ps := [(0, .val a0), (1, .val a1), (2, .any), (3, .any), (4, .any), (5, .any), (45, .any), (46, .any)], ts := [], lc := [] } := rfl
def b25 : Code := mini (codeOf Try.f25)
def c25_1 : Code := codeN b25 2
theorem e25_1 : evK gS fi25 c25_1 fr st k = opsR gS fi25 [op1 2 (.box 27 (.tmp 0)) 0,
 op1 3 (.box 27 (.tmp 1)) 0,
 op1 4 (.assign (.const (.bool false))) 4] fr st k := evK_r 0 (by kernel_rfl)
def c25_4 : Code := codeN b25 9
theorem e25_4 : evK gS fi25 c25_4 fr st k = opsR gS fi25 [op1 6 (.fieldAddr 27 (.tmp 2) 0) 0,
 op1 7 (.load 9 (.tmp 6)) 9,
 op1 8 (.fieldAddr 27 (.tmp 3) 0) 0,
 op1 9 (.load 9 (.tmp 8)) 9,
 op1 10 (.binOp .neq 9 (.tmp 7) (.tmp 9) 9) 4,
 op1 11 (.move (.tmp 10)) 4,
 mk (some 12) (.fieldAddr 27 (.tmp 2) 1) 0 (some (5, false)),
 mk (some 13) (.load 3 (.tmp 12)) 3 (some (5, false)),
 mk (some 14) (.fieldAddr 27 (.tmp 3) 1) 0 (some (5, false)),
 mk (some 15) (.load 3 (.tmp 14)) 3 (some (5, false)),
 mk (some 16) (.binOp .neq 3 (.tmp 13) (.tmp 15) 3) 4 (some (5, false)),
 op1 17 (.pick (.tmp 11) (.const (.bool true)) (.tmp 16)) 4,
 op1 18 (.move (.tmp 17)) 4,
 mk (some 19) (.fieldAddr 27 (.tmp 2) 2) 0 (some (12, false)),
 mk (some 20) (.load 24 (.tmp 19)) 24 (some (12, false)),
 mk (some 21) (.fieldAddr 27 (.tmp 3) 2) 0 (some (12, false)),
 mk (some 22) (.load 24 (.tmp 21)) 24 (some (12, false)),
 mk (some 23) (.call { callee := (.value (.func 81)), args := #[(.tmp 20), (.tmp 22)], argTypes := #[24, 24] }) 4 (some (12, false)),
 mk (some 24) (.unOp .not 4 (.tmp 23)) 4 (some (12, false)),
 op1 25 (.pick (.tmp 18) (.const (.bool true)) (.tmp 24)) 4,
 op1 26 (.move (.tmp 25)) 4,
 mk (some 27) (.fieldAddr 27 (.tmp 2) 3) 0 (some (20, false)),
 mk (some 28) (.load 24 (.tmp 27)) 24 (some (20, false)),
 mk (some 29) (.fieldAddr 27 (.tmp 3) 3) 0 (some (20, false)),
 mk (some 30) (.load 24 (.tmp 29)) 24 (some (20, false)),
 mk (some 31) (.call { callee := (.value (.func 81)), args := #[(.tmp 28), (.tmp 30)], argTypes := #[24, 24] }) 4 (some (20, false)),
 mk (some 32) (.unOp .not 4 (.tmp 31)) 4 (some (20, false)),
 op1 33 (.pick (.tmp 26) (.const (.bool true)) (.tmp 32)) 4,
 op1 34 (.move (.tmp 33)) 4,
 mk (some 35) (.fieldAddr 27 (.tmp 2) 4) 0 (some (28, false)),
 mk (some 36) (.load 25 (.tmp 35)) 25 (some (28, false)),
 mk (some 37) (.call { callee := (.builtin .len), args := #[(.tmp 36)], argTypes := #[25] }) 3 (some (28, false)),
 mk (some 38) (.fieldAddr 27 (.tmp 3) 4) 0 (some (28, false)),
 mk (some 39) (.load 25 (.tmp 38)) 25 (some (28, false)),
 mk (some 40) (.call { callee := (.builtin .len), args := #[(.tmp 39)], argTypes := #[25] }) 3 (some (28, false)),
 mk (some 41) (.binOp .neq 3 (.tmp 37) (.tmp 40) 3) 4 (some (28, false)),
 op1 42 (.pick (.tmp 34) (.const (.bool true)) (.tmp 41)) 4] fr st k := evK_r 1 (by kernel_rfl)
def c25_7 : Code := codeN b25 37
theorem e25_7 : evK gS fi25 c25_7 fr st k = opsR gS fi25 [op1 4 (.assign (.const (.bool false))) 4] fr st k := evK_r 2 (by kernel_rfl)
def c25_8 : Code := .ret
theorem e25_8 : evK gS fi25 c25_8 fr st k = nextK gS fi25 k .ret fr st := rfl
def c25_6 : Code := .seq c25_7 c25_8
theorem e25_6 : evK gS fi25 c25_6 fr st k = evK gS fi25 c25_7 fr st (.seq c25_8 k) := rfl
def c25_9 : Code := .skip
theorem e25_9 : evK gS fi25 c25_9 fr st k = nextK gS fi25 k .normal fr st := rfl
def c25_5 : Code := .cond (.tmp 42) c25_6 c25_9
theorem e25_5 : evK gS fi25 c25_5 fr st k = condK gS fi25 (fr.op (.tmp 42)).bool? c25_6 c25_9 fr st k := rfl
def c25_3 : Code := .seq c25_4 c25_5
theorem e25_3 : evK gS fi25 c25_3 fr st k = evK gS fi25 c25_4 fr st (.seq c25_5 k) := rfl
def c25_12 : Code := codeN b25 19
theorem e25_12 : evK gS fi25 c25_12 fr st k = opsR gS fi25 [op1 43 (.fieldAddr 27 (.tmp 2) 4) 0,
 op1 44 (.load 25 (.tmp 43)) 25,
 op1 45 (.call { callee := (.builtin .len), args := #[(.tmp 44)], argTypes := #[25] }) 3,
 op1 46 (.move (.const (.int .i64 0))) 3] fr st k := evK_r 3 (by kernel_rfl)
def c25_16 : Code := codeN b25 139
theorem e25_16 : evK gS fi25 c25_16 fr st k = opsR gS fi25 [op1 47 (.binOp .lss 3 (.tmp 46) (.tmp 45) 3) 0] fr st k := evK_r 4 (by kernel_rfl)
def c25_19 : Code := .skip
theorem e25_19 : evK gS fi25 c25_19 fr st k = nextK gS fi25 k .normal fr st := rfl
def c25_20 : Code := .exit 0
theorem e25_20 : evK gS fi25 c25_20 fr st k = nextK gS fi25 k (.exit 0) fr st := rfl
def c25_18 : Code := .cond (.tmp 47) c25_19 c25_20
theorem e25_18 : evK gS fi25 c25_18 fr st k = condK gS fi25 (fr.op (.tmp 47)).bool? c25_19 c25_20 fr st k := rfl
def c25_24 : Code := codeN b25 2251
theorem e25_24 : evK gS fi25 c25_24 fr st k = opsR gS fi25 [op1 48 (.move (.tmp 46)) 3,
 op1 5 (.assign (.tmp 48)) 3] fr st k := evK_r 5 (by kernel_rfl)
def r25_26 : Array Oper := regOps (codeN (codeOf Try.f25) 5323)
def c25_26 : Code := .region 6 r25_26 true
def q25_26 : List (Oper × Fl) := [(op1 49 (.fieldAddr 27 (.tmp 2) 4) 0, ⟨true, false, true, false, false, false, true, true, false, false, []⟩),
 (op1 50 (.load 25 (.tmp 49)) 25, ⟨true, false, true, false, false, false, true, true, false, false, []⟩),
 (op1 51 (.move (.tmp 5)) 3, ⟨true, false, true, false, false, false, true, true, false, false, []⟩),
 (op1 52 (.indexAddr 25 (.tmp 50) (.tmp 51)) 0, ⟨true, false, true, false, false, false, true, true, false, false, []⟩),
 (op1 53 (.load 24 (.tmp 52)) 24, ⟨true, false, true, false, false, false, true, true, false, false, []⟩),
 (op1 54 (.fieldAddr 27 (.tmp 3) 4) 0, ⟨true, false, true, false, false, false, true, true, false, false, []⟩),
 (op1 55 (.load 25 (.tmp 54)) 25, ⟨true, false, true, false, false, false, true, true, false, false, []⟩),
 (op1 56 (.move (.tmp 5)) 3, ⟨true, false, true, false, true, false, true, true, false, false, []⟩),
 (op1 57 (.indexAddr 25 (.tmp 55) (.tmp 56)) 0, ⟨true, false, true, false, true, false, true, true, false, false, []⟩),
 (op1 58 (.load 24 (.tmp 57)) 24, ⟨true, false, true, false, true, false, true, true, false, false, []⟩),
 (op1 59 (.call { callee := (.value (.func 81)), args := #[(.tmp 53), (.tmp 58)], argTypes := #[24, 24] }) 4, ⟨true, true, true, false, true, true, true, true, false, false, []⟩),
 (op1 60 (.unOp .not 4 (.tmp 59)) 4, ⟨true, false, true, false, true, false, true, true, false, false, []⟩)]
theorem e25_26 : evK gS fi25 c25_26 fr st k = drwR gS fi25 r25_26 q25_26 fr st k := evK_dr 6 rfl (by kernel_rfl) (by kernel_rfl)
def c25_29 : Code := codeN b25 19659
theorem e25_29 : evK gS fi25 c25_29 fr st k = opsR gS fi25 [op1 4 (.assign (.const (.bool false))) 4] fr st k := evK_r 7 (by kernel_rfl)
def c25_30 : Code := .ret
theorem e25_30 : evK gS fi25 c25_30 fr st k = nextK gS fi25 k .ret fr st := rfl
def c25_28 : Code := .seq c25_29 c25_30
theorem e25_28 : evK gS fi25 c25_28 fr st k = evK gS fi25 c25_29 fr st (.seq c25_30 k) := rfl
def c25_31 : Code := .skip
theorem e25_31 : evK gS fi25 c25_31 fr st k = nextK gS fi25 k .normal fr st := rfl
def c25_27 : Code := .cond (.tmp 60) c25_28 c25_31
theorem e25_27 : evK gS fi25 c25_27 fr st k = condK gS fi25 (fr.op (.tmp 60)).bool? c25_28 c25_31 fr st k := rfl
def c25_25 : Code := .seq c25_26 c25_27
theorem e25_25 : evK gS fi25 c25_25 fr st k = evK gS fi25 c25_26 fr st (.seq c25_27 k) := rfl
def c25_23 : Code := .seq c25_24 c25_25
theorem e25_23 : evK gS fi25 c25_23 fr st k = evK gS fi25 c25_24 fr st (.seq c25_25 k) := rfl
def c25_22 : Code := .block 1 c25_23
theorem e25_22 : evK gS fi25 c25_22 fr st k = evK gS fi25 c25_23 fr st (.blk 1 k) := rfl
def c25_32 : Code := codeN b25 971
theorem e25_32 : evK gS fi25 c25_32 fr st k = opsR gS fi25 [op1 61 (.binOp .add 3 (.tmp 46) (.const (.int .i64 1)) 3) 3,
 op1 46 (.move (.tmp 61)) 3] fr st k := evK_r 8 (by kernel_rfl)
def c25_21 : Code := .seq c25_22 c25_32
theorem e25_21 : evK gS fi25 c25_21 fr st k = evK gS fi25 c25_22 fr st (.seq c25_32 k) := rfl
def c25_17 : Code := .seq c25_18 c25_21
theorem e25_17 : evK gS fi25 c25_17 fr st k = evK gS fi25 c25_18 fr st (.seq c25_21 k) := rfl
def c25_15 : Code := .seq c25_16 c25_17
theorem e25_15 : evK gS fi25 c25_15 fr st k = evK gS fi25 c25_16 fr st (.seq c25_17 k) := rfl
def c25_14 : Code := .loop c25_15
def c25_13 : Code := .block 0 c25_14
theorem e25_13 : evK gS fi25 c25_13 fr st k = evK gS fi25 c25_14 fr st (.blk 0 k) := rfl
def c25_11 : Code := .seq c25_12 c25_13
theorem e25_11 : evK gS fi25 c25_11 fr st k = evK gS fi25 c25_12 fr st (.seq c25_13 k) := rfl
def c25_34 : Code := codeN b25 23
theorem e25_34 : evK gS fi25 c25_34 fr st k = opsR gS fi25 [op1 4 (.assign (.const (.bool true))) 4] fr st k := evK_r 9 (by kernel_rfl)
def c25_35 : Code := .ret
theorem e25_35 : evK gS fi25 c25_35 fr st k = nextK gS fi25 k .ret fr st := rfl
def c25_33 : Code := .seq c25_34 c25_35
theorem e25_33 : evK gS fi25 c25_33 fr st k = evK gS fi25 c25_34 fr st (.seq c25_35 k) := rfl
def c25_10 : Code := .seq c25_11 c25_33
theorem e25_10 : evK gS fi25 c25_10 fr st k = evK gS fi25 c25_11 fr st (.seq c25_33 k) := rfl
def c25_2 : Code := .seq c25_3 c25_10
theorem e25_2 : evK gS fi25 c25_2 fr st k = evK gS fi25 c25_3 fr st (.seq c25_10 k) := rfl
def c25_0 : Code := .seq c25_1 c25_2
theorem e25_0 : evK gS fi25 c25_0 fr st k = evK gS fi25 c25_1 fr st (.seq c25_2 k) := rfl
theorem m25 : mini fi25.body = c25_0 := by kernel_rfl
theorem n25_14 (fr : Fr) (st : St) (k : Kt) : nextK gS fi25 (.loop c25_15 k) .normal fr st = evK gS fi25 c25_14 fr st k := rfl
set_option maxHeartbeats 4000000 in
theorem L25_14 (a : Pred) (b : Pred) (h_a : a.ok) (st : St) : ∀ (n i : Nat) (j : Int) (m : Int) (e0 e1 e4 e5 : E) (T : List (Nat × E)) (X : List (Nat × List V)) (ht0 : e0.Tame) (ht1 : e1.Tame) (ht4 : e4.Tame) (ht5 : e5.Tame) (hx2 : lk X 2 = some [.str a.name, .int .i64 a.test, .int .i64 a.v.kind, .int .i64 a.v.n, .float .f64 a.v.x, .str a.v.s, .bool a.v.b, .int .i64 a.w.kind, .int .i64 a.w.n, .float .f64 a.w.x, .str a.w.s, .bool a.w.b, .slice (encVals a.set)]) (hx3 : lk X 3 = some [.str b.name, .int .i64 b.test, .int .i64 b.v.kind, .int .i64 b.v.n, .float .f64 b.v.x, .str b.v.s, .bool b.v.b, .int .i64 b.w.kind, .int .i64 b.w.n, .float .f64 b.w.x, .str b.w.s, .bool b.w.b, .slice (encVals b.set)]) (hlen : a.set.length = b.set.length) (hm45 : m = ((a.set.length : Nat) : Int)), j = (i : Int) → i ≤ (a.set).length → (a.set).length - i = n →
    evK gS fi25 c25_14 { ps := [(0, e0), (1, e1), (2, .lp 2 0), (3, .lp 3 0), (4, e4), (5, e5), (45, .val (.int .i64 m)), (46, .val (.int .i64 j))], ts := T, lc := X } st (.blk 0 (.seq c25_33 .nil)) = some ((.ret (.bool (sames (a.set.drop i) (b.set.drop i))) none), st) := by
  intro n
  have hm : fi25.marks = [] := rfl
  have hl : fi25.locals = [2, 3] := rfl
  have hr : fi25.results = [.tmp 4] := rfl
  have hao := h_a.2
  induction n with
  | zero =>
    intro i j m e0 e1 e4 e5 T X ht0 ht1 ht4 ht5 hx2 hx3 hlen hm45 hj hi hn
    obtain rfl : i = (a.set).length := by omega
    subst hj
    subst hm45
    have hz : b.set.drop a.set.length = [] := List.drop_eq_nil_of_le (by omega)
    refine evK_loop c25_15 _ st _ _ rfl ?_
    simp (config := { contextual := true, maxSteps := 10000000, maxDischargeDepth := 6 }) [-Int.not_le, -Int.not_lt, -Nat.not_le, -Nat.not_lt, ty3, ty4, ty9, ty24, ty25, ty27, eq24, hm, hl, hr, k81, x81, fi81_eq, p81, e25_1, e25_4, e25_7, e25_8, e25_6, e25_9, e25_5, e25_3, e25_12, e25_16, e25_19, e25_20, e25_18, e25_24, e25_26, q25_26, e25_29, e25_30, e25_28, e25_31, e25_27, e25_25, e25_23, e25_22, e25_32, e25_21, e25_17, e25_15, e25_13, e25_11, e25_34, e25_35, e25_33, e25_10, e25_2, e25_0, n25_14, ht0, ht1, ht4, ht5, hx2, hx3, hz]
    all_goals try simp (config := { contextual := true }) [-Int.not_le, -Int.not_lt, -Nat.not_le, -Nat.not_lt, sames]
    all_goals first | done | grind | omega | (trace_state; fail)
  | succ n ih =>
    intro i j m e0 e1 e4 e5 T X ht0 ht1 ht4 ht5 hx2 hx3 hlen hm45 hj hi hn
    subst hj
    obtain ⟨x, hx⟩ : ∃ x, (a.set)[i]? = some x := ⟨(a.set)[i]'(by omega), List.getElem?_eq_getElem (by omega)⟩
    have hd := drop_get hx
    have hlt : (i : Int) < ((a.set).length : Int) := by omega
    have hlt2 : i < (a.set).length := by omega
    have hxe : (a.set)[i]'hlt2 = x := by rw [List.getElem?_eq_getElem hlt2] at hx; exact Option.some.inj hx
    have hw : IntKind.wrap .i64 ((i : Int) + 1) = (i : Int) + 1 := wrap64 (by omega) (by omega)
    subst hm45
    obtain ⟨y, hy⟩ : ∃ y, (b.set)[i]? = some y := ⟨(b.set)[i]'(by omega), List.getElem?_eq_getElem (by omega)⟩
    have hyd := drop_get hy
    have hyl : i < (b.set).length := by omega
    have hye : (b.set)[i]'hyl = y := by rw [List.getElem?_eq_getElem hyl] at hy; exact Option.some.inj hy
    have IH := fun m e0 e1 e4 e5 T X ht0 ht1 ht4 ht5 hx2 hx3 hlen hm45 => ih (i + 1) ((i : Int) + 1) m e0 e1 e4 e5 T X ht0 ht1 ht4 ht5 hx2 hx3 hlen hm45 rfl (by omega) (by omega)
    refine evK_loop c25_15 _ st _ _ rfl ?_
    simp (config := { contextual := true, maxSteps := 10000000, maxDischargeDepth := 6 }) [-Int.not_le, -Int.not_lt, -Nat.not_le, -Nat.not_lt, ty3, ty4, ty9, ty24, ty25, ty27, eq24, hm, hl, hr, k81, x81, fi81_eq, p81, e25_1, e25_4, e25_7, e25_8, e25_6, e25_9, e25_5, e25_3, e25_12, e25_16, e25_19, e25_20, e25_18, e25_24, e25_26, q25_26, e25_29, e25_30, e25_28, e25_31, e25_27, e25_25, e25_23, e25_22, e25_32, e25_21, e25_17, e25_15, e25_13, e25_11, e25_34, e25_35, e25_33, e25_10, e25_2, e25_0, n25_14, ht0, ht1, ht4, ht5, hx2, hx3, hx, hxe, hd, hlt, hlt2, hw, IH, hy, hye, hyd, hlen]
    all_goals try simp (config := { contextual := true }) [-Int.not_le, -Int.not_lt, -Nat.not_le, -Nat.not_lt, sames]
    all_goals first | done | grind | omega | (trace_state; fail)
set_option maxHeartbeats 4000000 in
theorem c25 (a : Pred) (b : Pred)  (h_a : Pred.ok a) (h_b : Pred.ok b) (st : St) : EvF gS 25 [a.enc, b.enc] st = some (.ret (.bool (psame a b)) none, st) := by
  refine EvF_start fi25_eq (fun x h => by cases h) m25 ?_
  rw [st25]
  have hm : fi25.marks = [] := rfl
  have hl : fi25.locals = [2, 3] := rfl
  have hr : fi25.results = [.tmp 4] := rfl
  simp (config := { contextual := true, maxSteps := 10000000, maxDischargeDepth := 6 }) [-Int.not_le, -Int.not_lt, -Nat.not_le, -Nat.not_lt, ty3, ty4, ty9, ty24, ty25, ty27, eq24, hm, hl, hr, k81, x81, fi81_eq, p81, e25_1, e25_4, e25_7, e25_8, e25_6, e25_9, e25_5, e25_3, e25_12, e25_16, e25_19, e25_20, e25_18, e25_24, e25_26, q25_26, e25_29, e25_30, e25_28, e25_31, e25_27, e25_25, e25_23, e25_22, e25_32, e25_21, e25_17, e25_15, e25_13, e25_11, e25_34, e25_35, e25_33, e25_10, e25_2, e25_0, n25_14, (fun m e0 e1 e4 e5 T X ht0 ht1 ht4 ht5 hx2 hx3 hlen hm45 => L25_14 a b h_a st _ 0 0  m e0 e1 e4 e5 T X ht0 ht1 ht4 ht5 hx2 hx3 hlen hm45 rfl (Nat.zero_le _) rfl), h_a.1, h_a.2, h_b.1, h_b.2]
  all_goals try simp (config := { contextual := true }) [-Int.not_le, -Int.not_lt, -Nat.not_le, -Nat.not_lt, psame, sames_ne]
  all_goals first | done | grind | omega | (trace_state; fail)
theorem k25 (a_name : List UInt8) (a_test : Int) (a_vk : Int) (a_vn : Int) (a_vx : Nat) (a_vs : List UInt8) (a_vb : Bool) (a_wk : Int) (a_wn : Int) (a_wx : Nat) (a_ws : List UInt8) (a_wb : Bool) (a_set : List Val) (b_name : List UInt8) (b_test : Int) (b_vk : Int) (b_vn : Int) (b_vx : Nat) (b_vs : List UInt8) (b_vb : Bool) (b_wk : Int) (b_wn : Int) (b_wx : Nat) (b_ws : List UInt8) (b_wb : Bool) (b_set : List Val)  (h_a : Pred.ok (⟨a_name, a_test, ⟨a_vk, a_vn, a_vx, a_vs, a_vb⟩, ⟨a_wk, a_wn, a_wx, a_ws, a_wb⟩, a_set⟩ : Pred)) (h_b : Pred.ok (⟨b_name, b_test, ⟨b_vk, b_vn, b_vx, b_vs, b_vb⟩, ⟨b_wk, b_wn, b_wx, b_ws, b_wb⟩, b_set⟩ : Pred)) (fr : Fr) (st : St) : callStep gS (EvF gS) 25 [.agg [.str a_name, .int .i64 a_test, .int .i64 a_vk, .int .i64 a_vn, .float .f64 a_vx, .str a_vs, .bool a_vb, .int .i64 a_wk, .int .i64 a_wn, .float .f64 a_wx, .str a_ws, .bool a_wb, .slice (encVals a_set)], .agg [.str b_name, .int .i64 b_test, .int .i64 b_vk, .int .i64 b_vn, .float .f64 b_vx, .str b_vs, .bool b_vb, .int .i64 b_wk, .int .i64 b_wn, .float .f64 b_wx, .str b_ws, .bool b_wb, .slice (encVals b_set)]] fr st = some (.ok (retE none (.bool (psame (⟨a_name, a_test, ⟨a_vk, a_vn, a_vx, a_vs, a_vb⟩, ⟨a_wk, a_wn, a_wx, a_ws, a_wb⟩, a_set⟩ : Pred) (⟨b_name, b_test, ⟨b_vk, b_vn, b_vx, b_vs, b_vb⟩, ⟨b_wk, b_wn, b_wx, b_ws, b_wb⟩, b_set⟩ : Pred)))) fr st) :=
  call_pure rfl fi25_eq rfl (fun st => c25 (⟨a_name, a_test, ⟨a_vk, a_vn, a_vx, a_vs, a_vb⟩, ⟨a_wk, a_wn, a_wx, a_ws, a_wb⟩, a_set⟩ : Pred) (⟨b_name, b_test, ⟨b_vk, b_vn, b_vx, b_vs, b_vb⟩, ⟨b_wk, b_wn, b_wx, b_ws, b_wb⟩, b_set⟩ : Pred) h_a h_b st) (by simp)
theorem x25 : gS.ext 25 = none := rfl
theorem p25 : fi25.pure = true := rfl
def fi83 : FI := { body := codeOf Try.f83, ntmps := 27, results := [.tmp 4], pers := [0, 1, 4, 5], locals := [], pure := true, marks := [] }
theorem fi83_eq : gS.fn 83 = some fi83 := by kernel_rfl
theorem st83 (a0 a1 : V) : startFr fi83 [a0, a1] = { ps := [(0, .val a0), (1, .val a1), (4, .any), (5, .any)], ts := [], lc := [] } := rfl
def b83 : Code := mini (codeOf Try.f83)
def c83_1 : Code := codeN b83 2
theorem e83_1 : evK gS fi83 c83_1 fr st k = opsR gS fi83 [op1 4 (.assign (.const (.bool false))) 4] fr st k := evK_r 0 (by kernel_rfl)
def c83_4 : Code := codeN b83 9
theorem e83_4 : evK gS fi83 c83_4 fr st k = opsR gS fi83 [op1 6 (.move (.tmp 0)) 25,
 op1 7 (.call { callee := (.builtin .len), args := #[(.tmp 6)], argTypes := #[25] }) 3,
 op1 8 (.move (.tmp 1)) 25,
 op1 9 (.call { callee := (.builtin .len), args := #[(.tmp 8)], argTypes := #[25] }) 3,
 op1 10 (.binOp .neq 3 (.tmp 7) (.tmp 9) 3) 4] fr st k := evK_r 1 (by kernel_rfl)
def c83_7 : Code := codeN b83 37
theorem e83_7 : evK gS fi83 c83_7 fr st k = opsR gS fi83 [op1 4 (.assign (.const (.bool false))) 4] fr st k := evK_r 2 (by kernel_rfl)
def c83_8 : Code := .ret
theorem e83_8 : evK gS fi83 c83_8 fr st k = nextK gS fi83 k .ret fr st := rfl
def c83_6 : Code := .seq c83_7 c83_8
theorem e83_6 : evK gS fi83 c83_6 fr st k = evK gS fi83 c83_7 fr st (.seq c83_8 k) := rfl
def c83_9 : Code := .skip
theorem e83_9 : evK gS fi83 c83_9 fr st k = nextK gS fi83 k .normal fr st := rfl
def c83_5 : Code := .cond (.tmp 10) c83_6 c83_9
theorem e83_5 : evK gS fi83 c83_5 fr st k = condK gS fi83 (fr.op (.tmp 10)).bool? c83_6 c83_9 fr st k := rfl
def c83_3 : Code := .seq c83_4 c83_5
theorem e83_3 : evK gS fi83 c83_3 fr st k = evK gS fi83 c83_4 fr st (.seq c83_5 k) := rfl
def c83_12 : Code := codeN b83 19
theorem e83_12 : evK gS fi83 c83_12 fr st k = opsR gS fi83 [op1 5 (.assign (.const (.int .i64 0))) 3] fr st k := evK_r 3 (by kernel_rfl)
def c83_17 : Code := codeN b83 267
theorem e83_17 : evK gS fi83 c83_17 fr st k = opsR gS fi83 [op1 11 (.move (.tmp 5)) 3,
 op1 12 (.move (.tmp 0)) 25,
 op1 13 (.call { callee := (.builtin .len), args := #[(.tmp 12)], argTypes := #[25] }) 3,
 op1 14 (.binOp .lss 3 (.tmp 11) (.tmp 13) 3) 4] fr st k := evK_r 4 (by kernel_rfl)
def c83_19 : Code := .skip
theorem e83_19 : evK gS fi83 c83_19 fr st k = nextK gS fi83 k .normal fr st := rfl
def c83_20 : Code := .exit 0
theorem e83_20 : evK gS fi83 c83_20 fr st k = nextK gS fi83 k (.exit 0) fr st := rfl
def c83_18 : Code := .cond (.tmp 14) c83_19 c83_20
theorem e83_18 : evK gS fi83 c83_18 fr st k = condK gS fi83 (fr.op (.tmp 14)).bool? c83_19 c83_20 fr st k := rfl
def c83_16 : Code := .seq c83_17 c83_18
theorem e83_16 : evK gS fi83 c83_16 fr st k = evK gS fi83 c83_17 fr st (.seq c83_18 k) := rfl
def r83_24 : Array Oper := regOps (codeN (codeOf Try.f83) 1099)
def c83_24 : Code := .region 6 r83_24 true
def q83_24 : List (Oper × Fl) := [(op1 17 (.move (.tmp 0)) 25, ⟨true, false, true, false, false, false, true, true, false, false, []⟩),
 (op1 18 (.move (.tmp 5)) 3, ⟨true, false, true, false, false, false, true, true, false, false, []⟩),
 (op1 19 (.indexAddr 25 (.tmp 17) (.tmp 18)) 0, ⟨true, false, true, false, false, false, true, true, false, false, []⟩),
 (op1 20 (.load 24 (.tmp 19)) 24, ⟨true, false, true, false, false, false, true, true, false, false, []⟩),
 (op1 21 (.move (.tmp 1)) 25, ⟨true, false, true, false, false, false, true, true, false, false, []⟩),
 (op1 22 (.move (.tmp 5)) 3, ⟨true, false, true, false, true, false, true, true, false, false, []⟩),
 (op1 23 (.indexAddr 25 (.tmp 21) (.tmp 22)) 0, ⟨true, false, true, false, true, false, true, true, false, false, []⟩),
 (op1 24 (.load 24 (.tmp 23)) 24, ⟨true, false, true, false, true, false, true, true, false, false, []⟩),
 (op1 25 (.call { callee := (.value (.func 82)), args := #[(.tmp 20), (.tmp 24)], argTypes := #[24, 24] }) 4, ⟨true, true, true, false, true, true, true, true, false, false, []⟩),
 (op1 26 (.unOp .not 4 (.tmp 25)) 4, ⟨true, true, true, false, true, false, true, true, false, false, []⟩)]
theorem e83_24 : evK gS fi83 c83_24 fr st k = drwR gS fi83 r83_24 q83_24 fr st k := evK_dr 6 rfl (by kernel_rfl) (by kernel_rfl)
def c83_27 : Code := codeN b83 4683
theorem e83_27 : evK gS fi83 c83_27 fr st k = opsR gS fi83 [op1 4 (.assign (.const (.bool false))) 4] fr st k := evK_r 7 (by kernel_rfl)
def c83_28 : Code := .ret
theorem e83_28 : evK gS fi83 c83_28 fr st k = nextK gS fi83 k .ret fr st := rfl
def c83_26 : Code := .seq c83_27 c83_28
theorem e83_26 : evK gS fi83 c83_26 fr st k = evK gS fi83 c83_27 fr st (.seq c83_28 k) := rfl
def c83_29 : Code := .skip
theorem e83_29 : evK gS fi83 c83_29 fr st k = nextK gS fi83 k .normal fr st := rfl
def c83_25 : Code := .cond (.tmp 26) c83_26 c83_29
theorem e83_25 : evK gS fi83 c83_25 fr st k = condK gS fi83 (fr.op (.tmp 26)).bool? c83_26 c83_29 fr st k := rfl
def c83_23 : Code := .seq c83_24 c83_25
theorem e83_23 : evK gS fi83 c83_23 fr st k = evK gS fi83 c83_24 fr st (.seq c83_25 k) := rfl
def c83_22 : Code := .block 1 c83_23
theorem e83_22 : evK gS fi83 c83_22 fr st k = evK gS fi83 c83_23 fr st (.blk 1 k) := rfl
def c83_30 : Code := codeN b83 459
theorem e83_30 : evK gS fi83 c83_30 fr st k = opsR gS fi83 [op1 15 (.move (.tmp 5)) 3,
 op1 16 (.binOp .add 3 (.tmp 15) (.const (.int .i64 1)) 3) 3,
 op1 5 (.assign (.tmp 16)) 3] fr st k := evK_r 5 (by kernel_rfl)
def c83_21 : Code := .seq c83_22 c83_30
theorem e83_21 : evK gS fi83 c83_21 fr st k = evK gS fi83 c83_22 fr st (.seq c83_30 k) := rfl
def c83_15 : Code := .seq c83_16 c83_21
theorem e83_15 : evK gS fi83 c83_15 fr st k = evK gS fi83 c83_16 fr st (.seq c83_21 k) := rfl
def c83_14 : Code := .loop c83_15
def c83_13 : Code := .block 0 c83_14
theorem e83_13 : evK gS fi83 c83_13 fr st k = evK gS fi83 c83_14 fr st (.blk 0 k) := rfl
def c83_11 : Code := .seq c83_12 c83_13
theorem e83_11 : evK gS fi83 c83_11 fr st k = evK gS fi83 c83_12 fr st (.seq c83_13 k) := rfl
def c83_32 : Code := codeN b83 23
theorem e83_32 : evK gS fi83 c83_32 fr st k = opsR gS fi83 [op1 4 (.assign (.const (.bool true))) 4] fr st k := evK_r 8 (by kernel_rfl)
def c83_33 : Code := .ret
theorem e83_33 : evK gS fi83 c83_33 fr st k = nextK gS fi83 k .ret fr st := rfl
def c83_31 : Code := .seq c83_32 c83_33
theorem e83_31 : evK gS fi83 c83_31 fr st k = evK gS fi83 c83_32 fr st (.seq c83_33 k) := rfl
def c83_10 : Code := .seq c83_11 c83_31
theorem e83_10 : evK gS fi83 c83_10 fr st k = evK gS fi83 c83_11 fr st (.seq c83_31 k) := rfl
def c83_2 : Code := .seq c83_3 c83_10
theorem e83_2 : evK gS fi83 c83_2 fr st k = evK gS fi83 c83_3 fr st (.seq c83_10 k) := rfl
def c83_0 : Code := .seq c83_1 c83_2
theorem e83_0 : evK gS fi83 c83_0 fr st k = evK gS fi83 c83_1 fr st (.seq c83_2 k) := rfl
theorem m83 : mini fi83.body = c83_0 := by kernel_rfl
theorem n83_14 (fr : Fr) (st : St) (k : Kt) : nextK gS fi83 (.loop c83_15 k) .normal fr st = evK gS fi83 c83_14 fr st k := rfl
set_option maxHeartbeats 4000000 in
theorem L83_14 (a : List Val) (b : List Val) (h_a : a.length < 4611686018427387904) (st : St) : ∀ (n i : Nat) (j : Int)  (e4 : E) (T : List (Nat × E)) (X : List (Nat × List V)) (ht4 : e4.Tame) (hlen : a.length = b.length), j = (i : Int) → i ≤ (a).length → (a).length - i = n →
    evK gS fi83 c83_14 { ps := [(0, .val (.slice (encVals a))), (1, .val (.slice (encVals b))), (4, e4), (5, .val (.int .i64 j))], ts := T, lc := X } st (.blk 0 (.seq c83_31 .nil)) = some ((.ret (.bool (sames (a.drop i) (b.drop i))) none), st) := by
  intro n
  have hm : fi83.marks = [] := rfl
  have hl : fi83.locals = [] := rfl
  have hr : fi83.results = [.tmp 4] := rfl
  induction n with
  | zero =>
    intro i j  e4 T X ht4 hlen hj hi hn
    obtain rfl : i = (a).length := by omega
    subst hj
    have hz : b.drop a.length = [] := List.drop_eq_nil_of_le (by omega)
    refine evK_loop c83_15 _ st _ _ rfl ?_
    simp (config := { contextual := true, maxSteps := 10000000, maxDischargeDepth := 6 }) [-Int.not_le, -Int.not_lt, -Nat.not_le, -Nat.not_lt, ty3, ty4, ty24, ty25, eq24, hm, hl, hr, k82, x82, fi82_eq, p82, e83_1, e83_4, e83_7, e83_8, e83_6, e83_9, e83_5, e83_3, e83_12, e83_17, e83_19, e83_20, e83_18, e83_16, e83_24, q83_24, e83_27, e83_28, e83_26, e83_29, e83_25, e83_23, e83_22, e83_30, e83_21, e83_15, e83_13, e83_11, e83_32, e83_33, e83_31, e83_10, e83_2, e83_0, n83_14, ht4, hz]
    all_goals try simp (config := { contextual := true }) [-Int.not_le, -Int.not_lt, -Nat.not_le, -Nat.not_lt, sames]
    all_goals first | done | grind | omega | (trace_state; fail)
  | succ n ih =>
    intro i j  e4 T X ht4 hlen hj hi hn
    subst hj
    obtain ⟨x, hx⟩ : ∃ x, (a)[i]? = some x := ⟨(a)[i]'(by omega), List.getElem?_eq_getElem (by omega)⟩
    have hd := drop_get hx
    have hlt : (i : Int) < ((a).length : Int) := by omega
    have hlt2 : i < (a).length := by omega
    have hxe : (a)[i]'hlt2 = x := by rw [List.getElem?_eq_getElem hlt2] at hx; exact Option.some.inj hx
    have hw : IntKind.wrap .i64 ((i : Int) + 1) = (i : Int) + 1 := wrap64 (by omega) (by omega)
    obtain ⟨y, hy⟩ : ∃ y, (b)[i]? = some y := ⟨(b)[i]'(by omega), List.getElem?_eq_getElem (by omega)⟩
    have hyd := drop_get hy
    have hyl : i < (b).length := by omega
    have hye : (b)[i]'hyl = y := by rw [List.getElem?_eq_getElem hyl] at hy; exact Option.some.inj hy
    have IH := fun e4 T X ht4 hlen => ih (i + 1) ((i : Int) + 1) e4 T X ht4 hlen rfl (by omega) (by omega)
    refine evK_loop c83_15 _ st _ _ rfl ?_
    simp (config := { contextual := true, maxSteps := 10000000, maxDischargeDepth := 6 }) [-Int.not_le, -Int.not_lt, -Nat.not_le, -Nat.not_lt, ty3, ty4, ty24, ty25, eq24, hm, hl, hr, k82, x82, fi82_eq, p82, e83_1, e83_4, e83_7, e83_8, e83_6, e83_9, e83_5, e83_3, e83_12, e83_17, e83_19, e83_20, e83_18, e83_16, e83_24, q83_24, e83_27, e83_28, e83_26, e83_29, e83_25, e83_23, e83_22, e83_30, e83_21, e83_15, e83_13, e83_11, e83_32, e83_33, e83_31, e83_10, e83_2, e83_0, n83_14, ht4, hx, hxe, hd, hlt, hlt2, hw, IH, hy, hye, hyd, hlen]
    all_goals try simp (config := { contextual := true }) [-Int.not_le, -Int.not_lt, -Nat.not_le, -Nat.not_lt, sames]
    all_goals first | done | grind | omega | (trace_state; fail)
set_option maxHeartbeats 4000000 in
theorem c83 (a : List Val) (b : List Val)  (h_a : a.length < 4611686018427387904) (h_b : b.length < 4611686018427387904) (st : St) : EvF gS 83 [.slice (encVals a), .slice (encVals b)] st = some (.ret (.bool (sames a b)) none, st) := by
  refine EvF_start fi83_eq (fun x h => by cases h) m83 ?_
  rw [st83]
  have hm : fi83.marks = [] := rfl
  have hl : fi83.locals = [] := rfl
  have hr : fi83.results = [.tmp 4] := rfl
  simp (config := { contextual := true, maxSteps := 10000000, maxDischargeDepth := 6 }) [-Int.not_le, -Int.not_lt, -Nat.not_le, -Nat.not_lt, ty3, ty4, ty24, ty25, eq24, hm, hl, hr, k82, x82, fi82_eq, p82, e83_1, e83_4, e83_7, e83_8, e83_6, e83_9, e83_5, e83_3, e83_12, e83_17, e83_19, e83_20, e83_18, e83_16, e83_24, q83_24, e83_27, e83_28, e83_26, e83_29, e83_25, e83_23, e83_22, e83_30, e83_21, e83_15, e83_13, e83_11, e83_32, e83_33, e83_31, e83_10, e83_2, e83_0, n83_14, (fun e4 T X ht4 hlen => L83_14 a b h_a st _ 0 0  e4 T X ht4 hlen rfl (Nat.zero_le _) rfl), h_a, h_b]
  all_goals try simp (config := { contextual := true }) [-Int.not_le, -Int.not_lt, -Nat.not_le, -Nat.not_lt, sames_ne]
  all_goals first | done | grind | omega | (trace_state; fail)
theorem k83 (a : List Val) (b : List Val)  (h_a : a.length < 4611686018427387904) (h_b : b.length < 4611686018427387904) (fr : Fr) (st : St) : callStep gS (EvF gS) 83 [.slice (encVals a), .slice (encVals b)] fr st = some (.ok (retE none (.bool (sames a b))) fr st) :=
  call_pure rfl fi83_eq rfl (fun st => c83 a b h_a h_b st) (by simp)
theorem x83 : gS.ext 83 = none := rfl
theorem p83 : fi83.pure = true := rfl
def fi26 : FI := { body := codeOf Try.f26, ntmps := 38, results := [.tmp 4], pers := [0, 1, 2, 3, 4], locals := [2, 3], pure := true, marks := [] }
theorem fi26_eq : gS.fn 26 = some fi26 := by kernel_rfl
theorem st26 (a0 a1 : V) : startFr fi26 [a0, a1] = { ps := [(0, .val a0), (1, .val a1), (2, .any), (3, .any), (4, .any)], ts := [], lc := [] } := rfl
def b26 : Code := mini (codeOf Try.f26)
def c26_1 : Code := codeN b26 2
theorem e26_1 : evK gS fi26 c26_1 fr st k = opsR gS fi26 [op1 2 (.box 27 (.tmp 0)) 0,
 op1 3 (.box 27 (.tmp 1)) 0,
 op1 4 (.assign (.const (.bool false))) 4] fr st k := evK_r 0 (by kernel_rfl)
def c26_3 : Code := codeN b26 5
theorem e26_3 : evK gS fi26 c26_3 fr st k = opsR gS fi26 [op1 5 (.fieldAddr 27 (.tmp 2) 0) 0,
 op1 6 (.load 9 (.tmp 5)) 9,
 op1 7 (.fieldAddr 27 (.tmp 3) 0) 0,
 op1 8 (.load 9 (.tmp 7)) 9,
 op1 9 (.binOp .eql 9 (.tmp 6) (.tmp 8) 9) 4,
 op1 10 (.move (.tmp 9)) 4,
 mk (some 11) (.fieldAddr 27 (.tmp 2) 1) 0 (some (5, true)),
 mk (some 12) (.load 3 (.tmp 11)) 3 (some (5, true)),
 mk (some 13) (.fieldAddr 27 (.tmp 3) 1) 0 (some (5, true)),
 mk (some 14) (.load 3 (.tmp 13)) 3 (some (5, true)),
 mk (some 15) (.binOp .eql 3 (.tmp 12) (.tmp 14) 3) 4 (some (5, true)),
 op1 16 (.pick (.tmp 10) (.tmp 15) (.const (.bool false))) 4,
 op1 17 (.move (.tmp 16)) 4,
 mk (some 18) (.fieldAddr 27 (.tmp 2) 2) 0 (some (12, true)),
 mk (some 19) (.load 24 (.tmp 18)) 24 (some (12, true)),
 mk (some 20) (.fieldAddr 27 (.tmp 3) 2) 0 (some (12, true)),
 mk (some 21) (.load 24 (.tmp 20)) 24 (some (12, true)),
 mk (some 22) (.call { callee := (.value (.func 82)), args := #[(.tmp 19), (.tmp 21)], argTypes := #[24, 24] }) 4 (some (12, true)),
 op1 23 (.pick (.tmp 17) (.tmp 22) (.const (.bool false))) 4,
 op1 24 (.move (.tmp 23)) 4,
 mk (some 25) (.fieldAddr 27 (.tmp 2) 3) 0 (some (19, true)),
 mk (some 26) (.load 24 (.tmp 25)) 24 (some (19, true)),
 mk (some 27) (.fieldAddr 27 (.tmp 3) 3) 0 (some (19, true)),
 mk (some 28) (.load 24 (.tmp 27)) 24 (some (19, true)),
 mk (some 29) (.call { callee := (.value (.func 82)), args := #[(.tmp 26), (.tmp 28)], argTypes := #[24, 24] }) 4 (some (19, true)),
 op1 30 (.pick (.tmp 24) (.tmp 29) (.const (.bool false))) 4,
 op1 31 (.move (.tmp 30)) 4,
 mk (some 32) (.fieldAddr 27 (.tmp 2) 4) 0 (some (26, true)),
 mk (some 33) (.load 25 (.tmp 32)) 25 (some (26, true)),
 mk (some 34) (.fieldAddr 27 (.tmp 3) 4) 0 (some (26, true)),
 mk (some 35) (.load 25 (.tmp 34)) 25 (some (26, true)),
 mk (some 36) (.call { callee := (.value (.func 83)), args := #[(.tmp 33), (.tmp 35)], argTypes := #[25, 25] }) 4 (some (26, true)),
 op1 37 (.pick (.tmp 31) (.tmp 36) (.const (.bool false))) 4,
 op1 4 (.assign (.tmp 37)) 4] fr st k := evK_r 1 (by kernel_rfl)
def c26_4 : Code := .ret
theorem e26_4 : evK gS fi26 c26_4 fr st k = nextK gS fi26 k .ret fr st := rfl
def c26_2 : Code := .seq c26_3 c26_4
theorem e26_2 : evK gS fi26 c26_2 fr st k = evK gS fi26 c26_3 fr st (.seq c26_4 k) := rfl
def c26_0 : Code := .seq c26_1 c26_2
theorem e26_0 : evK gS fi26 c26_0 fr st k = evK gS fi26 c26_1 fr st (.seq c26_2 k) := rfl
theorem m26 : mini fi26.body = c26_0 := by kernel_rfl
set_option maxHeartbeats 4000000 in
theorem c26 (a : Pred) (b : Pred)  (h_a : Pred.ok a) (h_b : Pred.ok b) (st : St) : EvF gS 26 [a.enc, b.enc] st = some (.ret (.bool (psame a b)) none, st) := by
  refine EvF_start fi26_eq (fun x h => by cases h) m26 ?_
  rw [st26]
  have hm : fi26.marks = [] := rfl
  have hl : fi26.locals = [2, 3] := rfl
  have hr : fi26.results = [.tmp 4] := rfl
  simp (config := { contextual := true, maxSteps := 10000000, maxDischargeDepth := 6 }) [-Int.not_le, -Int.not_lt, -Nat.not_le, -Nat.not_lt, ty3, ty4, ty9, ty24, ty25, ty27, eq24, hm, hl, hr, k82, k83, e26_1, e26_3, e26_4, e26_2, e26_0, h_a.1, h_a.2, h_b.1, h_b.2]
  all_goals try simp (config := { contextual := true }) [-Int.not_le, -Int.not_lt, -Nat.not_le, -Nat.not_lt, psame]
  all_goals first | done | grind | omega | (trace_state; fail)
theorem k26 (a_name : List UInt8) (a_test : Int) (a_vk : Int) (a_vn : Int) (a_vx : Nat) (a_vs : List UInt8) (a_vb : Bool) (a_wk : Int) (a_wn : Int) (a_wx : Nat) (a_ws : List UInt8) (a_wb : Bool) (a_set : List Val) (b_name : List UInt8) (b_test : Int) (b_vk : Int) (b_vn : Int) (b_vx : Nat) (b_vs : List UInt8) (b_vb : Bool) (b_wk : Int) (b_wn : Int) (b_wx : Nat) (b_ws : List UInt8) (b_wb : Bool) (b_set : List Val)  (h_a : Pred.ok (⟨a_name, a_test, ⟨a_vk, a_vn, a_vx, a_vs, a_vb⟩, ⟨a_wk, a_wn, a_wx, a_ws, a_wb⟩, a_set⟩ : Pred)) (h_b : Pred.ok (⟨b_name, b_test, ⟨b_vk, b_vn, b_vx, b_vs, b_vb⟩, ⟨b_wk, b_wn, b_wx, b_ws, b_wb⟩, b_set⟩ : Pred)) (fr : Fr) (st : St) : callStep gS (EvF gS) 26 [.agg [.str a_name, .int .i64 a_test, .int .i64 a_vk, .int .i64 a_vn, .float .f64 a_vx, .str a_vs, .bool a_vb, .int .i64 a_wk, .int .i64 a_wn, .float .f64 a_wx, .str a_ws, .bool a_wb, .slice (encVals a_set)], .agg [.str b_name, .int .i64 b_test, .int .i64 b_vk, .int .i64 b_vn, .float .f64 b_vx, .str b_vs, .bool b_vb, .int .i64 b_wk, .int .i64 b_wn, .float .f64 b_wx, .str b_ws, .bool b_wb, .slice (encVals b_set)]] fr st = some (.ok (retE none (.bool (psame (⟨a_name, a_test, ⟨a_vk, a_vn, a_vx, a_vs, a_vb⟩, ⟨a_wk, a_wn, a_wx, a_ws, a_wb⟩, a_set⟩ : Pred) (⟨b_name, b_test, ⟨b_vk, b_vn, b_vx, b_vs, b_vb⟩, ⟨b_wk, b_wn, b_wx, b_ws, b_wb⟩, b_set⟩ : Pred)))) fr st) :=
  call_pure rfl fi26_eq rfl (fun st => c26 (⟨a_name, a_test, ⟨a_vk, a_vn, a_vx, a_vs, a_vb⟩, ⟨a_wk, a_wn, a_wx, a_ws, a_wb⟩, a_set⟩ : Pred) (⟨b_name, b_test, ⟨b_vk, b_vn, b_vx, b_vs, b_vb⟩, ⟨b_wk, b_wn, b_wx, b_ws, b_wb⟩, b_set⟩ : Pred) h_a h_b st) (by simp)
theorem x26 : gS.ext 26 = none := rfl
theorem p26 : fi26.pure = true := rfl
def fi84 : FI := { body := codeOf Try.f84, ntmps := 11, results := [.tmp 4], pers := [0, 1, 2, 3, 4], locals := [2, 3], pure := true, marks := [] }
theorem fi84_eq : gS.fn 84 = some fi84 := by kernel_rfl
theorem st84 (a0 a1 : V) : startFr fi84 [a0, a1] = { ps := [(0, .val a0), (1, .val a1), (2, .any), (3, .any), (4, .any)], ts := [], lc := [] } := rfl
def b84 : Code := mini (codeOf Try.f84)
def c84_1 : Code := codeN b84 2
theorem e84_1 : evK gS fi84 c84_1 fr st k = opsR gS fi84 [op1 2 (.box 27 (.tmp 0)) 0,
 op1 3 (.box 27 (.tmp 1)) 0,
 op1 4 (.assign (.const (.bool false))) 4] fr st k := evK_r 0 (by kernel_rfl)
def c84_3 : Code := codeN b84 5
theorem e84_3 : evK gS fi84 c84_3 fr st k = opsR gS fi84 [op1 5 (.fieldAddr 27 (.tmp 3) 0) 0,
 op1 6 (.load 9 (.tmp 5)) 9,
 op1 7 (.fieldAddr 27 (.tmp 2) 0) 0,
 mk none (.store 9 (.tmp 7) (.tmp 6)) 0 none] fr st k := evK_r 1 (by kernel_rfl)
def c84_5 : Code := codeN b84 11
theorem e84_5 : evK gS fi84 c84_5 fr st k = opsR gS fi84 [op1 8 (.load 27 (.tmp 2)) 27,
 op1 9 (.load 27 (.tmp 3)) 27,
 op1 10 (.call { callee := (.value (.func 25)), args := #[(.tmp 8), (.tmp 9)], argTypes := #[27, 27] }) 4,
 op1 4 (.assign (.tmp 10)) 4] fr st k := evK_r 2 (by kernel_rfl)
def c84_6 : Code := .ret
theorem e84_6 : evK gS fi84 c84_6 fr st k = nextK gS fi84 k .ret fr st := rfl
def c84_4 : Code := .seq c84_5 c84_6
theorem e84_4 : evK gS fi84 c84_4 fr st k = evK gS fi84 c84_5 fr st (.seq c84_6 k) := rfl
def c84_2 : Code := .seq c84_3 c84_4
theorem e84_2 : evK gS fi84 c84_2 fr st k = evK gS fi84 c84_3 fr st (.seq c84_4 k) := rfl
def c84_0 : Code := .seq c84_1 c84_2
theorem e84_0 : evK gS fi84 c84_0 fr st k = evK gS fi84 c84_1 fr st (.seq c84_2 k) := rfl
theorem m84 : mini fi84.body = c84_0 := by kernel_rfl
set_option maxHeartbeats 4000000 in
theorem c84 (q : Pred) (p : Pred)  (h_q : Pred.ok q) (h_p : Pred.ok p) (st : St) : EvF gS 84 [q.enc, p.enc] st = some (.ret (.bool (decide (q.test = p.test) && vsame q.v p.v && vsame q.w p.w && sames q.set p.set)) none, st) := by
  refine EvF_start fi84_eq (fun x h => by cases h) m84 ?_
  rw [st84]
  have hm : fi84.marks = [] := rfl
  have hl : fi84.locals = [2, 3] := rfl
  have hr : fi84.results = [.tmp 4] := rfl
  simp (config := { contextual := true, maxSteps := 10000000, maxDischargeDepth := 6 }) [-Int.not_le, -Int.not_lt, -Nat.not_le, -Nat.not_lt, ty4, ty9, ty27, hm, hl, hr, k25, e84_1, e84_3, e84_5, e84_6, e84_4, e84_2, e84_0, h_q.1, h_q.2, h_p.1, h_p.2]
  all_goals try simp (config := { contextual := true }) [-Int.not_le, -Int.not_lt, -Nat.not_le, -Nat.not_lt, psame]
  all_goals first | done | grind | omega | (trace_state; fail)
theorem k84 (q_name : List UInt8) (q_test : Int) (q_vk : Int) (q_vn : Int) (q_vx : Nat) (q_vs : List UInt8) (q_vb : Bool) (q_wk : Int) (q_wn : Int) (q_wx : Nat) (q_ws : List UInt8) (q_wb : Bool) (q_set : List Val) (p_name : List UInt8) (p_test : Int) (p_vk : Int) (p_vn : Int) (p_vx : Nat) (p_vs : List UInt8) (p_vb : Bool) (p_wk : Int) (p_wn : Int) (p_wx : Nat) (p_ws : List UInt8) (p_wb : Bool) (p_set : List Val)  (h_q : Pred.ok (⟨q_name, q_test, ⟨q_vk, q_vn, q_vx, q_vs, q_vb⟩, ⟨q_wk, q_wn, q_wx, q_ws, q_wb⟩, q_set⟩ : Pred)) (h_p : Pred.ok (⟨p_name, p_test, ⟨p_vk, p_vn, p_vx, p_vs, p_vb⟩, ⟨p_wk, p_wn, p_wx, p_ws, p_wb⟩, p_set⟩ : Pred)) (fr : Fr) (st : St) : callStep gS (EvF gS) 84 [.agg [.str q_name, .int .i64 q_test, .int .i64 q_vk, .int .i64 q_vn, .float .f64 q_vx, .str q_vs, .bool q_vb, .int .i64 q_wk, .int .i64 q_wn, .float .f64 q_wx, .str q_ws, .bool q_wb, .slice (encVals q_set)], .agg [.str p_name, .int .i64 p_test, .int .i64 p_vk, .int .i64 p_vn, .float .f64 p_vx, .str p_vs, .bool p_vb, .int .i64 p_wk, .int .i64 p_wn, .float .f64 p_wx, .str p_ws, .bool p_wb, .slice (encVals p_set)]] fr st = some (.ok (retE none (.bool (decide ((⟨q_name, q_test, ⟨q_vk, q_vn, q_vx, q_vs, q_vb⟩, ⟨q_wk, q_wn, q_wx, q_ws, q_wb⟩, q_set⟩ : Pred).test = (⟨p_name, p_test, ⟨p_vk, p_vn, p_vx, p_vs, p_vb⟩, ⟨p_wk, p_wn, p_wx, p_ws, p_wb⟩, p_set⟩ : Pred).test) && vsame (⟨q_name, q_test, ⟨q_vk, q_vn, q_vx, q_vs, q_vb⟩, ⟨q_wk, q_wn, q_wx, q_ws, q_wb⟩, q_set⟩ : Pred).v (⟨p_name, p_test, ⟨p_vk, p_vn, p_vx, p_vs, p_vb⟩, ⟨p_wk, p_wn, p_wx, p_ws, p_wb⟩, p_set⟩ : Pred).v && vsame (⟨q_name, q_test, ⟨q_vk, q_vn, q_vx, q_vs, q_vb⟩, ⟨q_wk, q_wn, q_wx, q_ws, q_wb⟩, q_set⟩ : Pred).w (⟨p_name, p_test, ⟨p_vk, p_vn, p_vx, p_vs, p_vb⟩, ⟨p_wk, p_wn, p_wx, p_ws, p_wb⟩, p_set⟩ : Pred).w && sames (⟨q_name, q_test, ⟨q_vk, q_vn, q_vx, q_vs, q_vb⟩, ⟨q_wk, q_wn, q_wx, q_ws, q_wb⟩, q_set⟩ : Pred).set (⟨p_name, p_test, ⟨p_vk, p_vn, p_vx, p_vs, p_vb⟩, ⟨p_wk, p_wn, p_wx, p_ws, p_wb⟩, p_set⟩ : Pred).set))) fr st) :=
  call_pure rfl fi84_eq rfl (fun st => c84 (⟨q_name, q_test, ⟨q_vk, q_vn, q_vx, q_vs, q_vb⟩, ⟨q_wk, q_wn, q_wx, q_ws, q_wb⟩, q_set⟩ : Pred) (⟨p_name, p_test, ⟨p_vk, p_vn, p_vx, p_vs, p_vb⟩, ⟨p_wk, p_wn, p_wx, p_ws, p_wb⟩, p_set⟩ : Pred) h_q h_p st) (by simp)
def fi21 : FI := { body := codeOf Try.f21, ntmps := 113, results := [.tmp 4], pers := [0, 1, 2, 3, 4, 5, 6, 7, 8, 10, 22, 103, 104, 105], locals := [2, 3, 10], pure := true, marks := [] }
theorem fi21_eq : gS.fn 21 = some fi21 := by kernel_rfl
theorem st21 (a0 a1 : V) : startFr fi21 [a0, a1] = { ps := [(0, .val a0), (1, .val a1), (2, .any), (3, .any), (4, .any), (5, .any), (6, .any), (7, .any), (8, .any), (10, .any), (22, .any), (103, .any), (104, .any), (105, .any)], ts := [], lc := [] } := rfl
def b21 : Code := mini (codeOf Try.f21)
def c21_1 : Code := codeN b21 2
theorem e21_1 : evK gS fi21 c21_1 fr st k = opsR gS fi21 [op1 2 (.box 27 (.tmp 0)) 0,
 op1 3 (.box 24 (.tmp 1)) 0,
 op1 4 (.assign (.const (.bool false))) 4] fr st k := evK_r 0 (by kernel_rfl)
def c21_4 : Code := codeN b21 9
theorem e21_4 : evK gS fi21 c21_4 fr st k = opsR gS fi21 [op1 11 (.load 27 (.tmp 2)) 27,
 op1 12 (.call { callee := (.value (.func 19)), args := #[(.tmp 11)], argTypes := #[27] }) 4,
 op1 13 (.unOp .not 4 (.tmp 12)) 4] fr st k := evK_r 1 (by kernel_rfl)
def c21_7 : Code := codeN b21 37
theorem e21_7 : evK gS fi21 c21_7 fr st k = opsR gS fi21 [op1 4 (.assign (.const (.bool false))) 4] fr st k := evK_r 2 (by kernel_rfl)
def c21_8 : Code := .ret
theorem e21_8 : evK gS fi21 c21_8 fr st k = nextK gS fi21 k .ret fr st := rfl
def c21_6 : Code := .seq c21_7 c21_8
theorem e21_6 : evK gS fi21 c21_6 fr st k = evK gS fi21 c21_7 fr st (.seq c21_8 k) := rfl
def c21_9 : Code := .skip
theorem e21_9 : evK gS fi21 c21_9 fr st k = nextK gS fi21 k .normal fr st := rfl
def c21_5 : Code := .cond (.tmp 13) c21_6 c21_9
theorem e21_5 : evK gS fi21 c21_5 fr st k = condK gS fi21 (fr.op (.tmp 13)).bool? c21_6 c21_9 fr st k := rfl
def c21_3 : Code := .seq c21_4 c21_5
theorem e21_3 : evK gS fi21 c21_3 fr st k = evK gS fi21 c21_4 fr st (.seq c21_5 k) := rfl
def c21_11 : Code := codeN b21 11
theorem e21_11 : evK gS fi21 c21_11 fr st k = opsR gS fi21 [op1 15 (.load 24 (.tmp 3)) 24,
 op1 16 (.fieldAddr 27 (.tmp 2) 2) 0,
 op1 17 (.load 24 (.tmp 16)) 24,
 op1 18 (.call { callee := (.value (.func 75)), args := #[(.tmp 15), (.tmp 17)], argTypes := #[24, 24] }) 94,
 op1 14 (.move (.tmp 18)) 94,
 op1 19 (.extract (.tmp 14) 0) 3,
 op1 20 (.extract (.tmp 14) 1) 4,
 op1 5 (.assign (.tmp 19)) 3,
 op1 6 (.assign (.tmp 20)) 4] fr st k := evK_r 3 (by kernel_rfl)
def c21_14 : Code := codeN b21 39
theorem e21_14 : evK gS fi21 c21_14 fr st k = opsR gS fi21 [op1 21 (.fieldAddr 27 (.tmp 2) 1) 0,
 op1 22 (.load 3 (.tmp 21)) 3] fr st k := evK_r 4 (by kernel_rfl)
def c21_17 : Code := codeN b21 151
theorem e21_17 : evK gS fi21 c21_17 fr st k = opsR gS fi21 [op1 24 (.binOp .eql 3 (.tmp 22) (.const (.int .i64 1)) 3) 4,
 op1 23 (.assign (.tmp 24)) 4] fr st k := evK_r 5 (by kernel_rfl)
def c21_20 : Code := codeN b21 599
theorem e21_20 : evK gS fi21 c21_20 fr st k = opsR gS fi21 [op1 4 (.assign (.const (.bool true))) 4] fr st k := evK_r 6 (by kernel_rfl)
def c21_21 : Code := .ret
theorem e21_21 : evK gS fi21 c21_21 fr st k = nextK gS fi21 k .ret fr st := rfl
def c21_19 : Code := .seq c21_20 c21_21
theorem e21_19 : evK gS fi21 c21_19 fr st k = evK gS fi21 c21_20 fr st (.seq c21_21 k) := rfl
def c21_23 : Code := codeN b21 727
theorem e21_23 : evK gS fi21 c21_23 fr st k = opsR gS fi21 [op1 26 (.binOp .eql 3 (.tmp 22) (.const (.int .i64 2)) 3) 4,
 op1 25 (.assign (.tmp 26)) 4] fr st k := evK_r 7 (by kernel_rfl)
def c21_26 : Code := codeN b21 2519
theorem e21_26 : evK gS fi21 c21_26 fr st k = opsR gS fi21 [op1 27 (.move (.tmp 6)) 4,
 op1 28 (.move (.tmp 27)) 4,
 mk (some 29) (.move (.tmp 5)) 3 (some (1, true)),
 mk (some 30) (.binOp .eql 3 (.tmp 29) (.const (.int .i64 0)) 3) 4 (some (1, true)),
 op1 31 (.pick (.tmp 28) (.tmp 30) (.const (.bool false))) 4,
 op1 4 (.assign (.tmp 31)) 4] fr st k := evK_r 8 (by kernel_rfl)
def c21_27 : Code := .ret
theorem e21_27 : evK gS fi21 c21_27 fr st k = nextK gS fi21 k .ret fr st := rfl
def c21_25 : Code := .seq c21_26 c21_27
theorem e21_25 : evK gS fi21 c21_25 fr st k = evK gS fi21 c21_26 fr st (.seq c21_27 k) := rfl
def c21_29 : Code := codeN b21 3031
theorem e21_29 : evK gS fi21 c21_29 fr st k = opsR gS fi21 [op1 33 (.binOp .eql 3 (.tmp 22) (.const (.int .i64 3)) 3) 4,
 op1 32 (.assign (.tmp 33)) 4] fr st k := evK_r 9 (by kernel_rfl)
def c21_32 : Code := codeN b21 10199
theorem e21_32 : evK gS fi21 c21_32 fr st k = opsR gS fi21 [op1 34 (.move (.tmp 6)) 4,
 op1 35 (.move (.tmp 34)) 4,
 mk (some 36) (.move (.tmp 5)) 3 (some (1, true)),
 mk (some 37) (.binOp .eql 3 (.tmp 36) (.const (.int .i64 0)) 3) 4 (some (1, true)),
 op1 38 (.pick (.tmp 35) (.tmp 37) (.const (.bool false))) 4,
 op1 39 (.unOp .not 4 (.tmp 38)) 4,
 op1 4 (.assign (.tmp 39)) 4] fr st k := evK_r 10 (by kernel_rfl)
def c21_33 : Code := .ret
theorem e21_33 : evK gS fi21 c21_33 fr st k = nextK gS fi21 k .ret fr st := rfl
def c21_31 : Code := .seq c21_32 c21_33
theorem e21_31 : evK gS fi21 c21_31 fr st k = evK gS fi21 c21_32 fr st (.seq c21_33 k) := rfl
def c21_35 : Code := codeN b21 12247
theorem e21_35 : evK gS fi21 c21_35 fr st k = opsR gS fi21 [op1 41 (.binOp .eql 3 (.tmp 22) (.const (.int .i64 4)) 3) 4,
 op1 40 (.assign (.tmp 41)) 4] fr st k := evK_r 11 (by kernel_rfl)
def c21_38 : Code := codeN b21 40919
theorem e21_38 : evK gS fi21 c21_38 fr st k = opsR gS fi21 [op1 42 (.move (.tmp 6)) 4,
 op1 43 (.move (.tmp 42)) 4,
 mk (some 44) (.move (.tmp 5)) 3 (some (1, true)),
 mk (some 45) (.binOp .lss 3 (.tmp 44) (.const (.int .i64 0)) 3) 4 (some (1, true)),
 op1 46 (.pick (.tmp 43) (.tmp 45) (.const (.bool false))) 4,
 op1 4 (.assign (.tmp 46)) 4] fr st k := evK_r 12 (by kernel_rfl)
def c21_39 : Code := .ret
theorem e21_39 : evK gS fi21 c21_39 fr st k = nextK gS fi21 k .ret fr st := rfl
def c21_37 : Code := .seq c21_38 c21_39
theorem e21_37 : evK gS fi21 c21_37 fr st k = evK gS fi21 c21_38 fr st (.seq c21_39 k) := rfl
def c21_41 : Code := codeN b21 49111
theorem e21_41 : evK gS fi21 c21_41 fr st k = opsR gS fi21 [op1 48 (.binOp .eql 3 (.tmp 22) (.const (.int .i64 5)) 3) 4,
 op1 47 (.assign (.tmp 48)) 4] fr st k := evK_r 13 (by kernel_rfl)
def c21_44 : Code := codeN b21 163799
theorem e21_44 : evK gS fi21 c21_44 fr st k = opsR gS fi21 [op1 49 (.move (.tmp 6)) 4,
 op1 50 (.move (.tmp 49)) 4,
 mk (some 51) (.move (.tmp 5)) 3 (some (1, true)),
 mk (some 52) (.binOp .leq 3 (.tmp 51) (.const (.int .i64 0)) 3) 4 (some (1, true)),
 op1 53 (.pick (.tmp 50) (.tmp 52) (.const (.bool false))) 4,
 op1 4 (.assign (.tmp 53)) 4] fr st k := evK_r 14 (by kernel_rfl)
def c21_45 : Code := .ret
theorem e21_45 : evK gS fi21 c21_45 fr st k = nextK gS fi21 k .ret fr st := rfl
def c21_43 : Code := .seq c21_44 c21_45
theorem e21_43 : evK gS fi21 c21_43 fr st k = evK gS fi21 c21_44 fr st (.seq c21_45 k) := rfl
def c21_47 : Code := codeN b21 196567
theorem e21_47 : evK gS fi21 c21_47 fr st k = opsR gS fi21 [op1 55 (.binOp .eql 3 (.tmp 22) (.const (.int .i64 6)) 3) 4,
 op1 54 (.assign (.tmp 55)) 4] fr st k := evK_r 15 (by kernel_rfl)
def c21_50 : Code := codeN b21 655319
theorem e21_50 : evK gS fi21 c21_50 fr st k = opsR gS fi21 [op1 56 (.move (.tmp 6)) 4,
 op1 57 (.move (.tmp 56)) 4,
 mk (some 58) (.move (.tmp 5)) 3 (some (1, true)),
 mk (some 59) (.binOp .gtr 3 (.tmp 58) (.const (.int .i64 0)) 3) 4 (some (1, true)),
 op1 60 (.pick (.tmp 57) (.tmp 59) (.const (.bool false))) 4,
 op1 4 (.assign (.tmp 60)) 4] fr st k := evK_r 16 (by kernel_rfl)
def c21_51 : Code := .ret
theorem e21_51 : evK gS fi21 c21_51 fr st k = nextK gS fi21 k .ret fr st := rfl
def c21_49 : Code := .seq c21_50 c21_51
theorem e21_49 : evK gS fi21 c21_49 fr st k = evK gS fi21 c21_50 fr st (.seq c21_51 k) := rfl
def c21_53 : Code := codeN b21 786391
theorem e21_53 : evK gS fi21 c21_53 fr st k = opsR gS fi21 [op1 62 (.binOp .eql 3 (.tmp 22) (.const (.int .i64 7)) 3) 4,
 op1 61 (.assign (.tmp 62)) 4] fr st k := evK_r 17 (by kernel_rfl)
def c21_56 : Code := codeN b21 2621399
theorem e21_56 : evK gS fi21 c21_56 fr st k = opsR gS fi21 [op1 63 (.move (.tmp 6)) 4,
 op1 64 (.move (.tmp 63)) 4,
 mk (some 65) (.move (.tmp 5)) 3 (some (1, true)),
 mk (some 66) (.binOp .geq 3 (.tmp 65) (.const (.int .i64 0)) 3) 4 (some (1, true)),
 op1 67 (.pick (.tmp 64) (.tmp 66) (.const (.bool false))) 4,
 op1 4 (.assign (.tmp 67)) 4] fr st k := evK_r 18 (by kernel_rfl)
def c21_57 : Code := .ret
theorem e21_57 : evK gS fi21 c21_57 fr st k = nextK gS fi21 k .ret fr st := rfl
def c21_55 : Code := .seq c21_56 c21_57
theorem e21_55 : evK gS fi21 c21_55 fr st k = evK gS fi21 c21_56 fr st (.seq c21_57 k) := rfl
def c21_59 : Code := codeN b21 3145687
theorem e21_59 : evK gS fi21 c21_59 fr st k = opsR gS fi21 [op1 69 (.binOp .eql 3 (.tmp 22) (.const (.int .i64 8)) 3) 4,
 op1 68 (.assign (.tmp 69)) 4] fr st k := evK_r 19 (by kernel_rfl)
def c21_62 : Code := codeN b21 10485719
theorem e21_62 : evK gS fi21 c21_62 fr st k = opsR gS fi21 [op1 71 (.load 24 (.tmp 3)) 24,
 op1 72 (.fieldAddr 27 (.tmp 2) 3) 0,
 op1 73 (.load 24 (.tmp 72)) 24,
 op1 74 (.call { callee := (.value (.func 75)), args := #[(.tmp 71), (.tmp 73)], argTypes := #[24, 24] }) 94,
 op1 70 (.move (.tmp 74)) 94,
 op1 75 (.extract (.tmp 70) 0) 3,
 op1 76 (.extract (.tmp 70) 1) 4,
 op1 7 (.assign (.tmp 75)) 3,
 op1 8 (.assign (.tmp 76)) 4] fr st k := evK_r 20 (by kernel_rfl)
def c21_64 : Code := codeN b21 23068631
theorem e21_64 : evK gS fi21 c21_64 fr st k = opsR gS fi21 [op1 77 (.move (.tmp 6)) 4,
 op1 78 (.move (.tmp 77)) 4,
 mk (some 79) (.move (.tmp 5)) 3 (some (1, true)),
 mk (some 80) (.binOp .geq 3 (.tmp 79) (.const (.int .i64 0)) 3) 4 (some (1, true)),
 op1 81 (.pick (.tmp 78) (.tmp 80) (.const (.bool false))) 4,
 op1 82 (.move (.tmp 81)) 4,
 mk (some 83) (.move (.tmp 8)) 4 (some (5, true)),
 op1 84 (.pick (.tmp 82) (.tmp 83) (.const (.bool false))) 4,
 op1 85 (.move (.tmp 84)) 4,
 mk (some 86) (.move (.tmp 7)) 3 (some (8, true)),
 mk (some 87) (.binOp .leq 3 (.tmp 86) (.const (.int .i64 0)) 3) 4 (some (8, true)),
 op1 88 (.pick (.tmp 85) (.tmp 87) (.const (.bool false))) 4,
 op1 4 (.assign (.tmp 88)) 4] fr st k := evK_r 21 (by kernel_rfl)
def c21_65 : Code := .ret
theorem e21_65 : evK gS fi21 c21_65 fr st k = nextK gS fi21 k .ret fr st := rfl
def c21_63 : Code := .seq c21_64 c21_65
theorem e21_63 : evK gS fi21 c21_63 fr st k = evK gS fi21 c21_64 fr st (.seq c21_65 k) := rfl
def c21_61 : Code := .seq c21_62 c21_63
theorem e21_61 : evK gS fi21 c21_61 fr st k = evK gS fi21 c21_62 fr st (.seq c21_63 k) := rfl
def c21_67 : Code := codeN b21 12582871
theorem e21_67 : evK gS fi21 c21_67 fr st k = opsR gS fi21 [op1 90 (.binOp .eql 3 (.tmp 22) (.const (.int .i64 9)) 3) 4,
 op1 89 (.assign (.tmp 90)) 4] fr st k := evK_r 22 (by kernel_rfl)
def c21_70 : Code := codeN b21 41942999
theorem e21_70 : evK gS fi21 c21_70 fr st k = opsR gS fi21 [op1 91 (.fieldAddr 24 (.tmp 3) 0) 0,
 op1 92 (.load 3 (.tmp 91)) 3,
 op1 93 (.binOp .eql 3 (.tmp 92) (.const (.int .i64 3)) 3) 4,
 op1 94 (.move (.tmp 93)) 4,
 mk (some 95) (.fieldAddr 24 (.tmp 3) 3) 0 (some (3, true)),
 mk (some 96) (.load 9 (.tmp 95)) 9 (some (3, true)),
 mk (some 97) (.fieldAddr 27 (.tmp 2) 2) 0 (some (3, true)),
 mk (some 98) (.fieldAddr 24 (.tmp 97) 3) 0 (some (3, true)),
 mk (some 99) (.load 9 (.tmp 98)) 9 (some (3, true)),
 mk (some 100) (.call { callee := (.value (.func 76)), args := #[(.tmp 96), (.tmp 99)], argTypes := #[9, 9] }) 4 (some (3, true)),
 op1 101 (.pick (.tmp 94) (.tmp 100) (.const (.bool false))) 4,
 op1 4 (.assign (.tmp 101)) 4] fr st k := evK_r 23 (by kernel_rfl)
def c21_71 : Code := .ret
theorem e21_71 : evK gS fi21 c21_71 fr st k = nextK gS fi21 k .ret fr st := rfl
def c21_69 : Code := .seq c21_70 c21_71
theorem e21_69 : evK gS fi21 c21_69 fr st k = evK gS fi21 c21_70 fr st (.seq c21_71 k) := rfl
def c21_72 : Code := .skip
theorem e21_72 : evK gS fi21 c21_72 fr st k = nextK gS fi21 k .normal fr st := rfl
def c21_68 : Code := .cond (.tmp 89) c21_69 c21_72
theorem e21_68 : evK gS fi21 c21_68 fr st k = condK gS fi21 (fr.op (.tmp 89)).bool? c21_69 c21_72 fr st k := rfl
def c21_66 : Code := .seq c21_67 c21_68
theorem e21_66 : evK gS fi21 c21_66 fr st k = evK gS fi21 c21_67 fr st (.seq c21_68 k) := rfl
def c21_60 : Code := .cond (.tmp 68) c21_61 c21_66
theorem e21_60 : evK gS fi21 c21_60 fr st k = condK gS fi21 (fr.op (.tmp 68)).bool? c21_61 c21_66 fr st k := rfl
def c21_58 : Code := .seq c21_59 c21_60
theorem e21_58 : evK gS fi21 c21_58 fr st k = evK gS fi21 c21_59 fr st (.seq c21_60 k) := rfl
def c21_54 : Code := .cond (.tmp 61) c21_55 c21_58
theorem e21_54 : evK gS fi21 c21_54 fr st k = condK gS fi21 (fr.op (.tmp 61)).bool? c21_55 c21_58 fr st k := rfl
def c21_52 : Code := .seq c21_53 c21_54
theorem e21_52 : evK gS fi21 c21_52 fr st k = evK gS fi21 c21_53 fr st (.seq c21_54 k) := rfl
def c21_48 : Code := .cond (.tmp 54) c21_49 c21_52
theorem e21_48 : evK gS fi21 c21_48 fr st k = condK gS fi21 (fr.op (.tmp 54)).bool? c21_49 c21_52 fr st k := rfl
def c21_46 : Code := .seq c21_47 c21_48
theorem e21_46 : evK gS fi21 c21_46 fr st k = evK gS fi21 c21_47 fr st (.seq c21_48 k) := rfl
def c21_42 : Code := .cond (.tmp 47) c21_43 c21_46
theorem e21_42 : evK gS fi21 c21_42 fr st k = condK gS fi21 (fr.op (.tmp 47)).bool? c21_43 c21_46 fr st k := rfl
def c21_40 : Code := .seq c21_41 c21_42
theorem e21_40 : evK gS fi21 c21_40 fr st k = evK gS fi21 c21_41 fr st (.seq c21_42 k) := rfl
def c21_36 : Code := .cond (.tmp 40) c21_37 c21_40
theorem e21_36 : evK gS fi21 c21_36 fr st k = condK gS fi21 (fr.op (.tmp 40)).bool? c21_37 c21_40 fr st k := rfl
def c21_34 : Code := .seq c21_35 c21_36
theorem e21_34 : evK gS fi21 c21_34 fr st k = evK gS fi21 c21_35 fr st (.seq c21_36 k) := rfl
def c21_30 : Code := .cond (.tmp 32) c21_31 c21_34
theorem e21_30 : evK gS fi21 c21_30 fr st k = condK gS fi21 (fr.op (.tmp 32)).bool? c21_31 c21_34 fr st k := rfl
def c21_28 : Code := .seq c21_29 c21_30
theorem e21_28 : evK gS fi21 c21_28 fr st k = evK gS fi21 c21_29 fr st (.seq c21_30 k) := rfl
def c21_24 : Code := .cond (.tmp 25) c21_25 c21_28
theorem e21_24 : evK gS fi21 c21_24 fr st k = condK gS fi21 (fr.op (.tmp 25)).bool? c21_25 c21_28 fr st k := rfl
def c21_22 : Code := .seq c21_23 c21_24
theorem e21_22 : evK gS fi21 c21_22 fr st k = evK gS fi21 c21_23 fr st (.seq c21_24 k) := rfl
def c21_18 : Code := .cond (.tmp 23) c21_19 c21_22
theorem e21_18 : evK gS fi21 c21_18 fr st k = condK gS fi21 (fr.op (.tmp 23)).bool? c21_19 c21_22 fr st k := rfl
def c21_16 : Code := .seq c21_17 c21_18
theorem e21_16 : evK gS fi21 c21_16 fr st k = evK gS fi21 c21_17 fr st (.seq c21_18 k) := rfl
def c21_15 : Code := .block 0 c21_16
theorem e21_15 : evK gS fi21 c21_15 fr st k = evK gS fi21 c21_16 fr st (.blk 0 k) := rfl
def c21_13 : Code := .seq c21_14 c21_15
theorem e21_13 : evK gS fi21 c21_13 fr st k = evK gS fi21 c21_14 fr st (.seq c21_15 k) := rfl
def c21_75 : Code := codeN b21 79
theorem e21_75 : evK gS fi21 c21_75 fr st k = opsR gS fi21 [op1 102 (.fieldAddr 27 (.tmp 2) 4) 0,
 op1 103 (.load 25 (.tmp 102)) 25,
 op1 104 (.call { callee := (.builtin .len), args := #[(.tmp 103)], argTypes := #[25] }) 3,
 op1 105 (.move (.const (.int .i64 0))) 3] fr st k := evK_r 24 (by kernel_rfl)
def c21_79 : Code := codeN b21 559
theorem e21_79 : evK gS fi21 c21_79 fr st k = opsR gS fi21 [op1 106 (.binOp .lss 3 (.tmp 105) (.tmp 104) 3) 0] fr st k := evK_r 25 (by kernel_rfl)
def c21_82 : Code := .skip
theorem e21_82 : evK gS fi21 c21_82 fr st k = nextK gS fi21 k .normal fr st := rfl
def c21_83 : Code := .exit 1
theorem e21_83 : evK gS fi21 c21_83 fr st k = nextK gS fi21 k (.exit 1) fr st := rfl
def c21_81 : Code := .cond (.tmp 106) c21_82 c21_83
theorem e21_81 : evK gS fi21 c21_81 fr st k = condK gS fi21 (fr.op (.tmp 106)).bool? c21_82 c21_83 fr st k := rfl
def c21_87 : Code := codeN b21 9007
theorem e21_87 : evK gS fi21 c21_87 fr st k = opsR gS fi21 [op1 107 (.indexAddr 25 (.tmp 103) (.tmp 105)) 0,
 op1 108 (.load 24 (.tmp 107)) 24,
 op1 10 (.alloc 24) 0,
 mk none (.store 24 (.tmp 10) (.tmp 108)) 0 none] fr st k := evK_r 26 (by kernel_rfl)
def c21_89 : Code := codeN b21 21295
theorem e21_89 : evK gS fi21 c21_89 fr st k = opsR gS fi21 [op1 109 (.load 24 (.tmp 3)) 24,
 op1 110 (.load 24 (.tmp 10)) 24,
 op1 111 (.call { callee := (.value (.func 32)), args := #[(.tmp 109), (.tmp 110)], argTypes := #[24, 24] }) 4] fr st k := evK_r 27 (by kernel_rfl)
def c21_92 : Code := codeN b21 78639
theorem e21_92 : evK gS fi21 c21_92 fr st k = opsR gS fi21 [op1 4 (.assign (.const (.bool true))) 4] fr st k := evK_r 28 (by kernel_rfl)
def c21_93 : Code := .ret
theorem e21_93 : evK gS fi21 c21_93 fr st k = nextK gS fi21 k .ret fr st := rfl
def c21_91 : Code := .seq c21_92 c21_93
theorem e21_91 : evK gS fi21 c21_91 fr st k = evK gS fi21 c21_92 fr st (.seq c21_93 k) := rfl
def c21_94 : Code := .skip
theorem e21_94 : evK gS fi21 c21_94 fr st k = nextK gS fi21 k .normal fr st := rfl
def c21_90 : Code := .cond (.tmp 111) c21_91 c21_94
theorem e21_90 : evK gS fi21 c21_90 fr st k = condK gS fi21 (fr.op (.tmp 111)).bool? c21_91 c21_94 fr st k := rfl
def c21_88 : Code := .seq c21_89 c21_90
theorem e21_88 : evK gS fi21 c21_88 fr st k = evK gS fi21 c21_89 fr st (.seq c21_90 k) := rfl
def c21_86 : Code := .seq c21_87 c21_88
theorem e21_86 : evK gS fi21 c21_86 fr st k = evK gS fi21 c21_87 fr st (.seq c21_88 k) := rfl
def c21_85 : Code := .block 2 c21_86
theorem e21_85 : evK gS fi21 c21_85 fr st k = evK gS fi21 c21_86 fr st (.blk 2 k) := rfl
def c21_95 : Code := codeN b21 3887
theorem e21_95 : evK gS fi21 c21_95 fr st k = opsR gS fi21 [op1 112 (.binOp .add 3 (.tmp 105) (.const (.int .i64 1)) 3) 3,
 op1 105 (.move (.tmp 112)) 3] fr st k := evK_r 29 (by kernel_rfl)
def c21_84 : Code := .seq c21_85 c21_95
theorem e21_84 : evK gS fi21 c21_84 fr st k = evK gS fi21 c21_85 fr st (.seq c21_95 k) := rfl
def c21_80 : Code := .seq c21_81 c21_84
theorem e21_80 : evK gS fi21 c21_80 fr st k = evK gS fi21 c21_81 fr st (.seq c21_84 k) := rfl
def c21_78 : Code := .seq c21_79 c21_80
theorem e21_78 : evK gS fi21 c21_78 fr st k = evK gS fi21 c21_79 fr st (.seq c21_80 k) := rfl
def c21_77 : Code := .loop c21_78
def c21_76 : Code := .block 1 c21_77
theorem e21_76 : evK gS fi21 c21_76 fr st k = evK gS fi21 c21_77 fr st (.blk 1 k) := rfl
def c21_74 : Code := .seq c21_75 c21_76
theorem e21_74 : evK gS fi21 c21_74 fr st k = evK gS fi21 c21_75 fr st (.seq c21_76 k) := rfl
def c21_97 : Code := codeN b21 95
theorem e21_97 : evK gS fi21 c21_97 fr st k = opsR gS fi21 [op1 4 (.assign (.const (.bool false))) 4] fr st k := evK_r 30 (by kernel_rfl)
def c21_98 : Code := .ret
theorem e21_98 : evK gS fi21 c21_98 fr st k = nextK gS fi21 k .ret fr st := rfl
def c21_96 : Code := .seq c21_97 c21_98
theorem e21_96 : evK gS fi21 c21_96 fr st k = evK gS fi21 c21_97 fr st (.seq c21_98 k) := rfl
def c21_73 : Code := .seq c21_74 c21_96
theorem e21_73 : evK gS fi21 c21_73 fr st k = evK gS fi21 c21_74 fr st (.seq c21_96 k) := rfl
def c21_12 : Code := .seq c21_13 c21_73
theorem e21_12 : evK gS fi21 c21_12 fr st k = evK gS fi21 c21_13 fr st (.seq c21_73 k) := rfl
def c21_10 : Code := .seq c21_11 c21_12
theorem e21_10 : evK gS fi21 c21_10 fr st k = evK gS fi21 c21_11 fr st (.seq c21_12 k) := rfl
def c21_2 : Code := .seq c21_3 c21_10
theorem e21_2 : evK gS fi21 c21_2 fr st k = evK gS fi21 c21_3 fr st (.seq c21_10 k) := rfl
def c21_0 : Code := .seq c21_1 c21_2
theorem e21_0 : evK gS fi21 c21_0 fr st k = evK gS fi21 c21_1 fr st (.seq c21_2 k) := rfl
theorem m21 : mini fi21.body = c21_0 := by kernel_rfl
theorem n21_77 (fr : Fr) (st : St) (k : Kt) : nextK gS fi21 (.loop c21_78 k) .normal fr st = evK gS fi21 c21_77 fr st k := rfl
set_option maxHeartbeats 4000000 in
theorem L21_77 (p : Pred) (v : Val) (h_p : p.ok) (st : St) : ∀ (n i : Nat) (j : Int)  (e0 e1 e2 e4 e5 e6 e7 e8 e10 e22 : E) (T : List (Nat × E)) (X : List (Nat × List V)) (ht0 : e0.Tame) (ht1 : e1.Tame) (ht2 : e2.Tame) (ht4 : e4.Tame) (ht5 : e5.Tame) (ht6 : e6.Tame) (ht7 : e7.Tame) (ht8 : e8.Tame) (ht10 : e10.Tame) (ht22 : e22.Tame) (hx3 : lk X 3 = some [.int .i64 v.kind, .int .i64 v.n, .float .f64 v.x, .str v.s, .bool v.b]) , j = (i : Int) → i ≤ (p.set).length → (p.set).length - i = n →
    evK gS fi21 c21_77 { ps := [(0, e0), (1, e1), (2, e2), (3, .lp 3 0), (4, e4), (5, e5), (6, e6), (7, e7), (8, e8), (10, e10), (22, e22), (103, .val (.slice (encVals p.set))), (104, .val (.int .i64 p.set.length)), (105, .val (.int .i64 j))], ts := T, lc := X } st (.blk 1 (.seq c21_96 .nil)) = some ((.ret (.bool ((p.set.drop i).any (vis v))) none), st) := by
  intro n
  have hm : fi21.marks = [] := rfl
  have hl : fi21.locals = [2, 3, 10] := rfl
  have hr : fi21.results = [.tmp 4] := rfl
  have hpo := h_p.2
  induction n with
  | zero =>
    intro i j  e0 e1 e2 e4 e5 e6 e7 e8 e10 e22 T X ht0 ht1 ht2 ht4 ht5 ht6 ht7 ht8 ht10 ht22 hx3  hj hi hn
    obtain rfl : i = (p.set).length := by omega
    subst hj
    refine evK_loop c21_78 _ st _ _ rfl ?_
    simp (config := { contextual := true, maxSteps := 10000000, maxDischargeDepth := 6 }) [-Int.not_le, -Int.not_lt, -Nat.not_le, -Nat.not_lt, ty3, ty4, ty9, ty24, ty25, ty27, eq24, hm, hl, hr, k19, k32, k75, k76, e21_1, e21_4, e21_7, e21_8, e21_6, e21_9, e21_5, e21_3, e21_11, e21_14, e21_17, e21_20, e21_21, e21_19, e21_23, e21_26, e21_27, e21_25, e21_29, e21_32, e21_33, e21_31, e21_35, e21_38, e21_39, e21_37, e21_41, e21_44, e21_45, e21_43, e21_47, e21_50, e21_51, e21_49, e21_53, e21_56, e21_57, e21_55, e21_59, e21_62, e21_64, e21_65, e21_63, e21_61, e21_67, e21_70, e21_71, e21_69, e21_72, e21_68, e21_66, e21_60, e21_58, e21_54, e21_52, e21_48, e21_46, e21_42, e21_40, e21_36, e21_34, e21_30, e21_28, e21_24, e21_22, e21_18, e21_16, e21_15, e21_13, e21_75, e21_79, e21_82, e21_83, e21_81, e21_87, e21_89, e21_92, e21_93, e21_91, e21_94, e21_90, e21_88, e21_86, e21_85, e21_95, e21_84, e21_80, e21_78, e21_76, e21_74, e21_97, e21_98, e21_96, e21_73, e21_12, e21_10, e21_2, e21_0, n21_77, ht0, ht1, ht2, ht4, ht5, ht6, ht7, ht8, ht10, ht22, hx3]
    all_goals first | done | grind | omega | (trace_state; fail)
  | succ n ih =>
    intro i j  e0 e1 e2 e4 e5 e6 e7 e8 e10 e22 T X ht0 ht1 ht2 ht4 ht5 ht6 ht7 ht8 ht10 ht22 hx3  hj hi hn
    subst hj
    obtain ⟨x, hx⟩ : ∃ x, (p.set)[i]? = some x := ⟨(p.set)[i]'(by omega), List.getElem?_eq_getElem (by omega)⟩
    have hd := drop_get hx
    have hlt : (i : Int) < ((p.set).length : Int) := by omega
    have hlt2 : i < (p.set).length := by omega
    have hxe : (p.set)[i]'hlt2 = x := by rw [List.getElem?_eq_getElem hlt2] at hx; exact Option.some.inj hx
    have hw : IntKind.wrap .i64 ((i : Int) + 1) = (i : Int) + 1 := wrap64 (by omega) (by omega)
    have IH := fun e0 e1 e2 e4 e5 e6 e7 e8 e10 e22 T X ht0 ht1 ht2 ht4 ht5 ht6 ht7 ht8 ht10 ht22 hx3 => ih (i + 1) ((i : Int) + 1) e0 e1 e2 e4 e5 e6 e7 e8 e10 e22 T X ht0 ht1 ht2 ht4 ht5 ht6 ht7 ht8 ht10 ht22 hx3 rfl (by omega) (by omega)
    refine evK_loop c21_78 _ st _ _ rfl ?_
    simp (config := { contextual := true, maxSteps := 10000000, maxDischargeDepth := 6 }) [-Int.not_le, -Int.not_lt, -Nat.not_le, -Nat.not_lt, ty3, ty4, ty9, ty24, ty25, ty27, eq24, hm, hl, hr, k19, k32, k75, k76, e21_1, e21_4, e21_7, e21_8, e21_6, e21_9, e21_5, e21_3, e21_11, e21_14, e21_17, e21_20, e21_21, e21_19, e21_23, e21_26, e21_27, e21_25, e21_29, e21_32, e21_33, e21_31, e21_35, e21_38, e21_39, e21_37, e21_41, e21_44, e21_45, e21_43, e21_47, e21_50, e21_51, e21_49, e21_53, e21_56, e21_57, e21_55, e21_59, e21_62, e21_64, e21_65, e21_63, e21_61, e21_67, e21_70, e21_71, e21_69, e21_72, e21_68, e21_66, e21_60, e21_58, e21_54, e21_52, e21_48, e21_46, e21_42, e21_40, e21_36, e21_34, e21_30, e21_28, e21_24, e21_22, e21_18, e21_16, e21_15, e21_13, e21_75, e21_79, e21_82, e21_83, e21_81, e21_87, e21_89, e21_92, e21_93, e21_91, e21_94, e21_90, e21_88, e21_86, e21_85, e21_95, e21_84, e21_80, e21_78, e21_76, e21_74, e21_97, e21_98, e21_96, e21_73, e21_12, e21_10, e21_2, e21_0, n21_77, ht0, ht1, ht2, ht4, ht5, ht6, ht7, ht8, ht10, ht22, hx3, hx, hxe, hd, hlt, hlt2, hw, IH]
    all_goals first | done | grind | omega | (trace_state; fail)
set_option maxHeartbeats 4000000 in
theorem c21 (p : Pred) (v : Val)  (h_p : Pred.ok p) (st : St) : EvF gS 21 [p.enc, v.enc] st = some (.ret (.bool (ptakes p v)) none, st) := by
  refine EvF_start fi21_eq (fun x h => by cases h) m21 ?_
  rw [st21]
  have hm : fi21.marks = [] := rfl
  have hl : fi21.locals = [2, 3, 10] := rfl
  have hr : fi21.results = [.tmp 4] := rfl
  simp (config := { contextual := true, maxSteps := 10000000, maxDischargeDepth := 6 }) [-Int.not_le, -Int.not_lt, -Nat.not_le, -Nat.not_lt, ty3, ty4, ty9, ty24, ty25, ty27, eq24, hm, hl, hr, k19, k32, k75, k76, e21_1, e21_4, e21_7, e21_8, e21_6, e21_9, e21_5, e21_3, e21_11, e21_14, e21_17, e21_20, e21_21, e21_19, e21_23, e21_26, e21_27, e21_25, e21_29, e21_32, e21_33, e21_31, e21_35, e21_38, e21_39, e21_37, e21_41, e21_44, e21_45, e21_43, e21_47, e21_50, e21_51, e21_49, e21_53, e21_56, e21_57, e21_55, e21_59, e21_62, e21_64, e21_65, e21_63, e21_61, e21_67, e21_70, e21_71, e21_69, e21_72, e21_68, e21_66, e21_60, e21_58, e21_54, e21_52, e21_48, e21_46, e21_42, e21_40, e21_36, e21_34, e21_30, e21_28, e21_24, e21_22, e21_18, e21_16, e21_15, e21_13, e21_75, e21_79, e21_82, e21_83, e21_81, e21_87, e21_89, e21_92, e21_93, e21_91, e21_94, e21_90, e21_88, e21_86, e21_85, e21_95, e21_84, e21_80, e21_78, e21_76, e21_74, e21_97, e21_98, e21_96, e21_73, e21_12, e21_10, e21_2, e21_0, n21_77, (fun e0 e1 e2 e4 e5 e6 e7 e8 e10 e22 T X ht0 ht1 ht2 ht4 ht5 ht6 ht7 ht8 ht10 ht22 hx3 => L21_77 p v h_p st _ 0 0  e0 e1 e2 e4 e5 e6 e7 e8 e10 e22 T X ht0 ht1 ht2 ht4 ht5 ht6 ht7 ht8 ht10 ht22 hx3 rfl (Nat.zero_le _) rfl), h_p.1, h_p.2]
  all_goals try simp (config := { contextual := true }) [-Int.not_le, -Int.not_lt, -Nat.not_le, -Nat.not_lt, ptakes]
  all_goals first | done | grind | omega | (trace_state; fail)
theorem k21 (p_name : List UInt8) (p_test : Int) (p_vk : Int) (p_vn : Int) (p_vx : Nat) (p_vs : List UInt8) (p_vb : Bool) (p_wk : Int) (p_wn : Int) (p_wx : Nat) (p_ws : List UInt8) (p_wb : Bool) (p_set : List Val) (v_k : Int) (v_n : Int) (v_x : Nat) (v_s : List UInt8) (v_b : Bool)  (h_p : Pred.ok (⟨p_name, p_test, ⟨p_vk, p_vn, p_vx, p_vs, p_vb⟩, ⟨p_wk, p_wn, p_wx, p_ws, p_wb⟩, p_set⟩ : Pred)) (fr : Fr) (st : St) : callStep gS (EvF gS) 21 [.agg [.str p_name, .int .i64 p_test, .int .i64 p_vk, .int .i64 p_vn, .float .f64 p_vx, .str p_vs, .bool p_vb, .int .i64 p_wk, .int .i64 p_wn, .float .f64 p_wx, .str p_ws, .bool p_wb, .slice (encVals p_set)], .agg [.int .i64 v_k, .int .i64 v_n, .float .f64 v_x, .str v_s, .bool v_b]] fr st = some (.ok (retE none (.bool (ptakes (⟨p_name, p_test, ⟨p_vk, p_vn, p_vx, p_vs, p_vb⟩, ⟨p_wk, p_wn, p_wx, p_ws, p_wb⟩, p_set⟩ : Pred) (⟨v_k, v_n, v_x, v_s, v_b⟩ : Val)))) fr st) :=
  call_pure rfl fi21_eq rfl (fun st => c21 (⟨p_name, p_test, ⟨p_vk, p_vn, p_vx, p_vs, p_vb⟩, ⟨p_wk, p_wn, p_wx, p_ws, p_wb⟩, p_set⟩ : Pred) (⟨v_k, v_n, v_x, v_s, v_b⟩ : Val) h_p st) (by simp)
theorem x21 : gS.ext 21 = none := rfl
theorem p21 : fi21.pure = true := rfl
def fi22 : FI := { body := codeOf Try.f22, ntmps := 115, results := [.tmp 4], pers := [0, 1, 2, 3, 4, 5, 6, 7, 8, 9, 21], locals := [2, 3], pure := true, marks := [] }
theorem fi22_eq : gS.fn 22 = some fi22 := by kernel_rfl
theorem st22 (a0 a1 : V) : startFr fi22 [a0, a1] = { ps := [(0, .val a0), (1, .val a1), (2, .any), (3, .any), (4, .any), (5, .any), (6, .any), (7, .any), (8, .any), (9, .any), (21, .any)], ts := [], lc := [] } := rfl
def b22 : Code := mini (codeOf Try.f22)
def c22_1 : Code := codeN b22 2
theorem e22_1 : evK gS fi22 c22_1 fr st k = opsR gS fi22 [op1 2 (.box 27 (.tmp 0)) 0,
 op1 3 (.box 24 (.tmp 1)) 0,
 op1 4 (.assign (.const (.bool false))) 4] fr st k := evK_r 0 (by kernel_rfl)
def c22_4 : Code := codeN b22 9
theorem e22_4 : evK gS fi22 c22_4 fr st k = opsR gS fi22 [op1 10 (.load 27 (.tmp 2)) 27,
 op1 11 (.call { callee := (.value (.func 20)), args := #[(.tmp 10)], argTypes := #[27] }) 4,
 op1 12 (.unOp .not 4 (.tmp 11)) 4] fr st k := evK_r 1 (by kernel_rfl)
def c22_7 : Code := codeN b22 37
theorem e22_7 : evK gS fi22 c22_7 fr st k = opsR gS fi22 [op1 4 (.assign (.const (.bool false))) 4] fr st k := evK_r 2 (by kernel_rfl)
def c22_8 : Code := .ret
theorem e22_8 : evK gS fi22 c22_8 fr st k = nextK gS fi22 k .ret fr st := rfl
def c22_6 : Code := .seq c22_7 c22_8
theorem e22_6 : evK gS fi22 c22_6 fr st k = evK gS fi22 c22_7 fr st (.seq c22_8 k) := rfl
def c22_9 : Code := .skip
theorem e22_9 : evK gS fi22 c22_9 fr st k = nextK gS fi22 k .normal fr st := rfl
def c22_5 : Code := .cond (.tmp 12) c22_6 c22_9
theorem e22_5 : evK gS fi22 c22_5 fr st k = condK gS fi22 (fr.op (.tmp 12)).bool? c22_6 c22_9 fr st k := rfl
def c22_3 : Code := .seq c22_4 c22_5
theorem e22_3 : evK gS fi22 c22_3 fr st k = evK gS fi22 c22_4 fr st (.seq c22_5 k) := rfl
def c22_11 : Code := codeN b22 11
theorem e22_11 : evK gS fi22 c22_11 fr st k = opsR gS fi22 [op1 14 (.load 24 (.tmp 3)) 24,
 op1 15 (.fieldAddr 27 (.tmp 2) 2) 0,
 op1 16 (.load 24 (.tmp 15)) 24,
 op1 17 (.call { callee := (.value (.func 77)), args := #[(.tmp 14), (.tmp 16)], argTypes := #[24, 24] }) 94,
 op1 13 (.move (.tmp 17)) 94,
 op1 18 (.extract (.tmp 13) 0) 3,
 op1 19 (.extract (.tmp 13) 1) 4,
 op1 5 (.assign (.tmp 18)) 3,
 op1 6 (.assign (.tmp 19)) 4] fr st k := evK_r 3 (by kernel_rfl)
def c22_14 : Code := codeN b22 39
theorem e22_14 : evK gS fi22 c22_14 fr st k = opsR gS fi22 [op1 20 (.fieldAddr 27 (.tmp 2) 1) 0,
 op1 21 (.load 3 (.tmp 20)) 3] fr st k := evK_r 4 (by kernel_rfl)
def c22_17 : Code := codeN b22 151
theorem e22_17 : evK gS fi22 c22_17 fr st k = opsR gS fi22 [op1 23 (.binOp .eql 3 (.tmp 21) (.const (.int .i64 1)) 3) 4,
 op1 22 (.assign (.tmp 23)) 4] fr st k := evK_r 5 (by kernel_rfl)
def c22_20 : Code := codeN b22 599
theorem e22_20 : evK gS fi22 c22_20 fr st k = opsR gS fi22 [op1 4 (.assign (.const (.bool true))) 4] fr st k := evK_r 6 (by kernel_rfl)
def c22_21 : Code := .ret
theorem e22_21 : evK gS fi22 c22_21 fr st k = nextK gS fi22 k .ret fr st := rfl
def c22_19 : Code := .seq c22_20 c22_21
theorem e22_19 : evK gS fi22 c22_19 fr st k = evK gS fi22 c22_20 fr st (.seq c22_21 k) := rfl
def c22_23 : Code := codeN b22 727
theorem e22_23 : evK gS fi22 c22_23 fr st k = opsR gS fi22 [op1 25 (.binOp .eql 3 (.tmp 21) (.const (.int .i64 2)) 3) 4,
 op1 24 (.assign (.tmp 25)) 4] fr st k := evK_r 7 (by kernel_rfl)
def c22_26 : Code := codeN b22 2519
theorem e22_26 : evK gS fi22 c22_26 fr st k = opsR gS fi22 [op1 26 (.move (.tmp 6)) 4,
 op1 27 (.move (.tmp 26)) 4,
 mk (some 28) (.move (.tmp 5)) 3 (some (1, true)),
 mk (some 29) (.binOp .eql 3 (.tmp 28) (.const (.int .i64 0)) 3) 4 (some (1, true)),
 op1 30 (.pick (.tmp 27) (.tmp 29) (.const (.bool false))) 4,
 op1 4 (.assign (.tmp 30)) 4] fr st k := evK_r 8 (by kernel_rfl)
def c22_27 : Code := .ret
theorem e22_27 : evK gS fi22 c22_27 fr st k = nextK gS fi22 k .ret fr st := rfl
def c22_25 : Code := .seq c22_26 c22_27
theorem e22_25 : evK gS fi22 c22_25 fr st k = evK gS fi22 c22_26 fr st (.seq c22_27 k) := rfl
def c22_29 : Code := codeN b22 3031
theorem e22_29 : evK gS fi22 c22_29 fr st k = opsR gS fi22 [op1 32 (.binOp .eql 3 (.tmp 21) (.const (.int .i64 3)) 3) 4,
 op1 31 (.assign (.tmp 32)) 4] fr st k := evK_r 9 (by kernel_rfl)
def c22_32 : Code := codeN b22 10199
theorem e22_32 : evK gS fi22 c22_32 fr st k = opsR gS fi22 [op1 33 (.move (.tmp 6)) 4,
 op1 34 (.unOp .not 4 (.tmp 33)) 4,
 op1 35 (.move (.tmp 34)) 4,
 mk (some 36) (.move (.tmp 5)) 3 (some (2, false)),
 mk (some 37) (.binOp .neq 3 (.tmp 36) (.const (.int .i64 0)) 3) 4 (some (2, false)),
 op1 38 (.pick (.tmp 35) (.const (.bool true)) (.tmp 37)) 4,
 op1 4 (.assign (.tmp 38)) 4] fr st k := evK_r 10 (by kernel_rfl)
def c22_33 : Code := .ret
theorem e22_33 : evK gS fi22 c22_33 fr st k = nextK gS fi22 k .ret fr st := rfl
def c22_31 : Code := .seq c22_32 c22_33
theorem e22_31 : evK gS fi22 c22_31 fr st k = evK gS fi22 c22_32 fr st (.seq c22_33 k) := rfl
def c22_35 : Code := codeN b22 12247
theorem e22_35 : evK gS fi22 c22_35 fr st k = opsR gS fi22 [op1 40 (.binOp .eql 3 (.tmp 21) (.const (.int .i64 4)) 3) 4,
 op1 39 (.assign (.tmp 40)) 4] fr st k := evK_r 11 (by kernel_rfl)
def c22_38 : Code := codeN b22 40919
theorem e22_38 : evK gS fi22 c22_38 fr st k = opsR gS fi22 [op1 41 (.move (.tmp 6)) 4,
 op1 42 (.move (.tmp 41)) 4,
 mk (some 43) (.move (.tmp 5)) 3 (some (1, true)),
 mk (some 44) (.binOp .lss 3 (.tmp 43) (.const (.int .i64 0)) 3) 4 (some (1, true)),
 op1 45 (.pick (.tmp 42) (.tmp 44) (.const (.bool false))) 4,
 op1 4 (.assign (.tmp 45)) 4] fr st k := evK_r 12 (by kernel_rfl)
def c22_39 : Code := .ret
theorem e22_39 : evK gS fi22 c22_39 fr st k = nextK gS fi22 k .ret fr st := rfl
def c22_37 : Code := .seq c22_38 c22_39
theorem e22_37 : evK gS fi22 c22_37 fr st k = evK gS fi22 c22_38 fr st (.seq c22_39 k) := rfl
def c22_41 : Code := codeN b22 49111
theorem e22_41 : evK gS fi22 c22_41 fr st k = opsR gS fi22 [op1 47 (.binOp .eql 3 (.tmp 21) (.const (.int .i64 5)) 3) 4,
 op1 46 (.assign (.tmp 47)) 4] fr st k := evK_r 13 (by kernel_rfl)
def c22_44 : Code := codeN b22 163799
theorem e22_44 : evK gS fi22 c22_44 fr st k = opsR gS fi22 [op1 48 (.move (.tmp 6)) 4,
 op1 49 (.move (.tmp 48)) 4,
 mk (some 50) (.move (.tmp 5)) 3 (some (1, true)),
 mk (some 51) (.binOp .leq 3 (.tmp 50) (.const (.int .i64 0)) 3) 4 (some (1, true)),
 op1 52 (.pick (.tmp 49) (.tmp 51) (.const (.bool false))) 4,
 op1 4 (.assign (.tmp 52)) 4] fr st k := evK_r 14 (by kernel_rfl)
def c22_45 : Code := .ret
theorem e22_45 : evK gS fi22 c22_45 fr st k = nextK gS fi22 k .ret fr st := rfl
def c22_43 : Code := .seq c22_44 c22_45
theorem e22_43 : evK gS fi22 c22_43 fr st k = evK gS fi22 c22_44 fr st (.seq c22_45 k) := rfl
def c22_47 : Code := codeN b22 196567
theorem e22_47 : evK gS fi22 c22_47 fr st k = opsR gS fi22 [op1 54 (.binOp .eql 3 (.tmp 21) (.const (.int .i64 6)) 3) 4,
 op1 53 (.assign (.tmp 54)) 4] fr st k := evK_r 15 (by kernel_rfl)
def c22_50 : Code := codeN b22 655319
theorem e22_50 : evK gS fi22 c22_50 fr st k = opsR gS fi22 [op1 55 (.move (.tmp 6)) 4,
 op1 56 (.move (.tmp 55)) 4,
 mk (some 57) (.move (.tmp 5)) 3 (some (1, true)),
 mk (some 58) (.binOp .gtr 3 (.tmp 57) (.const (.int .i64 0)) 3) 4 (some (1, true)),
 op1 59 (.pick (.tmp 56) (.tmp 58) (.const (.bool false))) 4,
 op1 4 (.assign (.tmp 59)) 4] fr st k := evK_r 16 (by kernel_rfl)
def c22_51 : Code := .ret
theorem e22_51 : evK gS fi22 c22_51 fr st k = nextK gS fi22 k .ret fr st := rfl
def c22_49 : Code := .seq c22_50 c22_51
theorem e22_49 : evK gS fi22 c22_49 fr st k = evK gS fi22 c22_50 fr st (.seq c22_51 k) := rfl
def c22_53 : Code := codeN b22 786391
theorem e22_53 : evK gS fi22 c22_53 fr st k = opsR gS fi22 [op1 61 (.binOp .eql 3 (.tmp 21) (.const (.int .i64 7)) 3) 4,
 op1 60 (.assign (.tmp 61)) 4] fr st k := evK_r 17 (by kernel_rfl)
def c22_56 : Code := codeN b22 2621399
theorem e22_56 : evK gS fi22 c22_56 fr st k = opsR gS fi22 [op1 62 (.move (.tmp 6)) 4,
 op1 63 (.move (.tmp 62)) 4,
 mk (some 64) (.move (.tmp 5)) 3 (some (1, true)),
 mk (some 65) (.binOp .geq 3 (.tmp 64) (.const (.int .i64 0)) 3) 4 (some (1, true)),
 op1 66 (.pick (.tmp 63) (.tmp 65) (.const (.bool false))) 4,
 op1 4 (.assign (.tmp 66)) 4] fr st k := evK_r 18 (by kernel_rfl)
def c22_57 : Code := .ret
theorem e22_57 : evK gS fi22 c22_57 fr st k = nextK gS fi22 k .ret fr st := rfl
def c22_55 : Code := .seq c22_56 c22_57
theorem e22_55 : evK gS fi22 c22_55 fr st k = evK gS fi22 c22_56 fr st (.seq c22_57 k) := rfl
def c22_59 : Code := codeN b22 3145687
theorem e22_59 : evK gS fi22 c22_59 fr st k = opsR gS fi22 [op1 68 (.binOp .eql 3 (.tmp 21) (.const (.int .i64 8)) 3) 4,
 op1 67 (.assign (.tmp 68)) 4] fr st k := evK_r 19 (by kernel_rfl)
def c22_62 : Code := codeN b22 10485719
theorem e22_62 : evK gS fi22 c22_62 fr st k = opsR gS fi22 [op1 70 (.load 24 (.tmp 3)) 24,
 op1 71 (.fieldAddr 27 (.tmp 2) 3) 0,
 op1 72 (.load 24 (.tmp 71)) 24,
 op1 73 (.call { callee := (.value (.func 77)), args := #[(.tmp 70), (.tmp 72)], argTypes := #[24, 24] }) 94,
 op1 69 (.move (.tmp 73)) 94,
 op1 74 (.extract (.tmp 69) 0) 3,
 op1 75 (.extract (.tmp 69) 1) 4,
 op1 7 (.assign (.tmp 74)) 3,
 op1 8 (.assign (.tmp 75)) 4] fr st k := evK_r 20 (by kernel_rfl)
def c22_64 : Code := codeN b22 23068631
theorem e22_64 : evK gS fi22 c22_64 fr st k = opsR gS fi22 [op1 76 (.move (.tmp 6)) 4,
 op1 77 (.move (.tmp 76)) 4,
 mk (some 78) (.move (.tmp 8)) 4 (some (1, true)),
 op1 79 (.pick (.tmp 77) (.tmp 78) (.const (.bool false))) 4,
 op1 80 (.move (.tmp 79)) 4,
 mk (some 81) (.move (.tmp 5)) 3 (some (4, true)),
 mk (some 82) (.binOp .geq 3 (.tmp 81) (.const (.int .i64 0)) 3) 4 (some (4, true)),
 op1 83 (.pick (.tmp 80) (.tmp 82) (.const (.bool false))) 4,
 op1 84 (.move (.tmp 83)) 4,
 mk (some 85) (.move (.tmp 7)) 3 (some (8, true)),
 mk (some 86) (.binOp .leq 3 (.tmp 85) (.const (.int .i64 0)) 3) 4 (some (8, true)),
 op1 87 (.pick (.tmp 84) (.tmp 86) (.const (.bool false))) 4,
 op1 4 (.assign (.tmp 87)) 4] fr st k := evK_r 21 (by kernel_rfl)
def c22_65 : Code := .ret
theorem e22_65 : evK gS fi22 c22_65 fr st k = nextK gS fi22 k .ret fr st := rfl
def c22_63 : Code := .seq c22_64 c22_65
theorem e22_63 : evK gS fi22 c22_63 fr st k = evK gS fi22 c22_64 fr st (.seq c22_65 k) := rfl
def c22_61 : Code := .seq c22_62 c22_63
theorem e22_61 : evK gS fi22 c22_61 fr st k = evK gS fi22 c22_62 fr st (.seq c22_63 k) := rfl
def c22_67 : Code := codeN b22 12582871
theorem e22_67 : evK gS fi22 c22_67 fr st k = opsR gS fi22 [op1 89 (.binOp .eql 3 (.tmp 21) (.const (.int .i64 9)) 3) 4,
 op1 88 (.assign (.tmp 89)) 4] fr st k := evK_r 22 (by kernel_rfl)
def c22_70 : Code := codeN b22 41942999
theorem e22_70 : evK gS fi22 c22_70 fr st k = opsR gS fi22 [op1 90 (.fieldAddr 24 (.tmp 3) 0) 0,
 op1 91 (.load 3 (.tmp 90)) 3,
 op1 92 (.binOp .eql 3 (.tmp 91) (.const (.int .i64 3)) 3) 4,
 op1 93 (.move (.tmp 92)) 4,
 mk (some 94) (.fieldAddr 24 (.tmp 3) 3) 0 (some (3, true)),
 mk (some 95) (.load 9 (.tmp 94)) 9 (some (3, true)),
 mk (some 96) (.fieldAddr 27 (.tmp 2) 2) 0 (some (3, true)),
 mk (some 97) (.fieldAddr 24 (.tmp 96) 3) 0 (some (3, true)),
 mk (some 98) (.load 9 (.tmp 97)) 9 (some (3, true)),
 mk (some 99) (.call { callee := (.value (.func 78)), args := #[(.tmp 95), (.tmp 98)], argTypes := #[9, 9] }) 4 (some (3, true)),
 op1 100 (.pick (.tmp 93) (.tmp 99) (.const (.bool false))) 4,
 op1 4 (.assign (.tmp 100)) 4] fr st k := evK_r 23 (by kernel_rfl)
def c22_71 : Code := .ret
theorem e22_71 : evK gS fi22 c22_71 fr st k = nextK gS fi22 k .ret fr st := rfl
def c22_69 : Code := .seq c22_70 c22_71
theorem e22_69 : evK gS fi22 c22_69 fr st k = evK gS fi22 c22_70 fr st (.seq c22_71 k) := rfl
def c22_72 : Code := .skip
theorem e22_72 : evK gS fi22 c22_72 fr st k = nextK gS fi22 k .normal fr st := rfl
def c22_68 : Code := .cond (.tmp 88) c22_69 c22_72
theorem e22_68 : evK gS fi22 c22_68 fr st k = condK gS fi22 (fr.op (.tmp 88)).bool? c22_69 c22_72 fr st k := rfl
def c22_66 : Code := .seq c22_67 c22_68
theorem e22_66 : evK gS fi22 c22_66 fr st k = evK gS fi22 c22_67 fr st (.seq c22_68 k) := rfl
def c22_60 : Code := .cond (.tmp 67) c22_61 c22_66
theorem e22_60 : evK gS fi22 c22_60 fr st k = condK gS fi22 (fr.op (.tmp 67)).bool? c22_61 c22_66 fr st k := rfl
def c22_58 : Code := .seq c22_59 c22_60
theorem e22_58 : evK gS fi22 c22_58 fr st k = evK gS fi22 c22_59 fr st (.seq c22_60 k) := rfl
def c22_54 : Code := .cond (.tmp 60) c22_55 c22_58
theorem e22_54 : evK gS fi22 c22_54 fr st k = condK gS fi22 (fr.op (.tmp 60)).bool? c22_55 c22_58 fr st k := rfl
def c22_52 : Code := .seq c22_53 c22_54
theorem e22_52 : evK gS fi22 c22_52 fr st k = evK gS fi22 c22_53 fr st (.seq c22_54 k) := rfl
def c22_48 : Code := .cond (.tmp 53) c22_49 c22_52
theorem e22_48 : evK gS fi22 c22_48 fr st k = condK gS fi22 (fr.op (.tmp 53)).bool? c22_49 c22_52 fr st k := rfl
def c22_46 : Code := .seq c22_47 c22_48
theorem e22_46 : evK gS fi22 c22_46 fr st k = evK gS fi22 c22_47 fr st (.seq c22_48 k) := rfl
def c22_42 : Code := .cond (.tmp 46) c22_43 c22_46
theorem e22_42 : evK gS fi22 c22_42 fr st k = condK gS fi22 (fr.op (.tmp 46)).bool? c22_43 c22_46 fr st k := rfl
def c22_40 : Code := .seq c22_41 c22_42
theorem e22_40 : evK gS fi22 c22_40 fr st k = evK gS fi22 c22_41 fr st (.seq c22_42 k) := rfl
def c22_36 : Code := .cond (.tmp 39) c22_37 c22_40
theorem e22_36 : evK gS fi22 c22_36 fr st k = condK gS fi22 (fr.op (.tmp 39)).bool? c22_37 c22_40 fr st k := rfl
def c22_34 : Code := .seq c22_35 c22_36
theorem e22_34 : evK gS fi22 c22_34 fr st k = evK gS fi22 c22_35 fr st (.seq c22_36 k) := rfl
def c22_30 : Code := .cond (.tmp 31) c22_31 c22_34
theorem e22_30 : evK gS fi22 c22_30 fr st k = condK gS fi22 (fr.op (.tmp 31)).bool? c22_31 c22_34 fr st k := rfl
def c22_28 : Code := .seq c22_29 c22_30
theorem e22_28 : evK gS fi22 c22_28 fr st k = evK gS fi22 c22_29 fr st (.seq c22_30 k) := rfl
def c22_24 : Code := .cond (.tmp 24) c22_25 c22_28
theorem e22_24 : evK gS fi22 c22_24 fr st k = condK gS fi22 (fr.op (.tmp 24)).bool? c22_25 c22_28 fr st k := rfl
def c22_22 : Code := .seq c22_23 c22_24
theorem e22_22 : evK gS fi22 c22_22 fr st k = evK gS fi22 c22_23 fr st (.seq c22_24 k) := rfl
def c22_18 : Code := .cond (.tmp 22) c22_19 c22_22
theorem e22_18 : evK gS fi22 c22_18 fr st k = condK gS fi22 (fr.op (.tmp 22)).bool? c22_19 c22_22 fr st k := rfl
def c22_16 : Code := .seq c22_17 c22_18
theorem e22_16 : evK gS fi22 c22_16 fr st k = evK gS fi22 c22_17 fr st (.seq c22_18 k) := rfl
def c22_15 : Code := .block 0 c22_16
theorem e22_15 : evK gS fi22 c22_15 fr st k = evK gS fi22 c22_16 fr st (.blk 0 k) := rfl
def c22_13 : Code := .seq c22_14 c22_15
theorem e22_13 : evK gS fi22 c22_13 fr st k = evK gS fi22 c22_14 fr st (.seq c22_15 k) := rfl
def c22_75 : Code := codeN b22 79
theorem e22_75 : evK gS fi22 c22_75 fr st k = opsR gS fi22 [op1 9 (.assign (.const (.int .i64 0))) 3] fr st k := evK_r 24 (by kernel_rfl)
def c22_80 : Code := codeN b22 1071
theorem e22_80 : evK gS fi22 c22_80 fr st k = opsR gS fi22 [op1 101 (.move (.tmp 9)) 3,
 op1 102 (.fieldAddr 27 (.tmp 2) 4) 0,
 op1 103 (.load 25 (.tmp 102)) 25,
 op1 104 (.call { callee := (.builtin .len), args := #[(.tmp 103)], argTypes := #[25] }) 3,
 op1 105 (.binOp .lss 3 (.tmp 101) (.tmp 104) 3) 4] fr st k := evK_r 25 (by kernel_rfl)
def c22_82 : Code := .skip
theorem e22_82 : evK gS fi22 c22_82 fr st k = nextK gS fi22 k .normal fr st := rfl
def c22_83 : Code := .exit 1
theorem e22_83 : evK gS fi22 c22_83 fr st k = nextK gS fi22 k (.exit 1) fr st := rfl
def c22_81 : Code := .cond (.tmp 105) c22_82 c22_83
theorem e22_81 : evK gS fi22 c22_81 fr st k = condK gS fi22 (fr.op (.tmp 105)).bool? c22_82 c22_83 fr st k := rfl
def c22_79 : Code := .seq c22_80 c22_81
theorem e22_79 : evK gS fi22 c22_79 fr st k = evK gS fi22 c22_80 fr st (.seq c22_81 k) := rfl
def r22_87 : Array Oper := regOps (codeN (codeOf Try.f22) 4399)
def c22_87 : Code := .region 27 r22_87 true
def q22_87 : List (Oper × Fl) := [(op1 108 (.load 24 (.tmp 3)) 24, ⟨true, false, true, false, false, false, true, true, false, false, []⟩),
 (op1 109 (.fieldAddr 27 (.tmp 2) 4) 0, ⟨true, false, true, false, false, false, true, true, false, false, []⟩),
 (op1 110 (.load 25 (.tmp 109)) 25, ⟨true, false, true, false, false, false, true, true, false, false, []⟩),
 (op1 111 (.move (.tmp 9)) 3, ⟨true, false, true, false, true, false, true, true, false, false, []⟩),
 (op1 112 (.indexAddr 25 (.tmp 110) (.tmp 111)) 0, ⟨true, false, true, false, true, false, true, true, false, false, []⟩),
 (op1 113 (.load 24 (.tmp 112)) 24, ⟨true, false, true, false, true, false, true, true, false, false, []⟩),
 (op1 114 (.call { callee := (.value (.func 79)), args := #[(.tmp 108), (.tmp 113)], argTypes := #[24, 24] }) 4, ⟨true, true, true, false, true, true, true, true, false, false, []⟩)]
theorem e22_87 : evK gS fi22 c22_87 fr st k = drwR gS fi22 r22_87 q22_87 fr st k := evK_dr 27 rfl (by kernel_rfl) (by kernel_rfl)
def c22_90 : Code := codeN b22 18735
theorem e22_90 : evK gS fi22 c22_90 fr st k = opsR gS fi22 [op1 4 (.assign (.const (.bool true))) 4] fr st k := evK_r 28 (by kernel_rfl)
def c22_91 : Code := .ret
theorem e22_91 : evK gS fi22 c22_91 fr st k = nextK gS fi22 k .ret fr st := rfl
def c22_89 : Code := .seq c22_90 c22_91
theorem e22_89 : evK gS fi22 c22_89 fr st k = evK gS fi22 c22_90 fr st (.seq c22_91 k) := rfl
def c22_92 : Code := .skip
theorem e22_92 : evK gS fi22 c22_92 fr st k = nextK gS fi22 k .normal fr st := rfl
def c22_88 : Code := .cond (.tmp 114) c22_89 c22_92
theorem e22_88 : evK gS fi22 c22_88 fr st k = condK gS fi22 (fr.op (.tmp 114)).bool? c22_89 c22_92 fr st k := rfl
def c22_86 : Code := .seq c22_87 c22_88
theorem e22_86 : evK gS fi22 c22_86 fr st k = evK gS fi22 c22_87 fr st (.seq c22_88 k) := rfl
def c22_85 : Code := .block 2 c22_86
theorem e22_85 : evK gS fi22 c22_85 fr st k = evK gS fi22 c22_86 fr st (.blk 2 k) := rfl
def c22_93 : Code := codeN b22 1839
theorem e22_93 : evK gS fi22 c22_93 fr st k = opsR gS fi22 [op1 106 (.move (.tmp 9)) 3,
 op1 107 (.binOp .add 3 (.tmp 106) (.const (.int .i64 1)) 3) 3,
 op1 9 (.assign (.tmp 107)) 3] fr st k := evK_r 26 (by kernel_rfl)
def c22_84 : Code := .seq c22_85 c22_93
theorem e22_84 : evK gS fi22 c22_84 fr st k = evK gS fi22 c22_85 fr st (.seq c22_93 k) := rfl
def c22_78 : Code := .seq c22_79 c22_84
theorem e22_78 : evK gS fi22 c22_78 fr st k = evK gS fi22 c22_79 fr st (.seq c22_84 k) := rfl
def c22_77 : Code := .loop c22_78
def c22_76 : Code := .block 1 c22_77
theorem e22_76 : evK gS fi22 c22_76 fr st k = evK gS fi22 c22_77 fr st (.blk 1 k) := rfl
def c22_74 : Code := .seq c22_75 c22_76
theorem e22_74 : evK gS fi22 c22_74 fr st k = evK gS fi22 c22_75 fr st (.seq c22_76 k) := rfl
def c22_95 : Code := codeN b22 95
theorem e22_95 : evK gS fi22 c22_95 fr st k = opsR gS fi22 [op1 4 (.assign (.const (.bool false))) 4] fr st k := evK_r 29 (by kernel_rfl)
def c22_96 : Code := .ret
theorem e22_96 : evK gS fi22 c22_96 fr st k = nextK gS fi22 k .ret fr st := rfl
def c22_94 : Code := .seq c22_95 c22_96
theorem e22_94 : evK gS fi22 c22_94 fr st k = evK gS fi22 c22_95 fr st (.seq c22_96 k) := rfl
def c22_73 : Code := .seq c22_74 c22_94
theorem e22_73 : evK gS fi22 c22_73 fr st k = evK gS fi22 c22_74 fr st (.seq c22_94 k) := rfl
def c22_12 : Code := .seq c22_13 c22_73
theorem e22_12 : evK gS fi22 c22_12 fr st k = evK gS fi22 c22_13 fr st (.seq c22_73 k) := rfl
def c22_10 : Code := .seq c22_11 c22_12
theorem e22_10 : evK gS fi22 c22_10 fr st k = evK gS fi22 c22_11 fr st (.seq c22_12 k) := rfl
def c22_2 : Code := .seq c22_3 c22_10
theorem e22_2 : evK gS fi22 c22_2 fr st k = evK gS fi22 c22_3 fr st (.seq c22_10 k) := rfl
def c22_0 : Code := .seq c22_1 c22_2
theorem e22_0 : evK gS fi22 c22_0 fr st k = evK gS fi22 c22_1 fr st (.seq c22_2 k) := rfl
theorem m22 : mini fi22.body = c22_0 := by kernel_rfl
theorem n22_77 (fr : Fr) (st : St) (k : Kt) : nextK gS fi22 (.loop c22_78 k) .normal fr st = evK gS fi22 c22_77 fr st k := rfl
set_option maxHeartbeats 4000000 in
theorem L22_77 (p : Pred) (v : Val) (h_p : p.ok) (st : St) : ∀ (n i : Nat) (j : Int)  (e0 e1 e4 e5 e6 e7 e8 e21 : E) (T : List (Nat × E)) (X : List (Nat × List V)) (ht0 : e0.Tame) (ht1 : e1.Tame) (ht4 : e4.Tame) (ht5 : e5.Tame) (ht6 : e6.Tame) (ht7 : e7.Tame) (ht8 : e8.Tame) (ht21 : e21.Tame) (hx2 : lk X 2 = some [.str p.name, .int .i64 p.test, .int .i64 p.v.kind, .int .i64 p.v.n, .float .f64 p.v.x, .str p.v.s, .bool p.v.b, .int .i64 p.w.kind, .int .i64 p.w.n, .float .f64 p.w.x, .str p.w.s, .bool p.w.b, .slice (encVals p.set)]) (hx3 : lk X 3 = some [.int .i64 v.kind, .int .i64 v.n, .float .f64 v.x, .str v.s, .bool v.b]) , j = (i : Int) → i ≤ (p.set).length → (p.set).length - i = n →
    evK gS fi22 c22_77 { ps := [(0, e0), (1, e1), (2, .lp 2 0), (3, .lp 3 0), (4, e4), (5, e5), (6, e6), (7, e7), (8, e8), (9, .val (.int .i64 j)), (21, e21)], ts := T, lc := X } st (.blk 1 (.seq c22_94 .nil)) = some ((.ret (.bool ((p.set.drop i).any (vis v))) none), st) := by
  intro n
  have hm : fi22.marks = [] := rfl
  have hl : fi22.locals = [2, 3] := rfl
  have hr : fi22.results = [.tmp 4] := rfl
  have hpo := h_p.2
  induction n with
  | zero =>
    intro i j  e0 e1 e4 e5 e6 e7 e8 e21 T X ht0 ht1 ht4 ht5 ht6 ht7 ht8 ht21 hx2 hx3  hj hi hn
    obtain rfl : i = (p.set).length := by omega
    subst hj
    refine evK_loop c22_78 _ st _ _ rfl ?_
    simp (config := { contextual := true, maxSteps := 10000000, maxDischargeDepth := 6 }) [-Int.not_le, -Int.not_lt, -Nat.not_le, -Nat.not_lt, ty3, ty4, ty9, ty24, ty25, ty27, eq24, hm, hl, hr, k20, x20, fi20_eq, p20, k77, x77, fi77_eq, p77, k78, x78, fi78_eq, p78, k79, x79, fi79_eq, p79, e22_1, e22_4, e22_7, e22_8, e22_6, e22_9, e22_5, e22_3, e22_11, e22_14, e22_17, e22_20, e22_21, e22_19, e22_23, e22_26, e22_27, e22_25, e22_29, e22_32, e22_33, e22_31, e22_35, e22_38, e22_39, e22_37, e22_41, e22_44, e22_45, e22_43, e22_47, e22_50, e22_51, e22_49, e22_53, e22_56, e22_57, e22_55, e22_59, e22_62, e22_64, e22_65, e22_63, e22_61, e22_67, e22_70, e22_71, e22_69, e22_72, e22_68, e22_66, e22_60, e22_58, e22_54, e22_52, e22_48, e22_46, e22_42, e22_40, e22_36, e22_34, e22_30, e22_28, e22_24, e22_22, e22_18, e22_16, e22_15, e22_13, e22_75, e22_80, e22_82, e22_83, e22_81, e22_79, e22_87, q22_87, e22_90, e22_91, e22_89, e22_92, e22_88, e22_86, e22_85, e22_93, e22_84, e22_78, e22_76, e22_74, e22_95, e22_96, e22_94, e22_73, e22_12, e22_10, e22_2, e22_0, n22_77, ht0, ht1, ht4, ht5, ht6, ht7, ht8, ht21, hx2, hx3]
    all_goals first | done | grind | omega | (trace_state; fail)
  | succ n ih =>
    intro i j  e0 e1 e4 e5 e6 e7 e8 e21 T X ht0 ht1 ht4 ht5 ht6 ht7 ht8 ht21 hx2 hx3  hj hi hn
    subst hj
    obtain ⟨x, hx⟩ : ∃ x, (p.set)[i]? = some x := ⟨(p.set)[i]'(by omega), List.getElem?_eq_getElem (by omega)⟩
    have hd := drop_get hx
    have hlt : (i : Int) < ((p.set).length : Int) := by omega
    have hlt2 : i < (p.set).length := by omega
    have hxe : (p.set)[i]'hlt2 = x := by rw [List.getElem?_eq_getElem hlt2] at hx; exact Option.some.inj hx
    have hw : IntKind.wrap .i64 ((i : Int) + 1) = (i : Int) + 1 := wrap64 (by omega) (by omega)
    have IH := fun e0 e1 e4 e5 e6 e7 e8 e21 T X ht0 ht1 ht4 ht5 ht6 ht7 ht8 ht21 hx2 hx3 => ih (i + 1) ((i : Int) + 1) e0 e1 e4 e5 e6 e7 e8 e21 T X ht0 ht1 ht4 ht5 ht6 ht7 ht8 ht21 hx2 hx3 rfl (by omega) (by omega)
    refine evK_loop c22_78 _ st _ _ rfl ?_
    simp (config := { contextual := true, maxSteps := 10000000, maxDischargeDepth := 6 }) [-Int.not_le, -Int.not_lt, -Nat.not_le, -Nat.not_lt, ty3, ty4, ty9, ty24, ty25, ty27, eq24, hm, hl, hr, k20, x20, fi20_eq, p20, k77, x77, fi77_eq, p77, k78, x78, fi78_eq, p78, k79, x79, fi79_eq, p79, e22_1, e22_4, e22_7, e22_8, e22_6, e22_9, e22_5, e22_3, e22_11, e22_14, e22_17, e22_20, e22_21, e22_19, e22_23, e22_26, e22_27, e22_25, e22_29, e22_32, e22_33, e22_31, e22_35, e22_38, e22_39, e22_37, e22_41, e22_44, e22_45, e22_43, e22_47, e22_50, e22_51, e22_49, e22_53, e22_56, e22_57, e22_55, e22_59, e22_62, e22_64, e22_65, e22_63, e22_61, e22_67, e22_70, e22_71, e22_69, e22_72, e22_68, e22_66, e22_60, e22_58, e22_54, e22_52, e22_48, e22_46, e22_42, e22_40, e22_36, e22_34, e22_30, e22_28, e22_24, e22_22, e22_18, e22_16, e22_15, e22_13, e22_75, e22_80, e22_82, e22_83, e22_81, e22_79, e22_87, q22_87, e22_90, e22_91, e22_89, e22_92, e22_88, e22_86, e22_85, e22_93, e22_84, e22_78, e22_76, e22_74, e22_95, e22_96, e22_94, e22_73, e22_12, e22_10, e22_2, e22_0, n22_77, ht0, ht1, ht4, ht5, ht6, ht7, ht8, ht21, hx2, hx3, hx, hxe, hd, hlt, hlt2, hw, IH]
    all_goals first | done | grind | omega | (trace_state; fail)
set_option maxHeartbeats 4000000 in
theorem c22 (p : Pred) (v : Val)  (h_p : Pred.ok p) (st : St) : EvF gS 22 [p.enc, v.enc] st = some (.ret (.bool (ptakes p v)) none, st) := by
  refine EvF_start fi22_eq (fun x h => by cases h) m22 ?_
  rw [st22]
  have hm : fi22.marks = [] := rfl
  have hl : fi22.locals = [2, 3] := rfl
  have hr : fi22.results = [.tmp 4] := rfl
  simp (config := { contextual := true, maxSteps := 10000000, maxDischargeDepth := 6 }) [-Int.not_le, -Int.not_lt, -Nat.not_le, -Nat.not_lt, ty3, ty4, ty9, ty24, ty25, ty27, eq24, hm, hl, hr, k20, x20, fi20_eq, p20, k77, x77, fi77_eq, p77, k78, x78, fi78_eq, p78, k79, x79, fi79_eq, p79, e22_1, e22_4, e22_7, e22_8, e22_6, e22_9, e22_5, e22_3, e22_11, e22_14, e22_17, e22_20, e22_21, e22_19, e22_23, e22_26, e22_27, e22_25, e22_29, e22_32, e22_33, e22_31, e22_35, e22_38, e22_39, e22_37, e22_41, e22_44, e22_45, e22_43, e22_47, e22_50, e22_51, e22_49, e22_53, e22_56, e22_57, e22_55, e22_59, e22_62, e22_64, e22_65, e22_63, e22_61, e22_67, e22_70, e22_71, e22_69, e22_72, e22_68, e22_66, e22_60, e22_58, e22_54, e22_52, e22_48, e22_46, e22_42, e22_40, e22_36, e22_34, e22_30, e22_28, e22_24, e22_22, e22_18, e22_16, e22_15, e22_13, e22_75, e22_80, e22_82, e22_83, e22_81, e22_79, e22_87, q22_87, e22_90, e22_91, e22_89, e22_92, e22_88, e22_86, e22_85, e22_93, e22_84, e22_78, e22_76, e22_74, e22_95, e22_96, e22_94, e22_73, e22_12, e22_10, e22_2, e22_0, n22_77, (fun e0 e1 e4 e5 e6 e7 e8 e21 T X ht0 ht1 ht4 ht5 ht6 ht7 ht8 ht21 hx2 hx3 => L22_77 p v h_p st _ 0 0  e0 e1 e4 e5 e6 e7 e8 e21 T X ht0 ht1 ht4 ht5 ht6 ht7 ht8 ht21 hx2 hx3 rfl (Nat.zero_le _) rfl), h_p.1, h_p.2]
  all_goals try simp (config := { contextual := true }) [-Int.not_le, -Int.not_lt, -Nat.not_le, -Nat.not_lt, ptakes]
  all_goals first | done | grind | omega | (trace_state; fail)
theorem k22 (p_name : List UInt8) (p_test : Int) (p_vk : Int) (p_vn : Int) (p_vx : Nat) (p_vs : List UInt8) (p_vb : Bool) (p_wk : Int) (p_wn : Int) (p_wx : Nat) (p_ws : List UInt8) (p_wb : Bool) (p_set : List Val) (v_k : Int) (v_n : Int) (v_x : Nat) (v_s : List UInt8) (v_b : Bool)  (h_p : Pred.ok (⟨p_name, p_test, ⟨p_vk, p_vn, p_vx, p_vs, p_vb⟩, ⟨p_wk, p_wn, p_wx, p_ws, p_wb⟩, p_set⟩ : Pred)) (fr : Fr) (st : St) : callStep gS (EvF gS) 22 [.agg [.str p_name, .int .i64 p_test, .int .i64 p_vk, .int .i64 p_vn, .float .f64 p_vx, .str p_vs, .bool p_vb, .int .i64 p_wk, .int .i64 p_wn, .float .f64 p_wx, .str p_ws, .bool p_wb, .slice (encVals p_set)], .agg [.int .i64 v_k, .int .i64 v_n, .float .f64 v_x, .str v_s, .bool v_b]] fr st = some (.ok (retE none (.bool (ptakes (⟨p_name, p_test, ⟨p_vk, p_vn, p_vx, p_vs, p_vb⟩, ⟨p_wk, p_wn, p_wx, p_ws, p_wb⟩, p_set⟩ : Pred) (⟨v_k, v_n, v_x, v_s, v_b⟩ : Val)))) fr st) :=
  call_pure rfl fi22_eq rfl (fun st => c22 (⟨p_name, p_test, ⟨p_vk, p_vn, p_vx, p_vs, p_vb⟩, ⟨p_wk, p_wn, p_wx, p_ws, p_wb⟩, p_set⟩ : Pred) (⟨v_k, v_n, v_x, v_s, v_b⟩ : Val) h_p st) (by simp)
theorem x22 : gS.ext 22 = none := rfl
theorem p22 : fi22.pure = true := rfl
def fi23 : FI := { body := codeOf Try.f23, ntmps := 50, results := [.tmp 2], pers := [0, 1, 2, 3, 4, 6, 11, 12, 40, 41, 42], locals := [1, 6], pure := true, marks := [] }
theorem fi23_eq : gS.fn 23 = some fi23 := by kernel_rfl
theorem st23 (a0 : V) : startFr fi23 [a0] = { ps := [(0, .val a0), (1, .any), (2, .any), (3, .any), (4, .any), (6, .any), (11, .any), (12, .any), (40, .any), (41, .any), (42, .any)], ts := [], lc := [] } := rfl
def b23 : Code := mini (codeOf Try.f23)
def c23_1 : Code := codeN b23 2
theorem e23_1 : evK gS fi23 c23_1 fr st k = opsR gS fi23 [op1 1 (.box 27 (.tmp 0)) 0,
 op1 2 (.assign (.const (.bool false))) 4] fr st k := evK_r 0 (by kernel_rfl)
def c23_4 : Code := codeN b23 9
theorem e23_4 : evK gS fi23 c23_4 fr st k = opsR gS fi23 [op1 7 (.load 27 (.tmp 1)) 27,
 op1 8 (.call { callee := (.value (.func 19)), args := #[(.tmp 7)], argTypes := #[27] }) 4,
 op1 9 (.unOp .not 4 (.tmp 8)) 4] fr st k := evK_r 1 (by kernel_rfl)
def c23_7 : Code := codeN b23 37
theorem e23_7 : evK gS fi23 c23_7 fr st k = opsR gS fi23 [op1 2 (.assign (.const (.bool false))) 4] fr st k := evK_r 2 (by kernel_rfl)
def c23_8 : Code := .ret
theorem e23_8 : evK gS fi23 c23_8 fr st k = nextK gS fi23 k .ret fr st := rfl
def c23_6 : Code := .seq c23_7 c23_8
theorem e23_6 : evK gS fi23 c23_6 fr st k = evK gS fi23 c23_7 fr st (.seq c23_8 k) := rfl
def c23_9 : Code := .skip
theorem e23_9 : evK gS fi23 c23_9 fr st k = nextK gS fi23 k .normal fr st := rfl
def c23_5 : Code := .cond (.tmp 9) c23_6 c23_9
theorem e23_5 : evK gS fi23 c23_5 fr st k = condK gS fi23 (fr.op (.tmp 9)).bool? c23_6 c23_9 fr st k := rfl
def c23_3 : Code := .seq c23_4 c23_5
theorem e23_3 : evK gS fi23 c23_3 fr st k = evK gS fi23 c23_4 fr st (.seq c23_5 k) := rfl
def c23_12 : Code := codeN b23 19
theorem e23_12 : evK gS fi23 c23_12 fr st k = opsR gS fi23 [op1 10 (.fieldAddr 27 (.tmp 1) 1) 0,
 op1 11 (.load 3 (.tmp 10)) 3] fr st k := evK_r 3 (by kernel_rfl)
def c23_16 : Code := codeN b23 139
theorem e23_16 : evK gS fi23 c23_16 fr st k = opsR gS fi23 [op1 13 (.binOp .eql 3 (.tmp 11) (.const (.int .i64 2)) 3) 4,
 op1 12 (.assign (.tmp 13)) 4] fr st k := evK_r 4 (by kernel_rfl)
def c23_18 : Code := .skip
theorem e23_18 : evK gS fi23 c23_18 fr st k = nextK gS fi23 k .normal fr st := rfl
def c23_20 : Code := codeN b23 715
theorem e23_20 : evK gS fi23 c23_20 fr st k = opsR gS fi23 [op1 14 (.binOp .eql 3 (.tmp 11) (.const (.int .i64 4)) 3) 4,
 op1 12 (.assign (.tmp 14)) 4] fr st k := evK_r 5 (by kernel_rfl)
def c23_22 : Code := .skip
theorem e23_22 : evK gS fi23 c23_22 fr st k = nextK gS fi23 k .normal fr st := rfl
def c23_24 : Code := codeN b23 3019
theorem e23_24 : evK gS fi23 c23_24 fr st k = opsR gS fi23 [op1 15 (.binOp .eql 3 (.tmp 11) (.const (.int .i64 5)) 3) 4,
 op1 12 (.assign (.tmp 15)) 4] fr st k := evK_r 6 (by kernel_rfl)
def c23_26 : Code := .skip
theorem e23_26 : evK gS fi23 c23_26 fr st k = nextK gS fi23 k .normal fr st := rfl
def c23_28 : Code := codeN b23 12235
theorem e23_28 : evK gS fi23 c23_28 fr st k = opsR gS fi23 [op1 16 (.binOp .eql 3 (.tmp 11) (.const (.int .i64 6)) 3) 4,
 op1 12 (.assign (.tmp 16)) 4] fr st k := evK_r 7 (by kernel_rfl)
def c23_30 : Code := .skip
theorem e23_30 : evK gS fi23 c23_30 fr st k = nextK gS fi23 k .normal fr st := rfl
def c23_31 : Code := codeN b23 32715
theorem e23_31 : evK gS fi23 c23_31 fr st k = opsR gS fi23 [op1 17 (.binOp .eql 3 (.tmp 11) (.const (.int .i64 7)) 3) 4,
 op1 12 (.assign (.tmp 17)) 4] fr st k := evK_r 8 (by kernel_rfl)
def c23_29 : Code := .cond (.tmp 12) c23_30 c23_31
theorem e23_29 : evK gS fi23 c23_29 fr st k = condK gS fi23 (fr.op (.tmp 12)).bool? c23_30 c23_31 fr st k := rfl
def c23_27 : Code := .seq c23_28 c23_29
theorem e23_27 : evK gS fi23 c23_27 fr st k = evK gS fi23 c23_28 fr st (.seq c23_29 k) := rfl
def c23_25 : Code := .cond (.tmp 12) c23_26 c23_27
theorem e23_25 : evK gS fi23 c23_25 fr st k = condK gS fi23 (fr.op (.tmp 12)).bool? c23_26 c23_27 fr st k := rfl
def c23_23 : Code := .seq c23_24 c23_25
theorem e23_23 : evK gS fi23 c23_23 fr st k = evK gS fi23 c23_24 fr st (.seq c23_25 k) := rfl
def c23_21 : Code := .cond (.tmp 12) c23_22 c23_23
theorem e23_21 : evK gS fi23 c23_21 fr st k = condK gS fi23 (fr.op (.tmp 12)).bool? c23_22 c23_23 fr st k := rfl
def c23_19 : Code := .seq c23_20 c23_21
theorem e23_19 : evK gS fi23 c23_19 fr st k = evK gS fi23 c23_20 fr st (.seq c23_21 k) := rfl
def c23_17 : Code := .cond (.tmp 12) c23_18 c23_19
theorem e23_17 : evK gS fi23 c23_17 fr st k = condK gS fi23 (fr.op (.tmp 12)).bool? c23_18 c23_19 fr st k := rfl
def c23_15 : Code := .seq c23_16 c23_17
theorem e23_15 : evK gS fi23 c23_15 fr st k = evK gS fi23 c23_16 fr st (.seq c23_17 k) := rfl
def c23_34 : Code := codeN b23 299
theorem e23_34 : evK gS fi23 c23_34 fr st k = opsR gS fi23 [op1 18 (.fieldAddr 27 (.tmp 1) 2) 0,
 op1 19 (.load 24 (.tmp 18)) 24,
 op1 20 (.call { callee := (.value (.func 80)), args := #[(.tmp 19)], argTypes := #[24] }) 4,
 op1 2 (.assign (.tmp 20)) 4] fr st k := evK_r 9 (by kernel_rfl)
def c23_35 : Code := .ret
theorem e23_35 : evK gS fi23 c23_35 fr st k = nextK gS fi23 k .ret fr st := rfl
def c23_33 : Code := .seq c23_34 c23_35
theorem e23_33 : evK gS fi23 c23_33 fr st k = evK gS fi23 c23_34 fr st (.seq c23_35 k) := rfl
def c23_37 : Code := codeN b23 363
theorem e23_37 : evK gS fi23 c23_37 fr st k = opsR gS fi23 [op1 22 (.binOp .eql 3 (.tmp 11) (.const (.int .i64 8)) 3) 4,
 op1 21 (.assign (.tmp 22)) 4] fr st k := evK_r 10 (by kernel_rfl)
def c23_40 : Code := codeN b23 1259
theorem e23_40 : evK gS fi23 c23_40 fr st k = opsR gS fi23 [op1 24 (.fieldAddr 27 (.tmp 1) 2) 0,
 op1 25 (.load 24 (.tmp 24)) 24,
 op1 26 (.fieldAddr 27 (.tmp 1) 3) 0,
 op1 27 (.load 24 (.tmp 26)) 24,
 op1 28 (.call { callee := (.value (.func 75)), args := #[(.tmp 25), (.tmp 27)], argTypes := #[24, 24] }) 94,
 op1 23 (.move (.tmp 28)) 94,
 op1 29 (.extract (.tmp 23) 0) 3,
 op1 30 (.extract (.tmp 23) 1) 4,
 op1 3 (.assign (.tmp 29)) 3,
 op1 4 (.assign (.tmp 30)) 4] fr st k := evK_r 11 (by kernel_rfl)
def c23_42 : Code := codeN b23 2795
theorem e23_42 : evK gS fi23 c23_42 fr st k = opsR gS fi23 [op1 31 (.move (.tmp 4)) 4,
 op1 32 (.unOp .not 4 (.tmp 31)) 4,
 op1 33 (.move (.tmp 32)) 4,
 mk (some 34) (.move (.tmp 3)) 3 (some (2, false)),
 mk (some 35) (.binOp .gtr 3 (.tmp 34) (.const (.int .i64 0)) 3) 4 (some (2, false)),
 op1 36 (.pick (.tmp 33) (.const (.bool true)) (.tmp 35)) 4,
 op1 2 (.assign (.tmp 36)) 4] fr st k := evK_r 12 (by kernel_rfl)
def c23_43 : Code := .ret
theorem e23_43 : evK gS fi23 c23_43 fr st k = nextK gS fi23 k .ret fr st := rfl
def c23_41 : Code := .seq c23_42 c23_43
theorem e23_41 : evK gS fi23 c23_41 fr st k = evK gS fi23 c23_42 fr st (.seq c23_43 k) := rfl
def c23_39 : Code := .seq c23_40 c23_41
theorem e23_39 : evK gS fi23 c23_39 fr st k = evK gS fi23 c23_40 fr st (.seq c23_41 k) := rfl
def c23_45 : Code := codeN b23 1515
theorem e23_45 : evK gS fi23 c23_45 fr st k = opsR gS fi23 [op1 38 (.binOp .eql 3 (.tmp 11) (.const (.int .i64 10)) 3) 4,
 op1 37 (.assign (.tmp 38)) 4] fr st k := evK_r 13 (by kernel_rfl)
def c23_49 : Code := codeN b23 9195
theorem e23_49 : evK gS fi23 c23_49 fr st k = opsR gS fi23 [op1 39 (.fieldAddr 27 (.tmp 1) 4) 0,
 op1 40 (.load 25 (.tmp 39)) 25,
 op1 41 (.call { callee := (.builtin .len), args := #[(.tmp 40)], argTypes := #[25] }) 3,
 op1 42 (.move (.const (.int .i64 0))) 3] fr st k := evK_r 14 (by kernel_rfl)
def c23_53 : Code := codeN b23 70635
theorem e23_53 : evK gS fi23 c23_53 fr st k = opsR gS fi23 [op1 43 (.binOp .lss 3 (.tmp 42) (.tmp 41) 3) 0] fr st k := evK_r 15 (by kernel_rfl)
def c23_56 : Code := .skip
theorem e23_56 : evK gS fi23 c23_56 fr st k = nextK gS fi23 k .normal fr st := rfl
def c23_57 : Code := .exit 1
theorem e23_57 : evK gS fi23 c23_57 fr st k = nextK gS fi23 k (.exit 1) fr st := rfl
def c23_55 : Code := .cond (.tmp 43) c23_56 c23_57
theorem e23_55 : evK gS fi23 c23_55 fr st k = condK gS fi23 (fr.op (.tmp 43)).bool? c23_56 c23_57 fr st k := rfl
def c23_61 : Code := codeN b23 1151979
theorem e23_61 : evK gS fi23 c23_61 fr st k = opsR gS fi23 [op1 44 (.indexAddr 25 (.tmp 40) (.tmp 42)) 0,
 op1 45 (.load 24 (.tmp 44)) 24,
 op1 6 (.alloc 24) 0,
 mk none (.store 24 (.tmp 6) (.tmp 45)) 0 none] fr st k := evK_r 16 (by kernel_rfl)
def c23_63 : Code := codeN b23 2724843
theorem e23_63 : evK gS fi23 c23_63 fr st k = opsR gS fi23 [op1 46 (.load 24 (.tmp 6)) 24,
 op1 47 (.call { callee := (.value (.func 80)), args := #[(.tmp 46)], argTypes := #[24] }) 4,
 op1 48 (.unOp .not 4 (.tmp 47)) 4] fr st k := evK_r 17 (by kernel_rfl)
def c23_66 : Code := codeN b23 10064875
theorem e23_66 : evK gS fi23 c23_66 fr st k = opsR gS fi23 [op1 2 (.assign (.const (.bool false))) 4] fr st k := evK_r 18 (by kernel_rfl)
def c23_67 : Code := .ret
theorem e23_67 : evK gS fi23 c23_67 fr st k = nextK gS fi23 k .ret fr st := rfl
def c23_65 : Code := .seq c23_66 c23_67
theorem e23_65 : evK gS fi23 c23_65 fr st k = evK gS fi23 c23_66 fr st (.seq c23_67 k) := rfl
def c23_68 : Code := .skip
theorem e23_68 : evK gS fi23 c23_68 fr st k = nextK gS fi23 k .normal fr st := rfl
def c23_64 : Code := .cond (.tmp 48) c23_65 c23_68
theorem e23_64 : evK gS fi23 c23_64 fr st k = condK gS fi23 (fr.op (.tmp 48)).bool? c23_65 c23_68 fr st k := rfl
def c23_62 : Code := .seq c23_63 c23_64
theorem e23_62 : evK gS fi23 c23_62 fr st k = evK gS fi23 c23_63 fr st (.seq c23_64 k) := rfl
def c23_60 : Code := .seq c23_61 c23_62
theorem e23_60 : evK gS fi23 c23_60 fr st k = evK gS fi23 c23_61 fr st (.seq c23_62 k) := rfl
def c23_59 : Code := .block 2 c23_60
theorem e23_59 : evK gS fi23 c23_59 fr st k = evK gS fi23 c23_60 fr st (.blk 2 k) := rfl
def c23_69 : Code := codeN b23 496619
theorem e23_69 : evK gS fi23 c23_69 fr st k = opsR gS fi23 [op1 49 (.binOp .add 3 (.tmp 42) (.const (.int .i64 1)) 3) 3,
 op1 42 (.move (.tmp 49)) 3] fr st k := evK_r 19 (by kernel_rfl)
def c23_58 : Code := .seq c23_59 c23_69
theorem e23_58 : evK gS fi23 c23_58 fr st k = evK gS fi23 c23_59 fr st (.seq c23_69 k) := rfl
def c23_54 : Code := .seq c23_55 c23_58
theorem e23_54 : evK gS fi23 c23_54 fr st k = evK gS fi23 c23_55 fr st (.seq c23_58 k) := rfl
def c23_52 : Code := .seq c23_53 c23_54
theorem e23_52 : evK gS fi23 c23_52 fr st k = evK gS fi23 c23_53 fr st (.seq c23_54 k) := rfl
def c23_51 : Code := .loop c23_52
def c23_50 : Code := .block 1 c23_51
theorem e23_50 : evK gS fi23 c23_50 fr st k = evK gS fi23 c23_51 fr st (.blk 1 k) := rfl
def c23_48 : Code := .seq c23_49 c23_50
theorem e23_48 : evK gS fi23 c23_48 fr st k = evK gS fi23 c23_49 fr st (.seq c23_50 k) := rfl
def c23_71 : Code := codeN b23 11243
theorem e23_71 : evK gS fi23 c23_71 fr st k = opsR gS fi23 [op1 2 (.assign (.const (.bool true))) 4] fr st k := evK_r 20 (by kernel_rfl)
def c23_72 : Code := .ret
theorem e23_72 : evK gS fi23 c23_72 fr st k = nextK gS fi23 k .ret fr st := rfl
def c23_70 : Code := .seq c23_71 c23_72
theorem e23_70 : evK gS fi23 c23_70 fr st k = evK gS fi23 c23_71 fr st (.seq c23_72 k) := rfl
def c23_47 : Code := .seq c23_48 c23_70
theorem e23_47 : evK gS fi23 c23_47 fr st k = evK gS fi23 c23_48 fr st (.seq c23_70 k) := rfl
def c23_73 : Code := .skip
theorem e23_73 : evK gS fi23 c23_73 fr st k = nextK gS fi23 k .normal fr st := rfl
def c23_46 : Code := .cond (.tmp 37) c23_47 c23_73
theorem e23_46 : evK gS fi23 c23_46 fr st k = condK gS fi23 (fr.op (.tmp 37)).bool? c23_47 c23_73 fr st k := rfl
def c23_44 : Code := .seq c23_45 c23_46
theorem e23_44 : evK gS fi23 c23_44 fr st k = evK gS fi23 c23_45 fr st (.seq c23_46 k) := rfl
def c23_38 : Code := .cond (.tmp 21) c23_39 c23_44
theorem e23_38 : evK gS fi23 c23_38 fr st k = condK gS fi23 (fr.op (.tmp 21)).bool? c23_39 c23_44 fr st k := rfl
def c23_36 : Code := .seq c23_37 c23_38
theorem e23_36 : evK gS fi23 c23_36 fr st k = evK gS fi23 c23_37 fr st (.seq c23_38 k) := rfl
def c23_32 : Code := .cond (.tmp 12) c23_33 c23_36
theorem e23_32 : evK gS fi23 c23_32 fr st k = condK gS fi23 (fr.op (.tmp 12)).bool? c23_33 c23_36 fr st k := rfl
def c23_14 : Code := .seq c23_15 c23_32
theorem e23_14 : evK gS fi23 c23_14 fr st k = evK gS fi23 c23_15 fr st (.seq c23_32 k) := rfl
def c23_13 : Code := .block 0 c23_14
theorem e23_13 : evK gS fi23 c23_13 fr st k = evK gS fi23 c23_14 fr st (.blk 0 k) := rfl
def c23_11 : Code := .seq c23_12 c23_13
theorem e23_11 : evK gS fi23 c23_11 fr st k = evK gS fi23 c23_12 fr st (.seq c23_13 k) := rfl
def c23_75 : Code := codeN b23 23
theorem e23_75 : evK gS fi23 c23_75 fr st k = opsR gS fi23 [op1 2 (.assign (.const (.bool false))) 4] fr st k := evK_r 21 (by kernel_rfl)
def c23_76 : Code := .ret
theorem e23_76 : evK gS fi23 c23_76 fr st k = nextK gS fi23 k .ret fr st := rfl
def c23_74 : Code := .seq c23_75 c23_76
theorem e23_74 : evK gS fi23 c23_74 fr st k = evK gS fi23 c23_75 fr st (.seq c23_76 k) := rfl
def c23_10 : Code := .seq c23_11 c23_74
theorem e23_10 : evK gS fi23 c23_10 fr st k = evK gS fi23 c23_11 fr st (.seq c23_74 k) := rfl
def c23_2 : Code := .seq c23_3 c23_10
theorem e23_2 : evK gS fi23 c23_2 fr st k = evK gS fi23 c23_3 fr st (.seq c23_10 k) := rfl
def c23_0 : Code := .seq c23_1 c23_2
theorem e23_0 : evK gS fi23 c23_0 fr st k = evK gS fi23 c23_1 fr st (.seq c23_2 k) := rfl
theorem m23 : mini fi23.body = c23_0 := by kernel_rfl
theorem n23_51 (fr : Fr) (st : St) (k : Kt) : nextK gS fi23 (.loop c23_52 k) .normal fr st = evK gS fi23 c23_51 fr st k := rfl
set_option maxHeartbeats 4000000 in
theorem L23_51 (p : Pred) (h_p : p.ok) (st : St) : ∀ (n i : Nat) (j : Int)  (e0 e1 e2 e3 e4 e6 e11 e12 : E) (T : List (Nat × E)) (X : List (Nat × List V)) (ht0 : e0.Tame) (ht1 : e1.Tame) (ht2 : e2.Tame) (ht3 : e3.Tame) (ht4 : e4.Tame) (ht6 : e6.Tame) (ht11 : e11.Tame) (ht12 : e12.Tame) , j = (i : Int) → i ≤ (p.set).length → (p.set).length - i = n →
    evK gS fi23 c23_51 { ps := [(0, e0), (1, e1), (2, e2), (3, e3), (4, e4), (6, e6), (11, e11), (12, e12), (40, .val (.slice (encVals p.set))), (41, .val (.int .i64 p.set.length)), (42, .val (.int .i64 j))], ts := T, lc := X } st (.blk 1 (.seq c23_70 (.blk 0 (.seq c23_74 .nil)))) = some ((.ret (.bool ((p.set.drop i).all vnan)) none), st) := by
  intro n
  have hm : fi23.marks = [] := rfl
  have hl : fi23.locals = [1, 6] := rfl
  have hr : fi23.results = [.tmp 2] := rfl
  have hpo := h_p.2
  induction n with
  | zero =>
    intro i j  e0 e1 e2 e3 e4 e6 e11 e12 T X ht0 ht1 ht2 ht3 ht4 ht6 ht11 ht12  hj hi hn
    obtain rfl : i = (p.set).length := by omega
    subst hj
    refine evK_loop c23_52 _ st _ _ rfl ?_
    simp (config := { contextual := true, maxSteps := 10000000, maxDischargeDepth := 6 }) [-Int.not_le, -Int.not_lt, -Nat.not_le, -Nat.not_lt, ty3, ty4, ty24, ty25, ty27, eq24, hm, hl, hr, k19, k75, k80, e23_1, e23_4, e23_7, e23_8, e23_6, e23_9, e23_5, e23_3, e23_12, e23_16, e23_18, e23_20, e23_22, e23_24, e23_26, e23_28, e23_30, e23_31, e23_29, e23_27, e23_25, e23_23, e23_21, e23_19, e23_17, e23_15, e23_34, e23_35, e23_33, e23_37, e23_40, e23_42, e23_43, e23_41, e23_39, e23_45, e23_49, e23_53, e23_56, e23_57, e23_55, e23_61, e23_63, e23_66, e23_67, e23_65, e23_68, e23_64, e23_62, e23_60, e23_59, e23_69, e23_58, e23_54, e23_52, e23_50, e23_48, e23_71, e23_72, e23_70, e23_47, e23_73, e23_46, e23_44, e23_38, e23_36, e23_32, e23_14, e23_13, e23_11, e23_75, e23_76, e23_74, e23_10, e23_2, e23_0, n23_51, ht0, ht1, ht2, ht3, ht4, ht6, ht11, ht12]
    all_goals first | done | grind | omega | (trace_state; fail)
  | succ n ih =>
    intro i j  e0 e1 e2 e3 e4 e6 e11 e12 T X ht0 ht1 ht2 ht3 ht4 ht6 ht11 ht12  hj hi hn
    subst hj
    obtain ⟨x, hx⟩ : ∃ x, (p.set)[i]? = some x := ⟨(p.set)[i]'(by omega), List.getElem?_eq_getElem (by omega)⟩
    have hd := drop_get hx
    have hlt : (i : Int) < ((p.set).length : Int) := by omega
    have hlt2 : i < (p.set).length := by omega
    have hxe : (p.set)[i]'hlt2 = x := by rw [List.getElem?_eq_getElem hlt2] at hx; exact Option.some.inj hx
    have hw : IntKind.wrap .i64 ((i : Int) + 1) = (i : Int) + 1 := wrap64 (by omega) (by omega)
    have IH := fun e0 e1 e2 e3 e4 e6 e11 e12 T X ht0 ht1 ht2 ht3 ht4 ht6 ht11 ht12 => ih (i + 1) ((i : Int) + 1) e0 e1 e2 e3 e4 e6 e11 e12 T X ht0 ht1 ht2 ht3 ht4 ht6 ht11 ht12 rfl (by omega) (by omega)
    refine evK_loop c23_52 _ st _ _ rfl ?_
    simp (config := { contextual := true, maxSteps := 10000000, maxDischargeDepth := 6 }) [-Int.not_le, -Int.not_lt, -Nat.not_le, -Nat.not_lt, ty3, ty4, ty24, ty25, ty27, eq24, hm, hl, hr, k19, k75, k80, e23_1, e23_4, e23_7, e23_8, e23_6, e23_9, e23_5, e23_3, e23_12, e23_16, e23_18, e23_20, e23_22, e23_24, e23_26, e23_28, e23_30, e23_31, e23_29, e23_27, e23_25, e23_23, e23_21, e23_19, e23_17, e23_15, e23_34, e23_35, e23_33, e23_37, e23_40, e23_42, e23_43, e23_41, e23_39, e23_45, e23_49, e23_53, e23_56, e23_57, e23_55, e23_61, e23_63, e23_66, e23_67, e23_65, e23_68, e23_64, e23_62, e23_60, e23_59, e23_69, e23_58, e23_54, e23_52, e23_50, e23_48, e23_71, e23_72, e23_70, e23_47, e23_73, e23_46, e23_44, e23_38, e23_36, e23_32, e23_14, e23_13, e23_11, e23_75, e23_76, e23_74, e23_10, e23_2, e23_0, n23_51, ht0, ht1, ht2, ht3, ht4, ht6, ht11, ht12, hx, hxe, hd, hlt, hlt2, hw, IH]
    all_goals first | done | grind | omega | (trace_state; fail)
set_option maxHeartbeats 4000000 in
theorem c23 (p : Pred)  (h_p : Pred.ok p) (st : St) : EvF gS 23 [p.enc] st = some (.ret (.bool (pvoid p)) none, st) := by
  refine EvF_start fi23_eq (fun x h => by cases h) m23 ?_
  rw [st23]
  have hm : fi23.marks = [] := rfl
  have hl : fi23.locals = [1, 6] := rfl
  have hr : fi23.results = [.tmp 2] := rfl
  simp (config := { contextual := true, maxSteps := 10000000, maxDischargeDepth := 6 }) [-Int.not_le, -Int.not_lt, -Nat.not_le, -Nat.not_lt, ty3, ty4, ty24, ty25, ty27, eq24, hm, hl, hr, k19, k75, k80, e23_1, e23_4, e23_7, e23_8, e23_6, e23_9, e23_5, e23_3, e23_12, e23_16, e23_18, e23_20, e23_22, e23_24, e23_26, e23_28, e23_30, e23_31, e23_29, e23_27, e23_25, e23_23, e23_21, e23_19, e23_17, e23_15, e23_34, e23_35, e23_33, e23_37, e23_40, e23_42, e23_43, e23_41, e23_39, e23_45, e23_49, e23_53, e23_56, e23_57, e23_55, e23_61, e23_63, e23_66, e23_67, e23_65, e23_68, e23_64, e23_62, e23_60, e23_59, e23_69, e23_58, e23_54, e23_52, e23_50, e23_48, e23_71, e23_72, e23_70, e23_47, e23_73, e23_46, e23_44, e23_38, e23_36, e23_32, e23_14, e23_13, e23_11, e23_75, e23_76, e23_74, e23_10, e23_2, e23_0, n23_51, (fun e0 e1 e2 e3 e4 e6 e11 e12 T X ht0 ht1 ht2 ht3 ht4 ht6 ht11 ht12 => L23_51 p h_p st _ 0 0  e0 e1 e2 e3 e4 e6 e11 e12 T X ht0 ht1 ht2 ht3 ht4 ht6 ht11 ht12 rfl (Nat.zero_le _) rfl), h_p.1, h_p.2]
  all_goals try simp (config := { contextual := true }) [-Int.not_le, -Int.not_lt, -Nat.not_le, -Nat.not_lt, pvoid]
  all_goals first | done | grind | omega | (trace_state; fail)
theorem k23 (p_name : List UInt8) (p_test : Int) (p_vk : Int) (p_vn : Int) (p_vx : Nat) (p_vs : List UInt8) (p_vb : Bool) (p_wk : Int) (p_wn : Int) (p_wx : Nat) (p_ws : List UInt8) (p_wb : Bool) (p_set : List Val)  (h_p : Pred.ok (⟨p_name, p_test, ⟨p_vk, p_vn, p_vx, p_vs, p_vb⟩, ⟨p_wk, p_wn, p_wx, p_ws, p_wb⟩, p_set⟩ : Pred)) (fr : Fr) (st : St) : callStep gS (EvF gS) 23 [.agg [.str p_name, .int .i64 p_test, .int .i64 p_vk, .int .i64 p_vn, .float .f64 p_vx, .str p_vs, .bool p_vb, .int .i64 p_wk, .int .i64 p_wn, .float .f64 p_wx, .str p_ws, .bool p_wb, .slice (encVals p_set)]] fr st = some (.ok (retE none (.bool (pvoid (⟨p_name, p_test, ⟨p_vk, p_vn, p_vx, p_vs, p_vb⟩, ⟨p_wk, p_wn, p_wx, p_ws, p_wb⟩, p_set⟩ : Pred)))) fr st) :=
  call_pure rfl fi23_eq rfl (fun st => c23 (⟨p_name, p_test, ⟨p_vk, p_vn, p_vx, p_vs, p_vb⟩, ⟨p_wk, p_wn, p_wx, p_ws, p_wb⟩, p_set⟩ : Pred) h_p st) (by simp)
theorem x23 : gS.ext 23 = none := rfl
theorem p23 : fi23.pure = true := rfl
def fi24 : FI := { body := codeOf Try.f24, ntmps := 59, results := [.tmp 2], pers := [0, 1, 2, 3, 4, 5, 10, 11], locals := [1], pure := true, marks := [] }
theorem fi24_eq : gS.fn 24 = some fi24 := by kernel_rfl
theorem st24 (a0 : V) : startFr fi24 [a0] = { ps := [(0, .val a0), (1, .any), (2, .any), (3, .any), (4, .any), (5, .any), (10, .any), (11, .any)], ts := [], lc := [] } := rfl
def b24 : Code := mini (codeOf Try.f24)
def c24_1 : Code := codeN b24 2
theorem e24_1 : evK gS fi24 c24_1 fr st k = opsR gS fi24 [op1 1 (.box 27 (.tmp 0)) 0,
 op1 2 (.assign (.const (.bool false))) 4] fr st k := evK_r 0 (by kernel_rfl)
def c24_4 : Code := codeN b24 9
theorem e24_4 : evK gS fi24 c24_4 fr st k = opsR gS fi24 [op1 6 (.load 27 (.tmp 1)) 27,
 op1 7 (.call { callee := (.value (.func 20)), args := #[(.tmp 6)], argTypes := #[27] }) 4,
 op1 8 (.unOp .not 4 (.tmp 7)) 4] fr st k := evK_r 1 (by kernel_rfl)
def c24_7 : Code := codeN b24 37
theorem e24_7 : evK gS fi24 c24_7 fr st k = opsR gS fi24 [op1 2 (.assign (.const (.bool false))) 4] fr st k := evK_r 2 (by kernel_rfl)
def c24_8 : Code := .ret
theorem e24_8 : evK gS fi24 c24_8 fr st k = nextK gS fi24 k .ret fr st := rfl
def c24_6 : Code := .seq c24_7 c24_8
theorem e24_6 : evK gS fi24 c24_6 fr st k = evK gS fi24 c24_7 fr st (.seq c24_8 k) := rfl
def c24_9 : Code := .skip
theorem e24_9 : evK gS fi24 c24_9 fr st k = nextK gS fi24 k .normal fr st := rfl
def c24_5 : Code := .cond (.tmp 8) c24_6 c24_9
theorem e24_5 : evK gS fi24 c24_5 fr st k = condK gS fi24 (fr.op (.tmp 8)).bool? c24_6 c24_9 fr st k := rfl
def c24_3 : Code := .seq c24_4 c24_5
theorem e24_3 : evK gS fi24 c24_3 fr st k = evK gS fi24 c24_4 fr st (.seq c24_5 k) := rfl
def c24_12 : Code := codeN b24 19
theorem e24_12 : evK gS fi24 c24_12 fr st k = opsR gS fi24 [op1 9 (.fieldAddr 27 (.tmp 1) 1) 0,
 op1 10 (.load 3 (.tmp 9)) 3] fr st k := evK_r 3 (by kernel_rfl)
def c24_16 : Code := codeN b24 139
theorem e24_16 : evK gS fi24 c24_16 fr st k = opsR gS fi24 [op1 12 (.binOp .eql 3 (.tmp 10) (.const (.int .i64 2)) 3) 4,
 op1 11 (.assign (.tmp 12)) 4] fr st k := evK_r 4 (by kernel_rfl)
def c24_18 : Code := .skip
theorem e24_18 : evK gS fi24 c24_18 fr st k = nextK gS fi24 k .normal fr st := rfl
def c24_20 : Code := codeN b24 715
theorem e24_20 : evK gS fi24 c24_20 fr st k = opsR gS fi24 [op1 13 (.binOp .eql 3 (.tmp 10) (.const (.int .i64 4)) 3) 4,
 op1 11 (.assign (.tmp 13)) 4] fr st k := evK_r 5 (by kernel_rfl)
def c24_22 : Code := .skip
theorem e24_22 : evK gS fi24 c24_22 fr st k = nextK gS fi24 k .normal fr st := rfl
def c24_24 : Code := codeN b24 3019
theorem e24_24 : evK gS fi24 c24_24 fr st k = opsR gS fi24 [op1 14 (.binOp .eql 3 (.tmp 10) (.const (.int .i64 5)) 3) 4,
 op1 11 (.assign (.tmp 14)) 4] fr st k := evK_r 6 (by kernel_rfl)
def c24_26 : Code := .skip
theorem e24_26 : evK gS fi24 c24_26 fr st k = nextK gS fi24 k .normal fr st := rfl
def c24_28 : Code := codeN b24 12235
theorem e24_28 : evK gS fi24 c24_28 fr st k = opsR gS fi24 [op1 15 (.binOp .eql 3 (.tmp 10) (.const (.int .i64 6)) 3) 4,
 op1 11 (.assign (.tmp 15)) 4] fr st k := evK_r 7 (by kernel_rfl)
def c24_30 : Code := .skip
theorem e24_30 : evK gS fi24 c24_30 fr st k = nextK gS fi24 k .normal fr st := rfl
def c24_31 : Code := codeN b24 32715
theorem e24_31 : evK gS fi24 c24_31 fr st k = opsR gS fi24 [op1 16 (.binOp .eql 3 (.tmp 10) (.const (.int .i64 7)) 3) 4,
 op1 11 (.assign (.tmp 16)) 4] fr st k := evK_r 8 (by kernel_rfl)
def c24_29 : Code := .cond (.tmp 11) c24_30 c24_31
theorem e24_29 : evK gS fi24 c24_29 fr st k = condK gS fi24 (fr.op (.tmp 11)).bool? c24_30 c24_31 fr st k := rfl
def c24_27 : Code := .seq c24_28 c24_29
theorem e24_27 : evK gS fi24 c24_27 fr st k = evK gS fi24 c24_28 fr st (.seq c24_29 k) := rfl
def c24_25 : Code := .cond (.tmp 11) c24_26 c24_27
theorem e24_25 : evK gS fi24 c24_25 fr st k = condK gS fi24 (fr.op (.tmp 11)).bool? c24_26 c24_27 fr st k := rfl
def c24_23 : Code := .seq c24_24 c24_25
theorem e24_23 : evK gS fi24 c24_23 fr st k = evK gS fi24 c24_24 fr st (.seq c24_25 k) := rfl
def c24_21 : Code := .cond (.tmp 11) c24_22 c24_23
theorem e24_21 : evK gS fi24 c24_21 fr st k = condK gS fi24 (fr.op (.tmp 11)).bool? c24_22 c24_23 fr st k := rfl
def c24_19 : Code := .seq c24_20 c24_21
theorem e24_19 : evK gS fi24 c24_19 fr st k = evK gS fi24 c24_20 fr st (.seq c24_21 k) := rfl
def c24_17 : Code := .cond (.tmp 11) c24_18 c24_19
theorem e24_17 : evK gS fi24 c24_17 fr st k = condK gS fi24 (fr.op (.tmp 11)).bool? c24_18 c24_19 fr st k := rfl
def c24_15 : Code := .seq c24_16 c24_17
theorem e24_15 : evK gS fi24 c24_15 fr st k = evK gS fi24 c24_16 fr st (.seq c24_17 k) := rfl
def c24_34 : Code := codeN b24 299
theorem e24_34 : evK gS fi24 c24_34 fr st k = opsR gS fi24 [op1 17 (.fieldAddr 27 (.tmp 1) 2) 0,
 op1 18 (.load 24 (.tmp 17)) 24,
 op1 19 (.fieldAddr 27 (.tmp 1) 2) 0,
 op1 20 (.load 24 (.tmp 19)) 24,
 op1 21 (.call { callee := (.value (.func 79)), args := #[(.tmp 18), (.tmp 20)], argTypes := #[24, 24] }) 4,
 op1 22 (.unOp .not 4 (.tmp 21)) 4,
 op1 2 (.assign (.tmp 22)) 4] fr st k := evK_r 9 (by kernel_rfl)
def c24_35 : Code := .ret
theorem e24_35 : evK gS fi24 c24_35 fr st k = nextK gS fi24 k .ret fr st := rfl
def c24_33 : Code := .seq c24_34 c24_35
theorem e24_33 : evK gS fi24 c24_33 fr st k = evK gS fi24 c24_34 fr st (.seq c24_35 k) := rfl
def c24_37 : Code := codeN b24 363
theorem e24_37 : evK gS fi24 c24_37 fr st k = opsR gS fi24 [op1 24 (.binOp .eql 3 (.tmp 10) (.const (.int .i64 8)) 3) 4,
 op1 23 (.assign (.tmp 24)) 4] fr st k := evK_r 10 (by kernel_rfl)
def c24_40 : Code := codeN b24 1259
theorem e24_40 : evK gS fi24 c24_40 fr st k = opsR gS fi24 [op1 26 (.fieldAddr 27 (.tmp 1) 2) 0,
 op1 27 (.load 24 (.tmp 26)) 24,
 op1 28 (.fieldAddr 27 (.tmp 1) 3) 0,
 op1 29 (.load 24 (.tmp 28)) 24,
 op1 30 (.call { callee := (.value (.func 77)), args := #[(.tmp 27), (.tmp 29)], argTypes := #[24, 24] }) 94,
 op1 25 (.move (.tmp 30)) 94,
 op1 31 (.extract (.tmp 25) 0) 3,
 op1 32 (.extract (.tmp 25) 1) 4,
 op1 3 (.assign (.tmp 31)) 3,
 op1 4 (.assign (.tmp 32)) 4] fr st k := evK_r 11 (by kernel_rfl)
def c24_42 : Code := codeN b24 2795
theorem e24_42 : evK gS fi24 c24_42 fr st k = opsR gS fi24 [op1 33 (.move (.tmp 4)) 4,
 op1 34 (.unOp .not 4 (.tmp 33)) 4,
 op1 35 (.move (.tmp 34)) 4,
 mk (some 36) (.move (.tmp 3)) 3 (some (2, false)),
 mk (some 37) (.binOp .gtr 3 (.tmp 36) (.const (.int .i64 0)) 3) 4 (some (2, false)),
 op1 38 (.pick (.tmp 35) (.const (.bool true)) (.tmp 37)) 4,
 op1 2 (.assign (.tmp 38)) 4] fr st k := evK_r 12 (by kernel_rfl)
def c24_43 : Code := .ret
theorem e24_43 : evK gS fi24 c24_43 fr st k = nextK gS fi24 k .ret fr st := rfl
def c24_41 : Code := .seq c24_42 c24_43
theorem e24_41 : evK gS fi24 c24_41 fr st k = evK gS fi24 c24_42 fr st (.seq c24_43 k) := rfl
def c24_39 : Code := .seq c24_40 c24_41
theorem e24_39 : evK gS fi24 c24_39 fr st k = evK gS fi24 c24_40 fr st (.seq c24_41 k) := rfl
def c24_45 : Code := codeN b24 1515
theorem e24_45 : evK gS fi24 c24_45 fr st k = opsR gS fi24 [op1 40 (.binOp .eql 3 (.tmp 10) (.const (.int .i64 10)) 3) 4,
 op1 39 (.assign (.tmp 40)) 4] fr st k := evK_r 13 (by kernel_rfl)
def c24_49 : Code := codeN b24 9195
theorem e24_49 : evK gS fi24 c24_49 fr st k = opsR gS fi24 [op1 5 (.assign (.const (.int .i64 0))) 3] fr st k := evK_r 14 (by kernel_rfl)
def c24_54 : Code := codeN b24 136171
theorem e24_54 : evK gS fi24 c24_54 fr st k = opsR gS fi24 [op1 41 (.move (.tmp 5)) 3,
 op1 42 (.fieldAddr 27 (.tmp 1) 4) 0,
 op1 43 (.load 25 (.tmp 42)) 25,
 op1 44 (.call { callee := (.builtin .len), args := #[(.tmp 43)], argTypes := #[25] }) 3,
 op1 45 (.binOp .lss 3 (.tmp 41) (.tmp 44) 3) 4] fr st k := evK_r 15 (by kernel_rfl)
def c24_56 : Code := .skip
theorem e24_56 : evK gS fi24 c24_56 fr st k = nextK gS fi24 k .normal fr st := rfl
def c24_57 : Code := .exit 1
theorem e24_57 : evK gS fi24 c24_57 fr st k = nextK gS fi24 k (.exit 1) fr st := rfl
def c24_55 : Code := .cond (.tmp 45) c24_56 c24_57
theorem e24_55 : evK gS fi24 c24_55 fr st k = condK gS fi24 (fr.op (.tmp 45)).bool? c24_56 c24_57 fr st k := rfl
def c24_53 : Code := .seq c24_54 c24_55
theorem e24_53 : evK gS fi24 c24_53 fr st k = evK gS fi24 c24_54 fr st (.seq c24_55 k) := rfl
def r24_61 : Array Oper := regOps (codeN (codeOf Try.f24) 562155)
def c24_61 : Code := .region 17 r24_61 true
def q24_61 : List (Oper × Fl) := [(op1 48 (.fieldAddr 27 (.tmp 1) 4) 0, ⟨true, false, true, false, false, false, true, true, false, false, []⟩),
 (op1 49 (.load 25 (.tmp 48)) 25, ⟨true, false, true, false, false, false, true, true, false, false, []⟩),
 (op1 50 (.move (.tmp 5)) 3, ⟨true, false, true, false, false, false, true, true, false, false, []⟩),
 (op1 51 (.indexAddr 25 (.tmp 49) (.tmp 50)) 0, ⟨true, false, true, false, false, false, true, true, false, false, []⟩),
 (op1 52 (.load 24 (.tmp 51)) 24, ⟨true, false, true, false, false, false, true, true, false, false, []⟩),
 (op1 53 (.fieldAddr 27 (.tmp 1) 4) 0, ⟨true, false, true, false, false, false, true, true, false, false, []⟩),
 (op1 54 (.load 25 (.tmp 53)) 25, ⟨true, false, true, false, false, false, true, true, false, false, []⟩),
 (op1 55 (.move (.tmp 5)) 3, ⟨true, false, true, false, true, false, true, true, false, false, []⟩),
 (op1 56 (.indexAddr 25 (.tmp 54) (.tmp 55)) 0, ⟨true, false, true, false, true, false, true, true, false, false, []⟩),
 (op1 57 (.load 24 (.tmp 56)) 24, ⟨true, false, true, false, true, false, true, true, false, false, []⟩),
 (op1 58 (.call { callee := (.value (.func 79)), args := #[(.tmp 52), (.tmp 57)], argTypes := #[24, 24] }) 4, ⟨true, true, true, false, true, true, true, true, false, false, []⟩)]
theorem e24_61 : evK gS fi24 c24_61 fr st k = drwR gS fi24 r24_61 q24_61 fr st k := evK_dr 17 rfl (by kernel_rfl) (by kernel_rfl)
def c24_64 : Code := codeN b24 2397163
theorem e24_64 : evK gS fi24 c24_64 fr st k = opsR gS fi24 [op1 2 (.assign (.const (.bool false))) 4] fr st k := evK_r 18 (by kernel_rfl)
def c24_65 : Code := .ret
theorem e24_65 : evK gS fi24 c24_65 fr st k = nextK gS fi24 k .ret fr st := rfl
def c24_63 : Code := .seq c24_64 c24_65
theorem e24_63 : evK gS fi24 c24_63 fr st k = evK gS fi24 c24_64 fr st (.seq c24_65 k) := rfl
def c24_66 : Code := .skip
theorem e24_66 : evK gS fi24 c24_66 fr st k = nextK gS fi24 k .normal fr st := rfl
def c24_62 : Code := .cond (.tmp 58) c24_63 c24_66
theorem e24_62 : evK gS fi24 c24_62 fr st k = condK gS fi24 (fr.op (.tmp 58)).bool? c24_63 c24_66 fr st k := rfl
def c24_60 : Code := .seq c24_61 c24_62
theorem e24_60 : evK gS fi24 c24_60 fr st k = evK gS fi24 c24_61 fr st (.seq c24_62 k) := rfl
def c24_59 : Code := .block 2 c24_60
theorem e24_59 : evK gS fi24 c24_59 fr st k = evK gS fi24 c24_60 fr st (.blk 2 k) := rfl
def c24_67 : Code := codeN b24 234475
theorem e24_67 : evK gS fi24 c24_67 fr st k = opsR gS fi24 [op1 46 (.move (.tmp 5)) 3,
 op1 47 (.binOp .add 3 (.tmp 46) (.const (.int .i64 1)) 3) 3,
 op1 5 (.assign (.tmp 47)) 3] fr st k := evK_r 16 (by kernel_rfl)
def c24_58 : Code := .seq c24_59 c24_67
theorem e24_58 : evK gS fi24 c24_58 fr st k = evK gS fi24 c24_59 fr st (.seq c24_67 k) := rfl
def c24_52 : Code := .seq c24_53 c24_58
theorem e24_52 : evK gS fi24 c24_52 fr st k = evK gS fi24 c24_53 fr st (.seq c24_58 k) := rfl
def c24_51 : Code := .loop c24_52
def c24_50 : Code := .block 1 c24_51
theorem e24_50 : evK gS fi24 c24_50 fr st k = evK gS fi24 c24_51 fr st (.blk 1 k) := rfl
def c24_48 : Code := .seq c24_49 c24_50
theorem e24_48 : evK gS fi24 c24_48 fr st k = evK gS fi24 c24_49 fr st (.seq c24_50 k) := rfl
def c24_69 : Code := codeN b24 11243
theorem e24_69 : evK gS fi24 c24_69 fr st k = opsR gS fi24 [op1 2 (.assign (.const (.bool true))) 4] fr st k := evK_r 19 (by kernel_rfl)
def c24_70 : Code := .ret
theorem e24_70 : evK gS fi24 c24_70 fr st k = nextK gS fi24 k .ret fr st := rfl
def c24_68 : Code := .seq c24_69 c24_70
theorem e24_68 : evK gS fi24 c24_68 fr st k = evK gS fi24 c24_69 fr st (.seq c24_70 k) := rfl
def c24_47 : Code := .seq c24_48 c24_68
theorem e24_47 : evK gS fi24 c24_47 fr st k = evK gS fi24 c24_48 fr st (.seq c24_68 k) := rfl
def c24_71 : Code := .skip
theorem e24_71 : evK gS fi24 c24_71 fr st k = nextK gS fi24 k .normal fr st := rfl
def c24_46 : Code := .cond (.tmp 39) c24_47 c24_71
theorem e24_46 : evK gS fi24 c24_46 fr st k = condK gS fi24 (fr.op (.tmp 39)).bool? c24_47 c24_71 fr st k := rfl
def c24_44 : Code := .seq c24_45 c24_46
theorem e24_44 : evK gS fi24 c24_44 fr st k = evK gS fi24 c24_45 fr st (.seq c24_46 k) := rfl
def c24_38 : Code := .cond (.tmp 23) c24_39 c24_44
theorem e24_38 : evK gS fi24 c24_38 fr st k = condK gS fi24 (fr.op (.tmp 23)).bool? c24_39 c24_44 fr st k := rfl
def c24_36 : Code := .seq c24_37 c24_38
theorem e24_36 : evK gS fi24 c24_36 fr st k = evK gS fi24 c24_37 fr st (.seq c24_38 k) := rfl
def c24_32 : Code := .cond (.tmp 11) c24_33 c24_36
theorem e24_32 : evK gS fi24 c24_32 fr st k = condK gS fi24 (fr.op (.tmp 11)).bool? c24_33 c24_36 fr st k := rfl
def c24_14 : Code := .seq c24_15 c24_32
theorem e24_14 : evK gS fi24 c24_14 fr st k = evK gS fi24 c24_15 fr st (.seq c24_32 k) := rfl
def c24_13 : Code := .block 0 c24_14
theorem e24_13 : evK gS fi24 c24_13 fr st k = evK gS fi24 c24_14 fr st (.blk 0 k) := rfl
def c24_11 : Code := .seq c24_12 c24_13
theorem e24_11 : evK gS fi24 c24_11 fr st k = evK gS fi24 c24_12 fr st (.seq c24_13 k) := rfl
def c24_73 : Code := codeN b24 23
theorem e24_73 : evK gS fi24 c24_73 fr st k = opsR gS fi24 [op1 2 (.assign (.const (.bool false))) 4] fr st k := evK_r 20 (by kernel_rfl)
def c24_74 : Code := .ret
theorem e24_74 : evK gS fi24 c24_74 fr st k = nextK gS fi24 k .ret fr st := rfl
def c24_72 : Code := .seq c24_73 c24_74
theorem e24_72 : evK gS fi24 c24_72 fr st k = evK gS fi24 c24_73 fr st (.seq c24_74 k) := rfl
def c24_10 : Code := .seq c24_11 c24_72
theorem e24_10 : evK gS fi24 c24_10 fr st k = evK gS fi24 c24_11 fr st (.seq c24_72 k) := rfl
def c24_2 : Code := .seq c24_3 c24_10
theorem e24_2 : evK gS fi24 c24_2 fr st k = evK gS fi24 c24_3 fr st (.seq c24_10 k) := rfl
def c24_0 : Code := .seq c24_1 c24_2
theorem e24_0 : evK gS fi24 c24_0 fr st k = evK gS fi24 c24_1 fr st (.seq c24_2 k) := rfl
theorem m24 : mini fi24.body = c24_0 := by kernel_rfl
theorem n24_51 (fr : Fr) (st : St) (k : Kt) : nextK gS fi24 (.loop c24_52 k) .normal fr st = evK gS fi24 c24_51 fr st k := rfl
set_option maxHeartbeats 4000000 in
theorem L24_51 (p : Pred) (h_p : p.ok) (st : St) : ∀ (n i : Nat) (j : Int)  (e0 e2 e3 e4 e10 e11 : E) (T : List (Nat × E)) (X : List (Nat × List V)) (ht0 : e0.Tame) (ht2 : e2.Tame) (ht3 : e3.Tame) (ht4 : e4.Tame) (ht10 : e10.Tame) (ht11 : e11.Tame) (hx1 : lk X 1 = some [.str p.name, .int .i64 p.test, .int .i64 p.v.kind, .int .i64 p.v.n, .float .f64 p.v.x, .str p.v.s, .bool p.v.b, .int .i64 p.w.kind, .int .i64 p.w.n, .float .f64 p.w.x, .str p.w.s, .bool p.w.b, .slice (encVals p.set)]) , j = (i : Int) → i ≤ (p.set).length → (p.set).length - i = n →
    evK gS fi24 c24_51 { ps := [(0, e0), (1, .lp 1 0), (2, e2), (3, e3), (4, e4), (5, .val (.int .i64 j)), (10, e10), (11, e11)], ts := T, lc := X } st (.blk 1 (.seq c24_68 (.blk 0 (.seq c24_72 .nil)))) = some ((.ret (.bool ((p.set.drop i).all (fun v => !vis v v))) none), st) := by
  intro n
  have hm : fi24.marks = [] := rfl
  have hl : fi24.locals = [1] := rfl
  have hr : fi24.results = [.tmp 2] := rfl
  have hpo := h_p.2
  induction n with
  | zero =>
    intro i j  e0 e2 e3 e4 e10 e11 T X ht0 ht2 ht3 ht4 ht10 ht11 hx1  hj hi hn
    obtain rfl : i = (p.set).length := by omega
    subst hj
    refine evK_loop c24_52 _ st _ _ rfl ?_
    simp (config := { contextual := true, maxSteps := 10000000, maxDischargeDepth := 6 }) [-Int.not_le, -Int.not_lt, -Nat.not_le, -Nat.not_lt, ty3, ty4, ty24, ty25, ty27, eq24, hm, hl, hr, k20, x20, fi20_eq, p20, k77, x77, fi77_eq, p77, k79, x79, fi79_eq, p79, e24_1, e24_4, e24_7, e24_8, e24_6, e24_9, e24_5, e24_3, e24_12, e24_16, e24_18, e24_20, e24_22, e24_24, e24_26, e24_28, e24_30, e24_31, e24_29, e24_27, e24_25, e24_23, e24_21, e24_19, e24_17, e24_15, e24_34, e24_35, e24_33, e24_37, e24_40, e24_42, e24_43, e24_41, e24_39, e24_45, e24_49, e24_54, e24_56, e24_57, e24_55, e24_53, e24_61, q24_61, e24_64, e24_65, e24_63, e24_66, e24_62, e24_60, e24_59, e24_67, e24_58, e24_52, e24_50, e24_48, e24_69, e24_70, e24_68, e24_47, e24_71, e24_46, e24_44, e24_38, e24_36, e24_32, e24_14, e24_13, e24_11, e24_73, e24_74, e24_72, e24_10, e24_2, e24_0, n24_51, ht0, ht2, ht3, ht4, ht10, ht11, hx1]
    all_goals first | done | grind | omega | (trace_state; fail)
  | succ n ih =>
    intro i j  e0 e2 e3 e4 e10 e11 T X ht0 ht2 ht3 ht4 ht10 ht11 hx1  hj hi hn
    subst hj
    obtain ⟨x, hx⟩ : ∃ x, (p.set)[i]? = some x := ⟨(p.set)[i]'(by omega), List.getElem?_eq_getElem (by omega)⟩
    have hd := drop_get hx
    have hlt : (i : Int) < ((p.set).length : Int) := by omega
    have hlt2 : i < (p.set).length := by omega
    have hxe : (p.set)[i]'hlt2 = x := by rw [List.getElem?_eq_getElem hlt2] at hx; exact Option.some.inj hx
    have hw : IntKind.wrap .i64 ((i : Int) + 1) = (i : Int) + 1 := wrap64 (by omega) (by omega)
    have IH := fun e0 e2 e3 e4 e10 e11 T X ht0 ht2 ht3 ht4 ht10 ht11 hx1 => ih (i + 1) ((i : Int) + 1) e0 e2 e3 e4 e10 e11 T X ht0 ht2 ht3 ht4 ht10 ht11 hx1 rfl (by omega) (by omega)
    refine evK_loop c24_52 _ st _ _ rfl ?_
    simp (config := { contextual := true, maxSteps := 10000000, maxDischargeDepth := 6 }) [-Int.not_le, -Int.not_lt, -Nat.not_le, -Nat.not_lt, ty3, ty4, ty24, ty25, ty27, eq24, hm, hl, hr, k20, x20, fi20_eq, p20, k77, x77, fi77_eq, p77, k79, x79, fi79_eq, p79, e24_1, e24_4, e24_7, e24_8, e24_6, e24_9, e24_5, e24_3, e24_12, e24_16, e24_18, e24_20, e24_22, e24_24, e24_26, e24_28, e24_30, e24_31, e24_29, e24_27, e24_25, e24_23, e24_21, e24_19, e24_17, e24_15, e24_34, e24_35, e24_33, e24_37, e24_40, e24_42, e24_43, e24_41, e24_39, e24_45, e24_49, e24_54, e24_56, e24_57, e24_55, e24_53, e24_61, q24_61, e24_64, e24_65, e24_63, e24_66, e24_62, e24_60, e24_59, e24_67, e24_58, e24_52, e24_50, e24_48, e24_69, e24_70, e24_68, e24_47, e24_71, e24_46, e24_44, e24_38, e24_36, e24_32, e24_14, e24_13, e24_11, e24_73, e24_74, e24_72, e24_10, e24_2, e24_0, n24_51, ht0, ht2, ht3, ht4, ht10, ht11, hx1, hx, hxe, hd, hlt, hlt2, hw, IH]
    all_goals first | done | grind | omega | (trace_state; fail)
set_option maxHeartbeats 4000000 in
theorem c24 (p : Pred)  (h_p : Pred.ok p) (st : St) : EvF gS 24 [p.enc] st = some (.ret (.bool (pvoid p)) none, st) := by
  refine EvF_start fi24_eq (fun x h => by cases h) m24 ?_
  rw [st24]
  have hm : fi24.marks = [] := rfl
  have hl : fi24.locals = [1] := rfl
  have hr : fi24.results = [.tmp 2] := rfl
  simp (config := { contextual := true, maxSteps := 10000000, maxDischargeDepth := 6 }) [-Int.not_le, -Int.not_lt, -Nat.not_le, -Nat.not_lt, ty3, ty4, ty24, ty25, ty27, eq24, hm, hl, hr, k20, x20, fi20_eq, p20, k77, x77, fi77_eq, p77, k79, x79, fi79_eq, p79, e24_1, e24_4, e24_7, e24_8, e24_6, e24_9, e24_5, e24_3, e24_12, e24_16, e24_18, e24_20, e24_22, e24_24, e24_26, e24_28, e24_30, e24_31, e24_29, e24_27, e24_25, e24_23, e24_21, e24_19, e24_17, e24_15, e24_34, e24_35, e24_33, e24_37, e24_40, e24_42, e24_43, e24_41, e24_39, e24_45, e24_49, e24_54, e24_56, e24_57, e24_55, e24_53, e24_61, q24_61, e24_64, e24_65, e24_63, e24_66, e24_62, e24_60, e24_59, e24_67, e24_58, e24_52, e24_50, e24_48, e24_69, e24_70, e24_68, e24_47, e24_71, e24_46, e24_44, e24_38, e24_36, e24_32, e24_14, e24_13, e24_11, e24_73, e24_74, e24_72, e24_10, e24_2, e24_0, n24_51, (fun e0 e2 e3 e4 e10 e11 T X ht0 ht2 ht3 ht4 ht10 ht11 hx1 => L24_51 p h_p st _ 0 0  e0 e2 e3 e4 e10 e11 T X ht0 ht2 ht3 ht4 ht10 ht11 hx1 rfl (Nat.zero_le _) rfl), h_p.1, h_p.2]
  all_goals try simp (config := { contextual := true }) [-Int.not_le, -Int.not_lt, -Nat.not_le, -Nat.not_lt, pvoid]
  all_goals (intro hp; have hf := right_facts hp; grind)
theorem k24 (p_name : List UInt8) (p_test : Int) (p_vk : Int) (p_vn : Int) (p_vx : Nat) (p_vs : List UInt8) (p_vb : Bool) (p_wk : Int) (p_wn : Int) (p_wx : Nat) (p_ws : List UInt8) (p_wb : Bool) (p_set : List Val)  (h_p : Pred.ok (⟨p_name, p_test, ⟨p_vk, p_vn, p_vx, p_vs, p_vb⟩, ⟨p_wk, p_wn, p_wx, p_ws, p_wb⟩, p_set⟩ : Pred)) (fr : Fr) (st : St) : callStep gS (EvF gS) 24 [.agg [.str p_name, .int .i64 p_test, .int .i64 p_vk, .int .i64 p_vn, .float .f64 p_vx, .str p_vs, .bool p_vb, .int .i64 p_wk, .int .i64 p_wn, .float .f64 p_wx, .str p_ws, .bool p_wb, .slice (encVals p_set)]] fr st = some (.ok (retE none (.bool (pvoid (⟨p_name, p_test, ⟨p_vk, p_vn, p_vx, p_vs, p_vb⟩, ⟨p_wk, p_wn, p_wx, p_ws, p_wb⟩, p_set⟩ : Pred)))) fr st) :=
  call_pure rfl fi24_eq rfl (fun st => c24 (⟨p_name, p_test, ⟨p_vk, p_vn, p_vx, p_vs, p_vb⟩, ⟨p_wk, p_wn, p_wx, p_ws, p_wb⟩, p_set⟩ : Pred) h_p st) (by simp)
theorem x24 : gS.ext 24 = none := rfl
theorem p24 : fi24.pure = true := rfl
end
end Go.Proofs.Ytclpbfkbpcjejaa
namespace Go.Ab
open Go
set_option linter.unusedVariables false
set_option linter.unusedSimpArgs false
set_option linter.unnecessarySimpa false
def rest71 (q p : Pred) : Bool := if q.test = 9 ∧ p.test = 9 then isPre q.v.s p.v.s else if q.test = 9 ∧ (p.test = 7 ∨ p.test = 6) then (cmp q.v p.v).2 && (decide ((cmp q.v p.v).1 > 0) || (decide ((cmp q.v p.v).1 = 0) && decide (p.test = 7))) else false
def restR (q p : Pred) : Bool := if p.test = 3 then !ptakes q p.v else if q.test = 2 then ptakes p q.v else if q.test = 10 then q.set.all (fun v => !vis v v || ptakes p v)
    else if 4 ≤ q.test ∧ q.test ≤ 8 ∧ 4 ≤ p.test ∧ p.test ≤ 8 then within (lowR q) (lowR p) 1 && within (highR q) (highR p) (-1)
    else if q.test = 9 ∧ p.test = 9 then isPre q.v.s p.v.s else if q.test = 9 ∧ (p.test = 7 ∨ p.test = 6) then (cmp q.v p.v).2 && (decide ((cmp q.v p.v).1 > 0) || (decide ((cmp q.v p.v).1 = 0) && decide (p.test = 7))) else false
def endedB (p : Pred) : Bool := decide (4 ≤ p.test) && decide (p.test ≤ 8)
theorem low_key (r : Pred) : lowR r = lowE r ∨ ((lowR r).is = false ∧ (lowE r).is = false) := by
  unfold lowR lowE
  by_cases h6 : r.test = 6
  · simp [h6]
  · by_cases h7 : r.test = 7
    · simp [h7]
    · by_cases h8 : r.test = 8
      · simp [h8]
      · simp [h6, h7, h8]
theorem high_key (r : Pred) : highR r = highE r ∨ ((highR r).is = false ∧ (highE r).is = false) := by
  unfold highR highE
  by_cases h6 : r.test = 4
  · simp [h6]
  · by_cases h7 : r.test = 5
    · simp [h7]
    · by_cases h8 : r.test = 8
      · simp [h8]
      · simp [h6, h7, h8]
theorem within_key {a b c d : PEnd} (h1 : a = b ∨ (a.is = false ∧ b.is = false)) (h2 : c = d ∨ (c.is = false ∧ d.is = false)) (s : Int) : within a c s = within b d s := by
  unfold within
  rcases h2 with rfl | ⟨h2, h3⟩
  · rcases h1 with rfl | ⟨h4, h5⟩
    · rfl
    · simp [h4, h5]
  · simp [h2, h3]
theorem ended_key (q : Pred) : ((lowE q).is || (highE q).is) = (decide (4 ≤ q.test) && decide (q.test ≤ 8)) := by
  unfold lowE highE
  by_cases h4 : q.test = 4
  · simp [h4]
  · by_cases h5 : q.test = 5
    · simp [h5]
    · by_cases h6 : q.test = 6
      · simp [h6]
      · by_cases h7 : q.test = 7
        · simp [h7]
        · by_cases h8 : q.test = 8
          · simp [h8]
          · simp [h4, h5, h6, h7, h8]; omega
theorem all_or {l : List Val} (h : l.all vright = true) (f : Val → Bool) : l.all (fun v => !vis v v || f v) = l.all (fun v => vnan v || f v) := by
  induction l with
  | nil => rfl
  | cons v r ih =>
    simp only [List.all_cons, Bool.and_eq_true] at h
    simp only [List.all_cons, ih h.2, vis_self h.1, Bool.not_not]
theorem right_set {p : Pred} (h : pright p = true) (ht : p.test = 10) : p.set.all vright = true := by
  unfold pright at h
  simp [ht] at h
  exact List.all_eq_true.2 h.2.2
theorem pimplies_eq {q p : Pred} (hq : pright q = true) (hp : pright p = true) (hv : pvoid q = false) (h1 : ¬ p.test = 1) :
    pimplies q p = if q.test = p.test && (vsame q.v p.v && vsame q.w p.w && sames q.set p.set) then true else restR q p := by
  unfold pimplies
  rw [hq, hp, hv]
  simp only [Bool.and_self, if_true, Bool.false_eq_true, h1, decide_false, Bool.or_self, if_false]
  split
  · rfl
  · unfold restR
    split
    · rfl
    · split
      · rfl
      · split
        · rename_i h10
          rw [all_or (right_set hq h10)]
        · rw [ended_key, ended_key, within_key (low_key q) (low_key p), within_key (high_key q) (high_key p)]
          by_cases ha : 4 ≤ q.test ∧ q.test ≤ 8 ∧ 4 ≤ p.test ∧ p.test ≤ 8
          · obtain ⟨a1, a2, a3, a4⟩ := ha
            simp [a1, a2, a3, a4]
          · rw [if_neg ha, if_neg (by simp only [Bool.and_eq_true, decide_eq_true_eq]; exact fun h => ha ⟨h.1.1, h.1.2, h.2.1, h.2.2⟩)]
            by_cases h9 : q.test = 9
            · by_cases p9 : p.test = 9
              · simp [h9, p9]
              · by_cases p7 : p.test = 7
                · simp only [h9, p7]
                  rcases cmp_tri q.v p.v with e | e | e <;> simp [e]
                · by_cases p6 : p.test = 6
                  · simp [h9, p6]
                  · simp [h9, p9, p7, p6]
            · simp [h9]
end Go.Ab
namespace Go.Proofs.Ytclpbfkbpcjejaa
open Go Go.Ab
set_option linter.unusedVariables false
set_option linter.unusedSimpArgs false
set_option linter.unnecessarySimpa false
set_option maxRecDepth 20000
noncomputable section
variable (fr : Fr) (st : St) (k : Kt)
def fi85 : FI := { body := codeOf Try.f85, ntmps := 34, results := [.cell 2 99, .cell 3 99], pers := [0, 1, 2, 3, 5, 6, 15], locals := [1, 2, 3], pure := true, marks := [] }
theorem fi85_eq : gS.fn 85 = some fi85 := by kernel_rfl
theorem st85 (a0 : V) : startFr fi85 [a0] = { ps := [(0, .val a0), (1, .any), (2, .any), (3, .any), (5, .any), (6, .any), (15, .any)], ts := [], lc := [] } := rfl
def b85 : Code := mini (codeOf Try.f85)
def c85_1 : Code := codeN b85 2
theorem e85_1 : evK gS fi85 c85_1 fr st k = opsR gS fi85 [op1 1 (.box 27 (.tmp 0)) 0,
 op1 2 (.alloc 99) 0,
 op1 3 (.alloc 99) 0] fr st k := evK_r 0 (by kernel_rfl)
def c85_4 : Code := codeN b85 9
theorem e85_4 : evK gS fi85 c85_4 fr st k = opsR gS fi85 [op1 4 (.fieldAddr 27 (.tmp 1) 1) 0,
 op1 5 (.load 3 (.tmp 4)) 3] fr st k := evK_r 1 (by kernel_rfl)
def c85_8 : Code := codeN b85 69
theorem e85_8 : evK gS fi85 c85_8 fr st k = opsR gS fi85 [op1 7 (.binOp .eql 3 (.tmp 5) (.const (.int .i64 4)) 3) 4,
 op1 6 (.assign (.tmp 7)) 4] fr st k := evK_r 2 (by kernel_rfl)
def c85_10 : Code := .skip
theorem e85_10 : evK gS fi85 c85_10 fr st k = nextK gS fi85 k .normal fr st := rfl
def c85_11 : Code := codeN b85 229
theorem e85_11 : evK gS fi85 c85_11 fr st k = opsR gS fi85 [op1 8 (.binOp .eql 3 (.tmp 5) (.const (.int .i64 5)) 3) 4,
 op1 6 (.assign (.tmp 8)) 4] fr st k := evK_r 3 (by kernel_rfl)
def c85_9 : Code := .cond (.tmp 6) c85_10 c85_11
theorem e85_9 : evK gS fi85 c85_9 fr st k = condK gS fi85 (fr.op (.tmp 6)).bool? c85_10 c85_11 fr st k := rfl
def c85_7 : Code := .seq c85_8 c85_9
theorem e85_7 : evK gS fi85 c85_7 fr st k = evK gS fi85 c85_8 fr st (.seq c85_9 k) := rfl
def c85_13 : Code := codeN b85 85
theorem e85_13 : evK gS fi85 c85_13 fr st k = opsR gS fi85 [op1 9 (.fieldAddr 27 (.tmp 1) 1) 0,
 op1 10 (.load 3 (.tmp 9)) 3,
 op1 11 (.binOp .eql 3 (.tmp 10) (.const (.int .i64 4)) 3) 4,
 op1 12 (.fieldAddr 27 (.tmp 1) 2) 0,
 op1 13 (.load 24 (.tmp 12)) 24,
 op1 14 (.build 99 #[(0, (.const (.bool true))), (1, (.tmp 11)), (2, (.tmp 13))]) 99,
 mk none (.store 99 (.tmp 3) (.tmp 14)) 0 none] fr st k := evK_r 4 (by kernel_rfl)
def c85_16 : Code := codeN b85 309
theorem e85_16 : evK gS fi85 c85_16 fr st k = opsR gS fi85 [op1 16 (.binOp .eql 3 (.tmp 5) (.const (.int .i64 6)) 3) 4,
 op1 15 (.assign (.tmp 16)) 4] fr st k := evK_r 5 (by kernel_rfl)
def c85_18 : Code := .skip
theorem e85_18 : evK gS fi85 c85_18 fr st k = nextK gS fi85 k .normal fr st := rfl
def c85_19 : Code := codeN b85 949
theorem e85_19 : evK gS fi85 c85_19 fr st k = opsR gS fi85 [op1 17 (.binOp .eql 3 (.tmp 5) (.const (.int .i64 7)) 3) 4,
 op1 15 (.assign (.tmp 17)) 4] fr st k := evK_r 6 (by kernel_rfl)
def c85_17 : Code := .cond (.tmp 15) c85_18 c85_19
theorem e85_17 : evK gS fi85 c85_17 fr st k = condK gS fi85 (fr.op (.tmp 15)).bool? c85_18 c85_19 fr st k := rfl
def c85_15 : Code := .seq c85_16 c85_17
theorem e85_15 : evK gS fi85 c85_15 fr st k = evK gS fi85 c85_16 fr st (.seq c85_17 k) := rfl
def c85_21 : Code := codeN b85 373
theorem e85_21 : evK gS fi85 c85_21 fr st k = opsR gS fi85 [op1 18 (.fieldAddr 27 (.tmp 1) 1) 0,
 op1 19 (.load 3 (.tmp 18)) 3,
 op1 20 (.binOp .eql 3 (.tmp 19) (.const (.int .i64 6)) 3) 4,
 op1 21 (.fieldAddr 27 (.tmp 1) 2) 0,
 op1 22 (.load 24 (.tmp 21)) 24,
 op1 23 (.build 99 #[(0, (.const (.bool true))), (1, (.tmp 20)), (2, (.tmp 22))]) 99,
 mk none (.store 99 (.tmp 2) (.tmp 23)) 0 none] fr st k := evK_r 7 (by kernel_rfl)
def c85_23 : Code := codeN b85 757
theorem e85_23 : evK gS fi85 c85_23 fr st k = opsR gS fi85 [op1 25 (.binOp .eql 3 (.tmp 5) (.const (.int .i64 8)) 3) 4,
 op1 24 (.assign (.tmp 25)) 4] fr st k := evK_r 8 (by kernel_rfl)
def r85_25 : Array Oper := regOps (codeN (codeOf Try.f85) 1525)
def c85_25 : Code := .region 9 r85_25 true
def q85_25 : List (Oper × Fl) := [(op1 26 (.fieldAddr 27 (.tmp 1) 2) 0, ⟨true, false, true, false, false, false, true, true, false, false, []⟩),
 (op1 27 (.load 24 (.tmp 26)) 24, ⟨true, false, true, false, false, false, true, true, false, false, []⟩),
 (op1 28 (.build 99 #[(0, (.const (.bool true))), (2, (.tmp 27))]) 99, ⟨true, false, true, false, false, false, true, true, false, false, []⟩),
 (op1 29 (.fieldAddr 27 (.tmp 1) 3) 0, ⟨true, false, false, false, false, false, true, false, false, false, []⟩),
 (op1 30 (.load 24 (.tmp 29)) 24, ⟨true, false, false, false, false, false, true, false, false, false, [2]⟩),
 (op1 31 (.build 99 #[(0, (.const (.bool true))), (2, (.tmp 30))]) 99, ⟨true, false, false, false, false, false, true, false, false, false, []⟩),
 (mk none (.store 99 (.tmp 2) (.tmp 28)) 0 none, ⟨false, true, true, false, true, true, true, true, true, false, []⟩),
 (mk none (.store 99 (.tmp 3) (.tmp 31)) 0 none, ⟨false, true, true, false, true, true, true, true, false, false, []⟩)]
theorem e85_25 : evK gS fi85 c85_25 fr st k = drwR gS fi85 r85_25 q85_25 fr st k := evK_dr 9 rfl (by kernel_rfl) (by kernel_rfl)
def c85_26 : Code := .skip
theorem e85_26 : evK gS fi85 c85_26 fr st k = nextK gS fi85 k .normal fr st := rfl
def c85_24 : Code := .cond (.tmp 24) c85_25 c85_26
theorem e85_24 : evK gS fi85 c85_24 fr st k = condK gS fi85 (fr.op (.tmp 24)).bool? c85_25 c85_26 fr st k := rfl
def c85_22 : Code := .seq c85_23 c85_24
theorem e85_22 : evK gS fi85 c85_22 fr st k = evK gS fi85 c85_23 fr st (.seq c85_24 k) := rfl
def c85_20 : Code := .cond (.tmp 15) c85_21 c85_22
theorem e85_20 : evK gS fi85 c85_20 fr st k = condK gS fi85 (fr.op (.tmp 15)).bool? c85_21 c85_22 fr st k := rfl
def c85_14 : Code := .seq c85_15 c85_20
theorem e85_14 : evK gS fi85 c85_14 fr st k = evK gS fi85 c85_15 fr st (.seq c85_20 k) := rfl
def c85_12 : Code := .cond (.tmp 6) c85_13 c85_14
theorem e85_12 : evK gS fi85 c85_12 fr st k = condK gS fi85 (fr.op (.tmp 6)).bool? c85_13 c85_14 fr st k := rfl
def c85_6 : Code := .seq c85_7 c85_12
theorem e85_6 : evK gS fi85 c85_6 fr st k = evK gS fi85 c85_7 fr st (.seq c85_12 k) := rfl
def c85_5 : Code := .block 0 c85_6
theorem e85_5 : evK gS fi85 c85_5 fr st k = evK gS fi85 c85_6 fr st (.blk 0 k) := rfl
def c85_3 : Code := .seq c85_4 c85_5
theorem e85_3 : evK gS fi85 c85_3 fr st k = evK gS fi85 c85_4 fr st (.seq c85_5 k) := rfl
def r85_28 : Array Oper := regOps (codeN (codeOf Try.f85) 11)
def c85_28 : Code := .region 10 r85_28 true
def q85_28 : List (Oper × Fl) := [(op1 32 (.load 99 (.tmp 2)) 99, ⟨true, false, true, false, false, false, true, true, false, false, []⟩),
 (op1 33 (.load 99 (.tmp 3)) 99, ⟨true, false, false, false, false, false, true, false, false, false, [2]⟩),
 (mk none (.store 99 (.tmp 2) (.tmp 32)) 0 none, ⟨false, true, true, false, true, true, true, true, true, false, []⟩),
 (mk none (.store 99 (.tmp 3) (.tmp 33)) 0 none, ⟨false, true, true, false, true, true, true, true, false, false, []⟩)]
theorem e85_28 : evK gS fi85 c85_28 fr st k = drwR gS fi85 r85_28 q85_28 fr st k := evK_dr 10 rfl (by kernel_rfl) (by kernel_rfl)
def c85_29 : Code := .ret
theorem e85_29 : evK gS fi85 c85_29 fr st k = nextK gS fi85 k .ret fr st := rfl
def c85_27 : Code := .seq c85_28 c85_29
theorem e85_27 : evK gS fi85 c85_27 fr st k = evK gS fi85 c85_28 fr st (.seq c85_29 k) := rfl
def c85_2 : Code := .seq c85_3 c85_27
theorem e85_2 : evK gS fi85 c85_2 fr st k = evK gS fi85 c85_3 fr st (.seq c85_27 k) := rfl
def c85_0 : Code := .seq c85_1 c85_2
theorem e85_0 : evK gS fi85 c85_0 fr st k = evK gS fi85 c85_1 fr st (.seq c85_2 k) := rfl
theorem m85 : mini fi85.body = c85_0 := by kernel_rfl
set_option maxHeartbeats 4000000 in
theorem c85 (p : Pred)  (st : St) : EvF gS 85 [p.enc] st = some (.ret (.tuple [(lowE p).encP, (highE p).encP]) none, st) := by
  refine EvF_start fi85_eq (fun x h => by cases h) m85 ?_
  rw [st85]
  have hm : fi85.marks = [] := rfl
  have hl : fi85.locals = [1, 2, 3] := rfl
  have hr : fi85.results = [.cell 2 99, .cell 3 99] := rfl
  simp (config := { contextual := true, maxSteps := 10000000, maxDischargeDepth := 6 }) [-Int.not_le, -Int.not_lt, -Nat.not_le, -Nat.not_lt, ty3, ty4, ty24, ty27, ty99, eq24, hm, hl, hr, e85_1, e85_4, e85_8, e85_10, e85_11, e85_9, e85_7, e85_13, e85_16, e85_18, e85_19, e85_17, e85_15, e85_21, e85_23, e85_25, q85_25, e85_26, e85_24, e85_22, e85_20, e85_14, e85_12, e85_6, e85_5, e85_3, e85_28, q85_28, e85_29, e85_27, e85_2, e85_0]
  all_goals try simp (config := { contextual := true }) [-Int.not_le, -Int.not_lt, -Nat.not_le, -Nat.not_lt, lowE, highE, vzero]
  all_goals first | done | grind | omega | (trace_state; fail)
theorem k85 (p_name : List UInt8) (p_test : Int) (p_vk : Int) (p_vn : Int) (p_vx : Nat) (p_vs : List UInt8) (p_vb : Bool) (p_wk : Int) (p_wn : Int) (p_wx : Nat) (p_ws : List UInt8) (p_wb : Bool) (p_set : List Val)  (fr : Fr) (st : St) : callStep gS (EvF gS) 85 [.agg [.str p_name, .int .i64 p_test, .int .i64 p_vk, .int .i64 p_vn, .float .f64 p_vx, .str p_vs, .bool p_vb, .int .i64 p_wk, .int .i64 p_wn, .float .f64 p_wx, .str p_ws, .bool p_wb, .slice (encVals p_set)]] fr st = some (.ok (retE none (.tuple [(lowE (⟨p_name, p_test, ⟨p_vk, p_vn, p_vx, p_vs, p_vb⟩, ⟨p_wk, p_wn, p_wx, p_ws, p_wb⟩, p_set⟩ : Pred)).encP, (highE (⟨p_name, p_test, ⟨p_vk, p_vn, p_vx, p_vs, p_vb⟩, ⟨p_wk, p_wn, p_wx, p_ws, p_wb⟩, p_set⟩ : Pred)).encP])) fr st) :=
  call_pure rfl fi85_eq rfl (fun st => c85 (⟨p_name, p_test, ⟨p_vk, p_vn, p_vx, p_vs, p_vb⟩, ⟨p_wk, p_wn, p_wx, p_ws, p_wb⟩, p_set⟩ : Pred)  st) (by simp)
def fi89 : FI := { body := codeOf Try.f89, ntmps := 22, results := [.cell 2 105], pers := [0, 1, 2], locals := [1, 2], pure := true, marks := [] }
theorem fi89_eq : gS.fn 89 = some fi89 := by kernel_rfl
theorem st89 (a0 : V) : startFr fi89 [a0] = { ps := [(0, .val a0), (1, .any), (2, .any)], ts := [], lc := [] } := rfl
def b89 : Code := mini (codeOf Try.f89)
def c89_1 : Code := codeN b89 2
theorem e89_1 : evK gS fi89 c89_1 fr st k = opsR gS fi89 [op1 1 (.box 27 (.tmp 0)) 0,
 op1 2 (.alloc 105) 0] fr st k := evK_r 0 (by kernel_rfl)
def c89_3 : Code := codeN b89 5
theorem e89_3 : evK gS fi89 c89_3 fr st k = opsR gS fi89 [op1 3 (.fieldAddr 27 (.tmp 1) 2) 0,
 op1 4 (.load 24 (.tmp 3)) 24,
 op1 5 (.fieldAddr 27 (.tmp 1) 1) 0,
 op1 6 (.load 3 (.tmp 5)) 3,
 op1 7 (.binOp .eql 3 (.tmp 6) (.const (.int .i64 6)) 3) 4,
 op1 8 (.move (.tmp 7)) 4,
 mk (some 9) (.fieldAddr 27 (.tmp 1) 1) 0 (some (5, false)),
 mk (some 10) (.load 3 (.tmp 9)) 3 (some (5, false)),
 mk (some 11) (.binOp .eql 3 (.tmp 10) (.const (.int .i64 7)) 3) 4 (some (5, false)),
 op1 12 (.pick (.tmp 8) (.const (.bool true)) (.tmp 11)) 4,
 op1 13 (.move (.tmp 12)) 4,
 mk (some 14) (.fieldAddr 27 (.tmp 1) 1) 0 (some (10, false)),
 mk (some 15) (.load 3 (.tmp 14)) 3 (some (10, false)),
 mk (some 16) (.binOp .eql 3 (.tmp 15) (.const (.int .i64 8)) 3) 4 (some (10, false)),
 op1 17 (.pick (.tmp 13) (.const (.bool true)) (.tmp 16)) 4,
 op1 18 (.fieldAddr 27 (.tmp 1) 1) 0,
 op1 19 (.load 3 (.tmp 18)) 3,
 op1 20 (.binOp .eql 3 (.tmp 19) (.const (.int .i64 6)) 3) 4,
 op1 21 (.build 105 #[(0, (.tmp 4)), (1, (.tmp 17)), (2, (.tmp 20))]) 105,
 mk none (.store 105 (.tmp 2) (.tmp 21)) 0 none] fr st k := evK_r 1 (by kernel_rfl)
def c89_4 : Code := .ret
theorem e89_4 : evK gS fi89 c89_4 fr st k = nextK gS fi89 k .ret fr st := rfl
def c89_2 : Code := .seq c89_3 c89_4
theorem e89_2 : evK gS fi89 c89_2 fr st k = evK gS fi89 c89_3 fr st (.seq c89_4 k) := rfl
def c89_0 : Code := .seq c89_1 c89_2
theorem e89_0 : evK gS fi89 c89_0 fr st k = evK gS fi89 c89_1 fr st (.seq c89_2 k) := rfl
theorem m89 : mini fi89.body = c89_0 := by kernel_rfl
set_option maxHeartbeats 4000000 in
theorem c89 (p : Pred)  (st : St) : EvF gS 89 [p.enc] st = some (.ret ((lowR p).encR) none, st) := by
  refine EvF_start fi89_eq (fun x h => by cases h) m89 ?_
  rw [st89]
  have hm : fi89.marks = [] := rfl
  have hl : fi89.locals = [1, 2] := rfl
  have hr : fi89.results = [.cell 2 105] := rfl
  by_cases h0 : p.test = 6 <;> by_cases h1 : p.test = 7 <;> by_cases h2 : p.test = 8 <;> first | (exfalso; omega) | skip
  all_goals simp [h0, h1, h2, -Int.not_le, -Int.not_lt, -Nat.not_le, -Nat.not_lt, ty3, ty4, ty24, ty27, ty105, eq24, hm, hl, hr, e89_1, e89_3, e89_4, e89_2, e89_0]
  all_goals simp [h0, h1, h2, lowR]
theorem k89 (p_name : List UInt8) (p_test : Int) (p_vk : Int) (p_vn : Int) (p_vx : Nat) (p_vs : List UInt8) (p_vb : Bool) (p_wk : Int) (p_wn : Int) (p_wx : Nat) (p_ws : List UInt8) (p_wb : Bool) (p_set : List Val)  (fr : Fr) (st : St) : callStep gS (EvF gS) 89 [.agg [.str p_name, .int .i64 p_test, .int .i64 p_vk, .int .i64 p_vn, .float .f64 p_vx, .str p_vs, .bool p_vb, .int .i64 p_wk, .int .i64 p_wn, .float .f64 p_wx, .str p_ws, .bool p_wb, .slice (encVals p_set)]] fr st = some (.ok (retE none ((lowR (⟨p_name, p_test, ⟨p_vk, p_vn, p_vx, p_vs, p_vb⟩, ⟨p_wk, p_wn, p_wx, p_ws, p_wb⟩, p_set⟩ : Pred)).encR)) fr st) :=
  call_pure rfl fi89_eq rfl (fun st => c89 (⟨p_name, p_test, ⟨p_vk, p_vn, p_vx, p_vs, p_vb⟩, ⟨p_wk, p_wn, p_wx, p_ws, p_wb⟩, p_set⟩ : Pred)  st) (by simp)
theorem x89 : gS.ext 89 = none := rfl
theorem p89 : fi89.pure = true := rfl
def fi90 : FI := { body := codeOf Try.f90, ntmps := 23, results := [.cell 2 105], pers := [0, 1, 2], locals := [1, 2], pure := true, marks := [] }
theorem fi90_eq : gS.fn 90 = some fi90 := by kernel_rfl
theorem st90 (a0 : V) : startFr fi90 [a0] = { ps := [(0, .val a0), (1, .any), (2, .any)], ts := [], lc := [] } := rfl
def b90 : Code := mini (codeOf Try.f90)
def c90_1 : Code := codeN b90 2
theorem e90_1 : evK gS fi90 c90_1 fr st k = opsR gS fi90 [op1 1 (.box 27 (.tmp 0)) 0,
 op1 2 (.alloc 105) 0] fr st k := evK_r 0 (by kernel_rfl)
def c90_4 : Code := codeN b90 9
theorem e90_4 : evK gS fi90 c90_4 fr st k = opsR gS fi90 [op1 3 (.fieldAddr 27 (.tmp 1) 1) 0,
 op1 4 (.load 3 (.tmp 3)) 3,
 op1 5 (.binOp .eql 3 (.tmp 4) (.const (.int .i64 8)) 3) 4] fr st k := evK_r 1 (by kernel_rfl)
def c90_7 : Code := codeN b90 37
theorem e90_7 : evK gS fi90 c90_7 fr st k = opsR gS fi90 [op1 6 (.fieldAddr 27 (.tmp 1) 3) 0,
 op1 7 (.load 24 (.tmp 6)) 24,
 op1 8 (.build 105 #[(0, (.tmp 7)), (1, (.const (.bool true))), (2, (.const (.bool false)))]) 105,
 mk none (.store 105 (.tmp 2) (.tmp 8)) 0 none] fr st k := evK_r 2 (by kernel_rfl)
def c90_8 : Code := .ret
theorem e90_8 : evK gS fi90 c90_8 fr st k = nextK gS fi90 k .ret fr st := rfl
def c90_6 : Code := .seq c90_7 c90_8
theorem e90_6 : evK gS fi90 c90_6 fr st k = evK gS fi90 c90_7 fr st (.seq c90_8 k) := rfl
def c90_9 : Code := .skip
theorem e90_9 : evK gS fi90 c90_9 fr st k = nextK gS fi90 k .normal fr st := rfl
def c90_5 : Code := .cond (.tmp 5) c90_6 c90_9
theorem e90_5 : evK gS fi90 c90_5 fr st k = condK gS fi90 (fr.op (.tmp 5)).bool? c90_6 c90_9 fr st k := rfl
def c90_3 : Code := .seq c90_4 c90_5
theorem e90_3 : evK gS fi90 c90_3 fr st k = evK gS fi90 c90_4 fr st (.seq c90_5 k) := rfl
def c90_11 : Code := codeN b90 11
theorem e90_11 : evK gS fi90 c90_11 fr st k = opsR gS fi90 [op1 9 (.fieldAddr 27 (.tmp 1) 2) 0,
 op1 10 (.load 24 (.tmp 9)) 24,
 op1 11 (.fieldAddr 27 (.tmp 1) 1) 0,
 op1 12 (.load 3 (.tmp 11)) 3,
 op1 13 (.binOp .eql 3 (.tmp 12) (.const (.int .i64 4)) 3) 4,
 op1 14 (.move (.tmp 13)) 4,
 mk (some 15) (.fieldAddr 27 (.tmp 1) 1) 0 (some (5, false)),
 mk (some 16) (.load 3 (.tmp 15)) 3 (some (5, false)),
 mk (some 17) (.binOp .eql 3 (.tmp 16) (.const (.int .i64 5)) 3) 4 (some (5, false)),
 op1 18 (.pick (.tmp 14) (.const (.bool true)) (.tmp 17)) 4,
 op1 19 (.fieldAddr 27 (.tmp 1) 1) 0,
 op1 20 (.load 3 (.tmp 19)) 3,
 op1 21 (.binOp .eql 3 (.tmp 20) (.const (.int .i64 4)) 3) 4,
 op1 22 (.build 105 #[(0, (.tmp 10)), (1, (.tmp 18)), (2, (.tmp 21))]) 105,
 mk none (.store 105 (.tmp 2) (.tmp 22)) 0 none] fr st k := evK_r 3 (by kernel_rfl)
def c90_12 : Code := .ret
theorem e90_12 : evK gS fi90 c90_12 fr st k = nextK gS fi90 k .ret fr st := rfl
def c90_10 : Code := .seq c90_11 c90_12
theorem e90_10 : evK gS fi90 c90_10 fr st k = evK gS fi90 c90_11 fr st (.seq c90_12 k) := rfl
def c90_2 : Code := .seq c90_3 c90_10
theorem e90_2 : evK gS fi90 c90_2 fr st k = evK gS fi90 c90_3 fr st (.seq c90_10 k) := rfl
def c90_0 : Code := .seq c90_1 c90_2
theorem e90_0 : evK gS fi90 c90_0 fr st k = evK gS fi90 c90_1 fr st (.seq c90_2 k) := rfl
theorem m90 : mini fi90.body = c90_0 := by kernel_rfl
set_option maxHeartbeats 4000000 in
theorem c90 (p : Pred)  (st : St) : EvF gS 90 [p.enc] st = some (.ret ((highR p).encR) none, st) := by
  refine EvF_start fi90_eq (fun x h => by cases h) m90 ?_
  rw [st90]
  have hm : fi90.marks = [] := rfl
  have hl : fi90.locals = [1, 2] := rfl
  have hr : fi90.results = [.cell 2 105] := rfl
  by_cases h0 : p.test = 8 <;> by_cases h1 : p.test = 4 <;> by_cases h2 : p.test = 5 <;> first | (exfalso; omega) | skip
  all_goals simp [h0, h1, h2, -Int.not_le, -Int.not_lt, -Nat.not_le, -Nat.not_lt, ty3, ty4, ty24, ty27, ty105, eq24, hm, hl, hr, e90_1, e90_4, e90_7, e90_8, e90_6, e90_9, e90_5, e90_3, e90_11, e90_12, e90_10, e90_2, e90_0]
  all_goals simp [h0, h1, h2, highR]
theorem k90 (p_name : List UInt8) (p_test : Int) (p_vk : Int) (p_vn : Int) (p_vx : Nat) (p_vs : List UInt8) (p_vb : Bool) (p_wk : Int) (p_wn : Int) (p_wx : Nat) (p_ws : List UInt8) (p_wb : Bool) (p_set : List Val)  (fr : Fr) (st : St) : callStep gS (EvF gS) 90 [.agg [.str p_name, .int .i64 p_test, .int .i64 p_vk, .int .i64 p_vn, .float .f64 p_vx, .str p_vs, .bool p_vb, .int .i64 p_wk, .int .i64 p_wn, .float .f64 p_wx, .str p_ws, .bool p_wb, .slice (encVals p_set)]] fr st = some (.ok (retE none ((highR (⟨p_name, p_test, ⟨p_vk, p_vn, p_vx, p_vs, p_vb⟩, ⟨p_wk, p_wn, p_wx, p_ws, p_wb⟩, p_set⟩ : Pred)).encR)) fr st) :=
  call_pure rfl fi90_eq rfl (fun st => c90 (⟨p_name, p_test, ⟨p_vk, p_vn, p_vx, p_vs, p_vb⟩, ⟨p_wk, p_wn, p_wx, p_ws, p_wb⟩, p_set⟩ : Pred)  st) (by simp)
theorem x90 : gS.ext 90 = none := rfl
theorem p90 : fi90.pure = true := rfl
def fi87 : FI := { body := codeOf Try.f87, ntmps := 11, results := [.tmp 2], pers := [0, 1, 2], locals := [1], pure := true, marks := [] }
theorem fi87_eq : gS.fn 87 = some fi87 := by kernel_rfl
theorem st87 (a0 : V) : startFr fi87 [a0] = { ps := [(0, .val a0), (1, .any), (2, .any)], ts := [], lc := [] } := rfl
def b87 : Code := mini (codeOf Try.f87)
def c87_1 : Code := codeN b87 2
theorem e87_1 : evK gS fi87 c87_1 fr st k = opsR gS fi87 [op1 1 (.box 27 (.tmp 0)) 0,
 op1 2 (.assign (.const (.bool false))) 4] fr st k := evK_r 0 (by kernel_rfl)
def c87_3 : Code := codeN b87 5
theorem e87_3 : evK gS fi87 c87_3 fr st k = opsR gS fi87 [op1 3 (.fieldAddr 27 (.tmp 1) 1) 0,
 op1 4 (.load 3 (.tmp 3)) 3,
 op1 5 (.binOp .geq 3 (.tmp 4) (.const (.int .i64 4)) 3) 4,
 op1 6 (.move (.tmp 5)) 4,
 mk (some 7) (.fieldAddr 27 (.tmp 1) 1) 0 (some (3, true)),
 mk (some 8) (.load 3 (.tmp 7)) 3 (some (3, true)),
 mk (some 9) (.binOp .leq 3 (.tmp 8) (.const (.int .i64 8)) 3) 4 (some (3, true)),
 op1 10 (.pick (.tmp 6) (.tmp 9) (.const (.bool false))) 4,
 op1 2 (.assign (.tmp 10)) 4] fr st k := evK_r 1 (by kernel_rfl)
def c87_4 : Code := .ret
theorem e87_4 : evK gS fi87 c87_4 fr st k = nextK gS fi87 k .ret fr st := rfl
def c87_2 : Code := .seq c87_3 c87_4
theorem e87_2 : evK gS fi87 c87_2 fr st k = evK gS fi87 c87_3 fr st (.seq c87_4 k) := rfl
def c87_0 : Code := .seq c87_1 c87_2
theorem e87_0 : evK gS fi87 c87_0 fr st k = evK gS fi87 c87_1 fr st (.seq c87_2 k) := rfl
theorem m87 : mini fi87.body = c87_0 := by kernel_rfl
set_option maxHeartbeats 4000000 in
theorem c87 (p : Pred)  (st : St) : EvF gS 87 [p.enc] st = some (.ret (.bool (endedB p)) none, st) := by
  refine EvF_start fi87_eq (fun x h => by cases h) m87 ?_
  rw [st87]
  have hm : fi87.marks = [] := rfl
  have hl : fi87.locals = [1] := rfl
  have hr : fi87.results = [.tmp 2] := rfl
  simp (config := { contextual := true, maxSteps := 10000000, maxDischargeDepth := 6 }) [-Int.not_le, -Int.not_lt, -Nat.not_le, -Nat.not_lt, ty3, ty4, ty27, hm, hl, hr, e87_1, e87_3, e87_4, e87_2, e87_0]
  all_goals try simp (config := { contextual := true }) [-Int.not_le, -Int.not_lt, -Nat.not_le, -Nat.not_lt, endedB]
  all_goals first | done | grind | omega | (trace_state; fail)
theorem k87 (p_name : List UInt8) (p_test : Int) (p_vk : Int) (p_vn : Int) (p_vx : Nat) (p_vs : List UInt8) (p_vb : Bool) (p_wk : Int) (p_wn : Int) (p_wx : Nat) (p_ws : List UInt8) (p_wb : Bool) (p_set : List Val)  (fr : Fr) (st : St) : callStep gS (EvF gS) 87 [.agg [.str p_name, .int .i64 p_test, .int .i64 p_vk, .int .i64 p_vn, .float .f64 p_vx, .str p_vs, .bool p_vb, .int .i64 p_wk, .int .i64 p_wn, .float .f64 p_wx, .str p_ws, .bool p_wb, .slice (encVals p_set)]] fr st = some (.ok (retE none (.bool (endedB (⟨p_name, p_test, ⟨p_vk, p_vn, p_vx, p_vs, p_vb⟩, ⟨p_wk, p_wn, p_wx, p_ws, p_wb⟩, p_set⟩ : Pred)))) fr st) :=
  call_pure rfl fi87_eq rfl (fun st => c87 (⟨p_name, p_test, ⟨p_vk, p_vn, p_vx, p_vs, p_vb⟩, ⟨p_wk, p_wn, p_wx, p_ws, p_wb⟩, p_set⟩ : Pred)  st) (by simp)
theorem x87 : gS.ext 87 = none := rfl
theorem p87 : fi87.pure = true := rfl
def fi86 : FI := { body := codeOf Try.f86, ntmps := 42, results := [.tmp 6], pers := [0, 1, 2, 3, 4, 6, 7, 8], locals := [3, 4], pure := true, marks := [] }
theorem fi86_eq : gS.fn 86 = some fi86 := by kernel_rfl
theorem st86 (a0 a1 a2 : V) : startFr fi86 [a0, a1, a2] = { ps := [(0, .val a0), (1, .val a1), (2, .val a2), (3, .any), (4, .any), (6, .any), (7, .any), (8, .any)], ts := [], lc := [] } := rfl
def b86 : Code := mini (codeOf Try.f86)
def c86_1 : Code := codeN b86 2
theorem e86_1 : evK gS fi86 c86_1 fr st k = opsR gS fi86 [op1 3 (.box 99 (.tmp 0)) 0,
 op1 4 (.box 99 (.tmp 1)) 0,
 op1 6 (.assign (.const (.bool false))) 4] fr st k := evK_r 0 (by kernel_rfl)
def c86_4 : Code := codeN b86 9
theorem e86_4 : evK gS fi86 c86_4 fr st k = opsR gS fi86 [op1 9 (.fieldAddr 99 (.tmp 4) 0) 0,
 op1 10 (.load 4 (.tmp 9)) 4,
 op1 11 (.unOp .not 4 (.tmp 10)) 4] fr st k := evK_r 1 (by kernel_rfl)
def c86_7 : Code := codeN b86 37
theorem e86_7 : evK gS fi86 c86_7 fr st k = opsR gS fi86 [op1 6 (.assign (.const (.bool true))) 4] fr st k := evK_r 2 (by kernel_rfl)
def c86_8 : Code := .ret
theorem e86_8 : evK gS fi86 c86_8 fr st k = nextK gS fi86 k .ret fr st := rfl
def c86_6 : Code := .seq c86_7 c86_8
theorem e86_6 : evK gS fi86 c86_6 fr st k = evK gS fi86 c86_7 fr st (.seq c86_8 k) := rfl
def c86_9 : Code := .skip
theorem e86_9 : evK gS fi86 c86_9 fr st k = nextK gS fi86 k .normal fr st := rfl
def c86_5 : Code := .cond (.tmp 11) c86_6 c86_9
theorem e86_5 : evK gS fi86 c86_5 fr st k = condK gS fi86 (fr.op (.tmp 11)).bool? c86_6 c86_9 fr st k := rfl
def c86_3 : Code := .seq c86_4 c86_5
theorem e86_3 : evK gS fi86 c86_3 fr st k = evK gS fi86 c86_4 fr st (.seq c86_5 k) := rfl
def c86_12 : Code := codeN b86 19
theorem e86_12 : evK gS fi86 c86_12 fr st k = opsR gS fi86 [op1 12 (.fieldAddr 99 (.tmp 3) 0) 0,
 op1 13 (.load 4 (.tmp 12)) 4,
 op1 14 (.unOp .not 4 (.tmp 13)) 4] fr st k := evK_r 3 (by kernel_rfl)
def c86_15 : Code := codeN b86 75
theorem e86_15 : evK gS fi86 c86_15 fr st k = opsR gS fi86 [op1 6 (.assign (.const (.bool false))) 4] fr st k := evK_r 4 (by kernel_rfl)
def c86_16 : Code := .ret
theorem e86_16 : evK gS fi86 c86_16 fr st k = nextK gS fi86 k .ret fr st := rfl
def c86_14 : Code := .seq c86_15 c86_16
theorem e86_14 : evK gS fi86 c86_14 fr st k = evK gS fi86 c86_15 fr st (.seq c86_16 k) := rfl
def c86_17 : Code := .skip
theorem e86_17 : evK gS fi86 c86_17 fr st k = nextK gS fi86 k .normal fr st := rfl
def c86_13 : Code := .cond (.tmp 14) c86_14 c86_17
theorem e86_13 : evK gS fi86 c86_13 fr st k = condK gS fi86 (fr.op (.tmp 14)).bool? c86_14 c86_17 fr st k := rfl
def c86_11 : Code := .seq c86_12 c86_13
theorem e86_11 : evK gS fi86 c86_11 fr st k = evK gS fi86 c86_12 fr st (.seq c86_13 k) := rfl
def c86_19 : Code := codeN b86 23
theorem e86_19 : evK gS fi86 c86_19 fr st k = opsR gS fi86 [op1 16 (.fieldAddr 99 (.tmp 3) 2) 0,
 op1 17 (.load 24 (.tmp 16)) 24,
 op1 18 (.fieldAddr 99 (.tmp 4) 2) 0,
 op1 19 (.load 24 (.tmp 18)) 24,
 op1 20 (.call { callee := (.value (.func 75)), args := #[(.tmp 17), (.tmp 19)], argTypes := #[24, 24] }) 94,
 op1 15 (.move (.tmp 20)) 94,
 op1 21 (.extract (.tmp 15) 0) 3,
 op1 22 (.extract (.tmp 15) 1) 4,
 op1 7 (.assign (.tmp 21)) 3,
 op1 8 (.assign (.tmp 22)) 4] fr st k := evK_r 5 (by kernel_rfl)
def c86_21 : Code := codeN b86 47
theorem e86_21 : evK gS fi86 c86_21 fr st k = opsR gS fi86 [op1 23 (.move (.tmp 8)) 4,
 op1 24 (.move (.tmp 23)) 4,
 mk (some 25) (.move (.tmp 7)) 3 (some (1, true)),
 mk (some 26) (.move (.tmp 2)) 3 (some (1, true)),
 mk (some 27) (.binOp .eql 3 (.tmp 25) (.tmp 26) 3) 4 (some (1, true)),
 mk (some 28) (.move (.tmp 27)) 4 (some (1, true)),
 mk (some 29) (.move (.tmp 7)) 3 (some (5, false)),
 mk (some 30) (.binOp .eql 3 (.tmp 29) (.const (.int .i64 0)) 3) 4 (some (5, false)),
 mk (some 31) (.move (.tmp 30)) 4 (some (5, false)),
 mk (some 32) (.fieldAddr 99 (.tmp 4) 1) 0 (some (8, true)),
 mk (some 33) (.load 4 (.tmp 32)) 4 (some (8, true)),
 mk (some 34) (.unOp .not 4 (.tmp 33)) 4 (some (8, true)),
 mk (some 35) (.move (.tmp 34)) 4 (some (8, true)),
 mk (some 36) (.fieldAddr 99 (.tmp 3) 1) 0 (some (12, false)),
 mk (some 37) (.load 4 (.tmp 36)) 4 (some (12, false)),
 mk (some 38) (.pick (.tmp 35) (.const (.bool true)) (.tmp 37)) 4 (some (8, true)),
 mk (some 39) (.pick (.tmp 31) (.tmp 38) (.const (.bool false))) 4 (some (5, false)),
 mk (some 40) (.pick (.tmp 28) (.const (.bool true)) (.tmp 39)) 4 (some (1, true)),
 op1 41 (.pick (.tmp 24) (.tmp 40) (.const (.bool false))) 4,
 op1 6 (.assign (.tmp 41)) 4] fr st k := evK_r 6 (by kernel_rfl)
def c86_22 : Code := .ret
theorem e86_22 : evK gS fi86 c86_22 fr st k = nextK gS fi86 k .ret fr st := rfl
def c86_20 : Code := .seq c86_21 c86_22
theorem e86_20 : evK gS fi86 c86_20 fr st k = evK gS fi86 c86_21 fr st (.seq c86_22 k) := rfl
def c86_18 : Code := .seq c86_19 c86_20
theorem e86_18 : evK gS fi86 c86_18 fr st k = evK gS fi86 c86_19 fr st (.seq c86_20 k) := rfl
def c86_10 : Code := .seq c86_11 c86_18
theorem e86_10 : evK gS fi86 c86_10 fr st k = evK gS fi86 c86_11 fr st (.seq c86_18 k) := rfl
def c86_2 : Code := .seq c86_3 c86_10
theorem e86_2 : evK gS fi86 c86_2 fr st k = evK gS fi86 c86_3 fr st (.seq c86_10 k) := rfl
def c86_0 : Code := .seq c86_1 c86_2
theorem e86_0 : evK gS fi86 c86_0 fr st k = evK gS fi86 c86_1 fr st (.seq c86_2 k) := rfl
theorem m86 : mini fi86.body = c86_0 := by kernel_rfl
set_option maxHeartbeats 4000000 in
theorem c86 (q : PEnd) (p : PEnd) (t : Int)  (st : St) : EvF gS 86 [q.encP, p.encP, .int .i64 t] st = some (.ret (.bool (within q p t)) none, st) := by
  refine EvF_start fi86_eq (fun x h => by cases h) m86 ?_
  rw [st86]
  have hm : fi86.marks = [] := rfl
  have hl : fi86.locals = [3, 4] := rfl
  have hr : fi86.results = [.tmp 6] := rfl
  simp (config := { contextual := true, maxSteps := 10000000, maxDischargeDepth := 6 }) [-Int.not_le, -Int.not_lt, -Nat.not_le, -Nat.not_lt, ty3, ty4, ty24, ty99, eq24, hm, hl, hr, k75, e86_1, e86_4, e86_7, e86_8, e86_6, e86_9, e86_5, e86_3, e86_12, e86_15, e86_16, e86_14, e86_17, e86_13, e86_11, e86_19, e86_21, e86_22, e86_20, e86_18, e86_10, e86_2, e86_0]
  all_goals try simp (config := { contextual := true }) [-Int.not_le, -Int.not_lt, -Nat.not_le, -Nat.not_lt, within]
  all_goals first | done | grind | omega | (trace_state; fail)
theorem k86 (q_is : Bool) (q_op : Bool) (q_k : Int) (q_n : Int) (q_x : Nat) (q_s : List UInt8) (q_b : Bool) (p_is : Bool) (p_op : Bool) (p_k : Int) (p_n : Int) (p_x : Nat) (p_s : List UInt8) (p_b : Bool) (t : Int)  (fr : Fr) (st : St) : callStep gS (EvF gS) 86 [.agg [.bool q_is, .bool q_op, .int .i64 q_k, .int .i64 q_n, .float .f64 q_x, .str q_s, .bool q_b], .agg [.bool p_is, .bool p_op, .int .i64 p_k, .int .i64 p_n, .float .f64 p_x, .str p_s, .bool p_b], .int .i64 t] fr st = some (.ok (retE none (.bool (within (⟨q_is, q_op, ⟨q_k, q_n, q_x, q_s, q_b⟩⟩ : PEnd) (⟨p_is, p_op, ⟨p_k, p_n, p_x, p_s, p_b⟩⟩ : PEnd) t))) fr st) :=
  call_pure rfl fi86_eq rfl (fun st => c86 (⟨q_is, q_op, ⟨q_k, q_n, q_x, q_s, q_b⟩⟩ : PEnd) (⟨p_is, p_op, ⟨p_k, p_n, p_x, p_s, p_b⟩⟩ : PEnd) t  st) (by simp)
def fi88 : FI := { body := codeOf Try.f88, ntmps := 44, results := [.tmp 6], pers := [0, 1, 2, 3, 4, 6, 7, 8], locals := [3, 4], pure := true, marks := [] }
theorem fi88_eq : gS.fn 88 = some fi88 := by kernel_rfl
theorem st88 (a0 a1 a2 : V) : startFr fi88 [a0, a1, a2] = { ps := [(0, .val a0), (1, .val a1), (2, .val a2), (3, .any), (4, .any), (6, .any), (7, .any), (8, .any)], ts := [], lc := [] } := rfl
def b88 : Code := mini (codeOf Try.f88)
def c88_1 : Code := codeN b88 2
theorem e88_1 : evK gS fi88 c88_1 fr st k = opsR gS fi88 [op1 3 (.box 105 (.tmp 0)) 0,
 op1 4 (.box 105 (.tmp 1)) 0,
 op1 6 (.assign (.const (.bool false))) 4] fr st k := evK_r 0 (by kernel_rfl)
def c88_4 : Code := codeN b88 9
theorem e88_4 : evK gS fi88 c88_4 fr st k = opsR gS fi88 [op1 9 (.fieldAddr 105 (.tmp 4) 1) 0,
 op1 10 (.load 4 (.tmp 9)) 4,
 op1 11 (.unOp .not 4 (.tmp 10)) 4] fr st k := evK_r 1 (by kernel_rfl)
def c88_7 : Code := codeN b88 37
theorem e88_7 : evK gS fi88 c88_7 fr st k = opsR gS fi88 [op1 6 (.assign (.const (.bool true))) 4] fr st k := evK_r 2 (by kernel_rfl)
def c88_8 : Code := .ret
theorem e88_8 : evK gS fi88 c88_8 fr st k = nextK gS fi88 k .ret fr st := rfl
def c88_6 : Code := .seq c88_7 c88_8
theorem e88_6 : evK gS fi88 c88_6 fr st k = evK gS fi88 c88_7 fr st (.seq c88_8 k) := rfl
def c88_9 : Code := .skip
theorem e88_9 : evK gS fi88 c88_9 fr st k = nextK gS fi88 k .normal fr st := rfl
def c88_5 : Code := .cond (.tmp 11) c88_6 c88_9
theorem e88_5 : evK gS fi88 c88_5 fr st k = condK gS fi88 (fr.op (.tmp 11)).bool? c88_6 c88_9 fr st k := rfl
def c88_3 : Code := .seq c88_4 c88_5
theorem e88_3 : evK gS fi88 c88_3 fr st k = evK gS fi88 c88_4 fr st (.seq c88_5 k) := rfl
def c88_11 : Code := codeN b88 11
theorem e88_11 : evK gS fi88 c88_11 fr st k = opsR gS fi88 [op1 13 (.fieldAddr 105 (.tmp 3) 0) 0,
 op1 14 (.load 24 (.tmp 13)) 24,
 op1 15 (.fieldAddr 105 (.tmp 4) 0) 0,
 op1 16 (.load 24 (.tmp 15)) 24,
 op1 17 (.call { callee := (.value (.func 77)), args := #[(.tmp 14), (.tmp 16)], argTypes := #[24, 24] }) 94,
 op1 12 (.move (.tmp 17)) 94,
 op1 18 (.extract (.tmp 12) 0) 3,
 op1 19 (.extract (.tmp 12) 1) 4,
 op1 7 (.assign (.tmp 18)) 3,
 op1 8 (.assign (.tmp 19)) 4] fr st k := evK_r 3 (by kernel_rfl)
def c88_13 : Code := codeN b88 23
theorem e88_13 : evK gS fi88 c88_13 fr st k = opsR gS fi88 [op1 20 (.fieldAddr 105 (.tmp 3) 1) 0,
 op1 21 (.load 4 (.tmp 20)) 4,
 op1 22 (.move (.tmp 21)) 4,
 mk (some 23) (.move (.tmp 8)) 4 (some (2, true)),
 op1 24 (.pick (.tmp 22) (.tmp 23) (.const (.bool false))) 4,
 op1 25 (.move (.tmp 24)) 4,
 mk (some 26) (.move (.tmp 7)) 3 (some (5, true)),
 mk (some 27) (.move (.tmp 2)) 3 (some (5, true)),
 mk (some 28) (.binOp .mul 3 (.tmp 26) (.tmp 27) 3) 3 (some (5, true)),
 mk (some 29) (.binOp .gtr 3 (.tmp 28) (.const (.int .i64 0)) 3) 4 (some (5, true)),
 mk (some 30) (.move (.tmp 29)) 4 (some (5, true)),
 mk (some 31) (.move (.tmp 7)) 3 (some (10, false)),
 mk (some 32) (.binOp .eql 3 (.tmp 31) (.const (.int .i64 0)) 3) 4 (some (10, false)),
 mk (some 33) (.move (.tmp 32)) 4 (some (10, false)),
 mk (some 34) (.fieldAddr 105 (.tmp 4) 2) 0 (some (13, true)),
 mk (some 35) (.load 4 (.tmp 34)) 4 (some (13, true)),
 mk (some 36) (.unOp .not 4 (.tmp 35)) 4 (some (13, true)),
 mk (some 37) (.move (.tmp 36)) 4 (some (13, true)),
 mk (some 38) (.fieldAddr 105 (.tmp 3) 2) 0 (some (17, false)),
 mk (some 39) (.load 4 (.tmp 38)) 4 (some (17, false)),
 mk (some 40) (.pick (.tmp 37) (.const (.bool true)) (.tmp 39)) 4 (some (13, true)),
 mk (some 41) (.pick (.tmp 33) (.tmp 40) (.const (.bool false))) 4 (some (10, false)),
 mk (some 42) (.pick (.tmp 30) (.const (.bool true)) (.tmp 41)) 4 (some (5, true)),
 op1 43 (.pick (.tmp 25) (.tmp 42) (.const (.bool false))) 4,
 op1 6 (.assign (.tmp 43)) 4] fr st k := evK_r 4 (by kernel_rfl)
def c88_14 : Code := .ret
theorem e88_14 : evK gS fi88 c88_14 fr st k = nextK gS fi88 k .ret fr st := rfl
def c88_12 : Code := .seq c88_13 c88_14
theorem e88_12 : evK gS fi88 c88_12 fr st k = evK gS fi88 c88_13 fr st (.seq c88_14 k) := rfl
def c88_10 : Code := .seq c88_11 c88_12
theorem e88_10 : evK gS fi88 c88_10 fr st k = evK gS fi88 c88_11 fr st (.seq c88_12 k) := rfl
def c88_2 : Code := .seq c88_3 c88_10
theorem e88_2 : evK gS fi88 c88_2 fr st k = evK gS fi88 c88_3 fr st (.seq c88_10 k) := rfl
def c88_0 : Code := .seq c88_1 c88_2
theorem e88_0 : evK gS fi88 c88_0 fr st k = evK gS fi88 c88_1 fr st (.seq c88_2 k) := rfl
theorem m88 : mini fi88.body = c88_0 := by kernel_rfl
set_option maxHeartbeats 4000000 in
theorem c88 (q : PEnd) (p : PEnd) (t : Int) (ht : t = 1 ∨ t = -1) (st : St) : EvF gS 88 [q.encR, p.encR, .int .i64 t] st = some (.ret (.bool (within q p t)) none, st) := by
  refine EvF_start fi88_eq (fun x h => by cases h) m88 ?_
  rw [st88]
  have hm : fi88.marks = [] := rfl
  have hl : fi88.locals = [3, 4] := rfl
  have hr : fi88.results = [.tmp 6] := rfl
  simp (config := { contextual := true, maxSteps := 10000000, maxDischargeDepth := 6 }) [-Int.not_le, -Int.not_lt, -Nat.not_le, -Nat.not_lt, ty3, ty4, ty24, ty105, eq24, hm, hl, hr, k77, e88_1, e88_4, e88_7, e88_8, e88_6, e88_9, e88_5, e88_3, e88_11, e88_13, e88_14, e88_12, e88_10, e88_2, e88_0]
  all_goals try simp (config := { contextual := true }) [-Int.not_le, -Int.not_lt, -Nat.not_le, -Nat.not_lt, within]
  have w1 : IntKind.wrap .i64 1 = 1 := wrap64 (by omega) (by omega)
  have w0 : IntKind.wrap .i64 0 = 0 := wrap64 (by omega) (by omega)
  have w2 : IntKind.wrap .i64 (-1) = -1 := wrap64 (by omega) (by omega)
  rcases ht with rfl | rfl <;> rcases cmp_tri q.v p.v with e | e | e <;> simp [e, w1, w0, w2] <;> grind
theorem k88 (q_is : Bool) (q_op : Bool) (q_k : Int) (q_n : Int) (q_x : Nat) (q_s : List UInt8) (q_b : Bool) (p_is : Bool) (p_op : Bool) (p_k : Int) (p_n : Int) (p_x : Nat) (p_s : List UInt8) (p_b : Bool) (t : Int) (ht : t = 1 ∨ t = -1) (fr : Fr) (st : St) : callStep gS (EvF gS) 88 [.agg [.int .i64 q_k, .int .i64 q_n, .float .f64 q_x, .str q_s, .bool q_b, .bool q_is, .bool q_op], .agg [.int .i64 p_k, .int .i64 p_n, .float .f64 p_x, .str p_s, .bool p_b, .bool p_is, .bool p_op], .int .i64 t] fr st = some (.ok (retE none (.bool (within (⟨q_is, q_op, ⟨q_k, q_n, q_x, q_s, q_b⟩⟩ : PEnd) (⟨p_is, p_op, ⟨p_k, p_n, p_x, p_s, p_b⟩⟩ : PEnd) t))) fr st) :=
  call_pure rfl fi88_eq rfl (fun st => c88 (⟨q_is, q_op, ⟨q_k, q_n, q_x, q_s, q_b⟩⟩ : PEnd) (⟨p_is, p_op, ⟨p_k, p_n, p_x, p_s, p_b⟩⟩ : PEnd) t ht st) (by simp)
theorem x88 : gS.ext 88 = none := rfl
theorem p88 : fi88.pure = true := rfl
end
end Go.Proofs.Ytclpbfkbpcjejaa
