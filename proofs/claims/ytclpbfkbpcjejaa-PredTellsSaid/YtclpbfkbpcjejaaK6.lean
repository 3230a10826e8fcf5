/- Of any tests, right or not, and any value, what is right, taken, void, alike, and what implies what, is as the document says, whatever the input. Part 6. -/
import Derived.Test.YtclpbfkbpcjejaaK5
namespace Go.Proofs.Ytclpbfkbpcjejaa
open Go Go.Ab
set_option linter.unusedVariables false
set_option linter.unusedSimpArgs false
set_option linter.unnecessarySimpa false
set_option maxRecDepth 20000
noncomputable section
variable (fr : Fr) (st : St) (k : Kt)
def fi27 : FI := { body := codeOf Try.f27, ntmps := 141, results := [.tmp 4], pers := [0, 1, 2, 3, 4, 6, 7, 8, 9, 10, 11, 12, 47, 57, 58, 59, 117], locals := [2, 3, 6, 7, 8, 9, 10], pure := true, marks := [] }
theorem fi27_eq : gS.fn 27 = some fi27 := by kernel_rfl
theorem st27 (a0 a1 : V) : startFr fi27 [a0, a1] = { ps := [(0, .val a0), (1, .val a1), (2, .any), (3, .any), (4, .any), (6, .any), (7, .any), (8, .any), (9, .any), (10, .any), (11, .any), (12, .any), (47, .any), (57, .any), (58, .any), (59, .any), (117, .any)], ts := [], lc := [] } := rfl
def b27 : Code := mini (codeOf Try.f27)
def c27_1 : Code := codeN b27 2
theorem e27_1 : evK gS fi27 c27_1 fr st k = opsR gS fi27 [op1 2 (.box 27 (.tmp 0)) 0,
 op1 3 (.box 27 (.tmp 1)) 0,
 op1 4 (.assign (.const (.bool false))) 4] fr st k := evK_r 0 (by kernel_rfl)
def c27_4 : Code := codeN b27 9
theorem e27_4 : evK gS fi27 c27_4 fr st k = opsR gS fi27 [op1 13 (.load 27 (.tmp 2)) 27,
 op1 14 (.call { callee := (.value (.func 19)), args := #[(.tmp 13)], argTypes := #[27] }) 4,
 op1 15 (.unOp .not 4 (.tmp 14)) 4,
 op1 16 (.move (.tmp 15)) 4,
 mk (some 17) (.load 27 (.tmp 3)) 27 (some (3, false)),
 mk (some 18) (.call { callee := (.value (.func 19)), args := #[(.tmp 17)], argTypes := #[27] }) 4 (some (3, false)),
 mk (some 19) (.unOp .not 4 (.tmp 18)) 4 (some (3, false)),
 op1 20 (.pick (.tmp 16) (.const (.bool true)) (.tmp 19)) 4] fr st k := evK_r 1 (by kernel_rfl)
def c27_7 : Code := codeN b27 37
theorem e27_7 : evK gS fi27 c27_7 fr st k = opsR gS fi27 [op1 4 (.assign (.const (.bool false))) 4] fr st k := evK_r 2 (by kernel_rfl)
def c27_8 : Code := .ret
theorem e27_8 : evK gS fi27 c27_8 fr st k = nextK gS fi27 k .ret fr st := rfl
def c27_6 : Code := .seq c27_7 c27_8
theorem e27_6 : evK gS fi27 c27_6 fr st k = evK gS fi27 c27_7 fr st (.seq c27_8 k) := rfl
def c27_9 : Code := .skip
theorem e27_9 : evK gS fi27 c27_9 fr st k = nextK gS fi27 k .normal fr st := rfl
def c27_5 : Code := .cond (.tmp 20) c27_6 c27_9
theorem e27_5 : evK gS fi27 c27_5 fr st k = condK gS fi27 (fr.op (.tmp 20)).bool? c27_6 c27_9 fr st k := rfl
def c27_3 : Code := .seq c27_4 c27_5
theorem e27_3 : evK gS fi27 c27_3 fr st k = evK gS fi27 c27_4 fr st (.seq c27_5 k) := rfl
def c27_12 : Code := codeN b27 19
theorem e27_12 : evK gS fi27 c27_12 fr st k = opsR gS fi27 [op1 21 (.load 27 (.tmp 2)) 27,
 op1 22 (.call { callee := (.value (.func 23)), args := #[(.tmp 21)], argTypes := #[27] }) 4,
 op1 23 (.move (.tmp 22)) 4,
 mk (some 24) (.fieldAddr 27 (.tmp 3) 1) 0 (some (2, false)),
 mk (some 25) (.load 3 (.tmp 24)) 3 (some (2, false)),
 mk (some 26) (.binOp .eql 3 (.tmp 25) (.const (.int .i64 1)) 3) 4 (some (2, false)),
 op1 27 (.pick (.tmp 23) (.const (.bool true)) (.tmp 26)) 4] fr st k := evK_r 3 (by kernel_rfl)
def c27_15 : Code := codeN b27 75
theorem e27_15 : evK gS fi27 c27_15 fr st k = opsR gS fi27 [op1 4 (.assign (.const (.bool true))) 4] fr st k := evK_r 4 (by kernel_rfl)
def c27_16 : Code := .ret
theorem e27_16 : evK gS fi27 c27_16 fr st k = nextK gS fi27 k .ret fr st := rfl
def c27_14 : Code := .seq c27_15 c27_16
theorem e27_14 : evK gS fi27 c27_14 fr st k = evK gS fi27 c27_15 fr st (.seq c27_16 k) := rfl
def c27_17 : Code := .skip
theorem e27_17 : evK gS fi27 c27_17 fr st k = nextK gS fi27 k .normal fr st := rfl
def c27_13 : Code := .cond (.tmp 27) c27_14 c27_17
theorem e27_13 : evK gS fi27 c27_13 fr st k = condK gS fi27 (fr.op (.tmp 27)).bool? c27_14 c27_17 fr st k := rfl
def c27_11 : Code := .seq c27_12 c27_13
theorem e27_11 : evK gS fi27 c27_11 fr st k = evK gS fi27 c27_12 fr st (.seq c27_13 k) := rfl
def c27_20 : Code := codeN b27 39
theorem e27_20 : evK gS fi27 c27_20 fr st k = opsR gS fi27 [op1 28 (.fieldAddr 27 (.tmp 2) 1) 0,
 op1 29 (.load 3 (.tmp 28)) 3,
 op1 30 (.fieldAddr 27 (.tmp 3) 1) 0,
 op1 31 (.load 3 (.tmp 30)) 3,
 op1 32 (.binOp .eql 3 (.tmp 29) (.tmp 31) 3) 4,
 op1 33 (.move (.tmp 32)) 4,
 mk (some 34) (.load 27 (.tmp 2)) 27 (some (5, true)),
 mk (some 35) (.load 27 (.tmp 3)) 27 (some (5, true)),
 mk (some 36) (.call { callee := (.value (.func 84)), args := #[(.tmp 34), (.tmp 35)], argTypes := #[27, 27] }) 4 (some (5, true)),
 op1 37 (.pick (.tmp 33) (.tmp 36) (.const (.bool false))) 4] fr st k := evK_r 5 (by kernel_rfl)
def c27_23 : Code := codeN b27 151
theorem e27_23 : evK gS fi27 c27_23 fr st k = opsR gS fi27 [op1 4 (.assign (.const (.bool true))) 4] fr st k := evK_r 6 (by kernel_rfl)
def c27_24 : Code := .ret
theorem e27_24 : evK gS fi27 c27_24 fr st k = nextK gS fi27 k .ret fr st := rfl
def c27_22 : Code := .seq c27_23 c27_24
theorem e27_22 : evK gS fi27 c27_22 fr st k = evK gS fi27 c27_23 fr st (.seq c27_24 k) := rfl
def c27_25 : Code := .skip
theorem e27_25 : evK gS fi27 c27_25 fr st k = nextK gS fi27 k .normal fr st := rfl
def c27_21 : Code := .cond (.tmp 37) c27_22 c27_25
theorem e27_21 : evK gS fi27 c27_21 fr st k = condK gS fi27 (fr.op (.tmp 37)).bool? c27_22 c27_25 fr st k := rfl
def c27_19 : Code := .seq c27_20 c27_21
theorem e27_19 : evK gS fi27 c27_19 fr st k = evK gS fi27 c27_20 fr st (.seq c27_21 k) := rfl
def c27_28 : Code := codeN b27 79
theorem e27_28 : evK gS fi27 c27_28 fr st k = opsR gS fi27 [op1 38 (.fieldAddr 27 (.tmp 3) 1) 0,
 op1 39 (.load 3 (.tmp 38)) 3,
 op1 40 (.binOp .eql 3 (.tmp 39) (.const (.int .i64 3)) 3) 4] fr st k := evK_r 7 (by kernel_rfl)
def c27_31 : Code := codeN b27 303
theorem e27_31 : evK gS fi27 c27_31 fr st k = opsR gS fi27 [op1 41 (.load 27 (.tmp 2)) 27,
 op1 42 (.fieldAddr 27 (.tmp 3) 2) 0,
 op1 43 (.load 24 (.tmp 42)) 24,
 op1 44 (.call { callee := (.value (.func 21)), args := #[(.tmp 41), (.tmp 43)], argTypes := #[27, 24] }) 4,
 op1 45 (.unOp .not 4 (.tmp 44)) 4,
 op1 4 (.assign (.tmp 45)) 4] fr st k := evK_r 8 (by kernel_rfl)
def c27_32 : Code := .ret
theorem e27_32 : evK gS fi27 c27_32 fr st k = nextK gS fi27 k .ret fr st := rfl
def c27_30 : Code := .seq c27_31 c27_32
theorem e27_30 : evK gS fi27 c27_30 fr st k = evK gS fi27 c27_31 fr st (.seq c27_32 k) := rfl
def c27_33 : Code := .skip
theorem e27_33 : evK gS fi27 c27_33 fr st k = nextK gS fi27 k .normal fr st := rfl
def c27_29 : Code := .cond (.tmp 40) c27_30 c27_33
theorem e27_29 : evK gS fi27 c27_29 fr st k = condK gS fi27 (fr.op (.tmp 40)).bool? c27_30 c27_33 fr st k := rfl
def c27_27 : Code := .seq c27_28 c27_29
theorem e27_27 : evK gS fi27 c27_27 fr st k = evK gS fi27 c27_28 fr st (.seq c27_29 k) := rfl
def c27_36 : Code := codeN b27 159
theorem e27_36 : evK gS fi27 c27_36 fr st k = opsR gS fi27 [op1 46 (.fieldAddr 27 (.tmp 2) 1) 0,
 op1 47 (.load 3 (.tmp 46)) 3] fr st k := evK_r 9 (by kernel_rfl)
def c27_39 : Code := codeN b27 607
theorem e27_39 : evK gS fi27 c27_39 fr st k = opsR gS fi27 [op1 49 (.binOp .eql 3 (.tmp 47) (.const (.int .i64 2)) 3) 4,
 op1 48 (.assign (.tmp 49)) 4] fr st k := evK_r 10 (by kernel_rfl)
def c27_42 : Code := codeN b27 2399
theorem e27_42 : evK gS fi27 c27_42 fr st k = opsR gS fi27 [op1 50 (.load 27 (.tmp 3)) 27,
 op1 51 (.fieldAddr 27 (.tmp 2) 2) 0,
 op1 52 (.load 24 (.tmp 51)) 24,
 op1 53 (.call { callee := (.value (.func 21)), args := #[(.tmp 50), (.tmp 52)], argTypes := #[27, 24] }) 4,
 op1 4 (.assign (.tmp 53)) 4] fr st k := evK_r 11 (by kernel_rfl)
def c27_43 : Code := .ret
theorem e27_43 : evK gS fi27 c27_43 fr st k = nextK gS fi27 k .ret fr st := rfl
def c27_41 : Code := .seq c27_42 c27_43
theorem e27_41 : evK gS fi27 c27_41 fr st k = evK gS fi27 c27_42 fr st (.seq c27_43 k) := rfl
def c27_45 : Code := codeN b27 2911
theorem e27_45 : evK gS fi27 c27_45 fr st k = opsR gS fi27 [op1 55 (.binOp .eql 3 (.tmp 47) (.const (.int .i64 10)) 3) 4,
 op1 54 (.assign (.tmp 55)) 4] fr st k := evK_r 12 (by kernel_rfl)
def c27_49 : Code := codeN b27 18271
theorem e27_49 : evK gS fi27 c27_49 fr st k = opsR gS fi27 [op1 56 (.fieldAddr 27 (.tmp 2) 4) 0,
 op1 57 (.load 25 (.tmp 56)) 25,
 op1 58 (.call { callee := (.builtin .len), args := #[(.tmp 57)], argTypes := #[25] }) 3,
 op1 59 (.move (.const (.int .i64 0))) 3] fr st k := evK_r 13 (by kernel_rfl)
def c27_53 : Code := codeN b27 141151
theorem e27_53 : evK gS fi27 c27_53 fr st k = opsR gS fi27 [op1 60 (.binOp .lss 3 (.tmp 59) (.tmp 58) 3) 0] fr st k := evK_r 14 (by kernel_rfl)
def c27_56 : Code := .skip
theorem e27_56 : evK gS fi27 c27_56 fr st k = nextK gS fi27 k .normal fr st := rfl
def c27_57 : Code := .exit 1
theorem e27_57 : evK gS fi27 c27_57 fr st k = nextK gS fi27 k (.exit 1) fr st := rfl
def c27_55 : Code := .cond (.tmp 60) c27_56 c27_57
theorem e27_55 : evK gS fi27 c27_55 fr st k = condK gS fi27 (fr.op (.tmp 60)).bool? c27_56 c27_57 fr st k := rfl
def c27_61 : Code := codeN b27 2303839
theorem e27_61 : evK gS fi27 c27_61 fr st k = opsR gS fi27 [op1 61 (.indexAddr 25 (.tmp 57) (.tmp 59)) 0,
 op1 62 (.load 24 (.tmp 61)) 24,
 op1 6 (.alloc 24) 0,
 mk none (.store 24 (.tmp 6) (.tmp 62)) 0 none] fr st k := evK_r 15 (by kernel_rfl)
def c27_63 : Code := codeN b27 5449567
theorem e27_63 : evK gS fi27 c27_63 fr st k = opsR gS fi27 [op1 63 (.load 24 (.tmp 6)) 24,
 op1 64 (.call { callee := (.value (.func 80)), args := #[(.tmp 63)], argTypes := #[24] }) 4,
 op1 65 (.unOp .not 4 (.tmp 64)) 4,
 op1 66 (.move (.tmp 65)) 4,
 mk (some 67) (.load 27 (.tmp 3)) 27 (some (3, true)),
 mk (some 68) (.load 24 (.tmp 6)) 24 (some (3, true)),
 mk (some 69) (.call { callee := (.value (.func 21)), args := #[(.tmp 67), (.tmp 68)], argTypes := #[27, 24] }) 4 (some (3, true)),
 mk (some 70) (.unOp .not 4 (.tmp 69)) 4 (some (3, true)),
 op1 71 (.pick (.tmp 66) (.tmp 70) (.const (.bool false))) 4] fr st k := evK_r 16 (by kernel_rfl)
def c27_66 : Code := codeN b27 20129631
theorem e27_66 : evK gS fi27 c27_66 fr st k = opsR gS fi27 [op1 4 (.assign (.const (.bool false))) 4] fr st k := evK_r 17 (by kernel_rfl)
def c27_67 : Code := .ret
theorem e27_67 : evK gS fi27 c27_67 fr st k = nextK gS fi27 k .ret fr st := rfl
def c27_65 : Code := .seq c27_66 c27_67
theorem e27_65 : evK gS fi27 c27_65 fr st k = evK gS fi27 c27_66 fr st (.seq c27_67 k) := rfl
def c27_68 : Code := .skip
theorem e27_68 : evK gS fi27 c27_68 fr st k = nextK gS fi27 k .normal fr st := rfl
def c27_64 : Code := .cond (.tmp 71) c27_65 c27_68
theorem e27_64 : evK gS fi27 c27_64 fr st k = condK gS fi27 (fr.op (.tmp 71)).bool? c27_65 c27_68 fr st k := rfl
def c27_62 : Code := .seq c27_63 c27_64
theorem e27_62 : evK gS fi27 c27_62 fr st k = evK gS fi27 c27_63 fr st (.seq c27_64 k) := rfl
def c27_60 : Code := .seq c27_61 c27_62
theorem e27_60 : evK gS fi27 c27_60 fr st k = evK gS fi27 c27_61 fr st (.seq c27_62 k) := rfl
def c27_59 : Code := .block 2 c27_60
theorem e27_59 : evK gS fi27 c27_59 fr st k = evK gS fi27 c27_60 fr st (.blk 2 k) := rfl
def c27_69 : Code := codeN b27 993119
theorem e27_69 : evK gS fi27 c27_69 fr st k = opsR gS fi27 [op1 72 (.binOp .add 3 (.tmp 59) (.const (.int .i64 1)) 3) 3,
 op1 59 (.move (.tmp 72)) 3] fr st k := evK_r 18 (by kernel_rfl)
def c27_58 : Code := .seq c27_59 c27_69
theorem e27_58 : evK gS fi27 c27_58 fr st k = evK gS fi27 c27_59 fr st (.seq c27_69 k) := rfl
def c27_54 : Code := .seq c27_55 c27_58
theorem e27_54 : evK gS fi27 c27_54 fr st k = evK gS fi27 c27_55 fr st (.seq c27_58 k) := rfl
def c27_52 : Code := .seq c27_53 c27_54
theorem e27_52 : evK gS fi27 c27_52 fr st k = evK gS fi27 c27_53 fr st (.seq c27_54 k) := rfl
def c27_51 : Code := .loop c27_52
def c27_50 : Code := .block 1 c27_51
theorem e27_50 : evK gS fi27 c27_50 fr st k = evK gS fi27 c27_51 fr st (.blk 1 k) := rfl
def c27_48 : Code := .seq c27_49 c27_50
theorem e27_48 : evK gS fi27 c27_48 fr st k = evK gS fi27 c27_49 fr st (.seq c27_50 k) := rfl
def c27_71 : Code := codeN b27 22367
theorem e27_71 : evK gS fi27 c27_71 fr st k = opsR gS fi27 [op1 4 (.assign (.const (.bool true))) 4] fr st k := evK_r 19 (by kernel_rfl)
def c27_72 : Code := .ret
theorem e27_72 : evK gS fi27 c27_72 fr st k = nextK gS fi27 k .ret fr st := rfl
def c27_70 : Code := .seq c27_71 c27_72
theorem e27_70 : evK gS fi27 c27_70 fr st k = evK gS fi27 c27_71 fr st (.seq c27_72 k) := rfl
def c27_47 : Code := .seq c27_48 c27_70
theorem e27_47 : evK gS fi27 c27_47 fr st k = evK gS fi27 c27_48 fr st (.seq c27_70 k) := rfl
def c27_73 : Code := .skip
theorem e27_73 : evK gS fi27 c27_73 fr st k = nextK gS fi27 k .normal fr st := rfl
def c27_46 : Code := .cond (.tmp 54) c27_47 c27_73
theorem e27_46 : evK gS fi27 c27_46 fr st k = condK gS fi27 (fr.op (.tmp 54)).bool? c27_47 c27_73 fr st k := rfl
def c27_44 : Code := .seq c27_45 c27_46
theorem e27_44 : evK gS fi27 c27_44 fr st k = evK gS fi27 c27_45 fr st (.seq c27_46 k) := rfl
def c27_40 : Code := .cond (.tmp 48) c27_41 c27_44
theorem e27_40 : evK gS fi27 c27_40 fr st k = condK gS fi27 (fr.op (.tmp 48)).bool? c27_41 c27_44 fr st k := rfl
def c27_38 : Code := .seq c27_39 c27_40
theorem e27_38 : evK gS fi27 c27_38 fr st k = evK gS fi27 c27_39 fr st (.seq c27_40 k) := rfl
def c27_37 : Code := .block 0 c27_38
theorem e27_37 : evK gS fi27 c27_37 fr st k = evK gS fi27 c27_38 fr st (.blk 0 k) := rfl
def c27_35 : Code := .seq c27_36 c27_37
theorem e27_35 : evK gS fi27 c27_35 fr st k = evK gS fi27 c27_36 fr st (.seq c27_37 k) := rfl
def c27_75 : Code := codeN b27 191
theorem e27_75 : evK gS fi27 c27_75 fr st k = opsR gS fi27 [op1 74 (.load 27 (.tmp 2)) 27,
 op1 75 (.call { callee := (.value (.func 85)), args := #[(.tmp 74)], argTypes := #[27] }) 100,
 op1 73 (.move (.tmp 75)) 100,
 op1 76 (.extract (.tmp 73) 0) 99,
 op1 77 (.extract (.tmp 73) 1) 99,
 op1 7 (.alloc 99) 0,
 op1 8 (.alloc 99) 0,
 mk none (.store 99 (.tmp 7) (.tmp 76)) 0 none,
 mk none (.store 99 (.tmp 8) (.tmp 77)) 0 none] fr st k := evK_r 20 (by kernel_rfl)
def c27_77 : Code := codeN b27 383
theorem e27_77 : evK gS fi27 c27_77 fr st k = opsR gS fi27 [op1 79 (.load 27 (.tmp 3)) 27,
 op1 80 (.call { callee := (.value (.func 85)), args := #[(.tmp 79)], argTypes := #[27] }) 100,
 op1 78 (.move (.tmp 80)) 100,
 op1 81 (.extract (.tmp 78) 0) 99,
 op1 82 (.extract (.tmp 78) 1) 99,
 op1 9 (.alloc 99) 0,
 op1 10 (.alloc 99) 0,
 mk none (.store 99 (.tmp 9) (.tmp 81)) 0 none,
 mk none (.store 99 (.tmp 10) (.tmp 82)) 0 none] fr st k := evK_r 21 (by kernel_rfl)
def c27_80 : Code := codeN b27 1279
theorem e27_80 : evK gS fi27 c27_80 fr st k = opsR gS fi27 [op1 83 (.fieldAddr 99 (.tmp 7) 0) 0,
 op1 84 (.load 4 (.tmp 83)) 4,
 op1 85 (.move (.tmp 84)) 4,
 mk (some 86) (.fieldAddr 99 (.tmp 8) 0) 0 (some (2, false)),
 mk (some 87) (.load 4 (.tmp 86)) 4 (some (2, false)),
 op1 88 (.pick (.tmp 85) (.const (.bool true)) (.tmp 87)) 4,
 op1 89 (.move (.tmp 88)) 4,
 mk (some 90) (.fieldAddr 99 (.tmp 9) 0) 0 (some (6, true)),
 mk (some 91) (.load 4 (.tmp 90)) 4 (some (6, true)),
 mk (some 92) (.move (.tmp 91)) 4 (some (6, true)),
 mk (some 93) (.fieldAddr 99 (.tmp 10) 0) 0 (some (9, false)),
 mk (some 94) (.load 4 (.tmp 93)) 4 (some (9, false)),
 mk (some 95) (.pick (.tmp 92) (.const (.bool true)) (.tmp 94)) 4 (some (6, true)),
 op1 96 (.pick (.tmp 89) (.tmp 95) (.const (.bool false))) 4] fr st k := evK_r 22 (by kernel_rfl)
def c27_83 : Code := codeN b27 4863
theorem e27_83 : evK gS fi27 c27_83 fr st k = opsR gS fi27 [op1 97 (.load 99 (.tmp 7)) 99,
 op1 98 (.load 99 (.tmp 9)) 99,
 op1 99 (.call { callee := (.value (.func 86)), args := #[(.tmp 97), (.tmp 98), (.const (.int .i64 1))], argTypes := #[99, 99, 3] }) 4,
 op1 100 (.move (.tmp 99)) 4,
 mk (some 101) (.load 99 (.tmp 8)) 99 (some (3, true)),
 mk (some 102) (.load 99 (.tmp 10)) 99 (some (3, true)),
 mk (some 103) (.call { callee := (.value (.func 86)), args := #[(.tmp 101), (.tmp 102), (.const (.int .i64 (-1)))], argTypes := #[99, 99, 3] }) 4 (some (3, true)),
 op1 104 (.pick (.tmp 100) (.tmp 103) (.const (.bool false))) 4,
 op1 4 (.assign (.tmp 104)) 4] fr st k := evK_r 23 (by kernel_rfl)
def c27_84 : Code := .ret
theorem e27_84 : evK gS fi27 c27_84 fr st k = nextK gS fi27 k .ret fr st := rfl
def c27_82 : Code := .seq c27_83 c27_84
theorem e27_82 : evK gS fi27 c27_82 fr st k = evK gS fi27 c27_83 fr st (.seq c27_84 k) := rfl
def c27_85 : Code := .skip
theorem e27_85 : evK gS fi27 c27_85 fr st k = nextK gS fi27 k .normal fr st := rfl
def c27_81 : Code := .cond (.tmp 96) c27_82 c27_85
theorem e27_81 : evK gS fi27 c27_81 fr st k = condK gS fi27 (fr.op (.tmp 96)).bool? c27_82 c27_85 fr st k := rfl
def c27_79 : Code := .seq c27_80 c27_81
theorem e27_79 : evK gS fi27 c27_79 fr st k = evK gS fi27 c27_80 fr st (.seq c27_81 k) := rfl
def c27_88 : Code := codeN b27 2559
theorem e27_88 : evK gS fi27 c27_88 fr st k = opsR gS fi27 [op1 105 (.fieldAddr 27 (.tmp 2) 1) 0,
 op1 106 (.load 3 (.tmp 105)) 3,
 op1 107 (.binOp .neq 3 (.tmp 106) (.const (.int .i64 9)) 3) 4] fr st k := evK_r 24 (by kernel_rfl)
def c27_91 : Code := codeN b27 9727
theorem e27_91 : evK gS fi27 c27_91 fr st k = opsR gS fi27 [op1 4 (.assign (.const (.bool false))) 4] fr st k := evK_r 25 (by kernel_rfl)
def c27_92 : Code := .ret
theorem e27_92 : evK gS fi27 c27_92 fr st k = nextK gS fi27 k .ret fr st := rfl
def c27_90 : Code := .seq c27_91 c27_92
theorem e27_90 : evK gS fi27 c27_90 fr st k = evK gS fi27 c27_91 fr st (.seq c27_92 k) := rfl
def c27_93 : Code := .skip
theorem e27_93 : evK gS fi27 c27_93 fr st k = nextK gS fi27 k .normal fr st := rfl
def c27_89 : Code := .cond (.tmp 107) c27_90 c27_93
theorem e27_89 : evK gS fi27 c27_89 fr st k = condK gS fi27 (fr.op (.tmp 107)).bool? c27_90 c27_93 fr st k := rfl
def c27_87 : Code := .seq c27_88 c27_89
theorem e27_87 : evK gS fi27 c27_87 fr st k = evK gS fi27 c27_88 fr st (.seq c27_89 k) := rfl
def c27_95 : Code := codeN b27 3071
theorem e27_95 : evK gS fi27 c27_95 fr st k = opsR gS fi27 [op1 109 (.fieldAddr 27 (.tmp 2) 2) 0,
 op1 110 (.load 24 (.tmp 109)) 24,
 op1 111 (.fieldAddr 27 (.tmp 3) 2) 0,
 op1 112 (.load 24 (.tmp 111)) 24,
 op1 113 (.call { callee := (.value (.func 75)), args := #[(.tmp 110), (.tmp 112)], argTypes := #[24, 24] }) 94,
 op1 108 (.move (.tmp 113)) 94,
 op1 114 (.extract (.tmp 108) 0) 3,
 op1 115 (.extract (.tmp 108) 1) 4,
 op1 11 (.assign (.tmp 114)) 3,
 op1 12 (.assign (.tmp 115)) 4] fr st k := evK_r 26 (by kernel_rfl)
def c27_98 : Code := codeN b27 10239
theorem e27_98 : evK gS fi27 c27_98 fr st k = opsR gS fi27 [op1 116 (.fieldAddr 27 (.tmp 3) 1) 0,
 op1 117 (.load 3 (.tmp 116)) 3] fr st k := evK_r 27 (by kernel_rfl)
def c27_101 : Code := codeN b27 38911
theorem e27_101 : evK gS fi27 c27_101 fr st k = opsR gS fi27 [op1 119 (.binOp .eql 3 (.tmp 117) (.const (.int .i64 9)) 3) 4,
 op1 118 (.assign (.tmp 119)) 4] fr st k := evK_r 28 (by kernel_rfl)
def c27_104 : Code := codeN b27 153599
theorem e27_104 : evK gS fi27 c27_104 fr st k = opsR gS fi27 [op1 120 (.fieldAddr 27 (.tmp 2) 2) 0,
 op1 121 (.fieldAddr 24 (.tmp 120) 3) 0,
 op1 122 (.load 9 (.tmp 121)) 9,
 op1 123 (.fieldAddr 27 (.tmp 3) 2) 0,
 op1 124 (.fieldAddr 24 (.tmp 123) 3) 0,
 op1 125 (.load 9 (.tmp 124)) 9,
 op1 126 (.call { callee := (.value (.func 76)), args := #[(.tmp 122), (.tmp 125)], argTypes := #[9, 9] }) 4,
 op1 4 (.assign (.tmp 126)) 4] fr st k := evK_r 29 (by kernel_rfl)
def c27_105 : Code := .ret
theorem e27_105 : evK gS fi27 c27_105 fr st k = nextK gS fi27 k .ret fr st := rfl
def c27_103 : Code := .seq c27_104 c27_105
theorem e27_103 : evK gS fi27 c27_103 fr st k = evK gS fi27 c27_104 fr st (.seq c27_105 k) := rfl
def c27_107 : Code := codeN b27 186367
theorem e27_107 : evK gS fi27 c27_107 fr st k = opsR gS fi27 [op1 128 (.binOp .eql 3 (.tmp 117) (.const (.int .i64 7)) 3) 4,
 op1 127 (.assign (.tmp 128)) 4] fr st k := evK_r 30 (by kernel_rfl)
def c27_110 : Code := codeN b27 645119
theorem e27_110 : evK gS fi27 c27_110 fr st k = opsR gS fi27 [op1 129 (.move (.tmp 12)) 4,
 op1 130 (.move (.tmp 129)) 4,
 mk (some 131) (.move (.tmp 11)) 3 (some (1, true)),
 mk (some 132) (.binOp .geq 3 (.tmp 131) (.const (.int .i64 0)) 3) 4 (some (1, true)),
 op1 133 (.pick (.tmp 130) (.tmp 132) (.const (.bool false))) 4,
 op1 4 (.assign (.tmp 133)) 4] fr st k := evK_r 31 (by kernel_rfl)
def c27_111 : Code := .ret
theorem e27_111 : evK gS fi27 c27_111 fr st k = nextK gS fi27 k .ret fr st := rfl
def c27_109 : Code := .seq c27_110 c27_111
theorem e27_109 : evK gS fi27 c27_109 fr st k = evK gS fi27 c27_110 fr st (.seq c27_111 k) := rfl
def c27_113 : Code := codeN b27 776191
theorem e27_113 : evK gS fi27 c27_113 fr st k = opsR gS fi27 [op1 135 (.binOp .eql 3 (.tmp 117) (.const (.int .i64 6)) 3) 4,
 op1 134 (.assign (.tmp 135)) 4] fr st k := evK_r 32 (by kernel_rfl)
def c27_116 : Code := codeN b27 2611199
theorem e27_116 : evK gS fi27 c27_116 fr st k = opsR gS fi27 [op1 136 (.move (.tmp 12)) 4,
 op1 137 (.move (.tmp 136)) 4,
 mk (some 138) (.move (.tmp 11)) 3 (some (1, true)),
 mk (some 139) (.binOp .gtr 3 (.tmp 138) (.const (.int .i64 0)) 3) 4 (some (1, true)),
 op1 140 (.pick (.tmp 137) (.tmp 139) (.const (.bool false))) 4,
 op1 4 (.assign (.tmp 140)) 4] fr st k := evK_r 33 (by kernel_rfl)
def c27_117 : Code := .ret
theorem e27_117 : evK gS fi27 c27_117 fr st k = nextK gS fi27 k .ret fr st := rfl
def c27_115 : Code := .seq c27_116 c27_117
theorem e27_115 : evK gS fi27 c27_115 fr st k = evK gS fi27 c27_116 fr st (.seq c27_117 k) := rfl
def c27_118 : Code := .skip
theorem e27_118 : evK gS fi27 c27_118 fr st k = nextK gS fi27 k .normal fr st := rfl
def c27_114 : Code := .cond (.tmp 134) c27_115 c27_118
theorem e27_114 : evK gS fi27 c27_114 fr st k = condK gS fi27 (fr.op (.tmp 134)).bool? c27_115 c27_118 fr st k := rfl
def c27_112 : Code := .seq c27_113 c27_114
theorem e27_112 : evK gS fi27 c27_112 fr st k = evK gS fi27 c27_113 fr st (.seq c27_114 k) := rfl
def c27_108 : Code := .cond (.tmp 127) c27_109 c27_112
theorem e27_108 : evK gS fi27 c27_108 fr st k = condK gS fi27 (fr.op (.tmp 127)).bool? c27_109 c27_112 fr st k := rfl
def c27_106 : Code := .seq c27_107 c27_108
theorem e27_106 : evK gS fi27 c27_106 fr st k = evK gS fi27 c27_107 fr st (.seq c27_108 k) := rfl
def c27_102 : Code := .cond (.tmp 118) c27_103 c27_106
theorem e27_102 : evK gS fi27 c27_102 fr st k = condK gS fi27 (fr.op (.tmp 118)).bool? c27_103 c27_106 fr st k := rfl
def c27_100 : Code := .seq c27_101 c27_102
theorem e27_100 : evK gS fi27 c27_100 fr st k = evK gS fi27 c27_101 fr st (.seq c27_102 k) := rfl
def c27_99 : Code := .block 3 c27_100
theorem e27_99 : evK gS fi27 c27_99 fr st k = evK gS fi27 c27_100 fr st (.blk 3 k) := rfl
def c27_97 : Code := .seq c27_98 c27_99
theorem e27_97 : evK gS fi27 c27_97 fr st k = evK gS fi27 c27_98 fr st (.seq c27_99 k) := rfl
def c27_120 : Code := codeN b27 12287
theorem e27_120 : evK gS fi27 c27_120 fr st k = opsR gS fi27 [op1 4 (.assign (.const (.bool false))) 4] fr st k := evK_r 34 (by kernel_rfl)
def c27_121 : Code := .ret
theorem e27_121 : evK gS fi27 c27_121 fr st k = nextK gS fi27 k .ret fr st := rfl
def c27_119 : Code := .seq c27_120 c27_121
theorem e27_119 : evK gS fi27 c27_119 fr st k = evK gS fi27 c27_120 fr st (.seq c27_121 k) := rfl
def c27_96 : Code := .seq c27_97 c27_119
theorem e27_96 : evK gS fi27 c27_96 fr st k = evK gS fi27 c27_97 fr st (.seq c27_119 k) := rfl
def c27_94 : Code := .seq c27_95 c27_96
theorem e27_94 : evK gS fi27 c27_94 fr st k = evK gS fi27 c27_95 fr st (.seq c27_96 k) := rfl
def c27_86 : Code := .seq c27_87 c27_94
theorem e27_86 : evK gS fi27 c27_86 fr st k = evK gS fi27 c27_87 fr st (.seq c27_94 k) := rfl
def c27_78 : Code := .seq c27_79 c27_86
theorem e27_78 : evK gS fi27 c27_78 fr st k = evK gS fi27 c27_79 fr st (.seq c27_86 k) := rfl
def c27_76 : Code := .seq c27_77 c27_78
theorem e27_76 : evK gS fi27 c27_76 fr st k = evK gS fi27 c27_77 fr st (.seq c27_78 k) := rfl
def c27_74 : Code := .seq c27_75 c27_76
theorem e27_74 : evK gS fi27 c27_74 fr st k = evK gS fi27 c27_75 fr st (.seq c27_76 k) := rfl
def c27_34 : Code := .seq c27_35 c27_74
theorem e27_34 : evK gS fi27 c27_34 fr st k = evK gS fi27 c27_35 fr st (.seq c27_74 k) := rfl
def c27_26 : Code := .seq c27_27 c27_34
theorem e27_26 : evK gS fi27 c27_26 fr st k = evK gS fi27 c27_27 fr st (.seq c27_34 k) := rfl
def c27_18 : Code := .seq c27_19 c27_26
theorem e27_18 : evK gS fi27 c27_18 fr st k = evK gS fi27 c27_19 fr st (.seq c27_26 k) := rfl
def c27_10 : Code := .seq c27_11 c27_18
theorem e27_10 : evK gS fi27 c27_10 fr st k = evK gS fi27 c27_11 fr st (.seq c27_18 k) := rfl
def c27_2 : Code := .seq c27_3 c27_10
theorem e27_2 : evK gS fi27 c27_2 fr st k = evK gS fi27 c27_3 fr st (.seq c27_10 k) := rfl
def c27_0 : Code := .seq c27_1 c27_2
theorem e27_0 : evK gS fi27 c27_0 fr st k = evK gS fi27 c27_1 fr st (.seq c27_2 k) := rfl
theorem m27 : mini fi27.body = c27_0 := by kernel_rfl
theorem n27_51 (fr : Fr) (st : St) (k : Kt) : nextK gS fi27 (.loop c27_52 k) .normal fr st = evK gS fi27 c27_51 fr st k := rfl
set_option maxHeartbeats 4000000 in
theorem L27_51 (q : Pred) (p : Pred) (h_q : q.ok) (h_p : p.ok) (st : St) : ∀ (n i : Nat) (j : Int)  (e0 e1 e2 e4 e6 e7 e8 e9 e10 e11 e12 e47 e117 : E) (T : List (Nat × E)) (X : List (Nat × List V)) (ht0 : e0.Tame) (ht1 : e1.Tame) (ht2 : e2.Tame) (ht4 : e4.Tame) (ht6 : e6.Tame) (ht7 : e7.Tame) (ht8 : e8.Tame) (ht9 : e9.Tame) (ht10 : e10.Tame) (ht11 : e11.Tame) (ht12 : e12.Tame) (ht47 : e47.Tame) (ht117 : e117.Tame) (hx3 : lk X 3 = some [.str p.name, .int .i64 p.test, .int .i64 p.v.kind, .int .i64 p.v.n, .float .f64 p.v.x, .str p.v.s, .bool p.v.b, .int .i64 p.w.kind, .int .i64 p.w.n, .float .f64 p.w.x, .str p.w.s, .bool p.w.b, .slice (encVals p.set)]) , j = (i : Int) → i ≤ (q.set).length → (q.set).length - i = n →
    evK gS fi27 c27_51 { ps := [(0, e0), (1, e1), (2, e2), (3, .lp 3 0), (4, e4), (6, e6), (7, e7), (8, e8), (9, e9), (10, e10), (11, e11), (12, e12), (47, e47), (57, .val (.slice (encVals q.set))), (58, .val (.int .i64 q.set.length)), (59, .val (.int .i64 j)), (117, e117)], ts := T, lc := X } st (.blk 1 (.seq c27_70 (.blk 0 (.seq c27_74 .nil)))) = some ((.ret (.bool ((q.set.drop i).all (fun v => vnan v || ptakes p v))) none), st) := by
  intro n
  have hm : fi27.marks = [] := rfl
  have hl : fi27.locals = [2, 3, 6, 7, 8, 9, 10] := rfl
  have hr : fi27.results = [.tmp 4] := rfl
  have hpo := h_q.2
  induction n with
  | zero =>
    intro i j  e0 e1 e2 e4 e6 e7 e8 e9 e10 e11 e12 e47 e117 T X ht0 ht1 ht2 ht4 ht6 ht7 ht8 ht9 ht10 ht11 ht12 ht47 ht117 hx3  hj hi hn
    obtain rfl : i = (q.set).length := by omega
    subst hj
    refine evK_loop c27_52 _ st _ _ rfl ?_
    simp (config := { contextual := true, maxSteps := 10000000, maxDischargeDepth := 6 }) [-Int.not_le, -Int.not_lt, -Nat.not_le, -Nat.not_lt, ty3, ty4, ty9, ty24, ty25, ty27, ty99, eq24, hm, hl, hr, k19, k21, k23, k75, k76, k80, k84, k85, k86, e27_1, e27_4, e27_7, e27_8, e27_6, e27_9, e27_5, e27_3, e27_12, e27_15, e27_16, e27_14, e27_17, e27_13, e27_11, e27_20, e27_23, e27_24, e27_22, e27_25, e27_21, e27_19, e27_28, e27_31, e27_32, e27_30, e27_33, e27_29, e27_27, e27_36, e27_39, e27_42, e27_43, e27_41, e27_45, e27_49, e27_53, e27_56, e27_57, e27_55, e27_61, e27_63, e27_66, e27_67, e27_65, e27_68, e27_64, e27_62, e27_60, e27_59, e27_69, e27_58, e27_54, e27_52, e27_50, e27_48, e27_71, e27_72, e27_70, e27_47, e27_73, e27_46, e27_44, e27_40, e27_38, e27_37, e27_35, e27_75, e27_77, e27_80, e27_83, e27_84, e27_82, e27_85, e27_81, e27_79, e27_88, e27_91, e27_92, e27_90, e27_93, e27_89, e27_87, e27_95, e27_98, e27_101, e27_104, e27_105, e27_103, e27_107, e27_110, e27_111, e27_109, e27_113, e27_116, e27_117, e27_115, e27_118, e27_114, e27_112, e27_108, e27_106, e27_102, e27_100, e27_99, e27_97, e27_120, e27_121, e27_119, e27_96, e27_94, e27_86, e27_78, e27_76, e27_74, e27_34, e27_26, e27_18, e27_10, e27_2, e27_0, n27_51, h_q.1, h_q.2, h_p.1, h_p.2, ht0, ht1, ht2, ht4, ht6, ht7, ht8, ht9, ht10, ht11, ht12, ht47, ht117, hx3]
    all_goals first | done | grind | omega | (trace_state; fail)
  | succ n ih =>
    intro i j  e0 e1 e2 e4 e6 e7 e8 e9 e10 e11 e12 e47 e117 T X ht0 ht1 ht2 ht4 ht6 ht7 ht8 ht9 ht10 ht11 ht12 ht47 ht117 hx3  hj hi hn
    subst hj
    obtain ⟨x, hx⟩ : ∃ x, (q.set)[i]? = some x := ⟨(q.set)[i]'(by omega), List.getElem?_eq_getElem (by omega)⟩
    have hd := drop_get hx
    have hlt : (i : Int) < ((q.set).length : Int) := by omega
    have hlt2 : i < (q.set).length := by omega
    have hxe : (q.set)[i]'hlt2 = x := by rw [List.getElem?_eq_getElem hlt2] at hx; exact Option.some.inj hx
    have hw : IntKind.wrap .i64 ((i : Int) + 1) = (i : Int) + 1 := wrap64 (by omega) (by omega)
    have IH := fun e0 e1 e2 e4 e6 e7 e8 e9 e10 e11 e12 e47 e117 T X ht0 ht1 ht2 ht4 ht6 ht7 ht8 ht9 ht10 ht11 ht12 ht47 ht117 hx3 => ih (i + 1) ((i : Int) + 1) e0 e1 e2 e4 e6 e7 e8 e9 e10 e11 e12 e47 e117 T X ht0 ht1 ht2 ht4 ht6 ht7 ht8 ht9 ht10 ht11 ht12 ht47 ht117 hx3 rfl (by omega) (by omega)
    refine evK_loop c27_52 _ st _ _ rfl ?_
    simp (config := { contextual := true, maxSteps := 10000000, maxDischargeDepth := 6 }) [-Int.not_le, -Int.not_lt, -Nat.not_le, -Nat.not_lt, ty3, ty4, ty9, ty24, ty25, ty27, ty99, eq24, hm, hl, hr, k19, k21, k23, k75, k76, k80, k84, k85, k86, e27_1, e27_4, e27_7, e27_8, e27_6, e27_9, e27_5, e27_3, e27_12, e27_15, e27_16, e27_14, e27_17, e27_13, e27_11, e27_20, e27_23, e27_24, e27_22, e27_25, e27_21, e27_19, e27_28, e27_31, e27_32, e27_30, e27_33, e27_29, e27_27, e27_36, e27_39, e27_42, e27_43, e27_41, e27_45, e27_49, e27_53, e27_56, e27_57, e27_55, e27_61, e27_63, e27_66, e27_67, e27_65, e27_68, e27_64, e27_62, e27_60, e27_59, e27_69, e27_58, e27_54, e27_52, e27_50, e27_48, e27_71, e27_72, e27_70, e27_47, e27_73, e27_46, e27_44, e27_40, e27_38, e27_37, e27_35, e27_75, e27_77, e27_80, e27_83, e27_84, e27_82, e27_85, e27_81, e27_79, e27_88, e27_91, e27_92, e27_90, e27_93, e27_89, e27_87, e27_95, e27_98, e27_101, e27_104, e27_105, e27_103, e27_107, e27_110, e27_111, e27_109, e27_113, e27_116, e27_117, e27_115, e27_118, e27_114, e27_112, e27_108, e27_106, e27_102, e27_100, e27_99, e27_97, e27_120, e27_121, e27_119, e27_96, e27_94, e27_86, e27_78, e27_76, e27_74, e27_34, e27_26, e27_18, e27_10, e27_2, e27_0, n27_51, h_q.1, h_q.2, h_p.1, h_p.2, ht0, ht1, ht2, ht4, ht6, ht7, ht8, ht9, ht10, ht11, ht12, ht47, ht117, hx3, hx, hxe, hd, hlt, hlt2, hw, IH]
    all_goals first | done | grind | omega | (trace_state; fail)
set_option maxHeartbeats 4000000 in
theorem c27 (q : Pred) (p : Pred)  (h_q : Pred.ok q) (h_p : Pred.ok p) (st : St) : EvF gS 27 [q.enc, p.enc] st = some (.ret (.bool (pimplies q p)) none, st) := by
  refine EvF_start fi27_eq (fun x h => by cases h) m27 ?_
  rw [st27]
  have hm : fi27.marks = [] := rfl
  have hl : fi27.locals = [2, 3, 6, 7, 8, 9, 10] := rfl
  have hr : fi27.results = [.tmp 4] := rfl
  simp (config := { contextual := true, maxSteps := 10000000, maxDischargeDepth := 6 }) [-Int.not_le, -Int.not_lt, -Nat.not_le, -Nat.not_lt, ty3, ty4, ty9, ty24, ty25, ty27, ty99, eq24, hm, hl, hr, k19, k21, k23, k75, k76, k80, k84, k85, k86, e27_1, e27_4, e27_7, e27_8, e27_6, e27_9, e27_5, e27_3, e27_12, e27_15, e27_16, e27_14, e27_17, e27_13, e27_11, e27_20, e27_23, e27_24, e27_22, e27_25, e27_21, e27_19, e27_28, e27_31, e27_32, e27_30, e27_33, e27_29, e27_27, e27_36, e27_39, e27_42, e27_43, e27_41, e27_45, e27_49, e27_53, e27_56, e27_57, e27_55, e27_61, e27_63, e27_66, e27_67, e27_65, e27_68, e27_64, e27_62, e27_60, e27_59, e27_69, e27_58, e27_54, e27_52, e27_50, e27_48, e27_71, e27_72, e27_70, e27_47, e27_73, e27_46, e27_44, e27_40, e27_38, e27_37, e27_35, e27_75, e27_77, e27_80, e27_83, e27_84, e27_82, e27_85, e27_81, e27_79, e27_88, e27_91, e27_92, e27_90, e27_93, e27_89, e27_87, e27_95, e27_98, e27_101, e27_104, e27_105, e27_103, e27_107, e27_110, e27_111, e27_109, e27_113, e27_116, e27_117, e27_115, e27_118, e27_114, e27_112, e27_108, e27_106, e27_102, e27_100, e27_99, e27_97, e27_120, e27_121, e27_119, e27_96, e27_94, e27_86, e27_78, e27_76, e27_74, e27_34, e27_26, e27_18, e27_10, e27_2, e27_0, n27_51, -ib_eql, -ib_neq, ib_eqlO, ib_neqO, (fun e0 e1 e2 e4 e6 e7 e8 e9 e10 e11 e12 e47 e117 T X ht0 ht1 ht2 ht4 ht6 ht7 ht8 ht9 ht10 ht11 ht12 ht47 ht117 hx3 => L27_51 q p h_q h_p st _ 0 0  e0 e1 e2 e4 e6 e7 e8 e9 e10 e11 e12 e47 e117 T X ht0 ht1 ht2 ht4 ht6 ht7 ht8 ht9 ht10 ht11 ht12 ht47 ht117 hx3 rfl (Nat.zero_le _) rfl), h_q.1, h_q.2, h_p.1, h_p.2]
  all_goals try simp (config := { contextual := true }) [-Int.not_le, -Int.not_lt, -Nat.not_le, -Nat.not_lt, ieq, pimplies, within]
  all_goals (generalize sames q.set p.set = b3; generalize vsame q.v p.v = b1; generalize vsame q.w p.w = b2; generalize ptakes q p.v = b4; generalize ptakes p q.v = b5)
  all_goals (cases b1 <;> cases b2 <;> cases b3 <;> simp (config := { contextual := true }) <;> grind)
theorem k27 (q_name : List UInt8) (q_test : Int) (q_vk : Int) (q_vn : Int) (q_vx : Nat) (q_vs : List UInt8) (q_vb : Bool) (q_wk : Int) (q_wn : Int) (q_wx : Nat) (q_ws : List UInt8) (q_wb : Bool) (q_set : List Val) (p_name : List UInt8) (p_test : Int) (p_vk : Int) (p_vn : Int) (p_vx : Nat) (p_vs : List UInt8) (p_vb : Bool) (p_wk : Int) (p_wn : Int) (p_wx : Nat) (p_ws : List UInt8) (p_wb : Bool) (p_set : List Val)  (h_q : Pred.ok (⟨q_name, q_test, ⟨q_vk, q_vn, q_vx, q_vs, q_vb⟩, ⟨q_wk, q_wn, q_wx, q_ws, q_wb⟩, q_set⟩ : Pred)) (h_p : Pred.ok (⟨p_name, p_test, ⟨p_vk, p_vn, p_vx, p_vs, p_vb⟩, ⟨p_wk, p_wn, p_wx, p_ws, p_wb⟩, p_set⟩ : Pred)) (fr : Fr) (st : St) : callStep gS (EvF gS) 27 [.agg [.str q_name, .int .i64 q_test, .int .i64 q_vk, .int .i64 q_vn, .float .f64 q_vx, .str q_vs, .bool q_vb, .int .i64 q_wk, .int .i64 q_wn, .float .f64 q_wx, .str q_ws, .bool q_wb, .slice (encVals q_set)], .agg [.str p_name, .int .i64 p_test, .int .i64 p_vk, .int .i64 p_vn, .float .f64 p_vx, .str p_vs, .bool p_vb, .int .i64 p_wk, .int .i64 p_wn, .float .f64 p_wx, .str p_ws, .bool p_wb, .slice (encVals p_set)]] fr st = some (.ok (retE none (.bool (pimplies (⟨q_name, q_test, ⟨q_vk, q_vn, q_vx, q_vs, q_vb⟩, ⟨q_wk, q_wn, q_wx, q_ws, q_wb⟩, q_set⟩ : Pred) (⟨p_name, p_test, ⟨p_vk, p_vn, p_vx, p_vs, p_vb⟩, ⟨p_wk, p_wn, p_wx, p_ws, p_wb⟩, p_set⟩ : Pred)))) fr st) :=
  call_pure rfl fi27_eq rfl (fun st => c27 (⟨q_name, q_test, ⟨q_vk, q_vn, q_vx, q_vs, q_vb⟩, ⟨q_wk, q_wn, q_wx, q_ws, q_wb⟩, q_set⟩ : Pred) (⟨p_name, p_test, ⟨p_vk, p_vn, p_vx, p_vs, p_vb⟩, ⟨p_wk, p_wn, p_wx, p_ws, p_wb⟩, p_set⟩ : Pred) h_q h_p st) (by simp)
theorem x27 : gS.ext 27 = none := rfl
theorem p27 : fi27.pure = true := rfl
def fi28 : FI := { body := codeOf Try.f28, ntmps := 170, results := [.tmp 4], pers := [0, 1, 2, 3, 4, 5, 6, 7], locals := [2, 3], pure := true, marks := [] }
theorem fi28_eq : gS.fn 28 = some fi28 := by kernel_rfl
theorem st28 (a0 a1 : V) : startFr fi28 [a0, a1] = { ps := [(0, .val a0), (1, .val a1), (2, .any), (3, .any), (4, .any), (5, .any), (6, .any), (7, .any)], ts := [], lc := [] } := rfl
def b28 : Code := mini (codeOf Try.f28)
def c28_1 : Code := codeN b28 2
theorem e28_1 : evK gS fi28 c28_1 fr st k = opsR gS fi28 [op1 2 (.box 27 (.tmp 0)) 0,
 op1 3 (.box 27 (.tmp 1)) 0,
 op1 4 (.assign (.const (.bool false))) 4] fr st k := evK_r 0 (by kernel_rfl)
def c28_4 : Code := codeN b28 9
theorem e28_4 : evK gS fi28 c28_4 fr st k = opsR gS fi28 [op1 8 (.load 27 (.tmp 2)) 27,
 op1 9 (.call { callee := (.value (.func 20)), args := #[(.tmp 8)], argTypes := #[27] }) 4,
 op1 10 (.unOp .not 4 (.tmp 9)) 4,
 op1 11 (.move (.tmp 10)) 4,
 mk (some 12) (.load 27 (.tmp 3)) 27 (some (3, false)),
 mk (some 13) (.call { callee := (.value (.func 20)), args := #[(.tmp 12)], argTypes := #[27] }) 4 (some (3, false)),
 mk (some 14) (.unOp .not 4 (.tmp 13)) 4 (some (3, false)),
 op1 15 (.pick (.tmp 11) (.const (.bool true)) (.tmp 14)) 4] fr st k := evK_r 1 (by kernel_rfl)
def c28_7 : Code := codeN b28 37
theorem e28_7 : evK gS fi28 c28_7 fr st k = opsR gS fi28 [op1 4 (.assign (.const (.bool false))) 4] fr st k := evK_r 2 (by kernel_rfl)
def c28_8 : Code := .ret
theorem e28_8 : evK gS fi28 c28_8 fr st k = nextK gS fi28 k .ret fr st := rfl
def c28_6 : Code := .seq c28_7 c28_8
theorem e28_6 : evK gS fi28 c28_6 fr st k = evK gS fi28 c28_7 fr st (.seq c28_8 k) := rfl
def c28_9 : Code := .skip
theorem e28_9 : evK gS fi28 c28_9 fr st k = nextK gS fi28 k .normal fr st := rfl
def c28_5 : Code := .cond (.tmp 15) c28_6 c28_9
theorem e28_5 : evK gS fi28 c28_5 fr st k = condK gS fi28 (fr.op (.tmp 15)).bool? c28_6 c28_9 fr st k := rfl
def c28_3 : Code := .seq c28_4 c28_5
theorem e28_3 : evK gS fi28 c28_3 fr st k = evK gS fi28 c28_4 fr st (.seq c28_5 k) := rfl
def c28_12 : Code := codeN b28 19
theorem e28_12 : evK gS fi28 c28_12 fr st k = opsR gS fi28 [op1 16 (.load 27 (.tmp 2)) 27,
 op1 17 (.call { callee := (.value (.func 24)), args := #[(.tmp 16)], argTypes := #[27] }) 4,
 op1 18 (.move (.tmp 17)) 4,
 mk (some 19) (.fieldAddr 27 (.tmp 3) 1) 0 (some (2, false)),
 mk (some 20) (.load 3 (.tmp 19)) 3 (some (2, false)),
 mk (some 21) (.binOp .eql 3 (.tmp 20) (.const (.int .i64 1)) 3) 4 (some (2, false)),
 op1 22 (.pick (.tmp 18) (.const (.bool true)) (.tmp 21)) 4] fr st k := evK_r 3 (by kernel_rfl)
def c28_15 : Code := codeN b28 75
theorem e28_15 : evK gS fi28 c28_15 fr st k = opsR gS fi28 [op1 4 (.assign (.const (.bool true))) 4] fr st k := evK_r 4 (by kernel_rfl)
def c28_16 : Code := .ret
theorem e28_16 : evK gS fi28 c28_16 fr st k = nextK gS fi28 k .ret fr st := rfl
def c28_14 : Code := .seq c28_15 c28_16
theorem e28_14 : evK gS fi28 c28_14 fr st k = evK gS fi28 c28_15 fr st (.seq c28_16 k) := rfl
def c28_17 : Code := .skip
theorem e28_17 : evK gS fi28 c28_17 fr st k = nextK gS fi28 k .normal fr st := rfl
def c28_13 : Code := .cond (.tmp 22) c28_14 c28_17
theorem e28_13 : evK gS fi28 c28_13 fr st k = condK gS fi28 (fr.op (.tmp 22)).bool? c28_14 c28_17 fr st k := rfl
def c28_11 : Code := .seq c28_12 c28_13
theorem e28_11 : evK gS fi28 c28_11 fr st k = evK gS fi28 c28_12 fr st (.seq c28_13 k) := rfl
def c28_21 : Code := codeN b28 71
theorem e28_21 : evK gS fi28 c28_21 fr st k = opsR gS fi28 [op1 24 (.fieldAddr 27 (.tmp 2) 1) 0,
 op1 25 (.load 3 (.tmp 24)) 3,
 op1 26 (.fieldAddr 27 (.tmp 3) 1) 0,
 op1 27 (.load 3 (.tmp 26)) 3,
 op1 28 (.binOp .eql 3 (.tmp 25) (.tmp 27) 3) 4,
 op1 29 (.move (.tmp 28)) 4,
 mk (some 30) (.fieldAddr 27 (.tmp 2) 2) 0 (some (5, true)),
 mk (some 31) (.load 24 (.tmp 30)) 24 (some (5, true)),
 mk (some 32) (.fieldAddr 27 (.tmp 3) 2) 0 (some (5, true)),
 mk (some 33) (.load 24 (.tmp 32)) 24 (some (5, true)),
 mk (some 34) (.call { callee := (.value (.func 82)), args := #[(.tmp 31), (.tmp 33)], argTypes := #[24, 24] }) 4 (some (5, true)),
 op1 35 (.pick (.tmp 29) (.tmp 34) (.const (.bool false))) 4,
 op1 36 (.move (.tmp 35)) 4,
 mk (some 37) (.fieldAddr 27 (.tmp 2) 3) 0 (some (12, true)),
 mk (some 38) (.load 24 (.tmp 37)) 24 (some (12, true)),
 mk (some 39) (.fieldAddr 27 (.tmp 3) 3) 0 (some (12, true)),
 mk (some 40) (.load 24 (.tmp 39)) 24 (some (12, true)),
 mk (some 41) (.call { callee := (.value (.func 82)), args := #[(.tmp 38), (.tmp 40)], argTypes := #[24, 24] }) 4 (some (12, true)),
 op1 42 (.pick (.tmp 36) (.tmp 41) (.const (.bool false))) 4,
 op1 43 (.move (.tmp 42)) 4,
 mk (some 44) (.fieldAddr 27 (.tmp 2) 4) 0 (some (19, true)),
 mk (some 45) (.load 25 (.tmp 44)) 25 (some (19, true)),
 mk (some 46) (.fieldAddr 27 (.tmp 3) 4) 0 (some (19, true)),
 mk (some 47) (.load 25 (.tmp 46)) 25 (some (19, true)),
 mk (some 48) (.call { callee := (.value (.func 83)), args := #[(.tmp 45), (.tmp 47)], argTypes := #[25, 25] }) 4 (some (19, true)),
 op1 49 (.pick (.tmp 43) (.tmp 48) (.const (.bool false))) 4,
 op1 23 (.assign (.tmp 49)) 4] fr st k := evK_r 5 (by kernel_rfl)
def c28_24 : Code := codeN b28 295
theorem e28_24 : evK gS fi28 c28_24 fr st k = opsR gS fi28 [op1 4 (.assign (.const (.bool true))) 4] fr st k := evK_r 6 (by kernel_rfl)
def c28_25 : Code := .ret
theorem e28_25 : evK gS fi28 c28_25 fr st k = nextK gS fi28 k .ret fr st := rfl
def c28_23 : Code := .seq c28_24 c28_25
theorem e28_23 : evK gS fi28 c28_23 fr st k = evK gS fi28 c28_24 fr st (.seq c28_25 k) := rfl
def c28_27 : Code := codeN b28 359
theorem e28_27 : evK gS fi28 c28_27 fr st k = opsR gS fi28 [op1 51 (.fieldAddr 27 (.tmp 3) 1) 0,
 op1 52 (.load 3 (.tmp 51)) 3,
 op1 53 (.binOp .eql 3 (.tmp 52) (.const (.int .i64 3)) 3) 4,
 op1 50 (.assign (.tmp 53)) 4] fr st k := evK_r 7 (by kernel_rfl)
def c28_30 : Code := codeN b28 1255
theorem e28_30 : evK gS fi28 c28_30 fr st k = opsR gS fi28 [op1 54 (.load 27 (.tmp 2)) 27,
 op1 55 (.fieldAddr 27 (.tmp 3) 2) 0,
 op1 56 (.load 24 (.tmp 55)) 24,
 op1 57 (.call { callee := (.value (.func 22)), args := #[(.tmp 54), (.tmp 56)], argTypes := #[27, 24] }) 4,
 op1 58 (.unOp .not 4 (.tmp 57)) 4,
 op1 4 (.assign (.tmp 58)) 4] fr st k := evK_r 8 (by kernel_rfl)
def c28_31 : Code := .ret
theorem e28_31 : evK gS fi28 c28_31 fr st k = nextK gS fi28 k .ret fr st := rfl
def c28_29 : Code := .seq c28_30 c28_31
theorem e28_29 : evK gS fi28 c28_29 fr st k = evK gS fi28 c28_30 fr st (.seq c28_31 k) := rfl
def c28_33 : Code := codeN b28 1511
theorem e28_33 : evK gS fi28 c28_33 fr st k = opsR gS fi28 [op1 60 (.fieldAddr 27 (.tmp 2) 1) 0,
 op1 61 (.load 3 (.tmp 60)) 3,
 op1 62 (.binOp .eql 3 (.tmp 61) (.const (.int .i64 2)) 3) 4,
 op1 59 (.assign (.tmp 62)) 4] fr st k := evK_r 9 (by kernel_rfl)
def c28_36 : Code := codeN b28 5095
theorem e28_36 : evK gS fi28 c28_36 fr st k = opsR gS fi28 [op1 63 (.load 27 (.tmp 3)) 27,
 op1 64 (.fieldAddr 27 (.tmp 2) 2) 0,
 op1 65 (.load 24 (.tmp 64)) 24,
 op1 66 (.call { callee := (.value (.func 22)), args := #[(.tmp 63), (.tmp 65)], argTypes := #[27, 24] }) 4,
 op1 4 (.assign (.tmp 66)) 4] fr st k := evK_r 10 (by kernel_rfl)
def c28_37 : Code := .ret
theorem e28_37 : evK gS fi28 c28_37 fr st k = nextK gS fi28 k .ret fr st := rfl
def c28_35 : Code := .seq c28_36 c28_37
theorem e28_35 : evK gS fi28 c28_35 fr st k = evK gS fi28 c28_36 fr st (.seq c28_37 k) := rfl
def c28_39 : Code := codeN b28 6119
theorem e28_39 : evK gS fi28 c28_39 fr st k = opsR gS fi28 [op1 68 (.fieldAddr 27 (.tmp 2) 1) 0,
 op1 69 (.load 3 (.tmp 68)) 3,
 op1 70 (.binOp .eql 3 (.tmp 69) (.const (.int .i64 10)) 3) 4,
 op1 67 (.assign (.tmp 70)) 4] fr st k := evK_r 11 (by kernel_rfl)
def c28_43 : Code := codeN b28 36839
theorem e28_43 : evK gS fi28 c28_43 fr st k = opsR gS fi28 [op1 5 (.assign (.const (.int .i64 0))) 3] fr st k := evK_r 12 (by kernel_rfl)
def c28_48 : Code := codeN b28 544743
theorem e28_48 : evK gS fi28 c28_48 fr st k = opsR gS fi28 [op1 71 (.move (.tmp 5)) 3,
 op1 72 (.fieldAddr 27 (.tmp 2) 4) 0,
 op1 73 (.load 25 (.tmp 72)) 25,
 op1 74 (.call { callee := (.builtin .len), args := #[(.tmp 73)], argTypes := #[25] }) 3,
 op1 75 (.binOp .lss 3 (.tmp 71) (.tmp 74) 3) 4] fr st k := evK_r 13 (by kernel_rfl)
def c28_50 : Code := .skip
theorem e28_50 : evK gS fi28 c28_50 fr st k = nextK gS fi28 k .normal fr st := rfl
def c28_51 : Code := .exit 1
theorem e28_51 : evK gS fi28 c28_51 fr st k = nextK gS fi28 k (.exit 1) fr st := rfl
def c28_49 : Code := .cond (.tmp 75) c28_50 c28_51
theorem e28_49 : evK gS fi28 c28_49 fr st k = condK gS fi28 (fr.op (.tmp 75)).bool? c28_50 c28_51 fr st k := rfl
def c28_47 : Code := .seq c28_48 c28_49
theorem e28_47 : evK gS fi28 c28_47 fr st k = evK gS fi28 c28_48 fr st (.seq c28_49 k) := rfl
def r28_55 : Array Oper := regOps (codeN (codeOf Try.f28) 2248679)
def c28_55 : Code := .region 15 r28_55 true
def q28_55 : List (Oper × Fl) := [(op1 78 (.fieldAddr 27 (.tmp 2) 4) 0, ⟨true, false, true, false, false, false, true, true, false, false, []⟩),
 (op1 79 (.load 25 (.tmp 78)) 25, ⟨true, false, true, false, false, false, true, true, false, false, []⟩),
 (op1 80 (.move (.tmp 5)) 3, ⟨true, false, true, false, false, false, true, true, false, false, []⟩),
 (op1 81 (.indexAddr 25 (.tmp 79) (.tmp 80)) 0, ⟨true, false, true, false, false, false, true, true, false, false, []⟩),
 (op1 82 (.load 24 (.tmp 81)) 24, ⟨true, false, true, false, false, false, true, true, false, false, []⟩),
 (op1 83 (.fieldAddr 27 (.tmp 2) 4) 0, ⟨true, false, true, false, false, false, true, true, false, false, []⟩),
 (op1 84 (.load 25 (.tmp 83)) 25, ⟨true, false, true, false, false, false, true, true, false, false, []⟩),
 (op1 85 (.move (.tmp 5)) 3, ⟨true, false, true, false, false, false, true, true, false, false, []⟩),
 (op1 86 (.indexAddr 25 (.tmp 84) (.tmp 85)) 0, ⟨true, false, true, false, true, false, true, true, false, false, []⟩),
 (op1 87 (.load 24 (.tmp 86)) 24, ⟨true, false, true, false, true, false, true, true, false, false, []⟩),
 (op1 88 (.call { callee := (.value (.func 79)), args := #[(.tmp 82), (.tmp 87)], argTypes := #[24, 24] }) 4, ⟨true, true, true, false, true, true, true, true, false, false, []⟩),
 (op1 89 (.move (.tmp 88)) 4, ⟨true, false, true, false, true, false, true, true, false, false, []⟩),
 (mk (some 90) (.load 27 (.tmp 3)) 27 (some (11, true)), ⟨true, false, true, false, false, false, true, true, false, false, []⟩),
 (mk (some 91) (.fieldAddr 27 (.tmp 2) 4) 0 (some (11, true)), ⟨true, false, true, false, false, false, true, true, false, false, []⟩),
 (mk (some 92) (.load 25 (.tmp 91)) 25 (some (11, true)), ⟨true, false, true, false, false, false, true, true, false, false, []⟩),
 (mk (some 93) (.move (.tmp 5)) 3 (some (11, true)), ⟨true, false, true, false, false, false, true, true, false, false, []⟩),
 (mk (some 94) (.indexAddr 25 (.tmp 92) (.tmp 93)) 0 (some (11, true)), ⟨true, false, true, false, true, false, true, true, false, false, []⟩),
 (mk (some 95) (.load 24 (.tmp 94)) 24 (some (11, true)), ⟨true, false, true, false, true, false, true, true, false, false, []⟩),
 (mk (some 96) (.call { callee := (.value (.func 22)), args := #[(.tmp 90), (.tmp 95)], argTypes := #[27, 24] }) 4 (some (11, true)), ⟨true, true, true, false, true, true, true, true, false, false, []⟩),
 (mk (some 97) (.unOp .not 4 (.tmp 96)) 4 (some (11, true)), ⟨true, false, true, false, true, false, true, true, false, false, []⟩),
 (op1 98 (.pick (.tmp 89) (.tmp 97) (.const (.bool false))) 4, ⟨true, false, true, false, true, false, true, true, false, false, []⟩)]
theorem e28_55 : evK gS fi28 c28_55 fr st k = drwR gS fi28 r28_55 q28_55 fr st k := evK_dr 15 rfl (by kernel_rfl) (by kernel_rfl)
def c28_58 : Code := codeN b28 9588711
theorem e28_58 : evK gS fi28 c28_58 fr st k = opsR gS fi28 [op1 4 (.assign (.const (.bool false))) 4] fr st k := evK_r 16 (by kernel_rfl)
def c28_59 : Code := .ret
theorem e28_59 : evK gS fi28 c28_59 fr st k = nextK gS fi28 k .ret fr st := rfl
def c28_57 : Code := .seq c28_58 c28_59
theorem e28_57 : evK gS fi28 c28_57 fr st k = evK gS fi28 c28_58 fr st (.seq c28_59 k) := rfl
def c28_60 : Code := .skip
theorem e28_60 : evK gS fi28 c28_60 fr st k = nextK gS fi28 k .normal fr st := rfl
def c28_56 : Code := .cond (.tmp 98) c28_57 c28_60
theorem e28_56 : evK gS fi28 c28_56 fr st k = condK gS fi28 (fr.op (.tmp 98)).bool? c28_57 c28_60 fr st k := rfl
def c28_54 : Code := .seq c28_55 c28_56
theorem e28_54 : evK gS fi28 c28_54 fr st k = evK gS fi28 c28_55 fr st (.seq c28_56 k) := rfl
def c28_53 : Code := .block 2 c28_54
theorem e28_53 : evK gS fi28 c28_53 fr st k = evK gS fi28 c28_54 fr st (.blk 2 k) := rfl
def c28_61 : Code := codeN b28 937959
theorem e28_61 : evK gS fi28 c28_61 fr st k = opsR gS fi28 [op1 76 (.move (.tmp 5)) 3,
 op1 77 (.binOp .add 3 (.tmp 76) (.const (.int .i64 1)) 3) 3,
 op1 5 (.assign (.tmp 77)) 3] fr st k := evK_r 14 (by kernel_rfl)
def c28_52 : Code := .seq c28_53 c28_61
theorem e28_52 : evK gS fi28 c28_52 fr st k = evK gS fi28 c28_53 fr st (.seq c28_61 k) := rfl
def c28_46 : Code := .seq c28_47 c28_52
theorem e28_46 : evK gS fi28 c28_46 fr st k = evK gS fi28 c28_47 fr st (.seq c28_52 k) := rfl
def c28_45 : Code := .loop c28_46
def c28_44 : Code := .block 1 c28_45
theorem e28_44 : evK gS fi28 c28_44 fr st k = evK gS fi28 c28_45 fr st (.blk 1 k) := rfl
def c28_42 : Code := .seq c28_43 c28_44
theorem e28_42 : evK gS fi28 c28_42 fr st k = evK gS fi28 c28_43 fr st (.seq c28_44 k) := rfl
def c28_63 : Code := codeN b28 45031
theorem e28_63 : evK gS fi28 c28_63 fr st k = opsR gS fi28 [op1 4 (.assign (.const (.bool true))) 4] fr st k := evK_r 17 (by kernel_rfl)
def c28_64 : Code := .ret
theorem e28_64 : evK gS fi28 c28_64 fr st k = nextK gS fi28 k .ret fr st := rfl
def c28_62 : Code := .seq c28_63 c28_64
theorem e28_62 : evK gS fi28 c28_62 fr st k = evK gS fi28 c28_63 fr st (.seq c28_64 k) := rfl
def c28_41 : Code := .seq c28_42 c28_62
theorem e28_41 : evK gS fi28 c28_41 fr st k = evK gS fi28 c28_42 fr st (.seq c28_62 k) := rfl
def c28_66 : Code := codeN b28 24551
theorem e28_66 : evK gS fi28 c28_66 fr st k = opsR gS fi28 [op1 100 (.load 27 (.tmp 2)) 27,
 op1 101 (.call { callee := (.value (.func 87)), args := #[(.tmp 100)], argTypes := #[27] }) 4,
 op1 102 (.move (.tmp 101)) 4,
 mk (some 103) (.load 27 (.tmp 3)) 27 (some (2, true)),
 mk (some 104) (.call { callee := (.value (.func 87)), args := #[(.tmp 103)], argTypes := #[27] }) 4 (some (2, true)),
 op1 105 (.pick (.tmp 102) (.tmp 104) (.const (.bool false))) 4,
 op1 99 (.assign (.tmp 105)) 4] fr st k := evK_r 18 (by kernel_rfl)
def r28_69 : Array Oper := regOps (codeN (codeOf Try.f28) 81895)
def c28_69 : Code := .region 19 r28_69 true
def q28_69 : List (Oper × Fl) := [(op1 106 (.load 27 (.tmp 2)) 27, ⟨true, false, true, false, false, false, true, true, false, false, []⟩),
 (op1 107 (.call { callee := (.value (.func 89)), args := #[(.tmp 106)], argTypes := #[27] }) 105, ⟨true, true, true, false, false, true, true, true, false, false, []⟩),
 (op1 108 (.load 27 (.tmp 3)) 27, ⟨true, false, true, false, true, false, true, true, false, false, []⟩),
 (op1 109 (.call { callee := (.value (.func 89)), args := #[(.tmp 108)], argTypes := #[27] }) 105, ⟨true, true, true, false, true, true, true, true, false, false, []⟩),
 (op1 110 (.call { callee := (.value (.func 88)), args := #[(.tmp 107), (.tmp 109), (.const (.int .i64 1))], argTypes := #[105, 105, 3] }) 4, ⟨true, true, true, false, true, true, true, true, false, false, []⟩),
 (op1 111 (.move (.tmp 110)) 4, ⟨true, true, true, false, true, false, true, true, false, false, []⟩),
 (mk (some 112) (.load 27 (.tmp 2)) 27 (some (5, true)), ⟨true, false, true, false, false, false, true, true, false, false, []⟩),
 (mk (some 113) (.call { callee := (.value (.func 90)), args := #[(.tmp 112)], argTypes := #[27] }) 105 (some (5, true)), ⟨true, true, true, false, false, true, true, true, false, false, []⟩),
 (mk (some 114) (.load 27 (.tmp 3)) 27 (some (5, true)), ⟨true, false, true, false, true, false, true, true, false, false, []⟩),
 (mk (some 115) (.call { callee := (.value (.func 90)), args := #[(.tmp 114)], argTypes := #[27] }) 105 (some (5, true)), ⟨true, true, true, false, true, true, true, true, false, false, []⟩),
 (mk (some 116) (.call { callee := (.value (.func 88)), args := #[(.tmp 113), (.tmp 115), (.const (.int .i64 (-1)))], argTypes := #[105, 105, 3] }) 4 (some (5, true)), ⟨true, true, true, false, true, true, true, true, false, false, []⟩),
 (op1 117 (.pick (.tmp 111) (.tmp 116) (.const (.bool false))) 4, ⟨true, true, true, false, true, false, true, true, false, false, []⟩),
 (op1 4 (.assign (.tmp 117)) 4, ⟨true, true, true, false, true, false, true, true, false, false, []⟩)]
theorem e28_69 : evK gS fi28 c28_69 fr st k = drwR gS fi28 r28_69 q28_69 fr st k := evK_dr 19 rfl (by kernel_rfl) (by kernel_rfl)
def c28_70 : Code := .ret
theorem e28_70 : evK gS fi28 c28_70 fr st k = nextK gS fi28 k .ret fr st := rfl
def c28_68 : Code := .seq c28_69 c28_70
theorem e28_68 : evK gS fi28 c28_68 fr st k = evK gS fi28 c28_69 fr st (.seq c28_70 k) := rfl
def c28_72 : Code := codeN b28 98279
theorem e28_72 : evK gS fi28 c28_72 fr st k = opsR gS fi28 [op1 119 (.fieldAddr 27 (.tmp 2) 1) 0,
 op1 120 (.load 3 (.tmp 119)) 3,
 op1 121 (.binOp .eql 3 (.tmp 120) (.const (.int .i64 9)) 3) 4,
 op1 122 (.move (.tmp 121)) 4,
 mk (some 123) (.fieldAddr 27 (.tmp 3) 1) 0 (some (3, true)),
 mk (some 124) (.load 3 (.tmp 123)) 3 (some (3, true)),
 mk (some 125) (.binOp .eql 3 (.tmp 124) (.const (.int .i64 9)) 3) 4 (some (3, true)),
 op1 126 (.pick (.tmp 122) (.tmp 125) (.const (.bool false))) 4,
 op1 118 (.assign (.tmp 126)) 4] fr st k := evK_r 20 (by kernel_rfl)
def c28_75 : Code := codeN b28 327655
theorem e28_75 : evK gS fi28 c28_75 fr st k = opsR gS fi28 [op1 127 (.fieldAddr 27 (.tmp 2) 2) 0,
 op1 128 (.fieldAddr 24 (.tmp 127) 3) 0,
 op1 129 (.load 9 (.tmp 128)) 9,
 op1 130 (.fieldAddr 27 (.tmp 3) 2) 0,
 op1 131 (.fieldAddr 24 (.tmp 130) 3) 0,
 op1 132 (.load 9 (.tmp 131)) 9,
 op1 133 (.call { callee := (.value (.func 78)), args := #[(.tmp 129), (.tmp 132)], argTypes := #[9, 9] }) 4,
 op1 4 (.assign (.tmp 133)) 4] fr st k := evK_r 21 (by kernel_rfl)
def c28_76 : Code := .ret
theorem e28_76 : evK gS fi28 c28_76 fr st k = nextK gS fi28 k .ret fr st := rfl
def c28_74 : Code := .seq c28_75 c28_76
theorem e28_74 : evK gS fi28 c28_74 fr st k = evK gS fi28 c28_75 fr st (.seq c28_76 k) := rfl
def c28_78 : Code := codeN b28 393191
theorem e28_78 : evK gS fi28 c28_78 fr st k = opsR gS fi28 [op1 135 (.fieldAddr 27 (.tmp 2) 1) 0,
 op1 136 (.load 3 (.tmp 135)) 3,
 op1 137 (.binOp .eql 3 (.tmp 136) (.const (.int .i64 9)) 3) 4,
 op1 138 (.move (.tmp 137)) 4,
 mk (some 139) (.fieldAddr 27 (.tmp 3) 1) 0 (some (3, true)),
 mk (some 140) (.load 3 (.tmp 139)) 3 (some (3, true)),
 mk (some 141) (.binOp .eql 3 (.tmp 140) (.const (.int .i64 7)) 3) 4 (some (3, true)),
 mk (some 142) (.move (.tmp 141)) 4 (some (3, true)),
 mk (some 143) (.fieldAddr 27 (.tmp 3) 1) 0 (some (7, false)),
 mk (some 144) (.load 3 (.tmp 143)) 3 (some (7, false)),
 mk (some 145) (.binOp .eql 3 (.tmp 144) (.const (.int .i64 6)) 3) 4 (some (7, false)),
 mk (some 146) (.pick (.tmp 142) (.const (.bool true)) (.tmp 145)) 4 (some (3, true)),
 op1 147 (.pick (.tmp 138) (.tmp 146) (.const (.bool false))) 4,
 op1 134 (.assign (.tmp 147)) 4] fr st k := evK_r 22 (by kernel_rfl)
def c28_81 : Code := codeN b28 1310695
theorem e28_81 : evK gS fi28 c28_81 fr st k = opsR gS fi28 [op1 149 (.fieldAddr 27 (.tmp 2) 2) 0,
 op1 150 (.load 24 (.tmp 149)) 24,
 op1 151 (.fieldAddr 27 (.tmp 3) 2) 0,
 op1 152 (.load 24 (.tmp 151)) 24,
 op1 153 (.call { callee := (.value (.func 77)), args := #[(.tmp 150), (.tmp 152)], argTypes := #[24, 24] }) 94,
 op1 148 (.move (.tmp 153)) 94,
 op1 154 (.extract (.tmp 148) 0) 3,
 op1 155 (.extract (.tmp 148) 1) 4,
 op1 6 (.assign (.tmp 154)) 3,
 op1 7 (.assign (.tmp 155)) 4] fr st k := evK_r 23 (by kernel_rfl)
def c28_83 : Code := codeN b28 2883559
theorem e28_83 : evK gS fi28 c28_83 fr st k = opsR gS fi28 [op1 156 (.move (.tmp 7)) 4,
 op1 157 (.move (.tmp 156)) 4,
 mk (some 158) (.move (.tmp 6)) 3 (some (1, true)),
 mk (some 159) (.binOp .gtr 3 (.tmp 158) (.const (.int .i64 0)) 3) 4 (some (1, true)),
 mk (some 160) (.move (.tmp 159)) 4 (some (1, true)),
 mk (some 161) (.move (.tmp 6)) 3 (some (4, false)),
 mk (some 162) (.binOp .eql 3 (.tmp 161) (.const (.int .i64 0)) 3) 4 (some (4, false)),
 mk (some 163) (.move (.tmp 162)) 4 (some (4, false)),
 mk (some 164) (.fieldAddr 27 (.tmp 3) 1) 0 (some (7, true)),
 mk (some 165) (.load 3 (.tmp 164)) 3 (some (7, true)),
 mk (some 166) (.binOp .eql 3 (.tmp 165) (.const (.int .i64 7)) 3) 4 (some (7, true)),
 mk (some 167) (.pick (.tmp 163) (.tmp 166) (.const (.bool false))) 4 (some (4, false)),
 mk (some 168) (.pick (.tmp 160) (.const (.bool true)) (.tmp 167)) 4 (some (1, true)),
 op1 169 (.pick (.tmp 157) (.tmp 168) (.const (.bool false))) 4,
 op1 4 (.assign (.tmp 169)) 4] fr st k := evK_r 24 (by kernel_rfl)
def c28_84 : Code := .ret
theorem e28_84 : evK gS fi28 c28_84 fr st k = nextK gS fi28 k .ret fr st := rfl
def c28_82 : Code := .seq c28_83 c28_84
theorem e28_82 : evK gS fi28 c28_82 fr st k = evK gS fi28 c28_83 fr st (.seq c28_84 k) := rfl
def c28_80 : Code := .seq c28_81 c28_82
theorem e28_80 : evK gS fi28 c28_80 fr st k = evK gS fi28 c28_81 fr st (.seq c28_82 k) := rfl
def c28_85 : Code := .skip
theorem e28_85 : evK gS fi28 c28_85 fr st k = nextK gS fi28 k .normal fr st := rfl
def c28_79 : Code := .cond (.tmp 134) c28_80 c28_85
theorem e28_79 : evK gS fi28 c28_79 fr st k = condK gS fi28 (fr.op (.tmp 134)).bool? c28_80 c28_85 fr st k := rfl
def c28_77 : Code := .seq c28_78 c28_79
theorem e28_77 : evK gS fi28 c28_77 fr st k = evK gS fi28 c28_78 fr st (.seq c28_79 k) := rfl
def c28_73 : Code := .cond (.tmp 118) c28_74 c28_77
theorem e28_73 : evK gS fi28 c28_73 fr st k = condK gS fi28 (fr.op (.tmp 118)).bool? c28_74 c28_77 fr st k := rfl
def c28_71 : Code := .seq c28_72 c28_73
theorem e28_71 : evK gS fi28 c28_71 fr st k = evK gS fi28 c28_72 fr st (.seq c28_73 k) := rfl
def c28_67 : Code := .cond (.tmp 99) c28_68 c28_71
theorem e28_67 : evK gS fi28 c28_67 fr st k = condK gS fi28 (fr.op (.tmp 99)).bool? c28_68 c28_71 fr st k := rfl
def c28_65 : Code := .seq c28_66 c28_67
theorem e28_65 : evK gS fi28 c28_65 fr st k = evK gS fi28 c28_66 fr st (.seq c28_67 k) := rfl
def c28_40 : Code := .cond (.tmp 67) c28_41 c28_65
theorem e28_40 : evK gS fi28 c28_40 fr st k = condK gS fi28 (fr.op (.tmp 67)).bool? c28_41 c28_65 fr st k := rfl
def c28_38 : Code := .seq c28_39 c28_40
theorem e28_38 : evK gS fi28 c28_38 fr st k = evK gS fi28 c28_39 fr st (.seq c28_40 k) := rfl
def c28_34 : Code := .cond (.tmp 59) c28_35 c28_38
theorem e28_34 : evK gS fi28 c28_34 fr st k = condK gS fi28 (fr.op (.tmp 59)).bool? c28_35 c28_38 fr st k := rfl
def c28_32 : Code := .seq c28_33 c28_34
theorem e28_32 : evK gS fi28 c28_32 fr st k = evK gS fi28 c28_33 fr st (.seq c28_34 k) := rfl
def c28_28 : Code := .cond (.tmp 50) c28_29 c28_32
theorem e28_28 : evK gS fi28 c28_28 fr st k = condK gS fi28 (fr.op (.tmp 50)).bool? c28_29 c28_32 fr st k := rfl
def c28_26 : Code := .seq c28_27 c28_28
theorem e28_26 : evK gS fi28 c28_26 fr st k = evK gS fi28 c28_27 fr st (.seq c28_28 k) := rfl
def c28_22 : Code := .cond (.tmp 23) c28_23 c28_26
theorem e28_22 : evK gS fi28 c28_22 fr st k = condK gS fi28 (fr.op (.tmp 23)).bool? c28_23 c28_26 fr st k := rfl
def c28_20 : Code := .seq c28_21 c28_22
theorem e28_20 : evK gS fi28 c28_20 fr st k = evK gS fi28 c28_21 fr st (.seq c28_22 k) := rfl
def c28_19 : Code := .block 0 c28_20
theorem e28_19 : evK gS fi28 c28_19 fr st k = evK gS fi28 c28_20 fr st (.blk 0 k) := rfl
def c28_87 : Code := codeN b28 47
theorem e28_87 : evK gS fi28 c28_87 fr st k = opsR gS fi28 [op1 4 (.assign (.const (.bool false))) 4] fr st k := evK_r 25 (by kernel_rfl)
def c28_88 : Code := .ret
theorem e28_88 : evK gS fi28 c28_88 fr st k = nextK gS fi28 k .ret fr st := rfl
def c28_86 : Code := .seq c28_87 c28_88
theorem e28_86 : evK gS fi28 c28_86 fr st k = evK gS fi28 c28_87 fr st (.seq c28_88 k) := rfl
def c28_18 : Code := .seq c28_19 c28_86
theorem e28_18 : evK gS fi28 c28_18 fr st k = evK gS fi28 c28_19 fr st (.seq c28_86 k) := rfl
def c28_10 : Code := .seq c28_11 c28_18
theorem e28_10 : evK gS fi28 c28_10 fr st k = evK gS fi28 c28_11 fr st (.seq c28_18 k) := rfl
def c28_2 : Code := .seq c28_3 c28_10
theorem e28_2 : evK gS fi28 c28_2 fr st k = evK gS fi28 c28_3 fr st (.seq c28_10 k) := rfl
def c28_0 : Code := .seq c28_1 c28_2
theorem e28_0 : evK gS fi28 c28_0 fr st k = evK gS fi28 c28_1 fr st (.seq c28_2 k) := rfl
theorem m28 : mini fi28.body = c28_0 := by kernel_rfl
theorem n28_45 (fr : Fr) (st : St) (k : Kt) : nextK gS fi28 (.loop c28_46 k) .normal fr st = evK gS fi28 c28_45 fr st k := rfl
set_option maxHeartbeats 4000000 in
theorem L28_45 (q : Pred) (p : Pred) (h_q : q.ok) (h_p : p.ok) (st : St) : ∀ (n i : Nat) (j : Int)  (e0 e1 e4 e6 e7 : E) (T : List (Nat × E)) (X : List (Nat × List V)) (ht0 : e0.Tame) (ht1 : e1.Tame) (ht4 : e4.Tame) (ht6 : e6.Tame) (ht7 : e7.Tame) (hx2 : lk X 2 = some [.str q.name, .int .i64 q.test, .int .i64 q.v.kind, .int .i64 q.v.n, .float .f64 q.v.x, .str q.v.s, .bool q.v.b, .int .i64 q.w.kind, .int .i64 q.w.n, .float .f64 q.w.x, .str q.w.s, .bool q.w.b, .slice (encVals q.set)]) (hx3 : lk X 3 = some [.str p.name, .int .i64 p.test, .int .i64 p.v.kind, .int .i64 p.v.n, .float .f64 p.v.x, .str p.v.s, .bool p.v.b, .int .i64 p.w.kind, .int .i64 p.w.n, .float .f64 p.w.x, .str p.w.s, .bool p.w.b, .slice (encVals p.set)]) , j = (i : Int) → i ≤ (q.set).length → (q.set).length - i = n →
    evK gS fi28 c28_45 { ps := [(0, e0), (1, e1), (2, .lp 2 0), (3, .lp 3 0), (4, e4), (5, .val (.int .i64 j)), (6, e6), (7, e7)], ts := T, lc := X } st (.blk 1 (.seq c28_62 (.blk 0 (.seq c28_86 .nil)))) = some ((.ret (.bool ((q.set.drop i).all (fun v => !vis v v || ptakes p v))) none), st) := by
  intro n
  have hm : fi28.marks = [] := rfl
  have hl : fi28.locals = [2, 3] := rfl
  have hr : fi28.results = [.tmp 4] := rfl
  have hpo := h_q.2
  induction n with
  | zero =>
    intro i j  e0 e1 e4 e6 e7 T X ht0 ht1 ht4 ht6 ht7 hx2 hx3  hj hi hn
    obtain rfl : i = (q.set).length := by omega
    subst hj
    refine evK_loop c28_46 _ st _ _ rfl ?_
    simp (config := { contextual := true, maxSteps := 10000000, maxDischargeDepth := 6 }) [-Int.not_le, -Int.not_lt, -Nat.not_le, -Nat.not_lt, ty3, ty4, ty9, ty24, ty25, ty27, ty105, eq24, hm, hl, hr, k20, x20, fi20_eq, p20, k22, x22, fi22_eq, p22, k24, x24, fi24_eq, p24, k77, x77, fi77_eq, p77, k78, x78, fi78_eq, p78, k79, x79, fi79_eq, p79, k82, x82, fi82_eq, p82, k83, x83, fi83_eq, p83, k87, x87, fi87_eq, p87, k88, x88, fi88_eq, p88, k89, x89, fi89_eq, p89, k90, x90, fi90_eq, p90, e28_1, e28_4, e28_7, e28_8, e28_6, e28_9, e28_5, e28_3, e28_12, e28_15, e28_16, e28_14, e28_17, e28_13, e28_11, e28_21, e28_24, e28_25, e28_23, e28_27, e28_30, e28_31, e28_29, e28_33, e28_36, e28_37, e28_35, e28_39, e28_43, e28_48, e28_50, e28_51, e28_49, e28_47, e28_55, q28_55, e28_58, e28_59, e28_57, e28_60, e28_56, e28_54, e28_53, e28_61, e28_52, e28_46, e28_44, e28_42, e28_63, e28_64, e28_62, e28_41, e28_66, e28_69, q28_69, e28_70, e28_68, e28_72, e28_75, e28_76, e28_74, e28_78, e28_81, e28_83, e28_84, e28_82, e28_80, e28_85, e28_79, e28_77, e28_73, e28_71, e28_67, e28_65, e28_40, e28_38, e28_34, e28_32, e28_28, e28_26, e28_22, e28_20, e28_19, e28_87, e28_88, e28_86, e28_18, e28_10, e28_2, e28_0, n28_45, h_q.1, h_q.2, h_p.1, h_p.2, ht0, ht1, ht4, ht6, ht7, hx2, hx3]
    all_goals first | done | grind | omega | (trace_state; fail)
  | succ n ih =>
    intro i j  e0 e1 e4 e6 e7 T X ht0 ht1 ht4 ht6 ht7 hx2 hx3  hj hi hn
    subst hj
    obtain ⟨x, hx⟩ : ∃ x, (q.set)[i]? = some x := ⟨(q.set)[i]'(by omega), List.getElem?_eq_getElem (by omega)⟩
    have hd := drop_get hx
    have hlt : (i : Int) < ((q.set).length : Int) := by omega
    have hlt2 : i < (q.set).length := by omega
    have hxe : (q.set)[i]'hlt2 = x := by rw [List.getElem?_eq_getElem hlt2] at hx; exact Option.some.inj hx
    have hw : IntKind.wrap .i64 ((i : Int) + 1) = (i : Int) + 1 := wrap64 (by omega) (by omega)
    have IH := fun e0 e1 e4 e6 e7 T X ht0 ht1 ht4 ht6 ht7 hx2 hx3 => ih (i + 1) ((i : Int) + 1) e0 e1 e4 e6 e7 T X ht0 ht1 ht4 ht6 ht7 hx2 hx3 rfl (by omega) (by omega)
    refine evK_loop c28_46 _ st _ _ rfl ?_
    simp (config := { contextual := true, maxSteps := 10000000, maxDischargeDepth := 6 }) [-Int.not_le, -Int.not_lt, -Nat.not_le, -Nat.not_lt, ty3, ty4, ty9, ty24, ty25, ty27, ty105, eq24, hm, hl, hr, k20, x20, fi20_eq, p20, k22, x22, fi22_eq, p22, k24, x24, fi24_eq, p24, k77, x77, fi77_eq, p77, k78, x78, fi78_eq, p78, k79, x79, fi79_eq, p79, k82, x82, fi82_eq, p82, k83, x83, fi83_eq, p83, k87, x87, fi87_eq, p87, k88, x88, fi88_eq, p88, k89, x89, fi89_eq, p89, k90, x90, fi90_eq, p90, e28_1, e28_4, e28_7, e28_8, e28_6, e28_9, e28_5, e28_3, e28_12, e28_15, e28_16, e28_14, e28_17, e28_13, e28_11, e28_21, e28_24, e28_25, e28_23, e28_27, e28_30, e28_31, e28_29, e28_33, e28_36, e28_37, e28_35, e28_39, e28_43, e28_48, e28_50, e28_51, e28_49, e28_47, e28_55, q28_55, e28_58, e28_59, e28_57, e28_60, e28_56, e28_54, e28_53, e28_61, e28_52, e28_46, e28_44, e28_42, e28_63, e28_64, e28_62, e28_41, e28_66, e28_69, q28_69, e28_70, e28_68, e28_72, e28_75, e28_76, e28_74, e28_78, e28_81, e28_83, e28_84, e28_82, e28_80, e28_85, e28_79, e28_77, e28_73, e28_71, e28_67, e28_65, e28_40, e28_38, e28_34, e28_32, e28_28, e28_26, e28_22, e28_20, e28_19, e28_87, e28_88, e28_86, e28_18, e28_10, e28_2, e28_0, n28_45, h_q.1, h_q.2, h_p.1, h_p.2, ht0, ht1, ht4, ht6, ht7, hx2, hx3, hx, hxe, hd, hlt, hlt2, hw, IH]
    all_goals first | done | grind | omega | (trace_state; fail)
set_option maxHeartbeats 4000000 in
theorem T28_71 (q : Pred) (p : Pred) (h_q : q.ok) (h_p : p.ok) (st : St) (e0 e1 e4 e5 e6 e7 : E) (T : List (Nat × E)) (X : List (Nat × List V)) (ht0 : e0.Tame) (ht1 : e1.Tame) (ht4 : e4.Tame) (ht5 : e5.Tame) (ht6 : e6.Tame) (ht7 : e7.Tame) (hx2 : lk X 2 = some [.str q.name, .int .i64 q.test, .int .i64 q.v.kind, .int .i64 q.v.n, .float .f64 q.v.x, .str q.v.s, .bool q.v.b, .int .i64 q.w.kind, .int .i64 q.w.n, .float .f64 q.w.x, .str q.w.s, .bool q.w.b, .slice (encVals q.set)]) (hx3 : lk X 3 = some [.str p.name, .int .i64 p.test, .int .i64 p.v.kind, .int .i64 p.v.n, .float .f64 p.v.x, .str p.v.s, .bool p.v.b, .int .i64 p.w.kind, .int .i64 p.w.n, .float .f64 p.w.x, .str p.w.s, .bool p.w.b, .slice (encVals p.set)])  :
    evK gS fi28 c28_71 { ps := [(0, e0), (1, e1), (2, .lp 2 0), (3, .lp 3 0), (4, e4), (5, e5), (6, e6), (7, e7)], ts := T, lc := X } st (.blk 0 (.seq c28_86 .nil)) = some ((.ret (.bool (rest71 q p)) none), st) := by
  have hm : fi28.marks = [] := rfl
  have hl : fi28.locals = [2, 3] := rfl
  have hr : fi28.results = [.tmp 4] := rfl
  simp (config := { contextual := true, maxSteps := 10000000, maxDischargeDepth := 6 }) [-Int.not_le, -Int.not_lt, -Nat.not_le, -Nat.not_lt, ty3, ty4, ty9, ty24, ty25, ty27, ty105, eq24, hm, hl, hr, k20, x20, fi20_eq, p20, k22, x22, fi22_eq, p22, k24, x24, fi24_eq, p24, k77, x77, fi77_eq, p77, k78, x78, fi78_eq, p78, k79, x79, fi79_eq, p79, k82, x82, fi82_eq, p82, k83, x83, fi83_eq, p83, k87, x87, fi87_eq, p87, k88, x88, fi88_eq, p88, k89, x89, fi89_eq, p89, k90, x90, fi90_eq, p90, e28_1, e28_4, e28_7, e28_8, e28_6, e28_9, e28_5, e28_3, e28_12, e28_15, e28_16, e28_14, e28_17, e28_13, e28_11, e28_21, e28_24, e28_25, e28_23, e28_27, e28_30, e28_31, e28_29, e28_33, e28_36, e28_37, e28_35, e28_39, e28_43, e28_48, e28_50, e28_51, e28_49, e28_47, e28_55, q28_55, e28_58, e28_59, e28_57, e28_60, e28_56, e28_54, e28_53, e28_61, e28_52, e28_46, e28_44, e28_42, e28_63, e28_64, e28_62, e28_41, e28_66, e28_69, q28_69, e28_70, e28_68, e28_72, e28_75, e28_76, e28_74, e28_78, e28_81, e28_83, e28_84, e28_82, e28_80, e28_85, e28_79, e28_77, e28_73, e28_71, e28_67, e28_65, e28_40, e28_38, e28_34, e28_32, e28_28, e28_26, e28_22, e28_20, e28_19, e28_87, e28_88, e28_86, e28_18, e28_10, e28_2, e28_0, n28_45, -ib_eql, -ib_neq, ib_eqlO, ib_neqO, h_q.1, h_q.2, h_p.1, h_p.2, ht0, ht1, ht4, ht5, ht6, ht7, hx2, hx3]
  all_goals try simp (config := { contextual := true }) [-Int.not_le, -Int.not_lt, -Nat.not_le, -Nat.not_lt, ieq, rest71]
  all_goals first | done | grind | omega | (trace_state; fail)
set_option maxHeartbeats 4000000 in
theorem T28_26 (q : Pred) (p : Pred) (h_q : q.ok) (h_p : p.ok) (st : St) (e0 e1 e4 e5 e6 e7 : E) (T : List (Nat × E)) (X : List (Nat × List V)) (ht0 : e0.Tame) (ht1 : e1.Tame) (ht4 : e4.Tame) (ht5 : e5.Tame) (ht6 : e6.Tame) (ht7 : e7.Tame) (hx2 : lk X 2 = some [.str q.name, .int .i64 q.test, .int .i64 q.v.kind, .int .i64 q.v.n, .float .f64 q.v.x, .str q.v.s, .bool q.v.b, .int .i64 q.w.kind, .int .i64 q.w.n, .float .f64 q.w.x, .str q.w.s, .bool q.w.b, .slice (encVals q.set)]) (hx3 : lk X 3 = some [.str p.name, .int .i64 p.test, .int .i64 p.v.kind, .int .i64 p.v.n, .float .f64 p.v.x, .str p.v.s, .bool p.v.b, .int .i64 p.w.kind, .int .i64 p.w.n, .float .f64 p.w.x, .str p.w.s, .bool p.w.b, .slice (encVals p.set)])  :
    evK gS fi28 c28_26 { ps := [(0, e0), (1, e1), (2, .lp 2 0), (3, .lp 3 0), (4, e4), (5, e5), (6, e6), (7, e7)], ts := T, lc := X } st (.blk 0 (.seq c28_86 .nil)) = some ((.ret (.bool (restR q p)) none), st) := by
  have hm : fi28.marks = [] := rfl
  have hl : fi28.locals = [2, 3] := rfl
  have hr : fi28.results = [.tmp 4] := rfl
  simp (config := { contextual := true, maxSteps := 10000000, maxDischargeDepth := 6 }) [-Int.not_le, -Int.not_lt, -Nat.not_le, -Nat.not_lt, ty3, ty4, ty9, ty24, ty25, ty27, ty105, eq24, hm, hl, hr, k20, x20, fi20_eq, p20, k22, x22, fi22_eq, p22, k24, x24, fi24_eq, p24, k77, x77, fi77_eq, p77, k78, x78, fi78_eq, p78, k79, x79, fi79_eq, p79, k82, x82, fi82_eq, p82, k83, x83, fi83_eq, p83, k87, x87, fi87_eq, p87, k88, x88, fi88_eq, p88, k89, x89, fi89_eq, p89, k90, x90, fi90_eq, p90, e28_1, e28_4, e28_7, e28_8, e28_6, e28_9, e28_5, e28_3, e28_12, e28_15, e28_16, e28_14, e28_17, e28_13, e28_11, e28_21, e28_24, e28_25, e28_23, e28_27, e28_30, e28_31, e28_29, e28_33, e28_36, e28_37, e28_35, e28_39, e28_43, e28_48, e28_50, e28_51, e28_49, e28_47, e28_55, q28_55, e28_58, e28_59, e28_57, e28_60, e28_56, e28_54, e28_53, e28_61, e28_52, e28_46, e28_44, e28_42, e28_63, e28_64, e28_62, e28_41, e28_66, e28_69, q28_69, e28_70, e28_68, e28_72, e28_75, e28_76, e28_74, e28_78, e28_81, e28_83, e28_84, e28_82, e28_80, e28_85, e28_79, e28_77, e28_73, e28_67, e28_65, e28_40, e28_38, e28_34, e28_32, e28_28, e28_26, e28_22, e28_20, e28_19, e28_87, e28_88, e28_86, e28_18, e28_10, e28_2, e28_0, n28_45, -ib_eql, -ib_neq, ib_eqlO, ib_neqO, h_q.1, h_q.2, h_p.1, h_p.2, T28_71 q p h_q h_p, (fun e0 e1 e4 e6 e7 T X ht0 ht1 ht4 ht6 ht7 hx2 hx3 => L28_45 q p h_q h_p st _ 0 0  e0 e1 e4 e6 e7 T X ht0 ht1 ht4 ht6 ht7 hx2 hx3 rfl (Nat.zero_le _) rfl), ht0, ht1, ht4, ht5, ht6, ht7, hx2, hx3]
  all_goals try simp (config := { contextual := true }) [-Int.not_le, -Int.not_lt, -Nat.not_le, -Nat.not_lt, ieq, restR, rest71, endedB]
  all_goals first | done | grind | omega | (trace_state; fail)
set_option maxHeartbeats 4000000 in
theorem c28 (q : Pred) (p : Pred)  (h_q : Pred.ok q) (h_p : Pred.ok p) (st : St) : EvF gS 28 [q.enc, p.enc] st = some (.ret (.bool (pimplies q p)) none, st) := by
  refine EvF_start fi28_eq (fun x h => by cases h) m28 ?_
  rw [st28]
  have hm : fi28.marks = [] := rfl
  have hl : fi28.locals = [2, 3] := rfl
  have hr : fi28.results = [.tmp 4] := rfl
  simp (config := { contextual := true, maxSteps := 10000000, maxDischargeDepth := 6 }) [-Int.not_le, -Int.not_lt, -Nat.not_le, -Nat.not_lt, ty3, ty4, ty9, ty24, ty25, ty27, ty105, eq24, hm, hl, hr, k20, x20, fi20_eq, p20, k22, x22, fi22_eq, p22, k24, x24, fi24_eq, p24, k77, x77, fi77_eq, p77, k78, x78, fi78_eq, p78, k79, x79, fi79_eq, p79, k82, x82, fi82_eq, p82, k83, x83, fi83_eq, p83, k87, x87, fi87_eq, p87, k88, x88, fi88_eq, p88, k89, x89, fi89_eq, p89, k90, x90, fi90_eq, p90, e28_1, e28_4, e28_7, e28_8, e28_6, e28_9, e28_5, e28_3, e28_12, e28_15, e28_16, e28_14, e28_17, e28_13, e28_11, e28_21, e28_24, e28_25, e28_23, e28_27, e28_30, e28_31, e28_29, e28_33, e28_36, e28_37, e28_35, e28_39, e28_43, e28_48, e28_50, e28_51, e28_49, e28_47, e28_55, q28_55, e28_58, e28_59, e28_57, e28_60, e28_56, e28_54, e28_53, e28_61, e28_52, e28_46, e28_44, e28_42, e28_63, e28_64, e28_62, e28_41, e28_66, e28_69, q28_69, e28_70, e28_68, e28_72, e28_75, e28_76, e28_74, e28_78, e28_81, e28_83, e28_84, e28_82, e28_80, e28_85, e28_79, e28_77, e28_73, e28_67, e28_65, e28_40, e28_38, e28_34, e28_32, e28_28, e28_22, e28_20, e28_19, e28_87, e28_88, e28_86, e28_18, e28_10, e28_2, e28_0, n28_45, -ib_eql, -ib_neq, ib_eqlO, ib_neqO, T28_26 q p h_q h_p, h_q.1, h_q.2, h_p.1, h_p.2]
  all_goals try simp (config := { contextual := true }) [-Int.not_le, -Int.not_lt, -Nat.not_le, -Nat.not_lt, ieq]
  all_goals try simp (config := { contextual := true }) [ieq]
  all_goals (by_cases a1 : pright q = true)
  all_goals (by_cases a2 : pright p = true)
  all_goals (cases a3 : pvoid q)
  all_goals (by_cases a4 : p.test = 1)
  all_goals first | (have hk := pimplies_eq (q := q) (p := p) a1 a2 a3 a4) | (have hk : True := trivial)
  all_goals (simp [a1, a2, a3, a4, pimplies] at *)
  all_goals grind
theorem k28 (q_name : List UInt8) (q_test : Int) (q_vk : Int) (q_vn : Int) (q_vx : Nat) (q_vs : List UInt8) (q_vb : Bool) (q_wk : Int) (q_wn : Int) (q_wx : Nat) (q_ws : List UInt8) (q_wb : Bool) (q_set : List Val) (p_name : List UInt8) (p_test : Int) (p_vk : Int) (p_vn : Int) (p_vx : Nat) (p_vs : List UInt8) (p_vb : Bool) (p_wk : Int) (p_wn : Int) (p_wx : Nat) (p_ws : List UInt8) (p_wb : Bool) (p_set : List Val)  (h_q : Pred.ok (⟨q_name, q_test, ⟨q_vk, q_vn, q_vx, q_vs, q_vb⟩, ⟨q_wk, q_wn, q_wx, q_ws, q_wb⟩, q_set⟩ : Pred)) (h_p : Pred.ok (⟨p_name, p_test, ⟨p_vk, p_vn, p_vx, p_vs, p_vb⟩, ⟨p_wk, p_wn, p_wx, p_ws, p_wb⟩, p_set⟩ : Pred)) (fr : Fr) (st : St) : callStep gS (EvF gS) 28 [.agg [.str q_name, .int .i64 q_test, .int .i64 q_vk, .int .i64 q_vn, .float .f64 q_vx, .str q_vs, .bool q_vb, .int .i64 q_wk, .int .i64 q_wn, .float .f64 q_wx, .str q_ws, .bool q_wb, .slice (encVals q_set)], .agg [.str p_name, .int .i64 p_test, .int .i64 p_vk, .int .i64 p_vn, .float .f64 p_vx, .str p_vs, .bool p_vb, .int .i64 p_wk, .int .i64 p_wn, .float .f64 p_wx, .str p_ws, .bool p_wb, .slice (encVals p_set)]] fr st = some (.ok (retE none (.bool (pimplies (⟨q_name, q_test, ⟨q_vk, q_vn, q_vx, q_vs, q_vb⟩, ⟨q_wk, q_wn, q_wx, q_ws, q_wb⟩, q_set⟩ : Pred) (⟨p_name, p_test, ⟨p_vk, p_vn, p_vx, p_vs, p_vb⟩, ⟨p_wk, p_wn, p_wx, p_ws, p_wb⟩, p_set⟩ : Pred)))) fr st) :=
  call_pure rfl fi28_eq rfl (fun st => c28 (⟨q_name, q_test, ⟨q_vk, q_vn, q_vx, q_vs, q_vb⟩, ⟨q_wk, q_wn, q_wx, q_ws, q_wb⟩, q_set⟩ : Pred) (⟨p_name, p_test, ⟨p_vk, p_vn, p_vx, p_vs, p_vb⟩, ⟨p_wk, p_wn, p_wx, p_ws, p_wb⟩, p_set⟩ : Pred) h_q h_p st) (by simp)
theorem x28 : gS.ext 28 = none := rfl
theorem p28 : fi28.pure = true := rfl
end
end Go.Proofs.Ytclpbfkbpcjejaa
namespace Go.Ab
open Go
set_option linter.unusedVariables false
set_option linter.unusedSimpArgs false
set_option linter.unnecessarySimpa false
def intVs (l : List Int) : List V := l.map (V.int .i64)
theorem intVs_length (l : List Int) : (intVs l).length = l.length := by simp [intVs]
theorem intVs_get (l : List Int) (i : Nat) : (intVs l)[i]? = (l[i]?).map (V.int .i64) := by simp [intVs]
theorem intVs_gE (l : List Int) (i : Nat) (h : i < (intVs l).length) : (intVs l)[i]'h = .int .i64 (l[i]'(by rw [intVs_length] at h; exact h)) := by simp [intVs]
theorem flats_ints (l : List Int) : flats (intVs l) = true := by
  induction l with
  | nil => rfl
  | cons x r ih => simp only [intVs, List.map_cons, flats, V.flat] at ih ⊢; exact ih
attribute [simp] intVs_length intVs_get intVs_gE flats_ints
def pickI (n m : Int) : Int := if m < 1 then 0 else if n.tmod m < 0 then n.tmod m + m else n.tmod m
theorem tmod_bound (n : Int) {m : Int} (h : 1 ≤ m) : -m < n.tmod m ∧ n.tmod m < m := by
  have b1 := Int.tmod_lt_of_pos n (by omega : 0 < m)
  refine ⟨?_, b1⟩
  rcases Int.lt_or_le n 0 with hk | hk
  · have : n.tmod m = -((-n).tmod m) := by rw [Int.neg_tmod]; omega
    have := Int.tmod_lt_of_pos (-n) (by omega : 0 < m)
    omega
  · have := Int.tmod_nonneg m hk; omega
theorem pickI_bound (n : Int) {m : Int} (h : 1 ≤ m) : 0 ≤ pickI n m ∧ pickI n m < m := by
  have := tmod_bound n h
  unfold pickI
  rw [if_neg (by omega)]
  split <;> omega
/-- The feed's memory. -/
def FeedAt (st : St) (id : Nat) (l : List Int) (a : Nat) : Prop := st.objs[id]? = some [.slice (intVs l), .int .i64 a] ∧ st.wp ≤ id
def setF (st : St) (id : Nat) (l : List Int) (a : Nat) : St := { st with objs := st.objs.set id [.slice (intVs l), .int .i64 a] }
theorem FeedAt.lt {st : St} {id : Nat} {l : List Int} {a : Nat} (h : FeedAt st id l a) : id < st.objs.length := (List.getElem?_eq_some_iff.1 h.1).1
theorem setF_setF (st : St) (id : Nat) (l : List Int) (a b : Nat) : setF (setF st id l a) id l b = setF st id l b := by
  unfold setF; simp
theorem setF_same {st : St} {id : Nat} {l : List Int} {a : Nat} (h : FeedAt st id l a) : setF st id l a = st := by
  unfold setF
  obtain ⟨os, wp⟩ := st
  have h1 : os[id]? = some [.slice (intVs l), .int .i64 a] := h.1
  have h2 : id < os.length := h.lt
  congr 1
  show os.set id _ = os
  apply List.ext_getElem?
  intro j
  rw [List.getElem?_set]
  split
  · rename_i hj; subst hj; rw [h1]
  · rfl
/-- The raw number at a place. -/
def rawAt (l : List Int) (a : Nat) : Int := IntKind.wrap .i64 (IntKind.wrap .i64 ((l.getD (a % l.length) 0).tdiv (1 + (a / l.length : Nat))) + (a / l.length : Nat))
def nextV (l : List Int) (a : Nat) (n : Int) : Int := if l = [] then 0 else pickI (rawAt l a) n
def nextA (l : List Int) (a : Nat) : Nat := if l = [] then a else a + 1
theorem nextV_bound (l : List Int) (a : Nat) {n : Int} (h : 1 ≤ n) : 0 ≤ nextV l a n ∧ nextV l a n < n := by
  unfold nextV; split
  · omega
  · exact pickI_bound _ h
/-- Where a feed stands when it was asked `j` times. -/
def nA (l : List Int) (a j : Nat) : Nat := if l = [] then a else a + j
theorem nA_next (l : List Int) (a j : Nat) : nextA l (nA l a j) = nA l a (j + 1) := by
  unfold nextA nA; split <;> omega
theorem nA_le (l : List Int) (a j : Nat) : nA l a j ≤ a + j := by unfold nA; split <;> omega
def FeedOk (st : St) (id : Nat) : Prop := id < st.objs.length ∧ st.wp ≤ id
theorem feed_at {st : St} {id : Nat} (h : FeedOk st id) (l : List Int) (b : Nat) : FeedAt (setF st id l b) id l b := by
  refine ⟨?_, h.2⟩
  show (st.objs.set id _)[id]? = _
  rw [List.getElem?_set_self h.1]
/-- What a feed yields that was asked `j` times. -/
def fd (l : List Int) (a j : Nat) (n : Int) : Int := nextV l (nA l a j) n
theorem fd_bound (l : List Int) (a j : Nat) {n : Int} (h : 1 ≤ n) : 0 ≤ fd l a j n ∧ fd l a j n < n := nextV_bound _ _ h
def F14 : List Nat := [0, 9223372036854775808, 4607182418800017408, 4609434218613702656, 4611686018427387904, 4613937818241073152, 13830554455654793216, 4591870180066957722, 9221120237041090561, 9218868437227405312, 18442240474082181120, 4845873199050653696, 4890909195324358656, 1]
def floatV (l : List Int) (a j : Nat) : Nat := F14.getD (fd l a j 14).toNat 0
def T6 : List (List UInt8) := [[], [97], [97, 98], [98], [98, 97], [116, 119, 101, 108, 118, 101, 32, 98, 121, 116, 101, 115]]
def N6 : List Int := [-9223372036854775808, 9223372036854775807, 9007199254740992, 9007199254740993, -1, 4611686018427387904]
/-- A right value: of two asks. -/
def valueV (l : List Int) (a j : Nat) : Val :=
  let z := fd l a j 8
  if z = 0 ∨ z = 1 then ⟨2, 0, floatV l a (j + 1), [], false⟩
  else if z = 2 then ⟨3, 0, 0, T6.getD (fd l a (j + 1) 6).toNat [], false⟩
  else if z = 3 then ⟨4, 0, 0, [], fd l a (j + 1) 2 = 1⟩
  else if z = 4 then ⟨1, N6.getD (fd l a (j + 1) 6).toNat 0, 0, [], false⟩
  else ⟨1, fd l a (j + 1) 5, 0, [], false⟩
/-- So many values, one behind the other. -/
def valsV (l : List Int) (a : Nat) : Nat → Nat → List Val
  | _, 0 => []
  | j, k + 1 => valueV l a j :: valsV l a (j + 2) k
def P4 : List (List UInt8) := [[], [97], [98], [97, 98]]
/-- A right test of a name, and how many asks it took. -/
def predV (l : List Int) (a j : Nat) (name : List UInt8) : Pred × Nat :=
  let t := 1 + fd l a j 10
  if t = 1 then (⟨name, 1, vzero, vzero, []⟩, 1)
  else if t = 9 then (⟨name, 9, ⟨3, 0, 0, P4.getD (fd l a (j + 1) 4).toNat [], false⟩, vzero, []⟩, 2)
  else if t = 10 then (⟨name, 10, vzero, vzero, valsV l a (j + 2) ((fd l a (j + 1) 4).toNat + 1)⟩, 2 + 2 * ((fd l a (j + 1) 4).toNat + 1))
  else if t = 8 then (⟨name, 8, valueV l a (j + 1), valueV l a (j + 3), []⟩, 5)
  else (⟨name, t, valueV l a (j + 1), vzero, []⟩, 3)
end Go.Ab
namespace Go.Proofs.Ytclpbfkbpcjejaa
open Go Go.Ab
set_option linter.unusedVariables false
set_option linter.unusedSimpArgs false
set_option linter.unnecessarySimpa false
set_option maxRecDepth 20000
noncomputable section
variable (fr : Fr) (st : St) (k : Kt)
def fi52 : FI := { body := codeOf Try.f52, ntmps := 17, results := [.tmp 4], pers := [0, 1, 4, 5], locals := [], pure := true, marks := [] }
theorem fi52_eq : gS.fn 52 = some fi52 := by kernel_rfl
theorem st52 (a0 a1 : V) : startFr fi52 [a0, a1] = { ps := [(0, .val a0), (1, .val a1), (4, .any), (5, .any)], ts := [], lc := [] } := rfl
def b52 : Code := mini (codeOf Try.f52)
def c52_1 : Code := codeN b52 2
theorem e52_1 : evK gS fi52 c52_1 fr st k = opsR gS fi52 [op1 4 (.assign (.const (.int .i64 0))) 3] fr st k := evK_r 0 (by kernel_rfl)
def c52_4 : Code := codeN b52 9
theorem e52_4 : evK gS fi52 c52_4 fr st k = opsR gS fi52 [op1 6 (.move (.tmp 1)) 3,
 op1 7 (.binOp .lss 3 (.tmp 6) (.const (.int .i64 1)) 3) 4] fr st k := evK_r 1 (by kernel_rfl)
def c52_7 : Code := codeN b52 37
theorem e52_7 : evK gS fi52 c52_7 fr st k = opsR gS fi52 [op1 4 (.assign (.const (.int .i64 0))) 3] fr st k := evK_r 2 (by kernel_rfl)
def c52_8 : Code := .ret
theorem e52_8 : evK gS fi52 c52_8 fr st k = nextK gS fi52 k .ret fr st := rfl
def c52_6 : Code := .seq c52_7 c52_8
theorem e52_6 : evK gS fi52 c52_6 fr st k = evK gS fi52 c52_7 fr st (.seq c52_8 k) := rfl
def c52_9 : Code := .skip
theorem e52_9 : evK gS fi52 c52_9 fr st k = nextK gS fi52 k .normal fr st := rfl
def c52_5 : Code := .cond (.tmp 7) c52_6 c52_9
theorem e52_5 : evK gS fi52 c52_5 fr st k = condK gS fi52 (fr.op (.tmp 7)).bool? c52_6 c52_9 fr st k := rfl
def c52_3 : Code := .seq c52_4 c52_5
theorem e52_3 : evK gS fi52 c52_3 fr st k = evK gS fi52 c52_4 fr st (.seq c52_5 k) := rfl
def c52_11 : Code := codeN b52 11
theorem e52_11 : evK gS fi52 c52_11 fr st k = opsR gS fi52 [op1 8 (.move (.tmp 0)) 3,
 op1 9 (.move (.tmp 1)) 3,
 op1 10 (.binOp .rem 3 (.tmp 8) (.tmp 9) 3) 3,
 op1 5 (.assign (.tmp 10)) 3] fr st k := evK_r 3 (by kernel_rfl)
def c52_14 : Code := codeN b52 39
theorem e52_14 : evK gS fi52 c52_14 fr st k = opsR gS fi52 [op1 11 (.move (.tmp 5)) 3,
 op1 12 (.binOp .lss 3 (.tmp 11) (.const (.int .i64 0)) 3) 4] fr st k := evK_r 4 (by kernel_rfl)
def c52_16 : Code := codeN b52 87
theorem e52_16 : evK gS fi52 c52_16 fr st k = opsR gS fi52 [op1 13 (.move (.tmp 5)) 3,
 op1 14 (.move (.tmp 1)) 3,
 op1 15 (.binOp .add 3 (.tmp 13) (.tmp 14) 3) 3,
 op1 5 (.assign (.tmp 15)) 3] fr st k := evK_r 5 (by kernel_rfl)
def c52_17 : Code := .skip
theorem e52_17 : evK gS fi52 c52_17 fr st k = nextK gS fi52 k .normal fr st := rfl
def c52_15 : Code := .cond (.tmp 12) c52_16 c52_17
theorem e52_15 : evK gS fi52 c52_15 fr st k = condK gS fi52 (fr.op (.tmp 12)).bool? c52_16 c52_17 fr st k := rfl
def c52_13 : Code := .seq c52_14 c52_15
theorem e52_13 : evK gS fi52 c52_13 fr st k = evK gS fi52 c52_14 fr st (.seq c52_15 k) := rfl
def c52_19 : Code := codeN b52 47
theorem e52_19 : evK gS fi52 c52_19 fr st k = opsR gS fi52 [op1 16 (.move (.tmp 5)) 3,
 op1 4 (.assign (.tmp 16)) 3] fr st k := evK_r 6 (by kernel_rfl)
def c52_20 : Code := .ret
theorem e52_20 : evK gS fi52 c52_20 fr st k = nextK gS fi52 k .ret fr st := rfl
def c52_18 : Code := .seq c52_19 c52_20
theorem e52_18 : evK gS fi52 c52_18 fr st k = evK gS fi52 c52_19 fr st (.seq c52_20 k) := rfl
def c52_12 : Code := .seq c52_13 c52_18
theorem e52_12 : evK gS fi52 c52_12 fr st k = evK gS fi52 c52_13 fr st (.seq c52_18 k) := rfl
def c52_10 : Code := .seq c52_11 c52_12
theorem e52_10 : evK gS fi52 c52_10 fr st k = evK gS fi52 c52_11 fr st (.seq c52_12 k) := rfl
def c52_2 : Code := .seq c52_3 c52_10
theorem e52_2 : evK gS fi52 c52_2 fr st k = evK gS fi52 c52_3 fr st (.seq c52_10 k) := rfl
def c52_0 : Code := .seq c52_1 c52_2
theorem e52_0 : evK gS fi52 c52_0 fr st k = evK gS fi52 c52_1 fr st (.seq c52_2 k) := rfl
theorem m52 : mini fi52.body = c52_0 := by kernel_rfl
set_option maxHeartbeats 4000000 in
theorem c52 (n : Int) (m : Int) (hm1 : m ≤ 4611686018427387904) (st : St) : EvF gS 52 [.int .i64 n, .int .i64 m] st = some (.ret (.int .i64 (pickI n m)) none, st) := by
  refine EvF_start fi52_eq (fun x h => by cases h) m52 ?_
  rw [st52]
  have hm : fi52.marks = [] := rfl
  have hl : fi52.locals = [] := rfl
  have hr : fi52.results = [.tmp 4] := rfl
  by_cases h1 : m < 1
  · simp [h1, pickI, -Int.not_le, -Int.not_lt, -Nat.not_le, -Nat.not_lt, ty3, ty4, hm, hl, hr, e52_1, e52_4, e52_7, e52_8, e52_6, e52_9, e52_5, e52_3, e52_11, e52_14, e52_16, e52_17, e52_15, e52_13, e52_19, e52_20, e52_18, e52_12, e52_10, e52_2, e52_0]
  · have h0 : ¬ m = 0 := by omega
    have hb := tmod_bound n (m := m) (by omega)
    by_cases h2 : n.tmod m < 0
    · have hw : IntKind.wrap .i64 (n.tmod m + m) = n.tmod m + m := wrap64 (by omega) (by omega)
      simp [h1, h0, h2, hw, pickI, -Int.not_le, -Int.not_lt, -Nat.not_le, -Nat.not_lt, ty3, ty4, hm, hl, hr, e52_1, e52_4, e52_7, e52_8, e52_6, e52_9, e52_5, e52_3, e52_11, e52_14, e52_16, e52_17, e52_15, e52_13, e52_19, e52_20, e52_18, e52_12, e52_10, e52_2, e52_0]
    · simp [h1, h0, h2, pickI, -Int.not_le, -Int.not_lt, -Nat.not_le, -Nat.not_lt, ty3, ty4, hm, hl, hr, e52_1, e52_4, e52_7, e52_8, e52_6, e52_9, e52_5, e52_3, e52_11, e52_14, e52_16, e52_17, e52_15, e52_13, e52_19, e52_20, e52_18, e52_12, e52_10, e52_2, e52_0]
theorem k52 (n : Int) (m : Int) (hm1 : m ≤ 4611686018427387904) (fr : Fr) (st : St) : callStep gS (EvF gS) 52 [.int .i64 n, .int .i64 m] fr st = some (.ok (retE none (.int .i64 (pickI n m))) fr st) :=
  call_pure rfl fi52_eq rfl (fun st => c52 n m hm1 st) (by simp)
theorem x52 : gS.ext 52 = none := rfl
theorem p52 : fi52.pure = true := rfl
def fi16 : FI := { body := codeOf Try.f16, ntmps := 61, results := [.tmp 4], pers := [0, 1, 4, 5], locals := [], pure := false, marks := [] }
theorem fi16_eq : gS.fn 16 = some fi16 := by kernel_rfl
theorem st16 (a0 a1 : V) : startFr fi16 [a0, a1] = { ps := [(0, .val a0), (1, .val a1), (4, .any), (5, .any)], ts := [], lc := [] } := rfl
def b16 : Code := mini (codeOf Try.f16)
def c16_1 : Code := codeN b16 2
theorem e16_1 : evK gS fi16 c16_1 fr st k = opsR gS fi16 [op1 4 (.assign (.const (.int .i64 0))) 3] fr st k := evK_r 0 (by kernel_rfl)
def c16_4 : Code := codeN b16 9
theorem e16_4 : evK gS fi16 c16_4 fr st k = opsR gS fi16 [op1 6 (.move (.tmp 0)) 29,
 op1 7 (.nilCheck (.tmp 6)) 0,
 op1 8 (.fieldAddr 31 (.tmp 7) 0) 0,
 op1 9 (.load 28 (.tmp 8)) 28,
 op1 10 (.call { callee := (.builtin .len), args := #[(.tmp 9)], argTypes := #[28] }) 3,
 op1 11 (.binOp .eql 3 (.tmp 10) (.const (.int .i64 0)) 3) 4] fr st k := evK_r 1 (by kernel_rfl)
def c16_7 : Code := codeN b16 37
theorem e16_7 : evK gS fi16 c16_7 fr st k = opsR gS fi16 [op1 4 (.assign (.const (.int .i64 0))) 3] fr st k := evK_r 2 (by kernel_rfl)
def c16_8 : Code := .ret
theorem e16_8 : evK gS fi16 c16_8 fr st k = nextK gS fi16 k .ret fr st := rfl
def c16_6 : Code := .seq c16_7 c16_8
theorem e16_6 : evK gS fi16 c16_6 fr st k = evK gS fi16 c16_7 fr st (.seq c16_8 k) := rfl
def c16_9 : Code := .skip
theorem e16_9 : evK gS fi16 c16_9 fr st k = nextK gS fi16 k .normal fr st := rfl
def c16_5 : Code := .cond (.tmp 11) c16_6 c16_9
theorem e16_5 : evK gS fi16 c16_5 fr st k = condK gS fi16 (fr.op (.tmp 11)).bool? c16_6 c16_9 fr st k := rfl
def c16_3 : Code := .seq c16_4 c16_5
theorem e16_3 : evK gS fi16 c16_3 fr st k = evK gS fi16 c16_4 fr st (.seq c16_5 k) := rfl
def r16_11 : Array Oper := regOps (codeN (codeOf Try.f16) 11)
def c16_11 : Code := .region 3 r16_11 true
def q16_11 : List (Oper × Fl) := [(op1 12 (.move (.tmp 0)) 29, ⟨true, false, true, false, false, false, true, true, false, false, []⟩),
 (op1 13 (.nilCheck (.tmp 12)) 0, ⟨true, false, true, false, false, false, true, true, false, false, []⟩),
 (op1 14 (.fieldAddr 31 (.tmp 13) 0) 0, ⟨true, false, true, false, false, false, true, true, false, false, []⟩),
 (op1 15 (.load 28 (.tmp 14)) 28, ⟨true, false, true, false, false, false, true, true, false, false, []⟩),
 (op1 16 (.move (.tmp 0)) 29, ⟨true, false, true, false, false, false, true, true, false, false, []⟩),
 (op1 17 (.nilCheck (.tmp 16)) 0, ⟨true, false, true, false, false, false, true, true, false, false, []⟩),
 (op1 18 (.fieldAddr 31 (.tmp 17) 1) 0, ⟨true, false, true, false, false, false, true, true, false, false, []⟩),
 (op1 19 (.load 3 (.tmp 18)) 3, ⟨true, false, true, false, false, false, true, true, false, false, []⟩),
 (op1 20 (.move (.tmp 0)) 29, ⟨true, false, true, false, false, false, true, true, false, false, []⟩),
 (op1 21 (.nilCheck (.tmp 20)) 0, ⟨true, false, true, false, false, false, true, true, false, false, []⟩),
 (op1 22 (.fieldAddr 31 (.tmp 21) 0) 0, ⟨true, false, true, false, false, false, true, true, false, false, []⟩),
 (op1 23 (.load 28 (.tmp 22)) 28, ⟨true, false, true, false, false, false, true, true, false, false, []⟩),
 (op1 24 (.call { callee := (.builtin .len), args := #[(.tmp 23)], argTypes := #[28] }) 3, ⟨true, false, true, false, false, false, true, true, false, false, []⟩),
 (op1 25 (.binOp .rem 3 (.tmp 19) (.tmp 24) 3) 3, ⟨true, false, true, false, false, false, true, true, false, false, []⟩),
 (op1 26 (.indexAddr 28 (.tmp 15) (.tmp 25)) 0, ⟨true, false, true, false, false, false, true, true, false, false, []⟩),
 (op1 27 (.load 3 (.tmp 26)) 3, ⟨true, false, true, false, false, false, true, true, false, false, []⟩),
 (op1 28 (.move (.tmp 0)) 29, ⟨true, false, true, false, false, false, true, true, false, false, []⟩),
 (op1 29 (.nilCheck (.tmp 28)) 0, ⟨true, false, true, false, false, false, true, true, false, false, []⟩),
 (op1 30 (.fieldAddr 31 (.tmp 29) 1) 0, ⟨true, false, true, false, false, false, true, true, false, false, []⟩),
 (op1 31 (.load 3 (.tmp 30)) 3, ⟨true, false, true, false, false, false, true, true, false, false, []⟩),
 (op1 32 (.move (.tmp 0)) 29, ⟨true, false, true, false, false, false, true, true, false, false, []⟩),
 (op1 33 (.nilCheck (.tmp 32)) 0, ⟨true, false, true, false, false, false, true, true, false, false, []⟩),
 (op1 34 (.fieldAddr 31 (.tmp 33) 0) 0, ⟨true, false, true, false, false, false, true, true, false, false, []⟩),
 (op1 35 (.load 28 (.tmp 34)) 28, ⟨true, false, true, false, false, false, true, true, false, false, []⟩),
 (op1 36 (.call { callee := (.builtin .len), args := #[(.tmp 35)], argTypes := #[28] }) 3, ⟨true, false, true, false, false, false, true, true, false, false, []⟩),
 (op1 37 (.binOp .quo 3 (.tmp 31) (.tmp 36) 3) 3, ⟨true, false, true, false, false, false, true, true, false, false, []⟩),
 (op1 38 (.binOp .add 3 (.const (.int .i64 1)) (.tmp 37) 3) 3, ⟨true, false, true, false, false, false, true, true, false, false, []⟩),
 (op1 39 (.binOp .quo 3 (.tmp 27) (.tmp 38) 3) 3, ⟨true, false, true, false, false, false, true, true, false, false, []⟩),
 (op1 40 (.move (.tmp 0)) 29, ⟨true, false, true, false, false, false, true, true, false, false, []⟩),
 (op1 41 (.nilCheck (.tmp 40)) 0, ⟨true, false, true, false, false, false, true, true, false, false, []⟩),
 (op1 42 (.fieldAddr 31 (.tmp 41) 1) 0, ⟨true, false, true, false, false, false, true, true, false, false, []⟩),
 (op1 43 (.load 3 (.tmp 42)) 3, ⟨true, false, true, false, false, false, true, true, false, false, []⟩),
 (op1 44 (.move (.tmp 0)) 29, ⟨true, false, true, false, false, false, true, true, false, false, []⟩),
 (op1 45 (.nilCheck (.tmp 44)) 0, ⟨true, false, true, false, false, false, true, true, false, false, []⟩),
 (op1 46 (.fieldAddr 31 (.tmp 45) 0) 0, ⟨true, false, true, false, true, false, true, true, false, false, []⟩),
 (op1 47 (.load 28 (.tmp 46)) 28, ⟨true, false, true, false, true, false, true, true, false, false, []⟩),
 (op1 48 (.call { callee := (.builtin .len), args := #[(.tmp 47)], argTypes := #[28] }) 3, ⟨true, false, true, false, true, false, true, true, false, false, []⟩),
 (op1 49 (.binOp .quo 3 (.tmp 43) (.tmp 48) 3) 3, ⟨true, false, true, false, true, false, true, true, false, false, []⟩),
 (op1 50 (.binOp .add 3 (.tmp 39) (.tmp 49) 3) 3, ⟨true, false, true, false, true, false, true, true, false, false, []⟩),
 (op1 5 (.assign (.tmp 50)) 3, ⟨true, true, true, false, true, false, true, true, false, false, []⟩)]
theorem e16_11 : evK gS fi16 c16_11 fr st k = drwR gS fi16 r16_11 q16_11 fr st k := evK_dr 3 rfl (by kernel_rfl) (by kernel_rfl)
def c16_13 : Code := codeN b16 23
theorem e16_13 : evK gS fi16 c16_13 fr st k = opsR gS fi16 [op1 51 (.move (.tmp 0)) 29,
 op1 52 (.nilCheck (.tmp 51)) 0,
 op1 53 (.fieldAddr 31 (.tmp 52) 1) 0,
 op1 54 (.load 3 (.tmp 53)) 3,
 op1 55 (.binOp .add 3 (.tmp 54) (.const (.int .i64 1)) 3) 3,
 op1 56 (.nilCheck (.tmp 51)) 0,
 op1 57 (.fieldAddr 31 (.tmp 56) 1) 0,
 mk none (.store 3 (.tmp 57) (.tmp 55)) 0 none] fr st k := evK_r 4 (by kernel_rfl)
def c16_15 : Code := codeN b16 47
theorem e16_15 : evK gS fi16 c16_15 fr st k = opsR gS fi16 [op1 58 (.move (.tmp 5)) 3,
 op1 59 (.move (.tmp 1)) 3,
 op1 60 (.call { callee := (.value (.func 52)), args := #[(.tmp 58), (.tmp 59)], argTypes := #[3, 3] }) 3,
 op1 4 (.assign (.tmp 60)) 3] fr st k := evK_r 5 (by kernel_rfl)
def c16_16 : Code := .ret
theorem e16_16 : evK gS fi16 c16_16 fr st k = nextK gS fi16 k .ret fr st := rfl
def c16_14 : Code := .seq c16_15 c16_16
theorem e16_14 : evK gS fi16 c16_14 fr st k = evK gS fi16 c16_15 fr st (.seq c16_16 k) := rfl
def c16_12 : Code := .seq c16_13 c16_14
theorem e16_12 : evK gS fi16 c16_12 fr st k = evK gS fi16 c16_13 fr st (.seq c16_14 k) := rfl
def c16_10 : Code := .seq c16_11 c16_12
theorem e16_10 : evK gS fi16 c16_10 fr st k = evK gS fi16 c16_11 fr st (.seq c16_12 k) := rfl
def c16_2 : Code := .seq c16_3 c16_10
theorem e16_2 : evK gS fi16 c16_2 fr st k = evK gS fi16 c16_3 fr st (.seq c16_10 k) := rfl
def c16_0 : Code := .seq c16_1 c16_2
theorem e16_0 : evK gS fi16 c16_0 fr st k = evK gS fi16 c16_1 fr st (.seq c16_2 k) := rfl
theorem m16 : mini fi16.body = c16_0 := by kernel_rfl
set_option maxHeartbeats 8000000 in
theorem c16 (l : List Int) (a id : Nat) (n : Int) (st : St) (h : FeedAt st id l a) (ha : a < 1099511627776) (hn : n ≤ 4611686018427387904) :
    EvF gS 16 [.ptr id 0, .int .i64 n] st = some (.ret (.int .i64 (nextV l a n)) none, setF st id l (nextA l a)) := by
  refine EvF_start fi16_eq (fun x h => by cases h) m16 ?_
  rw [st16]
  have hm : fi16.marks = [] := rfl
  have hl : fi16.locals = [] := rfl
  have hr : fi16.results = [.tmp 4] := rfl
  have ho := h.1
  have hwp : ¬ id < st.wp := by have := h.2; omega
  have hwp2 : st.wp ≤ id := h.2
  have hid := h.lt
  by_cases hne : l = []
  · subst hne
    have hs : setF st id [] a = st := setF_same h
    simp [nextV, nextA, hs, ho, -Int.not_le, -Int.not_lt, -Nat.not_le, -Nat.not_lt, ty3, ty4, ty28, ty29, ty31, hm, hl, hr, k52, x52, fi52_eq, p52, e16_1, e16_4, e16_7, e16_8, e16_6, e16_9, e16_5, e16_3, e16_11, q16_11, e16_13, e16_15, e16_16, e16_14, e16_12, e16_10, e16_2, e16_0]
  · have hlen : 0 < l.length := by cases l with | nil => exact (hne rfl).elim | cons _ _ => simp
    have e0 : ¬ (l.length : Int) = 0 := by omega
    have e1 : ((a : Nat) : Int).tmod (l.length : Int) = ((a % l.length : Nat) : Int) := by rw [Int.tmod_eq_emod_of_nonneg (by omega)]; omega
    have e2 : ((a : Nat) : Int).tdiv (l.length : Int) = ((a / l.length : Nat) : Int) := by rw [Int.tdiv_eq_ediv_of_nonneg (by omega)]; omega
    have e3 := Nat.mod_lt a hlen
    have e4 : a / l.length ≤ a := Nat.div_le_self _ _
    have hx : l[a % l.length]? = some (l.getD (a % l.length) 0) := by
      rw [List.getElem?_eq_getElem e3, List.getD_eq_getElem?_getD, List.getElem?_eq_getElem e3]; rfl
    have ea : IntKind.wrap .i64 ((a : Int) + 1) = (a : Int) + 1 := wrap64 (by omega) (by omega)
    have hxe : l[a % l.length]'e3 = l.getD (a % l.length) 0 := by rw [List.getElem?_eq_getElem e3] at hx; exact Option.some.inj hx
    simp only [nextV, nextA, hne, if_false, rawAt]
    generalize l.getD (a % l.length) 0 = x at *
    generalize a % l.length = rr at *
    generalize a / l.length = qq at *
    have e5 : IntKind.wrap .i64 (qq : Int) = (qq : Int) := wrap64 (by omega) (by omega)
    have e6 : IntKind.wrap .i64 (1 + (qq : Int)) = 1 + (qq : Int) := wrap64 (by omega) (by omega)
    have e7 : ¬ (1 + (qq : Int)) = 0 := by omega
    simp [-Int.natCast_emod, -Int.natCast_ediv, setF, ho, hne, e0, e1, e2, e3, e5, e6, e7, hx, hxe, ea, hn, hwp, hwp2, -Int.not_le, -Int.not_lt, -Nat.not_le, -Nat.not_lt, ty3, ty4, ty28, ty29, ty31, hm, hl, hr, k52, x52, fi52_eq, p52, e16_1, e16_4, e16_7, e16_8, e16_6, e16_9, e16_5, e16_3, e16_11, q16_11, e16_13, e16_15, e16_16, e16_14, e16_12, e16_10, e16_2, e16_0]
theorem k16 (l : List Int) (a j id : Nat) (n : Int) (fr : Fr) (st : St) (h : FeedOk st id) (ha : a < 549755813888) (hj : j < 549755813888) (hn : n ≤ 4611686018427387904) :
    callStep gS (EvF gS) 16 [.ptr id 0, .int .i64 n] fr (setF st id l (nA l a j)) = some (.ok (.val (.int .i64 (fd l a j n))) (fr.map E.noMem) (setF st id l (nA l a (j + 1)))) := by
  have hc := c16 l (nA l a j) id n (setF st id l (nA l a j)) (feed_at h l _) (by have := nA_le l a j; omega) hn
  rw [setF_setF, nA_next] at hc
  unfold callStep
  simp only [show gS.ext 16 = none from rfl, fi16_eq, show fi16.pure = false from rfl, Bool.false_eq_true, if_false, hc, retE]
  rfl
end
end Go.Proofs.Ytclpbfkbpcjejaa
namespace Go.Proofs.Ytclpbfkbpcjejaa
open Go Go.Ab
set_option linter.unusedVariables false
set_option linter.unusedSimpArgs false
set_option linter.unnecessarySimpa false
set_option maxRecDepth 20000
noncomputable section
variable (fr : Fr) (st : St) (k : Kt)
theorem kCopy (fr : Fr) (st : St) : callStep gS (EvF gS) 100 [.float .f64 0, .float .f64 13830554455654793216] fr st = some (.ok (.val (.float .f64 9223372036854775808)) fr st) := by
  have hc : EvF gS 100 [.float .f64 0, .float .f64 13830554455654793216] ⟨[], 0⟩ = some (.ret (.float .f64 9223372036854775808) none, ⟨[], 0⟩) := Evn.lim ⟨12, fun n hn => by
    obtain ⟨m, rfl⟩ : ∃ m, n = m + 12 := ⟨n - 12, by omega⟩
    kernel_rfl⟩
  obtain ⟨fi, hf, hp⟩ : ∃ fi, gS.fn 100 = some fi ∧ fi.pure = true := by
    refine ⟨(gS.fn 100).getD ⟨.skip, 0, [], [], [], false, []⟩, by kernel_rfl, by kernel_rfl⟩
  unfold callStep
  simp only [show gS.ext 100 = none from rfl, hf, hp, if_true, show flats [.float .f64 0, .float .f64 13830554455654793216] = true from by simp, hc, show V.flat (.float .f64 9223372036854775808) = true from rfl]
  rfl
theorem kNaN (fr : Fr) (st : St) : callStep gS (EvF gS) 101 [] fr st = some (.ok (.val (.float .f64 9221120237041090561)) fr st) := by
  have hc : EvF gS 101 [] ⟨[], 0⟩ = some (.ret (.float .f64 9221120237041090561) none, ⟨[], 0⟩) := Evn.lim ⟨12, fun n hn => by
    obtain ⟨m, rfl⟩ : ∃ m, n = m + 12 := ⟨n - 12, by omega⟩
    kernel_rfl⟩
  obtain ⟨fi, hf, hp⟩ : ∃ fi, gS.fn 101 = some fi ∧ fi.pure = true := by
    refine ⟨(gS.fn 101).getD ⟨.skip, 0, [], [], [], false, []⟩, by kernel_rfl, by kernel_rfl⟩
  unfold callStep
  simp only [show gS.ext 101 = none from rfl, hf, hp, if_true, show flats [] = true from by simp, hc, show V.flat (.float .f64 9221120237041090561) = true from rfl]
  rfl
theorem kInf (fr : Fr) (st : St) : callStep gS (EvF gS) 102 [.int .i64 1] fr st = some (.ok (.val (.float .f64 9218868437227405312)) fr st) := by
  have hc : EvF gS 102 [.int .i64 1] ⟨[], 0⟩ = some (.ret (.float .f64 9218868437227405312) none, ⟨[], 0⟩) := Evn.lim ⟨12, fun n hn => by
    obtain ⟨m, rfl⟩ : ∃ m, n = m + 12 := ⟨n - 12, by omega⟩
    kernel_rfl⟩
  obtain ⟨fi, hf, hp⟩ : ∃ fi, gS.fn 102 = some fi ∧ fi.pure = true := by
    refine ⟨(gS.fn 102).getD ⟨.skip, 0, [], [], [], false, []⟩, by kernel_rfl, by kernel_rfl⟩
  unfold callStep
  simp only [show gS.ext 102 = none from rfl, hf, hp, if_true, show flats [.int .i64 1] = true from by simp, hc, show V.flat (.float .f64 9218868437227405312) = true from rfl]
  rfl
theorem kInf2 (fr : Fr) (st : St) : callStep gS (EvF gS) 102 [.int .i64 (-1)] fr st = some (.ok (.val (.float .f64 18442240474082181120)) fr st) := by
  have hc : EvF gS 102 [.int .i64 (-1)] ⟨[], 0⟩ = some (.ret (.float .f64 18442240474082181120) none, ⟨[], 0⟩) := Evn.lim ⟨12, fun n hn => by
    obtain ⟨m, rfl⟩ : ∃ m, n = m + 12 := ⟨n - 12, by omega⟩
    kernel_rfl⟩
  obtain ⟨fi, hf, hp⟩ : ∃ fi, gS.fn 102 = some fi ∧ fi.pure = true := by
    refine ⟨(gS.fn 102).getD ⟨.skip, 0, [], [], [], false, []⟩, by kernel_rfl, by kernel_rfl⟩
  unfold callStep
  simp only [show gS.ext 102 = none from rfl, hf, hp, if_true, show flats [.int .i64 (-1)] = true from by simp, hc, show V.flat (.float .f64 18442240474082181120) = true from rfl]
  rfl
def fi66 : FI := { body := codeOf Try.f66, ntmps := 13, results := [.tmp 2], pers := [0, 2, 3], locals := [3], pure := false, marks := [] }
theorem fi66_eq : gS.fn 66 = some fi66 := by kernel_rfl
theorem st66 (a0 : V) : startFr fi66 [a0] = { ps := [(0, .val a0), (2, .any), (3, .any)], ts := [], lc := [] } := rfl
def b66 : Code := mini (codeOf Try.f66)
def c66_1 : Code := codeN b66 2
theorem e66_1 : evK gS fi66 c66_1 fr st k = opsR gS fi66 [op1 2 (.assign (.const (.float .f64 0))) 22] fr st k := evK_r 0 (by kernel_rfl)
def c66_3 : Code := codeN b66 5
theorem e66_3 : evK gS fi66 c66_3 fr st k = opsR gS fi66 [op1 4 (.call { callee := (.value (.func 100)), args := #[(.const (.float .f64 0)), (.const (.float .f64 13830554455654793216))], argTypes := #[22, 22] }) 22,
 op1 5 (.call { callee := (.value (.func 101)), args := #[], argTypes := #[] }) 22,
 op1 6 (.call { callee := (.value (.func 102)), args := #[(.const (.int .i64 1))], argTypes := #[3] }) 22,
 op1 7 (.call { callee := (.value (.func 102)), args := #[(.const (.int .i64 (-1)))], argTypes := #[3] }) 22,
 op1 8 (.build 117 #[(0, (.const (.float .f64 0))), (1, (.tmp 4)), (2, (.const (.float .f64 4607182418800017408))), (3, (.const (.float .f64 4609434218613702656))), (4, (.const (.float .f64 4611686018427387904))), (5, (.const (.float .f64 4613937818241073152))), (6, (.const (.float .f64 13830554455654793216))), (7, (.const (.float .f64 4591870180066957722))), (8, (.tmp 5)), (9, (.tmp 6)), (10, (.tmp 7)), (11, (.const (.float .f64 4845873199050653696))), (12, (.const (.float .f64 4890909195324358656))), (13, (.const (.float .f64 1)))]) 117,
 op1 3 (.alloc 117) 0,
 mk none (.store 117 (.tmp 3) (.tmp 8)) 0 none] fr st k := evK_r 1 (by kernel_rfl)
def c66_5 : Code := codeN b66 11
theorem e66_5 : evK gS fi66 c66_5 fr st k = opsR gS fi66 [op1 9 (.move (.tmp 0)) 29,
 op1 10 (.call { callee := (.value (.func 16)), args := #[(.tmp 9), (.const (.int .i64 14))], argTypes := #[29, 3] }) 3,
 op1 11 (.indexAddr 117 (.tmp 3) (.tmp 10)) 0,
 op1 12 (.load 22 (.tmp 11)) 22,
 op1 2 (.assign (.tmp 12)) 22] fr st k := evK_r 2 (by kernel_rfl)
def c66_6 : Code := .ret
theorem e66_6 : evK gS fi66 c66_6 fr st k = nextK gS fi66 k .ret fr st := rfl
def c66_4 : Code := .seq c66_5 c66_6
theorem e66_4 : evK gS fi66 c66_4 fr st k = evK gS fi66 c66_5 fr st (.seq c66_6 k) := rfl
def c66_2 : Code := .seq c66_3 c66_4
theorem e66_2 : evK gS fi66 c66_2 fr st k = evK gS fi66 c66_3 fr st (.seq c66_4 k) := rfl
def c66_0 : Code := .seq c66_1 c66_2
theorem e66_0 : evK gS fi66 c66_0 fr st k = evK gS fi66 c66_1 fr st (.seq c66_2 k) := rfl
theorem m66 : mini fi66.body = c66_0 := by kernel_rfl
set_option maxHeartbeats 8000000 in
theorem c66 (l : List Int) (a j id : Nat) (st : St) (h : FeedOk st id) (ha : a < 549755813888) (hj : j < 549755813888) :
    EvF gS 66 [.ptr id 0] (setF st id l (nA l a j)) = some (.ret (.float .f64 (floatV l a j)) none, setF st id l (nA l a (j + 1))) := by
  refine EvF_start fi66_eq (fun x h => by cases h) m66 ?_
  rw [st66]
  have hm : fi66.marks = [] := rfl
  have hl : fi66.locals = [3] := rfl
  have hr : fi66.results = [.tmp 2] := rfl
  have hb := fd_bound l a j (n := 14) (by omega)
  unfold floatV
  have hk := fun fr => k16 l a j id 14 fr st h ha hj (by omega)
  generalize fd l a j 14 = z at *
  have hz : z = 0 ∨ z = 1 ∨ z = 2 ∨ z = 3 ∨ z = 4 ∨ z = 5 ∨ z = 6 ∨ z = 7 ∨ z = 8 ∨ z = 9 ∨ z = 10 ∨ z = 11 ∨ z = 12 ∨ z = 13 := by omega
  rcases hz with rfl | rfl | rfl | rfl | rfl | rfl | rfl | rfl | rfl | rfl | rfl | rfl | rfl | rfl <;>
    simp [F14, hk, -Int.not_le, -Int.not_lt, -Nat.not_le, -Nat.not_lt, ty3, ty22, ty29, ty117, hm, hl, hr, kCopy, kNaN, kInf, kInf2, e66_1, e66_3, e66_5, e66_6, e66_4, e66_2, e66_0]
theorem k66 (l : List Int) (a j id : Nat) (fr : Fr) (st : St) (h : FeedOk st id) (ha : a < 549755813888) (hj : j < 549755813000) :
    callStep gS (EvF gS) 66 [.ptr id 0] fr (setF st id l (nA l a j)) = some (.ok (.val (.float .f64 (floatV l a j))) (fr.map E.noMem) (setF st id l (nA l a (j + 1)))) := by
  unfold callStep
  simp only [show gS.ext 66 = none from rfl, fi66_eq, show fi66.pure = false from rfl, Bool.false_eq_true, if_false, c66 l a j id st h ha (by omega), retE]
  all_goals rfl
def fi17 : FI := { body := codeOf Try.f17, ntmps := 38, results := [.cell 2 24], pers := [0, 2, 3, 4, 6, 7], locals := [2, 3, 4], pure := false, marks := [] }
theorem fi17_eq : gS.fn 17 = some fi17 := by kernel_rfl
theorem st17 (a0 : V) : startFr fi17 [a0] = { ps := [(0, .val a0), (2, .any), (3, .any), (4, .any), (6, .any), (7, .any)], ts := [], lc := [] } := rfl
def b17 : Code := mini (codeOf Try.f17)
def c17_1 : Code := codeN b17 2
theorem e17_1 : evK gS fi17 c17_1 fr st k = opsR gS fi17 [op1 2 (.alloc 24) 0] fr st k := evK_r 0 (by kernel_rfl)
def c17_4 : Code := codeN b17 9
theorem e17_4 : evK gS fi17 c17_4 fr st k = opsR gS fi17 [op1 5 (.move (.tmp 0)) 29,
 op1 6 (.call { callee := (.value (.func 16)), args := #[(.tmp 5), (.const (.int .i64 8))], argTypes := #[29, 3] }) 3] fr st k := evK_r 1 (by kernel_rfl)
def c17_8 : Code := codeN b17 69
theorem e17_8 : evK gS fi17 c17_8 fr st k = opsR gS fi17 [op1 8 (.binOp .eql 3 (.tmp 6) (.const (.int .i64 0)) 3) 4,
 op1 7 (.assign (.tmp 8)) 4] fr st k := evK_r 2 (by kernel_rfl)
def c17_10 : Code := .skip
theorem e17_10 : evK gS fi17 c17_10 fr st k = nextK gS fi17 k .normal fr st := rfl
def c17_11 : Code := codeN b17 229
theorem e17_11 : evK gS fi17 c17_11 fr st k = opsR gS fi17 [op1 9 (.binOp .eql 3 (.tmp 6) (.const (.int .i64 1)) 3) 4,
 op1 7 (.assign (.tmp 9)) 4] fr st k := evK_r 3 (by kernel_rfl)
def c17_9 : Code := .cond (.tmp 7) c17_10 c17_11
theorem e17_9 : evK gS fi17 c17_9 fr st k = condK gS fi17 (fr.op (.tmp 7)).bool? c17_10 c17_11 fr st k := rfl
def c17_7 : Code := .seq c17_8 c17_9
theorem e17_7 : evK gS fi17 c17_7 fr st k = evK gS fi17 c17_8 fr st (.seq c17_9 k) := rfl
def c17_14 : Code := codeN b17 149
theorem e17_14 : evK gS fi17 c17_14 fr st k = opsR gS fi17 [op1 10 (.move (.tmp 0)) 29,
 op1 11 (.call { callee := (.value (.func 66)), args := #[(.tmp 10)], argTypes := #[29] }) 22,
 op1 12 (.build 24 #[(0, (.const (.int .i64 2))), (2, (.tmp 11))]) 24,
 mk none (.store 24 (.tmp 2) (.tmp 12)) 0 none] fr st k := evK_r 4 (by kernel_rfl)
def c17_15 : Code := .ret
theorem e17_15 : evK gS fi17 c17_15 fr st k = nextK gS fi17 k .ret fr st := rfl
def c17_13 : Code := .seq c17_14 c17_15
theorem e17_13 : evK gS fi17 c17_13 fr st k = evK gS fi17 c17_14 fr st (.seq c17_15 k) := rfl
def c17_17 : Code := codeN b17 181
theorem e17_17 : evK gS fi17 c17_17 fr st k = opsR gS fi17 [op1 14 (.binOp .eql 3 (.tmp 6) (.const (.int .i64 2)) 3) 4,
 op1 13 (.assign (.tmp 14)) 4] fr st k := evK_r 5 (by kernel_rfl)
def c17_20 : Code := codeN b17 629
theorem e17_20 : evK gS fi17 c17_20 fr st k = opsR gS fi17 [op1 15 (.build 89 #[(0, (.const (.string { data := #[] }))), (1, (.const (.string { data := #[97] }))), (2, (.const (.string { data := #[97, 98] }))), (3, (.const (.string { data := #[98] }))), (4, (.const (.string { data := #[98, 97] }))), (5, (.const (.string { data := #[116, 119, 101, 108, 118, 101, 32, 98, 121, 116, 101, 115] })))]) 89,
 op1 3 (.alloc 89) 0,
 mk none (.store 89 (.tmp 3) (.tmp 15)) 0 none] fr st k := evK_r 6 (by kernel_rfl)
def c17_22 : Code := codeN b17 1397
theorem e17_22 : evK gS fi17 c17_22 fr st k = opsR gS fi17 [op1 16 (.move (.tmp 0)) 29,
 op1 17 (.call { callee := (.value (.func 16)), args := #[(.tmp 16), (.const (.int .i64 6))], argTypes := #[29, 3] }) 3,
 op1 18 (.indexAddr 89 (.tmp 3) (.tmp 17)) 0,
 op1 19 (.load 9 (.tmp 18)) 9,
 op1 20 (.build 24 #[(0, (.const (.int .i64 3))), (3, (.tmp 19))]) 24,
 mk none (.store 24 (.tmp 2) (.tmp 20)) 0 none] fr st k := evK_r 7 (by kernel_rfl)
def c17_23 : Code := .ret
theorem e17_23 : evK gS fi17 c17_23 fr st k = nextK gS fi17 k .ret fr st := rfl
def c17_21 : Code := .seq c17_22 c17_23
theorem e17_21 : evK gS fi17 c17_21 fr st k = evK gS fi17 c17_22 fr st (.seq c17_23 k) := rfl
def c17_19 : Code := .seq c17_20 c17_21
theorem e17_19 : evK gS fi17 c17_19 fr st k = evK gS fi17 c17_20 fr st (.seq c17_21 k) := rfl
def c17_25 : Code := codeN b17 757
theorem e17_25 : evK gS fi17 c17_25 fr st k = opsR gS fi17 [op1 22 (.binOp .eql 3 (.tmp 6) (.const (.int .i64 3)) 3) 4,
 op1 21 (.assign (.tmp 22)) 4] fr st k := evK_r 8 (by kernel_rfl)
def c17_28 : Code := codeN b17 2549
theorem e17_28 : evK gS fi17 c17_28 fr st k = opsR gS fi17 [op1 23 (.move (.tmp 0)) 29,
 op1 24 (.call { callee := (.value (.func 16)), args := #[(.tmp 23), (.const (.int .i64 2))], argTypes := #[29, 3] }) 3,
 op1 25 (.binOp .eql 3 (.tmp 24) (.const (.int .i64 1)) 3) 4,
 op1 26 (.build 24 #[(0, (.const (.int .i64 4))), (4, (.tmp 25))]) 24,
 mk none (.store 24 (.tmp 2) (.tmp 26)) 0 none] fr st k := evK_r 9 (by kernel_rfl)
def c17_29 : Code := .ret
theorem e17_29 : evK gS fi17 c17_29 fr st k = nextK gS fi17 k .ret fr st := rfl
def c17_27 : Code := .seq c17_28 c17_29
theorem e17_27 : evK gS fi17 c17_27 fr st k = evK gS fi17 c17_28 fr st (.seq c17_29 k) := rfl
def c17_31 : Code := codeN b17 3061
theorem e17_31 : evK gS fi17 c17_31 fr st k = opsR gS fi17 [op1 28 (.binOp .eql 3 (.tmp 6) (.const (.int .i64 4)) 3) 4,
 op1 27 (.assign (.tmp 28)) 4] fr st k := evK_r 10 (by kernel_rfl)
def c17_34 : Code := codeN b17 10229
theorem e17_34 : evK gS fi17 c17_34 fr st k = opsR gS fi17 [op1 29 (.build 90 #[(0, (.const (.int .i64 (-9223372036854775808)))), (1, (.const (.int .i64 9223372036854775807))), (2, (.const (.int .i64 9007199254740992))), (3, (.const (.int .i64 9007199254740993))), (4, (.const (.int .i64 (-1)))), (5, (.const (.int .i64 4611686018427387904)))]) 90,
 op1 4 (.alloc 90) 0,
 mk none (.store 90 (.tmp 4) (.tmp 29)) 0 none] fr st k := evK_r 11 (by kernel_rfl)
def c17_36 : Code := codeN b17 22517
theorem e17_36 : evK gS fi17 c17_36 fr st k = opsR gS fi17 [op1 30 (.move (.tmp 0)) 29,
 op1 31 (.call { callee := (.value (.func 16)), args := #[(.tmp 30), (.const (.int .i64 6))], argTypes := #[29, 3] }) 3,
 op1 32 (.indexAddr 90 (.tmp 4) (.tmp 31)) 0,
 op1 33 (.load 2 (.tmp 32)) 2,
 op1 34 (.build 24 #[(0, (.const (.int .i64 1))), (1, (.tmp 33))]) 24,
 mk none (.store 24 (.tmp 2) (.tmp 34)) 0 none] fr st k := evK_r 12 (by kernel_rfl)
def c17_37 : Code := .ret
theorem e17_37 : evK gS fi17 c17_37 fr st k = nextK gS fi17 k .ret fr st := rfl
def c17_35 : Code := .seq c17_36 c17_37
theorem e17_35 : evK gS fi17 c17_35 fr st k = evK gS fi17 c17_36 fr st (.seq c17_37 k) := rfl
def c17_33 : Code := .seq c17_34 c17_35
theorem e17_33 : evK gS fi17 c17_33 fr st k = evK gS fi17 c17_34 fr st (.seq c17_35 k) := rfl
def c17_38 : Code := .skip
theorem e17_38 : evK gS fi17 c17_38 fr st k = nextK gS fi17 k .normal fr st := rfl
def c17_32 : Code := .cond (.tmp 27) c17_33 c17_38
theorem e17_32 : evK gS fi17 c17_32 fr st k = condK gS fi17 (fr.op (.tmp 27)).bool? c17_33 c17_38 fr st k := rfl
def c17_30 : Code := .seq c17_31 c17_32
theorem e17_30 : evK gS fi17 c17_30 fr st k = evK gS fi17 c17_31 fr st (.seq c17_32 k) := rfl
def c17_26 : Code := .cond (.tmp 21) c17_27 c17_30
theorem e17_26 : evK gS fi17 c17_26 fr st k = condK gS fi17 (fr.op (.tmp 21)).bool? c17_27 c17_30 fr st k := rfl
def c17_24 : Code := .seq c17_25 c17_26
theorem e17_24 : evK gS fi17 c17_24 fr st k = evK gS fi17 c17_25 fr st (.seq c17_26 k) := rfl
def c17_18 : Code := .cond (.tmp 13) c17_19 c17_24
theorem e17_18 : evK gS fi17 c17_18 fr st k = condK gS fi17 (fr.op (.tmp 13)).bool? c17_19 c17_24 fr st k := rfl
def c17_16 : Code := .seq c17_17 c17_18
theorem e17_16 : evK gS fi17 c17_16 fr st k = evK gS fi17 c17_17 fr st (.seq c17_18 k) := rfl
def c17_12 : Code := .cond (.tmp 7) c17_13 c17_16
theorem e17_12 : evK gS fi17 c17_12 fr st k = condK gS fi17 (fr.op (.tmp 7)).bool? c17_13 c17_16 fr st k := rfl
def c17_6 : Code := .seq c17_7 c17_12
theorem e17_6 : evK gS fi17 c17_6 fr st k = evK gS fi17 c17_7 fr st (.seq c17_12 k) := rfl
def c17_5 : Code := .block 0 c17_6
theorem e17_5 : evK gS fi17 c17_5 fr st k = evK gS fi17 c17_6 fr st (.blk 0 k) := rfl
def c17_3 : Code := .seq c17_4 c17_5
theorem e17_3 : evK gS fi17 c17_3 fr st k = evK gS fi17 c17_4 fr st (.seq c17_5 k) := rfl
def c17_40 : Code := codeN b17 11
theorem e17_40 : evK gS fi17 c17_40 fr st k = opsR gS fi17 [op1 35 (.move (.tmp 0)) 29,
 op1 36 (.call { callee := (.value (.func 16)), args := #[(.tmp 35), (.const (.int .i64 5))], argTypes := #[29, 3] }) 3,
 op1 37 (.build 24 #[(0, (.const (.int .i64 1))), (1, (.tmp 36))]) 24,
 mk none (.store 24 (.tmp 2) (.tmp 37)) 0 none] fr st k := evK_r 13 (by kernel_rfl)
def c17_41 : Code := .ret
theorem e17_41 : evK gS fi17 c17_41 fr st k = nextK gS fi17 k .ret fr st := rfl
def c17_39 : Code := .seq c17_40 c17_41
theorem e17_39 : evK gS fi17 c17_39 fr st k = evK gS fi17 c17_40 fr st (.seq c17_41 k) := rfl
def c17_2 : Code := .seq c17_3 c17_39
theorem e17_2 : evK gS fi17 c17_2 fr st k = evK gS fi17 c17_3 fr st (.seq c17_39 k) := rfl
def c17_0 : Code := .seq c17_1 c17_2
theorem e17_0 : evK gS fi17 c17_0 fr st k = evK gS fi17 c17_1 fr st (.seq c17_2 k) := rfl
theorem m17 : mini fi17.body = c17_0 := by kernel_rfl
set_option maxHeartbeats 8000000 in
theorem c17 (l : List Int) (a j id : Nat) (st : St) (h : FeedOk st id) (ha : a < 549755813888) (hj : j < 549755812000) :
    EvF gS 17 [.ptr id 0] (setF st id l (nA l a j)) = some (.ret (valueV l a j).enc none, setF st id l (nA l a (j + 2))) := by
  refine EvF_start fi17_eq (fun x h => by cases h) m17 ?_
  rw [st17]
  have hm : fi17.marks = [] := rfl
  have hl : fi17.locals = [2, 3, 4] := rfl
  have hr : fi17.results = [.cell 2 24] := rfl
  have hb := fd_bound l a j (n := 8) (by omega)
  have hb6 := fd_bound l a (j + 1) (n := 6) (by omega)
  unfold valueV
  have hk := fun fr => k16 l a j id 8 fr st h ha (by omega) (by omega)
  have hk6 := fun fr => k16 l a (j + 1) id 6 fr st h ha (by omega) (by omega)
  have hk2 := fun fr => k16 l a (j + 1) id 2 fr st h ha (by omega) (by omega)
  have hk5 := fun fr => k16 l a (j + 1) id 5 fr st h ha (by omega) (by omega)
  have hf1 := fun fr => k66 l a (j + 1) id fr st h ha (by omega)
  generalize fd l a j 8 = z at *
  generalize fd l a (j + 1) 6 = y at *
  have hz : z = 0 ∨ z = 1 ∨ z = 2 ∨ z = 3 ∨ z = 4 ∨ z = 5 ∨ z = 6 ∨ z = 7 := by omega
  have hy : y = 0 ∨ y = 1 ∨ y = 2 ∨ y = 3 ∨ y = 4 ∨ y = 5 := by omega
  rcases hz with rfl | rfl | rfl | rfl | rfl | rfl | rfl | rfl
  case inr.inr.inl => rcases hy with rfl | rfl | rfl | rfl | rfl | rfl <;> simp [T6, hk, hk6, hk2, hk5, hf1, -Int.not_le, -Int.not_lt, -Nat.not_le, -Nat.not_lt, ty2, ty3, ty4, ty9, ty22, ty24, ty29, ty89, ty90, eq24, hm, hl, hr, e17_1, e17_4, e17_8, e17_10, e17_11, e17_9, e17_7, e17_14, e17_15, e17_13, e17_17, e17_20, e17_22, e17_23, e17_21, e17_19, e17_25, e17_28, e17_29, e17_27, e17_31, e17_34, e17_36, e17_37, e17_35, e17_33, e17_38, e17_32, e17_30, e17_26, e17_24, e17_18, e17_16, e17_12, e17_6, e17_5, e17_3, e17_40, e17_41, e17_39, e17_2, e17_0]
  case inr.inr.inr.inr.inl => rcases hy with rfl | rfl | rfl | rfl | rfl | rfl <;> simp [N6, hk, hk6, hk2, hk5, hf1, -Int.not_le, -Int.not_lt, -Nat.not_le, -Nat.not_lt, ty2, ty3, ty4, ty9, ty22, ty24, ty29, ty89, ty90, eq24, hm, hl, hr, e17_1, e17_4, e17_8, e17_10, e17_11, e17_9, e17_7, e17_14, e17_15, e17_13, e17_17, e17_20, e17_22, e17_23, e17_21, e17_19, e17_25, e17_28, e17_29, e17_27, e17_31, e17_34, e17_36, e17_37, e17_35, e17_33, e17_38, e17_32, e17_30, e17_26, e17_24, e17_18, e17_16, e17_12, e17_6, e17_5, e17_3, e17_40, e17_41, e17_39, e17_2, e17_0]
  all_goals simp [hk, hk6, hk2, hk5, hf1, -Int.not_le, -Int.not_lt, -Nat.not_le, -Nat.not_lt, ty2, ty3, ty4, ty9, ty22, ty24, ty29, ty89, ty90, eq24, hm, hl, hr, e17_1, e17_4, e17_8, e17_10, e17_11, e17_9, e17_7, e17_14, e17_15, e17_13, e17_17, e17_20, e17_22, e17_23, e17_21, e17_19, e17_25, e17_28, e17_29, e17_27, e17_31, e17_34, e17_36, e17_37, e17_35, e17_33, e17_38, e17_32, e17_30, e17_26, e17_24, e17_18, e17_16, e17_12, e17_6, e17_5, e17_3, e17_40, e17_41, e17_39, e17_2, e17_0]
end
end Go.Proofs.Ytclpbfkbpcjejaa
namespace Go.Ab
open Go
set_option linter.unusedVariables false
set_option linter.unusedSimpArgs false
set_option linter.unnecessarySimpa false
/-- So many objects more that are given up. -/
def dd (st : St) (m : Nat) : St := { st with objs := st.objs ++ List.replicate m [] }
/-- And one behind them. -/
def nw (st : St) (m : Nat) (cs : List V) : St := { st with objs := st.objs ++ (List.replicate m [] ++ [cs]) }
theorem dd_zero (st : St) : dd st 0 = st := by unfold dd; simp
theorem dd_len (st : St) (m : Nat) : (dd st m).objs.length = st.objs.length + m := by simp [dd]
theorem gr_len (st : St) (m : Nat) (cs : List V) : (nw st m cs).objs.length = st.objs.length + m + 1 := by simp [nw]; omega
theorem setF_len (st : St) (id : Nat) (l : List Int) (a : Nat) : (setF st id l a).objs.length = st.objs.length := by simp [setF]
theorem setF_wp (st : St) (id : Nat) (l : List Int) (a : Nat) : (setF st id l a).wp = st.wp := rfl
theorem gr_wp (st : St) (m : Nat) (cs : List V) : (nw st m cs).wp = st.wp := rfl
theorem FeedOk.dd {st : St} {id : Nat} (h : FeedOk st id) (m : Nat) : FeedOk (dd st m) id := ⟨by rw [dd_len]; have := h.1; omega, h.2⟩
theorem FeedOk.nw {st : St} {id : Nat} (h : FeedOk st id) (m : Nat) (cs : List V) : FeedOk (nw st m cs) id := ⟨by rw [gr_len]; have := h.1; omega, h.2⟩
theorem FeedOk.setF {st : St} {id id' : Nat} (h : FeedOk st id) (l : List Int) (a : Nat) : FeedOk (setF st id' l a) id := ⟨by rw [setF_len]; exact h.1, h.2⟩
theorem setF_dd {st : St} {id : Nat} (h : FeedOk st id) (m : Nat) (l : List Int) (a : Nat) : dd (setF st id l a) m = setF (dd st m) id l a := by
  unfold dd setF; simp only [St.mk.injEq, and_true]; rw [List.set_append_left _ _ h.1]
theorem setF_gr {st : St} {id : Nat} (h : FeedOk st id) (m : Nat) (cs : List V) (l : List Int) (a : Nat) : nw (setF st id l a) m cs = setF (nw st m cs) id l a := by
  unfold nw setF; simp only [St.mk.injEq, and_true]; rw [List.set_append_left _ _ h.1]
theorem gr_obj (st : St) (m : Nat) (cs : List V) : (nw st m cs).objs[st.objs.length + m]? = some cs := by
  simp [nw]
theorem obj_gr {st : St} {id : Nat} (h : FeedOk st id) (m : Nat) (cs : List V) (l : List Int) (a : Nat) : St.obj (setF (nw st m cs) id l a) (st.objs.length + m) = some cs := by
  unfold St.obj setF
  show ((nw st m cs).objs.set id _)[_]? = _
  rw [List.getElem?_set_ne (by have := h.1; omega), gr_obj]
theorem set_gr {st : St} {id : Nat} (h : FeedOk st id) (m : Nat) (cs : List V) (l : List Int) (a : Nat) : St.set (setF (nw st m cs) id l a) (st.objs.length + m) [] = some (setF (dd st (m + 1)) id l a) := by
  have h1 := h.1
  have h2 := h.2
  unfold St.set
  rw [if_pos (by rw [setF_wp, gr_wp]; omega)]
  rw [← setF_gr h, ← setF_dd h]
  unfold nw dd
  simp only [Option.some.injEq, St.mk.injEq, and_true]
  rw [List.set_append_right _ _ (by rw [setF_len]; omega), setF_len, show st.objs.length + m - st.objs.length = m by omega, List.set_append_right _ _ (by simp), List.replicate_succ', List.length_replicate, Nat.sub_self]
  rfl
theorem newRef_dd {st : St} {id : Nat} (h : FeedOk st id) (fr : Fr) (m k len : Nat) (cs : List V) (l : List Int) (a : Nat) :
    newRef fr (setF (dd st m) id l a) k len cs = .ok (.val (.sref false k (st.objs.length + m) 0 len)) fr (setF (nw st m cs) id l a) := by
  unfold newRef
  rw [setF_len, dd_len, ← setF_dd h, ← setF_gr h]
  unfold nw dd
  simp
theorem newRef_setF {st : St} {id : Nat} (h : FeedOk st id) (fr : Fr) (k len : Nat) (cs : List V) (l : List Int) (a : Nat) :
    newRef fr (setF st id l a) k len cs = .ok (.val (.sref false k st.objs.length 0 len)) fr (setF (nw st 0 cs) id l a) := by
  have := newRef_dd h fr 0 k len cs l a
  rw [dd_zero] at this
  exact this
mutual
theorem frz_flat : ∀ (n : Nat) (st : St) (v : V), v.flat = true → frz n st v = some (v, st)
  | 0, _, _, _ => by unfold frz; rfl
  | n + 1, st, v, h => by
    unfold frz
    split
    · simp [V.flat] at h
    · rw [frzL_flat n st _ (by simpa [V.flat] using h)]
    · rw [frzL_flat n st _ (by simpa [V.flat] using h)]
    · rfl
    · rw [if_pos (by simpa [V.flat] using h)]
    · rfl
theorem frzL_flat : ∀ (n : Nat) (st : St) (l : List V), flats l = true → frzL (frz n) st l = some (l, st)
  | _, _, [], _ => rfl
  | n, st, v :: r, h => by
    simp only [flats, Bool.and_eq_true] at h
    unfold frzL
    rw [frz_flat n st v h.1]
    simp only
    rw [frzL_flat n st r h.2]
end
theorem frzL_cons {f : St → V → Option (V × St)} {st st' : St} {v v' : V} {r : List V} (h : f st v = some (v', st')) : frzL f st (v :: r) = match frzL f st' r with
      | some (r', st'') => some (v' :: r', st'')
      | none => none := by
  simp only [frzL, h]
  cases frzL f st' r with
  | none => rfl
  | some x => rfl
theorem frzL_append {f : St → V → Option (V × St)} {st st' st'' : St} : ∀ {xs xs' ys ys' : List V}, frzL f st xs = some (xs', st') → frzL f st' ys = some (ys', st'') → frzL f st (xs ++ ys) = some (xs' ++ ys', st'')
  | [], _, _, _, h, k => by unfold frzL at h; cases h; exact k
  | v :: r, _, ys, ys', h, k => by
    unfold frzL at h
    split at h
    · rename_i v' st1 h1
      split at h
      · rename_i r' st2 h2
        cases h
        rw [List.cons_append, frzL_cons h1, frzL_append h2 k]; rfl
      · cases h
    · cases h
theorem chunk_enc {α : Type} (cells : α → List V) (k : Nat) (hk : 0 < k) (hl : ∀ x, (cells x).length = k) : ∀ (vs : List α), chunk true k vs.length (vs.flatMap cells) = vs.map fun x => V.agg (cells x)
  | [] => rfl
  | x :: r => by
    rw [List.length_cons, chunk, List.flatMap_cons, List.take_left' (hl x), List.drop_left' (hl x), chunk_enc cells k hk hl r]; rfl
theorem vals_cells_len (vs : List Val) : (vs.flatMap Val.cells).length = vs.length * 5 := by
  induction vs with
  | nil => rfl
  | cons x r ih => simp [List.flatMap_cons, ih, Val.cells]; omega
theorem vals_cells_one (vs : List Val) : (vs.flatMap Val.cells).all V.one = true := by
  induction vs with
  | nil => rfl
  | cons x r ih => simp [List.flatMap_cons, ih, Val.cells, V.one]
theorem vals_cells_flat (vs : List Val) : flats (vs.flatMap Val.cells) = true := by
  induction vs with
  | nil => rfl
  | cons x r ih =>
    have : ∀ (a b : List V), flats a = true → flats b = true → flats (a ++ b) = true := by
      intro a
      induction a with
      | nil => intro b _ h; exact h
      | cons v a iha => intro b h1 h2; simp only [flats, List.cons_append, Bool.and_eq_true] at h1 ⊢; exact ⟨h1.1, iha b h1.2 h2⟩
    rw [List.flatMap_cons]
    exact this _ _ (by simp [Val.cells, flats, V.flat]) ih
theorem vals_cells_strip (vs : List Val) : (vs.flatMap Val.cells).map V.strip1 = vs.flatMap Val.cells := by
  induction vs with
  | nil => rfl
  | cons x r ih => simp [List.flatMap_cons, ih, Val.cells, V.strip1]
theorem chunk_vals (vs : List Val) : chunk true 5 vs.length (vs.flatMap Val.cells) = encVals vs := chunk_enc Val.cells 5 (by omega) (fun _ => rfl) vs
theorem frz_predcells {st st' : St} {n : Nat} {a0 a1 a2 a3 a4 a5 a6 a7 a8 a9 a10 a11 s s' : V} (hf : flats [a0, a1, a2, a3, a4, a5, a6, a7, a8, a9, a10, a11] = true) (hs : frz n st s = some (s', st')) :
    frz (n + 1) st (.agg [a0, a1, a2, a3, a4, a5, a6, a7, a8, a9, a10, a11, s]) = some (.agg [a0, a1, a2, a3, a4, a5, a6, a7, a8, a9, a10, a11, s'], st') := by
  unfold frz
  have h1 := frzL_flat n st _ hf
  have h2 : frzL (frz n) st [s] = some ([s'], st') := by rw [frzL_cons hs]; rfl
  have := frzL_append h1 h2
  simp only [List.cons_append, List.nil_append] at this
  simp only [this]
theorem frz_nil (n : Nat) (st : St) : frz (n + 1) st (.sref true 0 0 0 0) = some (.slice [], st) := by unfold frz; rfl
theorem w64_1 : IntKind.wrap .i64 1 = 1 := by kernel_rfl
theorem w64_2 : IntKind.wrap .i64 2 = 2 := by kernel_rfl
theorem w64_3 : IntKind.wrap .i64 3 = 3 := by kernel_rfl
theorem w64_4 : IntKind.wrap .i64 4 = 4 := by kernel_rfl
theorem w64_5 : IntKind.wrap .i64 5 = 5 := by kernel_rfl
theorem w64_6 : IntKind.wrap .i64 6 = 6 := by kernel_rfl
theorem w64_7 : IntKind.wrap .i64 7 = 7 := by kernel_rfl
theorem w64_8 : IntKind.wrap .i64 8 = 8 := by kernel_rfl
theorem w64_9 : IntKind.wrap .i64 9 = 9 := by kernel_rfl
theorem w64_10 : IntKind.wrap .i64 10 = 10 := by kernel_rfl
end Go.Ab
namespace Go.Ab
open Go
set_option linter.unusedVariables false
set_option linter.unusedSimpArgs false
set_option linter.unnecessarySimpa false
/-- A test's cells, its values told by a value of their own. -/
def cellsS (p : Pred) (sc : V) : List V := [.str p.name, .int .i64 p.test, .int .i64 p.v.kind, .int .i64 p.v.n, .float .f64 p.v.x, .str p.v.s, .bool p.v.b, .int .i64 p.w.kind, .int .i64 p.w.n, .float .f64 p.w.x, .str p.w.s, .bool p.w.b, sc]
/-- Where the values lie that a feed has just laid, and the state then. -/
def setS (L : Nat) (vs : List Val) : V := if vs = [] then .sref true 0 0 0 0 else .sref false 5 (L + (vs.length - 1)) 0 vs.length
def stS (st : St) (vs : List Val) : St := if vs = [] then st else nw st (vs.length - 1) (vs.flatMap Val.cells)
theorem stS_ok {st : St} {id : Nat} (h : FeedOk st id) (vs : List Val) : FeedOk (stS st vs) id := by
  unfold stS; split
  · exact h
  · exact h.nw _ _
end Go.Ab
namespace Go.Ab
open Go
set_option linter.unusedVariables false
set_option linter.unusedSimpArgs false
set_option linter.unnecessarySimpa false
def FVR : List (Val × Option (Int × Int)) := [
  (vzero, none),
  (⟨2, 0, 0, [], false⟩, some (1, 0)), (⟨2, 0, 9223372036854775808, [], false⟩, some (1, 0)), (⟨2, 0, 4607182418800017408, [], false⟩, some (1, 3)),
  (⟨2, 0, 4609434218613702656, [], false⟩, some (1, 4)), (⟨2, 0, 4611686018427387904, [], false⟩, some (1, 5)), (⟨2, 0, 4613937818241073152, [], false⟩, some (1, 6)),
  (⟨2, 0, 13830554455654793216, [], false⟩, some (1, -1)), (⟨2, 0, 4591870180066957722, [], false⟩, some (1, 2)), (⟨2, 0, 9221120237041090561, [], false⟩, none),
  (⟨2, 0, 9218868437227405312, [], false⟩, some (1, 20)), (⟨2, 0, 18442240474082181120, [], false⟩, some (1, -20)), (⟨2, 0, 4845873199050653696, [], false⟩, some (1, 8)),
  (⟨2, 0, 4890909195324358656, [], false⟩, some (1, 12)), (⟨2, 0, 1, [], false⟩, some (1, 1)),
  (⟨3, 0, 0, [], false⟩, some (3, 0)), (⟨3, 0, 0, [97], false⟩, some (3, 1)), (⟨3, 0, 0, [97, 98], false⟩, some (3, 2)), (⟨3, 0, 0, [98], false⟩, some (3, 3)), (⟨3, 0, 0, [98, 97], false⟩, some (3, 4)),
  (⟨3, 0, 0, [116, 119, 101, 108, 118, 101, 32, 98, 121, 116, 101, 115], false⟩, some (3, 5)),
  (⟨4, 0, 0, [], false⟩, some (4, 0)), (⟨4, 0, 0, [], true⟩, some (4, 1)),
  (⟨1, -9223372036854775808, 0, [], false⟩, some (1, -10)), (⟨1, 9223372036854775807, 0, [], false⟩, some (1, 11)), (⟨1, 9007199254740992, 0, [], false⟩, some (1, 8)), (⟨1, 9007199254740993, 0, [], false⟩, some (1, 9)),
  (⟨1, -1, 0, [], false⟩, some (1, -1)), (⟨1, 4611686018427387904, 0, [], false⟩, some (1, 10)), (⟨1, 0, 0, [], false⟩, some (1, 0)), (⟨1, 1, 0, [], false⟩, some (1, 3)), (⟨1, 2, 0, [], false⟩, some (1, 5)), (⟨1, 3, 0, [], false⟩, some (1, 6)), (⟨1, 4, 0, [], false⟩, some (1, 7))]
def FV (v : Val) (r : Option (Int × Int)) : Prop := (v, r) ∈ FVR
end Go.Ab
namespace Go.Ab
open Go
set_option linter.unusedVariables false
set_option linter.unusedSimpArgs false
set_option linter.unnecessarySimpa false
/-- A test of what a feed yields. -/
structure PFV (p : Pred) : Prop where
  v : ∃ r, FV p.v r
  w : ∃ r, FV p.w r
  set : ∀ x ∈ p.set, ∃ r, FV x r
end Go.Ab
namespace Go.Ab
open Go
set_option linter.unusedVariables false
set_option linter.unusedSimpArgs false
set_option linter.unnecessarySimpa false
/-- A right one of the row. -/
def VR (v : Val) : Prop := vright v = true ∧ ∃ r, FV v r
def allVR : List Val := (FVR.drop 1).map (·.1)
theorem all_right : allVR.all vright = true := by kernel_rfl
theorem vr_mem {v : Val} (h : v ∈ allVR) : VR v := by
  refine ⟨List.all_eq_true.1 all_right v h, ?_⟩
  unfold allVR at h
  obtain ⟨x, hx, rfl⟩ := List.mem_map.1 h
  exact ⟨x.2, List.mem_of_mem_drop hx⟩
def floatsR : List Val := F14.map fun x => ⟨2, 0, x, [], false⟩
def textsR : List Val := T6.map fun s => ⟨3, 0, 0, s, false⟩
def intsR : List Val := N6.map fun n => ⟨1, n, 0, [], false⟩
theorem floats_in : (floatsR.all fun v => allVR.contains v) = true := by kernel_rfl
theorem texts_in : (textsR.all fun v => allVR.contains v) = true := by kernel_rfl
theorem ints_in : (intsR.all fun v => allVR.contains v) = true := by kernel_rfl
theorem smalls_in : ((List.range 5).all fun n => allVR.contains (⟨1, (n : Int), 0, [], false⟩ : Val)) = true := by kernel_rfl
theorem bools_in : ([true, false].all fun b => allVR.contains (⟨4, 0, 0, [], b⟩ : Val)) = true := by kernel_rfl
theorem of_contains {l : List Val} {f : Val} (h : (l.all fun v => allVR.contains v) = true) (hf : f ∈ l) : VR f := by
  have := List.all_eq_true.1 h f hf
  exact vr_mem (by simpa using this)
theorem vr_float (l : List Int) (a j : Nat) : VR ⟨2, 0, floatV l a j, [], false⟩ := by
  have hb := fd_bound l a j (n := 14) (by omega)
  refine of_contains floats_in ?_
  unfold floatsR floatV
  refine List.mem_map.2 ⟨_, ?_, rfl⟩
  have hlt : (fd l a j 14).toNat < F14.length := by show _ < 14; omega
  rw [List.getD_eq_getElem?_getD, List.getElem?_eq_getElem hlt]
  exact List.getElem_mem hlt
theorem vr_text {n : Nat} (h : n < 6) : VR ⟨3, 0, 0, T6.getD n [], false⟩ := by
  refine of_contains texts_in ?_
  unfold textsR
  refine List.mem_map.2 ⟨_, ?_, rfl⟩
  have hlt : n < T6.length := h
  rw [List.getD_eq_getElem?_getD, List.getElem?_eq_getElem hlt]
  exact List.getElem_mem hlt
theorem vr_int {n : Nat} (h : n < 6) : VR ⟨1, N6.getD n 0, 0, [], false⟩ := by
  refine of_contains ints_in ?_
  unfold intsR
  refine List.mem_map.2 ⟨_, ?_, rfl⟩
  have hlt : n < N6.length := h
  rw [List.getD_eq_getElem?_getD, List.getElem?_eq_getElem hlt]
  exact List.getElem_mem hlt
theorem vr_small {n : Int} (h0 : 0 ≤ n) (h : n < 5) : VR ⟨1, n, 0, [], false⟩ := by
  have := List.all_eq_true.1 smalls_in n.toNat (List.mem_range.2 (by omega))
  rw [show ((n.toNat : Nat) : Int) = n by omega] at this
  exact vr_mem (by simpa using this)
theorem vr_bool (b : Bool) : VR ⟨4, 0, 0, [], b⟩ := by
  have := List.all_eq_true.1 bools_in b (by cases b <;> simp)
  exact vr_mem (by simpa using this)
theorem vr_value (l : List Int) (a j : Nat) : VR (valueV l a j) := by
  unfold valueV
  have h8 := fd_bound l a j (n := 8) (by omega)
  have h6 := fd_bound l a (j + 1) (n := 6) (by omega)
  have h5 := fd_bound l a (j + 1) (n := 5) (by omega)
  simp only
  repeat' split
  · exact vr_float _ _ _
  · exact vr_text (by omega)
  · exact vr_bool _
  · exact vr_int (by omega)
  · exact vr_small (by omega) (by omega)
theorem vr_vals (l : List Int) (a : Nat) : ∀ (k j : Nat), ∀ x ∈ valsV l a j k, VR x
  | 0, j, x, h => by simp [valsV] at h
  | k + 1, j, x, h => by
    rcases List.mem_cons.1 h with rfl | h
    · exact vr_value _ _ _
    · exact vr_vals l a k _ x h
theorem vals_length (l : List Int) (a : Nat) : ∀ (k j : Nat), (valsV l a j k).length = k
  | 0, j => rfl
  | k + 1, j => by simp [valsV, vals_length l a k]
theorem P4_in : (P4.all fun s => T6.contains s) = true := by kernel_rfl
theorem vr_P4 {n : Nat} (h : n < 4) : VR ⟨3, 0, 0, P4.getD n [], false⟩ := by
  have hlt : n < P4.length := h
  have h1 : P4.getD n [] ∈ P4 := by rw [List.getD_eq_getElem?_getD, List.getElem?_eq_getElem hlt]; exact List.getElem_mem hlt
  have h2 := List.all_eq_true.1 P4_in _ h1
  refine of_contains texts_in ?_
  unfold textsR
  exact List.mem_map.2 ⟨_, by simpa using h2, rfl⟩
theorem same_zero : vsame vzero vzero = true := by kernel_rfl
theorem pred_right (l : List Int) (a j : Nat) {nm : List UInt8} (hn : isWord nm = true) : pright (predV l a j nm).1 = true := by
  have h10 := fd_bound l a j (n := 10) (by omega)
  have h4 := fd_bound l a (j + 1) (n := 4) (by omega)
  unfold predV
  simp only
  split
  · simp [pright, hn, same_zero]
  · split
    · rename_i h
      have hv := (vr_P4 (n := (fd l a (j + 1) 4).toNat) (by omega)).1
      generalize P4.getD (fd l a (j + 1) 4).toNat [] = s at hv
      simp [pright, hn, same_zero, hv]
    · split
      · have hv := fun x hx => (vr_vals l a ((fd l a (j + 1) 4).toNat + 1) (j + 2) x hx).1
        have hl := vals_length l a ((fd l a (j + 1) 4).toNat + 1) (j + 2)
        generalize valsV l a (j + 2) ((fd l a (j + 1) 4).toNat + 1) = vs at hv hl
        have hc : vs.all vright = true := List.all_eq_true.2 hv
        have h5 : 1 ≤ vs.length ∧ vs.length ≤ 4 := by omega
        unfold pright
        rw [if_pos hn]
        simp [same_zero, hc, h5, hv]
      · split
        · simp [pright, hn, same_zero, (vr_value l a (j + 1)).1, (vr_value l a (j + 3)).1]
        · have e1 : 2 ≤ 1 + fd l a j 10 ∧ 1 + fd l a j 10 ≤ 7 := by omega
          have e2 : ¬ 1 + fd l a j 10 = 1 := by omega
          simp only [pright, hn, if_true, e2, if_false, e1, and_self, same_zero, (vr_value l a (j + 1)).1, List.length_nil, decide_true, Bool.and_self]
theorem pred_asks (l : List Int) (a j : Nat) (nm : List UInt8) : (predV l a j nm).2 ≤ 10 := by
  have h4 := fd_bound l a (j + 1) (n := 4) (by omega)
  unfold predV
  simp only
  repeat' split
  all_goals (simp only; omega)
theorem ok_of_right {p : Pred} (h : pright p = true) : p.ok := by
  unfold pright at h
  split at h
  · rename_i hw
    unfold isWord at hw
    simp only [Bool.and_eq_true, decide_eq_true_eq] at hw
    refine ⟨by omega, ?_⟩
    repeat' split at h
    all_goals first
      | (simp only [Bool.and_eq_true, decide_eq_true_eq] at h; omega)
      | cases h
  · cases h
end Go.Ab
namespace Go.Proofs.Ytclpbfkbpcjejaa
open Go Go.Ab
set_option linter.unusedVariables false
set_option linter.unusedSimpArgs false
set_option linter.unnecessarySimpa false
set_option maxRecDepth 20000
noncomputable section
variable (fr : Fr) (st : St) (k : Kt)
theorem k17 (l : List Int) (a j id : Nat)  (fr : Fr) (st : St) (h : FeedOk st id) (ha : a < 549755813888) (hj : j < 549755812000) :
    callStep gS (EvF gS) 17 [.ptr id 0] fr (setF st id l (nA l a j)) = some (.ok (.val ((valueV l a j).enc)) (fr.map E.noMem) (setF st id l (nA l a (j + 2)))) := by
  unfold callStep
  simp only [show gS.ext 17 = none from rfl, fi17_eq, show fi17.pure = false from rfl, Bool.false_eq_true, if_false, c17 l a j id  st h ha (by omega), retE]
  all_goals rfl
def fi29 : FI := { body := codeOf Try.f29, ntmps := 52, results := [.cell 4 27], pers := [0, 1, 4, 5, 6, 13], locals := [4, 5], pure := false, marks := [39, 2000011] }
theorem fi29_eq : gS.fn 29 = some fi29 := by kernel_rfl
theorem st29 (a0 a1 : V) : startFr fi29 [a0, a1] = { ps := [(0, .val a0), (1, .val a1), (4, .any), (5, .any), (6, .any), (13, .any)], ts := [], lc := [] } := rfl
def b29 : Code := mini (codeOf Try.f29)
def c29_1 : Code := codeN b29 2
theorem e29_1 : evK gS fi29 c29_1 fr st k = opsR gS fi29 [op1 4 (.alloc 27) 0] fr st k := evK_r 0 (by kernel_rfl)
def c29_3 : Code := codeN b29 5
theorem e29_3 : evK gS fi29 c29_3 fr st k = opsR gS fi29 [op1 7 (.move (.tmp 1)) 9,
 op1 8 (.move (.tmp 0)) 29,
 op1 9 (.call { callee := (.value (.func 16)), args := #[(.tmp 8), (.const (.int .i64 10))], argTypes := #[29, 3] }) 3,
 op1 10 (.binOp .add 3 (.const (.int .i64 1)) (.tmp 9) 3) 3,
 op1 11 (.build 27 #[(0, (.tmp 7)), (1, (.tmp 10))]) 27,
 op1 5 (.alloc 27) 0,
 mk none (.store 27 (.tmp 5) (.tmp 11)) 0 none] fr st k := evK_r 1 (by kernel_rfl)
def c29_6 : Code := codeN b29 19
theorem e29_6 : evK gS fi29 c29_6 fr st k = opsR gS fi29 [op1 12 (.fieldAddr 27 (.tmp 5) 1) 0,
 op1 13 (.load 3 (.tmp 12)) 3] fr st k := evK_r 2 (by kernel_rfl)
def c29_9 : Code := codeN b29 75
theorem e29_9 : evK gS fi29 c29_9 fr st k = opsR gS fi29 [op1 15 (.binOp .eql 3 (.tmp 13) (.const (.int .i64 1)) 3) 4,
 op1 14 (.assign (.tmp 15)) 4] fr st k := evK_r 3 (by kernel_rfl)
def c29_12 : Code := codeN b29 299
theorem e29_12 : evK gS fi29 c29_12 fr st k = opsR gS fi29 [op1 16 (.load 27 (.tmp 5)) 27,
 mk none (.store 27 (.tmp 4) (.tmp 16)) 0 none] fr st k := evK_r 4 (by kernel_rfl)
def c29_13 : Code := .ret
theorem e29_13 : evK gS fi29 c29_13 fr st k = nextK gS fi29 k .ret fr st := rfl
def c29_11 : Code := .seq c29_12 c29_13
theorem e29_11 : evK gS fi29 c29_11 fr st k = evK gS fi29 c29_12 fr st (.seq c29_13 k) := rfl
def c29_15 : Code := codeN b29 363
theorem e29_15 : evK gS fi29 c29_15 fr st k = opsR gS fi29 [op1 18 (.binOp .eql 3 (.tmp 13) (.const (.int .i64 9)) 3) 4,
 op1 17 (.assign (.tmp 18)) 4] fr st k := evK_r 5 (by kernel_rfl)
def c29_18 : Code := codeN b29 1259
theorem e29_18 : evK gS fi29 c29_18 fr st k = opsR gS fi29 [op1 19 (.build 107 #[(0, (.const (.string { data := #[] }))), (1, (.const (.string { data := #[97] }))), (2, (.const (.string { data := #[98] }))), (3, (.const (.string { data := #[97, 98] })))]) 107,
 op1 20 (.move (.tmp 0)) 29,
 op1 21 (.call { callee := (.value (.func 16)), args := #[(.tmp 20), (.const (.int .i64 4))], argTypes := #[29, 3] }) 3,
 op1 22 (.index 107 (.tmp 19) (.tmp 21)) 9,
 op1 23 (.build 24 #[(0, (.const (.int .i64 3))), (3, (.tmp 22))]) 24,
 op1 24 (.fieldAddr 27 (.tmp 5) 2) 0,
 mk none (.store 24 (.tmp 24) (.tmp 23)) 0 none] fr st k := evK_r 6 (by kernel_rfl)
def c29_20 : Code := codeN b29 2795
theorem e29_20 : evK gS fi29 c29_20 fr st k = opsR gS fi29 [op1 25 (.load 27 (.tmp 5)) 27,
 mk none (.store 27 (.tmp 4) (.tmp 25)) 0 none] fr st k := evK_r 7 (by kernel_rfl)
def c29_21 : Code := .ret
theorem e29_21 : evK gS fi29 c29_21 fr st k = nextK gS fi29 k .ret fr st := rfl
def c29_19 : Code := .seq c29_20 c29_21
theorem e29_19 : evK gS fi29 c29_19 fr st k = evK gS fi29 c29_20 fr st (.seq c29_21 k) := rfl
def c29_17 : Code := .seq c29_18 c29_19
theorem e29_17 : evK gS fi29 c29_17 fr st k = evK gS fi29 c29_18 fr st (.seq c29_19 k) := rfl
def c29_23 : Code := codeN b29 1515
theorem e29_23 : evK gS fi29 c29_23 fr st k = opsR gS fi29 [op1 27 (.binOp .eql 3 (.tmp 13) (.const (.int .i64 10)) 3) 4,
 op1 26 (.assign (.tmp 27)) 4] fr st k := evK_r 8 (by kernel_rfl)
def c29_27 : Code := codeN b29 9195
theorem e29_27 : evK gS fi29 c29_27 fr st k = opsR gS fi29 [op1 28 (.move (.tmp 0)) 29,
 op1 29 (.call { callee := (.value (.func 16)), args := #[(.tmp 28), (.const (.int .i64 4))], argTypes := #[29, 3] }) 3,
 op1 6 (.assign (.tmp 29)) 3] fr st k := evK_r 9 (by kernel_rfl)
def c29_32 : Code := codeN b29 136171
theorem e29_32 : evK gS fi29 c29_32 fr st k = opsR gS fi29 [op1 30 (.move (.tmp 6)) 3,
 op1 31 (.binOp .geq 3 (.tmp 30) (.const (.int .i64 0)) 3) 4] fr st k := evK_r 10 (by kernel_rfl)
def c29_34 : Code := .skip
theorem e29_34 : evK gS fi29 c29_34 fr st k = nextK gS fi29 k .normal fr st := rfl
def c29_35 : Code := .exit 1
theorem e29_35 : evK gS fi29 c29_35 fr st k = nextK gS fi29 k (.exit 1) fr st := rfl
def c29_33 : Code := .cond (.tmp 31) c29_34 c29_35
theorem e29_33 : evK gS fi29 c29_33 fr st k = condK gS fi29 (fr.op (.tmp 31)).bool? c29_34 c29_35 fr st k := rfl
def c29_31 : Code := .seq c29_32 c29_33
theorem e29_31 : evK gS fi29 c29_31 fr st k = evK gS fi29 c29_32 fr st (.seq c29_33 k) := rfl
def r29_38 : Array Oper := regOps (codeN (codeOf Try.f29) 300011)
def c29_38 : Code := .region 12 r29_38 true
def q29_38 : List (Oper × Fl) := [(op1 34 (.fieldAddr 27 (.tmp 5) 4) 0, ⟨true, false, false, false, false, false, true, false, false, true, []⟩),
 (op1 35 (.load 25 (.tmp 34)) 25, ⟨true, false, false, false, false, false, true, false, false, true, []⟩),
 (op1 36 (.move (.tmp 0)) 29, ⟨true, false, true, false, true, false, true, true, false, false, []⟩),
 (op1 37 (.call { callee := (.value (.func 17)), args := #[(.tmp 36)], argTypes := #[29] }) 24, ⟨false, true, true, false, true, true, true, true, false, false, []⟩),
 (op1 38 (.buildSlice 25 1 #[(0, (.tmp 37))]) 25, ⟨true, false, true, false, true, false, true, true, false, false, []⟩),
 (op1 39 (.call { callee := (.builtin .append), args := #[(.tmp 35), (.tmp 38)], argTypes := #[25, 25] }) 25, ⟨false, true, true, false, true, true, true, true, false, false, []⟩),
 (op1 40 (.fieldAddr 27 (.tmp 5) 4) 0, ⟨true, true, true, false, true, false, true, true, false, false, []⟩),
 (mk none (.store 25 (.tmp 40) (.tmp 39)) 0 none, ⟨false, true, true, false, true, true, true, true, false, false, []⟩)]
theorem e29_38 : evK gS fi29 c29_38 fr st k = drwR gS fi29 r29_38 q29_38 fr st k := evK_dr 12 rfl (by kernel_rfl) (by kernel_rfl)
def c29_37 : Code := .block 2 c29_38
theorem e29_37 : evK gS fi29 c29_37 fr st k = evK gS fi29 c29_38 fr st (.blk 2 k) := rfl
def c29_39 : Code := codeN b29 234475
theorem e29_39 : evK gS fi29 c29_39 fr st k = opsR gS fi29 [op1 32 (.move (.tmp 6)) 3,
 op1 33 (.binOp .sub 3 (.tmp 32) (.const (.int .i64 1)) 3) 3,
 op1 6 (.assign (.tmp 33)) 3] fr st k := evK_r 11 (by kernel_rfl)
def c29_36 : Code := .seq c29_37 c29_39
theorem e29_36 : evK gS fi29 c29_36 fr st k = evK gS fi29 c29_37 fr st (.seq c29_39 k) := rfl
def c29_30 : Code := .seq c29_31 c29_36
theorem e29_30 : evK gS fi29 c29_30 fr st k = evK gS fi29 c29_31 fr st (.seq c29_36 k) := rfl
def c29_29 : Code := .loop c29_30
def c29_28 : Code := .block 1 c29_29
theorem e29_28 : evK gS fi29 c29_28 fr st k = evK gS fi29 c29_29 fr st (.blk 1 k) := rfl
def c29_26 : Code := .seq c29_27 c29_28
theorem e29_26 : evK gS fi29 c29_26 fr st k = evK gS fi29 c29_27 fr st (.seq c29_28 k) := rfl
def c29_41 : Code := codeN b29 11243
theorem e29_41 : evK gS fi29 c29_41 fr st k = opsR gS fi29 [op1 41 (.load 27 (.tmp 5)) 27,
 mk none (.store 27 (.tmp 4) (.tmp 41)) 0 none] fr st k := evK_r 13 (by kernel_rfl)
def c29_42 : Code := .ret
theorem e29_42 : evK gS fi29 c29_42 fr st k = nextK gS fi29 k .ret fr st := rfl
def c29_40 : Code := .seq c29_41 c29_42
theorem e29_40 : evK gS fi29 c29_40 fr st k = evK gS fi29 c29_41 fr st (.seq c29_42 k) := rfl
def c29_25 : Code := .seq c29_26 c29_40
theorem e29_25 : evK gS fi29 c29_25 fr st k = evK gS fi29 c29_26 fr st (.seq c29_40 k) := rfl
def c29_43 : Code := .skip
theorem e29_43 : evK gS fi29 c29_43 fr st k = nextK gS fi29 k .normal fr st := rfl
def c29_24 : Code := .cond (.tmp 26) c29_25 c29_43
theorem e29_24 : evK gS fi29 c29_24 fr st k = condK gS fi29 (fr.op (.tmp 26)).bool? c29_25 c29_43 fr st k := rfl
def c29_22 : Code := .seq c29_23 c29_24
theorem e29_22 : evK gS fi29 c29_22 fr st k = evK gS fi29 c29_23 fr st (.seq c29_24 k) := rfl
def c29_16 : Code := .cond (.tmp 17) c29_17 c29_22
theorem e29_16 : evK gS fi29 c29_16 fr st k = condK gS fi29 (fr.op (.tmp 17)).bool? c29_17 c29_22 fr st k := rfl
def c29_14 : Code := .seq c29_15 c29_16
theorem e29_14 : evK gS fi29 c29_14 fr st k = evK gS fi29 c29_15 fr st (.seq c29_16 k) := rfl
def c29_10 : Code := .cond (.tmp 14) c29_11 c29_14
theorem e29_10 : evK gS fi29 c29_10 fr st k = condK gS fi29 (fr.op (.tmp 14)).bool? c29_11 c29_14 fr st k := rfl
def c29_8 : Code := .seq c29_9 c29_10
theorem e29_8 : evK gS fi29 c29_8 fr st k = evK gS fi29 c29_9 fr st (.seq c29_10 k) := rfl
def c29_7 : Code := .block 0 c29_8
theorem e29_7 : evK gS fi29 c29_7 fr st k = evK gS fi29 c29_8 fr st (.blk 0 k) := rfl
def c29_5 : Code := .seq c29_6 c29_7
theorem e29_5 : evK gS fi29 c29_5 fr st k = evK gS fi29 c29_6 fr st (.seq c29_7 k) := rfl
def c29_45 : Code := codeN b29 23
theorem e29_45 : evK gS fi29 c29_45 fr st k = opsR gS fi29 [op1 42 (.move (.tmp 0)) 29,
 op1 43 (.call { callee := (.value (.func 17)), args := #[(.tmp 42)], argTypes := #[29] }) 24,
 op1 44 (.fieldAddr 27 (.tmp 5) 2) 0,
 mk none (.store 24 (.tmp 44) (.tmp 43)) 0 none] fr st k := evK_r 14 (by kernel_rfl)
def c29_48 : Code := codeN b29 79
theorem e29_48 : evK gS fi29 c29_48 fr st k = opsR gS fi29 [op1 45 (.fieldAddr 27 (.tmp 5) 1) 0,
 op1 46 (.load 3 (.tmp 45)) 3,
 op1 47 (.binOp .eql 3 (.tmp 46) (.const (.int .i64 8)) 3) 4] fr st k := evK_r 15 (by kernel_rfl)
def c29_50 : Code := codeN b29 175
theorem e29_50 : evK gS fi29 c29_50 fr st k = opsR gS fi29 [op1 48 (.move (.tmp 0)) 29,
 op1 49 (.call { callee := (.value (.func 17)), args := #[(.tmp 48)], argTypes := #[29] }) 24,
 op1 50 (.fieldAddr 27 (.tmp 5) 3) 0,
 mk none (.store 24 (.tmp 50) (.tmp 49)) 0 none] fr st k := evK_r 16 (by kernel_rfl)
def c29_51 : Code := .skip
theorem e29_51 : evK gS fi29 c29_51 fr st k = nextK gS fi29 k .normal fr st := rfl
def c29_49 : Code := .cond (.tmp 47) c29_50 c29_51
theorem e29_49 : evK gS fi29 c29_49 fr st k = condK gS fi29 (fr.op (.tmp 47)).bool? c29_50 c29_51 fr st k := rfl
def c29_47 : Code := .seq c29_48 c29_49
theorem e29_47 : evK gS fi29 c29_47 fr st k = evK gS fi29 c29_48 fr st (.seq c29_49 k) := rfl
def c29_53 : Code := codeN b29 95
theorem e29_53 : evK gS fi29 c29_53 fr st k = opsR gS fi29 [op1 51 (.load 27 (.tmp 5)) 27,
 mk none (.store 27 (.tmp 4) (.tmp 51)) 0 none] fr st k := evK_r 17 (by kernel_rfl)
def c29_54 : Code := .ret
theorem e29_54 : evK gS fi29 c29_54 fr st k = nextK gS fi29 k .ret fr st := rfl
def c29_52 : Code := .seq c29_53 c29_54
theorem e29_52 : evK gS fi29 c29_52 fr st k = evK gS fi29 c29_53 fr st (.seq c29_54 k) := rfl
def c29_46 : Code := .seq c29_47 c29_52
theorem e29_46 : evK gS fi29 c29_46 fr st k = evK gS fi29 c29_47 fr st (.seq c29_52 k) := rfl
def c29_44 : Code := .seq c29_45 c29_46
theorem e29_44 : evK gS fi29 c29_44 fr st k = evK gS fi29 c29_45 fr st (.seq c29_46 k) := rfl
def c29_4 : Code := .seq c29_5 c29_44
theorem e29_4 : evK gS fi29 c29_4 fr st k = evK gS fi29 c29_5 fr st (.seq c29_44 k) := rfl
def c29_2 : Code := .seq c29_3 c29_4
theorem e29_2 : evK gS fi29 c29_2 fr st k = evK gS fi29 c29_3 fr st (.seq c29_4 k) := rfl
def c29_0 : Code := .seq c29_1 c29_2
theorem e29_0 : evK gS fi29 c29_0 fr st k = evK gS fi29 c29_1 fr st (.seq c29_2 k) := rfl
theorem m29 : mini fi29.body = c29_0 := by kernel_rfl
theorem n29_29 (fr : Fr) (st : St) (k : Kt) : nextK gS fi29 (.loop c29_30 k) .normal fr st = evK gS fi29 c29_29 fr st k := rfl
set_option maxHeartbeats 4000000 in
theorem T29_40 (nm : List UInt8) (l : List Int) (a id m : Nat) (vs : List Val) (hv : vs ≠ []) (st : St) (h : FeedOk st id) (e0 e1 e6 e13 : E) (h0 : e0.Tame) (h1 : e1.Tame) (h6 : e6.Tame) (h13 : e13.Tame) (T : List (Nat × E)) (X : List (Nat × List V)) (hx4 : lk X 4 = some [.str [], .int .i64 0, .int .i64 0, .int .i64 0, .float .f64 0, .str [], .bool false, .int .i64 0, .int .i64 0, .float .f64 0, .str [], .bool false, .osl 0 []]) (hx5 : lk X 5 = some [.str nm, .int .i64 10, .int .i64 0, .int .i64 0, .float .f64 0, .str [], .bool false, .int .i64 0, .int .i64 0, .float .f64 0, .str [], .bool false, .sref false 5 (st.objs.length + m) 0 vs.length]) :
    evK gS fi29 c29_40 { ps := [(0, e0), (1, e1), (4, .lp 4 0), (5, .lp 5 0), (6, e6), (13, e13)], ts := T, lc := X } (setF (nw st m (vs.flatMap Val.cells)) id l a) (.blk 0 (.seq c29_44 .nil)) = some (.ret (.agg (cellsS ⟨nm, 10, vzero, vzero, vs⟩ (.sref false 5 (st.objs.length + m) 0 vs.length))) none, setF (nw st m (vs.flatMap Val.cells)) id l a) := by
  have hm : fi29.marks = [39, 2000011] := rfl
  have hl : fi29.locals = [4, 5] := rfl
  have hr : fi29.results = [.cell 4 27] := rfl
  simp [lk_lset_self _ _ _ _ hx4, hx4, hx5, h0, h1, h6, h13, cellsS, vzero, -Int.not_le, -Int.not_lt, -Nat.not_le, -Nat.not_lt, ty3, ty4, ty9, ty24, ty25, ty27, ty29, ty107, eq24, hm, hl, hr, fi16_eq, fi17_eq, e29_1, e29_3, e29_6, e29_9, e29_12, e29_13, e29_11, e29_15, e29_18, e29_20, e29_21, e29_19, e29_17, e29_23, e29_27, e29_32, e29_34, e29_35, e29_33, e29_31, e29_38, q29_38, e29_37, e29_39, e29_36, e29_30, e29_28, e29_26, e29_41, e29_42, e29_40, e29_25, e29_43, e29_24, e29_22, e29_16, e29_14, e29_10, e29_8, e29_7, e29_5, e29_45, e29_48, e29_50, e29_51, e29_49, e29_47, e29_53, e29_54, e29_52, e29_46, e29_44, e29_4, e29_2, e29_0, n29_29]
set_option maxHeartbeats 8000000 in
theorem L29 (nm : List UInt8) (l : List Int) (a id : Nat) (ha : a < 549755813888) (st : St) (h : FeedOk st id) (e1 e13 : E) (h1 : e1.Tame) (h13 : e13.Tame) : ∀ (r j m : Nat) (vs : List Val) (T : List (Nat × E)) (X : List (Nat × List V)), j + 2 * r < 549755812000 → vs.length = m + 1 → vs.length + r < 1000 → lk X 4 = some [.str [], .int .i64 0, .int .i64 0, .int .i64 0, .float .f64 0, .str [], .bool false, .int .i64 0, .int .i64 0, .float .f64 0, .str [], .bool false, .osl 0 []] → lk X 5 = some [.str nm, .int .i64 10, .int .i64 0, .int .i64 0, .float .f64 0, .str [], .bool false, .int .i64 0, .int .i64 0, .float .f64 0, .str [], .bool false, .sref false 5 (st.objs.length + m) 0 (m + 1)] →
    evK gS fi29 c29_29 { ps := [(0, .val (.ptr id 0)), (1, e1), (4, .lp 4 0), (5, .lp 5 0), (6, .val (.int .i64 ((r : Int) - 1))), (13, e13)], ts := T, lc := X } (setF (nw st m (vs.flatMap Val.cells)) id l (nA l a j)) (.blk 1 (.seq c29_40 (.blk 0 (.seq c29_44 .nil)))) = some (.ret (.agg (cellsS ⟨nm, 10, vzero, vzero, vs ++ valsV l a j r⟩ (.sref false 5 (st.objs.length + (m + r)) 0 (m + 1 + r)))) none, setF (nw st (m + r) ((vs ++ valsV l a j r).flatMap Val.cells)) id l (nA l a (j + 2 * r))) := by
  intro r
  have hm : fi29.marks = [39, 2000011] := rfl
  have hl : fi29.locals = [4, 5] := rfl
  have hr : fi29.results = [.cell 4 27] := rfl
  induction r with
  | zero =>
    intro j m vs T X hj hlen hlt hx4 hx5
    refine evK_loop c29_30 _ _ _ _ rfl ?_
    have ht := fun T => T29_40 nm l (nA l a j) id m vs (by intro e; rw [e] at hlen; simp at hlen) st h (.val (.ptr id 0)) e1 (.val (.int .i64 (-1))) e13 rfl h1 rfl h13 T X hx4 (by rw [hx5, hlen])
    simp [h1, h13, ht, valsV, -Int.not_le, -Int.not_lt, -Nat.not_le, -Nat.not_lt, ty3, ty4, ty9, ty24, ty25, ty27, ty29, ty107, eq24, hm, hl, hr, fi16_eq, fi17_eq, e29_1, e29_3, e29_6, e29_9, e29_12, e29_13, e29_11, e29_15, e29_18, e29_20, e29_21, e29_19, e29_17, e29_23, e29_27, e29_32, e29_34, e29_35, e29_33, e29_31, e29_38, q29_38, e29_37, e29_39, e29_36, e29_30, e29_28, e29_26, e29_41, e29_42, e29_25, e29_43, e29_24, e29_22, e29_16, e29_14, e29_10, e29_8, e29_7, e29_5, e29_45, e29_48, e29_50, e29_51, e29_49, e29_47, e29_53, e29_54, e29_52, e29_46, e29_44, e29_4, e29_2, e29_0, n29_29]
    rw [hlen]
  | succ r ih =>
    intro j m vs T X hj hlen hlt hx4 hx5
    refine evK_loop c29_30 _ _ _ _ rfl ?_
    have hv := fun fr => k17 l a j id fr (nw st m (vs.flatMap Val.cells)) (h.nw m _) ha (by omega)
    have e1' : ((r + 1 : Nat) : Int) - 1 = (r : Int) := by omega
    have e2 : (0 : Int) ≤ (r : Int) := by omega
    have e3 : IntKind.wrap .i64 ((r : Int) - 1) = (r : Int) - 1 := wrap64 (by omega) (by omega)
    have e4 := vals_cells_len vs
    have e5 := vals_cells_strip vs
    have e6 := vals_cells_one vs
    have e7 : ∀ v : Val, vs.flatMap Val.cells ++ [.int .i64 v.kind, .int .i64 v.n, .float .f64 v.x, .str v.s, .bool v.b] = (vs ++ [v]).flatMap Val.cells := by intro v; simp [Val.cells]
    have IH := fun T X h4 h5 => ih (j + 2) (m + 1) (vs ++ [valueV l a j]) T X (by omega) (by simp [hlen]) (by simp; omega) h4 h5
    have r1 := obj_gr h m (vs.flatMap Val.cells) l (nA l a (j + 2))
    have r2 := set_gr h m (vs.flatMap Val.cells) l (nA l a (j + 2))
    have r3 := fun fr k len cs => newRef_dd h fr (m + 1) k len cs l (nA l a (j + 2))
    have e8 : (m + 1 + 1) * 48 ≤ 140737488355328 := by omega
    have e9 : (m + 1 + 1) ≤ 140737488355328 := by omega
    rw [hlen] at e4
    rw [e1']
    rw [show valsV l a j (r + 1) = valueV l a j :: valsV l a (j + 2) r from rfl, show m + 1 + (r + 1) = m + 1 + 1 + r by omega, show m + (r + 1) = m + 1 + r by omega, show j + 2 * (r + 1) = j + 2 + 2 * r by omega, List.append_cons vs]
    simp [-List.append_assoc, -List.flatMap_append, -St.obj, -St.set, h1, h13, hx4, hx5, hv, e2, e3, e4, e5, e6, e7, e8, e9, r1, r2, r3, markStep, markAppend, elemsAt, lk_lset_self _ _ _ _ hx5, -Int.not_le, -Int.not_lt, -Nat.not_le, -Nat.not_lt, ty3, ty4, ty9, ty24, ty25, ty27, ty29, ty107, eq24, hm, hl, hr, fi16_eq, fi17_eq, e29_1, e29_3, e29_6, e29_9, e29_12, e29_13, e29_11, e29_15, e29_18, e29_20, e29_21, e29_19, e29_17, e29_23, e29_27, e29_32, e29_34, e29_35, e29_33, e29_31, e29_38, q29_38, e29_37, e29_39, e29_36, e29_30, e29_28, e29_26, e29_41, e29_42, e29_25, e29_43, e29_24, e29_22, e29_16, e29_14, e29_10, e29_8, e29_7, e29_5, e29_45, e29_48, e29_50, e29_51, e29_49, e29_47, e29_53, e29_54, e29_52, e29_46, e29_44, e29_4, e29_2, e29_0, n29_29]
    exact IH _ _ (by simp [hx4]) (lk_lset_self _ _ _ _ hx5)
set_option maxHeartbeats 8000000 in
theorem c29 (l : List Int) (a j id : Nat) (nm : List UInt8) (st : St) (h : FeedOk st id) (ha : a < 549755813888) (hj : j < 549755811000) :
    EvF gS 29 [.ptr id 0, .str nm] (setF st id l (nA l a j)) = some (.ret (.agg (cellsS (predV l a j nm).1 (setS st.objs.length (predV l a j nm).1.set))) none, setF (stS st (predV l a j nm).1.set) id l (nA l a (j + (predV l a j nm).2))) := by
  refine EvF_start fi29_eq (fun x h => by cases h) m29 ?_
  rw [st29]
  have hm : fi29.marks = [39, 2000011] := rfl
  have hl : fi29.locals = [4, 5] := rfl
  have hr : fi29.results = [.cell 4 27] := rfl
  have hb := fd_bound l a j (n := 10) (by omega)
  have hb4 := fd_bound l a (j + 1) (n := 4) (by omega)
  unfold predV
  have hk := fun fr => k16 l a j id 10 fr st h ha (by omega) (by omega)
  have hk4 := fun fr => k16 l a (j + 1) id 4 fr st h ha (by omega) (by omega)
  have hv1 := fun fr => k17 l a (j + 1) id fr st h ha (by omega)
  have hv3 := fun fr => k17 l a (j + 3) id fr st h ha (by omega)
  generalize fd l a j 10 = z at *
  generalize fd l a (j + 1) 4 = y at *
  have hz : z = 0 ∨ z = 1 ∨ z = 2 ∨ z = 3 ∨ z = 4 ∨ z = 5 ∨ z = 6 ∨ z = 7 ∨ z = 8 ∨ z = 9 := by omega
  have hy : y = 0 ∨ y = 1 ∨ y = 2 ∨ y = 3 := by omega
  have d0 := dd_zero st
  have a2 : j + 1 + 1 = j + 2 := rfl
  have a5 : j + 3 + 2 = j + 5 := rfl
  have a3 : j + 1 + 2 = j + 3 := by omega
  have en : encVals [] = [] := rfl
  rcases hz with rfl | rfl | rfl | rfl | rfl | rfl | rfl | rfl | rfl | rfl
  case inr.inr.inr.inr.inr.inr.inr.inr.inl => rcases hy with rfl | rfl | rfl | rfl <;> simp [P4, vzero, setS, stS, cellsS, a2, a3, a5, w64_1, w64_2, w64_3, w64_4, w64_5, w64_6, w64_7, w64_8, w64_9, w64_10, hk, hk4, hv1, hv3, -Int.not_le, -Int.not_lt, -Nat.not_le, -Nat.not_lt, ty3, ty4, ty9, ty24, ty25, ty27, ty29, ty107, eq24, hm, hl, hr, fi16_eq, fi17_eq, e29_1, e29_3, e29_6, e29_9, e29_12, e29_13, e29_11, e29_15, e29_18, e29_20, e29_21, e29_19, e29_17, e29_23, e29_27, e29_32, e29_34, e29_35, e29_33, e29_31, e29_38, q29_38, e29_37, e29_39, e29_36, e29_30, e29_28, e29_26, e29_41, e29_42, e29_25, e29_43, e29_24, e29_22, e29_16, e29_14, e29_10, e29_8, e29_7, e29_5, e29_45, e29_48, e29_50, e29_51, e29_49, e29_47, e29_53, e29_54, e29_52, e29_46, e29_44, e29_4, e29_2, e29_0, n29_29]
  case inr.inr.inr.inr.inr.inr.inr.inr.inr =>
    have hv2 := fun fr => k17 l a (j + 2) id fr st h ha (by omega)
    have e2 : (0 : Int) ≤ y := by omega
    have e3 : IntKind.wrap .i64 (y - 1) = y - 1 := wrap64 (by omega) (by omega)
    have r3 := fun fr k len cs => newRef_setF h fr k len cs l (nA l a (j + 2 + 2))
    simp [-St.obj, -St.set, a2, w64_1, w64_2, w64_3, w64_4, w64_5, w64_6, w64_7, w64_8, w64_9, w64_10, hk, hk4, hv1, hv3, -Int.not_le, -Int.not_lt, -Nat.not_le, -Nat.not_lt, ty3, ty4, ty9, ty24, ty25, ty27, ty29, ty107, eq24, hm, hl, hr, fi16_eq, fi17_eq, e29_1, e29_3, e29_6, e29_9, e29_12, e29_13, e29_11, e29_15, e29_18, e29_20, e29_21, e29_19, e29_17, e29_23, e29_27, e29_32, e29_34, e29_35, e29_33, e29_31, e29_38, q29_38, e29_37, e29_39, e29_36, e29_30, e29_28, e29_26, e29_41, e29_42, e29_25, e29_43, e29_24, e29_22, e29_16, e29_14, e29_10, e29_8, e29_7, e29_5, e29_45, e29_48, e29_50, e29_51, e29_49, e29_47, e29_53, e29_54, e29_52, e29_46, e29_44, e29_4, e29_2, e29_0, n29_29]
    refine evK_loop c29_30 _ _ _ _ rfl ?_
    simp [-St.obj, -St.set, e2, e3, hv2, r3, markStep, markAppend, elemsAt, -Int.not_le, -Int.not_lt, -Nat.not_le, -Nat.not_lt, ty3, ty4, ty9, ty24, ty25, ty27, ty29, ty107, eq24, hm, hl, hr, fi16_eq, fi17_eq, e29_1, e29_3, e29_6, e29_9, e29_12, e29_13, e29_11, e29_15, e29_18, e29_20, e29_21, e29_19, e29_17, e29_23, e29_27, e29_32, e29_34, e29_35, e29_33, e29_31, e29_38, q29_38, e29_37, e29_39, e29_36, e29_30, e29_28, e29_26, e29_41, e29_42, e29_25, e29_43, e29_24, e29_22, e29_16, e29_14, e29_10, e29_8, e29_7, e29_5, e29_45, e29_48, e29_50, e29_51, e29_49, e29_47, e29_53, e29_54, e29_52, e29_46, e29_44, e29_4, e29_2, e29_0, n29_29]
    have hf := fun T X => L29 nm l a id ha st h (.val (.str nm)) (.val (.int .i64 10)) rfl rfl y.toNat (j + 2 + 2) 0 [valueV l a (j + 2)] T X (by omega) rfl (by simp; omega)
    have ey : ((y.toNat : Nat) : Int) = y := by omega
    rw [ey] at hf
    refine Eq.trans (hf _ _ ?_ ?_) ?_
    · simp
    · simp
    · have hl := vals_length l a (y.toNat + 1) (j + 2)
      have hc : [valueV l a (j + 2)] ++ valsV l a (j + 2 + 2) y.toNat = valsV l a (j + 2) (y.toNat + 1) := rfl
      have hs : setS st.objs.length (valsV l a (j + 2) (y.toNat + 1)) = .sref false 5 (st.objs.length + (0 + y.toNat)) 0 (0 + 1 + y.toNat) := by
        unfold setS
        rw [if_neg (by simp [valsV]), hl, show y.toNat + 1 - 1 = 0 + y.toNat by omega, show y.toNat + 1 = 0 + 1 + y.toNat by omega]
      have ht : stS st (valsV l a (j + 2) (y.toNat + 1)) = nw st (0 + y.toNat) ((valsV l a (j + 2) (y.toNat + 1)).flatMap Val.cells) := by
        unfold stS
        rw [if_neg (by simp [valsV]), hl, show y.toNat + 1 - 1 = 0 + y.toNat by omega]
      rw [hc, show j + 2 + 2 + 2 * y.toNat = j + (2 + 2 * (y.toNat + 1)) by omega]
      simp [hs, ht, cellsS, vzero]
  all_goals simp [vzero, setS, stS, cellsS, a2, a3, a5, w64_1, w64_2, w64_3, w64_4, w64_5, w64_6, w64_7, w64_8, w64_9, w64_10, hk, hk4, hv1, hv3, -Int.not_le, -Int.not_lt, -Nat.not_le, -Nat.not_lt, ty3, ty4, ty9, ty24, ty25, ty27, ty29, ty107, eq24, hm, hl, hr, fi16_eq, fi17_eq, e29_1, e29_3, e29_6, e29_9, e29_12, e29_13, e29_11, e29_15, e29_18, e29_20, e29_21, e29_19, e29_17, e29_23, e29_27, e29_32, e29_34, e29_35, e29_33, e29_31, e29_38, q29_38, e29_37, e29_39, e29_36, e29_30, e29_28, e29_26, e29_41, e29_42, e29_25, e29_43, e29_24, e29_22, e29_16, e29_14, e29_10, e29_8, e29_7, e29_5, e29_45, e29_48, e29_50, e29_51, e29_49, e29_47, e29_53, e29_54, e29_52, e29_46, e29_44, e29_4, e29_2, e29_0, n29_29]
theorem k29 (l : List Int) (a j id : Nat) (nm : List UInt8) (fr : Fr) (st : St) (h : FeedOk st id) (ha : a < 549755813888) (hj : j < 549755811000) :
    callStep gS (EvF gS) 29 [.ptr id 0, .str nm] fr (setF st id l (nA l a j)) = some (.ok (.val (.agg (cellsS (predV l a j nm).1 (setS st.objs.length (predV l a j nm).1.set)))) (fr.map E.noMem) (setF (stS st (predV l a j nm).1.set) id l (nA l a (j + (predV l a j nm).2)))) := by
  unfold callStep
  simp only [show gS.ext 29 = none from rfl, fi29_eq, show fi29.pure = false from rfl, Bool.false_eq_true, if_false, c29 l a j id nm st h ha (by omega), retE]
  all_goals rfl
end
end Go.Proofs.Ytclpbfkbpcjejaa
namespace Go.Ab
open Go
set_option linter.unusedVariables false
set_option linter.unusedSimpArgs false
set_option linter.unnecessarySimpa false
def sgt (a b : List UInt8) : Bool := !(Op.bytesLess a b || decide (a = b))
def encPredss (l : List (List Pred)) : List V := l.map fun f => V.slice (encPreds f)
theorem encPredss_length (l : List (List Pred)) : (encPredss l).length = l.length := by simp [encPredss]
theorem encPredss_get (l : List (List Pred)) (i : Nat) : (encPredss l)[i]? = (l[i]?).map fun f => V.slice (encPreds f) := by simp [encPredss]
theorem encPredss_gE (l : List (List Pred)) (i : Nat) (h : i < (encPredss l).length) : (encPredss l)[i]'h = .slice (encPreds (l[i]'(by rw [encPredss_length] at h; exact h))) := by simp [encPredss]
theorem flats_predss (l : List (List Pred)) : flats (encPredss l) = true := by
  induction l with
  | nil => rfl
  | cons x r ih => simp only [encPredss, List.map_cons, flats, V.flat, flats_preds] at ih ⊢; exact ih
attribute [simp] encPredss_length encPredss_get encPredss_gE flats_predss
/-- Of a size that may be handled. -/
def POk (f : List Pred) : Prop := f.length < 4611686018427387904 ∧ ∀ p ∈ f, p.ok
theorem POk.get {f : List Pred} (h : POk f) {i : Nat} {p : Pred} (hp : f[i]? = some p) : p.ok := h.2 p (List.mem_of_getElem? hp)
end Go.Ab
namespace Go.Ab
open Go
set_option linter.unusedVariables false
set_option linter.unusedSimpArgs false
set_option linter.unnecessarySimpa false
variable {α : Type}
/-- A call of a function of plain values, whatever it lays aside. -/
theorem call_pure' {g : G} {f : Nat} {args : List V} {fr : Fr} {st : St} {fi : FI} {v : V} {k : Option Nat} (hx : g.ext f = none) (hf : g.fn f = some fi) (hp : fi.pure = true) (ha : flats args = true)
    (h : ∃ st', EvF g f args ⟨[], 0⟩ = some (.ret v k, st')) (hv : v.flat = true) : callStep g (EvF g) f args fr st = some (.ok (retE k v) fr st) := by
  obtain ⟨st', h⟩ := h
  unfold callStep
  simp only [hx, hf, hp, if_true, ha, h, hv]
end Go.Ab
namespace Go.Ab
open Go
set_option linter.unusedVariables false
set_option linter.unusedSimpArgs false
set_option linter.unnecessarySimpa false
section
variable {α : Type}
end
def N4 : List (List UInt8) := [[97], [98], [99], [108, 111, 110, 103]]
end Go.Ab
namespace Go.Ab
open Go
set_option linter.unusedVariables false
set_option linter.unusedSimpArgs false
set_option linter.unnecessarySimpa false
def NM (x : List UInt8) : Prop := x ∈ N4
/-- Right ones of the row, in their places. -/
structure FFV (f : List Pred) : Prop where
  right : ∀ p ∈ f, pright p = true
  fv : ∀ p ∈ f, PFV p
  nm : ∀ p ∈ f, NM p.name
  srt : f.Pairwise fun x y => sgt x.name y.name = false
theorem vsame_refl (v : Val) : vsame v v = true := by simp [vsame]
theorem sames_refl : ∀ l : List Val, sames l l = true
  | [] => rfl
  | x :: r => by simp [sames, vsame_refl, sames_refl r]
/-- A right test implies itself. -/
theorem implies_refl {p : Pred} (h : pright p = true) : pimplies p p = true := by
  unfold pimplies
  rw [h]
  simp only [Bool.and_self, if_true]
  split
  · rfl
  · rw [if_pos (by simp [vsame_refl, sames_refl])]
end Go.Ab
namespace Go.Ab
open Go
set_option linter.unusedVariables false
set_option linter.unusedSimpArgs false
set_option linter.unnecessarySimpa false
/-- Values lie there. -/
def SetAt (S : St) (id : Nat) (s : V) (vs : List Val) : Prop :=
  (vs = [] ∧ s = .sref true 0 0 0 0) ∨ ∃ i, vs ≠ [] ∧ s = .sref false 5 i 0 vs.length ∧ S.wp ≤ i ∧ i ≠ id ∧ S.objs[i]? = some (vs.flatMap Val.cells)
def refid : V → Option Nat
  | .sref false _ i _ _ => some i
  | _ => none
/-- Two of them do not meet. -/
def Apart (s t : V) : Prop := ∀ i, refid s = some i → refid t ≠ some i
def gone (S : St) (s : V) : St := match refid s with
  | some i => { S with objs := S.objs.set i [] }
  | none => S
theorem gone_ok {S : St} {id : Nat} (h : FeedOk S id) (s : V) : FeedOk (gone S s) id := by
  unfold gone; split
  · exact ⟨by simpa using h.1, h.2⟩
  · exact h
theorem SetAt.lt {S : St} {id i : Nat} {s : V} {vs : List Val} (h : SetAt S id s vs) (hi : refid s = some i) : i < S.objs.length := by
  rcases h with ⟨_, rfl⟩ | ⟨k, _, rfl, _, _, h⟩
  · cases hi
  · cases hi; exact (List.getElem?_eq_some_iff.1 h).1
theorem SetAt.gone {S : St} {id : Nat} {s t : V} {vs : List Val} (h : SetAt S id s vs) (ha : Apart t s) : SetAt (gone S t) id s vs := by
  unfold Ab.gone
  split
  · rename_i i hi
    rcases h with h | ⟨k, h1, h2, h3, h4, h5⟩
    · exact .inl h
    · have hk : i ≠ k := by
        intro e
        refine ha i hi ?_
        rw [h2, e]; rfl
      exact .inr ⟨k, h1, h2, h3, h4, by rw [← h5]; simp [List.getElem?_set, hk]⟩
  · exact h
theorem SetAt.grow {S S' : St} {id : Nat} {s : V} {vs : List Val} (h : SetAt S id s vs) (X : List (List V)) (hw : S'.wp = S.wp) (ho : S'.objs = S.objs ++ X) : SetAt S' id s vs := by
  rcases h with h | ⟨k, h1, h2, h3, h4, h5⟩
  · exact .inl h
  · exact .inr ⟨k, h1, h2, by omega, h4, by rw [ho, List.getElem?_append_left (List.getElem?_eq_some_iff.1 h5).1, h5]⟩
theorem SetAt.stS {S : St} {id : Nat} {s : V} {vs : List Val} (h : SetAt S id s vs) (us : List Val) : SetAt (stS S us) id s vs := by
  unfold Ab.stS; split
  · exact h
  · exact h.grow _ rfl rfl
theorem SetAt.nw {S : St} {id : Nat} {s : V} {vs : List Val} (h : SetAt S id s vs) (m : Nat) (cs : List V) : SetAt (nw S m cs) id s vs := h.grow _ rfl rfl
theorem setAt_new {S : St} {id : Nat} (h : FeedOk S id) (vs : List Val) : SetAt (stS S vs) id (setS S.objs.length vs) vs := by
  unfold stS setS
  have h1 := h.1
  have h2 := h.2
  by_cases hv : vs = []
  · rw [if_pos hv, if_pos hv]; exact .inl ⟨hv, rfl⟩
  · rw [if_neg hv, if_neg hv]
    exact .inr ⟨_, hv, rfl, by rw [gr_wp]; omega, by omega, gr_obj _ _ _⟩
theorem setAt_nw {S : St} {id : Nat} (h : FeedOk S id) (vs : List Val) (hv : vs ≠ []) : SetAt (nw S 0 (vs.flatMap Val.cells)) id (.sref false 5 S.objs.length 0 vs.length) vs := by
  have h1 := h.1
  have h2 := h.2
  exact .inr ⟨_, hv, rfl, by rw [gr_wp]; omega, by omega, by simpa using gr_obj S 0 (vs.flatMap Val.cells)⟩
theorem apart_new {S : St} {id : Nat} {s : V} {vs : List Val} (h : SetAt S id s vs) (us : List Val) : Apart s (setS S.objs.length us) := by
  intro i hi
  have := h.lt hi
  unfold setS
  split
  · simp [refid]
  · simp [refid]; omega
theorem apart_nw {S : St} {id : Nat} {s : V} {vs : List Val} (h : SetAt S id s vs) (k n : Nat) : Apart s (.sref false k S.objs.length 0 n) := by
  intro i hi
  have := h.lt hi
  simp [refid]; omega
theorem obj_setF {S : St} {id i : Nat} (hn : i ≠ id) (l : List Int) (a : Nat) : St.obj (setF S id l a) i = S.objs[i]? := by
  unfold St.obj setF
  simp only
  rw [List.getElem?_set_ne (Ne.symm hn)]
theorem set_setF {S : St} {id i : Nat} (hw : S.wp ≤ i) (hn : i ≠ id) (l : List Int) (a : Nat) : St.set (setF S id l a) i [] = some (setF { S with objs := S.objs.set i [] } id l a) := by
  unfold St.set
  rw [if_pos (by rw [setF_wp]; omega)]
  unfold setF
  simp only [Option.some.injEq, St.mk.injEq, and_true]
  rw [List.set_comm _ _ (Ne.symm hn)]
theorem frz_set {S : St} {id : Nat} {s : V} {vs : List Val} (h : SetAt S id s vs) (n : Nat) (l : List Int) (a : Nat) : frz (n + 1) (setF S id l a) s = some (.slice (encVals vs), setF (gone S s) id l a) := by
  rcases h with ⟨rfl, rfl⟩ | ⟨i, hv, rfl, hw, hn, ho⟩
  · exact frz_nil _ _
  · have hl : ¬ vs.length = 0 := by simpa using hv
    unfold frz
    simp only [hl, if_false, obj_setF hn, set_setF hw hn, ho, vals_cells_len, List.drop_zero, Nat.zero_add, Nat.le_refl, and_true, show (0 < 5) = True by simp, if_true]
    rw [List.take_of_length_le (by rw [vals_cells_len]; omega), vals_cells_strip, frzL_flat _ _ _ (vals_cells_flat vs)]
    simp only [vals_cells_len, vals_cells_one, and_self, if_true]
    rw [show Nat.blt 1 5 = true from rfl, chunk_vals]
    rfl
theorem frz_two {st st1 st2 : St} {n : Nat} {A B A' B' : V} (h1 : frz n st A = some (A', st1)) (h2 : frz n st1 B = some (B', st2)) : frz (n + 1) st (.tuple [A, B]) = some (.tuple [A', B'], st2) := by
  have h3 : frzL (frz n) st [A, B] = some ([A', B'], st2) := by rw [frzL_cons h1, frzL_cons h2]; rfl
  unfold frz
  simp only [h3]
end Go.Ab
namespace Go.Proofs.Ytclpbfkbpcjejaa
open Go Go.Ab
set_option linter.unusedVariables false
set_option linter.unusedSimpArgs false
set_option linter.unnecessarySimpa false
set_option maxRecDepth 20000
noncomputable section
variable (fr : Fr) (st : St) (k : Kt)
def fi51 : FI := { body := codeOf Try.f51, ntmps := 25, results := [.tmp 2], pers := [0, 2, 3, 4, 5], locals := [5], pure := false, marks := [18] }
theorem fi51_eq : gS.fn 51 = some fi51 := by kernel_rfl
theorem st51 (a0 : V) : startFr fi51 [a0] = { ps := [(0, .val a0), (2, .any), (3, .any), (4, .any), (5, .any)], ts := [], lc := [] } := rfl
def b51 : Code := mini (codeOf Try.f51)
def c51_1 : Code := codeN b51 2
theorem e51_1 : evK gS fi51 c51_1 fr st k = opsR gS fi51 [op1 2 (.assign (.const (.slice none 0 0))) 49] fr st k := evK_r 0 (by kernel_rfl)
def c51_3 : Code := codeN b51 5
theorem e51_3 : evK gS fi51 c51_3 fr st k = opsR gS fi51 [op1 3 (.assign (.const (.slice none 0 0))) 49] fr st k := evK_r 1 (by kernel_rfl)
def c51_6 : Code := codeN b51 19
theorem e51_6 : evK gS fi51 c51_6 fr st k = opsR gS fi51 [op1 4 (.assign (.const (.int .i64 0))) 3] fr st k := evK_r 2 (by kernel_rfl)
def c51_11 : Code := codeN b51 267
theorem e51_11 : evK gS fi51 c51_11 fr st k = opsR gS fi51 [op1 6 (.move (.tmp 4)) 3,
 op1 7 (.move (.tmp 0)) 49,
 op1 8 (.call { callee := (.builtin .len), args := #[(.tmp 7)], argTypes := #[49] }) 3,
 op1 9 (.binOp .lss 3 (.tmp 6) (.tmp 8) 3) 4] fr st k := evK_r 3 (by kernel_rfl)
def c51_13 : Code := .skip
theorem e51_13 : evK gS fi51 c51_13 fr st k = nextK gS fi51 k .normal fr st := rfl
def c51_14 : Code := .exit 0
theorem e51_14 : evK gS fi51 c51_14 fr st k = nextK gS fi51 k (.exit 0) fr st := rfl
def c51_12 : Code := .cond (.tmp 9) c51_13 c51_14
theorem e51_12 : evK gS fi51 c51_12 fr st k = condK gS fi51 (fr.op (.tmp 9)).bool? c51_13 c51_14 fr st k := rfl
def c51_10 : Code := .seq c51_11 c51_12
theorem e51_10 : evK gS fi51 c51_10 fr st k = evK gS fi51 c51_11 fr st (.seq c51_12 k) := rfl
def c51_18 : Code := codeN b51 1099
theorem e51_18 : evK gS fi51 c51_18 fr st k = opsR gS fi51 [op1 12 (.move (.tmp 0)) 49,
 op1 13 (.move (.tmp 4)) 3,
 op1 14 (.indexAddr 49 (.tmp 12) (.tmp 13)) 0,
 op1 15 (.load 27 (.tmp 14)) 27,
 op1 5 (.alloc 27) 0,
 mk none (.store 27 (.tmp 5) (.tmp 15)) 0 none] fr st k := evK_r 5 (by kernel_rfl)
def c51_20 : Code := codeN b51 2635
theorem e51_20 : evK gS fi51 c51_20 fr st k = opsR gS fi51 [op1 16 (.fieldAddr 27 (.tmp 5) 4) 0,
 op1 17 (.load 25 (.tmp 16)) 25,
 op1 18 (.call { callee := (.builtin .append), args := #[(.const (.slice none 0 0)), (.tmp 17)], argTypes := #[25, 25] }) 25,
 op1 19 (.fieldAddr 27 (.tmp 5) 4) 0,
 mk none (.store 25 (.tmp 19) (.tmp 18)) 0 none] fr st k := evK_r 6 (by kernel_rfl)
def c51_21 : Code := codeN b51 3659
theorem e51_21 : evK gS fi51 c51_21 fr st k = opsR gS fi51 [op1 20 (.move (.tmp 3)) 49,
 op1 21 (.load 27 (.tmp 5)) 27,
 op1 22 (.buildSlice 49 1 #[(0, (.tmp 21))]) 49,
 op1 23 (.call { callee := (.builtin .append), args := #[(.tmp 20), (.tmp 22)], argTypes := #[49, 49] }) 49,
 op1 3 (.assign (.tmp 23)) 49] fr st k := evK_r 7 (by kernel_rfl)
def c51_19 : Code := .seq c51_20 c51_21
theorem e51_19 : evK gS fi51 c51_19 fr st k = evK gS fi51 c51_20 fr st (.seq c51_21 k) := rfl
def c51_17 : Code := .seq c51_18 c51_19
theorem e51_17 : evK gS fi51 c51_17 fr st k = evK gS fi51 c51_18 fr st (.seq c51_19 k) := rfl
def c51_16 : Code := .block 1 c51_17
theorem e51_16 : evK gS fi51 c51_16 fr st k = evK gS fi51 c51_17 fr st (.blk 1 k) := rfl
def c51_22 : Code := codeN b51 459
theorem e51_22 : evK gS fi51 c51_22 fr st k = opsR gS fi51 [op1 10 (.move (.tmp 4)) 3,
 op1 11 (.binOp .add 3 (.tmp 10) (.const (.int .i64 1)) 3) 3,
 op1 4 (.assign (.tmp 11)) 3] fr st k := evK_r 4 (by kernel_rfl)
def c51_15 : Code := .seq c51_16 c51_22
theorem e51_15 : evK gS fi51 c51_15 fr st k = evK gS fi51 c51_16 fr st (.seq c51_22 k) := rfl
def c51_9 : Code := .seq c51_10 c51_15
theorem e51_9 : evK gS fi51 c51_9 fr st k = evK gS fi51 c51_10 fr st (.seq c51_15 k) := rfl
def c51_8 : Code := .loop c51_9
def c51_7 : Code := .block 0 c51_8
theorem e51_7 : evK gS fi51 c51_7 fr st k = evK gS fi51 c51_8 fr st (.blk 0 k) := rfl
def c51_5 : Code := .seq c51_6 c51_7
theorem e51_5 : evK gS fi51 c51_5 fr st k = evK gS fi51 c51_6 fr st (.seq c51_7 k) := rfl
def c51_24 : Code := codeN b51 23
theorem e51_24 : evK gS fi51 c51_24 fr st k = opsR gS fi51 [op1 24 (.move (.tmp 3)) 49,
 op1 2 (.assign (.tmp 24)) 49] fr st k := evK_r 8 (by kernel_rfl)
def c51_25 : Code := .ret
theorem e51_25 : evK gS fi51 c51_25 fr st k = nextK gS fi51 k .ret fr st := rfl
def c51_23 : Code := .seq c51_24 c51_25
theorem e51_23 : evK gS fi51 c51_23 fr st k = evK gS fi51 c51_24 fr st (.seq c51_25 k) := rfl
def c51_4 : Code := .seq c51_5 c51_23
theorem e51_4 : evK gS fi51 c51_4 fr st k = evK gS fi51 c51_5 fr st (.seq c51_23 k) := rfl
def c51_2 : Code := .seq c51_3 c51_4
theorem e51_2 : evK gS fi51 c51_2 fr st k = evK gS fi51 c51_3 fr st (.seq c51_4 k) := rfl
def c51_0 : Code := .seq c51_1 c51_2
theorem e51_0 : evK gS fi51 c51_0 fr st k = evK gS fi51 c51_1 fr st (.seq c51_2 k) := rfl
theorem m51 : mini fi51.body = c51_0 := by kernel_rfl
theorem n51_8 (fr : Fr) (st : St) (k : Kt) : nextK gS fi51 (.loop c51_9 k) .normal fr st = evK gS fi51 c51_8 fr st k := rfl
set_option maxHeartbeats 8000000 in
theorem c51n (p : Pred) (hp : p.set = []) (st : St) : EvF gS 51 [.slice [.agg (cellsS p (.sref true 0 0 0 0))]] st = some (.ret (.slice [.agg (cellsS p (.sref true 0 0 0 0))]) (some 13), st) := by
  refine EvF_start fi51_eq (fun x h => by cases h) m51 ?_
  rw [st51]
  have hm : fi51.marks = [18] := rfl
  have hl : fi51.locals = [5] := rfl
  have hr : fi51.results = [.tmp 2] := rfl
  unfold cellsS
  simp [-Int.not_le, -Int.not_lt, -Nat.not_le, -Nat.not_lt, ty3, ty4, ty25, ty27, ty49, hm, hl, hr, e51_1, e51_3, e51_6, e51_11, e51_13, e51_14, e51_12, e51_10, e51_18, e51_20, e51_21, e51_19, e51_17, e51_16, e51_22, e51_15, e51_9, e51_7, e51_5, e51_24, e51_25, e51_23, e51_4, e51_2, e51_0, n51_8]
  refine evK_loop c51_9 _ _ _ _ rfl ?_
  simp [markStep, markAppend, elemsAt, -Int.not_le, -Int.not_lt, -Nat.not_le, -Nat.not_lt, ty3, ty4, ty25, ty27, ty49, hm, hl, hr, e51_1, e51_3, e51_6, e51_11, e51_13, e51_14, e51_12, e51_10, e51_18, e51_20, e51_21, e51_19, e51_17, e51_16, e51_22, e51_15, e51_9, e51_7, e51_5, e51_24, e51_25, e51_23, e51_4, e51_2, e51_0, n51_8]
  refine evK_loop c51_9 _ _ _ _ rfl ?_
  simp [w64_1, -Int.not_le, -Int.not_lt, -Nat.not_le, -Nat.not_lt, ty3, ty4, ty25, ty27, ty49, hm, hl, hr, e51_1, e51_3, e51_6, e51_11, e51_13, e51_14, e51_12, e51_10, e51_18, e51_20, e51_21, e51_19, e51_17, e51_16, e51_22, e51_15, e51_9, e51_7, e51_5, e51_24, e51_25, e51_23, e51_4, e51_2, e51_0, n51_8]
theorem sizes_vals (l : List Val) : sizesOk 5 (encVals l) = true := by
  induction l with
  | nil => rfl
  | cons x r ih => simp only [encVals, List.map_cons, sizesOk] at ih ⊢; rw [ih]; rfl
theorem encVals_cells : ∀ (l : List Val), (encVals l).flatMap V.cells = l.flatMap Val.cells
  | [] => rfl
  | v :: r => by
    show v.cells ++ (encVals r).flatMap V.cells = v.cells ++ r.flatMap Val.cells
    rw [encVals_cells r]
set_option maxHeartbeats 8000000 in
theorem c51s (p : Pred) (i : Nat) (hp : p.set ≠ []) (hl : p.set.length ≤ 1000) (st : St) (ho : st.obj i = some (p.set.flatMap Val.cells)) : EvF gS 51 [.slice [.agg (cellsS p (.sref false 5 i 0 p.set.length))]] st = some (.ret (.slice [.agg (cellsS p (.sref false 5 st.objs.length 0 p.set.length))]) (some 13), { st with objs := st.objs ++ [p.set.flatMap Val.cells] }) := by
  refine EvF_start fi51_eq (fun x h => by cases h) m51 ?_
  rw [st51]
  have hm : fi51.marks = [18] := rfl
  have hl : fi51.locals = [5] := rfl
  have hr : fi51.results = [.tmp 2] := rfl
  have e4 := vals_cells_len p.set
  have e5 := vals_cells_strip p.set
  have e6 := vals_cells_one p.set
  have e7 : (p.set.flatMap Val.cells).take (p.set.length * 5) = p.set.flatMap Val.cells := List.take_of_length_le (by omega)
  have e8 := chunk_vals p.set
  have e9 := sizes_vals p.set
  have e10 : (encVals p.set).flatMap V.cells = p.set.flatMap Val.cells := encVals_cells p.set
  have e11 : (encVals p.set).length = p.set.length := by simp [encVals]
  have e12 : ¬ encVals p.set = [] := by simpa [encVals] using hp
  have b1 : p.set.length * 48 ≤ 140737488355328 := by omega
  have b2 : p.set.length ≤ 140737488355328 := by omega
  unfold cellsS
  simp [-Int.not_le, -Int.not_lt, -Nat.not_le, -Nat.not_lt, ty3, ty4, ty25, ty27, ty49, hm, hl, hr, e51_1, e51_3, e51_6, e51_11, e51_13, e51_14, e51_12, e51_10, e51_18, e51_20, e51_21, e51_19, e51_17, e51_16, e51_22, e51_15, e51_9, e51_7, e51_5, e51_24, e51_25, e51_23, e51_4, e51_2, e51_0, n51_8]
  refine evK_loop c51_9 _ _ _ _ rfl ?_
  simp [-St.obj, ho, hp, e4, e5, e6, e7, e8, e9, e10, e11, e12, b1, b2, markStep, markAppend, elemsAt, newRef, -Int.not_le, -Int.not_lt, -Nat.not_le, -Nat.not_lt, ty3, ty4, ty25, ty27, ty49, hm, hl, hr, e51_1, e51_3, e51_6, e51_11, e51_13, e51_14, e51_12, e51_10, e51_18, e51_20, e51_21, e51_19, e51_17, e51_16, e51_22, e51_15, e51_9, e51_7, e51_5, e51_24, e51_25, e51_23, e51_4, e51_2, e51_0, n51_8]
  refine evK_loop c51_9 _ _ _ _ rfl ?_
  simp [w64_1, -Int.not_le, -Int.not_lt, -Nat.not_le, -Nat.not_lt, ty3, ty4, ty25, ty27, ty49, hm, hl, hr, e51_1, e51_3, e51_6, e51_11, e51_13, e51_14, e51_12, e51_10, e51_18, e51_20, e51_21, e51_19, e51_17, e51_16, e51_22, e51_15, e51_9, e51_7, e51_5, e51_24, e51_25, e51_23, e51_4, e51_2, e51_0, n51_8]
theorem k51n (p : Pred) (hp : p.set = []) (fr : Fr) (st : St) : callStep gS (EvF gS) 51 [.slice [.agg (cellsS p (.sref true 0 0 0 0))]] fr st = some (.ok (.own 13 [.agg (cellsS p (.sref true 0 0 0 0))]) (fr.map E.noMem) st) := by
  unfold callStep
  simp only [show gS.ext 51 = none from rfl, fi51_eq, show fi51.pure = false from rfl, Bool.false_eq_true, if_false, c51n p hp st, retE]
  all_goals rfl
theorem k51s (p : Pred) (i : Nat) (hp : p.set ≠ []) (hl : p.set.length ≤ 1000) (fr : Fr) (st : St) (ho : st.obj i = some (p.set.flatMap Val.cells)) : callStep gS (EvF gS) 51 [.slice [.agg (cellsS p (.sref false 5 i 0 p.set.length))]] fr st = some (.ok (.own 13 [.agg (cellsS p (.sref false 5 st.objs.length 0 p.set.length))]) (fr.map E.noMem) { st with objs := st.objs ++ [p.set.flatMap Val.cells] }) := by
  unfold callStep
  simp only [show gS.ext 51 = none from rfl, fi51_eq, show fi51.pure = false from rfl, Bool.false_eq_true, if_false, c51s p i hp hl st ho, retE]
  all_goals rfl
theorem k51 {S : St} {id : Nat} (h : FeedOk S id) (l : List Int) (a : Nat) (p : Pred) {sp : V} (hs : SetAt S id sp p.set) (hl : p.set.length ≤ 1000) :
    ∃ sc S', (∀ fr, callStep gS (EvF gS) 51 [.slice [.agg (cellsS p sp)]] fr (setF S id l a) = some (.ok (.own 13 [.agg (cellsS p sc)]) (fr.map E.noMem) (setF S' id l a))) ∧ FeedOk S' id ∧ SetAt S' id sc p.set ∧ SetAt S' id sp p.set ∧ Apart sp sc := by
  rcases hs with ⟨h1, rfl⟩ | ⟨i, h1, rfl, h3, h4, h5⟩
  · exact ⟨_, S, fun fr => k51n p h1 fr _, h, .inl ⟨h1, rfl⟩, .inl ⟨h1, rfl⟩, fun i hi => by cases hi⟩
  · have hs : SetAt S id (.sref false 5 i 0 p.set.length) p.set := .inr ⟨i, h1, rfl, h3, h4, h5⟩
    refine ⟨.sref false 5 S.objs.length 0 p.set.length, nw S 0 (p.set.flatMap Val.cells), fun fr => ?_, h.nw _ _, setAt_nw h _ h1, hs.nw _ _, apart_nw hs _ _⟩
    rw [k51s p i h1 hl fr _ (by rw [obj_setF h4]; exact h5), ← setF_gr h, setF_len]
    rfl
end
end Go.Proofs.Ytclpbfkbpcjejaa
namespace Go.Proofs.Ytclpbfkbpcjejaa
open Go Go.Ab
set_option linter.unusedVariables false
set_option linter.unusedSimpArgs false
set_option linter.unnecessarySimpa false
set_option maxRecDepth 20000
noncomputable section
variable (fr : Fr) (st : St) (k : Kt)
def fi15 : FI := { body := codeOf Try.f15, ntmps := 82, results := [.cell 6 27, .cell 7 27], pers := [0, 1, 2, 3, 4, 6, 7, 8, 9, 44], locals := [3, 4, 6, 7, 8, 9], pure := false, marks := [73, 1000000] }
theorem fi15_eq : gS.fn 15 = some fi15 := by kernel_rfl
theorem st15 (a0 a1 a2 : V) : startFr fi15 [a0, a1, a2] = { ps := [(0, .val a0), (1, .val a1), (2, .val a2), (3, .any), (4, .any), (6, .any), (7, .any), (8, .any), (9, .any), (44, .any)], ts := [], lc := [] } := rfl
def b15 : Code := mini (codeOf Try.f15)
def c15_1 : Code := codeN b15 2
theorem e15_1 : evK gS fi15 c15_1 fr st k = opsR gS fi15 [op1 3 (.box 27 (.tmp 0)) 0,
 op1 4 (.box 27 (.tmp 1)) 0,
 op1 6 (.alloc 27) 0,
 op1 7 (.alloc 27) 0] fr st k := evK_r 0 (by kernel_rfl)
def c15_3 : Code := codeN b15 5
theorem e15_3 : evK gS fi15 c15_3 fr st k = opsR gS fi15 [op1 10 (.fieldAddr 27 (.tmp 3) 4) 0,
 op1 11 (.load 25 (.tmp 10)) 25,
 op1 12 (.fieldAddr 27 (.tmp 3) 4) 0,
 op1 13 (.load 25 (.tmp 12)) 25,
 op1 14 (.call { callee := (.builtin .len), args := #[(.tmp 13)], argTypes := #[25] }) 3,
 op1 15 (.call { callee := (.builtin .min), args := #[(.tmp 14), (.const (.int .i64 6))], argTypes := #[3, 3] }) 3,
 op1 16 (.slice 25 (.tmp 11) none (some (.tmp 15)) none) 25,
 op1 17 (.fieldAddr 27 (.tmp 3) 4) 0,
 mk none (.store 25 (.tmp 17) (.tmp 16)) 0 none] fr st k := evK_r 1 (by kernel_rfl)
def c15_5 : Code := codeN b15 11
theorem e15_5 : evK gS fi15 c15_5 fr st k = opsR gS fi15 [op1 18 (.fieldAddr 27 (.tmp 4) 4) 0,
 op1 19 (.load 25 (.tmp 18)) 25,
 op1 20 (.fieldAddr 27 (.tmp 4) 4) 0,
 op1 21 (.load 25 (.tmp 20)) 25,
 op1 22 (.call { callee := (.builtin .len), args := #[(.tmp 21)], argTypes := #[25] }) 3,
 op1 23 (.call { callee := (.builtin .min), args := #[(.tmp 22), (.const (.int .i64 6))], argTypes := #[3, 3] }) 3,
 op1 24 (.slice 25 (.tmp 19) none (some (.tmp 23)) none) 25,
 op1 25 (.fieldAddr 27 (.tmp 4) 4) 0,
 mk none (.store 25 (.tmp 25) (.tmp 24)) 0 none] fr st k := evK_r 2 (by kernel_rfl)
def c15_8 : Code := codeN b15 39
theorem e15_8 : evK gS fi15 c15_8 fr st k = opsR gS fi15 [op1 26 (.move (.tmp 2)) 29,
 op1 27 (.call { callee := (.value (.func 16)), args := #[(.tmp 26), (.const (.int .i64 8))], argTypes := #[29, 3] }) 3,
 op1 28 (.binOp .eql 3 (.tmp 27) (.const (.int .i64 0)) 3) 4] fr st k := evK_r 3 (by kernel_rfl)
def r15_11 : Array Oper := regOps (codeN (codeOf Try.f15) 151)
def c15_11 : Code := .region 4 r15_11 true
def q15_11 : List (Oper × Fl) := [(op1 29 (.load 27 (.tmp 3)) 27, ⟨true, false, true, false, false, false, true, true, false, false, []⟩),
 (op1 30 (.load 27 (.tmp 4)) 27, ⟨true, false, false, false, false, false, true, false, false, false, [6]⟩),
 (mk none (.store 27 (.tmp 6) (.tmp 29)) 0 none, ⟨false, true, true, false, true, true, true, true, true, false, []⟩),
 (mk none (.store 27 (.tmp 7) (.tmp 30)) 0 none, ⟨false, true, true, false, true, true, true, true, false, false, []⟩)]
theorem e15_11 : evK gS fi15 c15_11 fr st k = drwR gS fi15 r15_11 q15_11 fr st k := evK_dr 4 rfl (by kernel_rfl) (by kernel_rfl)
def c15_12 : Code := .ret
theorem e15_12 : evK gS fi15 c15_12 fr st k = nextK gS fi15 k .ret fr st := rfl
def c15_10 : Code := .seq c15_11 c15_12
theorem e15_10 : evK gS fi15 c15_10 fr st k = evK gS fi15 c15_11 fr st (.seq c15_12 k) := rfl
def c15_13 : Code := .skip
theorem e15_13 : evK gS fi15 c15_13 fr st k = nextK gS fi15 k .normal fr st := rfl
def c15_9 : Code := .cond (.tmp 28) c15_10 c15_13
theorem e15_9 : evK gS fi15 c15_9 fr st k = condK gS fi15 (fr.op (.tmp 28)).bool? c15_10 c15_13 fr st k := rfl
def c15_7 : Code := .seq c15_8 c15_9
theorem e15_7 : evK gS fi15 c15_7 fr st k = evK gS fi15 c15_8 fr st (.seq c15_9 k) := rfl
def c15_15 : Code := codeN b15 47
theorem e15_15 : evK gS fi15 c15_15 fr st k = opsR gS fi15 [op1 31 (.move (.tmp 2)) 29,
 op1 32 (.call { callee := (.value (.func 29)), args := #[(.tmp 31), (.const (.string { data := #[97] }))], argTypes := #[29, 9] }) 27,
 op1 8 (.alloc 27) 0,
 mk none (.store 27 (.tmp 8) (.tmp 32)) 0 none] fr st k := evK_r 5 (by kernel_rfl)
def c15_17 : Code := codeN b15 95
theorem e15_17 : evK gS fi15 c15_17 fr st k = opsR gS fi15 [op1 33 (.move (.tmp 2)) 29,
 op1 34 (.call { callee := (.value (.func 29)), args := #[(.tmp 33), (.const (.string { data := #[97] }))], argTypes := #[29, 9] }) 27,
 op1 9 (.alloc 27) 0,
 mk none (.store 27 (.tmp 9) (.tmp 34)) 0 none] fr st k := evK_r 6 (by kernel_rfl)
def c15_20 : Code := codeN b15 319
theorem e15_20 : evK gS fi15 c15_20 fr st k = opsR gS fi15 [op1 35 (.move (.tmp 2)) 29,
 op1 36 (.call { callee := (.value (.func 16)), args := #[(.tmp 35), (.const (.int .i64 4))], argTypes := #[29, 3] }) 3,
 op1 37 (.binOp .eql 3 (.tmp 36) (.const (.int .i64 0)) 3) 4] fr st k := evK_r 7 (by kernel_rfl)
def c15_22 : Code := codeN b15 703
theorem e15_22 : evK gS fi15 c15_22 fr st k = opsR gS fi15 [op1 38 (.load 27 (.tmp 8)) 27,
 op1 39 (.buildSlice 49 1 #[(0, (.tmp 38))]) 49,
 op1 40 (.call { callee := (.value (.func 51)), args := #[(.tmp 39)], argTypes := #[49] }) 49,
 op1 41 (.indexAddr 49 (.tmp 40) (.const (.int .i64 0))) 0,
 op1 42 (.load 27 (.tmp 41)) 27,
 mk none (.store 27 (.tmp 9) (.tmp 42)) 0 none] fr st k := evK_r 8 (by kernel_rfl)
def c15_23 : Code := .skip
theorem e15_23 : evK gS fi15 c15_23 fr st k = nextK gS fi15 k .normal fr st := rfl
def c15_21 : Code := .cond (.tmp 37) c15_22 c15_23
theorem e15_21 : evK gS fi15 c15_21 fr st k = condK gS fi15 (fr.op (.tmp 37)).bool? c15_22 c15_23 fr st k := rfl
def c15_19 : Code := .seq c15_20 c15_21
theorem e15_19 : evK gS fi15 c15_19 fr st k = evK gS fi15 c15_20 fr st (.seq c15_21 k) := rfl
def c15_26 : Code := codeN b15 639
theorem e15_26 : evK gS fi15 c15_26 fr st k = opsR gS fi15 [op1 43 (.move (.tmp 2)) 29,
 op1 44 (.call { callee := (.value (.func 16)), args := #[(.tmp 43), (.const (.int .i64 12))], argTypes := #[29, 3] }) 3] fr st k := evK_r 9 (by kernel_rfl)
def c15_29 : Code := codeN b15 2431
theorem e15_29 : evK gS fi15 c15_29 fr st k = opsR gS fi15 [op1 46 (.binOp .eql 3 (.tmp 44) (.const (.int .i64 0)) 3) 4,
 op1 45 (.assign (.tmp 46)) 4] fr st k := evK_r 10 (by kernel_rfl)
def c15_31 : Code := codeN b15 5503
theorem e15_31 : evK gS fi15 c15_31 fr st k = opsR gS fi15 [op1 47 (.move (.tmp 2)) 29,
 op1 48 (.call { callee := (.value (.func 16)), args := #[(.tmp 47), (.const (.int .i64 12))], argTypes := #[29, 3] }) 3,
 op1 49 (.fieldAddr 27 (.tmp 9) 1) 0,
 mk none (.store 3 (.tmp 49) (.tmp 48)) 0 none] fr st k := evK_r 11 (by kernel_rfl)
def c15_33 : Code := codeN b15 11647
theorem e15_33 : evK gS fi15 c15_33 fr st k = opsR gS fi15 [op1 51 (.binOp .eql 3 (.tmp 44) (.const (.int .i64 1)) 3) 4,
 op1 50 (.assign (.tmp 51)) 4] fr st k := evK_r 12 (by kernel_rfl)
def c15_35 : Code := codeN b15 23935
theorem e15_35 : evK gS fi15 c15_35 fr st k = opsR gS fi15 [op1 52 (.fieldAddr 27 (.tmp 9) 2) 0,
 op1 53 (.fieldAddr 24 (.tmp 52) 3) 0,
 mk none (.store 9 (.tmp 53) (.const (.string { data := #[116, 104, 105, 114, 116, 101, 101, 110, 32, 98, 121, 116, 101, 115] }))) 0 none] fr st k := evK_r 13 (by kernel_rfl)
def c15_37 : Code := codeN b15 48511
theorem e15_37 : evK gS fi15 c15_37 fr st k = opsR gS fi15 [op1 55 (.binOp .eql 3 (.tmp 44) (.const (.int .i64 2)) 3) 4,
 op1 54 (.assign (.tmp 55)) 4] fr st k := evK_r 14 (by kernel_rfl)
def c15_39 : Code := codeN b15 97663
theorem e15_39 : evK gS fi15 c15_39 fr st k = opsR gS fi15 [op1 56 (.build 87 #[(0, (.const (.string { data := #[] }))), (1, (.const (.string { data := #[66] }))), (2, (.const (.string { data := #[98] })))]) 87,
 op1 57 (.move (.tmp 2)) 29,
 op1 58 (.call { callee := (.value (.func 16)), args := #[(.tmp 57), (.const (.int .i64 3))], argTypes := #[29, 3] }) 3,
 op1 59 (.index 87 (.tmp 56) (.tmp 58)) 9,
 op1 60 (.fieldAddr 27 (.tmp 9) 0) 0,
 mk none (.store 9 (.tmp 60) (.tmp 59)) 0 none] fr st k := evK_r 15 (by kernel_rfl)
def c15_41 : Code := codeN b15 195967
theorem e15_41 : evK gS fi15 c15_41 fr st k = opsR gS fi15 [op1 62 (.binOp .eql 3 (.tmp 44) (.const (.int .i64 3)) 3) 4,
 op1 61 (.assign (.tmp 62)) 4] fr st k := evK_r 16 (by kernel_rfl)
def c15_43 : Code := codeN b15 392575
theorem e15_43 : evK gS fi15 c15_43 fr st k = opsR gS fi15 [op1 63 (.move (.tmp 2)) 29,
 op1 64 (.call { callee := (.value (.func 17)), args := #[(.tmp 63)], argTypes := #[29] }) 24,
 op1 65 (.fieldAddr 27 (.tmp 9) 3) 0,
 mk none (.store 24 (.tmp 65) (.tmp 64)) 0 none] fr st k := evK_r 17 (by kernel_rfl)
def c15_45 : Code := codeN b15 785791
theorem e15_45 : evK gS fi15 c15_45 fr st k = opsR gS fi15 [op1 67 (.binOp .eql 3 (.tmp 44) (.const (.int .i64 4)) 3) 4,
 op1 66 (.assign (.tmp 67)) 4] fr st k := evK_r 18 (by kernel_rfl)
def r15_47 : Array Oper := regOps (codeN (codeOf Try.f15) 1572223)
def c15_47 : Code := .region 19 r15_47 true
def q15_47 : List (Oper × Fl) := [(op1 68 (.fieldAddr 27 (.tmp 9) 4) 0, ⟨true, false, false, false, false, false, true, false, false, true, []⟩),
 (op1 69 (.load 25 (.tmp 68)) 25, ⟨true, false, false, false, false, false, true, false, false, true, []⟩),
 (op1 70 (.move (.tmp 2)) 29, ⟨true, false, true, false, true, false, true, true, false, false, []⟩),
 (op1 71 (.call { callee := (.value (.func 17)), args := #[(.tmp 70)], argTypes := #[29] }) 24, ⟨false, true, true, false, true, true, true, true, false, false, []⟩),
 (op1 72 (.buildSlice 25 1 #[(0, (.tmp 71))]) 25, ⟨true, false, true, false, true, false, true, true, false, false, []⟩),
 (op1 73 (.call { callee := (.builtin .append), args := #[(.tmp 69), (.tmp 72)], argTypes := #[25, 25] }) 25, ⟨false, true, true, false, true, true, true, true, false, false, []⟩),
 (op1 74 (.fieldAddr 27 (.tmp 9) 4) 0, ⟨true, true, true, false, true, false, true, true, false, false, []⟩),
 (mk none (.store 25 (.tmp 74) (.tmp 73)) 0 none, ⟨false, true, true, false, true, true, true, true, false, false, []⟩)]
theorem e15_47 : evK gS fi15 c15_47 fr st k = drwR gS fi15 r15_47 q15_47 fr st k := evK_dr 19 rfl (by kernel_rfl) (by kernel_rfl)
def c15_49 : Code := codeN b15 3145087
theorem e15_49 : evK gS fi15 c15_49 fr st k = opsR gS fi15 [op1 76 (.binOp .eql 3 (.tmp 44) (.const (.int .i64 5)) 3) 4,
 op1 75 (.assign (.tmp 76)) 4] fr st k := evK_r 20 (by kernel_rfl)
def c15_51 : Code := codeN b15 6290815
theorem e15_51 : evK gS fi15 c15_51 fr st k = opsR gS fi15 [op1 77 (.fieldAddr 27 (.tmp 8) 2) 0,
 op1 78 (.load 24 (.tmp 77)) 24,
 op1 79 (.fieldAddr 27 (.tmp 9) 2) 0,
 mk none (.store 24 (.tmp 79) (.tmp 78)) 0 none] fr st k := evK_r 21 (by kernel_rfl)
def c15_52 : Code := .skip
theorem e15_52 : evK gS fi15 c15_52 fr st k = nextK gS fi15 k .normal fr st := rfl
def c15_50 : Code := .cond (.tmp 75) c15_51 c15_52
theorem e15_50 : evK gS fi15 c15_50 fr st k = condK gS fi15 (fr.op (.tmp 75)).bool? c15_51 c15_52 fr st k := rfl
def c15_48 : Code := .seq c15_49 c15_50
theorem e15_48 : evK gS fi15 c15_48 fr st k = evK gS fi15 c15_49 fr st (.seq c15_50 k) := rfl
def c15_46 : Code := .cond (.tmp 66) c15_47 c15_48
theorem e15_46 : evK gS fi15 c15_46 fr st k = condK gS fi15 (fr.op (.tmp 66)).bool? c15_47 c15_48 fr st k := rfl
def c15_44 : Code := .seq c15_45 c15_46
theorem e15_44 : evK gS fi15 c15_44 fr st k = evK gS fi15 c15_45 fr st (.seq c15_46 k) := rfl
def c15_42 : Code := .cond (.tmp 61) c15_43 c15_44
theorem e15_42 : evK gS fi15 c15_42 fr st k = condK gS fi15 (fr.op (.tmp 61)).bool? c15_43 c15_44 fr st k := rfl
def c15_40 : Code := .seq c15_41 c15_42
theorem e15_40 : evK gS fi15 c15_40 fr st k = evK gS fi15 c15_41 fr st (.seq c15_42 k) := rfl
def c15_38 : Code := .cond (.tmp 54) c15_39 c15_40
theorem e15_38 : evK gS fi15 c15_38 fr st k = condK gS fi15 (fr.op (.tmp 54)).bool? c15_39 c15_40 fr st k := rfl
def c15_36 : Code := .seq c15_37 c15_38
theorem e15_36 : evK gS fi15 c15_36 fr st k = evK gS fi15 c15_37 fr st (.seq c15_38 k) := rfl
def c15_34 : Code := .cond (.tmp 50) c15_35 c15_36
theorem e15_34 : evK gS fi15 c15_34 fr st k = condK gS fi15 (fr.op (.tmp 50)).bool? c15_35 c15_36 fr st k := rfl
def c15_32 : Code := .seq c15_33 c15_34
theorem e15_32 : evK gS fi15 c15_32 fr st k = evK gS fi15 c15_33 fr st (.seq c15_34 k) := rfl
def c15_30 : Code := .cond (.tmp 45) c15_31 c15_32
theorem e15_30 : evK gS fi15 c15_30 fr st k = condK gS fi15 (fr.op (.tmp 45)).bool? c15_31 c15_32 fr st k := rfl
def c15_28 : Code := .seq c15_29 c15_30
theorem e15_28 : evK gS fi15 c15_28 fr st k = evK gS fi15 c15_29 fr st (.seq c15_30 k) := rfl
def c15_27 : Code := .block 0 c15_28
theorem e15_27 : evK gS fi15 c15_27 fr st k = evK gS fi15 c15_28 fr st (.blk 0 k) := rfl
def c15_25 : Code := .seq c15_26 c15_27
theorem e15_25 : evK gS fi15 c15_25 fr st k = evK gS fi15 c15_26 fr st (.seq c15_27 k) := rfl
def r15_54 : Array Oper := regOps (codeN (codeOf Try.f15) 767)
def c15_54 : Code := .region 22 r15_54 true
def q15_54 : List (Oper × Fl) := [(op1 80 (.load 27 (.tmp 8)) 27, ⟨true, false, true, false, false, false, true, true, false, false, []⟩),
 (op1 81 (.load 27 (.tmp 9)) 27, ⟨true, false, false, false, false, false, true, false, false, false, [6]⟩),
 (mk none (.store 27 (.tmp 6) (.tmp 80)) 0 none, ⟨false, true, true, false, true, true, true, true, true, false, []⟩),
 (mk none (.store 27 (.tmp 7) (.tmp 81)) 0 none, ⟨false, true, true, false, true, true, true, true, false, false, []⟩)]
theorem e15_54 : evK gS fi15 c15_54 fr st k = drwR gS fi15 r15_54 q15_54 fr st k := evK_dr 22 rfl (by kernel_rfl) (by kernel_rfl)
def c15_55 : Code := .ret
theorem e15_55 : evK gS fi15 c15_55 fr st k = nextK gS fi15 k .ret fr st := rfl
def c15_53 : Code := .seq c15_54 c15_55
theorem e15_53 : evK gS fi15 c15_53 fr st k = evK gS fi15 c15_54 fr st (.seq c15_55 k) := rfl
def c15_24 : Code := .seq c15_25 c15_53
theorem e15_24 : evK gS fi15 c15_24 fr st k = evK gS fi15 c15_25 fr st (.seq c15_53 k) := rfl
def c15_18 : Code := .seq c15_19 c15_24
theorem e15_18 : evK gS fi15 c15_18 fr st k = evK gS fi15 c15_19 fr st (.seq c15_24 k) := rfl
def c15_16 : Code := .seq c15_17 c15_18
theorem e15_16 : evK gS fi15 c15_16 fr st k = evK gS fi15 c15_17 fr st (.seq c15_18 k) := rfl
def c15_14 : Code := .seq c15_15 c15_16
theorem e15_14 : evK gS fi15 c15_14 fr st k = evK gS fi15 c15_15 fr st (.seq c15_16 k) := rfl
def c15_6 : Code := .seq c15_7 c15_14
theorem e15_6 : evK gS fi15 c15_6 fr st k = evK gS fi15 c15_7 fr st (.seq c15_14 k) := rfl
def c15_4 : Code := .seq c15_5 c15_6
theorem e15_4 : evK gS fi15 c15_4 fr st k = evK gS fi15 c15_5 fr st (.seq c15_6 k) := rfl
def c15_2 : Code := .seq c15_3 c15_4
theorem e15_2 : evK gS fi15 c15_2 fr st k = evK gS fi15 c15_3 fr st (.seq c15_4 k) := rfl
def c15_0 : Code := .seq c15_1 c15_2
theorem e15_0 : evK gS fi15 c15_0 fr st k = evK gS fi15 c15_1 fr st (.seq c15_2 k) := rfl
theorem m15 : mini fi15.body = c15_0 := by kernel_rfl
theorem six (l : List Val) : ∃ n : Nat, (if 6 < l.length then (6 : Int) else (l.length : Int)) = (n : Int) ∧ ((n : Int) ≤ (l.length : Int)) ∧ (l.take n).length ≤ 6 ∧ List.take n (encVals l) = encVals (l.take n) := by
  refine ⟨min 6 l.length, ?_, by omega, by simp; omega, by simp [encVals]⟩
  split <;> omega
theorem frz_cellsS {S : St} {id : Nat} {s : V} (p : Pred) (h : SetAt S id s p.set) (n : Nat) (l : List Int) (a : Nat) : frz (n + 2) (setF S id l a) (.agg (cellsS p s)) = some (p.enc, setF (gone S s) id l a) := by
  unfold cellsS
  exact frz_predcells (by simp) (frz_set h n l a)
theorem setAt_sref {S : St} {id : Nat} {s : V} {vs : List Val} (h : SetAt S id s vs) : ∃ f k i o n, s = .sref f k i o n := by
  rcases h with ⟨_, rfl⟩ | ⟨i, _, rfl, _⟩ <;> exact ⟨_, _, _, _, _, rfl⟩
set_option maxHeartbeats 8000000 in
theorem T15_53 (p q : Pred) (S : St) (id : Nat) (l : List Int) (a : Nat) (sp sq : V) (hp : SetAt S id sp p.set) (hq : SetAt S id sq q.set) (hd : Apart sp sq)
    (e0 e1 e44 : E) (h0 : e0.Tame) (h1 : e1.Tame) (h44 : e44.Tame) (T : List (Nat × E)) (X : List (Nat × List V)) (hx6 : lk X 6 = some [.str [], .int .i64 0, .int .i64 0, .int .i64 0, .float .f64 0, .str [], .bool false, .int .i64 0, .int .i64 0, .float .f64 0, .str [], .bool false, .osl 0 []]) (hx7 : lk X 7 = some [.str [], .int .i64 0, .int .i64 0, .int .i64 0, .float .f64 0, .str [], .bool false, .int .i64 0, .int .i64 0, .float .f64 0, .str [], .bool false, .osl 0 []]) (hx8 : lk X 8 = some (cellsS p sp)) (hx9 : lk X 9 = some (cellsS q sq)) :
    evK gS fi15 c15_53 { ps := [(0, e0), (1, e1), (2, .val (.ptr id 0)), (3, .lp 3 0), (4, .lp 4 0), (6, .lp 6 0), (7, .lp 7 0), (8, .lp 8 0), (9, .lp 9 0), (44, e44)], ts := T, lc := X } (setF S id l a) .nil = some (.ret (.tuple [p.enc, q.enc]) none, setF (gone (gone S sp) sq) id l a) := by
  have hm : fi15.marks = [73, 1000000] := rfl
  have hl : fi15.locals = [3, 4, 6, 7, 8, 9] := rfl
  have hr : fi15.results = [.cell 6 27, .cell 7 27] := rfl
  obtain ⟨f1, g1, i1, u1, m1, rfl⟩ := setAt_sref hp
  obtain ⟨f2, g2, i2, u2, m2, rfl⟩ := setAt_sref hq
  have z1 := frz_two (frz_cellsS p hp 3 l a) (frz_cellsS q (hq.gone hd) 3 l a)
  have y6 := fun v => lk_lset_self _ _ _ v hx6
  have y7 : ∀ v w, lk (lset (lset X 6 v) 7 w) 7 = some w := fun v w => lk_lset_self _ _ _ w ((show lk (lset X 6 v) 7 = lk X 7 by simp).trans hx7)
  unfold cellsS at *
  simp [h0, h1, h44, y6, y7, hx6, hx7, hx8, hx9, z1, -Int.not_le, -Int.not_lt, -Nat.not_le, -Nat.not_lt, ty3, ty4, ty9, ty24, ty25, ty27, ty29, ty49, ty87, eq24, hm, hl, hr, fi16_eq, fi17_eq, fi29_eq, e15_1, e15_3, e15_5, e15_8, e15_11, q15_11, e15_12, e15_10, e15_13, e15_9, e15_7, e15_15, e15_17, e15_20, e15_22, e15_23, e15_21, e15_19, e15_26, e15_29, e15_31, e15_33, e15_35, e15_37, e15_39, e15_41, e15_43, e15_45, e15_47, q15_47, e15_49, e15_51, e15_52, e15_50, e15_48, e15_46, e15_44, e15_42, e15_40, e15_38, e15_36, e15_34, e15_32, e15_30, e15_28, e15_27, e15_25, e15_54, q15_54, e15_55, e15_53, e15_24, e15_18, e15_16, e15_14, e15_6, e15_4, e15_2, e15_0]
set_option maxHeartbeats 8000000 in
theorem T15_24 (p q : Pred) (S : St) (id : Nat) (h : FeedOk S id) (l : List Int) (j : Nat) (hj : j < 100000) (sp sq : V) (hp : SetAt S id sp p.set) (hq : SetAt S id sq q.set) (hd : Apart sp sq) (ho : Pred.ok q) (hl : q.set.length ≤ 100):
    ∃ q' S' j', Pred.ok q' ∧ q'.set.length ≤ 101 ∧ FeedOk S' id ∧ j' < j + 10 ∧ ∀ (e0 e1 e44 : E) (h0 : e0.Tame) (h1 : e1.Tame) (h44 : e44.Tame) (T : List (Nat × E)) (X : List (Nat × List V)) (hx6 : lk X 6 = some [.str [], .int .i64 0, .int .i64 0, .int .i64 0, .float .f64 0, .str [], .bool false, .int .i64 0, .int .i64 0, .float .f64 0, .str [], .bool false, .osl 0 []]) (hx7 : lk X 7 = some [.str [], .int .i64 0, .int .i64 0, .int .i64 0, .float .f64 0, .str [], .bool false, .int .i64 0, .int .i64 0, .float .f64 0, .str [], .bool false, .osl 0 []]) (hx8 : lk X 8 = some (cellsS p sp)) (hx9 : lk X 9 = some (cellsS q sq)), evK gS fi15 c15_24 { ps := [(0, e0), (1, e1), (2, .val (.ptr id 0)), (3, .lp 3 0), (4, .lp 4 0), (6, .lp 6 0), (7, .lp 7 0), (8, .lp 8 0), (9, .lp 9 0), (44, e44)], ts := T, lc := X } (setF S id l (nA l 0 j)) .nil = some (.ret (.tuple [p.enc, q'.enc]) none, setF S' id l (nA l 0 j')) := by
  have hm : fi15.marks = [73, 1000000] := rfl
  have hl : fi15.locals = [3, 4, 6, 7, 8, 9] := rfl
  have hr : fi15.results = [.cell 6 27, .cell 7 27] := rfl
  have hb := fd_bound l 0 j (n := 12) (by omega)
  have hk := fun fr => k16 l 0 j id 12 fr S h (by omega) (by omega) (by omega)
  have hk12 := fun fr => k16 l 0 (j + 1) id 12 fr S h (by omega) (by omega) (by omega)
  have hb12 := fd_bound l 0 (j + 1) (n := 12) (by omega)
  have hk3 := fun fr => k16 l 0 (j + 1) id 3 fr S h (by omega) (by omega) (by omega)
  have hb3 := fd_bound l 0 (j + 1) (n := 3) (by omega)
  have hv := fun fr => k17 l 0 (j + 1) id fr S h (by omega) (by omega)
  have hg := gone_ok (gone_ok h sp) sq
  have TT := fun q' hq' a e0 e1 e44 h0 h1 h44 T X hx6 hx7 hx8 hx9 => T15_53 p q' S id l a sp sq hp hq' hd e0 e1 e44 h0 h1 h44 T X hx6 hx7 hx8 hx9
  have a2 : j + 1 + 1 = j + 2 := rfl
  have a3 : j + 1 + 2 = j + 3 := rfl
  obtain ⟨f1, g1, i1, u1, m1, es1⟩ := setAt_sref hp
  obtain ⟨f2, g2, i2, u2, m2, es2⟩ := setAt_sref hq
  generalize fd l 0 j 12 = z at *
  have hz : z = 0 ∨ z = 1 ∨ z = 2 ∨ z = 3 ∨ z = 4 ∨ z = 5 ∨ 6 ≤ z := by omega
  rcases hz with rfl | rfl | rfl | rfl | rfl | rfl | hz
  · refine ⟨{ q with test := fd l 0 (j + 1) 12 }, gone (gone S sp) sq, j + 2, ho, by first | omega | (simp; omega), hg, by omega, ?_⟩
    intro e0 e1 e44 h0 h1 h44 T X hx6 hx7 hx8 hx9
    have y9 := fun v => lk_lset_self _ _ _ v hx9
    have hx8' := hx8
    have hx9' := hx9
    rw [es1] at hx8'
    rw [es2] at hx9'
    unfold cellsS at hx8' hx9'
    simp [h0, h1, h44, hx6, hx7, hx8', hx9', y9, hk, hk12, a2, a3, -Int.not_le, -Int.not_lt, -Nat.not_le, -Nat.not_lt, ty3, ty4, ty9, ty24, ty25, ty27, ty29, ty49, ty87, eq24, hm, hl, hr, fi16_eq, fi17_eq, fi29_eq, e15_1, e15_3, e15_5, e15_8, e15_11, q15_11, e15_12, e15_10, e15_13, e15_9, e15_7, e15_15, e15_17, e15_20, e15_22, e15_23, e15_21, e15_19, e15_26, e15_29, e15_31, e15_33, e15_35, e15_37, e15_39, e15_41, e15_43, e15_45, e15_47, q15_47, e15_49, e15_51, e15_52, e15_50, e15_48, e15_46, e15_44, e15_42, e15_40, e15_38, e15_36, e15_34, e15_32, e15_30, e15_28, e15_27, e15_25, e15_54, q15_54, e15_55, e15_24, e15_18, e15_16, e15_14, e15_6, e15_4, e15_2, e15_0]
    refine TT { q with test := fd l 0 (j + 1) 12 } hq _ _ _ _ h0 h1 ?_ _ _ ?_ ?_ ?_ ?_
    all_goals simp [hx6, hx7, hx8, hx9, y9, es1, es2, cellsS]
  · refine ⟨{ q with v := { q.v with s := [116, 104, 105, 114, 116, 101, 101, 110, 32, 98, 121, 116, 101, 115] } }, gone (gone S sp) sq, j + 1, ho, by first | omega | (simp; omega), hg, by omega, ?_⟩
    intro e0 e1 e44 h0 h1 h44 T X hx6 hx7 hx8 hx9
    have y9 := fun v => lk_lset_self _ _ _ v hx9
    have hx8' := hx8
    have hx9' := hx9
    rw [es1] at hx8'
    rw [es2] at hx9'
    unfold cellsS at hx8' hx9'
    simp [h0, h1, h44, hx6, hx7, hx8', hx9', y9, hk, a2, a3, -Int.not_le, -Int.not_lt, -Nat.not_le, -Nat.not_lt, ty3, ty4, ty9, ty24, ty25, ty27, ty29, ty49, ty87, eq24, hm, hl, hr, fi16_eq, fi17_eq, fi29_eq, e15_1, e15_3, e15_5, e15_8, e15_11, q15_11, e15_12, e15_10, e15_13, e15_9, e15_7, e15_15, e15_17, e15_20, e15_22, e15_23, e15_21, e15_19, e15_26, e15_29, e15_31, e15_33, e15_35, e15_37, e15_39, e15_41, e15_43, e15_45, e15_47, q15_47, e15_49, e15_51, e15_52, e15_50, e15_48, e15_46, e15_44, e15_42, e15_40, e15_38, e15_36, e15_34, e15_32, e15_30, e15_28, e15_27, e15_25, e15_54, q15_54, e15_55, e15_24, e15_18, e15_16, e15_14, e15_6, e15_4, e15_2, e15_0]
    refine TT { q with v := { q.v with s := [116, 104, 105, 114, 116, 101, 101, 110, 32, 98, 121, 116, 101, 115] } } hq _ _ _ _ h0 h1 ?_ _ _ ?_ ?_ ?_ ?_
    all_goals simp [hx6, hx7, hx8, hx9, y9, es1, es2, cellsS]
  · generalize fd l 0 (j + 1) 3 = r at *
    have hr : r = 0 ∨ r = 1 ∨ r = 2 := by omega
    rcases hr with rfl | rfl | rfl
    · refine ⟨{ q with name := [] }, gone (gone S sp) sq, j + 2, ⟨by simp, ho.2⟩, by first | omega | (simp; omega), hg, by omega, ?_⟩
      intro e0 e1 e44 h0 h1 h44 T X hx6 hx7 hx8 hx9
      have y9 := fun v => lk_lset_self _ _ _ v hx9
      have hx8' := hx8
      have hx9' := hx9
      rw [es1] at hx8'
      rw [es2] at hx9'
      unfold cellsS at hx8' hx9'
      simp [h0, h1, h44, hx6, hx7, hx8', hx9', y9, hk, hk3, a2, a3, -Int.not_le, -Int.not_lt, -Nat.not_le, -Nat.not_lt, ty3, ty4, ty9, ty24, ty25, ty27, ty29, ty49, ty87, eq24, hm, hl, hr, fi16_eq, fi17_eq, fi29_eq, e15_1, e15_3, e15_5, e15_8, e15_11, q15_11, e15_12, e15_10, e15_13, e15_9, e15_7, e15_15, e15_17, e15_20, e15_22, e15_23, e15_21, e15_19, e15_26, e15_29, e15_31, e15_33, e15_35, e15_37, e15_39, e15_41, e15_43, e15_45, e15_47, q15_47, e15_49, e15_51, e15_52, e15_50, e15_48, e15_46, e15_44, e15_42, e15_40, e15_38, e15_36, e15_34, e15_32, e15_30, e15_28, e15_27, e15_25, e15_54, q15_54, e15_55, e15_24, e15_18, e15_16, e15_14, e15_6, e15_4, e15_2, e15_0]
      refine TT { q with name := [] } hq _ _ _ _ h0 h1 ?_ _ _ ?_ ?_ ?_ ?_
      all_goals simp [hx6, hx7, hx8, hx9, y9, es1, es2, cellsS]
    · refine ⟨{ q with name := [66] }, gone (gone S sp) sq, j + 2, ⟨by simp, ho.2⟩, by first | omega | (simp; omega), hg, by omega, ?_⟩
      intro e0 e1 e44 h0 h1 h44 T X hx6 hx7 hx8 hx9
      have y9 := fun v => lk_lset_self _ _ _ v hx9
      have hx8' := hx8
      have hx9' := hx9
      rw [es1] at hx8'
      rw [es2] at hx9'
      unfold cellsS at hx8' hx9'
      simp [h0, h1, h44, hx6, hx7, hx8', hx9', y9, hk, hk3, a2, a3, -Int.not_le, -Int.not_lt, -Nat.not_le, -Nat.not_lt, ty3, ty4, ty9, ty24, ty25, ty27, ty29, ty49, ty87, eq24, hm, hl, hr, fi16_eq, fi17_eq, fi29_eq, e15_1, e15_3, e15_5, e15_8, e15_11, q15_11, e15_12, e15_10, e15_13, e15_9, e15_7, e15_15, e15_17, e15_20, e15_22, e15_23, e15_21, e15_19, e15_26, e15_29, e15_31, e15_33, e15_35, e15_37, e15_39, e15_41, e15_43, e15_45, e15_47, q15_47, e15_49, e15_51, e15_52, e15_50, e15_48, e15_46, e15_44, e15_42, e15_40, e15_38, e15_36, e15_34, e15_32, e15_30, e15_28, e15_27, e15_25, e15_54, q15_54, e15_55, e15_24, e15_18, e15_16, e15_14, e15_6, e15_4, e15_2, e15_0]
      refine TT { q with name := [66] } hq _ _ _ _ h0 h1 ?_ _ _ ?_ ?_ ?_ ?_
      all_goals simp [hx6, hx7, hx8, hx9, y9, es1, es2, cellsS]
    · refine ⟨{ q with name := [98] }, gone (gone S sp) sq, j + 2, ⟨by simp, ho.2⟩, by first | omega | (simp; omega), hg, by omega, ?_⟩
      intro e0 e1 e44 h0 h1 h44 T X hx6 hx7 hx8 hx9
      have y9 := fun v => lk_lset_self _ _ _ v hx9
      have hx8' := hx8
      have hx9' := hx9
      rw [es1] at hx8'
      rw [es2] at hx9'
      unfold cellsS at hx8' hx9'
      simp [h0, h1, h44, hx6, hx7, hx8', hx9', y9, hk, hk3, a2, a3, -Int.not_le, -Int.not_lt, -Nat.not_le, -Nat.not_lt, ty3, ty4, ty9, ty24, ty25, ty27, ty29, ty49, ty87, eq24, hm, hl, hr, fi16_eq, fi17_eq, fi29_eq, e15_1, e15_3, e15_5, e15_8, e15_11, q15_11, e15_12, e15_10, e15_13, e15_9, e15_7, e15_15, e15_17, e15_20, e15_22, e15_23, e15_21, e15_19, e15_26, e15_29, e15_31, e15_33, e15_35, e15_37, e15_39, e15_41, e15_43, e15_45, e15_47, q15_47, e15_49, e15_51, e15_52, e15_50, e15_48, e15_46, e15_44, e15_42, e15_40, e15_38, e15_36, e15_34, e15_32, e15_30, e15_28, e15_27, e15_25, e15_54, q15_54, e15_55, e15_24, e15_18, e15_16, e15_14, e15_6, e15_4, e15_2, e15_0]
      refine TT { q with name := [98] } hq _ _ _ _ h0 h1 ?_ _ _ ?_ ?_ ?_ ?_
      all_goals simp [hx6, hx7, hx8, hx9, y9, es1, es2, cellsS]
  · refine ⟨{ q with w := valueV l 0 (j + 1) }, gone (gone S sp) sq, j + 3, ho, by first | omega | (simp; omega), hg, by omega, ?_⟩
    intro e0 e1 e44 h0 h1 h44 T X hx6 hx7 hx8 hx9
    have y9 := fun v => lk_lset_self _ _ _ v hx9
    have hx8' := hx8
    have hx9' := hx9
    rw [es1] at hx8'
    rw [es2] at hx9'
    unfold cellsS at hx8' hx9'
    simp [h0, h1, h44, hx6, hx7, hx8', hx9', y9, hk, hv, a2, a3, -Int.not_le, -Int.not_lt, -Nat.not_le, -Nat.not_lt, ty3, ty4, ty9, ty24, ty25, ty27, ty29, ty49, ty87, eq24, hm, hl, hr, fi16_eq, fi17_eq, fi29_eq, e15_1, e15_3, e15_5, e15_8, e15_11, q15_11, e15_12, e15_10, e15_13, e15_9, e15_7, e15_15, e15_17, e15_20, e15_22, e15_23, e15_21, e15_19, e15_26, e15_29, e15_31, e15_33, e15_35, e15_37, e15_39, e15_41, e15_43, e15_45, e15_47, q15_47, e15_49, e15_51, e15_52, e15_50, e15_48, e15_46, e15_44, e15_42, e15_40, e15_38, e15_36, e15_34, e15_32, e15_30, e15_28, e15_27, e15_25, e15_54, q15_54, e15_55, e15_24, e15_18, e15_16, e15_14, e15_6, e15_4, e15_2, e15_0]
    refine TT { q with w := valueV l 0 (j + 1) } hq _ _ _ _ h0 h1 ?_ _ _ ?_ ?_ ?_ ?_
    all_goals simp [hx6, hx7, hx8, hx9, y9, es1, es2, cellsS]
  · generalize valueV l 0 (j + 1) = v at *
    rcases hq with ⟨hq1, hq2⟩ | ⟨i, hq1, hq2, hq3, hq4, hq5⟩
    · have hn := setAt_nw h [v] (by simp)
      have r3 := fun fr k len cs => newRef_setF h fr k len cs l (nA l 0 (j + 3))
      have TN := fun e0 e1 e44 h0 h1 h44 T X hx6 hx7 hx8 hx9 => T15_53 p { q with set := [v] } (nw S 0 ([v].flatMap Val.cells)) id l (nA l 0 (j + 3)) sp (.sref false 5 S.objs.length 0 1) (hp.nw _ _) hn (apart_nw hp _ _) e0 e1 e44 h0 h1 h44 T X hx6 hx7 hx8 hx9
      rw [show [v].flatMap Val.cells = [.int .i64 v.kind, .int .i64 v.n, .float .f64 v.x, .str v.s, .bool v.b] by simp [Val.cells]] at TN
      rw [es2] at hq2
      cases hq2
      refine ⟨{ q with set := [v] }, gone (gone (nw S 0 ([v].flatMap Val.cells)) sp) (.sref false 5 S.objs.length 0 1), j + 3, ⟨ho.1, by simp⟩, by simp, gone_ok (gone_ok (h.nw _ _) _) _, by omega, ?_⟩
      intro e0 e1 e44 h0 h1 h44 T X hx6 hx7 hx8 hx9
      have y9 := fun v => lk_lset_self _ _ _ v hx9
      have hx8' := hx8
      have hx9' := hx9
      rw [es1] at hx8'
      rw [es2] at hx9'
      unfold cellsS at hx8' hx9'
      simp [-List.flatMap_cons, -St.obj, -St.set, h0, h1, h44, hx6, hx7, hx8', hx9', y9, hk, hv, r3, a2, a3, markStep, markAppend, elemsAt, -Int.not_le, -Int.not_lt, -Nat.not_le, -Nat.not_lt, ty3, ty4, ty9, ty24, ty25, ty27, ty29, ty49, ty87, eq24, hm, hl, hr, fi16_eq, fi17_eq, fi29_eq, e15_1, e15_3, e15_5, e15_8, e15_11, q15_11, e15_12, e15_10, e15_13, e15_9, e15_7, e15_15, e15_17, e15_20, e15_22, e15_23, e15_21, e15_19, e15_26, e15_29, e15_31, e15_33, e15_35, e15_37, e15_39, e15_41, e15_43, e15_45, e15_47, q15_47, e15_49, e15_51, e15_52, e15_50, e15_48, e15_46, e15_44, e15_42, e15_40, e15_38, e15_36, e15_34, e15_32, e15_30, e15_28, e15_27, e15_25, e15_54, q15_54, e15_55, e15_24, e15_18, e15_16, e15_14, e15_6, e15_4, e15_2, e15_0]
      refine TN _ _ _ h0 h1 ?_ _ _ ?_ ?_ ?_ ?_
      all_goals simp [hx6, hx7, hx8, hx9, y9, es1, es2, cellsS]
    · subst hq2
      injection es2 with ea eb ec ed ee
      subst ea eb ec ed ee
      have hn1 := gone_ok h (.sref false 5 i 0 q.set.length)
      have eg : gone S (.sref false 5 i 0 q.set.length) = { S with objs := S.objs.set i [] } := rfl
      have r1 := fun a => obj_setF (S := S) hq4 l a
      have r2 := fun a => set_setF hq3 hq4 l a
      rw [← eg] at r2
      have ha : Apart (.sref false 5 i 0 q.set.length) sp := fun k h1 h2 => hd k h2 h1
      have hn := setAt_nw hn1 (q.set ++ [v]) (by simp)
      have r3 := fun fr k len cs => newRef_setF hn1 fr k len cs l (nA l 0 (j + 3))
      have hp2 := hp.gone ha
      have TN := fun e0 e1 e44 h0 h1 h44 T X hx6 hx7 hx8 hx9 => T15_53 p { q with set := q.set ++ [v] } (nw (gone S (.sref false 5 i 0 q.set.length)) 0 ((q.set ++ [v]).flatMap Val.cells)) id l (nA l 0 (j + 3)) sp _ (hp2.nw _ _) hn (apart_nw hp2 _ _) e0 e1 e44 h0 h1 h44 T X hx6 hx7 hx8 hx9
      have e4 := vals_cells_len q.set
      have e5 := vals_cells_strip q.set
      have e6 := vals_cells_one q.set
      have b1 : (q.set.length + 1) * 48 ≤ 140737488355328 := by omega
      have b2 : q.set.length + 1 ≤ 140737488355328 := by omega
      have b3 : 0 < q.set.length := List.length_pos_iff.2 hq1
      have e7 : q.set.flatMap Val.cells ++ [.int .i64 v.kind, .int .i64 v.n, .float .f64 v.x, .str v.s, .bool v.b] = (q.set ++ [v]).flatMap Val.cells := by simp [Val.cells]
      refine ⟨{ q with set := q.set ++ [v] }, gone (gone (nw (gone S (.sref false 5 i 0 q.set.length)) 0 ((q.set ++ [v]).flatMap Val.cells)) sp) (.sref false 5 (gone S (.sref false 5 i 0 q.set.length)).objs.length 0 (q.set ++ [v]).length), j + 3, ⟨ho.1, by simp; omega⟩, by simp; omega, gone_ok (gone_ok (hn1.nw _ _) _) _, by omega, ?_⟩
      intro e0 e1 e44 h0 h1 h44 T X hx6 hx7 hx8 hx9
      have y9 := fun v => lk_lset_self _ _ _ v hx9
      have hx8' := hx8
      have hx9' := hx9
      rw [es1] at hx8'
      unfold cellsS at hx8' hx9'
      simp [-List.flatMap_append, -St.obj, -St.set, h0, h1, h44, hx6, hx7, hx8', hx9', y9, hk, hv, r1, r2, r3, hq5, e4, e5, e6, e7, b1, b2, b3, a2, a3, markStep, markAppend, elemsAt, -Int.not_le, -Int.not_lt, -Nat.not_le, -Nat.not_lt, ty3, ty4, ty9, ty24, ty25, ty27, ty29, ty49, ty87, eq24, hm, hl, hr, fi16_eq, fi17_eq, fi29_eq, e15_1, e15_3, e15_5, e15_8, e15_11, q15_11, e15_12, e15_10, e15_13, e15_9, e15_7, e15_15, e15_17, e15_20, e15_22, e15_23, e15_21, e15_19, e15_26, e15_29, e15_31, e15_33, e15_35, e15_37, e15_39, e15_41, e15_43, e15_45, e15_47, q15_47, e15_49, e15_51, e15_52, e15_50, e15_48, e15_46, e15_44, e15_42, e15_40, e15_38, e15_36, e15_34, e15_32, e15_30, e15_28, e15_27, e15_25, e15_54, q15_54, e15_55, e15_24, e15_18, e15_16, e15_14, e15_6, e15_4, e15_2, e15_0]
      refine TN _ _ _ h0 h1 ?_ _ _ ?_ ?_ ?_ ?_
      all_goals simp [hx6, hx7, hx8, hx9, y9, es1, cellsS]
  · refine ⟨{ q with v := p.v }, gone (gone S sp) sq, j + 1, ho, by first | omega | (simp; omega), hg, by omega, ?_⟩
    intro e0 e1 e44 h0 h1 h44 T X hx6 hx7 hx8 hx9
    have y9 := fun v => lk_lset_self _ _ _ v hx9
    have hx8' := hx8
    have hx9' := hx9
    rw [es1] at hx8'
    rw [es2] at hx9'
    unfold cellsS at hx8' hx9'
    simp [h0, h1, h44, hx6, hx7, hx8', hx9', y9, hk, a2, a3, -Int.not_le, -Int.not_lt, -Nat.not_le, -Nat.not_lt, ty3, ty4, ty9, ty24, ty25, ty27, ty29, ty49, ty87, eq24, hm, hl, hr, fi16_eq, fi17_eq, fi29_eq, e15_1, e15_3, e15_5, e15_8, e15_11, q15_11, e15_12, e15_10, e15_13, e15_9, e15_7, e15_15, e15_17, e15_20, e15_22, e15_23, e15_21, e15_19, e15_26, e15_29, e15_31, e15_33, e15_35, e15_37, e15_39, e15_41, e15_43, e15_45, e15_47, q15_47, e15_49, e15_51, e15_52, e15_50, e15_48, e15_46, e15_44, e15_42, e15_40, e15_38, e15_36, e15_34, e15_32, e15_30, e15_28, e15_27, e15_25, e15_54, q15_54, e15_55, e15_24, e15_18, e15_16, e15_14, e15_6, e15_4, e15_2, e15_0]
    refine TT { q with v := p.v } hq _ _ _ _ h0 h1 ?_ _ _ ?_ ?_ ?_ ?_
    all_goals simp [hx6, hx7, hx8, hx9, y9, es1, es2, cellsS]
  · have n0 : ¬ z = 0 := by omega
    have n1 : ¬ z = 1 := by omega
    have n2 : ¬ z = 2 := by omega
    have n3 : ¬ z = 3 := by omega
    have n4 : ¬ z = 4 := by omega
    have n5 : ¬ z = 5 := by omega
    refine ⟨q, gone (gone S sp) sq, j + 1, ho, by first | omega | (simp; omega), hg, by omega, ?_⟩
    intro e0 e1 e44 h0 h1 h44 T X hx6 hx7 hx8 hx9
    have y9 := fun v => lk_lset_self _ _ _ v hx9
    have hx8' := hx8
    have hx9' := hx9
    rw [es1] at hx8'
    rw [es2] at hx9'
    unfold cellsS at hx8' hx9'
    simp [h0, h1, h44, hx6, hx7, hx8', hx9', y9, hk, n0, n1, n2, n3, n4, n5, a2, a3, -Int.not_le, -Int.not_lt, -Nat.not_le, -Nat.not_lt, ty3, ty4, ty9, ty24, ty25, ty27, ty29, ty49, ty87, eq24, hm, hl, hr, fi16_eq, fi17_eq, fi29_eq, e15_1, e15_3, e15_5, e15_8, e15_11, q15_11, e15_12, e15_10, e15_13, e15_9, e15_7, e15_15, e15_17, e15_20, e15_22, e15_23, e15_21, e15_19, e15_26, e15_29, e15_31, e15_33, e15_35, e15_37, e15_39, e15_41, e15_43, e15_45, e15_47, q15_47, e15_49, e15_51, e15_52, e15_50, e15_48, e15_46, e15_44, e15_42, e15_40, e15_38, e15_36, e15_34, e15_32, e15_30, e15_28, e15_27, e15_25, e15_54, q15_54, e15_55, e15_24, e15_18, e15_16, e15_14, e15_6, e15_4, e15_2, e15_0]
    refine TT q hq _ _ _ _ h0 h1 ?_ _ _ ?_ ?_ ?_ ?_
    all_goals simp [hx6, hx7, hx8, hx9, y9, es1, es2, cellsS]
theorem set_right {p : Pred} (h : pright p = true) : p.set.length ≤ 100 := by
  unfold pright at h
  split at h
  · repeat' split at h
    all_goals first
      | (simp only [Bool.and_eq_true, decide_eq_true_eq] at h; omega)
      | cases h
  · cases h
set_option maxHeartbeats 8000000 in
theorem c15 (x y : Pred) (ox : x.name.length < 4611686018427387904) (oy : y.name.length < 4611686018427387904) (l : List Int) (id : Nat) (st : St) (h : FeedOk st id) :
    ∃ p q S' a, Pred.ok p ∧ Pred.ok q ∧ FeedOk S' id ∧ a ≤ 10000 ∧ EvF gS 15 [x.enc, y.enc, .ptr id 0] (setF st id l (nA l 0 0)) = some (.ret (.tuple [p.enc, q.enc]) none, setF S' id l (nA l 0 a)) := by
  have hm : fi15.marks = [73, 1000000] := rfl
  have hl : fi15.locals = [3, 4, 6, 7, 8, 9] := rfl
  have hr : fi15.results = [.cell 6 27, .cell 7 27] := rfl
  have h8 := fun fr => k16 l 0 0 id 8 fr st h (by omega) (by omega) (by omega)
  have hp := fun fr => k29 l 0 1 id [97] fr st h (by omega) (by omega)
  have r1 := pred_right l 0 1 (nm := [97]) rfl
  have b1 := pred_asks l 0 1 [97]
  generalize predV l 0 1 [97] = P1 at *
  obtain ⟨p, k1⟩ := P1
  simp only at hp r1 b1
  have h2 := stS_ok h p.set
  have hq := fun fr => k29 l 0 (1 + k1) id [97] fr (stS st p.set) h2 (by omega) (by omega)
  have r2 := pred_right l 0 (1 + k1) (nm := [97]) rfl
  have b2 := pred_asks l 0 (1 + k1) [97]
  generalize predV l 0 (1 + k1) [97] = P2 at *
  obtain ⟨q, k2⟩ := P2
  simp only at hq r2 b2
  have h3 := stS_ok h2 q.set
  have h4 := fun fr => k16 l 0 (1 + k1 + k2) id 4 fr (stS (stS st p.set) q.set) h3 (by omega) (by omega) (by omega)
  have sx := sizes_vals x.set
  have sy := sizes_vals y.set
  obtain ⟨nx, hx1, hx2, hx3, hx4⟩ := six x.set
  obtain ⟨ny, hy1, hy2, hy3, hy4⟩ := six y.set
  have op := ok_of_right r1
  have oq := ok_of_right r2
  have lp := set_right r1
  have lq := set_right r2
  have st1 := setAt_new h p.set
  have st2 := setAt_new h2 q.set
  have hd := apart_new st1 q.set
  have st1' := st1.stS q.set
  generalize hsp : setS st.objs.length p.set = sp at *
  generalize hsq : setS (stS st p.set).objs.length q.set = sq at *
  generalize hS : stS (stS st p.set) q.set = S at *
  by_cases hz : fd l 0 0 8 = 0
  · have fx := frz_flat 5 (setF st id l (nA l 0 1)) (Pred.enc { x with set := x.set.take nx }) (by simp [Pred.enc, Pred.cells])
    have fy := frz_flat 5 (setF st id l (nA l 0 1)) (Pred.enc { y with set := y.set.take ny }) (by simp [Pred.enc, Pred.cells])
    have fz := frz_two fx fy
    refine ⟨{ x with set := x.set.take nx }, { y with set := y.set.take ny }, st, 1, ⟨ox, by simp only; omega⟩, ⟨oy, by simp only; omega⟩, h, by omega, ?_⟩
    refine EvF_start fi15_eq (fun x h => by cases h) m15 ?_
    rw [st15]
    unfold Pred.enc Pred.cells at *
    simp [sx, sy, hx1, hx2, hx4, hy1, hy2, hy4, h8, hz, fz, -Int.not_le, -Int.not_lt, -Nat.not_le, -Nat.not_lt, ty3, ty4, ty9, ty24, ty25, ty27, ty29, ty49, ty87, eq24, hm, hl, hr, fi16_eq, fi17_eq, fi29_eq, e15_1, e15_3, e15_5, e15_8, e15_11, q15_11, e15_12, e15_10, e15_13, e15_9, e15_7, e15_15, e15_17, e15_20, e15_22, e15_23, e15_21, e15_19, e15_26, e15_29, e15_31, e15_33, e15_35, e15_37, e15_39, e15_41, e15_43, e15_45, e15_47, q15_47, e15_49, e15_51, e15_52, e15_50, e15_48, e15_46, e15_44, e15_42, e15_40, e15_38, e15_36, e15_34, e15_32, e15_30, e15_28, e15_27, e15_25, e15_54, q15_54, e15_55, e15_53, e15_18, e15_16, e15_14, e15_6, e15_4, e15_2, e15_0]
  · by_cases hy : fd l 0 (1 + k1 + k2) 4 = 0
    · obtain ⟨sc, S2, k5, w1, w2, w3, w4⟩ := k51 h3 l (nA l 0 (1 + k1 + k2 + 1)) p st1' (by omega)
      obtain ⟨q', S', a', t1, t2, t3, t4, t5⟩ := T15_24 p p S2 id w1 l (1 + k1 + k2 + 1) (by omega) sp sc w3 w2 w4 op (by omega)
      refine ⟨p, q', S', a', op, t1, t3, by omega, ?_⟩
      refine EvF_start fi15_eq (fun x h => by cases h) m15 ?_
      rw [st15]
      unfold Pred.enc Pred.cells
      obtain ⟨f1, g1, i1, u1, m1, es1⟩ := setAt_sref st1
      obtain ⟨f2, g2, i2, u2, m2, es2⟩ := setAt_sref st2
      obtain ⟨f3, g3, i3, u3, m3, es3⟩ := setAt_sref w2
      rw [es1] at hp k5 t5
      rw [es2] at hq
      rw [es3] at k5 t5
      unfold cellsS Pred.enc Pred.cells at *
      simp [sx, sy, hx1, hx2, hx4, hy1, hy2, hy4, h8, hz, hp, hq, h4, hy, k5, -Int.not_le, -Int.not_lt, -Nat.not_le, -Nat.not_lt, ty3, ty4, ty9, ty24, ty25, ty27, ty29, ty49, ty87, eq24, hm, hl, hr, fi16_eq, fi17_eq, fi29_eq, e15_1, e15_3, e15_5, e15_8, e15_11, q15_11, e15_12, e15_10, e15_13, e15_9, e15_7, e15_15, e15_17, e15_20, e15_22, e15_23, e15_21, e15_19, e15_26, e15_29, e15_31, e15_33, e15_35, e15_37, e15_39, e15_41, e15_43, e15_45, e15_47, q15_47, e15_49, e15_51, e15_52, e15_50, e15_48, e15_46, e15_44, e15_42, e15_40, e15_38, e15_36, e15_34, e15_32, e15_30, e15_28, e15_27, e15_25, e15_54, q15_54, e15_55, e15_53, e15_18, e15_16, e15_14, e15_6, e15_4, e15_2, e15_0]
      refine t5 _ _ _ ?_ ?_ ?_ _ _ ?_ ?_ ?_ ?_
      all_goals simp
    · obtain ⟨q', S', a', t1, t2, t3, t4, t5⟩ := T15_24 p q S id h3 l (1 + k1 + k2 + 1) (by omega) sp sq st1' st2 hd oq lq
      refine ⟨p, q', S', a', op, t1, t3, by omega, ?_⟩
      refine EvF_start fi15_eq (fun x h => by cases h) m15 ?_
      rw [st15]
      unfold Pred.enc Pred.cells
      obtain ⟨f1, g1, i1, u1, m1, es1⟩ := setAt_sref st1
      obtain ⟨f2, g2, i2, u2, m2, es2⟩ := setAt_sref st2
      rw [es1] at hp t5
      rw [es2] at hq t5
      unfold cellsS Pred.enc Pred.cells at *
      simp [sx, sy, hx1, hx2, hx4, hy1, hy2, hy4, h8, hz, hp, hq, h4, hy, -Int.not_le, -Int.not_lt, -Nat.not_le, -Nat.not_lt, ty3, ty4, ty9, ty24, ty25, ty27, ty29, ty49, ty87, eq24, hm, hl, hr, fi16_eq, fi17_eq, fi29_eq, e15_1, e15_3, e15_5, e15_8, e15_11, q15_11, e15_12, e15_10, e15_13, e15_9, e15_7, e15_15, e15_17, e15_20, e15_22, e15_23, e15_21, e15_19, e15_26, e15_29, e15_31, e15_33, e15_35, e15_37, e15_39, e15_41, e15_43, e15_45, e15_47, q15_47, e15_49, e15_51, e15_52, e15_50, e15_48, e15_46, e15_44, e15_42, e15_40, e15_38, e15_36, e15_34, e15_32, e15_30, e15_28, e15_27, e15_25, e15_54, q15_54, e15_55, e15_53, e15_18, e15_16, e15_14, e15_6, e15_4, e15_2, e15_0]
      refine t5 _ _ _ ?_ ?_ ?_ _ _ ?_ ?_ ?_ ?_
      all_goals simp
end
end Go.Proofs.Ytclpbfkbpcjejaa
