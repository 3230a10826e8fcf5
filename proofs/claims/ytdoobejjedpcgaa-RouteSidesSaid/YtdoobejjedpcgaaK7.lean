/- The law of sides, with all that it rests on. Part 7. -/
import Derived.Test.YtdoobejjedpcgaaK6
namespace Go.Proofs.Ytdoobejjedpcgaa
open Go Go.Ab
set_option linter.unusedVariables false
set_option linter.unusedSimpArgs false
set_option linter.unnecessarySimpa false
set_option maxRecDepth 20000
noncomputable section
variable (fr : Fr) (st : St) (k : Kt)
def fi8 : FI := { body := codeOf Try.f8, ntmps := 167, results := [.tmp 6], pers := [0, 1, 2, 6, 7, 8, 9, 10, 11, 12, 13, 14, 15, 16, 17, 18, 19, 20, 21, 22], locals := [], pure := true, marks := [] }
theorem fi248_eq : gS.fn 8 = some fi8 := by kernel_rfl
theorem st8 (a0 a1 a2 : V) : startFr fi8 [a0, a1, a2] = { ps := [(0, .val a0), (1, .val a1), (2, .val a2), (6, .any), (7, .any), (8, .any), (9, .any), (10, .any), (11, .any), (12, .any), (13, .any), (14, .any), (15, .any), (16, .any), (17, .any), (18, .any), (19, .any), (20, .any), (21, .any), (22, .any)], ts := [], lc := [] } := rfl
def b8 : Code := mini (codeOf Try.f8)
def c8_22 : Code := .seq (codeN b8 9727) .ret
def c8_21 : Code := .cond (.tmp 75) c8_22 .skip
def c8_19 : Code := .seq (codeN b8 2559) c8_21
def c8_36 : Code := .cond (.tmp 80) .skip (.exit 0)
def c8_34 : Code := .seq (codeN b8 137215) c8_36
def c8_50 : Code := .cond (.tmp 88) .skip (.exit 2)
def c8_48 : Code := .seq (codeN b8 17602559) c8_50
def c8_67 : Code := .cond (.tmp 101) .skip (.exit 4)
def c8_65 : Code := .seq (codeN b8 8964052991) c8_67
def c8_79 : Code := .cond (.tmp 107) .skip (.exit 6)
def c8_77 : Code := .seq (codeN b8 569457285119) c8_79
def r8_84 : Array Oper := regOps (codeN (codeOf Try.f8) 1256652052479)
def c8_84 : Code := .region 27 r8_84 true
def q8_84 : List (Oper × Fl) := [(mv 110 19 4, ⟨true, true, true, false, true, false, true, true, false, false, []⟩),
 (mv 111 110 4, ⟨true, true, true, false, true, false, true, true, false, false, []⟩),
 (mk (some 112) (.move (.tmp 9)) 26 (some (1, false)), ⟨true, false, true, false, false, false, true, true, false, false, []⟩),
 (mk (some 113) (.move (.tmp 20)) 3 (some (1, false)), ⟨true, false, true, false, false, false, true, true, false, false, []⟩),
 (mk (some 114) (.indexAddr 26 (.tmp 112) (.tmp 113)) 0 (some (1, false)), ⟨true, false, true, false, false, false, true, true, false, false, []⟩),
 (mk (some 115) (.fieldAddr 31 (.tmp 114) 1) 0 (some (1, false)), ⟨true, false, true, false, false, false, true, true, false, false, []⟩),
 (mk (some 116) (.load 3 (.tmp 115)) 3 (some (1, false)), ⟨true, false, true, false, false, false, true, true, false, false, []⟩),
 (mk (some 117) (.move (.tmp 18)) 22 (some (1, false)), ⟨true, false, true, false, false, false, true, true, false, false, []⟩),
 (mk (some 118) (.move (.tmp 21)) 3 (some (1, false)), ⟨true, false, true, false, false, false, true, true, false, false, []⟩),
 (mk (some 119) (.indexAddr 22 (.tmp 117) (.tmp 118)) 0 (some (1, false)), ⟨true, false, true, false, false, false, true, true, false, false, []⟩),
 (mk (some 120) (.load 3 (.tmp 119)) 3 (some (1, false)), ⟨true, false, true, false, true, false, true, true, false, false, []⟩),
 (mk (some 121) (.binOp .eql 3 (.tmp 116) (.tmp 120) 3) 4 (some (1, false)), ⟨true, true, true, false, true, false, true, true, false, false, []⟩),
 (mk (some 122) (.move (.tmp 121)) 4 (some (1, false)), ⟨true, false, true, false, true, false, true, true, false, false, []⟩),
 (mk (some 123) (.move (.tmp 9)) 26 (some (12, true)), ⟨true, false, true, false, false, false, true, true, false, false, []⟩),
 (mk (some 124) (.move (.tmp 20)) 3 (some (12, true)), ⟨true, false, true, false, false, false, true, true, false, false, []⟩),
 (mk (some 125) (.indexAddr 26 (.tmp 123) (.tmp 124)) 0 (some (12, true)), ⟨true, false, true, false, false, false, true, true, false, false, []⟩),
 (mk (some 126) (.fieldAddr 31 (.tmp 125) 3) 0 (some (12, true)), ⟨true, false, true, false, false, false, true, true, false, false, []⟩),
 (mk (some 127) (.load 29 (.tmp 126)) 29 (some (12, true)), ⟨true, false, true, false, false, false, true, true, false, false, []⟩),
 (mk (some 128) (.move (.tmp 16)) 42 (some (12, true)), ⟨true, false, true, false, true, false, true, true, false, false, []⟩),
 (mk (some 129) (.call { callee := (.value (.func 44)), args := #[(.tmp 127), (.tmp 128)], argTypes := #[29, 42] }) 4 (some (12, true)), ⟨true, true, true, false, true, true, true, true, false, false, []⟩),
 (mk (some 130) (.pick (.tmp 122) (.tmp 129) (.const (.bool false))) 4 (some (1, false)), ⟨true, false, true, false, true, false, true, true, false, false, []⟩),
 (op1 131 (.pick (.tmp 111) (.const (.bool true)) (.tmp 130)) 4, ⟨true, false, true, false, true, false, true, true, false, false, []⟩),
 (asn 19 131 4, ⟨true, true, true, false, true, false, true, true, false, false, []⟩)]
def c8_85 : Code := codeN b8 981774145535
def c8_82 : Code := .seq (.block 7 c8_84) c8_85
def c8_76 : Code := .seq c8_77 c8_82
def c8_75 : Code := .loop c8_76
def c8_74 : Code := .block 6 c8_75
def c8_72 : Code := .seq (codeN b8 36881340415) c8_74
def c8_86 : Code := codeN b8 15406503935
theorem e8_86 : evK gS fi8 c8_86 fr st k = opsR gS fi8 [mv 102 20 3,
 op1 103 (.binOp .add 3 (.tmp 102) (.const (.int .i64 1)) 3) 3,
 asn 20 103 3] fr st k := evK_r 23 (by kernel_rfl)
def c8_70 : Code := .seq (.block 5 c8_72) c8_86
def c8_64 : Code := .seq c8_65 c8_70
def c8_63 : Code := .loop c8_64
def c8_62 : Code := .block 4 c8_63
def c8_60 : Code := .seq (codeN b8 642553855) c8_62
def r8_90 : Array Oper := regOps (codeN (codeOf Try.f8) 1582077951)
def c8_90 : Code := .region 29 r8_90 true
def q8_90 : List (Oper × Fl) := [(mv 139 10 70, ⟨true, false, true, false, false, false, true, true, false, false, []⟩),
 (mv 140 17 3, ⟨true, false, true, false, false, false, true, true, false, false, []⟩),
 (ixa 141 70 139 140 0, ⟨true, false, true, false, false, false, true, true, false, false, []⟩),
 (op1 142 (.fieldAddr 79 (.tmp 141) 0) 0, ⟨true, false, true, false, false, false, true, true, false, false, []⟩),
 (ld 143 3 142 3, ⟨true, false, true, false, false, false, true, true, false, false, []⟩),
 (mv 144 13 22, ⟨true, false, true, false, false, false, true, true, false, false, []⟩),
 (mv 145 17 3, ⟨true, false, true, false, false, false, true, true, false, false, []⟩),
 (ixa 146 22 144 145 0, ⟨true, false, true, false, false, false, true, true, false, false, []⟩),
 (ld 147 3 146 3, ⟨true, false, true, false, false, false, true, true, false, false, []⟩),
 (bop 148 .neq 3 143 147 3 4, ⟨true, true, true, false, true, false, true, true, false, false, []⟩),
 (mv 149 148 4, ⟨true, false, true, false, true, false, true, true, false, false, []⟩),
 (mk (some 150) (.move (.tmp 22)) 4 (some (10, false)), ⟨true, false, true, false, false, false, true, true, false, false, []⟩),
 (mk (some 151) (.move (.tmp 19)) 4 (some (10, false)), ⟨true, false, true, false, false, false, true, true, false, false, []⟩),
 (mk (some 152) (.binOp .neq 4 (.tmp 150) (.tmp 151) 4) 4 (some (10, false)), ⟨true, false, true, false, true, false, true, true, false, false, []⟩),
 (op1 153 (.pick (.tmp 149) (.const (.bool true)) (.tmp 152)) 4, ⟨true, false, true, false, true, false, true, true, false, false, []⟩),
 (mv 154 153 4, ⟨true, false, true, false, true, false, true, true, false, false, []⟩),
 (mk (some 155) (.move (.tmp 22)) 4 (some (15, false)), ⟨true, false, true, false, true, false, true, true, false, false, []⟩),
 (mk (some 156) (.move (.tmp 155)) 4 (some (15, false)), ⟨true, false, true, false, true, false, true, true, false, false, []⟩),
 (mk (some 157) (.move (.tmp 12)) 70 (some (17, true)), ⟨true, false, true, false, false, false, true, true, false, false, []⟩),
 (mk (some 158) (.move (.tmp 17)) 3 (some (17, true)), ⟨true, false, true, false, false, false, true, true, false, false, []⟩),
 (mk (some 159) (.indexAddr 70 (.tmp 157) (.tmp 158)) 0 (some (17, true)), ⟨true, false, true, false, false, false, true, true, false, false, []⟩),
 (mk (some 160) (.fieldAddr 79 (.tmp 159) 1) 0 (some (17, true)), ⟨true, false, true, false, false, false, true, true, false, false, []⟩),
 (mk (some 161) (.load 77 (.tmp 160)) 77 (some (17, true)), ⟨true, false, true, false, false, false, true, true, false, false, []⟩),
 (mk (some 162) (.move (.tmp 16)) 42 (some (17, true)), ⟨true, false, true, false, true, false, true, true, false, false, []⟩),
 (mk (some 163) (.call { callee := (.value (.func 45)), args := #[(.tmp 161), (.tmp 162)], argTypes := #[77, 42] }) 4 (some (17, true)), ⟨true, true, true, false, true, true, true, true, false, false, []⟩),
 (mk (some 164) (.unOp .not 4 (.tmp 163)) 4 (some (17, true)), ⟨true, false, true, false, true, false, true, true, false, false, []⟩),
 (mk (some 165) (.pick (.tmp 156) (.tmp 164) (.const (.bool false))) 4 (some (15, false)), ⟨true, false, true, false, true, false, true, true, false, false, []⟩),
 (op1 166 (.pick (.tmp 154) (.const (.bool true)) (.tmp 165)) 4, ⟨true, false, true, false, true, false, true, true, false, false, []⟩)]
def c8_92 : Code := .seq (codeN b8 5340174335) .ret
def c8_91 : Code := .cond (.tmp 166) c8_92 .skip
def c8_89 : Code := .seq c8_90 c8_91
def c8_87 : Code := .seq (codeN b8 776771583) c8_89
theorem e8_87 : evK gS fi8 c8_87 fr st k = opsR gS fi8 [mv 132 10 70,
 mv 133 17 3,
 ixa 134 70 132 133 0,
 op1 135 (.fieldAddr 79 (.tmp 134) 1) 0,
 ld 136 77 135 77,
 mv 137 16 42,
 cal 138 45 [(.tmp 136), (.tmp 137)] [77, 42] 4,
 asn 22 138 4] fr st (.seq c8_89 k) := evK_rs 28 rfl (by kernel_rfl)
def c8_59 : Code := .seq c8_60 c8_87
def c8_57 : Code := .seq (codeN b8 172791807) c8_59
def c8_55 : Code := .seq (codeN b8 72128511) c8_57
def c8_96 : Code := codeN b8 30185471
theorem e8_96 : evK gS fi8 c8_96 fr st k = opsR gS fi8 [mv 89 17 3,
 op1 90 (.binOp .add 3 (.tmp 89) (.const (.int .i64 1)) 3) 3,
 asn 17 90 3] fr st k := evK_r 18 (by kernel_rfl)
def c8_53 : Code := .seq (.block 3 c8_55) c8_96
def c8_47 : Code := .seq c8_48 c8_53
def c8_46 : Code := .loop c8_47
def c8_45 : Code := .block 2 c8_46
def c8_43 : Code := .seq (codeN b8 1349631) c8_45
def c8_41 : Code := .seq (codeN b8 563199) c8_43
def c8_97 : Code := codeN b8 235519
theorem e8_97 : evK gS fi8 c8_97 fr st k = opsR gS fi8 [mv 81 15 3,
 op1 82 (.binOp .add 3 (.tmp 81) (.const (.int .i64 1)) 3) 3,
 asn 15 82 3] fr st k := evK_r 14 (by kernel_rfl)
def c8_39 : Code := .seq (.block 1 c8_41) c8_97
def c8_33 : Code := .seq c8_34 c8_39
def c8_32 : Code := .loop c8_33
def c8_31 : Code := .block 0 c8_32
def c8_29 : Code := .seq (codeN b8 10239) c8_31
def c8_98 : Code := .seq (codeN b8 12287) .ret
theorem e8_98 : evK gS fi8 c8_98 fr st k = opsR gS fi8 [op1 6 (.assign (.const (.bool true))) 4] fr st (.seq .ret k) := evK_rs 31 rfl (by kernel_rfl)
def c8_28 : Code := .seq c8_29 c8_98
def c8_26 : Code := .seq (codeN b8 3071) c8_28
def c8_18 : Code := .seq c8_19 c8_26
def c8_16 : Code := .seq (codeN b8 767) c8_18
def c8_14 : Code := .seq (codeN b8 383) c8_16
def c8_12 : Code := .seq (codeN b8 191) c8_14
def c8_10 : Code := .seq (codeN b8 95) c8_12
def c8_8 : Code := .seq (codeN b8 47) c8_10
def c8_6 : Code := .seq (codeN b8 23) c8_8
def c8_4 : Code := .seq (codeN b8 11) c8_6
def c8_2 : Code := .seq (codeN b8 5) c8_4
def c8_0 : Code := .seq (codeN b8 2) c8_2
theorem E8 : evK gS fi8 c8_22 fr st k = opsR gS fi8 [op1 6 (.assign (.const (.bool false))) 4] fr st (.seq .ret k) ∧
 evK gS fi8 c8_21 fr st k = condK gS fi8 (fr.op (.tmp 75)).bool? c8_22 .skip fr st k ∧
 (evK gS fi8 c8_19 fr st k = opsR gS fi8 [cal 60 42 [] [] 4,
 op1 61 (.unOp .not 4 (.tmp 60)) 4,
 mv 62 61 4,
 mk (some 63) (.move (.tmp 10)) 70 (some (2, false)),
 mk (some 64) (.call { callee := (.builtin .len), args := #[(.tmp 63)], argTypes := #[70] }) 3 (some (2, false)),
 mk (some 65) (.move (.tmp 13)) 22 (some (2, false)),
 mk (some 66) (.call { callee := (.builtin .len), args := #[(.tmp 65)], argTypes := #[22] }) 3 (some (2, false)),
 mk (some 67) (.binOp .neq 3 (.tmp 64) (.tmp 66) 3) 4 (some (2, false)),
 op1 68 (.pick (.tmp 62) (.const (.bool true)) (.tmp 67)) 4,
 mv 69 68 4,
 mk (some 70) (.move (.tmp 12)) 70 (some (9, false)),
 mk (some 71) (.call { callee := (.builtin .len), args := #[(.tmp 70)], argTypes := #[70] }) 3 (some (9, false)),
 mk (some 72) (.move (.tmp 13)) 22 (some (9, false)),
 mk (some 73) (.call { callee := (.builtin .len), args := #[(.tmp 72)], argTypes := #[22] }) 3 (some (9, false)),
 mk (some 74) (.binOp .neq 3 (.tmp 71) (.tmp 73) 3) 4 (some (9, false)),
 op1 75 (.pick (.tmp 69) (.const (.bool true)) (.tmp 74)) 4] fr st (.seq c8_21 k)) ∧
 evK gS fi8 c8_36 fr st k = condK gS fi8 (fr.op (.tmp 80)).bool? .skip (.exit 0) fr st k ∧
 (evK gS fi8 c8_34 fr st k = opsR gS fi8 [mv 79 15 3,
 op1 80 (.binOp .lss 3 (.tmp 79) (.const (.int .i64 4)) 3) 4] fr st (.seq c8_36 k)) ∧
 evK gS fi8 c8_50 fr st k = condK gS fi8 (fr.op (.tmp 88)).bool? .skip (.exit 2) fr st k ∧
 (evK gS fi8 c8_48 fr st k = opsR gS fi8 [mv 85 17 3,
 mv 86 10 70,
 len1 87 86 70 3,
 bop 88 .lss 3 85 87 3 4] fr st (.seq c8_50 k)) ∧
 evK gS fi8 c8_67 fr st k = condK gS fi8 (fr.op (.tmp 101)).bool? .skip (.exit 4) fr st k ∧
 (evK gS fi8 c8_65 fr st k = opsR gS fi8 [mv 98 20 3,
 mv 99 9 26,
 len1 100 99 26 3,
 bop 101 .lss 3 98 100 3 4] fr st (.seq c8_67 k)) ∧
 evK gS fi8 c8_79 fr st k = condK gS fi8 (fr.op (.tmp 107)).bool? .skip (.exit 6) fr st k ∧
 (evK gS fi8 c8_77 fr st k = opsR gS fi8 [mv 104 21 3,
 mv 105 18 22,
 len1 106 105 22 3,
 bop 107 .lss 3 104 106 3 4] fr st (.seq c8_79 k)) ∧
 evK gS fi8 c8_84 fr st k = drwR gS fi8 r8_84 q8_84 fr st k ∧
 (evK gS fi8 c8_85 fr st k = opsR gS fi8 [mv 108 21 3,
 op1 109 (.binOp .add 3 (.tmp 108) (.const (.int .i64 1)) 3) 3,
 asn 21 109 3] fr st k) ∧
 evK gS fi8 c8_82 fr st k = evK gS fi8 c8_84 fr st (.blk 7 (.seq c8_85 k)) ∧
 evK gS fi8 c8_76 fr st k = evK gS fi8 c8_77 fr st (.seq c8_82 k) ∧
 evK gS fi8 c8_74 fr st k = evK gS fi8 c8_75 fr st (.blk 6 k) ∧
 evK gS fi8 c8_72 fr st k = opsR gS fi8 [op1 21 (.assign (.const (.int .i64 0))) 3] fr st (.seq c8_74 k) ∧
 evK gS fi8 c8_70 fr st k = evK gS fi8 c8_72 fr st (.blk 5 (.seq c8_86 k)) ∧
 evK gS fi8 c8_64 fr st k = evK gS fi8 c8_65 fr st (.seq c8_70 k) ∧
 evK gS fi8 c8_62 fr st k = evK gS fi8 c8_63 fr st (.blk 4 k) ∧
 evK gS fi8 c8_60 fr st k = opsR gS fi8 [op1 20 (.assign (.const (.int .i64 0))) 3] fr st (.seq c8_62 k) ∧
 evK gS fi8 c8_90 fr st k = drwR gS fi8 r8_90 q8_90 fr st k ∧
 evK gS fi8 c8_92 fr st k = opsR gS fi8 [op1 6 (.assign (.const (.bool false))) 4] fr st (.seq .ret k) ∧
 evK gS fi8 c8_91 fr st k = condK gS fi8 (fr.op (.tmp 166)).bool? c8_92 .skip fr st k ∧
 evK gS fi8 c8_89 fr st k = evK gS fi8 c8_90 fr st (.seq c8_91 k) ∧
 evK gS fi8 c8_59 fr st k = evK gS fi8 c8_60 fr st (.seq c8_87 k) ∧
 evK gS fi8 c8_57 fr st k = opsR gS fi8 [op1 19 (.assign (.const (.bool false))) 4] fr st (.seq c8_59 k) ∧
 (evK gS fi8 c8_55 fr st k = opsR gS fi8 [mv 91 8 22,
 mv 92 2 3,
 mv 93 13 22,
 mv 94 17 3,
 ixa 95 22 93 94 0,
 ld 96 3 95 3,
 cal 97 43 [(.tmp 91), (.tmp 92), (.tmp 96)] [22, 3, 3] 22,
 asn 18 97 22] fr st (.seq c8_57 k)) ∧
 evK gS fi8 c8_53 fr st k = evK gS fi8 c8_55 fr st (.blk 3 (.seq c8_96 k)) ∧
 evK gS fi8 c8_47 fr st k = evK gS fi8 c8_48 fr st (.seq c8_53 k) ∧
 evK gS fi8 c8_45 fr st k = evK gS fi8 c8_46 fr st (.blk 2 k) ∧
 evK gS fi8 c8_43 fr st k = opsR gS fi8 [op1 17 (.assign (.const (.int .i64 0))) 3] fr st (.seq c8_45 k) ∧
 (evK gS fi8 c8_41 fr st k = opsR gS fi8 [mv 83 14 23,
 cal 84 17 [(.tmp 83)] [23] 42,
 asn 16 84 42] fr st (.seq c8_43 k)) ∧
 evK gS fi8 c8_39 fr st k = evK gS fi8 c8_41 fr st (.blk 1 (.seq c8_97 k)) ∧
 evK gS fi8 c8_33 fr st k = evK gS fi8 c8_34 fr st (.seq c8_39 k) ∧
 evK gS fi8 c8_31 fr st k = evK gS fi8 c8_32 fr st (.blk 0 k) ∧
 evK gS fi8 c8_29 fr st k = opsR gS fi8 [op1 15 (.assign (.const (.int .i64 0))) 3] fr st (.seq c8_31 k) ∧
 evK gS fi8 c8_28 fr st k = evK gS fi8 c8_29 fr st (.seq c8_98 k) ∧
 (evK gS fi8 c8_26 fr st k = opsR gS fi8 [mv 76 1 22,
 op1 77 (.build 25 #[(0, (.tmp 76))]) 25,
 op1 78 (.box 25 (.tmp 77)) 23,
 asn 14 78 23] fr st (.seq c8_28 k)) ∧
 evK gS fi8 c8_18 fr st k = evK gS fi8 c8_19 fr st (.seq c8_26 k) ∧
 (evK gS fi8 c8_16 fr st k = opsR gS fi8 [mv 57 8 22,
 mv 58 2 3,
 cal 59 41 [(.tmp 57), (.tmp 58)] [22, 3] 22,
 asn 13 59 22] fr st (.seq c8_18 k)) ∧
 (evK gS fi8 c8_14 fr st k = opsR gS fi8 [mv 53 8 22,
 mv 54 11 26,
 mv 55 2 3,
 cal 56 39 [(.tmp 53), (.tmp 54), (.tmp 55)] [22, 26, 3] 70,
 asn 12 56 70] fr st (.seq c8_16 k)) ∧
 (evK gS fi8 c8_12 fr st k = opsR gS fi8 [op1 40 (.buildSlice 26 0 #[]) 26,
 mv 41 9 26,
 op1 42 (.call { callee := (.builtin .append), args := #[(.tmp 40), (.tmp 41)], argTypes := #[26, 26] }) 26,
 mv 43 7 23,
 mv 44 8 22,
 len1 45 44 22 3,
 op1 46 (.binOp .add 3 (.tmp 45) (.const (.int .i64 1)) 3) 3,
 cal 47 11 [(.tmp 43), (.tmp 46)] [23, 3] 3,
 mv 48 7 23,
 cal 49 40 [(.tmp 48)] [23] 29,
 op1 50 (.build 31 #[(0, (.const (.int .i64 6))), (1, (.tmp 47)), (2, (.const (.int .i64 99))), (3, (.tmp 49))]) 31,
 op1 51 (.buildSlice 26 1 #[(0, (.tmp 50))]) 26,
 op1 52 (.call { callee := (.builtin .append), args := #[(.tmp 42), (.tmp 51)], argTypes := #[26, 26] }) 26,
 asn 11 52 26] fr st (.seq c8_14 k)) ∧
 (evK gS fi8 c8_10 fr st k = opsR gS fi8 [mv 36 8 22,
 mv 37 9 26,
 mv 38 2 3,
 cal 39 39 [(.tmp 36), (.tmp 37), (.tmp 38)] [22, 26, 3] 70,
 asn 10 39 70] fr st (.seq c8_12 k)) ∧
 (evK gS fi8 c8_8 fr st k = opsR gS fi8 [mv 31 2 3,
 mv 32 8 22,
 len1 33 32 22 3,
 op1 34 (.binOp .add 3 (.tmp 33) (.const (.int .i64 1)) 3) 3,
 cal 35 29 [(.tmp 31), (.tmp 34)] [3, 3] 3,
 asn 2 35 3] fr st (.seq c8_10 k)) ∧
 (evK gS fi8 c8_6 fr st k = opsR gS fi8 [mv 28 7 23,
 mv 29 8 22,
 cal 30 10 [(.tmp 28), (.tmp 29)] [23, 22] 26,
 asn 9 30 26] fr st (.seq c8_8 k)) ∧
 (evK gS fi8 c8_4 fr st k = opsR gS fi8 [mv 26 7 23,
 cal 27 26 [(.tmp 26), (.const (.int .i64 8))] [23, 3] 22,
 asn 8 27 22] fr st (.seq c8_6 k)) ∧
 (evK gS fi8 c8_2 fr st k = opsR gS fi8 [mv 23 0 22,
 op1 24 (.build 25 #[(0, (.tmp 23))]) 25,
 op1 25 (.box 25 (.tmp 24)) 23,
 asn 7 25 23] fr st (.seq c8_4 k)) ∧
 evK gS fi8 c8_0 fr st k = opsR gS fi8 [op1 6 (.assign (.const (.bool false))) 4] fr st (.seq c8_2 k) := ⟨evK_rs 10 rfl (by kernel_rfl), rfl, evK_rs 9 rfl (by kernel_rfl), rfl, evK_rs 13 rfl (by kernel_rfl), rfl, evK_rs 17 rfl (by kernel_rfl), rfl, evK_rs 22 rfl (by kernel_rfl), rfl, evK_rs 25 rfl (by kernel_rfl), evK_dr 27 rfl (by kernel_rfl) (by kernel_rfl), evK_r 26 (by kernel_rfl), rfl, rfl, rfl, evK_rs 24 rfl (by kernel_rfl), rfl, rfl, rfl, evK_rs 21 rfl (by kernel_rfl), evK_dr 29 rfl (by kernel_rfl) (by kernel_rfl), evK_rs 30 rfl (by kernel_rfl), rfl, rfl, rfl, evK_rs 20 rfl (by kernel_rfl), evK_rs 19 rfl (by kernel_rfl), rfl, rfl, rfl, evK_rs 16 rfl (by kernel_rfl), evK_rs 15 rfl (by kernel_rfl), rfl, rfl, rfl, evK_rs 12 rfl (by kernel_rfl), rfl, evK_rs 11 rfl (by kernel_rfl), rfl, evK_rs 8 rfl (by kernel_rfl), evK_rs 7 rfl (by kernel_rfl), evK_rs 6 rfl (by kernel_rfl), evK_rs 5 rfl (by kernel_rfl), evK_rs 4 rfl (by kernel_rfl), evK_rs 3 rfl (by kernel_rfl), evK_rs 2 rfl (by kernel_rfl), evK_rs 1 rfl (by kernel_rfl), evK_rs 0 rfl (by kernel_rfl)⟩
theorem m8 : mini fi8.body = c8_0 := by kernel_rfl
theorem n8_75 (fr : Fr) (st : St) (k : Kt) : nextK gS fi8 (.loop c8_76 k) .normal fr st = evK gS fi8 c8_75 fr st k := rfl
theorem n8_63 (fr : Fr) (st : St) (k : Kt) : nextK gS fi8 (.loop c8_64 k) .normal fr st = evK gS fi8 c8_63 fr st k := rfl
theorem n8_46 (fr : Fr) (st : St) (k : Kt) : nextK gS fi8 (.loop c8_47 k) .normal fr st = evK gS fi8 c8_46 fr st k := rfl
theorem n8_32 (fr : Fr) (st : St) (k : Kt) : nextK gS fi8 (.loop c8_33 k) .normal fr st = evK gS fi8 c8_32 fr st k := rfl
set_option maxHeartbeats 8000000 in
theorem LJ (l1 l2 : List Int) (b : Int) (id id2 : Nat) (p : List Int) (hp7 : p.length ≤ 7) (xs ys : List Sub) (hx1 : ∀ s ∈ xs, POk s.filter) (hx2 : xs.length ≤ 18) (hy1 : ∀ s ∈ ys, POk s.filter) (hy2 : ys.length ≤ 19) (ns : List Int) (hns : ns.length ≤ 8) (S : St) (R : Out × St) (A : List Attr) (hA : A.length ≤ 5) (sd : List Int) (hsd : sd.length < 100000) (n i k : Nat) (x0 : Sub) (hx0 : xs[k]? = some x0) (fin : Bool)
    (H : ∀ (e22 : E) (T : List (Nat × E)) (X : List (Nat × List V)), e22.Tame → evK gS fi8 c8_86 { ps := [(0, .val (.slice (intVs l1))), (1, .val (.slice (intVs l2))), (2, .val (.int .i64 b)), (6, .val (.bool false)), (7, .val (.ptr id 0)), (8, .val (.slice (intVs p))), (9, .val (.slice (encSubs xs))), (10, .val (.slice (encTbls (ns.map (tabOf p xs b))))), (11, .own 4 (encSubs ys)), (12, .val (.slice (encTbls (ns.map (tabOf p ys b))))), (13, .val (.slice (intVs ns))), (14, .val (.ptr id2 0)), (15, .val (.int .i64 (n : Nat))), (16, .val (.slice (encAttrs A))), (17, .val (.int .i64 (i : Nat))), (18, .val (.slice (intVs sd))), (19, .val (.bool fin)), (20, .val (.int .i64 (k : Nat))), (21, .val (.int .i64 sd.length)), (22, e22)], ts := T, lc := X } S (.loop c8_64 (.blk 4 (.seq c8_87 (.blk 3 (.seq c8_96 (.loop c8_47 (.blk 2 (.blk 1 (.seq c8_97 (.loop c8_33 (.blk 0 (.seq c8_98 .nil)))))))))))) = some R) :
    ∀ (m q : Nat) (t : Bool) (e22 : E) (T : List (Nat × E)) (X : List (Nat × List V)) (h22 : e22.Tame), q ≤ sd.length → sd.length - q = m → fin = (sd.drop q).foldl (jStep x0 A) t → 
    evK gS fi8 c8_75 { ps := [(0, .val (.slice (intVs l1))), (1, .val (.slice (intVs l2))), (2, .val (.int .i64 b)), (6, .val (.bool false)), (7, .val (.ptr id 0)), (8, .val (.slice (intVs p))), (9, .val (.slice (encSubs xs))), (10, .val (.slice (encTbls (ns.map (tabOf p xs b))))), (11, .own 4 (encSubs ys)), (12, .val (.slice (encTbls (ns.map (tabOf p ys b))))), (13, .val (.slice (intVs ns))), (14, .val (.ptr id2 0)), (15, .val (.int .i64 (n : Nat))), (16, .val (.slice (encAttrs A))), (17, .val (.int .i64 (i : Nat))), (18, .val (.slice (intVs sd))), (19, .val (.bool t)), (20, .val (.int .i64 (k : Nat))), (21, .val (.int .i64 (q : Nat))), (22, e22)], ts := T, lc := X } S (.blk 6 (.blk 5 (.seq c8_86 (.loop c8_64 (.blk 4 (.seq c8_87 (.blk 3 (.seq c8_96 (.loop c8_47 (.blk 2 (.blk 1 (.seq c8_97 (.loop c8_33 (.blk 0 (.seq c8_98 .nil))))))))))))))) = some R := by
  intro m
  have hm : fi8.marks = [] := rfl
  have hl : fi8.locals = [] := rfl
  have hr : fi8.results = [.tmp 6] := rfl
  have hxo := hx1 x0 (List.mem_of_getElem? hx0)
  obtain ⟨hkl, hke⟩ := List.getElem?_eq_some_iff.1 hx0
  have hkt : (k : Int) < (xs.length : Int) := by omega
  induction m with
  | zero =>
    intro q t e22 T X h22 hq hm2 hf
    obtain rfl : q = sd.length := by omega
    rw [List.drop_length] at hf
    simp only [List.foldl_nil] at hf
    subst hf
    refine evK_loop c8_76 _ _ _ _ rfl ?_
    simp (config := { implicitDefEqProofs := false }) [-Int.natCast_add, -St.obj, -St.set, h22, -Int.not_le, -Int.not_lt, -Nat.not_le, -Nat.not_lt, ty3, ty4, ty22, ty23, ty25, ty26, ty29, ty31, ty42, ty70, ty77, ty79, hm, hl, hr, fi16_eq, fi35_eq, fi36_eq, x44, fi39_eq, p44, x45, fi47_eq, p45, x29, fi52_eq, p29, fi53_eq, fi200_eq, fi208_eq, x43, fi210_eq, p43, k42, x42, fi226_eq, p42, fi228_eq, E8, q8_84, q8_90, e8_87, e8_96, e8_97, e8_98, n8_75, n8_63, n8_46, n8_32]
    exact H _ _ _ h22
  | succ m ih =>
    intro q t e22 T X h22 hq hm2 hf
    obtain ⟨x, hx⟩ : ∃ x, sd[q]? = some x := ⟨sd[q]'(by omega), List.getElem?_eq_getElem (by omega)⟩
    have hlt : (q : Int) < (sd.length : Int) := by omega
    obtain ⟨hlt2, hxe⟩ := List.getElem?_eq_some_iff.1 hx
    have hw : IntKind.wrap .i64 ((q : Int) + 1) = ((q + 1 : Nat) : Int) := by rw [wrap64 (by omega) (by omega)]; omega
    have kk : ∀ (fr : Fr) (st : St), callStep gS (EvF gS) 44 [.slice (encPreds x0.filter), .slice (encAttrs A)] fr st = some (.ok (.val (.bool (ftakes x0.filter A))) fr st) := fun fr st => k44 x0.filter A hxo (by omega) fr st
    rw [drop_get hx, List.foldl_cons] at hf
    rw [show jStep x0 A t x = (t || (decide (x0.broker = x) && ftakes x0.filter A)) from rfl] at hf
    have IH := fun e22 T X h22 => ih (q + 1) _ e22 T X h22 (by omega) (by omega) hf
    generalize ftakes x0.filter A = z at *
    refine evK_loop c8_76 _ _ _ _ rfl ?_
    cases t with
    | true =>
      simp only [Bool.true_or] at IH
      simp (config := { implicitDefEqProofs := false }) [-Int.natCast_add, h22, hx, hxe, hlt, hlt2, hw, -Int.not_le, -Int.not_lt, -Nat.not_le, -Nat.not_lt, ty3, ty4, ty22, ty23, ty25, ty26, ty29, ty31, ty42, ty70, ty77, ty79, hm, hl, hr, fi16_eq, fi35_eq, fi36_eq, x44, fi39_eq, p44, x45, fi47_eq, p45, x29, fi52_eq, p29, fi53_eq, fi200_eq, fi208_eq, x43, fi210_eq, p43, k42, x42, fi226_eq, p42, fi228_eq, E8, q8_84, e8_86, q8_90, e8_87, e8_96, e8_97, e8_98, n8_75, n8_63, n8_46, n8_32]
      exact IH _ _ _ h22
    | false =>
      by_cases hc : x0.broker = x
      · simp only [hc, decide_true, Bool.true_and, Bool.false_or] at IH
        simp (config := { implicitDefEqProofs := false }) [-Int.natCast_add, h22, hx, hxe, hlt, hlt2, hw, hx0, hkl, hke, hkt, hc, kk, -Int.not_le, -Int.not_lt, -Nat.not_le, -Nat.not_lt, ty3, ty4, ty22, ty23, ty25, ty26, ty29, ty31, ty42, ty70, ty77, ty79, hm, hl, hr, fi16_eq, fi35_eq, fi36_eq, x44, fi39_eq, p44, x45, fi47_eq, p45, x29, fi52_eq, p29, fi53_eq, fi200_eq, fi208_eq, x43, fi210_eq, p43, k42, x42, fi226_eq, p42, fi228_eq, E8, q8_84, e8_86, q8_90, e8_87, e8_96, e8_97, e8_98, n8_75, n8_63, n8_46, n8_32]
        exact IH _ _ _ h22
      · simp only [hc, decide_false, Bool.false_and, Bool.false_or] at IH
        simp (config := { implicitDefEqProofs := false }) [-Int.natCast_add, h22, hx, hxe, hlt, hlt2, hw, hx0, hkl, hke, hkt, hc, -Int.not_le, -Int.not_lt, -Nat.not_le, -Nat.not_lt, ty3, ty4, ty22, ty23, ty25, ty26, ty29, ty31, ty42, ty70, ty77, ty79, hm, hl, hr, fi16_eq, fi35_eq, fi36_eq, x44, fi39_eq, p44, x45, fi47_eq, p45, x29, fi52_eq, p29, fi53_eq, fi200_eq, fi208_eq, x43, fi210_eq, p43, k42, x42, fi226_eq, p42, fi228_eq, E8, q8_84, e8_86, q8_90, e8_87, e8_96, e8_97, e8_98, n8_75, n8_63, n8_46, n8_32]
        exact IH _ _ _ h22
set_option maxHeartbeats 8000000 in
theorem LK (l1 l2 : List Int) (b : Int) (id id2 : Nat) (p : List Int) (hp7 : p.length ≤ 7) (xs ys : List Sub) (hx1 : ∀ s ∈ xs, POk s.filter) (hx2 : xs.length ≤ 18) (hy1 : ∀ s ∈ ys, POk s.filter) (hy2 : ys.length ≤ 19) (ns : List Int) (hns : ns.length ≤ 8) (S : St) (R : Out × St) (A : List Attr) (hA : A.length ≤ 5) (sd : List Int) (hsd : sd.length < 100000) (n i : Nat) (fin : Bool)
    (H : ∀ (e21 e22 : E) (T : List (Nat × E)) (X : List (Nat × List V)), e21.Tame → e22.Tame → evK gS fi8 c8_87 { ps := [(0, .val (.slice (intVs l1))), (1, .val (.slice (intVs l2))), (2, .val (.int .i64 b)), (6, .val (.bool false)), (7, .val (.ptr id 0)), (8, .val (.slice (intVs p))), (9, .val (.slice (encSubs xs))), (10, .val (.slice (encTbls (ns.map (tabOf p xs b))))), (11, .own 4 (encSubs ys)), (12, .val (.slice (encTbls (ns.map (tabOf p ys b))))), (13, .val (.slice (intVs ns))), (14, .val (.ptr id2 0)), (15, .val (.int .i64 (n : Nat))), (16, .val (.slice (encAttrs A))), (17, .val (.int .i64 (i : Nat))), (18, .val (.slice (intVs sd))), (19, .val (.bool fin)), (20, .val (.int .i64 xs.length)), (21, e21), (22, e22)], ts := T, lc := X } S (.blk 3 (.seq c8_96 (.loop c8_47 (.blk 2 (.blk 1 (.seq c8_97 (.loop c8_33 (.blk 0 (.seq c8_98 .nil))))))))) = some R) :
    ∀ (m q : Nat) (t : Bool) (e21 e22 : E) (T : List (Nat × E)) (X : List (Nat × List V)) (h21 : e21.Tame) (h22 : e22.Tame), q ≤ xs.length → xs.length - q = m → fin = (xs.drop q).foldl (kStep sd A) t → 
    evK gS fi8 c8_63 { ps := [(0, .val (.slice (intVs l1))), (1, .val (.slice (intVs l2))), (2, .val (.int .i64 b)), (6, .val (.bool false)), (7, .val (.ptr id 0)), (8, .val (.slice (intVs p))), (9, .val (.slice (encSubs xs))), (10, .val (.slice (encTbls (ns.map (tabOf p xs b))))), (11, .own 4 (encSubs ys)), (12, .val (.slice (encTbls (ns.map (tabOf p ys b))))), (13, .val (.slice (intVs ns))), (14, .val (.ptr id2 0)), (15, .val (.int .i64 (n : Nat))), (16, .val (.slice (encAttrs A))), (17, .val (.int .i64 (i : Nat))), (18, .val (.slice (intVs sd))), (19, .val (.bool t)), (20, .val (.int .i64 (q : Nat))), (21, e21), (22, e22)], ts := T, lc := X } S (.blk 4 (.seq c8_87 (.blk 3 (.seq c8_96 (.loop c8_47 (.blk 2 (.blk 1 (.seq c8_97 (.loop c8_33 (.blk 0 (.seq c8_98 .nil))))))))))) = some R := by
  intro m
  have hm : fi8.marks = [] := rfl
  have hl : fi8.locals = [] := rfl
  have hr : fi8.results = [.tmp 6] := rfl
  induction m with
  | zero =>
    intro q t e21 e22 T X h21 h22 hq hm2 hf
    obtain rfl : q = xs.length := by omega
    rw [List.drop_length] at hf
    simp only [List.foldl_nil] at hf
    subst hf
    refine evK_loop c8_64 _ _ _ _ rfl ?_
    simp (config := { implicitDefEqProofs := false }) [-Int.natCast_add, -St.obj, -St.set, h21, h22, -Int.not_le, -Int.not_lt, -Nat.not_le, -Nat.not_lt, ty3, ty4, ty22, ty23, ty25, ty26, ty29, ty31, ty42, ty70, ty77, ty79, hm, hl, hr, fi16_eq, fi35_eq, fi36_eq, x44, fi39_eq, p44, x45, fi47_eq, p45, x29, fi52_eq, p29, fi53_eq, fi200_eq, fi208_eq, x43, fi210_eq, p43, k42, x42, fi226_eq, p42, fi228_eq, E8, q8_84, e8_86, q8_90, e8_96, e8_97, e8_98, n8_75, n8_63, n8_46, n8_32]
    exact H _ _ _ _ h21 h22
  | succ m ih =>
    intro q t e21 e22 T X h21 h22 hq hm2 hf
    obtain ⟨x, hx⟩ : ∃ x, xs[q]? = some x := ⟨xs[q]'(by omega), List.getElem?_eq_getElem (by omega)⟩
    have hlt : (q : Int) < (xs.length : Int) := by omega
    obtain ⟨hlt2, hxe⟩ := List.getElem?_eq_some_iff.1 hx
    have hw : IntKind.wrap .i64 ((q : Int) + 1) = ((q + 1 : Nat) : Int) := by rw [wrap64 (by omega) (by omega)]; omega
    rw [drop_get hx, List.foldl_cons] at hf
    have IH := fun e21 e22 T X h21 h22 => ih (q + 1) (kStep sd A t x) e21 e22 T X h21 h22 (by omega) (by omega) hf
    have H86 : ∀ (e22 : E) (T : List (Nat × E)) (X : List (Nat × List V)), e22.Tame → evK gS fi8 c8_86 { ps := [(0, .val (.slice (intVs l1))), (1, .val (.slice (intVs l2))), (2, .val (.int .i64 b)), (6, .val (.bool false)), (7, .val (.ptr id 0)), (8, .val (.slice (intVs p))), (9, .val (.slice (encSubs xs))), (10, .val (.slice (encTbls (ns.map (tabOf p xs b))))), (11, .own 4 (encSubs ys)), (12, .val (.slice (encTbls (ns.map (tabOf p ys b))))), (13, .val (.slice (intVs ns))), (14, .val (.ptr id2 0)), (15, .val (.int .i64 (n : Nat))), (16, .val (.slice (encAttrs A))), (17, .val (.int .i64 (i : Nat))), (18, .val (.slice (intVs sd))), (19, .val (.bool (kStep sd A t x))), (20, .val (.int .i64 (q : Nat))), (21, .val (.int .i64 (sd.length : Nat))), (22, e22)], ts := T, lc := X } S (.loop c8_64 (.blk 4 (.seq c8_87 (.blk 3 (.seq c8_96 (.loop c8_47 (.blk 2 (.blk 1 (.seq c8_97 (.loop c8_33 (.blk 0 (.seq c8_98 .nil)))))))))))) = some R := by
      intro e22 T X h22
      simp (config := { implicitDefEqProofs := false }) [-Int.natCast_add, h22, hw, -Int.not_le, -Int.not_lt, -Nat.not_le, -Nat.not_lt, ty3, ty4, ty22, ty23, ty25, ty26, ty29, ty31, ty42, ty70, ty77, ty79, hm, hl, hr, fi16_eq, fi35_eq, fi36_eq, x44, fi39_eq, p44, x45, fi47_eq, p45, x29, fi52_eq, p29, fi53_eq, fi200_eq, fi208_eq, x43, fi210_eq, p43, k42, x42, fi226_eq, p42, fi228_eq, E8, q8_84, e8_86, q8_90, e8_87, e8_96, e8_97, e8_98, n8_75, n8_63, n8_46, n8_32]
      exact IH _ _ _ _ (tame_val _) h22
    have LLJ := fun e22 T X h22 => LJ l1 l2 b id id2 p hp7 xs ys hx1 hx2 hy1 hy2 ns hns S R A hA sd hsd n i q x hx (kStep sd A t x) H86 sd.length 0 t e22 T X h22 (Nat.zero_le _) rfl rfl
    rw [show ((0 : Nat) : Int) = 0 from rfl] at LLJ
    refine evK_loop c8_64 _ _ _ _ rfl ?_
    simp (config := { implicitDefEqProofs := false }) [-Int.natCast_add, h21, h22, hlt, hlt2, -Int.not_le, -Int.not_lt, -Nat.not_le, -Nat.not_lt, ty3, ty4, ty22, ty23, ty25, ty26, ty29, ty31, ty42, ty70, ty77, ty79, hm, hl, hr, fi16_eq, fi35_eq, fi36_eq, x44, fi39_eq, p44, x45, fi47_eq, p45, x29, fi52_eq, p29, fi53_eq, fi200_eq, fi208_eq, x43, fi210_eq, p43, k42, x42, fi226_eq, p42, fi228_eq, E8, q8_84, e8_86, q8_90, e8_87, e8_96, e8_97, e8_98, n8_75, n8_63, n8_46, n8_32]
    exact LLJ _ _ _ h22
set_option maxHeartbeats 8000000 in
theorem LI (l1 l2 : List Int) (b : Int) (id id2 : Nat) (p : List Int) (hp7 : p.length ≤ 7) (xs ys : List Sub) (hx1 : ∀ s ∈ xs, POk s.filter) (hx2 : xs.length ≤ 18) (hy1 : ∀ s ∈ ys, POk s.filter) (hy2 : ys.length ≤ 19) (ns : List Int) (hns : ns.length ≤ 8) (S : St) (R : Out × St) (A : List Attr) (hA : A.length ≤ 5) (n : Nat) (HT : ∀ t : Int, fany (tabOf p xs b t).fs A = xs.foldl (kStep (sideT p b t) A) false) (HM : ∀ t : Int, fany (tabOf p xs b t).fs A = true → fany (tabOf p ys b t).fs A = true) 
    (H : ∀ (e18 e19 e20 e21 e22 : E) (T : List (Nat × E)) (X : List (Nat × List V)), e18.Tame → e19.Tame → e20.Tame → e21.Tame → e22.Tame → evK gS fi8 c8_97 { ps := [(0, .val (.slice (intVs l1))), (1, .val (.slice (intVs l2))), (2, .val (.int .i64 b)), (6, .val (.bool false)), (7, .val (.ptr id 0)), (8, .val (.slice (intVs p))), (9, .val (.slice (encSubs xs))), (10, .val (.slice (encTbls (ns.map (tabOf p xs b))))), (11, .own 4 (encSubs ys)), (12, .val (.slice (encTbls (ns.map (tabOf p ys b))))), (13, .val (.slice (intVs ns))), (14, .val (.ptr id2 0)), (15, .val (.int .i64 (n : Nat))), (16, .val (.slice (encAttrs A))), (17, .val (.int .i64 ns.length)), (18, e18), (19, e19), (20, e20), (21, e21), (22, e22)], ts := T, lc := X } S (.loop c8_33 (.blk 0 (.seq c8_98 .nil))) = some R) :
    ∀ (m q : Nat) (e18 e19 e20 e21 e22 : E) (T : List (Nat × E)) (X : List (Nat × List V)) (h18 : e18.Tame) (h19 : e19.Tame) (h20 : e20.Tame) (h21 : e21.Tame) (h22 : e22.Tame), q ≤ ns.length → ns.length - q = m → 
    evK gS fi8 c8_46 { ps := [(0, .val (.slice (intVs l1))), (1, .val (.slice (intVs l2))), (2, .val (.int .i64 b)), (6, .val (.bool false)), (7, .val (.ptr id 0)), (8, .val (.slice (intVs p))), (9, .val (.slice (encSubs xs))), (10, .val (.slice (encTbls (ns.map (tabOf p xs b))))), (11, .own 4 (encSubs ys)), (12, .val (.slice (encTbls (ns.map (tabOf p ys b))))), (13, .val (.slice (intVs ns))), (14, .val (.ptr id2 0)), (15, .val (.int .i64 (n : Nat))), (16, .val (.slice (encAttrs A))), (17, .val (.int .i64 (q : Nat))), (18, e18), (19, e19), (20, e20), (21, e21), (22, e22)], ts := T, lc := X } S (.blk 2 (.blk 1 (.seq c8_97 (.loop c8_33 (.blk 0 (.seq c8_98 .nil)))))) = some R := by
  intro m
  have hm : fi8.marks = [] := rfl
  have hl : fi8.locals = [] := rfl
  have hr : fi8.results = [.tmp 6] := rfl
  induction m with
  | zero =>
    intro q e18 e19 e20 e21 e22 T X h18 h19 h20 h21 h22 hq hm2 
    obtain rfl : q = ns.length := by omega
    have hlm : (ns.map (tabOf p xs b)).length = ns.length := by simp
    refine evK_loop c8_47 _ _ _ _ rfl ?_
    simp (config := { implicitDefEqProofs := false }) [-Int.natCast_add, -St.obj, -St.set, h18, h19, h20, h21, h22, hlm, -Int.not_le, -Int.not_lt, -Nat.not_le, -Nat.not_lt, ty3, ty4, ty22, ty23, ty25, ty26, ty29, ty31, ty42, ty70, ty77, ty79, hm, hl, hr, fi16_eq, fi35_eq, fi36_eq, x44, fi39_eq, p44, x45, fi47_eq, p45, x29, fi52_eq, p29, fi53_eq, fi200_eq, fi208_eq, x43, fi210_eq, p43, k42, x42, fi226_eq, p42, fi228_eq, E8, q8_84, e8_86, q8_90, e8_87, e8_96, e8_98, n8_75, n8_63, n8_46, n8_32]
    exact H _ _ _ _ _ _ _ h18 h19 h20 h21 h22
  | succ m ih =>
    intro q e18 e19 e20 e21 e22 T X h18 h19 h20 h21 h22 hq hm2 
    obtain ⟨x, hx⟩ : ∃ x, ns[q]? = some x := ⟨ns[q]'(by omega), List.getElem?_eq_getElem (by omega)⟩
    have hlt : (q : Int) < (ns.length : Int) := by omega
    obtain ⟨hlt2, hxe⟩ := List.getElem?_eq_some_iff.1 hx
    have hw : IntKind.wrap .i64 ((q : Int) + 1) = ((q + 1 : Nat) : Int) := by rw [wrap64 (by omega) (by omega)]; omega
    have hlm : (ns.map (tabOf p xs b)).length = ns.length := by simp
    have hm1 : (encTbls (ns.map (tabOf p xs b)))[q]? = some (.agg [.int .i64 x, .slice (encPredss (tabOf p xs b x).fs)]) := by
      rw [encTbls_get, List.getElem?_map, hx]; rfl
    have hm2 : (encTbls (ns.map (tabOf p ys b)))[q]? = some (.agg [.int .i64 x, .slice (encPredss (tabOf p ys b x).fs)]) := by
      rw [encTbls_get, List.getElem?_map, hx]; rfl
    have hl1 := tab_len (p := p) (l := xs) b x
    have hl2 := tab_len (p := p) (l := ys) b x
    have kt : ∀ (fr : Fr) (st : St), callStep gS (EvF gS) 45 [.slice (encPredss (tabOf p xs b x).fs), .slice (encAttrs A)] fr st = some (.ok (.val (.bool (fany (tabOf p xs b x).fs A))) fr st) := fun fr st => k45 _ A (tab_fs hx1 b x) (by omega) (by omega) fr st
    have ku : ∀ (fr : Fr) (st : St), callStep gS (EvF gS) 45 [.slice (encPredss (tabOf p ys b x).fs), .slice (encAttrs A)] fr st = some (.ok (.val (.bool (fany (tabOf p ys b x).fs A))) fr st) := fun fr st => k45 _ A (tab_fs hy1 b x) (by omega) (by omega) fr st
    have ks := fun fr st => k43 p (by omega) b x fr st
    have hsd0 := sideT_len p b x
    have hsd : (sideT p b x).length < 100000 := by omega
    have hmore := HM x
    have htt := HT x
    generalize (tabOf p xs b x).fs = F1 at *
    generalize (tabOf p ys b x).fs = F2 at *
    generalize sideT p b x = sd at *
    generalize hTX : encTbls (ns.map (tabOf p xs b)) = TX at *
    generalize hTY : encTbls (ns.map (tabOf p ys b)) = TY at *
    have hlm3 : TX.length = ns.length := by rw [← hTX]; simp
    have IH := fun e18 e19 e20 e21 e22 T X h18 h19 h20 h21 h22 => ih (q + 1) e18 e19 e20 e21 e22 T X h18 h19 h20 h21 h22 (by omega) (by omega)
    generalize hwv : fany F1 A = wv at *
    have H96 : ∀ (e18 e19 e20 e21 e22 : E) (T : List (Nat × E)) (X : List (Nat × List V)), e18.Tame → e19.Tame → e20.Tame → e21.Tame → e22.Tame → evK gS fi8 c8_96 { ps := [(0, .val (.slice (intVs l1))), (1, .val (.slice (intVs l2))), (2, .val (.int .i64 b)), (6, .val (.bool false)), (7, .val (.ptr id 0)), (8, .val (.slice (intVs p))), (9, .val (.slice (encSubs xs))), (10, .val (.slice (TX))), (11, .own 4 (encSubs ys)), (12, .val (.slice (TY))), (13, .val (.slice (intVs ns))), (14, .val (.ptr id2 0)), (15, .val (.int .i64 (n : Nat))), (16, .val (.slice (encAttrs A))), (17, .val (.int .i64 (q : Nat))), (18, e18), (19, e19), (20, e20), (21, e21), (22, e22)], ts := T, lc := X } S (.loop c8_47 (.blk 2 (.blk 1 (.seq c8_97 (.loop c8_33 (.blk 0 (.seq c8_98 .nil))))))) = some R := by
      intro e18 e19 e20 e21 e22 T X h18 h19 h20 h21 h22
      simp (config := { implicitDefEqProofs := false }) [-Int.natCast_add, h18, h19, h20, h21, h22, hw, -Int.not_le, -Int.not_lt, -Nat.not_le, -Nat.not_lt, ty3, ty4, ty22, ty23, ty25, ty26, ty29, ty31, ty42, ty70, ty77, ty79, hm, hl, hr, fi16_eq, fi35_eq, fi36_eq, x44, fi39_eq, p44, x45, fi47_eq, p45, x29, fi52_eq, p29, fi53_eq, fi200_eq, fi208_eq, x43, fi210_eq, p43, k42, x42, fi226_eq, p42, fi228_eq, E8, q8_84, e8_86, q8_90, e8_87, e8_96, e8_97, e8_98, n8_75, n8_63, n8_46, n8_32]
      exact IH _ _ _ _ _ _ _ h18 h19 h20 h21 h22
    have H87 : ∀ (e21 e22 : E) (T : List (Nat × E)) (X : List (Nat × List V)), e21.Tame → e22.Tame → evK gS fi8 c8_87 { ps := [(0, .val (.slice (intVs l1))), (1, .val (.slice (intVs l2))), (2, .val (.int .i64 b)), (6, .val (.bool false)), (7, .val (.ptr id 0)), (8, .val (.slice (intVs p))), (9, .val (.slice (encSubs xs))), (10, .val (.slice (TX))), (11, .own 4 (encSubs ys)), (12, .val (.slice (TY))), (13, .val (.slice (intVs ns))), (14, .val (.ptr id2 0)), (15, .val (.int .i64 (n : Nat))), (16, .val (.slice (encAttrs A))), (17, .val (.int .i64 (q : Nat))), (18, .val (.slice (intVs sd))), (19, .val (.bool wv)), (20, .val (.int .i64 (xs.length : Nat))), (21, e21), (22, e22)], ts := T, lc := X } S (.blk 3 (.seq c8_96 (.loop c8_47 (.blk 2 (.blk 1 (.seq c8_97 (.loop c8_33 (.blk 0 (.seq c8_98 .nil))))))))) = some R := by
      intro e21 e22 T X h21 h22
      cases wv with
      | true =>
        have hmr := hmore rfl
        rw [hmr] at ku
        simp (config := { implicitDefEqProofs := false }) [-Int.natCast_add, h21, h22, hx, hxe, hlt, hlt2, hm1, hm2, kt, ku, -Int.not_le, -Int.not_lt, -Nat.not_le, -Nat.not_lt, ty3, ty4, ty22, ty23, ty25, ty26, ty29, ty31, ty42, ty70, ty77, ty79, hm, hl, hr, fi16_eq, fi35_eq, fi36_eq, x44, fi39_eq, p44, x45, fi47_eq, p45, x29, fi52_eq, p29, fi53_eq, fi200_eq, fi208_eq, x43, fi210_eq, p43, k42, x42, fi226_eq, p42, fi228_eq, E8, q8_84, e8_86, q8_90, e8_87, e8_97, e8_98, n8_75, n8_63, n8_46, n8_32]
        exact H96 _ _ _ _ _ _ _ (tame_val _) (tame_val _) (tame_val _) h21 (tame_val _)
      | false =>
        simp (config := { implicitDefEqProofs := false }) [-Int.natCast_add, h21, h22, hx, hxe, hlt, hlt2, hm1, hm2, kt, -Int.not_le, -Int.not_lt, -Nat.not_le, -Nat.not_lt, ty3, ty4, ty22, ty23, ty25, ty26, ty29, ty31, ty42, ty70, ty77, ty79, hm, hl, hr, fi16_eq, fi35_eq, fi36_eq, x44, fi39_eq, p44, x45, fi47_eq, p45, x29, fi52_eq, p29, fi53_eq, fi200_eq, fi208_eq, x43, fi210_eq, p43, k42, x42, fi226_eq, p42, fi228_eq, E8, q8_84, e8_86, q8_90, e8_87, e8_97, e8_98, n8_75, n8_63, n8_46, n8_32]
        exact H96 _ _ _ _ _ _ _ (tame_val _) (tame_val _) (tame_val _) h21 (tame_val _)
    have LLK := fun e21 e22 T X h21 h22 => LK l1 l2 b id id2 p hp7 xs ys hx1 hx2 hy1 hy2 ns hns S R A hA sd hsd n q wv (by rw [hTX, hTY]; exact H87) xs.length 0 false e21 e22 T X h21 h22 (Nat.zero_le _) rfl (by rw [List.drop_zero]; exact htt)
    rw [show ((0 : Nat) : Int) = 0 from rfl, hTX, hTY] at LLK
    refine evK_loop c8_47 _ _ _ _ rfl ?_
    simp (config := { implicitDefEqProofs := false }) [-Int.natCast_add, h18, h19, h20, h21, h22, hx, hxe, hlt, hlt2, hlm3, ks, -Int.not_le, -Int.not_lt, -Nat.not_le, -Nat.not_lt, ty3, ty4, ty22, ty23, ty25, ty26, ty29, ty31, ty42, ty70, ty77, ty79, hm, hl, hr, fi16_eq, fi35_eq, fi36_eq, x44, fi39_eq, p44, x45, fi47_eq, p45, x29, fi52_eq, p29, fi53_eq, fi200_eq, fi208_eq, x43, fi210_eq, p43, k42, x42, fi226_eq, p42, fi228_eq, E8, q8_84, e8_86, q8_90, e8_87, e8_96, e8_97, e8_98, n8_75, n8_63, n8_46, n8_32]
    exact LLK _ _ _ _ h21 h22
set_option maxHeartbeats 8000000 in
theorem LN4 (l1 l2 : List Int) (b : Int) (id id2 : Nat) (p : List Int) (hp7 : p.length ≤ 7) (xs ys : List Sub) (hx1 : ∀ s ∈ xs, POk s.filter) (hx2 : xs.length ≤ 18) (hy1 : ∀ s ∈ ys, POk s.filter) (hy2 : ys.length ≤ 19) (ns : List Int) (hns : ns.length ≤ 8) (S : St) (hf2 : FeedOk S id2) (R : Out × St) (HT : ∀ (A : List Attr), AFV A → ∀ t : Int, fany (tabOf p xs b t).fs A = xs.foldl (kStep (sideT p b t) A) false) (HM : ∀ (A : List Attr), AFV A → ∀ t : Int, fany (tabOf p xs b t).fs A = true → fany (tabOf p ys b t).fs A = true)
    (H : ∀ (e16 e17 e18 e19 e20 e21 e22 : E) (T : List (Nat × E)) (X : List (Nat × List V)), e16.Tame → e17.Tame → e18.Tame → e19.Tame → e20.Tame → e21.Tame → e22.Tame →  evK gS fi8 c8_98 { ps := [(0, .val (.slice (intVs l1))), (1, .val (.slice (intVs l2))), (2, .val (.int .i64 b)), (6, .val (.bool false)), (7, .val (.ptr id 0)), (8, .val (.slice (intVs p))), (9, .val (.slice (encSubs xs))), (10, .val (.slice (encTbls (ns.map (tabOf p xs b))))), (11, .own 4 (encSubs ys)), (12, .val (.slice (encTbls (ns.map (tabOf p ys b))))), (13, .val (.slice (intVs ns))), (14, .val (.ptr id2 0)), (15, .val (.int .i64 (4 : Nat))), (16, e16), (17, e17), (18, e18), (19, e19), (20, e20), (21, e21), (22, e22)], ts := T, lc := X } (setF S id2 l2 (nA l2 0 (aJ l2 4))) .nil = some R) :
    ∀ (m q : Nat) (e16 e17 e18 e19 e20 e21 e22 : E) (T : List (Nat × E)) (X : List (Nat × List V)) (h16 : e16.Tame) (h17 : e17.Tame) (h18 : e18.Tame) (h19 : e19.Tame) (h20 : e20.Tame) (h21 : e21.Tame) (h22 : e22.Tame), q ≤ 4 → 4 - q = m →
    evK gS fi8 c8_32 { ps := [(0, .val (.slice (intVs l1))), (1, .val (.slice (intVs l2))), (2, .val (.int .i64 b)), (6, .val (.bool false)), (7, .val (.ptr id 0)), (8, .val (.slice (intVs p))), (9, .val (.slice (encSubs xs))), (10, .val (.slice (encTbls (ns.map (tabOf p xs b))))), (11, .own 4 (encSubs ys)), (12, .val (.slice (encTbls (ns.map (tabOf p ys b))))), (13, .val (.slice (intVs ns))), (14, .val (.ptr id2 0)), (15, .val (.int .i64 (q : Nat))), (16, e16), (17, e17), (18, e18), (19, e19), (20, e20), (21, e21), (22, e22)], ts := T, lc := X } (setF S id2 l2 (nA l2 0 (aJ l2 q))) (.blk 0 (.seq c8_98 .nil)) = some R := by
  intro m
  have hm : fi8.marks = [] := rfl
  have hl : fi8.locals = [] := rfl
  have hr : fi8.results = [.tmp 6] := rfl
  induction m with
  | zero =>
    intro q e16 e17 e18 e19 e20 e21 e22 T X h16 h17 h18 h19 h20 h21 h22 hq hm2
    obtain rfl : q = 4 := by omega
    refine evK_loop c8_33 _ _ _ _ rfl ?_
    simp (config := { implicitDefEqProofs := false }) [-Int.natCast_add, -St.obj, -St.set, h16, h17, h18, h19, h20, h21, h22, -Int.not_le, -Int.not_lt, -Nat.not_le, -Nat.not_lt, ty3, ty4, ty22, ty23, ty25, ty26, ty29, ty31, ty42, ty70, ty77, ty79, hm, hl, hr, fi16_eq, fi35_eq, fi36_eq, x44, fi39_eq, p44, x45, fi47_eq, p45, x29, fi52_eq, p29, fi53_eq, fi200_eq, fi208_eq, x43, fi210_eq, p43, k42, x42, fi226_eq, p42, fi228_eq, E8, q8_84, e8_86, q8_90, e8_87, e8_96, e8_97, n8_75, n8_63, n8_46, n8_32]
    exact H _ _ _ _ _ _ _ _ _ h16 h17 h18 h19 h20 h21 h22
  | succ m ih =>
    intro q e16 e17 e18 e19 e20 e21 e22 T X h16 h17 h18 h19 h20 h21 h22 hq hm2
    have hw : IntKind.wrap .i64 ((q : Int) + 1) = ((q + 1 : Nat) : Int) := by rw [wrap64 (by omega) (by omega)]; omega
    have q4 : (q : Int) < 4 := by omega
    have q4' : q < 4 := by omega
    have haj := aJ_le l2 q
    have ka := fun fr => k17 l2 0 (aJ l2 q) id2 fr S hf2 (by omega) (by omega)
    have hal := attrsV_len l2 0 (aJ l2 q)
    have hfv := attrsV_fv l2 0 (aJ l2 q)
    rw [show (attrsV l2 0 (aJ l2 q)).2 = aJ l2 (q + 1) from rfl] at ka
    generalize (attrsV l2 0 (aJ l2 q)).1 = A at *
    have IH := fun e16 e17 e18 e19 e20 e21 e22 T X h16 h17 h18 h19 h20 h21 h22 => ih (q + 1) e16 e17 e18 e19 e20 e21 e22 T X h16 h17 h18 h19 h20 h21 h22 (by omega) (by omega)
    generalize hS1 : setF S id2 l2 (nA l2 0 (aJ l2 (q + 1))) = S1 at *
    have H97 : ∀ (e18 e19 e20 e21 e22 : E) (T : List (Nat × E)) (X : List (Nat × List V)), e18.Tame → e19.Tame → e20.Tame → e21.Tame → e22.Tame → evK gS fi8 c8_97 { ps := [(0, .val (.slice (intVs l1))), (1, .val (.slice (intVs l2))), (2, .val (.int .i64 b)), (6, .val (.bool false)), (7, .val (.ptr id 0)), (8, .val (.slice (intVs p))), (9, .val (.slice (encSubs xs))), (10, .val (.slice (encTbls (ns.map (tabOf p xs b))))), (11, .own 4 (encSubs ys)), (12, .val (.slice (encTbls (ns.map (tabOf p ys b))))), (13, .val (.slice (intVs ns))), (14, .val (.ptr id2 0)), (15, .val (.int .i64 (q : Nat))), (16, .val (.slice (encAttrs A))), (17, .val (.int .i64 (ns.length : Nat))), (18, e18), (19, e19), (20, e20), (21, e21), (22, e22)], ts := T, lc := X } S1 (.loop c8_33 (.blk 0 (.seq c8_98 .nil))) = some R := by
      intro e18 e19 e20 e21 e22 T X h18 h19 h20 h21 h22
      simp (config := { implicitDefEqProofs := false }) [-Int.natCast_add, h18, h19, h20, h21, h22, hw, -Int.not_le, -Int.not_lt, -Nat.not_le, -Nat.not_lt, ty3, ty4, ty22, ty23, ty25, ty26, ty29, ty31, ty42, ty70, ty77, ty79, hm, hl, hr, fi16_eq, fi35_eq, fi36_eq, x44, fi39_eq, p44, x45, fi47_eq, p45, x29, fi52_eq, p29, fi53_eq, fi200_eq, fi208_eq, x43, fi210_eq, p43, k42, x42, fi226_eq, p42, fi228_eq, E8, q8_84, e8_86, q8_90, e8_87, e8_96, e8_97, e8_98, n8_75, n8_63, n8_46, n8_32]
      exact IH _ _ _ _ _ _ _ _ _ (tame_val _) (tame_val _) h18 h19 h20 h21 h22
    have LLI := fun e18 e19 e20 e21 e22 T X h18 h19 h20 h21 h22 => LI l1 l2 b id id2 p hp7 xs ys hx1 hx2 hy1 hy2 ns hns S1 R A hal q (HT A hfv) (HM A hfv) H97 ns.length 0 e18 e19 e20 e21 e22 T X h18 h19 h20 h21 h22 (Nat.zero_le _) rfl
    rw [show ((0 : Nat) : Int) = 0 from rfl] at LLI
    refine evK_loop c8_33 _ _ _ _ rfl ?_
    simp (config := { implicitDefEqProofs := false }) [-Int.natCast_add, -St.obj, -St.set, h16, h17, h18, h19, h20, h21, h22, q4, q4', ka, -Int.not_le, -Int.not_lt, -Nat.not_le, -Nat.not_lt, ty3, ty4, ty22, ty23, ty25, ty26, ty29, ty31, ty42, ty70, ty77, ty79, hm, hl, hr, fi16_eq, fi35_eq, fi36_eq, x44, fi39_eq, p44, x45, fi47_eq, p45, x29, fi52_eq, p29, fi53_eq, fi200_eq, fi208_eq, x43, fi210_eq, p43, k42, x42, fi226_eq, p42, fi228_eq, E8, q8_84, e8_86, q8_90, e8_87, e8_96, e8_97, e8_98, n8_75, n8_63, n8_46, n8_32]
    exact LLI _ _ _ _ _ _ _ h18 h19 h20 h21 h22
set_option maxHeartbeats 8000000 in
theorem c8 (l1 : List Int) (l2 : List Int) (b0 : Int) (st0 : St) (hst : st0.wp ≤ st0.objs.length) : ∃ st', EvF gS 8 [.slice (intVs l1), .slice (intVs l2), .int .i64 b0] st0 = some (.ret (.bool true) none, st') := by
  have hm : fi8.marks = [] := rfl
  have hl : fi8.locals = [] := rfl
  have hr : fi8.results = [.tmp 6] := rfl
  have hf := feedOk_new hst
  have n1 := new_feed st0 l1
  obtain ⟨id, hid⟩ : ∃ id, st0.objs.length = id := ⟨_, rfl⟩
  rw [hid] at hf n1
  have k1 := fun fr => k26 l1 0 0 id 8 fr (nw st0 0 []) hf (by omega) (by omega) (by omega) (by omega)
  have hpr := treeV_right l1 0 0 (most := 8) (by omega) (by omega)
  have hj := fd_bound l1 0 0 (n := 8) (by omega)
  generalize treeV l1 0 0 8 = p at *
  generalize hJ : 0 + 1 + (fd l1 0 0 8).toNat = J at *
  have hJb : J ≤ 9 := by omega
  have hp7 : p.length ≤ 7 := by simp only [rightT, Bool.and_eq_true, decide_eq_true_eq] at hpr; omega
  have k2 := fun fr => k10 l1 0 J id fr (nw st0 0 []) hf (by omega) (by omega) p (by omega)
  have hall := subsV_all l1 0 J p.length
  have hlen := (subsV_asks l1 0 J p.length).2
  have hlenJ := (subsV_asks l1 0 J p.length).1
  have hrs := subsV_right l1 0 J p.length hp7
  generalize subsV l1 0 J p.length = P1 at *
  obtain ⟨xs, J2, D⟩ := P1
  simp only at k2 hall hlen hlenJ hrs
  have hx1 : ∀ s ∈ xs, PSm s.filter := fun s hs => psm_ffv (hall s hs).2.2
  have hf3 := hf.dd D
  have hx1o : ∀ s ∈ xs, POk s.filter := fun s hs => (hx1 s hs).ok
  have hJ2 : J2 ≤ J + 800 := hlenJ
  have hb0 := pickI_bound b0 (m := ((p.length : Int) + 1)) (by omega)
  have kp := fun fr st => k29 b0 ((p.length : Int) + 1) (by omega) fr st
  have hwp : IntKind.wrap .i64 ((p.length : Int) + 1) = (p.length : Int) + 1 := by rw [wrap64 (by omega) (by omega)]
  generalize pickI b0 ((p.length : Int) + 1) = b at *
  have k3 := fun fr st => k39 p (by omega) xs hx1 (by omega) b fr st
  have k5 := fun fr => k11 l1 0 J2 id ((p.length : Int) + 1) fr (dd (nw st0 0 []) D) hf3 (by omega) (by omega) (by omega)
  have k6 := fun fr => k40 l1 0 (J2 + 1) id fr (dd (nw st0 0 []) D) hf3 (by omega) (by omega)
  have hfil := filterV_ffv l1 0 (J2 + 1)
  generalize hfl : (filterV l1 0 (J2 + 1)).1 = fl at *
  generalize hbr : fd l1 0 J2 ((p.length : Int) + 1) = br at *
  generalize hS0 : setF (dd (dd (nw st0 0 []) D) (filterV l1 0 (J2 + 1)).2.2) id l1 (nA l1 0 (filterV l1 0 (J2 + 1)).2.1) = S at *
  have hSw : S.wp ≤ S.objs.length := by
    rw [← hS0, setF_wp, setF_len, dd_wp, dd_len, dd_wp, dd_len, gr_wp, gr_len]; omega
  clear hS0
  have hys : ∀ s ∈ xs ++ [⟨6, br, 99, fl⟩], PSm s.filter := fun s hs => by
    rcases List.mem_append.1 hs with hs | hs
    · exact hx1 s hs
    · simp at hs; subst hs; exact psm_ffv hfil
  have hyf : ∀ s ∈ xs ++ [⟨6, br, 99, fl⟩], FF s.filter := fun s hs => by
    rcases List.mem_append.1 hs with hs | hs
    · exact (hall s hs).2.2.1.fv
    · simp at hs; subst hs; exact hfil.1.fv
  have hyl : (xs ++ [(⟨6, br, 99, fl⟩ : Sub)]).length ≤ 19 := by simp; omega
  have HT : ∀ (A : List Attr), AFV A → ∀ t : Int, fany (tabOf p xs b t).fs A = xs.foldl (kStep (sideT p b t) A) false := fun A hA t => tab_any (fun s hs => (hall s hs).2.2.1.fv) hA b t
  have HM : ∀ (A : List Attr), AFV A → ∀ t : Int, fany (tabOf p xs b t).fs A = true → fany (tabOf p (xs ++ [⟨6, br, 99, fl⟩]) b t).fs A = true := fun A hA t h => tab_more hyf hA b t h
  have hsn := subs_snoc xs ⟨6, br, 99, fl⟩
  have hsz := sizes_subs xs
  have b0' : xs.length * 48 ≤ 140737488355328 := by omega
  have b00 : xs.length ≤ 140737488355328 := by omega
  have b1 : (xs.length + 1) * 48 ≤ 140737488355328 := by omega
  have b2 : xs.length + 1 ≤ 140737488355328 := by omega
  generalize hyE : xs ++ [(⟨6, br, 99, fl⟩ : Sub)] = ys at *
  have k7 := fun fr st => k39 p (by omega) ys hys (by omega) b fr st
  have k8 := fun fr st => k41 p (by omega) b fr st
  have hnl := nearT_len p b
  unfold tablesT at k3 k7
  generalize nearT p b = ns at *
  have n2 := new_feed S l2
  have hf2 := feedOk_new hSw
  obtain ⟨id2, hid2⟩ : ∃ id2, S.objs.length = id2 := ⟨_, rfl⟩
  rw [hid2] at n2 hf2
  refine ⟨setF (nw S 0 []) id2 l2 (nA l2 0 (aJ l2 4)), ?_⟩
  have LL := fun R H e16 e17 e18 e19 e20 e21 e22 T X h16 h17 h18 h19 h20 h21 h22 => LN4 l1 l2 b id id2 p hp7 xs ys hx1o hlen (fun s hs => (hys s hs).ok) hyl ns (by omega) (nw S 0 []) hf2 R HT HM H 4 0 e16 e17 e18 e19 e20 e21 e22 T X h16 h17 h18 h19 h20 h21 h22 (Nat.zero_le _) rfl
  rw [show ((0 : Nat) : Int) = 0 from rfl, show aJ l2 0 = 0 from rfl] at LL
  generalize hSF : setF (nw S 0 []) id2 l2 (nA l2 0 (aJ l2 4)) = SF at *
  generalize hR : (Out.ret (V.bool true) none, SF) = R
  have H98 : ∀ (e16 e17 e18 e19 e20 e21 e22 : E) (T : List (Nat × E)) (X : List (Nat × List V)), e16.Tame → e17.Tame → e18.Tame → e19.Tame → e20.Tame → e21.Tame → e22.Tame → evK gS fi8 c8_98 { ps := [(0, .val (.slice (intVs l1))), (1, .val (.slice (intVs l2))), (2, .val (.int .i64 b)), (6, .val (.bool false)), (7, .val (.ptr id 0)), (8, .val (.slice (intVs p))), (9, .val (.slice (encSubs xs))), (10, .val (.slice (encTbls (ns.map (tabOf p xs b))))), (11, .own 4 (encSubs ys)), (12, .val (.slice (encTbls (ns.map (tabOf p ys b))))), (13, .val (.slice (intVs ns))), (14, .val (.ptr id2 0)), (15, .val (.int .i64 (4 : Nat))), (16, e16), (17, e17), (18, e18), (19, e19), (20, e20), (21, e21), (22, e22)], ts := T, lc := X } SF .nil = some R := by
    intro e16 e17 e18 e19 e20 e21 e22 T X h16 h17 h18 h19 h20 h21 h22
    simp (config := { implicitDefEqProofs := false }) [-Int.natCast_add, h16, h17, h18, h19, h20, h21, h22, hR, -Int.not_le, -Int.not_lt, -Nat.not_le, -Nat.not_lt, ty3, ty4, ty22, ty23, ty25, ty26, ty29, ty31, ty42, ty70, ty77, ty79, hm, hl, hr, fi16_eq, fi35_eq, fi36_eq, x44, fi39_eq, p44, x45, fi47_eq, p45, x29, fi52_eq, p29, fi53_eq, fi200_eq, fi208_eq, x43, fi210_eq, p43, k42, x42, fi226_eq, p42, fi228_eq, E8, q8_84, e8_86, q8_90, e8_87, e8_96, e8_97, e8_98, n8_75, n8_63, n8_46, n8_32]
  have LL2 := LL R H98
  clear LL
  have e1 : (encTbls (ns.map (tabOf p xs b))).length = ns.length := by simp
  have e2 : (encTbls (ns.map (tabOf p ys b))).length = ns.length := by simp
  refine EvF_start fi248_eq (fun x h => by cases h) m8 ?_
  rw [st8]
  simp (config := { implicitDefEqProofs := false }) [-St.obj, -St.set, -Int.natCast_add, -List.append_assoc, hid, hid2, n1, n2, k1, k2, k3, k5, k6, k7, k8, kp, hwp, k42, hsn, hsz, b0', b00, b1, b2, -Int.not_le, -Int.not_lt, -Nat.not_le, -Nat.not_lt, ty3, ty4, ty22, ty23, ty25, ty26, ty29, ty31, ty42, ty70, ty77, ty79, hm, hl, hr, fi16_eq, fi35_eq, fi36_eq, x44, fi39_eq, p44, x45, fi47_eq, p45, x29, fi52_eq, p29, fi53_eq, fi200_eq, fi208_eq, x43, fi210_eq, p43, k42, x42, fi226_eq, p42, fi228_eq, E8, q8_84, e8_86, q8_90, e8_87, e8_96, e8_97, e8_98, n8_75, n8_63, n8_46, n8_32]
  refine LL2 _ _ _ _ _ _ _ _ _ ?_ ?_ ?_ ?_ ?_ ?_ ?_
  all_goals simp
theorem run248 (l1 l2 : List Int) (b0 : Int) : ∃ st', EvF gS 8 [.slice (intVs l1), .slice (intVs l2), .int .i64 b0] ⟨[], 0⟩ = some (.ret (.bool true) none, st') := c8 l1 l2 b0 ⟨[], 0⟩ (Nat.le_refl _)
end
end Go.Proofs.Ytdoobejjedpcgaa
namespace Go.Ab
open Go Go.ChangeShapes Go.WideShapes
set_option linter.unusedVariables false
set_option linter.unusedSimpArgs false
set_option linter.unnecessarySimpa false
variable {H : Type} {enc : TypeId × Value → H} {P : Program} {w : World} {base b0 : Nat} {spare : Nat → Bool} {held : Bool} {r : Reach}
theorem arg_ints {t e : TypeId} {k : IntKind} {v : Value} {d : DataW H} {ps : List MemPlace} (ht : P.underlying t = some (.slice e)) (he : P.underlying e = some (.int k)) (hc : P.cellsOf e = 1)
    (hval : Value.okWide P w r b0 t v) (h : DataW.Trod enc P w base spare held t v d ps) : ∃ zs : List Int, Rep K0 w v (.slice (zs.map (V.int k))) ∧ ∀ n ∈ zs, (Lit.int k n).wf = true := by
  obtain ⟨a0, len, cap, rfl⟩ := okWide_slice ht hval
  obtain ⟨fuel, hf⟩ := h
  rcases open_ints ht he hc hf with ⟨hcs, _⟩ | ⟨a, len', cap', zs, hcs, _, hl, hm, hz, _, hcell, hwz⟩
  · simp [Value.cells] at hcs
    obtain ⟨rfl, rfl, rfl⟩ := hcs
    exact ⟨[], .slice0 _ _, by simp⟩
  · simp [Value.cells] at hcs
    obtain ⟨rfl, rfl, rfl⟩ := hcs
    have hzl : len ≤ zs.length := by rw [hz]; split <;> omega
    by_cases h0 : len = 0
    · subst h0; exact ⟨[], .slice0 _ _, by simp⟩
    · refine ⟨zs.take len, ?_, fun n hn => hwz n (List.mem_of_mem_take hn)⟩
      obtain ⟨b, off, spot⟩ := a
      have hspot : spot = none := by simpa [Addr.add] using World.cell?_spot (hcell 0 (by omega))
      subst hspot
      have hlen : ((zs.take len).map (V.int k)).length = len := by simp; omega
      have hfl : ((zs.take len).map (V.int k)).flatMap V.cells = (zs.take len).map (V.int k) := by
        generalize zs.take len = l
        induction l with
        | nil => rfl
        | cons x r ih => simp only [List.map_cons, List.flatMap_cons, ih]; rfl
      have key : Rep K0 w (.slice (some (at_ b off)) ((zs.take len).map (V.int k)).length cap) (.slice ((zs.take len).map (V.int k))) := by
        refine .slice (k := 1) (by rw [hlen]; exact hl) (fun x hx => ?_) ?_
        · obtain ⟨n, _, rfl⟩ := List.mem_map.1 hx; rfl
        · rw [hfl]
          refine RepAt.of_get fun j x hx => ?_
          rw [List.getElem?_map, List.getElem?_take] at hx
          split at hx
          · rename_i hj
            have hjz : j < zs.length := by omega
            rw [List.getElem?_eq_getElem hjz] at hx
            simp only [Option.map_some, Option.some.injEq] at hx
            subst hx
            refine ⟨.int k zs[j], ⟨?_, rfl⟩, .int _ _⟩
            have := hcell j hjz
            simp only [List.getD, List.getElem?_eq_getElem hjz, Option.getD_some] at this
            rwa [show ({ block := b, off := off } : Addr) = at_ b off from rfl, addr_add] at this
          · cases hx
      rw [hlen] at key
      exact key
theorem arg_int {t : TypeId} {k : IntKind} {v : Value} (ht : P.underlying t = some (.int k)) (hval : Value.okWide P w r b0 t v) : ∃ n, Rep K0 w v (.int k n) := by
  obtain ⟨n, rfl⟩ := okWide_int ht hval
  exact ⟨n, .int _ _⟩
end Go.Ab
namespace Go.Ab
open Go Go.ChangeShapes Go.WideShapes
set_option linter.unusedVariables false
set_option linter.unusedSimpArgs false
set_option linter.unnecessarySimpa false
variable {H : Type} {enc : TypeId × Value → H} {P : Program} {w : World} {base b0 : Nat} {spare : Nat → Bool} {held : Bool} {r : Reach}
/-- Plain types. -/
inductive Ty where
  | bool | int (k : IntKind) | float (k : FloatKind) | str
  | sl (e : Ty)
  | st (fs : List Ty)
mutual
def Ty.size : Ty → Nat
  | .st fs => Ty.sizes fs
  | _ => 1
def Ty.sizes : List Ty → Nat
  | [] => 0
  | f :: r => f.size + Ty.sizes r
end
end Go.Ab
namespace Go.Proofs.Ytdoobejjedpcgaa
open Go Go.Ab Go.ChangeShapes Go.WideShapes Go.ChangeAt Go.RowKit
set_option linter.unusedVariables false
set_option linter.unusedSimpArgs false
set_option linter.unnecessarySimpa false
set_option maxRecDepth 100000 in
theorem routeSides_lifted (os : Os) (started : os.Started) (H : Type) (enc : TypeId × Value → H) :
    ReturnsInHanded {} Try.checked os 8 .any (Rows.routeSidesSpec.pre6 enc Try.prog Try.f8 Rows.routeSidesRow.domain false) (Rows.routeSidesSpec.post enc Try.prog Try.f8 false true false false) := by
  refine returnsInHanded_of_change_sized (C := Try.checked) Try.own started (by kernel_rfl) Try.func8
    (ChangeSpec.witness6 (enc := enc) (C := Try.checked) false ⟨#[], #[.slice none 0 0, .slice none 0 0, .int .i64 0], []⟩ 8 (by kernel_rfl) (by kernel_rfl) (by kernel_rfl) (by kernel_rfl)) ?_
  intro W base args ds gs before hval0 hW _ hsz0 _
  have hW' := hW
  obtain ⟨p, q, hA0, hV, rfl, _, _⟩ := hW
  have hA : DataW.TrodAll enc Try.prog W 0 (fun _ => true) true Try.f8.params.toList args.toList ds p := hA0
  have hpar : Try.f8.params = #[22, 22, 3] := by kernel_rfl
  have hval : ∀ (j : Nat) t v, Try.f8.params[j]? = some t → args[j]? = some v → Value.okWide Try.prog W .any base t v := hval0
  rw [hpar] at hA hval
  obtain ⟨l⟩ := args
  obtain ⟨v0, l, d0, ds, p0, r0, rfl, rfl, rfl, h0, hA⟩ := trodAll_cons hA
  obtain ⟨v1, l, d1, ds, p1, r1, rfl, rfl, rfl, h1, hA⟩ := trodAll_cons hA
  obtain ⟨v2, l, d2, ds, p2, r2, rfl, rfl, rfl, h2, hA⟩ := trodAll_cons hA
  obtain ⟨rfl, rfl, rfl⟩ := trodAll_nil hA
  obtain ⟨rfl, rfl⟩ := trodVars_none hV
  obtain ⟨x0, a0, _⟩ := arg_ints Try.underlying22 Try.underlying3 (by kernel_rfl) (hval 0 22 v0 rfl rfl) h0
  obtain ⟨x1, a1, _⟩ := arg_ints Try.underlying22 Try.underlying3 (by kernel_rfl) (hval 1 22 v1 rfl rfl) h1
  obtain ⟨x2, a2⟩ := arg_int Try.underlying3 (hval 2 3 v2 rfl rfl)
  have hlt : ∀ y ∈ p0 ++ (p1 ++ (p2 ++ [])) ++ [], y.block < W.heap.size := fun y hy => hW'.lt y hy
  have hr : Reps K0 W [v0, v1, v2] [.slice (intVs x0), .slice (intVs x1), .int .i64 x2] := .cons a0 (.cons a1 (.cons a2 .nil))
  obtain ⟨st', hev⟩ := run248 x0 x1 x2
  obtain ⟨nn, hrun⟩ := EvF_fuel hev
  refine (law_calls (n := nn) (f := 8) (xs := [.slice (intVs x0), .slice (intVs x1), .int .i64 x2]) (gS_calls nn) (by rw [hrun]) (W := W) (args := #[v0, v1, v2]) hr).mono ?_
  rintro e W' ⟨rfl, hn⟩
  refine ⟨_, rfl, _, _, _, [], p0 ++ (p1 ++ (p2 ++ [])), [], hW', ?_, ?_, rfl, hn.frame _, fun h => by cases h⟩
  · exact trodAll_mk1 (shut_bool Try.underlying4 true)
  · exact ⟨p0, _, Below.trod Try.laidOut (by kernel_rfl) (of_decide_eq_true (by kernel_rfl)) h0 hn (fun y hy => hlt y (by simp [hy])), ⟨p1, _, Below.trod Try.laidOut (by kernel_rfl) (of_decide_eq_true (by kernel_rfl)) h1 hn (fun y hy => hlt y (by simp [hy])), ⟨p2, _, Below.trod Try.laidOut (by kernel_rfl) (of_decide_eq_true (by kernel_rfl)) h2 hn (fun y hy => hlt y (by simp [hy])), rfl, rfl⟩, rfl⟩, rfl⟩
theorem routeSides_holds : Rows.RouteSidesSaid :=
  OpenClaim.holds_of_wide 8 Try.f8 rfl rfl rfl rfl rfl rfl rfl ⟨rfl, rfl, rfl, rfl, rfl⟩ rfl rfl rfl rfl rfl (by kernel_rfl) Try.func8 (by kernel_rfl)
    (of_decide_eq_true (by kernel_rfl)) (by unfold Func.isWrapper; first | (rw [if_pos (by decide +kernel)]; kernel_rfl) | (rw [if_neg (by decide +kernel)]; exact ⟨rfl, rfl⟩))
    (fun os started H enc _ => routeSides_lifted os started H enc)
#print axioms routeSides_holds
end Go.Proofs.Ytdoobejjedpcgaa
