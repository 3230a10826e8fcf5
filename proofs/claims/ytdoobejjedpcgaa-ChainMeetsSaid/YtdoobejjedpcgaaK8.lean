/- The law of meeting, with all that it rests on. Part 8. -/
import Derived.Test.YtdoobejjedpcgaaK7
namespace Go.Proofs.Ytdoobejjedpcgaa
open Go Go.Ab
set_option linter.unusedVariables false
set_option linter.unusedSimpArgs false
set_option linter.unnecessarySimpa false
set_option maxRecDepth 20000
noncomputable section
variable (fr : Fr) (st : St) (k : Kt)
def fi6 : FI := { body := codeOf Try.f6, ntmps := 139, results := [.tmp 4], pers := [0, 1, 4, 5, 6, 7, 8, 9, 10, 11, 12, 13, 14, 15, 16, 17, 18, 19, 20, 21, 22], locals := [11, 12], pure := true, marks := [] }
theorem fi246_eq : gS.fn 6 = some fi6 := by kernel_rfl
theorem st6 (a0 a1 : V) : startFr fi6 [a0, a1] = { ps := [(0, .val a0), (1, .val a1), (4, .any), (5, .any), (6, .any), (7, .any), (8, .any), (9, .any), (10, .any), (11, .any), (12, .any), (13, .any), (14, .any), (15, .any), (16, .any), (17, .any), (18, .any), (19, .any), (20, .any), (21, .any), (22, .any)], ts := [], lc := [] } := rfl
def b6 : Code := mini (codeOf Try.f6)
def c6_24 : Code := .cond (.tmp 40) .skip (.exit 0)
def c6_22 : Code := .seq (codeN b6 17151) c6_24
def c6_33 : Code := codeN b6 234239
def c6_31 : Code := .seq (codeN b6 168703) c6_33
def c6_29 : Code := .seq (codeN b6 70399) c6_31
def c6_34 : Code := codeN b6 29439
def c6_27 : Code := .seq (.block 1 c6_29) c6_34
def c6_21 : Code := .seq c6_22 c6_27
def c6_20 : Code := .loop c6_21
def c6_19 : Code := .block 0 c6_20
def c6_17 : Code := .seq (codeN b6 1279) c6_19
def c6_43 : Code := .cond (.tmp 58) .skip (.exit 2)
def c6_41 : Code := .seq (codeN b6 34303) c6_43
def c6_57 : Code := .cond (.tmp 67) .skip (.exit 4)
def c6_55 : Code := .seq (codeN b6 4400639) c6_57
def c6_72 : Code := .cond (.tmp 80) .skip (.exit 6)
def c6_70 : Code := .seq (codeN b6 1116939775) c6_72
def c6_80 : Code := .seq (codeN b6 19638986239) .ret
def c6_79 : Code := .cond (.tmp 94) c6_80 .skip
def c6_77 : Code := .seq (codeN b6 4606600703) c6_79
def c6_84 : Code := codeN b6 1922246143
def c6_75 : Code := .seq (.block 7 c6_77) c6_84
def c6_69 : Code := .seq c6_70 c6_75
def c6_68 : Code := .loop c6_69
def c6_67 : Code := .block 6 c6_68
def c6_65 : Code := .seq (codeN b6 76752383) c6_67
def c6_92 : Code := .cond (.tmp 100) .skip (.exit 8)
def c6_90 : Code := .seq (codeN b6 1133716991) c6_92
def c6_100 : Code := .cond (.tmp 108) (.exit 9) .skip
def c6_98 : Code := .seq (codeN b6 8918345215) c6_100
def c6_113 : Code := .cond (.tmp 112) .skip (.exit 10)
def c6_111 : Code := .seq (codeN b6 573706544639) c6_113
def r6_118 : Array Oper := regOps (codeN (codeOf Try.f6) 1260901311999)
def c6_118 : Code := .region 35 r6_118 true
def q6_118 : List (Oper × Fl) := [(mv 115 21 4, ⟨true, true, true, false, true, false, true, true, false, false, []⟩),
 (mv 116 115 4, ⟨true, true, true, false, true, false, true, true, false, false, []⟩),
 (mk (some 117) (.move (.tmp 17)) 3 (some (1, false)), ⟨true, false, true, false, false, false, true, true, false, false, []⟩),
 (mk (some 118) (.indexAddr 64 (.tmp 11) (.tmp 117)) 0 (some (1, false)), ⟨true, false, true, false, false, false, true, true, false, false, []⟩),
 (mk (some 119) (.load 22 (.tmp 118)) 22 (some (1, false)), ⟨true, false, true, false, false, false, true, true, false, false, []⟩),
 (mk (some 120) (.move (.tmp 16)) 22 (some (1, false)), ⟨true, false, true, false, false, false, true, true, false, false, []⟩),
 (mk (some 121) (.move (.tmp 22)) 3 (some (1, false)), ⟨true, false, true, false, false, false, true, true, false, false, []⟩),
 (mk (some 122) (.indexAddr 22 (.tmp 120) (.tmp 121)) 0 (some (1, false)), ⟨true, false, true, false, false, false, true, true, false, false, []⟩),
 (mk (some 123) (.load 3 (.tmp 122)) 3 (some (1, false)), ⟨true, false, true, false, true, false, true, true, false, false, []⟩),
 (mk (some 124) (.call { callee := (.value (.func 32)), args := #[(.tmp 119), (.tmp 123)], argTypes := #[22, 3] }) 4 (some (1, false)), ⟨true, true, true, false, true, true, true, true, false, false, []⟩),
 (mk (some 125) (.move (.tmp 124)) 4 (some (1, false)), ⟨true, true, true, false, true, false, true, true, false, false, []⟩),
 (mk (some 126) (.move (.tmp 20)) 3 (some (10, true)), ⟨true, false, true, false, false, false, true, true, false, false, []⟩),
 (mk (some 127) (.indexAddr 64 (.tmp 11) (.tmp 126)) 0 (some (10, true)), ⟨true, false, true, false, false, false, true, true, false, false, []⟩),
 (mk (some 128) (.load 22 (.tmp 127)) 22 (some (10, true)), ⟨true, false, true, false, false, false, true, true, false, false, []⟩),
 (mk (some 129) (.move (.tmp 16)) 22 (some (10, true)), ⟨true, false, true, false, false, false, true, true, false, false, []⟩),
 (mk (some 130) (.move (.tmp 22)) 3 (some (10, true)), ⟨true, false, true, false, false, false, true, true, false, false, []⟩),
 (mk (some 131) (.indexAddr 22 (.tmp 129) (.tmp 130)) 0 (some (10, true)), ⟨true, false, true, false, true, false, true, true, false, false, []⟩),
 (mk (some 132) (.load 3 (.tmp 131)) 3 (some (10, true)), ⟨true, false, true, false, true, false, true, true, false, false, []⟩),
 (mk (some 133) (.call { callee := (.value (.func 32)), args := #[(.tmp 128), (.tmp 132)], argTypes := #[22, 3] }) 4 (some (10, true)), ⟨true, true, true, false, true, true, true, true, false, false, []⟩),
 (mk (some 134) (.pick (.tmp 125) (.tmp 133) (.const (.bool false))) 4 (some (1, false)), ⟨true, false, true, false, true, false, true, true, false, false, []⟩),
 (op1 135 (.pick (.tmp 116) (.const (.bool true)) (.tmp 134)) 4, ⟨true, false, true, false, true, false, true, true, false, false, []⟩),
 (asn 21 135 4, ⟨true, true, true, false, true, false, true, true, false, false, []⟩)]
def c6_119 : Code := codeN b6 986023405055
def c6_116 : Code := .seq (.block 11 c6_118) c6_119
def c6_110 : Code := .seq c6_111 c6_116
def c6_109 : Code := .loop c6_110
def c6_108 : Code := .block 10 c6_109
def c6_106 : Code := .seq (codeN b6 41130599935) c6_108
def c6_123 : Code := .seq (codeN b6 169979618815) .ret
def c6_122 : Code := .cond (.tmp 137) c6_123 .skip
def c6_120 : Code := .seq (codeN b6 49720534527) c6_122
theorem e6_120 : evK gS fi6 c6_120 fr st k = opsR gS fi6 [mv 136 21 4,
 op1 137 (.unOp .not 4 (.tmp 136)) 4] fr st (.seq c6_122 k) := evK_rs 36 rfl (by kernel_rfl)
def c6_105 : Code := .seq c6_106 c6_120
def c6_103 : Code := .seq (codeN b6 11065828863) c6_105
def c6_97 : Code := .seq c6_98 c6_103
def c6_127 : Code := codeN b6 1939023359
theorem e6_127 : evK gS fi6 c6_127 fr st k = opsR gS fi6 [mv 101 20 3,
 op1 102 (.binOp .add 3 (.tmp 101) (.const (.int .i64 1)) 3) 3,
 asn 20 102 3] fr st k := evK_r 29 (by kernel_rfl)
def c6_95 : Code := .seq (.block 9 c6_97) c6_127
def c6_89 : Code := .seq c6_90 c6_95
def c6_88 : Code := .loop c6_89
def c6_87 : Code := .block 8 c6_88
def c6_85 : Code := .seq (codeN b6 93529599) c6_87
theorem e6_85 : evK gS fi6 c6_85 fr st k = opsR gS fi6 [op1 20 (.assign (.const (.int .i64 0))) 3] fr st (.seq c6_87 k) := evK_rs 27 rfl (by kernel_rfl)
def c6_64 : Code := .seq c6_65 c6_85
def c6_62 : Code := .seq (codeN b6 18032127) c6_64
def c6_128 : Code := codeN b6 7546367
theorem e6_128 : evK gS fi6 c6_128 fr st k = opsR gS fi6 [mv 68 17 3,
 op1 69 (.binOp .add 3 (.tmp 68) (.const (.int .i64 1)) 3) 3,
 asn 17 69 3] fr st k := evK_r 20 (by kernel_rfl)
def c6_60 : Code := .seq (.block 5 c6_62) c6_128
def c6_54 : Code := .seq c6_55 c6_60
def c6_53 : Code := .loop c6_54
def c6_52 : Code := .block 4 c6_53
def c6_50 : Code := .seq (codeN b6 337407) c6_52
def c6_48 : Code := .seq (codeN b6 140799) c6_50
def c6_129 : Code := codeN b6 58879
theorem e6_129 : evK gS fi6 c6_129 fr st k = opsR gS fi6 [mv 59 15 3,
 op1 60 (.binOp .add 3 (.tmp 59) (.const (.int .i64 1)) 3) 3,
 asn 15 60 3] fr st k := evK_r 16 (by kernel_rfl)
def c6_46 : Code := .seq (.block 3 c6_48) c6_129
def c6_40 : Code := .seq c6_41 c6_46
def c6_39 : Code := .loop c6_40
def c6_38 : Code := .block 2 c6_39
def c6_36 : Code := .seq (codeN b6 2559) c6_38
def c6_130 : Code := .seq (codeN b6 3071) .ret
theorem e6_130 : evK gS fi6 c6_130 fr st k = opsR gS fi6 [cal 138 28 [] [] 4,
 asn 4 138 4] fr st (.seq .ret k) := evK_rs 38 rfl (by kernel_rfl)
def c6_35 : Code := .seq c6_36 c6_130
theorem e6_35 : evK gS fi6 c6_35 fr st k = evK gS fi6 c6_36 fr st (.seq c6_130 k) := rfl
def c6_16 : Code := .seq c6_17 c6_35
def c6_14 : Code := .seq (codeN b6 383) c6_16
def c6_12 : Code := .seq (codeN b6 191) c6_14
def c6_10 : Code := .seq (codeN b6 95) c6_12
def c6_8 : Code := .seq (codeN b6 47) c6_10
def c6_6 : Code := .seq (codeN b6 23) c6_8
def c6_4 : Code := .seq (codeN b6 11) c6_6
def c6_2 : Code := .seq (codeN b6 5) c6_4
def c6_0 : Code := .seq (codeN b6 2) c6_2
theorem E6 : evK gS fi6 c6_24 fr st k = condK gS fi6 (fr.op (.tmp 40)).bool? .skip (.exit 0) fr st k ∧
 (evK gS fi6 c6_22 fr st k = opsR gS fi6 [mv 39 13 3,
 op1 40 (.binOp .lss 3 (.tmp 39) (.const (.int .i64 4)) 3) 4] fr st (.seq c6_24 k)) ∧
 (evK gS fi6 c6_33 fr st k = opsR gS fi6 [mv 52 13 3,
 mv 53 8 32,
 mv 54 14 22,
 cal 55 20 [(.tmp 53), (.tmp 54)] [32, 22] 22,
 ixa 56 64 12 52 0,
 sto 22 56 55] fr st k) ∧
 (evK gS fi6 c6_31 fr st k = opsR gS fi6 [mv 47 13 3,
 mv 48 9 53,
 mv 49 14 22,
 cal 50 30 [(.tmp 48), (.tmp 49)] [53, 22] 22,
 ixa 51 64 11 47 0,
 sto 22 51 50] fr st (.seq c6_33 k)) ∧
 (evK gS fi6 c6_29 fr st k = opsR gS fi6 [mv 43 8 32,
 mv 44 10 23,
 cal 45 17 [(.tmp 44)] [23] 42,
 cal 46 19 [(.tmp 43), (.tmp 45)] [32, 42] 22,
 asn 14 46 22] fr st (.seq c6_31 k)) ∧
 (evK gS fi6 c6_34 fr st k = opsR gS fi6 [mv 41 13 3,
 op1 42 (.binOp .add 3 (.tmp 41) (.const (.int .i64 1)) 3) 3,
 asn 13 42 3] fr st k) ∧
 evK gS fi6 c6_27 fr st k = evK gS fi6 c6_29 fr st (.blk 1 (.seq c6_34 k)) ∧
 evK gS fi6 c6_21 fr st k = evK gS fi6 c6_22 fr st (.seq c6_27 k) ∧
 evK gS fi6 c6_19 fr st k = evK gS fi6 c6_20 fr st (.blk 0 k) ∧
 evK gS fi6 c6_17 fr st k = opsR gS fi6 [op1 13 (.assign (.const (.int .i64 0))) 3] fr st (.seq c6_19 k) ∧
 evK gS fi6 c6_43 fr st k = condK gS fi6 (fr.op (.tmp 58)).bool? .skip (.exit 2) fr st k ∧
 (evK gS fi6 c6_41 fr st k = opsR gS fi6 [mv 57 15 3,
 op1 58 (.binOp .leq 3 (.tmp 57) (.const (.int .i64 6)) 3) 4] fr st (.seq c6_43 k)) ∧
 evK gS fi6 c6_57 fr st k = condK gS fi6 (fr.op (.tmp 67)).bool? .skip (.exit 4) fr st k ∧
 (evK gS fi6 c6_55 fr st k = opsR gS fi6 [mv 66 17 3,
 op1 67 (.binOp .lss 3 (.tmp 66) (.const (.int .i64 4)) 3) 4] fr st (.seq c6_57 k)) ∧
 evK gS fi6 c6_72 fr st k = condK gS fi6 (fr.op (.tmp 80)).bool? .skip (.exit 6) fr st k ∧
 (evK gS fi6 c6_70 fr st k = opsR gS fi6 [mv 75 19 3,
 mv 76 17 3,
 ixa 77 64 11 76 0,
 ld 78 22 77 22,
 len1 79 78 22 3,
 bop 80 .lss 3 75 79 3 4] fr st (.seq c6_72 k)) ∧
 evK gS fi6 c6_80 fr st k = opsR gS fi6 [op1 4 (.assign (.const (.bool false))) 4] fr st (.seq .ret k) ∧
 evK gS fi6 c6_79 fr st k = condK gS fi6 (fr.op (.tmp 94)).bool? c6_80 .skip fr st k ∧
 (evK gS fi6 c6_77 fr st k = opsR gS fi6 [mv 83 16 22,
 mv 84 17 3,
 ixa 85 64 11 84 0,
 ld 86 22 85 22,
 mv 87 19 3,
 ixa 88 22 86 87 0,
 ld 89 3 88 3,
 cal 90 32 [(.tmp 83), (.tmp 89)] [22, 3] 4,
 mv 91 90 4,
 mk (some 92) (.move (.tmp 18)) 4 (some (8, true)),
 mk (some 93) (.unOp .not 4 (.tmp 92)) 4 (some (8, true)),
 op1 94 (.pick (.tmp 91) (.tmp 93) (.const (.bool false))) 4] fr st (.seq c6_79 k)) ∧
 (evK gS fi6 c6_84 fr st k = opsR gS fi6 [mv 81 19 3,
 op1 82 (.binOp .add 3 (.tmp 81) (.const (.int .i64 1)) 3) 3,
 asn 19 82 3] fr st k) ∧
 evK gS fi6 c6_75 fr st k = evK gS fi6 c6_77 fr st (.blk 7 (.seq c6_84 k)) ∧
 evK gS fi6 c6_69 fr st k = evK gS fi6 c6_70 fr st (.seq c6_75 k) ∧
 evK gS fi6 c6_67 fr st k = evK gS fi6 c6_68 fr st (.blk 6 k) ∧
 evK gS fi6 c6_65 fr st k = opsR gS fi6 [op1 19 (.assign (.const (.int .i64 0))) 3] fr st (.seq c6_67 k) ∧
 evK gS fi6 c6_92 fr st k = condK gS fi6 (fr.op (.tmp 100)).bool? .skip (.exit 8) fr st k ∧
 (evK gS fi6 c6_90 fr st k = opsR gS fi6 [mv 95 20 3,
 mv 96 17 3,
 bop 97 .leq 3 95 96 3 4,
 mv 98 97 4,
 mk (some 99) (.move (.tmp 18)) 4 (some (3, true)),
 op1 100 (.pick (.tmp 98) (.tmp 99) (.const (.bool false))) 4] fr st (.seq c6_92 k)) ∧
 evK gS fi6 c6_100 fr st k = condK gS fi6 (fr.op (.tmp 108)).bool? (.exit 9) .skip fr st k ∧
 (evK gS fi6 c6_98 fr st k = opsR gS fi6 [mv 103 20 3,
 ixa 104 64 12 103 0,
 ld 105 22 104 22,
 mv 106 15 3,
 cal 107 32 [(.tmp 105), (.tmp 106)] [22, 3] 4,
 op1 108 (.unOp .not 4 (.tmp 107)) 4] fr st (.seq c6_100 k)) ∧
 evK gS fi6 c6_113 fr st k = condK gS fi6 (fr.op (.tmp 112)).bool? .skip (.exit 10) fr st k ∧
 (evK gS fi6 c6_111 fr st k = opsR gS fi6 [mv 109 22 3,
 mv 110 16 22,
 len1 111 110 22 3,
 bop 112 .lss 3 109 111 3 4] fr st (.seq c6_113 k)) ∧
 evK gS fi6 c6_118 fr st k = drwR gS fi6 r6_118 q6_118 fr st k ∧
 (evK gS fi6 c6_119 fr st k = opsR gS fi6 [mv 113 22 3,
 op1 114 (.binOp .add 3 (.tmp 113) (.const (.int .i64 1)) 3) 3,
 asn 22 114 3] fr st k) ∧
 evK gS fi6 c6_116 fr st k = evK gS fi6 c6_118 fr st (.blk 11 (.seq c6_119 k)) ∧
 evK gS fi6 c6_110 fr st k = evK gS fi6 c6_111 fr st (.seq c6_116 k) ∧
 evK gS fi6 c6_108 fr st k = evK gS fi6 c6_109 fr st (.blk 10 k) ∧
 evK gS fi6 c6_106 fr st k = opsR gS fi6 [op1 22 (.assign (.const (.int .i64 0))) 3] fr st (.seq c6_108 k) ∧
 evK gS fi6 c6_123 fr st k = opsR gS fi6 [op1 4 (.assign (.const (.bool false))) 4] fr st (.seq .ret k) ∧
 evK gS fi6 c6_122 fr st k = condK gS fi6 (fr.op (.tmp 137)).bool? c6_123 .skip fr st k ∧
 evK gS fi6 c6_105 fr st k = evK gS fi6 c6_106 fr st (.seq c6_120 k) ∧
 evK gS fi6 c6_103 fr st k = opsR gS fi6 [op1 21 (.assign (.const (.bool false))) 4] fr st (.seq c6_105 k) ∧
 evK gS fi6 c6_97 fr st k = evK gS fi6 c6_98 fr st (.seq c6_103 k) ∧
 evK gS fi6 c6_95 fr st k = evK gS fi6 c6_97 fr st (.blk 9 (.seq c6_127 k)) ∧
 evK gS fi6 c6_89 fr st k = evK gS fi6 c6_90 fr st (.seq c6_95 k) ∧
 evK gS fi6 c6_87 fr st k = evK gS fi6 c6_88 fr st (.blk 8 k) ∧
 evK gS fi6 c6_64 fr st k = evK gS fi6 c6_65 fr st (.seq c6_85 k) ∧
 (evK gS fi6 c6_62 fr st k = opsR gS fi6 [mv 70 17 3,
 ixa 71 64 12 70 0,
 ld 72 22 71 22,
 mv 73 15 3,
 cal 74 32 [(.tmp 72), (.tmp 73)] [22, 3] 4,
 asn 18 74 4] fr st (.seq c6_64 k)) ∧
 evK gS fi6 c6_60 fr st k = evK gS fi6 c6_62 fr st (.blk 5 (.seq c6_128 k)) ∧
 evK gS fi6 c6_54 fr st k = evK gS fi6 c6_55 fr st (.seq c6_60 k) ∧
 evK gS fi6 c6_52 fr st k = evK gS fi6 c6_53 fr st (.blk 4 k) ∧
 evK gS fi6 c6_50 fr st k = opsR gS fi6 [op1 17 (.assign (.const (.int .i64 0))) 3] fr st (.seq c6_52 k) ∧
 (evK gS fi6 c6_48 fr st k = opsR gS fi6 [mv 61 9 53,
 mv 62 8 32,
 mv 63 15 3,
 cal 64 24 [(.tmp 62), (.tmp 63)] [32, 3] 22,
 cal 65 31 [(.tmp 61), (.tmp 64)] [53, 22] 22,
 asn 16 65 22] fr st (.seq c6_50 k)) ∧
 evK gS fi6 c6_46 fr st k = evK gS fi6 c6_48 fr st (.blk 3 (.seq c6_129 k)) ∧
 evK gS fi6 c6_40 fr st k = evK gS fi6 c6_41 fr st (.seq c6_46 k) ∧
 evK gS fi6 c6_38 fr st k = evK gS fi6 c6_39 fr st (.blk 2 k) ∧
 evK gS fi6 c6_36 fr st k = opsR gS fi6 [op1 15 (.assign (.const (.int .i64 1))) 3] fr st (.seq c6_38 k) ∧
 evK gS fi6 c6_16 fr st k = evK gS fi6 c6_17 fr st (.seq c6_35 k) ∧
 (evK gS fi6 c6_14 fr st k = opsR gS fi6 [op1 11 (.alloc 64) 0,
 op1 12 (.alloc 64) 0] fr st (.seq c6_16 k)) ∧
 (evK gS fi6 c6_12 fr st k = opsR gS fi6 [mv 36 1 22,
 op1 37 (.build 25 #[(0, (.tmp 36))]) 25,
 op1 38 (.box 25 (.tmp 37)) 23,
 asn 10 38 23] fr st (.seq c6_14 k)) ∧
 (evK gS fi6 c6_10 fr st k = opsR gS fi6 [mv 33 6 22,
 mv 34 7 26,
 cal 35 27 [(.tmp 33), (.tmp 34)] [22, 26] 53,
 asn 9 35 53] fr st (.seq c6_12 k)) ∧
 (evK gS fi6 c6_8 fr st k = opsR gS fi6 [mv 31 7 26,
 cal 32 12 [(.tmp 31)] [26] 32,
 asn 8 32 32] fr st (.seq c6_10 k)) ∧
 (evK gS fi6 c6_6 fr st k = opsR gS fi6 [mv 28 5 23,
 mv 29 6 22,
 cal 30 10 [(.tmp 28), (.tmp 29)] [23, 22] 26,
 asn 7 30 26] fr st (.seq c6_8 k)) ∧
 (evK gS fi6 c6_4 fr st k = opsR gS fi6 [mv 26 5 23,
 cal 27 26 [(.tmp 26), (.const (.int .i64 8))] [23, 3] 22,
 asn 6 27 22] fr st (.seq c6_6 k)) ∧
 (evK gS fi6 c6_2 fr st k = opsR gS fi6 [mv 23 0 22,
 op1 24 (.build 25 #[(0, (.tmp 23))]) 25,
 op1 25 (.box 25 (.tmp 24)) 23,
 asn 5 25 23] fr st (.seq c6_4 k)) ∧
 evK gS fi6 c6_0 fr st k = opsR gS fi6 [op1 4 (.assign (.const (.bool false))) 4] fr st (.seq c6_2 k) := ⟨rfl, evK_rs 9 rfl (by kernel_rfl), evK_r 13 (by kernel_rfl), evK_rs 12 rfl (by kernel_rfl), evK_rs 11 rfl (by kernel_rfl), evK_r 10 (by kernel_rfl), rfl, rfl, rfl, evK_rs 8 rfl (by kernel_rfl), rfl, evK_rs 15 rfl (by kernel_rfl), rfl, evK_rs 19 rfl (by kernel_rfl), rfl, evK_rs 23 rfl (by kernel_rfl), evK_rs 26 rfl (by kernel_rfl), rfl, evK_rs 25 rfl (by kernel_rfl), evK_r 24 (by kernel_rfl), rfl, rfl, rfl, evK_rs 22 rfl (by kernel_rfl), rfl, evK_rs 28 rfl (by kernel_rfl), rfl, evK_rs 30 rfl (by kernel_rfl), rfl, evK_rs 33 rfl (by kernel_rfl), evK_dr 35 rfl (by kernel_rfl) (by kernel_rfl), evK_r 34 (by kernel_rfl), rfl, rfl, rfl, evK_rs 32 rfl (by kernel_rfl), evK_rs 37 rfl (by kernel_rfl), rfl, rfl, evK_rs 31 rfl (by kernel_rfl), rfl, rfl, rfl, rfl, rfl, evK_rs 21 rfl (by kernel_rfl), rfl, rfl, rfl, evK_rs 18 rfl (by kernel_rfl), evK_rs 17 rfl (by kernel_rfl), rfl, rfl, rfl, evK_rs 14 rfl (by kernel_rfl), rfl, evK_rs 7 rfl (by kernel_rfl), evK_rs 6 rfl (by kernel_rfl), evK_rs 5 rfl (by kernel_rfl), evK_rs 4 rfl (by kernel_rfl), evK_rs 3 rfl (by kernel_rfl), evK_rs 2 rfl (by kernel_rfl), evK_rs 1 rfl (by kernel_rfl), evK_rs 0 rfl (by kernel_rfl)⟩
theorem m6 : mini fi6.body = c6_0 := by kernel_rfl
theorem n6_20 (fr : Fr) (st : St) (k : Kt) : nextK gS fi6 (.loop c6_21 k) .normal fr st = evK gS fi6 c6_20 fr st k := rfl
theorem n6_68 (fr : Fr) (st : St) (k : Kt) : nextK gS fi6 (.loop c6_69 k) .normal fr st = evK gS fi6 c6_68 fr st k := rfl
theorem n6_109 (fr : Fr) (st : St) (k : Kt) : nextK gS fi6 (.loop c6_110 k) .normal fr st = evK gS fi6 c6_109 fr st k := rfl
theorem n6_88 (fr : Fr) (st : St) (k : Kt) : nextK gS fi6 (.loop c6_89 k) .normal fr st = evK gS fi6 c6_88 fr st k := rfl
theorem n6_53 (fr : Fr) (st : St) (k : Kt) : nextK gS fi6 (.loop c6_54 k) .normal fr st = evK gS fi6 c6_53 fr st k := rfl
theorem n6_39 (fr : Fr) (st : St) (k : Kt) : nextK gS fi6 (.loop c6_40 k) .normal fr st = evK gS fi6 c6_39 fr st k := rfl
set_option maxHeartbeats 8000000 in
theorem LM (l1 l2 : List Int) (id id2 : Nat) (p : List Int) (xs : List Sub) (g : List Grp) (hg1 : ∀ x ∈ g, POk x.filter ∧ x.clients.length < 1000) (hg2 : g.length ≤ 18) (ch : List Atom) (hcl : ch.length ≤ 324) (ws rs : List (List Int)) (hw4 : ws.length = 4) (hr4 : rs.length = 4) (hwl : ∀ w ∈ ws, w.length < 100000) (hrl : ∀ w ∈ rs, w.length < 100000) (S : St) (R : Out × St) (ow : List Int) (how : ow.length < 100000) (cl n k : Nat) (hn : n < 4) (hk : k < 4) (wn wk : List Int) (hwn : ws[n]? = some wn) (hwk : ws[k]? = some wk) (fin : Bool)
    (H : ∀ (e13 e14 e19 : E) (T : List (Nat × E)) (X : List (Nat × List V)), e13.Tame → e14.Tame → e19.Tame → lk X 11 = some (ws.map slc) → lk X 12 = some (rs.map slc) → evK gS fi6 c6_120 { ps := [(0, .val (.slice (intVs l1))), (1, .val (.slice (intVs l2))), (4, .val (.bool false)), (5, .val (.ptr id 0)), (6, .val (.slice (intVs p))), (7, .val (.slice (encSubs xs))), (8, .val (.slice (encGrps g))), (9, .val (.slice (encAtoms ch))), (10, .val (.ptr id2 0)), (11, .lp 11 0), (12, .lp 12 0), (13, e13), (14, e14), (15, .val (.int .i64 (cl : Nat))), (16, .val (.slice (intVs ow))), (17, .val (.int .i64 (n : Nat))), (18, .val (.bool true)), (19, e19), (20, .val (.int .i64 (k : Nat))), (21, .val (.bool fin)), (22, .val (.int .i64 ow.length))], ts := T, lc := X } S (.blk 9 (.seq c6_127 (.loop c6_89 (.blk 8 (.blk 5 (.seq c6_128 (.loop c6_54 (.blk 4 (.blk 3 (.seq c6_129 (.loop c6_40 (.blk 2 (.seq c6_130 .nil))))))))))))) = some R) :
    ∀ (m q : Nat) (b : Bool) (e13 e14 e19 : E) (T : List (Nat × E)) (X : List (Nat × List V)) (h13 : e13.Tame) (h14 : e14.Tame) (h19 : e19.Tame) (x11 : lk X 11 = some (ws.map slc)) (x12 : lk X 12 = some (rs.map slc)), q ≤ ow.length → ow.length - q = m → fin = (ow.drop q).foldl (mtStep wn wk) b → 
    evK gS fi6 c6_109 { ps := [(0, .val (.slice (intVs l1))), (1, .val (.slice (intVs l2))), (4, .val (.bool false)), (5, .val (.ptr id 0)), (6, .val (.slice (intVs p))), (7, .val (.slice (encSubs xs))), (8, .val (.slice (encGrps g))), (9, .val (.slice (encAtoms ch))), (10, .val (.ptr id2 0)), (11, .lp 11 0), (12, .lp 12 0), (13, e13), (14, e14), (15, .val (.int .i64 (cl : Nat))), (16, .val (.slice (intVs ow))), (17, .val (.int .i64 (n : Nat))), (18, .val (.bool true)), (19, e19), (20, .val (.int .i64 (k : Nat))), (21, .val (.bool b)), (22, .val (.int .i64 (q : Nat)))], ts := T, lc := X } S (.blk 10 (.seq c6_120 (.blk 9 (.seq c6_127 (.loop c6_89 (.blk 8 (.blk 5 (.seq c6_128 (.loop c6_54 (.blk 4 (.blk 3 (.seq c6_129 (.loop c6_40 (.blk 2 (.seq c6_130 .nil))))))))))))))) = some R := by
  intro m
  have hm : fi6.marks = [] := rfl
  have hl : fi6.locals = [11, 12] := rfl
  have hr : fi6.results = [.tmp 4] := rfl
  induction m with
  | zero =>
    intro q b e13 e14 e19 T X h13 h14 h19 x11 x12 hq hm2 hf
    obtain rfl : q = ow.length := by omega
    rw [List.drop_length] at hf
    simp only [List.foldl_nil] at hf
    subst hf
    refine evK_loop c6_110 _ _ _ _ rfl ?_
    simp (config := { implicitDefEqProofs := false }) [-Int.natCast_add, -St.obj, -St.set, h13, h14, h19, x11, x12, -Int.not_le, -Int.not_lt, -Nat.not_le, -Nat.not_lt, ty3, ty4, ty22, ty23, ty25, ty26, ty32, ty42, ty53, ty64, hm, hl, hr, fi36_eq, fi53_eq, fi54_eq, fi59_eq, fi60_eq, fi64_eq, fi200_eq, fi219_eq, fi220_eq, fi221_eq, x32, fi222_eq, p32, k28, x28, fi224_eq, p28, E6, q6_118, e6_127, e6_85, e6_128, e6_129, e6_130, e6_35, n6_20, n6_68, n6_109, n6_88, n6_53, n6_39]
    exact H _ _ _ _ _ h13 h14 h19 x11 x12
  | succ m ih =>
    intro q b e13 e14 e19 T X h13 h14 h19 x11 x12 hq hm2 hf
    obtain ⟨x, hx⟩ : ∃ x, ow[q]? = some x := ⟨ow[q]'(by omega), List.getElem?_eq_getElem (by omega)⟩
    have hlt : (q : Int) < (ow.length : Int) := by omega
    obtain ⟨hlt2, hxe⟩ := List.getElem?_eq_some_iff.1 hx
    have hw : IntKind.wrap .i64 ((q : Int) + 1) = ((q + 1 : Nat) : Int) := by rw [wrap64 (by omega) (by omega)]; omega
    have c_hwn : (ws.map slc)[n]? = some (.slice (intVs wn)) := by rw [List.getElem?_map, hwn]; rfl
    have c_hwk : (ws.map slc)[k]? = some (.slice (intVs wk)) := by rw [List.getElem?_map, hwk]; rfl
    have hnl := hwl wn (List.mem_of_getElem? hwn)
    have hkl := hwl wk (List.mem_of_getElem? hwk)
    have kk := fun fr st => k32 wn x (by omega) fr st
    have kj := fun fr st => k32 wk x (by omega) fr st
    have n4 : (n : Int) < 4 := by omega
    have k4 : (k : Int) < 4 := by omega
    rw [drop_get hx, List.foldl_cons] at hf
    rw [show mtStep wn wk b x = (b || (hasI wn x && hasI wk x)) from rfl] at hf
    generalize ws.map slc = WC at *
    generalize rs.map slc = RC at *
    generalize hasI wn x = t1 at *
    generalize hasI wk x = t2 at *
    have IH := fun e13 e14 e19 T X h13 h14 h19 x11 x12 => ih (q + 1) _ e13 e14 e19 T X h13 h14 h19 x11 x12 (by omega) (by omega) hf
    refine evK_loop c6_110 _ _ _ _ rfl ?_
    cases b with
    | true =>
      simp only [Bool.true_or] at IH
      simp (config := { implicitDefEqProofs := false }) [-Int.natCast_add, h13, h14, h19, x11, x12, hx, hxe, hlt, hlt2, hw, -Int.not_le, -Int.not_lt, -Nat.not_le, -Nat.not_lt, ty3, ty4, ty22, ty23, ty25, ty26, ty32, ty42, ty53, ty64, hm, hl, hr, fi36_eq, fi53_eq, fi54_eq, fi59_eq, fi60_eq, fi64_eq, fi200_eq, fi219_eq, fi220_eq, fi221_eq, x32, fi222_eq, p32, k28, x28, fi224_eq, p28, E6, q6_118, e6_120, e6_127, e6_85, e6_128, e6_129, e6_130, e6_35, n6_20, n6_68, n6_109, n6_88, n6_53, n6_39]
      exact IH _ _ _ _ _ h13 h14 h19 x11 x12
    | false =>
      cases t1 with
      | false =>
        simp only [Bool.false_or, Bool.false_and] at IH
        simp (config := { implicitDefEqProofs := false }) [-Int.natCast_add, h13, h14, h19, x11, x12, hx, hxe, hlt, hlt2, hw, hn, hk, n4, k4, c_hwn, c_hwk, kk, kj, -Int.not_le, -Int.not_lt, -Nat.not_le, -Nat.not_lt, ty3, ty4, ty22, ty23, ty25, ty26, ty32, ty42, ty53, ty64, hm, hl, hr, fi36_eq, fi53_eq, fi54_eq, fi59_eq, fi60_eq, fi64_eq, fi200_eq, fi219_eq, fi220_eq, fi221_eq, x32, fi222_eq, p32, k28, x28, fi224_eq, p28, E6, q6_118, e6_120, e6_127, e6_85, e6_128, e6_129, e6_130, e6_35, n6_20, n6_68, n6_109, n6_88, n6_53, n6_39]
        exact IH _ _ _ _ _ h13 h14 h19 x11 x12
      | true =>
        simp only [Bool.false_or, Bool.true_and] at IH
        simp (config := { implicitDefEqProofs := false }) [-Int.natCast_add, h13, h14, h19, x11, x12, hx, hxe, hlt, hlt2, hw, hn, hk, n4, k4, c_hwn, c_hwk, kk, kj, -Int.not_le, -Int.not_lt, -Nat.not_le, -Nat.not_lt, ty3, ty4, ty22, ty23, ty25, ty26, ty32, ty42, ty53, ty64, hm, hl, hr, fi36_eq, fi53_eq, fi54_eq, fi59_eq, fi60_eq, fi64_eq, fi200_eq, fi219_eq, fi220_eq, fi221_eq, x32, fi222_eq, p32, k28, x28, fi224_eq, p28, E6, q6_118, e6_120, e6_127, e6_85, e6_128, e6_129, e6_130, e6_35, n6_20, n6_68, n6_109, n6_88, n6_53, n6_39]
        exact IH _ _ _ _ _ h13 h14 h19 x11 x12
set_option maxHeartbeats 8000000 in
theorem LK (l1 l2 : List Int) (id id2 : Nat) (p : List Int) (xs : List Sub) (g : List Grp) (hg1 : ∀ x ∈ g, POk x.filter ∧ x.clients.length < 1000) (hg2 : g.length ≤ 18) (ch : List Atom) (hcl : ch.length ≤ 324) (ws rs : List (List Int)) (hw4 : ws.length = 4) (hr4 : rs.length = 4) (hwl : ∀ w ∈ ws, w.length < 100000) (hrl : ∀ w ∈ rs, w.length < 100000) (S : St) (R : Out × St) (ow : List Int) (how : ow.length < 100000) (cl n : Nat) (hn : n < 4) (wn : List Int) (hwn : ws[n]? = some wn) (HM : ∀ (k : Nat) (wk rk : List Int), k ≤ n → ws[k]? = some wk → rs[k]? = some rk → hasI rk (cl : Int) = true → ow.foldl (mtStep wn wk) false = true) 
    (H : ∀ (e13 e14 e19 e21 e22 : E) (T : List (Nat × E)) (X : List (Nat × List V)), e13.Tame → e14.Tame → e19.Tame → e21.Tame → e22.Tame → lk X 11 = some (ws.map slc) → lk X 12 = some (rs.map slc) → evK gS fi6 c6_128 { ps := [(0, .val (.slice (intVs l1))), (1, .val (.slice (intVs l2))), (4, .val (.bool false)), (5, .val (.ptr id 0)), (6, .val (.slice (intVs p))), (7, .val (.slice (encSubs xs))), (8, .val (.slice (encGrps g))), (9, .val (.slice (encAtoms ch))), (10, .val (.ptr id2 0)), (11, .lp 11 0), (12, .lp 12 0), (13, e13), (14, e14), (15, .val (.int .i64 (cl : Nat))), (16, .val (.slice (intVs ow))), (17, .val (.int .i64 (n : Nat))), (18, .val (.bool true)), (19, e19), (20, .val (.int .i64 (n + 1))), (21, e21), (22, e22)], ts := T, lc := X } S (.loop c6_54 (.blk 4 (.blk 3 (.seq c6_129 (.loop c6_40 (.blk 2 (.seq c6_130 .nil))))))) = some R) :
    ∀ (m q : Nat) (e13 e14 e19 e21 e22 : E) (T : List (Nat × E)) (X : List (Nat × List V)) (h13 : e13.Tame) (h14 : e14.Tame) (h19 : e19.Tame) (h21 : e21.Tame) (h22 : e22.Tame) (x11 : lk X 11 = some (ws.map slc)) (x12 : lk X 12 = some (rs.map slc)), q ≤ (n + 1) → (n + 1) - q = m → 
    evK gS fi6 c6_88 { ps := [(0, .val (.slice (intVs l1))), (1, .val (.slice (intVs l2))), (4, .val (.bool false)), (5, .val (.ptr id 0)), (6, .val (.slice (intVs p))), (7, .val (.slice (encSubs xs))), (8, .val (.slice (encGrps g))), (9, .val (.slice (encAtoms ch))), (10, .val (.ptr id2 0)), (11, .lp 11 0), (12, .lp 12 0), (13, e13), (14, e14), (15, .val (.int .i64 (cl : Nat))), (16, .val (.slice (intVs ow))), (17, .val (.int .i64 (n : Nat))), (18, .val (.bool true)), (19, e19), (20, .val (.int .i64 (q : Nat))), (21, e21), (22, e22)], ts := T, lc := X } S (.blk 8 (.blk 5 (.seq c6_128 (.loop c6_54 (.blk 4 (.blk 3 (.seq c6_129 (.loop c6_40 (.blk 2 (.seq c6_130 .nil)))))))))) = some R := by
  intro m
  have hm : fi6.marks = [] := rfl
  have hl : fi6.locals = [11, 12] := rfl
  have hr : fi6.results = [.tmp 4] := rfl
  induction m with
  | zero =>
    intro q e13 e14 e19 e21 e22 T X h13 h14 h19 h21 h22 x11 x12 hq hm2 
    obtain rfl : q = (n + 1) := by omega
    have hz1 : ¬ ((n + 1 : Nat) : Int) ≤ (n : Int) := by omega
    have hz2 : ¬ n + 1 ≤ n := by omega
    refine evK_loop c6_89 _ _ _ _ rfl ?_
    simp (config := { implicitDefEqProofs := false }) [-Int.natCast_add, -St.obj, -St.set, h13, h14, h19, h21, h22, x11, x12, hz1, hz2, -Int.not_le, -Int.not_lt, -Nat.not_le, -Nat.not_lt, ty3, ty4, ty22, ty23, ty25, ty26, ty32, ty42, ty53, ty64, hm, hl, hr, fi36_eq, fi53_eq, fi54_eq, fi59_eq, fi60_eq, fi64_eq, fi200_eq, fi219_eq, fi220_eq, fi221_eq, x32, fi222_eq, p32, k28, x28, fi224_eq, p28, E6, q6_118, e6_120, e6_127, e6_85, e6_129, e6_130, e6_35, n6_20, n6_68, n6_109, n6_88, n6_53, n6_39]
    exact H _ _ _ _ _ _ _ h13 h14 h19 h21 h22 x11 x12
  | succ m ih =>
    intro q e13 e14 e19 e21 e22 T X h13 h14 h19 h21 h22 x11 x12 hq hm2 
    obtain ⟨rq, hrq⟩ : ∃ r, rs[q]? = some r := ⟨rs[q]'(by omega), List.getElem?_eq_getElem (by omega)⟩
    obtain ⟨wq, hwq⟩ : ∃ r, ws[q]? = some r := ⟨ws[q]'(by omega), List.getElem?_eq_getElem (by omega)⟩
    have hw : IntKind.wrap .i64 ((q : Int) + 1) = ((q + 1 : Nat) : Int) := by rw [wrap64 (by omega) (by omega)]; omega
    have hq1 : (q : Int) ≤ (n : Int) := by omega
    have hq2 : q ≤ n := by omega
    have q4 : (q : Int) < 4 := by omega
    have q4' : q < 4 := by omega
    have c_hrq : (rs.map slc)[q]? = some (.slice (intVs rq)) := by rw [List.getElem?_map, hrq]; rfl
    have hrr := hrl rq (List.mem_of_getElem? hrq)
    have kk := fun fr st => k32 rq (cl : Int) (by omega) fr st
    have IH := fun e13 e14 e19 e21 e22 T X h13 h14 h19 h21 h22 x11 x12 => ih (q + 1) e13 e14 e19 e21 e22 T X h13 h14 h19 h21 h22 x11 x12 (by omega) (by omega)
    have H127 : ∀ (e13 e14 e19 e21 e22 : E) (T : List (Nat × E)) (X : List (Nat × List V)), e13.Tame → e14.Tame → e19.Tame → e21.Tame → e22.Tame → lk X 11 = some (ws.map slc) → lk X 12 = some (rs.map slc) → evK gS fi6 c6_127 { ps := [(0, .val (.slice (intVs l1))), (1, .val (.slice (intVs l2))), (4, .val (.bool false)), (5, .val (.ptr id 0)), (6, .val (.slice (intVs p))), (7, .val (.slice (encSubs xs))), (8, .val (.slice (encGrps g))), (9, .val (.slice (encAtoms ch))), (10, .val (.ptr id2 0)), (11, .lp 11 0), (12, .lp 12 0), (13, e13), (14, e14), (15, .val (.int .i64 (cl : Nat))), (16, .val (.slice (intVs ow))), (17, .val (.int .i64 (n : Nat))), (18, .val (.bool true)), (19, e19), (20, .val (.int .i64 (q : Nat))), (21, e21), (22, e22)], ts := T, lc := X } S (.loop c6_89 (.blk 8 (.blk 5 (.seq c6_128 (.loop c6_54 (.blk 4 (.blk 3 (.seq c6_129 (.loop c6_40 (.blk 2 (.seq c6_130 .nil))))))))))) = some R := by
      intro e13 e14 e19 e21 e22 T X h13 h14 h19 h21 h22 x11 x12
      simp (config := { implicitDefEqProofs := false }) [-Int.natCast_add, h13, h14, h19, h21, h22, x11, x12, hw, -Int.not_le, -Int.not_lt, -Nat.not_le, -Nat.not_lt, ty3, ty4, ty22, ty23, ty25, ty26, ty32, ty42, ty53, ty64, hm, hl, hr, fi36_eq, fi53_eq, fi54_eq, fi59_eq, fi60_eq, fi64_eq, fi200_eq, fi219_eq, fi220_eq, fi221_eq, x32, fi222_eq, p32, k28, x28, fi224_eq, p28, E6, q6_118, e6_120, e6_127, e6_85, e6_128, e6_129, e6_130, e6_35, n6_20, n6_68, n6_109, n6_88, n6_53, n6_39]
      exact IH _ _ _ _ _ _ _ h13 h14 h19 h21 h22 x11 x12
    have H120 : ∀ (e13 e14 e19 : E) (T : List (Nat × E)) (X : List (Nat × List V)), e13.Tame → e14.Tame → e19.Tame → lk X 11 = some (ws.map slc) → lk X 12 = some (rs.map slc) → evK gS fi6 c6_120 { ps := [(0, .val (.slice (intVs l1))), (1, .val (.slice (intVs l2))), (4, .val (.bool false)), (5, .val (.ptr id 0)), (6, .val (.slice (intVs p))), (7, .val (.slice (encSubs xs))), (8, .val (.slice (encGrps g))), (9, .val (.slice (encAtoms ch))), (10, .val (.ptr id2 0)), (11, .lp 11 0), (12, .lp 12 0), (13, e13), (14, e14), (15, .val (.int .i64 (cl : Nat))), (16, .val (.slice (intVs ow))), (17, .val (.int .i64 (n : Nat))), (18, .val (.bool true)), (19, e19), (20, .val (.int .i64 (q : Nat))), (21, .val (.bool true)), (22, .val (.int .i64 (ow.length : Nat)))], ts := T, lc := X } S (.blk 9 (.seq c6_127 (.loop c6_89 (.blk 8 (.blk 5 (.seq c6_128 (.loop c6_54 (.blk 4 (.blk 3 (.seq c6_129 (.loop c6_40 (.blk 2 (.seq c6_130 .nil))))))))))))) = some R := by
      intro e13 e14 e19 T X h13 h14 h19 x11 x12
      simp (config := { implicitDefEqProofs := false }) [-Int.natCast_add, h13, h14, h19, x11, x12, -Int.not_le, -Int.not_lt, -Nat.not_le, -Nat.not_lt, ty3, ty4, ty22, ty23, ty25, ty26, ty32, ty42, ty53, ty64, hm, hl, hr, fi36_eq, fi53_eq, fi54_eq, fi59_eq, fi60_eq, fi64_eq, fi200_eq, fi219_eq, fi220_eq, fi221_eq, x32, fi222_eq, p32, k28, x28, fi224_eq, p28, E6, q6_118, e6_120, e6_85, e6_128, e6_129, e6_130, e6_35, n6_20, n6_68, n6_109, n6_88, n6_53, n6_39]
      exact H127 _ _ _ _ _ _ _ h13 h14 h19 (tame_val _) (tame_val _) x11 x12
    cases hc2 : hasI rq (cl : Int) with
    | false =>
      rw [hc2] at kk
      generalize rs.map slc = RC at *
      refine evK_loop c6_89 _ _ _ _ rfl ?_
      simp (config := { implicitDefEqProofs := false }) [-Int.natCast_add, h13, h14, h19, h21, h22, x11, x12, hq1, hq2, q4, q4', c_hrq, kk, -Int.not_le, -Int.not_lt, -Nat.not_le, -Nat.not_lt, ty3, ty4, ty22, ty23, ty25, ty26, ty32, ty42, ty53, ty64, hm, hl, hr, fi36_eq, fi53_eq, fi54_eq, fi59_eq, fi60_eq, fi64_eq, fi200_eq, fi219_eq, fi220_eq, fi221_eq, x32, fi222_eq, p32, k28, x28, fi224_eq, p28, E6, q6_118, e6_85, e6_128, e6_129, e6_130, e6_35, n6_20, n6_68, n6_109, n6_88, n6_53, n6_39]
      exact H127 _ _ _ _ _ _ _ h13 h14 h19 h21 h22 x11 x12
    | true =>
      rw [hc2] at kk
      have LLM := fun e13 e14 e19 T X h13 h14 h19 x11 x12 => LM l1 l2 id id2 p xs g hg1 hg2 ch hcl ws rs hw4 hr4 hwl hrl S R ow how cl n q hn (by omega) wn wq hwn hwq true H120 ow.length 0 false e13 e14 e19 T X h13 h14 h19 x11 x12 (Nat.zero_le _) rfl (by rw [List.drop_zero]; exact (HM q wq rq (by omega) hwq hrq hc2).symm)
      rw [show ((0 : Nat) : Int) = 0 from rfl] at LLM
      generalize rs.map slc = RC at *
      refine evK_loop c6_89 _ _ _ _ rfl ?_
      simp (config := { implicitDefEqProofs := false }) [-Int.natCast_add, h13, h14, h19, h21, h22, x11, x12, hq1, hq2, q4, q4', c_hrq, kk, -Int.not_le, -Int.not_lt, -Nat.not_le, -Nat.not_lt, ty3, ty4, ty22, ty23, ty25, ty26, ty32, ty42, ty53, ty64, hm, hl, hr, fi36_eq, fi53_eq, fi54_eq, fi59_eq, fi60_eq, fi64_eq, fi200_eq, fi219_eq, fi220_eq, fi221_eq, x32, fi222_eq, p32, k28, x28, fi224_eq, p28, E6, q6_118, e6_127, e6_85, e6_128, e6_129, e6_130, e6_35, n6_20, n6_68, n6_109, n6_88, n6_53, n6_39]
      refine LLM _ _ _ _ _ h13 h14 h19 x11 x12
set_option maxHeartbeats 8000000 in
theorem LWA (l1 l2 : List Int) (id id2 : Nat) (p : List Int) (xs : List Sub) (g : List Grp) (hg1 : ∀ x ∈ g, POk x.filter ∧ x.clients.length < 1000) (hg2 : g.length ≤ 18) (ch : List Atom) (hcl : ch.length ≤ 324) (ws rs : List (List Int)) (hw4 : ws.length = 4) (hr4 : rs.length = 4) (hwl : ∀ w ∈ ws, w.length < 100000) (hrl : ∀ w ∈ rs, w.length < 100000) (S : St) (R : Out × St) (ow : List Int) (how : ow.length < 100000) (cl n : Nat) (hn : n < 4) (wn : List Int) (hwn : ws[n]? = some wn) (t : Bool) (HW : ∀ x ∈ wn, hasI ow x = true → t = true) 
    (H : ∀ (e13 e14 e20 e21 e22 : E) (T : List (Nat × E)) (X : List (Nat × List V)), e13.Tame → e14.Tame → e20.Tame → e21.Tame → e22.Tame → lk X 11 = some (ws.map slc) → lk X 12 = some (rs.map slc) → evK gS fi6 c6_85 { ps := [(0, .val (.slice (intVs l1))), (1, .val (.slice (intVs l2))), (4, .val (.bool false)), (5, .val (.ptr id 0)), (6, .val (.slice (intVs p))), (7, .val (.slice (encSubs xs))), (8, .val (.slice (encGrps g))), (9, .val (.slice (encAtoms ch))), (10, .val (.ptr id2 0)), (11, .lp 11 0), (12, .lp 12 0), (13, e13), (14, e14), (15, .val (.int .i64 (cl : Nat))), (16, .val (.slice (intVs ow))), (17, .val (.int .i64 (n : Nat))), (18, .val (.bool t)), (19, .val (.int .i64 wn.length)), (20, e20), (21, e21), (22, e22)], ts := T, lc := X } S (.blk 5 (.seq c6_128 (.loop c6_54 (.blk 4 (.blk 3 (.seq c6_129 (.loop c6_40 (.blk 2 (.seq c6_130 .nil))))))))) = some R) :
    ∀ (m q : Nat) (e13 e14 e20 e21 e22 : E) (T : List (Nat × E)) (X : List (Nat × List V)) (h13 : e13.Tame) (h14 : e14.Tame) (h20 : e20.Tame) (h21 : e21.Tame) (h22 : e22.Tame) (x11 : lk X 11 = some (ws.map slc)) (x12 : lk X 12 = some (rs.map slc)), q ≤ wn.length → wn.length - q = m → 
    evK gS fi6 c6_68 { ps := [(0, .val (.slice (intVs l1))), (1, .val (.slice (intVs l2))), (4, .val (.bool false)), (5, .val (.ptr id 0)), (6, .val (.slice (intVs p))), (7, .val (.slice (encSubs xs))), (8, .val (.slice (encGrps g))), (9, .val (.slice (encAtoms ch))), (10, .val (.ptr id2 0)), (11, .lp 11 0), (12, .lp 12 0), (13, e13), (14, e14), (15, .val (.int .i64 (cl : Nat))), (16, .val (.slice (intVs ow))), (17, .val (.int .i64 (n : Nat))), (18, .val (.bool t)), (19, .val (.int .i64 (q : Nat))), (20, e20), (21, e21), (22, e22)], ts := T, lc := X } S (.blk 6 (.seq c6_85 (.blk 5 (.seq c6_128 (.loop c6_54 (.blk 4 (.blk 3 (.seq c6_129 (.loop c6_40 (.blk 2 (.seq c6_130 .nil))))))))))) = some R := by
  intro m
  have hm : fi6.marks = [] := rfl
  have hl : fi6.locals = [11, 12] := rfl
  have hr : fi6.results = [.tmp 4] := rfl
  have n4 : (n : Int) < 4 := by omega
  have hnl := hwl wn (List.mem_of_getElem? hwn)
  have c_hwn : (ws.map slc)[n]? = some (.slice (intVs wn)) := by rw [List.getElem?_map, hwn]; rfl
  induction m with
  | zero =>
    intro q e13 e14 e20 e21 e22 T X h13 h14 h20 h21 h22 x11 x12 hq hm2 
    obtain rfl : q = wn.length := by omega
    refine evK_loop c6_69 _ _ _ _ rfl ?_
    generalize ws.map slc = WC at *
    generalize rs.map slc = RC at *
    simp (config := { implicitDefEqProofs := false }) [-Int.natCast_add, -St.obj, -St.set, h13, h14, h20, h21, h22, x11, x12, n4, hn, c_hwn, -Int.not_le, -Int.not_lt, -Nat.not_le, -Nat.not_lt, ty3, ty4, ty22, ty23, ty25, ty26, ty32, ty42, ty53, ty64, hm, hl, hr, fi36_eq, fi53_eq, fi54_eq, fi59_eq, fi60_eq, fi64_eq, fi200_eq, fi219_eq, fi220_eq, fi221_eq, x32, fi222_eq, p32, k28, x28, fi224_eq, p28, E6, q6_118, e6_120, e6_127, e6_128, e6_129, e6_130, e6_35, n6_20, n6_68, n6_109, n6_88, n6_53, n6_39]
    exact H _ _ _ _ _ _ _ h13 h14 h20 h21 h22 x11 x12
  | succ m ih =>
    intro q e13 e14 e20 e21 e22 T X h13 h14 h20 h21 h22 x11 x12 hq hm2 
    obtain ⟨x, hx⟩ : ∃ x, wn[q]? = some x := ⟨wn[q]'(by omega), List.getElem?_eq_getElem (by omega)⟩
    have hlt : (q : Int) < (wn.length : Int) := by omega
    obtain ⟨hlt2, hxe⟩ := List.getElem?_eq_some_iff.1 hx
    have hw : IntKind.wrap .i64 ((q : Int) + 1) = ((q + 1 : Nat) : Int) := by rw [wrap64 (by omega) (by omega)]; omega
    have kk := fun fr st => k32 ow x (by omega) fr st
    have IH := fun e13 e14 e20 e21 e22 T X h13 h14 h20 h21 h22 x11 x12 => ih (q + 1) e13 e14 e20 e21 e22 T X h13 h14 h20 h21 h22 x11 x12 (by omega) (by omega)
    have ht := HW x (List.mem_of_getElem? hx)
    generalize hasI ow x = t1 at *
    generalize ws.map slc = WC at *
    generalize rs.map slc = RC at *
    refine evK_loop c6_69 _ _ _ _ rfl ?_
    cases t1 with
    | false =>
      simp (config := { implicitDefEqProofs := false }) [-Int.natCast_add, h13, h14, h20, h21, h22, x11, x12, hx, hxe, hlt, hlt2, hw, hn, n4, c_hwn, kk, -Int.not_le, -Int.not_lt, -Nat.not_le, -Nat.not_lt, ty3, ty4, ty22, ty23, ty25, ty26, ty32, ty42, ty53, ty64, hm, hl, hr, fi36_eq, fi53_eq, fi54_eq, fi59_eq, fi60_eq, fi64_eq, fi200_eq, fi219_eq, fi220_eq, fi221_eq, x32, fi222_eq, p32, k28, x28, fi224_eq, p28, E6, q6_118, e6_120, e6_127, e6_85, e6_128, e6_129, e6_130, e6_35, n6_20, n6_68, n6_109, n6_88, n6_53, n6_39]
      exact IH _ _ _ _ _ _ _ h13 h14 h20 h21 h22 x11 x12
    | true =>
      have ht2 := ht rfl
      subst ht2
      simp (config := { implicitDefEqProofs := false }) [-Int.natCast_add, h13, h14, h20, h21, h22, x11, x12, hx, hxe, hlt, hlt2, hw, hn, n4, c_hwn, kk, -Int.not_le, -Int.not_lt, -Nat.not_le, -Nat.not_lt, ty3, ty4, ty22, ty23, ty25, ty26, ty32, ty42, ty53, ty64, hm, hl, hr, fi36_eq, fi53_eq, fi54_eq, fi59_eq, fi60_eq, fi64_eq, fi200_eq, fi219_eq, fi220_eq, fi221_eq, x32, fi222_eq, p32, k28, x28, fi224_eq, p28, E6, q6_118, e6_120, e6_127, e6_85, e6_128, e6_129, e6_130, e6_35, n6_20, n6_68, n6_109, n6_88, n6_53, n6_39]
      exact IH _ _ _ _ _ _ _ h13 h14 h20 h21 h22 x11 x12
set_option maxHeartbeats 8000000 in
theorem LN (l1 l2 : List Int) (id id2 : Nat) (p : List Int) (xs : List Sub) (g : List Grp) (hg1 : ∀ x ∈ g, POk x.filter ∧ x.clients.length < 1000) (hg2 : g.length ≤ 18) (ch : List Atom) (hcl : ch.length ≤ 324) (ws rs : List (List Int)) (hw4 : ws.length = 4) (hr4 : rs.length = 4) (hwl : ∀ w ∈ ws, w.length < 100000) (hrl : ∀ w ∈ rs, w.length < 100000) (S : St) (R : Out × St) (ow : List Int) (how : ow.length < 100000) (cl : Nat) (HW : ∀ (n : Nat) (wn rn : List Int), n < 4 → ws[n]? = some wn → rs[n]? = some rn → ∀ x ∈ wn, hasI ow x = true → hasI rn (cl : Int) = true) (HMM : ∀ (n k : Nat) (wn wk rn rk : List Int), n < 4 → k ≤ n → ws[n]? = some wn → ws[k]? = some wk → rs[n]? = some rn → rs[k]? = some rk → hasI rn (cl : Int) = true → hasI rk (cl : Int) = true → ow.foldl (mtStep wn wk) false = true) 
    (H : ∀ (e13 e14 e18 e19 e20 e21 e22 : E) (T : List (Nat × E)) (X : List (Nat × List V)), e13.Tame → e14.Tame → e18.Tame → e19.Tame → e20.Tame → e21.Tame → e22.Tame → lk X 11 = some (ws.map slc) → lk X 12 = some (rs.map slc) → evK gS fi6 c6_129 { ps := [(0, .val (.slice (intVs l1))), (1, .val (.slice (intVs l2))), (4, .val (.bool false)), (5, .val (.ptr id 0)), (6, .val (.slice (intVs p))), (7, .val (.slice (encSubs xs))), (8, .val (.slice (encGrps g))), (9, .val (.slice (encAtoms ch))), (10, .val (.ptr id2 0)), (11, .lp 11 0), (12, .lp 12 0), (13, e13), (14, e14), (15, .val (.int .i64 (cl : Nat))), (16, .val (.slice (intVs ow))), (17, .val (.int .i64 4)), (18, e18), (19, e19), (20, e20), (21, e21), (22, e22)], ts := T, lc := X } S (.loop c6_40 (.blk 2 (.seq c6_130 .nil))) = some R) :
    ∀ (m q : Nat) (e13 e14 e18 e19 e20 e21 e22 : E) (T : List (Nat × E)) (X : List (Nat × List V)) (h13 : e13.Tame) (h14 : e14.Tame) (h18 : e18.Tame) (h19 : e19.Tame) (h20 : e20.Tame) (h21 : e21.Tame) (h22 : e22.Tame) (x11 : lk X 11 = some (ws.map slc)) (x12 : lk X 12 = some (rs.map slc)), q ≤ 4 → 4 - q = m → 
    evK gS fi6 c6_53 { ps := [(0, .val (.slice (intVs l1))), (1, .val (.slice (intVs l2))), (4, .val (.bool false)), (5, .val (.ptr id 0)), (6, .val (.slice (intVs p))), (7, .val (.slice (encSubs xs))), (8, .val (.slice (encGrps g))), (9, .val (.slice (encAtoms ch))), (10, .val (.ptr id2 0)), (11, .lp 11 0), (12, .lp 12 0), (13, e13), (14, e14), (15, .val (.int .i64 (cl : Nat))), (16, .val (.slice (intVs ow))), (17, .val (.int .i64 (q : Nat))), (18, e18), (19, e19), (20, e20), (21, e21), (22, e22)], ts := T, lc := X } S (.blk 4 (.blk 3 (.seq c6_129 (.loop c6_40 (.blk 2 (.seq c6_130 .nil)))))) = some R := by
  intro m
  have hm : fi6.marks = [] := rfl
  have hl : fi6.locals = [11, 12] := rfl
  have hr : fi6.results = [.tmp 4] := rfl
  induction m with
  | zero =>
    intro q e13 e14 e18 e19 e20 e21 e22 T X h13 h14 h18 h19 h20 h21 h22 x11 x12 hq hm2 
    obtain rfl : q = 4 := by omega
    refine evK_loop c6_54 _ _ _ _ rfl ?_
    simp (config := { implicitDefEqProofs := false }) [-Int.natCast_add, -St.obj, -St.set, h13, h14, h18, h19, h20, h21, h22, x11, x12, -Int.not_le, -Int.not_lt, -Nat.not_le, -Nat.not_lt, ty3, ty4, ty22, ty23, ty25, ty26, ty32, ty42, ty53, ty64, hm, hl, hr, fi36_eq, fi53_eq, fi54_eq, fi59_eq, fi60_eq, fi64_eq, fi200_eq, fi219_eq, fi220_eq, fi221_eq, x32, fi222_eq, p32, k28, x28, fi224_eq, p28, E6, q6_118, e6_120, e6_127, e6_85, e6_128, e6_130, e6_35, n6_20, n6_68, n6_109, n6_88, n6_53, n6_39]
    exact H _ _ _ _ _ _ _ _ _ h13 h14 h18 h19 h20 h21 h22 x11 x12
  | succ m ih =>
    intro q e13 e14 e18 e19 e20 e21 e22 T X h13 h14 h18 h19 h20 h21 h22 x11 x12 hq hm2 
    obtain ⟨rq, hrq⟩ : ∃ r, rs[q]? = some r := ⟨rs[q]'(by omega), List.getElem?_eq_getElem (by omega)⟩
    obtain ⟨wq, hwq⟩ : ∃ r, ws[q]? = some r := ⟨ws[q]'(by omega), List.getElem?_eq_getElem (by omega)⟩
    have hw : IntKind.wrap .i64 ((q : Int) + 1) = ((q + 1 : Nat) : Int) := by rw [wrap64 (by omega) (by omega)]; omega
    have q4 : (q : Int) < 4 := by omega
    have hq4 : q < 4 := by omega
    have hq00 : (0 : Int) ≤ (q : Int) := by omega
    have c_hrq : (rs.map slc)[q]? = some (.slice (intVs rq)) := by rw [List.getElem?_map, hrq]; rfl
    have hrr := hrl rq (List.mem_of_getElem? hrq)
    have kk := fun fr st => k32 rq (cl : Int) (by omega) fr st
    have IH := fun e13 e14 e18 e19 e20 e21 e22 T X h13 h14 h18 h19 h20 h21 h22 x11 x12 => ih (q + 1) e13 e14 e18 e19 e20 e21 e22 T X h13 h14 h18 h19 h20 h21 h22 x11 x12 (by omega) (by omega)
    have H128 : ∀ (e13 e14 e18 e19 e20 e21 e22 : E) (T : List (Nat × E)) (X : List (Nat × List V)), e13.Tame → e14.Tame → e18.Tame → e19.Tame → e20.Tame → e21.Tame → e22.Tame → lk X 11 = some (ws.map slc) → lk X 12 = some (rs.map slc) → evK gS fi6 c6_128 { ps := [(0, .val (.slice (intVs l1))), (1, .val (.slice (intVs l2))), (4, .val (.bool false)), (5, .val (.ptr id 0)), (6, .val (.slice (intVs p))), (7, .val (.slice (encSubs xs))), (8, .val (.slice (encGrps g))), (9, .val (.slice (encAtoms ch))), (10, .val (.ptr id2 0)), (11, .lp 11 0), (12, .lp 12 0), (13, e13), (14, e14), (15, .val (.int .i64 (cl : Nat))), (16, .val (.slice (intVs ow))), (17, .val (.int .i64 (q : Nat))), (18, e18), (19, e19), (20, e20), (21, e21), (22, e22)], ts := T, lc := X } S (.loop c6_54 (.blk 4 (.blk 3 (.seq c6_129 (.loop c6_40 (.blk 2 (.seq c6_130 .nil))))))) = some R := by
      intro e13 e14 e18 e19 e20 e21 e22 T X h13 h14 h18 h19 h20 h21 h22 x11 x12
      simp (config := { implicitDefEqProofs := false }) [-Int.natCast_add, h13, h14, h18, h19, h20, h21, h22, x11, x12, hw, -Int.not_le, -Int.not_lt, -Nat.not_le, -Nat.not_lt, ty3, ty4, ty22, ty23, ty25, ty26, ty32, ty42, ty53, ty64, hm, hl, hr, fi36_eq, fi53_eq, fi54_eq, fi59_eq, fi60_eq, fi64_eq, fi200_eq, fi219_eq, fi220_eq, fi221_eq, x32, fi222_eq, p32, k28, x28, fi224_eq, p28, E6, q6_118, e6_120, e6_127, e6_85, e6_128, e6_129, e6_130, e6_35, n6_20, n6_68, n6_109, n6_88, n6_53, n6_39]
      exact IH _ _ _ _ _ _ _ _ _ h13 h14 h18 h19 h20 h21 h22 x11 x12
    have H128T : ∀ (e13 e14 e19 e21 e22 : E) (T : List (Nat × E)) (X : List (Nat × List V)), e13.Tame → e14.Tame → e19.Tame → e21.Tame → e22.Tame → lk X 11 = some (ws.map slc) → lk X 12 = some (rs.map slc) →  evK gS fi6 c6_128 { ps := [(0, .val (.slice (intVs l1))), (1, .val (.slice (intVs l2))), (4, .val (.bool false)), (5, .val (.ptr id 0)), (6, .val (.slice (intVs p))), (7, .val (.slice (encSubs xs))), (8, .val (.slice (encGrps g))), (9, .val (.slice (encAtoms ch))), (10, .val (.ptr id2 0)), (11, .lp 11 0), (12, .lp 12 0), (13, e13), (14, e14), (15, .val (.int .i64 (cl : Nat))), (16, .val (.slice (intVs ow))), (17, .val (.int .i64 (q : Nat))), (18, .val (.bool true)), (19, e19), (20, .val (.int .i64 (q + 1 : Nat))), (21, e21), (22, e22)], ts := T, lc := X } S (.loop c6_54 (.blk 4 (.blk 3 (.seq c6_129 (.loop c6_40 (.blk 2 (.seq c6_130 .nil))))))) = some R := by
      intro e13 e14 e19 e21 e22 T X h13 h14 h19 h21 h22 x11 x12
      exact H128 _ _ _ _ _ _ _ _ _ h13 h14 (tame_val _) h19 (tame_val _) h21 h22 x11 x12
    cases hc2 : hasI rq (cl : Int) with
    | true =>
      have LLK := fun e13 e14 e19 e21 e22 T X h13 h14 h19 h21 h22 x11 x12 => LK l1 l2 id id2 p xs g hg1 hg2 ch hcl ws rs hw4 hr4 hwl hrl S R ow how cl q (by omega) wq hwq (fun k wk rk hk h1 h2 h3 => HMM q k wq wk rq rk hq4 hk hwq h1 hrq h2 hc2 h3) H128T (q + 1) 0  e13 e14 e19 e21 e22 T X h13 h14 h19 h21 h22 x11 x12 (Nat.zero_le _) rfl 
      rw [show ((0 : Nat) : Int) = 0 from rfl] at LLK
      have H85 : ∀ (e13 e14 e20 e21 e22 : E) (T : List (Nat × E)) (X : List (Nat × List V)), e13.Tame → e14.Tame → e20.Tame → e21.Tame → e22.Tame → lk X 11 = some (ws.map slc) → lk X 12 = some (rs.map slc) → evK gS fi6 c6_85 { ps := [(0, .val (.slice (intVs l1))), (1, .val (.slice (intVs l2))), (4, .val (.bool false)), (5, .val (.ptr id 0)), (6, .val (.slice (intVs p))), (7, .val (.slice (encSubs xs))), (8, .val (.slice (encGrps g))), (9, .val (.slice (encAtoms ch))), (10, .val (.ptr id2 0)), (11, .lp 11 0), (12, .lp 12 0), (13, e13), (14, e14), (15, .val (.int .i64 (cl : Nat))), (16, .val (.slice (intVs ow))), (17, .val (.int .i64 (q : Nat))), (18, .val (.bool true)), (19, .val (.int .i64 (wq.length : Nat))), (20, e20), (21, e21), (22, e22)], ts := T, lc := X } S (.blk 5 (.seq c6_128 (.loop c6_54 (.blk 4 (.blk 3 (.seq c6_129 (.loop c6_40 (.blk 2 (.seq c6_130 .nil))))))))) = some R := by
        intro e13 e14 e20 e21 e22 T X h13 h14 h20 h21 h22 x11 x12
        simp (config := { implicitDefEqProofs := false }) [-Int.natCast_add, h13, h14, h20, h21, h22, x11, x12, -Int.not_le, -Int.not_lt, -Nat.not_le, -Nat.not_lt, ty3, ty4, ty22, ty23, ty25, ty26, ty32, ty42, ty53, ty64, hm, hl, hr, fi36_eq, fi53_eq, fi54_eq, fi59_eq, fi60_eq, fi64_eq, fi200_eq, fi219_eq, fi220_eq, fi221_eq, x32, fi222_eq, p32, k28, x28, fi224_eq, p28, E6, q6_118, e6_120, e6_127, e6_85, e6_128, e6_129, e6_130, e6_35, n6_20, n6_68, n6_109, n6_88, n6_53, n6_39]
        exact LLK _ _ _ _ _ _ _ h13 h14 (tame_val _) h21 h22 x11 x12
      have LLW := fun e13 e14 e20 e21 e22 T X h13 h14 h20 h21 h22 x11 x12 => LWA l1 l2 id id2 p xs g hg1 hg2 ch hcl ws rs hw4 hr4 hwl hrl S R ow how cl q (by omega) wq hwq true (fun x h1 h2 => rfl) H85 wq.length 0  e13 e14 e20 e21 e22 T X h13 h14 h20 h21 h22 x11 x12 (Nat.zero_le _) rfl 
      rw [show ((0 : Nat) : Int) = 0 from rfl] at LLW
      rw [hc2] at kk
      generalize rs.map slc = RC at *
      generalize ws.map slc = WC at *
      refine evK_loop c6_54 _ _ _ _ rfl ?_
      simp (config := { implicitDefEqProofs := false }) [-Int.natCast_add, h13, h14, h18, h19, h20, h21, h22, x11, x12, q4, hq4, c_hrq, kk, -Int.not_le, -Int.not_lt, -Nat.not_le, -Nat.not_lt, ty3, ty4, ty22, ty23, ty25, ty26, ty32, ty42, ty53, ty64, hm, hl, hr, fi36_eq, fi53_eq, fi54_eq, fi59_eq, fi60_eq, fi64_eq, fi200_eq, fi219_eq, fi220_eq, fi221_eq, x32, fi222_eq, p32, k28, x28, fi224_eq, p28, E6, q6_118, e6_120, e6_127, e6_128, e6_129, e6_130, e6_35, n6_20, n6_68, n6_109, n6_88, n6_53, n6_39]
      exact LLW _ _ _ _ _ _ _ h13 h14 h20 h21 h22 x11 x12
    | false =>
      have H85 : ∀ (e13 e14 e20 e21 e22 : E) (T : List (Nat × E)) (X : List (Nat × List V)), e13.Tame → e14.Tame → e20.Tame → e21.Tame → e22.Tame → lk X 11 = some (ws.map slc) → lk X 12 = some (rs.map slc) → evK gS fi6 c6_85 { ps := [(0, .val (.slice (intVs l1))), (1, .val (.slice (intVs l2))), (4, .val (.bool false)), (5, .val (.ptr id 0)), (6, .val (.slice (intVs p))), (7, .val (.slice (encSubs xs))), (8, .val (.slice (encGrps g))), (9, .val (.slice (encAtoms ch))), (10, .val (.ptr id2 0)), (11, .lp 11 0), (12, .lp 12 0), (13, e13), (14, e14), (15, .val (.int .i64 (cl : Nat))), (16, .val (.slice (intVs ow))), (17, .val (.int .i64 (q : Nat))), (18, .val (.bool false)), (19, .val (.int .i64 (wq.length : Nat))), (20, e20), (21, e21), (22, e22)], ts := T, lc := X } S (.blk 5 (.seq c6_128 (.loop c6_54 (.blk 4 (.blk 3 (.seq c6_129 (.loop c6_40 (.blk 2 (.seq c6_130 .nil))))))))) = some R := by
        intro e13 e14 e20 e21 e22 T X h13 h14 h20 h21 h22 x11 x12
        simp (config := { implicitDefEqProofs := false }) [-Int.natCast_add, h13, h14, h20, h21, h22, x11, x12, -Int.not_le, -Int.not_lt, -Nat.not_le, -Nat.not_lt, ty3, ty4, ty22, ty23, ty25, ty26, ty32, ty42, ty53, ty64, hm, hl, hr, fi36_eq, fi53_eq, fi54_eq, fi59_eq, fi60_eq, fi64_eq, fi200_eq, fi219_eq, fi220_eq, fi221_eq, x32, fi222_eq, p32, k28, x28, fi224_eq, p28, E6, q6_118, e6_120, e6_127, e6_85, e6_128, e6_129, e6_130, e6_35, n6_20, n6_68, n6_109, n6_88, n6_53, n6_39]
        refine evK_loop c6_89 _ _ _ _ rfl ?_
        simp (config := { implicitDefEqProofs := false }) [-Int.natCast_add, h13, h14, h20, h21, h22, x11, x12, hq00, -Int.not_le, -Int.not_lt, -Nat.not_le, -Nat.not_lt, ty3, ty4, ty22, ty23, ty25, ty26, ty32, ty42, ty53, ty64, hm, hl, hr, fi36_eq, fi53_eq, fi54_eq, fi59_eq, fi60_eq, fi64_eq, fi200_eq, fi219_eq, fi220_eq, fi221_eq, x32, fi222_eq, p32, k28, x28, fi224_eq, p28, E6, q6_118, e6_120, e6_127, e6_85, e6_129, e6_130, e6_35, n6_20, n6_68, n6_109, n6_88, n6_53, n6_39]
        exact H128 _ _ _ _ _ _ _ _ _ h13 h14 (tame_val _) (tame_val _) (tame_val _) h21 h22 x11 x12
      have LLW := fun e13 e14 e20 e21 e22 T X h13 h14 h20 h21 h22 x11 x12 => LWA l1 l2 id id2 p xs g hg1 hg2 ch hcl ws rs hw4 hr4 hwl hrl S R ow how cl q (by omega) wq hwq false (fun x h1 h2 => absurd (HW q wq rq hq4 hwq hrq x h1 h2) (by rw [hc2]; simp)) H85 wq.length 0  e13 e14 e20 e21 e22 T X h13 h14 h20 h21 h22 x11 x12 (Nat.zero_le _) rfl 
      rw [show ((0 : Nat) : Int) = 0 from rfl] at LLW
      rw [hc2] at kk
      generalize rs.map slc = RC at *
      generalize ws.map slc = WC at *
      refine evK_loop c6_54 _ _ _ _ rfl ?_
      simp (config := { implicitDefEqProofs := false }) [-Int.natCast_add, h13, h14, h18, h19, h20, h21, h22, x11, x12, q4, hq4, c_hrq, kk, -Int.not_le, -Int.not_lt, -Nat.not_le, -Nat.not_lt, ty3, ty4, ty22, ty23, ty25, ty26, ty32, ty42, ty53, ty64, hm, hl, hr, fi36_eq, fi53_eq, fi54_eq, fi59_eq, fi60_eq, fi64_eq, fi200_eq, fi219_eq, fi220_eq, fi221_eq, x32, fi222_eq, p32, k28, x28, fi224_eq, p28, E6, q6_118, e6_120, e6_127, e6_128, e6_129, e6_130, e6_35, n6_20, n6_68, n6_109, n6_88, n6_53, n6_39]
      exact LLW _ _ _ _ _ _ _ h13 h14 h20 h21 h22 x11 x12
set_option maxHeartbeats 8000000 in
theorem LCL (l1 l2 : List Int) (id id2 : Nat) (p : List Int) (xs : List Sub) (g : List Grp) (hg1 : ∀ x ∈ g, POk x.filter ∧ x.clients.length < 1000) (hg2 : g.length ≤ 18) (ch : List Atom) (hcl : ch.length ≤ 324) (ws rs : List (List Int)) (hw4 : ws.length = 4) (hr4 : rs.length = 4) (hwl : ∀ w ∈ ws, w.length < 100000) (hrl : ∀ w ∈ rs, w.length < 100000) (S : St) (R : Out × St) (HWC : ∀ (cl : Nat) (n : Nat) (wn rn : List Int), n < 4 → ws[n]? = some wn → rs[n]? = some rn → ∀ x ∈ wn, hasI (ownA ch (gmine g (cl : Int))) x = true → hasI rn (cl : Int) = true) (HMC : ∀ (cl n k : Nat) (wn wk rn rk : List Int), n < 4 → k ≤ n → ws[n]? = some wn → ws[k]? = some wk → rs[n]? = some rn → rs[k]? = some rk → hasI rn (cl : Int) = true → hasI rk (cl : Int) = true → (ownA ch (gmine g (cl : Int))).foldl (mtStep wn wk) false = true) 
    (H : ∀ (e13 e14 e16 e17 e18 e19 e20 e21 e22 : E) (T : List (Nat × E)) (X : List (Nat × List V)), e13.Tame → e14.Tame → e16.Tame → e17.Tame → e18.Tame → e19.Tame → e20.Tame → e21.Tame → e22.Tame → lk X 11 = some (ws.map slc) → lk X 12 = some (rs.map slc) → evK gS fi6 c6_130 { ps := [(0, .val (.slice (intVs l1))), (1, .val (.slice (intVs l2))), (4, .val (.bool false)), (5, .val (.ptr id 0)), (6, .val (.slice (intVs p))), (7, .val (.slice (encSubs xs))), (8, .val (.slice (encGrps g))), (9, .val (.slice (encAtoms ch))), (10, .val (.ptr id2 0)), (11, .lp 11 0), (12, .lp 12 0), (13, e13), (14, e14), (15, .val (.int .i64 7)), (16, e16), (17, e17), (18, e18), (19, e19), (20, e20), (21, e21), (22, e22)], ts := T, lc := X } S .nil = some R) :
    ∀ (m q : Nat) (e13 e14 e16 e17 e18 e19 e20 e21 e22 : E) (T : List (Nat × E)) (X : List (Nat × List V)) (h13 : e13.Tame) (h14 : e14.Tame) (h16 : e16.Tame) (h17 : e17.Tame) (h18 : e18.Tame) (h19 : e19.Tame) (h20 : e20.Tame) (h21 : e21.Tame) (h22 : e22.Tame) (x11 : lk X 11 = some (ws.map slc)) (x12 : lk X 12 = some (rs.map slc)), q ≤ 7 → 7 - q = m → 
    evK gS fi6 c6_39 { ps := [(0, .val (.slice (intVs l1))), (1, .val (.slice (intVs l2))), (4, .val (.bool false)), (5, .val (.ptr id 0)), (6, .val (.slice (intVs p))), (7, .val (.slice (encSubs xs))), (8, .val (.slice (encGrps g))), (9, .val (.slice (encAtoms ch))), (10, .val (.ptr id2 0)), (11, .lp 11 0), (12, .lp 12 0), (13, e13), (14, e14), (15, .val (.int .i64 (q : Nat))), (16, e16), (17, e17), (18, e18), (19, e19), (20, e20), (21, e21), (22, e22)], ts := T, lc := X } S (.blk 2 (.seq c6_130 .nil)) = some R := by
  intro m
  have hm : fi6.marks = [] := rfl
  have hl : fi6.locals = [11, 12] := rfl
  have hr : fi6.results = [.tmp 4] := rfl
  induction m with
  | zero =>
    intro q e13 e14 e16 e17 e18 e19 e20 e21 e22 T X h13 h14 h16 h17 h18 h19 h20 h21 h22 x11 x12 hq hm2 
    obtain rfl : q = 7 := by omega
    refine evK_loop c6_40 _ _ _ _ rfl ?_
    simp (config := { implicitDefEqProofs := false }) [-Int.natCast_add, -St.obj, -St.set, h13, h14, h16, h17, h18, h19, h20, h21, h22, x11, x12, -Int.not_le, -Int.not_lt, -Nat.not_le, -Nat.not_lt, ty3, ty4, ty22, ty23, ty25, ty26, ty32, ty42, ty53, ty64, hm, hl, hr, fi36_eq, fi53_eq, fi54_eq, fi59_eq, fi60_eq, fi64_eq, fi200_eq, fi219_eq, fi220_eq, fi221_eq, x32, fi222_eq, p32, k28, x28, fi224_eq, p28, E6, q6_118, e6_120, e6_127, e6_85, e6_128, e6_129, e6_35, n6_20, n6_68, n6_109, n6_88, n6_53, n6_39]
    exact H _ _ _ _ _ _ _ _ _ _ _ h13 h14 h16 h17 h18 h19 h20 h21 h22 x11 x12
  | succ m ih =>
    intro q e13 e14 e16 e17 e18 e19 e20 e21 e22 T X h13 h14 h16 h17 h18 h19 h20 h21 h22 x11 x12 hq hm2 
    have hw : IntKind.wrap .i64 ((q : Int) + 1) = ((q + 1 : Nat) : Int) := by rw [wrap64 (by omega) (by omega)]; omega
    have q6 : (q : Int) ≤ 6 := by omega
    have q6' : q ≤ 6 := by omega
    have km := fun fr st => k24 g hg1 (by omega) (q : Int) fr st
    have hml : (gmine g (q : Int)).length ≤ 18 := by
      have := mineG_len (q : Int) g 0 []
      unfold gmine; simp at this; omega
    have ko := fun fr st => k31 ch (gmine g (q : Int)) (by omega) (by omega) fr st
    have hol : (ownA ch (gmine g (q : Int))).length ≤ ch.length := wayG_le _ _
    have HW1 := HWC q
    have HM1 := HMC q
    generalize ownA ch (gmine g (q : Int)) = ow at *
    have IH := fun e13 e14 e16 e17 e18 e19 e20 e21 e22 T X h13 h14 h16 h17 h18 h19 h20 h21 h22 x11 x12 => ih (q + 1) e13 e14 e16 e17 e18 e19 e20 e21 e22 T X h13 h14 h16 h17 h18 h19 h20 h21 h22 x11 x12 (by omega) (by omega)
    have H129 : ∀ (e13 e14 e18 e19 e20 e21 e22 : E) (T : List (Nat × E)) (X : List (Nat × List V)), e13.Tame → e14.Tame → e18.Tame → e19.Tame → e20.Tame → e21.Tame → e22.Tame → lk X 11 = some (ws.map slc) → lk X 12 = some (rs.map slc) → evK gS fi6 c6_129 { ps := [(0, .val (.slice (intVs l1))), (1, .val (.slice (intVs l2))), (4, .val (.bool false)), (5, .val (.ptr id 0)), (6, .val (.slice (intVs p))), (7, .val (.slice (encSubs xs))), (8, .val (.slice (encGrps g))), (9, .val (.slice (encAtoms ch))), (10, .val (.ptr id2 0)), (11, .lp 11 0), (12, .lp 12 0), (13, e13), (14, e14), (15, .val (.int .i64 (q : Nat))), (16, .val (.slice (intVs ow))), (17, .val (.int .i64 (4 : Nat))), (18, e18), (19, e19), (20, e20), (21, e21), (22, e22)], ts := T, lc := X } S (.loop c6_40 (.blk 2 (.seq c6_130 .nil))) = some R := by
      intro e13 e14 e18 e19 e20 e21 e22 T X h13 h14 h18 h19 h20 h21 h22 x11 x12
      simp (config := { implicitDefEqProofs := false }) [-Int.natCast_add, h13, h14, h18, h19, h20, h21, h22, x11, x12, hw, -Int.not_le, -Int.not_lt, -Nat.not_le, -Nat.not_lt, ty3, ty4, ty22, ty23, ty25, ty26, ty32, ty42, ty53, ty64, hm, hl, hr, fi36_eq, fi53_eq, fi54_eq, fi59_eq, fi60_eq, fi64_eq, fi200_eq, fi219_eq, fi220_eq, fi221_eq, x32, fi222_eq, p32, k28, x28, fi224_eq, p28, E6, q6_118, e6_120, e6_127, e6_85, e6_128, e6_129, e6_130, e6_35, n6_20, n6_68, n6_109, n6_88, n6_53, n6_39]
      exact IH _ _ _ _ _ _ _ _ _ _ _ h13 h14 (tame_val _) (tame_val _) h18 h19 h20 h21 h22 x11 x12
    have LLN := fun e13 e14 e18 e19 e20 e21 e22 T X h13 h14 h18 h19 h20 h21 h22 x11 x12 => LN l1 l2 id id2 p xs g hg1 hg2 ch hcl ws rs hw4 hr4 hwl hrl S R ow (by omega) q HW1 HM1 H129 4 0  e13 e14 e18 e19 e20 e21 e22 T X h13 h14 h18 h19 h20 h21 h22 x11 x12 (Nat.zero_le _) rfl 
    rw [show ((0 : Nat) : Int) = 0 from rfl] at LLN
    refine evK_loop c6_40 _ _ _ _ rfl ?_
    simp (config := { implicitDefEqProofs := false }) [-Int.natCast_add, h13, h14, h16, h17, h18, h19, h20, h21, h22, x11, x12, q6, q6', km, ko, -Int.not_le, -Int.not_lt, -Nat.not_le, -Nat.not_lt, ty3, ty4, ty22, ty23, ty25, ty26, ty32, ty42, ty53, ty64, hm, hl, hr, fi36_eq, fi53_eq, fi54_eq, fi59_eq, fi60_eq, fi64_eq, fi200_eq, fi219_eq, fi220_eq, fi221_eq, x32, fi222_eq, p32, k28, x28, fi224_eq, p28, E6, q6_118, e6_120, e6_127, e6_85, e6_128, e6_129, e6_130, e6_35, n6_20, n6_68, n6_109, n6_88, n6_53, n6_39]
    exact LLN _ _ _ _ _ _ _ _ _ h13 h14 h18 h19 h20 h21 h22 x11 x12
set_option maxHeartbeats 8000000 in
theorem LF4 (l1 l2 : List Int) (id id2 : Nat) (p : List Int) (xs : List Sub) (g : List Grp) (hg1 : ∀ x ∈ g, POk x.filter ∧ x.clients.length < 1000) (hg2 : g.length ≤ 18) (ch : List Atom) (hcl : ch.length ≤ 324) (S : St) (hf2 : FeedOk S id2) (R : Out × St)
    (H : ∀ (e14 e15 e16 e17 e18 e19 e20 e21 e22 : E) (T : List (Nat × E)) (X : List (Nat × List V)), e14.Tame → e15.Tame → e16.Tame → e17.Tame → e18.Tame → e19.Tame → e20.Tame → e21.Tame → e22.Tame → lk X 11 = some ((fourW l2 g ch).map slc) → lk X 12 = some ((fourR l2 g).map slc) → evK gS fi6 c6_35 { ps := [(0, .val (.slice (intVs l1))), (1, .val (.slice (intVs l2))), (4, .val (.bool false)), (5, .val (.ptr id 0)), (6, .val (.slice (intVs p))), (7, .val (.slice (encSubs xs))), (8, .val (.slice (encGrps g))), (9, .val (.slice (encAtoms ch))), (10, .val (.ptr id2 0)), (11, .lp 11 0), (12, .lp 12 0), (13, .val (.int .i64 (4 : Nat))), (14, e14), (15, e15), (16, e16), (17, e17), (18, e18), (19, e19), (20, e20), (21, e21), (22, e22)], ts := T, lc := X } (setF S id2 l2 (nA l2 0 (aJ l2 4))) .nil = some R) :
    ∀ (m q : Nat) (e14 e15 e16 e17 e18 e19 e20 e21 e22 : E) (T : List (Nat × E)) (X : List (Nat × List V)) (h14 : e14.Tame) (h15 : e15.Tame) (h16 : e16.Tame) (h17 : e17.Tame) (h18 : e18.Tame) (h19 : e19.Tame) (h20 : e20.Tame) (h21 : e21.Tame) (h22 : e22.Tame) (x11 : lk X 11 = some (partC (fourW l2 g ch) q)) (x12 : lk X 12 = some (partC (fourR l2 g) q)), q ≤ 4 → 4 - q = m →
    evK gS fi6 c6_20 { ps := [(0, .val (.slice (intVs l1))), (1, .val (.slice (intVs l2))), (4, .val (.bool false)), (5, .val (.ptr id 0)), (6, .val (.slice (intVs p))), (7, .val (.slice (encSubs xs))), (8, .val (.slice (encGrps g))), (9, .val (.slice (encAtoms ch))), (10, .val (.ptr id2 0)), (11, .lp 11 0), (12, .lp 12 0), (13, .val (.int .i64 (q : Nat))), (14, e14), (15, e15), (16, e16), (17, e17), (18, e18), (19, e19), (20, e20), (21, e21), (22, e22)], ts := T, lc := X } (setF S id2 l2 (nA l2 0 (aJ l2 q))) (.blk 0 (.seq c6_35 .nil)) = some R := by
  intro m
  have hm : fi6.marks = [] := rfl
  have hl : fi6.locals = [11, 12] := rfl
  have hr : fi6.results = [.tmp 4] := rfl
  have l4 : (fourW l2 g ch).length = 4 := by simp [fourW]
  have r4 : (fourR l2 g).length = 4 := by simp [fourR]
  induction m with
  | zero =>
    intro q e14 e15 e16 e17 e18 e19 e20 e21 e22 T X h14 h15 h16 h17 h18 h19 h20 h21 h22 x11 x12 hq hm2
    obtain rfl : q = 4 := by omega
    rw [partC_four l4] at x11
    rw [partC_four r4] at x12
    refine evK_loop c6_21 _ _ _ _ rfl ?_
    simp (config := { implicitDefEqProofs := false }) [-Int.natCast_add, -St.obj, -St.set, h14, h15, h16, h17, h18, h19, h20, h21, h22, -Int.not_le, -Int.not_lt, -Nat.not_le, -Nat.not_lt, ty3, ty4, ty22, ty23, ty25, ty26, ty32, ty42, ty53, ty64, hm, hl, hr, fi36_eq, fi53_eq, fi54_eq, fi59_eq, fi60_eq, fi64_eq, fi200_eq, fi219_eq, fi220_eq, fi221_eq, x32, fi222_eq, p32, k28, x28, fi224_eq, p28, E6, q6_118, e6_120, e6_127, e6_85, e6_128, e6_129, e6_130, n6_20, n6_68, n6_109, n6_88, n6_53, n6_39]
    exact H _ _ _ _ _ _ _ _ _ _ _ h14 h15 h16 h17 h18 h19 h20 h21 h22 x11 x12
  | succ m ih =>
    intro q e14 e15 e16 e17 e18 e19 e20 e21 e22 T X h14 h15 h16 h17 h18 h19 h20 h21 h22 x11 x12 hq hm2
    have hw : IntKind.wrap .i64 ((q : Int) + 1) = ((q + 1 : Nat) : Int) := by rw [wrap64 (by omega) (by omega)]; omega
    have q4 : (q : Int) < 4 := by omega
    have q4' : q < 4 := by omega
    have haj := aJ_le l2 q
    have ka := fun fr => k17 l2 0 (aJ l2 q) id2 fr S hf2 (by omega) (by omega)
    have hal := attrsV_len l2 0 (aJ l2 q)
    rw [show (attrsV l2 0 (aJ l2 q)).2 = aJ l2 (q + 1) from rfl] at ka
    have cw : (fourW l2 g ch)[q]? = some (wayA ch (gmatch g (attrsV l2 0 (aJ l2 q)).1)) := by simp [fourW, q4']
    have cr : (fourR l2 g)[q]? = some (greaders g (gmatch g (attrsV l2 0 (aJ l2 q)).1)) := by simp [fourR, q4']
    have sw := partC_splice l4 cw
    have sr := partC_splice r4 cr
    have lw := partC_len l4 (q := q) (by omega)
    have lr := partC_len r4 (q := q) (by omega)
    generalize (attrsV l2 0 (aJ l2 q)).1 = A at *
    have km := fun fr st => k19 g hg1 (by omega) A (by omega) fr st
    have hml : (gmatch g A).length ≤ g.length := by
      have := matchG_len A g 0 []
      unfold gmatch; simpa using this
    have kw := fun fr st => k30 ch (gmatch g A) (by omega) (by omega) fr st
    have kr := fun fr st => k20 g (fun x hx => (hg1 x hx).2) (by omega) (gmatch g A) (by omega) fr st
    generalize gmatch g A = ms at *
    generalize wayA ch ms = W1 at *
    generalize greaders g ms = W2 at *
    have IH := fun e14 e15 e16 e17 e18 e19 e20 e21 e22 T X h14 h15 h16 h17 h18 h19 h20 h21 h22 x11 x12 => ih (q + 1) e14 e15 e16 e17 e18 e19 e20 e21 e22 T X h14 h15 h16 h17 h18 h19 h20 h21 h22 x11 x12 (by omega) (by omega)
    generalize aJ l2 (q + 1) = J1 at *
    generalize hC1 : partC (fourW l2 g ch) (q + 1) = C1 at *
    generalize hC2 : partC (fourR l2 g) (q + 1) = C2 at *
    generalize partC (fourW l2 g ch) q = C3 at *
    generalize partC (fourR l2 g) q = C4 at *
    have y12 : lk (lset X 11 C1) 12 = some C4 := by rw [lk_lset_other2 _ (by omega)]; exact x12
    have y11 : lk (lset X 11 C1) 11 = some C1 := lk_lset_self _ _ _ _ x11
    refine evK_loop c6_21 _ _ _ _ rfl ?_
    simp [-splice, -Int.natCast_add, -St.obj, -St.set, h14, h15, h16, h17, h18, h19, h20, h21, h22, x11, x12, y11, y12, hw, q4, q4', ka, km, kw, kr, sw, sr, lw, lr, -Int.not_le, -Int.not_lt, -Nat.not_le, -Nat.not_lt, ty3, ty4, ty22, ty23, ty25, ty26, ty32, ty42, ty53, ty64, hm, hl, hr, fi36_eq, fi53_eq, fi54_eq, fi59_eq, fi60_eq, fi64_eq, fi200_eq, fi219_eq, fi220_eq, fi221_eq, x32, fi222_eq, p32, k28, x28, fi224_eq, p28, E6, q6_118, e6_120, e6_127, e6_85, e6_128, e6_129, e6_130, e6_35, n6_20, n6_68, n6_109, n6_88, n6_53, n6_39]
    refine IH _ _ _ _ _ _ _ _ _ _ _ ?_ h15 h16 h17 h18 h19 h20 h21 h22 ?_ ?_
    · simp
    · rw [lk_lset_other2 _ (by omega)]; exact y11
    · exact lk_lset_self _ _ _ _ y12
set_option maxHeartbeats 8000000 in
theorem c6 (l1 : List Int) (l2 : List Int) (st0 : St) (hst : st0.wp ≤ st0.objs.length) : ∃ st', EvF gS 6 [.slice (intVs l1), .slice (intVs l2)] st0 = some (.ret (.bool true) none, st') := by
  have hm : fi6.marks = [] := rfl
  have hl : fi6.locals = [11, 12] := rfl
  have hr : fi6.results = [.tmp 4] := rfl
  have hf := feedOk_new hst
  have n1 := new_feed st0 l1
  obtain ⟨id, hid⟩ : ∃ id, st0.objs.length = id := ⟨_, rfl⟩
  rw [hid] at hf n1
  have k1 := fun fr => k26 l1 0 0 id 8 fr (nw st0 0 []) hf (by omega) (by omega) (by omega) (by omega)
  have hpr := treeV_right l1 0 0 (most := 8) (by omega) (by omega)
  have hj := fd_bound l1 0 0 (n := 8) (by omega)
  generalize treeV l1 0 0 8 = p at *
  generalize hJ : 0 + 1 + (fd l1 0 0 8).toNat = J at *
  have hJb : J ≤ 9 := by omega
  have hp7 : p.length ≤ 7 := by simp only [rightT, Bool.and_eq_true, decide_eq_true_eq] at hpr; omega
  have k2 := fun fr => k10 l1 0 J id fr (nw st0 0 []) hf (by omega) (by omega) p (by omega)
  have hall := subsV_all l1 0 J p.length
  have hlen := (subsV_asks l1 0 J p.length).2
  have hrs := subsV_right l1 0 J p.length hp7
  generalize subsV l1 0 J p.length = P1 at *
  obtain ⟨xs, J2, D⟩ := P1
  simp only at k2 hall hlen hrs
  have hx1 : ∀ s ∈ xs, PSm s.filter := fun s hs => psm_ffv (hall s hs).2.2
  have k3 := fun fr st => k12 xs hx1 (by omega) fr st
  have k4 := fun fr st => k27 p (by omega) xs hx1 (by omega) fr st
  generalize hS0 : setF (dd (nw st0 0 []) D) id l1 (nA l1 0 J2) = S at k2
  have hce := chainOf_eq hpr hrs.1 hrs.2
  have hgl := gof_len xs
  have hgc : ∀ x ∈ gof xs, x.clients ≠ [] := fun x hx => gof_clients hx
  have hg1 : ∀ x ∈ gof xs, x.clients.length < 1000 := fun x hx => by
    obtain ⟨k, s, h1, h2, rfl⟩ := gof_mem.1 hx
    have := cliOf_len xs s; show (cliOf xs s).length < 1000; omega
  have hcl := ofA_len p (homesT p xs).1 (gof xs) (by omega)
  rw [hce] at k4
  have hSw : S.wp ≤ S.objs.length := by
    rw [← hS0, setF_wp, setF_len, dd_wp, dd_len, gr_wp, gr_len]; omega
  clear hS0
  have n2 := new_feed S l2
  have hf2 := feedOk_new hSw
  obtain ⟨id2, hid2⟩ : ∃ id2, S.objs.length = id2 := ⟨_, rfl⟩
  rw [hid2] at n2 hf2
  have hg1 : ∀ x ∈ gof xs, POk x.filter ∧ x.clients.length < 1000 := fun x hx => ⟨by
    obtain ⟨k, s, h1, h2, rfl⟩ := gof_mem.1 hx
    exact (hx1 s (List.mem_of_getElem? h1)).ok, hg1 x hx⟩
  generalize (homesT p xs).1 = hh at *
  generalize gof xs = g at *
  have hg2 : g.length ≤ 18 := by omega
  have HWC : ∀ (cl : Nat) (n : Nat) (wn rn : List Int), n < 4 → (fourW l2 g (ofA p hh g g.length 0 []))[n]? = some wn → (fourR l2 g)[n]? = some rn → ∀ x ∈ wn, hasI (ownA (ofA p hh g g.length 0 []) (gmine g (cl : Int))) x = true → hasI rn (cl : Int) = true := by
    intro cl n wn rn hn h1 h2 x hx hxo
    simp [fourW, hn] at h1
    simp [fourR, hn] at h2
    subst h1
    subst h2
    exact hasI_iff.2 (own_reads gmatch_range hx (hasI_iff.1 hxo))
  have HMC : ∀ (cl n k : Nat) (wn wk rn rk : List Int), n < 4 → k ≤ n → (fourW l2 g (ofA p hh g g.length 0 []))[n]? = some wn → (fourW l2 g (ofA p hh g g.length 0 []))[k]? = some wk → (fourR l2 g)[n]? = some rn → (fourR l2 g)[k]? = some rk → hasI rn (cl : Int) = true → hasI rk (cl : Int) = true → (ownA (ofA p hh g g.length 0 []) (gmine g (cl : Int))).foldl (mtStep wn wk) false = true := by
    intro cl n k wn wk rn rk hn hk h1 h2 h3 h4 h5 h6
    have hk4 : k < 4 := by omega
    simp [fourW, hn] at h1
    simp [fourW, hk4] at h2
    simp [fourR, hn] at h3
    simp [fourR, hk4] at h4
    subst h1
    subst h2
    subst h3
    subst h4
    exact meet_any gmatch_range gmatch_range (hasI_iff.1 h5) (hasI_iff.1 h6)
  generalize ofA p hh g g.length 0 [] = ch at *
  have hw4 : (fourW l2 g ch).length = 4 := by simp [fourW]
  have hr4 : (fourR l2 g).length = 4 := by simp [fourR]
  have hwl : ∀ w ∈ fourW l2 g ch, w.length < 100000 := fun w hw => by
    simp only [fourW, List.mem_map] at hw
    obtain ⟨i, _, rfl⟩ := hw
    have : (wayA ch (gmatch g (attrsV l2 0 (aJ l2 i)).1)).length ≤ ch.length := wayG_le _ _
    omega
  have hrl : ∀ w ∈ fourR l2 g, w.length < 100000 := fun w hw => by
    simp only [fourR, List.mem_map] at hw
    obtain ⟨i, _, rfl⟩ := hw
    exact readers_len hg2 (fun x hx => (hg1 x hx).2) _ (by
      have := matchG_len (attrsV l2 0 (aJ l2 i)).1 g 0 []
      unfold gmatch; simp at this; omega)
  have z11 : partC (fourW l2 g ch) 0 = [.osl 0 [], .osl 0 [], .osl 0 [], .osl 0 []] := rfl
  have z12 : partC (fourR l2 g) 0 = [.osl 0 [], .osl 0 [], .osl 0 [], .osl 0 []] := rfl
  refine ⟨setF (nw S 0 []) id2 l2 (nA l2 0 (aJ l2 4)), ?_⟩
  have LL := fun R H e14 e15 e16 e17 e18 e19 e20 e21 e22 T X h14 h15 h16 h17 h18 h19 h20 h21 h22 x11 x12 => LF4 l1 l2 id id2 p xs g hg1 hg2 ch hcl (nw S 0 []) hf2 R H 4 0 e14 e15 e16 e17 e18 e19 e20 e21 e22 T X h14 h15 h16 h17 h18 h19 h20 h21 h22 x11 x12 (Nat.zero_le _) rfl
  rw [z11, z12, show ((0 : Nat) : Int) = 0 from rfl, show aJ l2 0 = 0 from rfl] at LL
  generalize hSF : setF (nw S 0 []) id2 l2 (nA l2 0 (aJ l2 4)) = SF at *
  generalize hR : (Out.ret (V.bool true) none, SF) = R
  generalize hwsE : fourW l2 g ch = ws at *
  generalize hrsE : fourR l2 g = rs at *
  have H130 : ∀ (e13 e14 e16 e17 e18 e19 e20 e21 e22 : E) (T : List (Nat × E)) (X : List (Nat × List V)), e13.Tame → e14.Tame → e16.Tame → e17.Tame → e18.Tame → e19.Tame → e20.Tame → e21.Tame → e22.Tame → lk X 11 = some (ws.map slc) → lk X 12 = some (rs.map slc) → evK gS fi6 c6_130 { ps := [(0, .val (.slice (intVs l1))), (1, .val (.slice (intVs l2))), (4, .val (.bool false)), (5, .val (.ptr id 0)), (6, .val (.slice (intVs p))), (7, .val (.slice (encSubs xs))), (8, .val (.slice (encGrps g))), (9, .val (.slice (encAtoms ch))), (10, .val (.ptr id2 0)), (11, .lp 11 0), (12, .lp 12 0), (13, e13), (14, e14), (15, .val (.int .i64 (7 : Nat))), (16, e16), (17, e17), (18, e18), (19, e19), (20, e20), (21, e21), (22, e22)], ts := T, lc := X } SF .nil = some R := by
    intro e13 e14 e16 e17 e18 e19 e20 e21 e22 T X h13 h14 h16 h17 h18 h19 h20 h21 h22 x11 x12
    simp (config := { implicitDefEqProofs := false }) [-Int.natCast_add, h13, h14, h16, h17, h18, h19, h20, h21, h22, x11, x12, k28, hR, -Int.not_le, -Int.not_lt, -Nat.not_le, -Nat.not_lt, ty3, ty4, ty22, ty23, ty25, ty26, ty32, ty42, ty53, ty64, hm, hl, hr, fi36_eq, fi53_eq, fi54_eq, fi59_eq, fi60_eq, fi64_eq, fi200_eq, fi219_eq, fi220_eq, fi221_eq, x32, fi222_eq, p32, k28, x28, fi224_eq, p28, E6, q6_118, e6_120, e6_127, e6_85, e6_128, e6_129, e6_130, e6_35, n6_20, n6_68, n6_109, n6_88, n6_53, n6_39]
  have LLC := fun e13 e14 e16 e17 e18 e19 e20 e21 e22 T X h13 h14 h16 h17 h18 h19 h20 h21 h22 x11 x12 => LCL l1 l2 id id2 p xs g hg1 hg2 ch hcl ws rs hw4 hr4 hwl hrl SF R HWC HMC H130 6 1  e13 e14 e16 e17 e18 e19 e20 e21 e22 T X h13 h14 h16 h17 h18 h19 h20 h21 h22 x11 x12 (by omega) rfl 
  rw [show ((1 : Nat) : Int) = 1 from rfl] at LLC
  have H35 : ∀ (e14 e15 e16 e17 e18 e19 e20 e21 e22 : E) (T : List (Nat × E)) (X : List (Nat × List V)), e14.Tame → e15.Tame → e16.Tame → e17.Tame → e18.Tame → e19.Tame → e20.Tame → e21.Tame → e22.Tame → lk X 11 = some (ws.map slc) → lk X 12 = some (rs.map slc) → evK gS fi6 c6_35 { ps := [(0, .val (.slice (intVs l1))), (1, .val (.slice (intVs l2))), (4, .val (.bool false)), (5, .val (.ptr id 0)), (6, .val (.slice (intVs p))), (7, .val (.slice (encSubs xs))), (8, .val (.slice (encGrps g))), (9, .val (.slice (encAtoms ch))), (10, .val (.ptr id2 0)), (11, .lp 11 0), (12, .lp 12 0), (13, .val (.int .i64 (4 : Nat))), (14, e14), (15, e15), (16, e16), (17, e17), (18, e18), (19, e19), (20, e20), (21, e21), (22, e22)], ts := T, lc := X } SF .nil = some R := by
    intro e14 e15 e16 e17 e18 e19 e20 e21 e22 T X h14 h15 h16 h17 h18 h19 h20 h21 h22 x11 x12
    simp (config := { implicitDefEqProofs := false }) [-Int.natCast_add, h14, h15, h16, h17, h18, h19, h20, h21, h22, x11, x12, -Int.not_le, -Int.not_lt, -Nat.not_le, -Nat.not_lt, ty3, ty4, ty22, ty23, ty25, ty26, ty32, ty42, ty53, ty64, hm, hl, hr, fi36_eq, fi53_eq, fi54_eq, fi59_eq, fi60_eq, fi64_eq, fi200_eq, fi219_eq, fi220_eq, fi221_eq, x32, fi222_eq, p32, k28, x28, fi224_eq, p28, E6, q6_118, e6_120, e6_127, e6_85, e6_128, e6_129, e6_130, e6_35, n6_20, n6_68, n6_109, n6_88, n6_53, n6_39]
    exact LLC _ _ _ _ _ _ _ _ _ _ _ (tame_val _) h14 h16 h17 h18 h19 h20 h21 h22 x11 x12
  have LL2 := LL R H35
  clear LL
  refine EvF_start fi246_eq (fun x h => by cases h) m6 ?_
  rw [st6]
  simp (config := { implicitDefEqProofs := false }) [-St.obj, -St.set, -Int.natCast_add, hid, hid2, n1, n2, k1, k2, k3, k4, -Int.not_le, -Int.not_lt, -Nat.not_le, -Nat.not_lt, ty3, ty4, ty22, ty23, ty25, ty26, ty32, ty42, ty53, ty64, hm, hl, hr, fi36_eq, fi53_eq, fi54_eq, fi59_eq, fi60_eq, fi64_eq, fi200_eq, fi219_eq, fi220_eq, fi221_eq, x32, fi222_eq, p32, k28, x28, fi224_eq, p28, E6, q6_118, e6_120, e6_127, e6_85, e6_128, e6_129, e6_130, e6_35, n6_20, n6_68, n6_109, n6_88, n6_53, n6_39]
  refine LL2 _ _ _ _ _ _ _ _ _ _ _ rfl rfl rfl rfl rfl rfl rfl rfl rfl ?_ ?_
  · rfl
  · rfl
theorem run246 (l1 l2 : List Int) : ∃ st', EvF gS 6 [.slice (intVs l1), .slice (intVs l2)] ⟨[], 0⟩ = some (.ret (.bool true) none, st') := c6 l1 l2 ⟨[], 0⟩ (Nat.le_refl _)
end
end Go.Proofs.Ytdoobejjedpcgaa
namespace Go.Ab
open Go Go.ChangeShapes Go.WideShapes
set_option linter.unusedVariables false
set_option linter.unusedSimpArgs false
set_option linter.unnecessarySimpa false
variable {H : Type} {enc : TypeId × Value → H} {P : Program} {w : World} {base b0 : Nat} {spare : Nat → Bool} {held : Bool} {r : Reach}
theorem arg_ints {t e : TypeId} {k : IntKind} {v : Value} {d : DataW H} {ps : List MemPlace} (ht : P.underlying t = some (.slice e)) (he : P.underlying e = some (.int k)) (hc : P.cellsOf e = 1)
    (hval : Value.okWide P w r b0 t v) (h : DataW.Trod enc P w base spare held t v d ps) : ∃ zs : List Int, Rep K0 w v (.slice (zs.map (V.int k))) ∧ ∀ n ∈ zs, (Lit.int k n).wf = true := by
  obtain ⟨a0, len, cap, rfl⟩ := okWide_slice ht hval
  obtain ⟨fuel, hf⟩ := h
  rcases open_ints ht he hc hf with ⟨hcs, _⟩ | ⟨a, len', cap', zs, hcs, _, hl, hm, hz, _, hcell, hwz⟩
  · simp [Value.cells] at hcs
    obtain ⟨rfl, rfl, rfl⟩ := hcs
    exact ⟨[], .slice0 _ _, by simp⟩
  · simp [Value.cells] at hcs
    obtain ⟨rfl, rfl, rfl⟩ := hcs
    have hzl : len ≤ zs.length := by rw [hz]; split <;> omega
    by_cases h0 : len = 0
    · subst h0; exact ⟨[], .slice0 _ _, by simp⟩
    · refine ⟨zs.take len, ?_, fun n hn => hwz n (List.mem_of_mem_take hn)⟩
      obtain ⟨b, off, spot⟩ := a
      have hspot : spot = none := by simpa [Addr.add] using World.cell?_spot (hcell 0 (by omega))
      subst hspot
      have hlen : ((zs.take len).map (V.int k)).length = len := by simp; omega
      have hfl : ((zs.take len).map (V.int k)).flatMap V.cells = (zs.take len).map (V.int k) := by
        generalize zs.take len = l
        induction l with
        | nil => rfl
        | cons x r ih => simp only [List.map_cons, List.flatMap_cons, ih]; rfl
      have key : Rep K0 w (.slice (some (at_ b off)) ((zs.take len).map (V.int k)).length cap) (.slice ((zs.take len).map (V.int k))) := by
        refine .slice (k := 1) (by rw [hlen]; exact hl) (fun x hx => ?_) ?_
        · obtain ⟨n, _, rfl⟩ := List.mem_map.1 hx; rfl
        · rw [hfl]
          refine RepAt.of_get fun j x hx => ?_
          rw [List.getElem?_map, List.getElem?_take] at hx
          split at hx
          · rename_i hj
            have hjz : j < zs.length := by omega
            rw [List.getElem?_eq_getElem hjz] at hx
            simp only [Option.map_some, Option.some.injEq] at hx
            subst hx
            refine ⟨.int k zs[j], ⟨?_, rfl⟩, .int _ _⟩
            have := hcell j hjz
            simp only [List.getD, List.getElem?_eq_getElem hjz, Option.getD_some] at this
            rwa [show ({ block := b, off := off } : Addr) = at_ b off from rfl, addr_add] at this
          · cases hx
      rw [hlen] at key
      exact key
end Go.Ab
namespace Go.Ab
open Go Go.ChangeShapes Go.WideShapes
set_option linter.unusedVariables false
set_option linter.unusedSimpArgs false
set_option linter.unnecessarySimpa false
variable {H : Type} {enc : TypeId × Value → H} {P : Program} {w : World} {base b0 : Nat} {spare : Nat → Bool} {held : Bool} {r : Reach}
/-- Plain types. -/
inductive Ty where
  | bool | int (k : IntKind) | float (k : FloatKind) | str
  | sl (e : Ty)
  | st (fs : List Ty)
mutual
def Ty.size : Ty → Nat
  | .st fs => Ty.sizes fs
  | _ => 1
def Ty.sizes : List Ty → Nat
  | [] => 0
  | f :: r => f.size + Ty.sizes r
end
end Go.Ab
namespace Go.Proofs.Ytdoobejjedpcgaa
open Go Go.Ab Go.ChangeShapes Go.WideShapes Go.ChangeAt Go.RowKit
set_option linter.unusedVariables false
set_option linter.unusedSimpArgs false
set_option linter.unnecessarySimpa false
set_option maxRecDepth 100000 in
theorem chainMeets_lifted (os : Os) (started : os.Started) (H : Type) (enc : TypeId × Value → H) :
    ReturnsInHanded {} Try.checked os 6 .any (Rows.chainMeetsSpec.pre6 enc Try.prog Try.f6 Rows.chainMeetsRow.domain false) (Rows.chainMeetsSpec.post enc Try.prog Try.f6 false true false false) := by
  refine returnsInHanded_of_change_sized (C := Try.checked) Try.own started (by kernel_rfl) Try.func6
    (ChangeSpec.witness6 (enc := enc) (C := Try.checked) false ⟨#[], #[.slice none 0 0, .slice none 0 0], []⟩ 8 (by kernel_rfl) (by kernel_rfl) (by kernel_rfl) (by kernel_rfl)) ?_
  intro W base args ds gs before hval0 hW _ hsz0 _
  have hW' := hW
  obtain ⟨p, q, hA0, hV, rfl, _, _⟩ := hW
  have hA : DataW.TrodAll enc Try.prog W 0 (fun _ => true) true Try.f6.params.toList args.toList ds p := hA0
  have hpar : Try.f6.params = #[22, 22] := by kernel_rfl
  have hval : ∀ (j : Nat) t v, Try.f6.params[j]? = some t → args[j]? = some v → Value.okWide Try.prog W .any base t v := hval0
  rw [hpar] at hA hval
  obtain ⟨l⟩ := args
  obtain ⟨v0, l, d0, ds, p0, r0, rfl, rfl, rfl, h0, hA⟩ := trodAll_cons hA
  obtain ⟨v1, l, d1, ds, p1, r1, rfl, rfl, rfl, h1, hA⟩ := trodAll_cons hA
  obtain ⟨rfl, rfl, rfl⟩ := trodAll_nil hA
  obtain ⟨rfl, rfl⟩ := trodVars_none hV
  obtain ⟨x0, a0, _⟩ := arg_ints Try.underlying22 Try.underlying3 (by kernel_rfl) (hval 0 22 v0 rfl rfl) h0
  obtain ⟨x1, a1, _⟩ := arg_ints Try.underlying22 Try.underlying3 (by kernel_rfl) (hval 1 22 v1 rfl rfl) h1
  have hlt : ∀ y ∈ p0 ++ (p1 ++ []) ++ [], y.block < W.heap.size := fun y hy => hW'.lt y hy
  have hr : Reps K0 W [v0, v1] [.slice (intVs x0), .slice (intVs x1)] := .cons a0 (.cons a1 .nil)
  obtain ⟨st', hev⟩ := run246 x0 x1
  obtain ⟨nn, hrun⟩ := EvF_fuel hev
  refine (law_calls (n := nn) (f := 6) (xs := [.slice (intVs x0), .slice (intVs x1)]) (gS_calls nn) (by rw [hrun]) (W := W) (args := #[v0, v1]) hr).mono ?_
  rintro e W' ⟨rfl, hn⟩
  refine ⟨_, rfl, _, _, _, [], p0 ++ (p1 ++ []), [], hW', ?_, ?_, rfl, hn.frame _, fun h => by cases h⟩
  · exact trodAll_mk1 (shut_bool Try.underlying4 true)
  · exact ⟨p0, _, Below.trod Try.laidOut (by kernel_rfl) (of_decide_eq_true (by kernel_rfl)) h0 hn (fun y hy => hlt y (by simp [hy])), ⟨p1, _, Below.trod Try.laidOut (by kernel_rfl) (of_decide_eq_true (by kernel_rfl)) h1 hn (fun y hy => hlt y (by simp [hy])), rfl, rfl⟩, rfl⟩
theorem chainMeets_holds : Rows.ChainMeetsSaid :=
  OpenClaim.holds_of_wide 6 Try.f6 rfl rfl rfl rfl rfl rfl rfl ⟨rfl, rfl, rfl, rfl, rfl⟩ rfl rfl rfl rfl rfl (by kernel_rfl) Try.func6 (by kernel_rfl)
    (of_decide_eq_true (by kernel_rfl)) (by unfold Func.isWrapper; first | (rw [if_pos (by decide +kernel)]; kernel_rfl) | (rw [if_neg (by decide +kernel)]; exact ⟨rfl, rfl⟩))
    (fun os started H enc _ => chainMeets_lifted os started H enc)
#print axioms chainMeets_holds
end Go.Proofs.Ytdoobejjedpcgaa
