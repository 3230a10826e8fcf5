/- Of any Subs, any attributes, any places, each answer of groups is as the document says. Part 8. -/
import Derived.Test.YtdoobejjedpcgaaK7
set_option linter.unusedVariables false
set_option linter.unusedSimpArgs false
set_option linter.unnecessarySimpa false
namespace Go.Proofs.Ytdoobejjedpcgaa
open Go Go.Ab
set_option maxRecDepth 20000
noncomputable section
variable (fr : Fr) (st : St) (k : Kt)
def fi14 : FI := { body := codeOf Try.f14,ntmps := 2,results := [.tmp 0],pers := [0],locals := [],pure := true,marks := [] }
theorem fi56_eq : gS.fn 14 = some fi14 := by kernel_rfl
theorem x14 : gS.ext 14 = none := rfl
theorem p14 : fi14.pure = true := rfl
theorem k14 (fr : Fr) (st : St) : callStep gS (EvF gS) 14 [] fr st = some (.ok (.val (.bool true)) fr st) := by
  have hc : EvF gS 14 [] ⟨[],0⟩ = some (.ret (.bool true) none,⟨[],0⟩) := Evn.lim ⟨400,fun n hn => by
    obtain ⟨m,rfl⟩ : ∃ m,n = m + 400 := ⟨n - 400,by omega⟩
    kernel_rfl⟩
  exact call_pure' rfl fi56_eq rfl rfl ⟨_,hc⟩ rfl
def fi3 : FI := { body := codeOf Try.f3,ntmps := 165,results := [.tmp 4],pers := [0,1,4,5,6,7,8,9,10,11,12,13,14,15,16],locals := [],pure := true,marks := [4000047] }
theorem fi250_eq : gS.fn 3 = some fi3 := by kernel_rfl
theorem st3 (a0 a1 : V) : startFr fi3 [a0,a1] = { ps := [(0,.val a0),(1,.val a1),(4,.any),(5,.any),(6,.any),(7,.any),(8,.any),(9,.any),(10,.any),(11,.any),(12,.any),(13,.any),(14,.any),(15,.any),(16,.any)],ts := [],lc := [] } := rfl
def b3 : Code := mini (codeOf Try.f3)
def r3_10 : Array Oper := regOps (codeN (codeOf Try.f3) 87)
def c3_10 : Code := .region 4 r3_10 true
def q3_10 : List (Oper × Fl) := [(mv 31 6 26,⟨true,false,true,false,false,false,true,true,false,false,[]⟩),
 (mv 32 6 26,⟨true,false,false,false,false,false,true,false,false,false,[]⟩),
 (mv 33 6 26,⟨true,false,false,false,false,false,true,false,false,false,[]⟩),
 (len1 34 33 26 3,⟨true,false,false,false,false,false,true,false,false,false,[]⟩),
 (op1 35 (.binOp .sub 3 (.tmp 34) (.const (.int .i64 1)) 3) 3,⟨true,false,false,false,false,false,true,false,false,false,[]⟩),
 (mv 36 6 26,⟨true,false,true,false,false,false,true,true,false,false,[]⟩),
 (mv 37 6 26,⟨true,false,true,false,false,false,true,true,false,false,[]⟩),
 (len1 38 37 26 3,⟨true,false,true,false,false,false,true,true,false,false,[]⟩),
 (op1 39 (.binOp .sub 3 (.tmp 38) (.const (.int .i64 1)) 3) 3,⟨true,false,true,false,false,false,true,true,false,false,[]⟩),
 (ixa 40 26 36 39 0,⟨true,false,true,false,false,false,true,true,false,false,[]⟩),
 (ld 41 31 40 31,⟨true,false,true,false,false,false,true,true,false,false,[]⟩),
 (mv 42 6 26,⟨true,false,true,false,true,false,true,true,false,false,[]⟩),
 (op1 43 (.indexAddr 26 (.tmp 42) (.const (.int .i64 0))) 0,⟨true,false,true,false,true,false,true,true,false,false,[]⟩),
 (ld 44 31 43 31,⟨true,false,true,false,true,false,true,true,false,false,[]⟩),
 (op1 45 (.indexAddr 26 (.tmp 31) (.const (.int .i64 0))) 0,⟨true,false,true,false,true,false,true,true,false,false,[]⟩),
 (sto 31 45 41,⟨false,true,true,false,true,true,true,true,false,false,[]⟩),
 (ixa 46 26 32 35 0,⟨true,true,true,false,true,false,true,true,false,false,[]⟩),
 (sto 31 46 44,⟨false,true,true,false,true,true,true,true,false,false,[]⟩)]
def c3_9 : Code := .cond (.tmp 30) c3_10 .skip
def c3_7 : Code := .seq (codeN b3 39) c3_9
def c3_20 : Code := .seq (codeN b3 1215) .ret
def c3_19 : Code := .cond (.tmp 59) c3_20 .skip
def c3_17 : Code := .seq (codeN b3 319) c3_19
def c3_32 : Code := .cond (.tmp 63) .skip (.exit 0)
def c3_30 : Code := .seq (codeN b3 8575) c3_32
def r3_38 : Array Oper := regOps (codeN (codeOf Try.f3) 35199)
def c3_38 : Code := .region 12 r3_38 true
def q3_38 : List (Oper × Fl) := [(mv 66 7 32,⟨true,false,true,false,false,false,true,true,false,false,[]⟩),
 (mv 67 9 3,⟨true,false,true,false,false,false,true,true,false,false,[]⟩),
 (ixa 68 32 66 67 0,⟨true,false,true,false,false,false,true,true,false,false,[]⟩),
 (op1 69 (.fieldAddr 39 (.tmp 68) 0) 0,⟨true,false,true,false,false,false,true,true,false,false,[]⟩),
 (ld 70 29 69 29,⟨true,false,true,false,false,false,true,true,false,false,[]⟩),
 (mv 71 8 34,⟨true,false,true,false,false,false,true,true,false,false,[]⟩),
 (mv 72 9 3,⟨true,false,true,false,false,false,true,true,false,false,[]⟩),
 (ixa 73 34 71 72 0,⟨true,false,true,false,false,false,true,true,false,false,[]⟩),
 (op1 74 (.fieldAddr 40 (.tmp 73) 0) 0,⟨true,false,true,false,true,false,true,true,false,false,[]⟩),
 (ld 75 29 74 29,⟨true,false,true,false,true,false,true,true,false,false,[]⟩),
 (cal 76 15 [(.tmp 70),(.tmp 75)] [29,29] 4,⟨true,true,true,false,true,true,true,true,false,false,[]⟩),
 (op1 77 (.unOp .not 4 (.tmp 76)) 4,⟨true,false,true,false,true,false,true,true,false,false,[]⟩),
 (mv 78 77 4,⟨true,false,true,false,true,false,true,true,false,false,[]⟩),
 (mk (some 79) (.move (.tmp 7)) 32 (some (12,false)),⟨true,false,true,false,false,false,true,true,false,false,[]⟩),
 (mk (some 80) (.move (.tmp 9)) 3 (some (12,false)),⟨true,false,true,false,false,false,true,true,false,false,[]⟩),
 (mk (some 81) (.indexAddr 32 (.tmp 79) (.tmp 80)) 0 (some (12,false)),⟨true,false,true,false,false,false,true,true,false,false,[]⟩),
 (mk (some 82) (.fieldAddr 39 (.tmp 81) 1) 0 (some (12,false)),⟨true,false,true,false,false,false,true,true,false,false,[]⟩),
 (mk (some 83) (.load 22 (.tmp 82)) 22 (some (12,false)),⟨true,false,true,false,false,false,true,true,false,false,[]⟩),
 (mk (some 84) (.move (.tmp 8)) 34 (some (12,false)),⟨true,false,true,false,false,false,true,true,false,false,[]⟩),
 (mk (some 85) (.move (.tmp 9)) 3 (some (12,false)),⟨true,false,true,false,false,false,true,true,false,false,[]⟩),
 (mk (some 86) (.indexAddr 34 (.tmp 84) (.tmp 85)) 0 (some (12,false)),⟨true,false,true,false,false,false,true,true,false,false,[]⟩),
 (mk (some 87) (.fieldAddr 40 (.tmp 86) 1) 0 (some (12,false)),⟨true,false,true,false,true,false,true,true,false,false,[]⟩),
 (mk (some 88) (.load 22 (.tmp 87)) 22 (some (12,false)),⟨true,false,true,false,true,false,true,true,false,false,[]⟩),
 (mk (some 89) (.call { callee := (.value (.func 16)),args := #[(.tmp 83),(.tmp 88)],argTypes := #[22,22] }) 4 (some (12,false)),⟨true,true,true,false,true,true,true,true,false,false,[]⟩),
 (mk (some 90) (.unOp .not 4 (.tmp 89)) 4 (some (12,false)),⟨true,false,true,false,true,false,true,true,false,false,[]⟩),
 (op1 91 (.pick (.tmp 78) (.const (.bool true)) (.tmp 90)) 4,⟨true,false,true,false,true,false,true,true,false,false,[]⟩)]
def c3_40 : Code := .seq (codeN b3 149887) .ret
def c3_39 : Code := .cond (.tmp 91) c3_40 .skip
def c3_37 : Code := .seq c3_38 c3_39
def c3_44 : Code := codeN b3 14719
def c3_35 : Code := .seq (.block 1 c3_37) c3_44
def c3_29 : Code := .seq c3_30 c3_35
def c3_28 : Code := .loop c3_29
def c3_27 : Code := .block 0 c3_28
def c3_25 : Code := .seq (codeN b3 639) c3_27
def c3_59 : Code := .cond (.tmp 107) .skip (.exit 2)
def c3_57 : Code := .seq (codeN b3 137215) c3_59
def c3_64 : Code := codeN b3 301055
def c3_65 : Code := codeN b3 235519
def c3_62 : Code := .seq (.block 3 c3_64) c3_65
def c3_56 : Code := .seq c3_57 c3_62
def c3_55 : Code := .loop c3_56
def c3_54 : Code := .block 2 c3_55
def c3_52 : Code := .seq (codeN b3 10239) c3_54
def c3_70 : Code := .seq (codeN b3 49151) .ret
def c3_68 : Code := .seq (codeN b3 24575) c3_70
def c3_66 : Code := .seq (codeN b3 12287) c3_68
theorem e3_66 : evK gS fi3 c3_66 fr st k = opsR gS fi3 [mv 117 5 23,
 mv 118 8 34,
 len1 119 118 34 3,
 op1 120 (.binOp .add 3 (.tmp 119) (.const (.int .i64 2)) 3) 3,
 cal 121 11 [(.tmp 117),(.tmp 120)] [23,3] 3,
 op1 122 (.binOp .sub 3 (.tmp 121) (.const (.int .i64 1)) 3) 3,
 mv 123 5 23,
 mv 124 8 34,
 len1 125 124 34 3,
 op1 126 (.binOp .add 3 (.tmp 125) (.const (.int .i64 2)) 3) 3,
 cal 127 11 [(.tmp 123),(.tmp 126)] [23,3] 3,
 op1 128 (.binOp .sub 3 (.tmp 127) (.const (.int .i64 1)) 3) 3,
 asn 14 122 3,
 asn 15 128 3] fr st (.seq c3_68 k) := evK_rs 21 rfl (by kernel_rfl)
def c3_51 : Code := .seq c3_52 c3_66
def c3_49 : Code := .seq (codeN b3 3071) c3_51
def c3_47 : Code := .seq (codeN b3 1535) c3_49
def c3_45 : Code := .seq (codeN b3 767) c3_47
theorem e3_45 : evK gS fi3 c3_45 fr st k = opsR gS fi3 [mv 92 5 23,
 cal 93 17 [(.tmp 92)] [23] 42,
 asn 10 93 42] fr st (.seq c3_47 k) := evK_rs 14 rfl (by kernel_rfl)
def c3_24 : Code := .seq c3_25 c3_45
def c3_16 : Code := .seq c3_17 c3_24
def c3_14 : Code := .seq (codeN b3 95) c3_16
theorem e3_14 : evK gS fi3 c3_14 fr st k = opsR gS fi3 [mv 49 6 26,
 cal 50 13 [(.tmp 49)] [26] 34,
 asn 8 50 34] fr st (.seq c3_16 k) := evK_rs 6 rfl (by kernel_rfl)
def c3_12 : Code := .seq (codeN b3 47) c3_14
theorem e3_12 : evK gS fi3 c3_12 fr st k = opsR gS fi3 [mv 47 6 26,
 cal 48 12 [(.tmp 47)] [26] 32,
 asn 7 48 32] fr st (.seq c3_14 k) := evK_rs 5 rfl (by kernel_rfl)
def c3_6 : Code := .seq c3_7 c3_12
def c3_4 : Code := .seq (codeN b3 11) c3_6
def c3_2 : Code := .seq (codeN b3 5) c3_4
def c3_0 : Code := .seq (codeN b3 2) c3_2
theorem E3 : evK gS fi3 c3_10 fr st k = drwR gS fi3 r3_10 q3_10 fr st k ∧
 evK gS fi3 c3_9 fr st k = condK gS fi3 (fr.op (.tmp 30)).bool? c3_10 .skip fr st k ∧
 (evK gS fi3 c3_7 fr st k = opsR gS fi3 [mv 23 6 26,
 len1 24 23 26 3,
 op1 25 (.binOp .gtr 3 (.tmp 24) (.const (.int .i64 1)) 3) 4,
 mv 26 25 4,
 mk (some 27) (.move (.tmp 5)) 23 (some (3,true)),
 mk (some 28) (.call { callee := (.value (.func 11)),args := #[(.tmp 27),(.const (.int .i64 4))],argTypes := #[23,3] }) 3 (some (3,true)),
 mk (some 29) (.binOp .eql 3 (.tmp 28) (.const (.int .i64 0)) 3) 4 (some (3,true)),
 op1 30 (.pick (.tmp 26) (.tmp 29) (.const (.bool false))) 4] fr st (.seq c3_9 k)) ∧
 evK gS fi3 c3_20 fr st k = opsR gS fi3 [op1 4 (.assign (.const (.bool false))) 4] fr st (.seq .ret k) ∧
 evK gS fi3 c3_19 fr st k = condK gS fi3 (fr.op (.tmp 59)).bool? c3_20 .skip fr st k ∧
 (evK gS fi3 c3_17 fr st k = opsR gS fi3 [cal 51 14 [] [] 4,
 op1 52 (.unOp .not 4 (.tmp 51)) 4,
 mv 53 52 4,
 mk (some 54) (.move (.tmp 7)) 32 (some (2,false)),
 mk (some 55) (.call { callee := (.builtin .len),args := #[(.tmp 54)],argTypes := #[32] }) 3 (some (2,false)),
 mk (some 56) (.move (.tmp 8)) 34 (some (2,false)),
 mk (some 57) (.call { callee := (.builtin .len),args := #[(.tmp 56)],argTypes := #[34] }) 3 (some (2,false)),
 mk (some 58) (.binOp .neq 3 (.tmp 55) (.tmp 57) 3) 4 (some (2,false)),
 op1 59 (.pick (.tmp 53) (.const (.bool true)) (.tmp 58)) 4] fr st (.seq c3_19 k)) ∧
 evK gS fi3 c3_32 fr st k = condK gS fi3 (fr.op (.tmp 63)).bool? .skip (.exit 0) fr st k ∧
 (evK gS fi3 c3_30 fr st k = opsR gS fi3 [mv 60 9 3,
 mv 61 7 32,
 len1 62 61 32 3,
 bop 63 .lss 3 60 62 3 4] fr st (.seq c3_32 k)) ∧
 evK gS fi3 c3_38 fr st k = drwR gS fi3 r3_38 q3_38 fr st k ∧
 evK gS fi3 c3_40 fr st k = opsR gS fi3 [op1 4 (.assign (.const (.bool false))) 4] fr st (.seq .ret k) ∧
 evK gS fi3 c3_39 fr st k = condK gS fi3 (fr.op (.tmp 91)).bool? c3_40 .skip fr st k ∧
 evK gS fi3 c3_37 fr st k = evK gS fi3 c3_38 fr st (.seq c3_39 k) ∧
 (evK gS fi3 c3_44 fr st k = opsR gS fi3 [mv 64 9 3,
 op1 65 (.binOp .add 3 (.tmp 64) (.const (.int .i64 1)) 3) 3,
 asn 9 65 3] fr st k) ∧
 evK gS fi3 c3_35 fr st k = evK gS fi3 c3_37 fr st (.blk 1 (.seq c3_44 k)) ∧
 evK gS fi3 c3_29 fr st k = evK gS fi3 c3_30 fr st (.seq c3_35 k) ∧
 evK gS fi3 c3_27 fr st k = evK gS fi3 c3_28 fr st (.blk 0 k) ∧
 evK gS fi3 c3_25 fr st k = opsR gS fi3 [op1 9 (.assign (.const (.int .i64 0))) 3] fr st (.seq c3_27 k) ∧
 evK gS fi3 c3_59 fr st k = condK gS fi3 (fr.op (.tmp 107)).bool? .skip (.exit 2) fr st k ∧
 (evK gS fi3 c3_57 fr st k = opsR gS fi3 [mv 100 13 3,
 mv 101 1 22,
 len1 102 101 22 3,
 bop 103 .lss 3 100 102 3 4,
 mv 104 103 4,
 mk (some 105) (.move (.tmp 13)) 3 (some (4,true)),
 mk (some 106) (.binOp .lss 3 (.tmp 105) (.const (.int .i64 4)) 3) 4 (some (4,true)),
 op1 107 (.pick (.tmp 104) (.tmp 106) (.const (.bool false))) 4] fr st (.seq c3_59 k)) ∧
 (evK gS fi3 c3_64 fr st k = opsR gS fi3 [mv 110 12 22,
 mv 111 1 22,
 mv 112 13 3,
 ixa 113 22 111 112 0,
 ld 114 3 113 3,
 op1 115 (.buildSlice 22 1 #[(0,(.tmp 114))]) 22,
 op1 116 (.call { callee := (.builtin .append),args := #[(.tmp 110),(.tmp 115)],argTypes := #[22,22] }) 22,
 asn 12 116 22] fr st k) ∧
 (evK gS fi3 c3_65 fr st k = opsR gS fi3 [mv 108 13 3,
 op1 109 (.binOp .add 3 (.tmp 108) (.const (.int .i64 1)) 3) 3,
 asn 13 109 3] fr st k) ∧
 evK gS fi3 c3_62 fr st k = evK gS fi3 c3_64 fr st (.blk 3 (.seq c3_65 k)) ∧
 evK gS fi3 c3_56 fr st k = evK gS fi3 c3_57 fr st (.seq c3_62 k) ∧
 evK gS fi3 c3_54 fr st k = evK gS fi3 c3_55 fr st (.blk 2 k) ∧
 evK gS fi3 c3_52 fr st k = opsR gS fi3 [op1 13 (.assign (.const (.int .i64 0))) 3] fr st (.seq c3_54 k) ∧
 (evK gS fi3 c3_70 fr st k = opsR gS fi3 [mv 131 7 32,
 mv 132 10 42,
 cal 133 19 [(.tmp 131),(.tmp 132)] [32,42] 22,
 mv 134 11 22,
 cal 135 16 [(.tmp 133),(.tmp 134)] [22,22] 4,
 mv 136 135 4,
 mk (some 137) (.move (.tmp 7)) 32 (some (5,true)),
 mk (some 138) (.move (.tmp 12)) 22 (some (5,true)),
 mk (some 139) (.call { callee := (.value (.func 20)),args := #[(.tmp 137),(.tmp 138)],argTypes := #[32,22] }) 22 (some (5,true)),
 mk (some 140) (.move (.tmp 8)) 34 (some (5,true)),
 mk (some 141) (.move (.tmp 12)) 22 (some (5,true)),
 mk (some 142) (.call { callee := (.value (.func 21)),args := #[(.tmp 140),(.tmp 141)],argTypes := #[34,22] }) 22 (some (5,true)),
 mk (some 143) (.call { callee := (.value (.func 16)),args := #[(.tmp 139),(.tmp 142)],argTypes := #[22,22] }) 4 (some (5,true)),
 op1 144 (.pick (.tmp 136) (.tmp 143) (.const (.bool false))) 4,
 mv 145 144 4,
 mk (some 146) (.move (.tmp 7)) 32 (some (14,true)),
 mk (some 147) (.move (.tmp 14)) 3 (some (14,true)),
 mk (some 148) (.move (.tmp 15)) 3 (some (14,true)),
 mk (some 149) (.call { callee := (.value (.func 22)),args := #[(.tmp 146),(.tmp 147),(.tmp 148)],argTypes := #[32,3,3] }) 22 (some (14,true)),
 mk (some 150) (.move (.tmp 8)) 34 (some (14,true)),
 mk (some 151) (.move (.tmp 14)) 3 (some (14,true)),
 mk (some 152) (.move (.tmp 15)) 3 (some (14,true)),
 mk (some 153) (.call { callee := (.value (.func 23)),args := #[(.tmp 150),(.tmp 151),(.tmp 152)],argTypes := #[34,3,3] }) 22 (some (14,true)),
 mk (some 154) (.call { callee := (.value (.func 16)),args := #[(.tmp 149),(.tmp 153)],argTypes := #[22,22] }) 4 (some (14,true)),
 op1 155 (.pick (.tmp 145) (.tmp 154) (.const (.bool false))) 4,
 mv 156 155 4,
 mk (some 157) (.move (.tmp 7)) 32 (some (25,true)),
 mk (some 158) (.move (.tmp 16)) 3 (some (25,true)),
 mk (some 159) (.call { callee := (.value (.func 24)),args := #[(.tmp 157),(.tmp 158)],argTypes := #[32,3] }) 22 (some (25,true)),
 mk (some 160) (.move (.tmp 8)) 34 (some (25,true)),
 mk (some 161) (.move (.tmp 16)) 3 (some (25,true)),
 mk (some 162) (.call { callee := (.value (.func 25)),args := #[(.tmp 160),(.tmp 161)],argTypes := #[34,3] }) 22 (some (25,true)),
 mk (some 163) (.call { callee := (.value (.func 16)),args := #[(.tmp 159),(.tmp 162)],argTypes := #[22,22] }) 4 (some (25,true)),
 op1 164 (.pick (.tmp 156) (.tmp 163) (.const (.bool false))) 4,
 asn 4 164 4] fr st (.seq .ret k)) ∧
 (evK gS fi3 c3_68 fr st k = opsR gS fi3 [mv 129 5 23,
 cal 130 11 [(.tmp 129),(.const (.int .i64 8))] [23,3] 3,
 asn 16 130 3] fr st (.seq c3_70 k)) ∧
 evK gS fi3 c3_51 fr st k = evK gS fi3 c3_52 fr st (.seq c3_66 k) ∧
 (evK gS fi3 c3_49 fr st k = opsR gS fi3 [op1 97 (.buildSlice 22 0 #[]) 22,
 mv 98 11 22,
 op1 99 (.call { callee := (.builtin .append),args := #[(.tmp 97),(.tmp 98)],argTypes := #[22,22] }) 22,
 asn 12 99 22] fr st (.seq c3_51 k)) ∧
 (evK gS fi3 c3_47 fr st k = opsR gS fi3 [mv 94 8 34,
 mv 95 10 42,
 cal 96 18 [(.tmp 94),(.tmp 95)] [34,42] 22,
 asn 11 96 22] fr st (.seq c3_49 k)) ∧
 evK gS fi3 c3_24 fr st k = evK gS fi3 c3_25 fr st (.seq c3_45 k) ∧
 evK gS fi3 c3_16 fr st k = evK gS fi3 c3_17 fr st (.seq c3_24 k) ∧
 evK gS fi3 c3_6 fr st k = evK gS fi3 c3_7 fr st (.seq c3_12 k) ∧
 (evK gS fi3 c3_4 fr st k = opsR gS fi3 [mv 20 5 23,
 op1 21 (.buildSlice 22 3 #[(0,(.const (.int .i64 0))),(1,(.const (.int .i64 0))),(2,(.const (.int .i64 1)))]) 22,
 cal 22 10 [(.tmp 20),(.tmp 21)] [23,22] 26,
 asn 6 22 26] fr st (.seq c3_6 k)) ∧
 (evK gS fi3 c3_2 fr st k = opsR gS fi3 [mv 17 0 22,
 op1 18 (.build 25 #[(0,(.tmp 17))]) 25,
 op1 19 (.box 25 (.tmp 18)) 23,
 asn 5 19 23] fr st (.seq c3_4 k)) ∧
 evK gS fi3 c3_0 fr st k = opsR gS fi3 [op1 4 (.assign (.const (.bool false))) 4] fr st (.seq c3_2 k) := ⟨evK_dr 4 rfl (by kernel_rfl) (by kernel_rfl),rfl,evK_rs 3 rfl (by kernel_rfl),evK_rs 8 rfl (by kernel_rfl),rfl,evK_rs 7 rfl (by kernel_rfl),rfl,evK_rs 10 rfl (by kernel_rfl),evK_dr 12 rfl (by kernel_rfl) (by kernel_rfl),evK_rs 13 rfl (by kernel_rfl),rfl,rfl,evK_r 11 (by kernel_rfl),rfl,rfl,rfl,evK_rs 9 rfl (by kernel_rfl),rfl,evK_rs 18 rfl (by kernel_rfl),evK_r 20 (by kernel_rfl),evK_r 19 (by kernel_rfl),rfl,rfl,rfl,evK_rs 17 rfl (by kernel_rfl),evK_rs 23 rfl (by kernel_rfl),evK_rs 22 rfl (by kernel_rfl),rfl,evK_rs 16 rfl (by kernel_rfl),evK_rs 15 rfl (by kernel_rfl),rfl,rfl,rfl,evK_rs 2 rfl (by kernel_rfl),evK_rs 1 rfl (by kernel_rfl),evK_rs 0 rfl (by kernel_rfl)⟩
theorem m3 : mini fi3.body = c3_0 := by kernel_rfl
theorem n3_28 (fr : Fr) (st : St) (k : Kt) : nextK gS fi3 (.loop c3_29 k) .normal fr st = evK gS fi3 c3_28 fr st k := rfl
theorem n3_55 (fr : Fr) (st : St) (k : Kt) : nextK gS fi3 (.loop c3_56 k) .normal fr st = evK gS fi3 c3_55 fr st k := rfl
set_option maxHeartbeats 8000000 in
theorem LC250 (l l2 : List Int) (id : Nat) (g : List Grp) (hg : ∀ x ∈ g,POk x.filter ∧ x.clients.length < 1000) (hgl : g.length ≤ 18) (S : St) (R : Out × St)  
    (H : ∀ (e6 e10 e11 e12 e13 e14 e15 e16 : E) (T : List (Nat × E)) (X : List (Nat × List V)),e6.Firm → e10.Tame → e11.Tame → e12.Tame → e13.Tame → e14.Tame → e15.Tame → e16.Tame → evK gS fi3 c3_45 { ps := [(0,.val (.slice (intVs l))),(1,.val (.slice (intVs l2))),(4,.val (.bool false)),(5,.val (.ptr id 0)),(6,e6),(7,.val (.slice (encGrps g))),(8,.val (.slice (encGrps g))),(9,.val (.int .i64 g.length)),(10,e10),(11,e11),(12,e12),(13,e13),(14,e14),(15,e15),(16,e16)],ts := T,lc := X } S .nil = some R) :
    ∀ (m q : Nat) (e6 e10 e11 e12 e13 e14 e15 e16 : E) (T : List (Nat × E)) (X : List (Nat × List V)) (h6 : e6.Firm) (h10 : e10.Tame) (h11 : e11.Tame) (h12 : e12.Tame) (h13 : e13.Tame) (h14 : e14.Tame) (h15 : e15.Tame) (h16 : e16.Tame),q ≤ g.length → g.length - q = m → 
    evK gS fi3 c3_28 { ps := [(0,.val (.slice (intVs l))),(1,.val (.slice (intVs l2))),(4,.val (.bool false)),(5,.val (.ptr id 0)),(6,e6),(7,.val (.slice (encGrps g))),(8,.val (.slice (encGrps g))),(9,.val (.int .i64 (q : Nat))),(10,e10),(11,e11),(12,e12),(13,e13),(14,e14),(15,e15),(16,e16)],ts := T,lc := X } S (.blk 0 (.seq c3_45 .nil)) = some R := by
  intro m
  have hm : fi3.marks = [4000047] := rfl
  have hl : fi3.locals = [] := rfl
  have hr : fi3.results = [.tmp 4] := rfl
  induction m with
  | zero =>
    intro q e6 e10 e11 e12 e13 e14 e15 e16 T X h6 h10 h11 h12 h13 h14 h15 h16 hq hm2 
    obtain rfl : q = g.length := by omega
    refine evK_loop c3_29 _ _ _ _ rfl ?_
    simp (config := { implicitDefEqProofs := false }) [-Int.natCast_add,-St.obj,-St.set,h6,h10,h11,h12,h13,h14,h15,h16,-Int.not_le,-Int.not_lt,-Nat.not_le,-Nat.not_lt,ty3,ty4,ty22,ty23,ty25,ty26,ty29,ty31,ty32,ty34,ty39,ty40,ty42,hm,hl,hr,fi16_eq,fi36_eq,x15,fi42_eq,p15,fi53_eq,fi54_eq,fi55_eq,k14,x14,fi56_eq,p14,x16,fi57_eq,p16,x18,fi58_eq,p18,x19,fi59_eq,p19,x20,fi60_eq,p20,x21,fi61_eq,p21,x22,fi62_eq,p22,x23,fi63_eq,p23,x24,fi64_eq,p24,x25,fi65_eq,p25,E3,q3_10,q3_38,e3_66,e3_14,e3_12,n3_28,n3_55]
    exact H _ _ _ _ _ _ _ _ _ _ h6 h10 h11 h12 h13 h14 h15 h16
  | succ m ih =>
    intro q e6 e10 e11 e12 e13 e14 e15 e16 T X h6 h10 h11 h12 h13 h14 h15 h16 hq hm2 
    obtain ⟨x,hx⟩ : ∃ x,g[q]? = some x := ⟨g[q]'(by omega),List.getElem?_eq_getElem (by omega)⟩
    have hlt : (q : Int) < (g.length : Int) := by omega
    obtain ⟨hlt2,hxe⟩ := List.getElem?_eq_some_iff.1 hx
    have hw : IntKind.wrap .i64 ((q : Int) + 1) = ((q + 1 : Nat) : Int) := by rw [wrap64 (by omega) (by omega)]; omega
    have hxg := hg x (List.mem_of_getElem? hx)
    have kk := fun fr st => k15 x.filter x.filter hxg.1 hxg.1 fr st
    rw [fsame_rfl] at kk
    have ks := fun fr st => k16 x.clients (by omega) fr st
    have IH := fun e6 e10 e11 e12 e13 e14 e15 e16 T X h6 h10 h11 h12 h13 h14 h15 h16 => ih (q + 1) e6 e10 e11 e12 e13 e14 e15 e16 T X h6 h10 h11 h12 h13 h14 h15 h16 (by omega) (by omega)
    refine evK_loop c3_29 _ _ _ _ rfl ?_
    simp (config := { implicitDefEqProofs := false }) [-Int.natCast_add,-St.obj,-St.set,h6,h10,h11,h12,h13,h14,h15,h16,hx,hxe,hlt,hlt2,hw,kk,ks,-Int.not_le,-Int.not_lt,-Nat.not_le,-Nat.not_lt,ty3,ty4,ty22,ty23,ty25,ty26,ty29,ty31,ty32,ty34,ty39,ty40,ty42,hm,hl,hr,fi16_eq,fi36_eq,x15,fi42_eq,p15,fi53_eq,fi54_eq,fi55_eq,k14,x14,fi56_eq,p14,x16,fi57_eq,p16,x18,fi58_eq,p18,x19,fi59_eq,p19,x20,fi60_eq,p20,x21,fi61_eq,p21,x22,fi62_eq,p22,x23,fi63_eq,p23,x24,fi64_eq,p24,x25,fi65_eq,p25,E3,q3_10,q3_38,e3_66,e3_45,e3_14,e3_12,n3_28,n3_55]
    exact IH _ _ _ _ _ _ _ _ _ _ h6 h10 h11 h12 h13 h14 h15 h16
set_option maxHeartbeats 8000000 in
theorem LP250 (A : List Attr) (M : List Int) (l l2 : List Int) (id : Nat) (g : List Grp) (hg : ∀ x ∈ g,POk x.filter ∧ x.clients.length < 1000) (hgl : g.length ≤ 18) (S : St) (R : Out × St)  (fin : List Int)
    (H : ∀ (e6 e9 e14 e15 e16 : E) (T : List (Nat × E)) (X : List (Nat × List V)),e6.Firm → e9.Tame → e14.Tame → e15.Tame → e16.Tame → evK gS fi3 c3_66 { ps := [(0,.val (.slice (intVs l))),(1,.val (.slice (intVs l2))),(4,.val (.bool false)),(5,.val (.ptr id 0)),(6,e6),(7,.val (.slice (encGrps g))),(8,.val (.slice (encGrps g))),(9,e9),(10,.val (.slice (encAttrs A))),(11,.val (.slice (intVs M))),(12,.own 1 (intVs fin)),(13,.val (.int .i64 (l2.take 4).length)),(14,e14),(15,e15),(16,e16)],ts := T,lc := X } S .nil = some R) :
    ∀ (m q : Nat) (out : List Int) (e6 e9 e14 e15 e16 : E) (T : List (Nat × E)) (X : List (Nat × List V)) (h6 : e6.Firm) (h9 : e9.Tame) (h14 : e14.Tame) (h15 : e15.Tame) (h16 : e16.Tame),q ≤ (l2.take 4).length → (l2.take 4).length - q = m → fin = out ++ ((l2.take 4).drop q) → out.length ≤ 1000 + q →
    evK gS fi3 c3_55 { ps := [(0,.val (.slice (intVs l))),(1,.val (.slice (intVs l2))),(4,.val (.bool false)),(5,.val (.ptr id 0)),(6,e6),(7,.val (.slice (encGrps g))),(8,.val (.slice (encGrps g))),(9,e9),(10,.val (.slice (encAttrs A))),(11,.val (.slice (intVs M))),(12,.own 1 (intVs out)),(13,.val (.int .i64 (q : Nat))),(14,e14),(15,e15),(16,e16)],ts := T,lc := X } S (.blk 2 (.seq c3_66 .nil)) = some R := by
  intro m
  have hm : fi3.marks = [4000047] := rfl
  have hl : fi3.locals = [] := rfl
  have hr : fi3.results = [.tmp 4] := rfl
  induction m with
  | zero =>
    intro q out e6 e9 e14 e15 e16 T X h6 h9 h14 h15 h16 hq hm2 hf hol
    obtain rfl : q = (l2.take 4).length := by omega
    rw [List.drop_length,List.append_nil] at hf
    subst hf
    have hz : ¬ (((l2.take 4).length : Nat) : Int) < (l2.length : Int) ∨ ¬ (((l2.take 4).length : Nat) : Int) < 4 := by simp; omega
    generalize (l2.take 4).length = q at *
    refine evK_loop c3_56 _ _ _ _ rfl ?_
    by_cases hz1 : (q : Int) < (l2.length : Int)
    · have hz2 : ¬ (q : Int) < 4 := by omega
      have hz3 : ¬ q < 4 := by omega
      have hz4 : q < l2.length := by omega
      simp (config := { implicitDefEqProofs := false }) [-Int.natCast_add,-St.obj,-St.set,hz1,hz2,hz3,hz4,h6,h9,h14,h15,h16,-Int.not_le,-Int.not_lt,-Nat.not_le,-Nat.not_lt,ty3,ty4,ty22,ty23,ty25,ty26,ty29,ty31,ty32,ty34,ty39,ty40,ty42,hm,hl,hr,fi16_eq,fi36_eq,x15,fi42_eq,p15,fi53_eq,fi54_eq,fi55_eq,k14,x14,fi56_eq,p14,x16,fi57_eq,p16,x18,fi58_eq,p18,x19,fi59_eq,p19,x20,fi60_eq,p20,x21,fi61_eq,p21,x22,fi62_eq,p22,x23,fi63_eq,p23,x24,fi64_eq,p24,x25,fi65_eq,p25,E3,q3_10,q3_38,e3_45,e3_14,e3_12,n3_28,n3_55]
      exact H _ _ _ _ _ _ _ h6 h9 h14 h15 h16
    · have hz4 : ¬ q < l2.length := by omega
      have hz2 : True := trivial
      have hz3 : True := trivial
      simp (config := { implicitDefEqProofs := false }) [-Int.natCast_add,-St.obj,-St.set,hz1,hz2,hz3,hz4,h6,h9,h14,h15,h16,-Int.not_le,-Int.not_lt,-Nat.not_le,-Nat.not_lt,ty3,ty4,ty22,ty23,ty25,ty26,ty29,ty31,ty32,ty34,ty39,ty40,ty42,hm,hl,hr,fi16_eq,fi36_eq,x15,fi42_eq,p15,fi53_eq,fi54_eq,fi55_eq,k14,x14,fi56_eq,p14,x16,fi57_eq,p16,x18,fi58_eq,p18,x19,fi59_eq,p19,x20,fi60_eq,p20,x21,fi61_eq,p21,x22,fi62_eq,p22,x23,fi63_eq,p23,x24,fi64_eq,p24,x25,fi65_eq,p25,E3,q3_10,q3_38,e3_45,e3_14,e3_12,n3_28,n3_55]
      exact H _ _ _ _ _ _ _ h6 h9 h14 h15 h16
  | succ m ih =>
    intro q out e6 e9 e14 e15 e16 T X h6 h9 h14 h15 h16 hq hm2 hf hol
    have h24 : (l2.take 4).length ≤ 4 := by simp; omega
    obtain ⟨x,hx⟩ : ∃ x,(l2.take 4)[q]? = some x := ⟨(l2.take 4)[q]'(by omega),List.getElem?_eq_getElem (by omega)⟩
    have hlt : (q : Int) < ((l2.take 4).length : Int) := by omega
    obtain ⟨hlt2,hxe⟩ := List.getElem?_eq_some_iff.1 hx
    have hw : IntKind.wrap .i64 ((q : Int) + 1) = ((q + 1 : Nat) : Int) := by rw [wrap64 (by omega) (by omega)]; omega
    rw [drop_get hx,List.append_cons] at hf
    have hq4 : (q : Int) < 4 := by omega
    have hq5 : q < 4 := by omega
    have hx' : l2[q]? = some x := by rw [List.getElem?_take_of_lt (by omega)] at hx; exact hx
    obtain ⟨hlt2',hxe'⟩ := List.getElem?_eq_some_iff.1 hx'
    have hlt' : (q : Int) < (l2.length : Int) := by omega
    have hs1 := sizes_ints out
    have hs2 := ints_snoc out x
    have b1 : (out.length + 1) * 8 ≤ 140737488355328 := by omega
    have b2 : out.length + 1 ≤ 140737488355328 := by omega
    have IH := fun e6 e9 e14 e15 e16 T X h6 h9 h14 h15 h16 => ih (q + 1) (out ++ [x]) e6 e9 e14 e15 e16 T X h6 h9 h14 h15 h16 (by omega) (by omega) hf (by simp; omega)
    refine evK_loop c3_56 _ _ _ _ rfl ?_
    simp (config := { implicitDefEqProofs := false }) [-Int.natCast_add,-St.obj,-St.set,-List.append_assoc,h6,h9,h14,h15,h16,hx',hxe',hlt',hlt2',hw,hq4,hq5,hs1,hs2,b1,b2,-Int.not_le,-Int.not_lt,-Nat.not_le,-Nat.not_lt,ty3,ty4,ty22,ty23,ty25,ty26,ty29,ty31,ty32,ty34,ty39,ty40,ty42,hm,hl,hr,fi16_eq,fi36_eq,x15,fi42_eq,p15,fi53_eq,fi54_eq,fi55_eq,k14,x14,fi56_eq,p14,x16,fi57_eq,p16,x18,fi58_eq,p18,x19,fi59_eq,p19,x20,fi60_eq,p20,x21,fi61_eq,p21,x22,fi62_eq,p22,x23,fi63_eq,p23,x24,fi64_eq,p24,x25,fi65_eq,p25,E3,q3_10,q3_38,e3_66,e3_45,e3_14,e3_12,n3_28,n3_55]
    exact IH _ _ _ _ _ _ _ h6 h9 h14 h15 h16
set_option maxHeartbeats 8000000 in
theorem L3_66 (l l2 : List Int) (id : Nat) (g : List Grp) (hg : ∀ x ∈ g,POk x.filter ∧ x.clients.length < 1000) (hgl : g.length ≤ 18) (A : List Attr) (hA : A.length < 1000) (O : List Int) (hO : O.length ≤ 30) (st : St) (h : FeedOk st id) (J : Nat) (hJ : J < 549755700000) :
    ∀ (e6 e9 e13 e14 e15 e16 : E) (T : List (Nat × E)) (X : List (Nat × List V)) (h6 : e6.Firm) (h9 : e9.Tame) (h13 : e13.Tame) (h14 : e14.Tame) (h15 : e15.Tame) (h16 : e16.Tame),
    evK gS fi3 c3_66 { ps := [(0,.val (.slice (intVs l))),(1,.val (.slice (intVs l2))),(4,.val (.bool false)),(5,.val (.ptr id 0)),(6,e6),(7,.val (.slice (encGrps g))),(8,.val (.slice (encGrps g))),(9,e9),(10,.val (.slice (encAttrs A))),(11,.val (.slice (intVs (gmatch g A)))),(12,.own 1 (intVs O)),(13,e13),(14,e14),(15,e15),(16,e16)],ts := T,lc := X } (setF st id l (nA l 0 J)) .nil = some (.ret (.bool true) none,setF st id l (nA l 0 (J + 1 + 1 + 1))) := by
  intro e6 e9 e13 e14 e15 e16 T X h6 h9 h13 h14 h15 h16
  have hm : fi3.marks = [4000047] := rfl
  have hl : fi3.locals = [] := rfl
  have hr : fi3.results = [.tmp 4] := rfl
  have hg2 : ∀ x ∈ g,x.clients.length < 1000 := fun x hx => (hg x hx).2
  have k1 := fun fr => k11 l 0 J id ((g.length : Int) + 2) fr st h (by omega) (by omega) (by omega)
  have k2 := fun fr => k11 l 0 (J + 1) id ((g.length : Int) + 2) fr st h (by omega) (by omega) (by omega)
  have k3 := fun fr => k11 l 0 (J + 1 + 1) id 8 fr st h (by omega) (by omega) (by omega)
  have b1 := fd_bound l 0 J (n := (g.length : Int) + 2) (by omega)
  have b2 := fd_bound l 0 (J + 1) (n := (g.length : Int) + 2) (by omega)
  generalize fd l 0 J ((g.length : Int) + 2) = i1 at *
  generalize fd l 0 (J + 1) ((g.length : Int) + 2) = i2 at *
  generalize fd l 0 (J + 1 + 1) 8 = c0 at *
  have hw : IntKind.wrap .i64 ((g.length : Int) + 2) = (g.length : Int) + 2 := wrap64 (by omega) (by omega)
  have km := fun fr st => k19 g hg (by omega) A (by omega) fr st
  have hml := matchG_len A g 0 []
  have ks := fun fr st => k16 (gmatch g A) (by unfold gmatch; simp at hml; omega) fr st
  have kr := fun fr st => k20 g hg2 (by omega) O (by omega) fr st
  have kr' := fun fr st => k21 g hg2 (by omega) O (by omega) fr st
  have hrl := greaders_len g hg2 O
  have ksr := fun fr st => k16 (greaders g O) (by omega) fr st
  have kn := fun fr st => k24 g hg (by omega) c0 fr st
  have kn' := fun fr st => k25 g hg (by omega) c0 fr st
  have hnl := mineG_len c0 g 0 []
  have ksn := fun fr st => k16 (gmine g c0) (by unfold gmine; simp at hnl; omega) fr st
  have key : ∃ B : List Int,(∀ fr st,callStep gS (EvF gS) 22 [.slice (encGrps g),.int .i64 (i1 - 1),.int .i64 (i2 - 1)] fr st = some (.ok (.val (.slice (intVs B))) fr st)) ∧ (∀ fr st,callStep gS (EvF gS) 23 [.slice (encGrps g),.int .i64 (i1 - 1),.int .i64 (i2 - 1)] fr st = some (.ok (.val (.slice (intVs B))) fr st)) ∧ B.length < 100000 := by
    by_cases hin : 0 ≤ i1 - 1 ∧ i1 - 1 < g.length ∧ 0 ≤ i2 - 1 ∧ i2 - 1 < g.length
    · obtain ⟨a,ha⟩ : ∃ a : Nat,i1 - 1 = (a : Int) := ⟨(i1 - 1).toNat,by omega⟩
      obtain ⟨b,hb⟩ : ∃ b : Nat,i2 - 1 = (b : Int) := ⟨(i2 - 1).toNat,by omega⟩
      have ha2 : a < g.length := by omega
      have hb2 : b < g.length := by omega
      have hu := List.getElem?_eq_getElem ha2
      have hv := List.getElem?_eq_getElem hb2
      have hbl := bothG_len g[b].clients g[a].clients []
      have hul := hg2 _ (List.getElem_mem ha2)
      refine ⟨bothI g[b].clients g[a].clients [],?_,?_,by simp at hbl; omega⟩
      · intro fr st
        rw [ha,hb]
        exact k22 g hg2 (by omega) a b _ _ hu hv fr st
      · intro fr st
        rw [ha,hb]
        exact k23 g hg2 (by omega) a b _ _ hu hv fr st
    · exact ⟨[],fun fr st => kout62 g (by omega) _ _ (by omega) fr st,fun fr st => kout63 g (by omega) _ _ (by omega) fr st,by simp⟩
  obtain ⟨B,kb,kb',hbl⟩ := key
  have ksb := fun fr st => k16 B hbl fr st
  have hw1 : IntKind.wrap .i64 (i1 - 1) = i1 - 1 := wrap64 (by omega) (by omega)
  have hw2 : IntKind.wrap .i64 (i2 - 1) = i2 - 1 := wrap64 (by omega) (by omega)
  generalize greaders g O = RO at *
  generalize gmatch g A = GM at *
  generalize gmine g c0 = GN at *
  simp (config := { implicitDefEqProofs := false }) [-Int.natCast_add,-St.obj,-St.set,h6,h9,h13,h14,h15,h16,hw,hw1,hw2,k1,k2,k3,km,ks,kr,kr',ksr,kb,kb',ksb,kn,kn',ksn,-Int.not_le,-Int.not_lt,-Nat.not_le,-Nat.not_lt,ty3,ty4,ty22,ty23,ty25,ty26,ty29,ty31,ty32,ty34,ty39,ty40,ty42,hm,hl,hr,fi16_eq,fi36_eq,x15,fi42_eq,p15,fi53_eq,fi54_eq,fi55_eq,k14,x14,fi56_eq,p14,x16,fi57_eq,p16,x18,fi58_eq,p18,x19,fi59_eq,p19,x20,fi60_eq,p20,x21,fi61_eq,p21,x22,fi62_eq,p22,x23,fi63_eq,p23,x24,fi64_eq,p24,x25,fi65_eq,p25,E3,q3_10,q3_38,e3_66,e3_45,e3_14,e3_12,n3_28,n3_55]
def rowD (m k : Nat) (ys : List Sub) : Nat := if ys = [] then m + k else m + 1 + k
set_option maxHeartbeats 8000000 in
theorem L3_14 (ys : List Sub) (hy : ∀ s ∈ ys,FFV s.filter ∧ s.filter.length ≤ 3) (hy2 : ys.length ≤ 18) (l l2 : List Int) (st : St) (id : Nat) (h : FeedOk st id) (J : Nat) (hJ : J < 549755600000) (D : Nat) :
    ∀ (e6 : E) (T : List (Nat × E)) (X : List (Nat × List V)) (h6 : e6 = (if ys = [] then .own 0 [] else .val (.slice (encSubs ys)))),
    evK gS fi3 c3_14 { ps := [(0,.val (.slice (intVs l))),(1,.val (.slice (intVs l2))),(4,.val (.bool false)),(5,.val (.ptr id 0)),(6,e6),(7,.val (.slice (encGrps (gof ys)))),(8,.any),(9,.any),(10,.any),(11,.any),(12,.any),(13,.any),(14,.any),(15,.any),(16,.any)],ts := T,lc := X } (setF (dd st D) id l (nA l 0 J)) .nil = some (.ret (.bool true) none,setF (dd st (D + (gof ys).length)) id l (nA l 0 ((attrsV l 0 J).2 + 1 + 1 + 1))) := by
  intro e6 T X h6
  have hm : fi3.marks = [4000047] := rfl
  have hl : fi3.locals = [] := rfl
  have hr : fi3.results = [.tmp 4] := rfl
  have hok : ∀ x ∈ ys,POk x.filter := fun x hx => (psm_ffv (hy x hx)).ok
  have h6f : e6.Firm := by rw [h6]; split <;> rfl
  have hw0 : (setF (dd st D) id l (nA l 0 J)).wp ≤ (setF (dd st D) id l (nA l 0 J)).objs.length := by
    have := h.1; have := h.2
    rw [setF_wp,setF_len,dd_wp,dd_len]; omega
  have k1 := fun fr => k13 ys hok (by omega) fr (setF (dd st D) id l (nA l 0 J)) hw0
  rw [setF_dd (h.dd D),dd_dd] at k1
  have hgl := gof_len ys
  have hg : ∀ x ∈ gof ys,POk x.filter ∧ x.clients.length < 1000 := fun x hx => by
    have := gof_ok hok hx
    exact ⟨this.1,by omega⟩
  have hgn : gof [] = [] := rfl
  generalize D + (gof ys).length = D2 at *
  have h2 := h.dd D2
  have k2 := fun fr => k17 l 0 J id fr (dd st D2) h2 (by omega) (by omega)
  have haa := attrsV_asks l 0 J
  have hal := attrsV_len l 0 J
  generalize attrsV l 0 J = P at *
  obtain ⟨A,J2⟩ := P
  simp only at k2 haa hal ⊢
  have km := fun fr st => k18 (gof ys) hg (by omega) A (by omega) fr st
  have hml := matchG_len A (gof ys) 0 []
  have hml2 : (gmatch (gof ys) A).length ≤ 18 := by unfold gmatch; simp at hml; omega
  have L85 := fun e6 e9 e13 e14 e15 e16 T X h6 h9 h13 h14 h15 h16 => L3_66 l l2 id (gof ys) hg (by omega) A (by omega) (gmatch (gof ys) A ++ l2.take 4) (by simp; omega) (dd st D2) h2 J2 (by omega) e6 e9 e13 e14 e15 e16 T X h6 h9 h13 h14 h15 h16
  generalize hR : (Out.ret (V.bool true) none,setF (dd st D2) id l (nA l 0 (J2 + 1 + 1 + 1))) = R at L85 ⊢
  clear hR
  have LP := fun e6 e9 e14 e15 e16 T X h6 h9 h14 h15 h16 => LP250 A (gmatch (gof ys) A) l l2 id (gof ys) hg (by omega) (setF (dd st D2) id l (nA l 0 J2)) R (gmatch (gof ys) A ++ l2.take 4) (fun e6 e9 e14 e15 e16 T X h6 h9 h14 h15 h16 => L85 e6 e9 _ e14 e15 e16 T X h6 h9 (tame_val _) h14 h15 h16) (l2.take 4).length 0 (gmatch (gof ys) A) e6 e9 e14 e15 e16 T X h6 h9 h14 h15 h16 (Nat.zero_le _) rfl (by rw [List.drop_zero]) (by omega)
  rw [show ((0 : Nat) : Int) = 0 from rfl] at LP
  have H45 : ∀ (e6 e10 e11 e12 e13 e14 e15 e16 : E) (T : List (Nat × E)) (X : List (Nat × List V)),e6.Firm → e10.Tame → e11.Tame → e12.Tame → e13.Tame → e14.Tame → e15.Tame → e16.Tame → evK gS fi3 c3_45 { ps := [(0,.val (.slice (intVs l))),(1,.val (.slice (intVs l2))),(4,.val (.bool false)),(5,.val (.ptr id 0)),(6,e6),(7,.val (.slice (encGrps (gof ys)))),(8,.val (.slice (encGrps (gof ys)))),(9,.val (.int .i64 (gof ys).length)),(10,e10),(11,e11),(12,e12),(13,e13),(14,e14),(15,e15),(16,e16)],ts := T,lc := X } (setF (dd st D2) id l (nA l 0 J)) .nil = some R := by
    intro e6 e10 e11 e12 e13 e14 e15 e16 T X h6 h10 h11 h12 h13 h14 h15 h16
    have hs1 := sizes_ints (gmatch (gof ys) A)
    have b1 : (gmatch (gof ys) A).length * 8 ≤ 140737488355328 := by omega
    have b2 : (gmatch (gof ys) A).length ≤ 140737488355328 := by omega
    generalize gmatch (gof ys) A = M at *
    simp (config := { implicitDefEqProofs := false }) [-Int.natCast_add,-St.obj,-St.set,h6,h10,h11,h12,h13,h14,h15,h16,k2,km,hs1,b1,b2,-Int.not_le,-Int.not_lt,-Nat.not_le,-Nat.not_lt,ty3,ty4,ty22,ty23,ty25,ty26,ty29,ty31,ty32,ty34,ty39,ty40,ty42,hm,hl,hr,fi16_eq,fi36_eq,x15,fi42_eq,p15,fi53_eq,fi54_eq,fi55_eq,k14,x14,fi56_eq,p14,x16,fi57_eq,p16,x18,fi58_eq,p18,x19,fi59_eq,p19,x20,fi60_eq,p20,x21,fi61_eq,p21,x22,fi62_eq,p22,x23,fi63_eq,p23,x24,fi64_eq,p24,x25,fi65_eq,p25,E3,q3_10,q3_38,e3_66,e3_45,e3_14,e3_12,n3_28,n3_55]
    exact LP _ _ _ _ _ _ _ h6 (tame_val _) h14 h15 h16
  have LC := fun e6 e10 e11 e12 e13 e14 e15 e16 T X h6 h10 h11 h12 h13 h14 h15 h16 => LC250 l l2 id (gof ys) hg (by omega) (setF (dd st D2) id l (nA l 0 J)) R H45 (gof ys).length 0 e6 e10 e11 e12 e13 e14 e15 e16 T X h6 h10 h11 h12 h13 h14 h15 h16 (Nat.zero_le _) rfl
  rw [show ((0 : Nat) : Int) = 0 from rfl] at LC
  clear H45 LP L85
  by_cases hn : ys = []
  · rw [if_pos hn] at h6
    subst h6
    rw [hn,show encSubs [] = [] from rfl] at k1
    rw [hn] at LC ⊢
    simp (config := { implicitDefEqProofs := false }) [-Int.natCast_add,-St.obj,-St.set,k1,k14,-Int.not_le,-Int.not_lt,-Nat.not_le,-Nat.not_lt,ty3,ty4,ty22,ty23,ty25,ty26,ty29,ty31,ty32,ty34,ty39,ty40,ty42,hm,hl,hr,fi16_eq,fi36_eq,x15,fi42_eq,p15,fi53_eq,fi54_eq,fi55_eq,k14,x14,fi56_eq,p14,x16,fi57_eq,p16,x18,fi58_eq,p18,x19,fi59_eq,p19,x20,fi60_eq,p20,x21,fi61_eq,p21,x22,fi62_eq,p22,x23,fi63_eq,p23,x24,fi64_eq,p24,x25,fi65_eq,p25,E3,q3_10,q3_38,e3_66,e3_45,e3_14,e3_12,n3_28,n3_55]
    exact LC _ _ _ _ _ _ _ _ _ _ rfl tame_any tame_any tame_any tame_any tame_any tame_any tame_any
  · rw [if_neg hn] at h6
    subst h6
    simp (config := { implicitDefEqProofs := false }) [-Int.natCast_add,-St.obj,-St.set,k1,k14,-Int.not_le,-Int.not_lt,-Nat.not_le,-Nat.not_lt,ty3,ty4,ty22,ty23,ty25,ty26,ty29,ty31,ty32,ty34,ty39,ty40,ty42,hm,hl,hr,fi16_eq,fi36_eq,x15,fi42_eq,p15,fi53_eq,fi54_eq,fi55_eq,k14,x14,fi56_eq,p14,x16,fi57_eq,p16,x18,fi58_eq,p18,x19,fi59_eq,p19,x20,fi60_eq,p20,x21,fi61_eq,p21,x22,fi62_eq,p22,x23,fi63_eq,p23,x24,fi64_eq,p24,x25,fi65_eq,p25,E3,q3_10,q3_38,e3_66,e3_45,e3_14,e3_12,n3_28,n3_55]
    exact LC _ _ _ _ _ _ _ _ _ _ rfl tame_any tame_any tame_any tame_any tame_any tame_any tame_any
theorem sub_frz {st : St} {id : Nat} (h : FeedOk st id) {ys : List Sub} (hn : ys ≠ []) (m k : Nat) (l : List Int) (a : Nat) : frz 6 (setF (dd (nw st m (ys.flatMap Sub.cells)) k) id l a) (.sref false 4 (st.objs.length + m) 0 ys.length) = some (.slice (encSubs ys),setF (dd st (m + 1 + k)) id l a) := by
  rw [frz_row 5 (st.objs.length + m) 4 (by omega) Sub.cells Sub.cells sc_len sc_len (fun _ => rfl) (fun _ => rfl) (fun x => by simp [Sub.cells,flats,V.flat]) ys hn (obj_mid h m k _ l a) (set_mid h m k _ l a)]
  rw [show Nat.blt 1 4 = true from rfl,chunk_enc Sub.cells 4 (by omega) sc_len ys]
  rfl
set_option maxHeartbeats 8000000 in
theorem L3_12 (ys : List Sub) (hy : ∀ s ∈ ys,FFV s.filter ∧ s.filter.length ≤ 3) (hy2 : ys.length ≤ 18) (l l2 : List Int) (st : St) (id : Nat) (h : FeedOk st id) (J : Nat) (hJ : J < 549755600000) (m k : Nat) :
    ∀ (T : List (Nat × E)) (X : List (Nat × List V)),
    evK gS fi3 c3_12 { ps := [(0,.val (.slice (intVs l))),(1,.val (.slice (intVs l2))),(4,.val (.bool false)),(5,.val (.ptr id 0)),(6,(rowE st m ys)),(7,.any),(8,.any),(9,.any),(10,.any),(11,.any),(12,.any),(13,.any),(14,.any),(15,.any),(16,.any)],ts := T,lc := X } (setF (rowS st m k ys) id l (nA l 0 J)) .nil = some (.ret (.bool true) none,setF (dd st (rowD m k ys + (gof ys).length)) id l (nA l 0 ((attrsV l 0 J).2 + 1 + 1 + 1))) := by
  intro T X
  have hm : fi3.marks = [4000047] := rfl
  have hl : fi3.locals = [] := rfl
  have hr : fi3.results = [.tmp 4] := rfl
  have hps : ∀ s ∈ ys,PSm s.filter := fun s hs => psm_ffv (hy s hs)
  have k1 := fun fr st => k12 ys hps (by omega) fr st
  have L14 := fun e6 T X h6 => L3_14 ys hy hy2 l l2 st id h J hJ (rowD m k ys) e6 T X h6
  generalize hR : (Out.ret (V.bool true) none,setF (dd st (rowD m k ys + (gof ys).length)) id l (nA l 0 ((attrsV l 0 J).2 + 1 + 1 + 1))) = R at L14 ⊢
  clear hR
  by_cases hn : ys = []
  · subst hn
    rw [rowE_nil,rowS_nil]
    rw [if_pos rfl,show rowD m k [] = m + k from rfl] at L14
    rw [show encSubs [] = [] from rfl] at k1
    simp (config := { implicitDefEqProofs := false }) [-Int.natCast_add,-St.obj,-St.set,k1,frzM,frzStep,-Int.not_le,-Int.not_lt,-Nat.not_le,-Nat.not_lt,ty3,ty4,ty22,ty23,ty25,ty26,ty29,ty31,ty32,ty34,ty39,ty40,ty42,hm,hl,hr,fi16_eq,fi36_eq,x15,fi42_eq,p15,fi53_eq,fi54_eq,fi55_eq,k14,x14,fi56_eq,p14,x16,fi57_eq,p16,x18,fi58_eq,p18,x19,fi59_eq,p19,x20,fi60_eq,p20,x21,fi61_eq,p21,x22,fi62_eq,p22,x23,fi63_eq,p23,x24,fi64_eq,p24,x25,fi65_eq,p25,E3,q3_10,q3_38,e3_66,e3_45,e3_12,n3_28,n3_55]
    exact L14 _ _ _ rfl
  · rw [rowE_ne hn,rowS_ne hn]
    rw [if_neg hn,show rowD m k ys = m + 1 + k from if_neg hn] at L14
    have hz := sub_frz h hn m k l (nA l 0 J)
    have q5 : ¬ ys.length = 0 := by have := List.length_pos_iff.2 hn; omega
    generalize ys.flatMap Sub.cells = CC at *
    simp (config := { implicitDefEqProofs := false }) [-Int.natCast_add,-St.obj,-St.set,k1,hz,q5,hn,frzM,frzStep,-Int.not_le,-Int.not_lt,-Nat.not_le,-Nat.not_lt,ty3,ty4,ty22,ty23,ty25,ty26,ty29,ty31,ty32,ty34,ty39,ty40,ty42,hm,hl,hr,fi16_eq,fi36_eq,x15,fi42_eq,p15,fi53_eq,fi54_eq,fi55_eq,k14,x14,fi56_eq,p14,x16,fi57_eq,p16,x18,fi58_eq,p18,x19,fi59_eq,p19,x20,fi60_eq,p20,x21,fi61_eq,p21,x22,fi62_eq,p22,x23,fi63_eq,p23,x24,fi64_eq,p24,x25,fi65_eq,p25,E3,q3_10,q3_38,e3_66,e3_45,e3_12,n3_28,n3_55]
    exact L14 _ _ _ rfl
set_option maxHeartbeats 8000000 in
theorem c3 (l l2 : List Int) (st : St) (hst : st.wp ≤ st.objs.length) : ∃ st',EvF gS 3 [.slice (intVs l),.slice (intVs l2)] st = some (.ret (.bool true) none,st') := by
  have hm : fi3.marks = [4000047] := rfl
  have hl : fi3.locals = [] := rfl
  have hr : fi3.results = [.tmp 4] := rfl
  have h := feedOk_new hst
  have n1 := new_feed st l
  have k1 := fun fr => k10 l 0 0 st.objs.length fr (nw st 0 []) h (by omega) (by omega) [0,0,1] (by simp)
  rw [show intVs [0,0,1] = [.int .i64 0,.int .i64 0,.int .i64 1] from rfl] at k1
  have hq := subsW_eq l 0 0 [0,0,1].length
  have hall := subsV_all l 0 0 [0,0,1].length
  have hask := (subsV_asks l 0 0 [0,0,1].length).1
  have hlen := (subsV_asks l 0 0 [0,0,1].length).2
  rw [← hq.1] at hall hlen
  rw [← hq.2] at hask
  clear hq
  generalize subsW l 0 0 [0,0,1].length = P1 at *
  obtain ⟨xs,J,M,D⟩ := P1
  simp only at k1 hall hask hlen
  have hy : ∀ s ∈ xs,FFV s.filter ∧ s.filter.length ≤ 3 := fun s hs => (hall s hs).2.2
  generalize hid : st.objs.length = id at *
  have hE := rowE_firm (nw st 0 []) M xs
  by_cases h1 : 1 < xs.length
  · have h1i : (1 : Int) < (xs.length : Int) := by omega
    have k2 := fun fr => k11 l 0 J id 4 fr (rowS (nw st 0 []) M D xs) (rowS_ok h M D xs) (by omega) (by omega) (by omega)
    have hn : xs ≠ [] := fun hh => by rw [hh] at h1; simp at h1
    by_cases hz : fd l 0 J 4 = 0
    · obtain ⟨x,hx⟩ : ∃ x,xs[0]? = some x := ⟨xs[0]'(by omega),List.getElem?_eq_getElem (by omega)⟩
      obtain ⟨y,hv⟩ : ∃ y,xs[xs.length - 1]? = some y := ⟨xs[xs.length - 1]'(by omega),List.getElem?_eq_getElem (by omega)⟩
      have hsw : swp xs = (xs.set 0 y).set (xs.length - 1) x := by unfold swp; rw [hx,hv]
      have hsl := swp_len xs
      have hsn : swp xs ≠ [] := fun hh => by rw [hh] at hsl; simp at hsl; omega
      have LL := fun T X => L3_12 (swp xs) (fun s hs => hy s (swp_mem hs)) (by omega) l l2 (nw st 0 []) id h (J + 1) (by omega) M D T X
      rw [rowE_ne hsn,rowS_ne hsn,hsl] at LL
      refine ⟨_,EvF_start fi250_eq (fun x h => by cases h) m3 (?_ : _ = some (Out.ret (V.bool true) none,setF (dd (nw st 0 []) (rowD M D (swp xs) + (gof (swp xs)).length)) id l (nA l 0 ((attrsV l 0 (J + 1)).2 + 1 + 1 + 1))))⟩
      generalize hR : (Out.ret (V.bool true) none,setF (dd (nw st 0 []) (rowD M D (swp xs) + (gof (swp xs)).length)) id l (nA l 0 ((attrsV l 0 (J + 1)).2 + 1 + 1 + 1))) = R at LL ⊢
      clear hR
      rw [hsw] at LL
      rw [rowE_ne hn] at k1
      rw [rowS_ne hn] at k1 k2
      have s0 := sc_block hx
      have s1 := sc_block hv
      have p0 := sc_splice hx y
      have hx2 : (xs.set 0 y)[xs.length - 1]? = some y := by rw [List.getElem?_set_ne (by omega)]; exact hv
      have p1 := sc_splice hx2 x
      have o0 := obj_mid h M D (xs.flatMap Sub.cells) l (nA l 0 (J + 1))
      have o1 := obj_mid h M D ((xs.set 0 y).flatMap Sub.cells) l (nA l 0 (J + 1))
      have w0 := fun cs => set_mid' h M D (xs.flatMap Sub.cells) cs l (nA l 0 (J + 1))
      have w1 := fun cs => set_mid' h M D ((xs.set 0 y).flatMap Sub.cells) cs l (nA l 0 (J + 1))
      have c0 := scells_len xs
      have c1 := scells_len (xs.set 0 y)
      rw [List.length_set] at c1
      have hwn : IntKind.wrap .i64 ((xs.length : Int) - 1) = ((xs.length - 1 : Nat) : Int) := by rw [wrap64 (by omega) (by omega)]; omega
      have g1 : xs.length - 1 < xs.length := by omega
      have g1i : ((xs.length - 1 : Nat) : Int) < (xs.length : Int) := by omega
      have g0 : 0 < xs.length := by omega
      have g0i : (0 : Int) < (xs.length : Int) := by omega
      have g4 : (xs.length - 1) * 4 + 4 ≤ xs.length * 4 := by omega
      have g5 : 4 ≤ xs.length * 4 := by omega
      rw [Nat.zero_mul,List.drop_zero] at s0
      rw [Nat.zero_mul] at p0
      generalize ((xs.set 0 y).set (xs.length - 1) x).flatMap Sub.cells = C2 at *
      generalize (xs.set 0 y).flatMap Sub.cells = C1 at *
      generalize xs.flatMap Sub.cells = C0 at *
      simp only [Sub.cells] at s0 s1 p0 p1
      rw [st3]
      simp (config := { implicitDefEqProofs := false }) [-Int.natCast_add,-St.obj,-St.set,n1,hid,k1,k2,hz,h1,h1i,-Int.not_le,-Int.not_lt,-Nat.not_le,-Nat.not_lt,ty3,ty4,ty22,ty23,ty25,ty26,ty29,ty31,ty32,ty34,ty39,ty40,ty42,hm,hl,hr,fi16_eq,fi36_eq,x15,fi42_eq,p15,fi53_eq,fi54_eq,fi55_eq,k14,x14,fi56_eq,p14,x16,fi57_eq,p16,x18,fi58_eq,p18,x19,fi59_eq,p19,x20,fi60_eq,p20,x21,fi61_eq,p21,x22,fi62_eq,p22,x23,fi63_eq,p23,x24,fi64_eq,p24,x25,fi65_eq,p25,E3,q3_38,e3_66,e3_45,e3_14,n3_28,n3_55]
      simp (config := { implicitDefEqProofs := false }) [-Int.natCast_add,-St.obj,-St.set,-splice,s0,s1,p0,p1,o0,o1,w0,w1,c0,c1,hwn,g1,g1i,g0,g0i,g4,g5,-Int.not_le,-Int.not_lt,-Nat.not_le,-Nat.not_lt,ty3,ty4,ty22,ty23,ty25,ty26,ty29,ty31,ty32,ty34,ty39,ty40,ty42,hm,hl,hr,fi16_eq,fi36_eq,x15,fi42_eq,p15,fi53_eq,fi54_eq,fi55_eq,k14,x14,fi56_eq,p14,x16,fi57_eq,p16,x18,fi58_eq,p18,x19,fi59_eq,p19,x20,fi60_eq,p20,x21,fi61_eq,p21,x22,fi62_eq,p22,x23,fi63_eq,p23,x24,fi64_eq,p24,x25,fi65_eq,p25,E3,q3_10,q3_38,e3_66,e3_45,e3_14,n3_28,n3_55]
      exact LL _ _
    · have LL := fun T X => L3_12 xs hy hlen l l2 (nw st 0 []) id h (J + 1) (by omega) M D T X
      refine ⟨_,EvF_start fi250_eq (fun x h => by cases h) m3 (?_ : _ = some (Out.ret (V.bool true) none,setF (dd (nw st 0 []) (rowD M D xs + (gof xs).length)) id l (nA l 0 ((attrsV l 0 (J + 1)).2 + 1 + 1 + 1))))⟩
      generalize (Out.ret (V.bool true) none,setF (dd (nw st 0 []) (rowD M D xs + (gof xs).length)) id l (nA l 0 ((attrsV l 0 (J + 1)).2 + 1 + 1 + 1))) = R at LL ⊢
      rw [rowE_ne hn] at k1 LL
      rw [st3]
      simp (config := { implicitDefEqProofs := false }) [-Int.natCast_add,-St.obj,-St.set,n1,hid,k1,k2,hz,h1,h1i,-Int.not_le,-Int.not_lt,-Nat.not_le,-Nat.not_lt,ty3,ty4,ty22,ty23,ty25,ty26,ty29,ty31,ty32,ty34,ty39,ty40,ty42,hm,hl,hr,fi16_eq,fi36_eq,x15,fi42_eq,p15,fi53_eq,fi54_eq,fi55_eq,k14,x14,fi56_eq,p14,x16,fi57_eq,p16,x18,fi58_eq,p18,x19,fi59_eq,p19,x20,fi60_eq,p20,x21,fi61_eq,p21,x22,fi62_eq,p22,x23,fi63_eq,p23,x24,fi64_eq,p24,x25,fi65_eq,p25,E3,q3_10,q3_38,e3_66,e3_45,e3_14,n3_28,n3_55]
      exact LL _ _
  · have h1i : ¬ (1 : Int) < (xs.length : Int) := by omega
    have LL := fun T X => L3_12 xs hy hlen l l2 (nw st 0 []) id h J (by omega) M D T X
    refine ⟨_,EvF_start fi250_eq (fun x h => by cases h) m3 (?_ : _ = some (Out.ret (V.bool true) none,setF (dd (nw st 0 []) (rowD M D xs + (gof xs).length)) id l (nA l 0 ((attrsV l 0 J).2 + 1 + 1 + 1))))⟩
    generalize (Out.ret (V.bool true) none,setF (dd (nw st 0 []) (rowD M D xs + (gof xs).length)) id l (nA l 0 ((attrsV l 0 J).2 + 1 + 1 + 1))) = R at LL ⊢
    rw [st3]
    by_cases hn : xs = []
    · subst hn
      rw [rowE_nil] at k1 LL
      simp (config := { implicitDefEqProofs := false }) [-Int.natCast_add,-St.obj,-St.set,n1,hid,k1,-Int.not_le,-Int.not_lt,-Nat.not_le,-Nat.not_lt,ty3,ty4,ty22,ty23,ty25,ty26,ty29,ty31,ty32,ty34,ty39,ty40,ty42,hm,hl,hr,fi16_eq,fi36_eq,x15,fi42_eq,p15,fi53_eq,fi54_eq,fi55_eq,k14,x14,fi56_eq,p14,x16,fi57_eq,p16,x18,fi58_eq,p18,x19,fi59_eq,p19,x20,fi60_eq,p20,x21,fi61_eq,p21,x22,fi62_eq,p22,x23,fi63_eq,p23,x24,fi64_eq,p24,x25,fi65_eq,p25,E3,q3_10,q3_38,e3_66,e3_45,e3_14,n3_28,n3_55]
      exact LL _ _
    · rw [rowE_ne hn] at k1 LL
      simp (config := { implicitDefEqProofs := false }) [-Int.natCast_add,-St.obj,-St.set,n1,hid,k1,h1,h1i,-Int.not_le,-Int.not_lt,-Nat.not_le,-Nat.not_lt,ty3,ty4,ty22,ty23,ty25,ty26,ty29,ty31,ty32,ty34,ty39,ty40,ty42,hm,hl,hr,fi16_eq,fi36_eq,x15,fi42_eq,p15,fi53_eq,fi54_eq,fi55_eq,k14,x14,fi56_eq,p14,x16,fi57_eq,p16,x18,fi58_eq,p18,x19,fi59_eq,p19,x20,fi60_eq,p20,x21,fi61_eq,p21,x22,fi62_eq,p22,x23,fi63_eq,p23,x24,fi64_eq,p24,x25,fi65_eq,p25,E3,q3_10,q3_38,e3_66,e3_45,e3_14,n3_28,n3_55]
      exact LL _ _
theorem run250 (l l2 : List Int) : ∃ st',EvF gS 3 [.slice (intVs l),.slice (intVs l2)] ⟨[],0⟩ = some (.ret (.bool true) none,st') := c3 l l2 ⟨[],0⟩ (Nat.le_refl _)
end
end Go.Proofs.Ytdoobejjedpcgaa
namespace Go.Ab
open Go Go.ChangeShapes Go.WideShapes
variable {H : Type} {enc : TypeId × Value → H} {P : Program} {w : World} {base b0 : Nat} {spare : Nat → Bool} {held : Bool} {r : Reach}
theorem arg_ints {t e : TypeId} {k : IntKind} {v : Value} {d : DataW H} {ps : List MemPlace} (ht : P.underlying t = some (.slice e)) (he : P.underlying e = some (.int k)) (hc : P.cellsOf e = 1)
    (hval : Value.okWide P w r b0 t v) (h : DataW.Trod enc P w base spare held t v d ps) : ∃ zs : List Int,Rep K0 w v (.slice (zs.map (V.int k))) ∧ ∀ n ∈ zs,(Lit.int k n).wf = true := by
  obtain ⟨a0,len,cap,rfl⟩ := okWide_slice ht hval
  obtain ⟨fuel,hf⟩ := h
  rcases open_ints ht he hc hf with ⟨hcs,_⟩ | ⟨a,len',cap',zs,hcs,_,hl,hm,hz,_,hcell,hwz⟩
  · simp [Value.cells] at hcs
    obtain ⟨rfl,rfl,rfl⟩ := hcs
    exact ⟨[],.slice0 _ _,by simp⟩
  · simp [Value.cells] at hcs
    obtain ⟨rfl,rfl,rfl⟩ := hcs
    have hzl : len ≤ zs.length := by rw [hz]; split <;> omega
    by_cases h0 : len = 0
    · subst h0; exact ⟨[],.slice0 _ _,by simp⟩
    · refine ⟨zs.take len,?_,fun n hn => hwz n (List.mem_of_mem_take hn)⟩
      obtain ⟨b,off,spot⟩ := a
      have hspot : spot = none := by simpa [Addr.add] using World.cell?_spot (hcell 0 (by omega))
      subst hspot
      have hlen : ((zs.take len).map (V.int k)).length = len := by simp; omega
      have hfl : ((zs.take len).map (V.int k)).flatMap V.cells = (zs.take len).map (V.int k) := by
        generalize zs.take len = l
        induction l with
        | nil => rfl
        | cons x r ih => simp only [List.map_cons,List.flatMap_cons,ih]; rfl
      have key : Rep K0 w (.slice (some (at_ b off)) ((zs.take len).map (V.int k)).length cap) (.slice ((zs.take len).map (V.int k))) := by
        refine .slice (k := 1) (by rw [hlen]; exact hl) (fun x hx => ?_) ?_
        · obtain ⟨n,_,rfl⟩ := List.mem_map.1 hx; rfl
        · rw [hfl]
          refine RepAt.of_get fun j x hx => ?_
          rw [List.getElem?_map,List.getElem?_take] at hx
          split at hx
          · rename_i hj
            have hjz : j < zs.length := by omega
            rw [List.getElem?_eq_getElem hjz] at hx
            simp only [Option.map_some,Option.some.injEq] at hx
            subst hx
            refine ⟨.int k zs[j],⟨?_,rfl⟩,.int _ _⟩
            have := hcell j hjz
            simp only [List.getD,List.getElem?_eq_getElem hjz,Option.getD_some] at this
            rwa [show ({ block := b,off := off } : Addr) = at_ b off from rfl,addr_add] at this
          · cases hx
      rw [hlen] at key
      exact key
end Go.Ab
namespace Go.Ab
open Go Go.ChangeShapes Go.WideShapes
variable {H : Type} {enc : TypeId × Value → H} {P : Program} {w : World} {base b0 : Nat} {spare : Nat → Bool} {held : Bool} {r : Reach}
inductive Ty where
  | bool | int (k : IntKind) | float (k : FloatKind) | str
  | sl (e : Ty)
  | st (fs : List Ty)
mutual
def Ty.size : Ty → Nat
  | .st fs => Ty.sizes fs
  | _ => 1
def Ty.sizes : List Ty → Nat
  | [] => 0
  | f :: r => f.size + Ty.sizes r
end
end Go.Ab
namespace Go.Proofs.Ytdoobejjedpcgaa
open Go Go.Ab Go.ChangeShapes Go.WideShapes Go.ChangeAt Go.RowKit
set_option maxRecDepth 100000 in
theorem groupTells_lifted (os : Os) (started : os.Started) (H : Type) (enc : TypeId × Value → H) :
    ReturnsInHanded {} Try.checked os 3 .any (Rows.groupTellsSpec.pre6 enc Try.prog Try.f3 Rows.groupTellsRow.domain false) (Rows.groupTellsSpec.post enc Try.prog Try.f3 false true false false) := by
  refine returnsInHanded_of_change_sized (C := Try.checked) Try.own started (by kernel_rfl) Try.func3
    (ChangeSpec.witness6 (enc := enc) (C := Try.checked) false ⟨#[],#[.slice none 0 0,.slice none 0 0],[]⟩ 8 (by kernel_rfl) (by kernel_rfl) (by kernel_rfl) (by kernel_rfl)) ?_
  intro W base args ds gs before hval0 hW _ hsz0 _
  have hW' := hW
  obtain ⟨p,q,hA0,hV,rfl,_,_⟩ := hW
  have hA : DataW.TrodAll enc Try.prog W 0 (fun _ => true) true Try.f3.params.toList args.toList ds p := hA0
  have hpar : Try.f3.params = #[22,22] := by kernel_rfl
  have hval : ∀ (j : Nat) t v,Try.f3.params[j]? = some t → args[j]? = some v → Value.okWide Try.prog W .any base t v := hval0
  rw [hpar] at hA hval
  obtain ⟨l⟩ := args
  obtain ⟨v0,l,d0,ds,p0,r0,rfl,rfl,rfl,h0,hA⟩ := trodAll_cons hA
  obtain ⟨v1,l,d1,ds,p1,r1,rfl,rfl,rfl,h1,hA⟩ := trodAll_cons hA
  obtain ⟨rfl,rfl,rfl⟩ := trodAll_nil hA
  obtain ⟨rfl,rfl⟩ := trodVars_none hV
  obtain ⟨x0,a0,_⟩ := arg_ints Try.underlying22 Try.underlying3 (by kernel_rfl) (hval 0 22 v0 rfl rfl) h0
  obtain ⟨x1,a1,_⟩ := arg_ints Try.underlying22 Try.underlying3 (by kernel_rfl) (hval 1 22 v1 rfl rfl) h1
  have hlt : ∀ y ∈ p0 ++ (p1 ++ []) ++ [],y.block < W.heap.size := fun y hy => hW'.lt y hy
  have hr : Reps K0 W [v0,v1] [.slice (intVs x0),.slice (intVs x1)] := .cons a0 (.cons a1 .nil)
  obtain ⟨st',hev⟩ := run250 x0 x1
  obtain ⟨nn,hrun⟩ := EvF_fuel hev
  refine (law_calls (n := nn) (f := 3) (xs := [.slice (intVs x0),.slice (intVs x1)]) (gS_calls nn) (by rw [hrun]) (W := W) (args := #[v0,v1]) hr).mono ?_
  rintro e W' ⟨rfl,hn⟩
  refine ⟨_,rfl,_,_,_,[],p0 ++ (p1 ++ []),[],hW',?_,?_,rfl,hn.frame _,fun h => by cases h⟩
  · exact trodAll_mk1 (shut_bool Try.underlying4 true)
  · exact ⟨p0,_,Below.trod Try.laidOut (by kernel_rfl) (of_decide_eq_true (by kernel_rfl)) h0 hn (fun y hy => hlt y (by simp [hy])),⟨p1,_,Below.trod Try.laidOut (by kernel_rfl) (of_decide_eq_true (by kernel_rfl)) h1 hn (fun y hy => hlt y (by simp [hy])),rfl,rfl⟩,rfl⟩
theorem groupTells_holds : Rows.GroupTellsSaid :=
  OpenClaim.holds_of_wide 3 Try.f3 rfl rfl rfl rfl rfl rfl rfl ⟨rfl,rfl,rfl,rfl,rfl⟩ rfl rfl rfl rfl rfl (by kernel_rfl) Try.func3 (by kernel_rfl)
    (of_decide_eq_true (by kernel_rfl)) (by unfold Func.isWrapper; first | (rw [if_pos (by decide +kernel)]; kernel_rfl) | (rw [if_neg (by decide +kernel)]; exact ⟨rfl,rfl⟩))
    (fun os started H enc _ => groupTells_lifted os started H enc)
#print axioms groupTells_holds
end Go.Proofs.Ytdoobejjedpcgaa
