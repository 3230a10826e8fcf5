/- LinkWindow: no more than a window of rows go out ahead of an acknowledgement; each tick that is not the resend-th sends nothing again; what is acknowledged is a row no more, and makes room. No condition. Part 5. -/
import Derived.Test.YtebjpgoadapabaaK4
set_option linter.unusedVariables false
set_option linter.unusedSimpArgs false
set_option linter.unnecessarySimpa false
set_option maxHeartbeats 8000000
set_option maxRecDepth 20000
open Int renaming not_le → zil, not_lt → zit, natCast_add → zia
open Nat renaming not_le → znl, not_lt → znt
open List renaming getElem?_eq_getElem → zge, getElem?_eq_some_iff → zgs, append_assoc → zaa, mem_of_getElem? → zmg, length_append → zla
namespace Go.Proofs.Ytebjpgoadapabaa
open Go Go.Ab
noncomputable section
variable (fr:Fr)(st:St)(k:Kt)
def fi16:FI:={body:=codeOf Try.f16,ntmps:=2,results:=[.tmp 0],pers:=[0],locals:=[],pure:=true,marks:=[]}
theorem fi16_eq:gS.fn 16=some fi16:=by kernel_rfl
theorem k16 (fr:Fr)(st:St):callStep gS (EvF gS) 16 [] fr st=some (.ok (.val (.bool true)) fr st):=by
 have hc:EvF gS 16 [] ⟨[],0⟩=some (.ret (.bool true) none,⟨[],0⟩):=Evn.lim ⟨400,fun n hn=>by
  obtain ⟨m,rfl⟩:∃ m,n=m+400:=⟨n - 400,by omega⟩
  kernel_rfl⟩
 exact call_pure' rfl fi16_eq rfl rfl ⟨_,hc⟩ rfl
def fi7:FI:={body:=codeOf Try.f7,ntmps:=156,results:=[.tmp 8],pers:=[0,1,2,3,8,9,10,11,12,13,15,17,18,20],locals:=[],pure:=false,marks:=[]}
theorem H7:fi7.marks=[]∧fi7.locals=[]∧fi7.results=[.tmp 8]:=⟨rfl,rfl,rfl⟩
theorem fi7_eq:gS.fn 7=some fi7:=by kernel_rfl
theorem st7 (a0 a1 a2 a3:V):startFr fi7 [a0,a1,a2,a3]={ps:=[(0,.val a0),(1,.val a1),(2,.val a2),(3,.val a3),(8,.any),(9,.any),(10,.any),(11,.any),(12,.any),(13,.any),(15,.any),(17,.any),(18,.any),(20,.any)],ts:=[],lc:=[]}:=rfl
def b7:Code:=mini (codeOf Try.f7)
def c7_14:Code:=.seq (codeN b7 607) .ret
def c7_13:Code:=.cond (.tmp 44) c7_14 .skip
def c7_11:Code:=.seq (codeN b7 159) c7_13
def c7_26:Code:=.cond (.tmp 47) .skip (.exit 0)
def c7_24:Code:=.seq (codeN b7 4287) c7_26
def c7_31:Code:=codeN b7 9407
def c7_32:Code:=codeN b7 7359
def c7_29:Code:=.seq (.block 1 c7_31) c7_32
def c7_23:Code:=.seq c7_24 c7_29
def c7_22:Code:=.loop c7_23
def c7_21:Code:=.block 0 c7_22
def c7_19:Code:=.seq (codeN b7 319) c7_21
def c7_39:Code:=.seq (codeN b7 4863) .ret
def c7_38:Code:=.cond (.tmp 74) c7_39 .skip
def c7_36:Code:=.seq (codeN b7 1279) c7_38
def c7_51:Code:=.cond (.tmp 77) .skip (.exit 2)
def c7_49:Code:=.seq (codeN b7 34303) c7_51
def c7_61:Code:=.seq (codeN b7 1254911) .ret
def c7_60:Code:=.cond (.tmp 85) c7_61 .skip
def c7_58:Code:=.seq (codeN b7 337407) c7_60
def c7_56:Code:=.seq (codeN b7 140799) c7_58
def c7_65:Code:=codeN b7 58879
def c7_54:Code:=.seq (.block 3 c7_56) c7_65
def c7_48:Code:=.seq c7_49 c7_54
def c7_47:Code:=.loop c7_48
def c7_46:Code:=.block 2 c7_47
def c7_44:Code:=.seq (codeN b7 2559) c7_46
def c7_72:Code:=.seq (codeN b7 38911) .ret
def c7_71:Code:=.cond (.tmp 92) c7_72 .skip
def c7_69:Code:=.seq (codeN b7 10239) c7_71
def c7_86:Code:=.seq (codeN b7 393215) .ret
def c7_84:Code:=.seq (codeN b7 196607) c7_86
def c7_82:Code:=.seq (codeN b7 98303) c7_84
def c7_80:Code:=.seq (codeN b7 49151) c7_82
def c7_78:Code:=.seq (codeN b7 24575) c7_80
def c7_76:Code:=.seq (codeN b7 12287) c7_78
theorem e7_76:evK gS fi7 c7_76 fr st k=opsR gS fi7 [mv 93 3 3,
 mv 94 12 3,
 qB 95 .add 3 94 1 3 3,
 cal 96 15 [(.tmp 93),(.tmp 95)] [3,3] 3,
 asn 3 96 3] fr st (.seq c7_78 k):=evK_rs 23 rfl (by kernel_rfl)
def c7_68:Code:=.seq c7_69 c7_76
def c7_66:Code:=.seq (codeN b7 3071) c7_68
theorem e7_66:evK gS fi7 c7_66 fr st k=opsR gS fi7 [mv 86 9 22,
 cal 87 13 [(.tmp 86)] [22] 0] fr st (.seq c7_68 k):=evK_rs 20 rfl (by kernel_rfl)
def c7_43:Code:=.seq c7_44 c7_66
def c7_35:Code:=.seq c7_36 c7_43
def c7_33:Code:=.seq (codeN b7 383) c7_35
theorem e7_33:evK gS fi7 c7_33 fr st k=opsR gS fi7 [mv 55 2 3,
 mv 56 0 3,
 op1 57 (.call {callee:=(.builtin .min),args:=#[(.tmp 55),(.tmp 56)],argTypes:=#[3,3]}) 3,
 asn 12 57 3] fr st (.seq c7_35 k):=evK_rs 11 rfl (by kernel_rfl)
def c7_18:Code:=.seq c7_19 c7_33
def c7_10:Code:=.seq c7_11 c7_18
def c7_8:Code:=.seq (codeN b7 47) c7_10
def c7_6:Code:=.seq (codeN b7 23) c7_8
def c7_4:Code:=.seq (codeN b7 11) c7_6
def c7_2:Code:=.seq (codeN b7 5) c7_4
def c7_0:Code:=.seq (codeN b7 2) c7_2
theorem E7:evK gS fi7 c7_14 fr st k=opsR gS fi7 [qA 8 false 4] fr st (.seq .ret k) ∧
 evK gS fi7 c7_13 fr st k=condK gS fi7 (fr.op (.tmp 44)).bool? c7_14 .skip fr st k ∧
 (evK gS fi7 c7_11 fr st k=opsR gS fi7 [cal 35 16 [] [] 4,
 op1 36 (.unOp .not 4 (.tmp 35)) 4,
 mv 37 36 4,
 qm 38 10 23 2 false,
 qc 39 .neq 23 38 0 23 4 2 false,
 qQ 40 37 true 39 4,
 mv 41 40 4,
 qm 42 9 22 6 false,
 mk (some 43) (.binOp .eql 22 (.tmp 42) (.const (.pointer none)) 22) 4 (some (6,false)),
 qQ 44 41 true 43 4] fr st (.seq c7_13 k)) ∧
 evK gS fi7 c7_26 fr st k=condK gS fi7 (fr.op (.tmp 47)).bool? .skip (.exit 0) fr st k ∧
 (evK gS fi7 c7_24 fr st k=opsR gS fi7 [mv 45 11 3,
 mv 46 2 3,
 bop 47 .lss 3 45 46 3 4] fr st (.seq c7_26 k)) ∧
 (evK gS fi7 c7_31 fr st k=opsR gS fi7 [mv 50 9 22,
 mv 51 11 3,
 op1 52 (.convert 3 5 (.tmp 51)) 5,
 qS 53 27 52 27,
 cal 54 9 [(.tmp 50),(.tmp 53)] [22,27] 0] fr st k) ∧
 (evK gS fi7 c7_32 fr st k=opsR gS fi7 [mv 48 11 3,
 qB 49 .add 3 48 1 3 3,
 asn 11 49 3] fr st k) ∧
 evK gS fi7 c7_29 fr st k=evK gS fi7 c7_31 fr st (.blk 1 (.seq c7_32 k)) ∧
 evK gS fi7 c7_23 fr st k=evK gS fi7 c7_24 fr st (.seq c7_29 k) ∧
 evK gS fi7 c7_21 fr st k=evK gS fi7 c7_22 fr st (.blk 0 k) ∧
 evK gS fi7 c7_19 fr st k=opsR gS fi7 [qI 11 0 3] fr st (.seq c7_21 k) ∧
 evK gS fi7 c7_39 fr st k=opsR gS fi7 [qA 8 false 4] fr st (.seq .ret k) ∧
 evK gS fi7 c7_38 fr st k=condK gS fi7 (fr.op (.tmp 74)).bool? c7_39 .skip fr st k ∧
 (evK gS fi7 c7_36 fr st k=opsR gS fi7 [mv 58 9 22,
 cal 59 10 [(.tmp 58)] [22] 28,
 len1 60 59 28 3,
 mv 61 12 3,
 bop 62 .neq 3 60 61 3 4,
 mv 63 62 4,
 qm 64 9 22 5 false,
 mk (some 65) (.call {callee:=(.value (.func 10)),args:=#[(.tmp 64)],argTypes:=#[22]}) 28 (some (5,false)),
 qe 66 65 28 3 5 false,
 qc 67 .neq 3 66 0 3 4 5 false,
 qQ 68 63 true 67 4,
 mv 69 68 4,
 qm 70 9 22 11 false,
 mk (some 71) (.call {callee:=(.value (.func 11)),args:=#[(.tmp 70)],argTypes:=#[22]}) 3 (some (11,false)),
 qm 72 2 3 11 false,
 qb 73 .neq 3 71 72 3 4 11 false,
 qQ 74 69 true 73 4] fr st (.seq c7_38 k)) ∧
 evK gS fi7 c7_51 fr st k=condK gS fi7 (fr.op (.tmp 77)).bool? .skip (.exit 2) fr st k ∧
 (evK gS fi7 c7_49 fr st k=opsR gS fi7 [mv 75 13 3,
 mv 76 1 3,
 bop 77 .lss 3 75 76 3 4] fr st (.seq c7_51 k)) ∧
 evK gS fi7 c7_61 fr st k=opsR gS fi7 [qA 8 false 4] fr st (.seq .ret k) ∧
 evK gS fi7 c7_60 fr st k=condK gS fi7 (fr.op (.tmp 85)).bool? c7_61 .skip fr st k ∧
 (evK gS fi7 c7_58 fr st k=opsR gS fi7 [mv 82 9 22,
 cal 83 10 [(.tmp 82)] [22] 28,
 len1 84 83 28 3,
 qB 85 .neq 3 84 0 3 4] fr st (.seq c7_60 k)) ∧
 (evK gS fi7 c7_56 fr st k=opsR gS fi7 [mv 80 9 22,
 cal 81 13 [(.tmp 80)] [22] 0] fr st (.seq c7_58 k)) ∧
 (evK gS fi7 c7_65 fr st k=opsR gS fi7 [mv 78 13 3,
 qB 79 .add 3 78 1 3 3,
 asn 13 79 3] fr st k) ∧
 evK gS fi7 c7_54 fr st k=evK gS fi7 c7_56 fr st (.blk 3 (.seq c7_65 k)) ∧
 evK gS fi7 c7_48 fr st k=evK gS fi7 c7_49 fr st (.seq c7_54 k) ∧
 evK gS fi7 c7_46 fr st k=evK gS fi7 c7_47 fr st (.blk 2 k) ∧
 evK gS fi7 c7_44 fr st k=opsR gS fi7 [qI 13 1 3] fr st (.seq c7_46 k) ∧
 evK gS fi7 c7_72 fr st k=opsR gS fi7 [qA 8 false 4] fr st (.seq .ret k) ∧
 evK gS fi7 c7_71 fr st k=condK gS fi7 (fr.op (.tmp 92)).bool? c7_72 .skip fr st k ∧
 (evK gS fi7 c7_69 fr st k=opsR gS fi7 [mv 88 9 22,
 cal 89 10 [(.tmp 88)] [22] 28,
 len1 90 89 28 3,
 mv 91 12 3,
 bop 92 .neq 3 90 91 3 4] fr st (.seq c7_71 k)) ∧
 (evK gS fi7 c7_86 fr st k=opsR gS fi7 [mv 131 15 23,
 qB 132 .eql 23 131 0 23 4,
 mv 133 132 4,
 qm 134 17 23 2 true,
 qc 135 .eql 23 134 0 23 4 2 true,
 qP 136 133 135 false 4,
 mv 137 136 4,
 qm 138 20 23 6 true,
 qc 139 .eql 23 138 1 23 4 6 true,
 qP 140 137 139 false 4,
 mv 141 140 4,
 qm 142 9 22 10 true,
 mk (some 143) (.call {callee:=(.value (.func 11)),args:=#[(.tmp 142)],argTypes:=#[22]}) 3 (some (10,true)),
 qm 144 2 3 10 true,
 qm 145 3 3 10 true,
 qb 146 .sub 3 144 145 3 3 10 true,
 qb 147 .eql 3 143 146 3 4 10 true,
 qP 148 141 147 false 4,
 mv 149 148 4,
 qm 150 9 22 18 true,
 mk (some 151) (.call {callee:=(.value (.func 10)),args:=#[(.tmp 150)],argTypes:=#[22]}) 28 (some (18,true)),
 qe 152 151 28 3 18 true,
 qm 153 18 3 18 true,
 qb 154 .eql 3 152 153 3 4 18 true,
 qP 155 149 154 false 4,
 asn 8 155 4] fr st (.seq .ret k)) ∧
 (evK gS fi7 c7_84 fr st k=opsR gS fi7 [mv 123 9 22,
 mv 124 12 3,
 qB 125 .add 3 124 1 3 3,
 op1 126 (.convert 3 5 (.tmp 125)) 5,
 op1 127 (.buildSlice 27 2 #[(0,(.const (.int .u8 0))),(1,(.tmp 126))]) 27,
 cal 128 12 [(.tmp 123),(.tmp 127)] [22,27] 31,
 mv 122 128 31,
 op1 129 (.extract (.tmp 122) 0) 28,
 op1 130 (.extract (.tmp 122) 1) 23,
 asn 19 129 28,
 asn 20 130 23] fr st (.seq c7_86 k)) ∧
 (evK gS fi7 c7_82 fr st k=opsR gS fi7 [mv 113 2 3,
 mv 114 3 3,
 bop 115 .sub 3 113 114 3 3,
 mv 116 0 3,
 op1 117 (.call {callee:=(.builtin .min),args:=#[(.tmp 115),(.tmp 116)],argTypes:=#[3,3]}) 3,
 mv 118 12 3,
 mv 119 3 3,
 bop 120 .sub 3 118 119 3 3,
 bop 121 .sub 3 117 120 3 3,
 asn 18 121 3] fr st (.seq c7_84 k)) ∧
 (evK gS fi7 c7_80 fr st k=opsR gS fi7 [mv 106 9 22,
 mv 107 3 3,
 op1 108 (.convert 3 5 (.tmp 107)) 5,
 op1 109 (.buildSlice 27 2 #[(0,(.const (.int .u8 0))),(1,(.tmp 108))]) 27,
 cal 110 12 [(.tmp 106),(.tmp 109)] [22,27] 31,
 mv 105 110 31,
 op1 111 (.extract (.tmp 105) 0) 28,
 op1 112 (.extract (.tmp 105) 1) 23,
 asn 16 111 28,
 asn 17 112 23] fr st (.seq c7_82 k)) ∧
 (evK gS fi7 c7_78 fr st k=opsR gS fi7 [mv 98 9 22,
 mv 99 3 3,
 op1 100 (.convert 3 5 (.tmp 99)) 5,
 op1 101 (.buildSlice 27 2 #[(0,(.const (.int .u8 0))),(1,(.tmp 100))]) 27,
 cal 102 12 [(.tmp 98),(.tmp 101)] [22,27] 31,
 mv 97 102 31,
 op1 103 (.extract (.tmp 97) 0) 28,
 op1 104 (.extract (.tmp 97) 1) 23,
 asn 14 103 28,
 asn 15 104 23] fr st (.seq c7_80 k)) ∧
 evK gS fi7 c7_68 fr st k=evK gS fi7 c7_69 fr st (.seq c7_76 k) ∧
 evK gS fi7 c7_43 fr st k=evK gS fi7 c7_44 fr st (.seq c7_66 k) ∧
 evK gS fi7 c7_35 fr st k=evK gS fi7 c7_36 fr st (.seq c7_43 k) ∧
 evK gS fi7 c7_18 fr st k=evK gS fi7 c7_19 fr st (.seq c7_33 k) ∧
 evK gS fi7 c7_10 fr st k=evK gS fi7 c7_11 fr st (.seq c7_18 k) ∧
 (evK gS fi7 c7_8 fr st k=opsR gS fi7 [mv 30 0 3,
 mv 31 1 3,
 cal 32 8 [(.tmp 30),(.tmp 31)] [3,3] 24,
 mv 29 32 24,
 op1 33 (.extract (.tmp 29) 0) 22,
 op1 34 (.extract (.tmp 29) 1) 23,
 asn 9 33 22,
 asn 10 34 23] fr st (.seq c7_10 k)) ∧
 (evK gS fi7 c7_6 fr st k=opsR gS fi7 [mv 27 2 3,
 cal 28 15 [(.tmp 27),(.const (.int .i64 20))] [3,3] 3,
 asn 2 28 3] fr st (.seq c7_8 k)) ∧
 (evK gS fi7 c7_4 fr st k=opsR gS fi7 [mv 24 1 3,
 cal 25 15 [(.tmp 24),(.const (.int .i64 8))] [3,3] 3,
 op1 26 (.binOp .add 3 (.const (.int .i64 1)) (.tmp 25) 3) 3,
 asn 1 26 3] fr st (.seq c7_6 k)) ∧
 (evK gS fi7 c7_2 fr st k=opsR gS fi7 [mv 21 0 3,
 cal 22 15 [(.tmp 21),(.const (.int .i64 8))] [3,3] 3,
 op1 23 (.binOp .add 3 (.const (.int .i64 1)) (.tmp 22) 3) 3,
 asn 0 23 3] fr st (.seq c7_4 k)) ∧
 evK gS fi7 c7_0 fr st k=opsR gS fi7 [qA 8 false 4] fr st (.seq c7_2 k):=⟨evK_rs 6 rfl (by kernel_rfl),rfl,evK_rs 5 rfl (by kernel_rfl),rfl,evK_rs 8 rfl (by kernel_rfl),evK_r 10 (by kernel_rfl),evK_r 9 (by kernel_rfl),rfl,rfl,rfl,evK_rs 7 rfl (by kernel_rfl),evK_rs 13 rfl (by kernel_rfl),rfl,evK_rs 12 rfl (by kernel_rfl),rfl,evK_rs 15 rfl (by kernel_rfl),evK_rs 19 rfl (by kernel_rfl),rfl,evK_rs 18 rfl (by kernel_rfl),evK_rs 17 rfl (by kernel_rfl),evK_r 16 (by kernel_rfl),rfl,rfl,rfl,evK_rs 14 rfl (by kernel_rfl),evK_rs 22 rfl (by kernel_rfl),rfl,evK_rs 21 rfl (by kernel_rfl),evK_rs 28 rfl (by kernel_rfl),evK_rs 27 rfl (by kernel_rfl),evK_rs 26 rfl (by kernel_rfl),evK_rs 25 rfl (by kernel_rfl),evK_rs 24 rfl (by kernel_rfl),rfl,rfl,rfl,rfl,rfl,evK_rs 4 rfl (by kernel_rfl),evK_rs 3 rfl (by kernel_rfl),evK_rs 2 rfl (by kernel_rfl),evK_rs 1 rfl (by kernel_rfl),evK_rs 0 rfl (by kernel_rfl)⟩
theorem m7:mini fi7.body=c7_0:=by kernel_rfl
theorem n7_22 (fr:Fr)(st:St)(k:Kt):nextK gS fi7 (.loop c7_23 k) .normal fr st=evK gS fi7 c7_22 fr st k:=rfl
theorem n7_47 (fr:Fr)(st:St)(k:Kt):nextK gS fi7 (.loop c7_48 k) .normal fr st=evK gS fi7 c7_47 fr st k:=rfl
theorem np10 (e r w z b g:Nat)(o:Bool)(t:Nat)(l:List Row)(hb:b≤800000)(hg:g≤800000)(hl7:l.length≤100000)(hfr:∀ x∈l,x.fr.length≤1000000)(σ:List V→List V→St)(hσ:Hp σ e r (l≠[]))(s1:Nat)(fr:Fr) :
  callStep gS (EvF gS) 10 [.ptr e 0] fr (σ (endC w z (rv r l) b s1 g o t) (rowsV l))=some (.ok (.own (ko (outs w b g s1 o l).1) (encFs (outs w b g s1 o l).1)) (fr.map E.noMem) (σ (endC w z (rv r (outR w l)) b (outs w b g s1 o l).2 g false t) (rowsV (outR w l)))):=by
 rw [call_np rfl fi10_eq rfl (c10 e r w z b g o t l hb hg hl7 hfr σ hσ s1) fr,rv_outR]
 rfl
theorem np13 (e r w z b g:Nat)(o:Bool)(t:Nat)(l:List Row)(ht:t≤1000000)(hb:b≤1000000)(hg:g≤1000000)(hl7:l.length≤100000)(hfr:∀ x∈l,x.fr.length≤1000000)(σ:List V→List V→St)(hσ:Hp σ e r (l≠[]))(s1:Nat)(fr:Fr) :
  callStep gS (EvF gS) 13 [.ptr e 0] fr (σ (endC w z (rv r l) b s1 g o t) (rowsV l))=some (.ok (.val (.tuple [])) (fr.map E.noMem) (σ (endC w z (rv r (tickL z t l).2) b s1 g o (tickL z t l).1) (rowsV (tickL z t l).2))):=by
 rw [call_np rfl fi13_eq rfl (c13 e r w z b g o t l ht hb hg hl7 hfr σ hσ s1) fr,rv_tick]
 rfl
theorem np9 (e r w z b s g:Nat)(o:Bool)(t:Nat)(l:List Row)(f:List UInt8)(hf:f.length≤1000000)(hl7:l.length≤100000)(σ:List V→List V→St)(hσ:Hp σ e r (l≠[])) :
  ∃ σ' r',Hp σ' e r' ((l ++ [(⟨f,false,false⟩:Row)])≠[])∧Bys σ σ' e r r' (l≠[])∧∀ fr,callStep gS (EvF gS) 9 [.ptr e 0,.slice (byteVs f)] fr (σ (endC w z (rv r l) b s g o t) (rowsV l))=some (.ok (.val (.tuple [])) (fr.map E.noMem) (σ' (endC w z (rv r' (l ++ [⟨f,false,false⟩])) b s g o t) (rowsV (l ++ [⟨f,false,false⟩])))):=by
 refine ⟨_,_,hσ.fresh [] [] _ (by simp) (fun C=>by rw [List.length_nil,Nat.add_zero];exact hσ.len C [] [] []),Bys.fresh hσ [],fun fr=>?_⟩
 rw [call_np rfl fi9_eq rfl (c9 e r w z b s g o t l f hf hl7 σ hσ) fr]
 rfl
theorem np12 (e r w z b g:Nat)(o:Bool)(t:Nat)(l:List Row)(hb:b≤800000)(hg:g≤800000)(hl7:l.length≤100000)(hfr:∀ x∈l,x.fr.length≤1000000)(σ:List V→List V→St)(hσ:Hp σ e r (l≠[]))(s1:Nat)(hs1:s1+1≤b+l.length)(B:List UInt8)(hB:B.length≤1000000) :
  ∃ σ' r',Hp σ' e r' ((takeL b s1 g o t l B).l≠[])∧Bys σ σ' e r r' (l≠[])∧∀ fr,callStep gS (EvF gS) 12 [.ptr e 0,.slice (byteVs B)] fr (σ (endC w z (rv r l) b s1 g o t) (rowsV l)) =
   some (.ok (.val (.tuple [.slice (encFs (takeL b s1 g o t l B).fs),.int .i64 (takeL b s1 g o t l B).er])) (fr.map E.noMem) (σ' (endC w z (rv r' (takeL b s1 g o t l B).l) (takeL b s1 g o t l B).b s1 (takeL b s1 g o t l B).g (takeL b s1 g o t l B).o (takeL b s1 g o t l B).t) (rowsV (takeL b s1 g o t l B).l))):=by
 obtain ⟨σ',r',h1,h2,h3⟩:=c12 e r w z b g o t l hb hg hl7 hfr σ hσ s1 hs1 B hB
 refine ⟨σ',r',h1,h2,fun fr=>?_⟩
 rw [call_np rfl fi12_eq rfl h3 fr]
 rfl
theorem W76 (w z n:Nat)(k0:Int)(hw1:1≤w)(hw2:w≤8)(hz1:1≤z)(hz2:z≤8)(hn:n≤19)(l:List Row)(hln:l.length=n)(hR:Rf w 0 l)(hS:Sm l)(r:Nat)(σ:List V→List V→St)(hσ:Hp σ 0 r (l≠[])):∃ st',∀ T,evK gS fi7 c7_76 {ps:=[(0,.val (.int .i64 (w:Nat))),(1,.val (.int .i64 (z:Nat))),(2,.val (.int .i64 (n:Nat))),(3,.val (.int .i64 k0)),(8,.val (.bool false)),(9,.val (.ptr 0 0)),(10,.val (.int .i64 0)),(11,.val (.int .i64 (n:Nat))),(12,.val (.int .i64 (min n w:Nat))),(13,.val (.int .i64 (z:Nat))),(15,.any),(17,.any),(18,.any),(20,.any)],ts:=T,lc:=[]} (σ (endC w z (rv r l) 1 (min n w) 0 false 0) (rowsV l)) .nil=some (.ret (.bool true) none,st'):=by
 have hp:=pickI_bound k0 (m:=((min n w:Nat):Int)+1) (by omega)
 obtain ⟨k,hk⟩:∃ k:Nat,(k:Int)=pickI k0 (((min n w:Nat):Int)+1):=⟨(pickI k0 (((min n w:Nat):Int)+1)).toNat,by omega⟩
 have hkm:k≤min n w:=by omega
 have kp:=fun fr st=>k15 k0 (((min n w:Nat):Int)+1) (by omega) fr st
 rw [← hk] at kp
 have t1:=take_ack (b:=1) (s1:=min n w) (g:=0) (t:=0) (o:=false) (l:=l) (k:=k) (by omega) hkm
 obtain ⟨b2,hb2⟩:∃ b2,b2=(ackL k 1 0 l).1:=⟨_,rfl⟩
 obtain ⟨l2,hl2⟩:∃ l2,l2=(ackL k 1 0 l).2.2:=⟨_,rfl⟩
 have ht2:(ackL k 1 0 l).2.1=0:=by unfold ackL;split <;> rfl
 have hb2v:b2=k+1:=by rw [hb2];unfold ackL;split;rfl;show 1=k+1;omega
 have hl2v:Rf (w - k) 0 l2∧l2.length=n - k∧Sm l2:=by
  rw [hl2];unfold ackL
  split
  ·rw [show k+1 - 1=k from by omega]
   refine ⟨?_,by rw [List.length_mapIdx,List.length_drop,hln],(hS.drop k).map (fun _ _=>rfl)⟩
   have:=(hR.drop k).F3
   exact this
  ·obtain rfl:k=0:=by omega
   exact ⟨hR,by show l.length=n - 0;rw [hln];rfl,hS⟩
 obtain ⟨hR2,hln2,hS2⟩:=hl2v
 have t2:=take_ack (b:=b2) (s1:=min n w) (g:=0) (t:=0) (o:=false) (l:=l2) (k:=k) (by omega) hkm
 have ha2:ackL k b2 0 l2=(b2,0,l2):=by unfold ackL;rw [if_neg (by omega)]
 have t3:=take_far (b:=b2) (s1:=min n w) (g:=0) (t:=0) (o:=false) (l:=l2) (k:=min n w+1) (by omega) (by omega)
 obtain ⟨σ1,r1,hσ1,_,g1⟩:=np12 0 r w z 1 0 false 0 l (by omega) (by omega) (by omega) hS σ hσ (min n w) (by omega) [0,u8 (k:Int)] (by simp)
 rw [t1] at hσ1 g1
 simp only at hσ1 g1
 rw [ht2,← hb2,← hl2] at g1
 rw [← hl2] at hσ1
 obtain ⟨σ2,r2,hσ2,_,g2⟩:=np12 0 r1 w z b2 0 false 0 l2 (by omega) (by omega) (by omega) hS2 σ1 hσ1 (min n w) (by omega) [0,u8 (k:Int)] (by simp)
 rw [t2] at hσ2 g2
 simp only [ha2] at hσ2 g2
 obtain ⟨σ3,r3,hσ3,_,g3⟩:=np12 0 r2 w z b2 0 false 0 l2 (by omega) (by omega) (by omega) hS2 σ2 hσ2 (min n w) (by omega) [0,u8 ((min n w+1:Nat):Int)] (by simp)
 rw [t3] at hσ3 g3
 simp only at hσ3 g3
 rw [← by2] at g1 g2 g3
 have g4:=fun fr=>np10 0 r3 w z b2 0 false 0 l2 (by omega) (by omega) (by omega) hS2 σ3 hσ3 (min n w) fr
 have g5:=fun fr=>k11 0 r3 w z b2 (min n w) 0 false 0 l2 fr (σ3 (endC w z (rv r3 l2) b2 (min n w) 0 false 0) (rowsV l2)) (hσ3.oe _ _)
 obtain ⟨hc,_⟩:=outs_count (w:=w) (b:=b2) (g:=0) (s:=min n w) hR2
 have hlen:(outs w b2 0 (min n w) false l2).1.length=min (n - k) w - (min n w - k):=by rw [hc,hln2];omega
 rw [hln2] at g5
 have hel:=encFs_length (outs w b2 0 (min n w) false l2).1
 rw [hlen] at hel
 have hwa:IntKind.wrap .i64 (((min n w:Nat):Int)+1)=((min n w+1:Nat):Int):=by rw [wrap64 (by omega) (by omega)];omega
 have hwb:IntKind.wrap .i64 ((n:Int) - (k:Int))=((n - k:Nat):Int):=by rw [wrap64 (by omega) (by omega)];omega
 have hwc:IntKind.wrap .i64 (((min n w:Nat):Int) - (k:Int))=((min n w - k:Nat):Int):=by rw [wrap64 (by omega) (by omega)];omega
 have hwd:IntKind.wrap .i64 (((min (n - k) w:Nat):Int) - ((min n w - k:Nat):Int))=((min (n - k) w - (min n w - k):Nat):Int):=by rw [wrap64 (by omega) (by omega)];omega
 have hmi:(if w<n - k then (w:Int) else ((n - k:Nat):Int))=((min (n - k) w:Nat):Int):=by
  split
  ·rw [Nat.min_eq_right (by omega)]
  ·rw [Nat.min_eq_left (by omega)]
 have kp2:=kp
 rw [show ((min n w:Nat):Int)+1=((min n w+1:Nat):Int) from by omega] at kp2
 refine ⟨σ3 (endC w z (rv r3 (outR w l2)) b2 (outs w b2 0 (min n w) false l2).2 0 false 0) (rowsV (outR w l2)),fun T=>?_⟩
 generalize σ3 (endC w z (rv r3 (outR w l2)) b2 (outs w b2 0 (min n w) false l2).2 0 false 0) (rowsV (outR w l2))=ZZ at *
 generalize (outs w b2 0 (min n w) false l2).1=OO at *
 generalize encFs OO=EE at *
 generalize min n w=mm at *
 generalize n - k=nk at *
 simp (config:={implicitDefEqProofs:=false}) [-zia,-St.obj,-St.set,g1,g2,g3,g4,g5,kp2,hel,hwa,hwb,hwc,hwd,hmi,-zil,-zit,-znl,-znt,ty3,ty4,ty5,ty22,ty23,ty27,ty28,H7,k16,E7,e7_76,e7_66,e7_33,n7_22,n7_47]
theorem W66 (w z n:Nat)(k0:Int)(hw1:1≤w)(hw2:w≤8)(hz1:1≤z)(hz2:z≤8)(hn:n≤19)(l:List Row)(hln:l.length=n)(hR:Rf w 0 l)(hS:Sm l)(r:Nat)(σ:List V→List V→St)(hσ:Hp σ 0 r (l≠[])):∃ st',∀ T,evK gS fi7 c7_66 {ps:=[(0,.val (.int .i64 (w:Nat))),(1,.val (.int .i64 (z:Nat))),(2,.val (.int .i64 (n:Nat))),(3,.val (.int .i64 k0)),(8,.val (.bool false)),(9,.val (.ptr 0 0)),(10,.val (.int .i64 0)),(11,.val (.int .i64 (n:Nat))),(12,.val (.int .i64 (min n w:Nat))),(13,.val (.int .i64 (z:Nat))),(15,.any),(17,.any),(18,.any),(20,.any)],ts:=T,lc:=[]} (σ (endC w z (rv r l) 1 (min n w) 0 false (if n=0 then 0 else z - 1)) (rowsV l)) .nil=some (.ret (.bool true) none,st'):=by
 have hne:l=[]↔n=0:=by rw [← hln,List.length_eq_zero_iff]
 obtain ⟨f1,f2,f3⟩:=tick_fl (z:=z) (t:=if n=0 then 0 else z - 1) hR
 obtain ⟨l2,hl2⟩:∃ l2,l2=(tickL z (if n=0 then 0 else z - 1) l).2:=⟨_,rfl⟩
 have hR2:Rf w w l2:=by
  rw [hl2]
  by_cases h0:n=0
  ·have:=hne.2 h0
   subst this
   exact Rf.nil _ _
  ·rw [if_neg h0] at f2 ⊢
   exact f2 (by omega) (by omega)
 have ht2:(tickL z (if n=0 then 0 else z - 1) l).1=0:=by
  rw [f3]
  by_cases h0:n=0
  ·rw [if_pos (.inl (hne.2 h0))]
  ·rw [if_neg (by rw [hne];omega),if_neg h0,if_neg (by omega)]
 have hS2:Sm l2:=by rw [hl2];exact tick_sm hS
 have hln2:l2.length=n:=by rw [hl2,tick_len,hln]
 have hσ2:Hp σ 0 r (l2≠[]):=hσ.weaken (by rw [hl2,Ne,Ne,tick_ne])
 have g1:=fun fr=>np13 0 r w z 1 0 false (if n=0 then 0 else z - 1) l (by split <;> omega) (by omega) (by omega) (by omega) hS σ hσ (min n w) fr
 rw [ht2,← hl2] at g1
 have g2:=fun fr=>np10 0 r w z 1 0 false 0 l2 (by omega) (by omega) (by omega) hS2 σ hσ2 (min n w) fr
 obtain ⟨hc,hc2⟩:=outs_count (w:=w) (b:=1) (g:=0) (s:=min n w) hR2
 have hlen:(outs w 1 0 (min n w) false l2).1.length=min n w:=by rw [hc,hln2];omega
 have hs:(outs w 1 0 (min n w) false l2).2=min n w:=by rw [hc2,if_neg (by omega)]
 have hel:=encFs_length (outs w 1 0 (min n w) false l2).1
 rw [hlen] at hel
 rw [hs] at g2
 obtain ⟨st',H⟩:=W76 w z n k0 hw1 hw2 hz1 hz2 hn (outR w l2) (by rw [outR_len,hln2]) (by have:=outR_fl (w:=w) hR2;rwa [Nat.max_self] at this) (outR_sm hS2) r σ (hσ2.weaken (by rw [Ne,Ne,outR_ne]))
 refine ⟨st',fun T=>?_⟩
 generalize σ (endC w z (rv r (outR w l2)) 1 (min n w) 0 false 0) (rowsV (outR w l2))=ZZ at *
 generalize (outs w 1 0 (min n w) false l2).1=OO at *
 generalize encFs OO=EE at *
 generalize min n w=mm at *
 generalize (if n=0 then 0 else z - 1)=tt at *
 simp (config:={implicitDefEqProofs:=false}) [-zia,-St.obj,-St.set,g1,g2,hel,-zil,-zit,-znl,-znt,ty3,ty4,ty5,ty22,ty23,ty27,ty28,H7,k16,E7,e7_66,e7_33,n7_22,n7_47]
 exact H _
theorem W47 (w z n:Nat)(k0:Int)(hw1:1≤w)(hw2:w≤8)(hz1:1≤z)(hz2:z≤8)(hn:n≤19):∀ (m i:Nat) (l:List Row) (hln:l.length=n) (hR:Rf w 0 l) (hS:Sm l) (r:Nat) (σ:List V→List V→St) (hσ:Hp σ 0 r (l≠[])),1≤i→i+m=z→∃ st',∀ T,evK gS fi7 c7_47 {ps:=[(0,.val (.int .i64 (w:Nat))),(1,.val (.int .i64 (z:Nat))),(2,.val (.int .i64 (n:Nat))),(3,.val (.int .i64 k0)),(8,.val (.bool false)),(9,.val (.ptr 0 0)),(10,.val (.int .i64 0)),(11,.val (.int .i64 (n:Nat))),(12,.val (.int .i64 (min n w:Nat))),(13,.val (.int .i64 (i:Nat))),(15,.any),(17,.any),(18,.any),(20,.any)],ts:=T,lc:=[]} (σ (endC w z (rv r l) 1 (min n w) 0 false (if n=0 then 0 else i - 1)) (rowsV l)) (.blk 2 (.seq c7_66 .nil))=some (.ret (.bool true) none,st'):=by
 intro m
 induction m with
 | zero =>
  intro i l hln hR hS r σ hσ hi him
  obtain rfl:i=z:=by omega
  obtain ⟨st',H⟩:=W66 w i n k0 hw1 hw2 hz1 hz2 hn l hln hR hS r σ hσ
  refine ⟨st',fun T=>evK_loop c7_48 _ _ _ _ rfl ?_⟩
  simp (config:={implicitDefEqProofs:=false}) [-zia,-St.obj,-St.set,-zil,-zit,-znl,-znt,ty3,ty4,ty5,ty22,ty23,ty27,ty28,H7,k16,E7,e7_76,e7_33,n7_22,n7_47]
  exact H _
 | succ m ih =>
  intro i l hln hR hS r σ hσ hi him
  have hne:l=[]↔n=0:=by rw [← hln,List.length_eq_zero_iff]
  obtain ⟨f1,f2,f3⟩:=tick_fl (z:=z) (t:=if n=0 then 0 else i - 1) hR
  obtain ⟨l2,hl2⟩:∃ l2,l2=(tickL z (if n=0 then 0 else i - 1) l).2:=⟨_,rfl⟩
  have hR2:Rf w 0 l2:=by rw [hl2];exact f1 (by split <;> omega)
  have ht2:(tickL z (if n=0 then 0 else i - 1) l).1=if n=0 then 0 else i+1 - 1:=by
   rw [f3]
   by_cases h0:n=0
   ·rw [if_pos (.inl (hne.2 h0)),if_pos h0]
   ·rw [if_neg (by rw [hne];omega),if_neg h0,if_neg h0,if_pos (by omega)];omega
  have hS2:Sm l2:=by rw [hl2];exact tick_sm hS
  have hln2:l2.length=n:=by rw [hl2,tick_len,hln]
  have hσ2:Hp σ 0 r (l2≠[]):=hσ.weaken (by rw [hl2,Ne,Ne,tick_ne])
  have g1:=fun fr=>np13 0 r w z 1 0 false (if n=0 then 0 else i - 1) l (by split <;> omega) (by omega) (by omega) (by omega) hS σ hσ (min n w) fr
  rw [ht2,← hl2] at g1
  have g2:=fun fr=>np10 0 r w z 1 0 false (if n=0 then 0 else i+1 - 1) l2 (by omega) (by omega) (by omega) hS2 σ hσ2 (min n w) fr
  obtain ⟨hc,hc2⟩:=outs_count (w:=w) (b:=1) (g:=0) (s:=min n w) hR2
  have hlen:(outs w 1 0 (min n w) false l2).1.length=0:=by rw [hc,hln2];omega
  have hs:(outs w 1 0 (min n w) false l2).2=min n w:=by rw [hc2,if_neg (by omega)]
  have hel:=encFs_length (outs w 1 0 (min n w) false l2).1
  rw [hlen] at hel
  rw [hs] at g2
  obtain ⟨st',H⟩:=ih (i+1) (outR w l2) (by rw [outR_len,hln2]) (by have:=outR_fl (w:=w) hR2;rwa [Nat.max_self] at this) (outR_sm hS2) r σ (hσ2.weaken (by rw [Ne,Ne,outR_ne])) (by omega) (by omega)
  have hiz:(i:Int)<(z:Int):=by omega
  have hiz2:i<z:=by omega
  have hw  := qws i (by omega)
  refine ⟨st',fun T=>evK_loop c7_48 _ _ _ _ rfl ?_⟩
  generalize σ (endC w z (rv r (outR w l2)) 1 (min n w) 0 false (if n=0 then 0 else i+1 - 1)) (rowsV (outR w l2))=ZZ at *
  generalize (outs w 1 0 (min n w) false l2).1=OO at *
  generalize encFs OO=EE at *
  generalize min n w=mm at *
  generalize (if n=0 then 0 else i - 1)=tt at *
  generalize (if n=0 then 0 else i+1 - 1)=tu at *
  simp (config:={implicitDefEqProofs:=false}) [-zia,-St.obj,-St.set,g1,g2,hel,hiz,hiz2,hw,-zil,-zit,-znl,-znt,ty3,ty4,ty5,ty22,ty23,ty27,ty28,H7,k16,E7,e7_76,e7_66,e7_33,n7_22,n7_47]
  exact H _
theorem W33 (w z n:Nat)(k0:Int)(hw1:1≤w)(hw2:w≤8)(hz1:1≤z)(hz2:z≤8)(hn:n≤19)(l:List Row)(hln:l.length=n)(hR:Rf 0 0 l)(hS:Sm l)(r:Nat)(σ:List V→List V→St)(hσ:Hp σ 0 r (l≠[])):∃ st',∀ T,evK gS fi7 c7_33 {ps:=[(0,.val (.int .i64 (w:Nat))),(1,.val (.int .i64 (z:Nat))),(2,.val (.int .i64 (n:Nat))),(3,.val (.int .i64 k0)),(8,.val (.bool false)),(9,.val (.ptr 0 0)),(10,.val (.int .i64 0)),(11,.val (.int .i64 (n:Nat))),(12,.any),(13,.any),(15,.any),(17,.any),(18,.any),(20,.any)],ts:=T,lc:=[]} (σ (endC w z (rv r l) 1 0 0 false 0) (rowsV l)) .nil=some (.ret (.bool true) none,st'):=by
 obtain ⟨l2,hl2⟩:∃ l2,l2=outR w l:=⟨_,rfl⟩
 have hR2:Rf w 0 l2:=by rw [hl2];have:=outR_fl (w:=w) hR;rwa [Nat.max_eq_right (Nat.zero_le w)] at this
 have hS2:Sm l2:=by rw [hl2];exact outR_sm hS
 have hln2:l2.length=n:=by rw [hl2,outR_len,hln]
 have hσ2:Hp σ 0 r (l2≠[]):=hσ.weaken (by rw [hl2,Ne,Ne,outR_ne])
 have g1:=fun fr=>np10 0 r w z 1 0 false 0 l (by omega) (by omega) (by omega) hS σ hσ 0 fr
 obtain ⟨hc,hc2⟩:=outs_count (w:=w) (b:=1) (g:=0) (s:=0) hR
 have hlen:(outs w 1 0 0 false l).1.length=min n w:=by rw [hc,hln];omega
 have hs:(outs w 1 0 0 false l).2=min n w:=by rw [hc2,hln];split <;> omega
 have hel:=encFs_length (outs w 1 0 0 false l).1
 rw [hlen] at hel
 rw [hs,← hl2] at g1
 have g2:=fun fr=>np10 0 r w z 1 0 false 0 l2 (by omega) (by omega) (by omega) hS2 σ hσ2 (min n w) fr
 obtain ⟨hd,hd2⟩:=outs_count (w:=w) (b:=1) (g:=0) (s:=min n w) hR2
 have hlen2:(outs w 1 0 (min n w) false l2).1.length=0:=by rw [hd,hln2];omega
 have hs2:(outs w 1 0 (min n w) false l2).2=min n w:=by rw [hd2,if_neg (by omega)]
 have hel2:=encFs_length (outs w 1 0 (min n w) false l2).1
 rw [hlen2] at hel2
 rw [hs2] at g2
 have hln3:(outR w l2).length=n:=by rw [outR_len,hln2]
 have hσ3:Hp σ 0 r (outR w l2≠[]):=hσ2.weaken (by rw [Ne,Ne,outR_ne])
 have g3:=fun fr=>k11 0 r w z 1 (min n w) 0 false 0 (outR w l2) fr (σ (endC w z (rv r (outR w l2)) 1 (min n w) 0 false 0) (rowsV (outR w l2))) (hσ3.oe _ _)
 rw [hln3] at g3
 obtain ⟨st',H⟩:=W47 w z n k0 hw1 hw2 hz1 hz2 hn (z - 1) 1 (outR w l2) hln3 (by have:=outR_fl (w:=w) hR2;rwa [Nat.max_self] at this) (outR_sm hS2) r σ hσ3 (by omega) (by omega)
 rw [show (if n=0 then 0 else 1 - 1)=0 from by split <;> rfl] at H
 have hmi:(if w<n then (w:Int) else (n:Int))=((min n w:Nat):Int):=by
  split
  ·rw [Nat.min_eq_right (by omega)]
  ·rw [Nat.min_eq_left (by omega)]
 rw [show ((1:Nat):Int)=1 from rfl] at H
 refine ⟨st',fun T=>?_⟩
 generalize σ (endC w z (rv r (outR w l2)) 1 (min n w) 0 false 0) (rowsV (outR w l2))=ZZ at *
 generalize σ (endC w z (rv r l2) 1 (min n w) 0 false 0) (rowsV l2)=ZY at *
 generalize (outs w 1 0 (min n w) false l2).1=OO at *
 generalize encFs OO=EE at *
 generalize (outs w 1 0 0 false l).1=OP at *
 generalize encFs OP=EF at *
 generalize min n w=mm at *
 simp (config:={implicitDefEqProofs:=false}) [-zia,-St.obj,-St.set,g1,g2,g3,hel,hel2,hmi,-zil,-zit,-znl,-znt,ty3,ty4,ty5,ty22,ty23,ty27,ty28,H7,k16,E7,e7_76,e7_66,e7_33,n7_22,n7_47]
 exact H _
theorem W22 (w z n:Nat)(k0:Int)(hw1:1≤w)(hw2:w≤8)(hz1:1≤z)(hz2:z≤8)(hn:n≤19):∀ (m i:Nat) (l:List Row) (hln:l.length=i) (hR:Rf 0 0 l) (hS:Sm l) (r:Nat) (σ:List V→List V→St) (hσ:Hp σ 0 r (l≠[])),i+m=n→∃ st',∀ T,evK gS fi7 c7_22 {ps:=[(0,.val (.int .i64 (w:Nat))),(1,.val (.int .i64 (z:Nat))),(2,.val (.int .i64 (n:Nat))),(3,.val (.int .i64 k0)),(8,.val (.bool false)),(9,.val (.ptr 0 0)),(10,.val (.int .i64 0)),(11,.val (.int .i64 (i:Nat))),(12,.any),(13,.any),(15,.any),(17,.any),(18,.any),(20,.any)],ts:=T,lc:=[]} (σ (endC w z (rv r l) 1 0 0 false 0) (rowsV l)) (.blk 0 (.seq c7_33 .nil))=some (.ret (.bool true) none,st'):=by
 intro m
 induction m with
 | zero =>
  intro i l hln hR hS r σ hσ him
  obtain rfl:i=n:=by omega
  obtain ⟨st',H⟩:=W33 w z i k0 hw1 hw2 hz1 hz2 hn l hln hR hS r σ hσ
  refine ⟨st',fun T=>evK_loop c7_23 _ _ _ _ rfl ?_⟩
  simp (config:={implicitDefEqProofs:=false}) [-zia,-St.obj,-St.set,-zil,-zit,-znl,-znt,ty3,ty4,ty5,ty22,ty23,ty27,ty28,H7,k16,E7,e7_76,e7_66,n7_22,n7_47]
  exact H _
 | succ m ih =>
  intro i l hln hR hS r σ hσ him
  obtain ⟨σ2,r2,hσ2,_,g1⟩:=np9 0 r w z 1 0 0 false 0 l [u8 (i:Int)] (by simp) (by omega) σ hσ
  obtain ⟨st',H⟩:=ih (i+1) (l ++ [⟨[u8 (i:Int)],false,false⟩]) (by simp [hln]) (hR.snoc _) (hS.snoc (by simp) false false) r2 σ2 hσ2 (by omega)
  rw [← by1] at g1
  have hiz:(i:Int)<(n:Int):=by omega
  have hiz2:i<n:=by omega
  have hw  := qws i (by omega)
  refine ⟨st',fun T=>evK_loop c7_23 _ _ _ _ rfl ?_⟩
  generalize σ2 (endC w z (rv r2 (l ++ [⟨[u8 (i:Int)],false,false⟩])) 1 0 0 false 0) (rowsV (l ++ [⟨[u8 (i:Int)],false,false⟩]))=ZZ at *
  simp (config:={implicitDefEqProofs:=false}) [-zia,-St.obj,-St.set,g1,hiz,hiz2,hw,-zil,-zit,-znl,-znt,ty3,ty4,ty5,ty22,ty23,ty27,ty28,H7,k16,E7,e7_76,e7_66,e7_33,n7_22,n7_47]
  exact H _
theorem run7 (x0 x1 x2 x3:Int):∃ st',EvF gS 7 [.int .i64 x0,.int .i64 x1,.int .i64 x2,.int .i64 x3] ⟨[],0⟩=some (.ret (.bool true) none,st'):=by
 have p0:=pickI_bound x0 (m:=8) (by omega)
 have p1:=pickI_bound x1 (m:=8) (by omega)
 have p2:=pickI_bound x2 (m:=20) (by omega)
 obtain ⟨w,hw⟩:∃ w:Nat,(w:Int)=1+pickI x0 8:=⟨(1+pickI x0 8).toNat,by omega⟩
 obtain ⟨z,hz⟩:∃ z:Nat,(z:Int)=1+pickI x1 8:=⟨(1+pickI x1 8).toNat,by omega⟩
 obtain ⟨n,hn⟩:∃ n:Nat,(n:Int)=pickI x2 20:=⟨(pickI x2 20).toNat,by omega⟩
 have k0:=fun fr st=>k15 x0 8 (by omega) fr st
 have k1:=fun fr st=>k15 x1 8 (by omega) fr st
 have k2:=fun fr st=>k15 x2 20 (by omega) fr st
 rw [← hn] at k2
 have hw0:IntKind.wrap .i64 (1+pickI x0 8)=(w:Int):=by rw [wrap64 (by omega) (by omega),hw]
 have hz0:IntKind.wrap .i64 (1+pickI x1 8)=(z:Int):=by rw [wrap64 (by omega) (by omega),hz]
 have g8:=fun fr=>k8 w z (by omega) (by omega) (by omega) (by omega) fr ⟨[],0⟩
 have hσ:Hp (fun C _=>(⟨[C],0⟩:St)) 0 0 (([]:List Row)≠[]):=⟨fun C _=>rfl,fun C _ C'=>rfl,fun h=>(h rfl).elim,fun h=>(h rfl).elim,fun _ _ _ _=>rfl,fun _ _ _ _=>rfl,fun _ _=>Nat.zero_le _,fun C D C' D' j h1 h2=>by cases j with | zero=>exact (h1 rfl).elim | succ j=>rfl⟩
 obtain ⟨st',H⟩:=W22 w z n x3 (by omega) (by omega) (by omega) (by omega) (by omega) n 0 [] rfl (Rf.nil _ _) Sm.nil 0 (fun C _=>(⟨[C],0⟩:St)) hσ (by omega)
 rw [rv_nil,show ((0:Nat):Int)=0 from rfl] at H
 have hap:apps ⟨[],0⟩ [endC w z (.sref true 0 0 0 0) 1 0 0 false 0]=⟨[endC w z (.sref true 0 0 0 0) 1 0 0 false 0],0⟩:=rfl
 rw [hap] at g8
 refine ⟨st',?_⟩
 refine EvF_start fi7_eq (fun x h=>by cases h <;> decide) m7 ?_
 rw [st7]
 generalize (⟨[endC w z (.sref true 0 0 0 0) 1 0 0 false 0],0⟩:St)=ZZ at *
 generalize pickI x0 8=q0 at *
 generalize pickI x1 8=q1 at *
 generalize pickI x2 20=q2 at *
 simp (config:={implicitDefEqProofs:=false}) [-zia,-St.obj,-St.set,k0,k1,k2,hw0,hz0,g8,-zil,-zit,-znl,-znt,ty3,ty4,ty5,ty22,ty23,ty27,ty28,H7,k16,E7,e7_76,e7_66,e7_33,n7_22,n7_47]
 exact H _
end
end Go.Proofs.Ytebjpgoadapabaa
namespace Go.Ab
open Go Go.ChangeShapes Go.WideShapes
variable {H:Type} {enc:TypeId × Value→H} {P:Program} {w:World} {base b0:Nat} {spare:Nat→Bool} {held:Bool} {r:Reach}
theorem arg_int {t:TypeId} {k:IntKind} {v:Value} (ht:P.underlying t=some (.int k))(hval:Value.okWide P w r b0 t v):∃ n,Rep K0 w v (.int k n):=by
 obtain ⟨n,rfl⟩:=okWide_int ht hval
 exact ⟨n,.int _ _⟩
end Go.Ab
namespace Go.Ab
open Go Go.ChangeShapes Go.WideShapes
variable {H:Type} {enc:TypeId × Value→H} {P:Program} {w:World} {base b0:Nat} {spare:Nat→Bool} {held:Bool} {r:Reach}
inductive Ty where
 | bool | int (k:IntKind) | float (k:FloatKind) | str
 | sl (e:Ty)
 | st (fs:List Ty)
mutual
def Ty.size:Ty→Nat
 | .st fs=>Ty.sizes fs
 | _=>1
def Ty.sizes:List Ty→Nat
 | []=>0
 | f :: r=>f.size+Ty.sizes r
end
end Go.Ab
namespace Go.Proofs.Ytebjpgoadapabaa
open Go Go.Ab Go.ChangeShapes Go.WideShapes Go.ChangeAt Go.RowKit
set_option maxRecDepth 100000 in
theorem linkWindow_lifted (os:Os)(started:os.Started)(H:Type)(enc:TypeId × Value→H) :
  ReturnsInHanded {} Try.checked os 7 .any (Rows.linkWindowSpec.pre6 enc Try.prog Try.f7 Rows.linkWindowRow.domain false) (Rows.linkWindowSpec.post enc Try.prog Try.f7 false true false false):=by
 refine returnsInHanded_of_change_sized (C:=Try.checked) Try.own started (by kernel_rfl) Try.func7
  (ChangeSpec.witness6 (enc:=enc) (C:=Try.checked) false ⟨#[],#[.int .i64 0,.int .i64 0,.int .i64 0,.int .i64 0],[]⟩ 8 (by kernel_rfl) (by kernel_rfl) (by kernel_rfl) (by kernel_rfl)) ?_
 intro W base args ds gs before hval0 hW _ hsz0 _
 have hW':=hW
 obtain ⟨p,q,hA0,hV,rfl,_,_⟩:=hW
 have hA:DataW.TrodAll enc Try.prog W 0 (fun _=>true) true Try.f7.params.toList args.toList ds p:=hA0
 have hpar:Try.f7.params=#[3,3,3,3]:=by kernel_rfl
 have hval:∀ (j:Nat) t v,Try.f7.params[j]?=some t→args[j]?=some v→Value.okWide Try.prog W .any base t v:=hval0
 rw [hpar] at hA hval
 obtain ⟨l⟩:=args
 obtain ⟨v0,l,d0,ds,p0,r0,rfl,rfl,rfl,h0,hA⟩:=trodAll_cons hA
 obtain ⟨v1,l,d1,ds,p1,r1,rfl,rfl,rfl,h1,hA⟩:=trodAll_cons hA
 obtain ⟨v2,l,d2,ds,p2,r2,rfl,rfl,rfl,h2,hA⟩:=trodAll_cons hA
 obtain ⟨v3,l,d3,ds,p3,r3,rfl,rfl,rfl,h3,hA⟩:=trodAll_cons hA
 obtain ⟨rfl,rfl,rfl⟩:=trodAll_nil hA
 obtain ⟨rfl,rfl⟩:=trodVars_none hV
 obtain ⟨x0,a0⟩:=arg_int Try.underlying3 (hval 0 3 v0 rfl rfl)
 obtain ⟨x1,a1⟩:=arg_int Try.underlying3 (hval 1 3 v1 rfl rfl)
 obtain ⟨x2,a2⟩:=arg_int Try.underlying3 (hval 2 3 v2 rfl rfl)
 obtain ⟨x3,a3⟩:=arg_int Try.underlying3 (hval 3 3 v3 rfl rfl)
 have hlt:∀ y∈p0 ++ (p1 ++ (p2 ++ (p3 ++ []))) ++ [],y.block<W.heap.size:=fun y hy=>hW'.lt y hy
 have hr:Reps K0 W [v0,v1,v2,v3] [.int .i64 x0,.int .i64 x1,.int .i64 x2,.int .i64 x3]:=.cons a0 (.cons a1 (.cons a2 (.cons a3 .nil)))
 obtain ⟨st',hev⟩:=run7 x0 x1 x2 x3
 obtain ⟨nn,hrun⟩:=EvF_fuel hev
 refine (law_calls (n:=nn) (f:=7) (xs:=[.int .i64 x0,.int .i64 x1,.int .i64 x2,.int .i64 x3]) (gS_calls nn) (by rw [hrun]) (W:=W) (args:=#[v0,v1,v2,v3]) hr).mono ?_
 rintro e W' ⟨rfl,hn⟩
 refine ⟨_,rfl,_,_,_,[],p0 ++ (p1 ++ (p2 ++ (p3 ++ []))),[],hW',?_,?_,rfl,hn.frame _,fun h=>by cases h⟩
 ·exact trodAll_mk1 (shut_bool Try.underlying4 true)
 ·exact ⟨p0,_,Below.trod Try.laidOut (by kernel_rfl) (of_decide_eq_true (by kernel_rfl)) h0 hn (fun y hy=>hlt y (by simp [hy])),⟨p1,_,Below.trod Try.laidOut (by kernel_rfl) (of_decide_eq_true (by kernel_rfl)) h1 hn (fun y hy=>hlt y (by simp [hy])),⟨p2,_,Below.trod Try.laidOut (by kernel_rfl) (of_decide_eq_true (by kernel_rfl)) h2 hn (fun y hy=>hlt y (by simp [hy])),⟨p3,_,Below.trod Try.laidOut (by kernel_rfl) (of_decide_eq_true (by kernel_rfl)) h3 hn (fun y hy=>hlt y (by simp [hy])),rfl,rfl⟩,rfl⟩,rfl⟩,rfl⟩
theorem linkWindow_holds:Rows.LinkWindowSaid :=
 OpenClaim.holds_of_wide 7 Try.f7 rfl rfl rfl rfl rfl rfl rfl ⟨rfl,rfl,rfl,rfl,rfl⟩ rfl rfl rfl rfl rfl (by kernel_rfl) Try.func7 (by kernel_rfl)
  (of_decide_eq_true (by kernel_rfl)) (by unfold Func.isWrapper;first | (rw [if_pos (by decide +kernel)];kernel_rfl) | (rw [if_neg (by decide +kernel)];exact ⟨rfl,rfl⟩))
  (fun os started H enc _=>linkWindow_lifted os started H enc)
#print axioms linkWindow_holds
end Go.Proofs.Ytebjpgoadapabaa
