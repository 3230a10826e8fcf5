/- whatever is put, ticked, lost, said twice, or strange, an end does and says what the document's does. No condition. Part 6. -/
import Derived.SizedLaws
import Derived.Test.YtebjpgoadapabaaK5
set_option linter.unusedVariables false
set_option linter.unusedSimpArgs false
set_option linter.unnecessarySimpa false
set_option maxHeartbeats 8000000
set_option maxRecDepth 20000
open Int renaming not_le → zil, not_lt → zit, natCast_add → zia
open Nat renaming not_le → znl, not_lt → znt
open List renaming getElem?_eq_getElem → zge, getElem?_eq_some_iff → zgs, append_assoc → zaa, mem_of_getElem? → zmg, length_append → zla
namespace Go.Proofs.Ytebjpgoadapabaa
open Go Go.Ab
noncomputable section
variable (fr:Fr)(st:St)(k:Kt)
def fi26:FI:={body:=codeOf Try.f26,ntmps:=13,results:=[.tmp 4],pers:=[0,1,4],locals:=[],pure:=true,marks:=[]}
theorem H26:fi26.marks=[]∧fi26.locals=[]∧fi26.results=[.tmp 4]:=⟨rfl,rfl,rfl⟩
theorem fi26_eq:gS.fn 26=some fi26:=by kernel_rfl
theorem st26 (a0 a1:V):startFr fi26 [a0,a1]={ps:=[(0,.val a0),(1,.val a1),(4,.any)],ts:=[],lc:=[]}:=rfl
def b26:Code:=mini (codeOf Try.f26)
def c26_2:Code:=.seq (codeN b26 5) .ret
theorem e26_2:evK gS fi26 c26_2 fr st k=opsR gS fi26 [op1 5 (.buildSlice 27 0 #[]) 27,
 mv 6 0 27,
 mv 7 0 27,
 len1 8 7 27 3,
 mv 9 1 3,
 op1 10 (.call {callee:=(.builtin .min),args:=#[(.tmp 8),(.tmp 9)],argTypes:=#[3,3]}) 3,
 op1 11 (.slice 27 (.tmp 6) none (some (.tmp 10)) none) 27,
 qE 12 5 11 27 27,
 asn 4 12 27] fr st (.seq .ret k):=evK_rs 1 rfl (by kernel_rfl)
def c26_0:Code:=.seq (codeN b26 2) c26_2
theorem e26_0:evK gS fi26 c26_0 fr st k=opsR gS fi26 [qN 4 27] fr st (.seq c26_2 k):=evK_rs 0 rfl (by kernel_rfl)
theorem m26:mini fi26.body=c26_0:=by kernel_rfl
theorem take_bytes (bs:List UInt8)(n:Nat):(byteVs bs).take n=byteVs (bs.take n):=by simp [byteVs]
theorem O26 (b:List UInt8)(m:Nat)(hm0:m≤100)(hb:b.length≤140737488355328)(S:St):EvF gS 26 [.slice (byteVs b),.int .i64 (m:Int)] S=some (.ret (.slice (byteVs (b.take m))) (some 1),S):=by
 refine EvF_start fi26_eq (fun x h=>by cases h <;> decide) m26 ?_
 rw [st26]
 have hmi:(if (m:Int)<(b.length:Int) then (m:Int) else (b.length:Int))=((min b.length m:Nat):Int):=by split <;> omega
 have hmi2:(if m<b.length then (m:Int) else (b.length:Int))=((min b.length m:Nat):Int):=by split <;> omega
 have e1:((min b.length m:Nat):Int)≤(b.length:Int):=by omega
 have e1':min b.length m≤b.length:=Nat.min_le_left _ _
 have e2:=take_bytes b (min b.length m)
 have e3:b.take (min b.length m)=b.take m:=by rw [List.take_eq_take_iff];omega
 have hs:=sizes_bytes b
 have hs2:=sizes_bytes (b.take m)
 have hl3:(b.take m).length≤140737488355328:=by rw [List.length_take];omega
 rw [e3] at e2
 generalize b.take m=Q at *
 generalize min b.length m=mm at *
 simp (config:={implicitDefEqProofs:=false}) [-zia,-St.obj,-St.set,-List.map_take,-List.length_take,hmi,hmi2,e1,e1',e2,hs,hs2,hl3,-zil,-zit,-znl,-znt,ty3,ty27,H26,e26_2,e26_0]
theorem k26 (b:List UInt8)(m:Nat)(hm0:m≤100)(hb:b.length≤140737488355328)(fr:Fr)(S:St):callStep gS (EvF gS) 26 [.slice (byteVs b),.int .i64 (m:Int)] fr S=some (.ok (.own 1 (byteVs (b.take m))) fr S) :=
 call_pure rfl fi26_eq rfl (fun S=>O26 b m hm0 hb S) (by simp)
def fi17:FI:={body:=codeOf Try.f17,ntmps:=148,results:=[.tmp 6],pers:=[0,1,2,4,6,7,8,9,10,11],locals:=[4],pure:=false,marks:=[]}
theorem H17:fi17.marks=[]∧fi17.locals=[4]∧fi17.results=[.tmp 6]:=⟨rfl,rfl,rfl⟩
theorem fi17_eq:gS.fn 17=some fi17:=by kernel_rfl
theorem st17 (a0 a1 a2:V):startFr fi17 [a0,a1,a2]={ps:=[(0,.val a0),(1,.val a1),(2,.val a2),(4,.any),(6,.any),(7,.any),(8,.any),(9,.any),(10,.any),(11,.any)],ts:=[],lc:=[]}:=rfl
def b17:Code:=mini (codeOf Try.f17)
def r17_18:Array Oper:=regOps (codeN (codeOf Try.f17) 2735)
def c17_18:Code:=.region 9 r17_18 true
def q17_18:List (Oper × Fl):=[(mv 43 0 35,qz10),
 (mv 44 7 3,qz2),
 (op1 45 (.nilCheck (.tmp 43)) 0,qz2),
 (qF 46 50 45 0 0,qz2),
 (ixa 47 44 46 44 0,qz2),
 (ld 48 22 47 22,qz2),
 (op1 49 (.buildSlice 27 0 #[]) 27,qz0),
 (mv 50 11 27,qz3),
 (qE 51 49 50 27 27,qz4),
 (cal 52 9 [(.tmp 48),(.tmp 51)] [22,27] 0,qz4)]
theorem e17_18:evK gS fi17 c17_18 fr st k=drwR gS fi17 r17_18 q17_18 fr st k:=evK_dr 9 rfl (by kernel_rfl) (by kernel_rfl)
def r17_21:Array Oper:=regOps (codeN (codeOf Try.f17) 7855)
def c17_21:Code:=.region 11 r17_21 true
def q17_21:List (Oper × Fl):=[(mv 61 0 35,qz2),
 (mv 62 7 3,qz2),
 (mv 63 0 35,qz2),
 (mv 64 7 3,qz0),
 (op1 65 (.nilCheck (.tmp 63)) 0,qz0),
 (qF 66 50 65 3 0,qz0),
 (ixa 67 48 66 64 0,qz0),
 (ld 68 43 67 43,qz0),
 (mv 69 11 27,qz0),
 (op1 70 (.convert 27 9 (.tmp 69)) 9,qz0),
 (qS 71 43 70 43,qz0),
 (qE 72 68 71 43 43,qz8),
 (op1 73 (.nilCheck (.tmp 61)) 0,qz9),
 (qF 74 50 73 3 0,qz9),
 (ixa 75 48 74 62 0,qz5),
 (sto 43 75 72,qz4)]
theorem e17_21:evK gS fi17 c17_21 fr st k=drwR gS fi17 r17_21 q17_21 fr st k:=evK_dr 11 rfl (by kernel_rfl) (by kernel_rfl)
def c17_19:Code:=.seq (codeN b17 5807) c17_21
theorem e17_19:evK gS fi17 c17_19 fr st k=opsR gS fi17 [mv 53 0 35,
 mv 54 7 3,
 op1 55 (.nilCheck (.tmp 53)) 0,
 qF 56 50 55 1 0,
 ixa 57 46 56 54 0,
 ld 58 45 57 45,
 mv 59 11 27,
 cal 60 27 [(.tmp 58),(.tmp 59)] [45,27] 0] fr st (.seq c17_21 k):=evK_rs 10 rfl (by kernel_rfl)
def c17_17:Code:=.seq c17_18 c17_19
theorem e17_17:evK gS fi17 c17_17 fr st k=evK gS fi17 c17_18 fr st (.seq c17_19 k):=rfl
def c17_15:Code:=.seq (codeN b17 1199) c17_17
theorem e17_15:evK gS fi17 c17_15 fr st k=opsR gS fi17 [qF 40 40 4 3 0,
 ld 41 27 40 27,
 cal 42 26 [(.tmp 41),(.const (.int .i64 6))] [27,3] 27,
 asn 11 42 27] fr st (.seq c17_17 k):=evK_rs 8 rfl (by kernel_rfl)
def c17_27:Code:=codeN b17 7087
theorem e17_27:evK gS fi17 c17_27 fr st k=opsR gS fi17 [mv 86 0 35,
 mv 87 7 3,
 op1 88 (.nilCheck (.tmp 86)) 0,
 qF 89 50 88 1 0,
 ixa 90 46 89 87 0,
 ld 91 45 90 45,
 cal 92 28 [(.tmp 91)] [45] 0] fr st k:=evK_r 14 (by kernel_rfl)
def c17_25:Code:=.seq (codeN b17 5039) c17_27
theorem e17_25:evK gS fi17 c17_25 fr st k=opsR gS fi17 [mv 79 0 35,
 mv 80 7 3,
 op1 81 (.nilCheck (.tmp 79)) 0,
 qF 82 50 81 0 0,
 ixa 83 44 82 80 0,
 ld 84 22 83 22,
 cal 85 13 [(.tmp 84)] [22] 0] fr st (.seq c17_27 k):=evK_rs 13 rfl (by kernel_rfl)
def c17_34:Code:=.seq (codeN b17 77743) .ret
theorem e17_34:evK gS fi17 c17_34 fr st k=opsR gS fi17 [qA 6 false 4] fr st (.seq .ret k):=evK_rs 17 rfl (by kernel_rfl)
def c17_33:Code:=.cond (.tmp 105) c17_34 .skip
theorem e17_33:evK gS fi17 c17_33 fr st k=condK gS fi17 (fr.op (.tmp 105)).bool? c17_34 .skip fr st k:=rfl
def c17_31:Code:=.seq (codeN b17 20399) c17_33
theorem e17_31:evK gS fi17 c17_31 fr st k=opsR gS fi17 [mv 99 0 35,
 mv 100 7 3,
 qF 101 40 4 3 0,
 ld 102 27 101 27,
 cal 103 26 [(.tmp 102),(.const (.int .i64 5))] [27,3] 27,
 cal 104 29 [(.tmp 99),(.tmp 100),(.tmp 103)] [35,3,27] 4,
 op1 105 (.unOp .not 4 (.tmp 104)) 4] fr st (.seq c17_33 k):=evK_rs 16 rfl (by kernel_rfl)
def c17_45:Code:=codeN b17 196527
theorem e17_45:evK gS fi17 c17_45 fr st k=opsR gS fi17 [mv 112 0 35,
 mv 113 7 3,
 mv 114 9 3,
 cal 115 30 [(.tmp 112),(.tmp 113),(.tmp 114)] [35,3,3] 27] fr st k:=evK_r 20 (by kernel_rfl)
def r17_49:Array Oper:=regOps (codeN (codeOf Try.f17) 786351)
def c17_49:Code:=.region 22 r17_49 true
def q17_49:List (Oper × Fl):=[(mv 123 0 35,qz2),
 (mv 124 7 3,qz2),
 (mv 125 0 35,qz2),
 (mv 126 7 3,qz0),
 (op1 127 (.nilCheck (.tmp 125)) 0,qz0),
 (qF 128 50 127 2 0,qz0),
 (ixa 129 47 128 126 0,qz0),
 (ld 130 28 129 28,qz0),
 (mv 131 0 35,qz2),
 (mv 132 7 3,qz2),
 (op1 133 (.nilCheck (.tmp 131)) 0,qz2),
 (qF 134 50 133 2 0,qz2),
 (ixa 135 47 134 132 0,qz2),
 (ld 136 28 135 28,qz0),
 (mv 137 9 3,qz0),
 (ixa 138 28 136 137 0,qz0),
 (ld 139 27 138 27,qz0),
 (qS 140 28 139 28,qz0),
 (qE 141 130 140 28 28,qz8),
 (op1 142 (.nilCheck (.tmp 123)) 0,qz9),
 (qF 143 50 142 2 0,qz9),
 (ixa 144 47 143 124 0,qz5),
 (sto 28 144 141,qz4)]
theorem e17_49:evK gS fi17 c17_49 fr st k=drwR gS fi17 r17_49 q17_49 fr st k:=evK_dr 22 rfl (by kernel_rfl) (by kernel_rfl)
def c17_53:Code:=.seq (codeN b17 5242799) .ret
theorem e17_53:evK gS fi17 c17_53 fr st k=opsR gS fi17 [qA 6 false 4] fr st (.seq .ret k):=evK_rs 6 rfl (by kernel_rfl)
def c17_52:Code:=.cond (.tmp 36) c17_53 .skip
theorem e17_52:evK gS fi17 c17_52 fr st k=condK gS fi17 (fr.op (.tmp 36)).bool? c17_53 .skip fr st k:=rfl
def c17_50:Code:=.seq (codeN b17 1572783) c17_52
theorem e17_50:evK gS fi17 c17_50 fr st k=opsR gS fi17 [mv 29 0 35,
 mv 30 7 3,
 mv 31 0 35,
 mv 32 7 3,
 mv 33 9 3,
 cal 34 30 [(.tmp 31),(.tmp 32),(.tmp 33)] [35,3,3] 27,
 cal 35 29 [(.tmp 29),(.tmp 30),(.tmp 34)] [35,3,27] 4,
 op1 36 (.unOp .not 4 (.tmp 35)) 4] fr st (.seq c17_52 k):=evK_rs 5 rfl (by kernel_rfl)
def c17_48:Code:=.cond (.tmp 116) c17_49 c17_50
theorem e17_48:evK gS fi17 c17_48 fr st k=condK gS fi17 (fr.op (.tmp 116)).bool? c17_49 c17_50 fr st k:=rfl
def c17_46:Code:=.seq (codeN b17 393135) c17_48
theorem e17_46:evK gS fi17 c17_46 fr st k=opsR gS fi17 [mv 117 10 3,
 qB 118 .eql 3 117 9 3 4,
 mv 119 118 4,
 qm 120 8 3 2 true,
 qc 121 .lss 3 120 40 3 4 2 true,
 qP 122 119 121 false 4,
 asn 116 122 4] fr st (.seq c17_48 k):=evK_rs 21 rfl (by kernel_rfl)
def c17_44:Code:=.cond (.tmp 109) c17_45 c17_46
theorem e17_44:evK gS fi17 c17_44 fr st k=condK gS fi17 (fr.op (.tmp 109)).bool? c17_45 c17_46 fr st k:=rfl
def c17_42:Code:=.seq (codeN b17 98223) c17_44
theorem e17_42:evK gS fi17 c17_42 fr st k=opsR gS fi17 [mv 110 10 3,
 qB 111 .eql 3 110 8 3 4,
 asn 109 111 4] fr st (.seq c17_44 k):=evK_rs 19 rfl (by kernel_rfl)
def c17_40:Code:=.cond (.tmp 106) .skip c17_42
theorem e17_40:evK gS fi17 c17_40 fr st k=condK gS fi17 (fr.op (.tmp 106)).bool? .skip c17_42 fr st k:=rfl
def c17_38:Code:=.seq (codeN b17 24495) c17_40
theorem e17_38:evK gS fi17 c17_38 fr st k=opsR gS fi17 [mv 107 8 3,
 qB 108 .eql 3 107 0 3 4,
 asn 106 108 4] fr st (.seq c17_40 k):=evK_rs 18 rfl (by kernel_rfl)
def c17_30:Code:=.cond (.tmp 93) c17_31 c17_38
theorem e17_30:evK gS fi17 c17_30 fr st k=condK gS fi17 (fr.op (.tmp 93)).bool? c17_31 c17_38 fr st k:=rfl
def c17_28:Code:=.seq (codeN b17 6063) c17_30
theorem e17_28:evK gS fi17 c17_28 fr st k=opsR gS fi17 [mv 94 10 3,
 qB 95 .eql 3 94 10 3 4,
 mv 96 95 4,
 qm 97 2 4 2 true,
 qP 98 96 97 false 4,
 asn 93 98 4] fr st (.seq c17_30 k):=evK_rs 15 rfl (by kernel_rfl)
def c17_24:Code:=.cond (.tmp 76) c17_25 c17_28
theorem e17_24:evK gS fi17 c17_24 fr st k=condK gS fi17 (fr.op (.tmp 76)).bool? c17_25 c17_28 fr st k:=rfl
def c17_22:Code:=.seq (codeN b17 1455) c17_24
theorem e17_22:evK gS fi17 c17_22 fr st k=opsR gS fi17 [mv 77 10 3,
 qB 78 .eql 3 77 2 3 4,
 asn 76 78 4] fr st (.seq c17_24 k):=evK_rs 12 rfl (by kernel_rfl)
def c17_14:Code:=.cond (.tmp 37) c17_15 c17_22
theorem e17_14:evK gS fi17 c17_14 fr st k=condK gS fi17 (fr.op (.tmp 37)).bool? c17_15 c17_22 fr st k:=rfl
def c17_12:Code:=.seq (codeN b17 303) c17_14
theorem e17_12:evK gS fi17 c17_12 fr st k=opsR gS fi17 [mv 38 10 3,
 qB 39 .lss 3 38 2 3 4,
 asn 37 39 4] fr st (.seq c17_14 k):=evK_rs 7 rfl (by kernel_rfl)
def c17_11:Code:=.block 0 c17_12
theorem e17_11:evK gS fi17 c17_11 fr st k=evK gS fi17 c17_12 fr st (.blk 0 k):=rfl
def c17_9:Code:=.seq (codeN b17 79) c17_11
theorem e17_9:evK gS fi17 c17_9 fr st k=opsR gS fi17 [qF 26 40 4 0 0,
 ld 27 3 26 3,
 cal 28 15 [(.tmp 27),(.const (.int .i64 11))] [3,3] 3,
 asn 10 28 3] fr st (.seq c17_11 k):=evK_rs 4 rfl (by kernel_rfl)
def c17_57:Code:=.seq (codeN b17 95) .ret
theorem e17_57:evK gS fi17 c17_57 fr st k=opsR gS fi17 [mv 145 0 35,
 mv 146 7 3,
 cal 147 31 [(.tmp 145),(.tmp 146)] [35,3] 4,
 asn 6 147 4] fr st (.seq .ret k):=evK_rs 23 rfl (by kernel_rfl)
def c17_8:Code:=.seq c17_9 c17_57
theorem e17_8:evK gS fi17 c17_8 fr st k=evK gS fi17 c17_9 fr st (.seq c17_57 k):=rfl
def c17_6:Code:=.seq (codeN b17 23) c17_8
theorem e17_6:evK gS fi17 c17_6 fr st k=opsR gS fi17 [qF 22 40 4 2 0,
 ld 23 3 22 3,
 mv 24 8 3,
 cal 25 15 [(.tmp 23),(.tmp 24)] [3,3] 3,
 asn 9 25 3] fr st (.seq c17_8 k):=evK_rs 3 rfl (by kernel_rfl)
def c17_4:Code:=.seq (codeN b17 11) c17_6
theorem e17_4:evK gS fi17 c17_4 fr st k=opsR gS fi17 [mv 15 0 35,
 mv 16 7 3,
 op1 17 (.nilCheck (.tmp 15)) 0,
 qF 18 50 17 2 0,
 ixa 19 47 18 16 0,
 ld 20 28 19 28,
 len1 21 20 28 3,
 asn 8 21 3] fr st (.seq c17_6 k):=evK_rs 2 rfl (by kernel_rfl)
def c17_2:Code:=.seq (codeN b17 5) c17_4
theorem e17_2:evK gS fi17 c17_2 fr st k=opsR gS fi17 [qF 12 40 4 1 0,
 ld 13 3 12 3,
 cal 14 15 [(.tmp 13),(.const (.int .i64 2))] [3,3] 3,
 asn 7 14 3] fr st (.seq c17_4 k):=evK_rs 1 rfl (by kernel_rfl)
def c17_0:Code:=.seq (codeN b17 2) c17_2
theorem e17_0:evK gS fi17 c17_0 fr st k=opsR gS fi17 [op1 4 (.box 40 (.tmp 1)) 0,
 qA 6 false 4] fr st (.seq c17_2 k):=evK_rs 0 rfl (by kernel_rfl)
theorem m17:mini fi17.body=c17_0:=by kernel_rfl
theorem E17_0 (S:St)(w z c:Nat)(P Q:Nat→LE)(X:Wi)(hc:c≤200)(J:Jn S w z (1000*c+1) (c+1) P Q X):∃ S' P' Q' X',Jn S' w z (1000*(c+1)) (c+1) P' Q' X'∧(Iv P X→Iv P' X')∧∀ fr,callStep gS (EvF gS) 31 [.ptr 0 0,.int .i64 0] fr S=some (.ok (.val (.bool true)) (fr.map E.noMem) S'):=by
 obtain ⟨b1,b2,b3⟩:=J.bo 0 (by omega)
 have hlen:=J.t1
 obtain ⟨o0,o1,o2,o3,o4,o5⟩:=J.ok
 obtain ⟨S',k',hk',N',H⟩:=k31_0 S w z P Q _ _ _ _ _ X.k1 X.t1 (c+1) (by omega) J.net b1 b2 b3 (by omega) (by omega)
 obtain ⟨hol,hof⟩:=outs_le (w:=w) b1
 refine ⟨S',_,_,{X with t1:=X.t1 ++ (P 0).outs w,k1:=k'},⟨N',by refine ⟨?_,?_,o2,o3,o4,o5⟩ <;> assumption,J.bo.upd (Nat.le_refl _) b1.out b2.out (b3.out w),?_,?_,?_,?_,J.p0,J.p1,J.q0,J.q1⟩,fun I=>I.out0 w k' b1.s (by have:=J.p0;omega) (by have:=b1.g;omega),H⟩
 ·have:=J.t0;show X.t0.length≤_;omega
 ·show (X.t1 ++ (P 0).outs w).length≤_;rw [zla];omega
 ·exact J.f0
 ·intro f hf;rcases List.mem_append.1 hf with h | h;exact J.f1 f h;exact hof f h
theorem O17_0p (S:St)(w z c:Nat)(P Q:Nat→LE)(X:Wi)(hc:c≤200)(hz:z≤8)(J:Jn S w z (1000*c) c P Q X)(wh en at_:Int)(bs:List UInt8)(hbs:bs.length≤140737488355328)(odd:Bool)(hi:pickI en 2=0)(v:Nat)(hv:pickI wh 11=(v:Int))(hv2:v<2):∃ S' P' Q' X',Jn S' w z (1000*(c+1)) (c+1) P' Q' X'∧(odd=false→Iv P X→Iv P' X')∧EvF gS 17 [.ptr 0 0,.agg [.int .i64 wh,.int .i64 en,.int .i64 at_,.slice (byteVs bs)],.bool odd] S=some (.ret (.bool true) none,S'):=by
 obtain ⟨b1,b2,b3⟩:=J.bo 0 (by omega)
 obtain ⟨o0,o1,o2,o3,o4,o5⟩:=J.ok
 have ht0:=J.t0
 have ht1:=J.t1
 have N:=J.net
 have q1:=fun fr st=>k15 en 2 (by omega) fr st
 have q2:=fun fr st=>k15 at_ (X.t0.length:Int) (by omega) fr st
 have q3:=fun fr st=>k15 wh 11 (by omega) fr st
 rw [hi] at q1
 rw [hv] at q3
 have ow:=N.o
 unfold Wi.c at ow
 have hvi:(v:Int)<2:=by omega
 have hf6:(bs.take 6).length≤1000:=by rw [List.length_take];omega
 have kf:=fun fr st=>k26 bs 6 (by omega) hbs fr st
 rw [show ((6:Nat):Int)=6 from rfl] at kf
 obtain ⟨f,hff⟩:∃ f,f=bs.take 6:=⟨_,rfl⟩
 rw [← hff] at kf hf6
 obtain ⟨S1,r,N1,g1⟩:=P_put N (i:=0) (by omega) (by omega) b1 f hf6
 obtain ⟨S2,N2,g2⟩:=Q_put N1 (i:=0) (by omega) (by omega) b2 f hf6 0
 have g1':∀ fr,callStep gS (EvF gS) 9 [.ptr 1 0,.slice (byteVs f)] fr S=_:=g1
 have g2':∀ fr,callStep gS (EvF gS) 27 [.ptr 2 0,.slice (byteVs f)] fr S1=_:=g2
 have ow1:=N1.o
 have ow2:=N2.o
 unfold Wi.c at ow1 ow2
 obtain ⟨S3,h3,N3⟩:=N2.hold [.ptr 1 0,.ptr 3 0,.ptr 2 0,.ptr 4 0,.osl X.k0 (encFs X.t0),.osl X.k1 (encFs X.t1),.slice (encSs X.p0),.osl X.k3 (encSs X.p1),.osl X.k4 (encSs X.q0),.osl X.k5 (encSs X.q1)]
 obtain ⟨S4,h4,N4⟩:=N3.hold [.ptr 1 0,.ptr 3 0,.ptr 2 0,.ptr 4 0,.osl X.k0 (encFs X.t0),.osl X.k1 (encFs X.t1),.osl 1 (encSs (X.p0 ++ [f])),.osl X.k3 (encSs X.p1),.osl X.k4 (encSs X.q0),.osl X.k5 (encSs X.q1)]
 have ow3:=N3.o
 obtain ⟨S',P',Q',X',J',V,H⟩:=E17_0 S4 w z c _ _ {X with p0:=X.p0 ++ [f],k2:=1} hc ⟨N4,by refine ⟨?_,?_,?_,?_,?_,?_⟩ <;> first | assumption | exact Nat.le_refl 1,J.bo.upd (Nat.le_succ c) (b1.put hf6 r) (b2.put hf6 0) (b3.put f r 0),by show X.t0.length≤_;omega,by show X.t1.length≤_;omega,J.f0,J.f1,by show (X.p0 ++ [f]).length≤_;rw [zla];have:=J.p0;simp;omega,Nat.le_succ_of_le J.p1,Nat.le_succ_of_le J.q0,Nat.le_succ_of_le J.q1⟩
 have hs1:=sizes_ss X.p0
 have hs2:=ss_snoc X.p0 f
 have hs3:=sizes_bytes f
 have lp:=J.p0
 have c1:(X.p0.length+1)*16≤140737488355328:=by omega
 have c2:X.p0.length+1≤140737488355328:=by omega
 have c3:f.length≤140737488355328:=by omega
 have hkk:X.k2=0∨X.k2=1:=by omega
 have hbo:=bytes_of f
 have bo1:borOk r17_18 7 11 50=false:=by kernel_rfl
 have bo2:borOk r17_21 8 11 69=false:=by kernel_rfl
 refine ⟨S',P',Q',X',J',fun _ I=>V (I.put0 f r),?_⟩
 refine EvF_start fi17_eq (fun x h=>by cases h <;> decide) m17 ?_
 rw [st17]
 generalize pickI at_ (X.t0.length:Int)=qa at *
 simp (config:={implicitDefEqProofs:=false}) [-zia,-zaa,-St.obj,-St.set,q1,q2,q3,ow,H,w64_0,w64_1,bo1,bo2,hvi,hv2,kf,g1',g2',ow1,ow2,ow3,h3,h4,hs1,hs2,hs3,c1,c2,c3,hkk,hbo,u8_27,-zil,-zit,-znl,-znt,ty3,ty4,ty9,ty22,ty27,ty28,ty35,ty40,ty43,ty44,ty45,ty46,ty47,ty48,ty50,H17,x15,fi15_eq,p15,e17_18,q17_18,e17_21,q17_21,e17_19,e17_17,e17_15,e17_27,e17_25,e17_34,e17_33,e17_31,e17_45,e17_49,q17_49,e17_53,e17_52,e17_50,e17_48,e17_46,e17_44,e17_42,e17_40,e17_38,e17_30,e17_28,e17_24,e17_22,e17_14,e17_12,e17_11,e17_9,e17_57,e17_8,e17_6,e17_4,e17_2,e17_0]
theorem O17_0t (S:St)(w z c:Nat)(P Q:Nat→LE)(X:Wi)(hc:c≤200)(hz:z≤8)(J:Jn S w z (1000*c) c P Q X)(wh en at_:Int)(bs:List UInt8)(hbs:bs.length≤140737488355328)(odd:Bool)(hi:pickI en 2=0)(v:Nat)(hv:pickI wh 11=(v:Int))(hv2:v=2):∃ S' P' Q' X',Jn S' w z (1000*(c+1)) (c+1) P' Q' X'∧(odd=false→Iv P X→Iv P' X')∧EvF gS 17 [.ptr 0 0,.agg [.int .i64 wh,.int .i64 en,.int .i64 at_,.slice (byteVs bs)],.bool odd] S=some (.ret (.bool true) none,S'):=by
 obtain ⟨b1,b2,b3⟩:=J.bo 0 (by omega)
 obtain ⟨o0,o1,o2,o3,o4,o5⟩:=J.ok
 have ht0:=J.t0
 have ht1:=J.t1
 have N:=J.net
 have q1:=fun fr st=>k15 en 2 (by omega) fr st
 have q2:=fun fr st=>k15 at_ (X.t0.length:Int) (by omega) fr st
 have q3:=fun fr st=>k15 wh 11 (by omega) fr st
 rw [hi] at q1
 rw [hv] at q3
 have ow:=N.o
 unfold Wi.c at ow
 subst hv2
 obtain ⟨S1,N1,g1⟩:=P_tick N (i:=0) (by omega) (by omega) b1
 obtain ⟨S2,N2,g2⟩:=Q_tick N1 (i:=0) (by omega) (by omega) b2
 have g1':∀ fr,callStep gS (EvF gS) 13 [.ptr 1 0] fr S=_:=g1
 have g2':∀ fr,callStep gS (EvF gS) 28 [.ptr 2 0] fr S1=_:=g2
 have ow1:=N1.o
 unfold Wi.c at ow1
 obtain ⟨S',P',Q',X',J',V,H⟩:=E17_0 S2 w z c _ _ X hc ⟨N2,J.ok,J.bo.upd (Nat.le_succ c) ((b1.tick hz).mono (Nat.le_succ c)) ((b2.tick hz).mono (Nat.le_succ c)) (b3.tick z),by omega,by omega,J.f0,J.f1,Nat.le_succ_of_le J.p0,Nat.le_succ_of_le J.p1,Nat.le_succ_of_le J.q0,Nat.le_succ_of_le J.q1⟩
 refine ⟨S',P',Q',X',J',fun _ I=>V (I.tick0 z),?_⟩
 refine EvF_start fi17_eq (fun x h=>by cases h <;> decide) m17 ?_
 rw [st17]
 generalize pickI at_ (X.t0.length:Int)=qa at *
 simp (config:={implicitDefEqProofs:=false}) [-zia,-zaa,-St.obj,-St.set,q1,q2,q3,ow,H,w64_0,w64_1,g1',g2',ow1,-zil,-zit,-znl,-znt,ty3,ty4,ty9,ty22,ty27,ty28,ty35,ty40,ty43,ty44,ty45,ty46,ty47,ty48,ty50,H17,x15,fi15_eq,p15,e17_18,q17_18,e17_21,q17_21,e17_19,e17_17,e17_15,e17_27,e17_25,e17_34,e17_33,e17_31,e17_45,e17_49,q17_49,e17_53,e17_52,e17_50,e17_48,e17_46,e17_44,e17_42,e17_40,e17_38,e17_30,e17_28,e17_24,e17_22,e17_14,e17_12,e17_11,e17_9,e17_57,e17_8,e17_6,e17_4,e17_2,e17_0]
theorem O17_0x (S:St)(w z c:Nat)(P Q:Nat→LE)(X:Wi)(hc:c≤200)(hz:z≤8)(J:Jn S w z (1000*c) c P Q X)(wh en at_:Int)(bs:List UInt8)(hbs:bs.length≤140737488355328)(odd:Bool)(hi:pickI en 2=0)(v:Nat)(hv:pickI wh 11=(v:Int))(hv2:v=10)(ho:odd=true):∃ S' P' Q' X',Jn S' w z (1000*(c+1)) (c+1) P' Q' X'∧(odd=false→Iv P X→Iv P' X')∧EvF gS 17 [.ptr 0 0,.agg [.int .i64 wh,.int .i64 en,.int .i64 at_,.slice (byteVs bs)],.bool odd] S=some (.ret (.bool true) none,S'):=by
 obtain ⟨b1,b2,b3⟩:=J.bo 0 (by omega)
 obtain ⟨o0,o1,o2,o3,o4,o5⟩:=J.ok
 have ht0:=J.t0
 have ht1:=J.t1
 have N:=J.net
 have q1:=fun fr st=>k15 en 2 (by omega) fr st
 have q2:=fun fr st=>k15 at_ (X.t0.length:Int) (by omega) fr st
 have q3:=fun fr st=>k15 wh 11 (by omega) fr st
 rw [hi] at q1
 rw [hv] at q3
 have ow:=N.o
 unfold Wi.c at ow
 subst hv2 ho
 have hf5:(bs.take 5).length≤100000:=by rw [List.length_take];omega
 have kf:=fun fr st=>k26 bs 5 (by omega) hbs fr st
 rw [show ((5:Nat):Int)=5 from rfl] at kf
 have lq:=J.q0
 obtain ⟨S1,k',r,hk',N1,g1⟩:=k29_0 S w z P Q _ _ _ _ _ X.k4 X.q0 c (by omega) N b1 b2 b3 (by omega) (by omega) (bs.take 5) hf5 (tk_out _ _)
 have lo:=tk_out (P 0) (bs.take 5)
 obtain ⟨S',P',Q',X',J',V,H⟩:=E17_0 S1 w z c _ _ {X with q0:=X.q0 ++ ((P 0).tk (bs.take 5)).out,k4:=k'} hc ⟨N1,by refine ⟨?_,?_,?_,?_,?_,?_⟩ <;> assumption,J.bo.upd (Nat.le_succ c) (b1.take _ r) (b2.take _ 0) (b3.take _ r 0),by show X.t0.length≤_;omega,by show X.t1.length≤_;omega,J.f0,J.f1,Nat.le_succ_of_le J.p0,Nat.le_succ_of_le J.p1,by show (X.q0 ++ _).length≤_;rw [zla];omega,Nat.le_succ_of_le J.q1⟩
 refine ⟨S',P',Q',X',J',fun h _=>(by cases h),?_⟩
 generalize bs.take 5=f5 at *
 refine EvF_start fi17_eq (fun x h=>by cases h <;> decide) m17 ?_
 rw [st17]
 generalize pickI at_ (X.t0.length:Int)=qa at *
 simp (config:={implicitDefEqProofs:=false}) [-zia,-zaa,-St.obj,-St.set,q1,q2,q3,ow,H,w64_0,w64_1,kf,g1,-zil,-zit,-znl,-znt,ty3,ty4,ty9,ty22,ty27,ty28,ty35,ty40,ty43,ty44,ty45,ty46,ty47,ty48,ty50,H17,x15,fi15_eq,p15,e17_18,q17_18,e17_21,q17_21,e17_19,e17_17,e17_15,e17_27,e17_25,e17_34,e17_33,e17_31,e17_45,e17_49,q17_49,e17_53,e17_52,e17_50,e17_48,e17_46,e17_44,e17_42,e17_40,e17_38,e17_30,e17_28,e17_24,e17_22,e17_14,e17_12,e17_11,e17_9,e17_57,e17_8,e17_6,e17_4,e17_2,e17_0]
theorem O17_0nt (S:St)(w z c:Nat)(P Q:Nat→LE)(X:Wi)(hc:c≤200)(hz:z≤8)(J:Jn S w z (1000*c) c P Q X)(wh en at_:Int)(bs:List UInt8)(hbs:bs.length≤140737488355328)(odd:Bool)(hi:pickI en 2=0)(v:Nat)(hv:pickI wh 11=(v:Int))(hod:odd=true)(hv2:3≤v)(h10:v≠10)(h0:X.t0=[]):∃ S' P' Q' X',Jn S' w z (1000*(c+1)) (c+1) P' Q' X'∧(odd=false→Iv P X→Iv P' X')∧EvF gS 17 [.ptr 0 0,.agg [.int .i64 wh,.int .i64 en,.int .i64 at_,.slice (byteVs bs)],.bool odd] S=some (.ret (.bool true) none,S'):=by
 obtain ⟨b1,b2,b3⟩:=J.bo 0 (by omega)
 obtain ⟨o0,o1,o2,o3,o4,o5⟩:=J.ok
 have ht0:=J.t0
 have ht1:=J.t1
 have N:=J.net
 have q1:=fun fr st=>k15 en 2 (by omega) fr st
 have q2:=fun fr st=>k15 at_ (X.t0.length:Int) (by omega) fr st
 have q3:=fun fr st=>k15 wh 11 (by omega) fr st
 rw [hi] at q1
 rw [hv] at q3
 have ow:=N.o
 unfold Wi.c at ow
 subst hod
 have d1:¬ v<2:=by omega
 have d1i:¬ (v:Int)<2:=by omega
 have d2:¬ v=2:=by omega
 have d2i:¬ (v:Int)=2:=by omega
 have d3:¬ v=10:=h10
 have d3i:¬ (v:Int)=10:=by omega
 obtain ⟨S',P',Q',X',J',V,H⟩:=E17_0 S w z c _ _ X hc ⟨N,J.ok,J.bo.mono (Nat.le_succ c),by omega,by omega,J.f0,J.f1,Nat.le_succ_of_le J.p0,Nat.le_succ_of_le J.p1,Nat.le_succ_of_le J.q0,Nat.le_succ_of_le J.q1⟩
 refine ⟨S',P',Q',X',J',fun _ I=>V I,?_⟩
 have hl0:X.t0.length=0:=by rw [h0];rfl
 rw [hl0,show ((0:Nat):Int)=0 from rfl] at q2
 refine EvF_start fi17_eq (fun x h=>by cases h <;> decide) m17 ?_
 rw [st17]
 generalize pickI at_ 0=qa at *
 simp (config:={implicitDefEqProofs:=false}) [-zia,-zaa,-St.obj,-St.set,q1,q2,q3,ow,H,w64_0,w64_1,d3,d3i,d1,d1i,d2,d2i,hl0,-zil,-zit,-znl,-znt,ty3,ty4,ty9,ty22,ty27,ty28,ty35,ty40,ty43,ty44,ty45,ty46,ty47,ty48,ty50,H17,x15,fi15_eq,p15,e17_18,q17_18,e17_21,q17_21,e17_19,e17_17,e17_15,e17_27,e17_25,e17_34,e17_33,e17_31,e17_45,e17_49,q17_49,e17_53,e17_52,e17_50,e17_48,e17_46,e17_44,e17_42,e17_40,e17_38,e17_30,e17_28,e17_24,e17_22,e17_14,e17_12,e17_11,e17_9,e17_57,e17_8,e17_6,e17_4,e17_2,e17_0]
theorem O17_0lt (S:St)(w z c:Nat)(P Q:Nat→LE)(X:Wi)(hc:c≤200)(hz:z≤8)(J:Jn S w z (1000*c) c P Q X)(wh en at_:Int)(bs:List UInt8)(hbs:bs.length≤140737488355328)(odd:Bool)(hi:pickI en 2=0)(v:Nat)(hv:pickI wh 11=(v:Int))(hod:odd=true)(hv2:v=8)(hne:X.t0≠[]):∃ S' P' Q' X',Jn S' w z (1000*(c+1)) (c+1) P' Q' X'∧(odd=false→Iv P X→Iv P' X')∧EvF gS 17 [.ptr 0 0,.agg [.int .i64 wh,.int .i64 en,.int .i64 at_,.slice (byteVs bs)],.bool odd] S=some (.ret (.bool true) none,S'):=by
 obtain ⟨b1,b2,b3⟩:=J.bo 0 (by omega)
 obtain ⟨o0,o1,o2,o3,o4,o5⟩:=J.ok
 have ht0:=J.t0
 have ht1:=J.t1
 have N:=J.net
 have q1:=fun fr st=>k15 en 2 (by omega) fr st
 have q2:=fun fr st=>k15 at_ (X.t0.length:Int) (by omega) fr st
 have q3:=fun fr st=>k15 wh 11 (by omega) fr st
 rw [hi] at q1
 rw [hv] at q3
 have ow:=N.o
 unfold Wi.c at ow
 subst hod
 subst hv2
 have hlp:0<X.t0.length:=List.length_pos_iff.2 hne
 have hl1:¬ X.t0.length=0:=by omega
 have hl1i:¬ (X.t0.length:Int)=0:=by omega
 obtain ⟨p1,p2⟩:=pickI_bound at_ (m:=(X.t0.length:Int)) (by omega)
 obtain ⟨j,hj⟩:∃ j:Nat,pickI at_ (X.t0.length:Int)=(j:Int):=⟨(pickI at_ (X.t0.length:Int)).toNat,by omega⟩
 rw [hj] at q2
 have hjl:j<X.t0.length:=by omega
 obtain ⟨b,hb⟩:∃ b,X.t0[j]?=some b:=⟨X.t0[j],zge hjl⟩
 have hbm:=zmg hb
 have hbl:b.length≤1020:=J.f0 b hbm
 obtain ⟨S1,N1,g1⟩:=k30_0 S w z P Q _ _ _ _ _ X.k0 X.t0 N j b hb (by omega)
 have hll:=len_lose X.t0 j
 obtain ⟨S',P',Q',X',J',V,H⟩:=E17_0 S1 w z c _ _ {X with t0:=X.t0.take j ++ X.t0.drop (j+1),k0:=1} hc ⟨N1,by refine ⟨?_,?_,?_,?_,?_,?_⟩ <;> first | assumption | exact Nat.le_refl 1,J.bo.mono (Nat.le_succ c),by show (X.t0.take j ++ X.t0.drop (j+1)).length≤_;omega,by show X.t1.length≤_;omega,fun f hf=>J.f0 f (mem_lose hf),J.f1,Nat.le_succ_of_le J.p0,Nat.le_succ_of_le J.p1,Nat.le_succ_of_le J.q0,Nat.le_succ_of_le J.q1⟩
 refine ⟨S',P',Q',X',J',fun _ I=>V (I.sub0 1 (fun d hd=>mem_lose hd)),?_⟩
 refine EvF_start fi17_eq (fun x h=>by cases h <;> decide) m17 ?_
 rw [st17]
 generalize pickI at_ (X.t0.length:Int)=qa at *
 simp (config:={implicitDefEqProofs:=false}) [-zia,-zaa,-St.obj,-St.set,q1,q2,q3,ow,H,w64_0,w64_1,g1,hl1,hl1i,-zil,-zit,-znl,-znt,ty3,ty4,ty9,ty22,ty27,ty28,ty35,ty40,ty43,ty44,ty45,ty46,ty47,ty48,ty50,H17,x15,fi15_eq,p15,e17_18,q17_18,e17_21,q17_21,e17_19,e17_17,e17_15,e17_27,e17_25,e17_34,e17_33,e17_31,e17_45,e17_49,q17_49,e17_53,e17_52,e17_50,e17_48,e17_46,e17_44,e17_42,e17_40,e17_38,e17_30,e17_28,e17_24,e17_22,e17_14,e17_12,e17_11,e17_9,e17_57,e17_8,e17_6,e17_4,e17_2,e17_0]
theorem O17_0dt (S:St)(w z c:Nat)(P Q:Nat→LE)(X:Wi)(hc:c≤200)(hz:z≤8)(J:Jn S w z (1000*c) c P Q X)(wh en at_:Int)(bs:List UInt8)(hbs:bs.length≤140737488355328)(odd:Bool)(hi:pickI en 2=0)(v:Nat)(hv:pickI wh 11=(v:Int))(hod:odd=true)(hv2:v=9)(hne:X.t0≠[])(h40:X.t0.length<40):∃ S' P' Q' X',Jn S' w z (1000*(c+1)) (c+1) P' Q' X'∧(odd=false→Iv P X→Iv P' X')∧EvF gS 17 [.ptr 0 0,.agg [.int .i64 wh,.int .i64 en,.int .i64 at_,.slice (byteVs bs)],.bool odd] S=some (.ret (.bool true) none,S'):=by
 obtain ⟨b1,b2,b3⟩:=J.bo 0 (by omega)
 obtain ⟨o0,o1,o2,o3,o4,o5⟩:=J.ok
 have ht0:=J.t0
 have ht1:=J.t1
 have N:=J.net
 have q1:=fun fr st=>k15 en 2 (by omega) fr st
 have q2:=fun fr st=>k15 at_ (X.t0.length:Int) (by omega) fr st
 have q3:=fun fr st=>k15 wh 11 (by omega) fr st
 rw [hi] at q1
 rw [hv] at q3
 have ow:=N.o
 unfold Wi.c at ow
 subst hod
 subst hv2
 have hlp:0<X.t0.length:=List.length_pos_iff.2 hne
 have hl1:¬ X.t0.length=0:=by omega
 have hl1i:¬ (X.t0.length:Int)=0:=by omega
 obtain ⟨p1,p2⟩:=pickI_bound at_ (m:=(X.t0.length:Int)) (by omega)
 obtain ⟨j,hj⟩:∃ j:Nat,pickI at_ (X.t0.length:Int)=(j:Int):=⟨(pickI at_ (X.t0.length:Int)).toNat,by omega⟩
 rw [hj] at q2
 have hjl:j<X.t0.length:=by omega
 obtain ⟨b,hb⟩:∃ b,X.t0[j]?=some b:=⟨X.t0[j],zge hjl⟩
 have hbm:=zmg hb
 have hbl:b.length≤1020:=J.f0 b hbm
 have h40i:(X.t0.length:Int)<40:=by omega
 obtain ⟨S3,h3,N3⟩:=N.hold [.ptr 1 0,.ptr 3 0,.ptr 2 0,.ptr 4 0,.slice (encFs X.t0),.osl X.k1 (encFs X.t1),.osl X.k2 (encSs X.p0),.osl X.k3 (encSs X.p1),.osl X.k4 (encSs X.q0),.osl X.k5 (encSs X.q1)]
 obtain ⟨S4,h4,N4⟩:=N3.hold [.ptr 1 0,.ptr 3 0,.ptr 2 0,.ptr 4 0,.osl 1 (encFs (X.t0 ++ [b])),.osl X.k1 (encFs X.t1),.osl X.k2 (encSs X.p0),.osl X.k3 (encSs X.p1),.osl X.k4 (encSs X.q0),.osl X.k5 (encSs X.q1)]
 have ow3:=N3.o
 obtain ⟨S',P',Q',X',J',V,H⟩:=E17_0 S4 w z c _ _ {X with t0:=X.t0 ++ [b],k0:=1} hc ⟨N4,by refine ⟨?_,?_,?_,?_,?_,?_⟩ <;> first | assumption | exact Nat.le_refl 1,J.bo.mono (Nat.le_succ c),by show (X.t0 ++ [b]).length≤_;simp;omega,by show X.t1.length≤_;omega,fun f hf=>by (rcases List.mem_append.1 hf with h | h;exact J.f0 f h;(simp at h;subst h;exact hbl)),J.f1,Nat.le_succ_of_le J.p0,Nat.le_succ_of_le J.p1,Nat.le_succ_of_le J.q0,Nat.le_succ_of_le J.q1⟩
 obtain ⟨_,hbe⟩:=List.getElem?_eq_some_iff.1 hb
 have hji:(j:Int)<(X.t0.length:Int):=by omega
 have hs1:=sizes_fs X.t0
 have hs2:=fs_snoc X.t0 b
 have c1:(X.t0.length+1)*24≤140737488355328:=by omega
 have c2:X.t0.length+1≤140737488355328:=by omega
 have hkk:X.k0=0∨X.k0=1:=by omega
 refine ⟨S',P',Q',X',J',fun _ I=>V (I.sub0 1 (fun d hd=>by (rcases List.mem_append.1 hd with h | h;exact h;(simp at h;subst h;exact hbm)))),?_⟩
 refine EvF_start fi17_eq (fun x h=>by cases h <;> decide) m17 ?_
 rw [st17]
 generalize pickI at_ (X.t0.length:Int)=qa at *
 simp (config:={implicitDefEqProofs:=false}) [-zia,-zaa,-St.obj,-St.set,q1,q2,q3,ow,H,w64_0,w64_1,h3,h4,ow3,hb,hbe,hjl,hji,h40,h40i,hs1,hs2,c1,c2,hkk,hl1,hl1i,-zil,-zit,-znl,-znt,ty3,ty4,ty9,ty22,ty27,ty28,ty35,ty40,ty43,ty44,ty45,ty46,ty47,ty48,ty50,H17,x15,fi15_eq,p15,e17_18,q17_18,e17_21,q17_21,e17_19,e17_17,e17_15,e17_27,e17_25,e17_34,e17_33,e17_31,e17_45,e17_49,q17_49,e17_53,e17_52,e17_50,e17_48,e17_46,e17_44,e17_42,e17_40,e17_38,e17_30,e17_28,e17_24,e17_22,e17_14,e17_12,e17_11,e17_9,e17_57,e17_8,e17_6,e17_4,e17_2,e17_0]
theorem O17_0ut (S:St)(w z c:Nat)(P Q:Nat→LE)(X:Wi)(hc:c≤200)(hz:z≤8)(J:Jn S w z (1000*c) c P Q X)(wh en at_:Int)(bs:List UInt8)(hbs:bs.length≤140737488355328)(odd:Bool)(hi:pickI en 2=0)(v:Nat)(hv:pickI wh 11=(v:Int))(hod:odd=true)(hv2:3≤v)(h10:v≠10)(h8:v≠8)(h9:¬ (v=9∧X.t0.length<40))(hne:X.t0≠[]):∃ S' P' Q' X',Jn S' w z (1000*(c+1)) (c+1) P' Q' X'∧(odd=false→Iv P X→Iv P' X')∧EvF gS 17 [.ptr 0 0,.agg [.int .i64 wh,.int .i64 en,.int .i64 at_,.slice (byteVs bs)],.bool odd] S=some (.ret (.bool true) none,S'):=by
 obtain ⟨b1,b2,b3⟩:=J.bo 0 (by omega)
 obtain ⟨o0,o1,o2,o3,o4,o5⟩:=J.ok
 have ht0:=J.t0
 have ht1:=J.t1
 have N:=J.net
 have q1:=fun fr st=>k15 en 2 (by omega) fr st
 have q2:=fun fr st=>k15 at_ (X.t0.length:Int) (by omega) fr st
 have q3:=fun fr st=>k15 wh 11 (by omega) fr st
 rw [hi] at q1
 rw [hv] at q3
 have ow:=N.o
 unfold Wi.c at ow
 subst hod
 have d1:¬ v<2:=by omega
 have d1i:¬ (v:Int)<2:=by omega
 have d2:¬ v=2:=by omega
 have d2i:¬ (v:Int)=2:=by omega
 have d3:¬ v=10:=h10
 have d3i:¬ (v:Int)=10:=by omega
 have hlp:0<X.t0.length:=List.length_pos_iff.2 hne
 have hl1:¬ X.t0.length=0:=by omega
 have hl1i:¬ (X.t0.length:Int)=0:=by omega
 obtain ⟨p1,p2⟩:=pickI_bound at_ (m:=(X.t0.length:Int)) (by omega)
 obtain ⟨j,hj⟩:∃ j:Nat,pickI at_ (X.t0.length:Int)=(j:Int):=⟨(pickI at_ (X.t0.length:Int)).toNat,by omega⟩
 rw [hj] at q2
 have hjl:j<X.t0.length:=by omega
 obtain ⟨b,hb⟩:∃ b,X.t0[j]?=some b:=⟨X.t0[j],zge hjl⟩
 have hbm:=zmg hb
 have hbl:b.length≤1020:=J.f0 b hbm
 have d8:¬ v=8:=h8
 have d8i:¬ (v:Int)=8:=by omega
 obtain ⟨S1,N1,g1⟩:=k30_0 S w z P Q _ _ _ _ _ X.k0 X.t0 N j b hb (by omega)
 have hll:=len_lose X.t0 j
 have lq:=J.q0
 obtain ⟨S2,k',r,hk',N2,g2⟩:=k29_0 S1 w z P Q _ _ _ _ _ X.k4 X.q0 c (by omega) N1 b1 b2 b3 (by omega) (by omega) b (by omega) (tk_out _ _)
 have lo:=tk_out (P 0) b
 obtain ⟨S',P',Q',X',J',V,H⟩:=E17_0 S2 w z c _ _ {X with t0:=X.t0.take j ++ X.t0.drop (j+1),k0:=1,q0:=X.q0 ++ ((P 0).tk b).out,k4:=k'} hc ⟨N2,by refine ⟨?_,?_,?_,?_,?_,?_⟩ <;> first | assumption | exact Nat.le_refl 1,J.bo.upd (Nat.le_succ c) (b1.take _ r) (b2.take _ 0) (b3.take _ r 0),by show (X.t0.take j ++ X.t0.drop (j+1)).length≤_;omega,by show X.t1.length≤_;omega,fun f hf=>J.f0 f (mem_lose hf),J.f1,Nat.le_succ_of_le J.p0,Nat.le_succ_of_le J.p1,by show (X.q0 ++ _).length≤_;rw [zla];omega,Nat.le_succ_of_le J.q1⟩
 refine ⟨S',P',Q',X',J',fun _ I=>V ((I.sub0 1 (fun d hd=>mem_lose hd)).take0 b1.s (I.t0 b hbm) r k'),?_⟩
 by_cases h9v:v=9
 ·subst h9v
  have h40:¬ X.t0.length<40:=fun h=>h9 ⟨rfl,h⟩
  have h40i:¬ (X.t0.length:Int)<40:=by omega
  refine EvF_start fi17_eq (fun x h=>by cases h <;> decide) m17 ?_
  rw [st17]
  have hm:fi17.marks=[]:=rfl
  have hl:fi17.locals=[4]:=rfl
  have hr:fi17.results=[.tmp 6]:=rfl
  simp (config:={implicitDefEqProofs:=false}) [-zia,-zaa,-St.obj,-St.set,q1,q2,q3,ow,H,w64_0,w64_1,g1,g2,hl1,hl1i,h40,h40i,-zil,-zit,-znl,-znt,ty3,ty4,ty9,ty22,ty27,ty28,ty35,ty40,ty43,ty44,ty45,ty46,ty47,ty48,ty50,hm,hl,hr,x15,fi15_eq,p15,e17_18,q17_18,e17_21,q17_21,e17_19,e17_17,e17_15,e17_27,e17_25,e17_34,e17_33,e17_31,e17_45,e17_49,q17_49,e17_53,e17_52,e17_50,e17_48,e17_46,e17_44,e17_42,e17_40,e17_38,e17_30,e17_28,e17_24,e17_22,e17_14,e17_12,e17_11,e17_9,e17_57,e17_8,e17_6,e17_4,e17_2,e17_0]
 have d9:¬ v=9:=h9v
 have d9i:¬ (v:Int)=9:=by omega
 refine EvF_start fi17_eq (fun x h=>by cases h <;> decide) m17 ?_
 rw [st17]
 have hm:fi17.marks=[]:=rfl
 have hl:fi17.locals=[4]:=rfl
 have hr:fi17.results=[.tmp 6]:=rfl
 generalize pickI at_ (X.t0.length:Int)=qa at *
 simp (config:={implicitDefEqProofs:=false}) [-zia,-zaa,-St.obj,-St.set,q1,q2,q3,ow,H,w64_0,w64_1,d3,d3i,d1,d1i,d2,d2i,d8,d8i,d9,d9i,g1,g2,hl1,hl1i,-zil,-zit,-znl,-znt,ty3,ty4,ty9,ty22,ty27,ty28,ty35,ty40,ty43,ty44,ty45,ty46,ty47,ty48,ty50,hm,hl,hr,x15,fi15_eq,p15,e17_18,q17_18,e17_21,q17_21,e17_19,e17_17,e17_15,e17_27,e17_25,e17_34,e17_33,e17_31,e17_45,e17_49,q17_49,e17_53,e17_52,e17_50,e17_48,e17_46,e17_44,e17_42,e17_40,e17_38,e17_30,e17_28,e17_24,e17_22,e17_14,e17_12,e17_11,e17_9,e17_57,e17_8,e17_6,e17_4,e17_2,e17_0]
theorem O17_0nf (S:St)(w z c:Nat)(P Q:Nat→LE)(X:Wi)(hc:c≤200)(hz:z≤8)(J:Jn S w z (1000*c) c P Q X)(wh en at_:Int)(bs:List UInt8)(hbs:bs.length≤140737488355328)(odd:Bool)(hi:pickI en 2=0)(v:Nat)(hv:pickI wh 11=(v:Int))(hod:odd=false)(hv2:3≤v)(h10:v≠10)(h0:X.t0=[]):∃ S' P' Q' X',Jn S' w z (1000*(c+1)) (c+1) P' Q' X'∧(odd=false→Iv P X→Iv P' X')∧EvF gS 17 [.ptr 0 0,.agg [.int .i64 wh,.int .i64 en,.int .i64 at_,.slice (byteVs bs)],.bool odd] S=some (.ret (.bool true) none,S'):=by
 obtain ⟨b1,b2,b3⟩:=J.bo 0 (by omega)
 obtain ⟨o0,o1,o2,o3,o4,o5⟩:=J.ok
 have ht0:=J.t0
 have ht1:=J.t1
 have N:=J.net
 have q1:=fun fr st=>k15 en 2 (by omega) fr st
 have q2:=fun fr st=>k15 at_ (X.t0.length:Int) (by omega) fr st
 have q3:=fun fr st=>k15 wh 11 (by omega) fr st
 rw [hi] at q1
 rw [hv] at q3
 have ow:=N.o
 unfold Wi.c at ow
 subst hod
 have d1:¬ v<2:=by omega
 have d1i:¬ (v:Int)<2:=by omega
 have d2:¬ v=2:=by omega
 have d2i:¬ (v:Int)=2:=by omega
 have d3:¬ v=10:=h10
 have d3i:¬ (v:Int)=10:=by omega
 obtain ⟨S',P',Q',X',J',V,H⟩:=E17_0 S w z c _ _ X hc ⟨N,J.ok,J.bo.mono (Nat.le_succ c),by omega,by omega,J.f0,J.f1,Nat.le_succ_of_le J.p0,Nat.le_succ_of_le J.p1,Nat.le_succ_of_le J.q0,Nat.le_succ_of_le J.q1⟩
 refine ⟨S',P',Q',X',J',fun _ I=>V I,?_⟩
 have hl0:X.t0.length=0:=by rw [h0];rfl
 rw [hl0,show ((0:Nat):Int)=0 from rfl] at q2
 refine EvF_start fi17_eq (fun x h=>by cases h <;> decide) m17 ?_
 rw [st17]
 generalize pickI at_ 0=qa at *
 simp (config:={implicitDefEqProofs:=false}) [-zia,-zaa,-St.obj,-St.set,q1,q2,q3,ow,H,w64_0,w64_1,d3,d3i,d1,d1i,d2,d2i,hl0,-zil,-zit,-znl,-znt,ty3,ty4,ty9,ty22,ty27,ty28,ty35,ty40,ty43,ty44,ty45,ty46,ty47,ty48,ty50,H17,x15,fi15_eq,p15,e17_18,q17_18,e17_21,q17_21,e17_19,e17_17,e17_15,e17_27,e17_25,e17_34,e17_33,e17_31,e17_45,e17_49,q17_49,e17_53,e17_52,e17_50,e17_48,e17_46,e17_44,e17_42,e17_40,e17_38,e17_30,e17_28,e17_24,e17_22,e17_14,e17_12,e17_11,e17_9,e17_57,e17_8,e17_6,e17_4,e17_2,e17_0]
theorem O17_0lf (S:St)(w z c:Nat)(P Q:Nat→LE)(X:Wi)(hc:c≤200)(hz:z≤8)(J:Jn S w z (1000*c) c P Q X)(wh en at_:Int)(bs:List UInt8)(hbs:bs.length≤140737488355328)(odd:Bool)(hi:pickI en 2=0)(v:Nat)(hv:pickI wh 11=(v:Int))(hod:odd=false)(hv2:v=8)(hne:X.t0≠[]):∃ S' P' Q' X',Jn S' w z (1000*(c+1)) (c+1) P' Q' X'∧(odd=false→Iv P X→Iv P' X')∧EvF gS 17 [.ptr 0 0,.agg [.int .i64 wh,.int .i64 en,.int .i64 at_,.slice (byteVs bs)],.bool odd] S=some (.ret (.bool true) none,S'):=by
 obtain ⟨b1,b2,b3⟩:=J.bo 0 (by omega)
 obtain ⟨o0,o1,o2,o3,o4,o5⟩:=J.ok
 have ht0:=J.t0
 have ht1:=J.t1
 have N:=J.net
 have q1:=fun fr st=>k15 en 2 (by omega) fr st
 have q2:=fun fr st=>k15 at_ (X.t0.length:Int) (by omega) fr st
 have q3:=fun fr st=>k15 wh 11 (by omega) fr st
 rw [hi] at q1
 rw [hv] at q3
 have ow:=N.o
 unfold Wi.c at ow
 subst hod
 subst hv2
 have hlp:0<X.t0.length:=List.length_pos_iff.2 hne
 have hl1:¬ X.t0.length=0:=by omega
 have hl1i:¬ (X.t0.length:Int)=0:=by omega
 obtain ⟨p1,p2⟩:=pickI_bound at_ (m:=(X.t0.length:Int)) (by omega)
 obtain ⟨j,hj⟩:∃ j:Nat,pickI at_ (X.t0.length:Int)=(j:Int):=⟨(pickI at_ (X.t0.length:Int)).toNat,by omega⟩
 rw [hj] at q2
 have hjl:j<X.t0.length:=by omega
 obtain ⟨b,hb⟩:∃ b,X.t0[j]?=some b:=⟨X.t0[j],zge hjl⟩
 have hbm:=zmg hb
 have hbl:b.length≤1020:=J.f0 b hbm
 obtain ⟨S1,N1,g1⟩:=k30_0 S w z P Q _ _ _ _ _ X.k0 X.t0 N j b hb (by omega)
 have hll:=len_lose X.t0 j
 obtain ⟨S',P',Q',X',J',V,H⟩:=E17_0 S1 w z c _ _ {X with t0:=X.t0.take j ++ X.t0.drop (j+1),k0:=1} hc ⟨N1,by refine ⟨?_,?_,?_,?_,?_,?_⟩ <;> first | assumption | exact Nat.le_refl 1,J.bo.mono (Nat.le_succ c),by show (X.t0.take j ++ X.t0.drop (j+1)).length≤_;omega,by show X.t1.length≤_;omega,fun f hf=>J.f0 f (mem_lose hf),J.f1,Nat.le_succ_of_le J.p0,Nat.le_succ_of_le J.p1,Nat.le_succ_of_le J.q0,Nat.le_succ_of_le J.q1⟩
 refine ⟨S',P',Q',X',J',fun _ I=>V (I.sub0 1 (fun d hd=>mem_lose hd)),?_⟩
 refine EvF_start fi17_eq (fun x h=>by cases h <;> decide) m17 ?_
 rw [st17]
 generalize pickI at_ (X.t0.length:Int)=qa at *
 simp (config:={implicitDefEqProofs:=false}) [-zia,-zaa,-St.obj,-St.set,q1,q2,q3,ow,H,w64_0,w64_1,g1,hl1,hl1i,-zil,-zit,-znl,-znt,ty3,ty4,ty9,ty22,ty27,ty28,ty35,ty40,ty43,ty44,ty45,ty46,ty47,ty48,ty50,H17,x15,fi15_eq,p15,e17_18,q17_18,e17_21,q17_21,e17_19,e17_17,e17_15,e17_27,e17_25,e17_34,e17_33,e17_31,e17_45,e17_49,q17_49,e17_53,e17_52,e17_50,e17_48,e17_46,e17_44,e17_42,e17_40,e17_38,e17_30,e17_28,e17_24,e17_22,e17_14,e17_12,e17_11,e17_9,e17_57,e17_8,e17_6,e17_4,e17_2,e17_0]
theorem O17_0df (S:St)(w z c:Nat)(P Q:Nat→LE)(X:Wi)(hc:c≤200)(hz:z≤8)(J:Jn S w z (1000*c) c P Q X)(wh en at_:Int)(bs:List UInt8)(hbs:bs.length≤140737488355328)(odd:Bool)(hi:pickI en 2=0)(v:Nat)(hv:pickI wh 11=(v:Int))(hod:odd=false)(hv2:v=9)(hne:X.t0≠[])(h40:X.t0.length<40):∃ S' P' Q' X',Jn S' w z (1000*(c+1)) (c+1) P' Q' X'∧(odd=false→Iv P X→Iv P' X')∧EvF gS 17 [.ptr 0 0,.agg [.int .i64 wh,.int .i64 en,.int .i64 at_,.slice (byteVs bs)],.bool odd] S=some (.ret (.bool true) none,S'):=by
 obtain ⟨b1,b2,b3⟩:=J.bo 0 (by omega)
 obtain ⟨o0,o1,o2,o3,o4,o5⟩:=J.ok
 have ht0:=J.t0
 have ht1:=J.t1
 have N:=J.net
 have q1:=fun fr st=>k15 en 2 (by omega) fr st
 have q2:=fun fr st=>k15 at_ (X.t0.length:Int) (by omega) fr st
 have q3:=fun fr st=>k15 wh 11 (by omega) fr st
 rw [hi] at q1
 rw [hv] at q3
 have ow:=N.o
 unfold Wi.c at ow
 subst hod
 subst hv2
 have hlp:0<X.t0.length:=List.length_pos_iff.2 hne
 have hl1:¬ X.t0.length=0:=by omega
 have hl1i:¬ (X.t0.length:Int)=0:=by omega
 obtain ⟨p1,p2⟩:=pickI_bound at_ (m:=(X.t0.length:Int)) (by omega)
 obtain ⟨j,hj⟩:∃ j:Nat,pickI at_ (X.t0.length:Int)=(j:Int):=⟨(pickI at_ (X.t0.length:Int)).toNat,by omega⟩
 rw [hj] at q2
 have hjl:j<X.t0.length:=by omega
 obtain ⟨b,hb⟩:∃ b,X.t0[j]?=some b:=⟨X.t0[j],zge hjl⟩
 have hbm:=zmg hb
 have hbl:b.length≤1020:=J.f0 b hbm
 have h40i:(X.t0.length:Int)<40:=by omega
 obtain ⟨S3,h3,N3⟩:=N.hold [.ptr 1 0,.ptr 3 0,.ptr 2 0,.ptr 4 0,.slice (encFs X.t0),.osl X.k1 (encFs X.t1),.osl X.k2 (encSs X.p0),.osl X.k3 (encSs X.p1),.osl X.k4 (encSs X.q0),.osl X.k5 (encSs X.q1)]
 obtain ⟨S4,h4,N4⟩:=N3.hold [.ptr 1 0,.ptr 3 0,.ptr 2 0,.ptr 4 0,.osl 1 (encFs (X.t0 ++ [b])),.osl X.k1 (encFs X.t1),.osl X.k2 (encSs X.p0),.osl X.k3 (encSs X.p1),.osl X.k4 (encSs X.q0),.osl X.k5 (encSs X.q1)]
 have ow3:=N3.o
 obtain ⟨S',P',Q',X',J',V,H⟩:=E17_0 S4 w z c _ _ {X with t0:=X.t0 ++ [b],k0:=1} hc ⟨N4,by refine ⟨?_,?_,?_,?_,?_,?_⟩ <;> first | assumption | exact Nat.le_refl 1,J.bo.mono (Nat.le_succ c),by show (X.t0 ++ [b]).length≤_;simp;omega,by show X.t1.length≤_;omega,fun f hf=>by (rcases List.mem_append.1 hf with h | h;exact J.f0 f h;(simp at h;subst h;exact hbl)),J.f1,Nat.le_succ_of_le J.p0,Nat.le_succ_of_le J.p1,Nat.le_succ_of_le J.q0,Nat.le_succ_of_le J.q1⟩
 obtain ⟨_,hbe⟩:=List.getElem?_eq_some_iff.1 hb
 have hji:(j:Int)<(X.t0.length:Int):=by omega
 have hs1:=sizes_fs X.t0
 have hs2:=fs_snoc X.t0 b
 have c1:(X.t0.length+1)*24≤140737488355328:=by omega
 have c2:X.t0.length+1≤140737488355328:=by omega
 have hkk:X.k0=0∨X.k0=1:=by omega
 refine ⟨S',P',Q',X',J',fun _ I=>V (I.sub0 1 (fun d hd=>by (rcases List.mem_append.1 hd with h | h;exact h;(simp at h;subst h;exact hbm)))),?_⟩
 refine EvF_start fi17_eq (fun x h=>by cases h <;> decide) m17 ?_
 rw [st17]
 generalize pickI at_ (X.t0.length:Int)=qa at *
 simp (config:={implicitDefEqProofs:=false}) [-zia,-zaa,-St.obj,-St.set,q1,q2,q3,ow,H,w64_0,w64_1,h3,h4,ow3,hb,hbe,hjl,hji,h40,h40i,hs1,hs2,c1,c2,hkk,hl1,hl1i,-zil,-zit,-znl,-znt,ty3,ty4,ty9,ty22,ty27,ty28,ty35,ty40,ty43,ty44,ty45,ty46,ty47,ty48,ty50,H17,x15,fi15_eq,p15,e17_18,q17_18,e17_21,q17_21,e17_19,e17_17,e17_15,e17_27,e17_25,e17_34,e17_33,e17_31,e17_45,e17_49,q17_49,e17_53,e17_52,e17_50,e17_48,e17_46,e17_44,e17_42,e17_40,e17_38,e17_30,e17_28,e17_24,e17_22,e17_14,e17_12,e17_11,e17_9,e17_57,e17_8,e17_6,e17_4,e17_2,e17_0]
theorem O17_0uf (S:St)(w z c:Nat)(P Q:Nat→LE)(X:Wi)(hc:c≤200)(hz:z≤8)(J:Jn S w z (1000*c) c P Q X)(wh en at_:Int)(bs:List UInt8)(hbs:bs.length≤140737488355328)(odd:Bool)(hi:pickI en 2=0)(v:Nat)(hv:pickI wh 11=(v:Int))(hod:odd=false)(hv2:3≤v)(h10:v≠10)(h8:v≠8)(h9:¬ (v=9∧X.t0.length<40))(hne:X.t0≠[]):∃ S' P' Q' X',Jn S' w z (1000*(c+1)) (c+1) P' Q' X'∧(odd=false→Iv P X→Iv P' X')∧EvF gS 17 [.ptr 0 0,.agg [.int .i64 wh,.int .i64 en,.int .i64 at_,.slice (byteVs bs)],.bool odd] S=some (.ret (.bool true) none,S'):=by
 obtain ⟨b1,b2,b3⟩:=J.bo 0 (by omega)
 obtain ⟨o0,o1,o2,o3,o4,o5⟩:=J.ok
 have ht0:=J.t0
 have ht1:=J.t1
 have N:=J.net
 have q1:=fun fr st=>k15 en 2 (by omega) fr st
 have q2:=fun fr st=>k15 at_ (X.t0.length:Int) (by omega) fr st
 have q3:=fun fr st=>k15 wh 11 (by omega) fr st
 rw [hi] at q1
 rw [hv] at q3
 have ow:=N.o
 unfold Wi.c at ow
 subst hod
 have d1:¬ v<2:=by omega
 have d1i:¬ (v:Int)<2:=by omega
 have d2:¬ v=2:=by omega
 have d2i:¬ (v:Int)=2:=by omega
 have d3:¬ v=10:=h10
 have d3i:¬ (v:Int)=10:=by omega
 have hlp:0<X.t0.length:=List.length_pos_iff.2 hne
 have hl1:¬ X.t0.length=0:=by omega
 have hl1i:¬ (X.t0.length:Int)=0:=by omega
 obtain ⟨p1,p2⟩:=pickI_bound at_ (m:=(X.t0.length:Int)) (by omega)
 obtain ⟨j,hj⟩:∃ j:Nat,pickI at_ (X.t0.length:Int)=(j:Int):=⟨(pickI at_ (X.t0.length:Int)).toNat,by omega⟩
 rw [hj] at q2
 have hjl:j<X.t0.length:=by omega
 obtain ⟨b,hb⟩:∃ b,X.t0[j]?=some b:=⟨X.t0[j],zge hjl⟩
 have hbm:=zmg hb
 have hbl:b.length≤1020:=J.f0 b hbm
 have d8:¬ v=8:=h8
 have d8i:¬ (v:Int)=8:=by omega
 obtain ⟨S1,N1,g1⟩:=k30_0 S w z P Q _ _ _ _ _ X.k0 X.t0 N j b hb (by omega)
 have hll:=len_lose X.t0 j
 have lq:=J.q0
 obtain ⟨S2,k',r,hk',N2,g2⟩:=k29_0 S1 w z P Q _ _ _ _ _ X.k4 X.q0 c (by omega) N1 b1 b2 b3 (by omega) (by omega) b (by omega) (tk_out _ _)
 have lo:=tk_out (P 0) b
 obtain ⟨S',P',Q',X',J',V,H⟩:=E17_0 S2 w z c _ _ {X with t0:=X.t0.take j ++ X.t0.drop (j+1),k0:=1,q0:=X.q0 ++ ((P 0).tk b).out,k4:=k'} hc ⟨N2,by refine ⟨?_,?_,?_,?_,?_,?_⟩ <;> first | assumption | exact Nat.le_refl 1,J.bo.upd (Nat.le_succ c) (b1.take _ r) (b2.take _ 0) (b3.take _ r 0),by show (X.t0.take j ++ X.t0.drop (j+1)).length≤_;omega,by show X.t1.length≤_;omega,fun f hf=>J.f0 f (mem_lose hf),J.f1,Nat.le_succ_of_le J.p0,Nat.le_succ_of_le J.p1,by show (X.q0 ++ _).length≤_;rw [zla];omega,Nat.le_succ_of_le J.q1⟩
 refine ⟨S',P',Q',X',J',fun _ I=>V ((I.sub0 1 (fun d hd=>mem_lose hd)).take0 b1.s (I.t0 b hbm) r k'),?_⟩
 by_cases h9v:v=9
 ·subst h9v
  have h40:¬ X.t0.length<40:=fun h=>h9 ⟨rfl,h⟩
  have h40i:¬ (X.t0.length:Int)<40:=by omega
  refine EvF_start fi17_eq (fun x h=>by cases h <;> decide) m17 ?_
  rw [st17]
  have hm:fi17.marks=[]:=rfl
  have hl:fi17.locals=[4]:=rfl
  have hr:fi17.results=[.tmp 6]:=rfl
  simp (config:={implicitDefEqProofs:=false}) [-zia,-zaa,-St.obj,-St.set,q1,q2,q3,ow,H,w64_0,w64_1,g1,g2,hl1,hl1i,h40,h40i,-zil,-zit,-znl,-znt,ty3,ty4,ty9,ty22,ty27,ty28,ty35,ty40,ty43,ty44,ty45,ty46,ty47,ty48,ty50,hm,hl,hr,x15,fi15_eq,p15,e17_18,q17_18,e17_21,q17_21,e17_19,e17_17,e17_15,e17_27,e17_25,e17_34,e17_33,e17_31,e17_45,e17_49,q17_49,e17_53,e17_52,e17_50,e17_48,e17_46,e17_44,e17_42,e17_40,e17_38,e17_30,e17_28,e17_24,e17_22,e17_14,e17_12,e17_11,e17_9,e17_57,e17_8,e17_6,e17_4,e17_2,e17_0]
 have d9:¬ v=9:=h9v
 have d9i:¬ (v:Int)=9:=by omega
 refine EvF_start fi17_eq (fun x h=>by cases h <;> decide) m17 ?_
 rw [st17]
 have hm:fi17.marks=[]:=rfl
 have hl:fi17.locals=[4]:=rfl
 have hr:fi17.results=[.tmp 6]:=rfl
 generalize pickI at_ (X.t0.length:Int)=qa at *
 simp (config:={implicitDefEqProofs:=false}) [-zia,-zaa,-St.obj,-St.set,q1,q2,q3,ow,H,w64_0,w64_1,d3,d3i,d1,d1i,d2,d2i,d8,d8i,d9,d9i,g1,g2,hl1,hl1i,-zil,-zit,-znl,-znt,ty3,ty4,ty9,ty22,ty27,ty28,ty35,ty40,ty43,ty44,ty45,ty46,ty47,ty48,ty50,hm,hl,hr,x15,fi15_eq,p15,e17_18,q17_18,e17_21,q17_21,e17_19,e17_17,e17_15,e17_27,e17_25,e17_34,e17_33,e17_31,e17_45,e17_49,q17_49,e17_53,e17_52,e17_50,e17_48,e17_46,e17_44,e17_42,e17_40,e17_38,e17_30,e17_28,e17_24,e17_22,e17_14,e17_12,e17_11,e17_9,e17_57,e17_8,e17_6,e17_4,e17_2,e17_0]
theorem O17_0nz (S:St)(w z c:Nat)(P Q:Nat→LE)(X:Wi)(hc:c≤200)(hz:z≤8)(J:Jn S w z (1000*c) c P Q X)(wh en at_:Int)(bs:List UInt8)(hbs:bs.length≤140737488355328)(odd:Bool)(hi:pickI en 2=0)(v:Nat)(hv:pickI wh 11=(v:Int))(hod:odd=false)(hv2:v=10)(h0:X.t0=[]):∃ S' P' Q' X',Jn S' w z (1000*(c+1)) (c+1) P' Q' X'∧(odd=false→Iv P X→Iv P' X')∧EvF gS 17 [.ptr 0 0,.agg [.int .i64 wh,.int .i64 en,.int .i64 at_,.slice (byteVs bs)],.bool odd] S=some (.ret (.bool true) none,S'):=by
 obtain ⟨b1,b2,b3⟩:=J.bo 0 (by omega)
 obtain ⟨o0,o1,o2,o3,o4,o5⟩:=J.ok
 have ht0:=J.t0
 have ht1:=J.t1
 have N:=J.net
 have q1:=fun fr st=>k15 en 2 (by omega) fr st
 have q2:=fun fr st=>k15 at_ (X.t0.length:Int) (by omega) fr st
 have q3:=fun fr st=>k15 wh 11 (by omega) fr st
 rw [hi] at q1
 rw [hv] at q3
 have ow:=N.o
 unfold Wi.c at ow
 subst hod
 subst hv2
 obtain ⟨S',P',Q',X',J',V,H⟩:=E17_0 S w z c _ _ X hc ⟨N,J.ok,J.bo.mono (Nat.le_succ c),by omega,by omega,J.f0,J.f1,Nat.le_succ_of_le J.p0,Nat.le_succ_of_le J.p1,Nat.le_succ_of_le J.q0,Nat.le_succ_of_le J.q1⟩
 refine ⟨S',P',Q',X',J',fun _ I=>V I,?_⟩
 have hl0:X.t0.length=0:=by rw [h0];rfl
 rw [hl0,show ((0:Nat):Int)=0 from rfl] at q2
 refine EvF_start fi17_eq (fun x h=>by cases h <;> decide) m17 ?_
 rw [st17]
 generalize pickI at_ 0=qa at *
 simp (config:={implicitDefEqProofs:=false}) [-zia,-zaa,-St.obj,-St.set,q1,q2,q3,ow,H,w64_0,w64_1,hl0,-zil,-zit,-znl,-znt,ty3,ty4,ty9,ty22,ty27,ty28,ty35,ty40,ty43,ty44,ty45,ty46,ty47,ty48,ty50,H17,x15,fi15_eq,p15,e17_18,q17_18,e17_21,q17_21,e17_19,e17_17,e17_15,e17_27,e17_25,e17_34,e17_33,e17_31,e17_45,e17_49,q17_49,e17_53,e17_52,e17_50,e17_48,e17_46,e17_44,e17_42,e17_40,e17_38,e17_30,e17_28,e17_24,e17_22,e17_14,e17_12,e17_11,e17_9,e17_57,e17_8,e17_6,e17_4,e17_2,e17_0]
theorem O17_0uz (S:St)(w z c:Nat)(P Q:Nat→LE)(X:Wi)(hc:c≤200)(hz:z≤8)(J:Jn S w z (1000*c) c P Q X)(wh en at_:Int)(bs:List UInt8)(hbs:bs.length≤140737488355328)(odd:Bool)(hi:pickI en 2=0)(v:Nat)(hv:pickI wh 11=(v:Int))(hod:odd=false)(hv2:v=10)(hne:X.t0≠[]):∃ S' P' Q' X',Jn S' w z (1000*(c+1)) (c+1) P' Q' X'∧(odd=false→Iv P X→Iv P' X')∧EvF gS 17 [.ptr 0 0,.agg [.int .i64 wh,.int .i64 en,.int .i64 at_,.slice (byteVs bs)],.bool odd] S=some (.ret (.bool true) none,S'):=by
 obtain ⟨b1,b2,b3⟩:=J.bo 0 (by omega)
 obtain ⟨o0,o1,o2,o3,o4,o5⟩:=J.ok
 have ht0:=J.t0
 have ht1:=J.t1
 have N:=J.net
 have q1:=fun fr st=>k15 en 2 (by omega) fr st
 have q2:=fun fr st=>k15 at_ (X.t0.length:Int) (by omega) fr st
 have q3:=fun fr st=>k15 wh 11 (by omega) fr st
 rw [hi] at q1
 rw [hv] at q3
 have ow:=N.o
 unfold Wi.c at ow
 subst hod
 subst hv2
 have hlp:0<X.t0.length:=List.length_pos_iff.2 hne
 have hl1:¬ X.t0.length=0:=by omega
 have hl1i:¬ (X.t0.length:Int)=0:=by omega
 obtain ⟨p1,p2⟩:=pickI_bound at_ (m:=(X.t0.length:Int)) (by omega)
 obtain ⟨j,hj⟩:∃ j:Nat,pickI at_ (X.t0.length:Int)=(j:Int):=⟨(pickI at_ (X.t0.length:Int)).toNat,by omega⟩
 rw [hj] at q2
 have hjl:j<X.t0.length:=by omega
 obtain ⟨b,hb⟩:∃ b,X.t0[j]?=some b:=⟨X.t0[j],zge hjl⟩
 have hbm:=zmg hb
 have hbl:b.length≤1020:=J.f0 b hbm
 obtain ⟨S1,N1,g1⟩:=k30_0 S w z P Q _ _ _ _ _ X.k0 X.t0 N j b hb (by omega)
 have hll:=len_lose X.t0 j
 have lq:=J.q0
 obtain ⟨S2,k',r,hk',N2,g2⟩:=k29_0 S1 w z P Q _ _ _ _ _ X.k4 X.q0 c (by omega) N1 b1 b2 b3 (by omega) (by omega) b (by omega) (tk_out _ _)
 have lo:=tk_out (P 0) b
 obtain ⟨S',P',Q',X',J',V,H⟩:=E17_0 S2 w z c _ _ {X with t0:=X.t0.take j ++ X.t0.drop (j+1),k0:=1,q0:=X.q0 ++ ((P 0).tk b).out,k4:=k'} hc ⟨N2,by refine ⟨?_,?_,?_,?_,?_,?_⟩ <;> first | assumption | exact Nat.le_refl 1,J.bo.upd (Nat.le_succ c) (b1.take _ r) (b2.take _ 0) (b3.take _ r 0),by show (X.t0.take j ++ X.t0.drop (j+1)).length≤_;omega,by show X.t1.length≤_;omega,fun f hf=>J.f0 f (mem_lose hf),J.f1,Nat.le_succ_of_le J.p0,Nat.le_succ_of_le J.p1,by show (X.q0 ++ _).length≤_;rw [zla];omega,Nat.le_succ_of_le J.q1⟩
 refine ⟨S',P',Q',X',J',fun _ I=>V ((I.sub0 1 (fun d hd=>mem_lose hd)).take0 b1.s (I.t0 b hbm) r k'),?_⟩
 refine EvF_start fi17_eq (fun x h=>by cases h <;> decide) m17 ?_
 rw [st17]
 generalize pickI at_ (X.t0.length:Int)=qa at *
 simp (config:={implicitDefEqProofs:=false}) [-zia,-zaa,-St.obj,-St.set,q1,q2,q3,ow,H,w64_0,w64_1,g1,g2,hl1,hl1i,-zil,-zit,-znl,-znt,ty3,ty4,ty9,ty22,ty27,ty28,ty35,ty40,ty43,ty44,ty45,ty46,ty47,ty48,ty50,H17,x15,fi15_eq,p15,e17_18,q17_18,e17_21,q17_21,e17_19,e17_17,e17_15,e17_27,e17_25,e17_34,e17_33,e17_31,e17_45,e17_49,q17_49,e17_53,e17_52,e17_50,e17_48,e17_46,e17_44,e17_42,e17_40,e17_38,e17_30,e17_28,e17_24,e17_22,e17_14,e17_12,e17_11,e17_9,e17_57,e17_8,e17_6,e17_4,e17_2,e17_0]
theorem E17_1 (S:St)(w z c:Nat)(P Q:Nat→LE)(X:Wi)(hc:c≤200)(J:Jn S w z (1000*c+1) (c+1) P Q X):∃ S' P' Q' X',Jn S' w z (1000*(c+1)) (c+1) P' Q' X'∧(Iv P X→Iv P' X')∧∀ fr,callStep gS (EvF gS) 31 [.ptr 0 0,.int .i64 1] fr S=some (.ok (.val (.bool true)) (fr.map E.noMem) S'):=by
 obtain ⟨b1,b2,b3⟩:=J.bo 1 (by omega)
 have hlen:=J.t0
 obtain ⟨o0,o1,o2,o3,o4,o5⟩:=J.ok
 obtain ⟨S',k',hk',N',H⟩:=k31_1 S w z P Q _ _ _ _ _ X.k0 X.t0 (c+1) (by omega) J.net b1 b2 b3 (by omega) (by omega)
 obtain ⟨hol,hof⟩:=outs_le (w:=w) b1
 refine ⟨S',_,_,{X with t0:=X.t0 ++ (P 1).outs w,k0:=k'},⟨N',by refine ⟨?_,?_,o2,o3,o4,o5⟩ <;> assumption,J.bo.upd (Nat.le_refl _) b1.out b2.out (b3.out w),?_,?_,?_,?_,J.p0,J.p1,J.q0,J.q1⟩,fun I=>I.out1 w k' b1.s (by have:=J.p1;omega) (by have:=b1.g;omega),H⟩
 ·show (X.t0 ++ (P 1).outs w).length≤_;rw [zla];omega
 ·have:=J.t1;show X.t1.length≤_;omega
 ·intro f hf;rcases List.mem_append.1 hf with h | h;exact J.f0 f h;exact hof f h
 ·exact J.f1
theorem O17_1p (S:St)(w z c:Nat)(P Q:Nat→LE)(X:Wi)(hc:c≤200)(hz:z≤8)(J:Jn S w z (1000*c) c P Q X)(wh en at_:Int)(bs:List UInt8)(hbs:bs.length≤140737488355328)(odd:Bool)(hi:pickI en 2=1)(v:Nat)(hv:pickI wh 11=(v:Int))(hv2:v<2):∃ S' P' Q' X',Jn S' w z (1000*(c+1)) (c+1) P' Q' X'∧(odd=false→Iv P X→Iv P' X')∧EvF gS 17 [.ptr 0 0,.agg [.int .i64 wh,.int .i64 en,.int .i64 at_,.slice (byteVs bs)],.bool odd] S=some (.ret (.bool true) none,S'):=by
 obtain ⟨b1,b2,b3⟩:=J.bo 1 (by omega)
 obtain ⟨o0,o1,o2,o3,o4,o5⟩:=J.ok
 have ht0:=J.t0
 have ht1:=J.t1
 have N:=J.net
 have q1:=fun fr st=>k15 en 2 (by omega) fr st
 have q2:=fun fr st=>k15 at_ (X.t1.length:Int) (by omega) fr st
 have q3:=fun fr st=>k15 wh 11 (by omega) fr st
 rw [hi] at q1
 rw [hv] at q3
 have ow:=N.o
 unfold Wi.c at ow
 have hvi:(v:Int)<2:=by omega
 have hf6:(bs.take 6).length≤1000:=by rw [List.length_take];omega
 have kf:=fun fr st=>k26 bs 6 (by omega) hbs fr st
 rw [show ((6:Nat):Int)=6 from rfl] at kf
 obtain ⟨f,hff⟩:∃ f,f=bs.take 6:=⟨_,rfl⟩
 rw [← hff] at kf hf6
 obtain ⟨S1,r,N1,g1⟩:=P_put N (i:=1) (by omega) (by omega) b1 f hf6
 obtain ⟨S2,N2,g2⟩:=Q_put N1 (i:=1) (by omega) (by omega) b2 f hf6 0
 have g1':∀ fr,callStep gS (EvF gS) 9 [.ptr 3 0,.slice (byteVs f)] fr S=_:=g1
 have g2':∀ fr,callStep gS (EvF gS) 27 [.ptr 4 0,.slice (byteVs f)] fr S1=_:=g2
 have ow1:=N1.o
 have ow2:=N2.o
 unfold Wi.c at ow1 ow2
 obtain ⟨S3,h3,N3⟩:=N2.hold [.ptr 1 0,.ptr 3 0,.ptr 2 0,.ptr 4 0,.osl X.k0 (encFs X.t0),.osl X.k1 (encFs X.t1),.osl X.k2 (encSs X.p0),.slice (encSs X.p1),.osl X.k4 (encSs X.q0),.osl X.k5 (encSs X.q1)]
 obtain ⟨S4,h4,N4⟩:=N3.hold [.ptr 1 0,.ptr 3 0,.ptr 2 0,.ptr 4 0,.osl X.k0 (encFs X.t0),.osl X.k1 (encFs X.t1),.osl X.k2 (encSs X.p0),.osl 1 (encSs (X.p1 ++ [f])),.osl X.k4 (encSs X.q0),.osl X.k5 (encSs X.q1)]
 have ow3:=N3.o
 obtain ⟨S',P',Q',X',J',V,H⟩:=E17_1 S4 w z c _ _ {X with p1:=X.p1 ++ [f],k3:=1} hc ⟨N4,by refine ⟨?_,?_,?_,?_,?_,?_⟩ <;> first | assumption | exact Nat.le_refl 1,J.bo.upd (Nat.le_succ c) (b1.put hf6 r) (b2.put hf6 0) (b3.put f r 0),by show X.t0.length≤_;omega,by show X.t1.length≤_;omega,J.f0,J.f1,Nat.le_succ_of_le J.p0,by show (X.p1 ++ [f]).length≤_;rw [zla];have:=J.p1;simp;omega,Nat.le_succ_of_le J.q0,Nat.le_succ_of_le J.q1⟩
 have hs1:=sizes_ss X.p1
 have hs2:=ss_snoc X.p1 f
 have hs3:=sizes_bytes f
 have lp:=J.p1
 have c1:(X.p1.length+1)*16≤140737488355328:=by omega
 have c2:X.p1.length+1≤140737488355328:=by omega
 have c3:f.length≤140737488355328:=by omega
 have hkk:X.k3=0∨X.k3=1:=by omega
 have hbo:=bytes_of f
 have bo1:borOk r17_18 7 11 50=false:=by kernel_rfl
 have bo2:borOk r17_21 8 11 69=false:=by kernel_rfl
 refine ⟨S',P',Q',X',J',fun _ I=>V (I.put1 f r),?_⟩
 refine EvF_start fi17_eq (fun x h=>by cases h <;> decide) m17 ?_
 rw [st17]
 generalize pickI at_ (X.t1.length:Int)=qa at *
 simp (config:={implicitDefEqProofs:=false}) [-zia,-zaa,-St.obj,-St.set,q1,q2,q3,ow,H,w64_0,w64_1,bo1,bo2,hvi,hv2,kf,g1',g2',ow1,ow2,ow3,h3,h4,hs1,hs2,hs3,c1,c2,c3,hkk,hbo,u8_27,-zil,-zit,-znl,-znt,ty3,ty4,ty9,ty22,ty27,ty28,ty35,ty40,ty43,ty44,ty45,ty46,ty47,ty48,ty50,H17,x15,fi15_eq,p15,e17_18,q17_18,e17_21,q17_21,e17_19,e17_17,e17_15,e17_27,e17_25,e17_34,e17_33,e17_31,e17_45,e17_49,q17_49,e17_53,e17_52,e17_50,e17_48,e17_46,e17_44,e17_42,e17_40,e17_38,e17_30,e17_28,e17_24,e17_22,e17_14,e17_12,e17_11,e17_9,e17_57,e17_8,e17_6,e17_4,e17_2,e17_0]
theorem O17_1t (S:St)(w z c:Nat)(P Q:Nat→LE)(X:Wi)(hc:c≤200)(hz:z≤8)(J:Jn S w z (1000*c) c P Q X)(wh en at_:Int)(bs:List UInt8)(hbs:bs.length≤140737488355328)(odd:Bool)(hi:pickI en 2=1)(v:Nat)(hv:pickI wh 11=(v:Int))(hv2:v=2):∃ S' P' Q' X',Jn S' w z (1000*(c+1)) (c+1) P' Q' X'∧(odd=false→Iv P X→Iv P' X')∧EvF gS 17 [.ptr 0 0,.agg [.int .i64 wh,.int .i64 en,.int .i64 at_,.slice (byteVs bs)],.bool odd] S=some (.ret (.bool true) none,S'):=by
 obtain ⟨b1,b2,b3⟩:=J.bo 1 (by omega)
 obtain ⟨o0,o1,o2,o3,o4,o5⟩:=J.ok
 have ht0:=J.t0
 have ht1:=J.t1
 have N:=J.net
 have q1:=fun fr st=>k15 en 2 (by omega) fr st
 have q2:=fun fr st=>k15 at_ (X.t1.length:Int) (by omega) fr st
 have q3:=fun fr st=>k15 wh 11 (by omega) fr st
 rw [hi] at q1
 rw [hv] at q3
 have ow:=N.o
 unfold Wi.c at ow
 subst hv2
 obtain ⟨S1,N1,g1⟩:=P_tick N (i:=1) (by omega) (by omega) b1
 obtain ⟨S2,N2,g2⟩:=Q_tick N1 (i:=1) (by omega) (by omega) b2
 have g1':∀ fr,callStep gS (EvF gS) 13 [.ptr 3 0] fr S=_:=g1
 have g2':∀ fr,callStep gS (EvF gS) 28 [.ptr 4 0] fr S1=_:=g2
 have ow1:=N1.o
 unfold Wi.c at ow1
 obtain ⟨S',P',Q',X',J',V,H⟩:=E17_1 S2 w z c _ _ X hc ⟨N2,J.ok,J.bo.upd (Nat.le_succ c) ((b1.tick hz).mono (Nat.le_succ c)) ((b2.tick hz).mono (Nat.le_succ c)) (b3.tick z),by omega,by omega,J.f0,J.f1,Nat.le_succ_of_le J.p0,Nat.le_succ_of_le J.p1,Nat.le_succ_of_le J.q0,Nat.le_succ_of_le J.q1⟩
 refine ⟨S',P',Q',X',J',fun _ I=>V (I.tick1 z),?_⟩
 refine EvF_start fi17_eq (fun x h=>by cases h <;> decide) m17 ?_
 rw [st17]
 generalize pickI at_ (X.t1.length:Int)=qa at *
 simp (config:={implicitDefEqProofs:=false}) [-zia,-zaa,-St.obj,-St.set,q1,q2,q3,ow,H,w64_0,w64_1,g1',g2',ow1,-zil,-zit,-znl,-znt,ty3,ty4,ty9,ty22,ty27,ty28,ty35,ty40,ty43,ty44,ty45,ty46,ty47,ty48,ty50,H17,x15,fi15_eq,p15,e17_18,q17_18,e17_21,q17_21,e17_19,e17_17,e17_15,e17_27,e17_25,e17_34,e17_33,e17_31,e17_45,e17_49,q17_49,e17_53,e17_52,e17_50,e17_48,e17_46,e17_44,e17_42,e17_40,e17_38,e17_30,e17_28,e17_24,e17_22,e17_14,e17_12,e17_11,e17_9,e17_57,e17_8,e17_6,e17_4,e17_2,e17_0]
theorem O17_1x (S:St)(w z c:Nat)(P Q:Nat→LE)(X:Wi)(hc:c≤200)(hz:z≤8)(J:Jn S w z (1000*c) c P Q X)(wh en at_:Int)(bs:List UInt8)(hbs:bs.length≤140737488355328)(odd:Bool)(hi:pickI en 2=1)(v:Nat)(hv:pickI wh 11=(v:Int))(hv2:v=10)(ho:odd=true):∃ S' P' Q' X',Jn S' w z (1000*(c+1)) (c+1) P' Q' X'∧(odd=false→Iv P X→Iv P' X')∧EvF gS 17 [.ptr 0 0,.agg [.int .i64 wh,.int .i64 en,.int .i64 at_,.slice (byteVs bs)],.bool odd] S=some (.ret (.bool true) none,S'):=by
 obtain ⟨b1,b2,b3⟩:=J.bo 1 (by omega)
 obtain ⟨o0,o1,o2,o3,o4,o5⟩:=J.ok
 have ht0:=J.t0
 have ht1:=J.t1
 have N:=J.net
 have q1:=fun fr st=>k15 en 2 (by omega) fr st
 have q2:=fun fr st=>k15 at_ (X.t1.length:Int) (by omega) fr st
 have q3:=fun fr st=>k15 wh 11 (by omega) fr st
 rw [hi] at q1
 rw [hv] at q3
 have ow:=N.o
 unfold Wi.c at ow
 subst hv2 ho
 have hf5:(bs.take 5).length≤100000:=by rw [List.length_take];omega
 have kf:=fun fr st=>k26 bs 5 (by omega) hbs fr st
 rw [show ((5:Nat):Int)=5 from rfl] at kf
 have lq:=J.q1
 obtain ⟨S1,k',r,hk',N1,g1⟩:=k29_1 S w z P Q _ _ _ _ _ X.k5 X.q1 c (by omega) N b1 b2 b3 (by omega) (by omega) (bs.take 5) hf5 (tk_out _ _)
 have lo:=tk_out (P 1) (bs.take 5)
 obtain ⟨S',P',Q',X',J',V,H⟩:=E17_1 S1 w z c _ _ {X with q1:=X.q1 ++ ((P 1).tk (bs.take 5)).out,k5:=k'} hc ⟨N1,by refine ⟨?_,?_,?_,?_,?_,?_⟩ <;> assumption,J.bo.upd (Nat.le_succ c) (b1.take _ r) (b2.take _ 0) (b3.take _ r 0),by show X.t0.length≤_;omega,by show X.t1.length≤_;omega,J.f0,J.f1,Nat.le_succ_of_le J.p0,Nat.le_succ_of_le J.p1,Nat.le_succ_of_le J.q0,by show (X.q1 ++ _).length≤_;rw [zla];omega⟩
 refine ⟨S',P',Q',X',J',fun h _=>(by cases h),?_⟩
 generalize bs.take 5=f5 at *
 refine EvF_start fi17_eq (fun x h=>by cases h <;> decide) m17 ?_
 rw [st17]
 generalize pickI at_ (X.t1.length:Int)=qa at *
 simp (config:={implicitDefEqProofs:=false}) [-zia,-zaa,-St.obj,-St.set,q1,q2,q3,ow,H,w64_0,w64_1,kf,g1,-zil,-zit,-znl,-znt,ty3,ty4,ty9,ty22,ty27,ty28,ty35,ty40,ty43,ty44,ty45,ty46,ty47,ty48,ty50,H17,x15,fi15_eq,p15,e17_18,q17_18,e17_21,q17_21,e17_19,e17_17,e17_15,e17_27,e17_25,e17_34,e17_33,e17_31,e17_45,e17_49,q17_49,e17_53,e17_52,e17_50,e17_48,e17_46,e17_44,e17_42,e17_40,e17_38,e17_30,e17_28,e17_24,e17_22,e17_14,e17_12,e17_11,e17_9,e17_57,e17_8,e17_6,e17_4,e17_2,e17_0]
theorem O17_1nt (S:St)(w z c:Nat)(P Q:Nat→LE)(X:Wi)(hc:c≤200)(hz:z≤8)(J:Jn S w z (1000*c) c P Q X)(wh en at_:Int)(bs:List UInt8)(hbs:bs.length≤140737488355328)(odd:Bool)(hi:pickI en 2=1)(v:Nat)(hv:pickI wh 11=(v:Int))(hod:odd=true)(hv2:3≤v)(h10:v≠10)(h0:X.t1=[]):∃ S' P' Q' X',Jn S' w z (1000*(c+1)) (c+1) P' Q' X'∧(odd=false→Iv P X→Iv P' X')∧EvF gS 17 [.ptr 0 0,.agg [.int .i64 wh,.int .i64 en,.int .i64 at_,.slice (byteVs bs)],.bool odd] S=some (.ret (.bool true) none,S'):=by
 obtain ⟨b1,b2,b3⟩:=J.bo 1 (by omega)
 obtain ⟨o0,o1,o2,o3,o4,o5⟩:=J.ok
 have ht0:=J.t0
 have ht1:=J.t1
 have N:=J.net
 have q1:=fun fr st=>k15 en 2 (by omega) fr st
 have q2:=fun fr st=>k15 at_ (X.t1.length:Int) (by omega) fr st
 have q3:=fun fr st=>k15 wh 11 (by omega) fr st
 rw [hi] at q1
 rw [hv] at q3
 have ow:=N.o
 unfold Wi.c at ow
 subst hod
 have d1:¬ v<2:=by omega
 have d1i:¬ (v:Int)<2:=by omega
 have d2:¬ v=2:=by omega
 have d2i:¬ (v:Int)=2:=by omega
 have d3:¬ v=10:=h10
 have d3i:¬ (v:Int)=10:=by omega
 obtain ⟨S',P',Q',X',J',V,H⟩:=E17_1 S w z c _ _ X hc ⟨N,J.ok,J.bo.mono (Nat.le_succ c),by omega,by omega,J.f0,J.f1,Nat.le_succ_of_le J.p0,Nat.le_succ_of_le J.p1,Nat.le_succ_of_le J.q0,Nat.le_succ_of_le J.q1⟩
 refine ⟨S',P',Q',X',J',fun _ I=>V I,?_⟩
 have hl0:X.t1.length=0:=by rw [h0];rfl
 rw [hl0,show ((0:Nat):Int)=0 from rfl] at q2
 refine EvF_start fi17_eq (fun x h=>by cases h <;> decide) m17 ?_
 rw [st17]
 generalize pickI at_ 0=qa at *
 simp (config:={implicitDefEqProofs:=false}) [-zia,-zaa,-St.obj,-St.set,q1,q2,q3,ow,H,w64_0,w64_1,d3,d3i,d1,d1i,d2,d2i,hl0,-zil,-zit,-znl,-znt,ty3,ty4,ty9,ty22,ty27,ty28,ty35,ty40,ty43,ty44,ty45,ty46,ty47,ty48,ty50,H17,x15,fi15_eq,p15,e17_18,q17_18,e17_21,q17_21,e17_19,e17_17,e17_15,e17_27,e17_25,e17_34,e17_33,e17_31,e17_45,e17_49,q17_49,e17_53,e17_52,e17_50,e17_48,e17_46,e17_44,e17_42,e17_40,e17_38,e17_30,e17_28,e17_24,e17_22,e17_14,e17_12,e17_11,e17_9,e17_57,e17_8,e17_6,e17_4,e17_2,e17_0]
theorem O17_1lt (S:St)(w z c:Nat)(P Q:Nat→LE)(X:Wi)(hc:c≤200)(hz:z≤8)(J:Jn S w z (1000*c) c P Q X)(wh en at_:Int)(bs:List UInt8)(hbs:bs.length≤140737488355328)(odd:Bool)(hi:pickI en 2=1)(v:Nat)(hv:pickI wh 11=(v:Int))(hod:odd=true)(hv2:v=8)(hne:X.t1≠[]):∃ S' P' Q' X',Jn S' w z (1000*(c+1)) (c+1) P' Q' X'∧(odd=false→Iv P X→Iv P' X')∧EvF gS 17 [.ptr 0 0,.agg [.int .i64 wh,.int .i64 en,.int .i64 at_,.slice (byteVs bs)],.bool odd] S=some (.ret (.bool true) none,S'):=by
 obtain ⟨b1,b2,b3⟩:=J.bo 1 (by omega)
 obtain ⟨o0,o1,o2,o3,o4,o5⟩:=J.ok
 have ht0:=J.t0
 have ht1:=J.t1
 have N:=J.net
 have q1:=fun fr st=>k15 en 2 (by omega) fr st
 have q2:=fun fr st=>k15 at_ (X.t1.length:Int) (by omega) fr st
 have q3:=fun fr st=>k15 wh 11 (by omega) fr st
 rw [hi] at q1
 rw [hv] at q3
 have ow:=N.o
 unfold Wi.c at ow
 subst hod
 subst hv2
 have hlp:0<X.t1.length:=List.length_pos_iff.2 hne
 have hl1:¬ X.t1.length=0:=by omega
 have hl1i:¬ (X.t1.length:Int)=0:=by omega
 obtain ⟨p1,p2⟩:=pickI_bound at_ (m:=(X.t1.length:Int)) (by omega)
 obtain ⟨j,hj⟩:∃ j:Nat,pickI at_ (X.t1.length:Int)=(j:Int):=⟨(pickI at_ (X.t1.length:Int)).toNat,by omega⟩
 rw [hj] at q2
 have hjl:j<X.t1.length:=by omega
 obtain ⟨b,hb⟩:∃ b,X.t1[j]?=some b:=⟨X.t1[j],zge hjl⟩
 have hbm:=zmg hb
 have hbl:b.length≤1020:=J.f1 b hbm
 obtain ⟨S1,N1,g1⟩:=k30_1 S w z P Q _ _ _ _ _ X.k1 X.t1 N j b hb (by omega)
 have hll:=len_lose X.t1 j
 obtain ⟨S',P',Q',X',J',V,H⟩:=E17_1 S1 w z c _ _ {X with t1:=X.t1.take j ++ X.t1.drop (j+1),k1:=1} hc ⟨N1,by refine ⟨?_,?_,?_,?_,?_,?_⟩ <;> first | assumption | exact Nat.le_refl 1,J.bo.mono (Nat.le_succ c),by show X.t0.length≤_;omega,by show (X.t1.take j ++ X.t1.drop (j+1)).length≤_;omega,J.f0,fun f hf=>J.f1 f (mem_lose hf),Nat.le_succ_of_le J.p0,Nat.le_succ_of_le J.p1,Nat.le_succ_of_le J.q0,Nat.le_succ_of_le J.q1⟩
 refine ⟨S',P',Q',X',J',fun _ I=>V (I.sub1 1 (fun d hd=>mem_lose hd)),?_⟩
 refine EvF_start fi17_eq (fun x h=>by cases h <;> decide) m17 ?_
 rw [st17]
 generalize pickI at_ (X.t1.length:Int)=qa at *
 simp (config:={implicitDefEqProofs:=false}) [-zia,-zaa,-St.obj,-St.set,q1,q2,q3,ow,H,w64_0,w64_1,g1,hl1,hl1i,-zil,-zit,-znl,-znt,ty3,ty4,ty9,ty22,ty27,ty28,ty35,ty40,ty43,ty44,ty45,ty46,ty47,ty48,ty50,H17,x15,fi15_eq,p15,e17_18,q17_18,e17_21,q17_21,e17_19,e17_17,e17_15,e17_27,e17_25,e17_34,e17_33,e17_31,e17_45,e17_49,q17_49,e17_53,e17_52,e17_50,e17_48,e17_46,e17_44,e17_42,e17_40,e17_38,e17_30,e17_28,e17_24,e17_22,e17_14,e17_12,e17_11,e17_9,e17_57,e17_8,e17_6,e17_4,e17_2,e17_0]
theorem O17_1dt (S:St)(w z c:Nat)(P Q:Nat→LE)(X:Wi)(hc:c≤200)(hz:z≤8)(J:Jn S w z (1000*c) c P Q X)(wh en at_:Int)(bs:List UInt8)(hbs:bs.length≤140737488355328)(odd:Bool)(hi:pickI en 2=1)(v:Nat)(hv:pickI wh 11=(v:Int))(hod:odd=true)(hv2:v=9)(hne:X.t1≠[])(h40:X.t1.length<40):∃ S' P' Q' X',Jn S' w z (1000*(c+1)) (c+1) P' Q' X'∧(odd=false→Iv P X→Iv P' X')∧EvF gS 17 [.ptr 0 0,.agg [.int .i64 wh,.int .i64 en,.int .i64 at_,.slice (byteVs bs)],.bool odd] S=some (.ret (.bool true) none,S'):=by
 obtain ⟨b1,b2,b3⟩:=J.bo 1 (by omega)
 obtain ⟨o0,o1,o2,o3,o4,o5⟩:=J.ok
 have ht0:=J.t0
 have ht1:=J.t1
 have N:=J.net
 have q1:=fun fr st=>k15 en 2 (by omega) fr st
 have q2:=fun fr st=>k15 at_ (X.t1.length:Int) (by omega) fr st
 have q3:=fun fr st=>k15 wh 11 (by omega) fr st
 rw [hi] at q1
 rw [hv] at q3
 have ow:=N.o
 unfold Wi.c at ow
 subst hod
 subst hv2
 have hlp:0<X.t1.length:=List.length_pos_iff.2 hne
 have hl1:¬ X.t1.length=0:=by omega
 have hl1i:¬ (X.t1.length:Int)=0:=by omega
 obtain ⟨p1,p2⟩:=pickI_bound at_ (m:=(X.t1.length:Int)) (by omega)
 obtain ⟨j,hj⟩:∃ j:Nat,pickI at_ (X.t1.length:Int)=(j:Int):=⟨(pickI at_ (X.t1.length:Int)).toNat,by omega⟩
 rw [hj] at q2
 have hjl:j<X.t1.length:=by omega
 obtain ⟨b,hb⟩:∃ b,X.t1[j]?=some b:=⟨X.t1[j],zge hjl⟩
 have hbm:=zmg hb
 have hbl:b.length≤1020:=J.f1 b hbm
 have h40i:(X.t1.length:Int)<40:=by omega
 obtain ⟨S3,h3,N3⟩:=N.hold [.ptr 1 0,.ptr 3 0,.ptr 2 0,.ptr 4 0,.osl X.k0 (encFs X.t0),.slice (encFs X.t1),.osl X.k2 (encSs X.p0),.osl X.k3 (encSs X.p1),.osl X.k4 (encSs X.q0),.osl X.k5 (encSs X.q1)]
 obtain ⟨S4,h4,N4⟩:=N3.hold [.ptr 1 0,.ptr 3 0,.ptr 2 0,.ptr 4 0,.osl X.k0 (encFs X.t0),.osl 1 (encFs (X.t1 ++ [b])),.osl X.k2 (encSs X.p0),.osl X.k3 (encSs X.p1),.osl X.k4 (encSs X.q0),.osl X.k5 (encSs X.q1)]
 have ow3:=N3.o
 obtain ⟨S',P',Q',X',J',V,H⟩:=E17_1 S4 w z c _ _ {X with t1:=X.t1 ++ [b],k1:=1} hc ⟨N4,by refine ⟨?_,?_,?_,?_,?_,?_⟩ <;> first | assumption | exact Nat.le_refl 1,J.bo.mono (Nat.le_succ c),by show X.t0.length≤_;omega,by show (X.t1 ++ [b]).length≤_;simp;omega,J.f0,fun f hf=>by (rcases List.mem_append.1 hf with h | h;exact J.f1 f h;(simp at h;subst h;exact hbl)),Nat.le_succ_of_le J.p0,Nat.le_succ_of_le J.p1,Nat.le_succ_of_le J.q0,Nat.le_succ_of_le J.q1⟩
 obtain ⟨_,hbe⟩:=List.getElem?_eq_some_iff.1 hb
 have hji:(j:Int)<(X.t1.length:Int):=by omega
 have hs1:=sizes_fs X.t1
 have hs2:=fs_snoc X.t1 b
 have c1:(X.t1.length+1)*24≤140737488355328:=by omega
 have c2:X.t1.length+1≤140737488355328:=by omega
 have hkk:X.k1=0∨X.k1=1:=by omega
 refine ⟨S',P',Q',X',J',fun _ I=>V (I.sub1 1 (fun d hd=>by (rcases List.mem_append.1 hd with h | h;exact h;(simp at h;subst h;exact hbm)))),?_⟩
 refine EvF_start fi17_eq (fun x h=>by cases h <;> decide) m17 ?_
 rw [st17]
 generalize pickI at_ (X.t1.length:Int)=qa at *
 simp (config:={implicitDefEqProofs:=false}) [-zia,-zaa,-St.obj,-St.set,q1,q2,q3,ow,H,w64_0,w64_1,h3,h4,ow3,hb,hbe,hjl,hji,h40,h40i,hs1,hs2,c1,c2,hkk,hl1,hl1i,-zil,-zit,-znl,-znt,ty3,ty4,ty9,ty22,ty27,ty28,ty35,ty40,ty43,ty44,ty45,ty46,ty47,ty48,ty50,H17,x15,fi15_eq,p15,e17_18,q17_18,e17_21,q17_21,e17_19,e17_17,e17_15,e17_27,e17_25,e17_34,e17_33,e17_31,e17_45,e17_49,q17_49,e17_53,e17_52,e17_50,e17_48,e17_46,e17_44,e17_42,e17_40,e17_38,e17_30,e17_28,e17_24,e17_22,e17_14,e17_12,e17_11,e17_9,e17_57,e17_8,e17_6,e17_4,e17_2,e17_0]
theorem O17_1ut (S:St)(w z c:Nat)(P Q:Nat→LE)(X:Wi)(hc:c≤200)(hz:z≤8)(J:Jn S w z (1000*c) c P Q X)(wh en at_:Int)(bs:List UInt8)(hbs:bs.length≤140737488355328)(odd:Bool)(hi:pickI en 2=1)(v:Nat)(hv:pickI wh 11=(v:Int))(hod:odd=true)(hv2:3≤v)(h10:v≠10)(h8:v≠8)(h9:¬ (v=9∧X.t1.length<40))(hne:X.t1≠[]):∃ S' P' Q' X',Jn S' w z (1000*(c+1)) (c+1) P' Q' X'∧(odd=false→Iv P X→Iv P' X')∧EvF gS 17 [.ptr 0 0,.agg [.int .i64 wh,.int .i64 en,.int .i64 at_,.slice (byteVs bs)],.bool odd] S=some (.ret (.bool true) none,S'):=by
 obtain ⟨b1,b2,b3⟩:=J.bo 1 (by omega)
 obtain ⟨o0,o1,o2,o3,o4,o5⟩:=J.ok
 have ht0:=J.t0
 have ht1:=J.t1
 have N:=J.net
 have q1:=fun fr st=>k15 en 2 (by omega) fr st
 have q2:=fun fr st=>k15 at_ (X.t1.length:Int) (by omega) fr st
 have q3:=fun fr st=>k15 wh 11 (by omega) fr st
 rw [hi] at q1
 rw [hv] at q3
 have ow:=N.o
 unfold Wi.c at ow
 subst hod
 have d1:¬ v<2:=by omega
 have d1i:¬ (v:Int)<2:=by omega
 have d2:¬ v=2:=by omega
 have d2i:¬ (v:Int)=2:=by omega
 have d3:¬ v=10:=h10
 have d3i:¬ (v:Int)=10:=by omega
 have hlp:0<X.t1.length:=List.length_pos_iff.2 hne
 have hl1:¬ X.t1.length=0:=by omega
 have hl1i:¬ (X.t1.length:Int)=0:=by omega
 obtain ⟨p1,p2⟩:=pickI_bound at_ (m:=(X.t1.length:Int)) (by omega)
 obtain ⟨j,hj⟩:∃ j:Nat,pickI at_ (X.t1.length:Int)=(j:Int):=⟨(pickI at_ (X.t1.length:Int)).toNat,by omega⟩
 rw [hj] at q2
 have hjl:j<X.t1.length:=by omega
 obtain ⟨b,hb⟩:∃ b,X.t1[j]?=some b:=⟨X.t1[j],zge hjl⟩
 have hbm:=zmg hb
 have hbl:b.length≤1020:=J.f1 b hbm
 have d8:¬ v=8:=h8
 have d8i:¬ (v:Int)=8:=by omega
 obtain ⟨S1,N1,g1⟩:=k30_1 S w z P Q _ _ _ _ _ X.k1 X.t1 N j b hb (by omega)
 have hll:=len_lose X.t1 j
 have lq:=J.q1
 obtain ⟨S2,k',r,hk',N2,g2⟩:=k29_1 S1 w z P Q _ _ _ _ _ X.k5 X.q1 c (by omega) N1 b1 b2 b3 (by omega) (by omega) b (by omega) (tk_out _ _)
 have lo:=tk_out (P 1) b
 obtain ⟨S',P',Q',X',J',V,H⟩:=E17_1 S2 w z c _ _ {X with t1:=X.t1.take j ++ X.t1.drop (j+1),k1:=1,q1:=X.q1 ++ ((P 1).tk b).out,k5:=k'} hc ⟨N2,by refine ⟨?_,?_,?_,?_,?_,?_⟩ <;> first | assumption | exact Nat.le_refl 1,J.bo.upd (Nat.le_succ c) (b1.take _ r) (b2.take _ 0) (b3.take _ r 0),by show X.t0.length≤_;omega,by show (X.t1.take j ++ X.t1.drop (j+1)).length≤_;omega,J.f0,fun f hf=>J.f1 f (mem_lose hf),Nat.le_succ_of_le J.p0,Nat.le_succ_of_le J.p1,Nat.le_succ_of_le J.q0,by show (X.q1 ++ _).length≤_;rw [zla];omega⟩
 refine ⟨S',P',Q',X',J',fun _ I=>V ((I.sub1 1 (fun d hd=>mem_lose hd)).take1 b1.s (I.t1 b hbm) r k'),?_⟩
 by_cases h9v:v=9
 ·subst h9v
  have h40:¬ X.t1.length<40:=fun h=>h9 ⟨rfl,h⟩
  have h40i:¬ (X.t1.length:Int)<40:=by omega
  refine EvF_start fi17_eq (fun x h=>by cases h <;> decide) m17 ?_
  rw [st17]
  have hm:fi17.marks=[]:=rfl
  have hl:fi17.locals=[4]:=rfl
  have hr:fi17.results=[.tmp 6]:=rfl
  simp (config:={implicitDefEqProofs:=false}) [-zia,-zaa,-St.obj,-St.set,q1,q2,q3,ow,H,w64_0,w64_1,g1,g2,hl1,hl1i,h40,h40i,-zil,-zit,-znl,-znt,ty3,ty4,ty9,ty22,ty27,ty28,ty35,ty40,ty43,ty44,ty45,ty46,ty47,ty48,ty50,hm,hl,hr,x15,fi15_eq,p15,e17_18,q17_18,e17_21,q17_21,e17_19,e17_17,e17_15,e17_27,e17_25,e17_34,e17_33,e17_31,e17_45,e17_49,q17_49,e17_53,e17_52,e17_50,e17_48,e17_46,e17_44,e17_42,e17_40,e17_38,e17_30,e17_28,e17_24,e17_22,e17_14,e17_12,e17_11,e17_9,e17_57,e17_8,e17_6,e17_4,e17_2,e17_0]
 have d9:¬ v=9:=h9v
 have d9i:¬ (v:Int)=9:=by omega
 refine EvF_start fi17_eq (fun x h=>by cases h <;> decide) m17 ?_
 rw [st17]
 have hm:fi17.marks=[]:=rfl
 have hl:fi17.locals=[4]:=rfl
 have hr:fi17.results=[.tmp 6]:=rfl
 generalize pickI at_ (X.t1.length:Int)=qa at *
 simp (config:={implicitDefEqProofs:=false}) [-zia,-zaa,-St.obj,-St.set,q1,q2,q3,ow,H,w64_0,w64_1,d3,d3i,d1,d1i,d2,d2i,d8,d8i,d9,d9i,g1,g2,hl1,hl1i,-zil,-zit,-znl,-znt,ty3,ty4,ty9,ty22,ty27,ty28,ty35,ty40,ty43,ty44,ty45,ty46,ty47,ty48,ty50,hm,hl,hr,x15,fi15_eq,p15,e17_18,q17_18,e17_21,q17_21,e17_19,e17_17,e17_15,e17_27,e17_25,e17_34,e17_33,e17_31,e17_45,e17_49,q17_49,e17_53,e17_52,e17_50,e17_48,e17_46,e17_44,e17_42,e17_40,e17_38,e17_30,e17_28,e17_24,e17_22,e17_14,e17_12,e17_11,e17_9,e17_57,e17_8,e17_6,e17_4,e17_2,e17_0]
theorem O17_1nf (S:St)(w z c:Nat)(P Q:Nat→LE)(X:Wi)(hc:c≤200)(hz:z≤8)(J:Jn S w z (1000*c) c P Q X)(wh en at_:Int)(bs:List UInt8)(hbs:bs.length≤140737488355328)(odd:Bool)(hi:pickI en 2=1)(v:Nat)(hv:pickI wh 11=(v:Int))(hod:odd=false)(hv2:3≤v)(h10:v≠10)(h0:X.t1=[]):∃ S' P' Q' X',Jn S' w z (1000*(c+1)) (c+1) P' Q' X'∧(odd=false→Iv P X→Iv P' X')∧EvF gS 17 [.ptr 0 0,.agg [.int .i64 wh,.int .i64 en,.int .i64 at_,.slice (byteVs bs)],.bool odd] S=some (.ret (.bool true) none,S'):=by
 obtain ⟨b1,b2,b3⟩:=J.bo 1 (by omega)
 obtain ⟨o0,o1,o2,o3,o4,o5⟩:=J.ok
 have ht0:=J.t0
 have ht1:=J.t1
 have N:=J.net
 have q1:=fun fr st=>k15 en 2 (by omega) fr st
 have q2:=fun fr st=>k15 at_ (X.t1.length:Int) (by omega) fr st
 have q3:=fun fr st=>k15 wh 11 (by omega) fr st
 rw [hi] at q1
 rw [hv] at q3
 have ow:=N.o
 unfold Wi.c at ow
 subst hod
 have d1:¬ v<2:=by omega
 have d1i:¬ (v:Int)<2:=by omega
 have d2:¬ v=2:=by omega
 have d2i:¬ (v:Int)=2:=by omega
 have d3:¬ v=10:=h10
 have d3i:¬ (v:Int)=10:=by omega
 obtain ⟨S',P',Q',X',J',V,H⟩:=E17_1 S w z c _ _ X hc ⟨N,J.ok,J.bo.mono (Nat.le_succ c),by omega,by omega,J.f0,J.f1,Nat.le_succ_of_le J.p0,Nat.le_succ_of_le J.p1,Nat.le_succ_of_le J.q0,Nat.le_succ_of_le J.q1⟩
 refine ⟨S',P',Q',X',J',fun _ I=>V I,?_⟩
 have hl0:X.t1.length=0:=by rw [h0];rfl
 rw [hl0,show ((0:Nat):Int)=0 from rfl] at q2
 refine EvF_start fi17_eq (fun x h=>by cases h <;> decide) m17 ?_
 rw [st17]
 generalize pickI at_ 0=qa at *
 simp (config:={implicitDefEqProofs:=false}) [-zia,-zaa,-St.obj,-St.set,q1,q2,q3,ow,H,w64_0,w64_1,d3,d3i,d1,d1i,d2,d2i,hl0,-zil,-zit,-znl,-znt,ty3,ty4,ty9,ty22,ty27,ty28,ty35,ty40,ty43,ty44,ty45,ty46,ty47,ty48,ty50,H17,x15,fi15_eq,p15,e17_18,q17_18,e17_21,q17_21,e17_19,e17_17,e17_15,e17_27,e17_25,e17_34,e17_33,e17_31,e17_45,e17_49,q17_49,e17_53,e17_52,e17_50,e17_48,e17_46,e17_44,e17_42,e17_40,e17_38,e17_30,e17_28,e17_24,e17_22,e17_14,e17_12,e17_11,e17_9,e17_57,e17_8,e17_6,e17_4,e17_2,e17_0]
theorem O17_1lf (S:St)(w z c:Nat)(P Q:Nat→LE)(X:Wi)(hc:c≤200)(hz:z≤8)(J:Jn S w z (1000*c) c P Q X)(wh en at_:Int)(bs:List UInt8)(hbs:bs.length≤140737488355328)(odd:Bool)(hi:pickI en 2=1)(v:Nat)(hv:pickI wh 11=(v:Int))(hod:odd=false)(hv2:v=8)(hne:X.t1≠[]):∃ S' P' Q' X',Jn S' w z (1000*(c+1)) (c+1) P' Q' X'∧(odd=false→Iv P X→Iv P' X')∧EvF gS 17 [.ptr 0 0,.agg [.int .i64 wh,.int .i64 en,.int .i64 at_,.slice (byteVs bs)],.bool odd] S=some (.ret (.bool true) none,S'):=by
 obtain ⟨b1,b2,b3⟩:=J.bo 1 (by omega)
 obtain ⟨o0,o1,o2,o3,o4,o5⟩:=J.ok
 have ht0:=J.t0
 have ht1:=J.t1
 have N:=J.net
 have q1:=fun fr st=>k15 en 2 (by omega) fr st
 have q2:=fun fr st=>k15 at_ (X.t1.length:Int) (by omega) fr st
 have q3:=fun fr st=>k15 wh 11 (by omega) fr st
 rw [hi] at q1
 rw [hv] at q3
 have ow:=N.o
 unfold Wi.c at ow
 subst hod
 subst hv2
 have hlp:0<X.t1.length:=List.length_pos_iff.2 hne
 have hl1:¬ X.t1.length=0:=by omega
 have hl1i:¬ (X.t1.length:Int)=0:=by omega
 obtain ⟨p1,p2⟩:=pickI_bound at_ (m:=(X.t1.length:Int)) (by omega)
 obtain ⟨j,hj⟩:∃ j:Nat,pickI at_ (X.t1.length:Int)=(j:Int):=⟨(pickI at_ (X.t1.length:Int)).toNat,by omega⟩
 rw [hj] at q2
 have hjl:j<X.t1.length:=by omega
 obtain ⟨b,hb⟩:∃ b,X.t1[j]?=some b:=⟨X.t1[j],zge hjl⟩
 have hbm:=zmg hb
 have hbl:b.length≤1020:=J.f1 b hbm
 obtain ⟨S1,N1,g1⟩:=k30_1 S w z P Q _ _ _ _ _ X.k1 X.t1 N j b hb (by omega)
 have hll:=len_lose X.t1 j
 obtain ⟨S',P',Q',X',J',V,H⟩:=E17_1 S1 w z c _ _ {X with t1:=X.t1.take j ++ X.t1.drop (j+1),k1:=1} hc ⟨N1,by refine ⟨?_,?_,?_,?_,?_,?_⟩ <;> first | assumption | exact Nat.le_refl 1,J.bo.mono (Nat.le_succ c),by show X.t0.length≤_;omega,by show (X.t1.take j ++ X.t1.drop (j+1)).length≤_;omega,J.f0,fun f hf=>J.f1 f (mem_lose hf),Nat.le_succ_of_le J.p0,Nat.le_succ_of_le J.p1,Nat.le_succ_of_le J.q0,Nat.le_succ_of_le J.q1⟩
 refine ⟨S',P',Q',X',J',fun _ I=>V (I.sub1 1 (fun d hd=>mem_lose hd)),?_⟩
 refine EvF_start fi17_eq (fun x h=>by cases h <;> decide) m17 ?_
 rw [st17]
 generalize pickI at_ (X.t1.length:Int)=qa at *
 simp (config:={implicitDefEqProofs:=false}) [-zia,-zaa,-St.obj,-St.set,q1,q2,q3,ow,H,w64_0,w64_1,g1,hl1,hl1i,-zil,-zit,-znl,-znt,ty3,ty4,ty9,ty22,ty27,ty28,ty35,ty40,ty43,ty44,ty45,ty46,ty47,ty48,ty50,H17,x15,fi15_eq,p15,e17_18,q17_18,e17_21,q17_21,e17_19,e17_17,e17_15,e17_27,e17_25,e17_34,e17_33,e17_31,e17_45,e17_49,q17_49,e17_53,e17_52,e17_50,e17_48,e17_46,e17_44,e17_42,e17_40,e17_38,e17_30,e17_28,e17_24,e17_22,e17_14,e17_12,e17_11,e17_9,e17_57,e17_8,e17_6,e17_4,e17_2,e17_0]
theorem O17_1df (S:St)(w z c:Nat)(P Q:Nat→LE)(X:Wi)(hc:c≤200)(hz:z≤8)(J:Jn S w z (1000*c) c P Q X)(wh en at_:Int)(bs:List UInt8)(hbs:bs.length≤140737488355328)(odd:Bool)(hi:pickI en 2=1)(v:Nat)(hv:pickI wh 11=(v:Int))(hod:odd=false)(hv2:v=9)(hne:X.t1≠[])(h40:X.t1.length<40):∃ S' P' Q' X',Jn S' w z (1000*(c+1)) (c+1) P' Q' X'∧(odd=false→Iv P X→Iv P' X')∧EvF gS 17 [.ptr 0 0,.agg [.int .i64 wh,.int .i64 en,.int .i64 at_,.slice (byteVs bs)],.bool odd] S=some (.ret (.bool true) none,S'):=by
 obtain ⟨b1,b2,b3⟩:=J.bo 1 (by omega)
 obtain ⟨o0,o1,o2,o3,o4,o5⟩:=J.ok
 have ht0:=J.t0
 have ht1:=J.t1
 have N:=J.net
 have q1:=fun fr st=>k15 en 2 (by omega) fr st
 have q2:=fun fr st=>k15 at_ (X.t1.length:Int) (by omega) fr st
 have q3:=fun fr st=>k15 wh 11 (by omega) fr st
 rw [hi] at q1
 rw [hv] at q3
 have ow:=N.o
 unfold Wi.c at ow
 subst hod
 subst hv2
 have hlp:0<X.t1.length:=List.length_pos_iff.2 hne
 have hl1:¬ X.t1.length=0:=by omega
 have hl1i:¬ (X.t1.length:Int)=0:=by omega
 obtain ⟨p1,p2⟩:=pickI_bound at_ (m:=(X.t1.length:Int)) (by omega)
 obtain ⟨j,hj⟩:∃ j:Nat,pickI at_ (X.t1.length:Int)=(j:Int):=⟨(pickI at_ (X.t1.length:Int)).toNat,by omega⟩
 rw [hj] at q2
 have hjl:j<X.t1.length:=by omega
 obtain ⟨b,hb⟩:∃ b,X.t1[j]?=some b:=⟨X.t1[j],zge hjl⟩
 have hbm:=zmg hb
 have hbl:b.length≤1020:=J.f1 b hbm
 have h40i:(X.t1.length:Int)<40:=by omega
 obtain ⟨S3,h3,N3⟩:=N.hold [.ptr 1 0,.ptr 3 0,.ptr 2 0,.ptr 4 0,.osl X.k0 (encFs X.t0),.slice (encFs X.t1),.osl X.k2 (encSs X.p0),.osl X.k3 (encSs X.p1),.osl X.k4 (encSs X.q0),.osl X.k5 (encSs X.q1)]
 obtain ⟨S4,h4,N4⟩:=N3.hold [.ptr 1 0,.ptr 3 0,.ptr 2 0,.ptr 4 0,.osl X.k0 (encFs X.t0),.osl 1 (encFs (X.t1 ++ [b])),.osl X.k2 (encSs X.p0),.osl X.k3 (encSs X.p1),.osl X.k4 (encSs X.q0),.osl X.k5 (encSs X.q1)]
 have ow3:=N3.o
 obtain ⟨S',P',Q',X',J',V,H⟩:=E17_1 S4 w z c _ _ {X with t1:=X.t1 ++ [b],k1:=1} hc ⟨N4,by refine ⟨?_,?_,?_,?_,?_,?_⟩ <;> first | assumption | exact Nat.le_refl 1,J.bo.mono (Nat.le_succ c),by show X.t0.length≤_;omega,by show (X.t1 ++ [b]).length≤_;simp;omega,J.f0,fun f hf=>by (rcases List.mem_append.1 hf with h | h;exact J.f1 f h;(simp at h;subst h;exact hbl)),Nat.le_succ_of_le J.p0,Nat.le_succ_of_le J.p1,Nat.le_succ_of_le J.q0,Nat.le_succ_of_le J.q1⟩
 obtain ⟨_,hbe⟩:=List.getElem?_eq_some_iff.1 hb
 have hji:(j:Int)<(X.t1.length:Int):=by omega
 have hs1:=sizes_fs X.t1
 have hs2:=fs_snoc X.t1 b
 have c1:(X.t1.length+1)*24≤140737488355328:=by omega
 have c2:X.t1.length+1≤140737488355328:=by omega
 have hkk:X.k1=0∨X.k1=1:=by omega
 refine ⟨S',P',Q',X',J',fun _ I=>V (I.sub1 1 (fun d hd=>by (rcases List.mem_append.1 hd with h | h;exact h;(simp at h;subst h;exact hbm)))),?_⟩
 refine EvF_start fi17_eq (fun x h=>by cases h <;> decide) m17 ?_
 rw [st17]
 generalize pickI at_ (X.t1.length:Int)=qa at *
 simp (config:={implicitDefEqProofs:=false}) [-zia,-zaa,-St.obj,-St.set,q1,q2,q3,ow,H,w64_0,w64_1,h3,h4,ow3,hb,hbe,hjl,hji,h40,h40i,hs1,hs2,c1,c2,hkk,hl1,hl1i,-zil,-zit,-znl,-znt,ty3,ty4,ty9,ty22,ty27,ty28,ty35,ty40,ty43,ty44,ty45,ty46,ty47,ty48,ty50,H17,x15,fi15_eq,p15,e17_18,q17_18,e17_21,q17_21,e17_19,e17_17,e17_15,e17_27,e17_25,e17_34,e17_33,e17_31,e17_45,e17_49,q17_49,e17_53,e17_52,e17_50,e17_48,e17_46,e17_44,e17_42,e17_40,e17_38,e17_30,e17_28,e17_24,e17_22,e17_14,e17_12,e17_11,e17_9,e17_57,e17_8,e17_6,e17_4,e17_2,e17_0]
theorem O17_1uf (S:St)(w z c:Nat)(P Q:Nat→LE)(X:Wi)(hc:c≤200)(hz:z≤8)(J:Jn S w z (1000*c) c P Q X)(wh en at_:Int)(bs:List UInt8)(hbs:bs.length≤140737488355328)(odd:Bool)(hi:pickI en 2=1)(v:Nat)(hv:pickI wh 11=(v:Int))(hod:odd=false)(hv2:3≤v)(h10:v≠10)(h8:v≠8)(h9:¬ (v=9∧X.t1.length<40))(hne:X.t1≠[]):∃ S' P' Q' X',Jn S' w z (1000*(c+1)) (c+1) P' Q' X'∧(odd=false→Iv P X→Iv P' X')∧EvF gS 17 [.ptr 0 0,.agg [.int .i64 wh,.int .i64 en,.int .i64 at_,.slice (byteVs bs)],.bool odd] S=some (.ret (.bool true) none,S'):=by
 obtain ⟨b1,b2,b3⟩:=J.bo 1 (by omega)
 obtain ⟨o0,o1,o2,o3,o4,o5⟩:=J.ok
 have ht0:=J.t0
 have ht1:=J.t1
 have N:=J.net
 have q1:=fun fr st=>k15 en 2 (by omega) fr st
 have q2:=fun fr st=>k15 at_ (X.t1.length:Int) (by omega) fr st
 have q3:=fun fr st=>k15 wh 11 (by omega) fr st
 rw [hi] at q1
 rw [hv] at q3
 have ow:=N.o
 unfold Wi.c at ow
 subst hod
 have d1:¬ v<2:=by omega
 have d1i:¬ (v:Int)<2:=by omega
 have d2:¬ v=2:=by omega
 have d2i:¬ (v:Int)=2:=by omega
 have d3:¬ v=10:=h10
 have d3i:¬ (v:Int)=10:=by omega
 have hlp:0<X.t1.length:=List.length_pos_iff.2 hne
 have hl1:¬ X.t1.length=0:=by omega
 have hl1i:¬ (X.t1.length:Int)=0:=by omega
 obtain ⟨p1,p2⟩:=pickI_bound at_ (m:=(X.t1.length:Int)) (by omega)
 obtain ⟨j,hj⟩:∃ j:Nat,pickI at_ (X.t1.length:Int)=(j:Int):=⟨(pickI at_ (X.t1.length:Int)).toNat,by omega⟩
 rw [hj] at q2
 have hjl:j<X.t1.length:=by omega
 obtain ⟨b,hb⟩:∃ b,X.t1[j]?=some b:=⟨X.t1[j],zge hjl⟩
 have hbm:=zmg hb
 have hbl:b.length≤1020:=J.f1 b hbm
 have d8:¬ v=8:=h8
 have d8i:¬ (v:Int)=8:=by omega
 obtain ⟨S1,N1,g1⟩:=k30_1 S w z P Q _ _ _ _ _ X.k1 X.t1 N j b hb (by omega)
 have hll:=len_lose X.t1 j
 have lq:=J.q1
 obtain ⟨S2,k',r,hk',N2,g2⟩:=k29_1 S1 w z P Q _ _ _ _ _ X.k5 X.q1 c (by omega) N1 b1 b2 b3 (by omega) (by omega) b (by omega) (tk_out _ _)
 have lo:=tk_out (P 1) b
 obtain ⟨S',P',Q',X',J',V,H⟩:=E17_1 S2 w z c _ _ {X with t1:=X.t1.take j ++ X.t1.drop (j+1),k1:=1,q1:=X.q1 ++ ((P 1).tk b).out,k5:=k'} hc ⟨N2,by refine ⟨?_,?_,?_,?_,?_,?_⟩ <;> first | assumption | exact Nat.le_refl 1,J.bo.upd (Nat.le_succ c) (b1.take _ r) (b2.take _ 0) (b3.take _ r 0),by show X.t0.length≤_;omega,by show (X.t1.take j ++ X.t1.drop (j+1)).length≤_;omega,J.f0,fun f hf=>J.f1 f (mem_lose hf),Nat.le_succ_of_le J.p0,Nat.le_succ_of_le J.p1,Nat.le_succ_of_le J.q0,by show (X.q1 ++ _).length≤_;rw [zla];omega⟩
 refine ⟨S',P',Q',X',J',fun _ I=>V ((I.sub1 1 (fun d hd=>mem_lose hd)).take1 b1.s (I.t1 b hbm) r k'),?_⟩
 by_cases h9v:v=9
 ·subst h9v
  have h40:¬ X.t1.length<40:=fun h=>h9 ⟨rfl,h⟩
  have h40i:¬ (X.t1.length:Int)<40:=by omega
  refine EvF_start fi17_eq (fun x h=>by cases h <;> decide) m17 ?_
  rw [st17]
  have hm:fi17.marks=[]:=rfl
  have hl:fi17.locals=[4]:=rfl
  have hr:fi17.results=[.tmp 6]:=rfl
  simp (config:={implicitDefEqProofs:=false}) [-zia,-zaa,-St.obj,-St.set,q1,q2,q3,ow,H,w64_0,w64_1,g1,g2,hl1,hl1i,h40,h40i,-zil,-zit,-znl,-znt,ty3,ty4,ty9,ty22,ty27,ty28,ty35,ty40,ty43,ty44,ty45,ty46,ty47,ty48,ty50,hm,hl,hr,x15,fi15_eq,p15,e17_18,q17_18,e17_21,q17_21,e17_19,e17_17,e17_15,e17_27,e17_25,e17_34,e17_33,e17_31,e17_45,e17_49,q17_49,e17_53,e17_52,e17_50,e17_48,e17_46,e17_44,e17_42,e17_40,e17_38,e17_30,e17_28,e17_24,e17_22,e17_14,e17_12,e17_11,e17_9,e17_57,e17_8,e17_6,e17_4,e17_2,e17_0]
 have d9:¬ v=9:=h9v
 have d9i:¬ (v:Int)=9:=by omega
 refine EvF_start fi17_eq (fun x h=>by cases h <;> decide) m17 ?_
 rw [st17]
 have hm:fi17.marks=[]:=rfl
 have hl:fi17.locals=[4]:=rfl
 have hr:fi17.results=[.tmp 6]:=rfl
 generalize pickI at_ (X.t1.length:Int)=qa at *
 simp (config:={implicitDefEqProofs:=false}) [-zia,-zaa,-St.obj,-St.set,q1,q2,q3,ow,H,w64_0,w64_1,d3,d3i,d1,d1i,d2,d2i,d8,d8i,d9,d9i,g1,g2,hl1,hl1i,-zil,-zit,-znl,-znt,ty3,ty4,ty9,ty22,ty27,ty28,ty35,ty40,ty43,ty44,ty45,ty46,ty47,ty48,ty50,hm,hl,hr,x15,fi15_eq,p15,e17_18,q17_18,e17_21,q17_21,e17_19,e17_17,e17_15,e17_27,e17_25,e17_34,e17_33,e17_31,e17_45,e17_49,q17_49,e17_53,e17_52,e17_50,e17_48,e17_46,e17_44,e17_42,e17_40,e17_38,e17_30,e17_28,e17_24,e17_22,e17_14,e17_12,e17_11,e17_9,e17_57,e17_8,e17_6,e17_4,e17_2,e17_0]
theorem O17_1nz (S:St)(w z c:Nat)(P Q:Nat→LE)(X:Wi)(hc:c≤200)(hz:z≤8)(J:Jn S w z (1000*c) c P Q X)(wh en at_:Int)(bs:List UInt8)(hbs:bs.length≤140737488355328)(odd:Bool)(hi:pickI en 2=1)(v:Nat)(hv:pickI wh 11=(v:Int))(hod:odd=false)(hv2:v=10)(h0:X.t1=[]):∃ S' P' Q' X',Jn S' w z (1000*(c+1)) (c+1) P' Q' X'∧(odd=false→Iv P X→Iv P' X')∧EvF gS 17 [.ptr 0 0,.agg [.int .i64 wh,.int .i64 en,.int .i64 at_,.slice (byteVs bs)],.bool odd] S=some (.ret (.bool true) none,S'):=by
 obtain ⟨b1,b2,b3⟩:=J.bo 1 (by omega)
 obtain ⟨o0,o1,o2,o3,o4,o5⟩:=J.ok
 have ht0:=J.t0
 have ht1:=J.t1
 have N:=J.net
 have q1:=fun fr st=>k15 en 2 (by omega) fr st
 have q2:=fun fr st=>k15 at_ (X.t1.length:Int) (by omega) fr st
 have q3:=fun fr st=>k15 wh 11 (by omega) fr st
 rw [hi] at q1
 rw [hv] at q3
 have ow:=N.o
 unfold Wi.c at ow
 subst hod
 subst hv2
 obtain ⟨S',P',Q',X',J',V,H⟩:=E17_1 S w z c _ _ X hc ⟨N,J.ok,J.bo.mono (Nat.le_succ c),by omega,by omega,J.f0,J.f1,Nat.le_succ_of_le J.p0,Nat.le_succ_of_le J.p1,Nat.le_succ_of_le J.q0,Nat.le_succ_of_le J.q1⟩
 refine ⟨S',P',Q',X',J',fun _ I=>V I,?_⟩
 have hl0:X.t1.length=0:=by rw [h0];rfl
 rw [hl0,show ((0:Nat):Int)=0 from rfl] at q2
 refine EvF_start fi17_eq (fun x h=>by cases h <;> decide) m17 ?_
 rw [st17]
 generalize pickI at_ 0=qa at *
 simp (config:={implicitDefEqProofs:=false}) [-zia,-zaa,-St.obj,-St.set,q1,q2,q3,ow,H,w64_0,w64_1,hl0,-zil,-zit,-znl,-znt,ty3,ty4,ty9,ty22,ty27,ty28,ty35,ty40,ty43,ty44,ty45,ty46,ty47,ty48,ty50,H17,x15,fi15_eq,p15,e17_18,q17_18,e17_21,q17_21,e17_19,e17_17,e17_15,e17_27,e17_25,e17_34,e17_33,e17_31,e17_45,e17_49,q17_49,e17_53,e17_52,e17_50,e17_48,e17_46,e17_44,e17_42,e17_40,e17_38,e17_30,e17_28,e17_24,e17_22,e17_14,e17_12,e17_11,e17_9,e17_57,e17_8,e17_6,e17_4,e17_2,e17_0]
theorem O17_1uz (S:St)(w z c:Nat)(P Q:Nat→LE)(X:Wi)(hc:c≤200)(hz:z≤8)(J:Jn S w z (1000*c) c P Q X)(wh en at_:Int)(bs:List UInt8)(hbs:bs.length≤140737488355328)(odd:Bool)(hi:pickI en 2=1)(v:Nat)(hv:pickI wh 11=(v:Int))(hod:odd=false)(hv2:v=10)(hne:X.t1≠[]):∃ S' P' Q' X',Jn S' w z (1000*(c+1)) (c+1) P' Q' X'∧(odd=false→Iv P X→Iv P' X')∧EvF gS 17 [.ptr 0 0,.agg [.int .i64 wh,.int .i64 en,.int .i64 at_,.slice (byteVs bs)],.bool odd] S=some (.ret (.bool true) none,S'):=by
 obtain ⟨b1,b2,b3⟩:=J.bo 1 (by omega)
 obtain ⟨o0,o1,o2,o3,o4,o5⟩:=J.ok
 have ht0:=J.t0
 have ht1:=J.t1
 have N:=J.net
 have q1:=fun fr st=>k15 en 2 (by omega) fr st
 have q2:=fun fr st=>k15 at_ (X.t1.length:Int) (by omega) fr st
 have q3:=fun fr st=>k15 wh 11 (by omega) fr st
 rw [hi] at q1
 rw [hv] at q3
 have ow:=N.o
 unfold Wi.c at ow
 subst hod
 subst hv2
 have hlp:0<X.t1.length:=List.length_pos_iff.2 hne
 have hl1:¬ X.t1.length=0:=by omega
 have hl1i:¬ (X.t1.length:Int)=0:=by omega
 obtain ⟨p1,p2⟩:=pickI_bound at_ (m:=(X.t1.length:Int)) (by omega)
 obtain ⟨j,hj⟩:∃ j:Nat,pickI at_ (X.t1.length:Int)=(j:Int):=⟨(pickI at_ (X.t1.length:Int)).toNat,by omega⟩
 rw [hj] at q2
 have hjl:j<X.t1.length:=by omega
 obtain ⟨b,hb⟩:∃ b,X.t1[j]?=some b:=⟨X.t1[j],zge hjl⟩
 have hbm:=zmg hb
 have hbl:b.length≤1020:=J.f1 b hbm
 obtain ⟨S1,N1,g1⟩:=k30_1 S w z P Q _ _ _ _ _ X.k1 X.t1 N j b hb (by omega)
 have hll:=len_lose X.t1 j
 have lq:=J.q1
 obtain ⟨S2,k',r,hk',N2,g2⟩:=k29_1 S1 w z P Q _ _ _ _ _ X.k5 X.q1 c (by omega) N1 b1 b2 b3 (by omega) (by omega) b (by omega) (tk_out _ _)
 have lo:=tk_out (P 1) b
 obtain ⟨S',P',Q',X',J',V,H⟩:=E17_1 S2 w z c _ _ {X with t1:=X.t1.take j ++ X.t1.drop (j+1),k1:=1,q1:=X.q1 ++ ((P 1).tk b).out,k5:=k'} hc ⟨N2,by refine ⟨?_,?_,?_,?_,?_,?_⟩ <;> first | assumption | exact Nat.le_refl 1,J.bo.upd (Nat.le_succ c) (b1.take _ r) (b2.take _ 0) (b3.take _ r 0),by show X.t0.length≤_;omega,by show (X.t1.take j ++ X.t1.drop (j+1)).length≤_;omega,J.f0,fun f hf=>J.f1 f (mem_lose hf),Nat.le_succ_of_le J.p0,Nat.le_succ_of_le J.p1,Nat.le_succ_of_le J.q0,by show (X.q1 ++ _).length≤_;rw [zla];omega⟩
 refine ⟨S',P',Q',X',J',fun _ I=>V ((I.sub1 1 (fun d hd=>mem_lose hd)).take1 b1.s (I.t1 b hbm) r k'),?_⟩
 refine EvF_start fi17_eq (fun x h=>by cases h <;> decide) m17 ?_
 rw [st17]
 generalize pickI at_ (X.t1.length:Int)=qa at *
 simp (config:={implicitDefEqProofs:=false}) [-zia,-zaa,-St.obj,-St.set,q1,q2,q3,ow,H,w64_0,w64_1,g1,g2,hl1,hl1i,-zil,-zit,-znl,-znt,ty3,ty4,ty9,ty22,ty27,ty28,ty35,ty40,ty43,ty44,ty45,ty46,ty47,ty48,ty50,H17,x15,fi15_eq,p15,e17_18,q17_18,e17_21,q17_21,e17_19,e17_17,e17_15,e17_27,e17_25,e17_34,e17_33,e17_31,e17_45,e17_49,q17_49,e17_53,e17_52,e17_50,e17_48,e17_46,e17_44,e17_42,e17_40,e17_38,e17_30,e17_28,e17_24,e17_22,e17_14,e17_12,e17_11,e17_9,e17_57,e17_8,e17_6,e17_4,e17_2,e17_0]
end
end Go.Proofs.Ytebjpgoadapabaa
namespace Go.Proofs.Ytebjpgoadapabaa
open Go Go.Ab
noncomputable section
variable (fr:Fr)(st:St)(k:Kt)
theorem O17 (S:St)(w z c:Nat)(P Q:Nat→LE)(X:Wi)(hc:c≤200)(hz:z≤8)(J:Jn S w z (1000*c) c P Q X)(wh en at_:Int)(bs:List UInt8)(hbs:bs.length≤140737488355328)(odd:Bool):∃ S' P' Q' X',Jn S' w z (1000*(c+1)) (c+1) P' Q' X'∧(odd=false→Iv P X→Iv P' X')∧EvF gS 17 [.ptr 0 0,.agg [.int .i64 wh,.int .i64 en,.int .i64 at_,.slice (byteVs bs)],.bool odd] S=some (.ret (.bool true) none,S'):=by
 have p0:=pickI_bound en (m:=2) (by omega)
 have p1:=pickI_bound wh (m:=11) (by omega)
 obtain ⟨v,hv⟩:∃ v:Nat,pickI wh 11=(v:Int):=⟨(pickI wh 11).toNat,by omega⟩
 rcases (show pickI en 2=0∨pickI en 2=1 by omega) with hi | hi
 ·
  by_cases h2:v<2
  ·exact O17_0p S w z c P Q X hc hz J wh en at_ bs hbs odd hi v hv h2
  by_cases h3:v=2
  ·exact O17_0t S w z c P Q X hc hz J wh en at_ bs hbs odd hi v hv h3
  by_cases h10:v=10
  ·cases odd with
   | true=>exact O17_0x S w z c P Q X hc hz J wh en at_ bs hbs true hi v hv h10 rfl
   | false =>
    by_cases h0:X.t0=[]
    ·exact O17_0nz S w z c P Q X hc hz J wh en at_ bs hbs false hi v hv rfl h10 h0
    ·exact O17_0uz S w z c P Q X hc hz J wh en at_ bs hbs false hi v hv rfl h10 h0
  cases odd with
  | true =>
   by_cases h0:X.t0=[]
   ·exact O17_0nt S w z c P Q X hc hz J wh en at_ bs hbs true hi v hv rfl (by omega) h10 h0
   by_cases h8:v=8
   ·exact O17_0lt S w z c P Q X hc hz J wh en at_ bs hbs true hi v hv rfl h8 h0
   by_cases h9:v=9∧X.t0.length<40
   ·exact O17_0dt S w z c P Q X hc hz J wh en at_ bs hbs true hi v hv rfl h9.1 h0 h9.2
   ·exact O17_0ut S w z c P Q X hc hz J wh en at_ bs hbs true hi v hv rfl (by omega) h10 h8 h9 h0
  | false =>
   by_cases h0:X.t0=[]
   ·exact O17_0nf S w z c P Q X hc hz J wh en at_ bs hbs false hi v hv rfl (by omega) h10 h0
   by_cases h8:v=8
   ·exact O17_0lf S w z c P Q X hc hz J wh en at_ bs hbs false hi v hv rfl h8 h0
   by_cases h9:v=9∧X.t0.length<40
   ·exact O17_0df S w z c P Q X hc hz J wh en at_ bs hbs false hi v hv rfl h9.1 h0 h9.2
   ·exact O17_0uf S w z c P Q X hc hz J wh en at_ bs hbs false hi v hv rfl (by omega) h10 h8 h9 h0
 ·
  by_cases h2:v<2
  ·exact O17_1p S w z c P Q X hc hz J wh en at_ bs hbs odd hi v hv h2
  by_cases h3:v=2
  ·exact O17_1t S w z c P Q X hc hz J wh en at_ bs hbs odd hi v hv h3
  by_cases h10:v=10
  ·cases odd with
   | true=>exact O17_1x S w z c P Q X hc hz J wh en at_ bs hbs true hi v hv h10 rfl
   | false =>
    by_cases h0:X.t1=[]
    ·exact O17_1nz S w z c P Q X hc hz J wh en at_ bs hbs false hi v hv rfl h10 h0
    ·exact O17_1uz S w z c P Q X hc hz J wh en at_ bs hbs false hi v hv rfl h10 h0
  cases odd with
  | true =>
   by_cases h0:X.t1=[]
   ·exact O17_1nt S w z c P Q X hc hz J wh en at_ bs hbs true hi v hv rfl (by omega) h10 h0
   by_cases h8:v=8
   ·exact O17_1lt S w z c P Q X hc hz J wh en at_ bs hbs true hi v hv rfl h8 h0
   by_cases h9:v=9∧X.t1.length<40
   ·exact O17_1dt S w z c P Q X hc hz J wh en at_ bs hbs true hi v hv rfl h9.1 h0 h9.2
   ·exact O17_1ut S w z c P Q X hc hz J wh en at_ bs hbs true hi v hv rfl (by omega) h10 h8 h9 h0
  | false =>
   by_cases h0:X.t1=[]
   ·exact O17_1nf S w z c P Q X hc hz J wh en at_ bs hbs false hi v hv rfl (by omega) h10 h0
   by_cases h8:v=8
   ·exact O17_1lf S w z c P Q X hc hz J wh en at_ bs hbs false hi v hv rfl h8 h0
   by_cases h9:v=9∧X.t1.length<40
   ·exact O17_1df S w z c P Q X hc hz J wh en at_ bs hbs false hi v hv rfl h9.1 h0 h9.2
   ·exact O17_1uf S w z c P Q X hc hz J wh en at_ bs hbs false hi v hv rfl (by omega) h10 h8 h9 h0
theorem k17 (S:St)(w z c:Nat)(P Q:Nat→LE)(X:Wi)(hc:c≤200)(hz:z≤8)(J:Jn S w z (1000*c) c P Q X)(wh en at_:Int)(bs:List UInt8)(hbs:bs.length≤140737488355328)(odd:Bool):∃ S' P' Q' X',Jn S' w z (1000*(c+1)) (c+1) P' Q' X'∧(odd=false→Iv P X→Iv P' X')∧∀ fr,callStep gS (EvF gS) 17 [.ptr 0 0,.agg [.int .i64 wh,.int .i64 en,.int .i64 at_,.slice (byteVs bs)],.bool odd] fr S=some (.ok (.val (.bool true)) (fr.map E.noMem) S'):=by
 obtain ⟨S',P',Q',X',J',V,H⟩:=O17 S w z c P Q X hc hz J wh en at_ bs hbs odd
 exact ⟨S',P',Q',X',J',V,fun fr=>call_np rfl fi17_eq rfl H fr⟩
def fi14:FI:={body:=codeOf Try.f14,ntmps:=44,results:=[.tmp 4],pers:=[0,1,4,5,6,7,9],locals:=[],pure:=false,marks:=[]}
theorem H14:fi14.marks=[]∧fi14.locals=[]∧fi14.results=[.tmp 4]:=⟨rfl,rfl,rfl⟩
theorem fi14_eq:gS.fn 14=some fi14:=by kernel_rfl
theorem st14 (a0 a1:V):startFr fi14 [a0,a1]={ps:=[(0,.val a0),(1,.val a1),(4,.any),(5,.any),(6,.any),(7,.any),(9,.any)],ts:=[],lc:=[]}:=rfl
def b14:Code:=mini (codeOf Try.f14)
def c14_12:Code:=.cond (.tmp 14) .skip (.exit 0)
def c14_10:Code:=.seq (codeN b14 267) c14_12
def c14_25:Code:=.seq (codeN b14 38475) .ret
def c14_24:Code:=.cond (.tmp 30) c14_25 .skip
def c14_22:Code:=.seq (codeN b14 9803) c14_24
def r14_29:Array Oper:=regOps (codeN (codeOf Try.f14) 7755)
def c14_29:Code:=.region 9 r14_29 true
def q14_29:List (Oper × Fl):=[(mv 31 5 35,qz0),
 (mv 32 6 3,qz0),
 (mv 33 5 35,qz2),
 (mv 34 6 3,qz2),
 (mv 35 7 22,qz0),
 (mv 36 9 45,qz2),
 (op1 37 (.nilCheck (.tmp 31)) 0,qz0),
 (qF 38 50 37 0 0,qz0),
 (ixa 39 44 38 32 0,qz0),
 (sto 22 39 35,qz8),
 (op1 40 (.nilCheck (.tmp 33)) 0,qz11),
 (qF 41 50 40 1 0,qz11),
 (ixa 42 46 41 34 0,qz5),
 (sto 45 42 36,qz4)]
def c14_21:Code:=.seq c14_22 c14_29
def c14_19:Code:=.seq (codeN b14 2635) c14_21
def c14_17:Code:=.seq (codeN b14 1099) c14_19
def c14_30:Code:=codeN b14 459
def c14_15:Code:=.seq (.block 1 c14_17) c14_30
def c14_9:Code:=.seq c14_10 c14_15
def c14_8:Code:=.loop c14_9
def c14_7:Code:=.block 0 c14_8
def c14_5:Code:=.seq (codeN b14 19) c14_7
def c14_31:Code:=.seq (codeN b14 23) .ret
def c14_4:Code:=.seq c14_5 c14_31
def c14_2:Code:=.seq (codeN b14 5) c14_4
def c14_0:Code:=.seq (codeN b14 2) c14_2
theorem E14:evK gS fi14 c14_12 fr st k=condK gS fi14 (fr.op (.tmp 14)).bool? .skip (.exit 0) fr st k ∧
 (evK gS fi14 c14_10 fr st k=opsR gS fi14 [mv 13 6 3,
 qB 14 .lss 3 13 2 3 4] fr st (.seq c14_12 k)) ∧
 evK gS fi14 c14_25 fr st k=opsR gS fi14 [op1 4 (.assign (.const (.pointer none))) 35] fr st (.seq .ret k) ∧
 evK gS fi14 c14_24 fr st k=condK gS fi14 (fr.op (.tmp 30)).bool? c14_25 .skip fr st k ∧
 (evK gS fi14 c14_22 fr st k=opsR gS fi14 [mv 29 7 22,
 op1 30 (.binOp .eql 22 (.tmp 29) (.const (.pointer none)) 22) 4] fr st (.seq c14_24 k)) ∧
 evK gS fi14 c14_29 fr st k=drwR gS fi14 r14_29 q14_29 fr st k ∧
 evK gS fi14 c14_21 fr st k=evK gS fi14 c14_22 fr st (.seq c14_29 k) ∧
 (evK gS fi14 c14_19 fr st k=opsR gS fi14 [mv 24 0 3,
 mv 25 1 3,
 cal 26 25 [(.tmp 24),(.tmp 25)] [3,3] 62,
 mv 23 26 62,
 op1 27 (.extract (.tmp 23) 0) 45,
 op1 28 (.extract (.tmp 23) 1) 23,
 asn 9 27 45,
 asn 10 28 23] fr st (.seq c14_21 k)) ∧
 (evK gS fi14 c14_17 fr st k=opsR gS fi14 [mv 18 0 3,
 mv 19 1 3,
 cal 20 8 [(.tmp 18),(.tmp 19)] [3,3] 24,
 mv 17 20 24,
 op1 21 (.extract (.tmp 17) 0) 22,
 op1 22 (.extract (.tmp 17) 1) 23,
 asn 7 21 22,
 asn 8 22 23] fr st (.seq c14_19 k)) ∧
 (evK gS fi14 c14_30 fr st k=opsR gS fi14 [mv 15 6 3,
 qB 16 .add 3 15 1 3 3,
 asn 6 16 3] fr st k) ∧
 evK gS fi14 c14_15 fr st k=evK gS fi14 c14_17 fr st (.blk 1 (.seq c14_30 k)) ∧
 evK gS fi14 c14_9 fr st k=evK gS fi14 c14_10 fr st (.seq c14_15 k) ∧
 evK gS fi14 c14_7 fr st k=evK gS fi14 c14_8 fr st (.blk 0 k) ∧
 evK gS fi14 c14_5 fr st k=opsR gS fi14 [qI 6 0 3] fr st (.seq c14_7 k) ∧
 (evK gS fi14 c14_31 fr st k=opsR gS fi14 [mv 43 5 35,
 asn 4 43 35] fr st (.seq .ret k)) ∧
 evK gS fi14 c14_4 fr st k=evK gS fi14 c14_5 fr st (.seq c14_31 k) ∧
 (evK gS fi14 c14_2 fr st k=opsR gS fi14 [op1 11 (.build 50 #[]) 50,
 op1 12 (.box 50 (.tmp 11)) 35,
 asn 5 12 35] fr st (.seq c14_4 k)) ∧
 evK gS fi14 c14_0 fr st k=opsR gS fi14 [op1 4 (.assign (.const (.pointer none))) 35] fr st (.seq c14_2 k):=⟨rfl,evK_rs 3 rfl (by kernel_rfl),evK_rs 8 rfl (by kernel_rfl),rfl,evK_rs 7 rfl (by kernel_rfl),evK_dr 9 rfl (by kernel_rfl) (by kernel_rfl),rfl,evK_rs 6 rfl (by kernel_rfl),evK_rs 5 rfl (by kernel_rfl),evK_r 4 (by kernel_rfl),rfl,rfl,rfl,evK_rs 2 rfl (by kernel_rfl),evK_rs 10 rfl (by kernel_rfl),rfl,evK_rs 1 rfl (by kernel_rfl),evK_rs 0 rfl (by kernel_rfl)⟩
theorem m14:mini fi14.body=c14_0:=by kernel_rfl
theorem n14_8 (fr:Fr)(st:St)(k:Kt):nextK gS fi14 (.loop c14_9 k) .normal fr st=evK gS fi14 c14_8 fr st k:=rfl
theorem k25 (w z:Nat)(h1:1≤w)(h2:w≤8)(h3:1≤z)(h4:z≤8)(fr:Fr)(S:St):callStep gS (EvF gS) 25 [.int .i64 (w:Int),.int .i64 (z:Int)] fr S=some (.ok (.val (.tuple [.ptr S.objs.length 0,.int .i64 0])) (fr.map E.noMem) (apps S [refC w z (.osl 0 []) 0 0 0 false false 0])) :=
 call_np rfl fi25_eq rfl (c25 w z h1 h2 h3 h4 S) fr
def madeS (w z:Nat):St:=⟨[(⟨[],[],[],[],[],[],0,0,0,0,0,0⟩:Wi).c,endC w z (.sref true 0 0 0 0) 1 0 0 false 0,refC w z (.osl 0 []) 0 0 0 false false 0,endC w z (.sref true 0 0 0 0) 1 0 0 false 0,refC w z (.osl 0 []) 0 0 0 false false 0],0⟩
theorem O14 (w z:Nat)(h1:1≤w)(h2:w≤8)(h3:1≤z)(h4:z≤8):EvF gS 14 [.int .i64 (w:Int),.int .i64 (z:Int)] ⟨[],0⟩=some (.ret (.ptr 0 0) none,madeS w z):=by
 have g8:=fun fr S=>k8 w z h1 h2 h3 h4 fr S
 have g25:=fun fr S=>k25 w z h1 h2 h3 h4 fr S
 have wc:(⟨[],[],[],[],[],[],0,0,0,0,0,0⟩:Wi).c=[.ptr 1 0,.ptr 3 0,.ptr 2 0,.ptr 4 0,.osl 0 [],.osl 0 [],.osl 0 [],.osl 0 [],.osl 0 [],.osl 0 []]:=rfl
 unfold madeS
 rw [wc]
 unfold apps at g8 g25
 generalize endC w z (.sref true 0 0 0 0) 1 0 0 false 0=e at *
 generalize refC w z (.osl 0 []) 0 0 0 false false 0=f at *
 refine EvF_start fi14_eq (fun x h=>by cases h <;> decide) m14 ?_
 rw [st14]
 have L2:∀ T,evK gS fi14 c14_8 {ps:=[(0,.val (.int .i64 (w:Nat))),(1,.val (.int .i64 (z:Nat))),(4,.val .nilp),(5,.val (.ptr 0 0)),(6,.val (.int .i64 2)),(7,.val (.ptr 3 0)),(9,.val (.ptr 4 0))],ts:=T,lc:=[]} ⟨[[.ptr 1 0,.ptr 3 0,.ptr 2 0,.ptr 4 0,.osl 0 [],.osl 0 [],.osl 0 [],.osl 0 [],.osl 0 [],.osl 0 []],e,f,e,f],0⟩ (.blk 0 (.seq c14_31 .nil))=some (.ret (.ptr 0 0) none,⟨[[.ptr 1 0,.ptr 3 0,.ptr 2 0,.ptr 4 0,.osl 0 [],.osl 0 [],.osl 0 [],.osl 0 [],.osl 0 [],.osl 0 []],e,f,e,f],0⟩):=fun T=>by
  refine evK_loop c14_9 _ _ _ _ rfl ?_
  simp (config:={implicitDefEqProofs:=false}) [-zia,-zil,-zit,-znl,-znt,ty3,ty4,ty22,ty23,ty35,ty44,ty45,ty46,ty50,H14,E14,q14_29,n14_8]
 have L1:∀ T,evK gS fi14 c14_8 {ps:=[(0,.val (.int .i64 (w:Nat))),(1,.val (.int .i64 (z:Nat))),(4,.val .nilp),(5,.val (.ptr 0 0)),(6,.val (.int .i64 1)),(7,.val (.ptr 1 0)),(9,.val (.ptr 2 0))],ts:=T,lc:=[]} ⟨[[.ptr 1 0,.nilp,.ptr 2 0,.nilp,.osl 0 [],.osl 0 [],.osl 0 [],.osl 0 [],.osl 0 [],.osl 0 []],e,f],0⟩ (.blk 0 (.seq c14_31 .nil))=some (.ret (.ptr 0 0) none,⟨[[.ptr 1 0,.ptr 3 0,.ptr 2 0,.ptr 4 0,.osl 0 [],.osl 0 [],.osl 0 [],.osl 0 [],.osl 0 [],.osl 0 []],e,f,e,f],0⟩):=fun T=>by
  refine evK_loop c14_9 _ _ _ _ rfl ?_
  simp (config:={implicitDefEqProofs:=false}) [-zia,g8,g25,St.obj,St.set,-zil,-zit,-znl,-znt,ty3,ty4,ty22,ty23,ty35,ty44,ty45,ty46,ty50,H14,E14,q14_29,n14_8]
  exact L2 _
 have L0:∀ T,evK gS fi14 c14_8 {ps:=[(0,.val (.int .i64 (w:Nat))),(1,.val (.int .i64 (z:Nat))),(4,.val .nilp),(5,.val (.ptr 0 0)),(6,.val (.int .i64 0)),(7,.any),(9,.any)],ts:=T,lc:=[]} ⟨[[.nilp,.nilp,.nilp,.nilp,.osl 0 [],.osl 0 [],.osl 0 [],.osl 0 [],.osl 0 [],.osl 0 []]],0⟩ (.blk 0 (.seq c14_31 .nil))=some (.ret (.ptr 0 0) none,⟨[[.ptr 1 0,.ptr 3 0,.ptr 2 0,.ptr 4 0,.osl 0 [],.osl 0 [],.osl 0 [],.osl 0 [],.osl 0 [],.osl 0 []],e,f,e,f],0⟩):=fun T=>by
  refine evK_loop c14_9 _ _ _ _ rfl ?_
  simp (config:={implicitDefEqProofs:=false}) [-zia,g8,g25,St.obj,St.set,-zil,-zit,-znl,-znt,ty3,ty4,ty22,ty23,ty35,ty44,ty45,ty46,ty50,H14,E14,q14_29,n14_8]
  exact L1 _
 simp (config:={implicitDefEqProofs:=false}) [-zia,St.obj,St.set,-zil,-zit,-znl,-znt,ty3,ty4,ty22,ty23,ty35,ty44,ty45,ty46,ty50,H14,E14,q14_29,n14_8]
 exact L0 _
theorem k14 (w z:Nat)(h1:1≤w)(h2:w≤8)(h3:1≤z)(h4:z≤8)(fr:Fr):callStep gS (EvF gS) 14 [.int .i64 (w:Int),.int .i64 (z:Int)] fr ⟨[],0⟩=some (.ok (.val (.ptr 0 0)) (fr.map E.noMem) (madeS w z)) :=
 call_np rfl fi14_eq rfl (O14 w z h1 h2 h3 h4) fr
def leO:LE:=⟨[],0,0,0,0,false,false,0,0⟩
theorem made_jn (w z:Nat):Jn (madeS w z) w z 0 0 (fun _=>leO) (fun _=>leO) ⟨[],[],[],[],[],[],0,0,0,0,0,0⟩ where
 net:={
  wp:=rfl
  o:=rfl
  e:=fun i hi=>by
   rcases (show i=0∨i=1 by omega) with rfl | rfl <;> rfl
  f:=fun i hi=>by
   rcases (show i=0∨i=1 by omega) with rfl | rfl <;> rfl
  r:=fun i hi h=>(h rfl).elim
  n:=fun i j hi hj h h1 h2=>(h1 rfl).elim
  l:=Nat.le_refl 5}
 ok:=⟨Nat.zero_le _,Nat.zero_le _,Nat.zero_le _,Nat.zero_le _,Nat.zero_le _,Nat.zero_le _⟩
 bo:=fun i hi=>⟨⟨Nat.le_refl 0,Nat.le_refl 0,Nat.le_refl 0,Nat.zero_le _,fun f hf=>(by cases hf),.inl ⟨rfl,rfl⟩⟩,⟨Nat.le_refl 0,Nat.le_refl 0,Nat.le_refl 0,Nat.zero_le _,fun f hf=>(by cases hf),.inl ⟨rfl,rfl⟩⟩,⟨rfl,rfl,rfl,rfl,rfl,rfl,rfl⟩⟩
 t0:=Nat.le_refl 0
 t1:=Nat.le_refl 0
 f0:=fun f hf=>by cases hf
 f1:=fun f hf=>by cases hf
 p0:=Nat.le_refl 0
 p1:=Nat.le_refl 0
 q0:=Nat.le_refl 0
 q1:=Nat.le_refl 0
theorem made_iv:Iv (fun _=>leO) ⟨[],[],[],[],[],[],0,0,0,0,0,0⟩ :=
 ⟨⟨rfl,Nat.le_refl 0,rfl,Nat.le_refl 0⟩,⟨rfl,Nat.le_refl 0,rfl,Nat.le_refl 0⟩,fun d hd=>(by cases hd),fun d hd=>(by cases hd)⟩
end
end Go.Proofs.Ytebjpgoadapabaa
namespace Go.Ab
open Go Go.ChangeShapes Go.WideShapes
variable {H:Type} {enc:TypeId × Value→H} {P:Program} {w:World} {base b0:Nat} {spare:Nat→Bool} {held:Bool} {r:Reach}
theorem bytes_map {zs:List Int} (h:∀ n∈zs,(Lit.int .u8 n).wf=true):∃ bs:List UInt8,zs.map (V.int .u8)=byteVs bs:=by
 refine ⟨zs.map fun n=>UInt8.ofNat n.toNat,?_⟩
 simp only [byteVs,List.map_map]
 refine List.map_congr_left fun n hn=>?_
 have h1:=h n hn
 simp only [Lit.wf,Bool.and_eq_true,decide_eq_true_eq] at h1
 have h2:(0:Int)≤n:=h1.1
 have h3:n≤255:=h1.2
 simp only [Function.comp,V.int.injEq,true_and,UInt8.toNat_ofNat']
 rw [Nat.mod_eq_of_lt (by omega)]
 omega
theorem arg_int {t:TypeId} {k:IntKind} {v:Value} (ht:P.underlying t=some (.int k))(hval:Value.okWide P w r b0 t v):∃ n,Rep K0 w v (.int k n):=by
 obtain ⟨n,rfl⟩:=okWide_int ht hval
 exact ⟨n,.int _ _⟩
end Go.Ab
namespace Go.Ab
open Go Go.ChangeShapes Go.WideShapes
variable {H:Type} {enc:TypeId × Value→H} {P:Program} {w:World} {base b0:Nat} {spare:Nat→Bool} {held:Bool} {r:Reach}
inductive Ty where
 | bool | int (k:IntKind) | float (k:FloatKind) | str
 | sl (e:Ty)
 | st (fs:List Ty)
mutual
def Ty.size:Ty→Nat
 | .st fs=>Ty.sizes fs
 | _=>1
def Ty.sizes:List Ty→Nat
 | []=>0
 | f :: r=>f.size+Ty.sizes r
end
mutual
def tyB (P:Program):Ty→TypeId→Bool
 | .bool,t=>match P.underlying t with | some .bool=>true | _=>false
 | .int k,t=>match P.underlying t with | some (.int k')=>decide (k'=k) | _=>false
 | .float k,t=>match P.underlying t with | some (.float k')=>decide (k'=k) | _=>false
 | .str,t=>match P.underlying t with | some .string=>true | _=>false
 | .sl e,t=>match P.underlying t with | some (.slice u)=>tyB P e u && P.cellsOf u == e.size && Nat.blt 0 e.size | _=>false
 | .st fs,t=>match P.underlying t with | some (.struct gs)=>tyFs P fs gs.toList 0 && P.cellsOf t == Ty.sizes fs | _=>false
def tyFs (P:Program):List Ty→List Field→Nat→Bool
 | [],[],_=>true
 | f :: fs,g :: gs,off=>g.offset == off && tyB P f g.type && P.cellsOf g.type == f.size && tyFs P fs gs (off+f.size)
 | _,_,_=>false
end
def elt:Ty→List V→V
 | .st _,cs=>.agg cs
 | _,cs=>cs.headD .any
mutual
def Fits:Ty→List V→Prop
 | .bool,cs=>∃ b,cs=[.bool b]
 | .int k,cs=>∃ n,cs=[.int k n]
 | .float k,cs=>∃ b,cs=[.float k b]
 | .str,cs=>∃ s,cs=[.str s]
 | .sl e,cs=>∃ xs:List (List V),cs=[.slice (xs.map (elt e))]∧∀ x∈xs,Fits e x
 | .st fs,cs=>FitsL fs cs
def FitsL:List Ty→List V→Prop
 | [],cs=>cs=[]
 | f :: fs,cs=>∃ a b,cs=a ++ b∧Fits f a∧FitsL fs b
end
mutual
theorem fits_len:∀ (T:Ty) {cs:List V},Fits T cs→cs.length=T.size
 | .bool,_,h=>by obtain ⟨b,rfl⟩:=h;rfl
 | .int k,_,h=>by obtain ⟨b,rfl⟩:=h;rfl
 | .float k,_,h=>by obtain ⟨b,rfl⟩:=h;rfl
 | .str,_,h=>by obtain ⟨b,rfl⟩:=h;rfl
 | .sl e,_,h=>by obtain ⟨b,rfl,_⟩:=h;rfl
 | .st fs,_,h=>fitsL_len fs h
theorem fitsL_len:∀ (fs:List Ty) {cs:List V},FitsL fs cs→cs.length=Ty.sizes fs
 | [],_,h=>by have:_=_:=h;subst this;rfl
 | f :: fs,_,h=>by
  obtain ⟨a,b,rfl,h1,h2⟩:=h
  rw [zla,fits_len f h1,fitsL_len fs h2];rfl
end
theorem elt_cells {T:Ty} {cs:List V} (h:Fits T cs):(elt T cs).cells=cs:=by
 cases T with
 | st fs=>rfl
 | bool=>obtain ⟨b,rfl⟩:=h;rfl
 | int k=>obtain ⟨b,rfl⟩:=h;rfl
 | float k=>obtain ⟨b,rfl⟩:=h;rfl
 | str=>obtain ⟨b,rfl⟩:=h;rfl
 | sl e=>obtain ⟨b,rfl,_⟩:=h;rfl
theorem reps_append' {κ:K} {w:World} {vs us:List Value} {xs ys:List V} (h:Reps κ w vs xs)(k:Reps κ w us ys):Reps κ w (vs ++ us) (xs ++ ys):=by
 induction xs generalizing vs with
 | nil=>cases h;exact k
 | cons x r ih =>
  cases h with
  | cons h1 h2=>exact .cons h1 (ih h2)
theorem reps_get' {κ:K} {w:World} {vs:List Value} {xs:List V} (h:Reps κ w vs xs):∀ (j:Nat) x,xs[j]?=some x→∃ v,vs[j]?=some v∧Rep κ w v x:=by
 induction xs generalizing vs with
 | nil=>intro j x hx;simp at hx
 | cons y r ih =>
  cases h with
  | cons h1 h2 =>
   intro j x hx
   cases j with
   | zero=>simp at hx;subst hx;exact ⟨_,rfl,h1⟩
   | succ j=>simpa using ih h2 j x (by simpa using hx)
theorem cells_at {k:Nat} (hk:0<k) {b off:Nat}:∀ {n:Nat} (f:Nat→List Value) (g:Nat→List V),(∀ i,i<n→(f i).length=k∧Reps K0 w (f i) (g i)∧(g i).length=k∧∀ j,j<k→w.cell? (at_ b (off+(i*k+j)))=(f i)[j]?) →
  RepAt K0 w b off (((List.range n).map g).flatMap id):=by
 intro n f g h
 refine RepAt.of_get fun j x hx=>?_
 have hc:∀ (m:Nat),m≤n→((((List.range m).map g).flatMap id).length=m*k):=by
  intro m
  induction m with
  | zero=>intro _;simp
  | succ m ih =>
   intro hm
   rw [List.range_succ,List.map_append,List.flatMap_append,zla,ih (by omega)]
   simp [(h m (by omega)).2.2.1,Nat.succ_mul]
 have key:∀ (m:Nat),m≤n→∀ j x,((((List.range m).map g).flatMap id)[j]?=some x)→∃ v,w.cell? (at_ b (off+j))=some v∧Rep K0 w v x:=by
  intro m
  induction m with
  | zero=>intro _ j x hx;simp at hx
  | succ m ih =>
   intro hm j x hx
   rw [List.range_succ,List.map_append,List.flatMap_append] at hx
   by_cases hj:j<m*k
   ·rw [List.getElem?_append_left (by rw [hc m (by omega)];exact hj)] at hx
    exact ih (by omega) j x hx
   ·rw [List.getElem?_append_right (by rw [hc m (by omega)];omega),hc m (by omega)] at hx
    simp only [List.map_cons,List.map_nil,List.flatMap_cons,List.flatMap_nil,id,List.append_nil] at hx
    obtain ⟨h1,h2,h3,h4⟩:=h m (by omega)
    obtain ⟨v,hv,hr⟩:=reps_get' h2 _ _ hx
    have hjl:=(List.getElem?_eq_some_iff.1 hx).1
    rw [h3] at hjl
    refine ⟨v,?_,hr⟩
    have:=h4 (j - m*k) hjl
    rw [hv] at this
    rw [← this];congr 2;omega
 obtain ⟨v,hv,hr⟩:=key n (Nat.le_refl _) j x hx
 exact ⟨v,⟨hv,rfl⟩,hr⟩
theorem choose_range {α:Type} [Inhabited α] {n:Nat} {p:Nat→α→Prop} (h:∀ i,i<n→∃ x,p i x):∃ f:Nat→α,∀ i,i<n→p i (f i):=by
 refine ⟨fun i=>if hi:i<n then Classical.choose (h i hi) else default,fun i hi=>?_⟩
 simp only [hi,dif_pos]
 exact Classical.choose_spec (h i hi)
mutual
theorem any_ok:∀ (T:Ty) {fuel:Nat} {t:TypeId} {cs:List Value} {x:DataW H × List MemPlace},tyB P T t=true→DataW.trod enc P w base spare held fuel t cs=some x→∃ xs,Reps K0 w cs xs∧Fits T xs
 | .bool,fuel,t,cs,x,ht,h=>by
  unfold tyB at ht
  split at ht
  ·rename_i hu
   obtain ⟨b,rfl,_⟩:=DataW.trod_bool hu h
   exact ⟨[.bool b],.cons (.bool b) .nil,b,rfl⟩
  ·cases ht
 | .int k,fuel,t,cs,x,ht,h=>by
  unfold tyB at ht
  split at ht
  ·rename_i k' hu
   obtain ⟨n,rfl,_⟩:=DataW.trod_int hu h
   have:=of_decide_eq_true ht
   subst this
   exact ⟨[.int k' n],.cons (.int k' n) .nil,n,rfl⟩
  ·cases ht
 | .float k,fuel,t,cs,x,ht,h=>by
  unfold tyB at ht
  split at ht
  ·rename_i k' hu
   have hk:=of_decide_eq_true ht
   subst hk
   cases fuel with
   | zero=>simp [DataW.trod] at h
   | succ n =>
    unfold DataW.trod at h
    rw [hu] at h
    split at h <;> simp_all
    obtain ⟨⟨rfl,_⟩,_⟩:=h
    exact ⟨_,.cons (.float _ _) .nil,_,rfl⟩
  ·cases ht
 | .str,fuel,t,cs,x,ht,h=>by
  unfold tyB at ht
  split at ht
  ·rename_i hu
   obtain ⟨s,rfl,_⟩:=DataW.trod_string hu h
   exact ⟨[.str s.data.toList],.cons (.str s) .nil,_,rfl⟩
  ·cases ht
 | .sl e,fuel,t,cs,x,ht,h=>by
  unfold tyB at ht
  split at ht
  ·rename_i u hu
   simp only [Bool.and_eq_true,beq_iff_eq,Nat.blt_eq] at ht
   obtain ⟨⟨h1,h2⟩,h3⟩:=ht
   rcases DataW.trod_slice hu h with ⟨rfl,_⟩ | ⟨a,len,cap,elems,rest,n,rfl,rfl,_,hb,hl,hm,hlen,hel,_,_⟩
   ·exact ⟨[.slice []],.cons (.slice0 _ _) .nil,[],rfl,by simp⟩
   ·by_cases h0:len=0
    ·subst h0;exact ⟨[.slice []],.cons (.slice0 _ _) .nil,[],rfl,by simp⟩
    ·rw [h2] at hel
     have each:∀ i,i<len→∃ c:List Value × List V,c.1.length=e.size∧Reps K0 w c.1 c.2∧Fits e c.2∧∀ j,j<e.size→w.cell? ((a.add (i*e.size)).add j)=c.1[j]?:=by
      intro i hi
      have hi':=hel i hi
      rw [zge (by omega)] at hi'
      obtain ⟨c,hc1,hc2⟩:=Option.bind_eq_some_iff.1 hi'
      obtain ⟨_,c1,c2⟩:=World.cells?_some hc1
      obtain ⟨xs,x1,x2⟩:=any_ok e h1 hc2
      exact ⟨(c,xs),c1,x1,x2,c2⟩
     obtain ⟨f,hf⟩:=choose_range each
     obtain ⟨b,off,spot⟩:=a
     have hspot:spot=none:=by
      obtain ⟨q1,q2,q3,q4⟩:=hf 0 (by omega)
      have:=q4 0 h3
      rw [zge (by omega)] at this
      have:=World.cell?_spot this
      simpa [Addr.add] using this
     subst hspot
     have hat:RepAt K0 w b off (((List.range len).map fun i=>(f i).2).flatMap id):=cells_at h3 (fun i=>(f i).1) (fun i=>(f i).2) fun i hi=>by
      obtain ⟨q1,q2,q3,q4⟩:=hf i hi
      refine ⟨q1,q2,fits_len e q3,fun j hj=>?_⟩
      have:=q4 j hj
      rw [show ({block:=b,off:=off}:Addr)=at_ b off from rfl,addr_add,addr_add] at this
      rw [← this];congr 2;omega
     let xs:=(List.range len).map fun i=>(f i).2
     have hxl:(xs.map (elt e)).length=len:=by simp [xs]
     have hfit:∀ x∈xs,Fits e x:=by
      intro x hx
      obtain ⟨i,hi,rfl⟩:=List.mem_map.1 hx
      exact (hf i (List.mem_range.1 hi)).2.2.1
     have hfl:(xs.map (elt e)).flatMap V.cells=xs.flatMap id:=by
      have:∀ l:List (List V),(∀ x∈l,Fits e x)→(l.map (elt e)).flatMap V.cells=l.flatMap id:=by
       intro l
       induction l with
       | nil=>intro _;rfl
       | cons y r ih =>
        intro hl
        simp only [List.map_cons,List.flatMap_cons]
        rw [elt_cells (hl y (by simp)),ih (fun z hz=>hl z (by simp [hz]))];rfl
      exact this xs hfit
     have key:=Rep.slice (κ:=K0) (w:=w) (b:=b) (o:=off) (cap:=cap) (k:=e.size) (xs:=xs.map (elt e)) (by rw [hxl];exact hl) (fun y hy=>by
      obtain ⟨z,hz,rfl⟩:=List.mem_map.1 hy
      rw [elt_cells (hfit z hz)];exact fits_len e (hfit z hz)) (by rw [hfl];exact hat)
     rw [hxl] at key
     exact ⟨[.slice (xs.map (elt e))],.cons key .nil,xs,rfl,hfit⟩
  ·cases ht
 | .st fs,fuel,t,cs,x,ht,h=>by
  unfold tyB at ht
  split at ht
  ·rename_i gs hu
   simp only [Bool.and_eq_true,beq_iff_eq] at ht
   obtain ⟨ys,n,rfl,_,hcl,hyl,hf⟩:=DataW.trod_struct hu h
   have:=anyL_ok fs gs.toList 0 cs (n:=n) ht.1 (fun i f hi=>by
    have hi':gs[i]?=some f:=by rw [← Array.getElem?_toList];exact hi
    have h1:=hf i f hi'
    have h2:i<ys.length:=by rw [hyl];exact (Array.getElem?_eq_some_iff.1 hi').1
    rw [zge h2] at h1
    exact ⟨_,h1⟩) (by rw [hcl,ht.2];simp)
   obtain ⟨xs,h1,h2⟩:=this
   rw [List.drop_zero] at h1
   exact ⟨xs,h1,h2⟩
  ·cases ht
theorem anyL_ok:∀ (fs:List Ty)(gs:List Field)(off:Nat)(cs:List Value) {n:Nat},tyFs P fs gs off=true→(∀ (i:Nat) (f:Field),gs[i]?=some f→∃ x,DataW.trod enc P w base spare held n f.type ((cs.drop f.offset).take (P.cellsOf f.type))=some x)→cs.length=off+Ty.sizes fs →
  ∃ xs,Reps K0 w (cs.drop off) xs∧FitsL fs xs
 | [],gs,off,cs,n,ht,h,hl=>by
  have:cs.drop off=[]:=List.drop_of_length_le (by rw [hl];exact Nat.le_refl _)
  rw [this]
  exact ⟨[],.nil,rfl⟩
 | f :: fs,[],off,cs,n,ht,h,hl=>by simp [tyFs] at ht
 | f :: fs,g :: gs,off,cs,n,ht,h,hl=>by
  simp only [tyFs,Bool.and_eq_true,beq_iff_eq] at ht
  obtain ⟨⟨⟨h1,h2⟩,h3⟩,h4⟩:=ht
  obtain ⟨x,hx⟩:=h 0 g rfl
  rw [h1,h3] at hx
  obtain ⟨xs,x1,x2⟩:=any_ok f h2 hx
  have hs:Ty.sizes (f :: fs)=f.size+Ty.sizes fs:=rfl
  obtain ⟨ys,y1,y2⟩:=anyL_ok fs gs (off+f.size) cs h4 (fun i q hi=>h (i+1) q hi) (by rw [hl,hs];omega)
  refine ⟨xs ++ ys,?_,xs,ys,rfl,x2,y2⟩
  have hsp:cs.drop off=(cs.drop off).take f.size ++ cs.drop (off+f.size):=by
   rw [← List.drop_drop,List.take_append_drop]
  rw [hsp]
  exact reps_append' x1 y1
end
theorem arg_any (T:Ty) {t:TypeId} {v:Value} {d:DataW H} {ps:List MemPlace} (ht:tyB P T t=true)(h:DataW.Trod enc P w base spare held t v d ps):∃ xs,Reps K0 w v.cells.toList xs∧Fits T xs:=by
 obtain ⟨fuel,hf⟩:=h
 exact any_ok T ht hf
end Go.Ab
namespace Go.Ab
open Go Go.ChangeShapes Go.WideShapes
variable {H:Type} {enc:TypeId × Value→H} {P:Program} {w:World} {base b0:Nat} {spare:Nat→Bool} {held:Bool} {r:Reach}
mutual
def Ty.bytes:Ty→Nat
 | .bool=>1
 | .int .i64=>8
 | .int _=>1
 | .float _=>8
 | .str=>16
 | .sl _=>24
 | .st fs=>(Ty.bytess fs+7) / 8*8
def Ty.bytess:List Ty→Nat
 | []=>0
 | f :: r=>f.bytes+Ty.bytess r
end
mutual
def byB (P:Program):Ty→TypeId→Bool
 | .sl e,t=>match P.underlying t with | some (.slice u)=>Nat.ble e.bytes (P.bytesOf u) && byB P e u | _=>false
 | .st fs,t=>match P.underlying t with | some (.struct gs)=>byFs P fs (gs.toList.map (·.type)) | _=>false
 | _,_=>true
def byFs (P:Program):List Ty→List TypeId→Bool
 | [],[]=>true
 | f :: fs,g :: gs=>byB P f g && byFs P fs gs
 | _,_=>false
end
mutual
def Bnd:Ty→List V→Prop
 | .int k,cs=>∃ n,cs=[.int k n]∧(Lit.int k n).wf=true
 | .str,cs=>∃ s,cs=[.str s]∧s.length≤reachBytes
 | .sl e,cs=>∃ xs:List (List V),cs=[.slice (xs.map (elt e))]∧(∀ x∈xs,Fits e x)∧xs.length*e.bytes≤reachBytes∧∀ x∈xs,Bnd e x
 | .st fs,cs=>BndL fs cs
 | _,_=>True
def BndL:List Ty→List V→Prop
 | [],_=>True
 | f :: fs,cs=>Bnd f (cs.take f.size)∧BndL fs (cs.drop f.size)
end
theorem weights_all {H:Type} {P:Program} {e:TypeId}:∀ {l:List (DataW H)} {d:DataW H} {n:Nat},d∈l→n∈d.weights P e→n∈DataW.weightsAll P e l
 | d0 :: r,d,n,hd,hn=>by
  simp only [DataW.weightsAll,List.mem_append]
  rcases List.mem_cons.1 hd with rfl | hd
  ·exact .inl hn
  ·exact .inr (weights_all hd hn)
theorem rep_slice_len {κ:K} {w:World} {v:Value} {q:List V} (h:Rep κ w v (.slice q)):∃ a cap,v=.slice a q.length cap:=by
 cases h with
 | slice0 a cap=>exact ⟨a,cap,rfl⟩
 | slice _ _ _=>exact ⟨_,_,rfl⟩
theorem reps_of {κ:K} {w:World}:∀ {cs:List Value} {xs:List V},cs.length=xs.length→(∀ (j:Nat) x,xs[j]?=some x→∃ v,cs[j]?=some v∧Rep κ w v x)→Reps κ w cs xs
 | [],[],_,_=>.nil
 | [],_ :: _,h,_=>by simp at h
 | _ :: _,[],h,_=>by simp at h
 | c :: cs,x :: xs,h,k=>by
  obtain ⟨v,hv,hr⟩:=k 0 x rfl
  simp at hv;subst hv
  exact .cons hr (reps_of (by simpa using h) fun j y hy=>by simpa using k (j+1) y (by simpa using hy))
theorem reps_split {κ:K} {w:World}:∀ {a:List Value} {x:List V} {b:List Value} {y:List V},a.length=x.length→Reps κ w (a ++ b) (x ++ y)→Reps κ w a x∧Reps κ w b y
 | [],[],_,_,_,h=>⟨.nil,h⟩
 | [],_ :: _,_,_,h,_=>by simp at h
 | _ :: _,[],_,_,h,_=>by simp at h
 | v :: a,z :: x,b,y,h,k=>by
  cases k with
  | cons h1 h2 =>
   obtain ⟨p,q⟩:=reps_split (by simpa using h) h2
   exact ⟨.cons h1 p,q⟩
theorem RepAt.get {κ:K} {w:World} {b:Nat}:∀ {xs:List V} {o:Nat},RepAt κ w b o xs→∀ (j:Nat) x,xs[j]?=some x→∃ v,Imm κ w b (o+j) v∧Rep κ w v x
 | [],_,_,_,_,h=>by simp at h
 | y :: r,o,h,j,x,hx=>by
  cases h with
  | cons hi h1 h2 =>
   cases j with
   | zero=>simp at hx;subst hx;exact ⟨_,hi,h1⟩
   | succ j =>
    obtain ⟨v,hv,hr⟩:=RepAt.get h2 j x (by simpa using hx)
    exact ⟨v,by rw [show o+(j+1)=o+1+j by omega];exact hv,hr⟩
mutual
theorem bnd_ok:∀ (T:Ty) {fuel:Nat} {t:TypeId} {cs:List Value} {x:DataW H × List MemPlace} {xs:List V},tyB P T t=true→byB P T t=true→DataW.trod enc P w base spare held fuel t cs=some x→Reps K0 w cs xs→Fits T xs→(∀ n∈x.1.weights P t,n≤reachBytes)→Bnd T xs
 | .bool,_,_,_,_,_,_,_,_,_,_,_=>trivial
 | .int k,fuel,t,cs,x,xs,ht,hb,h,hr,hf,hw=>by
  unfold tyB at ht
  split at ht
  ·rename_i k' hu
   have:=of_decide_eq_true ht
   subst this
   obtain ⟨n,rfl,_,hwf⟩:=DataW.trod_int hu h
   obtain ⟨n',rfl⟩:=hf
   cases hr with
   | cons h1 h2 =>
    cases h1 with
    | int=>exact ⟨_,rfl,hwf⟩
  ·cases ht
 | .float _,_,_,_,_,_,_,_,_,_,_,_=>trivial
 | .str,fuel,t,cs,x,xs,ht,hb,h,hr,hf,hw=>by
  unfold tyB at ht
  split at ht
  ·rename_i hu
   obtain ⟨s,rfl,rfl,_⟩:=DataW.trod_string hu h
   obtain ⟨s',rfl⟩:=hf
   cases hr with
   | cons h1 h2 =>
    cases h1 with
    | str=>exact ⟨_,rfl,hw _ (by simp [DataW.weights])⟩
  ·cases ht
 | .sl e,fuel,t,cs,x,ys,ht,hb,h,hr,hf,hw=>by
  unfold tyB at ht
  unfold byB at hb
  split at ht
  ·rename_i u hu
   rw [hu] at hb
   simp only [Bool.and_eq_true,beq_iff_eq,Nat.blt_eq,Nat.ble_eq] at ht hb
   obtain ⟨⟨h1,h2⟩,h3⟩:=ht
   obtain ⟨xs,rfl,hfe⟩:=hf
   refine ⟨xs,rfl,hfe,?_⟩
   rcases DataW.trod_slice hu h with ⟨rfl,_⟩ | ⟨a,len,cap,elems,rest,n,rfl,rfl,rfl,hbs,hl,hm,hlen,hel,_,_⟩
   ·cases hr with
    | cons h4 h5 =>
     have:xs=[]:=by
      obtain ⟨a,cap,he⟩:=rep_slice_len h4
      simp at he
      exact List.length_eq_zero_iff.1 he.2.1.symm
     subst this
     exact ⟨by simp,by simp⟩
   ·have hxl:xs.length=len:=by
     cases hr with
     | cons h4 h5 =>
      generalize hq:xs.map (elt e)=q at h4
      have hql:q.length=xs.length:=by rw [← hq];simp
      cases h4 with
      | slice0 _ _=>simp at hql;omega
      | slice _ _ _=>omega
    simp only [DataW.weights,hu,List.mem_cons,List.mem_append] at hw
    have hw0:=hw _ (.inl rfl)
    refine ⟨?_,?_⟩
    ·rw [hxl,← hlen]
     refine Nat.le_trans ?_ hw0
     simp only [List.length_map]
     exact Nat.mul_le_mul (by omega) hb.1
    ·intro z hz
     obtain ⟨i,hi,hzi⟩:=List.getElem_of_mem hz
     have hil:i<len:=by omega
     have hi':=hel i hil
     rw [zge (by omega)] at hi'
     obtain ⟨c,hc1,hc2⟩:=Option.bind_eq_some_iff.1 hi'
     obtain ⟨_,c1,c2⟩:=World.cells?_some hc1
     rw [h2] at c1 c2
     -- the cells that stand for the element
     have hrz:Reps K0 w c z:=by
      cases hr with
      | cons h4 h5 =>
       generalize hq:xs.map (elt e)=q at h4
       have hql:q.length=xs.length:=by rw [← hq];simp
       cases h4 with
       | slice0 _ _=>simp at hql;omega
       | @slice b off cap' k ys' hcap hk hat =>
        have hzs:Fits e z:=hfe z hz
        have hfl:(xs.map (elt e)).flatMap V.cells=xs.flatMap id:=by
         have:∀ l:List (List V),(∀ x∈l,Fits e x)→(l.map (elt e)).flatMap V.cells=l.flatMap id:=by
          intro l
          induction l with
          | nil=>intro _;rfl
          | cons y r ih =>
           intro hl
           simp only [List.map_cons,List.flatMap_cons]
           rw [elt_cells (hl y (by simp)),ih (fun z hz=>hl z (by simp [hz]))];rfl
         exact this xs hfe
        rw [← hq,hfl] at hat
        have hgl:∀ l:List (List V),(∀ x∈l,Fits e x)→∀ (i:Nat) (z:List V),l[i]?=some z→∀ j,j<e.size→(l.flatMap id)[i*e.size+j]?=z[j]?:=by
         intro l
         induction l with
         | nil=>intro _ i z hz;simp at hz
         | cons y r ih =>
          intro hl i z hz j hj
          have hyl:=fits_len e (hl y (by simp))
          cases i with
          | zero =>
           simp at hz;subst hz
           rw [List.flatMap_cons,Nat.zero_mul,Nat.zero_add,List.getElem?_append_left (by rw [id,hyl];exact hj)];rfl
          | succ i =>
           rw [List.flatMap_cons,List.getElem?_append_right (by rw [id,hyl,Nat.succ_mul];omega),show (i+1)*e.size+j - (id y).length=i*e.size+j by rw [id,hyl,Nat.succ_mul];omega]
           exact ih (fun z hz=>hl z (by simp [hz])) i z (by simpa using hz) j hj
        have hzg:xs[i]?=some z:=by rw [zge hi,hzi]
        have hzl:=fits_len e hzs
        refine reps_of (by rw [c1,hzl]) fun j x hx=>?_
        have hjl:=(List.getElem?_eq_some_iff.1 hx).1
        have h6:=hgl xs hfe i z hzg j (by omega)
        rw [hx] at h6
        obtain ⟨v,hv,hrv⟩:=RepAt.get hat _ _ h6
        refine ⟨v,?_,hrv⟩
        have h7:=c2 j (by omega)
        rw [addr_add,addr_add] at h7
        rw [← h7,← hv.1]
        congr 2
        omega
     exact bnd_ok e h1 hb.2 hc2 hrz (hfe z hz) fun n hn=>hw n (.inr (.inl (weights_all (List.mem_map.2 ⟨_,List.getElem_mem (by omega),rfl⟩) hn)))
  ·cases ht
 | .st fs,fuel,t,cs,x,xs,ht,hb,h,hr,hf,hw=>by
  unfold tyB at ht
  unfold byB at hb
  split at ht
  ·rename_i gs hu
   rw [hu] at hb
   simp only [Bool.and_eq_true,beq_iff_eq] at ht
   obtain ⟨ys,n,rfl,rfl,hcl,hyl,hf2⟩:=DataW.trod_struct hu h
   have:=bndL_ok fs gs.toList 0 cs xs (n:=n) ht.1 hb (fun i f hi=>by
    have hi':gs[i]?=some f:=by rw [← Array.getElem?_toList];exact hi
    have h1:=hf2 i f hi'
    have h2:i<ys.length:=by rw [hyl];exact (Array.getElem?_eq_some_iff.1 hi').1
    rw [zge h2] at h1
    refine ⟨_,h1,fun n hn=>hw n ?_⟩
    rw [DataW.weights,hu]
    exact DataW.weights_mem_each (j:=i) (t:=f.type) (d:=(ys[i]).1) (by rw [List.getElem?_map,hi];rfl) (by rw [List.getElem?_map,zge h2];rfl) n hn) (by rw [hcl,ht.2];simp) (by rw [List.drop_zero];exact hr) hf
   exact this
  ·cases ht
theorem bndL_ok:∀ (fs:List Ty)(gs:List Field)(off:Nat)(cs:List Value)(xs:List V) {n:Nat},tyFs P fs gs off=true→byFs P fs (gs.map (·.type))=true→(∀ (i:Nat) (f:Field),gs[i]?=some f→∃ x,DataW.trod enc P w base spare held n f.type ((cs.drop f.offset).take (P.cellsOf f.type))=some x∧∀ n∈x.1.weights P f.type,n≤reachBytes)→cs.length=off+Ty.sizes fs →
  Reps K0 w (cs.drop off) xs→FitsL fs xs→BndL fs xs
 | [],gs,off,cs,xs,n,ht,hb,h,hl,hr,hf=>trivial
 | f :: fs,[],off,cs,xs,n,ht,hb,h,hl,hr,hf=>by simp [tyFs] at ht
 | f :: fs,g :: gs,off,cs,xs,n,ht,hb,h,hl,hr,hf=>by
  simp only [tyFs,Bool.and_eq_true,beq_iff_eq] at ht
  simp only [List.map_cons,byFs,Bool.and_eq_true] at hb
  obtain ⟨⟨⟨h1,h2⟩,h3⟩,h4⟩:=ht
  obtain ⟨x,hx,hxw⟩:=h 0 g rfl
  rw [h1,h3] at hx
  obtain ⟨a,b,rfl,ha,hb2⟩:=hf
  have hal:=fits_len f ha
  have hs:Ty.sizes (f :: fs)=f.size+Ty.sizes fs:=rfl
  have hsp:cs.drop off=(cs.drop off).take f.size ++ cs.drop (off+f.size):=by
   rw [← List.drop_drop,List.take_append_drop]
  have hlt:((cs.drop off).take f.size).length=a.length:=by
   rw [hal,List.length_take,List.length_drop,hl,hs];omega
  rw [hsp] at hr
  obtain ⟨hr1,hr2⟩:=reps_split hlt hr
  refine ⟨?_,?_⟩
  ·rw [List.take_left' hal]
   exact bnd_ok f h2 hb.1 hx hr1 ha hxw
  ·rw [List.drop_left' hal]
   exact bndL_ok fs gs (off+f.size) cs b h4 hb.2 (fun i q hi=>h (i+1) q hi) (by rw [hl,hs];omega) hr2 hb2
end
end Go.Ab
namespace Go.Ab
open Go Go.ChangeShapes Go.WideShapes
variable {H:Type} {enc:TypeId × Value→H} {P:Program} {w:World} {base b0:Nat} {spare:Nat→Bool} {held:Bool} {r:Reach}
theorem elt_len {e:Ty} {xs:List (List V)} {ys:List V} (h:xs.map (elt e)=ys):xs.length=ys.length:=by rw [← h];simp
theorem slice_inj {a b:List V} (h:[V.slice a]=[V.slice b]):a=b:=by simpa using h
theorem arg_bnd {e:Ty} {t u:TypeId} {v:Value} {d:DataW H} {ps:List MemPlace} (hu:P.underlying t=some (.slice u))(ht:tyB P (.sl e) t=true)(hbt:byB P (.sl e) t=true)(hval:Value.okWide P w r b0 t v)(h:DataW.Trod enc P w base spare held t v d ps)(hw:∀ n∈d.weights P t,n≤reachBytes) :
  ∃ xs:List (List V),Rep K0 w v (.slice (xs.map (elt e)))∧(∀ x∈xs,Fits e x)∧xs.length*e.bytes≤reachBytes∧∀ x∈xs,Bnd e x:=by
 obtain ⟨ys,h1,h2⟩:=arg_any (.sl e) ht h
 obtain ⟨fuel,hf⟩:=h
 have hb:=bnd_ok (.sl e) ht hbt hf h1 h2 hw
 obtain ⟨a0,len,cap,rfl⟩:=okWide_slice hu hval
 obtain ⟨xs,rfl,h3,h4,h5⟩:=hb
 refine ⟨xs,?_,h3,h4,h5⟩
 simp only [Value.cells] at h1
 cases h1 with
 | cons h3 h4=>exact h3
end Go.Ab
namespace Go.Ab
open Go Go.ChangeShapes Go.WideShapes
variable {H:Type} {enc:TypeId × Value→H} {P:Program} {w:World} {base b0:Nat} {spare:Nat→Bool} {held:Bool} {r:Reach}
def TAct:List Ty:=[.int .i64,.int .i64,.int .i64,.sl (.int .u8)]
structure LAct where
 wh:Int
 en:Int
 at_:Int
 bs:List UInt8
def LAct.v (a:LAct):V:=.agg [.int .i64 a.wh,.int .i64 a.en,.int .i64 a.at_,.slice (byteVs a.bs)]
def encActs (l:List LAct):List V:=l.map LAct.v
theorem encActs_length (l:List LAct):(encActs l).length=l.length:=by simp [encActs]
theorem encActs_get (l:List LAct)(i:Nat):(encActs l)[i]?=(l[i]?).map LAct.v:=by simp [encActs]
theorem encActs_gE (l:List LAct)(i:Nat)(h:i<(encActs l).length):(encActs l)[i]'h=(l[i]'(by rw [encActs_length] at h;exact h)).v:=by simp [encActs]
attribute [simp] encActs_length encActs_get encActs_gE
theorem bnd_u8s:∀ {xs:List (List V)},(∀ x∈xs,Bnd (.int .u8) x)→∃ zs:List Int,xs.map (elt (.int .u8))=zs.map (V.int .u8)∧∀ n∈zs,(Lit.int .u8 n).wf=true
 | [],_=>⟨[],rfl,fun n hn=>by cases hn⟩
 | x :: r,h=>by
  obtain ⟨n,rfl,hn⟩:=h x (by simp)
  obtain ⟨zs,hz,hw⟩:=bnd_u8s (xs:=r) (fun y hy=>h y (by simp [hy]))
  refine ⟨n :: zs,by rw [List.map_cons,hz];rfl,fun m hm=>?_⟩
  rcases List.mem_cons.1 hm with rfl | hm
  ·exact hn
  ·exact hw m hm
theorem bnd_act {cs:List V} (h:Fits (.st TAct) cs)(hb:Bnd (.st TAct) cs):∃ a:LAct,elt (.st TAct) cs=a.v∧a.bs.length≤reachBytes:=by
 obtain ⟨_,_,rfl,⟨n1,rfl⟩,_,_,rfl,⟨n2,rfl⟩,_,_,rfl,⟨n3,rfl⟩,_,_,rfl,⟨xs,rfl,hx⟩,h⟩:=h
 cases h
 simp only [Bnd,TAct,BndL] at hb
 obtain ⟨_,_,_,⟨ys,hy,_,hyl,hyb⟩,_⟩:=hb
 have h1:[V.slice (xs.map (elt (.int .u8)))]=[V.slice (ys.map (elt (.int .u8)))]:=hy
 have h2:=slice_inj h1
 obtain ⟨zs,hz,hw⟩:=bnd_u8s (xs:=ys) (fun x hx=>by have:=hyb x hx;simp only [Bnd];exact this)
 obtain ⟨bs,hbs⟩:=bytes_map hw
 refine ⟨⟨n1,n2,n3,bs⟩,?_,?_⟩
 ·show V.agg [.int .i64 n1,.int .i64 n2,.int .i64 n3,.slice (xs.map (elt (.int .u8)))]=_
  rw [h2,hz,hbs];rfl
 ·have e1:=congrArg List.length hz
  have e2:=congrArg List.length hbs
  simp [byteVs] at e1 e2
  have e3:ys.length*1≤reachBytes:=hyl
  show bs.length≤_
  omega
theorem bnd_acts:∀ {xs:List (List V)},(∀ x∈xs,Fits (.st TAct) x)→(∀ x∈xs,Bnd (.st TAct) x)→∃ l:List LAct,xs.map (elt (.st TAct))=encActs l∧∀ a∈l,a.bs.length≤reachBytes
 | [],_,_=>⟨[],rfl,fun a ha=>by cases ha⟩
 | x :: r,h,k=>by
  obtain ⟨a,ha,hl⟩:=bnd_act (h x (by simp)) (k x (by simp))
  obtain ⟨l,hs,h3⟩:=bnd_acts (xs:=r) (fun y hy=>h y (by simp [hy])) (fun y hy=>k y (by simp [hy]))
  refine ⟨a :: l,by rw [List.map_cons,hs,ha];rfl,fun b hb=>?_⟩
  rcases List.mem_cons.1 hb with rfl | hb
  ·exact hl
  ·exact h3 b hb
theorem arg_acts {t u:TypeId} {v:Value} {d:DataW H} {ps:List MemPlace} (hu:P.underlying t=some (.slice u))(ht:tyB P (.sl (.st TAct)) t=true) (hbt:byB P (.sl (.st TAct)) t=true) (hval:Value.okWide P w r b0 t v) (h:DataW.Trod enc P w base spare held t v d ps) (hw:∀ n∈d.weights P t,n≤reachBytes) :
  ∃ l:List LAct,Rep K0 w v (.slice (encActs l))∧l.length<4611686018427387904∧∀ a∈l,a.bs.length≤140737488355328:=by
 obtain ⟨xs,h1,h2,h3,h4⟩:=arg_bnd hu ht hbt hval h hw
 obtain ⟨l,hl,h5⟩:=bnd_acts h2 h4
 have h6:=elt_len hl
 rw [encActs,List.length_map] at h6
 have h7:(Ty.st TAct).bytes=48:=rfl
 rw [h7] at h3
 refine ⟨l,hl ▸ h1,?_,fun a ha=>?_⟩
 ·unfold reachBytes at h3;omega
 ·have:=h5 a ha
  unfold reachBytes at this;omega
end Go.Ab
namespace Go.Proofs.Ytebjpgoadapabaa
open Go Go.Ab
noncomputable section
variable (fr:Fr)(st:St)(k:Kt)
def fi18:FI:={body:=codeOf Try.f18,ntmps:=27,results:=[.tmp 4],pers:=[0,1,4,5],locals:=[],pure:=true,marks:=[]}
theorem H18:fi18.marks=[]∧fi18.locals=[]∧fi18.results=[.tmp 4]:=⟨rfl,rfl,rfl⟩
theorem fi18_eq:gS.fn 18=some fi18:=by kernel_rfl
theorem st18 (a0 a1:V):startFr fi18 [a0,a1]={ps:=[(0,.val a0),(1,.val a1),(4,.any),(5,.any)],ts:=[],lc:=[]}:=rfl
def b18:Code:=mini (codeOf Try.f18)
def c18_10:Code:=.cond (.tmp 9) .skip (.exit 0)
def c18_8:Code:=.seq (codeN b18 133) c18_10
def r18_16:Array Oper:=regOps (codeN (codeOf Try.f18) 549)
def c18_16:Code:=.region 4 r18_16 true
def q18_16:List (Oper × Fl):=[(mv 12 5 3,qz0),
 (mv 13 1 43,qz3),
 (len1 14 13 43 3,qz3),
 (bop 15 .geq 3 12 14 3 4,qz5),
 (mv 16 15 4,qz5),
 (qm 17 0 43 4 false,qz0),
 (qm 18 5 3 4 false,qz0),
 (qi 19 43 17 18 0 4 false,qz0),
 (ql 20 9 19 9 4 false,qz0),
 (qm 21 1 43 4 false,qz0),
 (qm 22 5 3 4 false,qz3),
 (qi 23 43 21 22 0 4 false,qz3),
 (ql 24 9 23 9 4 false,qz3),
 (qb 25 .neq 9 20 24 9 4 4 false,qz5),
 (qQ 26 16 true 25 4,qz5)]
def c18_18:Code:=.seq (codeN b18 2341) .ret
def c18_17:Code:=.cond (.tmp 26) c18_18 .skip
def c18_15:Code:=.seq c18_16 c18_17
def c18_22:Code:=codeN b18 229
def c18_13:Code:=.seq (.block 1 c18_15) c18_22
def c18_7:Code:=.seq c18_8 c18_13
def c18_6:Code:=.loop c18_7
def c18_5:Code:=.block 0 c18_6
def c18_3:Code:=.seq (codeN b18 9) c18_5
def c18_23:Code:=.seq (codeN b18 11) .ret
def c18_2:Code:=.seq c18_3 c18_23
def c18_0:Code:=.seq (codeN b18 2) c18_2
theorem E18:evK gS fi18 c18_10 fr st k=condK gS fi18 (fr.op (.tmp 9)).bool? .skip (.exit 0) fr st k ∧
 (evK gS fi18 c18_8 fr st k=opsR gS fi18 [mv 6 5 3,
 mv 7 0 43,
 len1 8 7 43 3,
 bop 9 .lss 3 6 8 3 4] fr st (.seq c18_10 k)) ∧
 evK gS fi18 c18_16 fr st k=drwR gS fi18 r18_16 q18_16 fr st k ∧
 evK gS fi18 c18_18 fr st k=opsR gS fi18 [qA 4 false 4] fr st (.seq .ret k) ∧
 evK gS fi18 c18_17 fr st k=condK gS fi18 (fr.op (.tmp 26)).bool? c18_18 .skip fr st k ∧
 evK gS fi18 c18_15 fr st k=evK gS fi18 c18_16 fr st (.seq c18_17 k) ∧
 (evK gS fi18 c18_22 fr st k=opsR gS fi18 [mv 10 5 3,
 qB 11 .add 3 10 1 3 3,
 asn 5 11 3] fr st k) ∧
 evK gS fi18 c18_13 fr st k=evK gS fi18 c18_15 fr st (.blk 1 (.seq c18_22 k)) ∧
 evK gS fi18 c18_7 fr st k=evK gS fi18 c18_8 fr st (.seq c18_13 k) ∧
 evK gS fi18 c18_5 fr st k=evK gS fi18 c18_6 fr st (.blk 0 k) ∧
 evK gS fi18 c18_3 fr st k=opsR gS fi18 [qI 5 0 3] fr st (.seq c18_5 k) ∧
 evK gS fi18 c18_23 fr st k=opsR gS fi18 [qA 4 true 4] fr st (.seq .ret k) ∧
 evK gS fi18 c18_2 fr st k=evK gS fi18 c18_3 fr st (.seq c18_23 k) ∧
 evK gS fi18 c18_0 fr st k=opsR gS fi18 [qA 4 false 4] fr st (.seq c18_2 k):=⟨rfl,evK_rs 2 rfl (by kernel_rfl),evK_dr 4 rfl (by kernel_rfl) (by kernel_rfl),evK_rs 5 rfl (by kernel_rfl),rfl,rfl,evK_r 3 (by kernel_rfl),rfl,rfl,rfl,evK_rs 1 rfl (by kernel_rfl),evK_rs 6 rfl (by kernel_rfl),rfl,evK_rs 0 rfl (by kernel_rfl)⟩
theorem m18:mini fi18.body=c18_0:=by kernel_rfl
theorem n18_6 (fr:Fr)(st:St)(k:Kt):nextK gS fi18 (.loop c18_7 k) .normal fr st=evK gS fi18 c18_6 fr st k:=rfl
theorem W18 (a b:List (List UInt8))(ha:a.length≤100000)(hb:b.length≤100000)(hp:∀ (i:Nat) x,a[i]?=some x→b[i]?=some x)(S:St):∀ (m i:Nat),i+m=a.length→∀ T,evK gS fi18 c18_6 {ps:=[(0,.val (.slice (encSs a))),(1,.val (.slice (encSs b))),(4,.val (.bool false)),(5,.val (.int .i64 (i:Nat)))],ts:=T,lc:=[]} S (.blk 0 (.seq c18_23 .nil))=some (.ret (.bool true) none,S):=by
 intro m
 induction m with
 | zero =>
  intro i him T
  obtain rfl:i=a.length:=by omega
  refine evK_loop c18_7 _ _ _ _ rfl ?_
  simp (config:={implicitDefEqProofs:=false}) [-zia,-St.obj,-St.set,-zil,-zit,-znl,-znt,ty3,ty4,ty9,ty43,H18,E18,q18_16,n18_6]
 | succ m ih =>
  intro i him T
  have h1:i<a.length:=by omega
  have h2:(i:Int)<(a.length:Int):=by omega
  obtain ⟨x,hax⟩:∃ x,a[i]'h1=x:=⟨_,rfl⟩
  have hbx:=hp i x (by rw [zge h1,hax])
  obtain ⟨h3,hbe⟩:=List.getElem?_eq_some_iff.1 hbx
  have h4:(i:Int)<(b.length:Int):=by omega
  have h5:¬ (b.length:Int)≤(i:Int):=by omega
  have h6:¬ b.length≤i:=by omega
  have hw  := qws i (by omega)
  refine evK_loop c18_7 _ _ _ _ rfl ?_
  simp (config:={implicitDefEqProofs:=false}) [-zia,-St.obj,-St.set,h1,h2,h3,h4,h5,h6,hax,hbe,hw,-zil,-zit,-znl,-znt,ty3,ty4,ty9,ty43,H18,E18,q18_16,n18_6]
  exact ih (i+1) (by omega) _
theorem O18 (a b:List (List UInt8))(ha:a.length≤100000)(hb:b.length≤100000)(hp:∀ (i:Nat) x,a[i]?=some x→b[i]?=some x)(S:St):EvF gS 18 [.slice (encSs a),.slice (encSs b)] S=some (.ret (.bool true) none,S):=by
 have H:=W18 a b ha hb hp S a.length 0 (by omega)
 rw [show ((0:Nat):Int)=0 from rfl] at H
 refine EvF_start fi18_eq (fun x h=>by cases h <;> decide) m18 ?_
 rw [st18]
 simp (config:={implicitDefEqProofs:=false}) [-zia,-St.obj,-St.set,-zil,-zit,-znl,-znt,ty3,ty4,ty9,ty43,H18,E18,q18_16,n18_6]
 exact H _
theorem k18 (a b:List (List UInt8))(ha:a.length≤100000)(hb:b.length≤100000)(hp:∀ (i:Nat) x,a[i]?=some x→b[i]?=some x)(fr:Fr)(S:St):callStep gS (EvF gS) 18 [.slice (encSs a),.slice (encSs b)] fr S=some (.ok (.val (.bool true)) fr S) :=
 call_pure rfl fi18_eq rfl (fun S=>O18 a b ha hb hp S) (by simp)
theorem take_pre {p:List (List UInt8)} {q:List (List UInt8)} {g:Nat} (h:q=p.take g):∀ (i:Nat) x,q[i]?=some x→p[i]?=some x:=fun i x hx=>by
 rw [h,List.getElem?_take] at hx
 split at hx
 ·exact hx
 ·cases hx
theorem x18:gS.ext 18=none:=rfl
theorem p18:fi18.pure=true:=rfl
def fi5:FI:={body:=codeOf Try.f5,ntmps:=67,results:=[.tmp 6],pers:=[0,1,2,6,7,8],locals:=[],pure:=false,marks:=[]}
theorem fi5_eq:gS.fn 5=some fi5:=by kernel_rfl
theorem st5 (a0 a1 a2:V):startFr fi5 [a0,a1,a2]={ps:=[(0,.val a0),(1,.val a1),(2,.val a2),(6,.any),(7,.any),(8,.any)],ts:=[],lc:=[]}:=rfl
def b5:Code:=mini (codeOf Try.f5)
def c5_8:Code:=.seq (codeN b5 75) .ret
def c5_7:Code:=.cond (.tmp 21) c5_8 .skip
def c5_5:Code:=.seq (codeN b5 19) c5_7
def c5_20:Code:=.cond (.tmp 29) .skip (.exit 0)
def c5_18:Code:=.seq (codeN b5 535) c5_20
def r5_26:Array Oper:=regOps (codeN (codeOf Try.f5) 2199)
def c5_26:Code:=.region 7 r5_26 true
def q5_26:List (Oper × Fl):=[(mv 32 7 35,qz0),
 (mv 33 0 34,qz0),
 (mv 34 8 3,qz0),
 (ixa 35 34 33 34 0,qz0),
 (ld 36 40 35 40,qz0),
 (cal 37 17 [(.tmp 32),(.tmp 36),(.const (.bool false))] [35,40,4] 4,qz4),
 (op1 38 (.unOp .not 4 (.tmp 37)) 4,qz5),
 (mv 39 38 4,qz5),
 (qm 40 7 35 7 false,qz0),
 (mk (some 41) (.nilCheck (.tmp 40)) 0 (some (7,false)),qz0),
 (qf 42 50 41 4 0 7 false,qz0),
 (mk (some 43) (.indexAddr 48 (.tmp 42) (.const (.int .i64 0))) 0 (some (7,false)),qz0),
 (ql 44 43 43 43 7 false,qz0),
 (qm 45 7 35 7 false,qz0),
 (mk (some 46) (.nilCheck (.tmp 45)) 0 (some (7,false)),qz0),
 (qf 47 50 46 3 0 7 false,qz0),
 (mk (some 48) (.indexAddr 48 (.tmp 47) (.const (.int .i64 1))) 0 (some (7,false)),qz3),
 (ql 49 43 48 43 7 false,qz3),
 (mk (some 50) (.call {callee:=(.value (.func 18)),args:=#[(.tmp 44),(.tmp 49)],argTypes:=#[43,43]}) 4 (some (7,false)),qz6),
 (mk (some 51) (.unOp .not 4 (.tmp 50)) 4 (some (7,false)),qz3),
 (qQ 52 39 true 51 4,qz3),
 (mv 53 52 4,qz3),
 (qm 54 7 35 21 false,qz0),
 (mk (some 55) (.nilCheck (.tmp 54)) 0 (some (21,false)),qz0),
 (qf 56 50 55 4 0 21 false,qz0),
 (mk (some 57) (.indexAddr 48 (.tmp 56) (.const (.int .i64 1))) 0 (some (21,false)),qz0),
 (ql 58 43 57 43 21 false,qz0),
 (qm 59 7 35 21 false,qz0),
 (mk (some 60) (.nilCheck (.tmp 59)) 0 (some (21,false)),qz0),
 (qf 61 50 60 3 0 21 false,qz0),
 (mk (some 62) (.indexAddr 48 (.tmp 61) (.const (.int .i64 0))) 0 (some (21,false)),qz3),
 (ql 63 43 62 43 21 false,qz3),
 (mk (some 64) (.call {callee:=(.value (.func 18)),args:=#[(.tmp 58),(.tmp 63)],argTypes:=#[43,43]}) 4 (some (21,false)),qz6),
 (mk (some 65) (.unOp .not 4 (.tmp 64)) 4 (some (21,false)),qz3),
 (qQ 66 53 true 65 4,qz3)]
def c5_28:Code:=.seq (codeN b5 9367) .ret
def c5_27:Code:=.cond (.tmp 66) c5_28 .skip
def c5_25:Code:=.seq c5_26 c5_27
def c5_32:Code:=codeN b5 919
def c5_23:Code:=.seq (.block 1 c5_25) c5_32
def c5_17:Code:=.seq c5_18 c5_23
def c5_16:Code:=.loop c5_17
def c5_15:Code:=.block 0 c5_16
def c5_13:Code:=.seq (codeN b5 39) c5_15
def c5_33:Code:=.seq (codeN b5 47) .ret
def c5_12:Code:=.seq c5_13 c5_33
def c5_4:Code:=.seq c5_5 c5_12
def c5_2:Code:=.seq (codeN b5 5) c5_4
def c5_0:Code:=.seq (codeN b5 2) c5_2
theorem E5:evK gS fi5 c5_8 fr st k=opsR gS fi5 [qA 6 false 4] fr st (.seq .ret k) ∧
 evK gS fi5 c5_7 fr st k=condK gS fi5 (fr.op (.tmp 21)).bool? c5_8 .skip fr st k ∧
 (evK gS fi5 c5_5 fr st k=opsR gS fi5 [cal 16 16 [] [] 4,
 op1 17 (.unOp .not 4 (.tmp 16)) 4,
 mv 18 17 4,
 qm 19 7 35 2 false,
 mk (some 20) (.binOp .eql 35 (.tmp 19) (.const (.pointer none)) 35) 4 (some (2,false)),
 qQ 21 18 true 20 4] fr st (.seq c5_7 k)) ∧
 evK gS fi5 c5_20 fr st k=condK gS fi5 (fr.op (.tmp 29)).bool? .skip (.exit 0) fr st k ∧
 (evK gS fi5 c5_18 fr st k=opsR gS fi5 [mv 22 8 3,
 mv 23 0 34,
 len1 24 23 34 3,
 bop 25 .lss 3 22 24 3 4,
 mv 26 25 4,
 qm 27 8 3 4 true,
 qc 28 .lss 3 27 90 3 4 4 true,
 qP 29 26 28 false 4] fr st (.seq c5_20 k)) ∧
 evK gS fi5 c5_26 fr st k=drwR gS fi5 r5_26 q5_26 fr st k ∧
 evK gS fi5 c5_28 fr st k=opsR gS fi5 [qA 6 false 4] fr st (.seq .ret k) ∧
 evK gS fi5 c5_27 fr st k=condK gS fi5 (fr.op (.tmp 66)).bool? c5_28 .skip fr st k ∧
 evK gS fi5 c5_25 fr st k=evK gS fi5 c5_26 fr st (.seq c5_27 k) ∧
 (evK gS fi5 c5_32 fr st k=opsR gS fi5 [mv 30 8 3,
 qB 31 .add 3 30 1 3 3,
 asn 8 31 3] fr st k) ∧
 evK gS fi5 c5_23 fr st k=evK gS fi5 c5_25 fr st (.blk 1 (.seq c5_32 k)) ∧
 evK gS fi5 c5_17 fr st k=evK gS fi5 c5_18 fr st (.seq c5_23 k) ∧
 evK gS fi5 c5_15 fr st k=evK gS fi5 c5_16 fr st (.blk 0 k) ∧
 evK gS fi5 c5_13 fr st k=opsR gS fi5 [qI 8 0 3] fr st (.seq c5_15 k) ∧
 evK gS fi5 c5_33 fr st k=opsR gS fi5 [qA 6 true 4] fr st (.seq .ret k) ∧
 evK gS fi5 c5_12 fr st k=evK gS fi5 c5_13 fr st (.seq c5_33 k) ∧
 evK gS fi5 c5_4 fr st k=evK gS fi5 c5_5 fr st (.seq c5_12 k) ∧
 (evK gS fi5 c5_2 fr st k=opsR gS fi5 [mv 9 1 3,
 cal 10 15 [(.tmp 9),(.const (.int .i64 8))] [3,3] 3,
 op1 11 (.binOp .add 3 (.const (.int .i64 1)) (.tmp 10) 3) 3,
 mv 12 2 3,
 cal 13 15 [(.tmp 12),(.const (.int .i64 8))] [3,3] 3,
 op1 14 (.binOp .add 3 (.const (.int .i64 1)) (.tmp 13) 3) 3,
 cal 15 14 [(.tmp 11),(.tmp 14)] [3,3] 35,
 asn 7 15 35] fr st (.seq c5_4 k)) ∧
 evK gS fi5 c5_0 fr st k=opsR gS fi5 [qA 6 false 4] fr st (.seq c5_2 k):=⟨evK_rs 3 rfl (by kernel_rfl),rfl,evK_rs 2 rfl (by kernel_rfl),rfl,evK_rs 5 rfl (by kernel_rfl),evK_dr 7 rfl (by kernel_rfl) (by kernel_rfl),evK_rs 8 rfl (by kernel_rfl),rfl,rfl,evK_r 6 (by kernel_rfl),rfl,rfl,rfl,evK_rs 4 rfl (by kernel_rfl),evK_rs 9 rfl (by kernel_rfl),rfl,rfl,evK_rs 1 rfl (by kernel_rfl),evK_rs 0 rfl (by kernel_rfl)⟩
theorem m5:mini fi5.body=c5_0:=by kernel_rfl
theorem n5_16 (fr:Fr)(st:St)(k:Kt):nextK gS fi5 (.loop c5_17 k) .normal fr st=evK gS fi5 c5_16 fr st k:=rfl
theorem V16 (l:List LAct)(hl:l.length<4611686018427387904)(ha:∀ a∈l,a.bs.length≤140737488355328)(x1 x2:Int)(w z:Nat)(hz:z≤8):∀ (m i:Nat) (S:St) (P Q:Nat→LE) (X:Wi) (J:Jn S w z (1000*i) i P Q X) (I:Iv P X),i+m=min l.length 90→∃ st',∀ T,evK gS fi5 c5_16 {ps:=[(0,.val (.slice (encActs l))),(1,.val (.int .i64 x1)),(2,.val (.int .i64 x2)),(6,.val (.bool false)),(7,.val (.ptr 0 0)),(8,.val (.int .i64 (i:Nat)))],ts:=T,lc:=[]} S (.blk 0 (.seq c5_33 .nil))=some (.ret (.bool true) none,st'):=by
 intro m
 have hm:fi5.marks=[]:=rfl
 have hl:fi5.locals=[]:=rfl
 have hr:fi5.results=[.tmp 6]:=rfl
 induction m with
 | zero =>
  intro i S P Q X J I him
  refine ⟨S,fun T=>evK_loop c5_17 _ _ _ _ rfl ?_⟩
  by_cases h1:i<l.length
  ·obtain rfl:i=90:=by omega
   have h2:(90:Int)<(l.length:Int):=by omega
   simp (config:={implicitDefEqProofs:=false}) [-zia,-St.obj,-St.set,h1,h2,-zil,-zit,-znl,-znt,ty3,ty4,ty34,ty35,ty40,ty43,ty48,ty50,hm,hl,hr,x15,fi15_eq,p15,x18,fi18_eq,p18,E5,q5_26,n5_16,k16]
  ·have h2:¬ (i:Int)<(l.length:Int):=by omega
   simp (config:={implicitDefEqProofs:=false}) [-zia,-St.obj,-St.set,h1,h2,-zil,-zit,-znl,-znt,ty3,ty4,ty34,ty35,ty40,ty43,ty48,ty50,hm,hl,hr,x15,fi15_eq,p15,x18,fi18_eq,p18,E5,q5_26,n5_16,k16]
 | succ m ih =>
  intro i S P Q X J I him
  have h1:i<l.length:=by omega
  have h2:(i:Int)<(l.length:Int):=by omega
  have h3:i<90:=by omega
  have h4:(i:Int)<90:=by omega
  have hw  := qws i (by omega)
  obtain ⟨a,hae⟩:∃ a,l[i]'h1=a:=⟨_,rfl⟩
  have hg:l[i]?=some a:=by rw [zge h1,hae]
  obtain ⟨S',P',Q',X',J',V,g1⟩:=k17 S w z i P Q X (by omega) hz J a.wh a.en a.at_ a.bs (ha a (zmg hg)) false
  obtain ⟨st',H⟩:=ih (i+1) S' P' Q' X' J' (V rfl I) (by omega)
  have hen:a.v=.agg [.int .i64 a.wh,.int .i64 a.en,.int .i64 a.at_,.slice (byteVs a.bs)]:=rfl
  have I':=V rfl I
  have l0:=J'.p0
  have l1:=J'.p1
  have l2:=J'.q0
  have l3:=J'.q1
  have b0:=fun fr=>k18 X'.q0 X'.p1 (by omega) (by omega) (take_pre I'.e0.q) fr S'
  have b1:=fun fr=>k18 X'.q1 X'.p0 (by omega) (by omega) (take_pre I'.e1.q) fr S'
  have ow:=J'.net.o
  unfold Wi.c at ow
  refine ⟨st',fun T=>evK_loop c5_17 _ _ _ _ rfl ?_⟩
  clear l0 l1 l2 l3
  generalize a.wh=awh at *
  generalize a.en=aen at *
  generalize a.at_=aat at *
  generalize byteVs a.bs=abs at *
  simp (config:={implicitDefEqProofs:=false}) [-zia,-St.obj,-St.set,h1,h2,h3,h4,hw,hae,hg,hen,g1,b0,b1,ow,-zil,-zit,-znl,-znt,ty3,ty4,ty34,ty35,ty40,ty43,ty48,ty50,hm,hl,hr,x15,fi15_eq,p15,x18,fi18_eq,p18,E5,q5_26,n5_16,k16]
  with_reducible exact H _
theorem run5 (l:List LAct)(hl:l.length<4611686018427387904)(ha:∀ a∈l,a.bs.length≤140737488355328)(x1 x2:Int):∃ st',EvF gS 5 [.slice (encActs l),.int .i64 x1,.int .i64 x2] ⟨[],0⟩=some (.ret (.bool true) none,st'):=by
 have p0:=pickI_bound x1 (m:=8) (by omega)
 have p1:=pickI_bound x2 (m:=8) (by omega)
 obtain ⟨w,hw⟩:∃ w:Nat,(w:Int)=1+pickI x1 8:=⟨(1+pickI x1 8).toNat,by omega⟩
 obtain ⟨z,hz⟩:∃ z:Nat,(z:Int)=1+pickI x2 8:=⟨(1+pickI x2 8).toNat,by omega⟩
 have q0:=fun fr st=>k15 x1 8 (by omega) fr st
 have q1:=fun fr st=>k15 x2 8 (by omega) fr st
 have hw0:IntKind.wrap .i64 (1+pickI x1 8)=(w:Int):=by rw [wrap64 (by omega) (by omega),hw]
 have hz0:IntKind.wrap .i64 (1+pickI x2 8)=(z:Int):=by rw [wrap64 (by omega) (by omega),hz]
 have g14:=fun fr=>k14 w z (by omega) (by omega) (by omega) (by omega) fr
 obtain ⟨st',H⟩:=V16 l hl ha x1 x2 w z (by omega) (min l.length 90) 0 (madeS w z) _ _ _ (made_jn w z) made_iv (by omega)
 rw [show ((0:Nat):Int)=0 from rfl] at H
 refine ⟨st',?_⟩
 refine EvF_start fi5_eq (fun x h=>by cases h <;> decide) m5 ?_
 rw [st5]
 have hm:fi5.marks=[]:=rfl
 have hl:fi5.locals=[]:=rfl
 have hr:fi5.results=[.tmp 6]:=rfl
 generalize madeS w z=ZZ at *
 generalize pickI x1 8=r0 at *
 generalize pickI x2 8=r1 at *
 simp (config:={implicitDefEqProofs:=false}) [-zia,-St.obj,-St.set,q0,q1,hw0,hz0,g14,-zil,-zit,-znl,-znt,ty3,ty4,ty34,ty35,ty40,ty43,ty48,ty50,hm,hl,hr,x15,fi15_eq,p15,x18,fi18_eq,p18,E5,q5_26,n5_16,k16]
 exact H _
end
end Go.Proofs.Ytebjpgoadapabaa
namespace Go.Proofs.Ytebjpgoadapabaa
open Go Go.Ab Go.ChangeShapes Go.WideShapes Go.ChangeAt Go.RowKit
set_option maxRecDepth 100000 in
theorem linkOnce_lifted (os:Os)(started:os.Started)(H:Type)(enc:TypeId × Value→H) :
  ReturnsInHanded {} Try.checked os 5 .any (Rows.linkOnceSpec.pre6 enc Try.prog Try.f5 Rows.linkOnceRow.domain false) (Rows.linkOnceSpec.post enc Try.prog Try.f5 false true false false):=by
 refine returnsInHanded_of_change_sized (C:=Try.checked) Try.own started (by kernel_rfl) Try.func5
  (ChangeSpec.witness6 (enc:=enc) (C:=Try.checked) false ⟨#[],#[.slice none 0 0,.int .i64 0,.int .i64 0],[]⟩ 8 (by kernel_rfl) (by kernel_rfl) (by kernel_rfl) (by kernel_rfl)) ?_
 intro W base args ds gs before hval0 hW _ hsz0 _
 have hW':=hW
 obtain ⟨p,q,hA0,hV,rfl,_,_⟩:=hW
 have hA:DataW.TrodAll enc Try.prog W 0 (fun _=>true) true Try.f5.params.toList args.toList ds p:=hA0
 have hpar:Try.f5.params=#[34,3,3]:=by kernel_rfl
 have hval:∀ (j:Nat) t v,Try.f5.params[j]?=some t→args[j]?=some v→Value.okWide Try.prog W .any base t v:=hval0
 rw [hpar] at hA hval
 obtain ⟨l⟩:=args
 obtain ⟨v0,l,d0,ds,p0,r0,rfl,rfl,rfl,h0,hA⟩:=trodAll_cons hA
 obtain ⟨v1,l,d1,ds,p1,r1,rfl,rfl,rfl,h1,hA⟩:=trodAll_cons hA
 obtain ⟨v2,l,d2,ds,p2,r2,rfl,rfl,rfl,h2,hA⟩:=trodAll_cons hA
 obtain ⟨rfl,rfl,rfl⟩:=trodAll_nil hA
 obtain ⟨rfl,rfl⟩:=trodVars_none hV
 obtain ⟨x0,a0,b0,c0⟩:=arg_acts Try.underlying34 (by kernel_rfl) (by kernel_rfl) (hval 0 34 v0 rfl rfl) h0 (fun n hn=>of_decide_eq_true (List.all_eq_true.1 hsz0 n (DataW.weights_mem_each (j:=0) (by rw [hpar];rfl) rfl n hn)))
 obtain ⟨x1,a1⟩:=arg_int Try.underlying3 (hval 1 3 v1 rfl rfl)
 obtain ⟨x2,a2⟩:=arg_int Try.underlying3 (hval 2 3 v2 rfl rfl)
 have hlt:∀ y∈p0 ++ (p1 ++ (p2 ++ [])) ++ [],y.block<W.heap.size:=fun y hy=>hW'.lt y hy
 have hr:Reps K0 W [v0,v1,v2] [.slice (encActs x0),.int .i64 x1,.int .i64 x2]:=.cons a0 (.cons a1 (.cons a2 .nil))
 obtain ⟨st',hev⟩:=run5 x0 b0 c0 x1 x2
 obtain ⟨nn,hrun⟩:=EvF_fuel hev
 refine (law_calls (n:=nn) (f:=5) (xs:=[.slice (encActs x0),.int .i64 x1,.int .i64 x2]) (gS_calls nn) (by rw [hrun]) (W:=W) (args:=#[v0,v1,v2]) hr).mono ?_
 rintro e W' ⟨rfl,hn⟩
 refine ⟨_,rfl,_,_,_,[],p0 ++ (p1 ++ (p2 ++ [])),[],hW',?_,?_,rfl,hn.frame _,fun h=>by cases h⟩
 ·exact trodAll_mk1 (shut_bool Try.underlying4 true)
 ·exact ⟨p0,_,Below.trod Try.laidOut (by kernel_rfl) (of_decide_eq_true (by kernel_rfl)) h0 hn (fun y hy=>hlt y (by simp [hy])),⟨p1,_,Below.trod Try.laidOut (by kernel_rfl) (of_decide_eq_true (by kernel_rfl)) h1 hn (fun y hy=>hlt y (by simp [hy])),⟨p2,_,Below.trod Try.laidOut (by kernel_rfl) (of_decide_eq_true (by kernel_rfl)) h2 hn (fun y hy=>hlt y (by simp [hy])),rfl,rfl⟩,rfl⟩,rfl⟩
theorem linkOnce_holds:Rows.LinkOnceSaid :=
 OpenClaim.holds_of_wide 5 Try.f5 rfl rfl rfl rfl rfl rfl rfl ⟨rfl,rfl,rfl,rfl,rfl⟩ rfl rfl rfl rfl rfl (by kernel_rfl) Try.func5 (by kernel_rfl)
  (of_decide_eq_true (by kernel_rfl)) (by unfold Func.isWrapper;first | (rw [if_pos (by decide +kernel)];kernel_rfl) | (rw [if_neg (by decide +kernel)];exact ⟨rfl,rfl⟩))
  (fun os started H enc _=>linkOnce_lifted os started H enc)
#print axioms linkOnce_holds
end Go.Proofs.Ytebjpgoadapabaa
