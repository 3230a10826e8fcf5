/- Of any tree, any Subs, right or not, the chain, ways, own places are as the document says. Part 8. -/
import Derived.Test.YtdoobejjedpcgaaK7
set_option linter.unusedVariables false
set_option linter.unusedSimpArgs false
set_option linter.unnecessarySimpa false
set_option maxHeartbeats 8000000
set_option maxRecDepth 20000
open Int renaming not_le → zil, not_lt → zit, natCast_add → zia
open Nat renaming not_le → znl, not_lt → znt
open List renaming getElem?_eq_getElem → zge, getElem?_eq_some_iff → zgs, append_assoc → zaa, mem_of_getElem? → zmg, length_append → zla
namespace Go.Proofs.Ytdoobejjedpcgaa
open Go Go.Ab
noncomputable section
variable (fr:Fr)(st:St)(k:Kt)
theorem ty65:gS.ty 65=some {k:=.slice 3 24 true [.int .i64 0,.int .i64 0,.int .i64 0],size:=1,agg:=false,zero:=[.osl 0 []]}:=by kernel_rfl
theorem ty67:gS.ty 67=some {k:=.struct [(0,1,false),(1,1,false),(2,1,false)],size:=3,agg:=true,zero:=[.int .i64 0,.int .i64 0,.int .i64 0]}:=by kernel_rfl
def fi65:FI:={body:=codeOf Try.f65,ntmps:=112,results:=[.tmp 2],pers:=[0,2,3,4],locals:=[4],pure:=true,marks:=[]}
theorem H65:fi65.marks=[]∧fi65.locals=[4]∧fi65.results=[.tmp 2]:=⟨rfl,rfl,rfl⟩
theorem fi233_eq:gS.fn 65=some fi65:=by kernel_rfl
theorem st65 (a0:V):startFr fi65 [a0]={ps:=[(0,.val a0),(2,.any),(3,.any),(4,.any)],ts:=[],lc:=[]}:=rfl
def b65:Code:=mini (codeOf Try.f65)
def c65_10:Code:=.cond (.tmp 8) .skip (.exit 0)
def c65_8:Code:=.seq (codeN b65 133) c65_10
def c65_21:Code:=.seq (codeN b65 9509) .ret
def c65_20:Code:=.cond (.tmp 36) c65_21 .skip
def c65_18:Code:=.seq (codeN b65 2341) c65_20
def r65_27:Array Oper:=regOps (codeN (codeOf Try.f65) 4901)
def c65_27:Code:=.region 7 r65_27 true
def q65_27:List (Oper × Fl):=[(mv 37 3 3,qz0),
 (qB 38 .gtr 3 37 0 3 4,qz1),
 (mv 39 38 4,qz1),
 (qm 40 0 26 2 true,qz0),
 (qm 41 3 3 2 true,qz0),
 (qc 42 .sub 3 41 1 3 3 2 true,qz0),
 (qi 43 26 40 42 0 2 true,qz0),
 (qf 44 31 43 0 0 2 true,qz0),
 (ql 45 3 44 3 2 true,qz0),
 (qf 46 31 4 0 0 2 true,qz0),
 (ql 47 3 46 3 2 true,qz0),
 (qb 48 .lss 3 45 47 3 4 2 true,qz3),
 (qm 49 48 4 2 true,qz3),
 (qm 50 0 26 12 false,qz0),
 (qm 51 3 3 12 false,qz0),
 (qc 52 .sub 3 51 1 3 3 12 false,qz0),
 (qi 53 26 50 52 0 12 false,qz0),
 (qf 54 31 53 0 0 12 false,qz0),
 (ql 55 3 54 3 12 false,qz0),
 (qf 56 31 4 0 0 12 false,qz0),
 (ql 57 3 56 3 12 false,qz0),
 (qb 58 .eql 3 55 57 3 4 12 false,qz0),
 (qm 59 58 4 12 false,qz3),
 (qm 60 0 26 22 true,qz0),
 (qm 61 3 3 22 true,qz0),
 (qc 62 .sub 3 61 1 3 3 22 true,qz0),
 (qi 63 26 60 62 0 22 true,qz0),
 (qf 64 31 63 2 0 22 true,qz0),
 (ql 65 3 64 3 22 true,qz0),
 (qf 66 31 4 2 0 22 true,qz0),
 (ql 67 3 66 3 22 true,qz0),
 (qb 68 .lss 3 65 67 3 4 22 true,qz3),
 (mk (some 69) (.pick (.tmp 59) (.tmp 68) (.const (.bool false))) 4 (some (12,false)),qz3),
 (mk (some 70) (.pick (.tmp 49) (.const (.bool true)) (.tmp 69)) 4 (some (2,true)),qz3),
 (mk (some 71) (.unOp .not 4 (.tmp 70)) 4 (some (2,true)),qz3),
 (qP 72 39 71 false 4,qz3)]
def c65_29:Code:=.seq (codeN b65 19237) .ret
def c65_28:Code:=.cond (.tmp 72) c65_29 .skip
def c65_26:Code:=.seq c65_27 c65_28
def r65_34:Array Oper:=regOps (codeN (codeOf Try.f65) 5925)
def c65_34:Code:=.region 9 r65_34 true
def q65_34:List (Oper × Fl):=[(mv 73 3 3,qz0),
 (qB 74 .gtr 3 73 0 3 4,qz0),
 (mv 75 74 4,qz1),
 (qm 76 0 26 2 true,qz0),
 (qm 77 3 3 2 true,qz0),
 (qc 78 .sub 3 77 1 3 3 2 true,qz0),
 (qi 79 26 76 78 0 2 true,qz0),
 (qf 80 31 79 0 0 2 true,qz0),
 (ql 81 3 80 3 2 true,qz0),
 (qf 82 31 4 0 0 2 true,qz0),
 (ql 83 3 82 3 2 true,qz0),
 (qb 84 .eql 3 81 83 3 4 2 true,qz0),
 (qP 85 75 84 false 4,qz3),
 (mv 86 85 4,qz3),
 (qm 87 0 26 13 true,qz0),
 (qm 88 3 3 13 true,qz0),
 (qc 89 .sub 3 88 1 3 3 13 true,qz0),
 (qi 90 26 87 89 0 13 true,qz0),
 (qf 91 31 90 1 0 13 true,qz0),
 (ql 92 3 91 3 13 true,qz0),
 (qf 93 31 4 1 0 13 true,qz0),
 (ql 94 3 93 3 13 true,qz0),
 (qb 95 .neq 3 92 94 3 4 13 true,qz3),
 (qP 96 86 95 false 4,qz3),
 (mv 97 96 4,qz3),
 (qm 98 3 3 24 false,qz3),
 (qc 99 .geq 3 98 3 3 4 24 false,qz3),
 (qm 100 99 4 24 false,qz3),
 (qm 101 0 26 27 true,qz0),
 (qm 102 3 3 27 true,qz0),
 (qc 103 .sub 3 102 3 3 3 27 true,qz0),
 (qi 104 26 101 103 0 27 true,qz0),
 (qf 105 31 104 0 0 27 true,qz0),
 (ql 106 3 105 3 27 true,qz0),
 (qf 107 31 4 0 0 27 true,qz3),
 (ql 108 3 107 3 27 true,qz3),
 (qb 109 .eql 3 106 108 3 4 27 true,qz3),
 (mk (some 110) (.pick (.tmp 100) (.tmp 109) (.const (.bool false))) 4 (some (24,false)),qz3),
 (qQ 111 97 true 110 4,qz3)]
def c65_36:Code:=.seq (codeN b65 20261) .ret
def c65_35:Code:=.cond (.tmp 111) c65_36 .skip
def c65_33:Code:=.seq c65_34 c65_35
def c65_25:Code:=.seq c65_26 c65_33
def c65_17:Code:=.seq c65_18 c65_25
def c65_15:Code:=.seq (codeN b65 549) c65_17
def c65_40:Code:=codeN b65 229
def c65_13:Code:=.seq (.block 1 c65_15) c65_40
def c65_7:Code:=.seq c65_8 c65_13
def c65_6:Code:=.loop c65_7
def c65_5:Code:=.block 0 c65_6
def c65_3:Code:=.seq (codeN b65 9) c65_5
def c65_41:Code:=.seq (codeN b65 11) .ret
def c65_2:Code:=.seq c65_3 c65_41
def c65_0:Code:=.seq (codeN b65 2) c65_2
theorem E65:evK gS fi65 c65_10 fr st k=condK gS fi65 (fr.op (.tmp 8)).bool? .skip (.exit 0) fr st k ∧
 (evK gS fi65 c65_8 fr st k=opsR gS fi65 [mv 5 3 3,
 mv 6 0 26,
 len1 7 6 26 3,
 bop 8 .lss 3 5 7 3 4] fr st (.seq c65_10 k)) ∧
 evK gS fi65 c65_21 fr st k=opsR gS fi65 [qA 2 false 4] fr st (.seq .ret k) ∧
 evK gS fi65 c65_20 fr st k=condK gS fi65 (fr.op (.tmp 36)).bool? c65_21 .skip fr st k ∧
 (evK gS fi65 c65_18 fr st k=opsR gS fi65 [qF 15 31 4 0 0,
 ld 16 3 15 3,
 cal 17 91 [(.tmp 16),(.const (.int .i64 1)),(.const (.int .i64 6))] [3,3,3] 4,
 op1 18 (.unOp .not 4 (.tmp 17)) 4,
 mv 19 18 4,
 qf 20 31 4 1 0 4 false,
 ql 21 3 20 3 4 false,
 mk (some 22) (.call {callee:=(.value (.func 91)),args:=#[(.tmp 21),(.const (.int .i64 0)),(.const (.int .i64 7))],argTypes:=#[3,3,3]}) 4 (some (4,false)),
 mk (some 23) (.unOp .not 4 (.tmp 22)) 4 (some (4,false)),
 qQ 24 19 true 23 4,
 mv 25 24 4,
 qf 26 31 4 2 0 10 false,
 ql 27 3 26 3 10 false,
 mk (some 28) (.call {callee:=(.value (.func 91)),args:=#[(.tmp 27),(.const (.int .i64 1)),(.const (.int .i64 4611686018427387904))],argTypes:=#[3,3,3]}) 4 (some (10,false)),
 mk (some 29) (.unOp .not 4 (.tmp 28)) 4 (some (10,false)),
 qQ 30 25 true 29 4,
 mv 31 30 4,
 qf 32 31 4 3 0 16 false,
 ql 33 29 32 29 16 false,
 mk (some 34) (.call {callee:=(.value (.func 92)),args:=#[(.tmp 33)],argTypes:=#[29]}) 4 (some (16,false)),
 mk (some 35) (.unOp .not 4 (.tmp 34)) 4 (some (16,false)),
 qQ 36 31 true 35 4] fr st (.seq c65_20 k)) ∧
 evK gS fi65 c65_27 fr st k=drwR gS fi65 r65_27 q65_27 fr st k ∧
 evK gS fi65 c65_29 fr st k=opsR gS fi65 [qA 2 false 4] fr st (.seq .ret k) ∧
 evK gS fi65 c65_28 fr st k=condK gS fi65 (fr.op (.tmp 72)).bool? c65_29 .skip fr st k ∧
 evK gS fi65 c65_26 fr st k=evK gS fi65 c65_27 fr st (.seq c65_28 k) ∧
 evK gS fi65 c65_34 fr st k=drwR gS fi65 r65_34 q65_34 fr st k ∧
 evK gS fi65 c65_36 fr st k=opsR gS fi65 [qA 2 false 4] fr st (.seq .ret k) ∧
 evK gS fi65 c65_35 fr st k=condK gS fi65 (fr.op (.tmp 111)).bool? c65_36 .skip fr st k ∧
 evK gS fi65 c65_33 fr st k=evK gS fi65 c65_34 fr st (.seq c65_35 k) ∧
 evK gS fi65 c65_25 fr st k=evK gS fi65 c65_26 fr st (.seq c65_33 k) ∧
 evK gS fi65 c65_17 fr st k=evK gS fi65 c65_18 fr st (.seq c65_25 k) ∧
 (evK gS fi65 c65_15 fr st k=opsR gS fi65 [mv 11 0 26,
 mv 12 3 3,
 ixa 13 26 11 12 0,
 ld 14 31 13 31,
 op1 4 (.alloc 31) 0,
 sto 31 4 14] fr st (.seq c65_17 k)) ∧
 (evK gS fi65 c65_40 fr st k=opsR gS fi65 [mv 9 3 3,
 qB 10 .add 3 9 1 3 3,
 asn 3 10 3] fr st k) ∧
 evK gS fi65 c65_13 fr st k=evK gS fi65 c65_15 fr st (.blk 1 (.seq c65_40 k)) ∧
 evK gS fi65 c65_7 fr st k=evK gS fi65 c65_8 fr st (.seq c65_13 k) ∧
 evK gS fi65 c65_5 fr st k=evK gS fi65 c65_6 fr st (.blk 0 k) ∧
 evK gS fi65 c65_3 fr st k=opsR gS fi65 [qI 3 0 3] fr st (.seq c65_5 k) ∧
 evK gS fi65 c65_41 fr st k=opsR gS fi65 [qA 2 true 4] fr st (.seq .ret k) ∧
 evK gS fi65 c65_2 fr st k=evK gS fi65 c65_3 fr st (.seq c65_41 k) ∧
 evK gS fi65 c65_0 fr st k=opsR gS fi65 [qA 2 false 4] fr st (.seq c65_2 k):=⟨rfl,evK_rs 2 rfl (by kernel_rfl),evK_rs 6 rfl (by kernel_rfl),rfl,evK_rs 5 rfl (by kernel_rfl),evK_dr 7 rfl (by kernel_rfl) (by kernel_rfl),evK_rs 8 rfl (by kernel_rfl),rfl,rfl,evK_dr 9 rfl (by kernel_rfl) (by kernel_rfl),evK_rs 10 rfl (by kernel_rfl),rfl,rfl,rfl,rfl,evK_rs 4 rfl (by kernel_rfl),evK_r 3 (by kernel_rfl),rfl,rfl,rfl,evK_rs 1 rfl (by kernel_rfl),evK_rs 11 rfl (by kernel_rfl),rfl,evK_rs 0 rfl (by kernel_rfl)⟩
theorem m65:mini fi65.body=c65_0:=by kernel_rfl
theorem n65_6 (fr:Fr)(st:St)(k:Kt):nextK gS fi65 (.loop c65_7 k) .normal fr st=evK gS fi65 c65_6 fr st k:=rfl
theorem L65 (l:List Sub)(hl1:∀ s∈l,POk s.filter)(hl2:l.length<1000000)(st:St):∀ (m i:Nat) (e4:E) (T:List (Nat × E)) (X:List (Nat × List V)),e4=.any∨e4=.lp 4 0→i≤l.length→l.length - i=m →
  evK gS fi65 c65_6 {ps:=[(0,.val (.slice (encSubs l))),(2,.val (.bool false)),(3,.val (.int .i64 (i:Nat))),(4,e4)],ts:=T,lc:=X} st (.blk 0 (.seq c65_41 .nil))=some (.ret (.bool (rR l m i)) none,st):=by
 intro m
 induction m with
 | zero =>
  intro i e4 T X h4 hi hm2
  obtain rfl:i=l.length:=by omega
  rw [show rR l 0 l.length=true from rfl]
  refine evK_loop c65_7 _ _ _ _ rfl ?_
  rcases h4 with rfl | rfl <;> simp (config:={implicitDefEqProofs:=false}) [-zil,-zit,-znl,-znt,ty3,ty4,ty26,ty29,ty31,H65,x92,fi38_eq,p92,x91,fi235_eq,p91,E65,q65_27,q65_34,n65_6]
 | succ m ih =>
  intro i e4 T X h4 hi hm2
  obtain ⟨x,hx⟩  := qgx (l:=l) (i:=i) (by omega)
  have hlt:(i:Int)<(l.length:Int):=by omega
  obtain ⟨hlt2,hxe⟩:=List.getElem?_eq_some_iff.1 hx
  have hw  := qws i (by omega)
  have kf:=fun fr st=>k92 x.filter (hl1 x (zmg hx)) fr st
  have kc:=fun fr st=>k91 x.client 1 6 fr st
  have kb:=fun fr st=>k91 x.broker 0 7 fr st
  have km:=fun fr st=>k91 x.num 1 4611686018427387904 fr st
  have hmay:mayS x=((decide (1≤x.client) && decide (x.client≤6)) && ((decide (0≤x.broker) && decide (x.broker≤7)) && ((decide (1≤x.num) && decide (x.num≤4611686018427387904)) && fright x.filter))):=by simp only [mayS,Bool.and_assoc]
  generalize (decide (1≤x.client) && decide (x.client≤6))=b1 at *
  generalize (decide (0≤x.broker) && decide (x.broker≤7))=b2 at *
  generalize (decide (1≤x.num) && decide (x.num≤4611686018427387904))=b3 at *
  generalize fright x.filter=b4 at *
  have IH:=fun e4 T X h4=>ih (i+1) e4 T X h4 (by omega) (by omega)
  rw [show rR l (m+1) i=(okR l i x && rR l m (i+1)) from by simp only [rR,hx]]
  have hoF:mayS x=false→okR l i x=false:=fun h=>by unfold okR;rw [h];rfl
  clear ih
  cases b1 with
  | false =>
   rw [hoF (by rw [hmay];rfl),Bool.false_and]
   refine evK_loop c65_7 _ _ _ _ rfl ?_
   rcases h4 with rfl | rfl <;> simp (config:={implicitDefEqProofs:=false}) [-zia,hx,hxe,hlt,hlt2,kc,-zil,-zit,-znl,-znt,ty3,ty4,ty26,ty29,ty31,H65,x92,fi38_eq,p92,x91,fi235_eq,p91,E65,q65_27,q65_34,n65_6]
  | true =>
   cases b2 with
   | false =>
    rw [hoF (by rw [hmay];rfl),Bool.false_and]
    refine evK_loop c65_7 _ _ _ _ rfl ?_
    rcases h4 with rfl | rfl <;> simp (config:={implicitDefEqProofs:=false}) [-zia,hx,hxe,hlt,hlt2,kc,kb,-zil,-zit,-znl,-znt,ty3,ty4,ty26,ty29,ty31,H65,x92,fi38_eq,p92,x91,fi235_eq,p91,E65,q65_27,q65_34,n65_6]
   | true =>
    cases b3 with
    | false =>
     rw [hoF (by rw [hmay];rfl),Bool.false_and]
     refine evK_loop c65_7 _ _ _ _ rfl ?_
     rcases h4 with rfl | rfl <;> simp (config:={implicitDefEqProofs:=false}) [-zia,hx,hxe,hlt,hlt2,kc,kb,km,-zil,-zit,-znl,-znt,ty3,ty4,ty26,ty29,ty31,H65,x92,fi38_eq,p92,x91,fi235_eq,p91,E65,q65_27,q65_34,n65_6]
    | true =>
     cases b4 with
     | false =>
      rw [hoF (by rw [hmay];rfl),Bool.false_and]
      refine evK_loop c65_7 _ _ _ _ rfl ?_
      rcases h4 with rfl | rfl <;> simp (config:={implicitDefEqProofs:=false}) [-zia,hx,hxe,hlt,hlt2,kc,kb,km,kf,-zil,-zit,-znl,-znt,ty3,ty4,ty26,ty29,ty31,H65,x92,fi38_eq,p92,x91,fi235_eq,p91,E65,q65_27,q65_34,n65_6]
     | true =>
      have hmt:mayS x=true:=by rw [hmay];rfl
      clear hmay hoF
      cases i with
      | zero =>
       rw [show okR l 0 x=true from by unfold okR;rw [hmt];rfl,Bool.true_and]
       refine evK_loop c65_7 _ _ _ _ rfl ?_
       rw [show ((0:Nat):Int)=0 from rfl] at *
       generalize rR l m (0+1)=z at *
       rcases h4 with rfl | rfl
       ·simp (config:={implicitDefEqProofs:=false}) [-zia,hx,hxe,hlt,hlt2,hw,kc,kb,km,kf,-zil,-zit,-znl,-znt,ty3,ty4,ty26,ty29,ty31,H65,x92,fi38_eq,p92,x91,fi235_eq,p91,E65,q65_27,q65_34,n65_6]
        exact IH _ _ _ (.inr rfl)
       ·simp (config:={implicitDefEqProofs:=false}) [-zia,hx,hxe,hlt,hlt2,hw,kc,kb,km,kf,-zil,-zit,-znl,-znt,ty3,ty4,ty26,ty29,ty31,H65,x92,fi38_eq,p92,x91,fi235_eq,p91,E65,q65_27,q65_34,n65_6]
        exact IH _ _ _ (.inr rfl)
      | succ k =>
       obtain ⟨y,hy⟩:∃ y,l[k]?=some y:=⟨l[k]'(by omega),zge (by omega)⟩
       obtain ⟨hlk,hye⟩:=List.getElem?_eq_some_iff.1 hy
       have hltk:(k:Int)<(l.length:Int):=by omega
       have hwk:IntKind.wrap .i64 (((k+1:Nat):Int) - 1)=(k:Int):=by rw [wrap64 (by omega) (by omega)];omega
       have hpos:(0:Int)<((k+1:Nat):Int):=by omega
       have hok:=okR_succ (l:=l) hy hmt
       rw [hok]
       clear hok
       generalize rR l m (k+1+1)=z at *
       by_cases c1:y.client<x.client
       ·have c2:¬ y.client=x.client:=by omega
        by_cases c3:3≤k+1
        ·have c3':(3:Int)≤((k+1:Nat):Int):=by omega
         obtain ⟨u,hu⟩:∃ u,l[k+1 - 3]?=some u:=⟨l[k+1 - 3]'(by omega),zge (by omega)⟩
         obtain ⟨hlu,hue⟩:=List.getElem?_eq_some_iff.1 hu
         have hltu:((k+1 - 3:Nat):Int)<(l.length:Int):=by omega
         have hwu:IntKind.wrap .i64 (((k+1:Nat):Int) - 3)=((k+1 - 3:Nat):Int):=by rw [wrap64 (by omega) (by omega)];omega
         rw [back3_some hu]
         generalize k+1 - 3=v at *
         refine evK_loop c65_7 _ _ _ _ rfl ?_
         by_cases c4:u.client=x.client
         ·rcases h4 with rfl | rfl <;> simp (config:={implicitDefEqProofs:=false}) [-zia,hx,hxe,hlt,hlt2,hw,hy,hye,hlk,hltk,hwk,hpos,hu,hue,hlu,hltu,hwu,c1,c2,c3,c3',c4,kc,kb,km,kf,-zil,-zit,-znl,-znt,ty3,ty4,ty26,ty29,ty31,H65,x92,fi38_eq,p92,x91,fi235_eq,p91,E65,q65_27,q65_34,n65_6]
         ·have I1:=fun e4 T X h4=>IH e4 T X h4
          rcases h4 with rfl | rfl
          ·simp (config:={implicitDefEqProofs:=false}) [-zia,hx,hxe,hlt,hlt2,hw,hy,hye,hlk,hltk,hwk,hpos,hu,hue,hlu,hltu,hwu,c1,c2,c3,c3',c4,kc,kb,km,kf,-zil,-zit,-znl,-znt,ty3,ty4,ty26,ty29,ty31,H65,x92,fi38_eq,p92,x91,fi235_eq,p91,E65,q65_27,q65_34,n65_6]
           exact I1 _ _ _ (.inr rfl)
          ·simp (config:={implicitDefEqProofs:=false}) [-zia,hx,hxe,hlt,hlt2,hw,hy,hye,hlk,hltk,hwk,hpos,hu,hue,hlu,hltu,hwu,c1,c2,c3,c3',c4,kc,kb,km,kf,-zil,-zit,-znl,-znt,ty3,ty4,ty26,ty29,ty31,H65,x92,fi38_eq,p92,x91,fi235_eq,p91,E65,q65_27,q65_34,n65_6]
           exact I1 _ _ _ (.inr rfl)
        ·have c3':¬ (3:Int)≤((k+1:Nat):Int):=by omega
         refine evK_loop c65_7 _ _ _ _ rfl ?_
         rcases h4 with rfl | rfl
         ·simp (config:={implicitDefEqProofs:=false}) [-zia,hx,hxe,hlt,hlt2,hw,hy,hye,hlk,hltk,hwk,hpos,c1,c2,c3,c3',kc,kb,km,kf,-zil,-zit,-znl,-znt,ty3,ty4,ty26,ty29,ty31,H65,x92,fi38_eq,p92,x91,fi235_eq,p91,E65,q65_27,q65_34,n65_6]
          exact IH _ _ _ (.inr rfl)
         ·simp (config:={implicitDefEqProofs:=false}) [-zia,hx,hxe,hlt,hlt2,hw,hy,hye,hlk,hltk,hwk,hpos,c1,c2,c3,c3',kc,kb,km,kf,-zil,-zit,-znl,-znt,ty3,ty4,ty26,ty29,ty31,H65,x92,fi38_eq,p92,x91,fi235_eq,p91,E65,q65_27,q65_34,n65_6]
          exact IH _ _ _ (.inr rfl)
       ·by_cases c2:y.client=x.client
        ·by_cases c5:y.num<x.num
         ·by_cases c6:y.broker=x.broker
          ·by_cases c3:3≤k+1
           ·have c3':(3:Int)≤((k+1:Nat):Int):=by omega
            obtain ⟨u,hu⟩:∃ u,l[k+1 - 3]?=some u:=⟨l[k+1 - 3]'(by omega),zge (by omega)⟩
            obtain ⟨hlu,hue⟩:=List.getElem?_eq_some_iff.1 hu
            have hltu:((k+1 - 3:Nat):Int)<(l.length:Int):=by omega
            have hwu:IntKind.wrap .i64 (((k+1:Nat):Int) - 3)=((k+1 - 3:Nat):Int):=by rw [wrap64 (by omega) (by omega)];omega
            rw [back3_some hu]
            generalize k+1 - 3=v at *
            refine evK_loop c65_7 _ _ _ _ rfl ?_
            by_cases c4:u.client=x.client
            ·rcases h4 with rfl | rfl <;> simp (config:={implicitDefEqProofs:=false}) [-zia,hx,hxe,hlt,hlt2,hw,hy,hye,hlk,hltk,hwk,hpos,hu,hue,hlu,hltu,hwu,c1,c2,c3,c3',c4,c5,c6,kc,kb,km,kf,-zil,-zit,-znl,-znt,ty3,ty4,ty26,ty29,ty31,H65,x92,fi38_eq,p92,x91,fi235_eq,p91,E65,q65_27,q65_34,n65_6]
            ·rcases h4 with rfl | rfl
             ·simp (config:={implicitDefEqProofs:=false}) [-zia,hx,hxe,hlt,hlt2,hw,hy,hye,hlk,hltk,hwk,hpos,hu,hue,hlu,hltu,hwu,c1,c2,c3,c3',c4,c5,c6,kc,kb,km,kf,-zil,-zit,-znl,-znt,ty3,ty4,ty26,ty29,ty31,H65,x92,fi38_eq,p92,x91,fi235_eq,p91,E65,q65_27,q65_34,n65_6]
              exact IH _ _ _ (.inr rfl)
             ·simp (config:={implicitDefEqProofs:=false}) [-zia,hx,hxe,hlt,hlt2,hw,hy,hye,hlk,hltk,hwk,hpos,hu,hue,hlu,hltu,hwu,c1,c2,c3,c3',c4,c5,c6,kc,kb,km,kf,-zil,-zit,-znl,-znt,ty3,ty4,ty26,ty29,ty31,H65,x92,fi38_eq,p92,x91,fi235_eq,p91,E65,q65_27,q65_34,n65_6]
              exact IH _ _ _ (.inr rfl)
           ·have c3':¬ (3:Int)≤((k+1:Nat):Int):=by omega
            refine evK_loop c65_7 _ _ _ _ rfl ?_
            rcases h4 with rfl | rfl
            ·simp (config:={implicitDefEqProofs:=false}) [-zia,hx,hxe,hlt,hlt2,hw,hy,hye,hlk,hltk,hwk,hpos,c1,c2,c3,c3',c5,c6,kc,kb,km,kf,-zil,-zit,-znl,-znt,ty3,ty4,ty26,ty29,ty31,H65,x92,fi38_eq,p92,x91,fi235_eq,p91,E65,q65_27,q65_34,n65_6]
             exact IH _ _ _ (.inr rfl)
            ·simp (config:={implicitDefEqProofs:=false}) [-zia,hx,hxe,hlt,hlt2,hw,hy,hye,hlk,hltk,hwk,hpos,c1,c2,c3,c3',c5,c6,kc,kb,km,kf,-zil,-zit,-znl,-znt,ty3,ty4,ty26,ty29,ty31,H65,x92,fi38_eq,p92,x91,fi235_eq,p91,E65,q65_27,q65_34,n65_6]
             exact IH _ _ _ (.inr rfl)
          ·have hor:¬ (3:Int)≤((k+1:Nat):Int)∨(3:Int)≤((k+1:Nat):Int):=by omega
           refine evK_loop c65_7 _ _ _ _ rfl ?_
           rcases h4 with rfl | rfl <;> simp (config:={implicitDefEqProofs:=false}) [-zia,hx,hxe,hlt,hlt2,hw,hy,hye,hlk,hltk,hwk,hpos,c1,c2,c5,c6,kc,kb,km,kf,-zil,-zit,-znl,-znt,ty3,ty4,ty26,ty29,ty31,H65,x92,fi38_eq,p92,x91,fi235_eq,p91,E65,q65_27,q65_34,n65_6]
         ·refine evK_loop c65_7 _ _ _ _ rfl ?_
          rcases h4 with rfl | rfl <;> simp (config:={implicitDefEqProofs:=false}) [-zia,hx,hxe,hlt,hlt2,hw,hy,hye,hlk,hltk,hwk,hpos,c1,c2,c5,kc,kb,km,kf,-zil,-zit,-znl,-znt,ty3,ty4,ty26,ty29,ty31,H65,x92,fi38_eq,p92,x91,fi235_eq,p91,E65,q65_27,q65_34,n65_6]
        ·refine evK_loop c65_7 _ _ _ _ rfl ?_
         rcases h4 with rfl | rfl <;> simp (config:={implicitDefEqProofs:=false}) [-zia,hx,hxe,hlt,hlt2,hw,hy,hye,hlk,hltk,hwk,hpos,c1,c2,kc,kb,km,kf,-zil,-zit,-znl,-znt,ty3,ty4,ty26,ty29,ty31,H65,x92,fi38_eq,p92,x91,fi235_eq,p91,E65,q65_27,q65_34,n65_6]
theorem c65 (l:List Sub)(hl1:∀ s∈l,POk s.filter)(hl2:l.length<1000000)(st:St):EvF gS 65 [.slice (encSubs l)] st=some (.ret (.bool (rightS l)) none,st):=by
 refine EvF_start fi233_eq (fun x h=>by cases h) m65 ?_
 rw [st65,← rightR_eq]
 have LL:=fun e4 T X h4=>L65 l hl1 hl2 st l.length 0 e4 T X h4 (Nat.zero_le _) rfl
 rw [show ((0:Nat):Int)=0 from rfl] at LL
 simp (config:={implicitDefEqProofs:=false}) [-zil,-zit,-znl,-znt,ty3,ty4,ty26,ty29,ty31,H65,x92,fi38_eq,p92,x91,fi235_eq,p91,E65,q65_27,q65_34,n65_6]
 refine LL _ _ _ (.inl rfl)
theorem k65 (l:List Sub)(hl1:∀ s∈l,POk s.filter)(hl2:l.length<1000000)(fr:Fr)(st:St):callStep gS (EvF gS) 65 [.slice (encSubs l)] fr st=some (.ok (.val (.bool (rightS l))) fr st) :=
 call_pure rfl fi233_eq rfl (fun st=>c65 l hl1 hl2 st) (by simp [V.flat])
def fi66:FI:={body:=codeOf Try.f66,ntmps:=28,results:=[.tmp 4],pers:=[0,1,4,5,6],locals:=[],pure:=true,marks:=[1000000]}
theorem H66:fi66.marks=[1000000]∧fi66.locals=[]∧fi66.results=[.tmp 4]:=⟨rfl,rfl,rfl⟩
theorem fi238_eq:gS.fn 66=some fi66:=by kernel_rfl
theorem st66 (a0 a1:V):startFr fi66 [a0,a1]={ps:=[(0,.val a0),(1,.val a1),(4,.any),(5,.any),(6,.any)],ts:=[],lc:=[]}:=rfl
def b66:Code:=mini (codeOf Try.f66)
def c66_12:Code:=.cond (.tmp 10) .skip (.exit 0)
def c66_10:Code:=.seq (codeN b66 267) c66_12
def c66_20:Code:=codeN b66 2635
def c66_19:Code:=.cond (.tmp 19) c66_20 .skip
def c66_17:Code:=.seq (codeN b66 1099) c66_19
def c66_22:Code:=codeN b66 459
def c66_15:Code:=.seq (.block 1 c66_17) c66_22
def c66_9:Code:=.seq c66_10 c66_15
def c66_8:Code:=.loop c66_9
def c66_7:Code:=.block 0 c66_8
def c66_5:Code:=.seq (codeN b66 19) c66_7
def c66_23:Code:=.seq (codeN b66 23) .ret
theorem e66_23:evK gS fi66 c66_23 fr st k=opsR gS fi66 [mv 27 5 26,
 asn 4 27 26] fr st (.seq .ret k):=evK_rs 7 rfl (by kernel_rfl)
def c66_4:Code:=.seq c66_5 c66_23
def c66_2:Code:=.seq (codeN b66 5) c66_4
def c66_0:Code:=.seq (codeN b66 2) c66_2
theorem E66:evK gS fi66 c66_12 fr st k=condK gS fi66 (fr.op (.tmp 10)).bool? .skip (.exit 0) fr st k ∧
 (evK gS fi66 c66_10 fr st k=opsR gS fi66 [mv 7 6 3,
 mv 8 0 26,
 len1 9 8 26 3,
 bop 10 .lss 3 7 9 3 4] fr st (.seq c66_12 k)) ∧
 (evK gS fi66 c66_20 fr st k=opsR gS fi66 [mv 20 5 26,
 mv 21 0 26,
 mv 22 6 3,
 ixa 23 26 21 22 0,
 ld 24 31 23 31,
 qS 25 26 24 26,
 qE 26 20 25 26 26,
 asn 5 26 26] fr st k) ∧
 evK gS fi66 c66_19 fr st k=condK gS fi66 (fr.op (.tmp 19)).bool? c66_20 .skip fr st k ∧
 (evK gS fi66 c66_17 fr st k=opsR gS fi66 [mv 13 0 26,
 mv 14 6 3,
 ixa 15 26 13 14 0,
 qF 16 31 15 0 0,
 ld 17 3 16 3,
 mv 18 1 3,
 bop 19 .eql 3 17 18 3 4] fr st (.seq c66_19 k)) ∧
 (evK gS fi66 c66_22 fr st k=opsR gS fi66 [mv 11 6 3,
 qB 12 .add 3 11 1 3 3,
 asn 6 12 3] fr st k) ∧
 evK gS fi66 c66_15 fr st k=evK gS fi66 c66_17 fr st (.blk 1 (.seq c66_22 k)) ∧
 evK gS fi66 c66_9 fr st k=evK gS fi66 c66_10 fr st (.seq c66_15 k) ∧
 evK gS fi66 c66_7 fr st k=evK gS fi66 c66_8 fr st (.blk 0 k) ∧
 evK gS fi66 c66_5 fr st k=opsR gS fi66 [qI 6 0 3] fr st (.seq c66_7 k) ∧
 evK gS fi66 c66_4 fr st k=evK gS fi66 c66_5 fr st (.seq c66_23 k) ∧
 evK gS fi66 c66_2 fr st k=opsR gS fi66 [qN 5 26] fr st (.seq c66_4 k) ∧
 evK gS fi66 c66_0 fr st k=opsR gS fi66 [qN 4 26] fr st (.seq c66_2 k):=⟨rfl,evK_rs 3 rfl (by kernel_rfl),evK_r 6 (by kernel_rfl),rfl,evK_rs 5 rfl (by kernel_rfl),evK_r 4 (by kernel_rfl),rfl,rfl,rfl,evK_rs 2 rfl (by kernel_rfl),rfl,evK_rs 1 rfl (by kernel_rfl),evK_rs 0 rfl (by kernel_rfl)⟩
theorem m66:mini fi66.body=c66_0:=by kernel_rfl
theorem n66_8 (fr:Fr)(st:St)(k:Kt):nextK gS fi66 (.loop c66_9 k) .normal fr st=evK gS fi66 c66_8 fr st k:=rfl
theorem LO238 (l:List Sub)(hl2:l.length<100000)(c0:Int)(S:St)(R:Out × St)  (fin:List Sub)
  (H:∀  (T:List (Nat × E)) (X:List (Nat × List V)),evK gS fi66 c66_23 {ps:=[(0,.val (.slice (encSubs l))),(1,.val (.int .i64 c0)),(4,.own 0 []),(5,.own (kof 4 fin) (encSubs fin)),(6,.val (.int .i64 l.length))],ts:=T,lc:=X} S .nil=some R) :
  ∀ (m q:Nat) (out:List Sub)  (T:List (Nat × E)) (X:List (Nat × List V)) ,q≤l.length→l.length - q=m→fin=out ++ ofC (l.drop q) c0→out.length≤q →
  evK gS fi66 c66_8 {ps:=[(0,.val (.slice (encSubs l))),(1,.val (.int .i64 c0)),(4,.own 0 []),(5,.own (kof 4 out) (encSubs out)),(6,.val (.int .i64 (q:Nat)))],ts:=T,lc:=X} S (.blk 0 (.seq c66_23 .nil))=some R:=by
 intro m
 induction m with
 | zero =>
  intro q out  T X  hq hm2 hf hol
  obtain rfl:q=l.length:=by omega
  rw [List.drop_length,show ofC [] c0=[] from rfl,List.append_nil] at hf
  subst hf
  refine evK_loop c66_9 _ _ _ _ rfl ?_
  rcases kof_or 4 fin with ⟨hk,rfl⟩ | hk
  ·rw [hk,show encSubs []=[] from rfl] at H ⊢
   simp (config:={implicitDefEqProofs:=false}) [-zia,-St.obj,-St.set,-zil,-zit,-znl,-znt,ty3,ty4,ty26,ty31,H66,E66,n66_8]
   exact H  _ _
  ·rw [hk] at H ⊢
   simp (config:={implicitDefEqProofs:=false}) [-zia,-St.obj,-St.set,-zil,-zit,-znl,-znt,ty3,ty4,ty26,ty31,H66,E66,n66_8]
   exact H  _ _
 | succ m ih =>
  intro q out  T X  hq hm2 hf hol
  obtain ⟨x,hx⟩  := qgx (l:=l) (i:=q) (by omega)
  have hlt:(q:Int)<(l.length:Int):=by omega
  obtain ⟨hlt2,hxe⟩:=List.getElem?_eq_some_iff.1 hx
  have hw  := qws q (by omega)
  rw [drop_get hx,show ofC (x :: l.drop (q+1)) c0=if x.client=c0 then x :: ofC (l.drop (q+1)) c0 else ofC (l.drop (q+1)) c0 from by unfold ofC;rw [List.filter_cons];simp] at hf
  have hs1:=sizes_subs out
  have hs2:=subs_snoc out x
  have b1:(out.length+1)*48≤140737488355328:=by omega
  have b2:out.length+1≤140737488355328:=by omega
  refine evK_loop c66_9 _ _ _ _ rfl ?_
  by_cases hc:x.client=c0
  ·have hc2:=eq_true hc
   rw [if_pos hc,List.append_cons] at hf
   have IH:=fun  T X  => ih (q+1) (out ++ [x])  T X  (by omega) (by omega) hf (by simp;omega)
   rw [kof_snoc] at IH
   rcases kof_or 4 out with ⟨hk,rfl⟩ | hk
   ·have en1:encSubs ([] ++ [x])=[x.enc]:=rfl
    rw [en1] at IH
    rw [hk,show encSubs []=[] from rfl]
    simp (config:={implicitDefEqProofs:=false}) [-zia,hx,hxe,hlt,hlt2,hw,hc2,-zil,-zit,-znl,-znt,ty3,ty4,ty26,ty31,H66,E66,e66_23,n66_8]
    exact IH _ _
   ·rw [hk]
    simp (config:={implicitDefEqProofs:=false}) [-zia,-zaa,hx,hxe,hlt,hlt2,hw,hc2,hs1,hs2,b1,b2,-zil,-zit,-znl,-znt,ty3,ty4,ty26,ty31,H66,E66,e66_23,n66_8]
    exact IH _ _
  ·rw [if_neg hc] at hf
   have IH:=fun  T X  => ih (q+1) out  T X  (by omega) (by omega) hf (by omega)
   rcases kof_or 4 out with ⟨hk,rfl⟩ | hk
   ·rw [hk,show encSubs []=[] from rfl] at IH ⊢
    simp (config:={implicitDefEqProofs:=false}) [-zia,hx,hxe,hlt,hlt2,hw,hc,-zil,-zit,-znl,-znt,ty3,ty4,ty26,ty31,H66,E66,e66_23,n66_8]
    exact IH _ _
   ·rw [hk] at IH ⊢
    simp (config:={implicitDefEqProofs:=false}) [-zia,hx,hxe,hlt,hlt2,hw,hc,-zil,-zit,-znl,-znt,ty3,ty4,ty26,ty31,H66,E66,e66_23,n66_8]
    exact IH _ _
theorem c66 (l:List Sub)(hl2:l.length<100000)(c0:Int)(S:St):EvF gS 66 [.slice (encSubs l),.int .i64 c0] S=some (.ret (.slice (encSubs (ofC l c0))) none,S):=by
 refine EvF_start fi238_eq (fun x h=>by cases h) m66 ?_
 rw [st66]
 have hz:=fun xs st=>frz_slice (xs:=encSubs xs) (flats_subs xs) st
 have hz0:=hz [] S
 rw [show encSubs []=[] from rfl] at hz0
 generalize hK:ofC l c0=K
 generalize hR:(Out.ret (V.slice (encSubs K)) none,S)=R
 have H23:∀  (T:List (Nat × E)) (X:List (Nat × List V)),evK gS fi66 c66_23 {ps:=[(0,.val (.slice (encSubs l))),(1,.val (.int .i64 c0)),(4,.own 0 []),(5,.own (kof 4 K) (encSubs K)),(6,.val (.int .i64 l.length))],ts:=T,lc:=X} S .nil=some R:=by
  intro  T X
  rcases kof_or 4 K with ⟨hk,rfl⟩ | hk
  ·rw [hk,show encSubs []=[] from rfl]
   simp (config:={implicitDefEqProofs:=false}) [-zia,hz0,← hR,show encSubs []=[] from rfl,-zil,-zit,-znl,-znt,ty3,ty4,ty26,ty31,H66,E66,e66_23,n66_8]
  ·rw [hk]
   simp (config:={implicitDefEqProofs:=false}) [-zia,hz,← hR,-zil,-zit,-znl,-znt,ty3,ty4,ty26,ty31,H66,E66,e66_23,n66_8]
 have LL:=fun  T X  => LO238 l hl2 c0 S R K H23 l.length 0 []  T X  (Nat.zero_le _) rfl (by rw [List.drop_zero];exact hK.symm) (Nat.le_refl _)
 rw [show ((0:Nat):Int)=0 from rfl] at LL
 rw [show kof 4 ([]:List Sub)=0 from rfl,show encSubs []=[] from rfl] at LL
 simp (config:={implicitDefEqProofs:=false}) [-zil,-zit,-znl,-znt,ty3,ty4,ty26,ty31,H66,E66,e66_23,n66_8]
 exact LL _ _
theorem k66 (l:List Sub)(hl2:l.length<100000)(c0:Int)(fr:Fr)(st:St):callStep gS (EvF gS) 66 [.slice (encSubs l),.int .i64 c0] fr st=some (.ok (.val (.slice (encSubs (ofC l c0)))) fr st) :=
 call_pure rfl fi238_eq rfl (fun st=>c66 l hl2 c0 st) (by simp [V.flat])
def fi37:FI:={body:=codeOf Try.f37,ntmps:=34,results:=[.tmp 4],pers:=[0,1,4,5,6],locals:=[],pure:=true,marks:=[1000000]}
theorem H37:fi37.marks=[1000000]∧fi37.locals=[]∧fi37.results=[.tmp 4]:=⟨rfl,rfl,rfl⟩
theorem fi242_eq:gS.fn 37=some fi37:=by kernel_rfl
theorem st37 (a0 a1:V):startFr fi37 [a0,a1]={ps:=[(0,.val a0),(1,.val a1),(4,.any),(5,.any),(6,.any)],ts:=[],lc:=[]}:=rfl
def b37:Code:=mini (codeOf Try.f37)
def c37_12:Code:=.cond (.tmp 10) .skip (.exit 0)
def c37_10:Code:=.seq (codeN b37 267) c37_12
def c37_20:Code:=codeN b37 2635
def c37_19:Code:=.cond (.tmp 28) c37_20 .skip
def c37_17:Code:=.seq (codeN b37 1099) c37_19
def c37_22:Code:=codeN b37 459
def c37_15:Code:=.seq (.block 1 c37_17) c37_22
def c37_9:Code:=.seq c37_10 c37_15
def c37_8:Code:=.loop c37_9
def c37_7:Code:=.block 0 c37_8
def c37_5:Code:=.seq (codeN b37 19) c37_7
def c37_23:Code:=.seq (codeN b37 23) .ret
theorem e37_23:evK gS fi37 c37_23 fr st k=opsR gS fi37 [mv 33 5 22,
 asn 4 33 22] fr st (.seq .ret k):=evK_rs 7 rfl (by kernel_rfl)
def c37_4:Code:=.seq c37_5 c37_23
def c37_2:Code:=.seq (codeN b37 5) c37_4
def c37_0:Code:=.seq (codeN b37 2) c37_2
theorem E37:evK gS fi37 c37_12 fr st k=condK gS fi37 (fr.op (.tmp 10)).bool? .skip (.exit 0) fr st k ∧
 (evK gS fi37 c37_10 fr st k=opsR gS fi37 [mv 7 6 3,
 mv 8 0 65,
 len1 9 8 65 3,
 bop 10 .lss 3 7 9 3 4] fr st (.seq c37_12 k)) ∧
 (evK gS fi37 c37_20 fr st k=opsR gS fi37 [mv 29 5 22,
 mv 30 6 3,
 qS 31 22 30 22,
 qE 32 29 31 22 22,
 asn 5 32 22] fr st k) ∧
 evK gS fi37 c37_19 fr st k=condK gS fi37 (fr.op (.tmp 28)).bool? c37_20 .skip fr st k ∧
 (evK gS fi37 c37_17 fr st k=opsR gS fi37 [mv 13 1 22,
 mv 14 0 65,
 mv 15 6 3,
 ixa 16 65 14 15 0,
 qF 17 67 16 0 0,
 ld 18 3 17 3,
 cal 19 58 [(.tmp 13),(.tmp 18)] [22,3] 4,
 mv 20 19 4,
 qm 21 1 22 7 false,
 qm 22 0 65 7 false,
 qm 23 6 3 7 false,
 qi 24 65 22 23 0 7 false,
 qf 25 67 24 1 0 7 false,
 ql 26 3 25 3 7 false,
 mk (some 27) (.call {callee:=(.value (.func 58)),args:=#[(.tmp 21),(.tmp 26)],argTypes:=#[22,3]}) 4 (some (7,false)),
 qQ 28 20 true 27 4] fr st (.seq c37_19 k)) ∧
 (evK gS fi37 c37_22 fr st k=opsR gS fi37 [mv 11 6 3,
 qB 12 .add 3 11 1 3 3,
 asn 6 12 3] fr st k) ∧
 evK gS fi37 c37_15 fr st k=evK gS fi37 c37_17 fr st (.blk 1 (.seq c37_22 k)) ∧
 evK gS fi37 c37_9 fr st k=evK gS fi37 c37_10 fr st (.seq c37_15 k) ∧
 evK gS fi37 c37_7 fr st k=evK gS fi37 c37_8 fr st (.blk 0 k) ∧
 evK gS fi37 c37_5 fr st k=opsR gS fi37 [qI 6 0 3] fr st (.seq c37_7 k) ∧
 evK gS fi37 c37_4 fr st k=evK gS fi37 c37_5 fr st (.seq c37_23 k) ∧
 evK gS fi37 c37_2 fr st k=opsR gS fi37 [qN 5 22] fr st (.seq c37_4 k) ∧
 evK gS fi37 c37_0 fr st k=opsR gS fi37 [qN 4 22] fr st (.seq c37_2 k):=⟨rfl,evK_rs 3 rfl (by kernel_rfl),evK_r 6 (by kernel_rfl),rfl,evK_rs 5 rfl (by kernel_rfl),evK_r 4 (by kernel_rfl),rfl,rfl,rfl,evK_rs 2 rfl (by kernel_rfl),rfl,evK_rs 1 rfl (by kernel_rfl),evK_rs 0 rfl (by kernel_rfl)⟩
theorem m37:mini fi37.body=c37_0:=by kernel_rfl
theorem n37_8 (fr:Fr)(st:St)(k:Kt):nextK gS fi37 (.loop c37_9 k) .normal fr st=evK gS fi37 c37_8 fr st k:=rfl
theorem LW242x (g:List Atom)(hgl:g.length<100000)(ms:List Int)(hms:ms.length<100000)(S:St)(R:Out × St)  (fin:List Int)
  (H:∀  (T:List (Nat × E)) (X:List (Nat × List V)),evK gS fi37 c37_23 {ps:=[(0,.val (.slice (encAtoms g))),(1,.val (.slice (intVs ms))),(4,.own 0 []),(5,.own (kof 1 fin) (intVs fin)),(6,.val (.int .i64 g.length))],ts:=T,lc:=X} S .nil=some R) :
  ∀ (m q:Nat) (out:List Int)  (T:List (Nat × E)) (X:List (Nat × List V)) ,q≤g.length→g.length - q=m→fin=wayG (fun z=>hasI ms z.a || hasI ms z.b) q (g.drop q) out→out.length≤q →
  evK gS fi37 c37_8 {ps:=[(0,.val (.slice (encAtoms g))),(1,.val (.slice (intVs ms))),(4,.own 0 []),(5,.own (kof 1 out) (intVs out)),(6,.val (.int .i64 (q:Nat)))],ts:=T,lc:=X} S (.blk 0 (.seq c37_23 .nil))=some R:=by
 intro m
 induction m with
 | zero =>
  intro q out  T X  hq hm2 hf hol
  obtain rfl:q=g.length:=by omega
  rw [List.drop_length] at hf
  have hf2:fin=out:=hf
  subst hf2
  refine evK_loop c37_9 _ _ _ _ rfl ?_
  rcases kof_or 1 fin with ⟨hk,rfl⟩ | hk
  ·rw [hk,show intVs []=[] from rfl] at H ⊢
   simp (config:={implicitDefEqProofs:=false}) [-zia,-St.obj,-St.set,-zil,-zit,-znl,-znt,ty3,ty4,ty22,ty65,ty67,H37,E37,n37_8]
   exact H  _ _
  ·rw [hk] at H ⊢
   simp (config:={implicitDefEqProofs:=false}) [-zia,-St.obj,-St.set,-zil,-zit,-znl,-znt,ty3,ty4,ty22,ty65,ty67,H37,E37,n37_8]
   exact H  _ _
 | succ m ih =>
  intro q out  T X  hq hm2 hf hol
  obtain ⟨x,hx⟩  := qgx (l:=g) (i:=q) (by omega)
  have hlt:(q:Int)<(g.length:Int):=by omega
  obtain ⟨hlt2,hxe⟩:=List.getElem?_eq_some_iff.1 hx
  have hw  := qws q (by omega)
  rw [drop_get hx,show wayG (fun z=>hasI ms z.a || hasI ms z.b) q (x :: g.drop (q+1)) out=wayG (fun z=>hasI ms z.a || hasI ms z.b) (q+1) (g.drop (q+1)) (if (hasI ms x.a || hasI ms x.b)=true then out ++ [(q:Int)] else out) from rfl] at hf
  have ka:=fun fr st=>k58 ms x.a (by omega) fr st
  have kb:=fun fr st=>k58 ms x.b (by omega) fr st
  have hs1:=sizes_ints out
  have hs2:=ints_snoc out (q:Int)
  have b1:(out.length+1)*8≤140737488355328:=by omega
  have b2:out.length+1≤140737488355328:=by omega
  generalize hasI ms x.a=t1 at *
  generalize hasI ms x.b=t2 at *
  refine evK_loop c37_9 _ _ _ _ rfl ?_
  by_cases ht:(t1 || t2)=true
  ·rw [if_pos ht] at hf
   have IH:=fun T X=>ih (q+1) (out ++ [(q:Int)]) T X (by omega) (by omega) hf (by simp;omega)
   rw [kof_snoc] at IH
   rcases kof_or 1 out with ⟨hk,rfl⟩ | hk
   ·have en1:intVs ([] ++ [(q:Int)])=[.int .i64 (q:Int)]:=rfl
    rw [en1] at IH
    rw [hk,show intVs []=[] from rfl]
    cases t1 <;> cases t2 <;> first | (exact absurd ht (by decide)) | simp (config:={implicitDefEqProofs:=false}) [-zia,hx,hxe,hlt,hlt2,hw,ka,kb,IH,-zil,-zit,-znl,-znt,ty3,ty4,ty22,ty65,ty67,H37,E37,e37_23,n37_8]
   ·rw [hk]
    cases t1 <;> cases t2 <;> first | (exact absurd ht (by decide)) | simp (config:={implicitDefEqProofs:=false}) [-zia,-zaa,hx,hxe,hlt,hlt2,hw,ka,kb,hs1,hs2,b1,b2,IH,-zil,-zit,-znl,-znt,ty3,ty4,ty22,ty65,ty67,H37,E37,e37_23,n37_8]
  ·rw [if_neg ht] at hf
   have IH:=fun T X=>ih (q+1) out T X (by omega) (by omega) hf (by omega)
   rcases kof_or 1 out with ⟨hk,rfl⟩ | hk
   ·rw [hk,show intVs []=[] from rfl] at IH ⊢
    cases t1 <;> cases t2 <;> first | (exact absurd rfl ht) | simp (config:={implicitDefEqProofs:=false}) [-zia,hx,hxe,hlt,hlt2,hw,ka,kb,IH,-zil,-zit,-znl,-znt,ty3,ty4,ty22,ty65,ty67,H37,E37,e37_23,n37_8]
   ·rw [hk] at IH ⊢
    cases t1 <;> cases t2 <;> first | (exact absurd rfl ht) | simp (config:={implicitDefEqProofs:=false}) [-zia,hx,hxe,hlt,hlt2,hw,ka,kb,IH,-zil,-zit,-znl,-znt,ty3,ty4,ty22,ty65,ty67,H37,E37,e37_23,n37_8]
theorem c37 (g:List Atom)(hgl:g.length<100000)(ms:List Int)(hms:ms.length<100000)(S:St):EvF gS 37 [.slice (encAtoms g),.slice (intVs ms)] S=some (.ret (.slice (intVs (wayA g ms))) none,S):=by
 refine EvF_start fi242_eq (fun x h=>by cases h) m37 ?_
 rw [st37]
 have hz:=fun xs st=>frz_slice (xs:=intVs xs) (flats_ints xs) st
 have hz0:=hz [] S
 rw [show intVs []=[] from rfl] at hz0
 show _=some (Out.ret (V.slice (intVs (wayG (fun z=>hasI ms z.a || hasI ms z.b) 0 g []))) none,S)
 generalize hK:wayG (fun z=>hasI ms z.a || hasI ms z.b) 0 g []=K
 generalize hR:(Out.ret (V.slice (intVs K)) none,S)=R
 have H23:∀  (T:List (Nat × E)) (X:List (Nat × List V)),evK gS fi37 c37_23 {ps:=[(0,.val (.slice (encAtoms g))),(1,.val (.slice (intVs ms))),(4,.own 0 []),(5,.own (kof 1 K) (intVs K)),(6,.val (.int .i64 g.length))],ts:=T,lc:=X} S .nil=some R:=by
  intro  T X
  rcases kof_or 1 K with ⟨hk,rfl⟩ | hk
  ·rw [hk,show intVs []=[] from rfl]
   simp (config:={implicitDefEqProofs:=false}) [-zia,hz0,← hR,show intVs []=[] from rfl,-zil,-zit,-znl,-znt,ty3,ty4,ty22,ty65,ty67,H37,E37,e37_23,n37_8]
  ·rw [hk]
   simp (config:={implicitDefEqProofs:=false}) [-zia,hz,← hR,-zil,-zit,-znl,-znt,ty3,ty4,ty22,ty65,ty67,H37,E37,e37_23,n37_8]
 have LL:=fun  T X  => LW242x g hgl ms hms S R K H23 g.length 0 []  T X  (Nat.zero_le _) rfl (by rw [List.drop_zero];exact hK.symm) (Nat.le_refl _)
 rw [show ((0:Nat):Int)=0 from rfl] at LL
 rw [show kof 1 ([]:List Int)=0 from rfl,show intVs []=[] from rfl] at LL
 simp [LL,-zil,-zit,-znl,-znt,ty3,ty4,ty22,ty65,ty67,H37,E37,e37_23,n37_8]
theorem k37 (g:List Atom)(hgl:g.length<100000)(ms:List Int)(hms:ms.length<100000)(fr:Fr)(st:St):callStep gS (EvF gS) 37 [.slice (encAtoms g),.slice (intVs ms)] fr st=some (.ok (.val (.slice (intVs (wayA g ms)))) fr st) :=
 call_pure rfl fi242_eq rfl (fun st=>c37 g hgl ms hms st) (by simp [V.flat])
def fi38:FI:={body:=codeOf Try.f38,ntmps:=34,results:=[.tmp 4],pers:=[0,1,4,5,6],locals:=[],pure:=true,marks:=[1000000]}
theorem H38:fi38.marks=[1000000]∧fi38.locals=[]∧fi38.results=[.tmp 4]:=⟨rfl,rfl,rfl⟩
theorem fi243_eq:gS.fn 38=some fi38:=by kernel_rfl
theorem st38 (a0 a1:V):startFr fi38 [a0,a1]={ps:=[(0,.val a0),(1,.val a1),(4,.any),(5,.any),(6,.any)],ts:=[],lc:=[]}:=rfl
def b38:Code:=mini (codeOf Try.f38)
def c38_12:Code:=.cond (.tmp 10) .skip (.exit 0)
def c38_10:Code:=.seq (codeN b38 267) c38_12
def c38_20:Code:=codeN b38 2635
def c38_19:Code:=.cond (.tmp 28) c38_20 .skip
def c38_17:Code:=.seq (codeN b38 1099) c38_19
def c38_22:Code:=codeN b38 459
def c38_15:Code:=.seq (.block 1 c38_17) c38_22
def c38_9:Code:=.seq c38_10 c38_15
def c38_8:Code:=.loop c38_9
def c38_7:Code:=.block 0 c38_8
def c38_5:Code:=.seq (codeN b38 19) c38_7
def c38_23:Code:=.seq (codeN b38 23) .ret
theorem e38_23:evK gS fi38 c38_23 fr st k=opsR gS fi38 [mv 33 5 22,
 asn 4 33 22] fr st (.seq .ret k):=evK_rs 7 rfl (by kernel_rfl)
def c38_4:Code:=.seq c38_5 c38_23
def c38_2:Code:=.seq (codeN b38 5) c38_4
def c38_0:Code:=.seq (codeN b38 2) c38_2
theorem E38:evK gS fi38 c38_12 fr st k=condK gS fi38 (fr.op (.tmp 10)).bool? .skip (.exit 0) fr st k ∧
 (evK gS fi38 c38_10 fr st k=opsR gS fi38 [mv 7 6 3,
 mv 8 0 65,
 len1 9 8 65 3,
 bop 10 .lss 3 7 9 3 4] fr st (.seq c38_12 k)) ∧
 (evK gS fi38 c38_20 fr st k=opsR gS fi38 [mv 29 5 22,
 mv 30 6 3,
 qS 31 22 30 22,
 qE 32 29 31 22 22,
 asn 5 32 22] fr st k) ∧
 evK gS fi38 c38_19 fr st k=condK gS fi38 (fr.op (.tmp 28)).bool? c38_20 .skip fr st k ∧
 (evK gS fi38 c38_17 fr st k=opsR gS fi38 [mv 13 1 22,
 mv 14 0 65,
 mv 15 6 3,
 ixa 16 65 14 15 0,
 qF 17 67 16 0 0,
 ld 18 3 17 3,
 cal 19 58 [(.tmp 13),(.tmp 18)] [22,3] 4,
 mv 20 19 4,
 qm 21 1 22 7 true,
 qm 22 0 65 7 true,
 qm 23 6 3 7 true,
 qi 24 65 22 23 0 7 true,
 qf 25 67 24 1 0 7 true,
 ql 26 3 25 3 7 true,
 mk (some 27) (.call {callee:=(.value (.func 58)),args:=#[(.tmp 21),(.tmp 26)],argTypes:=#[22,3]}) 4 (some (7,true)),
 qP 28 20 27 false 4] fr st (.seq c38_19 k)) ∧
 (evK gS fi38 c38_22 fr st k=opsR gS fi38 [mv 11 6 3,
 qB 12 .add 3 11 1 3 3,
 asn 6 12 3] fr st k) ∧
 evK gS fi38 c38_15 fr st k=evK gS fi38 c38_17 fr st (.blk 1 (.seq c38_22 k)) ∧
 evK gS fi38 c38_9 fr st k=evK gS fi38 c38_10 fr st (.seq c38_15 k) ∧
 evK gS fi38 c38_7 fr st k=evK gS fi38 c38_8 fr st (.blk 0 k) ∧
 evK gS fi38 c38_5 fr st k=opsR gS fi38 [qI 6 0 3] fr st (.seq c38_7 k) ∧
 evK gS fi38 c38_4 fr st k=evK gS fi38 c38_5 fr st (.seq c38_23 k) ∧
 evK gS fi38 c38_2 fr st k=opsR gS fi38 [qN 5 22] fr st (.seq c38_4 k) ∧
 evK gS fi38 c38_0 fr st k=opsR gS fi38 [qN 4 22] fr st (.seq c38_2 k):=⟨rfl,evK_rs 3 rfl (by kernel_rfl),evK_r 6 (by kernel_rfl),rfl,evK_rs 5 rfl (by kernel_rfl),evK_r 4 (by kernel_rfl),rfl,rfl,rfl,evK_rs 2 rfl (by kernel_rfl),rfl,evK_rs 1 rfl (by kernel_rfl),evK_rs 0 rfl (by kernel_rfl)⟩
theorem m38:mini fi38.body=c38_0:=by kernel_rfl
theorem n38_8 (fr:Fr)(st:St)(k:Kt):nextK gS fi38 (.loop c38_9 k) .normal fr st=evK gS fi38 c38_8 fr st k:=rfl
theorem LW243x (g:List Atom)(hgl:g.length<100000)(ms:List Int)(hms:ms.length<100000)(S:St)(R:Out × St)  (fin:List Int)
  (H:∀  (T:List (Nat × E)) (X:List (Nat × List V)),evK gS fi38 c38_23 {ps:=[(0,.val (.slice (encAtoms g))),(1,.val (.slice (intVs ms))),(4,.own 0 []),(5,.own (kof 1 fin) (intVs fin)),(6,.val (.int .i64 g.length))],ts:=T,lc:=X} S .nil=some R) :
  ∀ (m q:Nat) (out:List Int)  (T:List (Nat × E)) (X:List (Nat × List V)) ,q≤g.length→g.length - q=m→fin=wayG (fun z=>hasI ms z.a && hasI ms z.b) q (g.drop q) out→out.length≤q →
  evK gS fi38 c38_8 {ps:=[(0,.val (.slice (encAtoms g))),(1,.val (.slice (intVs ms))),(4,.own 0 []),(5,.own (kof 1 out) (intVs out)),(6,.val (.int .i64 (q:Nat)))],ts:=T,lc:=X} S (.blk 0 (.seq c38_23 .nil))=some R:=by
 intro m
 induction m with
 | zero =>
  intro q out  T X  hq hm2 hf hol
  obtain rfl:q=g.length:=by omega
  rw [List.drop_length] at hf
  have hf2:fin=out:=hf
  subst hf2
  refine evK_loop c38_9 _ _ _ _ rfl ?_
  rcases kof_or 1 fin with ⟨hk,rfl⟩ | hk
  ·rw [hk,show intVs []=[] from rfl] at H ⊢
   simp (config:={implicitDefEqProofs:=false}) [-zia,-St.obj,-St.set,-zil,-zit,-znl,-znt,ty3,ty4,ty22,ty65,ty67,H38,E38,n38_8]
   exact H  _ _
  ·rw [hk] at H ⊢
   simp (config:={implicitDefEqProofs:=false}) [-zia,-St.obj,-St.set,-zil,-zit,-znl,-znt,ty3,ty4,ty22,ty65,ty67,H38,E38,n38_8]
   exact H  _ _
 | succ m ih =>
  intro q out  T X  hq hm2 hf hol
  obtain ⟨x,hx⟩  := qgx (l:=g) (i:=q) (by omega)
  have hlt:(q:Int)<(g.length:Int):=by omega
  obtain ⟨hlt2,hxe⟩:=List.getElem?_eq_some_iff.1 hx
  have hw  := qws q (by omega)
  rw [drop_get hx,show wayG (fun z=>hasI ms z.a && hasI ms z.b) q (x :: g.drop (q+1)) out=wayG (fun z=>hasI ms z.a && hasI ms z.b) (q+1) (g.drop (q+1)) (if (hasI ms x.a && hasI ms x.b)=true then out ++ [(q:Int)] else out) from rfl] at hf
  have ka:=fun fr st=>k58 ms x.a (by omega) fr st
  have kb:=fun fr st=>k58 ms x.b (by omega) fr st
  have hs1:=sizes_ints out
  have hs2:=ints_snoc out (q:Int)
  have b1:(out.length+1)*8≤140737488355328:=by omega
  have b2:out.length+1≤140737488355328:=by omega
  generalize hasI ms x.a=t1 at *
  generalize hasI ms x.b=t2 at *
  refine evK_loop c38_9 _ _ _ _ rfl ?_
  by_cases ht:(t1 && t2)=true
  ·rw [if_pos ht] at hf
   have IH:=fun T X=>ih (q+1) (out ++ [(q:Int)]) T X (by omega) (by omega) hf (by simp;omega)
   rw [kof_snoc] at IH
   rcases kof_or 1 out with ⟨hk,rfl⟩ | hk
   ·have en1:intVs ([] ++ [(q:Int)])=[.int .i64 (q:Int)]:=rfl
    rw [en1] at IH
    rw [hk,show intVs []=[] from rfl]
    cases t1 <;> cases t2 <;> first | (exact absurd ht (by decide)) | simp (config:={implicitDefEqProofs:=false}) [-zia,hx,hxe,hlt,hlt2,hw,ka,kb,IH,-zil,-zit,-znl,-znt,ty3,ty4,ty22,ty65,ty67,H38,E38,e38_23,n38_8]
   ·rw [hk]
    cases t1 <;> cases t2 <;> first | (exact absurd ht (by decide)) | simp (config:={implicitDefEqProofs:=false}) [-zia,-zaa,hx,hxe,hlt,hlt2,hw,ka,kb,hs1,hs2,b1,b2,IH,-zil,-zit,-znl,-znt,ty3,ty4,ty22,ty65,ty67,H38,E38,e38_23,n38_8]
  ·rw [if_neg ht] at hf
   have IH:=fun T X=>ih (q+1) out T X (by omega) (by omega) hf (by omega)
   rcases kof_or 1 out with ⟨hk,rfl⟩ | hk
   ·rw [hk,show intVs []=[] from rfl] at IH ⊢
    cases t1 <;> cases t2 <;> first | (exact absurd rfl ht) | simp (config:={implicitDefEqProofs:=false}) [-zia,hx,hxe,hlt,hlt2,hw,ka,kb,IH,-zil,-zit,-znl,-znt,ty3,ty4,ty22,ty65,ty67,H38,E38,e38_23,n38_8]
   ·rw [hk] at IH ⊢
    cases t1 <;> cases t2 <;> first | (exact absurd rfl ht) | simp (config:={implicitDefEqProofs:=false}) [-zia,hx,hxe,hlt,hlt2,hw,ka,kb,IH,-zil,-zit,-znl,-znt,ty3,ty4,ty22,ty65,ty67,H38,E38,e38_23,n38_8]
theorem c38 (g:List Atom)(hgl:g.length<100000)(ms:List Int)(hms:ms.length<100000)(S:St):EvF gS 38 [.slice (encAtoms g),.slice (intVs ms)] S=some (.ret (.slice (intVs (ownA g ms))) none,S):=by
 refine EvF_start fi243_eq (fun x h=>by cases h) m38 ?_
 rw [st38]
 have hz:=fun xs st=>frz_slice (xs:=intVs xs) (flats_ints xs) st
 have hz0:=hz [] S
 rw [show intVs []=[] from rfl] at hz0
 show _=some (Out.ret (V.slice (intVs (wayG (fun z=>hasI ms z.a && hasI ms z.b) 0 g []))) none,S)
 generalize hK:wayG (fun z=>hasI ms z.a && hasI ms z.b) 0 g []=K
 generalize hR:(Out.ret (V.slice (intVs K)) none,S)=R
 have H23:∀  (T:List (Nat × E)) (X:List (Nat × List V)),evK gS fi38 c38_23 {ps:=[(0,.val (.slice (encAtoms g))),(1,.val (.slice (intVs ms))),(4,.own 0 []),(5,.own (kof 1 K) (intVs K)),(6,.val (.int .i64 g.length))],ts:=T,lc:=X} S .nil=some R:=by
  intro  T X
  rcases kof_or 1 K with ⟨hk,rfl⟩ | hk
  ·rw [hk,show intVs []=[] from rfl]
   simp (config:={implicitDefEqProofs:=false}) [-zia,hz0,← hR,show intVs []=[] from rfl,-zil,-zit,-znl,-znt,ty3,ty4,ty22,ty65,ty67,H38,E38,e38_23,n38_8]
  ·rw [hk]
   simp (config:={implicitDefEqProofs:=false}) [-zia,hz,← hR,-zil,-zit,-znl,-znt,ty3,ty4,ty22,ty65,ty67,H38,E38,e38_23,n38_8]
 have LL:=fun  T X  => LW243x g hgl ms hms S R K H23 g.length 0 []  T X  (Nat.zero_le _) rfl (by rw [List.drop_zero];exact hK.symm) (Nat.le_refl _)
 rw [show ((0:Nat):Int)=0 from rfl] at LL
 rw [show kof 1 ([]:List Int)=0 from rfl,show intVs []=[] from rfl] at LL
 simp [LL,-zil,-zit,-znl,-znt,ty3,ty4,ty22,ty65,ty67,H38,E38,e38_23,n38_8]
theorem k38 (g:List Atom)(hgl:g.length<100000)(ms:List Int)(hms:ms.length<100000)(fr:Fr)(st:St):callStep gS (EvF gS) 38 [.slice (encAtoms g),.slice (intVs ms)] fr st=some (.ok (.val (.slice (intVs (ownA g ms)))) fr st) :=
 call_pure rfl fi243_eq rfl (fun st=>c38 g hgl ms hms st) (by simp [V.flat])
def fi36:FI:={body:=codeOf Try.f36,ntmps:=26,results:=[.tmp 4],pers:=[0,1,4,5],locals:=[],pure:=true,marks:=[]}
theorem H36:fi36.marks=[]∧fi36.locals=[]∧fi36.results=[.tmp 4]:=⟨rfl,rfl,rfl⟩
theorem fi223_eq:gS.fn 36=some fi36:=by kernel_rfl
theorem st36 (a0 a1:V):startFr fi36 [a0,a1]={ps:=[(0,.val a0),(1,.val a1),(4,.any),(5,.any)],ts:=[],lc:=[]}:=rfl
def b36:Code:=mini (codeOf Try.f36)
def c36_6:Code:=.seq (codeN b36 37) .ret
def c36_5:Code:=.cond (.tmp 10) c36_6 .skip
def c36_3:Code:=.seq (codeN b36 9) c36_5
def c36_18:Code:=.cond (.tmp 14) .skip (.exit 0)
def c36_16:Code:=.seq (codeN b36 267) c36_18
def r36_24:Array Oper:=regOps (codeN (codeOf Try.f36) 1099)
def c36_24:Code:=.region 6 r36_24 true
def q36_24:List (Oper × Fl):=[(mv 17 0 22,qz0),
 (mv 18 5 3,qz0),
 (ixa 19 22 17 18 0,qz0),
 (ld 20 3 19 3,qz0),
 (mv 21 1 22,qz0),
 (mv 22 5 3,qz3),
 (ixa 23 22 21 22 0,qz3),
 (ld 24 3 23 3,qz3),
 (bop 25 .neq 3 20 24 3 4,qz1)]
def c36_26:Code:=.seq (codeN b36 4683) .ret
def c36_25:Code:=.cond (.tmp 25) c36_26 .skip
def c36_23:Code:=.seq c36_24 c36_25
def c36_30:Code:=codeN b36 459
def c36_21:Code:=.seq (.block 1 c36_23) c36_30
def c36_15:Code:=.seq c36_16 c36_21
def c36_14:Code:=.loop c36_15
def c36_13:Code:=.block 0 c36_14
def c36_11:Code:=.seq (codeN b36 19) c36_13
def c36_31:Code:=.seq (codeN b36 23) .ret
theorem e36_31:evK gS fi36 c36_31 fr st k=opsR gS fi36 [qA 4 true 4] fr st (.seq .ret k):=evK_rs 8 rfl (by kernel_rfl)
def c36_10:Code:=.seq c36_11 c36_31
def c36_2:Code:=.seq c36_3 c36_10
def c36_0:Code:=.seq (codeN b36 2) c36_2
theorem E36:evK gS fi36 c36_6 fr st k=opsR gS fi36 [qA 4 false 4] fr st (.seq .ret k) ∧
 evK gS fi36 c36_5 fr st k=condK gS fi36 (fr.op (.tmp 10)).bool? c36_6 .skip fr st k ∧
 (evK gS fi36 c36_3 fr st k=opsR gS fi36 [mv 6 0 22,
 len1 7 6 22 3,
 mv 8 1 22,
 len1 9 8 22 3,
 bop 10 .neq 3 7 9 3 4] fr st (.seq c36_5 k)) ∧
 evK gS fi36 c36_18 fr st k=condK gS fi36 (fr.op (.tmp 14)).bool? .skip (.exit 0) fr st k ∧
 (evK gS fi36 c36_16 fr st k=opsR gS fi36 [mv 11 5 3,
 mv 12 0 22,
 len1 13 12 22 3,
 bop 14 .lss 3 11 13 3 4] fr st (.seq c36_18 k)) ∧
 evK gS fi36 c36_24 fr st k=drwR gS fi36 r36_24 q36_24 fr st k ∧
 evK gS fi36 c36_26 fr st k=opsR gS fi36 [qA 4 false 4] fr st (.seq .ret k) ∧
 evK gS fi36 c36_25 fr st k=condK gS fi36 (fr.op (.tmp 25)).bool? c36_26 .skip fr st k ∧
 evK gS fi36 c36_23 fr st k=evK gS fi36 c36_24 fr st (.seq c36_25 k) ∧
 (evK gS fi36 c36_30 fr st k=opsR gS fi36 [mv 15 5 3,
 qB 16 .add 3 15 1 3 3,
 asn 5 16 3] fr st k) ∧
 evK gS fi36 c36_21 fr st k=evK gS fi36 c36_23 fr st (.blk 1 (.seq c36_30 k)) ∧
 evK gS fi36 c36_15 fr st k=evK gS fi36 c36_16 fr st (.seq c36_21 k) ∧
 evK gS fi36 c36_13 fr st k=evK gS fi36 c36_14 fr st (.blk 0 k) ∧
 evK gS fi36 c36_11 fr st k=opsR gS fi36 [qI 5 0 3] fr st (.seq c36_13 k) ∧
 evK gS fi36 c36_10 fr st k=evK gS fi36 c36_11 fr st (.seq c36_31 k) ∧
 evK gS fi36 c36_2 fr st k=evK gS fi36 c36_3 fr st (.seq c36_10 k) ∧
 evK gS fi36 c36_0 fr st k=opsR gS fi36 [qA 4 false 4] fr st (.seq c36_2 k):=⟨evK_rs 2 rfl (by kernel_rfl),rfl,evK_rs 1 rfl (by kernel_rfl),rfl,evK_rs 4 rfl (by kernel_rfl),evK_dr 6 rfl (by kernel_rfl) (by kernel_rfl),evK_rs 7 rfl (by kernel_rfl),rfl,rfl,evK_r 5 (by kernel_rfl),rfl,rfl,rfl,evK_rs 3 rfl (by kernel_rfl),rfl,rfl,evK_rs 0 rfl (by kernel_rfl)⟩
theorem m36:mini fi36.body=c36_0:=by kernel_rfl
theorem n36_14 (fr:Fr)(st:St)(k:Kt):nextK gS fi36 (.loop c36_15 k) .normal fr st=evK gS fi36 c36_14 fr st k:=rfl
theorem LS223 (l:List Int)(hl1:l.length<100000)(S:St)(R:Out × St)
  (H:∀  (T:List (Nat × E)) (X:List (Nat × List V)),evK gS fi36 c36_31 {ps:=[(0,.val (.slice (intVs l))),(1,.val (.slice (intVs l))),(4,.val (.bool false)),(5,.val (.int .i64 l.length))],ts:=T,lc:=X} S .nil=some R) :
  ∀ (m q:Nat)  (T:List (Nat × E)) (X:List (Nat × List V)) ,q≤l.length→l.length - q=m →
  evK gS fi36 c36_14 {ps:=[(0,.val (.slice (intVs l))),(1,.val (.slice (intVs l))),(4,.val (.bool false)),(5,.val (.int .i64 (q:Nat)))],ts:=T,lc:=X} S (.blk 0 (.seq c36_31 .nil))=some R:=by
 intro m
 induction m with
 | zero =>
  intro q  T X  hq hm2
  obtain rfl:q=l.length:=by omega
  refine evK_loop c36_15 _ _ _ _ rfl ?_
  simp (config:={implicitDefEqProofs:=false}) [-zia,-St.obj,-St.set,-zil,-zit,-znl,-znt,ty3,ty4,ty22,H36,E36,q36_24,n36_14]
  exact H  _ _
 | succ m ih =>
  intro q  T X  hq hm2
  obtain ⟨x,hx⟩  := qgx (l:=l) (i:=q) (by omega)
  have hlt:(q:Int)<(l.length:Int):=by omega
  obtain ⟨hlt2,hxe⟩:=List.getElem?_eq_some_iff.1 hx
  have hw  := qws q (by omega)
  have IH:=fun T X=>ih (q+1) T X (by omega) (by omega)
  refine evK_loop c36_15 _ _ _ _ rfl ?_
  simp (config:={implicitDefEqProofs:=false}) [-zia,hx,hxe,hlt,hlt2,hw,IH,-zil,-zit,-znl,-znt,ty3,ty4,ty22,H36,E36,q36_24,e36_31,n36_14]
theorem c36 (l:List Int)(hl1:l.length<100000)(S:St):EvF gS 36 [.slice (intVs l),.slice (intVs l)] S=some (.ret (.bool true) none,S):=by
 refine EvF_start fi223_eq (fun x h=>by cases h) m36 ?_
 rw [st36]
 generalize hR:(Out.ret (V.bool true) none,S)=R
 have H31:∀  (T:List (Nat × E)) (X:List (Nat × List V)),evK gS fi36 c36_31 {ps:=[(0,.val (.slice (intVs l))),(1,.val (.slice (intVs l))),(4,.val (.bool false)),(5,.val (.int .i64 l.length))],ts:=T,lc:=X} S .nil=some R:=by
  intro  T X
  simp (config:={implicitDefEqProofs:=false}) [-zia,← hR,-zil,-zit,-znl,-znt,ty3,ty4,ty22,H36,E36,q36_24,e36_31,n36_14]
 have LL:=fun  T X  => LS223 l hl1 S R H31 l.length 0   T X  (Nat.zero_le _) rfl
 rw [show ((0:Nat):Int)=0 from rfl] at LL
 simp [LL,-zil,-zit,-znl,-znt,ty3,ty4,ty22,H36,E36,q36_24,e36_31,n36_14]
theorem k36 (l:List Int)(hl1:l.length<100000)(fr:Fr)(st:St):callStep gS (EvF gS) 36 [.slice (intVs l),.slice (intVs l)] fr st=some (.ok (.val (.bool true)) fr st) :=
 call_pure rfl fi223_eq rfl (fun st=>c36 l hl1 st) (by simp [V.flat])
theorem x36:gS.ext 36=none:=rfl
theorem p36:fi36.pure=true:=rfl
end
end Go.Proofs.Ytdoobejjedpcgaa
namespace Go.Proofs.Ytdoobejjedpcgaa
open Go Go.Ab
noncomputable section
variable (fr:Fr)(st:St)(k:Kt)
def fi35:FI:={body:=codeOf Try.f35,ntmps:=97,results:=[.tmp 4],pers:=[0,1,4,5,6,7,8,9,10,11,12,13],locals:=[],pure:=true,marks:=[1000000]}
theorem H35:fi35.marks=[1000000]∧fi35.locals=[]∧fi35.results=[.tmp 4]:=⟨rfl,rfl,rfl⟩
theorem fi241_eq:gS.fn 35=some fi35:=by kernel_rfl
theorem st35 (a0 a1:V):startFr fi35 [a0,a1]={ps:=[(0,.val a0),(1,.val a1),(4,.any),(5,.any),(6,.any),(7,.any),(8,.any),(9,.any),(10,.any),(11,.any),(12,.any),(13,.any)],ts:=[],lc:=[]}:=rfl
def b35:Code:=mini (codeOf Try.f35)
def c35_6:Code:=.seq (codeN b35 37) .ret
def c35_5:Code:=.cond (.tmp 21) c35_6 .skip
def c35_3:Code:=.seq (codeN b35 9) c35_5
def c35_18:Code:=.cond (.tmp 25) .skip (.exit 0)
def c35_16:Code:=.seq (codeN b35 267) c35_18
def c35_26:Code:=.seq (codeN b35 4683) .ret
def c35_25:Code:=.cond (.tmp 35) c35_26 .skip
def c35_23:Code:=.seq (codeN b35 1099) c35_25
def c35_30:Code:=codeN b35 459
def c35_21:Code:=.seq (.block 1 c35_23) c35_30
def c35_15:Code:=.seq c35_16 c35_21
def c35_14:Code:=.loop c35_15
def c35_13:Code:=.block 0 c35_14
def c35_11:Code:=.seq (codeN b35 19) c35_13
def c35_43:Code:=.cond (.tmp 41) .skip (.exit 2)
def c35_41:Code:=.seq (codeN b35 2143) c35_43
def c35_55:Code:=.cond (.tmp 47) .skip (.exit 4)
def c35_53:Code:=.seq (codeN b35 135775) c35_55
def c35_67:Code:=.cond (.tmp 54) .skip (.exit 6)
def c35_65:Code:=.seq (codeN b35 8688223) c35_67
def c35_84:Code:=.cond (.tmp 64) .skip (.exit 8)
def c35_82:Code:=.seq (codeN b35 4481913439) c35_84
def c35_89:Code:=codeN b35 9850622559
def c35_90:Code:=codeN b35 7703138911
def c35_87:Code:=.seq (.block 9 c35_89) c35_90
def c35_81:Code:=.seq c35_82 c35_87
def c35_80:Code:=.loop c35_81
def c35_79:Code:=.block 8 c35_80
def c35_77:Code:=.seq (codeN b35 321163871) c35_79
def c35_94:Code:=codeN b35 790925919
def c35_93:Code:=.cond (.tmp 88) c35_94 .skip
def c35_91:Code:=.seq (codeN b35 388272735) c35_93
theorem e35_91:evK gS fi35 c35_91 fr st k=opsR gS fi35 [mv 79 12 22,
 len1 80 79 22 3,
 qB 81 .gtr 3 80 0 3 4,
 mv 82 81 4,
 qm 83 0 22 3 true,
 qm 84 12 22 3 true,
 mk (some 85) (.call {callee:=(.value (.func 67)),args:=#[(.tmp 83),(.tmp 84)],argTypes:=#[22,22]}) 3 (some (3,true)),
 qm 86 8 3 3 true,
 qb 87 .eql 3 85 86 3 4 3 true,
 qP 88 82 87 false 4] fr st (.seq c35_93 k):=evK_rs 25 rfl (by kernel_rfl)
def c35_76:Code:=.seq c35_77 c35_91
def c35_74:Code:=.seq (codeN b35 86282847) c35_76
def c35_72:Code:=.seq (codeN b35 35951199) c35_74
def c35_96:Code:=codeN b35 14979679
def c35_70:Code:=.seq (.block 7 c35_72) c35_96
def c35_64:Code:=.seq c35_65 c35_70
def c35_63:Code:=.loop c35_64
def c35_62:Code:=.block 6 c35_63
def c35_60:Code:=.seq (codeN b35 561759) c35_62
def c35_97:Code:=codeN b35 234079
theorem e35_97:evK gS fi35 c35_97 fr st k=opsR gS fi35 [mv 48 9 3,
 qB 49 .add 3 48 1 3 3,
 asn 9 49 3] fr st k:=evK_r 15 (by kernel_rfl)
def c35_58:Code:=.seq (.block 5 c35_60) c35_97
def c35_52:Code:=.seq c35_53 c35_58
def c35_51:Code:=.loop c35_52
def c35_50:Code:=.block 4 c35_51
def c35_48:Code:=.seq (codeN b35 8799) c35_50
def c35_98:Code:=codeN b35 3679
theorem e35_98:evK gS fi35 c35_98 fr st k=opsR gS fi35 [mv 42 8 3,
 qB 43 .add 3 42 1 3 3,
 asn 8 43 3] fr st k:=evK_r 12 (by kernel_rfl)
def c35_46:Code:=.seq (.block 3 c35_48) c35_98
def c35_40:Code:=.seq c35_41 c35_46
def c35_39:Code:=.loop c35_40
def c35_38:Code:=.block 2 c35_39
def c35_36:Code:=.seq (codeN b35 159) c35_38
def c35_99:Code:=.seq (codeN b35 191) .ret
theorem e35_99:evK gS fi35 c35_99 fr st k=opsR gS fi35 [mv 96 7 65,
 asn 4 96 65] fr st (.seq .ret k):=evK_rs 27 rfl (by kernel_rfl)
def c35_35:Code:=.seq c35_36 c35_99
def c35_33:Code:=.seq (codeN b35 47) c35_35
def c35_31:Code:=.seq (codeN b35 23) c35_33
theorem e35_31:evK gS fi35 c35_31 fr st k=opsR gS fi35 [mv 36 1 26,
 cal 37 13 [(.tmp 36)] [26] 34,
 asn 6 37 34] fr st (.seq c35_33 k):=evK_rs 8 rfl (by kernel_rfl)
def c35_10:Code:=.seq c35_11 c35_31
def c35_2:Code:=.seq c35_3 c35_10
def c35_0:Code:=.seq (codeN b35 2) c35_2
theorem E35:evK gS fi35 c35_6 fr st k=opsR gS fi35 [qN 4 65] fr st (.seq .ret k) ∧
 evK gS fi35 c35_5 fr st k=condK gS fi35 (fr.op (.tmp 21)).bool? c35_6 .skip fr st k ∧
 (evK gS fi35 c35_3 fr st k=opsR gS fi35 [mv 14 0 22,
 cal 15 64 [(.tmp 14)] [22] 4,
 op1 16 (.unOp .not 4 (.tmp 15)) 4,
 mv 17 16 4,
 qm 18 1 26 3 false,
 mk (some 19) (.call {callee:=(.value (.func 65)),args:=#[(.tmp 18)],argTypes:=#[26]}) 4 (some (3,false)),
 mk (some 20) (.unOp .not 4 (.tmp 19)) 4 (some (3,false)),
 qQ 21 17 true 20 4] fr st (.seq c35_5 k)) ∧
 evK gS fi35 c35_18 fr st k=condK gS fi35 (fr.op (.tmp 25)).bool? .skip (.exit 0) fr st k ∧
 (evK gS fi35 c35_16 fr st k=opsR gS fi35 [mv 22 5 3,
 mv 23 1 26,
 len1 24 23 26 3,
 bop 25 .lss 3 22 24 3 4] fr st (.seq c35_18 k)) ∧
 evK gS fi35 c35_26 fr st k=opsR gS fi35 [qN 4 65] fr st (.seq .ret k) ∧
 evK gS fi35 c35_25 fr st k=condK gS fi35 (fr.op (.tmp 35)).bool? c35_26 .skip fr st k ∧
 (evK gS fi35 c35_23 fr st k=opsR gS fi35 [mv 28 1 26,
 mv 29 5 3,
 ixa 30 26 28 29 0,
 qF 31 31 30 1 0,
 ld 32 3 31 3,
 mv 33 0 22,
 len1 34 33 22 3,
 bop 35 .gtr 3 32 34 3 4] fr st (.seq c35_25 k)) ∧
 (evK gS fi35 c35_30 fr st k=opsR gS fi35 [mv 26 5 3,
 qB 27 .add 3 26 1 3 3,
 asn 5 27 3] fr st k) ∧
 evK gS fi35 c35_21 fr st k=evK gS fi35 c35_23 fr st (.blk 1 (.seq c35_30 k)) ∧
 evK gS fi35 c35_15 fr st k=evK gS fi35 c35_16 fr st (.seq c35_21 k) ∧
 evK gS fi35 c35_13 fr st k=evK gS fi35 c35_14 fr st (.blk 0 k) ∧
 evK gS fi35 c35_11 fr st k=opsR gS fi35 [qI 5 0 3] fr st (.seq c35_13 k) ∧
 evK gS fi35 c35_43 fr st k=condK gS fi35 (fr.op (.tmp 41)).bool? .skip (.exit 2) fr st k ∧
 (evK gS fi35 c35_41 fr st k=opsR gS fi35 [mv 38 8 3,
 mv 39 0 22,
 len1 40 39 22 3,
 bop 41 .leq 3 38 40 3 4] fr st (.seq c35_43 k)) ∧
 evK gS fi35 c35_55 fr st k=condK gS fi35 (fr.op (.tmp 47)).bool? .skip (.exit 4) fr st k ∧
 (evK gS fi35 c35_53 fr st k=opsR gS fi35 [mv 44 9 3,
 mv 45 6 34,
 len1 46 45 34 3,
 bop 47 .lss 3 44 46 3 4] fr st (.seq c35_55 k)) ∧
 evK gS fi35 c35_67 fr st k=condK gS fi35 (fr.op (.tmp 54)).bool? .skip (.exit 6) fr st k ∧
 (evK gS fi35 c35_65 fr st k=opsR gS fi35 [mv 51 10 3,
 mv 52 6 34,
 len1 53 52 34 3,
 bop 54 .lss 3 51 53 3 4] fr st (.seq c35_67 k)) ∧
 evK gS fi35 c35_84 fr st k=condK gS fi35 (fr.op (.tmp 64)).bool? .skip (.exit 8) fr st k ∧
 (evK gS fi35 c35_82 fr st k=opsR gS fi35 [mv 61 13 3,
 mv 62 11 22,
 len1 63 62 22 3,
 bop 64 .lss 3 61 63 3 4] fr st (.seq c35_84 k)) ∧
 (evK gS fi35 c35_89 fr st k=opsR gS fi35 [mv 67 12 22,
 mv 68 1 26,
 mv 69 11 22,
 mv 70 13 3,
 ixa 71 22 69 70 0,
 ld 72 3 71 3,
 cal 73 66 [(.tmp 68),(.tmp 72)] [26,3] 26,
 op1 74 (.indexAddr 26 (.tmp 73) (.const (.int .i64 0))) 0,
 qF 75 31 74 1 0,
 ld 76 3 75 3,
 qS 77 22 76 22,
 qE 78 67 77 22 22,
 asn 12 78 22] fr st k) ∧
 (evK gS fi35 c35_90 fr st k=opsR gS fi35 [mv 65 13 3,
 qB 66 .add 3 65 1 3 3,
 asn 13 66 3] fr st k) ∧
 evK gS fi35 c35_87 fr st k=evK gS fi35 c35_89 fr st (.blk 9 (.seq c35_90 k)) ∧
 evK gS fi35 c35_81 fr st k=evK gS fi35 c35_82 fr st (.seq c35_87 k) ∧
 evK gS fi35 c35_79 fr st k=evK gS fi35 c35_80 fr st (.blk 8 k) ∧
 evK gS fi35 c35_77 fr st k=opsR gS fi35 [qI 13 0 3] fr st (.seq c35_79 k) ∧
 (evK gS fi35 c35_94 fr st k=opsR gS fi35 [mv 89 7 65,
 mv 90 9 3,
 mv 91 10 3,
 mv 92 8 3,
 op1 93 (.build 67 #[(0,(.tmp 90)),(1,(.tmp 91)),(2,(.tmp 92))]) 67,
 qS 94 65 93 65,
 qE 95 89 94 65 65,
 asn 7 95 65] fr st k) ∧
 evK gS fi35 c35_93 fr st k=condK gS fi35 (fr.op (.tmp 88)).bool? c35_94 .skip fr st k ∧
 evK gS fi35 c35_76 fr st k=evK gS fi35 c35_77 fr st (.seq c35_91 k) ∧
 evK gS fi35 c35_74 fr st k=opsR gS fi35 [qN 12 22] fr st (.seq c35_76 k) ∧
 (evK gS fi35 c35_72 fr st k=opsR gS fi35 [mv 57 6 34,
 mv 58 9 3,
 mv 59 10 3,
 cal 60 23 [(.tmp 57),(.tmp 58),(.tmp 59)] [34,3,3] 22,
 asn 11 60 22] fr st (.seq c35_74 k)) ∧
 (evK gS fi35 c35_96 fr st k=opsR gS fi35 [mv 55 10 3,
 qB 56 .add 3 55 1 3 3,
 asn 10 56 3] fr st k) ∧
 evK gS fi35 c35_70 fr st k=evK gS fi35 c35_72 fr st (.blk 7 (.seq c35_96 k)) ∧
 evK gS fi35 c35_64 fr st k=evK gS fi35 c35_65 fr st (.seq c35_70 k) ∧
 evK gS fi35 c35_62 fr st k=evK gS fi35 c35_63 fr st (.blk 6 k) ∧
 (evK gS fi35 c35_60 fr st k=opsR gS fi35 [mv 50 9 3,
 asn 10 50 3] fr st (.seq c35_62 k)) ∧
 evK gS fi35 c35_58 fr st k=evK gS fi35 c35_60 fr st (.blk 5 (.seq c35_97 k)) ∧
 evK gS fi35 c35_52 fr st k=evK gS fi35 c35_53 fr st (.seq c35_58 k) ∧
 evK gS fi35 c35_50 fr st k=evK gS fi35 c35_51 fr st (.blk 4 k) ∧
 evK gS fi35 c35_48 fr st k=opsR gS fi35 [qI 9 0 3] fr st (.seq c35_50 k) ∧
 evK gS fi35 c35_46 fr st k=evK gS fi35 c35_48 fr st (.blk 3 (.seq c35_98 k)) ∧
 evK gS fi35 c35_40 fr st k=evK gS fi35 c35_41 fr st (.seq c35_46 k) ∧
 evK gS fi35 c35_38 fr st k=evK gS fi35 c35_39 fr st (.blk 2 k) ∧
 evK gS fi35 c35_36 fr st k=opsR gS fi35 [qI 8 0 3] fr st (.seq c35_38 k) ∧
 evK gS fi35 c35_35 fr st k=evK gS fi35 c35_36 fr st (.seq c35_99 k) ∧
 evK gS fi35 c35_33 fr st k=opsR gS fi35 [qN 7 65] fr st (.seq c35_35 k) ∧
 evK gS fi35 c35_10 fr st k=evK gS fi35 c35_11 fr st (.seq c35_31 k) ∧
 evK gS fi35 c35_2 fr st k=evK gS fi35 c35_3 fr st (.seq c35_10 k) ∧
 evK gS fi35 c35_0 fr st k=opsR gS fi35 [qN 4 65] fr st (.seq c35_2 k):=⟨evK_rs 2 rfl (by kernel_rfl),rfl,evK_rs 1 rfl (by kernel_rfl),rfl,evK_rs 4 rfl (by kernel_rfl),evK_rs 7 rfl (by kernel_rfl),rfl,evK_rs 6 rfl (by kernel_rfl),evK_r 5 (by kernel_rfl),rfl,rfl,rfl,evK_rs 3 rfl (by kernel_rfl),rfl,evK_rs 11 rfl (by kernel_rfl),rfl,evK_rs 14 rfl (by kernel_rfl),rfl,evK_rs 17 rfl (by kernel_rfl),rfl,evK_rs 22 rfl (by kernel_rfl),evK_r 24 (by kernel_rfl),evK_r 23 (by kernel_rfl),rfl,rfl,rfl,evK_rs 21 rfl (by kernel_rfl),evK_r 26 (by kernel_rfl),rfl,rfl,evK_rs 20 rfl (by kernel_rfl),evK_rs 19 rfl (by kernel_rfl),evK_r 18 (by kernel_rfl),rfl,rfl,rfl,evK_rs 16 rfl (by kernel_rfl),rfl,rfl,rfl,evK_rs 13 rfl (by kernel_rfl),rfl,rfl,rfl,evK_rs 10 rfl (by kernel_rfl),rfl,evK_rs 9 rfl (by kernel_rfl),rfl,rfl,evK_rs 0 rfl (by kernel_rfl)⟩
theorem m35:mini fi35.body=c35_0:=by kernel_rfl
theorem n35_14 (fr:Fr)(st:St)(k:Kt):nextK gS fi35 (.loop c35_15 k) .normal fr st=evK gS fi35 c35_14 fr st k:=rfl
theorem n35_80 (fr:Fr)(st:St)(k:Kt):nextK gS fi35 (.loop c35_81 k) .normal fr st=evK gS fi35 c35_80 fr st k:=rfl
theorem n35_63 (fr:Fr)(st:St)(k:Kt):nextK gS fi35 (.loop c35_64 k) .normal fr st=evK gS fi35 c35_63 fr st k:=rfl
theorem n35_51 (fr:Fr)(st:St)(k:Kt):nextK gS fi35 (.loop c35_52 k) .normal fr st=evK gS fi35 c35_51 fr st k:=rfl
theorem n35_39 (fr:Fr)(st:St)(k:Kt):nextK gS fi35 (.loop c35_40 k) .normal fr st=evK gS fi35 c35_39 fr st k:=rfl
theorem LK4 (p:List Int)(hp:rightT p=true)(hp7:p.length≤7)(l:List Sub)(hl2:l.length≤100)(hh:List Int)(g:List Grp)(hg1:∀ x∈g,x.clients.length<1000)(hg2:g.length≤100)(hat:∀ (i k:Nat)(u v:Grp),g[i]?=some u→g[k]?=some v→∀ c∈bothI v.clients u.clients [],∃ y,(ofC l c)[0]?=some y∧y.broker=hh.getD c.toNat 0∧isT p y.broker=true)(S:St)(R:Out × St)(out:List Atom)(b i k:Nat)(bt:List Int)(hbl:bt.length<100000)(hB:∀ c∈bt,∃ y,(ofC l c)[0]?=some y∧y.broker=hh.getD c.toNat 0)(fin:List Int)
  (H:∀ (e5:E) (T:List (Nat × E)) (X:List (Nat × List V)),e5.Tame→evK gS fi35 c35_91 {ps:=[(0,.val (.slice (intVs p))),(1,.val (.slice (encSubs l))),(4,.own 0 []),(5,e5),(6,.val (.slice (encGrps g))),(7,.own (kof 3 out) (encAtoms out)),(8,.val (.int .i64 (b:Nat))),(9,.val (.int .i64 (i:Nat))),(10,.val (.int .i64 (k:Nat))),(11,.val (.slice (intVs bt))),(12,.own (kof 1 fin) (intVs fin)),(13,.val (.int .i64 bt.length))],ts:=T,lc:=X} S (.blk 7 (.seq c35_96 (.loop c35_64 (.blk 6 (.blk 5 (.seq c35_97 (.loop c35_52 (.blk 4 (.blk 3 (.seq c35_98 (.loop c35_40 (.blk 2 (.seq c35_99 .nil)))))))))))))=some R) :
  ∀ (m q:Nat) (hs:List Int) (e5:E) (T:List (Nat × E)) (X:List (Nat × List V)) (h5:e5.Tame),q≤bt.length→bt.length - q=m→fin=(hs ++ (bt.drop q).map fun c=>hh.getD c.toNat 0)→hs.length≤q →
  evK gS fi35 c35_80 {ps:=[(0,.val (.slice (intVs p))),(1,.val (.slice (encSubs l))),(4,.own 0 []),(5,e5),(6,.val (.slice (encGrps g))),(7,.own (kof 3 out) (encAtoms out)),(8,.val (.int .i64 (b:Nat))),(9,.val (.int .i64 (i:Nat))),(10,.val (.int .i64 (k:Nat))),(11,.val (.slice (intVs bt))),(12,.own (kof 1 hs) (intVs hs)),(13,.val (.int .i64 (q:Nat)))],ts:=T,lc:=X} S (.blk 8 (.seq c35_91 (.blk 7 (.seq c35_96 (.loop c35_64 (.blk 6 (.blk 5 (.seq c35_97 (.loop c35_52 (.blk 4 (.blk 3 (.seq c35_98 (.loop c35_40 (.blk 2 (.seq c35_99 .nil)))))))))))))))=some R:=by
 intro m
 induction m with
 | zero =>
  intro q hs e5 T X h5 hq hm2 hf hol
  obtain rfl:q=bt.length:=by omega
  rw [List.drop_length,List.map_nil,List.append_nil] at hf
  subst hf
  refine evK_loop c35_81 _ _ _ _ rfl ?_
  rcases kof_or 1 fin with ⟨hk,rfl⟩ | hk
  ·rw [hk,show intVs []=[] from rfl] at H ⊢
   simp (config:={implicitDefEqProofs:=false}) [-zia,-St.obj,-St.set,h5,-zil,-zit,-znl,-znt,ty3,ty4,ty22,ty26,ty31,ty34,ty65,ty67,H35,E35,e35_97,e35_98,e35_99,e35_31,n35_14,n35_80,n35_63,n35_51,n35_39]
   exact H _ _ _ h5
  ·rw [hk] at H ⊢
   simp (config:={implicitDefEqProofs:=false}) [-zia,-St.obj,-St.set,h5,-zil,-zit,-znl,-znt,ty3,ty4,ty22,ty26,ty31,ty34,ty65,ty67,H35,E35,e35_97,e35_98,e35_99,e35_31,n35_14,n35_80,n35_63,n35_51,n35_39]
   exact H _ _ _ h5
 | succ m ih =>
  intro q hs e5 T X h5 hq hm2 hf hol
  obtain ⟨x,hx⟩  := qgx (l:=bt) (i:=q) (by omega)
  have hlt:(q:Int)<(bt.length:Int):=by omega
  obtain ⟨hlt2,hxe⟩:=List.getElem?_eq_some_iff.1 hx
  have hw  := qws q (by omega)
  rw [drop_get hx,List.map_cons,List.append_cons] at hf
  obtain ⟨y,hy,hyb⟩:=hB x (zmg hx)
  rw [← hyb] at hf
  have kk:=fun fr st=>k66 l (by omega) x fr st
  obtain ⟨y1,y2⟩:=List.getElem?_eq_some_iff.1 hy
  have y3:(0:Int)<((ofC l x).length:Int):=by omega
  generalize ofC l x=O at *
  have hs1:=sizes_ints hs
  have hs2:=ints_snoc hs y.broker
  have b1:(hs.length+1)*8≤140737488355328:=by omega
  have b2:hs.length+1≤140737488355328:=by omega
  have IH:=fun e5 T X h5=>ih (q+1) (hs ++ [y.broker]) e5 T X h5 (by omega) (by omega) hf (by simp;omega)
  rw [kof_snoc] at IH
  refine evK_loop c35_81 _ _ _ _ rfl ?_
  rcases kof_or 1 hs with ⟨hk,rfl⟩ | hk
  ·have en1:intVs ([] ++ [y.broker])=[.int .i64 y.broker]:=rfl
   rw [en1] at IH
   rw [hk,show intVs []=[] from rfl]
   simp (config:={implicitDefEqProofs:=false}) [-zia,h5,hx,hxe,hlt,hlt2,hw,kk,hy,y1,y2,y3,-zil,-zit,-znl,-znt,ty3,ty4,ty22,ty26,ty31,ty34,ty65,ty67,H35,E35,e35_91,e35_97,e35_98,e35_99,e35_31,n35_14,n35_80,n35_63,n35_51,n35_39]
   exact IH _ _ _ h5
  ·rw [hk]
   simp (config:={implicitDefEqProofs:=false}) [-zia,-zaa,h5,hx,hxe,hlt,hlt2,hw,kk,hy,y1,y2,y3,hs1,hs2,b1,b2,-zil,-zit,-znl,-znt,ty3,ty4,ty22,ty26,ty31,ty34,ty65,ty67,H35,E35,e35_91,e35_97,e35_98,e35_99,e35_31,n35_14,n35_80,n35_63,n35_51,n35_39]
   exact IH _ _ _ h5
theorem LK3 (p:List Int)(hp:rightT p=true)(hp7:p.length≤7)(l:List Sub)(hl2:l.length≤100)(hh:List Int)(g:List Grp)(hg1:∀ x∈g,x.clients.length<1000)(hg2:g.length≤100)(hat:∀ (i k:Nat)(u v:Grp),g[i]?=some u→g[k]?=some v→∀ c∈bothI v.clients u.clients [],∃ y,(ofC l c)[0]?=some y∧y.broker=hh.getD c.toNat 0∧isT p y.broker=true)(S:St)(R:Out × St)(b i:Nat)(u:Grp)(hu:g[i]?=some u)(fin:List Atom)
  (H:∀ (e5 e11 e12 e13:E) (T:List (Nat × E)) (X:List (Nat × List V)),e5.Tame→e11.Tame→e12.Firm→e13.Tame→evK gS fi35 c35_97 {ps:=[(0,.val (.slice (intVs p))),(1,.val (.slice (encSubs l))),(4,.own 0 []),(5,e5),(6,.val (.slice (encGrps g))),(7,.own (kof 3 fin) (encAtoms fin)),(8,.val (.int .i64 (b:Nat))),(9,.val (.int .i64 (i:Nat))),(10,.val (.int .i64 g.length)),(11,e11),(12,e12),(13,e13)],ts:=T,lc:=X} S (.loop c35_52 (.blk 4 (.blk 3 (.seq c35_98 (.loop c35_40 (.blk 2 (.seq c35_99 .nil)))))))=some R) :
  ∀ (m q:Nat) (out:List Atom) (e5 e11 e12 e13:E) (T:List (Nat × E)) (X:List (Nat × List V)) (h5:e5.Tame) (h11:e11.Tame) (h12:e12.Firm) (h13:e13.Tame),q≤g.length→g.length - q=m→fin=rK p hh g b i (g.length - q) q out→out.length≤200000+q →
  evK gS fi35 c35_63 {ps:=[(0,.val (.slice (intVs p))),(1,.val (.slice (encSubs l))),(4,.own 0 []),(5,e5),(6,.val (.slice (encGrps g))),(7,.own (kof 3 out) (encAtoms out)),(8,.val (.int .i64 (b:Nat))),(9,.val (.int .i64 (i:Nat))),(10,.val (.int .i64 (q:Nat))),(11,e11),(12,e12),(13,e13)],ts:=T,lc:=X} S (.blk 6 (.blk 5 (.seq c35_97 (.loop c35_52 (.blk 4 (.blk 3 (.seq c35_98 (.loop c35_40 (.blk 2 (.seq c35_99 .nil))))))))))=some R:=by
 intro m
 induction m with
 | zero =>
  intro q out e5 e11 e12 e13 T X h5 h11 h12 h13 hq hm2 hf hol
  obtain rfl:q=g.length:=by omega
  rw [Nat.sub_self,show rK p hh g b i 0 g.length out=out from rfl] at hf
  subst hf
  refine evK_loop c35_64 _ _ _ _ rfl ?_
  rcases kof_or 3 fin with ⟨hk,rfl⟩ | hk
  ·rw [hk,show encAtoms []=[] from rfl] at H ⊢
   simp (config:={implicitDefEqProofs:=false}) [-zia,-St.obj,-St.set,h5,h11,h12,h13,-zil,-zit,-znl,-znt,ty3,ty4,ty22,ty26,ty31,ty34,ty65,ty67,H35,E35,e35_91,e35_98,e35_99,e35_31,n35_14,n35_80,n35_63,n35_51,n35_39]
   exact H _ _ _ _ _ _ h5 h11 h12 h13
  ·rw [hk] at H ⊢
   simp (config:={implicitDefEqProofs:=false}) [-zia,-St.obj,-St.set,h5,h11,h12,h13,-zil,-zit,-znl,-znt,ty3,ty4,ty22,ty26,ty31,ty34,ty65,ty67,H35,E35,e35_91,e35_98,e35_99,e35_31,n35_14,n35_80,n35_63,n35_51,n35_39]
   exact H _ _ _ _ _ _ h5 h11 h12 h13
 | succ m ih =>
  intro q out e5 e11 e12 e13 T X h5 h11 h12 h13 hq hm2 hf hol
  obtain ⟨x,hx⟩  := qgx (l:=g) (i:=q) (by omega)
  have hlt:(q:Int)<(g.length:Int):=by omega
  obtain ⟨hlt2,hxe⟩:=List.getElem?_eq_some_iff.1 hx
  have hw  := qws q (by omega)
  obtain ⟨u1,u2⟩:=List.getElem?_eq_some_iff.1 hu
  have kk:=fun fr st=>k23 g hg1 (by omega) i q u x hu hx fr st
  have hbl:=bothI_len x.clients u.clients []
  have hul:=hg1 u (zmg hu)
  have hB:=hat i q u x hu hx
  rw [show g.length - q=(g.length - (q+1))+1 from by omega,show rK p hh g b i ((g.length - (q+1))+1) q out=rK p hh g b i (g.length - (q+1)) (q+1) (rStep p hh g b i q out) from rfl] at hf
  have hats:atsOf hh g i q=(bothI x.clients u.clients []).map fun c=>hh.getD c.toNat 0:=by unfold atsOf;rw [hx,hu];rfl
  rw [show rStep p hh g b i q out=if atsOf hh g i q=[] then out else if placeT p (atsOf hh g i q)=(b:Int) then out ++ [⟨i,q,b⟩] else out from rfl,hats] at hf
  generalize bothI x.clients u.clients []=bt at *
  have hmap:([] ++ (bt.drop 0).map fun c=>hh.getD c.toNat 0)=bt.map fun c=>hh.getD c.toNat 0:=by rw [List.drop_zero,List.nil_append]
  have hsr:∀ y∈bt.map (fun c=>hh.getD c.toNat 0),isT p y=true:=fun y hy=>by
   obtain ⟨c,hc,rfl⟩:=List.mem_map.1 hy
   obtain ⟨z,_,h2,h3⟩:=hB c hc
   rw [← h2];exact h3
  have hsl:(bt.map fun c=>hh.getD c.toNat 0).length=bt.length:=List.length_map _
  simp only [List.length_nil] at hbl
  generalize (bt.map fun c=>hh.getD c.toNat 0)=hs at *
  have H91:∀ (e5:E) (T:List (Nat × E)) (X:List (Nat × List V)),e5.Tame→evK gS fi35 c35_91 {ps:=[(0,.val (.slice (intVs p))),(1,.val (.slice (encSubs l))),(4,.own 0 []),(5,e5),(6,.val (.slice (encGrps g))),(7,.own (kof 3 out) (encAtoms out)),(8,.val (.int .i64 (b:Nat))),(9,.val (.int .i64 (i:Nat))),(10,.val (.int .i64 (q:Nat))),(11,.val (.slice (intVs bt))),(12,.own (kof 1 hs) (intVs hs)),(13,.val (.int .i64 bt.length))],ts:=T,lc:=X} S (.blk 7 (.seq c35_96 (.loop c35_64 (.blk 6 (.blk 5 (.seq c35_97 (.loop c35_52 (.blk 4 (.blk 3 (.seq c35_98 (.loop c35_40 (.blk 2 (.seq c35_99 .nil)))))))))))))=some R:=by
   intro e5 T X h5
   by_cases hsn:hs=[]
   ·rw [if_pos hsn] at hf
    subst hsn
    have IH:=fun e5 e11 e12 e13 T X h5 h11 h12 h13=>ih (q+1) out e5 e11 e12 e13 T X h5 h11 h12 h13 (by omega) (by omega) hf (by omega)
    rw [show kof 1 ([]:List Int)=0 from rfl,show intVs []=[] from rfl]
    simp (config:={implicitDefEqProofs:=false}) [-zia,h5,hw,-zil,-zit,-znl,-znt,ty3,ty4,ty22,ty26,ty31,ty34,ty65,ty67,H35,E35,e35_91,e35_97,e35_98,e35_99,e35_31,n35_14,n35_80,n35_63,n35_51,n35_39]
    exact IH _ _ _ _ _ _ h5 (tame_val _) rfl (tame_val _)
   ·rw [if_neg hsn] at hf
    have hk:kof 1 hs=1:=by unfold kof;rw [if_neg hsn]
    have z1:(0:Int)<(hs.length:Int):=by have:=List.length_pos_iff.2 hsn;omega
    have z2:0<hs.length:=List.length_pos_iff.2 hsn
    have kp:=fun fr st=>k67 p hp hs (by omega) hsr hsn fr st
    rw [hk]
    by_cases hb:placeT p hs=(b:Int)
    ·rw [if_pos hb] at hf
     have hb2:=eq_true hb
     have IH:=fun e5 e11 e12 e13 T X h5 h11 h12 h13=>ih (q+1) (out ++ [⟨i,q,b⟩]) e5 e11 e12 e13 T X h5 h11 h12 h13 (by omega) (by omega) hf (by simp;omega)
     rw [kof_snoc] at IH
     have hs1:=sizes_atoms out
     have b1:(out.length+1)*24≤140737488355328:=by omega
     have b2:out.length+1≤140737488355328:=by omega
     rcases kof_or 3 out with ⟨hk3,rfl⟩ | hk3
     ·rw [show encAtoms ([] ++ [(⟨i,q,b⟩:Atom)])=[.agg [.int .i64 (i:Nat),.int .i64 (q:Nat),.int .i64 (b:Nat)]] from rfl] at IH
      rw [hk3,show encAtoms []=[] from rfl]
      simp (config:={implicitDefEqProofs:=false}) [-zia,h5,hw,hsn,z1,z2,kp,hb2,-zil,-zit,-znl,-znt,ty3,ty4,ty22,ty26,ty31,ty34,ty65,ty67,H35,E35,e35_91,e35_97,e35_98,e35_99,e35_31,n35_14,n35_80,n35_63,n35_51,n35_39]
      exact IH _ _ _ _ _ _ h5 (tame_val _) rfl (tame_val _)
     ·have hs2:encAtoms out ++ [.agg [.int .i64 (i:Nat),.int .i64 (q:Nat),.int .i64 (b:Nat)]]=encAtoms (out ++ [(⟨i,q,b⟩:Atom)]):=by simp [encAtoms]
      rw [hk3]
      simp (config:={implicitDefEqProofs:=false}) [-zia,-zaa,h5,hw,hsn,z1,z2,kp,hb2,hs1,hs2,b1,b2,-zil,-zit,-znl,-znt,ty3,ty4,ty22,ty26,ty31,ty34,ty65,ty67,H35,E35,e35_91,e35_97,e35_98,e35_99,e35_31,n35_14,n35_80,n35_63,n35_51,n35_39]
      exact IH _ _ _ _ _ _ h5 (tame_val _) rfl (tame_val _)
    ·rw [if_neg hb] at hf
     have hb2:=eq_false hb
     have IH:=fun e5 e11 e12 e13 T X h5 h11 h12 h13=>ih (q+1) out e5 e11 e12 e13 T X h5 h11 h12 h13 (by omega) (by omega) hf (by omega)
     simp (config:={implicitDefEqProofs:=false}) [-zia,h5,hw,hsn,z1,z2,kp,hb2,-zil,-zit,-znl,-znt,ty3,ty4,ty22,ty26,ty31,ty34,ty65,ty67,H35,E35,e35_91,e35_97,e35_98,e35_99,e35_31,n35_14,n35_80,n35_63,n35_51,n35_39]
     exact IH _ _ _ _ _ _ h5 (tame_val _) rfl (tame_val _)
  have LL:=fun e5 T X h5=>LK4 p hp hp7 l hl2 hh g hg1 hg2 hat S R out b i q bt (by omega) (fun c hc=>by obtain ⟨y,h1,h2,_⟩:=hB c hc;exact ⟨y,h1,h2⟩) hs (fun e5 T X h5=>H91 e5 T X h5) bt.length 0 [] e5 T X h5 (Nat.zero_le _) rfl hmap.symm (Nat.zero_le _)
  rw [show ((0:Nat):Int)=0 from rfl,show kof 1 ([]:List Int)=0 from rfl,show intVs []=[] from rfl] at LL
  have hil:(i:Int)<(g.length:Int):=by omega
  refine evK_loop c35_64 _ _ _ _ rfl ?_
  rcases kof_or 3 out with ⟨hk3,hk4⟩ | hk3
  ·rw [hk4,show kof 3 ([]:List Atom)=0 from rfl,show encAtoms []=[] from rfl] at LL
   rw [hk4,show kof 3 ([]:List Atom)=0 from rfl,show encAtoms []=[] from rfl]
   simp (config:={implicitDefEqProofs:=false}) [-zia,h5,h11,h12,h13,hx,hxe,hlt,hlt2,hil,u1,kk,-zil,-zit,-znl,-znt,ty3,ty4,ty22,ty26,ty31,ty34,ty65,ty67,H35,E35,e35_91,e35_97,e35_98,e35_99,e35_31,n35_14,n35_80,n35_63,n35_51,n35_39]
   exact LL _ _ _ h5
  ·rw [hk3] at LL ⊢
   simp (config:={implicitDefEqProofs:=false}) [-zia,h5,h11,h12,h13,hx,hxe,hlt,hlt2,hil,u1,kk,-zil,-zit,-znl,-znt,ty3,ty4,ty22,ty26,ty31,ty34,ty65,ty67,H35,E35,e35_91,e35_97,e35_98,e35_99,e35_31,n35_14,n35_80,n35_63,n35_51,n35_39]
   exact LL _ _ _ h5
theorem LK2 (p:List Int)(hp:rightT p=true)(hp7:p.length≤7)(l:List Sub)(hl2:l.length≤100)(hh:List Int)(g:List Grp)(hg1:∀ x∈g,x.clients.length<1000)(hg2:g.length≤100)(hat:∀ (i k:Nat)(u v:Grp),g[i]?=some u→g[k]?=some v→∀ c∈bothI v.clients u.clients [],∃ y,(ofC l c)[0]?=some y∧y.broker=hh.getD c.toNat 0∧isT p y.broker=true)(S:St)(R:Out × St)(b:Nat)(fin:List Atom)
  (H:∀ (e5 e10 e11 e12 e13:E) (T:List (Nat × E)) (X:List (Nat × List V)),e5.Tame→e10.Tame→e11.Tame→e12.Firm→e13.Tame→evK gS fi35 c35_98 {ps:=[(0,.val (.slice (intVs p))),(1,.val (.slice (encSubs l))),(4,.own 0 []),(5,e5),(6,.val (.slice (encGrps g))),(7,.own (kof 3 fin) (encAtoms fin)),(8,.val (.int .i64 (b:Nat))),(9,.val (.int .i64 g.length)),(10,e10),(11,e11),(12,e12),(13,e13)],ts:=T,lc:=X} S (.loop c35_40 (.blk 2 (.seq c35_99 .nil)))=some R) :
  ∀ (m q:Nat) (out:List Atom) (e5 e10 e11 e12 e13:E) (T:List (Nat × E)) (X:List (Nat × List V)) (h5:e5.Tame) (h10:e10.Tame) (h11:e11.Tame) (h12:e12.Firm) (h13:e13.Tame),q≤g.length→g.length - q=m→fin=rI p hh g b (g.length - q) q out→out.length≤100000+100*q →
  evK gS fi35 c35_51 {ps:=[(0,.val (.slice (intVs p))),(1,.val (.slice (encSubs l))),(4,.own 0 []),(5,e5),(6,.val (.slice (encGrps g))),(7,.own (kof 3 out) (encAtoms out)),(8,.val (.int .i64 (b:Nat))),(9,.val (.int .i64 (q:Nat))),(10,e10),(11,e11),(12,e12),(13,e13)],ts:=T,lc:=X} S (.blk 4 (.blk 3 (.seq c35_98 (.loop c35_40 (.blk 2 (.seq c35_99 .nil))))))=some R:=by
 intro m
 induction m with
 | zero =>
  intro q out e5 e10 e11 e12 e13 T X h5 h10 h11 h12 h13 hq hm2 hf hol
  obtain rfl:q=g.length:=by omega
  rw [Nat.sub_self,show rI p hh g b 0 g.length out=out from rfl] at hf
  subst hf
  refine evK_loop c35_52 _ _ _ _ rfl ?_
  rcases kof_or 3 fin with ⟨hk,rfl⟩ | hk
  ·rw [hk,show encAtoms []=[] from rfl] at H ⊢
   simp (config:={implicitDefEqProofs:=false}) [-zia,-St.obj,-St.set,h5,h10,h11,h12,h13,-zil,-zit,-znl,-znt,ty3,ty4,ty22,ty26,ty31,ty34,ty65,ty67,H35,E35,e35_91,e35_97,e35_99,e35_31,n35_14,n35_80,n35_63,n35_51,n35_39]
   exact H _ _ _ _ _ _ _ h5 h10 h11 h12 h13
  ·rw [hk] at H ⊢
   simp (config:={implicitDefEqProofs:=false}) [-zia,-St.obj,-St.set,h5,h10,h11,h12,h13,-zil,-zit,-znl,-znt,ty3,ty4,ty22,ty26,ty31,ty34,ty65,ty67,H35,E35,e35_91,e35_97,e35_99,e35_31,n35_14,n35_80,n35_63,n35_51,n35_39]
   exact H _ _ _ _ _ _ _ h5 h10 h11 h12 h13
 | succ m ih =>
  intro q out e5 e10 e11 e12 e13 T X h5 h10 h11 h12 h13 hq hm2 hf hol
  obtain ⟨x,hx⟩  := qgx (l:=g) (i:=q) (by omega)
  have hlt:(q:Int)<(g.length:Int):=by omega
  obtain ⟨hlt2,hxe⟩:=List.getElem?_eq_some_iff.1 hx
  have hw  := qws q (by omega)
  rw [show g.length - q=(g.length - (q+1))+1 from by omega,show rI p hh g b ((g.length - (q+1))+1) q out=rI p hh g b (g.length - (q+1)) (q+1) (rK p hh g b q (g.length - q) q out) from rfl] at hf
  have hkl:=rK_len p hh g b q (g.length - q) q out
  generalize ho2:rK p hh g b q (g.length - q) q out=o2 at *
  have H97:∀ (e5 e11 e12 e13:E) (T:List (Nat × E)) (X:List (Nat × List V)),e5.Tame→e11.Tame→e12.Firm→e13.Tame→evK gS fi35 c35_97 {ps:=[(0,.val (.slice (intVs p))),(1,.val (.slice (encSubs l))),(4,.own 0 []),(5,e5),(6,.val (.slice (encGrps g))),(7,.own (kof 3 o2) (encAtoms o2)),(8,.val (.int .i64 (b:Nat))),(9,.val (.int .i64 (q:Nat))),(10,.val (.int .i64 g.length)),(11,e11),(12,e12),(13,e13)],ts:=T,lc:=X} S (.loop c35_52 (.blk 4 (.blk 3 (.seq c35_98 (.loop c35_40 (.blk 2 (.seq c35_99 .nil)))))))=some R:=by
   intro e5 e11 e12 e13 T X h5 h11 h12 h13
   have IH:=fun e5 e10 e11 e12 e13 T X h5 h10 h11 h12 h13=>ih (q+1) o2 e5 e10 e11 e12 e13 T X h5 h10 h11 h12 h13 (by omega) (by omega) hf (by omega)
   rcases kof_or 3 o2 with ⟨hk3,hk4⟩ | hk3
   ·rw [hk4,show kof 3 ([]:List Atom)=0 from rfl,show encAtoms []=[] from rfl] at IH ⊢
    simp (config:={implicitDefEqProofs:=false}) [-zia,h5,h11,h12,h13,hw,-zil,-zit,-znl,-znt,ty3,ty4,ty22,ty26,ty31,ty34,ty65,ty67,H35,E35,e35_91,e35_97,e35_98,e35_99,e35_31,n35_14,n35_80,n35_63,n35_51,n35_39]
    exact IH _ _ _ _ _ _ _ h5 (tame_val _) h11 h12 h13
   ·rw [hk3] at IH ⊢
    simp (config:={implicitDefEqProofs:=false}) [-zia,h5,h11,h12,h13,hw,-zil,-zit,-znl,-znt,ty3,ty4,ty22,ty26,ty31,ty34,ty65,ty67,H35,E35,e35_91,e35_97,e35_98,e35_99,e35_31,n35_14,n35_80,n35_63,n35_51,n35_39]
    exact IH _ _ _ _ _ _ _ h5 (tame_val _) h11 h12 h13
  have LL:=fun e5 e11 e12 e13 T X h5 h11 h12 h13=>LK3 p hp hp7 l hl2 hh g hg1 hg2 hat S R b q x hx o2 (fun e5 e11 e12 e13 T X h5 h11 h12 h13=>H97 e5 e11 e12 e13 T X h5 h11 h12 h13) (g.length - q) q out e5 e11 e12 e13 T X h5 h11 h12 h13 (by omega) rfl ho2.symm (by omega)
  refine evK_loop c35_52 _ _ _ _ rfl ?_
  rcases kof_or 3 out with ⟨hk3,hk4⟩ | hk3
  ·rw [hk4,show kof 3 ([]:List Atom)=0 from rfl,show encAtoms []=[] from rfl] at LL ⊢
   simp (config:={implicitDefEqProofs:=false}) [-zia,h5,h10,h11,h12,h13,hx,hxe,hlt,hlt2,-zil,-zit,-znl,-znt,ty3,ty4,ty22,ty26,ty31,ty34,ty65,ty67,H35,E35,e35_91,e35_97,e35_98,e35_99,e35_31,n35_14,n35_80,n35_63,n35_51,n35_39]
   exact LL _ _ _ _ _ _ h5 h11 h12 h13
  ·rw [hk3] at LL ⊢
   simp (config:={implicitDefEqProofs:=false}) [-zia,h5,h10,h11,h12,h13,hx,hxe,hlt,hlt2,-zil,-zit,-znl,-znt,ty3,ty4,ty22,ty26,ty31,ty34,ty65,ty67,H35,E35,e35_91,e35_97,e35_98,e35_99,e35_31,n35_14,n35_80,n35_63,n35_51,n35_39]
   exact LL _ _ _ _ _ _ h5 h11 h12 h13
theorem LK1 (p:List Int)(hp:rightT p=true)(hp7:p.length≤7)(l:List Sub)(hl2:l.length≤100)(hh:List Int)(g:List Grp)(hg1:∀ x∈g,x.clients.length<1000)(hg2:g.length≤100)(hat:∀ (i k:Nat)(u v:Grp),g[i]?=some u→g[k]?=some v→∀ c∈bothI v.clients u.clients [],∃ y,(ofC l c)[0]?=some y∧y.broker=hh.getD c.toNat 0∧isT p y.broker=true)(S:St)(R:Out × St)  (fin:List Atom)
  (H:∀ (e5 e9 e10 e11 e12 e13:E) (T:List (Nat × E)) (X:List (Nat × List V)),e5.Tame→e9.Tame→e10.Tame→e11.Tame→e12.Firm→e13.Tame→evK gS fi35 c35_99 {ps:=[(0,.val (.slice (intVs p))),(1,.val (.slice (encSubs l))),(4,.own 0 []),(5,e5),(6,.val (.slice (encGrps g))),(7,.own (kof 3 fin) (encAtoms fin)),(8,.val (.int .i64 ((p.length+1:Nat):Int))),(9,e9),(10,e10),(11,e11),(12,e12),(13,e13)],ts:=T,lc:=X} S .nil=some R) :
  ∀ (m q:Nat) (out:List Atom) (e5 e9 e10 e11 e12 e13:E) (T:List (Nat × E)) (X:List (Nat × List V)) (h5:e5.Tame) (h9:e9.Tame) (h10:e10.Tame) (h11:e11.Tame) (h12:e12.Firm) (h13:e13.Tame),q≤(p.length+1)→(p.length+1) - q=m→fin=rB p hh g (p.length+1 - q) q out→out.length≤10000*q →
  evK gS fi35 c35_39 {ps:=[(0,.val (.slice (intVs p))),(1,.val (.slice (encSubs l))),(4,.own 0 []),(5,e5),(6,.val (.slice (encGrps g))),(7,.own (kof 3 out) (encAtoms out)),(8,.val (.int .i64 (q:Nat))),(9,e9),(10,e10),(11,e11),(12,e12),(13,e13)],ts:=T,lc:=X} S (.blk 2 (.seq c35_99 .nil))=some R:=by
 intro m
 induction m with
 | zero =>
  intro q out e5 e9 e10 e11 e12 e13 T X h5 h9 h10 h11 h12 h13 hq hm2 hf hol
  obtain rfl:q=(p.length+1):=by omega
  rw [Nat.sub_self,show rB p hh g 0 (p.length+1) out=out from rfl] at hf
  subst hf
  have hx1:¬ ((p.length+1:Nat):Int)≤(p.length:Int):=by omega
  have hx2:¬ p.length+1≤p.length:=by omega
  refine evK_loop c35_40 _ _ _ _ rfl ?_
  rcases kof_or 3 fin with ⟨hk,rfl⟩ | hk
  ·rw [hk,show encAtoms []=[] from rfl] at H ⊢
   simp (config:={implicitDefEqProofs:=false}) [-zia,-St.obj,-St.set,h5,h9,h10,h11,h12,h13,hx1,hx2,-zil,-zit,-znl,-znt,ty3,ty4,ty22,ty26,ty31,ty34,ty65,ty67,H35,E35,e35_91,e35_97,e35_98,e35_31,n35_14,n35_80,n35_63,n35_51,n35_39]
   exact H _ _ _ _ _ _ _ _ h5 h9 h10 h11 h12 h13
  ·rw [hk] at H ⊢
   simp (config:={implicitDefEqProofs:=false}) [-zia,-St.obj,-St.set,h5,h9,h10,h11,h12,h13,hx1,hx2,-zil,-zit,-znl,-znt,ty3,ty4,ty22,ty26,ty31,ty34,ty65,ty67,H35,E35,e35_91,e35_97,e35_98,e35_31,n35_14,n35_80,n35_63,n35_51,n35_39]
   exact H _ _ _ _ _ _ _ _ h5 h9 h10 h11 h12 h13
 | succ m ih =>
  intro q out e5 e9 e10 e11 e12 e13 T X h5 h9 h10 h11 h12 h13 hq hm2 hf hol
  have hx1:(q:Int)≤(p.length:Int):=by omega
  have hx2:q≤p.length:=by omega
  have hw  := qws q (by omega)
  rw [show p.length+1 - q=(p.length+1 - (q+1))+1 from by omega,show rB p hh g ((p.length+1 - (q+1))+1) q out=rB p hh g (p.length+1 - (q+1)) (q+1) (rI p hh g q g.length 0 out) from rfl] at hf
  have hkl:=rI_len p hh g q g.length 0 out
  have hgg:g.length*g.length≤100*100:=Nat.mul_le_mul hg2 hg2
  generalize ho2:rI p hh g q g.length 0 out=o2 at *
  generalize g.length*g.length=gg at *
  have H98:∀ (e5 e10 e11 e12 e13:E) (T:List (Nat × E)) (X:List (Nat × List V)),e5.Tame→e10.Tame→e11.Tame→e12.Firm→e13.Tame→evK gS fi35 c35_98 {ps:=[(0,.val (.slice (intVs p))),(1,.val (.slice (encSubs l))),(4,.own 0 []),(5,e5),(6,.val (.slice (encGrps g))),(7,.own (kof 3 o2) (encAtoms o2)),(8,.val (.int .i64 (q:Nat))),(9,.val (.int .i64 g.length)),(10,e10),(11,e11),(12,e12),(13,e13)],ts:=T,lc:=X} S (.loop c35_40 (.blk 2 (.seq c35_99 .nil)))=some R:=by
   intro e5 e10 e11 e12 e13 T X h5 h10 h11 h12 h13
   have IH:=fun e5 e9 e10 e11 e12 e13 T X h5 h9 h10 h11 h12 h13=>ih (q+1) o2 e5 e9 e10 e11 e12 e13 T X h5 h9 h10 h11 h12 h13 (by omega) (by omega) hf (by omega)
   rcases kof_or 3 o2 with ⟨hk3,hk4⟩ | hk3
   ·rw [hk4,show kof 3 ([]:List Atom)=0 from rfl,show encAtoms []=[] from rfl] at IH ⊢
    simp (config:={implicitDefEqProofs:=false}) [-zia,h5,h10,h11,h12,h13,hw,-zil,-zit,-znl,-znt,ty3,ty4,ty22,ty26,ty31,ty34,ty65,ty67,H35,E35,e35_91,e35_97,e35_98,e35_99,e35_31,n35_14,n35_80,n35_63,n35_51,n35_39]
    exact IH _ _ _ _ _ _ _ _ h5 (tame_val _) h10 h11 h12 h13
   ·rw [hk3] at IH ⊢
    simp (config:={implicitDefEqProofs:=false}) [-zia,h5,h10,h11,h12,h13,hw,-zil,-zit,-znl,-znt,ty3,ty4,ty22,ty26,ty31,ty34,ty65,ty67,H35,E35,e35_91,e35_97,e35_98,e35_99,e35_31,n35_14,n35_80,n35_63,n35_51,n35_39]
    exact IH _ _ _ _ _ _ _ _ h5 (tame_val _) h10 h11 h12 h13
  have LL:=fun e5 e10 e11 e12 e13 T X h5 h10 h11 h12 h13=>LK2 p hp hp7 l hl2 hh g hg1 hg2 hat S R q o2 (fun e5 e10 e11 e12 e13 T X h5 h10 h11 h12 h13=>H98 e5 e10 e11 e12 e13 T X h5 h10 h11 h12 h13) g.length 0 out e5 e10 e11 e12 e13 T X h5 h10 h11 h12 h13 (Nat.zero_le _) rfl (by rw [Nat.sub_zero];exact ho2.symm) (by omega)
  rw [show ((0:Nat):Int)=0 from rfl] at LL
  refine evK_loop c35_40 _ _ _ _ rfl ?_
  rcases kof_or 3 out with ⟨hk3,hk4⟩ | hk3
  ·rw [hk4,show kof 3 ([]:List Atom)=0 from rfl,show encAtoms []=[] from rfl] at LL ⊢
   simp (config:={implicitDefEqProofs:=false}) [-zia,h5,h9,h10,h11,h12,h13,hx1,hx2,hw,-zil,-zit,-znl,-znt,ty3,ty4,ty22,ty26,ty31,ty34,ty65,ty67,H35,E35,e35_91,e35_97,e35_98,e35_99,e35_31,n35_14,n35_80,n35_63,n35_51,n35_39]
   exact LL _ _ _ _ _ _ _ h5 h10 h11 h12 h13
  ·rw [hk3] at LL ⊢
   simp (config:={implicitDefEqProofs:=false}) [-zia,h5,h9,h10,h11,h12,h13,hx1,hx2,hw,-zil,-zit,-znl,-znt,ty3,ty4,ty22,ty26,ty31,ty34,ty65,ty67,H35,E35,e35_91,e35_97,e35_98,e35_99,e35_31,n35_14,n35_80,n35_63,n35_51,n35_39]
   exact LL _ _ _ _ _ _ _ h5 h10 h11 h12 h13
theorem LK0 (p:List Int)(l:List Sub)(hpl:p.length<1000)(hl2:l.length≤100)(S:St)(R:Out × St)(hb:∀ s∈l,s.broker≤p.length)
  (H:∀ (e6 e7 e8 e9 e10 e11 e12 e13:E) (T:List (Nat × E)) (X:List (Nat × List V)),e6.Tame→e7.Tame→e8.Tame→e9.Tame→e10.Tame→e11.Tame→e12.Firm→e13.Tame→evK gS fi35 c35_31 {ps:=[(0,.val (.slice (intVs p))),(1,.val (.slice (encSubs l))),(4,.own 0 []),(5,.val (.int .i64 l.length)),(6,e6),(7,e7),(8,e8),(9,e9),(10,e10),(11,e11),(12,e12),(13,e13)],ts:=T,lc:=X} S .nil=some R) :
  ∀ (m q:Nat) (e6 e7 e8 e9 e10 e11 e12 e13:E) (T:List (Nat × E)) (X:List (Nat × List V)) (h6:e6.Tame) (h7:e7.Tame) (h8:e8.Tame) (h9:e9.Tame) (h10:e10.Tame) (h11:e11.Tame) (h12:e12.Firm) (h13:e13.Tame),q≤l.length→l.length - q=m →
  evK gS fi35 c35_14 {ps:=[(0,.val (.slice (intVs p))),(1,.val (.slice (encSubs l))),(4,.own 0 []),(5,.val (.int .i64 (q:Nat))),(6,e6),(7,e7),(8,e8),(9,e9),(10,e10),(11,e11),(12,e12),(13,e13)],ts:=T,lc:=X} S (.blk 0 (.seq c35_31 .nil))=some R:=by
 intro m
 induction m with
 | zero =>
  intro q e6 e7 e8 e9 e10 e11 e12 e13 T X h6 h7 h8 h9 h10 h11 h12 h13 hq hm2
  obtain rfl:q=l.length:=by omega
  refine evK_loop c35_15 _ _ _ _ rfl ?_
  simp (config:={implicitDefEqProofs:=false}) [-zia,-St.obj,-St.set,h6,h7,h8,h9,h10,h11,h12,h13,-zil,-zit,-znl,-znt,ty3,ty4,ty22,ty26,ty31,ty34,ty65,ty67,H35,E35,e35_91,e35_97,e35_98,e35_99,n35_14,n35_80,n35_63,n35_51,n35_39]
  exact H _ _ _ _ _ _ _ _ _ _ h6 h7 h8 h9 h10 h11 h12 h13
 | succ m ih =>
  intro q e6 e7 e8 e9 e10 e11 e12 e13 T X h6 h7 h8 h9 h10 h11 h12 h13 hq hm2
  obtain ⟨x,hx⟩  := qgx (l:=l) (i:=q) (by omega)
  have hlt:(q:Int)<(l.length:Int):=by omega
  obtain ⟨hlt2,hxe⟩:=List.getElem?_eq_some_iff.1 hx
  have hw  := qws q (by omega)
  have hxb:¬ (p.length:Int)<x.broker:=by have:=hb x (zmg hx);omega
  have IH:=fun e6 e7 e8 e9 e10 e11 e12 e13 T X h6 h7 h8 h9 h10 h11 h12 h13=>ih (q+1) e6 e7 e8 e9 e10 e11 e12 e13 T X h6 h7 h8 h9 h10 h11 h12 h13 (by omega) (by omega)
  refine evK_loop c35_15 _ _ _ _ rfl ?_
  simp (config:={implicitDefEqProofs:=false}) [-zia,h6,h7,h8,h9,h10,h11,h12,h13,hx,hxe,hlt,hlt2,hw,hxb,-zil,-zit,-znl,-znt,ty3,ty4,ty22,ty26,ty31,ty34,ty65,ty67,H35,E35,e35_91,e35_97,e35_98,e35_99,e35_31,n35_14,n35_80,n35_63,n35_51,n35_39]
  exact IH _ _ _ _ _ _ _ _ _ _ h6 h7 h8 h9 h10 h11 h12 h13
theorem LKB (p:List Int)(l:List Sub)(hpl:p.length<1000)(hl2:l.length≤100)(S:St)(hb:∃ s∈l,¬ s.broker≤p.length):∀ (m q:Nat) (e6 e7 e8 e9 e10 e11 e12 e13:E) (T:List (Nat × E)) (X:List (Nat × List V)) (h6:e6.Tame) (h7:e7.Tame) (h8:e8.Tame) (h9:e9.Tame) (h10:e10.Tame) (h11:e11.Tame) (h12:e12.Firm) (h13:e13.Tame),q≤l.length→l.length - q=m→(∀ k s,k<q→l[k]?=some s→s.broker≤p.length) →
  evK gS fi35 c35_14 {ps:=[(0,.val (.slice (intVs p))),(1,.val (.slice (encSubs l))),(4,.own 0 []),(5,.val (.int .i64 (q:Nat))),(6,e6),(7,e7),(8,e8),(9,e9),(10,e10),(11,e11),(12,e12),(13,e13)],ts:=T,lc:=X} S (.blk 0 (.seq c35_31 .nil))=some (.ret (.slice []) none,S):=by
 intro m
 have hz0:=frz_slice (xs:=intVs []) (flats_ints []) S
 rw [show intVs []=[] from rfl] at hz0
 induction m with
 | zero =>
  intro q e6 e7 e8 e9 e10 e11 e12 e13 T X h6 h7 h8 h9 h10 h11 h12 h13 hq hm2 hk
  obtain ⟨s,hs,h1⟩:=hb
  obtain ⟨k,hk1,hk2⟩:=List.getElem_of_mem hs
  exact absurd (hk k s (by omega) (by rw [zge hk1,hk2])) h1
 | succ m ih =>
  intro q e6 e7 e8 e9 e10 e11 e12 e13 T X h6 h7 h8 h9 h10 h11 h12 h13 hq hm2 hk
  obtain ⟨x,hx⟩  := qgx (l:=l) (i:=q) (by omega)
  have hlt:(q:Int)<(l.length:Int):=by omega
  obtain ⟨hlt2,hxe⟩:=List.getElem?_eq_some_iff.1 hx
  have hw  := qws q (by omega)
  refine evK_loop c35_15 _ _ _ _ rfl ?_
  by_cases hxb:(p.length:Int)<x.broker
  ·simp (config:={implicitDefEqProofs:=false}) [-zia,h6,h7,h8,h9,h10,h11,h12,h13,  hx,hxe,hlt,hlt2,hxb,hz0,-zil,-zit,-znl,-znt,ty3,ty4,ty22,ty26,ty31,ty34,ty65,ty67,H35,E35,e35_91,e35_97,e35_98,e35_99,e35_31,n35_14,n35_80,n35_63,n35_51,n35_39]
  ·have IH:=fun e6 e7 e8 e9 e10 e11 e12 e13 T X h6 h7 h8 h9 h10 h11 h12 h13=>ih (q+1) e6 e7 e8 e9 e10 e11 e12 e13 T X h6 h7 h8 h9 h10 h11 h12 h13 (by omega) (by omega) (fun k s hk3 hk4=>by
    by_cases hkq:k=q
    ·subst hkq;rw [hx] at hk4;cases hk4;omega
    ·exact hk k s (by omega) hk4)
   simp (config:={implicitDefEqProofs:=false}) [-zia,h6,h7,h8,h9,h10,h11,h12,h13,  hx,hxe,hlt,hlt2,hw,hxb,-zil,-zit,-znl,-znt,ty3,ty4,ty22,ty26,ty31,ty34,ty65,ty67,H35,E35,e35_91,e35_97,e35_98,e35_99,e35_31,n35_14,n35_80,n35_63,n35_51,n35_39]
   exact IH _ _ _ _ _ _ _ _ _ _ h6 h7 h8 h9 h10 h11 h12 h13
theorem c35 (p:List Int)(hpl:p.length<1000)(l:List Sub)(hl1:∀ s∈l,POk s.filter)(hl2:l.length≤100)(st:St)(hst:st.wp≤st.objs.length):∃ st',EvF gS 35 [.slice (intVs p),.slice (encSubs l)] st=some (.ret (.slice (encAtoms (chainR p l))) none,st'):=by
 have hz0:=frz_slice (xs:=intVs []) (flats_ints []) st
 rw [show intVs []=[] from rfl] at hz0
 have k1:=fun fr st=>k64 p (by omega) fr st
 have k2:=fun fr st=>k65 l hl1 (by omega) fr st
 unfold chainR
 cases hp:rightT p with
 | false =>
  rw [hp] at k1
  refine ⟨st,EvF_start fi241_eq (fun x h=>by cases h) m35 ?_⟩
  rw [st35,Bool.false_and,Bool.false_and,if_neg (by simp),show encAtoms []=[] from rfl]
  simp [k1,hz0,-zil,-zit,-znl,-znt,ty3,ty4,ty22,ty26,ty31,ty34,ty65,ty67,H35,E35,e35_91,e35_97,e35_98,e35_99,e35_31,n35_14,n35_80,n35_63,n35_51,n35_39]
 | true =>
  rw [hp] at k1
  cases hrs:rightS l with
  | false =>
   rw [hrs] at k2
   refine ⟨st,EvF_start fi241_eq (fun x h=>by cases h) m35 ?_⟩
   rw [st35,Bool.and_false,Bool.false_and,if_neg (by simp),show encAtoms []=[] from rfl]
   simp [k1,k2,hz0,-zil,-zit,-znl,-znt,ty3,ty4,ty22,ty26,ty31,ty34,ty65,ty67,H35,E35,e35_91,e35_97,e35_98,e35_99,e35_31,n35_14,n35_80,n35_63,n35_51,n35_39]
  | true =>
   rw [hrs] at k2
   by_cases hb:∀ s∈l,s.broker≤p.length
   ·have hall:l.all (fun s=>decide (s.broker≤p.length))=true:=List.all_eq_true.2 fun s hs=>by simpa using hb s hs
    rw [hall,if_pos (by simp)]
    have hp7:p.length≤7:=by have h:=hp;simp only [rightT,Bool.and_eq_true,decide_eq_true_eq] at h;omega
    have k3:=fun fr=>k13 l hl1 (by omega) fr st hst
    have hgl:=gof_len l
    have hg1:∀ x∈gof l,x.clients.length<1000:=fun x hx=>by have:=gof_ok hl1 hx;omega
    have hat:∀ (i k:Nat) (u v:Grp),(gof l)[i]?=some u→(gof l)[k]?=some v→∀ c∈bothI v.clients u.clients [],∃ y,(ofC l c)[0]?=some y∧y.broker=(homesT p l).1.getD c.toNat 0∧isT p y.broker=true:=fun i k u v hu hv c hc=>home_of hp hrs hb (i:=i) (k:=k) (List.getElem?_eq_some_iff.1 hu).1 (by rw [hu,hv];exact hc)
    generalize (homesT p l).1=hh at *
    generalize hD:dd st (gof l).length=S at *
    generalize gof l=g at *
    clear hall hD
    refine ⟨S,EvF_start fi241_eq (fun x h=>by cases h) m35 ?_⟩
    generalize hK:rB p hh g (p.length+1) 0 []=K
    have hzK:=frz_slice (xs:=encAtoms K) (flats_atoms K) S
    have hzS:=frz_slice (xs:=intVs []) (flats_ints []) S
    rw [show intVs []=[] from rfl] at hzS
    generalize hR:(Out.ret (V.slice (encAtoms K)) none,S)=R
    have H99:∀ (e5 e9 e10 e11 e12 e13:E) (T:List (Nat × E)) (X:List (Nat × List V)),e5.Tame→e9.Tame→e10.Tame→e11.Tame→e12.Firm→e13.Tame→evK gS fi35 c35_99 {ps:=[(0,.val (.slice (intVs p))),(1,.val (.slice (encSubs l))),(4,.own 0 []),(5,e5),(6,.val (.slice (encGrps g))),(7,.own (kof 3 K) (encAtoms K)),(8,.val (.int .i64 ((p.length+1:Nat):Int))),(9,e9),(10,e10),(11,e11),(12,e12),(13,e13)],ts:=T,lc:=X} S .nil=some R:=by
     intro e5 e9 e10 e11 e12 e13 T X h5 h9 h10 h11 h12 h13
     rcases kof_or 3 K with ⟨hk,rfl⟩ | hk
     ·rw [hk,show encAtoms []=[] from rfl]
      simp (config:={implicitDefEqProofs:=false}) [-zia,h5,h9,h10,h11,h12,h13,hzS,← hR,show encAtoms []=[] from rfl,-zil,-zit,-znl,-znt,ty3,ty4,ty22,ty26,ty31,ty34,ty65,ty67,H35,E35,e35_91,e35_97,e35_98,e35_99,e35_31,n35_14,n35_80,n35_63,n35_51,n35_39]
     ·rw [hk]
      simp (config:={implicitDefEqProofs:=false}) [-zia,h5,h9,h10,h11,h12,h13,hzK,← hR,-zil,-zit,-znl,-znt,ty3,ty4,ty22,ty26,ty31,ty34,ty65,ty67,H35,E35,e35_91,e35_97,e35_98,e35_99,e35_31,n35_14,n35_80,n35_63,n35_51,n35_39]
    have L1:=fun e5 e9 e10 e11 e12 e13 T X h5 h9 h10 h11 h12 h13=>LK1 p hp hp7 l hl2 hh g hg1 (by omega) hat S R K H99 (p.length+1) 0 [] e5 e9 e10 e11 e12 e13 T X h5 h9 h10 h11 h12 h13 (Nat.zero_le _) rfl (by rw [Nat.sub_zero];exact hK.symm) (Nat.zero_le _)
    rw [show ((0:Nat):Int)=0 from rfl,show kof 3 ([]:List Atom)=0 from rfl,show encAtoms []=[] from rfl] at L1
    have H31:∀ (e6 e7 e8 e9 e10 e11 e12 e13:E) (T:List (Nat × E)) (X:List (Nat × List V)),e6.Tame→e7.Tame→e8.Tame→e9.Tame→e10.Tame→e11.Tame→e12.Firm→e13.Tame →  evK gS fi35 c35_31 {ps:=[(0,.val (.slice (intVs p))),(1,.val (.slice (encSubs l))),(4,.own 0 []),(5,.val (.int .i64 l.length)),(6,e6),(7,e7),(8,e8),(9,e9),(10,e10),(11,e11),(12,e12),(13,e13)],ts:=T,lc:=X} st .nil=some R:=by
     intro e6 e7 e8 e9 e10 e11 e12 e13 T X h6 h7 h8 h9 h10 h11 h12 h13
     simp (config:={implicitDefEqProofs:=false}) [-zia,-St.obj,-St.set,h6,h7,h8,h9,h10,h11,h12,h13,  k3,-zil,-zit,-znl,-znt,ty3,ty4,ty22,ty26,ty31,ty34,ty65,ty67,H35,E35,e35_91,e35_97,e35_98,e35_99,e35_31,n35_14,n35_80,n35_63,n35_51,n35_39]
     exact L1 _ _ _ _ _ _ _ _ (tame_val _) h9 h10 h11 h12 h13
    have LL:=fun e6 e7 e8 e9 e10 e11 e12 e13 T X h6 h7 h8 h9 h10 h11 h12 h13=>LK0 p l hpl hl2 st R hb H31 l.length 0 e6 e7 e8 e9 e10 e11 e12 e13 T X h6 h7 h8 h9 h10 h11 h12 h13 (Nat.zero_le _) rfl
    rw [show ((0:Nat):Int)=0 from rfl] at LL
    rw [st35]
    simp [k1,k2,-zil,-zit,-znl,-znt,ty3,ty4,ty22,ty26,ty31,ty34,ty65,ty67,H35,E35,e35_91,e35_97,e35_98,e35_99,e35_31,n35_14,n35_80,n35_63,n35_51,n35_39]
    refine LL _ _ _ _ _ _ _ _ _ _ tame_any tame_any tame_any tame_any tame_any tame_any rfl tame_any
   ·have hall:l.all (fun s=>decide (s.broker≤p.length))=false:=by
     rw [Bool.eq_false_iff]
     intro h
     exact hb fun s hs=>by have:=List.all_eq_true.1 h s hs;simpa using this
    rw [hall,Bool.and_false,if_neg (by simp),show encAtoms []=[] from rfl]
    have hb2:∃ s∈l,¬ s.broker≤p.length:=by
     simpa using hb
    have LL:=fun e6 e7 e8 e9 e10 e11 e12 e13 T X h6 h7 h8 h9 h10 h11 h12 h13=>LKB p l hpl hl2 st hb2 l.length 0 e6 e7 e8 e9 e10 e11 e12 e13 T X h6 h7 h8 h9 h10 h11 h12 h13 (Nat.zero_le _) rfl (fun k s hk=>by omega)
    rw [show ((0:Nat):Int)=0 from rfl] at LL
    refine ⟨st,EvF_start fi241_eq (fun x h=>by cases h) m35 ?_⟩
    rw [st35]
    simp [k1,k2,-zil,-zit,-znl,-znt,ty3,ty4,ty22,ty26,ty31,ty34,ty65,ty67,H35,E35,e35_91,e35_97,e35_98,e35_99,e35_31,n35_14,n35_80,n35_63,n35_51,n35_39]
    refine LL _ _ _ _ _ _ _ _ _ _ tame_any tame_any tame_any tame_any tame_any tame_any rfl tame_any
theorem k35 (p:List Int)(hpl:p.length<1000)(l:List Sub)(hl1:∀ s∈l,POk s.filter)(hl2:l.length≤100)(fr:Fr)(st:St)(hst:st.wp≤st.objs.length):callStep gS (EvF gS) 35 [.slice (intVs p),.slice (encSubs l)] fr st=some (.ok (.val (.slice (encAtoms (chainR p l)))) fr st) :=
 call_pure' rfl fi241_eq rfl (by simp [flats,V.flat]) (c35 p hpl l hl1 hl2 ⟨[],0⟩ (Nat.le_refl _)) (by simp [V.flat])
end
end Go.Proofs.Ytdoobejjedpcgaa
namespace Go.Ab
open Go
theorem sc_len (x:Sub):(Sub.cells x).length=4:=rfl
end Go.Ab
namespace Go.Proofs.Ytdoobejjedpcgaa
open Go Go.Ab
noncomputable section
variable (fr:Fr)(st:St)(k:Kt)
def fi7:FI:={body:=codeOf Try.f7,ntmps:=126,results:=[.tmp 6],pers:=[0,1,2,6,7,8,9,10,11,12,13,14],locals:=[],pure:=true,marks:=[4000047]}
theorem H7:fi7.marks=[4000047]∧fi7.locals=[]∧fi7.results=[.tmp 6]:=⟨rfl,rfl,rfl⟩
theorem fi247_eq:gS.fn 7=some fi7:=by kernel_rfl
theorem st7 (a0 a1 a2:V):startFr fi7 [a0,a1,a2]={ps:=[(0,.val a0),(1,.val a1),(2,.val a2),(6,.any),(7,.any),(8,.any),(9,.any),(10,.any),(11,.any),(12,.any),(13,.any),(14,.any)],ts:=[],lc:=[]}:=rfl
def b7:Code:=mini (codeOf Try.f7)
def c7_12:Code:=codeN b7 175
def c7_11:Code:=.cond (.tmp 30) c7_12 .skip
def c7_9:Code:=.seq (codeN b7 79) c7_11
def c7_18:Code:=codeN b7 351
def c7_17:Code:=.cond (.tmp 42) c7_18 .skip
def c7_15:Code:=.seq (codeN b7 159) c7_17
def c7_28:Code:=.seq (codeN b7 4863) .ret
def c7_27:Code:=.cond (.tmp 60) c7_28 .skip
def c7_25:Code:=.seq (codeN b7 1279) c7_27
def c7_40:Code:=.cond (.tmp 64) .skip (.exit 0)
def c7_38:Code:=.seq (codeN b7 34303) c7_40
def r7_46:Array Oper:=regOps (codeN (codeOf Try.f7) 140799)
def c7_46:Code:=.region 15 r7_46 true
def q7_46:List (Oper × Fl):=[(mv 67 10 53,qz0),
 (mv 68 12 3,qz0),
 (ixa 69 53 67 68 0,qz0),
 (ld 70 59 69 59,qz0),
 (mv 71 11 65,qz0),
 (mv 72 12 3,qz0),
 (ixa 73 65 71 72 0,qz0),
 (qF 74 67 73 0 0,qz0),
 (ld 75 3 74 3,qz0),
 (mv 76 11 65,qz0),
 (mv 77 12 3,qz0),
 (ixa 78 65 76 77 0,qz0),
 (qF 79 67 78 1 0,qz0),
 (ld 80 3 79 3,qz0),
 (mv 81 11 65,qz0),
 (mv 82 12 3,qz0),
 (ixa 83 65 81 82 0,qz3),
 (qF 84 67 83 2 0,qz3),
 (ld 85 3 84 3,qz3),
 (op1 86 (.build 59 #[(0,(.tmp 75)),(1,(.tmp 80)),(2,(.tmp 85))]) 59,qz3),
 (bop 87 .neq 59 70 86 59 4,qz3)]
def c7_48:Code:=.seq (codeN b7 599551) .ret
def c7_47:Code:=.cond (.tmp 87) c7_48 .skip
def c7_45:Code:=.seq c7_46 c7_47
def c7_52:Code:=codeN b7 58879
def c7_43:Code:=.seq (.block 1 c7_45) c7_52
def c7_37:Code:=.seq c7_38 c7_43
def c7_36:Code:=.loop c7_37
def c7_35:Code:=.block 0 c7_36
def c7_33:Code:=.seq (codeN b7 2559) c7_35
def c7_63:Code:=.cond (.tmp 100) .skip (.exit 2)
def c7_61:Code:=.seq (codeN b7 137215) c7_63
def c7_68:Code:=codeN b7 301055
def c7_69:Code:=codeN b7 235519
def c7_66:Code:=.seq (.block 3 c7_68) c7_69
def c7_60:Code:=.seq c7_61 c7_66
def c7_59:Code:=.loop c7_60
def c7_58:Code:=.block 2 c7_59
def c7_56:Code:=.seq (codeN b7 10239) c7_58
def c7_70:Code:=.seq (codeN b7 12287) .ret
theorem e7_70:evK gS fi7 c7_70 fr st k=opsR gS fi7 [mv 110 10 53,
 mv 111 13 22,
 cal 112 30 [(.tmp 110),(.tmp 111)] [53,22] 22,
 mv 113 11 65,
 mv 114 13 22,
 cal 115 37 [(.tmp 113),(.tmp 114)] [65,22] 22,
 cal 116 36 [(.tmp 112),(.tmp 115)] [22,22] 4,
 mv 117 116 4,
 qm 118 10 53 7 true,
 qm 119 13 22 7 true,
 mk (some 120) (.call {callee:=(.value (.func 31)),args:=#[(.tmp 118),(.tmp 119)],argTypes:=#[53,22]}) 22 (some (7,true)),
 qm 121 11 65 7 true,
 qm 122 13 22 7 true,
 mk (some 123) (.call {callee:=(.value (.func 38)),args:=#[(.tmp 121),(.tmp 122)],argTypes:=#[65,22]}) 22 (some (7,true)),
 mk (some 124) (.call {callee:=(.value (.func 36)),args:=#[(.tmp 120),(.tmp 123)],argTypes:=#[22,22]}) 4 (some (7,true)),
 qP 125 117 124 false 4,
 asn 6 125 4] fr st (.seq .ret k):=evK_rs 22 rfl (by kernel_rfl)
def c7_55:Code:=.seq c7_56 c7_70
def c7_53:Code:=.seq (codeN b7 3071) c7_55
theorem e7_53:evK gS fi7 c7_53 fr st k=opsR gS fi7 [mv 88 9 26,
 cal 89 13 [(.tmp 88)] [26] 34,
 mv 90 7 23,
 cal 91 17 [(.tmp 90)] [23] 42,
 cal 92 18 [(.tmp 89),(.tmp 91)] [34,42] 22,
 asn 13 92 22] fr st (.seq c7_55 k):=evK_rs 17 rfl (by kernel_rfl)
def c7_32:Code:=.seq c7_33 c7_53
def c7_24:Code:=.seq c7_25 c7_32
def c7_22:Code:=.seq (codeN b7 383) c7_24
theorem e7_22:evK gS fi7 c7_22 fr st k=opsR gS fi7 [mv 49 8 22,
 mv 50 9 26,
 cal 51 35 [(.tmp 49),(.tmp 50)] [22,26] 65,
 asn 11 51 65] fr st (.seq c7_24 k):=evK_rs 9 rfl (by kernel_rfl)
def c7_20:Code:=.seq (codeN b7 191) c7_22
theorem e7_20:evK gS fi7 c7_20 fr st k=opsR gS fi7 [mv 46 8 22,
 mv 47 9 26,
 cal 48 27 [(.tmp 46),(.tmp 47)] [22,26] 53,
 asn 10 48 53] fr st (.seq c7_22 k):=evK_rs 8 rfl (by kernel_rfl)
def c7_14:Code:=.seq c7_15 c7_20
theorem e7_14:evK gS fi7 c7_14 fr st k=evK gS fi7 c7_15 fr st (.seq c7_20 k):=rfl
def c7_8:Code:=.seq c7_9 c7_14
theorem e7_8:evK gS fi7 c7_8 fr st k=evK gS fi7 c7_9 fr st (.seq c7_14 k):=rfl
def c7_6:Code:=.seq (codeN b7 23) c7_8
def c7_4:Code:=.seq (codeN b7 11) c7_6
def c7_2:Code:=.seq (codeN b7 5) c7_4
def c7_0:Code:=.seq (codeN b7 2) c7_2
theorem E7:(evK gS fi7 c7_12 fr st k=opsR gS fi7 [mv 31 9 26,
 mv 32 7 23,
 mv 33 9 26,
 len1 34 33 26 3,
 cal 35 11 [(.tmp 32),(.tmp 34)] [23,3] 3,
 mv 36 7 23,
 cal 37 11 [(.tmp 36),(.const (.int .i64 9))] [23,3] 3,
 ixa 38 26 31 35 0,
 qF 39 31 38 1 0,
 sto 3 39 37] fr st k) ∧
 evK gS fi7 c7_11 fr st k=condK gS fi7 (fr.op (.tmp 30)).bool? c7_12 .skip fr st k ∧
 (evK gS fi7 c7_9 fr st k=opsR gS fi7 [mv 23 9 26,
 len1 24 23 26 3,
 qB 25 .gtr 3 24 0 3 4,
 mv 26 25 4,
 qm 27 2 3 3 true,
 qc 28 .rem 3 27 5 3 3 3 true,
 qc 29 .eql 3 28 0 3 4 3 true,
 qP 30 26 29 false 4] fr st (.seq c7_11 k)) ∧
 (evK gS fi7 c7_18 fr st k=opsR gS fi7 [mv 43 8 22,
 op1 44 (.buildSlice 22 1 #[(0,(.const (.int .i64 9)))]) 22,
 qE 45 43 44 22 22,
 asn 8 45 22] fr st k) ∧
 evK gS fi7 c7_17 fr st k=condK gS fi7 (fr.op (.tmp 42)).bool? c7_18 .skip fr st k ∧
 (evK gS fi7 c7_15 fr st k=opsR gS fi7 [mv 40 2 3,
 qB 41 .rem 3 40 17 3 3,
 qB 42 .eql 3 41 1 3 4] fr st (.seq c7_17 k)) ∧
 evK gS fi7 c7_28 fr st k=opsR gS fi7 [qA 6 false 4] fr st (.seq .ret k) ∧
 evK gS fi7 c7_27 fr st k=condK gS fi7 (fr.op (.tmp 60)).bool? c7_28 .skip fr st k ∧
 (evK gS fi7 c7_25 fr st k=opsR gS fi7 [cal 52 28 [] [] 4,
 op1 53 (.unOp .not 4 (.tmp 52)) 4,
 mv 54 53 4,
 qm 55 10 53 2 false,
 qe 56 55 53 3 2 false,
 qm 57 11 65 2 false,
 qe 58 57 65 3 2 false,
 qb 59 .neq 3 56 58 3 4 2 false,
 qQ 60 54 true 59 4] fr st (.seq c7_27 k)) ∧
 evK gS fi7 c7_40 fr st k=condK gS fi7 (fr.op (.tmp 64)).bool? .skip (.exit 0) fr st k ∧
 (evK gS fi7 c7_38 fr st k=opsR gS fi7 [mv 61 12 3,
 mv 62 10 53,
 len1 63 62 53 3,
 bop 64 .lss 3 61 63 3 4] fr st (.seq c7_40 k)) ∧
 evK gS fi7 c7_46 fr st k=drwR gS fi7 r7_46 q7_46 fr st k ∧
 evK gS fi7 c7_48 fr st k=opsR gS fi7 [qA 6 false 4] fr st (.seq .ret k) ∧
 evK gS fi7 c7_47 fr st k=condK gS fi7 (fr.op (.tmp 87)).bool? c7_48 .skip fr st k ∧
 evK gS fi7 c7_45 fr st k=evK gS fi7 c7_46 fr st (.seq c7_47 k) ∧
 (evK gS fi7 c7_52 fr st k=opsR gS fi7 [mv 65 12 3,
 qB 66 .add 3 65 1 3 3,
 asn 12 66 3] fr st k) ∧
 evK gS fi7 c7_43 fr st k=evK gS fi7 c7_45 fr st (.blk 1 (.seq c7_52 k)) ∧
 evK gS fi7 c7_37 fr st k=evK gS fi7 c7_38 fr st (.seq c7_43 k) ∧
 evK gS fi7 c7_35 fr st k=evK gS fi7 c7_36 fr st (.blk 0 k) ∧
 evK gS fi7 c7_33 fr st k=opsR gS fi7 [qI 12 0 3] fr st (.seq c7_35 k) ∧
 evK gS fi7 c7_63 fr st k=condK gS fi7 (fr.op (.tmp 100)).bool? .skip (.exit 2) fr st k ∧
 (evK gS fi7 c7_61 fr st k=opsR gS fi7 [mv 93 14 3,
 mv 94 1 22,
 len1 95 94 22 3,
 bop 96 .lss 3 93 95 3 4,
 mv 97 96 4,
 qm 98 14 3 4 true,
 qc 99 .lss 3 98 3 3 4 4 true,
 qP 100 97 99 false 4] fr st (.seq c7_63 k)) ∧
 (evK gS fi7 c7_68 fr st k=opsR gS fi7 [mv 103 13 22,
 mv 104 1 22,
 mv 105 14 3,
 ixa 106 22 104 105 0,
 ld 107 3 106 3,
 qS 108 22 107 22,
 qE 109 103 108 22 22,
 asn 13 109 22] fr st k) ∧
 (evK gS fi7 c7_69 fr st k=opsR gS fi7 [mv 101 14 3,
 qB 102 .add 3 101 1 3 3,
 asn 14 102 3] fr st k) ∧
 evK gS fi7 c7_66 fr st k=evK gS fi7 c7_68 fr st (.blk 3 (.seq c7_69 k)) ∧
 evK gS fi7 c7_60 fr st k=evK gS fi7 c7_61 fr st (.seq c7_66 k) ∧
 evK gS fi7 c7_58 fr st k=evK gS fi7 c7_59 fr st (.blk 2 k) ∧
 evK gS fi7 c7_56 fr st k=opsR gS fi7 [qI 14 0 3] fr st (.seq c7_58 k) ∧
 evK gS fi7 c7_55 fr st k=evK gS fi7 c7_56 fr st (.seq c7_70 k) ∧
 evK gS fi7 c7_32 fr st k=evK gS fi7 c7_33 fr st (.seq c7_53 k) ∧
 evK gS fi7 c7_24 fr st k=evK gS fi7 c7_25 fr st (.seq c7_32 k) ∧
 (evK gS fi7 c7_6 fr st k=opsR gS fi7 [mv 20 7 23,
 mv 21 8 22,
 cal 22 10 [(.tmp 20),(.tmp 21)] [23,22] 26,
 asn 9 22 26] fr st (.seq c7_8 k)) ∧
 (evK gS fi7 c7_4 fr st k=opsR gS fi7 [mv 18 7 23,
 cal 19 26 [(.tmp 18),(.const (.int .i64 8))] [23,3] 22,
 asn 8 19 22] fr st (.seq c7_6 k)) ∧
 (evK gS fi7 c7_2 fr st k=opsR gS fi7 [mv 15 0 22,
 op1 16 (.build 25 #[(0,(.tmp 15))]) 25,
 op1 17 (.box 25 (.tmp 16)) 23,
 asn 7 17 23] fr st (.seq c7_4 k)) ∧
 evK gS fi7 c7_0 fr st k=opsR gS fi7 [qA 6 false 4] fr st (.seq c7_2 k):=⟨evK_r 5 (by kernel_rfl),rfl,evK_rs 4 rfl (by kernel_rfl),evK_r 7 (by kernel_rfl),rfl,evK_rs 6 rfl (by kernel_rfl),evK_rs 11 rfl (by kernel_rfl),rfl,evK_rs 10 rfl (by kernel_rfl),rfl,evK_rs 13 rfl (by kernel_rfl),evK_dr 15 rfl (by kernel_rfl) (by kernel_rfl),evK_rs 16 rfl (by kernel_rfl),rfl,rfl,evK_r 14 (by kernel_rfl),rfl,rfl,rfl,evK_rs 12 rfl (by kernel_rfl),rfl,evK_rs 19 rfl (by kernel_rfl),evK_r 21 (by kernel_rfl),evK_r 20 (by kernel_rfl),rfl,rfl,rfl,evK_rs 18 rfl (by kernel_rfl),rfl,rfl,rfl,evK_rs 3 rfl (by kernel_rfl),evK_rs 2 rfl (by kernel_rfl),evK_rs 1 rfl (by kernel_rfl),evK_rs 0 rfl (by kernel_rfl)⟩
theorem m7:mini fi7.body=c7_0:=by kernel_rfl
theorem n7_36 (fr:Fr)(st:St)(k:Kt):nextK gS fi7 (.loop c7_37 k) .normal fr st=evK gS fi7 c7_36 fr st k:=rfl
theorem n7_59 (fr:Fr)(st:St)(k:Kt):nextK gS fi7 (.loop c7_60 k) .normal fr st=evK gS fi7 c7_59 fr st k:=rfl
theorem LC247 (l odd:List Int)(how:Int)(id:Nat)(p:List Int)(ch:List Atom)(hcl:ch.length<100000)(E9:E)(hE9:E9.Firm)(S:St)(R:Out × St)
  (H:∀ (e13 e14:E) (T:List (Nat × E)) (X:List (Nat × List V)),e13.Tame→e14.Tame→evK gS fi7 c7_53 {ps:=[(0,.val (.slice (intVs l))),(1,.val (.slice (intVs odd))),(2,.val (.int .i64 how)),(6,.val (.bool false)),(7,.val (.ptr id 0)),(8,.own (kof 1 p) (intVs p)),(9,E9),(10,.val (.slice (encAtoms ch))),(11,.val (.slice (encAtoms ch))),(12,.val (.int .i64 ch.length)),(13,e13),(14,e14)],ts:=T,lc:=X} S .nil=some R) :
  ∀ (m q:Nat) (e13 e14:E) (T:List (Nat × E)) (X:List (Nat × List V)) (h13:e13.Tame) (h14:e14.Tame),q≤ch.length→ch.length - q=m →
  evK gS fi7 c7_36 {ps:=[(0,.val (.slice (intVs l))),(1,.val (.slice (intVs odd))),(2,.val (.int .i64 how)),(6,.val (.bool false)),(7,.val (.ptr id 0)),(8,.own (kof 1 p) (intVs p)),(9,E9),(10,.val (.slice (encAtoms ch))),(11,.val (.slice (encAtoms ch))),(12,.val (.int .i64 (q:Nat))),(13,e13),(14,e14)],ts:=T,lc:=X} S (.blk 0 (.seq c7_53 .nil))=some R:=by
 intro m
 induction m with
 | zero =>
  intro q e13 e14 T X h13 h14 hq hm2
  obtain rfl:q=ch.length:=by omega
  refine evK_loop c7_37 _ _ _ _ rfl ?_
  simp (config:={implicitDefEqProofs:=false}) [-zia,-St.obj,-St.set,h13,h14,hE9,-zil,-zit,-znl,-znt,ty3,ty4,ty22,ty23,ty25,ty26,ty31,ty34,ty42,ty53,ty59,ty65,ty67,eq59,H7,fi16_eq,fi36_eq,fi53_eq,fi55_eq,x18,fi58_eq,p18,fi200_eq,fi219_eq,fi220_eq,fi221_eq,x36,fi223_eq,p36,k28,x28,fi224_eq,p28,fi241_eq,fi242_eq,fi243_eq,E7,q7_46,e7_70,e7_22,e7_20,e7_14,e7_8,n7_36,n7_59]
  exact H _ _ _ _ h13 h14
 | succ m ih =>
  intro q e13 e14 T X h13 h14 hq hm2
  obtain ⟨x,hx⟩  := qgx (l:=ch) (i:=q) (by omega)
  have hlt:(q:Int)<(ch.length:Int):=by omega
  obtain ⟨hlt2,hxe⟩:=List.getElem?_eq_some_iff.1 hx
  have hw  := qws q (by omega)
  have IH:=fun e13 e14 T X h13 h14=>ih (q+1) e13 e14 T X h13 h14 (by omega) (by omega)
  refine evK_loop c7_37 _ _ _ _ rfl ?_
  simp (config:={implicitDefEqProofs:=false}) [-zia,-St.obj,-St.set,hE9,opq,h13,h14,hx,hxe,hlt,hlt2,hw,-zil,-zit,-znl,-znt,ty3,ty4,ty22,ty23,ty25,ty26,ty31,ty34,ty42,ty53,ty59,ty65,ty67,eq59,H7,fi16_eq,fi36_eq,fi53_eq,fi55_eq,x18,fi58_eq,p18,fi200_eq,fi219_eq,fi220_eq,fi221_eq,x36,fi223_eq,p36,k28,x28,fi224_eq,p28,fi241_eq,fi242_eq,fi243_eq,E7,q7_46,e7_70,e7_53,e7_22,e7_20,e7_14,e7_8,n7_36,n7_59]
  exact IH _ _ _ _ h13 h14
theorem LP247 (l odd:List Int)(how:Int)(id:Nat)(p:List Int)(ch:List Atom)(hcl:ch.length<100000)(S:St)(R:Out × St)  (fin:List Int)
  (H:∀ (e9 e12:E) (T:List (Nat × E)) (X:List (Nat × List V)),e9.Firm→e12.Tame→evK gS fi7 c7_70 {ps:=[(0,.val (.slice (intVs l))),(1,.val (.slice (intVs odd))),(2,.val (.int .i64 how)),(6,.val (.bool false)),(7,.val (.ptr id 0)),(8,.own (kof 1 p) (intVs p)),(9,e9),(10,.val (.slice (encAtoms ch))),(11,.val (.slice (encAtoms ch))),(12,e12),(13,.own (kof 1 fin) (intVs fin)),(14,.val (.int .i64 (odd.take 3).length))],ts:=T,lc:=X} S .nil=some R) :
  ∀ (m q:Nat) (out:List Int) (e9 e12:E) (T:List (Nat × E)) (X:List (Nat × List V)) (h9:e9.Firm) (h12:e12.Tame),q≤(odd.take 3).length→(odd.take 3).length - q=m→fin=out ++ ((odd.take 3).drop q)→out.length≤1000+q →
  evK gS fi7 c7_59 {ps:=[(0,.val (.slice (intVs l))),(1,.val (.slice (intVs odd))),(2,.val (.int .i64 how)),(6,.val (.bool false)),(7,.val (.ptr id 0)),(8,.own (kof 1 p) (intVs p)),(9,e9),(10,.val (.slice (encAtoms ch))),(11,.val (.slice (encAtoms ch))),(12,e12),(13,.own (kof 1 out) (intVs out)),(14,.val (.int .i64 (q:Nat)))],ts:=T,lc:=X} S (.blk 2 (.seq c7_70 .nil))=some R:=by
 intro m
 induction m with
 | zero =>
  intro q out e9 e12 T X h9 h12 hq hm2 hf hol
  obtain rfl:q=(odd.take 3).length:=by omega
  rw [List.drop_length,List.append_nil] at hf
  subst hf
  have hz:¬ (((odd.take 3).length:Nat):Int)<(odd.length:Int)∨¬ (((odd.take 3).length:Nat):Int)<3:=by simp;omega
  generalize (odd.take 3).length=q at *
  refine evK_loop c7_60 _ _ _ _ rfl ?_
  by_cases hz1:(q:Int)<(odd.length:Int)
  ·have hz2:¬ (q:Int)<3:=by omega
   have hz3:¬ q<3:=by omega
   have hz4:q<odd.length:=by omega
   rcases kof_or 1 fin with ⟨hk,rfl⟩ | hk
   ·rw [hk,show intVs []=[] from rfl] at H ⊢
    simp (config:={implicitDefEqProofs:=false}) [-zia,-St.obj,-St.set,hz1,hz2,hz3,hz4,h9,h12,-zil,-zit,-znl,-znt,ty3,ty4,ty22,ty23,ty25,ty26,ty31,ty34,ty42,ty53,ty59,ty65,ty67,eq59,H7,fi16_eq,fi36_eq,fi53_eq,fi55_eq,x18,fi58_eq,p18,fi200_eq,fi219_eq,fi220_eq,fi221_eq,x36,fi223_eq,p36,k28,x28,fi224_eq,p28,fi241_eq,fi242_eq,fi243_eq,E7,q7_46,e7_53,e7_22,e7_20,e7_14,e7_8,n7_36,n7_59]
    exact H _ _ _ _ h9 h12
   ·rw [hk] at H ⊢
    simp (config:={implicitDefEqProofs:=false}) [-zia,-St.obj,-St.set,hz1,hz2,hz3,hz4,h9,h12,-zil,-zit,-znl,-znt,ty3,ty4,ty22,ty23,ty25,ty26,ty31,ty34,ty42,ty53,ty59,ty65,ty67,eq59,H7,fi16_eq,fi36_eq,fi53_eq,fi55_eq,x18,fi58_eq,p18,fi200_eq,fi219_eq,fi220_eq,fi221_eq,x36,fi223_eq,p36,k28,x28,fi224_eq,p28,fi241_eq,fi242_eq,fi243_eq,E7,q7_46,e7_53,e7_22,e7_20,e7_14,e7_8,n7_36,n7_59]
    exact H _ _ _ _ h9 h12
  ·have hz4:¬ q<odd.length:=by omega
   have hz2:True:=trivial
   have hz3:True:=trivial
   rcases kof_or 1 fin with ⟨hk,rfl⟩ | hk
   ·rw [hk,show intVs []=[] from rfl] at H ⊢
    simp (config:={implicitDefEqProofs:=false}) [-zia,-St.obj,-St.set,hz1,hz2,hz3,hz4,h9,h12,-zil,-zit,-znl,-znt,ty3,ty4,ty22,ty23,ty25,ty26,ty31,ty34,ty42,ty53,ty59,ty65,ty67,eq59,H7,fi16_eq,fi36_eq,fi53_eq,fi55_eq,x18,fi58_eq,p18,fi200_eq,fi219_eq,fi220_eq,fi221_eq,x36,fi223_eq,p36,k28,x28,fi224_eq,p28,fi241_eq,fi242_eq,fi243_eq,E7,q7_46,e7_53,e7_22,e7_20,e7_14,e7_8,n7_36,n7_59]
    exact H _ _ _ _ h9 h12
   ·rw [hk] at H ⊢
    simp (config:={implicitDefEqProofs:=false}) [-zia,-St.obj,-St.set,hz1,hz2,hz3,hz4,h9,h12,-zil,-zit,-znl,-znt,ty3,ty4,ty22,ty23,ty25,ty26,ty31,ty34,ty42,ty53,ty59,ty65,ty67,eq59,H7,fi16_eq,fi36_eq,fi53_eq,fi55_eq,x18,fi58_eq,p18,fi200_eq,fi219_eq,fi220_eq,fi221_eq,x36,fi223_eq,p36,k28,x28,fi224_eq,p28,fi241_eq,fi242_eq,fi243_eq,E7,q7_46,e7_53,e7_22,e7_20,e7_14,e7_8,n7_36,n7_59]
    exact H _ _ _ _ h9 h12
 | succ m ih =>
  intro q out e9 e12 T X h9 h12 hq hm2 hf hol
  have h24:(odd.take 3).length≤3:=by simp;omega
  obtain ⟨x,hx⟩  := qgx (l:=(odd.take 3)) (i:=q) (by omega)
  have hlt:(q:Int)<((odd.take 3).length:Int):=by omega
  obtain ⟨hlt2,hxe⟩:=List.getElem?_eq_some_iff.1 hx
  have hw  := qws q (by omega)
  rw [drop_get hx,List.append_cons] at hf
  have hq4:(q:Int)<3:=by omega
  have hq5:q<3:=by omega
  have hx':odd[q]?=some x:=by rw [List.getElem?_take_of_lt (by omega)] at hx;exact hx
  obtain ⟨hlt2',hxe'⟩:=List.getElem?_eq_some_iff.1 hx'
  have hlt':(q:Int)<(odd.length:Int):=by omega
  have hs1:=sizes_ints out
  have hs2:=ints_snoc out x
  have b1:(out.length+1)*8≤140737488355328:=by omega
  have b2:out.length+1≤140737488355328:=by omega
  have IH:=fun e9 e12 T X h9 h12=>ih (q+1) (out ++ [x]) e9 e12 T X h9 h12 (by omega) (by omega) hf (by simp;omega)
  rw [kof_snoc] at IH
  refine evK_loop c7_60 _ _ _ _ rfl ?_
  rcases kof_or 1 out with ⟨hk,rfl⟩ | hk
  ·have en1:intVs ([] ++ [x])=[.int .i64 x]:=rfl
   rw [en1] at IH
   rw [hk,show intVs []=[] from rfl]
   simp (config:={implicitDefEqProofs:=false}) [-zia,-St.obj,-St.set,h9,h12,hx',hxe',hlt',hlt2',hw,hq4,hq5,-zil,-zit,-znl,-znt,ty3,ty4,ty22,ty23,ty25,ty26,ty31,ty34,ty42,ty53,ty59,ty65,ty67,eq59,H7,fi16_eq,fi36_eq,fi53_eq,fi55_eq,x18,fi58_eq,p18,fi200_eq,fi219_eq,fi220_eq,fi221_eq,x36,fi223_eq,p36,k28,x28,fi224_eq,p28,fi241_eq,fi242_eq,fi243_eq,E7,q7_46,e7_70,e7_53,e7_22,e7_20,e7_14,e7_8,n7_36,n7_59]
   exact IH _ _ _ _ h9 h12
  ·rw [hk]
   simp (config:={implicitDefEqProofs:=false}) [-zia,-St.obj,-St.set,-zaa,h9,h12,hx',hxe',hlt',hlt2',hw,hq4,hq5,hs1,hs2,b1,b2,-zil,-zit,-znl,-znt,ty3,ty4,ty22,ty23,ty25,ty26,ty31,ty34,ty42,ty53,ty59,ty65,ty67,eq59,H7,fi16_eq,fi36_eq,fi53_eq,fi55_eq,x18,fi58_eq,p18,fi200_eq,fi219_eq,fi220_eq,fi221_eq,x36,fi223_eq,p36,k28,x28,fi224_eq,p28,fi241_eq,fi242_eq,fi243_eq,E7,q7_46,e7_70,e7_53,e7_22,e7_20,e7_14,e7_8,n7_36,n7_59]
   exact IH _ _ _ _ h9 h12
theorem L7_70 (l odd:List Int)(how:Int)(id:Nat)(p:List Int)(ch:List Atom)(hcl:ch.length<10000)(O:List Int)(hO:O.length≤50)(S:St) :
  ∀ (e9 e12 e14:E) (T:List (Nat × E)) (X:List (Nat × List V)) (h9:e9.Firm) (h12:e12.Tame) (h14:e14.Tame),
  evK gS fi7 c7_70 {ps:=[(0,.val (.slice (intVs l))),(1,.val (.slice (intVs odd))),(2,.val (.int .i64 how)),(6,.val (.bool false)),(7,.val (.ptr id 0)),(8,.own (kof 1 p) (intVs p)),(9,e9),(10,.val (.slice (encAtoms ch))),(11,.val (.slice (encAtoms ch))),(12,e12),(13,.own (kof 1 O) (intVs O)),(14,e14)],ts:=T,lc:=X} S .nil=some (.ret (.bool true) none,S):=by
 intro e9 e12 e14 T X h9 h12 h14
 have kw:=fun fr st=>k30 ch O (by omega) (by omega) fr st
 have kw':=fun fr st=>k37 ch (by omega) O (by omega) fr st
 have ko:=fun fr st=>k31 ch O (by omega) (by omega) fr st
 have ko':=fun fr st=>k38 ch (by omega) O (by omega) fr st
 have h1:(wayA ch O).length≤ch.length:=wayG_le _ _
 have h2:(ownA ch O).length≤ch.length:=wayG_le _ _
 have ks1:=fun fr st=>k36 (wayA ch O) (by omega) fr st
 have ks2:=fun fr st=>k36 (ownA ch O) (by omega) fr st
 generalize wayA ch O=W1 at *
 generalize ownA ch O=W2 at *
 simp (config:={implicitDefEqProofs:=false}) [-zia,-St.obj,-St.set,h9,h12,h14,kw,kw',ko,ko',ks1,ks2,-zil,-zit,-znl,-znt,ty3,ty4,ty22,ty23,ty25,ty26,ty31,ty34,ty42,ty53,ty59,ty65,ty67,eq59,H7,fi16_eq,fi36_eq,fi53_eq,fi55_eq,x18,fi58_eq,p18,fi200_eq,fi219_eq,fi220_eq,fi221_eq,x36,fi223_eq,p36,k28,x28,fi224_eq,p28,fi241_eq,fi242_eq,fi243_eq,E7,q7_46,e7_70,e7_53,e7_22,e7_20,e7_14,e7_8,n7_36,n7_59]
def rowD (m k:Nat)(ys:List Sub):Nat:=if ys=[] then m+k else m+1+k
theorem chainOf_len (p:List Int)(l:List Sub)(hl:l.length≤18):(chainOf p l).length≤324:=by
 unfold chainOf
 split
 ·have:=gof_len l
  exact ofA_len p _ (gof l) (by omega)
 ·simp
theorem L7_22 (ys:List Sub)(hy:∀ s∈ys,FFV s.filter∧s.filter.length≤3)(hy2:ys.length≤18)(l odd:List Int)(how:Int)(p:List Int)(hpl:p.length≤8)(st:St)(id:Nat)(h:FeedOk st id)(J:Nat)(hJ:J<549755600000)(D:Nat) :
  ∀ (e9:E) (T:List (Nat × E)) (X:List (Nat × List V)) (h9:e9=(if ys=[] then .own 0 [] else .val (.slice (encSubs ys)))),
  evK gS fi7 c7_22 {ps:=[(0,.val (.slice (intVs l))),(1,.val (.slice (intVs odd))),(2,.val (.int .i64 how)),(6,.val (.bool false)),(7,.val (.ptr id 0)),(8,.own (kof 1 p) (intVs p)),(9,e9),(10,.val (.slice (encAtoms (chainOf p ys)))),(11,.any),(12,.any),(13,.any),(14,.any)],ts:=T,lc:=X} (setF (dd st D) id l (nA l 0 J)) .nil=some (.ret (.bool true) none,setF (dd st (D+(gof ys).length)) id l (nA l 0 (attrsV l 0 J).2)):=by
 intro e9 T X h9
 have hok:∀ x∈ys,POk x.filter:=fun x hx=>(psm_ffv (hy x hx)).ok
 have h9f:e9.Firm:=by rw [h9];split <;> rfl
 have hw0:(setF (dd st D) id l (nA l 0 J)).wp≤(setF (dd st D) id l (nA l 0 J)).objs.length:=by
  have:=h.1;have:=h.2
  rw [setF_wp,setF_len,dd_wp,dd_len];omega
 have k0:=fun fr=>k35 p (by omega) ys hok (by omega) fr (setF (dd st D) id l (nA l 0 J)) hw0
 rw [chainR_eq] at k0
 have hcl:=chainOf_len p ys hy2
 have k1:=fun fr=>k13 ys hok (by omega) fr (setF (dd st D) id l (nA l 0 J)) hw0
 rw [setF_dd (h.dd D),dd_dd] at k1
 have hgl:=gof_len ys
 have hg:∀ x∈gof ys,POk x.filter∧x.clients.length<1000:=fun x hx=>by
  have:=gof_ok hok hx
  exact ⟨this.1,by omega⟩
 generalize D+(gof ys).length=D2 at *
 have h2:=h.dd D2
 have k2:=fun fr=>k17 l 0 J id fr (dd st D2) h2 (by omega) (by omega)
 have hal:=attrsV_len l 0 J
 generalize attrsV l 0 J=P at *
 obtain ⟨A,J2⟩:=P
 simp only at k2 hal ⊢
 have km:=fun fr st=>k18 (gof ys) hg (by omega) A (by omega) fr st
 have hml:=matchG_len A (gof ys) 0 []
 have hml2:(gmatch (gof ys) A).length≤18:=by unfold gmatch;simp at hml;omega
 generalize chainOf p ys=ch at *
 generalize gmatch (gof ys) A=M at *
 have L117:=fun e9 e12 e14 T X h9 h12 h14=>L7_70 l odd how id p ch (by omega) (M ++ odd.take 3) (by simp;omega) (setF (dd st D2) id l (nA l 0 J2)) e9 e12 e14 T X h9 h12 h14
 generalize hR:(Out.ret (V.bool true) none,setF (dd st D2) id l (nA l 0 J2))=R at L117 ⊢
 clear hR
 have LP:=fun e9 e12 T X h9 h12=>LP247 l odd how id p ch (by omega) (setF (dd st D2) id l (nA l 0 J2)) R (M ++ odd.take 3) (fun e9 e12 T X h9 h12=>L117 e9 e12 _ T X h9 h12 (tame_val _)) (odd.take 3).length 0 M e9 e12 T X h9 h12 (Nat.zero_le _) rfl (by rw [List.drop_zero]) (by omega)
 rw [show ((0:Nat):Int)=0 from rfl] at LP
 clear L117
 by_cases hn:ys=[]
 ·rw [if_pos hn] at h9
  subst h9
  rw [hn,show encSubs []=[] from rfl] at k0 k1
  rw [hn] at km
  have H53:∀ (e13 e14:E) (T:List (Nat × E)) (X:List (Nat × List V)),e13.Tame→e14.Tame→evK gS fi7 c7_53 {ps:=[(0,.val (.slice (intVs l))),(1,.val (.slice (intVs odd))),(2,.val (.int .i64 how)),(6,.val (.bool false)),(7,.val (.ptr id 0)),(8,.own (kof 1 p) (intVs p)),(9,.own 0 []),(10,.val (.slice (encAtoms ch))),(11,.val (.slice (encAtoms ch))),(12,.val (.int .i64 ch.length)),(13,e13),(14,e14)],ts:=T,lc:=X} (setF (dd st D) id l (nA l 0 J)) .nil=some R:=by
   intro e13 e14 T X h13 h14
   rcases kof_or 1 M with ⟨hkM,hM0⟩ | hkM
   ·rw [hM0,show kof 1 ([]:List Int)=0 from rfl,show intVs []=[] from rfl] at km LP
    simp (config:={implicitDefEqProofs:=false}) [-zia,-St.obj,-St.set,h13,h14,k1,k2,km,-zil,-zit,-znl,-znt,ty3,ty4,ty22,ty23,ty25,ty26,ty31,ty34,ty42,ty53,ty59,ty65,ty67,eq59,H7,fi16_eq,fi36_eq,fi53_eq,fi55_eq,x18,fi58_eq,p18,fi200_eq,fi219_eq,fi220_eq,fi221_eq,x36,fi223_eq,p36,k28,x28,fi224_eq,p28,fi241_eq,fi242_eq,fi243_eq,E7,q7_46,e7_70,e7_53,e7_22,e7_20,e7_14,e7_8,n7_36,n7_59]
    refine LP _ _ _ _ ?_ (tame_val _)
    rfl
   ·rw [hkM] at km LP
    simp (config:={implicitDefEqProofs:=false}) [-zia,-St.obj,-St.set,h13,h14,k1,k2,km,-zil,-zit,-znl,-znt,ty3,ty4,ty22,ty23,ty25,ty26,ty31,ty34,ty42,ty53,ty59,ty65,ty67,eq59,H7,fi16_eq,fi36_eq,fi53_eq,fi55_eq,x18,fi58_eq,p18,fi200_eq,fi219_eq,fi220_eq,fi221_eq,x36,fi223_eq,p36,k28,x28,fi224_eq,p28,fi241_eq,fi242_eq,fi243_eq,E7,q7_46,e7_70,e7_53,e7_22,e7_20,e7_14,e7_8,n7_36,n7_59]
    refine LP _ _ _ _ ?_ (tame_val _)
    rfl
  have LC:=fun e13 e14 T X h13 h14=>LC247 l odd how id p ch (by omega) (.own 0 []) rfl (setF (dd st D) id l (nA l 0 J)) R H53 ch.length 0 e13 e14 T X h13 h14 (Nat.zero_le _) rfl
  rw [show ((0:Nat):Int)=0 from rfl] at LC
  simp (config:={implicitDefEqProofs:=false}) [-zia,-St.obj,-St.set,k0,k28,-zil,-zit,-znl,-znt,ty3,ty4,ty22,ty23,ty25,ty26,ty31,ty34,ty42,ty53,ty59,ty65,ty67,eq59,H7,fi16_eq,fi36_eq,fi53_eq,fi55_eq,x18,fi58_eq,p18,fi200_eq,fi219_eq,fi220_eq,fi221_eq,x36,fi223_eq,p36,k28,x28,fi224_eq,p28,fi241_eq,fi242_eq,fi243_eq,E7,q7_46,e7_70,e7_53,e7_22,e7_20,e7_14,e7_8,n7_36,n7_59]
  exact LC _ _ _ _ tame_any tame_any
 ·rw [if_neg hn] at h9
  subst h9
  have H53:∀ (e13 e14:E) (T:List (Nat × E)) (X:List (Nat × List V)),e13.Tame→e14.Tame→evK gS fi7 c7_53 {ps:=[(0,.val (.slice (intVs l))),(1,.val (.slice (intVs odd))),(2,.val (.int .i64 how)),(6,.val (.bool false)),(7,.val (.ptr id 0)),(8,.own (kof 1 p) (intVs p)),(9,.val (.slice (encSubs ys))),(10,.val (.slice (encAtoms ch))),(11,.val (.slice (encAtoms ch))),(12,.val (.int .i64 ch.length)),(13,e13),(14,e14)],ts:=T,lc:=X} (setF (dd st D) id l (nA l 0 J)) .nil=some R:=by
   intro e13 e14 T X h13 h14
   rcases kof_or 1 M with ⟨hkM,hM0⟩ | hkM
   ·rw [hM0,show kof 1 ([]:List Int)=0 from rfl,show intVs []=[] from rfl] at km LP
    simp (config:={implicitDefEqProofs:=false}) [-zia,-St.obj,-St.set,h13,h14,k1,k2,km,-zil,-zit,-znl,-znt,ty3,ty4,ty22,ty23,ty25,ty26,ty31,ty34,ty42,ty53,ty59,ty65,ty67,eq59,H7,fi16_eq,fi36_eq,fi53_eq,fi55_eq,x18,fi58_eq,p18,fi200_eq,fi219_eq,fi220_eq,fi221_eq,x36,fi223_eq,p36,k28,x28,fi224_eq,p28,fi241_eq,fi242_eq,fi243_eq,E7,q7_46,e7_70,e7_53,e7_22,e7_20,e7_14,e7_8,n7_36,n7_59]
    refine LP _ _ _ _ ?_ (tame_val _)
    rfl
   ·rw [hkM] at km LP
    simp (config:={implicitDefEqProofs:=false}) [-zia,-St.obj,-St.set,h13,h14,k1,k2,km,-zil,-zit,-znl,-znt,ty3,ty4,ty22,ty23,ty25,ty26,ty31,ty34,ty42,ty53,ty59,ty65,ty67,eq59,H7,fi16_eq,fi36_eq,fi53_eq,fi55_eq,x18,fi58_eq,p18,fi200_eq,fi219_eq,fi220_eq,fi221_eq,x36,fi223_eq,p36,k28,x28,fi224_eq,p28,fi241_eq,fi242_eq,fi243_eq,E7,q7_46,e7_70,e7_53,e7_22,e7_20,e7_14,e7_8,n7_36,n7_59]
    refine LP _ _ _ _ ?_ (tame_val _)
    rfl
  have LC:=fun e13 e14 T X h13 h14=>LC247 l odd how id p ch (by omega) (.val (.slice (encSubs ys))) rfl (setF (dd st D) id l (nA l 0 J)) R H53 ch.length 0 e13 e14 T X h13 h14 (Nat.zero_le _) rfl
  rw [show ((0:Nat):Int)=0 from rfl] at LC
  simp (config:={implicitDefEqProofs:=false}) [-zia,-St.obj,-St.set,k0,k28,-zil,-zit,-znl,-znt,ty3,ty4,ty22,ty23,ty25,ty26,ty31,ty34,ty42,ty53,ty59,ty65,ty67,eq59,H7,fi16_eq,fi36_eq,fi53_eq,fi55_eq,x18,fi58_eq,p18,fi200_eq,fi219_eq,fi220_eq,fi221_eq,x36,fi223_eq,p36,k28,x28,fi224_eq,p28,fi241_eq,fi242_eq,fi243_eq,E7,q7_46,e7_70,e7_53,e7_22,e7_20,e7_14,e7_8,n7_36,n7_59]
  exact LC _ _ _ _ tame_any tame_any
theorem sub_frz {st:St} {id:Nat} (h:FeedOk st id) {ys:List Sub} (hn:ys≠[])(m k:Nat)(l:List Int)(a:Nat):frz 6 (setF (dd (nw st m (ys.flatMap Sub.cells)) k) id l a) (.sref false 4 (st.objs.length+m) 0 ys.length)=some (.slice (encSubs ys),setF (dd st (m+1+k)) id l a):=by
 rw [frz_row 5 (st.objs.length+m) 4 (by omega) Sub.cells Sub.cells sc_len sc_len (fun _=>rfl) (fun _=>rfl) (fun x=>by simp [Sub.cells,flats,V.flat]) ys hn (obj_mid h m k _ l a) (set_mid h m k _ l a)]
 rw [show Nat.blt 1 4=true from rfl,chunk_enc Sub.cells 4 (by omega) sc_len ys]
 rfl
theorem L7_20 (ys:List Sub)(hy:∀ s∈ys,FFV s.filter∧s.filter.length≤3)(hy2:ys.length≤18)(l odd:List Int)(how:Int)(p:List Int)(hpl:p.length≤8)(st:St)(id:Nat)(h:FeedOk st id)(J:Nat)(hJ:J<549755600000)(m k:Nat) :
  ∀ (T:List (Nat × E)) (X:List (Nat × List V)),
  evK gS fi7 c7_20 {ps:=[(0,.val (.slice (intVs l))),(1,.val (.slice (intVs odd))),(2,.val (.int .i64 how)),(6,.val (.bool false)),(7,.val (.ptr id 0)),(8,.own (kof 1 p) (intVs p)),(9,(rowE st m ys)),(10,.any),(11,.any),(12,.any),(13,.any),(14,.any)],ts:=T,lc:=X} (setF (rowS st m k ys) id l (nA l 0 J)) .nil=some (.ret (.bool true) none,setF (dd st (rowD m k ys+(gof ys).length)) id l (nA l 0 (attrsV l 0 J).2)):=by
 intro T X
 have hps:∀ s∈ys,PSm s.filter:=fun s hs=>psm_ffv (hy s hs)
 have k1:=fun fr st=>k27 p (by omega) ys hps (by omega) fr st
 have L87:=fun e9 T X h9=>L7_22 ys hy hy2 l odd how p hpl st id h J hJ (rowD m k ys) e9 T X h9
 generalize hR:(Out.ret (V.bool true) none,setF (dd st (rowD m k ys+(gof ys).length)) id l (nA l 0 (attrsV l 0 J).2))=R at L87 ⊢
 clear hR
 by_cases hn:ys=[]
 ·subst hn
  rw [rowE_nil,rowS_nil]
  rw [if_pos rfl,show rowD m k []=m+k from rfl] at L87
  rw [show encSubs []=[] from rfl] at k1
  simp (config:={implicitDefEqProofs:=false}) [-zia,-St.obj,-St.set,k1,frzM,frzStep,-zil,-zit,-znl,-znt,ty3,ty4,ty22,ty23,ty25,ty26,ty31,ty34,ty42,ty53,ty59,ty65,ty67,eq59,H7,fi16_eq,fi36_eq,fi53_eq,fi55_eq,x18,fi58_eq,p18,fi200_eq,fi219_eq,fi220_eq,fi221_eq,x36,fi223_eq,p36,k28,x28,fi224_eq,p28,fi241_eq,fi242_eq,fi243_eq,E7,q7_46,e7_70,e7_53,e7_20,e7_14,e7_8,n7_36,n7_59]
  exact L87 _ _ _ rfl
 ·rw [rowE_ne hn,rowS_ne hn]
  rw [if_neg hn,show rowD m k ys=m+1+k from if_neg hn] at L87
  have hz:=sub_frz h hn m k l (nA l 0 J)
  have q5:¬ ys.length=0:=by have:=List.length_pos_iff.2 hn;omega
  generalize ys.flatMap Sub.cells=CC at *
  simp (config:={implicitDefEqProofs:=false}) [-zia,-St.obj,-St.set,k1,hz,q5,hn,frzM,frzStep,-zil,-zit,-znl,-znt,ty3,ty4,ty22,ty23,ty25,ty26,ty31,ty34,ty42,ty53,ty59,ty65,ty67,eq59,H7,fi16_eq,fi36_eq,fi53_eq,fi55_eq,x18,fi58_eq,p18,fi200_eq,fi219_eq,fi220_eq,fi221_eq,x36,fi223_eq,p36,k28,x28,fi224_eq,p28,fi241_eq,fi242_eq,fi243_eq,E7,q7_46,e7_70,e7_53,e7_20,e7_14,e7_8,n7_36,n7_59]
  exact L87 _ _ _ rfl
theorem L7_14 (ys:List Sub)(hy:∀ s∈ys,FFV s.filter∧s.filter.length≤3)(hy2:ys.length≤18)(l odd:List Int)(how:Int)(p:List Int)(hpl:p.length≤7)(st:St)(id:Nat)(h:FeedOk st id)(J:Nat)(hJ:J<549755600000)(m k:Nat) :
  ∀ (T:List (Nat × E)) (X:List (Nat × List V)),
  evK gS fi7 c7_14 {ps:=[(0,.val (.slice (intVs l))),(1,.val (.slice (intVs odd))),(2,.val (.int .i64 how)),(6,.val (.bool false)),(7,.val (.ptr id 0)),(8,.own (kof 1 p) (intVs p)),(9,(rowE st m ys)),(10,.any),(11,.any),(12,.any),(13,.any),(14,.any)],ts:=T,lc:=X} (setF (rowS st m k ys) id l (nA l 0 J)) .nil=some (.ret (.bool true) none,setF (dd st (rowD m k ys+(gof ys).length)) id l (nA l 0 (attrsV l 0 J).2)):=by
 intro T X
 have hF:=rowE_firm st m ys
 have La:=fun T X=>L7_20 ys hy hy2 l odd how p (by omega) st id h J hJ m k T X
 have Lb:=fun T X=>L7_20 ys hy hy2 l odd how (p ++ [9]) (by simp;omega) st id h J hJ m k T X
 generalize hR:(Out.ret (V.bool true) none,setF (dd st (rowD m k ys+(gof ys).length)) id l (nA l 0 (attrsV l 0 J).2))=R at La Lb ⊢
 generalize rowE st m ys=E9 at *
 generalize setF (rowS st m k ys) id l (nA l 0 J)=S at *
 clear hR
 have hs1:=sizes_ints p
 have hs2:=ints_snoc p 9
 have b1:(p.length+1)*8≤140737488355328:=by omega
 have b2:p.length+1≤140737488355328:=by omega
 rw [kof_snoc] at Lb
 by_cases hc:how.tmod 17=1
 ·rcases kof_or 1 p with ⟨hk,hp0⟩ | hk
  ·rw [hp0,show intVs ([] ++ [9])=[.int .i64 9] from rfl] at Lb
   rw [hk,hp0,show intVs []=[] from rfl]
   simp (config:={implicitDefEqProofs:=false}) [-zia,-St.obj,-St.set,hF,hc,-zil,-zit,-znl,-znt,ty3,ty4,ty22,ty23,ty25,ty26,ty31,ty34,ty42,ty53,ty59,ty65,ty67,eq59,H7,fi16_eq,fi36_eq,fi53_eq,fi55_eq,x18,fi58_eq,p18,fi200_eq,fi219_eq,fi220_eq,fi221_eq,x36,fi223_eq,p36,k28,x28,fi224_eq,p28,fi241_eq,fi242_eq,fi243_eq,E7,q7_46,e7_70,e7_53,e7_22,e7_14,e7_8,n7_36,n7_59]
   exact Lb _ _
  ·rw [hk]
   simp (config:={implicitDefEqProofs:=false}) [-zia,-St.obj,-St.set,-zaa,hF,hc,hs1,hs2,b1,b2,-zil,-zit,-znl,-znt,ty3,ty4,ty22,ty23,ty25,ty26,ty31,ty34,ty42,ty53,ty59,ty65,ty67,eq59,H7,fi16_eq,fi36_eq,fi53_eq,fi55_eq,x18,fi58_eq,p18,fi200_eq,fi219_eq,fi220_eq,fi221_eq,x36,fi223_eq,p36,k28,x28,fi224_eq,p28,fi241_eq,fi242_eq,fi243_eq,E7,q7_46,e7_70,e7_53,e7_22,e7_14,e7_8,n7_36,n7_59]
   exact Lb _ _
 ·simp (config:={implicitDefEqProofs:=false}) [-zia,-St.obj,-St.set,hF,hc,-zil,-zit,-znl,-znt,ty3,ty4,ty22,ty23,ty25,ty26,ty31,ty34,ty42,ty53,ty59,ty65,ty67,eq59,H7,fi16_eq,fi36_eq,fi53_eq,fi55_eq,x18,fi58_eq,p18,fi200_eq,fi219_eq,fi220_eq,fi221_eq,x36,fi223_eq,p36,k28,x28,fi224_eq,p28,fi241_eq,fi242_eq,fi243_eq,E7,q7_46,e7_70,e7_53,e7_22,e7_14,e7_8,n7_36,n7_59]
  exact La _ _
theorem sc_broker {xs:List Sub} {i:Nat} {x:Sub} (h:xs[i]?=some x)(b:Int):splice (xs.flatMap Sub.cells) (i*4+1) [.int .i64 b]=some ((xs.set i ⟨x.client,b,x.num,x.filter⟩).flatMap Sub.cells) :=
 row_splice Sub.cells 4 sc_len h rfl
theorem c7 (l odd:List Int)(how:Int)(st:St)(hst:st.wp≤st.objs.length):∃ st',EvF gS 7 [.slice (intVs l),.slice (intVs odd),.int .i64 how] st=some (.ret (.bool true) none,st'):=by
 have h:=feedOk_new hst
 have n1:=new_feed st l
 have k0:=fun fr=>k26 l 0 0 st.objs.length 8 fr (nw st 0 []) h (by omega) (by omega) (by omega) (by omega)
 have hpr:=treeV_right l 0 0 (most:=8) (by omega) (by omega)
 have hj:=fd_bound l 0 0 (n:=8) (by omega)
 generalize treeV l 0 0 8=p at *
 generalize hJ0:0+1+(fd l 0 0 8).toNat=J0 at *
 have hJb:J0≤9:=by omega
 have hp7:p.length≤7:=by simp only [rightT,Bool.and_eq_true,decide_eq_true_eq] at hpr;omega
 have k1:=fun fr=>k10 l 0 J0 st.objs.length fr (nw st 0 []) h (by omega) (by omega) p (by omega)
 have hq:=subsW_eq l 0 J0 p.length
 have hall:=subsV_all l 0 J0 p.length
 have hask:=(subsV_asks l 0 J0 p.length).1
 have hlen:=(subsV_asks l 0 J0 p.length).2
 rw [← hq.1] at hall hlen
 rw [← hq.2] at hask
 clear hq
 generalize subsW l 0 J0 p.length=P1 at *
 obtain ⟨xs,J,M,D⟩:=P1
 simp only at k1 hall hask hlen
 have hy:∀ s∈xs,FFV s.filter∧s.filter.length≤3:=fun s hs=>(hall s hs).2.2
 generalize hid:st.objs.length=id at *
 have hE:=rowE_firm (nw st 0 []) M xs
 by_cases hgo:0<xs.length∧how.tmod 5=0
 ·obtain ⟨h1,hz⟩:=hgo
  have h1i:(0:Int)<(xs.length:Int):=by omega
  have hn:xs≠[]:=fun hh=>by rw [hh] at h1;simp at h1
  have k2:=fun fr=>k11 l 0 J id (xs.length:Int) fr (rowS (nw st 0 []) M D xs) (rowS_ok h M D xs) (by omega) (by omega) (by omega)
  have k3:=fun fr=>k11 l 0 (J+1) id 9 fr (rowS (nw st 0 []) M D xs) (rowS_ok h M D xs) (by omega) (by omega) (by omega)
  have b1:=fd_bound l 0 J (n:=(xs.length:Int)) (by omega)
  generalize fd l 0 J (xs.length:Int)=i0 at *
  generalize fd l 0 (J+1) 9=b0 at *
  obtain ⟨i,rfl⟩:∃ i:Nat,i0=(i:Int):=⟨i0.toNat,by omega⟩
  have hi:i<xs.length:=by omega
  have hi2:(i:Int)<(xs.length:Int):=by omega
  obtain ⟨x,hx⟩:∃ x,xs[i]?=some x:=⟨xs[i]'hi,zge hi⟩
  have hxm:=zmg hx
  generalize hY:xs.set i ⟨x.client,b0,x.num,x.filter⟩=ys
  have hyl:ys.length=xs.length:=by rw [← hY];simp
  have hyn:ys≠[]:=fun hh=>by rw [hh] at hyl;simp at hyl;omega
  have hyy:∀ s∈ys,FFV s.filter∧s.filter.length≤3:=fun s hs=>by
   rw [← hY] at hs
   rcases List.mem_or_eq_of_mem_set hs with hs | rfl
   ·exact hy s hs
   ·exact hy x hxm
  have LL:=fun T X=>L7_14 ys hyy (by omega) l odd how p hp7 (nw st 0 []) id h (J+1+1) (by omega) M D T X
  refine ⟨_,EvF_start fi247_eq (fun x h=>by cases h) m7 (?_:_=some (Out.ret (V.bool true) none,setF (dd (nw st 0 []) (rowD M D ys+(gof ys).length)) id l (nA l 0 (attrsV l 0 (J+1+1)).2)))⟩
  generalize hR:(Out.ret (V.bool true) none,setF (dd (nw st 0 []) (rowD M D ys+(gof ys).length)) id l (nA l 0 (attrsV l 0 (J+1+1)).2))=R at LL ⊢
  clear hR
  rw [rowE_ne hyn,rowS_ne hyn,hyl] at LL
  rw [rowE_ne hn,rowS_ne hn] at k1
  rw [rowS_ne hn] at k2 k3
  have s1:=sc_broker hx b0
  rw [hY] at s1
  have o0:=obj_mid h M D (xs.flatMap Sub.cells) l (nA l 0 (J+1+1))
  have w0:=fun cs=>set_mid' h M D (xs.flatMap Sub.cells) cs l (nA l 0 (J+1+1))
  have c0:=scells_len xs
  generalize ys.flatMap Sub.cells=C1 at *
  generalize xs.flatMap Sub.cells=C0 at *
  rw [st7]
  rcases kof_or 1 p with ⟨hkp,hp0⟩ | hkp
  ·rw [hp0,show kof 1 ([]:List Int)=0 from rfl,show intVs []=[] from rfl] at k0 LL
   rw [hp0,show intVs []=[] from rfl] at k1
   simp (config:={implicitDefEqProofs:=false}) [-zia,-St.obj,-St.set,n1,hid,k0,k1,-zil,-zit,-znl,-znt,ty3,ty4,ty22,ty23,ty25,ty26,ty31,ty34,ty42,ty53,ty59,ty65,ty67,eq59,H7,fi16_eq,fi36_eq,fi53_eq,fi55_eq,x18,fi58_eq,p18,fi200_eq,fi219_eq,fi220_eq,fi221_eq,x36,fi223_eq,p36,k28,x28,fi224_eq,p28,fi241_eq,fi242_eq,fi243_eq,E7,q7_46,e7_70,e7_53,e7_22,e7_20,e7_14,n7_36,n7_59]
   simp (config:={implicitDefEqProofs:=false}) [-zia,-St.obj,-St.set,-splice,k2,k3,hz,h1,h1i,hi,hi2,s1,o0,w0,c0,-zil,-zit,-znl,-znt,ty3,ty4,ty22,ty23,ty25,ty26,ty31,ty34,ty42,ty53,ty59,ty65,ty67,eq59,H7,fi16_eq,fi36_eq,fi53_eq,fi55_eq,x18,fi58_eq,p18,fi200_eq,fi219_eq,fi220_eq,fi221_eq,x36,fi223_eq,p36,k28,x28,fi224_eq,p28,fi241_eq,fi242_eq,fi243_eq,E7,q7_46,e7_70,e7_53,e7_22,e7_20,e7_8,n7_36,n7_59]
   exact LL _ _
  ·rw [hkp] at k0 LL
   simp (config:={implicitDefEqProofs:=false}) [-zia,-St.obj,-St.set,n1,hid,k0,k1,-zil,-zit,-znl,-znt,ty3,ty4,ty22,ty23,ty25,ty26,ty31,ty34,ty42,ty53,ty59,ty65,ty67,eq59,H7,fi16_eq,fi36_eq,fi53_eq,fi55_eq,x18,fi58_eq,p18,fi200_eq,fi219_eq,fi220_eq,fi221_eq,x36,fi223_eq,p36,k28,x28,fi224_eq,p28,fi241_eq,fi242_eq,fi243_eq,E7,q7_46,e7_70,e7_53,e7_22,e7_20,e7_14,n7_36,n7_59]
   simp (config:={implicitDefEqProofs:=false}) [-zia,-St.obj,-St.set,-splice,k2,k3,hz,h1,h1i,hi,hi2,s1,o0,w0,c0,-zil,-zit,-znl,-znt,ty3,ty4,ty22,ty23,ty25,ty26,ty31,ty34,ty42,ty53,ty59,ty65,ty67,eq59,H7,fi16_eq,fi36_eq,fi53_eq,fi55_eq,x18,fi58_eq,p18,fi200_eq,fi219_eq,fi220_eq,fi221_eq,x36,fi223_eq,p36,k28,x28,fi224_eq,p28,fi241_eq,fi242_eq,fi243_eq,E7,q7_46,e7_70,e7_53,e7_22,e7_20,e7_8,n7_36,n7_59]
   exact LL _ _
 ·have LL:=fun T X=>L7_14 xs hy hlen l odd how p hp7 (nw st 0 []) id h J (by omega) M D T X
  refine ⟨_,EvF_start fi247_eq (fun x h=>by cases h) m7 (?_:_=some (Out.ret (V.bool true) none,setF (dd (nw st 0 []) (rowD M D xs+(gof xs).length)) id l (nA l 0 (attrsV l 0 J).2)))⟩
  generalize (Out.ret (V.bool true) none,setF (dd (nw st 0 []) (rowD M D xs+(gof xs).length)) id l (nA l 0 (attrsV l 0 J).2))=R at LL ⊢
  rw [st7]
  by_cases hn:xs=[]
  ·subst hn
   rw [rowE_nil] at k1 LL
   rcases kof_or 1 p with ⟨hkp,hp0⟩ | hkp
   ·rw [hp0,show kof 1 ([]:List Int)=0 from rfl,show intVs []=[] from rfl] at k0 LL
    rw [hp0,show intVs []=[] from rfl] at k1
    simp (config:={implicitDefEqProofs:=false}) [-zia,-St.obj,-St.set,n1,hid,k0,k1,-zil,-zit,-znl,-znt,ty3,ty4,ty22,ty23,ty25,ty26,ty31,ty34,ty42,ty53,ty59,ty65,ty67,eq59,H7,fi16_eq,fi36_eq,fi53_eq,fi55_eq,x18,fi58_eq,p18,fi200_eq,fi219_eq,fi220_eq,fi221_eq,x36,fi223_eq,p36,k28,x28,fi224_eq,p28,fi241_eq,fi242_eq,fi243_eq,E7,q7_46,e7_70,e7_53,e7_22,e7_20,e7_8,n7_36,n7_59]
    exact LL _ _
   ·rw [hkp] at k0 LL
    simp (config:={implicitDefEqProofs:=false}) [-zia,-St.obj,-St.set,n1,hid,k0,k1,-zil,-zit,-znl,-znt,ty3,ty4,ty22,ty23,ty25,ty26,ty31,ty34,ty42,ty53,ty59,ty65,ty67,eq59,H7,fi16_eq,fi36_eq,fi53_eq,fi55_eq,x18,fi58_eq,p18,fi200_eq,fi219_eq,fi220_eq,fi221_eq,x36,fi223_eq,p36,k28,x28,fi224_eq,p28,fi241_eq,fi242_eq,fi243_eq,E7,q7_46,e7_70,e7_53,e7_22,e7_20,e7_8,n7_36,n7_59]
    exact LL _ _
  ·have h1:0<xs.length:=List.length_pos_iff.2 hn
   have h1i:(0:Int)<(xs.length:Int):=by omega
   have hz:¬ how.tmod 5=0:=fun hh=>hgo ⟨h1,hh⟩
   rw [rowE_ne hn] at k1 LL
   rcases kof_or 1 p with ⟨hkp,hp0⟩ | hkp
   ·rw [hp0,show kof 1 ([]:List Int)=0 from rfl,show intVs []=[] from rfl] at k0 LL
    rw [hp0,show intVs []=[] from rfl] at k1
    simp (config:={implicitDefEqProofs:=false}) [-zia,-St.obj,-St.set,n1,hid,k0,k1,h1,h1i,hz,-zil,-zit,-znl,-znt,ty3,ty4,ty22,ty23,ty25,ty26,ty31,ty34,ty42,ty53,ty59,ty65,ty67,eq59,H7,fi16_eq,fi36_eq,fi53_eq,fi55_eq,x18,fi58_eq,p18,fi200_eq,fi219_eq,fi220_eq,fi221_eq,x36,fi223_eq,p36,k28,x28,fi224_eq,p28,fi241_eq,fi242_eq,fi243_eq,E7,q7_46,e7_70,e7_53,e7_22,e7_20,e7_8,n7_36,n7_59]
    exact LL _ _
   ·rw [hkp] at k0 LL
    simp (config:={implicitDefEqProofs:=false}) [-zia,-St.obj,-St.set,n1,hid,k0,k1,h1,h1i,hz,-zil,-zit,-znl,-znt,ty3,ty4,ty22,ty23,ty25,ty26,ty31,ty34,ty42,ty53,ty59,ty65,ty67,eq59,H7,fi16_eq,fi36_eq,fi53_eq,fi55_eq,x18,fi58_eq,p18,fi200_eq,fi219_eq,fi220_eq,fi221_eq,x36,fi223_eq,p36,k28,x28,fi224_eq,p28,fi241_eq,fi242_eq,fi243_eq,E7,q7_46,e7_70,e7_53,e7_22,e7_20,e7_8,n7_36,n7_59]
    exact LL _ _
theorem run247 (l odd:List Int)(how:Int):∃ st',EvF gS 7 [.slice (intVs l),.slice (intVs odd),.int .i64 how] ⟨[],0⟩=some (.ret (.bool true) none,st'):=c7 l odd how ⟨[],0⟩ (Nat.le_refl _)
end
end Go.Proofs.Ytdoobejjedpcgaa
namespace Go.Ab
open Go Go.ChangeShapes Go.WideShapes
variable {H:Type} {enc:TypeId × Value→H} {P:Program} {w:World} {base b0:Nat} {spare:Nat→Bool} {held:Bool} {r:Reach}
theorem arg_ints {t e:TypeId} {k:IntKind} {v:Value} {d:DataW H} {ps:List MemPlace} (ht:P.underlying t=some (.slice e))(he:P.underlying e=some (.int k))(hc:P.cellsOf e=1)
  (hval:Value.okWide P w r b0 t v) (h:DataW.Trod enc P w base spare held t v d ps):∃ zs:List Int,Rep K0 w v (.slice (zs.map (V.int k)))∧∀ n∈zs,(Lit.int k n).wf=true:=by
 obtain ⟨a0,len,cap,rfl⟩:=okWide_slice ht hval
 obtain ⟨fuel,hf⟩:=h
 rcases open_ints ht he hc hf with ⟨hcs,_⟩ | ⟨a,len',cap',zs,hcs,_,hl,hm,hz,_,hcell,hwz⟩
 ·simp [Value.cells] at hcs
  obtain ⟨rfl,rfl,rfl⟩:=hcs
  exact ⟨[],.slice0 _ _,by simp⟩
 ·simp [Value.cells] at hcs
  obtain ⟨rfl,rfl,rfl⟩:=hcs
  have hzl:len≤zs.length:=by rw [hz];split <;> omega
  by_cases h0:len=0
  ·subst h0;exact ⟨[],.slice0 _ _,by simp⟩
  ·refine ⟨zs.take len,?_,fun n hn=>hwz n (List.mem_of_mem_take hn)⟩
   obtain ⟨b,off,spot⟩:=a
   have hspot:spot=none:=by simpa [Addr.add] using World.cell?_spot (hcell 0 (by omega))
   subst hspot
   have hlen:((zs.take len).map (V.int k)).length=len:=by simp;omega
   have hfl:((zs.take len).map (V.int k)).flatMap V.cells=(zs.take len).map (V.int k):=by
    generalize zs.take len=l
    induction l with
    | nil=>rfl
    | cons x r ih=>simp only [List.map_cons,List.flatMap_cons,ih];rfl
   have key:Rep K0 w (.slice (some (at_ b off)) ((zs.take len).map (V.int k)).length cap) (.slice ((zs.take len).map (V.int k))):=by
    refine .slice (k:=1) (by rw [hlen];exact hl) (fun x hx=>?_) ?_
    ·obtain ⟨n,_,rfl⟩:=List.mem_map.1 hx;rfl
    ·rw [hfl]
     refine RepAt.of_get fun j x hx=>?_
     rw [List.getElem?_map,List.getElem?_take] at hx
     split at hx
     ·rename_i hj
      have hjz:j<zs.length:=by omega
      rw [zge hjz] at hx
      simp only [Option.map_some,Option.some.injEq] at hx
      subst hx
      refine ⟨.int k zs[j],⟨?_,rfl⟩,.int _ _⟩
      have:=hcell j hjz
      simp only [List.getD,zge hjz,Option.getD_some] at this
      rwa [show ({block:=b,off:=off}:Addr)=at_ b off from rfl,addr_add] at this
     ·cases hx
   rw [hlen] at key
   exact key
theorem arg_int {t:TypeId} {k:IntKind} {v:Value} (ht:P.underlying t=some (.int k))(hval:Value.okWide P w r b0 t v):∃ n,Rep K0 w v (.int k n):=by
 obtain ⟨n,rfl⟩:=okWide_int ht hval
 exact ⟨n,.int _ _⟩
end Go.Ab
namespace Go.Ab
open Go Go.ChangeShapes Go.WideShapes
variable {H:Type} {enc:TypeId × Value→H} {P:Program} {w:World} {base b0:Nat} {spare:Nat→Bool} {held:Bool} {r:Reach}
inductive Ty where
 | bool | int (k:IntKind) | float (k:FloatKind) | str
 | sl (e:Ty)
 | st (fs:List Ty)
mutual
def Ty.size:Ty→Nat
 | .st fs=>Ty.sizes fs
 | _=>1
def Ty.sizes:List Ty→Nat
 | []=>0
 | f :: r=>f.size+Ty.sizes r
end
end Go.Ab
namespace Go.Proofs.Ytdoobejjedpcgaa
open Go Go.Ab Go.ChangeShapes Go.WideShapes Go.ChangeAt Go.RowKit
set_option maxRecDepth 100000 in
theorem chainTells_lifted (os:Os)(started:os.Started)(H:Type)(enc:TypeId × Value→H) :
  ReturnsInHanded {} Try.checked os 7 .any (Rows.chainTellsSpec.pre6 enc Try.prog Try.f7 Rows.chainTellsRow.domain false) (Rows.chainTellsSpec.post enc Try.prog Try.f7 false true false false):=by
 refine returnsInHanded_of_change_sized (C:=Try.checked) Try.own started (by kernel_rfl) Try.func7
  (ChangeSpec.witness6 (enc:=enc) (C:=Try.checked) false ⟨#[],#[.slice none 0 0,.slice none 0 0,.int .i64 0],[]⟩ 8 (by kernel_rfl) (by kernel_rfl) (by kernel_rfl) (by kernel_rfl)) ?_
 intro W base args ds gs before hval0 hW _ hsz0 _
 have hW':=hW
 obtain ⟨p,q,hA0,hV,rfl,_,_⟩:=hW
 have hA:DataW.TrodAll enc Try.prog W 0 (fun _=>true) true Try.f7.params.toList args.toList ds p:=hA0
 have hpar:Try.f7.params=#[22,22,3]:=by kernel_rfl
 have hval:∀ (j:Nat) t v,Try.f7.params[j]?=some t→args[j]?=some v→Value.okWide Try.prog W .any base t v:=hval0
 rw [hpar] at hA hval
 obtain ⟨l⟩:=args
 obtain ⟨v0,l,d0,ds,p0,r0,rfl,rfl,rfl,h0,hA⟩:=trodAll_cons hA
 obtain ⟨v1,l,d1,ds,p1,r1,rfl,rfl,rfl,h1,hA⟩:=trodAll_cons hA
 obtain ⟨v2,l,d2,ds,p2,r2,rfl,rfl,rfl,h2,hA⟩:=trodAll_cons hA
 obtain ⟨rfl,rfl,rfl⟩:=trodAll_nil hA
 obtain ⟨rfl,rfl⟩:=trodVars_none hV
 obtain ⟨x0,a0,_⟩:=arg_ints Try.underlying22 Try.underlying3 (by kernel_rfl) (hval 0 22 v0 rfl rfl) h0
 obtain ⟨x1,a1,_⟩:=arg_ints Try.underlying22 Try.underlying3 (by kernel_rfl) (hval 1 22 v1 rfl rfl) h1
 obtain ⟨x2,a2⟩:=arg_int Try.underlying3 (hval 2 3 v2 rfl rfl)
 have hlt:∀ y∈p0 ++ (p1 ++ (p2 ++ [])) ++ [],y.block<W.heap.size:=fun y hy=>hW'.lt y hy
 have hr:Reps K0 W [v0,v1,v2] [.slice (intVs x0),.slice (intVs x1),.int .i64 x2]:=.cons a0 (.cons a1 (.cons a2 .nil))
 obtain ⟨st',hev⟩:=run247 x0 x1 x2
 obtain ⟨nn,hrun⟩:=EvF_fuel hev
 refine (law_calls (n:=nn) (f:=7) (xs:=[.slice (intVs x0),.slice (intVs x1),.int .i64 x2]) (gS_calls nn) (by rw [hrun]) (W:=W) (args:=#[v0,v1,v2]) hr).mono ?_
 rintro e W' ⟨rfl,hn⟩
 refine ⟨_,rfl,_,_,_,[],p0 ++ (p1 ++ (p2 ++ [])),[],hW',?_,?_,rfl,hn.frame _,fun h=>by cases h⟩
 ·exact trodAll_mk1 (shut_bool Try.underlying4 true)
 ·exact ⟨p0,_,Below.trod Try.laidOut (by kernel_rfl) (of_decide_eq_true (by kernel_rfl)) h0 hn (fun y hy=>hlt y (by simp [hy])),⟨p1,_,Below.trod Try.laidOut (by kernel_rfl) (of_decide_eq_true (by kernel_rfl)) h1 hn (fun y hy=>hlt y (by simp [hy])),⟨p2,_,Below.trod Try.laidOut (by kernel_rfl) (of_decide_eq_true (by kernel_rfl)) h2 hn (fun y hy=>hlt y (by simp [hy])),rfl,rfl⟩,rfl⟩,rfl⟩
theorem chainTells_holds:Rows.ChainTellsSaid :=
 OpenClaim.holds_of_wide 7 Try.f7 rfl rfl rfl rfl rfl rfl rfl ⟨rfl,rfl,rfl,rfl,rfl⟩ rfl rfl rfl rfl rfl (by kernel_rfl) Try.func7 (by kernel_rfl)
  (of_decide_eq_true (by kernel_rfl)) (by unfold Func.isWrapper;first | (rw [if_pos (by decide +kernel)];kernel_rfl) | (rw [if_neg (by decide +kernel)];exact ⟨rfl,rfl⟩))
  (fun os started H enc _=>chainTells_lifted os started H enc)
#print axioms chainTells_holds
end Go.Proofs.Ytdoobejjedpcgaa
