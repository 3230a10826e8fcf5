/- Of any tree, any Subs, right or not, the chain, ways, own places are as the document says. Part 6. -/
import Derived.Test.YtdoobejjedpcgaaK5
set_option linter.unusedVariables false
set_option linter.unusedSimpArgs false
set_option linter.unnecessarySimpa false
set_option maxHeartbeats 8000000
set_option maxRecDepth 20000
open Int renaming not_le → zil, not_lt → zit, natCast_add → zia
open Nat renaming not_le → znl, not_lt → znt
open List renaming getElem?_eq_getElem → zge, getElem?_eq_some_iff → zgs, append_assoc → zaa, mem_of_getElem? → zmg, length_append → zla
namespace Go.Proofs.Ytdoobejjedpcgaa
open Go Go.Ab
noncomputable section
variable (fr:Fr)(st:St)(k:Kt)
def fi62:FI:={body:=codeOf Try.f62,ntmps:=17,results:=[.tmp 4],pers:=[0,1,4,6,7,8,9],locals:=[],pure:=true,marks:=[]}
theorem H62:fi62.marks=[]∧fi62.locals=[]∧fi62.results=[.tmp 4]:=⟨rfl,rfl,rfl⟩
theorem fi218_eq:gS.fn 62=some fi62:=by kernel_rfl
theorem st62 (a0 a1:V):startFr fi62 [a0,a1]={ps:=[(0,.val a0),(1,.val a1),(4,.any),(6,.any),(7,.any),(8,.any),(9,.any)],ts:=[],lc:=[]}:=rfl
def b62:Code:=mini (codeOf Try.f62)
def c62_20:Code:=.seq (codeN b62 9829) .ret
def c62_19:Code:=.cond (.tmp 15) c62_20 .skip
def c62_17:Code:=.seq (codeN b62 2661) c62_19
def c62_15:Code:=.seq (codeN b62 1125) c62_17
def c62_24:Code:=codeN b62 485
def c62_13:Code:=.seq (.block 1 c62_15) c62_24
def c62_9:Code:=.seq (.cond (.tmp 10) .skip (.exit 0)) c62_13
def c62_7:Code:=.seq (codeN b62 69) c62_9
def c62_6:Code:=.loop c62_7
def c62_5:Code:=.block 0 c62_6
def c62_3:Code:=.seq (codeN b62 9) c62_5
def c62_25:Code:=.seq (codeN b62 11) .ret
def c62_2:Code:=.seq c62_3 c62_25
def c62_0:Code:=.seq (codeN b62 2) c62_2
theorem E62:evK gS fi62 c62_20 fr st k=opsR gS fi62 [qA 4 true 4] fr st (.seq .ret k) ∧
 evK gS fi62 c62_19 fr st k=condK gS fi62 (fr.op (.tmp 15)).bool? c62_20 .skip fr st k ∧
 (evK gS fi62 c62_17 fr st k=opsR gS fi62 [mv 13 6 3,
 mv 14 1 3,
 bop 15 .eql 3 13 14 3 4] fr st (.seq c62_19 k)) ∧
 (evK gS fi62 c62_15 fr st k=opsR gS fi62 [ixa 11 22 7 9 0,
 ld 12 3 11 3,
 asn 6 12 3] fr st (.seq c62_17 k)) ∧
 (evK gS fi62 c62_24 fr st k=opsR gS fi62 [qB 16 .add 3 9 1 3 3,
 mv 9 16 3] fr st k) ∧
 evK gS fi62 c62_13 fr st k=evK gS fi62 c62_15 fr st (.blk 1 (.seq c62_24 k)) ∧
 evK gS fi62 c62_9 fr st k=condK gS fi62 (fr.op (.tmp 10)).bool? .skip (.exit 0) fr st (.seq c62_13 k) ∧
 evK gS fi62 c62_7 fr st k=opsR gS fi62 [bop 10 .lss 3 9 8 3 0] fr st (.seq c62_9 k) ∧
 evK gS fi62 c62_5 fr st k=evK gS fi62 c62_6 fr st (.blk 0 k) ∧
 (evK gS fi62 c62_3 fr st k=opsR gS fi62 [mv 7 0 22,
 len1 8 7 22 3,
 op1 9 (.move (.const (.int .i64 0))) 3] fr st (.seq c62_5 k)) ∧
 evK gS fi62 c62_25 fr st k=opsR gS fi62 [qA 4 false 4] fr st (.seq .ret k) ∧
 evK gS fi62 c62_2 fr st k=evK gS fi62 c62_3 fr st (.seq c62_25 k) ∧
 evK gS fi62 c62_0 fr st k=opsR gS fi62 [qA 4 false 4] fr st (.seq c62_2 k):=⟨evK_rs 5 rfl (by kernel_rfl),rfl,evK_rs 4 rfl (by kernel_rfl),evK_rs 3 rfl (by kernel_rfl),evK_r 6 (by kernel_rfl),rfl,rfl,evK_rs 2 rfl (by kernel_rfl),rfl,evK_rs 1 rfl (by kernel_rfl),evK_rs 7 rfl (by kernel_rfl),rfl,evK_rs 0 rfl (by kernel_rfl)⟩
theorem m62:mini fi62.body=c62_0:=by kernel_rfl
theorem n62_6 (fr:Fr)(st:St)(k:Kt):nextK gS fi62 (.loop c62_7 k) .normal fr st=evK gS fi62 c62_6 fr st k:=rfl
theorem L62_6 (l:List Int)(n0:Int)(h_l:l.length<4611686018427387904)(st:St):∀ (n i:Nat) (j:Int)  (e0 e6:E) (T:List (Nat × E)) (X:List (Nat × List V)) (ht0:e0.Tame) (ht6:e6.Tame) ,j=(i:Int)→i≤(l).length→(l).length - i=n →
  evK gS fi62 c62_6 {ps:=[(0,e0),(1,.val (.int .i64 n0)),(4,.val (.bool false)),(6,e6),(7,.val (.slice (intVs l))),(8,.val (.int .i64 l.length)),(9,.val (.int .i64 j))],ts:=T,lc:=X} st (.blk 0 (.seq c62_25 .nil))=some ((.ret (.bool (hasI (l.drop i) n0)) none),st):=by
 intro n
 induction n with
 | zero =>
  intro i j  e0 e6 T X ht0 ht6  hj hi hn
  obtain rfl:i=(l).length:=by omega
  subst hj
  refine evK_loop c62_7 _ st _ _ rfl ?_
  simp (config:={contextual:=true,maxSteps:=10000000,maxDischargeDepth:=6}) [-zil,-zit,-znl,-znt,ty3,ty4,ty22,H62,E62,n62_6,ht0,ht6]
  all_goals try simp (config:={contextual:=true}) [-zil,-zit,-znl,-znt,hasI]
  all_goals first | done | grind | omega
 | succ n ih =>
  intro i j  e0 e6 T X ht0 ht6  hj hi hn
  subst hj
  obtain ⟨x,hx⟩  := qgx (l:=(l)) (i:=i) (by omega)
  have hd:=drop_get hx
  have hlt:(i:Int)<((l).length:Int):=by omega
  have hlt2:i<(l).length:=by omega
  have hxe:(l)[i]'hlt2=x:=by rw [zge hlt2] at hx;exact Option.some.inj hx
  have hw:IntKind.wrap .i64 ((i:Int)+1)=(i:Int)+1:=wrap64 (by omega) (by omega)
  have IH:=fun e0 e6 T X ht0 ht6=>ih (i+1) ((i:Int)+1) e0 e6 T X ht0 ht6 rfl (by omega) (by omega)
  refine evK_loop c62_7 _ st _ _ rfl ?_
  simp (config:={contextual:=true,maxSteps:=10000000,maxDischargeDepth:=6}) [-zil,-zit,-znl,-znt,ty3,ty4,ty22,H62,E62,n62_6,ht0,ht6,hx,hxe,hd,hlt,hlt2,hw,IH]
  all_goals try simp (config:={contextual:=true}) [-zil,-zit,-znl,-znt,hasI]
  all_goals first | done | grind | omega
theorem c62 (l:List Int)(n0:Int)  (h_l:l.length<4611686018427387904) (st:St):EvF gS 62 [.slice (intVs l),.int .i64 n0] st=some (.ret (.bool (hasI l n0)) none,st):=by
 refine EvF_start fi218_eq (fun x h=>by cases h) m62 ?_
 rw [st62]
 simp (config:={contextual:=true,maxSteps:=10000000,maxDischargeDepth:=6}) [-zil,-zit,-znl,-znt,ty3,ty4,ty22,H62,E62,n62_6,(fun e0 e6 T X ht0 ht6=>L62_6 l n0 h_l st _ 0 0  e0 e6 T X ht0 ht6 rfl (Nat.zero_le _) rfl),h_l]
 all_goals try simp (config:={contextual:=true}) [-zil,-zit,-znl,-znt,hasI]
 all_goals first | done | grind | omega
theorem k62 (l:List Int)(n0:Int)  (h_l:l.length<4611686018427387904) (fr:Fr) (st:St):callStep gS (EvF gS) 62 [.slice (intVs l),.int .i64 n0] fr st=some (.ok (retE none (.bool (hasI l n0))) fr st) :=
 call_pure rfl fi218_eq rfl (fun st=>c62 l n0 h_l st) (by simp)
def fi88:FI:={body:=codeOf Try.f88,ntmps:=23,results:=[.tmp 2],pers:=[0,2,3,4,5,6,7],locals:=[],pure:=true,marks:=[]}
theorem H88:fi88.marks=[]∧fi88.locals=[]∧fi88.results=[.tmp 2]:=⟨rfl,rfl,rfl⟩
theorem fi201_eq:gS.fn 88=some fi88:=by kernel_rfl
theorem st88 (a0:V):startFr fi88 [a0]={ps:=[(0,.val a0),(2,.any),(3,.any),(4,.any),(5,.any),(6,.any),(7,.any)],ts:=[],lc:=[]}:=rfl
def b88:Code:=mini (codeOf Try.f88)
def c88_20:Code:=.seq (codeN b88 9829) .ret
def c88_19:Code:=.cond (.tmp 18) c88_20 .skip
def c88_17:Code:=.seq (codeN b88 2661) c88_19
def c88_15:Code:=.seq (codeN b88 1125) c88_17
def c88_24:Code:=codeN b88 485
def c88_13:Code:=.seq (.block 1 c88_15) c88_24
def c88_9:Code:=.seq (.cond (.tmp 8) .skip (.exit 0)) c88_13
def c88_7:Code:=.seq (codeN b88 69) c88_9
def c88_6:Code:=.loop c88_7
def c88_5:Code:=.block 0 c88_6
def c88_3:Code:=.seq (codeN b88 9) c88_5
def c88_25:Code:=.seq (codeN b88 11) .ret
def c88_2:Code:=.seq c88_3 c88_25
def c88_0:Code:=.seq (codeN b88 2) c88_2
theorem E88:evK gS fi88 c88_20 fr st k=opsR gS fi88 [qA 2 false 4] fr st (.seq .ret k) ∧
 evK gS fi88 c88_19 fr st k=condK gS fi88 (fr.op (.tmp 18)).bool? c88_20 .skip fr st k ∧
 (evK gS fi88 c88_17 fr st k=opsR gS fi88 [mv 12 4 3,
 qB 13 .lss 3 12 0 3 4,
 mv 14 13 4,
 qm 15 4 3 2 false,
 qm 16 3 3 2 false,
 qb 17 .gtr 3 15 16 3 4 2 false,
 qQ 18 14 true 17 4] fr st (.seq c88_19 k)) ∧
 (evK gS fi88 c88_15 fr st k=opsR gS fi88 [mv 9 7 3,
 ixa 10 22 5 7 0,
 ld 11 3 10 3,
 asn 3 9 3,
 asn 4 11 3] fr st (.seq c88_17 k)) ∧
 (evK gS fi88 c88_24 fr st k=opsR gS fi88 [qB 19 .add 3 7 1 3 3,
 mv 7 19 3] fr st k) ∧
 evK gS fi88 c88_13 fr st k=evK gS fi88 c88_15 fr st (.blk 1 (.seq c88_24 k)) ∧
 evK gS fi88 c88_9 fr st k=condK gS fi88 (fr.op (.tmp 8)).bool? .skip (.exit 0) fr st (.seq c88_13 k) ∧
 evK gS fi88 c88_7 fr st k=opsR gS fi88 [bop 8 .lss 3 7 6 3 0] fr st (.seq c88_9 k) ∧
 evK gS fi88 c88_5 fr st k=evK gS fi88 c88_6 fr st (.blk 0 k) ∧
 (evK gS fi88 c88_3 fr st k=opsR gS fi88 [mv 5 0 22,
 len1 6 5 22 3,
 op1 7 (.move (.const (.int .i64 0))) 3] fr st (.seq c88_5 k)) ∧
 (evK gS fi88 c88_25 fr st k=opsR gS fi88 [mv 20 0 22,
 len1 21 20 22 3,
 qB 22 .leq 3 21 7 3 4,
 asn 2 22 4] fr st (.seq .ret k)) ∧
 evK gS fi88 c88_2 fr st k=evK gS fi88 c88_3 fr st (.seq c88_25 k) ∧
 evK gS fi88 c88_0 fr st k=opsR gS fi88 [qA 2 false 4] fr st (.seq c88_2 k):=⟨evK_rs 5 rfl (by kernel_rfl),rfl,evK_rs 4 rfl (by kernel_rfl),evK_rs 3 rfl (by kernel_rfl),evK_r 6 (by kernel_rfl),rfl,rfl,evK_rs 2 rfl (by kernel_rfl),rfl,evK_rs 1 rfl (by kernel_rfl),evK_rs 7 rfl (by kernel_rfl),rfl,evK_rs 0 rfl (by kernel_rfl)⟩
theorem m88:mini fi88.body=c88_0:=by kernel_rfl
theorem n88_6 (fr:Fr)(st:St)(k:Kt):nextK gS fi88 (.loop c88_7 k) .normal fr st=evK gS fi88 c88_6 fr st k:=rfl
theorem L88_6 (l:List Int)(h_l:l.length<4611686018427387904)(st:St):∀ (n i:Nat) (j:Int)  (e3 e4:E) (T:List (Nat × E)) (X:List (Nat × List V)) (ht3:e3.Tame) (ht4:e4.Tame) ,j=(i:Int)→i≤(l).length→(l).length - i=n →
  evK gS fi88 c88_6 {ps:=[(0,.val (.slice (intVs l))),(2,.val (.bool false)),(3,e3),(4,e4),(5,.val (.slice (intVs l))),(6,.val (.int .i64 l.length)),(7,.val (.int .i64 j))],ts:=T,lc:=X} st (.blk 0 (.seq c88_25 .nil))=some ((.ret (.bool (upT i (l.drop i) && decide ((l.length:Int)≤7))) none),st):=by
 intro n
 induction n with
 | zero =>
  intro i j  e3 e4 T X ht3 ht4  hj hi hn
  obtain rfl:i=(l).length:=by omega
  subst hj
  refine evK_loop c88_7 _ st _ _ rfl ?_
  simp (config:={contextual:=true,maxSteps:=10000000,maxDischargeDepth:=6}) [-zil,-zit,-znl,-znt,ty3,ty4,ty22,H88,E88,n88_6,ht3,ht4]
  all_goals try simp (config:={contextual:=true}) [-zil,-zit,-znl,-znt,upT_cons,upT]
  all_goals first | done | grind | omega
 | succ n ih =>
  intro i j  e3 e4 T X ht3 ht4  hj hi hn
  subst hj
  obtain ⟨x,hx⟩  := qgx (l:=(l)) (i:=i) (by omega)
  have hd:=drop_get hx
  have hlt:(i:Int)<((l).length:Int):=by omega
  have hlt2:i<(l).length:=by omega
  have hxe:(l)[i]'hlt2=x:=by rw [zge hlt2] at hx;exact Option.some.inj hx
  have hw:IntKind.wrap .i64 ((i:Int)+1)=(i:Int)+1:=wrap64 (by omega) (by omega)
  have IH:=fun e3 e4 T X ht3 ht4=>ih (i+1) ((i:Int)+1) e3 e4 T X ht3 ht4 rfl (by omega) (by omega)
  refine evK_loop c88_7 _ st _ _ rfl ?_
  simp (config:={contextual:=true,maxSteps:=10000000,maxDischargeDepth:=6}) [-zil,-zit,-znl,-znt,ty3,ty4,ty22,H88,E88,n88_6,ht3,ht4,hx,hxe,hd,hlt,hlt2,hw,IH]
  all_goals try simp (config:={contextual:=true}) [-zil,-zit,-znl,-znt,upT_cons,upT]
  all_goals first | done | grind | omega
theorem c88 (l:List Int)  (h_l:l.length<4611686018427387904) (st:St):EvF gS 88 [.slice (intVs l)] st=some (.ret (.bool (rightT l)) none,st):=by
 refine EvF_start fi201_eq (fun x h=>by cases h) m88 ?_
 rw [st88]
 simp (config:={contextual:=true,maxSteps:=10000000,maxDischargeDepth:=6}) [-zil,-zit,-znl,-znt,ty3,ty4,ty22,H88,E88,n88_6,(fun e3 e4 T X ht3 ht4=>L88_6 l h_l st _ 0 0  e3 e4 T X ht3 ht4 rfl (Nat.zero_le _) rfl),h_l]
 all_goals try simp (config:={contextual:=true}) [-zil,-zit,-znl,-znt,rightT]
 all_goals first | done | grind | omega
theorem k88 (l:List Int)  (h_l:l.length<4611686018427387904) (fr:Fr) (st:St):callStep gS (EvF gS) 88 [.slice (intVs l)] fr st=some (.ok (retE none (.bool (rightT l))) fr st) :=
 call_pure rfl fi201_eq rfl (fun st=>c88 l h_l st) (by simp)
def fi72:FI:={body:=codeOf Try.f72,ntmps:=17,results:=[.tmp 4],pers:=[0,1,4],locals:=[],pure:=true,marks:=[]}
theorem H72:fi72.marks=[]∧fi72.locals=[]∧fi72.results=[.tmp 4]:=⟨rfl,rfl,rfl⟩
theorem fi202_eq:gS.fn 72=some fi72:=by kernel_rfl
theorem st72 (a0 a1:V):startFr fi72 [a0,a1]={ps:=[(0,.val a0),(1,.val a1),(4,.any)],ts:=[],lc:=[]}:=rfl
def b72:Code:=mini (codeOf Try.f72)
def c72_2:Code:=.seq (codeN b72 5) .ret
theorem e72_2:evK gS fi72 c72_2 fr st k=opsR gS fi72 [mv 5 0 22,
 cal 6 88 [(.tmp 5)] [22] 4,
 mv 7 6 4,
 qm 8 1 3 2 true,
 qc 9 .geq 3 8 0 3 4 2 true,
 qP 10 7 9 false 4,
 mv 11 10 4,
 qm 12 1 3 6 true,
 qm 13 0 22 6 true,
 qe 14 13 22 3 6 true,
 qb 15 .leq 3 12 14 3 4 6 true,
 qP 16 11 15 false 4,
 asn 4 16 4] fr st (.seq .ret k):=evK_rs 1 rfl (by kernel_rfl)
def c72_0:Code:=.seq (codeN b72 2) c72_2
theorem e72_0:evK gS fi72 c72_0 fr st k=opsR gS fi72 [qA 4 false 4] fr st (.seq c72_2 k):=evK_rs 0 rfl (by kernel_rfl)
theorem m72:mini fi72.body=c72_0:=by kernel_rfl
theorem c72 (l:List Int)(b:Int)  (h_l:l.length<4611686018427387904) (st:St):EvF gS 72 [.slice (intVs l),.int .i64 b] st=some (.ret (.bool (isT l b)) none,st):=by
 refine EvF_start fi202_eq (fun x h=>by cases h) m72 ?_
 rw [st72]
 simp (config:={contextual:=true,maxSteps:=10000000,maxDischargeDepth:=6}) [-zil,-zit,-znl,-znt,ty3,ty4,ty22,H72,k88,e72_2,e72_0,h_l]
 all_goals try simp (config:={contextual:=true}) [-zil,-zit,-znl,-znt,isT]
 all_goals first | done | grind | omega
theorem k72 (l:List Int)(b:Int)  (h_l:l.length<4611686018427387904) (fr:Fr) (st:St):callStep gS (EvF gS) 72 [.slice (intVs l),.int .i64 b] fr st=some (.ok (retE none (.bool (isT l b))) fr st) :=
 call_pure rfl fi202_eq rfl (fun st=>c72 l b h_l st) (by simp)
def fi90:FI:={body:=codeOf Try.f90,ntmps:=34,results:=[.tmp 4],pers:=[0,1,2,3,4],locals:=[2,3],pure:=true,marks:=[]}
theorem H90:fi90.marks=[]∧fi90.locals=[2,3]∧fi90.results=[.tmp 4]:=⟨rfl,rfl,rfl⟩
theorem fi216_eq:gS.fn 90=some fi90:=by kernel_rfl
theorem st90 (a0 a1:V):startFr fi90 [a0,a1]={ps:=[(0,.val a0),(1,.val a1),(2,.any),(3,.any),(4,.any)],ts:=[],lc:=[]}:=rfl
def b90:Code:=mini (codeOf Try.f90)
def c90_6:Code:=.seq (codeN b90 37) .ret
def c90_5:Code:=.cond (.tmp 9) c90_6 .skip
def c90_3:Code:=.seq (codeN b90 9) c90_5
def c90_10:Code:=.seq (codeN b90 11) .ret
def c90_2:Code:=.seq c90_3 c90_10
def c90_0:Code:=.seq (codeN b90 2) c90_2
theorem E90:(evK gS fi90 c90_6 fr st k=opsR gS fi90 [qF 10 59 2 2 0,
 ld 11 3 10 3,
 qF 12 59 3 2 0,
 ld 13 3 12 3,
 bop 14 .lss 3 11 13 3 4,
 asn 4 14 4] fr st (.seq .ret k)) ∧
 evK gS fi90 c90_5 fr st k=condK gS fi90 (fr.op (.tmp 9)).bool? c90_6 .skip fr st k ∧
 (evK gS fi90 c90_3 fr st k=opsR gS fi90 [qF 5 59 2 2 0,
 ld 6 3 5 3,
 qF 7 59 3 2 0,
 ld 8 3 7 3,
 bop 9 .neq 3 6 8 3 4] fr st (.seq c90_5 k)) ∧
 (evK gS fi90 c90_10 fr st k=opsR gS fi90 [qF 15 59 2 0 0,
 ld 16 3 15 3,
 qF 17 59 3 0 0,
 ld 18 3 17 3,
 bop 19 .lss 3 16 18 3 4,
 mv 20 19 4,
 qf 21 59 2 0 0 5 false,
 ql 22 3 21 3 5 false,
 qf 23 59 3 0 0 5 false,
 ql 24 3 23 3 5 false,
 qb 25 .eql 3 22 24 3 4 5 false,
 qm 26 25 4 5 false,
 qf 27 59 2 1 0 11 true,
 ql 28 3 27 3 11 true,
 qf 29 59 3 1 0 11 true,
 ql 30 3 29 3 11 true,
 qb 31 .lss 3 28 30 3 4 11 true,
 mk (some 32) (.pick (.tmp 26) (.tmp 31) (.const (.bool false))) 4 (some (5,false)),
 qQ 33 20 true 32 4,
 asn 4 33 4] fr st (.seq .ret k)) ∧
 evK gS fi90 c90_2 fr st k=evK gS fi90 c90_3 fr st (.seq c90_10 k) ∧
 (evK gS fi90 c90_0 fr st k=opsR gS fi90 [op1 2 (.box 59 (.tmp 0)) 0,
 op1 3 (.box 59 (.tmp 1)) 0,
 qA 4 false 4] fr st (.seq c90_2 k)):=⟨evK_rs 2 rfl (by kernel_rfl),rfl,evK_rs 1 rfl (by kernel_rfl),evK_rs 3 rfl (by kernel_rfl),rfl,evK_rs 0 rfl (by kernel_rfl)⟩
theorem m90:mini fi90.body=c90_0:=by kernel_rfl
theorem c90 (x:Atom)(y:Atom)  (st:St):EvF gS 90 [x.enc,y.enc] st=some (.ret (.bool (aheadA x y)) none,st):=by
 refine EvF_start fi216_eq (fun x h=>by cases h) m90 ?_
 rw [st90]
 simp (config:={contextual:=true,maxSteps:=10000000,maxDischargeDepth:=6}) [-zil,-zit,-znl,-znt,ty3,ty4,ty59,eq59,H90,E90]
 all_goals try simp (config:={contextual:=true}) [-zil,-zit,-znl,-znt,aheadA]
 all_goals first | done | grind | omega
theorem k90 (x_a:Int)(x_b:Int)(x_r:Int)(y_a:Int)(y_b:Int)(y_r:Int)  (fr:Fr) (st:St):callStep gS (EvF gS) 90 [.agg [.int .i64 x_a,.int .i64 x_b,.int .i64 x_r],.agg [.int .i64 y_a,.int .i64 y_b,.int .i64 y_r]] fr st=some (.ok (retE none (.bool (aheadA (⟨x_a,x_b,x_r⟩:Atom) (⟨y_a,y_b,y_r⟩:Atom)))) fr st) :=
 call_pure rfl fi216_eq rfl (fun st=>c90 (⟨x_a,x_b,x_r⟩:Atom) (⟨y_a,y_b,y_r⟩:Atom)  st) (by simp)
theorem x90:gS.ext 90=none:=rfl
theorem p90:fi90.pure=true:=rfl
def fi30:FI:={body:=codeOf Try.f30,ntmps:=31,results:=[.tmp 4],pers:=[0,1,4,5,6,7,8,9,10],locals:=[7],pure:=true,marks:=[1000000]}
theorem H30:fi30.marks=[1000000]∧fi30.locals=[7]∧fi30.results=[.tmp 4]:=⟨rfl,rfl,rfl⟩
theorem fi220_eq:gS.fn 30=some fi30:=by kernel_rfl
theorem st30 (a0 a1:V):startFr fi30 [a0,a1]={ps:=[(0,.val a0),(1,.val a1),(4,.any),(5,.any),(6,.any),(7,.any),(8,.any),(9,.any),(10,.any)],ts:=[],lc:=[]}:=rfl
def b30:Code:=mini (codeOf Try.f30)
def c30_22:Code:=codeN b30 11467
def c30_21:Code:=.cond (.tmp 24) c30_22 .skip
def c30_19:Code:=.seq (codeN b30 5323) c30_21
def c30_17:Code:=.seq (codeN b30 2251) c30_19
def c30_24:Code:=codeN b30 971
def c30_15:Code:=.seq (.block 1 c30_17) c30_24
def c30_11:Code:=.seq (.cond (.tmp 11) .skip (.exit 0)) c30_15
def c30_9:Code:=.seq (codeN b30 139) c30_11
def c30_8:Code:=.loop c30_9
def c30_7:Code:=.block 0 c30_8
def c30_5:Code:=.seq (codeN b30 19) c30_7
def c30_25:Code:=.seq (codeN b30 23) .ret
def c30_4:Code:=.seq c30_5 c30_25
def c30_2:Code:=.seq (codeN b30 5) c30_4
def c30_0:Code:=.seq (codeN b30 2) c30_2
theorem E30:(evK gS fi30 c30_22 fr st k=opsR gS fi30 [mv 25 5 22,
 mv 26 6 3,
 qS 27 22 26 22,
 qE 28 25 27 22 22,
 asn 5 28 22] fr st k) ∧
 evK gS fi30 c30_21 fr st k=condK gS fi30 (fr.op (.tmp 24)).bool? c30_22 .skip fr st k ∧
 (evK gS fi30 c30_19 fr st k=opsR gS fi30 [mv 15 1 22,
 qF 16 59 7 0 0,
 ld 17 3 16 3,
 cal 18 62 [(.tmp 15),(.tmp 17)] [22,3] 4,
 mv 19 18 4,
 qm 20 1 22 4 false,
 qf 21 59 7 1 0 4 false,
 ql 22 3 21 3 4 false,
 mk (some 23) (.call {callee:=(.value (.func 62)),args:=#[(.tmp 20),(.tmp 22)],argTypes:=#[22,3]}) 4 (some (4,false)),
 qQ 24 19 true 23 4] fr st (.seq c30_21 k)) ∧
 (evK gS fi30 c30_17 fr st k=opsR gS fi30 [mv 12 10 3,
 ixa 13 53 8 10 0,
 ld 14 59 13 59,
 op1 7 (.alloc 59) 0,
 asn 6 12 3,
 sto 59 7 14] fr st (.seq c30_19 k)) ∧
 (evK gS fi30 c30_24 fr st k=opsR gS fi30 [qB 29 .add 3 10 1 3 3,
 mv 10 29 3] fr st k) ∧
 evK gS fi30 c30_15 fr st k=evK gS fi30 c30_17 fr st (.blk 1 (.seq c30_24 k)) ∧
 evK gS fi30 c30_11 fr st k=condK gS fi30 (fr.op (.tmp 11)).bool? .skip (.exit 0) fr st (.seq c30_15 k) ∧
 evK gS fi30 c30_9 fr st k=opsR gS fi30 [bop 11 .lss 3 10 9 3 0] fr st (.seq c30_11 k) ∧
 evK gS fi30 c30_7 fr st k=evK gS fi30 c30_8 fr st (.blk 0 k) ∧
 (evK gS fi30 c30_5 fr st k=opsR gS fi30 [mv 8 0 53,
 len1 9 8 53 3,
 op1 10 (.move (.const (.int .i64 0))) 3] fr st (.seq c30_7 k)) ∧
 (evK gS fi30 c30_25 fr st k=opsR gS fi30 [mv 30 5 22,
 asn 4 30 22] fr st (.seq .ret k)) ∧
 evK gS fi30 c30_4 fr st k=evK gS fi30 c30_5 fr st (.seq c30_25 k) ∧
 evK gS fi30 c30_2 fr st k=opsR gS fi30 [qN 5 22] fr st (.seq c30_4 k) ∧
 evK gS fi30 c30_0 fr st k=opsR gS fi30 [qN 4 22] fr st (.seq c30_2 k):=⟨evK_r 6 (by kernel_rfl),rfl,evK_rs 5 rfl (by kernel_rfl),evK_rs 4 rfl (by kernel_rfl),evK_r 7 (by kernel_rfl),rfl,rfl,evK_rs 3 rfl (by kernel_rfl),rfl,evK_rs 2 rfl (by kernel_rfl),evK_rs 8 rfl (by kernel_rfl),rfl,evK_rs 1 rfl (by kernel_rfl),evK_rs 0 rfl (by kernel_rfl)⟩
theorem m30:mini fi30.body=c30_0:=by kernel_rfl
theorem n30_8 (fr:Fr)(st:St)(k:Kt):nextK gS fi30 (.loop c30_9 k) .normal fr st=evK gS fi30 c30_8 fr st k:=rfl
theorem L30 (g:List Atom)(ms:List Int)(hms:ms.length<4611686018427387904)(hgl:g.length<1000000)(st:St):∀ (m i:Nat) (out:List Int) (e0 e6 e7:E) (T:List (Nat × E)) (X:List (Nat × List V)) (h0:e0.Tame) (h6:e6.Tame) (h7:e7.Tame),i≤g.length→g.length - i=m→out.length≤i →
  evK gS fi30 c30_8 {ps:=[(0,e0),(1,.val (.slice (intVs ms))),(4,.own 0 []),(5,.own (kof 1 out) (intVs out)),(6,e6),(7,e7),(8,.val (.slice (encAtoms g))),(9,.val (.int .i64 g.length)),(10,.val (.int .i64 (i:Nat)))],ts:=T,lc:=X} st (.blk 0 (.seq c30_25 .nil))=some (.ret (.slice (intVs (wayG (fun x=>hasI ms x.a || hasI ms x.b) i (g.drop i) out))) none,st):=by
 intro m
 have hz:=fun xs st=>frz_slice (xs:=intVs xs) (flats_ints xs) st
 induction m with
 | zero =>
  intro i out e0 e6 e7 T X h0 h6 h7 hi hm2 ho
  obtain rfl:i=g.length:=by omega
  rw [List.drop_length]
  refine evK_loop c30_9 _ _ _ _ rfl ?_
  rcases kof_or 1 out with ⟨hk,rfl⟩ | hk
  ·have en:intVs []=[]:=rfl
   have hz0:=hz [] st
   rw [en] at hz0
   rw [hk,en]
   simp [h0,h6,h7,hz0,wayG,en,-zil,-zit,-znl,-znt,ty3,ty4,ty22,ty53,ty59,eq59,H30,E30,n30_8]
  ·rw [hk]
   simp [h0,h6,h7,hz,wayG,-zil,-zit,-znl,-znt,ty3,ty4,ty22,ty53,ty59,eq59,H30,E30,n30_8]
 | succ m ih =>
  intro i out e0 e6 e7 T X h0 h6 h7 hi hm2 ho
  obtain ⟨x,hx⟩  := qgx (l:=g) (i:=i) (by omega)
  have hd:=drop_get hx
  have hlt:(i:Int)<(g.length:Int):=by omega
  obtain ⟨hlt2,hxe⟩:=List.getElem?_eq_some_iff.1 hx
  have hw  := qws i (by omega)
  rw [hd]
  refine evK_loop c30_9 _ _ _ _ rfl ?_
  have ka:=fun (fr:Fr) (st:St)=>k62 ms x.a hms fr st
  have kb:=fun (fr:Fr) (st:St)=>k62 ms x.b hms fr st
  have hstep:wayG (fun x=>hasI ms x.a || hasI ms x.b) i (x :: g.drop (i+1)) out=wayG (fun x=>hasI ms x.a || hasI ms x.b) (i+1) (g.drop (i+1)) (if (hasI ms x.a || hasI ms x.b)=true then out ++ [(i:Int)] else out):=rfl
  rw [hstep]
  have hs1:=sizes_ints out
  have hs2:=ints_snoc out (i:Int)
  have b1:(out.length+1)*8≤140737488355328:=by omega
  have b2:out.length+1≤140737488355328:=by omega
  have IH1:=fun e0 e6 e7 T X h0 h6 h7=>ih (i+1) (out ++ [(i:Int)]) e0 e6 e7 T X h0 h6 h7 (by omega) (by omega) (by simp;omega)
  have IH2:=fun e0 e6 e7 T X h0 h6 h7=>ih (i+1) out e0 e6 e7 T X h0 h6 h7 (by omega) (by omega) (by omega)
  rw [kof_snoc] at IH1
  generalize hasI ms x.a=ta at *
  generalize hasI ms x.b=tb at *
  have en:intVs []=[]:=rfl
  have en1:intVs ([] ++ [(i:Int)])=[.int .i64 (i:Int)]:=rfl
  rcases kof_or 1 out with ⟨hk,rfl⟩ | hk
  ·rw [en1] at IH1
   rw [hk,en] at IH2
   rw [hk,en]
   cases ta <;> cases tb
   all_goals simp [-zia,h0,h6,h7,hx,hxe,hlt,hlt2,hw,ka,kb,-zil,-zit,-znl,-znt,ty3,ty4,ty22,ty53,ty59,eq59,H30,E30,n30_8]
   all_goals first | (refine IH1 _ _ _ _ _ ?_ ?_ ?_ <;> simp [h0,h6,h7];done) | (refine IH2 _ _ _ _ _ ?_ ?_ ?_ <;> simp [h0,h6,h7];done)
  ·rw [hk] at IH2 ⊢
   cases ta <;> cases tb
   all_goals simp [-zia,-zaa,h0,h6,h7,hx,hxe,hlt,hlt2,hw,ka,kb,hs1,hs2,b1,b2,-zil,-zit,-znl,-znt,ty3,ty4,ty22,ty53,ty59,eq59,H30,E30,n30_8]
   all_goals first | (refine IH1 _ _ _ _ _ ?_ ?_ ?_ <;> simp [h0,h6,h7];done) | (refine IH2 _ _ _ _ _ ?_ ?_ ?_ <;> simp [h0,h6,h7];done)
theorem c30 (g:List Atom)(ms:List Int)(hms:ms.length<4611686018427387904)(hgl:g.length<1000000)(st:St):EvF gS 30 [.slice (encAtoms g),.slice (intVs ms)] st=some (.ret (.slice (intVs (wayA g ms))) none,st):=by
 refine EvF_start fi220_eq (fun x h=>by cases h) m30 ?_
 rw [st30]
 have L0:=fun e0 e6 e7 T X h0 h6 h7=>L30 g ms hms hgl st g.length 0 [] e0 e6 e7 T X h0 h6 h7 (Nat.zero_le _) rfl (Nat.le_refl _)
 simp only [show ((0:Nat):Int)=0 from rfl,List.drop_zero,show kof 1 ([]:List Int)=0 from rfl,show intVs []=[] from rfl] at L0
 show _=some (Out.ret (V.slice (intVs (wayG (fun x=>hasI ms x.a || hasI ms x.b) 0 g []))) none,st)
 simp [L0,-zil,-zit,-znl,-znt,ty3,ty4,ty22,ty53,ty59,eq59,H30,E30,n30_8]
theorem k30 (g:List Atom)(ms:List Int)(hms:ms.length<4611686018427387904)(hgl:g.length<1000000)(fr:Fr)(st:St):callStep gS (EvF gS) 30 [.slice (encAtoms g),.slice (intVs ms)] fr st=some (.ok (.val (.slice (intVs (wayA g ms)))) fr st) :=
 call_pure rfl fi220_eq rfl (fun st=>c30 g ms hms hgl st) (by simp [V.flat])
def fi31:FI:={body:=codeOf Try.f31,ntmps:=31,results:=[.tmp 4],pers:=[0,1,4,5,6,7,8,9,10],locals:=[7],pure:=true,marks:=[1000000]}
theorem H31:fi31.marks=[1000000]∧fi31.locals=[7]∧fi31.results=[.tmp 4]:=⟨rfl,rfl,rfl⟩
theorem fi221_eq:gS.fn 31=some fi31:=by kernel_rfl
theorem st31 (a0 a1:V):startFr fi31 [a0,a1]={ps:=[(0,.val a0),(1,.val a1),(4,.any),(5,.any),(6,.any),(7,.any),(8,.any),(9,.any),(10,.any)],ts:=[],lc:=[]}:=rfl
def b31:Code:=mini (codeOf Try.f31)
def c31_22:Code:=codeN b31 11467
def c31_21:Code:=.cond (.tmp 24) c31_22 .skip
def c31_19:Code:=.seq (codeN b31 5323) c31_21
def c31_17:Code:=.seq (codeN b31 2251) c31_19
def c31_24:Code:=codeN b31 971
def c31_15:Code:=.seq (.block 1 c31_17) c31_24
def c31_11:Code:=.seq (.cond (.tmp 11) .skip (.exit 0)) c31_15
def c31_9:Code:=.seq (codeN b31 139) c31_11
def c31_8:Code:=.loop c31_9
def c31_7:Code:=.block 0 c31_8
def c31_5:Code:=.seq (codeN b31 19) c31_7
def c31_25:Code:=.seq (codeN b31 23) .ret
def c31_4:Code:=.seq c31_5 c31_25
def c31_2:Code:=.seq (codeN b31 5) c31_4
def c31_0:Code:=.seq (codeN b31 2) c31_2
theorem E31:(evK gS fi31 c31_22 fr st k=opsR gS fi31 [mv 25 5 22,
 mv 26 6 3,
 qS 27 22 26 22,
 qE 28 25 27 22 22,
 asn 5 28 22] fr st k) ∧
 evK gS fi31 c31_21 fr st k=condK gS fi31 (fr.op (.tmp 24)).bool? c31_22 .skip fr st k ∧
 (evK gS fi31 c31_19 fr st k=opsR gS fi31 [mv 15 1 22,
 qF 16 59 7 0 0,
 ld 17 3 16 3,
 cal 18 62 [(.tmp 15),(.tmp 17)] [22,3] 4,
 mv 19 18 4,
 qm 20 1 22 4 true,
 qf 21 59 7 1 0 4 true,
 ql 22 3 21 3 4 true,
 mk (some 23) (.call {callee:=(.value (.func 62)),args:=#[(.tmp 20),(.tmp 22)],argTypes:=#[22,3]}) 4 (some (4,true)),
 qP 24 19 23 false 4] fr st (.seq c31_21 k)) ∧
 (evK gS fi31 c31_17 fr st k=opsR gS fi31 [mv 12 10 3,
 ixa 13 53 8 10 0,
 ld 14 59 13 59,
 op1 7 (.alloc 59) 0,
 asn 6 12 3,
 sto 59 7 14] fr st (.seq c31_19 k)) ∧
 (evK gS fi31 c31_24 fr st k=opsR gS fi31 [qB 29 .add 3 10 1 3 3,
 mv 10 29 3] fr st k) ∧
 evK gS fi31 c31_15 fr st k=evK gS fi31 c31_17 fr st (.blk 1 (.seq c31_24 k)) ∧
 evK gS fi31 c31_11 fr st k=condK gS fi31 (fr.op (.tmp 11)).bool? .skip (.exit 0) fr st (.seq c31_15 k) ∧
 evK gS fi31 c31_9 fr st k=opsR gS fi31 [bop 11 .lss 3 10 9 3 0] fr st (.seq c31_11 k) ∧
 evK gS fi31 c31_7 fr st k=evK gS fi31 c31_8 fr st (.blk 0 k) ∧
 (evK gS fi31 c31_5 fr st k=opsR gS fi31 [mv 8 0 53,
 len1 9 8 53 3,
 op1 10 (.move (.const (.int .i64 0))) 3] fr st (.seq c31_7 k)) ∧
 (evK gS fi31 c31_25 fr st k=opsR gS fi31 [mv 30 5 22,
 asn 4 30 22] fr st (.seq .ret k)) ∧
 evK gS fi31 c31_4 fr st k=evK gS fi31 c31_5 fr st (.seq c31_25 k) ∧
 evK gS fi31 c31_2 fr st k=opsR gS fi31 [qN 5 22] fr st (.seq c31_4 k) ∧
 evK gS fi31 c31_0 fr st k=opsR gS fi31 [qN 4 22] fr st (.seq c31_2 k):=⟨evK_r 6 (by kernel_rfl),rfl,evK_rs 5 rfl (by kernel_rfl),evK_rs 4 rfl (by kernel_rfl),evK_r 7 (by kernel_rfl),rfl,rfl,evK_rs 3 rfl (by kernel_rfl),rfl,evK_rs 2 rfl (by kernel_rfl),evK_rs 8 rfl (by kernel_rfl),rfl,evK_rs 1 rfl (by kernel_rfl),evK_rs 0 rfl (by kernel_rfl)⟩
theorem m31:mini fi31.body=c31_0:=by kernel_rfl
theorem n31_8 (fr:Fr)(st:St)(k:Kt):nextK gS fi31 (.loop c31_9 k) .normal fr st=evK gS fi31 c31_8 fr st k:=rfl
theorem L31 (g:List Atom)(ms:List Int)(hms:ms.length<4611686018427387904)(hgl:g.length<1000000)(st:St):∀ (m i:Nat) (out:List Int) (e0 e6 e7:E) (T:List (Nat × E)) (X:List (Nat × List V)) (h0:e0.Tame) (h6:e6.Tame) (h7:e7.Tame),i≤g.length→g.length - i=m→out.length≤i →
  evK gS fi31 c31_8 {ps:=[(0,e0),(1,.val (.slice (intVs ms))),(4,.own 0 []),(5,.own (kof 1 out) (intVs out)),(6,e6),(7,e7),(8,.val (.slice (encAtoms g))),(9,.val (.int .i64 g.length)),(10,.val (.int .i64 (i:Nat)))],ts:=T,lc:=X} st (.blk 0 (.seq c31_25 .nil))=some (.ret (.slice (intVs (wayG (fun x=>hasI ms x.a && hasI ms x.b) i (g.drop i) out))) none,st):=by
 intro m
 have hz:=fun xs st=>frz_slice (xs:=intVs xs) (flats_ints xs) st
 induction m with
 | zero =>
  intro i out e0 e6 e7 T X h0 h6 h7 hi hm2 ho
  obtain rfl:i=g.length:=by omega
  rw [List.drop_length]
  refine evK_loop c31_9 _ _ _ _ rfl ?_
  rcases kof_or 1 out with ⟨hk,rfl⟩ | hk
  ·have en:intVs []=[]:=rfl
   have hz0:=hz [] st
   rw [en] at hz0
   rw [hk,en]
   simp [h0,h6,h7,hz0,wayG,en,-zil,-zit,-znl,-znt,ty3,ty4,ty22,ty53,ty59,eq59,H31,E31,n31_8]
  ·rw [hk]
   simp [h0,h6,h7,hz,wayG,-zil,-zit,-znl,-znt,ty3,ty4,ty22,ty53,ty59,eq59,H31,E31,n31_8]
 | succ m ih =>
  intro i out e0 e6 e7 T X h0 h6 h7 hi hm2 ho
  obtain ⟨x,hx⟩  := qgx (l:=g) (i:=i) (by omega)
  have hd:=drop_get hx
  have hlt:(i:Int)<(g.length:Int):=by omega
  obtain ⟨hlt2,hxe⟩:=List.getElem?_eq_some_iff.1 hx
  have hw  := qws i (by omega)
  rw [hd]
  refine evK_loop c31_9 _ _ _ _ rfl ?_
  have ka:=fun (fr:Fr) (st:St)=>k62 ms x.a hms fr st
  have kb:=fun (fr:Fr) (st:St)=>k62 ms x.b hms fr st
  have hstep:wayG (fun x=>hasI ms x.a && hasI ms x.b) i (x :: g.drop (i+1)) out=wayG (fun x=>hasI ms x.a && hasI ms x.b) (i+1) (g.drop (i+1)) (if (hasI ms x.a && hasI ms x.b)=true then out ++ [(i:Int)] else out):=rfl
  rw [hstep]
  have hs1:=sizes_ints out
  have hs2:=ints_snoc out (i:Int)
  have b1:(out.length+1)*8≤140737488355328:=by omega
  have b2:out.length+1≤140737488355328:=by omega
  have IH1:=fun e0 e6 e7 T X h0 h6 h7=>ih (i+1) (out ++ [(i:Int)]) e0 e6 e7 T X h0 h6 h7 (by omega) (by omega) (by simp;omega)
  have IH2:=fun e0 e6 e7 T X h0 h6 h7=>ih (i+1) out e0 e6 e7 T X h0 h6 h7 (by omega) (by omega) (by omega)
  rw [kof_snoc] at IH1
  generalize hasI ms x.a=ta at *
  generalize hasI ms x.b=tb at *
  have en:intVs []=[]:=rfl
  have en1:intVs ([] ++ [(i:Int)])=[.int .i64 (i:Int)]:=rfl
  rcases kof_or 1 out with ⟨hk,rfl⟩ | hk
  ·rw [en1] at IH1
   rw [hk,en] at IH2
   rw [hk,en]
   cases ta <;> cases tb
   all_goals simp [-zia,h0,h6,h7,hx,hxe,hlt,hlt2,hw,ka,kb,-zil,-zit,-znl,-znt,ty3,ty4,ty22,ty53,ty59,eq59,H31,E31,n31_8]
   all_goals first | (refine IH1 _ _ _ _ _ ?_ ?_ ?_ <;> simp [h0,h6,h7];done) | (refine IH2 _ _ _ _ _ ?_ ?_ ?_ <;> simp [h0,h6,h7];done)
  ·rw [hk] at IH2 ⊢
   cases ta <;> cases tb
   all_goals simp [-zia,-zaa,h0,h6,h7,hx,hxe,hlt,hlt2,hw,ka,kb,hs1,hs2,b1,b2,-zil,-zit,-znl,-znt,ty3,ty4,ty22,ty53,ty59,eq59,H31,E31,n31_8]
   all_goals first | (refine IH1 _ _ _ _ _ ?_ ?_ ?_ <;> simp [h0,h6,h7];done) | (refine IH2 _ _ _ _ _ ?_ ?_ ?_ <;> simp [h0,h6,h7];done)
theorem c31 (g:List Atom)(ms:List Int)(hms:ms.length<4611686018427387904)(hgl:g.length<1000000)(st:St):EvF gS 31 [.slice (encAtoms g),.slice (intVs ms)] st=some (.ret (.slice (intVs (ownA g ms))) none,st):=by
 refine EvF_start fi221_eq (fun x h=>by cases h) m31 ?_
 rw [st31]
 have L0:=fun e0 e6 e7 T X h0 h6 h7=>L31 g ms hms hgl st g.length 0 [] e0 e6 e7 T X h0 h6 h7 (Nat.zero_le _) rfl (Nat.le_refl _)
 simp only [show ((0:Nat):Int)=0 from rfl,List.drop_zero,show kof 1 ([]:List Int)=0 from rfl,show intVs []=[] from rfl] at L0
 show _=some (Out.ret (V.slice (intVs (wayG (fun x=>hasI ms x.a && hasI ms x.b) 0 g []))) none,st)
 simp [L0,-zil,-zit,-znl,-znt,ty3,ty4,ty22,ty53,ty59,eq59,H31,E31,n31_8]
theorem k31 (g:List Atom)(ms:List Int)(hms:ms.length<4611686018427387904)(hgl:g.length<1000000)(fr:Fr)(st:St):callStep gS (EvF gS) 31 [.slice (encAtoms g),.slice (intVs ms)] fr st=some (.ok (.val (.slice (intVs (ownA g ms)))) fr st) :=
 call_pure rfl fi221_eq rfl (fun st=>c31 g ms hms hgl st) (by simp [V.flat])
def fi60:FI:={body:=codeOf Try.f60,ntmps:=33,results:=[.tmp 4],pers:=[0,1,3,4,5,6],locals:=[3],pure:=true,marks:=[1000000]}
theorem H60:fi60.marks=[1000000]∧fi60.locals=[3]∧fi60.results=[.tmp 4]:=⟨rfl,rfl,rfl⟩
theorem fi217_eq:gS.fn 60=some fi60:=by kernel_rfl
theorem st60 (a0 a1:V):startFr fi60 [a0,a1]={ps:=[(0,.val a0),(1,.val a1),(3,.any),(4,.any),(5,.any),(6,.any)],ts:=[],lc:=[]}:=rfl
def b60:Code:=mini (codeOf Try.f60)
def r60_9:Array Oper:=regOps (codeN (codeOf Try.f60) 131)
def c60_9:Code:=.region 2 r60_9 true
def q60_9:List (Oper × Fl):=[(mv 7 5 3,qz0),
 (mv 8 0 53,qz3),
 (len1 9 8 53 3,qz3),
 (bop 10 .lss 3 7 9 3 4,qz1),
 (mv 11 10 4,qz1),
 (qm 12 0 53 4 true,qz0),
 (qm 13 5 3 4 true,qz0),
 (qi 14 53 12 13 0 4 true,qz0),
 (ql 15 59 14 59 4 true,qz0),
 (ql 16 59 3 59 4 true,qz3),
 (mk (some 17) (.call {callee:=(.value (.func 90)),args:=#[(.tmp 15),(.tmp 16)],argTypes:=#[59,59]}) 4 (some (4,true)),qz4),
 (qP 18 11 17 false 4,qz1)]
def c60_10:Code:=.cond (.tmp 18) .skip (.exit 0)
def c60_8:Code:=.seq c60_9 c60_10
def c60_14:Code:=codeN b60 163
def c60_13:Code:=.block 1 c60_14
def c60_7:Code:=.seq c60_8 c60_13
def c60_6:Code:=.loop c60_7
def r60_18:Array Oper:=regOps (codeN (codeOf Try.f60) 47)
def c60_18:Code:=.region 5 r60_18 true
def q60_18:List (Oper × Fl):=[(mv 25 6 53,qz0),
 (ld 26 59 3 59,qz0),
 (qS 27 53 26 53,qz0),
 (qE 28 25 27 53 53,qz8),
 (mv 29 0 53,qz9),
 (mv 30 5 3,qz10),
 (op1 31 (.slice 53 (.tmp 29) (some (.tmp 30)) none none) 53,qz10),
 (qE 32 28 31 53 53,qz6),
 (asn 4 32 53,qz1)]
def c60_17:Code:=.seq c60_18 .ret
def c60_15:Code:=.seq (codeN b60 23) c60_17
theorem e60_15:evK gS fi60 c60_15 fr st k=opsR gS fi60 [mv 21 0 53,
 mv 22 5 3,
 op1 23 (.slice 53 (.tmp 21) none (some (.tmp 22)) none) 53,
 op1 24 (.call {callee:=(.builtin .append),args:=#[(.const (.slice none 0 0)),(.tmp 23)],argTypes:=#[53,53]}) 53,
 asn 6 24 53] fr st (.seq c60_17 k):=evK_rs 4 rfl (by kernel_rfl)
def c60_4:Code:=.seq (.block 0 c60_6) c60_15
def c60_2:Code:=.seq (codeN b60 5) c60_4
def c60_0:Code:=.seq (codeN b60 2) c60_2
theorem E60:evK gS fi60 c60_9 fr st k=drwR gS fi60 r60_9 q60_9 fr st k ∧
 evK gS fi60 c60_10 fr st k=condK gS fi60 (fr.op (.tmp 18)).bool? .skip (.exit 0) fr st k ∧
 evK gS fi60 c60_8 fr st k=evK gS fi60 c60_9 fr st (.seq c60_10 k) ∧
 (evK gS fi60 c60_14 fr st k=opsR gS fi60 [mv 19 5 3,
 qB 20 .add 3 19 1 3 3,
 asn 5 20 3] fr st k) ∧
 evK gS fi60 c60_13 fr st k=evK gS fi60 c60_14 fr st (.blk 1 k) ∧
 evK gS fi60 c60_7 fr st k=evK gS fi60 c60_8 fr st (.seq c60_13 k) ∧
 evK gS fi60 c60_18 fr st k=drwR gS fi60 r60_18 q60_18 fr st k ∧
 evK gS fi60 c60_17 fr st k=evK gS fi60 c60_18 fr st (.seq .ret k) ∧
 evK gS fi60 c60_4 fr st k=evK gS fi60 c60_6 fr st (.blk 0 (.seq c60_15 k)) ∧
 evK gS fi60 c60_2 fr st k=opsR gS fi60 [qI 5 0 3] fr st (.seq c60_4 k) ∧
 (evK gS fi60 c60_0 fr st k=opsR gS fi60 [op1 3 (.box 59 (.tmp 1)) 0,
 qN 4 53] fr st (.seq c60_2 k)):=⟨evK_dr 2 rfl (by kernel_rfl) (by kernel_rfl),rfl,rfl,evK_r 3 (by kernel_rfl),rfl,rfl,evK_dr 5 rfl (by kernel_rfl) (by kernel_rfl),rfl,rfl,evK_rs 1 rfl (by kernel_rfl),evK_rs 0 rfl (by kernel_rfl)⟩
theorem m60:mini fi60.body=c60_0:=by kernel_rfl
theorem n60_6 (fr:Fr)(st:St)(k:Kt):nextK gS fi60 (.loop c60_7 k) .normal fr st=evK gS fi60 c60_6 fr st k:=rfl
theorem bn1:borOk r60_18 0 6 25=true:=by kernel_rfl
theorem bn2:handOk r60_18 8 32=true:=by kernel_rfl
theorem L60 (l:List Atom)(hl1:l.length<1000000)(x:Atom)(st:St)(R:Out × St)(e1:E)(h1e:e1.Tame)
  (H:∀ T X,lk X 3=some [.int .i64 x.a,.int .i64 x.b,.int .i64 x.br]→evK gS fi60 c60_15 {ps:=[(0,.val (.slice (encAtoms l))),(1,e1),(3,.lp 3 0),(4,.own 0 []),(5,.val (.int .i64 (posA l x:Nat))),(6,.any)],ts:=T,lc:=X} st .nil=some R) :
  ∀ (m i:Nat) (T:List (Nat × E)) (X:List (Nat × List V)) (hX:lk X 3=some [.int .i64 x.a,.int .i64 x.b,.int .i64 x.br]),i≤posA l x→posA l x - i=m→evK gS fi60 c60_6 {ps:=[(0,.val (.slice (encAtoms l))),(1,e1),(3,.lp 3 0),(4,.own 0 []),(5,.val (.int .i64 (i:Nat))),(6,.any)],ts:=T,lc:=X} st (.blk 0 (.seq c60_15 .nil))=some R:=by
 intro m
 have hpl:=posA_le l x
 induction m with
 | zero =>
  intro i T X hX hi hm2
  obtain rfl:i=posA l x:=by omega
  refine evK_loop c60_7 _ _ _ _ rfl ?_
  cases hx:l[posA l x]? with
  | none =>
   have h1:¬ ((posA l x:Nat):Int)<(l.length:Int):=by rw [List.getElem?_eq_none_iff] at hx;omega
   simp [-zia,h1,h1e,hX,H,-zil,-zit,-znl,-znt,ty3,ty4,ty53,ty59,eq59,H60,x90,fi216_eq,p90,E60,q60_9,q60_18,n60_6]
  | some y =>
   obtain ⟨h2,h3⟩:=List.getElem?_eq_some_iff.1 hx
   have h1:((posA l x:Nat):Int)<(l.length:Int):=by omega
   have h4:=posA_ge l x y hx
   have kk:∀ fr st,callStep gS (EvF gS) 90 [.agg [.int .i64 y.a,.int .i64 y.b,.int .i64 y.br],.agg [.int .i64 x.a,.int .i64 x.b,.int .i64 x.br]] fr st=some (.ok (.val (.bool false)) fr st):=fun fr st=>by rw [← h4];exact k90 y.a y.b y.br x.a x.b x.br fr st
   simp [-zia,h1,h2,h3,h1e,hX,hx,kk,H,-zil,-zit,-znl,-znt,ty3,ty4,ty53,ty59,eq59,H60,x90,fi216_eq,p90,E60,q60_9,q60_18,n60_6]
 | succ m ih =>
  intro i T X hX hi hm2
  have h2:i<l.length:=by omega
  obtain ⟨y,hx⟩:∃ y,l[i]?=some y:=⟨l[i]'h2,zge h2⟩
  have h3:l[i]'h2=y:=(List.getElem?_eq_some_iff.1 hx).2
  have h1:(i:Int)<(l.length:Int):=by omega
  have h4:=posA_lt l x i y (by omega) hx
  have kk:∀ fr st,callStep gS (EvF gS) 90 [.agg [.int .i64 y.a,.int .i64 y.b,.int .i64 y.br],.agg [.int .i64 x.a,.int .i64 x.b,.int .i64 x.br]] fr st=some (.ok (.val (.bool true)) fr st):=fun fr st=>by rw [← h4];exact k90 y.a y.b y.br x.a x.b x.br fr st
  have hw  := qws i (by omega)
  have IH:=fun T X hX=>ih (i+1) T X hX (by omega) (by omega)
  refine evK_loop c60_7 _ _ _ _ rfl ?_
  simp [-zia,h1,h2,h3,h1e,hX,hx,hw,kk,IH,-zil,-zit,-znl,-znt,ty3,ty4,ty53,ty59,eq59,H60,x90,fi216_eq,p90,E60,q60_9,q60_18,n60_6]
theorem c60 (l:List Atom)(hl1:l.length<1000000)(x:Atom)(st:St):EvF gS 60 [.slice (encAtoms l),.agg [.int .i64 x.a,.int .i64 x.b,.int .i64 x.br]] st=some (.ret (.slice (encAtoms (layA l x))) none,st):=by
 refine EvF_start fi217_eq (fun x h=>by cases h) m60 ?_
 rw [st60]
 have hpl:=posA_le l x
 have hz:=fun xs st=>frz_slice (xs:=encAtoms xs) (flats_atoms xs) st
 generalize hR:(Out.ret (V.slice (encAtoms (layA l x))) none,st)=R
 have LL:=fun X hX e1 h1e H T=>L60 l hl1 x st R e1 h1e H (posA l x) 0 T X hX (Nat.zero_le _) rfl
 rw [show ((0:Nat):Int)=0 from rfl] at LL
 simp [-zia,-zil,-zit,-znl,-znt,ty3,ty4,ty53,ty59,eq59,H60,x90,fi216_eq,p90,E60,q60_9,q60_18,e60_15,n60_6,bn1,bn2]
 refine LL _ ?_ _ ?_ (fun T X hX=>?_) _
 ·simp
 ·simp
 clear LL
 subst hR
 unfold layA
 generalize posA l x=p at *
 have hp0:(0:Int)≤(p:Int):=by omega
 have hp1:(p:Int)≤(l.length:Int):=by omega
 have hsi:=sizes_atoms
 have e0:(encAtoms l).take l.length=encAtoms l:=List.take_of_length_le (by simp)
 have e1:=atoms_take l p
 have e2:=atoms_drop l p
 have e3:encAtoms (l.take p) ++ [.agg [.int .i64 x.a,.int .i64 x.b,.int .i64 x.br]]=encAtoms (l.take p ++ [x]):=by simp [encAtoms]
 have e4:=atoms_append (l.take p ++ [x]) (l.drop p)
 have e5:(l.drop p).length=l.length - p:=by simp
 have e6:(l.take p).length=p:=by simp;omega
 have b1:p*24≤140737488355328:=by omega
 have b2:p≤140737488355328:=by omega
 have b3:(p+1)*24≤140737488355328:=by omega
 have b4:p+1≤140737488355328:=by omega
 have b5:(p+1+(l.length - p))*24≤140737488355328:=by omega
 have b6:p+1+(l.length - p)≤140737488355328:=by omega
 simp [-zia,-zaa,hX,hz,hp0,hp1,hsi,e0,e1,e2,e3,e4,e5,e6,b1,b2,b3,b4,b5,b6,-zil,-zit,-znl,-znt,ty3,ty4,ty53,ty59,eq59,H60,x90,fi216_eq,p90,E60,q60_9,q60_18,e60_15,n60_6,bn1,bn2]
theorem k60 (l:List Atom)(hl1:l.length<1000000)(x:Atom)(fr:Fr)(st:St):callStep gS (EvF gS) 60 [.slice (encAtoms l),.agg [.int .i64 x.a,.int .i64 x.b,.int .i64 x.br]] fr st=some (.ok (.val (.slice (encAtoms (layA l x)))) fr st) :=
 call_pure rfl fi217_eq rfl (fun st=>c60 l hl1 x st) (by simp [V.flat])
def fi26:FI:={body:=codeOf Try.f26,ntmps:=23,results:=[.tmp 4],pers:=[0,1,4,5,6],locals:=[],pure:=false,marks:=[1000001]}
theorem H26:fi26.marks=[1000001]∧fi26.locals=[]∧fi26.results=[.tmp 4]:=⟨rfl,rfl,rfl⟩
theorem fi200_eq:gS.fn 26=some fi26:=by kernel_rfl
theorem st26 (a0 a1:V):startFr fi26 [a0,a1]={ps:=[(0,.val a0),(1,.val a1),(4,.any),(5,.any),(6,.any)],ts:=[],lc:=[]}:=rfl
def b26:Code:=mini (codeOf Try.f26)
def c26_12:Code:=.cond (.tmp 11) .skip (.exit 0)
def c26_10:Code:=.seq (codeN b26 267) c26_12
def c26_17:Code:=codeN b26 587
def c26_18:Code:=codeN b26 459
def c26_15:Code:=.seq (.block 1 c26_17) c26_18
def c26_9:Code:=.seq c26_10 c26_15
def c26_8:Code:=.loop c26_9
def c26_7:Code:=.block 0 c26_8
def c26_5:Code:=.seq (codeN b26 19) c26_7
def c26_19:Code:=.seq (codeN b26 23) .ret
def c26_4:Code:=.seq c26_5 c26_19
def c26_2:Code:=.seq (codeN b26 5) c26_4
def c26_0:Code:=.seq (codeN b26 2) c26_2
theorem E26:evK gS fi26 c26_12 fr st k=condK gS fi26 (fr.op (.tmp 11)).bool? .skip (.exit 0) fr st k ∧
 (evK gS fi26 c26_10 fr st k=opsR gS fi26 [mv 10 6 3,
 qB 11 .gtr 3 10 0 3 4] fr st (.seq c26_12 k)) ∧
 (evK gS fi26 c26_17 fr st k=opsR gS fi26 [mv 14 5 22,
 mv 15 0 23,
 mv 16 5 22,
 len1 17 16 22 3,
 qB 18 .add 3 17 1 3 3,
 cal 19 11 [(.tmp 15),(.tmp 18)] [23,3] 3,
 qS 20 22 19 22,
 qE 21 14 20 22 22,
 asn 5 21 22] fr st k) ∧
 (evK gS fi26 c26_18 fr st k=opsR gS fi26 [mv 12 6 3,
 qB 13 .sub 3 12 1 3 3,
 asn 6 13 3] fr st k) ∧
 evK gS fi26 c26_15 fr st k=evK gS fi26 c26_17 fr st (.blk 1 (.seq c26_18 k)) ∧
 evK gS fi26 c26_9 fr st k=evK gS fi26 c26_10 fr st (.seq c26_15 k) ∧
 evK gS fi26 c26_7 fr st k=evK gS fi26 c26_8 fr st (.blk 0 k) ∧
 (evK gS fi26 c26_5 fr st k=opsR gS fi26 [mv 7 0 23,
 mv 8 1 3,
 cal 9 11 [(.tmp 7),(.tmp 8)] [23,3] 3,
 asn 6 9 3] fr st (.seq c26_7 k)) ∧
 (evK gS fi26 c26_19 fr st k=opsR gS fi26 [mv 22 5 22,
 asn 4 22 22] fr st (.seq .ret k)) ∧
 evK gS fi26 c26_4 fr st k=evK gS fi26 c26_5 fr st (.seq c26_19 k) ∧
 evK gS fi26 c26_2 fr st k=opsR gS fi26 [qN 5 22] fr st (.seq c26_4 k) ∧
 evK gS fi26 c26_0 fr st k=opsR gS fi26 [qN 4 22] fr st (.seq c26_2 k):=⟨rfl,evK_rs 3 rfl (by kernel_rfl),evK_r 5 (by kernel_rfl),evK_r 4 (by kernel_rfl),rfl,rfl,rfl,evK_rs 2 rfl (by kernel_rfl),evK_rs 6 rfl (by kernel_rfl),rfl,evK_rs 1 rfl (by kernel_rfl),evK_rs 0 rfl (by kernel_rfl)⟩
theorem m26:mini fi26.body=c26_0:=by kernel_rfl
theorem n26_8 (fr:Fr)(st:St)(k:Kt):nextK gS fi26 (.loop c26_9 k) .normal fr st=evK gS fi26 c26_8 fr st k:=rfl
theorem L26 (l:List Int)(a id:Nat)(ha:a<549755813888)(st:St)(h:FeedOk st id)(most:Int):∀ (n j:Nat) (acc:List Int) (T:List (Nat × E)) (X:List (Nat × List V)),acc.length+n≤8→j+n<549755812000 →
  evK gS fi26 c26_8 {ps:=[(0,.val (.ptr id 0)),(1,.val (.int .i64 most)),(4,.own 0 []),(5,.own (kof 1 acc) (intVs acc)),(6,.val (.int .i64 (n:Nat)))],ts:=T,lc:=X} (setF st id l (nA l a j)) (.blk 0 (.seq c26_19 .nil))=some (.ret (.slice (intVs (treeG l a n j acc))) (some (kof 1 (treeG l a n j acc))),setF st id l (nA l a (j+n))):=by
 intro n
 have hz:=fun xs st=>frz_slice (xs:=intVs xs) (flats_ints xs) st
 induction n with
 | zero =>
  intro j acc T X ha2 hj
  rw [show treeG l a 0 j acc=acc from rfl,Nat.add_zero]
  refine evK_loop c26_9 _ _ _ _ rfl ?_
  rcases kof_or 1 acc with ⟨hk,rfl⟩ | hk
  ·have en:intVs []=[]:=rfl
   have hz0:=hz []
   rw [en] at hz0
   rw [hk,en]
   simp [hz0,en,-zil,-zit,-znl,-znt,ty3,ty4,ty22,ty23,H26,E26,n26_8]
  ·rw [hk]
   simp [hz,-zil,-zit,-znl,-znt,ty3,ty4,ty22,ty23,H26,E26,n26_8]
 | succ n ih =>
  intro j acc T X ha2 hj
  rw [treeG_succ]
  have hb:=fd_bound l a j (n:=(acc.length:Int)+1) (by omega)
  have hw:IntKind.wrap .i64 (((n+1:Nat):Int) - 1)=(n:Int):=by rw [wrap64 (by omega) (by omega)];omega
  have hw2:IntKind.wrap .i64 ((acc.length:Int)+1)=(acc.length:Int)+1:=wrap64 (by omega) (by omega)
  have hpos:(0:Int)<((n+1:Nat):Int):=by omega
  have kk:=fun fr=>k11 l a j id ((acc.length:Int)+1) fr st h ha (by omega) (by omega)
  generalize fd l a j ((acc.length:Int)+1)=x at *
  have IH:=fun T X=>ih (j+1) (acc ++ [x]) T X (by simp;omega) (by omega)
  rw [kof_snoc,show j+1+n=j+(n+1) from by omega] at IH
  have hs1:=sizes_ints acc
  have hs2:=ints_snoc acc x
  have b1:(acc.length+1)*8≤140737488355328:=by omega
  have b2:acc.length+1≤140737488355328:=by omega
  refine evK_loop c26_9 _ _ _ _ rfl ?_
  rcases kof_or 1 acc with ⟨hk,rfl⟩ | hk
  ·have en:intVs []=[]:=rfl
   have en1:intVs ([] ++ [x])=[.int .i64 x]:=rfl
   rw [en1] at IH
   rw [hk,en]
   simp only [List.length_nil,show ((0:Nat):Int)+1=1 from rfl] at kk hw2
   have w1:IntKind.wrap .i64 1=1:=wrap64 (by omega) (by omega)
   simp [-zia,hpos,hw,w1,kk,IH,-zil,-zit,-znl,-znt,ty3,ty4,ty22,ty23,H26,E26,n26_8]
  ·rw [hk]
   simp [-zia,-zaa,hpos,hw,hw2,kk,hs1,hs2,b1,b2,IH,-zil,-zit,-znl,-znt,ty3,ty4,ty22,ty23,H26,E26,n26_8]
theorem c26 (l:List Int)(a j id:Nat)(most:Int)(st:St)(h:FeedOk st id)(ha:a<549755813888)(hj:j<549755811000)(hm1:1≤most)(hm2:most≤8) :
  EvF gS 26 [.ptr id 0,.int .i64 most] (setF st id l (nA l a j))=some (.ret (.slice (intVs (treeV l a j most))) (some (kof 1 (treeV l a j most))),setF st id l (nA l a (j+1+(fd l a j most).toNat))):=by
 refine EvF_start fi200_eq (fun x h=>by cases h) m26 ?_
 rw [st26]
 have hb:=fd_bound l a j (n:=most) hm1
 have kk:=fun fr=>k11 l a j id most fr st h ha (by omega) (by omega)
 unfold treeV
 obtain ⟨n,hn⟩:∃ n:Nat,fd l a j most=n:=⟨_,(Int.toNat_of_nonneg hb.1).symm⟩
 rw [hn] at kk hb ⊢
 simp only [Int.toNat_natCast]
 have LL:=fun T X=>L26 l a id ha st h most n (j+1) [] T X (by simp;omega) (by omega)
 rw [show kof 1 ([]:List Int)=0 from rfl,show intVs []=[] from rfl] at LL
 simp [-zia,kk,LL,-zil,-zit,-znl,-znt,ty3,ty4,ty22,ty23,H26,E26,n26_8]
theorem k26 (l:List Int)(a j id:Nat)(most:Int)(fr:Fr)(st:St)(h:FeedOk st id)(ha:a<549755813888)(hj:j<549755811000)(hm1:1≤most)(hm2:most≤8) :
  callStep gS (EvF gS) 26 [.ptr id 0,.int .i64 most] fr (setF st id l (nA l a j))=some (.ok (.own (kof 1 (treeV l a j most)) (intVs (treeV l a j most))) (fr.map E.noMem) (setF st id l (nA l a (j+1+(fd l a j most).toNat)))):=by
 unfold callStep
 simp only [show gS.ext 26=none from rfl,fi200_eq,show fi26.pure=false from rfl,Bool.false_eq_true,if_false,c26 l a j id most st h ha hj hm1 hm2,retE]
def fi111:FI:={body:=codeOf Try.f111,ntmps:=36,results:=[.tmp 2],pers:=[0,1,2],locals:=[1],pure:=true,marks:=[]}
theorem H111:fi111.marks=[]∧fi111.locals=[1]∧fi111.results=[.tmp 2]:=⟨rfl,rfl,rfl⟩
theorem fi211_eq:gS.fn 111=some fi111:=by kernel_rfl
theorem st111 (a0:V):startFr fi111 [a0]={ps:=[(0,.val a0),(1,.any),(2,.any)],ts:=[],lc:=[]}:=rfl
def b111:Code:=mini (codeOf Try.f111)
def c111_2:Code:=.seq (codeN b111 5) .ret
theorem e111_2:evK gS fi111 c111_2 fr st k=opsR gS fi111 [qF 3 31 1 0 0,
 ld 4 3 3 3,
 qB 5 .geq 3 4 1 3 4,
 mv 6 5 4,
 qf 7 31 1 0 0 3 true,
 ql 8 3 7 3 3 true,
 qc 9 .leq 3 8 6 3 4 3 true,
 qP 10 6 9 false 4,
 mv 11 10 4,
 qf 12 31 1 1 0 8 true,
 ql 13 3 12 3 8 true,
 qc 14 .geq 3 13 0 3 4 8 true,
 qP 15 11 14 false 4,
 mv 16 15 4,
 qf 17 31 1 1 0 13 true,
 ql 18 3 17 3 13 true,
 qc 19 .leq 3 18 7 3 4 13 true,
 qP 20 16 19 false 4,
 mv 21 20 4,
 qf 22 31 1 2 0 18 true,
 ql 23 3 22 3 18 true,
 qc 24 .geq 3 23 1 3 4 18 true,
 qP 25 21 24 false 4,
 mv 26 25 4,
 qf 27 31 1 2 0 23 true,
 ql 28 3 27 3 23 true,
 qc 29 .leq 3 28 4611686018427387904 3 4 23 true,
 qP 30 26 29 false 4,
 mv 31 30 4,
 qf 32 31 1 3 0 28 true,
 ql 33 29 32 29 28 true,
 mk (some 34) (.call {callee:=(.value (.func 130)),args:=#[(.tmp 33)],argTypes:=#[29]}) 4 (some (28,true)),
 qP 35 31 34 false 4,
 asn 2 35 4] fr st (.seq .ret k):=evK_rs 1 rfl (by kernel_rfl)
def c111_0:Code:=.seq (codeN b111 2) c111_2
theorem e111_0:evK gS fi111 c111_0 fr st k=opsR gS fi111 [op1 1 (.box 31 (.tmp 0)) 0,
 qA 2 false 4] fr st (.seq c111_2 k):=evK_rs 0 rfl (by kernel_rfl)
theorem m111:mini fi111.body=c111_0:=by kernel_rfl
theorem c111 (s:Sub)(h_f:POk s.filter)(st:St):EvF gS 111 [s.enc] st=some (.ret (.bool (mayS s)) none,st):=by
 refine EvF_start fi211_eq (fun x h=>by cases h) m111 ?_
 rw [st111]
 simp (config:={contextual:=true,maxSteps:=10000000,maxDischargeDepth:=6}) [-zil,-zit,-znl,-znt,ty3,ty4,ty29,ty31,H111,k130,e111_2,e111_0,h_f]
 all_goals try simp (config:={contextual:=true}) [-zil,-zit,-znl,-znt,mayS,h_f]
 all_goals first | done | grind | omega
theorem k111 (s_c:Int)(s_r:Int)(s_m:Int)(s_f:List Pred)(h_f:POk (⟨s_c,s_r,s_m,s_f⟩:Sub).filter)(fr:Fr)(st:St):callStep gS (EvF gS) 111 [.agg [.int .i64 s_c,.int .i64 s_r,.int .i64 s_m,.slice (encPreds s_f)]] fr st=some (.ok (retE none (.bool (mayS (⟨s_c,s_r,s_m,s_f⟩:Sub)))) fr st) :=
 call_pure rfl fi211_eq rfl (fun st=>c111 (⟨s_c,s_r,s_m,s_f⟩:Sub) h_f st) (by simp)
theorem x111:gS.ext 111=none:=rfl
theorem p111:fi111.pure=true:=rfl
def fi22:FI:={body:=codeOf Try.f22,ntmps:=51,results:=[.tmp 6],pers:=[0,1,2,6,7,9,33,34,35],locals:=[],pure:=true,marks:=[1000000]}
theorem H22:fi22.marks=[1000000]∧fi22.locals=[]∧fi22.results=[.tmp 6]:=⟨rfl,rfl,rfl⟩
theorem fi62_eq:gS.fn 22=some fi22:=by kernel_rfl
theorem st22 (a0 a1 a2:V):startFr fi22 [a0,a1,a2]={ps:=[(0,.val a0),(1,.val a1),(2,.val a2),(6,.any),(7,.any),(9,.any),(33,.any),(34,.any),(35,.any)],ts:=[],lc:=[]}:=rfl
def b22:Code:=mini (codeOf Try.f22)
def c22_8:Code:=.seq (codeN b22 75) .ret
def c22_7:Code:=.cond (.tmp 27) c22_8 .skip
def c22_5:Code:=.seq (codeN b22 19) c22_7
def c22_30:Code:=codeN b22 22935
def c22_29:Code:=.cond (.tmp 45) c22_30 .skip
def c22_27:Code:=.seq (codeN b22 10647) c22_29
def c22_25:Code:=.seq (codeN b22 4503) c22_27
def c22_32:Code:=codeN b22 1943
def c22_23:Code:=.seq (.block 1 c22_25) c22_32
def c22_19:Code:=.seq (.cond (.tmp 36) .skip (.exit 0)) c22_23
def c22_17:Code:=.seq (codeN b22 279) c22_19
def c22_16:Code:=.loop c22_17
def c22_15:Code:=.block 0 c22_16
def c22_13:Code:=.seq (codeN b22 39) c22_15
def c22_33:Code:=.seq (codeN b22 47) .ret
def c22_12:Code:=.seq c22_13 c22_33
def c22_4:Code:=.seq c22_5 c22_12
def c22_2:Code:=.seq (codeN b22 5) c22_4
def c22_0:Code:=.seq (codeN b22 2) c22_2
theorem E22:(evK gS fi22 c22_8 fr st k=opsR gS fi22 [mv 28 7 22,
 asn 6 28 22] fr st (.seq .ret k)) ∧
 evK gS fi22 c22_7 fr st k=condK gS fi22 (fr.op (.tmp 27)).bool? c22_8 .skip fr st k ∧
 (evK gS fi22 c22_5 fr st k=opsR gS fi22 [mv 10 1 3,
 qB 11 .lss 3 10 0 3 4,
 mv 12 11 4,
 qm 13 1 3 2 false,
 qm 14 0 32 2 false,
 qe 15 14 32 3 2 false,
 qb 16 .geq 3 13 15 3 4 2 false,
 qQ 17 12 true 16 4,
 mv 18 17 4,
 qm 19 2 3 8 false,
 qc 20 .lss 3 19 0 3 4 8 false,
 qQ 21 18 true 20 4,
 mv 22 21 4,
 qm 23 2 3 12 false,
 qm 24 0 32 12 false,
 qe 25 24 32 3 12 false,
 qb 26 .geq 3 23 25 3 4 12 false,
 qQ 27 22 true 26 4] fr st (.seq c22_7 k)) ∧
 (evK gS fi22 c22_30 fr st k=opsR gS fi22 [mv 46 7 22,
 mv 47 9 3,
 cal 48 51 [(.tmp 46),(.tmp 47)] [22,3] 22,
 asn 7 48 22] fr st k) ∧
 evK gS fi22 c22_29 fr st k=condK gS fi22 (fr.op (.tmp 45)).bool? c22_30 .skip fr st k ∧
 (evK gS fi22 c22_27 fr st k=opsR gS fi22 [mv 39 0 32,
 mv 40 2 3,
 ixa 41 32 39 40 0,
 qF 42 39 41 1 0,
 ld 43 22 42 22,
 mv 44 9 3,
 cal 45 57 [(.tmp 43),(.tmp 44)] [22,3] 4] fr st (.seq c22_29 k)) ∧
 (evK gS fi22 c22_25 fr st k=opsR gS fi22 [ixa 37 22 33 35 0,
 ld 38 3 37 3,
 asn 9 38 3] fr st (.seq c22_27 k)) ∧
 (evK gS fi22 c22_32 fr st k=opsR gS fi22 [qB 49 .add 3 35 1 3 3,
 mv 35 49 3] fr st k) ∧
 evK gS fi22 c22_23 fr st k=evK gS fi22 c22_25 fr st (.blk 1 (.seq c22_32 k)) ∧
 evK gS fi22 c22_19 fr st k=condK gS fi22 (fr.op (.tmp 36)).bool? .skip (.exit 0) fr st (.seq c22_23 k) ∧
 evK gS fi22 c22_17 fr st k=opsR gS fi22 [bop 36 .lss 3 35 34 3 0] fr st (.seq c22_19 k) ∧
 evK gS fi22 c22_15 fr st k=evK gS fi22 c22_16 fr st (.blk 0 k) ∧
 (evK gS fi22 c22_13 fr st k=opsR gS fi22 [mv 29 0 32,
 mv 30 1 3,
 ixa 31 32 29 30 0,
 qF 32 39 31 1 0,
 ld 33 22 32 22,
 len1 34 33 22 3,
 op1 35 (.move (.const (.int .i64 0))) 3] fr st (.seq c22_15 k)) ∧
 (evK gS fi22 c22_33 fr st k=opsR gS fi22 [mv 50 7 22,
 asn 6 50 22] fr st (.seq .ret k)) ∧
 evK gS fi22 c22_12 fr st k=evK gS fi22 c22_13 fr st (.seq c22_33 k) ∧
 evK gS fi22 c22_4 fr st k=evK gS fi22 c22_5 fr st (.seq c22_12 k) ∧
 evK gS fi22 c22_2 fr st k=opsR gS fi22 [qN 7 22] fr st (.seq c22_4 k) ∧
 evK gS fi22 c22_0 fr st k=opsR gS fi22 [qN 6 22] fr st (.seq c22_2 k):=⟨evK_rs 3 rfl (by kernel_rfl),rfl,evK_rs 2 rfl (by kernel_rfl),evK_r 8 (by kernel_rfl),rfl,evK_rs 7 rfl (by kernel_rfl),evK_rs 6 rfl (by kernel_rfl),evK_r 9 (by kernel_rfl),rfl,rfl,evK_rs 5 rfl (by kernel_rfl),rfl,evK_rs 4 rfl (by kernel_rfl),evK_rs 10 rfl (by kernel_rfl),rfl,rfl,evK_rs 1 rfl (by kernel_rfl),evK_rs 0 rfl (by kernel_rfl)⟩
theorem m22:mini fi22.body=c22_0:=by kernel_rfl
theorem n22_16 (fr:Fr)(st:St)(k:Kt):nextK gS fi22 (.loop c22_17 k) .normal fr st=evK gS fi22 c22_16 fr st k:=rfl
theorem L22 (g:List Grp)(b:Nat)(v:Grp)(hv:g[b]?=some v)(hvl:v.clients.length<1000)(cs:List Int)(hcs:cs.length<1000)(e1:E)(h1:e1.Tame)(st:St) :
  ∀ (m i:Nat) (acc:List Int) (e7 e9 e33:E) (h7:OutE e7 acc) (h9:e9.Tame) (h33:e33.calm=.val (.slice (intVs cs))) (T:List (Nat × E)) (X:List (Nat × List V)),i≤cs.length→cs.length - i=m→acc.length+(cs.length - i)<1000000 →
  evK gS fi22 c22_16 {ps:=[(0,.val (.slice (encGrps g))),(1,e1),(2,.val (.int .i64 (b:Nat))),(6,.own 0 []),(7,e7),(9,e9),(33,e33),(34,.val (.int .i64 cs.length)),(35,.val (.int .i64 (i:Nat)))],ts:=T,lc:=X} st (.blk 0 (.seq c22_33 .nil))=some (.ret (.slice (intVs (bothI v.clients (cs.drop i) acc))) none,st):=by
 intro m
 have hm:fi22.marks=[1000000]:=rfl
 have hl:fi22.locals=[]:=rfl
 have hr:fi22.results=[.tmp 6]:=rfl
 have hz:=fun xs st=>frz_slice (xs:=intVs xs) (flats_ints xs) st
 obtain ⟨v1,v2⟩:=List.getElem?_eq_some_iff.1 hv
 have v3:(b:Int)<(g.length:Int):=by omega
 induction m with
 | zero =>
  intro i acc e7 e9 e33 h7 h9 h33 T X hi hm2 hb
  obtain rfl:i=cs.length:=by omega
  rw [List.drop_length,show bothI v.clients [] acc=acc from rfl]
  refine evK_loop c22_17 _ _ _ _ rfl ?_
  rcases h7 with ⟨rfl,rfl⟩ | rfl
  ·have hz0:=hz []
   rw [show intVs []=[] from rfl] at hz0
   simp [h1,h9,h33,hz0,show intVs []=[] from rfl,-zil,-zit,-znl,-znt,ty3,ty4,ty22,ty32,ty39,hm,hl,hr,E22,n22_16]
  ·simp [h1,h9,h33,hz,-zil,-zit,-znl,-znt,ty3,ty4,ty22,ty32,ty39,hm,hl,hr,E22,n22_16]
 | succ m ih =>
  intro i acc e7 e9 e33 h7 h9 h33 T X hi hm2 hb
  obtain ⟨x,hx⟩  := qgx (l:=cs) (i:=i) (by omega)
  have hd:=drop_get hx
  have hlt:(i:Int)<(cs.length:Int):=by omega
  obtain ⟨hlt2,hxe⟩:=List.getElem?_eq_some_iff.1 hx
  have hw  := qws i (by omega)
  have hll:=layI_len acc x
  rw [hd,show bothI v.clients (x :: cs.drop (i+1)) acc=bothI v.clients (cs.drop (i+1)) (if hasI v.clients x=true then layI acc x else acc) from rfl]
  have kh:=fun (fr:Fr) (st:St)=>k57 v.clients x (by omega) fr st
  have kl:=fun (fr:Fr) (st:St)=>k51 acc (by omega) x fr st
  have IH:=fun acc' e7 e9 h7 h9 T X hl=>ih (i+1) acc' e7 e9 (.val (.slice (intVs cs))) h7 h9 rfl T X (by omega) (by omega) hl
  generalize hasI v.clients x=t at *
  refine evK_loop c22_17 _ _ _ _ rfl ?_
  cases t with
  | true =>
   have I1:=fun e9 h9 T X=>IH (layI acc x) _ e9 (.inr rfl) h9 T X (by omega)
   rcases h7 with ⟨rfl,rfl⟩ | rfl
   ·rw [show intVs []=[] from rfl] at kl
    simp [-zia,h1,h9,h33,hx,hxe,hlt,hlt2,hw,kh,kl,hv,v1,v2,v3,-zil,-zit,-znl,-znt,ty3,ty4,ty22,ty32,ty39,hm,hl,hr,E22,n22_16]
    exact I1 _ (tame_val _) _ _
   ·simp [-zia,h1,h9,h33,hx,hxe,hlt,hlt2,hw,kh,kl,hv,v1,v2,v3,-zil,-zit,-znl,-znt,ty3,ty4,ty22,ty32,ty39,hm,hl,hr,E22,n22_16]
    exact I1 _ (tame_val _) _ _
  | false =>
   have I2:=fun e7 e9 h7 h9 T X=>IH acc e7 e9 h7 h9 T X (by omega)
   rcases h7 with ⟨rfl,rfl⟩ | rfl
   ·simp [-zia,h1,h9,h33,hx,hxe,hlt,hlt2,hw,kh,hv,v1,v2,v3,-zil,-zit,-znl,-znt,ty3,ty4,ty22,ty32,ty39,hm,hl,hr,E22,n22_16]
    exact I2 _ _ (.inl ⟨rfl,rfl⟩) (tame_val _) _ _
   ·simp [-zia,h1,h9,h33,hx,hxe,hlt,hlt2,hw,kh,hv,v1,v2,v3,-zil,-zit,-znl,-znt,ty3,ty4,ty22,ty32,ty39,hm,hl,hr,E22,n22_16]
    exact I2 _ _ (.inr rfl) (tame_val _) _ _
theorem c22 (g:List Grp)(a b:Nat)(u v:Grp)(hu:g[a]?=some u)(hv:g[b]?=some v)(hul:u.clients.length<1000)(hvl:v.clients.length<1000)(st:St) :
  EvF gS 22 [.slice (encGrps g),.int .i64 (a:Nat),.int .i64 (b:Nat)] st=some (.ret (.slice (intVs (bothI v.clients u.clients []))) none,st):=by
 refine EvF_start fi62_eq (fun x h=>by cases h) m22 ?_
 rw [st22]
 obtain ⟨u1,u2⟩:=List.getElem?_eq_some_iff.1 hu
 have u3:(a:Int)<(g.length:Int):=by omega
 obtain ⟨v1,v2⟩:=List.getElem?_eq_some_iff.1 hv
 have v3:(b:Int)<(g.length:Int):=by omega
 have n1:¬ (a:Int)<0:=by omega
 have n2:¬ (b:Int)<0:=by omega
 have n3:¬ (g.length:Int)≤(a:Int):=by omega
 have n4:¬ (g.length:Int)≤(b:Int):=by omega
 have LL:=fun e1 h1 e9 e33 h9 h33 T X=>L22 g b v hv hvl u.clients hul e1 h1 st u.clients.length 0 [] (.own 0 []) e9 e33 (.inl ⟨rfl,rfl⟩) h9 h33 T X (Nat.zero_le _) rfl (by simp;omega)
 simp only [show ((0:Nat):Int)=0 from rfl,List.drop_zero] at LL
 simp [-zia,u1,u2,u3,v1,v3,n1,n2,n3,n4,hu,LL,-zil,-zit,-znl,-znt,ty3,ty4,ty22,ty32,ty39,H22,E22,n22_16]
theorem k22 (g:List Grp)(a b:Nat)(u v:Grp)(hu:g[a]?=some u)(hv:g[b]?=some v)(hul:u.clients.length<1000)(hvl:v.clients.length<1000)(fr:Fr)(st:St) :
  callStep gS (EvF gS) 22 [.slice (encGrps g),.int .i64 (a:Nat),.int .i64 (b:Nat)] fr st=some (.ok (.val (.slice (intVs (bothI v.clients u.clients [])))) fr st) :=
 call_pure rfl fi62_eq rfl (fun st=>c22 g a b u v hu hv hul hvl st) (by simp [V.flat])
end
end Go.Proofs.Ytdoobejjedpcgaa
namespace Go.Ab
open Go
def apS (S:St)(id:Nat)(cs:List V):St:={objs:=S.objs.set id [] ++ [cs],wp:=S.wp}
theorem apS_len (S:St)(id:Nat)(cs:List V):(apS S id cs).objs.length=S.objs.length+1:=by simp [apS]
theorem apS_wp (S:St)(id:Nat)(cs:List V):(apS S id cs).wp=S.wp:=rfl
theorem apS_new (S:St)(id:Nat)(cs:List V):St.obj (apS S id cs) S.objs.length=some cs:=by simp [apS,St.obj]
theorem apS_old (S:St)(id:Nat)(cs:List V) {i:Nat} (h:i≠id)(hi:i<S.objs.length):St.obj (apS S id cs) i=St.obj S i:=by
 simp only [apS,St.obj]
 rw [List.getElem?_append_left (by simpa using hi),List.getElem?_set_ne (Ne.symm h)]
theorem set_some {S:St} {id:Nat} (h:S.wp≤id)(cs:List V):St.set S id cs=some {objs:=S.objs.set id cs,wp:=S.wp}:=by unfold St.set;rw [if_pos h]
theorem newRef_ap (S:St)(id:Nat)(fr:Fr)(k len:Nat)(cs:List V):newRef fr {objs:=S.objs.set id [],wp:=S.wp} k len cs=.ok (.val (.sref false k S.objs.length 0 len)) fr (apS S id cs):=by
 simp [newRef,apS]
theorem newRef_nw (S:St)(fr:Fr)(k len:Nat)(cs:List V):newRef fr S k len cs=.ok (.val (.sref false k S.objs.length 0 len)) fr (nw S 0 cs):=by
 simp [newRef,nw]
theorem nw_obj0 (S:St)(cs:List V):St.obj (nw S 0 cs) S.objs.length=some cs:=by simp [nw,St.obj]
theorem nw_old (S:St)(cs:List V) {i:Nat} (hi:i<S.objs.length):St.obj (nw S 0 cs) i=St.obj S i:=by
 simp only [nw,St.obj]
 rw [List.getElem?_append_left hi]
def apAll:List Int→St→Nat→List Int→St × Nat
 | [],S,id,_=>(S,id)
 | x :: r,S,id,acc=>apAll r (apS S id (intVs (acc ++ [x]))) S.objs.length (acc ++ [x])
theorem apAll_facts:∀ (r:List Int)(S:St)(id:Nat)(acc:List Int),S.wp≤id→id<S.objs.length→St.obj S id=some (intVs acc) →
  St.obj (apAll r S id acc).1 (apAll r S id acc).2=some (intVs (acc ++ r))∧(apAll r S id acc).1.wp=S.wp∧S.wp≤(apAll r S id acc).2∧(apAll r S id acc).2<(apAll r S id acc).1.objs.length∧S.objs.length≤(apAll r S id acc).1.objs.length ∧
   id≤(apAll r S id acc).2∧∀ i,i≠id→i<S.objs.length→St.obj (apAll r S id acc).1 i=St.obj S i
 | [],S,id,acc,h1,h2,h3=>by rw [List.append_nil];exact ⟨h3,rfl,h1,h2,Nat.le_refl _,Nat.le_refl _,fun _ _ _=>rfl⟩
 | x :: r,S,id,acc,h1,h2,h3=>by
  obtain ⟨a1,a2,a3,a4,a5,a6,a7⟩:=apAll_facts r (apS S id (intVs (acc ++ [x]))) S.objs.length (acc ++ [x]) (by rw [apS_wp];omega) (by rw [apS_len];omega) (apS_new _ _ _)
  rw [apS_wp] at a2 a3
  rw [apS_len] at a5 a7
  simp only [apAll]
  rw [zaa,List.singleton_append] at a1
  exact ⟨a1,a2,a3,a4,by omega,by omega,fun i hi hl=>by rw [a7 i (by omega) (by omega),apS_old _ _ _ hi hl]⟩
def trimN (A B:List Int):Nat→Nat→Nat→Nat × Nat
 | 0,a,b=>(a,b)
 | k+1,a,b=>if 1<a∧1<b∧A[a - 2]?=B[b - 2]? then trimN A B k (a - 1) (b - 1) else (a,b)
theorem trimN_le (A B:List Int):∀ (k a b:Nat),0<a→0<b→(trimN A B k a b).1≤a∧(trimN A B k a b).2≤b∧0<(trimN A B k a b).1∧0<(trimN A B k a b).2
 | 0,a,b,h1,h2=>⟨Nat.le_refl _,Nat.le_refl _,h1,h2⟩
 | k+1,a,b,h1,h2=>by
  unfold trimN
  split
  ·have:=trimN_le A B k (a - 1) (b - 1) (by omega) (by omega)
   omega
  ·exact ⟨Nat.le_refl _,Nat.le_refl _,h1,h2⟩
def joinT (A B:List Int):List Int:=A.take (trimN A B 100 A.length B.length).1 ++ (B.take ((trimN A B 100 A.length B.length).2 - 1)).reverse
def pathT (p:List Int)(a b:Nat):List Int:=joinT (upP p a) (upP p b)
def distT (p:List Int)(a b:Int):Int:=if isT p a && isT p b then ((pathT p a.toNat b.toNat).length:Int) - 1 else -1
def sumT (p:List Int)(x:Int):List Int→Int→Option Int
 | [],s=>some s
 | y :: l,s=>if distT p x y<0 then none else sumT p x l (s+distT p x y)
def placeL (p l:List Int):Nat→Nat→Int→Int→Int
 | 0,_,best,_=>best
 | n+1,x,best,least=>match sumT p x l 0 with
  | none => -1
  | some s=>if best<0∨s<least then placeL p l n (x+1) x s else placeL p l n (x+1) best least
def placeT (p l:List Int):Int:=if l=[] then -1 else placeL p l (p.length+1) 0 (-1) 0
theorem upP_len (p:List Int)(b:Nat):0<(upP p b).length∧(upP p b).length≤b+1:=by
 have:=upF_len p b b
 simp only [upP,List.length_cons];omega
theorem joinT_len (A B:List Int)(h1:0<A.length)(h2:0<B.length):0<(joinT A B).length∧(joinT A B).length≤A.length+B.length:=by
 have:=trimN_le A B 100 A.length B.length h1 h2
 simp only [joinT,zla,List.length_take,List.length_reverse]
 omega
theorem distT_range (p:List Int)(a b:Int):-1≤distT p a b∧distT p a b≤20:=by
 unfold distT
 split
 ·rename_i h
  simp only [isT,rightT,Bool.and_eq_true,decide_eq_true_eq] at h
  have h1:=upP_len p a.toNat
  have h2:=upP_len p b.toNat
  have h3:=joinT_len (upP p a.toNat) (upP p b.toNat) h1.1 h2.1
  unfold pathT
  omega
 ·omega
theorem frz_ref {S:St} {id len:Nat} {l:List Int} (h:St.obj S id=some (intVs l))(hw:S.wp≤id)(h0:0<len)(hl:len≤l.length) :
  frz 6 S (.sref false 1 id 0 len)=some (.slice (intVs (l.take len)),{objs:=S.objs.set id [],wp:=S.wp}):=by
 have hstrip:∀ l:List Int,(intVs l).map V.strip1=intVs l:=fun l=>by simp only [intVs,List.map_map];rfl
 have hone:∀ l:List Int,(intVs l).all V.one=true:=fun l=>by simp [intVs,V.one]
 have hch:∀ (l:List Int),chunk false 1 l.length (intVs l)=intVs l:=by
  intro l
  induction l with
  | nil=>rfl
  | cons x r ih=>simp only [intVs,List.map_cons,List.length_cons,chunk,elemV] at ih ⊢;simp [ih]
 have hfl:∀ (n:Nat) (S:St) (l:List Int),frzL (frz n) S (intVs l)=some (intVs l,S):=fun n S l=>frzL_flat n S _ (flats_ints l)
 unfold frz
 simp only [h,set_some hw,Nat.mul_one,List.drop_zero,ints_take,hstrip,hfl,hone]
 rw [if_neg (by omega),if_pos (by constructor <;> simp;omega)]
 have hll:(l.take len).length=len:=by simp;omega
 have:=hch (l.take len)
 rw [hll] at this
 have hb:Nat.blt 1 1=false:=rfl
 rw [if_pos (by constructor <;> simp;omega),hb,this]
def upS (p:List Int)(b:Nat)(S:St):St × Nat:=apAll (upF p b b) (nw S 0 (intVs [(b:Int)])) S.objs.length [(b:Int)]
theorem upS_facts (p:List Int)(b:Nat)(S:St)(h:S.wp≤S.objs.length):St.obj (upS p b S).1 (upS p b S).2=some (intVs (upP p b))∧(upS p b S).1.wp=S.wp∧S.wp≤(upS p b S).2∧(upS p b S).2<(upS p b S).1.objs.length∧S.objs.length≤(upS p b S).2 ∧
  ∀ i,i<S.objs.length→St.obj (upS p b S).1 i=St.obj S i:=by
 have hl:(nw S 0 (intVs [(b:Int)])).objs.length=S.objs.length+1:=by simp [nw]
 obtain ⟨a1,a2,a3,a4,a5,a6,a7⟩:=apAll_facts (upF p b b) (nw S 0 (intVs [(b:Int)])) S.objs.length [(b:Int)] h (by rw [hl];omega) (nw_obj0 _ _)
 exact ⟨a1,a2,a3,a4,a6,fun i hi=>(a7 i (by omega) (by omega)).trans (nw_old _ _ hi)⟩
def finS (r:List Int)(S:St)(id:Nat)(acc:List Int):St:={objs:=(apAll r S id acc).1.objs.set (apAll r S id acc).2 [],wp:=(apAll r S id acc).1.wp}
theorem ints_strip (l:List Int):(intVs l).map V.strip1=intVs l:=by simp only [intVs,List.map_map];rfl
theorem ints_one (l:List Int):(intVs l).all V.one=true:=by simp [intVs,V.one]
end Go.Ab
namespace Go.Proofs.Ytdoobejjedpcgaa
open Go Go.Ab
noncomputable section
variable (fr:Fr)(st:St)(k:Kt)
def fi101:FI:={body:=codeOf Try.f101,ntmps:=20,results:=[.tmp 4],pers:=[0,1,4,5],locals:=[],pure:=false,marks:=[7,18]}
theorem H101:fi101.marks=[7,18]∧fi101.locals=[]∧fi101.results=[.tmp 4]:=⟨rfl,rfl,rfl⟩
theorem fi203_eq:gS.fn 101=some fi101:=by kernel_rfl
theorem st101 (a0 a1:V):startFr fi101 [a0,a1]={ps:=[(0,.val a0),(1,.val a1),(4,.any),(5,.any)],ts:=[],lc:=[]}:=rfl
def b101:Code:=mini (codeOf Try.f101)
def c101_10:Code:=.cond (.tmp 9) .skip (.exit 0)
def c101_8:Code:=.seq (codeN b101 131) c101_10
def c101_16:Code:=codeN b101 419
def c101_14:Code:=.seq (codeN b101 291) c101_16
def c101_13:Code:=.block 1 c101_14
def c101_7:Code:=.seq c101_8 c101_13
def c101_6:Code:=.loop c101_7
def c101_17:Code:=.seq (codeN b101 23) .ret
def c101_4:Code:=.seq (.block 0 c101_6) c101_17
def c101_2:Code:=.seq (codeN b101 5) c101_4
def c101_0:Code:=.seq (codeN b101 2) c101_2
theorem E101:evK gS fi101 c101_10 fr st k=condK gS fi101 (fr.op (.tmp 9)).bool? .skip (.exit 0) fr st k ∧
 (evK gS fi101 c101_8 fr st k=opsR gS fi101 [mv 8 1 3,
 qB 9 .gtr 3 8 0 3 4] fr st (.seq c101_10 k)) ∧
 (evK gS fi101 c101_16 fr st k=opsR gS fi101 [mv 15 5 22,
 mv 16 1 3,
 qS 17 22 16 22,
 qE 18 15 17 22 22,
 asn 5 18 22] fr st k) ∧
 (evK gS fi101 c101_14 fr st k=opsR gS fi101 [mv 10 0 22,
 mv 11 1 3,
 qB 12 .sub 3 11 1 3 3,
 ixa 13 22 10 12 0,
 ld 14 3 13 3,
 asn 1 14 3] fr st (.seq c101_16 k)) ∧
 evK gS fi101 c101_13 fr st k=evK gS fi101 c101_14 fr st (.blk 1 k) ∧
 evK gS fi101 c101_7 fr st k=evK gS fi101 c101_8 fr st (.seq c101_13 k) ∧
 (evK gS fi101 c101_17 fr st k=opsR gS fi101 [mv 19 5 22,
 asn 4 19 22] fr st (.seq .ret k)) ∧
 evK gS fi101 c101_4 fr st k=evK gS fi101 c101_6 fr st (.blk 0 (.seq c101_17 k)) ∧
 (evK gS fi101 c101_2 fr st k=opsR gS fi101 [mv 6 1 3,
 qS 7 22 6 22,
 asn 5 7 22] fr st (.seq c101_4 k)) ∧
 evK gS fi101 c101_0 fr st k=opsR gS fi101 [qN 4 22] fr st (.seq c101_2 k):=⟨rfl,evK_rs 2 rfl (by kernel_rfl),evK_r 4 (by kernel_rfl),evK_rs 3 rfl (by kernel_rfl),rfl,rfl,evK_rs 5 rfl (by kernel_rfl),rfl,evK_rs 1 rfl (by kernel_rfl),evK_rs 0 rfl (by kernel_rfl)⟩
theorem m101:mini fi101.body=c101_0:=by kernel_rfl
theorem n101_6 (fr:Fr)(st:St)(k:Kt):nextK gS fi101 (.loop c101_7 k) .normal fr st=evK gS fi101 c101_6 fr st k:=rfl
theorem L101 (p:List Int)(hp:upT 0 p=true)(hl7:p.length≤7):∀ (k b:Nat) (acc:List Int) (S:St) (id:Nat) (T:List (Nat × E)) (X:List (Nat × List V)),b≤k→b≤p.length→acc.length+k≤100→0<acc.length→S.wp≤id→id<S.objs.length→St.obj S id=some (intVs acc) →
  evK gS fi101 c101_6 {ps:=[(0,.val (.slice (intVs p))),(1,.val (.int .i64 (b:Nat))),(4,.own 0 []),(5,.val (.sref false 1 id 0 acc.length))],ts:=T,lc:=X} S (.blk 0 (.seq c101_17 .nil))=some (.ret (.sref false 1 (apAll (upF p k b) S id acc).2 0 (acc ++ upF p k b).length) none,(apAll (upF p k b) S id acc).1):=by
 intro k
 have hend:∀ (acc:List Int) (S:St) (id:Nat) (T:List (Nat × E)) (X:List (Nat × List V)),evK gS fi101 c101_6 {ps:=[(0,.val (.slice (intVs p))),(1,.val (.int .i64 0)),(4,.own 0 []),(5,.val (.sref false 1 id 0 acc.length))],ts:=T,lc:=X} S (.blk 0 (.seq c101_17 .nil))=some (.ret (.sref false 1 id 0 acc.length) none,S):=by
  intro acc S id T X
  refine evK_loop c101_7 _ _ _ _ rfl ?_
  simp [-zil,-zit,-znl,-znt,ty3,ty4,ty22,H101,E101,n101_6]
 induction k with
 | zero =>
  intro b acc S id T X hb hb2 ha h0 hw hi ho
  obtain rfl:b=0:=by omega
  rw [upF_zero,List.append_nil]
  exact hend acc S id T X
 | succ k ih =>
  intro b acc S id T X hb hb2 ha h0 hwp hi ho
  cases b with
  | zero=>rw [upF_zero,List.append_nil];exact hend acc S id T X
  | succ b =>
   obtain ⟨x,hx⟩  := qgx (l:=p) (i:=b) (by omega)
   obtain ⟨hlt2,hxe⟩:=List.getElem?_eq_some_iff.1 hx
   obtain ⟨h1,h2⟩:=upT_get p 0 b x hp hx
   obtain ⟨y,rfl⟩:∃ y:Nat,x=(y:Int):=⟨x.toNat,by omega⟩
   rw [upF_succ p k b _ hx]
   have IH:=fun T X=>ih y (acc ++ [(y:Int)]) (apS S id (intVs (acc ++ [(y:Int)]))) S.objs.length T X (by omega) (by omega) (by simp;omega) (by simp) (by rw [apS_wp];omega) (by rw [apS_len];omega) (apS_new _ _ _)
   simp only [Int.toNat_natCast]
   rw [show apAll ((y:Int) :: upF p k y) S id acc=apAll (upF p k y) (apS S id (intVs (acc ++ [(y:Int)]))) S.objs.length (acc ++ [(y:Int)]) from rfl,List.append_cons acc (y:Int) (upF p k y)]
   rw [show (acc ++ [(y:Int)]).length=acc.length+1 from by simp] at IH
   generalize apAll (upF p k y) (apS S id (intVs (acc ++ [(y:Int)]))) S.objs.length (acc ++ [(y:Int)])=Q at IH ⊢
   generalize (acc ++ [(y:Int)] ++ upF p k y).length=L at IH ⊢
   have hw:IntKind.wrap .i64 (((b+1:Nat):Int) - 1)=(b:Int):=by rw [wrap64 (by omega) (by omega)];omega
   have hpos:(0:Int)<((b+1:Nat):Int):=by omega
   have hs1:=ints_strip acc
   have hs2:=ints_one acc
   have hs3:=ints_snoc acc (y:Int)
   have hs4:=set_some hwp []
   have hs5:=newRef_ap S id
   have b1:(acc.length+1)*8≤140737488355328:=by omega
   have b2:acc.length+1≤140737488355328:=by omega
   have b3:¬ acc.length=0:=by omega
   refine evK_loop c101_7 _ _ _ _ rfl ?_
   simp [-St.obj,-St.set,-zia,-zaa,hw,hpos,hx,hxe,hlt2,ho,h0,hs1,hs2,hs3,hs4,hs5,b1,b2,b3,IH,markStep,markAppend,elemsAt,-zil,-zit,-znl,-znt,ty3,ty4,ty22,H101,E101,n101_6]
theorem c101 (p:List Int)(hp:upT 0 p=true)(hl7:p.length≤7)(b:Nat)(hb:b≤p.length)(S:St)(hS:S.wp≤S.objs.length):EvF gS 101 [.slice (intVs p),.int .i64 (b:Nat)] S=some (.ret (.sref false 1 (upS p b S).2 0 (upP p b).length) none,(upS p b S).1):=by
 refine EvF_start fi203_eq (fun x h=>by cases h) m101 ?_
 rw [st101]
 have LL:=fun T X=>L101 p hp hl7 b b [(b:Int)] (nw S 0 (intVs [(b:Int)])) S.objs.length T X (Nat.le_refl _) hb (by simp;omega) (by simp) hS (by simp [nw]) (nw_obj0 _ _)
 rw [show apAll (upF p b b) (nw S 0 (intVs [(b:Int)])) S.objs.length [(b:Int)]=upS p b S from rfl,show [(b:Int)] ++ upF p b b=upP p b from rfl,show [(b:Int)].length=1 from rfl,show intVs [(b:Int)]=[.int .i64 (b:Int)] from rfl] at LL
 have hn:=newRef_nw S
 simp [-St.obj,-St.set,-zia,LL,hn,markStep,-zil,-zit,-znl,-znt,ty3,ty4,ty22,H101,E101,n101_6]
theorem k101 (p:List Int)(hp:upT 0 p=true)(hl7:p.length≤7)(b:Nat)(hb:b≤p.length)(fr:Fr)(S:St)(hS:S.wp≤S.objs.length):callStep gS (EvF gS) 101 [.slice (intVs p),.int .i64 (b:Nat)] fr S=some (.ok (.val (.sref false 1 (upS p b S).2 0 (upP p b).length)) (fr.map E.noMem) (upS p b S).1):=by
 unfold callStep
 simp only [show gS.ext 101=none from rfl,fi203_eq,show fi101.pure=false from rfl,Bool.false_eq_true,if_false,c101 p hp hl7 b hb S hS,retE]
def fi79:FI:={body:=codeOf Try.f79,ntmps:=64,results:=[.tmp 6],pers:=[0,1,2,6,7,8,9],locals:=[],pure:=true,marks:=[62,1000000]}
theorem H79:fi79.marks=[62,1000000]∧fi79.locals=[]∧fi79.results=[.tmp 6]:=⟨rfl,rfl,rfl⟩
theorem fi204_eq:gS.fn 79=some fi79:=by kernel_rfl
theorem st79 (a0 a1 a2:V):startFr fi79 [a0,a1,a2]={ps:=[(0,.val a0),(1,.val a1),(2,.val a2),(6,.any),(7,.any),(8,.any),(9,.any)],ts:=[],lc:=[]}:=rfl
def b79:Code:=mini (codeOf Try.f79)
def r79_9:Array Oper:=regOps (codeN (codeOf Try.f79) 131)
def c79_9:Code:=.region 2 r79_9 true
def q79_9:List (Oper × Fl):=[(mv 16 7 22,qz0),
 (len1 17 16 22 3,qz1),
 (qB 18 .gtr 3 17 1 3 4,qz1),
 (mv 19 18 4,qz1),
 (qm 20 8 22 3 true,qz0),
 (qe 21 20 22 3 3 true,qz1),
 (qc 22 .gtr 3 21 1 3 4 3 true,qz1),
 (qP 23 19 22 false 4,qz1),
 (mv 24 23 4,qz1),
 (qm 25 7 22 8 true,qz0),
 (qm 26 7 22 8 true,qz0),
 (qe 27 26 22 3 8 true,qz0),
 (qc 28 .sub 3 27 2 3 3 8 true,qz0),
 (qi 29 22 25 28 0 8 true,qz0),
 (ql 30 3 29 3 8 true,qz0),
 (qm 31 8 22 8 true,qz0),
 (qm 32 8 22 8 true,qz0),
 (qe 33 32 22 3 8 true,qz0),
 (qc 34 .sub 3 33 2 3 3 8 true,qz3),
 (qi 35 22 31 34 0 8 true,qz3),
 (ql 36 3 35 3 8 true,qz3),
 (qb 37 .eql 3 30 36 3 4 8 true,qz3),
 (qP 38 24 37 false 4,qz3)]
def c79_10:Code:=.cond (.tmp 38) .skip (.exit 0)
def c79_8:Code:=.seq c79_9 c79_10
def r79_14:Array Oper:=regOps (codeN (codeOf Try.f79) 163)
def c79_14:Code:=.region 3 r79_14 true
def q79_14:List (Oper × Fl):=[(mv 39 7 22,qz0),
 (mv 40 7 22,qz0),
 (len1 41 40 22 3,qz0),
 (qB 42 .sub 3 41 1 3 3,qz0),
 (op1 43 (.slice 22 (.tmp 39) none (some (.tmp 42)) none) 22,qz0),
 (mv 44 8 22,qz0),
 (mv 45 8 22,qz0),
 (len1 46 45 22 3,qz0),
 (qB 47 .sub 3 46 1 3 3,qz0),
 (op1 48 (.slice 22 (.tmp 44) none (some (.tmp 47)) none) 22,qz0),
 (asn 7 43 22,qz3),
 (asn 8 48 22,qz1)]
def c79_13:Code:=.block 1 c79_14
def c79_7:Code:=.seq c79_8 c79_13
def c79_6:Code:=.loop c79_7
def c79_23:Code:=.cond (.tmp 53) .skip (.exit 2)
def c79_21:Code:=.seq (codeN b79 535) c79_23
def c79_28:Code:=codeN b79 1175
def c79_29:Code:=codeN b79 919
def c79_26:Code:=.seq (.block 3 c79_28) c79_29
def c79_20:Code:=.seq c79_21 c79_26
def c79_19:Code:=.loop c79_20
def c79_18:Code:=.block 2 c79_19
def c79_16:Code:=.seq (codeN b79 39) c79_18
def c79_30:Code:=.seq (codeN b79 47) .ret
def c79_15:Code:=.seq c79_16 c79_30
theorem e79_15:evK gS fi79 c79_15 fr st k=evK gS fi79 c79_16 fr st (.seq c79_30 k):=rfl
def c79_4:Code:=.seq (.block 0 c79_6) c79_15
def c79_2:Code:=.seq (codeN b79 5) c79_4
def c79_0:Code:=.seq (codeN b79 2) c79_2
theorem E79:evK gS fi79 c79_9 fr st k=drwR gS fi79 r79_9 q79_9 fr st k ∧
 evK gS fi79 c79_10 fr st k=condK gS fi79 (fr.op (.tmp 38)).bool? .skip (.exit 0) fr st k ∧
 evK gS fi79 c79_8 fr st k=evK gS fi79 c79_9 fr st (.seq c79_10 k) ∧
 evK gS fi79 c79_14 fr st k=drwR gS fi79 r79_14 q79_14 fr st k ∧
 evK gS fi79 c79_13 fr st k=evK gS fi79 c79_14 fr st (.blk 1 k) ∧
 evK gS fi79 c79_7 fr st k=evK gS fi79 c79_8 fr st (.seq c79_13 k) ∧
 evK gS fi79 c79_23 fr st k=condK gS fi79 (fr.op (.tmp 53)).bool? .skip (.exit 2) fr st k ∧
 (evK gS fi79 c79_21 fr st k=opsR gS fi79 [mv 52 9 3,
 qB 53 .geq 3 52 0 3 4] fr st (.seq c79_23 k)) ∧
 (evK gS fi79 c79_28 fr st k=opsR gS fi79 [mv 56 7 22,
 mv 57 8 22,
 mv 58 9 3,
 ixa 59 22 57 58 0,
 ld 60 3 59 3,
 qS 61 22 60 22,
 qE 62 56 61 22 22,
 asn 7 62 22] fr st k) ∧
 (evK gS fi79 c79_29 fr st k=opsR gS fi79 [mv 54 9 3,
 qB 55 .sub 3 54 1 3 3,
 asn 9 55 3] fr st k) ∧
 evK gS fi79 c79_26 fr st k=evK gS fi79 c79_28 fr st (.blk 3 (.seq c79_29 k)) ∧
 evK gS fi79 c79_20 fr st k=evK gS fi79 c79_21 fr st (.seq c79_26 k) ∧
 evK gS fi79 c79_18 fr st k=evK gS fi79 c79_19 fr st (.blk 2 k) ∧
 (evK gS fi79 c79_16 fr st k=opsR gS fi79 [mv 49 8 22,
 len1 50 49 22 3,
 qB 51 .sub 3 50 2 3 3,
 asn 9 51 3] fr st (.seq c79_18 k)) ∧
 (evK gS fi79 c79_30 fr st k=opsR gS fi79 [mv 63 7 22,
 asn 6 63 22] fr st (.seq .ret k)) ∧
 evK gS fi79 c79_4 fr st k=evK gS fi79 c79_6 fr st (.blk 0 (.seq c79_15 k)) ∧
 (evK gS fi79 c79_2 fr st k=opsR gS fi79 [mv 10 0 22,
 mv 11 1 3,
 cal 12 101 [(.tmp 10),(.tmp 11)] [22,3] 22,
 mv 13 0 22,
 mv 14 2 3,
 cal 15 101 [(.tmp 13),(.tmp 14)] [22,3] 22,
 asn 7 12 22,
 asn 8 15 22] fr st (.seq c79_4 k)) ∧
 evK gS fi79 c79_0 fr st k=opsR gS fi79 [qN 6 22] fr st (.seq c79_2 k):=⟨evK_dr 2 rfl (by kernel_rfl) (by kernel_rfl),rfl,rfl,evK_dr 3 rfl (by kernel_rfl) (by kernel_rfl),rfl,rfl,rfl,evK_rs 5 rfl (by kernel_rfl),evK_r 7 (by kernel_rfl),evK_r 6 (by kernel_rfl),rfl,rfl,rfl,evK_rs 4 rfl (by kernel_rfl),evK_rs 8 rfl (by kernel_rfl),rfl,evK_rs 1 rfl (by kernel_rfl),evK_rs 0 rfl (by kernel_rfl)⟩
theorem m79:mini fi79.body=c79_0:=by kernel_rfl
theorem n79_6 (fr:Fr)(st:St)(k:Kt):nextK gS fi79 (.loop c79_7 k) .normal fr st=evK gS fi79 c79_6 fr st k:=rfl
theorem n79_19 (fr:Fr)(st:St)(k:Kt):nextK gS fi79 (.loop c79_20 k) .normal fr st=evK gS fi79 c79_19 fr st k:=rfl
theorem L79_6 (A B:List Int)(S:St)(ida idb:Nat)(hA:St.obj S ida=some (intVs A))(hB:St.obj S idb=some (intVs B))(hA1:A.length<1000)(hB1:B.length<1000)(R:Out × St)(e0 e1 e2:E)(t0:e0.Tame)(t1:e1.Tame)(t2:e2.Tame)(X:List (Nat × List V)):∀ (k a b:Nat) (T:List (Nat × E))
  (H:∀ T,evK gS fi79 c79_15 {ps:=[(0,e0),(1,e1),(2,e2),(6,.own 0 []),(7,.val (.sref false 1 ida 0 (trimN A B k a b).1)),(8,.val (.sref false 1 idb 0 (trimN A B k a b).2)),(9,.any)],ts:=T,lc:=X} S .nil=some R),a≤k+1→a≤A.length→b≤B.length→evK gS fi79 c79_6 {ps:=[(0,e0),(1,e1),(2,e2),(6,.own 0 []),(7,.val (.sref false 1 ida 0 a)),(8,.val (.sref false 1 idb 0 b)),(9,.any)],ts:=T,lc:=X} S (.blk 0 (.seq c79_15 .nil))=some R:=by
 intro k
 have hno:∀ (a b:Nat) (T:List (Nat × E)) (H:∀ T,evK gS fi79 c79_15 {ps:=[(0,e0),(1,e1),(2,e2),(6,.own 0 []),(7,.val (.sref false 1 ida 0 a)),(8,.val (.sref false 1 idb 0 b)),(9,.any)],ts:=T,lc:=X} S .nil=some R),a≤A.length→b≤B.length→¬ (1<a∧1<b∧A[a - 2]?=B[b - 2]?) →
   evK gS fi79 c79_6 {ps:=[(0,e0),(1,e1),(2,e2),(6,.own 0 []),(7,.val (.sref false 1 ida 0 a)),(8,.val (.sref false 1 idb 0 b)),(9,.any)],ts:=T,lc:=X} S (.blk 0 (.seq c79_15 .nil))=some R:=by
  intro a b T H ha hb hc
  refine evK_loop c79_7 _ _ _ _ rfl ?_
  by_cases c1:1<a
  ·have d1:(1:Int)<(a:Int):=by omega
   have w1:IntKind.wrap .i64 ((a:Int) - 2)=((a - 2:Nat):Int):=by rw [wrap64 (by omega) (by omega)];omega
   obtain ⟨x,hx⟩:∃ x,A[a - 2]?=some x:=⟨A[a - 2]'(by omega),zge (by omega)⟩
   obtain ⟨x1,x2⟩:=List.getElem?_eq_some_iff.1 hx
   have x3:((a - 2:Nat):Int)<(a:Int):=by omega
   have x4:a - 2<a:=by omega
   by_cases c2:1<b
   ·have d2:(1:Int)<(b:Int):=by omega
    have w2:IntKind.wrap .i64 ((b:Int) - 2)=((b - 2:Nat):Int):=by rw [wrap64 (by omega) (by omega)];omega
    obtain ⟨y,hy⟩:∃ y,B[b - 2]?=some y:=⟨B[b - 2]'(by omega),zge (by omega)⟩
    obtain ⟨y1,y2⟩:=List.getElem?_eq_some_iff.1 hy
    have y3:((b - 2:Nat):Int)<(b:Int):=by omega
    have y4:b - 2<b:=by omega
    have hne:¬ x=y:=fun e=>hc ⟨c1,c2,by rw [hx,hy,e]⟩
    generalize a - 2=p at *
    generalize b - 2=q at *
    simp [-St.obj,-St.set,-zia,hA,hB,c1,c2,d1,d2,w1,w2,x1,x2,x3,x4,y1,y2,y3,y4,hx,hy,hne,t0,t1,t2,H,-zil,-zit,-znl,-znt,ty3,ty4,ty22,H79,fi203_eq,E79,q79_9,q79_14,n79_6,n79_19]
   ·have d2:¬ (1:Int)<(b:Int):=by omega
    simp [-St.obj,-St.set,-zia,hA,hB,c1,c2,d1,d2,t0,t1,t2,H,-zil,-zit,-znl,-znt,ty3,ty4,ty22,H79,fi203_eq,E79,q79_9,q79_14,n79_6,n79_19]
  ·have d1:¬ (1:Int)<(a:Int):=by omega
   simp [-St.obj,-St.set,-zia,c1,d1,t0,t1,t2,H,-zil,-zit,-znl,-znt,ty3,ty4,ty22,H79,fi203_eq,E79,q79_9,q79_14,n79_6,n79_19]
 induction k with
 | zero =>
  intro a b T H hk ha hb
  exact hno a b T H ha hb (by omega)
 | succ k ih =>
  intro a b T H hk ha hb
  unfold trimN at H
  by_cases hc:1<a∧1<b∧A[a - 2]?=B[b - 2]?
  ·rw [if_pos hc] at H
   obtain ⟨c1,c2,c3⟩:=hc
   have IH:=fun T=>ih (a - 1) (b - 1) T H (by omega) (by omega) (by omega)
   have d1:(1:Int)<(a:Int):=by omega
   have w1:IntKind.wrap .i64 ((a:Int) - 2)=((a - 2:Nat):Int):=by rw [wrap64 (by omega) (by omega)];omega
   have v1:IntKind.wrap .i64 ((a:Int) - 1)=((a - 1:Nat):Int):=by rw [wrap64 (by omega) (by omega)];omega
   obtain ⟨x,hx⟩:∃ x,A[a - 2]?=some x:=⟨A[a - 2]'(by omega),zge (by omega)⟩
   obtain ⟨x1,x2⟩:=List.getElem?_eq_some_iff.1 hx
   have x3:((a - 2:Nat):Int)<(a:Int):=by omega
   have x4:a - 2<a:=by omega
   have d2:(1:Int)<(b:Int):=by omega
   have w2:IntKind.wrap .i64 ((b:Int) - 2)=((b - 2:Nat):Int):=by rw [wrap64 (by omega) (by omega)];omega
   have v2:IntKind.wrap .i64 ((b:Int) - 1)=((b - 1:Nat):Int):=by rw [wrap64 (by omega) (by omega)];omega
   have hy:B[b - 2]?=some x:=by rw [← c3];exact hx
   obtain ⟨y1,y2⟩:=List.getElem?_eq_some_iff.1 hy
   have y3:((b - 2:Nat):Int)<(b:Int):=by omega
   have y4:b - 2<b:=by omega
   have g1:((a - 1:Nat):Int)≤(a:Int):=by omega
   have g2:((b - 1:Nat):Int)≤(b:Int):=by omega
   have i1:a - 1≤a:=by omega
   have i2:b - 1≤b:=by omega
   have n1:¬ 0=a - 1:=by omega
   have n2:¬ 0=b - 1:=by omega
   have n3:¬ a - 1=0:=by omega
   have n4:¬ b - 1=0:=by omega
   refine evK_loop c79_7 _ _ _ _ rfl ?_
   generalize a - 2=p at *
   generalize b - 2=q at *
   generalize a - 1=p1 at *
   generalize b - 1=q1 at *
   simp [-St.obj,-St.set,-zia,hA,hB,c1,c2,d1,d2,w1,w2,v1,v2,x1,x2,x3,x4,y1,y2,y3,y4,hx,hy,g1,g2,i1,i2,n1,n2,n3,n4,t0,t1,t2,IH,-zil,-zit,-znl,-znt,ty3,ty4,ty22,H79,fi203_eq,E79,q79_9,q79_14,n79_6,n79_19]
  ·rw [if_neg hc] at H
   exact hno a b T H ha hb hc
theorem L79_19 (B:List Int)(b idb:Nat)(hb:b≤B.length)(hB1:B.length<1000)(e0 e1 e2:E)(t0:e0.Tame)(t1:e1.Tame)(t2:e2.Tame)(X:List (Nat × List V)):∀ (n:Nat) (acc C:List Int) (S:St) (ida:Nat) (T:List (Nat × E)),n≤b→0<acc.length→acc.length+n<100000 →
  St.obj S ida=some (intVs C)→acc.length≤C.length→C.take acc.length=acc→S.wp≤ida→ida<S.objs.length→St.obj S idb=some (intVs B)→idb<S.objs.length→ida≠idb →
  evK gS fi79 c79_19 {ps:=[(0,e0),(1,e1),(2,e2),(6,.own 0 []),(7,.val (.sref false 1 ida 0 acc.length)),(8,.val (.sref false 1 idb 0 b)),(9,.val (.int .i64 (((n:Nat):Int) - 1)))],ts:=T,lc:=X} S (.blk 2 (.seq c79_30 .nil))=some (.ret (.slice (intVs (acc ++ (B.take n).reverse))) none,finS (B.take n).reverse S ida acc):=by
 intro n
 have hm:fi79.marks=[62,1000000]:=rfl
 have hl:fi79.locals=[]:=rfl
 have hr:fi79.results=[.tmp 6]:=rfl
 induction n with
 | zero =>
  intro acc C S ida T hn h0 ha hA hl hC hw hi hB hib hne
  rw [show (((0:Nat):Int) - 1) = -1 from rfl,List.take_zero,List.reverse_nil,List.append_nil]
  have hz:=frz_ref hA hw h0 hl
  rw [hC] at hz
  rw [show finS [] S ida acc={objs:=S.objs.set ida [],wp:=S.wp} from rfl]
  refine evK_loop c79_20 _ _ _ _ rfl ?_
  simp [-St.obj,-St.set,hz,t0,t1,t2,-zil,-zit,-znl,-znt,ty3,ty4,ty22,hm,hl,hr,fi203_eq,E79,q79_9,q79_14,e79_15,n79_6,n79_19]
 | succ n ih =>
  intro acc C S ida T hn h0 ha hA hl hC hwp hi hB hib hne
  rw [show (((n+1:Nat):Int) - 1)=(n:Int) from by omega]
  obtain ⟨x,hx⟩  := qgx (l:=B) (i:=n) (by omega)
  obtain ⟨x1,x2⟩:=List.getElem?_eq_some_iff.1 hx
  have x3:(n:Int)<(b:Int):=by omega
  have x4:n<b:=by omega
  rw [take_rev B n x hx]
  rw [show finS (x :: (B.take n).reverse) S ida acc=finS (B.take n).reverse (apS S ida (intVs (acc ++ [x]))) S.objs.length (acc ++ [x]) from rfl,List.append_cons acc x (B.take n).reverse]
  have IH:=fun T=>ih (acc ++ [x]) (acc ++ [x]) (apS S ida (intVs (acc ++ [x]))) S.objs.length T (by omega) (by simp) (by simp;omega) (apS_new _ _ _) (Nat.le_refl _) (List.take_length) (by rw [apS_wp];omega) (by rw [apS_len];omega) (by rw [apS_old _ _ _ (Ne.symm hne) hib];exact hB) (by rw [apS_len];omega) (by omega)
  rw [show (acc ++ [x]).length=acc.length+1 from by simp] at IH
  generalize finS (B.take n).reverse (apS S ida (intVs (acc ++ [x]))) S.objs.length (acc ++ [x])=Q at IH ⊢
  generalize intVs (acc ++ [x] ++ (B.take n).reverse)=L at IH ⊢
  have hw:IntKind.wrap .i64 ((n:Int) - 1)=(n:Int) - 1:=by rw [wrap64 (by omega) (by omega)]
  have hge:(0:Int)≤(n:Int):=by omega
  have hs1:=ints_strip acc
  have hs2:=ints_one acc
  have hs3:=ints_snoc acc x
  have hs4:=set_some hwp []
  have hs5:=newRef_ap S ida
  have b1:(acc.length+1)*8≤140737488355328:=by omega
  have b2:acc.length+1≤140737488355328:=by omega
  have b3:¬ acc.length=0:=by omega
  refine evK_loop c79_20 _ _ _ _ rfl ?_
  rcases Nat.lt_or_ge acc.length C.length with hlc | hlc
  ·have hC2:(intVs C).take acc.length=intVs acc:=by rw [ints_take,hC]
   have hlc2:¬ C.length=acc.length:=by omega
   simp [-St.obj,-St.set,-zia,-zaa,hw,hge,hx,x1,x2,x3,x4,hA,hB,h0,hs1,hs2,hs3,hs4,hs5,b1,b2,b3,hC2,hlc,hlc2,t0,t1,t2,IH,markStep,markAppend,elemsAt,-zil,-zit,-znl,-znt,ty3,ty4,ty22,hm,hl,hr,fi203_eq,E79,q79_9,q79_14,e79_15,n79_6,n79_19]
  ·obtain rfl:C=acc:=by rw [List.take_of_length_le hlc] at hC;exact hC
   simp [-St.obj,-St.set,-zia,-zaa,hw,hge,hx,x1,x2,x3,x4,hA,hB,h0,hs1,hs2,hs3,hs4,hs5,b1,b2,b3,t0,t1,t2,IH,markStep,markAppend,elemsAt,-zil,-zit,-znl,-znt,ty3,ty4,ty22,hm,hl,hr,fi203_eq,E79,q79_9,q79_14,e79_15,n79_6,n79_19]
theorem c79 (p:List Int)(hp:upT 0 p=true)(hl7:p.length≤7)(a b:Nat)(ha:a≤p.length)(hb:b≤p.length)(S:St)(hS:S.wp≤S.objs.length):∃ st',EvF gS 79 [.slice (intVs p),.int .i64 (a:Nat),.int .i64 (b:Nat)] S=some (.ret (.slice (intVs (pathT p a b))) none,st'):=by
 obtain ⟨f1,f2,f3,f4,f5,f6⟩:=upS_facts p a S hS
 have k1:=fun fr=>k101 p hp hl7 a ha fr S hS
 have hS1:(upS p a S).1.wp≤(upS p a S).1.objs.length:=by omega
 obtain ⟨g1,g2,g3,g4,g5,g6⟩:=upS_facts p b (upS p a S).1 hS1
 have k2:=fun fr=>k101 p hp hl7 b hb fr (upS p a S).1 hS1
 have la:=upP_len p a
 have lb:=upP_len p b
 have f1':=(g6 _ f4).trans f1
 unfold pathT
 generalize upP p a=A at *
 generalize upP p b=B at *
 generalize upS p b (upS p a S).1=Q2 at *
 generalize upS p a S=Q1 at *
 obtain ⟨S1,ida⟩:=Q1
 obtain ⟨S2,idb⟩:=Q2
 simp only at *
 have ht:=trimN_le A B 100 A.length B.length la.1 lb.1
 have hw1:S2.wp≤ida:=by omega
 have hne:ida≠idb:=by omega
 have hl2:ida<S2.objs.length:=by omega
 refine ⟨finS (B.take ((trimN A B 100 A.length B.length).2 - 1)).reverse S2 ida (A.take (trimN A B 100 A.length B.length).1),?_⟩
 refine EvF_start fi204_eq (fun x h=>by cases h) m79 ?_
 rw [st79]
 have LL:=fun R e0 e1 e2 t0 t1 t2 X T H=>L79_6 A B S2 ida idb f1' g1 (by omega) (by omega) R e0 e1 e2 t0 t1 t2 X 100 A.length B.length T H (by omega) (Nat.le_refl _) (Nat.le_refl _)
 unfold joinT
 generalize trimN A B 100 A.length B.length=q at *
 obtain ⟨qa,qb⟩:=q
 simp only at *
 have hta:(A.take qa).length=qa:=by simp;omega
 have MM:=fun e0 e1 e2 t0 t1 t2 X T=>L79_19 B qb idb (by omega) (by omega) e0 e1 e2 t0 t1 t2 X (qb - 1) (A.take qa) A S2 ida T (by omega) (by omega) (by omega) f1' (by omega) (by rw [hta]) hw1 hl2 g1 g4 hne
 rw [hta] at MM
 generalize hR:(Out.ret (V.slice (intVs (A.take qa ++ (B.take (qb - 1)).reverse))) none,finS (B.take (qb - 1)).reverse S2 ida (A.take qa))=R at *
 have hv:IntKind.wrap .i64 ((qb:Int) - 2)=((qb - 1:Nat):Int) - 1:=by rw [wrap64 (by omega) (by omega)];omega
 simp [-St.obj,-St.set,-zia,k1,k2,-zil,-zit,-znl,-znt,ty3,ty4,ty22,H79,fi203_eq,E79,q79_9,q79_14,e79_15,n79_6,n79_19]
 refine LL _ _ _ _ ?_ ?_ ?_ _ _ (fun T=>?_)
 ·simp
 ·simp
 ·simp
 simp [-St.obj,-St.set,-zia,hv,-zil,-zit,-znl,-znt,ty3,ty4,ty22,H79,fi203_eq,E79,q79_9,q79_14,e79_15,n79_6,n79_19]
 refine MM _ _ _ ?_ ?_ ?_ _ _
 all_goals simp
theorem k79 (p:List Int)(hp:upT 0 p=true)(hl7:p.length≤7)(a b:Nat)(ha:a≤p.length)(hb:b≤p.length)(fr:Fr)(st:St):callStep gS (EvF gS) 79 [.slice (intVs p),.int .i64 (a:Nat),.int .i64 (b:Nat)] fr st=some (.ok (.val (.slice (intVs (pathT p a b)))) fr st) :=
 call_pure' rfl fi204_eq rfl (by simp [flats,V.flat]) (c79 p hp hl7 a b ha hb ⟨[],0⟩ (Nat.le_refl _)) (by simp [V.flat])
end
end Go.Proofs.Ytdoobejjedpcgaa
namespace Go.Ab
open Go
theorem vsame_symm {a b:Val} (h:vsame a b=true):vsame b a=true:=by
 simp only [vsame,Bool.and_eq_true,decide_eq_true_eq] at h ⊢
 obtain ⟨⟨⟨⟨h1,h2⟩,h3⟩,h4⟩,h5⟩:=h
 exact ⟨⟨⟨⟨h1.symm,h2.symm⟩,h3.symm⟩,h4.symm⟩,h5.symm⟩
theorem vsame_trans {a b c:Val} (h:vsame a b=true)(k:vsame b c=true):vsame a c=true:=by
 simp only [vsame,Bool.and_eq_true,decide_eq_true_eq] at h k ⊢
 obtain ⟨⟨⟨⟨h1,h2⟩,h3⟩,h4⟩,h5⟩:=h
 obtain ⟨⟨⟨⟨k1,k2⟩,k3⟩,k4⟩,k5⟩:=k
 exact ⟨⟨⟨⟨h1.trans k1,h2.trans k2⟩,h3.trans k3⟩,h4.trans k4⟩,h5.trans k5⟩
theorem sames_symm:∀ {a b:List Val},sames a b=true→sames b a=true
 | [],[],_=>rfl
 | x :: r,y :: s,h=>by
  simp only [sames,Bool.and_eq_true] at h ⊢
  exact ⟨vsame_symm h.1,sames_symm h.2⟩
 | [],_ :: _,h=>by simp [sames] at h
 | _ :: _,[],h=>by simp [sames] at h
theorem sames_trans:∀ {a b c:List Val},sames a b=true→sames b c=true→sames a c=true
 | [],[],[],_,_=>rfl
 | x :: r,y :: s,z :: t,h,k=>by
  simp only [sames,Bool.and_eq_true] at h k ⊢
  exact ⟨vsame_trans h.1 k.1,sames_trans h.2 k.2⟩
 | [],_ :: _,_,h,_=>by simp [sames] at h
 | _ :: _,[],_,h,_=>by simp [sames] at h
 | [],[],_ :: _,_,k=>by simp [sames] at k
 | _ :: _,_ :: _,[],_,k=>by simp [sames] at k
theorem psame_symm {a b:Pred} (h:psame a b=true):psame b a=true:=by
 simp only [psame,Bool.and_eq_true,decide_eq_true_eq] at h ⊢
 obtain ⟨⟨⟨⟨h1,h2⟩,h3⟩,h4⟩,h5⟩:=h
 exact ⟨⟨⟨⟨h1.symm,h2.symm⟩,vsame_symm h3⟩,vsame_symm h4⟩,sames_symm h5⟩
theorem psame_trans {a b c:Pred} (h:psame a b=true)(k:psame b c=true):psame a c=true:=by
 simp only [psame,Bool.and_eq_true,decide_eq_true_eq] at h k ⊢
 obtain ⟨⟨⟨⟨h1,h2⟩,h3⟩,h4⟩,h5⟩:=h
 obtain ⟨⟨⟨⟨k1,k2⟩,k3⟩,k4⟩,k5⟩:=k
 exact ⟨⟨⟨⟨h1.trans k1,h2.trans k2⟩,vsame_trans h3 k3⟩,vsame_trans h4 k4⟩,sames_trans h5 k5⟩
theorem psame_rfl (p:Pred):psame p p=true:=by simp [psame,vsame_refl,sames_refl]
theorem fsames_rfl:∀ l:List Pred,fsames l l=true
 | []=>rfl
 | a :: r=>by simp [fsames,psame_rfl,fsames_rfl r]
theorem fsames_symm:∀ {a b:List Pred},fsames a b=true→fsames b a=true
 | [],[],_=>rfl
 | x :: r,y :: s,h=>by
  simp only [fsames,Bool.and_eq_true] at h ⊢
  exact ⟨psame_symm h.1,fsames_symm h.2⟩
 | [],_ :: _,h=>by simp [fsames] at h
 | _ :: _,[],h=>by simp [fsames] at h
theorem fsames_trans:∀ {a b c:List Pred},fsames a b=true→fsames b c=true→fsames a c=true
 | [],[],[],_,_=>rfl
 | x :: r,y :: s,z :: t,h,k=>by
  simp only [fsames,Bool.and_eq_true] at h k ⊢
  exact ⟨psame_trans h.1 k.1,fsames_trans h.2 k.2⟩
 | [],_ :: _,_,h,_=>by simp [fsames] at h
 | _ :: _,[],_,h,_=>by simp [fsames] at h
 | [],[],_ :: _,_,k=>by simp [fsames] at k
 | _ :: _,_ :: _,[],_,k=>by simp [fsames] at k
theorem fsame_iff {a b:List Pred}:fsame a b=true↔fsames a b=true:=by
 unfold fsame
 rw [Bool.and_eq_true]
 exact ⟨fun h=>h.2,fun h=>⟨by simpa using fsames_len h,h⟩⟩
theorem fsame_rfl (f:List Pred):fsame f f=true:=fsame_iff.2 (fsames_rfl f)
theorem fsame_symm {a b:List Pred} (h:fsame a b=true):fsame b a=true:=fsame_iff.2 (fsames_symm (fsame_iff.1 h))
theorem fsame_trans {a b c:List Pred} (h:fsame a b=true)(k:fsame b c=true):fsame a c=true:=fsame_iff.2 (fsames_trans (fsame_iff.1 h) (fsame_iff.1 k))
theorem fold_and {α:Type} (P:α→Bool):∀ (l:List α) (b:Bool),l.foldl (fun b t=>b && !P t) b=(b && l.all fun t=>!P t)
 | [],b=>by simp
 | x :: r,b=>by rw [List.foldl_cons,fold_and P r,List.all_cons,Bool.and_assoc]
theorem fstOf_iff {l:List Sub} {i:Nat} {s:Sub}:fstOf l i s=true↔∀ k t,k<i→l[k]?=some t→fsame s.filter t.filter=false:=by
 unfold fstOf
 rw [fold_and,Bool.true_and,List.all_eq_true]
 constructor
 ·intro h k t hk ht
  have:=h t (by
   refine zmg (i:=k) ?_
   rw [List.getElem?_take,if_pos hk];exact ht)
  simpa using this
 ·intro h t ht
  obtain ⟨k,hk⟩:=List.mem_iff_getElem?.1 ht
  rw [List.getElem?_take] at hk
  split at hk
  ·rename_i hlt
   simp [h k t hlt hk]
  ·cases hk
theorem gofG_spec (l:List Sub):∀ (r:List Sub) (i:Nat) (out:List Grp),l.drop i=r→∀ x,x∈gofG l i r out↔x∈out∨∃ k s,i≤k∧l[k]?=some s∧fstOf l k s=true∧x=⟨s.filter,cliOf l s⟩
 | [],i,out,hd,x=>by
  unfold gofG
  constructor
  ·exact .inl
  ·rintro (h | ⟨k,s,h1,h2,_⟩)
   ·exact h
   ·have:=(List.getElem?_eq_some_iff.1 h2).1
    have:l.length≤i:=by simpa using hd
    omega
 | s :: r,i,out,hd,x=>by
  have hi:l[i]?=some s:=by
   have:=congrArg (fun q=>q[0]?) hd
   simpa using this
  have hd':l.drop (i+1)=r:=by
   have:=congrArg List.tail hd
   simpa using this
  unfold gofG
  rw [gofG_spec l r (i+1) _ hd' x]
  constructor
  ·rintro (h | ⟨k,t,h1,h2,h3⟩)
   ·split at h
    ·rename_i hf
     rcases List.mem_append.1 h with h | h
     ·exact .inl h
     ·simp at h
      exact .inr ⟨i,s,Nat.le_refl _,hi,hf,h⟩
    ·exact .inl h
   ·exact .inr ⟨k,t,by omega,h2,h3⟩
  ·rintro (h | ⟨k,t,h1,h2,h3,h4⟩)
   ·left;split
    ·exact List.mem_append_left _ h
    ·exact h
   ·by_cases hk:k=i
    ·subst hk
     rw [hi] at h2;cases h2
     left;rw [if_pos h3];simp [h4]
    ·exact .inr ⟨k,t,by omega,h2,h3,h4⟩
theorem gof_mem {l:List Sub} {x:Grp}:x∈gof l↔∃ k s,l[k]?=some s∧fstOf l k s=true∧x=⟨s.filter,cliOf l s⟩:=by
 unfold gof
 rw [gofG_spec l l 0 [] rfl x]
 constructor
 ·rintro (h | ⟨k,s,_,h⟩)
  ·simp at h
  ·exact ⟨k,s,h⟩
 ·rintro ⟨k,s,h⟩;exact .inr ⟨k,s,Nat.zero_le _,h⟩
theorem gofG_len (l:List Sub):∀ (r:List Sub) (i:Nat) (out:List Grp),(gofG l i r out).length≤out.length+r.length
 | [],_,_=>by simp [gofG]
 | s :: r,i,out=>by
  unfold gofG
  have:=gofG_len l r (i+1) (if fstOf l i s then out ++ [⟨s.filter,cliOf l s⟩] else out)
  split at this
  ·rename_i h;rw [if_pos h];simp at this ⊢;omega
  ·rename_i h;rw [if_neg h];simp at this ⊢;omega
theorem gof_len (l:List Sub):(gof l).length≤l.length:=by
 have:=gofG_len l l 0 []
 unfold gof
 simpa using this
theorem cli_mem (s:Sub):∀ (l:List Sub) (acc:List Int) (c:Int),c∈l.foldl (cliStep s) acc↔c∈acc∨∃ t∈l,fsame s.filter t.filter=true∧t.client=c
 | [],acc,c=>by simp
 | t :: r,acc,c=>by
  rw [List.foldl_cons,cli_mem s r]
  unfold cliStep
  split
  ·rename_i h
   rw [layI_mem]
   constructor
   ·rintro ((rfl | h1) | ⟨u,hu,h1⟩)
    ·exact .inr ⟨t,by simp,h,rfl⟩
    ·exact .inl h1
    ·exact .inr ⟨u,by simp [hu],h1⟩
   ·rintro (h1 | ⟨u,hu,h1,h2⟩)
    ·exact .inl (.inr h1)
    ·rcases List.mem_cons.1 hu with rfl | hu
     ·exact .inl (.inl h2.symm)
     ·exact .inr ⟨u,hu,h1,h2⟩
  ·rename_i h
   constructor
   ·rintro (h1 | ⟨u,hu,h1⟩)
    ·exact .inl h1
    ·exact .inr ⟨u,by simp [hu],h1⟩
   ·rintro (h1 | ⟨u,hu,h1,h2⟩)
    ·exact .inl h1
    ·rcases List.mem_cons.1 hu with rfl | hu
     ·exact absurd h1 h
     ·exact .inr ⟨u,hu,h1,h2⟩
theorem cliOf_mem {l:List Sub} {s:Sub} {c:Int}:c∈cliOf l s↔∃ t∈l,fsame s.filter t.filter=true∧t.client=c:=by
 unfold cliOf;rw [cli_mem];simp
theorem cli_rising (s:Sub):∀ (l:List Sub) (acc:List Int),rising acc→rising (l.foldl (cliStep s) acc)
 | [],acc,h=>h
 | t :: r,acc,h=>by
  rw [List.foldl_cons]
  refine cli_rising s r _ ?_
  unfold cliStep
  split
  ·exact layI_rising h
  ·exact h
theorem cli_len (s:Sub):∀ (l:List Sub) (acc:List Int),(l.foldl (cliStep s) acc).length≤acc.length+l.length
 | [],acc=>by simp
 | t :: r,acc=>by
  rw [List.foldl_cons]
  have:=cli_len s r (cliStep s acc t)
  have h2:(cliStep s acc t).length≤acc.length+1:=by
   unfold cliStep;split
   ·exact layI_len _ _
   ·omega
  simp only [List.length_cons];omega
theorem cliOf_len (l:List Sub)(s:Sub):(cliOf l s).length≤l.length:=by
 have:=cli_len s l []
 unfold cliOf;simpa using this
theorem first_of {l:List Sub} {t:Sub} (ht:t∈l):∃ k s,l[k]?=some s∧fstOf l k s=true∧fsame s.filter t.filter=true:=by
 obtain ⟨j,hj⟩:=List.mem_iff_getElem?.1 ht
 have key:∀ n:Nat,(∃ (k:Nat) (s:Sub),k<n∧l[k]?=some s∧fsame s.filter t.filter=true)→∃ (k:Nat) (s:Sub),l[k]?=some s∧fstOf l k s=true∧fsame s.filter t.filter=true:=by
  intro n
  induction n with
  | zero=>rintro ⟨k,s,h,_⟩;omega
  | succ n ih =>
   rintro ⟨k,s,h1,h2,h3⟩
   by_cases hf:fstOf l k s=true
   ·exact ⟨k,s,h2,hf,h3⟩
   ·refine ih ?_
    have:¬ ∀ (q:Nat) (t':Sub),q<k→l[q]?=some t'→fsame s.filter t'.filter=false:=fun h=>hf (fstOf_iff.2 h)
    have ⟨q,u,h4,h5,h6⟩:∃ (q:Nat) (u:Sub),q<k∧l[q]?=some u∧fsame s.filter u.filter=true:=by
     refine Classical.byContradiction fun hne=>this fun q u hq hu=>?_
     cases hc:fsame s.filter u.filter with
     | false=>rfl
     | true=>exact absurd ⟨q,u,hq,hu,hc⟩ hne
    exact ⟨q,u,by omega,h5,fsame_trans (fsame_symm h6) h3⟩
 exact key (j+1) ⟨j,t,by omega,hj,fsame_rfl _⟩
theorem matchG_len (A:List Attr):∀ (g:List Grp) (i:Nat) (out:List Int),(matchG A i g out).length≤out.length+g.length
 | [],_,_=>by simp [matchG]
 | y :: r,i,out=>by
  unfold matchG
  have:=matchG_len A r (i+1) (if ftakes y.filter A then out ++ [(i:Int)] else out)
  split at this
  ·rename_i h;rw [if_pos h];simp at this ⊢;omega
  ·rename_i h;rw [if_neg h];simp at this ⊢;omega
end Go.Ab
namespace Go.Ab
open Go
def prevS (l:List Sub)(i:Nat):Option Sub:=if i=0 then none else l[i - 1]?
def rsG:Option Sub→Int→List Sub→Bool
 | _,_,[]=>true
 | none,_,s :: r=>mayS s && rsG (some s) 1 r
 | some t,many,s :: r=>mayS s && (if t.client<s.client then rsG (some s) 1 r else !(decide (s.client<t.client) || decide (s.num≤t.num) || !decide (t.broker=s.broker) || decide (3<many+1)) && rsG (some s) (many+1) r)
def rightS (l:List Sub):Bool:=rsG none 0 l
theorem rsG_may:∀ (l:List Sub)(o:Option Sub)(m:Int),rsG o m l=true→∀ s∈l,mayS s=true
 | [],_,_,_,s,hs=>by simp at hs
 | x :: r,none,m,h,s,hs=>by
  simp only [rsG,Bool.and_eq_true] at h
  rcases List.mem_cons.1 hs with rfl | hs
  ·exact h.1
  ·exact rsG_may r _ _ h.2 s hs
 | x :: r,some t,m,h,s,hs=>by
  simp only [rsG,Bool.and_eq_true] at h
  rcases List.mem_cons.1 hs with rfl | hs
  ·exact h.1
  ·have h2:=h.2
   split at h2
   ·exact rsG_may r _ _ h2 s hs
   ·simp only [Bool.and_eq_true] at h2
    exact rsG_may r _ _ h2.2 s hs
theorem may_client {s:Sub} (h:mayS s=true):1≤s.client∧s.client≤6∧0≤s.broker∧s.broker≤7:=by
 simp only [mayS,Bool.and_eq_true,decide_eq_true_eq] at h
 omega
def homesG (p:List Int):List Sub→List Int→List Int × Bool
 | [],h=>(h,true)
 | s :: r,h=>if (p.length:Int)<s.broker then (h,false) else homesG p r (h.set s.client.toNat s.broker)
def home0:List Int:=[0,0,0,0,0,0,0]
def homesT (p:List Int)(l:List Sub):List Int × Bool:=if rightT p && rightS l then homesG p l home0 else (home0,false)
theorem homesG_len (p:List Int):∀ (l:List Sub) (h:List Int),(homesG p l h).1.length=h.length
 | [],_=>rfl
 | s :: r,h=>by
  unfold homesG
  split
  ·rfl
  ·rw [homesG_len p r];simp
theorem homesT_len (p:List Int)(l:List Sub):(homesT p l).1.length=7:=by
 unfold homesT
 split
 ·exact homesG_len p l home0
 ·rfl
def atsOf (hm:List Int)(g:List Grp)(a b:Nat):List Int:=(bothI ((g[b]?).getD default).clients ((g[a]?).getD default).clients []).map fun c=>hm.getD c.toNat 0
def ofStep (p hm:List Int)(g:List Grp)(a b:Nat)(out:List Atom):List Atom:=if atsOf hm g a b=[] then out else layA out ⟨a,b,placeT p (atsOf hm g a b)⟩
def ofB (p hm:List Int)(g:List Grp)(a:Nat):Nat→Nat→List Atom→List Atom
 | 0,_,out=>out
 | n+1,b,out=>ofB p hm g a n (b+1) (ofStep p hm g a b out)
def ofA (p hm:List Int)(g:List Grp):Nat→Nat→List Atom→List Atom
 | 0,_,out=>out
 | n+1,a,out=>ofA p hm g n (a+1) (ofB p hm g a (g.length - a) a out)
def chainOf (p:List Int)(l:List Sub):List Atom:=if (homesT p l).2 then ofA p (homesT p l).1 (gof l) (gof l).length 0 [] else []
theorem bothI_len (v:List Int):∀ (u acc:List Int),(bothI v u acc).length≤acc.length+u.length
 | [],acc=>by simp [bothI]
 | c :: r,acc=>by
  have h1:=bothI_len v r (if hasI v c=true then layI acc c else acc)
  have h2:=layI_len acc c
  unfold bothI
  simp only [List.length_cons]
  split at h1 <;> rename_i h <;> simp only [h,if_true,if_false,Bool.false_eq_true] <;> omega
theorem bothI_mem (v:List Int):∀ (u acc:List Int) (x:Int),x∈bothI v u acc↔x∈acc∨(x∈u∧x∈v)
 | [],acc,x=>by simp [bothI]
 | c :: r,acc,x=>by
  unfold bothI
  rw [bothI_mem v r]
  split
  ·rename_i h
   rw [hasI_iff] at h
   rw [layI_mem,List.mem_cons]
   constructor
   ·rintro ((rfl | h1) | h1)
    ·exact .inr ⟨.inl rfl,h⟩
    ·exact .inl h1
    ·exact .inr ⟨.inr h1.1,h1.2⟩
   ·rintro (h1 | ⟨rfl | h1,h2⟩)
    ·exact .inl (.inr h1)
    ·exact .inl (.inl rfl)
    ·exact .inr ⟨h1,h2⟩
  ·rename_i h
   rw [hasI_iff] at h
   rw [List.mem_cons]
   constructor
   ·rintro (h1 | h1)
    ·exact .inl h1
    ·exact .inr ⟨.inr h1.1,h1.2⟩
   ·rintro (h1 | ⟨rfl | h1,h2⟩)
    ·exact .inl h1
    ·exact absurd h2 h
    ·exact .inr ⟨h1,h2⟩
theorem ofStep_len (p hm:List Int)(g:List Grp)(a b:Nat)(out:List Atom):(ofStep p hm g a b out).length≤out.length+1:=by
 unfold ofStep
 split
 ·omega
 ·rw [layA_len];omega
theorem ofB_len (p hm:List Int)(g:List Grp)(a:Nat):∀ (n b:Nat) (out:List Atom),(ofB p hm g a n b out).length≤out.length+n
 | 0,_,_=>Nat.le_refl _
 | n+1,b,out=>by
  have h1:=ofB_len p hm g a n (b+1) (ofStep p hm g a b out)
  have h2:=ofStep_len p hm g a b out
  unfold ofB;omega
end Go.Ab
namespace Go.Proofs.Ytdoobejjedpcgaa
open Go Go.Ab
noncomputable section
variable (fr:Fr)(st:St)(k:Kt)
def fi47:FI:={body:=codeOf Try.f47,ntmps:=23,results:=[.tmp 6],pers:=[0,1,2,6],locals:=[],pure:=true,marks:=[]}
theorem H47:fi47.marks=[]∧fi47.locals=[]∧fi47.results=[.tmp 6]:=⟨rfl,rfl,rfl⟩
theorem fi205_eq:gS.fn 47=some fi47:=by kernel_rfl
theorem st47 (a0 a1 a2:V):startFr fi47 [a0,a1,a2]={ps:=[(0,.val a0),(1,.val a1),(2,.val a2),(6,.any)],ts:=[],lc:=[]}:=rfl
def b47:Code:=mini (codeOf Try.f47)
def c47_6:Code:=.seq (codeN b47 37) .ret
def c47_5:Code:=.cond (.tmp 16) c47_6 .skip
def c47_3:Code:=.seq (codeN b47 9) c47_5
def c47_10:Code:=.seq (codeN b47 11) .ret
def c47_2:Code:=.seq c47_3 c47_10
def c47_0:Code:=.seq (codeN b47 2) c47_2
theorem E47:evK gS fi47 c47_6 fr st k=opsR gS fi47 [qI 6 (-1) 3] fr st (.seq .ret k) ∧
 evK gS fi47 c47_5 fr st k=condK gS fi47 (fr.op (.tmp 16)).bool? c47_6 .skip fr st k ∧
 (evK gS fi47 c47_3 fr st k=opsR gS fi47 [mv 7 0 22,
 mv 8 1 3,
 cal 9 72 [(.tmp 7),(.tmp 8)] [22,3] 4,
 op1 10 (.unOp .not 4 (.tmp 9)) 4,
 mv 11 10 4,
 qm 12 0 22 4 false,
 qm 13 2 3 4 false,
 mk (some 14) (.call {callee:=(.value (.func 72)),args:=#[(.tmp 12),(.tmp 13)],argTypes:=#[22,3]}) 4 (some (4,false)),
 mk (some 15) (.unOp .not 4 (.tmp 14)) 4 (some (4,false)),
 qQ 16 11 true 15 4] fr st (.seq c47_5 k)) ∧
 (evK gS fi47 c47_10 fr st k=opsR gS fi47 [mv 17 0 22,
 mv 18 1 3,
 mv 19 2 3,
 cal 20 79 [(.tmp 17),(.tmp 18),(.tmp 19)] [22,3,3] 22,
 len1 21 20 22 3,
 qB 22 .sub 3 21 1 3 3,
 asn 6 22 3] fr st (.seq .ret k)) ∧
 evK gS fi47 c47_2 fr st k=evK gS fi47 c47_3 fr st (.seq c47_10 k) ∧
 evK gS fi47 c47_0 fr st k=opsR gS fi47 [qI 6 0 3] fr st (.seq c47_2 k):=⟨evK_rs 2 rfl (by kernel_rfl),rfl,evK_rs 1 rfl (by kernel_rfl),evK_rs 3 rfl (by kernel_rfl),rfl,evK_rs 0 rfl (by kernel_rfl)⟩
theorem m47:mini fi47.body=c47_0:=by kernel_rfl
theorem is_nat {p:List Int} {a:Int} (h:isT p a=true):upT 0 p=true∧p.length≤7∧∃ k:Nat,a=(k:Int)∧k≤p.length:=by
 simp only [isT,rightT,Bool.and_eq_true,decide_eq_true_eq] at h
 exact ⟨h.1.1.1,by omega,a.toNat,by omega,by omega⟩
theorem c47 (p:List Int)(hpl:p.length<4611686018427387904)(a b:Int)(st:St):EvF gS 47 [.slice (intVs p),.int .i64 a,.int .i64 b] st=some (.ret (.int .i64 (distT p a b)) none,st):=by
 refine EvF_start fi205_eq (fun x h=>by cases h) m47 ?_
 rw [st47]
 have ka:=fun fr st=>k72 p a hpl fr st
 have kb:=fun fr st=>k72 p b hpl fr st
 unfold distT
 cases ha:isT p a with
 | false=>rw [ha] at ka;simp [ka,-zil,-zit,-znl,-znt,ty3,ty4,ty22,H47,E47]
 | true =>
  cases hb:isT p b with
  | false=>rw [ha] at ka;rw [hb] at kb;simp [ka,kb,-zil,-zit,-znl,-znt,ty3,ty4,ty22,H47,E47]
  | true =>
   obtain ⟨h1,h2,i,rfl,hi⟩:=is_nat ha
   obtain ⟨_,_,j,rfl,hj⟩:=is_nat hb
   rw [ha] at ka;rw [hb] at kb
   have kp:=fun fr st=>k79 p h1 h2 i j hi hj fr st
   have hl1:=joinT_len (upP p i) (upP p j) (upP_len p i).1 (upP_len p j).1
   have hl2:=(upP_len p i).2
   have hl3:=(upP_len p j).2
   rw [show joinT (upP p i) (upP p j)=pathT p i j from rfl] at hl1
   have hw:IntKind.wrap .i64 (((pathT p i j).length:Int) - 1)=((pathT p i j).length:Int) - 1:=by rw [wrap64 (by omega) (by omega)]
   simp only [Int.toNat_natCast]
   generalize pathT p i j=P at *
   simp [-zia,ka,kb,kp,hw,-zil,-zit,-znl,-znt,ty3,ty4,ty22,H47,E47]
theorem k47 (p:List Int)(hpl:p.length<4611686018427387904)(a b:Int)(fr:Fr)(st:St):callStep gS (EvF gS) 47 [.slice (intVs p),.int .i64 a,.int .i64 b] fr st=some (.ok (.val (.int .i64 (distT p a b))) fr st) :=
 call_pure rfl fi205_eq rfl (fun st=>c47 p hpl a b st) (by simp [V.flat])
def fi34:FI:={body:=codeOf Try.f34,ntmps:=49,results:=[.tmp 4],pers:=[0,1,4,5,6,7,8,10,11,23,24,25],locals:=[],pure:=true,marks:=[]}
theorem H34:fi34.marks=[]∧fi34.locals=[]∧fi34.results=[.tmp 4]:=⟨rfl,rfl,rfl⟩
theorem fi206_eq:gS.fn 34=some fi34:=by kernel_rfl
theorem st34 (a0 a1:V):startFr fi34 [a0,a1]={ps:=[(0,.val a0),(1,.val a1),(4,.any),(5,.any),(6,.any),(7,.any),(8,.any),(10,.any),(11,.any),(23,.any),(24,.any),(25,.any)],ts:=[],lc:=[]}:=rfl
def b34:Code:=mini (codeOf Try.f34)
def c34_12:Code:=.cond (.tmp 20) .skip (.exit 0)
def c34_10:Code:=.seq (codeN b34 267) c34_12
def c34_40:Code:=.seq (codeN b34 19712587) .ret
def c34_39:Code:=.cond (.tmp 34) c34_40 .skip
def c34_37:Code:=.seq (codeN b34 5032523) c34_39
def c34_44:Code:=codeN b34 3983947
def c34_36:Code:=.seq c34_37 c34_44
def c34_34:Code:=.seq (codeN b34 1362507) c34_36
def c34_32:Code:=.seq (codeN b34 576075) c34_34
def c34_45:Code:=codeN b34 248395
def c34_30:Code:=.seq (.block 3 c34_32) c34_45
def c34_26:Code:=.seq (.cond (.tmp 26) .skip (.exit 2)) c34_30
def c34_24:Code:=.seq (codeN b34 35403) c34_26
def c34_23:Code:=.loop c34_24
def c34_22:Code:=.block 2 c34_23
def c34_20:Code:=.seq (codeN b34 4683) c34_22
def c34_49:Code:=codeN b34 11851
def c34_48:Code:=.cond (.tmp 45) c34_49 .skip
def c34_46:Code:=.seq (codeN b34 5707) c34_48
theorem e34_46:evK gS fi34 c34_46 fr st k=opsR gS fi34 [mv 39 5 3,
 qB 40 .lss 3 39 0 3 4,
 mv 41 40 4,
 qm 42 8 3 2 false,
 qm 43 6 3 2 false,
 qb 44 .lss 3 42 43 3 4 2 false,
 qQ 45 41 true 44 4] fr st (.seq c34_48 k):=evK_rs 14 rfl (by kernel_rfl)
def c34_19:Code:=.seq c34_20 c34_46
def c34_17:Code:=.seq (codeN b34 1099) c34_19
def c34_51:Code:=codeN b34 459
def c34_15:Code:=.seq (.block 1 c34_17) c34_51
def c34_9:Code:=.seq c34_10 c34_15
def c34_8:Code:=.loop c34_9
def c34_7:Code:=.block 0 c34_8
def c34_5:Code:=.seq (codeN b34 19) c34_7
def c34_52:Code:=.seq (codeN b34 23) .ret
def c34_4:Code:=.seq c34_5 c34_52
def c34_2:Code:=.seq (codeN b34 5) c34_4
def c34_0:Code:=.seq (codeN b34 2) c34_2
theorem E34:evK gS fi34 c34_12 fr st k=condK gS fi34 (fr.op (.tmp 20)).bool? .skip (.exit 0) fr st k ∧
 (evK gS fi34 c34_10 fr st k=opsR gS fi34 [mv 12 7 3,
 mv 13 0 22,
 len1 14 13 22 3,
 bop 15 .leq 3 12 14 3 4,
 mv 16 15 4,
 qm 17 1 22 4 true,
 qe 18 17 22 3 4 true,
 qc 19 .gtr 3 18 0 3 4 4 true,
 qP 20 16 19 false 4] fr st (.seq c34_12 k)) ∧
 evK gS fi34 c34_40 fr st k=opsR gS fi34 [qI 4 (-1) 3] fr st (.seq .ret k) ∧
 evK gS fi34 c34_39 fr st k=condK gS fi34 (fr.op (.tmp 34)).bool? c34_40 .skip fr st k ∧
 (evK gS fi34 c34_37 fr st k=opsR gS fi34 [mv 33 11 3,
 qB 34 .lss 3 33 0 3 4] fr st (.seq c34_39 k)) ∧
 (evK gS fi34 c34_44 fr st k=opsR gS fi34 [mv 35 8 3,
 mv 36 11 3,
 bop 37 .add 3 35 36 3 3,
 asn 8 37 3] fr st k) ∧
 evK gS fi34 c34_36 fr st k=evK gS fi34 c34_37 fr st (.seq c34_44 k) ∧
 (evK gS fi34 c34_34 fr st k=opsR gS fi34 [mv 29 0 22,
 mv 30 7 3,
 mv 31 10 3,
 cal 32 47 [(.tmp 29),(.tmp 30),(.tmp 31)] [22,3,3] 3,
 asn 11 32 3] fr st (.seq c34_36 k)) ∧
 (evK gS fi34 c34_32 fr st k=opsR gS fi34 [ixa 27 22 23 25 0,
 ld 28 3 27 3,
 asn 10 28 3] fr st (.seq c34_34 k)) ∧
 (evK gS fi34 c34_45 fr st k=opsR gS fi34 [qB 38 .add 3 25 1 3 3,
 mv 25 38 3] fr st k) ∧
 evK gS fi34 c34_30 fr st k=evK gS fi34 c34_32 fr st (.blk 3 (.seq c34_45 k)) ∧
 evK gS fi34 c34_26 fr st k=condK gS fi34 (fr.op (.tmp 26)).bool? .skip (.exit 2) fr st (.seq c34_30 k) ∧
 evK gS fi34 c34_24 fr st k=opsR gS fi34 [bop 26 .lss 3 25 24 3 0] fr st (.seq c34_26 k) ∧
 evK gS fi34 c34_22 fr st k=evK gS fi34 c34_23 fr st (.blk 2 k) ∧
 (evK gS fi34 c34_20 fr st k=opsR gS fi34 [mv 23 1 22,
 len1 24 23 22 3,
 op1 25 (.move (.const (.int .i64 0))) 3] fr st (.seq c34_22 k)) ∧
 (evK gS fi34 c34_49 fr st k=opsR gS fi34 [mv 46 7 3,
 mv 47 8 3,
 asn 5 46 3,
 asn 6 47 3] fr st k) ∧
 evK gS fi34 c34_48 fr st k=condK gS fi34 (fr.op (.tmp 45)).bool? c34_49 .skip fr st k ∧
 evK gS fi34 c34_19 fr st k=evK gS fi34 c34_20 fr st (.seq c34_46 k) ∧
 evK gS fi34 c34_17 fr st k=opsR gS fi34 [qI 8 0 3] fr st (.seq c34_19 k) ∧
 (evK gS fi34 c34_51 fr st k=opsR gS fi34 [mv 21 7 3,
 qB 22 .add 3 21 1 3 3,
 asn 7 22 3] fr st k) ∧
 evK gS fi34 c34_15 fr st k=evK gS fi34 c34_17 fr st (.blk 1 (.seq c34_51 k)) ∧
 evK gS fi34 c34_9 fr st k=evK gS fi34 c34_10 fr st (.seq c34_15 k) ∧
 evK gS fi34 c34_7 fr st k=evK gS fi34 c34_8 fr st (.blk 0 k) ∧
 evK gS fi34 c34_5 fr st k=opsR gS fi34 [qI 7 0 3] fr st (.seq c34_7 k) ∧
 (evK gS fi34 c34_52 fr st k=opsR gS fi34 [mv 48 5 3,
 asn 4 48 3] fr st (.seq .ret k)) ∧
 evK gS fi34 c34_4 fr st k=evK gS fi34 c34_5 fr st (.seq c34_52 k) ∧
 (evK gS fi34 c34_2 fr st k=opsR gS fi34 [qI 5 (-1) 3,
 qI 6 0 3] fr st (.seq c34_4 k)) ∧
 evK gS fi34 c34_0 fr st k=opsR gS fi34 [qI 4 0 3] fr st (.seq c34_2 k):=⟨rfl,evK_rs 3 rfl (by kernel_rfl),evK_rs 11 rfl (by kernel_rfl),rfl,evK_rs 10 rfl (by kernel_rfl),evK_r 12 (by kernel_rfl),rfl,evK_rs 9 rfl (by kernel_rfl),evK_rs 8 rfl (by kernel_rfl),evK_r 13 (by kernel_rfl),rfl,rfl,evK_rs 7 rfl (by kernel_rfl),rfl,evK_rs 6 rfl (by kernel_rfl),evK_r 15 (by kernel_rfl),rfl,rfl,evK_rs 5 rfl (by kernel_rfl),evK_r 4 (by kernel_rfl),rfl,rfl,rfl,evK_rs 2 rfl (by kernel_rfl),evK_rs 16 rfl (by kernel_rfl),rfl,evK_rs 1 rfl (by kernel_rfl),evK_rs 0 rfl (by kernel_rfl)⟩
theorem m34:mini fi34.body=c34_0:=by kernel_rfl
theorem n34_23 (fr:Fr)(st:St)(k:Kt):nextK gS fi34 (.loop c34_24 k) .normal fr st=evK gS fi34 c34_23 fr st k:=rfl
theorem n34_8 (fr:Fr)(st:St)(k:Kt):nextK gS fi34 (.loop c34_9 k) .normal fr st=evK gS fi34 c34_8 fr st k:=rfl
theorem L34_23 (p:List Int)(hpl:p.length<4611686018427387904)(l:List Int)(hll:l.length<1000000)(x:Nat)(best least:Int)(st:St)(R:Out × St)(o:Option Int)
  (HN:o=none→R=(.ret (.int .i64 (-1)) none,st))
  (H:∀ (fin:Int) (e4 e10 e11 e23 e24 e25:E) (T:List (Nat × E)) (X:List (Nat × List V)),o=some fin→e4.Tame→e10.Tame→e11.Tame→e23.Tame→e24.Tame→e25.Tame→evK gS fi34 c34_46 {ps:=[(0,.val (.slice (intVs p))),(1,.val (.slice (intVs l))),(4,e4),(5,.val (.int .i64 best)),(6,.val (.int .i64 least)),(7,.val (.int .i64 (x:Nat))),(8,.val (.int .i64 fin)),(10,e10),(11,e11),(23,e23),(24,e24),(25,e25)],ts:=T,lc:=X} st (.blk 1 (.seq c34_51 (.loop c34_9 (.blk 0 (.seq c34_52 .nil)))))=some R) :
  ∀ (m i:Nat) (s:Int) (e4 e10 e11:E) (T:List (Nat × E)) (X:List (Nat × List V)),e4.Tame→e10.Tame→e11.Tame→i≤l.length→l.length - i=m→0≤s→s≤20*i→o=sumT p x (l.drop i) s →
  evK gS fi34 c34_23 {ps:=[(0,.val (.slice (intVs p))),(1,.val (.slice (intVs l))),(4,e4),(5,.val (.int .i64 best)),(6,.val (.int .i64 least)),(7,.val (.int .i64 (x:Nat))),(8,.val (.int .i64 s)),(10,e10),(11,e11),(23,.val (.slice (intVs l))),(24,.val (.int .i64 l.length)),(25,.val (.int .i64 (i:Nat)))],ts:=T,lc:=X} st (.blk 2 (.seq c34_46 (.blk 1 (.seq c34_51 (.loop c34_9 (.blk 0 (.seq c34_52 .nil)))))))=some R:=by
 intro m
 induction m with
 | zero =>
  intro i s e4 e10 e11 T X h4 h10 h11 hi hm2 hs0 hs1 ho
  obtain rfl:i=l.length:=by omega
  rw [List.drop_length] at ho
  have HH:=fun e4 e10 e11 e23 e24 e25 T X=>H s e4 e10 e11 e23 e24 e25 T X ho
  refine evK_loop c34_24 _ _ _ _ rfl ?_
  simp [-zia,h4,h10,h11,-zil,-zit,-znl,-znt,ty3,ty4,ty22,H34,E34,n34_23,n34_8]
  exact HH _ _ _ _ _ _ _ _ h4 h10 h11 (tame_val _) (tame_val _) (tame_val _)
 | succ m ih =>
  intro i s e4 e10 e11 T X h4 h10 h11 hi hm2 hs0 hs1 ho
  obtain ⟨y,hy⟩:∃ y,l[i]?=some y:=⟨l[i]'(by omega),zge (by omega)⟩
  have hlt:(i:Int)<(l.length:Int):=by omega
  obtain ⟨hlt2,hye⟩:=List.getElem?_eq_some_iff.1 hy
  have hw  := qws i (by omega)
  rw [drop_get hy] at ho
  rw [show sumT p x (y :: l.drop (i+1)) s=if distT p x y<0 then none else sumT p x (l.drop (i+1)) (s+distT p x y) from rfl] at ho
  have hd:=distT_range p x y
  have kd:=fun fr st=>k47 p hpl (x:Int) y fr st
  generalize distT p x y=d at *
  refine evK_loop c34_24 _ _ _ _ rfl ?_
  by_cases hn:d<0
  ·rw [if_pos hn] at ho
   have hR:=HN ho
   simp [-zia,h4,h10,h11,hy,hye,hlt,hlt2,kd,hn,hR,-zil,-zit,-znl,-znt,ty3,ty4,ty22,H34,E34,e34_46,n34_23,n34_8]
  ·rw [if_neg hn] at ho
   have hw2:IntKind.wrap .i64 (s+d)=s+d:=by rw [wrap64 (by omega) (by omega)]
   have IH:=fun e4 e10 e11 T X h4 h10 h11=>ih (i+1) (s+d) e4 e10 e11 T X h4 h10 h11 (by omega) (by omega) (by omega) (by omega) ho
   simp [-zia,h4,h10,h11,hy,hye,hlt,hlt2,hw,kd,hn,hw2,-zil,-zit,-znl,-znt,ty3,ty4,ty22,H34,E34,e34_46,n34_23,n34_8]
   exact IH _ _ _ _ _ h4 (tame_val _) (tame_val _)
theorem L34 (p:List Int)(hpl:p.length<1000000)(l:List Int)(hll:l.length<1000000)(hln:l≠[])(st:St) :
  ∀ (m x:Nat) (best least:Int) (e4 e8 e10 e11 e23 e24 e25:E) (T:List (Nat × E)) (X:List (Nat × List V)),e4.Tame→e8.Tame→e10.Tame→e11.Tame→e23.Tame→e24.Tame→e25.Tame→x≤p.length+1→p.length+1 - x=m →
  evK gS fi34 c34_8 {ps:=[(0,.val (.slice (intVs p))),(1,.val (.slice (intVs l))),(4,e4),(5,.val (.int .i64 best)),(6,.val (.int .i64 least)),(7,.val (.int .i64 (x:Nat))),(8,e8),(10,e10),(11,e11),(23,e23),(24,e24),(25,e25)],ts:=T,lc:=X} st (.blk 0 (.seq c34_52 .nil))=some (.ret (.int .i64 (placeL p l m x best least)) none,st):=by
 intro m
 have hl0:(0:Int)<(l.length:Int):=by have:=List.length_pos_iff.2 hln;omega
 have hl0':0<l.length:=List.length_pos_iff.2 hln
 induction m with
 | zero =>
  intro x best least e4 e8 e10 e11 e23 e24 e25 T X h4 h8 h10 h11 h23 h24 h25 hx hm2
  rw [show placeL p l 0 x best least=best from rfl]
  have hx1:¬ (x:Int)≤(p.length:Int):=by omega
  have hx2:¬ x≤p.length:=by omega
  refine evK_loop c34_9 _ _ _ _ rfl ?_
  simp [-zia,h4,h8,h10,h11,h23,h24,h25,hx1,hx2,-zil,-zit,-znl,-znt,ty3,ty4,ty22,H34,E34,e34_46,n34_23,n34_8]
 | succ m ih =>
  intro x best least e4 e8 e10 e11 e23 e24 e25 T X h4 h8 h10 h11 h23 h24 h25 hx hm2
  have hx1:(x:Int)≤(p.length:Int):=by omega
  have hx2:x≤p.length:=by omega
  have hw  := qws x (by omega)
  have IH:=fun best least e4 e8 e10 e11 e23 e24 e25 T X h4 h8 h10 h11 h23 h24 h25=>ih (x+1) best least e4 e8 e10 e11 e23 e24 e25 T X h4 h8 h10 h11 h23 h24 h25 (by omega) (by omega)
  rw [show placeL p l (m+1) x best least=match sumT p x l 0 with
   | none => -1
   | some s=>if best<0∨s<least then placeL p l m (x+1) x s else placeL p l m (x+1) best least from rfl]
  generalize hR:(Out.ret (V.int .i64 (match sumT p x l 0 with
   | none => -1
   | some s=>if best<0∨s<least then placeL p l m (x+1) x s else placeL p l m (x+1) best least)) none,st)=R
  have HN:sumT p x l 0=none→R=(.ret (.int .i64 (-1)) none,st):=fun h=>by rw [← hR,h]
  have H46:∀ (fin:Int) (e4 e10 e11 e23 e24 e25:E) (T:List (Nat × E)) (X:List (Nat × List V)),sumT p x l 0=some fin→e4.Tame→e10.Tame→e11.Tame→e23.Tame→e24.Tame→e25.Tame→evK gS fi34 c34_46 {ps:=[(0,.val (.slice (intVs p))),(1,.val (.slice (intVs l))),(4,e4),(5,.val (.int .i64 best)),(6,.val (.int .i64 least)),(7,.val (.int .i64 (x:Nat))),(8,.val (.int .i64 fin)),(10,e10),(11,e11),(23,e23),(24,e24),(25,e25)],ts:=T,lc:=X} st (.blk 1 (.seq c34_51 (.loop c34_9 (.blk 0 (.seq c34_52 .nil)))))=some R:=by
   intro fin e4 e10 e11 e23 e24 e25 T X hf h4 h10 h11 h23 h24 h25
   rw [← hR,hf]
   simp only
   by_cases hb:best<0
   ·rw [if_pos (.inl hb)]
    simp [-zia,h4,h10,h11,h23,h24,h25,hb,hw,-zil,-zit,-znl,-znt,ty3,ty4,ty22,H34,E34,e34_46,n34_23,n34_8]
    exact IH _ _ _ _ _ _ _ _ _ _ _ h4 (tame_val _) h10 h11 h23 h24 h25
   ·by_cases hc:fin<least
    ·rw [if_pos (.inr hc)]
     simp [-zia,h4,h10,h11,h23,h24,h25,hb,hc,hw,-zil,-zit,-znl,-znt,ty3,ty4,ty22,H34,E34,e34_46,n34_23,n34_8]
     exact IH _ _ _ _ _ _ _ _ _ _ _ h4 (tame_val _) h10 h11 h23 h24 h25
    ·rw [if_neg (by omega)]
     simp [-zia,h4,h10,h11,h23,h24,h25,hb,hc,hw,-zil,-zit,-znl,-znt,ty3,ty4,ty22,H34,E34,e34_46,n34_23,n34_8]
     exact IH _ _ _ _ _ _ _ _ _ _ _ h4 (tame_val _) h10 h11 h23 h24 h25
  have LL:=fun e4 e10 e11 T X h4 h10 h11=>L34_23 p (by omega) l hll x best least st R (sumT p x l 0) HN H46 l.length 0 0 e4 e10 e11 T X h4 h10 h11 (Nat.zero_le _) rfl (by omega) (by omega) rfl
  rw [show ((0:Nat):Int)=0 from rfl] at LL
  refine evK_loop c34_9 _ _ _ _ rfl ?_
  simp [-zia,h4,h8,h10,h11,h23,h24,h25,hx1,hx2,hl0,hl0',hln,-zil,-zit,-znl,-znt,ty3,ty4,ty22,H34,E34,e34_46,n34_23,n34_8]
  exact LL _ _ _ _ _ h4 h10 h11
theorem c34 (p:List Int)(hpl:p.length<1000000)(l:List Int)(hll:l.length<1000000)(st:St):EvF gS 34 [.slice (intVs p),.slice (intVs l)] st=some (.ret (.int .i64 (placeT p l)) none,st):=by
 refine EvF_start fi206_eq (fun x h=>by cases h) m34 ?_
 rw [st34]
 unfold placeT
 by_cases hln:l=[]
 ·rw [if_pos hln]
  subst hln
  have h0:(0:Int)≤(p.length:Int):=by omega
  simp [-zil,-zit,-znl,-znt,ty3,ty4,ty22,H34,E34,e34_46,n34_23,n34_8]
  refine evK_loop c34_9 _ _ _ _ rfl ?_
  simp [h0,-zil,-zit,-znl,-znt,ty3,ty4,ty22,H34,E34,e34_46,n34_23,n34_8]
 ·rw [if_neg hln]
  have LL:=fun e4 e8 e10 e11 e23 e24 e25 T X h4 h8 h10 h11 h23 h24 h25=>L34 p hpl l hll hln st (p.length+1) 0 (-1) 0 e4 e8 e10 e11 e23 e24 e25 T X h4 h8 h10 h11 h23 h24 h25 (Nat.zero_le _) rfl
  rw [show ((0:Nat):Int)=0 from rfl] at LL
  simp [-zil,-zit,-znl,-znt,ty3,ty4,ty22,H34,E34,e34_46,n34_23,n34_8]
  refine LL _ _ _ _ _ _ _ _ _ ?_ ?_ ?_ ?_ ?_ ?_ ?_
  all_goals simp
theorem k34 (p:List Int)(hpl:p.length<1000000)(l:List Int)(hll:l.length<1000000)(fr:Fr)(st:St):callStep gS (EvF gS) 34 [.slice (intVs p),.slice (intVs l)] fr st=some (.ok (.val (.int .i64 (placeT p l))) fr st) :=
 call_pure rfl fi206_eq rfl (fun st=>c34 p hpl l hll st) (by simp [V.flat])
def fi89:FI:={body:=codeOf Try.f89,ntmps:=67,results:=[.tmp 2],pers:=[0,2,3,4,5,6,7,8],locals:=[5],pure:=true,marks:=[]}
theorem H89:fi89.marks=[]∧fi89.locals=[5]∧fi89.results=[.tmp 2]:=⟨rfl,rfl,rfl⟩
theorem fi212_eq:gS.fn 89=some fi89:=by kernel_rfl
theorem st89 (a0:V):startFr fi89 [a0]={ps:=[(0,.val a0),(2,.any),(3,.any),(4,.any),(5,.any),(6,.any),(7,.any),(8,.any)],ts:=[],lc:=[]}:=rfl
def b89:Code:=mini (codeOf Try.f89)
def c89_23:Code:=.seq (codeN b89 38091) .ret
def c89_22:Code:=.cond (.tmp 15) c89_23 .skip
def c89_20:Code:=.seq (codeN b89 9419) c89_22
def r89_29:Array Oper:=regOps (codeN (codeOf Try.f89) 19659)
def c89_29:Code:=.region 7 r89_29 true
def q89_29:List (Oper × Fl):=[(mv 16 4 3,qz1),
 (qB 17 .eql 3 16 0 3 4,qz1),
 (mv 18 17 4,qz1),
 (qm 19 0 26 2 false,qz0),
 (qm 20 4 3 2 false,qz0),
 (qc 21 .sub 3 20 1 3 3 2 false,qz0),
 (qi 22 26 19 21 0 2 false,qz0),
 (qf 23 31 22 0 0 2 false,qz0),
 (ql 24 3 23 3 2 false,qz0),
 (qf 25 31 5 0 0 2 false,qz3),
 (ql 26 3 25 3 2 false,qz3),
 (qb 27 .lss 3 24 26 3 4 2 false,qz3),
 (qQ 28 18 true 27 4,qz3)]
def c89_31:Code:=.seq (codeN b89 77003) (.exit 1)
def c89_30:Code:=.cond (.tmp 28) c89_31 .skip
def c89_28:Code:=.seq c89_29 c89_30
def r89_38:Array Oper:=regOps (codeN (codeOf Try.f89) 48331)
def c89_38:Code:=.region 10 r89_38 true
def q89_38:List (Oper × Fl):=[(mv 31 0 26,qz0),
 (mv 32 4 3,qz0),
 (qB 33 .sub 3 32 1 3 3,qz0),
 (ixa 34 26 31 33 0,qz0),
 (qF 35 31 34 0 0,qz0),
 (ld 36 3 35 3,qz0),
 (qF 37 31 5 0 0,qz0),
 (ld 38 3 37 3,qz0),
 (bop 39 .gtr 3 36 38 3 4,qz3),
 (mv 40 39 4,qz3),
 (qm 41 0 26 9 false,qz0),
 (qm 42 4 3 9 false,qz0),
 (qc 43 .sub 3 42 1 3 3 9 false,qz0),
 (qi 44 26 41 43 0 9 false,qz0),
 (qf 45 31 44 2 0 9 false,qz0),
 (ql 46 3 45 3 9 false,qz0),
 (qf 47 31 5 2 0 9 false,qz0),
 (ql 48 3 47 3 9 false,qz0),
 (qb 49 .geq 3 46 48 3 4 9 false,qz3),
 (qQ 50 40 true 49 4,qz3),
 (mv 51 50 4,qz3),
 (qm 52 0 26 20 false,qz0),
 (qm 53 4 3 20 false,qz0),
 (qc 54 .sub 3 53 1 3 3 20 false,qz0),
 (qi 55 26 52 54 0 20 false,qz0),
 (qf 56 31 55 1 0 20 false,qz0),
 (ql 57 3 56 3 20 false,qz0),
 (qf 58 31 5 1 0 20 false,qz0),
 (ql 59 3 58 3 20 false,qz3),
 (qb 60 .neq 3 57 59 3 4 20 false,qz3),
 (qQ 61 51 true 60 4,qz3),
 (mv 62 61 4,qz3),
 (qm 63 3 3 31 false,qz3),
 (qc 64 .gtr 3 63 3 3 4 31 false,qz3),
 (qQ 65 62 true 64 4,qz3)]
def c89_40:Code:=.seq (codeN b89 163019) .ret
def c89_39:Code:=.cond (.tmp 65) c89_40 .skip
def c89_37:Code:=.seq c89_38 c89_39
def c89_35:Code:=.seq (codeN b89 23755) c89_37
def c89_27:Code:=.seq c89_28 c89_35
def c89_19:Code:=.seq c89_20 c89_27
def c89_17:Code:=.seq (codeN b89 2251) c89_19
def c89_44:Code:=codeN b89 971
def c89_15:Code:=.seq (.block 1 c89_17) c89_44
def c89_11:Code:=.seq (.cond (.tmp 9) .skip (.exit 0)) c89_15
def c89_9:Code:=.seq (codeN b89 139) c89_11
def c89_8:Code:=.loop c89_9
def c89_7:Code:=.block 0 c89_8
def c89_5:Code:=.seq (codeN b89 19) c89_7
def c89_45:Code:=.seq (codeN b89 23) .ret
def c89_4:Code:=.seq c89_5 c89_45
def c89_2:Code:=.seq (codeN b89 5) c89_4
def c89_0:Code:=.seq (codeN b89 2) c89_2
theorem E89:evK gS fi89 c89_23 fr st k=opsR gS fi89 [qA 2 false 4] fr st (.seq .ret k) ∧
 evK gS fi89 c89_22 fr st k=condK gS fi89 (fr.op (.tmp 15)).bool? c89_23 .skip fr st k ∧
 (evK gS fi89 c89_20 fr st k=opsR gS fi89 [ld 13 31 5 31,
 cal 14 111 [(.tmp 13)] [31] 4,
 op1 15 (.unOp .not 4 (.tmp 14)) 4] fr st (.seq c89_22 k)) ∧
 evK gS fi89 c89_29 fr st k=drwR gS fi89 r89_29 q89_29 fr st k ∧
 evK gS fi89 c89_31 fr st k=opsR gS fi89 [qI 3 1 3] fr st (.seq (.exit 1) k) ∧
 evK gS fi89 c89_30 fr st k=condK gS fi89 (fr.op (.tmp 28)).bool? c89_31 .skip fr st k ∧
 evK gS fi89 c89_28 fr st k=evK gS fi89 c89_29 fr st (.seq c89_30 k) ∧
 evK gS fi89 c89_38 fr st k=drwR gS fi89 r89_38 q89_38 fr st k ∧
 evK gS fi89 c89_40 fr st k=opsR gS fi89 [qA 2 false 4] fr st (.seq .ret k) ∧
 evK gS fi89 c89_39 fr st k=condK gS fi89 (fr.op (.tmp 65)).bool? c89_40 .skip fr st k ∧
 evK gS fi89 c89_37 fr st k=evK gS fi89 c89_38 fr st (.seq c89_39 k) ∧
 (evK gS fi89 c89_35 fr st k=opsR gS fi89 [mv 29 3 3,
 qB 30 .add 3 29 1 3 3,
 asn 3 30 3] fr st (.seq c89_37 k)) ∧
 evK gS fi89 c89_27 fr st k=evK gS fi89 c89_28 fr st (.seq c89_35 k) ∧
 evK gS fi89 c89_19 fr st k=evK gS fi89 c89_20 fr st (.seq c89_27 k) ∧
 (evK gS fi89 c89_17 fr st k=opsR gS fi89 [mv 10 8 3,
 ixa 11 26 6 8 0,
 ld 12 31 11 31,
 op1 5 (.alloc 31) 0,
 asn 4 10 3,
 sto 31 5 12] fr st (.seq c89_19 k)) ∧
 (evK gS fi89 c89_44 fr st k=opsR gS fi89 [qB 66 .add 3 8 1 3 3,
 mv 8 66 3] fr st k) ∧
 evK gS fi89 c89_15 fr st k=evK gS fi89 c89_17 fr st (.blk 1 (.seq c89_44 k)) ∧
 evK gS fi89 c89_11 fr st k=condK gS fi89 (fr.op (.tmp 9)).bool? .skip (.exit 0) fr st (.seq c89_15 k) ∧
 evK gS fi89 c89_9 fr st k=opsR gS fi89 [bop 9 .lss 3 8 7 3 0] fr st (.seq c89_11 k) ∧
 evK gS fi89 c89_7 fr st k=evK gS fi89 c89_8 fr st (.blk 0 k) ∧
 (evK gS fi89 c89_5 fr st k=opsR gS fi89 [mv 6 0 26,
 len1 7 6 26 3,
 op1 8 (.move (.const (.int .i64 0))) 3] fr st (.seq c89_7 k)) ∧
 evK gS fi89 c89_45 fr st k=opsR gS fi89 [qA 2 true 4] fr st (.seq .ret k) ∧
 evK gS fi89 c89_4 fr st k=evK gS fi89 c89_5 fr st (.seq c89_45 k) ∧
 evK gS fi89 c89_2 fr st k=opsR gS fi89 [qI 3 0 3] fr st (.seq c89_4 k) ∧
 evK gS fi89 c89_0 fr st k=opsR gS fi89 [qA 2 false 4] fr st (.seq c89_2 k):=⟨evK_rs 6 rfl (by kernel_rfl),rfl,evK_rs 5 rfl (by kernel_rfl),evK_dr 7 rfl (by kernel_rfl) (by kernel_rfl),evK_rs 8 rfl (by kernel_rfl),rfl,rfl,evK_dr 10 rfl (by kernel_rfl) (by kernel_rfl),evK_rs 11 rfl (by kernel_rfl),rfl,rfl,evK_rs 9 rfl (by kernel_rfl),rfl,rfl,evK_rs 4 rfl (by kernel_rfl),evK_r 12 (by kernel_rfl),rfl,rfl,evK_rs 3 rfl (by kernel_rfl),rfl,evK_rs 2 rfl (by kernel_rfl),evK_rs 13 rfl (by kernel_rfl),rfl,evK_rs 1 rfl (by kernel_rfl),evK_rs 0 rfl (by kernel_rfl)⟩
theorem m89:mini fi89.body=c89_0:=by kernel_rfl
theorem n89_8 (fr:Fr)(st:St)(k:Kt):nextK gS fi89 (.loop c89_9 k) .normal fr st=evK gS fi89 c89_8 fr st k:=rfl
theorem prev_succ {l:List Sub} {i:Nat} {x:Sub} (h:l[i]?=some x):prevS l (i+1)=some x:=by unfold prevS;rw [if_neg (by omega),Nat.add_sub_cancel];exact h
theorem L89 (l:List Sub)(hl1:∀ s∈l,POk s.filter)(hl2:l.length<1000000)(st:St):∀ (m i:Nat) (many:Int) (e4 e5:E) (T:List (Nat × E)) (X:List (Nat × List V)),e4.Tame→e5=.any∨e5=.lp 5 0→0≤many→many≤i→i≤l.length→l.length - i=m →
  evK gS fi89 c89_8 {ps:=[(0,.val (.slice (encSubs l))),(2,.val (.bool false)),(3,.val (.int .i64 many)),(4,e4),(5,e5),(6,.val (.slice (encSubs l))),(7,.val (.int .i64 l.length)),(8,.val (.int .i64 (i:Nat)))],ts:=T,lc:=X} st (.blk 0 (.seq c89_45 .nil))=some (.ret (.bool (rsG (prevS l i) many (l.drop i))) none,st):=by
 intro m
 induction m with
 | zero =>
  intro i many e4 e5 T X h4 h5 hm0 hm1 hi hm2
  obtain rfl:i=l.length:=by omega
  rw [List.drop_length,show rsG (prevS l l.length) many []=true from by cases prevS l l.length <;> rfl]
  refine evK_loop c89_9 _ _ _ _ rfl ?_
  rcases h5 with rfl | rfl <;> simp [h4,-zil,-zit,-znl,-znt,ty3,ty4,ty26,ty31,H89,x111,fi211_eq,p111,E89,q89_29,q89_38,n89_8]
 | succ m ih =>
  intro i many e4 e5 T X h4 h5 hm0 hm1 hi hm2
  obtain ⟨x,hx⟩  := qgx (l:=l) (i:=i) (by omega)
  have hlt:(i:Int)<(l.length:Int):=by omega
  obtain ⟨hlt2,hxe⟩:=List.getElem?_eq_some_iff.1 hx
  have hw  := qws i (by omega)
  have hwm:IntKind.wrap .i64 (many+1)=many+1:=by rw [wrap64 (by omega) (by omega)]
  have hxo:=hl1 x (zmg hx)
  have kk:=fun fr st=>k111 x.client x.broker x.num x.filter hxo fr st
  rw [show mayS ⟨x.client,x.broker,x.num,x.filter⟩=mayS x from rfl] at kk
  have IH:=fun many e4 e5 T X h4 h5 hm0 hm1=>ih (i+1) many e4 e5 T X h4 h5 hm0 hm1 (by omega) (by omega)
  rw [prev_succ hx] at IH
  rw [drop_get hx]
  generalize hD:l.drop (i+1)=D at *
  cases i with
  | zero =>
   rw [show prevS l 0=none from rfl,show rsG none many (x :: D)=(mayS x && rsG (some x) 1 D) from rfl]
   generalize mayS x=t at *
   refine evK_loop c89_9 _ _ _ _ rfl ?_
   cases t with
   | false=>rcases h5 with rfl | rfl <;> simp [-zia,h4,hx,hxe,hlt,hlt2,kk,-zil,-zit,-znl,-znt,ty3,ty4,ty26,ty31,H89,x111,fi211_eq,p111,E89,q89_29,q89_38,n89_8]
   | true =>
    have I1:=fun e4 e5 T X h4 h5=>IH 1 e4 e5 T X h4 h5 (by omega) (by omega)
    rw [show ((0:Nat):Int)=0 from rfl] at *
    rcases h5 with rfl | rfl
    ·simp [-zia,h4,hx,hxe,hlt,hlt2,kk,hw,-zil,-zit,-znl,-znt,ty3,ty4,ty26,ty31,H89,x111,fi211_eq,p111,E89,q89_29,q89_38,n89_8]
     exact I1 _ _ _ _ (tame_val _) (.inr rfl)
    ·simp [-zia,h4,hx,hxe,hlt,hlt2,kk,hw,-zil,-zit,-znl,-znt,ty3,ty4,ty26,ty31,H89,x111,fi211_eq,p111,E89,q89_29,q89_38,n89_8]
     exact I1 _ _ _ _ (tame_val _) (.inr rfl)
  | succ k =>
   obtain ⟨y,hy⟩:∃ y,l[k]?=some y:=⟨l[k]'(by omega),zge (by omega)⟩
   obtain ⟨hlk,hye⟩:=List.getElem?_eq_some_iff.1 hy
   have hltk:(k:Int)<(l.length:Int):=by omega
   have hwk:IntKind.wrap .i64 (((k+1:Nat):Int) - 1)=(k:Int):=by rw [wrap64 (by omega) (by omega)];omega
   have hne:¬ ((k+1:Nat):Int)=0:=by omega
   rw [prev_succ hy,show rsG (some y) many (x :: D)=(mayS x && (if y.client<x.client then rsG (some x) 1 D else !(decide (x.client<y.client) || decide (x.num≤y.num) || !decide (y.broker=x.broker) || decide (3<many+1)) && rsG (some x) (many+1) D)) from rfl]
   generalize mayS x=t at *
   have I1:=fun e4 e5 T X h4 h5=>IH 1 e4 e5 T X h4 h5 (by omega) (by omega)
   have I2:=fun e4 e5 T X h4 h5=>IH (many+1) e4 e5 T X h4 h5 (by omega) (by omega)
   clear IH ih
   refine evK_loop c89_9 _ _ _ _ rfl ?_
   cases t with
   | false=>rcases h5 with rfl | rfl <;> simp [-zia,h4,hx,hxe,hlt,hlt2,kk,-zil,-zit,-znl,-znt,ty3,ty4,ty26,ty31,H89,x111,fi211_eq,p111,E89,q89_29,q89_38,n89_8]
   | true =>
    by_cases c1:y.client<x.client
    ·rw [if_pos c1]
     rcases h5 with rfl | rfl
     ·simp [-zia,h4,hx,hxe,hlt,hlt2,hy,hye,hlk,hltk,hwk,hne,c1,kk,hw,-zil,-zit,-znl,-znt,ty3,ty4,ty26,ty31,H89,x111,fi211_eq,p111,E89,q89_29,q89_38,n89_8]
      exact I1 _ _ _ _ (tame_val _) (.inr rfl)
     ·simp [-zia,h4,hx,hxe,hlt,hlt2,hy,hye,hlk,hltk,hwk,hne,c1,kk,hw,-zil,-zit,-znl,-znt,ty3,ty4,ty26,ty31,H89,x111,fi211_eq,p111,E89,q89_29,q89_38,n89_8]
      exact I1 _ _ _ _ (tame_val _) (.inr rfl)
    ·rw [if_neg c1]
     by_cases c2:x.client<y.client
     ·rcases h5 with rfl | rfl <;> simp [-zia,h4,hx,hxe,hlt,hlt2,hy,hye,hlk,hltk,hwk,hne,c1,c2,kk,hw,hwm,-zil,-zit,-znl,-znt,ty3,ty4,ty26,ty31,H89,x111,fi211_eq,p111,E89,q89_29,q89_38,n89_8]
     ·by_cases c3:x.num≤y.num
      ·rcases h5 with rfl | rfl <;> simp [-zia,h4,hx,hxe,hlt,hlt2,hy,hye,hlk,hltk,hwk,hne,c1,c2,c3,kk,hw,hwm,-zil,-zit,-znl,-znt,ty3,ty4,ty26,ty31,H89,x111,fi211_eq,p111,E89,q89_29,q89_38,n89_8]
      ·by_cases c4:y.broker=x.broker
       ·by_cases c5:3<many+1
        ·rcases h5 with rfl | rfl <;> simp [-zia,h4,hx,hxe,hlt,hlt2,hy,hye,hlk,hltk,hwk,hne,c1,c2,c3,c4,c5,kk,hw,hwm,-zil,-zit,-znl,-znt,ty3,ty4,ty26,ty31,H89,x111,fi211_eq,p111,E89,q89_29,q89_38,n89_8]
        ·rcases h5 with rfl | rfl
         ·simp [-zia,h4,hx,hxe,hlt,hlt2,hy,hye,hlk,hltk,hwk,hne,c1,c2,c3,c4,c5,kk,hw,hwm,-zil,-zit,-znl,-znt,ty3,ty4,ty26,ty31,H89,x111,fi211_eq,p111,E89,q89_29,q89_38,n89_8]
          exact I2 _ _ _ _ (tame_val _) (.inr rfl)
         ·simp [-zia,h4,hx,hxe,hlt,hlt2,hy,hye,hlk,hltk,hwk,hne,c1,c2,c3,c4,c5,kk,hw,hwm,-zil,-zit,-znl,-znt,ty3,ty4,ty26,ty31,H89,x111,fi211_eq,p111,E89,q89_29,q89_38,n89_8]
          exact I2 _ _ _ _ (tame_val _) (.inr rfl)
       ·rcases h5 with rfl | rfl <;> simp [-zia,h4,hx,hxe,hlt,hlt2,hy,hye,hlk,hltk,hwk,hne,c1,c2,c3,c4,kk,hw,hwm,-zil,-zit,-znl,-znt,ty3,ty4,ty26,ty31,H89,x111,fi211_eq,p111,E89,q89_29,q89_38,n89_8]
theorem c89 (l:List Sub)(hl1:∀ s∈l,POk s.filter)(hl2:l.length<1000000)(st:St):EvF gS 89 [.slice (encSubs l)] st=some (.ret (.bool (rightS l)) none,st):=by
 refine EvF_start fi212_eq (fun x h=>by cases h) m89 ?_
 rw [st89]
 have LL:=fun e4 e5 T X h4 h5=>L89 l hl1 hl2 st l.length 0 0 e4 e5 T X h4 h5 (by omega) (by omega) (Nat.zero_le _) rfl
 rw [show ((0:Nat):Int)=0 from rfl,show rsG (prevS l 0) 0 (l.drop 0)=rightS l from rfl] at LL
 simp [-zil,-zit,-znl,-znt,ty3,ty4,ty26,ty31,H89,x111,fi211_eq,p111,E89,q89_29,q89_38,n89_8]
 refine LL _ _ _ _ ?_ (.inl rfl)
 all_goals simp
theorem k89 (l:List Sub)(hl1:∀ s∈l,POk s.filter)(hl2:l.length<1000000)(fr:Fr)(st:St):callStep gS (EvF gS) 89 [.slice (encSubs l)] fr st=some (.ok (.val (.bool (rightS l))) fr st) :=
 call_pure rfl fi212_eq rfl (fun st=>c89 l hl1 hl2 st) (by simp [V.flat])
end
end Go.Proofs.Ytdoobejjedpcgaa
namespace Go.Proofs.Ytdoobejjedpcgaa
open Go Go.Ab
noncomputable section
variable (fr:Fr)(st:St)(k:Kt)
def fi59:FI:={body:=codeOf Try.f59,ntmps:=37,results:=[.cell 4 96,.tmp 5],pers:=[0,1,4,5,6,8,18,19,20],locals:=[4,6,8],pure:=true,marks:=[]}
theorem H59:fi59.marks=[]∧fi59.locals=[4,6,8]∧fi59.results=[.cell 4 96,.tmp 5]:=⟨rfl,rfl,rfl⟩
theorem fi215_eq:gS.fn 59=some fi59:=by kernel_rfl
theorem st59 (a0 a1:V):startFr fi59 [a0,a1]={ps:=[(0,.val a0),(1,.val a1),(4,.any),(5,.any),(6,.any),(8,.any),(18,.any),(19,.any),(20,.any)],ts:=[],lc:=[]}:=rfl
def b59:Code:=mini (codeOf Try.f59)
def c59_8:Code:=.seq (codeN b59 75) .ret
def c59_7:Code:=.cond (.tmp 16) c59_8 .skip
def c59_5:Code:=.seq (codeN b59 19) c59_7
def c59_31:Code:=.seq (codeN b59 76183) .ret
def c59_30:Code:=.cond (.tmp 28) c59_31 .skip
def c59_28:Code:=.seq (codeN b59 18839) c59_30
def c59_35:Code:=codeN b59 14743
def c59_27:Code:=.seq c59_28 c59_35
def c59_25:Code:=.seq (codeN b59 4503) c59_27
def c59_36:Code:=codeN b59 1943
def c59_23:Code:=.seq (.block 1 c59_25) c59_36
def c59_19:Code:=.seq (.cond (.tmp 21) .skip (.exit 0)) c59_23
def c59_17:Code:=.seq (codeN b59 279) c59_19
def c59_16:Code:=.loop c59_17
def c59_15:Code:=.block 0 c59_16
def c59_13:Code:=.seq (codeN b59 39) c59_15
def c59_37:Code:=.seq (codeN b59 47) .ret
def c59_12:Code:=.seq c59_13 c59_37
def c59_4:Code:=.seq c59_5 c59_12
def c59_2:Code:=.seq (codeN b59 5) c59_4
def c59_0:Code:=.seq (codeN b59 2) c59_2
theorem E59:(evK gS fi59 c59_8 fr st k=opsR gS fi59 [ld 17 96 6 96,
 sto 96 4 17,
 qA 5 false 4] fr st (.seq .ret k)) ∧
 evK gS fi59 c59_7 fr st k=condK gS fi59 (fr.op (.tmp 16)).bool? c59_8 .skip fr st k ∧
 (evK gS fi59 c59_5 fr st k=opsR gS fi59 [mv 9 0 22,
 cal 10 88 [(.tmp 9)] [22] 4,
 op1 11 (.unOp .not 4 (.tmp 10)) 4,
 mv 12 11 4,
 qm 13 1 26 3 false,
 mk (some 14) (.call {callee:=(.value (.func 89)),args:=#[(.tmp 13)],argTypes:=#[26]}) 4 (some (3,false)),
 mk (some 15) (.unOp .not 4 (.tmp 14)) 4 (some (3,false)),
 qQ 16 12 true 15 4] fr st (.seq c59_7 k)) ∧
 (evK gS fi59 c59_31 fr st k=opsR gS fi59 [ld 29 96 6 96,
 sto 96 4 29,
 qA 5 false 4] fr st (.seq .ret k)) ∧
 evK gS fi59 c59_30 fr st k=condK gS fi59 (fr.op (.tmp 28)).bool? c59_31 .skip fr st k ∧
 (evK gS fi59 c59_28 fr st k=opsR gS fi59 [qF 24 31 8 1 0,
 ld 25 3 24 3,
 mv 26 0 22,
 len1 27 26 22 3,
 bop 28 .gtr 3 25 27 3 4] fr st (.seq c59_30 k)) ∧
 (evK gS fi59 c59_35 fr st k=opsR gS fi59 [qF 30 31 8 0 0,
 ld 31 3 30 3,
 qF 32 31 8 1 0,
 ld 33 3 32 3,
 ixa 34 96 6 31 0,
 sto 3 34 33] fr st k) ∧
 evK gS fi59 c59_27 fr st k=evK gS fi59 c59_28 fr st (.seq c59_35 k) ∧
 (evK gS fi59 c59_25 fr st k=opsR gS fi59 [ixa 22 26 18 20 0,
 ld 23 31 22 31,
 op1 8 (.alloc 31) 0,
 sto 31 8 23] fr st (.seq c59_27 k)) ∧
 (evK gS fi59 c59_36 fr st k=opsR gS fi59 [qB 35 .add 3 20 1 3 3,
 mv 20 35 3] fr st k) ∧
 evK gS fi59 c59_23 fr st k=evK gS fi59 c59_25 fr st (.blk 1 (.seq c59_36 k)) ∧
 evK gS fi59 c59_19 fr st k=condK gS fi59 (fr.op (.tmp 21)).bool? .skip (.exit 0) fr st (.seq c59_23 k) ∧
 evK gS fi59 c59_17 fr st k=opsR gS fi59 [bop 21 .lss 3 20 19 3 0] fr st (.seq c59_19 k) ∧
 evK gS fi59 c59_15 fr st k=evK gS fi59 c59_16 fr st (.blk 0 k) ∧
 (evK gS fi59 c59_13 fr st k=opsR gS fi59 [mv 18 1 26,
 len1 19 18 26 3,
 op1 20 (.move (.const (.int .i64 0))) 3] fr st (.seq c59_15 k)) ∧
 (evK gS fi59 c59_37 fr st k=opsR gS fi59 [ld 36 96 6 96,
 sto 96 4 36,
 qA 5 true 4] fr st (.seq .ret k)) ∧
 evK gS fi59 c59_12 fr st k=evK gS fi59 c59_13 fr st (.seq c59_37 k) ∧
 evK gS fi59 c59_4 fr st k=evK gS fi59 c59_5 fr st (.seq c59_12 k) ∧
 evK gS fi59 c59_2 fr st k=opsR gS fi59 [op1 6 (.alloc 96) 0] fr st (.seq c59_4 k) ∧
 (evK gS fi59 c59_0 fr st k=opsR gS fi59 [op1 4 (.alloc 96) 0,
 qA 5 false 4] fr st (.seq c59_2 k)):=⟨evK_rs 3 rfl (by kernel_rfl),rfl,evK_rs 2 rfl (by kernel_rfl),evK_rs 8 rfl (by kernel_rfl),rfl,evK_rs 7 rfl (by kernel_rfl),evK_r 9 (by kernel_rfl),rfl,evK_rs 6 rfl (by kernel_rfl),evK_r 10 (by kernel_rfl),rfl,rfl,evK_rs 5 rfl (by kernel_rfl),rfl,evK_rs 4 rfl (by kernel_rfl),evK_rs 11 rfl (by kernel_rfl),rfl,rfl,evK_rs 1 rfl (by kernel_rfl),evK_rs 0 rfl (by kernel_rfl)⟩
theorem m59:mini fi59.body=c59_0:=by kernel_rfl
theorem n59_16 (fr:Fr)(st:St)(k:Kt):nextK gS fi59 (.loop c59_17 k) .normal fr st=evK gS fi59 c59_16 fr st k:=rfl
theorem ints_splice {hm:List Int} {k:Nat} (h:k<hm.length)(b:Int):splice (intVs hm) k [.int .i64 b]=some (intVs (hm.set k b)):=by
 unfold splice
 rw [if_pos (by simp;omega),intVs,intVs,List.map_set,List.set_eq_take_append_cons_drop,if_pos (by simp;omega)]
 simp
theorem L59 (p:List Int)(hp1:p.length<1000)(l:List Sub)(hl1:∀ s∈l,mayS s=true)(hl2:l.length<1000000)(st:St):∀ (m i:Nat) (hm0:List Int) (e8:E) (T:List (Nat × E)) (X:List (Nat × List V)),hm0.length=7→e8=.any∨e8=.lp 8 0→(∃ z:List Int,z.length=7∧lk X 4=some (intVs z))→lk X 6=some (intVs hm0)→i≤l.length→l.length - i=m →
  evK gS fi59 c59_16 {ps:=[(0,.val (.slice (intVs p))),(1,.val (.slice (encSubs l))),(4,.lp 4 0),(5,.val (.bool false)),(6,.lp 6 0),(8,e8),(18,.val (.slice (encSubs l))),(19,.val (.int .i64 l.length)),(20,.val (.int .i64 (i:Nat)))],ts:=T,lc:=X} st (.blk 0 (.seq c59_37 .nil))=some (.ret (.tuple [.agg (intVs (homesG p (l.drop i) hm0).1),.bool (homesG p (l.drop i) hm0).2]) none,st):=by
 intro m
 have hm:fi59.marks=[]:=rfl
 have hl:fi59.locals=[4,6,8]:=rfl
 have hr:fi59.results=[.cell 4 96,.tmp 5]:=rfl
 induction m with
 | zero =>
  intro i hm0 e8 T X hh h8 h4 h6 hi hm2
  obtain ⟨z,hz,hz4⟩:=h4
  obtain rfl:i=l.length:=by omega
  rw [List.drop_length,show homesG p [] hm0=(hm0,true) from rfl]
  have f1:(intVs hm0).length=7:=by simp [hh]
  have f2:(intVs z).length=7:=by simp [hz]
  have f3:(intVs hm0).take 7=intVs hm0:=List.take_of_length_le (by simp [hh])
  have f4:=ints_strip hm0
  have f5:=ints_one hm0
  have f6:splice (intVs z) 0 (intVs hm0)=some (intVs hm0):=by unfold splice;rw [if_pos (by simp [hz,hh])];simp [hz,hh]
  have f7:=fun s=>frz_flat 6 s (.tuple [.agg (intVs hm0),.bool true]) (by simp [V.flat,flats])
  generalize intVs hm0=H at *
  generalize intVs z=Z at *
  refine evK_loop c59_17 _ _ _ _ rfl ?_
  have f8:∀ a b c d e f g h:V,splice [a,b,c,d] 0 [e,f,g,h]=some [e,f,g,h]:=fun _ _ _ _ _ _ _ _=>rfl
  rcases h8 with rfl | rfl <;> simp [-splice,f8,f1,f2,f3,f4,f5,f6,hz4,h6,lk_lset_self _ _ _ _ hz4,-zil,-zit,-znl,-znt,ty3,ty4,ty22,ty26,ty31,ty96,hm,hl,hr,E59,n59_16]
 | succ m ih =>
  intro i hm0 e8 T X hh h8 h4 h6 hi hm2
  obtain ⟨x,hx⟩  := qgx (l:=l) (i:=i) (by omega)
  have hlt:(i:Int)<(l.length:Int):=by omega
  obtain ⟨hlt2,hxe⟩:=List.getElem?_eq_some_iff.1 hx
  have hw  := qws i (by omega)
  have hmx:=may_client (hl1 x (zmg hx))
  obtain ⟨cl,hcl⟩:∃ cl:Nat,x.client=(cl:Int):=⟨x.client.toNat,by omega⟩
  have c7:cl<7:=by omega
  have c7i:(cl:Int)<7:=by omega
  rw [drop_get hx,show homesG p (x :: l.drop (i+1)) hm0=if (p.length:Int)<x.broker then (hm0,false) else homesG p (l.drop (i+1)) (hm0.set x.client.toNat x.broker) from rfl]
  have hsp:=ints_splice (hm:=hm0) (k:=cl) (by omega) x.broker
  rw [hcl,Int.toNat_natCast]
  have f8:∀ a b c d e f g h:V,splice [a,b,c,d] 0 [e,f,g,h]=some [e,f,g,h]:=fun _ _ _ _ _ _ _ _=>rfl
  refine evK_loop c59_17 _ _ _ _ rfl ?_
  by_cases hb:(p.length:Int)<x.broker
  ·rw [if_pos hb]
   obtain ⟨z,hz,hz4⟩:=h4
   have f1:(intVs hm0).length=7:=by simp [hh]
   have f2:(intVs z).length=7:=by simp [hz]
   have f3:(intVs hm0).take 7=intVs hm0:=List.take_of_length_le (by simp [hh])
   have f4:=ints_strip hm0
   have f5:=ints_one hm0
   have f6:splice (intVs z) 0 (intVs hm0)=some (intVs hm0):=by unfold splice;rw [if_pos (by simp [hz,hh])];simp [hz,hh]
   generalize intVs hm0=H at *
   generalize intVs z=Z at *
   have g4:=lk_lset_self (X.filter fun x=>!(x.1 == 8)) 4 Z H (by simp [hz4])
   rcases h8 with rfl | rfl <;> simp [-splice,f8,g4,-zia,hx,hxe,hlt,hlt2,hb,f1,f2,f3,f4,f5,f6,hz4,h6,hcl,-zil,-zit,-znl,-znt,ty3,ty4,ty22,ty26,ty31,ty96,hm,hl,hr,E59,n59_16]
  ·rw [if_neg hb]
   have IH:=fun e8 T X h8 h4 h6=>ih (i+1) (hm0.set cl x.broker) e8 T X (by simpa using hh) h8 h4 h6 (by omega) (by omega)
   have f1:(intVs hm0).length=7:=by simp [hh]
   generalize intVs (hm0.set cl x.broker)=H2 at *
   generalize intVs hm0=H at *
   rcases h8 with rfl | rfl
   ·simp [-splice,f8,-zia,hx,hxe,hlt,hlt2,hb,f1,hsp,h6,hcl,c7,c7i,hw,-zil,-zit,-znl,-znt,ty3,ty4,ty22,ty26,ty31,ty96,hm,hl,hr,E59,n59_16]
    refine IH _ _ _ (.inr rfl) ?_ ?_
    ·obtain ⟨z,hz,hz4⟩:=h4;exact ⟨z,hz,by simp [hz4]⟩
    ·exact lk_lset_self (X.filter fun x=>!(x.1 == 8)) 6 H H2 (by simp [h6])
   ·simp [-splice,f8,-zia,hx,hxe,hlt,hlt2,hb,f1,hsp,h6,hcl,c7,c7i,hw,-zil,-zit,-znl,-znt,ty3,ty4,ty22,ty26,ty31,ty96,hm,hl,hr,E59,n59_16]
    refine IH _ _ _ (.inr rfl) ?_ ?_
    ·obtain ⟨z,hz,hz4⟩:=h4;exact ⟨z,hz,by simp [hz4]⟩
    ·exact lk_lset_self (X.filter fun x=>!(x.1 == 8)) 6 H H2 (by simp [h6])
theorem c59 (p:List Int)(hp1:p.length<1000)(l:List Sub)(hl1:∀ s∈l,POk s.filter)(hl2:l.length<1000000)(st:St):EvF gS 59 [.slice (intVs p),.slice (encSubs l)] st=some (.ret (.tuple [.agg (intVs (homesT p l).1),.bool (homesT p l).2]) none,st):=by
 refine EvF_start fi215_eq (fun x h=>by cases h) m59 ?_
 rw [st59]
 have k1:=fun fr st=>k88 p (by omega) fr st
 have k2:=fun fr st=>k89 l hl1 hl2 fr st
 unfold homesT
 have hz0:intVs home0=[.int .i64 0,.int .i64 0,.int .i64 0,.int .i64 0,.int .i64 0,.int .i64 0,.int .i64 0]:=rfl
 cases h1:rightT p with
 | false=>rw [h1] at k1;simp [k1,hz0,-zil,-zit,-znl,-znt,ty3,ty4,ty22,ty26,ty31,ty96,H59,E59,n59_16]
 | true =>
  cases h2:rightS l with
  | false=>rw [h1] at k1;rw [h2] at k2;simp [k1,k2,hz0,-zil,-zit,-znl,-znt,ty3,ty4,ty22,ty26,ty31,ty96,H59,E59,n59_16]
  | true =>
   rw [h1] at k1;rw [h2] at k2
   have LL:=fun e8 T X h8 h4 h6=>L59 p hp1 l (rsG_may l none 0 h2) hl2 st l.length 0 home0 e8 T X rfl h8 h4 h6 (Nat.zero_le _) rfl
   rw [show ((0:Nat):Int)=0 from rfl,List.drop_zero,hz0] at LL
   simp [k1,k2,-zil,-zit,-znl,-znt,ty3,ty4,ty22,ty26,ty31,ty96,H59,E59,n59_16]
   refine LL _ _ _ (.inl rfl) ⟨home0,rfl,?_⟩ ?_
   ·rw [hz0];simp
   ·simp
theorem k59 (p:List Int)(hp1:p.length<1000)(l:List Sub)(hl1:∀ s∈l,POk s.filter)(hl2:l.length<1000000)(fr:Fr)(st:St):callStep gS (EvF gS) 59 [.slice (intVs p),.slice (encSubs l)] fr st=some (.ok (.val (.tuple [.agg (intVs (homesT p l).1),.bool (homesT p l).2])) fr st) :=
 call_pure rfl fi215_eq rfl (fun st=>c59 p hp1 l hl1 hl2 st) (by simp [V.flat])
end
end Go.Proofs.Ytdoobejjedpcgaa
namespace Go.Proofs.Ytdoobejjedpcgaa
open Go Go.Ab
noncomputable section
variable (fr:Fr)(st:St)(k:Kt)
def fi27:FI:={body:=codeOf Try.f27,ntmps:=66,results:=[.tmp 4],pers:=[0,1,4,5,6,7,8,9,10,11,13,26,27,40,41,42],locals:=[6],pure:=true,marks:=[1000000]}
theorem H27:fi27.marks=[1000000]∧fi27.locals=[6]∧fi27.results=[.tmp 4]:=⟨rfl,rfl,rfl⟩
theorem fi219_eq:gS.fn 27=some fi27:=by kernel_rfl
theorem st27 (a0 a1:V):startFr fi27 [a0,a1]={ps:=[(0,.val a0),(1,.val a1),(4,.any),(5,.any),(6,.any),(7,.any),(8,.any),(9,.any),(10,.any),(11,.any),(13,.any),(26,.any),(27,.any),(40,.any),(41,.any),(42,.any)],ts:=[],lc:=[]}:=rfl
def b27:Code:=mini (codeOf Try.f27)
def c27_10:Code:=.seq (codeN b27 151) .ret
def c27_9:Code:=.cond (.tmp 21) c27_10 .skip
def c27_7:Code:=.seq (codeN b27 39) c27_9
def c27_38:Code:=.cond (.tmp 34) .skip (.exit 2)
def c27_36:Code:=.seq (codeN b27 550495) c27_38
def c27_60:Code:=codeN b27 1716676191
def c27_58:Code:=.seq (codeN b27 1179805279) c27_60
def c27_61:Code:=codeN b27 508716639
def c27_56:Code:=.seq (.block 5 c27_58) c27_61
def c27_52:Code:=.seq (.cond (.tmp 43) .skip (.exit 4)) c27_56
def c27_50:Code:=.seq (codeN b27 72509023) c27_52
def c27_49:Code:=.loop c27_50
def c27_48:Code:=.block 4 c27_49
def c27_46:Code:=.seq (codeN b27 9594463) c27_48
def c27_65:Code:=codeN b27 24274527
def c27_64:Code:=.cond (.tmp 55) c27_65 .skip
def c27_62:Code:=.seq (codeN b27 11691615) c27_64
theorem e27_62:evK gS fi27 c27_62 fr st k=opsR gS fi27 [mv 53 11 22,
 len1 54 53 22 3,
 qB 55 .gtr 3 54 0 3 4] fr st (.seq c27_64 k):=evK_rs 18 rfl (by kernel_rfl)
def c27_45:Code:=.seq c27_46 c27_62
def c27_43:Code:=.seq (codeN b27 2254431) c27_45
def c27_67:Code:=codeN b27 943711
def c27_41:Code:=.seq (.block 3 c27_43) c27_67
def c27_35:Code:=.seq c27_36 c27_41
def c27_34:Code:=.loop c27_35
def c27_33:Code:=.block 2 c27_34
def c27_31:Code:=.seq (codeN b27 42591) c27_33
def c27_29:Code:=.seq (codeN b27 18015) c27_31
def c27_68:Code:=codeN b27 7775
theorem e27_68:evK gS fi27 c27_68 fr st k=opsR gS fi27 [qB 64 .add 3 27 1 3 3,
 mv 27 64 3] fr st k:=evK_r 20 (by kernel_rfl)
def c27_27:Code:=.seq (.block 1 c27_29) c27_68
def c27_23:Code:=.seq (.cond (.tmp 28) .skip (.exit 0)) c27_27
def c27_21:Code:=.seq (codeN b27 1119) c27_23
def c27_20:Code:=.loop c27_21
def c27_19:Code:=.block 0 c27_20
def c27_17:Code:=.seq (codeN b27 159) c27_19
def c27_69:Code:=.seq (codeN b27 191) .ret
def c27_16:Code:=.seq c27_17 c27_69
def c27_14:Code:=.seq (codeN b27 47) c27_16
def c27_6:Code:=.seq c27_7 c27_14
def c27_4:Code:=.seq (codeN b27 11) c27_6
def c27_2:Code:=.seq (codeN b27 5) c27_4
def c27_0:Code:=.seq (codeN b27 2) c27_2
theorem E27:(evK gS fi27 c27_10 fr st k=opsR gS fi27 [mv 22 5 53,
 asn 4 22 53] fr st (.seq .ret k)) ∧
 evK gS fi27 c27_9 fr st k=condK gS fi27 (fr.op (.tmp 21)).bool? c27_10 .skip fr st k ∧
 (evK gS fi27 c27_7 fr st k=opsR gS fi27 [mv 20 7 4,
 op1 21 (.unOp .not 4 (.tmp 20)) 4] fr st (.seq c27_9 k)) ∧
 evK gS fi27 c27_38 fr st k=condK gS fi27 (fr.op (.tmp 34)).bool? .skip (.exit 2) fr st k ∧
 (evK gS fi27 c27_36 fr st k=opsR gS fi27 [mv 31 10 3,
 mv 32 8 32,
 len1 33 32 32 3,
 bop 34 .lss 3 31 33 3 4] fr st (.seq c27_38 k)) ∧
 (evK gS fi27 c27_60 fr st k=opsR gS fi27 [mv 46 11 22,
 mv 47 13 3,
 ixa 48 96 6 47 0,
 ld 49 3 48 3,
 qS 50 22 49 22,
 qE 51 46 50 22 22,
 asn 11 51 22] fr st k) ∧
 (evK gS fi27 c27_58 fr st k=opsR gS fi27 [ixa 44 22 40 42 0,
 ld 45 3 44 3,
 asn 13 45 3] fr st (.seq c27_60 k)) ∧
 (evK gS fi27 c27_61 fr st k=opsR gS fi27 [qB 52 .add 3 42 1 3 3,
 mv 42 52 3] fr st k) ∧
 evK gS fi27 c27_56 fr st k=evK gS fi27 c27_58 fr st (.blk 5 (.seq c27_61 k)) ∧
 evK gS fi27 c27_52 fr st k=condK gS fi27 (fr.op (.tmp 43)).bool? .skip (.exit 4) fr st (.seq c27_56 k) ∧
 evK gS fi27 c27_50 fr st k=opsR gS fi27 [bop 43 .lss 3 42 41 3 0] fr st (.seq c27_52 k) ∧
 evK gS fi27 c27_48 fr st k=evK gS fi27 c27_49 fr st (.blk 4 k) ∧
 (evK gS fi27 c27_46 fr st k=opsR gS fi27 [mv 37 8 32,
 mv 38 9 3,
 mv 39 10 3,
 cal 40 22 [(.tmp 37),(.tmp 38),(.tmp 39)] [32,3,3] 22,
 len1 41 40 22 3,
 op1 42 (.move (.const (.int .i64 0))) 3] fr st (.seq c27_48 k)) ∧
 (evK gS fi27 c27_65 fr st k=opsR gS fi27 [mv 56 5 53,
 mv 57 9 3,
 mv 58 10 3,
 mv 59 0 22,
 mv 60 11 22,
 cal 61 34 [(.tmp 59),(.tmp 60)] [22,22] 3,
 op1 62 (.build 59 #[(0,(.tmp 57)),(1,(.tmp 58)),(2,(.tmp 61))]) 59,
 cal 63 60 [(.tmp 56),(.tmp 62)] [53,59] 53,
 asn 5 63 53] fr st k) ∧
 evK gS fi27 c27_64 fr st k=condK gS fi27 (fr.op (.tmp 55)).bool? c27_65 .skip fr st k ∧
 evK gS fi27 c27_45 fr st k=evK gS fi27 c27_46 fr st (.seq c27_62 k) ∧
 evK gS fi27 c27_43 fr st k=opsR gS fi27 [qN 11 22] fr st (.seq c27_45 k) ∧
 (evK gS fi27 c27_67 fr st k=opsR gS fi27 [mv 35 10 3,
 qB 36 .add 3 35 1 3 3,
 asn 10 36 3] fr st k) ∧
 evK gS fi27 c27_41 fr st k=evK gS fi27 c27_43 fr st (.blk 3 (.seq c27_67 k)) ∧
 evK gS fi27 c27_35 fr st k=evK gS fi27 c27_36 fr st (.seq c27_41 k) ∧
 evK gS fi27 c27_33 fr st k=evK gS fi27 c27_34 fr st (.blk 2 k) ∧
 (evK gS fi27 c27_31 fr st k=opsR gS fi27 [mv 30 9 3,
 asn 10 30 3] fr st (.seq c27_33 k)) ∧
 (evK gS fi27 c27_29 fr st k=opsR gS fi27 [mv 29 27 3,
 asn 9 29 3] fr st (.seq c27_31 k)) ∧
 evK gS fi27 c27_27 fr st k=evK gS fi27 c27_29 fr st (.blk 1 (.seq c27_68 k)) ∧
 evK gS fi27 c27_23 fr st k=condK gS fi27 (fr.op (.tmp 28)).bool? .skip (.exit 0) fr st (.seq c27_27 k) ∧
 evK gS fi27 c27_21 fr st k=opsR gS fi27 [bop 28 .lss 3 27 26 3 0] fr st (.seq c27_23 k) ∧
 evK gS fi27 c27_19 fr st k=evK gS fi27 c27_20 fr st (.blk 0 k) ∧
 (evK gS fi27 c27_17 fr st k=opsR gS fi27 [mv 25 8 32,
 len1 26 25 32 3,
 op1 27 (.move (.const (.int .i64 0))) 3] fr st (.seq c27_19 k)) ∧
 (evK gS fi27 c27_69 fr st k=opsR gS fi27 [mv 65 5 53,
 asn 4 65 53] fr st (.seq .ret k)) ∧
 evK gS fi27 c27_16 fr st k=evK gS fi27 c27_17 fr st (.seq c27_69 k) ∧
 (evK gS fi27 c27_14 fr st k=opsR gS fi27 [mv 23 1 26,
 cal 24 12 [(.tmp 23)] [26] 32,
 asn 8 24 32] fr st (.seq c27_16 k)) ∧
 evK gS fi27 c27_6 fr st k=evK gS fi27 c27_7 fr st (.seq c27_14 k) ∧
 (evK gS fi27 c27_4 fr st k=opsR gS fi27 [mv 15 0 22,
 mv 16 1 26,
 cal 17 59 [(.tmp 15),(.tmp 16)] [22,26] 97,
 mv 14 17 97,
 op1 18 (.extract (.tmp 14) 0) 96,
 op1 19 (.extract (.tmp 14) 1) 4,
 op1 6 (.alloc 96) 0,
 sto 96 6 18,
 asn 7 19 4] fr st (.seq c27_6 k)) ∧
 evK gS fi27 c27_2 fr st k=opsR gS fi27 [qN 5 53] fr st (.seq c27_4 k) ∧
 evK gS fi27 c27_0 fr st k=opsR gS fi27 [qN 4 53] fr st (.seq c27_2 k):=⟨evK_rs 4 rfl (by kernel_rfl),rfl,evK_rs 3 rfl (by kernel_rfl),rfl,evK_rs 10 rfl (by kernel_rfl),evK_r 16 (by kernel_rfl),evK_rs 15 rfl (by kernel_rfl),evK_r 17 (by kernel_rfl),rfl,rfl,evK_rs 14 rfl (by kernel_rfl),rfl,evK_rs 13 rfl (by kernel_rfl),evK_r 19 (by kernel_rfl),rfl,rfl,evK_rs 12 rfl (by kernel_rfl),evK_r 11 (by kernel_rfl),rfl,rfl,rfl,evK_rs 9 rfl (by kernel_rfl),evK_rs 8 rfl (by kernel_rfl),rfl,rfl,evK_rs 7 rfl (by kernel_rfl),rfl,evK_rs 6 rfl (by kernel_rfl),evK_rs 21 rfl (by kernel_rfl),rfl,evK_rs 5 rfl (by kernel_rfl),rfl,evK_rs 2 rfl (by kernel_rfl),evK_rs 1 rfl (by kernel_rfl),evK_rs 0 rfl (by kernel_rfl)⟩
theorem m27:mini fi27.body=c27_0:=by kernel_rfl
theorem n27_49 (fr:Fr)(st:St)(k:Kt):nextK gS fi27 (.loop c27_50 k) .normal fr st=evK gS fi27 c27_49 fr st k:=rfl
theorem n27_34 (fr:Fr)(st:St)(k:Kt):nextK gS fi27 (.loop c27_35 k) .normal fr st=evK gS fi27 c27_34 fr st k:=rfl
theorem n27_20 (fr:Fr)(st:St)(k:Kt):nextK gS fi27 (.loop c27_21 k) .normal fr st=evK gS fi27 c27_20 fr st k:=rfl
theorem splice_all {cs H:List V} (h:H.length=cs.length):splice cs 0 H=some H:=by
 unfold splice
 rw [if_pos (by omega)]
 simp [h]
def OutA (e:E)(l:List Atom):Prop:=(e=.own 0 []∧l=[])∨e=.val (.slice (encAtoms l))
theorem OutA.firm {e:E} {l:List Atom} (h:OutA e l):e.Firm:=by rcases h with ⟨rfl,_⟩ | rfl <;> rfl
theorem L27_49 (p:List Int)(hpl:p.length<1000)(l:List Sub)(hm0:List Int)(hh:hm0.length=7)(g:List Grp)(hg1:∀ x∈g,x.clients.length<1000∧∀ c∈x.clients,1≤c∧c≤6)(hg2:g.length≤500)(st:St)(R:Out × St)(a b:Nat)(cs:List Int)(hcs:cs.length<1000)(hcr:∀ c∈cs,1≤c∧c≤6)(e5:E)(h5:e5.Firm)(fin:List Int)
  (H:∀ (e13:E) (T:List (Nat × E)) (X:List (Nat × List V)),e13.Tame→lk X 6=some (intVs hm0)→evK gS fi27 c27_62 {ps:=[(0,.val (.slice (intVs p))),(1,.val (.slice (encSubs l))),(4,.own 0 []),(5,e5),(6,.lp 6 0),(7,.val (.bool true)),(8,.val (.slice (encGrps g))),(9,.val (.int .i64 (a:Nat))),(10,.val (.int .i64 (b:Nat))),(11,.own (kof 1 fin) (intVs fin)),(13,e13),(26,.val (.int .i64 g.length)),(27,.val (.int .i64 (a:Nat))),(40,.val (.slice (intVs cs))),(41,.val (.int .i64 cs.length)),(42,.val (.int .i64 cs.length))],ts:=T,lc:=X} st (.blk 3 (.seq c27_67 (.loop c27_35 (.blk 2 (.blk 1 (.seq c27_68 (.loop c27_21 (.blk 0 (.seq c27_69 .nil)))))))))=some R) :
  ∀ (m i:Nat) (acc:List Int) (e13:E) (T:List (Nat × E)) (X:List (Nat × List V)),e13.Tame→lk X 6=some (intVs hm0)→i≤cs.length→cs.length - i=m→acc.length≤i→fin=acc ++ (cs.drop i).map (fun c=>hm0.getD c.toNat 0) →
  evK gS fi27 c27_49 {ps:=[(0,.val (.slice (intVs p))),(1,.val (.slice (encSubs l))),(4,.own 0 []),(5,e5),(6,.lp 6 0),(7,.val (.bool true)),(8,.val (.slice (encGrps g))),(9,.val (.int .i64 (a:Nat))),(10,.val (.int .i64 (b:Nat))),(11,.own (kof 1 acc) (intVs acc)),(13,e13),(26,.val (.int .i64 g.length)),(27,.val (.int .i64 (a:Nat))),(40,.val (.slice (intVs cs))),(41,.val (.int .i64 cs.length)),(42,.val (.int .i64 (i:Nat)))],ts:=T,lc:=X} st (.blk 4 (.seq c27_62 (.blk 3 (.seq c27_67 (.loop c27_35 (.blk 2 (.blk 1 (.seq c27_68 (.loop c27_21 (.blk 0 (.seq c27_69 .nil)))))))))))=some R:=by
 intro m
 induction m with
 | zero =>
  intro i acc e13 T X h13 h6 hi hm2 ha hf
  obtain rfl:i=cs.length:=by omega
  rw [List.drop_length,List.map_nil,List.append_nil] at hf
  subst hf
  refine evK_loop c27_50 _ _ _ _ rfl ?_
  rcases kof_or 1 fin with ⟨hk,rfl⟩ | hk
  ·have en:intVs []=[]:=rfl
   rw [hk,en] at H
   rw [hk,en]
   simp [-zia,h5,h13,-zil,-zit,-znl,-znt,ty3,ty4,ty22,ty26,ty32,ty53,ty59,ty96,eq59,H27,E27,e27_68,n27_49,n27_34,n27_20]
   exact H _ _ _ h13 h6
  ·rw [hk] at H
   rw [hk]
   simp [-zia,h5,h13,-zil,-zit,-znl,-znt,ty3,ty4,ty22,ty26,ty32,ty53,ty59,ty96,eq59,H27,E27,e27_68,n27_49,n27_34,n27_20]
   exact H _ _ _ h13 h6
 | succ m ih =>
  intro i acc e13 T X h13 h6 hi hm2 ha hf
  obtain ⟨x,hx⟩  := qgx (l:=cs) (i:=i) (by omega)
  have hlt:(i:Int)<(cs.length:Int):=by omega
  obtain ⟨hlt2,hxe⟩:=List.getElem?_eq_some_iff.1 hx
  have hw  := qws i (by omega)
  have hxr:=hcr x (zmg hx)
  obtain ⟨k,rfl⟩:∃ k:Nat,x=(k:Int):=⟨x.toNat,by omega⟩
  have k7:(k:Int)<7:=by omega
  have k8:k<7:=by omega
  obtain ⟨y,hy⟩:∃ y,hm0[k]?=some y:=⟨hm0[k]'(by omega),zge (by omega)⟩
  have hyd:hm0.getD k 0=y:=by rw [List.getD_eq_getElem?_getD,hy];rfl
  obtain ⟨y1,y2⟩:=List.getElem?_eq_some_iff.1 hy
  rw [drop_get hx,List.map_cons,Int.toNat_natCast,hyd,List.append_cons acc y] at hf
  have IH:=fun e13 T X h13 h6=>ih (i+1) (acc ++ [y]) e13 T X h13 h6 (by omega) (by omega) (by simp;omega) hf
  rw [kof_snoc] at IH
  have hs1:=sizes_ints acc
  have hs2:=ints_snoc acc y
  have b1:(acc.length+1)*8≤140737488355328:=by omega
  have b2:acc.length+1≤140737488355328:=by omega
  refine evK_loop c27_50 _ _ _ _ rfl ?_
  rcases kof_or 1 acc with ⟨hk,rfl⟩ | hk
  ·have en:intVs []=[]:=rfl
   have en1:intVs ([] ++ [y])=[.int .i64 y]:=rfl
   rw [en1] at IH
   rw [hk,en]
   simp [-zia,h5,h13,h6,hx,hxe,hlt,hlt2,hw,k7,k8,hy,y1,y2,-zil,-zit,-znl,-znt,ty3,ty4,ty22,ty26,ty32,ty53,ty59,ty96,eq59,H27,E27,e27_62,e27_68,n27_49,n27_34,n27_20]
   exact IH _ _ _ (tame_val _) h6
  ·rw [hk]
   simp [-zia,-zaa,h5,h13,h6,hx,hxe,hlt,hlt2,hw,k7,k8,hy,y1,y2,hs1,hs2,b1,b2,-zil,-zit,-znl,-znt,ty3,ty4,ty22,ty26,ty32,ty53,ty59,ty96,eq59,H27,E27,e27_62,e27_68,n27_49,n27_34,n27_20]
   exact IH _ _ _ (tame_val _) h6
theorem L27_34 (p:List Int)(hpl:p.length<1000)(l:List Sub)(hm0:List Int)(hh:hm0.length=7)(g:List Grp)(hg1:∀ x∈g,x.clients.length<1000∧∀ c∈x.clients,1≤c∧c≤6)(hg2:g.length≤500)(st:St)(R:Out × St)(a:Nat)(ha:a<g.length)(fin:List Atom)
  (H:∀ (e5 e11 e13 e40 e41 e42:E) (T:List (Nat × E)) (X:List (Nat × List V)),OutA e5 fin→e11.Firm→e13.Tame→e40.Tame→e41.Tame→e42.Tame→lk X 6=some (intVs hm0)→evK gS fi27 c27_68 {ps:=[(0,.val (.slice (intVs p))),(1,.val (.slice (encSubs l))),(4,.own 0 []),(5,e5),(6,.lp 6 0),(7,.val (.bool true)),(8,.val (.slice (encGrps g))),(9,.val (.int .i64 (a:Nat))),(10,.val (.int .i64 g.length)),(11,e11),(13,e13),(26,.val (.int .i64 g.length)),(27,.val (.int .i64 (a:Nat))),(40,e40),(41,e41),(42,e42)],ts:=T,lc:=X} st (.loop c27_21 (.blk 0 (.seq c27_69 .nil)))=some R) :
  ∀ (m b:Nat) (out:List Atom) (e5 e11 e13 e40 e41 e42:E) (T:List (Nat × E)) (X:List (Nat × List V)),OutA e5 out→e11.Firm→e13.Tame→e40.Tame→e41.Tame→e42.Tame→lk X 6=some (intVs hm0)→b≤g.length→g.length - b=m→out.length+m≤500*a+500→fin=ofB p hm0 g a m b out →
  evK gS fi27 c27_34 {ps:=[(0,.val (.slice (intVs p))),(1,.val (.slice (encSubs l))),(4,.own 0 []),(5,e5),(6,.lp 6 0),(7,.val (.bool true)),(8,.val (.slice (encGrps g))),(9,.val (.int .i64 (a:Nat))),(10,.val (.int .i64 (b:Nat))),(11,e11),(13,e13),(26,.val (.int .i64 g.length)),(27,.val (.int .i64 (a:Nat))),(40,e40),(41,e41),(42,e42)],ts:=T,lc:=X} st (.blk 2 (.blk 1 (.seq c27_68 (.loop c27_21 (.blk 0 (.seq c27_69 .nil))))))=some R:=by
 intro m
 obtain ⟨u,hu⟩:∃ u,g[a]?=some u:=⟨g[a]'ha,zge ha⟩
 have hug:=hg1 u (zmg hu)
 induction m with
 | zero =>
  intro b out e5 e11 e13 e40 e41 e42 T X h5 h11 h13 h40 h41 h42 h6 hb hm2 ho hf
  obtain rfl:b=g.length:=by omega
  rw [show ofB p hm0 g a 0 g.length out=out from rfl] at hf
  subst hf
  have h5f:=h5.firm
  refine evK_loop c27_35 _ _ _ _ rfl ?_
  simp [-zia,h5f,h11,h13,h40,h41,h42,-zil,-zit,-znl,-znt,ty3,ty4,ty22,ty26,ty32,ty53,ty59,ty96,eq59,H27,E27,e27_62,n27_49,n27_34,n27_20]
  exact H _ _ _ _ _ _ _ _ h5 h11 h13 h40 h41 h42 h6
 | succ m ih =>
  intro b out e5 e11 e13 e40 e41 e42 T X h5 h11 h13 h40 h41 h42 h6 hb hm2 ho hf
  obtain ⟨v,hv⟩:∃ v,g[b]?=some v:=⟨g[b]'(by omega),zge (by omega)⟩
  have hvg:=hg1 v (zmg hv)
  have hlt:(b:Int)<(g.length:Int):=by omega
  have hlt2:b<g.length:=by omega
  have hw  := qws b (by omega)
  have kb:=fun fr st=>k22 g a b u v hu hv hug.1 hvg.1 fr st
  have hbl:=bothI_len v.clients u.clients []
  have hbm:=fun c hc=>hug.2 c (by have:=(bothI_mem v.clients u.clients [] c).1 hc;simpa using this.resolve_left (by simp) |>.1)
  rw [show ofB p hm0 g a (m+1) b out=ofB p hm0 g a m (b+1) (ofStep p hm0 g a b out) from rfl] at hf
  have hst:ofStep p hm0 g a b out=if (bothI v.clients u.clients []).map (fun c=>hm0.getD c.toNat 0)=[] then out else layA out ⟨a,b,placeT p ((bothI v.clients u.clients []).map fun c=>hm0.getD c.toNat 0)⟩:=by
   unfold ofStep atsOf;rw [hu,hv];rfl
  rw [hst] at hf
  have hal:((bothI v.clients u.clients []).map fun c=>hm0.getD c.toNat 0).length<1000:=by rw [List.length_map];simp at hbl;omega
  have II:=fun fin H e13 T X h13 h6 hf=>L27_49 p hpl l hm0 hh g hg1 hg2 st R a b (bothI v.clients u.clients []) (by simp at hbl;omega) hbm e5 h5.firm fin H (bothI v.clients u.clients []).length 0 [] e13 T X h13 h6 (Nat.zero_le _) rfl (Nat.le_refl _) hf
  simp only [List.nil_append,List.drop_zero,show kof 1 ([]:List Int)=0 from rfl,show intVs []=[] from rfl,show ((0:Nat):Int)=0 from rfl] at II
  generalize bothI v.clients u.clients []=cs at *
  generalize hat:cs.map (fun c=>hm0.getD c.toNat 0)=at1 at *
  have kp:=fun fr st=>k34 p (by omega) at1 (by omega) fr st
  have kl:=fun fr st=>k60 out (by omega) ⟨a,b,placeT p at1⟩ fr st
  have hol:=layA_len out ⟨a,b,placeT p at1⟩
  have IH:=fun out' e5 e11 e13 e40 e41 e42 T X h5 h11 h13 h40 h41 h42 h6 ho hf=>ih (b+1) out' e5 e11 e13 e40 e41 e42 T X h5 h11 h13 h40 h41 h42 h6 (by omega) (by omega) ho hf
  generalize placeT p at1=pl at *
  have H62:∀ (e13:E) (T:List (Nat × E)) (X:List (Nat × List V)),e13.Tame→lk X 6=some (intVs hm0)→evK gS fi27 c27_62 {ps:=[(0,.val (.slice (intVs p))),(1,.val (.slice (encSubs l))),(4,.own 0 []),(5,e5),(6,.lp 6 0),(7,.val (.bool true)),(8,.val (.slice (encGrps g))),(9,.val (.int .i64 (a:Nat))),(10,.val (.int .i64 (b:Nat))),(11,.own (kof 1 at1) (intVs at1)),(13,e13),(26,.val (.int .i64 g.length)),(27,.val (.int .i64 (a:Nat))),(40,.val (.slice (intVs cs))),(41,.val (.int .i64 cs.length)),(42,.val (.int .i64 cs.length))],ts:=T,lc:=X} st (.blk 3 (.seq c27_67 (.loop c27_35 (.blk 2 (.blk 1 (.seq c27_68 (.loop c27_21 (.blk 0 (.seq c27_69 .nil)))))))))=some R:=by
   intro e13 T X h13 h6
   by_cases hz:at1=[]
   ·rw [if_pos hz] at hf
    have I1:=fun e5 e11 e13 e40 e41 e42 T X h5 h11 h13 h40 h41 h42 h6=>IH out e5 e11 e13 e40 e41 e42 T X h5 h11 h13 h40 h41 h42 h6 (by omega) hf
    have h5f:=h5.firm
    subst hz
    rw [show kof 1 ([]:List Int)=0 from rfl,show intVs []=[] from rfl]
    simp [-zia,h5f,h13,h6,hw,-zil,-zit,-znl,-znt,ty3,ty4,ty22,ty26,ty32,ty53,ty59,ty96,eq59,H27,E27,e27_62,e27_68,n27_49,n27_34,n27_20]
    exact I1 _ _ _ _ _ _ _ _ h5 rfl h13 (tame_val _) (tame_val _) (tame_val _) h6
   ·rw [if_neg hz] at hf
    have I1:=fun e5 e11 e13 e40 e41 e42 T X h5 h11 h13 h40 h41 h42 h6=>IH _ e5 e11 e13 e40 e41 e42 T X h5 h11 h13 h40 h41 h42 h6 (by omega) hf
    have hk:kof 1 at1=1:=by unfold kof;rw [if_neg hz]
    have hz1:(0:Int)<(at1.length:Int):=by have:=List.length_pos_iff.2 hz;omega
    have hz2:0<at1.length:=List.length_pos_iff.2 hz
    rw [hk]
    rcases h5 with ⟨rfl,rfl⟩ | rfl
    ·rw [show encAtoms []=[] from rfl] at kl
     simp [-zia,h13,h6,hw,hz,hz1,hz2,kp,kl,-zil,-zit,-znl,-znt,ty3,ty4,ty22,ty26,ty32,ty53,ty59,ty96,eq59,H27,E27,e27_62,e27_68,n27_49,n27_34,n27_20]
     exact I1 _ _ _ _ _ _ _ _ (.inr rfl) rfl h13 (tame_val _) (tame_val _) (tame_val _) h6
    ·simp [-zia,h13,h6,hw,hz,hz1,hz2,kp,kl,-zil,-zit,-znl,-znt,ty3,ty4,ty22,ty26,ty32,ty53,ty59,ty96,eq59,H27,E27,e27_62,e27_68,n27_49,n27_34,n27_20]
     exact I1 _ _ _ _ _ _ _ _ (.inr rfl) rfl h13 (tame_val _) (tame_val _) (tame_val _) h6
  have JJ:=fun e13 T X h13 h6=>II at1 H62 e13 T X h13 h6 rfl
  clear II H62 IH ih H
  have h5f:=h5.firm
  refine evK_loop c27_35 _ _ _ _ rfl ?_
  simp [-zia,h5f,h11,h13,h40,h41,h42,h6,hlt,hlt2,kb,-zil,-zit,-znl,-znt,ty3,ty4,ty22,ty26,ty32,ty53,ty59,ty96,eq59,H27,E27,e27_62,e27_68,n27_49,n27_34,n27_20]
  exact JJ _ _ _ h13 h6
theorem L27_20 (p:List Int)(hpl:p.length<1000)(l:List Sub)(hm0:List Int)(hh:hm0.length=7)(g:List Grp)(hg1:∀ x∈g,x.clients.length<1000∧∀ c∈x.clients,1≤c∧c≤6)(hg2:g.length≤500)(st:St):∀ (m a:Nat) (out:List Atom) (e5 e9 e10 e11 e13 e40 e41 e42:E) (T:List (Nat × E)) (X:List (Nat × List V)),OutA e5 out→e9.Tame→e10.Tame→e11.Firm→e13.Tame→e40.Tame→e41.Tame→e42.Tame→lk X 6=some (intVs hm0)→a≤g.length→g.length - a=m→out.length≤500*a →
  evK gS fi27 c27_20 {ps:=[(0,.val (.slice (intVs p))),(1,.val (.slice (encSubs l))),(4,.own 0 []),(5,e5),(6,.lp 6 0),(7,.val (.bool true)),(8,.val (.slice (encGrps g))),(9,e9),(10,e10),(11,e11),(13,e13),(26,.val (.int .i64 g.length)),(27,.val (.int .i64 (a:Nat))),(40,e40),(41,e41),(42,e42)],ts:=T,lc:=X} st (.blk 0 (.seq c27_69 .nil))=some (.ret (.slice (encAtoms (ofA p hm0 g m a out))) none,st):=by
 intro m
 have hz:=fun xs st=>frz_slice (xs:=encAtoms xs) (flats_atoms xs) st
 induction m with
 | zero =>
  intro a out e5 e9 e10 e11 e13 e40 e41 e42 T X h5 h9 h10 h11 h13 h40 h41 h42 h6 ha hm2 ho
  obtain rfl:a=g.length:=by omega
  rw [show ofA p hm0 g 0 g.length out=out from rfl]
  refine evK_loop c27_21 _ _ _ _ rfl ?_
  rcases h5 with ⟨rfl,rfl⟩ | rfl
  ·have hz0:=hz [] st
   rw [show encAtoms []=[] from rfl] at hz0 ⊢
   simp [h9,h10,h11,h13,h40,h41,h42,hz0,-zil,-zit,-znl,-znt,ty3,ty4,ty22,ty26,ty32,ty53,ty59,ty96,eq59,H27,E27,e27_62,e27_68,n27_49,n27_34,n27_20]
  ·simp [h9,h10,h11,h13,h40,h41,h42,hz,-zil,-zit,-znl,-znt,ty3,ty4,ty22,ty26,ty32,ty53,ty59,ty96,eq59,H27,E27,e27_62,e27_68,n27_49,n27_34,n27_20]
 | succ m ih =>
  intro a out e5 e9 e10 e11 e13 e40 e41 e42 T X h5 h9 h10 h11 h13 h40 h41 h42 h6 ha hm2 ho
  have hlt:(a:Int)<(g.length:Int):=by omega
  have hlt2:a<g.length:=by omega
  have hw  := qws a (by omega)
  have hbl:=ofB_len p hm0 g a (g.length - a) a out
  rw [show ofA p hm0 g (m+1) a out=ofA p hm0 g m (a+1) (ofB p hm0 g a (g.length - a) a out) from rfl]
  have IH:=fun e5 e9 e10 e11 e13 e40 e41 e42 T X h5 h9 h10 h11 h13 h40 h41 h42 h6=>ih (a+1) (ofB p hm0 g a (g.length - a) a out) e5 e9 e10 e11 e13 e40 e41 e42 T X h5 h9 h10 h11 h13 h40 h41 h42 h6 (by omega) (by omega) (by omega)
  generalize hR:(Out.ret (V.slice (encAtoms (ofA p hm0 g m (a+1) (ofB p hm0 g a (g.length - a) a out)))) none,st)=R at IH ⊢
  have H68:∀ (e5 e11 e13 e40 e41 e42:E) (T:List (Nat × E)) (X:List (Nat × List V)),OutA e5 (ofB p hm0 g a (g.length - a) a out)→e11.Firm→e13.Tame→e40.Tame→e41.Tame→e42.Tame→lk X 6=some (intVs hm0)→evK gS fi27 c27_68 {ps:=[(0,.val (.slice (intVs p))),(1,.val (.slice (encSubs l))),(4,.own 0 []),(5,e5),(6,.lp 6 0),(7,.val (.bool true)),(8,.val (.slice (encGrps g))),(9,.val (.int .i64 (a:Nat))),(10,.val (.int .i64 g.length)),(11,e11),(13,e13),(26,.val (.int .i64 g.length)),(27,.val (.int .i64 (a:Nat))),(40,e40),(41,e41),(42,e42)],ts:=T,lc:=X} st (.loop c27_21 (.blk 0 (.seq c27_69 .nil)))=some R:=by
   intro e5 e11 e13 e40 e41 e42 T X h5 h11 h13 h40 h41 h42 h6
   have h5f:=h5.firm
   simp [-zia,h5f,h11,h13,h40,h41,h42,hw,-zil,-zit,-znl,-znt,ty3,ty4,ty22,ty26,ty32,ty53,ty59,ty96,eq59,H27,E27,e27_62,e27_68,n27_49,n27_34,n27_20]
   exact IH _ _ _ _ _ _ _ _ _ _ h5 (tame_val _) (tame_val _) h11 h13 h40 h41 h42 h6
  have JJ:=fun e11 e13 e40 e41 e42 T X h11 h13 h40 h41 h42 h6=>L27_34 p hpl l hm0 hh g hg1 hg2 st R a hlt2 _ H68 (g.length - a) a out e5 e11 e13 e40 e41 e42 T X h5 h11 h13 h40 h41 h42 h6 (by omega) rfl (by omega) rfl
  clear H68 IH ih
  have h5f:=h5.firm
  refine evK_loop c27_21 _ _ _ _ rfl ?_
  simp [-zia,h5f,h9,h10,h11,h13,h40,h41,h42,h6,hlt,hlt2,-zil,-zit,-znl,-znt,ty3,ty4,ty22,ty26,ty32,ty53,ty59,ty96,eq59,H27,E27,e27_62,e27_68,n27_49,n27_34,n27_20]
  exact JJ _ _ _ _ _ _ _ h11 h13 h40 h41 h42 h6
theorem c27 (p:List Int)(hpl:p.length<1000)(l:List Sub)(hl1:∀ s∈l,PSm s.filter)(hl2:l.length≤400)(st:St):EvF gS 27 [.slice (intVs p),.slice (encSubs l)] st=some (.ret (.slice (encAtoms (chainOf p l))) none,st):=by
 refine EvF_start fi219_eq (fun x h=>by cases h) m27 ?_
 rw [st27]
 have k1:=fun fr st=>k59 p hpl l (fun s hs=>(hl1 s hs).ok) (by omega) fr st
 have k2:=fun fr st=>k12 l hl1 (by omega) fr st
 unfold chainOf
 have hh:=homesT_len p l
 have hgl:=gof_len l
 have hz0:=frz_slice (xs:=encAtoms []) (flats_atoms []) st
 rw [show encAtoms []=[] from rfl] at hz0
 cases hok:(homesT p l).2 with
 | false =>
  rw [hok] at k1
  have f1:(intVs (homesT p l).1).length=7:=by simp [hh]
  have f9:=ints_one (homesT p l).1
  generalize intVs (homesT p l).1=H at *
  have f7:splice [.int .i64 0,.int .i64 0,.int .i64 0,.int .i64 0,.int .i64 0,.int .i64 0,.int .i64 0] 0 H=some H:=splice_all (by simpa using f1)
  rw [show encAtoms (if false=true then ofA p (homesT p l).1 (gof l) (gof l).length 0 [] else [])=[] from rfl]
  simp [-splice,k1,hz0,f1,f9,f7,-zil,-zit,-znl,-znt,ty3,ty4,ty22,ty26,ty32,ty53,ty59,ty96,eq59,H27,E27,e27_62,e27_68,n27_49,n27_34,n27_20]
 | true =>
  have hmy:∀ s∈l,mayS s=true:=by
   unfold homesT at hok
   split at hok
   ·rename_i h;simp only [Bool.and_eq_true] at h;exact rsG_may l none 0 h.2
   ·cases hok
  have hg1:∀ x∈gof l,x.clients.length<1000∧∀ c∈x.clients,1≤c∧c≤6:=fun x hx=>by
   obtain ⟨k,s,h1,h2,rfl⟩:=gof_mem.1 hx
   have:=cliOf_len l s
   refine ⟨by show (cliOf l s).length<1000;omega,fun c hc=>?_⟩
   obtain ⟨t,ht,_,rfl⟩:=cliOf_mem.1 hc
   have:=may_client (hmy t ht)
   omega
  rw [hok] at k1
  rw [if_pos rfl]
  have LL:=fun e9 e10 e11 e13 e40 e41 e42 T X h9 h10 h11 h13 h40 h41 h42 h6=>L27_20 p hpl l (homesT p l).1 hh (gof l) hg1 (by omega) st (gof l).length 0 [] (.own 0 []) e9 e10 e11 e13 e40 e41 e42 T X (.inl ⟨rfl,rfl⟩) h9 h10 h11 h13 h40 h41 h42 h6 (Nat.zero_le _) rfl (Nat.zero_le _)
  rw [show ((0:Nat):Int)=0 from rfl] at LL
  have f1:(intVs (homesT p l).1).length=7:=by simp [hh]
  have f9:=ints_one (homesT p l).1
  generalize gof l=g at *
  generalize intVs (homesT p l).1=H at *
  have f7:splice [.int .i64 0,.int .i64 0,.int .i64 0,.int .i64 0,.int .i64 0,.int .i64 0,.int .i64 0] 0 H=some H:=splice_all (by simpa using f1)
  simp [-splice,k1,k2,f1,f9,f7,-zil,-zit,-znl,-znt,ty3,ty4,ty22,ty26,ty32,ty53,ty59,ty96,eq59,H27,E27,e27_62,e27_68,n27_49,n27_34,n27_20]
  refine LL _ _ _ _ _ _ _ _ _ ?_ ?_ ?_ ?_ ?_ ?_ ?_ ?_
  all_goals simp
theorem k27 (p:List Int)(hpl:p.length<1000)(l:List Sub)(hl1:∀ s∈l,PSm s.filter)(hl2:l.length≤400)(fr:Fr)(st:St):callStep gS (EvF gS) 27 [.slice (intVs p),.slice (encSubs l)] fr st=some (.ok (.val (.slice (encAtoms (chainOf p l)))) fr st) :=
 call_pure rfl fi219_eq rfl (fun st=>c27 p hpl l hl1 hl2 st) (by simp [V.flat])
end
end Go.Proofs.Ytdoobejjedpcgaa
namespace Go.Proofs.Ytdoobejjedpcgaa
open Go Go.Ab
noncomputable section
variable (fr:Fr)(st:St)(k:Kt)
def fi28:FI:={body:=codeOf Try.f28,ntmps:=2,results:=[.tmp 0],pers:=[0],locals:=[],pure:=true,marks:=[]}
theorem fi224_eq:gS.fn 28=some fi28:=by kernel_rfl
theorem x28:gS.ext 28=none:=rfl
theorem p28:fi28.pure=true:=rfl
theorem k28 (fr:Fr)(st:St):callStep gS (EvF gS) 28 [] fr st=some (.ok (.val (.bool true)) fr st):=by
 have hc:EvF gS 28 [] ⟨[],0⟩=some (.ret (.bool true) none,⟨[],0⟩):=Evn.lim ⟨400,fun n hn=>by
  obtain ⟨m,rfl⟩:∃ m,n=m+400:=⟨n - 400,by omega⟩
  kernel_rfl⟩
 exact call_pure' rfl fi224_eq rfl rfl ⟨_,hc⟩ rfl
end
end Go.Proofs.Ytdoobejjedpcgaa
namespace Go.Ab
open Go
def gtI (n:Int):List Int→List Int→List Int
 | [],out=>out
 | x :: r,out=>gtI n r (if n<x then out ++ [x] else out)
theorem gtI_eq (n:Int):∀ (l out:List Int),gtI n l out=out ++ l.filter fun x=>decide (n<x)
 | [],out=>by simp [gtI]
 | x :: r,out=>by
  unfold gtI
  rw [gtI_eq n r,List.filter_cons]
  split <;> simp_all
def putI (l:List Int)(n:Int):List Int:=if hasI l n then l else gtI n l (l.take (posI l n) ++ [n])
theorem above_filter {n:Int}:∀ {l:List Int},(∀ x∈l,n<x)→(l.filter fun x=>decide (n<x))=l
 | [],_=>rfl
 | x :: r,h=>by
  rw [List.filter_cons,if_pos (by simpa using h x (by simp)),above_filter fun y hy=>h y (by simp [hy])]
theorem putI_eq:∀ {l:List Int} {n:Int},rising l→putI l n=layI l n
 | [],n,_=>by simp [putI,hasI,gtI,posI,layI]
 | y :: r,n,h=>by
  unfold rising at h
  rw [List.pairwise_cons] at h
  have ih:=putI_eq (l:=r) (n:=n) h.2
  unfold putI at ih ⊢
  rw [gtI_eq] at ih ⊢
  unfold layI
  by_cases hy:y<n
  ·have hp:posI (y :: r) n=posI r n+1:=by unfold posI;rw [List.takeWhile_cons];simp [hy]
   rw [if_pos hy,hp,← ih]
   have hh:hasI (y :: r) n=hasI r n:=by
    show (if y=n then true else hasI r n)=_
    rw [if_neg (by omega)]
   have hf:(y :: r).filter (fun x=>decide (n<x))=r.filter fun x=>decide (n<x):=by
    rw [List.filter_cons,if_neg (by simp;omega)]
   rw [hh,hf]
   cases hasI r n <;> simp
  ·rw [if_neg hy]
   by_cases he:y=n
   ·subst he
    rw [if_pos rfl,if_pos (by show (if y=y then true else hasI r y)=true;rw [if_pos rfl])]
   ·rw [if_neg he]
    have hp:posI (y :: r) n=0:=by unfold posI;rw [List.takeWhile_cons];simp [hy]
    have hab:∀ x∈y :: r,n<x:=fun x hx=>by
     rcases List.mem_cons.1 hx with rfl | hx
     ·omega
     ·have:=h.1 x hx;omega
    have hn:hasI (y :: r) n=false:=by
     cases hh:hasI (y :: r) n with
     | false=>rfl
     | true=>have:=hab n (hasI_iff.1 hh);omega
    rw [hn,if_neg (by simp),hp,above_filter hab]
    simp
def oE (l:List Int):E:=if l=[] then .own 0 [] else .val (.slice (intVs l))
theorem oE_or (l:List Int):(oE l=.own 0 []∧l=[])∨oE l=.val (.slice (intVs l)):=by
 unfold oE
 split
 ·rename_i h;exact .inl ⟨rfl,h⟩
 ·exact .inr rfl
theorem layI_ne (l:List Int)(n:Int):layI l n≠[]:=fun h=>by
 have:n∈layI l n:=layI_mem.2 (.inl rfl)
 rw [h] at this;simp at this
theorem oE_lay (l:List Int)(n:Int):oE (layI l n)=.val (.slice (intVs (layI l n))):=by unfold oE;rw [if_neg (layI_ne l n)]
end Go.Ab
