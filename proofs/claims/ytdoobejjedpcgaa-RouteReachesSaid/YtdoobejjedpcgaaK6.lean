/- Forwarded from any broker an event comes to each broker once at most, to each where a Sub takes it, and to none behind which there is no such one. Part 6. -/
import Derived.Test.YtdoobejjedpcgaaK5
set_option linter.unusedVariables false
set_option linter.unusedSimpArgs false
set_option linter.unnecessarySimpa false
set_option maxHeartbeats 8000000
set_option maxRecDepth 20000
open Int renaming not_le → zil, not_lt → zit, natCast_add → zia
open Nat renaming not_le → znl, not_lt → znt
open List renaming getElem?_eq_getElem → zge, getElem?_eq_some_iff → zgs, append_assoc → zaa, mem_of_getElem? → zmg, length_append → zla
namespace Go.Proofs.Ytdoobejjedpcgaa
open Go Go.Ab
noncomputable section
variable (fr:Fr)(st:St)(k:Kt)
def fi88:FI:={body:=codeOf Try.f88,ntmps:=23,results:=[.tmp 2],pers:=[0,2,3,4,5,6,7],locals:=[],pure:=true,marks:=[]}
theorem H88:fi88.marks=[]∧fi88.locals=[]∧fi88.results=[.tmp 2]:=⟨rfl,rfl,rfl⟩
theorem fi201_eq:gS.fn 88=some fi88:=by kernel_rfl
theorem st88 (a0:V):startFr fi88 [a0]={ps:=[(0,.val a0),(2,.any),(3,.any),(4,.any),(5,.any),(6,.any),(7,.any)],ts:=[],lc:=[]}:=rfl
def b88:Code:=mini (codeOf Try.f88)
def c88_20:Code:=.seq (codeN b88 9829) .ret
def c88_19:Code:=.cond (.tmp 18) c88_20 .skip
def c88_17:Code:=.seq (codeN b88 2661) c88_19
def c88_15:Code:=.seq (codeN b88 1125) c88_17
def c88_24:Code:=codeN b88 485
def c88_13:Code:=.seq (.block 1 c88_15) c88_24
def c88_9:Code:=.seq (.cond (.tmp 8) .skip (.exit 0)) c88_13
def c88_7:Code:=.seq (codeN b88 69) c88_9
def c88_6:Code:=.loop c88_7
def c88_5:Code:=.block 0 c88_6
def c88_3:Code:=.seq (codeN b88 9) c88_5
def c88_25:Code:=.seq (codeN b88 11) .ret
def c88_2:Code:=.seq c88_3 c88_25
def c88_0:Code:=.seq (codeN b88 2) c88_2
theorem E88:evK gS fi88 c88_20 fr st k=opsR gS fi88 [qA 2 false 4] fr st (.seq .ret k) ∧
 evK gS fi88 c88_19 fr st k=condK gS fi88 (fr.op (.tmp 18)).bool? c88_20 .skip fr st k ∧
 (evK gS fi88 c88_17 fr st k=opsR gS fi88 [mv 12 4 3,
 qB 13 .lss 3 12 0 3 4,
 mv 14 13 4,
 qm 15 4 3 2 false,
 qm 16 3 3 2 false,
 qb 17 .gtr 3 15 16 3 4 2 false,
 qQ 18 14 true 17 4] fr st (.seq c88_19 k)) ∧
 (evK gS fi88 c88_15 fr st k=opsR gS fi88 [mv 9 7 3,
 ixa 10 22 5 7 0,
 ld 11 3 10 3,
 asn 3 9 3,
 asn 4 11 3] fr st (.seq c88_17 k)) ∧
 (evK gS fi88 c88_24 fr st k=opsR gS fi88 [qB 19 .add 3 7 1 3 3,
 mv 7 19 3] fr st k) ∧
 evK gS fi88 c88_13 fr st k=evK gS fi88 c88_15 fr st (.blk 1 (.seq c88_24 k)) ∧
 evK gS fi88 c88_9 fr st k=condK gS fi88 (fr.op (.tmp 8)).bool? .skip (.exit 0) fr st (.seq c88_13 k) ∧
 evK gS fi88 c88_7 fr st k=opsR gS fi88 [bop 8 .lss 3 7 6 3 0] fr st (.seq c88_9 k) ∧
 evK gS fi88 c88_5 fr st k=evK gS fi88 c88_6 fr st (.blk 0 k) ∧
 (evK gS fi88 c88_3 fr st k=opsR gS fi88 [mv 5 0 22,
 len1 6 5 22 3,
 op1 7 (.move (.const (.int .i64 0))) 3] fr st (.seq c88_5 k)) ∧
 (evK gS fi88 c88_25 fr st k=opsR gS fi88 [mv 20 0 22,
 len1 21 20 22 3,
 qB 22 .leq 3 21 7 3 4,
 asn 2 22 4] fr st (.seq .ret k)) ∧
 evK gS fi88 c88_2 fr st k=evK gS fi88 c88_3 fr st (.seq c88_25 k) ∧
 evK gS fi88 c88_0 fr st k=opsR gS fi88 [qA 2 false 4] fr st (.seq c88_2 k):=⟨evK_rs 5 rfl (by kernel_rfl),rfl,evK_rs 4 rfl (by kernel_rfl),evK_rs 3 rfl (by kernel_rfl),evK_r 6 (by kernel_rfl),rfl,rfl,evK_rs 2 rfl (by kernel_rfl),rfl,evK_rs 1 rfl (by kernel_rfl),evK_rs 7 rfl (by kernel_rfl),rfl,evK_rs 0 rfl (by kernel_rfl)⟩
theorem m88:mini fi88.body=c88_0:=by kernel_rfl
theorem n88_6 (fr:Fr)(st:St)(k:Kt):nextK gS fi88 (.loop c88_7 k) .normal fr st=evK gS fi88 c88_6 fr st k:=rfl
theorem L88_6 (l:List Int)(h_l:l.length<4611686018427387904)(st:St):∀ (n i:Nat) (j:Int)  (e3 e4:E) (T:List (Nat × E)) (X:List (Nat × List V)) (ht3:e3.Tame) (ht4:e4.Tame) ,j=(i:Int)→i≤(l).length→(l).length - i=n →
  evK gS fi88 c88_6 {ps:=[(0,.val (.slice (intVs l))),(2,.val (.bool false)),(3,e3),(4,e4),(5,.val (.slice (intVs l))),(6,.val (.int .i64 l.length)),(7,.val (.int .i64 j))],ts:=T,lc:=X} st (.blk 0 (.seq c88_25 .nil))=some ((.ret (.bool (upT i (l.drop i) && decide ((l.length:Int)≤7))) none),st):=by
 intro n
 induction n with
 | zero =>
  intro i j  e3 e4 T X ht3 ht4  hj hi hn
  obtain rfl:i=(l).length:=by omega
  subst hj
  refine evK_loop c88_7 _ st _ _ rfl ?_
  simp (config:={contextual:=true,maxSteps:=10000000,maxDischargeDepth:=6}) [-zil,-zit,-znl,-znt,ty3,ty4,ty22,H88,E88,n88_6,ht3,ht4]
  all_goals try simp (config:={contextual:=true}) [-zil,-zit,-znl,-znt,upT_cons,upT]
  all_goals first | done | grind | omega
 | succ n ih =>
  intro i j  e3 e4 T X ht3 ht4  hj hi hn
  subst hj
  obtain ⟨x,hx⟩  := qgx (l:=(l)) (i:=i) (by omega)
  have hd:=drop_get hx
  have hlt:(i:Int)<((l).length:Int):=by omega
  have hlt2:i<(l).length:=by omega
  have hxe:(l)[i]'hlt2=x:=by rw [zge hlt2] at hx;exact Option.some.inj hx
  have hw:IntKind.wrap .i64 ((i:Int)+1)=(i:Int)+1:=wrap64 (by omega) (by omega)
  have IH:=fun e3 e4 T X ht3 ht4=>ih (i+1) ((i:Int)+1) e3 e4 T X ht3 ht4 rfl (by omega) (by omega)
  refine evK_loop c88_7 _ st _ _ rfl ?_
  simp (config:={contextual:=true,maxSteps:=10000000,maxDischargeDepth:=6}) [-zil,-zit,-znl,-znt,ty3,ty4,ty22,H88,E88,n88_6,ht3,ht4,hx,hxe,hd,hlt,hlt2,hw,IH]
  all_goals try simp (config:={contextual:=true}) [-zil,-zit,-znl,-znt,upT_cons,upT]
  all_goals first | done | grind | omega
theorem c88 (l:List Int)  (h_l:l.length<4611686018427387904) (st:St):EvF gS 88 [.slice (intVs l)] st=some (.ret (.bool (rightT l)) none,st):=by
 refine EvF_start fi201_eq (fun x h=>by cases h) m88 ?_
 rw [st88]
 simp (config:={contextual:=true,maxSteps:=10000000,maxDischargeDepth:=6}) [-zil,-zit,-znl,-znt,ty3,ty4,ty22,H88,E88,n88_6,(fun e3 e4 T X ht3 ht4=>L88_6 l h_l st _ 0 0  e3 e4 T X ht3 ht4 rfl (Nat.zero_le _) rfl),h_l]
 all_goals try simp (config:={contextual:=true}) [-zil,-zit,-znl,-znt,rightT]
 all_goals first | done | grind | omega
theorem k88 (l:List Int)  (h_l:l.length<4611686018427387904) (fr:Fr) (st:St):callStep gS (EvF gS) 88 [.slice (intVs l)] fr st=some (.ok (retE none (.bool (rightT l))) fr st) :=
 call_pure rfl fi201_eq rfl (fun st=>c88 l h_l st) (by simp)
def fi72:FI:={body:=codeOf Try.f72,ntmps:=17,results:=[.tmp 4],pers:=[0,1,4],locals:=[],pure:=true,marks:=[]}
theorem H72:fi72.marks=[]∧fi72.locals=[]∧fi72.results=[.tmp 4]:=⟨rfl,rfl,rfl⟩
theorem fi202_eq:gS.fn 72=some fi72:=by kernel_rfl
theorem st72 (a0 a1:V):startFr fi72 [a0,a1]={ps:=[(0,.val a0),(1,.val a1),(4,.any)],ts:=[],lc:=[]}:=rfl
def b72:Code:=mini (codeOf Try.f72)
def c72_2:Code:=.seq (codeN b72 5) .ret
theorem e72_2:evK gS fi72 c72_2 fr st k=opsR gS fi72 [mv 5 0 22,
 cal 6 88 [(.tmp 5)] [22] 4,
 mv 7 6 4,
 qm 8 1 3 2 true,
 qc 9 .geq 3 8 0 3 4 2 true,
 qP 10 7 9 false 4,
 mv 11 10 4,
 qm 12 1 3 6 true,
 qm 13 0 22 6 true,
 qe 14 13 22 3 6 true,
 qb 15 .leq 3 12 14 3 4 6 true,
 qP 16 11 15 false 4,
 asn 4 16 4] fr st (.seq .ret k):=evK_rs 1 rfl (by kernel_rfl)
def c72_0:Code:=.seq (codeN b72 2) c72_2
theorem e72_0:evK gS fi72 c72_0 fr st k=opsR gS fi72 [qA 4 false 4] fr st (.seq c72_2 k):=evK_rs 0 rfl (by kernel_rfl)
theorem m72:mini fi72.body=c72_0:=by kernel_rfl
theorem c72 (l:List Int)(b:Int)  (h_l:l.length<4611686018427387904) (st:St):EvF gS 72 [.slice (intVs l),.int .i64 b] st=some (.ret (.bool (isT l b)) none,st):=by
 refine EvF_start fi202_eq (fun x h=>by cases h) m72 ?_
 rw [st72]
 simp (config:={contextual:=true,maxSteps:=10000000,maxDischargeDepth:=6}) [-zil,-zit,-znl,-znt,ty3,ty4,ty22,H72,k88,e72_2,e72_0,h_l]
 all_goals try simp (config:={contextual:=true}) [-zil,-zit,-znl,-znt,isT]
 all_goals first | done | grind | omega
theorem k72 (l:List Int)(b:Int)  (h_l:l.length<4611686018427387904) (fr:Fr) (st:St):callStep gS (EvF gS) 72 [.slice (intVs l),.int .i64 b] fr st=some (.ok (retE none (.bool (isT l b))) fr st) :=
 call_pure rfl fi202_eq rfl (fun st=>c72 l b h_l st) (by simp)
def fi26:FI:={body:=codeOf Try.f26,ntmps:=23,results:=[.tmp 4],pers:=[0,1,4,5,6],locals:=[],pure:=false,marks:=[1000000]}
theorem H26:fi26.marks=[1000000]∧fi26.locals=[]∧fi26.results=[.tmp 4]:=⟨rfl,rfl,rfl⟩
theorem fi200_eq:gS.fn 26=some fi26:=by kernel_rfl
theorem st26 (a0 a1:V):startFr fi26 [a0,a1]={ps:=[(0,.val a0),(1,.val a1),(4,.any),(5,.any),(6,.any)],ts:=[],lc:=[]}:=rfl
def b26:Code:=mini (codeOf Try.f26)
def c26_12:Code:=.cond (.tmp 11) .skip (.exit 0)
def c26_10:Code:=.seq (codeN b26 267) c26_12
def c26_17:Code:=codeN b26 587
def c26_18:Code:=codeN b26 459
def c26_15:Code:=.seq (.block 1 c26_17) c26_18
def c26_9:Code:=.seq c26_10 c26_15
def c26_8:Code:=.loop c26_9
def c26_7:Code:=.block 0 c26_8
def c26_5:Code:=.seq (codeN b26 19) c26_7
def c26_19:Code:=.seq (codeN b26 23) .ret
def c26_4:Code:=.seq c26_5 c26_19
def c26_2:Code:=.seq (codeN b26 5) c26_4
def c26_0:Code:=.seq (codeN b26 2) c26_2
theorem E26:evK gS fi26 c26_12 fr st k=condK gS fi26 (fr.op (.tmp 11)).bool? .skip (.exit 0) fr st k ∧
 (evK gS fi26 c26_10 fr st k=opsR gS fi26 [mv 10 6 3,
 qB 11 .gtr 3 10 0 3 4] fr st (.seq c26_12 k)) ∧
 (evK gS fi26 c26_17 fr st k=opsR gS fi26 [mv 14 5 22,
 mv 15 0 23,
 mv 16 5 22,
 len1 17 16 22 3,
 qB 18 .add 3 17 1 3 3,
 cal 19 11 [(.tmp 15),(.tmp 18)] [23,3] 3,
 qS 20 22 19 22,
 qE 21 14 20 22 22,
 asn 5 21 22] fr st k) ∧
 (evK gS fi26 c26_18 fr st k=opsR gS fi26 [mv 12 6 3,
 qB 13 .sub 3 12 1 3 3,
 asn 6 13 3] fr st k) ∧
 evK gS fi26 c26_15 fr st k=evK gS fi26 c26_17 fr st (.blk 1 (.seq c26_18 k)) ∧
 evK gS fi26 c26_9 fr st k=evK gS fi26 c26_10 fr st (.seq c26_15 k) ∧
 evK gS fi26 c26_7 fr st k=evK gS fi26 c26_8 fr st (.blk 0 k) ∧
 (evK gS fi26 c26_5 fr st k=opsR gS fi26 [mv 7 0 23,
 mv 8 1 3,
 cal 9 11 [(.tmp 7),(.tmp 8)] [23,3] 3,
 asn 6 9 3] fr st (.seq c26_7 k)) ∧
 (evK gS fi26 c26_19 fr st k=opsR gS fi26 [mv 22 5 22,
 asn 4 22 22] fr st (.seq .ret k)) ∧
 evK gS fi26 c26_4 fr st k=evK gS fi26 c26_5 fr st (.seq c26_19 k) ∧
 evK gS fi26 c26_2 fr st k=opsR gS fi26 [qN 5 22] fr st (.seq c26_4 k) ∧
 evK gS fi26 c26_0 fr st k=opsR gS fi26 [qN 4 22] fr st (.seq c26_2 k):=⟨rfl,evK_rs 3 rfl (by kernel_rfl),evK_r 5 (by kernel_rfl),evK_r 4 (by kernel_rfl),rfl,rfl,rfl,evK_rs 2 rfl (by kernel_rfl),evK_rs 6 rfl (by kernel_rfl),rfl,evK_rs 1 rfl (by kernel_rfl),evK_rs 0 rfl (by kernel_rfl)⟩
theorem m26:mini fi26.body=c26_0:=by kernel_rfl
theorem n26_8 (fr:Fr)(st:St)(k:Kt):nextK gS fi26 (.loop c26_9 k) .normal fr st=evK gS fi26 c26_8 fr st k:=rfl
theorem L26 (l:List Int)(a id:Nat)(ha:a<549755813888)(st:St)(h:FeedOk st id)(most:Int):∀ (n j:Nat) (acc:List Int) (T:List (Nat × E)) (X:List (Nat × List V)),acc.length+n≤8→j+n<549755812000 →
  evK gS fi26 c26_8 {ps:=[(0,.val (.ptr id 0)),(1,.val (.int .i64 most)),(4,.own 0 []),(5,.own (kof 1 acc) (intVs acc)),(6,.val (.int .i64 (n:Nat)))],ts:=T,lc:=X} (setF st id l (nA l a j)) (.blk 0 (.seq c26_19 .nil))=some (.ret (.slice (intVs (treeG l a n j acc))) none,setF st id l (nA l a (j+n))):=by
 intro n
 have hz:=fun xs st=>frz_slice (xs:=intVs xs) (flats_ints xs) st
 induction n with
 | zero =>
  intro j acc T X ha2 hj
  rw [show treeG l a 0 j acc=acc from rfl,Nat.add_zero]
  refine evK_loop c26_9 _ _ _ _ rfl ?_
  rcases kof_or 1 acc with ⟨hk,rfl⟩ | hk
  ·have en:intVs []=[]:=rfl
   have hz0:=hz []
   rw [en] at hz0
   rw [hk,en]
   simp [hz0,en,-zil,-zit,-znl,-znt,ty3,ty4,ty22,ty23,H26,E26,n26_8]
  ·rw [hk]
   simp [hz,-zil,-zit,-znl,-znt,ty3,ty4,ty22,ty23,H26,E26,n26_8]
 | succ n ih =>
  intro j acc T X ha2 hj
  rw [treeG_succ]
  have hb:=fd_bound l a j (n:=(acc.length:Int)+1) (by omega)
  have hw:IntKind.wrap .i64 (((n+1:Nat):Int) - 1)=(n:Int):=by rw [wrap64 (by omega) (by omega)];omega
  have hw2:IntKind.wrap .i64 ((acc.length:Int)+1)=(acc.length:Int)+1:=wrap64 (by omega) (by omega)
  have hpos:(0:Int)<((n+1:Nat):Int):=by omega
  have kk:=fun fr=>k11 l a j id ((acc.length:Int)+1) fr st h ha (by omega) (by omega)
  generalize fd l a j ((acc.length:Int)+1)=x at *
  have IH:=fun T X=>ih (j+1) (acc ++ [x]) T X (by simp;omega) (by omega)
  rw [kof_snoc,show j+1+n=j+(n+1) from by omega] at IH
  have hs1:=sizes_ints acc
  have hs2:=ints_snoc acc x
  have b1:(acc.length+1)*8≤140737488355328:=by omega
  have b2:acc.length+1≤140737488355328:=by omega
  refine evK_loop c26_9 _ _ _ _ rfl ?_
  rcases kof_or 1 acc with ⟨hk,rfl⟩ | hk
  ·have en:intVs []=[]:=rfl
   have en1:intVs ([] ++ [x])=[.int .i64 x]:=rfl
   rw [en1] at IH
   rw [hk,en]
   simp only [List.length_nil,show ((0:Nat):Int)+1=1 from rfl] at kk hw2
   have w1:IntKind.wrap .i64 1=1:=wrap64 (by omega) (by omega)
   simp [-zia,hpos,hw,w1,kk,IH,-zil,-zit,-znl,-znt,ty3,ty4,ty22,ty23,H26,E26,n26_8]
  ·rw [hk]
   simp [-zia,-zaa,hpos,hw,hw2,kk,hs1,hs2,b1,b2,IH,-zil,-zit,-znl,-znt,ty3,ty4,ty22,ty23,H26,E26,n26_8]
theorem c26 (l:List Int)(a j id:Nat)(most:Int)(st:St)(h:FeedOk st id)(ha:a<549755813888)(hj:j<549755811000)(hm1:1≤most)(hm2:most≤8) :
  EvF gS 26 [.ptr id 0,.int .i64 most] (setF st id l (nA l a j))=some (.ret (.slice (intVs (treeV l a j most))) none,setF st id l (nA l a (j+1+(fd l a j most).toNat))):=by
 refine EvF_start fi200_eq (fun x h=>by cases h) m26 ?_
 rw [st26]
 have hb:=fd_bound l a j (n:=most) hm1
 have kk:=fun fr=>k11 l a j id most fr st h ha (by omega) (by omega)
 unfold treeV
 obtain ⟨n,hn⟩:∃ n:Nat,fd l a j most=n:=⟨_,(Int.toNat_of_nonneg hb.1).symm⟩
 rw [hn] at kk hb ⊢
 simp only [Int.toNat_natCast]
 have LL:=fun T X=>L26 l a id ha st h most n (j+1) [] T X (by simp;omega) (by omega)
 rw [show kof 1 ([]:List Int)=0 from rfl,show intVs []=[] from rfl] at LL
 simp [-zia,kk,LL,-zil,-zit,-znl,-znt,ty3,ty4,ty22,ty23,H26,E26,n26_8]
theorem k26 (l:List Int)(a j id:Nat)(most:Int)(fr:Fr)(st:St)(h:FeedOk st id)(ha:a<549755813888)(hj:j<549755811000)(hm1:1≤most)(hm2:most≤8) :
  callStep gS (EvF gS) 26 [.ptr id 0,.int .i64 most] fr (setF st id l (nA l a j))=some (.ok (.val (.slice (intVs (treeV l a j most)))) (fr.map E.noMem) (setF st id l (nA l a (j+1+(fd l a j most).toNat)))):=by
 unfold callStep
 simp only [show gS.ext 26=none from rfl,fi200_eq,show fi26.pure=false from rfl,Bool.false_eq_true,if_false,c26 l a j id most st h ha hj hm1 hm2,retE]
end
end Go.Proofs.Ytdoobejjedpcgaa
namespace Go.Ab
open Go
def apS (S:St)(id:Nat)(cs:List V):St:={objs:=S.objs.set id [] ++ [cs],wp:=S.wp}
theorem apS_len (S:St)(id:Nat)(cs:List V):(apS S id cs).objs.length=S.objs.length+1:=by simp [apS]
theorem apS_wp (S:St)(id:Nat)(cs:List V):(apS S id cs).wp=S.wp:=rfl
theorem apS_new (S:St)(id:Nat)(cs:List V):St.obj (apS S id cs) S.objs.length=some cs:=by simp [apS,St.obj]
theorem apS_old (S:St)(id:Nat)(cs:List V) {i:Nat} (h:i≠id)(hi:i<S.objs.length):St.obj (apS S id cs) i=St.obj S i:=by
 simp only [apS,St.obj]
 rw [List.getElem?_append_left (by simpa using hi),List.getElem?_set_ne (Ne.symm h)]
theorem set_some {S:St} {id:Nat} (h:S.wp≤id)(cs:List V):St.set S id cs=some {objs:=S.objs.set id cs,wp:=S.wp}:=by unfold St.set;rw [if_pos h]
theorem newRef_ap (S:St)(id:Nat)(fr:Fr)(k len:Nat)(cs:List V):newRef fr {objs:=S.objs.set id [],wp:=S.wp} k len cs=.ok (.val (.sref false k S.objs.length 0 len)) fr (apS S id cs):=by
 simp [newRef,apS]
theorem newRef_nw (S:St)(fr:Fr)(k len:Nat)(cs:List V):newRef fr S k len cs=.ok (.val (.sref false k S.objs.length 0 len)) fr (nw S 0 cs):=by
 simp [newRef,nw]
theorem nw_obj0 (S:St)(cs:List V):St.obj (nw S 0 cs) S.objs.length=some cs:=by simp [nw,St.obj]
theorem nw_old (S:St)(cs:List V) {i:Nat} (hi:i<S.objs.length):St.obj (nw S 0 cs) i=St.obj S i:=by
 simp only [nw,St.obj]
 rw [List.getElem?_append_left hi]
def apAll:List Int→St→Nat→List Int→St × Nat
 | [],S,id,_=>(S,id)
 | x :: r,S,id,acc=>apAll r (apS S id (intVs (acc ++ [x]))) S.objs.length (acc ++ [x])
theorem apAll_facts:∀ (r:List Int)(S:St)(id:Nat)(acc:List Int),S.wp≤id→id<S.objs.length→St.obj S id=some (intVs acc) →
  St.obj (apAll r S id acc).1 (apAll r S id acc).2=some (intVs (acc ++ r))∧(apAll r S id acc).1.wp=S.wp∧S.wp≤(apAll r S id acc).2∧(apAll r S id acc).2<(apAll r S id acc).1.objs.length∧S.objs.length≤(apAll r S id acc).1.objs.length ∧
   id≤(apAll r S id acc).2∧∀ i,i≠id→i<S.objs.length→St.obj (apAll r S id acc).1 i=St.obj S i
 | [],S,id,acc,h1,h2,h3=>by rw [List.append_nil];exact ⟨h3,rfl,h1,h2,Nat.le_refl _,Nat.le_refl _,fun _ _ _=>rfl⟩
 | x :: r,S,id,acc,h1,h2,h3=>by
  obtain ⟨a1,a2,a3,a4,a5,a6,a7⟩:=apAll_facts r (apS S id (intVs (acc ++ [x]))) S.objs.length (acc ++ [x]) (by rw [apS_wp];omega) (by rw [apS_len];omega) (apS_new _ _ _)
  rw [apS_wp] at a2 a3
  rw [apS_len] at a5 a7
  simp only [apAll]
  rw [zaa,List.singleton_append] at a1
  exact ⟨a1,a2,a3,a4,by omega,by omega,fun i hi hl=>by rw [a7 i (by omega) (by omega),apS_old _ _ _ hi hl]⟩
def trimN (A B:List Int):Nat→Nat→Nat→Nat × Nat
 | 0,a,b=>(a,b)
 | k+1,a,b=>if 1<a∧1<b∧A[a - 2]?=B[b - 2]? then trimN A B k (a - 1) (b - 1) else (a,b)
theorem trimN_le (A B:List Int):∀ (k a b:Nat),0<a→0<b→(trimN A B k a b).1≤a∧(trimN A B k a b).2≤b∧0<(trimN A B k a b).1∧0<(trimN A B k a b).2
 | 0,a,b,h1,h2=>⟨Nat.le_refl _,Nat.le_refl _,h1,h2⟩
 | k+1,a,b,h1,h2=>by
  unfold trimN
  split
  ·have:=trimN_le A B k (a - 1) (b - 1) (by omega) (by omega)
   omega
  ·exact ⟨Nat.le_refl _,Nat.le_refl _,h1,h2⟩
def joinT (A B:List Int):List Int:=A.take (trimN A B 100 A.length B.length).1 ++ (B.take ((trimN A B 100 A.length B.length).2 - 1)).reverse
def pathT (p:List Int)(a b:Nat):List Int:=joinT (upP p a) (upP p b)
def distT (p:List Int)(a b:Int):Int:=if isT p a && isT p b then ((pathT p a.toNat b.toNat).length:Int) - 1 else -1
theorem upP_len (p:List Int)(b:Nat):0<(upP p b).length∧(upP p b).length≤b+1:=by
 have:=upF_len p b b
 simp only [upP,List.length_cons];omega
theorem joinT_len (A B:List Int)(h1:0<A.length)(h2:0<B.length):0<(joinT A B).length∧(joinT A B).length≤A.length+B.length:=by
 have:=trimN_le A B 100 A.length B.length h1 h2
 simp only [joinT,zla,List.length_take,List.length_reverse]
 omega
theorem distT_range (p:List Int)(a b:Int):-1≤distT p a b∧distT p a b≤20:=by
 unfold distT
 split
 ·rename_i h
  simp only [isT,rightT,Bool.and_eq_true,decide_eq_true_eq] at h
  have h1:=upP_len p a.toNat
  have h2:=upP_len p b.toNat
  have h3:=joinT_len (upP p a.toNat) (upP p b.toNat) h1.1 h2.1
  unfold pathT
  omega
 ·omega
theorem frz_ref {S:St} {id len:Nat} {l:List Int} (h:St.obj S id=some (intVs l))(hw:S.wp≤id)(h0:0<len)(hl:len≤l.length) :
  frz 6 S (.sref false 1 id 0 len)=some (.slice (intVs (l.take len)),{objs:=S.objs.set id [],wp:=S.wp}):=by
 have hstrip:∀ l:List Int,(intVs l).map V.strip1=intVs l:=fun l=>by simp only [intVs,List.map_map];rfl
 have hone:∀ l:List Int,(intVs l).all V.one=true:=fun l=>by simp [intVs,V.one]
 have hch:∀ (l:List Int),chunk false 1 l.length (intVs l)=intVs l:=by
  intro l
  induction l with
  | nil=>rfl
  | cons x r ih=>simp only [intVs,List.map_cons,List.length_cons,chunk,elemV] at ih ⊢;simp [ih]
 have hfl:∀ (n:Nat) (S:St) (l:List Int),frzL (frz n) S (intVs l)=some (intVs l,S):=fun n S l=>frzL_flat n S _ (flats_ints l)
 unfold frz
 simp only [h,set_some hw,Nat.mul_one,List.drop_zero,ints_take,hstrip,hfl,hone]
 rw [if_neg (by omega),if_pos (by constructor <;> simp;omega)]
 have hll:(l.take len).length=len:=by simp;omega
 have:=hch (l.take len)
 rw [hll] at this
 have hb:Nat.blt 1 1=false:=rfl
 rw [if_pos (by constructor <;> simp;omega),hb,this]
def upS (p:List Int)(b:Nat)(S:St):St × Nat:=apAll (upF p b b) (nw S 0 (intVs [(b:Int)])) S.objs.length [(b:Int)]
theorem upS_facts (p:List Int)(b:Nat)(S:St)(h:S.wp≤S.objs.length):St.obj (upS p b S).1 (upS p b S).2=some (intVs (upP p b))∧(upS p b S).1.wp=S.wp∧S.wp≤(upS p b S).2∧(upS p b S).2<(upS p b S).1.objs.length∧S.objs.length≤(upS p b S).2 ∧
  ∀ i,i<S.objs.length→St.obj (upS p b S).1 i=St.obj S i:=by
 have hl:(nw S 0 (intVs [(b:Int)])).objs.length=S.objs.length+1:=by simp [nw]
 obtain ⟨a1,a2,a3,a4,a5,a6,a7⟩:=apAll_facts (upF p b b) (nw S 0 (intVs [(b:Int)])) S.objs.length [(b:Int)] h (by rw [hl];omega) (nw_obj0 _ _)
 exact ⟨a1,a2,a3,a4,a6,fun i hi=>(a7 i (by omega) (by omega)).trans (nw_old _ _ hi)⟩
def finS (r:List Int)(S:St)(id:Nat)(acc:List Int):St:={objs:=(apAll r S id acc).1.objs.set (apAll r S id acc).2 [],wp:=(apAll r S id acc).1.wp}
theorem ints_strip (l:List Int):(intVs l).map V.strip1=intVs l:=by simp only [intVs,List.map_map];rfl
theorem ints_one (l:List Int):(intVs l).all V.one=true:=by simp [intVs,V.one]
end Go.Ab
namespace Go.Proofs.Ytdoobejjedpcgaa
open Go Go.Ab
noncomputable section
variable (fr:Fr)(st:St)(k:Kt)
def fi101:FI:={body:=codeOf Try.f101,ntmps:=20,results:=[.tmp 4],pers:=[0,1,4,5],locals:=[],pure:=false,marks:=[7,18]}
theorem H101:fi101.marks=[7,18]∧fi101.locals=[]∧fi101.results=[.tmp 4]:=⟨rfl,rfl,rfl⟩
theorem fi203_eq:gS.fn 101=some fi101:=by kernel_rfl
theorem st101 (a0 a1:V):startFr fi101 [a0,a1]={ps:=[(0,.val a0),(1,.val a1),(4,.any),(5,.any)],ts:=[],lc:=[]}:=rfl
def b101:Code:=mini (codeOf Try.f101)
def c101_10:Code:=.cond (.tmp 9) .skip (.exit 0)
def c101_8:Code:=.seq (codeN b101 131) c101_10
def c101_16:Code:=codeN b101 419
def c101_14:Code:=.seq (codeN b101 291) c101_16
def c101_13:Code:=.block 1 c101_14
def c101_7:Code:=.seq c101_8 c101_13
def c101_6:Code:=.loop c101_7
def c101_17:Code:=.seq (codeN b101 23) .ret
def c101_4:Code:=.seq (.block 0 c101_6) c101_17
def c101_2:Code:=.seq (codeN b101 5) c101_4
def c101_0:Code:=.seq (codeN b101 2) c101_2
theorem E101:evK gS fi101 c101_10 fr st k=condK gS fi101 (fr.op (.tmp 9)).bool? .skip (.exit 0) fr st k ∧
 (evK gS fi101 c101_8 fr st k=opsR gS fi101 [mv 8 1 3,
 qB 9 .gtr 3 8 0 3 4] fr st (.seq c101_10 k)) ∧
 (evK gS fi101 c101_16 fr st k=opsR gS fi101 [mv 15 5 22,
 mv 16 1 3,
 qS 17 22 16 22,
 qE 18 15 17 22 22,
 asn 5 18 22] fr st k) ∧
 (evK gS fi101 c101_14 fr st k=opsR gS fi101 [mv 10 0 22,
 mv 11 1 3,
 qB 12 .sub 3 11 1 3 3,
 ixa 13 22 10 12 0,
 ld 14 3 13 3,
 asn 1 14 3] fr st (.seq c101_16 k)) ∧
 evK gS fi101 c101_13 fr st k=evK gS fi101 c101_14 fr st (.blk 1 k) ∧
 evK gS fi101 c101_7 fr st k=evK gS fi101 c101_8 fr st (.seq c101_13 k) ∧
 (evK gS fi101 c101_17 fr st k=opsR gS fi101 [mv 19 5 22,
 asn 4 19 22] fr st (.seq .ret k)) ∧
 evK gS fi101 c101_4 fr st k=evK gS fi101 c101_6 fr st (.blk 0 (.seq c101_17 k)) ∧
 (evK gS fi101 c101_2 fr st k=opsR gS fi101 [mv 6 1 3,
 qS 7 22 6 22,
 asn 5 7 22] fr st (.seq c101_4 k)) ∧
 evK gS fi101 c101_0 fr st k=opsR gS fi101 [qN 4 22] fr st (.seq c101_2 k):=⟨rfl,evK_rs 2 rfl (by kernel_rfl),evK_r 4 (by kernel_rfl),evK_rs 3 rfl (by kernel_rfl),rfl,rfl,evK_rs 5 rfl (by kernel_rfl),rfl,evK_rs 1 rfl (by kernel_rfl),evK_rs 0 rfl (by kernel_rfl)⟩
theorem m101:mini fi101.body=c101_0:=by kernel_rfl
theorem n101_6 (fr:Fr)(st:St)(k:Kt):nextK gS fi101 (.loop c101_7 k) .normal fr st=evK gS fi101 c101_6 fr st k:=rfl
theorem L101 (p:List Int)(hp:upT 0 p=true)(hl7:p.length≤7):∀ (k b:Nat) (acc:List Int) (S:St) (id:Nat) (T:List (Nat × E)) (X:List (Nat × List V)),b≤k→b≤p.length→acc.length+k≤100→0<acc.length→S.wp≤id→id<S.objs.length→St.obj S id=some (intVs acc) →
  evK gS fi101 c101_6 {ps:=[(0,.val (.slice (intVs p))),(1,.val (.int .i64 (b:Nat))),(4,.own 0 []),(5,.val (.sref false 1 id 0 acc.length))],ts:=T,lc:=X} S (.blk 0 (.seq c101_17 .nil))=some (.ret (.sref false 1 (apAll (upF p k b) S id acc).2 0 (acc ++ upF p k b).length) none,(apAll (upF p k b) S id acc).1):=by
 intro k
 have hend:∀ (acc:List Int) (S:St) (id:Nat) (T:List (Nat × E)) (X:List (Nat × List V)),evK gS fi101 c101_6 {ps:=[(0,.val (.slice (intVs p))),(1,.val (.int .i64 0)),(4,.own 0 []),(5,.val (.sref false 1 id 0 acc.length))],ts:=T,lc:=X} S (.blk 0 (.seq c101_17 .nil))=some (.ret (.sref false 1 id 0 acc.length) none,S):=by
  intro acc S id T X
  refine evK_loop c101_7 _ _ _ _ rfl ?_
  simp [-zil,-zit,-znl,-znt,ty3,ty4,ty22,H101,E101,n101_6]
 induction k with
 | zero =>
  intro b acc S id T X hb hb2 ha h0 hw hi ho
  obtain rfl:b=0:=by omega
  rw [upF_zero,List.append_nil]
  exact hend acc S id T X
 | succ k ih =>
  intro b acc S id T X hb hb2 ha h0 hwp hi ho
  cases b with
  | zero=>rw [upF_zero,List.append_nil];exact hend acc S id T X
  | succ b =>
   obtain ⟨x,hx⟩  := qgx (l:=p) (i:=b) (by omega)
   obtain ⟨hlt2,hxe⟩:=List.getElem?_eq_some_iff.1 hx
   obtain ⟨h1,h2⟩:=upT_get p 0 b x hp hx
   obtain ⟨y,rfl⟩:∃ y:Nat,x=(y:Int):=⟨x.toNat,by omega⟩
   rw [upF_succ p k b _ hx]
   have IH:=fun T X=>ih y (acc ++ [(y:Int)]) (apS S id (intVs (acc ++ [(y:Int)]))) S.objs.length T X (by omega) (by omega) (by simp;omega) (by simp) (by rw [apS_wp];omega) (by rw [apS_len];omega) (apS_new _ _ _)
   simp only [Int.toNat_natCast]
   rw [show apAll ((y:Int) :: upF p k y) S id acc=apAll (upF p k y) (apS S id (intVs (acc ++ [(y:Int)]))) S.objs.length (acc ++ [(y:Int)]) from rfl,List.append_cons acc (y:Int) (upF p k y)]
   rw [show (acc ++ [(y:Int)]).length=acc.length+1 from by simp] at IH
   generalize apAll (upF p k y) (apS S id (intVs (acc ++ [(y:Int)]))) S.objs.length (acc ++ [(y:Int)])=Q at IH ⊢
   generalize (acc ++ [(y:Int)] ++ upF p k y).length=L at IH ⊢
   have hw:IntKind.wrap .i64 (((b+1:Nat):Int) - 1)=(b:Int):=by rw [wrap64 (by omega) (by omega)];omega
   have hpos:(0:Int)<((b+1:Nat):Int):=by omega
   have hs1:=ints_strip acc
   have hs2:=ints_one acc
   have hs3:=ints_snoc acc (y:Int)
   have hs4:=set_some hwp []
   have hs5:=newRef_ap S id
   have b1:(acc.length+1)*8≤140737488355328:=by omega
   have b2:acc.length+1≤140737488355328:=by omega
   have b3:¬ acc.length=0:=by omega
   refine evK_loop c101_7 _ _ _ _ rfl ?_
   simp [-St.obj,-St.set,-zia,-zaa,hw,hpos,hx,hxe,hlt2,ho,h0,hs1,hs2,hs3,hs4,hs5,b1,b2,b3,IH,markStep,markAppend,elemsAt,-zil,-zit,-znl,-znt,ty3,ty4,ty22,H101,E101,n101_6]
theorem c101 (p:List Int)(hp:upT 0 p=true)(hl7:p.length≤7)(b:Nat)(hb:b≤p.length)(S:St)(hS:S.wp≤S.objs.length):EvF gS 101 [.slice (intVs p),.int .i64 (b:Nat)] S=some (.ret (.sref false 1 (upS p b S).2 0 (upP p b).length) none,(upS p b S).1):=by
 refine EvF_start fi203_eq (fun x h=>by cases h) m101 ?_
 rw [st101]
 have LL:=fun T X=>L101 p hp hl7 b b [(b:Int)] (nw S 0 (intVs [(b:Int)])) S.objs.length T X (Nat.le_refl _) hb (by simp;omega) (by simp) hS (by simp [nw]) (nw_obj0 _ _)
 rw [show apAll (upF p b b) (nw S 0 (intVs [(b:Int)])) S.objs.length [(b:Int)]=upS p b S from rfl,show [(b:Int)] ++ upF p b b=upP p b from rfl,show [(b:Int)].length=1 from rfl,show intVs [(b:Int)]=[.int .i64 (b:Int)] from rfl] at LL
 have hn:=newRef_nw S
 simp [-St.obj,-St.set,-zia,LL,hn,markStep,-zil,-zit,-znl,-znt,ty3,ty4,ty22,H101,E101,n101_6]
theorem k101 (p:List Int)(hp:upT 0 p=true)(hl7:p.length≤7)(b:Nat)(hb:b≤p.length)(fr:Fr)(S:St)(hS:S.wp≤S.objs.length):callStep gS (EvF gS) 101 [.slice (intVs p),.int .i64 (b:Nat)] fr S=some (.ok (.val (.sref false 1 (upS p b S).2 0 (upP p b).length)) (fr.map E.noMem) (upS p b S).1):=by
 unfold callStep
 simp only [show gS.ext 101=none from rfl,fi203_eq,show fi101.pure=false from rfl,Bool.false_eq_true,if_false,c101 p hp hl7 b hb S hS,retE]
def fi79:FI:={body:=codeOf Try.f79,ntmps:=64,results:=[.tmp 6],pers:=[0,1,2,6,7,8,9],locals:=[],pure:=true,marks:=[62,1000000]}
theorem H79:fi79.marks=[62,1000000]∧fi79.locals=[]∧fi79.results=[.tmp 6]:=⟨rfl,rfl,rfl⟩
theorem fi204_eq:gS.fn 79=some fi79:=by kernel_rfl
theorem st79 (a0 a1 a2:V):startFr fi79 [a0,a1,a2]={ps:=[(0,.val a0),(1,.val a1),(2,.val a2),(6,.any),(7,.any),(8,.any),(9,.any)],ts:=[],lc:=[]}:=rfl
def b79:Code:=mini (codeOf Try.f79)
def r79_9:Array Oper:=regOps (codeN (codeOf Try.f79) 131)
def c79_9:Code:=.region 2 r79_9 true
def q79_9:List (Oper × Fl):=[(mv 16 7 22,qz0),
 (len1 17 16 22 3,qz6),
 (qB 18 .gtr 3 17 1 3 4,qz6),
 (mv 19 18 4,qz6),
 (qm 20 8 22 3 true,qz0),
 (qe 21 20 22 3 3 true,qz6),
 (qc 22 .gtr 3 21 1 3 4 3 true,qz6),
 (qP 23 19 22 false 4,qz6),
 (mv 24 23 4,qz6),
 (qm 25 7 22 8 true,qz0),
 (qm 26 7 22 8 true,qz0),
 (qe 27 26 22 3 8 true,qz0),
 (qc 28 .sub 3 27 2 3 3 8 true,qz0),
 (qi 29 22 25 28 0 8 true,qz0),
 (ql 30 3 29 3 8 true,qz0),
 (qm 31 8 22 8 true,qz0),
 (qm 32 8 22 8 true,qz0),
 (qe 33 32 22 3 8 true,qz0),
 (qc 34 .sub 3 33 2 3 3 8 true,qz1),
 (qi 35 22 31 34 0 8 true,qz1),
 (ql 36 3 35 3 8 true,qz1),
 (qb 37 .eql 3 30 36 3 4 8 true,qz1),
 (qP 38 24 37 false 4,qz1)]
def c79_10:Code:=.cond (.tmp 38) .skip (.exit 0)
def c79_8:Code:=.seq c79_9 c79_10
def r79_14:Array Oper:=regOps (codeN (codeOf Try.f79) 163)
def c79_14:Code:=.region 3 r79_14 true
def q79_14:List (Oper × Fl):=[(mv 39 7 22,qz0),
 (mv 40 7 22,qz0),
 (len1 41 40 22 3,qz0),
 (qB 42 .sub 3 41 1 3 3,qz0),
 (op1 43 (.slice 22 (.tmp 39) none (some (.tmp 42)) none) 22,qz0),
 (mv 44 8 22,qz0),
 (mv 45 8 22,qz0),
 (len1 46 45 22 3,qz0),
 (qB 47 .sub 3 46 1 3 3,qz0),
 (op1 48 (.slice 22 (.tmp 44) none (some (.tmp 47)) none) 22,qz0),
 (asn 7 43 22,qz1),
 (asn 8 48 22,qz6)]
def c79_13:Code:=.block 1 c79_14
def c79_7:Code:=.seq c79_8 c79_13
def c79_6:Code:=.loop c79_7
def c79_23:Code:=.cond (.tmp 53) .skip (.exit 2)
def c79_21:Code:=.seq (codeN b79 535) c79_23
def c79_28:Code:=codeN b79 1175
def c79_29:Code:=codeN b79 919
def c79_26:Code:=.seq (.block 3 c79_28) c79_29
def c79_20:Code:=.seq c79_21 c79_26
def c79_19:Code:=.loop c79_20
def c79_18:Code:=.block 2 c79_19
def c79_16:Code:=.seq (codeN b79 39) c79_18
def c79_30:Code:=.seq (codeN b79 47) .ret
def c79_15:Code:=.seq c79_16 c79_30
theorem e79_15:evK gS fi79 c79_15 fr st k=evK gS fi79 c79_16 fr st (.seq c79_30 k):=rfl
def c79_4:Code:=.seq (.block 0 c79_6) c79_15
def c79_2:Code:=.seq (codeN b79 5) c79_4
def c79_0:Code:=.seq (codeN b79 2) c79_2
theorem E79:evK gS fi79 c79_9 fr st k=drwR gS fi79 r79_9 q79_9 fr st k ∧
 evK gS fi79 c79_10 fr st k=condK gS fi79 (fr.op (.tmp 38)).bool? .skip (.exit 0) fr st k ∧
 evK gS fi79 c79_8 fr st k=evK gS fi79 c79_9 fr st (.seq c79_10 k) ∧
 evK gS fi79 c79_14 fr st k=drwR gS fi79 r79_14 q79_14 fr st k ∧
 evK gS fi79 c79_13 fr st k=evK gS fi79 c79_14 fr st (.blk 1 k) ∧
 evK gS fi79 c79_7 fr st k=evK gS fi79 c79_8 fr st (.seq c79_13 k) ∧
 evK gS fi79 c79_23 fr st k=condK gS fi79 (fr.op (.tmp 53)).bool? .skip (.exit 2) fr st k ∧
 (evK gS fi79 c79_21 fr st k=opsR gS fi79 [mv 52 9 3,
 qB 53 .geq 3 52 0 3 4] fr st (.seq c79_23 k)) ∧
 (evK gS fi79 c79_28 fr st k=opsR gS fi79 [mv 56 7 22,
 mv 57 8 22,
 mv 58 9 3,
 ixa 59 22 57 58 0,
 ld 60 3 59 3,
 qS 61 22 60 22,
 qE 62 56 61 22 22,
 asn 7 62 22] fr st k) ∧
 (evK gS fi79 c79_29 fr st k=opsR gS fi79 [mv 54 9 3,
 qB 55 .sub 3 54 1 3 3,
 asn 9 55 3] fr st k) ∧
 evK gS fi79 c79_26 fr st k=evK gS fi79 c79_28 fr st (.blk 3 (.seq c79_29 k)) ∧
 evK gS fi79 c79_20 fr st k=evK gS fi79 c79_21 fr st (.seq c79_26 k) ∧
 evK gS fi79 c79_18 fr st k=evK gS fi79 c79_19 fr st (.blk 2 k) ∧
 (evK gS fi79 c79_16 fr st k=opsR gS fi79 [mv 49 8 22,
 len1 50 49 22 3,
 qB 51 .sub 3 50 2 3 3,
 asn 9 51 3] fr st (.seq c79_18 k)) ∧
 (evK gS fi79 c79_30 fr st k=opsR gS fi79 [mv 63 7 22,
 asn 6 63 22] fr st (.seq .ret k)) ∧
 evK gS fi79 c79_4 fr st k=evK gS fi79 c79_6 fr st (.blk 0 (.seq c79_15 k)) ∧
 (evK gS fi79 c79_2 fr st k=opsR gS fi79 [mv 10 0 22,
 mv 11 1 3,
 cal 12 101 [(.tmp 10),(.tmp 11)] [22,3] 22,
 mv 13 0 22,
 mv 14 2 3,
 cal 15 101 [(.tmp 13),(.tmp 14)] [22,3] 22,
 asn 7 12 22,
 asn 8 15 22] fr st (.seq c79_4 k)) ∧
 evK gS fi79 c79_0 fr st k=opsR gS fi79 [qN 6 22] fr st (.seq c79_2 k):=⟨evK_dr 2 rfl (by kernel_rfl) (by kernel_rfl),rfl,rfl,evK_dr 3 rfl (by kernel_rfl) (by kernel_rfl),rfl,rfl,rfl,evK_rs 5 rfl (by kernel_rfl),evK_r 7 (by kernel_rfl),evK_r 6 (by kernel_rfl),rfl,rfl,rfl,evK_rs 4 rfl (by kernel_rfl),evK_rs 8 rfl (by kernel_rfl),rfl,evK_rs 1 rfl (by kernel_rfl),evK_rs 0 rfl (by kernel_rfl)⟩
theorem m79:mini fi79.body=c79_0:=by kernel_rfl
theorem n79_6 (fr:Fr)(st:St)(k:Kt):nextK gS fi79 (.loop c79_7 k) .normal fr st=evK gS fi79 c79_6 fr st k:=rfl
theorem n79_19 (fr:Fr)(st:St)(k:Kt):nextK gS fi79 (.loop c79_20 k) .normal fr st=evK gS fi79 c79_19 fr st k:=rfl
theorem L79_6 (A B:List Int)(S:St)(ida idb:Nat)(hA:St.obj S ida=some (intVs A))(hB:St.obj S idb=some (intVs B))(hA1:A.length<1000)(hB1:B.length<1000)(R:Out × St)(e0 e1 e2:E)(t0:e0.Tame)(t1:e1.Tame)(t2:e2.Tame)(X:List (Nat × List V)):∀ (k a b:Nat) (T:List (Nat × E))
  (H:∀ T,evK gS fi79 c79_15 {ps:=[(0,e0),(1,e1),(2,e2),(6,.own 0 []),(7,.val (.sref false 1 ida 0 (trimN A B k a b).1)),(8,.val (.sref false 1 idb 0 (trimN A B k a b).2)),(9,.any)],ts:=T,lc:=X} S .nil=some R),a≤k+1→a≤A.length→b≤B.length→evK gS fi79 c79_6 {ps:=[(0,e0),(1,e1),(2,e2),(6,.own 0 []),(7,.val (.sref false 1 ida 0 a)),(8,.val (.sref false 1 idb 0 b)),(9,.any)],ts:=T,lc:=X} S (.blk 0 (.seq c79_15 .nil))=some R:=by
 intro k
 have hno:∀ (a b:Nat) (T:List (Nat × E)) (H:∀ T,evK gS fi79 c79_15 {ps:=[(0,e0),(1,e1),(2,e2),(6,.own 0 []),(7,.val (.sref false 1 ida 0 a)),(8,.val (.sref false 1 idb 0 b)),(9,.any)],ts:=T,lc:=X} S .nil=some R),a≤A.length→b≤B.length→¬ (1<a∧1<b∧A[a - 2]?=B[b - 2]?) →
   evK gS fi79 c79_6 {ps:=[(0,e0),(1,e1),(2,e2),(6,.own 0 []),(7,.val (.sref false 1 ida 0 a)),(8,.val (.sref false 1 idb 0 b)),(9,.any)],ts:=T,lc:=X} S (.blk 0 (.seq c79_15 .nil))=some R:=by
  intro a b T H ha hb hc
  refine evK_loop c79_7 _ _ _ _ rfl ?_
  by_cases c1:1<a
  ·have d1:(1:Int)<(a:Int):=by omega
   have w1:IntKind.wrap .i64 ((a:Int) - 2)=((a - 2:Nat):Int):=by rw [wrap64 (by omega) (by omega)];omega
   obtain ⟨x,hx⟩:∃ x,A[a - 2]?=some x:=⟨A[a - 2]'(by omega),zge (by omega)⟩
   obtain ⟨x1,x2⟩:=List.getElem?_eq_some_iff.1 hx
   have x3:((a - 2:Nat):Int)<(a:Int):=by omega
   have x4:a - 2<a:=by omega
   by_cases c2:1<b
   ·have d2:(1:Int)<(b:Int):=by omega
    have w2:IntKind.wrap .i64 ((b:Int) - 2)=((b - 2:Nat):Int):=by rw [wrap64 (by omega) (by omega)];omega
    obtain ⟨y,hy⟩:∃ y,B[b - 2]?=some y:=⟨B[b - 2]'(by omega),zge (by omega)⟩
    obtain ⟨y1,y2⟩:=List.getElem?_eq_some_iff.1 hy
    have y3:((b - 2:Nat):Int)<(b:Int):=by omega
    have y4:b - 2<b:=by omega
    have hne:¬ x=y:=fun e=>hc ⟨c1,c2,by rw [hx,hy,e]⟩
    generalize a - 2=p at *
    generalize b - 2=q at *
    simp [-St.obj,-St.set,-zia,hA,hB,c1,c2,d1,d2,w1,w2,x1,x2,x3,x4,y1,y2,y3,y4,hx,hy,hne,t0,t1,t2,H,-zil,-zit,-znl,-znt,ty3,ty4,ty22,H79,fi203_eq,E79,q79_9,q79_14,n79_6,n79_19]
   ·have d2:¬ (1:Int)<(b:Int):=by omega
    simp [-St.obj,-St.set,-zia,hA,hB,c1,c2,d1,d2,t0,t1,t2,H,-zil,-zit,-znl,-znt,ty3,ty4,ty22,H79,fi203_eq,E79,q79_9,q79_14,n79_6,n79_19]
  ·have d1:¬ (1:Int)<(a:Int):=by omega
   simp [-St.obj,-St.set,-zia,c1,d1,t0,t1,t2,H,-zil,-zit,-znl,-znt,ty3,ty4,ty22,H79,fi203_eq,E79,q79_9,q79_14,n79_6,n79_19]
 induction k with
 | zero =>
  intro a b T H hk ha hb
  exact hno a b T H ha hb (by omega)
 | succ k ih =>
  intro a b T H hk ha hb
  unfold trimN at H
  by_cases hc:1<a∧1<b∧A[a - 2]?=B[b - 2]?
  ·rw [if_pos hc] at H
   obtain ⟨c1,c2,c3⟩:=hc
   have IH:=fun T=>ih (a - 1) (b - 1) T H (by omega) (by omega) (by omega)
   have d1:(1:Int)<(a:Int):=by omega
   have w1:IntKind.wrap .i64 ((a:Int) - 2)=((a - 2:Nat):Int):=by rw [wrap64 (by omega) (by omega)];omega
   have v1:IntKind.wrap .i64 ((a:Int) - 1)=((a - 1:Nat):Int):=by rw [wrap64 (by omega) (by omega)];omega
   obtain ⟨x,hx⟩:∃ x,A[a - 2]?=some x:=⟨A[a - 2]'(by omega),zge (by omega)⟩
   obtain ⟨x1,x2⟩:=List.getElem?_eq_some_iff.1 hx
   have x3:((a - 2:Nat):Int)<(a:Int):=by omega
   have x4:a - 2<a:=by omega
   have d2:(1:Int)<(b:Int):=by omega
   have w2:IntKind.wrap .i64 ((b:Int) - 2)=((b - 2:Nat):Int):=by rw [wrap64 (by omega) (by omega)];omega
   have v2:IntKind.wrap .i64 ((b:Int) - 1)=((b - 1:Nat):Int):=by rw [wrap64 (by omega) (by omega)];omega
   have hy:B[b - 2]?=some x:=by rw [← c3];exact hx
   obtain ⟨y1,y2⟩:=List.getElem?_eq_some_iff.1 hy
   have y3:((b - 2:Nat):Int)<(b:Int):=by omega
   have y4:b - 2<b:=by omega
   have g1:((a - 1:Nat):Int)≤(a:Int):=by omega
   have g2:((b - 1:Nat):Int)≤(b:Int):=by omega
   have i1:a - 1≤a:=by omega
   have i2:b - 1≤b:=by omega
   have n1:¬ 0=a - 1:=by omega
   have n2:¬ 0=b - 1:=by omega
   have n3:¬ a - 1=0:=by omega
   have n4:¬ b - 1=0:=by omega
   refine evK_loop c79_7 _ _ _ _ rfl ?_
   generalize a - 2=p at *
   generalize b - 2=q at *
   generalize a - 1=p1 at *
   generalize b - 1=q1 at *
   simp [-St.obj,-St.set,-zia,hA,hB,c1,c2,d1,d2,w1,w2,v1,v2,x1,x2,x3,x4,y1,y2,y3,y4,hx,hy,g1,g2,i1,i2,n1,n2,n3,n4,t0,t1,t2,IH,-zil,-zit,-znl,-znt,ty3,ty4,ty22,H79,fi203_eq,E79,q79_9,q79_14,n79_6,n79_19]
  ·rw [if_neg hc] at H
   exact hno a b T H ha hb hc
theorem L79_19 (B:List Int)(b idb:Nat)(hb:b≤B.length)(hB1:B.length<1000)(e0 e1 e2:E)(t0:e0.Tame)(t1:e1.Tame)(t2:e2.Tame)(X:List (Nat × List V)):∀ (n:Nat) (acc C:List Int) (S:St) (ida:Nat) (T:List (Nat × E)),n≤b→0<acc.length→acc.length+n<100000 →
  St.obj S ida=some (intVs C)→acc.length≤C.length→C.take acc.length=acc→S.wp≤ida→ida<S.objs.length→St.obj S idb=some (intVs B)→idb<S.objs.length→ida≠idb →
  evK gS fi79 c79_19 {ps:=[(0,e0),(1,e1),(2,e2),(6,.own 0 []),(7,.val (.sref false 1 ida 0 acc.length)),(8,.val (.sref false 1 idb 0 b)),(9,.val (.int .i64 (((n:Nat):Int) - 1)))],ts:=T,lc:=X} S (.blk 2 (.seq c79_30 .nil))=some (.ret (.slice (intVs (acc ++ (B.take n).reverse))) none,finS (B.take n).reverse S ida acc):=by
 intro n
 have hm:fi79.marks=[62,1000000]:=rfl
 have hl:fi79.locals=[]:=rfl
 have hr:fi79.results=[.tmp 6]:=rfl
 induction n with
 | zero =>
  intro acc C S ida T hn h0 ha hA hl hC hw hi hB hib hne
  rw [show (((0:Nat):Int) - 1) = -1 from rfl,List.take_zero,List.reverse_nil,List.append_nil]
  have hz:=frz_ref hA hw h0 hl
  rw [hC] at hz
  rw [show finS [] S ida acc={objs:=S.objs.set ida [],wp:=S.wp} from rfl]
  refine evK_loop c79_20 _ _ _ _ rfl ?_
  simp [-St.obj,-St.set,hz,t0,t1,t2,-zil,-zit,-znl,-znt,ty3,ty4,ty22,hm,hl,hr,fi203_eq,E79,q79_9,q79_14,e79_15,n79_6,n79_19]
 | succ n ih =>
  intro acc C S ida T hn h0 ha hA hl hC hwp hi hB hib hne
  rw [show (((n+1:Nat):Int) - 1)=(n:Int) from by omega]
  obtain ⟨x,hx⟩  := qgx (l:=B) (i:=n) (by omega)
  obtain ⟨x1,x2⟩:=List.getElem?_eq_some_iff.1 hx
  have x3:(n:Int)<(b:Int):=by omega
  have x4:n<b:=by omega
  rw [take_rev B n x hx]
  rw [show finS (x :: (B.take n).reverse) S ida acc=finS (B.take n).reverse (apS S ida (intVs (acc ++ [x]))) S.objs.length (acc ++ [x]) from rfl,List.append_cons acc x (B.take n).reverse]
  have IH:=fun T=>ih (acc ++ [x]) (acc ++ [x]) (apS S ida (intVs (acc ++ [x]))) S.objs.length T (by omega) (by simp) (by simp;omega) (apS_new _ _ _) (Nat.le_refl _) (List.take_length) (by rw [apS_wp];omega) (by rw [apS_len];omega) (by rw [apS_old _ _ _ (Ne.symm hne) hib];exact hB) (by rw [apS_len];omega) (by omega)
  rw [show (acc ++ [x]).length=acc.length+1 from by simp] at IH
  generalize finS (B.take n).reverse (apS S ida (intVs (acc ++ [x]))) S.objs.length (acc ++ [x])=Q at IH ⊢
  generalize intVs (acc ++ [x] ++ (B.take n).reverse)=L at IH ⊢
  have hw:IntKind.wrap .i64 ((n:Int) - 1)=(n:Int) - 1:=by rw [wrap64 (by omega) (by omega)]
  have hge:(0:Int)≤(n:Int):=by omega
  have hs1:=ints_strip acc
  have hs2:=ints_one acc
  have hs3:=ints_snoc acc x
  have hs4:=set_some hwp []
  have hs5:=newRef_ap S ida
  have b1:(acc.length+1)*8≤140737488355328:=by omega
  have b2:acc.length+1≤140737488355328:=by omega
  have b3:¬ acc.length=0:=by omega
  refine evK_loop c79_20 _ _ _ _ rfl ?_
  rcases Nat.lt_or_ge acc.length C.length with hlc | hlc
  ·have hC2:(intVs C).take acc.length=intVs acc:=by rw [ints_take,hC]
   have hlc2:¬ C.length=acc.length:=by omega
   simp [-St.obj,-St.set,-zia,-zaa,hw,hge,hx,x1,x2,x3,x4,hA,hB,h0,hs1,hs2,hs3,hs4,hs5,b1,b2,b3,hC2,hlc,hlc2,t0,t1,t2,IH,markStep,markAppend,elemsAt,-zil,-zit,-znl,-znt,ty3,ty4,ty22,hm,hl,hr,fi203_eq,E79,q79_9,q79_14,e79_15,n79_6,n79_19]
  ·obtain rfl:C=acc:=by rw [List.take_of_length_le hlc] at hC;exact hC
   simp [-St.obj,-St.set,-zia,-zaa,hw,hge,hx,x1,x2,x3,x4,hA,hB,h0,hs1,hs2,hs3,hs4,hs5,b1,b2,b3,t0,t1,t2,IH,markStep,markAppend,elemsAt,-zil,-zit,-znl,-znt,ty3,ty4,ty22,hm,hl,hr,fi203_eq,E79,q79_9,q79_14,e79_15,n79_6,n79_19]
theorem c79 (p:List Int)(hp:upT 0 p=true)(hl7:p.length≤7)(a b:Nat)(ha:a≤p.length)(hb:b≤p.length)(S:St)(hS:S.wp≤S.objs.length):∃ st',EvF gS 79 [.slice (intVs p),.int .i64 (a:Nat),.int .i64 (b:Nat)] S=some (.ret (.slice (intVs (pathT p a b))) none,st'):=by
 obtain ⟨f1,f2,f3,f4,f5,f6⟩:=upS_facts p a S hS
 have k1:=fun fr=>k101 p hp hl7 a ha fr S hS
 have hS1:(upS p a S).1.wp≤(upS p a S).1.objs.length:=by omega
 obtain ⟨g1,g2,g3,g4,g5,g6⟩:=upS_facts p b (upS p a S).1 hS1
 have k2:=fun fr=>k101 p hp hl7 b hb fr (upS p a S).1 hS1
 have la:=upP_len p a
 have lb:=upP_len p b
 have f1':=(g6 _ f4).trans f1
 unfold pathT
 generalize upP p a=A at *
 generalize upP p b=B at *
 generalize upS p b (upS p a S).1=Q2 at *
 generalize upS p a S=Q1 at *
 obtain ⟨S1,ida⟩:=Q1
 obtain ⟨S2,idb⟩:=Q2
 simp only at *
 have ht:=trimN_le A B 100 A.length B.length la.1 lb.1
 have hw1:S2.wp≤ida:=by omega
 have hne:ida≠idb:=by omega
 have hl2:ida<S2.objs.length:=by omega
 refine ⟨finS (B.take ((trimN A B 100 A.length B.length).2 - 1)).reverse S2 ida (A.take (trimN A B 100 A.length B.length).1),?_⟩
 refine EvF_start fi204_eq (fun x h=>by cases h) m79 ?_
 rw [st79]
 have LL:=fun R e0 e1 e2 t0 t1 t2 X T H=>L79_6 A B S2 ida idb f1' g1 (by omega) (by omega) R e0 e1 e2 t0 t1 t2 X 100 A.length B.length T H (by omega) (Nat.le_refl _) (Nat.le_refl _)
 unfold joinT
 generalize trimN A B 100 A.length B.length=q at *
 obtain ⟨qa,qb⟩:=q
 simp only at *
 have hta:(A.take qa).length=qa:=by simp;omega
 have MM:=fun e0 e1 e2 t0 t1 t2 X T=>L79_19 B qb idb (by omega) (by omega) e0 e1 e2 t0 t1 t2 X (qb - 1) (A.take qa) A S2 ida T (by omega) (by omega) (by omega) f1' (by omega) (by rw [hta]) hw1 hl2 g1 g4 hne
 rw [hta] at MM
 generalize hR:(Out.ret (V.slice (intVs (A.take qa ++ (B.take (qb - 1)).reverse))) none,finS (B.take (qb - 1)).reverse S2 ida (A.take qa))=R at *
 have hv:IntKind.wrap .i64 ((qb:Int) - 2)=((qb - 1:Nat):Int) - 1:=by rw [wrap64 (by omega) (by omega)];omega
 simp [-St.obj,-St.set,-zia,k1,k2,-zil,-zit,-znl,-znt,ty3,ty4,ty22,H79,fi203_eq,E79,q79_9,q79_14,e79_15,n79_6,n79_19]
 refine LL _ _ _ _ ?_ ?_ ?_ _ _ (fun T=>?_)
 ·simp
 ·simp
 ·simp
 simp [-St.obj,-St.set,-zia,hv,-zil,-zit,-znl,-znt,ty3,ty4,ty22,H79,fi203_eq,E79,q79_9,q79_14,e79_15,n79_6,n79_19]
 refine MM _ _ _ ?_ ?_ ?_ _ _
 all_goals simp
theorem k79 (p:List Int)(hp:upT 0 p=true)(hl7:p.length≤7)(a b:Nat)(ha:a≤p.length)(hb:b≤p.length)(fr:Fr)(st:St):callStep gS (EvF gS) 79 [.slice (intVs p),.int .i64 (a:Nat),.int .i64 (b:Nat)] fr st=some (.ok (.val (.slice (intVs (pathT p a b)))) fr st) :=
 call_pure' rfl fi204_eq rfl (by simp [flats,V.flat]) (c79 p hp hl7 a b ha hb ⟨[],0⟩ (Nat.le_refl _)) (by simp [V.flat])
end
end Go.Proofs.Ytdoobejjedpcgaa
namespace Go.Ab
open Go
def wStep (A:List Attr)(p:List Bool × Nat)(s:Sub):List Bool × Nat :=
 if ftakes s.filter A && !(p.1.getD s.client.toNat false) then (p.1.set s.client.toNat true,p.2+1) else p
end Go.Ab
namespace Go.Ab
open Go
def rsG:Option Sub→Int→List Sub→Bool
 | _,_,[]=>true
 | none,_,s :: r=>mayS s && rsG (some s) 1 r
 | some t,many,s :: r=>mayS s && (if t.client<s.client then rsG (some s) 1 r else !(decide (s.client<t.client) || decide (s.num≤t.num) || !decide (t.broker=s.broker) || decide (3<many+1)) && rsG (some s) (many+1) r)
def rightS (l:List Sub):Bool:=rsG none 0 l
theorem rsG_may:∀ (l:List Sub)(o:Option Sub)(m:Int),rsG o m l=true→∀ s∈l,mayS s=true
 | [],_,_,_,s,hs=>by simp at hs
 | x :: r,none,m,h,s,hs=>by
  simp only [rsG,Bool.and_eq_true] at h
  rcases List.mem_cons.1 hs with rfl | hs
  ·exact h.1
  ·exact rsG_may r _ _ h.2 s hs
 | x :: r,some t,m,h,s,hs=>by
  simp only [rsG,Bool.and_eq_true] at h
  rcases List.mem_cons.1 hs with rfl | hs
  ·exact h.1
  ·have h2:=h.2
   split at h2
   ·exact rsG_may r _ _ h2 s hs
   ·simp only [Bool.and_eq_true] at h2
    exact rsG_may r _ _ h2.2 s hs
theorem may_client {s:Sub} (h:mayS s=true):1≤s.client∧s.client≤6∧0≤s.broker∧s.broker≤7:=by
 simp only [mayS,Bool.and_eq_true,decide_eq_true_eq] at h
 omega
end Go.Ab
namespace Go.Proofs.Ytdoobejjedpcgaa
open Go Go.Ab
noncomputable section
variable (fr:Fr)(st:St)(k:Kt)
def fi47:FI:={body:=codeOf Try.f47,ntmps:=23,results:=[.tmp 6],pers:=[0,1,2,6],locals:=[],pure:=true,marks:=[]}
theorem H47:fi47.marks=[]∧fi47.locals=[]∧fi47.results=[.tmp 6]:=⟨rfl,rfl,rfl⟩
theorem fi205_eq:gS.fn 47=some fi47:=by kernel_rfl
theorem st47 (a0 a1 a2:V):startFr fi47 [a0,a1,a2]={ps:=[(0,.val a0),(1,.val a1),(2,.val a2),(6,.any)],ts:=[],lc:=[]}:=rfl
def b47:Code:=mini (codeOf Try.f47)
def c47_6:Code:=.seq (codeN b47 37) .ret
def c47_5:Code:=.cond (.tmp 16) c47_6 .skip
def c47_3:Code:=.seq (codeN b47 9) c47_5
def c47_10:Code:=.seq (codeN b47 11) .ret
def c47_2:Code:=.seq c47_3 c47_10
def c47_0:Code:=.seq (codeN b47 2) c47_2
theorem E47:evK gS fi47 c47_6 fr st k=opsR gS fi47 [qI 6 (-1) 3] fr st (.seq .ret k) ∧
 evK gS fi47 c47_5 fr st k=condK gS fi47 (fr.op (.tmp 16)).bool? c47_6 .skip fr st k ∧
 (evK gS fi47 c47_3 fr st k=opsR gS fi47 [mv 7 0 22,
 mv 8 1 3,
 cal 9 72 [(.tmp 7),(.tmp 8)] [22,3] 4,
 op1 10 (.unOp .not 4 (.tmp 9)) 4,
 mv 11 10 4,
 qm 12 0 22 4 false,
 qm 13 2 3 4 false,
 mk (some 14) (.call {callee:=(.value (.func 72)),args:=#[(.tmp 12),(.tmp 13)],argTypes:=#[22,3]}) 4 (some (4,false)),
 mk (some 15) (.unOp .not 4 (.tmp 14)) 4 (some (4,false)),
 qQ 16 11 true 15 4] fr st (.seq c47_5 k)) ∧
 (evK gS fi47 c47_10 fr st k=opsR gS fi47 [mv 17 0 22,
 mv 18 1 3,
 mv 19 2 3,
 cal 20 79 [(.tmp 17),(.tmp 18),(.tmp 19)] [22,3,3] 22,
 len1 21 20 22 3,
 qB 22 .sub 3 21 1 3 3,
 asn 6 22 3] fr st (.seq .ret k)) ∧
 evK gS fi47 c47_2 fr st k=evK gS fi47 c47_3 fr st (.seq c47_10 k) ∧
 evK gS fi47 c47_0 fr st k=opsR gS fi47 [qI 6 0 3] fr st (.seq c47_2 k):=⟨evK_rs 2 rfl (by kernel_rfl),rfl,evK_rs 1 rfl (by kernel_rfl),evK_rs 3 rfl (by kernel_rfl),rfl,evK_rs 0 rfl (by kernel_rfl)⟩
theorem m47:mini fi47.body=c47_0:=by kernel_rfl
theorem is_nat {p:List Int} {a:Int} (h:isT p a=true):upT 0 p=true∧p.length≤7∧∃ k:Nat,a=(k:Int)∧k≤p.length:=by
 simp only [isT,rightT,Bool.and_eq_true,decide_eq_true_eq] at h
 exact ⟨h.1.1.1,by omega,a.toNat,by omega,by omega⟩
theorem c47 (p:List Int)(hpl:p.length<4611686018427387904)(a b:Int)(st:St):EvF gS 47 [.slice (intVs p),.int .i64 a,.int .i64 b] st=some (.ret (.int .i64 (distT p a b)) none,st):=by
 refine EvF_start fi205_eq (fun x h=>by cases h) m47 ?_
 rw [st47]
 have ka:=fun fr st=>k72 p a hpl fr st
 have kb:=fun fr st=>k72 p b hpl fr st
 unfold distT
 cases ha:isT p a with
 | false=>rw [ha] at ka;simp [ka,-zil,-zit,-znl,-znt,ty3,ty4,ty22,H47,E47]
 | true =>
  cases hb:isT p b with
  | false=>rw [ha] at ka;rw [hb] at kb;simp [ka,kb,-zil,-zit,-znl,-znt,ty3,ty4,ty22,H47,E47]
  | true =>
   obtain ⟨h1,h2,i,rfl,hi⟩:=is_nat ha
   obtain ⟨_,_,j,rfl,hj⟩:=is_nat hb
   rw [ha] at ka;rw [hb] at kb
   have kp:=fun fr st=>k79 p h1 h2 i j hi hj fr st
   have hl1:=joinT_len (upP p i) (upP p j) (upP_len p i).1 (upP_len p j).1
   have hl2:=(upP_len p i).2
   have hl3:=(upP_len p j).2
   rw [show joinT (upP p i) (upP p j)=pathT p i j from rfl] at hl1
   have hw:IntKind.wrap .i64 (((pathT p i j).length:Int) - 1)=((pathT p i j).length:Int) - 1:=by rw [wrap64 (by omega) (by omega)]
   simp only [Int.toNat_natCast]
   generalize pathT p i j=P at *
   simp [-zia,ka,kb,kp,hw,-zil,-zit,-znl,-znt,ty3,ty4,ty22,H47,E47]
theorem k47 (p:List Int)(hpl:p.length<4611686018427387904)(a b:Int)(fr:Fr)(st:St):callStep gS (EvF gS) 47 [.slice (intVs p),.int .i64 a,.int .i64 b] fr st=some (.ok (.val (.int .i64 (distT p a b))) fr st) :=
 call_pure rfl fi205_eq rfl (fun st=>c47 p hpl a b st) (by simp [V.flat])
end
end Go.Proofs.Ytdoobejjedpcgaa
namespace Go.Proofs.Ytdoobejjedpcgaa
open Go Go.Ab
noncomputable section
variable (fr:Fr)(st:St)(k:Kt)
def OutA (e:E)(l:List Atom):Prop:=(e=.own 0 []∧l=[])∨e=.val (.slice (encAtoms l))
theorem OutA.firm {e:E} {l:List Atom} (h:OutA e l):e.Firm:=by rcases h with ⟨rfl,_⟩ | rfl <;> rfl
end
end Go.Proofs.Ytdoobejjedpcgaa
namespace Go.Proofs.Ytdoobejjedpcgaa
open Go Go.Ab
noncomputable section
variable (fr:Fr)(st:St)(k:Kt)
theorem sizes_predss (l:List (List Pred)):sizesOk 1 (encPredss l)=true:=by
 induction l with
 | nil=>rfl
 | cons x r ih=>simp only [encPredss,List.map_cons,sizesOk] at ih ⊢;rw [ih];rfl
theorem predss_snoc (l:List (List Pred))(f:List Pred):encPredss l ++ [.slice (encPreds f)]=encPredss (l ++ [f]):=by simp [encPredss]
def fi69:FI:={body:=codeOf Try.f69,ntmps:=54,results:=[.tmp 2],pers:=[0,2,3,5,6,8,9,11,12,13,14,18,19,20,32,33,34],locals:=[],pure:=true,marks:=[1000000]}
theorem H69:fi69.marks=[1000000]∧fi69.locals=[]∧fi69.results=[.tmp 2]:=⟨rfl,rfl,rfl⟩
theorem fi49_eq:gS.fn 69=some fi69:=by kernel_rfl
theorem st69 (a0:V):startFr fi69 [a0]={ps:=[(0,.val a0),(2,.any),(3,.any),(5,.any),(6,.any),(8,.any),(9,.any),(11,.any),(12,.any),(13,.any),(14,.any),(18,.any),(19,.any),(20,.any),(32,.any),(33,.any),(34,.any)],ts:=[],lc:=[]}:=rfl
def b69:Code:=mini (codeOf Try.f69)
def c69_36:Code:=codeN b69 3353803
def c69_34:Code:=.seq (codeN b69 2305227) c69_36
def c69_37:Code:=codeN b69 994507
def c69_32:Code:=.seq (.block 3 c69_34) c69_37
def c69_28:Code:=.seq (.cond (.tmp 21) .skip (.exit 2)) c69_32
def c69_26:Code:=.seq (codeN b69 142539) c69_28
def c69_25:Code:=.loop c69_26
def c69_24:Code:=.block 2 c69_25
def c69_22:Code:=.seq (codeN b69 19659) c69_24
def c69_41:Code:=.cond (.tmp 31) (.exit 1) .skip
def c69_39:Code:=.seq (codeN b69 40139) c69_41
def c69_64:Code:=codeN b69 93945035
def c69_63:Code:=.cond (.tmp 41) c69_64 .skip
def c69_61:Code:=.seq (codeN b69 43613387) c69_63
def c69_59:Code:=.seq (codeN b69 18447563) c69_61
def c69_66:Code:=codeN b69 7961803
def c69_57:Code:=.seq (.block 5 c69_59) c69_66
def c69_53:Code:=.seq (.cond (.tmp 35) .skip (.exit 4)) c69_57
def c69_51:Code:=.seq (codeN b69 1146059) c69_53
def c69_50:Code:=.loop c69_51
def c69_49:Code:=.block 4 c69_50
def c69_47:Code:=.seq (codeN b69 163019) c69_49
def c69_67:Code:=codeN b69 130251
theorem e69_67:evK gS fi69 c69_67 fr st k=opsR gS fi69 [mv 47 9 77,
 mv 48 5 29,
 cal 49 50 [(.tmp 48)] [29] 29,
 qS 50 77 49 77,
 qE 51 47 50 77 77,
 asn 3 51 77] fr st k:=evK_r 19 (by kernel_rfl)
def c69_46:Code:=.seq c69_47 c69_67
def c69_44:Code:=.seq (codeN b69 48331) c69_46
def c69_38:Code:=.seq c69_39 c69_44
theorem e69_38:evK gS fi69 c69_38 fr st k=evK gS fi69 c69_39 fr st (.seq c69_44 k):=rfl
def c69_21:Code:=.seq c69_22 c69_38
def c69_19:Code:=.seq (codeN b69 5323) c69_21
def c69_17:Code:=.seq (codeN b69 2251) c69_19
def c69_68:Code:=codeN b69 971
def c69_15:Code:=.seq (.block 1 c69_17) c69_68
def c69_11:Code:=.seq (.cond (.tmp 15) .skip (.exit 0)) c69_15
def c69_9:Code:=.seq (codeN b69 139) c69_11
def c69_8:Code:=.loop c69_9
def c69_7:Code:=.block 0 c69_8
def c69_5:Code:=.seq (codeN b69 19) c69_7
def c69_69:Code:=.seq (codeN b69 23) .ret
def c69_4:Code:=.seq c69_5 c69_69
def c69_2:Code:=.seq (codeN b69 5) c69_4
def c69_0:Code:=.seq (codeN b69 2) c69_2
theorem E69:(evK gS fi69 c69_36 fr st k=opsR gS fi69 [mv 24 6 4,
 mv 25 24 4,
 qm 26 8 29 1 false,
 qm 27 5 29 1 false,
 mk (some 28) (.call {callee:=(.value (.func 95)),args:=#[(.tmp 26),(.tmp 27)],argTypes:=#[29,29]}) 4 (some (1,false)),
 qQ 29 25 true 28 4,
 asn 6 29 4] fr st k) ∧
 (evK gS fi69 c69_34 fr st k=opsR gS fi69 [ixa 22 77 18 20 0,
 ld 23 29 22 29,
 asn 8 23 29] fr st (.seq c69_36 k)) ∧
 (evK gS fi69 c69_37 fr st k=opsR gS fi69 [qB 30 .add 3 20 1 3 3,
 mv 20 30 3] fr st k) ∧
 evK gS fi69 c69_32 fr st k=evK gS fi69 c69_34 fr st (.blk 3 (.seq c69_37 k)) ∧
 evK gS fi69 c69_28 fr st k=condK gS fi69 (fr.op (.tmp 21)).bool? .skip (.exit 2) fr st (.seq c69_32 k) ∧
 evK gS fi69 c69_26 fr st k=opsR gS fi69 [bop 21 .lss 3 20 19 3 0] fr st (.seq c69_28 k) ∧
 evK gS fi69 c69_24 fr st k=evK gS fi69 c69_25 fr st (.blk 2 k) ∧
 (evK gS fi69 c69_22 fr st k=opsR gS fi69 [mv 18 3 77,
 len1 19 18 77 3,
 op1 20 (.move (.const (.int .i64 0))) 3] fr st (.seq c69_24 k)) ∧
 evK gS fi69 c69_41 fr st k=condK gS fi69 (fr.op (.tmp 31)).bool? (.exit 1) .skip fr st k ∧
 evK gS fi69 c69_39 fr st k=opsR gS fi69 [mv 31 6 4] fr st (.seq c69_41 k) ∧
 (evK gS fi69 c69_64 fr st k=opsR gS fi69 [mv 42 9 77,
 mv 43 11 29,
 qS 44 77 43 77,
 qE 45 42 44 77 77,
 asn 9 45 77] fr st k) ∧
 evK gS fi69 c69_63 fr st k=condK gS fi69 (fr.op (.tmp 41)).bool? c69_64 .skip fr st k ∧
 (evK gS fi69 c69_61 fr st k=opsR gS fi69 [mv 38 5 29,
 mv 39 11 29,
 cal 40 95 [(.tmp 38),(.tmp 39)] [29,29] 4,
 op1 41 (.unOp .not 4 (.tmp 40)) 4] fr st (.seq c69_63 k)) ∧
 (evK gS fi69 c69_59 fr st k=opsR gS fi69 [ixa 36 77 32 34 0,
 ld 37 29 36 29,
 asn 11 37 29] fr st (.seq c69_61 k)) ∧
 (evK gS fi69 c69_66 fr st k=opsR gS fi69 [qB 46 .add 3 34 1 3 3,
 mv 34 46 3] fr st k) ∧
 evK gS fi69 c69_57 fr st k=evK gS fi69 c69_59 fr st (.blk 5 (.seq c69_66 k)) ∧
 evK gS fi69 c69_53 fr st k=condK gS fi69 (fr.op (.tmp 35)).bool? .skip (.exit 4) fr st (.seq c69_57 k) ∧
 evK gS fi69 c69_51 fr st k=opsR gS fi69 [bop 35 .lss 3 34 33 3 0] fr st (.seq c69_53 k) ∧
 evK gS fi69 c69_49 fr st k=evK gS fi69 c69_50 fr st (.blk 4 k) ∧
 (evK gS fi69 c69_47 fr st k=opsR gS fi69 [mv 32 3 77,
 len1 33 32 77 3,
 op1 34 (.move (.const (.int .i64 0))) 3] fr st (.seq c69_49 k)) ∧
 evK gS fi69 c69_46 fr st k=evK gS fi69 c69_47 fr st (.seq c69_67 k) ∧
 evK gS fi69 c69_44 fr st k=opsR gS fi69 [qN 9 77] fr st (.seq c69_46 k) ∧
 evK gS fi69 c69_21 fr st k=evK gS fi69 c69_22 fr st (.seq c69_38 k) ∧
 evK gS fi69 c69_19 fr st k=opsR gS fi69 [qA 6 false 4] fr st (.seq c69_21 k) ∧
 (evK gS fi69 c69_17 fr st k=opsR gS fi69 [ixa 16 77 12 14 0,
 ld 17 29 16 29,
 asn 5 17 29] fr st (.seq c69_19 k)) ∧
 (evK gS fi69 c69_68 fr st k=opsR gS fi69 [qB 52 .add 3 14 1 3 3,
 mv 14 52 3] fr st k) ∧
 evK gS fi69 c69_15 fr st k=evK gS fi69 c69_17 fr st (.blk 1 (.seq c69_68 k)) ∧
 evK gS fi69 c69_11 fr st k=condK gS fi69 (fr.op (.tmp 15)).bool? .skip (.exit 0) fr st (.seq c69_15 k) ∧
 evK gS fi69 c69_9 fr st k=opsR gS fi69 [bop 15 .lss 3 14 13 3 0] fr st (.seq c69_11 k) ∧
 evK gS fi69 c69_7 fr st k=evK gS fi69 c69_8 fr st (.blk 0 k) ∧
 (evK gS fi69 c69_5 fr st k=opsR gS fi69 [mv 12 0 77,
 len1 13 12 77 3,
 op1 14 (.move (.const (.int .i64 0))) 3] fr st (.seq c69_7 k)) ∧
 (evK gS fi69 c69_69 fr st k=opsR gS fi69 [mv 53 3 77,
 asn 2 53 77] fr st (.seq .ret k)) ∧
 evK gS fi69 c69_4 fr st k=evK gS fi69 c69_5 fr st (.seq c69_69 k) ∧
 evK gS fi69 c69_2 fr st k=opsR gS fi69 [qN 3 77] fr st (.seq c69_4 k) ∧
 evK gS fi69 c69_0 fr st k=opsR gS fi69 [qN 2 77] fr st (.seq c69_2 k):=⟨evK_r 9 (by kernel_rfl),evK_rs 8 rfl (by kernel_rfl),evK_r 10 (by kernel_rfl),rfl,rfl,evK_rs 7 rfl (by kernel_rfl),rfl,evK_rs 6 rfl (by kernel_rfl),rfl,evK_rs 11 rfl (by kernel_rfl),evK_r 17 (by kernel_rfl),rfl,evK_rs 16 rfl (by kernel_rfl),evK_rs 15 rfl (by kernel_rfl),evK_r 18 (by kernel_rfl),rfl,rfl,evK_rs 14 rfl (by kernel_rfl),rfl,evK_rs 13 rfl (by kernel_rfl),rfl,evK_rs 12 rfl (by kernel_rfl),rfl,evK_rs 5 rfl (by kernel_rfl),evK_rs 4 rfl (by kernel_rfl),evK_r 20 (by kernel_rfl),rfl,rfl,evK_rs 3 rfl (by kernel_rfl),rfl,evK_rs 2 rfl (by kernel_rfl),evK_rs 21 rfl (by kernel_rfl),rfl,evK_rs 1 rfl (by kernel_rfl),evK_rs 0 rfl (by kernel_rfl)⟩
theorem m69:mini fi69.body=c69_0:=by kernel_rfl
theorem n69_25 (fr:Fr)(st:St)(k:Kt):nextK gS fi69 (.loop c69_26 k) .normal fr st=evK gS fi69 c69_25 fr st k:=rfl
theorem n69_50 (fr:Fr)(st:St)(k:Kt):nextK gS fi69 (.loop c69_51 k) .normal fr st=evK gS fi69 c69_50 fr st k:=rfl
theorem n69_8 (fr:Fr)(st:St)(k:Kt):nextK gS fi69 (.loop c69_9 k) .normal fr st=evK gS fi69 c69_8 fr st k:=rfl
theorem A69 (l:List (List Pred))(h_l:∀ f∈l,PSm f)(h_n:l.length≤1000000)(io:Nat)(f:List Pred)(hio:l[io]?=some f)(row:List (List Pred))(h_r:∀ g∈row,PSm g)(h_m:row.length≤1000000)(kr:Nat)(st:St)(R:Out × St)(fb:Bool)
  (H:∀ (e0 e8 e9 e11 e32 e33 e34:E) (T:List (Nat × E)) (X:List (Nat × List V)) (ht0:e0.Tame) (ht8:e8.Tame) (ht9:e9.Tame) (ht11:e11.Tame) (ht32:e32.Tame) (ht33:e33.Tame) (ht34:e34.Tame),evK gS fi69 c69_38 {ps:=[(0,e0),(2,.own 0 []),(3,.own kr (encPredss row)),(5,.val (.slice (encPreds f))),(6,.val (.bool fb)),(8,e8),(9,e9),(11,e11),(12,.val (.slice (encPredss l))),(13,.val (.int .i64 l.length)),(14,.val (.int .i64 (io:Nat))),(18,.val (.slice (encPredss row))),(19,.val (.int .i64 row.length)),(20,.val (.int .i64 (row.length:Nat))),(32,e32),(33,e33),(34,e34)],ts:=T,lc:=X} st (.blk 1 (.seq c69_68 (.loop c69_9 (.blk 0 (.seq c69_69 .nil)))))=some R) :
  ∀ (n k:Nat) (b:Bool) (e18:E) (hc18:e18.calm=.val (.slice (encPredss row))) (e0 e8 e9 e11 e32 e33 e34:E) (T:List (Nat × E)) (X:List (Nat × List V)) (ht0:e0.Tame) (ht8:e8.Tame) (ht9:e9.Tame) (ht11:e11.Tame) (ht32:e32.Tame) (ht33:e33.Tame) (ht34:e34.Tame),k≤row.length→row.length - k=n→fb=(b || (row.drop k).any fun g=>fcovers g f) →
  evK gS fi69 c69_25 {ps:=[(0,e0),(2,.own 0 []),(3,.own kr (encPredss row)),(5,.val (.slice (encPreds f))),(6,.val (.bool b)),(8,e8),(9,e9),(11,e11),(12,.val (.slice (encPredss l))),(13,.val (.int .i64 l.length)),(14,.val (.int .i64 (io:Nat))),(18,e18),(19,.val (.int .i64 row.length)),(20,.val (.int .i64 (k:Nat))),(32,e32),(33,e33),(34,e34)],ts:=T,lc:=X} st (.blk 2 (.seq c69_38 (.blk 1 (.seq c69_68 (.loop c69_9 (.blk 0 (.seq c69_69 .nil)))))))=some R:=by
 intro n
 have hil:io<l.length:=(List.getElem?_eq_some_iff.1 hio).1
 have hie:l[io]'hil=f:=(List.getElem?_eq_some_iff.1 hio).2
 have hfs:=h_l f (zmg hio)
 have hfo:=hfs.ok
 induction n with
 | zero =>
  intro k b e18 hc18 e0 e8 e9 e11 e32 e33 e34 T X ht0 ht8 ht9 ht11 ht32 ht33 ht34 hk hn hb
  obtain rfl:k=row.length:=by omega
  refine evK_loop c69_26 _ st _ _ rfl ?_
  rw [List.drop_length] at hb
  have hb2:b=fb:=by rw [hb];simp
  subst hb2
  simp (config:={contextual:=true,maxSteps:=10000000,maxDischargeDepth:=6}) [ht0,ht8,ht9,ht11,ht32,ht33,ht34,hc18,-zil,-zit,-znl,-znt,ty3,ty4,ty29,ty77,H69,k95,k50,E69,e69_67,n69_25,n69_50,n69_8]
  all_goals (refine H _ _ _ _ _ _ _ _ _ ?_ ?_ ?_ ?_ ?_ ?_ ?_ <;> simp (config:={contextual:=true,maxSteps:=10000000,maxDischargeDepth:=6}) [ht0,ht8,ht9,ht11,ht32,ht33,ht34,hc18,])
 | succ n ih =>
  intro k b e18 hc18 e0 e8 e9 e11 e32 e33 e34 T X ht0 ht8 ht9 ht11 ht32 ht33 ht34 hk hn hb
  obtain ⟨x,hx⟩  := qgx (l:=row) (i:=k) (by omega)
  have hd:=drop_get hx
  have hlt:(k:Int)<(row.length:Int):=by omega
  have hlt2:k<row.length:=by omega
  have hxe:row[k]'hlt2=x:=by rw [zge hlt2] at hx;exact Option.some.inj hx
  have hw  := qws k (by omega)
  have hxo:=(h_r x (zmg hx)).ok
  rw [hd,List.any_cons] at hb
  have IH:=fun b' hb' e0 e8 e9 e11 e32 e33 e34 T X ht0 ht8 ht9 ht11 ht32 ht33 ht34=>ih (k+1) b' (.val (.slice (encPredss row))) rfl e0 e8 e9 e11 e32 e33 e34 T X ht0 ht8 ht9 ht11 ht32 ht33 ht34 (by omega) (by omega) hb'
  refine evK_loop c69_26 _ st _ _ rfl ?_
  cases b with
  | true =>
   have IHc:=IH true (by rw [hb];rfl)
   simp (config:={contextual:=true,maxSteps:=10000000,maxDischargeDepth:=6}) [-zia,hio,hil,hie,hx,hxe,hlt,hlt2,hw,IHc,ht0,ht8,ht9,ht11,ht32,ht33,ht34,hc18,-zil,-zit,-znl,-znt,ty3,ty4,ty29,ty77,H69,k95,k50,E69,e69_67,n69_25,n69_50,n69_8]
  | false =>
   have IHc:=IH (fcovers x f) (by rw [hb];rfl)
   simp (config:={contextual:=true,maxSteps:=10000000,maxDischargeDepth:=6}) [-zia,hio,hil,hie,hx,hxe,hlt,hlt2,hw,hxo,hfo,IHc,ht0,ht8,ht9,ht11,ht32,ht33,ht34,hc18,-zil,-zit,-znl,-znt,ty3,ty4,ty29,ty77,H69,k95,k50,E69,e69_67,n69_25,n69_50,n69_8]
theorem B69 (l:List (List Pred))(h_l:∀ f∈l,PSm f)(h_n:l.length≤1000000)(io:Nat)(f:List Pred)(hio:l[io]?=some f)(row:List (List Pred))(h_r:∀ g∈row,PSm g)(h_m:row.length≤1000000)(kr:Nat)(st:St)(R:Out × St)(fl:List (List Pred))
  (H:∀ (kl:Nat) (e0 e6 e8 e11 e18 e19 e20:E) (T:List (Nat × E)) (X:List (Nat × List V)) (ht0:e0.Tame) (ht6:e6.Tame) (ht8:e8.Tame) (ht11:e11.Tame) (ht18:e18.Tame) (ht19:e19.Tame) (ht20:e20.Tame),(kl=0∧fl=[]∨kl=1)→evK gS fi69 c69_67 {ps:=[(0,e0),(2,.own 0 []),(3,.own kr (encPredss row)),(5,.val (.slice (encPreds f))),(6,e6),(8,e8),(9,.own kl (encPredss fl)),(11,e11),(12,.val (.slice (encPredss l))),(13,.val (.int .i64 l.length)),(14,.val (.int .i64 (io:Nat))),(18,e18),(19,e19),(20,e20),(32,.val (.slice (encPredss row))),(33,.val (.int .i64 row.length)),(34,.val (.int .i64 (row.length:Nat)))],ts:=T,lc:=X} st (.blk 1 (.seq c69_68 (.loop c69_9 (.blk 0 (.seq c69_69 .nil)))))=some R) :
  ∀ (n k:Nat) (kl:Nat) (left:List (List Pred)) (e32:E) (hc32:e32.calm=.val (.slice (encPredss row))) (e0 e6 e8 e11 e18 e19 e20:E) (T:List (Nat × E)) (X:List (Nat × List V)) (ht0:e0.Tame) (ht6:e6.Tame) (ht8:e8.Tame) (ht11:e11.Tame) (ht18:e18.Tame) (ht19:e19.Tame) (ht20:e20.Tame),k≤row.length→row.length - k=n→left.length≤k→(kl=0∧left=[]∨kl=1)→fl=left ++ (row.drop k).filter (fun g=>!fcovers f g) →
  evK gS fi69 c69_50 {ps:=[(0,e0),(2,.own 0 []),(3,.own kr (encPredss row)),(5,.val (.slice (encPreds f))),(6,e6),(8,e8),(9,.own kl (encPredss left)),(11,e11),(12,.val (.slice (encPredss l))),(13,.val (.int .i64 l.length)),(14,.val (.int .i64 (io:Nat))),(18,e18),(19,e19),(20,e20),(32,e32),(33,.val (.int .i64 row.length)),(34,.val (.int .i64 (k:Nat)))],ts:=T,lc:=X} st (.blk 4 (.seq c69_67 (.blk 1 (.seq c69_68 (.loop c69_9 (.blk 0 (.seq c69_69 .nil)))))))=some R:=by
 intro n
 have hil:io<l.length:=(List.getElem?_eq_some_iff.1 hio).1
 have hie:l[io]'hil=f:=(List.getElem?_eq_some_iff.1 hio).2
 have hfs:=h_l f (zmg hio)
 have hfo:=hfs.ok
 induction n with
 | zero =>
  intro k kl left e32 hc32 e0 e6 e8 e11 e18 e19 e20 T X ht0 ht6 ht8 ht11 ht18 ht19 ht20 hk hn hll hkl hb
  obtain rfl:k=row.length:=by omega
  refine evK_loop c69_51 _ st _ _ rfl ?_
  rw [List.drop_length,List.filter_nil,List.append_nil] at hb
  subst hb
  simp (config:={contextual:=true,maxSteps:=10000000,maxDischargeDepth:=6}) [ht0,ht6,ht8,ht11,ht18,ht19,ht20,hc32,-zil,-zit,-znl,-znt,ty3,ty4,ty29,ty77,H69,k95,k50,E69,e69_38,n69_25,n69_50,n69_8]
  all_goals (refine H kl _ _ _ _ _ _ _ _ _ ?_ ?_ ?_ ?_ ?_ ?_ ?_ ?_ <;> first | exact hkl | simp (config:={contextual:=true,maxSteps:=10000000,maxDischargeDepth:=6}) [ht0,ht6,ht8,ht11,ht18,ht19,ht20,hc32,])
 | succ n ih =>
  intro k kl left e32 hc32 e0 e6 e8 e11 e18 e19 e20 T X ht0 ht6 ht8 ht11 ht18 ht19 ht20 hk hn hll hkl hb
  obtain ⟨x,hx⟩  := qgx (l:=row) (i:=k) (by omega)
  have hd:=drop_get hx
  have hlt:(k:Int)<(row.length:Int):=by omega
  have hlt2:k<row.length:=by omega
  have hxe:row[k]'hlt2=x:=by rw [zge hlt2] at hx;exact Option.some.inj hx
  have hw  := qws k (by omega)
  have hxo:=(h_r x (zmg hx)).ok
  rw [hd,List.filter_cons] at hb
  have IH:=fun kl left h1 h2 h3 e0 e6 e8 e11 e18 e19 e20 T X ht0 ht6 ht8 ht11 ht18 ht19 ht20=>ih (k+1) kl left (.val (.slice (encPredss row))) rfl e0 e6 e8 e11 e18 e19 e20 T X ht0 ht6 ht8 ht11 ht18 ht19 ht20 (by omega) (by omega) h1 h2 h3
  refine evK_loop c69_51 _ st _ _ rfl ?_
  cases hcv:fcovers f x with
  | true =>
   have IHc:=IH kl left (by omega) hkl (by rw [hb,hcv];rfl)
   simp (config:={contextual:=true,maxSteps:=10000000,maxDischargeDepth:=6}) [-zia,hio,hil,hie,hx,hxe,hlt,hlt2,hw,hxo,hfo,hcv,IHc,ht0,ht6,ht8,ht11,ht18,ht19,ht20,hc32,-zil,-zit,-znl,-znt,ty3,ty4,ty29,ty77,H69,k95,k50,E69,e69_38,n69_25,n69_50,n69_8]
  | false =>
   have IHc:=IH 1 (left ++ [x]) (by simp;omega) (.inr rfl) (by rw [hb,hcv];simp)
   have hs1:=sizes_predss left
   have hs2:=predss_snoc left x
   have hl1:(left.length+1)*24≤140737488355328:=by omega
   have hl2:left.length+1≤140737488355328:=by omega
   rcases hkl with ⟨rfl,rfl⟩ | rfl
   ·rw [show encPredss ([] ++ [x])=[.slice (encPreds x)] from rfl] at IHc
    have en:encPredss []=[]:=rfl
    simp [-zia,en,hio,hil,hie,hx,hxe,hlt,hlt2,hw,hxo,hfo,hcv,ht0,ht6,ht8,ht11,ht18,ht19,ht20,hc32,-zil,-zit,-znl,-znt,ty3,ty4,ty29,ty77,H69,k95,k50,E69,e69_38,n69_25,n69_50,n69_8]
    all_goals (refine IHc _ _ _ _ _ _ _ _ _ ?_ ?_ ?_ ?_ ?_ ?_ ?_ <;> simp [ht0,ht6,ht8,ht11,ht18,ht19,ht20,hc32,])
   ·simp [-zaa,-zia,hio,hil,hie,hx,hxe,hlt,hlt2,hw,hxo,hfo,hcv,IHc,hs1,hs2,hl1,hl2,ht0,ht6,ht8,ht11,ht18,ht19,ht20,hc32,-zil,-zit,-znl,-znt,ty3,ty4,ty29,ty77,H69,k95,k50,E69,e69_38,n69_25,n69_50,n69_8]
def fredStep (row:List (List Pred))(f:List Pred):List (List Pred):=if row.any (fun g=>fcovers g f) then row else row.filter (fun g=>!fcovers f g) ++ [f]
def freduce (l:List (List Pred)):List (List Pred):=l.foldl fredStep []
theorem fredStep_mem {row:List (List Pred)} {f g:List Pred} (h:g∈fredStep row f):g∈row∨g=f:=by
 unfold fredStep at h
 split at h
 ·exact .inl h
 ·rcases List.mem_append.1 h with h | h
  ·exact .inl (List.mem_filter.1 h).1
  ·exact .inr (by simpa using h)
theorem fredStep_len (row:List (List Pred))(f:List Pred):(fredStep row f).length≤row.length+1:=by
 unfold fredStep
 split
 ·omega
 ·have:=List.length_filter_le (fun g=>!fcovers f g) row
  simp;omega
theorem O69 (l:List (List Pred))(h_l:∀ f∈l,PSm f)(h_n:l.length≤1000000)(st:St) :
  ∀ (n io:Nat) (row:List (List Pred)) (kr:Nat) (e0 e5 e6 e8 e9 e11 e18 e19 e20 e32 e33 e34:E) (T:List (Nat × E)) (X:List (Nat × List V)) (ht0:e0.Tame) (ht5:e5.Tame) (ht6:e6.Tame) (ht8:e8.Tame) (ht9:e9.Tame) (ht11:e11.Tame) (ht18:e18.Tame) (ht19:e19.Tame) (ht20:e20.Tame) (ht32:e32.Tame) (ht33:e33.Tame) (ht34:e34.Tame),(∀ g∈row,PSm g)→row.length≤io→io≤l.length→l.length - io=n→(kr=0∧row=[]∨kr=1) →
  evK gS fi69 c69_8 {ps:=[(0,e0),(2,.own 0 []),(3,.own kr (encPredss row)),(5,e5),(6,e6),(8,e8),(9,e9),(11,e11),(12,.val (.slice (encPredss l))),(13,.val (.int .i64 l.length)),(14,.val (.int .i64 (io:Nat))),(18,e18),(19,e19),(20,e20),(32,e32),(33,e33),(34,e34)],ts:=T,lc:=X} st (.blk 0 (.seq c69_69 .nil))=some (.ret (.slice (encPredss ((l.drop io).foldl fredStep row))) none,st):=by
 intro n
 induction n with
 | zero =>
  intro io row kr e0 e5 e6 e8 e9 e11 e18 e19 e20 e32 e33 e34 T X ht0 ht5 ht6 ht8 ht9 ht11 ht18 ht19 ht20 ht32 ht33 ht34 h_r hri hio hn hkr
  obtain rfl:io=l.length:=by omega
  rw [List.drop_length]
  have hz:∀ st,frz 6 st (.slice (encPredss row))=some (.slice (encPredss row),st):=fun st=>frz_flat 6 st _ (by simp [V.flat])
  show _=some (Out.ret (V.slice (encPredss row)) none,st)
  refine evK_loop c69_9 _ _ _ _ rfl ?_
  rcases hkr with ⟨rfl,rfl⟩ | rfl
  ·have en:encPredss []=[]:=rfl
   rw [en] at hz ⊢
   simp [hz,ht0,ht5,ht6,ht8,ht9,ht11,ht18,ht19,ht20,ht32,ht33,ht34,-zil,-zit,-znl,-znt,ty3,ty4,ty29,ty77,H69,k95,k50,E69,e69_38,n69_25,n69_50,n69_8]
  ·simp [hz,ht0,ht5,ht6,ht8,ht9,ht11,ht18,ht19,ht20,ht32,ht33,ht34,-zil,-zit,-znl,-znt,ty3,ty4,ty29,ty77,H69,k95,k50,E69,e69_38,n69_25,n69_50,n69_8]
 | succ n ih =>
  intro io row kr e0 e5 e6 e8 e9 e11 e18 e19 e20 e32 e33 e34 T X ht0 ht5 ht6 ht8 ht9 ht11 ht18 ht19 ht20 ht32 ht33 ht34 h_r hri hio hn hkr
  obtain ⟨f,hf⟩:∃ f,l[io]?=some f:=⟨l[io]'(by omega),zge (by omega)⟩
  have hd:=drop_get hf
  have hlt:(io:Int)<(l.length:Int):=by omega
  have hlt2:io<l.length:=by omega
  have hfe:l[io]'hlt2=f:=by rw [zge hlt2] at hf;exact Option.some.inj hf
  have hw  := qws io (by omega)
  have hfs:=h_l f (zmg hf)
  have hfo:=hfs.ok
  rw [hd,List.foldl_cons]
  have hmr:∀ g∈fredStep row f,PSm g:=fun g hg=>by
   rcases fredStep_mem hg with h | rfl
   ·exact h_r g h
   ·exact hfs
  have hln:=fredStep_len row f
  have IH:=fun kr hkr e0 e5 e6 e8 e9 e11 e18 e19 e20 e32 e33 e34 T X ht0 ht5 ht6 ht8 ht9 ht11 ht18 ht19 ht20 ht32 ht33 ht34=>ih (io+1) (fredStep row f) kr e0 e5 e6 e8 e9 e11 e18 e19 e20 e32 e33 e34 T X ht0 ht5 ht6 ht8 ht9 ht11 ht18 ht19 ht20 ht32 ht33 ht34 hmr (by omega) (by omega) (by omega) hkr
  generalize hR:(Out.ret (V.slice (encPredss ((l.drop (io+1)).foldl fredStep (fredStep row f)))) none,st)=R at IH ⊢
  have AA:=fun H=>A69 l h_l h_n io f hf row h_r (by omega) kr st R (row.any fun g=>fcovers g f) H row.length 0 false
  have BB:=fun H=>B69 l h_l h_n io f hf row h_r (by omega) kr st R (row.filter fun g=>!fcovers f g) H row.length 0 0 []
  clear ih
  clear hR
  refine evK_loop c69_9 _ _ _ _ rfl ?_
  simp [-zia,hf,hfe,hlt,hlt2,hw,ht0,ht5,ht6,ht8,ht9,ht11,ht18,ht19,ht20,ht32,ht33,ht34,-zil,-zit,-znl,-znt,ty3,ty4,ty29,ty77,H69,k95,k50,E69,e69_38,n69_25,n69_50,n69_8]
  refine AA ?_ _ rfl _ _ _ _ _ _ _ _ _ ?_ ?_ ?_ ?_ ?_ ?_ ?_ (Nat.zero_le _) rfl (by simp)
  ·clear AA
   intro e0 e8 e9 e11 e32 e33 e34 T X ht0 ht8 ht9 ht11 ht32 ht33 ht34
   cases hc:row.any fun g=>fcovers g f with
   | true =>
    have he:fredStep row f=row:=by unfold fredStep;rw [if_pos hc]
    rw [he] at IH
    have IHr:=IH kr hkr
    simp [-zia,hf,hfe,hlt,hlt2,hw,ht0,ht8,ht9,ht11,ht32,ht33,ht34,-zil,-zit,-znl,-znt,ty3,ty4,ty29,ty77,H69,k95,k50,E69,e69_38,n69_25,n69_50,n69_8]
    refine IHr _ _ _ _ _ _ _ _ _ _ _ _ _ _ ?_ ?_ ?_ ?_ ?_ ?_ ?_ ?_ ?_ ?_ ?_ ?_
    all_goals simp [ht0,ht8,ht9,ht11,ht32,ht33,ht34,]
   | false =>
    have he:fredStep row f=row.filter (fun g=>!fcovers f g) ++ [f]:=by unfold fredStep;rw [if_neg (by rw [hc];simp)]
    rw [he] at IH
    simp [-zia,hf,hfe,hlt,hlt2,hw,ht0,ht8,ht9,ht11,ht32,ht33,ht34,-zil,-zit,-znl,-znt,ty3,ty4,ty29,ty77,H69,k95,k50,E69,e69_38,n69_25,n69_50,n69_8]
    refine BB ?_ _ rfl _ _ _ _ _ _ _ _ _ ?_ ?_ ?_ ?_ ?_ ?_ ?_ (Nat.zero_le _) rfl (Nat.le_refl _) (.inl ⟨rfl,rfl⟩) (by simp)
    ·intro kl e0 e6 e8 e11 e18 e19 e20 T X ht0 ht6 ht8 ht11 ht18 ht19 ht20 hkl
     generalize hfl:row.filter (fun g=>!fcovers f g)=fl at *
     have hfll:fl.length≤1000000:=by
      have:=List.length_filter_le (fun g=>!fcovers f g) row
      rw [hfl] at this;omega
     have hs1:=sizes_predss fl
     have hs2:=predss_snoc fl f
     have hl1:(fl.length+1)*24≤140737488355328:=by omega
     have hl2:fl.length+1≤140737488355328:=by omega
     have IHr:=IH 1 (.inr rfl)
     rcases hkl with ⟨rfl,rfl⟩ | rfl
     ·rw [show encPredss ([] ++ [f])=[.slice (encPreds f)] from rfl] at IHr
      have en:encPredss []=[]:=rfl
      simp [-zia,en,hf,hfe,hlt,hlt2,hw,hfs,hfo,ht0,ht6,ht8,ht11,ht18,ht19,ht20,-zil,-zit,-znl,-znt,ty3,ty4,ty29,ty77,H69,k95,k50,E69,e69_67,e69_38,n69_25,n69_50,n69_8]
      refine IHr _ _ _ _ _ _ _ _ _ _ _ _ _ _ ?_ ?_ ?_ ?_ ?_ ?_ ?_ ?_ ?_ ?_ ?_ ?_
      all_goals simp [ht0,ht6,ht8,ht11,ht18,ht19,ht20,]
     ·simp [-zaa,-zia,hf,hfe,hlt,hlt2,hw,hfs,hfo,hs1,hs2,hl1,hl2,ht0,ht6,ht8,ht11,ht18,ht19,ht20,-zil,-zit,-znl,-znt,ty3,ty4,ty29,ty77,H69,k95,k50,E69,e69_67,e69_38,n69_25,n69_50,n69_8]
      refine IHr _ _ _ _ _ _ _ _ _ _ _ _ _ _ ?_ ?_ ?_ ?_ ?_ ?_ ?_ ?_ ?_ ?_ ?_ ?_
      all_goals simp [ht0,ht6,ht8,ht11,ht18,ht19,ht20,]
    all_goals simp [ht0,ht8,ht9,ht11,ht32,ht33,ht34,]
  all_goals simp [ht0,ht5,ht6,ht8,ht9,ht11,ht18,ht19,ht20,ht32,ht33,ht34,]
theorem c69 (l:List (List Pred))(h_l:∀ f∈l,PSm f)(h_n:l.length≤1000000)(st:St):EvF gS 69 [.slice (encPredss l)] st=some (.ret (.slice (encPredss (freduce l))) none,st):=by
 refine EvF_start fi49_eq (fun x h=>by cases h) m69 ?_
 rw [st69]
 have L0:=fun e0 e5 e6 e8 e9 e11 e18 e19 e20 e32 e33 e34 T X ht0 ht5 ht6 ht8 ht9 ht11 ht18 ht19 ht20 ht32 ht33 ht34=>O69 l h_l h_n st l.length 0 [] 0 e0 e5 e6 e8 e9 e11 e18 e19 e20 e32 e33 e34 T X ht0 ht5 ht6 ht8 ht9 ht11 ht18 ht19 ht20 ht32 ht33 ht34 (by simp) (Nat.zero_le _) (Nat.zero_le _) rfl (.inl ⟨rfl,rfl⟩)
 simp only [show ((0:Nat):Int)=0 from rfl,List.drop_zero,show encPredss []=[] from rfl] at L0
 show _=some (Out.ret (V.slice (encPredss (l.foldl fredStep []))) none,st)
 simp [L0,-zil,-zit,-znl,-znt,ty3,ty4,ty29,ty77,H69,k95,k50,E69,e69_67,e69_38,n69_25,n69_50,n69_8]
theorem k69 (l:List (List Pred))(h_l:∀ f∈l,PSm f)(h_n:l.length≤1000000)(fr:Fr)(st:St):callStep gS (EvF gS) 69 [.slice (encPredss l)] fr st=some (.ok (.val (.slice (encPredss (freduce l)))) fr st) :=
 call_pure rfl fi49_eq rfl (fun st=>c69 l h_l h_n st) (by simp [V.flat])
end
end Go.Proofs.Ytdoobejjedpcgaa
namespace Go.Ab
open Go
theorem new_feed (st:St)(l:List Int):({objs:=st.objs ++ [[V.slice (intVs l),V.int .i64 0]],wp:=st.wp}:St)=setF (nw st 0 []) st.objs.length l (nA l 0 0):=by
 unfold setF nw nA
 simp
theorem feedOk_new {st:St} (h:st.wp≤st.objs.length):FeedOk (nw st 0 []) st.objs.length:=⟨by rw [gr_len];omega,h⟩
def shr (g:List Grp)(a b:Nat):Bool:=!decide (bothI ((g[b]?).getD default).clients ((g[a]?).getD default).clients []=[])
end Go.Ab
namespace Go.Ab
open Go
def rsSt:Option Sub→Int→List Sub→Option Sub × Int
 | o,m,[]=>(o,m)
 | none,m,s :: r=>rsSt (some s) 1 r
 | some t,m,s :: r=>if t.client<s.client then rsSt (some s) 1 r else rsSt (some s) (m+1) r
theorem rsG_append:∀ (xs:List Sub)(o:Option Sub)(m:Int)(s:Sub),rsG o m (xs ++ [s])=(rsG o m xs && rsG (rsSt o m xs).1 (rsSt o m xs).2 [s])
 | [],o,m,s=>by simp [rsSt,rsG]
 | x :: r,none,m,s=>by
  rw [List.cons_append]
  simp only [rsG,rsSt]
  rw [rsG_append r (some x) 1 s,Bool.and_assoc]
 | x :: r,some t,m,s=>by
  rw [List.cons_append]
  simp only [rsG,rsSt]
  by_cases h:t.client<x.client
  ·simp only [h,if_true]
   rw [rsG_append r (some x) 1 s,Bool.and_assoc]
  ·simp only [h,if_false]
   rw [rsG_append r (some x) (m+1) s,Bool.and_assoc,Bool.and_assoc]
theorem rsSt_append:∀ (xs:List Sub)(o:Option Sub)(m:Int)(s:Sub),(rsSt o m (xs ++ [s])).1=some s∧(rsSt o m (xs ++ [s])).2=match (rsSt o m xs).1 with
  | none=>1
  | some t=>if t.client<s.client then 1 else (rsSt o m xs).2+1
 | [],none,m,s=>by simp [rsSt]
 | [],some t,m,s=>by
  simp only [List.nil_append,rsSt]
  split <;> simp [rsSt]
 | x :: r,none,m,s=>by
  rw [List.cons_append]
  simp only [rsSt]
  exact rsSt_append r (some x) 1 s
 | x :: r,some t,m,s=>by
  rw [List.cons_append]
  simp only [rsSt]
  by_cases h:t.client<x.client
  ·simp only [h,if_true];exact rsSt_append r (some x) 1 s
  ·simp only [h,if_false];exact rsSt_append r (some x) (m+1) s
structure SoFar (P:Nat) (c home num:Int) (k:Nat) (out:List Sub):Prop where
 right:rightS out=true
 bro:∀ s∈out,s.broker≤P
 last:∀ t,(rsSt none 0 out).1=some t→t.client<c∨(t.client=c∧t.broker=home∧t.num≤num∧(rsSt none 0 out).2≤k)
theorem may_of {c home num:Int} {f:List Pred} (h1:1≤c)(h2:c≤6)(h3:0≤home)(h4:home≤7)(h5:1≤num)(h6:num≤100)(hf:fright f=true):mayS ⟨c,home,num,f⟩=true:=by
 simp only [mayS,Bool.and_eq_true,decide_eq_true_eq]
 exact ⟨⟨⟨⟨⟨⟨h1,h2⟩,h3⟩,h4⟩,h5⟩,by omega⟩,hf⟩
theorem SoFar.snoc {P:Nat} {c home num num':Int} {k:Nat} {out:List Sub} {f:List Pred} (h:SoFar P c home num k out)(hP:P≤7)(h1:1≤c)(h2:c≤6)(h3:0≤home)(h4:home≤P)(h5:num<num')(h5':1≤num')(h6:num'≤100)(hk:k≤2)(hf:fright f=true) :
  SoFar P c home num' (k+1) (out ++ [⟨c,home,num',f⟩]):=by
 have hm:=may_of (f:=f) h1 h2 h3 (show home≤7 by omega) h5' h6 hf
 have ha:=rsG_append out none 0 ⟨c,home,num',f⟩
 have hs:=rsSt_append out none 0 ⟨c,home,num',f⟩
 have hl:=h.last
 have hr:=h.right
 unfold rightS at hr
 refine ⟨?_,fun s hs=>?_,fun t ht=>?_⟩
 ·unfold rightS
  rw [ha,hr,Bool.true_and]
  cases ho:(rsSt none 0 out).1 with
  | none=>simp [rsG,hm]
  | some t =>
   simp only [rsG,hm,Bool.true_and,Bool.and_true]
   rcases hl t ho with h' | ⟨e1,e2,e3,e4⟩
   ·simp [h']
   ·have n1:¬ t.client<c:=by omega
    have n2:¬ c<t.client:=by omega
    have n3:¬ num'≤t.num:=by omega
    have n4:¬ (3:Int)<(rsSt none 0 out).2+1:=by omega
    simp [n1,n2,n3,n4,e2]
 ·rcases List.mem_append.1 hs with hs | hs
  ·exact h.bro s hs
  ·simp at hs;subst hs;exact h4
 ·rw [hs.1] at ht
  cases ht
  refine .inr ⟨rfl,rfl,Int.le_refl _,?_⟩
  rw [hs.2]
  cases ho:(rsSt none 0 out).1 with
  | none=>simp only;omega
  | some t =>
   simp only
   split
   ·omega
   ·rename_i hn
    rcases hl t ho with h' | ⟨e1,e2,e3,e4⟩
    ·exact absurd h' hn
    ·omega
theorem subsI_right (l:List Int)(a P:Nat)(fs:List (List Pred))(c home:Int)(hP:P≤7)(h1:1≤c)(h2:c≤6)(h3:0≤home)(h4:home≤P)(hfs:∀ f∈fs,fright f=true):∀ (n:Nat) (num:Int) (j d k:Nat) (out:List Sub),n+k≤3→0≤num→num≤2*k→SoFar P c home num k out →
  ∃ num' k',SoFar P c home num' k' (subsI l a fs c home n num j d out).1
 | 0,num,j,d,k,out,_,_,_,h=>⟨num,k,h⟩
 | n+1,num,j,d,k,out,hn,hm,hm2,h=>by
  simp only [subsI]
  have hb:=fd_bound l a j (n:=2) (by omega)
  refine subsI_right l a P fs c home hP h1 h2 h3 h4 hfs n (num+1+fd l a j 2) _ _ (k+1) _ (by omega) (by omega) (by omega) (h.snoc hP h1 h2 h3 h4 (by omega) (by omega) (by omega) (by omega) ?_)
  split
  ·cases hg:fs[(fd l a (filterV l a (j+1)).2.1 6).toNat]? with
   | none=>rw [List.getD_eq_getElem?_getD,hg];rfl
   | some f=>rw [List.getD_eq_getElem?_getD,hg];exact hfs f (zmg hg)
  ·have:=filterV_ffv l a (j+1)
   exact ffv_right this.1 this.2
theorem SoFar.next {P:Nat} {c home num:Int} {k:Nat} {out:List Sub} (h:SoFar P c home num k out)(home':Int):SoFar P (c+1) home' 0 0 out :=
 ⟨h.right,h.bro,fun t ht=>.inl (by rcases h.last t ht with h | h <;> omega)⟩
theorem subsO_right (l:List Int)(a P:Nat)(fs:List (List Pred))(hP:P≤7)(hfs:∀ f∈fs,fright f=true):∀ (r:Nat) (c:Int) (j d:Nat) (out:List Sub),1≤c→c+r≤7→(∀ home,SoFar P c home 0 0 out)→∃ c' home num k,SoFar P c' home num k (subsO l a P fs r c j d out).1
 | 0,c,j,d,out,_,_,h=>⟨c,0,0,0,h 0⟩
 | r+1,c,j,d,out,h1,h2,h=>by
  simp only [subsO]
  have hb:=fd_bound l a j (n:=(P:Int)+1) (by omega)
  have hb4:=fd_bound l a (j+1) (n:=4) (by omega)
  obtain ⟨num',k',h'⟩:=subsI_right l a P fs c (fd l a j (P+1)) hP h1 (by omega) hb.1 (by omega) hfs (fd l a (j+1) 4).toNat 0 (j+2) d 0 out (by omega) (by omega) (by omega) (h _)
  exact subsO_right l a P fs hP hfs r _ _ _ _ (by omega) (by omega) fun home=>h'.next home
theorem subsV_right (l:List Int)(a j P:Nat)(hP:P≤7):rightS (subsV l a j P).1=true∧∀ s∈(subsV l a j P).1,s.broker≤P:=by
 unfold subsV
 have hfs:∀ f∈subsF l a j,fright f=true:=fun f hf=>by
  unfold subsF at hf
  simp at hf
  rcases hf with rfl | rfl | rfl
  ·have:=filterV_ffv l a j;exact ffv_right this.1 this.2
  ·have:=filterV_ffv l a (filterV l a j).2.1;exact ffv_right this.1 this.2
  ·rfl
 obtain ⟨c',home,num,k,h⟩:=subsO_right l a P (subsF l a j) hP hfs 6 1 (filterV l a (filterV l a j).2.1).2.1 ((filterV l a j).2.2+(filterV l a (filterV l a j).2.1).2.2) [] (by omega) (by omega) fun home=>⟨rfl,by simp,fun t ht=>by simp [rsSt] at ht⟩
 exact ⟨h.right,h.bro⟩
end Go.Ab
namespace Go.Ab
open Go
def kidG (b:Int):Nat→List Int→List Int→List Int
 | _,[],out=>out
 | i,x :: r,out=>kidG b (i+1) r (if x=b then out ++ [((i+1:Nat):Int)] else out)
def kidsT (p:List Int)(b:Int):List Int:=if isT p b then kidG b 0 p [] else []
def nearT (p:List Int)(b:Int):List Int:=if isT p b then (if 0<b then [p.getD (b.toNat - 1) 0] else []) ++ kidsT p b else []
def nextT (p:List Int)(a b:Int):Int:=if isT p a && isT p b && !decide (a=b) then (pathT p a.toNat b.toNat).getD 1 0 else -1
def sideG (p:List Int)(b n:Int):Nat→Nat→List Int→List Int
 | 0,_,out=>out
 | k+1,x,out=>sideG p b n k (x+1) (if nextT p b x=n then out ++ [(x:Int)] else out)
def sideT (p:List Int)(b n:Int):List Int:=if 0≤n then sideG p b n (p.length+1) 0 [] else []
structure Tbl where
 near:Int
 fs:List (List Pred)
 deriving Inhabited
def Tbl.cells (t:Tbl):List V:=[.int .i64 t.near,.slice (encPredss t.fs)]
def Tbl.enc (t:Tbl):V:=.agg t.cells
def encTbls (l:List Tbl):List V:=l.map Tbl.enc
def wantT (side:List Int)(l:List Sub):List (List Pred):=(l.filter fun s=>hasI side s.broker).map Sub.filter
def wantG (side:List Int):List Sub→List (List Pred)→List (List Pred)
 | [],out=>out
 | s :: r,out=>wantG side r (if hasI side s.broker then out ++ [s.filter] else out)
theorem wantG_eq (side:List Int):∀ (l:List Sub) (out:List (List Pred)),wantG side l out=out ++ wantT side l
 | [],out=>by simp [wantG,wantT]
 | s :: r,out=>by
  unfold wantG
  rw [wantG_eq side r]
  unfold wantT
  rw [List.filter_cons]
  split <;> simp
def tabOf (p:List Int)(l:List Sub)(b n:Int):Tbl:=⟨n,freduce (wantG (sideT p b n) l [])⟩
def tablesT (p:List Int)(l:List Sub)(b:Int):List Tbl:=(nearT p b).map (tabOf p l b)
theorem upP_one {p:List Int} {a:Nat} (h:(upP p a).length=1):a=0:=by
 cases a with
 | zero=>rfl
 | succ a=>simp [upP,upF] at h
theorem trimN_two (A B:List Int)(h0:A[0]?≠B[0]?):∀ (k a b:Nat),¬ (a=1∧b=1)→0<a→0<b→¬ ((trimN A B k a b).1=1∧(trimN A B k a b).2=1)
 | 0,a,b,h,_,_=>h
 | k+1,a,b,h,ha,hb=>by
  unfold trimN
  split
  ·rename_i hc
   refine trimN_two A B h0 k (a - 1) (b - 1) ?_ (by omega) (by omega)
   rintro ⟨h1,h2⟩
   have e1:a - 2=0:=by omega
   have e2:b - 2=0:=by omega
   rw [e1,e2] at hc
   exact h0 hc.2.2
  ·exact h
theorem path_two {p:List Int} {a b:Nat} (h:a≠b):2≤(pathT p a b).length:=by
 have hA:=upP_len p a
 have hB:=upP_len p b
 have h0:(upP p a)[0]?≠(upP p b)[0]?:=by simp [upP];omega
 have h1:¬ ((upP p a).length=1∧(upP p b).length=1):=fun ⟨e1,e2⟩=>h (by rw [upP_one e1,upP_one e2])
 have h2:=trimN_two (upP p a) (upP p b) h0 100 _ _ h1 hA.1 hB.1
 have h3:=trimN_le (upP p a) (upP p b) 100 (upP p a).length (upP p b).length hA.1 hB.1
 unfold pathT joinT
 simp only [zla,List.length_take,List.length_reverse]
 omega
theorem encTbls_length (l:List Tbl):(encTbls l).length=l.length:=by simp [encTbls]
theorem encTbls_get (l:List Tbl)(i:Nat):(encTbls l)[i]?=(l[i]?).map Tbl.enc:=by simp [encTbls]
theorem encTbls_gE (l:List Tbl)(i:Nat)(h:i<(encTbls l).length):(encTbls l)[i]'h=(l[i]'(by rw [encTbls_length] at h;exact h)).enc:=by simp [encTbls]
theorem flat_tbl (v:Tbl):v.enc.flat=true:=by simp [Tbl.enc,Tbl.cells,V.flat,flats]
theorem flats_tbls (l:List Tbl):flats (encTbls l)=true:=by
 induction l with
 | nil=>rfl
 | cons x r ih=>simp only [encTbls,List.map_cons,flats,flat_tbl] at ih ⊢;exact ih
attribute [simp] encTbls_length encTbls_get encTbls_gE flat_tbl flats_tbls Tbl.enc Tbl.cells
theorem sizes_tbls (l:List Tbl):sizesOk 2 (encTbls l)=true:=by
 induction l with
 | nil=>rfl
 | cons x r ih=>simp only [encTbls,List.map_cons,sizesOk] at ih ⊢;rw [ih];rfl
theorem tbls_snoc (l:List Tbl)(t:Tbl):encTbls l ++ [.agg [.int .i64 t.near,.slice (encPredss t.fs)]]=encTbls (l ++ [t]):=by simp [encTbls]
theorem kidG_len (b:Int):∀ (r:List Int) (i:Nat) (out:List Int),(kidG b i r out).length≤out.length+r.length
 | [],_,_=>Nat.le_refl _
 | x :: r,i,out=>by
  have h1:=kidG_len b r (i+1) (if x=b then out ++ [((i+1:Nat):Int)] else out)
  have h2:(if x=b then out ++ [((i+1:Nat):Int)] else out).length≤out.length+1:=by split <;> simp
  unfold kidG
  simp only [List.length_cons];omega
theorem nearT_len (p:List Int)(b:Int):(nearT p b).length≤1+p.length:=by
 have h1:=kidG_len b p 0 []
 unfold nearT kidsT
 split
 ·rw [zla]
  simp only [List.length_nil,Nat.zero_add] at h1
  split <;> simp <;> omega
 ·simp
theorem sideG_len (p:List Int)(b n:Int):∀ (k x:Nat) (out:List Int),(sideG p b n k x out).length≤out.length+k
 | 0,_,_=>Nat.le_refl _
 | k+1,x,out=>by
  have h1:=sideG_len p b n k (x+1) (if nextT p b x=n then out ++ [(x:Int)] else out)
  have h2:(if nextT p b x=n then out ++ [(x:Int)] else out).length≤out.length+1:=by split <;> simp
  unfold sideG;omega
theorem sideT_len (p:List Int)(b n:Int):(sideT p b n).length≤p.length+1:=by
 have:=sideG_len p b n (p.length+1) 0 []
 unfold sideT
 split
 ·simpa using this
 ·simp
end Go.Ab
namespace Go.Proofs.Ytdoobejjedpcgaa
open Go Go.Ab
noncomputable section
variable (fr:Fr)(st:St)(k:Kt)
def fi73:FI:={body:=codeOf Try.f73,ntmps:=30,results:=[.tmp 4],pers:=[0,1,4,5,6,7,13,14,15],locals:=[],pure:=true,marks:=[1000000]}
theorem H73:fi73.marks=[1000000]∧fi73.locals=[]∧fi73.results=[.tmp 4]:=⟨rfl,rfl,rfl⟩
theorem fi207_eq:gS.fn 73=some fi73:=by kernel_rfl
theorem st73 (a0 a1:V):startFr fi73 [a0,a1]={ps:=[(0,.val a0),(1,.val a1),(4,.any),(5,.any),(6,.any),(7,.any),(13,.any),(14,.any),(15,.any)],ts:=[],lc:=[]}:=rfl
def b73:Code:=mini (codeOf Try.f73)
def c73_8:Code:=.seq (codeN b73 75) .ret
def c73_7:Code:=.cond (.tmp 11) c73_8 .skip
def c73_5:Code:=.seq (codeN b73 19) c73_7
def c73_30:Code:=codeN b73 22935
def c73_29:Code:=.cond (.tmp 22) c73_30 .skip
def c73_27:Code:=.seq (codeN b73 10647) c73_29
def c73_25:Code:=.seq (codeN b73 4503) c73_27
def c73_32:Code:=codeN b73 1943
def c73_23:Code:=.seq (.block 1 c73_25) c73_32
def c73_19:Code:=.seq (.cond (.tmp 16) .skip (.exit 0)) c73_23
def c73_17:Code:=.seq (codeN b73 279) c73_19
def c73_16:Code:=.loop c73_17
def c73_15:Code:=.block 0 c73_16
def c73_13:Code:=.seq (codeN b73 39) c73_15
def c73_33:Code:=.seq (codeN b73 47) .ret
theorem e73_33:evK gS fi73 c73_33 fr st k=opsR gS fi73 [mv 29 5 22,
 asn 4 29 22] fr st (.seq .ret k):=evK_rs 10 rfl (by kernel_rfl)
def c73_12:Code:=.seq c73_13 c73_33
def c73_4:Code:=.seq c73_5 c73_12
def c73_2:Code:=.seq (codeN b73 5) c73_4
def c73_0:Code:=.seq (codeN b73 2) c73_2
theorem E73:(evK gS fi73 c73_8 fr st k=opsR gS fi73 [mv 12 5 22,
 asn 4 12 22] fr st (.seq .ret k)) ∧
 evK gS fi73 c73_7 fr st k=condK gS fi73 (fr.op (.tmp 11)).bool? c73_8 .skip fr st k ∧
 (evK gS fi73 c73_5 fr st k=opsR gS fi73 [mv 8 0 22,
 mv 9 1 3,
 cal 10 72 [(.tmp 8),(.tmp 9)] [22,3] 4,
 op1 11 (.unOp .not 4 (.tmp 10)) 4] fr st (.seq c73_7 k)) ∧
 (evK gS fi73 c73_30 fr st k=opsR gS fi73 [mv 23 5 22,
 mv 24 6 3,
 qB 25 .add 3 24 1 3 3,
 qS 26 22 25 22,
 qE 27 23 26 22 22,
 asn 5 27 22] fr st k) ∧
 evK gS fi73 c73_29 fr st k=condK gS fi73 (fr.op (.tmp 22)).bool? c73_30 .skip fr st k ∧
 (evK gS fi73 c73_27 fr st k=opsR gS fi73 [mv 20 7 3,
 mv 21 1 3,
 bop 22 .eql 3 20 21 3 4] fr st (.seq c73_29 k)) ∧
 (evK gS fi73 c73_25 fr st k=opsR gS fi73 [mv 17 15 3,
 ixa 18 22 13 15 0,
 ld 19 3 18 3,
 asn 6 17 3,
 asn 7 19 3] fr st (.seq c73_27 k)) ∧
 (evK gS fi73 c73_32 fr st k=opsR gS fi73 [qB 28 .add 3 15 1 3 3,
 mv 15 28 3] fr st k) ∧
 evK gS fi73 c73_23 fr st k=evK gS fi73 c73_25 fr st (.blk 1 (.seq c73_32 k)) ∧
 evK gS fi73 c73_19 fr st k=condK gS fi73 (fr.op (.tmp 16)).bool? .skip (.exit 0) fr st (.seq c73_23 k) ∧
 evK gS fi73 c73_17 fr st k=opsR gS fi73 [bop 16 .lss 3 15 14 3 0] fr st (.seq c73_19 k) ∧
 evK gS fi73 c73_15 fr st k=evK gS fi73 c73_16 fr st (.blk 0 k) ∧
 (evK gS fi73 c73_13 fr st k=opsR gS fi73 [mv 13 0 22,
 len1 14 13 22 3,
 op1 15 (.move (.const (.int .i64 0))) 3] fr st (.seq c73_15 k)) ∧
 evK gS fi73 c73_12 fr st k=evK gS fi73 c73_13 fr st (.seq c73_33 k) ∧
 evK gS fi73 c73_4 fr st k=evK gS fi73 c73_5 fr st (.seq c73_12 k) ∧
 evK gS fi73 c73_2 fr st k=opsR gS fi73 [qN 5 22] fr st (.seq c73_4 k) ∧
 evK gS fi73 c73_0 fr st k=opsR gS fi73 [qN 4 22] fr st (.seq c73_2 k):=⟨evK_rs 3 rfl (by kernel_rfl),rfl,evK_rs 2 rfl (by kernel_rfl),evK_r 8 (by kernel_rfl),rfl,evK_rs 7 rfl (by kernel_rfl),evK_rs 6 rfl (by kernel_rfl),evK_r 9 (by kernel_rfl),rfl,rfl,evK_rs 5 rfl (by kernel_rfl),rfl,evK_rs 4 rfl (by kernel_rfl),rfl,rfl,evK_rs 1 rfl (by kernel_rfl),evK_rs 0 rfl (by kernel_rfl)⟩
theorem m73:mini fi73.body=c73_0:=by kernel_rfl
theorem n73_16 (fr:Fr)(st:St)(k:Kt):nextK gS fi73 (.loop c73_17 k) .normal fr st=evK gS fi73 c73_16 fr st k:=rfl
theorem LK7 (p:List Int)(hp7:p.length<1000)(b:Int)(S:St)(R:Out × St)  (fin:List Int)
  (H:∀ (e6 e7:E) (T:List (Nat × E)) (X:List (Nat × List V)),e6.Tame→e7.Tame→evK gS fi73 c73_33 {ps:=[(0,.val (.slice (intVs p))),(1,.val (.int .i64 b)),(4,.own 0 []),(5,.own (kof 1 fin) (intVs fin)),(6,e6),(7,e7),(13,.val (.slice (intVs p))),(14,.val (.int .i64 p.length)),(15,.val (.int .i64 p.length))],ts:=T,lc:=X} S .nil=some R) :
  ∀ (m q:Nat) (out:List Int) (e6 e7:E) (T:List (Nat × E)) (X:List (Nat × List V)) (h6:e6.Tame) (h7:e7.Tame),q≤p.length→p.length - q=m→fin=kidG b q (p.drop q) out→out.length≤q →
  evK gS fi73 c73_16 {ps:=[(0,.val (.slice (intVs p))),(1,.val (.int .i64 b)),(4,.own 0 []),(5,.own (kof 1 out) (intVs out)),(6,e6),(7,e7),(13,.val (.slice (intVs p))),(14,.val (.int .i64 p.length)),(15,.val (.int .i64 (q:Nat)))],ts:=T,lc:=X} S (.blk 0 (.seq c73_33 .nil))=some R:=by
 intro m
 induction m with
 | zero =>
  intro q out e6 e7 T X h6 h7 hq hm2 hf hol
  obtain rfl:q=p.length:=by omega
  rw [List.drop_length] at hf
  have hf2:fin=out:=hf
  subst hf2
  refine evK_loop c73_17 _ _ _ _ rfl ?_
  rcases kof_or 1 fin with ⟨hk,rfl⟩ | hk
  ·rw [hk,show intVs []=[] from rfl] at H ⊢
   simp [-zia,-St.obj,-St.set,h6,h7,-zil,-zit,-znl,-znt,ty3,ty4,ty22,H73,E73,n73_16]
   exact H _ _ _ _ h6 h7
  ·rw [hk] at H ⊢
   simp [-zia,-St.obj,-St.set,h6,h7,-zil,-zit,-znl,-znt,ty3,ty4,ty22,H73,E73,n73_16]
   exact H _ _ _ _ h6 h7
 | succ m ih =>
  intro q out e6 e7 T X h6 h7 hq hm2 hf hol
  obtain ⟨x,hx⟩  := qgx (l:=p) (i:=q) (by omega)
  have hlt:(q:Int)<(p.length:Int):=by omega
  obtain ⟨hlt2,hxe⟩:=List.getElem?_eq_some_iff.1 hx
  have hw  := qws q (by omega)
  rw [drop_get hx] at hf
  rw [show kidG b q (x :: p.drop (q+1)) out=kidG b (q+1) (p.drop (q+1)) (if x=b then out ++ [((q+1:Nat):Int)] else out) from rfl] at hf
  have hs1:=sizes_ints out
  have hs2:=ints_snoc out ((q+1:Nat):Int)
  have b1:(out.length+1)*8≤140737488355328:=by omega
  have b2:out.length+1≤140737488355328:=by omega
  refine evK_loop c73_17 _ _ _ _ rfl ?_
  by_cases hb:x=b
  ·rw [if_pos hb] at hf
   have IH:=fun e6 e7 T X h6 h7=>ih (q+1) (out ++ [((q+1:Nat):Int)]) e6 e7 T X h6 h7 (by omega) (by omega) hf (by simp;omega)
   rw [kof_snoc] at IH
   rcases kof_or 1 out with ⟨hk,rfl⟩ | hk
   ·have en1:intVs ([] ++ [((q+1:Nat):Int)])=[.int .i64 ((q+1:Nat):Int)]:=rfl
    rw [en1] at IH
    rw [hk,show intVs []=[] from rfl]
    simp [-zia,h6,h7,hx,hxe,hlt,hlt2,hw,hb,-zil,-zit,-znl,-znt,ty3,ty4,ty22,H73,E73,e73_33,n73_16]
    refine IH _ _ _ _ ?_ ?_
    all_goals simp
   ·rw [hk]
    simp [-zia,-zaa,h6,h7,hx,hxe,hlt,hlt2,hw,hb,hs1,hs2,b1,b2,-zil,-zit,-znl,-znt,ty3,ty4,ty22,H73,E73,e73_33,n73_16]
    refine IH _ _ _ _ ?_ ?_
    all_goals simp
  ·rw [if_neg hb] at hf
   have IH:=fun e6 e7 T X h6 h7=>ih (q+1) out e6 e7 T X h6 h7 (by omega) (by omega) hf (by omega)
   rcases kof_or 1 out with ⟨hk,rfl⟩ | hk
   ·rw [hk,show intVs []=[] from rfl] at IH ⊢
    simp [-zia,h6,h7,hx,hxe,hlt,hlt2,hw,hb,-zil,-zit,-znl,-znt,ty3,ty4,ty22,H73,E73,e73_33,n73_16]
    refine IH _ _ _ _ ?_ ?_
    all_goals simp
   ·rw [hk] at IH ⊢
    simp [-zia,h6,h7,hx,hxe,hlt,hlt2,hw,hb,-zil,-zit,-znl,-znt,ty3,ty4,ty22,H73,E73,e73_33,n73_16]
    refine IH _ _ _ _ ?_ ?_
    all_goals simp
theorem c73 (p:List Int)(hp7:p.length<1000)(b:Int)(S:St):EvF gS 73 [.slice (intVs p),.int .i64 b] S=some (.ret (.slice (intVs (kidsT p b))) none,S):=by
 refine EvF_start fi207_eq (fun x h=>by cases h) m73 ?_
 rw [st73]
 have hz:=fun xs st=>frz_slice (xs:=intVs xs) (flats_ints xs) st
 have hz0:=hz [] S
 rw [show intVs []=[] from rfl] at hz0
 have ki:=fun fr st=>k72 p b (by omega) fr st
 unfold kidsT
 cases hi:isT p b with
 | false =>
  rw [hi] at ki
  rw [if_neg (by simp),show intVs []=[] from rfl]
  simp [ki,hz0,-zil,-zit,-znl,-znt,ty3,ty4,ty22,H73,E73,e73_33,n73_16]
 | true =>
  rw [hi] at ki
  rw [if_pos rfl]
  generalize hK:kidG b 0 p []=K
  generalize hR:(Out.ret (V.slice (intVs K)) none,S)=R
  have H33:∀ (e6 e7:E) (T:List (Nat × E)) (X:List (Nat × List V)),e6.Tame→e7.Tame→evK gS fi73 c73_33 {ps:=[(0,.val (.slice (intVs p))),(1,.val (.int .i64 b)),(4,.own 0 []),(5,.own (kof 1 K) (intVs K)),(6,e6),(7,e7),(13,.val (.slice (intVs p))),(14,.val (.int .i64 p.length)),(15,.val (.int .i64 p.length))],ts:=T,lc:=X} S .nil=some R:=by
   intro e6 e7 T X h6 h7
   rcases kof_or 1 K with ⟨hk,rfl⟩ | hk
   ·rw [hk,show intVs []=[] from rfl]
    simp [-zia,h6,h7,hz0,← hR,show intVs []=[] from rfl,-zil,-zit,-znl,-znt,ty3,ty4,ty22,H73,E73,e73_33,n73_16]
   ·rw [hk]
    simp [-zia,h6,h7,hz,← hR,-zil,-zit,-znl,-znt,ty3,ty4,ty22,H73,E73,e73_33,n73_16]
  have LL:=fun e6 e7 T X h6 h7=>LK7 p hp7 b S R K H33 p.length 0 [] e6 e7 T X h6 h7 (Nat.zero_le _) rfl (by rw [List.drop_zero];exact hK.symm) (Nat.le_refl _)
  rw [show ((0:Nat):Int)=0 from rfl] at LL
  rw [show kof 1 ([]:List Int)=0 from rfl,show intVs []=[] from rfl] at LL
  simp [ki,-zil,-zit,-znl,-znt,ty3,ty4,ty22,H73,E73,e73_33,n73_16]
  refine LL _ _ _ _ ?_ ?_
  all_goals simp
theorem k73 (p:List Int)(hp7:p.length<1000)(b:Int)(fr:Fr)(st:St):callStep gS (EvF gS) 73 [.slice (intVs p),.int .i64 b] fr st=some (.ok (.val (.slice (intVs (kidsT p b)))) fr st) :=
 call_pure rfl fi207_eq rfl (fun st=>c73 p hp7 b st) (by simp [V.flat])
def fi41:FI:={body:=codeOf Try.f41,ntmps:=26,results:=[.tmp 4],pers:=[0,1,4,5],locals:=[],pure:=true,marks:=[1000000]}
theorem H41:fi41.marks=[1000000]∧fi41.locals=[]∧fi41.results=[.tmp 4]:=⟨rfl,rfl,rfl⟩
theorem fi208_eq:gS.fn 41=some fi41:=by kernel_rfl
theorem st41 (a0 a1:V):startFr fi41 [a0,a1]={ps:=[(0,.val a0),(1,.val a1),(4,.any),(5,.any)],ts:=[],lc:=[]}:=rfl
def b41:Code:=mini (codeOf Try.f41)
def c41_8:Code:=.seq (codeN b41 75) .ret
def c41_7:Code:=.cond (.tmp 9) c41_8 .skip
def c41_5:Code:=.seq (codeN b41 19) c41_7
def c41_16:Code:=codeN b41 87
def c41_15:Code:=.cond (.tmp 12) c41_16 .skip
def c41_13:Code:=.seq (codeN b41 39) c41_15
def c41_18:Code:=.seq (codeN b41 47) .ret
def c41_12:Code:=.seq c41_13 c41_18
def c41_4:Code:=.seq c41_5 c41_12
def c41_2:Code:=.seq (codeN b41 5) c41_4
def c41_0:Code:=.seq (codeN b41 2) c41_2
theorem E41:(evK gS fi41 c41_8 fr st k=opsR gS fi41 [mv 10 5 22,
 asn 4 10 22] fr st (.seq .ret k)) ∧
 evK gS fi41 c41_7 fr st k=condK gS fi41 (fr.op (.tmp 9)).bool? c41_8 .skip fr st k ∧
 (evK gS fi41 c41_5 fr st k=opsR gS fi41 [mv 6 0 22,
 mv 7 1 3,
 cal 8 72 [(.tmp 6),(.tmp 7)] [22,3] 4,
 op1 9 (.unOp .not 4 (.tmp 8)) 4] fr st (.seq c41_7 k)) ∧
 (evK gS fi41 c41_16 fr st k=opsR gS fi41 [mv 13 5 22,
 mv 14 0 22,
 mv 15 1 3,
 qB 16 .sub 3 15 1 3 3,
 ixa 17 22 14 16 0,
 ld 18 3 17 3,
 qS 19 22 18 22,
 qE 20 13 19 22 22,
 asn 5 20 22] fr st k) ∧
 evK gS fi41 c41_15 fr st k=condK gS fi41 (fr.op (.tmp 12)).bool? c41_16 .skip fr st k ∧
 (evK gS fi41 c41_13 fr st k=opsR gS fi41 [mv 11 1 3,
 qB 12 .gtr 3 11 0 3 4] fr st (.seq c41_15 k)) ∧
 (evK gS fi41 c41_18 fr st k=opsR gS fi41 [mv 21 5 22,
 mv 22 0 22,
 mv 23 1 3,
 cal 24 73 [(.tmp 22),(.tmp 23)] [22,3] 22,
 qE 25 21 24 22 22,
 asn 4 25 22] fr st (.seq .ret k)) ∧
 evK gS fi41 c41_12 fr st k=evK gS fi41 c41_13 fr st (.seq c41_18 k) ∧
 evK gS fi41 c41_4 fr st k=evK gS fi41 c41_5 fr st (.seq c41_12 k) ∧
 evK gS fi41 c41_2 fr st k=opsR gS fi41 [qN 5 22] fr st (.seq c41_4 k) ∧
 evK gS fi41 c41_0 fr st k=opsR gS fi41 [qN 4 22] fr st (.seq c41_2 k):=⟨evK_rs 3 rfl (by kernel_rfl),rfl,evK_rs 2 rfl (by kernel_rfl),evK_r 5 (by kernel_rfl),rfl,evK_rs 4 rfl (by kernel_rfl),evK_rs 6 rfl (by kernel_rfl),rfl,rfl,evK_rs 1 rfl (by kernel_rfl),evK_rs 0 rfl (by kernel_rfl)⟩
theorem m41:mini fi41.body=c41_0:=by kernel_rfl
theorem c41 (p:List Int)(hp7:p.length<1000)(b:Int)(S:St):EvF gS 41 [.slice (intVs p),.int .i64 b] S=some (.ret (.slice (intVs (nearT p b))) none,S):=by
 refine EvF_start fi208_eq (fun x h=>by cases h) m41 ?_
 rw [st41]
 have hz:=fun xs st=>frz_slice (xs:=intVs xs) (flats_ints xs) st
 have hz0:=hz [] S
 rw [show intVs []=[] from rfl] at hz0
 have ki:=fun fr st=>k72 p b (by omega) fr st
 have kk:=fun fr st=>k73 p hp7 b fr st
 have hkl:(kidsT p b).length≤p.length:=by
  have:=kidG_len b p 0 []
  unfold kidsT
  split
  ·simpa using this
  ·simp
 unfold nearT
 cases hi:isT p b with
 | false =>
  rw [hi] at ki
  rw [if_neg (by simp),show intVs []=[] from rfl]
  simp [ki,hz0,-zil,-zit,-znl,-znt,ty3,ty4,ty22,H41,E41]
 | true =>
  rw [hi] at ki
  rw [if_pos rfl]
  obtain ⟨h1,h2,k,rfl,hk⟩:=is_nat hi
  generalize kidsT p (k:Int)=K at *
  by_cases h0:(0:Int)<(k:Int)
  ·rw [if_pos h0]
   obtain ⟨j,rfl⟩:∃ j,k=j+1:=⟨k - 1,by omega⟩
   obtain ⟨x,hx⟩  := qgx (l:=p) (i:=j) (by omega)
   obtain ⟨x1,x2⟩:=List.getElem?_eq_some_iff.1 hx
   have hw:IntKind.wrap .i64 (((j+1:Nat):Int) - 1)=(j:Int):=by rw [wrap64 (by omega) (by omega)];omega
   have hg:p.getD (((j+1:Nat):Int).toNat - 1) 0=x:=by rw [Int.toNat_natCast,Nat.add_sub_cancel,List.getD_eq_getElem?_getD,hx];rfl
   rw [hg]
   have hjl:(j:Int)<(p.length:Int):=by omega
   have e1:.int .i64 x :: intVs K=intVs ([x] ++ K):=rfl
   have hs1:=sizes_ints K
   have b1:(1+K.length)*8≤140737488355328:=by omega
   have b2:1+K.length≤140737488355328:=by omega
   have hz1:=hz ([x] ++ K) S
   generalize intVs ([x] ++ K)=L at *
   simp [-zia,-zaa,ki,kk,h0,hw,hx,x1,x2,hjl,e1,hs1,b1,b2,hz1,-zil,-zit,-znl,-znt,ty3,ty4,ty22,H41,E41]
  ·rw [if_neg h0,List.nil_append]
   have h0':¬ 0<k:=by omega
   have hs1:=sizes_ints K
   have b1:K.length*8≤140737488355328:=by omega
   have b2:K.length≤140737488355328:=by omega
   have hz1:=hz K S
   simp [-zia,ki,kk,h0,h0',hs1,b1,b2,hz1,-zil,-zit,-znl,-znt,ty3,ty4,ty22,H41,E41]
theorem k41 (p:List Int)(hp7:p.length<1000)(b:Int)(fr:Fr)(st:St):callStep gS (EvF gS) 41 [.slice (intVs p),.int .i64 b] fr st=some (.ok (.val (.slice (intVs (nearT p b)))) fr st) :=
 call_pure rfl fi208_eq rfl (fun st=>c41 p hp7 b st) (by simp [V.flat])
def fi75:FI:={body:=codeOf Try.f75,ntmps:=28,results:=[.tmp 6],pers:=[0,1,2,6],locals:=[],pure:=true,marks:=[]}
theorem H75:fi75.marks=[]∧fi75.locals=[]∧fi75.results=[.tmp 6]:=⟨rfl,rfl,rfl⟩
theorem fi209_eq:gS.fn 75=some fi75:=by kernel_rfl
theorem st75 (a0 a1 a2:V):startFr fi75 [a0,a1,a2]={ps:=[(0,.val a0),(1,.val a1),(2,.val a2),(6,.any)],ts:=[],lc:=[]}:=rfl
def b75:Code:=mini (codeOf Try.f75)
def c75_6:Code:=.seq (codeN b75 37) .ret
def c75_5:Code:=.cond (.tmp 21) c75_6 .skip
def c75_3:Code:=.seq (codeN b75 9) c75_5
def c75_10:Code:=.seq (codeN b75 11) .ret
def c75_2:Code:=.seq c75_3 c75_10
def c75_0:Code:=.seq (codeN b75 2) c75_2
theorem E75:evK gS fi75 c75_6 fr st k=opsR gS fi75 [qI 6 (-1) 3] fr st (.seq .ret k) ∧
 evK gS fi75 c75_5 fr st k=condK gS fi75 (fr.op (.tmp 21)).bool? c75_6 .skip fr st k ∧
 (evK gS fi75 c75_3 fr st k=opsR gS fi75 [mv 7 0 22,
 mv 8 1 3,
 cal 9 72 [(.tmp 7),(.tmp 8)] [22,3] 4,
 op1 10 (.unOp .not 4 (.tmp 9)) 4,
 mv 11 10 4,
 qm 12 0 22 4 false,
 qm 13 2 3 4 false,
 mk (some 14) (.call {callee:=(.value (.func 72)),args:=#[(.tmp 12),(.tmp 13)],argTypes:=#[22,3]}) 4 (some (4,false)),
 mk (some 15) (.unOp .not 4 (.tmp 14)) 4 (some (4,false)),
 qQ 16 11 true 15 4,
 mv 17 16 4,
 qm 18 1 3 10 false,
 qm 19 2 3 10 false,
 qb 20 .eql 3 18 19 3 4 10 false,
 qQ 21 17 true 20 4] fr st (.seq c75_5 k)) ∧
 (evK gS fi75 c75_10 fr st k=opsR gS fi75 [mv 22 0 22,
 mv 23 1 3,
 mv 24 2 3,
 cal 25 79 [(.tmp 22),(.tmp 23),(.tmp 24)] [22,3,3] 22,
 op1 26 (.indexAddr 22 (.tmp 25) (.const (.int .i64 1))) 0,
 ld 27 3 26 3,
 asn 6 27 3] fr st (.seq .ret k)) ∧
 evK gS fi75 c75_2 fr st k=evK gS fi75 c75_3 fr st (.seq c75_10 k) ∧
 evK gS fi75 c75_0 fr st k=opsR gS fi75 [qI 6 0 3] fr st (.seq c75_2 k):=⟨evK_rs 2 rfl (by kernel_rfl),rfl,evK_rs 1 rfl (by kernel_rfl),evK_rs 3 rfl (by kernel_rfl),rfl,evK_rs 0 rfl (by kernel_rfl)⟩
theorem m75:mini fi75.body=c75_0:=by kernel_rfl
theorem c75 (p:List Int)(hp7:p.length<1000)(a b:Int)(S:St):EvF gS 75 [.slice (intVs p),.int .i64 a,.int .i64 b] S=some (.ret (.int .i64 (nextT p a b)) none,S):=by
 refine EvF_start fi209_eq (fun x h=>by cases h) m75 ?_
 rw [st75]
 have hz:=fun xs st=>frz_slice (xs:=intVs xs) (flats_ints xs) st
 have hz0:=hz [] S
 rw [show intVs []=[] from rfl] at hz0
 have ka:=fun fr st=>k72 p a (by omega) fr st
 have kb:=fun fr st=>k72 p b (by omega) fr st
 unfold nextT
 cases ha:isT p a with
 | false=>rw [ha] at ka;simp [ka,-zil,-zit,-znl,-znt,ty3,ty4,ty22,H75,E75]
 | true =>
  cases hb:isT p b with
  | false=>rw [ha] at ka;rw [hb] at kb;simp [ka,kb,-zil,-zit,-znl,-znt,ty3,ty4,ty22,H75,E75]
  | true =>
   rw [ha] at ka;rw [hb] at kb
   by_cases he:a=b
   ·subst he;simp [ka,-zil,-zit,-znl,-znt,ty3,ty4,ty22,H75,E75]
   ·obtain ⟨h1,h2,i,rfl,hi⟩:=is_nat ha
    obtain ⟨_,_,j,rfl,hj⟩:=is_nat hb
    have kp:=fun fr st=>k79 p h1 h2 i j hi hj fr st
    have hij:¬ i=j:=fun e=>he (by rw [e])
    have h2:=path_two (p:=p) hij
    simp only [Int.toNat_natCast]
    generalize pathT p i j=P at *
    obtain ⟨y,hy⟩:∃ y,P[1]?=some y:=⟨P[1]'(by omega),zge (by omega)⟩
    obtain ⟨y1,y2⟩:=List.getElem?_eq_some_iff.1 hy
    have hd:P.getD 1 0=y:=by rw [List.getD_eq_getElem?_getD,hy];rfl
    rw [hd]
    simp [-zia,ka,kb,kp,he,hij,hy,y1,y2,-zil,-zit,-znl,-znt,ty3,ty4,ty22,H75,E75]
theorem k75 (p:List Int)(hp7:p.length<1000)(a b:Int)(fr:Fr)(st:St):callStep gS (EvF gS) 75 [.slice (intVs p),.int .i64 a,.int .i64 b] fr st=some (.ok (.val (.int .i64 (nextT p a b))) fr st) :=
 call_pure rfl fi209_eq rfl (fun st=>c75 p hp7 a b st) (by simp [V.flat])
def fi43:FI:={body:=codeOf Try.f43,ntmps:=30,results:=[.tmp 6],pers:=[0,1,2,6,7,8],locals:=[],pure:=true,marks:=[1000000]}
theorem H43:fi43.marks=[1000000]∧fi43.locals=[]∧fi43.results=[.tmp 6]:=⟨rfl,rfl,rfl⟩
theorem fi210_eq:gS.fn 43=some fi43:=by kernel_rfl
theorem st43 (a0 a1 a2:V):startFr fi43 [a0,a1,a2]={ps:=[(0,.val a0),(1,.val a1),(2,.val a2),(6,.any),(7,.any),(8,.any)],ts:=[],lc:=[]}:=rfl
def b43:Code:=mini (codeOf Try.f43)
def c43_12:Code:=.cond (.tmp 16) .skip (.exit 0)
def c43_10:Code:=.seq (codeN b43 267) c43_12
def c43_20:Code:=codeN b43 2635
def c43_19:Code:=.cond (.tmp 24) c43_20 .skip
def c43_17:Code:=.seq (codeN b43 1099) c43_19
def c43_22:Code:=codeN b43 459
def c43_15:Code:=.seq (.block 1 c43_17) c43_22
def c43_9:Code:=.seq c43_10 c43_15
def c43_8:Code:=.loop c43_9
def c43_7:Code:=.block 0 c43_8
def c43_5:Code:=.seq (codeN b43 19) c43_7
def c43_23:Code:=.seq (codeN b43 23) .ret
theorem e43_23:evK gS fi43 c43_23 fr st k=opsR gS fi43 [mv 29 7 22,
 asn 6 29 22] fr st (.seq .ret k):=evK_rs 7 rfl (by kernel_rfl)
def c43_4:Code:=.seq c43_5 c43_23
def c43_2:Code:=.seq (codeN b43 5) c43_4
def c43_0:Code:=.seq (codeN b43 2) c43_2
theorem E43:evK gS fi43 c43_12 fr st k=condK gS fi43 (fr.op (.tmp 16)).bool? .skip (.exit 0) fr st k ∧
 (evK gS fi43 c43_10 fr st k=opsR gS fi43 [mv 9 8 3,
 mv 10 0 22,
 len1 11 10 22 3,
 bop 12 .leq 3 9 11 3 4,
 mv 13 12 4,
 qm 14 2 3 4 true,
 qc 15 .geq 3 14 0 3 4 4 true,
 qP 16 13 15 false 4] fr st (.seq c43_12 k)) ∧
 (evK gS fi43 c43_20 fr st k=opsR gS fi43 [mv 25 7 22,
 mv 26 8 3,
 qS 27 22 26 22,
 qE 28 25 27 22 22,
 asn 7 28 22] fr st k) ∧
 evK gS fi43 c43_19 fr st k=condK gS fi43 (fr.op (.tmp 24)).bool? c43_20 .skip fr st k ∧
 (evK gS fi43 c43_17 fr st k=opsR gS fi43 [mv 19 0 22,
 mv 20 1 3,
 mv 21 8 3,
 cal 22 75 [(.tmp 19),(.tmp 20),(.tmp 21)] [22,3,3] 3,
 mv 23 2 3,
 bop 24 .eql 3 22 23 3 4] fr st (.seq c43_19 k)) ∧
 (evK gS fi43 c43_22 fr st k=opsR gS fi43 [mv 17 8 3,
 qB 18 .add 3 17 1 3 3,
 asn 8 18 3] fr st k) ∧
 evK gS fi43 c43_15 fr st k=evK gS fi43 c43_17 fr st (.blk 1 (.seq c43_22 k)) ∧
 evK gS fi43 c43_9 fr st k=evK gS fi43 c43_10 fr st (.seq c43_15 k) ∧
 evK gS fi43 c43_7 fr st k=evK gS fi43 c43_8 fr st (.blk 0 k) ∧
 evK gS fi43 c43_5 fr st k=opsR gS fi43 [qI 8 0 3] fr st (.seq c43_7 k) ∧
 evK gS fi43 c43_4 fr st k=evK gS fi43 c43_5 fr st (.seq c43_23 k) ∧
 evK gS fi43 c43_2 fr st k=opsR gS fi43 [qN 7 22] fr st (.seq c43_4 k) ∧
 evK gS fi43 c43_0 fr st k=opsR gS fi43 [qN 6 22] fr st (.seq c43_2 k):=⟨rfl,evK_rs 3 rfl (by kernel_rfl),evK_r 6 (by kernel_rfl),rfl,evK_rs 5 rfl (by kernel_rfl),evK_r 4 (by kernel_rfl),rfl,rfl,rfl,evK_rs 2 rfl (by kernel_rfl),rfl,evK_rs 1 rfl (by kernel_rfl),evK_rs 0 rfl (by kernel_rfl)⟩
theorem m43:mini fi43.body=c43_0:=by kernel_rfl
theorem n43_8 (fr:Fr)(st:St)(k:Kt):nextK gS fi43 (.loop c43_9 k) .normal fr st=evK gS fi43 c43_8 fr st k:=rfl
theorem LS0 (p:List Int)(hp7:p.length<1000)(b t:Int)(ht:0≤t)(S:St)(R:Out × St)  (fin:List Int)
  (H:∀  (T:List (Nat × E)) (X:List (Nat × List V)),evK gS fi43 c43_23 {ps:=[(0,.val (.slice (intVs p))),(1,.val (.int .i64 b)),(2,.val (.int .i64 t)),(6,.own 0 []),(7,.own (kof 1 fin) (intVs fin)),(8,.val (.int .i64 (p.length+1)))],ts:=T,lc:=X} S .nil=some R) :
  ∀ (m q:Nat) (out:List Int)  (T:List (Nat × E)) (X:List (Nat × List V)) ,q≤(p.length+1)→(p.length+1) - q=m→fin=sideG p b t (p.length+1 - q) q out→out.length≤q →
  evK gS fi43 c43_8 {ps:=[(0,.val (.slice (intVs p))),(1,.val (.int .i64 b)),(2,.val (.int .i64 t)),(6,.own 0 []),(7,.own (kof 1 out) (intVs out)),(8,.val (.int .i64 (q:Nat)))],ts:=T,lc:=X} S (.blk 0 (.seq c43_23 .nil))=some R:=by
 intro m
 induction m with
 | zero =>
  intro q out  T X  hq hm2 hf hol
  obtain rfl:q=(p.length+1):=by omega
  rw [Nat.sub_self] at hf
  have hf2:fin=out:=hf
  subst hf2
  have hn1:¬ ((p.length+1:Nat):Int)≤(p.length:Int):=by omega
  have hn2:¬ p.length+1≤p.length:=by omega
  refine evK_loop c43_9 _ _ _ _ rfl ?_
  rcases kof_or 1 fin with ⟨hk,rfl⟩ | hk
  ·rw [hk,show intVs []=[] from rfl] at H ⊢
   simp [-zia,-St.obj,-St.set,hn1,hn2,ht,-zil,-zit,-znl,-znt,ty3,ty4,ty22,H43,E43,n43_8]
   exact H  _ _
  ·rw [hk] at H ⊢
   simp [-zia,-St.obj,-St.set,hn1,hn2,ht,-zil,-zit,-znl,-znt,ty3,ty4,ty22,H43,E43,n43_8]
   exact H  _ _
 | succ m ih =>
  intro q out  T X  hq hm2 hf hol
  have hx1:(q:Int)≤(p.length:Int):=by omega
  have hx2:q≤p.length:=by omega
  have hw  := qws q (by omega)
  rw [hm2,show sideG p b t (m+1) q out=sideG p b t m (q+1) (if nextT p b q=t then out ++ [(q:Int)] else out) from rfl] at hf
  have kk:=fun fr st=>k75 p hp7 b (q:Int) fr st
  have hs1:=sizes_ints out
  have hs2:=ints_snoc out (q:Int)
  have b1:(out.length+1)*8≤140737488355328:=by omega
  have b2:out.length+1≤140737488355328:=by omega
  have hm3:p.length+1 - (q+1)=m:=by omega
  generalize nextT p b q=z at *
  refine evK_loop c43_9 _ _ _ _ rfl ?_
  by_cases hb:z=t
  ·rw [if_pos hb] at hf
   have IH:=fun T X=>ih (q+1) (out ++ [(q:Int)]) T X (by omega) (by omega) (by rw [hm3];exact hf) (by simp;omega)
   rw [kof_snoc] at IH
   rcases kof_or 1 out with ⟨hk,rfl⟩ | hk
   ·have en1:intVs ([] ++ [(q:Int)])=[.int .i64 (q:Int)]:=rfl
    rw [en1] at IH
    rw [hk,show intVs []=[] from rfl]
    simp [-zia,hx1,hx2,ht,hw,hb,kk,IH,-zil,-zit,-znl,-znt,ty3,ty4,ty22,H43,E43,e43_23,n43_8]
   ·rw [hk]
    simp [-zia,-zaa,hx1,hx2,ht,hw,hb,kk,hs1,hs2,b1,b2,IH,-zil,-zit,-znl,-znt,ty3,ty4,ty22,H43,E43,e43_23,n43_8]
  ·rw [if_neg hb] at hf
   have IH:=fun T X=>ih (q+1) out T X (by omega) (by omega) (by rw [hm3];exact hf) (by omega)
   rcases kof_or 1 out with ⟨hk,rfl⟩ | hk
   ·rw [hk,show intVs []=[] from rfl] at IH ⊢
    simp [-zia,hx1,hx2,ht,hw,hb,kk,IH,-zil,-zit,-znl,-znt,ty3,ty4,ty22,H43,E43,e43_23,n43_8]
   ·rw [hk] at IH ⊢
    simp [-zia,hx1,hx2,ht,hw,hb,kk,IH,-zil,-zit,-znl,-znt,ty3,ty4,ty22,H43,E43,e43_23,n43_8]
theorem c43 (p:List Int)(hp7:p.length<1000)(b t:Int)(S:St):EvF gS 43 [.slice (intVs p),.int .i64 b,.int .i64 t] S=some (.ret (.slice (intVs (sideT p b t))) none,S):=by
 refine EvF_start fi210_eq (fun x h=>by cases h) m43 ?_
 rw [st43]
 have hz:=fun xs st=>frz_slice (xs:=intVs xs) (flats_ints xs) st
 have hz0:=hz [] S
 rw [show intVs []=[] from rfl] at hz0
 unfold sideT
 by_cases ht:0≤t
 ·rw [if_pos ht]
  generalize hK:sideG p b t (p.length+1) 0 []=K
  generalize hR:(Out.ret (V.slice (intVs K)) none,S)=R
  have H23:∀  (T:List (Nat × E)) (X:List (Nat × List V)),evK gS fi43 c43_23 {ps:=[(0,.val (.slice (intVs p))),(1,.val (.int .i64 b)),(2,.val (.int .i64 t)),(6,.own 0 []),(7,.own (kof 1 K) (intVs K)),(8,.val (.int .i64 (p.length+1:Nat)))],ts:=T,lc:=X} S .nil=some R:=by
   intro  T X
   rcases kof_or 1 K with ⟨hk,rfl⟩ | hk
   ·rw [hk,show intVs []=[] from rfl]
    simp [-zia,hz0,← hR,show intVs []=[] from rfl,-zil,-zit,-znl,-znt,ty3,ty4,ty22,H43,E43,e43_23,n43_8]
   ·rw [hk]
    simp [-zia,hz,← hR,-zil,-zit,-znl,-znt,ty3,ty4,ty22,H43,E43,e43_23,n43_8]
  have LL:=fun  T X  => LS0 p hp7 b t ht S R K H23 (p.length+1) 0 []  T X  (Nat.zero_le _) rfl (by rw [Nat.sub_zero];exact hK.symm) (Nat.le_refl _)
  rw [show ((0:Nat):Int)=0 from rfl] at LL
  rw [show kof 1 ([]:List Int)=0 from rfl,show intVs []=[] from rfl] at LL
  simp [LL,-zil,-zit,-znl,-znt,ty3,ty4,ty22,H43,E43,e43_23,n43_8]
 ·rw [if_neg ht,show intVs []=[] from rfl]
  have h0:(0:Int)≤(p.length:Int):=by omega
  simp [-zil,-zit,-znl,-znt,ty3,ty4,ty22,H43,E43,e43_23,n43_8]
  refine evK_loop c43_9 _ _ _ _ rfl ?_
  simp [h0,ht,hz0,-zil,-zit,-znl,-znt,ty3,ty4,ty22,H43,E43,e43_23,n43_8]
theorem k43 (p:List Int)(hp7:p.length<1000)(b t:Int)(fr:Fr)(st:St):callStep gS (EvF gS) 43 [.slice (intVs p),.int .i64 b,.int .i64 t] fr st=some (.ok (.val (.slice (intVs (sideT p b t)))) fr st) :=
 call_pure rfl fi210_eq rfl (fun st=>c43 p hp7 b t st) (by simp [V.flat])
def fi68:FI:={body:=codeOf Try.f68,ntmps:=17,results:=[.tmp 4],pers:=[0,1,4,6,7,8,9],locals:=[],pure:=true,marks:=[]}
theorem H68:fi68.marks=[]∧fi68.locals=[]∧fi68.results=[.tmp 4]:=⟨rfl,rfl,rfl⟩
theorem fi230_eq:gS.fn 68=some fi68:=by kernel_rfl
theorem st68 (a0 a1:V):startFr fi68 [a0,a1]={ps:=[(0,.val a0),(1,.val a1),(4,.any),(6,.any),(7,.any),(8,.any),(9,.any)],ts:=[],lc:=[]}:=rfl
def b68:Code:=mini (codeOf Try.f68)
def c68_20:Code:=.seq (codeN b68 9829) .ret
def c68_19:Code:=.cond (.tmp 15) c68_20 .skip
def c68_17:Code:=.seq (codeN b68 2661) c68_19
def c68_15:Code:=.seq (codeN b68 1125) c68_17
def c68_24:Code:=codeN b68 485
def c68_13:Code:=.seq (.block 1 c68_15) c68_24
def c68_9:Code:=.seq (.cond (.tmp 10) .skip (.exit 0)) c68_13
def c68_7:Code:=.seq (codeN b68 69) c68_9
def c68_6:Code:=.loop c68_7
def c68_5:Code:=.block 0 c68_6
def c68_3:Code:=.seq (codeN b68 9) c68_5
def c68_25:Code:=.seq (codeN b68 11) .ret
def c68_2:Code:=.seq c68_3 c68_25
def c68_0:Code:=.seq (codeN b68 2) c68_2
theorem E68:evK gS fi68 c68_20 fr st k=opsR gS fi68 [qA 4 true 4] fr st (.seq .ret k) ∧
 evK gS fi68 c68_19 fr st k=condK gS fi68 (fr.op (.tmp 15)).bool? c68_20 .skip fr st k ∧
 (evK gS fi68 c68_17 fr st k=opsR gS fi68 [mv 13 6 3,
 mv 14 1 3,
 bop 15 .eql 3 13 14 3 4] fr st (.seq c68_19 k)) ∧
 (evK gS fi68 c68_15 fr st k=opsR gS fi68 [ixa 11 22 7 9 0,
 ld 12 3 11 3,
 asn 6 12 3] fr st (.seq c68_17 k)) ∧
 (evK gS fi68 c68_24 fr st k=opsR gS fi68 [qB 16 .add 3 9 1 3 3,
 mv 9 16 3] fr st k) ∧
 evK gS fi68 c68_13 fr st k=evK gS fi68 c68_15 fr st (.blk 1 (.seq c68_24 k)) ∧
 evK gS fi68 c68_9 fr st k=condK gS fi68 (fr.op (.tmp 10)).bool? .skip (.exit 0) fr st (.seq c68_13 k) ∧
 evK gS fi68 c68_7 fr st k=opsR gS fi68 [bop 10 .lss 3 9 8 3 0] fr st (.seq c68_9 k) ∧
 evK gS fi68 c68_5 fr st k=evK gS fi68 c68_6 fr st (.blk 0 k) ∧
 (evK gS fi68 c68_3 fr st k=opsR gS fi68 [mv 7 0 22,
 len1 8 7 22 3,
 op1 9 (.move (.const (.int .i64 0))) 3] fr st (.seq c68_5 k)) ∧
 evK gS fi68 c68_25 fr st k=opsR gS fi68 [qA 4 false 4] fr st (.seq .ret k) ∧
 evK gS fi68 c68_2 fr st k=evK gS fi68 c68_3 fr st (.seq c68_25 k) ∧
 evK gS fi68 c68_0 fr st k=opsR gS fi68 [qA 4 false 4] fr st (.seq c68_2 k):=⟨evK_rs 5 rfl (by kernel_rfl),rfl,evK_rs 4 rfl (by kernel_rfl),evK_rs 3 rfl (by kernel_rfl),evK_r 6 (by kernel_rfl),rfl,rfl,evK_rs 2 rfl (by kernel_rfl),rfl,evK_rs 1 rfl (by kernel_rfl),evK_rs 7 rfl (by kernel_rfl),rfl,evK_rs 0 rfl (by kernel_rfl)⟩
theorem m68:mini fi68.body=c68_0:=by kernel_rfl
theorem n68_6 (fr:Fr)(st:St)(k:Kt):nextK gS fi68 (.loop c68_7 k) .normal fr st=evK gS fi68 c68_6 fr st k:=rfl
theorem L68_6 (l:List Int)(n0:Int)(h_l:l.length<4611686018427387904)(st:St):∀ (n i:Nat) (j:Int)  (e0 e6:E) (T:List (Nat × E)) (X:List (Nat × List V)) (ht0:e0.Tame) (ht6:e6.Tame) ,j=(i:Int)→i≤(l).length→(l).length - i=n →
  evK gS fi68 c68_6 {ps:=[(0,e0),(1,.val (.int .i64 n0)),(4,.val (.bool false)),(6,e6),(7,.val (.slice (intVs l))),(8,.val (.int .i64 l.length)),(9,.val (.int .i64 j))],ts:=T,lc:=X} st (.blk 0 (.seq c68_25 .nil))=some ((.ret (.bool (hasI (l.drop i) n0)) none),st):=by
 intro n
 induction n with
 | zero =>
  intro i j  e0 e6 T X ht0 ht6  hj hi hn
  obtain rfl:i=(l).length:=by omega
  subst hj
  refine evK_loop c68_7 _ st _ _ rfl ?_
  simp (config:={contextual:=true,maxSteps:=10000000,maxDischargeDepth:=6}) [-zil,-zit,-znl,-znt,ty3,ty4,ty22,H68,E68,n68_6,ht0,ht6]
  all_goals try simp (config:={contextual:=true}) [-zil,-zit,-znl,-znt,hasI]
  all_goals first | done | grind | omega
 | succ n ih =>
  intro i j  e0 e6 T X ht0 ht6  hj hi hn
  subst hj
  obtain ⟨x,hx⟩  := qgx (l:=(l)) (i:=i) (by omega)
  have hd:=drop_get hx
  have hlt:(i:Int)<((l).length:Int):=by omega
  have hlt2:i<(l).length:=by omega
  have hxe:(l)[i]'hlt2=x:=by rw [zge hlt2] at hx;exact Option.some.inj hx
  have hw:IntKind.wrap .i64 ((i:Int)+1)=(i:Int)+1:=wrap64 (by omega) (by omega)
  have IH:=fun e0 e6 T X ht0 ht6=>ih (i+1) ((i:Int)+1) e0 e6 T X ht0 ht6 rfl (by omega) (by omega)
  refine evK_loop c68_7 _ st _ _ rfl ?_
  simp (config:={contextual:=true,maxSteps:=10000000,maxDischargeDepth:=6}) [-zil,-zit,-znl,-znt,ty3,ty4,ty22,H68,E68,n68_6,ht0,ht6,hx,hxe,hd,hlt,hlt2,hw,IH]
  all_goals try simp (config:={contextual:=true}) [-zil,-zit,-znl,-znt,hasI]
  all_goals first | done | grind | omega
theorem c68 (l:List Int)(n0:Int)  (h_l:l.length<4611686018427387904) (st:St):EvF gS 68 [.slice (intVs l),.int .i64 n0] st=some (.ret (.bool (hasI l n0)) none,st):=by
 refine EvF_start fi230_eq (fun x h=>by cases h) m68 ?_
 rw [st68]
 simp (config:={contextual:=true,maxSteps:=10000000,maxDischargeDepth:=6}) [-zil,-zit,-znl,-znt,ty3,ty4,ty22,H68,E68,n68_6,(fun e0 e6 T X ht0 ht6=>L68_6 l n0 h_l st _ 0 0  e0 e6 T X ht0 ht6 rfl (Nat.zero_le _) rfl),h_l]
 all_goals try simp (config:={contextual:=true}) [-zil,-zit,-znl,-znt,hasI]
 all_goals first | done | grind | omega
theorem k68 (l:List Int)(n0:Int)  (h_l:l.length<4611686018427387904) (fr:Fr) (st:St):callStep gS (EvF gS) 68 [.slice (intVs l),.int .i64 n0] fr st=some (.ok (retE none (.bool (hasI l n0))) fr st) :=
 call_pure rfl fi230_eq rfl (fun st=>c68 l n0 h_l st) (by simp)
def fi39:FI:={body:=codeOf Try.f39,ntmps:=51,results:=[.tmp 6],pers:=[0,1,2,6,7,9,10,11,13,16,17,18,26,27,28],locals:=[13],pure:=true,marks:=[1000000]}
theorem H39:fi39.marks=[1000000]∧fi39.locals=[13]∧fi39.results=[.tmp 6]:=⟨rfl,rfl,rfl⟩
theorem fi228_eq:gS.fn 39=some fi39:=by kernel_rfl
theorem st39 (a0 a1 a2:V):startFr fi39 [a0,a1,a2]={ps:=[(0,.val a0),(1,.val a1),(2,.val a2),(6,.any),(7,.any),(9,.any),(10,.any),(11,.any),(13,.any),(16,.any),(17,.any),(18,.any),(26,.any),(27,.any),(28,.any)],ts:=[],lc:=[]}:=rfl
def b39:Code:=mini (codeOf Try.f39)
def c39_41:Code:=codeN b39 23485643
def c39_40:Code:=.cond (.tmp 35) c39_41 .skip
def c39_38:Code:=.seq (codeN b39 10902731) c39_40
def c39_36:Code:=.seq (codeN b39 4611275) c39_38
def c39_43:Code:=codeN b39 1989835
def c39_34:Code:=.seq (.block 3 c39_36) c39_43
def c39_30:Code:=.seq (.cond (.tmp 29) .skip (.exit 2)) c39_34
def c39_28:Code:=.seq (codeN b39 285899) c39_30
def c39_27:Code:=.loop c39_28
def c39_26:Code:=.block 2 c39_27
def c39_24:Code:=.seq (codeN b39 40139) c39_26
def c39_44:Code:=codeN b39 31947
theorem e39_44:evK gS fi39 c39_44 fr st k=opsR gS fi39 [mv 42 7 70,
 mv 43 9 3,
 mv 44 11 77,
 cal 45 69 [(.tmp 44)] [77] 77,
 op1 46 (.build 79 #[(0,(.tmp 43)),(1,(.tmp 45))]) 79,
 qS 47 70 46 70,
 qE 48 42 47 70 70,
 asn 7 48 70] fr st k:=evK_r 13 (by kernel_rfl)
def c39_23:Code:=.seq c39_24 c39_44
def c39_21:Code:=.seq (codeN b39 11467) c39_23
def c39_19:Code:=.seq (codeN b39 5323) c39_21
def c39_17:Code:=.seq (codeN b39 2251) c39_19
def c39_45:Code:=codeN b39 971
def c39_15:Code:=.seq (.block 1 c39_17) c39_45
def c39_11:Code:=.seq (.cond (.tmp 19) .skip (.exit 0)) c39_15
def c39_9:Code:=.seq (codeN b39 139) c39_11
def c39_8:Code:=.loop c39_9
def c39_7:Code:=.block 0 c39_8
def c39_5:Code:=.seq (codeN b39 19) c39_7
def c39_46:Code:=.seq (codeN b39 23) .ret
theorem e39_46:evK gS fi39 c39_46 fr st k=opsR gS fi39 [mv 50 7 70,
 asn 6 50 70] fr st (.seq .ret k):=evK_rs 15 rfl (by kernel_rfl)
def c39_4:Code:=.seq c39_5 c39_46
def c39_2:Code:=.seq (codeN b39 5) c39_4
def c39_0:Code:=.seq (codeN b39 2) c39_2
theorem E39:(evK gS fi39 c39_41 fr st k=opsR gS fi39 [mv 36 11 77,
 qF 37 31 13 3 0,
 ld 38 29 37 29,
 qS 39 77 38 77,
 qE 40 36 39 77 77,
 asn 11 40 77] fr st k) ∧
 evK gS fi39 c39_40 fr st k=condK gS fi39 (fr.op (.tmp 35)).bool? c39_41 .skip fr st k ∧
 (evK gS fi39 c39_38 fr st k=opsR gS fi39 [mv 32 10 22,
 qF 33 31 13 1 0,
 ld 34 3 33 3,
 cal 35 68 [(.tmp 32),(.tmp 34)] [22,3] 4] fr st (.seq c39_40 k)) ∧
 (evK gS fi39 c39_36 fr st k=opsR gS fi39 [ixa 30 26 26 28 0,
 ld 31 31 30 31,
 op1 13 (.alloc 31) 0,
 sto 31 13 31] fr st (.seq c39_38 k)) ∧
 (evK gS fi39 c39_43 fr st k=opsR gS fi39 [qB 41 .add 3 28 1 3 3,
 mv 28 41 3] fr st k) ∧
 evK gS fi39 c39_34 fr st k=evK gS fi39 c39_36 fr st (.blk 3 (.seq c39_43 k)) ∧
 evK gS fi39 c39_30 fr st k=condK gS fi39 (fr.op (.tmp 29)).bool? .skip (.exit 2) fr st (.seq c39_34 k) ∧
 evK gS fi39 c39_28 fr st k=opsR gS fi39 [bop 29 .lss 3 28 27 3 0] fr st (.seq c39_30 k) ∧
 evK gS fi39 c39_26 fr st k=evK gS fi39 c39_27 fr st (.blk 2 k) ∧
 (evK gS fi39 c39_24 fr st k=opsR gS fi39 [mv 26 1 26,
 len1 27 26 26 3,
 op1 28 (.move (.const (.int .i64 0))) 3] fr st (.seq c39_26 k)) ∧
 evK gS fi39 c39_23 fr st k=evK gS fi39 c39_24 fr st (.seq c39_44 k) ∧
 evK gS fi39 c39_21 fr st k=opsR gS fi39 [qN 11 77] fr st (.seq c39_23 k) ∧
 (evK gS fi39 c39_19 fr st k=opsR gS fi39 [mv 22 0 22,
 mv 23 2 3,
 mv 24 9 3,
 cal 25 43 [(.tmp 22),(.tmp 23),(.tmp 24)] [22,3,3] 22,
 asn 10 25 22] fr st (.seq c39_21 k)) ∧
 (evK gS fi39 c39_17 fr st k=opsR gS fi39 [ixa 20 22 16 18 0,
 ld 21 3 20 3,
 asn 9 21 3] fr st (.seq c39_19 k)) ∧
 (evK gS fi39 c39_45 fr st k=opsR gS fi39 [qB 49 .add 3 18 1 3 3,
 mv 18 49 3] fr st k) ∧
 evK gS fi39 c39_15 fr st k=evK gS fi39 c39_17 fr st (.blk 1 (.seq c39_45 k)) ∧
 evK gS fi39 c39_11 fr st k=condK gS fi39 (fr.op (.tmp 19)).bool? .skip (.exit 0) fr st (.seq c39_15 k) ∧
 evK gS fi39 c39_9 fr st k=opsR gS fi39 [bop 19 .lss 3 18 17 3 0] fr st (.seq c39_11 k) ∧
 evK gS fi39 c39_7 fr st k=evK gS fi39 c39_8 fr st (.blk 0 k) ∧
 (evK gS fi39 c39_5 fr st k=opsR gS fi39 [mv 14 0 22,
 mv 15 2 3,
 cal 16 41 [(.tmp 14),(.tmp 15)] [22,3] 22,
 len1 17 16 22 3,
 op1 18 (.move (.const (.int .i64 0))) 3] fr st (.seq c39_7 k)) ∧
 evK gS fi39 c39_4 fr st k=evK gS fi39 c39_5 fr st (.seq c39_46 k) ∧
 evK gS fi39 c39_2 fr st k=opsR gS fi39 [qN 7 70] fr st (.seq c39_4 k) ∧
 evK gS fi39 c39_0 fr st k=opsR gS fi39 [qN 6 70] fr st (.seq c39_2 k):=⟨evK_r 11 (by kernel_rfl),rfl,evK_rs 10 rfl (by kernel_rfl),evK_rs 9 rfl (by kernel_rfl),evK_r 12 (by kernel_rfl),rfl,rfl,evK_rs 8 rfl (by kernel_rfl),rfl,evK_rs 7 rfl (by kernel_rfl),rfl,evK_rs 6 rfl (by kernel_rfl),evK_rs 5 rfl (by kernel_rfl),evK_rs 4 rfl (by kernel_rfl),evK_r 14 (by kernel_rfl),rfl,rfl,evK_rs 3 rfl (by kernel_rfl),rfl,evK_rs 2 rfl (by kernel_rfl),rfl,evK_rs 1 rfl (by kernel_rfl),evK_rs 0 rfl (by kernel_rfl)⟩
theorem m39:mini fi39.body=c39_0:=by kernel_rfl
theorem n39_27 (fr:Fr)(st:St)(k:Kt):nextK gS fi39 (.loop c39_28 k) .normal fr st=evK gS fi39 c39_27 fr st k:=rfl
theorem n39_8 (fr:Fr)(st:St)(k:Kt):nextK gS fi39 (.loop c39_9 k) .normal fr st=evK gS fi39 c39_8 fr st k:=rfl
theorem LI8 (p:List Int)(hp7:p.length<1000)(l:List Sub)(hl1:∀ s∈l,PSm s.filter)(hl2:l.length<1000)(b:Int)(S:St)(R:Out × St)(sd ns:List Int)(t:Int)(io:Nat)(hsd:sd.length<100000)(ko:Nat)(to:List Tbl)(fin:List (List Pred))
  (H:∀ (e13:E) (T:List (Nat × E)) (X:List (Nat × List V)),e13.Tame→evK gS fi39 c39_44 {ps:=[(0,.val (.slice (intVs p))),(1,.val (.slice (encSubs l))),(2,.val (.int .i64 b)),(6,.own 0 []),(7,.own ko (encTbls to)),(9,.val (.int .i64 t)),(10,.val (.slice (intVs sd))),(11,.own (kof 1 fin) (encPredss fin)),(13,e13),(16,.val (.slice (intVs ns))),(17,.val (.int .i64 ns.length)),(18,.val (.int .i64 (io:Nat))),(26,.val (.slice (encSubs l))),(27,.val (.int .i64 l.length)),(28,.val (.int .i64 l.length))],ts:=T,lc:=X} S (.blk 1 (.seq c39_45 (.loop c39_9 (.blk 0 (.seq c39_46 .nil)))))=some R) :
  ∀ (m q:Nat) (out:List (List Pred)) (e13:E) (T:List (Nat × E)) (X:List (Nat × List V)) (h13:e13.Tame),q≤l.length→l.length - q=m→fin=wantG sd (l.drop q) out→out.length≤q →
  evK gS fi39 c39_27 {ps:=[(0,.val (.slice (intVs p))),(1,.val (.slice (encSubs l))),(2,.val (.int .i64 b)),(6,.own 0 []),(7,.own ko (encTbls to)),(9,.val (.int .i64 t)),(10,.val (.slice (intVs sd))),(11,.own (kof 1 out) (encPredss out)),(13,e13),(16,.val (.slice (intVs ns))),(17,.val (.int .i64 ns.length)),(18,.val (.int .i64 (io:Nat))),(26,.val (.slice (encSubs l))),(27,.val (.int .i64 l.length)),(28,.val (.int .i64 (q:Nat)))],ts:=T,lc:=X} S (.blk 2 (.seq c39_44 (.blk 1 (.seq c39_45 (.loop c39_9 (.blk 0 (.seq c39_46 .nil)))))))=some R:=by
 intro m
 induction m with
 | zero =>
  intro q out e13 T X h13 hq hm2 hf hol
  obtain rfl:q=l.length:=by omega
  rw [List.drop_length] at hf
  have hf2:fin=out:=hf
  subst hf2
  refine evK_loop c39_28 _ _ _ _ rfl ?_
  rcases kof_or 1 fin with ⟨hk,rfl⟩ | hk
  ·rw [hk,show encPredss []=[] from rfl] at H ⊢
   simp [-zia,-St.obj,-St.set,h13,-zil,-zit,-znl,-znt,ty3,ty4,ty22,ty26,ty29,ty31,ty70,ty77,ty79,H39,E39,e39_46,n39_27,n39_8]
   exact H _ _ _ h13
  ·rw [hk] at H ⊢
   simp [-zia,-St.obj,-St.set,h13,-zil,-zit,-znl,-znt,ty3,ty4,ty22,ty26,ty29,ty31,ty70,ty77,ty79,H39,E39,e39_46,n39_27,n39_8]
   exact H _ _ _ h13
 | succ m ih =>
  intro q out e13 T X h13 hq hm2 hf hol
  obtain ⟨x,hx⟩  := qgx (l:=l) (i:=q) (by omega)
  have hlt:(q:Int)<(l.length:Int):=by omega
  obtain ⟨hlt2,hxe⟩:=List.getElem?_eq_some_iff.1 hx
  have hw  := qws q (by omega)
  rw [drop_get hx] at hf
  rw [show wantG sd (x :: l.drop (q+1)) out=wantG sd (l.drop (q+1)) (if hasI sd x.broker=true then out ++ [x.filter] else out) from rfl] at hf
  have kk:=fun fr st=>k68 sd x.broker (by omega) fr st
  have hs1:=sizes_predss out
  have hs2:=predss_snoc out x.filter
  have b1:(out.length+1)*24≤140737488355328:=by omega
  have b2:out.length+1≤140737488355328:=by omega
  generalize hasI sd x.broker=z at *
  refine evK_loop c39_28 _ _ _ _ rfl ?_
  cases z with
  | true =>
   rw [if_pos rfl] at hf
   have IH:=fun e13 T X h13=>ih (q+1) (out ++ [x.filter]) e13 T X h13 (by omega) (by omega) hf (by simp;omega)
   rw [kof_snoc] at IH
   rcases kof_or 1 out with ⟨hk,rfl⟩ | hk
   ·have en1:encPredss ([] ++ [x.filter])=[.slice (encPreds x.filter)]:=rfl
    rw [en1] at IH
    rw [hk,show encPredss []=[] from rfl]
    simp [-zia,h13,hx,hxe,hlt,hlt2,hw,kk,-zil,-zit,-znl,-znt,ty3,ty4,ty22,ty26,ty29,ty31,ty70,ty77,ty79,H39,E39,e39_44,e39_46,n39_27,n39_8]
    refine IH _ _ _ ?_
    all_goals simp [h13]
   ·rw [hk]
    simp [-zia,-zaa,h13,hx,hxe,hlt,hlt2,hw,kk,hs1,hs2,b1,b2,-zil,-zit,-znl,-znt,ty3,ty4,ty22,ty26,ty29,ty31,ty70,ty77,ty79,H39,E39,e39_44,e39_46,n39_27,n39_8]
    refine IH _ _ _ ?_
    all_goals simp [h13]
  | false =>
   rw [if_neg (by simp)] at hf
   have IH:=fun e13 T X h13=>ih (q+1) out e13 T X h13 (by omega) (by omega) hf (by omega)
   rcases kof_or 1 out with ⟨hk,rfl⟩ | hk
   ·rw [hk,show encPredss []=[] from rfl] at IH ⊢
    simp [-zia,h13,hx,hxe,hlt,hlt2,hw,kk,-zil,-zit,-znl,-znt,ty3,ty4,ty22,ty26,ty29,ty31,ty70,ty77,ty79,H39,E39,e39_44,e39_46,n39_27,n39_8]
    refine IH _ _ _ ?_
    all_goals simp [h13]
   ·rw [hk] at IH ⊢
    simp [-zia,h13,hx,hxe,hlt,hlt2,hw,kk,-zil,-zit,-znl,-znt,ty3,ty4,ty22,ty26,ty29,ty31,ty70,ty77,ty79,H39,E39,e39_44,e39_46,n39_27,n39_8]
    refine IH _ _ _ ?_
    all_goals simp [h13]
theorem LO8 (p:List Int)(hp7:p.length<1000)(l:List Sub)(hl1:∀ s∈l,PSm s.filter)(hl2:l.length<1000)(b:Int)(S:St)(R:Out × St)(ns:List Int)(hns:ns.length<1000)(fin:List Tbl)
  (H:∀ (e9 e10 e11 e13 e26 e27 e28:E) (T:List (Nat × E)) (X:List (Nat × List V)),e9.Tame→e10.Tame→e11.Firm→e13.Tame→e26.Tame→e27.Tame→e28.Tame→evK gS fi39 c39_46 {ps:=[(0,.val (.slice (intVs p))),(1,.val (.slice (encSubs l))),(2,.val (.int .i64 b)),(6,.own 0 []),(7,.own (kof 2 fin) (encTbls fin)),(9,e9),(10,e10),(11,e11),(13,e13),(16,.val (.slice (intVs ns))),(17,.val (.int .i64 ns.length)),(18,.val (.int .i64 ns.length)),(26,e26),(27,e27),(28,e28)],ts:=T,lc:=X} S .nil=some R) :
  ∀ (m q:Nat) (out:List Tbl) (e9 e10 e11 e13 e26 e27 e28:E) (T:List (Nat × E)) (X:List (Nat × List V)) (h9:e9.Tame) (h10:e10.Tame) (h11:e11.Firm) (h13:e13.Tame) (h26:e26.Tame) (h27:e27.Tame) (h28:e28.Tame),q≤ns.length→ns.length - q=m→fin=out ++ (ns.drop q).map (tabOf p l b)→out.length≤q →
  evK gS fi39 c39_8 {ps:=[(0,.val (.slice (intVs p))),(1,.val (.slice (encSubs l))),(2,.val (.int .i64 b)),(6,.own 0 []),(7,.own (kof 2 out) (encTbls out)),(9,e9),(10,e10),(11,e11),(13,e13),(16,.val (.slice (intVs ns))),(17,.val (.int .i64 ns.length)),(18,.val (.int .i64 (q:Nat))),(26,e26),(27,e27),(28,e28)],ts:=T,lc:=X} S (.blk 0 (.seq c39_46 .nil))=some R:=by
 intro m
 induction m with
 | zero =>
  intro q out e9 e10 e11 e13 e26 e27 e28 T X h9 h10 h11 h13 h26 h27 h28 hq hm2 hf hol
  obtain rfl:q=ns.length:=by omega
  rw [List.drop_length,List.map_nil,List.append_nil] at hf
  subst hf
  refine evK_loop c39_9 _ _ _ _ rfl ?_
  rcases kof_or 2 fin with ⟨hk,rfl⟩ | hk
  ·rw [hk,show encTbls []=[] from rfl] at H ⊢
   simp [-zia,-St.obj,-St.set,h9,h10,h11,h13,h26,h27,h28,-zil,-zit,-znl,-znt,ty3,ty4,ty22,ty26,ty29,ty31,ty70,ty77,ty79,H39,E39,e39_44,n39_27,n39_8]
   exact H _ _ _ _ _ _ _ _ _ h9 h10 h11 h13 h26 h27 h28
  ·rw [hk] at H ⊢
   simp [-zia,-St.obj,-St.set,h9,h10,h11,h13,h26,h27,h28,-zil,-zit,-znl,-znt,ty3,ty4,ty22,ty26,ty29,ty31,ty70,ty77,ty79,H39,E39,e39_44,n39_27,n39_8]
   exact H _ _ _ _ _ _ _ _ _ h9 h10 h11 h13 h26 h27 h28
 | succ m ih =>
  intro q out e9 e10 e11 e13 e26 e27 e28 T X h9 h10 h11 h13 h26 h27 h28 hq hm2 hf hol
  obtain ⟨x,hx⟩  := qgx (l:=ns) (i:=q) (by omega)
  have hlt:(q:Int)<(ns.length:Int):=by omega
  obtain ⟨hlt2,hxe⟩:=List.getElem?_eq_some_iff.1 hx
  have hw  := qws q (by omega)
  rw [drop_get hx,List.map_cons,List.append_cons out (tabOf p l b x)] at hf
  have ks:=fun fr st=>k43 p hp7 b x fr st
  have hsl:=sideT_len p b x
  have hwq:=wantG_eq (sideT p b x) l []
  have hwm:∀ f∈wantG (sideT p b x) l [],PSm f:=fun f hf=>by
   rw [hwq,List.nil_append] at hf
   unfold wantT at hf
   obtain ⟨s,hs,rfl⟩:=List.mem_map.1 hf
   exact hl1 s ((List.mem_filter.1 hs).1)
  have hwl:(wantG (sideT p b x) l []).length≤1000000:=by
   rw [hwq,List.nil_append]
   unfold wantT
   rw [List.length_map]
   have:=List.length_filter_le (fun s:Sub=>hasI (sideT p b x) s.broker) l
   omega
  have kr:=fun fr st=>k69 (wantG (sideT p b x) l []) hwm hwl fr st
  have hto:tabOf p l b x=⟨x,freduce (wantG (sideT p b x) l [])⟩:=rfl
  rw [hto] at hf
  generalize hwt:wantG (sideT p b x) l []=wt at *
  generalize freduce wt=fr0 at *
  have IH:=fun e9 e10 e11 e13 e26 e27 e28 T X h9 h10 h11 h13 h26 h27 h28=>ih (q+1) (out ++ [⟨x,fr0⟩]) e9 e10 e11 e13 e26 e27 e28 T X h9 h10 h11 h13 h26 h27 h28 (by omega) (by omega) hf (by simp;omega)
  rw [kof_snoc] at IH
  have hs1:=sizes_tbls out
  have hs2:=tbls_snoc out ⟨x,fr0⟩
  have b1:(out.length+1)*32≤140737488355328:=by omega
  have b2:out.length+1≤140737488355328:=by omega
  have H44:∀ (e13:E) (T:List (Nat × E)) (X:List (Nat × List V)),e13.Tame→evK gS fi39 c39_44 {ps:=[(0,.val (.slice (intVs p))),(1,.val (.slice (encSubs l))),(2,.val (.int .i64 b)),(6,.own 0 []),(7,.own (kof 2 out) (encTbls out)),(9,.val (.int .i64 x)),(10,.val (.slice (intVs (sideT p b x)))),(11,.own (kof 1 wt) (encPredss wt)),(13,e13),(16,.val (.slice (intVs ns))),(17,.val (.int .i64 ns.length)),(18,.val (.int .i64 (q:Nat))),(26,.val (.slice (encSubs l))),(27,.val (.int .i64 l.length)),(28,.val (.int .i64 l.length))],ts:=T,lc:=X} S (.blk 1 (.seq c39_45 (.loop c39_9 (.blk 0 (.seq c39_46 .nil)))))=some R:=by
   intro e13 T X h13
   have hk1:∀ T:List (Nat × E),True:=fun _=>trivial
   rcases kof_or 1 wt with ⟨hkw,hwn⟩ | hkw
   ·subst hwn
    rw [hkw,show encPredss []=[] from rfl]
    rw [show encPredss []=[] from rfl] at kr
    rcases kof_or 2 out with ⟨hk,rfl⟩ | hk
    ·have en1:encTbls ([] ++ [⟨x,fr0⟩])=[.agg [.int .i64 x,.slice (encPredss fr0)]]:=rfl
     rw [en1] at IH
     rw [hk,show encTbls []=[] from rfl]
     simp [-zia,h13,hw,kr,-zil,-zit,-znl,-znt,ty3,ty4,ty22,ty26,ty29,ty31,ty70,ty77,ty79,H39,E39,e39_44,e39_46,n39_27,n39_8]
     exact IH _ _ _ _ _ _ _ _ _ (tame_val _) (tame_val _) rfl h13 (tame_val _) (tame_val _) (tame_val _)
    ·rw [hk]
     simp [-zia,-zaa,h13,hw,kr,hs1,hs2,b1,b2,-zil,-zit,-znl,-znt,ty3,ty4,ty22,ty26,ty29,ty31,ty70,ty77,ty79,H39,E39,e39_44,e39_46,n39_27,n39_8]
     exact IH _ _ _ _ _ _ _ _ _ (tame_val _) (tame_val _) rfl h13 (tame_val _) (tame_val _) (tame_val _)
   ·rw [hkw]
    rcases kof_or 2 out with ⟨hk,rfl⟩ | hk
    ·have en1:encTbls ([] ++ [⟨x,fr0⟩])=[.agg [.int .i64 x,.slice (encPredss fr0)]]:=rfl
     rw [en1] at IH
     rw [hk,show encTbls []=[] from rfl]
     simp [-zia,h13,hw,kr,-zil,-zit,-znl,-znt,ty3,ty4,ty22,ty26,ty29,ty31,ty70,ty77,ty79,H39,E39,e39_44,e39_46,n39_27,n39_8]
     exact IH _ _ _ _ _ _ _ _ _ (tame_val _) (tame_val _) rfl h13 (tame_val _) (tame_val _) (tame_val _)
    ·rw [hk]
     simp [-zia,-zaa,h13,hw,kr,hs1,hs2,b1,b2,-zil,-zit,-znl,-znt,ty3,ty4,ty22,ty26,ty29,ty31,ty70,ty77,ty79,H39,E39,e39_44,e39_46,n39_27,n39_8]
     exact IH _ _ _ _ _ _ _ _ _ (tame_val _) (tame_val _) rfl h13 (tame_val _) (tame_val _) (tame_val _)
  have LI:=fun e13 T X h13=>LI8 p hp7 l hl1 hl2 b S R (sideT p b x) ns x q (by omega) (kof 2 out) out wt H44 l.length 0 [] e13 T X h13 (Nat.zero_le _) rfl hwt.symm (Nat.le_refl _)
  rw [show ((0:Nat):Int)=0 from rfl] at LI
  rw [show kof 1 ([]:List (List Pred))=0 from rfl,show encPredss []=[] from rfl] at LI
  refine evK_loop c39_9 _ _ _ _ rfl ?_
  simp [-zia,h9,h10,h11,h13,h26,h27,h28,hx,hxe,hlt,hlt2,ks,-zil,-zit,-znl,-znt,ty3,ty4,ty22,ty26,ty29,ty31,ty70,ty77,ty79,H39,E39,e39_44,e39_46,n39_27,n39_8]
  exact LI _ _ _ h13
theorem c39 (p:List Int)(hp7:p.length<900)(l:List Sub)(hl1:∀ s∈l,PSm s.filter)(hl2:l.length<1000)(b:Int)(S:St):EvF gS 39 [.slice (intVs p),.slice (encSubs l),.int .i64 b] S=some (.ret (.slice (encTbls (tablesT p l b))) none,S):=by
 refine EvF_start fi228_eq (fun x h=>by cases h) m39 ?_
 rw [st39]
 have hz:=fun xs st=>frz_slice (xs:=encTbls xs) (flats_tbls xs) st
 have hz0:=hz [] S
 rw [show encTbls []=[] from rfl] at hz0
 have kn:=fun fr st=>k41 p (by omega) b fr st
 have hnl:=nearT_len p b
 unfold tablesT
 generalize nearT p b=ns at *
 generalize hK:ns.map (tabOf p l b)=K
 generalize hR:(Out.ret (V.slice (encTbls K)) none,S)=R
 have hp7':p.length<1000:=by omega
 have H46:∀ (e9 e10 e11 e13 e26 e27 e28:E) (T:List (Nat × E)) (X:List (Nat × List V)),e9.Tame→e10.Tame→e11.Firm→e13.Tame→e26.Tame→e27.Tame→e28.Tame→evK gS fi39 c39_46 {ps:=[(0,.val (.slice (intVs p))),(1,.val (.slice (encSubs l))),(2,.val (.int .i64 b)),(6,.own 0 []),(7,.own (kof 2 K) (encTbls K)),(9,e9),(10,e10),(11,e11),(13,e13),(16,.val (.slice (intVs ns))),(17,.val (.int .i64 ns.length)),(18,.val (.int .i64 ns.length)),(26,e26),(27,e27),(28,e28)],ts:=T,lc:=X} S .nil=some R:=by
  intro e9 e10 e11 e13 e26 e27 e28 T X h9 h10 h11 h13 h26 h27 h28
  rcases kof_or 2 K with ⟨hk,rfl⟩ | hk
  ·rw [hk,show encTbls []=[] from rfl]
   simp [-zia,h9,h10,h11,h13,h26,h27,h28,hz0,← hR,show encTbls []=[] from rfl,-zil,-zit,-znl,-znt,ty3,ty4,ty22,ty26,ty29,ty31,ty70,ty77,ty79,H39,E39,e39_44,e39_46,n39_27,n39_8]
  ·rw [hk]
   simp [-zia,h9,h10,h11,h13,h26,h27,h28,hz,← hR,-zil,-zit,-znl,-znt,ty3,ty4,ty22,ty26,ty29,ty31,ty70,ty77,ty79,H39,E39,e39_44,e39_46,n39_27,n39_8]
 have LL:=fun e9 e10 e11 e13 e26 e27 e28 T X h9 h10 h11 h13 h26 h27 h28=>LO8 p hp7' l hl1 hl2 b S R ns (by omega) K H46 ns.length 0 [] e9 e10 e11 e13 e26 e27 e28 T X h9 h10 h11 h13 h26 h27 h28 (Nat.zero_le _) rfl (by rw [List.drop_zero,List.nil_append];exact hK.symm) (Nat.le_refl _)
 rw [show ((0:Nat):Int)=0 from rfl] at LL
 rw [show kof 2 ([]:List Tbl)=0 from rfl,show encTbls []=[] from rfl] at LL
 simp [kn,-zil,-zit,-znl,-znt,ty3,ty4,ty22,ty26,ty29,ty31,ty70,ty77,ty79,H39,E39,e39_44,e39_46,n39_27,n39_8]
 refine LL _ _ _ _ _ _ _ _ _ ?_ ?_ ?_ ?_ ?_ ?_ ?_
 all_goals simp
theorem k39 (p:List Int)(hp7:p.length<900)(l:List Sub)(hl1:∀ s∈l,PSm s.filter)(hl2:l.length<1000)(b:Int)(fr:Fr)(st:St):callStep gS (EvF gS) 39 [.slice (intVs p),.slice (encSubs l),.int .i64 b] fr st=some (.ok (.val (.slice (encTbls (tablesT p l b)))) fr st) :=
 call_pure rfl fi228_eq rfl (fun st=>c39 p hp7 l hl1 hl2 b st) (by simp [V.flat])
end
end Go.Proofs.Ytdoobejjedpcgaa
namespace Go.Proofs.Ytdoobejjedpcgaa
open Go Go.Ab
noncomputable section
variable (fr:Fr)(st:St)(k:Kt)
def fi42:FI:={body:=codeOf Try.f42,ntmps:=2,results:=[.tmp 0],pers:=[0],locals:=[],pure:=true,marks:=[]}
theorem fi226_eq:gS.fn 42=some fi42:=by kernel_rfl
theorem k42 (fr:Fr)(st:St):callStep gS (EvF gS) 42 [] fr st=some (.ok (.val (.bool true)) fr st):=by
 have hc:EvF gS 42 [] ⟨[],0⟩=some (.ret (.bool true) none,⟨[],0⟩):=Evn.lim ⟨400,fun n hn=>by
  obtain ⟨m,rfl⟩:∃ m,n=m+400:=⟨n - 400,by omega⟩
  kernel_rfl⟩
 exact call_pure' rfl fi226_eq rfl rfl ⟨_,hc⟩ rfl
end
end Go.Proofs.Ytdoobejjedpcgaa
namespace Go.Ab
open Go
theorem upT_sn:∀ (p:List Int)(i:Nat)(q:Int),upT i (p ++ [q])=(upT i p && decide (0≤q) && decide (q≤((i+p.length:Nat):Int)))
 | [],i,q=>by simp [upT]
 | x :: r,i,q=>by
  rw [List.cons_append,upT_cons,upT_cons,upT_sn r (i+1) q,List.length_cons,show i+1+r.length=i+(r.length+1) from by omega]
  simp only [Bool.and_assoc]
structure Leaf (p:List Int) (q:Nat):Prop where
 up:upT 0 p=true
 le:q≤p.length
theorem leaf_of {p:List Int} {q:Int} (h:upT 0 (p ++ [q])=true):∃ k:Nat,q=(k:Int)∧Leaf p k:=by
 rw [upT_sn] at h
 simp only [Bool.and_eq_true,decide_eq_true_eq,Nat.zero_add] at h
 exact ⟨q.toNat,by omega,h.1.1,by omega⟩
theorem tree_rec {P:List Int→Prop} (h0:P [])(h1:∀ (p:List Int) (q:Nat),Leaf p q→P p→P (p ++ [(q:Int)])):∀ (n:Nat) (p:List Int),p.length=n→upT 0 p=true→P p
 | 0,p,hn,_=>by rw [List.length_eq_zero_iff.1 hn];exact h0
 | n+1,p,hn,hu=>by
  rcases List.eq_nil_or_concat p with rfl | ⟨r,q,rfl⟩
  ·exact h0
  ·rw [List.concat_eq_append] at *
   obtain ⟨k,rfl,hl⟩:=leaf_of hu
   exact h1 r k hl (tree_rec h0 h1 n r (by simp at hn;omega) hl.up)
theorem getD_old {p:List Int} {q:Int} {i:Nat} (h:i<p.length):(p ++ [q]).getD i 0=p.getD i 0:=by
 simp [List.getD_eq_getElem?_getD,List.getElem?_append_left h]
theorem up_get {p:List Int} (h:upT 0 p=true) {i:Nat} (hi:i<p.length):∃ k:Nat,p.getD i 0=(k:Int)∧k≤i:=by
 obtain ⟨x,hx⟩:∃ x,p[i]?=some x:=⟨p[i],zge hi⟩
 have:=upT_get p 0 i x h hx
 refine ⟨x.toNat,?_,by omega⟩
 rw [List.getD_eq_getElem?_getD,hx];simp;omega
theorem upF_old {p:List Int} (h:upT 0 p=true)(q:Int):∀ (k b:Nat),b≤p.length→upF (p ++ [q]) k b=upF p k b
 | 0,b,_=>rfl
 | k+1,b,hb=>by
  unfold upF
  by_cases h0:b=0
  ·rw [if_pos h0,if_pos h0]
  ·rw [if_neg h0,if_neg h0,getD_old (by omega)]
   obtain ⟨x,hx,hl⟩:=up_get h (i:=b - 1) (by omega)
   rw [hx,Int.toNat_natCast,upF_old h q k x (by omega)]
theorem upF_fuel {p : List Int} (h : upT 0 p = true) : ∀ (n k b : Nat), k ≤ n → b ≤ k → b ≤ p.length → upF p k b = upF p b b
  | n, 0, b, _, hb, _ => by obtain rfl : b = 0 := by omega
                            rfl
  | 0, k + 1, b, hk, _, _ => by omega
  | n + 1, k + 1, b, hk, hb, hl => by
    cases b with
    | zero => rw [upF_zero, upF_zero]
    | succ c =>
      obtain ⟨x, hx, hxl⟩ := up_get h (i := c) (by omega)
      unfold upF
      rw [if_neg (by omega), if_neg (by omega), show c + 1 - 1 = c from rfl, hx, Int.toNat_natCast, upF_fuel h n k x (by omega) (by omega) (by omega), upF_fuel h n c x (by omega) (by omega) (by omega)]
theorem upF_le {p:List Int} (h:upT 0 p=true):∀ (k b:Nat),b≤p.length→∀ x∈upF p k b,x<(b:Int)
 | 0,b,_,x,hx=>by simp [upF] at hx
 | k+1,b,hb,x,hx=>by
  unfold upF at hx
  by_cases h0:b=0
  ·rw [if_pos h0] at hx;simp at hx
  ·rw [if_neg h0] at hx
   obtain ⟨y,hy,hyl⟩:=up_get h (i:=b - 1) (by omega)
   rw [hy,Int.toNat_natCast] at hx
   rcases List.mem_cons.1 hx with rfl | hx
   ·omega
   ·have:=upF_le h k y (by omega) x hx;omega
theorem upP_old {p:List Int} (h:upT 0 p=true)(q:Int) {b:Nat} (hb:b≤p.length):upP (p ++ [q]) b=upP p b:=by
 unfold upP;rw [upF_old h q b b hb]
theorem upP_new {p:List Int} {q:Nat} (h:Leaf p q):upP (p ++ [(q:Int)]) (p.length+1)=((p.length+1:Nat):Int) :: upP p q:=by
 unfold upP
 have hg:(p ++ [(q:Int)])[p.length]?=some (q:Int):=by simp
 rw [upF_succ _ _ _ _ hg,Int.toNat_natCast,upF_old h.up _ _ _ h.le,upF_fuel h.up p.length p.length q (Nat.le_refl _) h.le h.le]
theorem upP_lt {p:List Int} (h:upT 0 p=true) {b:Nat} (hb:b≤p.length) {x:Int} (hx:x∈upP p b):x≤(b:Int):=by
 unfold upP at hx
 rcases List.mem_cons.1 hx with rfl | hx
 ·exact Int.le_refl _
 ·have:=upF_le h b b hb x hx;omega
theorem trim_l (A B:List Int)(m:Int)(hm:m ∉ B):∀ (k a b:Nat),0<a→0<b→b≤B.length→trimN (m :: A) B k (a+1) b=((trimN A B k a b).1+1,(trimN A B k a b).2)
 | 0,a,b,_,_,_=>rfl
 | k+1,a,b,ha,hb,hl=>by
  unfold trimN
  by_cases h1:a=1
  ·subst h1
   rw [if_neg,if_neg (by omega)]
   rintro ⟨_,h2,h3⟩
   refine hm ?_
   have:B[b - 2]?=some m:=by rw [← h3];rfl
   exact zmg this
  ·have e:(m :: A)[a+1 - 2]?=A[a - 2]?:=by rw [show a+1 - 2=(a - 2)+1 from by omega];rfl
   rw [e]
   by_cases hc:1<a∧1<b∧A[a - 2]?=B[b - 2]?
   ·rw [if_pos ⟨by omega,hc.2⟩,if_pos hc,show a+1 - 1=(a - 1)+1 from by omega]
    exact trim_l A B m hm k (a - 1) (b - 1) (by omega) (by omega) (by omega)
   ·rw [if_neg (fun h=>hc ⟨by omega,h.2⟩),if_neg hc]
theorem trim_r (A B:List Int)(m:Int)(hm:m ∉ B):∀ (k a b:Nat),0<a→0<b→b≤B.length→trimN B (m :: A) k b (a+1)=((trimN B A k b a).1,(trimN B A k b a).2+1)
 | 0,a,b,_,_,_=>rfl
 | k+1,a,b,ha,hb,hl=>by
  unfold trimN
  by_cases h1:a=1
  ·subst h1
   rw [if_neg,if_neg (by omega)]
   rintro ⟨h2,_,h3⟩
   refine hm ?_
   have:B[b - 2]?=some m:=by rw [h3];rfl
   exact zmg this
  ·have e:(m :: A)[a+1 - 2]?=A[a - 2]?:=by rw [show a+1 - 2=(a - 2)+1 from by omega];rfl
   rw [e]
   by_cases hc:1<b∧1<a∧B[b - 2]?=A[a - 2]?
   ·rw [if_pos ⟨hc.1,by omega,hc.2.2⟩,if_pos hc,show a+1 - 1=(a - 1)+1 from by omega]
    exact trim_r A B m hm k (a - 1) (b - 1) (by omega) (by omega) (by omega)
   ·rw [if_neg (fun h=>hc ⟨h.1,by omega,h.2.2⟩),if_neg hc]
theorem join_l (A B:List Int)(m:Int)(hm:m ∉ B)(hA:0<A.length)(hB:0<B.length):joinT (m :: A) B=m :: joinT A B:=by
 unfold joinT
 rw [List.length_cons,trim_l A B m hm 100 A.length B.length hA hB (Nat.le_refl _)]
 simp
theorem join_r (A B:List Int)(m:Int)(hm:m ∉ B)(hA:0<A.length)(hB:0<B.length):joinT B (m :: A)=joinT B A ++ [m]:=by
 unfold joinT
 rw [List.length_cons,trim_r A B m hm 100 A.length B.length hA hB (Nat.le_refl _)]
 have:=trimN_le B A 100 B.length A.length hB hA
 obtain ⟨t,ht⟩:∃ t,(trimN B A 100 B.length A.length).2=t+1:=⟨(trimN B A 100 B.length A.length).2 - 1,by omega⟩
 rw [ht]
 simp
theorem trim_self (A : List Int) : ∀ (k a : Nat), 0 < a → a ≤ k + 1 → trimN A A k a a = (1, 1)
  | 0, a, h0, h1 => by obtain rfl : a = 1 := by omega
                       rfl
  | k + 1, a, h0, h1 => by
    unfold trimN
    by_cases h : 1 < a
    · rw [if_pos ⟨h, h, rfl⟩]
      exact trim_self A k (a - 1) (by omega) (by omega)
    · rw [if_neg (fun hh => h hh.1)]
      obtain rfl : a = 1 := by omega
      rfl
theorem path_self {p:List Int} {a:Nat} (ha:a≤100):pathT p a a=[(a:Int)]:=by
 have h:=upP_len p a
 unfold pathT joinT
 rw [trim_self _ 100 _ h.1 (by omega)]
 simp [upP]
theorem path_old {p:List Int} (h:upT 0 p=true)(q:Int) {a b:Nat} (ha:a≤p.length)(hb:b≤p.length):pathT (p ++ [q]) a b=pathT p a b:=by
 unfold pathT;rw [upP_old h q ha,upP_old h q hb]
theorem new_not {p:List Int} (h:upT 0 p=true) {b:Nat} (hb:b≤p.length):((p.length+1:Nat):Int) ∉ upP p b:=fun hm=>by
 have:=upP_lt h hb hm;omega
theorem path_new_l {p:List Int} {q:Nat} (h:Leaf p q) {b:Nat} (hb:b≤p.length):pathT (p ++ [(q:Int)]) (p.length+1) b=((p.length+1:Nat):Int) :: pathT p q b:=by
 unfold pathT
 rw [upP_new h,upP_old h.up _ hb]
 exact join_l _ _ _ (new_not h.up hb) (upP_len p q).1 (upP_len p b).1
theorem path_new_r {p:List Int} {q:Nat} (h:Leaf p q) {b:Nat} (hb:b≤p.length):pathT (p ++ [(q:Int)]) b (p.length+1)=pathT p b q ++ [((p.length+1:Nat):Int)]:=by
 unfold pathT
 rw [upP_new h,upP_old h.up _ hb]
 exact join_r _ _ _ (new_not h.up hb) (upP_len p q).1 (upP_len p b).1
theorem path_head (p:List Int)(a b:Nat):∃ r,pathT p a b=(a:Int) :: r:=by
 have hA:=upP_len p a
 have hB:=upP_len p b
 have h3:=trimN_le (upP p a) (upP p b) 100 (upP p a).length (upP p b).length hA.1 hB.1
 unfold pathT joinT
 obtain ⟨t,ht⟩:∃ t,(trimN (upP p a) (upP p b) 100 (upP p a).length (upP p b).length).1=t+1:=⟨_,(Nat.succ_pred_eq_of_pos h3.2.2.1).symm⟩
 rw [ht,show upP p a=(a:Int) :: upF p a a from rfl]
 exact ⟨_,rfl⟩
def dN (p:List Int)(a b:Nat):Nat:=(pathT p a b).length - 1
theorem path_pos (p:List Int)(a b:Nat):0<(pathT p a b).length:=by
 obtain ⟨r,hr⟩:=path_head p a b
 rw [hr];simp
theorem dN_old {p:List Int} (h:upT 0 p=true)(q:Int) {a b:Nat} (ha:a≤p.length)(hb:b≤p.length):dN (p ++ [q]) a b=dN p a b:=by unfold dN;rw [path_old h q ha hb]
theorem dN_new_l {p:List Int} {q:Nat} (h:Leaf p q) {b:Nat} (hb:b≤p.length):dN (p ++ [(q:Int)]) (p.length+1) b=dN p q b+1:=by
 have:=path_pos p q b
 unfold dN;rw [path_new_l h hb,List.length_cons];omega
theorem dN_new_r {p:List Int} {q:Nat} (h:Leaf p q) {b:Nat} (hb:b≤p.length):dN (p ++ [(q:Int)]) b (p.length+1)=dN p b q+1:=by
 have:=path_pos p b q
 unfold dN;rw [path_new_r h hb,zla,List.length_singleton];omega
theorem dN_self {p:List Int} {a:Nat} (ha:a≤100):dN p a a=0:=by unfold dN;rw [path_self ha];rfl
def nxN (p:List Int)(a b:Nat):Nat:=((pathT p a b).getD 1 0).toNat
theorem dN_zero:∀ (n:Nat)(p:List Int),p.length=n→n≤50→upT 0 p=true→∀ a b,a≤p.length→b≤p.length→dN p a b=0→a=b:=by
 intro n p hn hn50 hu a b ha hb h
 by_cases hab:a=b
 ·exact hab
 ·have:=path_two (p:=p) hab
  unfold dN at h;omega
theorem dN_symm:∀ (n:Nat)(p:List Int),p.length=n→upT 0 p=true→n≤50→∀ a b,a≤p.length→b≤p.length→dN p a b=dN p b a:=by
 intro n p hn hu hl
 revert hl
 rw [← hn]
 refine tree_rec (P:=fun p=>p.length≤50→∀ a b,a≤p.length→b≤p.length→dN p a b=dN p b a) ?_ ?_ n p hn hu
 ·intro _ a b ha hb
  simp at ha hb
  subst ha;subst hb;rfl
 ·intro p q hq ih hl a b ha hb
  rw [zla,List.length_singleton] at hl ha hb
  by_cases h1:a=p.length+1
  ·subst h1
   by_cases h2:b=p.length+1
   ·rw [h2]
   ·rw [dN_new_l hq (by omega),dN_new_r hq (by omega),ih (by omega) q b hq.le (by omega)]
  ·by_cases h2:b=p.length+1
   ·subst h2
    rw [dN_new_l hq (by omega),dN_new_r hq (by omega),ih (by omega) q a hq.le (by omega)]
   ·rw [dN_old hq.up _ (by omega) (by omega),dN_old hq.up _ (by omega) (by omega)]
    exact ih (by omega) a b (by omega) (by omega)
theorem dN_tri:∀ (n:Nat)(p:List Int),p.length=n→upT 0 p=true→n≤50→∀ a b c,a≤p.length→b≤p.length→c≤p.length→dN p a c≤dN p a b+dN p b c:=by
 intro n p hn hu hl
 revert hl
 rw [← hn]
 refine tree_rec (P:=fun p=>p.length≤50→∀ a b c,a≤p.length→b≤p.length→c≤p.length→dN p a c≤dN p a b+dN p b c) ?_ ?_ n p hn hu
 ·intro _ a b c ha hb hc
  simp at ha hb hc
  subst ha;subst hb;subst hc
  rw [dN_self (by omega)];omega
 ·intro p q hq ih hl a b c ha hb hc
  rw [zla,List.length_singleton] at hl ha hb hc
  have old:=fun (x y:Nat) (hx:x≤p.length) (hy:y≤p.length)=>dN_old hq.up (q:Int) hx hy
  have sz:dN (p ++ [(q:Int)]) (p.length+1) (p.length+1)=0:=dN_self (by omega)
  have IH:=ih (by omega)
  have qz:dN p q q=0:=dN_self (by have:=hq.le;omega)
  by_cases h1:a=p.length+1
  ·subst h1
   by_cases h2:b=p.length+1
   ·subst h2;omega
   ·rw [dN_new_l hq (b:=b) (by omega)]
    by_cases h3:c=p.length+1
    ·subst h3;rw [sz];omega
    ·rw [dN_new_l hq (b:=c) (by omega),old b c (by omega) (by omega)]
     have:=IH q b c hq.le (by omega) (by omega);omega
  ·by_cases h2:b=p.length+1
   ·subst h2
    rw [dN_new_r hq (b:=a) (by omega)]
    by_cases h3:c=p.length+1
    ·subst h3;rw [dN_new_r hq (b:=a) (by omega),sz];omega
    ·rw [dN_new_l hq (b:=c) (by omega),old a c (by omega) (by omega)]
     have:=IH a q c (by omega) hq.le (by omega);omega
   ·rw [old a b (by omega) (by omega)]
    by_cases h3:c=p.length+1
    ·subst h3
     rw [dN_new_r hq (b:=a) (by omega),dN_new_r hq (b:=b) (by omega)]
     have:=IH a b q (by omega) (by omega) hq.le;omega
    ·rw [old a c (by omega) (by omega),old b c (by omega) (by omega)]
     exact IH a b c (by omega) (by omega) (by omega)
theorem nx_old {p:List Int} (h:upT 0 p=true)(q:Int) {a b:Nat} (ha:a≤p.length)(hb:b≤p.length):nxN (p ++ [q]) a b=nxN p a b:=by unfold nxN;rw [path_old h q ha hb]
theorem nx_new_l {p:List Int} {q:Nat} (h:Leaf p q) {b:Nat} (hb:b≤p.length):nxN (p ++ [(q:Int)]) (p.length+1) b=q:=by
 unfold nxN
 obtain ⟨r,hr⟩:=path_head p q b
 rw [path_new_l h hb,hr];simp
theorem nx_new_r {p:List Int} {q:Nat} (h:Leaf p q) {b:Nat} (hb:b≤p.length)(hl:p.length≤90):nxN (p ++ [(q:Int)]) b (p.length+1)=if b=q then p.length+1 else nxN p b q:=by
 unfold nxN
 rw [path_new_r h hb]
 split
 ·rename_i e
  subst e
  rw [path_self (by omega)];simp
 ·rename_i e
  have:=path_two (p:=p) e
  rw [List.getD_eq_getElem?_getD,List.getElem?_append_left (by omega),← List.getD_eq_getElem?_getD]
theorem between:∀ (n:Nat)(p:List Int),p.length=n→upT 0 p=true→n≤50→∀ a b c,a≤p.length→b≤p.length→c≤p.length→(b=a∨b=c∨nxN p b a≠nxN p b c)→dN p a b+dN p b c=dN p a c:=by
 intro n p hn hu hl
 revert hl
 rw [← hn]
 refine tree_rec (P:=fun p=>p.length≤50→∀ a b c,a≤p.length→b≤p.length→c≤p.length→(b=a∨b=c∨nxN p b a≠nxN p b c)→dN p a b+dN p b c=dN p a c) ?_ ?_ n p hn hu
 ·intro _ a b c ha hb hc _
  simp at ha hb hc
  subst ha;subst hb;subst hc
  rw [dN_self (by omega)]
 ·intro p q hq ih hl a b c ha hb hc h
  rw [zla,List.length_singleton] at hl ha hb hc
  have old:=fun (x y:Nat) (hx:x≤p.length) (hy:y≤p.length)=>dN_old hq.up (q:Int) hx hy
  have sz:dN (p ++ [(q:Int)]) (p.length+1) (p.length+1)=0:=dN_self (by omega)
  have IH:=ih (by omega)
  have hql:=hq.le
  have qz:dN p q q=0:=dN_self (by omega)
  by_cases hab:b=a
  ·subst hab
   rw [dN_self (by omega)];omega
  by_cases hbc:b=c
  ·subst hbc
   rw [dN_self (p:=p ++ [(q:Int)]) (a:=b) (by omega)];omega
  have h:=(h.resolve_left hab).resolve_left hbc
  by_cases h2:b=p.length+1
  ·subst h2
   rw [nx_new_l hq (by omega),nx_new_l hq (by omega)] at h
   exact absurd rfl h
  by_cases h1:a=p.length+1
  ·subst h1
   by_cases h3:c=p.length+1
   ·subst h3;exact absurd rfl h
   ·rw [nx_new_r hq (by omega) (by omega),nx_old hq.up _ (by omega) (by omega)] at h
    rw [dN_new_l hq (b:=b) (by omega),dN_new_l hq (b:=c) (by omega),old b c (by omega) (by omega)]
    by_cases hb:b=q
    ·subst hb;omega
    ·rw [if_neg hb] at h
     have:=IH q b c hql (by omega) (by omega) (.inr (.inr h));omega
  ·by_cases h3:c=p.length+1
   ·subst h3
    rw [nx_new_r hq (by omega) (by omega),nx_old hq.up _ (by omega) (by omega)] at h
    rw [dN_new_r hq (b:=b) (by omega),dN_new_r hq (b:=a) (by omega),old a b (by omega) (by omega)]
    by_cases hb:b=q
    ·subst hb;omega
    ·rw [if_neg hb] at h
     have:=IH a b q (by omega) (by omega) hql (.inr (.inr h));omega
   ·rw [nx_old hq.up _ (by omega) (by omega),nx_old hq.up _ (by omega) (by omega)] at h
    rw [old a b (by omega) (by omega),old b c (by omega) (by omega),old a c (by omega) (by omega)]
    exact IH a b c (by omega) (by omega) (by omega) (.inr (.inr h))
end Go.Ab
namespace Go.Ab
open Go
theorem kidG_snoc (b q:Int):∀ (r:List Int) (i:Nat) (out:List Int),kidG b i (r ++ [q]) out=kidG b i r out ++ (if q=b then [((i+r.length+1:Nat):Int)] else [])
 | [],i,out=>by
  simp only [List.nil_append,kidG,List.length_nil,Nat.add_zero]
  split <;> simp
 | x :: r,i,out=>by
  simp only [List.cons_append,kidG]
  rw [kidG_snoc b q r,List.length_cons,show i+1+r.length+1=i+(r.length+1)+1 from by omega]
theorem kidG_none (b:Int):∀ (r:List Int) (i:Nat) (out:List Int),(∀ x∈r,x≠b)→kidG b i r out=out
 | [],i,out,_=>rfl
 | x :: r,i,out,h=>by
  simp only [kidG]
  rw [if_neg (h x (by simp)),kidG_none b r _ _ (fun y hy=>h y (by simp [hy]))]
theorem right_of {p:List Int} (hu:upT 0 p=true)(hl:p.length≤7):rightT p=true:=by unfold rightT;rw [hu];simp;omega
theorem is_of {p:List Int} (hu:upT 0 p=true)(hl:p.length≤7) {b:Nat} (hb:b≤p.length):isT p (b:Int)=true:=by unfold isT;rw [right_of hu hl];simp;omega
theorem snoc_up {p:List Int} {q:Nat} (h:Leaf p q):upT 0 (p ++ [(q:Int)])=true:=by
 have:=h.le
 rw [upT_sn,h.up];simp;omega
theorem near_old {p:List Int} {q:Nat} (h:Leaf p q)(hl:p.length≤6) {b:Nat} (hb:b≤p.length):nearT (p ++ [(q:Int)]) (b:Int)=nearT p (b:Int) ++ (if q=b then [((p.length+1:Nat):Int)] else []):=by
 have h1:=is_of (snoc_up h) (by simp;omega) (b:=b) (by simp;omega)
 have h2:=is_of h.up (by omega) hb
 unfold nearT kidsT
 rw [h1,h2]
 simp only [if_true]
 rw [kidG_snoc,Nat.zero_add,zaa]
 congr 1
 ·by_cases h0:b=0
  ·subst h0;rfl
  ·rw [if_pos (by omega),if_pos (by omega),Int.toNat_natCast,getD_old (by omega)]
 ·congr 1
  by_cases hqb:q=b
  ·rw [if_pos hqb,if_pos (by omega)]
  ·rw [if_neg hqb,if_neg (by omega)]
theorem near_new {p:List Int} {q:Nat} (h:Leaf p q)(hl:p.length≤6):nearT (p ++ [(q:Int)]) ((p.length+1:Nat):Int)=[(q:Int)]:=by
 have h1:=is_of (snoc_up h) (by simp;omega) (b:=p.length+1) (by simp)
 unfold nearT kidsT
 rw [h1]
 simp only [if_true]
 rw [kidG_none,if_pos (by omega),Int.toNat_natCast]
 ·simp
 ·intro x hx
  have hu:=snoc_up h
  obtain ⟨i,hi,rfl⟩:=List.getElem_of_mem hx
  have:=upT_get _ 0 i _ hu (zge hi)
  simp at hi
  omega
def Tr (p:List Int):Prop:=upT 0 p=true∧p.length≤7
theorem tr_rec {P:List Int→Prop} (h0:P [])(h1:∀ (p:List Int) (q:Nat),Leaf p q→p.length≤6→P p→P (p ++ [(q:Int)])) {p:List Int} (h:Tr p):P p:=by
 have:=tree_rec (P:=fun p=>p.length≤7→P p) (fun _=>h0) (fun p q hq ih hl=>h1 p q hq (by simp at hl;omega) (ih (by simp at hl;omega))) p.length p rfl h.1
 exact this h.2
theorem near_valid {p:List Int} (h:Tr p):∀ (b:Nat),b≤p.length→∀ n∈nearT p (b:Int),∃ k:Nat,n=(k:Int)∧k≤p.length:=by
 refine tr_rec (P:=fun p=>∀ (b:Nat),b≤p.length→∀ n∈nearT p (b:Int),∃ k:Nat,n=(k:Int)∧k≤p.length) ?_ ?_ h
 ·intro b hb n hn
  simp at hb;subst hb
  simp [nearT,kidsT,kidG] at hn
 ·intro p q hq hl ih b hb n hn
  rw [zla,List.length_singleton] at hb ⊢
  by_cases h1:b=p.length+1
  ·subst h1
   rw [near_new hq hl] at hn
   simp at hn;subst hn
   exact ⟨q,rfl,by have:=hq.le;omega⟩
  ·rw [near_old hq hl (by omega)] at hn
   rcases List.mem_append.1 hn with hn | hn
   ·obtain ⟨k,e,hk⟩:=ih b (by omega) n hn
    exact ⟨k,e,by omega⟩
   ·split at hn
    ·simp at hn;subst hn;exact ⟨p.length+1,by omega,by omega⟩
    ·simp at hn
theorem near_nodup {p:List Int} (h:Tr p):∀ (b:Nat),b≤p.length→(nearT p (b:Int)).Nodup:=by
 refine (tr_rec (P:=fun p=>Tr p→∀ (b:Nat),b≤p.length→(nearT p (b:Int)).Nodup) ?_ ?_ h) h
 ·intro _ b hb
  simp at hb;subst hb
  simp [nearT,kidsT,kidG]
 ·intro p q hq hl ih _ b hb
  have htp:Tr p:=⟨hq.up,by omega⟩
  rw [zla,List.length_singleton] at hb
  by_cases h1:b=p.length+1
  ·subst h1;rw [near_new hq hl];simp
  ·rw [near_old hq hl (by omega),List.nodup_append]
   refine ⟨ih htp b (by omega),?_,fun x hx y hy=>?_⟩
   ·split <;> simp
   ·obtain ⟨k,rfl,hk⟩:=near_valid htp b (by omega) x hx
    split at hy
    ·simp at hy;subst hy;omega
    ·simp at hy
theorem near_symm {p:List Int} (h:Tr p):∀ (b n:Nat),b≤p.length→n≤p.length→(n:Int)∈nearT p (b:Int)→(b:Int)∈nearT p (n:Int):=by
 refine (tr_rec (P:=fun p=>∀ (b n:Nat),b≤p.length→n≤p.length→(n:Int)∈nearT p (b:Int)→(b:Int)∈nearT p (n:Int)) ?_ ?_ h)
 ·intro b n hb hn hm
  simp at hb;subst hb
  simp [nearT,kidsT,kidG] at hm
 ·intro p q hq hl ih b n hb hn hm
  have htp:Tr p:=⟨hq.up,by omega⟩
  have hql:=hq.le
  rw [zla,List.length_singleton] at hb hn
  by_cases h1:b=p.length+1
  ·subst h1
   rw [near_new hq hl] at hm
   have:n=q:=by simp at hm;omega
   subst this
   rw [near_old hq hl hql,if_pos rfl];simp
  ·rw [near_old hq hl (by omega)] at hm
   by_cases h2:n=p.length+1
   ·subst h2
    rw [near_new hq hl]
    rcases List.mem_append.1 hm with hm | hm
    ·obtain ⟨k,e,hk⟩:=near_valid htp b (by omega) _ hm
     omega
    ·split at hm
     ·rename_i e;subst e;simp
     ·simp at hm
   ·rw [near_old hq hl (by omega)]
    rcases List.mem_append.1 hm with hm | hm
    ·exact List.mem_append_left _ (ih b n (by omega) (by omega) hm)
    ·split at hm
     ·simp at hm;omega
     ·simp at hm
theorem nx_near {p:List Int} (h:Tr p):∀ (b w:Nat),b≤p.length→w≤p.length→w≠b→(nxN p b w:Int)∈nearT p (b:Int):=by
 refine (tr_rec (P:=fun p=>∀ (b w:Nat),b≤p.length→w≤p.length→w≠b→(nxN p b w:Int)∈nearT p (b:Int)) ?_ ?_ h)
 ·intro b w hb hw hne
  simp at hb hw;omega
 ·intro p q hq hl ih b w hb hw hne
  have hql:=hq.le
  rw [zla,List.length_singleton] at hb hw
  by_cases h1:b=p.length+1
  ·subst h1
   rw [near_new hq hl,nx_new_l hq (by omega)];simp
  ·rw [near_old hq hl (by omega)]
   by_cases h2:w=p.length+1
   ·subst h2
    rw [nx_new_r hq (by omega) (by omega)]
    by_cases h3:b=q
    ·subst h3;rw [if_pos rfl,if_pos rfl];simp
    ·rw [if_neg h3]
     exact List.mem_append_left _ (ih b q (by omega) hql (fun e=>h3 e.symm))
   ·rw [nx_old hq.up _ (by omega) (by omega)]
    exact List.mem_append_left _ (ih b w (by omega) (by omega) hne)
theorem nx_valid {p:List Int} (h:Tr p) {b w:Nat} (hb:b≤p.length)(hw:w≤p.length)(hne:w≠b):nxN p b w≤p.length:=by
 obtain ⟨k,e,hk⟩:=near_valid h b hb _ (nx_near h b w hb hw hne)
 omega
theorem step_d {p:List Int} (h:Tr p):∀ (b n w:Nat),b≤p.length→n≤p.length→w≤p.length→(n:Int)∈nearT p (b:Int)→if w≠b∧nxN p b w=n then dN p n w+1=dN p b w else dN p n w=dN p b w+1:=by
 refine (tr_rec (P:=fun p=>∀ (b n w:Nat),b≤p.length→n≤p.length→w≤p.length→(n:Int)∈nearT p (b:Int)→if w≠b∧nxN p b w=n then dN p n w+1=dN p b w else dN p n w=dN p b w+1) ?_ ?_ h)
 ·intro b n w hb hn hw hm
  simp at hb;subst hb
  simp [nearT,kidsT,kidG] at hm
 ·intro p q hq hl ih b n w hb hn hw hm
  have htp:Tr p:=⟨hq.up,by omega⟩
  have hql:=hq.le
  rw [zla,List.length_singleton] at hb hn hw
  have sz:dN (p ++ [(q:Int)]) (p.length+1) (p.length+1)=0:=dN_self (by omega)
  have qz:dN p q q=0:=dN_self (by omega)
  by_cases h1:b=p.length+1
  ·subst h1
   rw [near_new hq hl] at hm
   have e:n=q:=by simp at hm;omega
   subst e
   by_cases h2:w=p.length+1
   ·subst h2
    rw [if_neg (fun e=>e.1 rfl),dN_new_r hq hql,sz];omega
   ·rw [nx_new_l hq (by omega),if_pos ⟨h2,rfl⟩,dN_new_l hq (b:=w) (by omega),dN_old hq.up _ hql (by omega)]
  ·rw [near_old hq hl (by omega)] at hm
   by_cases h3:n=p.length+1
   ·subst h3
    have e:q=b:=by
     rcases List.mem_append.1 hm with hm | hm
     ·obtain ⟨k,e,hk⟩:=near_valid htp b (by omega) _ hm
      omega
     ·split at hm
      ·assumption
      ·simp at hm
    subst e
    by_cases h2:w=p.length+1
    ·subst h2
     rw [nx_new_r hq hql (by omega),if_pos rfl,if_pos ⟨by omega,rfl⟩,dN_new_r hq hql,sz];omega
    ·rw [nx_old hq.up _ hql (by omega),dN_new_l hq (b:=w) (by omega),dN_old hq.up _ hql (by omega)]
     rw [if_neg]
     rintro ⟨hne,e⟩
     have:=nx_valid htp hql (w:=w) (by omega) hne
     omega
   ·have hm':(n:Int)∈nearT p (b:Int):=by
     rcases List.mem_append.1 hm with hm | hm
     ·exact hm
     ·split at hm
      ·simp at hm;omega
      ·simp at hm
    by_cases h2:w=p.length+1
    ·subst h2
     have IH:=ih b n q (by omega) (by omega) hql hm'
     rw [nx_new_r hq (by omega) (by omega),dN_new_r hq (b:=n) (by omega),dN_new_r hq (b:=b) (by omega)]
     by_cases hbq:b=q
     ·subst hbq
      rw [if_neg (fun e=>e.1 rfl)] at IH
      rw [if_pos rfl,if_neg (by omega)];omega
     ·rw [if_neg hbq]
      by_cases hc:nxN p b q=n
      ·rw [if_pos ⟨fun e=>hbq e.symm,hc⟩] at IH
       rw [if_pos ⟨by omega,hc⟩];omega
      ·rw [if_neg (fun e=>hc e.2)] at IH
       rw [if_neg (fun e=>hc e.2)];omega
    ·have IH:=ih b n w (by omega) (by omega) (by omega) hm'
     rw [nx_old hq.up _ (by omega) (by omega),dN_old hq.up _ (by omega) (by omega),dN_old hq.up _ (by omega) (by omega)]
     exact IH
theorem dN_le {p:List Int} (h:Tr p):∀ (a b:Nat),a≤p.length→b≤p.length→dN p a b≤p.length:=by
 refine (tr_rec (P:=fun p=>∀ (a b:Nat),a≤p.length→b≤p.length→dN p a b≤p.length) ?_ ?_ h)
 ·intro a b ha hb
  simp at ha hb;subst ha;subst hb
  rw [dN_self (by omega)];omega
 ·intro p q hq hl ih a b ha hb
  have hql:=hq.le
  rw [zla,List.length_singleton] at ha hb ⊢
  by_cases h1:a=p.length+1
  ·subst h1
   by_cases h2:b=p.length+1
   ·subst h2;rw [dN_self (by omega)];omega
   ·rw [dN_new_l hq (by omega)];have:=ih q b hql (by omega);omega
  ·by_cases h2:b=p.length+1
   ·subst h2;rw [dN_new_r hq (by omega)];have:=ih a q (by omega) hql;omega
   ·rw [dN_old hq.up _ (by omega) (by omega)];have:=ih a b (by omega) (by omega);omega
theorem Tr.tri {p:List Int} (h:Tr p) {a b c:Nat} (ha:a≤p.length)(hb:b≤p.length)(hc:c≤p.length):dN p a c≤dN p a b+dN p b c:=dN_tri p.length p rfl h.1 (by have:=h.2;omega) a b c ha hb hc
theorem Tr.sym {p:List Int} (h:Tr p) {a b:Nat} (ha:a≤p.length)(hb:b≤p.length):dN p a b=dN p b a:=dN_symm p.length p rfl h.1 (by have:=h.2;omega) a b ha hb
theorem Tr.bet {p:List Int} (h:Tr p) {a b c:Nat} (ha:a≤p.length)(hb:b≤p.length)(hc:c≤p.length)(hn:b=a∨b=c∨nxN p b a≠nxN p b c):dN p a b+dN p b c=dN p a c:=between p.length p rfl h.1 (by have:=h.2;omega) a b c ha hb hc hn
theorem away {p:List Int} (h:Tr p) {t b n:Nat} (ht:t≤p.length)(hb:b≤p.length)(hn:n≤p.length)(hm:(n:Int)∈nearT p (b:Int))(hf:b=t∨nxN p b t≠n):dN p t n=dN p t b+1∧t≠n∧nxN p n t=b:=by
 have h1:=step_d h b n t hb hn ht hm
 rw [if_neg (by rintro ⟨e1,e2⟩;rcases hf with hf | hf;exact e1 hf.symm;exact hf e2)] at h1
 have h2:=step_d h n b t hn hb ht (near_symm h b n hb hn hm)
 have hne:t≠n:=by
  intro e
  subst e
  rw [dN_self (by have:=h.2;omega)] at h1;omega
 refine ⟨by rw [h.sym ht hn,h.sym ht hb];exact h1,hne,?_⟩
 by_cases hc:t≠n∧nxN p n t=b
 ·exact hc.2
 ·rw [if_neg hc] at h2;omega
theorem via {p:List Int} (h:Tr p) {t b n w:Nat} (ht:t≤p.length)(hb:b≤p.length)(hn:n≤p.length)(hw:w≤p.length)(hm:(n:Int)∈nearT p (b:Int))(hf:b=t∨nxN p b t≠n):(w≠b∧nxN p b w=n)↔dN p t n+dN p n w=dN p t w:=by
 have ha:=away h ht hb hn hm hf
 have hs:=step_d h b n w hb hn hw hm
 constructor
 ·intro hc
  rw [if_pos hc] at hs
  have hbt:=h.bet ht hb hw (by
   rcases hf with hf | hf
   ·exact .inl hf
   ·exact .inr (.inr (by rw [hc.2];exact hf)))
  omega
 ·intro he
  by_cases hc:w≠b∧nxN p b w=n
  ·exact hc
  ·rw [if_neg hc] at hs
   have:=h.tri ht hb hw
   omega
end Go.Ab
namespace Go.Ab
open Go
def before (a b:Nat)(l:List Atom):Prop:=∀ x∈l,x.a<(a:Int)∨(x.a=(a:Int)∧x.b<(b:Int))
end Go.Ab
namespace Go.Ab
open Go
theorem fstep_sub {row:List (List Pred)} {f g:List Pred} (h:g∈fstep row f):g∈row∨g=f:=by
 unfold fstep at h
 split at h
 ·exact .inl h
 ·rcases List.mem_append.1 h with h | h
  ·exact .inl ((List.mem_filter.1 h).1)
  ·exact .inr (by simpa using h)
theorem freduce_sub:∀ (l row:List (List Pred))(g:List Pred),g∈l.foldl fstep row→g∈row∨g∈l
 | [],_,_,h=>.inl h
 | f :: r,row,g,h=>by
  rw [List.foldl_cons] at h
  rcases freduce_sub r _ g h with h | h
  ·rcases fstep_sub h with h | rfl
   ·exact .inl h
   ·exact .inr (by simp)
  ·exact .inr (by simp [h])
theorem freduce_mem {l:List (List Pred)} {g:List Pred} (h:g∈freduce l):g∈l:=by
 rcases freduce_sub l [] g h with h | h
 ·simp at h
 ·exact h
theorem fstep_len2 (row:List (List Pred))(f:List Pred):(fstep row f).length≤row.length+1:=by
 unfold fstep
 split
 ·omega
 ·have:=List.length_filter_le (fun g=>!fcovers f g) row
  simp only [zla,List.length_singleton];omega
theorem freduce_len:∀ (l row:List (List Pred)),(l.foldl fstep row).length≤row.length+l.length
 | [],_=>Nat.le_refl _
 | f :: r,row=>by
  have h1:=freduce_len r (fstep row f)
  have h2:=fstep_len2 row f
  simp only [List.foldl_cons,List.length_cons];omega
def jStep (s:Sub)(A:List Attr)(b:Bool)(y:Int):Bool:=b || (decide (s.broker=y) && ftakes s.filter A)
theorem j_fold (s:Sub)(A:List Attr):∀ (sd:List Int) (b:Bool),sd.foldl (jStep s A) b=(b || (hasI sd s.broker && ftakes s.filter A))
 | [],b=>by simp [hasI]
 | y :: r,b=>by
  rw [List.foldl_cons,j_fold s A r]
  unfold jStep
  rw [show hasI (y :: r) s.broker=if y=s.broker then true else hasI r s.broker from rfl]
  by_cases h:y=s.broker
  ·subst h;cases b <;> cases ftakes s.filter A <;> simp
  ·have h2:¬ s.broker=y:=fun e=>h e.symm
   simp [h,h2]
def kStep (sd:List Int)(A:List Attr)(b:Bool)(s:Sub):Bool:=sd.foldl (jStep s A) b
theorem k_fold (sd:List Int)(A:List Attr):∀ (xs:List Sub) (b:Bool),xs.foldl (kStep sd A) b=(b || fany (wantT sd xs) A)
 | [],b=>by simp [wantT,fany]
 | s :: r,b=>by
  rw [List.foldl_cons,k_fold sd A r]
  unfold kStep
  rw [j_fold]
  unfold wantT fany
  rw [List.filter_cons]
  cases hasI sd s.broker <;> simp [Bool.or_assoc]
theorem tab_any {p:List Int} {l:List Sub} (hl:∀ s∈l,FF s.filter) {A:List Attr} (hA:AFV A)(b n:Int):fany (tabOf p l b n).fs A=l.foldl (kStep (sideT p b n) A) false:=by
 rw [k_fold,Bool.false_or]
 unfold tabOf
 simp only
 rw [wantG_eq,List.nil_append]
 unfold freduce
 rw [freduce_any hA _ [] (by simp) (fun g hg=>?_)]
 ·simp [fany]
 ·unfold wantT at hg
  obtain ⟨s,hs,rfl⟩:=List.mem_map.1 hg
  exact hl s ((List.mem_filter.1 hs).1)
theorem tab_fs {p:List Int} {l:List Sub} {Q:List Pred→Prop} (hl:∀ s∈l,Q s.filter)(b n:Int):∀ f∈(tabOf p l b n).fs,Q f:=fun f hf=>by
 have:=freduce_mem hf
 rw [wantG_eq,List.nil_append] at this
 unfold wantT at this
 obtain ⟨s,hs,rfl⟩:=List.mem_map.1 this
 exact hl s ((List.mem_filter.1 hs).1)
theorem tab_len {p:List Int} {l:List Sub} (b n:Int):(tabOf p l b n).fs.length≤l.length:=by
 have h1:=freduce_len (wantG (sideT p b n) l []) []
 have h2:(wantG (sideT p b n) l []).length≤l.length:=by
  rw [wantG_eq,List.nil_append]
  unfold wantT
  rw [List.length_map]
  exact List.length_filter_le _ _
 show (freduce (wantG (sideT p b n) l [])).length≤l.length
 unfold freduce
 simp at h1;omega
end Go.Ab
namespace Go.Ab
open Go
def onB (p:List Int)(t:Nat)(W:Nat→Bool)(x:Nat):Bool:=decide (x=t) || (List.range (p.length+1)).any fun w=>W w && decide (dN p t x+dN p x w=dN p t w)
def viaB (p:List Int)(W:Nat→Bool)(b n:Nat):Bool:=(List.range (p.length+1)).any fun w=>W w && (decide (w≠b) && decide (nxN p b w=n))
def kidsF (p:List Int)(W:Nat→Bool)(b:Nat)(f:Int):List Nat:=((nearT p (b:Int)).map Int.toNat).filter fun n=>decide ((n:Int)≠f) && viaB p W b n
def dfs (p:List Int)(W:Nat→Bool):Nat→Nat→Int→List Nat
 | 0,_,_=>[]
 | k+1,b,f=>b :: (kidsF p W b f).flatMap fun n=>dfs p W k n (b:Int)
theorem onB_iff {p:List Int} {t:Nat} {W:Nat→Bool} {x:Nat}:onB p t W x=true↔x=t∨∃ w,w≤p.length∧W w=true∧dN p t x+dN p x w=dN p t w:=by
 unfold onB
 rw [Bool.or_eq_true,List.any_eq_true,decide_eq_true_eq]
 constructor
 ·rintro (h | ⟨w,h1,h2⟩)
  ·exact .inl h
  ·rw [Bool.and_eq_true,decide_eq_true_eq] at h2
   exact .inr ⟨w,by rw [List.mem_range] at h1;omega,h2.1,h2.2⟩
 ·rintro (h | ⟨w,h1,h2,h3⟩)
  ·exact .inl h
  ·exact .inr ⟨w,List.mem_range.2 (by omega),by rw [h2,Bool.true_and];exact decide_eq_true h3⟩
theorem viaB_iff {p:List Int} {W:Nat→Bool} {b n:Nat}:viaB p W b n=true↔∃ w,w≤p.length∧W w=true∧w≠b∧nxN p b w=n:=by
 unfold viaB
 rw [List.any_eq_true]
 constructor
 ·rintro ⟨w,h1,h2⟩
  simp only [Bool.and_eq_true,decide_eq_true_eq] at h2
  exact ⟨w,by rw [List.mem_range] at h1;omega,h2.1,h2.2.1,h2.2.2⟩
 ·rintro ⟨w,h1,h2,h3,h4⟩
  exact ⟨w,List.mem_range.2 (by omega),by simp only [Bool.and_eq_true,decide_eq_true_eq];exact ⟨h2,h3,h4⟩⟩
structure Ok (p:List Int) (t:Nat) (W:Nat→Bool) (b:Nat) (f:Int):Prop where
 le:b≤p.length
 fr:f=if b=t then -1 else (nxN p b t:Int)
 on:onB p t W b=true
theorem kid_iff {p:List Int} {W:Nat→Bool} (h:Tr p) {b:Nat} (hb:b≤p.length) {f:Int} {n:Nat}:n∈kidsF p W b f↔(n:Int)∈nearT p (b:Int)∧(n:Int)≠f∧viaB p W b n=true:=by
 unfold kidsF
 rw [List.mem_filter,Bool.and_eq_true,decide_eq_true_eq,List.mem_map]
 constructor
 ·rintro ⟨⟨y,hy,rfl⟩,h2⟩
  obtain ⟨k,rfl,hk⟩:=near_valid h b hb y hy
  exact ⟨hy,h2⟩
 ·rintro ⟨h1,h2⟩
  exact ⟨⟨_,h1,by simp⟩,h2⟩
theorem from_ne {p:List Int} {t b n:Nat} {f:Int} (hf:f=if b=t then -1 else (nxN p b t:Int))(hn:(n:Int)≠f):b=t∨nxN p b t≠n:=by
 by_cases hc:b=t
 ·exact .inl hc
 ·rw [if_neg hc] at hf
  exact .inr fun e=>hn (by rw [hf,e])
theorem kid_ok {p:List Int} {t:Nat} {W:Nat→Bool} (h:Tr p)(ht:t≤p.length) {b:Nat} {f:Int} (o:Ok p t W b f) {n:Nat} (hn:n∈kidsF p W b f):Ok p t W n (b:Int)∧dN p t n=dN p t b+1:=by
 obtain ⟨h1,h2,h3⟩:=(kid_iff h o.le).1 hn
 obtain ⟨k,e,hk⟩:=near_valid h b o.le _ h1
 have hnl:n≤p.length:=by omega
 have hf:=from_ne o.fr h2
 obtain ⟨a1,a2,a3⟩:=away h ht o.le hnl h1 hf
 obtain ⟨w,w1,w2,w3,w4⟩:=viaB_iff.1 h3
 have:=(via h ht o.le hnl w1 h1 hf).1 ⟨w3,w4⟩
 exact ⟨⟨hnl,by rw [if_neg (fun e=>a2 e.symm),a3],onB_iff.2 (.inr ⟨w,w1,w2,this⟩)⟩,a1⟩
theorem flat_congr {α β:Type} {f g:α→List β}:∀ {l:List α},(∀ x∈l,f x=g x)→l.flatMap f=l.flatMap g
 | [],_=>rfl
 | x :: r,h=>by rw [List.flatMap_cons,List.flatMap_cons,h x (by simp),flat_congr fun y hy=>h y (by simp [hy])]
theorem dfs_fuel {p:List Int} {t:Nat} {W:Nat→Bool} (h:Tr p)(ht:t≤p.length):∀ (k k' b:Nat) (f:Int),Ok p t W b f→p.length<k+dN p t b→p.length<k'+dN p t b→dfs p W k b f=dfs p W k' b f
 | 0,k',b,f,o,h1,_=>by have:=dN_le h t b ht o.le;omega
 | k+1,0,b,f,o,_,h1=>by have:=dN_le h t b ht o.le;omega
 | k+1,k'+1,b,f,o,h1,h2=>by
  simp only [dfs]
  congr 1
  refine flat_congr fun n hn=>?_
  obtain ⟨o',e⟩:=kid_ok h ht o hn
  exact dfs_fuel h ht k k' n b o' (by omega) (by omega)
theorem dfs_mem {p:List Int} {t:Nat} {W:Nat→Bool} (h:Tr p)(ht:t≤p.length):∀ (k b:Nat) (f:Int),Ok p t W b f→∀ x∈dfs p W k b f,x≤p.length
 | 0,b,f,o,x,hx=>by simp [dfs] at hx
 | k+1,b,f,o,x,hx=>by
  simp only [dfs] at hx
  rcases List.mem_cons.1 hx with rfl | hx
  ·exact o.le
  ·obtain ⟨n,hn,hx⟩:=List.mem_flatMap.1 hx
   exact dfs_mem h ht k n b (kid_ok h ht o hn).1 x hx
theorem cnt_flat (g:Nat→List Nat)(x n0:Nat)(c:Bool):∀ (L:List Nat),L.Nodup→(∀ n∈L,(g n).count x=if n=n0∧c=true then 1 else 0)→(L.flatMap g).count x=if n0∈L∧c=true then 1 else 0
 | [],_,_=>by simp
 | n :: r,hd,h=>by
  rw [List.nodup_cons] at hd
  rw [List.flatMap_cons,List.count_append,h n (by simp),cnt_flat g x n0 c r hd.2 fun m hm=>h m (by simp [hm])]
  cases c with
  | false=>simp
  | true =>
   simp only [and_true,List.mem_cons]
   by_cases e:n=n0
   ·subst e;simp [hd.1]
   ·simp [e,Ne.symm e]
theorem ite_iff {a b:Prop} [Decidable a] [Decidable b] (h:a↔b) (x y:Nat):(if a then x else y)=if b then x else y:=by
 by_cases ha:a
 ·rw [if_pos ha,if_pos (h.1 ha)]
 ·rw [if_neg ha,if_neg (fun hb=>ha (h.2 hb))]
theorem kids_nodup {p:List Int} {W:Nat→Bool} (h:Tr p) {b:Nat} (hb:b≤p.length)(f:Int):(kidsF p W b f).Nodup:=by
 unfold kidsF
 refine List.Nodup.sublist List.filter_sublist ?_
 unfold List.Nodup
 rw [List.pairwise_map]
 refine List.Pairwise.imp_of_mem ?_ (near_nodup h b hb)
 intro x y hx hy hne e
 obtain ⟨k,rfl,_⟩:=near_valid h b hb x hx
 obtain ⟨m,rfl,_⟩:=near_valid h b hb y hy
 simp at e;omega
theorem dfs_count {p:List Int} {t:Nat} {W:Nat→Bool} (h:Tr p)(ht:t≤p.length):∀ (k b:Nat) (f:Int),Ok p t W b f→p.length<k+dN p t b→∀ x,x≤p.length→(dfs p W k b f).count x=if dN p t b+dN p b x=dN p t x∧onB p t W x=true then 1 else 0
 | 0,b,f,o,h1,_,_=>by have:=dN_le h t b ht o.le;omega
 | k+1,b,f,o,hk,x,hx=>by
  simp only [dfs]
  rw [List.count_cons,cnt_flat _ x (nxN p b x) (decide (x≠b) && onB p t W x) _ (kids_nodup h o.le f) (fun n hn=>by
   obtain ⟨o',e⟩:=kid_ok h ht o hn
   rw [dfs_count h ht k n b o' (by omega) x hx]
   obtain ⟨h1,h2,h3⟩:=(kid_iff h o.le).1 hn
   have hv:=via h ht o.le o'.le hx h1 (from_ne o.fr h2)
   refine ite_iff ?_ 1 0
   rw [← hv,Bool.and_eq_true,decide_eq_true_eq]
   constructor
   ·rintro ⟨⟨a,c⟩,d⟩;exact ⟨c.symm,a,d⟩
   ·rintro ⟨c,a,d⟩;exact ⟨⟨a,c.symm⟩,d⟩)]
  by_cases hxb:x=b
  ·subst hxb
   rw [dN_self (by have:=h.2;omega)]
   simp [o.on]
  ·have hne:(b == x)=false:=by simp;exact fun e=>hxb e.symm
   rw [hne]
   simp only [Bool.false_eq_true,if_false,Nat.add_zero,Nat.zero_add]
   refine ite_iff ?_ 1 0
   rw [Bool.and_eq_true,decide_eq_true_eq]
   have hnv:=nx_valid h o.le hx hxb
   have hnr:=nx_near h b x o.le hx hxb
   have hs:=step_d h b (nxN p b x) x o.le hnv hx hnr
   rw [if_pos ⟨hxb,rfl⟩] at hs
   constructor
   ·rintro ⟨h1,h2,h3⟩
    obtain ⟨o',e⟩:=kid_ok h ht o h1
    obtain ⟨g1,g2,g3⟩:=(kid_iff h o.le).1 h1
    have:=(via h ht o.le o'.le hx g1 (from_ne o.fr g2)).1 ⟨hxb,rfl⟩
    exact ⟨by omega,h3⟩
   ·rintro ⟨h1,h2⟩
    refine ⟨(kid_iff h o.le).2 ⟨hnr,?_,?_⟩,hxb,h2⟩
    ·rw [o.fr]
     by_cases hbt:b=t
     ·rw [if_pos hbt];omega
     ·rw [if_neg hbt]
      intro e
      have hs2:=step_d h b (nxN p b x) t o.le hnv ht hnr
      rw [if_pos ⟨fun e=>hbt e.symm,by omega⟩] at hs2
      have h3:=h.tri ht hnv hx
      rw [h.sym ht hnv] at h3
      rw [h.sym ht o.le] at h1
      omega
    ·have hfr:b=t∨nxN p b t≠nxN p b x:=by
      by_cases hbt:b=t
      ·exact .inl hbt
      ·refine .inr fun e=>?_
       have hs2:=step_d h b (nxN p b x) t o.le hnv ht hnr
       rw [if_pos ⟨fun e=>hbt e.symm,e⟩] at hs2
       have h3:=h.tri ht hnv hx
       rw [h.sym ht hnv] at h3
       rw [h.sym ht o.le] at h1
       omega
     have hv:=(via h ht o.le hnv hx hnr hfr).1 ⟨hxb,rfl⟩
     rcases onB_iff.1 h2 with rfl | ⟨w,w1,w2,w3⟩
     ·rw [dN_self (a:=x) (by have:=h.2;omega)] at h1
      have:dN p x b=0:=by omega
      exact absurd (dN_zero p.length p rfl (by have:=h.2;omega) h.1 x b hx o.le this) hxb
     ·have t1:=h.tri ht hnv w1
      have t2:=h.tri hnv hx w1
      have:=(via h ht o.le hnv w1 hnr hfr).2 (by omega)
      exact viaB_iff.2 ⟨w,w1,w2,this.1,this.2⟩
theorem lenN_le:∀ (n:Nat)(l:List Nat),(∀ x∈l,x<n)→(∀ x,x<n→l.count x≤1)→l.length≤n
 | 0,l,h,_=>by
  cases l with
  | nil=>simp
  | cons x r=>exact absurd (h x (by simp)) (by omega)
 | n+1,l,h,hc=>by
  have h1:=List.length_eq_countP_add_countP (p:=fun x=>x == n) (l:=l)
  have h2:l.countP (fun x=>x == n)≤1:=hc n (by omega)
  have h3:l.countP (fun x=>decide ¬ (x == n)=true)=(l.filter fun x=>decide ¬ (x == n)=true).length:=List.countP_eq_length_filter
  have h4:=lenN_le n (l.filter fun x=>decide ¬ (x == n)=true) (fun x hx=>by
   rw [List.mem_filter] at hx
   have:=h x hx.1
   have h5:¬ x=n:=by simpa using hx.2
   omega) (fun x hx=>Nat.le_trans (List.Sublist.count_le _ List.filter_sublist) (hc x (by omega)))
  omega
def incL (g:List Int)(b:Nat):List Int:=g.set b (g.getD b 0+1)
def spr (p:List Int)(W:Nat→Bool):Nat→List (Nat × Int)→List Int→List Int
 | 0,_,g=>g
 | _+1,[],g=>g
 | m+1,(b,f) :: Q,g=>spr p W m (Q ++ (kidsF p W b f).map fun n=>(n,(b:Int))) (incL g b)
def d8 (p:List Int)(W:Nat→Bool)(b:Nat)(f:Int):List Nat:=dfs p W 8 b f
theorem dfs8 {p:List Int} {t:Nat} {W:Nat→Bool} (h:Tr p)(ht:t≤p.length) {b:Nat} {f:Int} (o:Ok p t W b f):d8 p W b f=b :: (kidsF p W b f).flatMap fun n=>d8 p W n (b:Int):=by
 have e:∀ k,dfs p W (k+1) b f=b :: (kidsF p W b f).flatMap fun n=>dfs p W k n (b:Int):=fun k=>rfl
 have e7:=e 7
 refine Eq.trans (show d8 p W b f=dfs p W (7+1) b f from by unfold d8;rfl) ?_
 rw [e7]
 refine congrArg (List.cons b) ?_
 refine flat_congr fun n hn=>?_
 obtain ⟨o',e⟩:=kid_ok h ht o hn
 have:=h.2
 unfold d8
 exact dfs_fuel h ht 7 8 n b o' (by omega) (by omega)
theorem spr_len (p:List Int)(W:Nat→Bool):∀ (m:Nat) (Q:List (Nat × Int)) (g:List Int),(spr p W m Q g).length=g.length
 | 0,_,_=>rfl
 | _+1,[],_=>rfl
 | m+1,(b,f) :: Q,g=>by simp only [spr];rw [spr_len p W m];simp [incL]
theorem spr_count {p:List Int} {t:Nat} {W:Nat→Bool} (h:Tr p)(ht:t≤p.length):∀ (m:Nat) (Q:List (Nat × Int)) (g:List Int),(∀ e∈Q,Ok p t W e.1 e.2)→(Q.flatMap fun e=>d8 p W e.1 e.2).length≤m→g.length=p.length+1 →
  ∀ x,x≤p.length→(spr p W m Q g).getD x 0=g.getD x 0+((Q.flatMap fun e=>d8 p W e.1 e.2).count x:Nat)
 | 0,Q,g,_,hl,_,x,_=>by
  rw [List.length_eq_zero_iff.1 (Nat.le_zero.1 hl)];simp [spr]
 | m+1,[],g,_,_,_,x,_=>by simp [spr]
 | m+1,(b,f) :: Q,g,hq,hl,hg,x,hx=>by
  have o:=hq (b,f) (by simp)
  simp only [spr]
  rw [List.flatMap_cons,dfs8 h ht o] at hl ⊢
  have hmap:((kidsF p W b f).map fun n=>(n,(b:Int))).flatMap (fun e=>d8 p W e.1 e.2)=(kidsF p W b f).flatMap fun n=>d8 p W n (b:Int):=by
   rw [List.flatMap_map]
  have hgl:(incL g b).length=p.length+1:=by simp [incL,hg]
  rw [spr_count h ht m _ _ (fun e he=>by
   rcases List.mem_append.1 he with he | he
   ·exact hq e (by simp [he])
   ·obtain ⟨n,hn,rfl⟩:=List.mem_map.1 he
    exact (kid_ok h ht o hn).1) (by rw [List.flatMap_append,hmap];simp only [zla,List.length_cons] at hl ⊢;omega) hgl x hx]
  rw [List.flatMap_append,hmap,List.count_append,List.count_append,List.count_cons]
  have hb:=o.le
  by_cases hbx:b=x
  ·subst hbx
   have:(incL g b).getD b 0=g.getD b 0+1:=by
    unfold incL
    rw [List.getD_eq_getElem?_getD,List.getElem?_set_self (by omega)];rfl
   rw [this];simp;omega
  ·have:(incL g b).getD x 0=g.getD x 0:=by
    unfold incL
    rw [List.getD_eq_getElem?_getD,List.getElem?_set_ne hbx,← List.getD_eq_getElem?_getD]
   rw [this];simp [hbx];omega
theorem dN_start {p:List Int} (h:Tr p) {t:Nat} (ht:t≤p.length):dN p t t=0:=dN_self (by have:=h.2;omega)
theorem spread_ok {p:List Int} {t:Nat} (W:Nat→Bool)(h:Tr p)(ht:t≤p.length) {x:Nat} (hx:x≤p.length):(spr p W 100 [(t,-1)] (List.replicate (p.length+1) 0)).getD x 0=if onB p t W x=true then 1 else 0:=by
 have o:Ok p t W t (-1):=⟨ht,by rw [if_pos rfl],onB_iff.2 (.inl rfl)⟩
 have h7:=h.2
 have z:=dN_start h ht
 have hc:=fun x hx=>dfs_count h ht 8 t (-1) o (by omega) x hx
 have hl:(dfs p W 8 t (-1)).length≤p.length+1   := lenN_le _ _ (fun x hx=>by have:=dfs_mem h ht 8 t (-1) o x hx;omega) (fun x hx=>by
  rw [hc x (by omega)];split <;> omega)
 rw [spr_count h ht 100 [(t,-1)] _ (fun e he=>by simp at he;subst he;exact o) (by rw [List.flatMap_cons,List.flatMap_nil,List.append_nil];show (dfs p W 8 t (-1)).length≤100;omega) (by simp) x hx]
 rw [List.flatMap_cons,List.flatMap_nil,List.append_nil,show d8 p W t (-1)=dfs p W 8 t (-1) from rfl,hc x hx,z]
 rw [List.getD_eq_getElem?_getD,List.getElem?_replicate,if_pos (by omega)]
 simp
 split <;> rfl
end Go.Ab
namespace Go.Ab
open Go
def E.L9 (e:E):Prop:=e=.any∨e=.lp 9 0
def fwdT (A:List Attr)(f:Int):List Tbl→List Int→List Int
 | [],out=>out
 | t :: r,out=>fwdT A f r (if (!decide (t.near=f) && fany t.fs A)=true then out ++ [t.near] else out)
theorem fwdT_eq (A:List Attr)(f:Int):∀ (ts:List Tbl) (out:List Int),fwdT A f ts out=out ++ (ts.filter fun t=>!decide (t.near=f) && fany t.fs A).map Tbl.near
 | [],out=>by simp [fwdT]
 | t :: r,out=>by
  unfold fwdT
  rw [fwdT_eq A f r,List.filter_cons]
  split <;> simp
def wantB (l:List Sub)(A:List Attr)(w:Nat):Bool:=l.any fun s=>decide (s.broker=(w:Int)) && ftakes s.filter A
theorem upF_nonneg {p:List Int} (h:upT 0 p=true):∀ (k b:Nat),b≤p.length→∀ x∈upF p k b,0≤x
 | 0,b,_,x,hx=>by simp [upF] at hx
 | k+1,b,hb,x,hx=>by
  unfold upF at hx
  by_cases h0:b=0
  ·rw [if_pos h0] at hx;simp at hx
  ·rw [if_neg h0] at hx
   obtain ⟨y,hy,hyl⟩:=up_get h (i:=b - 1) (by omega)
   rw [hy,Int.toNat_natCast] at hx
   rcases List.mem_cons.1 hx with rfl | hx
   ·omega
   ·exact upF_nonneg h k y (by omega) x hx
theorem path_nonneg {p:List Int} (h:upT 0 p=true) {a b:Nat} (ha:a≤p.length)(hb:b≤p.length) {x:Int} (hx:x∈pathT p a b):0≤x:=by
 have up:∀ c,c≤p.length→∀ y∈upP p c,0≤y:=fun c hc y hy=>by
  unfold upP at hy
  rcases List.mem_cons.1 hy with rfl | hy
  ·omega
  ·exact upF_nonneg h c c hc y hy
 unfold pathT joinT at hx
 rcases List.mem_append.1 hx with hx | hx
 ·exact up a ha x (List.mem_of_mem_take hx)
 ·exact up b hb x (List.mem_of_mem_take (List.mem_reverse.1 hx))
theorem next_nat {p:List Int} (h:Tr p) {b x:Nat} (hb:b≤p.length)(hx:x≤p.length)(hne:b≠x):nextT p (b:Int) (x:Int)=(nxN p b x:Int):=by
 unfold nextT nxN
 rw [is_of h.1 h.2 hb,is_of h.1 h.2 hx,if_pos (by simp;omega),Int.toNat_natCast,Int.toNat_natCast]
 have h2:=path_two (p:=p) hne
 obtain ⟨y,hy⟩:∃ y,(pathT p b x)[1]?=some y:=⟨(pathT p b x)[1],zge (by omega)⟩
 have:=path_nonneg h.1 hb hx (zmg hy)
 rw [List.getD_eq_getElem?_getD,hy]
 simp;omega
theorem next_self (p:List Int)(b:Int):nextT p b b = -1:=by unfold nextT;simp
theorem sideG_mem (p:List Int)(b n y:Int):∀ (k x:Nat) (out:List Int),y∈sideG p b n k x out↔y∈out∨∃ z:Nat,x≤z∧z<x+k∧nextT p b z=n∧y=(z:Int)
 | 0,x,out=>by
  simp only [sideG]
  constructor
  ·exact .inl
  ·rintro (h | ⟨z,h1,h2,_⟩)
   ·exact h
   ·omega
 | k+1,x,out=>by
  simp only [sideG]
  rw [sideG_mem p b n y k (x+1)]
  constructor
  ·rintro (h | ⟨z,h1,h2,h3⟩)
   ·split at h
    ·rename_i hc
     rcases List.mem_append.1 h with h | h
     ·exact .inl h
     ·simp at h
      exact .inr ⟨x,by omega,by omega,hc,h⟩
    ·exact .inl h
   ·exact .inr ⟨z,by omega,by omega,h3⟩
  ·rintro (h | ⟨z,h1,h2,h3,h4⟩)
   ·left
    split
    ·exact List.mem_append_left _ h
    ·exact h
   ·by_cases hz:z=x
    ·subst hz
     left
     rw [if_pos h3,h4];simp
    ·exact .inr ⟨z,by omega,by omega,h3,h4⟩
theorem side_iff {p:List Int} (h:Tr p) {b n:Nat} (hb:b≤p.length) {y:Int}:hasI (sideT p (b:Int) (n:Int)) y=true↔∃ w:Nat,w≤p.length∧y=(w:Int)∧w≠b∧nxN p b w=n:=by
 rw [hasI_iff]
 unfold sideT
 rw [if_pos (by omega),sideG_mem]
 constructor
 ·rintro (h1 | ⟨z,h1,h2,h3,h4⟩)
  ·simp at h1
  ·have hzb:z≠b:=fun e=>by rw [e,next_self] at h3;omega
   rw [next_nat h hb (by omega) (fun e=>hzb e.symm)] at h3
   exact ⟨z,by omega,h4,hzb,by omega⟩
 ·rintro ⟨w,h1,h2,h3,h4⟩
  exact .inr ⟨w,by omega,by omega,by rw [next_nat h hb h1 (fun e=>h3 e.symm),h4],h2⟩
theorem fany_want (side:List Int)(A:List Attr)(l:List Sub):fany (wantT side l) A=l.any fun s=>hasI side s.broker && ftakes s.filter A:=by
 induction l with
 | nil=>simp [wantT,fany]
 | cons s r ih =>
  rw [List.any_cons,← ih]
  unfold wantT fany
  rw [List.filter_cons]
  by_cases hc:hasI side s.broker=true
  ·rw [if_pos hc,hc];simp
  ·rw [if_neg hc]
   have:hasI side s.broker=false:=by simpa using hc
   rw [this];simp
theorem tab_via {p:List Int} {l:List Sub} (h:Tr p)(hl:∀ s∈l,FF s.filter)(hb2:∀ s∈l,0≤s.broker∧s.broker≤p.length) {A:List Attr} (hA:AFV A) {b n:Nat} (hb:b≤p.length):fany (tabOf p l (b:Int) (n:Int)).fs A=viaB p (wantB l A) b n:=by
 rw [tab_any hl hA,k_fold,Bool.false_or,fany_want,Bool.eq_iff_iff,viaB_iff,List.any_eq_true]
 constructor
 ·rintro ⟨s,hs,h1⟩
  rw [Bool.and_eq_true,side_iff h hb] at h1
  obtain ⟨⟨w,w1,w2,w3,w4⟩,h2⟩:=h1
  exact ⟨w,w1,List.any_eq_true.2 ⟨s,hs,by rw [Bool.and_eq_true,decide_eq_true_eq];exact ⟨w2,h2⟩⟩,w3,w4⟩
 ·rintro ⟨w,w1,w2,w3,w4⟩
  obtain ⟨s,hs,h1⟩:=List.any_eq_true.1 w2
  rw [Bool.and_eq_true,decide_eq_true_eq] at h1
  exact ⟨s,hs,by rw [Bool.and_eq_true,side_iff h hb];exact ⟨⟨w,w1,h1.1,w3,w4⟩,h1.2⟩⟩
theorem fwd_kids {p:List Int} {l:List Sub} (h:Tr p)(hl:∀ s∈l,FF s.filter)(hb2:∀ s∈l,0≤s.broker∧s.broker≤p.length) {A:List Attr} (hA:AFV A) {b:Nat} (hb:b≤p.length)(f:Int) :
  fwdT A f (tablesT p l (b:Int)) []=(kidsF p (wantB l A) b f).map fun n:Nat=>(n:Int):=by
 rw [fwdT_eq,List.nil_append]
 unfold tablesT kidsF
 have hv:=near_valid h b hb
 generalize nearT p (b:Int)=N at hv
 induction N with
 | nil=>rfl
 | cons n r ih =>
  obtain ⟨k,rfl,hk⟩:=hv n (by simp)
  have IH:=ih fun m hm=>hv m (by simp [hm])
  rw [List.map_cons,List.map_cons,List.filter_cons,List.filter_cons,Int.toNat_natCast]
  have hc:(!decide ((tabOf p l (b:Int) (k:Int)).near=f) && fany (tabOf p l (b:Int) (k:Int)).fs A)=(decide ((k:Int)≠f) && viaB p (wantB l A) b k):=by
   rw [tab_via h hl hb2 hA hb]
   congr 1
   show (!decide ((k:Int)=f))=decide ((k:Int)≠f)
   by_cases e:(k:Int)=f <;> simp [e]
  rw [hc]
  by_cases hz:(decide ((k:Int)≠f) && viaB p (wantB l A) b k)=true
  ·rw [if_pos hz,if_pos hz,List.map_cons,List.map_cons,IH];rfl
  ·rw [if_neg hz,if_neg hz,IH]
theorem kids_le {p:List Int} {W:Nat→Bool} (h:Tr p) {b:Nat} (hb:b≤p.length) {f:Int} {n:Nat} (hn:n∈kidsF p W b f):n≤p.length:=by
 obtain ⟨h1,_⟩:=(kid_iff h hb).1 hn
 obtain ⟨k,e,hk⟩:=near_valid h b hb _ h1
 omega
theorem kids_len {p:List Int} {W:Nat→Bool} (h:Tr p) {b:Nat} (f:Int):(kidsF p W b f).length≤8:=by
 unfold kidsF
 have h1:=List.length_filter_le (fun n:Nat=>decide ((n:Int)≠f) && viaB p W b n) ((nearT p (b:Int)).map Int.toNat)
 have h2:=nearT_len p (b:Int)
 have h3:=h.2
 rw [List.length_map] at h1
 omega
end Go.Ab
