/- Of any tree, any Subs, right or not, the chain, ways, own places are as the document says. Part 7. -/
import Derived.Test.YtdoobejjedpcgaaK6
set_option linter.unusedVariables false
set_option linter.unusedSimpArgs false
set_option linter.unnecessarySimpa false
set_option maxHeartbeats 8000000
set_option maxRecDepth 20000
open Int renaming not_le → zil, not_lt → zit, natCast_add → zia
open Nat renaming not_le → znl, not_lt → znt
open List renaming getElem?_eq_getElem → zge, getElem?_eq_some_iff → zgs, append_assoc → zaa, mem_of_getElem? → zmg, length_append → zla
namespace Go.Proofs.Ytdoobejjedpcgaa
open Go Go.Ab
noncomputable section
variable (fr:Fr)(st:St)(k:Kt)
theorem ty34:gS.ty 34=some {k:=.slice 2 48 true [.osl 0 [],.osl 0 []],size:=1,agg:=false,zero:=[.osl 0 []]}:=by kernel_rfl
theorem ty40:gS.ty 40=some {k:=.struct [(0,1,false),(1,1,false)],size:=2,agg:=true,zero:=[.osl 0 [],.osl 0 []]}:=by kernel_rfl
def fi58:FI:={body:=codeOf Try.f58,ntmps:=18,results:=[.tmp 4],pers:=[0,1,4,5],locals:=[],pure:=true,marks:=[]}
theorem H58:fi58.marks=[]∧fi58.locals=[]∧fi58.results=[.tmp 4]:=⟨rfl,rfl,rfl⟩
theorem fi99_eq:gS.fn 58=some fi58:=by kernel_rfl
theorem st58 (a0 a1:V):startFr fi58 [a0,a1]={ps:=[(0,.val a0),(1,.val a1),(4,.any),(5,.any)],ts:=[],lc:=[]}:=rfl
def b58:Code:=mini (codeOf Try.f58)
def c58_10:Code:=.cond (.tmp 9) .skip (.exit 0)
def c58_8:Code:=.seq (codeN b58 133) c58_10
def c58_18:Code:=.seq (codeN b58 2341) .ret
def c58_17:Code:=.cond (.tmp 17) c58_18 .skip
def c58_15:Code:=.seq (codeN b58 549) c58_17
def c58_22:Code:=codeN b58 229
def c58_13:Code:=.seq (.block 1 c58_15) c58_22
def c58_7:Code:=.seq c58_8 c58_13
def c58_6:Code:=.loop c58_7
def c58_5:Code:=.block 0 c58_6
def c58_3:Code:=.seq (codeN b58 9) c58_5
def c58_23:Code:=.seq (codeN b58 11) .ret
def c58_2:Code:=.seq c58_3 c58_23
def c58_0:Code:=.seq (codeN b58 2) c58_2
theorem E58:evK gS fi58 c58_10 fr st k=condK gS fi58 (fr.op (.tmp 9)).bool? .skip (.exit 0) fr st k ∧
 (evK gS fi58 c58_8 fr st k=opsR gS fi58 [mv 6 5 3,
 mv 7 0 22,
 len1 8 7 22 3,
 bop 9 .lss 3 6 8 3 4] fr st (.seq c58_10 k)) ∧
 evK gS fi58 c58_18 fr st k=opsR gS fi58 [qA 4 true 4] fr st (.seq .ret k) ∧
 evK gS fi58 c58_17 fr st k=condK gS fi58 (fr.op (.tmp 17)).bool? c58_18 .skip fr st k ∧
 (evK gS fi58 c58_15 fr st k=opsR gS fi58 [mv 12 0 22,
 mv 13 5 3,
 ixa 14 22 12 13 0,
 ld 15 3 14 3,
 mv 16 1 3,
 bop 17 .eql 3 15 16 3 4] fr st (.seq c58_17 k)) ∧
 (evK gS fi58 c58_22 fr st k=opsR gS fi58 [mv 10 5 3,
 qB 11 .add 3 10 1 3 3,
 asn 5 11 3] fr st k) ∧
 evK gS fi58 c58_13 fr st k=evK gS fi58 c58_15 fr st (.blk 1 (.seq c58_22 k)) ∧
 evK gS fi58 c58_7 fr st k=evK gS fi58 c58_8 fr st (.seq c58_13 k) ∧
 evK gS fi58 c58_5 fr st k=evK gS fi58 c58_6 fr st (.blk 0 k) ∧
 evK gS fi58 c58_3 fr st k=opsR gS fi58 [qI 5 0 3] fr st (.seq c58_5 k) ∧
 evK gS fi58 c58_23 fr st k=opsR gS fi58 [qA 4 false 4] fr st (.seq .ret k) ∧
 evK gS fi58 c58_2 fr st k=evK gS fi58 c58_3 fr st (.seq c58_23 k) ∧
 evK gS fi58 c58_0 fr st k=opsR gS fi58 [qA 4 false 4] fr st (.seq c58_2 k):=⟨rfl,evK_rs 2 rfl (by kernel_rfl),evK_rs 5 rfl (by kernel_rfl),rfl,evK_rs 4 rfl (by kernel_rfl),evK_r 3 (by kernel_rfl),rfl,rfl,rfl,evK_rs 1 rfl (by kernel_rfl),evK_rs 6 rfl (by kernel_rfl),rfl,evK_rs 0 rfl (by kernel_rfl)⟩
theorem m58:mini fi58.body=c58_0:=by kernel_rfl
theorem n58_6 (fr:Fr)(st:St)(k:Kt):nextK gS fi58 (.loop c58_7 k) .normal fr st=evK gS fi58 c58_6 fr st k:=rfl
theorem L58_6 (l:List Int)(n0:Int)(h_l:l.length<4611686018427387904)(st:St):∀ (n i:Nat) (j:Int)  (T:List (Nat × E)) (X:List (Nat × List V))  ,j=(i:Int)→i≤(l).length→(l).length - i=n →
  evK gS fi58 c58_6 {ps:=[(0,.val (.slice (intVs l))),(1,.val (.int .i64 n0)),(4,.val (.bool false)),(5,.val (.int .i64 j))],ts:=T,lc:=X} st (.blk 0 (.seq c58_23 .nil))=some ((.ret (.bool (hasI (l.drop i) n0)) none),st):=by
 intro n
 induction n with
 | zero =>
  intro i j   T X   hj hi hn
  obtain rfl:i=(l).length:=by omega
  subst hj
  refine evK_loop c58_7 _ st _ _ rfl ?_
  simp (config:={contextual:=true,maxSteps:=10000000,maxDischargeDepth:=6}) [-zil,-zit,-znl,-znt,ty3,ty4,ty22,H58,E58,n58_6]
  all_goals try simp (config:={contextual:=true}) [-zil,-zit,-znl,-znt,hasI]
  all_goals first | done | grind | omega
 | succ n ih =>
  intro i j   T X   hj hi hn
  subst hj
  obtain ⟨x,hx⟩  := qgx (l:=(l)) (i:=i) (by omega)
  have hd:=drop_get hx
  have hlt:(i:Int)<((l).length:Int):=by omega
  have hlt2:i<(l).length:=by omega
  have hxe:(l)[i]'hlt2=x:=by rw [zge hlt2] at hx;exact Option.some.inj hx
  have hw:IntKind.wrap .i64 ((i:Int)+1)=(i:Int)+1:=wrap64 (by omega) (by omega)
  have IH:=fun T X=>ih (i+1) ((i:Int)+1) T X rfl (by omega) (by omega)
  refine evK_loop c58_7 _ st _ _ rfl ?_
  simp (config:={contextual:=true,maxSteps:=10000000,maxDischargeDepth:=6}) [-zil,-zit,-znl,-znt,ty3,ty4,ty22,H58,E58,n58_6,hx,hxe,hd,hlt,hlt2,hw,IH]
  all_goals try simp (config:={contextual:=true}) [-zil,-zit,-znl,-znt,hasI]
  all_goals first | done | grind | omega
theorem c58 (l:List Int)(n0:Int)  (h_l:l.length<4611686018427387904) (st:St):EvF gS 58 [.slice (intVs l),.int .i64 n0] st=some (.ret (.bool (hasI l n0)) none,st):=by
 refine EvF_start fi99_eq (fun x h=>by cases h) m58 ?_
 rw [st58]
 simp (config:={contextual:=true,maxSteps:=10000000,maxDischargeDepth:=6}) [-zil,-zit,-znl,-znt,ty3,ty4,ty22,H58,E58,n58_6,(fun T X=>L58_6 l n0 h_l st _ 0 0  T X rfl (Nat.zero_le _) rfl),h_l]
 all_goals try simp (config:={contextual:=true}) [-zil,-zit,-znl,-znt,hasI]
 all_goals first | done | grind | omega
theorem k58 (l:List Int)(n0:Int)  (h_l:l.length<4611686018427387904) (fr:Fr) (st:St):callStep gS (EvF gS) 58 [.slice (intVs l),.int .i64 n0] fr st=some (.ok (retE none (.bool (hasI l n0))) fr st) :=
 call_pure rfl fi99_eq rfl (fun st=>c58 l n0 h_l st) (by simp)
theorem x58:gS.ext 58=none:=rfl
theorem p58:fi58.pure=true:=rfl
def fi52:FI:={body:=codeOf Try.f52,ntmps:=57,results:=[.tmp 4],pers:=[0,1,4,5,6,7],locals:=[],pure:=true,marks:=[1000000]}
theorem H52:fi52.marks=[1000000]∧fi52.locals=[]∧fi52.results=[.tmp 4]:=⟨rfl,rfl,rfl⟩
theorem fi96_eq:gS.fn 52=some fi52:=by kernel_rfl
theorem st52 (a0 a1:V):startFr fi52 [a0,a1]={ps:=[(0,.val a0),(1,.val a1),(4,.any),(5,.any),(6,.any),(7,.any)],ts:=[],lc:=[]}:=rfl
def b52:Code:=mini (codeOf Try.f52)
def c52_6:Code:=.seq (codeN b52 37) .ret
def c52_5:Code:=.cond (.tmp 10) c52_6 .skip
def c52_3:Code:=.seq (codeN b52 9) c52_5
def c52_20:Code:=.cond (.tmp 23) .skip (.exit 0)
def c52_18:Code:=.seq (codeN b52 535) c52_20
def c52_25:Code:=codeN b52 1175
def c52_26:Code:=codeN b52 919
def c52_23:Code:=.seq (.block 1 c52_25) c52_26
def c52_17:Code:=.seq c52_18 c52_23
def c52_16:Code:=.loop c52_17
def c52_15:Code:=.block 0 c52_16
def c52_13:Code:=.seq (codeN b52 39) c52_15
def c52_37:Code:=.cond (.tmp 40) .skip (.exit 2)
def c52_35:Code:=.seq (codeN b52 2143) c52_37
def c52_45:Code:=codeN b52 21087
def c52_44:Code:=.cond (.tmp 48) c52_45 .skip
def c52_42:Code:=.seq (codeN b52 8799) c52_44
def c52_47:Code:=codeN b52 3679
def c52_40:Code:=.seq (.block 3 c52_42) c52_47
def c52_34:Code:=.seq c52_35 c52_40
def c52_33:Code:=.loop c52_34
def c52_32:Code:=.block 2 c52_33
def c52_30:Code:=.seq (codeN b52 159) c52_32
def c52_48:Code:=.seq (codeN b52 191) .ret
theorem e52_48:evK gS fi52 c52_48 fr st k=opsR gS fi52 [mv 56 5 22,
 asn 4 56 22] fr st (.seq .ret k):=evK_rs 14 rfl (by kernel_rfl)
def c52_29:Code:=.seq c52_30 c52_48
def c52_27:Code:=.seq (codeN b52 47) c52_29
theorem e52_27:evK gS fi52 c52_27 fr st k=opsR gS fi52 [mv 33 5 22,
 mv 34 1 3,
 qS 35 22 34 22,
 qE 36 33 35 22 22,
 asn 5 36 22] fr st (.seq c52_29 k):=evK_rs 8 rfl (by kernel_rfl)
def c52_12:Code:=.seq c52_13 c52_27
def c52_10:Code:=.seq (codeN b52 11) c52_12
def c52_2:Code:=.seq c52_3 c52_10
def c52_0:Code:=.seq (codeN b52 2) c52_2
theorem E52:(evK gS fi52 c52_6 fr st k=opsR gS fi52 [mv 11 0 22,
 asn 4 11 22] fr st (.seq .ret k)) ∧
 evK gS fi52 c52_5 fr st k=condK gS fi52 (fr.op (.tmp 10)).bool? c52_6 .skip fr st k ∧
 (evK gS fi52 c52_3 fr st k=opsR gS fi52 [mv 8 0 22,
 mv 9 1 3,
 cal 10 58 [(.tmp 8),(.tmp 9)] [22,3] 4] fr st (.seq c52_5 k)) ∧
 evK gS fi52 c52_20 fr st k=condK gS fi52 (fr.op (.tmp 23)).bool? .skip (.exit 0) fr st k ∧
 (evK gS fi52 c52_18 fr st k=opsR gS fi52 [mv 12 6 3,
 mv 13 0 22,
 len1 14 13 22 3,
 bop 15 .lss 3 12 14 3 4,
 mv 16 15 4,
 qm 17 0 22 4 true,
 qm 18 6 3 4 true,
 qi 19 22 17 18 0 4 true,
 ql 20 3 19 3 4 true,
 qm 21 1 3 4 true,
 qb 22 .lss 3 20 21 3 4 4 true,
 qP 23 16 22 false 4] fr st (.seq c52_20 k)) ∧
 (evK gS fi52 c52_25 fr st k=opsR gS fi52 [mv 26 5 22,
 mv 27 0 22,
 mv 28 6 3,
 ixa 29 22 27 28 0,
 ld 30 3 29 3,
 qS 31 22 30 22,
 qE 32 26 31 22 22,
 asn 5 32 22] fr st k) ∧
 (evK gS fi52 c52_26 fr st k=opsR gS fi52 [mv 24 6 3,
 qB 25 .add 3 24 1 3 3,
 asn 6 25 3] fr st k) ∧
 evK gS fi52 c52_23 fr st k=evK gS fi52 c52_25 fr st (.blk 1 (.seq c52_26 k)) ∧
 evK gS fi52 c52_17 fr st k=evK gS fi52 c52_18 fr st (.seq c52_23 k) ∧
 evK gS fi52 c52_15 fr st k=evK gS fi52 c52_16 fr st (.blk 0 k) ∧
 evK gS fi52 c52_13 fr st k=opsR gS fi52 [qI 6 0 3] fr st (.seq c52_15 k) ∧
 evK gS fi52 c52_37 fr st k=condK gS fi52 (fr.op (.tmp 40)).bool? .skip (.exit 2) fr st k ∧
 (evK gS fi52 c52_35 fr st k=opsR gS fi52 [mv 37 7 3,
 mv 38 0 22,
 len1 39 38 22 3,
 bop 40 .lss 3 37 39 3 4] fr st (.seq c52_37 k)) ∧
 (evK gS fi52 c52_45 fr st k=opsR gS fi52 [mv 49 5 22,
 mv 50 0 22,
 mv 51 7 3,
 ixa 52 22 50 51 0,
 ld 53 3 52 3,
 qS 54 22 53 22,
 qE 55 49 54 22 22,
 asn 5 55 22] fr st k) ∧
 evK gS fi52 c52_44 fr st k=condK gS fi52 (fr.op (.tmp 48)).bool? c52_45 .skip fr st k ∧
 (evK gS fi52 c52_42 fr st k=opsR gS fi52 [mv 43 0 22,
 mv 44 7 3,
 ixa 45 22 43 44 0,
 ld 46 3 45 3,
 mv 47 1 3,
 bop 48 .gtr 3 46 47 3 4] fr st (.seq c52_44 k)) ∧
 (evK gS fi52 c52_47 fr st k=opsR gS fi52 [mv 41 7 3,
 qB 42 .add 3 41 1 3 3,
 asn 7 42 3] fr st k) ∧
 evK gS fi52 c52_40 fr st k=evK gS fi52 c52_42 fr st (.blk 3 (.seq c52_47 k)) ∧
 evK gS fi52 c52_34 fr st k=evK gS fi52 c52_35 fr st (.seq c52_40 k) ∧
 evK gS fi52 c52_32 fr st k=evK gS fi52 c52_33 fr st (.blk 2 k) ∧
 evK gS fi52 c52_30 fr st k=opsR gS fi52 [qI 7 0 3] fr st (.seq c52_32 k) ∧
 evK gS fi52 c52_29 fr st k=evK gS fi52 c52_30 fr st (.seq c52_48 k) ∧
 evK gS fi52 c52_12 fr st k=evK gS fi52 c52_13 fr st (.seq c52_27 k) ∧
 evK gS fi52 c52_10 fr st k=opsR gS fi52 [qN 5 22] fr st (.seq c52_12 k) ∧
 evK gS fi52 c52_2 fr st k=evK gS fi52 c52_3 fr st (.seq c52_10 k) ∧
 evK gS fi52 c52_0 fr st k=opsR gS fi52 [qN 4 22] fr st (.seq c52_2 k):=⟨evK_rs 2 rfl (by kernel_rfl),rfl,evK_rs 1 rfl (by kernel_rfl),rfl,evK_rs 5 rfl (by kernel_rfl),evK_r 7 (by kernel_rfl),evK_r 6 (by kernel_rfl),rfl,rfl,rfl,evK_rs 4 rfl (by kernel_rfl),rfl,evK_rs 10 rfl (by kernel_rfl),evK_r 13 (by kernel_rfl),rfl,evK_rs 12 rfl (by kernel_rfl),evK_r 11 (by kernel_rfl),rfl,rfl,rfl,evK_rs 9 rfl (by kernel_rfl),rfl,rfl,evK_rs 3 rfl (by kernel_rfl),rfl,evK_rs 0 rfl (by kernel_rfl)⟩
theorem m52:mini fi52.body=c52_0:=by kernel_rfl
theorem n52_16 (fr:Fr)(st:St)(k:Kt):nextK gS fi52 (.loop c52_17 k) .normal fr st=evK gS fi52 c52_16 fr st k:=rfl
theorem n52_33 (fr:Fr)(st:St)(k:Kt):nextK gS fi52 (.loop c52_34 k) .normal fr st=evK gS fi52 c52_33 fr st k:=rfl
theorem LP1 (l:List Int)(hl1:l.length<100000)(n0:Int)(S:St)(R:Out × St)  (fin:List Int)
  (H:∀ (e7:E) (T:List (Nat × E)) (X:List (Nat × List V)),e7.Tame→evK gS fi52 c52_27 {ps:=[(0,.val (.slice (intVs l))),(1,.val (.int .i64 n0)),(4,.own 0 []),(5,.own (kof 1 fin) (intVs fin)),(6,.val (.int .i64 (posI l n0))),(7,e7)],ts:=T,lc:=X} S .nil=some R) :
  ∀ (m q:Nat) (out:List Int) (e7:E) (T:List (Nat × E)) (X:List (Nat × List V)) (h7:e7.Tame),q≤(posI l n0)→(posI l n0) - q=m→fin=out ++ (l.drop q).take (posI l n0 - q)→out.length≤q →
  evK gS fi52 c52_16 {ps:=[(0,.val (.slice (intVs l))),(1,.val (.int .i64 n0)),(4,.own 0 []),(5,.own (kof 1 out) (intVs out)),(6,.val (.int .i64 (q:Nat))),(7,e7)],ts:=T,lc:=X} S (.blk 0 (.seq c52_27 .nil))=some R:=by
 intro m
 induction m with
 | zero =>
  intro q out e7 T X h7 hq hm2 hf hol
  obtain rfl:q=(posI l n0):=by omega
  rw [Nat.sub_self,List.take_zero,List.append_nil] at hf
  subst hf
  have hpl:=posI_le l n0
  have hex:((posI l n0:Nat):Int)<(l.length:Int)∧(∃ y,l[posI l n0]?=some y∧¬ y<n0)∨¬ ((posI l n0:Nat):Int)<(l.length:Int):=by
   cases hx:l[posI l n0]? with
   | none=>exact .inr (by rw [List.getElem?_eq_none_iff] at hx;omega)
   | some y=>exact .inl ⟨by have:=(List.getElem?_eq_some_iff.1 hx).1;omega,y,rfl,posI_ge l n0 y hx⟩
  generalize hpp:posI l n0=pp at *
  refine evK_loop c52_17 _ _ _ _ rfl ?_
  rcases hex with ⟨hlt,y,hy,hge⟩ | hlt
  ·obtain ⟨hlt2,hye⟩:=List.getElem?_eq_some_iff.1 hy
   rcases kof_or 1 fin with ⟨hk,rfl⟩ | hk
   ·rw [hk,show intVs []=[] from rfl] at H ⊢
    simp (config:={implicitDefEqProofs:=false}) [-zia,hlt,hlt2,hy,hye,hge,-St.obj,-St.set,h7,-zil,-zit,-znl,-znt,ty3,ty4,ty22,H52,E52,e52_48,n52_16,n52_33]
    exact H _ _ _ h7
   ·rw [hk] at H ⊢
    simp (config:={implicitDefEqProofs:=false}) [-zia,hlt,hlt2,hy,hye,hge,-St.obj,-St.set,h7,-zil,-zit,-znl,-znt,ty3,ty4,ty22,H52,E52,e52_48,n52_16,n52_33]
    exact H _ _ _ h7
  ·rcases kof_or 1 fin with ⟨hk,rfl⟩ | hk
   ·rw [hk,show intVs []=[] from rfl] at H ⊢
    simp (config:={implicitDefEqProofs:=false}) [-zia,hlt,-St.obj,-St.set,h7,-zil,-zit,-znl,-znt,ty3,ty4,ty22,H52,E52,e52_48,n52_16,n52_33]
    exact H _ _ _ h7
   ·rw [hk] at H ⊢
    simp (config:={implicitDefEqProofs:=false}) [-zia,hlt,-St.obj,-St.set,h7,-zil,-zit,-znl,-znt,ty3,ty4,ty22,H52,E52,e52_48,n52_16,n52_33]
    exact H _ _ _ h7
 | succ m ih =>
  intro q out e7 T X h7 hq hm2 hf hol
  have hpl:=posI_le l n0
  obtain ⟨x,hx⟩  := qgx (l:=l) (i:=q) (by omega)
  have hlt:(q:Int)<(l.length:Int):=by omega
  obtain ⟨hlt2,hxe⟩:=List.getElem?_eq_some_iff.1 hx
  have hw  := qws q (by omega)
  have hlx:=posI_lt l n0 q x (by omega) hx
  rw [drop_get hx,show posI l n0 - q=(posI l n0 - (q+1))+1 from by omega,List.take_succ_cons,List.append_cons out x] at hf
  have hs1:=sizes_ints out
  have hs2:=ints_snoc out x
  have b1:(out.length+1)*8≤140737488355328:=by omega
  have b2:out.length+1≤140737488355328:=by omega
  refine evK_loop c52_17 _ _ _ _ rfl ?_
  have IH:=fun e7 T X h7=>ih (q+1) (out ++ [x]) e7 T X h7 (by omega) (by omega) hf (by simp;omega)
  rw [kof_snoc] at IH
  rcases kof_or 1 out with ⟨hk,rfl⟩ | hk
  ·have en1:intVs ([] ++ [x])=[.int .i64 x]:=rfl
   rw [en1] at IH
   rw [hk,show intVs []=[] from rfl]
   simp (config:={implicitDefEqProofs:=false}) [-zia,h7,hx,hxe,hlt,hlt2,hw,hlx,-zil,-zit,-znl,-znt,ty3,ty4,ty22,H52,E52,e52_48,e52_27,n52_16,n52_33]
   exact IH _ _ _ h7
  ·rw [hk]
   simp (config:={implicitDefEqProofs:=false}) [-zia,-zaa,h7,hx,hxe,hlt,hlt2,hw,hlx,hs1,hs2,b1,b2,-zil,-zit,-znl,-znt,ty3,ty4,ty22,H52,E52,e52_48,e52_27,n52_16,n52_33]
   exact IH _ _ _ h7
theorem LP2 (l:List Int)(hl1:l.length<100000)(n0:Int)(S:St)(R:Out × St)  (fin:List Int)
  (H:∀ (e6:E) (T:List (Nat × E)) (X:List (Nat × List V)),e6.Tame→evK gS fi52 c52_48 {ps:=[(0,.val (.slice (intVs l))),(1,.val (.int .i64 n0)),(4,.own 0 []),(5,.own (kof 1 fin) (intVs fin)),(6,e6),(7,.val (.int .i64 l.length))],ts:=T,lc:=X} S .nil=some R) :
  ∀ (m q:Nat) (out:List Int) (e6:E) (T:List (Nat × E)) (X:List (Nat × List V)) (h6:e6.Tame),q≤l.length→l.length - q=m→fin=gtI n0 (l.drop q) out→out.length≤100001+q →
  evK gS fi52 c52_33 {ps:=[(0,.val (.slice (intVs l))),(1,.val (.int .i64 n0)),(4,.own 0 []),(5,.own (kof 1 out) (intVs out)),(6,e6),(7,.val (.int .i64 (q:Nat)))],ts:=T,lc:=X} S (.blk 2 (.seq c52_48 .nil))=some R:=by
 intro m
 induction m with
 | zero =>
  intro q out e6 T X h6 hq hm2 hf hol
  obtain rfl:q=l.length:=by omega
  rw [List.drop_length] at hf
  have hf2:fin=out:=hf
  subst hf2
  refine evK_loop c52_34 _ _ _ _ rfl ?_
  rcases kof_or 1 fin with ⟨hk,rfl⟩ | hk
  ·rw [hk,show intVs []=[] from rfl] at H ⊢
   simp (config:={implicitDefEqProofs:=false}) [-zia,-St.obj,-St.set,h6,-zil,-zit,-znl,-znt,ty3,ty4,ty22,H52,E52,e52_27,n52_16,n52_33]
   exact H _ _ _ h6
  ·rw [hk] at H ⊢
   simp (config:={implicitDefEqProofs:=false}) [-zia,-St.obj,-St.set,h6,-zil,-zit,-znl,-znt,ty3,ty4,ty22,H52,E52,e52_27,n52_16,n52_33]
   exact H _ _ _ h6
 | succ m ih =>
  intro q out e6 T X h6 hq hm2 hf hol
  obtain ⟨x,hx⟩  := qgx (l:=l) (i:=q) (by omega)
  have hlt:(q:Int)<(l.length:Int):=by omega
  obtain ⟨hlt2,hxe⟩:=List.getElem?_eq_some_iff.1 hx
  have hw  := qws q (by omega)
  rw [drop_get hx,show gtI n0 (x :: l.drop (q+1)) out=gtI n0 (l.drop (q+1)) (if n0<x then out ++ [x] else out) from rfl] at hf
  have hs1:=sizes_ints out
  have hs2:=ints_snoc out x
  have b1:(out.length+1)*8≤140737488355328:=by omega
  have b2:out.length+1≤140737488355328:=by omega
  refine evK_loop c52_34 _ _ _ _ rfl ?_
  by_cases hc:n0<x
  ·rw [if_pos hc] at hf
   have IH:=fun e6 T X h6=>ih (q+1) (out ++ [x]) e6 T X h6 (by omega) (by omega) hf (by simp;omega)
   rw [kof_snoc] at IH
   rcases kof_or 1 out with ⟨hk,rfl⟩ | hk
   ·have en1:intVs ([] ++ [x])=[.int .i64 x]:=rfl
    rw [en1] at IH
    rw [hk,show intVs []=[] from rfl]
    simp (config:={implicitDefEqProofs:=false}) [-zia,h6,hx,hxe,hlt,hlt2,hw,hc,-zil,-zit,-znl,-znt,ty3,ty4,ty22,H52,E52,e52_48,e52_27,n52_16,n52_33]
    exact IH _ _ _ h6
   ·rw [hk]
    simp (config:={implicitDefEqProofs:=false}) [-zia,-zaa,h6,hx,hxe,hlt,hlt2,hw,hc,hs1,hs2,b1,b2,-zil,-zit,-znl,-znt,ty3,ty4,ty22,H52,E52,e52_48,e52_27,n52_16,n52_33]
    exact IH _ _ _ h6
  ·rw [if_neg hc] at hf
   have IH:=fun e6 T X h6=>ih (q+1) out e6 T X h6 (by omega) (by omega) hf (by omega)
   rcases kof_or 1 out with ⟨hk,rfl⟩ | hk
   ·rw [hk,show intVs []=[] from rfl] at IH ⊢
    simp (config:={implicitDefEqProofs:=false}) [-zia,h6,hx,hxe,hlt,hlt2,hw,hc,-zil,-zit,-znl,-znt,ty3,ty4,ty22,H52,E52,e52_48,e52_27,n52_16,n52_33]
    exact IH _ _ _ h6
   ·rw [hk] at IH ⊢
    simp (config:={implicitDefEqProofs:=false}) [-zia,h6,hx,hxe,hlt,hlt2,hw,hc,-zil,-zit,-znl,-znt,ty3,ty4,ty22,H52,E52,e52_48,e52_27,n52_16,n52_33]
    exact IH _ _ _ h6
theorem c52 (l:List Int)(hl1:l.length<100000)(hri:rising l)(n0:Int)(S:St):EvF gS 52 [.slice (intVs l),.int .i64 n0] S=some (.ret (.slice (intVs (layI l n0))) none,S):=by
 refine EvF_start fi96_eq (fun x h=>by cases h) m52 ?_
 rw [st52]
 have hz:=fun xs st=>frz_slice (xs:=intVs xs) (flats_ints xs) st
 have hz0:=hz [] S
 rw [show intVs []=[] from rfl] at hz0
 have ki:=fun fr st=>k58 l n0 (by omega) fr st
 rw [← putI_eq hri]
 unfold putI
 cases hi:hasI l n0 with
 | true =>
  rw [hi] at ki
  rw [if_pos rfl]
  simp [ki,hz,-zil,-zit,-znl,-znt,ty3,ty4,ty22,H52,E52,e52_48,e52_27,n52_16,n52_33]
 | false =>
  rw [hi] at ki
  rw [if_neg (by simp)]
  have hpl:=posI_le l n0
  generalize hK:gtI n0 l (l.take (posI l n0) ++ [n0])=K
  generalize hR:(Out.ret (V.slice (intVs K)) none,S)=R
  have H48:∀ (e6:E) (T:List (Nat × E)) (X:List (Nat × List V)),e6.Tame→evK gS fi52 c52_48 {ps:=[(0,.val (.slice (intVs l))),(1,.val (.int .i64 n0)),(4,.own 0 []),(5,.own (kof 1 K) (intVs K)),(6,e6),(7,.val (.int .i64 l.length))],ts:=T,lc:=X} S .nil=some R:=by
   intro e6 T X h6
   rcases kof_or 1 K with ⟨hk,rfl⟩ | hk
   ·rw [hk,show intVs []=[] from rfl]
    simp (config:={implicitDefEqProofs:=false}) [-zia,h6,hz0,← hR,show intVs []=[] from rfl,-zil,-zit,-znl,-znt,ty3,ty4,ty22,H52,E52,e52_48,e52_27,n52_16,n52_33]
   ·rw [hk]
    simp (config:={implicitDefEqProofs:=false}) [-zia,h6,hz,← hR,-zil,-zit,-znl,-znt,ty3,ty4,ty22,H52,E52,e52_48,e52_27,n52_16,n52_33]
  have LL2:=fun e6 T X h6=>LP2 l hl1 n0 S R K H48 l.length 0 (l.take (posI l n0) ++ [n0]) e6 T X h6 (Nat.zero_le _) rfl (by rw [List.drop_zero];exact hK.symm) (by simp;omega)
  rw [show ((0:Nat):Int)=0 from rfl] at LL2
  rw [kof_snoc] at LL2
  generalize hpf:l.take (posI l n0)=pf at *
  have hs1:=sizes_ints pf
  have hs2:=ints_snoc pf n0
  have hpfl:pf.length≤100000:=by rw [← hpf];simp;omega
  have b1:(pf.length+1)*8≤140737488355328:=by omega
  have b2:pf.length+1≤140737488355328:=by omega
  have H27:∀ (e7:E) (T:List (Nat × E)) (X:List (Nat × List V)),e7.Tame→evK gS fi52 c52_27 {ps:=[(0,.val (.slice (intVs l))),(1,.val (.int .i64 n0)),(4,.own 0 []),(5,.own (kof 1 pf) (intVs pf)),(6,.val (.int .i64 (posI l n0:Nat))),(7,e7)],ts:=T,lc:=X} S .nil=some R:=by
   intro e7 T X h7
   rcases kof_or 1 pf with ⟨hk,hpn⟩ | hk
   ·rw [hpn] at LL2
    rw [hk,hpn,show intVs []=[] from rfl]
    simp only [List.nil_append,show intVs [n0]=[.int .i64 n0] from rfl] at LL2
    simp (config:={implicitDefEqProofs:=false}) [-zia,h7,-zil,-zit,-znl,-znt,ty3,ty4,ty22,H52,E52,e52_48,e52_27,n52_16,n52_33]
    exact LL2 _ _ _ (tame_val _)
   ·rw [hk]
    simp (config:={implicitDefEqProofs:=false}) [-zia,-zaa,h7,hs1,hs2,b1,b2,-zil,-zit,-znl,-znt,ty3,ty4,ty22,H52,E52,e52_48,e52_27,n52_16,n52_33]
    exact LL2 _ _ _ (tame_val _)
  have LL1:=fun e7 T X h7=>LP1 l hl1 n0 S R pf H27 (posI l n0) 0 [] e7 T X h7 (Nat.zero_le _) rfl (by rw [List.drop_zero,List.nil_append,Nat.sub_zero];exact hpf.symm) (Nat.le_refl _)
  rw [show ((0:Nat):Int)=0 from rfl] at LL1
  rw [show kof 1 ([]:List Int)=0 from rfl,show intVs []=[] from rfl] at LL1
  simp [ki,-zil,-zit,-znl,-znt,ty3,ty4,ty22,H52,E52,e52_48,e52_27,n52_16,n52_33]
  exact LL1 _ _ _ tame_any
theorem k52 (l:List Int)(hl1:l.length<100000)(hri:rising l)(n0:Int)(fr:Fr)(st:St):callStep gS (EvF gS) 52 [.slice (intVs l),.int .i64 n0] fr st=some (.ok (.val (.slice (intVs (layI l n0)))) fr st) :=
 call_pure rfl fi96_eq rfl (fun st=>c52 l hl1 hri n0 st) (by simp [V.flat])
theorem x52:gS.ext 52=none:=rfl
theorem p52:fi52.pure=true:=rfl
def fi18:FI:={body:=codeOf Try.f18,ntmps:=25,results:=[.tmp 4],pers:=[0,1,4,5,6],locals:=[],pure:=true,marks:=[1000001]}
theorem H18:fi18.marks=[1000001]∧fi18.locals=[]∧fi18.results=[.tmp 4]:=⟨rfl,rfl,rfl⟩
theorem fi58_eq:gS.fn 18=some fi18:=by kernel_rfl
theorem st18 (a0 a1:V):startFr fi18 [a0,a1]={ps:=[(0,.val a0),(1,.val a1),(4,.any),(5,.any),(6,.any)],ts:=[],lc:=[]}:=rfl
def b18:Code:=mini (codeOf Try.f18)
def c18_12:Code:=.cond (.tmp 10) .skip (.exit 0)
def c18_10:Code:=.seq (codeN b18 267) c18_12
def c18_20:Code:=codeN b18 2635
def c18_19:Code:=.cond (.tmp 19) c18_20 .skip
def c18_17:Code:=.seq (codeN b18 1099) c18_19
def c18_22:Code:=codeN b18 459
def c18_15:Code:=.seq (.block 1 c18_17) c18_22
def c18_9:Code:=.seq c18_10 c18_15
def c18_8:Code:=.loop c18_9
def c18_7:Code:=.block 0 c18_8
def c18_5:Code:=.seq (codeN b18 19) c18_7
def c18_23:Code:=.seq (codeN b18 23) .ret
theorem e18_23:evK gS fi18 c18_23 fr st k=opsR gS fi18 [mv 24 5 22,
 asn 4 24 22] fr st (.seq .ret k):=evK_rs 7 rfl (by kernel_rfl)
def c18_4:Code:=.seq c18_5 c18_23
def c18_2:Code:=.seq (codeN b18 5) c18_4
def c18_0:Code:=.seq (codeN b18 2) c18_2
theorem E18:evK gS fi18 c18_12 fr st k=condK gS fi18 (fr.op (.tmp 10)).bool? .skip (.exit 0) fr st k ∧
 (evK gS fi18 c18_10 fr st k=opsR gS fi18 [mv 7 6 3,
 mv 8 0 34,
 len1 9 8 34 3,
 bop 10 .lss 3 7 9 3 4] fr st (.seq c18_12 k)) ∧
 (evK gS fi18 c18_20 fr st k=opsR gS fi18 [mv 20 5 22,
 mv 21 6 3,
 qS 22 22 21 22,
 qE 23 20 22 22 22,
 asn 5 23 22] fr st k) ∧
 evK gS fi18 c18_19 fr st k=condK gS fi18 (fr.op (.tmp 19)).bool? c18_20 .skip fr st k ∧
 (evK gS fi18 c18_17 fr st k=opsR gS fi18 [mv 13 0 34,
 mv 14 6 3,
 ixa 15 34 13 14 0,
 qF 16 40 15 0 0,
 ld 17 29 16 29,
 mv 18 1 42,
 cal 19 56 [(.tmp 17),(.tmp 18)] [29,42] 4] fr st (.seq c18_19 k)) ∧
 (evK gS fi18 c18_22 fr st k=opsR gS fi18 [mv 11 6 3,
 qB 12 .add 3 11 1 3 3,
 asn 6 12 3] fr st k) ∧
 evK gS fi18 c18_15 fr st k=evK gS fi18 c18_17 fr st (.blk 1 (.seq c18_22 k)) ∧
 evK gS fi18 c18_9 fr st k=evK gS fi18 c18_10 fr st (.seq c18_15 k) ∧
 evK gS fi18 c18_7 fr st k=evK gS fi18 c18_8 fr st (.blk 0 k) ∧
 evK gS fi18 c18_5 fr st k=opsR gS fi18 [qI 6 0 3] fr st (.seq c18_7 k) ∧
 evK gS fi18 c18_4 fr st k=evK gS fi18 c18_5 fr st (.seq c18_23 k) ∧
 evK gS fi18 c18_2 fr st k=opsR gS fi18 [qN 5 22] fr st (.seq c18_4 k) ∧
 evK gS fi18 c18_0 fr st k=opsR gS fi18 [qN 4 22] fr st (.seq c18_2 k):=⟨rfl,evK_rs 3 rfl (by kernel_rfl),evK_r 6 (by kernel_rfl),rfl,evK_rs 5 rfl (by kernel_rfl),evK_r 4 (by kernel_rfl),rfl,rfl,rfl,evK_rs 2 rfl (by kernel_rfl),rfl,evK_rs 1 rfl (by kernel_rfl),evK_rs 0 rfl (by kernel_rfl)⟩
theorem m18:mini fi18.body=c18_0:=by kernel_rfl
theorem n18_8 (fr:Fr)(st:St)(k:Kt):nextK gS fi18 (.loop c18_9 k) .normal fr st=evK gS fi18 c18_8 fr st k:=rfl
theorem LM58x (g:List Grp)(hg:∀ x∈g,POk x.filter∧x.clients.length<1000)(hgl:g.length<100000)(A:List Attr)(hA:A.length<1000)(S:St)(R:Out × St)  (fin:List Int)
  (H:∀  (T:List (Nat × E)) (X:List (Nat × List V)),evK gS fi18 c18_23 {ps:=[(0,.val (.slice (encGrps g))),(1,.val (.slice (encAttrs A))),(4,.own 0 []),(5,.own (kof 1 fin) (intVs fin)),(6,.val (.int .i64 g.length))],ts:=T,lc:=X} S .nil=some R) :
  ∀ (m q:Nat) (out:List Int)  (T:List (Nat × E)) (X:List (Nat × List V)) ,q≤g.length→g.length - q=m→fin=matchG A q (g.drop q) out→out.length≤q →
  evK gS fi18 c18_8 {ps:=[(0,.val (.slice (encGrps g))),(1,.val (.slice (encAttrs A))),(4,.own 0 []),(5,.own (kof 1 out) (intVs out)),(6,.val (.int .i64 (q:Nat)))],ts:=T,lc:=X} S (.blk 0 (.seq c18_23 .nil))=some R:=by
 intro m
 induction m with
 | zero =>
  intro q out  T X  hq hm2 hf hol
  obtain rfl:q=g.length:=by omega
  rw [List.drop_length] at hf
  have hf2:fin=out:=hf
  subst hf2
  refine evK_loop c18_9 _ _ _ _ rfl ?_
  rcases kof_or 1 fin with ⟨hk,rfl⟩ | hk
  ·rw [hk,show intVs []=[] from rfl] at H ⊢
   simp (config:={implicitDefEqProofs:=false}) [-zia,-St.obj,-St.set,-zil,-zit,-znl,-znt,ty3,ty4,ty22,ty29,ty34,ty40,ty42,H18,E18,n18_8]
   exact H  _ _
  ·rw [hk] at H ⊢
   simp (config:={implicitDefEqProofs:=false}) [-zia,-St.obj,-St.set,-zil,-zit,-znl,-znt,ty3,ty4,ty22,ty29,ty34,ty40,ty42,H18,E18,n18_8]
   exact H  _ _
 | succ m ih =>
  intro q out  T X  hq hm2 hf hol
  obtain ⟨x,hx⟩  := qgx (l:=g) (i:=q) (by omega)
  have hlt:(q:Int)<(g.length:Int):=by omega
  obtain ⟨hlt2,hxe⟩:=List.getElem?_eq_some_iff.1 hx
  have hw  := qws q (by omega)
  rw [drop_get hx,show matchG A q (x :: g.drop (q+1)) out=matchG A (q+1) (g.drop (q+1)) (if ftakes x.filter A=true then out ++ [(q:Int)] else out) from rfl] at hf
  have hxg:=hg x (zmg hx)
  have kk:∀ (fr:Fr) (st:St),callStep gS (EvF gS) 56 [.slice (encPreds x.filter),.slice (encAttrs A)] fr st=some (.ok (.val (.bool (ftakes x.filter A))) fr st):=fun fr st=>k56 x.filter A hxg.1 (by omega) fr st
  have hs1:=sizes_ints out
  have hs2:=ints_snoc out (q:Int)
  have b1:(out.length+1)*8≤140737488355328:=by omega
  have b2:out.length+1≤140737488355328:=by omega
  generalize ftakes x.filter A=z at *
  refine evK_loop c18_9 _ _ _ _ rfl ?_
  cases z with
  | true =>
   rw [if_pos rfl] at hf
   have IH:=fun T X=>ih (q+1) (out ++ [(q:Int)]) T X (by omega) (by omega) hf (by simp;omega)
   rw [kof_snoc] at IH
   rcases kof_or 1 out with ⟨hk,rfl⟩ | hk
   ·have en1:intVs ([] ++ [(q:Int)])=[.int .i64 (q:Int)]:=rfl
    rw [en1] at IH
    rw [hk,show intVs []=[] from rfl]
    simp (config:={implicitDefEqProofs:=false}) [-zia,hx,hxe,hlt,hlt2,hw,kk,IH,-zil,-zit,-znl,-znt,ty3,ty4,ty22,ty29,ty34,ty40,ty42,H18,E18,e18_23,n18_8]
   ·rw [hk]
    simp (config:={implicitDefEqProofs:=false}) [-zia,-zaa,hx,hxe,hlt,hlt2,hw,kk,hs1,hs2,b1,b2,IH,-zil,-zit,-znl,-znt,ty3,ty4,ty22,ty29,ty34,ty40,ty42,H18,E18,e18_23,n18_8]
  | false =>
   rw [if_neg (by simp)] at hf
   have IH:=fun T X=>ih (q+1) out T X (by omega) (by omega) hf (by omega)
   rcases kof_or 1 out with ⟨hk,rfl⟩ | hk
   ·rw [hk,show intVs []=[] from rfl] at IH ⊢
    simp (config:={implicitDefEqProofs:=false}) [-zia,hx,hxe,hlt,hlt2,hw,kk,IH,-zil,-zit,-znl,-znt,ty3,ty4,ty22,ty29,ty34,ty40,ty42,H18,E18,e18_23,n18_8]
   ·rw [hk] at IH ⊢
    simp (config:={implicitDefEqProofs:=false}) [-zia,hx,hxe,hlt,hlt2,hw,kk,IH,-zil,-zit,-znl,-znt,ty3,ty4,ty22,ty29,ty34,ty40,ty42,H18,E18,e18_23,n18_8]
theorem c18 (g:List Grp)(hg:∀ x∈g,POk x.filter∧x.clients.length<1000)(hgl:g.length<100000)(A:List Attr)(hA:A.length<1000)(S:St):EvF gS 18 [.slice (encGrps g),.slice (encAttrs A)] S=some (.ret (.slice (intVs (gmatch g A))) (some (kof 1 (gmatch g A))),S):=by
 refine EvF_start fi58_eq (fun x h=>by cases h) m18 ?_
 rw [st18]
 have hz:=fun xs st=>frz_slice (xs:=intVs xs) (flats_ints xs) st
 have hz0:=hz [] S
 rw [show intVs []=[] from rfl] at hz0
 show _=some (Out.ret (V.slice (intVs (matchG A 0 g []))) (some (kof 1 (matchG A 0 g []))),S)
 generalize hK:matchG A 0 g []=K
 generalize hR:(Out.ret (V.slice (intVs K)) (some (kof 1 K)),S)=R
 have H23:∀  (T:List (Nat × E)) (X:List (Nat × List V)),evK gS fi18 c18_23 {ps:=[(0,.val (.slice (encGrps g))),(1,.val (.slice (encAttrs A))),(4,.own 0 []),(5,.own (kof 1 K) (intVs K)),(6,.val (.int .i64 g.length))],ts:=T,lc:=X} S .nil=some R:=by
  intro  T X
  rcases kof_or 1 K with ⟨hk,rfl⟩ | hk
  ·rw [hk,show intVs []=[] from rfl]
   simp (config:={implicitDefEqProofs:=false}) [-zia,hz0,← hR,hk,show intVs []=[] from rfl,-zil,-zit,-znl,-znt,ty3,ty4,ty22,ty29,ty34,ty40,ty42,H18,E18,e18_23,n18_8]
  ·rw [hk]
   simp (config:={implicitDefEqProofs:=false}) [-zia,hz,← hR,hk,-zil,-zit,-znl,-znt,ty3,ty4,ty22,ty29,ty34,ty40,ty42,H18,E18,e18_23,n18_8]
 have LL:=fun  T X  => LM58x g hg hgl A hA S R K H23 g.length 0 []  T X  (Nat.zero_le _) rfl (by rw [List.drop_zero];exact hK.symm) (Nat.le_refl _)
 rw [show ((0:Nat):Int)=0 from rfl] at LL
 rw [show kof 1 ([]:List Int)=0 from rfl,show intVs []=[] from rfl] at LL
 simp [LL,-zil,-zit,-znl,-znt,ty3,ty4,ty22,ty29,ty34,ty40,ty42,H18,E18,e18_23,n18_8]
theorem k18 (g:List Grp)(hg:∀ x∈g,POk x.filter∧x.clients.length<1000)(hgl:g.length<100000)(A:List Attr)(hA:A.length<1000)(fr:Fr)(st:St):callStep gS (EvF gS) 18 [.slice (encGrps g),.slice (encAttrs A)] fr st=some (.ok (.own (kof 1 (gmatch g A)) (intVs (gmatch g A))) fr st) :=
 call_pure rfl fi58_eq rfl (fun st=>c18 g hg hgl A hA st) (by simp [V.flat])
theorem x18:gS.ext 18=none:=rfl
theorem p18:fi18.pure=true:=rfl
def fi23:FI:={body:=codeOf Try.f23,ntmps:=63,results:=[.tmp 6],pers:=[0,1,2,6,7,8],locals:=[],pure:=true,marks:=[1000000]}
theorem H23:fi23.marks=[1000000]∧fi23.locals=[]∧fi23.results=[.tmp 6]:=⟨rfl,rfl,rfl⟩
theorem fi63_eq:gS.fn 23=some fi23:=by kernel_rfl
theorem st23 (a0 a1 a2:V):startFr fi23 [a0,a1,a2]={ps:=[(0,.val a0),(1,.val a1),(2,.val a2),(6,.any),(7,.any),(8,.any)],ts:=[],lc:=[]}:=rfl
def b23:Code:=mini (codeOf Try.f23)
def c23_8:Code:=.seq (codeN b23 75) .ret
def c23_7:Code:=.cond (.tmp 26) c23_8 .skip
def c23_5:Code:=.seq (codeN b23 19) c23_7
def c23_20:Code:=.cond (.tmp 35) .skip (.exit 0)
def c23_18:Code:=.seq (codeN b23 535) c23_20
def r23_26:Array Oper:=regOps (codeN (codeOf Try.f23) 2199)
def c23_26:Code:=.region 7 r23_26 true
def q23_26:List (Oper × Fl):=[(mv 38 0 34,qz0),
 (mv 39 2 3,qz0),
 (ixa 40 34 38 39 0,qz0),
 (qF 41 40 40 1 0,qz0),
 (ld 42 22 41 22,qz0),
 (mv 43 0 34,qz0),
 (mv 44 1 3,qz0),
 (ixa 45 34 43 44 0,qz0),
 (qF 46 40 45 1 0,qz0),
 (ld 47 22 46 22,qz0),
 (mv 48 8 3,qz3),
 (ixa 49 22 47 48 0,qz3),
 (ld 50 3 49 3,qz3),
 (cal 51 58 [(.tmp 42),(.tmp 50)] [22,3] 4,qz4)]
def c23_28:Code:=codeN b23 5271
def c23_27:Code:=.cond (.tmp 51) c23_28 .skip
def c23_25:Code:=.seq c23_26 c23_27
def c23_30:Code:=codeN b23 919
def c23_23:Code:=.seq (.block 1 c23_25) c23_30
def c23_17:Code:=.seq c23_18 c23_23
def c23_16:Code:=.loop c23_17
def c23_15:Code:=.block 0 c23_16
def c23_13:Code:=.seq (codeN b23 39) c23_15
def c23_31:Code:=.seq (codeN b23 47) .ret
theorem e23_31:evK gS fi23 c23_31 fr st k=opsR gS fi23 [mv 62 7 22,
 asn 6 62 22] fr st (.seq .ret k):=evK_rs 9 rfl (by kernel_rfl)
def c23_12:Code:=.seq c23_13 c23_31
def c23_4:Code:=.seq c23_5 c23_12
def c23_2:Code:=.seq (codeN b23 5) c23_4
def c23_0:Code:=.seq (codeN b23 2) c23_2
theorem E23:(evK gS fi23 c23_8 fr st k=opsR gS fi23 [mv 27 7 22,
 asn 6 27 22] fr st (.seq .ret k)) ∧
 evK gS fi23 c23_7 fr st k=condK gS fi23 (fr.op (.tmp 26)).bool? c23_8 .skip fr st k ∧
 (evK gS fi23 c23_5 fr st k=opsR gS fi23 [mv 9 1 3,
 qB 10 .lss 3 9 0 3 4,
 mv 11 10 4,
 qm 12 2 3 2 false,
 qc 13 .lss 3 12 0 3 4 2 false,
 qQ 14 11 true 13 4,
 mv 15 14 4,
 qm 16 1 3 6 false,
 qm 17 0 34 6 false,
 qe 18 17 34 3 6 false,
 qb 19 .geq 3 16 18 3 4 6 false,
 qQ 20 15 true 19 4,
 mv 21 20 4,
 qm 22 2 3 12 false,
 qm 23 0 34 12 false,
 qe 24 23 34 3 12 false,
 qb 25 .geq 3 22 24 3 4 12 false,
 qQ 26 21 true 25 4] fr st (.seq c23_7 k)) ∧
 evK gS fi23 c23_20 fr st k=condK gS fi23 (fr.op (.tmp 35)).bool? .skip (.exit 0) fr st k ∧
 (evK gS fi23 c23_18 fr st k=opsR gS fi23 [mv 28 8 3,
 mv 29 0 34,
 mv 30 1 3,
 ixa 31 34 29 30 0,
 qF 32 40 31 1 0,
 ld 33 22 32 22,
 len1 34 33 22 3,
 bop 35 .lss 3 28 34 3 4] fr st (.seq c23_20 k)) ∧
 evK gS fi23 c23_26 fr st k=drwR gS fi23 r23_26 q23_26 fr st k ∧
 (evK gS fi23 c23_28 fr st k=opsR gS fi23 [mv 52 7 22,
 mv 53 0 34,
 mv 54 1 3,
 ixa 55 34 53 54 0,
 qF 56 40 55 1 0,
 ld 57 22 56 22,
 mv 58 8 3,
 ixa 59 22 57 58 0,
 ld 60 3 59 3,
 cal 61 52 [(.tmp 52),(.tmp 60)] [22,3] 22,
 asn 7 61 22] fr st k) ∧
 evK gS fi23 c23_27 fr st k=condK gS fi23 (fr.op (.tmp 51)).bool? c23_28 .skip fr st k ∧
 evK gS fi23 c23_25 fr st k=evK gS fi23 c23_26 fr st (.seq c23_27 k) ∧
 (evK gS fi23 c23_30 fr st k=opsR gS fi23 [mv 36 8 3,
 qB 37 .add 3 36 1 3 3,
 asn 8 37 3] fr st k) ∧
 evK gS fi23 c23_23 fr st k=evK gS fi23 c23_25 fr st (.blk 1 (.seq c23_30 k)) ∧
 evK gS fi23 c23_17 fr st k=evK gS fi23 c23_18 fr st (.seq c23_23 k) ∧
 evK gS fi23 c23_15 fr st k=evK gS fi23 c23_16 fr st (.blk 0 k) ∧
 evK gS fi23 c23_13 fr st k=opsR gS fi23 [qI 8 0 3] fr st (.seq c23_15 k) ∧
 evK gS fi23 c23_12 fr st k=evK gS fi23 c23_13 fr st (.seq c23_31 k) ∧
 evK gS fi23 c23_4 fr st k=evK gS fi23 c23_5 fr st (.seq c23_12 k) ∧
 evK gS fi23 c23_2 fr st k=opsR gS fi23 [qN 7 22] fr st (.seq c23_4 k) ∧
 evK gS fi23 c23_0 fr st k=opsR gS fi23 [qN 6 22] fr st (.seq c23_2 k):=⟨evK_rs 3 rfl (by kernel_rfl),rfl,evK_rs 2 rfl (by kernel_rfl),rfl,evK_rs 5 rfl (by kernel_rfl),evK_dr 7 rfl (by kernel_rfl) (by kernel_rfl),evK_r 8 (by kernel_rfl),rfl,rfl,evK_r 6 (by kernel_rfl),rfl,rfl,rfl,evK_rs 4 rfl (by kernel_rfl),rfl,rfl,evK_rs 1 rfl (by kernel_rfl),evK_rs 0 rfl (by kernel_rfl)⟩
theorem m23:mini fi23.body=c23_0:=by kernel_rfl
theorem n23_16 (fr:Fr)(st:St)(k:Kt):nextK gS fi23 (.loop c23_17 k) .normal fr st=evK gS fi23 c23_16 fr st k:=rfl
theorem LB63 (g:List Grp)(hg:∀ x∈g,x.clients.length<1000)(hgl:g.length<100000)(a b:Nat)(u v:Grp)(hu:g[a]?=some u)(hv:g[b]?=some v)(S:St)(R:Out × St)  (fin:List Int)
  (H:∀  (T:List (Nat × E)) (X:List (Nat × List V)),evK gS fi23 c23_31 {ps:=[(0,.val (.slice (encGrps g))),(1,.val (.int .i64 (a:Nat))),(2,.val (.int .i64 (b:Nat))),(6,.own 0 []),(7,oE fin),(8,.val (.int .i64 u.clients.length))],ts:=T,lc:=X} S .nil=some R) :
  ∀ (m q:Nat) (out:List Int)  (T:List (Nat × E)) (X:List (Nat × List V)) ,q≤u.clients.length→u.clients.length - q=m→fin=bothI v.clients (u.clients.drop q) out→rising out→out.length≤q →
  evK gS fi23 c23_16 {ps:=[(0,.val (.slice (encGrps g))),(1,.val (.int .i64 (a:Nat))),(2,.val (.int .i64 (b:Nat))),(6,.own 0 []),(7,oE out),(8,.val (.int .i64 (q:Nat)))],ts:=T,lc:=X} S (.blk 0 (.seq c23_31 .nil))=some R:=by
 intro m
 obtain ⟨u1,u2⟩:=List.getElem?_eq_some_iff.1 hu
 have u3:(a:Int)<(g.length:Int):=by omega
 have hul:=hg u (zmg hu)
 obtain ⟨v1,v2⟩:=List.getElem?_eq_some_iff.1 hv
 have v3:(b:Int)<(g.length:Int):=by omega
 have hvl:=hg v (zmg hv)
 induction m with
 | zero =>
  intro q out  T X  hq hm2 hf hri hol
  obtain rfl:q=u.clients.length:=by omega
  rw [List.drop_length] at hf
  have hf2:fin=out:=hf
  subst hf2
  refine evK_loop c23_17 _ _ _ _ rfl ?_
  rcases oE_or fin with ⟨hk,rfl⟩ | hk
  ·rw [hk] at H ⊢
   simp (config:={implicitDefEqProofs:=false}) [-zia,-St.obj,-St.set,hu,u1,u2,u3,hv,v1,v2,v3,-zil,-zit,-znl,-znt,ty3,ty4,ty22,ty34,ty40,H23,x52,fi96_eq,p52,x58,fi99_eq,p58,E23,q23_26,n23_16]
   exact H  _ _
  ·rw [hk] at H ⊢
   simp (config:={implicitDefEqProofs:=false}) [-zia,-St.obj,-St.set,hu,u1,u2,u3,hv,v1,v2,v3,-zil,-zit,-znl,-znt,ty3,ty4,ty22,ty34,ty40,H23,x52,fi96_eq,p52,x58,fi99_eq,p58,E23,q23_26,n23_16]
   exact H  _ _
 | succ m ih =>
  intro q out  T X  hq hm2 hf hri hol
  obtain ⟨x,hx⟩  := qgx (l:=u.clients) (i:=q) (by omega)
  have hlt:(q:Int)<(u.clients.length:Int):=by omega
  obtain ⟨hlt2,hxe⟩:=List.getElem?_eq_some_iff.1 hx
  have hw  := qws q (by omega)
  rw [drop_get hx,show bothI v.clients (x :: u.clients.drop (q+1)) out=bothI v.clients (u.clients.drop (q+1)) (if hasI v.clients x=true then layI out x else out) from rfl] at hf
  have hll:=layI_len out x
  have kk:=fun fr st=>k52 out (by omega) hri x fr st
  have kh:=fun fr st=>k58 v.clients x (by omega) fr st
  generalize hasI v.clients x=z at *
  refine evK_loop c23_17 _ _ _ _ rfl ?_
  cases z with
  | true =>
   rw [if_pos rfl] at hf
   have IH:=fun T X=>ih (q+1) (layI out x) T X (by omega) (by omega) hf (layI_rising hri) (by omega)
   rw [oE_lay] at IH
   rcases oE_or out with ⟨hk,rfl⟩ | hk
   ·rw [show intVs []=[] from rfl] at kk
    rw [hk]
    simp (config:={implicitDefEqProofs:=false}) [-zia,hx,hxe,hlt,hlt2,hw,hu,u1,u2,u3,hv,v1,v2,v3,kk,kh,IH,-zil,-zit,-znl,-znt,ty3,ty4,ty22,ty34,ty40,H23,x52,fi96_eq,p52,x58,fi99_eq,p58,E23,q23_26,e23_31,n23_16]
   ·rw [hk]
    simp (config:={implicitDefEqProofs:=false}) [-zia,hx,hxe,hlt,hlt2,hw,hu,u1,u2,u3,hv,v1,v2,v3,kk,kh,IH,-zil,-zit,-znl,-znt,ty3,ty4,ty22,ty34,ty40,H23,x52,fi96_eq,p52,x58,fi99_eq,p58,E23,q23_26,e23_31,n23_16]
  | false =>
   rw [if_neg (by simp)] at hf
   have IH:=fun T X=>ih (q+1) out T X (by omega) (by omega) hf hri (by omega)
   rcases oE_or out with ⟨hk,rfl⟩ | hk
   ·rw [hk] at IH ⊢
    simp (config:={implicitDefEqProofs:=false}) [-zia,hx,hxe,hlt,hlt2,hw,hu,u1,u2,u3,hv,v1,v2,v3,kh,IH,-zil,-zit,-znl,-znt,ty3,ty4,ty22,ty34,ty40,H23,x52,fi96_eq,p52,x58,fi99_eq,p58,E23,q23_26,e23_31,n23_16]
   ·rw [hk] at IH ⊢
    simp (config:={implicitDefEqProofs:=false}) [-zia,hx,hxe,hlt,hlt2,hw,hu,u1,u2,u3,hv,v1,v2,v3,kh,IH,-zil,-zit,-znl,-znt,ty3,ty4,ty22,ty34,ty40,H23,x52,fi96_eq,p52,x58,fi99_eq,p58,E23,q23_26,e23_31,n23_16]
theorem c23 (g:List Grp)(hg:∀ x∈g,x.clients.length<1000)(hgl:g.length<100000)(a b:Nat)(u v:Grp)(hu:g[a]?=some u)(hv:g[b]?=some v)(S:St):EvF gS 23 [.slice (encGrps g),.int .i64 (a:Nat),.int .i64 (b:Nat)] S=some (.ret (.slice (intVs (bothI v.clients u.clients []))) none,S):=by
 refine EvF_start fi63_eq (fun x h=>by cases h) m23 ?_
 rw [st23]
 have hz:=fun xs st=>frz_slice (xs:=intVs xs) (flats_ints xs) st
 have hz0:=hz [] S
 rw [show intVs []=[] from rfl] at hz0
 generalize hK:bothI v.clients u.clients []=K
 generalize hR:(Out.ret (V.slice (intVs K)) none,S)=R
 obtain ⟨u1,u2⟩:=List.getElem?_eq_some_iff.1 hu
 have u3:(a:Int)<(g.length:Int):=by omega
 have hul:=hg u (zmg hu)
 obtain ⟨v1,v2⟩:=List.getElem?_eq_some_iff.1 hv
 have v3:(b:Int)<(g.length:Int):=by omega
 have hvl:=hg v (zmg hv)
 have n1:¬ (a:Int)<0:=by omega
 have n2:¬ (b:Int)<0:=by omega
 have n3:¬ (g.length:Int)≤(a:Int):=by omega
 have n4:¬ (g.length:Int)≤(b:Int):=by omega
 have H31:∀  (T:List (Nat × E)) (X:List (Nat × List V)),evK gS fi23 c23_31 {ps:=[(0,.val (.slice (encGrps g))),(1,.val (.int .i64 (a:Nat))),(2,.val (.int .i64 (b:Nat))),(6,.own 0 []),(7,(oE K)),(8,.val (.int .i64 u.clients.length))],ts:=T,lc:=X} S .nil=some R:=by
  intro  T X
  rcases oE_or K with ⟨hk,rfl⟩ | hk
  ·rw [hk]
   simp (config:={implicitDefEqProofs:=false}) [-zia,hz0,← hR,show intVs []=[] from rfl,-zil,-zit,-znl,-znt,ty3,ty4,ty22,ty34,ty40,H23,x52,fi96_eq,p52,x58,fi99_eq,p58,E23,q23_26,e23_31,n23_16]
  ·rw [hk]
   simp (config:={implicitDefEqProofs:=false}) [-zia,hz,← hR,-zil,-zit,-znl,-znt,ty3,ty4,ty22,ty34,ty40,H23,x52,fi96_eq,p52,x58,fi99_eq,p58,E23,q23_26,e23_31,n23_16]
 have LL:=fun  T X  => LB63 g hg hgl a b u v hu hv S R K H31 u.clients.length 0 []  T X  (Nat.zero_le _) rfl (by rw [List.drop_zero];exact hK.symm) List.Pairwise.nil (Nat.zero_le _)
 rw [show ((0:Nat):Int)=0 from rfl] at LL
 rw [show oE []=.own 0 [] from rfl] at LL
 simp (config:={implicitDefEqProofs:=false}) [-zia,u1,v1,n1,n2,n3,n4,LL,-zil,-zit,-znl,-znt,ty3,ty4,ty22,ty34,ty40,H23,x52,fi96_eq,p52,x58,fi99_eq,p58,E23,q23_26,e23_31,n23_16]
theorem k23 (g:List Grp)(hg:∀ x∈g,x.clients.length<1000)(hgl:g.length<100000)(a b:Nat)(u v:Grp)(hu:g[a]?=some u)(hv:g[b]?=some v)(fr:Fr)(st:St):callStep gS (EvF gS) 23 [.slice (encGrps g),.int .i64 (a:Nat),.int .i64 (b:Nat)] fr st=some (.ok (.val (.slice (intVs (bothI v.clients u.clients [])))) fr st) :=
 call_pure rfl fi63_eq rfl (fun st=>c23 g hg hgl a b u v hu hv st) (by simp [V.flat])
end
end Go.Proofs.Ytdoobejjedpcgaa
namespace Go.Ab
open Go
def atG (f:List Pred):List Grp→Nat
 | []=>0
 | x :: r=>if fsame x.filter f then 0 else atG f r+1
def grpStep (out:List Grp)(s:Sub):List Grp :=
 match out[atG s.filter out]? with
 | some x=>out.set (atG s.filter out) ⟨x.filter,layI x.clients s.client⟩
 | none=>out ++ [⟨s.filter,layI [] s.client⟩]
def fstsG (l:List Sub):Nat→List Sub→List Sub
 | _,[]=>[]
 | i,s :: r=>(if fstOf l i s then [s] else []) ++ fstsG l (i+1) r
def fsts (l:List Sub):List Sub:=fstsG l 0 l
theorem gofG_map (l:List Sub):∀ (r:List Sub) (i:Nat) (out:List Grp),gofG l i r out=out ++ (fstsG l i r).map fun s=>⟨s.filter,cliOf l s⟩
 | [],i,out=>by simp [gofG,fstsG]
 | s :: r,i,out=>by
  unfold gofG fstsG
  rw [gofG_map l r (i+1)]
  split <;> simp
theorem gof_map (l:List Sub):gof l=(fsts l).map fun s=>⟨s.filter,cliOf l s⟩:=by
 unfold gof fsts
 rw [gofG_map];rfl
theorem fstOf_snoc (l:List Sub)(x:Sub) {i:Nat} (hi:i≤l.length)(s:Sub):fstOf (l ++ [x]) i s=fstOf l i s:=by
 unfold fstOf
 rw [List.take_append_of_le_length hi]
theorem fstsG_snoc (l:List Sub)(x:Sub):∀ (r:List Sub) (i:Nat),i+r.length≤l.length→fstsG (l ++ [x]) i r=fstsG l i r
 | [],_,_=>rfl
 | s :: r,i,h=>by
  simp only [List.length_cons] at h
  unfold fstsG
  rw [fstOf_snoc l x (by omega),fstsG_snoc l x r (i+1) (by omega)]
theorem fstsG_append (l:List Sub):∀ (r q:List Sub) (i:Nat),fstsG l i (r ++ q)=fstsG l i r ++ fstsG l (i+r.length) q
 | [],q,i=>by simp [fstsG]
 | s :: r,q,i=>by
  rw [List.cons_append,show fstsG l i (s :: (r ++ q))=(if fstOf l i s then [s] else []) ++ fstsG l (i+1) (r ++ q) from rfl,show fstsG l i (s :: r)=(if fstOf l i s then [s] else []) ++ fstsG l (i+1) r from rfl]
  rw [fstsG_append l r q (i+1),zaa,List.length_cons,show i+1+r.length=i+(r.length+1) from by omega]
theorem fsts_snoc (l:List Sub)(x:Sub):fsts (l ++ [x])=fsts l ++ (if fstOf l l.length x then [x] else []):=by
 unfold fsts
 rw [fstsG_append,fstsG_snoc l x l 0 (by omega),Nat.zero_add]
 congr 1
 show (if fstOf (l ++ [x]) l.length x then [x] else []) ++ []=_
 rw [fstOf_snoc l x (Nat.le_refl _),List.append_nil]
theorem cliOf_snoc (l:List Sub)(x s:Sub):cliOf (l ++ [x]) s=if fsame s.filter x.filter then layI (cliOf l s) x.client else cliOf l s:=by
 unfold cliOf
 rw [List.foldl_append]
 rfl
theorem fstsG_mem (l:List Sub):∀ (r:List Sub) (i:Nat),l.drop i=r→∀ s,s∈fstsG l i r↔∃ k,i≤k∧l[k]?=some s∧fstOf l k s=true
 | [],i,h,s=>by
  simp only [fstsG,List.not_mem_nil,false_iff,not_exists,not_and]
  intro k h1 h2
  have:=List.drop_eq_nil_iff.1 h
  have:=(List.getElem?_eq_some_iff.1 h2).1
  omega
 | x :: r,i,h,s=>by
  have hx:l[i]?=some x:=by
   have:(l.drop i)[0]?=some x:=by rw [h];rfl
   simpa using this
  have hr:l.drop (i+1)=r:=by
   have:=congrArg List.tail h
   simpa using this
  unfold fstsG
  rw [List.mem_append,fstsG_mem l r (i+1) hr s]
  constructor
  ·rintro (h1 | ⟨k,h1,h2,h3⟩)
   ·split at h1
    ·rename_i hf
     simp at h1;subst h1
     exact ⟨i,Nat.le_refl _,hx,hf⟩
    ·simp at h1
   ·exact ⟨k,by omega,h2,h3⟩
  ·rintro ⟨k,h1,h2,h3⟩
   by_cases hk:k=i
   ·subst hk
    rw [hx] at h2;cases h2
    rw [if_pos h3];exact .inl (by simp)
   ·exact .inr ⟨k,by omega,h2,h3⟩
theorem snoc_cases:∀ (l:List Sub),l=[]∨∃ q x,l=q ++ [x]
 | []=>.inl rfl
 | s :: r=>by
  rcases snoc_cases r with rfl | ⟨q,x,rfl⟩
  ·exact .inr ⟨[],s,rfl⟩
  ·exact .inr ⟨s :: q,x,rfl⟩
theorem fsts_apart:∀ (n:Nat)(l:List Sub),l.length=n→(fsts l).Pairwise fun a b=>fsame a.filter b.filter=false
 | 0,l,h=>by
  obtain rfl:=List.length_eq_zero_iff.1 h
  exact List.Pairwise.nil
 | n+1,l,h=>by
  rcases snoc_cases l with rfl | ⟨l,x,rfl⟩
  ·exact List.Pairwise.nil
  rw [zla,List.length_singleton] at h
  have ih:=fsts_apart n l (by omega)
  rw [fsts_snoc,List.pairwise_append]
  refine ⟨ih,?_,?_⟩
  ·split <;> simp
  ·intro a ha b hb
   split at hb
   ·rename_i hf
    simp at hb;subst hb
    obtain ⟨k,_,h1,_⟩:=(fstsG_mem l l 0 rfl a).1 ha
    have:=fstOf_iff.1 hf k a (List.getElem?_eq_some_iff.1 h1).1 h1
    cases hh:fsame a.filter b.filter with
    | false=>rfl
    | true=>rw [fsame_symm hh] at this;cases this
   ·simp at hb
theorem grpStep_cons {x:Grp} {r:List Grp} {s:Sub} (h:fsame x.filter s.filter=false):grpStep (x :: r) s=x :: grpStep r s:=by
 have ha:atG s.filter (x :: r)=atG s.filter r+1:=by
  show (if fsame x.filter s.filter then 0 else atG s.filter r+1)=_
  rw [h];rfl
 unfold grpStep
 rw [ha,List.getElem?_cons_succ]
 cases r[atG s.filter r]? with
 | none=>rfl
 | some y=>rfl
theorem grpStep_hit {x:Grp} {r:List Grp} {s:Sub} (h:fsame x.filter s.filter=true):grpStep (x :: r) s=⟨x.filter,layI x.clients s.client⟩ :: r:=by
 have ha:atG s.filter (x :: r)=0:=by
  show (if fsame x.filter s.filter then 0 else atG s.filter r+1)=_
  rw [h];rfl
 unfold grpStep
 rw [ha];rfl
theorem step_map (F:Sub→Grp)(x:Sub):∀ (L:List Sub),(∀ s,(F s).filter=s.filter)→(L.Pairwise fun a b=>fsame a.filter b.filter=false) →
  grpStep (L.map F) x=L.map (fun s=>if fsame s.filter x.filter then ⟨s.filter,layI (F s).clients x.client⟩ else F s) ++ (if L.any (fun s=>fsame s.filter x.filter) then [] else [⟨x.filter,layI [] x.client⟩])
 | [],_,_=>rfl
 | s :: r,hF,hp=>by
  rw [List.pairwise_cons] at hp
  rw [List.map_cons,List.map_cons,List.any_cons]
  cases hs:fsame s.filter x.filter with
  | true =>
   rw [grpStep_hit (by rw [hF];exact hs),hF]
   simp only [Bool.true_or,if_true,List.append_nil]
   congr 1
   refine (List.map_congr_left fun t ht=>?_).symm
   have h1:=hp.1 t ht
   rw [if_neg]
   intro h2
   rw [fsame_trans hs (fsame_symm h2)] at h1;cases h1
  | false =>
   rw [grpStep_cons (by rw [hF];exact hs),step_map F x r hF hp.2]
   simp
theorem grp_snoc (l:List Sub)(x:Sub):grpStep (gof l) x=gof (l ++ [x]):=by
 rw [gof_map,gof_map,step_map _ x (fsts l) (fun _=>rfl) (fsts_apart _ l rfl),fsts_snoc,List.map_append]
 have h1:(fsts l).map (fun s=>if fsame s.filter x.filter then (⟨s.filter,layI (cliOf l s) x.client⟩:Grp) else ⟨s.filter,cliOf l s⟩)=(fsts l).map fun s=>⟨s.filter,cliOf (l ++ [x]) s⟩:=by
  refine List.map_congr_left fun s _=>?_
  rw [cliOf_snoc]
  split <;> rfl
 rw [h1]
 congr 1
 cases ha:(fsts l).any fun s=>fsame s.filter x.filter with
 | true =>
  have hf:fstOf l l.length x=false:=by
   cases hf:fstOf l l.length x with
   | false=>rfl
   | true =>
    obtain ⟨s,hs,h2⟩:=List.any_eq_true.1 ha
    obtain ⟨k,_,h3,_⟩:=(fstsG_mem l l 0 rfl s).1 hs
    have:=fstOf_iff.1 hf k s (List.getElem?_eq_some_iff.1 h3).1 h3
    rw [fsame_symm h2] at this;cases this
  rw [hf];rfl
 | false =>
  have hno:∀ t∈l,fsame x.filter t.filter=false:=fun t ht=>by
   cases hh:fsame x.filter t.filter with
   | false=>rfl
   | true =>
    obtain ⟨k,s,h1,h2,h3⟩:=first_of ht
    have hs:s∈fsts l:=(fstsG_mem l l 0 rfl s).2 ⟨k,Nat.zero_le _,h1,h2⟩
    have:(fsts l).any (fun s=>fsame s.filter x.filter)=true:=List.any_eq_true.2 ⟨s,hs,fsame_trans h3 (fsame_symm hh)⟩
    rw [ha] at this;cases this
  have hf:fstOf l l.length x=true:=fstOf_iff.2 fun k t _ h=>hno t (zmg h)
  have hc:cliOf l x=[]:=by
   rw [List.eq_nil_iff_forall_not_mem]
   intro c hc
   obtain ⟨t,ht,h2,_⟩:=cliOf_mem.1 hc
   rw [hno t ht] at h2;cases h2
  rw [hf]
  simp only [Bool.false_eq_true,if_false,if_true,List.map_cons,List.map_nil]
  rw [cliOf_snoc,fsame_rfl,if_pos rfl,hc]
end Go.Ab
namespace Go.Ab
open Go
def rowGS (st:St)(out:List Grp):St:=if out=[] then st else nw st (out.length - 1) (out.flatMap Grp.cells)
def rowGE (st:St)(out:List Grp):E:=if out=[] then .own 0 [] else .val (.sref false 2 (st.objs.length+(out.length - 1)) 0 out.length)
theorem rowGS_ne {st:St} {out:List Grp} (h:out≠[]):rowGS st out=nw st (out.length - 1) (out.flatMap Grp.cells):=by unfold rowGS;rw [if_neg h]
theorem rowGE_ne {st:St} {out:List Grp} (h:out≠[]):rowGE st out=.val (.sref false 2 (st.objs.length+(out.length - 1)) 0 out.length):=by unfold rowGE;rw [if_neg h]
theorem nw_obj' (st:St)(m:Nat)(cs:List V):St.obj (nw st m cs) (st.objs.length+m)=some cs:=gr_obj st m cs
theorem gcells_len (x:Grp):(Grp.cells x).length=2:=rfl
theorem grow_len (l:List Grp):(l.flatMap Grp.cells).length=l.length*2:=row_len Grp.cells 2 gcells_len l
theorem grow_one (l:List Grp):(l.flatMap Grp.cells).all V.one=true:=row_one Grp.cells (fun _=>rfl) l
theorem grow_strip (l:List Grp):(l.flatMap Grp.cells).map V.strip1=l.flatMap Grp.cells:=row_strip Grp.cells Grp.cells (fun _=>rfl) l
theorem grow_get0 {l:List Grp} {i:Nat} {x:Grp} (h:l[i]?=some x):(l.flatMap Grp.cells)[i*2]?=some (.slice (encPreds x.filter)):=row_get Grp.cells 2 gcells_len (j:=0) h (by omega)
theorem grow_get1 {l:List Grp} {i:Nat} {x:Grp} (h:l[i]?=some x):(l.flatMap Grp.cells)[i*2+1]?=some (.slice (intVs x.clients)):=row_get Grp.cells 2 gcells_len (j:=1) h (by omega)
theorem grow_splice {l:List Grp} {i:Nat} {x:Grp} (h:l[i]?=some x)(cs:List Int):splice (l.flatMap Grp.cells) (i*2+1) [.slice (intVs cs)]=some ((l.set i ⟨x.filter,cs⟩).flatMap Grp.cells) :=
 row_splice Grp.cells 2 gcells_len h rfl
theorem grow_frz {st:St} (hst:st.wp≤st.objs.length) {l:List Grp} (hl:l≠[])(m:Nat):frz 6 (nw st m (l.flatMap Grp.cells)) (.sref false 2 (st.objs.length+m) 0 l.length)=some (.slice (encGrps l),dd st (m+1)):=by
 rw [frz_row 5 (st.objs.length+m) 2 (by omega) Grp.cells Grp.cells gcells_len gcells_len (fun _=>rfl) (fun _=>rfl) (fun x=>by simp [flats,V.flat]) l hl (nw_obj' st m _) (nw_kill hst m _)]
 rw [show Nat.blt 1 2=true from rfl,chunk_enc Grp.cells 2 (by omega) gcells_len l]
 rfl
theorem grow_snoc (l:List Grp)(f:List Pred):l.flatMap Grp.cells ++ [.slice (encPreds f),.slice []]=(l ++ [(⟨f,[]⟩:Grp)]).flatMap Grp.cells:=by simp [Grp.cells,intVs]
def atR (f:List Pred):Nat→List Grp→Int→Int
 | _,[],at1=>at1
 | q,x :: r,at1=>atR f (q+1) r (if at1<0∧fsame x.filter f=true then (q:Int) else at1)
theorem atR_keep (f:List Pred):∀ (r:List Grp) (q:Nat) (a:Int),0≤a→atR f q r a=a
 | [],_,_,_=>rfl
 | x :: r,q,a,h=>by
  unfold atR
  rw [if_neg (by omega)]
  exact atR_keep f r (q+1) a h
theorem atG_le (f:List Pred):∀ (r:List Grp),atG f r≤r.length
 | []=>Nat.le_refl _
 | x :: r=>by
  have:=atG_le f r
  unfold atG
  split
  ·omega
  ·simp only [List.length_cons];omega
theorem atR_eq (f:List Pred):∀ (r:List Grp) (q:Nat),atR f q r (-1)=if atG f r<r.length then ((q+atG f r:Nat):Int) else -1
 | [],q=>by simp [atR]
 | x :: r,q=>by
  unfold atR
  rw [show atG f (x :: r)=if fsame x.filter f then 0 else atG f r+1 from rfl]
  cases h:fsame x.filter f with
  | true =>
   rw [if_pos ⟨by omega,rfl⟩,atR_keep f r (q+1) q (by omega)]
   simp
  | false =>
   rw [if_neg (by simp),atR_eq f r (q+1)]
   simp only [Bool.false_eq_true,if_false,List.length_cons]
   by_cases hl:atG f r<r.length
   ·rw [if_pos hl,if_pos (by omega)];omega
   ·rw [if_neg hl,if_neg (by omega)]
end Go.Ab
namespace Go.Proofs.Ytdoobejjedpcgaa
open Go Go.Ab
noncomputable section
variable (fr:Fr)(st:St)(k:Kt)
def fi13:FI:={body:=codeOf Try.f13,ntmps:=64,results:=[.tmp 2],pers:=[0,2,3,4,5,6],locals:=[],pure:=false,marks:=[47,1000000]}
theorem H13:fi13.marks=[47,1000000]∧fi13.locals=[]∧fi13.results=[.tmp 2]:=⟨rfl,rfl,rfl⟩
theorem fi55_eq:gS.fn 13=some fi13:=by kernel_rfl
theorem st13 (a0:V):startFr fi13 [a0]={ps:=[(0,.val a0),(2,.any),(3,.any),(4,.any),(5,.any),(6,.any)],ts:=[],lc:=[]}:=rfl
def b13:Code:=mini (codeOf Try.f13)
def c13_12:Code:=.cond (.tmp 10) .skip (.exit 0)
def c13_10:Code:=.seq (codeN b13 267) c13_12
def c13_27:Code:=.cond (.tmp 16) .skip (.exit 2)
def c13_25:Code:=.seq (codeN b13 68171) c13_27
def r13_33:Array Oper:=regOps (codeN (codeOf Try.f13) 281163)
def c13_33:Code:=.region 9 r13_33 true
def q13_33:List (Oper × Fl):=[(mv 19 5 3,qz1),
 (qB 20 .lss 3 19 0 3 4,qz1),
 (mv 21 20 4,qz1),
 (qm 22 3 34 2 true,qz0),
 (qm 23 6 3 2 true,qz0),
 (qi 24 34 22 23 0 2 true,qz0),
 (qf 25 40 24 0 0 2 true,qz0),
 (ql 26 29 25 29 2 true,qz0),
 (qm 27 0 26 2 true,qz0),
 (qm 28 4 3 2 true,qz0),
 (qi 29 26 27 28 0 2 true,qz3),
 (qf 30 31 29 3 0 2 true,qz3),
 (ql 31 29 30 29 2 true,qz3),
 (mk (some 32) (.call {callee:=(.value (.func 15)),args:=#[(.tmp 26),(.tmp 31)],argTypes:=#[29,29]}) 4 (some (2,true)),qz4),
 (qP 33 21 32 false 4,qz3)]
def c13_35:Code:=codeN b13 674379
def c13_34:Code:=.cond (.tmp 33) c13_35 .skip
def c13_32:Code:=.seq c13_33 c13_34
def c13_37:Code:=codeN b13 117323
def c13_30:Code:=.seq (.block 3 c13_32) c13_37
def c13_24:Code:=.seq c13_25 c13_30
def c13_23:Code:=.loop c13_24
def c13_22:Code:=.block 2 c13_23
def c13_20:Code:=.seq (codeN b13 4683) c13_22
def c13_44:Code:=codeN b13 54859
def c13_42:Code:=.seq (codeN b13 38475) c13_44
def c13_41:Code:=.cond (.tmp 36) c13_42 .skip
def c13_39:Code:=.seq (codeN b13 9803) c13_41
def r13_46:Array Oper:=regOps (codeN (codeOf Try.f13) 7755)
def c13_46:Code:=.region 14 r13_46 true
def q13_46:List (Oper × Fl):=[(mv 48 3 34,qz0),
 (mv 49 5 3,qz0),
 (mv 50 3 34,qz0),
 (mv 51 5 3,qz0),
 (ixa 52 34 50 51 0,qz0),
 (qF 53 40 52 1 0,qz0),
 (ld 54 22 53 22,qz0),
 (mv 55 0 26,qz0),
 (mv 56 4 3,qz3),
 (ixa 57 26 55 56 0,qz3),
 (qF 58 31 57 0 0,qz3),
 (ld 59 3 58 3,qz3),
 (cal 60 52 [(.tmp 54),(.tmp 59)] [22,3] 22,qz4),
 (ixa 61 34 48 49 0,qz1),
 (qF 62 40 61 1 0,qz1),
 (sto 22 62 60,qz6)]
theorem e13_46:evK gS fi13 c13_46 fr st k=drwR gS fi13 r13_46 q13_46 fr st k:=evK_dr 14 rfl (by kernel_rfl) (by kernel_rfl)
def c13_38:Code:=.seq c13_39 c13_46
theorem e13_38:evK gS fi13 c13_38 fr st k=evK gS fi13 c13_39 fr st (.seq c13_46 k):=rfl
def c13_19:Code:=.seq c13_20 c13_38
def c13_17:Code:=.seq (codeN b13 1099) c13_19
def c13_47:Code:=codeN b13 459
def c13_15:Code:=.seq (.block 1 c13_17) c13_47
def c13_9:Code:=.seq c13_10 c13_15
def c13_8:Code:=.loop c13_9
def c13_7:Code:=.block 0 c13_8
def c13_5:Code:=.seq (codeN b13 19) c13_7
def c13_48:Code:=.seq (codeN b13 23) .ret
def c13_4:Code:=.seq c13_5 c13_48
def c13_2:Code:=.seq (codeN b13 5) c13_4
def c13_0:Code:=.seq (codeN b13 2) c13_2
theorem E13:evK gS fi13 c13_12 fr st k=condK gS fi13 (fr.op (.tmp 10)).bool? .skip (.exit 0) fr st k ∧
 (evK gS fi13 c13_10 fr st k=opsR gS fi13 [mv 7 4 3,
 mv 8 0 26,
 len1 9 8 26 3,
 bop 10 .lss 3 7 9 3 4] fr st (.seq c13_12 k)) ∧
 evK gS fi13 c13_27 fr st k=condK gS fi13 (fr.op (.tmp 16)).bool? .skip (.exit 2) fr st k ∧
 (evK gS fi13 c13_25 fr st k=opsR gS fi13 [mv 13 6 3,
 mv 14 3 34,
 len1 15 14 34 3,
 bop 16 .lss 3 13 15 3 4] fr st (.seq c13_27 k)) ∧
 evK gS fi13 c13_33 fr st k=drwR gS fi13 r13_33 q13_33 fr st k ∧
 (evK gS fi13 c13_35 fr st k=opsR gS fi13 [mv 34 6 3,
 asn 5 34 3] fr st k) ∧
 evK gS fi13 c13_34 fr st k=condK gS fi13 (fr.op (.tmp 33)).bool? c13_35 .skip fr st k ∧
 evK gS fi13 c13_32 fr st k=evK gS fi13 c13_33 fr st (.seq c13_34 k) ∧
 (evK gS fi13 c13_37 fr st k=opsR gS fi13 [mv 17 6 3,
 qB 18 .add 3 17 1 3 3,
 asn 6 18 3] fr st k) ∧
 evK gS fi13 c13_30 fr st k=evK gS fi13 c13_32 fr st (.blk 3 (.seq c13_37 k)) ∧
 evK gS fi13 c13_24 fr st k=evK gS fi13 c13_25 fr st (.seq c13_30 k) ∧
 evK gS fi13 c13_22 fr st k=evK gS fi13 c13_23 fr st (.blk 2 k) ∧
 evK gS fi13 c13_20 fr st k=opsR gS fi13 [qI 6 0 3] fr st (.seq c13_22 k) ∧
 (evK gS fi13 c13_44 fr st k=opsR gS fi13 [mv 39 3 34,
 mv 40 0 26,
 mv 41 4 3,
 ixa 42 26 40 41 0,
 qF 43 31 42 3 0,
 ld 44 29 43 29,
 op1 45 (.build 40 #[(0,(.tmp 44))]) 40,
 qS 46 34 45 34,
 qE 47 39 46 34 34,
 asn 3 47 34] fr st k) ∧
 (evK gS fi13 c13_42 fr st k=opsR gS fi13 [mv 37 3 34,
 len1 38 37 34 3,
 asn 5 38 3] fr st (.seq c13_44 k)) ∧
 evK gS fi13 c13_41 fr st k=condK gS fi13 (fr.op (.tmp 36)).bool? c13_42 .skip fr st k ∧
 (evK gS fi13 c13_39 fr st k=opsR gS fi13 [mv 35 5 3,
 qB 36 .lss 3 35 0 3 4] fr st (.seq c13_41 k)) ∧
 evK gS fi13 c13_19 fr st k=evK gS fi13 c13_20 fr st (.seq c13_38 k) ∧
 evK gS fi13 c13_17 fr st k=opsR gS fi13 [qI 5 (-1) 3] fr st (.seq c13_19 k) ∧
 (evK gS fi13 c13_47 fr st k=opsR gS fi13 [mv 11 4 3,
 qB 12 .add 3 11 1 3 3,
 asn 4 12 3] fr st k) ∧
 evK gS fi13 c13_15 fr st k=evK gS fi13 c13_17 fr st (.blk 1 (.seq c13_47 k)) ∧
 evK gS fi13 c13_9 fr st k=evK gS fi13 c13_10 fr st (.seq c13_15 k) ∧
 evK gS fi13 c13_7 fr st k=evK gS fi13 c13_8 fr st (.blk 0 k) ∧
 evK gS fi13 c13_5 fr st k=opsR gS fi13 [qI 4 0 3] fr st (.seq c13_7 k) ∧
 (evK gS fi13 c13_48 fr st k=opsR gS fi13 [mv 63 3 34,
 asn 2 63 34] fr st (.seq .ret k)) ∧
 evK gS fi13 c13_4 fr st k=evK gS fi13 c13_5 fr st (.seq c13_48 k) ∧
 evK gS fi13 c13_2 fr st k=opsR gS fi13 [qN 3 34] fr st (.seq c13_4 k) ∧
 evK gS fi13 c13_0 fr st k=opsR gS fi13 [qN 2 34] fr st (.seq c13_2 k):=⟨rfl,evK_rs 3 rfl (by kernel_rfl),rfl,evK_rs 7 rfl (by kernel_rfl),evK_dr 9 rfl (by kernel_rfl) (by kernel_rfl),evK_r 10 (by kernel_rfl),rfl,rfl,evK_r 8 (by kernel_rfl),rfl,rfl,rfl,evK_rs 6 rfl (by kernel_rfl),evK_r 13 (by kernel_rfl),evK_rs 12 rfl (by kernel_rfl),rfl,evK_rs 11 rfl (by kernel_rfl),rfl,evK_rs 5 rfl (by kernel_rfl),evK_r 4 (by kernel_rfl),rfl,rfl,rfl,evK_rs 2 rfl (by kernel_rfl),evK_rs 15 rfl (by kernel_rfl),rfl,evK_rs 1 rfl (by kernel_rfl),evK_rs 0 rfl (by kernel_rfl)⟩
theorem m13:mini fi13.body=c13_0:=by kernel_rfl
theorem n13_23 (fr:Fr)(st:St)(k:Kt):nextK gS fi13 (.loop c13_24 k) .normal fr st=evK gS fi13 c13_23 fr st k:=rfl
theorem n13_8 (fr:Fr)(st:St)(k:Kt):nextK gS fi13 (.loop c13_9 k) .normal fr st=evK gS fi13 c13_8 fr st k:=rfl
theorem rowGE_nil (st:St):rowGE st []=.own 0 []:=rfl
theorem rowGS_nil (st:St):rowGS st []=st:=rfl
theorem LG55 (l:List Sub)(hl1:∀ x∈l,POk x.filter)(hl2:l.length≤1000)(i:Nat)(s:Sub)(hs:l[i]?=some s)(out:List Grp)(ho:∀ x∈out,POk x.filter)(hol:out.length≤1000)(id:Nat)(S:St)(hob:St.obj S id=some (out.flatMap Grp.cells))(R:Out × St)  (fin:Int)
  (H:∀  (T:List (Nat × E)) (X:List (Nat × List V)),evK gS fi13 c13_38 {ps:=[(0,.val (.slice (encSubs l))),(2,.own 0 []),(3,.val (.sref false 2 id 0 out.length)),(4,.val (.int .i64 (i:Nat))),(5,.val (.int .i64 fin)),(6,.val (.int .i64 out.length))],ts:=T,lc:=X} S (.blk 1 (.seq c13_47 (.loop c13_9 (.blk 0 (.seq c13_48 .nil)))))=some R) :
  ∀ (m q:Nat) (a:Int)  (T:List (Nat × E)) (X:List (Nat × List V)) ,q≤out.length→out.length - q=m→fin=atR s.filter q (out.drop q) a →
  evK gS fi13 c13_23 {ps:=[(0,.val (.slice (encSubs l))),(2,.own 0 []),(3,.val (.sref false 2 id 0 out.length)),(4,.val (.int .i64 (i:Nat))),(5,.val (.int .i64 a)),(6,.val (.int .i64 (q:Nat)))],ts:=T,lc:=X} S (.blk 2 (.seq c13_38 (.blk 1 (.seq c13_47 (.loop c13_9 (.blk 0 (.seq c13_48 .nil)))))))=some R:=by
 intro m
 induction m with
 | zero =>
  intro q a  T X  hq hm2 hf
  obtain rfl:q=out.length:=by omega
  rw [List.drop_length] at hf
  have hf2:fin=a:=hf
  subst hf2
  refine evK_loop c13_24 _ _ _ _ rfl ?_
  simp (config:={implicitDefEqProofs:=false}) [-zia,-St.obj,-St.set,-zil,-zit,-znl,-znt,ty3,ty4,ty22,ty26,ty29,ty31,ty34,ty40,H13,x15,fi42_eq,p15,x52,fi96_eq,p52,E13,q13_33,e13_46,q13_46,n13_23,n13_8]
  exact H  _ _
 | succ m ih =>
  intro q a  T X  hq hm2 hf
  obtain ⟨x,hx⟩  := qgx (l:=out) (i:=q) (by omega)
  have hlt:(q:Int)<(out.length:Int):=by omega
  obtain ⟨hlt2,hxe⟩:=List.getElem?_eq_some_iff.1 hx
  have hw  := qws q (by omega)
  rw [drop_get hx,show atR s.filter q (x :: out.drop (q+1)) a=atR s.filter (q+1) (out.drop (q+1)) (if a<0∧fsame x.filter s.filter=true then (q:Int) else a) from rfl] at hf
  have hc0:=grow_get0 hx
  have hil:(i:Int)<(l.length:Int):=by have:=(List.getElem?_eq_some_iff.1 hs).1;omega
  obtain ⟨hil2,hse⟩:=List.getElem?_eq_some_iff.1 hs
  have kk:∀ (fr:Fr) (st:St),callStep gS (EvF gS) 15 [.slice (encPreds x.filter),.slice (encPreds s.filter)] fr st=some (.ok (.val (.bool (fsame x.filter s.filter))) fr st):=fun fr st=>k15 _ _ (ho x (zmg hx)) (hl1 s (zmg hs)) fr st
  have IH:=fun T X=>ih (q+1) _ T X (by omega) (by omega) hf
  refine evK_loop c13_24 _ _ _ _ rfl ?_
  by_cases ha:a<0
  ·cases hq:fsame x.filter s.filter with
   | true =>
    rw [hq] at kk IH
    rw [if_pos ⟨ha,rfl⟩] at IH
    simp (config:={implicitDefEqProofs:=false}) [-zia,-St.obj,-St.set,hx,hxe,hlt,hlt2,hw,hob,hc0,hs,hil,hil2,hse,ha,kk,IH,-zil,-zit,-znl,-znt,ty3,ty4,ty22,ty26,ty29,ty31,ty34,ty40,H13,x15,fi42_eq,p15,x52,fi96_eq,p52,E13,q13_33,e13_46,q13_46,e13_38,n13_23,n13_8]
   | false =>
    rw [hq] at kk IH
    rw [if_neg (by simp)] at IH
    simp (config:={implicitDefEqProofs:=false}) [-zia,-St.obj,-St.set,hx,hxe,hlt,hlt2,hw,hob,hc0,hs,hil,hil2,hse,ha,kk,IH,-zil,-zit,-znl,-znt,ty3,ty4,ty22,ty26,ty29,ty31,ty34,ty40,H13,x15,fi42_eq,p15,x52,fi96_eq,p52,E13,q13_33,e13_46,q13_46,e13_38,n13_23,n13_8]
  ·rw [if_neg (fun h=>ha h.1)] at IH
   simp (config:={implicitDefEqProofs:=false}) [-zia,-St.obj,-St.set,hx,hxe,hlt,hlt2,hw,ha,IH,-zil,-zit,-znl,-znt,ty3,ty4,ty22,ty26,ty29,ty31,ty34,ty40,H13,x15,fi42_eq,p15,x52,fi96_eq,p52,E13,q13_33,e13_46,q13_46,e13_38,n13_23,n13_8]
theorem L13_46 (l:List Sub)(hl1:∀ x∈l,POk x.filter)(hl2:l.length≤1000)(i:Nat)(s:Sub)(hs:l[i]?=some s)(out:List Grp)(q:Nat)(x:Grp)(hx:out[q]?=some x)(hxr:rising x.clients)(hxl:x.clients.length<100000)(m:Nat)(st:St)(hst:st.wp≤st.objs.length)(R:Out × St)
  (H:∀ (e5 e6:E) (T:List (Nat × E)) (X:List (Nat × List V)),e5.Tame→e6.Tame→evK gS fi13 c13_8 {ps:=[(0,.val (.slice (encSubs l))),(2,.own 0 []),(3,.val (.sref false 2 (st.objs.length+m) 0 out.length)),(4,.val (.int .i64 (i+1:Nat))),(5,e5),(6,e6)],ts:=T,lc:=X} (nw st m ((out.set q ⟨x.filter,layI x.clients s.client⟩).flatMap Grp.cells)) (.blk 0 (.seq c13_48 .nil))=some R) :
  ∀ (e6:E) (T:List (Nat × E)) (X:List (Nat × List V)) (h6:e6.Tame),evK gS fi13 c13_46 {ps:=[(0,.val (.slice (encSubs l))),(2,.own 0 []),(3,.val (.sref false 2 (st.objs.length+m) 0 out.length)),(4,.val (.int .i64 (i:Nat))),(5,.val (.int .i64 (q:Nat))),(6,e6)],ts:=T,lc:=X} (nw st m (out.flatMap Grp.cells)) (.blk 1 (.seq c13_47 (.loop c13_9 (.blk 0 (.seq c13_48 .nil)))))=some R:=by
 intro e6 T X h6
 have hlt:(q:Int)<(out.length:Int):=by have:=(List.getElem?_eq_some_iff.1 hx).1;omega
 obtain ⟨hlt2,hxe⟩:=List.getElem?_eq_some_iff.1 hx
 have hil:(i:Int)<(l.length:Int):=by have:=(List.getElem?_eq_some_iff.1 hs).1;omega
 obtain ⟨hil2,hse⟩:=List.getElem?_eq_some_iff.1 hs
 have hw  := qws i (by omega)
 have hc1:=grow_get1 hx
 have hsp:=grow_splice hx (layI x.clients s.client)
 have hl3:q*2+1+1≤(out.flatMap Grp.cells).length:=by rw [grow_len];omega
 simp [splice,hl3] at hsp
 have ho:=nw_obj st m (out.flatMap Grp.cells)
 have hn:=fun cs=>nw_set hst m (out.flatMap Grp.cells) cs
 have kk:=fun fr st=>k52 x.clients hxl hxr s.client fr st
 have HH:=fun e5 T X h5=>H e5 e6 T X h5 h6
 generalize (out.set q ⟨x.filter,layI x.clients s.client⟩).flatMap Grp.cells=C2 at *
 generalize out.flatMap Grp.cells=C1 at *
 simp (config:={implicitDefEqProofs:=false}) [-zia,-St.obj,-St.set,h6,hx,hxe,hlt,hlt2,hs,hil,hil2,hse,hw,hc1,hl3,hsp,ho,hn,kk,-zil,-zit,-znl,-znt,ty3,ty4,ty22,ty26,ty29,ty31,ty34,ty40,H13,x15,fi42_eq,p15,x52,fi96_eq,p52,E13,q13_33,e13_46,q13_46,e13_38,n13_23,n13_8]
 exact HH _ _ _ (tame_val _)
theorem L13_9 (l:List Sub)(hl1:∀ x∈l,POk x.filter)(hl2:l.length≤1000)(i:Nat)(s:Sub)(hs:l[i]?=some s)(out:List Grp)(ho:∀ x∈out,POk x.filter∧rising x.clients∧x.clients.length<100000)(hol:out.length≤1000)(st:St)(hst:st.wp≤st.objs.length)(R:Out × St)
  (H:∀ (e5 e6:E) (T:List (Nat × E)) (X:List (Nat × List V)),e5.Tame→e6.Tame→evK gS fi13 c13_8 {ps:=[(0,.val (.slice (encSubs l))),(2,.own 0 []),(3,rowGE st (grpStep out s)),(4,.val (.int .i64 (i+1:Nat))),(5,e5),(6,e6)],ts:=T,lc:=X} (rowGS st (grpStep out s)) (.blk 0 (.seq c13_48 .nil))=some R) :
  ∀ (e5 e6:E) (T:List (Nat × E)) (X:List (Nat × List V)) (h5:e5.Tame) (h6:e6.Tame),evK gS fi13 c13_9 {ps:=[(0,.val (.slice (encSubs l))),(2,.own 0 []),(3,rowGE st out),(4,.val (.int .i64 (i:Nat))),(5,e5),(6,e6)],ts:=T,lc:=X} (rowGS st out) (.loop c13_9 (.blk 0 (.seq c13_48 .nil)))=some R:=by
 intro e5 e6 T X h5 h6
 have hil:(i:Int)<(l.length:Int):=by have:=(List.getElem?_eq_some_iff.1 hs).1;omega
 obtain ⟨hil2,hse⟩:=List.getElem?_eq_some_iff.1 hs
 have hrN:rising ([]:List Int):=List.Pairwise.nil
 by_cases hn:out=[]
 ·subst hn
  rw [show grpStep [] s=[⟨s.filter,layI [] s.client⟩] from rfl,rowGS_ne (by simp),rowGE_ne (by simp)] at H
  have TL:=L13_46 l hl1 hl2 i s hs [⟨s.filter,[]⟩] 0 ⟨s.filter,[]⟩ rfl hrN (by simp) 0 st hst R (fun e5 e6 T X h5 h6=>H e5 e6 T X h5 h6)
  rw [rowGE_nil,rowGS_nil]
  have hnr:=fun fr k len cs=>newRef_0 st fr k len cs
  simp only [List.flatMap_cons,List.flatMap_nil,List.append_nil,Grp.cells,show intVs []=[] from rfl,List.length_singleton,Nat.add_zero,show ((0:Nat):Int)=0 from rfl] at TL
  clear H
  simp (config:={implicitDefEqProofs:=false}) [-zia,-St.obj,-St.set,h5,h6,hs,hil,hil2,hse,-zil,-zit,-znl,-znt,ty3,ty4,ty22,ty26,ty29,ty31,ty34,ty40,H13,x15,fi42_eq,p15,x52,fi96_eq,p52,E13,q13_33,e13_46,q13_46,e13_38,n13_23,n13_8]
  refine evK_loop c13_24 _ _ _ _ rfl ?_
  simp (config:={implicitDefEqProofs:=false}) [-zia,-St.obj,-St.set,h5,h6,hs,hil,hil2,hse,hnr,markStep,markAppend,elemsAt,-zil,-zit,-znl,-znt,ty3,ty4,ty22,ty26,ty29,ty31,ty34,ty40,H13,x15,fi42_eq,p15,x52,fi96_eq,p52,E13,q13_33,e13_38,n13_23,n13_8]
  exact TL _ _ _ (tame_val _)
 ·rw [rowGS_ne hn,rowGE_ne hn]
  have hob:=nw_obj st (out.length - 1) (out.flatMap Grp.cells)
  have q0:0<out.length:=List.length_pos_iff.2 hn
  have hat:=atR_eq s.filter out 0
  have hale:=atG_le s.filter out
  have H38:∀ (T:List (Nat × E)) (X:List (Nat × List V)),evK gS fi13 c13_38 {ps:=[(0,.val (.slice (encSubs l))),(2,.own 0 []),(3,.val (.sref false 2 (st.objs.length+(out.length - 1)) 0 out.length)),(4,.val (.int .i64 (i:Nat))),(5,.val (.int .i64 (atR s.filter 0 out (-1)))),(6,.val (.int .i64 out.length))],ts:=T,lc:=X} (nw st (out.length - 1) (out.flatMap Grp.cells)) (.blk 1 (.seq c13_47 (.loop c13_9 (.blk 0 (.seq c13_48 .nil)))))=some R:=by
   intro T X
   by_cases hal:atG s.filter out<out.length
   ·rw [if_pos hal,Nat.zero_add] at hat
    rw [hat]
    obtain ⟨x,hx⟩:∃ x,out[atG s.filter out]?=some x:=⟨_,zge hal⟩
    have hg:grpStep out s=out.set (atG s.filter out) ⟨x.filter,layI x.clients s.client⟩:=by unfold grpStep;rw [hx]
    have hne:out.set (atG s.filter out) ⟨x.filter,layI x.clients s.client⟩≠[]:=by simp [hn]
    rw [hg,rowGS_ne hne,rowGE_ne hne] at H
    simp only [List.length_set] at H
    have hxo:=ho x (zmg hx)
    have TL:=L13_46 l hl1 hl2 i s hs out (atG s.filter out) x hx hxo.2.1 hxo.2.2 (out.length - 1) st hst R (fun e5 e6 T X h5 h6=>H e5 e6 T X h5 h6)
    clear H
    generalize out.flatMap Grp.cells=CC at *
    have hng:¬ ((atG s.filter out:Int)<0):=by omega
    simp (config:={implicitDefEqProofs:=false}) [-zia,-St.obj,-St.set,hng,-zil,-zit,-znl,-znt,ty3,ty4,ty22,ty26,ty29,ty31,ty34,ty40,H13,x15,fi42_eq,p15,x52,fi96_eq,p52,E13,q13_33,e13_38,n13_23,n13_8]
    exact TL _ _ _ (tame_val _)
   ·rw [if_neg hal] at hat
    rw [hat]
    have hnx:out[atG s.filter out]?=none:=List.getElem?_eq_none (by omega)
    have hg:grpStep out s=out ++ [⟨s.filter,layI [] s.client⟩]:=by unfold grpStep;rw [hnx]
    rw [hg,rowGS_ne (by simp),rowGE_ne (by simp)] at H
    simp only [zla,List.length_singleton,Nat.add_sub_cancel] at H
    have hset:(out ++ [(⟨s.filter,[]⟩:Grp)]).set out.length ⟨s.filter,layI [] s.client⟩=out ++ [⟨s.filter,layI [] s.client⟩]:=by simp
    have TL:=L13_46 l hl1 hl2 i s hs (out ++ [⟨s.filter,[]⟩]) out.length ⟨s.filter,[]⟩ (by simp) hrN (by simp) out.length st hst R (by
     intro e5 e6 T X h5 h6
     simp only [hset,zla,List.length_singleton]
     exact H e5 e6 T X h5 h6)
    rw [← grow_snoc] at TL
    simp only [zla,List.length_singleton] at TL
    clear H
    have hk:=nw_kill hst (out.length - 1) (out.flatMap Grp.cells)
    rw [show out.length - 1+1=out.length from by omega] at hk
    have hnr:=fun fr k len cs=>newRef_dd' st fr out.length k len cs
    have q1:=grow_len out
    have q2:=grow_one out
    have q3:=grow_strip out
    have q5:¬ out.length=0:=by omega
    have b1:(out.length+1)*48≤140737488355328:=by omega
    have b2:out.length+1≤140737488355328:=by omega
    generalize out.flatMap Grp.cells=CC at *
    simp (config:={implicitDefEqProofs:=false}) [-zia,-St.obj,-St.set,hs,hil,hil2,hse,hob,hk,hnr,q0,q1,q2,q3,q5,b1,b2,markStep,markAppend,elemsAt,-zil,-zit,-znl,-znt,ty3,ty4,ty22,ty26,ty29,ty31,ty34,ty40,H13,x15,fi42_eq,p15,x52,fi96_eq,p52,E13,q13_33,e13_38,n13_23,n13_8]
    exact TL _ _ _ (tame_val _)
  have LL:=fun T X=>LG55 l hl1 hl2 i s hs out (fun x h=>(ho x h).1) hol _ _ hob R _ H38 out.length 0 (-1) T X (Nat.zero_le _) rfl (by rw [List.drop_zero])
  rw [show ((0:Nat):Int)=0 from rfl] at LL
  clear H H38
  generalize out.flatMap Grp.cells=CC at *
  simp (config:={implicitDefEqProofs:=false}) [-zia,-St.obj,-St.set,h5,h6,hil,hil2,-zil,-zit,-znl,-znt,ty3,ty4,ty22,ty26,ty29,ty31,ty34,ty40,H13,x15,fi42_eq,p15,x52,fi96_eq,p52,E13,q13_33,e13_46,q13_46,e13_38,n13_23,n13_8]
  exact LL _ _
theorem gof_ok {l:List Sub} (hl1:∀ x∈l,POk x.filter) {x:Grp} (hx:x∈gof l):POk x.filter∧rising x.clients∧x.clients.length≤l.length:=by
 obtain ⟨k,s,h1,h2,rfl⟩:=gof_mem.1 hx
 exact ⟨hl1 s (zmg h1),cli_rising s l [] List.Pairwise.nil,cliOf_len l s⟩
theorem L13_8 (l:List Sub)(hl1:∀ x∈l,POk x.filter)(hl2:l.length≤1000)(st:St)(hst:st.wp≤st.objs.length) :
  ∀ (m i:Nat) (e5 e6:E) (T:List (Nat × E)) (X:List (Nat × List V)) (h5:e5.Tame) (h6:e6.Tame),i≤l.length→l.length - i=m →
  evK gS fi13 c13_8 {ps:=[(0,.val (.slice (encSubs l))),(2,.own 0 []),(3,rowGE st (gof (l.take i))),(4,.val (.int .i64 (i:Nat))),(5,e5),(6,e6)],ts:=T,lc:=X} (rowGS st (gof (l.take i))) (.blk 0 (.seq c13_48 .nil))=some (.ret (.slice (encGrps (gof l))) none,dd st (gof l).length):=by
 intro m
 induction m with
 | zero =>
  intro i e5 e6 T X h5 h6 hi hm2
  obtain rfl:i=l.length:=by omega
  rw [List.take_length]
  refine evK_loop c13_9 _ _ _ _ rfl ?_
  by_cases hn:gof l=[]
  ·rw [hn,rowGE_nil,rowGS_nil]
   have hz0:=frz_slice (xs:=intVs []) (flats_ints []) st
   rw [show intVs []=[] from rfl] at hz0
   rw [show encGrps []=[] from rfl,show dd st ([]:List Grp).length=st from by simp [dd]]
   simp (config:={implicitDefEqProofs:=false}) [-St.obj,-St.set,h5,h6,hz0,-zil,-zit,-znl,-znt,ty3,ty4,ty22,ty26,ty29,ty31,ty34,ty40,H13,x15,fi42_eq,p15,x52,fi96_eq,p52,E13,q13_33,e13_46,q13_46,e13_38,n13_23,n13_8]
  ·rw [rowGS_ne hn,rowGE_ne hn]
   have hz:=grow_frz hst hn ((gof l).length - 1)
   have q0:0<(gof l).length:=List.length_pos_iff.2 hn
   rw [show (gof l).length - 1+1=(gof l).length from by omega] at hz
   generalize (gof l).flatMap Grp.cells=CC at *
   simp (config:={implicitDefEqProofs:=false}) [-St.obj,-St.set,h5,h6,hz,-zil,-zit,-znl,-znt,ty3,ty4,ty22,ty26,ty29,ty31,ty34,ty40,H13,x15,fi42_eq,p15,x52,fi96_eq,p52,E13,q13_33,e13_46,q13_46,e13_38,n13_23,n13_8]
 | succ m ih =>
  intro i e5 e6 T X h5 h6 hi hm2
  obtain ⟨s,hs⟩:∃ s,l[i]?=some s:=⟨l[i]'(by omega),zge (by omega)⟩
  have hg:grpStep (gof (l.take i)) s=gof (l.take (i+1)):=by
   rw [grp_snoc,List.take_add_one,hs];rfl
  have hlt:∀ x∈l.take i,POk x.filter:=fun x hx=>hl1 x (List.mem_of_mem_take hx)
  have htl:(l.take i).length≤1000:=by simp;omega
  have hgl:=gof_len (l.take i)
  refine evK_loop c13_9 _ _ _ _ rfl ?_
  refine L13_9 l hl1 hl2 i s hs _ (fun x hx=>?_) (by omega) st hst _ ?_ e5 e6 T X h5 h6
  ·have:=gof_ok hlt hx
   exact ⟨this.1,this.2.1,by omega⟩
  ·rw [hg]
   exact fun e5 e6 T X h5 h6=>ih (i+1) e5 e6 T X h5 h6 (by omega) (by omega)
theorem c13 (l:List Sub)(hl1:∀ x∈l,POk x.filter)(hl2:l.length≤1000)(st:St)(hst:st.wp≤st.objs.length):EvF gS 13 [.slice (encSubs l)] st=some (.ret (.slice (encGrps (gof l))) none,dd st (gof l).length):=by
 refine EvF_start fi55_eq (fun x h=>by cases h) m13 ?_
 rw [st13]
 have LL:=fun e5 e6 T X h5 h6=>L13_8 l hl1 hl2 st hst l.length 0 e5 e6 T X h5 h6 (Nat.zero_le _) rfl
 rw [List.take_zero,show gof []=[] from rfl,rowGE_nil,rowGS_nil,show ((0:Nat):Int)=0 from rfl] at LL
 generalize hR:(Out.ret (V.slice (encGrps (gof l))) none,dd st (gof l).length)=R at LL ⊢
 simp (config:={implicitDefEqProofs:=false}) [-St.obj,-St.set,-zil,-zit,-znl,-znt,ty3,ty4,ty22,ty26,ty29,ty31,ty34,ty40,H13,x15,fi42_eq,p15,x52,fi96_eq,p52,E13,q13_33,e13_46,q13_46,e13_38,n13_23,n13_8]
 exact LL _ _ _ _ tame_any tame_any
theorem k13 (l:List Sub)(hl1:∀ x∈l,POk x.filter)(hl2:l.length≤1000)(fr:Fr)(st:St)(hst:st.wp≤st.objs.length):callStep gS (EvF gS) 13 [.slice (encSubs l)] fr st=some (.ok (.val (.slice (encGrps (gof l)))) (fr.map E.noMem) (dd st (gof l).length)):=by
 unfold callStep
 simp only [show gS.ext 13=none from rfl,fi55_eq,show fi13.pure=false from rfl,Bool.false_eq_true,if_false,c13 l hl1 hl2 st hst]
 rfl
end
end Go.Proofs.Ytdoobejjedpcgaa
namespace Go.Ab
open Go
def rowS (st:St)(m k:Nat)(out:List Sub):St:=if out=[] then dd st (m+k) else dd (nw st m (out.flatMap Sub.cells)) k
def rowE (st:St)(m:Nat)(out:List Sub):E:=if out=[] then .own 0 [] else .val (.sref false 4 (st.objs.length+m) 0 out.length)
theorem rowS_nil (st:St)(m k:Nat):rowS st m k []=dd st (m+k):=rfl
theorem rowE_nil (st:St)(m:Nat):rowE st m []=.own 0 []:=rfl
theorem rowS_ne {st:St} {m k:Nat} {out:List Sub} (h:out≠[]):rowS st m k out=dd (nw st m (out.flatMap Sub.cells)) k:=by unfold rowS;rw [if_neg h]
theorem rowE_ne {st:St} {m:Nat} {out:List Sub} (h:out≠[]):rowE st m out=.val (.sref false 4 (st.objs.length+m) 0 out.length):=by unfold rowE;rw [if_neg h]
theorem dd_rowS (st:St)(m k d:Nat)(out:List Sub):dd (rowS st m k out) d=rowS st m (k+d) out:=by
 unfold rowS
 split
 ·rw [dd_dd,Nat.add_assoc]
 ·rw [dd_dd]
theorem rowS_ok {st:St} {id:Nat} (h:FeedOk st id)(m k:Nat)(out:List Sub):FeedOk (rowS st m k out) id:=by
 unfold rowS
 split
 ·exact h.dd _
 ·exact (h.nw m _).dd k
theorem rowS_new (st:St)(m:Nat)(out:List Sub)(x:Sub):nw st m ((out ++ [x]).flatMap Sub.cells)=rowS st m 0 (out ++ [x]):=by
 rw [rowS_ne (by simp),dd_zero]
def rowOut (st:St)(m:Nat)(out:List Sub):Out:=if out=[] then .ret (.slice []) (some 0) else .ret (.sref false 4 (st.objs.length+m) 0 out.length) none
theorem rowOut_nil (st:St)(m:Nat):rowOut st m []=.ret (.slice []) (some 0):=rfl
theorem rowOut_ne {st:St} {m:Nat} {out:List Sub} (h:out≠[]):rowOut st m out=.ret (.sref false 4 (st.objs.length+m) 0 out.length) none:=by unfold rowOut;rw [if_neg h]
theorem rowE_firm (st:St)(m:Nat)(out:List Sub):(rowE st m out).Firm:=by unfold rowE;split <;> rfl
theorem scells_len (l:List Sub):(l.flatMap Sub.cells).length=l.length*4:=by
 induction l with
 | nil=>rfl
 | cons x r ih=>simp only [List.flatMap_cons,zla,ih,List.length_cons,Sub.cells,List.length_nil];omega
theorem scells_one (l:List Sub):(l.flatMap Sub.cells).all V.one=true:=by
 induction l with
 | nil=>rfl
 | cons x r ih=>rw [List.flatMap_cons,List.all_append,ih];rfl
theorem scells_strip (l:List Sub):(l.flatMap Sub.cells).map V.strip1=l.flatMap Sub.cells:=by
 induction l with
 | nil=>rfl
 | cons x r ih=>rw [List.flatMap_cons,List.map_append,ih];rfl
theorem scells_snoc (l:List Sub)(x:Sub):l.flatMap Sub.cells ++ [.int .i64 x.client,.int .i64 x.broker,.int .i64 x.num,.slice (encPreds x.filter)]=(l ++ [x]).flatMap Sub.cells:=by simp
def subsI2 (l:List Int)(a:Nat)(fs:List (List Pred))(c home:Int):Nat→Int→Nat→Nat→Nat→List Sub→List Sub × Nat × Nat × Nat
 | 0,_,j,m,k,out=>(out,j,m,k)
 | n+1,num,j,m,k,out =>
  subsI2 l a fs c home n (num+1+fd l a j 2) ((filterV l a (j+1)).2.1+1) (m+(k+(filterV l a (j+1)).2.2)+(if out=[] then 0 else 1)) 0
   (out ++ [⟨c,home,num+1+fd l a j 2,if fd l a (filterV l a (j+1)).2.1 6<3 then fs.getD (fd l a (filterV l a (j+1)).2.1 6).toNat [] else (filterV l a (j+1)).1⟩])
theorem subsI2_eq (l:List Int)(a:Nat)(fs:List (List Pred))(c home:Int):∀ (n:Nat) (num:Int) (j m k d:Nat) (out:List Sub),(subsI2 l a fs c home n num j m k out).1=(subsI l a fs c home n num j d out).1∧(subsI2 l a fs c home n num j m k out).2.1=(subsI l a fs c home n num j d out).2.1
 | 0,_,_,_,_,_,_=>⟨rfl,rfl⟩
 | n+1,num,j,m,k,d,out=>by
  simp only [subsI2,subsI]
  exact subsI2_eq l a fs c home n _ _ _ _ _ _
def subsO2 (l:List Int)(a P:Nat)(fs:List (List Pred)):Nat→Int→Nat→Nat→Nat→List Sub→List Sub × Nat × Nat × Nat
 | 0,_,j,m,k,out=>(out,j,m,k)
 | r+1,c,j,m,k,out =>
  let I:=subsI2 l a fs c (fd l a j (P+1)) (fd l a (j+1) 4).toNat 0 (j+2) m k out
  subsO2 l a P fs r (c+1) I.2.1 I.2.2.1 I.2.2.2 I.1
theorem subsO2_eq (l:List Int)(a P:Nat)(fs:List (List Pred)):∀ (r:Nat) (c:Int) (j m k d:Nat) (out:List Sub),(subsO2 l a P fs r c j m k out).1=(subsO l a P fs r c j d out).1∧(subsO2 l a P fs r c j m k out).2.1=(subsO l a P fs r c j d out).2.1
 | 0,_,_,_,_,_,_=>⟨rfl,rfl⟩
 | r+1,c,j,m,k,d,out=>by
  have h:=subsI2_eq l a fs c (fd l a j (P+1)) (fd l a (j+1) 4).toNat 0 (j+2) m k d out
  simp only [subsO2,subsO]
  rw [h.1,h.2]
  exact subsO2_eq l a P fs r _ _ _ _ _ _
def subsW (l:List Int)(a j P:Nat):List Sub × Nat × Nat × Nat :=
 subsO2 l a P (subsF l a j) 6 1 (filterV l a (filterV l a j).2.1).2.1 0 ((filterV l a j).2.2+(filterV l a (filterV l a j).2.1).2.2) []
theorem subsW_eq (l:List Int)(a j P:Nat):(subsW l a j P).1=(subsV l a j P).1∧(subsW l a j P).2.1=(subsV l a j P).2.1:=subsO2_eq l a P _ 6 1 _ _ _ _ []
end Go.Ab
namespace Go.Proofs.Ytdoobejjedpcgaa
open Go Go.Ab
noncomputable section
variable (fr:Fr)(st:St)(k:Kt)
def fi10:FI:={body:=codeOf Try.f10,ntmps:=59,results:=[.tmp 4],pers:=[0,1,4,5,6,7,8,9,10,11,12],locals:=[11],pure:=false,marks:=[57]}
theorem H10:fi10.marks=[57]∧fi10.locals=[11]∧fi10.results=[.tmp 4]:=⟨rfl,rfl,rfl⟩
theorem fi53_eq:gS.fn 10=some fi10:=by kernel_rfl
theorem st10 (a0 a1:V):startFr fi10 [a0,a1]={ps:=[(0,.val a0),(1,.val a1),(4,.any),(5,.any),(6,.any),(7,.any),(8,.any),(9,.any),(10,.any),(11,.any),(12,.any)],ts:=[],lc:=[]}:=rfl
def b10:Code:=mini (codeOf Try.f10)
def c10_14:Code:=.cond (.tmp 19) .skip (.exit 0)
def c10_12:Code:=.seq (codeN b10 535) c10_14
def c10_30:Code:=.cond (.tmp 30) .skip (.exit 2)
def c10_28:Code:=.seq (codeN b10 138391) c10_30
def c10_45:Code:=codeN b10 23895191
def c10_44:Code:=.cond (.tmp 47) c10_45 .skip
def c10_42:Code:=.seq (codeN b10 11312279) c10_44
def c10_40:Code:=.seq (codeN b10 5020823) c10_42
def c10_47:Code:=codeN b10 3972247
def c10_39:Code:=.seq c10_40 c10_47
def c10_37:Code:=.seq (codeN b10 1350807) c10_39
def c10_35:Code:=.seq (codeN b10 564375) c10_37
def c10_48:Code:=codeN b10 236695
def c10_33:Code:=.seq (.block 3 c10_35) c10_48
def c10_27:Code:=.seq c10_28 c10_33
def c10_26:Code:=.loop c10_27
def c10_25:Code:=.block 2 c10_26
def c10_23:Code:=.seq (codeN b10 11415) c10_25
def c10_21:Code:=.seq (codeN b10 5271) c10_23
def c10_19:Code:=.seq (codeN b10 2199) c10_21
def c10_49:Code:=codeN b10 919
theorem e10_49:evK gS fi10 c10_49 fr st k=opsR gS fi10 [mv 20 7 3,
 qB 21 .add 3 20 1 3 3,
 asn 7 21 3] fr st k:=evK_r 5 (by kernel_rfl)
def c10_17:Code:=.seq (.block 1 c10_19) c10_49
def c10_11:Code:=.seq c10_12 c10_17
def c10_10:Code:=.loop c10_11
def c10_9:Code:=.block 0 c10_10
def c10_7:Code:=.seq (codeN b10 39) c10_9
def c10_50:Code:=.seq (codeN b10 47) .ret
def c10_6:Code:=.seq c10_7 c10_50
def c10_4:Code:=.seq (codeN b10 11) c10_6
def c10_2:Code:=.seq (codeN b10 5) c10_4
def c10_0:Code:=.seq (codeN b10 2) c10_2
theorem E10:evK gS fi10 c10_14 fr st k=condK gS fi10 (fr.op (.tmp 19)).bool? .skip (.exit 0) fr st k ∧
 (evK gS fi10 c10_12 fr st k=opsR gS fi10 [mv 18 7 3,
 qB 19 .leq 3 18 6 3 4] fr st (.seq c10_14 k)) ∧
 evK gS fi10 c10_30 fr st k=condK gS fi10 (fr.op (.tmp 30)).bool? .skip (.exit 2) fr st k ∧
 (evK gS fi10 c10_28 fr st k=opsR gS fi10 [mv 29 10 3,
 qB 30 .gtr 3 29 0 3 4] fr st (.seq c10_30 k)) ∧
 (evK gS fi10 c10_45 fr st k=opsR gS fi10 [mv 48 6 77,
 mv 49 12 3,
 ixa 50 77 48 49 0,
 ld 51 29 50 29,
 cal 52 48 [(.tmp 51)] [29] 29,
 qF 53 31 11 3 0,
 sto 29 53 52] fr st k) ∧
 evK gS fi10 c10_44 fr st k=condK gS fi10 (fr.op (.tmp 47)).bool? c10_45 .skip fr st k ∧
 (evK gS fi10 c10_42 fr st k=opsR gS fi10 [mv 46 12 3,
 qB 47 .lss 3 46 3 3 4] fr st (.seq c10_44 k)) ∧
 (evK gS fi10 c10_40 fr st k=opsR gS fi10 [mv 44 0 23,
 cal 45 11 [(.tmp 44),(.const (.int .i64 6))] [23,3] 3,
 asn 12 45 3] fr st (.seq c10_42 k)) ∧
 (evK gS fi10 c10_47 fr st k=opsR gS fi10 [mv 54 5 26,
 ld 55 31 11 31,
 qS 56 26 55 26,
 qE 57 54 56 26 26,
 asn 5 57 26] fr st k) ∧
 evK gS fi10 c10_39 fr st k=evK gS fi10 c10_40 fr st (.seq c10_47 k) ∧
 (evK gS fi10 c10_37 fr st k=opsR gS fi10 [mv 38 7 3,
 mv 39 8 3,
 mv 40 9 3,
 mv 41 0 23,
 cal 42 40 [(.tmp 41)] [23] 29,
 op1 43 (.build 31 #[(0,(.tmp 38)),(1,(.tmp 39)),(2,(.tmp 40)),(3,(.tmp 42))]) 31,
 op1 11 (.alloc 31) 0,
 sto 31 11 43] fr st (.seq c10_39 k)) ∧
 (evK gS fi10 c10_35 fr st k=opsR gS fi10 [mv 33 9 3,
 qB 34 .add 3 33 1 3 3,
 mv 35 0 23,
 cal 36 11 [(.tmp 35),(.const (.int .i64 2))] [23,3] 3,
 bop 37 .add 3 34 36 3 3,
 asn 9 37 3] fr st (.seq c10_37 k)) ∧
 (evK gS fi10 c10_48 fr st k=opsR gS fi10 [mv 31 10 3,
 qB 32 .sub 3 31 1 3 3,
 asn 10 32 3] fr st k) ∧
 evK gS fi10 c10_33 fr st k=evK gS fi10 c10_35 fr st (.blk 3 (.seq c10_48 k)) ∧
 evK gS fi10 c10_27 fr st k=evK gS fi10 c10_28 fr st (.seq c10_33 k) ∧
 evK gS fi10 c10_25 fr st k=evK gS fi10 c10_26 fr st (.blk 2 k) ∧
 (evK gS fi10 c10_23 fr st k=opsR gS fi10 [mv 27 0 23,
 cal 28 11 [(.tmp 27),(.const (.int .i64 4))] [23,3] 3,
 asn 10 28 3] fr st (.seq c10_25 k)) ∧
 evK gS fi10 c10_21 fr st k=opsR gS fi10 [qI 9 0 3] fr st (.seq c10_23 k) ∧
 (evK gS fi10 c10_19 fr st k=opsR gS fi10 [mv 22 0 23,
 mv 23 1 22,
 len1 24 23 22 3,
 qB 25 .add 3 24 1 3 3,
 cal 26 11 [(.tmp 22),(.tmp 25)] [23,3] 3,
 asn 8 26 3] fr st (.seq c10_21 k)) ∧
 evK gS fi10 c10_17 fr st k=evK gS fi10 c10_19 fr st (.blk 1 (.seq c10_49 k)) ∧
 evK gS fi10 c10_11 fr st k=evK gS fi10 c10_12 fr st (.seq c10_17 k) ∧
 evK gS fi10 c10_9 fr st k=evK gS fi10 c10_10 fr st (.blk 0 k) ∧
 evK gS fi10 c10_7 fr st k=opsR gS fi10 [qI 7 1 3] fr st (.seq c10_9 k) ∧
 (evK gS fi10 c10_50 fr st k=opsR gS fi10 [mv 58 5 26,
 asn 4 58 26] fr st (.seq .ret k)) ∧
 evK gS fi10 c10_6 fr st k=evK gS fi10 c10_7 fr st (.seq c10_50 k) ∧
 (evK gS fi10 c10_4 fr st k=opsR gS fi10 [mv 13 0 23,
 cal 14 40 [(.tmp 13)] [23] 29,
 mv 15 0 23,
 cal 16 40 [(.tmp 15)] [23] 29,
 op1 17 (.buildSlice 77 3 #[(0,(.tmp 14)),(1,(.tmp 16)),(2,(.const (.slice none 0 0)))]) 77,
 asn 6 17 77] fr st (.seq c10_6 k)) ∧
 evK gS fi10 c10_2 fr st k=opsR gS fi10 [qN 5 26] fr st (.seq c10_4 k) ∧
 evK gS fi10 c10_0 fr st k=opsR gS fi10 [qN 4 26] fr st (.seq c10_2 k):=⟨rfl,evK_rs 4 rfl (by kernel_rfl),rfl,evK_rs 9 rfl (by kernel_rfl),evK_r 15 (by kernel_rfl),rfl,evK_rs 14 rfl (by kernel_rfl),evK_rs 13 rfl (by kernel_rfl),evK_r 16 (by kernel_rfl),rfl,evK_rs 12 rfl (by kernel_rfl),evK_rs 11 rfl (by kernel_rfl),evK_r 10 (by kernel_rfl),rfl,rfl,rfl,evK_rs 8 rfl (by kernel_rfl),evK_rs 7 rfl (by kernel_rfl),evK_rs 6 rfl (by kernel_rfl),rfl,rfl,rfl,evK_rs 3 rfl (by kernel_rfl),evK_rs 17 rfl (by kernel_rfl),rfl,evK_rs 2 rfl (by kernel_rfl),evK_rs 1 rfl (by kernel_rfl),evK_rs 0 rfl (by kernel_rfl)⟩
theorem m10:mini fi10.body=c10_0:=by kernel_rfl
theorem n10_26 (fr:Fr)(st:St)(k:Kt):nextK gS fi10 (.loop c10_27 k) .normal fr st=evK gS fi10 c10_26 fr st k:=rfl
theorem n10_10 (fr:Fr)(st:St)(k:Kt):nextK gS fi10 (.loop c10_11 k) .normal fr st=evK gS fi10 c10_10 fr st k:=rfl
theorem L10_26 (l:List Int)(a id:Nat)(ha:a<549755813888)(st:St)(h:FeedOk st id)(ps:List Int)(fs:List (List Pred))(hfs:∀ f∈fs,PSm f)(hfl:fs.length=3)(c home:Int)(R:Out × St):∀ (r j m k:Nat) (num:Int) (out:List Sub) (e11 e12:E) (T:List (Nat × E)) (X:List (Nat × List V)) (h11:e11.Tame) (h12:e12.Tame),out.length+r<1000→0≤num→num+2*r<1000000→j+36*r<549755800000 →
  (∀ e9 e11 e12 T X,e9.Tame→e11.Tame→e12.Tame→evK gS fi10 c10_49 {ps:=[(0,.val (.ptr id 0)),(1,.val (.slice (intVs ps))),(4,.own 0 []),(5,(rowE st (subsI2 l a fs c home r num j m k out).2.2.1 (subsI2 l a fs c home r num j m k out).1)),(6,.own 1 (encPredss fs)),(7,.val (.int .i64 c)),(8,.val (.int .i64 home)),(9,e9),(10,.val (.int .i64 0)),(11,e11),(12,e12)],ts:=T,lc:=X} (setF (rowS st (subsI2 l a fs c home r num j m k out).2.2.1 (subsI2 l a fs c home r num j m k out).2.2.2 (subsI2 l a fs c home r num j m k out).1) id l (nA l a (subsI2 l a fs c home r num j m k out).2.1)) (.loop c10_11 (.blk 0 (.seq c10_50 .nil)))=some R) →
  evK gS fi10 c10_26 {ps:=[(0,.val (.ptr id 0)),(1,.val (.slice (intVs ps))),(4,.own 0 []),(5,(rowE st m out)),(6,.own 1 (encPredss fs)),(7,.val (.int .i64 c)),(8,.val (.int .i64 home)),(9,.val (.int .i64 num)),(10,.val (.int .i64 (r:Nat))),(11,e11),(12,e12)],ts:=T,lc:=X} (setF (rowS st m k out) id l (nA l a j)) (.blk 2 (.blk 1 (.seq c10_49 (.loop c10_11 (.blk 0 (.seq c10_50 .nil))))))=some R:=by
 intro r
 induction r with
 | zero =>
  intro j m k num out e11 e12 T X h11 h12 hol hn0 hn1 hj H
  rw [show subsI2 l a fs c home 0 num j m k out=(out,j,m,k) from rfl] at H
  have hE:=rowE_firm st m out
  refine evK_loop c10_27 _ _ _ _ rfl ?_
  generalize rowE st m out=E5 at *
  simp (config:={implicitDefEqProofs:=false}) [-St.obj,-St.set,h11,h12,hE,-zil,-zit,-znl,-znt,ty3,ty4,ty22,ty23,ty26,ty29,ty31,ty77,H10,E10,n10_26,n10_10]
  exact H _ _ _ _ _ (tame_val _) h11 h12
 | succ r ih =>
  intro j m k num out e11 e12 T X h11 h12 hol hn0 hn1 hj H
  have hb2:=fd_bound l a j (n:=2) (by omega)
  have k1:=fun fr=>k11 l a j id 2 fr (rowS st m k out) (rowS_ok h m k out) ha (by omega) (by omega)
  have k2:=fun fr=>k40 l a (j+1) id fr (rowS st m k out) (rowS_ok h m k out) ha (by omega)
  rw [dd_rowS] at k2
  have hfa:=filterV_asks l a (j+1)
  have hff:=filterV_ffv l a (j+1)
  simp only [subsI2] at H
  have k3:=fun fr=>k11 l a (filterV l a (j+1)).2.1 id 6 fr (rowS st m (k+(filterV l a (j+1)).2.2) out) (rowS_ok h m _ out) ha (by omega) (by omega)
  have hb6:=fd_bound l a (filterV l a (j+1)).2.1 (n:=6) (by omega)
  have IH:=fun out' (ho:out'.length=out.length+1) e11 e12 T X h11 h12=>ih ((filterV l a (j+1)).2.1+1) (m+(k+(filterV l a (j+1)).2.2)+(if out=[] then 0 else 1)) 0 (num+1+fd l a j 2) out' e11 e12 T X h11 h12 (by omega) (by omega) (by omega) (by omega)
  generalize filterV l a (j+1)=F at *
  obtain ⟨f,J,D⟩:=F
  simp only at k2 k3 hfa hff hb6 H IH
  have hpf:=psm_ffv hff
  generalize hz:fd l a J 6=z at *
  generalize fd l a j 2=y at *
  have hw1:IntKind.wrap .i64 (num+1)=num+1:=wrap64 (by omega) (by omega)
  have hw2:IntKind.wrap .i64 (num+1+y)=num+1+y:=wrap64 (by omega) (by omega)
  have hw3:IntKind.wrap .i64 (((r+1:Nat):Int) - 1)=(r:Int):=by rw [wrap64 (by omega) (by omega)];omega
  have hpos:(0:Int)<((r+1:Nat):Int):=by omega
  have b1:(out.length+1)*48≤140737488355328:=by omega
  have b2:out.length+1≤140737488355328:=by omega
  refine evK_loop c10_27 _ _ _ _ rfl ?_
  by_cases hz3:z<3
  ·rw [if_pos hz3] at H
   obtain ⟨q,rfl⟩:∃ q:Nat,z=(q:Int):=⟨z.toNat,by omega⟩
   rw [Int.toNat_natCast] at H
   have hq:q<fs.length:=by omega
   have hqi:(q:Int)<(fs.length:Int):=by omega
   obtain ⟨x,hx⟩:∃ x,fs[q]?=some x:=⟨fs[q]'hq,zge hq⟩
   have hxe:fs[q]'hq=x:=(List.getElem?_eq_some_iff.1 hx).2
   have hgd:fs.getD q []=x:=by rw [List.getD_eq_getElem?_getD,hx];rfl
   rw [hgd] at H
   have hpx:=hfs x (zmg hx)
   have k4:=fun fr st=>k48 x hpx fr st
   have XX:=IH (out ++ [⟨c,home,num+1+y,x⟩]) (by simp)
   have IHx:=fun e11 e12 T X h11 h12=>XX e11 e12 T X h11 h12 H
   have hkk:¬ (kof 13 x=0∧¬ encPreds x=[]):=by
    unfold kof;split
    ·rename_i h;rw [h];simp [encPreds]
    ·simp
   generalize kof 13 x=kx at *
   clear XX IH ih H
   have hE:=rowE_firm st m out
   by_cases ho:out=[]
   ·subst ho
    have r3:∀ fr k' len cs,newRef fr (setF (rowS st m (k+D) []) id l (nA l a (J+1))) k' len cs=.ok (.val (.sref false k' (st.objs.length+(m+(k+D))) 0 len)) fr (setF (nw st (m+(k+D)) cs) id l (nA l a (J+1))):=fun fr k' len cs=>newRef_dd h fr (m+(k+D)) k' len cs l (nA l a (J+1))
    rw [if_pos rfl,Nat.add_zero,← rowS_new,rowE_ne (by simp)] at IHx
    rw [rowE_nil]
    simp only [List.nil_append,List.flatMap_cons,List.flatMap_nil,List.append_nil,Sub.cells,List.length_singleton] at IHx
    simp (config:={implicitDefEqProofs:=false}) [-zia,-St.obj,-St.set,h11,h12,k1,k2,k3,k4,hz3,hq,hqi,hx,hxe,hkk,hw1,hw2,hw3,hpos,r3,markStep,markAppend,elemsAt,-zil,-zit,-znl,-znt,ty3,ty4,ty22,ty23,ty26,ty29,ty31,ty77,H10,E10,n10_26,n10_10]
    refine IHx _ _ _ _ ?_ ?_
    all_goals simp [h11,h12]
   ·have r1:St.obj (setF (rowS st m (k+D) out) id l (nA l a (J+1))) (st.objs.length+m)=some (out.flatMap Sub.cells):=by rw [rowS_ne ho];exact obj_mid h m (k+D) _ l _
    have r2:St.set (setF (rowS st m (k+D) out) id l (nA l a (J+1))) (st.objs.length+m) []=some (setF (dd st (m+(k+D)+1)) id l (nA l a (J+1))):=by
     rw [rowS_ne ho,show m+(k+D)+1=m+1+(k+D) from by omega];exact set_mid h m (k+D) _ l _
    have r3:=fun fr k' len cs=>newRef_dd h fr (m+(k+D)+1) k' len cs l (nA l a (J+1))
    rw [if_neg ho,← rowS_new,rowE_ne (by simp),← scells_snoc] at IHx
    simp only [zla,List.length_singleton] at IHx
    rw [rowE_ne ho] at hE ⊢
    have q1:=scells_len out
    have q2:=scells_one out
    have q3:=scells_strip out
    have q0:0<out.length:=List.length_pos_iff.2 ho
    have q5:¬ out.length=0:=by omega
    generalize out.flatMap Sub.cells=CC at *
    simp (config:={implicitDefEqProofs:=false}) [-zia,-St.obj,-St.set,h11,h12,k1,k2,k3,k4,hz3,hq,hqi,hx,hxe,hkk,hw1,hw2,hw3,hpos,ho,r1,r2,r3,q0,q1,q2,q3,q5,b1,b2,markStep,markAppend,elemsAt,-zil,-zit,-znl,-znt,ty3,ty4,ty22,ty23,ty26,ty29,ty31,ty77,H10,E10,n10_26,n10_10]
    refine IHx _ _ _ _ ?_ ?_
    all_goals simp [h11,h12]
  ·rw [if_neg hz3] at H
   have XX:=IH (out ++ [⟨c,home,num+1+y,f⟩]) (by simp)
   have IHx:=fun e11 e12 T X h11 h12=>XX e11 e12 T X h11 h12 H
   clear XX IH ih H
   have hE:=rowE_firm st m out
   by_cases ho:out=[]
   ·subst ho
    have r3:∀ fr k' len cs,newRef fr (setF (rowS st m (k+D) []) id l (nA l a (J+1))) k' len cs=.ok (.val (.sref false k' (st.objs.length+(m+(k+D))) 0 len)) fr (setF (nw st (m+(k+D)) cs) id l (nA l a (J+1))):=fun fr k' len cs=>newRef_dd h fr (m+(k+D)) k' len cs l (nA l a (J+1))
    rw [if_pos rfl,Nat.add_zero,← rowS_new,rowE_ne (by simp)] at IHx
    rw [rowE_nil]
    simp only [List.nil_append,List.flatMap_cons,List.flatMap_nil,List.append_nil,Sub.cells,List.length_singleton] at IHx
    simp (config:={implicitDefEqProofs:=false}) [-zia,-St.obj,-St.set,h11,h12,k1,k2,k3,hz3,hw1,hw2,hw3,hpos,r3,markStep,markAppend,elemsAt,-zil,-zit,-znl,-znt,ty3,ty4,ty22,ty23,ty26,ty29,ty31,ty77,H10,E10,n10_26,n10_10]
    refine IHx _ _ _ _ ?_ ?_
    all_goals simp [h11,h12]
   ·have r1:St.obj (setF (rowS st m (k+D) out) id l (nA l a (J+1))) (st.objs.length+m)=some (out.flatMap Sub.cells):=by rw [rowS_ne ho];exact obj_mid h m (k+D) _ l _
    have r2:St.set (setF (rowS st m (k+D) out) id l (nA l a (J+1))) (st.objs.length+m) []=some (setF (dd st (m+(k+D)+1)) id l (nA l a (J+1))):=by
     rw [rowS_ne ho,show m+(k+D)+1=m+1+(k+D) from by omega];exact set_mid h m (k+D) _ l _
    have r3:=fun fr k' len cs=>newRef_dd h fr (m+(k+D)+1) k' len cs l (nA l a (J+1))
    rw [if_neg ho,← rowS_new,rowE_ne (by simp),← scells_snoc] at IHx
    simp only [zla,List.length_singleton] at IHx
    rw [rowE_ne ho] at hE ⊢
    have q1:=scells_len out
    have q2:=scells_one out
    have q3:=scells_strip out
    have q0:0<out.length:=List.length_pos_iff.2 ho
    have q5:¬ out.length=0:=by omega
    generalize out.flatMap Sub.cells=CC at *
    simp (config:={implicitDefEqProofs:=false}) [-zia,-St.obj,-St.set,h11,h12,k1,k2,k3,hz3,hw1,hw2,hw3,hpos,ho,r1,r2,r3,q0,q1,q2,q3,q5,b1,b2,markStep,markAppend,elemsAt,-zil,-zit,-znl,-znt,ty3,ty4,ty22,ty23,ty26,ty29,ty31,ty77,H10,E10,n10_26,n10_10]
    refine IHx _ _ _ _ ?_ ?_
    all_goals simp [h11,h12]
theorem L10_10 (l:List Int)(a id:Nat)(ha:a<549755813888)(st:St)(h:FeedOk st id)(ps:List Int)(fs:List (List Pred))(hfs:∀ f∈fs,PSm f)(hfl:fs.length=3)(hps:ps.length<1000):∀ (r j m k:Nat) (c:Int) (out:List Sub) (e8 e9 e10 e11 e12:E) (T:List (Nat × E)) (X:List (Nat × List V)) (h8:e8.Tame) (h9:e9.Tame) (h10:e10.Tame) (h11:e11.Tame) (h12:e12.Tame),r≤6→c=7 - r→out.length≤3*(6 - r)→j+110*r<549755700000 →
  evK gS fi10 c10_10 {ps:=[(0,.val (.ptr id 0)),(1,.val (.slice (intVs ps))),(4,.own 0 []),(5,(rowE st m out)),(6,.own 1 (encPredss fs)),(7,.val (.int .i64 c)),(8,e8),(9,e9),(10,e10),(11,e11),(12,e12)],ts:=T,lc:=X} (setF (rowS st m k out) id l (nA l a j)) (.blk 0 (.seq c10_50 .nil))=some (rowOut st (subsO2 l a ps.length fs r c j m k out).2.2.1 (subsO2 l a ps.length fs r c j m k out).1,setF (rowS st (subsO2 l a ps.length fs r c j m k out).2.2.1 (subsO2 l a ps.length fs r c j m k out).2.2.2 (subsO2 l a ps.length fs r c j m k out).1) id l (nA l a (subsO2 l a ps.length fs r c j m k out).2.1)):=by
 intro r
 induction r with
 | zero =>
  intro j m k c out e8 e9 e10 e11 e12 T X h8 h9 h10 h11 h12 hr6 hc ho hj
  rw [show subsO2 l a ps.length fs 0 c j m k out=(out,j,m,k) from rfl]
  obtain rfl:c=7:=by omega
  refine evK_loop c10_11 _ _ _ _ rfl ?_
  by_cases hn:out=[]
  ·subst hn
   rw [rowE_nil,rowOut_nil]
   simp (config:={implicitDefEqProofs:=false}) [-St.obj,-St.set,h8,h9,h10,h11,h12,-zil,-zit,-znl,-znt,ty3,ty4,ty22,ty23,ty26,ty29,ty31,ty77,H10,E10,e10_49,n10_26,n10_10]
  ·rw [rowE_ne hn,rowOut_ne hn]
   simp (config:={implicitDefEqProofs:=false}) [-St.obj,-St.set,h8,h9,h10,h11,h12,-zil,-zit,-znl,-znt,ty3,ty4,ty22,ty23,ty26,ty29,ty31,ty77,H10,E10,e10_49,n10_26,n10_10]
 | succ r ih =>
  intro j m k c out e8 e9 e10 e11 e12 T X h8 h9 h10 h11 h12 hr6 hc ho hj
  have k1:=fun fr=>k11 l a j id ((ps.length:Int)+1) fr (rowS st m k out) (rowS_ok h m k out) ha (by omega) (by omega)
  have k2:=fun fr=>k11 l a (j+1) id 4 fr (rowS st m k out) (rowS_ok h m k out) ha (by omega) (by omega)
  have hb:=fd_bound l a (j+1) (n:=4) (by omega)
  simp only [subsO2]
  have hw1:IntKind.wrap .i64 ((ps.length:Int)+1)=(ps.length:Int)+1:=wrap64 (by omega) (by omega)
  have hwc:IntKind.wrap .i64 (c+1)=c+1:=wrap64 (by omega) (by omega)
  have hc6:c≤6:=by omega
  generalize fd l a j (ps.length+1)=home at *
  generalize hz:fd l a (j+1) 4=z at *
  obtain ⟨q,rfl⟩:∃ q:Nat,z=(q:Int):=⟨z.toNat,by omega⟩
  rw [Int.toNat_natCast]
  have hsa:=subsI_asks l a fs c home q 0 (j+2) 0 out
  have hse:=subsI2_eq l a fs c home q 0 (j+2) m k 0 out
  rw [← hse.1,← hse.2] at hsa
  have LI:=fun R e11 e12 T X h11 h12=>L10_26 l a id ha st h ps fs hfs hfl c home R q (j+2) m k 0 out e11 e12 T X h11 h12 (by omega) (by omega) (by omega) (by omega)
  generalize subsI2 l a fs c home q 0 (j+2) m k out=I at *
  obtain ⟨out2,J,M,KK⟩:=I
  simp only at hsa LI ⊢
  have IH:=fun e8 e9 e10 e11 e12 T X h8 h9 h10 h11 h12=>ih J M KK (c+1) out2 e8 e9 e10 e11 e12 T X h8 h9 h10 h11 h12 (by omega) (by omega) (by omega) (by omega)
  generalize hR:(rowOut st (subsO2 l a ps.length fs r (c+1) J M KK out2).2.2.1 (subsO2 l a ps.length fs r (c+1) J M KK out2).1,setF (rowS st (subsO2 l a ps.length fs r (c+1) J M KK out2).2.2.1 (subsO2 l a ps.length fs r (c+1) J M KK out2).2.2.2 (subsO2 l a ps.length fs r (c+1) J M KK out2).1) id l (nA l a (subsO2 l a ps.length fs r (c+1) J M KK out2).2.1))=R at IH ⊢
  have H49:∀ e9 e11 e12 T X,e9.Tame→e11.Tame→e12.Tame→evK gS fi10 c10_49 {ps:=[(0,.val (.ptr id 0)),(1,.val (.slice (intVs ps))),(4,.own 0 []),(5,(rowE st M out2)),(6,.own 1 (encPredss fs)),(7,.val (.int .i64 c)),(8,.val (.int .i64 home)),(9,e9),(10,.val (.int .i64 0)),(11,e11),(12,e12)],ts:=T,lc:=X} (setF (rowS st M KK out2) id l (nA l a J)) (.loop c10_11 (.blk 0 (.seq c10_50 .nil)))=some R:=by
   intro e9 e11 e12 T X h9 h11 h12
   have hE:=rowE_firm st M out2
   generalize rowE st M out2=E5 at *
   simp (config:={implicitDefEqProofs:=false}) [-zia,-St.obj,-St.set,h9,h11,h12,hE,hwc,-zil,-zit,-znl,-znt,ty3,ty4,ty22,ty23,ty26,ty29,ty31,ty77,H10,E10,e10_49,n10_26,n10_10]
   exact IH _ _ _ _ _ _ _ (tame_val _) h9 (tame_val _) h11 h12
  have LL:=fun e11 e12 T X h11 h12=>LI R e11 e12 T X h11 h12 H49
  clear LI H49 IH ih
  have hE:=rowE_firm st m out
  refine evK_loop c10_11 _ _ _ _ rfl ?_
  generalize rowE st m out=E5 at *
  simp (config:={implicitDefEqProofs:=false}) [-zia,-St.obj,-St.set,h8,h9,h10,h11,h12,hE,k1,k2,hw1,hc6,-zil,-zit,-znl,-znt,ty3,ty4,ty22,ty23,ty26,ty29,ty31,ty77,H10,E10,e10_49,n10_26,n10_10]
  exact LL _ _ _ _ h11 h12
theorem c10 (l:List Int)(a j id:Nat)(st:St)(h:FeedOk st id)(ha:a<549755813888)(hj:j<549755600000)(ps:List Int)(hps:ps.length<1000) :
  EvF gS 10 [.ptr id 0,.slice (intVs ps)] (setF st id l (nA l a j))=some (rowOut st (subsW l a j ps.length).2.2.1 (subsW l a j ps.length).1,setF (rowS st (subsW l a j ps.length).2.2.1 (subsW l a j ps.length).2.2.2 (subsW l a j ps.length).1) id l (nA l a (subsW l a j ps.length).2.1)):=by
 refine EvF_start fi53_eq (fun x h=>by cases h) m10 ?_
 rw [st10]
 have k1:=fun fr=>k40 l a j id fr st h ha (by omega)
 have a1:=filterV_asks l a j
 have k2:=fun fr=>k40 l a (filterV l a j).2.1 id fr (dd st (filterV l a j).2.2) (h.dd _) ha (by omega)
 rw [dd_dd] at k2
 have a2:=filterV_asks l a (filterV l a j).2.1
 have q1:=filterV_ffv l a j
 have q2:=filterV_ffv l a (filterV l a j).2.1
 unfold subsW subsF
 generalize filterV l a (filterV l a j).2.1=B at *
 generalize filterV l a j=A at *
 obtain ⟨f1,J1,D1⟩:=A
 obtain ⟨f2,J2,D2⟩:=B
 simp only at k1 k2 a1 a2 q1 q2 ⊢
 have hfs:∀ f∈[f1,f2,[]],PSm f:=fun f hf=>by
  simp at hf
  rcases hf with rfl | rfl | rfl
  ·exact psm_ffv q1
  ·exact psm_ffv q2
  ·exact ⟨by simp,by simp⟩
 have LL:=fun e8 e9 e10 e11 e12 T X h8 h9 h10 h11 h12=>L10_10 l a id ha st h ps [f1,f2,[]] hfs rfl hps 6 J2 0 (D1+D2) 1 [] e8 e9 e10 e11 e12 T X h8 h9 h10 h11 h12 (Nat.le_refl _) rfl (Nat.le_refl _) (by omega)
 rw [rowE_nil,rowS_nil,Nat.zero_add,show encPredss [f1,f2,[]]=[.slice (encPreds f1),.slice (encPreds f2),.slice []] from rfl] at LL
 generalize subsO2 l a ps.length [f1,f2,[]] 6 1 J2 0 (D1+D2) []=O at LL ⊢
 generalize hR:(rowOut st O.2.2.1 O.1,setF (rowS st O.2.2.1 O.2.2.2 O.1) id l (nA l a O.2.1))=R at LL ⊢
 simp (config:={implicitDefEqProofs:=false}) [-St.obj,-St.set,k1,k2,-zil,-zit,-znl,-znt,ty3,ty4,ty22,ty23,ty26,ty29,ty31,ty77,H10,E10,e10_49,n10_26,n10_10]
 exact LL _ _ _ _ _ _ _ tame_any tame_any tame_any tame_any tame_any
theorem k10 (l:List Int)(a j id:Nat)(fr:Fr)(st:St)(h:FeedOk st id)(ha:a<549755813888)(hj:j<549755600000)(ps:List Int)(hps:ps.length<1000) :
  callStep gS (EvF gS) 10 [.ptr id 0,.slice (intVs ps)] fr (setF st id l (nA l a j))=some (.ok (rowE st (subsW l a j ps.length).2.2.1 (subsW l a j ps.length).1) (fr.map E.noMem) (setF (rowS st (subsW l a j ps.length).2.2.1 (subsW l a j ps.length).2.2.2 (subsW l a j ps.length).1) id l (nA l a (subsW l a j ps.length).2.1))):=by
 unfold callStep
 simp only [show gS.ext 10=none from rfl,fi53_eq,show fi10.pure=false from rfl,Bool.false_eq_true,if_false,c10 l a j id st h ha hj ps hps]
 generalize subsW l a j ps.length=O
 by_cases ho:O.1=[]
 ·rw [ho,rowOut_nil,rowE_nil];rfl
 ·rw [rowOut_ne ho,rowE_ne ho];rfl
end
end Go.Proofs.Ytdoobejjedpcgaa
namespace Go.Ab
open Go
theorem new_feed (st:St)(l:List Int):({objs:=st.objs ++ [[V.slice (intVs l),V.int .i64 0]],wp:=st.wp}:St)=setF (nw st 0 []) st.objs.length l (nA l 0 0):=by
 unfold setF nw nA
 simp
theorem feedOk_new {st:St} (h:st.wp≤st.objs.length):FeedOk (nw st 0 []) st.objs.length:=⟨by rw [gr_len];omega,h⟩
theorem wayG_len (t:Atom→Bool):∀ (g:List Atom) (i:Nat) (out:List Int),(wayG t i g out).length=out.length+g.countP t
 | [],i,out=>by simp [wayG]
 | y :: r,i,out=>by
  unfold wayG
  rw [wayG_len t r,List.countP_cons]
  split
  ·rw [zla,List.length_singleton];omega
  ·omega
def atB (p hm:List Int)(g:List Grp)(a:Nat):Nat→Nat→List Atom
 | 0,_=>[]
 | n+1,b=>(if atsOf hm g a b=[] then [] else [⟨a,b,placeT p (atsOf hm g a b)⟩]) ++ atB p hm g a n (b+1)
def atA (p hm:List Int)(g:List Grp):Nat→Nat→List Atom
 | 0,_=>[]
 | n+1,a=>atB p hm g a (g.length - a) a ++ atA p hm g n (a+1)
theorem layA_perm (l:List Atom)(n:Atom):(layA l n).Perm (l ++ [n]):=by
 unfold layA
 have h1:(l.take (posA l n) ++ [n] ++ l.drop (posA l n)).Perm (l.take (posA l n) ++ (l.drop (posA l n) ++ [n])):=by
  rw [zaa]
  exact List.Perm.append_left _ List.perm_append_comm
 rw [← zaa,List.take_append_drop] at h1
 exact h1
theorem ofB_perm (p hm:List Int)(g:List Grp)(a:Nat):∀ (n b:Nat) (out:List Atom),(ofB p hm g a n b out).Perm (out ++ atB p hm g a n b)
 | 0,b,out=>by simp [ofB,atB]
 | n+1,b,out=>by
  have h:=ofB_perm p hm g a n (b+1) (ofStep p hm g a b out)
  show (ofB p hm g a n (b+1) (ofStep p hm g a b out)).Perm _
  refine h.trans ?_
  rw [show atB p hm g a (n+1) b=(if atsOf hm g a b=[] then [] else [⟨a,b,placeT p (atsOf hm g a b)⟩]) ++ atB p hm g a n (b+1) from rfl,← zaa]
  refine List.Perm.append_right _ ?_
  unfold ofStep
  split
  ·simp
  ·exact layA_perm _ _
theorem ofA_perm (p hm:List Int)(g:List Grp):∀ (n a:Nat) (out:List Atom),(ofA p hm g n a out).Perm (out ++ atA p hm g n a)
 | 0,a,out=>by simp [ofA,atA]
 | n+1,a,out=>by
  have h:=ofA_perm p hm g n (a+1) (ofB p hm g a (g.length - a) a out)
  show (ofA p hm g n (a+1) (ofB p hm g a (g.length - a) a out)).Perm _
  refine h.trans ?_
  rw [show atA p hm g (n+1) a=atB p hm g a (g.length - a) a ++ atA p hm g n (a+1) from rfl,← zaa]
  exact List.Perm.append_right _ (ofB_perm p hm g a _ a out)
theorem atB_mem (p hm:List Int)(g:List Grp)(a:Nat):∀ (n b:Nat) (x:Atom),x∈atB p hm g a n b↔∃ k,b≤k∧k<b+n∧atsOf hm g a k≠[]∧x=⟨a,k,placeT p (atsOf hm g a k)⟩
 | 0,b,x=>by simp [atB];intro k;omega
 | n+1,b,x=>by
  unfold atB
  rw [List.mem_append,atB_mem p hm g a n (b+1)]
  constructor
  ·rintro (h | ⟨k,h1,h2,h3⟩)
   ·split at h
    ·simp at h
    ·rename_i hne
     simp only [List.mem_singleton] at h
     exact ⟨b,Nat.le_refl _,by omega,hne,h⟩
   ·exact ⟨k,by omega,by omega,h3⟩
  ·rintro ⟨k,h1,h2,h3,h4⟩
   by_cases hk:k=b
   ·subst hk
    rw [if_neg h3]
    exact .inl (by rw [h4];simp)
   ·exact .inr ⟨k,by omega,by omega,h3,h4⟩
theorem atA_mem (p hm:List Int)(g:List Grp):∀ (n a:Nat) (x:Atom),a+n≤g.length→(x∈atA p hm g n a↔∃ i k,a≤i∧i<a+n∧i≤k∧k<g.length∧atsOf hm g i k≠[]∧x=⟨i,k,placeT p (atsOf hm g i k)⟩)
 | 0,a,x,h=>by simp [atA];intro i k;omega
 | n+1,a,x,h=>by
  unfold atA
  rw [List.mem_append,atB_mem,atA_mem p hm g n (a+1) x (by omega)]
  constructor
  ·rintro (⟨k,h1,h2,h3⟩ | ⟨i,k,h1,h2,h3⟩)
   ·exact ⟨a,k,Nat.le_refl _,by omega,h1,by omega,h3⟩
   ·exact ⟨i,k,by omega,by omega,h3⟩
  ·rintro ⟨i,k,h1,h2,h3,h4,h5⟩
   by_cases hi:i=a
   ·subst hi;exact .inl ⟨k,h3,by omega,h5⟩
   ·exact .inr ⟨i,k,by omega,by omega,h3,h4,h5⟩
def shr (g:List Grp)(a b:Nat):Bool:=!decide (bothI ((g[b]?).getD default).clients ((g[a]?).getD default).clients []=[])
end Go.Ab
namespace Go.Ab
open Go
def rsSt:Option Sub→Int→List Sub→Option Sub × Int
 | o,m,[]=>(o,m)
 | none,m,s :: r=>rsSt (some s) 1 r
 | some t,m,s :: r=>if t.client<s.client then rsSt (some s) 1 r else rsSt (some s) (m+1) r
structure SoFar (P:Nat) (c home num:Int) (k:Nat) (out:List Sub):Prop where
 right:rightS out=true
 bro:∀ s∈out,s.broker≤P
 last:∀ t,(rsSt none 0 out).1=some t→t.client<c∨(t.client=c∧t.broker=home∧t.num≤num∧(rsSt none 0 out).2≤k)
theorem SoFar.next {P:Nat} {c home num:Int} {k:Nat} {out:List Sub} (h:SoFar P c home num k out)(home':Int):SoFar P (c+1) home' 0 0 out :=
 ⟨h.right,h.bro,fun t ht=>.inl (by rcases h.last t ht with h | h <;> omega)⟩
theorem rsG_order:∀ (l:List Sub)(t:Sub)(m:Int),rsG (some t) m l=true→∀ s∈l,t.client≤s.client∧(s.client=t.client→s.broker=t.broker)
 | [],_,_,_,s,hs=>by simp at hs
 | x :: r,t,m,h,s,hs=>by
  simp only [rsG,Bool.and_eq_true] at h
  have h2:=h.2
  by_cases hc:t.client<x.client
  ·rw [if_pos hc] at h2
   rcases List.mem_cons.1 hs with rfl | hs
   ·exact ⟨by omega,fun e=>by omega⟩
   ·have:=rsG_order r x 1 h2 s hs
    exact ⟨by omega,fun e=>by omega⟩
  ·rw [if_neg hc] at h2
   simp only [Bool.and_eq_true,Bool.not_eq_true',Bool.or_eq_false_iff,decide_eq_false_iff_not,Bool.not_eq_false',decide_eq_true_eq] at h2
   obtain ⟨⟨⟨⟨e1,e2⟩,e3⟩,e4⟩,h3⟩:=h2
   rcases List.mem_cons.1 hs with rfl | hs
   ·exact ⟨by omega,fun _=>e3.symm⟩
   ·have:=rsG_order r x (m+1) h3 s hs
    exact ⟨by omega,fun e=>by rw [this.2 (by omega),e3]⟩
theorem right_home:∀ (l:List Sub)(o:Option Sub)(m:Int),rsG o m l=true→∀ s∈l,∀ t∈l,s.client=t.client→s.broker=t.broker
 | [],_,_,_,s,hs,_,_,_=>by simp at hs
 | x :: r,o,m,h,s,hs,t,ht,e=>by
  obtain ⟨m',h'⟩:∃ m',rsG (some x) m' r=true:=by
   cases o with
   | none=>simp only [rsG,Bool.and_eq_true] at h;exact ⟨1,h.2⟩
   | some y =>
    simp only [rsG,Bool.and_eq_true] at h
    have h2:=h.2
    split at h2
    ·exact ⟨1,h2⟩
    ·simp only [Bool.and_eq_true] at h2;exact ⟨m+1,h2.2⟩
  have ho:=rsG_order r x m' h'
  rcases List.mem_cons.1 hs with hs1 | hs1 <;> rcases List.mem_cons.1 ht with ht1 | ht1
  ·rw [hs1,ht1]
  ·rw [hs1];exact ((ho t ht1).2 (by rw [← e,hs1])).symm
  ·rw [ht1];exact (ho s hs1).2 (by rw [e,ht1])
  ·exact right_home r (some x) m' h' s hs1 t ht1 e
def setH (h:List Int)(s:Sub):List Int:=h.set s.client.toNat s.broker
theorem homesG_eq (p:List Int):∀ (l:List Sub) (h:List Int),(∀ s∈l,s.broker≤p.length)→homesG p l h=(l.foldl setH h,true)
 | [],_,_=>rfl
 | s :: r,h,hb=>by
  unfold homesG
  rw [if_neg (by have:=hb s (by simp);omega),homesG_eq p r _ fun t ht=>hb t (by simp [ht])]
  rfl
theorem setH_keep:∀ (l:List Sub)(h:List Int)(c:Nat)(b:Int),h.getD c 0=b→(∀ t∈l,t.client.toNat=c→t.broker=b∧c<h.length)→(l.foldl setH h).getD c 0=b
 | [],_,_,_,h1,_=>h1
 | s :: r,h,c,b,h1,h2=>by
  rw [List.foldl_cons]
  refine setH_keep r (setH h s) c b ?_ fun t ht e=>?_
  ·unfold setH
   rw [List.getD_eq_getElem?_getD,List.getElem?_set]
   by_cases he:s.client.toNat=c
   ·obtain ⟨e1,e2⟩:=h2 s (by simp) he
    rw [if_pos he,if_pos (by omega)]
    simpa using e1
   ·rw [if_neg he,← List.getD_eq_getElem?_getD];exact h1
  ·have:=h2 t (by simp [ht]) e
   unfold setH
   simpa using this
theorem setH_get:∀ (l:List Sub)(h:List Int),h.length=7→(∀ s∈l,1≤s.client∧s.client≤6)→(∀ s∈l,∀ t∈l,s.client=t.client→s.broker=t.broker)→∀ s∈l,(l.foldl setH h).getD s.client.toNat 0=s.broker
 | [],_,_,_,_,s,hs=>by simp at hs
 | x :: r,h,hl,hc,hs0,s,hs=>by
  rw [List.foldl_cons]
  rcases List.mem_cons.1 hs with rfl | hs
  ·have hr:=hc s (by simp)
   refine setH_keep r _ _ _ ?_ fun t ht e=>⟨?_,?_⟩
   ·unfold setH
    rw [List.getD_eq_getElem?_getD,List.getElem?_set,if_pos rfl,if_pos (by omega)]
    rfl
   ·have hr2:=hc t (by simp [ht])
    exact hs0 t (by simp [ht]) s (by simp) (by omega)
   ·unfold setH;simp;omega
  ·exact setH_get r _ (by unfold setH;simpa using hl) (fun t ht=>hc t (by simp [ht])) (fun a ha b hb e=>hs0 a (by simp [ha]) b (by simp [hb]) e) s hs
theorem homesT_ok {p:List Int} {l:List Sub} (hp:rightT p=true)(hr:rightS l=true)(hb:∀ s∈l,s.broker≤p.length):(homesT p l).2=true∧∀ s∈l,(homesT p l).1.getD s.client.toNat 0=s.broker:=by
 unfold homesT
 rw [hp,hr,Bool.and_self,if_pos rfl,homesG_eq p l home0 hb]
 refine ⟨rfl,setH_get l home0 rfl (fun s hs=>?_) (right_home l none 0 hr)⟩
 have:=may_client (rsG_may l none 0 hr s hs)
 omega
theorem atB_len (p hm:List Int)(g:List Grp)(a:Nat):∀ (n b:Nat),(atB p hm g a n b).length≤n
 | 0,_=>Nat.le_refl _
 | n+1,b=>by
  have:=atB_len p hm g a n (b+1)
  unfold atB
  rw [zla]
  split <;> simp <;> omega
theorem atA_len (p hm:List Int)(g:List Grp)(hg:g.length≤18):∀ (n a:Nat),n≤18→(atA p hm g n a).length≤18*n
 | 0,_,_=>Nat.le_refl _
 | n+1,a,h=>by
  have h1:=atB_len p hm g a (g.length - a) a
  have h2:=atA_len p hm g hg n (a+1) (by omega)
  unfold atA
  rw [zla]
  omega
theorem ofA_len (p hm:List Int)(g:List Grp)(hg:g.length≤18):(ofA p hm g g.length 0 []).length≤324:=by
 rw [(ofA_perm p hm g g.length 0 []).length_eq,List.nil_append]
 have:=atA_len p hm g hg g.length 0 hg
 omega
theorem wayG_le (t:Atom→Bool)(c:List Atom):(wayG t 0 c []).length≤c.length:=by rw [wayG_len];simpa using List.countP_le_length
end Go.Ab
namespace Go.Ab
open Go
theorem ahead_trans {x y z:Atom} (h1:aheadA x y=true)(h2:aheadA y z=true):aheadA x z=true:=by
 unfold aheadA at *
 split at h1 <;> split at h2 <;> split
 all_goals simp only [Bool.or_eq_true,Bool.and_eq_true,decide_eq_true_eq] at *
 all_goals omega
theorem ahead_total {x y:Atom} (h:aheadA x y=false)(hne:¬ (x.a=y.a∧x.b=y.b)):aheadA y x=true:=by
 unfold aheadA at *
 split at h <;> split
 all_goals simp only [Bool.or_eq_true,Bool.and_eq_true,decide_eq_true_eq,Bool.or_eq_false_iff,Bool.and_eq_false_iff,decide_eq_false_iff_not] at *
 all_goals omega
def sortA (l:List Atom):Prop:=l.Pairwise fun x y=>aheadA x y=true
theorem layA_sort:∀ (l:List Atom)(n:Atom),sortA l→(∀ x∈l,¬ (x.a=n.a∧x.b=n.b))→sortA (layA l n)
 | [],n,_,_=>by simp [layA,posA,sortA]
 | y :: r,n,h,hne=>by
  unfold sortA at h
  rw [List.pairwise_cons] at h
  have ih:=layA_sort r n h.2 fun x hx=>hne x (by simp [hx])
  by_cases hy:aheadA y n=true
  ·have hp:posA (y :: r) n=posA r n+1:=by unfold posA;rw [List.takeWhile_cons,if_pos hy];rfl
   have he:layA (y :: r) n=y :: layA r n:=by unfold layA;rw [hp];simp
   rw [he]
   unfold sortA
   rw [List.pairwise_cons]
   refine ⟨fun x hx=>?_,ih⟩
   have hx2:=(layA_perm r n).mem_iff.1 hx
   rcases List.mem_append.1 hx2 with hx2 | hx2
   ·exact h.1 x hx2
   ·simp at hx2;subst hx2;exact hy
  ·have hp:posA (y :: r) n=0:=by unfold posA;rw [List.takeWhile_cons,if_neg hy];rfl
   have he:layA (y :: r) n=n :: y :: r:=by unfold layA;rw [hp];simp
   rw [he]
   have hny:aheadA n y=true:=ahead_total (by simpa using hy) (hne y (by simp))
   unfold sortA
   rw [List.pairwise_cons,List.pairwise_cons]
   refine ⟨fun x hx=>?_,h⟩
   rcases List.mem_cons.1 hx with rfl | hx
   ·exact hny
   ·exact ahead_trans hny (h.1 x hx)
def before (a b:Nat)(l:List Atom):Prop:=∀ x∈l,x.a<(a:Int)∨(x.a=(a:Int)∧x.b<(b:Int))
theorem ofB_sort (p hm:List Int)(g:List Grp)(a:Nat):∀ (n b:Nat) (out:List Atom),sortA out→before a b out→sortA (ofB p hm g a n b out)∧before a (b+n) (ofB p hm g a n b out)
 | 0,b,out,h1,h2=>⟨h1,h2⟩
 | n+1,b,out,h1,h2=>by
  have h3:sortA (ofStep p hm g a b out)∧before a (b+1) (ofStep p hm g a b out):=by
   unfold ofStep
   split
   ·exact ⟨h1,fun x hx=>by have:=h2 x hx;omega⟩
   ·refine ⟨layA_sort out _ h1 fun x hx=>?_,fun x hx=>?_⟩
    ·have:=h2 x hx;simp only;omega
    ·have hx2:=(layA_perm out _).mem_iff.1 hx
     rcases List.mem_append.1 hx2 with hx2 | hx2
     ·have:=h2 x hx2;omega
     ·simp at hx2;subst hx2;exact .inr ⟨rfl,by show (b:Int)<((b+1:Nat):Int);omega⟩
  have:=ofB_sort p hm g a n (b+1) _ h3.1 h3.2
  rw [show b+(n+1)=b+1+n from by omega]
  exact this
theorem ofA_sort (p hm:List Int)(g:List Grp):∀ (n a:Nat) (out:List Atom),sortA out→before a 0 out→sortA (ofA p hm g n a out)
 | 0,a,out,h1,_=>h1
 | n+1,a,out,h1,h2=>by
  have h3:=ofB_sort p hm g a (g.length - a) a out h1 fun x hx=>by
   rcases h2 x hx with h | h
   ·exact .inl h
   ·exact .inr ⟨h.1,by omega⟩
  refine ofA_sort p hm g n (a+1) _ h3.1 fun x hx=>?_
  rcases h3.2 x hx with h | h
  ·exact .inl (by omega)
  ·exact .inl (by omega)
theorem chain_sort (p hm:List Int)(g:List Grp):sortA (ofA p hm g g.length 0 []):=ofA_sort p hm g _ _ _ List.Pairwise.nil fun x hx=>by simp at hx
end Go.Ab
namespace Go.Ab
open Go
def okR (l:List Sub)(i:Nat)(s:Sub):Bool :=
 mayS s && (decide (i=0) || match l[i - 1]? with
  | none=>false
  | some t=>(decide (t.client<s.client) || decide (t.client=s.client) && decide (t.num<s.num)) && !(decide (t.client=s.client) && !decide (t.broker=s.broker)) && !(decide (3≤i) && match l[i - 3]? with
   | none=>false
   | some u=>decide (u.client=s.client)))
def rR (l:List Sub):Nat→Nat→Bool
 | 0,_=>true
 | m+1,i=>(match l[i]? with
  | none=>false
  | some s=>okR l i s) && rR l m (i+1)
theorem rR_eq (l:List Sub):∀ (m i:Nat) (many:Int),i+m=l.length→0<i→1≤many →
  (∀ (k:Nat) (t u:Sub),1≤k→k≤i→l[i - 1]?=some t→l[i - k]?=some u→u.client≤t.client∧(u.client=t.client↔(k:Int)≤many))→many≤i→rsG l[i - 1]? many (l.drop i)=rR l m i
 | 0,i,many,h,hi,hm,hI,hmi=>by
  rw [List.drop_eq_nil_of_le (by omega)]
  have:∀ o:Option Sub,rsG o many []=true:=fun o=>by cases o <;> rfl
  rw [this];rfl
 | m+1,i,many,h,hi,hm,hI,hmi=>by
  obtain ⟨x,hx⟩  := qgx (l:=l) (i:=i) (by omega)
  obtain ⟨t,ht⟩:∃ t,l[i - 1]?=some t:=⟨l[i - 1]'(by omega),zge (by omega)⟩
  rw [drop_get hx,ht,show rR l (m+1) i=(okR l i x && rR l m (i+1)) from by simp only [rR,hx]]
  have hne:¬ i=0:=by omega
  have hok:okR l i x=(mayS x && ((decide (t.client<x.client) || decide (t.client=x.client) && decide (t.num<x.num)) && !(decide (t.client=x.client) && !decide (t.broker=x.broker)) && !(decide (3≤i) && match l[i - 3]? with
   | none=>false
   | some u=>decide (u.client=x.client)))):=by
   unfold okR;rw [ht];simp [hne]
  rw [show rsG (some t) many (x :: l.drop (i+1))=(mayS x && (if t.client<x.client then rsG (some x) 1 (l.drop (i+1)) else !(decide (x.client<t.client) || decide (x.num≤t.num) || !decide (t.broker=x.broker) || decide (3<many+1)) && rsG (some x) (many+1) (l.drop (i+1)))) from rfl,hok]
  have key:(match l[i - 3]? with
   | none=>false
   | some u=>decide (u.client=x.client))=true↔∃ u,l[i - 3]?=some u∧u.client=x.client:=by
   cases l[i - 3]? with
   | none=>simp
   | some u=>simp
  generalize (match l[i - 3]? with
   | none=>false
   | some u=>decide (u.client=x.client))=z at key ⊢
  cases mayS x with
  | false=>rfl
  | true =>
   simp only [Bool.true_and]
   by_cases c1:t.client<x.client
   ·have hz:(decide (3≤i) && z)=false:=by
     cases hz:z with
     | false=>simp
     | true =>
      obtain ⟨u,hu,huc⟩:=key.1 hz
      by_cases h3:3≤i
      ·have:=(hI 3 t u (by omega) h3 ht hu).1;omega
      ·simp [h3]
    have he:¬ t.client=x.client:=by omega
    rw [if_pos c1,hz]
    simp only [c1,he,decide_true,decide_false,Bool.true_or,Bool.false_and,Bool.not_false,Bool.and_self,Bool.true_and]
    have:=rR_eq l m (i+1) 1 (by omega) (by omega) (by omega) (fun k t' u k1 k2 h1 h2=>by
     rw [Nat.add_sub_cancel,hx] at h1;cases h1
     by_cases hk:k=1
     ·subst hk;rw [Nat.add_sub_cancel,hx] at h2;cases h2;simp
     ·obtain ⟨k',rfl⟩:∃ k',k=k'+1:=⟨k - 1,by omega⟩
      rw [show i+1 - (k'+1)=i - k' from by omega] at h2
      have:=(hI k' t u (by omega) (by omega) ht h2).1
      constructor
      ·omega
      ·constructor <;> intro h <;> omega) (by omega)
    rw [Nat.add_sub_cancel,hx] at this
    exact this
   ·rw [if_neg c1]
    by_cases c2:x.client<t.client
    ·have he:¬ t.client=x.client:=by omega
     simp [c1,c2,he]
    ·have he:t.client=x.client:=by omega
     by_cases c3:t.num<x.num
     ·have c3':¬ x.num≤t.num:=by omega
      have hz:(decide (3≤i) && z)=decide (3<many+1):=by
       by_cases h3:3≤i
       ·obtain ⟨u,hu⟩:∃ u,l[i - 3]?=some u:=⟨l[i - 3]'(by omega),zge (by omega)⟩
        have hh:=(hI 3 t u (by omega) h3 ht hu).2
        rw [he] at hh
        have hk2:z=true↔u.client=x.client:=by
         rw [key]
         constructor
         ·rintro ⟨u',h1,h2⟩;rw [hu] at h1;cases h1;exact h2
         ·exact fun h=>⟨u,hu,h⟩
        simp only [h3,decide_true,Bool.true_and]
        rw [Bool.eq_iff_iff,hk2,hh,decide_eq_true_eq]
        constructor <;> intro h <;> omega
       ·have:¬ 3<many+1:=by omega
        simp [h3,this]
      rw [hz]
      by_cases c4:t.broker=x.broker
      ·by_cases c5:3<many+1
       ·simp [c1,c2,c3,c3',c4,c5,he]
       ·have hle:¬ x.num≤t.num:=by omega
        simp only [c1,c2,c3,c3',c4,c5,he,decide_true,decide_false,Bool.or_false,Bool.false_or,Bool.not_true,Bool.not_false,Bool.and_true,Bool.true_and,Bool.and_false,Int.lt_irrefl]
        have:=rR_eq l m (i+1) (many+1) (by omega) (by omega) (by omega) (fun k t' u k1 k2 h1 h2=>by
         rw [Nat.add_sub_cancel,hx] at h1;cases h1
         by_cases hk:k=1
         ·subst hk;rw [Nat.add_sub_cancel,hx] at h2;cases h2
          refine ⟨by omega,?_⟩
          constructor <;> intro h
          ·omega
          ·rfl
         ·obtain ⟨k',rfl⟩:∃ k',k=k'+1:=⟨k - 1,by omega⟩
          rw [show i+1 - (k'+1)=i - k' from by omega] at h2
          have:=hI k' t u (by omega) (by omega) ht h2
          rw [he] at this
          refine ⟨this.1,?_⟩
          rw [this.2]
          constructor <;> intro h <;> omega) (by omega)
        rw [Nat.add_sub_cancel,hx] at this
        exact this
      ·simp [c1,c2,c3,c3',c4,he]
     ·have c3':x.num≤t.num:=by omega
      simp [c1,c2,c3,c3',he]
def back3 (l:List Sub)(i:Nat)(c:Int):Bool:=match l[i - 3]? with
 | none=>false
 | some u=>decide (u.client=c)
theorem back3_some {l:List Sub} {i:Nat} {u:Sub} (h:l[i - 3]?=some u) {c:Int}:back3 l i c=decide (u.client=c):=by unfold back3;rw [h]
theorem okR_succ {l:List Sub} {k:Nat} {x y:Sub} (hy:l[k]?=some y)(hm:mayS x=true):okR l (k+1) x=((decide (y.client<x.client) || decide (y.client=x.client) && decide (y.num<x.num)) && !(decide (y.client=x.client) && !decide (y.broker=x.broker)) && !(decide (3≤k+1) && back3 l (k+1) x.client)):=by
 unfold okR back3;rw [Nat.add_sub_cancel,hy,hm];simp
theorem rightR_eq (l:List Sub):rR l l.length 0=rightS l:=by
 cases l with
 | nil=>rfl
 | cons x r =>
  have hx:(x :: r)[0]?=some x:=rfl
  show (okR (x :: r) 0 x && rR (x :: r) r.length 1)=(mayS x && rsG (some x) 1 r)
  have h0:okR (x :: r) 0 x=mayS x:=by unfold okR;simp
  rw [h0]
  have:=rR_eq (x :: r) r.length 1 1 (by simp;omega) (by omega) (by omega) (fun k t u k1 k2 h1 h2=>by
   obtain rfl:k=1:=by omega
   rw [h1] at h2;cases h2;simp) (by omega)
  rw [← this]
  rfl
def ofC (l:List Sub)(c:Int):List Sub:=l.filter fun s=>decide (s.client=c)
theorem ofC_get {l:List Sub} {c:Int} (h:∃ s∈l,s.client=c):∃ y,(ofC l c)[0]?=some y∧y∈l∧y.client=c:=by
 obtain ⟨s,hs,hc⟩:=h
 have hm:s∈ofC l c:=List.mem_filter.2 ⟨hs,by simp [hc]⟩
 cases ho:ofC l c with
 | nil=>rw [ho] at hm;cases hm
 | cons y r =>
  have:y∈ofC l c:=by rw [ho];simp
  have:=List.mem_filter.1 this
  exact ⟨y,rfl,this.1,by simpa using this.2⟩
def sumR (p:List Int)(x:Int)(s y:Int):Int:=s+distT p x y
theorem distT_nonneg {p:List Int} {x y:Int} (hx:isT p x=true)(hy:isT p y=true):0≤distT p x y:=by
 unfold distT
 rw [hx,hy]
 have h1:=upP_len p x.toNat
 have h2:=upP_len p y.toNat
 have h3:=joinT_len (upP p x.toNat) (upP p y.toNat) h1.1 h2.1
 unfold pathT
 simp only [Bool.and_self,if_true]
 omega
theorem sumT_fold {p:List Int} {x:Int} (hx:isT p x=true):∀ (l:List Int) (s:Int),(∀ y∈l,isT p y=true)→sumT p x l s=some (l.foldl (sumR p x) s)
 | [],s,_=>rfl
 | y :: r,s,h=>by
  have h1:=distT_nonneg hx (h y (by simp))
  rw [show sumT p x (y :: r) s=if distT p x y<0 then none else sumT p x r (s+distT p x y) from rfl,if_neg (by omega),sumT_fold hx r _ (fun z hz=>h z (by simp [hz]))]
  rfl
theorem placeL_range (p l:List Int)(hp:rightT p=true)(hl:∀ y∈l,isT p y=true):∀ (n x:Nat) (best least:Int),x+n=p.length+1→(best = -1∧0<n∨0≤best∧best≤p.length)→0≤placeL p l n x best least∧placeL p l n x best least≤p.length
 | 0,x,best,least,h,hb=>by
  rw [show placeL p l 0 x best least=best from rfl];omega
 | n+1,x,best,least,h,hb=>by
  have hx:isT p (x:Int)=true:=by unfold isT;rw [hp];simp;omega
  rw [show placeL p l (n+1) x best least=match sumT p x l 0 with
   | none => -1
   | some s=>if best<0∨s<least then placeL p l n (x+1) x s else placeL p l n (x+1) best least from rfl,sumT_fold hx l 0 hl]
  simp only
  split
  ·exact placeL_range p l hp hl n (x+1) _ _ (by omega) (.inr (by omega))
  ·rename_i h1
   refine placeL_range p l hp hl n (x+1) _ _ (by omega) (.inr ?_)
   omega
theorem placeT_range {p l:List Int} (hp:rightT p=true)(hl:∀ y∈l,isT p y=true)(hn:l≠[]):0≤placeT p l∧placeT p l≤p.length:=by
 unfold placeT
 rw [if_neg hn]
 exact placeL_range p l hp hl _ _ _ _ (by omega) (.inl ⟨rfl,by omega⟩)
def rStep (p hm:List Int)(g:List Grp)(b i k:Nat)(out:List Atom):List Atom:=if atsOf hm g i k=[] then out else if placeT p (atsOf hm g i k)=(b:Int) then out ++ [⟨i,k,b⟩] else out
def rK (p hm:List Int)(g:List Grp)(b i:Nat):Nat→Nat→List Atom→List Atom
 | 0,_,out=>out
 | n+1,k,out=>rK p hm g b i n (k+1) (rStep p hm g b i k out)
def rI (p hm:List Int)(g:List Grp)(b:Nat):Nat→Nat→List Atom→List Atom
 | 0,_,out=>out
 | n+1,i,out=>rI p hm g b n (i+1) (rK p hm g b i (g.length - i) i out)
def rB (p hm:List Int)(g:List Grp):Nat→Nat→List Atom→List Atom
 | 0,_,out=>out
 | n+1,b,out=>rB p hm g n (b+1) (rI p hm g b g.length 0 out)
theorem rStep_len (p hm:List Int)(g:List Grp)(b i k:Nat)(out:List Atom):(rStep p hm g b i k out).length≤out.length+1:=by
 unfold rStep
 split
 ·omega
 ·split
  ·simp
  ·omega
theorem rK_len (p hm:List Int)(g:List Grp)(b i:Nat):∀ (n k:Nat) (out:List Atom),(rK p hm g b i n k out).length≤out.length+n
 | 0,_,_=>Nat.le_refl _
 | n+1,k,out=>by
  have h1:=rK_len p hm g b i n (k+1) (rStep p hm g b i k out)
  have h2:=rStep_len p hm g b i k out
  unfold rK;omega
theorem rI_len (p hm:List Int)(g:List Grp)(b:Nat):∀ (n i:Nat) (out:List Atom),(rI p hm g b n i out).length≤out.length+n*g.length
 | 0,_,_=>by simp [rI]
 | n+1,i,out=>by
  have h1:=rI_len p hm g b n (i+1) (rK p hm g b i (g.length - i) i out)
  have h2:=rK_len p hm g b i (g.length - i) i out
  unfold rI;rw [Nat.succ_mul];omega
def ahd (b i k:Int)(l:List Atom):Prop:=∀ x∈l,x.br<b∨(x.br=b∧(x.a<i∨(x.a=i∧x.b<k)))
theorem ahd_mono {b i k b' i' k':Int} {l:List Atom} (h:ahd b i k l)(hh:b<b'∨(b=b'∧(i<i'∨(i=i'∧k≤k')))):ahd b' i' k' l:=fun x hx=>by
 have:=h x hx;omega
theorem ahead_iff {x y:Atom}:aheadA x y=true↔x.br<y.br∨(x.br=y.br∧(x.a<y.a∨(x.a=y.a∧x.b<y.b))):=by
 unfold aheadA
 split
 ·simp;omega
 ·simp;omega
theorem sort_snoc {l:List Atom} {x:Atom} (h:sortA l)(hx:ahd x.br x.a x.b l):sortA (l ++ [x]):=by
 unfold sortA at *
 rw [List.pairwise_append]
 refine ⟨h,List.pairwise_singleton _ _,fun y hy z hz=>?_⟩
 simp at hz;subst hz
 rw [ahead_iff]
 exact hx y hy
theorem rStep_sort (p hm:List Int)(g:List Grp)(b i k:Nat) {out:List Atom} (h:sortA out)(ha:ahd b i k out):sortA (rStep p hm g b i k out)∧ahd b i ((k+1:Nat):Int) (rStep p hm g b i k out):=by
 unfold rStep
 split
 ·exact ⟨h,ahd_mono ha (by omega)⟩
 ·split
  ·refine ⟨sort_snoc h ha,fun x hx=>?_⟩
   rcases List.mem_append.1 hx with hx | hx
   ·have:=ha x hx;omega
   ·simp at hx;subst hx
    exact .inr ⟨rfl,.inr ⟨rfl,by simp only;omega⟩⟩
  ·exact ⟨h,ahd_mono ha (by omega)⟩
theorem rK_sort (p hm:List Int)(g:List Grp)(b i:Nat):∀ (n k:Nat) {out:List Atom},sortA out→ahd b i k out→sortA (rK p hm g b i n k out)∧ahd b i ((k+n:Nat):Int) (rK p hm g b i n k out)
 | 0,k,out,h,ha=>⟨h,ha⟩
 | n+1,k,out,h,ha=>by
  obtain ⟨h1,h2⟩:=rStep_sort p hm g b i k h ha
  have:=rK_sort p hm g b i n (k+1) h1 h2
  rw [show k+(n+1)=k+1+n from by omega]
  exact this
theorem rI_sort (p hm:List Int)(g:List Grp)(b:Nat):∀ (n i:Nat) {out:List Atom},sortA out→ahd b i 0 out→sortA (rI p hm g b n i out)∧ahd b ((i+n:Nat):Int) 0 (rI p hm g b n i out)
 | 0,i,out,h,ha=>⟨h,ha⟩
 | n+1,i,out,h,ha=>by
  obtain ⟨h1,h2⟩:=rK_sort p hm g b i (g.length - i) i h (ahd_mono ha (by omega))
  have:=rI_sort p hm g b n (i+1) h1 (ahd_mono h2 (by omega))
  rw [show i+(n+1)=i+1+n from by omega]
  exact this
theorem rB_sort (p hm:List Int)(g:List Grp):∀ (n b:Nat) {out:List Atom},sortA out→ahd b 0 0 out→sortA (rB p hm g n b out)
 | 0,b,out,h,ha=>h
 | n+1,b,out,h,ha=>by
  obtain ⟨h1,h2⟩:=rI_sort p hm g b g.length 0 h ha
  exact rB_sort p hm g n (b+1) h1 (ahd_mono h2 (by omega))
theorem rStep_mem (p hm:List Int)(g:List Grp)(b i k:Nat)(out:List Atom)(x:Atom):x∈rStep p hm g b i k out↔x∈out∨(atsOf hm g i k≠[]∧placeT p (atsOf hm g i k)=(b:Int)∧x=⟨i,k,b⟩):=by
 unfold rStep
 split
 ·rename_i h;simp [h]
 ·rename_i h
  split
  ·rename_i h2;simp [h,h2]
  ·rename_i h2;simp [h2]
theorem rK_mem (p hm:List Int)(g:List Grp)(b i:Nat):∀ (n k:Nat) (out:List Atom) (x:Atom),x∈rK p hm g b i n k out↔x∈out∨∃ k',k≤k'∧k'<k+n∧atsOf hm g i k'≠[]∧placeT p (atsOf hm g i k')=(b:Int)∧x=⟨i,k',b⟩
 | 0,k,out,x=>by
  simp only [rK]
  constructor
  ·exact .inl
  ·rintro (h | ⟨k',h1,h2,_⟩)
   ·exact h
   ·omega
 | n+1,k,out,x=>by
  simp only [rK]
  rw [rK_mem p hm g b i n,rStep_mem]
  constructor
  ·rintro ((h | h) | ⟨k',h1,h2,h3⟩)
   ·exact .inl h
   ·exact .inr ⟨k,by omega,by omega,h⟩
   ·exact .inr ⟨k',by omega,by omega,h3⟩
  ·rintro (h | ⟨k',h1,h2,h3⟩)
   ·exact .inl (.inl h)
   ·by_cases hk:k'=k
    ·subst hk;exact .inl (.inr h3)
    ·exact .inr ⟨k',by omega,by omega,h3⟩
theorem rI_mem (p hm:List Int)(g:List Grp)(b:Nat):∀ (n i:Nat) (out:List Atom) (x:Atom),i+n=g.length→(x∈rI p hm g b n i out↔x∈out∨∃ i' k',i≤i'∧i'<g.length∧i'≤k'∧k'<g.length∧atsOf hm g i' k'≠[]∧placeT p (atsOf hm g i' k')=(b:Int)∧x=⟨i',k',b⟩)
 | 0,i,out,x,h=>by
  simp only [rI]
  constructor
  ·exact .inl
  ·rintro (h | ⟨i',k',h1,h2,_⟩)
   ·exact h
   ·omega
 | n+1,i,out,x,h=>by
  simp only [rI]
  rw [rI_mem p hm g b n (i+1) _ x (by omega),rK_mem]
  constructor
  ·rintro ((h1 | ⟨k',h1,h2,h3⟩) | ⟨i',k',h1,h2⟩)
   ·exact .inl h1
   ·exact .inr ⟨i,k',by omega,by omega,by omega,by omega,h3⟩
   ·exact .inr ⟨i',k',by omega,h2⟩
  ·rintro (h1 | ⟨i',k',h1,h2,h3,h4,h5⟩)
   ·exact .inl (.inl h1)
   ·by_cases hk:i'=i
    ·subst hk;exact .inl (.inr ⟨k',by omega,by omega,h5⟩)
    ·exact .inr ⟨i',k',by omega,h2,h3,h4,h5⟩
theorem rB_mem (p hm:List Int)(g:List Grp):∀ (n b:Nat) (out:List Atom) (x:Atom),x∈rB p hm g n b out↔x∈out∨∃ b' i' k':Nat,b≤b'∧b'<b+n∧i'<g.length∧i'≤k'∧k'<g.length∧atsOf hm g i' k'≠[]∧placeT p (atsOf hm g i' k')=(b':Int)∧x=⟨i',k',b'⟩
 | 0,b,out,x=>by
  simp only [rB]
  constructor
  ·exact .inl
  ·rintro (h | ⟨b',i',k',h1,h2,_⟩)
   ·exact h
   ·omega
 | n+1,b,out,x=>by
  simp only [rB]
  rw [rB_mem p hm g n (b+1) _ x,rI_mem p hm g b g.length 0 _ x (by omega)]
  constructor
  ·rintro ((h1 | ⟨i',k',h0,h1⟩) | ⟨b',i',k',h1,h2,h3⟩)
   ·exact .inl h1
   ·exact .inr ⟨b,i',k',by omega,by omega,h1⟩
   ·exact .inr ⟨b',i',k',by omega,by omega,h3⟩
  ·rintro (h1 | ⟨b',i',k',h1,h2,h3⟩)
   ·exact .inl (.inl h1)
   ·by_cases hk:b'=b
    ·subst hk;exact .inl (.inr ⟨i',k',by omega,h3⟩)
    ·exact .inr ⟨b',i',k',by omega,by omega,h3⟩
theorem sort_eq:∀ {l m:List Atom},sortA l→sortA m→(∀ x,x∈l↔x∈m)→l=m
 | [],[],_,_,_=>rfl
 | [],y :: m,_,_,h=>absurd ((h y).2 (by simp)) (by simp)
 | x :: l,[],_,_,h=>absurd ((h x).1 (by simp)) (by simp)
 | x :: l,y :: m,h1,h2,h=>by
  have a1:=List.pairwise_cons.1 h1
  have a2:=List.pairwise_cons.1 h2
  have irr:∀ z:Atom,¬ aheadA z z=true:=fun z hz=>by rw [ahead_iff] at hz;omega
  have asy:∀ z w:Atom,aheadA z w=true→¬ aheadA w z=true:=fun z w h3 h4=>by rw [ahead_iff] at h3 h4;omega
  have hxy:x=y:=by
   rcases List.mem_cons.1 ((h x).1 (by simp)) with e | e
   ·exact e
   ·rcases List.mem_cons.1 ((h y).2 (by simp)) with e2 | e2
    ·exact e2.symm
    ·exact absurd (a1.1 y e2) (asy _ _ (a2.1 x e))
  subst hxy
  congr 1
  refine sort_eq a1.2 a2.2 fun z=>?_
  constructor
  ·intro hz
   rcases List.mem_cons.1 ((h z).1 (by simp [hz])) with e | e
   ·subst e;exact absurd (a1.1 z hz) (irr z)
   ·exact e
  ·intro hz
   rcases List.mem_cons.1 ((h z).2 (by simp [hz])) with e | e
   ·subst e;exact absurd (a2.1 z hz) (irr z)
   ·exact e
theorem rB_eq {p hm:List Int} {g:List Grp} (hp:rightT p=true)(hh:∀ i k,i<g.length→k<g.length→∀ y∈atsOf hm g i k,isT p y=true):rB p hm g (p.length+1) 0 []=ofA p hm g g.length 0 []:=by
 refine sort_eq (rB_sort p hm g _ _ List.Pairwise.nil fun x hx=>by simp at hx) (chain_sort p hm g) fun x=>?_
 rw [rB_mem,(ofA_perm p hm g g.length 0 []).mem_iff,List.nil_append,atA_mem p hm g g.length 0 x (by omega)]
 constructor
 ·rintro (h | ⟨b,i,k,_,_,h3,h4,h5,h6,h7,h8⟩)
  ·simp at h
  ·exact ⟨i,k,by omega,by omega,h4,h5,h6,by rw [h8,h7]⟩
 ·rintro ⟨i,k,_,h3,h4,h5,h6,h7⟩
  have hr:=placeT_range hp (hh i k (by omega) h5) h6
  refine .inr ⟨(placeT p (atsOf hm g i k)).toNat,i,k,by omega,by omega,by omega,h4,h5,h6,by omega,?_⟩
  rw [h7];congr 1;omega
def chainR (p:List Int)(l:List Sub):List Atom:=if rightT p && rightS l && l.all (fun s=>decide (s.broker≤p.length)) then rB p (homesT p l).1 (gof l) (p.length+1) 0 [] else []
theorem homesG_snd (p:List Int):∀ (l:List Sub) (h:List Int),(homesG p l h).2=l.all (fun s=>decide (s.broker≤p.length))
 | [],h=>rfl
 | s :: r,h=>by
  unfold homesG
  rw [List.all_cons]
  split
  ·rename_i h1
   have:¬ s.broker≤p.length:=by omega
   simp [this]
  ·rename_i h1
   have:s.broker≤p.length:=by omega
   rw [homesG_snd p r];simp [this]
theorem homesT_snd (p:List Int)(l:List Sub):(homesT p l).2=(rightT p && rightS l && l.all (fun s=>decide (s.broker≤p.length))):=by
 unfold homesT
 split
 ·rename_i h;rw [homesG_snd,h,Bool.true_and]
 ·rename_i h
  have:(rightT p && rightS l)=false:=by simpa using h
  rw [this,Bool.false_and]
theorem ats_sub {l:List Sub} {i k:Nat} {c:Int} (hi:i<(gof l).length)(h:c∈bothI (((gof l)[k]?).getD default).clients (((gof l)[i]?).getD default).clients []):∃ s∈l,s.client=c:=by
 rw [bothI_mem] at h
 rcases h with h | h
 ·simp at h
 ·have h1:=h.1
  rw [zge hi,Option.getD_some] at h1
  obtain ⟨j,s,e1,e2,e3⟩:=gof_mem.1 (List.getElem_mem hi)
  rw [e3] at h1
  have h2:c∈cliOf l s:=h1
  rw [cliOf_mem] at h2
  obtain ⟨t,h3,h4,h5⟩:=h2
  exact ⟨t,h3,h5⟩
theorem home_of {p:List Int} {l:List Sub} (hp:rightT p=true)(hr:rightS l=true)(hb:∀ s∈l,s.broker≤p.length) {i k:Nat} {c:Int} (hi:i<(gof l).length)(h:c∈bothI (((gof l)[k]?).getD default).clients (((gof l)[i]?).getD default).clients []) :
  ∃ y,(ofC l c)[0]?=some y∧y.broker=(homesT p l).1.getD c.toNat 0∧isT p y.broker=true:=by
 obtain ⟨y,h1,h2,h3⟩:=ofC_get (ats_sub hi h)
 have h4:=(homesT_ok hp hr hb).2 y h2
 have h5:=may_client (rsG_may l _ _ hr y h2)
 have h6:=hb y h2
 refine ⟨y,h1,?_,?_⟩
 ·rw [← h4,h3]
 ·unfold isT;rw [hp];simp;omega
theorem chainR_eq (p:List Int)(l:List Sub):chainR p l=chainOf p l:=by
 unfold chainR chainOf
 rw [homesT_snd]
 by_cases h:(rightT p && rightS l && l.all (fun s=>decide (s.broker≤p.length)))=true
 ·rw [if_pos h,if_pos h]
  simp only [Bool.and_eq_true,List.all_eq_true,decide_eq_true_eq] at h
  refine rB_eq h.1.1 fun i k hi hk y hy=>?_
  unfold atsOf at hy
  obtain ⟨c,hc,rfl⟩:=List.mem_map.1 hy
  obtain ⟨z,h1,h2,h3⟩:=home_of h.1.1 h.1.2 h.2 hi hc
  rw [← h2];exact h3
 ·rw [if_neg h,if_neg h]
end Go.Ab
namespace Go.Proofs.Ytdoobejjedpcgaa
open Go Go.Ab
noncomputable section
variable (fr:Fr)(st:St)(k:Kt)
def fi64:FI:={body:=codeOf Try.f64,ntmps:=26,results:=[.tmp 2],pers:=[0,2,3],locals:=[],pure:=true,marks:=[]}
theorem H64:fi64.marks=[]∧fi64.locals=[]∧fi64.results=[.tmp 2]:=⟨rfl,rfl,rfl⟩
theorem fi232_eq:gS.fn 64=some fi64:=by kernel_rfl
theorem st64 (a0:V):startFr fi64 [a0]={ps:=[(0,.val a0),(2,.any),(3,.any)],ts:=[],lc:=[]}:=rfl
def b64:Code:=mini (codeOf Try.f64)
def c64_10:Code:=.cond (.tmp 7) .skip (.exit 0)
def c64_8:Code:=.seq (codeN b64 133) c64_10
def c64_18:Code:=.seq (codeN b64 2341) .ret
def c64_17:Code:=.cond (.tmp 22) c64_18 .skip
def c64_15:Code:=.seq (codeN b64 549) c64_17
def c64_22:Code:=codeN b64 229
def c64_13:Code:=.seq (.block 1 c64_15) c64_22
def c64_7:Code:=.seq c64_8 c64_13
def c64_6:Code:=.loop c64_7
def c64_5:Code:=.block 0 c64_6
def c64_3:Code:=.seq (codeN b64 9) c64_5
def c64_23:Code:=.seq (codeN b64 11) .ret
def c64_2:Code:=.seq c64_3 c64_23
def c64_0:Code:=.seq (codeN b64 2) c64_2
theorem E64:evK gS fi64 c64_10 fr st k=condK gS fi64 (fr.op (.tmp 7)).bool? .skip (.exit 0) fr st k ∧
 (evK gS fi64 c64_8 fr st k=opsR gS fi64 [mv 4 3 3,
 mv 5 0 22,
 len1 6 5 22 3,
 bop 7 .lss 3 4 6 3 4] fr st (.seq c64_10 k)) ∧
 evK gS fi64 c64_18 fr st k=opsR gS fi64 [qA 2 false 4] fr st (.seq .ret k) ∧
 evK gS fi64 c64_17 fr st k=condK gS fi64 (fr.op (.tmp 22)).bool? c64_18 .skip fr st k ∧
 (evK gS fi64 c64_15 fr st k=opsR gS fi64 [mv 10 0 22,
 mv 11 3 3,
 ixa 12 22 10 11 0,
 ld 13 3 12 3,
 qB 14 .lss 3 13 0 3 4,
 mv 15 14 4,
 qm 16 0 22 5 false,
 qm 17 3 3 5 false,
 qi 18 22 16 17 0 5 false,
 ql 19 3 18 3 5 false,
 qm 20 3 3 5 false,
 qb 21 .gtr 3 19 20 3 4 5 false,
 qQ 22 15 true 21 4] fr st (.seq c64_17 k)) ∧
 (evK gS fi64 c64_22 fr st k=opsR gS fi64 [mv 8 3 3,
 qB 9 .add 3 8 1 3 3,
 asn 3 9 3] fr st k) ∧
 evK gS fi64 c64_13 fr st k=evK gS fi64 c64_15 fr st (.blk 1 (.seq c64_22 k)) ∧
 evK gS fi64 c64_7 fr st k=evK gS fi64 c64_8 fr st (.seq c64_13 k) ∧
 evK gS fi64 c64_5 fr st k=evK gS fi64 c64_6 fr st (.blk 0 k) ∧
 evK gS fi64 c64_3 fr st k=opsR gS fi64 [qI 3 0 3] fr st (.seq c64_5 k) ∧
 (evK gS fi64 c64_23 fr st k=opsR gS fi64 [mv 23 0 22,
 len1 24 23 22 3,
 qB 25 .leq 3 24 7 3 4,
 asn 2 25 4] fr st (.seq .ret k)) ∧
 evK gS fi64 c64_2 fr st k=evK gS fi64 c64_3 fr st (.seq c64_23 k) ∧
 evK gS fi64 c64_0 fr st k=opsR gS fi64 [qA 2 false 4] fr st (.seq c64_2 k):=⟨rfl,evK_rs 2 rfl (by kernel_rfl),evK_rs 5 rfl (by kernel_rfl),rfl,evK_rs 4 rfl (by kernel_rfl),evK_r 3 (by kernel_rfl),rfl,rfl,rfl,evK_rs 1 rfl (by kernel_rfl),evK_rs 6 rfl (by kernel_rfl),rfl,evK_rs 0 rfl (by kernel_rfl)⟩
theorem m64:mini fi64.body=c64_0:=by kernel_rfl
theorem n64_6 (fr:Fr)(st:St)(k:Kt):nextK gS fi64 (.loop c64_7 k) .normal fr st=evK gS fi64 c64_6 fr st k:=rfl
theorem L64_6 (l:List Int)(h_l:l.length<4611686018427387904)(st:St):∀ (n i:Nat) (j:Int)  (T:List (Nat × E)) (X:List (Nat × List V))  ,j=(i:Int)→i≤(l).length→(l).length - i=n →
  evK gS fi64 c64_6 {ps:=[(0,.val (.slice (intVs l))),(2,.val (.bool false)),(3,.val (.int .i64 j))],ts:=T,lc:=X} st (.blk 0 (.seq c64_23 .nil))=some ((.ret (.bool (upT i (l.drop i) && decide ((l.length:Int)≤7))) none),st):=by
 intro n
 induction n with
 | zero =>
  intro i j   T X   hj hi hn
  obtain rfl:i=(l).length:=by omega
  subst hj
  refine evK_loop c64_7 _ st _ _ rfl ?_
  simp (config:={contextual:=true,maxSteps:=10000000,maxDischargeDepth:=6}) [-zil,-zit,-znl,-znt,ty3,ty4,ty22,H64,E64,n64_6]
  all_goals try simp (config:={contextual:=true}) [-zil,-zit,-znl,-znt,upT_cons,upT]
  all_goals first | done | grind | omega
 | succ n ih =>
  intro i j   T X   hj hi hn
  subst hj
  obtain ⟨x,hx⟩  := qgx (l:=(l)) (i:=i) (by omega)
  have hd:=drop_get hx
  have hlt:(i:Int)<((l).length:Int):=by omega
  have hlt2:i<(l).length:=by omega
  have hxe:(l)[i]'hlt2=x:=by rw [zge hlt2] at hx;exact Option.some.inj hx
  have hw:IntKind.wrap .i64 ((i:Int)+1)=(i:Int)+1:=wrap64 (by omega) (by omega)
  have IH:=fun T X=>ih (i+1) ((i:Int)+1) T X rfl (by omega) (by omega)
  refine evK_loop c64_7 _ st _ _ rfl ?_
  simp (config:={contextual:=true,maxSteps:=10000000,maxDischargeDepth:=6}) [-zil,-zit,-znl,-znt,ty3,ty4,ty22,H64,E64,n64_6,hx,hxe,hd,hlt,hlt2,hw,IH]
  all_goals try simp (config:={contextual:=true}) [-zil,-zit,-znl,-znt,upT_cons,upT]
  all_goals first | done | grind | omega
theorem c64 (l:List Int)  (h_l:l.length<4611686018427387904) (st:St):EvF gS 64 [.slice (intVs l)] st=some (.ret (.bool (rightT l)) none,st):=by
 refine EvF_start fi232_eq (fun x h=>by cases h) m64 ?_
 rw [st64]
 simp (config:={contextual:=true,maxSteps:=10000000,maxDischargeDepth:=6}) [-zil,-zit,-znl,-znt,ty3,ty4,ty22,H64,E64,n64_6,(fun T X=>L64_6 l h_l st _ 0 0  T X rfl (Nat.zero_le _) rfl),h_l]
 all_goals try simp (config:={contextual:=true}) [-zil,-zit,-znl,-znt,rightT]
 all_goals first | done | grind | omega
theorem k64 (l:List Int)  (h_l:l.length<4611686018427387904) (fr:Fr) (st:St):callStep gS (EvF gS) 64 [.slice (intVs l)] fr st=some (.ok (retE none (.bool (rightT l))) fr st) :=
 call_pure rfl fi232_eq rfl (fun st=>c64 l h_l st) (by simp)
def fi91:FI:={body:=codeOf Try.f91,ntmps:=15,results:=[.tmp 6],pers:=[0,1,2,6],locals:=[],pure:=true,marks:=[]}
theorem H91:fi91.marks=[]∧fi91.locals=[]∧fi91.results=[.tmp 6]:=⟨rfl,rfl,rfl⟩
theorem fi235_eq:gS.fn 91=some fi91:=by kernel_rfl
theorem st91 (a0 a1 a2:V):startFr fi91 [a0,a1,a2]={ps:=[(0,.val a0),(1,.val a1),(2,.val a2),(6,.any)],ts:=[],lc:=[]}:=rfl
def b91:Code:=mini (codeOf Try.f91)
def c91_2:Code:=.seq (codeN b91 5) .ret
theorem e91_2:evK gS fi91 c91_2 fr st k=opsR gS fi91 [mv 7 0 3,
 mv 8 1 3,
 bop 9 .geq 3 7 8 3 4,
 mv 10 9 4,
 qm 11 0 3 3 true,
 qm 12 2 3 3 true,
 qb 13 .leq 3 11 12 3 4 3 true,
 qP 14 10 13 false 4,
 asn 6 14 4] fr st (.seq .ret k):=evK_rs 1 rfl (by kernel_rfl)
def c91_0:Code:=.seq (codeN b91 2) c91_2
theorem e91_0:evK gS fi91 c91_0 fr st k=opsR gS fi91 [qA 6 false 4] fr st (.seq c91_2 k):=evK_rs 0 rfl (by kernel_rfl)
theorem m91:mini fi91.body=c91_0:=by kernel_rfl
theorem c91 (n0:Int)(a:Int)(b:Int)  (st:St):EvF gS 91 [.int .i64 n0,.int .i64 a,.int .i64 b] st=some (.ret (.bool (decide (a≤n0) && decide (n0≤b))) none,st):=by
 refine EvF_start fi235_eq (fun x h=>by cases h) m91 ?_
 rw [st91]
 simp (config:={contextual:=true,maxSteps:=10000000,maxDischargeDepth:=6}) [-zil,-zit,-znl,-znt,ty3,ty4,H91,e91_2,e91_0]
 all_goals first | done | grind | omega
theorem k91 (n0:Int)(a:Int)(b:Int)  (fr:Fr) (st:St):callStep gS (EvF gS) 91 [.int .i64 n0,.int .i64 a,.int .i64 b] fr st=some (.ok (retE none (.bool (decide (a≤n0) && decide (n0≤b)))) fr st) :=
 call_pure rfl fi235_eq rfl (fun st=>c91 n0 a b  st) (by simp)
theorem x91:gS.ext 91=none:=rfl
theorem p91:fi91.pure=true:=rfl
def fi93:FI:={body:=codeOf Try.f93,ntmps:=17,results:=[.tmp 4],pers:=[0,1,4],locals:=[],pure:=true,marks:=[]}
theorem H93:fi93.marks=[]∧fi93.locals=[]∧fi93.results=[.tmp 4]:=⟨rfl,rfl,rfl⟩
theorem fi239_eq:gS.fn 93=some fi93:=by kernel_rfl
theorem st93 (a0 a1:V):startFr fi93 [a0,a1]={ps:=[(0,.val a0),(1,.val a1),(4,.any)],ts:=[],lc:=[]}:=rfl
def b93:Code:=mini (codeOf Try.f93)
def c93_2:Code:=.seq (codeN b93 5) .ret
theorem e93_2:evK gS fi93 c93_2 fr st k=opsR gS fi93 [mv 5 0 22,
 cal 6 64 [(.tmp 5)] [22] 4,
 mv 7 6 4,
 qm 8 1 3 2 true,
 qc 9 .geq 3 8 0 3 4 2 true,
 qP 10 7 9 false 4,
 mv 11 10 4,
 qm 12 1 3 6 true,
 qm 13 0 22 6 true,
 qe 14 13 22 3 6 true,
 qb 15 .leq 3 12 14 3 4 6 true,
 qP 16 11 15 false 4,
 asn 4 16 4] fr st (.seq .ret k):=evK_rs 1 rfl (by kernel_rfl)
def c93_0:Code:=.seq (codeN b93 2) c93_2
theorem e93_0:evK gS fi93 c93_0 fr st k=opsR gS fi93 [qA 4 false 4] fr st (.seq c93_2 k):=evK_rs 0 rfl (by kernel_rfl)
theorem m93:mini fi93.body=c93_0:=by kernel_rfl
theorem c93 (l:List Int)(b:Int)  (h_l:l.length<4611686018427387904) (st:St):EvF gS 93 [.slice (intVs l),.int .i64 b] st=some (.ret (.bool (isT l b)) none,st):=by
 refine EvF_start fi239_eq (fun x h=>by cases h) m93 ?_
 rw [st93]
 simp (config:={contextual:=true,maxSteps:=10000000,maxDischargeDepth:=6}) [-zil,-zit,-znl,-znt,ty3,ty4,ty22,H93,k64,e93_2,e93_0,h_l]
 all_goals try simp (config:={contextual:=true}) [-zil,-zit,-znl,-znt,isT]
 all_goals first | done | grind | omega
theorem k93 (l:List Int)(b:Int)  (h_l:l.length<4611686018427387904) (fr:Fr) (st:St):callStep gS (EvF gS) 93 [.slice (intVs l),.int .i64 b] fr st=some (.ok (retE none (.bool (isT l b))) fr st) :=
 call_pure rfl fi239_eq rfl (fun st=>c93 l b h_l st) (by simp)
def fi131:FI:={body:=codeOf Try.f131,ntmps:=20,results:=[.tmp 4],pers:=[0,1,4,5],locals:=[],pure:=false,marks:=[7,18]}
theorem H131:fi131.marks=[7,18]∧fi131.locals=[]∧fi131.results=[.tmp 4]:=⟨rfl,rfl,rfl⟩
theorem fi234_eq:gS.fn 131=some fi131:=by kernel_rfl
theorem st131 (a0 a1:V):startFr fi131 [a0,a1]={ps:=[(0,.val a0),(1,.val a1),(4,.any),(5,.any)],ts:=[],lc:=[]}:=rfl
def b131:Code:=mini (codeOf Try.f131)
def c131_10:Code:=.cond (.tmp 9) .skip (.exit 0)
def c131_8:Code:=.seq (codeN b131 131) c131_10
def c131_16:Code:=codeN b131 419
def c131_14:Code:=.seq (codeN b131 291) c131_16
def c131_13:Code:=.block 1 c131_14
def c131_7:Code:=.seq c131_8 c131_13
def c131_6:Code:=.loop c131_7
def c131_17:Code:=.seq (codeN b131 23) .ret
def c131_4:Code:=.seq (.block 0 c131_6) c131_17
def c131_2:Code:=.seq (codeN b131 5) c131_4
def c131_0:Code:=.seq (codeN b131 2) c131_2
theorem E131:evK gS fi131 c131_10 fr st k=condK gS fi131 (fr.op (.tmp 9)).bool? .skip (.exit 0) fr st k ∧
 (evK gS fi131 c131_8 fr st k=opsR gS fi131 [mv 8 1 3,
 qB 9 .gtr 3 8 0 3 4] fr st (.seq c131_10 k)) ∧
 (evK gS fi131 c131_16 fr st k=opsR gS fi131 [mv 15 5 22,
 mv 16 1 3,
 qS 17 22 16 22,
 qE 18 15 17 22 22,
 asn 5 18 22] fr st k) ∧
 (evK gS fi131 c131_14 fr st k=opsR gS fi131 [mv 10 0 22,
 mv 11 1 3,
 qB 12 .sub 3 11 1 3 3,
 ixa 13 22 10 12 0,
 ld 14 3 13 3,
 asn 1 14 3] fr st (.seq c131_16 k)) ∧
 evK gS fi131 c131_13 fr st k=evK gS fi131 c131_14 fr st (.blk 1 k) ∧
 evK gS fi131 c131_7 fr st k=evK gS fi131 c131_8 fr st (.seq c131_13 k) ∧
 (evK gS fi131 c131_17 fr st k=opsR gS fi131 [mv 19 5 22,
 asn 4 19 22] fr st (.seq .ret k)) ∧
 evK gS fi131 c131_4 fr st k=evK gS fi131 c131_6 fr st (.blk 0 (.seq c131_17 k)) ∧
 (evK gS fi131 c131_2 fr st k=opsR gS fi131 [mv 6 1 3,
 qS 7 22 6 22,
 asn 5 7 22] fr st (.seq c131_4 k)) ∧
 evK gS fi131 c131_0 fr st k=opsR gS fi131 [qN 4 22] fr st (.seq c131_2 k):=⟨rfl,evK_rs 2 rfl (by kernel_rfl),evK_r 4 (by kernel_rfl),evK_rs 3 rfl (by kernel_rfl),rfl,rfl,evK_rs 5 rfl (by kernel_rfl),rfl,evK_rs 1 rfl (by kernel_rfl),evK_rs 0 rfl (by kernel_rfl)⟩
theorem m131:mini fi131.body=c131_0:=by kernel_rfl
theorem n131_6 (fr:Fr)(st:St)(k:Kt):nextK gS fi131 (.loop c131_7 k) .normal fr st=evK gS fi131 c131_6 fr st k:=rfl
theorem L131 (p:List Int)(hp:upT 0 p=true)(hl7:p.length≤7):∀ (k b:Nat) (acc:List Int) (S:St) (id:Nat) (T:List (Nat × E)) (X:List (Nat × List V)),b≤k→b≤p.length→acc.length+k≤100→0<acc.length→S.wp≤id→id<S.objs.length→St.obj S id=some (intVs acc) →
  evK gS fi131 c131_6 {ps:=[(0,.val (.slice (intVs p))),(1,.val (.int .i64 (b:Nat))),(4,.own 0 []),(5,.val (.sref false 1 id 0 acc.length))],ts:=T,lc:=X} S (.blk 0 (.seq c131_17 .nil))=some (.ret (.sref false 1 (apAll (upF p k b) S id acc).2 0 (acc ++ upF p k b).length) none,(apAll (upF p k b) S id acc).1):=by
 intro k
 have hend:∀ (acc:List Int) (S:St) (id:Nat) (T:List (Nat × E)) (X:List (Nat × List V)),evK gS fi131 c131_6 {ps:=[(0,.val (.slice (intVs p))),(1,.val (.int .i64 0)),(4,.own 0 []),(5,.val (.sref false 1 id 0 acc.length))],ts:=T,lc:=X} S (.blk 0 (.seq c131_17 .nil))=some (.ret (.sref false 1 id 0 acc.length) none,S):=by
  intro acc S id T X
  refine evK_loop c131_7 _ _ _ _ rfl ?_
  simp (config:={implicitDefEqProofs:=false}) [-zil,-zit,-znl,-znt,ty3,ty4,ty22,H131,E131,n131_6]
 induction k with
 | zero =>
  intro b acc S id T X hb hb2 ha h0 hw hi ho
  obtain rfl:b=0:=by omega
  rw [upF_zero,List.append_nil]
  exact hend acc S id T X
 | succ k ih =>
  intro b acc S id T X hb hb2 ha h0 hwp hi ho
  cases b with
  | zero=>rw [upF_zero,List.append_nil];exact hend acc S id T X
  | succ b =>
   obtain ⟨x,hx⟩  := qgx (l:=p) (i:=b) (by omega)
   obtain ⟨hlt2,hxe⟩:=List.getElem?_eq_some_iff.1 hx
   obtain ⟨h1,h2⟩:=upT_get p 0 b x hp hx
   obtain ⟨y,rfl⟩:∃ y:Nat,x=(y:Int):=⟨x.toNat,by omega⟩
   rw [upF_succ p k b _ hx]
   have IH:=fun T X=>ih y (acc ++ [(y:Int)]) (apS S id (intVs (acc ++ [(y:Int)]))) S.objs.length T X (by omega) (by omega) (by simp;omega) (by simp) (by rw [apS_wp];omega) (by rw [apS_len];omega) (apS_new _ _ _)
   simp only [Int.toNat_natCast]
   rw [show apAll ((y:Int) :: upF p k y) S id acc=apAll (upF p k y) (apS S id (intVs (acc ++ [(y:Int)]))) S.objs.length (acc ++ [(y:Int)]) from rfl,List.append_cons acc (y:Int) (upF p k y)]
   rw [show (acc ++ [(y:Int)]).length=acc.length+1 from by simp] at IH
   generalize apAll (upF p k y) (apS S id (intVs (acc ++ [(y:Int)]))) S.objs.length (acc ++ [(y:Int)])=Q at IH ⊢
   generalize (acc ++ [(y:Int)] ++ upF p k y).length=L at IH ⊢
   have hw:IntKind.wrap .i64 (((b+1:Nat):Int) - 1)=(b:Int):=by rw [wrap64 (by omega) (by omega)];omega
   have hpos:(0:Int)<((b+1:Nat):Int):=by omega
   have hs1:=ints_strip acc
   have hs2:=ints_one acc
   have hs3:=ints_snoc acc (y:Int)
   have hs4:=set_some hwp []
   have hs5:=newRef_ap S id
   have b1:(acc.length+1)*8≤140737488355328:=by omega
   have b2:acc.length+1≤140737488355328:=by omega
   have b3:¬ acc.length=0:=by omega
   refine evK_loop c131_7 _ _ _ _ rfl ?_
   simp (config:={implicitDefEqProofs:=false}) [-St.obj,-St.set,-zia,-zaa,hw,hpos,hx,hxe,hlt2,ho,h0,hs1,hs2,hs3,hs4,hs5,b1,b2,b3,IH,markStep,markAppend,elemsAt,-zil,-zit,-znl,-znt,ty3,ty4,ty22,H131,E131,n131_6]
theorem c131 (p:List Int)(hp:upT 0 p=true)(hl7:p.length≤7)(b:Nat)(hb:b≤p.length)(S:St)(hS:S.wp≤S.objs.length):EvF gS 131 [.slice (intVs p),.int .i64 (b:Nat)] S=some (.ret (.sref false 1 (upS p b S).2 0 (upP p b).length) none,(upS p b S).1):=by
 refine EvF_start fi234_eq (fun x h=>by cases h) m131 ?_
 rw [st131]
 have LL:=fun T X=>L131 p hp hl7 b b [(b:Int)] (nw S 0 (intVs [(b:Int)])) S.objs.length T X (Nat.le_refl _) hb (by simp;omega) (by simp) hS (by simp [nw]) (nw_obj0 _ _)
 rw [show apAll (upF p b b) (nw S 0 (intVs [(b:Int)])) S.objs.length [(b:Int)]=upS p b S from rfl,show [(b:Int)] ++ upF p b b=upP p b from rfl,show [(b:Int)].length=1 from rfl,show intVs [(b:Int)]=[.int .i64 (b:Int)] from rfl] at LL
 have hn:=newRef_nw S
 simp (config:={implicitDefEqProofs:=false}) [-St.obj,-St.set,-zia,LL,hn,markStep,-zil,-zit,-znl,-znt,ty3,ty4,ty22,H131,E131,n131_6]
theorem k131 (p:List Int)(hp:upT 0 p=true)(hl7:p.length≤7)(b:Nat)(hb:b≤p.length)(fr:Fr)(S:St)(hS:S.wp≤S.objs.length):callStep gS (EvF gS) 131 [.slice (intVs p),.int .i64 (b:Nat)] fr S=some (.ok (.val (.sref false 1 (upS p b S).2 0 (upP p b).length)) (fr.map E.noMem) (upS p b S).1):=by
 unfold callStep
 simp only [show gS.ext 131=none from rfl,fi234_eq,show fi131.pure=false from rfl,Bool.false_eq_true,if_false,c131 p hp hl7 b hb S hS,retE]
def fi112:FI:={body:=codeOf Try.f112,ntmps:=64,results:=[.tmp 6],pers:=[0,1,2,6,7,8,9],locals:=[],pure:=true,marks:=[62,1000000]}
theorem H112:fi112.marks=[62,1000000]∧fi112.locals=[]∧fi112.results=[.tmp 6]:=⟨rfl,rfl,rfl⟩
theorem fi240_eq:gS.fn 112=some fi112:=by kernel_rfl
theorem st112 (a0 a1 a2:V):startFr fi112 [a0,a1,a2]={ps:=[(0,.val a0),(1,.val a1),(2,.val a2),(6,.any),(7,.any),(8,.any),(9,.any)],ts:=[],lc:=[]}:=rfl
def b112:Code:=mini (codeOf Try.f112)
def r112_11:Array Oper:=regOps (codeN (codeOf Try.f112) 263)
def c112_11:Code:=.region 3 r112_11 true
def q112_11:List (Oper × Fl):=[(mv 16 7 22,qz0),
 (len1 17 16 22 3,qz1),
 (qB 18 .gtr 3 17 1 3 4,qz1),
 (mv 19 18 4,qz1),
 (qm 20 8 22 3 true,qz0),
 (qe 21 20 22 3 3 true,qz1),
 (qc 22 .gtr 3 21 1 3 4 3 true,qz1),
 (qP 23 19 22 false 4,qz1),
 (mv 24 23 4,qz1),
 (qm 25 7 22 8 true,qz0),
 (qm 26 7 22 8 true,qz0),
 (qe 27 26 22 3 8 true,qz0),
 (qc 28 .sub 3 27 2 3 3 8 true,qz0),
 (qi 29 22 25 28 0 8 true,qz0),
 (ql 30 3 29 3 8 true,qz0),
 (qm 31 8 22 8 true,qz0),
 (qm 32 8 22 8 true,qz0),
 (qe 33 32 22 3 8 true,qz0),
 (qc 34 .sub 3 33 2 3 3 8 true,qz3),
 (qi 35 22 31 34 0 8 true,qz3),
 (ql 36 3 35 3 8 true,qz3),
 (qb 37 .eql 3 30 36 3 4 8 true,qz3),
 (qP 38 24 37 false 4,qz3)]
def c112_12:Code:=.cond (.tmp 38) .skip (.exit 0)
def c112_10:Code:=.seq c112_11 c112_12
def c112_18:Code:=codeN b112 839
def c112_16:Code:=.seq (codeN b112 583) c112_18
def c112_15:Code:=.block 1 c112_16
def c112_9:Code:=.seq c112_10 c112_15
def c112_8:Code:=.loop c112_9
def c112_27:Code:=.cond (.tmp 53) .skip (.exit 2)
def c112_25:Code:=.seq (codeN b112 1071) c112_27
def c112_32:Code:=codeN b112 2351
def c112_33:Code:=codeN b112 1839
def c112_30:Code:=.seq (.block 3 c112_32) c112_33
def c112_24:Code:=.seq c112_25 c112_30
def c112_23:Code:=.loop c112_24
def c112_22:Code:=.block 2 c112_23
def c112_20:Code:=.seq (codeN b112 79) c112_22
def c112_34:Code:=.seq (codeN b112 95) .ret
def c112_19:Code:=.seq c112_20 c112_34
theorem e112_19:evK gS fi112 c112_19 fr st k=evK gS fi112 c112_20 fr st (.seq c112_34 k):=rfl
def c112_6:Code:=.seq (.block 0 c112_8) c112_19
def c112_4:Code:=.seq (codeN b112 11) c112_6
def c112_2:Code:=.seq (codeN b112 5) c112_4
def c112_0:Code:=.seq (codeN b112 2) c112_2
theorem E112:evK gS fi112 c112_11 fr st k=drwR gS fi112 r112_11 q112_11 fr st k ∧
 evK gS fi112 c112_12 fr st k=condK gS fi112 (fr.op (.tmp 38)).bool? .skip (.exit 0) fr st k ∧
 evK gS fi112 c112_10 fr st k=evK gS fi112 c112_11 fr st (.seq c112_12 k) ∧
 (evK gS fi112 c112_18 fr st k=opsR gS fi112 [mv 44 8 22,
 mv 45 8 22,
 len1 46 45 22 3,
 qB 47 .sub 3 46 1 3 3,
 op1 48 (.slice 22 (.tmp 44) none (some (.tmp 47)) none) 22,
 asn 8 48 22] fr st k) ∧
 (evK gS fi112 c112_16 fr st k=opsR gS fi112 [mv 39 7 22,
 mv 40 7 22,
 len1 41 40 22 3,
 qB 42 .sub 3 41 1 3 3,
 op1 43 (.slice 22 (.tmp 39) none (some (.tmp 42)) none) 22,
 asn 7 43 22] fr st (.seq c112_18 k)) ∧
 evK gS fi112 c112_15 fr st k=evK gS fi112 c112_16 fr st (.blk 1 k) ∧
 evK gS fi112 c112_9 fr st k=evK gS fi112 c112_10 fr st (.seq c112_15 k) ∧
 evK gS fi112 c112_27 fr st k=condK gS fi112 (fr.op (.tmp 53)).bool? .skip (.exit 2) fr st k ∧
 (evK gS fi112 c112_25 fr st k=opsR gS fi112 [mv 52 9 3,
 qB 53 .geq 3 52 0 3 4] fr st (.seq c112_27 k)) ∧
 (evK gS fi112 c112_32 fr st k=opsR gS fi112 [mv 56 7 22,
 mv 57 8 22,
 mv 58 9 3,
 ixa 59 22 57 58 0,
 ld 60 3 59 3,
 qS 61 22 60 22,
 qE 62 56 61 22 22,
 asn 7 62 22] fr st k) ∧
 (evK gS fi112 c112_33 fr st k=opsR gS fi112 [mv 54 9 3,
 qB 55 .sub 3 54 1 3 3,
 asn 9 55 3] fr st k) ∧
 evK gS fi112 c112_30 fr st k=evK gS fi112 c112_32 fr st (.blk 3 (.seq c112_33 k)) ∧
 evK gS fi112 c112_24 fr st k=evK gS fi112 c112_25 fr st (.seq c112_30 k) ∧
 evK gS fi112 c112_22 fr st k=evK gS fi112 c112_23 fr st (.blk 2 k) ∧
 (evK gS fi112 c112_20 fr st k=opsR gS fi112 [mv 49 8 22,
 len1 50 49 22 3,
 qB 51 .sub 3 50 2 3 3,
 asn 9 51 3] fr st (.seq c112_22 k)) ∧
 (evK gS fi112 c112_34 fr st k=opsR gS fi112 [mv 63 7 22,
 asn 6 63 22] fr st (.seq .ret k)) ∧
 evK gS fi112 c112_6 fr st k=evK gS fi112 c112_8 fr st (.blk 0 (.seq c112_19 k)) ∧
 (evK gS fi112 c112_4 fr st k=opsR gS fi112 [mv 13 0 22,
 mv 14 2 3,
 cal 15 131 [(.tmp 13),(.tmp 14)] [22,3] 22,
 asn 8 15 22] fr st (.seq c112_6 k)) ∧
 (evK gS fi112 c112_2 fr st k=opsR gS fi112 [mv 10 0 22,
 mv 11 1 3,
 cal 12 131 [(.tmp 10),(.tmp 11)] [22,3] 22,
 asn 7 12 22] fr st (.seq c112_4 k)) ∧
 evK gS fi112 c112_0 fr st k=opsR gS fi112 [qN 6 22] fr st (.seq c112_2 k):=⟨evK_dr 3 rfl (by kernel_rfl) (by kernel_rfl),rfl,rfl,evK_r 5 (by kernel_rfl),evK_rs 4 rfl (by kernel_rfl),rfl,rfl,rfl,evK_rs 7 rfl (by kernel_rfl),evK_r 9 (by kernel_rfl),evK_r 8 (by kernel_rfl),rfl,rfl,rfl,evK_rs 6 rfl (by kernel_rfl),evK_rs 10 rfl (by kernel_rfl),rfl,evK_rs 2 rfl (by kernel_rfl),evK_rs 1 rfl (by kernel_rfl),evK_rs 0 rfl (by kernel_rfl)⟩
theorem m112:mini fi112.body=c112_0:=by kernel_rfl
theorem n112_8 (fr:Fr)(st:St)(k:Kt):nextK gS fi112 (.loop c112_9 k) .normal fr st=evK gS fi112 c112_8 fr st k:=rfl
theorem n112_23 (fr:Fr)(st:St)(k:Kt):nextK gS fi112 (.loop c112_24 k) .normal fr st=evK gS fi112 c112_23 fr st k:=rfl
theorem L112_8 (A B:List Int)(S:St)(ida idb:Nat)(hA:St.obj S ida=some (intVs A))(hB:St.obj S idb=some (intVs B))(hA1:A.length<1000)(hB1:B.length<1000)(R:Out × St)(e0 e1 e2:E)(t0:e0.Tame)(t1:e1.Tame)(t2:e2.Tame)(X:List (Nat × List V)):∀ (k a b:Nat) (T:List (Nat × E))
  (H:∀ T,evK gS fi112 c112_19 {ps:=[(0,e0),(1,e1),(2,e2),(6,.own 0 []),(7,.val (.sref false 1 ida 0 (trimN A B k a b).1)),(8,.val (.sref false 1 idb 0 (trimN A B k a b).2)),(9,.any)],ts:=T,lc:=X} S .nil=some R),a≤k+1→a≤A.length→b≤B.length→evK gS fi112 c112_8 {ps:=[(0,e0),(1,e1),(2,e2),(6,.own 0 []),(7,.val (.sref false 1 ida 0 a)),(8,.val (.sref false 1 idb 0 b)),(9,.any)],ts:=T,lc:=X} S (.blk 0 (.seq c112_19 .nil))=some R:=by
 intro k
 have hno:∀ (a b:Nat) (T:List (Nat × E)) (H:∀ T,evK gS fi112 c112_19 {ps:=[(0,e0),(1,e1),(2,e2),(6,.own 0 []),(7,.val (.sref false 1 ida 0 a)),(8,.val (.sref false 1 idb 0 b)),(9,.any)],ts:=T,lc:=X} S .nil=some R),a≤A.length→b≤B.length→¬ (1<a∧1<b∧A[a - 2]?=B[b - 2]?) →
   evK gS fi112 c112_8 {ps:=[(0,e0),(1,e1),(2,e2),(6,.own 0 []),(7,.val (.sref false 1 ida 0 a)),(8,.val (.sref false 1 idb 0 b)),(9,.any)],ts:=T,lc:=X} S (.blk 0 (.seq c112_19 .nil))=some R:=by
  intro a b T H ha hb hc
  refine evK_loop c112_9 _ _ _ _ rfl ?_
  by_cases c1:1<a
  ·have d1:(1:Int)<(a:Int):=by omega
   have w1:IntKind.wrap .i64 ((a:Int) - 2)=((a - 2:Nat):Int):=by rw [wrap64 (by omega) (by omega)];omega
   obtain ⟨x,hx⟩:∃ x,A[a - 2]?=some x:=⟨A[a - 2]'(by omega),zge (by omega)⟩
   obtain ⟨x1,x2⟩:=List.getElem?_eq_some_iff.1 hx
   have x3:((a - 2:Nat):Int)<(a:Int):=by omega
   have x4:a - 2<a:=by omega
   by_cases c2:1<b
   ·have d2:(1:Int)<(b:Int):=by omega
    have w2:IntKind.wrap .i64 ((b:Int) - 2)=((b - 2:Nat):Int):=by rw [wrap64 (by omega) (by omega)];omega
    obtain ⟨y,hy⟩:∃ y,B[b - 2]?=some y:=⟨B[b - 2]'(by omega),zge (by omega)⟩
    obtain ⟨y1,y2⟩:=List.getElem?_eq_some_iff.1 hy
    have y3:((b - 2:Nat):Int)<(b:Int):=by omega
    have y4:b - 2<b:=by omega
    have hne:¬ x=y:=fun e=>hc ⟨c1,c2,by rw [hx,hy,e]⟩
    generalize a - 2=p at *
    generalize b - 2=q at *
    simp (config:={implicitDefEqProofs:=false}) [-St.obj,-St.set,-zia,hA,hB,c1,c2,d1,d2,w1,w2,x1,x2,x3,x4,y1,y2,y3,y4,hx,hy,hne,t0,t1,t2,H,-zil,-zit,-znl,-znt,ty3,ty4,ty22,H112,fi234_eq,E112,q112_11,n112_8,n112_23]
   ·have d2:¬ (1:Int)<(b:Int):=by omega
    simp (config:={implicitDefEqProofs:=false}) [-St.obj,-St.set,-zia,hA,hB,c1,c2,d1,d2,t0,t1,t2,H,-zil,-zit,-znl,-znt,ty3,ty4,ty22,H112,fi234_eq,E112,q112_11,n112_8,n112_23]
  ·have d1:¬ (1:Int)<(a:Int):=by omega
   simp (config:={implicitDefEqProofs:=false}) [-St.obj,-St.set,-zia,c1,d1,t0,t1,t2,H,-zil,-zit,-znl,-znt,ty3,ty4,ty22,H112,fi234_eq,E112,q112_11,n112_8,n112_23]
 induction k with
 | zero =>
  intro a b T H hk ha hb
  exact hno a b T H ha hb (by omega)
 | succ k ih =>
  intro a b T H hk ha hb
  unfold trimN at H
  by_cases hc:1<a∧1<b∧A[a - 2]?=B[b - 2]?
  ·rw [if_pos hc] at H
   obtain ⟨c1,c2,c3⟩:=hc
   have IH:=fun T=>ih (a - 1) (b - 1) T H (by omega) (by omega) (by omega)
   have d1:(1:Int)<(a:Int):=by omega
   have w1:IntKind.wrap .i64 ((a:Int) - 2)=((a - 2:Nat):Int):=by rw [wrap64 (by omega) (by omega)];omega
   have v1:IntKind.wrap .i64 ((a:Int) - 1)=((a - 1:Nat):Int):=by rw [wrap64 (by omega) (by omega)];omega
   obtain ⟨x,hx⟩:∃ x,A[a - 2]?=some x:=⟨A[a - 2]'(by omega),zge (by omega)⟩
   obtain ⟨x1,x2⟩:=List.getElem?_eq_some_iff.1 hx
   have x3:((a - 2:Nat):Int)<(a:Int):=by omega
   have x4:a - 2<a:=by omega
   have d2:(1:Int)<(b:Int):=by omega
   have w2:IntKind.wrap .i64 ((b:Int) - 2)=((b - 2:Nat):Int):=by rw [wrap64 (by omega) (by omega)];omega
   have v2:IntKind.wrap .i64 ((b:Int) - 1)=((b - 1:Nat):Int):=by rw [wrap64 (by omega) (by omega)];omega
   have hy:B[b - 2]?=some x:=by rw [← c3];exact hx
   obtain ⟨y1,y2⟩:=List.getElem?_eq_some_iff.1 hy
   have y3:((b - 2:Nat):Int)<(b:Int):=by omega
   have y4:b - 2<b:=by omega
   have g1:((a - 1:Nat):Int)≤(a:Int):=by omega
   have g2:((b - 1:Nat):Int)≤(b:Int):=by omega
   have i1:a - 1≤a:=by omega
   have i2:b - 1≤b:=by omega
   have n1:¬ 0=a - 1:=by omega
   have n2:¬ 0=b - 1:=by omega
   have n3:¬ a - 1=0:=by omega
   have n4:¬ b - 1=0:=by omega
   refine evK_loop c112_9 _ _ _ _ rfl ?_
   generalize a - 2=p at *
   generalize b - 2=q at *
   generalize a - 1=p1 at *
   generalize b - 1=q1 at *
   simp (config:={implicitDefEqProofs:=false}) [-St.obj,-St.set,-zia,hA,hB,c1,c2,d1,d2,w1,w2,v1,v2,x1,x2,x3,x4,y1,y2,y3,y4,hx,hy,g1,g2,i1,i2,n1,n2,n3,n4,t0,t1,t2,IH,-zil,-zit,-znl,-znt,ty3,ty4,ty22,H112,fi234_eq,E112,q112_11,n112_8,n112_23]
  ·rw [if_neg hc] at H
   exact hno a b T H ha hb hc
theorem L112_23 (B:List Int)(b idb:Nat)(hb:b≤B.length)(hB1:B.length<1000)(e0 e1 e2:E)(t0:e0.Tame)(t1:e1.Tame)(t2:e2.Tame)(X:List (Nat × List V)):∀ (n:Nat) (acc C:List Int) (S:St) (ida:Nat) (T:List (Nat × E)),n≤b→0<acc.length→acc.length+n<100000 →
  St.obj S ida=some (intVs C)→acc.length≤C.length→C.take acc.length=acc→S.wp≤ida→ida<S.objs.length→St.obj S idb=some (intVs B)→idb<S.objs.length→ida≠idb →
  evK gS fi112 c112_23 {ps:=[(0,e0),(1,e1),(2,e2),(6,.own 0 []),(7,.val (.sref false 1 ida 0 acc.length)),(8,.val (.sref false 1 idb 0 b)),(9,.val (.int .i64 (((n:Nat):Int) - 1)))],ts:=T,lc:=X} S (.blk 2 (.seq c112_34 .nil))=some (.ret (.slice (intVs (acc ++ (B.take n).reverse))) none,finS (B.take n).reverse S ida acc):=by
 intro n
 have hm:fi112.marks=[62,1000000]:=rfl
 have hl:fi112.locals=[]:=rfl
 have hr:fi112.results=[.tmp 6]:=rfl
 induction n with
 | zero =>
  intro acc C S ida T hn h0 ha hA hl hC hw hi hB hib hne
  rw [show (((0:Nat):Int) - 1) = -1 from rfl,List.take_zero,List.reverse_nil,List.append_nil]
  have hz:=frz_ref hA hw h0 hl
  rw [hC] at hz
  rw [show finS [] S ida acc={objs:=S.objs.set ida [],wp:=S.wp} from rfl]
  refine evK_loop c112_24 _ _ _ _ rfl ?_
  simp (config:={implicitDefEqProofs:=false}) [-St.obj,-St.set,hz,t0,t1,t2,-zil,-zit,-znl,-znt,ty3,ty4,ty22,hm,hl,hr,fi234_eq,E112,q112_11,e112_19,n112_8,n112_23]
 | succ n ih =>
  intro acc C S ida T hn h0 ha hA hl hC hwp hi hB hib hne
  rw [show (((n+1:Nat):Int) - 1)=(n:Int) from by omega]
  obtain ⟨x,hx⟩  := qgx (l:=B) (i:=n) (by omega)
  obtain ⟨x1,x2⟩:=List.getElem?_eq_some_iff.1 hx
  have x3:(n:Int)<(b:Int):=by omega
  have x4:n<b:=by omega
  rw [take_rev B n x hx]
  rw [show finS (x :: (B.take n).reverse) S ida acc=finS (B.take n).reverse (apS S ida (intVs (acc ++ [x]))) S.objs.length (acc ++ [x]) from rfl,List.append_cons acc x (B.take n).reverse]
  have IH:=fun T=>ih (acc ++ [x]) (acc ++ [x]) (apS S ida (intVs (acc ++ [x]))) S.objs.length T (by omega) (by simp) (by simp;omega) (apS_new _ _ _) (Nat.le_refl _) (List.take_length) (by rw [apS_wp];omega) (by rw [apS_len];omega) (by rw [apS_old _ _ _ (Ne.symm hne) hib];exact hB) (by rw [apS_len];omega) (by omega)
  rw [show (acc ++ [x]).length=acc.length+1 from by simp] at IH
  generalize finS (B.take n).reverse (apS S ida (intVs (acc ++ [x]))) S.objs.length (acc ++ [x])=Q at IH ⊢
  generalize intVs (acc ++ [x] ++ (B.take n).reverse)=L at IH ⊢
  have hw:IntKind.wrap .i64 ((n:Int) - 1)=(n:Int) - 1:=by rw [wrap64 (by omega) (by omega)]
  have hge:(0:Int)≤(n:Int):=by omega
  have hs1:=ints_strip acc
  have hs2:=ints_one acc
  have hs3:=ints_snoc acc x
  have hs4:=set_some hwp []
  have hs5:=newRef_ap S ida
  have b1:(acc.length+1)*8≤140737488355328:=by omega
  have b2:acc.length+1≤140737488355328:=by omega
  have b3:¬ acc.length=0:=by omega
  refine evK_loop c112_24 _ _ _ _ rfl ?_
  rcases Nat.lt_or_ge acc.length C.length with hlc | hlc
  ·have hC2:(intVs C).take acc.length=intVs acc:=by rw [ints_take,hC]
   have hlc2:¬ C.length=acc.length:=by omega
   simp (config:={implicitDefEqProofs:=false}) [-St.obj,-St.set,-zia,-zaa,hw,hge,hx,x1,x2,x3,x4,hA,hB,h0,hs1,hs2,hs3,hs4,hs5,b1,b2,b3,hC2,hlc,hlc2,t0,t1,t2,IH,markStep,markAppend,elemsAt,-zil,-zit,-znl,-znt,ty3,ty4,ty22,hm,hl,hr,fi234_eq,E112,q112_11,e112_19,n112_8,n112_23]
  ·obtain rfl:C=acc:=by rw [List.take_of_length_le hlc] at hC;exact hC
   simp (config:={implicitDefEqProofs:=false}) [-St.obj,-St.set,-zia,-zaa,hw,hge,hx,x1,x2,x3,x4,hA,hB,h0,hs1,hs2,hs3,hs4,hs5,b1,b2,b3,t0,t1,t2,IH,markStep,markAppend,elemsAt,-zil,-zit,-znl,-znt,ty3,ty4,ty22,hm,hl,hr,fi234_eq,E112,q112_11,e112_19,n112_8,n112_23]
theorem c112 (p:List Int)(hp:upT 0 p=true)(hl7:p.length≤7)(a b:Nat)(ha:a≤p.length)(hb:b≤p.length)(S:St)(hS:S.wp≤S.objs.length):∃ st',EvF gS 112 [.slice (intVs p),.int .i64 (a:Nat),.int .i64 (b:Nat)] S=some (.ret (.slice (intVs (pathT p a b))) none,st'):=by
 obtain ⟨f1,f2,f3,f4,f5,f6⟩:=upS_facts p a S hS
 have k1:=fun fr=>k131 p hp hl7 a ha fr S hS
 have hS1:(upS p a S).1.wp≤(upS p a S).1.objs.length:=by omega
 obtain ⟨g1,g2,g3,g4,g5,g6⟩:=upS_facts p b (upS p a S).1 hS1
 have k2:=fun fr=>k131 p hp hl7 b hb fr (upS p a S).1 hS1
 have la:=upP_len p a
 have lb:=upP_len p b
 have f1':=(g6 _ f4).trans f1
 unfold pathT
 generalize upP p a=A at *
 generalize upP p b=B at *
 generalize upS p b (upS p a S).1=Q2 at *
 generalize upS p a S=Q1 at *
 obtain ⟨S1,ida⟩:=Q1
 obtain ⟨S2,idb⟩:=Q2
 simp only at *
 have ht:=trimN_le A B 100 A.length B.length la.1 lb.1
 have hw1:S2.wp≤ida:=by omega
 have hne:ida≠idb:=by omega
 have hl2:ida<S2.objs.length:=by omega
 refine ⟨finS (B.take ((trimN A B 100 A.length B.length).2 - 1)).reverse S2 ida (A.take (trimN A B 100 A.length B.length).1),?_⟩
 refine EvF_start fi240_eq (fun x h=>by cases h) m112 ?_
 rw [st112]
 have LL:=fun R e0 e1 e2 t0 t1 t2 X T H=>L112_8 A B S2 ida idb f1' g1 (by omega) (by omega) R e0 e1 e2 t0 t1 t2 X 100 A.length B.length T H (by omega) (Nat.le_refl _) (Nat.le_refl _)
 unfold joinT
 generalize trimN A B 100 A.length B.length=q at *
 obtain ⟨qa,qb⟩:=q
 simp only at *
 have hta:(A.take qa).length=qa:=by simp;omega
 have MM:=fun e0 e1 e2 t0 t1 t2 X T=>L112_23 B qb idb (by omega) (by omega) e0 e1 e2 t0 t1 t2 X (qb - 1) (A.take qa) A S2 ida T (by omega) (by omega) (by omega) f1' (by omega) (by rw [hta]) hw1 hl2 g1 g4 hne
 rw [hta] at MM
 generalize hR:(Out.ret (V.slice (intVs (A.take qa ++ (B.take (qb - 1)).reverse))) none,finS (B.take (qb - 1)).reverse S2 ida (A.take qa))=R at *
 have hv:IntKind.wrap .i64 ((qb:Int) - 2)=((qb - 1:Nat):Int) - 1:=by rw [wrap64 (by omega) (by omega)];omega
 simp (config:={implicitDefEqProofs:=false}) [-St.obj,-St.set,-zia,k1,k2,-zil,-zit,-znl,-znt,ty3,ty4,ty22,H112,fi234_eq,E112,q112_11,e112_19,n112_8,n112_23]
 refine LL _ _ _ _ ?_ ?_ ?_ _ _ (fun T=>?_)
 ·simp
 ·simp
 ·simp
 simp (config:={implicitDefEqProofs:=false}) [-St.obj,-St.set,-zia,hv,-zil,-zit,-znl,-znt,ty3,ty4,ty22,H112,fi234_eq,E112,q112_11,e112_19,n112_8,n112_23]
 refine MM _ _ _ ?_ ?_ ?_ _ _
 all_goals simp
theorem k112 (p:List Int)(hp:upT 0 p=true)(hl7:p.length≤7)(a b:Nat)(ha:a≤p.length)(hb:b≤p.length)(fr:Fr)(st:St):callStep gS (EvF gS) 112 [.slice (intVs p),.int .i64 (a:Nat),.int .i64 (b:Nat)] fr st=some (.ok (.val (.slice (intVs (pathT p a b)))) fr st) :=
 call_pure' rfl fi240_eq rfl (by simp [flats,V.flat]) (c112 p hp hl7 a b ha hb ⟨[],0⟩ (Nat.le_refl _)) (by simp [V.flat])
def fi94:FI:={body:=codeOf Try.f94,ntmps:=23,results:=[.tmp 6],pers:=[0,1,2,6],locals:=[],pure:=true,marks:=[]}
theorem H94:fi94.marks=[]∧fi94.locals=[]∧fi94.results=[.tmp 6]:=⟨rfl,rfl,rfl⟩
theorem fi236_eq:gS.fn 94=some fi94:=by kernel_rfl
theorem st94 (a0 a1 a2:V):startFr fi94 [a0,a1,a2]={ps:=[(0,.val a0),(1,.val a1),(2,.val a2),(6,.any)],ts:=[],lc:=[]}:=rfl
def b94:Code:=mini (codeOf Try.f94)
def c94_6:Code:=.seq (codeN b94 37) .ret
def c94_5:Code:=.cond (.tmp 16) c94_6 .skip
def c94_3:Code:=.seq (codeN b94 9) c94_5
def c94_10:Code:=.seq (codeN b94 11) .ret
def c94_2:Code:=.seq c94_3 c94_10
def c94_0:Code:=.seq (codeN b94 2) c94_2
theorem E94:evK gS fi94 c94_6 fr st k=opsR gS fi94 [qI 6 (-1) 3] fr st (.seq .ret k) ∧
 evK gS fi94 c94_5 fr st k=condK gS fi94 (fr.op (.tmp 16)).bool? c94_6 .skip fr st k ∧
 (evK gS fi94 c94_3 fr st k=opsR gS fi94 [mv 7 0 22,
 mv 8 1 3,
 cal 9 93 [(.tmp 7),(.tmp 8)] [22,3] 4,
 op1 10 (.unOp .not 4 (.tmp 9)) 4,
 mv 11 10 4,
 qm 12 0 22 4 false,
 qm 13 2 3 4 false,
 mk (some 14) (.call {callee:=(.value (.func 93)),args:=#[(.tmp 12),(.tmp 13)],argTypes:=#[22,3]}) 4 (some (4,false)),
 mk (some 15) (.unOp .not 4 (.tmp 14)) 4 (some (4,false)),
 qQ 16 11 true 15 4] fr st (.seq c94_5 k)) ∧
 (evK gS fi94 c94_10 fr st k=opsR gS fi94 [mv 17 0 22,
 mv 18 1 3,
 mv 19 2 3,
 cal 20 112 [(.tmp 17),(.tmp 18),(.tmp 19)] [22,3,3] 22,
 len1 21 20 22 3,
 qB 22 .sub 3 21 1 3 3,
 asn 6 22 3] fr st (.seq .ret k)) ∧
 evK gS fi94 c94_2 fr st k=evK gS fi94 c94_3 fr st (.seq c94_10 k) ∧
 evK gS fi94 c94_0 fr st k=opsR gS fi94 [qI 6 0 3] fr st (.seq c94_2 k):=⟨evK_rs 2 rfl (by kernel_rfl),rfl,evK_rs 1 rfl (by kernel_rfl),evK_rs 3 rfl (by kernel_rfl),rfl,evK_rs 0 rfl (by kernel_rfl)⟩
theorem m94:mini fi94.body=c94_0:=by kernel_rfl
theorem c94 (p:List Int)(hpl:p.length<4611686018427387904)(a b:Int)(st:St):EvF gS 94 [.slice (intVs p),.int .i64 a,.int .i64 b] st=some (.ret (.int .i64 (distT p a b)) none,st):=by
 refine EvF_start fi236_eq (fun x h=>by cases h) m94 ?_
 rw [st94]
 have ka:=fun fr st=>k93 p a hpl fr st
 have kb:=fun fr st=>k93 p b hpl fr st
 unfold distT
 cases ha:isT p a with
 | false=>rw [ha] at ka;simp [ka,-zil,-zit,-znl,-znt,ty3,ty4,ty22,H94,E94]
 | true =>
  cases hb:isT p b with
  | false=>rw [ha] at ka;rw [hb] at kb;simp [ka,kb,-zil,-zit,-znl,-znt,ty3,ty4,ty22,H94,E94]
  | true =>
   obtain ⟨h1,h2,i,rfl,hi⟩:=is_nat ha
   obtain ⟨_,_,j,rfl,hj⟩:=is_nat hb
   rw [ha] at ka;rw [hb] at kb
   have kp:=fun fr st=>k112 p h1 h2 i j hi hj fr st
   have hl1:=joinT_len (upP p i) (upP p j) (upP_len p i).1 (upP_len p j).1
   have hl2:=(upP_len p i).2
   have hl3:=(upP_len p j).2
   rw [show joinT (upP p i) (upP p j)=pathT p i j from rfl] at hl1
   have hw:IntKind.wrap .i64 (((pathT p i j).length:Int) - 1)=((pathT p i j).length:Int) - 1:=by rw [wrap64 (by omega) (by omega)]
   simp only [Int.toNat_natCast]
   generalize pathT p i j=P at *
   simp (config:={implicitDefEqProofs:=false}) [-zia,ka,kb,kp,hw,-zil,-zit,-znl,-znt,ty3,ty4,ty22,H94,E94]
theorem k94 (p:List Int)(hpl:p.length<4611686018427387904)(a b:Int)(fr:Fr)(st:St):callStep gS (EvF gS) 94 [.slice (intVs p),.int .i64 a,.int .i64 b] fr st=some (.ok (.val (.int .i64 (distT p a b))) fr st) :=
 call_pure rfl fi236_eq rfl (fun st=>c94 p hpl a b st) (by simp [V.flat])
def fi67:FI:={body:=codeOf Try.f67,ntmps:=64,results:=[.tmp 4],pers:=[0,1,4,5,6,7,8,9,10],locals:=[],pure:=true,marks:=[]}
theorem H67:fi67.marks=[]∧fi67.locals=[]∧fi67.results=[.tmp 4]:=⟨rfl,rfl,rfl⟩
theorem fi237_eq:gS.fn 67=some fi67:=by kernel_rfl
theorem st67 (a0 a1:V):startFr fi67 [a0,a1]={ps:=[(0,.val a0),(1,.val a1),(4,.any),(5,.any),(6,.any),(7,.any),(8,.any),(9,.any),(10,.any)],ts:=[],lc:=[]}:=rfl
def b67:Code:=mini (codeOf Try.f67)
def c67_14:Code:=.cond (.tmp 14) .skip (.exit 0)
def c67_12:Code:=.seq (codeN b67 535) c67_14
def c67_22:Code:=.seq (codeN b67 9367) .ret
def c67_21:Code:=.cond (.tmp 23) c67_22 .skip
def c67_19:Code:=.seq (codeN b67 2199) c67_21
def c67_26:Code:=codeN b67 919
def c67_17:Code:=.seq (.block 1 c67_19) c67_26
def c67_11:Code:=.seq c67_12 c67_17
def c67_10:Code:=.loop c67_11
def c67_9:Code:=.block 0 c67_10
def c67_7:Code:=.seq (codeN b67 39) c67_9
def c67_35:Code:=.cond (.tmp 36) .skip (.exit 2)
def c67_33:Code:=.seq (codeN b67 1071) c67_35
def c67_50:Code:=.cond (.tmp 42) .skip (.exit 4)
def c67_48:Code:=.seq (codeN b67 272687) c67_50
def c67_55:Code:=codeN b67 600367
def c67_56:Code:=codeN b67 469295
def c67_53:Code:=.seq (.block 5 c67_55) c67_56
def c67_47:Code:=.seq c67_48 c67_53
def c67_46:Code:=.loop c67_47
def c67_45:Code:=.block 4 c67_46
def c67_43:Code:=.seq (codeN b67 18735) c67_45
def c67_60:Code:=codeN b67 47407
def c67_59:Code:=.cond (.tmp 60) c67_60 .skip
def c67_57:Code:=.seq (codeN b67 22831) c67_59
theorem e67_57:evK gS fi67 c67_57 fr st k=opsR gS fi67 [mv 54 5 3,
 qB 55 .lss 3 54 0 3 4,
 mv 56 55 4,
 qm 57 9 3 2 false,
 qm 58 6 3 2 false,
 qb 59 .lss 3 57 58 3 4 2 false,
 qQ 60 56 true 59 4] fr st (.seq c67_59 k):=evK_rs 16 rfl (by kernel_rfl)
def c67_42:Code:=.seq c67_43 c67_57
def c67_40:Code:=.seq (codeN b67 4399) c67_42
def c67_62:Code:=codeN b67 1839
def c67_38:Code:=.seq (.block 3 c67_40) c67_62
def c67_32:Code:=.seq c67_33 c67_38
def c67_31:Code:=.loop c67_32
def c67_30:Code:=.block 2 c67_31
def c67_28:Code:=.seq (codeN b67 79) c67_30
def c67_63:Code:=.seq (codeN b67 95) .ret
def c67_27:Code:=.seq c67_28 c67_63
theorem e67_27:evK gS fi67 c67_27 fr st k=evK gS fi67 c67_28 fr st (.seq c67_63 k):=rfl
def c67_6:Code:=.seq c67_7 c67_27
def c67_4:Code:=.seq (codeN b67 11) c67_6
def c67_2:Code:=.seq (codeN b67 5) c67_4
def c67_0:Code:=.seq (codeN b67 2) c67_2
theorem E67:evK gS fi67 c67_14 fr st k=condK gS fi67 (fr.op (.tmp 14)).bool? .skip (.exit 0) fr st k ∧
 (evK gS fi67 c67_12 fr st k=opsR gS fi67 [mv 11 7 3,
 mv 12 1 22,
 len1 13 12 22 3,
 bop 14 .lss 3 11 13 3 4] fr st (.seq c67_14 k)) ∧
 evK gS fi67 c67_22 fr st k=opsR gS fi67 [qI 4 (-1) 3] fr st (.seq .ret k) ∧
 evK gS fi67 c67_21 fr st k=condK gS fi67 (fr.op (.tmp 23)).bool? c67_22 .skip fr st k ∧
 (evK gS fi67 c67_19 fr st k=opsR gS fi67 [mv 17 0 22,
 mv 18 1 22,
 mv 19 7 3,
 ixa 20 22 18 19 0,
 ld 21 3 20 3,
 cal 22 93 [(.tmp 17),(.tmp 21)] [22,3] 4,
 op1 23 (.unOp .not 4 (.tmp 22)) 4] fr st (.seq c67_21 k)) ∧
 (evK gS fi67 c67_26 fr st k=opsR gS fi67 [mv 15 7 3,
 qB 16 .add 3 15 1 3 3,
 asn 7 16 3] fr st k) ∧
 evK gS fi67 c67_17 fr st k=evK gS fi67 c67_19 fr st (.blk 1 (.seq c67_26 k)) ∧
 evK gS fi67 c67_11 fr st k=evK gS fi67 c67_12 fr st (.seq c67_17 k) ∧
 evK gS fi67 c67_9 fr st k=evK gS fi67 c67_10 fr st (.blk 0 k) ∧
 evK gS fi67 c67_7 fr st k=opsR gS fi67 [qI 7 0 3] fr st (.seq c67_9 k) ∧
 evK gS fi67 c67_35 fr st k=condK gS fi67 (fr.op (.tmp 36)).bool? .skip (.exit 2) fr st k ∧
 (evK gS fi67 c67_33 fr st k=opsR gS fi67 [mv 24 0 22,
 cal 25 64 [(.tmp 24)] [22] 4,
 mv 26 25 4,
 qm 27 1 22 2 true,
 qe 28 27 22 3 2 true,
 qc 29 .gtr 3 28 0 3 4 2 true,
 qP 30 26 29 false 4,
 mv 31 30 4,
 qm 32 8 3 7 true,
 qm 33 0 22 7 true,
 qe 34 33 22 3 7 true,
 qb 35 .leq 3 32 34 3 4 7 true,
 qP 36 31 35 false 4] fr st (.seq c67_35 k)) ∧
 evK gS fi67 c67_50 fr st k=condK gS fi67 (fr.op (.tmp 42)).bool? .skip (.exit 4) fr st k ∧
 (evK gS fi67 c67_48 fr st k=opsR gS fi67 [mv 39 10 3,
 mv 40 1 22,
 len1 41 40 22 3,
 bop 42 .lss 3 39 41 3 4] fr st (.seq c67_50 k)) ∧
 (evK gS fi67 c67_55 fr st k=opsR gS fi67 [mv 45 9 3,
 mv 46 0 22,
 mv 47 8 3,
 mv 48 1 22,
 mv 49 10 3,
 ixa 50 22 48 49 0,
 ld 51 3 50 3,
 cal 52 94 [(.tmp 46),(.tmp 47),(.tmp 51)] [22,3,3] 3,
 bop 53 .add 3 45 52 3 3,
 asn 9 53 3] fr st k) ∧
 (evK gS fi67 c67_56 fr st k=opsR gS fi67 [mv 43 10 3,
 qB 44 .add 3 43 1 3 3,
 asn 10 44 3] fr st k) ∧
 evK gS fi67 c67_53 fr st k=evK gS fi67 c67_55 fr st (.blk 5 (.seq c67_56 k)) ∧
 evK gS fi67 c67_47 fr st k=evK gS fi67 c67_48 fr st (.seq c67_53 k) ∧
 evK gS fi67 c67_45 fr st k=evK gS fi67 c67_46 fr st (.blk 4 k) ∧
 evK gS fi67 c67_43 fr st k=opsR gS fi67 [qI 10 0 3] fr st (.seq c67_45 k) ∧
 (evK gS fi67 c67_60 fr st k=opsR gS fi67 [mv 61 8 3,
 mv 62 9 3,
 asn 5 61 3,
 asn 6 62 3] fr st k) ∧
 evK gS fi67 c67_59 fr st k=condK gS fi67 (fr.op (.tmp 60)).bool? c67_60 .skip fr st k ∧
 evK gS fi67 c67_42 fr st k=evK gS fi67 c67_43 fr st (.seq c67_57 k) ∧
 evK gS fi67 c67_40 fr st k=opsR gS fi67 [qI 9 0 3] fr st (.seq c67_42 k) ∧
 (evK gS fi67 c67_62 fr st k=opsR gS fi67 [mv 37 8 3,
 qB 38 .add 3 37 1 3 3,
 asn 8 38 3] fr st k) ∧
 evK gS fi67 c67_38 fr st k=evK gS fi67 c67_40 fr st (.blk 3 (.seq c67_62 k)) ∧
 evK gS fi67 c67_32 fr st k=evK gS fi67 c67_33 fr st (.seq c67_38 k) ∧
 evK gS fi67 c67_30 fr st k=evK gS fi67 c67_31 fr st (.blk 2 k) ∧
 evK gS fi67 c67_28 fr st k=opsR gS fi67 [qI 8 0 3] fr st (.seq c67_30 k) ∧
 (evK gS fi67 c67_63 fr st k=opsR gS fi67 [mv 63 5 3,
 asn 4 63 3] fr st (.seq .ret k)) ∧
 evK gS fi67 c67_6 fr st k=evK gS fi67 c67_7 fr st (.seq c67_27 k) ∧
 evK gS fi67 c67_4 fr st k=opsR gS fi67 [qI 6 0 3] fr st (.seq c67_6 k) ∧
 evK gS fi67 c67_2 fr st k=opsR gS fi67 [qI 5 (-1) 3] fr st (.seq c67_4 k) ∧
 evK gS fi67 c67_0 fr st k=opsR gS fi67 [qI 4 0 3] fr st (.seq c67_2 k):=⟨rfl,evK_rs 4 rfl (by kernel_rfl),evK_rs 7 rfl (by kernel_rfl),rfl,evK_rs 6 rfl (by kernel_rfl),evK_r 5 (by kernel_rfl),rfl,rfl,rfl,evK_rs 3 rfl (by kernel_rfl),rfl,evK_rs 9 rfl (by kernel_rfl),rfl,evK_rs 13 rfl (by kernel_rfl),evK_r 15 (by kernel_rfl),evK_r 14 (by kernel_rfl),rfl,rfl,rfl,evK_rs 12 rfl (by kernel_rfl),evK_r 17 (by kernel_rfl),rfl,rfl,evK_rs 11 rfl (by kernel_rfl),evK_r 10 (by kernel_rfl),rfl,rfl,rfl,evK_rs 8 rfl (by kernel_rfl),evK_rs 18 rfl (by kernel_rfl),rfl,evK_rs 2 rfl (by kernel_rfl),evK_rs 1 rfl (by kernel_rfl),evK_rs 0 rfl (by kernel_rfl)⟩
theorem m67:mini fi67.body=c67_0:=by kernel_rfl
theorem n67_10 (fr:Fr)(st:St)(k:Kt):nextK gS fi67 (.loop c67_11 k) .normal fr st=evK gS fi67 c67_10 fr st k:=rfl
theorem n67_46 (fr:Fr)(st:St)(k:Kt):nextK gS fi67 (.loop c67_47 k) .normal fr st=evK gS fi67 c67_46 fr st k:=rfl
theorem n67_31 (fr:Fr)(st:St)(k:Kt):nextK gS fi67 (.loop c67_32 k) .normal fr st=evK gS fi67 c67_31 fr st k:=rfl
theorem LQ1 (p:List Int)(hp:rightT p=true)(hp7:p.length≤7)(l:List Int)(hll:l.length<1000000)(hyl:∀ y∈l,isT p y=true)(S:St)(R:Out × St)
  (H:∀ (e8 e9 e10:E) (T:List (Nat × E)) (X:List (Nat × List V)),e8.Tame→e9.Tame→e10.Tame→evK gS fi67 c67_27 {ps:=[(0,.val (.slice (intVs p))),(1,.val (.slice (intVs l))),(4,.val (.int .i64 0)),(5,.val (.int .i64 (-1))),(6,.val (.int .i64 0)),(7,.val (.int .i64 l.length)),(8,e8),(9,e9),(10,e10)],ts:=T,lc:=X} S .nil=some R) :
  ∀ (m q:Nat) (e8 e9 e10:E) (T:List (Nat × E)) (X:List (Nat × List V)) (h8:e8.Tame) (h9:e9.Tame) (h10:e10.Tame),q≤l.length→l.length - q=m →
  evK gS fi67 c67_10 {ps:=[(0,.val (.slice (intVs p))),(1,.val (.slice (intVs l))),(4,.val (.int .i64 0)),(5,.val (.int .i64 (-1))),(6,.val (.int .i64 0)),(7,.val (.int .i64 (q:Nat))),(8,e8),(9,e9),(10,e10)],ts:=T,lc:=X} S (.blk 0 (.seq c67_27 .nil))=some R:=by
 intro m
 induction m with
 | zero =>
  intro q e8 e9 e10 T X h8 h9 h10 hq hm2
  obtain rfl:q=l.length:=by omega
  refine evK_loop c67_11 _ _ _ _ rfl ?_
  simp (config:={implicitDefEqProofs:=false}) [-zia,-St.obj,-St.set,h8,h9,h10,-zil,-zit,-znl,-znt,ty3,ty4,ty22,H67,E67,e67_57,n67_10,n67_46,n67_31]
  exact H _ _ _ _ _ h8 h9 h10
 | succ m ih =>
  intro q e8 e9 e10 T X h8 h9 h10 hq hm2
  obtain ⟨x,hx⟩  := qgx (l:=l) (i:=q) (by omega)
  have hlt:(q:Int)<(l.length:Int):=by omega
  obtain ⟨hlt2,hxe⟩:=List.getElem?_eq_some_iff.1 hx
  have hw  := qws q (by omega)
  have kk:=fun fr st=>k93 p x (by omega) fr st
  rw [hyl x (zmg hx)] at kk
  have IH:=fun e8 e9 e10 T X h8 h9 h10=>ih (q+1) e8 e9 e10 T X h8 h9 h10 (by omega) (by omega)
  refine evK_loop c67_11 _ _ _ _ rfl ?_
  simp (config:={implicitDefEqProofs:=false}) [-zia,h8,h9,h10,hx,hxe,hlt,hlt2,hw,kk,-zil,-zit,-znl,-znt,ty3,ty4,ty22,H67,E67,e67_57,e67_27,n67_10,n67_46,n67_31]
  exact IH _ _ _ _ _ h8 h9 h10
theorem LQ2 (p:List Int)(hp:rightT p=true)(hp7:p.length≤7)(l:List Int)(hll:l.length<1000000)(hyl:∀ y∈l,isT p y=true)(S:St)(R:Out × St)(best least:Int)(x:Nat)(fin:Int)
  (H:∀ (e7:E) (T:List (Nat × E)) (X:List (Nat × List V)),e7.Tame→evK gS fi67 c67_57 {ps:=[(0,.val (.slice (intVs p))),(1,.val (.slice (intVs l))),(4,.val (.int .i64 0)),(5,.val (.int .i64 best)),(6,.val (.int .i64 least)),(7,e7),(8,.val (.int .i64 (x:Nat))),(9,.val (.int .i64 fin)),(10,.val (.int .i64 l.length))],ts:=T,lc:=X} S (.blk 3 (.seq c67_62 (.loop c67_32 (.blk 2 (.seq c67_63 .nil)))))=some R) :
  ∀ (m q:Nat) (sm:Int) (e7:E) (T:List (Nat × E)) (X:List (Nat × List V)) (h7:e7.Tame),q≤l.length→l.length - q=m→fin=(l.drop q).foldl (sumR p (x:Int)) sm → -20*(q:Int)≤sm→sm≤20*(q:Int) →
  evK gS fi67 c67_46 {ps:=[(0,.val (.slice (intVs p))),(1,.val (.slice (intVs l))),(4,.val (.int .i64 0)),(5,.val (.int .i64 best)),(6,.val (.int .i64 least)),(7,e7),(8,.val (.int .i64 (x:Nat))),(9,.val (.int .i64 sm)),(10,.val (.int .i64 (q:Nat)))],ts:=T,lc:=X} S (.blk 4 (.seq c67_57 (.blk 3 (.seq c67_62 (.loop c67_32 (.blk 2 (.seq c67_63 .nil)))))))=some R:=by
 intro m
 induction m with
 | zero =>
  intro q sm e7 T X h7 hq hm2 hf hb1 hb2
  obtain rfl:q=l.length:=by omega
  rw [List.drop_length] at hf
  simp only [List.foldl_nil] at hf
  subst hf
  refine evK_loop c67_47 _ _ _ _ rfl ?_
  simp (config:={implicitDefEqProofs:=false}) [-zia,-St.obj,-St.set,h7,-zil,-zit,-znl,-znt,ty3,ty4,ty22,H67,E67,e67_27,n67_10,n67_46,n67_31]
  exact H _ _ _ h7
 | succ m ih =>
  intro q sm e7 T X h7 hq hm2 hf hb1 hb2
  obtain ⟨y,hy⟩  := qgx (l:=l) (i:=q) (by omega)
  have hlt:(q:Int)<(l.length:Int):=by omega
  obtain ⟨hlt2,hye⟩:=List.getElem?_eq_some_iff.1 hy
  have hw  := qws q (by omega)
  rw [drop_get hy,List.foldl_cons] at hf
  have hd:=distT_range p x y
  have kk:=fun fr st=>k94 p (by omega) (x:Int) y fr st
  rw [show sumR p (x:Int) sm y=sm+distT p x y from rfl] at hf
  generalize distT p x y=d at *
  have hw2:IntKind.wrap .i64 (sm+d)=sm+d:=by rw [wrap64 (by omega) (by omega)]
  have IH:=fun e7 T X h7=>ih (q+1) (sm+d) e7 T X h7 (by omega) (by omega) hf (by omega) (by omega)
  refine evK_loop c67_47 _ _ _ _ rfl ?_
  simp (config:={implicitDefEqProofs:=false}) [-zia,h7,hy,hye,hlt,hlt2,hw,hw2,kk,-zil,-zit,-znl,-znt,ty3,ty4,ty22,H67,E67,e67_57,e67_27,n67_10,n67_46,n67_31]
  exact IH _ _ _ h7
theorem L67 (p:List Int)(hp:rightT p=true)(hp7:p.length≤7)(l:List Int)(hll:l.length<1000000)(hyl:∀ y∈l,isT p y=true)(S:St)(R:Out × St)(hln:l≠[]) :
  ∀ (m x:Nat) (best least:Int) (e7 e9 e10:E) (T:List (Nat × E)) (X:List (Nat × List V)),e7.Tame→e9.Tame→e10.Tame→x≤p.length+1→p.length+1 - x=m→R=(.ret (.int .i64 (placeL p l m x best least)) none,S) →
  evK gS fi67 c67_31 {ps:=[(0,.val (.slice (intVs p))),(1,.val (.slice (intVs l))),(4,.val (.int .i64 0)),(5,.val (.int .i64 best)),(6,.val (.int .i64 least)),(7,e7),(8,.val (.int .i64 (x:Nat))),(9,e9),(10,e10)],ts:=T,lc:=X} S (.blk 2 (.seq c67_63 .nil))=some R:=by
 intro m
 have hl0:(0:Int)<(l.length:Int):=by have:=List.length_pos_iff.2 hln;omega
 have hl0':0<l.length:=List.length_pos_iff.2 hln
 have k1:=fun fr st=>k64 p (by omega) fr st
 rw [hp] at k1
 induction m with
 | zero =>
  intro x best least e7 e9 e10 T X h7 h9 h10 hx hm2 hR
  rw [show placeL p l 0 x best least=best from rfl] at hR
  have hx1:¬ (x:Int)≤(p.length:Int):=by omega
  have hx2:¬ x≤p.length:=by omega
  refine evK_loop c67_32 _ _ _ _ rfl ?_
  simp (config:={implicitDefEqProofs:=false}) [-zia,h7,h9,h10,k1,hl0,hl0',hln,hx1,hx2,hR,-zil,-zit,-znl,-znt,ty3,ty4,ty22,H67,E67,e67_57,e67_27,n67_10,n67_46,n67_31]
 | succ m ih =>
  intro x best least e7 e9 e10 T X h7 h9 h10 hx hm2 hR
  have hx1:(x:Int)≤(p.length:Int):=by omega
  have hx2:x≤p.length:=by omega
  have hxt:isT p (x:Int)=true:=by unfold isT;rw [hp];simp;omega
  have hw  := qws x (by omega)
  have IH:=fun best least e7 e9 e10 T X h7 h9 h10=>ih (x+1) best least e7 e9 e10 T X h7 h9 h10 (by omega) (by omega)
  rw [show placeL p l (m+1) x best least=match sumT p x l 0 with
   | none => -1
   | some s=>if best<0∨s<least then placeL p l m (x+1) x s else placeL p l m (x+1) best least from rfl,sumT_fold hxt l 0 hyl] at hR
  simp only at hR
  have H57:∀ (e7:E) (T:List (Nat × E)) (X:List (Nat × List V)),e7.Tame→evK gS fi67 c67_57 {ps:=[(0,.val (.slice (intVs p))),(1,.val (.slice (intVs l))),(4,.val (.int .i64 0)),(5,.val (.int .i64 best)),(6,.val (.int .i64 least)),(7,e7),(8,.val (.int .i64 (x:Nat))),(9,.val (.int .i64 (l.foldl (sumR p (x:Int)) 0))),(10,.val (.int .i64 l.length))],ts:=T,lc:=X} S (.blk 3 (.seq c67_62 (.loop c67_32 (.blk 2 (.seq c67_63 .nil)))))=some R:=by
   intro e7 T X h7
   generalize l.foldl (sumR p (x:Int)) 0=sm at *
   by_cases hb:best<0
   ·rw [if_pos (.inl hb)] at hR
    have I1:=fun e7 e9 e10 T X h7 h9 h10=>IH (x:Int) sm e7 e9 e10 T X h7 h9 h10 hR
    simp (config:={implicitDefEqProofs:=false}) [-zia,h7,hb,hw,-zil,-zit,-znl,-znt,ty3,ty4,ty22,H67,E67,e67_57,e67_27,n67_10,n67_46,n67_31]
    exact I1 _ _ _ _ _ h7 (tame_val _) (tame_val _)
   ·by_cases hc:sm<least
    ·rw [if_pos (.inr hc)] at hR
     have I1:=fun e7 e9 e10 T X h7 h9 h10=>IH (x:Int) sm e7 e9 e10 T X h7 h9 h10 hR
     simp (config:={implicitDefEqProofs:=false}) [-zia,h7,hb,hc,hw,-zil,-zit,-znl,-znt,ty3,ty4,ty22,H67,E67,e67_57,e67_27,n67_10,n67_46,n67_31]
     exact I1 _ _ _ _ _ h7 (tame_val _) (tame_val _)
    ·rw [if_neg (by omega)] at hR
     have I1:=fun e7 e9 e10 T X h7 h9 h10=>IH best least e7 e9 e10 T X h7 h9 h10 hR
     simp (config:={implicitDefEqProofs:=false}) [-zia,h7,hb,hc,hw,-zil,-zit,-znl,-znt,ty3,ty4,ty22,H67,E67,e67_57,e67_27,n67_10,n67_46,n67_31]
     exact I1 _ _ _ _ _ h7 (tame_val _) (tame_val _)
  have LL:=fun e7 T X h7=>LQ2 p hp hp7 l hll hyl S R best least x (l.foldl (sumR p (x:Int)) 0) H57 l.length 0 0 e7 T X h7 (Nat.zero_le _) rfl (by rw [List.drop_zero]) (by omega) (by omega)
  rw [show ((0:Nat):Int)=0 from rfl] at LL
  refine evK_loop c67_32 _ _ _ _ rfl ?_
  simp (config:={implicitDefEqProofs:=false}) [-zia,h7,h9,h10,k1,hl0,hl0',hln,hx1,hx2,-zil,-zit,-znl,-znt,ty3,ty4,ty22,H67,E67,e67_57,e67_27,n67_10,n67_46,n67_31]
  exact LL _ _ _ h7
theorem c67 (p:List Int)(hp:rightT p=true)(l:List Int)(hll:l.length<1000000)(hyl:∀ y∈l,isT p y=true)(hln:l≠[])(S:St):EvF gS 67 [.slice (intVs p),.slice (intVs l)] S=some (.ret (.int .i64 (placeT p l)) none,S):=by
 refine EvF_start fi237_eq (fun x h=>by cases h) m67 ?_
 rw [st67]
 have hp7:p.length≤7:=by simp only [rightT,Bool.and_eq_true,decide_eq_true_eq] at hp;omega
 unfold placeT
 rw [if_neg hln]
 generalize hR:(Out.ret (V.int .i64 (placeL p l (p.length+1) 0 (-1) 0)) none,S)=R
 have LL:=fun e7 e9 e10 T X h7 h9 h10=>L67 p hp hp7 l hll hyl S R hln (p.length+1) 0 (-1) 0 e7 e9 e10 T X h7 h9 h10 (Nat.zero_le _) rfl hR.symm
 rw [show ((0:Nat):Int)=0 from rfl] at LL
 have H27:∀ (e8 e9 e10:E) (T:List (Nat × E)) (X:List (Nat × List V)),e8.Tame→e9.Tame→e10.Tame→evK gS fi67 c67_27 {ps:=[(0,.val (.slice (intVs p))),(1,.val (.slice (intVs l))),(4,.val (.int .i64 0)),(5,.val (.int .i64 (-1))),(6,.val (.int .i64 0)),(7,.val (.int .i64 l.length)),(8,e8),(9,e9),(10,e10)],ts:=T,lc:=X} S .nil=some R:=by
  intro e8 e9 e10 T X h8 h9 h10
  simp (config:={implicitDefEqProofs:=false}) [-zia,h8,h9,h10,-zil,-zit,-znl,-znt,ty3,ty4,ty22,H67,E67,e67_57,e67_27,n67_10,n67_46,n67_31]
  exact LL _ _ _ _ _ (tame_val _) h9 h10
 have L1:=fun e8 e9 e10 T X h8 h9 h10=>LQ1 p hp hp7 l hll hyl S R H27 l.length 0  e8 e9 e10 T X h8 h9 h10 (Nat.zero_le _) rfl
 rw [show ((0:Nat):Int)=0 from rfl] at L1
 simp (config:={implicitDefEqProofs:=false}) [-zil,-zit,-znl,-znt,ty3,ty4,ty22,H67,E67,e67_57,e67_27,n67_10,n67_46,n67_31]
 refine L1 _ _ _ _ _ ?_ ?_ ?_
 all_goals simp
theorem k67 (p:List Int)(hp:rightT p=true)(l:List Int)(hll:l.length<1000000)(hyl:∀ y∈l,isT p y=true)(hln:l≠[])(fr:Fr)(st:St):callStep gS (EvF gS) 67 [.slice (intVs p),.slice (intVs l)] fr st=some (.ok (.val (.int .i64 (placeT p l))) fr st) :=
 call_pure rfl fi237_eq rfl (fun st=>c67 p hp l hll hyl hln st) (by simp [V.flat])
end
end Go.Proofs.Ytdoobejjedpcgaa
