/- whatever is put, ticked, lost, said twice, or strange, an end does and says what the document's does. No condition. Part 5. -/
import Derived.Test.YtebjpgoadapabaaK4
set_option linter.unusedVariables false
set_option linter.unusedSimpArgs false
set_option linter.unnecessarySimpa false
set_option maxHeartbeats 8000000
set_option maxRecDepth 20000
open Int renaming not_le → zil, not_lt → zit, natCast_add → zia
open Nat renaming not_le → znl, not_lt → znt
open List renaming getElem?_eq_getElem → zge, getElem?_eq_some_iff → zgs, append_assoc → zaa, mem_of_getElem? → zmg, length_append → zla
namespace Go.Ab
open Go
def lead:Nat→List UInt8→Nat
 | 0,_=>0
 | _+1,[]=>0
 | f+1,c :: r=>if 128≤c.toNat then lead f r+1 else 0
def vlu:List UInt8→Nat
 | []=>0
 | c :: r=>c.toNat % 128+128*vlu r
theorem lead_le:∀ (f:Nat)(l:List UInt8),lead f l≤f∧lead f l≤l.length
 | 0,l=>⟨Nat.le_refl _,Nat.zero_le _⟩
 | f+1,[]=>⟨Nat.zero_le _,Nat.le_refl _⟩
 | f+1,c :: r=>by
  rw [lead]
  obtain ⟨h1,h2⟩:=lead_le f r
  split
  ·exact ⟨by omega,by simp only [List.length_cons];omega⟩
  ·exact ⟨Nat.zero_le _,Nat.zero_le _⟩
theorem vlu_lt:∀ l:List UInt8,vlu l<128 ^ l.length
 | []=>by decide
 | c :: r=>by
  have:=vlu_lt r
  rw [vlu,List.length_cons,Nat.pow_succ]
  have:c.toNat % 128<128:=Nat.mod_lt _ (by decide)
  omega
theorem rdG_lead:∀ (f i acc:Nat)(l:List UInt8),rdG f i acc l=if lead f l=f then .error 3 else if lead f l=l.length then .error 2
  else if (0<i+lead f l∧(l.getD (lead f l) 0).toNat=0)∨4611686018427387904<acc+vlu (l.take (lead f l+1))*2 ^ (7*i) then .error 3 else .ok (acc+vlu (l.take (lead f l+1))*2 ^ (7*i),i+lead f l+1)
 | 0,i,acc,l=>by rw [rdG,lead,if_pos rfl]
 | f+1,i,acc,[]=>by rw [rdG,lead,if_neg (show ¬ 0=f+1 by omega),if_pos (show 0=([]:List UInt8).length from rfl)]
 | f+1,i,acc,c :: r=>by
  by_cases hc:c.toNat<128
  ·have l0:lead (f+1) (c :: r)=0:=by rw [lead,if_neg (by omega)]
   rw [l0,rdG,if_pos hc,if_neg (show ¬ 0=f+1 by omega),if_neg (show ¬ 0=(c :: r).length by simp)]
   have hv:vlu ((c :: r).take (0+1))=c.toNat % 128:=by simp [vlu]
   rw [hv]
   simp only [List.getD_cons_zero,Nat.add_zero]
   by_cases h:(i=0∨0<c.toNat)∧acc+c.toNat % 128*2 ^ (7*i)≤4611686018427387904
   ·rw [if_pos h,if_neg (by omega)]
   ·rw [if_neg h,if_pos (by omega)]
  ·have l1:lead (f+1) (c :: r)=lead f r+1:=by rw [lead,if_pos (by omega)]
   rw [l1,rdG,if_neg hc,rdG_lead f (i+1) _ r]
   have hv:acc+c.toNat % 128*2 ^ (7*i)+vlu (r.take (lead f r+1))*2 ^ (7*(i+1))=acc+vlu ((c :: r).take (lead f r+1+1))*2 ^ (7*i):=by
    rw [List.take_succ_cons,vlu,show 7*(i+1)=7*i+7 from by omega,Nat.pow_add,show (2:Nat) ^ 7=128 from rfl]
    generalize vlu (r.take (lead f r+1))=v
    generalize 2 ^ (7*i)=p
    rw [Nat.add_mul,Nat.add_assoc,Nat.add_right_inj,Nat.add_right_inj,Nat.mul_comm p 128,← Nat.mul_assoc,Nat.mul_comm v 128]
   rw [hv]
   simp only [List.getD_cons_succ,List.length_cons]
   have e1:(lead f r=f)=(lead f r+1=f+1):=by apply propext;omega
   have e2:(lead f r=r.length)=(lead f r+1=r.length+1):=by apply propext;omega
   have e3:(0<i+1+lead f r)=(0<i+(lead f r+1)):=by apply propext;omega
   have e4:i+1+lead f r+1=i+(lead f r+1)+1:=by omega
   simp only [e1,e2,e3,e4]
theorem rd_lead (B:List UInt8):rd B=if lead 9 B=9 then .error 3 else if lead 9 B=B.length then .error 2
  else if (0<lead 9 B∧(B.getD (lead 9 B) 0).toNat=0)∨4611686018427387904<vlu (B.take (lead 9 B+1)) then .error 3 else .ok (vlu (B.take (lead 9 B+1)),lead 9 B+1):=by
 unfold rd
 rw [rdG_lead 9 0 0 B]
 simp only [Nat.zero_add,Nat.mul_zero,Nat.pow_zero,Nat.mul_one]
def refC (w z:Nat)(v:V)(b s t:Nat)(a o:Bool)(g:Nat):List V:=[.int .i64 (w:Int),.int .i64 (z:Int),v,.int .i64 (b:Int),.int .i64 (s:Int),.int .i64 (t:Int),.bool a,.bool o,.int .i64 (g:Int)]
end Go.Ab
namespace Go.Proofs.Ytebjpgoadapabaa
open Go Go.Ab
noncomputable section
variable (fr:Fr)(st:St)(k:Kt)
def fi45:FI:={body:=codeOf Try.f45,ntmps:=32,results:=[.tmp 4],pers:=[0,1,4,5],locals:=[],pure:=true,marks:=[]}
theorem H45:fi45.marks=[]∧fi45.locals=[]∧fi45.results=[.tmp 4]:=⟨rfl,rfl,rfl⟩
theorem fi45_eq:gS.fn 45=some fi45:=by kernel_rfl
theorem st45 (a0 a1:V):startFr fi45 [a0,a1]={ps:=[(0,.val a0),(1,.val a1),(4,.any),(5,.any)],ts:=[],lc:=[]}:=rfl
def b45:Code:=mini (codeOf Try.f45)
def c45_8:Code:=.seq (codeN b45 75) .ret
theorem e45_8:evK gS fi45 c45_8 fr st k=opsR gS fi45 [mv 15 5 27,
 asn 4 15 27] fr st (.seq .ret k):=evK_rs 3 rfl (by kernel_rfl)
def c45_7:Code:=.cond (.tmp 14) c45_8 .skip
theorem e45_7:evK gS fi45 c45_7 fr st k=condK gS fi45 (fr.op (.tmp 14)).bool? c45_8 .skip fr st k:=rfl
def c45_5:Code:=.seq (codeN b45 19) c45_7
theorem e45_5:evK gS fi45 c45_5 fr st k=opsR gS fi45 [mv 9 1 3,
 qB 10 .lss 3 9 0 3 4,
 mv 11 10 4,
 qm 12 1 3 2 false,
 qc 13 .gtr 3 12 4611686018427387904 3 4 2 false,
 qQ 14 11 true 13 4] fr st (.seq c45_7 k):=evK_rs 2 rfl (by kernel_rfl)
def c45_18:Code:=.cond (.tmp 17) .skip (.exit 0)
theorem e45_18:evK gS fi45 c45_18 fr st k=condK gS fi45 (fr.op (.tmp 17)).bool? .skip (.exit 0) fr st k:=rfl
def c45_16:Code:=.seq (codeN b45 263) c45_18
theorem e45_16:evK gS fi45 c45_16 fr st k=opsR gS fi45 [mv 16 1 3,
 qB 17 .geq 3 16 128 3 4] fr st (.seq c45_18 k):=evK_rs 4 rfl (by kernel_rfl)
def c45_24:Code:=codeN b45 839
theorem e45_24:evK gS fi45 c45_24 fr st k=opsR gS fi45 [mv 25 1 3,
 qB 26 .quo 3 25 128 3 3,
 asn 1 26 3] fr st k:=evK_r 6 (by kernel_rfl)
def c45_22:Code:=.seq (codeN b45 583) c45_24
theorem e45_22:evK gS fi45 c45_22 fr st k=opsR gS fi45 [mv 18 5 27,
 mv 19 1 3,
 qB 20 .rem 3 19 128 3 3,
 op1 21 (.convert 3 5 (.tmp 20)) 5,
 op1 22 (.binOp .add 5 (.tmp 21) (.const (.int .u8 128)) 5) 5,
 qS 23 27 22 27,
 qE 24 18 23 27 27,
 asn 5 24 27] fr st (.seq c45_24 k):=evK_rs 5 rfl (by kernel_rfl)
def c45_21:Code:=.block 1 c45_22
theorem e45_21:evK gS fi45 c45_21 fr st k=evK gS fi45 c45_22 fr st (.blk 1 k):=rfl
def c45_15:Code:=.seq c45_16 c45_21
theorem e45_15:evK gS fi45 c45_15 fr st k=evK gS fi45 c45_16 fr st (.seq c45_21 k):=rfl
def c45_14:Code:=.loop c45_15
def c45_25:Code:=.seq (codeN b45 47) .ret
theorem e45_25:evK gS fi45 c45_25 fr st k=opsR gS fi45 [mv 27 5 27,
 mv 28 1 3,
 op1 29 (.convert 3 5 (.tmp 28)) 5,
 qS 30 27 29 27,
 qE 31 27 30 27 27,
 asn 4 31 27] fr st (.seq .ret k):=evK_rs 7 rfl (by kernel_rfl)
def c45_12:Code:=.seq (.block 0 c45_14) c45_25
theorem e45_12:evK gS fi45 c45_12 fr st k=evK gS fi45 c45_14 fr st (.blk 0 (.seq c45_25 k)):=rfl
def c45_4:Code:=.seq c45_5 c45_12
theorem e45_4:evK gS fi45 c45_4 fr st k=evK gS fi45 c45_5 fr st (.seq c45_12 k):=rfl
def c45_2:Code:=.seq (codeN b45 5) c45_4
theorem e45_2:evK gS fi45 c45_2 fr st k=opsR gS fi45 [op1 6 (.buildSlice 27 0 #[]) 27,
 mv 7 0 27,
 qE 8 6 7 27 27,
 asn 5 8 27] fr st (.seq c45_4 k):=evK_rs 1 rfl (by kernel_rfl)
def c45_0:Code:=.seq (codeN b45 2) c45_2
theorem e45_0:evK gS fi45 c45_0 fr st k=opsR gS fi45 [qN 4 27] fr st (.seq c45_2 k):=evK_rs 0 rfl (by kernel_rfl)
theorem m45:mini fi45.body=c45_0:=by kernel_rfl
theorem n45_14 (fr:Fr)(st:St)(k:Kt):nextK gS fi45 (.loop c45_15 k) .normal fr st=evK gS fi45 c45_14 fr st k:=rfl
theorem mod_u8 (n:Nat):IntKind.wrap .u8 (IntKind.wrap .u8 ((n % 128:Nat):Int)+128)=IntKind.wrap .u8 ((n % 128+128:Nat):Int):=by
 rw [wrap8,wrap8,wrap8];omega
theorem L45 (b0:List UInt8)(st:St)(R:Out × St)(H:∀ (n:Nat) (out:List UInt8) (T:List (Nat × E)) (X:List (Nat × List V)),n<128→R=(.ret (.slice (byteVs (out ++ [u8 (n:Int)]))) (some 1),st)→out.length≤2000000 →
  evK gS fi45 c45_25 {ps:=[(0,.val (.slice (byteVs b0))),(1,.val (.int .i64 (n:Int))),(4,.own 0 []),(5,.own 1 (byteVs out))],ts:=T,lc:=X} st .nil=some R) :
  ∀ (f n:Nat) (out:List UInt8) (T:List (Nat × E)) (X:List (Nat × List V)),0<f→n<2 ^ 63→n<128 ^ f→out.length+f≤2000000→R=(.ret (.slice (byteVs (out ++ nbF f n))) (some 1),st) →
  evK gS fi45 c45_14 {ps:=[(0,.val (.slice (byteVs b0))),(1,.val (.int .i64 (n:Int))),(4,.own 0 []),(5,.own 1 (byteVs out))],ts:=T,lc:=X} st (.blk 0 (.seq c45_25 .nil))=some R:=by
 intro f
 induction f with
 | zero =>
  intro n out T X h0 h1 h2 h3 hR
  omega
 | succ f ih =>
  intro n out T X h0 h1 h2 h3 hR
  refine evK_loop c45_15 _ _ _ _ rfl ?_
  by_cases h:n<128
  ·have e1:¬ (128:Int)≤(n:Int):=by omega
   rw [show nbF (f+1) n=[u8 (n:Int)] from by rw [nbF,if_pos h]] at hR
   have HH:=H n out
   simp [e1,-zil,-zit,-znl,-znt,ty3,ty4,ty5,ty27,H45,e45_8,e45_7,e45_5,e45_18,e45_16,e45_24,e45_22,e45_21,e45_15,e45_12,e45_4,e45_2,e45_0,n45_14]
   exact HH _ _ h hR (by omega)
  ·have e1:(128:Int)≤(n:Int):=by omega
   have e2:((n:Int)).tmod 128=((n % 128:Nat):Int):=by rw [Int.tmod_eq_emod_of_nonneg (by omega)];omega
   have e6:((n:Int)).tdiv 128=((n / 128:Nat):Int):=by rw [Int.tdiv_eq_ediv_of_nonneg (by omega)];omega
   have e5:=mod_u8 n
   have e7:IntKind.wrap .i64 ((n / 128:Nat):Int)=((n / 128:Nat):Int):=wrap64 (by omega) (by omega)
   have hk:out.length+1≤140737488355328:=by omega
   have h5:n / 128<128 ^ f:=by rw [Nat.div_lt_iff_lt_mul (by decide)];rw [Nat.pow_succ] at h2;exact h2
   rw [show nbF (f+1) n=u8 ((n % 128+128:Nat):Int) :: nbF f (n / 128) from by rw [nbF,if_neg h],List.append_cons] at hR
   have IH:=fun T X=>ih (n / 128) (out ++ [u8 ((n % 128+128:Nat):Int)]) T X (by rcases Nat.eq_zero_or_pos f with h9 | h9;(subst h9;omega);exact h9) (by omega) h5 (by simp;omega) hR
   have hs:=sizes_bytes out
   have hs2:=fun x=>snoc_bytes out x
   generalize n / 128=nd at *
   generalize n % 128=nm at *
   simp (config:={implicitDefEqProofs:=false}) [-Int.natCast_emod,-Int.natCast_ediv,-zia,e1,e2,e5,e6,e7,hk,hs,hs2,-zil,-zit,-znl,-znt,ty3,ty4,ty5,ty27,H45,e45_8,e45_7,e45_5,e45_18,e45_16,e45_24,e45_22,e45_21,e45_15,e45_25,e45_12,e45_4,e45_2,e45_0,n45_14]
   exact IH _ _
theorem c45 (b:List UInt8)(n:Nat)(h1:b.length≤1000000)(hn:n≤4611686018427387904)(st:St):EvF gS 45 [.slice (byteVs b),.int .i64 (n:Int)] st=some (.ret (.slice (byteVs (b ++ nb n))) (some 1),st):=by
 refine EvF_start fi45_eq (fun x h=>by cases h <;> decide) m45 ?_
 rw [st45]
 generalize hR:(Out.ret (V.slice (byteVs (b ++ nb n))) (some 1),st)=R
 have e1:¬ (n:Int)<0:=by omega
 have e2:¬ (4611686018427387904:Int)<(n:Int):=by omega
 have hsb:=sizes_bytes b
 have hb1:b.length≤140737488355328:=by omega
 have LL:=L45 b st R (fun n out T X h hR hol=>by
  have hk:out.length+1≤140737488355328:=by omega
  have hs:=sizes_bytes out
  have e4:IntKind.wrap .u8 (n:Int)=(n:Int):=by rw [wrap8];omega
  have hs3:=snoc_bytes out (n:Int)
  rw [e4] at hs3
  simp (config:={implicitDefEqProofs:=false}) [-zia,hk,hs,hs3,e4,hR,-zil,-zit,-znl,-znt,ty3,ty4,ty5,ty27,H45,e45_8,e45_7,e45_5,e45_18,e45_16,e45_24,e45_22,e45_21,e45_15,e45_25,e45_12,e45_4,e45_2,e45_0,n45_14]) 10 n b
 simp (config:={implicitDefEqProofs:=false}) [-zia,e1,e2,hsb,hb1,-zil,-zit,-znl,-znt,ty3,ty4,ty5,ty27,H45,e45_8,e45_7,e45_5,e45_18,e45_16,e45_24,e45_22,e45_21,e45_15,e45_25,e45_12,e45_4,e45_2,e45_0,n45_14]
 exact LL _ _ (by omega) (by omega) (by omega) (by omega) hR.symm
theorem k45 (b:List UInt8)(n:Nat)(h1:b.length≤1000000)(hn:n≤4611686018427387904)(fr:Fr)(st:St):callStep gS (EvF gS) 45 [.slice (byteVs b),.int .i64 (n:Int)] fr st=some (.ok (.own 1 (byteVs (b ++ nb n))) fr st) :=
 call_pure rfl fi45_eq rfl (fun st=>c45 b n h1 hn st) (by simp)
theorem x45:gS.ext 45=none:=rfl
theorem p45:fi45.pure=true:=rfl
def fi43:FI:={body:=codeOf Try.f43,ntmps:=13,results:=[.tmp 2],pers:=[0,2],locals:=[],pure:=true,marks:=[]}
theorem H43:fi43.marks=[]∧fi43.locals=[]∧fi43.results=[.tmp 2]:=⟨rfl,rfl,rfl⟩
theorem fi43_eq:gS.fn 43=some fi43:=by kernel_rfl
theorem st43 (a0:V):startFr fi43 [a0]={ps:=[(0,.val a0),(2,.any)],ts:=[],lc:=[]}:=rfl
def b43:Code:=mini (codeOf Try.f43)
def r43_3:Array Oper:=regOps (codeN (codeOf Try.f43) 5)
def c43_3:Code:=.region 1 r43_3 true
def q43_3:List (Oper × Fl):=[(mv 3 0 78,qz0),
 (op1 4 (.nilCheck (.tmp 3)) 0,qz0),
 (qF 5 80 4 0 0,qz0),
 (ld 6 27 5 27,qz0),
 (len1 7 6 27 3,qz0),
 (mv 8 0 78,qz3),
 (op1 9 (.nilCheck (.tmp 8)) 0,qz3),
 (qF 10 80 9 1 0,qz3),
 (ld 11 3 10 3,qz3),
 (bop 12 .sub 3 7 11 3 3,qz3),
 (asn 2 12 3,qz5)]
theorem e43_3:evK gS fi43 c43_3 fr st k=drwR gS fi43 r43_3 q43_3 fr st k:=evK_dr 1 rfl (by kernel_rfl) (by kernel_rfl)
def c43_2:Code:=.seq c43_3 .ret
theorem e43_2:evK gS fi43 c43_2 fr st k=evK gS fi43 c43_3 fr st (.seq .ret k):=rfl
def c43_0:Code:=.seq (codeN b43 2) c43_2
theorem e43_0:evK gS fi43 c43_0 fr st k=opsR gS fi43 [qI 2 0 3] fr st (.seq c43_2 k):=evK_rs 0 rfl (by kernel_rfl)
theorem m43:mini fi43.body=c43_0:=by kernel_rfl
theorem c43 (id p:Nat)(B:List UInt8)(bad:Int)(hB:B.length≤1000000)(hp:p≤B.length)(S:St)(ho:St.obj S id=some [.slice (byteVs B),.int .i64 (p:Int),.int .i64 bad]) :
  EvF gS 43 [.ptr id 0] S=some (.ret (.int .i64 ((B.length - p:Nat):Int)) none,S):=by
 refine EvF_start fi43_eq (fun x h=>by cases h <;> decide) m43 ?_
 rw [st43]
 have e1:IntKind.wrap .i64 ((B.length:Int) - (p:Int))=((B.length - p:Nat):Int):=by rw [wrap64 (by omega) (by omega)];omega
 simp (config:={implicitDefEqProofs:=false}) [-zia,-St.obj,-St.set,ho,e1,-zil,-zit,-znl,-znt,ty3,ty27,ty78,ty80,H43,e43_3,q43_3,e43_2,e43_0]
theorem k43 (id p:Nat)(B:List UInt8)(bad:Int)(hB:B.length≤1000000)(hp:p≤B.length)(fr:Fr)(S:St)(ho:St.obj S id=some [.slice (byteVs B),.int .i64 (p:Int),.int .i64 bad]) :
  callStep gS (EvF gS) 43 [.ptr id 0] fr S=some (.ok (.val (.int .i64 ((B.length - p:Nat):Int))) fr S):=by
 unfold callStep
 simp only [show gS.ext 43=none from rfl,fi43_eq,show fi43.pure=true from rfl,if_true,show flats [V.ptr id 0]=false from rfl,Bool.false_eq_true,if_false]
 rw [c43 id p B bad hB hp _ (by exact ho)]
 simp [V.flat,retE]
theorem x43:gS.ext 43=none:=rfl
theorem p43:fi43.pure=true:=rfl
def fi42:FI:={body:=codeOf Try.f42,ntmps:=105,results:=[.tmp 2],pers:=[0,2,3,4,5],locals:=[],pure:=false,marks:=[]}
theorem H42:fi42.marks=[]∧fi42.locals=[]∧fi42.results=[.tmp 2]:=⟨rfl,rfl,rfl⟩
theorem fi42_eq:gS.fn 42=some fi42:=by kernel_rfl
theorem st42 (a0:V):startFr fi42 [a0]={ps:=[(0,.val a0),(2,.any),(3,.any),(4,.any),(5,.any)],ts:=[],lc:=[]}:=rfl
def b42:Code:=mini (codeOf Try.f42)
def c42_6:Code:=.seq (codeN b42 37) .ret
theorem e42_6:evK gS fi42 c42_6 fr st k=opsR gS fi42 [qI 2 0 3] fr st (.seq .ret k):=evK_rs 2 rfl (by kernel_rfl)
def c42_5:Code:=.cond (.tmp 10) c42_6 .skip
theorem e42_5:evK gS fi42 c42_5 fr st k=condK gS fi42 (fr.op (.tmp 10)).bool? c42_6 .skip fr st k:=rfl
def c42_3:Code:=.seq (codeN b42 9) c42_5
theorem e42_3:evK gS fi42 c42_3 fr st k=opsR gS fi42 [mv 6 0 78,
 op1 7 (.nilCheck (.tmp 6)) 0,
 qF 8 80 7 2 0,
 ld 9 23 8 23,
 qB 10 .neq 23 9 0 23 4] fr st (.seq c42_5 k):=evK_rs 1 rfl (by kernel_rfl)
def r42_17:Array Oper:=regOps (codeN (codeOf Try.f42) 263)
def c42_17:Code:=.region 4 r42_17 true
def q42_17:List (Oper × Fl):=[(mv 11 3 3,qz0),
 (qB 12 .lss 3 11 9 3 4,qz5),
 (mv 13 12 4,qz5),
 (qm 14 3 3 2 true,qz0),
 (qm 15 0 78 2 true,qz3),
 (mk (some 16) (.call {callee:=(.value (.func 43)),args:=#[(.tmp 15)],argTypes:=#[78]}) 3 (some (2,true)),qz6),
 (qb 17 .lss 3 14 16 3 4 2 true,qz5),
 (qP 18 13 17 false 4,qz5),
 (mv 19 18 4,qz5),
 (qm 20 0 78 8 true,qz0),
 (mk (some 21) (.nilCheck (.tmp 20)) 0 (some (8,true)),qz0),
 (qf 22 80 21 0 0 8 true,qz0),
 (ql 23 27 22 27 8 true,qz0),
 (qm 24 0 78 8 true,qz0),
 (mk (some 25) (.nilCheck (.tmp 24)) 0 (some (8,true)),qz0),
 (qf 26 80 25 1 0 8 true,qz0),
 (ql 27 3 26 3 8 true,qz0),
 (qm 28 3 3 8 true,qz0),
 (qb 29 .add 3 27 28 3 3 8 true,qz3),
 (qi 30 27 23 29 0 8 true,qz3),
 (ql 31 5 30 5 8 true,qz3),
 (mk (some 32) (.binOp .geq 5 (.tmp 31) (.const (.int .u8 128)) 5) 4 (some (8,true)),qz3),
 (qP 33 19 32 false 4,qz3)]
theorem e42_17:evK gS fi42 c42_17 fr st k=drwR gS fi42 r42_17 q42_17 fr st k:=evK_dr 4 rfl (by kernel_rfl) (by kernel_rfl)
def c42_18:Code:=.cond (.tmp 33) .skip (.exit 0)
theorem e42_18:evK gS fi42 c42_18 fr st k=condK gS fi42 (fr.op (.tmp 33)).bool? .skip (.exit 0) fr st k:=rfl
def c42_16:Code:=.seq c42_17 c42_18
theorem e42_16:evK gS fi42 c42_16 fr st k=evK gS fi42 c42_17 fr st (.seq c42_18 k):=rfl
def c42_22:Code:=codeN b42 327
theorem e42_22:evK gS fi42 c42_22 fr st k=opsR gS fi42 [mv 34 3 3,
 qB 35 .add 3 34 1 3 3,
 asn 3 35 3] fr st k:=evK_r 5 (by kernel_rfl)
def c42_21:Code:=.block 1 c42_22
theorem e42_21:evK gS fi42 c42_21 fr st k=evK gS fi42 c42_22 fr st (.blk 1 k):=rfl
def c42_15:Code:=.seq c42_16 c42_21
theorem e42_15:evK gS fi42 c42_15 fr st k=evK gS fi42 c42_16 fr st (.seq c42_21 k):=rfl
def c42_14:Code:=.loop c42_15
def c42_29:Code:=.seq (codeN b42 687) .ret
theorem e42_29:evK gS fi42 c42_29 fr st k=opsR gS fi42 [qI 2 0 3] fr st (.seq .ret k):=evK_rs 8 rfl (by kernel_rfl)
def c42_27:Code:=.seq (codeN b42 303) c42_29
theorem e42_27:evK gS fi42 c42_27 fr st k=opsR gS fi42 [mv 38 0 78,
 op1 39 (.nilCheck (.tmp 38)) 0,
 qF 40 80 39 2 0,
 mk none (.store 23 (.tmp 40) (.const (.int .i64 3))) 0 none] fr st (.seq c42_29 k):=evK_rs 7 rfl (by kernel_rfl)
def c42_26:Code:=.cond (.tmp 37) c42_27 .skip
theorem e42_26:evK gS fi42 c42_26 fr st k=condK gS fi42 (fr.op (.tmp 37)).bool? c42_27 .skip fr st k:=rfl
def c42_24:Code:=.seq (codeN b42 79) c42_26
theorem e42_24:evK gS fi42 c42_24 fr st k=opsR gS fi42 [mv 36 3 3,
 qB 37 .eql 3 36 9 3 4] fr st (.seq c42_26 k):=evK_rs 6 rfl (by kernel_rfl)
def c42_39:Code:=.seq (codeN b42 1375) .ret
theorem e42_39:evK gS fi42 c42_39 fr st k=opsR gS fi42 [qI 2 0 3] fr st (.seq .ret k):=evK_rs 11 rfl (by kernel_rfl)
def c42_37:Code:=.seq (codeN b42 607) c42_39
theorem e42_37:evK gS fi42 c42_37 fr st k=opsR gS fi42 [mv 45 0 78,
 op1 46 (.nilCheck (.tmp 45)) 0,
 qF 47 80 46 2 0,
 mk none (.store 23 (.tmp 47) (.const (.int .i64 2))) 0 none] fr st (.seq c42_39 k):=evK_rs 10 rfl (by kernel_rfl)
def c42_36:Code:=.cond (.tmp 44) c42_37 .skip
theorem e42_36:evK gS fi42 c42_36 fr st k=condK gS fi42 (fr.op (.tmp 44)).bool? c42_37 .skip fr st k:=rfl
def c42_34:Code:=.seq (codeN b42 159) c42_36
theorem e42_34:evK gS fi42 c42_34 fr st k=opsR gS fi42 [mv 41 3 3,
 mv 42 0 78,
 cal 43 43 [(.tmp 42)] [78] 3,
 bop 44 .eql 3 41 43 3 4] fr st (.seq c42_36 k):=evK_rs 9 rfl (by kernel_rfl)
def c42_53:Code:=.cond (.tmp 50) .skip (.exit 2)
theorem e42_53:evK gS fi42 c42_53 fr st k=condK gS fi42 (fr.op (.tmp 50)).bool? .skip (.exit 2) fr st k:=rfl
def c42_51:Code:=.seq (codeN b42 8575) c42_53
theorem e42_51:evK gS fi42 c42_51 fr st k=opsR gS fi42 [mv 49 5 3,
 qB 50 .geq 3 49 0 3 4] fr st (.seq c42_53 k):=evK_rs 14 rfl (by kernel_rfl)
def r42_58:Array Oper:=regOps (codeN (codeOf Try.f42) 18815)
def c42_58:Code:=.region 16 r42_58 true
def q42_58:List (Oper × Fl):=[(mv 53 4 3,qz0),
 (qB 54 .mul 3 53 128 3 3,qz0),
 (mv 55 0 78,qz0),
 (op1 56 (.nilCheck (.tmp 55)) 0,qz0),
 (qF 57 80 56 0 0,qz0),
 (ld 58 27 57 27,qz0),
 (mv 59 0 78,qz0),
 (op1 60 (.nilCheck (.tmp 59)) 0,qz0),
 (qF 61 80 60 1 0,qz0),
 (ld 62 3 61 3,qz0),
 (mv 63 5 3,qz0),
 (bop 64 .add 3 62 63 3 3,qz0),
 (ixa 65 27 58 64 0,qz3),
 (ld 66 5 65 5,qz3),
 (op1 67 (.binOp .rem 5 (.tmp 66) (.const (.int .u8 128)) 5) 5,qz3),
 (op1 68 (.convert 5 3 (.tmp 67)) 3,qz3),
 (bop 69 .add 3 54 68 3 3,qz3),
 (asn 4 69 3,qz5)]
theorem e42_58:evK gS fi42 c42_58 fr st k=drwR gS fi42 r42_58 q42_58 fr st k:=evK_dr 16 rfl (by kernel_rfl) (by kernel_rfl)
def c42_59:Code:=codeN b42 14719
theorem e42_59:evK gS fi42 c42_59 fr st k=opsR gS fi42 [mv 51 5 3,
 qB 52 .sub 3 51 1 3 3,
 asn 5 52 3] fr st k:=evK_r 15 (by kernel_rfl)
def c42_56:Code:=.seq (.block 3 c42_58) c42_59
theorem e42_56:evK gS fi42 c42_56 fr st k=evK gS fi42 c42_58 fr st (.blk 3 (.seq c42_59 k)):=rfl
def c42_50:Code:=.seq c42_51 c42_56
theorem e42_50:evK gS fi42 c42_50 fr st k=evK gS fi42 c42_51 fr st (.seq c42_56 k):=rfl
def c42_49:Code:=.loop c42_50
def c42_48:Code:=.block 2 c42_49
theorem e42_48:evK gS fi42 c42_48 fr st k=evK gS fi42 c42_49 fr st (.blk 2 k):=rfl
def c42_46:Code:=.seq (codeN b42 639) c42_48
theorem e42_46:evK gS fi42 c42_46 fr st k=opsR gS fi42 [mv 48 3 3,
 asn 5 48 3] fr st (.seq c42_48 k):=evK_rs 13 rfl (by kernel_rfl)
def r42_62:Array Oper:=regOps (codeN (codeOf Try.f42) 1279)
def c42_62:Code:=.region 17 r42_62 true
def q42_62:List (Oper × Fl):=[(mv 70 3 3,qz5),
 (qB 71 .gtr 3 70 0 3 4,qz5),
 (mv 72 71 4,qz5),
 (qm 73 0 78 2 true,qz0),
 (mk (some 74) (.nilCheck (.tmp 73)) 0 (some (2,true)),qz0),
 (qf 75 80 74 0 0 2 true,qz0),
 (ql 76 27 75 27 2 true,qz0),
 (qm 77 0 78 2 true,qz0),
 (mk (some 78) (.nilCheck (.tmp 77)) 0 (some (2,true)),qz0),
 (qf 79 80 78 1 0 2 true,qz0),
 (ql 80 3 79 3 2 true,qz0),
 (qm 81 3 3 2 true,qz0),
 (qb 82 .add 3 80 81 3 3 2 true,qz0),
 (qi 83 27 76 82 0 2 true,qz0),
 (ql 84 5 83 5 2 true,qz3),
 (mk (some 85) (.binOp .eql 5 (.tmp 84) (.const (.int .u8 0)) 5) 4 (some (2,true)),qz3),
 (qP 86 72 85 false 4,qz3),
 (mv 87 86 4,qz3),
 (qm 88 4 3 17 false,qz3),
 (qc 89 .gtr 3 88 4611686018427387904 3 4 17 false,qz3),
 (qQ 90 87 true 89 4,qz3)]
theorem e42_62:evK gS fi42 c42_62 fr st k=drwR gS fi42 r42_62 q42_62 fr st k:=evK_dr 17 rfl (by kernel_rfl) (by kernel_rfl)
def c42_66:Code:=.seq (codeN b42 11007) .ret
theorem e42_66:evK gS fi42 c42_66 fr st k=opsR gS fi42 [qI 2 0 3] fr st (.seq .ret k):=evK_rs 19 rfl (by kernel_rfl)
def c42_64:Code:=.seq (codeN b42 4863) c42_66
theorem e42_64:evK gS fi42 c42_64 fr st k=opsR gS fi42 [mv 91 0 78,
 op1 92 (.nilCheck (.tmp 91)) 0,
 qF 93 80 92 2 0,
 mk none (.store 23 (.tmp 93) (.const (.int .i64 3))) 0 none] fr st (.seq c42_66 k):=evK_rs 18 rfl (by kernel_rfl)
def c42_63:Code:=.cond (.tmp 90) c42_64 .skip
theorem e42_63:evK gS fi42 c42_63 fr st k=condK gS fi42 (fr.op (.tmp 90)).bool? c42_64 .skip fr st k:=rfl
def c42_61:Code:=.seq c42_62 c42_63
theorem e42_61:evK gS fi42 c42_61 fr st k=evK gS fi42 c42_62 fr st (.seq c42_63 k):=rfl
def c42_72:Code:=.seq (codeN b42 3071) .ret
theorem e42_72:evK gS fi42 c42_72 fr st k=opsR gS fi42 [mv 104 4 3,
 asn 2 104 3] fr st (.seq .ret k):=evK_rs 21 rfl (by kernel_rfl)
def c42_70:Code:=.seq (codeN b42 1535) c42_72
theorem e42_70:evK gS fi42 c42_70 fr st k=opsR gS fi42 [mv 94 0 78,
 mv 95 0 78,
 op1 96 (.nilCheck (.tmp 95)) 0,
 qF 97 80 96 1 0,
 ld 98 3 97 3,
 mv 99 3 3,
 bop 100 .add 3 98 99 3 3,
 qB 101 .add 3 100 1 3 3,
 op1 102 (.nilCheck (.tmp 94)) 0,
 qF 103 80 102 1 0,
 sto 3 103 101] fr st (.seq c42_72 k):=evK_rs 20 rfl (by kernel_rfl)
def c42_60:Code:=.seq c42_61 c42_70
theorem e42_60:evK gS fi42 c42_60 fr st k=evK gS fi42 c42_61 fr st (.seq c42_70 k):=rfl
def c42_45:Code:=.seq c42_46 c42_60
theorem e42_45:evK gS fi42 c42_45 fr st k=evK gS fi42 c42_46 fr st (.seq c42_60 k):=rfl
def c42_43:Code:=.seq (codeN b42 191) c42_45
theorem e42_43:evK gS fi42 c42_43 fr st k=opsR gS fi42 [qI 4 0 3] fr st (.seq c42_45 k):=evK_rs 12 rfl (by kernel_rfl)
def c42_33:Code:=.seq c42_34 c42_43
theorem e42_33:evK gS fi42 c42_33 fr st k=evK gS fi42 c42_34 fr st (.seq c42_43 k):=rfl
def c42_23:Code:=.seq c42_24 c42_33
theorem e42_23:evK gS fi42 c42_23 fr st k=evK gS fi42 c42_24 fr st (.seq c42_33 k):=rfl
def c42_12:Code:=.seq (.block 0 c42_14) c42_23
theorem e42_12:evK gS fi42 c42_12 fr st k=evK gS fi42 c42_14 fr st (.blk 0 (.seq c42_23 k)):=rfl
def c42_10:Code:=.seq (codeN b42 11) c42_12
theorem e42_10:evK gS fi42 c42_10 fr st k=opsR gS fi42 [qI 3 0 3] fr st (.seq c42_12 k):=evK_rs 3 rfl (by kernel_rfl)
def c42_2:Code:=.seq c42_3 c42_10
theorem e42_2:evK gS fi42 c42_2 fr st k=evK gS fi42 c42_3 fr st (.seq c42_10 k):=rfl
def c42_0:Code:=.seq (codeN b42 2) c42_2
theorem e42_0:evK gS fi42 c42_0 fr st k=opsR gS fi42 [qI 2 0 3] fr st (.seq c42_2 k):=evK_rs 0 rfl (by kernel_rfl)
theorem m42:mini fi42.body=c42_0:=by kernel_rfl
theorem n42_14 (fr:Fr)(st:St)(k:Kt):nextK gS fi42 (.loop c42_15 k) .normal fr st=evK gS fi42 c42_14 fr st k:=rfl
theorem n42_49 (fr:Fr)(st:St)(k:Kt):nextK gS fi42 (.loop c42_50 k) .normal fr st=evK gS fi42 c42_49 fr st k:=rfl
section
variable (id p:Nat) (B:List UInt8) (hB:B.length≤1000000) (hp:p≤B.length) (S:St) (ho:St.obj S id=some [.slice (byteVs B),.int .i64 (p:Int),.int .i64 0])
include hB hp ho
theorem LA42 (R:Out × St)(kf:Nat)(H:∀ T,evK gS fi42 c42_23 {ps:=[(0,.val (.ptr id 0)),(2,.val (.int .i64 0)),(3,.val (.int .i64 (kf:Nat))),(4,.any),(5,.any)],ts:=T,lc:=[]} S .nil=some R) :
  ∀ (m k:Nat) (T:List (Nat × E)),k+m=9→kf=k+lead m (B.drop (p+k))→p+k≤B.length→evK gS fi42 c42_14 {ps:=[(0,.val (.ptr id 0)),(2,.val (.int .i64 0)),(3,.val (.int .i64 (k:Nat))),(4,.any),(5,.any)],ts:=T,lc:=[]} S (.blk 0 (.seq c42_23 .nil))=some R:=by
 have k43':=fun fr=>k43 id p B 0 hB hp fr S ho
 intro m
 induction m with
 | zero =>
  intro k T hk hf hpk
  obtain rfl:k=9:=by omega
  rw [lead] at hf
  subst hf
  refine evK_loop c42_15 _ _ _ _ rfl ?_
  simp (config:={implicitDefEqProofs:=false}) [-zia,-St.obj,-St.set,-zil,-zit,-znl,-znt,ty3,ty4,ty5,ty23,ty27,ty78,ty80,H42,x43,fi43_eq,p43,e42_6,e42_5,e42_3,e42_17,q42_17,e42_18,e42_16,e42_22,e42_21,e42_15,e42_29,e42_27,e42_26,e42_24,e42_39,e42_37,e42_36,e42_34,e42_53,e42_51,e42_58,q42_58,e42_59,e42_56,e42_50,e42_48,e42_46,e42_62,q42_62,e42_66,e42_64,e42_63,e42_61,e42_72,e42_70,e42_45,e42_43,e42_33,e42_12,e42_10,e42_2,e42_0,n42_14,n42_49]
  exact H _
 | succ m ih =>
  intro k T hk hf hpk
  have e0:(k:Int)<9:=by omega
  have e0':k<9:=by omega
  refine evK_loop c42_15 _ _ _ _ rfl ?_
  rcases Nat.lt_or_ge (p+k) B.length with hlt | hge
  ·obtain ⟨c,hc⟩:∃ c,B[p+k]?=some c:=⟨B[p+k],zge hlt⟩
   obtain ⟨_,hce⟩:=List.getElem?_eq_some_iff.1 hc
   have e1:(k:Int)<((B.length - p:Nat):Int):=by omega
   have e1':k<B.length - p:=by omega
   have ew:IntKind.wrap .i64 ((p:Int)+(k:Int))=((p+k:Nat):Int):=by rw [wrap64 (by omega) (by omega)];omega
   have ew2  := qws k (by omega)
   have hbl:=byteVs_length B
   have e5:(byteVs B)[p+k]?=some (.int .u8 (c.toNat:Int)):=by rw [byte_get,hc];rfl
   have hc8:=c.toNat_lt
   rw [drop_get hc,lead] at hf
   by_cases h:128≤c.toNat
   ·rw [if_pos h] at hf
    have e6:(128:Int)≤(c.toNat:Int):=by omega
    have IH:=fun T=>ih (k+1) T (by omega) (by rw [show p+(k+1)=p+k+1 from by omega];omega) (by omega)
    generalize B.length - p=bl at *
    simp (config:={implicitDefEqProofs:=false}) [-zia,-St.obj,-St.set,ho,hbl,byte_gE,hce,hlt,k43',e0,e0',e1,e1',ew,ew2,e5,e6,h,-zil,-zit,-znl,-znt,ty3,ty4,ty5,ty23,ty27,ty78,ty80,H42,x43,fi43_eq,p43,e42_6,e42_5,e42_3,e42_17,q42_17,e42_18,e42_16,e42_22,e42_21,e42_15,e42_29,e42_27,e42_26,e42_24,e42_39,e42_37,e42_36,e42_34,e42_53,e42_51,e42_58,q42_58,e42_59,e42_56,e42_50,e42_48,e42_46,e42_62,q42_62,e42_66,e42_64,e42_63,e42_61,e42_72,e42_70,e42_45,e42_43,e42_33,e42_12,e42_10,e42_2,e42_0,n42_14,n42_49]
    exact IH _
   ·rw [if_neg h,Nat.add_zero] at hf
    have e6:¬ (128:Int)≤(c.toNat:Int):=by omega
    subst hf
    generalize B.length - p=bl at *
    simp (config:={implicitDefEqProofs:=false}) [-zia,-St.obj,-St.set,ho,hbl,byte_gE,hce,hlt,k43',e0,e0',e1,e1',ew,ew2,e5,e6,h,-zil,-zit,-znl,-znt,ty3,ty4,ty5,ty23,ty27,ty78,ty80,H42,x43,fi43_eq,p43,e42_6,e42_5,e42_3,e42_17,q42_17,e42_18,e42_16,e42_22,e42_21,e42_15,e42_29,e42_27,e42_26,e42_24,e42_39,e42_37,e42_36,e42_34,e42_53,e42_51,e42_58,q42_58,e42_59,e42_56,e42_50,e42_48,e42_46,e42_62,q42_62,e42_66,e42_64,e42_63,e42_61,e42_72,e42_70,e42_45,e42_43,e42_33,e42_12,e42_10,e42_2,e42_0,n42_14,n42_49]
    exact H _
  ·have e1:¬ (k:Int)<((B.length - p:Nat):Int):=by omega
   have e1':¬ k<B.length - p:=by omega
   rw [List.drop_of_length_le hge,lead,Nat.add_zero] at hf
   subst hf
   generalize B.length - p=bl at *
   simp (config:={implicitDefEqProofs:=false}) [-zia,-St.obj,-St.set,ho,k43',e0,e0',e1,e1',-zil,-zit,-znl,-znt,ty3,ty4,ty5,ty23,ty27,ty78,ty80,H42,x43,fi43_eq,p43,e42_6,e42_5,e42_3,e42_17,q42_17,e42_18,e42_16,e42_22,e42_21,e42_15,e42_29,e42_27,e42_26,e42_24,e42_39,e42_37,e42_36,e42_34,e42_53,e42_51,e42_58,q42_58,e42_59,e42_56,e42_50,e42_48,e42_46,e42_62,q42_62,e42_66,e42_64,e42_63,e42_61,e42_72,e42_70,e42_45,e42_43,e42_33,e42_12,e42_10,e42_2,e42_0,n42_14,n42_49]
   exact H _
theorem LB42 (R:Out × St)(k:Nat)(hk:k<9)(hpk:p+k<B.length)(H:∀ T,evK gS fi42 c42_60 {ps:=[(0,.val (.ptr id 0)),(2,.val (.int .i64 0)),(3,.val (.int .i64 (k:Nat))),(4,.val (.int .i64 (vlu ((B.drop p).take (k+1)):Nat))),(5,.val (.int .i64 (-1)))],ts:=T,lc:=[]} S .nil=some R) :
  ∀ (j:Nat) (T:List (Nat × E)),j≤k+1→evK gS fi42 c42_49 {ps:=[(0,.val (.ptr id 0)),(2,.val (.int .i64 0)),(3,.val (.int .i64 (k:Nat))),(4,.val (.int .i64 (vlu (((B.drop p).take (k+1)).drop j):Nat))),(5,.val (.int .i64 ((j:Int) - 1)))],ts:=T,lc:=[]} S (.blk 2 (.seq c42_60 .nil))=some R:=by
 have hp':=hp
 intro j
 induction j with
 | zero =>
  intro T hj
  refine evK_loop c42_50 _ _ _ _ rfl ?_
  rw [List.drop_zero]
  have e0:((0:Nat):Int) - 1 = -1:=by omega
  simp (config:={implicitDefEqProofs:=false}) [-zia,-St.obj,-St.set,e0,-zil,-zit,-znl,-znt,ty3,ty4,ty5,ty23,ty27,ty78,ty80,H42,x43,fi43_eq,p43,e42_6,e42_5,e42_3,e42_17,q42_17,e42_18,e42_16,e42_22,e42_21,e42_15,e42_29,e42_27,e42_26,e42_24,e42_39,e42_37,e42_36,e42_34,e42_53,e42_51,e42_58,q42_58,e42_59,e42_56,e42_50,e42_48,e42_46,e42_62,q42_62,e42_66,e42_64,e42_63,e42_61,e42_72,e42_70,e42_45,e42_43,e42_33,e42_12,e42_10,e42_2,e42_0,n42_14,n42_49]
  exact H _
 | succ j ih =>
  intro T hj
  have hlt:p+j<B.length:=by omega
  obtain ⟨c,hc⟩:∃ c,B[p+j]?=some c:=⟨B[p+j],zge hlt⟩
  obtain ⟨_,hce⟩:=List.getElem?_eq_some_iff.1 hc
  have hc8:=c.toNat_lt
  have hbl:=byteVs_length B
  have e5:(byteVs B)[p+j]?=some (.int .u8 (c.toNat:Int)):=by rw [byte_get,hc];rfl
  have ej:((j+1:Nat):Int) - 1=(j:Int):=by omega
  have e1:(0:Int)≤(j:Int):=by omega
  have ew:IntKind.wrap .i64 ((p:Int)+(j:Int))=((p+j:Nat):Int):=by rw [wrap64 (by omega) (by omega)];omega
  have ew2:IntKind.wrap .i64 ((j:Int) - 1)=(j:Int) - 1:=wrap64 (by omega) (by omega)
  have hget:((B.drop p).take (k+1))[j]?=some c:=by rw [List.getElem?_take,if_pos (by omega),List.getElem?_drop];exact hc
  have hv:vlu (((B.drop p).take (k+1)).drop j)=c.toNat % 128+128*vlu (((B.drop p).take (k+1)).drop (j+1)):=by rw [drop_get hget,vlu]
  have hb1:=vlu_lt (((B.drop p).take (k+1)).drop j)
  have hb2:128 ^ (((B.drop p).take (k+1)).drop j).length≤128 ^ 9:=Nat.pow_le_pow_right (by decide) (by simp;omega)
  have hb3:(128:Nat) ^ 9=9223372036854775808:=by decide
  have em:((c.toNat:Int)).tmod 128=((c.toNat % 128:Nat):Int):=by rw [Int.tmod_eq_emod_of_nonneg (by omega)];omega
  have IH:=fun T=>ih T (by omega)
  rw [hv] at IH
  generalize vlu (((B.drop p).take (k+1)).drop (j+1))=v at *
  have ec:IntKind.wrap .i64 ((c.toNat % 128:Nat):Int)=((c.toNat % 128:Nat):Int):=wrap64 (by omega) (by omega)
  have ew3:IntKind.wrap .i64 ((v:Int)*128)=((128*v:Nat):Int):=by rw [wrap64 (by omega) (by omega)];omega
  have ew4:IntKind.wrap .i64 (((128*v:Nat):Int)+((c.toNat % 128:Nat):Int))=((c.toNat % 128+128*v:Nat):Int):=by rw [wrap64 (by omega) (by omega)];omega
  generalize 128*v=v8 at *
  generalize c.toNat % 128=cm at *
  refine evK_loop c42_50 _ _ _ _ rfl ?_
  simp (config:={implicitDefEqProofs:=false}) [-zia,-St.obj,-St.set,ho,hbl,byte_gE,hce,hlt,e1,ej,ew,ew2,e5,em,ec,ew3,ew4,-zil,-zit,-znl,-znt,ty3,ty4,ty5,ty23,ty27,ty78,ty80,H42,x43,fi43_eq,p43,e42_6,e42_5,e42_3,e42_17,q42_17,e42_18,e42_16,e42_22,e42_21,e42_15,e42_29,e42_27,e42_26,e42_24,e42_39,e42_37,e42_36,e42_34,e42_53,e42_51,e42_58,q42_58,e42_59,e42_56,e42_50,e42_48,e42_46,e42_62,q42_62,e42_66,e42_64,e42_63,e42_61,e42_72,e42_70,e42_45,e42_43,e42_33,e42_12,e42_10,e42_2,e42_0,n42_14,n42_49]
  exact IH _
end
end
end Go.Proofs.Ytebjpgoadapabaa
namespace Go.Proofs.Ytebjpgoadapabaa
open Go Go.Ab
noncomputable section
variable (fr:Fr)(st:St)(k:Kt)
def R42 (W:Nat→Int→St)(B:List UInt8)(p:Nat):Out × St :=
 match rd (B.drop p) with
 | .ok (n,k)=>(.ret (.int .i64 (n:Int)) none,W (p+k) 0)
 | .error e=>(.ret (.int .i64 0) none,W p e)
theorem c42b (id p:Nat)(B:List UInt8)(bad:Int)(hbad:bad≠0)(S:St)(ho:St.obj S id=some [.slice (byteVs B),.int .i64 (p:Int),.int .i64 bad]):EvF gS 42 [.ptr id 0] S=some (.ret (.int .i64 0) none,S):=by
 refine EvF_start fi42_eq (fun x h=>by cases h <;> decide) m42 ?_
 rw [st42]
 simp (config:={implicitDefEqProofs:=false}) [-zia,-St.obj,-St.set,ho,hbad,-zil,-zit,-znl,-znt,ty3,ty4,ty5,ty23,ty27,ty78,ty80,H42,x43,fi43_eq,p43,e42_6,e42_5,e42_3,e42_17,q42_17,e42_18,e42_16,e42_22,e42_21,e42_15,e42_29,e42_27,e42_26,e42_24,e42_39,e42_37,e42_36,e42_34,e42_53,e42_51,e42_58,q42_58,e42_59,e42_56,e42_50,e42_48,e42_46,e42_62,q42_62,e42_66,e42_64,e42_63,e42_61,e42_72,e42_70,e42_60,e42_45,e42_43,e42_33,e42_23,e42_12,e42_10,e42_2,e42_0,n42_14,n42_49]
theorem c42 (id p:Nat)(B:List UInt8)(hB:B.length≤1000000)(hp:p≤B.length)(W:Nat→Int→St)(ho:∀ p bad,St.obj (W p bad) id=some [.slice (byteVs B),.int .i64 ((p:Nat):Int),.int .i64 bad])
  (hs:∀ (p:Nat) (bad:Int) (p':Nat) (bad':Int),St.set (W p bad) id [.slice (byteVs B),.int .i64 (p':Int),.int .i64 bad']=some (W p' bad')):EvF gS 42 [.ptr id 0] (W p 0)=some (R42 W B p):=by
 refine EvF_start fi42_eq (fun x h=>by cases h <;> decide) m42 ?_
 rw [st42]
 generalize hR:R42 W B p=R
 unfold R42 at hR
 rw [rd_lead] at hR
 have k43':=fun fr=>k43 id p B 0 hB hp fr (W p 0) (ho p 0)
 obtain ⟨hl1,hl2⟩:=lead_le 9 (B.drop p)
 rw [List.length_drop] at hl2
 rw [List.length_drop] at hR
 obtain ⟨k,hk⟩:∃ k,k=lead 9 (B.drop p):=⟨_,rfl⟩
 rw [← hk] at hl1 hl2 hR
 have H23:∀ T,evK gS fi42 c42_23 {ps:=[(0,.val (.ptr id 0)),(2,.val (.int .i64 0)),(3,.val (.int .i64 (k:Nat))),(4,.any),(5,.any)],ts:=T,lc:=[]} (W p 0) .nil=some R:=by
  intro T
  by_cases h9:k=9
  ·rw [if_pos h9] at hR
   subst h9
   simp (config:={implicitDefEqProofs:=false}) [-zia,-St.obj,-St.set,ho,hs,← hR,-zil,-zit,-znl,-znt,ty3,ty4,ty5,ty23,ty27,ty78,ty80,H42,x43,fi43_eq,p43,e42_6,e42_5,e42_3,e42_17,q42_17,e42_18,e42_16,e42_22,e42_21,e42_15,e42_29,e42_27,e42_26,e42_24,e42_39,e42_37,e42_36,e42_34,e42_53,e42_51,e42_58,q42_58,e42_59,e42_56,e42_50,e42_48,e42_46,e42_62,q42_62,e42_66,e42_64,e42_63,e42_61,e42_72,e42_70,e42_60,e42_45,e42_43,e42_33,e42_23,e42_12,e42_10,e42_2,e42_0,n42_14,n42_49]
  ·rw [if_neg h9] at hR
   have h9i:¬ (k:Int)=9:=by omega
   by_cases hL:k=B.length - p
   ·rw [if_pos hL] at hR
    have hLi:=eq_true (show (k:Int)=((B.length - p:Nat):Int) by omega)
    have hL2:=eq_true hL
    have h9':¬ B.length - p=9:=by omega
    generalize B.length - p=bl at *
    simp (config:={implicitDefEqProofs:=false}) [-zia,-St.obj,-St.set,ho,hs,k43',h9,h9',h9i,hLi,hL2,← hR,-zil,-zit,-znl,-znt,ty3,ty4,ty5,ty23,ty27,ty78,ty80,H42,x43,fi43_eq,p43,e42_6,e42_5,e42_3,e42_17,q42_17,e42_18,e42_16,e42_22,e42_21,e42_15,e42_29,e42_27,e42_26,e42_24,e42_39,e42_37,e42_36,e42_34,e42_53,e42_51,e42_58,q42_58,e42_59,e42_56,e42_50,e42_48,e42_46,e42_62,q42_62,e42_66,e42_64,e42_63,e42_61,e42_72,e42_70,e42_60,e42_45,e42_43,e42_33,e42_23,e42_12,e42_10,e42_2,e42_0,n42_14,n42_49]
   ·rw [if_neg hL] at hR
    have hLi:¬ (k:Int)=((B.length - p:Nat):Int):=by omega
    have hpk:p+k<B.length:=by omega
    obtain ⟨c,hc⟩:∃ c,B[p+k]?=some c:=⟨B[p+k],zge hpk⟩
    obtain ⟨_,hce⟩:=List.getElem?_eq_some_iff.1 hc
    have hbl:=byteVs_length B
    have e5:(byteVs B)[p+k]?=some (.int .u8 (c.toNat:Int)):=by rw [byte_get,hc];rfl
    have hc8:=c.toNat_lt
    have hgd:((B.drop p).getD k 0).toNat=c.toNat:=by rw [List.getD_eq_getElem?_getD,List.getElem?_drop,hc];rfl
    rw [hgd] at hR
    have ew:IntKind.wrap .i64 ((p:Int)+(k:Int))=((p+k:Nat):Int):=by rw [wrap64 (by omega) (by omega)];omega
    have ew2:IntKind.wrap .i64 (((p+k:Nat):Int)+1)=((p+(k+1):Nat):Int):=by rw [wrap64 (by omega) (by omega)];omega
    have LB:=fun HH=>LB42 id p B hB hp (W p 0) (ho p 0) R k (by omega) hpk HH (k+1)
    have hnil:((B.drop p).take (k+1)).drop (k+1)=[]:=List.drop_of_length_le (by simp;omega)
    rw [hnil,show ((k+1:Nat):Int) - 1=(k:Int) from by omega] at LB
    have ev0:((vlu ([]:List UInt8):Nat):Int)=0:=rfl
    rw [ev0] at LB
    have H60:∀ T,evK gS fi42 c42_60 {ps:=[(0,.val (.ptr id 0)),(2,.val (.int .i64 0)),(3,.val (.int .i64 (k:Nat))),(4,.val (.int .i64 (vlu ((B.drop p).take (k+1)):Nat))),(5,.val (.int .i64 (-1)))],ts:=T,lc:=[]} (W p 0) .nil=some R:=by
     intro T
     generalize vlu ((B.drop p).take (k+1))=v at *
     by_cases hbad:(0<k∧c.toNat=0)∨4611686018427387904<v
     ·rw [if_pos hbad] at hR
      by_cases h1:0<k∧c.toNat=0
      ·obtain ⟨h1,h2⟩:=h1
       have h1i:(0:Int)<(k:Int):=by omega
       have h2i:=eq_true (show (c.toNat:Int)=0 by omega)
       have h2j:=eq_true h2
       simp (config:={implicitDefEqProofs:=false}) [-zia,-St.obj,-St.set,ho,hs,hbl,byte_gE,hce,hpk,ew,ew2,e5,h1,h1i,h2i,h2j,← hR,-zil,-zit,-znl,-znt,ty3,ty4,ty5,ty23,ty27,ty78,ty80,H42,x43,fi43_eq,p43,e42_6,e42_5,e42_3,e42_17,q42_17,e42_18,e42_16,e42_22,e42_21,e42_15,e42_29,e42_27,e42_26,e42_24,e42_39,e42_37,e42_36,e42_34,e42_53,e42_51,e42_58,q42_58,e42_59,e42_56,e42_50,e42_48,e42_46,e42_62,q42_62,e42_66,e42_64,e42_63,e42_61,e42_72,e42_70,e42_60,e42_45,e42_43,e42_33,e42_23,e42_12,e42_10,e42_2,e42_0,n42_14,n42_49]
      ·have h2:4611686018427387904<v:=by omega
       have h2i:(4611686018427387904:Int)<(v:Int):=by omega
       by_cases h3:0<k
       ·have h3i:(0:Int)<(k:Int):=by omega
        have h4:¬ c.toNat=0:=by omega
        have h4i:¬ (c.toNat:Int)=0:=by omega
        simp (config:={implicitDefEqProofs:=false}) [-zia,-St.obj,-St.set,ho,hs,hbl,byte_gE,hce,hpk,ew,ew2,e5,h2,h2i,h3,h3i,h4,h4i,← hR,-zil,-zit,-znl,-znt,ty3,ty4,ty5,ty23,ty27,ty78,ty80,H42,x43,fi43_eq,p43,e42_6,e42_5,e42_3,e42_17,q42_17,e42_18,e42_16,e42_22,e42_21,e42_15,e42_29,e42_27,e42_26,e42_24,e42_39,e42_37,e42_36,e42_34,e42_53,e42_51,e42_58,q42_58,e42_59,e42_56,e42_50,e42_48,e42_46,e42_62,q42_62,e42_66,e42_64,e42_63,e42_61,e42_72,e42_70,e42_60,e42_45,e42_43,e42_33,e42_23,e42_12,e42_10,e42_2,e42_0,n42_14,n42_49]
       ·obtain rfl:k=0:=by omega
        simp (config:={implicitDefEqProofs:=false}) [-zia,-St.obj,-St.set,ho,hs,h2,h2i,← hR,-zil,-zit,-znl,-znt,ty3,ty4,ty5,ty23,ty27,ty78,ty80,H42,x43,fi43_eq,p43,e42_6,e42_5,e42_3,e42_17,q42_17,e42_18,e42_16,e42_22,e42_21,e42_15,e42_29,e42_27,e42_26,e42_24,e42_39,e42_37,e42_36,e42_34,e42_53,e42_51,e42_58,q42_58,e42_59,e42_56,e42_50,e42_48,e42_46,e42_62,q42_62,e42_66,e42_64,e42_63,e42_61,e42_72,e42_70,e42_60,e42_45,e42_43,e42_33,e42_23,e42_12,e42_10,e42_2,e42_0,n42_14,n42_49]
     ·rw [if_neg hbad] at hR
      have h2:¬ 4611686018427387904<v:=by omega
      have h2i:¬ (4611686018427387904:Int)<(v:Int):=by omega
      by_cases h3:0<k
      ·have h3i:(0:Int)<(k:Int):=by omega
       have h4:¬ c.toNat=0:=by omega
       have h4i:¬ (c.toNat:Int)=0:=by omega
       simp (config:={implicitDefEqProofs:=false}) [-zia,-St.obj,-St.set,ho,hs,hbl,byte_gE,hce,hpk,ew,ew2,e5,h2,h2i,h3,h3i,h4,h4i,← hR,-zil,-zit,-znl,-znt,ty3,ty4,ty5,ty23,ty27,ty78,ty80,H42,x43,fi43_eq,p43,e42_6,e42_5,e42_3,e42_17,q42_17,e42_18,e42_16,e42_22,e42_21,e42_15,e42_29,e42_27,e42_26,e42_24,e42_39,e42_37,e42_36,e42_34,e42_53,e42_51,e42_58,q42_58,e42_59,e42_56,e42_50,e42_48,e42_46,e42_62,q42_62,e42_66,e42_64,e42_63,e42_61,e42_72,e42_70,e42_60,e42_45,e42_43,e42_33,e42_23,e42_12,e42_10,e42_2,e42_0,n42_14,n42_49]
      ·have h3i:¬ (0:Int)<(k:Int):=by omega
       simp (config:={implicitDefEqProofs:=false}) [-zia,-St.obj,-St.set,ho,hs,hbl,byte_gE,hce,hpk,ew,ew2,e5,h2,h2i,h3,h3i,← hR,-zil,-zit,-znl,-znt,ty3,ty4,ty5,ty23,ty27,ty78,ty80,H42,x43,fi43_eq,p43,e42_6,e42_5,e42_3,e42_17,q42_17,e42_18,e42_16,e42_22,e42_21,e42_15,e42_29,e42_27,e42_26,e42_24,e42_39,e42_37,e42_36,e42_34,e42_53,e42_51,e42_58,q42_58,e42_59,e42_56,e42_50,e42_48,e42_46,e42_62,q42_62,e42_66,e42_64,e42_63,e42_61,e42_72,e42_70,e42_60,e42_45,e42_43,e42_33,e42_23,e42_12,e42_10,e42_2,e42_0,n42_14,n42_49]
    have L1:=LB H60
    generalize B.length - p=bl at *
    simp (config:={implicitDefEqProofs:=false}) [-zia,-St.obj,-St.set,ho,hs,k43',h9,h9i,hL,hLi,-zil,-zit,-znl,-znt,ty3,ty4,ty5,ty23,ty27,ty78,ty80,H42,x43,fi43_eq,p43,e42_6,e42_5,e42_3,e42_17,q42_17,e42_18,e42_16,e42_22,e42_21,e42_15,e42_29,e42_27,e42_26,e42_24,e42_39,e42_37,e42_36,e42_34,e42_53,e42_51,e42_58,q42_58,e42_59,e42_56,e42_50,e42_48,e42_46,e42_62,q42_62,e42_66,e42_64,e42_63,e42_61,e42_72,e42_70,e42_60,e42_45,e42_43,e42_33,e42_23,e42_12,e42_10,e42_2,e42_0,n42_14,n42_49]
    exact L1 _ (Nat.le_refl _)
 have LA:=LA42 id p B hB hp (W p 0) (ho p 0) R k H23 9 0
 simp (config:={implicitDefEqProofs:=false}) [-zia,-St.obj,-St.set,ho,-zil,-zit,-znl,-znt,ty3,ty4,ty5,ty23,ty27,ty78,ty80,H42,x43,fi43_eq,p43,e42_6,e42_5,e42_3,e42_17,q42_17,e42_18,e42_16,e42_22,e42_21,e42_15,e42_29,e42_27,e42_26,e42_24,e42_39,e42_37,e42_36,e42_34,e42_53,e42_51,e42_58,q42_58,e42_59,e42_56,e42_50,e42_48,e42_46,e42_62,q42_62,e42_66,e42_64,e42_63,e42_61,e42_72,e42_70,e42_60,e42_45,e42_43,e42_33,e42_23,e42_12,e42_10,e42_2,e42_0,n42_14,n42_49]
 exact LA _ (by omega) (by rw [hk,Nat.zero_add,Nat.add_zero]) (by omega)
def k42R (fr:Fr)(W:Nat→Int→St)(B:List UInt8)(p:Nat):Rs :=
 match rd (B.drop p) with
 | .ok (n,k)=>.ok (.val (.int .i64 (n:Int))) (fr.map E.noMem) (W (p+k) 0)
 | .error e=>.ok (.val (.int .i64 0)) (fr.map E.noMem) (W p e)
theorem k42 (id p:Nat)(B:List UInt8)(hB:B.length≤1000000)(hp:p≤B.length)(W:Nat→Int→St)(ho:∀ p bad,St.obj (W p bad) id=some [.slice (byteVs B),.int .i64 ((p:Nat):Int),.int .i64 bad])
  (hs:∀ (p:Nat) (bad:Int) (p':Nat) (bad':Int),St.set (W p bad) id [.slice (byteVs B),.int .i64 (p':Int),.int .i64 bad']=some (W p' bad')) (fr:Fr):callStep gS (EvF gS) 42 [.ptr id 0] fr (W p 0)=some (k42R fr W B p):=by
 rw [call_np rfl fi42_eq rfl (c42 id p B hB hp W ho hs) fr]
 unfold R42 k42R
 cases rd (B.drop p) <;> rfl
theorem k42b (id p:Nat)(B:List UInt8)(bad:Int)(hbad:bad≠0)(S:St)(ho:St.obj S id=some [.slice (byteVs B),.int .i64 (p:Int),.int .i64 bad])(fr:Fr):callStep gS (EvF gS) 42 [.ptr id 0] fr S=some (.ok (.val (.int .i64 0)) (fr.map E.noMem) S):=by
 rw [call_np rfl fi42_eq rfl (c42b id p B bad hbad S ho) fr]
 rfl
def fi44:FI:={body:=codeOf Try.f44,ntmps:=28,results:=[.tmp 4],pers:=[0,1,4,5],locals:=[],pure:=true,marks:=[]}
theorem H44:fi44.marks=[]∧fi44.locals=[]∧fi44.results=[.tmp 4]:=⟨rfl,rfl,rfl⟩
theorem fi44_eq:gS.fn 44=some fi44:=by kernel_rfl
theorem st44 (a0 a1:V):startFr fi44 [a0,a1]={ps:=[(0,.val a0),(1,.val a1),(4,.any),(5,.any)],ts:=[],lc:=[]}:=rfl
def b44:Code:=mini (codeOf Try.f44)
def r44_3:Array Oper:=regOps (codeN (codeOf Try.f44) 5)
def c44_3:Code:=.region 1 r44_3 true
def q44_3:List (Oper × Fl):=[(mv 6 0 45,qz0),
 (op1 7 (.nilCheck (.tmp 6)) 0,qz0),
 (qF 8 73 7 3 0,qz0),
 (ld 9 3 8 3,qz0),
 (mv 10 1 3,qz0),
 (bop 11 .add 3 9 10 3 3,qz0),
 (qB 12 .add 3 11 1 3 3,qz0),
 (cal 13 45 [(.const (.slice none 0 0)),(.tmp 12)] [27,3] 27,qz1),
 (mv 14 0 45,qz3),
 (op1 15 (.nilCheck (.tmp 14)) 0,qz3),
 (qF 16 73 15 8 0,qz3),
 (ld 17 3 16 3,qz3),
 (cal 18 45 [(.tmp 13),(.tmp 17)] [27,3] 27,qz6),
 (asn 5 18 27,qz5)]
theorem e44_3:evK gS fi44 c44_3 fr st k=drwR gS fi44 r44_3 q44_3 fr st k:=evK_dr 1 rfl (by kernel_rfl) (by kernel_rfl)
def c44_4:Code:=.seq (codeN b44 11) .ret
theorem e44_4:evK gS fi44 c44_4 fr st k=opsR gS fi44 [mv 19 5 27,
 mv 20 0 45,
 op1 21 (.nilCheck (.tmp 20)) 0,
 qF 22 73 21 2 0,
 ld 23 28 22 28,
 mv 24 1 3,
 ixa 25 28 23 24 0,
 ld 26 27 25 27,
 qE 27 19 26 27 27,
 asn 4 27 27] fr st (.seq .ret k):=evK_rs 2 rfl (by kernel_rfl)
def c44_2:Code:=.seq c44_3 c44_4
theorem e44_2:evK gS fi44 c44_2 fr st k=evK gS fi44 c44_3 fr st (.seq c44_4 k):=rfl
def c44_0:Code:=.seq (codeN b44 2) c44_2
theorem e44_0:evK gS fi44 c44_0 fr st k=opsR gS fi44 [qN 4 27] fr st (.seq c44_2 k):=evK_rs 0 rfl (by kernel_rfl)
theorem m44:mini fi44.body=c44_0:=by kernel_rfl
theorem c44 (e i:Nat)(f:List UInt8)(w z kk:Nat)(fs:List (List UInt8))(b s t:Nat)(a o:Bool)(g:Nat)(hb:b≤800000)(hi:i≤100000)(hg:g≤800000)(hx:fs[i]?=some f)(hf:f.length≤1000000)(st:St)(he:St.obj st e=some (refC w z (.osl kk (encFs fs)) b s t a o g)) :
  EvF gS 44 [.ptr e 0,.int .i64 (i:Int)] st=some (.ret (.slice (byteVs (dgr (b+i+1) g f))) (some 1),st):=by
 refine EvF_start fi44_eq (fun x h=>by cases h <;> decide) m44 ?_
 rw [st44]
 have k1:=fun fr st=>k45 [] (b+i+1) (by simp) (by omega) fr st
 have k2:=fun fr st=>k45 (nb (b+i+1)) g (by have:=nb_len (b+i+1);omega) (by omega) fr st
 have l1:=nb_len (b+i+1)
 have l2:=nb_len g
 rw [show byteVs []=([]:List V) from rfl,List.nil_append] at k1
 have hs:=sizes_bytes f
 have hs2:=sizes_bytes (nb (b+i+1) ++ nb g)
 have hk:(nb (b+i+1) ++ nb g).length+f.length≤140737488355328:=by simp;omega
 have ha:=app_bytes (nb (b+i+1) ++ nb g) f
 have hw1:IntKind.wrap .i64 ((b:Int)+(i:Int))=((b+i:Nat):Int):=by rw [wrap64 (by omega) (by omega)];omega
 have hw2:IntKind.wrap .i64 (((b+i:Nat):Int)+1)=((b+i+1:Nat):Int):=by rw [wrap64 (by omega) (by omega)];omega
 obtain ⟨hlt,hxe⟩:=List.getElem?_eq_some_iff.1 hx
 have hlti:(i:Int)<(fs.length:Int):=by omega
 have hho:handOk r44_3 13 18=true:=by kernel_rfl
 unfold dgr
 unfold refC at he
 generalize nb (b+i+1) ++ nb g=ng at *
 generalize nb (b+i+1)=nn at *
 simp (config:={implicitDefEqProofs:=false}) [-St.obj,-St.set,-zia,he,hho,k1,k2,hs,hs2,hk,ha,hw1,hw2,hx,hxe,hlt,hlti,-zil,-zit,-znl,-znt,ty3,ty27,ty28,ty45,ty73,H44,x45,fi45_eq,p45,e44_3,q44_3,e44_4,e44_2,e44_0]
theorem k44 (e i:Nat)(f:List UInt8)(w z kk:Nat)(fs:List (List UInt8))(b s t:Nat)(a o:Bool)(g:Nat)(hb:b≤800000)(hi:i≤100000)(hg:g≤800000)(hx:fs[i]?=some f)(hf:f.length≤1000000)(fr:Fr)(st:St)(he:St.obj st e=some (refC w z (.osl kk (encFs fs)) b s t a o g)) :
  callStep gS (EvF gS) 44 [.ptr e 0,.int .i64 (i:Int)] fr st=some (.ok (.own 1 (byteVs (dgr (b+i+1) g f))) fr st):=by
 unfold callStep
 simp only [show gS.ext 44=none from rfl,fi44_eq,show fi44.pure=true from rfl,if_true,show flats [V.ptr e 0,V.int .i64 (i:Int)]=false from rfl,Bool.false_eq_true,if_false]
 rw [c44 e i f w z kk fs b s t a o g hb hi hg hx hf _ (by exact he)]
 simp [V.flat,retE]
theorem x44:gS.ext 44=none:=rfl
theorem p44:fi44.pure=true:=rfl
def fi25:FI:={body:=codeOf Try.f25,ntmps:=24,results:=[.tmp 4,.tmp 5],pers:=[0,1,4,5],locals:=[],pure:=false,marks:=[]}
theorem H25:fi25.marks=[]∧fi25.locals=[]∧fi25.results=[.tmp 4,.tmp 5]:=⟨rfl,rfl,rfl⟩
theorem fi25_eq:gS.fn 25=some fi25:=by kernel_rfl
theorem st25 (a0 a1:V):startFr fi25 [a0,a1]={ps:=[(0,.val a0),(1,.val a1),(4,.any),(5,.any)],ts:=[],lc:=[]}:=rfl
def b25:Code:=mini (codeOf Try.f25)
def c25_6:Code:=.seq (codeN b25 37) .ret
theorem e25_6:evK gS fi25 c25_6 fr st k=opsR gS fi25 [op1 4 (.assign (.const (.pointer none))) 45,
 qI 5 1 23] fr st (.seq .ret k):=evK_rs 2 rfl (by kernel_rfl)
def c25_5:Code:=.cond (.tmp 19) c25_6 .skip
theorem e25_5:evK gS fi25 c25_5 fr st k=condK gS fi25 (fr.op (.tmp 19)).bool? c25_6 .skip fr st k:=rfl
def c25_3:Code:=.seq (codeN b25 9) c25_5
theorem e25_3:evK gS fi25 c25_3 fr st k=opsR gS fi25 [mv 6 0 3,
 qB 7 .lss 3 6 1 3 4,
 mv 8 7 4,
 qm 9 0 3 2 false,
 qc 10 .gtr 3 9 8 3 4 2 false,
 qQ 11 8 true 10 4,
 mv 12 11 4,
 qm 13 1 3 6 false,
 qc 14 .lss 3 13 1 3 4 6 false,
 qQ 15 12 true 14 4,
 mv 16 15 4,
 qm 17 1 3 10 false,
 qc 18 .gtr 3 17 8 3 4 10 false,
 qQ 19 16 true 18 4] fr st (.seq c25_5 k):=evK_rs 1 rfl (by kernel_rfl)
def c25_10:Code:=.seq (codeN b25 11) .ret
theorem e25_10:evK gS fi25 c25_10 fr st k=opsR gS fi25 [mv 20 0 3,
 mv 21 1 3,
 op1 22 (.build 73 #[(0,(.tmp 20)),(1,(.tmp 21))]) 73,
 op1 23 (.box 73 (.tmp 22)) 45,
 asn 4 23 45,
 qI 5 0 23] fr st (.seq .ret k):=evK_rs 3 rfl (by kernel_rfl)
def c25_2:Code:=.seq c25_3 c25_10
theorem e25_2:evK gS fi25 c25_2 fr st k=evK gS fi25 c25_3 fr st (.seq c25_10 k):=rfl
def c25_0:Code:=.seq (codeN b25 2) c25_2
theorem e25_0:evK gS fi25 c25_0 fr st k=opsR gS fi25 [op1 4 (.assign (.const (.pointer none))) 45,
 qI 5 0 23] fr st (.seq c25_2 k):=evK_rs 0 rfl (by kernel_rfl)
theorem m25:mini fi25.body=c25_0:=by kernel_rfl
theorem c25 (w z:Nat)(h1:1≤w)(h2:w≤8)(h3:1≤z)(h4:z≤8)(S:St):EvF gS 25 [.int .i64 (w:Int),.int .i64 (z:Int)] S=some (.ret (.tuple [.ptr S.objs.length 0,.int .i64 0]) none,apps S [refC w z (.osl 0 []) 0 0 0 false false 0]):=by
 refine EvF_start fi25_eq (fun x h=>by cases h <;> decide) m25 ?_
 rw [st25]
 have e1:¬ (w:Int)<1:=by omega
 have e2:¬ (8:Int)<(w:Int):=by omega
 have e3:¬ (z:Int)<1:=by omega
 have e4:¬ (8:Int)<(z:Int):=by omega
 simp (config:={implicitDefEqProofs:=false}) [-St.obj,-St.set,e1,e2,e3,e4,apps,refC,-zil,-zit,-znl,-znt,ty3,ty4,ty23,ty45,ty73,H25,e25_6,e25_5,e25_3,e25_10,e25_2,e25_0]
def fi27:FI:={body:=codeOf Try.f27,ntmps:=16,results:=[],pers:=[0,1],locals:=[],pure:=false,marks:=[5000009]}
theorem H27:fi27.marks=[5000009]∧fi27.locals=[]∧fi27.results=[]:=⟨rfl,rfl,rfl⟩
theorem fi27_eq:gS.fn 27=some fi27:=by kernel_rfl
theorem st27 (a0 a1:V):startFr fi27 [a0,a1]={ps:=[(0,.val a0),(1,.val a1)],ts:=[],lc:=[]}:=rfl
def r27_0:Array Oper:=regOps (codeN (codeOf Try.f27) 1)
def c27_0:Code:=.region 0 r27_0 true
def q27_0:List (Oper × Fl):=[(mv 4 0 45,qz2),
 (mv 5 0 45,qz0),
 (op1 6 (.nilCheck (.tmp 5)) 0,qz0),
 (qF 7 73 6 2 0,qz0),
 (ld 8 28 7 28,qz0),
 (op1 9 (.buildSlice 27 0 #[]) 27,qz0),
 (mv 10 1 27,qz3),
 (qE 11 9 10 27 27,qz6),
 (qS 12 28 11 28,qz3),
 (qE 13 8 12 28 28,qz4),
 (op1 14 (.nilCheck (.tmp 4)) 0,qz5),
 (qF 15 73 14 2 0,qz5),
 (sto 28 15 13,qz4)]
theorem e27_0:evK gS fi27 c27_0 fr st k=drwR gS fi27 r27_0 q27_0 fr st k:=evK_dr 0 rfl (by kernel_rfl) (by kernel_rfl)
theorem m27:mini fi27.body=c27_0:=by kernel_rfl
theorem c27 (e w z kk:Nat)(hkk:kk=0∨kk=1)(fs:List (List UInt8))(hfl:fs.length≤100000)(b s t:Nat)(a o:Bool)(g:Nat)(f:List UInt8)(hf:f.length≤1000000)(σ:List V→List V→St)(hσ:Hp σ e 0 False) :
  EvF gS 27 [.ptr e 0,.slice (byteVs f)] (σ (refC w z (.osl kk (encFs fs)) b s t a o g) [])=some (.ret (.tuple []) none,σ (refC w z (.osl 1 (encFs (fs ++ [f]))) b s t a o g) []):=by
 refine EvF_start fi27_eq (fun x h=>by cases h <;> decide) m27 ?_
 rw [st27]
 have hoe:=hσ.oe
 have hse:=hσ.se
 have hs:=sizes_bytes f
 have hs2:=sizes_fs fs
 have b1:f.length≤140737488355328:=by omega
 have b2:(fs.length+1)*24≤140737488355328:=by omega
 have b3:fs.length+1≤140737488355328:=by omega
 have ha:=fs_snoc fs f
 unfold refC
 simp (config:={implicitDefEqProofs:=false}) [-zia,-zaa,-St.obj,-St.set,hoe,hse,hs,hs2,b1,b2,b3,ha,hkk,-zil,-zit,-znl,-znt,ty27,ty28,ty45,ty73,H27,e27_0,q27_0]
def fi28:FI:={body:=codeOf Try.f28,ntmps:=32,results:=[],pers:=[0],locals:=[],pure:=false,marks:=[]}
theorem H28:fi28.marks=[]∧fi28.locals=[]∧fi28.results=[]:=⟨rfl,rfl,rfl⟩
theorem fi28_eq:gS.fn 28=some fi28:=by kernel_rfl
theorem st28 (a0:V):startFr fi28 [a0]={ps:=[(0,.val a0)],ts:=[],lc:=[]}:=rfl
def b28:Code:=mini (codeOf Try.f28)
def c28_4:Code:=.seq (codeN b28 18) .ret
theorem e28_4:evK gS fi28 c28_4 fr st k=opsR gS fi28 [mv 7 0 45,
 op1 8 (.nilCheck (.tmp 7)) 0,
 qF 9 73 8 5 0,
 mk none (.store 3 (.tmp 9) (.const (.int .i64 0))) 0 none] fr st (.seq .ret k):=evK_rs 1 rfl (by kernel_rfl)
def c28_3:Code:=.cond (.tmp 6) c28_4 .skip
theorem e28_3:evK gS fi28 c28_3 fr st k=condK gS fi28 (fr.op (.tmp 6)).bool? c28_4 .skip fr st k:=rfl
def c28_1:Code:=.seq (codeN b28 4) c28_3
theorem e28_1:evK gS fi28 c28_1 fr st k=opsR gS fi28 [mv 2 0 45,
 op1 3 (.nilCheck (.tmp 2)) 0,
 qF 4 73 3 4 0,
 ld 5 3 4 3,
 qB 6 .eql 3 5 0 3 4] fr st (.seq c28_3 k):=evK_rs 0 rfl (by kernel_rfl)
def r28_11:Array Oper:=regOps (codeN (codeOf Try.f28) 11)
def c28_11:Code:=.region 3 r28_11 true
def q28_11:List (Oper × Fl):=[(mv 17 0 45,qz0),
 (op1 18 (.nilCheck (.tmp 17)) 0,qz0),
 (qF 19 73 18 5 0,qz0),
 (ld 20 3 19 3,qz0),
 (mv 21 0 45,qz3),
 (op1 22 (.nilCheck (.tmp 21)) 0,qz3),
 (qF 23 73 22 1 0,qz3),
 (ld 24 3 23 3,qz3),
 (bop 25 .geq 3 20 24 3 4,qz5)]
theorem e28_11:evK gS fi28 c28_11 fr st k=drwR gS fi28 r28_11 q28_11 fr st k:=evK_dr 3 rfl (by kernel_rfl) (by kernel_rfl)
def c28_13:Code:=codeN b28 23
theorem e28_13:evK gS fi28 c28_13 fr st k=opsR gS fi28 [mv 26 0 45,
 mv 27 0 45,
 op1 28 (.nilCheck (.tmp 26)) 0,
 qF 29 73 28 5 0,
 mk none (.store 3 (.tmp 29) (.const (.int .i64 0))) 0 none,
 op1 30 (.nilCheck (.tmp 27)) 0,
 qF 31 73 30 6 0,
 mk none (.store 4 (.tmp 31) (.const (.bool true))) 0 none] fr st k:=evK_r 4 (by kernel_rfl)
def c28_12:Code:=.cond (.tmp 25) c28_13 .skip
theorem e28_12:evK gS fi28 c28_12 fr st k=condK gS fi28 (fr.op (.tmp 25)).bool? c28_13 .skip fr st k:=rfl
def c28_10:Code:=.seq c28_11 c28_12
theorem e28_10:evK gS fi28 c28_10 fr st k=evK gS fi28 c28_11 fr st (.seq c28_12 k):=rfl
def c28_8:Code:=.seq (codeN b28 5) c28_10
theorem e28_8:evK gS fi28 c28_8 fr st k=opsR gS fi28 [mv 10 0 45,
 op1 11 (.nilCheck (.tmp 10)) 0,
 qF 12 73 11 5 0,
 ld 13 3 12 3,
 qB 14 .add 3 13 1 3 3,
 op1 15 (.nilCheck (.tmp 10)) 0,
 qF 16 73 15 5 0,
 sto 3 16 14] fr st (.seq c28_10 k):=evK_rs 2 rfl (by kernel_rfl)
def c28_0:Code:=.seq c28_1 c28_8
theorem e28_0:evK gS fi28 c28_0 fr st k=evK gS fi28 c28_1 fr st (.seq c28_8 k):=rfl
theorem m28:mini fi28.body=c28_0:=by kernel_rfl
theorem c28 (e w z:Nat)(v:V)(b s t:Nat)(ht:t≤1000000)(a o:Bool)(g:Nat)(σ:List V→List V→St)(hσ:Hp σ e 0 False) :
  EvF gS 28 [.ptr e 0] (σ (refC w z v b s t a o g) [])=some (.ret (.tuple []) none,σ (refC w z v b s (if s=0 then 0 else if t+1<z then t+1 else 0) (if s=0 then a else if t+1<z then a else true) o g) []):=by
 refine EvF_start fi28_eq (fun x h=>by cases h <;> decide) m28 ?_
 rw [st28]
 have hoe:=hσ.oe
 have hse:=hσ.se
 have hwt  := qws t (by omega)
 unfold refC
 by_cases h:s=0
 ·subst h
  simp (config:={implicitDefEqProofs:=false}) [-zia,-St.obj,-St.set,hoe,hse,-zil,-zit,-znl,-znt,ty3,ty4,ty45,ty73,H28,e28_4,e28_3,e28_1,e28_11,q28_11,e28_13,e28_12,e28_10,e28_8,e28_0]
 ·have hi:¬ (s:Int)=0:=by omega
  rw [if_neg h,if_neg h]
  by_cases hz:t+1<z
  ·have hzi:¬ (z:Int)≤((t+1:Nat):Int):=by omega
   have hz2:¬ z≤t+1:=by omega
   rw [if_pos hz,if_pos hz]
   simp (config:={implicitDefEqProofs:=false}) [-zia,-St.obj,-St.set,hoe,hse,h,hi,hwt,hzi,hz2,-zil,-zit,-znl,-znt,ty3,ty4,ty45,ty73,H28,e28_4,e28_3,e28_1,e28_11,q28_11,e28_13,e28_12,e28_10,e28_8,e28_0]
  ·have hzi:(z:Int)≤((t+1:Nat):Int):=by omega
   have hz2:z≤t+1:=by omega
   rw [if_neg hz,if_neg hz]
   simp (config:={implicitDefEqProofs:=false}) [-zia,-St.obj,-St.set,hoe,hse,h,hi,hwt,hzi,hz2,-zil,-zit,-znl,-znt,ty3,ty4,ty45,ty73,H28,e28_4,e28_3,e28_1,e28_11,q28_11,e28_13,e28_12,e28_10,e28_8,e28_0]
end
end Go.Proofs.Ytebjpgoadapabaa
namespace Go.Ab
open Go
def rng (b g:Nat)(fs:List (List UInt8)):Nat→Nat→List (List UInt8)
 | _,0=>[]
 | i,m+1=>dgr (b+i+1) g (fs.getD i []) :: rng b g fs (i+1) m
theorem rng_len (b g:Nat)(fs:List (List UInt8)):∀ (m i:Nat),(rng b g fs i m).length=m
 | 0,i=>rfl
 | m+1,i=>by rw [rng,List.length_cons,rng_len b g fs m (i+1)]
def routs (w b g s:Nat)(a o:Bool)(fs:List (List UInt8)):List (List UInt8) × Nat :=
 let B:=(if a then rng b g fs 0 s else []) ++ rng b g fs s (min fs.length w - s)
 (if B=[]∧o=true then [dgr 0 g []] else B,s+(min fs.length w - s))
theorem getD_of {fs:List (List UInt8)} {i:Nat} {f:List UInt8} (h:fs[i]?=some f):fs.getD i []=f:=by rw [List.getD_eq_getElem?_getD,h];rfl
structure Rk where
 out:List (List UInt8)
 er:Int
 b:Nat
 s:Nat
 t:Nat
 a:Bool
 o:Bool
 g:Nat
 fs:List (List UInt8)
def rack (ack b s t:Nat)(a:Bool)(fs:List (List UInt8)):Nat × Nat × Nat × Bool × List (List UInt8):=if b<ack then (ack,s - (ack - b),0,false,fs.drop (ack - b)) else (b,s,t,a,fs)
def rtake (b s t:Nat)(a o:Bool)(g:Nat)(fs:List (List UInt8))(B:List UInt8):Rk :=
 match pr2 B with
 | .error er=>⟨[],er,b,s,t,a,o,g,fs⟩
 | .ok (n,ack,rest)=>if b+s<ack then ⟨[],1,b,s,t,a,o,g,fs⟩ else
  if n=0 then ⟨[],0,(rack ack b s t a fs).1,(rack ack b s t a fs).2.1,(rack ack b s t a fs).2.2.1,(rack ack b s t a fs).2.2.2.1,o,g,(rack ack b s t a fs).2.2.2.2⟩
  else if n=g+1 then ⟨[rest],0,(rack ack b s t a fs).1,(rack ack b s t a fs).2.1,(rack ack b s t a fs).2.2.1,(rack ack b s t a fs).2.2.2.1,true,n,(rack ack b s t a fs).2.2.2.2⟩
  else ⟨[],0,(rack ack b s t a fs).1,(rack ack b s t a fs).2.1,(rack ack b s t a fs).2.2.1,(rack ack b s t a fs).2.2.2.1,true,g,(rack ack b s t a fs).2.2.2.2⟩
theorem drop_fs (l:List (List UInt8))(n:Nat):(encFs l).drop n=encFs (l.drop n):=by simp [encFs]
end Go.Ab
namespace Go.Proofs.Ytebjpgoadapabaa
open Go Go.Ab
noncomputable section
variable (fr:Fr)(st:St)(k:Kt)
def fi37:FI:={body:=codeOf Try.f37,ntmps:=87,results:=[.tmp 2],pers:=[0,2,3,4],locals:=[],pure:=false,marks:=[]}
theorem H37:fi37.marks=[]∧fi37.locals=[]∧fi37.results=[.tmp 2]:=⟨rfl,rfl,rfl⟩
theorem fi37_eq:gS.fn 37=some fi37:=by kernel_rfl
theorem st37 (a0:V):startFr fi37 [a0]={ps:=[(0,.val a0),(2,.any),(3,.any),(4,.any)],ts:=[],lc:=[]}:=rfl
def b37:Code:=mini (codeOf Try.f37)
def c37_12:Code:=.cond (.tmp 16) .skip (.exit 0)
theorem e37_12:evK gS fi37 c37_12 fr st k=condK gS fi37 (fr.op (.tmp 16)).bool? .skip (.exit 0) fr st k:=rfl
def c37_10:Code:=.seq (codeN b37 267) c37_12
theorem e37_10:evK gS fi37 c37_10 fr st k=opsR gS fi37 [mv 5 4 3,
 mv 6 0 45,
 op1 7 (.nilCheck (.tmp 6)) 0,
 qF 8 73 7 4 0,
 ld 9 3 8 3,
 bop 10 .lss 3 5 9 3 4,
 mv 11 10 4,
 qm 12 0 45 6 true,
 mk (some 13) (.nilCheck (.tmp 12)) 0 (some (6,true)),
 qf 14 73 13 6 0 6 true,
 ql 15 4 14 4 6 true,
 qP 16 11 15 false 4] fr st (.seq c37_12 k):=evK_rs 3 rfl (by kernel_rfl)
def c37_17:Code:=codeN b37 587
theorem e37_17:evK gS fi37 c37_17 fr st k=opsR gS fi37 [mv 19 3 28,
 mv 20 0 45,
 mv 21 4 3,
 cal 22 44 [(.tmp 20),(.tmp 21)] [45,3] 27,
 qS 23 28 22 28,
 qE 24 19 23 28 28,
 asn 3 24 28] fr st k:=evK_r 5 (by kernel_rfl)
def c37_18:Code:=codeN b37 459
theorem e37_18:evK gS fi37 c37_18 fr st k=opsR gS fi37 [mv 17 4 3,
 qB 18 .add 3 17 1 3 3,
 asn 4 18 3] fr st k:=evK_r 4 (by kernel_rfl)
def c37_15:Code:=.seq (.block 1 c37_17) c37_18
theorem e37_15:evK gS fi37 c37_15 fr st k=evK gS fi37 c37_17 fr st (.blk 1 (.seq c37_18 k)):=rfl
def c37_9:Code:=.seq c37_10 c37_15
theorem e37_9:evK gS fi37 c37_9 fr st k=evK gS fi37 c37_10 fr st (.seq c37_15 k):=rfl
def c37_8:Code:=.loop c37_9
def c37_7:Code:=.block 0 c37_8
theorem e37_7:evK gS fi37 c37_7 fr st k=evK gS fi37 c37_8 fr st (.blk 0 k):=rfl
def c37_5:Code:=.seq (codeN b37 19) c37_7
theorem e37_5:evK gS fi37 c37_5 fr st k=opsR gS fi37 [qI 4 0 3] fr st (.seq c37_7 k):=evK_rs 2 rfl (by kernel_rfl)
def r37_24:Array Oper:=regOps (codeN (codeOf Try.f37) 263)
def c37_24:Code:=.region 6 r37_24 true
def q37_24:List (Oper × Fl):=[(mv 25 0 45,qz0),
 (op1 26 (.nilCheck (.tmp 25)) 0,qz0),
 (qF 27 73 26 4 0,qz0),
 (ld 28 3 27 3,qz0),
 (mv 29 0 45,qz0),
 (op1 30 (.nilCheck (.tmp 29)) 0,qz0),
 (qF 31 73 30 2 0,qz0),
 (ld 32 28 31 28,qz3),
 (len1 33 32 28 3,qz3),
 (bop 34 .lss 3 28 33 3 4,qz3),
 (mv 35 34 4,qz3),
 (qm 36 0 45 10 true,qz0),
 (mk (some 37) (.nilCheck (.tmp 36)) 0 (some (10,true)),qz0),
 (qf 38 73 37 4 0 10 true,qz0),
 (ql 39 3 38 3 10 true,qz0),
 (qm 40 0 45 10 true,qz0),
 (mk (some 41) (.nilCheck (.tmp 40)) 0 (some (10,true)),qz3),
 (qf 42 73 41 0 0 10 true,qz3),
 (ql 43 3 42 3 10 true,qz3),
 (qb 44 .lss 3 39 43 3 4 10 true,qz3),
 (qP 45 35 44 false 4,qz3)]
theorem e37_24:evK gS fi37 c37_24 fr st k=drwR gS fi37 r37_24 q37_24 fr st k:=evK_dr 6 rfl (by kernel_rfl) (by kernel_rfl)
def c37_25:Code:=.cond (.tmp 45) .skip (.exit 2)
theorem e37_25:evK gS fi37 c37_25 fr st k=condK gS fi37 (fr.op (.tmp 45)).bool? .skip (.exit 2) fr st k:=rfl
def c37_23:Code:=.seq c37_24 c37_25
theorem e37_23:evK gS fi37 c37_23 fr st k=evK gS fi37 c37_24 fr st (.seq c37_25 k):=rfl
def c37_31:Code:=codeN b37 839
theorem e37_31:evK gS fi37 c37_31 fr st k=opsR gS fi37 [mv 55 0 45,
 op1 56 (.nilCheck (.tmp 55)) 0,
 qF 57 73 56 4 0,
 ld 58 3 57 3,
 qB 59 .add 3 58 1 3 3,
 op1 60 (.nilCheck (.tmp 55)) 0,
 qF 61 73 60 4 0,
 sto 3 61 59] fr st k:=evK_r 8 (by kernel_rfl)
def c37_29:Code:=.seq (codeN b37 583) c37_31
theorem e37_29:evK gS fi37 c37_29 fr st k=opsR gS fi37 [mv 46 3 28,
 mv 47 0 45,
 mv 48 0 45,
 op1 49 (.nilCheck (.tmp 48)) 0,
 qF 50 73 49 4 0,
 ld 51 3 50 3,
 cal 52 44 [(.tmp 47),(.tmp 51)] [45,3] 27,
 qS 53 28 52 28,
 qE 54 46 53 28 28,
 asn 3 54 28] fr st (.seq c37_31 k):=evK_rs 7 rfl (by kernel_rfl)
def c37_28:Code:=.block 3 c37_29
theorem e37_28:evK gS fi37 c37_28 fr st k=evK gS fi37 c37_29 fr st (.blk 3 k):=rfl
def c37_22:Code:=.seq c37_23 c37_28
theorem e37_22:evK gS fi37 c37_22 fr st k=evK gS fi37 c37_23 fr st (.seq c37_28 k):=rfl
def c37_21:Code:=.loop c37_22
def r37_36:Array Oper:=regOps (codeN (codeOf Try.f37) 175)
def c37_36:Code:=.region 10 r37_36 true
def q37_36:List (Oper × Fl):=[(mv 71 3 28,qz0),
 (cal 72 45 [(.const (.slice none 0 0)),(.const (.int .i64 0))] [27,3] 27,qz1),
 (mv 73 0 45,qz2),
 (op1 74 (.nilCheck (.tmp 73)) 0,qz3),
 (qF 75 73 74 8 0,qz3),
 (ld 76 3 75 3,qz3),
 (cal 77 45 [(.tmp 72),(.tmp 76)] [27,3] 27,qz6),
 (qS 78 28 77 28,qz3),
 (qE 79 71 78 28 28,qz4),
 (asn 3 79 28,qz5)]
theorem e37_36:evK gS fi37 c37_36 fr st k=drwR gS fi37 r37_36 q37_36 fr st k:=evK_dr 10 rfl (by kernel_rfl) (by kernel_rfl)
def c37_35:Code:=.cond (.tmp 70) c37_36 .skip
theorem e37_35:evK gS fi37 c37_35 fr st k=condK gS fi37 (fr.op (.tmp 70)).bool? c37_36 .skip fr st k:=rfl
def c37_33:Code:=.seq (codeN b37 79) c37_35
theorem e37_33:evK gS fi37 c37_33 fr st k=opsR gS fi37 [mv 62 3 28,
 len1 63 62 28 3,
 qB 64 .eql 3 63 0 3 4,
 mv 65 64 4,
 qm 66 0 45 3 true,
 mk (some 67) (.nilCheck (.tmp 66)) 0 (some (3,true)),
 qf 68 73 67 7 0 3 true,
 ql 69 4 68 4 3 true,
 qP 70 65 69 false 4] fr st (.seq c37_35 k):=evK_rs 9 rfl (by kernel_rfl)
def c37_40:Code:=.seq (codeN b37 191) .ret
theorem e37_40:evK gS fi37 c37_40 fr st k=opsR gS fi37 [mv 86 3 28,
 asn 2 86 28] fr st (.seq .ret k):=evK_rs 12 rfl (by kernel_rfl)
def c37_38:Code:=.seq (codeN b37 95) c37_40
theorem e37_38:evK gS fi37 c37_38 fr st k=opsR gS fi37 [mv 80 0 45,
 mv 81 0 45,
 op1 82 (.nilCheck (.tmp 80)) 0,
 qF 83 73 82 6 0,
 mk none (.store 4 (.tmp 83) (.const (.bool false))) 0 none,
 op1 84 (.nilCheck (.tmp 81)) 0,
 qF 85 73 84 7 0,
 mk none (.store 4 (.tmp 85) (.const (.bool false))) 0 none] fr st (.seq c37_40 k):=evK_rs 11 rfl (by kernel_rfl)
def c37_32:Code:=.seq c37_33 c37_38
theorem e37_32:evK gS fi37 c37_32 fr st k=evK gS fi37 c37_33 fr st (.seq c37_38 k):=rfl
def c37_19:Code:=.seq (.block 2 c37_21) c37_32
theorem e37_19:evK gS fi37 c37_19 fr st k=evK gS fi37 c37_21 fr st (.blk 2 (.seq c37_32 k)):=rfl
def c37_4:Code:=.seq c37_5 c37_19
theorem e37_4:evK gS fi37 c37_4 fr st k=evK gS fi37 c37_5 fr st (.seq c37_19 k):=rfl
def c37_2:Code:=.seq (codeN b37 5) c37_4
theorem e37_2:evK gS fi37 c37_2 fr st k=opsR gS fi37 [qN 3 28] fr st (.seq c37_4 k):=evK_rs 1 rfl (by kernel_rfl)
def c37_0:Code:=.seq (codeN b37 2) c37_2
theorem e37_0:evK gS fi37 c37_0 fr st k=opsR gS fi37 [qN 2 28] fr st (.seq c37_2 k):=evK_rs 0 rfl (by kernel_rfl)
theorem m37:mini fi37.body=c37_0:=by kernel_rfl
theorem n37_8 (fr:Fr)(st:St)(k:Kt):nextK gS fi37 (.loop c37_9 k) .normal fr st=evK gS fi37 c37_8 fr st k:=rfl
theorem n37_21 (fr:Fr)(st:St)(k:Kt):nextK gS fi37 (.loop c37_22 k) .normal fr st=evK gS fi37 c37_21 fr st k:=rfl
theorem LA37 (e w z kk b g:Nat)(fs:List (List UInt8))(t:Nat)(a o:Bool)(hb:b≤700000)(hg:g≤700000)(hfl:fs.length≤100000)(hfr:∀ f∈fs,f.length≤1000000)(σ:List V→List V→St)(hσ:Hp σ e 0 False)(s:Nat)(hs:s≤fs.length)(ha:a=true)(R:Out × St):∀ (m i:Nat) (acc:List (List UInt8)) (T:List (Nat × E)),i+m=s→acc.length≤i→(H:∀ T,evK gS fi37 c37_19 {ps:=[(0,.val (.ptr e 0)),(2,.own 0 []),(3,.own (ko (acc ++ rng b g fs i m)) (encFs (acc ++ rng b g fs i m))),(4,.val (.int .i64 (s:Nat)))],ts:=T,lc:=[]} (σ (refC w z (.osl kk (encFs fs)) b s t a o g) []) .nil=some R) →
  evK gS fi37 c37_8 {ps:=[(0,.val (.ptr e 0)),(2,.own 0 []),(3,.own (ko acc) (encFs acc)),(4,.val (.int .i64 (i:Nat)))],ts:=T,lc:=[]} (σ (refC w z (.osl kk (encFs fs)) b s t a o g) []) (.blk 0 (.seq c37_19 .nil))=some R:=by
 intro m
 have hoe:=hσ.oe
 subst ha
 induction m with
 | zero =>
  intro i acc T hi hac H
  obtain rfl:i=s:=by omega
  rw [rng,List.append_nil] at H
  refine evK_loop c37_9 _ _ _ _ rfl ?_
  unfold refC at H ⊢
  simp (config:={implicitDefEqProofs:=false}) [-zia,-St.obj,-St.set,hoe,-zil,-zit,-znl,-znt,ty3,ty4,ty27,ty28,ty45,ty73,H37,x44,fi44_eq,p44,x45,fi45_eq,p45,e37_12,e37_10,e37_17,e37_18,e37_15,e37_9,e37_7,e37_5,e37_24,q37_24,e37_25,e37_23,e37_31,e37_29,e37_28,e37_22,e37_36,q37_36,e37_35,e37_33,e37_40,e37_38,e37_32,e37_4,e37_2,e37_0,n37_8,n37_21]
  exact H _
 | succ m ih =>
  intro i acc T hi hac H
  have hlt:i<fs.length:=by omega
  obtain ⟨f,hf⟩:∃ f,fs[i]?=some f:=⟨fs[i],zge hlt⟩
  have hff:=hfr f (zmg hf)
  have kd:=fun fr=>k44 e i f w z kk fs b s t true o g (by omega) (by omega) (by omega) hf hff fr (σ (refC w z (.osl kk (encFs fs)) b s t true o g) []) (hoe _ _)
  rw [rng,getD_of hf,List.append_cons] at H
  have hs1:=sizes_fs acc
  have hs2:=fs_snoc acc (dgr (b+i+1) g f)
  have b1:(acc.length+1)*24≤140737488355328:=by omega
  have b2:acc.length+1≤140737488355328:=by omega
  have hko:=ko_or acc
  have e0:(i:Int)<(s:Int):=by omega
  have e1:i<s:=by omega
  have hw  := qws i (by omega)
  have IH:=fun T=>ih (i+1) (acc ++ [dgr (b+i+1) g f]) T (by omega) (by simp;omega) H
  rw [ko_snoc] at IH
  refine evK_loop c37_9 _ _ _ _ rfl ?_
  unfold refC at kd IH ⊢
  simp (config:={implicitDefEqProofs:=false}) [-zia,-zaa,-St.obj,-St.set,hoe,kd,hs1,hs2,b1,b2,hko,e0,e1,hw,-zil,-zit,-znl,-znt,ty3,ty4,ty27,ty28,ty45,ty73,H37,x44,fi44_eq,p44,x45,fi45_eq,p45,e37_12,e37_10,e37_17,e37_18,e37_15,e37_9,e37_7,e37_5,e37_24,q37_24,e37_25,e37_23,e37_31,e37_29,e37_28,e37_22,e37_36,q37_36,e37_35,e37_33,e37_40,e37_38,e37_32,e37_4,e37_2,e37_0,n37_8,n37_21]
  exact IH _
theorem LB37 (e w z kk b g:Nat)(fs:List (List UInt8))(t:Nat)(a o:Bool)(hb:b≤700000)(hg:g≤700000)(hfl:fs.length≤100000)(hfr:∀ f∈fs,f.length≤1000000)(σ:List V→List V→St)(hσ:Hp σ e 0 False)(R:Out × St)(i4:Int):∀ (m s:Nat) (acc:List (List UInt8)) (T:List (Nat × E)),m=min fs.length w - s→acc.length≤200000+s→(H:∀ T,evK gS fi37 c37_32 {ps:=[(0,.val (.ptr e 0)),(2,.own 0 []),(3,.own (ko (acc ++ rng b g fs s m)) (encFs (acc ++ rng b g fs s m))),(4,.val (.int .i64 i4))],ts:=T,lc:=[]} (σ (refC w z (.osl kk (encFs fs)) b (s+m) t a o g) []) .nil=some R) →
  evK gS fi37 c37_21 {ps:=[(0,.val (.ptr e 0)),(2,.own 0 []),(3,.own (ko acc) (encFs acc)),(4,.val (.int .i64 i4))],ts:=T,lc:=[]} (σ (refC w z (.osl kk (encFs fs)) b s t a o g) []) (.blk 2 (.seq c37_32 .nil))=some R:=by
 intro m
 have hoe:=hσ.oe
 have hse:=hσ.se
 induction m with
 | zero =>
  intro s acc T hm0 hac H
  rw [rng,List.append_nil,Nat.add_zero] at H
  refine evK_loop c37_22 _ _ _ _ rfl ?_
  unfold refC at H ⊢
  by_cases h1:s<fs.length
  ·have h1i:(s:Int)<(fs.length:Int):=by omega
   have h2:¬ s<w:=by omega
   have h2i:¬ (s:Int)<(w:Int):=by omega
   simp (config:={implicitDefEqProofs:=false}) [-zia,-St.obj,-St.set,hoe,h1,h1i,h2,h2i,-zil,-zit,-znl,-znt,ty3,ty4,ty27,ty28,ty45,ty73,H37,x44,fi44_eq,p44,x45,fi45_eq,p45,e37_12,e37_10,e37_17,e37_18,e37_15,e37_9,e37_7,e37_5,e37_24,q37_24,e37_25,e37_23,e37_31,e37_29,e37_28,e37_22,e37_36,q37_36,e37_35,e37_33,e37_40,e37_38,e37_19,e37_4,e37_2,e37_0,n37_8,n37_21]
   exact H _
  ·have h1i:¬ (s:Int)<(fs.length:Int):=by omega
   simp (config:={implicitDefEqProofs:=false}) [-zia,-St.obj,-St.set,hoe,h1,h1i,-zil,-zit,-znl,-znt,ty3,ty4,ty27,ty28,ty45,ty73,H37,x44,fi44_eq,p44,x45,fi45_eq,p45,e37_12,e37_10,e37_17,e37_18,e37_15,e37_9,e37_7,e37_5,e37_24,q37_24,e37_25,e37_23,e37_31,e37_29,e37_28,e37_22,e37_36,q37_36,e37_35,e37_33,e37_40,e37_38,e37_19,e37_4,e37_2,e37_0,n37_8,n37_21]
   exact H _
 | succ m ih =>
  intro s acc T hm0 hac H
  have hlt:s<fs.length:=by omega
  have hlti:(s:Int)<(fs.length:Int):=by omega
  have h2:s<w:=by omega
  have h2i:(s:Int)<(w:Int):=by omega
  obtain ⟨f,hf⟩:∃ f,fs[s]?=some f:=⟨fs[s],zge hlt⟩
  have hff:=hfr f (zmg hf)
  have kd:=fun fr=>k44 e s f w z kk fs b s t a o g (by omega) (by omega) (by omega) hf hff fr (σ (refC w z (.osl kk (encFs fs)) b s t a o g) []) (hoe _ _)
  rw [rng,getD_of hf,List.append_cons,show s+(m+1)=s+1+m from by omega] at H
  have hs1:=sizes_fs acc
  have hs2:=fs_snoc acc (dgr (b+s+1) g f)
  have b1:(acc.length+1)*24≤140737488355328:=by omega
  have b2:acc.length+1≤140737488355328:=by omega
  have hko:=ko_or acc
  have hw  := qws s (by omega)
  have IH:=fun T=>ih (s+1) (acc ++ [dgr (b+s+1) g f]) T (by omega) (by simp;omega) H
  rw [ko_snoc] at IH
  refine evK_loop c37_22 _ _ _ _ rfl ?_
  unfold refC at kd IH ⊢
  simp (config:={implicitDefEqProofs:=false}) [-zia,-zaa,-St.obj,-St.set,hoe,hse,kd,hs1,hs2,b1,b2,hko,hlt,hlti,h2,h2i,hw,-zil,-zit,-znl,-znt,ty3,ty4,ty27,ty28,ty45,ty73,H37,x44,fi44_eq,p44,x45,fi45_eq,p45,e37_12,e37_10,e37_17,e37_18,e37_15,e37_9,e37_7,e37_5,e37_24,q37_24,e37_25,e37_23,e37_31,e37_29,e37_28,e37_22,e37_36,q37_36,e37_35,e37_33,e37_40,e37_38,e37_19,e37_4,e37_2,e37_0,n37_8,n37_21]
  exact IH _
theorem T37 (e w z kk b g:Nat)(fs:List (List UInt8))(t:Nat)(a o:Bool)(hb:b≤700000)(hg:g≤700000)(hfl:fs.length≤100000)(hfr:∀ f∈fs,f.length≤1000000)(σ:List V→List V→St)(hσ:Hp σ e 0 False)(s:Nat)(O:List (List UInt8))(i4:Int)(T:List (Nat × E)):evK gS fi37 c37_32 {ps:=[(0,.val (.ptr e 0)),(2,.own 0 []),(3,.own (ko O) (encFs O)),(4,.val (.int .i64 i4))],ts:=T,lc:=[]} (σ (refC w z (.osl kk (encFs fs)) b s t a o g) []) .nil =
  some (.ret (.slice (encFs (if O=[]∧o=true then [dgr 0 g []] else O))) (some (ko (if O=[]∧o=true then [dgr 0 g []] else O))),σ (refC w z (.osl kk (encFs fs)) b s t false false g) []):=by
 have hoe:=hσ.oe
 have hse:=hσ.se
 have k1:=fun fr st=>k45 [] 0 (by simp) (by omega) fr st
 have k2:=fun fr st=>k45 (nb 0) g (by have:=nb_len 0;omega) (by omega) fr st
 have hd0:nb 0 ++ nb g=dgr 0 g []:=by unfold dgr;rw [List.append_nil]
 rw [show byteVs []=([]:List V) from rfl,List.nil_append,show ((0:Nat):Int)=0 from rfl] at k1
 rw [hd0] at k2
 have bo1:borOk r37_36 0 3 71=true:=by kernel_rfl
 have bo2:handOk r37_36 9 79=true:=by kernel_rfl
 generalize nb 0=n0 at *
 unfold refC
 by_cases hO:O=[]
 ·subst hO
  cases o with
  | true =>
   rw [if_pos ⟨rfl,rfl⟩]
   rw [show ko [dgr 0 g []]=1 from rfl,show encFs [dgr 0 g []]=[.slice (byteVs (dgr 0 g []))] from rfl]
   rw [show ko ([]:List (List UInt8))=0 from rfl,show encFs []=([]:List V) from rfl]
   simp (config:={implicitDefEqProofs:=false}) [-zia,-St.obj,-St.set,hoe,hse,k1,k2,bo1,bo2,-zil,-zit,-znl,-znt,ty3,ty4,ty27,ty28,ty45,ty73,H37,x44,fi44_eq,p44,x45,fi45_eq,p45,e37_12,e37_10,e37_17,e37_18,e37_15,e37_9,e37_7,e37_5,e37_24,q37_24,e37_25,e37_23,e37_31,e37_29,e37_28,e37_22,e37_36,q37_36,e37_35,e37_33,e37_40,e37_38,e37_32,e37_4,e37_2,e37_0,n37_8,n37_21]
  | false =>
   rw [if_neg (by simp)]
   rw [show ko ([]:List (List UInt8))=0 from rfl,show encFs []=([]:List V) from rfl]
   simp (config:={implicitDefEqProofs:=false}) [-zia,-St.obj,-St.set,hoe,hse,-zil,-zit,-znl,-znt,ty3,ty4,ty27,ty28,ty45,ty73,H37,x44,fi44_eq,p44,x45,fi45_eq,p45,e37_12,e37_10,e37_17,e37_18,e37_15,e37_9,e37_7,e37_5,e37_24,q37_24,e37_25,e37_23,e37_31,e37_29,e37_28,e37_22,e37_36,q37_36,e37_35,e37_33,e37_40,e37_38,e37_32,e37_4,e37_2,e37_0,n37_8,n37_21]
 ·rw [if_neg (fun h=>hO h.1)]
  have hl9:¬ O.length=0:=by simpa using hO
  have hli:¬ (O.length:Int)=0:=by omega
  simp (config:={implicitDefEqProofs:=false}) [-zia,-St.obj,-St.set,hoe,hse,hO,hl9,hli,ko_enc,-zil,-zit,-znl,-znt,ty3,ty4,ty27,ty28,ty45,ty73,H37,x44,fi44_eq,p44,x45,fi45_eq,p45,e37_12,e37_10,e37_17,e37_18,e37_15,e37_9,e37_7,e37_5,e37_24,q37_24,e37_25,e37_23,e37_31,e37_29,e37_28,e37_22,e37_36,q37_36,e37_35,e37_33,e37_40,e37_38,e37_32,e37_4,e37_2,e37_0,n37_8,n37_21]
theorem c37 (e w z kk b g:Nat)(fs:List (List UInt8))(t:Nat)(a o:Bool)(hb:b≤700000)(hg:g≤700000)(hfl:fs.length≤100000)(hfr:∀ f∈fs,f.length≤1000000)(σ:List V→List V→St)(hσ:Hp σ e 0 False)(s:Nat)(hs:s≤fs.length):EvF gS 37 [.ptr e 0] (σ (refC w z (.osl kk (encFs fs)) b s t a o g) [])=some (.ret (.slice (encFs (routs w b g s a o fs).1)) (some (ko (routs w b g s a o fs).1)),σ (refC w z (.osl kk (encFs fs)) b (routs w b g s a o fs).2 t false false g) []):=by
 refine EvF_start fi37_eq (fun x h=>by cases h <;> decide) m37 ?_
 rw [st37]
 have hoe:=hσ.oe
 unfold routs
 simp only
 have TT:=fun s O i4 T=>T37 e w z kk b g fs t a o hb hg hfl hfr σ hσ s O i4 T
 cases a with
 | true =>
  simp only [if_true]
  generalize hR:(Out.ret (V.slice (encFs (if rng b g fs 0 s ++ rng b g fs s (min fs.length w - s)=[]∧o=true then [dgr 0 g []] else rng b g fs 0 s ++ rng b g fs s (min fs.length w - s)))) (some (ko (if rng b g fs 0 s ++ rng b g fs s (min fs.length w - s)=[]∧o=true then [dgr 0 g []] else rng b g fs 0 s ++ rng b g fs s (min fs.length w - s)))),σ (refC w z (.osl kk (encFs fs)) b (s+(min fs.length w - s)) t false false g) [])=R
  have LB:=fun T=>LB37 e w z kk b g fs t true o hb hg hfl hfr σ hσ R (s:Nat) (min fs.length w - s) s (rng b g fs 0 s) T rfl (by rw [rng_len];omega) (fun T=>by rw [← hR];exact TT _ _ _ T)
  have LA:=fun T=>LA37 e w z kk b g fs t true o hb hg hfl hfr σ hσ s hs rfl R s 0 [] T (Nat.zero_add s) (Nat.zero_le _) (fun T=>by
   rw [List.nil_append]
   have L1:=fun T=>LB T
   unfold refC at L1 ⊢
   generalize rng b g fs 0 s=AA at *
   simp (config:={implicitDefEqProofs:=false}) [-zia,-St.obj,-St.set,hoe,-zil,-zit,-znl,-znt,ty3,ty4,ty27,ty28,ty45,ty73,H37,x44,fi44_eq,p44,x45,fi45_eq,p45,e37_12,e37_10,e37_17,e37_18,e37_15,e37_9,e37_7,e37_5,e37_24,q37_24,e37_25,e37_23,e37_31,e37_29,e37_28,e37_22,e37_36,q37_36,e37_35,e37_33,e37_40,e37_38,e37_32,e37_19,e37_4,e37_2,e37_0,n37_8,n37_21]
   exact L1 _)
  rw [show ko ([]:List (List UInt8))=0 from rfl,show encFs []=([]:List V) from rfl,show ((0:Nat):Int)=0 from rfl] at LA
  simp (config:={implicitDefEqProofs:=false}) [-zia,-St.obj,-St.set,hoe,-zil,-zit,-znl,-znt,ty3,ty4,ty27,ty28,ty45,ty73,H37,x44,fi44_eq,p44,x45,fi45_eq,p45,e37_12,e37_10,e37_17,e37_18,e37_15,e37_9,e37_7,e37_5,e37_24,q37_24,e37_25,e37_23,e37_31,e37_29,e37_28,e37_22,e37_36,q37_36,e37_35,e37_33,e37_40,e37_38,e37_32,e37_19,e37_4,e37_2,e37_0,n37_8,n37_21]
  exact LA _
 | false =>
  simp only [Bool.false_eq_true,if_false,List.nil_append]
  generalize hR:(Out.ret (V.slice (encFs (if rng b g fs s (min fs.length w - s)=[]∧o=true then [dgr 0 g []] else rng b g fs s (min fs.length w - s)))) (some (ko (if rng b g fs s (min fs.length w - s)=[]∧o=true then [dgr 0 g []] else rng b g fs s (min fs.length w - s)))),σ (refC w z (.osl kk (encFs fs)) b (s+(min fs.length w - s)) t false false g) [])=R
  have LB:=fun T=>LB37 e w z kk b g fs t false o hb hg hfl hfr σ hσ R 0 (min fs.length w - s) s [] T rfl (Nat.zero_le _) (fun T=>by rw [← hR,List.nil_append];exact TT _ _ _ T)
  rw [show ko ([]:List (List UInt8))=0 from rfl,show encFs []=([]:List V) from rfl] at LB
  simp (config:={implicitDefEqProofs:=false}) [-zia,-St.obj,-St.set,hoe,-zil,-zit,-znl,-znt,ty3,ty4,ty27,ty28,ty45,ty73,H37,x44,fi44_eq,p44,x45,fi45_eq,p45,e37_12,e37_10,e37_17,e37_18,e37_15,e37_9,e37_7,e37_5,e37_24,q37_24,e37_25,e37_23,e37_31,e37_29,e37_28,e37_22,e37_36,q37_36,e37_35,e37_33,e37_40,e37_38,e37_32,e37_19,e37_4,e37_2,e37_0,n37_8,n37_21]
  refine evK_loop c37_9 _ _ _ _ rfl ?_
  unfold refC at LB ⊢
  by_cases h:(0:Int)<(s:Int)
  ·have h2:0<s:=by omega
   simp (config:={implicitDefEqProofs:=false}) [-zia,-St.obj,-St.set,hoe,h,h2,-zil,-zit,-znl,-znt,ty3,ty4,ty27,ty28,ty45,ty73,H37,x44,fi44_eq,p44,x45,fi45_eq,p45,e37_12,e37_10,e37_17,e37_18,e37_15,e37_9,e37_7,e37_5,e37_24,q37_24,e37_25,e37_23,e37_31,e37_29,e37_28,e37_22,e37_36,q37_36,e37_35,e37_33,e37_40,e37_38,e37_32,e37_19,e37_4,e37_2,e37_0,n37_8,n37_21]
   exact LB _
  ·have h2:s=0:=by omega
   subst h2
   simp (config:={implicitDefEqProofs:=false}) [-zia,-St.obj,-St.set,hoe,-zil,-zit,-znl,-znt,ty3,ty4,ty27,ty28,ty45,ty73,H37,x44,fi44_eq,p44,x45,fi45_eq,p45,e37_12,e37_10,e37_17,e37_18,e37_15,e37_9,e37_7,e37_5,e37_24,q37_24,e37_25,e37_23,e37_31,e37_29,e37_28,e37_22,e37_36,q37_36,e37_35,e37_33,e37_40,e37_38,e37_32,e37_19,e37_4,e37_2,e37_0,n37_8,n37_21]
   exact LB _
end
end Go.Proofs.Ytebjpgoadapabaa
namespace Go.Proofs.Ytebjpgoadapabaa
open Go Go.Ab
noncomputable section
variable (fr:Fr)(st:St)(k:Kt)
def fi36:FI:={body:=codeOf Try.f36,ntmps:=109,results:=[.tmp 4,.tmp 5],pers:=[0,1,4,5,6,7,8,9],locals:=[],pure:=false,marks:=[64]}
theorem H36:fi36.marks=[64]∧fi36.locals=[]∧fi36.results=[.tmp 4,.tmp 5]:=⟨rfl,rfl,rfl⟩
theorem fi36_eq:gS.fn 36=some fi36:=by kernel_rfl
theorem st36 (a0 a1:V):startFr fi36 [a0,a1]={ps:=[(0,.val a0),(1,.val a1),(4,.any),(5,.any),(6,.any),(7,.any),(8,.any),(9,.any)],ts:=[],lc:=[]}:=rfl
def b36:Code:=mini (codeOf Try.f36)
def r36_13:Array Oper:=regOps (codeN (codeOf Try.f36) 303)
def c36_13:Code:=.region 5 r36_13 true
def q36_13:List (Oper × Fl):=[(mv 22 6 78,qz0),
 (op1 23 (.nilCheck (.tmp 22)) 0,qz0),
 (qF 24 80 23 2 0,qz0),
 (ld 25 23 24 23,qz0),
 (qN 4 28,qz3),
 (asn 5 25 23,qz5)]
theorem e36_13:evK gS fi36 c36_13 fr st k=drwR gS fi36 r36_13 q36_13 fr st k:=evK_dr 5 rfl (by kernel_rfl) (by kernel_rfl)
def c36_12:Code:=.seq c36_13 .ret
theorem e36_12:evK gS fi36 c36_12 fr st k=evK gS fi36 c36_13 fr st (.seq .ret k):=rfl
def c36_11:Code:=.cond (.tmp 21) c36_12 .skip
theorem e36_11:evK gS fi36 c36_11 fr st k=condK gS fi36 (fr.op (.tmp 21)).bool? c36_12 .skip fr st k:=rfl
def c36_9:Code:=.seq (codeN b36 79) c36_11
theorem e36_9:evK gS fi36 c36_9 fr st k=opsR gS fi36 [mv 17 6 78,
 op1 18 (.nilCheck (.tmp 17)) 0,
 qF 19 80 18 2 0,
 ld 20 23 19 23,
 qB 21 .neq 23 20 0 23 4] fr st (.seq c36_11 k):=evK_rs 4 rfl (by kernel_rfl)
def c36_20:Code:=.seq (codeN b36 607) .ret
theorem e36_20:evK gS fi36 c36_20 fr st k=opsR gS fi36 [qN 4 28,
 qI 5 3 23] fr st (.seq .ret k):=evK_rs 7 rfl (by kernel_rfl)
def c36_19:Code:=.cond (.tmp 32) c36_20 .skip
theorem e36_19:evK gS fi36 c36_19 fr st k=condK gS fi36 (fr.op (.tmp 32)).bool? c36_20 .skip fr st k:=rfl
def c36_17:Code:=.seq (codeN b36 159) c36_19
theorem e36_17:evK gS fi36 c36_17 fr st k=opsR gS fi36 [mv 26 7 3,
 qB 27 .eql 3 26 0 3 4,
 mv 28 27 4,
 qm 29 6 78 2 true,
 mk (some 30) (.call {callee:=(.value (.func 43)),args:=#[(.tmp 29)],argTypes:=#[78]}) 3 (some (2,true)),
 qc 31 .gtr 3 30 0 3 4 2 true,
 qP 32 28 31 false 4] fr st (.seq c36_19 k):=evK_rs 6 rfl (by kernel_rfl)
def r36_26:Array Oper:=regOps (codeN (codeOf Try.f36) 319)
def c36_26:Code:=.region 8 r36_26 true
def q36_26:List (Oper × Fl):=[(mv 33 8 3,qz0),
 (mv 34 0 45,qz0),
 (op1 35 (.nilCheck (.tmp 34)) 0,qz0),
 (qF 36 73 35 3 0,qz0),
 (ld 37 3 36 3,qz0),
 (mv 38 0 45,qz0),
 (op1 39 (.nilCheck (.tmp 38)) 0,qz3),
 (qF 40 73 39 4 0,qz3),
 (ld 41 3 40 3,qz3),
 (bop 42 .add 3 37 41 3 3,qz3),
 (bop 43 .gtr 3 33 42 3 4,qz3)]
theorem e36_26:evK gS fi36 c36_26 fr st k=drwR gS fi36 r36_26 q36_26 fr st k:=evK_dr 8 rfl (by kernel_rfl) (by kernel_rfl)
def c36_28:Code:=.seq (codeN b36 1215) .ret
theorem e36_28:evK gS fi36 c36_28 fr st k=opsR gS fi36 [qN 4 28,
 qI 5 1 23] fr st (.seq .ret k):=evK_rs 9 rfl (by kernel_rfl)
def c36_27:Code:=.cond (.tmp 43) c36_28 .skip
theorem e36_27:evK gS fi36 c36_27 fr st k=condK gS fi36 (fr.op (.tmp 43)).bool? c36_28 .skip fr st k:=rfl
def c36_25:Code:=.seq c36_26 c36_27
theorem e36_25:evK gS fi36 c36_25 fr st k=evK gS fi36 c36_26 fr st (.seq c36_27 k):=rfl
def r36_39:Array Oper:=regOps (codeN (codeOf Try.f36) 5503)
def c36_39:Code:=.region 12 r36_39 true
def q36_39:List (Oper × Fl):=[(mv 56 0 45,qz2),
 (mv 57 0 45,qz2),
 (mv 58 0 45,qz2),
 (mv 59 0 45,qz0),
 (op1 60 (.nilCheck (.tmp 59)) 0,qz0),
 (qF 61 73 60 2 0,qz0),
 (ld 62 28 61 28,qz0),
 (mv 63 9 3,qz0),
 (op1 64 (.slice 28 (.tmp 62) (some (.tmp 63)) none none) 28,qz8),
 (mv 65 8 3,qz2),
 (mv 66 0 45,qz2),
 (op1 67 (.nilCheck (.tmp 66)) 0,qz2),
 (qF 68 73 67 4 0,qz2),
 (ld 69 3 68 3,qz2),
 (mv 70 9 3,qz2),
 (bop 71 .sub 3 69 70 3 3,qz2),
 (op1 72 (.nilCheck (.tmp 56)) 0,qz3),
 (qF 73 73 72 2 0,qz3),
 (sto 28 73 64,qz4),
 (op1 74 (.nilCheck (.tmp 57)) 0,qz3),
 (qF 75 73 74 3 0,qz3),
 (sto 3 75 65,qz4),
 (op1 76 (.nilCheck (.tmp 58)) 0,qz5),
 (qF 77 73 76 4 0,qz5),
 (sto 3 77 71,qz4)]
theorem e36_39:evK gS fi36 c36_39 fr st k=drwR gS fi36 r36_39 q36_39 fr st k:=evK_dr 12 rfl (by kernel_rfl) (by kernel_rfl)
def c36_40:Code:=codeN b36 7551
theorem e36_40:evK gS fi36 c36_40 fr st k=opsR gS fi36 [mv 78 0 45,
 mv 79 0 45,
 op1 80 (.nilCheck (.tmp 78)) 0,
 qF 81 73 80 6 0,
 mk none (.store 4 (.tmp 81) (.const (.bool false))) 0 none,
 op1 82 (.nilCheck (.tmp 79)) 0,
 qF 83 73 82 5 0,
 mk none (.store 3 (.tmp 83) (.const (.int .i64 0))) 0 none] fr st k:=evK_r 13 (by kernel_rfl)
def c36_38:Code:=.seq c36_39 c36_40
theorem e36_38:evK gS fi36 c36_38 fr st k=evK gS fi36 c36_39 fr st (.seq c36_40 k):=rfl
def c36_36:Code:=.seq (codeN b36 2431) c36_38
theorem e36_36:evK gS fi36 c36_36 fr st k=opsR gS fi36 [mv 50 8 3,
 mv 51 0 45,
 op1 52 (.nilCheck (.tmp 51)) 0,
 qF 53 73 52 3 0,
 ld 54 3 53 3,
 bop 55 .sub 3 50 54 3 3,
 asn 9 55 3] fr st (.seq c36_38 k):=evK_rs 11 rfl (by kernel_rfl)
def c36_35:Code:=.cond (.tmp 49) c36_36 .skip
theorem e36_35:evK gS fi36 c36_35 fr st k=condK gS fi36 (fr.op (.tmp 49)).bool? c36_36 .skip fr st k:=rfl
def c36_33:Code:=.seq (codeN b36 639) c36_35
theorem e36_33:evK gS fi36 c36_33 fr st k=opsR gS fi36 [mv 44 8 3,
 mv 45 0 45,
 op1 46 (.nilCheck (.tmp 45)) 0,
 qF 47 73 46 3 0,
 ld 48 3 47 3,
 bop 49 .gtr 3 44 48 3 4] fr st (.seq c36_35 k):=evK_rs 10 rfl (by kernel_rfl)
def c36_46:Code:=.seq (codeN b36 4863) .ret
theorem e36_46:evK gS fi36 c36_46 fr st k=opsR gS fi36 [qN 4 28,
 qI 5 0 23] fr st (.seq .ret k):=evK_rs 15 rfl (by kernel_rfl)
def c36_45:Code:=.cond (.tmp 85) c36_46 .skip
theorem e36_45:evK gS fi36 c36_45 fr st k=condK gS fi36 (fr.op (.tmp 85)).bool? c36_46 .skip fr st k:=rfl
def c36_43:Code:=.seq (codeN b36 1279) c36_45
theorem e36_43:evK gS fi36 c36_43 fr st k=opsR gS fi36 [mv 84 7 3,
 qB 85 .eql 3 84 0 3 4] fr st (.seq c36_45 k):=evK_rs 14 rfl (by kernel_rfl)
def c36_56:Code:=.seq (codeN b36 19455) .ret
theorem e36_56:evK gS fi36 c36_56 fr st k=opsR gS fi36 [qN 4 28,
 qI 5 0 23] fr st (.seq .ret k):=evK_rs 18 rfl (by kernel_rfl)
def c36_55:Code:=.cond (.tmp 95) c36_56 .skip
theorem e36_55:evK gS fi36 c36_55 fr st k=condK gS fi36 (fr.op (.tmp 95)).bool? c36_56 .skip fr st k:=rfl
def c36_53:Code:=.seq (codeN b36 5119) c36_55
theorem e36_53:evK gS fi36 c36_53 fr st k=opsR gS fi36 [mv 89 7 3,
 mv 90 0 45,
 op1 91 (.nilCheck (.tmp 90)) 0,
 qF 92 73 91 8 0,
 ld 93 3 92 3,
 qB 94 .add 3 93 1 3 3,
 bop 95 .neq 3 89 94 3 4] fr st (.seq c36_55 k):=evK_rs 17 rfl (by kernel_rfl)
def c36_62:Code:=.seq (codeN b36 12287) .ret
theorem e36_62:evK gS fi36 c36_62 fr st k=opsR gS fi36 [op1 100 (.buildSlice 27 0 #[]) 27,
 mv 101 1 27,
 mv 102 6 78,
 op1 103 (.nilCheck (.tmp 102)) 0,
 qF 104 80 103 1 0,
 ld 105 3 104 3,
 op1 106 (.slice 27 (.tmp 101) (some (.tmp 105)) none none) 27,
 qE 107 100 106 27 27,
 qS 108 28 107 28,
 asn 4 108 28,
 qI 5 0 23] fr st (.seq .ret k):=evK_rs 20 rfl (by kernel_rfl)
def c36_60:Code:=.seq (codeN b36 6143) c36_62
theorem e36_60:evK gS fi36 c36_60 fr st k=opsR gS fi36 [mv 96 0 45,
 mv 97 7 3,
 op1 98 (.nilCheck (.tmp 96)) 0,
 qF 99 73 98 8 0,
 sto 3 99 97] fr st (.seq c36_62 k):=evK_rs 19 rfl (by kernel_rfl)
def c36_52:Code:=.seq c36_53 c36_60
theorem e36_52:evK gS fi36 c36_52 fr st k=evK gS fi36 c36_53 fr st (.seq c36_60 k):=rfl
def c36_50:Code:=.seq (codeN b36 1535) c36_52
theorem e36_50:evK gS fi36 c36_50 fr st k=opsR gS fi36 [mv 86 0 45,
 op1 87 (.nilCheck (.tmp 86)) 0,
 qF 88 73 87 7 0,
 mk none (.store 4 (.tmp 88) (.const (.bool true))) 0 none] fr st (.seq c36_52 k):=evK_rs 16 rfl (by kernel_rfl)
def c36_42:Code:=.seq c36_43 c36_50
theorem e36_42:evK gS fi36 c36_42 fr st k=evK gS fi36 c36_43 fr st (.seq c36_50 k):=rfl
def c36_32:Code:=.seq c36_33 c36_42
theorem e36_32:evK gS fi36 c36_32 fr st k=evK gS fi36 c36_33 fr st (.seq c36_42 k):=rfl
def c36_24:Code:=.seq c36_25 c36_32
theorem e36_24:evK gS fi36 c36_24 fr st k=evK gS fi36 c36_25 fr st (.seq c36_32 k):=rfl
def c36_16:Code:=.seq c36_17 c36_24
theorem e36_16:evK gS fi36 c36_16 fr st k=evK gS fi36 c36_17 fr st (.seq c36_24 k):=rfl
def c36_8:Code:=.seq c36_9 c36_16
theorem e36_8:evK gS fi36 c36_8 fr st k=evK gS fi36 c36_9 fr st (.seq c36_16 k):=rfl
def c36_6:Code:=.seq (codeN b36 23) c36_8
theorem e36_6:evK gS fi36 c36_6 fr st k=opsR gS fi36 [mv 15 6 78,
 cal 16 42 [(.tmp 15)] [78] 3,
 asn 8 16 3] fr st (.seq c36_8 k):=evK_rs 3 rfl (by kernel_rfl)
def c36_4:Code:=.seq (codeN b36 11) c36_6
theorem e36_4:evK gS fi36 c36_4 fr st k=opsR gS fi36 [mv 13 6 78,
 cal 14 42 [(.tmp 13)] [78] 3,
 asn 7 14 3] fr st (.seq c36_6 k):=evK_rs 2 rfl (by kernel_rfl)
def c36_2:Code:=.seq (codeN b36 5) c36_4
theorem e36_2:evK gS fi36 c36_2 fr st k=opsR gS fi36 [mv 10 1 27,
 op1 11 (.build 80 #[(0,(.tmp 10))]) 80,
 op1 12 (.box 80 (.tmp 11)) 78,
 asn 6 12 78] fr st (.seq c36_4 k):=evK_rs 1 rfl (by kernel_rfl)
def c36_0:Code:=.seq (codeN b36 2) c36_2
theorem e36_0:evK gS fi36 c36_0 fr st k=opsR gS fi36 [qN 4 28,
 qI 5 0 23] fr st (.seq c36_2 k):=evK_rs 0 rfl (by kernel_rfl)
theorem m36:mini fi36.body=c36_0:=by kernel_rfl
def R44 (σ:List V→List V→St)(w z kk:Nat)(b s t:Nat)(a o:Bool)(g:Nat)(fs:List (List UInt8))(nn:Nat)(B:List UInt8)(p:Nat):Out × St :=
 if nn=0 then (.ret (.tuple [.slice [],.int .i64 0]) none,apps (σ (refC w z (.osl kk (encFs fs)) b s t a o g) []) [[V.slice (byteVs B),V.int .i64 (p:Int),V.int .i64 0]])
 else if nn=g+1 then (.ret (.tuple [.slice [.slice (byteVs (B.drop p))],.int .i64 0]) none,apps (σ (refC w z (.osl kk (encFs fs)) b s t a true nn) []) [[V.slice (byteVs B),V.int .i64 (p:Int),V.int .i64 0]])
 else (.ret (.tuple [.slice [],.int .i64 0]) none,apps (σ (refC w z (.osl kk (encFs fs)) b s t a true g) []) [[V.slice (byteVs B),V.int .i64 (p:Int),V.int .i64 0]])
theorem T42 (e w z kk b g:Nat)(fs:List (List UInt8))(t:Nat)(a o:Bool)(hb:b≤900000)(hg:g≤700000)(hfl:fs.length≤100000)(hkk:(kk=0∧fs=[])∨kk=1)(σ:List V→List V→St)(hσ:Hp σ e 0 False)(s:Nat)(hs:s≤fs.length)(B:List UInt8)(hB:B.length≤1000000)(N nn ack p:Nat)(hp:p≤B.length)(hro:∀ C,St.obj (apps (σ C []) [[V.slice (byteVs B),V.int .i64 (p:Int),V.int .i64 0]]) N=some [.slice (byteVs B),.int .i64 (p:Int),.int .i64 0]) (e9:E) (h9:e9.Tame) (T:List (Nat × E)) :
  evK gS fi36 c36_42 {ps:=[(0,.val (.ptr e 0)),(1,.val (.slice (byteVs B))),(4,.own 0 []),(5,.val (.int .i64 0)),(6,.val (.ptr N 0)),(7,.val (.int .i64 (nn:Nat))),(8,.val (.int .i64 (ack:Nat))),(9,e9)],ts:=T,lc:=[]} (apps (σ (refC w z (.osl kk (encFs fs)) b s t a o g) []) [[V.slice (byteVs B),V.int .i64 (p:Int),V.int .i64 0]]) .nil=some (R44 σ w z kk b s t a o g fs nn B p):=by
 have we:=fun C=>apps_obj (hσ.oe C []) [[V.slice (byteVs B),V.int .i64 (p:Int),V.int .i64 0]]
 have ws:=fun C C'=>apps_set (hσ.oe C []) (hσ.se C [] C') [[V.slice (byteVs B),V.int .i64 (p:Int),V.int .i64 0]]
 unfold R44
 have hw  := qws g (by omega)
 unfold refC
 generalize [[V.slice (byteVs B),V.int .i64 (p:Int),V.int .i64 0]]=L at *
 by_cases hn0:nn=0
 ·subst hn0
  simp (config:={implicitDefEqProofs:=false}) [-zia,-St.obj,-St.set,h9,we,ws,-zil,-zit,-znl,-znt,ty3,ty4,ty23,ty27,ty28,ty45,ty73,ty78,ty80,H36,x43,fi43_eq,p43,e36_13,q36_13,e36_12,e36_11,e36_9,e36_20,e36_19,e36_17,e36_26,q36_26,e36_28,e36_27,e36_25,e36_39,q36_39,e36_40,e36_38,e36_36,e36_35,e36_33,e36_46,e36_45,e36_43,e36_56,e36_55,e36_53,e36_62,e36_60,e36_52,e36_50,e36_42,e36_32,e36_24,e36_16,e36_8,e36_6,e36_4,e36_2,e36_0]
 ·have hni:¬ (nn:Int)=0:=by omega
  rw [if_neg hn0]
  by_cases hng:nn=g+1
  ·rw [if_pos hng]
   rw [← hng] at hw
   have hs1:=sizes_bytes B
   have hs2:=sizes_bytes (B.drop p)
   have hd:=drop_bytes B p
   have b1:B.length - p≤140737488355328:=by omega
   have hpi:(p:Int)≤(B.length:Int):=by omega
   have hbl:(B.drop p).length=B.length - p:=List.length_drop
   have htk:List.take B.length (byteVs B)=byteVs B:=by rw [← byteVs_length B,List.take_length]
   generalize B.drop p=Q at *
   simp (config:={implicitDefEqProofs:=false}) [-zia,-St.obj,-St.set,-List.take_length,h9,we,ws,hro,hn0,hni,hw,hs1,hs2,hd,hp,hpi,b1,hbl,htk,-zil,-zit,-znl,-znt,ty3,ty4,ty23,ty27,ty28,ty45,ty73,ty78,ty80,H36,x43,fi43_eq,p43,e36_13,q36_13,e36_12,e36_11,e36_9,e36_20,e36_19,e36_17,e36_26,q36_26,e36_28,e36_27,e36_25,e36_39,q36_39,e36_40,e36_38,e36_36,e36_35,e36_33,e36_46,e36_45,e36_43,e36_56,e36_55,e36_53,e36_62,e36_60,e36_52,e36_50,e36_42,e36_32,e36_24,e36_16,e36_8,e36_6,e36_4,e36_2,e36_0]
  ·have hgi:¬ (nn:Int)=((g+1:Nat):Int):=by omega
   rw [if_neg hng]
   simp (config:={implicitDefEqProofs:=false}) [-zia,-St.obj,-St.set,h9,we,ws,hn0,hni,hw,hng,hgi,-zil,-zit,-znl,-znt,ty3,ty4,ty23,ty27,ty28,ty45,ty73,ty78,ty80,H36,x43,fi43_eq,p43,e36_13,q36_13,e36_12,e36_11,e36_9,e36_20,e36_19,e36_17,e36_26,q36_26,e36_28,e36_27,e36_25,e36_39,q36_39,e36_40,e36_38,e36_36,e36_35,e36_33,e36_46,e36_45,e36_43,e36_56,e36_55,e36_53,e36_62,e36_60,e36_52,e36_50,e36_42,e36_32,e36_24,e36_16,e36_8,e36_6,e36_4,e36_2,e36_0]
theorem T32 (e w z kk b g:Nat)(fs:List (List UInt8))(t:Nat)(a o:Bool)(hb:b≤700000)(hg:g≤700000)(hfl:fs.length≤100000)(hkk:(kk=0∧fs=[])∨kk=1)(σ:List V→List V→St)(hσ:Hp σ e 0 False)(s:Nat)(hs:s≤fs.length)(B:List UInt8)(hB:B.length≤1000000)(N nn ack p:Nat)(hp:p≤B.length)(hack:ack≤b+s)(hro:∀ C,St.obj (apps (σ C []) [[V.slice (byteVs B),V.int .i64 (p:Int),V.int .i64 0]]) N=some [.slice (byteVs B),.int .i64 (p:Int),.int .i64 0]) (e9:E) (h9:e9.Tame) (T:List (Nat × E)) :
  evK gS fi36 c36_32 {ps:=[(0,.val (.ptr e 0)),(1,.val (.slice (byteVs B))),(4,.own 0 []),(5,.val (.int .i64 0)),(6,.val (.ptr N 0)),(7,.val (.int .i64 (nn:Nat))),(8,.val (.int .i64 (ack:Nat))),(9,e9)],ts:=T,lc:=[]} (apps (σ (refC w z (.osl kk (encFs fs)) b s t a o g) []) [[V.slice (byteVs B),V.int .i64 (p:Int),V.int .i64 0]]) .nil =
   some (R44 σ w z kk (rack ack b s t a fs).1 (rack ack b s t a fs).2.1 (rack ack b s t a fs).2.2.1 (rack ack b s t a fs).2.2.2.1 o g (rack ack b s t a fs).2.2.2.2 nn B p):=by
 have hm:fi36.marks=[64]:=rfl
 have hl:fi36.locals=[]:=rfl
 have hr:fi36.results=[.tmp 4,.tmp 5]:=rfl
 have we:=fun C=>apps_obj (hσ.oe C []) [[V.slice (byteVs B),V.int .i64 (p:Int),V.int .i64 0]]
 have ws:=fun C C'=>apps_set (hσ.oe C []) (hσ.se C [] C') [[V.slice (byteVs B),V.int .i64 (p:Int),V.int .i64 0]]
 by_cases hba:b<ack
 ·have hr:rack ack b s t a fs=(ack,s - (ack - b),0,false,fs.drop (ack - b)):=by unfold rack;rw [if_pos hba]
  rw [hr]
  simp only
  have hkk1:kk=1:=by
   rcases hkk with ⟨_,h⟩ | h
   ·rw [h] at hs;simp at hs;omega
   ·exact h
  subst hkk1
  obtain ⟨k,hk⟩:∃ k,k=ack - b:=⟨_,rfl⟩
  rw [← hk]
  have hbai:(b:Int)<(ack:Int):=by omega
  have hw1:IntKind.wrap .i64 ((ack:Int) - (b:Int))=(k:Int):=by rw [wrap64 (by omega) (by omega)];omega
  have hw2:IntKind.wrap .i64 ((s:Int) - (k:Int))=((s - k:Nat):Int):=by rw [wrap64 (by omega) (by omega)];omega
  have hki:(k:Int)≤(fs.length:Int):=by omega
  have hkl:k≤fs.length:=by omega
  have hsz:=sizes_fs fs
  have hdf:=drop_fs fs k
  have TT:=fun e9 h9 T=>T42 e w z 1 ack g (fs.drop k) 0 false o (by omega) hg (by rw [List.length_drop];omega) (.inr rfl) σ hσ (s - k) (by rw [List.length_drop];omega) B hB N nn ack p hp hro e9 h9 T
  unfold refC at TT ⊢
  generalize [[V.slice (byteVs B),V.int .i64 (p:Int),V.int .i64 0]]=L at *
  generalize R44 σ w z 1 ack (s - k) 0 false o g (fs.drop k) nn B p=RR at *
  generalize s - k=sk at *
  generalize encFs (fs.drop k)=EE at *
  simp (config:={implicitDefEqProofs:=false}) [-zia,-St.obj,-St.set,h9,we,ws,hba,hbai,hw1,hw2,hki,hkl,hsz,hdf,markStep,markTail,-zil,-zit,-znl,-znt,ty3,ty4,ty23,ty27,ty28,ty45,ty73,ty78,ty80,hm,hl,hr,x43,fi43_eq,p43,e36_13,q36_13,e36_12,e36_11,e36_9,e36_20,e36_19,e36_17,e36_26,q36_26,e36_28,e36_27,e36_25,e36_39,q36_39,e36_40,e36_38,e36_36,e36_35,e36_33,e36_46,e36_45,e36_43,e36_56,e36_55,e36_53,e36_62,e36_60,e36_52,e36_50,e36_32,e36_24,e36_16,e36_8,e36_6,e36_4,e36_2,e36_0]
  exact TT _ (tame_val _) _
 ·have hr:rack ack b s t a fs=(b,s,t,a,fs):=by unfold rack;rw [if_neg hba]
  rw [hr]
  have hbai:¬ (b:Int)<(ack:Int):=by omega
  have TT:=fun e9 h9 T=>T42 e w z kk b g fs t a o (by omega) hg hfl hkk σ hσ s hs B hB N nn ack p hp hro e9 h9 T
  simp only
  unfold refC at TT ⊢
  generalize [[V.slice (byteVs B),V.int .i64 (p:Int),V.int .i64 0]]=L at *
  generalize R44 σ w z kk b s t a o g fs nn B p=RR at *
  simp (config:={implicitDefEqProofs:=false}) [-zia,-St.obj,-St.set,h9,we,ws,hba,hbai,-zil,-zit,-znl,-znt,ty3,ty4,ty23,ty27,ty28,ty45,ty73,ty78,ty80,hm,hl,hr,x43,fi43_eq,p43,e36_13,q36_13,e36_12,e36_11,e36_9,e36_20,e36_19,e36_17,e36_26,q36_26,e36_28,e36_27,e36_25,e36_39,q36_39,e36_40,e36_38,e36_36,e36_35,e36_33,e36_46,e36_45,e36_43,e36_56,e36_55,e36_53,e36_62,e36_60,e36_52,e36_50,e36_32,e36_24,e36_16,e36_8,e36_6,e36_4,e36_2,e36_0]
  exact TT _ h9 _
theorem c36 (e w z kk b g:Nat)(fs:List (List UInt8))(t:Nat)(a o:Bool)(hb:b≤700000)(hg:g≤700000)(hfl:fs.length≤100000)(hkk:(kk=0∧fs=[])∨kk=1)(σ:List V→List V→St)(hσ:Hp σ e 0 False)(s:Nat)(hs:s≤fs.length)(B:List UInt8)(hB:B.length≤1000000):∃ σ',Hp σ' e 0 False∧Bys σ σ' e 0 0 False∧EvF gS 36 [.ptr e 0,.slice (byteVs B)] (σ (refC w z (.osl kk (encFs fs)) b s t a o g) []) =
  some (.ret (.tuple [.slice (encFs (rtake b s t a o g fs B).out),.int .i64 (rtake b s t a o g fs B).er]) none,σ' (refC w z (.osl kk (encFs (rtake b s t a o g fs B).fs)) (rtake b s t a o g fs B).b (rtake b s t a o g fs B).s (rtake b s t a o g fs B).t (rtake b s t a o g fs B).a (rtake b s t a o g fs B).o (rtake b s t a o g fs B).g) []):=by
 obtain ⟨N,hN⟩:∃ N,N=(σ (refC w z (.osl kk (encFs fs)) b s t a o g) []).objs.length:=⟨_,rfl⟩
 have hNC:=fun C=>(hσ.len C [] (refC w z (.osl kk (encFs fs)) b s t a o g) []).trans hN.symm
 have we:=fun C (p:Nat) (bad:Int)=>apps_obj (hσ.oe C []) [[V.slice (byteVs B),V.int .i64 (p:Int),V.int .i64 bad]]
 have ws:=fun C C' (p:Nat) (bad:Int)=>apps_set (hσ.oe C []) (hσ.se C [] C') [[V.slice (byteVs B),V.int .i64 (p:Int),V.int .i64 bad]]
 have ro:∀ C (p:Nat) (bad:Int),St.obj (apps (σ C []) [[V.slice (byteVs B),V.int .i64 (p:Int),V.int .i64 bad]]) N=some [.slice (byteVs B),.int .i64 (p:Int),.int .i64 bad]:=fun C p bad=>by rw [← hNC C];exact apps_get _ _ 0
 have rs:∀ C (p:Nat) (bad:Int) (p':Nat) (bad':Int),St.set (apps (σ C []) [[V.slice (byteVs B),V.int .i64 (p:Int),V.int .i64 bad]]) N [.slice (byteVs B),.int .i64 (p':Int),.int .i64 bad']=some (apps (σ C []) [[.slice (byteVs B),.int .i64 (p':Int),.int .i64 bad']]):=fun C p bad p' bad'=>by rw [← hNC C];exact apps_put (hσ.lw C []) _ 0 _
 have k1:=fun fr=>k42 N 0 B hB (Nat.zero_le _) (fun p bad=>apps (σ (refC w z (.osl kk (encFs fs)) b s t a o g) []) [[V.slice (byteVs B),V.int .i64 (p:Int),V.int .i64 bad]]) (fun p bad=>ro _ p bad) (fun p bad p' bad'=>rs _ p bad p' bad') fr
 rw [show ((0:Nat):Int)=0 from rfl] at k1
 have hσ7:=fun (p:Nat) (bad:Int)=>hσ.apps [[V.slice (byteVs B),V.int .i64 (p:Int),V.int .i64 bad]]
 have hb7:=fun (p:Nat) (bad:Int)=>Bys.apps hσ [[V.slice (byteVs B),V.int .i64 (p:Int),V.int .i64 bad]]
 cases hd:rd B with
 | error er =>
  have her:=rdG_err 9 0 0 B er hd
  have he0:¬ er=0:=by omega
  have ht:rtake b s t a o g fs B=⟨[],er,b,s,t,a,o,g,fs⟩:=by unfold rtake pr2;rw [hd]
  rw [ht]
  refine ⟨_,hσ7 0 er,hb7 0 er,?_⟩
  refine EvF_start fi36_eq (fun x h=>by cases h <;> decide) m36 ?_
  rw [st36]
  have hm:fi36.marks=[64]:=rfl
  have hl:fi36.locals=[]:=rfl
  have hr:fi36.results=[.tmp 4,.tmp 5]:=rfl
  unfold k42R at k1
  rw [List.drop_zero,hd] at k1
  simp only at k1
  have k2:=fun fr=>k42b N 0 B er he0 (apps (σ (refC w z (.osl kk (encFs fs)) b s t a o g) []) [[.slice (byteVs B),.int .i64 ((0:Nat):Int),.int .i64 er]]) (ro _ 0 er) fr
  have ro2:=ro (refC w z (.osl kk (encFs fs)) b s t a o g) 0 er
  rw [show ((0:Nat):Int)=0 from rfl] at k1 k2 ro2 ⊢
  rw [show encFs []=([]:List V) from rfl]
  simp only
  rw [hN] at k1 k2 ro2
  generalize hS0:σ (refC w z (.osl kk (encFs fs)) b s t a o g) []=S0 at *
  simp (config:={implicitDefEqProofs:=false}) [-zia,-St.obj,-St.set,fold_apps,he0,k1,k2,ro2,-zil,-zit,-znl,-znt,ty3,ty4,ty23,ty27,ty28,ty45,ty73,ty78,ty80,hm,hl,hr,x43,fi43_eq,p43,e36_13,q36_13,e36_12,e36_11,e36_9,e36_20,e36_19,e36_17,e36_26,q36_26,e36_28,e36_27,e36_25,e36_39,q36_39,e36_40,e36_38,e36_36,e36_35,e36_33,e36_46,e36_45,e36_43,e36_56,e36_55,e36_53,e36_62,e36_60,e36_52,e36_50,e36_42,e36_32,e36_24,e36_16,e36_8,e36_6,e36_4,e36_2,e36_0]
 | ok y =>
  obtain ⟨nn,k⟩:=y
  obtain ⟨_,_,hk⟩:=rd_bound hd
  unfold k42R at k1
  rw [List.drop_zero,hd] at k1
  simp only at k1
  have k2:=fun fr=>k42 N (0+k) B hB (by omega) (fun p bad=>apps (σ (refC w z (.osl kk (encFs fs)) b s t a o g) []) [[V.slice (byteVs B),V.int .i64 (p:Int),V.int .i64 bad]]) (fun p bad=>ro _ p bad) (fun p bad p' bad'=>rs _ p bad p' bad') fr
  unfold k42R at k2
  rw [Nat.zero_add] at k1 k2
  cases hd2:rd (B.drop k) with
  | error er =>
   have her:=rdG_err 9 0 0 _ er hd2
   have he0:¬ er=0:=by omega
   have ht:rtake b s t a o g fs B=⟨[],er,b,s,t,a,o,g,fs⟩:=by unfold rtake pr2;rw [hd];simp only;rw [hd2]
   rw [ht]
   refine ⟨_,hσ7 k er,hb7 k er,?_⟩
   refine EvF_start fi36_eq (fun x h=>by cases h <;> decide) m36 ?_
   rw [st36]
   have hm:fi36.marks=[64]:=rfl
   have hl:fi36.locals=[]:=rfl
   have hr:fi36.results=[.tmp 4,.tmp 5]:=rfl
   rw [hd2] at k2
   simp only at k2
   have ro2:=ro (refC w z (.osl kk (encFs fs)) b s t a o g) k er
   rw [show encFs []=([]:List V) from rfl]
   simp only
   rw [hN] at k1 k2 ro2
   generalize hS0:σ (refC w z (.osl kk (encFs fs)) b s t a o g) []=S0 at *
   simp (config:={implicitDefEqProofs:=false}) [-zia,-St.obj,-St.set,fold_apps,he0,k1,k2,ro2,-zil,-zit,-znl,-znt,ty3,ty4,ty23,ty27,ty28,ty45,ty73,ty78,ty80,hm,hl,hr,x43,fi43_eq,p43,e36_13,q36_13,e36_12,e36_11,e36_9,e36_20,e36_19,e36_17,e36_26,q36_26,e36_28,e36_27,e36_25,e36_39,q36_39,e36_40,e36_38,e36_36,e36_35,e36_33,e36_46,e36_45,e36_43,e36_56,e36_55,e36_53,e36_62,e36_60,e36_52,e36_50,e36_42,e36_32,e36_24,e36_16,e36_8,e36_6,e36_4,e36_2,e36_0]
  | ok y =>
   obtain ⟨ack,k5⟩:=y
   obtain ⟨_,_,hk5⟩:=rd_bound hd2
   rw [List.length_drop] at hk5
   rw [hd2] at k2
   simp only at k2
   have hpr:pr2 B=if nn=0∧k+k5<B.length then .error 3 else .ok (nn,ack,B.drop (k+k5)):=by unfold pr2;rw [hd];simp only;rw [hd2]
   obtain ⟨p,hp⟩:∃ p,p=k+k5:=⟨_,rfl⟩
   rw [← hp] at k2 hpr
   have ro2:=ro (refC w z (.osl kk (encFs fs)) b s t a o g) p 0
   have we2:=we (refC w z (.osl kk (encFs fs)) b s t a o g) p 0
   have k6:=fun fr=>k43 N p B 0 hB (by omega) fr _ ro2
   have hlt:((0:Int)<((B.length - p:Nat):Int))=(p<B.length):=by apply propext;omega
   have hlt':(0<B.length - p)=(p<B.length):=by apply propext;omega
   have hws:IntKind.wrap .i64 ((b:Int)+(s:Int))=((b+s:Nat):Int):=by rw [wrap64 (by omega) (by omega)];omega
   by_cases hbad:nn=0∧p<B.length
   ·have ht:rtake b s t a o g fs B=⟨[],3,b,s,t,a,o,g,fs⟩:=by unfold rtake;rw [hpr,if_pos hbad]
    rw [ht]
    obtain ⟨rfl,hpl⟩:=hbad
    refine ⟨_,hσ7 p 0,hb7 p 0,?_⟩
    refine EvF_start fi36_eq (fun x h=>by cases h <;> decide) m36 ?_
    rw [st36]
    have hm:fi36.marks=[64]:=rfl
    have hl:fi36.locals=[]:=rfl
    have hr:fi36.results=[.tmp 4,.tmp 5]:=rfl
    rw [show encFs []=([]:List V) from rfl]
    simp only
    have h1:(0:Int)<((B.length - p:Nat):Int):=by rw [hlt];exact hpl
    have h2:0<B.length - p:=by rw [hlt'];exact hpl
    rw [show ((0:Nat):Int)=0 from rfl] at k1
    rw [hN] at k1 k2 ro2 k6
    generalize hS0:σ (refC w z (.osl kk (encFs fs)) b s t a o g) []=S0 at *
    generalize B.length - p=bl at *
    simp (config:={implicitDefEqProofs:=false}) [-zia,-St.obj,-St.set,fold_apps,k1,k2,ro2,k6,h1,h2,-zil,-zit,-znl,-znt,ty3,ty4,ty23,ty27,ty28,ty45,ty73,ty78,ty80,hm,hl,hr,x43,fi43_eq,p43,e36_13,q36_13,e36_12,e36_11,e36_9,e36_20,e36_19,e36_17,e36_26,q36_26,e36_28,e36_27,e36_25,e36_39,q36_39,e36_40,e36_38,e36_36,e36_35,e36_33,e36_46,e36_45,e36_43,e36_56,e36_55,e36_53,e36_62,e36_60,e36_52,e36_50,e36_42,e36_32,e36_24,e36_16,e36_8,e36_6,e36_4,e36_2,e36_0]
   ·rw [if_neg hbad] at hpr
    have hpn:nn=0→¬ p<B.length:=fun h h'=>hbad ⟨h,h'⟩
    by_cases has:b+s<ack
    ·have ht:rtake b s t a o g fs B=⟨[],1,b,s,t,a,o,g,fs⟩:=by unfold rtake;rw [hpr];simp only;rw [if_pos has]
     rw [ht]
     have hasi:((b+s:Nat):Int)<(ack:Int):=by omega
     refine ⟨_,hσ7 p 0,hb7 p 0,?_⟩
     refine EvF_start fi36_eq (fun x h=>by cases h <;> decide) m36 ?_
     rw [st36]
     have hm:fi36.marks=[64]:=rfl
     have hl:fi36.locals=[]:=rfl
     have hr:fi36.results=[.tmp 4,.tmp 5]:=rfl
     rw [show encFs []=([]:List V) from rfl]
     simp only
     rw [hN] at k1 k2 ro2 k6
     unfold refC at we2
     by_cases hn0:nn=0
     ·subst hn0
      have hpl:=hpn rfl
      have h1:¬ (0:Int)<((B.length - p:Nat):Int):=by rw [hlt];exact hpl
      have h2:¬ 0<B.length - p:=by rw [hlt'];exact hpl
      rw [show ((0:Nat):Int)=0 from rfl] at k1
      unfold refC at k1 k2 ro2 k6 ⊢
      generalize hS0:σ _ []=S0 at *
      generalize B.length - p=bl at *
      simp (config:={implicitDefEqProofs:=false}) [-zia,-St.obj,-St.set,fold_apps,k1,k2,ro2,k6,we2,h1,h2,hws,has,hasi,-zil,-zit,-znl,-znt,ty3,ty4,ty23,ty27,ty28,ty45,ty73,ty78,ty80,hm,hl,hr,x43,fi43_eq,p43,e36_13,q36_13,e36_12,e36_11,e36_9,e36_20,e36_19,e36_17,e36_26,q36_26,e36_28,e36_27,e36_25,e36_39,q36_39,e36_40,e36_38,e36_36,e36_35,e36_33,e36_46,e36_45,e36_43,e36_56,e36_55,e36_53,e36_62,e36_60,e36_52,e36_50,e36_42,e36_32,e36_24,e36_16,e36_8,e36_6,e36_4,e36_2,e36_0]
     ·have hni:¬ (nn:Int)=0:=by omega
      unfold refC at k1 k2 ro2 k6 ⊢
      generalize hS0:σ _ []=S0 at *
      simp (config:={implicitDefEqProofs:=false}) [-zia,-St.obj,-St.set,fold_apps,k1,k2,ro2,we2,hn0,hni,hws,has,hasi,-zil,-zit,-znl,-znt,ty3,ty4,ty23,ty27,ty28,ty45,ty73,ty78,ty80,hm,hl,hr,x43,fi43_eq,p43,e36_13,q36_13,e36_12,e36_11,e36_9,e36_20,e36_19,e36_17,e36_26,q36_26,e36_28,e36_27,e36_25,e36_39,q36_39,e36_40,e36_38,e36_36,e36_35,e36_33,e36_46,e36_45,e36_43,e36_56,e36_55,e36_53,e36_62,e36_60,e36_52,e36_50,e36_42,e36_32,e36_24,e36_16,e36_8,e36_6,e36_4,e36_2,e36_0]
    ·have ht:rtake b s t a o g fs B=if nn=0 then ⟨[],0,(rack ack b s t a fs).1,(rack ack b s t a fs).2.1,(rack ack b s t a fs).2.2.1,(rack ack b s t a fs).2.2.2.1,o,g,(rack ack b s t a fs).2.2.2.2⟩
      else if nn=g+1 then ⟨[B.drop p],0,(rack ack b s t a fs).1,(rack ack b s t a fs).2.1,(rack ack b s t a fs).2.2.1,(rack ack b s t a fs).2.2.2.1,true,nn,(rack ack b s t a fs).2.2.2.2⟩
      else ⟨[],0,(rack ack b s t a fs).1,(rack ack b s t a fs).2.1,(rack ack b s t a fs).2.2.1,(rack ack b s t a fs).2.2.2.1,true,g,(rack ack b s t a fs).2.2.2.2⟩:=by unfold rtake;rw [hpr];simp only;rw [if_neg has]
     have hasi:¬ ((b+s:Nat):Int)<(ack:Int):=by omega
     have TT:=fun e9 h9 T=>T32 e w z kk b g fs t a o hb hg hfl hkk σ hσ s hs B hB N nn ack p (by omega) (by omega) (fun C=>ro C p 0) e9 h9 T
     have hout:R44 σ w z kk (rack ack b s t a fs).1 (rack ack b s t a fs).2.1 (rack ack b s t a fs).2.2.1 (rack ack b s t a fs).2.2.2.1 o g (rack ack b s t a fs).2.2.2.2 nn B p =
      (.ret (.tuple [.slice (encFs (rtake b s t a o g fs B).out),.int .i64 (rtake b s t a o g fs B).er]) none,(fun C D=>apps (σ C D) [[V.slice (byteVs B),V.int .i64 (p:Int),V.int .i64 0]]) (refC w z (.osl kk (encFs (rtake b s t a o g fs B).fs)) (rtake b s t a o g fs B).b (rtake b s t a o g fs B).s (rtake b s t a o g fs B).t (rtake b s t a o g fs B).a (rtake b s t a o g fs B).o (rtake b s t a o g fs B).g) []):=by
      rw [ht]
      unfold R44
      by_cases hn0:nn=0
      ·rw [if_pos hn0,if_pos hn0];rfl
      ·rw [if_neg hn0,if_neg hn0]
       by_cases hng:nn=g+1
       ·rw [if_pos hng,if_pos hng];rfl
       ·rw [if_neg hng,if_neg hng];rfl
     refine ⟨fun C D=>apps (σ C D) [[V.slice (byteVs B),V.int .i64 (p:Int),V.int .i64 0]],hσ7 p 0,hb7 p 0,?_⟩
     rw [← hout]
     refine EvF_start fi36_eq (fun x h=>by cases h <;> decide) m36 ?_
     rw [st36]
     have hm:fi36.marks=[64]:=rfl
     have hl:fi36.locals=[]:=rfl
     have hr:fi36.results=[.tmp 4,.tmp 5]:=rfl
     rw [hN] at k1 k2 ro2 k6 TT
     generalize R44 σ w z kk (rack ack b s t a fs).1 (rack ack b s t a fs).2.1 (rack ack b s t a fs).2.2.1 (rack ack b s t a fs).2.2.2.1 o g (rack ack b s t a fs).2.2.2.2 nn B p=RR at *
     by_cases hn0:nn=0
     ·subst hn0
      have hpl:=hpn rfl
      have h1:¬ (0:Int)<((B.length - p:Nat):Int):=by rw [hlt];exact hpl
      have h2:¬ 0<B.length - p:=by rw [hlt'];exact hpl
      rw [show ((0:Nat):Int)=0 from rfl] at k1 TT
      unfold refC at k1 k2 ro2 we2 k6 TT ⊢
      generalize hS0:σ _ []=S0 at *
      generalize B.length - p=bl at *
      simp (config:={implicitDefEqProofs:=false}) [-zia,-St.obj,-St.set,fold_apps,k1,k2,ro2,k6,we2,h1,h2,hws,has,hasi,-zil,-zit,-znl,-znt,ty3,ty4,ty23,ty27,ty28,ty45,ty73,ty78,ty80,hm,hl,hr,x43,fi43_eq,p43,e36_13,q36_13,e36_12,e36_11,e36_9,e36_20,e36_19,e36_17,e36_26,q36_26,e36_28,e36_27,e36_25,e36_39,q36_39,e36_40,e36_38,e36_36,e36_35,e36_33,e36_46,e36_45,e36_43,e36_56,e36_55,e36_53,e36_62,e36_60,e36_52,e36_50,e36_42,e36_24,e36_16,e36_8,e36_6,e36_4,e36_2,e36_0]
      exact TT _ tame_any _
     ·have hni:¬ (nn:Int)=0:=by omega
      unfold refC at k1 k2 ro2 we2 k6 TT ⊢
      generalize hS0:σ _ []=S0 at *
      simp (config:={implicitDefEqProofs:=false}) [-zia,-St.obj,-St.set,fold_apps,k1,k2,ro2,we2,hn0,hni,hws,has,hasi,-zil,-zit,-znl,-znt,ty3,ty4,ty23,ty27,ty28,ty45,ty73,ty78,ty80,hm,hl,hr,x43,fi43_eq,p43,e36_13,q36_13,e36_12,e36_11,e36_9,e36_20,e36_19,e36_17,e36_26,q36_26,e36_28,e36_27,e36_25,e36_39,q36_39,e36_40,e36_38,e36_36,e36_35,e36_33,e36_46,e36_45,e36_43,e36_56,e36_55,e36_53,e36_62,e36_60,e36_52,e36_50,e36_42,e36_24,e36_16,e36_8,e36_6,e36_4,e36_2,e36_0]
      exact TT _ tame_any _
end
end Go.Proofs.Ytebjpgoadapabaa
namespace Go.Ab
open Go
def mkO:Nat→List (List UInt8)→Nat→Bool→List Row
 | _,[],_,_=>[]
 | i,f :: r,s,a=>⟨f,decide (i<s),decide (i<s) && a⟩ :: mkO (i+1) r s a
def mkR (fs:List (List UInt8))(s:Nat)(a:Bool):List Row:=mkO 0 fs s a
theorem mkO_get:∀ (fs:List (List UInt8))(i s:Nat)(a:Bool)(j:Nat),(mkO i fs s a)[j]?=(fs[j]?).map fun f=>⟨f,decide (i+j<s),decide (i+j<s) && a⟩
 | [],i,s,a,j=>by simp [mkO]
 | f :: r,i,s,a,0=>by simp [mkO]
 | f :: r,i,s,a,j+1=>by
  rw [mkO,List.getElem?_cons_succ,List.getElem?_cons_succ,mkO_get r (i+1) s a j,show i+1+j=i+(j+1) from by omega]
theorem mkR_get (fs:List (List UInt8))(s:Nat)(a:Bool)(j:Nat):(mkR fs s a)[j]?=(fs[j]?).map fun f=>⟨f,decide (j<s),decide (j<s) && a⟩:=by
 unfold mkR;rw [mkO_get];simp only [Nat.zero_add]
theorem mkO_len:∀ (fs:List (List UInt8))(i s:Nat)(a:Bool),(mkO i fs s a).length=fs.length
 | [],_,_,_=>rfl
 | f :: r,i,s,a=>by rw [mkO,List.length_cons,List.length_cons,mkO_len r]
theorem mkR_len (fs:List (List UInt8))(s:Nat)(a:Bool):(mkR fs s a).length=fs.length:=mkO_len fs 0 s a
theorem mkR_ne {fs:List (List UInt8)} {s:Nat} {a:Bool}:mkR fs s a=[]↔fs=[]:=by rw [← List.length_eq_zero_iff,mkR_len,List.length_eq_zero_iff]
theorem mkR_sm {fs:List (List UInt8)} (h:∀ f∈fs,f.length≤1000000)(s:Nat)(a:Bool):Sm (mkR fs s a):=by
 intro x hx
 obtain ⟨j,hj⟩:=List.getElem?_of_mem hx
 rw [mkR_get] at hj
 obtain ⟨f,hf,rfl⟩:=Option.map_eq_some_iff.1 hj
 exact h f (zmg hf)
theorem rows_ext {l m:List Row} (h:∀ j:Nat,l[j]?=m[j]?):l=m:=List.ext_getElem? h
theorem out1_mk (b g s:Nat)(a:Bool)(FS:List (List UInt8)):∀ (fs:List (List UInt8)) (i:Nat) (acc:List (List UInt8)),fs=FS.drop i→out1 (b+1) g (mkO i fs s a) i acc=acc ++ (if a then rng b g FS i (min fs.length (s - i)) else [])
 | [],i,acc,_=>by
  rw [mkO,out1]
  simp [rng]
 | f :: r,i,acc,h=>by
  have hf:FS[i]?=some f:=by
   have:(FS.drop i)[0]?=some f:=by rw [← h];rfl
   rwa [List.getElem?_drop,Nat.add_zero] at this
  have hr:r=FS.drop (i+1):=by rw [drop_get hf] at h;exact (List.cons.inj h).2
  rw [mkO,out1,out1_mk b g s a FS r (i+1) _ hr]
  simp only
  cases a with
  | false=>simp
  | true =>
   simp only [Bool.and_true,Bool.and_self,if_true]
   by_cases hi:i<s
   ·rw [if_pos (by simpa using hi)]
    obtain ⟨m,hm⟩:∃ m,m=min r.length (s - (i+1)):=⟨_,rfl⟩
    have h2:min (f :: r).length (s - i)=m+1:=by rw [List.length_cons];omega
    rw [h2,← hm,rng,getD_of hf,show b+1+i=b+i+1 from by omega,zaa];rfl
   ·rw [if_neg (by simpa using hi)]
    have h1:min r.length (s - (i+1))=0:=by omega
    have h2:min (f :: r).length (s - i)=0:=by omega
    rw [h1,h2];rfl
theorem out2_mk (b g w s:Nat)(a:Bool)(FS:List (List UInt8)):∀ (fs:List (List UInt8)) (i:Nat) (acc:List (List UInt8)) (s1:Nat),fs=FS.drop i →
  out2 (b+1) g w (mkO i fs s a) i (acc,s1)=(acc ++ rng b g FS (max i s) (min w (i+fs.length) - max i s),if max i s<min w (i+fs.length) then b+min w (i+fs.length) else s1)
 | [],i,acc,s1,_=>by
  rw [mkO,out2,List.length_nil]
  have h1:min w (i+0) - max i s=0:=by omega
  rw [h1,rng,List.append_nil,if_neg (by omega)]
 | f :: r,i,acc,s1,h=>by
  have hf:FS[i]?=some f:=by
   have:(FS.drop i)[0]?=some f:=by rw [← h];rfl
   rwa [List.getElem?_drop,Nat.add_zero] at this
  have hr:r=FS.drop (i+1):=by rw [drop_get hf] at h;exact (List.cons.inj h).2
  have hM:min w (i+(f :: r).length)=min w (i+1+r.length):=by rw [List.length_cons];congr 1;omega
  rw [mkO,out2,hM]
  simp only
  by_cases hc:s≤i∧i<w
  ·rw [if_pos (by simp [hc.1,hc.2]),out2_mk b g w s a FS r (i+1) _ _ hr,Nat.max_eq_left (by omega:s≤i+1),Nat.max_eq_left hc.1]
   obtain ⟨M,hm⟩:∃ M,M=min w (i+1+r.length):=⟨_,rfl⟩
   rw [← hm]
   obtain ⟨m,hm2⟩:∃ m,m=M - (i+1):=⟨_,rfl⟩
   have h3:M - i=m+1:=by omega
   rw [h3,← hm2,rng,getD_of hf,show b+1+i=b+i+1 from by omega,zaa]
   refine Prod.ext rfl ?_
   show (if i+1<M then b+M else b+i+1)=if i<M then b+M else s1
   by_cases h4:i+1<M
   ·rw [if_pos h4,if_pos (by omega)]
   ·rw [if_neg h4,if_pos (by omega)];omega
  ·rw [if_neg (by simpa using fun h1=>(by omega:w≤i)),out2_mk b g w s a FS r (i+1) _ _ hr]
   by_cases hi:i<s
   ·rw [Nat.max_eq_right (by omega:i+1≤s),Nat.max_eq_right (by omega:i≤s)]
   ·have e1:min w (i+1+r.length) - max (i+1) s=0:=by omega
    have e2:min w (i+1+r.length) - max i s=0:=by omega
    rw [e1,e2,if_neg (by omega),if_neg (by omega)]
    rfl
theorem outs_mk (w b g s:Nat)(a o:Bool)(fs:List (List UInt8))(hs:s≤fs.length):outs w (b+1) g (b+s) o (mkR fs s a)=((routs w b g s a o fs).1,b+(routs w b g s a o fs).2):=by
 unfold outs routs mkR
 rw [out1_mk b g s a fs fs 0 [] rfl,List.nil_append,out2_mk b g w s a fs fs 0 _ _ rfl,Nat.zero_add,Nat.max_eq_right (Nat.zero_le s),Nat.sub_zero,Nat.min_eq_right hs,Nat.min_comm w]
 simp only
 refine Prod.ext rfl ?_
 show (if s<min fs.length w then b+min fs.length w else b+s)=_
 split <;> omega
theorem outR_mk (w s:Nat)(a:Bool)(fs:List (List UInt8))(hs:s≤fs.length):outR w (mkR fs s a)=mkR fs (s+(min fs.length w - s)) false:=by
 apply rows_ext
 intro j
 unfold outR
 rw [List.getElem?_mapIdx,List.getElem?_mapIdx,mkR_get,mkR_get]
 cases hj:fs[j]? with
 | none=>rfl
 | some f =>
  have hjl:=(List.getElem?_eq_some_iff.1 hj).1
  simp only [Option.map_some,Option.some.injEq,F3,F2,Bool.and_false]
  by_cases h:s≤j∧j<w
  ·rw [if_pos (by simp [h.1,h.2])]
   simp only [Row.mk.injEq,true_and,and_true]
   symm;simp;omega
  ·rw [if_neg (by simpa using fun h1=>(by omega:w≤j))]
   simp only [Row.mk.injEq,true_and,and_true]
   apply decide_eq_decide.2;omega
theorem tick_mk (z t s:Nat)(a:Bool)(fs:List (List UInt8))(hs:s≤fs.length):tickL z t (mkR fs s a)=(if s=0 then 0 else if t+1<z then t+1 else 0,mkR fs s (if s=0 then a else if t+1<z then a else true)):=by
 cases fs with
 | nil =>
  have:s=0:=by simpa using hs
  subst this
  rfl
 | cons f r =>
  have h0:mkR (f :: r) s a=⟨f,decide (0<s),decide (0<s) && a⟩ :: mkO 1 r s a:=rfl
  rw [h0]
  rw [show tickL z t (⟨f,decide (0<s),decide (0<s) && a⟩ :: mkO 1 r s a)=if decide (0<s)=true then (if t+1<z then (t+1,⟨f,decide (0<s),decide (0<s) && a⟩ :: mkO 1 r s a) else (0,(⟨f,decide (0<s),decide (0<s) && a⟩ :: mkO 1 r s a).mapIdx FT)) else (0,⟨f,decide (0<s),decide (0<s) && a⟩ :: mkO 1 r s a) from rfl]
  rw [← h0]
  by_cases h:0<s
  ·rw [if_pos (decide_eq_true h),if_neg (show ¬ s=0 by omega),if_neg (show ¬ s=0 by omega)]
   by_cases hz:t+1<z
   ·rw [if_pos hz,if_pos hz,if_pos hz]
   ·rw [if_neg hz,if_neg hz,if_neg hz]
    refine Prod.ext rfl (rows_ext fun j=>?_)
    show ((mkR (f :: r) s a).mapIdx FT)[j]?=(mkR (f :: r) s true)[j]?
    rw [List.getElem?_mapIdx,mkR_get,mkR_get]
    cases (f :: r)[j]? with
    | none=>rfl
    | some x=>simp [FT]
  ·rw [if_neg (by simpa using h),if_pos (show s=0 by omega),if_pos (show s=0 by omega)]
theorem put_mk (fs:List (List UInt8))(s:Nat)(a:Bool)(f:List UInt8)(hs:s≤fs.length):mkR fs s a ++ [⟨f,false,false⟩]=mkR (fs ++ [f]) s a:=by
 apply rows_ext
 intro j
 rw [mkR_get]
 rcases Nat.lt_or_ge j fs.length with h | h
 ·rw [List.getElem?_append_left (by rw [mkR_len];exact h),mkR_get,List.getElem?_append_left h]
 ·rw [List.getElem?_append_right (by rw [mkR_len];exact h),List.getElem?_append_right h,mkR_len]
  cases hj:j - fs.length with
  | zero=>simp;omega
  | succ n=>simp
theorem drop_mk (fs:List (List UInt8))(s k:Nat)(a:Bool):((mkR fs s a).drop k).mapIdx F3=mkR (fs.drop k) (s - k) false:=by
 apply rows_ext
 intro j
 rw [List.getElem?_mapIdx,List.getElem?_drop,mkR_get,mkR_get,List.getElem?_drop]
 cases fs[k+j]? with
 | none=>rfl
 | some f =>
  simp only [Option.map_some,F3,Bool.and_false,Option.some.injEq,Row.mk.injEq,true_and,and_true]
  apply decide_eq_decide.2;omega
theorem ack_mk (ack b s t:Nat)(a:Bool)(fs:List (List UInt8)):ackL ack (b+1) t (mkR fs s a)=((rack ack b s t a fs).1+1,(rack ack b s t a fs).2.2.1,mkR (rack ack b s t a fs).2.2.2.2 (rack ack b s t a fs).2.1 (rack ack b s t a fs).2.2.2.1):=by
 unfold ackL rack
 by_cases h:b<ack
 ·rw [if_pos (by omega),if_pos h,show ack+1 - (b+1)=ack - b from by omega,drop_mk]
 ·rw [if_neg (by omega),if_neg h]
theorem rack_sum (ack b s t:Nat)(a:Bool)(fs:List (List UInt8))(h:ack≤b+s):(rack ack b s t a fs).1+(rack ack b s t a fs).2.1=b+s:=by
 unfold rack
 split
 ·show ack+(s - (ack - b))=b+s;omega
 ·rfl
theorem rack_len (ack b s t:Nat)(a:Bool)(fs:List (List UInt8))(hs:s≤fs.length)(h:ack≤b+s):(rack ack b s t a fs).2.1≤(rack ack b s t a fs).2.2.2.2.length∧(rack ack b s t a fs).1+(rack ack b s t a fs).2.2.2.2.length=b+fs.length:=by
 unfold rack
 split
 ·show s - (ack - b)≤(fs.drop (ack - b)).length∧ack+(fs.drop (ack - b)).length=_
  rw [List.length_drop];omega
 ·exact ⟨hs,rfl⟩
theorem take_mk (b s t:Nat)(a o:Bool)(g:Nat)(fs:List (List UInt8))(B:List UInt8):takeL (b+1) (b+s) g o t (mkR fs s a) B =
  ⟨(rtake b s t a o g fs B).out,(rtake b s t a o g fs B).er,(rtake b s t a o g fs B).b+1,(rtake b s t a o g fs B).g,(rtake b s t a o g fs B).o,(rtake b s t a o g fs B).t,mkR (rtake b s t a o g fs B).fs (rtake b s t a o g fs B).s (rtake b s t a o g fs B).a⟩:=by
 unfold takeL rtake
 cases hp:pr2 B with
 | error e=>rfl
 | ok y =>
  obtain ⟨n,ack,rest⟩:=y
  simp only
  rw [ack_mk]
  by_cases h1:b+s<ack
  ·rw [if_pos h1,if_pos h1]
  ·rw [if_neg h1,if_neg h1]
   by_cases h2:n=0
   ·rw [if_pos h2,if_pos h2]
   ·rw [if_neg h2,if_neg h2]
    by_cases h3:n=g+1
    ·rw [if_pos h3,if_pos h3]
    ·rw [if_neg h3,if_neg h3]
theorem rtake_inv (b s t:Nat)(a o:Bool)(g:Nat)(fs:List (List UInt8))(B:List UInt8)(hs:s≤fs.length) :
  (rtake b s t a o g fs B).b+(rtake b s t a o g fs B).s=b+s∧(rtake b s t a o g fs B).s≤(rtake b s t a o g fs B).fs.length∧(rtake b s t a o g fs B).b+(rtake b s t a o g fs B).fs.length=b+fs.length∧(rtake b s t a o g fs B).g≤g+1:=by
 unfold rtake
 cases pr2 B with
 | error e=>exact ⟨rfl,hs,rfl,Nat.le_succ _⟩
 | ok y =>
  obtain ⟨n,ack,rest⟩:=y
  simp only
  by_cases h1:b+s<ack
  ·rw [if_pos h1];exact ⟨rfl,hs,rfl,Nat.le_succ _⟩
  ·rw [if_neg h1]
   have e1:=rack_sum ack b s t a fs (by omega)
   obtain ⟨e2,e3⟩:=rack_len ack b s t a fs hs (by omega)
   by_cases h2:n=0
   ·rw [if_pos h2];exact ⟨e1,e2,e3,Nat.le_succ _⟩
   ·rw [if_neg h2]
    by_cases h3:n=g+1
    ·rw [if_pos h3];exact ⟨e1,e2,e3,by show n≤_;omega⟩
    ·rw [if_neg h3];exact ⟨e1,e2,e3,Nat.le_succ _⟩
end Go.Ab
namespace Go.Ab
open Go
noncomputable def mkS (S:St)(e r:Nat)(p:Prop):List V→List V→St:=fun C D=>by
 classical
 exact if p then {S with objs:=(S.objs.set e C).set r D} else {S with objs:=S.objs.set e C}
theorem mkS_pos {S:St} {e r:Nat} {p:Prop} (h:p)(C D:List V):mkS S e r p C D={S with objs:=(S.objs.set e C).set r D}:=by unfold mkS;rw [if_pos h]
theorem mkS_neg {S:St} {e r:Nat} {p:Prop} (h:¬ p)(C D:List V):mkS S e r p C D={S with objs:=S.objs.set e C}:=by unfold mkS;rw [if_neg h]
theorem set_self {l:List (List V)} {i:Nat} {x:List V} (h:l[i]?=some x):l.set i x=l:=by
 apply List.ext_getElem?
 intro j
 rw [List.getElem?_set]
 obtain ⟨hi,hx⟩:=List.getElem?_eq_some_iff.1 h
 by_cases hij:i=j
 ·subst hij;rw [if_pos rfl,if_pos hi,h]
 ·rw [if_neg hij]
theorem mkS_self {S:St} {e r:Nat} {p:Prop} {C D:List V} (he:St.obj S e=some C)(hr:p→St.obj S r=some D):mkS S e r p C D=S:=by
 unfold St.obj at *
 by_cases h:p
 ·rw [mkS_pos h,set_self he,set_self (hr h)]
 ·rw [mkS_neg h,set_self he]
theorem mkS_hp {S:St} {e r:Nat} {p:Prop} (hw:S.wp=0)(he:e<S.objs.length)(hr:p→r<S.objs.length∧r≠e):Hp (mkS S e r p) e r p where
 oe:=fun C D=>by
  unfold St.obj
  by_cases h:p
  ·rw [mkS_pos h]
   show ((S.objs.set e C).set r D)[e]?=_
   rw [List.getElem?_set_ne (hr h).2,List.getElem?_set_self he]
  ·rw [mkS_neg h];exact List.getElem?_set_self he
 se:=fun C D C'=>by
  unfold St.set
  by_cases h:p
  ·rw [mkS_pos h,mkS_pos h,if_pos (by show S.wp≤e;omega)]
   show some ({objs:=((S.objs.set e C).set r D).set e C',wp:=S.wp}:St)=_
   rw [List.set_comm _ _ (hr h).2,List.set_set]
  ·rw [mkS_neg h,mkS_neg h,if_pos (by show S.wp≤e;omega)]
   show some ({objs:=(S.objs.set e C).set e C',wp:=S.wp}:St)=_
   rw [List.set_set]
 orr:=fun h C D=>by
  unfold St.obj
  rw [mkS_pos h]
  exact List.getElem?_set_self (by rw [List.length_set];exact (hr h).1)
 sr:=fun h C D D'=>by
  unfold St.set
  rw [mkS_pos h,mkS_pos h,if_pos (by show S.wp≤r;omega)]
  show some ({objs:=((S.objs.set e C).set r D).set r D',wp:=S.wp}:St)=_
  rw [List.set_set]
 len:=fun C D C' D'=>by
  by_cases h:p
  ·rw [mkS_pos h,mkS_pos h];simp
  ·rw [mkS_neg h,mkS_neg h];simp
 wp:=fun C D C' D'=>by
  by_cases h:p
  ·rw [mkS_pos h,mkS_pos h]
  ·rw [mkS_neg h,mkS_neg h]
 lw:=fun C D=>by
  by_cases h:p
  ·rw [mkS_pos h];show S.wp≤_;omega
  ·rw [mkS_neg h];show S.wp≤_;omega
 oth:=fun C D C' D' j h1 h2=>by
  unfold St.obj
  by_cases h:p
  ·rw [mkS_pos h,mkS_pos h]
   show ((S.objs.set e C).set r D)[j]?=((S.objs.set e C').set r D')[j]?
   rw [List.getElem?_set_ne (Ne.symm (h2 h)),List.getElem?_set_ne (Ne.symm h1),List.getElem?_set_ne (Ne.symm (h2 h)),List.getElem?_set_ne (Ne.symm h1)]
  ·rw [mkS_neg h,mkS_neg h]
   show (S.objs.set e C)[j]?=(S.objs.set e C')[j]?
   rw [List.getElem?_set_ne (Ne.symm h1),List.getElem?_set_ne (Ne.symm h1)]
structure LE where
 fs:List (List UInt8)
 b:Nat
 s:Nat
 t:Nat
 g:Nat
 a:Bool
 o:Bool
 kk:Nat
 r:Nat
def LE.prog (w z:Nat)(A:LE):List V:=endC w z (rv A.r (mkR A.fs A.s A.a)) (A.b+1) (A.b+A.s) A.g A.o A.t
def LE.ref (w z:Nat)(A:LE):List V:=refC w z (.osl A.kk (encFs A.fs)) A.b A.s A.t A.a A.o A.g
structure LE.Ok (A:LE) (c:Nat):Prop where
 s:A.s≤A.fs.length
 b:A.b+A.fs.length≤c
 g:A.g≤c
 t:A.t≤8
 f:∀ f∈A.fs,f.length≤1000
 k:(A.kk=0∧A.fs=[])∨A.kk=1
structure Net (S:St) (w z:Nat) (W:List V) (P Q:Nat→LE):Prop where
 wp:S.wp=0
 o:St.obj S 0=some W
 e:∀ i,i<2→St.obj S (1+2*i)=some ((P i).prog w z)
 f:∀ i,i<2→St.obj S (2+2*i)=some ((Q i).ref w z)
 r:∀ i,i<2→(P i).fs≠[]→St.obj S (P i).r=some (rowsV (mkR (P i).fs (P i).s (P i).a))∧5≤(P i).r
 n:∀ i j,i<2→j<2→i≠j→(P i).fs≠[]→(P j).fs≠[]→(P i).r≠(P j).r
 l:5≤S.objs.length
def upd (P:Nat→LE)(i:Nat)(X:LE):Nat→LE:=fun j=>if j=i then X else P j
theorem upd_self (P:Nat→LE)(i:Nat)(X:LE):upd P i X i=X:=by unfold upd;rw [if_pos rfl]
theorem upd_ne (P:Nat→LE) {i j:Nat} (X:LE)(h:j≠i):upd P i X j=P j:=by unfold upd;rw [if_neg h]
theorem obj_lt {S:St} {j:Nat} {cs:List V} (h:St.obj S j=some cs):j<S.objs.length:=by unfold St.obj at h;exact (List.getElem?_eq_some_iff.1 h).1
variable {S:St} {w z:Nat} {W:List V} {P Q:Nat→LE}
theorem Net.hp (N:Net S w z W P Q) {i:Nat} (hi:i<2):Hp (mkS S (1+2*i) (P i).r (mkR (P i).fs (P i).s (P i).a≠[])) (1+2*i) (P i).r (mkR (P i).fs (P i).s (P i).a≠[]) ∧
  mkS S (1+2*i) (P i).r (mkR (P i).fs (P i).s (P i).a≠[]) ((P i).prog w z) (rowsV (mkR (P i).fs (P i).s (P i).a))=S:=by
 have hne:mkR (P i).fs (P i).s (P i).a≠[]→(P i).fs≠[]:=fun h h'=>h (mkR_ne.2 h')
 refine ⟨mkS_hp N.wp (obj_lt (N.e i hi)) (fun h=>⟨obj_lt (N.r i hi (hne h)).1,by have:=(N.r i hi (hne h)).2;omega⟩),mkS_self (N.e i hi) (fun h=>(N.r i hi (hne h)).1)⟩
theorem Net.hq (N:Net S w z W P Q) {i:Nat} (hi:i<2):Hp (mkS S (2+2*i) 0 False) (2+2*i) 0 False∧mkS S (2+2*i) 0 False ((Q i).ref w z) []=S :=
 ⟨mkS_hp N.wp (obj_lt (N.f i hi)) (fun h=>h.elim),mkS_self (N.f i hi) (fun h=>h.elim)⟩
theorem Net.prog (N:Net S w z W P Q) {i:Nat} (hi:i<2) {S':St} (X:LE)(hwp:S'.wp=0)(hl:S.objs.length≤S'.objs.length)
  (hk:∀ j,j<S.objs.length→j≠1+2*i→((P i).fs≠[]→j≠(P i).r)→St.obj S' j=St.obj S j)
  (he:St.obj S' (1+2*i)=some (X.prog w z)) (hr:X.fs≠[]→St.obj S' X.r=some (rowsV (mkR X.fs X.s X.a)))
  (hx:X.fs≠[]→((P i).fs≠[]∧X.r=(P i).r)∨S.objs.length≤X.r):Net S' w z W (upd P i X) Q where
 wp:=hwp
 o:=by
  rw [hk 0 (by have:=N.l;omega) (by omega) (fun h=>by have:=(N.r i hi h).2;omega)];exact N.o
 e:=fun j hj=>by
  by_cases h:j=i
  ·subst h;rw [upd_self];exact he
  ·rw [upd_ne _ _ h,hk _ (obj_lt (N.e j hj)) (by omega) (fun h'=>by have:=(N.r i hi h').2;omega)];exact N.e j hj
 f:=fun j hj=>by
  rw [hk _ (obj_lt (N.f j hj)) (by omega) (fun h'=>by have:=(N.r i hi h').2;omega)];exact N.f j hj
 r:=fun j hj hne=>by
  by_cases h:j=i
  ·subst h
   rw [upd_self] at hne ⊢
   refine ⟨hr hne,?_⟩
   rcases hx hne with ⟨h1,h2⟩ | h1
   ·rw [h2];exact (N.r j hj h1).2
   ·have:=N.l;omega
  ·rw [upd_ne _ _ h] at hne ⊢
   obtain ⟨h1,h2⟩:=N.r j hj hne
   refine ⟨?_,h2⟩
   rw [hk _ (obj_lt h1) (by omega) (fun h'=>N.n j i hj hi h hne h')];exact h1
 n:=fun j k hj hk' hjk h1 h2=>by
  by_cases h:j=i
  ·subst h
   rw [upd_self] at h1 ⊢
   rw [upd_ne _ _ (Ne.symm hjk)] at h2 ⊢
   rcases hx h1 with ⟨h3,h4⟩ | h3
   ·rw [h4];exact N.n j k hj hk' hjk h3 h2
   ·have:=obj_lt (N.r k hk' h2).1;omega
  ·rw [upd_ne _ _ h] at h1 ⊢
   by_cases h':k=i
   ·subst h'
    rw [upd_self] at h2 ⊢
    rcases hx h2 with ⟨h3,h4⟩ | h3
    ·rw [h4];exact N.n j k hj hk' hjk h1 h3
    ·have:=obj_lt (N.r j hj h1).1;omega
   ·rw [upd_ne _ _ h'] at h2 ⊢
    exact N.n j k hj hk' hjk h1 h2
 l:=Nat.le_trans N.l hl
theorem Net.ref (N:Net S w z W P Q) {i:Nat} (hi:i<2) {S':St} (X:LE)(hwp:S'.wp=0)(hl:S.objs.length≤S'.objs.length)
  (hk:∀ j,j<S.objs.length→j≠2+2*i→St.obj S' j=St.obj S j)
  (he:St.obj S' (2+2*i)=some (X.ref w z)):Net S' w z W P (upd Q i X) where
 wp:=hwp
 o:=by rw [hk 0 (by have:=N.l;omega) (by omega)];exact N.o
 e:=fun j hj=>by rw [hk _ (obj_lt (N.e j hj)) (by omega)];exact N.e j hj
 f:=fun j hj=>by
  by_cases h:j=i
  ·subst h;rw [upd_self];exact he
  ·rw [upd_ne _ _ h,hk _ (obj_lt (N.f j hj)) (by omega)];exact N.f j hj
 r:=fun j hj hne=>by
  obtain ⟨h1,h2⟩:=N.r j hj hne
  exact ⟨by rw [hk _ (obj_lt h1) (by omega)];exact h1,h2⟩
 n:=N.n
 l:=Nat.le_trans N.l hl
theorem Net.hold (N:Net S w z W P Q)(W':List V):∃ S',St.set S 0 W'=some S'∧Net S' w z W' P Q:=by
 refine ⟨{S with objs:=S.objs.set 0 W'},by unfold St.set;rw [if_pos (by rw [N.wp];exact Nat.le_refl 0)],?_⟩
 have hg:∀ j,j≠0→St.obj {S with objs:=S.objs.set 0 W'} j=St.obj S j:=fun j hj=>by
  unfold St.obj;exact List.getElem?_set_ne (Ne.symm hj)
 exact ⟨N.wp,by unfold St.obj;exact List.getElem?_set_self (by have:=N.l;omega),fun i hi=>by rw [hg _ (by omega)];exact N.e i hi,fun i hi=>by rw [hg _ (by omega)];exact N.f i hi,
  fun i hi h=>by obtain ⟨h1,h2⟩:=N.r i hi h;exact ⟨by rw [hg _ (by omega)];exact h1,h2⟩,N.n,by show 5≤(S.objs.set 0 W').length;rw [List.length_set];exact N.l⟩
end Go.Ab
namespace Go.Ab
open Go
variable {S:St} {w z:Nat} {W:List V} {P Q:Nat→LE}
theorem Net.step (N:Net S w z W P Q) {i:Nat} (hi:i<2)(X:LE)(σ':List V→List V→St)(hσ':Hp σ' (1+2*i) X.r (mkR X.fs X.s X.a≠[]))
  (hb:Bys (mkS S (1+2*i) (P i).r (mkR (P i).fs (P i).s (P i).a≠[])) σ' (1+2*i) (P i).r X.r (mkR (P i).fs (P i).s (P i).a≠[]))
  (hown:X.fs≠[]→(P i).fs≠[]∨S.objs.length≤X.r):Net (σ' (X.prog w z) (rowsV (mkR X.fs X.s X.a))) w z W (upd P i X) Q:=by
 obtain ⟨hσ,hS⟩:=N.hp hi
 have hne:(mkR (P i).fs (P i).s (P i).a≠[])↔(P i).fs≠[]:=by rw [Ne,Ne,mkR_ne]
 refine N.prog hi X ?_ ?_ ?_ (hσ'.oe _ _) (fun h=>hσ'.orr (fun h'=>h (mkR_ne.1 h')) _ _) (fun h=>?_)
 ·rw [hb.wp ((P i).prog w z) (rowsV (mkR (P i).fs (P i).s (P i).a)),hS];exact N.wp
 ·have:=hb.len ((P i).prog w z) (rowsV (mkR (P i).fs (P i).s (P i).a)) (X.prog w z) (rowsV (mkR X.fs X.s X.a))
  rwa [hS] at this
 ·intro j hj h1 h2
  have:=hb.keep ((P i).prog w z) (rowsV (mkR (P i).fs (P i).s (P i).a)) (X.prog w z) (rowsV (mkR X.fs X.s X.a)) j (by rw [hS];exact hj) h1 (fun h=>h2 (hne.1 h))
  rwa [hS] at this
 ·rcases hown h with h1 | h1
  ·rcases hb.own with h2 | h2
   ·exact .inl ⟨h1,h2⟩
   ·have:=h2 ((P i).prog w z) (rowsV (mkR (P i).fs (P i).s (P i).a))
    rw [hS] at this
    exact .inr this
  ·exact .inr h1
theorem Net.stepq (N:Net S w z W P Q) {i:Nat} (hi:i<2)(X:LE)(σ':List V→List V→St)(hσ':Hp σ' (2+2*i) 0 False)
  (hb:Bys (mkS S (2+2*i) 0 False) σ' (2+2*i) 0 0 False):Net (σ' (X.ref w z) []) w z W P (upd Q i X):=by
 obtain ⟨hσ,hS⟩:=N.hq hi
 refine N.ref hi X ?_ ?_ ?_ (hσ'.oe _ _)
 ·rw [hb.wp ((Q i).ref w z) [],hS];exact N.wp
 ·have:=hb.len ((Q i).ref w z) [] (X.ref w z) []
  rwa [hS] at this
 ·intro j hj h1
  have:=hb.keep ((Q i).ref w z) [] (X.ref w z) [] j (by rw [hS];exact hj) h1 (fun h=>h.elim)
  rwa [hS] at this
def LE.outs (w:Nat)(A:LE):List (List UInt8):=(routs w A.b A.g A.s A.a A.o A.fs).1
def LE.out (w:Nat)(A:LE):LE:={A with s:=(routs w A.b A.g A.s A.a A.o A.fs).2,a:=false,o:=false}
def LE.put (A:LE)(f:List UInt8)(r:Nat):LE:={A with fs:=A.fs ++ [f],kk:=1,r:=r}
def LE.tick (z:Nat)(A:LE):LE:={A with t:=if A.s=0 then 0 else if A.t+1<z then A.t+1 else 0,a:=if A.s=0 then A.a else if A.t+1<z then A.a else true}
def LE.tk (A:LE)(B:List UInt8):Rk:=rtake A.b A.s A.t A.a A.o A.g A.fs B
def LE.take (A:LE)(B:List UInt8)(r:Nat):LE:=⟨(A.tk B).fs,(A.tk B).b,(A.tk B).s,(A.tk B).t,(A.tk B).g,(A.tk B).a,(A.tk B).o,A.kk,r⟩
theorem LE.Ok.out {A:LE} {c w:Nat} (h:A.Ok c):(A.out w).Ok c where
 s:=by show A.s+(min A.fs.length w - A.s)≤_;have:=h.s;show _≤A.fs.length;omega
 b:=h.b
 g:=h.g
 t:=h.t
 f:=h.f
 k:=h.k
theorem LE.Ok.put {A:LE} {c:Nat} (h:A.Ok c) {f:List UInt8} (hf:f.length≤1000)(r:Nat):(A.put f r).Ok (c+1) where
 s:=by show A.s≤(A.fs ++ [f]).length;have:=h.s;simp;omega
 b:=by show A.b+(A.fs ++ [f]).length≤c+1;have:=h.b;simp;omega
 g:=Nat.le_succ_of_le h.g
 t:=h.t
 f:=fun x hx=>by
  rcases List.mem_append.1 hx with h1 | h1
  ·exact h.f x h1
  ·simp at h1;subst h1;exact hf
 k:=.inr rfl
theorem LE.Ok.tick {A:LE} {c z:Nat} (h:A.Ok c)(hz:z≤8):(A.tick z).Ok c where
 s:=h.s
 b:=h.b
 g:=h.g
 t:=by show (if A.s=0 then 0 else if A.t+1<z then A.t+1 else 0)≤8;split;omega;split <;> omega
 f:=h.f
 k:=h.k
theorem LE.Ok.mono {A:LE} {c d:Nat} (h:A.Ok c)(hd:c≤d):A.Ok d:={h with b:=Nat.le_trans h.b hd,g:=Nat.le_trans h.g hd}
theorem tk_fs (A:LE)(B:List UInt8):∃ k,(A.tk B).fs=A.fs.drop k:=by
 unfold LE.tk rtake
 have hr:∀ ack,∃ k,(rack ack A.b A.s A.t A.a A.fs).2.2.2.2=A.fs.drop k:=fun ack=>by
  unfold rack
  split
  ·exact ⟨_,rfl⟩
  ·exact ⟨0,rfl⟩
 cases pr2 B with
 | error e=>exact ⟨0,rfl⟩
 | ok y =>
  obtain ⟨n,ack,rest⟩:=y
  simp only
  split
  ·exact ⟨0,rfl⟩
  ·split
   ·exact hr ack
   ·split
    ·exact hr ack
    ·exact hr ack
theorem tk_t (A:LE)(B:List UInt8)(h:A.t≤8):(A.tk B).t≤8:=by
 unfold LE.tk rtake
 have hr:∀ ack,(rack ack A.b A.s A.t A.a A.fs).2.2.1≤8:=fun ack=>by
  unfold rack
  split
  ·exact Nat.zero_le _
  ·exact h
 cases pr2 B with
 | error e=>exact h
 | ok y =>
  obtain ⟨n,ack,rest⟩:=y
  simp only
  split
  ·exact h
  ·split
   ·exact hr ack
   ·split
    ·exact hr ack
    ·exact hr ack
theorem LE.Ok.take {A:LE} {c:Nat} (h:A.Ok c)(B:List UInt8)(r:Nat):(A.take B r).Ok (c+1):=by
 obtain ⟨h1,h2,h3,h4⟩:=rtake_inv A.b A.s A.t A.a A.o A.g A.fs B h.s
 obtain ⟨k,hk⟩:=tk_fs A B
 refine ⟨h2,?_,?_,tk_t A B h.t,?_,?_⟩
 ·show (A.tk B).b+(A.tk B).fs.length≤c+1
  have:=h.b;unfold LE.tk;omega
 ·show (A.tk B).g≤c+1
  have:=h.g;unfold LE.tk;omega
 ·intro f hf
  have:f∈(A.tk B).fs:=hf
  rw [hk] at this
  exact h.f f (List.mem_of_mem_drop this)
 ·rcases h.k with ⟨h5,h6⟩ | h5
  ·left;exact ⟨h5,by show (A.tk B).fs=[];rw [hk,h6];simp⟩
  ·exact .inr h5
end Go.Ab
namespace Go.Proofs.Ytebjpgoadapabaa
open Go Go.Ab
noncomputable section
variable (fr:Fr)(st:St)(k:Kt)
variable {S:St} {w z:Nat} {W:List V} {P Q:Nat→LE}
theorem sm_of {A:LE} {c:Nat} (h:A.Ok c):∀ x∈mkR A.fs A.s A.a,x.fr.length≤1000000:=mkR_sm (fun f hf=>Nat.le_trans (h.f f hf) (by omega)) _ _
theorem sf_of {A:LE} {c:Nat} (h:A.Ok c):∀ f∈A.fs,f.length≤1000000:=fun f hf=>Nat.le_trans (h.f f hf) (by omega)
theorem P_out (N:Net S w z W P Q) {i c:Nat} (hi:i<2)(hc:c≤60000)(h:(P i).Ok c):∃ S',Net S' w z W (upd P i ((P i).out w)) Q∧∀ fr,callStep gS (EvF gS) 10 [.ptr (1+2*i) 0] fr S=some (.ok (.own (ko ((P i).outs w)) (encFs ((P i).outs w))) (fr.map E.noMem) S'):=by
 obtain ⟨hσ,hS⟩:=N.hp hi
 have hb:=h.b;have hg:=h.g
 have kk:=fun fr=>np10 (1+2*i) (P i).r w z ((P i).b+1) (P i).g (P i).o (P i).t (mkR (P i).fs (P i).s (P i).a) (by omega) (by omega) (by rw [mkR_len];omega) (sm_of h) _ hσ ((P i).b+(P i).s) fr
 rw [outs_mk _ _ _ _ _ _ _ h.s,outR_mk _ _ _ _ h.s] at kk
 have kk2:∀ fr,callStep gS (EvF gS) 10 [.ptr (1+2*i) 0] fr S=some (.ok (.own (ko ((P i).outs w)) (encFs ((P i).outs w))) (fr.map E.noMem) (mkS S (1+2*i) (P i).r (mkR (P i).fs (P i).s (P i).a≠[]) (((P i).out w).prog w z) (rowsV (mkR ((P i).out w).fs ((P i).out w).s ((P i).out w).a)))):=fun fr=>by
  have:=kk fr
  rw [show mkS S (1+2*i) (P i).r (mkR (P i).fs (P i).s (P i).a≠[]) (endC w z (rv (P i).r (mkR (P i).fs (P i).s (P i).a)) ((P i).b+1) ((P i).b+(P i).s) (P i).g (P i).o (P i).t) (rowsV (mkR (P i).fs (P i).s (P i).a))=S from hS] at this
  exact this
 refine ⟨_,N.step hi ((P i).out w) _ (hσ.weaken ?_) (Bys.refl hσ) (fun h=>.inl h),kk2⟩
 show (mkR (P i).fs _ _≠[])↔(mkR (P i).fs _ _≠[])
 rw [Ne,Ne,mkR_ne,mkR_ne]
theorem P_tick (N:Net S w z W P Q) {i c:Nat} (hi:i<2)(hc:c≤60000)(h:(P i).Ok c):∃ S',Net S' w z W (upd P i ((P i).tick z)) Q∧∀ fr,callStep gS (EvF gS) 13 [.ptr (1+2*i) 0] fr S=some (.ok (.val (.tuple [])) (fr.map E.noMem) S'):=by
 obtain ⟨hσ,hS⟩:=N.hp hi
 have hb:=h.b;have hg:=h.g;have ht:=h.t
 have kk:=fun fr=>np13 (1+2*i) (P i).r w z ((P i).b+1) (P i).g (P i).o (P i).t (mkR (P i).fs (P i).s (P i).a) (by omega) (by omega) (by omega) (by rw [mkR_len];omega) (sm_of h) _ hσ ((P i).b+(P i).s) fr
 rw [tick_mk _ _ _ _ _ h.s] at kk
 have kk2:∀ fr,callStep gS (EvF gS) 13 [.ptr (1+2*i) 0] fr S=some (.ok (.val (.tuple [])) (fr.map E.noMem) (mkS S (1+2*i) (P i).r (mkR (P i).fs (P i).s (P i).a≠[]) (((P i).tick z).prog w z) (rowsV (mkR ((P i).tick z).fs ((P i).tick z).s ((P i).tick z).a)))):=fun fr=>by
  have:=kk fr
  rw [show mkS S (1+2*i) (P i).r (mkR (P i).fs (P i).s (P i).a≠[]) (endC w z (rv (P i).r (mkR (P i).fs (P i).s (P i).a)) ((P i).b+1) ((P i).b+(P i).s) (P i).g (P i).o (P i).t) (rowsV (mkR (P i).fs (P i).s (P i).a))=S from hS] at this
  exact this
 refine ⟨_,N.step hi ((P i).tick z) _ (hσ.weaken ?_) (Bys.refl hσ) (fun h=>.inl h),kk2⟩
 show (mkR (P i).fs _ _≠[])↔(mkR (P i).fs _ _≠[])
 rw [Ne,Ne,mkR_ne,mkR_ne]
theorem P_put (N:Net S w z W P Q) {i c:Nat} (hi:i<2)(hc:c≤60000)(h:(P i).Ok c)(f:List UInt8)(hf:f.length≤1000):∃ S' r,Net S' w z W (upd P i ((P i).put f r)) Q∧∀ fr,callStep gS (EvF gS) 9 [.ptr (1+2*i) 0,.slice (byteVs f)] fr S=some (.ok (.val (.tuple [])) (fr.map E.noMem) S'):=by
 obtain ⟨hσ,hS⟩:=N.hp hi
 have hb:=h.b;have hg:=h.g
 have kk:=fun fr=>call_np rfl fi9_eq rfl (c9 (1+2*i) (P i).r w z ((P i).b+1) ((P i).b+(P i).s) (P i).g (P i).o (P i).t (mkR (P i).fs (P i).s (P i).a) f (by omega) (by rw [mkR_len];omega) _ hσ) fr
 rw [put_mk _ _ _ _ h.s] at kk
 have hlen:(mkS S (1+2*i) (P i).r (mkR (P i).fs (P i).s (P i).a≠[]) [] []).objs.length=S.objs.length:=by
  have:=hσ.len [] [] ((P i).prog w z) (rowsV (mkR (P i).fs (P i).s (P i).a))
  rwa [hS] at this
 obtain ⟨r,hr⟩:∃ r,r=(mkS S (1+2*i) (P i).r (mkR (P i).fs (P i).s (P i).a≠[]) [] []).objs.length:=⟨_,rfl⟩
 rw [← hr] at kk hlen
 have hfr:Hp (fun C D=>apps (mkS S (1+2*i) (P i).r (mkR (P i).fs (P i).s (P i).a≠[]) C []) ([] ++ [D])) (1+2*i) r (mkR ((P i).put f r).fs ((P i).put f r).s ((P i).put f r).a≠[]) :=
  hσ.fresh [] [] _ (by rw [Ne,mkR_ne];show ¬ (P i).fs ++ [f]=[];simp) (fun C=>by rw [List.length_nil,Nat.add_zero,hr];exact hσ.len C [] [] [])
 have hby:=Bys.fresh hσ []
 rw [← hr] at hby
 refine ⟨_,r,N.step hi ((P i).put f r) _ hfr hby (fun _=>.inr (Nat.le_of_eq hlen.symm)),fun fr=>?_⟩
 have:=kk fr
 rw [show mkS S (1+2*i) (P i).r (mkR (P i).fs (P i).s (P i).a≠[]) (endC w z (rv (P i).r (mkR (P i).fs (P i).s (P i).a)) ((P i).b+1) ((P i).b+(P i).s) (P i).g (P i).o (P i).t) (rowsV (mkR (P i).fs (P i).s (P i).a))=S from hS] at this
 exact this
theorem P_take (N:Net S w z W P Q) {i c:Nat} (hi:i<2)(hc:c≤60000)(h:(P i).Ok c)(B:List UInt8)(hB:B.length≤1000000):∃ S' r,Net S' w z W (upd P i ((P i).take B r)) Q∧∀ fr,callStep gS (EvF gS) 12 [.ptr (1+2*i) 0,.slice (byteVs B)] fr S=some (.ok (.val (.tuple [.slice (encFs ((P i).tk B).out),.int .i64 ((P i).tk B).er])) (fr.map E.noMem) S'):=by
 obtain ⟨hσ,hS⟩:=N.hp hi
 have hb:=h.b;have hg:=h.g
 obtain ⟨σ',r,h1,h2,h3⟩:=np12 (1+2*i) (P i).r w z ((P i).b+1) (P i).g (P i).o (P i).t (mkR (P i).fs (P i).s (P i).a) (by omega) (by omega) (by rw [mkR_len];omega) (sm_of h) _ hσ ((P i).b+(P i).s) (by rw [mkR_len];have:=h.s;omega) B hB
 rw [take_mk] at h1 h3
 simp only at h1 h3
 obtain ⟨hsum,_⟩:=rtake_inv (P i).b (P i).s (P i).t (P i).a (P i).o (P i).g (P i).fs B h.s
 obtain ⟨k,hk⟩:=tk_fs (P i) B
 refine ⟨_,r,N.step hi ((P i).take B r) σ' h1 h2 (fun hne=>?_),fun fr=>?_⟩
 ·left
  intro h0
  apply hne
  show ((P i).tk B).fs=[]
  rw [hk,h0];simp
 ·have:=h3 fr
  rw [show mkS S (1+2*i) (P i).r (mkR (P i).fs (P i).s (P i).a≠[]) (endC w z (rv (P i).r (mkR (P i).fs (P i).s (P i).a)) ((P i).b+1) ((P i).b+(P i).s) (P i).g (P i).o (P i).t) (rowsV (mkR (P i).fs (P i).s (P i).a))=S from hS,← hsum] at this
  exact this
theorem P_rows (N:Net S w z W P Q) {i:Nat} (hi:i<2)(fr:Fr):callStep gS (EvF gS) 11 [.ptr (1+2*i) 0] fr S=some (.ok (.val (.int .i64 ((P i).fs.length:Int))) fr S):=by
 have:=k11 (1+2*i) (P i).r w z ((P i).b+1) ((P i).b+(P i).s) (P i).g (P i).o (P i).t (mkR (P i).fs (P i).s (P i).a) fr S (N.e i hi)
 rwa [mkR_len] at this
theorem Q_out (N:Net S w z W P Q) {i c:Nat} (hi:i<2)(hc:c≤60000)(h:(Q i).Ok c):∃ S',Net S' w z W P (upd Q i ((Q i).out w))∧∀ fr,callStep gS (EvF gS) 37 [.ptr (2+2*i) 0] fr S=some (.ok (.own (ko ((Q i).outs w)) (encFs ((Q i).outs w))) (fr.map E.noMem) S'):=by
 obtain ⟨hσ,hS⟩:=N.hq hi
 have hb:=h.b;have hg:=h.g
 have kk:=fun fr=>call_np rfl fi37_eq rfl (c37 (2+2*i) w z (Q i).kk (Q i).b (Q i).g (Q i).fs (Q i).t (Q i).a (Q i).o (by omega) (by omega) (by omega) (sf_of h) _ hσ (Q i).s h.s) fr
 refine ⟨_,N.stepq hi ((Q i).out w) _ hσ (Bys.refl hσ),fun fr=>?_⟩
 have:=kk fr
 rw [show mkS S (2+2*i) 0 False (refC w z (.osl (Q i).kk (encFs (Q i).fs)) (Q i).b (Q i).s (Q i).t (Q i).a (Q i).o (Q i).g) []=S from hS] at this
 exact this
theorem Q_tick (N:Net S w z W P Q) {i c:Nat} (hi:i<2)(hc:c≤60000)(h:(Q i).Ok c):∃ S',Net S' w z W P (upd Q i ((Q i).tick z))∧∀ fr,callStep gS (EvF gS) 28 [.ptr (2+2*i) 0] fr S=some (.ok (.val (.tuple [])) (fr.map E.noMem) S'):=by
 obtain ⟨hσ,hS⟩:=N.hq hi
 have ht:=h.t
 have kk:=fun fr=>call_np rfl fi28_eq rfl (c28 (2+2*i) w z (.osl (Q i).kk (encFs (Q i).fs)) (Q i).b (Q i).s (Q i).t (by omega) (Q i).a (Q i).o (Q i).g _ hσ) fr
 refine ⟨_,N.stepq hi ((Q i).tick z) _ hσ (Bys.refl hσ),fun fr=>?_⟩
 have:=kk fr
 rw [show mkS S (2+2*i) 0 False (refC w z (.osl (Q i).kk (encFs (Q i).fs)) (Q i).b (Q i).s (Q i).t (Q i).a (Q i).o (Q i).g) []=S from hS] at this
 exact this
theorem Q_put (N:Net S w z W P Q) {i c:Nat} (hi:i<2)(hc:c≤60000)(h:(Q i).Ok c)(f:List UInt8)(hf:f.length≤1000)(r:Nat):∃ S',Net S' w z W P (upd Q i ((Q i).put f r))∧∀ fr,callStep gS (EvF gS) 27 [.ptr (2+2*i) 0,.slice (byteVs f)] fr S=some (.ok (.val (.tuple [])) (fr.map E.noMem) S'):=by
 obtain ⟨hσ,hS⟩:=N.hq hi
 have hb:=h.b
 have hkk:(Q i).kk=0∨(Q i).kk=1:=by rcases h.k with h1 | h1;exact .inl h1.1;exact .inr h1
 have kk:=fun fr=>call_np rfl fi27_eq rfl (c27 (2+2*i) w z (Q i).kk hkk (Q i).fs (by omega) (Q i).b (Q i).s (Q i).t (Q i).a (Q i).o (Q i).g f (by omega) _ hσ) fr
 refine ⟨_,N.stepq hi ((Q i).put f r) _ hσ (Bys.refl hσ),fun fr=>?_⟩
 have:=kk fr
 rw [show mkS S (2+2*i) 0 False (refC w z (.osl (Q i).kk (encFs (Q i).fs)) (Q i).b (Q i).s (Q i).t (Q i).a (Q i).o (Q i).g) []=S from hS] at this
 exact this
theorem Q_take (N:Net S w z W P Q) {i c:Nat} (hi:i<2)(hc:c≤60000)(h:(Q i).Ok c)(B:List UInt8)(hB:B.length≤1000000)(r:Nat):∃ S',Net S' w z W P (upd Q i ((Q i).take B r))∧∀ fr,callStep gS (EvF gS) 36 [.ptr (2+2*i) 0,.slice (byteVs B)] fr S=some (.ok (.val (.tuple [.slice (encFs ((Q i).tk B).out),.int .i64 ((Q i).tk B).er])) (fr.map E.noMem) S'):=by
 obtain ⟨hσ,hS⟩:=N.hq hi
 have hb:=h.b;have hg:=h.g
 obtain ⟨σ',h1,h2,h3⟩:=c36 (2+2*i) w z (Q i).kk (Q i).b (Q i).g (Q i).fs (Q i).t (Q i).a (Q i).o (by omega) (by omega) (by omega) h.k _ hσ (Q i).s h.s B hB
 refine ⟨_,N.stepq hi ((Q i).take B r) σ' h1 h2,fun fr=>?_⟩
 have:=call_np rfl fi36_eq rfl h3 fr
 rw [show mkS S (2+2*i) 0 False (refC w z (.osl (Q i).kk (encFs (Q i).fs)) (Q i).b (Q i).s (Q i).t (Q i).a (Q i).o (Q i).g) []=S from hS] at this
 exact this
end
end Go.Proofs.Ytebjpgoadapabaa
namespace Go.Ab
open Go
theorem bytes_of (bs:List UInt8):bytesOf (byteVs bs)=some bs:=by
 induction bs with
 | nil=>rfl
 | cons b r ih=>simp [byteVs,bytesOf] at ih ⊢;exact ih
def encSs (l:List (List UInt8)):List V:=l.map V.str
theorem encSs_length (l:List (List UInt8)):(encSs l).length=l.length:=by simp [encSs]
theorem encSs_get (l:List (List UInt8))(i:Nat):(encSs l)[i]?=(l[i]?).map V.str:=by simp [encSs]
theorem encSs_gE (l:List (List UInt8))(i:Nat)(h:i<(encSs l).length):(encSs l)[i]'h=.str (l[i]'(by rw [encSs_length] at h;exact h)):=by simp [encSs]
theorem sizes_ss (l:List (List UInt8)):sizesOk 1 (encSs l)=true:=by
 induction l with
 | nil=>rfl
 | cons x r ih=>simp only [encSs,List.map_cons,sizesOk] at ih ⊢;rw [ih];rfl
theorem ss_snoc (l:List (List UInt8))(f:List UInt8):encSs l ++ [.str f]=encSs (l ++ [f]):=by simp [encSs]
attribute [simp] encSs_length encSs_get encSs_gE
structure Wi where
 t0:List (List UInt8)
 t1:List (List UInt8)
 p0:List (List UInt8)
 p1:List (List UInt8)
 q0:List (List UInt8)
 q1:List (List UInt8)
 k0:Nat
 k1:Nat
 k2:Nat
 k3:Nat
 k4:Nat
 k5:Nat
def Wi.c (X:Wi):List V:=[.ptr 1 0,.ptr 3 0,.ptr 2 0,.ptr 4 0,.osl X.k0 (encFs X.t0),.osl X.k1 (encFs X.t1),.osl X.k2 (encSs X.p0),.osl X.k3 (encSs X.p1),.osl X.k4 (encSs X.q0),.osl X.k5 (encSs X.q1)]
def Wi.ok (X:Wi):Prop:=X.k0≤1∧X.k1≤1∧X.k2≤1∧X.k3≤1∧X.k4≤1∧X.k5≤1
structure LE.Eqv (A B:LE):Prop where
 fs:A.fs=B.fs
 b:A.b=B.b
 s:A.s=B.s
 t:A.t=B.t
 g:A.g=B.g
 a:A.a=B.a
 o:A.o=B.o
theorem LE.Eqv.outs {A B:LE} (h:A.Eqv B)(w:Nat):A.outs w=B.outs w:=by unfold LE.outs;rw [h.fs,h.b,h.s,h.g,h.a,h.o]
theorem LE.Eqv.out {A B:LE} (h:A.Eqv B)(w:Nat):(A.out w).Eqv (B.out w):=⟨h.fs,h.b,by show (routs w A.b A.g A.s A.a A.o A.fs).2=(routs w B.b B.g B.s B.a B.o B.fs).2;rw [h.fs,h.b,h.s,h.g,h.a,h.o],h.t,h.g,rfl,rfl⟩
theorem LE.Eqv.tk {A B:LE} (h:A.Eqv B)(F:List UInt8):A.tk F=B.tk F:=by unfold LE.tk;rw [h.fs,h.b,h.s,h.t,h.g,h.a,h.o]
theorem LE.Eqv.take {A B:LE} (h:A.Eqv B)(F:List UInt8)(r r':Nat):(A.take F r).Eqv (B.take F r'):=by
 have e:=h.tk F
 exact ⟨by show (A.tk F).fs=(B.tk F).fs;rw [e],by show (A.tk F).b=(B.tk F).b;rw [e],by show (A.tk F).s=(B.tk F).s;rw [e],by show (A.tk F).t=(B.tk F).t;rw [e],by show (A.tk F).g=(B.tk F).g;rw [e],by show (A.tk F).a=(B.tk F).a;rw [e],by show (A.tk F).o=(B.tk F).o;rw [e]⟩
theorem LE.Eqv.put {A B:LE} (h:A.Eqv B)(F:List UInt8)(r r':Nat):(A.put F r).Eqv (B.put F r'):=⟨by show A.fs ++ [F]=B.fs ++ [F];rw [h.fs],h.b,h.s,h.t,h.g,h.a,h.o⟩
theorem LE.Eqv.tick {A B:LE} (h:A.Eqv B)(z:Nat):(A.tick z).Eqv (B.tick z):=⟨h.fs,h.b,h.s,by show (if A.s=0 then 0 else if A.t+1<z then A.t+1 else 0)=(if B.s=0 then 0 else if B.t+1<z then B.t+1 else 0);rw [h.s,h.t],h.g,by show (if A.s=0 then A.a else if A.t+1<z then A.a else true)=(if B.s=0 then B.a else if B.t+1<z then B.a else true);rw [h.s,h.t,h.a],h.o⟩
theorem take_two {α:Type} {l:List α} {q:Nat} {x:α} (h:l[q]?=some x)(t:List α):t ++ [x] ++ l.drop (q+1)=t ++ l.drop q:=by rw [drop_get h,zaa];rfl
end Go.Ab
namespace Go.Ab
open Go
theorem nbF_le:∀ (f n:Nat),(nbF f n).length≤f
 | 0,n=>by simp [nbF]
 | f+1,n=>by
  rw [nbF];split
  ·simp
  ·simpa using nbF_le f (n / 128)
theorem dgr_le (n g:Nat)(f:List UInt8):(dgr n g f).length≤20+f.length:=by
 unfold dgr nb
 have h1:=nbF_le 10 n
 have h2:=nbF_le 10 g
 rw [zla,zla];omega
theorem rng_le {b g:Nat} {fs:List (List UInt8)} (hf:∀ f∈fs,f.length≤1000):∀ (m i:Nat) x,x∈rng b g fs i m→x.length≤1020
 | 0,i,x,h=>by cases h
 | m+1,i,x,h=>by
  rw [rng] at h
  rcases List.mem_cons.1 h with h1 | h1
  ·subst h1
   have h2:=dgr_le (b+i+1) g (fs.getD i [])
   have h3:(fs.getD i []).length≤1000:=by
    rw [List.getD_eq_getElem?_getD]
    cases hx:fs[i]? with
    | none=>simp
    | some y=>exact hf y (zmg hx)
   omega
  ·exact rng_le hf m (i+1) x h1
theorem outs_le {A:LE} {c w:Nat} (h:A.Ok c):(A.outs w).length≤2*c+1∧∀ f∈A.outs w,f.length≤1020:=by
 have hs:=h.s;have hb:=h.b
 unfold LE.outs routs
 simp only
 generalize hX:(if A.a then rng A.b A.g A.fs 0 A.s else []) ++ rng A.b A.g A.fs A.s (min A.fs.length w - A.s)=X
 have h1:X.length≤2*c+1:=by
  rw [← hX,zla,rng_len]
  split
  ·rw [rng_len];omega
  ·simp;omega
 have h2:∀ f∈X,f.length≤1020:=by
  rw [← hX]
  intro f hf
  rcases List.mem_append.1 hf with h1 | h1
  ·split at h1
   ·exact rng_le h.f _ _ f h1
   ·cases h1
  ·exact rng_le h.f _ _ f h1
 split
 ·refine ⟨by simp,fun f hf=>?_⟩
  simp at hf;subst hf
  exact Nat.le_trans (dgr_le 0 A.g []) (by simp)
 ·exact ⟨h1,h2⟩
end Go.Ab
namespace Go.Proofs.Ytebjpgoadapabaa
open Go Go.Ab
noncomputable section
variable (fr:Fr)(st:St)(k:Kt)
theorem u8_27:gS.u8 27=true:=by kernel_rfl
theorem w64_0:IntKind.wrap .i64 0=0:=by kernel_rfl
def fi31:FI:={body:=codeOf Try.f31,ntmps:=85,results:=[.tmp 4],pers:=[0,1,4,5,6,7],locals:=[],pure:=false,marks:=[5000074]}
theorem H31:fi31.marks=[5000074]∧fi31.locals=[]∧fi31.results=[.tmp 4]:=⟨rfl,rfl,rfl⟩
theorem fi31_eq:gS.fn 31=some fi31:=by kernel_rfl
theorem st31 (a0 a1:V):startFr fi31 [a0,a1]={ps:=[(0,.val a0),(1,.val a1),(4,.any),(5,.any),(6,.any),(7,.any)],ts:=[],lc:=[]}:=rfl
def b31:Code:=mini (codeOf Try.f31)
def r31_8:Array Oper:=regOps (codeN (codeOf Try.f31) 39)
def c31_8:Code:=.region 3 r31_8 true
def q31_8:List (Oper × Fl):=[(mv 22 5 28,qz0),
 (len1 23 22 28 3,qz0),
 (mv 24 6 28,qz3),
 (len1 25 24 28 3,qz3),
 (bop 26 .neq 3 23 25 3 4,qz5),
 (mv 27 26 4,qz5),
 (qm 28 0 35 5 false,qz0),
 (qm 29 1 3 5 false,qz0),
 (mk (some 30) (.nilCheck (.tmp 28)) 0 (some (5,false)),qz0),
 (qf 31 50 30 0 0 5 false,qz0),
 (qi 32 44 31 29 0 5 false,qz0),
 (ql 33 22 32 22 5 false,qz0),
 (mk (some 34) (.call {callee:=(.value (.func 11)),args:=#[(.tmp 33)],argTypes:=#[22]}) 3 (some (5,false)),qz1),
 (qm 35 0 35 5 false,qz0),
 (qm 36 1 3 5 false,qz0),
 (mk (some 37) (.nilCheck (.tmp 35)) 0 (some (5,false)),qz0),
 (qf 38 50 37 1 0 5 false,qz0),
 (qi 39 46 38 36 0 5 false,qz0),
 (ql 40 45 39 45 5 false,qz0),
 (mk (some 41) (.nilCheck (.tmp 40)) 0 (some (5,false)),qz0),
 (qf 42 73 41 2 0 5 false,qz3),
 (ql 43 28 42 28 5 false,qz3),
 (qe 44 43 28 3 5 false,qz3),
 (qb 45 .neq 3 34 44 3 4 5 false,qz3),
 (qQ 46 27 true 45 4,qz3)]
theorem e31_8:evK gS fi31 c31_8 fr st k=drwR gS fi31 r31_8 q31_8 fr st k:=evK_dr 3 rfl (by kernel_rfl) (by kernel_rfl)
def c31_10:Code:=.seq (codeN b31 151) .ret
theorem e31_10:evK gS fi31 c31_10 fr st k=opsR gS fi31 [qA 4 false 4] fr st (.seq .ret k):=evK_rs 4 rfl (by kernel_rfl)
def c31_9:Code:=.cond (.tmp 46) c31_10 .skip
theorem e31_9:evK gS fi31 c31_9 fr st k=condK gS fi31 (fr.op (.tmp 46)).bool? c31_10 .skip fr st k:=rfl
def c31_7:Code:=.seq c31_8 c31_9
theorem e31_7:evK gS fi31 c31_7 fr st k=evK gS fi31 c31_8 fr st (.seq c31_9 k):=rfl
def c31_22:Code:=.cond (.tmp 50) .skip (.exit 0)
theorem e31_22:evK gS fi31 c31_22 fr st k=condK gS fi31 (fr.op (.tmp 50)).bool? .skip (.exit 0) fr st k:=rfl
def c31_20:Code:=.seq (codeN b31 1071) c31_22
theorem e31_20:evK gS fi31 c31_20 fr st k=opsR gS fi31 [mv 47 7 3,
 mv 48 5 28,
 len1 49 48 28 3,
 bop 50 .lss 3 47 49 3 4] fr st (.seq c31_22 k):=evK_rs 6 rfl (by kernel_rfl)
def r31_29:Array Oper:=regOps (codeN (codeOf Try.f31) 8495)
def c31_29:Code:=.region 8 r31_29 true
def q31_29:List (Oper × Fl):=[(mv 53 5 28,qz0),
 (mv 54 7 3,qz0),
 (ixa 55 28 53 54 0,qz0),
 (ld 56 27 55 27,qz0),
 (op1 57 (.convert 27 9 (.tmp 56)) 9,qz0),
 (mv 58 6 28,qz0),
 (mv 59 7 3,qz3),
 (ixa 60 28 58 59 0,qz3),
 (ld 61 27 60 27,qz3),
 (op1 62 (.convert 27 9 (.tmp 61)) 9,qz3),
 (bop 63 .neq 9 57 62 9 4,qz5)]
theorem e31_29:evK gS fi31 c31_29 fr st k=drwR gS fi31 r31_29 q31_29 fr st k:=evK_dr 8 rfl (by kernel_rfl) (by kernel_rfl)
def c31_31:Code:=.seq (codeN b31 37167) .ret
theorem e31_31:evK gS fi31 c31_31 fr st k=opsR gS fi31 [qA 4 false 4] fr st (.seq .ret k):=evK_rs 9 rfl (by kernel_rfl)
def c31_30:Code:=.cond (.tmp 63) c31_31 .skip
theorem e31_30:evK gS fi31 c31_30 fr st k=condK gS fi31 (fr.op (.tmp 63)).bool? c31_31 .skip fr st k:=rfl
def c31_28:Code:=.seq c31_29 c31_30
theorem e31_28:evK gS fi31 c31_28 fr st k=evK gS fi31 c31_29 fr st (.seq c31_30 k):=rfl
def r31_35:Array Oper:=regOps (codeN (codeOf Try.f31) 6447)
def c31_35:Code:=.region 10 r31_35 true
def q31_35:List (Oper × Fl):=[(mv 64 0 35,qz2),
 (mv 65 1 3,qz2),
 (op1 66 (.binOp .sub 3 (.const (.int .i64 1)) (.tmp 65) 3) 3,qz2),
 (mv 67 0 35,qz2),
 (mv 68 1 3,qz0),
 (op1 69 (.binOp .sub 3 (.const (.int .i64 1)) (.tmp 68) 3) 3,qz0),
 (op1 70 (.nilCheck (.tmp 67)) 0,qz0),
 (qF 71 50 70 2 0,qz0),
 (ixa 72 47 71 69 0,qz0),
 (ld 73 28 72 28,qz0),
 (op1 74 (.buildSlice 27 0 #[]) 27,qz0),
 (mv 75 5 28,qz0),
 (mv 76 7 3,qz0),
 (ixa 77 28 75 76 0,qz0),
 (ld 78 27 77 27,qz0),
 (qE 79 74 78 27 27,qz1),
 (qS 80 28 79 28,qz0),
 (qE 81 73 80 28 28,qz8),
 (op1 82 (.nilCheck (.tmp 64)) 0,qz9),
 (qF 83 50 82 2 0,qz9),
 (ixa 84 47 83 66 0,qz5),
 (sto 28 84 81,qz4)]
theorem e31_35:evK gS fi31 c31_35 fr st k=drwR gS fi31 r31_35 q31_35 fr st k:=evK_dr 10 rfl (by kernel_rfl) (by kernel_rfl)
def c31_27:Code:=.seq c31_28 c31_35
theorem e31_27:evK gS fi31 c31_27 fr st k=evK gS fi31 c31_28 fr st (.seq c31_35 k):=rfl
def c31_36:Code:=codeN b31 1839
theorem e31_36:evK gS fi31 c31_36 fr st k=opsR gS fi31 [mv 51 7 3,
 qB 52 .add 3 51 1 3 3,
 asn 7 52 3] fr st k:=evK_r 7 (by kernel_rfl)
def c31_25:Code:=.seq (.block 1 c31_27) c31_36
theorem e31_25:evK gS fi31 c31_25 fr st k=evK gS fi31 c31_27 fr st (.blk 1 (.seq c31_36 k)):=rfl
def c31_19:Code:=.seq c31_20 c31_25
theorem e31_19:evK gS fi31 c31_19 fr st k=evK gS fi31 c31_20 fr st (.seq c31_25 k):=rfl
def c31_18:Code:=.loop c31_19
def c31_17:Code:=.block 0 c31_18
theorem e31_17:evK gS fi31 c31_17 fr st k=evK gS fi31 c31_18 fr st (.blk 0 k):=rfl
def c31_15:Code:=.seq (codeN b31 79) c31_17
theorem e31_15:evK gS fi31 c31_15 fr st k=opsR gS fi31 [qI 7 0 3] fr st (.seq c31_17 k):=evK_rs 5 rfl (by kernel_rfl)
def c31_37:Code:=.seq (codeN b31 95) .ret
theorem e31_37:evK gS fi31 c31_37 fr st k=opsR gS fi31 [qA 4 true 4] fr st (.seq .ret k):=evK_rs 11 rfl (by kernel_rfl)
def c31_14:Code:=.seq c31_15 c31_37
theorem e31_14:evK gS fi31 c31_14 fr st k=evK gS fi31 c31_15 fr st (.seq c31_37 k):=rfl
def c31_6:Code:=.seq c31_7 c31_14
theorem e31_6:evK gS fi31 c31_6 fr st k=evK gS fi31 c31_7 fr st (.seq c31_14 k):=rfl
def c31_4:Code:=.seq (codeN b31 11) c31_6
theorem e31_4:evK gS fi31 c31_4 fr st k=opsR gS fi31 [mv 15 0 35,
 mv 16 1 3,
 op1 17 (.nilCheck (.tmp 15)) 0,
 qF 18 50 17 1 0,
 ixa 19 46 18 16 0,
 ld 20 45 19 45,
 cal 21 37 [(.tmp 20)] [45] 28,
 asn 6 21 28] fr st (.seq c31_6 k):=evK_rs 2 rfl (by kernel_rfl)
def c31_2:Code:=.seq (codeN b31 5) c31_4
theorem e31_2:evK gS fi31 c31_2 fr st k=opsR gS fi31 [mv 8 0 35,
 mv 9 1 3,
 op1 10 (.nilCheck (.tmp 8)) 0,
 qF 11 50 10 0 0,
 ixa 12 44 11 9 0,
 ld 13 22 12 22,
 cal 14 10 [(.tmp 13)] [22] 28,
 asn 5 14 28] fr st (.seq c31_4 k):=evK_rs 1 rfl (by kernel_rfl)
def c31_0:Code:=.seq (codeN b31 2) c31_2
theorem e31_0:evK gS fi31 c31_0 fr st k=opsR gS fi31 [qA 4 false 4] fr st (.seq c31_2 k):=evK_rs 0 rfl (by kernel_rfl)
theorem m31:mini fi31.body=c31_0:=by kernel_rfl
theorem n31_18 (fr:Fr)(st:St)(k:Kt):nextK gS fi31 (.loop c31_19 k) .normal fr st=evK gS fi31 c31_18 fr st k:=rfl
theorem L31_0 (w z:Nat)(P Q:Nat→LE)(v4 v6 v7 v8 v9:V)(kO:Nat)(O:List (List UInt8))(hO:O.length≤200000)(hOl:∀ f∈O,f.length≤1000000):∀ (m q k:Nat) (to:List (List UInt8)) (S:St),Net S w z [.ptr 1 0,.ptr 3 0,.ptr 2 0,.ptr 4 0,v4,.osl k (encFs to),v6,v7,v8,v9] P Q→q+m=O.length→k≤1→to.length+m≤1000000 →
  ∃ S' k',k'≤1∧Net S' w z [.ptr 1 0,.ptr 3 0,.ptr 2 0,.ptr 4 0,v4,.osl k' (encFs (to ++ O.drop q)),v6,v7,v8,v9] P Q∧∀ T,evK gS fi31 c31_18 {ps:=[(0,.val (.ptr 0 0)),(1,.val (.int .i64 0)),(4,.val (.bool false)),(5,.own kO (encFs O)),(6,.own kO (encFs O)),(7,.val (.int .i64 (q:Nat)))],ts:=T,lc:=[]} S (.blk 0 (.seq c31_37 .nil))=some (.ret (.bool true) none,S'):=by
 intro m
 have bo1:borOk r31_29 0 5 53=false:=by kernel_rfl
 have bo2:borOk r31_29 5 6 58=false:=by kernel_rfl
 have bo3:borOk r31_35 11 5 75=false:=by kernel_rfl
 induction m with
 | zero =>
  intro q k to S N hq hk hto
  obtain rfl:q=O.length:=by omega
  refine ⟨S,k,hk,by rw [List.drop_length,List.append_nil];exact N,fun T=>evK_loop c31_19 _ _ _ _ rfl ?_⟩
  simp (config:={implicitDefEqProofs:=false}) [-zia,-St.obj,-St.set,-zil,-zit,-znl,-znt,ty3,ty4,ty9,ty22,ty27,ty28,ty35,ty44,ty45,ty46,ty47,ty50,ty73,H31,x11,fi11_eq,p11,e31_8,q31_8,e31_10,e31_9,e31_7,e31_22,e31_20,e31_29,q31_29,e31_31,e31_30,e31_28,e31_35,q31_35,e31_27,e31_36,e31_25,e31_19,e31_17,e31_15,e31_37,e31_14,e31_6,e31_4,e31_2,e31_0,n31_18]
 | succ m ih =>
  intro q k to S N hq hk hto
  have hlt:q<O.length:=by omega
  have hlti:(q:Int)<(O.length:Int):=by omega
  obtain ⟨f,hf⟩:∃ f,O[q]?=some f:=⟨O[q],zge hlt⟩
  obtain ⟨_,hfe⟩:=List.getElem?_eq_some_iff.1 hf
  have hff:=hOl f (zmg hf)
  obtain ⟨S1,h1,N1⟩:=N.hold [.ptr 1 0,.ptr 3 0,.ptr 2 0,.ptr 4 0,v4,.slice (encFs to),v6,v7,v8,v9]
  obtain ⟨S2,h2,N2⟩:=N1.hold [.ptr 1 0,.ptr 3 0,.ptr 2 0,.ptr 4 0,v4,.osl 1 (encFs (to ++ [f])),v6,v7,v8,v9]
  have o0:=N.o
  have o1:=N1.o
  obtain ⟨S',k',hk',N',H⟩:=ih (q+1) 1 (to ++ [f]) S2 N2 (by omega) (by omega) (by simp;omega)
  rw [take_two hf] at N'
  have hw  := qws q (by omega)
  have hs1:=sizes_fs to
  have hs2:=fs_snoc to f
  have hs3:=sizes_bytes f
  have b1:(to.length+1)*24≤140737488355328:=by omega
  have b2:to.length+1≤140737488355328:=by omega
  have b3:f.length≤140737488355328:=by omega
  have hkk:k=0∨k=1:=by omega
  have hbo:=bytes_of f
  refine ⟨S',k',hk',N',fun T=>evK_loop c31_19 _ _ _ _ rfl ?_⟩
  simp (config:={implicitDefEqProofs:=false}) [-zia,-zaa,-St.obj,-St.set,hlt,hlti,hf,hfe,o0,o1,h1,h2,hw,hs1,hs2,hs3,b1,b2,b3,hkk,hbo,bo1,bo2,bo3,u8_27,w64_0,w64_1,-zil,-zit,-znl,-znt,ty3,ty4,ty9,ty22,ty27,ty28,ty35,ty44,ty45,ty46,ty47,ty50,ty73,H31,x11,fi11_eq,p11,e31_8,q31_8,e31_10,e31_9,e31_7,e31_22,e31_20,e31_29,q31_29,e31_31,e31_30,e31_28,e31_35,q31_35,e31_27,e31_36,e31_25,e31_19,e31_17,e31_15,e31_37,e31_14,e31_6,e31_4,e31_2,e31_0,n31_18]
  with_reducible exact H _
theorem L31_1 (w z:Nat)(P Q:Nat→LE)(v4 v6 v7 v8 v9:V)(kO:Nat)(O:List (List UInt8))(hO:O.length≤200000)(hOl:∀ f∈O,f.length≤1000000):∀ (m q k:Nat) (to:List (List UInt8)) (S:St),Net S w z [.ptr 1 0,.ptr 3 0,.ptr 2 0,.ptr 4 0,.osl k (encFs to),v4,v6,v7,v8,v9] P Q→q+m=O.length→k≤1→to.length+m≤1000000 →
  ∃ S' k',k'≤1∧Net S' w z [.ptr 1 0,.ptr 3 0,.ptr 2 0,.ptr 4 0,.osl k' (encFs (to ++ O.drop q)),v4,v6,v7,v8,v9] P Q∧∀ T,evK gS fi31 c31_18 {ps:=[(0,.val (.ptr 0 0)),(1,.val (.int .i64 1)),(4,.val (.bool false)),(5,.own kO (encFs O)),(6,.own kO (encFs O)),(7,.val (.int .i64 (q:Nat)))],ts:=T,lc:=[]} S (.blk 0 (.seq c31_37 .nil))=some (.ret (.bool true) none,S'):=by
 intro m
 have bo1:borOk r31_29 0 5 53=false:=by kernel_rfl
 have bo2:borOk r31_29 5 6 58=false:=by kernel_rfl
 have bo3:borOk r31_35 11 5 75=false:=by kernel_rfl
 induction m with
 | zero =>
  intro q k to S N hq hk hto
  obtain rfl:q=O.length:=by omega
  refine ⟨S,k,hk,by rw [List.drop_length,List.append_nil];exact N,fun T=>evK_loop c31_19 _ _ _ _ rfl ?_⟩
  simp (config:={implicitDefEqProofs:=false}) [-zia,-St.obj,-St.set,-zil,-zit,-znl,-znt,ty3,ty4,ty9,ty22,ty27,ty28,ty35,ty44,ty45,ty46,ty47,ty50,ty73,H31,x11,fi11_eq,p11,e31_8,q31_8,e31_10,e31_9,e31_7,e31_22,e31_20,e31_29,q31_29,e31_31,e31_30,e31_28,e31_35,q31_35,e31_27,e31_36,e31_25,e31_19,e31_17,e31_15,e31_37,e31_14,e31_6,e31_4,e31_2,e31_0,n31_18]
 | succ m ih =>
  intro q k to S N hq hk hto
  have hlt:q<O.length:=by omega
  have hlti:(q:Int)<(O.length:Int):=by omega
  obtain ⟨f,hf⟩:∃ f,O[q]?=some f:=⟨O[q],zge hlt⟩
  obtain ⟨_,hfe⟩:=List.getElem?_eq_some_iff.1 hf
  have hff:=hOl f (zmg hf)
  obtain ⟨S1,h1,N1⟩:=N.hold [.ptr 1 0,.ptr 3 0,.ptr 2 0,.ptr 4 0,.slice (encFs to),v4,v6,v7,v8,v9]
  obtain ⟨S2,h2,N2⟩:=N1.hold [.ptr 1 0,.ptr 3 0,.ptr 2 0,.ptr 4 0,.osl 1 (encFs (to ++ [f])),v4,v6,v7,v8,v9]
  have o0:=N.o
  have o1:=N1.o
  obtain ⟨S',k',hk',N',H⟩:=ih (q+1) 1 (to ++ [f]) S2 N2 (by omega) (by omega) (by simp;omega)
  rw [take_two hf] at N'
  have hw  := qws q (by omega)
  have hs1:=sizes_fs to
  have hs2:=fs_snoc to f
  have hs3:=sizes_bytes f
  have b1:(to.length+1)*24≤140737488355328:=by omega
  have b2:to.length+1≤140737488355328:=by omega
  have b3:f.length≤140737488355328:=by omega
  have hkk:k=0∨k=1:=by omega
  have hbo:=bytes_of f
  refine ⟨S',k',hk',N',fun T=>evK_loop c31_19 _ _ _ _ rfl ?_⟩
  simp (config:={implicitDefEqProofs:=false}) [-zia,-zaa,-St.obj,-St.set,hlt,hlti,hf,hfe,o0,o1,h1,h2,hw,hs1,hs2,hs3,b1,b2,b3,hkk,hbo,bo1,bo2,bo3,u8_27,w64_0,w64_1,-zil,-zit,-znl,-znt,ty3,ty4,ty9,ty22,ty27,ty28,ty35,ty44,ty45,ty46,ty47,ty50,ty73,H31,x11,fi11_eq,p11,e31_8,q31_8,e31_10,e31_9,e31_7,e31_22,e31_20,e31_29,q31_29,e31_31,e31_30,e31_28,e31_35,q31_35,e31_27,e31_36,e31_25,e31_19,e31_17,e31_15,e31_37,e31_14,e31_6,e31_4,e31_2,e31_0,n31_18]
  with_reducible exact H _
theorem O31_0 (S:St)(w z:Nat)(P Q:Nat→LE)(v4 v6 v7 v8 v9:V)(k:Nat)(to:List (List UInt8))(c:Nat)(hc:c≤60000)(N:Net S w z [.ptr 1 0,.ptr 3 0,.ptr 2 0,.ptr 4 0,v4,.osl k (encFs to),v6,v7,v8,v9] P Q)(hP:(P 0).Ok c)(hQ:(Q 0).Ok c)(hE:(P 0).Eqv (Q 0))(hk:k≤1)(hto:to.length≤800000) :
  ∃ S' k',k'≤1∧Net S' w z [.ptr 1 0,.ptr 3 0,.ptr 2 0,.ptr 4 0,v4,.osl k' (encFs (to ++ (P 0).outs w)),v6,v7,v8,v9] (upd P 0 ((P 0).out w)) (upd Q 0 ((Q 0).out w))∧EvF gS 31 [.ptr 0 0,.int .i64 0] S=some (.ret (.bool true) none,S'):=by
 obtain ⟨S1,N1,g1⟩:=P_out N (i:=0) (by omega) hc hP
 obtain ⟨S2,N2,g2⟩:=Q_out N1 (i:=0) (by omega) hc hQ
 have g1':∀ fr,callStep gS (EvF gS) 10 [.ptr 1 0] fr S=_:=g1
 have g2':∀ fr,callStep gS (EvF gS) 37 [.ptr 2 0] fr S1=_:=g2
 have g3:=fun fr=>P_rows N2 (i:=0) (by omega) fr
 have g3':∀ fr,callStep gS (EvF gS) 11 [.ptr 1 0] fr S2=_:=g3
 rw [upd_self] at g3'
 have o0:=N.o
 have o1:=N1.o
 have o2:=N2.o
 have of:=N2.f 0 (by omega)
 rw [upd_self] at of
 have of':St.obj S2 2=some (((Q 0).out w).ref w z):=of
 have hfl:((P 0).out w).fs.length=((Q 0).out w).fs.length:=by show (P 0).fs.length=(Q 0).fs.length;rw [hE.fs]
 rw [hfl] at g3'
 rw [← hE.outs w] at g2'
 obtain ⟨hol,hof⟩:=outs_le (w:=w) hP
 obtain ⟨S',k',hk',N',H⟩:=L31_0 w z _ _ v4 v6 v7 v8 v9 (ko ((P 0).outs w)) ((P 0).outs w) (by omega) (fun f hf=>Nat.le_trans (hof f hf) (by omega)) ((P 0).outs w).length 0 k to S2 N2 (Nat.zero_add _) hk (by omega)
 rw [List.drop_zero] at N'
 rw [show ((0:Nat):Int)=0 from rfl] at H
 refine ⟨S',k',hk',N',?_⟩
 refine EvF_start fi31_eq (fun x h=>by cases h <;> decide) m31 ?_
 rw [st31]
 unfold LE.ref refC at of'
 have bo1:borOk r31_8 0 5 22=false:=by kernel_rfl
 have bo2:borOk r31_8 2 6 24=false:=by kernel_rfl
 have hke:=ko_enc ((P 0).outs w)
 generalize ((Q 0).out w).fs=FS at *
 generalize (P 0).outs w=O at *
 simp (config:={implicitDefEqProofs:=false}) [-zia,-St.obj,-St.set,g1',g2',g3',o0,o1,o2,of',bo1,bo2,hke,-zil,-zit,-znl,-znt,ty3,ty4,ty9,ty22,ty27,ty28,ty35,ty44,ty45,ty46,ty47,ty50,ty73,H31,x11,fi11_eq,p11,e31_8,q31_8,e31_10,e31_9,e31_7,e31_22,e31_20,e31_29,q31_29,e31_31,e31_30,e31_28,e31_35,q31_35,e31_27,e31_36,e31_25,e31_19,e31_17,e31_15,e31_37,e31_14,e31_6,e31_4,e31_2,e31_0,n31_18]
 with_reducible exact H _
theorem k31_0 (S:St)(w z:Nat)(P Q:Nat→LE)(v4 v6 v7 v8 v9:V)(k:Nat)(to:List (List UInt8))(c:Nat)(hc:c≤60000)(N:Net S w z [.ptr 1 0,.ptr 3 0,.ptr 2 0,.ptr 4 0,v4,.osl k (encFs to),v6,v7,v8,v9] P Q)(hP:(P 0).Ok c)(hQ:(Q 0).Ok c)(hE:(P 0).Eqv (Q 0))(hk:k≤1)(hto:to.length≤800000) :
  ∃ S' k',k'≤1∧Net S' w z [.ptr 1 0,.ptr 3 0,.ptr 2 0,.ptr 4 0,v4,.osl k' (encFs (to ++ (P 0).outs w)),v6,v7,v8,v9] (upd P 0 ((P 0).out w)) (upd Q 0 ((Q 0).out w))∧∀ fr,callStep gS (EvF gS) 31 [.ptr 0 0,.int .i64 0] fr S=some (.ok (.val (.bool true)) (fr.map E.noMem) S'):=by
 obtain ⟨S',k',h1,h2,h3⟩:=O31_0 S w z P Q v4 v6 v7 v8 v9 k to c hc N hP hQ hE hk hto
 exact ⟨S',k',h1,h2,fun fr=>call_np rfl fi31_eq rfl h3 fr⟩
theorem O31_1 (S:St)(w z:Nat)(P Q:Nat→LE)(v4 v6 v7 v8 v9:V)(k:Nat)(to:List (List UInt8))(c:Nat)(hc:c≤60000)(N:Net S w z [.ptr 1 0,.ptr 3 0,.ptr 2 0,.ptr 4 0,.osl k (encFs to),v4,v6,v7,v8,v9] P Q)(hP:(P 1).Ok c)(hQ:(Q 1).Ok c)(hE:(P 1).Eqv (Q 1))(hk:k≤1)(hto:to.length≤800000) :
  ∃ S' k',k'≤1∧Net S' w z [.ptr 1 0,.ptr 3 0,.ptr 2 0,.ptr 4 0,.osl k' (encFs (to ++ (P 1).outs w)),v4,v6,v7,v8,v9] (upd P 1 ((P 1).out w)) (upd Q 1 ((Q 1).out w))∧EvF gS 31 [.ptr 0 0,.int .i64 1] S=some (.ret (.bool true) none,S'):=by
 obtain ⟨S1,N1,g1⟩:=P_out N (i:=1) (by omega) hc hP
 obtain ⟨S2,N2,g2⟩:=Q_out N1 (i:=1) (by omega) hc hQ
 have g1':∀ fr,callStep gS (EvF gS) 10 [.ptr 3 0] fr S=_:=g1
 have g2':∀ fr,callStep gS (EvF gS) 37 [.ptr 4 0] fr S1=_:=g2
 have g3:=fun fr=>P_rows N2 (i:=1) (by omega) fr
 have g3':∀ fr,callStep gS (EvF gS) 11 [.ptr 3 0] fr S2=_:=g3
 rw [upd_self] at g3'
 have o0:=N.o
 have o1:=N1.o
 have o2:=N2.o
 have of:=N2.f 1 (by omega)
 rw [upd_self] at of
 have of':St.obj S2 4=some (((Q 1).out w).ref w z):=of
 have hfl:((P 1).out w).fs.length=((Q 1).out w).fs.length:=by show (P 1).fs.length=(Q 1).fs.length;rw [hE.fs]
 rw [hfl] at g3'
 rw [← hE.outs w] at g2'
 obtain ⟨hol,hof⟩:=outs_le (w:=w) hP
 obtain ⟨S',k',hk',N',H⟩:=L31_1 w z _ _ v4 v6 v7 v8 v9 (ko ((P 1).outs w)) ((P 1).outs w) (by omega) (fun f hf=>Nat.le_trans (hof f hf) (by omega)) ((P 1).outs w).length 0 k to S2 N2 (Nat.zero_add _) hk (by omega)
 rw [List.drop_zero] at N'
 rw [show ((0:Nat):Int)=0 from rfl] at H
 refine ⟨S',k',hk',N',?_⟩
 refine EvF_start fi31_eq (fun x h=>by cases h <;> decide) m31 ?_
 rw [st31]
 unfold LE.ref refC at of'
 have bo1:borOk r31_8 0 5 22=false:=by kernel_rfl
 have bo2:borOk r31_8 2 6 24=false:=by kernel_rfl
 have hke:=ko_enc ((P 1).outs w)
 generalize ((Q 1).out w).fs=FS at *
 generalize (P 1).outs w=O at *
 simp (config:={implicitDefEqProofs:=false}) [-zia,-St.obj,-St.set,g1',g2',g3',o0,o1,o2,of',bo1,bo2,hke,-zil,-zit,-znl,-znt,ty3,ty4,ty9,ty22,ty27,ty28,ty35,ty44,ty45,ty46,ty47,ty50,ty73,H31,x11,fi11_eq,p11,e31_8,q31_8,e31_10,e31_9,e31_7,e31_22,e31_20,e31_29,q31_29,e31_31,e31_30,e31_28,e31_35,q31_35,e31_27,e31_36,e31_25,e31_19,e31_17,e31_15,e31_37,e31_14,e31_6,e31_4,e31_2,e31_0,n31_18]
 with_reducible exact H _
theorem k31_1 (S:St)(w z:Nat)(P Q:Nat→LE)(v4 v6 v7 v8 v9:V)(k:Nat)(to:List (List UInt8))(c:Nat)(hc:c≤60000)(N:Net S w z [.ptr 1 0,.ptr 3 0,.ptr 2 0,.ptr 4 0,.osl k (encFs to),v4,v6,v7,v8,v9] P Q)(hP:(P 1).Ok c)(hQ:(Q 1).Ok c)(hE:(P 1).Eqv (Q 1))(hk:k≤1)(hto:to.length≤800000) :
  ∃ S' k',k'≤1∧Net S' w z [.ptr 1 0,.ptr 3 0,.ptr 2 0,.ptr 4 0,.osl k' (encFs (to ++ (P 1).outs w)),v4,v6,v7,v8,v9] (upd P 1 ((P 1).out w)) (upd Q 1 ((Q 1).out w))∧∀ fr,callStep gS (EvF gS) 31 [.ptr 0 0,.int .i64 1] fr S=some (.ok (.val (.bool true)) (fr.map E.noMem) S'):=by
 obtain ⟨S',k',h1,h2,h3⟩:=O31_1 S w z P Q v4 v6 v7 v8 v9 k to c hc N hP hQ hE hk hto
 exact ⟨S',k',h1,h2,fun fr=>call_np rfl fi31_eq rfl h3 fr⟩
end
end Go.Proofs.Ytebjpgoadapabaa
namespace Go.Ab
open Go
theorem take_fs (l:List (List UInt8))(n:Nat):(encFs l).take n=encFs (l.take n):=by simp [encFs]
end Go.Ab
namespace Go.Proofs.Ytebjpgoadapabaa
open Go Go.Ab
noncomputable section
variable (fr:Fr)(st:St)(k:Kt)
def fi30:FI:={body:=codeOf Try.f30,ntmps:=43,results:=[.tmp 6],pers:=[0,1,2,6,7],locals:=[],pure:=false,marks:=[]}
theorem H30:fi30.marks=[]∧fi30.locals=[]∧fi30.results=[.tmp 6]:=⟨rfl,rfl,rfl⟩
theorem fi30_eq:gS.fn 30=some fi30:=by kernel_rfl
theorem st30 (a0 a1 a2:V):startFr fi30 [a0,a1,a2]={ps:=[(0,.val a0),(1,.val a1),(2,.val a2),(6,.any),(7,.any)],ts:=[],lc:=[]}:=rfl
def b30:Code:=mini (codeOf Try.f30)
def r30_5:Array Oper:=regOps (codeN (codeOf Try.f30) 11)
def c30_5:Code:=.region 2 r30_5 true
def q30_5:List (Oper × Fl):=[(mv 17 0 35,qz2),
 (mv 18 1 3,qz2),
 (op1 19 (.buildSlice 28 0 #[]) 28,qz0),
 (mv 20 0 35,qz2),
 (mv 21 1 3,qz2),
 (op1 22 (.nilCheck (.tmp 20)) 0,qz2),
 (qF 23 50 22 2 0,qz2),
 (ixa 24 47 23 21 0,qz0),
 (ld 25 28 24 28,qz0),
 (mv 26 2 3,qz0),
 (op1 27 (.slice 28 (.tmp 25) none (some (.tmp 26)) none) 28,qz0),
 (qE 28 19 27 28 28,qz8),
 (mv 29 0 35,qz2),
 (mv 30 1 3,qz2),
 (op1 31 (.nilCheck (.tmp 29)) 0,qz2),
 (qF 32 50 31 2 0,qz2),
 (ixa 33 47 32 30 0,qz2),
 (ld 34 28 33 28,qz2),
 (mv 35 2 3,qz2),
 (qB 36 .add 3 35 1 3 3,qz2),
 (op1 37 (.slice 28 (.tmp 34) (some (.tmp 36)) none none) 28,qz2),
 (qE 38 28 37 28 28,qz8),
 (op1 39 (.nilCheck (.tmp 17)) 0,qz9),
 (qF 40 50 39 2 0,qz9),
 (ixa 41 47 40 18 0,qz5),
 (sto 28 41 38,qz4)]
theorem e30_5:evK gS fi30 c30_5 fr st k=drwR gS fi30 r30_5 q30_5 fr st k:=evK_dr 2 rfl (by kernel_rfl) (by kernel_rfl)
def c30_6:Code:=.seq (codeN b30 23) .ret
theorem e30_6:evK gS fi30 c30_6 fr st k=opsR gS fi30 [mv 42 7 27,
 asn 6 42 27] fr st (.seq .ret k):=evK_rs 3 rfl (by kernel_rfl)
def c30_4:Code:=.seq c30_5 c30_6
theorem e30_4:evK gS fi30 c30_4 fr st k=evK gS fi30 c30_5 fr st (.seq c30_6 k):=rfl
def c30_2:Code:=.seq (codeN b30 5) c30_4
theorem e30_2:evK gS fi30 c30_2 fr st k=opsR gS fi30 [mv 8 0 35,
 mv 9 1 3,
 op1 10 (.nilCheck (.tmp 8)) 0,
 qF 11 50 10 2 0,
 ixa 12 47 11 9 0,
 ld 13 28 12 28,
 mv 14 2 3,
 ixa 15 28 13 14 0,
 ld 16 27 15 27,
 asn 7 16 27] fr st (.seq c30_4 k):=evK_rs 1 rfl (by kernel_rfl)
def c30_0:Code:=.seq (codeN b30 2) c30_2
theorem e30_0:evK gS fi30 c30_0 fr st k=opsR gS fi30 [qN 6 27] fr st (.seq c30_2 k):=evK_rs 0 rfl (by kernel_rfl)
theorem m30:mini fi30.body=c30_0:=by kernel_rfl
theorem O30_0 (S:St)(w z:Nat)(P Q:Nat→LE)(v4 v6 v7 v8 v9:V)(k:Nat)(to:List (List UInt8))(N:Net S w z [.ptr 1 0,.ptr 3 0,.ptr 2 0,.ptr 4 0,.osl k (encFs to),v4,v6,v7,v8,v9] P Q)(j:Nat)(b:List UInt8)(hb:to[j]?=some b)(hto:to.length≤800000) :
  ∃ S',Net S' w z [.ptr 1 0,.ptr 3 0,.ptr 2 0,.ptr 4 0,.osl 1 (encFs (to.take j ++ to.drop (j+1))),v4,v6,v7,v8,v9] P Q∧EvF gS 30 [.ptr 0 0,.int .i64 0,.int .i64 (j:Int)] S=some (.ret (.slice (byteVs b)) none,S'):=by
 obtain ⟨S1,h1,N1⟩:=N.hold [.ptr 1 0,.ptr 3 0,.ptr 2 0,.ptr 4 0,.osl 1 (encFs (to.take j ++ to.drop (j+1))),v4,v6,v7,v8,v9]
 refine ⟨S1,N1,?_⟩
 refine EvF_start fi30_eq (fun x h=>by cases h <;> decide) m30 ?_
 rw [st30]
 have o0:=N.o
 obtain ⟨hj,hbe⟩:=List.getElem?_eq_some_iff.1 hb
 have hji:(j:Int)<(to.length:Int):=by omega
 have hjl:j≤to.length:=by omega
 have hjli:(j:Int)≤(to.length:Int):=by omega
 have hj1:((j+1:Nat):Int)≤(to.length:Int):=by omega
 have hj1n:j+1≤to.length:=by omega
 have hw  := qws j (by omega)
 have t1:=take_fs to j
 have t2:=drop_fs to (j+1)
 have t3:=sizes_fs to
 have t4:=sizes_fs (to.take j)
 have t5:=sizes_fs (to.drop (j+1))
 have t6:(encFs to).take to.length=encFs to:=by rw [← encFs_length to,List.take_length]
 have t7:=fs_app (to.take j) (to.drop (j+1))
 have l1:(to.take j).length=j:=by rw [List.length_take];omega
 have l2:(to.drop (j+1)).length=to.length - (j+1):=List.length_drop
 have l3:=encFs_length (to.take j)
 have l4:=encFs_length (to.drop (j+1))
 rw [l1] at l3
 rw [l2] at l4
 have b1:j*24≤140737488355328:=by omega
 have b2:j≤140737488355328:=by omega
 have b3:(j+(to.length - (j+1)))*24≤140737488355328:=by omega
 have b4:j+(to.length - (j+1))≤140737488355328:=by omega
 rw [← t7] at h1
 generalize encFs (to.take j)=EA at *
 generalize encFs (to.drop (j+1))=EB at *
 simp (config:={implicitDefEqProofs:=false}) [-zia,-St.obj,-St.set,-List.map_take,-List.map_drop,-List.take_length,o0,h1,hb,hbe,hj,hji,hjl,hjli,hj1,hj1n,hw,t1,t2,t3,t4,t5,t6,l3,l4,b1,b2,b3,b4,-zil,-zit,-znl,-znt,ty3,ty27,ty28,ty35,ty47,ty50,H30,e30_5,q30_5,e30_6,e30_4,e30_2,e30_0]
theorem k30_0 (S:St)(w z:Nat)(P Q:Nat→LE)(v4 v6 v7 v8 v9:V)(k:Nat)(to:List (List UInt8))(N:Net S w z [.ptr 1 0,.ptr 3 0,.ptr 2 0,.ptr 4 0,.osl k (encFs to),v4,v6,v7,v8,v9] P Q)(j:Nat)(b:List UInt8)(hb:to[j]?=some b)(hto:to.length≤800000) :
  ∃ S',Net S' w z [.ptr 1 0,.ptr 3 0,.ptr 2 0,.ptr 4 0,.osl 1 (encFs (to.take j ++ to.drop (j+1))),v4,v6,v7,v8,v9] P Q∧∀ fr,callStep gS (EvF gS) 30 [.ptr 0 0,.int .i64 0,.int .i64 (j:Int)] fr S=some (.ok (.val (.slice (byteVs b))) (fr.map E.noMem) S'):=by
 obtain ⟨S',h1,h2⟩:=O30_0 S w z P Q v4 v6 v7 v8 v9 k to N j b hb hto
 exact ⟨S',h1,fun fr=>call_np rfl fi30_eq rfl h2 fr⟩
theorem O30_1 (S:St)(w z:Nat)(P Q:Nat→LE)(v4 v6 v7 v8 v9:V)(k:Nat)(to:List (List UInt8))(N:Net S w z [.ptr 1 0,.ptr 3 0,.ptr 2 0,.ptr 4 0,v4,.osl k (encFs to),v6,v7,v8,v9] P Q)(j:Nat)(b:List UInt8)(hb:to[j]?=some b)(hto:to.length≤800000) :
  ∃ S',Net S' w z [.ptr 1 0,.ptr 3 0,.ptr 2 0,.ptr 4 0,v4,.osl 1 (encFs (to.take j ++ to.drop (j+1))),v6,v7,v8,v9] P Q∧EvF gS 30 [.ptr 0 0,.int .i64 1,.int .i64 (j:Int)] S=some (.ret (.slice (byteVs b)) none,S'):=by
 obtain ⟨S1,h1,N1⟩:=N.hold [.ptr 1 0,.ptr 3 0,.ptr 2 0,.ptr 4 0,v4,.osl 1 (encFs (to.take j ++ to.drop (j+1))),v6,v7,v8,v9]
 refine ⟨S1,N1,?_⟩
 refine EvF_start fi30_eq (fun x h=>by cases h <;> decide) m30 ?_
 rw [st30]
 have o0:=N.o
 obtain ⟨hj,hbe⟩:=List.getElem?_eq_some_iff.1 hb
 have hji:(j:Int)<(to.length:Int):=by omega
 have hjl:j≤to.length:=by omega
 have hjli:(j:Int)≤(to.length:Int):=by omega
 have hj1:((j+1:Nat):Int)≤(to.length:Int):=by omega
 have hj1n:j+1≤to.length:=by omega
 have hw  := qws j (by omega)
 have t1:=take_fs to j
 have t2:=drop_fs to (j+1)
 have t3:=sizes_fs to
 have t4:=sizes_fs (to.take j)
 have t5:=sizes_fs (to.drop (j+1))
 have t6:(encFs to).take to.length=encFs to:=by rw [← encFs_length to,List.take_length]
 have t7:=fs_app (to.take j) (to.drop (j+1))
 have l1:(to.take j).length=j:=by rw [List.length_take];omega
 have l2:(to.drop (j+1)).length=to.length - (j+1):=List.length_drop
 have l3:=encFs_length (to.take j)
 have l4:=encFs_length (to.drop (j+1))
 rw [l1] at l3
 rw [l2] at l4
 have b1:j*24≤140737488355328:=by omega
 have b2:j≤140737488355328:=by omega
 have b3:(j+(to.length - (j+1)))*24≤140737488355328:=by omega
 have b4:j+(to.length - (j+1))≤140737488355328:=by omega
 rw [← t7] at h1
 generalize encFs (to.take j)=EA at *
 generalize encFs (to.drop (j+1))=EB at *
 simp (config:={implicitDefEqProofs:=false}) [-zia,-St.obj,-St.set,-List.map_take,-List.map_drop,-List.take_length,o0,h1,hb,hbe,hj,hji,hjl,hjli,hj1,hj1n,hw,t1,t2,t3,t4,t5,t6,l3,l4,b1,b2,b3,b4,-zil,-zit,-znl,-znt,ty3,ty27,ty28,ty35,ty47,ty50,H30,e30_5,q30_5,e30_6,e30_4,e30_2,e30_0]
theorem k30_1 (S:St)(w z:Nat)(P Q:Nat→LE)(v4 v6 v7 v8 v9:V)(k:Nat)(to:List (List UInt8))(N:Net S w z [.ptr 1 0,.ptr 3 0,.ptr 2 0,.ptr 4 0,v4,.osl k (encFs to),v6,v7,v8,v9] P Q)(j:Nat)(b:List UInt8)(hb:to[j]?=some b)(hto:to.length≤800000) :
  ∃ S',Net S' w z [.ptr 1 0,.ptr 3 0,.ptr 2 0,.ptr 4 0,v4,.osl 1 (encFs (to.take j ++ to.drop (j+1))),v6,v7,v8,v9] P Q∧∀ fr,callStep gS (EvF gS) 30 [.ptr 0 0,.int .i64 1,.int .i64 (j:Int)] fr S=some (.ok (.val (.slice (byteVs b))) (fr.map E.noMem) S'):=by
 obtain ⟨S',h1,h2⟩:=O30_1 S w z P Q v4 v6 v7 v8 v9 k to N j b hb hto
 exact ⟨S',h1,fun fr=>call_np rfl fi30_eq rfl h2 fr⟩
def fi29:FI:={body:=codeOf Try.f29,ntmps:=81,results:=[.tmp 6],pers:=[0,1,2,6,7,8,9,10,11],locals:=[],pure:=false,marks:=[]}
theorem H29:fi29.marks=[]∧fi29.locals=[]∧fi29.results=[.tmp 6]:=⟨rfl,rfl,rfl⟩
theorem fi29_eq:gS.fn 29=some fi29:=by kernel_rfl
theorem st29 (a0 a1 a2:V):startFr fi29 [a0,a1,a2]={ps:=[(0,.val a0),(1,.val a1),(2,.val a2),(6,.any),(7,.any),(8,.any),(9,.any),(10,.any),(11,.any)],ts:=[],lc:=[]}:=rfl
def b29:Code:=mini (codeOf Try.f29)
def r29_3:Array Oper:=regOps (codeN (codeOf Try.f29) 5)
def c29_3:Code:=.region 1 r29_3 true
def q29_3:List (Oper × Fl):=[(mv 13 0 35,qz10),
 (mv 14 1 3,qz2),
 (op1 15 (.nilCheck (.tmp 13)) 0,qz2),
 (qF 16 50 15 0 0,qz2),
 (ixa 17 44 16 14 0,qz2),
 (ld 18 22 17 22,qz2),
 (op1 19 (.buildSlice 27 0 #[]) 27,qz0),
 (mv 20 2 27,qz3),
 (qE 21 19 20 27 27,qz4),
 (cal 22 12 [(.tmp 18),(.tmp 21)] [22,27] 31,qz4),
 (mv 12 22 31,qz3),
 (op1 23 (.extract (.tmp 12) 0) 28,qz0),
 (op1 24 (.extract (.tmp 12) 1) 23,qz0),
 (asn 7 23 28,qz3),
 (asn 8 24 23,qz5)]
theorem e29_3:evK gS fi29 c29_3 fr st k=drwR gS fi29 r29_3 q29_3 fr st k:=evK_dr 1 rfl (by kernel_rfl) (by kernel_rfl)
def c29_10:Code:=.seq (codeN b29 151) .ret
theorem e29_10:evK gS fi29 c29_10 fr st k=opsR gS fi29 [qA 6 false 4] fr st (.seq .ret k):=evK_rs 4 rfl (by kernel_rfl)
def c29_9:Code:=.cond (.tmp 45) c29_10 .skip
theorem e29_9:evK gS fi29 c29_9 fr st k=condK gS fi29 (fr.op (.tmp 45)).bool? c29_10 .skip fr st k:=rfl
def c29_7:Code:=.seq (codeN b29 39) c29_9
theorem e29_7:evK gS fi29 c29_7 fr st k=opsR gS fi29 [mv 36 8 23,
 mv 37 10 23,
 bop 38 .neq 23 36 37 23 4,
 mv 39 38 4,
 qm 40 7 28 3 false,
 qe 41 40 28 3 3 false,
 qm 42 9 28 3 false,
 qe 43 42 28 3 3 false,
 qb 44 .neq 3 41 43 3 4 3 false,
 qQ 45 39 true 44 4] fr st (.seq c29_9 k):=evK_rs 3 rfl (by kernel_rfl)
def c29_22:Code:=.cond (.tmp 49) .skip (.exit 0)
theorem e29_22:evK gS fi29 c29_22 fr st k=condK gS fi29 (fr.op (.tmp 49)).bool? .skip (.exit 0) fr st k:=rfl
def c29_20:Code:=.seq (codeN b29 1071) c29_22
theorem e29_20:evK gS fi29 c29_20 fr st k=opsR gS fi29 [mv 46 11 3,
 mv 47 7 28,
 len1 48 47 28 3,
 bop 49 .lss 3 46 48 3 4] fr st (.seq c29_22 k):=evK_rs 6 rfl (by kernel_rfl)
def r29_29:Array Oper:=regOps (codeN (codeOf Try.f29) 8495)
def c29_29:Code:=.region 8 r29_29 true
def q29_29:List (Oper × Fl):=[(mv 52 7 28,qz0),
 (mv 53 11 3,qz0),
 (ixa 54 28 52 53 0,qz0),
 (ld 55 27 54 27,qz0),
 (op1 56 (.convert 27 9 (.tmp 55)) 9,qz0),
 (mv 57 9 28,qz0),
 (mv 58 11 3,qz3),
 (ixa 59 28 57 58 0,qz3),
 (ld 60 27 59 27,qz3),
 (op1 61 (.convert 27 9 (.tmp 60)) 9,qz3),
 (bop 62 .neq 9 56 61 9 4,qz5)]
theorem e29_29:evK gS fi29 c29_29 fr st k=drwR gS fi29 r29_29 q29_29 fr st k:=evK_dr 8 rfl (by kernel_rfl) (by kernel_rfl)
def c29_31:Code:=.seq (codeN b29 37167) .ret
theorem e29_31:evK gS fi29 c29_31 fr st k=opsR gS fi29 [qA 6 false 4] fr st (.seq .ret k):=evK_rs 9 rfl (by kernel_rfl)
def c29_30:Code:=.cond (.tmp 62) c29_31 .skip
theorem e29_30:evK gS fi29 c29_30 fr st k=condK gS fi29 (fr.op (.tmp 62)).bool? c29_31 .skip fr st k:=rfl
def c29_28:Code:=.seq c29_29 c29_30
theorem e29_28:evK gS fi29 c29_28 fr st k=evK gS fi29 c29_29 fr st (.seq c29_30 k):=rfl
def r29_35:Array Oper:=regOps (codeN (codeOf Try.f29) 6447)
def c29_35:Code:=.region 10 r29_35 true
def q29_35:List (Oper × Fl):=[(mv 63 0 35,qz2),
 (mv 64 1 3,qz2),
 (mv 65 0 35,qz2),
 (mv 66 1 3,qz0),
 (op1 67 (.nilCheck (.tmp 65)) 0,qz0),
 (qF 68 50 67 4 0,qz0),
 (ixa 69 48 68 66 0,qz0),
 (ld 70 43 69 43,qz0),
 (mv 71 7 28,qz2),
 (mv 72 11 3,qz2),
 (ixa 73 28 71 72 0,qz0),
 (ld 74 27 73 27,qz0),
 (op1 75 (.convert 27 9 (.tmp 74)) 9,qz0),
 (qS 76 43 75 43,qz0),
 (qE 77 70 76 43 43,qz8),
 (op1 78 (.nilCheck (.tmp 63)) 0,qz9),
 (qF 79 50 78 4 0,qz9),
 (ixa 80 48 79 64 0,qz5),
 (sto 43 80 77,qz4)]
theorem e29_35:evK gS fi29 c29_35 fr st k=drwR gS fi29 r29_35 q29_35 fr st k:=evK_dr 10 rfl (by kernel_rfl) (by kernel_rfl)
def c29_27:Code:=.seq c29_28 c29_35
theorem e29_27:evK gS fi29 c29_27 fr st k=evK gS fi29 c29_28 fr st (.seq c29_35 k):=rfl
def c29_36:Code:=codeN b29 1839
theorem e29_36:evK gS fi29 c29_36 fr st k=opsR gS fi29 [mv 50 11 3,
 qB 51 .add 3 50 1 3 3,
 asn 11 51 3] fr st k:=evK_r 7 (by kernel_rfl)
def c29_25:Code:=.seq (.block 1 c29_27) c29_36
theorem e29_25:evK gS fi29 c29_25 fr st k=evK gS fi29 c29_27 fr st (.blk 1 (.seq c29_36 k)):=rfl
def c29_19:Code:=.seq c29_20 c29_25
theorem e29_19:evK gS fi29 c29_19 fr st k=evK gS fi29 c29_20 fr st (.seq c29_25 k):=rfl
def c29_18:Code:=.loop c29_19
def c29_17:Code:=.block 0 c29_18
theorem e29_17:evK gS fi29 c29_17 fr st k=evK gS fi29 c29_18 fr st (.blk 0 k):=rfl
def c29_15:Code:=.seq (codeN b29 79) c29_17
theorem e29_15:evK gS fi29 c29_15 fr st k=opsR gS fi29 [qI 11 0 3] fr st (.seq c29_17 k):=evK_rs 5 rfl (by kernel_rfl)
def c29_37:Code:=.seq (codeN b29 95) .ret
theorem e29_37:evK gS fi29 c29_37 fr st k=opsR gS fi29 [qA 6 true 4] fr st (.seq .ret k):=evK_rs 11 rfl (by kernel_rfl)
def c29_14:Code:=.seq c29_15 c29_37
theorem e29_14:evK gS fi29 c29_14 fr st k=evK gS fi29 c29_15 fr st (.seq c29_37 k):=rfl
def c29_6:Code:=.seq c29_7 c29_14
theorem e29_6:evK gS fi29 c29_6 fr st k=evK gS fi29 c29_7 fr st (.seq c29_14 k):=rfl
def c29_4:Code:=.seq (codeN b29 11) c29_6
theorem e29_4:evK gS fi29 c29_4 fr st k=opsR gS fi29 [mv 26 0 35,
 mv 27 1 3,
 op1 28 (.nilCheck (.tmp 26)) 0,
 qF 29 50 28 1 0,
 ixa 30 46 29 27 0,
 ld 31 45 30 45,
 mv 32 2 27,
 cal 33 36 [(.tmp 31),(.tmp 32)] [45,27] 31,
 mv 25 33 31,
 op1 34 (.extract (.tmp 25) 0) 28,
 op1 35 (.extract (.tmp 25) 1) 23,
 asn 9 34 28,
 asn 10 35 23] fr st (.seq c29_6 k):=evK_rs 2 rfl (by kernel_rfl)
def c29_2:Code:=.seq c29_3 c29_4
theorem e29_2:evK gS fi29 c29_2 fr st k=evK gS fi29 c29_3 fr st (.seq c29_4 k):=rfl
def c29_0:Code:=.seq (codeN b29 2) c29_2
theorem e29_0:evK gS fi29 c29_0 fr st k=opsR gS fi29 [qA 6 false 4] fr st (.seq c29_2 k):=evK_rs 0 rfl (by kernel_rfl)
theorem m29:mini fi29.body=c29_0:=by kernel_rfl
theorem n29_18 (fr:Fr)(st:St)(k:Kt):nextK gS fi29 (.loop c29_19 k) .normal fr st=evK gS fi29 c29_18 fr st k:=rfl
theorem L29_0 (w z:Nat)(P Q:Nat→LE)(v4 v5 v6 v7 v8:V)(er:Int)(B:List UInt8)(O:List (List UInt8))(hO:O.length≤200000):∀ (m q k:Nat) (to:List (List UInt8)) (S:St),Net S w z [.ptr 1 0,.ptr 3 0,.ptr 2 0,.ptr 4 0,v4,v5,v6,v7,.osl k (encSs to),v8] P Q→q+m=O.length→k≤1→to.length+m≤1000000 →
  ∃ S' k',k'≤1∧Net S' w z [.ptr 1 0,.ptr 3 0,.ptr 2 0,.ptr 4 0,v4,v5,v6,v7,.osl k' (encSs (to ++ O.drop q)),v8] P Q∧∀ T,evK gS fi29 c29_18 {ps:=[(0,.val (.ptr 0 0)),(1,.val (.int .i64 0)),(2,.val (.slice (byteVs B))),(6,.val (.bool false)),(7,.val (.slice (encFs O))),(8,.val (.int .i64 er)),(9,.val (.slice (encFs O))),(10,.val (.int .i64 er)),(11,.val (.int .i64 (q:Nat)))],ts:=T,lc:=[]} S (.blk 0 (.seq c29_37 .nil))=some (.ret (.bool true) none,S'):=by
 intro m
 induction m with
 | zero =>
  intro q k to S N hq hk hto
  obtain rfl:q=O.length:=by omega
  refine ⟨S,k,hk,by rw [List.drop_length,List.append_nil];exact N,fun T=>evK_loop c29_19 _ _ _ _ rfl ?_⟩
  simp (config:={implicitDefEqProofs:=false}) [-zia,-St.obj,-St.set,-zil,-zit,-znl,-znt,ty3,ty4,ty9,ty22,ty23,ty27,ty28,ty35,ty43,ty44,ty45,ty46,ty48,ty50,H29,e29_3,q29_3,e29_10,e29_9,e29_7,e29_22,e29_20,e29_29,q29_29,e29_31,e29_30,e29_28,e29_35,q29_35,e29_27,e29_36,e29_25,e29_19,e29_17,e29_15,e29_37,e29_14,e29_6,e29_4,e29_2,e29_0,n29_18]
 | succ m ih =>
  intro q k to S N hq hk hto
  have hlt:q<O.length:=by omega
  have hlti:(q:Int)<(O.length:Int):=by omega
  obtain ⟨f,hf⟩:∃ f,O[q]?=some f:=⟨O[q],zge hlt⟩
  obtain ⟨_,hfe⟩:=List.getElem?_eq_some_iff.1 hf
  obtain ⟨S1,h1,N1⟩:=N.hold [.ptr 1 0,.ptr 3 0,.ptr 2 0,.ptr 4 0,v4,v5,v6,v7,.slice (encSs to),v8]
  obtain ⟨S2,h2,N2⟩:=N1.hold [.ptr 1 0,.ptr 3 0,.ptr 2 0,.ptr 4 0,v4,v5,v6,v7,.osl 1 (encSs (to ++ [f])),v8]
  have o0:=N.o
  have o1:=N1.o
  obtain ⟨S',k',hk',N',H⟩:=ih (q+1) 1 (to ++ [f]) S2 N2 (by omega) (by omega) (by simp;omega)
  rw [take_two hf] at N'
  have hw  := qws q (by omega)
  have hs1:=sizes_ss to
  have hs2:=ss_snoc to f
  have b1:(to.length+1)*16≤140737488355328:=by omega
  have b2:to.length+1≤140737488355328:=by omega
  have hkk:k=0∨k=1:=by omega
  have hbo:=bytes_of f
  refine ⟨S',k',hk',N',fun T=>evK_loop c29_19 _ _ _ _ rfl ?_⟩
  simp (config:={implicitDefEqProofs:=false}) [-zia,-zaa,-St.obj,-St.set,hlt,hlti,hf,hfe,o0,o1,h1,h2,hw,hs1,hs2,b1,b2,hkk,hbo,u8_27,w64_0,w64_1,-zil,-zit,-znl,-znt,ty3,ty4,ty9,ty22,ty23,ty27,ty28,ty35,ty43,ty44,ty45,ty46,ty48,ty50,H29,e29_3,q29_3,e29_10,e29_9,e29_7,e29_22,e29_20,e29_29,q29_29,e29_31,e29_30,e29_28,e29_35,q29_35,e29_27,e29_36,e29_25,e29_19,e29_17,e29_15,e29_37,e29_14,e29_6,e29_4,e29_2,e29_0,n29_18]
  with_reducible exact H _
theorem O29_0 (S:St)(w z:Nat)(P Q:Nat→LE)(v4 v5 v6 v7 v8:V)(k:Nat)(to:List (List UInt8))(c:Nat)(hc:c≤60000)(N:Net S w z [.ptr 1 0,.ptr 3 0,.ptr 2 0,.ptr 4 0,v4,v5,v6,v7,.osl k (encSs to),v8] P Q)(hP:(P 0).Ok c)(hQ:(Q 0).Ok c)(hE:(P 0).Eqv (Q 0))(hk:k≤1)(hto:to.length≤800000)(B:List UInt8)(hB:B.length≤100000)(hol:((P 0).tk B).out.length≤1) :
  ∃ S' k' r,k'≤1∧Net S' w z [.ptr 1 0,.ptr 3 0,.ptr 2 0,.ptr 4 0,v4,v5,v6,v7,.osl k' (encSs (to ++ ((P 0).tk B).out)),v8] (upd P 0 ((P 0).take B r)) (upd Q 0 ((Q 0).take B 0))∧EvF gS 29 [.ptr 0 0,.int .i64 0,.slice (byteVs B)] S=some (.ret (.bool true) none,S'):=by
 obtain ⟨S1,r,N1,g1⟩:=P_take N (i:=0) (by omega) hc hP B (by omega)
 obtain ⟨S2,N2,g2⟩:=Q_take N1 (i:=0) (by omega) hc hQ B (by omega) 0
 have g1':∀ fr,callStep gS (EvF gS) 12 [.ptr 1 0,.slice (byteVs B)] fr S=_:=g1
 have g2':∀ fr,callStep gS (EvF gS) 36 [.ptr 2 0,.slice (byteVs B)] fr S1=_:=g2
 have o0:=N.o
 have o1:=N1.o
 rw [← hE.tk B] at g2'
 obtain ⟨S',k',hk',N',H⟩:=L29_0 w z _ _ v4 v5 v6 v7 v8 ((P 0).tk B).er B ((P 0).tk B).out (by omega) ((P 0).tk B).out.length 0 k to S2 N2 (Nat.zero_add _) hk (by omega)
 rw [List.drop_zero] at N'
 rw [show ((0:Nat):Int)=0 from rfl] at H
 refine ⟨S',k',r,hk',N',?_⟩
 refine EvF_start fi29_eq (fun x h=>by cases h <;> decide) m29 ?_
 rw [st29]
 have hs:=sizes_bytes B
 have b1:B.length≤140737488355328:=by omega
 generalize ((P 0).tk B).out=O at *
 generalize ((P 0).tk B).er=er at *
 simp (config:={implicitDefEqProofs:=false}) [-zia,-St.obj,-St.set,g1',g2',o0,o1,hs,b1,-zil,-zit,-znl,-znt,ty3,ty4,ty9,ty22,ty23,ty27,ty28,ty35,ty43,ty44,ty45,ty46,ty48,ty50,H29,e29_3,q29_3,e29_10,e29_9,e29_7,e29_22,e29_20,e29_29,q29_29,e29_31,e29_30,e29_28,e29_35,q29_35,e29_27,e29_36,e29_25,e29_19,e29_17,e29_15,e29_37,e29_14,e29_6,e29_4,e29_2,e29_0,n29_18]
 with_reducible exact H _
theorem k29_0 (S:St)(w z:Nat)(P Q:Nat→LE)(v4 v5 v6 v7 v8:V)(k:Nat)(to:List (List UInt8))(c:Nat)(hc:c≤60000)(N:Net S w z [.ptr 1 0,.ptr 3 0,.ptr 2 0,.ptr 4 0,v4,v5,v6,v7,.osl k (encSs to),v8] P Q)(hP:(P 0).Ok c)(hQ:(Q 0).Ok c)(hE:(P 0).Eqv (Q 0))(hk:k≤1)(hto:to.length≤800000)(B:List UInt8)(hB:B.length≤100000)(hol:((P 0).tk B).out.length≤1) :
  ∃ S' k' r,k'≤1∧Net S' w z [.ptr 1 0,.ptr 3 0,.ptr 2 0,.ptr 4 0,v4,v5,v6,v7,.osl k' (encSs (to ++ ((P 0).tk B).out)),v8] (upd P 0 ((P 0).take B r)) (upd Q 0 ((Q 0).take B 0))∧∀ fr,callStep gS (EvF gS) 29 [.ptr 0 0,.int .i64 0,.slice (byteVs B)] fr S=some (.ok (.val (.bool true)) (fr.map E.noMem) S'):=by
 obtain ⟨S',k',r,h1,h2,h3⟩:=O29_0 S w z P Q v4 v5 v6 v7 v8 k to c hc N hP hQ hE hk hto B hB hol
 exact ⟨S',k',r,h1,h2,fun fr=>call_np rfl fi29_eq rfl h3 fr⟩
theorem L29_1 (w z:Nat)(P Q:Nat→LE)(v4 v5 v6 v7 v8:V)(er:Int)(B:List UInt8)(O:List (List UInt8))(hO:O.length≤200000):∀ (m q k:Nat) (to:List (List UInt8)) (S:St),Net S w z [.ptr 1 0,.ptr 3 0,.ptr 2 0,.ptr 4 0,v4,v5,v6,v7,v8,.osl k (encSs to)] P Q→q+m=O.length→k≤1→to.length+m≤1000000 →
  ∃ S' k',k'≤1∧Net S' w z [.ptr 1 0,.ptr 3 0,.ptr 2 0,.ptr 4 0,v4,v5,v6,v7,v8,.osl k' (encSs (to ++ O.drop q))] P Q∧∀ T,evK gS fi29 c29_18 {ps:=[(0,.val (.ptr 0 0)),(1,.val (.int .i64 1)),(2,.val (.slice (byteVs B))),(6,.val (.bool false)),(7,.val (.slice (encFs O))),(8,.val (.int .i64 er)),(9,.val (.slice (encFs O))),(10,.val (.int .i64 er)),(11,.val (.int .i64 (q:Nat)))],ts:=T,lc:=[]} S (.blk 0 (.seq c29_37 .nil))=some (.ret (.bool true) none,S'):=by
 intro m
 induction m with
 | zero =>
  intro q k to S N hq hk hto
  obtain rfl:q=O.length:=by omega
  refine ⟨S,k,hk,by rw [List.drop_length,List.append_nil];exact N,fun T=>evK_loop c29_19 _ _ _ _ rfl ?_⟩
  simp (config:={implicitDefEqProofs:=false}) [-zia,-St.obj,-St.set,-zil,-zit,-znl,-znt,ty3,ty4,ty9,ty22,ty23,ty27,ty28,ty35,ty43,ty44,ty45,ty46,ty48,ty50,H29,e29_3,q29_3,e29_10,e29_9,e29_7,e29_22,e29_20,e29_29,q29_29,e29_31,e29_30,e29_28,e29_35,q29_35,e29_27,e29_36,e29_25,e29_19,e29_17,e29_15,e29_37,e29_14,e29_6,e29_4,e29_2,e29_0,n29_18]
 | succ m ih =>
  intro q k to S N hq hk hto
  have hlt:q<O.length:=by omega
  have hlti:(q:Int)<(O.length:Int):=by omega
  obtain ⟨f,hf⟩:∃ f,O[q]?=some f:=⟨O[q],zge hlt⟩
  obtain ⟨_,hfe⟩:=List.getElem?_eq_some_iff.1 hf
  obtain ⟨S1,h1,N1⟩:=N.hold [.ptr 1 0,.ptr 3 0,.ptr 2 0,.ptr 4 0,v4,v5,v6,v7,v8,.slice (encSs to)]
  obtain ⟨S2,h2,N2⟩:=N1.hold [.ptr 1 0,.ptr 3 0,.ptr 2 0,.ptr 4 0,v4,v5,v6,v7,v8,.osl 1 (encSs (to ++ [f]))]
  have o0:=N.o
  have o1:=N1.o
  obtain ⟨S',k',hk',N',H⟩:=ih (q+1) 1 (to ++ [f]) S2 N2 (by omega) (by omega) (by simp;omega)
  rw [take_two hf] at N'
  have hw  := qws q (by omega)
  have hs1:=sizes_ss to
  have hs2:=ss_snoc to f
  have b1:(to.length+1)*16≤140737488355328:=by omega
  have b2:to.length+1≤140737488355328:=by omega
  have hkk:k=0∨k=1:=by omega
  have hbo:=bytes_of f
  refine ⟨S',k',hk',N',fun T=>evK_loop c29_19 _ _ _ _ rfl ?_⟩
  simp (config:={implicitDefEqProofs:=false}) [-zia,-zaa,-St.obj,-St.set,hlt,hlti,hf,hfe,o0,o1,h1,h2,hw,hs1,hs2,b1,b2,hkk,hbo,u8_27,w64_0,w64_1,-zil,-zit,-znl,-znt,ty3,ty4,ty9,ty22,ty23,ty27,ty28,ty35,ty43,ty44,ty45,ty46,ty48,ty50,H29,e29_3,q29_3,e29_10,e29_9,e29_7,e29_22,e29_20,e29_29,q29_29,e29_31,e29_30,e29_28,e29_35,q29_35,e29_27,e29_36,e29_25,e29_19,e29_17,e29_15,e29_37,e29_14,e29_6,e29_4,e29_2,e29_0,n29_18]
  with_reducible exact H _
theorem O29_1 (S:St)(w z:Nat)(P Q:Nat→LE)(v4 v5 v6 v7 v8:V)(k:Nat)(to:List (List UInt8))(c:Nat)(hc:c≤60000)(N:Net S w z [.ptr 1 0,.ptr 3 0,.ptr 2 0,.ptr 4 0,v4,v5,v6,v7,v8,.osl k (encSs to)] P Q)(hP:(P 1).Ok c)(hQ:(Q 1).Ok c)(hE:(P 1).Eqv (Q 1))(hk:k≤1)(hto:to.length≤800000)(B:List UInt8)(hB:B.length≤100000)(hol:((P 1).tk B).out.length≤1) :
  ∃ S' k' r,k'≤1∧Net S' w z [.ptr 1 0,.ptr 3 0,.ptr 2 0,.ptr 4 0,v4,v5,v6,v7,v8,.osl k' (encSs (to ++ ((P 1).tk B).out))] (upd P 1 ((P 1).take B r)) (upd Q 1 ((Q 1).take B 0))∧EvF gS 29 [.ptr 0 0,.int .i64 1,.slice (byteVs B)] S=some (.ret (.bool true) none,S'):=by
 obtain ⟨S1,r,N1,g1⟩:=P_take N (i:=1) (by omega) hc hP B (by omega)
 obtain ⟨S2,N2,g2⟩:=Q_take N1 (i:=1) (by omega) hc hQ B (by omega) 0
 have g1':∀ fr,callStep gS (EvF gS) 12 [.ptr 3 0,.slice (byteVs B)] fr S=_:=g1
 have g2':∀ fr,callStep gS (EvF gS) 36 [.ptr 4 0,.slice (byteVs B)] fr S1=_:=g2
 have o0:=N.o
 have o1:=N1.o
 rw [← hE.tk B] at g2'
 obtain ⟨S',k',hk',N',H⟩:=L29_1 w z _ _ v4 v5 v6 v7 v8 ((P 1).tk B).er B ((P 1).tk B).out (by omega) ((P 1).tk B).out.length 0 k to S2 N2 (Nat.zero_add _) hk (by omega)
 rw [List.drop_zero] at N'
 rw [show ((0:Nat):Int)=0 from rfl] at H
 refine ⟨S',k',r,hk',N',?_⟩
 refine EvF_start fi29_eq (fun x h=>by cases h <;> decide) m29 ?_
 rw [st29]
 have hs:=sizes_bytes B
 have b1:B.length≤140737488355328:=by omega
 generalize ((P 1).tk B).out=O at *
 generalize ((P 1).tk B).er=er at *
 simp (config:={implicitDefEqProofs:=false}) [-zia,-St.obj,-St.set,g1',g2',o0,o1,hs,b1,-zil,-zit,-znl,-znt,ty3,ty4,ty9,ty22,ty23,ty27,ty28,ty35,ty43,ty44,ty45,ty46,ty48,ty50,H29,e29_3,q29_3,e29_10,e29_9,e29_7,e29_22,e29_20,e29_29,q29_29,e29_31,e29_30,e29_28,e29_35,q29_35,e29_27,e29_36,e29_25,e29_19,e29_17,e29_15,e29_37,e29_14,e29_6,e29_4,e29_2,e29_0,n29_18]
 with_reducible exact H _
theorem k29_1 (S:St)(w z:Nat)(P Q:Nat→LE)(v4 v5 v6 v7 v8:V)(k:Nat)(to:List (List UInt8))(c:Nat)(hc:c≤60000)(N:Net S w z [.ptr 1 0,.ptr 3 0,.ptr 2 0,.ptr 4 0,v4,v5,v6,v7,v8,.osl k (encSs to)] P Q)(hP:(P 1).Ok c)(hQ:(Q 1).Ok c)(hE:(P 1).Eqv (Q 1))(hk:k≤1)(hto:to.length≤800000)(B:List UInt8)(hB:B.length≤100000)(hol:((P 1).tk B).out.length≤1) :
  ∃ S' k' r,k'≤1∧Net S' w z [.ptr 1 0,.ptr 3 0,.ptr 2 0,.ptr 4 0,v4,v5,v6,v7,v8,.osl k' (encSs (to ++ ((P 1).tk B).out))] (upd P 1 ((P 1).take B r)) (upd Q 1 ((Q 1).take B 0))∧∀ fr,callStep gS (EvF gS) 29 [.ptr 0 0,.int .i64 1,.slice (byteVs B)] fr S=some (.ok (.val (.bool true)) (fr.map E.noMem) S'):=by
 obtain ⟨S',k',r,h1,h2,h3⟩:=O29_1 S w z P Q v4 v5 v6 v7 v8 k to c hc N hP hQ hE hk hto B hB hol
 exact ⟨S',k',r,h1,h2,fun fr=>call_np rfl fi29_eq rfl h3 fr⟩
end
end Go.Proofs.Ytebjpgoadapabaa
namespace Go.Ab
open Go
def Both (P Q:Nat→LE)(c:Nat):Prop:=∀ i,i<2→(P i).Ok c∧(Q i).Ok c∧(P i).Eqv (Q i)
theorem Both.upd {P Q:Nat→LE} {c d i:Nat} (h:Both P Q c)(hd:c≤d) {Y Z:LE} (h1:Y.Ok d)(h2:Z.Ok d)(h3:Y.Eqv Z):Both (Ab.upd P i Y) (Ab.upd Q i Z) d:=by
 intro j hj
 by_cases hji:j=i
 ·subst hji;rw [upd_self,upd_self];exact ⟨h1,h2,h3⟩
 ·rw [upd_ne _ _ hji,upd_ne _ _ hji]
  obtain ⟨a,b,e⟩:=h j hj
  exact ⟨a.mono hd,b.mono hd,e⟩
theorem Both.mono {P Q:Nat→LE} {c d:Nat} (h:Both P Q c)(hd:c≤d):Both P Q d:=fun j hj=>by
 obtain ⟨a,b,e⟩:=h j hj
 exact ⟨a.mono hd,b.mono hd,e⟩
structure Jn (S:St) (w z n c:Nat) (P Q:Nat→LE) (X:Wi):Prop where
 net:Net S w z X.c P Q
 ok:X.ok
 bo:Both P Q c
 t0:X.t0.length≤n
 t1:X.t1.length≤n
 f0:∀ f∈X.t0,f.length≤1020
 f1:∀ f∈X.t1,f.length≤1020
 p0:X.p0.length≤c
 p1:X.p1.length≤c
 q0:X.q0.length≤c
 q1:X.q1.length≤c
theorem tk_out (A:LE)(B:List UInt8):(A.tk B).out.length≤1:=by
 unfold LE.tk rtake
 cases pr2 B with
 | error e=>exact Nat.zero_le _
 | ok y =>
  obtain ⟨n,ack,rest⟩:=y
  simp only
  split
  ·exact Nat.zero_le _
  ·split
   ·exact Nat.zero_le _
   ·split
    ·exact Nat.le_refl _
    ·exact Nat.zero_le _
theorem mem_lose {α:Type} {l:List α} {j:Nat} {x:α} (h:x∈l.take j ++ l.drop (j+1)):x∈l:=by
 rcases List.mem_append.1 h with h1 | h1
 ·exact List.mem_of_mem_take h1
 ·exact List.mem_of_mem_drop h1
theorem len_lose {α:Type} (l:List α)(j:Nat):(l.take j ++ l.drop (j+1)).length≤l.length:=by
 rw [zla,List.length_take,List.length_drop];omega
end Go.Ab
namespace Go.Ab
open Go
theorem rd_nb (n:Nat)(h:n<16384)(X:List UInt8):∃ k,rd (nb n ++ X)=.ok (n,k)∧k=(nb n).length:=by
 by_cases h1:n<128
 ·have e:nb n=[u8 (n:Int)]:=by unfold nb;rw [nbF,if_pos h1]
  refine ⟨1,?_,by rw [e];rfl⟩
  rw [e]
  show rdG 9 0 0 (u8 (n:Int) :: X)=_
  rw [rdG,u8_nat n (by omega),if_pos h1,if_pos (by omega)]
  have:0+n % 128*2 ^ (7*0)=n:=by omega
  rw [this]
 ·have e:nb n=[u8 ((n % 128+128:Nat):Int),u8 ((n / 128:Nat):Int)]:=by
   unfold nb;rw [nbF,if_neg h1,nbF,if_pos (by omega)]
  refine ⟨2,?_,by rw [e];rfl⟩
  rw [e]
  show rdG 9 0 0 (u8 ((n % 128+128:Nat):Int) :: u8 ((n / 128:Nat):Int) :: X)=_
  rw [rdG,u8_nat _ (by omega),if_neg (by omega),rdG,u8_nat _ (by omega),if_pos (by omega),if_pos (by omega)]
  have:0+(n % 128+128) % 128*2 ^ (7*0)+n / 128 % 128*2 ^ (7*(0+1))=n:=by omega
  rw [this]
theorem pr2_dgr (n g:Nat)(hn:n<16384)(hg:g<16384)(f:List UInt8)(hf:n=0→f=[]):pr2 (dgr n g f)=.ok (n,g,f):=by
 unfold dgr
 obtain ⟨k,e1,rfl⟩:=rd_nb n hn (nb g ++ f)
 obtain ⟨k2,e2,rfl⟩:=rd_nb g hg f
 unfold pr2
 rw [zaa,e1]
 simp only [List.drop_left]
 rw [e2]
 simp only
 have e3:(nb n ++ (nb g ++ f)).drop ((nb n).length+(nb g).length)=f:=by
  rw [← zaa,← zla,List.drop_left]
 rw [e3,if_neg (fun h=>by
  have:=hf h.1
  subst this
  have:=h.2
  simp at this)]
def Says (p:List (List UInt8))(d:List UInt8):Prop:=∃ n a f,pr2 d=.ok (n,a,f)∧(n=0∨p[n - 1]?=some f)
theorem Says.mono {p:List (List UInt8)} {d:List UInt8} (h:Says p d)(f:List UInt8):Says (p ++ [f]) d:=by
 obtain ⟨n,a,g,h1,h2⟩:=h
 refine ⟨n,a,g,h1,?_⟩
 rcases h2 with h2 | h2
 ·exact .inl h2
 ·right
  have:=(List.getElem?_eq_some_iff.1 h2).1
  rw [List.getElem?_append_left this];exact h2
structure Hold (A:LE) (p q o:List (List UInt8)):Prop where
 fs:A.fs=p.drop A.b
 bl:A.b≤p.length
 q:q=o.take A.g
 gl:A.g≤o.length
theorem Hold.put {A:LE} {p q o:List (List UInt8)} (h:Hold A p q o)(f:List UInt8)(r:Nat):Hold (A.put f r) (p ++ [f]) q o where
 fs:=by show A.fs ++ [f]=(p ++ [f]).drop A.b;rw [List.drop_append_of_le_length h.bl,h.fs]
 bl:=by show A.b≤(p ++ [f]).length;rw [zla];have:=h.bl;omega
 q:=h.q
 gl:=h.gl
theorem Hold.other {A:LE} {p q o:List (List UInt8)} (h:Hold A p q o)(f:List UInt8):Hold A p q (o ++ [f]) where
 fs:=h.fs
 bl:=h.bl
 q:=by rw [List.take_append_of_le_length h.gl];exact h.q
 gl:=by rw [zla];have:=h.gl;omega
theorem Hold.rack {A:LE} {p q o:List (List UInt8)} (h:Hold A p q o)(hs:A.s≤A.fs.length)(ack:Nat)(ha:ack≤A.b+A.s) :
  (rack ack A.b A.s A.t A.a A.fs).2.2.2.2=p.drop (rack ack A.b A.s A.t A.a A.fs).1∧(rack ack A.b A.s A.t A.a A.fs).1≤p.length:=by
 have hl:A.fs.length=p.length - A.b:=by rw [h.fs,List.length_drop]
 have:=h.bl
 unfold Ab.rack
 split
 ·refine ⟨?_,by show ack≤_;omega⟩
  show A.fs.drop (ack - A.b)=p.drop ack
  rw [h.fs,List.drop_drop];congr 1;omega
 ·exact ⟨h.fs,h.bl⟩
theorem Hold.take {A:LE} {p q o:List (List UInt8)} (h:Hold A p q o)(hs:A.s≤A.fs.length) {d:List UInt8} (hd:Says o d)(r:Nat):Hold (A.take d r) p (q ++ (A.tk d).out) o:=by
 obtain ⟨n,ack,f,h1,h2⟩:=hd
 have key:(A.tk d).fs=p.drop (A.tk d).b∧(A.tk d).b≤p.length∧q ++ (A.tk d).out=o.take (A.tk d).g∧(A.tk d).g≤o.length:=by
  unfold LE.tk rtake
  rw [h1]
  simp only
  split
  ·exact ⟨h.fs,h.bl,by rw [List.append_nil];exact h.q,h.gl⟩
  ·rename_i hb
   obtain ⟨r1,r2⟩:=h.rack hs ack (by omega)
   split
   ·exact ⟨r1,r2,by rw [List.append_nil];exact h.q,h.gl⟩
   ·rename_i hn
    split
    ·rename_i hg
     have h3:o[A.g]?=some f:=by
      rcases h2 with h2 | h2
      ·exact (hn h2).elim
      ·rw [hg] at h2;exact h2
     have h4:=(List.getElem?_eq_some_iff.1 h3).1
     refine ⟨r1,r2,?_,by show n≤_;omega⟩
     show q ++ [f]=o.take n
     rw [hg,h.q,List.take_add_one,h3];rfl
    ·exact ⟨r1,r2,by rw [List.append_nil];exact h.q,h.gl⟩
 exact ⟨key.1,key.2.1,key.2.2.1,key.2.2.2⟩
theorem rng_says {p:List (List UInt8)} {b g:Nat} {fs:List (List UInt8)} (hfs:fs=p.drop b)(hb:p.length<16000)(hg:g<16000):∀ (m i:Nat),i+m≤fs.length→∀ d∈rng b g fs i m,Says p d
 | 0,i,_,d,hd=>by cases hd
 | m+1,i,him,d,hd=>by
  have hl:fs.length=p.length - b:=by rw [hfs,List.length_drop]
  rw [rng] at hd
  rcases List.mem_cons.1 hd with h | h
  ·subst h
   obtain ⟨f,hf⟩:∃ f,fs[i]?=some f:=⟨fs[i]'(by omega),zge (by omega)⟩
   refine ⟨b+i+1,g,fs.getD i [],pr2_dgr _ _ (by omega) (by omega) _ (fun h=>by omega),.inr ?_⟩
   rw [getD_of hf,show b+i+1 - 1=b+i from by omega,← List.getElem?_drop,← hfs,hf]
  ·exact rng_says hfs hb hg m (i+1) (by omega) d h
theorem Hold.outs {A:LE} {p q o:List (List UInt8)} (h:Hold A p q o)(hs:A.s≤A.fs.length) {w:Nat} (hp:p.length<16000)(hg:A.g<16000):∀ d∈A.outs w,Says p d:=by
 intro d hd
 unfold LE.outs routs at hd
 simp only at hd
 have hmem:∀ d∈(if A.a then rng A.b A.g A.fs 0 A.s else []) ++ rng A.b A.g A.fs A.s (min A.fs.length w - A.s),Says p d:=by
  intro d hd
  rcases List.mem_append.1 hd with h1 | h1
  ·split at h1
   ·exact rng_says h.fs hp hg _ _ (by omega) d h1
   ·cases h1
  ·by_cases hz:min A.fs.length w - A.s=0
   ·rw [hz] at h1;cases h1
   ·exact rng_says h.fs hp hg _ _ (by omega) d h1
 revert hd
 generalize (if A.a then rng A.b A.g A.fs 0 A.s else []) ++ rng A.b A.g A.fs A.s (min A.fs.length w - A.s)=B at hmem ⊢
 intro hd
 split at hd
 ·simp at hd;subst hd
  exact ⟨0,A.g,[],pr2_dgr 0 A.g (by omega) (by omega) [] (fun _=>rfl),.inl rfl⟩
 ·exact hmem d hd
structure Iv (P:Nat→LE) (X:Wi):Prop where
 e0:Hold (P 0) X.p0 X.q0 X.p1
 e1:Hold (P 1) X.p1 X.q1 X.p0
 t0:∀ d∈X.t0,Says X.p1 d
 t1:∀ d∈X.t1,Says X.p0 d
theorem Iv.put0 {P:Nat→LE} {X:Wi} (I:Iv P X)(f:List UInt8)(r:Nat):Iv (Ab.upd P 0 ((P 0).put f r)) {X with p0:=X.p0 ++ [f],k2:=1} where
 e0:=I.e0.put f r
 e1:=I.e1.other f
 t0:=I.t0
 t1:=fun d hd=>(I.t1 d hd).mono f
theorem Iv.tick0 {P:Nat→LE} {X:Wi} (I:Iv P X)(z:Nat):Iv (Ab.upd P 0 ((P 0).tick z)) X where
 e0:=⟨I.e0.fs,I.e0.bl,I.e0.q,I.e0.gl⟩
 e1:=I.e1
 t0:=I.t0
 t1:=I.t1
theorem Iv.out0 {P:Nat→LE} {X:Wi} (I:Iv P X)(w k:Nat)(hs:(P 0).s≤(P 0).fs.length)(hp:X.p0.length<16000)(hg:(P 0).g<16000):Iv (Ab.upd P 0 ((P 0).out w)) {X with t1:=X.t1 ++ (P 0).outs w,k1:=k} where
 e0:=⟨I.e0.fs,I.e0.bl,I.e0.q,I.e0.gl⟩
 e1:=I.e1
 t0:=I.t0
 t1:=fun d hd=>by
  rcases List.mem_append.1 hd with h | h
  ·exact I.t1 d h
  ·exact I.e0.outs hs hp hg d h
theorem Iv.take0 {P:Nat→LE} {X:Wi} (I:Iv P X)(hs:(P 0).s≤(P 0).fs.length) {d:List UInt8} (hd:Says X.p1 d)(r k:Nat):Iv (Ab.upd P 0 ((P 0).take d r)) {X with q0:=X.q0 ++ ((P 0).tk d).out,k4:=k} where
 e0:=I.e0.take hs hd r
 e1:=I.e1
 t0:=I.t0
 t1:=I.t1
theorem Iv.sub0 {P:Nat→LE} {X:Wi} (I:Iv P X) {l:List (List UInt8)} (k:Nat)(h:∀ d∈l,d∈X.t0):Iv P {X with t0:=l,k0:=k} where
 e0:=I.e0
 e1:=I.e1
 t0:=fun d hd=>I.t0 d (h d hd)
 t1:=I.t1
theorem Iv.put1 {P:Nat→LE} {X:Wi} (I:Iv P X)(f:List UInt8)(r:Nat):Iv (Ab.upd P 1 ((P 1).put f r)) {X with p1:=X.p1 ++ [f],k3:=1} where
 e0:=I.e0.other f
 e1:=I.e1.put f r
 t0:=fun d hd=>(I.t0 d hd).mono f
 t1:=I.t1
theorem Iv.tick1 {P:Nat→LE} {X:Wi} (I:Iv P X)(z:Nat):Iv (Ab.upd P 1 ((P 1).tick z)) X where
 e0:=I.e0
 e1:=⟨I.e1.fs,I.e1.bl,I.e1.q,I.e1.gl⟩
 t0:=I.t0
 t1:=I.t1
theorem Iv.out1 {P:Nat→LE} {X:Wi} (I:Iv P X)(w k:Nat)(hs:(P 1).s≤(P 1).fs.length)(hp:X.p1.length<16000)(hg:(P 1).g<16000):Iv (Ab.upd P 1 ((P 1).out w)) {X with t0:=X.t0 ++ (P 1).outs w,k0:=k} where
 e0:=I.e0
 e1:=⟨I.e1.fs,I.e1.bl,I.e1.q,I.e1.gl⟩
 t0:=fun d hd=>by
  rcases List.mem_append.1 hd with h | h
  ·exact I.t0 d h
  ·exact I.e1.outs hs hp hg d h
 t1:=I.t1
theorem Iv.take1 {P:Nat→LE} {X:Wi} (I:Iv P X)(hs:(P 1).s≤(P 1).fs.length) {d:List UInt8} (hd:Says X.p0 d)(r k:Nat):Iv (Ab.upd P 1 ((P 1).take d r)) {X with q1:=X.q1 ++ ((P 1).tk d).out,k5:=k} where
 e0:=I.e0
 e1:=I.e1.take hs hd r
 t0:=I.t0
 t1:=I.t1
theorem Iv.sub1 {P:Nat→LE} {X:Wi} (I:Iv P X) {l:List (List UInt8)} (k:Nat)(h:∀ d∈l,d∈X.t1):Iv P {X with t1:=l,k1:=k} where
 e0:=I.e0
 e1:=I.e1
 t0:=I.t0
 t1:=fun d hd=>I.t1 d (h d hd)
end Go.Ab
