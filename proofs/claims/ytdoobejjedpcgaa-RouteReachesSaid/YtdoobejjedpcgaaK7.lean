/- Forwarded from any broker an event comes to each broker once at most, to each where a Sub takes it, and to none behind which there is no such one. Part 7. -/
import Derived.Test.YtdoobejjedpcgaaK6
set_option linter.unusedVariables false
set_option linter.unusedSimpArgs false
set_option linter.unnecessarySimpa false
set_option maxHeartbeats 8000000
set_option maxRecDepth 20000
open Int renaming not_le → zil, not_lt → zit, natCast_add → zia
open Nat renaming not_le → znl, not_lt → znt
open List renaming getElem?_eq_getElem → zge, getElem?_eq_some_iff → zgs, append_assoc → zaa, mem_of_getElem? → zmg, length_append → zla
namespace Go.Proofs.Ytdoobejjedpcgaa
open Go Go.Ab
noncomputable section
variable (fr:Fr)(st:St)(k:Kt)
def fi78:FI:={body:=codeOf Try.f78,ntmps:=33,results:=[.tmp 6],pers:=[0,1,2,6,7,9,10,11,12],locals:=[9],pure:=true,marks:=[1000000]}
theorem H78:fi78.marks=[1000000]∧fi78.locals=[9]∧fi78.results=[.tmp 6]:=⟨rfl,rfl,rfl⟩
theorem fi229_eq:gS.fn 78=some fi78:=by kernel_rfl
theorem st78 (a0 a1 a2:V):startFr fi78 [a0,a1,a2]={ps:=[(0,.val a0),(1,.val a1),(2,.val a2),(6,.any),(7,.any),(9,.any),(10,.any),(11,.any),(12,.any)],ts:=[],lc:=[]}:=rfl
def b78:Code:=mini (codeOf Try.f78)
def c78_22:Code:=codeN b78 11467
def c78_21:Code:=.cond (.tmp 25) c78_22 .skip
def c78_19:Code:=.seq (codeN b78 5323) c78_21
def c78_17:Code:=.seq (codeN b78 2251) c78_19
def c78_24:Code:=codeN b78 971
def c78_15:Code:=.seq (.block 1 c78_17) c78_24
def c78_11:Code:=.seq (.cond (.tmp 13) .skip (.exit 0)) c78_15
def c78_9:Code:=.seq (codeN b78 139) c78_11
def c78_8:Code:=.loop c78_9
def c78_7:Code:=.block 0 c78_8
def c78_5:Code:=.seq (codeN b78 19) c78_7
def c78_25:Code:=.seq (codeN b78 23) .ret
theorem e78_25:evK gS fi78 c78_25 fr st k=opsR gS fi78 [mv 32 7 22,
 asn 6 32 22] fr st (.seq .ret k):=evK_rs 8 rfl (by kernel_rfl)
def c78_4:Code:=.seq c78_5 c78_25
def c78_2:Code:=.seq (codeN b78 5) c78_4
def c78_0:Code:=.seq (codeN b78 2) c78_2
theorem E78:(evK gS fi78 c78_22 fr st k=opsR gS fi78 [mv 26 7 22,
 qF 27 79 9 0 0,
 ld 28 3 27 3,
 qS 29 22 28 22,
 qE 30 26 29 22 22,
 asn 7 30 22] fr st k) ∧
 evK gS fi78 c78_21 fr st k=condK gS fi78 (fr.op (.tmp 25)).bool? c78_22 .skip fr st k ∧
 (evK gS fi78 c78_19 fr st k=opsR gS fi78 [qF 16 79 9 0 0,
 ld 17 3 16 3,
 mv 18 2 3,
 bop 19 .neq 3 17 18 3 4,
 mv 20 19 4,
 qf 21 79 9 1 0 4 true,
 ql 22 77 21 77 4 true,
 qm 23 1 42 4 true,
 mk (some 24) (.call {callee:=(.value (.func 45)),args:=#[(.tmp 22),(.tmp 23)],argTypes:=#[77,42]}) 4 (some (4,true)),
 qP 25 20 24 false 4] fr st (.seq c78_21 k)) ∧
 (evK gS fi78 c78_17 fr st k=opsR gS fi78 [ixa 14 70 10 12 0,
 ld 15 79 14 79,
 op1 9 (.alloc 79) 0,
 sto 79 9 15] fr st (.seq c78_19 k)) ∧
 (evK gS fi78 c78_24 fr st k=opsR gS fi78 [qB 31 .add 3 12 1 3 3,
 mv 12 31 3] fr st k) ∧
 evK gS fi78 c78_15 fr st k=evK gS fi78 c78_17 fr st (.blk 1 (.seq c78_24 k)) ∧
 evK gS fi78 c78_11 fr st k=condK gS fi78 (fr.op (.tmp 13)).bool? .skip (.exit 0) fr st (.seq c78_15 k) ∧
 evK gS fi78 c78_9 fr st k=opsR gS fi78 [bop 13 .lss 3 12 11 3 0] fr st (.seq c78_11 k) ∧
 evK gS fi78 c78_7 fr st k=evK gS fi78 c78_8 fr st (.blk 0 k) ∧
 (evK gS fi78 c78_5 fr st k=opsR gS fi78 [mv 10 0 70,
 len1 11 10 70 3,
 op1 12 (.move (.const (.int .i64 0))) 3] fr st (.seq c78_7 k)) ∧
 evK gS fi78 c78_4 fr st k=evK gS fi78 c78_5 fr st (.seq c78_25 k) ∧
 evK gS fi78 c78_2 fr st k=opsR gS fi78 [qN 7 22] fr st (.seq c78_4 k) ∧
 evK gS fi78 c78_0 fr st k=opsR gS fi78 [qN 6 22] fr st (.seq c78_2 k):=⟨evK_r 6 (by kernel_rfl),rfl,evK_rs 5 rfl (by kernel_rfl),evK_rs 4 rfl (by kernel_rfl),evK_r 7 (by kernel_rfl),rfl,rfl,evK_rs 3 rfl (by kernel_rfl),rfl,evK_rs 2 rfl (by kernel_rfl),rfl,evK_rs 1 rfl (by kernel_rfl),evK_rs 0 rfl (by kernel_rfl)⟩
theorem m78:mini fi78.body=c78_0:=by kernel_rfl
theorem n78_8 (fr:Fr)(st:St)(k:Kt):nextK gS fi78 (.loop c78_9 k) .normal fr st=evK gS fi78 c78_8 fr st k:=rfl
theorem LF229 (ts:List Tbl)(hts:∀ t∈ts,(∀ g∈t.fs,POk g)∧t.fs.length<1000000)(htl:ts.length<100000)(A:List Attr)(hA:A.length<1000)(f:Int)(S:St)(R:Out × St)  (fin:List Int)
  (H:∀ (e9:E) (T:List (Nat × E)) (X:List (Nat × List V)),e9.L9→evK gS fi78 c78_25 {ps:=[(0,.val (.slice (encTbls ts))),(1,.val (.slice (encAttrs A))),(2,.val (.int .i64 f)),(6,.own 0 []),(7,.own (kof 1 fin) (intVs fin)),(9,e9),(10,.val (.slice (encTbls ts))),(11,.val (.int .i64 ts.length)),(12,.val (.int .i64 ts.length))],ts:=T,lc:=X} S .nil=some R) :
  ∀ (m q:Nat) (out:List Int) (e9:E) (T:List (Nat × E)) (X:List (Nat × List V)) (h9:e9.L9),q≤ts.length→ts.length - q=m→fin=fwdT A f (ts.drop q) out→out.length≤q →
  evK gS fi78 c78_8 {ps:=[(0,.val (.slice (encTbls ts))),(1,.val (.slice (encAttrs A))),(2,.val (.int .i64 f)),(6,.own 0 []),(7,.own (kof 1 out) (intVs out)),(9,e9),(10,.val (.slice (encTbls ts))),(11,.val (.int .i64 ts.length)),(12,.val (.int .i64 (q:Nat)))],ts:=T,lc:=X} S (.blk 0 (.seq c78_25 .nil))=some R:=by
 intro m
 induction m with
 | zero =>
  intro q out e9 T X h9 hq hm2 hf hol
  obtain rfl:q=ts.length:=by omega
  rw [List.drop_length] at hf
  have hf2:fin=out:=hf
  subst hf2
  refine evK_loop c78_9 _ _ _ _ rfl ?_
  rcases kof_or 1 fin with ⟨hk,rfl⟩ | hk
  ·rw [hk,show intVs []=[] from rfl] at H ⊢
   rcases h9 with rfl | rfl
   ·simp (config:={implicitDefEqProofs:=false}) [-zia,-St.obj,-St.set,-zil,-zit,-znl,-znt,ty3,ty4,ty22,ty42,ty70,ty77,ty79,H78,E78,n78_8]
    exact H _ _ _ (.inl rfl)
   ·simp (config:={implicitDefEqProofs:=false}) [-zia,-St.obj,-St.set,-zil,-zit,-znl,-znt,ty3,ty4,ty22,ty42,ty70,ty77,ty79,H78,E78,n78_8]
    exact H _ _ _ (.inr rfl)
  ·rw [hk] at H ⊢
   rcases h9 with rfl | rfl
   ·simp (config:={implicitDefEqProofs:=false}) [-zia,-St.obj,-St.set,-zil,-zit,-znl,-znt,ty3,ty4,ty22,ty42,ty70,ty77,ty79,H78,E78,n78_8]
    exact H _ _ _ (.inl rfl)
   ·simp (config:={implicitDefEqProofs:=false}) [-zia,-St.obj,-St.set,-zil,-zit,-znl,-znt,ty3,ty4,ty22,ty42,ty70,ty77,ty79,H78,E78,n78_8]
    exact H _ _ _ (.inr rfl)
 | succ m ih =>
  intro q out e9 T X h9 hq hm2 hf hol
  obtain ⟨x,hx⟩  := qgx (l:=ts) (i:=q) (by omega)
  have hlt:(q:Int)<(ts.length:Int):=by omega
  obtain ⟨hlt2,hxe⟩:=List.getElem?_eq_some_iff.1 hx
  have hw  := qws q (by omega)
  rw [drop_get hx,show fwdT A f (x :: ts.drop (q+1)) out=fwdT A f (ts.drop (q+1)) (if (!decide (x.near=f) && fany x.fs A)=true then out ++ [x.near] else out) from rfl] at hf
  have hxt:=hts x (zmg hx)
  have kk:=fun fr st=>k45 x.fs A hxt.1 (by omega) (by omega) fr st
  have hs1:=sizes_ints out
  have hs2:=ints_snoc out x.near
  have b1:(out.length+1)*8≤140737488355328:=by omega
  have b2:out.length+1≤140737488355328:=by omega
  generalize fany x.fs A=z at *
  refine evK_loop c78_9 _ _ _ _ rfl ?_
  by_cases hc:x.near=f
  ·rw [if_neg (by simp [hc])] at hf
   have hc2:=eq_true hc
   have IH:=fun e9 T X h9=>ih (q+1) out e9 T X h9 (by omega) (by omega) hf (by omega)
   rcases kof_or 1 out with ⟨hk,rfl⟩ | hk
   ·rw [hk,show intVs []=[] from rfl] at IH ⊢
    rcases h9 with rfl | rfl
    ·simp (config:={implicitDefEqProofs:=false}) [-zia,hx,hxe,hlt,hlt2,hw,hc2,-zil,-zit,-znl,-znt,ty3,ty4,ty22,ty42,ty70,ty77,ty79,H78,E78,e78_25,n78_8]
     exact IH _ _ _ (.inr rfl)
    ·simp (config:={implicitDefEqProofs:=false}) [-zia,hx,hxe,hlt,hlt2,hw,hc2,-zil,-zit,-znl,-znt,ty3,ty4,ty22,ty42,ty70,ty77,ty79,H78,E78,e78_25,n78_8]
     exact IH _ _ _ (.inr rfl)
   ·rw [hk] at IH ⊢
    rcases h9 with rfl | rfl
    ·simp (config:={implicitDefEqProofs:=false}) [-zia,hx,hxe,hlt,hlt2,hw,hc2,-zil,-zit,-znl,-znt,ty3,ty4,ty22,ty42,ty70,ty77,ty79,H78,E78,e78_25,n78_8]
     exact IH _ _ _ (.inr rfl)
    ·simp (config:={implicitDefEqProofs:=false}) [-zia,hx,hxe,hlt,hlt2,hw,hc2,-zil,-zit,-znl,-znt,ty3,ty4,ty22,ty42,ty70,ty77,ty79,H78,E78,e78_25,n78_8]
     exact IH _ _ _ (.inr rfl)
  ·have hc2:=eq_false hc
   cases z with
   | false =>
    rw [if_neg (by simp)] at hf
    have IH:=fun e9 T X h9=>ih (q+1) out e9 T X h9 (by omega) (by omega) hf (by omega)
    rcases kof_or 1 out with ⟨hk,rfl⟩ | hk
    ·rw [hk,show intVs []=[] from rfl] at IH ⊢
     rcases h9 with rfl | rfl
     ·simp (config:={implicitDefEqProofs:=false}) [-zia,hx,hxe,hlt,hlt2,hw,hc2,kk,-zil,-zit,-znl,-znt,ty3,ty4,ty22,ty42,ty70,ty77,ty79,H78,E78,e78_25,n78_8]
      exact IH _ _ _ (.inr rfl)
     ·simp (config:={implicitDefEqProofs:=false}) [-zia,hx,hxe,hlt,hlt2,hw,hc2,kk,-zil,-zit,-znl,-znt,ty3,ty4,ty22,ty42,ty70,ty77,ty79,H78,E78,e78_25,n78_8]
      exact IH _ _ _ (.inr rfl)
    ·rw [hk] at IH ⊢
     rcases h9 with rfl | rfl
     ·simp (config:={implicitDefEqProofs:=false}) [-zia,hx,hxe,hlt,hlt2,hw,hc2,kk,-zil,-zit,-znl,-znt,ty3,ty4,ty22,ty42,ty70,ty77,ty79,H78,E78,e78_25,n78_8]
      exact IH _ _ _ (.inr rfl)
     ·simp (config:={implicitDefEqProofs:=false}) [-zia,hx,hxe,hlt,hlt2,hw,hc2,kk,-zil,-zit,-znl,-znt,ty3,ty4,ty22,ty42,ty70,ty77,ty79,H78,E78,e78_25,n78_8]
      exact IH _ _ _ (.inr rfl)
   | true =>
    rw [if_pos (by simp [hc])] at hf
    have IH:=fun e9 T X h9=>ih (q+1) (out ++ [x.near]) e9 T X h9 (by omega) (by omega) hf (by simp;omega)
    rw [kof_snoc] at IH
    rcases kof_or 1 out with ⟨hk,rfl⟩ | hk
    ·have en1:intVs ([] ++ [x.near])=[.int .i64 x.near]:=rfl
     rw [en1] at IH
     rw [hk,show intVs []=[] from rfl]
     rcases h9 with rfl | rfl
     ·simp (config:={implicitDefEqProofs:=false}) [-zia,hx,hxe,hlt,hlt2,hw,hc2,kk,-zil,-zit,-znl,-znt,ty3,ty4,ty22,ty42,ty70,ty77,ty79,H78,E78,e78_25,n78_8]
      exact IH _ _ _ (.inr rfl)
     ·simp (config:={implicitDefEqProofs:=false}) [-zia,hx,hxe,hlt,hlt2,hw,hc2,kk,-zil,-zit,-znl,-znt,ty3,ty4,ty22,ty42,ty70,ty77,ty79,H78,E78,e78_25,n78_8]
      exact IH _ _ _ (.inr rfl)
    ·rw [hk]
     rcases h9 with rfl | rfl
     ·simp (config:={implicitDefEqProofs:=false}) [-zia,-zaa,hx,hxe,hlt,hlt2,hw,hc2,kk,hs1,hs2,b1,b2,-zil,-zit,-znl,-znt,ty3,ty4,ty22,ty42,ty70,ty77,ty79,H78,E78,e78_25,n78_8]
      exact IH _ _ _ (.inr rfl)
     ·simp (config:={implicitDefEqProofs:=false}) [-zia,-zaa,hx,hxe,hlt,hlt2,hw,hc2,kk,hs1,hs2,b1,b2,-zil,-zit,-znl,-znt,ty3,ty4,ty22,ty42,ty70,ty77,ty79,H78,E78,e78_25,n78_8]
      exact IH _ _ _ (.inr rfl)
theorem c78 (ts:List Tbl)(hts:∀ t∈ts,(∀ g∈t.fs,POk g)∧t.fs.length<1000000)(htl:ts.length<100000)(A:List Attr)(hA:A.length<1000)(f:Int)(S:St):EvF gS 78 [.slice (encTbls ts),.slice (encAttrs A),.int .i64 f] S=some (.ret (.slice (intVs (fwdT A f ts []))) none,S):=by
 refine EvF_start fi229_eq (fun x h=>by cases h) m78 ?_
 rw [st78]
 have hz:=fun xs st=>frz_slice (xs:=intVs xs) (flats_ints xs) st
 have hz0:=hz [] S
 rw [show intVs []=[] from rfl] at hz0
 generalize hK:fwdT A f ts []=K
 generalize hR:(Out.ret (V.slice (intVs K)) none,S)=R
 have H25:∀ (e9:E) (T:List (Nat × E)) (X:List (Nat × List V)),e9.L9→evK gS fi78 c78_25 {ps:=[(0,.val (.slice (encTbls ts))),(1,.val (.slice (encAttrs A))),(2,.val (.int .i64 f)),(6,.own 0 []),(7,.own (kof 1 K) (intVs K)),(9,e9),(10,.val (.slice (encTbls ts))),(11,.val (.int .i64 ts.length)),(12,.val (.int .i64 ts.length))],ts:=T,lc:=X} S .nil=some R:=by
  intro e9 T X h9
  rcases kof_or 1 K with ⟨hk,rfl⟩ | hk
  ·rw [hk,show intVs []=[] from rfl]
   simp (config:={implicitDefEqProofs:=false}) [-zia,h9,hz0,← hR,show intVs []=[] from rfl,-zil,-zit,-znl,-znt,ty3,ty4,ty22,ty42,ty70,ty77,ty79,H78,E78,e78_25,n78_8]
  ·rw [hk]
   simp (config:={implicitDefEqProofs:=false}) [-zia,h9,hz,← hR,-zil,-zit,-znl,-znt,ty3,ty4,ty22,ty42,ty70,ty77,ty79,H78,E78,e78_25,n78_8]
 have LL:=fun e9 T X h9=>LF229 ts hts htl A hA f S R K H25 ts.length 0 [] e9 T X h9 (Nat.zero_le _) rfl (by rw [List.drop_zero];exact hK.symm) (Nat.zero_le _)
 rw [show ((0:Nat):Int)=0 from rfl] at LL
 rw [show kof 1 ([]:List Int)=0 from rfl,show intVs []=[] from rfl] at LL
 simp (config:={implicitDefEqProofs:=false}) [-zil,-zit,-znl,-znt,ty3,ty4,ty22,ty42,ty70,ty77,ty79,H78,E78,e78_25,n78_8]
 exact LL _ _ _ (.inl rfl)
theorem k78 (ts:List Tbl)(hts:∀ t∈ts,(∀ g∈t.fs,POk g)∧t.fs.length<1000000)(htl:ts.length<100000)(A:List Attr)(hA:A.length<1000)(f:Int)(fr:Fr)(st:St):callStep gS (EvF gS) 78 [.slice (encTbls ts),.slice (encAttrs A),.int .i64 f] fr st=some (.ok (.val (.slice (intVs (fwdT A f ts [])))) fr st) :=
 call_pure rfl fi229_eq rfl (fun st=>c78 ts hts htl A hA f st) (by simp [V.flat])
def fi46:FI:={body:=codeOf Try.f46,ntmps:=80,results:=[.tmp 8],pers:=[0,1,2,3,8,9,10,11,12,13,14,15],locals:=[],pure:=false,marks:=[19,1000000]}
theorem H46:fi46.marks=[19,1000000]∧fi46.locals=[]∧fi46.results=[.tmp 8]:=⟨rfl,rfl,rfl⟩
theorem fi231_eq:gS.fn 46=some fi46:=by kernel_rfl
theorem st46 (a0 a1 a2 a3:V):startFr fi46 [a0,a1,a2,a3]={ps:=[(0,.val a0),(1,.val a1),(2,.val a2),(3,.val a3),(8,.any),(9,.any),(10,.any),(11,.any),(12,.any),(13,.any),(14,.any),(15,.any)],ts:=[],lc:=[]}:=rfl
def b46:Code:=mini (codeOf Try.f46)
def c46_14:Code:=.cond (.tmp 30) .skip (.exit 0)
def c46_12:Code:=.seq (codeN b46 535) c46_14
def r46_20:Array Oper:=regOps (codeN (codeOf Try.f46) 2199)
def c46_20:Code:=.region 6 r46_20 true
def q46_20:List (Oper × Fl):=[(mv 33 10 110,qz0),
 (mv 34 11 3,qz0),
 (ixa 35 110 33 34 0,qz0),
 (op1 36 (.indexAddr 109 (.tmp 35) (.const (.int .i64 0))) 0,qz0),
 (ld 37 3 36 3,qz0),
 (mv 38 10 110,qz0),
 (mv 39 11 3,qz0),
 (ixa 40 110 38 39 0,qz0),
 (op1 41 (.indexAddr 109 (.tmp 40) (.const (.int .i64 1))) 0,qz0),
 (ld 42 3 41 3,qz0),
 (asn 12 37 3,qz1),
 (asn 13 42 3,qz6)]
def c46_25:Code:=.seq (codeN b46 38039) .ret
def c46_24:Code:=.cond (.tmp 50) c46_25 .skip
def c46_22:Code:=.seq (codeN b46 9367) c46_24
def c46_40:Code:=.cond (.tmp 67) .skip (.exit 2)
def c46_38:Code:=.seq (codeN b46 556183) c46_40
def c46_45:Code:=codeN b46 1211543
def c46_46:Code:=codeN b46 949399
def c46_43:Code:=.seq (.block 3 c46_45) c46_46
def c46_37:Code:=.seq c46_38 c46_43
def c46_36:Code:=.loop c46_37
def c46_35:Code:=.block 2 c46_36
def c46_33:Code:=.seq (codeN b46 48279) c46_35
def c46_31:Code:=.seq (codeN b46 23703) c46_33
def c46_29:Code:=.seq (codeN b46 11415) c46_31
def c46_21:Code:=.seq c46_22 c46_29
def c46_19:Code:=.seq c46_20 c46_21
def c46_47:Code:=codeN b46 919
theorem e46_47:evK gS fi46 c46_47 fr st k=opsR gS fi46 [mv 31 11 3,
 qB 32 .add 3 31 1 3 3,
 asn 11 32 3] fr st k:=evK_r 5 (by kernel_rfl)
def c46_17:Code:=.seq (.block 1 c46_19) c46_47
def c46_11:Code:=.seq c46_12 c46_17
def c46_10:Code:=.loop c46_11
def c46_9:Code:=.block 0 c46_10
def c46_7:Code:=.seq (codeN b46 39) c46_9
def c46_48:Code:=.seq (codeN b46 47) .ret
def c46_6:Code:=.seq c46_7 c46_48
def c46_4:Code:=.seq (codeN b46 11) c46_6
def c46_2:Code:=.seq (codeN b46 5) c46_4
def c46_0:Code:=.seq (codeN b46 2) c46_2
theorem E46:evK gS fi46 c46_14 fr st k=condK gS fi46 (fr.op (.tmp 30)).bool? .skip (.exit 0) fr st k ∧
 (evK gS fi46 c46_12 fr st k=opsR gS fi46 [mv 23 11 3,
 mv 24 10 110,
 len1 25 24 110 3,
 bop 26 .lss 3 23 25 3 4,
 mv 27 26 4,
 qm 28 11 3 4 true,
 qc 29 .lss 3 28 100 3 4 4 true,
 qP 30 27 29 false 4] fr st (.seq c46_14 k)) ∧
 evK gS fi46 c46_20 fr st k=drwR gS fi46 r46_20 q46_20 fr st k ∧
 evK gS fi46 c46_25 fr st k=opsR gS fi46 [qN 8 22] fr st (.seq .ret k) ∧
 evK gS fi46 c46_24 fr st k=condK gS fi46 (fr.op (.tmp 50)).bool? c46_25 .skip fr st k ∧
 (evK gS fi46 c46_22 fr st k=opsR gS fi46 [mv 43 12 3,
 qB 44 .lss 3 43 0 3 4,
 mv 45 44 4,
 qm 46 12 3 2 false,
 qm 47 0 22 2 false,
 qe 48 47 22 3 2 false,
 qb 49 .gtr 3 46 48 3 4 2 false,
 qQ 50 45 true 49 4] fr st (.seq c46_24 k)) ∧
 evK gS fi46 c46_40 fr st k=condK gS fi46 (fr.op (.tmp 67)).bool? .skip (.exit 2) fr st k ∧
 (evK gS fi46 c46_38 fr st k=opsR gS fi46 [mv 64 15 3,
 mv 65 14 22,
 len1 66 65 22 3,
 bop 67 .lss 3 64 66 3 4] fr st (.seq c46_40 k)) ∧
 (evK gS fi46 c46_45 fr st k=opsR gS fi46 [mv 70 10 110,
 mv 71 14 22,
 mv 72 15 3,
 ixa 73 22 71 72 0,
 ld 74 3 73 3,
 mv 75 12 3,
 op1 76 (.build 109 #[(0,(.tmp 74)),(1,(.tmp 75))]) 109,
 qS 77 110 76 110,
 qE 78 70 77 110 110,
 asn 10 78 110] fr st k) ∧
 (evK gS fi46 c46_46 fr st k=opsR gS fi46 [mv 68 15 3,
 qB 69 .add 3 68 1 3 3,
 asn 15 69 3] fr st k) ∧
 evK gS fi46 c46_43 fr st k=evK gS fi46 c46_45 fr st (.blk 3 (.seq c46_46 k)) ∧
 evK gS fi46 c46_37 fr st k=evK gS fi46 c46_38 fr st (.seq c46_43 k) ∧
 evK gS fi46 c46_35 fr st k=evK gS fi46 c46_36 fr st (.blk 2 k) ∧
 evK gS fi46 c46_33 fr st k=opsR gS fi46 [qI 15 0 3] fr st (.seq c46_35 k) ∧
 (evK gS fi46 c46_31 fr st k=opsR gS fi46 [mv 57 1 80,
 mv 58 12 3,
 ixa 59 80 57 58 0,
 ld 60 70 59 70,
 mv 61 2 42,
 mv 62 13 3,
 cal 63 78 [(.tmp 60),(.tmp 61),(.tmp 62)] [70,42,3] 22,
 asn 14 63 22] fr st (.seq c46_33 k)) ∧
 (evK gS fi46 c46_29 fr st k=opsR gS fi46 [mv 51 9 22,
 mv 52 12 3,
 ixa 53 22 51 52 0,
 ld 54 3 53 3,
 qB 55 .add 3 54 1 3 3,
 ixa 56 22 51 52 0,
 sto 3 56 55] fr st (.seq c46_31 k)) ∧
 evK gS fi46 c46_21 fr st k=evK gS fi46 c46_22 fr st (.seq c46_29 k) ∧
 evK gS fi46 c46_19 fr st k=evK gS fi46 c46_20 fr st (.seq c46_21 k) ∧
 evK gS fi46 c46_17 fr st k=evK gS fi46 c46_19 fr st (.blk 1 (.seq c46_47 k)) ∧
 evK gS fi46 c46_11 fr st k=evK gS fi46 c46_12 fr st (.seq c46_17 k) ∧
 evK gS fi46 c46_9 fr st k=evK gS fi46 c46_10 fr st (.blk 0 k) ∧
 evK gS fi46 c46_7 fr st k=opsR gS fi46 [qI 11 0 3] fr st (.seq c46_9 k) ∧
 (evK gS fi46 c46_48 fr st k=opsR gS fi46 [mv 79 9 22,
 asn 8 79 22] fr st (.seq .ret k)) ∧
 evK gS fi46 c46_6 fr st k=evK gS fi46 c46_7 fr st (.seq c46_48 k) ∧
 (evK gS fi46 c46_4 fr st k=opsR gS fi46 [mv 20 3 3,
 op1 21 (.build 109 #[(0,(.tmp 20)),(1,(.const (.int .i64 (-1))))]) 109,
 qS 22 110 21 110,
 asn 10 22 110] fr st (.seq c46_6 k)) ∧
 (evK gS fi46 c46_2 fr st k=opsR gS fi46 [mv 16 0 22,
 len1 17 16 22 3,
 qB 18 .add 3 17 1 3 3,
 op1 19 (.makeSlice 22 (.tmp 18) (.tmp 18)) 22,
 asn 9 19 22] fr st (.seq c46_4 k)) ∧
 evK gS fi46 c46_0 fr st k=opsR gS fi46 [qN 8 22] fr st (.seq c46_2 k):=⟨rfl,evK_rs 4 rfl (by kernel_rfl),evK_dr 6 rfl (by kernel_rfl) (by kernel_rfl),evK_rs 8 rfl (by kernel_rfl),rfl,evK_rs 7 rfl (by kernel_rfl),rfl,evK_rs 12 rfl (by kernel_rfl),evK_r 14 (by kernel_rfl),evK_r 13 (by kernel_rfl),rfl,rfl,rfl,evK_rs 11 rfl (by kernel_rfl),evK_rs 10 rfl (by kernel_rfl),evK_rs 9 rfl (by kernel_rfl),rfl,rfl,rfl,rfl,rfl,evK_rs 3 rfl (by kernel_rfl),evK_rs 15 rfl (by kernel_rfl),rfl,evK_rs 2 rfl (by kernel_rfl),evK_rs 1 rfl (by kernel_rfl),evK_rs 0 rfl (by kernel_rfl)⟩
theorem m46:mini fi46.body=c46_0:=by kernel_rfl
theorem n46_36 (fr:Fr)(st:St)(k:Kt):nextK gS fi46 (.loop c46_37 k) .normal fr st=evK gS fi46 c46_36 fr st k:=rfl
theorem n46_10 (fr:Fr)(st:St)(k:Kt):nextK gS fi46 (.loop c46_11 k) .normal fr st=evK gS fi46 c46_10 fr st k:=rfl
def encPr (l:List (Nat × Int)):List V:=l.map fun e=>.agg [.int .i64 (e.1:Nat),.int .i64 e.2]
theorem encPr_length (l:List (Nat × Int)):(encPr l).length=l.length:=by simp [encPr]
theorem encPr_get (l:List (Nat × Int))(i:Nat):(encPr l)[i]?=(l[i]?).map fun e=>.agg [.int .i64 (e.1:Nat),.int .i64 e.2]:=by simp [encPr]
theorem encPr_gE (l:List (Nat × Int))(i:Nat)(h:i<(encPr l).length):(encPr l)[i]'h=.agg [.int .i64 ((l[i]'(by rw [encPr_length] at h;exact h)).1:Nat),.int .i64 (l[i]'(by rw [encPr_length] at h;exact h)).2]:=by simp [encPr]
theorem flats_pr (l:List (Nat × Int)):flats (encPr l)=true:=by
 induction l with
 | nil=>rfl
 | cons x r ih=>simpa [encPr,flats,V.flat] using ih
theorem sizes_pr (l:List (Nat × Int)):sizesOk 2 (encPr l)=true:=by
 induction l with
 | nil=>rfl
 | cons x r ih=>simp only [encPr,List.map_cons,sizesOk] at ih ⊢;rw [ih];rfl
theorem pr_snoc (l:List (Nat × Int))(n:Nat)(f:Int):encPr l ++ [.agg [.int .i64 (n:Nat),.int .i64 f]]=encPr (l ++ [(n,f)]):=by simp [encPr]
def encTT (tt:List (List Tbl)):List V:=tt.map fun ts=>.slice (encTbls ts)
theorem encTT_length (l:List (List Tbl)):(encTT l).length=l.length:=by simp [encTT]
theorem encTT_get (l:List (List Tbl))(i:Nat):(encTT l)[i]?=(l[i]?).map fun ts=>.slice (encTbls ts):=by simp [encTT]
theorem encTT_gE (l:List (List Tbl))(i:Nat)(h:i<(encTT l).length):(encTT l)[i]'h=.slice (encTbls (l[i]'(by rw [encTT_length] at h;exact h))):=by simp [encTT]
attribute [simp] encPr_length encPr_get encPr_gE flats_pr encTT_length encTT_get encTT_gE
theorem zero_cells (n:Nat):(List.replicate n (V.int .i64 0)).flatMap V.cells=intVs (List.replicate n 0):=by
 induction n with
 | zero=>rfl
 | succ n ih=>rw [List.replicate_succ,List.flatMap_cons,ih];rfl
theorem got_frz (S:St)(hS:S.wp≤S.objs.length)(g:List Int)(h0:0<g.length):frz 6 (nw S 0 (intVs g)) (.sref false 1 S.objs.length 0 g.length)=some (.slice (intVs g),dd S 1):=by
 have h1:=frz_ref (S:=nw S 0 (intVs g)) (id:=S.objs.length) (len:=g.length) (l:=g) (nw_obj0 S _) hS h0 (Nat.le_refl _)
 have h2:=nw_kill hS 0 (intVs g)
 rw [Nat.add_zero,set_some (S:=nw S 0 (intVs g)) hS] at h2
 rw [h1,List.take_length,Option.some.inj h2]
theorem got_get (S:St)(g:List Int):St.obj (nw S 0 (intVs g)) S.objs.length=some (intVs g):=nw_obj0 S _
theorem got_set (S:St)(hS:S.wp≤S.objs.length)(g:List Int)(cs:List V):St.set (nw S 0 (intVs g)) S.objs.length cs=some (nw S 0 cs):=by
 have:=nw_set hS 0 (intVs g) cs
 rw [Nat.add_zero] at this;exact this
theorem got_splice {g:List Int} {b:Nat} (hb:b<g.length)(x:Int):splice (intVs g) b [.int .i64 x]=some (intVs (g.set b x)):=by
 have:=row_splice (fun x:Int=>[V.int .i64 x]) 1 (fun _=>rfl) (l:=g) (i:=b) (j:=0) (y:=x) (vs:=[.int .i64 x]) (zge hb) rfl
 have e:∀ l:List Int,l.flatMap (fun x:Int=>[V.int .i64 x])=intVs l:=fun l=>by
  induction l with
  | nil=>rfl
  | cons a r ih=>rw [List.flatMap_cons,ih];rfl
 rw [e,e,Nat.mul_one,Nat.add_zero] at this
 exact this
theorem LK231 (p:List Int)(hp:Tr p)(W:Nat→Bool)(A:List Attr)(hA:A.length<1000)(tt:List (List Tbl))(htt:∀ b,b≤p.length→∃ ts,tt[b]?=some ts∧(∀ t∈ts,(∀ g∈t.fs,POk g)∧t.fs.length<1000000)∧ts.length<100000∧∀ f,fwdT A f ts []=(kidsF p W b f).map fun n:Nat=>(n:Int)) (t0:Int) (S:St) (hS:S.wp≤S.objs.length) (R:Out × St) (g:List Int) (i b:Nat) (f:Int) (ks:List Int) (hks:∀ n∈ks,0≤n) (hkl:ks.length≤100) (fin:List (Nat × Int))
  (H:∀  (T:List (Nat × E)) (X:List (Nat × List V)),evK gS fi46 c46_47 {ps:=[(0,.val (.slice (intVs p))),(1,.val (.slice (encTT tt))),(2,.val (.slice (encAttrs A))),(3,.val (.int .i64 t0)),(8,.own 0 []),(9,.val (.sref false 1 S.objs.length 0 (p.length+1))),(10,.own 2 (encPr fin)),(11,.val (.int .i64 (i:Nat))),(12,.val (.int .i64 (b:Nat))),(13,.val (.int .i64 f)),(14,.val (.slice (intVs ks))),(15,.val (.int .i64 ks.length))],ts:=T,lc:=X} (nw S 0 (intVs g)) (.loop c46_11 (.blk 0 (.seq c46_48 .nil)))=some R) :
  ∀ (m q:Nat) (todo:List (Nat × Int))  (T:List (Nat × E)) (X:List (Nat × List V)) ,q≤ks.length→ks.length - q=m→fin=todo ++ (ks.drop q).map (fun n=>(n.toNat,(b:Int)))→todo.length≤100000+q →
  evK gS fi46 c46_36 {ps:=[(0,.val (.slice (intVs p))),(1,.val (.slice (encTT tt))),(2,.val (.slice (encAttrs A))),(3,.val (.int .i64 t0)),(8,.own 0 []),(9,.val (.sref false 1 S.objs.length 0 (p.length+1))),(10,.own 2 (encPr todo)),(11,.val (.int .i64 (i:Nat))),(12,.val (.int .i64 (b:Nat))),(13,.val (.int .i64 f)),(14,.val (.slice (intVs ks))),(15,.val (.int .i64 (q:Nat)))],ts:=T,lc:=X} (nw S 0 (intVs g)) (.blk 2 (.blk 1 (.seq c46_47 (.loop c46_11 (.blk 0 (.seq c46_48 .nil))))))=some R:=by
 intro m
 induction m with
 | zero =>
  intro q todo  T X  hq hm2 hf hol
  obtain rfl:q=ks.length:=by omega
  rw [List.drop_length,List.map_nil,List.append_nil] at hf
  subst hf
  refine evK_loop c46_37 _ _ _ _ rfl ?_
  simp (config:={implicitDefEqProofs:=false}) [-zia,-St.obj,-St.set,-zil,-zit,-znl,-znt,ty3,ty4,ty22,ty42,ty70,ty80,ty109,ty110,H46,fi229_eq,E46,q46_20,n46_36,n46_10]
  exact H  _ _
 | succ m ih =>
  intro q todo  T X  hq hm2 hf hol
  obtain ⟨x,hx⟩  := qgx (l:=ks) (i:=q) (by omega)
  have hlt:(q:Int)<(ks.length:Int):=by omega
  obtain ⟨hlt2,hxe⟩:=List.getElem?_eq_some_iff.1 hx
  have hw  := qws q (by omega)
  rw [drop_get hx,List.map_cons,List.append_cons] at hf
  have hx0:=hks x (zmg hx)
  obtain ⟨n,rfl⟩:∃ n:Nat,x=(n:Int):=⟨x.toNat,by omega⟩
  rw [Int.toNat_natCast] at hf
  have hs1:=sizes_pr todo
  have hs2:=pr_snoc todo n (b:Int)
  have b1:(todo.length+1)*16≤140737488355328:=by omega
  have b2:todo.length+1≤140737488355328:=by omega
  have IH:=fun T X=>ih (q+1) (todo ++ [(n,(b:Int))]) T X (by omega) (by omega) hf (by simp;omega)
  refine evK_loop c46_37 _ _ _ _ rfl ?_
  simp (config:={implicitDefEqProofs:=false}) [-zia,-St.obj,-St.set,-zaa,hx,hxe,hlt,hlt2,hw,hs1,hs2,b1,b2,-zil,-zit,-znl,-znt,ty3,ty4,ty22,ty42,ty70,ty80,ty109,ty110,H46,fi229_eq,E46,q46_20,e46_47,n46_36,n46_10]
  exact IH _ _
theorem L46 (p:List Int)(hp:Tr p)(W:Nat→Bool)(A:List Attr)(hA:A.length<1000)(tt:List (List Tbl))(htt:∀ b,b≤p.length→∃ ts,tt[b]?=some ts∧(∀ t∈ts,(∀ g∈t.fs,POk g)∧t.fs.length<1000000)∧ts.length<100000∧∀ f,fwdT A f ts []=(kidsF p W b f).map fun n:Nat=>(n:Int)) (t0:Int) (S:St) (hS:S.wp≤S.objs.length) (R:Out × St):∀ (m i:Nat) (todo:List (Nat × Int)) (g:List Int) (e12 e13 e14 e15:E) (T:List (Nat × E)) (X:List (Nat × List V)),e12.Tame→e13.Tame→e14.Tame→e15.Tame→i+m=100→i≤todo.length→todo.length≤10*i+1→g.length=p.length+1→(∀ x∈g,0≤x∧x≤i) →
  (∀ e∈todo.drop i,e.1≤p.length)→R=(.ret (.slice (intVs (spr p W m (todo.drop i) g))) none,dd S 1) →
  evK gS fi46 c46_10 {ps:=[(0,.val (.slice (intVs p))),(1,.val (.slice (encTT tt))),(2,.val (.slice (encAttrs A))),(3,.val (.int .i64 t0)),(8,.own 0 []),(9,.val (.sref false 1 S.objs.length 0 (p.length+1))),(10,.own 2 (encPr todo)),(11,.val (.int .i64 (i:Nat))),(12,e12),(13,e13),(14,e14),(15,e15)],ts:=T,lc:=X} (nw S 0 (intVs g)) (.blk 0 (.seq c46_48 .nil))=some R:=by
 have hend:∀ (i:Nat) (todo:List (Nat × Int)) (g:List Int) (e12 e13 e14 e15:E) (T:List (Nat × E)) (X:List (Nat × List V)),e12.Tame→e13.Tame→e14.Tame→e15.Tame→(i=100∨todo.length≤i)→g.length=p.length+1→R=(.ret (.slice (intVs g)) none,dd S 1) →
   evK gS fi46 c46_10 {ps:=[(0,.val (.slice (intVs p))),(1,.val (.slice (encTT tt))),(2,.val (.slice (encAttrs A))),(3,.val (.int .i64 t0)),(8,.own 0 []),(9,.val (.sref false 1 S.objs.length 0 (p.length+1))),(10,.own 2 (encPr todo)),(11,.val (.int .i64 (i:Nat))),(12,e12),(13,e13),(14,e14),(15,e15)],ts:=T,lc:=X} (nw S 0 (intVs g)) (.blk 0 (.seq c46_48 .nil))=some R:=by
  intro i todo g e12 e13 e14 e15 T X h12 h13 h14 h15 hc hg hR
  have hz:=got_frz S hS g (by omega)
  rw [hg] at hz
  refine evK_loop c46_11 _ _ _ _ rfl ?_
  by_cases h1:i<todo.length
  ·have h1i:(i:Int)<(todo.length:Int):=by omega
   have h2:¬ i<100:=by omega
   have h2i:¬ (i:Int)<100:=by omega
   simp (config:={implicitDefEqProofs:=false}) [-zia,-St.obj,-St.set,h12,h13,h14,h15,h1,h1i,h2,h2i,hz,hR,-zil,-zit,-znl,-znt,ty3,ty4,ty22,ty42,ty70,ty80,ty109,ty110,H46,fi229_eq,E46,q46_20,e46_47,n46_36,n46_10]
  ·have h1i:¬ (i:Int)<(todo.length:Int):=by omega
   simp (config:={implicitDefEqProofs:=false}) [-zia,-St.obj,-St.set,h12,h13,h14,h15,h1,h1i,hz,hR,-zil,-zit,-znl,-znt,ty3,ty4,ty22,ty42,ty70,ty80,ty109,ty110,H46,fi229_eq,E46,q46_20,e46_47,n46_36,n46_10]
 intro m
 induction m with
 | zero =>
  intro i todo g e12 e13 e14 e15 T X h12 h13 h14 h15 hi hil htl hg hgb hv hR
  exact hend i todo g e12 e13 e14 e15 T X h12 h13 h14 h15 (.inl (by omega)) hg hR
 | succ m ih =>
  intro i todo g e12 e13 e14 e15 T X h12 h13 h14 h15 hi hil htl hg hgb hv hR
  rcases Nat.lt_or_ge i todo.length with h1 | h1
  ·obtain ⟨e,he⟩:∃ e,todo[i]?=some e:=⟨todo[i],zge h1⟩
   obtain ⟨b,f⟩:=e
   obtain ⟨_,hee⟩:=List.getElem?_eq_some_iff.1 he
   have h1i:(i:Int)<(todo.length:Int):=by omega
   have h2:i<100:=by omega
   have h2i:(i:Int)<100:=by omega
   have hw  := qws i (by omega)
   rw [drop_get he] at hv hR
   have hb:b≤p.length:=hv (b,f) (by simp)
   obtain ⟨ts,t1,t2,t3,t4⟩:=htt b hb
   obtain ⟨tl,te⟩:=List.getElem?_eq_some_iff.1 t1
   have tli:(b:Int)<(tt.length:Int):=by omega
   have kf:=fun fr st=>k78 ts t2 t3 A hA f fr st
   rw [t4 f] at kf
   have hb0:¬ (b:Int)<0:=by omega
   have hb1:¬ (p.length:Int)<(b:Int):=by omega
   have hb1':¬ p.length<b:=by omega
   have hb2:b<p.length+1:=by omega
   have hb2i:(b:Int)<((p.length+1:Nat):Int):=by omega
   have hb2j:(b:Int)<(p.length:Int)+1:=by omega
   have hbg:b<g.length:=by omega
   obtain ⟨x,hx⟩:∃ x,g[b]?=some x:=⟨g[b],zge hbg⟩
   obtain ⟨_,hxe⟩:=List.getElem?_eq_some_iff.1 hx
   have hxb:=hgb x (zmg hx)
   have hwx:IntKind.wrap .i64 (x+1)=x+1:=wrap64 (by omega) (by omega)
   have hsp:=got_splice hbg (x+1)
   have hob:=got_get S g
   have hst:=fun cs=>got_set S hS g cs
   have hinc:g.set b (x+1)=incL g b:=by unfold incL;rw [List.getD_eq_getElem?_getD,hx];rfl
   rw [hinc] at hsp
   have hkl:=kids_len hp (W:=W) (b:=b) f
   have hkv:∀ n∈kidsF p W b f,n≤p.length:=fun n hn=>kids_le hp hb hn
   rw [show spr p W (m+1) ((b,f) :: todo.drop (i+1)) g=spr p W m (todo.drop (i+1) ++ (kidsF p W b f).map fun n=>(n,(b:Int))) (incL g b) from rfl] at hR
   generalize kidsF p W b f=kids at *
   have hm2:(kids.map fun n:Nat=>(n:Int)).map (fun n=>(n.toNat,(b:Int)))=kids.map fun n=>(n,(b:Int)):=by
    rw [List.map_map];rfl
   have hdr:(todo ++ kids.map fun n=>(n,(b:Int))).drop (i+1)=todo.drop (i+1) ++ kids.map fun n=>(n,(b:Int)):=by
    rw [List.drop_append_of_le_length (by omega)]
   have hol:(incL g b).length=p.length+1:=by unfold incL;rw [List.length_set];exact hg
   have hob2:∀ y∈incL g b,0≤y∧y≤((i+1:Nat):Int):=fun y hy=>by
    rw [← hinc] at hy
    rcases List.mem_or_eq_of_mem_set hy with hy | rfl
    ·have:=hgb y hy;omega
    ·omega
   have IH:=fun e12 e13 e14 e15 T X h12 h13 h14 h15=>ih (i+1) (todo ++ kids.map fun n=>(n,(b:Int))) (incL g b) e12 e13 e14 e15 T X h12 h13 h14 h15 (by omega) (by simp;omega) (by simp;omega) hol hob2 (fun e he=>by
    rw [hdr] at he
    rcases List.mem_append.1 he with he | he
    ·exact hv e (by simp [he])
    ·obtain ⟨n,hn,rfl⟩:=List.mem_map.1 he
     exact hkv n hn) (by rw [hdr];exact hR)
   have hks:∀ n∈(kids.map fun n:Nat=>(n:Int)),0≤n:=fun n hn=>by
    obtain ⟨k,_,rfl⟩:=List.mem_map.1 hn;omega
   have hksl:(kids.map fun n:Nat=>(n:Int)).length=kids.length:=List.length_map _
   generalize (kids.map fun n:Nat=>(n:Int))=ks at *
   have H47:∀ (T:List (Nat × E)) (X:List (Nat × List V)),evK gS fi46 c46_47 {ps:=[(0,.val (.slice (intVs p))),(1,.val (.slice (encTT tt))),(2,.val (.slice (encAttrs A))),(3,.val (.int .i64 t0)),(8,.own 0 []),(9,.val (.sref false 1 S.objs.length 0 (p.length+1))),(10,.own 2 (encPr (todo ++ kids.map fun n=>(n,(b:Int))))),(11,.val (.int .i64 (i:Nat))),(12,.val (.int .i64 (b:Nat))),(13,.val (.int .i64 f)),(14,.val (.slice (intVs ks))),(15,.val (.int .i64 ks.length))],ts:=T,lc:=X} (nw S 0 (intVs (incL g b))) (.loop c46_11 (.blk 0 (.seq c46_48 .nil)))=some R:=by
    intro T X
    simp (config:={implicitDefEqProofs:=false}) [-zia,-St.obj,-St.set,hw,-zil,-zit,-znl,-znt,ty3,ty4,ty22,ty42,ty70,ty80,ty109,ty110,H46,fi229_eq,E46,q46_20,e46_47,n46_36,n46_10]
    exact IH _ _ _ _ _ _ (tame_val _) (tame_val _) (tame_val _) (tame_val _)
   have LL:=fun T X=>LK231 p hp W A hA tt htt t0 S hS R (incL g b) i b f ks hks (by omega) (todo ++ kids.map fun n=>(n,(b:Int))) H47 ks.length 0 todo T X (Nat.zero_le _) rfl (by rw [List.drop_zero,hm2]) (by omega)
   rw [show ((0:Nat):Int)=0 from rfl] at LL
   have bo1:borOk r46_20 0 10 33=false:=by kernel_rfl
   have bo2:borOk r46_20 5 10 38=false:=by kernel_rfl
   refine evK_loop c46_11 _ _ _ _ rfl ?_
   simp (config:={implicitDefEqProofs:=false}) [-zia,-St.obj,-St.set,-splice,bo1,bo2,h12,h13,h14,h15,h1,h1i,h2,h2i,he,hee,hb0,hb1,hb1',hb2,hb2i,hb2j,hbg,hx,hxe,hwx,hob,hst,hsp,t1,te,tl,tli,kf,-zil,-zit,-znl,-znt,ty3,ty4,ty22,ty42,ty70,ty80,ty109,ty110,H46,fi229_eq,E46,q46_20,e46_47,n46_36,n46_10]
   exact LL _ _
  ·have hd:todo.drop i=[]:=List.drop_eq_nil_of_le h1
   rw [hd] at hR
   exact hend i todo g e12 e13 e14 e15 T X h12 h13 h14 h15 (.inr h1) hg hR
theorem c46 (p:List Int)(hp:Tr p)(W:Nat→Bool)(A:List Attr)(hA:A.length<1000)(tt:List (List Tbl))(htt:∀ b,b≤p.length→∃ ts,tt[b]?=some ts∧(∀ t∈ts,(∀ g∈t.fs,POk g)∧t.fs.length<1000000)∧ts.length<100000∧∀ f,fwdT A f ts []=(kidsF p W b f).map fun n:Nat=>(n:Int)) (t0:Nat) (ht:t0≤p.length) (S:St) (hS:S.wp≤S.objs.length) :
  EvF gS 46 [.slice (intVs p),.slice (encTT tt),.slice (encAttrs A),.int .i64 (t0:Nat)] S=some (.ret (.slice (intVs (spr p W 100 [(t0,-1)] (List.replicate (p.length+1) 0)))) none,dd S 1):=by
 refine EvF_start fi231_eq (fun x h=>by cases h) m46 ?_
 rw [st46]
 have h7:=hp.2
 have LL:=fun e12 e13 e14 e15 T X h12 h13 h14 h15=>L46 p hp W A hA tt htt (t0:Nat) S hS _ 100 0 [(t0,-1)] (List.replicate (p.length+1) 0) e12 e13 e14 e15 T X h12 h13 h14 h15 rfl (Nat.zero_le _) (by simp) (by simp) (fun x hx=>by rw [List.mem_replicate] at hx;omega) (fun e he=>by simp at he;subst he;exact ht) rfl
 rw [List.drop_zero,show ((0:Nat):Int)=0 from rfl] at LL
 generalize hR:(Out.ret (V.slice (intVs (spr p W 100 [(t0,-1)] (List.replicate (p.length+1) 0)))) none,dd S 1)=R at LL ⊢
 have hn:=newRef_nw S
 have hz:=zero_cells (p.length+1)
 have hw:IntKind.wrap .i64 ((p.length:Int)+1)=((p.length+1:Nat):Int):=by rw [wrap64 (by omega) (by omega)];omega
 have q1:(0:Int)≤((p.length+1:Nat):Int):=by omega
 have q2:((p.length+1:Nat):Int)*8≤140737488355328:=by omega
 have q3:((p.length+1:Nat):Int)≤140737488355328:=by omega
 have hp2:encPr [(t0,-1)]=[.agg [.int .i64 (t0:Nat),.int .i64 (-1)]]:=rfl
 rw [hp2] at LL
 simp (config:={implicitDefEqProofs:=false}) [-zia,-St.obj,-St.set,hw,q1,q2,q3,hn,hz,markStep,-zil,-zit,-znl,-znt,ty3,ty4,ty22,ty42,ty70,ty80,ty109,ty110,H46,fi229_eq,E46,q46_20,e46_47,n46_36,n46_10]
 exact LL _ _ _ _ _ _ tame_any tame_any tame_any tame_any
theorem k46 (p:List Int)(hp:Tr p)(W:Nat→Bool)(A:List Attr)(hA:A.length<1000)(tt:List (List Tbl))(htt:∀ b,b≤p.length→∃ ts,tt[b]?=some ts∧(∀ t∈ts,(∀ g∈t.fs,POk g)∧t.fs.length<1000000)∧ts.length<100000∧∀ f,fwdT A f ts []=(kidsF p W b f).map fun n:Nat=>(n:Int)) (t0:Nat) (ht:t0≤p.length) (fr:Fr) (S:St) (hS:S.wp≤S.objs.length) :
  callStep gS (EvF gS) 46 [.slice (intVs p),.slice (encTT tt),.slice (encAttrs A),.int .i64 (t0:Nat)] fr S=some (.ok (.val (.slice (intVs (spr p W 100 [(t0,-1)] (List.replicate (p.length+1) 0))))) (fr.map E.noMem) (dd S 1)):=by
 unfold callStep
 simp only [show gS.ext 46=none from rfl,fi231_eq,show fi46.pure=false from rfl,Bool.false_eq_true,if_false,c46 p hp W A hA tt htt t0 ht S hS,retE]
end
end Go.Proofs.Ytdoobejjedpcgaa
namespace Go.Proofs.Ytdoobejjedpcgaa
open Go Go.Ab
noncomputable section
variable (fr:Fr)(st:St)(k:Kt)
def fi9:FI:={body:=codeOf Try.f9,ntmps:=144,results:=[.tmp 6],pers:=[0,1,2,6,7,8,9,10,11,12,13,14,15,16,17,18,19,20],locals:=[],pure:=true,marks:=[59]}
theorem H9:fi9.marks=[59]∧fi9.locals=[]∧fi9.results=[.tmp 6]:=⟨rfl,rfl,rfl⟩
theorem fi249_eq:gS.fn 9=some fi9:=by kernel_rfl
theorem st9 (a0 a1 a2:V):startFr fi9 [a0,a1,a2]={ps:=[(0,.val a0),(1,.val a1),(2,.val a2),(6,.any),(7,.any),(8,.any),(9,.any),(10,.any),(11,.any),(12,.any),(13,.any),(14,.any),(15,.any),(16,.any),(17,.any),(18,.any),(19,.any),(20,.any)],ts:=[],lc:=[]}:=rfl
def b9:Code:=mini (codeOf Try.f9)
def c9_20:Code:=.cond (.tmp 37) .skip (.exit 0)
def c9_18:Code:=.seq (codeN b9 4287) c9_20
def c9_25:Code:=codeN b9 9407
def c9_26:Code:=codeN b9 7359
def c9_23:Code:=.seq (.block 1 c9_25) c9_26
def c9_17:Code:=.seq c9_18 c9_23
def c9_16:Code:=.loop c9_17
def c9_15:Code:=.block 0 c9_16
def c9_13:Code:=.seq (codeN b9 319) c9_15
def c9_37:Code:=.cond (.tmp 51) .skip (.exit 2)
def c9_35:Code:=.seq (codeN b9 17151) c9_37
def c9_54:Code:=.cond (.tmp 63) .skip (.exit 4)
def c9_52:Code:=.seq (codeN b9 8753919) c9_54
def c9_62:Code:=codeN b9 86348543
def c9_61:Code:=.cond (.tmp 72) c9_62 .skip
def c9_59:Code:=.seq (codeN b9 36016895) c9_61
def c9_64:Code:=codeN b9 15045375
def c9_57:Code:=.seq (.block 5 c9_59) c9_64
def c9_51:Code:=.seq c9_52 c9_57
def c9_50:Code:=.loop c9_51
def c9_49:Code:=.block 4 c9_50
def c9_47:Code:=.seq (codeN b9 627455) c9_49
def c9_71:Code:=.seq (codeN b9 9933567) .ret
def c9_70:Code:=.cond (.tmp 90) c9_71 .skip
def c9_68:Code:=.seq (codeN b9 2593535) c9_70
def c9_82:Code:=.cond (.tmp 94) .skip (.exit 6)
def c9_80:Code:=.seq (codeN b9 35623679) c9_82
def c9_97:Code:=.cond (.tmp 103) .skip (.exit 8)
def c9_95:Code:=.seq (codeN b9 8935936767) c9_97
def c9_102:Code:=codeN b9 19673355007
def c9_103:Code:=codeN b9 15378387711
def c9_100:Code:=.seq (.block 9 c9_102) c9_103
def c9_94:Code:=.seq c9_95 c9_100
def c9_93:Code:=.loop c9_94
def c9_92:Code:=.block 8 c9_93
def c9_90:Code:=.seq (codeN b9 614437631) c9_92
def c9_107:Code:=.seq (codeN b9 2627703551) .ret
def c9_106:Code:=.cond (.tmp 142) c9_107 .skip
def c9_104:Code:=.seq (codeN b9 748655359) c9_106
theorem e9_104:evK gS fi9 c9_104 fr st k=opsR gS fi9 [mv 129 17 22,
 mv 130 18 3,
 ixa 131 22 129 130 0,
 ld 132 3 131 3,
 qB 133 .gtr 3 132 1 3 4,
 mv 134 133 4,
 qm 135 17 22 5 false,
 qm 136 18 3 5 false,
 qi 137 22 135 136 0 5 false,
 ql 138 3 137 3 5 false,
 qc 139 .eql 3 138 1 3 4 5 false,
 qm 140 19 4 5 false,
 qb 141 .neq 4 139 140 4 4 5 false,
 qQ 142 134 true 141 4] fr st (.seq c9_106 k):=evK_rs 32 rfl (by kernel_rfl)
def c9_89:Code:=.seq c9_90 c9_104
def c9_87:Code:=.seq (codeN b9 144675583) c9_89
def c9_111:Code:=codeN b9 60789503
def c9_85:Code:=.seq (.block 7 c9_87) c9_111
def c9_79:Code:=.seq c9_80 c9_85
def c9_78:Code:=.loop c9_79
def c9_77:Code:=.block 6 c9_78
def c9_75:Code:=.seq (codeN b9 3117823) c9_77
def c9_67:Code:=.seq c9_68 c9_75
def c9_65:Code:=.seq (codeN b9 758527) c9_67
theorem e9_65:evK gS fi9 c9_65 fr st k=opsR gS fi9 [mv 80 8 22,
 mv 81 10 80,
 mv 82 14 42,
 mv 83 2 3,
 cal 84 46 [(.tmp 80),(.tmp 81),(.tmp 82),(.tmp 83)] [22,80,42,3] 22,
 asn 17 84 22] fr st (.seq c9_67 k):=evK_rs 21 rfl (by kernel_rfl)
def c9_46:Code:=.seq c9_47 c9_65
def c9_44:Code:=.seq (codeN b9 168703) c9_46
def c9_42:Code:=.seq (codeN b9 70399) c9_44
def c9_112:Code:=codeN b9 29439
theorem e9_112:evK gS fi9 c9_112 fr st k=opsR gS fi9 [mv 52 13 3,
 qB 53 .add 3 52 1 3 3,
 asn 13 53 3] fr st k:=evK_r 13 (by kernel_rfl)
def c9_40:Code:=.seq (.block 3 c9_42) c9_112
def c9_34:Code:=.seq c9_35 c9_40
def c9_33:Code:=.loop c9_34
def c9_32:Code:=.block 2 c9_33
def c9_30:Code:=.seq (codeN b9 1279) c9_32
def c9_113:Code:=.seq (codeN b9 1535) .ret
def c9_29:Code:=.seq c9_30 c9_113
def c9_27:Code:=.seq (codeN b9 383) c9_29
theorem e9_27:evK gS fi9 c9_27 fr st k=opsR gS fi9 [mv 47 1 22,
 op1 48 (.build 25 #[(0,(.tmp 47))]) 25,
 op1 49 (.box 25 (.tmp 48)) 23,
 asn 12 49 23] fr st (.seq c9_29 k):=evK_rs 10 rfl (by kernel_rfl)
def c9_12:Code:=.seq c9_13 c9_27
def c9_10:Code:=.seq (codeN b9 95) c9_12
def c9_8:Code:=.seq (codeN b9 47) c9_10
def c9_6:Code:=.seq (codeN b9 23) c9_8
def c9_4:Code:=.seq (codeN b9 11) c9_6
def c9_2:Code:=.seq (codeN b9 5) c9_4
def c9_0:Code:=.seq (codeN b9 2) c9_2
theorem E9:evK gS fi9 c9_20 fr st k=condK gS fi9 (fr.op (.tmp 37)).bool? .skip (.exit 0) fr st k ∧
 (evK gS fi9 c9_18 fr st k=opsR gS fi9 [mv 34 11 3,
 mv 35 8 22,
 len1 36 35 22 3,
 bop 37 .leq 3 34 36 3 4] fr st (.seq c9_20 k)) ∧
 (evK gS fi9 c9_25 fr st k=opsR gS fi9 [mv 40 10 80,
 mv 41 8 22,
 mv 42 9 26,
 mv 43 11 3,
 cal 44 39 [(.tmp 41),(.tmp 42),(.tmp 43)] [22,26,3] 70,
 qS 45 80 44 80,
 qE 46 40 45 80 80,
 asn 10 46 80] fr st k) ∧
 (evK gS fi9 c9_26 fr st k=opsR gS fi9 [mv 38 11 3,
 qB 39 .add 3 38 1 3 3,
 asn 11 39 3] fr st k) ∧
 evK gS fi9 c9_23 fr st k=evK gS fi9 c9_25 fr st (.blk 1 (.seq c9_26 k)) ∧
 evK gS fi9 c9_17 fr st k=evK gS fi9 c9_18 fr st (.seq c9_23 k) ∧
 evK gS fi9 c9_15 fr st k=evK gS fi9 c9_16 fr st (.blk 0 k) ∧
 evK gS fi9 c9_13 fr st k=opsR gS fi9 [qI 11 0 3] fr st (.seq c9_15 k) ∧
 evK gS fi9 c9_37 fr st k=condK gS fi9 (fr.op (.tmp 51)).bool? .skip (.exit 2) fr st k ∧
 (evK gS fi9 c9_35 fr st k=opsR gS fi9 [mv 50 13 3,
 qB 51 .lss 3 50 4 3 4] fr st (.seq c9_37 k)) ∧
 evK gS fi9 c9_54 fr st k=condK gS fi9 (fr.op (.tmp 63)).bool? .skip (.exit 4) fr st k ∧
 (evK gS fi9 c9_52 fr st k=opsR gS fi9 [mv 60 16 3,
 mv 61 9 26,
 len1 62 61 26 3,
 bop 63 .lss 3 60 62 3 4] fr st (.seq c9_54 k)) ∧
 (evK gS fi9 c9_62 fr st k=opsR gS fi9 [mv 73 15 81,
 mv 74 9 26,
 mv 75 16 3,
 ixa 76 26 74 75 0,
 qF 77 31 76 1 0,
 ld 78 3 77 3,
 ixa 79 81 73 78 0,
 mk none (.store 4 (.tmp 79) (.const (.bool true))) 0 none] fr st k) ∧
 evK gS fi9 c9_61 fr st k=condK gS fi9 (fr.op (.tmp 72)).bool? c9_62 .skip fr st k ∧
 (evK gS fi9 c9_59 fr st k=opsR gS fi9 [mv 66 9 26,
 mv 67 16 3,
 ixa 68 26 66 67 0,
 qF 69 31 68 3 0,
 ld 70 29 69 29,
 mv 71 14 42,
 cal 72 44 [(.tmp 70),(.tmp 71)] [29,42] 4] fr st (.seq c9_61 k)) ∧
 (evK gS fi9 c9_64 fr st k=opsR gS fi9 [mv 64 16 3,
 qB 65 .add 3 64 1 3 3,
 asn 16 65 3] fr st k) ∧
 evK gS fi9 c9_57 fr st k=evK gS fi9 c9_59 fr st (.blk 5 (.seq c9_64 k)) ∧
 evK gS fi9 c9_51 fr st k=evK gS fi9 c9_52 fr st (.seq c9_57 k) ∧
 evK gS fi9 c9_49 fr st k=evK gS fi9 c9_50 fr st (.blk 4 k) ∧
 evK gS fi9 c9_47 fr st k=opsR gS fi9 [qI 16 0 3] fr st (.seq c9_49 k) ∧
 evK gS fi9 c9_71 fr st k=opsR gS fi9 [qA 6 false 4] fr st (.seq .ret k) ∧
 evK gS fi9 c9_70 fr st k=condK gS fi9 (fr.op (.tmp 90)).bool? c9_71 .skip fr st k ∧
 (evK gS fi9 c9_68 fr st k=opsR gS fi9 [mv 85 17 22,
 len1 86 85 22 3,
 mv 87 8 22,
 len1 88 87 22 3,
 qB 89 .add 3 88 1 3 3,
 bop 90 .neq 3 86 89 3 4] fr st (.seq c9_70 k)) ∧
 evK gS fi9 c9_82 fr st k=condK gS fi9 (fr.op (.tmp 94)).bool? .skip (.exit 6) fr st k ∧
 (evK gS fi9 c9_80 fr st k=opsR gS fi9 [mv 91 18 3,
 mv 92 8 22,
 len1 93 92 22 3,
 bop 94 .leq 3 91 93 3 4] fr st (.seq c9_82 k)) ∧
 evK gS fi9 c9_97 fr st k=condK gS fi9 (fr.op (.tmp 103)).bool? .skip (.exit 8) fr st k ∧
 (evK gS fi9 c9_95 fr st k=opsR gS fi9 [mv 100 20 3,
 mv 101 8 22,
 len1 102 101 22 3,
 bop 103 .leq 3 100 102 3 4] fr st (.seq c9_97 k)) ∧
 (evK gS fi9 c9_102 fr st k=opsR gS fi9 [mv 106 19 4,
 mv 107 106 4,
 qm 108 15 81 1 false,
 qm 109 20 3 1 false,
 qi 110 81 108 109 0 1 false,
 ql 111 4 110 4 1 false,
 qm 112 111 4 1 false,
 qm 113 8 22 6 true,
 qm 114 2 3 6 true,
 qm 115 18 3 6 true,
 mk (some 116) (.call {callee:=(.value (.func 47)),args:=#[(.tmp 113),(.tmp 114),(.tmp 115)],argTypes:=#[22,3,3]}) 3 (some (6,true)),
 qm 117 8 22 6 true,
 qm 118 18 3 6 true,
 qm 119 20 3 6 true,
 mk (some 120) (.call {callee:=(.value (.func 47)),args:=#[(.tmp 117),(.tmp 118),(.tmp 119)],argTypes:=#[22,3,3]}) 3 (some (6,true)),
 qb 121 .add 3 116 120 3 3 6 true,
 qm 122 8 22 6 true,
 qm 123 2 3 6 true,
 qm 124 20 3 6 true,
 mk (some 125) (.call {callee:=(.value (.func 47)),args:=#[(.tmp 122),(.tmp 123),(.tmp 124)],argTypes:=#[22,3,3]}) 3 (some (6,true)),
 qb 126 .eql 3 121 125 3 4 6 true,
 mk (some 127) (.pick (.tmp 112) (.tmp 126) (.const (.bool false))) 4 (some (1,false)),
 qQ 128 107 true 127 4,
 asn 19 128 4] fr st k) ∧
 (evK gS fi9 c9_103 fr st k=opsR gS fi9 [mv 104 20 3,
 qB 105 .add 3 104 1 3 3,
 asn 20 105 3] fr st k) ∧
 evK gS fi9 c9_100 fr st k=evK gS fi9 c9_102 fr st (.blk 9 (.seq c9_103 k)) ∧
 evK gS fi9 c9_94 fr st k=evK gS fi9 c9_95 fr st (.seq c9_100 k) ∧
 evK gS fi9 c9_92 fr st k=evK gS fi9 c9_93 fr st (.blk 8 k) ∧
 evK gS fi9 c9_90 fr st k=opsR gS fi9 [qI 20 0 3] fr st (.seq c9_92 k) ∧
 evK gS fi9 c9_107 fr st k=opsR gS fi9 [qA 6 false 4] fr st (.seq .ret k) ∧
 evK gS fi9 c9_106 fr st k=condK gS fi9 (fr.op (.tmp 142)).bool? c9_107 .skip fr st k ∧
 evK gS fi9 c9_89 fr st k=evK gS fi9 c9_90 fr st (.seq c9_104 k) ∧
 (evK gS fi9 c9_87 fr st k=opsR gS fi9 [mv 97 18 3,
 mv 98 2 3,
 bop 99 .eql 3 97 98 3 4,
 asn 19 99 4] fr st (.seq c9_89 k)) ∧
 (evK gS fi9 c9_111 fr st k=opsR gS fi9 [mv 95 18 3,
 qB 96 .add 3 95 1 3 3,
 asn 18 96 3] fr st k) ∧
 evK gS fi9 c9_85 fr st k=evK gS fi9 c9_87 fr st (.blk 7 (.seq c9_111 k)) ∧
 evK gS fi9 c9_79 fr st k=evK gS fi9 c9_80 fr st (.seq c9_85 k) ∧
 evK gS fi9 c9_77 fr st k=evK gS fi9 c9_78 fr st (.blk 6 k) ∧
 evK gS fi9 c9_75 fr st k=opsR gS fi9 [qI 18 0 3] fr st (.seq c9_77 k) ∧
 evK gS fi9 c9_67 fr st k=evK gS fi9 c9_68 fr st (.seq c9_75 k) ∧
 evK gS fi9 c9_46 fr st k=evK gS fi9 c9_47 fr st (.seq c9_65 k) ∧
 (evK gS fi9 c9_44 fr st k=opsR gS fi9 [mv 56 8 22,
 len1 57 56 22 3,
 qB 58 .add 3 57 1 3 3,
 op1 59 (.makeSlice 81 (.tmp 58) (.tmp 58)) 81,
 asn 15 59 81] fr st (.seq c9_46 k)) ∧
 (evK gS fi9 c9_42 fr st k=opsR gS fi9 [mv 54 12 23,
 cal 55 17 [(.tmp 54)] [23] 42,
 asn 14 55 42] fr st (.seq c9_44 k)) ∧
 evK gS fi9 c9_40 fr st k=evK gS fi9 c9_42 fr st (.blk 3 (.seq c9_112 k)) ∧
 evK gS fi9 c9_34 fr st k=evK gS fi9 c9_35 fr st (.seq c9_40 k) ∧
 evK gS fi9 c9_32 fr st k=evK gS fi9 c9_33 fr st (.blk 2 k) ∧
 evK gS fi9 c9_30 fr st k=opsR gS fi9 [qI 13 0 3] fr st (.seq c9_32 k) ∧
 (evK gS fi9 c9_113 fr st k=opsR gS fi9 [cal 143 42 [] [] 4,
 asn 6 143 4] fr st (.seq .ret k)) ∧
 evK gS fi9 c9_29 fr st k=evK gS fi9 c9_30 fr st (.seq c9_113 k) ∧
 evK gS fi9 c9_12 fr st k=evK gS fi9 c9_13 fr st (.seq c9_27 k) ∧
 evK gS fi9 c9_10 fr st k=opsR gS fi9 [qN 10 80] fr st (.seq c9_12 k) ∧
 (evK gS fi9 c9_8 fr st k=opsR gS fi9 [mv 29 2 3,
 mv 30 8 22,
 len1 31 30 22 3,
 qB 32 .add 3 31 1 3 3,
 cal 33 29 [(.tmp 29),(.tmp 32)] [3,3] 3,
 asn 2 33 3] fr st (.seq c9_10 k)) ∧
 (evK gS fi9 c9_6 fr st k=opsR gS fi9 [mv 26 7 23,
 mv 27 8 22,
 cal 28 10 [(.tmp 26),(.tmp 27)] [23,22] 26,
 asn 9 28 26] fr st (.seq c9_8 k)) ∧
 (evK gS fi9 c9_4 fr st k=opsR gS fi9 [mv 24 7 23,
 cal 25 26 [(.tmp 24),(.const (.int .i64 8))] [23,3] 22,
 asn 8 25 22] fr st (.seq c9_6 k)) ∧
 (evK gS fi9 c9_2 fr st k=opsR gS fi9 [mv 21 0 22,
 op1 22 (.build 25 #[(0,(.tmp 21))]) 25,
 op1 23 (.box 25 (.tmp 22)) 23,
 asn 7 23 23] fr st (.seq c9_4 k)) ∧
 evK gS fi9 c9_0 fr st k=opsR gS fi9 [qA 6 false 4] fr st (.seq c9_2 k):=⟨rfl,evK_rs 7 rfl (by kernel_rfl),evK_r 9 (by kernel_rfl),evK_r 8 (by kernel_rfl),rfl,rfl,rfl,evK_rs 6 rfl (by kernel_rfl),rfl,evK_rs 12 rfl (by kernel_rfl),rfl,evK_rs 17 rfl (by kernel_rfl),evK_r 20 (by kernel_rfl),rfl,evK_rs 19 rfl (by kernel_rfl),evK_r 18 (by kernel_rfl),rfl,rfl,rfl,evK_rs 16 rfl (by kernel_rfl),evK_rs 23 rfl (by kernel_rfl),rfl,evK_rs 22 rfl (by kernel_rfl),rfl,evK_rs 25 rfl (by kernel_rfl),rfl,evK_rs 29 rfl (by kernel_rfl),evK_r 31 (by kernel_rfl),evK_r 30 (by kernel_rfl),rfl,rfl,rfl,evK_rs 28 rfl (by kernel_rfl),evK_rs 33 rfl (by kernel_rfl),rfl,rfl,evK_rs 27 rfl (by kernel_rfl),evK_r 26 (by kernel_rfl),rfl,rfl,rfl,evK_rs 24 rfl (by kernel_rfl),rfl,rfl,evK_rs 15 rfl (by kernel_rfl),evK_rs 14 rfl (by kernel_rfl),rfl,rfl,rfl,evK_rs 11 rfl (by kernel_rfl),evK_rs 34 rfl (by kernel_rfl),rfl,rfl,evK_rs 5 rfl (by kernel_rfl),evK_rs 4 rfl (by kernel_rfl),evK_rs 3 rfl (by kernel_rfl),evK_rs 2 rfl (by kernel_rfl),evK_rs 1 rfl (by kernel_rfl),evK_rs 0 rfl (by kernel_rfl)⟩
theorem m9:mini fi9.body=c9_0:=by kernel_rfl
theorem n9_16 (fr:Fr)(st:St)(k:Kt):nextK gS fi9 (.loop c9_17 k) .normal fr st=evK gS fi9 c9_16 fr st k:=rfl
theorem n9_50 (fr:Fr)(st:St)(k:Kt):nextK gS fi9 (.loop c9_51 k) .normal fr st=evK gS fi9 c9_50 fr st k:=rfl
theorem n9_93 (fr:Fr)(st:St)(k:Kt):nextK gS fi9 (.loop c9_94 k) .normal fr st=evK gS fi9 c9_93 fr st k:=rfl
theorem n9_78 (fr:Fr)(st:St)(k:Kt):nextK gS fi9 (.loop c9_79 k) .normal fr st=evK gS fi9 c9_78 fr st k:=rfl
theorem n9_33 (fr:Fr)(st:St)(k:Kt):nextK gS fi9 (.loop c9_34 k) .normal fr st=evK gS fi9 c9_33 fr st k:=rfl
def blVs (l:List Bool):List V:=l.map fun b=>.bool b
theorem blVs_length (l:List Bool):(blVs l).length=l.length:=by simp [blVs]
theorem blVs_get (l:List Bool)(i:Nat):(blVs l)[i]?=(l[i]?).map fun b=>V.bool b:=by simp [blVs]
theorem zero_bools (n:Nat):(List.replicate n (V.bool false)).flatMap V.cells=blVs (List.replicate n false):=by
 induction n with
 | zero=>rfl
 | succ n ih=>rw [List.replicate_succ,List.flatMap_cons,ih];rfl
theorem bl_splice {g:List Bool} {b:Nat} (hb:b<g.length)(x:Bool):splice (blVs g) b [.bool x]=some (blVs (g.set b x)):=by
 have:=row_splice (fun x:Bool=>[V.bool x]) 1 (fun _=>rfl) (l:=g) (i:=b) (j:=0) (y:=x) (vs:=[.bool x]) (zge hb) rfl
 have e:∀ l:List Bool,l.flatMap (fun x:Bool=>[V.bool x])=blVs l:=fun l=>by
  induction l with
  | nil=>rfl
  | cons a r ih=>rw [List.flatMap_cons,ih];rfl
 rw [e,e,Nat.mul_one,Nat.add_zero] at this
 exact this
theorem bl_set (S:St)(hS:S.wp≤S.objs.length)(cs cs':List V):St.set (nw S 0 cs) S.objs.length cs'=some (nw S 0 cs'):=by
 have:=nw_set hS 0 cs cs'
 rw [Nat.add_zero] at this;exact this
theorem obj_dd1 (S:St)(cs:List V)(k:Nat):St.obj (dd (nw S 0 cs) k) S.objs.length=some cs:=by
 have h:=nw_obj0 S cs
 unfold St.obj at h ⊢
 unfold dd
 simp only
 rw [List.getElem?_append_left (by have:=(List.getElem?_eq_some_iff.1 h).1;exact this)]
 exact h
theorem setF_nw {st:St} {id:Nat} (h:FeedOk st id)(cs:List V)(l:List Int)(a:Nat):nw (setF st id l a) 0 cs=setF (nw st 0 cs) id l a:=by
 unfold nw setF
 simp only
 rw [List.set_append_left _ _ h.1]
theorem sizes_tt (l:List (List Tbl)):sizesOk 1 (encTT l)=true:=by
 induction l with
 | nil=>rfl
 | cons x r ih=>simp only [encTT,List.map_cons,sizesOk] at ih ⊢;rw [ih];rfl
theorem tt_snoc (l:List (List Tbl))(t:List Tbl):encTT l ++ [.slice (encTbls t)]=encTT (l ++ [t]):=by simp [encTT]
theorem flats_tt (l:List (List Tbl)):flats (encTT l)=true:=by
 induction l with
 | nil=>rfl
 | cons x r ih=>simp only [encTT,List.map_cons,flats,V.flat,flats_tbls,Bool.true_and];exact ih
theorem blVs_gE (l:List Bool)(i:Nat)(h:i<(blVs l).length):(blVs l)[i]'h=.bool (l[i]'(by rw [blVs_length] at h;exact h)):=by simp [blVs]
attribute [simp] blVs_length blVs_get blVs_gE flats_tt
def wStep (A:List Attr)(ws:List Bool)(s:Sub):List Bool:=if ftakes s.filter A=true then ws.set s.broker.toNat true else ws
theorem wStep_len (A:List Attr)(ws:List Bool)(s:Sub):(wStep A ws s).length=ws.length:=by unfold wStep;split <;> simp
theorem wFold_len (A:List Attr):∀ (l:List Sub) (ws:List Bool),(l.foldl (wStep A) ws).length=ws.length
 | [],_=>rfl
 | s :: r,ws=>by rw [List.foldl_cons,wFold_len A r,wStep_len]
theorem wFold_get (A:List Attr)(w:Nat):∀ (l:List Sub) (ws:List Bool),w<ws.length→(∀ s∈l,0≤s.broker∧s.broker<ws.length)→(l.foldl (wStep A) ws)[w]?=some ((ws.getD w false) || wantB l A w)
 | [],ws,hw,_=>by
  rw [List.foldl_nil,List.getD_eq_getElem?_getD,zge hw];simp [wantB]
 | s :: r,ws,hw,hs=>by
  have hs0:=hs s (by simp)
  rw [List.foldl_cons,wFold_get A w r _ (by rw [wStep_len];exact hw) (fun t ht=>by rw [wStep_len];exact hs t (by simp [ht]))]
  congr 1
  show _=(ws.getD w false || ((decide (s.broker=(w:Int)) && ftakes s.filter A) || wantB r A w))
  rw [← Bool.or_assoc]
  congr 1
  unfold wStep
  by_cases hf:ftakes s.filter A=true
  ·rw [if_pos hf,hf,Bool.and_true]
   by_cases e:s.broker=(w:Int)
   ·rw [e,Int.toNat_natCast,List.getD_eq_getElem?_getD,List.getElem?_set_self hw];simp
   ·rw [List.getD_eq_getElem?_getD,List.getElem?_set_ne (by omega),← List.getD_eq_getElem?_getD];simp [e]
  ·have:ftakes s.filter A=false:=by simpa using hf
   rw [if_neg hf,this];simp
def oStep (p:List Int)(t b:Nat)(W:Nat→Bool)(on:Bool)(w:Nat):Bool:=on || (W w && decide (distT p (t:Int) (b:Int)+distT p (b:Int) (w:Int)=distT p (t:Int) (w:Int)))
theorem dist_nat {p:List Int} (h:Tr p) {a b:Nat} (ha:a≤p.length)(hb:b≤p.length):distT p (a:Int) (b:Int)=(dN p a b:Int):=by
 unfold distT dN
 rw [is_of h.1 h.2 ha,is_of h.1 h.2 hb]
 have:=path_pos p a b
 simp only [Bool.and_self,if_true,Int.toNat_natCast];omega
theorem oFold {p:List Int} (h:Tr p) {t b:Nat} (ht:t≤p.length)(hb:b≤p.length)(W:Nat→Bool):∀ (l:List Nat) (on:Bool),(∀ w∈l,w≤p.length)→l.foldl (oStep p t b W) on=(on || l.any fun w=>W w && decide (dN p t b+dN p b w=dN p t w))
 | [],on,_=>by simp
 | w :: r,on,hl=>by
  have hw:=hl w (by simp)
  rw [List.foldl_cons,oFold h ht hb W r _ (fun x hx=>hl x (by simp [hx])),List.any_cons,← Bool.or_assoc]
  congr 1
  unfold oStep
  rw [dist_nat h ht hb,dist_nat h hb hw,dist_nat h ht hw]
  congr 2
  by_cases e:dN p t b+dN p b w=dN p t w
  ·have:(dN p t b:Int)+(dN p b w:Int)=(dN p t w:Int):=by omega
   simp [e,this]
  ·have:¬ (dN p t b:Int)+(dN p b w:Int)=(dN p t w:Int):=by omega
   simp [e,this]
theorem oFold_on {p:List Int} (h:Tr p) {t b:Nat} (ht:t≤p.length)(hb:b≤p.length)(W:Nat→Bool):(List.range (p.length+1)).foldl (oStep p t b W) (decide (t=b))=onB p t W b:=by
 rw [oFold h ht hb W _ _ (fun w hw=>by rw [List.mem_range] at hw;omega)]
 unfold onB
 congr 1
 by_cases e:t=b
 ·subst e;simp
 ·have:¬ b=t:=fun x=>e x.symm
  simp [e,this]
theorem range_drop {n q:Nat} (h:q<n):(List.range n).drop q=q :: (List.range n).drop (q+1):=by
 have hx:(List.range n)[q]?=some q:=by rw [List.getElem?_range h]
 exact drop_get hx
theorem LA (l1 l2:List Int)(t0:Nat)(id:Nat)(p:List Int)(hp7:p.length≤7)(xs:List Sub)(hx1:∀ s∈xs,PSm s.filter)(hx2:xs.length≤18)(S:St)(R:Out × St)  (fin:List (List Tbl))
  (H:∀ (e12 e13 e14 e15 e16 e17 e18 e19 e20:E) (T:List (Nat × E)) (X:List (Nat × List V)),e12.Tame→e13.Tame→e14.Tame→e15.Firm→e16.Tame→e17.Tame→e18.Tame→e19.Tame→e20.Tame→evK gS fi9 c9_27 {ps:=[(0,.val (.slice (intVs l1))),(1,.val (.slice (intVs l2))),(2,.val (.int .i64 (t0:Nat))),(6,.val (.bool false)),(7,.val (.ptr id 0)),(8,.val (.slice (intVs p))),(9,.val (.slice (encSubs xs))),(10,.own (kof 1 fin) (encTT fin)),(11,.val (.int .i64 ((p.length+1:Nat):Int))),(12,e12),(13,e13),(14,e14),(15,e15),(16,e16),(17,e17),(18,e18),(19,e19),(20,e20)],ts:=T,lc:=X} S .nil=some R) :
  ∀ (m q:Nat) (out:List (List Tbl)) (e12 e13 e14 e15 e16 e17 e18 e19 e20:E) (T:List (Nat × E)) (X:List (Nat × List V)) (h12:e12.Tame) (h13:e13.Tame) (h14:e14.Tame) (h15:e15.Firm) (h16:e16.Tame) (h17:e17.Tame) (h18:e18.Tame) (h19:e19.Tame) (h20:e20.Tame),q≤(p.length+1)→(p.length+1) - q=m→fin=out ++ ((List.range (p.length+1)).drop q).map (fun b:Nat=>tablesT p xs (b:Int))→out.length≤q →
  evK gS fi9 c9_16 {ps:=[(0,.val (.slice (intVs l1))),(1,.val (.slice (intVs l2))),(2,.val (.int .i64 (t0:Nat))),(6,.val (.bool false)),(7,.val (.ptr id 0)),(8,.val (.slice (intVs p))),(9,.val (.slice (encSubs xs))),(10,.own (kof 1 out) (encTT out)),(11,.val (.int .i64 (q:Nat))),(12,e12),(13,e13),(14,e14),(15,e15),(16,e16),(17,e17),(18,e18),(19,e19),(20,e20)],ts:=T,lc:=X} S (.blk 0 (.seq c9_27 .nil))=some R:=by
 intro m
 induction m with
 | zero =>
  intro q out e12 e13 e14 e15 e16 e17 e18 e19 e20 T X h12 h13 h14 h15 h16 h17 h18 h19 h20 hq hm2 hf hol
  obtain rfl:q=(p.length+1):=by omega
  rw [List.drop_eq_nil_of_le (by simp),List.map_nil,List.append_nil] at hf
  subst hf
  have hx1:¬ ((p.length+1:Nat):Int)≤(p.length:Int):=by omega
  have hx2:¬ p.length+1≤p.length:=by omega
  refine evK_loop c9_17 _ _ _ _ rfl ?_
  rcases kof_or 1 fin with ⟨hk,rfl⟩ | hk
  ·rw [hk,show encTT []=[] from rfl] at H ⊢
   simp (config:={implicitDefEqProofs:=false}) [-zia,-St.obj,-St.set,h12,h13,h14,h15,h16,h17,h18,h19,h20,hx1,hx2,-zil,-zit,-znl,-znt,ty3,ty4,ty22,ty23,ty25,ty26,ty29,ty31,ty42,ty70,ty80,ty81,H9,E9,e9_104,e9_65,e9_112,n9_16,n9_50,n9_93,n9_78,n9_33]
   exact H _ _ _ _ _ _ _ _ _ _ _ h12 h13 h14 h15 h16 h17 h18 h19 h20
  ·rw [hk] at H ⊢
   simp (config:={implicitDefEqProofs:=false}) [-zia,-St.obj,-St.set,h12,h13,h14,h15,h16,h17,h18,h19,h20,hx1,hx2,-zil,-zit,-znl,-znt,ty3,ty4,ty22,ty23,ty25,ty26,ty29,ty31,ty42,ty70,ty80,ty81,H9,E9,e9_104,e9_65,e9_112,n9_16,n9_50,n9_93,n9_78,n9_33]
   exact H _ _ _ _ _ _ _ _ _ _ _ h12 h13 h14 h15 h16 h17 h18 h19 h20
 | succ m ih =>
  intro q out e12 e13 e14 e15 e16 e17 e18 e19 e20 T X h12 h13 h14 h15 h16 h17 h18 h19 h20 hq hm2 hf hol
  have hx1':(q:Int)≤(p.length:Int):=by omega
  have hx2':q≤p.length:=by omega
  have hw  := qws q (by omega)
  rw [range_drop (by omega),List.map_cons,List.append_cons] at hf
  have kk:=fun fr st=>k39 p (by omega) xs hx1 (by omega) (q:Int) fr st
  generalize tablesT p xs (q:Int)=tb at *
  have hs1:=sizes_tt out
  have hs2:=tt_snoc out tb
  have b1:(out.length+1)*24≤140737488355328:=by omega
  have b2:out.length+1≤140737488355328:=by omega
  have IH:=fun e12 e13 e14 e15 e16 e17 e18 e19 e20 T X h12 h13 h14 h15 h16 h17 h18 h19 h20=>ih (q+1) (out ++ [tb]) e12 e13 e14 e15 e16 e17 e18 e19 e20 T X h12 h13 h14 h15 h16 h17 h18 h19 h20 (by omega) (by omega) hf (by simp;omega)
  rw [kof_snoc] at IH
  refine evK_loop c9_17 _ _ _ _ rfl ?_
  rcases kof_or 1 out with ⟨hk,rfl⟩ | hk
  ·have en1:encTT ([] ++ [tb])=[.slice (encTbls tb)]:=rfl
   rw [en1] at IH
   rw [hk,show encTT []=[] from rfl]
   simp (config:={implicitDefEqProofs:=false}) [-zia,-St.obj,-St.set,h12,h13,h14,h15,h16,h17,h18,h19,h20,hx1',hx2',hw,kk,-zil,-zit,-znl,-znt,ty3,ty4,ty22,ty23,ty25,ty26,ty29,ty31,ty42,ty70,ty80,ty81,H9,E9,e9_104,e9_65,e9_112,e9_27,n9_16,n9_50,n9_93,n9_78,n9_33]
   exact IH _ _ _ _ _ _ _ _ _ _ _ h12 h13 h14 h15 h16 h17 h18 h19 h20
  ·rw [hk]
   simp (config:={implicitDefEqProofs:=false}) [-zia,-St.obj,-St.set,-zaa,h12,h13,h14,h15,h16,h17,h18,h19,h20,hx1',hx2',hw,kk,hs1,hs2,b1,b2,-zil,-zit,-znl,-znt,ty3,ty4,ty22,ty23,ty25,ty26,ty29,ty31,ty42,ty70,ty80,ty81,H9,E9,e9_104,e9_65,e9_112,e9_27,n9_16,n9_50,n9_93,n9_78,n9_33]
   exact IH _ _ _ _ _ _ _ _ _ _ _ h12 h13 h14 h15 h16 h17 h18 h19 h20
theorem LW249 (l1 l2:List Int)(t0:Nat)(id id2 k:Nat)(p:List Int)(xs:List Sub)(tt:List (List Tbl))(A:List Attr)(hA:A.length<1000)(hx1:∀ s∈xs,POk s.filter)(hx2:xs.length≤18)(hb:∀ s∈xs,0≤s.broker∧s.broker≤p.length)(S0:St)(hS0:S0.wp≤S0.objs.length)(R:Out × St)(wf:List Bool)
  (H:∀ (e11 e17 e18 e19 e20:E) (T:List (Nat × E)) (X:List (Nat × List V)),e11.Tame→e17.Tame→e18.Tame→e19.Tame→e20.Tame →  evK gS fi9 c9_65 {ps:=[(0,.val (.slice (intVs l1))),(1,.val (.slice (intVs l2))),(2,.val (.int .i64 (t0:Nat))),(6,.val (.bool false)),(7,.val (.ptr id 0)),(8,.val (.slice (intVs p))),(9,.val (.slice (encSubs xs))),(10,.own (kof 1 tt) (encTT tt)),(11,e11),(12,.val (.ptr id2 0)),(13,.val (.int .i64 (k:Nat))),(14,.val (.slice (encAttrs A))),(15,.val (.sref false 1 S0.objs.length 0 (p.length+1))),(16,.val (.int .i64 (xs.length:Nat))),(17,e17),(18,e18),(19,e19),(20,e20)],ts:=T,lc:=X} (nw S0 0 (blVs wf)) (.blk 3 (.seq c9_112 (.loop c9_34 (.blk 2 (.seq c9_113 .nil)))))=some R) :
  ∀ (m q:Nat) (ws:List Bool) (e11 e17 e18 e19 e20:E) (T:List (Nat × E)) (X:List (Nat × List V)),e11.Tame→e17.Tame→e18.Tame→e19.Tame→e20.Tame →  q≤xs.length→xs.length - q=m→ws.length=p.length+1→wf=(xs.drop q).foldl (wStep A) ws →
  evK gS fi9 c9_50 {ps:=[(0,.val (.slice (intVs l1))),(1,.val (.slice (intVs l2))),(2,.val (.int .i64 (t0:Nat))),(6,.val (.bool false)),(7,.val (.ptr id 0)),(8,.val (.slice (intVs p))),(9,.val (.slice (encSubs xs))),(10,.own (kof 1 tt) (encTT tt)),(11,e11),(12,.val (.ptr id2 0)),(13,.val (.int .i64 (k:Nat))),(14,.val (.slice (encAttrs A))),(15,.val (.sref false 1 S0.objs.length 0 (p.length+1))),(16,.val (.int .i64 (q:Nat))),(17,e17),(18,e18),(19,e19),(20,e20)],ts:=T,lc:=X} (nw S0 0 (blVs ws)) (.blk 4 (.seq c9_65 (.blk 3 (.seq c9_112 (.loop c9_34 (.blk 2 (.seq c9_113 .nil)))))))=some R:=by
 intro m
 induction m with
 | zero =>
  intro q ws e11 e17 e18 e19 e20 T X h11 h17 h18 h19 h20 hq hm2 hwl hf
  obtain rfl:q=xs.length:=by omega
  rw [List.drop_length,List.foldl_nil] at hf
  subst hf
  refine evK_loop c9_51 _ _ _ _ rfl ?_
  simp (config:={implicitDefEqProofs:=false}) [-zia,-St.obj,-St.set,h11,h17,h18,h19,h20,-zil,-zit,-znl,-znt,ty3,ty4,ty22,ty23,ty25,ty26,ty29,ty31,ty42,ty70,ty80,ty81,H9,E9,e9_104,e9_112,e9_27,n9_16,n9_50,n9_93,n9_78,n9_33]
  exact H _ _ _ _ _ _ _ h11 h17 h18 h19 h20
 | succ m ih =>
  intro q ws e11 e17 e18 e19 e20 T X h11 h17 h18 h19 h20 hq hm2 hwl hf
  obtain ⟨x,hx⟩  := qgx (l:=xs) (i:=q) (by omega)
  have hlt:(q:Int)<(xs.length:Int):=by omega
  obtain ⟨hlt2,hxe⟩:=List.getElem?_eq_some_iff.1 hx
  have hw  := qws q (by omega)
  have hxm:=zmg hx
  have kk:∀ (fr:Fr) (st:St),callStep gS (EvF gS) 44 [.slice (encPreds x.filter),.slice (encAttrs A)] fr st=some (.ok (.val (.bool (ftakes x.filter A))) fr st):=fun fr st=>k44 x.filter A (hx1 x hxm) (by omega) fr st
  rw [drop_get hx,List.foldl_cons] at hf
  have IH:=fun e11 e17 e18 e19 e20 T X h11 h17 h18 h19 h20=>ih (q+1) (wStep A ws x) e11 e17 e18 e19 e20 T X h11 h17 h18 h19 h20 (by omega) (by omega) (by rw [wStep_len];exact hwl) hf
  have hbx:=hb x hxm
  obtain ⟨b,hbb⟩:∃ b:Nat,x.broker=(b:Int):=⟨x.broker.toNat,by omega⟩
  rw [show wStep A ws x=if ftakes x.filter A=true then ws.set x.broker.toNat true else ws from rfl,hbb,Int.toNat_natCast] at IH
  generalize ftakes x.filter A=z at *
  refine evK_loop c9_51 _ _ _ _ rfl ?_
  cases z with
  | false =>
   rw [if_neg (by simp)] at IH
   simp (config:={implicitDefEqProofs:=false}) [-zia,-St.obj,-St.set,h11,h17,h18,h19,h20,hx,hxe,hlt,hlt2,hw,kk,-zil,-zit,-znl,-znt,ty3,ty4,ty22,ty23,ty25,ty26,ty29,ty31,ty42,ty70,ty80,ty81,H9,E9,e9_104,e9_65,e9_112,e9_27,n9_16,n9_50,n9_93,n9_78,n9_33]
   exact IH _ _ _ _ _ _ _ h11 h17 h18 h19 h20
  | true =>
   rw [if_pos rfl] at IH
   have g1:b<p.length+1:=by omega
   have g2:(b:Int)<((p.length+1:Nat):Int):=by omega
   have g3:(b:Int)<(p.length:Int)+1:=by omega
   have hsp:=bl_splice (g:=ws) (b:=b) (by omega) true
   have hob:=nw_obj0 S0 (blVs ws)
   have hst:=fun cs=>bl_set S0 hS0 (blVs ws) cs
   simp (config:={implicitDefEqProofs:=false}) [-zia,-St.obj,-St.set,-splice,h11,h17,h18,h19,h20,hx,hxe,hlt,hlt2,hw,kk,hbb,g1,g2,g3,hsp,hob,hst,-zil,-zit,-znl,-znt,ty3,ty4,ty22,ty23,ty25,ty26,ty29,ty31,ty42,ty70,ty80,ty81,H9,E9,e9_104,e9_65,e9_112,e9_27,n9_16,n9_50,n9_93,n9_78,n9_33]
   exact IH _ _ _ _ _ _ _ h11 h17 h18 h19 h20
theorem LO (l1 l2:List Int)(t0:Nat)(id id2 k:Nat)(p:List Int)(xs:List Sub)(tt:List (List Tbl))(A:List Attr)(hp:Tr p)(ht:t0≤p.length)(S0:St)(ws:List Bool)(hws:ws.length=p.length+1)(W:Nat→Bool)(hW:∀ w,w≤p.length→ws[w]?=some (W w))(got:List Int)(R:Out × St)(b:Nat)(hb:b≤p.length)(fin:Bool)
  (H:∀ (e11 e16:E) (T:List (Nat × E)) (X:List (Nat × List V)),e11.Tame→e16.Tame→evK gS fi9 c9_104 {ps:=[(0,.val (.slice (intVs l1))),(1,.val (.slice (intVs l2))),(2,.val (.int .i64 (t0:Nat))),(6,.val (.bool false)),(7,.val (.ptr id 0)),(8,.val (.slice (intVs p))),(9,.val (.slice (encSubs xs))),(10,.own (kof 1 tt) (encTT tt)),(11,e11),(12,.val (.ptr id2 0)),(13,.val (.int .i64 (k:Nat))),(14,.val (.slice (encAttrs A))),(15,.val (.sref false 1 S0.objs.length 0 (p.length+1))),(16,e16),(17,.val (.slice (intVs got))),(18,.val (.int .i64 (b:Nat))),(19,.val (.bool fin)),(20,.val (.int .i64 ((p.length+1:Nat):Int)))],ts:=T,lc:=X} (dd (nw S0 0 (blVs ws)) 1) (.blk 7 (.seq c9_111 (.loop c9_79 (.blk 6 (.blk 3 (.seq c9_112 (.loop c9_34 (.blk 2 (.seq c9_113 .nil)))))))))=some R) :
  ∀ (m q:Nat) (on:Bool) (e11 e16:E) (T:List (Nat × E)) (X:List (Nat × List V)) (h11:e11.Tame) (h16:e16.Tame),q≤(p.length+1)→(p.length+1) - q=m→fin=((List.range (p.length+1)).drop q).foldl (oStep p t0 b W) on →
  evK gS fi9 c9_93 {ps:=[(0,.val (.slice (intVs l1))),(1,.val (.slice (intVs l2))),(2,.val (.int .i64 (t0:Nat))),(6,.val (.bool false)),(7,.val (.ptr id 0)),(8,.val (.slice (intVs p))),(9,.val (.slice (encSubs xs))),(10,.own (kof 1 tt) (encTT tt)),(11,e11),(12,.val (.ptr id2 0)),(13,.val (.int .i64 (k:Nat))),(14,.val (.slice (encAttrs A))),(15,.val (.sref false 1 S0.objs.length 0 (p.length+1))),(16,e16),(17,.val (.slice (intVs got))),(18,.val (.int .i64 (b:Nat))),(19,.val (.bool on)),(20,.val (.int .i64 (q:Nat)))],ts:=T,lc:=X} (dd (nw S0 0 (blVs ws)) 1) (.blk 8 (.seq c9_104 (.blk 7 (.seq c9_111 (.loop c9_79 (.blk 6 (.blk 3 (.seq c9_112 (.loop c9_34 (.blk 2 (.seq c9_113 .nil)))))))))))=some R:=by
 intro m
 induction m with
 | zero =>
  intro q on e11 e16 T X h11 h16 hq hm2 hf
  obtain rfl:q=(p.length+1):=by omega
  rw [List.drop_eq_nil_of_le (by simp),List.foldl_nil] at hf
  subst hf
  have hx1:¬ ((p.length+1:Nat):Int)≤(p.length:Int):=by omega
  have hx2:¬ p.length+1≤p.length:=by omega
  refine evK_loop c9_94 _ _ _ _ rfl ?_
  simp (config:={implicitDefEqProofs:=false}) [-zia,-St.obj,-St.set,h11,h16,hx1,hx2,-zil,-zit,-znl,-znt,ty3,ty4,ty22,ty23,ty25,ty26,ty29,ty31,ty42,ty70,ty80,ty81,H9,E9,e9_65,e9_112,e9_27,n9_16,n9_50,n9_93,n9_78,n9_33]
  exact H _ _ _ _ h11 h16
 | succ m ih =>
  intro q on e11 e16 T X h11 h16 hq hm2 hf
  have h7:=hp.2
  have hx1':(q:Int)≤(p.length:Int):=by omega
  have hx2':q≤p.length:=by omega
  have hw  := qws q (by omega)
  rw [range_drop (by omega),List.foldl_cons] at hf
  rw [show oStep p t0 b W on q=(on || (W q && decide (distT p (t0:Int) (b:Int)+distT p (b:Int) (q:Int)=distT p (t0:Int) (q:Int)))) from rfl] at hf
  have d1:=fun fr st=>k47 p (by omega) (t0:Int) (b:Int) fr st
  have d2:=fun fr st=>k47 p (by omega) (b:Int) (q:Int) fr st
  have d3:=fun fr st=>k47 p (by omega) (t0:Int) (q:Int) fr st
  have r1:=distT_range p (t0:Int) (b:Int)
  have r2:=distT_range p (b:Int) (q:Int)
  generalize distT p (t0:Int) (b:Int)=a1 at *
  generalize distT p (b:Int) (q:Int)=a2 at *
  generalize distT p (t0:Int) (q:Int)=a3 at *
  have hwa:IntKind.wrap .i64 (a1+a2)=a1+a2:=wrap64 (by omega) (by omega)
  have hob:=obj_dd1 S0 (blVs ws) 1
  have hwq:=hW q hx2'
  have g2:(q:Int)<((p.length+1:Nat):Int):=by omega
  have g3:(q:Int)<(p.length:Int)+1:=by omega
  have g1:q<p.length+1:=by omega
  obtain ⟨y1,y2⟩:=List.getElem?_eq_some_iff.1 hwq
  generalize W q=z at *
  have IH:=fun e11 e16 T X h11 h16=>ih (q+1) _ e11 e16 T X h11 h16 (by omega) (by omega) hf
  refine evK_loop c9_94 _ _ _ _ rfl ?_
  cases on with
  | true =>
   simp only [Bool.true_or] at IH
   simp (config:={implicitDefEqProofs:=false}) [-zia,-St.obj,-St.set,h11,h16,hx1',hx2',hw,-zil,-zit,-znl,-znt,ty3,ty4,ty22,ty23,ty25,ty26,ty29,ty31,ty42,ty70,ty80,ty81,H9,E9,e9_104,e9_65,e9_112,e9_27,n9_16,n9_50,n9_93,n9_78,n9_33]
   exact IH _ _ _ _ h11 h16
  | false =>
   cases z with
   | false =>
    simp only [Bool.false_or,Bool.false_and] at IH
    simp (config:={implicitDefEqProofs:=false}) [-zia,-St.obj,-St.set,h11,h16,hx1',hx2',hw,hob,hwq,y1,y2,g1,g2,g3,-zil,-zit,-znl,-znt,ty3,ty4,ty22,ty23,ty25,ty26,ty29,ty31,ty42,ty70,ty80,ty81,H9,E9,e9_104,e9_65,e9_112,e9_27,n9_16,n9_50,n9_93,n9_78,n9_33]
    exact IH _ _ _ _ h11 h16
   | true =>
    simp only [Bool.false_or,Bool.true_and] at IH
    by_cases he:a1+a2=a3
    ·have he2:=eq_true he
     rw [decide_eq_true he] at IH
     simp (config:={implicitDefEqProofs:=false}) [-zia,-St.obj,-St.set,h11,h16,hx1',hx2',hw,hob,hwq,y1,y2,g1,g2,g3,d1,d2,d3,hwa,he2,-zil,-zit,-znl,-znt,ty3,ty4,ty22,ty23,ty25,ty26,ty29,ty31,ty42,ty70,ty80,ty81,H9,E9,e9_104,e9_65,e9_112,e9_27,n9_16,n9_50,n9_93,n9_78,n9_33]
     exact IH _ _ _ _ h11 h16
    ·have he2:=eq_false he
     rw [decide_eq_false he] at IH
     simp (config:={implicitDefEqProofs:=false}) [-zia,-St.obj,-St.set,h11,h16,hx1',hx2',hw,hob,hwq,y1,y2,g1,g2,g3,d1,d2,d3,hwa,he2,-zil,-zit,-znl,-znt,ty3,ty4,ty22,ty23,ty25,ty26,ty29,ty31,ty42,ty70,ty80,ty81,H9,E9,e9_104,e9_65,e9_112,e9_27,n9_16,n9_50,n9_93,n9_78,n9_33]
     exact IH _ _ _ _ h11 h16
theorem LB (l1 l2:List Int)(t0:Nat)(id id2 k:Nat)(p:List Int)(xs:List Sub)(tt:List (List Tbl))(A:List Attr)(hp:Tr p)(ht:t0≤p.length)(S0:St)(ws:List Bool)(hws:ws.length=p.length+1)(W:Nat→Bool)(hW:∀ w,w≤p.length→ws[w]?=some (W w))(got:List Int)(hgl:got.length=p.length+1)(hgot:∀ b,b≤p.length→got[b]?=some (if onB p t0 W b=true then 1 else 0))(R:Out × St)
  (H:∀ (e11 e16 e19 e20:E) (T:List (Nat × E)) (X:List (Nat × List V)),e11.Tame→e16.Tame→e19.Tame→e20.Tame→evK gS fi9 c9_112 {ps:=[(0,.val (.slice (intVs l1))),(1,.val (.slice (intVs l2))),(2,.val (.int .i64 (t0:Nat))),(6,.val (.bool false)),(7,.val (.ptr id 0)),(8,.val (.slice (intVs p))),(9,.val (.slice (encSubs xs))),(10,.own (kof 1 tt) (encTT tt)),(11,e11),(12,.val (.ptr id2 0)),(13,.val (.int .i64 (k:Nat))),(14,.val (.slice (encAttrs A))),(15,.val (.sref false 1 S0.objs.length 0 (p.length+1))),(16,e16),(17,.val (.slice (intVs got))),(18,.val (.int .i64 ((p.length+1:Nat):Int))),(19,e19),(20,e20)],ts:=T,lc:=X} (dd (nw S0 0 (blVs ws)) 1) (.loop c9_34 (.blk 2 (.seq c9_113 .nil)))=some R) :
  ∀ (m q:Nat) (e11 e16 e19 e20:E) (T:List (Nat × E)) (X:List (Nat × List V)) (h11:e11.Tame) (h16:e16.Tame) (h19:e19.Tame) (h20:e20.Tame),q≤(p.length+1)→(p.length+1) - q=m →
  evK gS fi9 c9_78 {ps:=[(0,.val (.slice (intVs l1))),(1,.val (.slice (intVs l2))),(2,.val (.int .i64 (t0:Nat))),(6,.val (.bool false)),(7,.val (.ptr id 0)),(8,.val (.slice (intVs p))),(9,.val (.slice (encSubs xs))),(10,.own (kof 1 tt) (encTT tt)),(11,e11),(12,.val (.ptr id2 0)),(13,.val (.int .i64 (k:Nat))),(14,.val (.slice (encAttrs A))),(15,.val (.sref false 1 S0.objs.length 0 (p.length+1))),(16,e16),(17,.val (.slice (intVs got))),(18,.val (.int .i64 (q:Nat))),(19,e19),(20,e20)],ts:=T,lc:=X} (dd (nw S0 0 (blVs ws)) 1) (.blk 6 (.blk 3 (.seq c9_112 (.loop c9_34 (.blk 2 (.seq c9_113 .nil))))))=some R:=by
 intro m
 induction m with
 | zero =>
  intro q e11 e16 e19 e20 T X h11 h16 h19 h20 hq hm2
  obtain rfl:q=(p.length+1):=by omega
  have hx1:¬ ((p.length+1:Nat):Int)≤(p.length:Int):=by omega
  have hx2:¬ p.length+1≤p.length:=by omega
  refine evK_loop c9_79 _ _ _ _ rfl ?_
  simp (config:={implicitDefEqProofs:=false}) [-zia,-St.obj,-St.set,h11,h16,h19,h20,hx1,hx2,-zil,-zit,-znl,-znt,ty3,ty4,ty22,ty23,ty25,ty26,ty29,ty31,ty42,ty70,ty80,ty81,H9,E9,e9_104,e9_65,e9_27,n9_16,n9_50,n9_93,n9_78,n9_33]
  exact H _ _ _ _ _ _ h11 h16 h19 h20
 | succ m ih =>
  intro q e11 e16 e19 e20 T X h11 h16 h19 h20 hq hm2
  have h7:=hp.2
  have hx1':(q:Int)≤(p.length:Int):=by omega
  have hx2':q≤p.length:=by omega
  have hw  := qws q (by omega)
  have hqg:(q:Int)<(got.length:Int):=by omega
  have hg:=hgot q hx2'
  have hfo:=oFold_on hp ht hx2' W
  have IH:=fun e11 e16 e19 e20 T X h11 h16 h19 h20=>ih (q+1) e11 e16 e19 e20 T X h11 h16 h19 h20 (by omega) (by omega)
  generalize onB p t0 W q=on at *
  have H104:∀ (e11 e16:E) (T:List (Nat × E)) (X:List (Nat × List V)),e11.Tame→e16.Tame→evK gS fi9 c9_104 {ps:=[(0,.val (.slice (intVs l1))),(1,.val (.slice (intVs l2))),(2,.val (.int .i64 (t0:Nat))),(6,.val (.bool false)),(7,.val (.ptr id 0)),(8,.val (.slice (intVs p))),(9,.val (.slice (encSubs xs))),(10,.own (kof 1 tt) (encTT tt)),(11,e11),(12,.val (.ptr id2 0)),(13,.val (.int .i64 (k:Nat))),(14,.val (.slice (encAttrs A))),(15,.val (.sref false 1 S0.objs.length 0 (p.length+1))),(16,e16),(17,.val (.slice (intVs got))),(18,.val (.int .i64 (q:Nat))),(19,.val (.bool on)),(20,.val (.int .i64 ((p.length+1:Nat):Int)))],ts:=T,lc:=X} (dd (nw S0 0 (blVs ws)) 1) (.blk 7 (.seq c9_111 (.loop c9_79 (.blk 6 (.blk 3 (.seq c9_112 (.loop c9_34 (.blk 2 (.seq c9_113 .nil)))))))))=some R:=by
   intro e11 e16 T X h11 h16
   cases on with
   | true =>
    rw [if_pos rfl] at hg
    obtain ⟨y1,y2⟩:=List.getElem?_eq_some_iff.1 hg
    simp (config:={implicitDefEqProofs:=false}) [-zia,-St.obj,-St.set,h11,h16,hw,hg,y1,y2,hqg,-zil,-zit,-znl,-znt,ty3,ty4,ty22,ty23,ty25,ty26,ty29,ty31,ty42,ty70,ty80,ty81,H9,E9,e9_104,e9_65,e9_112,e9_27,n9_16,n9_50,n9_93,n9_78,n9_33]
    exact IH _ _ _ _ _ _ h11 h16 (tame_val _) (tame_val _)
   | false =>
    rw [if_neg (by simp)] at hg
    obtain ⟨y1,y2⟩:=List.getElem?_eq_some_iff.1 hg
    simp (config:={implicitDefEqProofs:=false}) [-zia,-St.obj,-St.set,h11,h16,hw,hg,y1,y2,hqg,-zil,-zit,-znl,-znt,ty3,ty4,ty22,ty23,ty25,ty26,ty29,ty31,ty42,ty70,ty80,ty81,H9,E9,e9_104,e9_65,e9_112,e9_27,n9_16,n9_50,n9_93,n9_78,n9_33]
    exact IH _ _ _ _ _ _ h11 h16 (tame_val _) (tame_val _)
  have LL:=fun o0 hf e11 e16 T X h11 h16=>LO l1 l2 t0 id id2 k p xs tt A hp ht S0 ws hws W hW got R q hx2' on (fun e11 e16 T X h11 h16=>H104 e11 e16 T X h11 h16) (p.length+1) 0 o0 e11 e16 T X h11 h16 (Nat.zero_le _) rfl hf
  rw [List.drop_zero,show ((0:Nat):Int)=0 from rfl] at LL
  refine evK_loop c9_79 _ _ _ _ rfl ?_
  by_cases e:q=t0
  ·have e1:((q:Int)=(t0:Int))=True:=eq_true (by omega)
   have e2:=eq_true e
   rw [decide_eq_true e.symm] at hfo
   have L2:=LL true hfo.symm
   simp (config:={implicitDefEqProofs:=false}) [-zia,-St.obj,-St.set,h11,h16,h19,h20,hx1',hx2',hw,e1,e2,-zil,-zit,-znl,-znt,ty3,ty4,ty22,ty23,ty25,ty26,ty29,ty31,ty42,ty70,ty80,ty81,H9,E9,e9_104,e9_65,e9_112,e9_27,n9_16,n9_50,n9_93,n9_78,n9_33]
   exact L2 _ _ _ _ h11 h16
  ·have e1:((q:Int)=(t0:Int))=False:=eq_false (by omega)
   have e2:=eq_false e
   rw [decide_eq_false (fun h=>e h.symm)] at hfo
   have L2:=LL false hfo.symm
   simp (config:={implicitDefEqProofs:=false}) [-zia,-St.obj,-St.set,h11,h16,h19,h20,hx1',hx2',hw,e1,e2,-zil,-zit,-znl,-znt,ty3,ty4,ty22,ty23,ty25,ty26,ty29,ty31,ty42,ty70,ty80,ty81,H9,E9,e9_104,e9_65,e9_112,e9_27,n9_16,n9_50,n9_93,n9_78,n9_33]
   exact L2 _ _ _ _ h11 h16
theorem LN249 (l1 l2:List Int)(t0:Nat)(id id2:Nat)(p:List Int)(hp:Tr p)(ht:t0≤p.length)(xs:List Sub)(hx1:∀ s∈xs,POk s.filter)(hx2:xs.length≤18)(hb:∀ s∈xs,0≤s.broker∧s.broker≤p.length)(tt:List (List Tbl))(htl:tt.length=p.length+1)
  (HT:∀ (A:List Attr),AFV A→∀ b,b≤p.length→∃ ts,tt[b]?=some ts∧(∀ t∈ts,(∀ g∈t.fs,POk g)∧t.fs.length<1000000)∧ts.length<100000∧∀ f,fwdT A f ts []=(kidsF p (wantB xs A) b f).map fun n:Nat=>(n:Int)) :
  ∀ (m k J:Nat) (st:St),FeedOk st id2→k+m=4→J≤20*k→∃ st',∀ (e11 e14 e15 e16 e17 e18 e19 e20:E) (T:List (Nat × E)) (X:List (Nat × List V)),e11.Tame→e14.Tame→e15.Firm→e16.Tame→e17.Tame→e18.Tame→e19.Tame→e20.Tame →
  evK gS fi9 c9_33 {ps:=[(0,.val (.slice (intVs l1))),(1,.val (.slice (intVs l2))),(2,.val (.int .i64 (t0:Nat))),(6,.val (.bool false)),(7,.val (.ptr id 0)),(8,.val (.slice (intVs p))),(9,.val (.slice (encSubs xs))),(10,.own (kof 1 tt) (encTT tt)),(11,e11),(12,.val (.ptr id2 0)),(13,.val (.int .i64 (k:Nat))),(14,e14),(15,e15),(16,e16),(17,e17),(18,e18),(19,e19),(20,e20)],ts:=T,lc:=X} (setF st id2 l2 (nA l2 0 J)) (.blk 2 (.seq c9_113 .nil))=some (.ret (.bool true) none,st'):=by
 intro m
 induction m with
 | zero =>
  intro k J st hf hk hJ
  obtain rfl:k=4:=by omega
  refine ⟨setF st id2 l2 (nA l2 0 J),fun e11 e14 e15 e16 e17 e18 e19 e20 T X h11 h14 h15 h16 h17 h18 h19 h20=>?_⟩
  refine evK_loop c9_34 _ _ _ _ rfl ?_
  simp (config:={implicitDefEqProofs:=false}) [-St.obj,-St.set,h11,h14,h15,h16,h17,h18,h19,h20,k42,-zil,-zit,-znl,-znt,ty3,ty4,ty22,ty23,ty25,ty26,ty29,ty31,ty42,ty70,ty80,ty81,H9,E9,e9_104,e9_65,e9_112,e9_27,n9_16,n9_50,n9_93,n9_78,n9_33]
 | succ m ih =>
  intro k J st hf hk hJ
  have k1:=fun fr=>k17 l2 0 J id2 fr st hf (by omega) (by omega)
  have hal:=attrsV_len l2 0 J
  have haa:=attrsV_asks l2 0 J
  have hfv:=attrsV_fv l2 0 J
  generalize attrsV l2 0 J=PA at *
  obtain ⟨A,J2⟩:=PA
  simp only at k1 hal haa hfv
  have h7:=hp.2
  have htt:=HT A hfv
  generalize hS0:setF st id2 l2 (nA l2 0 J2)=S0 at *
  have hw0:S0.wp≤S0.objs.length:=by
   have h1:=hf.1;have h2:=hf.2
   rw [← hS0,setF_wp,setF_len];omega
  have hwf:=fun w hw=>wFold_get A w xs (List.replicate (p.length+1) false) (by simpa using hw) (fun s hs=>by have:=hb s hs;simp;omega)
  have hwl:=wFold_len A xs (List.replicate (p.length+1) false)
  generalize hwE:xs.foldl (wStep A) (List.replicate (p.length+1) false)=wf at *
  rw [List.length_replicate] at hwl
  have hW:∀ w,w≤p.length→wf[w]?=some (wantB xs A w):=fun w hw=>by
   rw [hwf w (by omega),List.getD_eq_getElem?_getD,List.getElem?_replicate,if_pos (by omega)];simp
  have hgot:∀ b,b≤p.length→(spr p (wantB xs A) 100 [(t0,-1)] (List.replicate (p.length+1) 0))[b]?=some (if onB p t0 (wantB xs A) b=true then 1 else 0):=fun b hb=>by
   have h1:=spread_ok (wantB xs A) hp ht hb
   have h2:=spr_len p (wantB xs A) 100 [(t0,-1)] (List.replicate (p.length+1) 0)
   rw [List.length_replicate] at h2
   rw [List.getD_eq_getElem?_getD,zge (by omega),Option.getD_some] at h1
   rw [zge (by omega),h1]
  have hgl:(spr p (wantB xs A) 100 [(t0,-1)] (List.replicate (p.length+1) 0)).length=p.length+1:=by rw [spr_len,List.length_replicate]
  have hw1:(nw S0 0 (blVs wf)).wp≤(nw S0 0 (blVs wf)).objs.length:=by rw [gr_wp,gr_len];omega
  have k2:=fun fr=>k46 p hp (wantB xs A) A (by omega) tt htt t0 ht fr (nw S0 0 (blVs wf)) hw1
  generalize spr p (wantB xs A) 100 [(t0,-1)] (List.replicate (p.length+1) 0)=got at *
  have hS3:dd (nw S0 0 (blVs wf)) 1=setF (dd (nw st 0 (blVs wf)) 1) id2 l2 (nA l2 0 J2):=by
   rw [← hS0,setF_nw hf,setF_dd (hf.nw 0 _)]
  obtain ⟨st',hI⟩:=ih (k+1) J2 (dd (nw st 0 (blVs wf)) 1) ((hf.nw 0 _).dd 1) (by omega) (by omega)
  rw [← hS3] at hI
  refine ⟨st',fun e11 e14 e15 e16 e17 e18 e19 e20 T X h11 h14 h15 h16 h17 h18 h19 h20=>?_⟩
  have hwk  := qws k (by omega)
  have hk4:(k:Int)<4:=by omega
  have hk4':k<4:=by omega
  generalize hR:(Out.ret (V.bool true) none,st')=R at *
  have H112:∀ (e11 e16 e19 e20:E) (T:List (Nat × E)) (X:List (Nat × List V)),e11.Tame→e16.Tame→e19.Tame→e20.Tame→evK gS fi9 c9_112 {ps:=[(0,.val (.slice (intVs l1))),(1,.val (.slice (intVs l2))),(2,.val (.int .i64 (t0:Nat))),(6,.val (.bool false)),(7,.val (.ptr id 0)),(8,.val (.slice (intVs p))),(9,.val (.slice (encSubs xs))),(10,.own (kof 1 tt) (encTT tt)),(11,e11),(12,.val (.ptr id2 0)),(13,.val (.int .i64 (k:Nat))),(14,.val (.slice (encAttrs A))),(15,.val (.sref false 1 S0.objs.length 0 (p.length+1))),(16,e16),(17,.val (.slice (intVs got))),(18,.val (.int .i64 ((p.length+1:Nat):Int))),(19,e19),(20,e20)],ts:=T,lc:=X} (dd (nw S0 0 (blVs wf)) 1) (.loop c9_34 (.blk 2 (.seq c9_113 .nil)))=some R:=by
   intro e11 e16 e19 e20 T X h11 h16 h19 h20
   simp (config:={implicitDefEqProofs:=false}) [-zia,-St.obj,-St.set,h11,h16,h19,h20,hwk,-zil,-zit,-znl,-znt,ty3,ty4,ty22,ty23,ty25,ty26,ty29,ty31,ty42,ty70,ty80,ty81,H9,E9,e9_104,e9_65,e9_112,e9_27,n9_16,n9_50,n9_93,n9_78,n9_33]
   exact hI _ _ _ _ _ _ _ _ _ _ h11 (tame_val _) rfl h16 (tame_val _) (tame_val _) h19 h20
  have LLB:=fun e11 e16 e19 e20 T X h11 h16 h19 h20=>LB l1 l2 t0 id id2 k p xs tt A hp ht S0 wf hwl (wantB xs A) hW got hgl hgot R H112 (p.length+1) 0 e11 e16 e19 e20 T X h11 h16 h19 h20 (Nat.zero_le _) rfl
  rw [show ((0:Nat):Int)=0 from rfl] at LLB
  have hw2:IntKind.wrap .i64 ((p.length:Int)+1)=((p.length+1:Nat):Int):=by rw [wrap64 (by omega) (by omega)];omega
  have hgi:(got.length:Int)=((p.length+1:Nat):Int):=by omega
  have H65:∀ (e11 e17 e18 e19 e20:E) (T:List (Nat × E)) (X:List (Nat × List V)),e11.Tame→e17.Tame→e18.Tame→e19.Tame→e20.Tame→evK gS fi9 c9_65 {ps:=[(0,.val (.slice (intVs l1))),(1,.val (.slice (intVs l2))),(2,.val (.int .i64 (t0:Nat))),(6,.val (.bool false)),(7,.val (.ptr id 0)),(8,.val (.slice (intVs p))),(9,.val (.slice (encSubs xs))),(10,.own (kof 1 tt) (encTT tt)),(11,e11),(12,.val (.ptr id2 0)),(13,.val (.int .i64 (k:Nat))),(14,.val (.slice (encAttrs A))),(15,.val (.sref false 1 S0.objs.length 0 (p.length+1))),(16,.val (.int .i64 (xs.length:Nat))),(17,e17),(18,e18),(19,e19),(20,e20)],ts:=T,lc:=X} (nw S0 0 (blVs wf)) (.blk 3 (.seq c9_112 (.loop c9_34 (.blk 2 (.seq c9_113 .nil)))))=some R:=by
   intro e11 e17 e18 e19 e20 T X h11 h17 h18 h19 h20
   simp (config:={implicitDefEqProofs:=false}) [-zia,-St.obj,-St.set,h11,h17,h18,h19,h20,k2,hw2,hgi,hgl,-zil,-zit,-znl,-znt,ty3,ty4,ty22,ty23,ty25,ty26,ty29,ty31,ty42,ty70,ty80,ty81,H9,E9,e9_104,e9_65,e9_112,e9_27,n9_16,n9_50,n9_93,n9_78,n9_33]
   exact LLB _ _ _ _ _ _ h11 (tame_val _) h19 h20
  have LLW:=fun e11 e17 e18 e19 e20 T X h11 h17 h18 h19 h20=>LW249 l1 l2 t0 id id2 k p xs tt A (by omega) hx1 hx2 hb S0 hw0 R wf H65 xs.length 0 (List.replicate (p.length+1) false) e11 e17 e18 e19 e20 T X h11 h17 h18 h19 h20 (Nat.zero_le _) rfl (by simp) (by rw [List.drop_zero];exact hwE.symm)
  rw [show ((0:Nat):Int)=0 from rfl] at LLW
  have hn:=newRef_nw S0
  have hz:=zero_bools (p.length+1)
  have q1:(0:Int)≤((p.length+1:Nat):Int):=by omega
  have q2:((p.length+1:Nat):Int)*1≤140737488355328:=by omega
  have q3:((p.length+1:Nat):Int)≤140737488355328:=by omega
  refine evK_loop c9_34 _ _ _ _ rfl ?_
  simp (config:={implicitDefEqProofs:=false}) [-zia,-St.obj,-St.set,h11,h14,h15,h16,h17,h18,h19,h20,hk4,hk4',k1,hw2,q1,q2,q3,hn,hz,markStep,-zil,-zit,-znl,-znt,ty3,ty4,ty22,ty23,ty25,ty26,ty29,ty31,ty42,ty70,ty80,ty81,H9,E9,e9_104,e9_65,e9_112,e9_27,n9_16,n9_50,n9_93,n9_78,n9_33]
  exact LLW _ _ _ _ _ _ _ h11 h17 h18 h19 h20
theorem c9 (l1 l2:List Int)(a0:Int)(st0:St)(hst:st0.wp≤st0.objs.length):∃ st',EvF gS 9 [.slice (intVs l1),.slice (intVs l2),.int .i64 a0] st0=some (.ret (.bool true) none,st'):=by
 have hf:=feedOk_new hst
 have n1:=new_feed st0 l1
 obtain ⟨id,hid⟩:∃ id,st0.objs.length=id:=⟨_,rfl⟩
 rw [hid] at hf n1
 have k1:=fun fr=>k26 l1 0 0 id 8 fr (nw st0 0 []) hf (by omega) (by omega) (by omega) (by omega)
 have hpr:=treeV_right l1 0 0 (most:=8) (by omega) (by omega)
 have hj:=fd_bound l1 0 0 (n:=8) (by omega)
 generalize treeV l1 0 0 8=p at *
 generalize hJ:0+1+(fd l1 0 0 8).toNat=J at *
 have hJb:J≤9:=by omega
 have hp:Tr p:=by
  unfold rightT at hpr
  simp only [Bool.and_eq_true,decide_eq_true_eq] at hpr
  exact ⟨hpr.1,by omega⟩
 have hp7:=hp.2
 have k2:=fun fr=>k10 l1 0 J id fr (nw st0 0 []) hf (by omega) (by omega) p (by omega)
 have hall:=subsV_all l1 0 J p.length
 have hlen:=(subsV_asks l1 0 J p.length).2
 have hrs:=subsV_right l1 0 J p.length hp7
 generalize subsV l1 0 J p.length=P1 at *
 obtain ⟨xs,J2,D⟩:=P1
 simp only at k2 hall hlen hrs
 have hx1:∀ s∈xs,PSm s.filter:=fun s hs=>psm_ffv (hall s hs).2.2
 have hxb:∀ s∈xs,0≤s.broker∧s.broker≤p.length:=fun s hs=>⟨(may_client (rsG_may xs _ _ hrs.1 s hs)).2.2.1,hrs.2 s hs⟩
 have hxf:∀ s∈xs,FF s.filter:=fun s hs=>(hall s hs).2.2.1.fv
 generalize hS0:setF (dd (nw st0 0 []) D) id l1 (nA l1 0 J2)=S at k2
 have hSw:S.wp≤S.objs.length:=by
  rw [← hS0,setF_wp,setF_len,dd_wp,dd_len,gr_wp,gr_len];omega
 clear hS0
 have ha0:=pickI_bound a0 (m:=((p.length+1:Nat):Int)) (by omega)
 have kp:=fun fr st=>k29 a0 ((p.length+1:Nat):Int) (by omega) fr st
 obtain ⟨t0,ht0⟩:∃ t0:Nat,pickI a0 ((p.length+1:Nat):Int)=(t0:Int):=⟨(pickI a0 ((p.length+1:Nat):Int)).toNat,by omega⟩
 rw [ht0] at kp ha0
 have ht:t0≤p.length:=by omega
 have hw1:IntKind.wrap .i64 ((p.length:Int)+1)=((p.length+1:Nat):Int):=by rw [wrap64 (by omega) (by omega)];omega
 have n2:=new_feed S l2
 have hf2:=feedOk_new hSw
 obtain ⟨id2,hid2⟩:∃ id2,S.objs.length=id2:=⟨_,rfl⟩
 rw [hid2] at n2 hf2
 generalize htt:((List.range (p.length+1)).drop 0).map (fun b:Nat=>tablesT p xs (b:Int))=tt
 have htl:tt.length=p.length+1:=by rw [← htt];simp
 have hkt:kof 1 tt=1:=by unfold kof;rw [if_neg (fun h=>by rw [h] at htl;simp at htl)]
 have HT:∀ (A:List Attr),AFV A→∀ b,b≤p.length→∃ ts,tt[b]?=some ts∧(∀ t∈ts,(∀ g∈t.fs,POk g)∧t.fs.length<1000000)∧ts.length<100000∧∀ f,fwdT A f ts []=(kidsF p (wantB xs A) b f).map fun n:Nat=>(n:Int):=fun A hA b hb=>by
  refine ⟨tablesT p xs (b:Int),?_,?_,?_,fun f=>fwd_kids hp hxf hxb hA hb f⟩
  ·rw [← htt,List.drop_zero,List.getElem?_map,List.getElem?_range (by omega)];rfl
  ·intro t ht
   obtain ⟨n,_,rfl⟩:=List.mem_map.1 ht
   have h1:=tab_len (p:=p) (l:=xs) (b:Int) n
   exact ⟨tab_fs (Q:=POk) (fun s hs=>(hx1 s hs).ok) (b:Int) n,by omega⟩
  ·have:=nearT_len p (b:Int)
   unfold tablesT;rw [List.length_map];omega
 obtain ⟨st',LN⟩:=LN249 l1 l2 t0 id id2 p hp ht xs (fun s hs=>(hx1 s hs).ok) hlen hxb tt htl HT 4 0 0 (nw S 0 []) hf2 rfl (by omega)
 rw [show ((0:Nat):Int)=0 from rfl] at LN
 refine ⟨st',?_⟩
 generalize hR:(Out.ret (V.bool true) none,st')=R at *
 have H27:∀ (e12 e13 e14 e15 e16 e17 e18 e19 e20:E) (T:List (Nat × E)) (X:List (Nat × List V)),e12.Tame→e13.Tame→e14.Tame→e15.Firm→e16.Tame→e17.Tame→e18.Tame→e19.Tame→e20.Tame →  evK gS fi9 c9_27 {ps:=[(0,.val (.slice (intVs l1))),(1,.val (.slice (intVs l2))),(2,.val (.int .i64 (t0:Nat))),(6,.val (.bool false)),(7,.val (.ptr id 0)),(8,.val (.slice (intVs p))),(9,.val (.slice (encSubs xs))),(10,.own (kof 1 tt) (encTT tt)),(11,.val (.int .i64 ((p.length+1:Nat):Int))),(12,e12),(13,e13),(14,e14),(15,e15),(16,e16),(17,e17),(18,e18),(19,e19),(20,e20)],ts:=T,lc:=X} S .nil=some R:=by
  intro e12 e13 e14 e15 e16 e17 e18 e19 e20 T X h12 h13 h14 h15 h16 h17 h18 h19 h20
  rw [hkt] at *
  simp (config:={implicitDefEqProofs:=false}) [-St.obj,-St.set,h12,h13,h14,h15,h16,h17,h18,h19,h20,hid2,n2,-zil,-zit,-znl,-znt,ty3,ty4,ty22,ty23,ty25,ty26,ty29,ty31,ty42,ty70,ty80,ty81,H9,E9,e9_104,e9_65,e9_112,e9_27,n9_16,n9_50,n9_93,n9_78,n9_33]
  exact LN _ _ _ _ _ _ _ _ _ _ (tame_val _) h14 h15 h16 h17 h18 h19 h20
 have LLA:=fun e12 e13 e14 e15 e16 e17 e18 e19 e20 T X h12 h13 h14 h15 h16 h17 h18 h19 h20=>LA l1 l2 t0 id p hp7 xs hx1 hlen S R tt H27 (p.length+1) 0 [] e12 e13 e14 e15 e16 e17 e18 e19 e20 T X h12 h13 h14 h15 h16 h17 h18 h19 h20 (Nat.zero_le _) rfl htt.symm (Nat.zero_le _)
 rw [show ((0:Nat):Int)=0 from rfl,show kof 1 ([]:List (List Tbl))=0 from rfl,show encTT []=[] from rfl] at LLA
 refine EvF_start fi249_eq (fun x h=>by cases h) m9 ?_
 rw [st9]
 simp (config:={implicitDefEqProofs:=false}) [-St.obj,-St.set,-zia,hid,n1,k1,k2,kp,hw1,-zil,-zit,-znl,-znt,ty3,ty4,ty22,ty23,ty25,ty26,ty29,ty31,ty42,ty70,ty80,ty81,H9,E9,e9_104,e9_65,e9_112,e9_27,n9_16,n9_50,n9_93,n9_78,n9_33]
 exact LLA _ _ _ _ _ _ _ _ _ _ _ tame_any tame_any tame_any rfl tame_any tame_any tame_any tame_any tame_any
theorem run249 (l1 l2:List Int)(a0:Int):∃ st',EvF gS 9 [.slice (intVs l1),.slice (intVs l2),.int .i64 a0] ⟨[],0⟩=some (.ret (.bool true) none,st'):=c9 l1 l2 a0 ⟨[],0⟩ (Nat.le_refl _)
end
end Go.Proofs.Ytdoobejjedpcgaa
namespace Go.Ab
open Go Go.ChangeShapes Go.WideShapes
variable {H:Type} {enc:TypeId × Value→H} {P:Program} {w:World} {base b0:Nat} {spare:Nat→Bool} {held:Bool} {r:Reach}
theorem arg_ints {t e:TypeId} {k:IntKind} {v:Value} {d:DataW H} {ps:List MemPlace} (ht:P.underlying t=some (.slice e))(he:P.underlying e=some (.int k))(hc:P.cellsOf e=1)
  (hval:Value.okWide P w r b0 t v) (h:DataW.Trod enc P w base spare held t v d ps):∃ zs:List Int,Rep K0 w v (.slice (zs.map (V.int k)))∧∀ n∈zs,(Lit.int k n).wf=true:=by
 obtain ⟨a0,len,cap,rfl⟩:=okWide_slice ht hval
 obtain ⟨fuel,hf⟩:=h
 rcases open_ints ht he hc hf with ⟨hcs,_⟩ | ⟨a,len',cap',zs,hcs,_,hl,hm,hz,_,hcell,hwz⟩
 ·simp [Value.cells] at hcs
  obtain ⟨rfl,rfl,rfl⟩:=hcs
  exact ⟨[],.slice0 _ _,by simp⟩
 ·simp [Value.cells] at hcs
  obtain ⟨rfl,rfl,rfl⟩:=hcs
  have hzl:len≤zs.length:=by rw [hz];split <;> omega
  by_cases h0:len=0
  ·subst h0;exact ⟨[],.slice0 _ _,by simp⟩
  ·refine ⟨zs.take len,?_,fun n hn=>hwz n (List.mem_of_mem_take hn)⟩
   obtain ⟨b,off,spot⟩:=a
   have hspot:spot=none:=by simpa [Addr.add] using World.cell?_spot (hcell 0 (by omega))
   subst hspot
   have hlen:((zs.take len).map (V.int k)).length=len:=by simp;omega
   have hfl:((zs.take len).map (V.int k)).flatMap V.cells=(zs.take len).map (V.int k):=by
    generalize zs.take len=l
    induction l with
    | nil=>rfl
    | cons x r ih=>simp only [List.map_cons,List.flatMap_cons,ih];rfl
   have key:Rep K0 w (.slice (some (at_ b off)) ((zs.take len).map (V.int k)).length cap) (.slice ((zs.take len).map (V.int k))):=by
    refine .slice (k:=1) (by rw [hlen];exact hl) (fun x hx=>?_) ?_
    ·obtain ⟨n,_,rfl⟩:=List.mem_map.1 hx;rfl
    ·rw [hfl]
     refine RepAt.of_get fun j x hx=>?_
     rw [List.getElem?_map,List.getElem?_take] at hx
     split at hx
     ·rename_i hj
      have hjz:j<zs.length:=by omega
      rw [zge hjz] at hx
      simp only [Option.map_some,Option.some.injEq] at hx
      subst hx
      refine ⟨.int k zs[j],⟨?_,rfl⟩,.int _ _⟩
      have:=hcell j hjz
      simp only [List.getD,zge hjz,Option.getD_some] at this
      rwa [show ({block:=b,off:=off}:Addr)=at_ b off from rfl,addr_add] at this
     ·cases hx
   rw [hlen] at key
   exact key
theorem arg_int {t:TypeId} {k:IntKind} {v:Value} (ht:P.underlying t=some (.int k))(hval:Value.okWide P w r b0 t v):∃ n,Rep K0 w v (.int k n):=by
 obtain ⟨n,rfl⟩:=okWide_int ht hval
 exact ⟨n,.int _ _⟩
end Go.Ab
namespace Go.Ab
open Go Go.ChangeShapes Go.WideShapes
variable {H:Type} {enc:TypeId × Value→H} {P:Program} {w:World} {base b0:Nat} {spare:Nat→Bool} {held:Bool} {r:Reach}
inductive Ty where
 | bool | int (k:IntKind) | float (k:FloatKind) | str
 | sl (e:Ty)
 | st (fs:List Ty)
mutual
def Ty.size:Ty→Nat
 | .st fs=>Ty.sizes fs
 | _=>1
def Ty.sizes:List Ty→Nat
 | []=>0
 | f :: r=>f.size+Ty.sizes r
end
end Go.Ab
namespace Go.Proofs.Ytdoobejjedpcgaa
open Go Go.Ab Go.ChangeShapes Go.WideShapes Go.ChangeAt Go.RowKit
set_option maxRecDepth 100000 in
theorem routeReaches_lifted (os:Os)(started:os.Started)(H:Type)(enc:TypeId × Value→H) :
  ReturnsInHanded {} Try.checked os 9 .any (Rows.routeReachesSpec.pre6 enc Try.prog Try.f9 Rows.routeReachesRow.domain false) (Rows.routeReachesSpec.post enc Try.prog Try.f9 false true false false):=by
 refine returnsInHanded_of_change_sized (C:=Try.checked) Try.own started (by kernel_rfl) Try.func9
  (ChangeSpec.witness6 (enc:=enc) (C:=Try.checked) false ⟨#[],#[.slice none 0 0,.slice none 0 0,.int .i64 0],[]⟩ 8 (by kernel_rfl) (by kernel_rfl) (by kernel_rfl) (by kernel_rfl)) ?_
 intro W base args ds gs before hval0 hW _ hsz0 _
 have hW':=hW
 obtain ⟨p,q,hA0,hV,rfl,_,_⟩:=hW
 have hA:DataW.TrodAll enc Try.prog W 0 (fun _=>true) true Try.f9.params.toList args.toList ds p:=hA0
 have hpar:Try.f9.params=#[22,22,3]:=by kernel_rfl
 have hval:∀ (j:Nat) t v,Try.f9.params[j]?=some t→args[j]?=some v→Value.okWide Try.prog W .any base t v:=hval0
 rw [hpar] at hA hval
 obtain ⟨l⟩:=args
 obtain ⟨v0,l,d0,ds,p0,r0,rfl,rfl,rfl,h0,hA⟩:=trodAll_cons hA
 obtain ⟨v1,l,d1,ds,p1,r1,rfl,rfl,rfl,h1,hA⟩:=trodAll_cons hA
 obtain ⟨v2,l,d2,ds,p2,r2,rfl,rfl,rfl,h2,hA⟩:=trodAll_cons hA
 obtain ⟨rfl,rfl,rfl⟩:=trodAll_nil hA
 obtain ⟨rfl,rfl⟩:=trodVars_none hV
 obtain ⟨x0,a0,_⟩:=arg_ints Try.underlying22 Try.underlying3 (by kernel_rfl) (hval 0 22 v0 rfl rfl) h0
 obtain ⟨x1,a1,_⟩:=arg_ints Try.underlying22 Try.underlying3 (by kernel_rfl) (hval 1 22 v1 rfl rfl) h1
 obtain ⟨x2,a2⟩:=arg_int Try.underlying3 (hval 2 3 v2 rfl rfl)
 have hlt:∀ y∈p0 ++ (p1 ++ (p2 ++ [])) ++ [],y.block<W.heap.size:=fun y hy=>hW'.lt y hy
 have hr:Reps K0 W [v0,v1,v2] [.slice (intVs x0),.slice (intVs x1),.int .i64 x2]:=.cons a0 (.cons a1 (.cons a2 .nil))
 obtain ⟨st',hev⟩:=run249 x0 x1 x2
 obtain ⟨nn,hrun⟩:=EvF_fuel hev
 refine (law_calls (n:=nn) (f:=9) (xs:=[.slice (intVs x0),.slice (intVs x1),.int .i64 x2]) (gS_calls nn) (by rw [hrun]) (W:=W) (args:=#[v0,v1,v2]) hr).mono ?_
 rintro e W' ⟨rfl,hn⟩
 refine ⟨_,rfl,_,_,_,[],p0 ++ (p1 ++ (p2 ++ [])),[],hW',?_,?_,rfl,hn.frame _,fun h=>by cases h⟩
 ·exact trodAll_mk1 (shut_bool Try.underlying4 true)
 ·exact ⟨p0,_,Below.trod Try.laidOut (by kernel_rfl) (of_decide_eq_true (by kernel_rfl)) h0 hn (fun y hy=>hlt y (by simp [hy])),⟨p1,_,Below.trod Try.laidOut (by kernel_rfl) (of_decide_eq_true (by kernel_rfl)) h1 hn (fun y hy=>hlt y (by simp [hy])),⟨p2,_,Below.trod Try.laidOut (by kernel_rfl) (of_decide_eq_true (by kernel_rfl)) h2 hn (fun y hy=>hlt y (by simp [hy])),rfl,rfl⟩,rfl⟩,rfl⟩
theorem routeReaches_holds:Rows.RouteReachesSaid :=
 OpenClaim.holds_of_wide 9 Try.f9 rfl rfl rfl rfl rfl rfl rfl ⟨rfl,rfl,rfl,rfl,rfl⟩ rfl rfl rfl rfl rfl (by kernel_rfl) Try.func9 (by kernel_rfl)
  (of_decide_eq_true (by kernel_rfl)) (by unfold Func.isWrapper;first | (rw [if_pos (by decide +kernel)];kernel_rfl) | (rw [if_neg (by decide +kernel)];exact ⟨rfl,rfl⟩))
  (fun os started H enc _=>routeReaches_lifted os started H enc)
#print axioms routeReaches_holds
end Go.Proofs.Ytdoobejjedpcgaa
