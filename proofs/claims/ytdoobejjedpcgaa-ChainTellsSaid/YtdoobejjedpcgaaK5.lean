/- Of any tree, any Subs, right or not, the chain, ways, own places are as the document says. Part 5. -/
import Derived.Test.YtdoobejjedpcgaaK4
set_option linter.unusedVariables false
set_option linter.unusedSimpArgs false
set_option linter.unnecessarySimpa false
set_option maxHeartbeats 8000000
set_option maxRecDepth 20000
open Int renaming not_le → zil, not_lt → zit, natCast_add → zia
open Nat renaming not_le → znl, not_lt → znt
open List renaming getElem?_eq_getElem → zge, getElem?_eq_some_iff → zgs, append_assoc → zaa, mem_of_getElem? → zmg, length_append → zla
namespace Go.Proofs.Ytdoobejjedpcgaa
open Go Go.Ab
noncomputable section
variable (fr:Fr)(st:St)(k:Kt)
theorem k55 (l:List Int)(a j id:Nat)  (fr:Fr) (st:St) (h:FeedOk st id) (ha:a<549755813888) (hj:j<549755812000) :
  callStep gS (EvF gS) 55 [.ptr id 0] fr (setF st id l (nA l a j))=some (.ok (.val ((valueV l a j).enc)) (fr.map E.noMem) (setF st id l (nA l a (j+2)))):=by
 unfold callStep
 simp only [show gS.ext 55=none from rfl,fi17_eq,show fi55.pure=false from rfl,Bool.false_eq_true,if_false,c55 l a j id  st h ha (by omega),retE]
 all_goals rfl
def fi71:FI:={body:=codeOf Try.f71,ntmps:=52,results:=[.cell 4 91],pers:=[0,1,4,5,6,13],locals:=[4,5],pure:=false,marks:=[39,2000011,1000000]}
theorem H71:fi71.marks=[39,2000011,1000000]∧fi71.locals=[4,5]∧fi71.results=[.cell 4 91]:=⟨rfl,rfl,rfl⟩
theorem fi29_eq:gS.fn 71=some fi71:=by kernel_rfl
theorem st71 (a0 a1:V):startFr fi71 [a0,a1]={ps:=[(0,.val a0),(1,.val a1),(4,.any),(5,.any),(6,.any),(13,.any)],ts:=[],lc:=[]}:=rfl
def b71:Code:=mini (codeOf Try.f71)
def c71_11:Code:=.seq (codeN b71 299) .ret
def c71_19:Code:=.seq (codeN b71 2795) .ret
def c71_17:Code:=.seq (codeN b71 1259) c71_19
def c71_33:Code:=.cond (.tmp 31) .skip (.exit 1)
def c71_31:Code:=.seq (codeN b71 136171) c71_33
def r71_38:Array Oper:=regOps (codeN (codeOf Try.f71) 300011)
def c71_38:Code:=.region 12 r71_38 true
def q71_38:List (Oper × Fl):=[(qF 34 91 5 4 0,qz5),
 (ld 35 89 34 89,qz5),
 (mv 36 0 23,qz3),
 (cal 37 55 [(.tmp 36)] [23] 88,qz6),
 (qS 38 89 37 89,qz3),
 (qE 39 35 38 89 89,qz6),
 (qF 40 91 5 4 0,qz1),
 (sto 89 40 39,qz6)]
def c71_39:Code:=codeN b71 234475
def c71_36:Code:=.seq (.block 2 c71_38) c71_39
def c71_30:Code:=.seq c71_31 c71_36
def c71_29:Code:=.loop c71_30
def c71_28:Code:=.block 1 c71_29
def c71_26:Code:=.seq (codeN b71 9195) c71_28
def c71_40:Code:=.seq (codeN b71 11243) .ret
theorem e71_40:evK gS fi71 c71_40 fr st k=opsR gS fi71 [ld 41 91 5 91,
 sto 91 4 41] fr st (.seq .ret k):=evK_rs 13 rfl (by kernel_rfl)
def c71_25:Code:=.seq c71_26 c71_40
def c71_24:Code:=.cond (.tmp 26) c71_25 .skip
def c71_22:Code:=.seq (codeN b71 1515) c71_24
def c71_16:Code:=.cond (.tmp 17) c71_17 c71_22
def c71_14:Code:=.seq (codeN b71 363) c71_16
def c71_10:Code:=.cond (.tmp 14) c71_11 c71_14
def c71_8:Code:=.seq (codeN b71 75) c71_10
def c71_7:Code:=.block 0 c71_8
def c71_5:Code:=.seq (codeN b71 19) c71_7
def c71_50:Code:=codeN b71 175
def c71_49:Code:=.cond (.tmp 47) c71_50 .skip
def c71_47:Code:=.seq (codeN b71 79) c71_49
def c71_52:Code:=.seq (codeN b71 95) .ret
def c71_46:Code:=.seq c71_47 c71_52
def c71_44:Code:=.seq (codeN b71 23) c71_46
def c71_4:Code:=.seq c71_5 c71_44
def c71_2:Code:=.seq (codeN b71 5) c71_4
def c71_0:Code:=.seq (codeN b71 2) c71_2
theorem E71:(evK gS fi71 c71_11 fr st k=opsR gS fi71 [ld 16 91 5 91,
 sto 91 4 16] fr st (.seq .ret k)) ∧
 (evK gS fi71 c71_19 fr st k=opsR gS fi71 [ld 25 91 5 91,
 sto 91 4 25] fr st (.seq .ret k)) ∧
 (evK gS fi71 c71_17 fr st k=opsR gS fi71 [op1 19 (.build 122 #[(0,(.const (.string {data:=#[]}))),(1,(.const (.string {data:=#[97]}))),(2,(.const (.string {data:=#[98]}))),(3,(.const (.string {data:=#[97,98]})))]) 122,
 mv 20 0 23,
 cal 21 11 [(.tmp 20),(.const (.int .i64 4))] [23,3] 3,
 op1 22 (.index 122 (.tmp 19) (.tmp 21)) 9,
 op1 23 (.build 88 #[(0,(.const (.int .i64 3))),(3,(.tmp 22))]) 88,
 qF 24 91 5 2 0,
 sto 88 24 23] fr st (.seq c71_19 k)) ∧
 evK gS fi71 c71_33 fr st k=condK gS fi71 (fr.op (.tmp 31)).bool? .skip (.exit 1) fr st k ∧
 (evK gS fi71 c71_31 fr st k=opsR gS fi71 [mv 30 6 3,
 qB 31 .geq 3 30 0 3 4] fr st (.seq c71_33 k)) ∧
 evK gS fi71 c71_38 fr st k=drwR gS fi71 r71_38 q71_38 fr st k ∧
 (evK gS fi71 c71_39 fr st k=opsR gS fi71 [mv 32 6 3,
 qB 33 .sub 3 32 1 3 3,
 asn 6 33 3] fr st k) ∧
 evK gS fi71 c71_36 fr st k=evK gS fi71 c71_38 fr st (.blk 2 (.seq c71_39 k)) ∧
 evK gS fi71 c71_30 fr st k=evK gS fi71 c71_31 fr st (.seq c71_36 k) ∧
 evK gS fi71 c71_28 fr st k=evK gS fi71 c71_29 fr st (.blk 1 k) ∧
 (evK gS fi71 c71_26 fr st k=opsR gS fi71 [mv 28 0 23,
 cal 29 11 [(.tmp 28),(.const (.int .i64 4))] [23,3] 3,
 asn 6 29 3] fr st (.seq c71_28 k)) ∧
 evK gS fi71 c71_25 fr st k=evK gS fi71 c71_26 fr st (.seq c71_40 k) ∧
 evK gS fi71 c71_24 fr st k=condK gS fi71 (fr.op (.tmp 26)).bool? c71_25 .skip fr st k ∧
 (evK gS fi71 c71_22 fr st k=opsR gS fi71 [qB 27 .eql 3 13 10 3 4,
 asn 26 27 4] fr st (.seq c71_24 k)) ∧
 evK gS fi71 c71_16 fr st k=condK gS fi71 (fr.op (.tmp 17)).bool? c71_17 c71_22 fr st k ∧
 (evK gS fi71 c71_14 fr st k=opsR gS fi71 [qB 18 .eql 3 13 9 3 4,
 asn 17 18 4] fr st (.seq c71_16 k)) ∧
 evK gS fi71 c71_10 fr st k=condK gS fi71 (fr.op (.tmp 14)).bool? c71_11 c71_14 fr st k ∧
 (evK gS fi71 c71_8 fr st k=opsR gS fi71 [qB 15 .eql 3 13 1 3 4,
 asn 14 15 4] fr st (.seq c71_10 k)) ∧
 evK gS fi71 c71_7 fr st k=evK gS fi71 c71_8 fr st (.blk 0 k) ∧
 (evK gS fi71 c71_5 fr st k=opsR gS fi71 [qF 12 91 5 1 0,
 ld 13 3 12 3] fr st (.seq c71_7 k)) ∧
 (evK gS fi71 c71_50 fr st k=opsR gS fi71 [mv 48 0 23,
 cal 49 55 [(.tmp 48)] [23] 88,
 qF 50 91 5 3 0,
 sto 88 50 49] fr st k) ∧
 evK gS fi71 c71_49 fr st k=condK gS fi71 (fr.op (.tmp 47)).bool? c71_50 .skip fr st k ∧
 (evK gS fi71 c71_47 fr st k=opsR gS fi71 [qF 45 91 5 1 0,
 ld 46 3 45 3,
 qB 47 .eql 3 46 8 3 4] fr st (.seq c71_49 k)) ∧
 (evK gS fi71 c71_52 fr st k=opsR gS fi71 [ld 51 91 5 91,
 sto 91 4 51] fr st (.seq .ret k)) ∧
 evK gS fi71 c71_46 fr st k=evK gS fi71 c71_47 fr st (.seq c71_52 k) ∧
 (evK gS fi71 c71_44 fr st k=opsR gS fi71 [mv 42 0 23,
 cal 43 55 [(.tmp 42)] [23] 88,
 qF 44 91 5 2 0,
 sto 88 44 43] fr st (.seq c71_46 k)) ∧
 evK gS fi71 c71_4 fr st k=evK gS fi71 c71_5 fr st (.seq c71_44 k) ∧
 (evK gS fi71 c71_2 fr st k=opsR gS fi71 [mv 7 1 9,
 mv 8 0 23,
 cal 9 11 [(.tmp 8),(.const (.int .i64 10))] [23,3] 3,
 op1 10 (.binOp .add 3 (.const (.int .i64 1)) (.tmp 9) 3) 3,
 op1 11 (.build 91 #[(0,(.tmp 7)),(1,(.tmp 10))]) 91,
 op1 5 (.alloc 91) 0,
 sto 91 5 11] fr st (.seq c71_4 k)) ∧
 evK gS fi71 c71_0 fr st k=opsR gS fi71 [op1 4 (.alloc 91) 0] fr st (.seq c71_2 k):=⟨evK_rs 4 rfl (by kernel_rfl),evK_rs 7 rfl (by kernel_rfl),evK_rs 6 rfl (by kernel_rfl),rfl,evK_rs 10 rfl (by kernel_rfl),evK_dr 12 rfl (by kernel_rfl) (by kernel_rfl),evK_r 11 (by kernel_rfl),rfl,rfl,rfl,evK_rs 9 rfl (by kernel_rfl),rfl,rfl,evK_rs 8 rfl (by kernel_rfl),rfl,evK_rs 5 rfl (by kernel_rfl),rfl,evK_rs 3 rfl (by kernel_rfl),rfl,evK_rs 2 rfl (by kernel_rfl),evK_r 16 (by kernel_rfl),rfl,evK_rs 15 rfl (by kernel_rfl),evK_rs 17 rfl (by kernel_rfl),rfl,evK_rs 14 rfl (by kernel_rfl),rfl,evK_rs 1 rfl (by kernel_rfl),evK_rs 0 rfl (by kernel_rfl)⟩
theorem m71:mini fi71.body=c71_0:=by kernel_rfl
theorem n71_29 (fr:Fr)(st:St)(k:Kt):nextK gS fi71 (.loop c71_30 k) .normal fr st=evK gS fi71 c71_29 fr st k:=rfl
theorem T71_40 (nm:List UInt8)(l:List Int)(a id m:Nat)(vs:List Val)(hv:vs≠[])(st:St)(h:FeedOk st id)(e0 e1 e6 e13:E)(h0:e0.Tame)(h1:e1.Tame)(h6:e6.Tame)(h13:e13.Tame)(T:List (Nat × E))(X:List (Nat × List V))(hx4:lk X 4=some [.str [],.int .i64 0,.int .i64 0,.int .i64 0,.float .f64 0,.str [],.bool false,.int .i64 0,.int .i64 0,.float .f64 0,.str [],.bool false,.osl 0 []])(hx5:lk X 5=some [.str nm,.int .i64 10,.int .i64 0,.int .i64 0,.float .f64 0,.str [],.bool false,.int .i64 0,.int .i64 0,.float .f64 0,.str [],.bool false,.sref false 5 (st.objs.length+m) 0 vs.length]) :
  evK gS fi71 c71_40 {ps:=[(0,e0),(1,e1),(4,.lp 4 0),(5,.lp 5 0),(6,e6),(13,e13)],ts:=T,lc:=X} (setF (nw st m (vs.flatMap Val.cells)) id l a) (.blk 0 (.seq c71_44 .nil))=some (.ret ((⟨nm,10,vzero,vzero,vs⟩:Pred).enc) none,setF (dd st (m+1)) id l a):=by
 have hz:=fun a0 a1 a2 a3 a4 a5 a6 a7 a8 a9 a10 a11 hf=>frz_predcells (a0:=a0) (a1:=a1) (a2:=a2) (a3:=a3) (a4:=a4) (a5:=a5) (a6:=a6) (a7:=a7) (a8:=a8) (a9:=a9) (a10:=a10) (a11:=a11) hf (frz_vals h 4 m vs hv l a)
 simp [lk_lset_self _ _ _ _ hx4,hx4,hx5,h0,h1,h6,h13,hz,vzero,-zil,-zit,-znl,-znt,ty3,ty4,ty9,ty23,ty88,ty89,ty91,ty122,eq88,H71,fi16_eq,fi17_eq,E71,q71_38,e71_40,n71_29]
theorem L71 (nm:List UInt8)(l:List Int)(a id:Nat)(ha:a<549755813888)(st:St)(h:FeedOk st id)(e1 e13:E)(h1:e1.Tame)(h13:e13.Tame):∀ (r j m:Nat) (vs:List Val) (T:List (Nat × E)) (X:List (Nat × List V)),j+2*r<549755812000→vs.length=m+1→vs.length+r<1000→lk X 4=some [.str [],.int .i64 0,.int .i64 0,.int .i64 0,.float .f64 0,.str [],.bool false,.int .i64 0,.int .i64 0,.float .f64 0,.str [],.bool false,.osl 0 []]→lk X 5=some [.str nm,.int .i64 10,.int .i64 0,.int .i64 0,.float .f64 0,.str [],.bool false,.int .i64 0,.int .i64 0,.float .f64 0,.str [],.bool false,.sref false 5 (st.objs.length+m) 0 (m+1)] →
  evK gS fi71 c71_29 {ps:=[(0,.val (.ptr id 0)),(1,e1),(4,.lp 4 0),(5,.lp 5 0),(6,.val (.int .i64 ((r:Int) - 1))),(13,e13)],ts:=T,lc:=X} (setF (nw st m (vs.flatMap Val.cells)) id l (nA l a j)) (.blk 1 (.seq c71_40 (.blk 0 (.seq c71_44 .nil))))=some (.ret ((⟨nm,10,vzero,vzero,vs ++ valsV l a j r⟩:Pred).enc) none,setF (dd st (m+1+r)) id l (nA l a (j+2*r))):=by
 intro r
 induction r with
 | zero =>
  intro j m vs T X hj hlen hlt hx4 hx5
  refine evK_loop c71_30 _ _ _ _ rfl ?_
  have ht:=fun T=>T71_40 nm l (nA l a j) id m vs (by intro e;rw [e] at hlen;simp at hlen) st h (.val (.ptr id 0)) e1 (.val (.int .i64 (-1))) e13 rfl h1 rfl h13 T X hx4 (by rw [hx5,hlen])
  simp [h1,h13,ht,valsV,-zil,-zit,-znl,-znt,ty3,ty4,ty9,ty23,ty88,ty89,ty91,ty122,eq88,H71,fi16_eq,fi17_eq,E71,q71_38,n71_29]
 | succ r ih =>
  intro j m vs T X hj hlen hlt hx4 hx5
  refine evK_loop c71_30 _ _ _ _ rfl ?_
  have hv:=fun fr=>k55 l a j id fr (nw st m (vs.flatMap Val.cells)) (h.nw m _) ha (by omega)
  have e1':((r+1:Nat):Int) - 1=(r:Int):=by omega
  have e2:(0:Int)≤(r:Int):=by omega
  have e3:IntKind.wrap .i64 ((r:Int) - 1)=(r:Int) - 1:=wrap64 (by omega) (by omega)
  have e4:=vals_cells_len vs
  have e5:=vals_cells_strip vs
  have e6:=vals_cells_one vs
  have e7:∀ v:Val,vs.flatMap Val.cells ++ [.int .i64 v.kind,.int .i64 v.n,.float .f64 v.x,.str v.s,.bool v.b]=(vs ++ [v]).flatMap Val.cells:=by intro v;simp [Val.cells]
  have IH:=fun T X h4 h5=>ih (j+2) (m+1) (vs ++ [valueV l a j]) T X (by omega) (by simp [hlen]) (by simp;omega) h4 h5
  have r1:=obj_gr h m (vs.flatMap Val.cells) l (nA l a (j+2))
  have r2:=set_gr h m (vs.flatMap Val.cells) l (nA l a (j+2))
  have r3:=fun fr k len cs=>newRef_dd h fr (m+1) k len cs l (nA l a (j+2))
  have e8:(m+1+1)*48≤140737488355328:=by omega
  have e9:(m+1+1)≤140737488355328:=by omega
  rw [hlen] at e4
  rw [e1']
  rw [show valsV l a j (r+1)=valueV l a j :: valsV l a (j+2) r from rfl,show m+1+(r+1)=m+1+1+r by omega,show j+2*(r+1)=j+2+2*r by omega,List.append_cons vs]
  simp [-zaa,-List.flatMap_append,-St.obj,-St.set,h1,h13,hx4,hx5,hv,e2,e3,e4,e5,e6,e7,e8,e9,r1,r2,r3,markStep,markAppend,elemsAt,lk_lset_self _ _ _ _ hx5,-zil,-zit,-znl,-znt,ty3,ty4,ty9,ty23,ty88,ty89,ty91,ty122,eq88,H71,fi16_eq,fi17_eq,E71,q71_38,n71_29]
  exact IH _ _ (by simp [hx4]) (lk_lset_self _ _ _ _ hx5)
theorem c71 (l:List Int)(a j id:Nat)(nm:List UInt8)(st:St)(h:FeedOk st id)(ha:a<549755813888)(hj:j<549755811000) :
  EvF gS 71 [.ptr id 0,.str nm] (setF st id l (nA l a j))=some (.ret (predV l a j nm).1.enc none,setF (dd st (predV l a j nm).1.set.length) id l (nA l a (j+(predV l a j nm).2))):=by
 refine EvF_start fi29_eq (fun x h=>by cases h) m71 ?_
 rw [st71]
 have hm:fi71.marks=[39,2000011,1000000]:=rfl
 have hl:fi71.locals=[4,5]:=rfl
 have hr:fi71.results=[.cell 4 91]:=rfl
 have hb:=fd_bound l a j (n:=10) (by omega)
 have hb4:=fd_bound l a (j+1) (n:=4) (by omega)
 unfold predV
 have hk:=fun fr=>k11 l a j id 10 fr st h ha (by omega) (by omega)
 have hk4:=fun fr=>k11 l a (j+1) id 4 fr st h ha (by omega) (by omega)
 have hv1:=fun fr=>k55 l a (j+1) id fr st h ha (by omega)
 have hv3:=fun fr=>k55 l a (j+3) id fr st h ha (by omega)
 generalize fd l a j 10=z at *
 generalize fd l a (j+1) 4=y at *
 have hz:z=0∨z=1∨z=2∨z=3∨z=4∨z=5∨z=6∨z=7∨z=8∨z=9:=by omega
 have hy:y=0∨y=1∨y=2∨y=3:=by omega
 have d0:=dd_zero st
 have a2:j+1+1=j+2:=rfl
 have a5:j+3+2=j+5:=rfl
 have a3:j+1+2=j+3:=by omega
 have hz2:=fun st a0 a1 a2 a3 a4 a5 a6 a7 a8 a9 a10 a11 hf=>frz_predcells (a0:=a0) (a1:=a1) (a2:=a2) (a3:=a3) (a4:=a4) (a5:=a5) (a6:=a6) (a7:=a7) (a8:=a8) (a9:=a9) (a10:=a10) (a11:=a11) hf (frz_nil 4 st)
 have en:encVals []=[]:=rfl
 rcases hz with rfl | rfl | rfl | rfl | rfl | rfl | rfl | rfl | rfl | rfl
 case inr.inr.inr.inr.inr.inr.inr.inr.inl=>rcases hy with rfl | rfl | rfl | rfl <;> simp [P4,vzero,d0,en,a2,a3,a5,hz2,w64_1,w64_2,w64_3,w64_4,w64_5,w64_6,w64_7,w64_8,w64_9,w64_10,hk,hk4,hv1,hv3,-zil,-zit,-znl,-znt,ty3,ty4,ty9,ty23,ty88,ty89,ty91,ty122,eq88,hm,hl,hr,fi16_eq,fi17_eq,E71,q71_38,n71_29]
 case inr.inr.inr.inr.inr.inr.inr.inr.inr =>
  have hv2:=fun fr=>k55 l a (j+2) id fr st h ha (by omega)
  have e2:(0:Int)≤y:=by omega
  have e3:IntKind.wrap .i64 (y - 1)=y - 1:=wrap64 (by omega) (by omega)
  have r3:=fun fr k len cs=>newRef_setF h fr k len cs l (nA l a (j+2+2))
  simp [-St.obj,-St.set,a2,w64_1,w64_2,w64_3,w64_4,w64_5,w64_6,w64_7,w64_8,w64_9,w64_10,hk,hk4,hv1,hv3,-zil,-zit,-znl,-znt,ty3,ty4,ty9,ty23,ty88,ty89,ty91,ty122,eq88,hm,hl,hr,fi16_eq,fi17_eq,E71,q71_38,n71_29]
  refine evK_loop c71_30 _ _ _ _ rfl ?_
  simp [-St.obj,-St.set,e2,e3,hv2,r3,markStep,markAppend,elemsAt,-zil,-zit,-znl,-znt,ty3,ty4,ty9,ty23,ty88,ty89,ty91,ty122,eq88,hm,hl,hr,fi16_eq,fi17_eq,E71,q71_38,n71_29]
  have hf:=fun T X=>L71 nm l a id ha st h (.val (.str nm)) (.val (.int .i64 10)) rfl rfl y.toNat (j+2+2) 0 [valueV l a (j+2)] T X (by omega) rfl (by simp;omega)
  have ey:((y.toNat:Nat):Int)=y:=by omega
  rw [ey] at hf
  refine Eq.trans (hf _ _ ?_ ?_) ?_
  ·simp
  ·simp
  ·have hl:=vals_length l a (y.toNat+1) (j+2)
   have hc:[valueV l a (j+2)] ++ valsV l a (j+2+2) y.toNat=valsV l a (j+2) (y.toNat+1):=rfl
   rw [hc,hl]
   rw [show 0+1+y.toNat=y.toNat+1 by omega,show j+2+2+2*y.toNat=j+(2+2*(y.toNat+1)) by omega]
   rfl
 all_goals simp [vzero,d0,en,a2,a3,a5,hz2,w64_1,w64_2,w64_3,w64_4,w64_5,w64_6,w64_7,w64_8,w64_9,w64_10,hk,hk4,hv1,hv3,-zil,-zit,-znl,-znt,ty3,ty4,ty9,ty23,ty88,ty89,ty91,ty122,eq88,hm,hl,hr,fi16_eq,fi17_eq,E71,q71_38,n71_29]
theorem k71 (l:List Int)(a j id:Nat)(nm:List UInt8)(fr:Fr)(st:St)(h:FeedOk st id)(ha:a<549755813888)(hj:j<549755811000) :
  callStep gS (EvF gS) 71 [.ptr id 0,.str nm] fr (setF st id l (nA l a j))=some (.ok (.val ((predV l a j nm).1.enc)) (fr.map E.noMem) (setF (dd st ((predV l a j nm).1.set.length)) id l (nA l a (j+(predV l a j nm).2)))):=by
 unfold callStep
 simp only [show gS.ext 71=none from rfl,fi29_eq,show fi71.pure=false from rfl,Bool.false_eq_true,if_false,c71 l a j id nm st h ha (by omega),retE]
 all_goals rfl
end
end Go.Proofs.Ytdoobejjedpcgaa
namespace Go.Ab
open Go
def aget:List Attr→List UInt8→Val × Bool
 | [],_=>(vzero,false)
 | a :: r,nm=>if a.name=nm then (a.v,true) else aget r nm
def sgt (a b:List UInt8):Bool:=!(Op.bytesLess a b || decide (a=b))
def rises:Option (List UInt8)→List Pred→Bool
 | _,[]=>true
 | none,p :: r=>pright p && rises (some p.name) r
 | some n,p :: r=>pright p && !sgt n p.name && rises (some p.name) r
def fright (f:List Pred):Bool:=decide (f.length≤3) && rises none f
def ftakes (f:List Pred)(l:List Attr):Bool:=f.all fun p=>(aget l p.name).2 && ptakes p (aget l p.name).1
def fcov1 (p:Pred)(g:List Pred):Bool:=g.any fun q=>decide (q.name=p.name) && pimplies q p
def fcovers (f g:List Pred):Bool:=g.any pvoid || f.all fun p=>fcov1 p g
def fsames:List Pred→List Pred→Bool
 | [],[]=>true
 | a :: r,b :: s=>psame a b && fsames r s
 | _,_=>false
def fsame (f g:List Pred):Bool:=decide (f.length=g.length) && fsames f g
def encPredss (l:List (List Pred)):List V:=l.map fun f=>V.slice (encPreds f)
theorem encPredss_length (l:List (List Pred)):(encPredss l).length=l.length:=by simp [encPredss]
theorem encPredss_get (l:List (List Pred))(i:Nat):(encPredss l)[i]?=(l[i]?).map fun f=>V.slice (encPreds f):=by simp [encPredss]
theorem encPredss_gE (l:List (List Pred))(i:Nat)(h:i<(encPredss l).length):(encPredss l)[i]'h=.slice (encPreds (l[i]'(by rw [encPredss_length] at h;exact h))):=by simp [encPredss]
theorem flats_predss (l:List (List Pred)):flats (encPredss l)=true:=by
 induction l with
 | nil=>rfl
 | cons x r ih=>simp only [encPredss,List.map_cons,flats,V.flat,flats_preds] at ih ⊢;exact ih
attribute [simp] encPredss_length encPredss_get encPredss_gE flats_predss
def POk (f:List Pred):Prop:=f.length<4611686018427387904∧∀ p∈f,p.ok
theorem POk.get {f:List Pred} (h:POk f) {i:Nat} {p:Pred} (hp:f[i]?=some p):p.ok:=h.2 p (zmg hp)
theorem rises_some (n:List UInt8)(p:Pred)(r:List Pred):rises (some n) (p :: r)=(pright p && !sgt n p.name && rises (some p.name) r):=rfl
theorem rises_none (p:Pred)(r:List Pred):rises none (p :: r)=(pright p && rises (some p.name) r):=rfl
theorem rises_nil (o:Option (List UInt8)):rises o []=true:=by cases o <;> rfl
def prevN (f:List Pred)(i:Nat):Option (List UInt8):=if i=0 then none else (f[i - 1]?).map Pred.name
theorem prevN_zero (f:List Pred):prevN f 0=none:=rfl
theorem prevN_succ {f:List Pred} {i:Nat} {p:Pred} (h:f[i]?=some p):prevN f (i+1)=some p.name:=by
 unfold prevN;rw [if_neg (by omega),Nat.add_sub_cancel,h];rfl
theorem fsames_len:∀ {a b:List Pred},fsames a b=true→a.length=b.length
 | [],[],_=>rfl
 | a :: r,b :: s,h=>by
  simp only [fsames,Bool.and_eq_true] at h
  simp [fsames_len h.2]
 | [],_ :: _,h=>by simp [fsames] at h
 | _ :: _,[],h=>by simp [fsames] at h
end Go.Ab
namespace Go.Proofs.Ytdoobejjedpcgaa
open Go Go.Ab
noncomputable section
variable (fr:Fr)(st:St)(k:Kt)
def fi86:FI:={body:=codeOf Try.f86,ntmps:=26,results:=[.cell 4 88,.tmp 5],pers:=[0,1,4,5,6],locals:=[4],pure:=true,marks:=[]}
theorem H86:fi86.marks=[]∧fi86.locals=[4]∧fi86.results=[.cell 4 88,.tmp 5]:=⟨rfl,rfl,rfl⟩
theorem fi93_eq:gS.fn 86=some fi86:=by kernel_rfl
theorem st86 (a0 a1:V):startFr fi86 [a0,a1]={ps:=[(0,.val a0),(1,.val a1),(4,.any),(5,.any),(6,.any)],ts:=[],lc:=[]}:=rfl
def b86:Code:=mini (codeOf Try.f86)
def c86_10:Code:=.cond (.tmp 10) .skip (.exit 0)
def c86_8:Code:=.seq (codeN b86 133) c86_10
def c86_18:Code:=.seq (codeN b86 2341) .ret
def c86_17:Code:=.cond (.tmp 19) c86_18 .skip
def c86_15:Code:=.seq (codeN b86 549) c86_17
def c86_22:Code:=codeN b86 229
def c86_13:Code:=.seq (.block 1 c86_15) c86_22
def c86_7:Code:=.seq c86_8 c86_13
def c86_6:Code:=.loop c86_7
def c86_5:Code:=.block 0 c86_6
def c86_3:Code:=.seq (codeN b86 9) c86_5
def c86_23:Code:=.seq (codeN b86 11) .ret
def c86_2:Code:=.seq c86_3 c86_23
def c86_0:Code:=.seq (codeN b86 2) c86_2
theorem E86:evK gS fi86 c86_10 fr st k=condK gS fi86 (fr.op (.tmp 10)).bool? .skip (.exit 0) fr st k ∧
 (evK gS fi86 c86_8 fr st k=opsR gS fi86 [mv 7 6 3,
 mv 8 0 42,
 len1 9 8 42 3,
 bop 10 .lss 3 7 9 3 4] fr st (.seq c86_10 k)) ∧
 (evK gS fi86 c86_18 fr st k=opsR gS fi86 [mv 20 0 42,
 mv 21 6 3,
 ixa 22 42 20 21 0,
 qF 23 95 22 1 0,
 ld 24 88 23 88,
 sto 88 4 24,
 qA 5 true 4] fr st (.seq .ret k)) ∧
 evK gS fi86 c86_17 fr st k=condK gS fi86 (fr.op (.tmp 19)).bool? c86_18 .skip fr st k ∧
 (evK gS fi86 c86_15 fr st k=opsR gS fi86 [mv 13 0 42,
 mv 14 6 3,
 ixa 15 42 13 14 0,
 qF 16 95 15 0 0,
 ld 17 9 16 9,
 mv 18 1 9,
 bop 19 .eql 9 17 18 9 4] fr st (.seq c86_17 k)) ∧
 (evK gS fi86 c86_22 fr st k=opsR gS fi86 [mv 11 6 3,
 qB 12 .add 3 11 1 3 3,
 asn 6 12 3] fr st k) ∧
 evK gS fi86 c86_13 fr st k=evK gS fi86 c86_15 fr st (.blk 1 (.seq c86_22 k)) ∧
 evK gS fi86 c86_7 fr st k=evK gS fi86 c86_8 fr st (.seq c86_13 k) ∧
 evK gS fi86 c86_5 fr st k=evK gS fi86 c86_6 fr st (.blk 0 k) ∧
 evK gS fi86 c86_3 fr st k=opsR gS fi86 [qI 6 0 3] fr st (.seq c86_5 k) ∧
 (evK gS fi86 c86_23 fr st k=opsR gS fi86 [op1 25 (.build 88 #[]) 88,
 sto 88 4 25,
 qA 5 false 4] fr st (.seq .ret k)) ∧
 evK gS fi86 c86_2 fr st k=evK gS fi86 c86_3 fr st (.seq c86_23 k) ∧
 (evK gS fi86 c86_0 fr st k=opsR gS fi86 [op1 4 (.alloc 88) 0,
 qA 5 false 4] fr st (.seq c86_2 k)):=⟨rfl,evK_rs 2 rfl (by kernel_rfl),evK_rs 5 rfl (by kernel_rfl),rfl,evK_rs 4 rfl (by kernel_rfl),evK_r 3 (by kernel_rfl),rfl,rfl,rfl,evK_rs 1 rfl (by kernel_rfl),evK_rs 6 rfl (by kernel_rfl),rfl,evK_rs 0 rfl (by kernel_rfl)⟩
theorem m86:mini fi86.body=c86_0:=by kernel_rfl
theorem n86_6 (fr:Fr)(st:St)(k:Kt):nextK gS fi86 (.loop c86_7 k) .normal fr st=evK gS fi86 c86_6 fr st k:=rfl
theorem L86_6 (l:List Attr)(nm:List UInt8)(h_l:l.length<4611686018427387904)(st:St):∀ (n i:Nat) (j:Int)  (T:List (Nat × E)) (X:List (Nat × List V)) (hx4:lk X 4=some [.int .i64 0,.int .i64 0,.float .f64 0,.str [],.bool false]) ,j=(i:Int)→i≤(l).length→(l).length - i=n →
  evK gS fi86 c86_6 {ps:=[(0,.val (.slice (encAttrs l))),(1,.val (.str nm)),(4,.lp 4 0),(5,.val (.bool false)),(6,.val (.int .i64 j))],ts:=T,lc:=X} st (.blk 0 (.seq c86_23 .nil))=some ((.ret (.tuple [(aget (l.drop i) nm).1.enc,.bool (aget (l.drop i) nm).2]) none),st):=by
 intro n
 induction n with
 | zero =>
  intro i j   T X hx4  hj hi hn
  obtain rfl:i=(l).length:=by omega
  subst hj
  refine evK_loop c86_7 _ st _ _ rfl ?_
  simp (config:={contextual:=true,maxSteps:=10000000,maxDischargeDepth:=6}) [-zil,-zit,-znl,-znt,ty3,ty4,ty9,ty42,ty88,ty95,eq88,H86,E86,n86_6,hx4,aget,vzero,lk_lset_self _ _ _ _ hx4]
  all_goals first | done | grind | omega
 | succ n ih =>
  intro i j   T X hx4  hj hi hn
  subst hj
  obtain ⟨x,hx⟩  := qgx (l:=(l)) (i:=i) (by omega)
  have hd:=drop_get hx
  have hlt:(i:Int)<((l).length:Int):=by omega
  have hlt2:i<(l).length:=by omega
  have hxe:(l)[i]'hlt2=x:=by rw [zge hlt2] at hx;exact Option.some.inj hx
  have hw:IntKind.wrap .i64 ((i:Int)+1)=(i:Int)+1:=wrap64 (by omega) (by omega)
  have hf4:∀ v,lk (lset (X.filter fun x=>!(x.1 == 7)) 4 v) 4=some v:=fun v=>lk_lset_self _ _ _ _ (by rw [lk_filter _ _ _ rfl];exact hx4)
  have IH:=fun T X hx4=>ih (i+1) ((i:Int)+1) T X hx4 rfl (by omega) (by omega)
  refine evK_loop c86_7 _ st _ _ rfl ?_
  simp (config:={contextual:=true,maxSteps:=10000000,maxDischargeDepth:=6}) [-zil,-zit,-znl,-znt,ty3,ty4,ty9,ty42,ty88,ty95,eq88,H86,E86,n86_6,hx4,hx,hxe,hd,hlt,hlt2,hw,IH,aget,vzero,hf4,lk_lset_self _ _ _ _ hx4]
  all_goals first | done | grind | omega
theorem c86 (l:List Attr)(nm:List UInt8)  (h_l:l.length<4611686018427387904) (st:St):EvF gS 86 [.slice (encAttrs l),.str nm] st=some (.ret (.tuple [(aget l nm).1.enc,.bool (aget l nm).2]) none,st):=by
 refine EvF_start fi93_eq (fun x h=>by cases h) m86 ?_
 rw [st86]
 simp (config:={contextual:=true,maxSteps:=10000000,maxDischargeDepth:=6}) [-zil,-zit,-znl,-znt,ty3,ty4,ty9,ty42,ty88,ty95,eq88,H86,E86,n86_6,(fun T X hx4=>L86_6 l nm h_l st _ 0 0  T X hx4 rfl (Nat.zero_le _) rfl),h_l]
 all_goals first | done | grind | omega
theorem k86 (l:List Attr)(nm:List UInt8)  (h_l:l.length<4611686018427387904) (fr:Fr) (st:St):callStep gS (EvF gS) 86 [.slice (encAttrs l),.str nm] fr st=some (.ok (retE none (.tuple [(aget l nm).1.enc,.bool (aget l nm).2])) fr st) :=
 call_pure rfl fi93_eq rfl (fun st=>c86 l nm h_l st) (by simp)
theorem x86:gS.ext 86=none:=rfl
theorem p86:fi86.pure=true:=rfl
def fi56:FI:={body:=codeOf Try.f56,ntmps:=35,results:=[.tmp 4],pers:=[0,1,4,5,6,7],locals:=[6],pure:=true,marks:=[]}
theorem H56:fi56.marks=[]∧fi56.locals=[6]∧fi56.results=[.tmp 4]:=⟨rfl,rfl,rfl⟩
theorem fi40_eq:gS.fn 56=some fi56:=by kernel_rfl
theorem st56 (a0 a1:V):startFr fi56 [a0,a1]={ps:=[(0,.val a0),(1,.val a1),(4,.any),(5,.any),(6,.any),(7,.any)],ts:=[],lc:=[]}:=rfl
def b56:Code:=mini (codeOf Try.f56)
def c56_10:Code:=.cond (.tmp 11) .skip (.exit 0)
def c56_8:Code:=.seq (codeN b56 133) c56_10
def r56_18:Array Oper:=regOps (codeN (codeOf Try.f56) 1317)
def c56_18:Code:=.region 5 r56_18 true
def q56_18:List (Oper × Fl):=[(mv 24 7 4,qz1),
 (op1 25 (.unOp .not 4 (.tmp 24)) 4,qz1),
 (mv 26 25 4,qz1),
 (qm 27 0 29 2 false,qz0),
 (qm 28 5 3 2 false,qz0),
 (qi 29 29 27 28 0 2 false,qz0),
 (ql 30 91 29 91 2 false,qz0),
 (ql 31 88 6 88 2 false,qz3),
 (mk (some 32) (.call {callee:=(.value (.func 87)),args:=#[(.tmp 30),(.tmp 31)],argTypes:=#[91,88]}) 4 (some (2,false)),qz4),
 (mk (some 33) (.unOp .not 4 (.tmp 32)) 4 (some (2,false)),qz1),
 (qQ 34 26 true 33 4,qz3)]
def c56_20:Code:=.seq (codeN b56 4901) .ret
def c56_19:Code:=.cond (.tmp 34) c56_20 .skip
def c56_17:Code:=.seq c56_18 c56_19
def c56_15:Code:=.seq (codeN b56 549) c56_17
def c56_24:Code:=codeN b56 229
def c56_13:Code:=.seq (.block 1 c56_15) c56_24
def c56_7:Code:=.seq c56_8 c56_13
def c56_6:Code:=.loop c56_7
def c56_5:Code:=.block 0 c56_6
def c56_3:Code:=.seq (codeN b56 9) c56_5
def c56_25:Code:=.seq (codeN b56 11) .ret
def c56_2:Code:=.seq c56_3 c56_25
def c56_0:Code:=.seq (codeN b56 2) c56_2
theorem E56:evK gS fi56 c56_10 fr st k=condK gS fi56 (fr.op (.tmp 11)).bool? .skip (.exit 0) fr st k ∧
 (evK gS fi56 c56_8 fr st k=opsR gS fi56 [mv 8 5 3,
 mv 9 0 29,
 len1 10 9 29 3,
 bop 11 .lss 3 8 10 3 4] fr st (.seq c56_10 k)) ∧
 evK gS fi56 c56_18 fr st k=drwR gS fi56 r56_18 q56_18 fr st k ∧
 evK gS fi56 c56_20 fr st k=opsR gS fi56 [qA 4 false 4] fr st (.seq .ret k) ∧
 evK gS fi56 c56_19 fr st k=condK gS fi56 (fr.op (.tmp 34)).bool? c56_20 .skip fr st k ∧
 evK gS fi56 c56_17 fr st k=evK gS fi56 c56_18 fr st (.seq c56_19 k) ∧
 (evK gS fi56 c56_15 fr st k=opsR gS fi56 [mv 15 1 42,
 mv 16 0 29,
 mv 17 5 3,
 ixa 18 29 16 17 0,
 qF 19 91 18 0 0,
 ld 20 9 19 9,
 cal 21 86 [(.tmp 15),(.tmp 20)] [42,9] 106,
 mv 14 21 106,
 op1 22 (.extract (.tmp 14) 0) 88,
 op1 23 (.extract (.tmp 14) 1) 4,
 op1 6 (.alloc 88) 0,
 sto 88 6 22,
 asn 7 23 4] fr st (.seq c56_17 k)) ∧
 (evK gS fi56 c56_24 fr st k=opsR gS fi56 [mv 12 5 3,
 qB 13 .add 3 12 1 3 3,
 asn 5 13 3] fr st k) ∧
 evK gS fi56 c56_13 fr st k=evK gS fi56 c56_15 fr st (.blk 1 (.seq c56_24 k)) ∧
 evK gS fi56 c56_7 fr st k=evK gS fi56 c56_8 fr st (.seq c56_13 k) ∧
 evK gS fi56 c56_5 fr st k=evK gS fi56 c56_6 fr st (.blk 0 k) ∧
 evK gS fi56 c56_3 fr st k=opsR gS fi56 [qI 5 0 3] fr st (.seq c56_5 k) ∧
 evK gS fi56 c56_25 fr st k=opsR gS fi56 [qA 4 true 4] fr st (.seq .ret k) ∧
 evK gS fi56 c56_2 fr st k=evK gS fi56 c56_3 fr st (.seq c56_25 k) ∧
 evK gS fi56 c56_0 fr st k=opsR gS fi56 [qA 4 false 4] fr st (.seq c56_2 k):=⟨rfl,evK_rs 2 rfl (by kernel_rfl),evK_dr 5 rfl (by kernel_rfl) (by kernel_rfl),evK_rs 6 rfl (by kernel_rfl),rfl,rfl,evK_rs 4 rfl (by kernel_rfl),evK_r 3 (by kernel_rfl),rfl,rfl,rfl,evK_rs 1 rfl (by kernel_rfl),evK_rs 7 rfl (by kernel_rfl),rfl,evK_rs 0 rfl (by kernel_rfl)⟩
theorem m56:mini fi56.body=c56_0:=by kernel_rfl
theorem n56_6 (fr:Fr)(st:St)(k:Kt):nextK gS fi56 (.loop c56_7 k) .normal fr st=evK gS fi56 c56_6 fr st k:=rfl
theorem L56_6 (f:List Pred)(l:List Attr)(h_f:POk f)(h_l:l.length<4611686018427387904)(st:St):∀ (n i:Nat) (j:Int)  (e6 e7:E) (T:List (Nat × E)) (X:List (Nat × List V)) (ht6:e6.Tame) (ht7:e7.Tame) ,j=(i:Int)→i≤(f).length→(f).length - i=n →
  evK gS fi56 c56_6 {ps:=[(0,.val (.slice (encPreds f))),(1,.val (.slice (encAttrs l))),(4,.val (.bool false)),(5,.val (.int .i64 j)),(6,e6),(7,e7)],ts:=T,lc:=X} st (.blk 0 (.seq c56_25 .nil))=some ((.ret (.bool (ftakes (f.drop i) l)) none),st):=by
 intro n
 have hfl:=h_f.1
 induction n with
 | zero =>
  intro i j  e6 e7 T X ht6 ht7  hj hi hn
  obtain rfl:i=(f).length:=by omega
  subst hj
  refine evK_loop c56_7 _ st _ _ rfl ?_
  simp (config:={contextual:=true,maxSteps:=10000000,maxDischargeDepth:=6}) [-zil,-zit,-znl,-znt,ty3,ty4,ty9,ty29,ty42,ty88,ty91,eq88,H56,k87,x87,fi22_eq,p87,k86,x86,fi93_eq,p86,E56,q56_18,n56_6,h_l,ht6,ht7]
  all_goals try simp (config:={contextual:=true}) [-zil,-zit,-znl,-znt,ftakes]
  all_goals first | done | grind | omega
 | succ n ih =>
  intro i j  e6 e7 T X ht6 ht7  hj hi hn
  subst hj
  obtain ⟨x,hx⟩  := qgx (l:=(f)) (i:=i) (by omega)
  have hd:=drop_get hx
  have hlt:(i:Int)<((f).length:Int):=by omega
  have hlt2:i<(f).length:=by omega
  have hxe:(f)[i]'hlt2=x:=by rw [zge hlt2] at hx;exact Option.some.inj hx
  have hw:IntKind.wrap .i64 ((i:Int)+1)=(i:Int)+1:=wrap64 (by omega) (by omega)
  have hpo:=h_f.get hx
  have hxo:=hpo.1
  have hxs:=hpo.2
  have IH:=fun e6 e7 T X ht6 ht7=>ih (i+1) ((i:Int)+1) e6 e7 T X ht6 ht7 rfl (by omega) (by omega)
  refine evK_loop c56_7 _ st _ _ rfl ?_
  simp (config:={contextual:=true,maxSteps:=10000000,maxDischargeDepth:=6}) [-zil,-zit,-znl,-znt,ty3,ty4,ty9,ty29,ty42,ty88,ty91,eq88,H56,k87,x87,fi22_eq,p87,k86,x86,fi93_eq,p86,E56,q56_18,n56_6,h_l,ht6,ht7,hx,hxe,hd,hlt,hlt2,hw,IH,hxo,hxs]
  all_goals try simp (config:={contextual:=true}) [-zil,-zit,-znl,-znt,ftakes]
  all_goals first | done | grind | omega
theorem c56 (f:List Pred)(l:List Attr)(h_f:POk f)(h_l:l.length<4611686018427387904)(st:St):EvF gS 56 [.slice (encPreds f),.slice (encAttrs l)] st=some (.ret (.bool (ftakes f l)) none,st):=by
 refine EvF_start fi40_eq (fun x h=>by cases h) m56 ?_
 rw [st56]
 have hfl:=h_f.1
 simp (config:={contextual:=true,maxSteps:=10000000,maxDischargeDepth:=6}) [-zil,-zit,-znl,-znt,ty3,ty4,ty9,ty29,ty42,ty88,ty91,eq88,H56,k87,x87,fi22_eq,p87,k86,x86,fi93_eq,p86,E56,q56_18,n56_6,(fun e6 e7 T X ht6 ht7=>L56_6 f l h_f h_l st _ 0 0  e6 e7 T X ht6 ht7 rfl (Nat.zero_le _) rfl),hfl]
 all_goals try simp (config:={contextual:=true}) [-zil,-zit,-znl,-znt,ftakes]
 all_goals first | done | grind | omega
theorem k56 (f:List Pred)(l:List Attr)(h_f:POk f)(h_l:l.length<4611686018427387904)(fr:Fr)(st:St):callStep gS (EvF gS) 56 [.slice (encPreds f),.slice (encAttrs l)] fr st=some (.ok (retE none (.bool (ftakes f l))) fr st) :=
 call_pure rfl fi40_eq rfl (fun st=>c56 f l h_f h_l st) (by simp)
def fi49:FI:={body:=codeOf Try.f49,ntmps:=27,results:=[.tmp 4],pers:=[0,1,4,5,12,13],locals:=[],pure:=true,marks:=[]}
theorem H49:fi49.marks=[]∧fi49.locals=[]∧fi49.results=[.tmp 4]:=⟨rfl,rfl,rfl⟩
theorem fi41_eq:gS.fn 49=some fi49:=by kernel_rfl
theorem st49 (a0 a1:V):startFr fi49 [a0,a1]={ps:=[(0,.val a0),(1,.val a1),(4,.any),(5,.any),(12,.any),(13,.any)],ts:=[],lc:=[]}:=rfl
def b49:Code:=mini (codeOf Try.f49)
def c49_6:Code:=.seq (codeN b49 37) .ret
def c49_5:Code:=.cond (.tmp 10) c49_6 .skip
def c49_3:Code:=.seq (codeN b49 9) c49_5
def r49_26:Array Oper:=regOps (codeN (codeOf Try.f49) 5323)
def c49_26:Code:=.region 6 r49_26 true
def q49_26:List (Oper × Fl):=[(mv 16 0 29,qz0),
 (mv 17 5 3,qz0),
 (ixa 18 29 16 17 0,qz0),
 (ld 19 91 18 91,qz0),
 (mv 20 1 29,qz0),
 (mv 21 5 3,qz3),
 (ixa 22 29 20 21 0,qz3),
 (ld 23 91 22 91,qz3),
 (cal 24 80 [(.tmp 19),(.tmp 23)] [91,91] 4,qz4),
 (op1 25 (.unOp .not 4 (.tmp 24)) 4,qz1)]
def c49_28:Code:=.seq (codeN b49 19659) .ret
def c49_27:Code:=.cond (.tmp 25) c49_28 .skip
def c49_25:Code:=.seq c49_26 c49_27
def c49_23:Code:=.seq (codeN b49 2251) c49_25
def c49_32:Code:=codeN b49 971
def c49_21:Code:=.seq (.block 1 c49_23) c49_32
def c49_17:Code:=.seq (.cond (.tmp 14) .skip (.exit 0)) c49_21
def c49_15:Code:=.seq (codeN b49 139) c49_17
def c49_14:Code:=.loop c49_15
def c49_13:Code:=.block 0 c49_14
def c49_11:Code:=.seq (codeN b49 19) c49_13
def c49_33:Code:=.seq (codeN b49 23) .ret
def c49_10:Code:=.seq c49_11 c49_33
def c49_2:Code:=.seq c49_3 c49_10
def c49_0:Code:=.seq (codeN b49 2) c49_2
theorem E49:evK gS fi49 c49_6 fr st k=opsR gS fi49 [qA 4 false 4] fr st (.seq .ret k) ∧
 evK gS fi49 c49_5 fr st k=condK gS fi49 (fr.op (.tmp 10)).bool? c49_6 .skip fr st k ∧
 (evK gS fi49 c49_3 fr st k=opsR gS fi49 [mv 6 0 29,
 len1 7 6 29 3,
 mv 8 1 29,
 len1 9 8 29 3,
 bop 10 .neq 3 7 9 3 4] fr st (.seq c49_5 k)) ∧
 evK gS fi49 c49_26 fr st k=drwR gS fi49 r49_26 q49_26 fr st k ∧
 evK gS fi49 c49_28 fr st k=opsR gS fi49 [qA 4 false 4] fr st (.seq .ret k) ∧
 evK gS fi49 c49_27 fr st k=condK gS fi49 (fr.op (.tmp 25)).bool? c49_28 .skip fr st k ∧
 evK gS fi49 c49_25 fr st k=evK gS fi49 c49_26 fr st (.seq c49_27 k) ∧
 (evK gS fi49 c49_23 fr st k=opsR gS fi49 [mv 15 13 3,
 asn 5 15 3] fr st (.seq c49_25 k)) ∧
 (evK gS fi49 c49_32 fr st k=opsR gS fi49 [qB 26 .add 3 13 1 3 3,
 mv 13 26 3] fr st k) ∧
 evK gS fi49 c49_21 fr st k=evK gS fi49 c49_23 fr st (.blk 1 (.seq c49_32 k)) ∧
 evK gS fi49 c49_17 fr st k=condK gS fi49 (fr.op (.tmp 14)).bool? .skip (.exit 0) fr st (.seq c49_21 k) ∧
 evK gS fi49 c49_15 fr st k=opsR gS fi49 [bop 14 .lss 3 13 12 3 0] fr st (.seq c49_17 k) ∧
 evK gS fi49 c49_13 fr st k=evK gS fi49 c49_14 fr st (.blk 0 k) ∧
 (evK gS fi49 c49_11 fr st k=opsR gS fi49 [mv 11 0 29,
 len1 12 11 29 3,
 op1 13 (.move (.const (.int .i64 0))) 3] fr st (.seq c49_13 k)) ∧
 evK gS fi49 c49_33 fr st k=opsR gS fi49 [qA 4 true 4] fr st (.seq .ret k) ∧
 evK gS fi49 c49_10 fr st k=evK gS fi49 c49_11 fr st (.seq c49_33 k) ∧
 evK gS fi49 c49_2 fr st k=evK gS fi49 c49_3 fr st (.seq c49_10 k) ∧
 evK gS fi49 c49_0 fr st k=opsR gS fi49 [qA 4 false 4] fr st (.seq c49_2 k):=⟨evK_rs 2 rfl (by kernel_rfl),rfl,evK_rs 1 rfl (by kernel_rfl),evK_dr 6 rfl (by kernel_rfl) (by kernel_rfl),evK_rs 7 rfl (by kernel_rfl),rfl,rfl,evK_rs 5 rfl (by kernel_rfl),evK_r 8 (by kernel_rfl),rfl,rfl,evK_rs 4 rfl (by kernel_rfl),rfl,evK_rs 3 rfl (by kernel_rfl),evK_rs 9 rfl (by kernel_rfl),rfl,rfl,evK_rs 0 rfl (by kernel_rfl)⟩
theorem m49:mini fi49.body=c49_0:=by kernel_rfl
theorem n49_14 (fr:Fr)(st:St)(k:Kt):nextK gS fi49 (.loop c49_15 k) .normal fr st=evK gS fi49 c49_14 fr st k:=rfl
theorem L49_14 (f:List Pred)(g:List Pred)(h_f:POk f)(h_g:POk g)(st:St):∀ (n i:Nat) (j:Int) (m:Int) (e5:E) (T:List (Nat × E)) (X:List (Nat × List V)) (ht5:e5.Tame) (hlen:f.length=g.length) (hm12:m=((f.length:Nat):Int)),j=(i:Int)→i≤(f).length→(f).length - i=n →
  evK gS fi49 c49_14 {ps:=[(0,.val (.slice (encPreds f))),(1,.val (.slice (encPreds g))),(4,.val (.bool false)),(5,e5),(12,.val (.int .i64 m)),(13,.val (.int .i64 j))],ts:=T,lc:=X} st (.blk 0 (.seq c49_33 .nil))=some ((.ret (.bool (fsames (f.drop i) (g.drop i))) none),st):=by
 intro n
 have hfl:=h_f.1
 induction n with
 | zero =>
  intro i j m e5 T X ht5 hlen hm12 hj hi hn
  obtain rfl:i=(f).length:=by omega
  subst hj
  subst hm12
  have hz:g.drop f.length=[]:=List.drop_eq_nil_of_le (by omega)
  refine evK_loop c49_15 _ st _ _ rfl ?_
  simp (config:={contextual:=true,maxSteps:=10000000,maxDischargeDepth:=6}) [-zil,-zit,-znl,-znt,ty3,ty4,ty29,ty91,H49,k80,x80,fi25_eq,p80,E49,q49_26,n49_14,ht5,hz]
  all_goals try simp (config:={contextual:=true}) [-zil,-zit,-znl,-znt,fsames]
  all_goals first | done | grind | omega
 | succ n ih =>
  intro i j m e5 T X ht5 hlen hm12 hj hi hn
  subst hj
  obtain ⟨x,hx⟩  := qgx (l:=(f)) (i:=i) (by omega)
  have hd:=drop_get hx
  have hlt:(i:Int)<((f).length:Int):=by omega
  have hlt2:i<(f).length:=by omega
  have hxe:(f)[i]'hlt2=x:=by rw [zge hlt2] at hx;exact Option.some.inj hx
  have hw:IntKind.wrap .i64 ((i:Int)+1)=(i:Int)+1:=wrap64 (by omega) (by omega)
  subst hm12
  have hpo:=h_f.get hx
  have hxo:=hpo.1
  have hxs:=hpo.2
  obtain ⟨y,hy⟩:∃ y,(g)[i]?=some y:=⟨(g)[i]'(by omega),zge (by omega)⟩
  have hyd:=drop_get hy
  have hyl:i<(g).length:=by omega
  have hye:(g)[i]'hyl=y:=by rw [zge hyl] at hy;exact Option.some.inj hy
  have hpy:=h_g.get hy
  have hyo:=hpy.1
  have hys:=hpy.2
  have IH:=fun m e5 T X ht5 hlen hm12=>ih (i+1) ((i:Int)+1) m e5 T X ht5 hlen hm12 rfl (by omega) (by omega)
  refine evK_loop c49_15 _ st _ _ rfl ?_
  simp (config:={contextual:=true,maxSteps:=10000000,maxDischargeDepth:=6}) [-zil,-zit,-znl,-znt,ty3,ty4,ty29,ty91,H49,k80,x80,fi25_eq,p80,E49,q49_26,n49_14,ht5,hx,hxe,hd,hlt,hlt2,hw,IH,hy,hye,hyd,hlen,hxo,hxs,hyo,hys]
  all_goals try simp (config:={contextual:=true}) [-zil,-zit,-znl,-znt,fsames]
  all_goals first | done | grind | omega
theorem c49 (f:List Pred)(g:List Pred)(h_f:POk f)(h_g:POk g)(st:St):EvF gS 49 [.slice (encPreds f),.slice (encPreds g)] st=some (.ret (.bool (fsame f g)) none,st):=by
 refine EvF_start fi41_eq (fun x h=>by cases h) m49 ?_
 rw [st49]
 have hfl:=h_f.1
 simp (config:={contextual:=true,maxSteps:=10000000,maxDischargeDepth:=6}) [-zil,-zit,-znl,-znt,ty3,ty4,ty29,ty91,H49,k80,x80,fi25_eq,p80,E49,q49_26,n49_14,(fun m e5 T X ht5 hlen hm12=>L49_14 f g h_f h_g st _ 0 0  m e5 T X ht5 hlen hm12 rfl (Nat.zero_le _) rfl),hfl]
 all_goals try simp (config:={contextual:=true}) [-zil,-zit,-znl,-znt,fsame]
 all_goals first | done | grind | omega
theorem k49 (f:List Pred)(g:List Pred)(h_f:POk f)(h_g:POk g)(fr:Fr)(st:St):callStep gS (EvF gS) 49 [.slice (encPreds f),.slice (encPreds g)] fr st=some (.ok (retE none (.bool (fsame f g))) fr st) :=
 call_pure rfl fi41_eq rfl (fun st=>c49 f g h_f h_g st) (by simp)
def fi15:FI:={body:=codeOf Try.f15,ntmps:=27,results:=[.tmp 4],pers:=[0,1,4,5],locals:=[],pure:=true,marks:=[]}
theorem H15:fi15.marks=[]∧fi15.locals=[]∧fi15.results=[.tmp 4]:=⟨rfl,rfl,rfl⟩
theorem fi42_eq:gS.fn 15=some fi15:=by kernel_rfl
theorem st15 (a0 a1:V):startFr fi15 [a0,a1]={ps:=[(0,.val a0),(1,.val a1),(4,.any),(5,.any)],ts:=[],lc:=[]}:=rfl
def b15:Code:=mini (codeOf Try.f15)
def c15_6:Code:=.seq (codeN b15 37) .ret
def c15_5:Code:=.cond (.tmp 10) c15_6 .skip
def c15_3:Code:=.seq (codeN b15 9) c15_5
def c15_18:Code:=.cond (.tmp 14) .skip (.exit 0)
def c15_16:Code:=.seq (codeN b15 267) c15_18
def r15_24:Array Oper:=regOps (codeN (codeOf Try.f15) 1099)
def c15_24:Code:=.region 6 r15_24 true
def q15_24:List (Oper × Fl):=[(mv 17 0 29,qz0),
 (mv 18 5 3,qz0),
 (ixa 19 29 17 18 0,qz0),
 (ld 20 91 19 91,qz0),
 (mv 21 1 29,qz0),
 (mv 22 5 3,qz3),
 (ixa 23 29 21 22 0,qz3),
 (ld 24 91 23 91,qz3),
 (cal 25 54 [(.tmp 20),(.tmp 24)] [91,91] 4,qz4),
 (op1 26 (.unOp .not 4 (.tmp 25)) 4,qz1)]
def c15_26:Code:=.seq (codeN b15 4683) .ret
def c15_25:Code:=.cond (.tmp 26) c15_26 .skip
def c15_23:Code:=.seq c15_24 c15_25
def c15_30:Code:=codeN b15 459
def c15_21:Code:=.seq (.block 1 c15_23) c15_30
def c15_15:Code:=.seq c15_16 c15_21
def c15_14:Code:=.loop c15_15
def c15_13:Code:=.block 0 c15_14
def c15_11:Code:=.seq (codeN b15 19) c15_13
def c15_31:Code:=.seq (codeN b15 23) .ret
def c15_10:Code:=.seq c15_11 c15_31
def c15_2:Code:=.seq c15_3 c15_10
def c15_0:Code:=.seq (codeN b15 2) c15_2
theorem E15:evK gS fi15 c15_6 fr st k=opsR gS fi15 [qA 4 false 4] fr st (.seq .ret k) ∧
 evK gS fi15 c15_5 fr st k=condK gS fi15 (fr.op (.tmp 10)).bool? c15_6 .skip fr st k ∧
 (evK gS fi15 c15_3 fr st k=opsR gS fi15 [mv 6 0 29,
 len1 7 6 29 3,
 mv 8 1 29,
 len1 9 8 29 3,
 bop 10 .neq 3 7 9 3 4] fr st (.seq c15_5 k)) ∧
 evK gS fi15 c15_18 fr st k=condK gS fi15 (fr.op (.tmp 14)).bool? .skip (.exit 0) fr st k ∧
 (evK gS fi15 c15_16 fr st k=opsR gS fi15 [mv 11 5 3,
 mv 12 0 29,
 len1 13 12 29 3,
 bop 14 .lss 3 11 13 3 4] fr st (.seq c15_18 k)) ∧
 evK gS fi15 c15_24 fr st k=drwR gS fi15 r15_24 q15_24 fr st k ∧
 evK gS fi15 c15_26 fr st k=opsR gS fi15 [qA 4 false 4] fr st (.seq .ret k) ∧
 evK gS fi15 c15_25 fr st k=condK gS fi15 (fr.op (.tmp 26)).bool? c15_26 .skip fr st k ∧
 evK gS fi15 c15_23 fr st k=evK gS fi15 c15_24 fr st (.seq c15_25 k) ∧
 (evK gS fi15 c15_30 fr st k=opsR gS fi15 [mv 15 5 3,
 qB 16 .add 3 15 1 3 3,
 asn 5 16 3] fr st k) ∧
 evK gS fi15 c15_21 fr st k=evK gS fi15 c15_23 fr st (.blk 1 (.seq c15_30 k)) ∧
 evK gS fi15 c15_15 fr st k=evK gS fi15 c15_16 fr st (.seq c15_21 k) ∧
 evK gS fi15 c15_13 fr st k=evK gS fi15 c15_14 fr st (.blk 0 k) ∧
 evK gS fi15 c15_11 fr st k=opsR gS fi15 [qI 5 0 3] fr st (.seq c15_13 k) ∧
 evK gS fi15 c15_31 fr st k=opsR gS fi15 [qA 4 true 4] fr st (.seq .ret k) ∧
 evK gS fi15 c15_10 fr st k=evK gS fi15 c15_11 fr st (.seq c15_31 k) ∧
 evK gS fi15 c15_2 fr st k=evK gS fi15 c15_3 fr st (.seq c15_10 k) ∧
 evK gS fi15 c15_0 fr st k=opsR gS fi15 [qA 4 false 4] fr st (.seq c15_2 k):=⟨evK_rs 2 rfl (by kernel_rfl),rfl,evK_rs 1 rfl (by kernel_rfl),rfl,evK_rs 4 rfl (by kernel_rfl),evK_dr 6 rfl (by kernel_rfl) (by kernel_rfl),evK_rs 7 rfl (by kernel_rfl),rfl,rfl,evK_r 5 (by kernel_rfl),rfl,rfl,rfl,evK_rs 3 rfl (by kernel_rfl),evK_rs 8 rfl (by kernel_rfl),rfl,rfl,evK_rs 0 rfl (by kernel_rfl)⟩
theorem m15:mini fi15.body=c15_0:=by kernel_rfl
theorem n15_14 (fr:Fr)(st:St)(k:Kt):nextK gS fi15 (.loop c15_15 k) .normal fr st=evK gS fi15 c15_14 fr st k:=rfl
theorem L15_14 (f:List Pred)(g:List Pred)(h_f:POk f)(h_g:POk g)(st:St):∀ (n i:Nat) (j:Int)  (T:List (Nat × E)) (X:List (Nat × List V))  (hlen:f.length=g.length),j=(i:Int)→i≤(f).length→(f).length - i=n →
  evK gS fi15 c15_14 {ps:=[(0,.val (.slice (encPreds f))),(1,.val (.slice (encPreds g))),(4,.val (.bool false)),(5,.val (.int .i64 j))],ts:=T,lc:=X} st (.blk 0 (.seq c15_31 .nil))=some ((.ret (.bool (fsames (f.drop i) (g.drop i))) none),st):=by
 intro n
 have hfl:=h_f.1
 induction n with
 | zero =>
  intro i j   T X  hlen hj hi hn
  obtain rfl:i=(f).length:=by omega
  subst hj
  have hz:g.drop f.length=[]:=List.drop_eq_nil_of_le (by omega)
  refine evK_loop c15_15 _ st _ _ rfl ?_
  simp (config:={contextual:=true,maxSteps:=10000000,maxDischargeDepth:=6}) [-zil,-zit,-znl,-znt,ty3,ty4,ty29,ty91,H15,k54,x54,fi26_eq,p54,E15,q15_24,n15_14,hz]
  all_goals try simp (config:={contextual:=true}) [-zil,-zit,-znl,-znt,fsames]
  all_goals first | done | grind | omega
 | succ n ih =>
  intro i j   T X  hlen hj hi hn
  subst hj
  obtain ⟨x,hx⟩  := qgx (l:=(f)) (i:=i) (by omega)
  have hd:=drop_get hx
  have hlt:(i:Int)<((f).length:Int):=by omega
  have hlt2:i<(f).length:=by omega
  have hxe:(f)[i]'hlt2=x:=by rw [zge hlt2] at hx;exact Option.some.inj hx
  have hw:IntKind.wrap .i64 ((i:Int)+1)=(i:Int)+1:=wrap64 (by omega) (by omega)
  have hpo:=h_f.get hx
  have hxo:=hpo.1
  have hxs:=hpo.2
  obtain ⟨y,hy⟩:∃ y,(g)[i]?=some y:=⟨(g)[i]'(by omega),zge (by omega)⟩
  have hyd:=drop_get hy
  have hyl:i<(g).length:=by omega
  have hye:(g)[i]'hyl=y:=by rw [zge hyl] at hy;exact Option.some.inj hy
  have hpy:=h_g.get hy
  have hyo:=hpy.1
  have hys:=hpy.2
  have IH:=fun T X hlen=>ih (i+1) ((i:Int)+1) T X hlen rfl (by omega) (by omega)
  refine evK_loop c15_15 _ st _ _ rfl ?_
  simp (config:={contextual:=true,maxSteps:=10000000,maxDischargeDepth:=6}) [-zil,-zit,-znl,-znt,ty3,ty4,ty29,ty91,H15,k54,x54,fi26_eq,p54,E15,q15_24,n15_14,hx,hxe,hd,hlt,hlt2,hw,IH,hy,hye,hyd,hlen,hxo,hxs,hyo,hys]
  all_goals try simp (config:={contextual:=true}) [-zil,-zit,-znl,-znt,fsames]
  all_goals first | done | grind | omega
theorem c15 (f:List Pred)(g:List Pred)(h_f:POk f)(h_g:POk g)(st:St):EvF gS 15 [.slice (encPreds f),.slice (encPreds g)] st=some (.ret (.bool (fsame f g)) none,st):=by
 refine EvF_start fi42_eq (fun x h=>by cases h) m15 ?_
 rw [st15]
 have hfl:=h_f.1
 simp (config:={contextual:=true,maxSteps:=10000000,maxDischargeDepth:=6}) [-zil,-zit,-znl,-znt,ty3,ty4,ty29,ty91,H15,k54,x54,fi26_eq,p54,E15,q15_24,n15_14,(fun T X hlen=>L15_14 f g h_f h_g st _ 0 0  T X hlen rfl (Nat.zero_le _) rfl),hfl]
 all_goals try simp (config:={contextual:=true}) [-zil,-zit,-znl,-znt,fsame]
 all_goals first | done | grind | omega
theorem k15 (f:List Pred)(g:List Pred)(h_f:POk f)(h_g:POk g)(fr:Fr)(st:St):callStep gS (EvF gS) 15 [.slice (encPreds f),.slice (encPreds g)] fr st=some (.ok (retE none (.bool (fsame f g))) fr st) :=
 call_pure rfl fi42_eq rfl (fun st=>c15 f g h_f h_g st) (by simp)
theorem x15:gS.ext 15=none:=rfl
theorem p15:fi15.pure=true:=rfl
end
end Go.Proofs.Ytdoobejjedpcgaa
namespace Go.Proofs.Ytdoobejjedpcgaa
open Go Go.Ab
noncomputable section
variable (fr:Fr)(st:St)(k:Kt)
def fi130:FI:={body:=codeOf Try.f130,ntmps:=34,results:=[.tmp 2],pers:=[0,2,3,4,8,9,10],locals:=[4],pure:=true,marks:=[]}
theorem H130:fi130.marks=[]∧fi130.locals=[4]∧fi130.results=[.tmp 2]:=⟨rfl,rfl,rfl⟩
theorem fi37_eq:gS.fn 130=some fi130:=by kernel_rfl
theorem st130 (a0:V):startFr fi130 [a0]={ps:=[(0,.val a0),(2,.any),(3,.any),(4,.any),(8,.any),(9,.any),(10,.any)],ts:=[],lc:=[]}:=rfl
def b130:Code:=mini (codeOf Try.f130)
def c130_6:Code:=.seq (codeN b130 37) .ret
def c130_5:Code:=.cond (.tmp 7) c130_6 .skip
def c130_3:Code:=.seq (codeN b130 9) c130_5
def r130_26:Array Oper:=regOps (codeN (codeOf Try.f130) 5323)
def c130_26:Code:=.region 6 r130_26 true
def q130_26:List (Oper × Fl):=[(ld 15 91 4 91,qz1),
 (cal 16 97 [(.tmp 15)] [91] 4,qz4),
 (op1 17 (.unOp .not 4 (.tmp 16)) 4,qz1),
 (mv 18 17 4,qz1),
 (qm 19 3 3 3 false,qz1),
 (qc 20 .gtr 3 19 0 3 4 3 false,qz1),
 (qm 21 20 4 3 false,qz1),
 (qm 22 0 29 6 true,qz0),
 (qm 23 3 3 6 true,qz0),
 (qc 24 .sub 3 23 1 3 3 6 true,qz0),
 (qi 25 29 22 24 0 6 true,qz0),
 (qf 26 91 25 0 0 6 true,qz0),
 (ql 27 9 26 9 6 true,qz0),
 (qf 28 91 4 0 0 6 true,qz3),
 (ql 29 9 28 9 6 true,qz3),
 (qb 30 .gtr 9 27 29 9 4 6 true,qz3),
 (mk (some 31) (.pick (.tmp 21) (.tmp 30) (.const (.bool false))) 4 (some (3,false)),qz3),
 (qQ 32 18 true 31 4,qz3)]
def c130_28:Code:=.seq (codeN b130 19659) .ret
def c130_27:Code:=.cond (.tmp 32) c130_28 .skip
def c130_25:Code:=.seq c130_26 c130_27
def c130_23:Code:=.seq (codeN b130 2251) c130_25
def c130_32:Code:=codeN b130 971
def c130_21:Code:=.seq (.block 1 c130_23) c130_32
def c130_17:Code:=.seq (.cond (.tmp 11) .skip (.exit 0)) c130_21
def c130_15:Code:=.seq (codeN b130 139) c130_17
def c130_14:Code:=.loop c130_15
def c130_13:Code:=.block 0 c130_14
def c130_11:Code:=.seq (codeN b130 19) c130_13
def c130_33:Code:=.seq (codeN b130 23) .ret
def c130_10:Code:=.seq c130_11 c130_33
def c130_2:Code:=.seq c130_3 c130_10
def c130_0:Code:=.seq (codeN b130 2) c130_2
theorem E130:evK gS fi130 c130_6 fr st k=opsR gS fi130 [qA 2 false 4] fr st (.seq .ret k) ∧
 evK gS fi130 c130_5 fr st k=condK gS fi130 (fr.op (.tmp 7)).bool? c130_6 .skip fr st k ∧
 (evK gS fi130 c130_3 fr st k=opsR gS fi130 [mv 5 0 29,
 len1 6 5 29 3,
 qB 7 .gtr 3 6 3 3 4] fr st (.seq c130_5 k)) ∧
 evK gS fi130 c130_26 fr st k=drwR gS fi130 r130_26 q130_26 fr st k ∧
 evK gS fi130 c130_28 fr st k=opsR gS fi130 [qA 2 false 4] fr st (.seq .ret k) ∧
 evK gS fi130 c130_27 fr st k=condK gS fi130 (fr.op (.tmp 32)).bool? c130_28 .skip fr st k ∧
 evK gS fi130 c130_25 fr st k=evK gS fi130 c130_26 fr st (.seq c130_27 k) ∧
 (evK gS fi130 c130_23 fr st k=opsR gS fi130 [mv 12 10 3,
 ixa 13 29 8 10 0,
 ld 14 91 13 91,
 op1 4 (.alloc 91) 0,
 asn 3 12 3,
 sto 91 4 14] fr st (.seq c130_25 k)) ∧
 (evK gS fi130 c130_32 fr st k=opsR gS fi130 [qB 33 .add 3 10 1 3 3,
 mv 10 33 3] fr st k) ∧
 evK gS fi130 c130_21 fr st k=evK gS fi130 c130_23 fr st (.blk 1 (.seq c130_32 k)) ∧
 evK gS fi130 c130_17 fr st k=condK gS fi130 (fr.op (.tmp 11)).bool? .skip (.exit 0) fr st (.seq c130_21 k) ∧
 evK gS fi130 c130_15 fr st k=opsR gS fi130 [bop 11 .lss 3 10 9 3 0] fr st (.seq c130_17 k) ∧
 evK gS fi130 c130_13 fr st k=evK gS fi130 c130_14 fr st (.blk 0 k) ∧
 (evK gS fi130 c130_11 fr st k=opsR gS fi130 [mv 8 0 29,
 len1 9 8 29 3,
 op1 10 (.move (.const (.int .i64 0))) 3] fr st (.seq c130_13 k)) ∧
 evK gS fi130 c130_33 fr st k=opsR gS fi130 [qA 2 true 4] fr st (.seq .ret k) ∧
 evK gS fi130 c130_10 fr st k=evK gS fi130 c130_11 fr st (.seq c130_33 k) ∧
 evK gS fi130 c130_2 fr st k=evK gS fi130 c130_3 fr st (.seq c130_10 k) ∧
 evK gS fi130 c130_0 fr st k=opsR gS fi130 [qA 2 false 4] fr st (.seq c130_2 k):=⟨evK_rs 2 rfl (by kernel_rfl),rfl,evK_rs 1 rfl (by kernel_rfl),evK_dr 6 rfl (by kernel_rfl) (by kernel_rfl),evK_rs 7 rfl (by kernel_rfl),rfl,rfl,evK_rs 5 rfl (by kernel_rfl),evK_r 8 (by kernel_rfl),rfl,rfl,evK_rs 4 rfl (by kernel_rfl),rfl,evK_rs 3 rfl (by kernel_rfl),evK_rs 9 rfl (by kernel_rfl),rfl,rfl,evK_rs 0 rfl (by kernel_rfl)⟩
theorem m130:mini fi130.body=c130_0:=by kernel_rfl
theorem n130_14 (fr:Fr)(st:St)(k:Kt):nextK gS fi130 (.loop c130_15 k) .normal fr st=evK gS fi130 c130_14 fr st k:=rfl
theorem L130_14 (f:List Pred)(h_f:POk f)(st:St):∀ (n i:Nat) (e3 e4:E) (T:List (Nat × E)) (X:List (Nat × List V)) (ht3:e3.Tame) (ht4:e4.Tame),i≤f.length→f.length - i=n →
  evK gS fi130 c130_14 {ps:=[(0,.val (.slice (encPreds f))),(2,.val (.bool false)),(3,e3),(4,e4),(8,.val (.slice (encPreds f))),(9,.val (.int .i64 f.length)),(10,.val (.int .i64 (i:Nat)))],ts:=T,lc:=X} st (.blk 0 (.seq c130_33 .nil))=some (.ret (.bool (rises (prevN f i) (f.drop i))) none,st):=by
 intro n
 have hfl:=h_f.1
 induction n with
 | zero =>
  intro i e3 e4 T X ht3 ht4 hi hn
  obtain rfl:i=f.length:=by omega
  refine evK_loop c130_15 _ st _ _ rfl ?_
  simp (config:={contextual:=true,maxSteps:=10000000,maxDischargeDepth:=6}) [rises_nil,ht3,ht4,-zil,-zit,-znl,-znt,ty3,ty4,ty9,ty29,ty91,H130,k97,x97,fi19_eq,p97,E130,q130_26,n130_14]
  all_goals first | done | grind | omega
 | succ n ih =>
  intro i e3 e4 T X ht3 ht4 hi hn
  obtain ⟨x,hx⟩  := qgx (l:=f) (i:=i) (by omega)
  have hd:=drop_get hx
  have hlt:(i:Int)<(f.length:Int):=by omega
  have hlt2:i<f.length:=by omega
  have hxe:f[i]'hlt2=x:=by rw [zge hlt2] at hx;exact Option.some.inj hx
  have hw  := qws i (by omega)
  have hxo:=(h_f.get hx).1
  have hxs:=(h_f.get hx).2
  have IH:=fun e3 e4 T X ht3 ht4=>ih (i+1) e3 e4 T X ht3 ht4 (by omega) (by omega)
  rw [prevN_succ hx] at IH
  refine evK_loop c130_15 _ st _ _ rfl ?_
  rw [hd]
  by_cases h0:i=0
  ·subst h0
   rw [prevN_zero,rises_none]
   simp only [Nat.zero_add,show ((1:Nat):Int)=1 from rfl,List.drop_one] at IH
   cases hpr:pright x with
   | true=>simp (config:={contextual:=true,maxSteps:=10000000,maxDischargeDepth:=6}) [-zia,w64_1,hx,hxe,hlt,hlt2,hxo,hxs,hpr,IH,ht3,ht4,-zil,-zit,-znl,-znt,ty3,ty4,ty9,ty29,ty91,H130,k97,x97,fi19_eq,p97,E130,q130_26,n130_14]
   | false=>simp (config:={contextual:=true,maxSteps:=10000000,maxDischargeDepth:=6}) [-zia,hx,hxe,hlt,hlt2,hw,hxo,hxs,hpr,ht3,ht4,-zil,-zit,-znl,-znt,ty3,ty4,ty9,ty29,ty91,H130,k97,x97,fi19_eq,p97,E130,q130_26,n130_14]
  ·obtain ⟨y,hy⟩:∃ y,f[i - 1]?=some y:=⟨f[i - 1]'(by omega),zge (by omega)⟩
   have hyl:i - 1<f.length:=by omega
   have hye:f[i - 1]'hyl=y:=by rw [zge hyl] at hy;exact Option.some.inj hy
   have ha:prevN f i=some y.name:=by unfold prevN;rw [if_neg h0,hy];rfl
   have hip:(0:Int)<(i:Int):=by omega
   have hip2:0<i:=by omega
   have hw1:IntKind.wrap .i64 ((i:Int) - 1)=((i - 1:Nat):Int):=by rw [wrap64 (by omega) (by omega)];omega
   rw [ha,rises_some]
   cases hpr:pright x with
   | false=>simp (config:={contextual:=true,maxSteps:=10000000,maxDischargeDepth:=6}) [-zia,hx,hxe,hlt,hlt2,hw,hxo,hxs,hpr,ht3,ht4,-zil,-zit,-znl,-znt,ty3,ty4,ty9,ty29,ty91,H130,k97,x97,fi19_eq,p97,E130,q130_26,n130_14]
   | true =>
    have hsg:(!(Op.bytesLess y.name x.name || decide (y.name=x.name)))=sgt y.name x.name:=rfl
    cases hsq:sgt y.name x.name with
    | true =>
     rw [hsq] at hsg
     simp (config:={contextual:=true,maxSteps:=10000000,maxDischargeDepth:=6}) [-zia,-Bool.not_or,hx,hxe,hlt,hlt2,hw,hw1,hip,hip2,hy,hyl,hye,hxo,hxs,hpr,hsg,ht3,ht4,-zil,-zit,-znl,-znt,ty3,ty4,ty9,ty29,ty91,H130,k97,x97,fi19_eq,p97,E130,q130_26,n130_14]
    | false =>
     rw [hsq] at hsg
     simp (config:={contextual:=true,maxSteps:=10000000,maxDischargeDepth:=6}) [-zia,-Bool.not_or,hx,hxe,hlt,hlt2,hw,hw1,hip,hip2,hy,hyl,hye,hxo,hxs,hpr,hsg,IH,ht3,ht4,-zil,-zit,-znl,-znt,ty3,ty4,ty9,ty29,ty91,H130,k97,x97,fi19_eq,p97,E130,q130_26,n130_14]
def fi92:FI:={body:=codeOf Try.f92,ntmps:=37,results:=[.tmp 2],pers:=[0,2,3],locals:=[],pure:=true,marks:=[]}
theorem H92:fi92.marks=[]∧fi92.locals=[]∧fi92.results=[.tmp 2]:=⟨rfl,rfl,rfl⟩
theorem fi38_eq:gS.fn 92=some fi92:=by kernel_rfl
theorem st92 (a0:V):startFr fi92 [a0]={ps:=[(0,.val a0),(2,.any),(3,.any)],ts:=[],lc:=[]}:=rfl
def b92:Code:=mini (codeOf Try.f92)
def c92_10:Code:=.cond (.tmp 7) .skip (.exit 0)
def c92_8:Code:=.seq (codeN b92 133) c92_10
def r92_16:Array Oper:=regOps (codeN (codeOf Try.f92) 549)
def c92_16:Code:=.region 4 r92_16 true
def q92_16:List (Oper × Fl):=[(mv 10 0 29,qz0),
 (mv 11 3 3,qz0),
 (ixa 12 29 10 11 0,qz0),
 (ld 13 91 12 91,qz1),
 (cal 14 107 [(.tmp 13)] [91] 4,qz4),
 (op1 15 (.unOp .not 4 (.tmp 14)) 4,qz1),
 (mv 16 15 4,qz1),
 (qm 17 3 3 6 false,qz3),
 (qc 18 .gtr 3 17 0 3 4 6 false,qz3),
 (qm 19 18 4 6 false,qz3),
 (qm 20 0 29 9 true,qz0),
 (qm 21 3 3 9 true,qz0),
 (qc 22 .sub 3 21 1 3 3 9 true,qz0),
 (qi 23 29 20 22 0 9 true,qz0),
 (qf 24 91 23 0 0 9 true,qz0),
 (ql 25 9 24 9 9 true,qz0),
 (qm 26 0 29 9 true,qz0),
 (qm 27 3 3 9 true,qz0),
 (qi 28 29 26 27 0 9 true,qz0),
 (qf 29 91 28 0 0 9 true,qz3),
 (ql 30 9 29 9 9 true,qz3),
 (qb 31 .gtr 9 25 30 9 4 9 true,qz3),
 (mk (some 32) (.pick (.tmp 19) (.tmp 31) (.const (.bool false))) 4 (some (6,false)),qz3),
 (qQ 33 16 true 32 4,qz3)]
def c92_18:Code:=.seq (codeN b92 2341) .ret
def c92_17:Code:=.cond (.tmp 33) c92_18 .skip
def c92_15:Code:=.seq c92_16 c92_17
def c92_22:Code:=codeN b92 229
def c92_13:Code:=.seq (.block 1 c92_15) c92_22
def c92_7:Code:=.seq c92_8 c92_13
def c92_6:Code:=.loop c92_7
def c92_5:Code:=.block 0 c92_6
def c92_3:Code:=.seq (codeN b92 9) c92_5
def c92_23:Code:=.seq (codeN b92 11) .ret
def c92_2:Code:=.seq c92_3 c92_23
def c92_0:Code:=.seq (codeN b92 2) c92_2
theorem E92:evK gS fi92 c92_10 fr st k=condK gS fi92 (fr.op (.tmp 7)).bool? .skip (.exit 0) fr st k ∧
 (evK gS fi92 c92_8 fr st k=opsR gS fi92 [mv 4 3 3,
 mv 5 0 29,
 len1 6 5 29 3,
 bop 7 .lss 3 4 6 3 4] fr st (.seq c92_10 k)) ∧
 evK gS fi92 c92_16 fr st k=drwR gS fi92 r92_16 q92_16 fr st k ∧
 evK gS fi92 c92_18 fr st k=opsR gS fi92 [qA 2 false 4] fr st (.seq .ret k) ∧
 evK gS fi92 c92_17 fr st k=condK gS fi92 (fr.op (.tmp 33)).bool? c92_18 .skip fr st k ∧
 evK gS fi92 c92_15 fr st k=evK gS fi92 c92_16 fr st (.seq c92_17 k) ∧
 (evK gS fi92 c92_22 fr st k=opsR gS fi92 [mv 8 3 3,
 qB 9 .add 3 8 1 3 3,
 asn 3 9 3] fr st k) ∧
 evK gS fi92 c92_13 fr st k=evK gS fi92 c92_15 fr st (.blk 1 (.seq c92_22 k)) ∧
 evK gS fi92 c92_7 fr st k=evK gS fi92 c92_8 fr st (.seq c92_13 k) ∧
 evK gS fi92 c92_5 fr st k=evK gS fi92 c92_6 fr st (.blk 0 k) ∧
 evK gS fi92 c92_3 fr st k=opsR gS fi92 [qI 3 0 3] fr st (.seq c92_5 k) ∧
 (evK gS fi92 c92_23 fr st k=opsR gS fi92 [mv 34 0 29,
 len1 35 34 29 3,
 qB 36 .leq 3 35 3 3 4,
 asn 2 36 4] fr st (.seq .ret k)) ∧
 evK gS fi92 c92_2 fr st k=evK gS fi92 c92_3 fr st (.seq c92_23 k) ∧
 evK gS fi92 c92_0 fr st k=opsR gS fi92 [qA 2 false 4] fr st (.seq c92_2 k):=⟨rfl,evK_rs 2 rfl (by kernel_rfl),evK_dr 4 rfl (by kernel_rfl) (by kernel_rfl),evK_rs 5 rfl (by kernel_rfl),rfl,rfl,evK_r 3 (by kernel_rfl),rfl,rfl,rfl,evK_rs 1 rfl (by kernel_rfl),evK_rs 6 rfl (by kernel_rfl),rfl,evK_rs 0 rfl (by kernel_rfl)⟩
theorem m92:mini fi92.body=c92_0:=by kernel_rfl
theorem n92_6 (fr:Fr)(st:St)(k:Kt):nextK gS fi92 (.loop c92_7 k) .normal fr st=evK gS fi92 c92_6 fr st k:=rfl
theorem L92_6 (f:List Pred)(h_f:POk f)(st:St):∀ (n i:Nat) (T:List (Nat × E)) (X:List (Nat × List V)) ,i≤f.length→f.length - i=n →
  evK gS fi92 c92_6 {ps:=[(0,.val (.slice (encPreds f))),(2,.val (.bool false)),(3,.val (.int .i64 (i:Nat)))],ts:=T,lc:=X} st (.blk 0 (.seq c92_23 .nil))=some (.ret (.bool (rises (prevN f i) (f.drop i) && decide (f.length≤3))) none,st):=by
 intro n
 have hfl:=h_f.1
 induction n with
 | zero =>
  intro i  T X  hi hn
  obtain rfl:i=f.length:=by omega
  refine evK_loop c92_7 _ st _ _ rfl ?_
  simp (config:={contextual:=true,maxSteps:=10000000,maxDischargeDepth:=6}) [rises_nil,  -zil,-zit,-znl,-znt,ty3,ty4,ty9,ty29,ty91,H92,k107,x107,fi20_eq,p107,E92,q92_16,n92_6]
  all_goals first | done | grind | omega
 | succ n ih =>
  intro i  T X  hi hn
  obtain ⟨x,hx⟩  := qgx (l:=f) (i:=i) (by omega)
  have hd:=drop_get hx
  have hlt:(i:Int)<(f.length:Int):=by omega
  have hlt2:i<f.length:=by omega
  have hxe:f[i]'hlt2=x:=by rw [zge hlt2] at hx;exact Option.some.inj hx
  have hw  := qws i (by omega)
  have hxo:=(h_f.get hx).1
  have hxs:=(h_f.get hx).2
  have IH:=fun  T X  => ih (i+1)  T X  (by omega) (by omega)
  rw [prevN_succ hx] at IH
  refine evK_loop c92_7 _ st _ _ rfl ?_
  rw [hd]
  by_cases h0:i=0
  ·subst h0
   rw [prevN_zero,rises_none]
   simp only [Nat.zero_add,show ((1:Nat):Int)=1 from rfl,List.drop_one] at IH
   cases hpr:pright x with
   | true=>simp (config:={contextual:=true,maxSteps:=10000000,maxDischargeDepth:=6}) [-zia,w64_1,hx,hxe,hlt,hlt2,hxo,hxs,hpr,IH,  -zil,-zit,-znl,-znt,ty3,ty4,ty9,ty29,ty91,H92,k107,x107,fi20_eq,p107,E92,q92_16,n92_6]
   | false=>simp (config:={contextual:=true,maxSteps:=10000000,maxDischargeDepth:=6}) [-zia,hx,hxe,hlt,hlt2,hw,hxo,hxs,hpr,  -zil,-zit,-znl,-znt,ty3,ty4,ty9,ty29,ty91,H92,k107,x107,fi20_eq,p107,E92,q92_16,n92_6]
  ·obtain ⟨y,hy⟩:∃ y,f[i - 1]?=some y:=⟨f[i - 1]'(by omega),zge (by omega)⟩
   have hyl:i - 1<f.length:=by omega
   have hye:f[i - 1]'hyl=y:=by rw [zge hyl] at hy;exact Option.some.inj hy
   have ha:prevN f i=some y.name:=by unfold prevN;rw [if_neg h0,hy];rfl
   have hip:(0:Int)<(i:Int):=by omega
   have hip2:0<i:=by omega
   have hw1:IntKind.wrap .i64 ((i:Int) - 1)=((i - 1:Nat):Int):=by rw [wrap64 (by omega) (by omega)];omega
   rw [ha,rises_some]
   cases hpr:pright x with
   | false=>simp (config:={contextual:=true,maxSteps:=10000000,maxDischargeDepth:=6}) [-zia,hx,hxe,hlt,hlt2,hw,hxo,hxs,hpr,  -zil,-zit,-znl,-znt,ty3,ty4,ty9,ty29,ty91,H92,k107,x107,fi20_eq,p107,E92,q92_16,n92_6]
   | true =>
    have hsg:(!(Op.bytesLess y.name x.name || decide (y.name=x.name)))=sgt y.name x.name:=rfl
    cases hsq:sgt y.name x.name with
    | true =>
     rw [hsq] at hsg
     simp (config:={contextual:=true,maxSteps:=10000000,maxDischargeDepth:=6}) [-zia,-Bool.not_or,hx,hxe,hlt,hlt2,hw,hw1,hip,hip2,hy,hyl,hye,hxo,hxs,hpr,hsg,  -zil,-zit,-znl,-znt,ty3,ty4,ty9,ty29,ty91,H92,k107,x107,fi20_eq,p107,E92,q92_16,n92_6]
    | false =>
     rw [hsq] at hsg
     simp (config:={contextual:=true,maxSteps:=10000000,maxDischargeDepth:=6}) [-zia,-Bool.not_or,hx,hxe,hlt,hlt2,hw,hw1,hip,hip2,hy,hyl,hye,hxo,hxs,hpr,hsg,IH,  -zil,-zit,-znl,-znt,ty3,ty4,ty9,ty29,ty91,H92,k107,x107,fi20_eq,p107,E92,q92_16,n92_6]
theorem c130 (f:List Pred)(h_f:POk f)(st:St):EvF gS 130 [.slice (encPreds f)] st=some (.ret (.bool (fright f)) none,st):=by
 refine EvF_start fi37_eq (fun x h=>by cases h) m130 ?_
 rw [st130]
 have hfl:=h_f.1
 have L0:=fun e3 e4 T X ht3 ht4=>L130_14 f h_f st f.length 0 e3 e4 T X ht3 ht4 (Nat.zero_le _) rfl
 simp only [show ((0:Nat):Int)=0 from rfl,List.drop_zero,prevN_zero] at L0
 simp (config:={contextual:=true,maxSteps:=10000000,maxDischargeDepth:=6}) [-zil,-zit,-znl,-znt,ty3,ty4,ty9,ty29,ty91,H130,k97,x97,fi19_eq,p97,E130,q130_26,n130_14,L0,hfl]
 all_goals try simp (config:={contextual:=true}) [-zil,-zit,-znl,-znt,fright]
 all_goals first | done | grind | (unfold fright;grind)
theorem k130 (f:List Pred)(h_f:POk f)(fr:Fr)(st:St):callStep gS (EvF gS) 130 [.slice (encPreds f)] fr st=some (.ok (retE none (.bool (fright f))) fr st) :=
 call_pure rfl fi37_eq rfl (fun st=>c130 f h_f st) (by simp)
theorem c92 (f:List Pred)(h_f:POk f)(st:St):EvF gS 92 [.slice (encPreds f)] st=some (.ret (.bool (fright f)) none,st):=by
 refine EvF_start fi38_eq (fun x h=>by cases h) m92 ?_
 rw [st92]
 have hfl:=h_f.1
 have L0:=fun  T X  => L92_6 f h_f st f.length 0  T X  (Nat.zero_le _) rfl
 simp only [show ((0:Nat):Int)=0 from rfl,List.drop_zero,prevN_zero] at L0
 simp (config:={contextual:=true,maxSteps:=10000000,maxDischargeDepth:=6}) [-zil,-zit,-znl,-znt,ty3,ty4,ty9,ty29,ty91,H92,k107,x107,fi20_eq,p107,E92,q92_16,n92_6,L0,hfl]
 all_goals try simp (config:={contextual:=true}) [-zil,-zit,-znl,-znt,fright]
 all_goals first | done | grind | (unfold fright;grind)
theorem k92 (f:List Pred)(h_f:POk f)(fr:Fr)(st:St):callStep gS (EvF gS) 92 [.slice (encPreds f)] fr st=some (.ok (retE none (.bool (fright f))) fr st) :=
 call_pure rfl fi38_eq rfl (fun st=>c92 f h_f st) (by simp)
theorem x92:gS.ext 92=none:=rfl
theorem p92:fi92.pure=true:=rfl
end
end Go.Proofs.Ytdoobejjedpcgaa
namespace Go.Ab
open Go
theorem nw_obj (st:St)(m:Nat)(cs:List V):St.obj (nw st m cs) (st.objs.length+m)=some cs:=gr_obj st m cs
theorem nw_set {st:St} (h:st.wp≤st.objs.length)(m:Nat)(cs cs':List V):St.set (nw st m cs) (st.objs.length+m) cs'=some (nw st m cs'):=by
 unfold St.set
 rw [if_pos (by rw [gr_wp];omega)]
 unfold nw
 simp only [Option.some.injEq,St.mk.injEq,and_true]
 rw [List.set_append_right _ _ (by omega),Nat.add_sub_cancel_left,List.set_append_right _ _ (by simp),List.length_replicate,Nat.sub_self]
 rfl
theorem nw_dead (st:St)(m:Nat):nw st m []=dd st (m+1):=by
 unfold nw dd
 rw [List.replicate_succ']
theorem nw_kill {st:St} (h:st.wp≤st.objs.length)(m:Nat)(cs:List V):St.set (nw st m cs) (st.objs.length+m) []=some (dd st (m+1)):=by
 rw [nw_set h,nw_dead]
theorem newRef_dd' (st:St)(fr:Fr)(m k len:Nat)(cs:List V):newRef fr (dd st m) k len cs=.ok (.val (.sref false k (st.objs.length+m) 0 len)) fr (nw st m cs):=by
 unfold newRef
 rw [dd_len]
 unfold nw dd
 simp
theorem newRef_0 (st:St)(fr:Fr)(k len:Nat)(cs:List V):newRef fr st k len cs=.ok (.val (.sref false k st.objs.length 0 len)) fr (nw st 0 cs):=by
 unfold newRef nw
 simp
variable {α:Type}
theorem row_len (c:α→List V)(k:Nat)(hc:∀ x,(c x).length=k):∀ l:List α,(l.flatMap c).length=l.length*k
 | []=>by simp
 | x :: r=>by rw [List.flatMap_cons,zla,hc,row_len c k hc r,List.length_cons,Nat.succ_mul];omega
theorem row_get (c:α→List V)(k:Nat)(hc:∀ x,(c x).length=k) {l:List α} {i j:Nat} {x:α} (hx:l[i]?=some x)(hj:j<k):(l.flatMap c)[i*k+j]?=(c x)[j]?:=by
 have hs:l=l.take i ++ x :: l.drop (i+1):=by
  have h1:=List.take_append_drop i l
  rw [drop_get hx] at h1
  exact h1.symm
 have hl:(l.take i).length=i:=by
  have:=(List.getElem?_eq_some_iff.1 hx).1
  simp;omega
 rw [hs,List.flatMap_append,List.getElem?_append_right (by rw [row_len c k hc,hl];omega),row_len c k hc,hl,Nat.add_sub_cancel_left,List.flatMap_cons,List.getElem?_append_left (by rw [hc];exact hj)]
theorem row_splice (c:α→List V)(k:Nat)(hc:∀ x,(c x).length=k) {l:List α} {i j:Nat} {x y:α} {vs:List V} (hx:l[i]?=some x)(hs:splice (c x) j vs=some (c y)) :
  splice (l.flatMap c) (i*k+j) vs=some ((l.set i y).flatMap c):=by
 have hil:=(List.getElem?_eq_some_iff.1 hx).1
 have hsl:l=l.take i ++ x :: l.drop (i+1):=by
  have h1:=List.take_append_drop i l
  rw [drop_get hx] at h1
  exact h1.symm
 have hl:(l.take i).length=i:=by simp;omega
 have hset:l.set i y=l.take i ++ y :: l.drop (i+1):=by
  conv=>lhs;rw [hsl]
  rw [List.set_append_right _ _ (by rw [hl];omega),hl,Nat.sub_self]
  rfl
 have hA:((l.take i).flatMap c).length=i*k:=by rw [row_len c k hc,hl]
 unfold splice at hs ⊢
 split at hs
 ·rename_i hle
  have hs':=Option.some.inj hs
  rw [hc] at hle
  rw [hset,List.flatMap_append,List.flatMap_cons,← hs']
  conv=>lhs;rw [hsl]
  rw [List.flatMap_append,List.flatMap_cons]
  generalize (l.take i).flatMap c=A at hA ⊢
  generalize (l.drop (i+1)).flatMap c=C
  have hB:=hc x
  generalize c x=B at hB hs' ⊢
  rw [if_pos (by simp only [zla];omega)]
  congr 1
  rw [← hA,List.take_append,List.take_of_length_le (by omega),Nat.add_sub_cancel_left,List.take_append_of_le_length (by omega),List.drop_append,List.drop_of_length_le (by omega),show A.length+j+vs.length - A.length=j+vs.length by omega,List.drop_append_of_le_length (by omega)]
  simp [zaa]
 ·cases hs
theorem row_one (c:α→List V)(hc:∀ x,(c x).all V.one=true):∀ l:List α,(l.flatMap c).all V.one=true
 | []=>rfl
 | x :: r=>by rw [List.flatMap_cons,List.all_append,hc x,row_one c hc r];rfl
theorem flats_append:∀ (a b:List V),flats (a ++ b)=(flats a && flats b)
 | [],_=>by simp [flats]
 | v :: a,b=>by simp only [List.cons_append,flats,flats_append a b,Bool.and_assoc]
theorem row_flats (c:α→List V)(hc:∀ x,flats (c x)=true):∀ l:List α,flats (l.flatMap c)=true
 | []=>rfl
 | x :: r=>by rw [List.flatMap_cons,flats_append,hc x,row_flats c hc r];rfl
theorem row_strip (c d:α→List V)(hc:∀ x,(c x).map V.strip1=d x):∀ l:List α,(l.flatMap c).map V.strip1=l.flatMap d
 | []=>rfl
 | x :: r=>by rw [List.flatMap_cons,List.map_append,hc x,row_strip c d hc r,List.flatMap_cons]
theorem frz_row {st st1:St} (n id k:Nat)(hk:0<k)(c d:α→List V)(hc:∀ x,(c x).length=k)(hd:∀ x,(d x).length=k)(hcd:∀ x,(c x).map V.strip1=d x)(h1:∀ x,(d x).all V.one=true)(hf:∀ x,flats (d x)=true)
  (l:List α) (hl:l≠[]) (ho:St.obj st id=some (l.flatMap c)) (hs:St.set st id []=some st1):frz (n+1) st (.sref false k id 0 l.length)=some (.slice (chunk (Nat.blt 1 k) k l.length (l.flatMap d)),st1):=by
 have hne:¬ l.length=0:=by simpa using hl
 unfold frz
 simp only [hne,if_false,ho,hs,row_len c k hc,List.drop_zero,Nat.zero_add,Nat.le_refl,and_true,hk,if_true]
 rw [List.take_of_length_le (by rw [row_len c k hc];omega),row_strip c d hcd,frzL_flat _ _ _ (row_flats d hf l)]
 simp only [row_len d k hd,row_one d h1 l,and_self,if_true]
def Pred.cellsO (q:Pred × Bool):List V:=[.str q.1.name,.int .i64 q.1.test,.int .i64 q.1.v.kind,.int .i64 q.1.v.n,.float .f64 q.1.v.x,.str q.1.v.s,.bool q.1.v.b,.int .i64 q.1.w.kind,.int .i64 q.1.w.n,.float .f64 q.1.w.x,.str q.1.w.s,.bool q.1.w.b,if q.2 then .osl 5 (encVals q.1.set) else .slice (encVals q.1.set)]
theorem cellsO_len (q:Pred × Bool):(Pred.cellsO q).length=13:=rfl
theorem cells_len (q:Pred × Bool):(Pred.cells q.1).length=13:=rfl
theorem cellsO_strip (q:Pred × Bool):(Pred.cellsO q).map V.strip1=Pred.cells q.1:=by
 obtain ⟨p,b⟩:=q
 cases b <;> rfl
theorem cells_one (q:Pred × Bool):(Pred.cells q.1).all V.one=true:=rfl
theorem cells_flats (q:Pred × Bool):flats (Pred.cells q.1)=true:=by simp [flats,V.flat]
theorem chunk_preds:∀ (l:List (Pred × Bool)),chunk true 13 l.length (l.flatMap fun q=>Pred.cells q.1)=encPreds (l.map (·.1))
 | []=>rfl
 | x :: r=>by
  rw [List.length_cons,chunk,List.flatMap_cons,List.take_left' (cells_len x),List.drop_left' (cells_len x),chunk_preds r];rfl
theorem call_pure' {g:G} {f:Nat} {args:List V} {fr:Fr} {st:St} {fi:FI} {v:V} {k:Option Nat} (hx:g.ext f=none)(hf:g.fn f=some fi)(hp:fi.pure=true)(ha:flats args=true)
  (h:∃ st',EvF g f args ⟨[],0⟩=some (.ret v k,st')) (hv:v.flat=true):callStep g (EvF g) f args fr st=some (.ok (retE k v) fr st):=by
 obtain ⟨st',h⟩:=h
 unfold callStep
 simp only [hx,hf,hp,if_true,ha,h,hv]
end Go.Ab
namespace Go.Proofs.Ytdoobejjedpcgaa
open Go Go.Ab
noncomputable section
variable (fr:Fr)(st:St)(k:Kt)
theorem preds_cells (f:List Pred):(encPreds f).flatMap V.cells=(f.map fun p=>(p,false)).flatMap Pred.cellsO:=by
 induction f with
 | nil=>rfl
 | cons x r ih=>simp only [encPreds,List.map_cons,List.flatMap_cons] at ih ⊢;rw [ih];rfl
theorem map_fst (f:List Pred):(f.map fun p=>(p,false)).map (·.1)=f:=by induction f with
 | nil=>rfl
 | cons x r ih=>simp only [List.map_cons,ih]
theorem sizes_vals (l:List Val):sizesOk 5 (encVals l)=true:=by
 induction l with
 | nil=>rfl
 | cons x r ih=>simp only [encVals,List.map_cons,sizesOk] at ih ⊢;rw [ih];rfl
theorem sizes_preds (l:List Pred):sizesOk 13 (encPreds l)=true:=by
 induction l with
 | nil=>rfl
 | cons x r ih=>simp only [encPreds,List.map_cons,sizesOk] at ih ⊢;rw [ih];rfl
def PSm (f:List Pred):Prop:=f.length≤1000000∧∀ p∈f,p.name.length<4611686018427387904∧p.set.length*48≤140737488355328
theorem PSm.ok {f:List Pred} (h:PSm f):POk f:=⟨by have:=h.1;omega,fun p hp=>⟨(h.2 p hp).1,by have:=(h.2 p hp).2;omega⟩⟩
def fi50:FI:={body:=codeOf Try.f50,ntmps:=24,results:=[.tmp 2],pers:=[0,2,3,4,8,9],locals:=[],pure:=true,marks:=[6,1000000]}
theorem H50:fi50.marks=[6,1000000]∧fi50.locals=[]∧fi50.results=[.tmp 2]:=⟨rfl,rfl,rfl⟩
theorem fi45_eq:gS.fn 50=some fi50:=by kernel_rfl
theorem st50 (a0:V):startFr fi50 [a0]={ps:=[(0,.val a0),(2,.any),(3,.any),(4,.any),(8,.any),(9,.any)],ts:=[],lc:=[]}:=rfl
def b50:Code:=mini (codeOf Try.f50)
def c50_19:Code:=codeN b50 3275
def c50_17:Code:=.seq (codeN b50 2251) c50_19
def c50_20:Code:=codeN b50 971
def c50_15:Code:=.seq (.block 1 c50_17) c50_20
def c50_11:Code:=.seq (.cond (.tmp 10) .skip (.exit 0)) c50_15
def c50_9:Code:=.seq (codeN b50 139) c50_11
def c50_8:Code:=.loop c50_9
def c50_7:Code:=.block 0 c50_8
def c50_5:Code:=.seq (codeN b50 19) c50_7
def c50_21:Code:=.seq (codeN b50 23) .ret
def c50_4:Code:=.seq c50_5 c50_21
def c50_2:Code:=.seq (codeN b50 5) c50_4
def c50_0:Code:=.seq (codeN b50 2) c50_2
theorem E50:(evK gS fi50 c50_19 fr st k=opsR gS fi50 [mv 12 3 29,
 mv 13 4 3,
 mv 14 3 29,
 mv 15 4 3,
 ixa 16 29 14 15 0,
 qF 17 91 16 4 0,
 ld 18 89 17 89,
 op1 19 (.call {callee:=(.builtin .append),args:=#[(.const (.slice none 0 0)),(.tmp 18)],argTypes:=#[89,89]}) 89,
 ixa 20 29 12 13 0,
 qF 21 91 20 4 0,
 sto 89 21 19] fr st k) ∧
 (evK gS fi50 c50_17 fr st k=opsR gS fi50 [mv 11 9 3,
 asn 4 11 3] fr st (.seq c50_19 k)) ∧
 (evK gS fi50 c50_20 fr st k=opsR gS fi50 [qB 22 .add 3 9 1 3 3,
 mv 9 22 3] fr st k) ∧
 evK gS fi50 c50_15 fr st k=evK gS fi50 c50_17 fr st (.blk 1 (.seq c50_20 k)) ∧
 evK gS fi50 c50_11 fr st k=condK gS fi50 (fr.op (.tmp 10)).bool? .skip (.exit 0) fr st (.seq c50_15 k) ∧
 evK gS fi50 c50_9 fr st k=opsR gS fi50 [bop 10 .lss 3 9 8 3 0] fr st (.seq c50_11 k) ∧
 evK gS fi50 c50_7 fr st k=evK gS fi50 c50_8 fr st (.blk 0 k) ∧
 (evK gS fi50 c50_5 fr st k=opsR gS fi50 [mv 7 3 29,
 len1 8 7 29 3,
 op1 9 (.move (.const (.int .i64 0))) 3] fr st (.seq c50_7 k)) ∧
 (evK gS fi50 c50_21 fr st k=opsR gS fi50 [mv 23 3 29,
 asn 2 23 29] fr st (.seq .ret k)) ∧
 evK gS fi50 c50_4 fr st k=evK gS fi50 c50_5 fr st (.seq c50_21 k) ∧
 (evK gS fi50 c50_2 fr st k=opsR gS fi50 [mv 5 0 29,
 op1 6 (.call {callee:=(.builtin .append),args:=#[(.const (.slice none 0 0)),(.tmp 5)],argTypes:=#[29,29]}) 29,
 asn 3 6 29] fr st (.seq c50_4 k)) ∧
 evK gS fi50 c50_0 fr st k=opsR gS fi50 [qN 2 29] fr st (.seq c50_2 k):=⟨evK_r 5 (by kernel_rfl),evK_rs 4 rfl (by kernel_rfl),evK_r 6 (by kernel_rfl),rfl,rfl,evK_rs 3 rfl (by kernel_rfl),rfl,evK_rs 2 rfl (by kernel_rfl),evK_rs 7 rfl (by kernel_rfl),rfl,evK_rs 1 rfl (by kernel_rfl),evK_rs 0 rfl (by kernel_rfl)⟩
theorem m50:mini fi50.body=c50_0:=by kernel_rfl
theorem n50_8 (fr:Fr)(st:St)(k:Kt):nextK gS fi50 (.loop c50_9 k) .normal fr st=evK gS fi50 c50_8 fr st k:=rfl
theorem L50_8 (f:List Pred)(h_f:PSm f)(hne:f≠[])(st:St)(hst:st.wp≤st.objs.length):∀ (n i:Nat) (l:List (Pred × Bool)) (e0 e4:E) (T:List (Nat × E)) (X:List (Nat × List V)) (ht0:e0.Tame) (ht4:e4.Tame),l.map (·.1)=f→i≤f.length→f.length - i=n →
  evK gS fi50 c50_8 {ps:=[(0,e0),(2,.own 0 []),(3,.val (.sref false 13 st.objs.length 0 f.length)),(4,e4),(8,.val (.int .i64 f.length)),(9,.val (.int .i64 i))],ts:=T,lc:=X} (nw st 0 (l.flatMap Pred.cellsO)) (.blk 0 (.seq c50_21 .nil))=some (.ret (.slice (encPreds f)) none,dd st 1):=by
 intro n
 have hm:fi50.marks=[6,1000000]:=rfl
 have hl:fi50.locals=[]:=rfl
 have hr:fi50.results=[.tmp 2]:=rfl
 have hfl:=h_f.1
 induction n with
 | zero =>
  intro i l e0 e4 T X ht0 ht4 hl hi hn
  obtain rfl:i=f.length:=by omega
  have hll:l.length=f.length:=by rw [← hl];simp
  have hfz:=frz_row (st:=nw st 0 (l.flatMap Pred.cellsO)) 5 st.objs.length 13 (by omega) Pred.cellsO (fun q=>Pred.cells q.1) cellsO_len cells_len cellsO_strip cells_one cells_flats l (by intro e;subst e;exact hne hl.symm) (nw_obj st 0 _) (nw_kill hst 0 _)
  rw [hll,show Nat.blt 1 13=true from rfl,← hll,chunk_preds,hl,hll] at hfz
  refine evK_loop c50_9 _ _ _ _ rfl ?_
  simp [ht0,ht4,hfz,-zil,-zit,-znl,-znt,ty3,ty29,ty89,ty91,hm,hl,hr,E50,n50_8]
 | succ n ih =>
  intro i l e0 e4 T X ht0 ht4 hl hi hn
  have hll:l.length=f.length:=by rw [← hl];simp
  obtain ⟨q,hq⟩:∃ q,l[i]?=some q:=⟨l[i]'(by omega),zge (by omega)⟩
  have hlt:(i:Int)<(f.length:Int):=by omega
  have hlt2:i<f.length:=by omega
  have hw  := qws i (by omega)
  have hqm:q.1∈f:=by rw [← hl];exact List.mem_map.2 ⟨q,zmg hq,rfl⟩
  have hqs:=(h_f.2 q.1 hqm).2
  have hqs2:q.1.set.length≤140737488355328:=by omega
  have hob:=nw_obj st 0 (l.flatMap Pred.cellsO)
  have hget:=row_get Pred.cellsO 13 cellsO_len hq (j:=12) (by omega)
  have hspl:=row_splice Pred.cellsO 13 cellsO_len (j:=12) (y:=(q.1,true)) (vs:=[.osl 5 (encVals q.1.set)]) hq rfl
  have hset:=nw_set hst 0 (l.flatMap Pred.cellsO) ((l.set i (q.1,true)).flatMap Pred.cellsO)
  have hl2:(l.set i (q.1,true)).map (·.1)=f:=by
   rw [List.map_set,hl]
   apply List.ext_getElem?
   intro j
   rw [List.getElem?_set]
   split
   ·rename_i hj;subst hj
    rw [← hl,List.getElem?_map,hq]
    rfl
   ·rfl
  have IH:=fun e0 e4 T X ht0 ht4=>ih (i+1) (l.set i (q.1,true)) e0 e4 T X ht0 ht4 hl2 (by omega) (by omega)
  rw [Nat.add_zero] at hob hset
  have hsz:=sizes_vals q.1.set
  obtain ⟨p,b⟩:=q
  refine evK_loop c50_9 _ _ _ _ rfl ?_
  simp only [Pred.cellsO] at hget
  cases b with
  | true =>
   simp only [List.getElem?_cons_succ,List.getElem?_cons_zero,if_true] at hget
   simp [-zia,-St.obj,-St.set,-splice,ht0,ht4,hlt,hlt2,hw,hob,hget,hspl,hset,hqs,hqs2,hsz,IH,-zil,-zit,-znl,-znt,ty3,ty29,ty89,ty91,hm,hl,hr,E50,n50_8]
  | false =>
   simp only [List.getElem?_cons_succ,List.getElem?_cons_zero,Bool.false_eq_true,if_false] at hget
   simp [-zia,-St.obj,-St.set,-splice,ht0,ht4,hlt,hlt2,hw,hob,hget,hspl,hset,hqs,hqs2,hsz,IH,-zil,-zit,-znl,-znt,ty3,ty29,ty89,ty91,hm,hl,hr,E50,n50_8]
theorem c50 (f:List Pred)(h_f:PSm f)(st:St)(hst:st.wp≤st.objs.length):∃ st',EvF gS 50 [.slice (encPreds f)] st=some (.ret (.slice (encPreds f)) none,st'):=by
 by_cases hne:f=[]
 ·refine ⟨st,?_⟩
  refine EvF_start fi45_eq (fun x h=>by cases h) m50 ?_
  rw [st50]
  subst hne
  have hz:∀ st,frz 6 st (.sref true 0 0 0 0)=some (.slice [],st):=fun st=>frz_nil 5 st
  simp [markStep,markAppend,elemsAt,encPreds,-zil,-zit,-znl,-znt,ty3,ty29,ty89,ty91,H50,E50,n50_8]
  refine evK_loop c50_9 _ _ _ _ rfl ?_
  simp [hz,-zil,-zit,-znl,-znt,ty3,ty29,ty89,ty91,H50,E50,n50_8]
 ·refine ⟨dd st 1,?_⟩
  refine EvF_start fi45_eq (fun x h=>by cases h) m50 ?_
  rw [st50]
  have hfl:=h_f.1
  have hfe:(encPreds f).isEmpty=false:=by cases f with | nil=>exact absurd rfl hne | cons _ _=>rfl
  have hpc:=preds_cells f
  have hsp:=sizes_preds f
  have h1:f.length*144≤140737488355328:=by omega
  have h2:f.length≤140737488355328:=by omega
  have hnr:=fun fr k len cs=>newRef_0 st fr k len cs
  have L0:=fun e0 e4 T X ht0 ht4=>L50_8 f h_f hne st hst f.length 0 (f.map fun p=>(p,false)) e0 e4 T X ht0 ht4 (map_fst f) (Nat.zero_le _) rfl
  simp only [show ((0:Nat):Int)=0 from rfl] at L0
  simp [-St.obj,-St.set,hfe,hpc,hsp,h1,h2,hnr,L0,markStep,markAppend,elemsAt,hne,-zil,-zit,-znl,-znt,ty3,ty29,ty89,ty91,H50,E50,n50_8]
  all_goals first | done | skip
end
end Go.Proofs.Ytdoobejjedpcgaa
namespace Go.Ab
open Go
section
variable {α:Type}
theorem row_drop (c:α→List V)(k:Nat)(hc:∀ x,(c x).length=k):∀ (l:List α) (i:Nat),(l.flatMap c).drop (i*k)=(l.drop i).flatMap c
 | [],i=>by simp
 | x :: r,0=>by simp
 | x :: r,i+1=>by
  rw [List.flatMap_cons,List.drop_succ_cons,← row_drop c k hc r i,List.drop_append,hc,List.drop_of_length_le (by rw [hc,Nat.succ_mul];omega),List.nil_append,Nat.succ_mul,Nat.add_sub_cancel]
theorem row_take (c:α→List V)(k:Nat)(hc:∀ x,(c x).length=k):∀ (l:List α) (i:Nat),(l.flatMap c).take (i*k)=(l.take i).flatMap c
 | [],i=>by simp
 | x :: r,0=>by simp
 | x :: r,i+1=>by
  rw [List.flatMap_cons,List.take_succ_cons,List.flatMap_cons,← row_take c k hc r i,List.take_append,hc,List.take_of_length_le (by rw [hc,Nat.succ_mul];omega),Nat.succ_mul,Nat.add_sub_cancel]
theorem row_splices (c:α→List V)(k:Nat)(hc:∀ x,(c x).length=k)(l m:List α)(i:Nat)(h:i+m.length≤l.length):splice (l.flatMap c) (i*k) (m.flatMap c)=some ((l.take i ++ m ++ l.drop (i+m.length)).flatMap c):=by
 unfold splice
 rw [row_len c k hc,row_len c k hc,if_pos (by rw [← Nat.add_mul];exact Nat.mul_le_mul_right k h),row_take c k hc,← Nat.add_mul,row_drop c k hc,List.flatMap_append,List.flatMap_append]
end
def N4:List (List UInt8):=[[97],[98],[99],[108,111,110,103]]
def nameV (l:List Int)(a j:Nat):List UInt8:=N4.getD ((fd l a j 12).toNat / 3 % 4) []
def A5:List (List UInt8 × Int):=[([97],0),([98],0),([99],0),([100],1),([108,111,110,103],1)]
def attrsG (l:List Int)(a:Nat):List (List UInt8 × Int)→Nat→List Attr × Nat
 | [],j=>([],j)
 | (nm,q) :: r,j=>if fd l a j 3 > q then (⟨nm,valueV l a (j+1)⟩ :: (attrsG l a r (j+3)).1,(attrsG l a r (j+3)).2) else attrsG l a r (j+1)
def attrsV (l:List Int)(a j:Nat):List Attr × Nat:=attrsG l a A5 j
def insN (f:List Pred)(nm:List UInt8):Nat→Nat
 | 0=>0
 | k+1=>if sgt ((f[k]?).getD ⟨[],0,vzero,vzero,[]⟩).name nm then insN f nm k else k+1
theorem insN_le (f:List Pred)(nm:List UInt8):∀ k,insN f nm k≤k
 | 0=>Nat.le_refl _
 | k+1=>by
  unfold insN;split
  ·exact Nat.le_succ_of_le (insN_le f nm k)
  ·exact Nat.le_refl _
def insP (f:List Pred)(p:Pred)(nm:List UInt8):List Pred:=f.take (insN f nm f.length) ++ p :: f.drop (insN f nm f.length)
theorem insP_length (f:List Pred)(p:Pred)(nm:List UInt8):(insP f p nm).length=f.length+1:=by
 have:=insN_le f nm f.length
 unfold insP;simp;omega
def filterG (l:List Int)(a:Nat):Nat→Nat→Nat→List Pred→List Pred × Nat × Nat
 | 0,j,d,f=>(f,j,d)
 | n+1,j,d,f=>filterG l a n (j+1+(predV l a (j+1) (nameV l a j)).2) (d+(predV l a (j+1) (nameV l a j)).1.set.length+1) (insP f (predV l a (j+1) (nameV l a j)).1 (nameV l a j))
def filterV (l:List Int)(a j:Nat):List Pred × Nat × Nat:=filterG l a (fd l a j 4).toNat (j+1) 0 []
def pzero:Pred:=⟨[],0,vzero,vzero,[]⟩
theorem pcells_len (p:Pred):(Pred.cells p).length=13:=rfl
theorem pcells_one (p:Pred):(Pred.cells p).all V.one=true:=rfl
theorem pcells_flats (p:Pred):flats (Pred.cells p)=true:=by simp [flats,V.flat]
theorem pcells_strip (p:Pred):(Pred.cells p).map V.strip1=Pred.cells p:=rfl
theorem chunk_preds1 (l:List Pred):chunk true 13 l.length (l.flatMap Pred.cells)=encPreds l:=chunk_enc Pred.cells 13 (by omega) (fun _=>rfl) l
theorem enc_cells (l:List Pred):(encPreds l).flatMap V.cells=l.flatMap Pred.cells:=by
 induction l with
 | nil=>rfl
 | cons x r ih=>simp only [encPreds,List.map_cons,List.flatMap_cons] at ih ⊢;rw [ih];rfl
theorem elems_row {st:St} {id:Nat} {l:List Pred} (ho:St.obj st id=some (l.flatMap Pred.cells))(f:Bool) {i:Nat} (hi:i≤l.length) :
  elemsAt true 13 st (.val (.sref f 13 id (i*13) (l.length - i)))=some (encPreds (l.drop i)):=by
 unfold elemsAt
 simp only [ho,row_len Pred.cells 13 pcells_len,true_and]
 have h1:i*13+(l.length - i)*13≤l.length*13:=by omega
 have h2:((l.flatMap Pred.cells).map V.strip1).all V.one=true:=by rw [row_strip _ _ pcells_strip];exact row_one _ pcells_one l
 have h3:(true || (13:Nat) == 1)=true:=rfl
 by_cases hz:l.length - i=0
 ·rw [if_pos hz,List.drop_of_length_le (by omega)];rfl
 rw [if_neg hz,if_pos ⟨h1,h3,h2⟩,row_drop Pred.cells 13 pcells_len,List.take_of_length_le (by rw [row_len Pred.cells 13 pcells_len];simp),row_strip _ _ pcells_strip]
 have:=chunk_preds1 (l.drop i)
 rw [List.length_drop] at this
 rw [this]
theorem frz_preds {st st1:St} (n id:Nat)(l:List Pred)(hl:l≠[])(ho:St.obj st id=some (l.flatMap Pred.cells))(hs:St.set st id []=some st1):frz (n+1) st (.sref false 13 id 0 l.length)=some (.slice (encPreds l),st1):=by
 have:=frz_row n id 13 (by omega) Pred.cells Pred.cells pcells_len pcells_len pcells_strip pcells_one pcells_flats l hl ho hs
 rw [show Nat.blt 1 13=true from rfl,chunk_preds1] at this
 exact this
theorem obj_mid {st:St} {id:Nat} (h:FeedOk st id)(m k:Nat)(cs:List V)(l:List Int)(a:Nat):St.obj (setF (dd (nw st m cs) k) id l a) (st.objs.length+m)=some cs:=by
 unfold St.obj setF
 show ((dd (nw st m cs) k).objs.set id _)[_]?=_
 rw [List.getElem?_set_ne (by have:=h.1;omega)]
 unfold dd
 show ((nw st m cs).objs ++ _)[_]?=_
 rw [List.getElem?_append_left (by rw [gr_len];omega),gr_obj]
theorem dd_nw_kill (st:St)(m k:Nat)(cs:List V)(h:st.wp≤st.objs.length):St.set (dd (nw st m cs) k) (st.objs.length+m) []=some (dd st (m+1+k)):=by
 unfold St.set
 rw [if_pos (by rw [dd_wp,gr_wp];omega)]
 unfold dd nw
 simp only [Option.some.injEq,St.mk.injEq,and_true]
 rw [zaa,List.set_append_right _ _ (by omega),Nat.add_sub_cancel_left,zaa,List.set_append_right _ _ (by simp),List.length_replicate,Nat.sub_self]
 simp only [List.singleton_append,List.set_cons_zero]
 rw [show m+1+k=m+(1+k) by omega,← List.replicate_append_replicate,← List.replicate_append_replicate (n:=1)]
 rfl
theorem set_mid {st:St} {id:Nat} (h:FeedOk st id)(m k:Nat)(cs:List V)(l:List Int)(a:Nat):St.set (setF (dd (nw st m cs) k) id l a) (st.objs.length+m) []=some (setF (dd st (m+1+k)) id l a):=by
 have h1:=h.1
 have h2:=h.2
 have hk:=dd_nw_kill st m k cs (by omega)
 unfold St.set at hk ⊢
 rw [if_pos (by rw [dd_wp,gr_wp];omega)] at hk
 rw [if_pos (by rw [setF_wp,dd_wp,gr_wp];omega)]
 have hk2:=Option.some.inj hk
 congr 1
 rw [← hk2]
 unfold setF
 simp only [St.mk.injEq,and_true]
 rw [List.set_comm _ _ (by omega)]
end Go.Ab
namespace Go.Proofs.Ytdoobejjedpcgaa
open Go Go.Ab
noncomputable section
variable (fr:Fr)(st:St)(k:Kt)
def fi70:FI:={body:=codeOf Try.f70,ntmps:=9,results:=[.tmp 2],pers:=[0,2],locals:=[],pure:=false,marks:=[]}
theorem H70:fi70.marks=[]∧fi70.locals=[]∧fi70.results=[.tmp 2]:=⟨rfl,rfl,rfl⟩
theorem fi91_eq:gS.fn 70=some fi70:=by kernel_rfl
theorem st70 (a0:V):startFr fi70 [a0]={ps:=[(0,.val a0),(2,.any)],ts:=[],lc:=[]}:=rfl
def b70:Code:=mini (codeOf Try.f70)
def c70_2:Code:=.seq (codeN b70 5) .ret
theorem e70_2:evK gS fi70 c70_2 fr st k=opsR gS fi70 [op1 3 (.build 122 #[(0,(.const (.string {data:=#[97]}))),(1,(.const (.string {data:=#[98]}))),(2,(.const (.string {data:=#[99]}))),(3,(.const (.string {data:=#[108,111,110,103]})))]) 122,
 mv 4 0 23,
 cal 5 11 [(.tmp 4),(.const (.int .i64 12))] [23,3] 3,
 qB 6 .quo 3 5 3 3 3,
 qB 7 .rem 3 6 4 3 3,
 op1 8 (.index 122 (.tmp 3) (.tmp 7)) 9,
 asn 2 8 9] fr st (.seq .ret k):=evK_rs 1 rfl (by kernel_rfl)
def c70_0:Code:=.seq (codeN b70 2) c70_2
theorem e70_0:evK gS fi70 c70_0 fr st k=opsR gS fi70 [op1 2 (.assign (.const (.string {data:=#[]}))) 9] fr st (.seq c70_2 k):=evK_rs 0 rfl (by kernel_rfl)
theorem m70:mini fi70.body=c70_0:=by kernel_rfl
theorem c70 (l:List Int)(a j id:Nat)(st:St)(h:FeedOk st id)(ha:a<549755813888)(hj:j<549755812000) :
  EvF gS 70 [.ptr id 0] (setF st id l (nA l a j))=some (.ret (.str (nameV l a j)) none,setF st id l (nA l a (j+1))):=by
 refine EvF_start fi91_eq (fun x h=>by cases h) m70 ?_
 rw [st70]
 have hb:=fd_bound l a j (n:=12) (by omega)
 unfold nameV
 have hk:=fun fr=>k11 l a j id 12 fr st h ha (by omega) (by omega)
 generalize fd l a j 12=z at *
 have hz:z=0∨z=1∨z=2∨z=3∨z=4∨z=5∨z=6∨z=7∨z=8∨z=9∨z=10∨z=11:=by omega
 have v1:IntKind.wrap .i64 1=1:=w64_1
 have v2:IntKind.wrap .i64 2=2:=w64_2
 have v3:IntKind.wrap .i64 3=3:=w64_3
 have v0:IntKind.wrap .i64 0=0:=by kernel_rfl
 rcases hz with rfl | rfl | rfl | rfl | rfl | rfl | rfl | rfl | rfl | rfl | rfl | rfl <;>
  simp [N4,hk,v0,v1,v2,v3,-zil,-zit,-znl,-znt,ty3,ty9,ty23,ty122,H70,e70_2,e70_0]
theorem k70 (l:List Int)(a j id:Nat)  (fr:Fr) (st:St) (h:FeedOk st id) (ha:a<549755813888) (hj:j<549755812000) :
  callStep gS (EvF gS) 70 [.ptr id 0] fr (setF st id l (nA l a j))=some (.ok (.val (.str (nameV l a j))) (fr.map E.noMem) (setF st id l (nA l a (j+1)))):=by
 unfold callStep
 simp only [show gS.ext 70=none from rfl,fi91_eq,show fi70.pure=false from rfl,Bool.false_eq_true,if_false,c70 l a j id  st h ha (by omega),retE]
 all_goals rfl
def fi17:FI:={body:=codeOf Try.f17,ntmps:=26,results:=[.tmp 2],pers:=[0,2,3,4,5],locals:=[4],pure:=false,marks:=[1000000]}
theorem H17:fi17.marks=[1000000]∧fi17.locals=[4]∧fi17.results=[.tmp 2]:=⟨rfl,rfl,rfl⟩
theorem fi36_eq:gS.fn 17=some fi17:=by kernel_rfl
theorem st17 (a0:V):startFr fi17 [a0]={ps:=[(0,.val a0),(2,.any),(3,.any),(4,.any),(5,.any)],ts:=[],lc:=[]}:=rfl
def b17:Code:=mini (codeOf Try.f17)
def c17_14:Code:=.cond (.tmp 8) .skip (.exit 0)
def c17_12:Code:=.seq (codeN b17 535) c17_14
def r17_22:Array Oper:=regOps (codeN (codeOf Try.f17) 5271)
def c17_22:Code:=.region 7 r17_22 true
def q17_22:List (Oper × Fl):=[(mv 16 3 42,qz5),
 (mv 17 5 3,qz5),
 (ixa 18 92 4 17 0,qz5),
 (ld 19 9 18 9,qz5),
 (mv 20 0 23,qz3),
 (cal 21 55 [(.tmp 20)] [23] 88,qz6),
 (op1 22 (.build 95 #[(0,(.tmp 19)),(1,(.tmp 21))]) 95,qz3),
 (qS 23 42 22 42,qz3),
 (qE 24 16 23 42 42,qz6),
 (asn 3 24 42,qz1)]
def c17_21:Code:=.cond (.tmp 15) c17_22 .skip
def c17_19:Code:=.seq (codeN b17 2199) c17_21
def c17_24:Code:=codeN b17 919
def c17_17:Code:=.seq (.block 1 c17_19) c17_24
def c17_11:Code:=.seq c17_12 c17_17
def c17_10:Code:=.loop c17_11
def c17_9:Code:=.block 0 c17_10
def c17_7:Code:=.seq (codeN b17 39) c17_9
def c17_25:Code:=.seq (codeN b17 47) .ret
def c17_6:Code:=.seq c17_7 c17_25
def c17_4:Code:=.seq (codeN b17 11) c17_6
def c17_2:Code:=.seq (codeN b17 5) c17_4
def c17_0:Code:=.seq (codeN b17 2) c17_2
theorem E17:evK gS fi17 c17_14 fr st k=condK gS fi17 (fr.op (.tmp 8)).bool? .skip (.exit 0) fr st k ∧
 (evK gS fi17 c17_12 fr st k=opsR gS fi17 [mv 7 5 3,
 qB 8 .lss 3 7 5 3 4] fr st (.seq c17_14 k)) ∧
 evK gS fi17 c17_22 fr st k=drwR gS fi17 r17_22 q17_22 fr st k ∧
 evK gS fi17 c17_21 fr st k=condK gS fi17 (fr.op (.tmp 15)).bool? c17_22 .skip fr st k ∧
 (evK gS fi17 c17_19 fr st k=opsR gS fi17 [mv 11 0 23,
 cal 12 11 [(.tmp 11),(.const (.int .i64 3))] [23,3] 3,
 mv 13 5 3,
 qB 14 .quo 3 13 3 3 3,
 bop 15 .gtr 3 12 14 3 4] fr st (.seq c17_21 k)) ∧
 (evK gS fi17 c17_24 fr st k=opsR gS fi17 [mv 9 5 3,
 qB 10 .add 3 9 1 3 3,
 asn 5 10 3] fr st k) ∧
 evK gS fi17 c17_17 fr st k=evK gS fi17 c17_19 fr st (.blk 1 (.seq c17_24 k)) ∧
 evK gS fi17 c17_11 fr st k=evK gS fi17 c17_12 fr st (.seq c17_17 k) ∧
 evK gS fi17 c17_9 fr st k=evK gS fi17 c17_10 fr st (.blk 0 k) ∧
 evK gS fi17 c17_7 fr st k=opsR gS fi17 [qI 5 0 3] fr st (.seq c17_9 k) ∧
 (evK gS fi17 c17_25 fr st k=opsR gS fi17 [mv 25 3 42,
 asn 2 25 42] fr st (.seq .ret k)) ∧
 evK gS fi17 c17_6 fr st k=evK gS fi17 c17_7 fr st (.seq c17_25 k) ∧
 (evK gS fi17 c17_4 fr st k=opsR gS fi17 [op1 6 (.build 92 #[(0,(.const (.string {data:=#[97]}))),(1,(.const (.string {data:=#[98]}))),(2,(.const (.string {data:=#[99]}))),(3,(.const (.string {data:=#[100]}))),(4,(.const (.string {data:=#[108,111,110,103]})))]) 92,
 op1 4 (.alloc 92) 0,
 sto 92 4 6] fr st (.seq c17_6 k)) ∧
 evK gS fi17 c17_2 fr st k=opsR gS fi17 [qN 3 42] fr st (.seq c17_4 k) ∧
 evK gS fi17 c17_0 fr st k=opsR gS fi17 [qN 2 42] fr st (.seq c17_2 k):=⟨rfl,evK_rs 4 rfl (by kernel_rfl),evK_dr 7 rfl (by kernel_rfl) (by kernel_rfl),rfl,evK_rs 6 rfl (by kernel_rfl),evK_r 5 (by kernel_rfl),rfl,rfl,rfl,evK_rs 3 rfl (by kernel_rfl),evK_rs 8 rfl (by kernel_rfl),rfl,evK_rs 2 rfl (by kernel_rfl),evK_rs 1 rfl (by kernel_rfl),evK_rs 0 rfl (by kernel_rfl)⟩
theorem m17:mini fi17.body=c17_0:=by kernel_rfl
theorem n17_10 (fr:Fr)(st:St)(k:Kt):nextK gS fi17 (.loop c17_11 k) .normal fr st=evK gS fi17 c17_10 fr st k:=rfl
theorem attrs_snoc (l:List Attr)(x:Attr):encAttrs l ++ [.agg [.str x.name,.int .i64 x.v.kind,.int .i64 x.v.n,.float .f64 x.v.x,.str x.v.s,.bool x.v.b]]=encAttrs (l ++ [x]):=by simp [encAttrs,Attr.enc,Attr.cells]
theorem sizes_attrs (l:List Attr):sizesOk 6 (encAttrs l)=true:=by
 induction l with
 | nil=>rfl
 | cons x r ih=>simp only [encAttrs,List.map_cons,sizesOk] at ih ⊢;rw [ih];rfl
theorem L17_5 (l:List Int)(a id:Nat)(ha:a<549755813888)(st:St)(h:FeedOk st id)(j k:Nat)(f:List Attr)(hj:j+15<549755812000+3*5)(hf:f.length≤5)(hk:k=0∧f=[]∨k=6)(T:List (Nat × E))(X:List (Nat × List V))(hx:lk X 4=some [.str [97],.str [98],.str [99],.str [100],.str [108,111,110,103]]) :
  evK gS fi17 c17_10 {ps:=[(0,.val (.ptr id 0)),(2,.own 0 []),(3,.own k (encAttrs f)),(4,.lp 4 0),(5,.val (.int .i64 5))],ts:=T,lc:=X} (setF st id l (nA l a j)) (.blk 0 (.seq c17_25 .nil))=some (.ret (.slice (encAttrs (f ++ (attrsG l a [] j).1))) none,setF st id l (nA l a (attrsG l a [] j).2)):=by
 refine evK_loop c17_11 _ _ _ _ rfl ?_
 have hz:∀ st,frz 6 st (.slice (encAttrs f))=some (.slice (encAttrs f),st):=fun st=>frz_flat 6 st _ (by simp [V.flat])
 rw [show (attrsG l a [] j)=([],j) from rfl]
 rcases hk with ⟨rfl,rfl⟩ | rfl
 ·have en:encAttrs []=[]:=rfl
  rw [en] at hz
  simp [en,hz,hx,-zil,-zit,-znl,-znt,ty3,ty4,ty9,ty23,ty42,ty88,ty92,ty95,eq88,H17,fi16_eq,fi17_eq,E17,q17_22,n17_10]
 ·simp [hz,hx,-zil,-zit,-znl,-znt,ty3,ty4,ty9,ty23,ty42,ty88,ty92,ty95,eq88,H17,fi16_eq,fi17_eq,E17,q17_22,n17_10]
theorem L17_4 (l:List Int)(a id:Nat)(ha:a<549755813888)(st:St)(h:FeedOk st id)(j k:Nat)(f:List Attr)(hj:j+15<549755812000+3*4)(hf:f.length≤4)(hk:k=0∧f=[]∨k=6)(T:List (Nat × E))(X:List (Nat × List V))(hx:lk X 4=some [.str [97],.str [98],.str [99],.str [100],.str [108,111,110,103]]) :
  evK gS fi17 c17_10 {ps:=[(0,.val (.ptr id 0)),(2,.own 0 []),(3,.own k (encAttrs f)),(4,.lp 4 0),(5,.val (.int .i64 4))],ts:=T,lc:=X} (setF st id l (nA l a j)) (.blk 0 (.seq c17_25 .nil))=some (.ret (.slice (encAttrs (f ++ (attrsG l a [([108,111,110,103],1)] j).1))) none,setF st id l (nA l a (attrsG l a [([108,111,110,103],1)] j).2)):=by
 have hm:fi17.marks=[1000000]:=rfl
 have hl:fi17.locals=[4]:=rfl
 have hr:fi17.results=[.tmp 2]:=rfl
 refine evK_loop c17_11 _ _ _ _ rfl ?_
 have hb:=fd_bound l a j (n:=3) (by omega)
 have hk3:=fun fr=>k11 l a j id 3 fr st h ha (by omega) (by omega)
 have hv:=fun fr=>k55 l a (j+1) id fr st h ha (by omega)
 have v0:IntKind.wrap .i64 0=0:=by kernel_rfl
 have bo:borOk r17_22 0 3 16=true:=by kernel_rfl
 have bh:handOk r17_22 9 24=true:=by kernel_rfl
 have hr:attrsG l a [([108,111,110,103],1)] j=if fd l a j 3 > 1 then (⟨[108,111,110,103],valueV l a (j+1)⟩ :: (attrsG l a [] (j+3)).1,(attrsG l a [] (j+3)).2) else attrsG l a [] (j+1):=rfl
 rw [hr]
 generalize fd l a j 3=z at *
 by_cases hz:z > 1
 ·rw [if_pos hz]
  have N:=fun T X hx=>L17_5 l a id ha st h (j+3) 6 (f ++ [⟨[108,111,110,103],valueV l a (j+1)⟩]) (by omega) (by rw [zla];exact Nat.add_le_add hf (Nat.le_refl 1)) (.inr rfl) T X hx
  have e1:=attrs_snoc f ⟨[108,111,110,103],valueV l a (j+1)⟩
  have e2:=sizes_attrs f
  have e3:(f.length+1)*64≤140737488355328:=by omega
  have e4:f.length+1≤140737488355328:=by omega
  have hz':(1:Int)<z:=hz
  have a3:j+1+2=j+3:=rfl
  rcases hk with ⟨rfl,rfl⟩ | rfl
  ·simp only [List.nil_append,List.cons_append] at N e1
   simp [-zaa,bo,bh,hx,hk3,hv,v0,w64_1,w64_2,w64_3,w64_4,w64_5,hz',a3,e1,e2,N,-zil,-zit,-znl,-znt,ty3,ty4,ty9,ty23,ty42,ty88,ty92,ty95,eq88,hm,hl,hr,fi16_eq,fi17_eq,E17,q17_22,n17_10]
  ·rw [show (f ++ (⟨[108,111,110,103],valueV l a (j+1)⟩ :: (attrsG l a [] (j+3)).1))=(f ++ [⟨[108,111,110,103],valueV l a (j+1)⟩]) ++ (attrsG l a [] (j+3)).1 by simp]
   simp only [] at e1
   simp [-zaa,bo,bh,hx,hk3,hv,v0,w64_1,w64_2,w64_3,w64_4,w64_5,hz',a3,e1,e2,e3,e4,N,-zil,-zit,-znl,-znt,ty3,ty4,ty9,ty23,ty42,ty88,ty92,ty95,eq88,hm,hl,hr,fi16_eq,fi17_eq,E17,q17_22,n17_10]
 ·rw [if_neg hz]
  have N:=fun T X hx=>L17_5 l a id ha st h (j+1) k f (by omega) (Nat.le_trans hf (by omega)) hk T X hx
  have hz':¬ (1:Int)<z:=hz
  simp [hx,hk3,hv,v0,w64_1,w64_2,w64_3,w64_4,w64_5,hz',N,-zil,-zit,-znl,-znt,ty3,ty4,ty9,ty23,ty42,ty88,ty92,ty95,eq88,hm,hl,hr,fi16_eq,fi17_eq,E17,q17_22,n17_10]
theorem L17_3 (l:List Int)(a id:Nat)(ha:a<549755813888)(st:St)(h:FeedOk st id)(j k:Nat)(f:List Attr)(hj:j+15<549755812000+3*3)(hf:f.length≤3)(hk:k=0∧f=[]∨k=6)(T:List (Nat × E))(X:List (Nat × List V))(hx:lk X 4=some [.str [97],.str [98],.str [99],.str [100],.str [108,111,110,103]]) :
  evK gS fi17 c17_10 {ps:=[(0,.val (.ptr id 0)),(2,.own 0 []),(3,.own k (encAttrs f)),(4,.lp 4 0),(5,.val (.int .i64 3))],ts:=T,lc:=X} (setF st id l (nA l a j)) (.blk 0 (.seq c17_25 .nil))=some (.ret (.slice (encAttrs (f ++ (attrsG l a [([100],1),([108,111,110,103],1)] j).1))) none,setF st id l (nA l a (attrsG l a [([100],1),([108,111,110,103],1)] j).2)):=by
 have hm:fi17.marks=[1000000]:=rfl
 have hl:fi17.locals=[4]:=rfl
 have hr:fi17.results=[.tmp 2]:=rfl
 refine evK_loop c17_11 _ _ _ _ rfl ?_
 have hb:=fd_bound l a j (n:=3) (by omega)
 have hk3:=fun fr=>k11 l a j id 3 fr st h ha (by omega) (by omega)
 have hv:=fun fr=>k55 l a (j+1) id fr st h ha (by omega)
 have v0:IntKind.wrap .i64 0=0:=by kernel_rfl
 have bo:borOk r17_22 0 3 16=true:=by kernel_rfl
 have bh:handOk r17_22 9 24=true:=by kernel_rfl
 have hr:attrsG l a [([100],1),([108,111,110,103],1)] j=if fd l a j 3 > 1 then (⟨[100],valueV l a (j+1)⟩ :: (attrsG l a [([108,111,110,103],1)] (j+3)).1,(attrsG l a [([108,111,110,103],1)] (j+3)).2) else attrsG l a [([108,111,110,103],1)] (j+1):=rfl
 rw [hr]
 generalize fd l a j 3=z at *
 by_cases hz:z > 1
 ·rw [if_pos hz]
  have N:=fun T X hx=>L17_4 l a id ha st h (j+3) 6 (f ++ [⟨[100],valueV l a (j+1)⟩]) (by omega) (by rw [zla];exact Nat.add_le_add hf (Nat.le_refl 1)) (.inr rfl) T X hx
  have e1:=attrs_snoc f ⟨[100],valueV l a (j+1)⟩
  have e2:=sizes_attrs f
  have e3:(f.length+1)*64≤140737488355328:=by omega
  have e4:f.length+1≤140737488355328:=by omega
  have hz':(1:Int)<z:=hz
  have a3:j+1+2=j+3:=rfl
  rcases hk with ⟨rfl,rfl⟩ | rfl
  ·simp only [List.nil_append,List.cons_append] at N e1
   simp [-zaa,bo,bh,hx,hk3,hv,v0,w64_1,w64_2,w64_3,w64_4,w64_5,hz',a3,e1,e2,N,-zil,-zit,-znl,-znt,ty3,ty4,ty9,ty23,ty42,ty88,ty92,ty95,eq88,hm,hl,hr,fi16_eq,fi17_eq,E17,q17_22,n17_10]
  ·rw [show (f ++ (⟨[100],valueV l a (j+1)⟩ :: (attrsG l a [([108,111,110,103],1)] (j+3)).1))=(f ++ [⟨[100],valueV l a (j+1)⟩]) ++ (attrsG l a [([108,111,110,103],1)] (j+3)).1 by simp]
   simp only [] at e1
   simp [-zaa,bo,bh,hx,hk3,hv,v0,w64_1,w64_2,w64_3,w64_4,w64_5,hz',a3,e1,e2,e3,e4,N,-zil,-zit,-znl,-znt,ty3,ty4,ty9,ty23,ty42,ty88,ty92,ty95,eq88,hm,hl,hr,fi16_eq,fi17_eq,E17,q17_22,n17_10]
 ·rw [if_neg hz]
  have N:=fun T X hx=>L17_4 l a id ha st h (j+1) k f (by omega) (Nat.le_trans hf (by omega)) hk T X hx
  have hz':¬ (1:Int)<z:=hz
  simp [hx,hk3,hv,v0,w64_1,w64_2,w64_3,w64_4,w64_5,hz',N,-zil,-zit,-znl,-znt,ty3,ty4,ty9,ty23,ty42,ty88,ty92,ty95,eq88,hm,hl,hr,fi16_eq,fi17_eq,E17,q17_22,n17_10]
theorem L17_2 (l:List Int)(a id:Nat)(ha:a<549755813888)(st:St)(h:FeedOk st id)(j k:Nat)(f:List Attr)(hj:j+15<549755812000+3*2)(hf:f.length≤2)(hk:k=0∧f=[]∨k=6)(T:List (Nat × E))(X:List (Nat × List V))(hx:lk X 4=some [.str [97],.str [98],.str [99],.str [100],.str [108,111,110,103]]) :
  evK gS fi17 c17_10 {ps:=[(0,.val (.ptr id 0)),(2,.own 0 []),(3,.own k (encAttrs f)),(4,.lp 4 0),(5,.val (.int .i64 2))],ts:=T,lc:=X} (setF st id l (nA l a j)) (.blk 0 (.seq c17_25 .nil))=some (.ret (.slice (encAttrs (f ++ (attrsG l a [([99],0),([100],1),([108,111,110,103],1)] j).1))) none,setF st id l (nA l a (attrsG l a [([99],0),([100],1),([108,111,110,103],1)] j).2)):=by
 have hm:fi17.marks=[1000000]:=rfl
 have hl:fi17.locals=[4]:=rfl
 have hr:fi17.results=[.tmp 2]:=rfl
 refine evK_loop c17_11 _ _ _ _ rfl ?_
 have hb:=fd_bound l a j (n:=3) (by omega)
 have hk3:=fun fr=>k11 l a j id 3 fr st h ha (by omega) (by omega)
 have hv:=fun fr=>k55 l a (j+1) id fr st h ha (by omega)
 have v0:IntKind.wrap .i64 0=0:=by kernel_rfl
 have bo:borOk r17_22 0 3 16=true:=by kernel_rfl
 have bh:handOk r17_22 9 24=true:=by kernel_rfl
 have hr:attrsG l a [([99],0),([100],1),([108,111,110,103],1)] j=if fd l a j 3 > 0 then (⟨[99],valueV l a (j+1)⟩ :: (attrsG l a [([100],1),([108,111,110,103],1)] (j+3)).1,(attrsG l a [([100],1),([108,111,110,103],1)] (j+3)).2) else attrsG l a [([100],1),([108,111,110,103],1)] (j+1):=rfl
 rw [hr]
 generalize fd l a j 3=z at *
 by_cases hz:z > 0
 ·rw [if_pos hz]
  have N:=fun T X hx=>L17_3 l a id ha st h (j+3) 6 (f ++ [⟨[99],valueV l a (j+1)⟩]) (by omega) (by rw [zla];exact Nat.add_le_add hf (Nat.le_refl 1)) (.inr rfl) T X hx
  have e1:=attrs_snoc f ⟨[99],valueV l a (j+1)⟩
  have e2:=sizes_attrs f
  have e3:(f.length+1)*64≤140737488355328:=by omega
  have e4:f.length+1≤140737488355328:=by omega
  have hz':(0:Int)<z:=hz
  have a3:j+1+2=j+3:=rfl
  rcases hk with ⟨rfl,rfl⟩ | rfl
  ·simp only [List.nil_append,List.cons_append] at N e1
   simp [-zaa,bo,bh,hx,hk3,hv,v0,w64_1,w64_2,w64_3,w64_4,w64_5,hz',a3,e1,e2,N,-zil,-zit,-znl,-znt,ty3,ty4,ty9,ty23,ty42,ty88,ty92,ty95,eq88,hm,hl,hr,fi16_eq,fi17_eq,E17,q17_22,n17_10]
  ·rw [show (f ++ (⟨[99],valueV l a (j+1)⟩ :: (attrsG l a [([100],1),([108,111,110,103],1)] (j+3)).1))=(f ++ [⟨[99],valueV l a (j+1)⟩]) ++ (attrsG l a [([100],1),([108,111,110,103],1)] (j+3)).1 by simp]
   simp only [] at e1
   simp [-zaa,bo,bh,hx,hk3,hv,v0,w64_1,w64_2,w64_3,w64_4,w64_5,hz',a3,e1,e2,e3,e4,N,-zil,-zit,-znl,-znt,ty3,ty4,ty9,ty23,ty42,ty88,ty92,ty95,eq88,hm,hl,hr,fi16_eq,fi17_eq,E17,q17_22,n17_10]
 ·rw [if_neg hz]
  have N:=fun T X hx=>L17_3 l a id ha st h (j+1) k f (by omega) (Nat.le_trans hf (by omega)) hk T X hx
  have hz':¬ (0:Int)<z:=hz
  simp [hx,hk3,hv,v0,w64_1,w64_2,w64_3,w64_4,w64_5,hz',N,-zil,-zit,-znl,-znt,ty3,ty4,ty9,ty23,ty42,ty88,ty92,ty95,eq88,hm,hl,hr,fi16_eq,fi17_eq,E17,q17_22,n17_10]
theorem L17_1 (l:List Int)(a id:Nat)(ha:a<549755813888)(st:St)(h:FeedOk st id)(j k:Nat)(f:List Attr)(hj:j+15<549755812000+3*1)(hf:f.length≤1)(hk:k=0∧f=[]∨k=6)(T:List (Nat × E))(X:List (Nat × List V))(hx:lk X 4=some [.str [97],.str [98],.str [99],.str [100],.str [108,111,110,103]]) :
  evK gS fi17 c17_10 {ps:=[(0,.val (.ptr id 0)),(2,.own 0 []),(3,.own k (encAttrs f)),(4,.lp 4 0),(5,.val (.int .i64 1))],ts:=T,lc:=X} (setF st id l (nA l a j)) (.blk 0 (.seq c17_25 .nil))=some (.ret (.slice (encAttrs (f ++ (attrsG l a [([98],0),([99],0),([100],1),([108,111,110,103],1)] j).1))) none,setF st id l (nA l a (attrsG l a [([98],0),([99],0),([100],1),([108,111,110,103],1)] j).2)):=by
 have hm:fi17.marks=[1000000]:=rfl
 have hl:fi17.locals=[4]:=rfl
 have hr:fi17.results=[.tmp 2]:=rfl
 refine evK_loop c17_11 _ _ _ _ rfl ?_
 have hb:=fd_bound l a j (n:=3) (by omega)
 have hk3:=fun fr=>k11 l a j id 3 fr st h ha (by omega) (by omega)
 have hv:=fun fr=>k55 l a (j+1) id fr st h ha (by omega)
 have v0:IntKind.wrap .i64 0=0:=by kernel_rfl
 have bo:borOk r17_22 0 3 16=true:=by kernel_rfl
 have bh:handOk r17_22 9 24=true:=by kernel_rfl
 have hr:attrsG l a [([98],0),([99],0),([100],1),([108,111,110,103],1)] j=if fd l a j 3 > 0 then (⟨[98],valueV l a (j+1)⟩ :: (attrsG l a [([99],0),([100],1),([108,111,110,103],1)] (j+3)).1,(attrsG l a [([99],0),([100],1),([108,111,110,103],1)] (j+3)).2) else attrsG l a [([99],0),([100],1),([108,111,110,103],1)] (j+1):=rfl
 rw [hr]
 generalize fd l a j 3=z at *
 by_cases hz:z > 0
 ·rw [if_pos hz]
  have N:=fun T X hx=>L17_2 l a id ha st h (j+3) 6 (f ++ [⟨[98],valueV l a (j+1)⟩]) (by omega) (by rw [zla];exact Nat.add_le_add hf (Nat.le_refl 1)) (.inr rfl) T X hx
  have e1:=attrs_snoc f ⟨[98],valueV l a (j+1)⟩
  have e2:=sizes_attrs f
  have e3:(f.length+1)*64≤140737488355328:=by omega
  have e4:f.length+1≤140737488355328:=by omega
  have hz':(0:Int)<z:=hz
  have a3:j+1+2=j+3:=rfl
  rcases hk with ⟨rfl,rfl⟩ | rfl
  ·simp only [List.nil_append,List.cons_append] at N e1
   simp [-zaa,bo,bh,hx,hk3,hv,v0,w64_1,w64_2,w64_3,w64_4,w64_5,hz',a3,e1,e2,N,-zil,-zit,-znl,-znt,ty3,ty4,ty9,ty23,ty42,ty88,ty92,ty95,eq88,hm,hl,hr,fi16_eq,fi17_eq,E17,q17_22,n17_10]
  ·rw [show (f ++ (⟨[98],valueV l a (j+1)⟩ :: (attrsG l a [([99],0),([100],1),([108,111,110,103],1)] (j+3)).1))=(f ++ [⟨[98],valueV l a (j+1)⟩]) ++ (attrsG l a [([99],0),([100],1),([108,111,110,103],1)] (j+3)).1 by simp]
   simp only [] at e1
   simp [-zaa,bo,bh,hx,hk3,hv,v0,w64_1,w64_2,w64_3,w64_4,w64_5,hz',a3,e1,e2,e3,e4,N,-zil,-zit,-znl,-znt,ty3,ty4,ty9,ty23,ty42,ty88,ty92,ty95,eq88,hm,hl,hr,fi16_eq,fi17_eq,E17,q17_22,n17_10]
 ·rw [if_neg hz]
  have N:=fun T X hx=>L17_2 l a id ha st h (j+1) k f (by omega) (Nat.le_trans hf (by omega)) hk T X hx
  have hz':¬ (0:Int)<z:=hz
  simp [hx,hk3,hv,v0,w64_1,w64_2,w64_3,w64_4,w64_5,hz',N,-zil,-zit,-znl,-znt,ty3,ty4,ty9,ty23,ty42,ty88,ty92,ty95,eq88,hm,hl,hr,fi16_eq,fi17_eq,E17,q17_22,n17_10]
theorem L17_0 (l:List Int)(a id:Nat)(ha:a<549755813888)(st:St)(h:FeedOk st id)(j k:Nat)(f:List Attr)(hj:j+15<549755812000+3*0)(hf:f.length≤0)(hk:k=0∧f=[]∨k=6)(T:List (Nat × E))(X:List (Nat × List V))(hx:lk X 4=some [.str [97],.str [98],.str [99],.str [100],.str [108,111,110,103]]) :
  evK gS fi17 c17_10 {ps:=[(0,.val (.ptr id 0)),(2,.own 0 []),(3,.own k (encAttrs f)),(4,.lp 4 0),(5,.val (.int .i64 0))],ts:=T,lc:=X} (setF st id l (nA l a j)) (.blk 0 (.seq c17_25 .nil))=some (.ret (.slice (encAttrs (f ++ (attrsG l a [([97],0),([98],0),([99],0),([100],1),([108,111,110,103],1)] j).1))) none,setF st id l (nA l a (attrsG l a [([97],0),([98],0),([99],0),([100],1),([108,111,110,103],1)] j).2)):=by
 have hm:fi17.marks=[1000000]:=rfl
 have hl:fi17.locals=[4]:=rfl
 have hr:fi17.results=[.tmp 2]:=rfl
 refine evK_loop c17_11 _ _ _ _ rfl ?_
 have hb:=fd_bound l a j (n:=3) (by omega)
 have hk3:=fun fr=>k11 l a j id 3 fr st h ha (by omega) (by omega)
 have hv:=fun fr=>k55 l a (j+1) id fr st h ha (by omega)
 have v0:IntKind.wrap .i64 0=0:=by kernel_rfl
 have bo:borOk r17_22 0 3 16=true:=by kernel_rfl
 have bh:handOk r17_22 9 24=true:=by kernel_rfl
 have hr:attrsG l a [([97],0),([98],0),([99],0),([100],1),([108,111,110,103],1)] j=if fd l a j 3 > 0 then (⟨[97],valueV l a (j+1)⟩ :: (attrsG l a [([98],0),([99],0),([100],1),([108,111,110,103],1)] (j+3)).1,(attrsG l a [([98],0),([99],0),([100],1),([108,111,110,103],1)] (j+3)).2) else attrsG l a [([98],0),([99],0),([100],1),([108,111,110,103],1)] (j+1):=rfl
 rw [hr]
 generalize fd l a j 3=z at *
 by_cases hz:z > 0
 ·rw [if_pos hz]
  have N:=fun T X hx=>L17_1 l a id ha st h (j+3) 6 (f ++ [⟨[97],valueV l a (j+1)⟩]) (by omega) (by rw [zla];exact Nat.add_le_add hf (Nat.le_refl 1)) (.inr rfl) T X hx
  have e1:=attrs_snoc f ⟨[97],valueV l a (j+1)⟩
  have e2:=sizes_attrs f
  have e3:(f.length+1)*64≤140737488355328:=by omega
  have e4:f.length+1≤140737488355328:=by omega
  have hz':(0:Int)<z:=hz
  have a3:j+1+2=j+3:=rfl
  rcases hk with ⟨rfl,rfl⟩ | rfl
  ·simp only [List.nil_append,List.cons_append] at N e1
   simp [-zaa,bo,bh,hx,hk3,hv,v0,w64_1,w64_2,w64_3,w64_4,w64_5,hz',a3,e1,e2,N,-zil,-zit,-znl,-znt,ty3,ty4,ty9,ty23,ty42,ty88,ty92,ty95,eq88,hm,hl,hr,fi16_eq,fi17_eq,E17,q17_22,n17_10]
  ·rw [show (f ++ (⟨[97],valueV l a (j+1)⟩ :: (attrsG l a [([98],0),([99],0),([100],1),([108,111,110,103],1)] (j+3)).1))=(f ++ [⟨[97],valueV l a (j+1)⟩]) ++ (attrsG l a [([98],0),([99],0),([100],1),([108,111,110,103],1)] (j+3)).1 by simp]
   simp only [] at e1
   simp [-zaa,bo,bh,hx,hk3,hv,v0,w64_1,w64_2,w64_3,w64_4,w64_5,hz',a3,e1,e2,e3,e4,N,-zil,-zit,-znl,-znt,ty3,ty4,ty9,ty23,ty42,ty88,ty92,ty95,eq88,hm,hl,hr,fi16_eq,fi17_eq,E17,q17_22,n17_10]
 ·rw [if_neg hz]
  have N:=fun T X hx=>L17_1 l a id ha st h (j+1) k f (by omega) (Nat.le_trans hf (by omega)) hk T X hx
  have hz':¬ (0:Int)<z:=hz
  simp [hx,hk3,hv,v0,w64_1,w64_2,w64_3,w64_4,w64_5,hz',N,-zil,-zit,-znl,-znt,ty3,ty4,ty9,ty23,ty42,ty88,ty92,ty95,eq88,hm,hl,hr,fi16_eq,fi17_eq,E17,q17_22,n17_10]
theorem c17 (l:List Int)(a j id:Nat)(st:St)(h:FeedOk st id)(ha:a<549755813888)(hj:j<549755811000) :
  EvF gS 17 [.ptr id 0] (setF st id l (nA l a j))=some (.ret (.slice (encAttrs (attrsV l a j).1)) none,setF st id l (nA l a (attrsV l a j).2)):=by
 refine EvF_start fi36_eq (fun x h=>by cases h) m17 ?_
 rw [st17]
 have L0:=fun T X hx=>L17_0 l a id ha st h j 0 [] (by omega) (by simp) (.inl ⟨rfl,rfl⟩) T X hx
 rw [List.nil_append] at L0
 rw [show attrsV l a j=attrsG l a [([97],0),([98],0),([99],0),([100],1),([108,111,110,103],1)] j from rfl]
 rw [show encAttrs []=[] from rfl] at L0
 simp [L0,-zil,-zit,-znl,-znt,ty3,ty4,ty9,ty23,ty42,ty88,ty92,ty95,eq88,H17,fi16_eq,fi17_eq,E17,q17_22,n17_10]
theorem k17 (l:List Int)(a j id:Nat)  (fr:Fr) (st:St) (h:FeedOk st id) (ha:a<549755813888) (hj:j<549755811000) :
  callStep gS (EvF gS) 17 [.ptr id 0] fr (setF st id l (nA l a j))=some (.ok (.val (.slice (encAttrs (attrsV l a j).1))) (fr.map E.noMem) (setF st id l (nA l a ((attrsV l a j).2)))):=by
 unfold callStep
 simp only [show gS.ext 17=none from rfl,fi36_eq,show fi17.pure=false from rfl,Bool.false_eq_true,if_false,c17 l a j id  st h ha (by omega),retE]
 all_goals rfl
end
end Go.Proofs.Ytdoobejjedpcgaa
namespace Go.Proofs.Ytdoobejjedpcgaa
open Go Go.Ab
noncomputable section
variable (fr:Fr)(st:St)(k:Kt)
def fi40:FI:={body:=codeOf Try.f40,ntmps:=57,results:=[.tmp 2],pers:=[0,2,3,4,5,6,7],locals:=[6],pure:=false,marks:=[43,1000000]}
theorem H40:fi40.marks=[43,1000000]∧fi40.locals=[6]∧fi40.results=[.tmp 2]:=⟨rfl,rfl,rfl⟩
theorem fi35_eq:gS.fn 40=some fi40:=by kernel_rfl
theorem st40 (a0:V):startFr fi40 [a0]={ps:=[(0,.val a0),(2,.any),(3,.any),(4,.any),(5,.any),(6,.any),(7,.any)],ts:=[],lc:=[]}:=rfl
def b40:Code:=mini (codeOf Try.f40)
def c40_12:Code:=.cond (.tmp 16) .skip (.exit 0)
def c40_10:Code:=.seq (codeN b40 267) c40_12
def c40_29:Code:=.cond (.tmp 37) .skip (.exit 2)
def c40_27:Code:=.seq (codeN b40 134731) c40_29
def c40_33:Code:=codeN b40 167499
def c40_32:Code:=.block 3 c40_33
def c40_26:Code:=.seq c40_27 c40_32
def c40_25:Code:=.loop c40_26
def r40_37:Array Oper:=regOps (codeN (codeOf Try.f40) 48715)
def c40_37:Code:=.region 11 r40_37 true
def q40_37:List (Oper × Fl):=[(mv 44 3 29,qz0),
 (mv 45 7 3,qz0),
 (qB 46 .add 3 45 1 3 3,qz0),
 (op1 47 (.slice 29 (.tmp 44) (some (.tmp 46)) none none) 29,qz0),
 (mv 48 3 29,qz0),
 (mv 49 7 3,qz3),
 (op1 50 (.slice 29 (.tmp 48) (some (.tmp 49)) none none) 29,qz3),
 (op1 51 (.call {callee:=(.builtin .copy),args:=#[(.tmp 47),(.tmp 50)],argTypes:=#[29,29]}) 3,qz7)]
def c40_38:Code:=codeN b40 65099
def c40_36:Code:=.seq c40_37 c40_38
def c40_34:Code:=.seq (codeN b40 24139) c40_36
theorem e40_34:evK gS fi40 c40_34 fr st k=opsR gS fi40 [mv 40 3 29,
 op1 41 (.build 91 #[]) 91,
 qS 42 29 41 29,
 qE 43 40 42 29 29,
 asn 3 43 29] fr st (.seq c40_36 k):=evK_rs 10 rfl (by kernel_rfl)
def c40_23:Code:=.seq (.block 2 c40_25) c40_34
def c40_21:Code:=.seq (codeN b40 5707) c40_23
def c40_19:Code:=.seq (codeN b40 2635) c40_21
def c40_17:Code:=.seq (codeN b40 1099) c40_19
def c40_39:Code:=codeN b40 459
def c40_15:Code:=.seq (.block 1 c40_17) c40_39
def c40_9:Code:=.seq c40_10 c40_15
def c40_8:Code:=.loop c40_9
def c40_7:Code:=.block 0 c40_8
def c40_5:Code:=.seq (codeN b40 19) c40_7
def c40_40:Code:=.seq (codeN b40 23) .ret
def c40_4:Code:=.seq c40_5 c40_40
def c40_2:Code:=.seq (codeN b40 5) c40_4
def c40_0:Code:=.seq (codeN b40 2) c40_2
theorem E40:evK gS fi40 c40_12 fr st k=condK gS fi40 (fr.op (.tmp 16)).bool? .skip (.exit 0) fr st k ∧
 (evK gS fi40 c40_10 fr st k=opsR gS fi40 [mv 10 4 3,
 qB 11 .gtr 3 10 0 3 4,
 mv 12 11 4,
 qm 13 3 29 2 true,
 qe 14 13 29 3 2 true,
 qc 15 .lss 3 14 3 3 4 2 true,
 qP 16 12 15 false 4] fr st (.seq c40_12 k)) ∧
 evK gS fi40 c40_29 fr st k=condK gS fi40 (fr.op (.tmp 37)).bool? .skip (.exit 2) fr st k ∧
 (evK gS fi40 c40_27 fr st k=opsR gS fi40 [mv 26 7 3,
 qB 27 .gtr 3 26 0 3 4,
 mv 28 27 4,
 qm 29 3 29 2 true,
 qm 30 7 3 2 true,
 qc 31 .sub 3 30 1 3 3 2 true,
 qi 32 29 29 31 0 2 true,
 qf 33 91 32 0 0 2 true,
 ql 34 9 33 9 2 true,
 qm 35 5 9 2 true,
 qb 36 .gtr 9 34 35 9 4 2 true,
 qP 37 28 36 false 4] fr st (.seq c40_29 k)) ∧
 (evK gS fi40 c40_33 fr st k=opsR gS fi40 [mv 38 7 3,
 qB 39 .sub 3 38 1 3 3,
 asn 7 39 3] fr st k) ∧
 evK gS fi40 c40_32 fr st k=evK gS fi40 c40_33 fr st (.blk 3 k) ∧
 evK gS fi40 c40_26 fr st k=evK gS fi40 c40_27 fr st (.seq c40_32 k) ∧
 evK gS fi40 c40_37 fr st k=drwR gS fi40 r40_37 q40_37 fr st k ∧
 (evK gS fi40 c40_38 fr st k=opsR gS fi40 [mv 52 3 29,
 mv 53 7 3,
 ld 54 91 6 91,
 ixa 55 29 52 53 0,
 sto 91 55 54] fr st k) ∧
 evK gS fi40 c40_36 fr st k=evK gS fi40 c40_37 fr st (.seq c40_38 k) ∧
 evK gS fi40 c40_23 fr st k=evK gS fi40 c40_25 fr st (.blk 2 (.seq c40_34 k)) ∧
 (evK gS fi40 c40_21 fr st k=opsR gS fi40 [mv 24 3 29,
 len1 25 24 29 3,
 asn 7 25 3] fr st (.seq c40_23 k)) ∧
 (evK gS fi40 c40_19 fr st k=opsR gS fi40 [mv 21 0 23,
 mv 22 5 9,
 cal 23 71 [(.tmp 21),(.tmp 22)] [23,9] 91,
 op1 6 (.alloc 91) 0,
 sto 91 6 23] fr st (.seq c40_21 k)) ∧
 (evK gS fi40 c40_17 fr st k=opsR gS fi40 [mv 19 0 23,
 cal 20 70 [(.tmp 19)] [23] 9,
 asn 5 20 9] fr st (.seq c40_19 k)) ∧
 (evK gS fi40 c40_39 fr st k=opsR gS fi40 [mv 17 4 3,
 qB 18 .sub 3 17 1 3 3,
 asn 4 18 3] fr st k) ∧
 evK gS fi40 c40_15 fr st k=evK gS fi40 c40_17 fr st (.blk 1 (.seq c40_39 k)) ∧
 evK gS fi40 c40_9 fr st k=evK gS fi40 c40_10 fr st (.seq c40_15 k) ∧
 evK gS fi40 c40_7 fr st k=evK gS fi40 c40_8 fr st (.blk 0 k) ∧
 (evK gS fi40 c40_5 fr st k=opsR gS fi40 [mv 8 0 23,
 cal 9 11 [(.tmp 8),(.const (.int .i64 4))] [23,3] 3,
 asn 4 9 3] fr st (.seq c40_7 k)) ∧
 (evK gS fi40 c40_40 fr st k=opsR gS fi40 [mv 56 3 29,
 asn 2 56 29] fr st (.seq .ret k)) ∧
 evK gS fi40 c40_4 fr st k=evK gS fi40 c40_5 fr st (.seq c40_40 k) ∧
 evK gS fi40 c40_2 fr st k=opsR gS fi40 [qN 3 29] fr st (.seq c40_4 k) ∧
 evK gS fi40 c40_0 fr st k=opsR gS fi40 [qN 2 29] fr st (.seq c40_2 k):=⟨rfl,evK_rs 3 rfl (by kernel_rfl),rfl,evK_rs 8 rfl (by kernel_rfl),evK_r 9 (by kernel_rfl),rfl,rfl,evK_dr 11 rfl (by kernel_rfl) (by kernel_rfl),evK_r 12 (by kernel_rfl),rfl,rfl,evK_rs 7 rfl (by kernel_rfl),evK_rs 6 rfl (by kernel_rfl),evK_rs 5 rfl (by kernel_rfl),evK_r 4 (by kernel_rfl),rfl,rfl,rfl,evK_rs 2 rfl (by kernel_rfl),evK_rs 13 rfl (by kernel_rfl),rfl,evK_rs 1 rfl (by kernel_rfl),evK_rs 0 rfl (by kernel_rfl)⟩
theorem m40:mini fi40.body=c40_0:=by kernel_rfl
theorem n40_25 (fr:Fr)(st:St)(k:Kt):nextK gS fi40 (.loop c40_26 k) .normal fr st=evK gS fi40 c40_25 fr st k:=rfl
theorem n40_8 (fr:Fr)(st:St)(k:Kt):nextK gS fi40 (.loop c40_9 k) .normal fr st=evK gS fi40 c40_8 fr st k:=rfl
theorem I40 (nm:List UInt8)(f:List Pred)(idl:Nat)(st:St)(ho:St.obj st idl=some (f.flatMap Pred.cells))(hfn:f.length<1000)(R:Out × St)(e0 e4:E)(h0:e0.Tame)(h4:e4.Tame)(X:List (Nat × List V))(at0:Nat)
  (H:∀ T,evK gS fi40 c40_34 {ps:=[(0,e0),(2,.own 0 []),(3,.val (.sref false 13 idl 0 f.length)),(4,e4),(5,.val (.str nm)),(6,.lp 6 0),(7,.val (.int .i64 at0))],ts:=T,lc:=X} st (.blk 1 (.seq c40_39 (.loop c40_9 (.blk 0 (.seq c40_40 .nil)))))=some R) :
  ∀ (k:Nat) (T:List (Nat × E)),k≤f.length→at0=insN f nm k →
  evK gS fi40 c40_25 {ps:=[(0,e0),(2,.own 0 []),(3,.val (.sref false 13 idl 0 f.length)),(4,e4),(5,.val (.str nm)),(6,.lp 6 0),(7,.val (.int .i64 k))],ts:=T,lc:=X} st (.blk 2 (.seq c40_34 (.blk 1 (.seq c40_39 (.loop c40_9 (.blk 0 (.seq c40_40 .nil)))))))=some R:=by
 intro k
 induction k with
 | zero =>
  intro T hk hat
  refine evK_loop c40_26 _ _ _ _ rfl ?_
  have h00:insN f nm 0=0:=rfl
  rw [h00] at hat
  subst hat
  simp only [show ((0:Nat):Int)=0 from rfl] at H ⊢
  simp [-St.obj,-St.set,h0,h4,H,-zil,-zit,-znl,-znt,ty3,ty4,ty9,ty23,ty29,ty91,H40,fi16_eq,fi29_eq,fi91_eq,E40,q40_37,n40_25,n40_8]
 | succ k ih =>
  intro T hk hat
  refine evK_loop c40_26 _ _ _ _ rfl ?_
  obtain ⟨x,hx⟩  := qgx (l:=f) (i:=k) (by omega)
  have hget:=row_get Pred.cells 13 pcells_len hx (j:=0) (by omega)
  have hc0:(Pred.cells x)[0]?=some (.str x.name):=rfl
  rw [hc0,Nat.add_zero] at hget
  have hins:insN f nm (k+1)=if sgt x.name nm then insN f nm k else k+1:=by
   show (if sgt ((f[k]?).getD ⟨[],0,vzero,vzero,[]⟩).name nm then insN f nm k else k+1)=_
   rw [hx];rfl
  rw [hins] at hat
  have hw1:IntKind.wrap .i64 (((k+1:Nat):Int) - 1)=(k:Int):=by rw [wrap64 (by omega) (by omega)];omega
  have hp:(0:Int)<((k+1:Nat):Int):=by omega
  have hlt:(k:Int)<(f.length:Int):=by omega
  have hlt2:k<f.length:=by omega
  have hsg:(!(Op.bytesLess x.name nm || decide (x.name=nm)))=sgt x.name nm:=rfl
  cases hs:sgt x.name nm with
  | true =>
   rw [hs] at hsg hat
   have IH:=fun T=>ih T (by omega) (by rw [hat];rfl)
   simp [-zia,-Bool.not_or,-St.obj,-St.set,h0,h4,ho,hget,hw1,hp,hlt,hlt2,hsg,IH,-zil,-zit,-znl,-znt,ty3,ty4,ty9,ty23,ty29,ty91,H40,fi16_eq,fi29_eq,fi91_eq,E40,q40_37,n40_25,n40_8]
  | false =>
   rw [hs] at hsg hat
   have hat2:at0=k+1:=by rw [hat];rfl
   subst hat2
   simp [-zia,-Bool.not_or,-St.obj,-St.set,h0,h4,ho,hget,hw1,hp,hlt,hlt2,hsg,H,-zil,-zit,-znl,-znt,ty3,ty4,ty9,ty23,ty29,ty91,H40,fi16_eq,fi29_eq,fi91_eq,E40,q40_37,n40_25,n40_8]
theorem ins_shift (f:List Pred)(z p:Pred) {i:Nat} (hi:i≤f.length) :
  (((f ++ [z]).take (i+1) ++ ((f ++ [z]).drop i).take (f.length - i)).take i ++ [p] ++ ((f ++ [z]).take (i+1) ++ ((f ++ [z]).drop i).take (f.length - i)).drop (i+1))=f.take i ++ p :: f.drop i:=by
 have h1:((f ++ [z]).take (i+1)).length=i+1:=by simp;omega
 rw [List.take_append_of_le_length (by omega),List.take_take,Nat.min_eq_left (by omega),List.take_append_of_le_length hi,List.drop_append,h1,Nat.sub_self,List.drop_zero,List.drop_of_length_le (by omega),List.nil_append]
 rw [List.drop_append_of_le_length hi,List.take_append_of_le_length (by simp),List.take_of_length_le (l:=f.drop i) (by simp)]
 simp
theorem T40_34 (f:List Pred)(hne:f≠[])(p:Pred)(hfn:f.length<1000)(i:Nat)(hi:i≤f.length)(id m q:Nat)(st:St)(h:FeedOk st id)(l:List Int)(A:Nat)(nm:List UInt8)(r:Nat)(hr:r<1000)(R:Out × St)
  (e0:E) (h0:e0.Tame) (X:List (Nat × List V)) (hx:lk X 6=some p.cells) (T:List (Nat × E))
  (IH:∀ T,evK gS fi40 c40_8 {ps:=[(0,e0),(2,.own 0 []),(3,.val (.sref false 13 (st.objs.length+(m+1+q)) 0 (f.length+1))),(4,.val (.int .i64 r)),(5,.val (.str nm)),(6,.lp 6 0),(7,.val (.int .i64 i))],ts:=T,lc:=X} (setF (nw st (m+1+q) ((f.take i ++ p :: f.drop i).flatMap Pred.cells)) id l A) (.blk 0 (.seq c40_40 .nil))=some R) :
  evK gS fi40 c40_34 {ps:=[(0,e0),(2,.own 0 []),(3,.val (.sref false 13 (st.objs.length+m) 0 f.length)),(4,.val (.int .i64 ((r+1:Nat):Int))),(5,.val (.str nm)),(6,.lp 6 0),(7,.val (.int .i64 i))],ts:=T,lc:=X} (setF (dd (nw st m (f.flatMap Pred.cells)) q) id l A) (.blk 1 (.seq c40_39 (.loop c40_9 (.blk 0 (.seq c40_40 .nil)))))=some R:=by
 have hm:fi40.marks=[43,1000000]:=rfl
 have hl:fi40.locals=[6]:=rfl
 have hr:fi40.results=[.tmp 2]:=rfl
 have ho:=obj_mid h m q (f.flatMap Pred.cells) l A
 have hk:=set_mid h m q (f.flatMap Pred.cells) l A
 have hn:=fun fr k len cs=>newRef_dd h fr (m+1+q) k len cs l A
 have hz:f.flatMap Pred.cells ++ [.str [],.int .i64 0,.int .i64 0,.int .i64 0,.float .f64 0,.str [],.bool false,.int .i64 0,.int .i64 0,.float .f64 0,.str [],.bool false,.slice []]=(f ++ [pzero]).flatMap Pred.cells:=by simp [pzero,vzero,encVals]
 have hst:=row_strip Pred.cells Pred.cells pcells_strip f
 have hon:=row_one Pred.cells pcells_one f
 have hle:=row_len Pred.cells 13 pcells_len f
 have hfl:0<f.length:=List.length_pos_iff.2 hne
 have b1:(f.length+1)*144≤140737488355328:=by omega
 have b2:f.length+1≤140737488355328:=by omega
 have hw1  := qws i (by omega)
 have hw2:IntKind.wrap .i64 (((r+1:Nat):Int) - 1)=(r:Int):=by rw [wrap64 (by omega) (by omega)];omega
 have ho2:=obj_gr h (m+1+q) ((f ++ [pzero]).flatMap Pred.cells) l A
 have hel:=elems_row ho2 false (i:=i) (by simp;omega)
 rw [zla,List.length_singleton] at hel
 have hlen:(f ++ [pzero]).length=f.length+1:=by simp
 generalize hE0:f ++ [pzero]=E0 at *
 have hsh:=ins_shift f pzero p hi
 rw [hE0] at hsh
 have hs1:=sizes_preds (E0.drop i)
 have hdl:(E0.drop i).length=f.length+1 - i:=by simp [hlen]
 have c1:((i+1:Nat):Int)≤(f.length:Int)+1:=by omega
 have c2:(i:Int)≤(f.length:Int)+1:=by omega
 have c3:(i:Int)<(f.length:Int)+1:=by omega
 have hst2:=fun cs cs'=>set_gr' h (m+1+q) cs cs' l A
 have hspl:=row_splices Pred.cells 13 pcells_len E0 ((E0.drop i).take (f.length - i)) (i+1) (by rw [List.length_take,hdl,hlen];omega)
 have hE1:E0.take (i+1) ++ (E0.drop i).take (f.length - i) ++ E0.drop (i+1+((E0.drop i).take (f.length - i)).length)=E0.take (i+1) ++ (E0.drop i).take (f.length - i):=by
  have hd0:E0.drop (i+1+((E0.drop i).take (f.length - i)).length)=[]:=List.drop_of_length_le (by rw [List.length_take,hdl,hlen];omega)
  rw [hd0,List.append_nil]
 rw [hE1] at hspl
 generalize hE1g:E0.take (i+1) ++ (E0.drop i).take (f.length - i)=E1 at *
 have hl1:E1.length=f.length+1:=by rw [← hE1g,zla,List.length_take,List.length_take,hdl,hlen];omega
 have hspl2:=row_splices Pred.cells 13 pcells_len E1 [p] i (by rw [hl1,List.length_singleton];omega)
 rw [List.length_singleton,hsh] at hspl2
 have hpc:[p].flatMap Pred.cells=p.cells:=by simp
 rw [hpc] at hspl2
 simp only [Pred.cells] at hspl2 hx
 have hmc:∀ k,((encPreds (E0.drop i)).take k).flatMap V.cells=((E0.drop i).take k).flatMap Pred.cells:=fun k=>by
  rw [show (encPreds (E0.drop i)).take k=encPreds ((E0.drop i).take k) from by simp [encPreds],enc_cells]
 have hone:=row_one Pred.cells pcells_one ((E0.drop i).take (f.length - i))
 have hrl:=row_len Pred.cells 13 pcells_len ((E0.drop i).take (f.length - i))
 have ho1:=obj_gr h (m+1+q) (E1.flatMap Pred.cells) l A
 have hcp:∀ n:Nat,(f.length+1 - i - (n+1))=f.length - i - n:=fun n=>by omega
 have hsz:splice [.str [],.int .i64 0,.int .i64 0,.int .i64 0,.float .f64 0,.str [],.bool false,.int .i64 0,.int .i64 0,.float .f64 0,.str [],.bool false,.osl 0 []] 0 [.str [],.int .i64 0,.int .i64 0,.int .i64 0,.float .f64 0,.str [],.bool false,.int .i64 0,.int .i64 0,.float .f64 0,.str [],.bool false,.slice []]=some [.str [],.int .i64 0,.int .i64 0,.int .i64 0,.float .f64 0,.str [],.bool false,.int .i64 0,.int .i64 0,.float .f64 0,.str [],.bool false,.slice []]:=rfl
 have heo:∀ (ea:Bool) (k:Nat) (st:St) (n:Nat) (xs:List V),elemsAt ea k st (.own n xs)=some xs:=fun _ _ _ _ _=>rfl
 by_cases hil:i=f.length
 ·have hE01:E1=E0:=by
   rw [← hE1g,hil,Nat.sub_self,List.take_zero,List.append_nil,List.take_of_length_le (by omega)]
  subst hil
  rw [Nat.add_sub_cancel_left] at hel
  rw [hE01] at hspl2
  clear hE1 hE1g hspl hsh hone hrl ho1 hcp hmc hpc
  have hd1:(E0.drop f.length).length=1:=by rw [hdl];omega
  simp [-zia,-St.obj,-St.set,-splice,h0,ho,hk,hn,hz,hst,hon,hle,hfl,b1,b2,hw1,hw2,ho2,hel,hlen,hs1,hd1,hspl2,hst2,hsz,heo,copyStep,markStep,markAppend,hx,IH,-zil,-zit,-znl,-znt,ty3,ty4,ty9,ty23,ty29,ty91,hm,hl,hr,fi16_eq,fi29_eq,fi91_eq,E40,q40_37,e40_34,n40_25,n40_8]
  simpa [Pred.cells] using IH [(18,.val (.int .i64 (r:Int))),(17,.val (.int .i64 ((r+1:Nat):Int)))]
 ·have hmin:min (f.length+1 - i) (f.length - i)=f.length - i:=by omega
  have hlei:¬ f.length≤i:=by omega
  have hne0:¬ (f.length - i=0):=by omega
  have hrl2:(((E0.drop i).take (f.length - i)).flatMap Pred.cells).length=(f.length - i)*13:=by rw [hrl,List.length_take,hdl];congr 1;omega
  have hpos2:0<(f.length - i)*13:=by omega
  have hpos3:i<f.length:=by omega
  have c6:((i+1:Nat):Int)≤((f.length+1:Nat):Int):=by omega
  have c7:(i:Int)≤((f.length+1:Nat):Int):=by omega
  have c8:(i:Int)<((f.length+1:Nat):Int):=by omega
  have c9:(0:Int)≤((i+1:Nat):Int):=by omega
  have c10:¬ i=f.length+1:=by omega
  simp [-zia,-List.flatMap_append,-St.obj,-St.set,-splice,h0,ho,hk,hn,hz,hst,hon,hle,hfl,b1,b2,hw1,hw2,ho1,ho2,hel,hlen,hs1,hdl,hmin,hlei,hne0,hrl2,hpos2,hpos3,hil,c6,c7,c8,c9,c10,hmc,hone,hspl,hspl2,hst2,hsz,heo,copyStep,markStep,markAppend,hx,-zil,-zit,-znl,-znt,ty3,ty4,ty9,ty23,ty29,ty91,hm,hl,hr,fi16_eq,fi29_eq,fi91_eq,E40,q40_37,e40_34,n40_25,n40_8]
  exact IH _
theorem L40 (l:List Int)(a id:Nat)(ha:a<549755813888)(st:St)(h:FeedOk st id):∀ (r j m:Nat) (f:List Pred) (e5 e6 e7:E) (T:List (Nat × E)) (X:List (Nat × List V)) (h5:e5.Tame) (h6:e6.Tame) (h7:e7.Tame),f≠[]→f.length+r≤3→j+20*r<549755810000 →
  evK gS fi40 c40_8 {ps:=[(0,.val (.ptr id 0)),(2,.own 0 []),(3,.val (.sref false 13 (st.objs.length+m) 0 f.length)),(4,.val (.int .i64 r)),(5,e5),(6,e6),(7,e7)],ts:=T,lc:=X} (setF (nw st m (f.flatMap Pred.cells)) id l (nA l a j)) (.blk 0 (.seq c40_40 .nil))=some (.ret (.slice (encPreds (filterG l a r j (m+1) f).1)) none,setF (dd st (filterG l a r j (m+1) f).2.2) id l (nA l a (filterG l a r j (m+1) f).2.1)):=by
 intro r
 induction r with
 | zero =>
  intro j m f e5 e6 e7 T X h5 h6 h7 hne hlr hj
  refine evK_loop c40_9 _ _ _ _ rfl ?_
  have hz:=frz_preds 5 (st.objs.length+m) f hne (obj_gr h m _ l (nA l a j)) (set_gr h m _ l (nA l a j))
  rw [show filterG l a 0 j (m+1) f=(f,j,m+1) from rfl]
  simp [-St.obj,-St.set,h5,h6,h7,hz,-zil,-zit,-znl,-znt,ty3,ty4,ty9,ty23,ty29,ty91,H40,fi16_eq,fi29_eq,fi91_eq,E40,q40_37,e40_34,n40_25,n40_8]
 | succ r ih =>
  intro j m f e5 e6 e7 T X h5 h6 h7 hne hlr hj
  refine evK_loop c40_9 _ _ _ _ rfl ?_
  have hn:=fun fr=>k70 l a j id fr (nw st m (f.flatMap Pred.cells)) (h.nw m _) ha (by omega)
  have hp:=fun fr=>k71 l a (j+1) id (nameV l a j) fr (nw st m (f.flatMap Pred.cells)) (h.nw m _) ha (by omega)
  have hg:filterG l a (r+1) j (m+1) f=filterG l a r (j+1+(predV l a (j+1) (nameV l a j)).2) (m+1+(predV l a (j+1) (nameV l a j)).1.set.length+1) (insP f (predV l a (j+1) (nameV l a j)).1 (nameV l a j)):=rfl
  rw [hg]
  have hpa:=pred_asks l a (j+1) (nameV l a j)
  generalize nameV l a j=nm at *
  generalize predV l a (j+1) nm=P at *
  obtain ⟨p,k⟩:=P
  simp only at hp hg hpa ⊢
  have c1:(0:Int)<((r+1:Nat):Int):=by omega
  have c2:(f.length:Int)<3:=by omega
  have c3:f.length<3:=by omega
  have hil:=insP_length f p nm
  have hi:=insN_le f nm f.length
  have ipe:insP f p nm≠[]:=by intro e;rw [e] at hil;simp at hil
  have IH:=fun T X=>ih (j+1+k) (m+1+p.set.length) (insP f p nm) (.val (.str nm)) (.lp 6 0) (.val (.int .i64 (insN f nm f.length))) T X rfl rfl rfl ipe (by rw [hil];omega) (by omega)
  rw [hil] at IH
  simp only [insP] at IH ⊢
  have TT:=fun X hx T=>T40_34 f hne p (by omega) (insN f nm f.length) hi id m p.set.length st h l (nA l a (j+1+k)) nm r (by omega) _ (.val (.ptr id 0)) rfl X hx T (fun T=>IH T X)
  have II:=fun X hx T=>I40 nm f (st.objs.length+m) (setF (dd (nw st m (f.flatMap Pred.cells)) p.set.length) id l (nA l a (j+1+k))) (obj_mid h m p.set.length _ l _) (by omega) _ (.val (.ptr id 0)) (.val (.int .i64 ((r+1:Nat):Int))) rfl rfl X (insN f nm f.length) (fun T=>TT X hx T) f.length T (Nat.le_refl _) rfl
  simp [-zia,-St.obj,-St.set,-List.flatMap_append,h5,h6,h7,hn,hp,c1,c2,c3,-zil,-zit,-znl,-znt,ty3,ty4,ty9,ty23,ty29,ty91,H40,fi16_eq,fi29_eq,fi91_eq,E40,q40_37,e40_34,n40_25,n40_8]
  refine II _ ?_ _
  simp
theorem c40 (l:List Int)(a j id:Nat)(st:St)(h:FeedOk st id)(ha:a<549755813888)(hj:j<549755809000) :
  EvF gS 40 [.ptr id 0] (setF st id l (nA l a j))=some (.ret (.slice (encPreds (filterV l a j).1)) none,setF (dd st (filterV l a j).2.2) id l (nA l a (filterV l a j).2.1)):=by
 refine EvF_start fi35_eq (fun x h=>by cases h) m40 ?_
 rw [st40]
 have hb:=fd_bound l a j (n:=4) (by omega)
 have hk:=fun fr=>k11 l a j id 4 fr st h ha (by omega) (by omega)
 unfold filterV
 generalize fd l a j 4=z at *
 obtain ⟨r,rfl⟩:∃ r:Nat,z=(r:Int):=⟨z.toNat,by omega⟩
 rw [Int.toNat_natCast]
 simp [-St.obj,-St.set,hk,-zil,-zit,-znl,-znt,ty3,ty4,ty9,ty23,ty29,ty91,H40,fi16_eq,fi29_eq,fi91_eq,E40,q40_37,e40_34,n40_25,n40_8]
 cases r with
 | zero =>
  refine evK_loop c40_9 _ _ _ _ rfl ?_
  have hz:∀ st,frz 6 st (.slice [])=some (.slice [],st):=fun st=>frz_flat 6 st _ rfl
  rw [show filterG l a 0 (j+1) 0 []=([],j+1,0) from rfl]
  simp [-St.obj,-St.set,hz,dd_zero,encPreds,-zil,-zit,-znl,-znt,ty3,ty4,ty9,ty23,ty29,ty91,H40,fi16_eq,fi29_eq,fi91_eq,E40,q40_37,e40_34,n40_25,n40_8]
 | succ r =>
  refine evK_loop c40_9 _ _ _ _ rfl ?_
  have hn:=fun fr=>k70 l a (j+1) id fr st h ha (by omega)
  have hp:=fun fr=>k71 l a (j+1+1) id (nameV l a (j+1)) fr st h ha (by omega)
  have hg:filterG l a (r+1) (j+1) 0 []=filterG l a r (j+1+1+(predV l a (j+1+1) (nameV l a (j+1))).2) (0+(predV l a (j+1+1) (nameV l a (j+1))).1.set.length+1) (insP [] (predV l a (j+1+1) (nameV l a (j+1))).1 (nameV l a (j+1))):=rfl
  rw [hg]
  have hpa:=pred_asks l a (j+1+1) (nameV l a (j+1))
  generalize nameV l a (j+1)=nm at *
  generalize predV l a (j+1+1) nm=P at *
  obtain ⟨p,k⟩:=P
  simp only at hp hg hpa ⊢
  rw [show insP [] p nm=[p] from rfl,Nat.zero_add]
  have c1:(0:Int)<((r+1:Nat):Int):=by omega
  have LL:=fun e5 e6 e7 T X h5 h6 h7=>L40 l a id ha st h r (j+1+1+k) p.set.length [p] e5 e6 e7 T X h5 h6 h7 (by simp) (by simp;omega) (by omega)
  have hpc:[p].flatMap Pred.cells=p.cells:=by simp
  rw [hpc] at LL
  simp only [Pred.cells,List.length_singleton] at LL
  have hnr:=fun fr kk len cs=>newRef_dd h fr p.set.length kk len cs l (nA l a (j+1+1+k))
  have ho2:=fun cs=>obj_gr h p.set.length cs l (nA l a (j+1+1+k))
  have hst2:=fun cs cs'=>set_gr' h p.set.length cs cs' l (nA l a (j+1+1+k))
  have heo:∀ (ea:Bool) (k:Nat) (st:St) (n:Nat) (xs:List V),elemsAt ea k st (.own n xs)=some xs:=fun _ _ _ _ _=>rfl
  have hw2:IntKind.wrap .i64 (((r+1:Nat):Int) - 1)=(r:Int):=by rw [wrap64 (by omega) (by omega)];omega
  have hel1:elemsAt true 13 (setF (nw st p.set.length [.str [],.int .i64 0,.int .i64 0,.int .i64 0,.float .f64 0,.str [],.bool false,.int .i64 0,.int .i64 0,.float .f64 0,.str [],.bool false,.slice []]) id l (nA l a (j+1+1+k))) (.val (.sref false 13 (st.objs.length+p.set.length) 0 1))=some (encPreds [pzero]):=elems_row (l:=[pzero]) (ho2 _) false (i:=0) (Nat.zero_le _)
  have hs1:=sizes_preds [pzero]
  simp [-zia,-St.obj,-St.set,hn,hp,c1,-zil,-zit,-znl,-znt,ty3,ty4,ty9,ty23,ty29,ty91,H40,fi16_eq,fi29_eq,fi91_eq,E40,q40_37,e40_34,n40_25,n40_8]
  refine evK_loop c40_26 _ _ _ _ rfl ?_
  simp [-zia,-St.obj,-St.set,hnr,ho2,hst2,heo,hw2,w64_1,hel1,hs1,copyStep,markStep,markAppend,-zil,-zit,-znl,-znt,ty3,ty4,ty9,ty23,ty29,ty91,H40,fi16_eq,fi29_eq,fi91_eq,E40,q40_37,e40_34,n40_25,n40_8]
  exact LL _ _ _ _ _ rfl rfl rfl
theorem k40 (l:List Int)(a j id:Nat)(fr:Fr)(st:St)(h:FeedOk st id)(ha:a<549755813888)(hj:j<549755809000) :
  callStep gS (EvF gS) 40 [.ptr id 0] fr (setF st id l (nA l a j))=some (.ok (.val (.slice (encPreds (filterV l a j).1))) (fr.map E.noMem) (setF (dd st (filterV l a j).2.2) id l (nA l a (filterV l a j).2.1))):=by
 unfold callStep
 simp only [show gS.ext 40=none from rfl,fi35_eq,show fi40.pure=false from rfl,Bool.false_eq_true,if_false,c40 l a j id st h ha hj,retE]
 all_goals rfl
end
end Go.Proofs.Ytdoobejjedpcgaa
namespace Go.Ab
open Go
def okNames:Bool:=N4.all fun x=>N4.all fun y=>(N4.all fun z=>sgt x y || sgt y z || !sgt x z) && (!sgt x y || !sgt y x) && isWord x
theorem names_ok:okNames=true:=by kernel_rfl
def NM (x:List UInt8):Prop:=x∈N4
theorem nm_trans {x y z:List UInt8} (hx:NM x)(hy:NM y)(hz:NM z)(h1:sgt x y=false)(h2:sgt y z=false):sgt x z=false:=by
 have:=List.all_eq_true.1 (List.all_eq_true.1 names_ok x hx) y hy
 simp only [Bool.and_eq_true] at this
 have:=List.all_eq_true.1 this.1.1 z hz
 rw [h1,h2] at this
 simpa using this
theorem nm_asym {x y:List UInt8} (hx:NM x)(hy:NM y)(h:sgt x y=true):sgt y x=false:=by
 have:=List.all_eq_true.1 (List.all_eq_true.1 names_ok x hx) y hy
 simp only [Bool.and_eq_true] at this
 have:=this.1.2
 rw [h] at this
 simpa using this
theorem nm_word {x:List UInt8} (hx:NM x):isWord x=true:=by
 have:=List.all_eq_true.1 (List.all_eq_true.1 names_ok x hx) x hx
 simp only [Bool.and_eq_true] at this
 exact this.2
theorem nameV_nm (l:List Int)(a j:Nat):NM (nameV l a j):=by
 unfold NM nameV
 have hlt:(fd l a j 12).toNat / 3 % 4<N4.length:=by show _<4;omega
 rw [List.getD_eq_getElem?_getD,zge hlt]
 exact List.getElem_mem hlt
structure FFV (f:List Pred):Prop where
 right:∀ p∈f,pright p=true
 fv:∀ p∈f,PFV p
 nm:∀ p∈f,NM p.name
 srt:f.Pairwise fun x y=>sgt x.name y.name=false
theorem ffv_nil:FFV []:=⟨by simp,by simp,by simp,List.Pairwise.nil⟩
theorem insN_above (f:List Pred)(nm:List UInt8):∀ (k i:Nat) (p:Pred),insN f nm k≤i→i<k→f[i]?=some p→sgt p.name nm=true
 | 0,i,p,_,h,_=>by omega
 | k+1,i,p,h1,h2,hp=>by
  unfold insN at h1
  split at h1
  ·rename_i hs
   by_cases hik:i=k
   ·subst hik;rw [hp] at hs;exact hs
   ·exact insN_above f nm k i p h1 (by omega) hp
  ·omega
theorem insN_below (f:List Pred)(nm:List UInt8):∀ (k:Nat) (p:Pred),k≤f.length→0<insN f nm k→f[insN f nm k - 1]?=some p→sgt p.name nm=false
 | 0,p,_,h,_=>by simp [insN] at h
 | k+1,p,hk,h,hp=>by
  unfold insN at h hp
  split at h
  ·rename_i hs
   rw [if_pos hs] at hp
   exact insN_below f nm k p (by omega) h hp
  ·rename_i hs
   rw [if_neg hs,Nat.add_sub_cancel] at hp
   rw [hp] at hs
   simpa using hs
theorem ins_ffv {f:List Pred} (h:FFV f) {p:Pred} (h1:pright p=true)(h2:PFV p)(h3:NM p.name):FFV (insP f p p.name):=by
 have hle:=insN_le f p.name f.length
 have hab:=insN_above f p.name f.length
 have hbe:=insN_below f p.name f.length
 unfold insP
 generalize hi:insN f p.name f.length=i at *
 have mem:∀ x,x∈f.take i ++ p :: f.drop i→x∈f∨x=p:=by
  intro x hx
  rcases List.mem_append.1 hx with hx | hx
  ·exact .inl (List.mem_of_mem_take hx)
  ·rcases List.mem_cons.1 hx with hx | hx
   ·exact .inr hx
   ·exact .inl (List.mem_of_mem_drop hx)
 refine ⟨fun x hx=>?_,fun x hx=>?_,fun x hx=>?_,?_⟩
 ·rcases mem x hx with h' | rfl
  ·exact h.right x h'
  ·exact h1
 ·rcases mem x hx with h' | rfl
  ·exact h.fv x h'
  ·exact h2
 ·rcases mem x hx with h' | rfl
  ·exact h.nm x h'
  ·exact h3
 ·have hs:=h.srt
  have hsp:f.take i ++ f.drop i=f:=List.take_append_drop i f
  rw [← hsp] at hs
  rw [List.pairwise_append] at hs ⊢
  obtain ⟨s1,s2,s3⟩:=hs
  have low:∀ x∈f.take i,sgt x.name p.name=false:=by
   intro x hx
   have hpos:0<i:=by
    cases i with
    | zero=>simp at hx
    | succ i=>omega
   have hlast:i - 1<f.length:=by omega
   have hb:=hbe (f[i - 1]) (Nat.le_refl _) hpos (zge hlast)
   obtain ⟨j,hj,rfl⟩:=List.getElem_of_mem hx
   rw [List.length_take] at hj
   rw [List.getElem_take]
   by_cases hji:j=i - 1
   ·subst hji;exact hb
   ·have hlt:j<i - 1:=by omega
    have hp:=List.pairwise_iff_getElem.1 h.srt j (i - 1) (by omega) hlast hlt
    exact nm_trans (h.nm _ (List.getElem_mem _)) (h.nm _ (List.getElem_mem _)) h3 hp hb
  have high:∀ x∈f.drop i,sgt p.name x.name=false:=by
   intro x hx
   obtain ⟨j,hj,rfl⟩:=List.getElem_of_mem hx
   rw [List.length_drop] at hj
   rw [List.getElem_drop]
   have:=hab (i+j) (f[i+j]'(by omega)) (by omega) (by omega) (zge _)
   exact nm_asym (h.nm _ (List.getElem_mem _)) h3 this
  refine ⟨s1,List.pairwise_cons.2 ⟨fun x hx=>high x hx,s2⟩,fun x hx y hy=>?_⟩
  rcases List.mem_cons.1 hy with rfl | hy
  ·exact low x hx
  ·exact s3 x hx y hy
theorem predV_name (l:List Int)(a j:Nat)(nm:List UInt8):(predV l a j nm).1.name=nm:=by
 unfold predV
 simp only
 repeat' split
 all_goals rfl
theorem filterG_ffv (l:List Int)(a:Nat):∀ (n j d:Nat) (f:List Pred),FFV f→FFV (filterG l a n j d f).1∧(filterG l a n j d f).1.length=f.length+n
 | 0,j,d,f,h=>⟨h,rfl⟩
 | n+1,j,d,f,h=>by
  have hn:=nameV_nm l a j
  have hp:=predV_name l a (j+1) (nameV l a j)
  have h2:=ins_ffv h (p:=(predV l a (j+1) (nameV l a j)).1) (pred_right _ _ _ (nm_word hn)) (pred_fv _ _ _ _) (by rw [hp];exact hn)
  rw [hp] at h2
  have:=filterG_ffv l a n (j+1+(predV l a (j+1) (nameV l a j)).2) (d+(predV l a (j+1) (nameV l a j)).1.set.length+1) _ h2
  refine ⟨this.1,?_⟩
  have h3:=this.2
  rw [insP_length] at h3
  show (filterG l a n _ _ _).1.length=_
  omega
theorem filterV_ffv (l:List Int)(a j:Nat):FFV (filterV l a j).1∧(filterV l a j).1.length≤3:=by
 have hb:=fd_bound l a j (n:=4) (by omega)
 have:=filterG_ffv l a (fd l a j 4).toNat (j+1) 0 [] ffv_nil
 refine ⟨this.1,?_⟩
 have h2:=this.2
 simp only [List.length_nil,Nat.zero_add] at h2
 unfold filterV
 omega
theorem filterG_bounds (l:List Int)(a:Nat):∀ (n j d:Nat) (f:List Pred),(filterG l a n j d f).2.1≤j+11*n∧(filterG l a n j d f).2.2≤d+5*n
 | 0,j,d,f=>⟨by simp [filterG],by simp [filterG]⟩
 | n+1,j,d,f=>by
  have h1:=pred_asks l a (j+1) (nameV l a j)
  have hn:=nm_word (nameV_nm l a j)
  have h2:(predV l a (j+1) (nameV l a j)).1.set.length≤4:=by
   have hr:=pred_right l a (j+1) hn
   generalize (predV l a (j+1) (nameV l a j)).1=p at hr ⊢
   unfold pright at hr
   split at hr
   ·repeat' split at hr
    all_goals first
     | (simp only [Bool.and_eq_true,decide_eq_true_eq] at hr;omega)
     | cases hr
   ·cases hr
  have:=filterG_bounds l a n (j+1+(predV l a (j+1) (nameV l a j)).2) (d+(predV l a (j+1) (nameV l a j)).1.set.length+1) (insP f (predV l a (j+1) (nameV l a j)).1 (nameV l a j))
  unfold filterG
  omega
theorem filterV_asks (l:List Int)(a j:Nat):(filterV l a j).2.1≤j+34:=by
 have hb:=fd_bound l a j (n:=4) (by omega)
 have:=(filterG_bounds l a (fd l a j 4).toNat (j+1) 0 []).1
 unfold filterV
 omega
theorem attrsG_len (l:List Int)(a:Nat):∀ (q:List (List UInt8 × Int)) (j:Nat),(attrsG l a q j).1.length≤q.length
 | [],j=>by simp [attrsG]
 | (nm,x) :: r,j=>by
  have h1:=attrsG_len l a r (j+3)
  have h2:=attrsG_len l a r (j+1)
  unfold attrsG
  split
  ·simp only [List.length_cons];omega
  ·simp only [List.length_cons];omega
theorem attrsV_len (l:List Int)(a j:Nat):(attrsV l a j).1.length≤5:=attrsG_len l a A5 j
theorem vsame_refl (v:Val):vsame v v=true:=by simp [vsame]
theorem sames_refl:∀ l:List Val,sames l l=true
 | []=>rfl
 | x :: r=>by simp [sames,vsame_refl,sames_refl r]
end Go.Ab
namespace Go.Ab
open Go
theorem dd_nw_set (st:St)(m k:Nat)(cs cs':List V)(h:st.wp≤st.objs.length):St.set (dd (nw st m cs) k) (st.objs.length+m) cs'=some (dd (nw st m cs') k):=by
 unfold St.set
 rw [if_pos (by rw [dd_wp,gr_wp];omega)]
 unfold dd nw
 simp only [Option.some.injEq,St.mk.injEq,and_true]
 rw [zaa,List.set_append_right _ _ (by omega),Nat.add_sub_cancel_left,zaa,List.set_append_right _ _ (by simp),List.length_replicate,Nat.sub_self]
 simp only [List.singleton_append,List.set_cons_zero,zaa]
theorem set_mid' {st:St} {id:Nat} (h:FeedOk st id)(m k:Nat)(cs cs':List V)(l:List Int)(a:Nat):St.set (setF (dd (nw st m cs) k) id l a) (st.objs.length+m) cs'=some (setF (dd (nw st m cs') k) id l a):=by
 have h1:=h.1
 have h2:=h.2
 have hk:=dd_nw_set st m k cs cs' (by omega)
 unfold St.set at hk ⊢
 rw [if_pos (by rw [dd_wp,gr_wp];omega)] at hk
 rw [if_pos (by rw [setF_wp,dd_wp,gr_wp];omega)]
 have hk2:=Option.some.inj hk
 congr 1
 rw [← hk2]
 unfold setF
 simp only [St.mk.injEq,and_true]
 rw [List.set_comm _ _ (by omega)]
end Go.Ab
namespace Go.Ab
open Go
def Apt (a b:List Pred):Prop:=fcovers a b=false∧fcovers b a=false
structure Row (row:List (List Pred)):Prop where
 apart:row.Pairwise Apt
end Go.Ab
namespace Go.Ab
open Go
structure Sub where
 client:Int
 broker:Int
 num:Int
 filter:List Pred
 deriving Inhabited
structure Grp where
 filter:List Pred
 clients:List Int
 deriving Inhabited
def Sub.cells (s:Sub):List V:=[.int .i64 s.client,.int .i64 s.broker,.int .i64 s.num,.slice (encPreds s.filter)]
def Sub.enc (s:Sub):V:=.agg s.cells
def encSubs (l:List Sub):List V:=l.map Sub.enc
def Grp.cells (s:Grp):List V:=[.slice (encPreds s.filter),.slice (intVs s.clients)]
def Grp.enc (s:Grp):V:=.agg s.cells
def encGrps (l:List Grp):List V:=l.map Grp.enc
theorem encSubs_length (l:List Sub):(encSubs l).length=l.length:=by simp [encSubs]
theorem encSubs_get (l:List Sub)(i:Nat):(encSubs l)[i]?=(l[i]?).map Sub.enc:=by simp [encSubs]
theorem encSubs_gE (l:List Sub)(i:Nat)(h:i<(encSubs l).length):(encSubs l)[i]'h=(l[i]'(by rw [encSubs_length] at h;exact h)).enc:=by simp [encSubs]
theorem flat_sub (v:Sub):v.enc.flat=true:=by simp [Sub.enc,Sub.cells,V.flat,flats]
theorem flats_subs (l:List Sub):flats (encSubs l)=true:=by
 induction l with
 | nil=>rfl
 | cons x r ih=>simp only [encSubs,List.map_cons,flats,flat_sub] at ih ⊢;exact ih
theorem encGrps_length (l:List Grp):(encGrps l).length=l.length:=by simp [encGrps]
theorem encGrps_get (l:List Grp)(i:Nat):(encGrps l)[i]?=(l[i]?).map Grp.enc:=by simp [encGrps]
theorem encGrps_gE (l:List Grp)(i:Nat)(h:i<(encGrps l).length):(encGrps l)[i]'h=(l[i]'(by rw [encGrps_length] at h;exact h)).enc:=by simp [encGrps]
theorem flat_grp (v:Grp):v.enc.flat=true:=by simp [Grp.enc,Grp.cells,V.flat,flats]
theorem flats_grps (l:List Grp):flats (encGrps l)=true:=by
 induction l with
 | nil=>rfl
 | cons x r ih=>simp only [encGrps,List.map_cons,flats,flat_grp] at ih ⊢;exact ih
attribute [simp] encSubs_length encSubs_get encSubs_gE flat_sub flats_subs encGrps_length encGrps_get encGrps_gE flat_grp flats_grps Sub.enc Sub.cells Grp.enc Grp.cells
theorem sizes_subs (l:List Sub):sizesOk 4 (encSubs l)=true:=by
 induction l with
 | nil=>rfl
 | cons x r ih=>simp only [encSubs,List.map_cons,sizesOk] at ih ⊢;rw [ih];rfl
theorem sizes_grps (l:List Grp):sizesOk 2 (encGrps l)=true:=by
 induction l with
 | nil=>rfl
 | cons x r ih=>simp only [encGrps,List.map_cons,sizesOk] at ih ⊢;rw [ih];rfl
theorem sizes_ints (l:List Int):sizesOk 1 (intVs l)=true:=by
 induction l with
 | nil=>rfl
 | cons x r ih=>simp only [intVs,List.map_cons,sizesOk] at ih ⊢;rw [ih];rfl
theorem subs_snoc (l:List Sub)(x:Sub):encSubs l ++ [.agg [.int .i64 x.client,.int .i64 x.broker,.int .i64 x.num,.slice (encPreds x.filter)]]=encSubs (l ++ [x]):=by simp [encSubs]
theorem grps_snoc (l:List Grp)(x:Grp):encGrps l ++ [.agg [.slice (encPreds x.filter),.slice (intVs x.clients)]]=encGrps (l ++ [x]):=by simp [encGrps]
theorem ints_snoc (l:List Int)(x:Int):intVs l ++ [.int .i64 x]=intVs (l ++ [x]):=by simp [intVs]
theorem ints_append (l m:List Int):intVs l ++ intVs m=intVs (l ++ m):=by simp [intVs]
theorem ints_take (l:List Int)(n:Nat):(intVs l).take n=intVs (l.take n):=by simp [intVs]
theorem ints_drop (l:List Int)(n:Nat):(intVs l).drop n=intVs (l.drop n):=by simp [intVs]
def layI:List Int→Int→List Int
 | [],n=>[n]
 | x :: r,n=>if x<n then x :: layI r n else if x=n then x :: r else n :: x :: r
def rising (l:List Int):Prop:=l.Pairwise (·<·)
theorem layI_mem:∀ {l:List Int} {n x:Int},x∈layI l n↔x=n∨x∈l
 | [],n,x=>by simp [layI]
 | y :: r,n,x=>by
  unfold layI
  split
  ·rw [List.mem_cons,layI_mem,List.mem_cons]
   constructor
   ·rintro (h | h | h)
    ·exact .inr (.inl h)
    ·exact .inl h
    ·exact .inr (.inr h)
   ·rintro (h | h | h)
    ·exact .inr (.inl h)
    ·exact .inl h
    ·exact .inr (.inr h)
  ·split
   ·rename_i h;subst h;simp
   ·simp
theorem layI_rising:∀ {l:List Int} {n:Int},rising l→rising (layI l n)
 | [],n,_=>by simp [layI,rising]
 | y :: r,n,h=>by
  unfold rising at h ⊢
  rw [List.pairwise_cons] at h
  unfold layI
  split
  ·rw [List.pairwise_cons]
   refine ⟨fun x hx=>?_,layI_rising h.2⟩
   rcases layI_mem.1 hx with rfl | hx
   ·assumption
   ·exact h.1 x hx
  ·split
   ·rw [List.pairwise_cons];exact h
   ·rw [List.pairwise_cons,List.pairwise_cons]
    refine ⟨fun x hx=>?_,h⟩
    rcases List.mem_cons.1 hx with rfl | hx
    ·omega
    ·have:=h.1 x hx;omega
theorem layI_len (l:List Int)(n:Int):(layI l n).length≤l.length+1:=by
 induction l with
 | nil=>simp [layI]
 | cons y r ih =>
  unfold layI
  split
  ·simp;omega
  ·split <;> simp
def posI (l:List Int)(n:Int):Nat:=(l.takeWhile fun x=>decide (x<n)).length
theorem posI_le:∀ (l:List Int)(n:Int),posI l n≤l.length
 | [],_=>by simp [posI]
 | x :: r,n=>by
  have:=posI_le r n
  unfold posI at this ⊢
  rw [List.takeWhile_cons]
  split <;> simp;omega
theorem posI_lt:∀ (l:List Int)(n:Int)(i:Nat)(x:Int),i<posI l n→l[i]?=some x→x<n
 | [],_,_,_,_,h=>by simp at h
 | y :: r,n,i,x,hi,hx=>by
  unfold posI at hi
  rw [List.takeWhile_cons] at hi
  split at hi
  ·rename_i hy
   cases i with
   | zero=>simp at hx;subst hx;simpa using hy
   | succ i=>exact posI_lt r n i x (by unfold posI;simpa using hi) (by simpa using hx)
  ·simp at hi
theorem posI_ge:∀ (l:List Int)(n:Int)(x:Int),l[posI l n]?=some x→¬ x<n
 | [],_,_,h=>by simp at h
 | y :: r,n,x,hx=>by
  unfold posI at hx
  rw [List.takeWhile_cons] at hx
  split at hx
  ·rw [List.length_cons,List.getElem?_cons_succ] at hx
   exact posI_ge r n x hx
  ·rename_i hy
   simp at hx;subst hx;simpa using hy
theorem layI_eq:∀ (l:List Int)(n:Int),layI l n=if l[posI l n]?=some n then l else l.take (posI l n) ++ [n] ++ l.drop (posI l n)
 | [],n=>by simp [layI,posI]
 | y :: r,n=>by
  have ih:=layI_eq r n
  unfold layI
  by_cases hy:y<n
  ·have hp:posI (y :: r) n=posI r n+1:=by unfold posI;rw [List.takeWhile_cons];simp [hy]
   rw [if_pos hy,hp,ih]
   simp only [List.getElem?_cons_succ,List.take_succ_cons,List.drop_succ_cons]
   split <;> rfl
  ·have hp:posI (y :: r) n=0:=by unfold posI;rw [List.takeWhile_cons];simp [hy]
   rw [if_neg hy,hp]
   simp
def fstOf (l:List Sub)(i:Nat)(s:Sub):Bool:=(l.take i).foldl (fun b t=>b && !fsame s.filter t.filter) true
def cliStep (s:Sub)(acc:List Int)(t:Sub):List Int:=if fsame s.filter t.filter then layI acc t.client else acc
def cliOf (l:List Sub)(s:Sub):List Int:=l.foldl (cliStep s) []
def gofG (l:List Sub):Nat→List Sub→List Grp→List Grp
 | _,[],out=>out
 | i,s :: r,out=>gofG l (i+1) r (if fstOf l i s then out ++ [⟨s.filter,cliOf l s⟩] else out)
def gof (l:List Sub):List Grp:=gofG l 0 l []
def matchG (A:List Attr):Nat→List Grp→List Int→List Int
 | _,[],out=>out
 | i,x :: r,out=>matchG A (i+1) r (if ftakes x.filter A then out ++ [(i:Int)] else out)
def gmatch (g:List Grp)(A:List Attr):List Int:=matchG A 0 g []
def hasI:List Int→Int→Bool
 | [],_=>false
 | x :: r,n=>if x=n then true else hasI r n
theorem hasI_iff:∀ {l:List Int} {n:Int},hasI l n=true↔n∈l
 | [],n=>by simp [hasI]
 | x :: r,n=>by
  unfold hasI
  split
  ·rename_i h;subst h;simp
  ·rename_i h
   rw [hasI_iff,List.mem_cons]
   constructor
   ·exact .inr
   ·rintro (h' | h')
    ·exact absurd h'.symm h
    ·exact h'
def subsI (l:List Int)(a:Nat)(fs:List (List Pred))(c home:Int):Nat→Int→Nat→Nat→List Sub→List Sub × Nat × Nat
 | 0,_,j,d,out=>(out,j,d)
 | n+1,num,j,d,out =>
  subsI l a fs c home n (num+1+fd l a j 2) ((filterV l a (j+1)).2.1+1) (d+(filterV l a (j+1)).2.2)
   (out ++ [⟨c,home,num+1+fd l a j 2,if fd l a (filterV l a (j+1)).2.1 6<3 then fs.getD (fd l a (filterV l a (j+1)).2.1 6).toNat [] else (filterV l a (j+1)).1⟩])
def subsO (l:List Int)(a P:Nat)(fs:List (List Pred)):Nat→Int→Nat→Nat→List Sub→List Sub × Nat × Nat
 | 0,_,j,d,out=>(out,j,d)
 | r+1,c,j,d,out =>
  subsO l a P fs r (c+1) (subsI l a fs c (fd l a j (P+1)) (fd l a (j+1) 4).toNat 0 (j+2) d out).2.1 (subsI l a fs c (fd l a j (P+1)) (fd l a (j+1) 4).toNat 0 (j+2) d out).2.2 (subsI l a fs c (fd l a j (P+1)) (fd l a (j+1) 4).toNat 0 (j+2) d out).1
def subsF (l:List Int)(a j:Nat):List (List Pred):=[(filterV l a j).1,(filterV l a (filterV l a j).2.1).1,[]]
def subsV (l:List Int)(a j P:Nat):List Sub × Nat × Nat :=
 subsO l a P (subsF l a j) 6 1 (filterV l a (filterV l a j).2.1).2.1 ((filterV l a j).2.2+(filterV l a (filterV l a j).2.1).2.2) []
theorem subsI_asks (l:List Int)(a:Nat)(fs:List (List Pred))(c home:Int):∀ (n:Nat) (num:Int) (j d:Nat) (out:List Sub),(subsI l a fs c home n num j d out).2.1≤j+36*n∧(subsI l a fs c home n num j d out).1.length=out.length+n
 | 0,_,_,_,_=>by simp [subsI]
 | n+1,num,j,d,out=>by
  simp only [subsI]
  have h1:=subsI_asks l a fs c home n (num+1+fd l a j 2) ((filterV l a (j+1)).2.1+1) (d+(filterV l a (j+1)).2.2) (out ++ [⟨c,home,num+1+fd l a j 2,if fd l a (filterV l a (j+1)).2.1 6<3 then fs.getD (fd l a (filterV l a (j+1)).2.1 6).toNat [] else (filterV l a (j+1)).1⟩])
  have h2:=filterV_asks l a (j+1)
  refine ⟨by omega,?_⟩
  rw [h1.2];simp;omega
theorem subsO_asks (l:List Int)(a P:Nat)(fs:List (List Pred)):∀ (r:Nat) (c:Int) (j d:Nat) (out:List Sub),(subsO l a P fs r c j d out).2.1≤j+110*r∧(subsO l a P fs r c j d out).1.length≤out.length+3*r
 | 0,_,_,_,_=>by simp [subsO]
 | r+1,c,j,d,out=>by
  simp only [subsO]
  have h0:=fd_bound l a (j+1) (n:=4) (by omega)
  have h1:=subsI_asks l a fs c (fd l a j (P+1)) (fd l a (j+1) 4).toNat 0 (j+2) d out
  have h2:=subsO_asks l a P fs r (c+1) (subsI l a fs c (fd l a j (P+1)) (fd l a (j+1) 4).toNat 0 (j+2) d out).2.1 (subsI l a fs c (fd l a j (P+1)) (fd l a (j+1) 4).toNat 0 (j+2) d out).2.2 (subsI l a fs c (fd l a j (P+1)) (fd l a (j+1) 4).toNat 0 (j+2) d out).1
  have h3:(fd l a (j+1) 4).toNat≤3:=by omega
  omega
theorem subsV_asks (l:List Int)(a j P:Nat):(subsV l a j P).2.1≤j+800∧(subsV l a j P).1.length≤18:=by
 unfold subsV
 have h1:=filterV_asks l a j
 have h2:=filterV_asks l a (filterV l a j).2.1
 have h3:=subsO_asks l a P (subsF l a j) 6 1 (filterV l a (filterV l a j).2.1).2.1 ((filterV l a j).2.2+(filterV l a (filterV l a j).2.1).2.2) []
 simp at h3
 omega
theorem subsI_all {Q:Sub→Prop} (l:List Int)(a:Nat)(fs:List (List Pred))(c home:Int)(hq:∀ num f,(f∈fs∨f=[]∨∃ j,f=(filterV l a j).1)→Q ⟨c,home,num,f⟩):∀ (n:Nat) (num:Int) (j d:Nat) (out:List Sub),(∀ s∈out,Q s)→∀ s∈(subsI l a fs c home n num j d out).1,Q s
 | 0,_,_,_,_,h=>h
 | n+1,num,j,d,out,h=>by
  simp only [subsI]
  refine subsI_all l a fs c home hq n _ _ _ _ fun s hs=>?_
  rcases List.mem_append.1 hs with hs | hs
  ·exact h s hs
  ·simp at hs;subst hs
   refine hq _ _ ?_
   split
   ·cases hg:fs[(fd l a (filterV l a (j+1)).2.1 6).toNat]? with
    | none=>exact .inr (.inl rfl)
    | some f=>exact .inl (zmg hg)
   ·exact .inr (.inr ⟨_,rfl⟩)
theorem subsO_all {Q:Sub→Prop} (l:List Int)(a P:Nat)(fs:List (List Pred))(hq:∀ (c home num:Int) f,1≤c→c≤6→(f∈fs∨f=[]∨∃ j,f=(filterV l a j).1)→Q ⟨c,home,num,f⟩):∀ (r:Nat) (c:Int) (j d:Nat) (out:List Sub),1≤c→c+r≤7→(∀ s∈out,Q s)→∀ s∈(subsO l a P fs r c j d out).1,Q s
 | 0,_,_,_,_,_,_,h=>h
 | r+1,c,j,d,out,h1,h2,h=>by
  simp only [subsO]
  refine subsO_all l a P fs hq r _ _ _ _ (by omega) (by omega) ?_
  exact subsI_all l a fs c _ (fun num f hf=>hq c _ num f h1 (by omega) hf) _ _ _ _ _ h
theorem subsV_all (l:List Int)(a j P:Nat):∀ s∈(subsV l a j P).1,1≤s.client∧s.client≤6∧FFV s.filter∧s.filter.length≤3:=by
 unfold subsV
 refine subsO_all (Q:=fun s=>1≤s.client∧s.client≤6∧FFV s.filter∧s.filter.length≤3) l a P _ (fun c home num f h1 h2 hf=>?_) 6 1 _ _ [] (by omega) (by omega) (by simp)
 refine ⟨h1,h2,?_⟩
 show FFV f∧f.length≤3
 rcases hf with hf | rfl | ⟨j,rfl⟩
 ·unfold subsF at hf
  simp at hf
  rcases hf with rfl | rfl | rfl
  ·exact filterV_ffv l a j
  ·exact filterV_ffv l a _
  ·exact ⟨ffv_nil,by simp⟩
 ·exact ⟨ffv_nil,by simp⟩
 ·exact filterV_ffv l a j
end Go.Ab
namespace Go.Proofs.Ytdoobejjedpcgaa
open Go Go.Ab
noncomputable section
variable (fr:Fr)(st:St)(k:Kt)
def fi48:FI:={body:=codeOf Try.f48,ntmps:=25,results:=[.tmp 2],pers:=[0,2,3,4,5],locals:=[5],pure:=true,marks:=[]}
theorem H48:fi48.marks=[]∧fi48.locals=[5]∧fi48.results=[.tmp 2]:=⟨rfl,rfl,rfl⟩
theorem fi51_eq:gS.fn 48=some fi48:=by kernel_rfl
theorem st48 (a0:V):startFr fi48 [a0]={ps:=[(0,.val a0),(2,.any),(3,.any),(4,.any),(5,.any)],ts:=[],lc:=[]}:=rfl
def b48:Code:=mini (codeOf Try.f48)
def c48_12:Code:=.cond (.tmp 9) .skip (.exit 0)
def c48_10:Code:=.seq (codeN b48 267) c48_12
def c48_21:Code:=codeN b48 3659
def c48_19:Code:=.seq (codeN b48 2635) c48_21
def c48_17:Code:=.seq (codeN b48 1099) c48_19
def c48_22:Code:=codeN b48 459
def c48_15:Code:=.seq (.block 1 c48_17) c48_22
def c48_9:Code:=.seq c48_10 c48_15
def c48_8:Code:=.loop c48_9
def c48_7:Code:=.block 0 c48_8
def c48_5:Code:=.seq (codeN b48 19) c48_7
def c48_23:Code:=.seq (codeN b48 23) .ret
def c48_4:Code:=.seq c48_5 c48_23
def c48_2:Code:=.seq (codeN b48 5) c48_4
def c48_0:Code:=.seq (codeN b48 2) c48_2
theorem E48:evK gS fi48 c48_12 fr st k=condK gS fi48 (fr.op (.tmp 9)).bool? .skip (.exit 0) fr st k ∧
 (evK gS fi48 c48_10 fr st k=opsR gS fi48 [mv 6 4 3,
 mv 7 0 29,
 len1 8 7 29 3,
 bop 9 .lss 3 6 8 3 4] fr st (.seq c48_12 k)) ∧
 (evK gS fi48 c48_21 fr st k=opsR gS fi48 [mv 20 3 29,
 ld 21 91 5 91,
 qS 22 29 21 29,
 qE 23 20 22 29 29,
 asn 3 23 29] fr st k) ∧
 (evK gS fi48 c48_19 fr st k=opsR gS fi48 [qF 16 91 5 4 0,
 ld 17 89 16 89,
 op1 18 (.call {callee:=(.builtin .append),args:=#[(.const (.slice none 0 0)),(.tmp 17)],argTypes:=#[89,89]}) 89,
 qF 19 91 5 4 0,
 sto 89 19 18] fr st (.seq c48_21 k)) ∧
 (evK gS fi48 c48_17 fr st k=opsR gS fi48 [mv 12 0 29,
 mv 13 4 3,
 ixa 14 29 12 13 0,
 ld 15 91 14 91,
 op1 5 (.alloc 91) 0,
 sto 91 5 15] fr st (.seq c48_19 k)) ∧
 (evK gS fi48 c48_22 fr st k=opsR gS fi48 [mv 10 4 3,
 qB 11 .add 3 10 1 3 3,
 asn 4 11 3] fr st k) ∧
 evK gS fi48 c48_15 fr st k=evK gS fi48 c48_17 fr st (.blk 1 (.seq c48_22 k)) ∧
 evK gS fi48 c48_9 fr st k=evK gS fi48 c48_10 fr st (.seq c48_15 k) ∧
 evK gS fi48 c48_7 fr st k=evK gS fi48 c48_8 fr st (.blk 0 k) ∧
 evK gS fi48 c48_5 fr st k=opsR gS fi48 [qI 4 0 3] fr st (.seq c48_7 k) ∧
 (evK gS fi48 c48_23 fr st k=opsR gS fi48 [mv 24 3 29,
 asn 2 24 29] fr st (.seq .ret k)) ∧
 evK gS fi48 c48_4 fr st k=evK gS fi48 c48_5 fr st (.seq c48_23 k) ∧
 evK gS fi48 c48_2 fr st k=opsR gS fi48 [qN 3 29] fr st (.seq c48_4 k) ∧
 evK gS fi48 c48_0 fr st k=opsR gS fi48 [qN 2 29] fr st (.seq c48_2 k):=⟨rfl,evK_rs 3 rfl (by kernel_rfl),evK_r 7 (by kernel_rfl),evK_rs 6 rfl (by kernel_rfl),evK_rs 5 rfl (by kernel_rfl),evK_r 4 (by kernel_rfl),rfl,rfl,rfl,evK_rs 2 rfl (by kernel_rfl),evK_rs 8 rfl (by kernel_rfl),rfl,evK_rs 1 rfl (by kernel_rfl),evK_rs 0 rfl (by kernel_rfl)⟩
theorem m48:mini fi48.body=c48_0:=by kernel_rfl
theorem n48_8 (fr:Fr)(st:St)(k:Kt):nextK gS fi48 (.loop c48_9 k) .normal fr st=evK gS fi48 c48_8 fr st k:=rfl
theorem preds_snoc (l:List Pred)(x:Pred):encPreds l ++ [.agg [.str x.name,.int .i64 x.test,.int .i64 x.v.kind,.int .i64 x.v.n,.float .f64 x.v.x,.str x.v.s,.bool x.v.b,.int .i64 x.w.kind,.int .i64 x.w.n,.float .f64 x.w.x,.str x.w.s,.bool x.w.b,.slice (encVals x.set)]]=encPreds (l ++ [x]):=by simp [encPreds]
def kof {α:Type} (k:Nat)(l:List α):Nat:=if l=[] then 0 else k
theorem L48 (f:List Pred)(h_f:PSm f)(st:St):∀ (n i:Nat) (e5:E) (T:List (Nat × E)) (X:List (Nat × List V)) (ht5:e5.Tame),i≤f.length→f.length - i=n →
  evK gS fi48 c48_8 {ps:=[(0,.val (.slice (encPreds f))),(2,.own 0 []),(3,.own (kof 13 (f.take i)) (encPreds (f.take i))),(4,.val (.int .i64 i)),(5,e5)],ts:=T,lc:=X} st (.blk 0 (.seq c48_23 .nil))=some (.ret (.slice (encPreds f)) (some (kof 13 f)),st):=by
 intro n
 have hfl:=h_f.1
 induction n with
 | zero =>
  intro i e5 T X ht5 hi hn
  obtain rfl:i=f.length:=by omega
  refine evK_loop c48_9 _ _ _ _ rfl ?_
  rw [List.take_length]
  by_cases hfe:f=[]
  ·subst hfe
   simp [ht5,kof,encPreds,-zil,-zit,-znl,-znt,ty3,ty4,ty29,ty89,ty91,H48,E48,n48_8]
  ·have hk:kof 13 f=13:=by unfold kof;rw [if_neg hfe]
   rw [hk]
   simp [ht5,-zil,-zit,-znl,-znt,ty3,ty4,ty29,ty89,ty91,H48,E48,n48_8]
 | succ n ih =>
  intro i e5 T X ht5 hi hn
  obtain ⟨x,hx⟩  := qgx (l:=f) (i:=i) (by omega)
  have hlt:(i:Int)<(f.length:Int):=by omega
  have hlt2:i<f.length:=by omega
  have hxe:f[i]'hlt2=x:=by rw [zge hlt2] at hx;exact Option.some.inj hx
  have hw  := qws i (by omega)
  have hxs:=(h_f.2 x (zmg hx)).2
  have hxs2:x.set.length≤140737488355328:=by omega
  have htk:f.take (i+1)=f.take i ++ [x]:=by rw [List.take_succ_eq_append_getElem hlt2,hxe]
  have IH:=fun e5 T X ht5=>ih (i+1) e5 T X ht5 (by omega) (by omega)
  have hk1:kof 13 (f.take (i+1))=13:=by rw [htk];simp [kof]
  rw [hk1,htk] at IH
  have hsv:=sizes_vals x.set
  have hsp:=sizes_preds (f.take i)
  have hsn:=preds_snoc (f.take i) x
  have hln:(f.take i).length=i:=by simp;omega
  have b1:(i+1)*144≤140737488355328:=by omega
  have b2:i+1≤140737488355328:=by omega
  have hk0:kof 13 (f.take i)=0∧f.take i=[]∨kof 13 (f.take i)=13:=by
   unfold kof;split
   ·exact .inl ⟨rfl,by assumption⟩
   ·exact .inr rfl
  refine evK_loop c48_9 _ _ _ _ rfl ?_
  generalize hF:f.take i=F at *
  rcases hk0 with ⟨h1,h2⟩ | h1
  ·rw [h1,h2]
   rw [h2] at IH
   have hi0:i=0:=by rw [← hln,h2];rfl
   have hsn0:encPreds [x]=[.agg [.str x.name,.int .i64 x.test,.int .i64 x.v.kind,.int .i64 x.v.n,.float .f64 x.v.x,.str x.v.s,.bool x.v.b,.int .i64 x.w.kind,.int .i64 x.w.n,.float .f64 x.w.x,.str x.w.s,.bool x.w.b,.slice (encVals x.set)]]:=rfl
   rw [List.nil_append,hsn0] at IH
   have en:encPreds []=[]:=rfl
   simp [-zia,en,ht5,hx,hxe,hlt,hlt2,hw,hxs,hxs2,hsv,-zil,-zit,-znl,-znt,ty3,ty4,ty29,ty89,ty91,H48,E48,n48_8]
   exact IH _ _ _ rfl
  ·rw [h1]
   simp [-zia,ht5,hx,hxe,hlt,hlt2,hw,hxs,hxs2,hsv,hsp,hsn,hln,b1,b2,IH,-zil,-zit,-znl,-znt,ty3,ty4,ty29,ty89,ty91,H48,E48,n48_8]
theorem c48 (f:List Pred)(h_f:PSm f)(st:St):EvF gS 48 [.slice (encPreds f)] st=some (.ret (.slice (encPreds f)) (some (kof 13 f)),st):=by
 refine EvF_start fi51_eq (fun x h=>by cases h) m48 ?_
 rw [st48]
 have L0:=fun e5 T X ht5=>L48 f h_f st f.length 0 e5 T X ht5 (Nat.zero_le _) rfl
 simp only [show ((0:Nat):Int)=0 from rfl,List.take_zero,show kof 13 ([]:List Pred)=0 from rfl,show encPreds []=[] from rfl] at L0
 simp [L0,-zil,-zit,-znl,-znt,ty3,ty4,ty29,ty89,ty91,H48,E48,n48_8]
theorem k48 (f:List Pred)(h_f:PSm f)(fr:Fr)(st:St):callStep gS (EvF gS) 48 [.slice (encPreds f)] fr st=some (.ok (.own (kof 13 f) (encPreds f)) fr st) :=
 call_pure rfl fi51_eq rfl (fun st=>c48 f h_f st) (by simp [V.flat])
theorem psm_right {f:List Pred} (h:∀ p∈f,pright p=true)(hl:f.length≤1000000):PSm f:=by
 refine ⟨hl,fun p hp=>?_⟩
 have hr:=h p hp
 refine ⟨(ok_of_right hr).1,?_⟩
 unfold pright at hr
 split at hr
 ·repeat' split at hr
  all_goals first
   | (simp only [Bool.and_eq_true,decide_eq_true_eq] at hr;omega)
   | cases hr
 ·cases hr
theorem psm_ffv {f:List Pred} (h:FFV f∧f.length≤3):PSm f:=psm_right h.1.right (by omega)
theorem kof_snoc {α:Type} (k:Nat)(l:List α)(x:α):kof k (l ++ [x])=k:=by unfold kof;rw [if_neg (by simp)]
theorem kof_or {α:Type} (k:Nat)(l:List α):kof k l=0∧l=[]∨kof k l=k:=by
 unfold kof;split
 ·exact .inl ⟨rfl,by assumption⟩
 ·exact .inr rfl
theorem frz_slice {xs:List V} (h:flats xs=true)(st:St):frz 6 st (.slice xs)=some (.slice xs,st):=frz_flat 6 st _ (by simpa [V.flat] using h)
def fi51:FI:={body:=codeOf Try.f51,ntmps:=46,results:=[.tmp 4],pers:=[0,1,4,5,6],locals:=[],pure:=true,marks:=[1000000]}
theorem H51:fi51.marks=[1000000]∧fi51.locals=[]∧fi51.results=[.tmp 4]:=⟨rfl,rfl,rfl⟩
theorem fi95_eq:gS.fn 51=some fi51:=by kernel_rfl
theorem st51 (a0 a1:V):startFr fi51 [a0,a1]={ps:=[(0,.val a0),(1,.val a1),(4,.any),(5,.any),(6,.any)],ts:=[],lc:=[]}:=rfl
def b51:Code:=mini (codeOf Try.f51)
def c51_10:Code:=.cond (.tmp 18) .skip (.exit 0)
def c51_8:Code:=.seq (codeN b51 131) c51_10
def c51_14:Code:=codeN b51 163
def c51_13:Code:=.block 1 c51_14
def c51_7:Code:=.seq c51_8 c51_13
def c51_6:Code:=.loop c51_7
def c51_19:Code:=.seq (codeN b51 151) .ret
def c51_18:Code:=.cond (.tmp 32) c51_19 .skip
def c51_16:Code:=.seq (codeN b51 39) c51_18
def r51_26:Array Oper:=regOps (codeN (codeOf Try.f51) 95)
def c51_26:Code:=.region 7 r51_26 true
def q51_26:List (Oper × Fl):=[(mv 38 6 22,qz0),
 (mv 39 1 3,qz0),
 (qS 40 22 39 22,qz0),
 (qE 41 38 40 22 22,qz8),
 (mv 42 0 22,qz9),
 (mv 43 5 3,qz10),
 (op1 44 (.slice 22 (.tmp 42) (some (.tmp 43)) none none) 22,qz10),
 (qE 45 41 44 22 22,qz6),
 (asn 4 45 22,qz1)]
def c51_25:Code:=.seq c51_26 .ret
def c51_23:Code:=.seq (codeN b51 47) c51_25
def c51_15:Code:=.seq c51_16 c51_23
theorem e51_15:evK gS fi51 c51_15 fr st k=evK gS fi51 c51_16 fr st (.seq c51_23 k):=rfl
def c51_4:Code:=.seq (.block 0 c51_6) c51_15
def c51_2:Code:=.seq (codeN b51 5) c51_4
def c51_0:Code:=.seq (codeN b51 2) c51_2
theorem E51:evK gS fi51 c51_10 fr st k=condK gS fi51 (fr.op (.tmp 18)).bool? .skip (.exit 0) fr st k ∧
 (evK gS fi51 c51_8 fr st k=opsR gS fi51 [mv 7 5 3,
 mv 8 0 22,
 len1 9 8 22 3,
 bop 10 .lss 3 7 9 3 4,
 mv 11 10 4,
 qm 12 0 22 4 true,
 qm 13 5 3 4 true,
 qi 14 22 12 13 0 4 true,
 ql 15 3 14 3 4 true,
 qm 16 1 3 4 true,
 qb 17 .lss 3 15 16 3 4 4 true,
 qP 18 11 17 false 4] fr st (.seq c51_10 k)) ∧
 (evK gS fi51 c51_14 fr st k=opsR gS fi51 [mv 19 5 3,
 qB 20 .add 3 19 1 3 3,
 asn 5 20 3] fr st k) ∧
 evK gS fi51 c51_13 fr st k=evK gS fi51 c51_14 fr st (.blk 1 k) ∧
 evK gS fi51 c51_7 fr st k=evK gS fi51 c51_8 fr st (.seq c51_13 k) ∧
 (evK gS fi51 c51_19 fr st k=opsR gS fi51 [mv 33 0 22,
 asn 4 33 22] fr st (.seq .ret k)) ∧
 evK gS fi51 c51_18 fr st k=condK gS fi51 (fr.op (.tmp 32)).bool? c51_19 .skip fr st k ∧
 (evK gS fi51 c51_16 fr st k=opsR gS fi51 [mv 21 5 3,
 mv 22 0 22,
 len1 23 22 22 3,
 bop 24 .lss 3 21 23 3 4,
 mv 25 24 4,
 qm 26 0 22 4 true,
 qm 27 5 3 4 true,
 qi 28 22 26 27 0 4 true,
 ql 29 3 28 3 4 true,
 qm 30 1 3 4 true,
 qb 31 .eql 3 29 30 3 4 4 true,
 qP 32 25 31 false 4] fr st (.seq c51_18 k)) ∧
 evK gS fi51 c51_26 fr st k=drwR gS fi51 r51_26 q51_26 fr st k ∧
 evK gS fi51 c51_25 fr st k=evK gS fi51 c51_26 fr st (.seq .ret k) ∧
 (evK gS fi51 c51_23 fr st k=opsR gS fi51 [mv 34 0 22,
 mv 35 5 3,
 op1 36 (.slice 22 (.tmp 34) none (some (.tmp 35)) none) 22,
 op1 37 (.call {callee:=(.builtin .append),args:=#[(.const (.slice none 0 0)),(.tmp 36)],argTypes:=#[22,22]}) 22,
 asn 6 37 22] fr st (.seq c51_25 k)) ∧
 evK gS fi51 c51_4 fr st k=evK gS fi51 c51_6 fr st (.blk 0 (.seq c51_15 k)) ∧
 evK gS fi51 c51_2 fr st k=opsR gS fi51 [qI 5 0 3] fr st (.seq c51_4 k) ∧
 evK gS fi51 c51_0 fr st k=opsR gS fi51 [qN 4 22] fr st (.seq c51_2 k):=⟨rfl,evK_rs 2 rfl (by kernel_rfl),evK_r 3 (by kernel_rfl),rfl,rfl,evK_rs 5 rfl (by kernel_rfl),rfl,evK_rs 4 rfl (by kernel_rfl),evK_dr 7 rfl (by kernel_rfl) (by kernel_rfl),rfl,evK_rs 6 rfl (by kernel_rfl),rfl,evK_rs 1 rfl (by kernel_rfl),evK_rs 0 rfl (by kernel_rfl)⟩
theorem m51:mini fi51.body=c51_0:=by kernel_rfl
theorem n51_6 (fr:Fr)(st:St)(k:Kt):nextK gS fi51 (.loop c51_7 k) .normal fr st=evK gS fi51 c51_6 fr st k:=rfl
theorem bl1:borOk r51_26 0 6 38=true:=by kernel_rfl
theorem bl2:handOk r51_26 8 45=true:=by kernel_rfl
theorem L51 (l:List Int)(hl1:l.length<1000000)(n0:Int)(st:St)(X:List (Nat × List V))(R:Out × St)
  (H:∀ T,evK gS fi51 c51_15 {ps:=[(0,.val (.slice (intVs l))),(1,.val (.int .i64 n0)),(4,.own 0 []),(5,.val (.int .i64 (posI l n0:Nat))),(6,.any)],ts:=T,lc:=X} st .nil=some R) :
  ∀ (m i:Nat) (T:List (Nat × E)),i≤posI l n0→posI l n0 - i=m→evK gS fi51 c51_6 {ps:=[(0,.val (.slice (intVs l))),(1,.val (.int .i64 n0)),(4,.own 0 []),(5,.val (.int .i64 (i:Nat))),(6,.any)],ts:=T,lc:=X} st (.blk 0 (.seq c51_15 .nil))=some R:=by
 intro m
 have hpl:=posI_le l n0
 induction m with
 | zero =>
  intro i T hi hm2
  obtain rfl:i=posI l n0:=by omega
  refine evK_loop c51_7 _ _ _ _ rfl ?_
  cases hx:l[posI l n0]? with
  | none =>
   have h1:¬ ((posI l n0:Nat):Int)<(l.length:Int):=by rw [List.getElem?_eq_none_iff] at hx;omega
   simp [-zia,h1,H,-zil,-zit,-znl,-znt,ty3,ty4,ty22,H51,E51,q51_26,n51_6]
  | some x =>
   obtain ⟨h2,h3⟩:=List.getElem?_eq_some_iff.1 hx
   have h1:((posI l n0:Nat):Int)<(l.length:Int):=by omega
   have h4:=posI_ge l n0 x hx
   simp [-zia,h1,h2,h3,h4,hx,H,-zil,-zit,-znl,-znt,ty3,ty4,ty22,H51,E51,q51_26,n51_6]
 | succ m ih =>
  intro i T hi hm2
  have h2:i<l.length:=by omega
  obtain ⟨x,hx⟩:∃ x,l[i]?=some x:=⟨l[i]'h2,zge h2⟩
  have h3:l[i]'h2=x:=(List.getElem?_eq_some_iff.1 hx).2
  have h1:(i:Int)<(l.length:Int):=by omega
  have h4:=posI_lt l n0 i x (by omega) hx
  have hw  := qws i (by omega)
  have IH:=fun T=>ih (i+1) T (by omega) (by omega)
  refine evK_loop c51_7 _ _ _ _ rfl ?_
  simp [-zia,h1,h2,h3,h4,hx,hw,IH,-zil,-zit,-znl,-znt,ty3,ty4,ty22,H51,E51,q51_26,n51_6]
theorem c51 (l:List Int)(hl1:l.length<1000000)(n0:Int)(st:St):EvF gS 51 [.slice (intVs l),.int .i64 n0] st=some (.ret (.slice (intVs (layI l n0))) none,st):=by
 refine EvF_start fi95_eq (fun x h=>by cases h) m51 ?_
 rw [st51]
 have hpl:=posI_le l n0
 have hz:=fun xs st=>frz_slice (xs:=intVs xs) (flats_ints xs) st
 generalize hR:(Out.ret (V.slice (intVs (layI l n0))) none,st)=R
 have LL:=fun X H T=>L51 l hl1 n0 st X R H (posI l n0) 0 T (Nat.zero_le _) rfl
 rw [show ((0:Nat):Int)=0 from rfl] at LL
 simp [-zia,-zil,-zit,-znl,-znt,ty3,ty4,ty22,H51,E51,q51_26,e51_15,n51_6,bl1,bl2]
 refine LL _ (fun T=>?_) _
 clear LL
 subst hR
 rw [layI_eq]
 generalize posI l n0=p at *
 have hp0:(0:Int)≤(p:Int):=by omega
 have hp1:(p:Int)≤(l.length:Int):=by omega
 have hsi:=sizes_ints
 have e0:(intVs l).take l.length=intVs l:=List.take_of_length_le (by simp)
 have e1:=ints_take l p
 have e2:=ints_drop l p
 have e3:=ints_snoc (l.take p) n0
 have e4:=ints_append (l.take p ++ [n0]) (l.drop p)
 have e5:(l.drop p).length=l.length - p:=by simp
 have e6:(l.take p).length=p:=by simp;omega
 have b1:p*8≤140737488355328:=by omega
 have b2:p≤140737488355328:=by omega
 have b3:(p+1)*8≤140737488355328:=by omega
 have b4:p+1≤140737488355328:=by omega
 have b5:(p+1+(l.length - p))*8≤140737488355328:=by omega
 have b6:p+1+(l.length - p)≤140737488355328:=by omega
 cases hx:l[p]? with
 | none =>
  have h1:¬ (p:Int)<(l.length:Int):=by rw [List.getElem?_eq_none_iff] at hx;omega
  simp [-zia,-zaa,h1,hz,hp0,hp1,hsi,e0,e1,e2,e3,e4,e5,e6,b1,b2,b3,b4,b5,b6,-zil,-zit,-znl,-znt,ty3,ty4,ty22,H51,E51,q51_26,e51_15,n51_6,bl1,bl2]
 | some x =>
  obtain ⟨h2,h3⟩:=List.getElem?_eq_some_iff.1 hx
  have h1:(p:Int)<(l.length:Int):=by omega
  by_cases h4:x=n0
  ·subst h4
   simp [-zia,h1,h2,h3,hx,hz,-zil,-zit,-znl,-znt,ty3,ty4,ty22,H51,E51,q51_26,e51_15,n51_6,bl1,bl2]
  ·simp [-zia,-zaa,h1,h2,h3,h4,hx,hz,hp0,hp1,hsi,e0,e1,e2,e3,e4,e5,e6,b1,b2,b3,b4,b5,b6,-zil,-zit,-znl,-znt,ty3,ty4,ty22,H51,E51,q51_26,e51_15,n51_6,bl1,bl2]
theorem k51 (l:List Int)(hl1:l.length<1000000)(n0:Int)(fr:Fr)(st:St):callStep gS (EvF gS) 51 [.slice (intVs l),.int .i64 n0] fr st=some (.ok (.val (.slice (intVs (layI l n0)))) fr st) :=
 call_pure rfl fi95_eq rfl (fun st=>c51 l hl1 n0 st) (by simp [V.flat])
def fi57:FI:={body:=codeOf Try.f57,ntmps:=17,results:=[.tmp 4],pers:=[0,1,4,6,7,8,9],locals:=[],pure:=true,marks:=[]}
theorem H57:fi57.marks=[]∧fi57.locals=[]∧fi57.results=[.tmp 4]:=⟨rfl,rfl,rfl⟩
theorem fi98_eq:gS.fn 57=some fi57:=by kernel_rfl
theorem st57 (a0 a1:V):startFr fi57 [a0,a1]={ps:=[(0,.val a0),(1,.val a1),(4,.any),(6,.any),(7,.any),(8,.any),(9,.any)],ts:=[],lc:=[]}:=rfl
def b57:Code:=mini (codeOf Try.f57)
def c57_20:Code:=.seq (codeN b57 9829) .ret
def c57_19:Code:=.cond (.tmp 15) c57_20 .skip
def c57_17:Code:=.seq (codeN b57 2661) c57_19
def c57_15:Code:=.seq (codeN b57 1125) c57_17
def c57_24:Code:=codeN b57 485
def c57_13:Code:=.seq (.block 1 c57_15) c57_24
def c57_9:Code:=.seq (.cond (.tmp 10) .skip (.exit 0)) c57_13
def c57_7:Code:=.seq (codeN b57 69) c57_9
def c57_6:Code:=.loop c57_7
def c57_5:Code:=.block 0 c57_6
def c57_3:Code:=.seq (codeN b57 9) c57_5
def c57_25:Code:=.seq (codeN b57 11) .ret
def c57_2:Code:=.seq c57_3 c57_25
def c57_0:Code:=.seq (codeN b57 2) c57_2
theorem E57:evK gS fi57 c57_20 fr st k=opsR gS fi57 [qA 4 true 4] fr st (.seq .ret k) ∧
 evK gS fi57 c57_19 fr st k=condK gS fi57 (fr.op (.tmp 15)).bool? c57_20 .skip fr st k ∧
 (evK gS fi57 c57_17 fr st k=opsR gS fi57 [mv 13 6 3,
 mv 14 1 3,
 bop 15 .eql 3 13 14 3 4] fr st (.seq c57_19 k)) ∧
 (evK gS fi57 c57_15 fr st k=opsR gS fi57 [ixa 11 22 7 9 0,
 ld 12 3 11 3,
 asn 6 12 3] fr st (.seq c57_17 k)) ∧
 (evK gS fi57 c57_24 fr st k=opsR gS fi57 [qB 16 .add 3 9 1 3 3,
 mv 9 16 3] fr st k) ∧
 evK gS fi57 c57_13 fr st k=evK gS fi57 c57_15 fr st (.blk 1 (.seq c57_24 k)) ∧
 evK gS fi57 c57_9 fr st k=condK gS fi57 (fr.op (.tmp 10)).bool? .skip (.exit 0) fr st (.seq c57_13 k) ∧
 evK gS fi57 c57_7 fr st k=opsR gS fi57 [bop 10 .lss 3 9 8 3 0] fr st (.seq c57_9 k) ∧
 evK gS fi57 c57_5 fr st k=evK gS fi57 c57_6 fr st (.blk 0 k) ∧
 (evK gS fi57 c57_3 fr st k=opsR gS fi57 [mv 7 0 22,
 len1 8 7 22 3,
 op1 9 (.move (.const (.int .i64 0))) 3] fr st (.seq c57_5 k)) ∧
 evK gS fi57 c57_25 fr st k=opsR gS fi57 [qA 4 false 4] fr st (.seq .ret k) ∧
 evK gS fi57 c57_2 fr st k=evK gS fi57 c57_3 fr st (.seq c57_25 k) ∧
 evK gS fi57 c57_0 fr st k=opsR gS fi57 [qA 4 false 4] fr st (.seq c57_2 k):=⟨evK_rs 5 rfl (by kernel_rfl),rfl,evK_rs 4 rfl (by kernel_rfl),evK_rs 3 rfl (by kernel_rfl),evK_r 6 (by kernel_rfl),rfl,rfl,evK_rs 2 rfl (by kernel_rfl),rfl,evK_rs 1 rfl (by kernel_rfl),evK_rs 7 rfl (by kernel_rfl),rfl,evK_rs 0 rfl (by kernel_rfl)⟩
theorem m57:mini fi57.body=c57_0:=by kernel_rfl
theorem n57_6 (fr:Fr)(st:St)(k:Kt):nextK gS fi57 (.loop c57_7 k) .normal fr st=evK gS fi57 c57_6 fr st k:=rfl
theorem L57_6 (l:List Int)(n0:Int)(h_l:l.length<4611686018427387904)(st:St):∀ (n i:Nat) (j:Int)  (e0 e6:E) (T:List (Nat × E)) (X:List (Nat × List V)) (ht0:e0.Tame) (ht6:e6.Tame) ,j=(i:Int)→i≤(l).length→(l).length - i=n →
  evK gS fi57 c57_6 {ps:=[(0,e0),(1,.val (.int .i64 n0)),(4,.val (.bool false)),(6,e6),(7,.val (.slice (intVs l))),(8,.val (.int .i64 l.length)),(9,.val (.int .i64 j))],ts:=T,lc:=X} st (.blk 0 (.seq c57_25 .nil))=some ((.ret (.bool (hasI (l.drop i) n0)) none),st):=by
 intro n
 induction n with
 | zero =>
  intro i j  e0 e6 T X ht0 ht6  hj hi hn
  obtain rfl:i=(l).length:=by omega
  subst hj
  refine evK_loop c57_7 _ st _ _ rfl ?_
  simp (config:={contextual:=true,maxSteps:=10000000,maxDischargeDepth:=6}) [-zil,-zit,-znl,-znt,ty3,ty4,ty22,H57,E57,n57_6,ht0,ht6]
  all_goals try simp (config:={contextual:=true}) [-zil,-zit,-znl,-znt,hasI]
  all_goals first | done | grind | omega
 | succ n ih =>
  intro i j  e0 e6 T X ht0 ht6  hj hi hn
  subst hj
  obtain ⟨x,hx⟩  := qgx (l:=(l)) (i:=i) (by omega)
  have hd:=drop_get hx
  have hlt:(i:Int)<((l).length:Int):=by omega
  have hlt2:i<(l).length:=by omega
  have hxe:(l)[i]'hlt2=x:=by rw [zge hlt2] at hx;exact Option.some.inj hx
  have hw:IntKind.wrap .i64 ((i:Int)+1)=(i:Int)+1:=wrap64 (by omega) (by omega)
  have IH:=fun e0 e6 T X ht0 ht6=>ih (i+1) ((i:Int)+1) e0 e6 T X ht0 ht6 rfl (by omega) (by omega)
  refine evK_loop c57_7 _ st _ _ rfl ?_
  simp (config:={contextual:=true,maxSteps:=10000000,maxDischargeDepth:=6}) [-zil,-zit,-znl,-znt,ty3,ty4,ty22,H57,E57,n57_6,ht0,ht6,hx,hxe,hd,hlt,hlt2,hw,IH]
  all_goals try simp (config:={contextual:=true}) [-zil,-zit,-znl,-znt,hasI]
  all_goals first | done | grind | omega
theorem c57 (l:List Int)(n0:Int)  (h_l:l.length<4611686018427387904) (st:St):EvF gS 57 [.slice (intVs l),.int .i64 n0] st=some (.ret (.bool (hasI l n0)) none,st):=by
 refine EvF_start fi98_eq (fun x h=>by cases h) m57 ?_
 rw [st57]
 simp (config:={contextual:=true,maxSteps:=10000000,maxDischargeDepth:=6}) [-zil,-zit,-znl,-znt,ty3,ty4,ty22,H57,E57,n57_6,(fun e0 e6 T X ht0 ht6=>L57_6 l n0 h_l st _ 0 0  e0 e6 T X ht0 ht6 rfl (Nat.zero_le _) rfl),h_l]
 all_goals try simp (config:={contextual:=true}) [-zil,-zit,-znl,-znt,hasI]
 all_goals first | done | grind | omega
theorem k57 (l:List Int)(n0:Int)  (h_l:l.length<4611686018427387904) (fr:Fr) (st:St):callStep gS (EvF gS) 57 [.slice (intVs l),.int .i64 n0] fr st=some (.ok (retE none (.bool (hasI l n0))) fr st) :=
 call_pure rfl fi98_eq rfl (fun st=>c57 l n0 h_l st) (by simp)
def OutE (e:E)(l:List Int):Prop:=(e=.own 0 []∧l=[])∨e=.val (.slice (intVs l))
theorem k50 (f:List Pred)(h_f:PSm f)(fr:Fr)(st:St):callStep gS (EvF gS) 50 [.slice (encPreds f)] fr st=some (.ok (.val (.slice (encPreds f))) fr st) :=
 call_pure' rfl fi45_eq rfl (by simp [flats,V.flat]) (c50 f h_f ⟨[],0⟩ (Nat.le_refl _)) (by simp [V.flat])
def CLo (v:V)(l:List Int):Prop:=(v=.osl 0 []∧l=[])∨v=.slice (intVs l)
def fi12:FI:={body:=codeOf Try.f12,ntmps:=67,results:=[.tmp 2],pers:=[0,2,3,4,5,6,8,9,11,12,13,14,21,22,23,43,44,45],locals:=[5,8,9,11],pure:=false,marks:=[1000000]}
theorem H12:fi12.marks=[1000000]∧fi12.locals=[5,8,9,11]∧fi12.results=[.tmp 2]:=⟨rfl,rfl,rfl⟩
theorem fi54_eq:gS.fn 12=some fi12:=by kernel_rfl
theorem st12 (a0:V):startFr fi12 [a0]={ps:=[(0,.val a0),(2,.any),(3,.any),(4,.any),(5,.any),(6,.any),(8,.any),(9,.any),(11,.any),(12,.any),(13,.any),(14,.any),(21,.any),(22,.any),(23,.any),(43,.any),(44,.any),(45,.any)],ts:=[],lc:=[]}:=rfl
def b12:Code:=mini (codeOf Try.f12)
def c12_36:Code:=codeN b12 3353803
def c12_34:Code:=.seq (codeN b12 2305227) c12_36
def c12_37:Code:=codeN b12 994507
def c12_32:Code:=.seq (.block 3 c12_34) c12_37
def c12_28:Code:=.seq (.cond (.tmp 24) .skip (.exit 2)) c12_32
def c12_26:Code:=.seq (codeN b12 142539) c12_28
def c12_25:Code:=.loop c12_26
def c12_24:Code:=.block 2 c12_25
def c12_22:Code:=.seq (codeN b12 19659) c12_24
def c12_41:Code:=.cond (.tmp 38) (.exit 1) .skip
def c12_39:Code:=.seq (codeN b12 40139) c12_41
def c12_64:Code:=codeN b12 93945035
def c12_63:Code:=.cond (.tmp 53) c12_64 .skip
def c12_61:Code:=.seq (codeN b12 43613387) c12_63
def c12_59:Code:=.seq (codeN b12 18447563) c12_61
def c12_66:Code:=codeN b12 7961803
def c12_57:Code:=.seq (.block 5 c12_59) c12_66
def c12_53:Code:=.seq (.cond (.tmp 46) .skip (.exit 4)) c12_57
def c12_51:Code:=.seq (codeN b12 1146059) c12_53
def c12_50:Code:=.loop c12_51
def c12_49:Code:=.block 4 c12_50
def c12_47:Code:=.seq (codeN b12 163019) c12_49
def c12_67:Code:=codeN b12 130251
theorem e12_67:evK gS fi12 c12_67 fr st k=opsR gS fi12 [mv 61 3 32,
 ld 62 39 9 39,
 qS 63 32 62 32,
 qE 64 61 63 32 32,
 asn 3 64 32] fr st k:=evK_r 19 (by kernel_rfl)
def c12_46:Code:=.seq c12_47 c12_67
def c12_44:Code:=.seq (codeN b12 48331) c12_46
def c12_38:Code:=.seq c12_39 c12_44
theorem e12_38:evK gS fi12 c12_38 fr st k=evK gS fi12 c12_39 fr st (.seq c12_44 k):=rfl
def c12_21:Code:=.seq c12_22 c12_38
def c12_19:Code:=.seq (codeN b12 5323) c12_21
def c12_17:Code:=.seq (codeN b12 2251) c12_19
def c12_68:Code:=codeN b12 971
def c12_15:Code:=.seq (.block 1 c12_17) c12_68
def c12_11:Code:=.seq (.cond (.tmp 15) .skip (.exit 0)) c12_15
def c12_9:Code:=.seq (codeN b12 139) c12_11
def c12_8:Code:=.loop c12_9
def c12_7:Code:=.block 0 c12_8
def c12_5:Code:=.seq (codeN b12 19) c12_7
def c12_69:Code:=.seq (codeN b12 23) .ret
def c12_4:Code:=.seq c12_5 c12_69
def c12_2:Code:=.seq (codeN b12 5) c12_4
def c12_0:Code:=.seq (codeN b12 2) c12_2
theorem E12:(evK gS fi12 c12_36 fr st k=opsR gS fi12 [mv 27 6 4,
 mv 28 27 4,
 qf 29 31 5 3 0 1 true,
 ql 30 29 29 29 1 true,
 qf 31 31 8 3 0 1 true,
 ql 32 29 31 29 1 true,
 mk (some 33) (.call {callee:=(.value (.func 49)),args:=#[(.tmp 30),(.tmp 32)],argTypes:=#[29,29]}) 4 (some (1,true)),
 mk (some 34) (.unOp .not 4 (.tmp 33)) 4 (some (1,true)),
 qP 35 28 34 false 4,
 asn 6 35 4] fr st k) ∧
 (evK gS fi12 c12_34 fr st k=opsR gS fi12 [ixa 25 26 21 23 0,
 ld 26 31 25 31,
 op1 8 (.alloc 31) 0,
 sto 31 8 26] fr st (.seq c12_36 k)) ∧
 (evK gS fi12 c12_37 fr st k=opsR gS fi12 [qB 36 .add 3 23 1 3 3,
 mv 23 36 3] fr st k) ∧
 evK gS fi12 c12_32 fr st k=evK gS fi12 c12_34 fr st (.blk 3 (.seq c12_37 k)) ∧
 evK gS fi12 c12_28 fr st k=condK gS fi12 (fr.op (.tmp 24)).bool? .skip (.exit 2) fr st (.seq c12_32 k) ∧
 evK gS fi12 c12_26 fr st k=opsR gS fi12 [bop 24 .lss 3 23 22 3 0] fr st (.seq c12_28 k) ∧
 evK gS fi12 c12_24 fr st k=evK gS fi12 c12_25 fr st (.blk 2 k) ∧
 (evK gS fi12 c12_22 fr st k=opsR gS fi12 [mv 19 0 26,
 mv 20 4 3,
 op1 21 (.slice 26 (.tmp 19) none (some (.tmp 20)) none) 26,
 len1 22 21 26 3,
 op1 23 (.move (.const (.int .i64 0))) 3] fr st (.seq c12_24 k)) ∧
 evK gS fi12 c12_41 fr st k=condK gS fi12 (fr.op (.tmp 38)).bool? (.exit 1) .skip fr st k ∧
 (evK gS fi12 c12_39 fr st k=opsR gS fi12 [mv 37 6 4,
 op1 38 (.unOp .not 4 (.tmp 37)) 4] fr st (.seq c12_41 k)) ∧
 (evK gS fi12 c12_64 fr st k=opsR gS fi12 [qF 54 39 9 1 0,
 ld 55 22 54 22,
 qF 56 31 11 0 0,
 ld 57 3 56 3,
 cal 58 51 [(.tmp 55),(.tmp 57)] [22,3] 22,
 qF 59 39 9 1 0,
 sto 22 59 58] fr st k) ∧
 evK gS fi12 c12_63 fr st k=condK gS fi12 (fr.op (.tmp 53)).bool? c12_64 .skip fr st k ∧
 (evK gS fi12 c12_61 fr st k=opsR gS fi12 [qF 49 31 5 3 0,
 ld 50 29 49 29,
 qF 51 31 11 3 0,
 ld 52 29 51 29,
 cal 53 49 [(.tmp 50),(.tmp 52)] [29,29] 4] fr st (.seq c12_63 k)) ∧
 (evK gS fi12 c12_59 fr st k=opsR gS fi12 [ixa 47 26 43 45 0,
 ld 48 31 47 31,
 op1 11 (.alloc 31) 0,
 sto 31 11 48] fr st (.seq c12_61 k)) ∧
 (evK gS fi12 c12_66 fr st k=opsR gS fi12 [qB 60 .add 3 45 1 3 3,
 mv 45 60 3] fr st k) ∧
 evK gS fi12 c12_57 fr st k=evK gS fi12 c12_59 fr st (.blk 5 (.seq c12_66 k)) ∧
 evK gS fi12 c12_53 fr st k=condK gS fi12 (fr.op (.tmp 46)).bool? .skip (.exit 4) fr st (.seq c12_57 k) ∧
 evK gS fi12 c12_51 fr st k=opsR gS fi12 [bop 46 .lss 3 45 44 3 0] fr st (.seq c12_53 k) ∧
 evK gS fi12 c12_49 fr st k=evK gS fi12 c12_50 fr st (.blk 4 k) ∧
 (evK gS fi12 c12_47 fr st k=opsR gS fi12 [mv 43 0 26,
 len1 44 43 26 3,
 op1 45 (.move (.const (.int .i64 0))) 3] fr st (.seq c12_49 k)) ∧
 evK gS fi12 c12_46 fr st k=evK gS fi12 c12_47 fr st (.seq c12_67 k) ∧
 (evK gS fi12 c12_44 fr st k=opsR gS fi12 [qF 39 31 5 3 0,
 ld 40 29 39 29,
 cal 41 50 [(.tmp 40)] [29] 29,
 op1 42 (.build 39 #[(0,(.tmp 41))]) 39,
 op1 9 (.alloc 39) 0,
 sto 39 9 42] fr st (.seq c12_46 k)) ∧
 evK gS fi12 c12_21 fr st k=evK gS fi12 c12_22 fr st (.seq c12_38 k) ∧
 evK gS fi12 c12_19 fr st k=opsR gS fi12 [qA 6 true 4] fr st (.seq c12_21 k) ∧
 (evK gS fi12 c12_17 fr st k=opsR gS fi12 [mv 16 14 3,
 ixa 17 26 12 14 0,
 ld 18 31 17 31,
 op1 5 (.alloc 31) 0,
 asn 4 16 3,
 sto 31 5 18] fr st (.seq c12_19 k)) ∧
 (evK gS fi12 c12_68 fr st k=opsR gS fi12 [qB 65 .add 3 14 1 3 3,
 mv 14 65 3] fr st k) ∧
 evK gS fi12 c12_15 fr st k=evK gS fi12 c12_17 fr st (.blk 1 (.seq c12_68 k)) ∧
 evK gS fi12 c12_11 fr st k=condK gS fi12 (fr.op (.tmp 15)).bool? .skip (.exit 0) fr st (.seq c12_15 k) ∧
 evK gS fi12 c12_9 fr st k=opsR gS fi12 [bop 15 .lss 3 14 13 3 0] fr st (.seq c12_11 k) ∧
 evK gS fi12 c12_7 fr st k=evK gS fi12 c12_8 fr st (.blk 0 k) ∧
 (evK gS fi12 c12_5 fr st k=opsR gS fi12 [mv 12 0 26,
 len1 13 12 26 3,
 op1 14 (.move (.const (.int .i64 0))) 3] fr st (.seq c12_7 k)) ∧
 (evK gS fi12 c12_69 fr st k=opsR gS fi12 [mv 66 3 32,
 asn 2 66 32] fr st (.seq .ret k)) ∧
 evK gS fi12 c12_4 fr st k=evK gS fi12 c12_5 fr st (.seq c12_69 k) ∧
 evK gS fi12 c12_2 fr st k=opsR gS fi12 [qN 3 32] fr st (.seq c12_4 k) ∧
 evK gS fi12 c12_0 fr st k=opsR gS fi12 [qN 2 32] fr st (.seq c12_2 k):=⟨evK_r 9 (by kernel_rfl),evK_rs 8 rfl (by kernel_rfl),evK_r 10 (by kernel_rfl),rfl,rfl,evK_rs 7 rfl (by kernel_rfl),rfl,evK_rs 6 rfl (by kernel_rfl),rfl,evK_rs 11 rfl (by kernel_rfl),evK_r 17 (by kernel_rfl),rfl,evK_rs 16 rfl (by kernel_rfl),evK_rs 15 rfl (by kernel_rfl),evK_r 18 (by kernel_rfl),rfl,rfl,evK_rs 14 rfl (by kernel_rfl),rfl,evK_rs 13 rfl (by kernel_rfl),rfl,evK_rs 12 rfl (by kernel_rfl),rfl,evK_rs 5 rfl (by kernel_rfl),evK_rs 4 rfl (by kernel_rfl),evK_r 20 (by kernel_rfl),rfl,rfl,evK_rs 3 rfl (by kernel_rfl),rfl,evK_rs 2 rfl (by kernel_rfl),evK_rs 21 rfl (by kernel_rfl),rfl,evK_rs 1 rfl (by kernel_rfl),evK_rs 0 rfl (by kernel_rfl)⟩
theorem m12:mini fi12.body=c12_0:=by kernel_rfl
theorem n12_25 (fr:Fr)(st:St)(k:Kt):nextK gS fi12 (.loop c12_26 k) .normal fr st=evK gS fi12 c12_25 fr st k:=rfl
theorem n12_50 (fr:Fr)(st:St)(k:Kt):nextK gS fi12 (.loop c12_51 k) .normal fr st=evK gS fi12 c12_50 fr st k:=rfl
theorem n12_8 (fr:Fr)(st:St)(k:Kt):nextK gS fi12 (.loop c12_9 k) .normal fr st=evK gS fi12 c12_8 fr st k:=rfl
theorem L12_25 (l:List Sub)(hl1:∀ x∈l,PSm x.filter)(hl2:l.length≤1000)(s:Sub)(hs:PSm s.filter)(i:Nat)(out:List Grp)(ko:Nat)(st:St)(R:Out × St)(hi:i≤l.length)(fin:Bool)
  (H:∀ (e8 e9 e11 e21 e22 e23 e43 e44 e45:E) (T:List (Nat × E)) (X:List (Nat × List V)),e8.Tame→e9.Tame→e11.Tame→e21.Tame→e22.Tame→e23.Tame→e43.Tame→e44.Tame→e45.Tame→lk X 5=some s.cells→evK gS fi12 c12_38 {ps:=[(0,.val (.slice (encSubs l))),(2,.own 0 []),(3,.own ko (encGrps out)),(4,.val (.int .i64 (i:Nat))),(5,.lp 5 0),(6,.val (.bool fin)),(8,e8),(9,e9),(11,e11),(12,.val (.slice (encSubs l))),(13,.val (.int .i64 l.length)),(14,.val (.int .i64 (i:Nat))),(21,e21),(22,e22),(23,e23),(43,e43),(44,e44),(45,e45)],ts:=T,lc:=X} st (.blk 1 (.seq c12_68 (.loop c12_9 (.blk 0 (.seq c12_69 .nil)))))=some R) :
  ∀ (m k:Nat) (b:Bool) (e8 e9 e11 e43 e44 e45:E) (T:List (Nat × E)) (X:List (Nat × List V)) (h8:e8.Tame) (h9:e9.Tame) (h11:e11.Tame) (h43:e43.Tame) (h44:e44.Tame) (h45:e45.Tame) (hx5:lk X 5=some s.cells),k≤i→i - k=m→fin=((l.take i).drop k).foldl (fun b t=>b && !fsame s.filter t.filter) b →
  evK gS fi12 c12_25 {ps:=[(0,.val (.slice (encSubs l))),(2,.own 0 []),(3,.own ko (encGrps out)),(4,.val (.int .i64 (i:Nat))),(5,.lp 5 0),(6,.val (.bool b)),(8,e8),(9,e9),(11,e11),(12,.val (.slice (encSubs l))),(13,.val (.int .i64 l.length)),(14,.val (.int .i64 (i:Nat))),(21,.val (.slice (encSubs (l.take i)))),(22,.val (.int .i64 (i:Nat))),(23,.val (.int .i64 (k:Nat))),(43,e43),(44,e44),(45,e45)],ts:=T,lc:=X} st (.blk 2 (.seq c12_38 (.blk 1 (.seq c12_68 (.loop c12_9 (.blk 0 (.seq c12_69 .nil)))))))=some R:=by
 intro m
 have hso:=hs.ok
 have hlt0:(l.take i).length=i:=by simp;omega
 induction m with
 | zero =>
  intro k b e8 e9 e11 e43 e44 e45 T X h8 h9 h11 h43 h44 h45 hx5 hk hm2 hf
  obtain rfl:k=i:=by omega
  rw [List.drop_of_length_le (by omega),List.foldl_nil] at hf
  subst hf
  have HH:=H e8 e9 e11 (.val (.slice (encSubs (l.take k)))) (.val (.int .i64 k)) (.val (.int .i64 k)) e43 e44 e45
  refine evK_loop c12_26 _ _ _ _ rfl ?_
  simp [-zia,h8,h9,h11,h43,h44,h45,-zil,-zit,-znl,-znt,ty3,ty4,ty22,ty26,ty29,ty31,ty32,ty39,H12,E12,e12_67,n12_25,n12_50,n12_8]
  exact HH _ _ h8 h9 h11 rfl rfl rfl h43 h44 h45 hx5
 | succ m ih =>
  intro k b e8 e9 e11 e43 e44 e45 T X h8 h9 h11 h43 h44 h45 hx5 hk hm2 hf
  obtain ⟨x,hx⟩  := qgx (l:=(l.take i)) (i:=k) (by omega)
  have hd:=drop_get hx
  have hlt:(k:Int)<(i:Int):=by omega
  obtain ⟨hlt2,hxe⟩:=List.getElem?_eq_some_iff.1 hx
  have hw  := qws k (by omega)
  have hxo:=(hl1 x (List.mem_of_mem_take (zmg hx))).ok
  rw [hd,List.foldl_cons] at hf
  have kk:∀ (fr:Fr) (st:St),callStep gS (EvF gS) 49 [.slice (encPreds s.filter),.slice (encPreds x.filter)] fr st=some (.ok (.val (.bool (fsame s.filter x.filter))) fr st):=fun fr st=>k49 _ _ hso hxo fr st
  have IH:=fun e8 e9 e11 e43 e44 e45 T X h8 h9 h11 h43 h44 h45 hx5=>ih (k+1) _ e8 e9 e11 e43 e44 e45 T X h8 h9 h11 h43 h44 h45 hx5 (by omega) (by omega) hf
  generalize fsame s.filter x.filter=q at *
  generalize l.take i=L at *
  subst hlt0
  refine evK_loop c12_26 _ _ _ _ rfl ?_
  simp only [Sub.cells] at hx5
  cases b with
  | false =>
   simp only [Bool.false_and] at IH
   simp [-zia,h8,h9,h11,h43,h44,h45,hx,hxe,hlt,hlt2,hw,hx5,-zil,-zit,-znl,-znt,ty3,ty4,ty22,ty26,ty29,ty31,ty32,ty39,H12,E12,e12_67,n12_25,n12_50,n12_8]
   refine IH _ _ _ _ _ _ _ _ ?_ ?_ ?_ ?_ ?_ ?_ ?_
   all_goals simp [h8,h9,h11,h43,h44,h45,hx5]
  | true =>
   simp only [Bool.true_and] at IH
   simp [-zia,h8,h9,h11,h43,h44,h45,hx,hxe,hlt,hlt2,hw,hx5,kk,-zil,-zit,-znl,-znt,ty3,ty4,ty22,ty26,ty29,ty31,ty32,ty39,H12,E12,e12_67,n12_25,n12_50,n12_8]
   refine IH _ _ _ _ _ _ _ _ ?_ ?_ ?_ ?_ ?_ ?_ ?_
   all_goals simp [h8,h9,h11,h43,h44,h45,hx5]
theorem L12_50 (l:List Sub)(hl1:∀ x∈l,PSm x.filter)(hl2:l.length≤1000)(s:Sub)(hs:PSm s.filter)(i:Nat)(out:List Grp)(ko:Nat)(st:St)(R:Out × St)(fin:List Int)
  (H:∀ (CL:V) (e8 e11 e21 e22 e23:E) (T:List (Nat × E)) (X:List (Nat × List V)),CLo CL fin→e8.Tame→e11.Tame→e21.Tame→e22.Tame→e23.Tame→lk X 9=some [.slice (encPreds s.filter),CL]→evK gS fi12 c12_67 {ps:=[(0,.val (.slice (encSubs l))),(2,.own 0 []),(3,.own ko (encGrps out)),(4,.val (.int .i64 (i:Nat))),(5,.lp 5 0),(6,.val (.bool true)),(8,e8),(9,.lp 9 0),(11,e11),(12,.val (.slice (encSubs l))),(13,.val (.int .i64 l.length)),(14,.val (.int .i64 (i:Nat))),(21,e21),(22,e22),(23,e23),(43,.val (.slice (encSubs l))),(44,.val (.int .i64 l.length)),(45,.val (.int .i64 l.length))],ts:=T,lc:=X} st (.blk 1 (.seq c12_68 (.loop c12_9 (.blk 0 (.seq c12_69 .nil)))))=some R) :
  ∀ (m k:Nat) (acc:List Int) (CL:V) (e8 e11 e21 e22 e23:E) (T:List (Nat × E)) (X:List (Nat × List V)) (hc:CLo CL acc) (h8:e8.Tame) (h11:e11.Tame) (h21:e21.Tame) (h22:e22.Tame) (h23:e23.Tame) (hx5:lk X 5=some s.cells) (hx9:lk X 9=some [.slice (encPreds s.filter),CL]),k≤l.length→l.length - k=m→acc.length≤k→fin=(l.drop k).foldl (cliStep s) acc →
  evK gS fi12 c12_50 {ps:=[(0,.val (.slice (encSubs l))),(2,.own 0 []),(3,.own ko (encGrps out)),(4,.val (.int .i64 (i:Nat))),(5,.lp 5 0),(6,.val (.bool true)),(8,e8),(9,.lp 9 0),(11,e11),(12,.val (.slice (encSubs l))),(13,.val (.int .i64 l.length)),(14,.val (.int .i64 (i:Nat))),(21,e21),(22,e22),(23,e23),(43,.val (.slice (encSubs l))),(44,.val (.int .i64 l.length)),(45,.val (.int .i64 (k:Nat)))],ts:=T,lc:=X} st (.blk 4 (.seq c12_67 (.blk 1 (.seq c12_68 (.loop c12_9 (.blk 0 (.seq c12_69 .nil)))))))=some R:=by
 intro m
 have hso:=hs.ok
 induction m with
 | zero =>
  intro k acc CL e8 e11 e21 e22 e23 T X hc h8 h11 h21 h22 h23 hx5 hx9 hk hm2 ha hf
  obtain rfl:k=l.length:=by omega
  rw [List.drop_length,List.foldl_nil] at hf
  subst hf
  refine evK_loop c12_51 _ _ _ _ rfl ?_
  simp [-zia,h8,h11,h21,h22,h23,-zil,-zit,-znl,-znt,ty3,ty4,ty22,ty26,ty29,ty31,ty32,ty39,H12,E12,e12_38,n12_25,n12_50,n12_8]
  exact H CL _ _ _ _ _ _ _ hc h8 h11 h21 h22 h23 hx9
 | succ m ih =>
  intro k acc CL e8 e11 e21 e22 e23 T X hc h8 h11 h21 h22 h23 hx5 hx9 hk hm2 ha hf
  obtain ⟨x,hx⟩  := qgx (l:=l) (i:=k) (by omega)
  have hd:=drop_get hx
  have hlt:(k:Int)<(l.length:Int):=by omega
  obtain ⟨hlt2,hxe⟩:=List.getElem?_eq_some_iff.1 hx
  have hw  := qws k (by omega)
  have hxo:=(hl1 x (zmg hx)).ok
  rw [hd,List.foldl_cons] at hf
  have kk:∀ (fr:Fr) (st:St),callStep gS (EvF gS) 49 [.slice (encPreds s.filter),.slice (encPreds x.filter)] fr st=some (.ok (.val (.bool (fsame s.filter x.filter))) fr st):=fun fr st=>k49 _ _ hso hxo fr st
  have hll:=layI_len acc x.client
  simp only [Sub.cells] at hx5
  refine evK_loop c12_51 _ _ _ _ rfl ?_
  cases hq:fsame s.filter x.filter with
  | false =>
   rw [hq] at kk
   have hst:cliStep s acc x=acc:=by unfold cliStep;rw [hq];rfl
   rw [hst] at hf
   have IH:=fun e8 e11 e21 e22 e23 T X h8 h11 h21 h22 h23 hx5 hx9=>ih (k+1) acc CL e8 e11 e21 e22 e23 T X hc h8 h11 h21 h22 h23 hx5 hx9 (by omega) (by omega) (by omega) hf
   simp [-zia,h8,h11,h21,h22,h23,hx,hxe,hlt,hlt2,hw,hx5,hx9,kk,-zil,-zit,-znl,-znt,ty3,ty4,ty22,ty26,ty29,ty31,ty32,ty39,H12,E12,e12_38,n12_25,n12_50,n12_8]
   refine IH _ _ _ _ _ _ _ ?_ ?_ ?_ ?_ ?_ ?_ ?_
   all_goals simp [h8,h11,h21,h22,h23,hx5,hx9]
  | true =>
   rw [hq] at kk
   have hst:cliStep s acc x=layI acc x.client:=by unfold cliStep;rw [hq];rfl
   rw [hst] at hf
   have kl:=fun fr st=>k51 acc (by omega) x.client fr st
   have IH:=fun e8 e11 e21 e22 e23 T X h8 h11 h21 h22 h23 hx5 hx9=>ih (k+1) (layI acc x.client) (.slice (intVs (layI acc x.client))) e8 e11 e21 e22 e23 T X (.inr rfl) h8 h11 h21 h22 h23 hx5 hx9 (by omega) (by omega) (by omega) hf
   have hls:∀ (X:List (Nat × List V)) (a b:List V),lk X 9=some a→lk (lset X 9 b) 9=some b:=fun X a b h=>lk_lset_self X 9 a b h
   rcases hc with ⟨rfl,rfl⟩ | rfl
   ·rw [show intVs []=[] from rfl] at kl
    simp [-zia,h8,h11,h21,h22,h23,hx,hxe,hlt,hlt2,hw,hx5,hx9,kk,kl,-zil,-zit,-znl,-znt,ty3,ty4,ty22,ty26,ty29,ty31,ty32,ty39,H12,E12,e12_38,n12_25,n12_50,n12_8]
    refine IH _ _ _ _ _ _ _ ?_ ?_ ?_ ?_ ?_ ?_ ?_
    all_goals simp [h8,h11,h21,h22,h23,hx5,hx9,lk_lset_self _ _ _ _ hx9]
    all_goals exact lk_lset_self _ _ [.slice (encPreds s.filter),.osl 0 []] _ (by simp [hx9])
   ·simp [-zia,h8,h11,h21,h22,h23,hx,hxe,hlt,hlt2,hw,hx5,hx9,kk,kl,-zil,-zit,-znl,-znt,ty3,ty4,ty22,ty26,ty29,ty31,ty32,ty39,H12,E12,e12_38,n12_25,n12_50,n12_8]
    refine IH _ _ _ _ _ _ _ ?_ ?_ ?_ ?_ ?_ ?_ ?_
    all_goals simp [h8,h11,h21,h22,h23,hx5,hx9,lk_lset_self _ _ _ _ hx9]
    all_goals exact lk_lset_self _ _ [.slice (encPreds s.filter),.slice (intVs acc)] _ (by simp [hx9])
theorem L12 (l:List Sub)(hl1:∀ x∈l,PSm x.filter)(hl2:l.length≤1000)(st:St) :
  ∀ (m i:Nat) (out:List Grp) (e4 e5 e6 e8 e9 e11 e21 e22 e23 e43 e44 e45:E) (T:List (Nat × E)) (X:List (Nat × List V)) (h4:e4.Tame) (h5:e5.Tame) (h6:e6.Tame) (h8:e8.Tame) (h9:e9.Tame) (h11:e11.Tame) (h21:e21.Tame) (h22:e22.Tame) (h23:e23.Tame) (h43:e43.Tame) (h44:e44.Tame) (h45:e45.Tame),i≤l.length→l.length - i=m→out.length≤i →
  evK gS fi12 c12_8 {ps:=[(0,.val (.slice (encSubs l))),(2,.own 0 []),(3,.own (kof 2 out) (encGrps out)),(4,e4),(5,e5),(6,e6),(8,e8),(9,e9),(11,e11),(12,.val (.slice (encSubs l))),(13,.val (.int .i64 l.length)),(14,.val (.int .i64 (i:Nat))),(21,e21),(22,e22),(23,e23),(43,e43),(44,e44),(45,e45)],ts:=T,lc:=X} st (.blk 0 (.seq c12_69 .nil))=some (.ret (.slice (encGrps (gofG l i (l.drop i) out))) none,st):=by
 intro m
 induction m with
 | zero =>
  intro i out e4 e5 e6 e8 e9 e11 e21 e22 e23 e43 e44 e45 T X h4 h5 h6 h8 h9 h11 h21 h22 h23 h43 h44 h45 hi hm2 ho
  obtain rfl:i=l.length:=by omega
  rw [List.drop_length]
  have hz:=frz_slice (xs:=encGrps out) (flats_grps out) st
  show _=some (Out.ret (V.slice (encGrps out)) none,st)
  refine evK_loop c12_9 _ _ _ _ rfl ?_
  rcases kof_or 1 out with ⟨hk,rfl⟩ | hk
  ·have hk2:kof 2 ([]:List Grp)=0:=rfl
   have en:encGrps []=[]:=rfl
   rw [en] at hz
   rw [hk2,en]
   simp [h4,h5,h6,h8,h9,h11,h21,h22,h23,h43,h44,h45,hz,-zil,-zit,-znl,-znt,ty3,ty4,ty22,ty26,ty29,ty31,ty32,ty39,H12,E12,e12_38,n12_25,n12_50,n12_8]
  ·have hk2:kof 2 out=2:=by
    unfold kof at hk ⊢;split at hk <;> simp_all
   rw [hk2]
   simp [h4,h5,h6,h8,h9,h11,h21,h22,h23,h43,h44,h45,hz,-zil,-zit,-znl,-znt,ty3,ty4,ty22,ty26,ty29,ty31,ty32,ty39,H12,E12,e12_38,n12_25,n12_50,n12_8]
 | succ m ih =>
  intro i out e4 e5 e6 e8 e9 e11 e21 e22 e23 e43 e44 e45 T X h4 h5 h6 h8 h9 h11 h21 h22 h23 h43 h44 h45 hi hm2 ho
  obtain ⟨s,hx⟩:∃ s,l[i]?=some s:=⟨l[i]'(by omega),zge (by omega)⟩
  have hd:=drop_get hx
  have hlt:(i:Int)<(l.length:Int):=by omega
  obtain ⟨hlt2,hxe⟩:=List.getElem?_eq_some_iff.1 hx
  have hw  := qws i (by omega)
  have hs:=hl1 s (zmg hx)
  have hso:=hs.ok
  rw [hd]
  have hgo:gofG l i (s :: l.drop (i+1)) out=gofG l (i+1) (l.drop (i+1)) (if fstOf l i s then out ++ [⟨s.filter,cliOf l s⟩] else out):=rfl
  rw [hgo]
  have hol:(if fstOf l i s then out ++ [⟨s.filter,cliOf l s⟩] else out).length≤i+1:=by
   split
   ·simp;omega
   ·omega
  have IH:=fun e4 e5 e6 e8 e9 e11 e21 e22 e23 e43 e44 e45 T X h4 h5 h6 h8 h9 h11 h21 h22 h23 h43 h44 h45=>ih (i+1) (if fstOf l i s then out ++ [⟨s.filter,cliOf l s⟩] else out) e4 e5 e6 e8 e9 e11 e21 e22 e23 e43 e44 e45 T X h4 h5 h6 h8 h9 h11 h21 h22 h23 h43 h44 h45 (by omega) (by omega) hol
  generalize hR:(Out.ret (V.slice (encGrps (gofG l (i+1) (l.drop (i+1)) (if fstOf l i s then out ++ [⟨s.filter,cliOf l s⟩] else out)))) none,st)=R at IH ⊢
  clear hR
  have HA:∀ (e8 e9 e11 e21 e22 e23 e43 e44 e45:E) (T:List (Nat × E)) (X:List (Nat × List V)),e8.Tame→e9.Tame→e11.Tame→e21.Tame→e22.Tame→e23.Tame→e43.Tame→e44.Tame→e45.Tame→lk X 5=some s.cells→evK gS fi12 c12_38 {ps:=[(0,.val (.slice (encSubs l))),(2,.own 0 []),(3,.own (kof 2 out) (encGrps out)),(4,.val (.int .i64 (i:Nat))),(5,.lp 5 0),(6,.val (.bool (fstOf l i s))),(8,e8),(9,e9),(11,e11),(12,.val (.slice (encSubs l))),(13,.val (.int .i64 l.length)),(14,.val (.int .i64 (i:Nat))),(21,e21),(22,e22),(23,e23),(43,e43),(44,e44),(45,e45)],ts:=T,lc:=X} st (.blk 1 (.seq c12_68 (.loop c12_9 (.blk 0 (.seq c12_69 .nil)))))=some R:=by
   intro e8 e9 e11 e21 e22 e23 e43 e44 e45 T X h8 h9 h11 h21 h22 h23 h43 h44 h45 hx5
   cases hq:fstOf l i s with
   | false =>
    rw [hq] at IH
    simp only [Bool.false_eq_true,if_false] at IH
    simp [-zia,h8,h9,h11,h21,h22,h23,h43,h44,h45,hw,-zil,-zit,-znl,-znt,ty3,ty4,ty22,ty26,ty29,ty31,ty32,ty39,H12,E12,e12_38,n12_25,n12_50,n12_8]
    refine IH _ _ _ _ _ _ _ _ _ _ _ _ _ _ ?_ ?_ ?_ ?_ ?_ ?_ ?_ ?_ ?_ ?_ ?_ ?_
    all_goals simp [h8,h9,h11,h21,h22,h23,h43,h44,h45]
   | true =>
    rw [hq] at IH
    simp only [if_true] at IH
    have kc:=fun fr st=>k50 s.filter hs fr st
    have hs1:=sizes_grps out
    have hs2:=grps_snoc out ⟨s.filter,cliOf l s⟩
    have b1:(out.length+1)*48≤140737488355328:=by omega
    have b2:out.length+1≤140737488355328:=by omega
    rw [kof_snoc] at IH
    have HB:∀ (CL:V) (e8 e11 e21 e22 e23:E) (T:List (Nat × E)) (X:List (Nat × List V)),CLo CL (cliOf l s)→e8.Tame→e11.Tame→e21.Tame→e22.Tame→e23.Tame→lk X 9=some [.slice (encPreds s.filter),CL]→evK gS fi12 c12_67 {ps:=[(0,.val (.slice (encSubs l))),(2,.own 0 []),(3,.own (kof 2 out) (encGrps out)),(4,.val (.int .i64 (i:Nat))),(5,.lp 5 0),(6,.val (.bool true)),(8,e8),(9,.lp 9 0),(11,e11),(12,.val (.slice (encSubs l))),(13,.val (.int .i64 l.length)),(14,.val (.int .i64 (i:Nat))),(21,e21),(22,e22),(23,e23),(43,.val (.slice (encSubs l))),(44,.val (.int .i64 l.length)),(45,.val (.int .i64 l.length))],ts:=T,lc:=X} st (.blk 1 (.seq c12_68 (.loop c12_9 (.blk 0 (.seq c12_69 .nil)))))=some R:=by
     intro CL e8 e11 e21 e22 e23 T X hc h8 h11 h21 h22 h23 hx9
     generalize cliOf l s=cl at *
     have en:encGrps []=[]:=rfl
     have en1:encGrps ([] ++ [⟨s.filter,cl⟩])=[.agg [.slice (encPreds s.filter),.slice (intVs cl)]]:=rfl
     rcases hc with ⟨rfl,rfl⟩ | rfl
     ·rw [show intVs []=[] from rfl] at hs2 en1
      rcases kof_or 2 out with ⟨hk,rfl⟩ | hk
      ·rw [hk,en]
       rw [en1] at IH
       simp [-zia,h8,h11,h21,h22,h23,hx9,hw,-zil,-zit,-znl,-znt,ty3,ty4,ty22,ty26,ty29,ty31,ty32,ty39,H12,E12,e12_67,e12_38,n12_25,n12_50,n12_8]
       refine IH _ _ _ _ _ _ _ _ _ _ _ _ _ _ ?_ ?_ ?_ ?_ ?_ ?_ ?_ ?_ ?_ ?_ ?_ ?_
       all_goals simp [h8,h11,h21,h22,h23]
      ·rw [hk]
       simp [-zia,-zaa,h8,h11,h21,h22,h23,hx9,hw,hs1,hs2,b1,b2,-zil,-zit,-znl,-znt,ty3,ty4,ty22,ty26,ty29,ty31,ty32,ty39,H12,E12,e12_67,e12_38,n12_25,n12_50,n12_8]
       refine IH _ _ _ _ _ _ _ _ _ _ _ _ _ _ ?_ ?_ ?_ ?_ ?_ ?_ ?_ ?_ ?_ ?_ ?_ ?_
       all_goals simp [h8,h11,h21,h22,h23]
     ·rcases kof_or 2 out with ⟨hk,rfl⟩ | hk
      ·rw [hk,en]
       rw [en1] at IH
       simp [-zia,h8,h11,h21,h22,h23,hx9,hw,-zil,-zit,-znl,-znt,ty3,ty4,ty22,ty26,ty29,ty31,ty32,ty39,H12,E12,e12_67,e12_38,n12_25,n12_50,n12_8]
       refine IH _ _ _ _ _ _ _ _ _ _ _ _ _ _ ?_ ?_ ?_ ?_ ?_ ?_ ?_ ?_ ?_ ?_ ?_ ?_
       all_goals simp [h8,h11,h21,h22,h23]
      ·rw [hk]
       simp [-zia,-zaa,h8,h11,h21,h22,h23,hx9,hw,hs1,hs2,b1,b2,-zil,-zit,-znl,-znt,ty3,ty4,ty22,ty26,ty29,ty31,ty32,ty39,H12,E12,e12_67,e12_38,n12_25,n12_50,n12_8]
       refine IH _ _ _ _ _ _ _ _ _ _ _ _ _ _ ?_ ?_ ?_ ?_ ?_ ?_ ?_ ?_ ?_ ?_ ?_ ?_
       all_goals simp [h8,h11,h21,h22,h23]
    have LB:=fun CL e8 e11 e21 e22 e23 T X hc h8 h11 h21 h22 h23 hx5 hx9=>L12_50 l hl1 hl2 s hs i out (kof 2 out) st R (cliOf l s) HB l.length 0 [] CL e8 e11 e21 e22 e23 T X hc h8 h11 h21 h22 h23 hx5 hx9 (Nat.zero_le _) rfl (Nat.le_refl _) rfl
    rw [show ((0:Nat):Int)=0 from rfl] at LB
    simp only [Sub.cells] at hx5
    simp [-zia,h8,h9,h11,h21,h22,h23,h43,h44,h45,hx5,kc,-zil,-zit,-znl,-znt,ty3,ty4,ty22,ty26,ty29,ty31,ty32,ty39,H12,E12,e12_38,n12_25,n12_50,n12_8]
    refine LB (.osl 0 []) _ _ _ _ _ _ _ (.inl ⟨rfl,rfl⟩) ?_ ?_ ?_ ?_ ?_ ?_ ?_
    all_goals simp [h8,h9,h11,h21,h22,h23,hx5]
  have LA:=fun e8 e9 e11 e43 e44 e45 T X h8 h9 h11 h43 h44 h45 hx5=>L12_25 l hl1 hl2 s hs i out (kof 2 out) st R hi (fstOf l i s) HA i 0 true e8 e9 e11 e43 e44 e45 T X h8 h9 h11 h43 h44 h45 hx5 (Nat.zero_le _) rfl (by rw [List.drop_zero];rfl)
  rw [show ((0:Nat):Int)=0 from rfl] at LA
  have htk:(encSubs l).take i=encSubs (l.take i):=by simp [encSubs]
  have hsz:=sizes_subs l
  have hi1:(i:Int)≤(l.length:Int):=by omega
  have hi0:(0:Int)≤(i:Int):=by omega
  have hmin:min i l.length=i:=by omega
  refine evK_loop c12_9 _ _ _ _ rfl ?_
  simp [-zia,h4,h5,h6,h8,h9,h11,h21,h22,h23,h43,h44,h45,hx,hxe,hlt,hlt2,htk,hsz,hi0,hi1,hmin,-zil,-zit,-znl,-znt,ty3,ty4,ty22,ty26,ty29,ty31,ty32,ty39,H12,E12,e12_38,n12_25,n12_50,n12_8]
  refine LA _ _ _ _ _ _ _ _ ?_ ?_ ?_ ?_ ?_ ?_ ?_
  all_goals simp [h8,h9,h11,h43,h44,h45]
theorem c12 (l:List Sub)(hl1:∀ x∈l,PSm x.filter)(hl2:l.length≤1000)(st:St):EvF gS 12 [.slice (encSubs l)] st=some (.ret (.slice (encGrps (gof l))) none,st):=by
 refine EvF_start fi54_eq (fun x h=>by cases h) m12 ?_
 rw [st12]
 have L0:=fun e4 e5 e6 e8 e9 e11 e21 e22 e23 e43 e44 e45 T X h4 h5 h6 h8 h9 h11 h21 h22 h23 h43 h44 h45=>L12 l hl1 hl2 st l.length 0 [] e4 e5 e6 e8 e9 e11 e21 e22 e23 e43 e44 e45 T X h4 h5 h6 h8 h9 h11 h21 h22 h23 h43 h44 h45 (Nat.zero_le _) rfl (Nat.le_refl _)
 simp only [show ((0:Nat):Int)=0 from rfl,List.drop_zero,show kof 2 ([]:List Grp)=0 from rfl,show encGrps []=[] from rfl] at L0
 show _=some (Out.ret (V.slice (encGrps (gofG l 0 l []))) none,st)
 simp [L0,-zil,-zit,-znl,-znt,ty3,ty4,ty22,ty26,ty29,ty31,ty32,ty39,H12,E12,e12_67,e12_38,n12_25,n12_50,n12_8]
theorem k12 (l:List Sub)(hl1:∀ x∈l,PSm x.filter)(hl2:l.length≤1000)(fr:Fr)(st:St):callStep gS (EvF gS) 12 [.slice (encSubs l)] fr st=some (.ok (.val (.slice (encGrps (gof l)))) (fr.map E.noMem) st):=by
 unfold callStep
 simp only [show gS.ext 12=none from rfl,fi54_eq,show fi12.pure=false from rfl,Bool.false_eq_true,if_false,c12 l hl1 hl2 st,retE]
end
end Go.Proofs.Ytdoobejjedpcgaa
/-! # Trees of brokers,in plain Lean -/
namespace Go.Ab
open Go
def upT:Nat→List Int→Bool
 | _,[]=>true
 | i,x :: l=>decide (0≤x) && decide (x≤i) && upT (i+1) l
def rightT (p:List Int):Bool:=upT 0 p && decide ((p.length:Int)≤7)
def isT (p:List Int)(b:Int):Bool:=rightT p && decide (0≤b) && decide (b≤(p.length:Int))
structure Atom where
 a:Int
 b:Int
 br:Int
 deriving Inhabited
def Atom.cells (x:Atom):List V:=[.int .i64 x.a,.int .i64 x.b,.int .i64 x.br]
def Atom.enc (x:Atom):V:=.agg x.cells
def encAtoms (l:List Atom):List V:=l.map Atom.enc
def aheadA (x y:Atom):Bool:=if x.br=y.br then decide (x.a<y.a) || decide (x.a=y.a) && decide (x.b<y.b) else decide (x.br<y.br)
theorem upT_cons (i:Nat)(x:Int)(l:List Int):upT i (x :: l)=(decide (0≤x) && decide (x≤i) && upT (i+1) l):=rfl
theorem upT_get:∀ (l:List Int)(i k:Nat)(x:Int),upT i l=true→l[k]?=some x→0≤x∧x≤((i+k:Nat):Int):=by
 intro l
 induction l with
 | nil=>intro i k x h hx;simp at hx
 | cons a l ih =>
  intro i k x h hx
  rw [upT_cons] at h
  simp only [Bool.and_eq_true,decide_eq_true_eq] at h
  cases k with
  | zero=>simp at hx;subst hx;simpa using h.1
  | succ k =>
   have:=ih (i+1) k x h.2 (by simpa using hx)
   omega
def upF (p:List Int):Nat→Nat→List Int
 | 0,_=>[]
 | k+1,b=>if b=0 then [] else (p.getD (b - 1) 0) :: upF p k (p.getD (b - 1) 0).toNat
def upP (p:List Int)(b:Nat):List Int:=(b:Int) :: upF p b b
theorem upF_zero (p:List Int)(k:Nat):upF p k 0=[]:=by cases k <;> simp [upF]
theorem upF_succ (p:List Int)(k b:Nat)(x:Int)(hx:p[b]?=some x):upF p (k+1) (b+1)=x :: upF p k x.toNat:=by
 simp [upF,hx]
theorem encAtoms_length (l:List Atom):(encAtoms l).length=l.length:=by simp [encAtoms]
theorem encAtoms_get (l:List Atom)(i:Nat):(encAtoms l)[i]?=(l[i]?).map Atom.enc:=by simp [encAtoms]
theorem encAtoms_gE (l:List Atom)(i:Nat)(h:i<(encAtoms l).length):(encAtoms l)[i]'h=(l[i]'(by rw [encAtoms_length] at h;exact h)).enc:=by simp [encAtoms]
theorem flat_atom (v:Atom):v.enc.flat=true:=by simp [Atom.enc,Atom.cells,V.flat,flats]
theorem flats_atoms (l:List Atom):flats (encAtoms l)=true:=by
 induction l with
 | nil=>rfl
 | cons x r ih=>simp only [encAtoms,List.map_cons,flats,flat_atom] at ih ⊢;exact ih
attribute [simp] encAtoms_length encAtoms_get encAtoms_gE flat_atom flats_atoms Atom.enc Atom.cells
theorem sizes_atoms (l:List Atom):sizesOk 3 (encAtoms l)=true:=by
 induction l with
 | nil=>rfl
 | cons x r ih=>simp only [encAtoms,List.map_cons,sizesOk] at ih ⊢;rw [ih];rfl
def wayG (t:Atom→Bool):Nat→List Atom→List Int→List Int
 | _,[],out=>out
 | i,x :: r,out=>wayG t (i+1) r (if t x then out ++ [(i:Int)] else out)
def wayA (c:List Atom)(m:List Int):List Int:=wayG (fun x=>hasI m x.a || hasI m x.b) 0 c []
def ownA (c:List Atom)(m:List Int):List Int:=wayG (fun x=>hasI m x.a && hasI m x.b) 0 c []
def posA (l:List Atom)(n:Atom):Nat:=(l.takeWhile fun x=>aheadA x n).length
def layA (l:List Atom)(n:Atom):List Atom:=l.take (posA l n) ++ [n] ++ l.drop (posA l n)
theorem posA_le:∀ (l:List Atom)(n:Atom),posA l n≤l.length
 | [],_=>by simp [posA]
 | x :: r,n=>by
  have:=posA_le r n
  unfold posA at this ⊢
  rw [List.takeWhile_cons]
  split <;> simp;omega
theorem posA_lt:∀ (l:List Atom)(n:Atom)(i:Nat)(x:Atom),i<posA l n→l[i]?=some x→aheadA x n=true
 | [],_,_,_,_,h=>by simp at h
 | y :: r,n,i,x,hi,hx=>by
  unfold posA at hi
  rw [List.takeWhile_cons] at hi
  split at hi
  ·rename_i hy
   cases i with
   | zero=>simp at hx;subst hx;simpa using hy
   | succ i=>exact posA_lt r n i x (by unfold posA;simpa using hi) (by simpa using hx)
  ·simp at hi
theorem posA_ge:∀ (l:List Atom)(n:Atom)(x:Atom),l[posA l n]?=some x→aheadA x n=false
 | [],_,_,h=>by simp at h
 | y :: r,n,x,hx=>by
  unfold posA at hx
  rw [List.takeWhile_cons] at hx
  split at hx
  ·rw [List.length_cons,List.getElem?_cons_succ] at hx
   exact posA_ge r n x hx
  ·rename_i hy
   simp at hx;subst hx;simpa using hy
theorem atoms_take (l:List Atom)(k:Nat):(encAtoms l).take k=encAtoms (l.take k):=by simp [encAtoms,List.map_take]
theorem atoms_drop (l:List Atom)(k:Nat):(encAtoms l).drop k=encAtoms (l.drop k):=by simp [encAtoms,List.map_drop]
theorem atoms_append (l r:List Atom):encAtoms l ++ encAtoms r=encAtoms (l ++ r):=by simp [encAtoms]
theorem layA_len (l:List Atom)(n:Atom):(layA l n).length=l.length+1:=by
 have:=posA_le l n
 simp only [layA,zla,List.length_take,List.length_drop,List.length_singleton]
 omega
theorem take_rev (b:List Int)(n:Nat)(x:Int)(hx:b[n]?=some x):(b.take (n+1)).reverse=x :: (b.take n).reverse:=by
 rw [List.take_add_one,hx];simp
theorem upF_len (p:List Int):∀ (k b:Nat),(upF p k b).length≤k
 | 0,_=>by simp [upF]
 | k+1,b=>by
  unfold upF
  split
  ·simp
  ·have:=upF_len p k (p.getD (b - 1) 0).toNat
   simp only [List.length_cons];omega
def treeG (l:List Int)(a:Nat):Nat→Nat→List Int→List Int
 | 0,_,acc=>acc
 | n+1,j,acc=>treeG l a n (j+1) (acc ++ [fd l a j ((acc.length:Int)+1)])
def treeV (l:List Int)(a j:Nat)(most:Int):List Int:=treeG l a (fd l a j most).toNat (j+1) []
theorem treeG_succ (l:List Int)(a n j:Nat)(acc:List Int):treeG l a (n+1) j acc=treeG l a n (j+1) (acc ++ [fd l a j ((acc.length:Int)+1)]):=rfl
theorem treeG_len (l:List Int)(a:Nat):∀ (n j:Nat) (acc:List Int),(treeG l a n j acc).length=acc.length+n
 | 0,_,acc=>rfl
 | n+1,j,acc=>by rw [treeG_succ,treeG_len l a n,zla,List.length_singleton];omega
theorem upT_snoc:∀ (p:List Int)(i:Nat)(x:Int),upT i p=true→0≤x→x≤((i+p.length:Nat):Int)→upT i (p ++ [x])=true
 | [],i,x,_,h1,h2=>by simp [upT,h1];simpa using h2
 | y :: p,i,x,h,h1,h2=>by
  rw [upT_cons] at h
  simp only [Bool.and_eq_true] at h
  rw [List.cons_append,upT_cons,upT_snoc p (i+1) x h.2 h1 (by simp only [List.length_cons] at h2;omega)]
  simp [h.1.1,h.1.2] at *
theorem treeG_up (l:List Int)(a:Nat):∀ (n j:Nat) (acc:List Int),upT 0 acc=true→upT 0 (treeG l a n j acc)=true
 | 0,_,acc,h=>h
 | n+1,j,acc,h=>by
  rw [treeG_succ]
  have hb:=fd_bound l a j (n:=(acc.length:Int)+1) (by omega)
  exact treeG_up l a n _ _ (upT_snoc acc 0 _ h hb.1 (by omega))
theorem treeV_right (l:List Int)(a j:Nat) {most:Int} (h1:1≤most)(h2:most≤8):rightT (treeV l a j most)=true:=by
 have hb:=fd_bound l a j (n:=most) h1
 have hl:=treeG_len l a (fd l a j most).toNat (j+1) []
 unfold rightT treeV
 rw [treeG_up l a _ _ [] rfl,hl]
 simp
 omega
def mayS (s:Sub):Bool:=decide (1≤s.client) && decide (s.client≤6) && decide (0≤s.broker) && decide (s.broker≤7) && decide (1≤s.num) && decide (s.num≤4611686018427387904) && fright s.filter
def bothI (v:List Int):List Int→List Int→List Int
 | [],out=>out
 | c :: r,out=>bothI v r (if hasI v c then layI out c else out)
end Go.Ab
