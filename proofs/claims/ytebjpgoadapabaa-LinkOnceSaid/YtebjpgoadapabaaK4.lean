/- whatever is put, ticked, lost, said twice, or strange, an end does and says what the document's does. No condition. Part 4. -/
import Derived.Test.YtebjpgoadapabaaK3
set_option linter.unusedVariables false
set_option linter.unusedSimpArgs false
set_option linter.unnecessarySimpa false
set_option maxHeartbeats 8000000
set_option maxRecDepth 20000
open Int renaming not_le → zil, not_lt → zit, natCast_add → zia
open Nat renaming not_le → znl, not_lt → znt
open List renaming getElem?_eq_getElem → zge, getElem?_eq_some_iff → zgs, append_assoc → zaa, mem_of_getElem? → zmg, length_append → zla
namespace Go.Ab
open Go
structure Val where
 kind:Int
 n:Int
 x:Nat
 s:List UInt8
 b:Bool
 deriving DecidableEq,Inhabited
def Val.cells (v:Val):List V:=[.int .i64 v.kind,.int .i64 v.n,.float .f64 v.x,.str v.s,.bool v.b]
def Val.enc (v:Val):V:=.agg v.cells
structure Pred where
 name:List UInt8
 test:Int
 v:Val
 w:Val
 set:List Val
 deriving DecidableEq,Inhabited
def encVals (l:List Val):List V:=l.map Val.enc
def Pred.cells (p:Pred):List V:=[.str p.name,.int .i64 p.test,.int .i64 p.v.kind,.int .i64 p.v.n,.float .f64 p.v.x,.str p.v.s,.bool p.v.b,.int .i64 p.w.kind,.int .i64 p.w.n,.float .f64 p.w.x,.str p.w.s,.bool p.w.b,.slice (encVals p.set)]
def Pred.enc (p:Pred):V:=.agg p.cells
def encPreds (l:List Pred):List V:=l.map Pred.enc
structure Attr where
 name:List UInt8
 v:Val
 deriving DecidableEq,Inhabited
def Attr.cells (a:Attr):List V:=[.str a.name,.int .i64 a.v.kind,.int .i64 a.v.n,.float .f64 a.v.x,.str a.v.s,.bool a.v.b]
def Attr.enc (a:Attr):V:=.agg a.cells
def encAttrs (l:List Attr):List V:=l.map Attr.enc
theorem encVals_length (l:List Val):(encVals l).length=l.length:=by simp [encVals]
theorem encPreds_length (l:List Pred):(encPreds l).length=l.length:=by simp [encPreds]
theorem encAttrs_length (l:List Attr):(encAttrs l).length=l.length:=by simp [encAttrs]
theorem flat_val (v:Val):v.enc.flat=true:=by simp [Val.enc,Val.cells,V.flat,flats]
theorem flats_vals (l:List Val):flats (encVals l)=true:=by
 induction l with
 | nil=>rfl
 | cons x r ih=>simp only [encVals,List.map_cons,flats,flat_val] at ih ⊢;exact ih
theorem flat_pred (v:Pred):v.enc.flat=true:=by simp [Pred.enc,Pred.cells,V.flat,flats,flats_vals]
theorem flats_preds (l:List Pred):flats (encPreds l)=true:=by
 induction l with
 | nil=>rfl
 | cons x r ih=>simp only [encPreds,List.map_cons,flats,flat_pred] at ih ⊢;exact ih
theorem flat_attr (v:Attr):v.enc.flat=true:=by simp [Attr.enc,Attr.cells,V.flat,flats]
theorem flats_attrs (l:List Attr):flats (encAttrs l)=true:=by
 induction l with
 | nil=>rfl
 | cons x r ih=>simp only [encAttrs,List.map_cons,flats,flat_attr] at ih ⊢;exact ih
theorem call_pure {g:G} {f:Nat} {args:List V} {fr:Fr} {st:St} {fi:FI} {v:V} {k:Option Nat} (hx:g.ext f=none)(hf:g.fn f=some fi)(hp:fi.pure=true)
  (h:∀ st,EvF g f args st=some (.ret v k,st)) (hv:v.flat=true):callStep g (EvF g) f args fr st=some (.ok (retE k v) fr st):=by
 unfold callStep
 simp only [hx,hf,hp,if_true,h,hv]
def codeAt:Code→List Bool→Code
 | c,[]=>c
 | .seq a b,x :: r=>if x then codeAt b r else codeAt a r
 | .cond _ a b,x :: r=>if x then codeAt b r else codeAt a r
 | .block _ b,_ :: r=>codeAt b r
 | .loop b,_ :: r=>codeAt b r
 | c,_=>c
noncomputable def codeN (c:Code)(n:Nat):Code:=codeAt c (bitsN 64 n)
def regOps:Code→Array Oper
 | .region _ o _=>o
 | _=>#[]
noncomputable def codeOf (f:Func):Code:=f.body.getD .skip
theorem ib_add (k:IntKind)(a b:Int):intBin .add k a b=some (.int k (k.wrap (a+b))):=rfl
theorem ib_sub (k:IntKind)(a b:Int):intBin .sub k a b=some (.int k (k.wrap (a - b))):=rfl
theorem ib_mul (k:IntKind)(a b:Int):intBin .mul k a b=some (.int k (k.wrap (a*b))):=rfl
theorem ib_eql (k:IntKind)(a b:Int):intBin .eql k a b=some (.bool (decide (a=b))):=by
 show some (V.bool (a == b))=_
 by_cases h:a=b <;> simp [h]
theorem ib_neq (k:IntKind)(a b:Int):intBin .neq k a b=some (.bool (!decide (a=b))):=by
 show some (V.bool (a != b))=_
 by_cases h:a=b <;> simp [h]
theorem ib_lss (k:IntKind)(a b:Int):intBin .lss k a b=some (.bool (decide (a<b))):=rfl
theorem ib_leq (k:IntKind)(a b:Int):intBin .leq k a b=some (.bool (decide (a≤b))):=rfl
theorem ib_gtr (k:IntKind)(a b:Int):intBin .gtr k a b=some (.bool (decide (a > b))):=rfl
theorem ib_geq (k:IntKind)(a b:Int):intBin .geq k a b=some (.bool (decide (a ≥ b))):=rfl
theorem ib_quo (k:IntKind)(a b:Int):intBin .quo k a b=if b=0 then none else some (.int k (k.wrap (a.tdiv b))):=rfl
theorem ib_rem (k:IntKind)(a b:Int):intBin .rem k a b=if b=0 then none else some (.int k (a.tmod b)):=rfl
theorem Val.eta (v:Val):(⟨v.kind,v.n,v.x,v.s,v.b⟩:Val)=v:=rfl
theorem Pred.eta (v:Pred):(⟨v.name,v.test,v.v,v.w,v.set⟩:Pred)=v:=rfl
theorem Attr.eta (v:Attr):(⟨v.name,v.v⟩:Attr)=v:=rfl
theorem encVals_get (l:List Val)(i:Nat):(encVals l)[i]?=(l[i]?).map Val.enc:=by simp [encVals]
theorem encPreds_get (l:List Pred)(i:Nat):(encPreds l)[i]?=(l[i]?).map Pred.enc:=by simp [encPreds]
theorem encAttrs_get (l:List Attr)(i:Nat):(encAttrs l)[i]?=(l[i]?).map Attr.enc:=by simp [encAttrs]
theorem wrap64 {n:Int} (h1:-9223372036854775808≤n)(h2:n≤9223372036854775807):IntKind.wrap .i64 n=n:=by
 rw [IntKind.wrap_i64];omega
theorem str_beq (a b:List UInt8):(a == b)=decide (a=b):=by by_cases h:a=b <;> simp [h]
theorem drop_get {α:Type} {l:List α} {i:Nat} {x:α} (h:l[i]?=some x):l.drop i=x :: l.drop (i+1):=by
 obtain ⟨h1,rfl⟩:=List.getElem?_eq_some_iff.1 h
 exact List.drop_eq_getElem_cons h1
theorem lk_filter {α:Type} (X:List (Nat × α))(d n:Nat)(h:(d == n)=false):lk (X.filter fun x=>!(x.1 == d)) n=lk X n:=by
 induction X with
 | nil=>rfl
 | cons x r ih =>
  obtain ⟨k,e⟩:=x
  simp only [List.filter_cons]
  by_cases hk:(k == d)=true
  ·have hn:(k == n)=false:=by rw [beq_iff_eq] at hk;rw [hk];exact h
   simp only [hk,Bool.not_true,Bool.false_eq_true,if_false,lk,hn,ih]
  ·simp only [hk,Bool.not_false,if_true,lk,ih]
theorem lk_filter' {α:Type} (X:List (Nat × α))(d n:Nat)(h:(d == n)=false):lk (X.filter fun x=>!decide (x.1=d)) n=lk X n:=by
 rw [← lk_filter X d n h]
 congr 2
theorem lk_lset_ne {α:Type} (X:List (Nat × α))(n m:Nat)(x:α)(h:(m == n)=false):lk (lset X n x) m=lk X m:=by
 induction X with
 | nil=>rfl
 | cons y r ih =>
  obtain ⟨k,f⟩:=y
  unfold lset
  by_cases hk:(k == n)=true
  ·have hm:(k == m)=false:=by
    rw [beq_iff_eq] at hk
    cases hb:k == m with
    | false=>rfl
    | true=>rw [beq_iff_eq] at hb;rw [← hb,hk] at h;simp at h
   have hm':(n == m)=false:=by rw [beq_iff_eq] at hk;rw [← hk];exact hm
   simp only [hk,if_true,lk,hm,hm',if_false,Bool.false_eq_true]
  ·simp only [hk,if_false,lk,Bool.false_eq_true,ih]
attribute [simp] lk_filter lk_filter' lk_lset_ne
def Pred.ok (p:Pred):Prop:=p.name.length<4611686018427387904∧p.set.length<4611686018427387904
theorem Pred.ok_iff (p:Pred):p.ok=(p.name.length<4611686018427387904∧p.set.length<4611686018427387904):=propext Iff.rfl
attribute [simp] Pred.ok_iff
theorem encVals_gE (l:List Val)(i:Nat)(h:i<(encVals l).length):(encVals l)[i]'h=(l[i]'(by rw [encVals_length] at h;exact h)).enc:=by simp [encVals]
theorem encPreds_gE (l:List Pred)(i:Nat)(h:i<(encPreds l).length):(encPreds l)[i]'h=(l[i]'(by rw [encPreds_length] at h;exact h)).enc:=by simp [encPreds]
theorem encAttrs_gE (l:List Attr)(i:Nat)(h:i<(encAttrs l).length):(encAttrs l)[i]'h=(l[i]'(by rw [encAttrs_length] at h;exact h)).enc:=by simp [encAttrs]
theorem lt_l0 (n:Nat):((n:Int)<0)=(n<0):=by apply propext;omega
theorem gt_l0 (n:Nat):((0:Int)<n)=(0<n):=by apply propext;omega
theorem le_l0 (n:Nat):((n:Int)≤0)=(n≤0):=by apply propext;omega
theorem ge_l0 (n:Nat):((0:Int)≤n)=(0≤n):=by apply propext;omega
theorem lt_l1 (n:Nat):((n:Int)<1)=(n<1):=by apply propext;omega
theorem gt_l1 (n:Nat):((1:Int)<n)=(1<n):=by apply propext;omega
theorem le_l1 (n:Nat):((n:Int)≤1)=(n≤1):=by apply propext;omega
theorem ge_l1 (n:Nat):((1:Int)≤n)=(1≤n):=by apply propext;omega
theorem lt_l3 (n:Nat):((n:Int)<3)=(n<3):=by apply propext;omega
theorem gt_l3 (n:Nat):((3:Int)<n)=(3<n):=by apply propext;omega
theorem le_l3 (n:Nat):((n:Int)≤3)=(n≤3):=by apply propext;omega
theorem ge_l3 (n:Nat):((3:Int)≤n)=(3≤n):=by apply propext;omega
theorem lt_l4 (n:Nat):((n:Int)<4)=(n<4):=by apply propext;omega
theorem gt_l4 (n:Nat):((4:Int)<n)=(4<n):=by apply propext;omega
theorem le_l4 (n:Nat):((n:Int)≤4)=(n≤4):=by apply propext;omega
theorem ge_l4 (n:Nat):((4:Int)≤n)=(4≤n):=by apply propext;omega
theorem lt_l5 (n:Nat):((n:Int)<5)=(n<5):=by apply propext;omega
theorem gt_l5 (n:Nat):((5:Int)<n)=(5<n):=by apply propext;omega
theorem le_l5 (n:Nat):((n:Int)≤5)=(n≤5):=by apply propext;omega
theorem ge_l5 (n:Nat):((5:Int)≤n)=(5≤n):=by apply propext;omega
theorem lt_l6 (n:Nat):((n:Int)<6)=(n<6):=by apply propext;omega
theorem gt_l6 (n:Nat):((6:Int)<n)=(6<n):=by apply propext;omega
theorem le_l6 (n:Nat):((n:Int)≤6)=(n≤6):=by apply propext;omega
theorem ge_l6 (n:Nat):((6:Int)≤n)=(6≤n):=by apply propext;omega
theorem lt_l8 (n:Nat):((n:Int)<8)=(n<8):=by apply propext;omega
theorem gt_l8 (n:Nat):((8:Int)<n)=(8<n):=by apply propext;omega
theorem le_l8 (n:Nat):((n:Int)≤8)=(n≤8):=by apply propext;omega
theorem ge_l8 (n:Nat):((8:Int)≤n)=(8≤n):=by apply propext;omega
theorem lt_l12 (n:Nat):((n:Int)<12)=(n<12):=by apply propext;omega
theorem gt_l12 (n:Nat):((12:Int)<n)=(12<n):=by apply propext;omega
theorem le_l12 (n:Nat):((n:Int)≤12)=(n≤12):=by apply propext;omega
theorem ge_l12 (n:Nat):((12:Int)≤n)=(12≤n):=by apply propext;omega
theorem lt_l97 (n:Nat):((n:Int)<97)=(n<97):=by apply propext;omega
theorem gt_l97 (n:Nat):((97:Int)<n)=(97<n):=by apply propext;omega
theorem le_l97 (n:Nat):((n:Int)≤97)=(n≤97):=by apply propext;omega
theorem ge_l97 (n:Nat):((97:Int)≤n)=(97≤n):=by apply propext;omega
theorem lt_l122 (n:Nat):((n:Int)<122)=(n<122):=by apply propext;omega
theorem gt_l122 (n:Nat):((122:Int)<n)=(122<n):=by apply propext;omega
theorem le_l122 (n:Nat):((n:Int)≤122)=(n≤122):=by apply propext;omega
theorem ge_l122 (n:Nat):((122:Int)≤n)=(122≤n):=by apply propext;omega
theorem lt_l200 (n:Nat):((n:Int)<200)=(n<200):=by apply propext;omega
theorem gt_l200 (n:Nat):((200:Int)<n)=(200<n):=by apply propext;omega
theorem le_l200 (n:Nat):((n:Int)≤200)=(n≤200):=by apply propext;omega
theorem ge_l200 (n:Nat):((200:Int)≤n)=(200≤n):=by apply propext;omega
theorem lt_l600 (n:Nat):((n:Int)<600)=(n<600):=by apply propext;omega
theorem gt_l600 (n:Nat):((600:Int)<n)=(600<n):=by apply propext;omega
theorem le_l600 (n:Nat):((n:Int)≤600)=(n≤600):=by apply propext;omega
theorem ge_l600 (n:Nat):((600:Int)≤n)=(600≤n):=by apply propext;omega
attribute [simp] lt_l0 gt_l0 le_l0 ge_l0 lt_l1 gt_l1 le_l1 ge_l1 lt_l3 gt_l3 le_l3 ge_l3 lt_l4 gt_l4 le_l4 ge_l4 lt_l5 gt_l5 le_l5 ge_l5 lt_l6 gt_l6 le_l6 ge_l6 lt_l8 gt_l8 le_l8 ge_l8 lt_l12 gt_l12 le_l12 ge_l12 lt_l97 gt_l97 le_l97 ge_l97 lt_l122 gt_l122 le_l122 ge_l122 lt_l200 gt_l200 le_l200 ge_l200 lt_l600 gt_l600 le_l600 ge_l600
theorem cast_eq (a b:Nat):((a:Int)=(b:Int))=(a=b):=by apply propext;omega
attribute [simp] cast_eq
attribute [simp] encVals_gE encPreds_gE encAttrs_gE Val.eta Pred.eta Attr.eta encVals_get encPreds_get encAttrs_get str_beq Val.enc Val.cells Pred.enc Pred.cells Attr.enc Attr.cells
attribute [simp] ib_add ib_sub ib_mul ib_eql ib_neq ib_lss ib_leq ib_gtr ib_geq ib_quo ib_rem flat_val flats_vals flat_pred flats_preds flat_attr flats_attrs encVals_length encPreds_length encAttrs_length
theorem qws (q:Nat)(h:(q:Int)+1<9223372036854775808):IntKind.wrap .i64 ((q:Int)+1)=((q+1:Nat):Int):=by rw [wrap64 (by omega) (by omega)];omega
theorem qgx {α:Type} {l:List α} {i:Nat} (h:i<l.length):∃ x,l[i]?=some x:=⟨l[i],List.getElem?_eq_getElem h⟩
end Go.Ab
namespace Go.Ab
open Go
def flt (x y:Nat):Bool:=FloatKind.f64.format.order x y == some .lt
def fle (x y:Nat):Bool:=FloatKind.f64.format.order x y == some .lt || FloatKind.f64.format.order x y == some .eq
def fgt (x y:Nat):Bool:=FloatKind.f64.format.order x y == some .gt
def fge (x y:Nat):Bool:=FloatKind.f64.format.order x y == some .gt || FloatKind.f64.format.order x y == some .eq
def feq (x y:Nat):Bool:=FloatKind.f64.format.order x y == some .eq
theorem fb_lss (x y:Nat):floatBin .lss .f64 x y=some (.bool (flt x y)):=rfl
theorem fb_leq (x y:Nat):floatBin .leq .f64 x y=some (.bool (fle x y)):=rfl
theorem fb_gtr (x y:Nat):floatBin .gtr .f64 x y=some (.bool (fgt x y)):=rfl
theorem fb_geq (x y:Nat):floatBin .geq .f64 x y=some (.bool (fge x y)):=rfl
theorem fb_eql (x y:Nat):floatBin .eql .f64 x y=some (.bool (feq x y)):=rfl
theorem fb_neq (x y:Nat):floatBin .neq .f64 x y=some (.bool (!feq x y)):=rfl
theorem fs_eq (x y:Nat):Op.floatEq .f64 x y=feq x y:=rfl
attribute [simp] fb_lss fb_leq fb_gtr fb_geq fb_eql fb_neq fs_eq
def sgn (below above:Bool):Int:=if below then -1 else if above then 1 else 0
def ftr (x:Nat):Nat:=(truncV x).getD 0
def ftz (x:Nat):Int:=((FloatKind.f64.decode (ftr x)).toInt .zero).getD 0
def icmp (n:Int)(x:Nat):Int × Bool :=
 if feq x x then
  if fge x 4890909195324358656 then (-1,true)
  else if flt x 14114281232179134464 then (1,true)
  else if ftz x=n then (sgn (flt (ftr x) x) (fgt (ftr x) x),true)
  else (sgn (n<ftz x) (n > ftz x),true)
 else (0,false)
structure PEnd where
 is:Bool
 op:Bool
 v:Val
def PEnd.encP (e:PEnd):V:=.agg [.bool e.is,.bool e.op,.int .i64 e.v.kind,.int .i64 e.v.n,.float .f64 e.v.x,.str e.v.s,.bool e.v.b]
def PEnd.encR (e:PEnd):V:=.agg [.int .i64 e.v.kind,.int .i64 e.v.n,.float .f64 e.v.x,.str e.v.s,.bool e.v.b,.bool e.is,.bool e.op]
theorem PEnd.eta (e:PEnd):(⟨e.is,e.op,e.v⟩:PEnd)=e:=rfl
attribute [simp] PEnd.encP PEnd.encR PEnd.eta
theorem less_irrefl:∀ s:List UInt8,Op.bytesLess s s=false
 | []=>rfl
 | a :: r=>by simp [Op.bytesLess,less_irrefl r]
theorem sgn_bound (a b:Bool):-1≤sgn a b∧sgn a b≤1:=by cases a <;> cases b <;> simp [sgn]
theorem icmp_bound (n:Int)(x:Nat):-1≤(icmp n x).1∧(icmp n x).1≤1:=by
 unfold icmp
 repeat' split
 all_goals first | exact sgn_bound _ _ | simp
theorem wrap_icmp (n:Int)(x:Nat):IntKind.wrap .i64 (-(icmp n x).1) = -(icmp n x).1:=by
 have:=icmp_bound n x
 exact wrap64 (by omega) (by omega)
def opq (b:Bool):Bool:=b
theorem agg_eql (ks:List TK)(x y:List V):binAgg ks .eql x y=(eqCells ks x y).map fun b=>.bool (opq b):=rfl
theorem agg_neq (ks:List TK)(x y:List V):binAgg ks .neq x y=(eqCells ks x y).map fun b=>.bool (!opq b):=rfl
theorem feq00:feq 0 0=true:=by kernel_rfl
attribute [simp] less_irrefl feq00
attribute [simp] wrap_icmp agg_eql agg_neq eqCells eqScalar
end Go.Ab
namespace Go.Ab
open Go
def intVs (l:List Int):List V:=l.map (V.int .i64)
theorem intVs_length (l:List Int):(intVs l).length=l.length:=by simp [intVs]
theorem intVs_get (l:List Int)(i:Nat):(intVs l)[i]?=(l[i]?).map (V.int .i64):=by simp [intVs]
theorem intVs_gE (l:List Int)(i:Nat)(h:i<(intVs l).length):(intVs l)[i]'h=.int .i64 (l[i]'(by rw [intVs_length] at h;exact h)):=by simp [intVs]
theorem flats_ints (l:List Int):flats (intVs l)=true:=by
 induction l with
 | nil=>rfl
 | cons x r ih=>simp only [intVs,List.map_cons,flats,V.flat] at ih ⊢;exact ih
attribute [simp] intVs_length intVs_get intVs_gE flats_ints
def pickI (n m:Int):Int:=if m<1 then 0 else if n.tmod m<0 then n.tmod m+m else n.tmod m
theorem tmod_bound (n:Int) {m:Int} (h:1≤m):-m<n.tmod m∧n.tmod m<m:=by
 have b1:=Int.tmod_lt_of_pos n (by omega:0<m)
 refine ⟨?_,b1⟩
 rcases Int.lt_or_le n 0 with hk | hk
 ·have:n.tmod m = -((-n).tmod m):=by rw [Int.neg_tmod];omega
  have:=Int.tmod_lt_of_pos (-n) (by omega:0<m)
  omega
 ·have:=Int.tmod_nonneg m hk;omega
theorem pickI_bound (n:Int) {m:Int} (h:1≤m):0≤pickI n m∧pickI n m<m:=by
 have:=tmod_bound n h
 unfold pickI
 rw [if_neg (by omega)]
 split <;> omega
def FeedAt (st:St)(id:Nat)(l:List Int)(a:Nat):Prop:=st.objs[id]?=some [.slice (intVs l),.int .i64 a]∧st.wp≤id
theorem FeedAt.lt {st:St} {id:Nat} {l:List Int} {a:Nat} (h:FeedAt st id l a):id<st.objs.length:=(List.getElem?_eq_some_iff.1 h.1).1
def FeedOk (st:St)(id:Nat):Prop:=id<st.objs.length∧st.wp≤id
end Go.Ab
namespace Go.Ab
open Go
def dd (st:St)(m:Nat):St:={st with objs:=st.objs ++ List.replicate m []}
theorem dd_len (st:St)(m:Nat):(dd st m).objs.length=st.objs.length+m:=by simp [dd]
theorem FeedOk.dd {st:St} {id:Nat} (h:FeedOk st id)(m:Nat):FeedOk (dd st m) id:=⟨by rw [dd_len];have:=h.1;omega,h.2⟩
theorem chunk_enc {α:Type} (cells:α→List V)(k:Nat)(hk:0<k)(hl:∀ x,(cells x).length=k):∀ (vs:List α),chunk true k vs.length (vs.flatMap cells)=vs.map fun x=>V.agg (cells x)
 | []=>rfl
 | x :: r=>by
  rw [List.length_cons,chunk,List.flatMap_cons,List.take_left' (hl x),List.drop_left' (hl x),chunk_enc cells k hk hl r];rfl
theorem w64_1:IntKind.wrap .i64 1=1:=by kernel_rfl
end Go.Ab
namespace Go.Ab
open Go
def encPredss (l:List (List Pred)):List V:=l.map fun f=>V.slice (encPreds f)
theorem encPredss_length (l:List (List Pred)):(encPredss l).length=l.length:=by simp [encPredss]
theorem encPredss_get (l:List (List Pred))(i:Nat):(encPredss l)[i]?=(l[i]?).map fun f=>V.slice (encPreds f):=by simp [encPredss]
theorem encPredss_gE (l:List (List Pred))(i:Nat)(h:i<(encPredss l).length):(encPredss l)[i]'h=.slice (encPreds (l[i]'(by rw [encPredss_length] at h;exact h))):=by simp [encPredss]
theorem flats_predss (l:List (List Pred)):flats (encPredss l)=true:=by
 induction l with
 | nil=>rfl
 | cons x r ih=>simp only [encPredss,List.map_cons,flats,V.flat,flats_preds] at ih ⊢;exact ih
attribute [simp] encPredss_length encPredss_get encPredss_gE flats_predss
def POk (f:List Pred):Prop:=f.length<4611686018427387904∧∀ p∈f,p.ok
theorem POk.get {f:List Pred} (h:POk f) {i:Nat} {p:Pred} (hp:f[i]?=some p):p.ok:=h.2 p (zmg hp)
end Go.Ab
namespace Go.Ab
open Go
variable {α:Type}
theorem row_len (c:α→List V)(k:Nat)(hc:∀ x,(c x).length=k):∀ l:List α,(l.flatMap c).length=l.length*k
 | []=>by simp
 | x :: r=>by rw [List.flatMap_cons,zla,hc,row_len c k hc r,List.length_cons,Nat.succ_mul];omega
theorem row_get (c:α→List V)(k:Nat)(hc:∀ x,(c x).length=k) {l:List α} {i j:Nat} {x:α} (hx:l[i]?=some x)(hj:j<k):(l.flatMap c)[i*k+j]?=(c x)[j]?:=by
 have hs:l=l.take i ++ x :: l.drop (i+1):=by
  have h1:=List.take_append_drop i l
  rw [drop_get hx] at h1
  exact h1.symm
 have hl:(l.take i).length=i:=by
  have:=(List.getElem?_eq_some_iff.1 hx).1
  simp;omega
 rw [hs,List.flatMap_append,List.getElem?_append_right (by rw [row_len c k hc,hl];omega),row_len c k hc,hl,Nat.add_sub_cancel_left,List.flatMap_cons,List.getElem?_append_left (by rw [hc];exact hj)]
theorem row_splice (c:α→List V)(k:Nat)(hc:∀ x,(c x).length=k) {l:List α} {i j:Nat} {x y:α} {vs:List V} (hx:l[i]?=some x)(hs:splice (c x) j vs=some (c y)) :
  splice (l.flatMap c) (i*k+j) vs=some ((l.set i y).flatMap c):=by
 have hil:=(List.getElem?_eq_some_iff.1 hx).1
 have hsl:l=l.take i ++ x :: l.drop (i+1):=by
  have h1:=List.take_append_drop i l
  rw [drop_get hx] at h1
  exact h1.symm
 have hl:(l.take i).length=i:=by simp;omega
 have hset:l.set i y=l.take i ++ y :: l.drop (i+1):=by
  conv=>lhs;rw [hsl]
  rw [List.set_append_right _ _ (by rw [hl];omega),hl,Nat.sub_self]
  rfl
 have hA:((l.take i).flatMap c).length=i*k:=by rw [row_len c k hc,hl]
 unfold splice at hs ⊢
 split at hs
 ·rename_i hle
  have hs':=Option.some.inj hs
  rw [hc] at hle
  rw [hset,List.flatMap_append,List.flatMap_cons,← hs']
  conv=>lhs;rw [hsl]
  rw [List.flatMap_append,List.flatMap_cons]
  generalize (l.take i).flatMap c=A at hA ⊢
  generalize (l.drop (i+1)).flatMap c=C
  have hB:=hc x
  generalize c x=B at hB hs' ⊢
  rw [if_pos (by simp only [zla];omega)]
  congr 1
  rw [← hA,List.take_append,List.take_of_length_le (by omega),Nat.add_sub_cancel_left,List.take_append_of_le_length (by omega),List.drop_append,List.drop_of_length_le (by omega),show A.length+j+vs.length - A.length=j+vs.length by omega,List.drop_append_of_le_length (by omega)]
  simp [zaa]
 ·cases hs
theorem row_one (c:α→List V)(hc:∀ x,(c x).all V.one=true):∀ l:List α,(l.flatMap c).all V.one=true
 | []=>rfl
 | x :: r=>by rw [List.flatMap_cons,List.all_append,hc x,row_one c hc r];rfl
theorem call_pure' {g:G} {f:Nat} {args:List V} {fr:Fr} {st:St} {fi:FI} {v:V} {k:Option Nat} (hx:g.ext f=none)(hf:g.fn f=some fi)(hp:fi.pure=true)(ha:flats args=true)
  (h:∃ st',EvF g f args ⟨[],0⟩=some (.ret v k,st')) (hv:v.flat=true):callStep g (EvF g) f args fr st=some (.ok (retE k v) fr st):=by
 obtain ⟨st',h⟩:=h
 unfold callStep
 simp only [hx,hf,hp,if_true,ha,h,hv]
end Go.Ab
namespace Go.Ab
open Go
/-! ### bytes -/
def u8 (x:Int):UInt8:=UInt8.ofNat (IntKind.wrap .u8 x).toNat
theorem wrap8 (x:Int):IntKind.wrap .u8 x=x % 256:=by rw [IntKind.wrap_u8]
theorem wrapU {n:Int} (h1:0≤n)(h2:n≤18446744073709551615):IntKind.wrap .u64 n=n:=by rw [IntKind.wrap_u64];omega
theorem snoc_bytes (bs:List UInt8)(x:Int):byteVs bs ++ [V.int .u8 (IntKind.wrap .u8 x)]=byteVs (bs ++ [u8 x]):=by
 have h:((u8 x).toNat:Int)=IntKind.wrap .u8 x:=by
  unfold u8
  rw [wrap8,UInt8.toNat_ofNat']
  have:=Int.emod_nonneg x (by decide:(256:Int)≠0)
  have:=Int.emod_lt_of_pos x (by decide:(0:Int)<256)
  omega
 simp [byteVs,h]
theorem app_bytes (a b:List UInt8):byteVs a ++ byteVs b=byteVs (a ++ b):=by simp [byteVs]
theorem sizes_bytes (bs:List UInt8):sizesOk 1 (byteVs bs)=true:=by
 induction bs with
 | nil=>rfl
 | cons b r ih=>simp only [byteVs,List.map_cons,sizesOk] at ih ⊢;rw [ih];rfl
theorem flats_bytes (bs:List UInt8):flats (byteVs bs)=true:=by
 induction bs with
 | nil=>rfl
 | cons b r ih=>simp only [byteVs,List.map_cons,flats] at ih ⊢;rw [ih];rfl
theorem byte_get (bs:List UInt8)(j:Nat):(byteVs bs)[j]?=(bs[j]?).map fun c=>.int .u8 c.toNat:=by unfold byteVs;rw [List.getElem?_map]
theorem byte_gE (bs:List UInt8)(j:Nat)(h:j<(byteVs bs).length):(byteVs bs)[j]'h=.int .u8 (bs[j]'(by rw [byteVs_length] at h;exact h)).toNat:=by simp [byteVs]
theorem drop_bytes (bs:List UInt8)(n:Nat):(byteVs bs).drop n=byteVs (bs.drop n):=by simp [byteVs]
theorem land127 (n:Nat)(h:n<2 ^ 63):((BitVec.ofInt 64 (n:Int) &&& BitVec.ofInt 64 127).toNat)=n % 128:=by
 have h1:(BitVec.ofInt 64 (n:Int)).toNat=n:=by simp [BitVec.toNat_ofInt];omega
 have h2:(BitVec.ofInt 64 (127:Int)).toNat=127:=by decide
 rw [BitVec.toNat_and,h1,h2]
 exact Nat.and_two_pow_sub_one_eq_mod n 7
theorem lor128 (n:Nat)(h:n<128):((BitVec.ofInt 8 (n:Int) ||| BitVec.ofInt 8 128).toNat)=n+128:=by
 have h1:(BitVec.ofInt 8 (n:Int)).toNat=n:=by simp [BitVec.toNat_ofInt];omega
 have h2:(BitVec.ofInt 8 (128:Int)).toNat=128:=by decide
 rw [BitVec.toNat_or,h1,h2]
 have h3:=Nat.two_pow_add_eq_or_of_lt (i:=7) (b:=n) (by simpa using h) 1
 rw [Nat.or_comm]
 simp only [Nat.mul_one] at h3
 rw [show (128:Nat)=2 ^ 7 from rfl,← h3];omega
theorem and127 (n:Nat)(h:n<2 ^ 63):intBin .and .i64 (n:Int) 127=some (.int .i64 ((n % 128:Nat):Int)):=by
 show some (V.int .i64 (IntKind.wrap .i64 ((BitVec.ofInt 64 (n:Int) &&& BitVec.ofInt 64 127).toNat)))=_
 rw [land127 n h,wrap64 (by omega) (by omega)]
theorem or128 (n:Nat)(h:n<128):intBin .or .u8 (n:Int) 128=some (.int .u8 (IntKind.wrap .u8 ((n+128:Nat):Int))):=by
 show some (V.int .u8 (IntKind.wrap .u8 ((BitVec.ofInt 8 (n:Int) ||| BitVec.ofInt 8 128).toNat)))=_
 rw [lor128 n h]
theorem or_shift (a y s:Nat)(hs:s≤56)(ha:a<2 ^ s)(hy:y<128):intBin .or .i64 (a:Int) ((y*2 ^ s:Nat):Int)=some (.int .i64 ((a+y*2 ^ s:Nat):Int)):=by
 have hp:2 ^ s≤2 ^ 56:=Nat.pow_le_pow_right (by decide) hs
 have hy2:y*2 ^ s≤127*2 ^ s:=Nat.mul_le_mul_right _ (by omega)
 have hlt:a+y*2 ^ s<2 ^ 63:=by omega
 show some (V.int .i64 (IntKind.wrap .i64 ((BitVec.ofInt 64 (a:Int) ||| BitVec.ofInt 64 ((y*2 ^ s:Nat):Int)).toNat)))=_
 have h1:(BitVec.ofInt 64 (a:Int)).toNat=a:=by simp only [BitVec.toNat_ofInt];omega
 have h2:(BitVec.ofInt 64 ((y*2 ^ s:Nat):Int)).toNat=y*2 ^ s:=by simp only [BitVec.toNat_ofInt];omega
 have h3:=Nat.two_pow_add_eq_or_of_lt ha y
 have h4:(BitVec.ofInt 64 (a:Int) ||| BitVec.ofInt 64 ((y*2 ^ s:Nat):Int)).toNat=a+y*2 ^ s:=by
  rw [BitVec.toNat_or,h1,h2,Nat.or_comm,Nat.mul_comm y,← h3,Nat.add_comm]
 rw [h4,wrap64 (by omega) (by omega)]
def nbF:Nat→Nat→List UInt8
 | 0,_=>[]
 | f+1,n=>if n<128 then [u8 (n:Int)] else u8 ((n % 128+128:Nat):Int) :: nbF f (n / 128)
def nb (n:Nat):List UInt8:=nbF 10 n
def dgr (n got:Nat)(f:List UInt8):List UInt8:=nb n ++ nb got ++ f
/-! ### rows -/
structure Row where
 fr:List UInt8
 out:Bool
 ag:Bool
def Row.cells (r:Row):List V:=[.slice (byteVs r.fr),.bool r.out,.bool r.ag]
def Row.enc (r:Row):V:=.agg [.slice (byteVs r.fr),.bool r.out,.bool r.ag]
def rowsV (l:List Row):List V:=l.flatMap Row.cells
theorem cells_len3 (x:Row):x.cells.length=3:=rfl
theorem rowsV_len (l:List Row):(rowsV l).length=l.length*3:=row_len Row.cells 3 cells_len3 l
theorem rowsV_take {l:List Row} {i:Nat} {x:Row} (h:l[i]?=some x):((rowsV l).drop (i*3)).take 3=x.cells:=by
 obtain ⟨hi,hx⟩:=List.getElem?_eq_some_iff.1 h
 have h1:l=l.take i ++ x :: l.drop (i+1):=by rw [← hx,List.getElem_cons_drop,List.take_append_drop]
 have h2:((l.take i).flatMap Row.cells).length=i*3:=by rw [row_len Row.cells 3 cells_len3,List.length_take,Nat.min_eq_left (by omega)]
 unfold rowsV
 rw [h1,List.flatMap_append,List.flatMap_cons,← h2,List.drop_left,List.take_append_of_le_length (by rw [cells_len3];exact Nat.le_refl _)]
 rfl
theorem rowsV_gout {l:List Row} {i:Nat} {x:Row} (h:l[i]?=some x):(rowsV l)[i*3+1]?=some (.bool x.out):=row_get Row.cells 3 cells_len3 h (by omega)
theorem rowsV_splice {l:List Row} {i j:Nat} {x y:Row} {v:V} (h:l[i]?=some x)(hs:splice x.cells j [v]=some y.cells):splice (rowsV l) (i*3+j) [v]=some (rowsV (l.set i y)):=row_splice Row.cells 3 cells_len3 h hs
theorem rowsV_out {l:List Row} {i:Nat} {x:Row} (h:l[i]?=some x)(b:Bool):splice (rowsV l) (i*3+1) [.bool b]=some (rowsV (l.set i {x with out:=b})):=rowsV_splice h rfl
theorem rowsV_ag {l:List Row} {i:Nat} {x:Row} (h:l[i]?=some x)(b:Bool):splice (rowsV l) (i*3+2) [.bool b]=some (rowsV (l.set i {x with ag:=b})):=rowsV_splice h rfl
theorem splice_eq {cs xs ys:List V} {o:Nat} (h:splice cs o xs=some ys):cs.take o ++ xs ++ cs.drop (o+xs.length)=ys:=by
 unfold splice at h
 split at h
 ·exact Option.some.inj h
 ·cases h
theorem rowsV_out' {l:List Row} {i:Nat} {x:Row} (h:l[i]?=some x)(b:Bool):(rowsV l).take (i*3+1) ++ [.bool b] ++ (rowsV l).drop (i*3+1+1)=rowsV (l.set i {x with out:=b}):=splice_eq (rowsV_out h b)
theorem rowsV_ag' {l:List Row} {i:Nat} {x:Row} (h:l[i]?=some x)(b:Bool):(rowsV l).take (i*3+2) ++ [.bool b] ++ (rowsV l).drop (i*3+2+1)=rowsV (l.set i {x with ag:=b}):=splice_eq (rowsV_ag h b)
def rv (r:Nat)(l:List Row):V:=if l=[] then .sref true 0 0 0 0 else .sref false 3 r 0 l.length
theorem rv_nil (r:Nat):rv r []=.sref true 0 0 0 0:=rfl
theorem rv_pos {r:Nat} {l:List Row} (h:l≠[]):rv r l=.sref false 3 r 0 l.length:=by unfold rv;rw [if_neg h]
theorem rv_cases (r:Nat)(l:List Row):(l=[]∧rv r l=.sref true 0 0 0 0)∨(l≠[]∧rv r l=.sref false 3 r 0 l.length):=by
 by_cases h:l=[]
 ·exact .inl ⟨h,by rw [h];rfl⟩
 ·exact .inr ⟨h,rv_pos h⟩
def endC (w z:Nat)(v:V)(b s g:Nat)(o:Bool)(t:Nat):List V:=[.int .i64 (w:Int),.int .i64 (z:Int),v,.int .i64 (b:Int),.int .i64 (s:Int),.int .i64 (g:Int),.bool o,.int .i64 (t:Int)]
structure Hp (σ:List V→List V→St) (e r:Nat) (p:Prop):Prop where
 oe:∀ C D,St.obj (σ C D) e=some C
 se:∀ C D C',St.set (σ C D) e C'=some (σ C' D)
 orr:p→∀ C D,St.obj (σ C D) r=some D
 sr:p→∀ C D D',St.set (σ C D) r D'=some (σ C D')
 len:∀ C D C' D',(σ C D).objs.length=(σ C' D').objs.length
 wp:∀ C D C' D',(σ C D).wp=(σ C' D').wp
 lw:∀ C D,(σ C D).wp≤(σ C D).objs.length
 oth:∀ C D C' D' j,j≠e→(p→j≠r)→St.obj (σ C D) j=St.obj (σ C' D') j
def apps (S:St)(L:List (List V)):St:={S with objs:=S.objs ++ L}
theorem apps_obj {S:St} {j:Nat} {cs:List V} (h:St.obj S j=some cs)(L:List (List V)):St.obj (apps S L) j=some cs:=by
 unfold St.obj apps at *
 have:=(List.getElem?_eq_some_iff.1 h).1
 rw [List.getElem?_append_left this];exact h
theorem apps_lt {S:St} {j:Nat} (h:j<S.objs.length)(L:List (List V)):St.obj (apps S L) j=St.obj S j:=by
 unfold St.obj apps
 rw [List.getElem?_append_left h]
theorem apps_ge {S:St} {j:Nat} (h:S.objs.length≤j)(L:List (List V)):St.obj (apps S L) j=L[j - S.objs.length]?:=by
 unfold St.obj apps
 rw [List.getElem?_append_right h]
theorem apps_get (S:St)(L:List (List V))(j:Nat):St.obj (apps S L) (S.objs.length+j)=L[j]?:=by
 unfold St.obj apps
 rw [List.getElem?_append_right (by omega)]
 congr 1;omega
theorem apps_set {S S':St} {j:Nat} {cs cs':List V} (h:St.obj S j=some cs)(hs:St.set S j cs'=some S')(L:List (List V)):St.set (apps S L) j cs'=some (apps S' L):=by
 unfold St.obj at h
 have hj:=(List.getElem?_eq_some_iff.1 h).1
 unfold St.set at hs ⊢
 unfold apps
 split at hs
 ·rename_i hw
  cases hs
  rw [if_pos hw,List.set_append_left _ _ hj]
 ·cases hs
theorem apps_put {S:St} (hw:S.wp≤S.objs.length)(L:List (List V))(j:Nat)(cs:List V):St.set (apps S L) (S.objs.length+j) cs=some (apps S (L.set j cs)):=by
 unfold St.set apps
 rw [if_pos (by show S.wp≤_;omega)]
 show some ({objs:=(S.objs ++ L).set _ cs,wp:=S.wp}:St)=_
 rw [List.set_append_right _ _ (by omega)]
 congr 3;congr 1;omega
theorem newRef_apps (fr:Fr)(S:St)(k len:Nat)(cs:List V):newRef fr S k len cs=.ok (.val (.sref false k S.objs.length 0 len)) fr (apps S [cs]):=rfl
theorem Hp.lt {σ:List V→List V→St} {e r:Nat} {p:Prop} (h:Hp σ e r p)(C D:List V):e<(σ C D).objs.length:=(List.getElem?_eq_some_iff.1 (h.oe C D)).1
theorem Hp.oth' {σ:List V→List V→St} {e r:Nat} {p:Prop} (h:Hp σ e r p)(C C' D:List V)(j:Nat)(h1:j≠e):St.obj (σ C D) j=St.obj (σ C' D) j:=by
 by_cases h2:p∧j=r
 ·obtain ⟨hp,rfl⟩:=h2
  rw [h.orr hp,h.orr hp]
 ·exact h.oth C D C' D j h1 (fun hp hj=>h2 ⟨hp,hj⟩)
theorem Hp.apps {σ:List V→List V→St} {e r:Nat} {p:Prop} (h:Hp σ e r p)(L:List (List V)):Hp (fun C D=>Ab.apps (σ C D) L) e r p where
 oe:=fun C D=>apps_obj (h.oe C D) L
 se:=fun C D C'=>apps_set (h.oe C D) (h.se C D C') L
 orr:=fun hp C D=>apps_obj (h.orr hp C D) L
 sr:=fun hp C D D'=>apps_set (h.orr hp C D) (h.sr hp C D D') L
 len:=fun C D C' D'=>by simp only [Ab.apps,zla,h.len C D C' D']
 wp:=fun C D C' D'=>h.wp C D C' D'
 lw:=fun C D=>by have:=h.lw C D;simp only [Ab.apps,zla];omega
 oth:=fun C D C' D' j h1 h2=>by
  have hl:=h.len C D C' D'
  show St.obj (Ab.apps _ _) _=St.obj (Ab.apps _ _) _
  rcases Nat.lt_or_ge j (σ C D).objs.length with hj | hj
  ·rw [apps_lt hj,apps_lt (by omega)];exact h.oth C D C' D' j h1 h2
  ·rw [apps_ge hj,apps_ge (by omega),hl]
theorem Hp.fresh {σ:List V→List V→St} {e r:Nat} {p:Prop} (h:Hp σ e r p)(D0:List V)(L:List (List V))(q:Prop)(hq:q) {N:Nat} (hN:∀ C,(σ C D0).objs.length+L.length=N):Hp (fun C D=>Ab.apps (σ C D0) (L ++ [D])) e N q where
 oe:=fun C D=>apps_obj (h.oe C D0) _
 se:=fun C D C'=>apps_set (h.oe C D0) (h.se C D0 C') _
 orr:=fun _ C D=>by rw [← hN C,apps_get];simp
 sr:=fun _ C D D'=>by rw [← hN C,apps_put (h.lw C D0)];simp
 len:=fun C D C' D'=>by simp only [Ab.apps,zla,h.len C D0 C' D0,List.length_cons]
 wp:=fun C D C' D'=>h.wp C D0 C' D0
 lw:=fun C D=>by have:=h.lw C D0;simp only [Ab.apps,zla];omega
 oth:=fun C D C' D' j h1 h2=>by
  have hl:=h.len C D0 C' D0
  show St.obj (Ab.apps _ _) _=St.obj (Ab.apps _ _) _
  rcases Nat.lt_or_ge j (σ C D0).objs.length with hj | hj
  ·rw [apps_lt hj,apps_lt (by omega)];exact h.oth' C C' D0 j h1
  ·rw [apps_ge hj,apps_ge (by omega),hl]
   have hjn:j≠N:=h2 (by assumption)
   have:=hN C'
   rcases Nat.lt_or_ge (j - (σ C' D0).objs.length) L.length with h3 | h3
   ·rw [List.getElem?_append_left h3,List.getElem?_append_left h3]
   ·rw [List.getElem?_append_right h3,List.getElem?_append_right h3]
    obtain ⟨m,hm⟩:∃ m,j - (σ C' D0).objs.length - L.length=m+1:=⟨j - (σ C' D0).objs.length - L.length - 1,by omega⟩
    rw [hm];rfl
theorem Hp.weaken {σ:List V→List V→St} {e r:Nat} {p q:Prop} (h:Hp σ e r p)(hq:q↔p):Hp σ e r q:={h with orr:=fun x=>h.orr (hq.1 x),sr:=fun x=>h.sr (hq.1 x),oth:=fun C D C' D' j h1 h2=>h.oth C D C' D' j h1 (fun x=>h2 (hq.2 x))}
def prt (F:Nat→Row→Row)(q:Nat)(l:List Row):List Row:=l.mapIdx fun i x=>if i<q then F i x else x
theorem prt_len (F:Nat→Row→Row)(q:Nat)(l:List Row):(prt F q l).length=l.length:=by simp [prt]
theorem prt_zero (F:Nat→Row→Row)(l:List Row):prt F 0 l=l:=by
 unfold prt
 apply List.ext_getElem? ;intro i;simp [List.getElem?_mapIdx]
theorem prt_all (F:Nat→Row→Row)(l:List Row):prt F l.length l=l.mapIdx F:=by
 unfold prt
 apply List.ext_getElem?;intro i
 rw [List.getElem?_mapIdx,List.getElem?_mapIdx]
 rcases Nat.lt_or_ge i l.length with h | h
 ·simp [zge h,h]
 ·simp [List.getElem?_eq_none h]
theorem prt_get (F:Nat→Row→Row) {q:Nat} {l:List Row} {x:Row} (h:l[q]?=some x):(prt F q l)[q]?=some x:=by
 unfold prt;rw [List.getElem?_mapIdx,h];simp
theorem prt_set (F:Nat→Row→Row) {q:Nat} {l:List Row} {x:Row} (h:l[q]?=some x):(prt F q l).set q (F q x)=prt F (q+1) l:=by
 apply List.ext_getElem?;intro i
 rw [List.getElem?_set]
 unfold prt
 rw [List.length_mapIdx,List.getElem?_mapIdx,List.getElem?_mapIdx]
 obtain ⟨hq,hx⟩:=List.getElem?_eq_some_iff.1 h
 by_cases hi:q=i
 ·subst hi;simp [hq,hx]
 ·rw [if_neg hi]
  cases l[i]? with
  | none=>rfl
  | some y =>
   simp only [Option.map_some,Option.some.injEq]
   by_cases h1:i<q
   ·rw [if_pos h1,if_pos (by omega)]
   ·rw [if_neg h1,if_neg (by omega)]
theorem prt_skip (F:Nat→Row→Row) {q:Nat} {l:List Row} {x:Row} (h:l[q]?=some x)(hF:F q x=x):prt F (q+1) l=prt F q l:=by
 rw [← prt_set F h,hF]
 apply List.ext_getElem?;intro i
 rw [List.getElem?_set]
 obtain ⟨hq,hx⟩:=List.getElem?_eq_some_iff.1 h
 split
 ·rename_i hi;subst hi
  rw [prt_len,if_pos hq,prt_get F h]
 ·rfl
theorem prt_ne {F:Nat→Row→Row} {q:Nat} {l:List Row}:prt F q l=[]↔l=[]:=by
 rw [← List.length_eq_zero_iff,prt_len,List.length_eq_zero_iff]
theorem rv_prt (F:Nat→Row→Row)(q r:Nat)(l:List Row):rv r (prt F q l)=rv r l:=by
 unfold rv
 by_cases h:l=[]
 ·rw [if_pos h,if_pos (prt_ne.2 h)]
 ·rw [if_neg h,if_neg (fun h'=>h (prt_ne.1 h')),prt_len]
theorem mapIdx_ne {F:Nat→Row→Row} {l:List Row}:l.mapIdx F=[]↔l=[]:=by
 rw [← List.length_eq_zero_iff,List.length_mapIdx,List.length_eq_zero_iff]
theorem rv_map (F:Nat→Row→Row)(r:Nat)(l:List Row):rv r (l.mapIdx F)=rv r l:=by rw [← prt_all,rv_prt]
def encFs (l:List (List UInt8)):List V:=l.map fun f=>.slice (byteVs f)
theorem encFs_length (l:List (List UInt8)):(encFs l).length=l.length:=by simp [encFs]
theorem encFs_get (l:List (List UInt8))(i:Nat):(encFs l)[i]?=(l[i]?).map fun f=>.slice (byteVs f):=by simp [encFs]
theorem encFs_gE (l:List (List UInt8))(i:Nat)(h:i<(encFs l).length):(encFs l)[i]'h=.slice (byteVs (l[i]'(by rw [encFs_length] at h;exact h))):=by simp [encFs]
theorem flats_fs (l:List (List UInt8)):flats (encFs l)=true:=by
 induction l with
 | nil=>rfl
 | cons x r ih=>simp only [encFs,List.map_cons,flats,V.flat,flats_bytes,Bool.true_and] at ih ⊢;exact ih
theorem sizes_fs (l:List (List UInt8)):sizesOk 1 (encFs l)=true:=by
 induction l with
 | nil=>rfl
 | cons x r ih=>simp only [encFs,List.map_cons,sizesOk] at ih ⊢;rw [ih];rfl
theorem fs_snoc (l:List (List UInt8))(f:List UInt8):encFs l ++ [.slice (byteVs f)]=encFs (l ++ [f]):=by simp [encFs]
theorem fs_app (l m:List (List UInt8)):encFs l ++ encFs m=encFs (l ++ m):=by simp [encFs]
def ko {α:Type} (l:List α):Nat:=if l=[] then 0 else 1
theorem ko_or {α:Type} (l:List α):ko l=0∨ko l=1:=by unfold ko;split <;> simp
theorem ko_snoc {α:Type} (l:List α)(x:α):ko (l ++ [x])=1:=by unfold ko;simp
attribute [simp] byteVs_length flats_bytes encFs_length encFs_get encFs_gE flats_fs
theorem ko_enc (l:List (List UInt8)):(if ko l=0∧¬encFs l=[] then E.own 1 (encFs l) else E.own (ko l) (encFs l))=E.own (ko l) (encFs l):=by
 by_cases h:l=[]
 ·subst h;rfl
 ·rw [if_neg (by unfold ko;simp [h])]
/-! ### what goes out -/
def out1 (b got:Nat):List Row→Nat→List (List UInt8)→List (List UInt8)
 | [],_,acc=>acc
 | r :: l,i,acc=>out1 b got l (i+1) (if r.out && r.ag then acc ++ [dgr (b+i) got r.fr] else acc)
def out2 (b got w:Nat):List Row→Nat→List (List UInt8) × Nat→List (List UInt8) × Nat
 | [],_,acc=>acc
 | r :: l,i,acc=>out2 b got w l (i+1) (if !r.out && decide (i<w) then (acc.1 ++ [dgr (b+i) got r.fr],b+i) else acc)
theorem out1_len (b g:Nat):∀ (l:List Row) (i:Nat) (acc:List (List UInt8)) (N:Nat),acc.length+l.length≤N→(out1 b g l i acc).length≤N
 | [],_,acc,N,h=>by simpa [out1] using h
 | r :: l,i,acc,N,h=>by
  rw [out1]
  refine out1_len b g l (i+1) _ N ?_
  simp only [List.length_cons] at h
  split
  ·simp;omega
  ·omega
def F2 (w i:Nat)(x:Row):Row:=if !x.out && decide (i<w) then {x with out:=true} else x
def F3 (_:Nat)(x:Row):Row:={x with ag:=false}
def FT (_:Nat)(x:Row):Row:={x with ag:=x.out}
def outs (w b g s:Nat)(o:Bool)(l:List Row):List (List UInt8) × Nat :=
 let a:=out2 b g w l 0 (out1 b g l 0 [],s)
 (if a.1=[]∧o=true then [dgr 0 g []] else a.1,a.2)
def tickL (z t:Nat)(l:List Row):Nat × List Row :=
 match l with
 | []=>(0,l)
 | x :: _=>if x.out then (if t+1<z then (t+1,l) else (0,l.mapIdx FT)) else (0,l)
theorem rowsV_snoc (l:List Row)(x:Row):rowsV (l ++ [x])=rowsV l ++ x.cells:=by simp [rowsV]
theorem rowsV_one (l:List Row):(rowsV l).all V.one=true:=row_one Row.cells (fun _=>rfl) l
theorem rowsV_strip (l:List Row):(rowsV l).map V.strip1=rowsV l:=by
 induction l with
 | nil=>rfl
 | cons x r ih=>unfold rowsV at *;rw [List.flatMap_cons,List.map_append,ih];rfl
/-! ### what is read -/
def rdG:Nat→Nat→Nat→List UInt8→Except Int (Nat × Nat)
 | 0,_,_,_=>.error 3
 | _+1,_,_,[]=>.error 2
 | f+1,i,acc,c :: r=>if c.toNat<128 then (if (i=0∨0<c.toNat)∧acc+c.toNat % 128*2 ^ (7*i)≤4611686018427387904 then .ok (acc+c.toNat % 128*2 ^ (7*i),i+1) else .error 3) else rdG f (i+1) (acc+c.toNat % 128*2 ^ (7*i)) r
def rd (B:List UInt8):Except Int (Nat × Nat):=rdG 9 0 0 B
theorem rdG_bound:∀ (f i acc:Nat)(l:List UInt8)(n k:Nat),rdG f i acc l=.ok (n,k)→n≤4611686018427387904∧i<k∧k≤i+l.length
 | 0,i,acc,l,n,k,h=>by cases h
 | f+1,i,acc,[],n,k,h=>by cases h
 | f+1,i,acc,c :: r,n,k,h=>by
  rw [rdG] at h
  split at h
  ·split at h
   ·rename_i hc
    cases h
    exact ⟨hc.2,by omega,by simp⟩
   ·cases h
  ·obtain ⟨h1,h2,h3⟩:=rdG_bound f (i+1) _ r n k h
   exact ⟨h1,by omega,by simp only [List.length_cons];omega⟩
theorem rd_bound {B:List UInt8} {n k:Nat} (h:rd B=.ok (n,k)):n≤4611686018427387904∧0<k∧k≤B.length:=by
 obtain ⟨h1,h2,h3⟩:=rdG_bound 9 0 0 B n k h
 exact ⟨h1,h2,by omega⟩
theorem rdG_err:∀ (f i acc:Nat)(l:List UInt8)(e:Int),rdG f i acc l=.error e→e=2∨e=3
 | 0,i,acc,l,e,h=>by cases h;simp
 | f+1,i,acc,[],e,h=>by cases h;simp
 | f+1,i,acc,c :: r,e,h=>by
  rw [rdG] at h
  split at h
  ·split at h
   ·cases h
   ·cases h;simp
  ·exact rdG_err f (i+1) _ r e h
def pr2 (B:List UInt8):Except Int (Nat × Nat × List UInt8) :=
 match rd B with
 | .error e=>.error e
 | .ok (n,k)=>match rd (B.drop k) with
  | .error e=>.error e
  | .ok (a,k2)=>if n=0∧k+k2<B.length then .error 3 else .ok (n,a,B.drop (k+k2))
theorem fold_apps (S:St)(L:List (List V)):({objs:=S.objs ++ L,wp:=S.wp}:St)=apps S L:=rfl
theorem shl7 (y i:Nat)(hy:y<128)(hi:i<9):shiftV .shl .i64 (y:Int) ((7*i:Nat):Int)=some (.int .i64 ((y*2 ^ (7*i):Nat):Int)):=by
 have hp:2 ^ (7*i)≤2 ^ 56:=Nat.pow_le_pow_right (by decide) (by omega)
 have hy2:y*2 ^ (7*i)≤127*2 ^ (7*i):=Nat.mul_le_mul_right _ (by omega)
 unfold shiftV
 rw [if_neg (by omega)]
 have h1:min ((7*i:Nat):Int).toNat IntKind.i64.bits=7*i:=by
  have:IntKind.i64.bits=64:=rfl
  rw [this];omega
 simp only [h1]
 have h2:(y:Int)*2 ^ (7*i)=((y*2 ^ (7*i):Nat):Int):=by push_cast;rfl
 rw [h2,wrap64 (by omega) (by omega)]
theorem rowsV_drop:∀ (l:List Row)(k:Nat),(rowsV l).drop (k*3)=rowsV (l.drop k)
 | l,0=>by simp
 | [],k+1=>by simp [rowsV]
 | x :: l,k+1=>by
  have:=rowsV_drop l k
  rw [List.drop_succ_cons,← this,show (k+1)*3=3+k*3 from by omega,← List.drop_drop]
  rfl
theorem rowsV_chunk (l:List Row):chunk true 3 l.length (rowsV l)=l.map Row.enc:=by
 have:=chunk_enc Row.cells 3 (by omega) cells_len3 l
 exact this
theorem enc_cells (l:List Row):(l.map Row.enc).flatMap V.cells=rowsV l:=by
 induction l with
 | nil=>rfl
 | cons x r ih=>rw [List.map_cons,List.flatMap_cons,ih];rfl
theorem enc_sizes (l:List Row):sizesOk 3 (l.map Row.enc)=true:=by
 induction l with
 | nil=>rfl
 | cons x r ih=>rw [List.map_cons];simp only [sizesOk];rw [ih];rfl
theorem rowsV_tail (l:List Row)(k:Nat)(hk:k≤l.length):chunk true 3 (l.length - k) (List.map V.strip1 (((rowsV l).drop (k*3)).take ((l.length - k)*3)))=(l.drop k).map Row.enc:=by
 rw [rowsV_drop,← List.length_drop,← rowsV_len,List.take_length,rowsV_strip,rowsV_chunk]
end Go.Ab
namespace Go.Proofs.Ytebjpgoadapabaa
open Go Go.Ab
noncomputable section
variable (fr:Fr)(st:St)(k:Kt)
theorem ty1:gS.ty 1=some {k:=.func,size:=1,agg:=false,zero:=[.nilf]}:=by kernel_rfl
theorem ty3:gS.ty 3=some {k:=.int .i64,size:=1,agg:=false,zero:=[.int .i64 0]}:=by kernel_rfl
theorem ty4:gS.ty 4=some {k:=.bool,size:=1,agg:=false,zero:=[.bool false]}:=by kernel_rfl
theorem ty5:gS.ty 5=some {k:=.int .u8,size:=1,agg:=false,zero:=[.int .u8 0]}:=by kernel_rfl
theorem ty9:gS.ty 9=some {k:=.str,size:=1,agg:=false,zero:=[.str []]}:=by kernel_rfl
theorem ty20:gS.ty 20=some {k:=.iface,size:=1,agg:=false,zero:=[.nili]}:=by kernel_rfl
theorem ty22:gS.ty 22=some {k:=.pointer,size:=1,agg:=false,zero:=[.nilp]}:=by kernel_rfl
theorem ty23:gS.ty 23=some {k:=.int .i64,size:=1,agg:=false,zero:=[.int .i64 0]}:=by kernel_rfl
theorem ty27:gS.ty 27=some {k:=.slice 1 1 false [.int .u8 0],size:=1,agg:=false,zero:=[.osl 0 []]}:=by kernel_rfl
theorem ty28:gS.ty 28=some {k:=.slice 1 24 false [.osl 0 []],size:=1,agg:=false,zero:=[.osl 0 []]}:=by kernel_rfl
theorem ty34:gS.ty 34=some {k:=.slice 4 48 true [.int .i64 0,.int .i64 0,.int .i64 0,.osl 0 []],size:=1,agg:=false,zero:=[.osl 0 []]}:=by kernel_rfl
theorem ty35:gS.ty 35=some {k:=.pointer,size:=1,agg:=false,zero:=[.nilp]}:=by kernel_rfl
theorem ty40:gS.ty 40=some {k:=.struct [(0,1,false),(1,1,false),(2,1,false),(3,1,false)],size:=4,agg:=true,zero:=[.int .i64 0,.int .i64 0,.int .i64 0,.osl 0 []]}:=by kernel_rfl
theorem ty43:gS.ty 43=some {k:=.slice 1 16 false [.str []],size:=1,agg:=false,zero:=[.osl 0 []]}:=by kernel_rfl
theorem ty44:gS.ty 44=some {k:=.array 2 1 false,size:=2,agg:=true,zero:=[.nilp,.nilp]}:=by kernel_rfl
theorem ty45:gS.ty 45=some {k:=.pointer,size:=1,agg:=false,zero:=[.nilp]}:=by kernel_rfl
theorem ty46:gS.ty 46=some {k:=.array 2 1 false,size:=2,agg:=true,zero:=[.nilp,.nilp]}:=by kernel_rfl
theorem ty47:gS.ty 47=some {k:=.array 2 1 false,size:=2,agg:=true,zero:=[.osl 0 [],.osl 0 []]}:=by kernel_rfl
theorem ty48:gS.ty 48=some {k:=.array 2 1 false,size:=2,agg:=true,zero:=[.osl 0 [],.osl 0 []]}:=by kernel_rfl
theorem ty50:gS.ty 50=some {k:=.struct [(0,2,true),(2,2,true),(4,2,true),(6,2,true),(8,2,true)],size:=10,agg:=true,zero:=[.nilp,.nilp,.nilp,.nilp,.osl 0 [],.osl 0 [],.osl 0 [],.osl 0 [],.osl 0 [],.osl 0 []]}:=by kernel_rfl
theorem ty53:gS.ty 53=some {k:=.slice 3 32 true [.osl 0 [],.bool false,.bool false],size:=1,agg:=false,zero:=[.osl 0 []]}:=by kernel_rfl
theorem ty55:gS.ty 55=some {k:=.struct [(0,1,false),(1,1,false),(2,1,false),(3,1,false),(4,1,false),(5,1,false),(6,1,false),(7,1,false)],size:=8,agg:=true,zero:=[.int .i64 0,.int .i64 0,.osl 0 [],.int .i64 0,.int .i64 0,.int .i64 0,.bool false,.int .i64 0]}:=by kernel_rfl
theorem ty57:gS.ty 57=some {k:=.struct [(0,1,false),(1,1,false),(2,1,false)],size:=3,agg:=true,zero:=[.osl 0 [],.bool false,.bool false]}:=by kernel_rfl
theorem ty60:gS.ty 60=some {k:=.pointer,size:=1,agg:=false,zero:=[.nilp]}:=by kernel_rfl
theorem ty61:gS.ty 61=some {k:=.func,size:=1,agg:=false,zero:=[.nilf]}:=by kernel_rfl
theorem ty68:gS.ty 68=some {k:=.struct [(0,1,false),(1,1,false)],size:=2,agg:=true,zero:=[.osl 0 [],.int .i64 0]}:=by kernel_rfl
theorem ty73:gS.ty 73=some {k:=.struct [(0,1,false),(1,1,false),(2,1,false),(3,1,false),(4,1,false),(5,1,false),(6,1,false),(7,1,false),(8,1,false)],size:=9,agg:=true,zero:=[.int .i64 0,.int .i64 0,.osl 0 [],.int .i64 0,.int .i64 0,.int .i64 0,.bool false,.bool false,.int .i64 0]}:=by kernel_rfl
theorem ty74:gS.ty 74=some {k:=.int .u64,size:=1,agg:=false,zero:=[.int .u64 0]}:=by kernel_rfl
theorem ty78:gS.ty 78=some {k:=.pointer,size:=1,agg:=false,zero:=[.nilp]}:=by kernel_rfl
theorem ty80:gS.ty 80=some {k:=.struct [(0,1,false),(1,1,false),(2,1,false)],size:=3,agg:=true,zero:=[.osl 0 [],.int .i64 0,.int .i64 0]}:=by kernel_rfl
theorem con23:gS.con 23=true:=by kernel_rfl
attribute [simp] con23
def fi15:FI:={body:=codeOf Try.f15,ntmps:=17,results:=[.tmp 4],pers:=[0,1,4,5],locals:=[],pure:=true,marks:=[]}
theorem H15:fi15.marks=[]∧fi15.locals=[]∧fi15.results=[.tmp 4]:=⟨rfl,rfl,rfl⟩
theorem fi15_eq:gS.fn 15=some fi15:=by kernel_rfl
theorem st15 (a0 a1:V):startFr fi15 [a0,a1]={ps:=[(0,.val a0),(1,.val a1),(4,.any),(5,.any)],ts:=[],lc:=[]}:=rfl
def b15:Code:=mini (codeOf Try.f15)
def c15_6:Code:=.seq (codeN b15 37) .ret
def c15_5:Code:=.cond (.tmp 7) c15_6 .skip
def c15_3:Code:=.seq (codeN b15 9) c15_5
def c15_16:Code:=codeN b15 87
def c15_15:Code:=.cond (.tmp 12) c15_16 .skip
def c15_13:Code:=.seq (codeN b15 39) c15_15
def c15_18:Code:=.seq (codeN b15 47) .ret
def c15_12:Code:=.seq c15_13 c15_18
def c15_10:Code:=.seq (codeN b15 11) c15_12
def c15_2:Code:=.seq c15_3 c15_10
def c15_0:Code:=.seq (codeN b15 2) c15_2
theorem E15:evK gS fi15 c15_6 fr st k=opsR gS fi15 [qI 4 0 3] fr st (.seq .ret k) ∧
 evK gS fi15 c15_5 fr st k=condK gS fi15 (fr.op (.tmp 7)).bool? c15_6 .skip fr st k ∧
 (evK gS fi15 c15_3 fr st k=opsR gS fi15 [mv 6 1 3,
 qB 7 .lss 3 6 1 3 4] fr st (.seq c15_5 k)) ∧
 (evK gS fi15 c15_16 fr st k=opsR gS fi15 [mv 13 5 3,
 mv 14 1 3,
 bop 15 .add 3 13 14 3 3,
 asn 5 15 3] fr st k) ∧
 evK gS fi15 c15_15 fr st k=condK gS fi15 (fr.op (.tmp 12)).bool? c15_16 .skip fr st k ∧
 (evK gS fi15 c15_13 fr st k=opsR gS fi15 [mv 11 5 3,
 qB 12 .lss 3 11 0 3 4] fr st (.seq c15_15 k)) ∧
 (evK gS fi15 c15_18 fr st k=opsR gS fi15 [mv 16 5 3,
 asn 4 16 3] fr st (.seq .ret k)) ∧
 evK gS fi15 c15_12 fr st k=evK gS fi15 c15_13 fr st (.seq c15_18 k) ∧
 (evK gS fi15 c15_10 fr st k=opsR gS fi15 [mv 8 0 3,
 mv 9 1 3,
 bop 10 .rem 3 8 9 3 3,
 asn 5 10 3] fr st (.seq c15_12 k)) ∧
 evK gS fi15 c15_2 fr st k=evK gS fi15 c15_3 fr st (.seq c15_10 k) ∧
 evK gS fi15 c15_0 fr st k=opsR gS fi15 [qI 4 0 3] fr st (.seq c15_2 k):=⟨evK_rs 2 rfl (by kernel_rfl),rfl,evK_rs 1 rfl (by kernel_rfl),evK_r 5 (by kernel_rfl),rfl,evK_rs 4 rfl (by kernel_rfl),evK_rs 6 rfl (by kernel_rfl),rfl,evK_rs 3 rfl (by kernel_rfl),rfl,evK_rs 0 rfl (by kernel_rfl)⟩
theorem m15:mini fi15.body=c15_0:=by kernel_rfl
theorem c15 (n:Int)(m:Int)(hm1:m≤4611686018427387904)(st:St):EvF gS 15 [.int .i64 n,.int .i64 m] st=some (.ret (.int .i64 (pickI n m)) none,st):=by
 refine EvF_start fi15_eq (fun x h=>by cases h <;> decide) m15 ?_
 rw [st15]
 by_cases h1:m<1
 ·simp [h1,pickI,-zil,-zit,-znl,-znt,ty3,ty4,H15,E15]
 ·have h0:¬ m=0:=by omega
  have hb:=tmod_bound n (m:=m) (by omega)
  by_cases h2:n.tmod m<0
  ·have hw:IntKind.wrap .i64 (n.tmod m+m)=n.tmod m+m:=wrap64 (by omega) (by omega)
   simp [h1,h0,h2,hw,pickI,-zil,-zit,-znl,-znt,ty3,ty4,H15,E15]
  ·simp [h1,h0,h2,pickI,-zil,-zit,-znl,-znt,ty3,ty4,H15,E15]
theorem k15 (n:Int)(m:Int)(hm1:m≤4611686018427387904)(fr:Fr)(st:St):callStep gS (EvF gS) 15 [.int .i64 n,.int .i64 m] fr st=some (.ok (retE none (.int .i64 (pickI n m))) fr st) :=
 call_pure rfl fi15_eq rfl (fun st=>c15 n m hm1 st) (by simp)
theorem x15:gS.ext 15=none:=rfl
theorem p15:fi15.pure=true:=rfl
def fi38:FI:={body:=codeOf Try.f38,ntmps:=12,results:=[.tmp 4],pers:=[0,1,4],locals:=[],pure:=true,marks:=[]}
theorem H38:fi38.marks=[]∧fi38.locals=[]∧fi38.results=[.tmp 4]:=⟨rfl,rfl,rfl⟩
theorem fi38_eq:gS.fn 38=some fi38:=by kernel_rfl
theorem st38 (a0 a1:V):startFr fi38 [a0,a1]={ps:=[(0,.val a0),(1,.val a1),(4,.any)],ts:=[],lc:=[]}:=rfl
def b38:Code:=mini (codeOf Try.f38)
def c38_2:Code:=.seq (codeN b38 5) .ret
theorem e38_2:evK gS fi38 c38_2 fr st k=opsR gS fi38 [mv 5 0 27,
 len1 6 5 27 3,
 mv 7 1 3,
 bop 8 .add 3 6 7 3 3,
 op1 9 (.makeSlice 27 (.const (.int .i64 0)) (.tmp 8)) 27,
 mv 10 0 27,
 qE 11 9 10 27 27,
 asn 4 11 27] fr st (.seq .ret k):=evK_rs 1 rfl (by kernel_rfl)
def c38_0:Code:=.seq (codeN b38 2) c38_2
theorem e38_0:evK gS fi38 c38_0 fr st k=opsR gS fi38 [qN 4 27] fr st (.seq c38_2 k):=evK_rs 0 rfl (by kernel_rfl)
theorem m38:mini fi38.body=c38_0:=by kernel_rfl
theorem c38 (b:List UInt8)(n:Int)(h1:b.length≤1000000)(h2:0≤n)(h3:n≤100)(st:St):EvF gS 38 [.slice (byteVs b),.int .i64 n] st=some (.ret (.slice (byteVs b)) (some 1),st):=by
 refine EvF_start fi38_eq (fun x h=>by cases h <;> decide) m38 ?_
 rw [st38]
 have hw:IntKind.wrap .i64 ((b.length:Int)+n)=(b.length:Int)+n:=wrap64 (by omega) (by omega)
 have c1:(0:Int)≤(b.length:Int)+n:=by omega
 have c2:(b.length:Int)+n≤140737488355328:=by omega
 have c3:b.length≤140737488355328:=by omega
 have hs:=sizes_bytes b
 simp [-zia,hw,c1,c2,c3,hs,-zil,-zit,-znl,-znt,ty3,ty27,H38,e38_2,e38_0]
theorem k38 (b:List UInt8)(n:Int)(h1:b.length≤1000000)(h2:0≤n)(h3:n≤100)(fr:Fr)(st:St):callStep gS (EvF gS) 38 [.slice (byteVs b),.int .i64 n] fr st=some (.ok (retE ((some 1)) (.slice (byteVs b))) fr st) :=
 call_pure rfl fi38_eq rfl (fun st=>c38 b n h1 h2 h3 st) (by simp)
def fi32:FI:={body:=codeOf Try.f32,ntmps:=31,results:=[.tmp 4],pers:=[0,1,4,5],locals:=[],pure:=true,marks:=[]}
theorem H32:fi32.marks=[]∧fi32.locals=[]∧fi32.results=[.tmp 4]:=⟨rfl,rfl,rfl⟩
theorem fi32_eq:gS.fn 32=some fi32:=by kernel_rfl
theorem st32 (a0 a1:V):startFr fi32 [a0,a1]={ps:=[(0,.val a0),(1,.val a1),(4,.any),(5,.any)],ts:=[],lc:=[]}:=rfl
def b32:Code:=mini (codeOf Try.f32)
def c32_8:Code:=.seq (codeN b32 75) .ret
def c32_7:Code:=.cond (.tmp 13) c32_8 .skip
def c32_5:Code:=.seq (codeN b32 19) c32_7
def c32_18:Code:=.cond (.tmp 16) .skip (.exit 0)
def c32_16:Code:=.seq (codeN b32 263) c32_18
def c32_24:Code:=codeN b32 839
def c32_22:Code:=.seq (codeN b32 583) c32_24
def c32_21:Code:=.block 1 c32_22
def c32_15:Code:=.seq c32_16 c32_21
def c32_14:Code:=.loop c32_15
def c32_25:Code:=.seq (codeN b32 47) .ret
theorem e32_25:evK gS fi32 c32_25 fr st k=opsR gS fi32 [mv 26 5 27,
 mv 27 1 3,
 op1 28 (.convert 3 5 (.tmp 27)) 5,
 qS 29 27 28 27,
 qE 30 26 29 27 27,
 asn 4 30 27] fr st (.seq .ret k):=evK_rs 7 rfl (by kernel_rfl)
def c32_12:Code:=.seq (.block 0 c32_14) c32_25
def c32_4:Code:=.seq c32_5 c32_12
def c32_2:Code:=.seq (codeN b32 5) c32_4
def c32_0:Code:=.seq (codeN b32 2) c32_2
theorem E32:(evK gS fi32 c32_8 fr st k=opsR gS fi32 [mv 14 5 27,
 asn 4 14 27] fr st (.seq .ret k)) ∧
 evK gS fi32 c32_7 fr st k=condK gS fi32 (fr.op (.tmp 13)).bool? c32_8 .skip fr st k ∧
 (evK gS fi32 c32_5 fr st k=opsR gS fi32 [mv 8 1 3,
 qB 9 .lss 3 8 0 3 4,
 mv 10 9 4,
 qm 11 1 3 2 false,
 qc 12 .gtr 3 11 4611686018427387904 3 4 2 false,
 qQ 13 10 true 12 4] fr st (.seq c32_7 k)) ∧
 evK gS fi32 c32_18 fr st k=condK gS fi32 (fr.op (.tmp 16)).bool? .skip (.exit 0) fr st k ∧
 (evK gS fi32 c32_16 fr st k=opsR gS fi32 [mv 15 1 3,
 qB 16 .geq 3 15 128 3 4] fr st (.seq c32_18 k)) ∧
 (evK gS fi32 c32_24 fr st k=opsR gS fi32 [mv 24 1 3,
 op1 25 (.binOp .shr 3 (.tmp 24) (.const (.int .u64 7)) 74) 3,
 asn 1 25 3] fr st k) ∧
 (evK gS fi32 c32_22 fr st k=opsR gS fi32 [mv 17 5 27,
 mv 18 1 3,
 qB 19 .and 3 18 127 3 3,
 op1 20 (.convert 3 5 (.tmp 19)) 5,
 op1 21 (.binOp .or 5 (.tmp 20) (.const (.int .u8 128)) 5) 5,
 qS 22 27 21 27,
 qE 23 17 22 27 27,
 asn 5 23 27] fr st (.seq c32_24 k)) ∧
 evK gS fi32 c32_21 fr st k=evK gS fi32 c32_22 fr st (.blk 1 k) ∧
 evK gS fi32 c32_15 fr st k=evK gS fi32 c32_16 fr st (.seq c32_21 k) ∧
 evK gS fi32 c32_12 fr st k=evK gS fi32 c32_14 fr st (.blk 0 (.seq c32_25 k)) ∧
 evK gS fi32 c32_4 fr st k=evK gS fi32 c32_5 fr st (.seq c32_12 k) ∧
 (evK gS fi32 c32_2 fr st k=opsR gS fi32 [mv 6 0 27,
 cal 7 38 [(.tmp 6),(.const (.int .i64 9))] [27,3] 27,
 asn 5 7 27] fr st (.seq c32_4 k)) ∧
 evK gS fi32 c32_0 fr st k=opsR gS fi32 [qN 4 27] fr st (.seq c32_2 k):=⟨evK_rs 3 rfl (by kernel_rfl),rfl,evK_rs 2 rfl (by kernel_rfl),rfl,evK_rs 4 rfl (by kernel_rfl),evK_r 6 (by kernel_rfl),evK_rs 5 rfl (by kernel_rfl),rfl,rfl,rfl,rfl,evK_rs 1 rfl (by kernel_rfl),evK_rs 0 rfl (by kernel_rfl)⟩
theorem m32:mini fi32.body=c32_0:=by kernel_rfl
theorem n32_14 (fr:Fr)(st:St)(k:Kt):nextK gS fi32 (.loop c32_15 k) .normal fr st=evK gS fi32 c32_14 fr st k:=rfl
theorem L32 (b0:List UInt8)(st:St)(R:Out × St)(H:∀ (n:Nat) (out:List UInt8) (T:List (Nat × E)) (X:List (Nat × List V)),n<128→R=(.ret (.slice (byteVs (out ++ [u8 (n:Int)]))) (some 1),st)→out.length≤2000000 →
  evK gS fi32 c32_25 {ps:=[(0,.val (.slice (byteVs b0))),(1,.val (.int .i64 (n:Int))),(4,.own 0 []),(5,.own 1 (byteVs out))],ts:=T,lc:=X} st .nil=some R) :
  ∀ (f n:Nat) (out:List UInt8) (T:List (Nat × E)) (X:List (Nat × List V)),0<f→n<2 ^ 63→n<128 ^ f→out.length+f≤2000000→R=(.ret (.slice (byteVs (out ++ nbF f n))) (some 1),st) →
  evK gS fi32 c32_14 {ps:=[(0,.val (.slice (byteVs b0))),(1,.val (.int .i64 (n:Int))),(4,.own 0 []),(5,.own 1 (byteVs out))],ts:=T,lc:=X} st (.blk 0 (.seq c32_25 .nil))=some R:=by
 intro f
 induction f with
 | zero =>
  intro n out T X h0 h1 h2 h3 hR
  omega
 | succ f ih =>
  intro n out T X h0 h1 h2 h3 hR
  refine evK_loop c32_15 _ _ _ _ rfl ?_
  by_cases h:n<128
  ·have e1:¬ (128:Int)≤(n:Int):=by omega
   rw [show nbF (f+1) n=[u8 (n:Int)] from by rw [nbF,if_pos h]] at hR
   have HH:=H n out
   simp [e1,-zil,-zit,-znl,-znt,ty3,ty4,ty5,ty27,H32,k38,E32,n32_14]
   exact HH _ _ h hR (by omega)
  ·have e1:(128:Int)≤(n:Int):=by omega
   have e2:=and127 n h1
   have e4:IntKind.wrap .u8 ((n % 128:Nat):Int)=((n % 128:Nat):Int):=by rw [wrap8];omega
   have e5:=or128 (n % 128) (Nat.mod_lt _ (by decide))
   have e6:((n:Int)).fdiv 128=((n / 128:Nat):Int):=by rw [Int.fdiv_eq_ediv_of_nonneg _ (by decide)];omega
   have e7:IntKind.wrap .i64 ((n / 128:Nat):Int)=((n / 128:Nat):Int):=wrap64 (by omega) (by omega)
   have hk:out.length+1≤140737488355328:=by omega
   have h5:n / 128<128 ^ f:=by rw [Nat.div_lt_iff_lt_mul (by decide)];rw [Nat.pow_succ] at h2;exact h2
   rw [show nbF (f+1) n=u8 ((n % 128+128:Nat):Int) :: nbF f (n / 128) from by rw [nbF,if_neg h],List.append_cons] at hR
   have IH:=fun T X=>ih (n / 128) (out ++ [u8 ((n % 128+128:Nat):Int)]) T X (by rcases Nat.eq_zero_or_pos f with h9 | h9;(subst h9;omega);exact h9) (by omega) h5 (by simp;omega) hR
   have hs:=sizes_bytes out
   have hs2:=fun x=>snoc_bytes out x
   have e6':IntKind.wrap .i64 ((n:Int).fdiv 128)=((n / 128:Nat):Int):=by rw [e6,e7]
   generalize n / 128=nd at *
   generalize n % 128=nm at *
   simp [-Int.natCast_emod,-Int.natCast_ediv,-zia,shiftV,IntKind.bits,e1,e2,e4,e5,e6,e6',e7,hk,hs,hs2,-zil,-zit,-znl,-znt,ty3,ty4,ty5,ty27,H32,k38,E32,e32_25,n32_14]
   exact IH _ _
theorem c32 (b:List UInt8)(n:Nat)(h1:b.length≤1000000)(hn:n≤4611686018427387904)(st:St):EvF gS 32 [.slice (byteVs b),.int .i64 (n:Int)] st=some (.ret (.slice (byteVs (b ++ nb n))) (some 1),st):=by
 refine EvF_start fi32_eq (fun x h=>by cases h <;> decide) m32 ?_
 rw [st32]
 generalize hR:(Out.ret (V.slice (byteVs (b ++ nb n))) (some 1),st)=R
 have kb:=fun fr st=>k38 b 9 h1 (by omega) (by omega) fr st
 have e1:¬ (n:Int)<0:=by omega
 have e2:¬ (4611686018427387904:Int)<(n:Int):=by omega
 have LL:=L32 b st R (fun n out T X h hR hol=>by
  have hk:out.length+1≤140737488355328:=by omega
  have hs:=sizes_bytes out
  have hs2:=fun x=>snoc_bytes out x
  have e4:IntKind.wrap .u8 (n:Int)=(n:Int):=by rw [wrap8];omega
  have hs3:=snoc_bytes out (n:Int)
  rw [e4] at hs3
  simp [-zia,hk,hs,hs3,e4,hR,-zil,-zit,-znl,-znt,ty3,ty4,ty5,ty27,H32,k38,E32,e32_25,n32_14]) 10 n b
 simp [kb,e1,e2,-zil,-zit,-znl,-znt,ty3,ty4,ty5,ty27,H32,E32,e32_25,n32_14]
 exact LL _ _ (by omega) (by omega) (by omega) (by omega) hR.symm
theorem k32 (b:List UInt8)(n:Nat)(h1:b.length≤1000000)(hn:n≤4611686018427387904)(fr:Fr)(st:St):callStep gS (EvF gS) 32 [.slice (byteVs b),.int .i64 (n:Int)] fr st=some (.ok (.own 1 (byteVs (b ++ nb n))) fr st) :=
 call_pure rfl fi32_eq rfl (fun st=>c32 b n h1 hn st) (by simp)
theorem x32:gS.ext 32=none:=rfl
theorem p32:fi32.pure=true:=rfl
theorem nbF_len:∀ (f n:Nat),(nbF f n).length≤f
 | 0,n=>by simp [nbF]
 | f+1,n=>by
  rw [nbF];split
  ·simp
  ·simpa using nbF_len f (n / 128)
theorem nb_len (n:Nat):(nb n).length≤10:=nbF_len 10 n
def fi20:FI:={body:=codeOf Try.f20,ntmps:=16,results:=[.tmp 6],pers:=[0,1,2,6],locals:=[],pure:=true,marks:=[]}
theorem H20:fi20.marks=[]∧fi20.locals=[]∧fi20.results=[.tmp 6]:=⟨rfl,rfl,rfl⟩
theorem fi20_eq:gS.fn 20=some fi20:=by kernel_rfl
theorem st20 (a0 a1 a2:V):startFr fi20 [a0,a1,a2]={ps:=[(0,.val a0),(1,.val a1),(2,.val a2),(6,.any)],ts:=[],lc:=[]}:=rfl
def b20:Code:=mini (codeOf Try.f20)
def r20_3:Array Oper:=regOps (codeN (codeOf Try.f20) 5)
def c20_3:Code:=.region 1 r20_3 true
def q20_3:List (Oper × Fl):=[(mv 7 1 3,qz0),
 (cal 8 32 [(.const (.slice none 0 0)),(.tmp 7)] [27,3] 27,qz1),
 (mv 9 0 22,qz2),
 (op1 10 (.nilCheck (.tmp 9)) 0,qz0),
 (qF 11 55 10 5 0,qz0),
 (ld 12 3 11 3,qz0),
 (cal 13 32 [(.tmp 8),(.tmp 12)] [27,3] 27,qz1),
 (mv 14 2 27,qz3),
 (qE 15 13 14 27 27,qz4),
 (asn 6 15 27,qz5)]
theorem e20_3:evK gS fi20 c20_3 fr st k=drwR gS fi20 r20_3 q20_3 fr st k:=evK_dr 1 rfl (by kernel_rfl) (by kernel_rfl)
def c20_2:Code:=.seq c20_3 .ret
theorem e20_2:evK gS fi20 c20_2 fr st k=evK gS fi20 c20_3 fr st (.seq .ret k):=rfl
def c20_0:Code:=.seq (codeN b20 2) c20_2
theorem e20_0:evK gS fi20 c20_0 fr st k=opsR gS fi20 [qN 6 27] fr st (.seq c20_2 k):=evK_rs 0 rfl (by kernel_rfl)
theorem m20:mini fi20.body=c20_0:=by kernel_rfl
theorem c20 (e n:Nat)(f:List UInt8)(w z:Nat)(v:V)(b s g:Nat)(o:Bool)(t:Nat)(hn:n≤4611686018427387904)(hg:g≤4611686018427387904)(hf:f.length≤1000000)(st:St)(he:St.obj st e=some (endC w z v b s g o t)) :
  EvF gS 20 [.ptr e 0,.int .i64 (n:Int),.slice (byteVs f)] st=some (.ret (.slice (byteVs (dgr n g f))) (some 1),st):=by
 refine EvF_start fi20_eq (fun x h=>by cases h <;> decide) m20 ?_
 rw [st20]
 have k1:=fun fr st=>k32 [] n (by simp) hn fr st
 have k2:=fun fr st=>k32 (nb n) g (by have:=nb_len n;omega) hg fr st
 have l1:=nb_len n
 have l2:=nb_len g
 rw [show byteVs []=([]:List V) from rfl,List.nil_append] at k1
 have hs:=sizes_bytes f
 have hs2:=sizes_bytes (nb n ++ nb g)
 have hk:(nb n ++ nb g).length+f.length≤140737488355328:=by simp;omega
 have ha:=app_bytes (nb n ++ nb g) f
 have ho:handOk r20_3 9 15=true:=by kernel_rfl
 unfold dgr
 unfold endC at he
 generalize nb n ++ nb g=ng at *
 generalize nb n=nn at *
 simp [-St.obj,-St.set,-zia,he,ho,k1,k2,hs,hs2,hk,ha,-zil,-zit,-znl,-znt,ty3,ty22,ty27,ty55,H20,x32,fi32_eq,p32,e20_3,q20_3,e20_2,e20_0]
theorem k20 (e n:Nat)(f:List UInt8)(w z:Nat)(v:V)(b s g:Nat)(o:Bool)(t:Nat)(hn:n≤4611686018427387904)(hg:g≤4611686018427387904)(hf:f.length≤1000000)(fr:Fr)(st:St)(he:St.obj st e=some (endC w z v b s g o t)) :
  callStep gS (EvF gS) 20 [.ptr e 0,.int .i64 (n:Int),.slice (byteVs f)] fr st=some (.ok (.own 1 (byteVs (dgr n g f))) fr st):=by
 unfold callStep
 simp only [show gS.ext 20=none from rfl,fi20_eq,show fi20.pure=true from rfl,if_true,show flats [V.ptr e 0,V.int .i64 (n:Int),V.slice (byteVs f)]=false from rfl,Bool.false_eq_true,if_false]
 rw [c20 e n f w z v b s g o t hn hg hf _ (by exact he)]
 simp [V.flat,retE]
theorem x20:gS.ext 20=none:=rfl
theorem p20:fi20.pure=true:=rfl
def fi41:FI:={body:=codeOf Try.f41,ntmps:=6,results:=[],pers:=[0],locals:=[],pure:=false,marks:=[]}
theorem H41:fi41.marks=[]∧fi41.locals=[]∧fi41.results=[]:=⟨rfl,rfl,rfl⟩
theorem fi41_eq:gS.fn 41=some fi41:=by kernel_rfl
theorem st41 (a0:V):startFr fi41 [a0]={ps:=[(0,.val a0)],ts:=[],lc:=[]}:=rfl
def b41:Code:=mini (codeOf Try.f41)
def c41_3:Code:=codeN b41 5
theorem e41_3:evK gS fi41 c41_3 fr st k=opsR gS fi41 [mv 4 0 23,
 op1 5 (.makeInterface 23 (.tmp 4)) 20,
 mk none (.panic (.tmp 5)) 0 none] fr st k:=evK_r 1 (by kernel_rfl)
def c41_2:Code:=.cond (.tmp 3) c41_3 .skip
theorem e41_2:evK gS fi41 c41_2 fr st k=condK gS fi41 (fr.op (.tmp 3)).bool? c41_3 .skip fr st k:=rfl
def c41_0:Code:=.seq (codeN b41 2) c41_2
theorem e41_0:evK gS fi41 c41_0 fr st k=opsR gS fi41 [mv 2 0 23,
 qB 3 .neq 23 2 0 23 4] fr st (.seq c41_2 k):=evK_rs 0 rfl (by kernel_rfl)
theorem m41:mini fi41.body=c41_0:=by kernel_rfl
def fi40:FI:={body:=codeOf Try.f40,ntmps:=8,results:=[],pers:=[0,1],locals:=[],pure:=false,marks:=[]}
theorem H40:fi40.marks=[]∧fi40.locals=[]∧fi40.results=[]:=⟨rfl,rfl,rfl⟩
theorem fi40_eq:gS.fn 40=some fi40:=by kernel_rfl
theorem st40 (a0 a1:V):startFr fi40 [a0,a1]={ps:=[(0,.val a0),(1,.val a1)],ts:=[],lc:=[]}:=rfl
def b40:Code:=mini (codeOf Try.f40)
def c40_3:Code:=codeN b40 5
theorem e40_3:evK gS fi40 c40_3 fr st k=opsR gS fi40 [mv 6 1 23,
 cal 7 41 [(.tmp 6)] [23] 0] fr st k:=evK_r 1 (by kernel_rfl)
def c40_2:Code:=.cond (.tmp 5) c40_3 .skip
theorem e40_2:evK gS fi40 c40_2 fr st k=condK gS fi40 (fr.op (.tmp 5)).bool? c40_3 .skip fr st k:=rfl
def c40_0:Code:=.seq (codeN b40 2) c40_2
theorem e40_0:evK gS fi40 c40_0 fr st k=opsR gS fi40 [mv 4 0 4,
 op1 5 (.unOp .not 4 (.tmp 4)) 4] fr st (.seq c40_2 k):=evK_rs 0 rfl (by kernel_rfl)
theorem m40:mini fi40.body=c40_0:=by kernel_rfl
theorem c41 (e:Int)(st:St):EvF gS 41 [.int .i64 e] st=some (if e=0 then .ret (.tuple []) none else .pan (.iface 23 (.int .i64 e)),st):=by
 refine EvF_start fi41_eq (fun x h=>by cases h <;> decide) m41 ?_
 rw [st41]
 by_cases h:e=0
 ·simp [h,-zil,-zit,-znl,-znt,ty4,ty20,ty23,H41,e41_3,e41_2,e41_0]
 ·simp [h,-zil,-zit,-znl,-znt,ty4,ty20,ty23,H41,e41_3,e41_2,e41_0]
theorem c40 (b:Bool)(e:Int)(he:e≠0)(st:St):EvF gS 40 [.bool b,.int .i64 e] st=some (if b=true then .ret (.tuple []) none else .pan (.iface 23 (.int .i64 e)),st):=by
 have h41:∀ fr,callStep gS (EvF gS) 41 [.int .i64 e] fr st=some (.pan (.iface 23 (.int .i64 e)) st):=by
  intro fr
  unfold callStep
  simp only [show gS.ext 41=none from rfl,fi41_eq,show fi41.pure=false from rfl,Bool.false_eq_true,if_false,c41,if_neg he]
 refine EvF_start fi40_eq (fun x h=>by cases h <;> decide) m40 ?_
 rw [st40]
 cases b
 ·simp [h41,-zil,-zit,-znl,-znt,ty4,ty23,H40,e40_3,e40_2,e40_0]
 ·simp [h41,-zil,-zit,-znl,-znt,ty4,ty23,H40,e40_3,e40_2,e40_0]
theorem k40 (b:Bool)(e:Int)(he:e≠0)(fr:Fr)(st:St):callStep gS (EvF gS) 40 [.bool b,.int .i64 e] fr st=some (if b=true then .ok (.val (.tuple [])) (fr.map E.noMem) st else .pan (.iface 23 (.int .i64 e)) st):=by
 unfold callStep
 simp only [show gS.ext 40=none from rfl,fi40_eq,show fi40.pure=false from rfl,Bool.false_eq_true,if_false,c40 b e he]
 cases b <;> rfl
end
end Go.Proofs.Ytebjpgoadapabaa
namespace Go.Proofs.Ytebjpgoadapabaa
open Go Go.Ab
noncomputable section
variable (fr:Fr)(st:St)(k:Kt)
def fi10:FI:={body:=codeOf Try.f10,ntmps:=124,results:=[.tmp 2],pers:=[0,2,3,4,5,6,7,8,12,13,14,42,43,44,108,109],locals:=[5,7],pure:=false,marks:=[]}
theorem H10:fi10.marks=[]∧fi10.locals=[5,7]∧fi10.results=[.tmp 2]:=⟨rfl,rfl,rfl⟩
theorem fi10_eq:gS.fn 10=some fi10:=by kernel_rfl
theorem st10 (a0:V):startFr fi10 [a0]={ps:=[(0,.val a0),(2,.any),(3,.any),(4,.any),(5,.any),(6,.any),(7,.any),(8,.any),(12,.any),(13,.any),(14,.any),(42,.any),(43,.any),(44,.any),(108,.any),(109,.any)],ts:=[],lc:=[]}:=rfl
def b10:Code:=mini (codeOf Try.f10)
def r10_22:Array Oper:=regOps (codeN (codeOf Try.f10) 11467)
def c10_22:Code:=.region 6 r10_22 true
def q10_22:List (Oper × Fl):=[(mv 25 3 28,qz0),
 (mv 26 0 22,qz0),
 (mv 27 0 22,qz2),
 (op1 28 (.nilCheck (.tmp 27)) 0,qz2),
 (qF 29 55 28 3 0,qz0),
 (ld 30 3 29 3,qz0),
 (mv 31 4 3,qz0),
 (bop 32 .add 3 30 31 3 3,qz0),
 (qF 33 57 5 0 0,qz3),
 (ld 34 27 33 27,qz3),
 (cal 35 20 [(.tmp 26),(.tmp 32),(.tmp 34)] [22,3,27] 27,qz6),
 (qS 36 28 35 28,qz3),
 (qE 37 25 36 28 28,qz4),
 (asn 3 37 28,qz5)]
def c10_21:Code:=.cond (.tmp 24) c10_22 .skip
def c10_19:Code:=.seq (codeN b10 5323) c10_21
def c10_17:Code:=.seq (codeN b10 2251) c10_19
def c10_24:Code:=codeN b10 971
def c10_15:Code:=.seq (.block 1 c10_17) c10_24
def c10_11:Code:=.seq (.cond (.tmp 15) .skip (.exit 0)) c10_15
def c10_9:Code:=.seq (codeN b10 139) c10_11
def c10_8:Code:=.loop c10_9
def c10_7:Code:=.block 0 c10_8
def c10_5:Code:=.seq (codeN b10 19) c10_7
def r10_44:Array Oper:=regOps (codeN (codeOf Try.f10) 39319)
def c10_44:Code:=.region 12 r10_44 true
def q10_44:List (Oper × Fl):=[(mv 60 3 28,qz0),
 (mv 61 0 22,qz0),
 (mv 62 0 22,qz2),
 (op1 63 (.nilCheck (.tmp 62)) 0,qz2),
 (qF 64 55 63 3 0,qz0),
 (ld 65 3 64 3,qz0),
 (mv 66 6 3,qz0),
 (bop 67 .add 3 65 66 3 3,qz0),
 (qF 68 57 7 0 0,qz3),
 (ld 69 27 68 27,qz3),
 (cal 70 20 [(.tmp 61),(.tmp 67),(.tmp 69)] [22,3,27] 27,qz6),
 (qS 71 28 70 28,qz3),
 (qE 72 60 71 28 28,qz4),
 (asn 3 72 28,qz5)]
def c10_47:Code:=codeN b10 121239
def c10_45:Code:=.seq (codeN b10 88471) c10_47
def c10_43:Code:=.seq c10_44 c10_45
def c10_42:Code:=.cond (.tmp 59) c10_43 .skip
def c10_40:Code:=.seq (codeN b10 10647) c10_42
def c10_38:Code:=.seq (codeN b10 4503) c10_40
def c10_49:Code:=codeN b10 1943
def c10_36:Code:=.seq (.block 3 c10_38) c10_49
def c10_32:Code:=.seq (.cond (.tmp 45) .skip (.exit 2)) c10_36
def c10_30:Code:=.seq (codeN b10 279) c10_32
def c10_29:Code:=.loop c10_30
def c10_28:Code:=.block 2 c10_29
def c10_26:Code:=.seq (codeN b10 39) c10_28
def c10_54:Code:=codeN b10 175
def c10_53:Code:=.cond (.tmp 98) c10_54 .skip
def c10_51:Code:=.seq (codeN b10 79) c10_53
def c10_71:Code:=codeN b10 26207
def c10_69:Code:=.seq (codeN b10 18015) c10_71
def c10_72:Code:=codeN b10 7775
def c10_67:Code:=.seq (.block 5 c10_69) c10_72
def c10_63:Code:=.seq (.cond (.tmp 110) .skip (.exit 4)) c10_67
def c10_61:Code:=.seq (codeN b10 1119) c10_63
def c10_60:Code:=.loop c10_61
def c10_59:Code:=.block 4 c10_60
def c10_57:Code:=.seq (codeN b10 159) c10_59
def c10_75:Code:=.seq (codeN b10 383) .ret
def c10_73:Code:=.seq (codeN b10 191) c10_75
theorem e10_73:evK gS fi10 c10_73 fr st k=opsR gS fi10 [mv 120 0 22,
 op1 121 (.nilCheck (.tmp 120)) 0,
 qF 122 55 121 6 0,
 mk none (.store 4 (.tmp 122) (.const (.bool false))) 0 none] fr st (.seq c10_75 k):=evK_rs 23 rfl (by kernel_rfl)
def c10_56:Code:=.seq c10_57 c10_73
theorem e10_56:evK gS fi10 c10_56 fr st k=evK gS fi10 c10_57 fr st (.seq c10_73 k):=rfl
def c10_50:Code:=.seq c10_51 c10_56
theorem e10_50:evK gS fi10 c10_50 fr st k=evK gS fi10 c10_51 fr st (.seq c10_56 k):=rfl
def c10_25:Code:=.seq c10_26 c10_50
theorem e10_25:evK gS fi10 c10_25 fr st k=evK gS fi10 c10_26 fr st (.seq c10_50 k):=rfl
def c10_4:Code:=.seq c10_5 c10_25
def c10_2:Code:=.seq (codeN b10 5) c10_4
def c10_0:Code:=.seq (codeN b10 2) c10_2
theorem E10:evK gS fi10 c10_22 fr st k=drwR gS fi10 r10_22 q10_22 fr st k ∧
 evK gS fi10 c10_21 fr st k=condK gS fi10 (fr.op (.tmp 24)).bool? c10_22 .skip fr st k ∧
 (evK gS fi10 c10_19 fr st k=opsR gS fi10 [qF 19 57 5 1 0,
 ld 20 4 19 4,
 mv 21 20 4,
 qf 22 57 5 2 0 2 true,
 ql 23 4 22 4 2 true,
 qP 24 21 23 false 4] fr st (.seq c10_21 k)) ∧
 (evK gS fi10 c10_17 fr st k=opsR gS fi10 [mv 16 14 3,
 ixa 17 53 12 14 0,
 ld 18 57 17 57,
 op1 5 (.alloc 57) 0,
 asn 4 16 3,
 sto 57 5 18] fr st (.seq c10_19 k)) ∧
 (evK gS fi10 c10_24 fr st k=opsR gS fi10 [qB 38 .add 3 14 1 3 3,
 mv 14 38 3] fr st k) ∧
 evK gS fi10 c10_15 fr st k=evK gS fi10 c10_17 fr st (.blk 1 (.seq c10_24 k)) ∧
 evK gS fi10 c10_11 fr st k=condK gS fi10 (fr.op (.tmp 15)).bool? .skip (.exit 0) fr st (.seq c10_15 k) ∧
 evK gS fi10 c10_9 fr st k=opsR gS fi10 [bop 15 .lss 3 14 13 3 0] fr st (.seq c10_11 k) ∧
 evK gS fi10 c10_7 fr st k=evK gS fi10 c10_8 fr st (.blk 0 k) ∧
 (evK gS fi10 c10_5 fr st k=opsR gS fi10 [mv 9 0 22,
 op1 10 (.nilCheck (.tmp 9)) 0,
 qF 11 55 10 2 0,
 ld 12 53 11 53,
 len1 13 12 53 3,
 op1 14 (.move (.const (.int .i64 0))) 3] fr st (.seq c10_7 k)) ∧
 evK gS fi10 c10_44 fr st k=drwR gS fi10 r10_44 q10_44 fr st k ∧
 (evK gS fi10 c10_47 fr st k=opsR gS fi10 [mv 80 0 22,
 mv 81 0 22,
 op1 82 (.nilCheck (.tmp 81)) 0,
 qF 83 55 82 3 0,
 ld 84 3 83 3,
 mv 85 6 3,
 bop 86 .add 3 84 85 3 3,
 op1 87 (.nilCheck (.tmp 80)) 0,
 qF 88 55 87 4 0,
 sto 3 88 86] fr st k) ∧
 (evK gS fi10 c10_45 fr st k=opsR gS fi10 [mv 73 0 22,
 op1 74 (.nilCheck (.tmp 73)) 0,
 qF 75 55 74 2 0,
 ld 76 53 75 53,
 mv 77 6 3,
 ixa 78 53 76 77 0,
 qF 79 57 78 1 0,
 mk none (.store 4 (.tmp 79) (.const (.bool true))) 0 none] fr st (.seq c10_47 k)) ∧
 evK gS fi10 c10_43 fr st k=evK gS fi10 c10_44 fr st (.seq c10_45 k) ∧
 evK gS fi10 c10_42 fr st k=condK gS fi10 (fr.op (.tmp 59)).bool? c10_43 .skip fr st k ∧
 (evK gS fi10 c10_40 fr st k=opsR gS fi10 [qF 49 57 7 1 0,
 ld 50 4 49 4,
 op1 51 (.unOp .not 4 (.tmp 50)) 4,
 mv 52 51 4,
 qm 53 6 3 3 true,
 qm 54 0 22 3 true,
 mk (some 55) (.nilCheck (.tmp 54)) 0 (some (3,true)),
 qf 56 55 55 0 0 3 true,
 ql 57 3 56 3 3 true,
 qb 58 .lss 3 53 57 3 4 3 true,
 qP 59 52 58 false 4] fr st (.seq c10_42 k)) ∧
 (evK gS fi10 c10_38 fr st k=opsR gS fi10 [mv 46 44 3,
 ixa 47 53 42 44 0,
 ld 48 57 47 57,
 op1 7 (.alloc 57) 0,
 asn 6 46 3,
 sto 57 7 48] fr st (.seq c10_40 k)) ∧
 (evK gS fi10 c10_49 fr st k=opsR gS fi10 [qB 89 .add 3 44 1 3 3,
 mv 44 89 3] fr st k) ∧
 evK gS fi10 c10_36 fr st k=evK gS fi10 c10_38 fr st (.blk 3 (.seq c10_49 k)) ∧
 evK gS fi10 c10_32 fr st k=condK gS fi10 (fr.op (.tmp 45)).bool? .skip (.exit 2) fr st (.seq c10_36 k) ∧
 evK gS fi10 c10_30 fr st k=opsR gS fi10 [bop 45 .lss 3 44 43 3 0] fr st (.seq c10_32 k) ∧
 evK gS fi10 c10_28 fr st k=evK gS fi10 c10_29 fr st (.blk 2 k) ∧
 (evK gS fi10 c10_26 fr st k=opsR gS fi10 [mv 39 0 22,
 op1 40 (.nilCheck (.tmp 39)) 0,
 qF 41 55 40 2 0,
 ld 42 53 41 53,
 len1 43 42 53 3,
 op1 44 (.move (.const (.int .i64 0))) 3] fr st (.seq c10_28 k)) ∧
 (evK gS fi10 c10_54 fr st k=opsR gS fi10 [mv 99 3 28,
 mv 100 0 22,
 cal 101 20 [(.tmp 100),(.const (.int .i64 0)),(.const (.slice none 0 0))] [22,3,27] 27,
 qS 102 28 101 28,
 qE 103 99 102 28 28,
 asn 3 103 28] fr st k) ∧
 evK gS fi10 c10_53 fr st k=condK gS fi10 (fr.op (.tmp 98)).bool? c10_54 .skip fr st k ∧
 (evK gS fi10 c10_51 fr st k=opsR gS fi10 [mv 90 3 28,
 len1 91 90 28 3,
 qB 92 .eql 3 91 0 3 4,
 mv 93 92 4,
 qm 94 0 22 3 true,
 mk (some 95) (.nilCheck (.tmp 94)) 0 (some (3,true)),
 qf 96 55 95 6 0 3 true,
 ql 97 4 96 4 3 true,
 qP 98 93 97 false 4] fr st (.seq c10_53 k)) ∧
 (evK gS fi10 c10_71 fr st k=opsR gS fi10 [mv 112 0 22,
 op1 113 (.nilCheck (.tmp 112)) 0,
 qF 114 55 113 2 0,
 ld 115 53 114 53,
 mv 116 8 3,
 ixa 117 53 115 116 0,
 qF 118 57 117 2 0,
 mk none (.store 4 (.tmp 118) (.const (.bool false))) 0 none] fr st k) ∧
 (evK gS fi10 c10_69 fr st k=opsR gS fi10 [mv 111 109 3,
 asn 8 111 3] fr st (.seq c10_71 k)) ∧
 (evK gS fi10 c10_72 fr st k=opsR gS fi10 [qB 119 .add 3 109 1 3 3,
 mv 109 119 3] fr st k) ∧
 evK gS fi10 c10_67 fr st k=evK gS fi10 c10_69 fr st (.blk 5 (.seq c10_72 k)) ∧
 evK gS fi10 c10_63 fr st k=condK gS fi10 (fr.op (.tmp 110)).bool? .skip (.exit 4) fr st (.seq c10_67 k) ∧
 evK gS fi10 c10_61 fr st k=opsR gS fi10 [bop 110 .lss 3 109 108 3 0] fr st (.seq c10_63 k) ∧
 evK gS fi10 c10_59 fr st k=evK gS fi10 c10_60 fr st (.blk 4 k) ∧
 (evK gS fi10 c10_57 fr st k=opsR gS fi10 [mv 104 0 22,
 op1 105 (.nilCheck (.tmp 104)) 0,
 qF 106 55 105 2 0,
 ld 107 53 106 53,
 len1 108 107 53 3,
 op1 109 (.move (.const (.int .i64 0))) 3] fr st (.seq c10_59 k)) ∧
 (evK gS fi10 c10_75 fr st k=opsR gS fi10 [mv 123 3 28,
 asn 2 123 28] fr st (.seq .ret k)) ∧
 evK gS fi10 c10_4 fr st k=evK gS fi10 c10_5 fr st (.seq c10_25 k) ∧
 evK gS fi10 c10_2 fr st k=opsR gS fi10 [qN 3 28] fr st (.seq c10_4 k) ∧
 evK gS fi10 c10_0 fr st k=opsR gS fi10 [qN 2 28] fr st (.seq c10_2 k):=⟨evK_dr 6 rfl (by kernel_rfl) (by kernel_rfl),rfl,evK_rs 5 rfl (by kernel_rfl),evK_rs 4 rfl (by kernel_rfl),evK_r 7 (by kernel_rfl),rfl,rfl,evK_rs 3 rfl (by kernel_rfl),rfl,evK_rs 2 rfl (by kernel_rfl),evK_dr 12 rfl (by kernel_rfl) (by kernel_rfl),evK_r 14 (by kernel_rfl),evK_rs 13 rfl (by kernel_rfl),rfl,rfl,evK_rs 11 rfl (by kernel_rfl),evK_rs 10 rfl (by kernel_rfl),evK_r 15 (by kernel_rfl),rfl,rfl,evK_rs 9 rfl (by kernel_rfl),rfl,evK_rs 8 rfl (by kernel_rfl),evK_r 17 (by kernel_rfl),rfl,evK_rs 16 rfl (by kernel_rfl),evK_r 21 (by kernel_rfl),evK_rs 20 rfl (by kernel_rfl),evK_r 22 (by kernel_rfl),rfl,rfl,evK_rs 19 rfl (by kernel_rfl),rfl,evK_rs 18 rfl (by kernel_rfl),evK_rs 24 rfl (by kernel_rfl),rfl,evK_rs 1 rfl (by kernel_rfl),evK_rs 0 rfl (by kernel_rfl)⟩
theorem m10:mini fi10.body=c10_0:=by kernel_rfl
theorem n10_8 (fr:Fr)(st:St)(k:Kt):nextK gS fi10 (.loop c10_9 k) .normal fr st=evK gS fi10 c10_8 fr st k:=rfl
theorem n10_29 (fr:Fr)(st:St)(k:Kt):nextK gS fi10 (.loop c10_30 k) .normal fr st=evK gS fi10 c10_29 fr st k:=rfl
theorem n10_60 (fr:Fr)(st:St)(k:Kt):nextK gS fi10 (.loop c10_61 k) .normal fr st=evK gS fi10 c10_60 fr st k:=rfl
theorem LA10 (e r w z b g:Nat)(o:Bool)(t:Nat)(l:List Row)(hb:b≤1000000)(hg:g≤1000000)(hl7:l.length≤100000)(hfr:∀ x∈l,x.fr.length≤1000000)(R:Out × St)(s1:Nat)(S:St)(he:St.obj S e=some (endC w z (rv r l) b s1 g o t)) (hz7:l≠[]→St.obj S r=some (rowsV l))  (fin:List (List UInt8))
  (H:∀ (e4 e5:E) (T:List (Nat × E)) (X:List (Nat × List V)),e4.Tame→e5.Tame→evK gS fi10 c10_25 {ps:=[(0,.val (.ptr e 0)),(2,.own 0 []),(3,.own (ko fin) (encFs fin)),(4,e4),(5,e5),(6,.any),(7,.any),(8,.any),(12,.val (rv r l)),(13,.val (.int .i64 l.length)),(14,.val (.int .i64 l.length)),(42,.any),(43,.any),(44,.any),(108,.any),(109,.any)],ts:=T,lc:=X} S .nil=some R) :
  ∀ (m q:Nat) (out:List (List UInt8)) (e4 e5:E) (T:List (Nat × E)) (X:List (Nat × List V)) (h4:e4.Tame) (h5:e5.Tame),q≤l.length→l.length - q=m→fin=out1 b g (l.drop q) q out→out.length≤q →
  evK gS fi10 c10_8 {ps:=[(0,.val (.ptr e 0)),(2,.own 0 []),(3,.own (ko out) (encFs out)),(4,e4),(5,e5),(6,.any),(7,.any),(8,.any),(12,.val (rv r l)),(13,.val (.int .i64 l.length)),(14,.val (.int .i64 (q:Nat))),(42,.any),(43,.any),(44,.any),(108,.any),(109,.any)],ts:=T,lc:=X} S (.blk 0 (.seq c10_25 .nil))=some R:=by
 intro m
 induction m with
 | zero =>
  intro q out e4 e5 T X h4 h5 hq hm2 hf hol
  obtain rfl:q=l.length:=by omega
  rw [List.drop_length] at hf
  have hf2:fin=out:=hf
  subst hf2
  refine evK_loop c10_9 _ _ _ _ rfl ?_
  simp (config:={implicitDefEqProofs:=false}) [-zia,-St.obj,-St.set,h4,h5,-zil,-zit,-znl,-znt,ty3,ty4,ty22,ty27,ty28,ty53,ty55,ty57,H10,x20,fi20_eq,p20,E10,q10_22,q10_44,e10_73,e10_56,e10_50,n10_8,n10_29,n10_60]
  exact H _ _ _ _ h4 h5
 | succ m ih =>
  intro q out e4 e5 T X h4 h5 hq hm2 hf hol
  obtain ⟨x,hx⟩  := qgx (l:=l) (i:=q) (by omega)
  have hlt:(q:Int)<(l.length:Int):=by omega
  obtain ⟨hlt2,hxe⟩:=List.getElem?_eq_some_iff.1 hx
  have hw  := qws q (by omega)
  have hne:l≠[]:=by intro h;subst h;simp at hlt2
  have hrv:=rv_pos (r:=r) hne
  have hro:=hz7 hne
  have htk:=rowsV_take hx
  have hlen:=rowsV_len l
  have hln:q*3+3≤l.length*3:=by omega
  have hxf:=hfr x (zmg hx)
  have hwb:IntKind.wrap .i64 ((b:Int)+(q:Int))=((b+q:Nat):Int):=by rw [wrap64 (by omega) (by omega)];omega
  have kd:=fun fr=>k20 e (b+q) x.fr w z (rv r l) b s1 g o t (by omega) (by omega) hxf fr S he
  rw [drop_get hx,show out1 b g (x :: l.drop (q+1)) q out=out1 b g (l.drop (q+1)) (q+1) (if x.out && x.ag then out ++ [dgr (b+q) g x.fr] else out) from rfl] at hf
  unfold endC at he
  rw [hrv] at H ih ⊢
  have hs1:=sizes_fs out
  have hs2:=fs_snoc out (dgr (b+q) g x.fr)
  have b1:(out.length+1)*24≤140737488355328:=by omega
  have b2:out.length+1≤140737488355328:=by omega
  have bo1:borOk r10_22 0 3 25=true:=by kernel_rfl
  have bo2:handOk r10_22 13 37=true:=by kernel_rfl
  have hko:=ko_or out
  obtain ⟨f,xo,xa⟩:=x
  simp only at hf kd hs2
  simp only [Row.cells] at htk
  generalize hD:rowsV l=D at *
  refine evK_loop c10_9 _ _ _ _ rfl ?_
  by_cases hc:(xo && xa)=true
  ·rw [if_pos hc] at hf
   rw [Bool.and_eq_true] at hc
   obtain ⟨rfl,rfl⟩:=hc
   have IH:=fun e4 e5 T X h4 h5=>ih (q+1) (out ++ [dgr (b+q) g f]) e4 e5 T X h4 h5 (by omega) (by omega) hf (by simp;omega)
   rw [ko_snoc] at IH
   simp (config:={implicitDefEqProofs:=false}) [-zia,-zaa,-St.obj,-St.set,h4,h5,he,hro,htk,hlen,hln,hlt,hlt2,hw,hwb,kd,hs1,hs2,b1,b2,bo1,bo2,hko,-zil,-zit,-znl,-znt,ty3,ty4,ty22,ty27,ty28,ty53,ty55,ty57,H10,x20,fi20_eq,p20,E10,q10_22,q10_44,e10_73,e10_56,e10_50,e10_25,n10_8,n10_29,n10_60]
   refine IH _ _ _ _ ?_ ?_
   all_goals simp [h4,h5,tame_lp]
  ·rw [if_neg hc] at hf
   have IH:=fun e4 e5 T X h4 h5=>ih (q+1) out e4 e5 T X h4 h5 (by omega) (by omega) hf (by omega)
   cases xo with
   | true =>
    obtain rfl:xa=false:=by simpa using hc
    simp (config:={implicitDefEqProofs:=false}) [-zia,-zaa,-St.obj,-St.set,h4,h5,he,hro,htk,hlen,hln,hlt,hlt2,hw,hwb,-zil,-zit,-znl,-znt,ty3,ty4,ty22,ty27,ty28,ty53,ty55,ty57,H10,x20,fi20_eq,p20,E10,q10_22,q10_44,e10_73,e10_56,e10_50,e10_25,n10_8,n10_29,n10_60]
    refine IH _ _ _ _ ?_ ?_
    all_goals simp [h4,h5,tame_lp]
   | false =>
    simp (config:={implicitDefEqProofs:=false}) [-zia,-zaa,-St.obj,-St.set,h4,h5,he,hro,htk,hlen,hln,hlt,hlt2,hw,hwb,-zil,-zit,-znl,-znt,ty3,ty4,ty22,ty27,ty28,ty53,ty55,ty57,H10,x20,fi20_eq,p20,E10,q10_22,q10_44,e10_73,e10_56,e10_50,e10_25,n10_8,n10_29,n10_60]
    refine IH _ _ _ _ ?_ ?_
    all_goals simp [h4,h5,tame_lp]
theorem LB10 (e r w z b g:Nat)(o:Bool)(t:Nat)(l:List Row)(hb:b≤1000000)(hg:g≤1000000)(hl7:l.length≤100000)(hfr:∀ x∈l,x.fr.length≤1000000)(R:Out × St)(σ:List V→List V→St)(hσ:Hp σ e r (l≠[]))  (fin:List (List UInt8) × Nat)
  (H:∀ (e4 e5 e6 e7:E) (T:List (Nat × E)) (X:List (Nat × List V)),e4.Tame→e5.Tame→e6.Tame→e7.Tame→evK gS fi10 c10_50 {ps:=[(0,.val (.ptr e 0)),(2,.own 0 []),(3,.own (ko fin.1) (encFs fin.1)),(4,e4),(5,e5),(6,e6),(7,e7),(8,.any),(12,.val (rv r l)),(13,.val (.int .i64 l.length)),(14,.val (.int .i64 l.length)),(42,.val (rv r l)),(43,.val (.int .i64 l.length)),(44,.val (.int .i64 l.length)),(108,.any),(109,.any)],ts:=T,lc:=X} (σ (endC w z (rv r l) b fin.2 g o t) (rowsV (prt (F2 w) l.length l))) .nil=some R) :
  ∀ (m q:Nat) (ac:List (List UInt8) × Nat) (e4 e5 e6 e7:E) (T:List (Nat × E)) (X:List (Nat × List V)) (h4:e4.Tame) (h5:e5.Tame) (h6:e6.Tame) (h7:e7.Tame),q≤l.length→l.length - q=m→fin=out2 b g w (l.drop q) q ac→ac.1.length≤100000+q →
  evK gS fi10 c10_29 {ps:=[(0,.val (.ptr e 0)),(2,.own 0 []),(3,.own (ko ac.1) (encFs ac.1)),(4,e4),(5,e5),(6,e6),(7,e7),(8,.any),(12,.val (rv r l)),(13,.val (.int .i64 l.length)),(14,.val (.int .i64 l.length)),(42,.val (rv r l)),(43,.val (.int .i64 l.length)),(44,.val (.int .i64 (q:Nat))),(108,.any),(109,.any)],ts:=T,lc:=X} (σ (endC w z (rv r l) b ac.2 g o t) (rowsV (prt (F2 w) q l))) (.blk 2 (.seq c10_50 .nil))=some R:=by
 intro m
 induction m with
 | zero =>
  intro q ac e4 e5 e6 e7 T X h4 h5 h6 h7 hq hm2 hf hol
  obtain rfl:q=l.length:=by omega
  rw [List.drop_length] at hf
  have hf2:fin=ac:=hf
  subst hf2
  refine evK_loop c10_30 _ _ _ _ rfl ?_
  simp (config:={implicitDefEqProofs:=false}) [-zia,-St.obj,-St.set,h4,h5,h6,h7,-zil,-zit,-znl,-znt,ty3,ty4,ty22,ty27,ty28,ty53,ty55,ty57,H10,x20,fi20_eq,p20,E10,q10_22,q10_44,e10_73,e10_56,e10_25,n10_8,n10_29,n10_60]
  exact H _ _ _ _ _ _ h4 h5 h6 h7
 | succ m ih =>
  intro q ac e4 e5 e6 e7 T X h4 h5 h6 h7 hq hm2 hf hol
  obtain ⟨x,hx⟩  := qgx (l:=l) (i:=q) (by omega)
  have hlt:(q:Int)<(l.length:Int):=by omega
  obtain ⟨hlt2,hxe⟩:=List.getElem?_eq_some_iff.1 hx
  have hw  := qws q (by omega)
  have hne:l≠[]:=by intro h;subst h;simp at hlt2
  have hrv:=rv_pos (r:=r) hne
  have hro:=hσ.orr hne
  have hso:=hσ.sr hne
  have hln:q*3+3≤l.length*3:=by omega
  have hxf:=hfr x (zmg hx)
  have hwb:IntKind.wrap .i64 ((b:Int)+(q:Int))=((b+q:Nat):Int):=by rw [wrap64 (by omega) (by omega)];omega
  have hx2:=prt_get (F2 w) hx
  have htk:=rowsV_take hx2
  have hlen:=rowsV_len (prt (F2 w) q l)
  rw [prt_len] at hlen
  have hsp:=rowsV_out' hx2 true
  have hsl:q*3+1+1≤l.length*3:=by omega
  have hps:=prt_set (F2 w) hx
  have hpk:=prt_skip (F2 w) hx
  have kd:=fun fr=>k20 e (b+q) x.fr w z (rv r l) b ac.2 g o t (by omega) (by omega) hxf fr (σ (endC w z (rv r l) b ac.2 g o t) (rowsV (prt (F2 w) q l))) (hσ.oe _ _)
  rw [drop_get hx,show out2 b g w (x :: l.drop (q+1)) q ac=out2 b g w (l.drop (q+1)) (q+1) (if !x.out && decide (q<w) then (ac.1 ++ [dgr (b+q) g x.fr],b+q) else ac) from rfl] at hf
  have hoe:=hσ.oe
  have hse:=hσ.se
  obtain ⟨out,s1⟩:=ac
  simp only at hol hf kd
  unfold endC at kd H ih ⊢
  rw [hrv] at kd H ih ⊢
  have hs1:=sizes_fs out
  have hs2:=fs_snoc out (dgr (b+q) g x.fr)
  have b1:(out.length+1)*24≤140737488355328:=by omega
  have b2:out.length+1≤140737488355328:=by omega
  have bo1:borOk r10_44 0 3 60=true:=by kernel_rfl
  have bo2:handOk r10_44 13 72=true:=by kernel_rfl
  have hko:=ko_or out
  have hnone:(decide (q<w):Bool)=decide ((q:Int)<(w:Int)):=by simp
  obtain ⟨f,xo,xa⟩:=x
  simp only at hf kd hs2 hsp
  simp only [Row.cells] at htk
  refine evK_loop c10_30 _ _ _ _ rfl ?_
  cases xo with
  | true =>
   have hD:=hpk (by simp [F2])
   simp only [Bool.not_true,Bool.false_and,Bool.false_eq_true,if_false] at hf
   have IH:=fun e4 e5 e6 e7 T X h4 h5 h6 h7=>ih (q+1) (out,s1) e4 e5 e6 e7 T X h4 h5 h6 h7 (by omega) (by omega) hf (by simp;omega)
   rw [hD] at IH
   generalize rowsV (prt (F2 w) q l)=D at *
   simp (config:={implicitDefEqProofs:=false}) [-zia,-zaa,-St.obj,-St.set,h4,h5,h6,h7,hoe,hro,htk,hlen,hln,hlt,hlt2,hw,hwb,-zil,-zit,-znl,-znt,ty3,ty4,ty22,ty27,ty28,ty53,ty55,ty57,H10,x20,fi20_eq,p20,E10,q10_22,q10_44,e10_73,e10_56,e10_50,e10_25,n10_8,n10_29,n10_60]
   refine IH _ _ _ _ _ _ ?_ ?_ ?_ ?_
   all_goals simp [h4,h5,h6,h7,tame_lp]
  | false =>
   by_cases hc:q<w
   ·have hci:(q:Int)<(w:Int):=by omega
    simp only [Bool.not_false,Bool.true_and,hc,decide_true,if_true] at hf
    rw [show F2 w q ⟨f,false,xa⟩=⟨f,true,xa⟩ from by simp [F2,hc]] at hps
    have IH:=fun e4 e5 e6 e7 T X h4 h5 h6 h7=>ih (q+1) (out ++ [dgr (b+q) g f],b+q) e4 e5 e6 e7 T X h4 h5 h6 h7 (by omega) (by omega) hf (by simp;omega)
    rw [ko_snoc,← hps] at IH
    generalize rowsV (prt (F2 w) q l)=D at *
    simp (config:={implicitDefEqProofs:=false}) [-zia,-zaa,-St.obj,-St.set,h4,h5,h6,h7,hoe,hse,hro,hso,htk,hlen,hln,hlt,hlt2,hw,hwb,hci,hc,kd,hs1,hs2,b1,b2,bo1,bo2,hko,hsp,hsl,-zil,-zit,-znl,-znt,ty3,ty4,ty22,ty27,ty28,ty53,ty55,ty57,H10,x20,fi20_eq,p20,E10,q10_22,q10_44,e10_73,e10_56,e10_50,e10_25,n10_8,n10_29,n10_60]
    refine IH _ _ _ _ _ _ ?_ ?_ ?_ ?_
    all_goals simp [h4,h5,h6,h7,tame_lp]
   ·have hci:¬ (q:Int)<(w:Int):=by omega
    have hD:=hpk (by simp [F2,hc])
    simp only [Bool.not_false,Bool.true_and,hc,decide_false,Bool.false_eq_true,if_false] at hf
    have IH:=fun e4 e5 e6 e7 T X h4 h5 h6 h7=>ih (q+1) (out,s1) e4 e5 e6 e7 T X h4 h5 h6 h7 (by omega) (by omega) hf (by simp;omega)
    rw [hD] at IH
    generalize rowsV (prt (F2 w) q l)=D at *
    simp (config:={implicitDefEqProofs:=false}) [-zia,-zaa,-St.obj,-St.set,h4,h5,h6,h7,hoe,hro,htk,hlen,hln,hlt,hlt2,hw,hwb,hci,hc,-zil,-zit,-znl,-znt,ty3,ty4,ty22,ty27,ty28,ty53,ty55,ty57,H10,x20,fi20_eq,p20,E10,q10_22,q10_44,e10_73,e10_56,e10_50,e10_25,n10_8,n10_29,n10_60]
    refine IH _ _ _ _ _ _ ?_ ?_ ?_ ?_
    all_goals simp [h4,h5,h6,h7,tame_lp]
theorem LC10 (e r w z b g:Nat)(o:Bool)(t:Nat)(l:List Row)(hb:b≤1000000)(hg:g≤1000000)(hl7:l.length≤100000)(hfr:∀ x∈l,x.fr.length≤1000000)(R:Out × St)(σ:List V→List V→St)(hσ:Hp σ e r (l≠[]))(s1:Nat)(outs:List (List UInt8))
  (H:∀ (e4 e5 e6 e7 e8 e12 e13 e14 e42 e43 e44:E) (T:List (Nat × E)) (X:List (Nat × List V)),e4.Tame→e5.Tame→e6.Tame→e7.Tame→e8.Tame→e12.Tame→e13.Tame→e14.Tame→e42.Tame→e43.Tame→e44.Tame→evK gS fi10 c10_73 {ps:=[(0,.val (.ptr e 0)),(2,.own 0 []),(3,.own (ko outs) (encFs outs)),(4,e4),(5,e5),(6,e6),(7,e7),(8,e8),(12,e12),(13,e13),(14,e14),(42,e42),(43,e43),(44,e44),(108,.val (.int .i64 l.length)),(109,.val (.int .i64 l.length))],ts:=T,lc:=X} (σ (endC w z (rv r l) b s1 g o t) (rowsV (prt F3 l.length l))) .nil=some R) :
  ∀ (m q:Nat) (e4 e5 e6 e7 e8 e12 e13 e14 e42 e43 e44:E) (T:List (Nat × E)) (X:List (Nat × List V)) (h4:e4.Tame) (h5:e5.Tame) (h6:e6.Tame) (h7:e7.Tame) (h8:e8.Tame) (h12:e12.Tame) (h13:e13.Tame) (h14:e14.Tame) (h42:e42.Tame) (h43:e43.Tame) (h44:e44.Tame),q≤l.length→l.length - q=m →
  evK gS fi10 c10_60 {ps:=[(0,.val (.ptr e 0)),(2,.own 0 []),(3,.own (ko outs) (encFs outs)),(4,e4),(5,e5),(6,e6),(7,e7),(8,e8),(12,e12),(13,e13),(14,e14),(42,e42),(43,e43),(44,e44),(108,.val (.int .i64 l.length)),(109,.val (.int .i64 (q:Nat)))],ts:=T,lc:=X} (σ (endC w z (rv r l) b s1 g o t) (rowsV (prt F3 q l))) (.blk 4 (.seq c10_73 .nil))=some R:=by
 intro m
 induction m with
 | zero =>
  intro q e4 e5 e6 e7 e8 e12 e13 e14 e42 e43 e44 T X h4 h5 h6 h7 h8 h12 h13 h14 h42 h43 h44 hq hm2
  obtain rfl:q=l.length:=by omega
  refine evK_loop c10_61 _ _ _ _ rfl ?_
  simp (config:={implicitDefEqProofs:=false}) [-zia,-St.obj,-St.set,h4,h5,h6,h7,h8,h12,h13,h14,h42,h43,h44,-zil,-zit,-znl,-znt,ty3,ty4,ty22,ty27,ty28,ty53,ty55,ty57,H10,x20,fi20_eq,p20,E10,q10_22,q10_44,e10_56,e10_50,e10_25,n10_8,n10_29,n10_60]
  exact H _ _ _ _ _ _ _ _ _ _ _ _ _ h4 h5 h6 h7 h8 h12 h13 h14 h42 h43 h44
 | succ m ih =>
  intro q e4 e5 e6 e7 e8 e12 e13 e14 e42 e43 e44 T X h4 h5 h6 h7 h8 h12 h13 h14 h42 h43 h44 hq hm2
  obtain ⟨x,hx⟩  := qgx (l:=l) (i:=q) (by omega)
  have hlt:(q:Int)<(l.length:Int):=by omega
  obtain ⟨hlt2,hxe⟩:=List.getElem?_eq_some_iff.1 hx
  have hw  := qws q (by omega)
  have hne:l≠[]:=by intro h;subst h;simp at hlt2
  have hrv:=rv_pos (r:=r) hne
  have hro:=hσ.orr hne
  have hso:=hσ.sr hne
  have hln:q*3+3≤l.length*3:=by omega
  have hxf:=hfr x (zmg hx)
  have hwb:IntKind.wrap .i64 ((b:Int)+(q:Int))=((b+q:Nat):Int):=by rw [wrap64 (by omega) (by omega)];omega
  have hx2:=prt_get F3 hx
  have htk:=rowsV_take hx2
  have hlen:=rowsV_len (prt F3 q l)
  rw [prt_len] at hlen
  have hsl:q*3+2+1≤l.length*3:=by omega
  have hps:=prt_set F3 hx
  have hoe:=hσ.oe
  have hse:=hσ.se
  unfold endC at H ih ⊢
  rw [hrv] at H ih ⊢
  have IH:=fun e4 e5 e6 e7 e8 e12 e13 e14 e42 e43 e44 T X h4 h5 h6 h7 h8 h12 h13 h14 h42 h43 h44=>ih (q+1) e4 e5 e6 e7 e8 e12 e13 e14 e42 e43 e44 T X h4 h5 h6 h7 h8 h12 h13 h14 h42 h43 h44 (by omega) (by omega)
  obtain ⟨f,xo,xa⟩:=x
  have hsp:=rowsV_ag' hx2 false
  rw [show F3 q ⟨f,xo,xa⟩=⟨f,xo,false⟩ from rfl] at hps
  simp only at hsp
  simp only [Row.cells] at htk
  refine evK_loop c10_61 _ _ _ _ rfl ?_
  rw [← hps] at IH
  generalize rowsV (prt F3 q l)=D at *
  simp (config:={implicitDefEqProofs:=false}) [-zia,-zaa,-St.obj,-St.set,h4,h5,h6,h7,h8,h12,h13,h14,h42,h43,h44,hoe,hse,hro,hso,htk,hlen,hln,hlt,hlt2,hw,hwb,hsp,hsl,-zil,-zit,-znl,-znt,ty3,ty4,ty22,ty27,ty28,ty53,ty55,ty57,H10,x20,fi20_eq,p20,E10,q10_22,q10_44,e10_73,e10_56,e10_50,e10_25,n10_8,n10_29,n10_60]
  refine IH _ _ _ _ _ _ _ _ _ _ _ _ _ ?_ ?_ ?_ ?_ ?_ ?_ ?_ ?_ ?_ ?_ ?_
  all_goals simp [h4,h5,h6,h7,h8,h12,h13,h14,h42,h43,h44,tame_lp,tame_val]
theorem T56 (e r w z b g:Nat)(o:Bool)(t:Nat)(l:List Row)(hb:b≤1000000)(hg:g≤1000000)(hl7:l.length≤100000)(hfr:∀ x∈l,x.fr.length≤1000000)(σ:List V→List V→St)(hσ:Hp σ e r (l≠[]))(s1:Nat)(outs:List (List UInt8))(e4 e5 e6 e7 e8 e12 e13 e14 e42 e43 e44:E)(e108 e109:E)(T:List (Nat × E))(X:List (Nat × List V))(h4:e4.Tame)(h5:e5.Tame)(h6:e6.Tame)(h7:e7.Tame)(h8:e8.Tame)(h12:e12.Tame)(h13:e13.Tame)(h14:e14.Tame)(h42:e42.Tame)(h43:e43.Tame)(h44:e44.Tame)(h108:e108.Tame)(h109:e109.Tame) :
  evK gS fi10 c10_56 {ps:=[(0,.val (.ptr e 0)),(2,.own 0 []),(3,.own (ko outs) (encFs outs)),(4,e4),(5,e5),(6,e6),(7,e7),(8,e8),(12,e12),(13,e13),(14,e14),(42,e42),(43,e43),(44,e44),(108,e108),(109,e109)],ts:=T,lc:=X} (σ (endC w z (rv r l) b s1 g o t) (rowsV l)) .nil=some (.ret (.slice (encFs outs)) (some (ko outs)),σ (endC w z (rv r l) b s1 g false t) (rowsV (l.mapIdx F3))):=by
 generalize hR:(Out.ret (V.slice (encFs outs)) (some (ko outs)),σ (endC w z (rv r l) b s1 g false t) (rowsV (l.mapIdx F3)))=R
 have hoe:=hσ.oe
 have hse:=hσ.se
 have H73:∀ (e4 e5 e6 e7 e8 e12 e13 e14 e42 e43 e44:E) (T:List (Nat × E)) (X:List (Nat × List V)),e4.Tame→e5.Tame→e6.Tame→e7.Tame→e8.Tame→e12.Tame→e13.Tame→e14.Tame→e42.Tame→e43.Tame→e44.Tame→evK gS fi10 c10_73 {ps:=[(0,.val (.ptr e 0)),(2,.own 0 []),(3,.own (ko outs) (encFs outs)),(4,e4),(5,e5),(6,e6),(7,e7),(8,e8),(12,e12),(13,e13),(14,e14),(42,e42),(43,e43),(44,e44),(108,.val (.int .i64 l.length)),(109,.val (.int .i64 (l.length:Nat)))],ts:=T,lc:=X} (σ (endC w z (rv r l) b s1 g o t) (rowsV (prt F3 l.length l))) .nil=some R:=by
  intro e4 e5 e6 e7 e8 e12 e13 e14 e42 e43 e44 T X h4 h5 h6 h7 h8 h12 h13 h14 h42 h43 h44
  unfold endC
  simp (config:={implicitDefEqProofs:=false}) [-zia,-St.obj,-St.set,hoe,hse,← hR,prt_all,endC,ko_enc,h4,h5,h6,h7,h8,h12,h13,h14,h42,h43,h44,-zil,-zit,-znl,-znt,ty3,ty4,ty22,ty27,ty28,ty53,ty55,ty57,H10,x20,fi20_eq,p20,E10,q10_22,q10_44,e10_73,e10_56,e10_50,e10_25,n10_8,n10_29,n10_60]
 have LL:=fun e4 e5 e6 e7 e8 e12 e13 e14 e42 e43 e44 T X h4 h5 h6 h7 h8 h12 h13 h14 h42 h43 h44=>LC10 e r w z b g o t l hb hg hl7 hfr R σ hσ s1 outs H73 l.length 0  e4 e5 e6 e7 e8 e12 e13 e14 e42 e43 e44 T X h4 h5 h6 h7 h8 h12 h13 h14 h42 h43 h44 (Nat.zero_le _) rfl
 rw [show ((0:Nat):Int)=0 from rfl] at LL
 rw [prt_zero] at LL
 unfold endC at LL ⊢
 rcases rv_cases r l with ⟨hn,hv⟩ | ⟨hn,hv⟩
 ·rw [hv] at LL ⊢
  have e0:l.length=0:=by rw [hn];rfl
  rw [e0] at LL
  simp (config:={implicitDefEqProofs:=false}) [-zia,-St.obj,-St.set,h4,h5,h6,h7,h8,h12,h13,h14,h42,h43,h44,h108,h109,hoe,-zil,-zit,-znl,-znt,ty3,ty4,ty22,ty27,ty28,ty53,ty55,ty57,H10,x20,fi20_eq,p20,E10,q10_22,q10_44,e10_73,e10_56,e10_50,e10_25,n10_8,n10_29,n10_60]
  refine LL _ _ _ _ _ _ _ _ _ _ _ _ _ ?_ ?_ ?_ ?_ ?_ ?_ ?_ ?_ ?_ ?_ ?_
  all_goals simp [h4,h5,h6,h7,h8,h12,h13,h14,h42,h43,h44,tame_lp,tame_val]
 ·rw [hv] at LL ⊢
  simp (config:={implicitDefEqProofs:=false}) [-zia,-St.obj,-St.set,h4,h5,h6,h7,h8,h12,h13,h14,h42,h43,h44,h108,h109,hoe,-zil,-zit,-znl,-znt,ty3,ty4,ty22,ty27,ty28,ty53,ty55,ty57,H10,x20,fi20_eq,p20,E10,q10_22,q10_44,e10_73,e10_56,e10_50,e10_25,n10_8,n10_29,n10_60]
  refine LL _ _ _ _ _ _ _ _ _ _ _ _ _ ?_ ?_ ?_ ?_ ?_ ?_ ?_ ?_ ?_ ?_ ?_
  all_goals simp [h4,h5,h6,h7,h8,h12,h13,h14,h42,h43,h44,tame_lp,tame_val]
theorem T50 (e r w z b g:Nat)(o:Bool)(t:Nat)(l:List Row)(hb:b≤1000000)(hg:g≤1000000)(hl7:l.length≤100000)(hfr:∀ x∈l,x.fr.length≤1000000)(σ:List V→List V→St)(hσ:Hp σ e r (l≠[]))(s1:Nat)(O:List (List UInt8))(e4 e5 e6 e7 e8 e12 e13 e14 e42 e43 e44:E)(T:List (Nat × E))(X:List (Nat × List V))(h4:e4.Tame)(h5:e5.Tame)(h6:e6.Tame)(h7:e7.Tame)(h8:e8.Tame)(h12:e12.Tame)(h13:e13.Tame)(h14:e14.Tame)(h42:e42.Tame)(h43:e43.Tame)(h44:e44.Tame) :
  evK gS fi10 c10_50 {ps:=[(0,.val (.ptr e 0)),(2,.own 0 []),(3,.own (ko O) (encFs O)),(4,e4),(5,e5),(6,e6),(7,e7),(8,e8),(12,e12),(13,e13),(14,e14),(42,e42),(43,e43),(44,e44),(108,.any),(109,.any)],ts:=T,lc:=X} (σ (endC w z (rv r l) b s1 g o t) (rowsV l)) .nil=some (.ret (.slice (encFs (if O=[]∧o=true then [dgr 0 g []] else O))) (some (ko (if O=[]∧o=true then [dgr 0 g []] else O))),σ (endC w z (rv r l) b s1 g false t) (rowsV (l.mapIdx F3))):=by
 have hoe:=hσ.oe
 have hse:=hσ.se
 have TT:=fun (o':List (List UInt8)) (e4 e5 e6 e7 e8 e12 e13 e14 e42 e43 e44:E) (T:List (Nat × E)) (X:List (Nat × List V)) (h4:e4.Tame) (h5:e5.Tame) (h6:e6.Tame) (h7:e7.Tame) (h8:e8.Tame) (h12:e12.Tame) (h13:e13.Tame) (h14:e14.Tame) (h42:e42.Tame) (h43:e43.Tame) (h44:e44.Tame)=>T56 e r w z b g o t l hb hg hl7 hfr σ hσ s1 o' e4 e5 e6 e7 e8 e12 e13 e14 e42 e43 e44 .any .any T X h4 h5 h6 h7 h8 h12 h13 h14 h42 h43 h44 rfl rfl
 have kd:=fun fr=>k20 e 0 [] w z (rv r l) b s1 g o t (by omega) (by omega) (by simp) fr (σ (endC w z (rv r l) b s1 g o t) (rowsV l)) (hoe _ _)
 rw [show byteVs []=([]:List V) from rfl,show ((0:Nat):Int)=0 from rfl] at kd
 by_cases hO:O=[]
 ·subst hO
  cases o with
  | true =>
   rw [if_pos ⟨rfl,rfl⟩]
   have T1:=TT [dgr 0 g []]
   rw [show ko [dgr 0 g []]=1 from rfl,show encFs [dgr 0 g []]=[.slice (byteVs (dgr 0 g []))] from rfl] at T1 ⊢
   rw [show ko ([]:List (List UInt8))=0 from rfl,show encFs []=([]:List V) from rfl]
   unfold endC at T1 kd ⊢
   generalize σ _ (rowsV (l.mapIdx F3))=Z at *
   generalize rv r l=rl at *
   simp (config:={implicitDefEqProofs:=false}) [-zia,-St.obj,-St.set,h4,h5,h6,h7,h8,h12,h13,h14,h42,h43,h44,hoe,kd,-zil,-zit,-znl,-znt,ty3,ty4,ty22,ty27,ty28,ty53,ty55,ty57,H10,x20,fi20_eq,p20,E10,q10_22,q10_44,e10_73,e10_50,e10_25,n10_8,n10_29,n10_60]
   refine T1 _ _ _ _ _ _ _ _ _ _ _ _ _ ?_ ?_ ?_ ?_ ?_ ?_ ?_ ?_ ?_ ?_ ?_
   all_goals simp [h4,h5,h6,h7,h8,h12,h13,h14,h42,h43,h44,tame_lp,tame_val]
  | false =>
   rw [if_neg (by simp)]
   have T1:=TT []
   rw [show ko ([]:List (List UInt8))=0 from rfl,show encFs []=([]:List V) from rfl] at T1 ⊢
   unfold endC at T1 kd ⊢
   generalize σ _ (rowsV (l.mapIdx F3))=Z at *
   generalize rv r l=rl at *
   simp (config:={implicitDefEqProofs:=false}) [-zia,-St.obj,-St.set,h4,h5,h6,h7,h8,h12,h13,h14,h42,h43,h44,hoe,-zil,-zit,-znl,-znt,ty3,ty4,ty22,ty27,ty28,ty53,ty55,ty57,H10,x20,fi20_eq,p20,E10,q10_22,q10_44,e10_73,e10_50,e10_25,n10_8,n10_29,n10_60]
   refine T1 _ _ _ _ _ _ _ _ _ _ _ _ _ ?_ ?_ ?_ ?_ ?_ ?_ ?_ ?_ ?_ ?_ ?_
   all_goals simp [h4,h5,h6,h7,h8,h12,h13,h14,h42,h43,h44,tame_lp,tame_val]
 ·rw [if_neg (fun h=>hO h.1)]
  have hl9:¬ O.length=0:=by simpa using hO
  have hli:¬ (O.length:Int)=0:=by omega
  have T1:=TT O
  unfold endC at T1 kd ⊢
  generalize σ _ (rowsV (l.mapIdx F3))=Z at *
  generalize rv r l=rl at *
  simp (config:={implicitDefEqProofs:=false}) [-zia,-St.obj,-St.set,h4,h5,h6,h7,h8,h12,h13,h14,h42,h43,h44,hoe,hO,hl9,hli,-zil,-zit,-znl,-znt,ty3,ty4,ty22,ty27,ty28,ty53,ty55,ty57,H10,x20,fi20_eq,p20,E10,q10_22,q10_44,e10_73,e10_50,e10_25,n10_8,n10_29,n10_60]
  refine T1 _ _ _ _ _ _ _ _ _ _ _ _ _ ?_ ?_ ?_ ?_ ?_ ?_ ?_ ?_ ?_ ?_ ?_
  all_goals simp [h4,h5,h6,h7,h8,h12,h13,h14,h42,h43,h44,tame_lp,tame_val]
theorem c10 (e r w z b g:Nat)(o:Bool)(t:Nat)(l:List Row)(hb:b≤800000)(hg:g≤800000)(hl7:l.length≤100000)(hfr:∀ x∈l,x.fr.length≤1000000)(σ:List V→List V→St)(hσ:Hp σ e r (l≠[]))(s1:Nat) :
  EvF gS 10 [.ptr e 0] (σ (endC w z (rv r l) b s1 g o t) (rowsV l))=some (.ret (.slice (encFs (outs w b g s1 o l).1)) (some (ko (outs w b g s1 o l).1)),σ (endC w z (rv r l) b (outs w b g s1 o l).2 g false t) (rowsV ((l.mapIdx (F2 w)).mapIdx F3))):=by
 refine EvF_start fi10_eq (fun x h=>by cases h <;> decide) m10 ?_
 rw [st10]
 have hoe:=hσ.oe
 have hse:=hσ.se
 generalize hR:(Out.ret (V.slice (encFs (outs w b g s1 o l).1)) (some (ko (outs w b g s1 o l).1)),σ (endC w z (rv r l) b (outs w b g s1 o l).2 g false t) (rowsV ((l.mapIdx (F2 w)).mapIdx F3)))=R
 generalize hO1:out1 b g l 0 []=O1
 generalize hO2:out2 b g w l 0 (O1,s1)=O2
 have hou:outs w b g s1 o l=(if O2.1=[]∧o=true then [dgr 0 g []] else O2.1,O2.2):=by unfold outs;rw [hO1,hO2]
 rw [hou] at hR
 simp only at hR
 have hσ2:Hp σ e r (l.mapIdx (F2 w)≠[]):=hσ.weaken (by rw [Ne,Ne,mapIdx_ne])
 have hfr2:∀ x∈l.mapIdx (F2 w),x.fr.length≤1000000:=by
  intro x hx
  obtain ⟨i,hi,rfl⟩:=List.mem_mapIdx.1 hx
  have:=hfr _ (List.getElem_mem hi)
  unfold F2
  split <;> exact this
 have H50:∀ (e4 e5 e6 e7:E) (T:List (Nat × E)) (X:List (Nat × List V)),e4.Tame→e5.Tame→e6.Tame→e7.Tame →  evK gS fi10 c10_50 {ps:=[(0,.val (.ptr e 0)),(2,.own 0 []),(3,.own (ko O2.1) (encFs O2.1)),(4,e4),(5,e5),(6,e6),(7,e7),(8,.any),(12,.val (rv r l)),(13,.val (.int .i64 l.length)),(14,.val (.int .i64 l.length)),(42,.val (rv r l)),(43,.val (.int .i64 l.length)),(44,.val (.int .i64 l.length)),(108,.any),(109,.any)],ts:=T,lc:=X} (σ (endC w z (rv r l) b O2.2 g o t) (rowsV (prt (F2 w) l.length l))) .nil=some R:=by
  intro e4 e5 e6 e7 T X h4 h5 h6 h7
  rw [prt_all,← hR]
  have:=T50 e r w z b g o t (l.mapIdx (F2 w)) (by omega) (by omega) (by rw [List.length_mapIdx];exact hl7) hfr2 σ hσ2 O2.2 O2.1 e4 e5 e6 e7 (.any) (.val (rv r l)) (.val (.int .i64 l.length)) (.val (.int .i64 l.length)) (.val (rv r l)) (.val (.int .i64 l.length)) (.val (.int .i64 l.length)) T X h4 h5 h6 h7 tame_any (tame_val _) (tame_val _) (tame_val _) (tame_val _) (tame_val _) (tame_val _)
  rw [rv_map] at this
  exact this
 have H25:∀ (e4 e5:E) (T:List (Nat × E)) (X:List (Nat × List V)),e4.Tame→e5.Tame →  evK gS fi10 c10_25 {ps:=[(0,.val (.ptr e 0)),(2,.own 0 []),(3,.own (ko O1) (encFs O1)),(4,e4),(5,e5),(6,.any),(7,.any),(8,.any),(12,.val (rv r l)),(13,.val (.int .i64 l.length)),(14,.val (.int .i64 l.length)),(42,.any),(43,.any),(44,.any),(108,.any),(109,.any)],ts:=T,lc:=X} (σ (endC w z (rv r l) b s1 g o t) (rowsV l)) .nil=some R:=by
  intro e4 e5 T X h4 h5
  have LL:=fun (e4 e5 e6 e7:E) (T:List (Nat × E)) (X:List (Nat × List V)) (h4:e4.Tame) (h5:e5.Tame) (h6:e6.Tame) (h7:e7.Tame)=>LB10 e r w z b g o t l (by omega) (by omega) hl7 hfr R σ hσ O2 H50 l.length 0 (O1,s1) e4 e5 e6 e7 T X h4 h5 h6 h7 (Nat.zero_le _) rfl (by rw [List.drop_zero];exact hO2.symm) (by rw [← hO1];exact out1_len b g l 0 [] 100000 (by simpa using hl7))
  rw [prt_zero,show ((0:Nat):Int)=0 from rfl] at LL
  simp only at LL
  unfold endC at LL ⊢
  rcases rv_cases r l with ⟨hn,hv⟩ | ⟨hn,hv⟩
  ·rw [hv] at LL ⊢
   have e0:l.length=0:=by rw [hn];rfl
   rw [e0] at LL ⊢
   simp (config:={implicitDefEqProofs:=false}) [-zia,-St.obj,-St.set,h4,h5,hoe,-zil,-zit,-znl,-znt,ty3,ty4,ty22,ty27,ty28,ty53,ty55,ty57,H10,x20,fi20_eq,p20,E10,q10_22,q10_44,e10_73,e10_56,e10_50,e10_25,n10_8,n10_29,n10_60]
   refine LL _ _ _ _ _ _ ?_ ?_ ?_ ?_
   all_goals simp [h4,h5,tame_lp,tame_val]
  ·rw [hv] at LL ⊢
   simp (config:={implicitDefEqProofs:=false}) [-zia,-St.obj,-St.set,h4,h5,hoe,-zil,-zit,-znl,-znt,ty3,ty4,ty22,ty27,ty28,ty53,ty55,ty57,H10,x20,fi20_eq,p20,E10,q10_22,q10_44,e10_73,e10_56,e10_50,e10_25,n10_8,n10_29,n10_60]
   refine LL _ _ _ _ _ _ ?_ ?_ ?_ ?_
   all_goals simp [h4,h5,tame_lp,tame_val]
 have LA:=fun (e4 e5:E) (T:List (Nat × E)) (X:List (Nat × List V)) (h4:e4.Tame) (h5:e5.Tame)=>LA10 e r w z b g o t l (by omega) (by omega) hl7 hfr R s1 (σ (endC w z (rv r l) b s1 g o t) (rowsV l)) (hoe _ _) (fun h=>hσ.orr h _ _) O1 H25 l.length 0 [] e4 e5 T X h4 h5 (Nat.zero_le _) rfl (by rw [List.drop_zero];exact hO1.symm) (Nat.zero_le _)
 rw [show ((0:Nat):Int)=0 from rfl,show ko ([]:List (List UInt8))=0 from rfl,show encFs []=([]:List V) from rfl] at LA
 unfold endC at LA ⊢
 rcases rv_cases r l with ⟨hn,hv⟩ | ⟨hn,hv⟩
 ·rw [hv] at LA ⊢
  have e0:l.length=0:=by rw [hn];rfl
  rw [e0] at LA
  simp (config:={implicitDefEqProofs:=false}) [-zia,-St.obj,-St.set,hoe,-zil,-zit,-znl,-znt,ty3,ty4,ty22,ty27,ty28,ty53,ty55,ty57,H10,x20,fi20_eq,p20,E10,q10_22,q10_44,e10_73,e10_56,e10_50,e10_25,n10_8,n10_29,n10_60]
  exact LA _ _ _ _ rfl rfl
 ·rw [hv] at LA ⊢
  simp (config:={implicitDefEqProofs:=false}) [-zia,-St.obj,-St.set,hoe,-zil,-zit,-znl,-znt,ty3,ty4,ty22,ty27,ty28,ty53,ty55,ty57,H10,x20,fi20_eq,p20,E10,q10_22,q10_44,e10_73,e10_56,e10_50,e10_25,n10_8,n10_29,n10_60]
  exact LA _ _ _ _ rfl rfl
end
end Go.Proofs.Ytebjpgoadapabaa
namespace Go.Proofs.Ytebjpgoadapabaa
open Go Go.Ab
noncomputable section
variable (fr:Fr)(st:St)(k:Kt)
def fi8:FI:={body:=codeOf Try.f8,ntmps:=24,results:=[.tmp 4,.tmp 5],pers:=[0,1,4,5],locals:=[],pure:=false,marks:=[2000022]}
theorem H8:fi8.marks=[2000022]∧fi8.locals=[]∧fi8.results=[.tmp 4,.tmp 5]:=⟨rfl,rfl,rfl⟩
theorem fi8_eq:gS.fn 8=some fi8:=by kernel_rfl
theorem st8 (a0 a1:V):startFr fi8 [a0,a1]={ps:=[(0,.val a0),(1,.val a1),(4,.any),(5,.any)],ts:=[],lc:=[]}:=rfl
def b8:Code:=mini (codeOf Try.f8)
def c8_6:Code:=.seq (codeN b8 37) .ret
def c8_5:Code:=.cond (.tmp 19) c8_6 .skip
def c8_3:Code:=.seq (codeN b8 9) c8_5
def c8_10:Code:=.seq (codeN b8 11) .ret
def c8_2:Code:=.seq c8_3 c8_10
def c8_0:Code:=.seq (codeN b8 2) c8_2
theorem E8:(evK gS fi8 c8_6 fr st k=opsR gS fi8 [op1 4 (.assign (.const (.pointer none))) 22,
 qI 5 1 23] fr st (.seq .ret k)) ∧
 evK gS fi8 c8_5 fr st k=condK gS fi8 (fr.op (.tmp 19)).bool? c8_6 .skip fr st k ∧
 (evK gS fi8 c8_3 fr st k=opsR gS fi8 [mv 6 0 3,
 qB 7 .lss 3 6 1 3 4,
 mv 8 7 4,
 qm 9 0 3 2 false,
 qc 10 .gtr 3 9 8 3 4 2 false,
 qQ 11 8 true 10 4,
 mv 12 11 4,
 qm 13 1 3 6 false,
 qc 14 .lss 3 13 1 3 4 6 false,
 qQ 15 12 true 14 4,
 mv 16 15 4,
 qm 17 1 3 10 false,
 qc 18 .gtr 3 17 8 3 4 10 false,
 qQ 19 16 true 18 4] fr st (.seq c8_5 k)) ∧
 (evK gS fi8 c8_10 fr st k=opsR gS fi8 [mv 20 0 3,
 mv 21 1 3,
 op1 22 (.build 55 #[(0,(.tmp 20)),(1,(.tmp 21)),(3,(.const (.int .i64 1)))]) 55,
 op1 23 (.box 55 (.tmp 22)) 22,
 asn 4 23 22,
 qI 5 0 23] fr st (.seq .ret k)) ∧
 evK gS fi8 c8_2 fr st k=evK gS fi8 c8_3 fr st (.seq c8_10 k) ∧
 (evK gS fi8 c8_0 fr st k=opsR gS fi8 [op1 4 (.assign (.const (.pointer none))) 22,
 qI 5 0 23] fr st (.seq c8_2 k)):=⟨evK_rs 2 rfl (by kernel_rfl),rfl,evK_rs 1 rfl (by kernel_rfl),evK_rs 3 rfl (by kernel_rfl),rfl,evK_rs 0 rfl (by kernel_rfl)⟩
theorem m8:mini fi8.body=c8_0:=by kernel_rfl
theorem c8 (w z:Nat)(h1:1≤w)(h2:w≤8)(h3:1≤z)(h4:z≤8)(S:St):EvF gS 8 [.int .i64 (w:Int),.int .i64 (z:Int)] S=some (.ret (.tuple [.ptr S.objs.length 0,.int .i64 0]) none,apps S [endC w z (.sref true 0 0 0 0) 1 0 0 false 0]):=by
 refine EvF_start fi8_eq (fun x h=>by cases h <;> decide) m8 ?_
 rw [st8]
 have e1:¬ (w:Int)<1:=by omega
 have e2:¬ (8:Int)<(w:Int):=by omega
 have e3:¬ (z:Int)<1:=by omega
 have e4:¬ (8:Int)<(z:Int):=by omega
 simp (config:={implicitDefEqProofs:=false}) [-St.obj,-St.set,e1,e2,e3,e4,apps,endC,-zil,-zit,-znl,-znt,ty3,ty4,ty22,ty23,ty55,H8,E8]
theorem k8 (w z:Nat)(h1:1≤w)(h2:w≤8)(h3:1≤z)(h4:z≤8)(fr:Fr)(S:St):callStep gS (EvF gS) 8 [.int .i64 (w:Int),.int .i64 (z:Int)] fr S=some (.ok (.val (.tuple [.ptr S.objs.length 0,.int .i64 0])) (fr.map E.noMem) (apps S [endC w z (.sref true 0 0 0 0) 1 0 0 false 0])):=by
 unfold callStep
 simp only [show gS.ext 8=none from rfl,fi8_eq,show fi8.pure=false from rfl,Bool.false_eq_true,if_false,c8 w z h1 h2 h3 h4,retE]
def fi11:FI:={body:=codeOf Try.f11,ntmps:=8,results:=[.tmp 2],pers:=[0,2],locals:=[],pure:=true,marks:=[]}
theorem H11:fi11.marks=[]∧fi11.locals=[]∧fi11.results=[.tmp 2]:=⟨rfl,rfl,rfl⟩
theorem fi11_eq:gS.fn 11=some fi11:=by kernel_rfl
theorem st11 (a0:V):startFr fi11 [a0]={ps:=[(0,.val a0),(2,.any)],ts:=[],lc:=[]}:=rfl
def b11:Code:=mini (codeOf Try.f11)
def c11_2:Code:=.seq (codeN b11 5) .ret
theorem e11_2:evK gS fi11 c11_2 fr st k=opsR gS fi11 [mv 3 0 22,
 op1 4 (.nilCheck (.tmp 3)) 0,
 qF 5 55 4 2 0,
 ld 6 53 5 53,
 len1 7 6 53 3,
 asn 2 7 3] fr st (.seq .ret k):=evK_rs 1 rfl (by kernel_rfl)
def c11_0:Code:=.seq (codeN b11 2) c11_2
theorem e11_0:evK gS fi11 c11_0 fr st k=opsR gS fi11 [qI 2 0 3] fr st (.seq c11_2 k):=evK_rs 0 rfl (by kernel_rfl)
theorem m11:mini fi11.body=c11_0:=by kernel_rfl
theorem c11 (e r w z b s g:Nat)(o:Bool)(t:Nat)(l:List Row)(S:St)(he:St.obj S e=some (endC w z (rv r l) b s g o t)):EvF gS 11 [.ptr e 0] S=some (.ret (.int .i64 (l.length:Int)) none,S):=by
 refine EvF_start fi11_eq (fun x h=>by cases h <;> decide) m11 ?_
 rw [st11]
 unfold endC at he
 rcases rv_cases r l with ⟨hn,hv⟩ | ⟨hn,hv⟩
 ·rw [hv] at he
  have e0:l.length=0:=by rw [hn];rfl
  simp (config:={implicitDefEqProofs:=false}) [-St.obj,-St.set,he,e0,-zil,-zit,-znl,-znt,ty3,ty22,ty53,ty55,H11,e11_2,e11_0]
 ·rw [hv] at he
  simp (config:={implicitDefEqProofs:=false}) [-St.obj,-St.set,he,-zil,-zit,-znl,-znt,ty3,ty22,ty53,ty55,H11,e11_2,e11_0]
theorem k11 (e r w z b s g:Nat)(o:Bool)(t:Nat)(l:List Row)(fr:Fr)(S:St)(he:St.obj S e=some (endC w z (rv r l) b s g o t)):callStep gS (EvF gS) 11 [.ptr e 0] fr S=some (.ok (.val (.int .i64 (l.length:Int))) fr S):=by
 unfold callStep
 simp only [show gS.ext 11=none from rfl,fi11_eq,show fi11.pure=true from rfl,if_true,show flats [V.ptr e 0]=false from rfl,Bool.false_eq_true,if_false]
 rw [c11 e r w z b s g o t l _ (by exact he)]
 simp [V.flat,retE]
theorem x11:gS.ext 11=none:=rfl
theorem p11:fi11.pure=true:=rfl
def fi9:FI:={body:=codeOf Try.f9,ntmps:=16,results:=[],pers:=[0,1],locals:=[],pure:=false,marks:=[13]}
theorem H9:fi9.marks=[13]∧fi9.locals=[]∧fi9.results=[]:=⟨rfl,rfl,rfl⟩
theorem fi9_eq:gS.fn 9=some fi9:=by kernel_rfl
theorem st9 (a0 a1:V):startFr fi9 [a0,a1]={ps:=[(0,.val a0),(1,.val a1)],ts:=[],lc:=[]}:=rfl
def r9_0:Array Oper:=regOps (codeN (codeOf Try.f9) 1)
def c9_0:Code:=.region 0 r9_0 true
def q9_0:List (Oper × Fl):=[(mv 4 0 22,qz7),
 (mv 5 0 22,qz0),
 (op1 6 (.nilCheck (.tmp 5)) 0,qz0),
 (qF 7 55 6 2 0,qz0),
 (ld 8 53 7 53,qz0),
 (mv 9 1 27,qz3),
 (op1 10 (.call {callee:=(.builtin .append),args:=#[(.const (.slice none 0 0)),(.tmp 9)],argTypes:=#[27,27]}) 27,qz6),
 (op1 11 (.build 57 #[(0,(.tmp 10))]) 57,qz3),
 (qS 12 53 11 53,qz3),
 (qE 13 8 12 53 53,qz4),
 (op1 14 (.nilCheck (.tmp 4)) 0,qz5),
 (qF 15 55 14 2 0,qz5),
 (sto 53 15 13,qz4)]
theorem e9_0:evK gS fi9 c9_0 fr st k=drwR gS fi9 r9_0 q9_0 fr st k:=evK_dr 0 rfl (by kernel_rfl) (by kernel_rfl)
theorem m9:mini fi9.body=c9_0:=by kernel_rfl
theorem c9 (e r w z b s g:Nat)(o:Bool)(t:Nat)(l:List Row)(f:List UInt8)(hf:f.length≤1000000)(hl7:l.length≤100000)(σ:List V→List V→St)(hσ:Hp σ e r (l≠[])) :
  EvF gS 9 [.ptr e 0,.slice (byteVs f)] (σ (endC w z (rv r l) b s g o t) (rowsV l))=some (.ret (.tuple []) none,apps (σ (endC w z (rv (σ [] []).objs.length (l ++ [⟨f,false,false⟩])) b s g o t) []) [rowsV (l ++ [⟨f,false,false⟩])]):=by
 refine EvF_start fi9_eq (fun x h=>by cases h <;> decide) m9 ?_
 rw [st9]
 have hoe:=hσ.oe
 have hnr:=fun fr k len cs C=>newRef_apps fr (σ C []) k len cs
 have hN:=fun C=>hσ.len C [] [] []
 have hse:=fun C cs C'=>apps_set (hσ.oe C []) (hσ.se C [] C') [cs]
 have hap:=fun C cs=>apps_obj (hσ.oe C []) [cs]
 have hs:=sizes_bytes f
 have b1:f.length≤140737488355328:=by omega
 have hrw:=rowsV_snoc l ⟨f,false,false⟩
 rw [hrw]
 rw [rv_pos (by simp:l ++ [(⟨f,false,false⟩:Row)]≠[])]
 simp only [Row.cells]
 unfold endC
 rcases rv_cases r l with ⟨hn,hv⟩ | ⟨hn,hv⟩
 ·subst hn
  rw [hv,show rowsV []=([]:List V) from rfl]
  simp (config:={implicitDefEqProofs:=false}) [-zia,-St.obj,-St.set,hoe,hnr,hN,hse,hap,hs,b1,markStep,markAppend,elemsAt,-zil,-zit,-znl,-znt,ty22,ty27,ty53,ty55,ty57,H9,e9_0,q9_0]
 ·rw [hv]
  have hor:=hσ.orr hn
  have hso:=hσ.sr hn
  have q1:=rowsV_one l
  have q2:=rowsV_strip l
  have q3:=rowsV_len l
  have q0:0<l.length:=List.length_pos_iff.2 hn
  have q5:¬ l.length=0:=by omega
  have b2:(l.length+1)*32≤140737488355328:=by omega
  have b3:l.length+1≤140737488355328:=by omega
  generalize rowsV l=D at *
  simp (config:={implicitDefEqProofs:=false}) [-zia,-St.obj,-St.set,hoe,hor,hso,hnr,hN,hse,hap,hs,b1,b2,b3,hn,q0,q1,q2,q3,q5,markStep,markAppend,elemsAt,-zil,-zit,-znl,-znt,ty22,ty27,ty53,ty55,ty57,H9,e9_0,q9_0]
def fi13:FI:={body:=codeOf Try.f13,ntmps:=65,results:=[],pers:=[0,2,45,46],locals:=[],pure:=false,marks:=[]}
theorem H13:fi13.marks=[]∧fi13.locals=[]∧fi13.results=[]:=⟨rfl,rfl,rfl⟩
theorem fi13_eq:gS.fn 13=some fi13:=by kernel_rfl
theorem st13 (a0:V):startFr fi13 [a0]={ps:=[(0,.val a0),(2,.any),(45,.any),(46,.any)],ts:=[],lc:=[]}:=rfl
def b13:Code:=mini (codeOf Try.f13)
def c13_4:Code:=.seq (codeN b13 18) .ret
def c13_3:Code:=.cond (.tmp 18) c13_4 .skip
def c13_1:Code:=.seq (codeN b13 4) c13_3
def r13_12:Array Oper:=regOps (codeN (codeOf Try.f13) 19)
def c13_12:Code:=.region 3 r13_12 true
def q13_12:List (Oper × Fl):=[(mv 29 0 22,qz0),
 (op1 30 (.nilCheck (.tmp 29)) 0,qz0),
 (qF 31 55 30 7 0,qz0),
 (ld 32 3 31 3,qz0),
 (mv 33 0 22,qz3),
 (op1 34 (.nilCheck (.tmp 33)) 0,qz3),
 (qF 35 55 34 1 0,qz3),
 (ld 36 3 35 3,qz3),
 (bop 37 .lss 3 32 36 3 4,qz5)]
def c13_13:Code:=.cond (.tmp 37) .ret .skip
def c13_11:Code:=.seq c13_12 c13_13
def r13_32:Array Oper:=regOps (codeN (codeOf Try.f13) 6559)
def c13_32:Code:=.region 8 r13_32 true
def q13_32:List (Oper × Fl):=[(mv 49 0 22,qz0),
 (op1 50 (.nilCheck (.tmp 49)) 0,qz0),
 (qF 51 55 50 2 0,qz0),
 (ld 52 53 51 53,qz0),
 (mv 53 2 3,qz0),
 (mv 54 0 22,qz0),
 (op1 55 (.nilCheck (.tmp 54)) 0,qz0),
 (qF 56 55 55 2 0,qz0),
 (ld 57 53 56 53,qz0),
 (mv 58 2 3,qz3),
 (ixa 59 53 57 58 0,qz3),
 (qF 60 57 59 1 0,qz3),
 (ld 61 4 60 4,qz3),
 (ixa 62 53 52 53 0,qz5),
 (qF 63 57 62 2 0,qz5),
 (sto 4 63 61,qz4)]
def c13_30:Code:=.seq (codeN b13 4511) c13_32
def c13_33:Code:=codeN b13 1951
def c13_28:Code:=.seq (.block 1 c13_30) c13_33
def c13_24:Code:=.seq (.cond (.tmp 47) .skip (.exit 0)) c13_28
def c13_22:Code:=.seq (codeN b13 287) c13_24
def c13_21:Code:=.loop c13_22
def c13_20:Code:=.block 0 c13_21
def c13_18:Code:=.seq (codeN b13 47) c13_20
def c13_16:Code:=.seq (codeN b13 23) c13_18
def c13_10:Code:=.seq c13_11 c13_16
def c13_8:Code:=.seq (codeN b13 5) c13_10
def c13_0:Code:=.seq c13_1 c13_8
theorem E13:(evK gS fi13 c13_4 fr st k=opsR gS fi13 [mv 19 0 22,
 op1 20 (.nilCheck (.tmp 19)) 0,
 qF 21 55 20 7 0,
 mk none (.store 3 (.tmp 21) (.const (.int .i64 0))) 0 none] fr st (.seq .ret k)) ∧
 evK gS fi13 c13_3 fr st k=condK gS fi13 (fr.op (.tmp 18)).bool? c13_4 .skip fr st k ∧
 (evK gS fi13 c13_1 fr st k=opsR gS fi13 [mv 3 0 22,
 op1 4 (.nilCheck (.tmp 3)) 0,
 qF 5 55 4 2 0,
 ld 6 53 5 53,
 len1 7 6 53 3,
 qB 8 .eql 3 7 0 3 4,
 mv 9 8 4,
 qm 10 0 22 6 false,
 mk (some 11) (.nilCheck (.tmp 10)) 0 (some (6,false)),
 qf 12 55 11 2 0 6 false,
 ql 13 53 12 53 6 false,
 mk (some 14) (.indexAddr 53 (.tmp 13) (.const (.int .i64 0))) 0 (some (6,false)),
 qf 15 57 14 1 0 6 false,
 ql 16 4 15 4 6 false,
 mk (some 17) (.unOp .not 4 (.tmp 16)) 4 (some (6,false)),
 qQ 18 9 true 17 4] fr st (.seq c13_3 k)) ∧
 evK gS fi13 c13_12 fr st k=drwR gS fi13 r13_12 q13_12 fr st k ∧
 evK gS fi13 c13_13 fr st k=condK gS fi13 (fr.op (.tmp 37)).bool? .ret .skip fr st k ∧
 evK gS fi13 c13_11 fr st k=evK gS fi13 c13_12 fr st (.seq c13_13 k) ∧
 evK gS fi13 c13_32 fr st k=drwR gS fi13 r13_32 q13_32 fr st k ∧
 (evK gS fi13 c13_30 fr st k=opsR gS fi13 [mv 48 46 3,
 asn 2 48 3] fr st (.seq c13_32 k)) ∧
 (evK gS fi13 c13_33 fr st k=opsR gS fi13 [qB 64 .add 3 46 1 3 3,
 mv 46 64 3] fr st k) ∧
 evK gS fi13 c13_28 fr st k=evK gS fi13 c13_30 fr st (.blk 1 (.seq c13_33 k)) ∧
 evK gS fi13 c13_24 fr st k=condK gS fi13 (fr.op (.tmp 47)).bool? .skip (.exit 0) fr st (.seq c13_28 k) ∧
 evK gS fi13 c13_22 fr st k=opsR gS fi13 [bop 47 .lss 3 46 45 3 0] fr st (.seq c13_24 k) ∧
 evK gS fi13 c13_20 fr st k=evK gS fi13 c13_21 fr st (.blk 0 k) ∧
 (evK gS fi13 c13_18 fr st k=opsR gS fi13 [mv 41 0 22,
 op1 42 (.nilCheck (.tmp 41)) 0,
 qF 43 55 42 2 0,
 ld 44 53 43 53,
 len1 45 44 53 3,
 op1 46 (.move (.const (.int .i64 0))) 3] fr st (.seq c13_20 k)) ∧
 (evK gS fi13 c13_16 fr st k=opsR gS fi13 [mv 38 0 22,
 op1 39 (.nilCheck (.tmp 38)) 0,
 qF 40 55 39 7 0,
 mk none (.store 3 (.tmp 40) (.const (.int .i64 0))) 0 none] fr st (.seq c13_18 k)) ∧
 evK gS fi13 c13_10 fr st k=evK gS fi13 c13_11 fr st (.seq c13_16 k) ∧
 (evK gS fi13 c13_8 fr st k=opsR gS fi13 [mv 22 0 22,
 op1 23 (.nilCheck (.tmp 22)) 0,
 qF 24 55 23 7 0,
 ld 25 3 24 3,
 qB 26 .add 3 25 1 3 3,
 op1 27 (.nilCheck (.tmp 22)) 0,
 qF 28 55 27 7 0,
 sto 3 28 26] fr st (.seq c13_10 k)) ∧
 evK gS fi13 c13_0 fr st k=evK gS fi13 c13_1 fr st (.seq c13_8 k):=⟨evK_rs 1 rfl (by kernel_rfl),rfl,evK_rs 0 rfl (by kernel_rfl),evK_dr 3 rfl (by kernel_rfl) (by kernel_rfl),rfl,rfl,evK_dr 8 rfl (by kernel_rfl) (by kernel_rfl),evK_rs 7 rfl (by kernel_rfl),evK_r 9 (by kernel_rfl),rfl,rfl,evK_rs 6 rfl (by kernel_rfl),rfl,evK_rs 5 rfl (by kernel_rfl),evK_rs 4 rfl (by kernel_rfl),rfl,evK_rs 2 rfl (by kernel_rfl),rfl⟩
theorem m13:mini fi13.body=c13_0:=by kernel_rfl
theorem n13_21 (fr:Fr)(st:St)(k:Kt):nextK gS fi13 (.loop c13_22 k) .normal fr st=evK gS fi13 c13_21 fr st k:=rfl
theorem LT13 (e r w z b g:Nat)(o:Bool)(t:Nat)(l:List Row)(hb:b≤1000000)(hg:g≤1000000)(hl7:l.length≤100000)(hfr:∀ x∈l,x.fr.length≤1000000)(R:Out × St)(σ:List V→List V→St)(hσ:Hp σ e r (l≠[]))(s1:Nat)(hR:R=(.ret (.tuple []) none,σ (endC w z (rv r l) b s1 g o t) (rowsV (l.mapIdx FT)))) :
  ∀ (m q:Nat) (e2:E) (T:List (Nat × E)) (X:List (Nat × List V)) (h2:e2.Tame),q≤l.length→l.length - q=m →
  evK gS fi13 c13_21 {ps:=[(0,.val (.ptr e 0)),(2,e2),(45,.val (.int .i64 l.length)),(46,.val (.int .i64 (q:Nat)))],ts:=T,lc:=X} (σ (endC w z (rv r l) b s1 g o t) (rowsV (prt FT q l))) (.blk 0 .nil)=some R:=by
 intro m
 induction m with
 | zero =>
  intro q e2 T X h2 hq hm2
  obtain rfl:q=l.length:=by omega
  rw [prt_all]
  refine evK_loop c13_22 _ _ _ _ rfl ?_
  simp (config:={implicitDefEqProofs:=false}) [-zia,-St.obj,-St.set,h2,hR,-zil,-zit,-znl,-znt,ty3,ty4,ty22,ty53,ty55,ty57,H13,E13,q13_12,q13_32,n13_21]
 | succ m ih =>
  intro q e2 T X h2 hq hm2
  obtain ⟨x,hx⟩  := qgx (l:=l) (i:=q) (by omega)
  have hlt:(q:Int)<(l.length:Int):=by omega
  obtain ⟨hlt2,hxe⟩:=List.getElem?_eq_some_iff.1 hx
  have hw  := qws q (by omega)
  have hne:l≠[]:=by intro h;subst h;simp at hlt2
  have hrv:=rv_pos (r:=r) hne
  have hro:=hσ.orr hne
  have hso:=hσ.sr hne
  have hln:q*3+3≤l.length*3:=by omega
  have hxf:=hfr x (zmg hx)
  have hwb:IntKind.wrap .i64 ((b:Int)+(q:Int))=((b+q:Nat):Int):=by rw [wrap64 (by omega) (by omega)];omega
  have hx2:=prt_get FT hx
  have htk:=rowsV_take hx2
  have hlen:=rowsV_len (prt FT q l)
  rw [prt_len] at hlen
  have hsl:q*3+2+1≤l.length*3:=by omega
  have hps:=prt_set FT hx
  have hoe:=hσ.oe
  have hse:=hσ.se
  unfold endC at ih ⊢
  rw [hrv] at ih ⊢
  have IH:=fun e2 T X h2=>ih (q+1) e2 T X h2 (by omega) (by omega)
  have hgo:=rowsV_gout hx2
  obtain ⟨f,xo,xa⟩:=x
  have hsp:=rowsV_ag' hx2 xo
  rw [show FT q ⟨f,xo,xa⟩=⟨f,xo,xo⟩ from rfl] at hps
  simp only at hsp hgo
  simp only [Row.cells] at htk
  refine evK_loop c13_22 _ _ _ _ rfl ?_
  rw [← hps] at IH
  generalize rowsV (prt FT q l)=D at *
  simp (config:={implicitDefEqProofs:=false}) [-zia,-zaa,-St.obj,-St.set,h2,hoe,hse,hro,hso,htk,hgo,hlen,hln,hlt,hlt2,hw,hwb,hsp,hsl,-zil,-zit,-znl,-znt,ty3,ty4,ty22,ty53,ty55,ty57,H13,E13,q13_12,q13_32,n13_21]
  refine IH _ _ _ ?_
  all_goals simp [h2,tame_val]
theorem c13 (e r w z b g:Nat)(o:Bool)(t:Nat)(l:List Row)(ht:t≤1000000)(hb:b≤1000000)(hg:g≤1000000)(hl7:l.length≤100000)(hfr:∀ x∈l,x.fr.length≤1000000)(σ:List V→List V→St)(hσ:Hp σ e r (l≠[]))(s1:Nat) :
  EvF gS 13 [.ptr e 0] (σ (endC w z (rv r l) b s1 g o t) (rowsV l))=some (.ret (.tuple []) none,σ (endC w z (rv r l) b s1 g o (tickL z t l).1) (rowsV (tickL z t l).2)):=by
 refine EvF_start fi13_eq (fun x h=>by cases h <;> decide) m13 ?_
 rw [st13]
 have hoe:=hσ.oe
 have hse:=hσ.se
 have hwt  := qws t (by omega)
 rcases rv_cases r l with ⟨hn,hv⟩ | ⟨hn,hv⟩
 ·subst hn
  rw [hv]
  unfold tickL endC
  simp (config:={implicitDefEqProofs:=false}) [-zia,-St.obj,-St.set,hoe,hse,-zil,-zit,-znl,-znt,ty3,ty4,ty22,ty53,ty55,ty57,H13,E13,q13_12,q13_32,n13_21]
 ·obtain ⟨x,l',rfl⟩:∃ x l',l=x :: l':=by cases l with | nil=>exact (hn rfl).elim | cons x l'=>exact ⟨x,l',rfl⟩
  have hor:=hσ.orr hn
  have hgo:=rowsV_gout (l:=x :: l') (i:=0) (x:=x) rfl
  have hlen:=rowsV_len (x :: l')
  have hl0:¬ ((x :: l').length:Int)=0:=by simp only [List.length_cons];omega
  have hl1:(0:Int)<((x :: l').length:Int):=by simp only [List.length_cons];omega
  have hl2:¬ (x :: l').length=0:=by simp
  have hl3:0<(x :: l').length:=by simp
  rw [show 0*3+1=1 from rfl] at hgo
  have LL:=fun (R:Out × St) (t':Nat) hR=>LT13 e r w z b g o t' (x :: l') hb hg hl7 hfr R σ hσ s1 hR (x :: l').length 0
  rw [prt_zero] at LL
  simp only [show ((0:Nat):Int)=0 from rfl] at LL
  rw [show tickL z t (x :: l')=if x.out then (if t+1<z then (t+1,x :: l') else (0,(x :: l').mapIdx FT)) else (0,x :: l') from rfl]
  by_cases ho:x.out=true
  ·rw [if_pos ho]
   rw [ho] at hgo
   by_cases hz:t+1<z
   ·rw [if_pos hz]
    have hzi:((t+1:Nat):Int)<(z:Int):=by omega
    rw [hv]
    unfold endC
    generalize (x :: l').length=n at *
    generalize rowsV (x :: l')=D at *
    simp (config:={implicitDefEqProofs:=false}) [-zia,-St.obj,-St.set,hoe,hse,hor,hgo,hl0,hl1,hl2,hl3,hwt,hzi,hz,-zil,-zit,-znl,-znt,ty3,ty4,ty22,ty53,ty55,ty57,H13,E13,q13_12,q13_32,n13_21]
   ·rw [if_neg hz]
    have hzi:¬ ((t+1:Nat):Int)<(z:Int):=by omega
    have L1:=LL _ 0 rfl .any
    rw [hv] at L1 ⊢
    unfold endC at L1 ⊢
    generalize rowsV ((x :: l').mapIdx FT)=DD at *
    generalize (x :: l').length=n at *
    generalize rowsV (x :: l')=D at *
    simp (config:={implicitDefEqProofs:=false}) [-zia,-St.obj,-St.set,hoe,hse,hor,hgo,hl0,hl1,hl2,hl3,hwt,hzi,hz,-zil,-zit,-znl,-znt,ty3,ty4,ty22,ty53,ty55,ty57,H13,E13,q13_12,q13_32,n13_21]
    exact L1 _ _ rfl (Nat.zero_le _) rfl
  ·have ho:x.out=false:=by simpa using ho
   rw [if_neg (by simp [ho])]
   rw [ho] at hgo
   rw [hv]
   unfold endC
   generalize (x :: l').length=n at *
   generalize rowsV (x :: l')=D at *
   simp (config:={implicitDefEqProofs:=false}) [-zia,-St.obj,-St.set,hoe,hse,hor,hgo,hl0,hl1,hl2,hl3,-zil,-zit,-znl,-znt,ty3,ty4,ty22,ty53,ty55,ty57,H13,E13,q13_12,q13_32,n13_21]
end
end Go.Proofs.Ytebjpgoadapabaa
namespace Go.Proofs.Ytebjpgoadapabaa
open Go Go.Ab
noncomputable section
variable (fr:Fr)(st:St)(k:Kt)
def fi35:FI:={body:=codeOf Try.f35,ntmps:=60,results:=[.tmp 4,.tmp 5],pers:=[0,1,4,5,6,7,8],locals:=[],pure:=false,marks:=[]}
theorem H35:fi35.marks=[]∧fi35.locals=[]∧fi35.results=[.tmp 4,.tmp 5]:=⟨rfl,rfl,rfl⟩
theorem fi35_eq:gS.fn 35=some fi35:=by kernel_rfl
theorem st35 (a0 a1:V):startFr fi35 [a0,a1]={ps:=[(0,.val a0),(1,.val a1),(4,.any),(5,.any),(6,.any),(7,.any),(8,.any)],ts:=[],lc:=[]}:=rfl
def b35:Code:=mini (codeOf Try.f35)
def c35_12:Code:=.cond (.tmp 10) .skip (.exit 0)
def c35_10:Code:=.seq (codeN b35 267) c35_12
def c35_30:Code:=.seq (codeN b35 187979) .ret
def c35_28:Code:=.seq (codeN b35 89675) c35_30
def c35_26:Code:=.seq (codeN b35 40523) c35_28
def c35_25:Code:=.cond (.tmp 42) c35_26 .skip
def c35_23:Code:=.seq (codeN b35 11851) c35_25
def c35_21:Code:=.seq (codeN b35 5707) c35_23
def c35_19:Code:=.seq (codeN b35 2635) c35_21
def c35_17:Code:=.seq (codeN b35 1099) c35_19
def c35_34:Code:=codeN b35 459
def c35_15:Code:=.seq (.block 1 c35_17) c35_34
def c35_9:Code:=.seq c35_10 c35_15
def c35_8:Code:=.loop c35_9
def c35_7:Code:=.block 0 c35_8
def c35_5:Code:=.seq (codeN b35 19) c35_7
def c35_37:Code:=.seq (codeN b35 47) .ret
def c35_35:Code:=.seq (codeN b35 23) c35_37
def c35_4:Code:=.seq c35_5 c35_35
def c35_2:Code:=.seq (codeN b35 5) c35_4
def c35_0:Code:=.seq (codeN b35 2) c35_2
theorem E35:evK gS fi35 c35_12 fr st k=condK gS fi35 (fr.op (.tmp 10)).bool? .skip (.exit 0) fr st k ∧
 (evK gS fi35 c35_10 fr st k=opsR gS fi35 [mv 9 7 3,
 qB 10 .lss 3 9 9 3 4] fr st (.seq c35_12 k)) ∧
 (evK gS fi35 c35_30 fr st k=opsR gS fi35 [mv 53 6 3,
 mv 54 1 3,
 mv 55 7 3,
 bop 56 .add 3 54 55 3 3,
 qB 57 .add 3 56 1 3 3,
 asn 4 53 3,
 asn 5 57 3] fr st (.seq .ret k)) ∧
 (evK gS fi35 c35_28 fr st k=opsR gS fi35 [mv 50 6 3,
 qB 51 .leq 3 50 4611686018427387904 3 4,
 cal 52 40 [(.tmp 51),(.const (.int .i64 3))] [4,23] 0] fr st (.seq c35_30 k)) ∧
 (evK gS fi35 c35_26 fr st k=opsR gS fi35 [mv 43 7 3,
 qB 44 .eql 3 43 0 3 4,
 mv 45 44 4,
 qm 46 8 3 2 false,
 qc 47 .gtr 3 46 0 3 4 2 false,
 qQ 48 45 true 47 4,
 cal 49 40 [(.tmp 48),(.const (.int .i64 3))] [4,23] 0] fr st (.seq c35_28 k)) ∧
 evK gS fi35 c35_25 fr st k=condK gS fi35 (fr.op (.tmp 42)).bool? c35_26 .skip fr st k ∧
 (evK gS fi35 c35_23 fr st k=opsR gS fi35 [mv 41 8 3,
 qB 42 .lss 3 41 128 3 4] fr st (.seq c35_25 k)) ∧
 (evK gS fi35 c35_21 fr st k=opsR gS fi35 [mv 33 6 3,
 mv 34 8 3,
 qB 35 .and 3 34 127 3 3,
 mv 36 7 3,
 op1 37 (.binOp .mul 3 (.const (.int .i64 7)) (.tmp 36) 3) 3,
 op1 38 (.convert 3 74 (.tmp 37)) 74,
 bop 39 .shl 3 35 38 74 3,
 bop 40 .or 3 33 39 3 3,
 asn 6 40 3] fr st (.seq c35_23 k)) ∧
 (evK gS fi35 c35_19 fr st k=opsR gS fi35 [mv 23 0 60,
 op1 24 (.nilCheck (.tmp 23)) 0,
 qF 25 68 24 0 0,
 ld 26 27 25 27,
 mv 27 1 3,
 mv 28 7 3,
 bop 29 .add 3 27 28 3 3,
 ixa 30 27 26 29 0,
 ld 31 5 30 5,
 op1 32 (.convert 5 3 (.tmp 31)) 3,
 asn 8 32 3] fr st (.seq c35_21 k)) ∧
 (evK gS fi35 c35_17 fr st k=opsR gS fi35 [mv 13 1 3,
 mv 14 7 3,
 bop 15 .add 3 13 14 3 3,
 mv 16 0 60,
 op1 17 (.nilCheck (.tmp 16)) 0,
 qF 18 68 17 0 0,
 ld 19 27 18 27,
 len1 20 19 27 3,
 bop 21 .lss 3 15 20 3 4,
 cal 22 40 [(.tmp 21),(.const (.int .i64 2))] [4,23] 0] fr st (.seq c35_19 k)) ∧
 (evK gS fi35 c35_34 fr st k=opsR gS fi35 [mv 11 7 3,
 qB 12 .add 3 11 1 3 3,
 asn 7 12 3] fr st k) ∧
 evK gS fi35 c35_15 fr st k=evK gS fi35 c35_17 fr st (.blk 1 (.seq c35_34 k)) ∧
 evK gS fi35 c35_9 fr st k=evK gS fi35 c35_10 fr st (.seq c35_15 k) ∧
 evK gS fi35 c35_7 fr st k=evK gS fi35 c35_8 fr st (.blk 0 k) ∧
 evK gS fi35 c35_5 fr st k=opsR gS fi35 [qI 7 0 3] fr st (.seq c35_7 k) ∧
 (evK gS fi35 c35_37 fr st k=opsR gS fi35 [mv 59 1 3,
 qI 4 0 3,
 asn 5 59 3] fr st (.seq .ret k)) ∧
 evK gS fi35 c35_35 fr st k=opsR gS fi35 [cal 58 41 [(.const (.int .i64 3))] [23] 0] fr st (.seq c35_37 k) ∧
 evK gS fi35 c35_4 fr st k=evK gS fi35 c35_5 fr st (.seq c35_35 k) ∧
 evK gS fi35 c35_2 fr st k=opsR gS fi35 [qI 6 0 3] fr st (.seq c35_4 k) ∧
 (evK gS fi35 c35_0 fr st k=opsR gS fi35 [qI 4 0 3,
 qI 5 0 3] fr st (.seq c35_2 k)):=⟨rfl,evK_rs 3 rfl (by kernel_rfl),evK_rs 11 rfl (by kernel_rfl),evK_rs 10 rfl (by kernel_rfl),evK_rs 9 rfl (by kernel_rfl),rfl,evK_rs 8 rfl (by kernel_rfl),evK_rs 7 rfl (by kernel_rfl),evK_rs 6 rfl (by kernel_rfl),evK_rs 5 rfl (by kernel_rfl),evK_r 4 (by kernel_rfl),rfl,rfl,rfl,evK_rs 2 rfl (by kernel_rfl),evK_rs 13 rfl (by kernel_rfl),evK_rs 12 rfl (by kernel_rfl),rfl,evK_rs 1 rfl (by kernel_rfl),evK_rs 0 rfl (by kernel_rfl)⟩
theorem m35:mini fi35.body=c35_0:=by kernel_rfl
theorem n35_8 (fr:Fr)(st:St)(k:Kt):nextK gS fi35 (.loop c35_9 k) .normal fr st=evK gS fi35 c35_8 fr st k:=rfl
theorem k40t (e:Int)(he:e≠0)(fr:Fr)(st:St):callStep gS (EvF gS) 40 [.bool true,.int .i64 e] fr st=some (.ok (.val (.tuple [])) (fr.map E.noMem) st):=by rw [k40 true e he,if_pos rfl]
theorem k40f (e:Int)(he:e≠0)(fr:Fr)(st:St):callStep gS (EvF gS) 40 [.bool false,.int .i64 e] fr st=some (.pan (.iface 23 (.int .i64 e)) st):=by rw [k40 false e he,if_neg (by simp)]
theorem k41 (e:Int)(he:e≠0)(fr:Fr)(st:St):callStep gS (EvF gS) 41 [.int .i64 e] fr st=some (.pan (.iface 23 (.int .i64 e)) st):=by
 unfold callStep
 simp only [show gS.ext 41=none from rfl,fi41_eq,show fi41.pure=false from rfl,Bool.false_eq_true,if_false,c41,if_neg he]
def R35 (at_:Nat)(S:St):Except Int (Nat × Nat)→Out × St
 | .ok (n,k)=>(.ret (.tuple [.int .i64 (n:Int),.int .i64 ((at_+k:Nat):Int)]) none,S)
 | .error e=>(.pan (.iface 23 (.int .i64 e)),S)
theorem L35 (id p:Nat)(B:List UInt8)(z:V)(hB:B.length≤1000000)(hp:p≤1000000)(S:St)(ho:St.obj S id=some [.slice (byteVs B),z])(R:Out × St) :
  ∀ (f i acc:Nat) (e8:E) (T:List (Nat × E)) (X:List (Nat × List V)) (h8:e8.Tame),i+f=9→acc<2 ^ (7*i)→R=R35 p S (rdG f i acc (B.drop (p+i))) →
  evK gS fi35 c35_8 {ps:=[(0,.val (.ptr id 0)),(1,.val (.int .i64 (p:Int))),(4,.val (.int .i64 0)),(5,.val (.int .i64 0)),(6,.val (.int .i64 (acc:Int))),(7,.val (.int .i64 (i:Int))),(8,e8)],ts:=T,lc:=X} S (.blk 0 (.seq c35_35 .nil))=some R:=by
 intro f
 have hm:fi35.marks=[]:=rfl
 have hl:fi35.locals=[]:=rfl
 have hr:fi35.results=[.tmp 4,.tmp 5]:=rfl
 have kt2:=k40t 2 (by decide)
 have kt3:=k40t 3 (by decide)
 have kf2:=k40f 2 (by decide)
 have kf3:=k40f 3 (by decide)
 have kk:=k41 3 (by decide)
 induction f with
 | zero =>
  intro i acc e8 T X h8 hi ha hR
  obtain rfl:i=9:=by omega
  refine evK_loop c35_9 _ _ _ _ rfl ?_
  simp (config:={implicitDefEqProofs:=false}) [-zia,-St.obj,-St.set,h8,kk,hR,R35,rdG,-zil,-zit,-znl,-znt,ty3,ty4,ty5,ty23,ty27,ty60,ty68,ty74,hm,hl,hr,E35,n35_8]
 | succ f ih =>
  intro i acc e8 T X h8 hi ha hR
  have e0:(i:Int)<9:=by omega
  have e1:IntKind.wrap .i64 ((p:Int)+(i:Int))=((p+i:Nat):Int):=by rw [wrap64 (by omega) (by omega)];omega
  refine evK_loop c35_9 _ _ _ _ rfl ?_
  rcases Nat.lt_or_ge (p+i) B.length with hlt | hge
  ·obtain ⟨c,hc⟩:∃ c,B[p+i]?=some c:=⟨B[p+i],zge hlt⟩
   obtain ⟨_,hce⟩:=List.getElem?_eq_some_iff.1 hc
   have e2:((p+i:Nat):Int)<(B.length:Int):=by omega
   have e5:(byteVs B)[p+i]?=some (.int .u8 (c.toNat:Int)):=by rw [byte_get,hc];rfl
   have hbl:=byteVs_length B
   have hc8:=c.toNat_lt
   have e6:IntKind.wrap .i64 (c.toNat:Int)=(c.toNat:Int):=wrap64 (by omega) (by omega)
   have e7:=and127 c.toNat (by omega)
   have e8':IntKind.wrap .i64 (7*(i:Int))=((7*i:Nat):Int):=by rw [wrap64 (by omega) (by omega)];omega
   have e9:IntKind.wrap .u64 ((7*i:Nat):Int)=((7*i:Nat):Int):=wrapU (by omega) (by omega)
   have hy:c.toNat % 128<128:=Nat.mod_lt _ (by decide)
   have e10:=shl7 (c.toNat % 128) i hy (by omega)
   have e11:=or_shift acc (c.toNat % 128) (7*i) (by omega) ha hy
   have e13  := qws i (by omega)
   have e15:IntKind.wrap .i64 (((p+i:Nat):Int)+1)=((p+(i+1):Nat):Int):=by rw [wrap64 (by omega) (by omega)];omega
   have hacc:acc+c.toNat % 128*2 ^ (7*i)<2 ^ (7*(i+1)):=by
    have hy2:c.toNat % 128*2 ^ (7*i)≤127*2 ^ (7*i):=Nat.mul_le_mul_right _ (by omega)
    have:2 ^ (7*(i+1))=2 ^ (7*i)*128:=by rw [show 7*(i+1)=7*i+7 from by omega,Nat.pow_add]
    omega
   rw [drop_get hc,rdG] at hR
   generalize c.toNat % 128*2 ^ (7*i)=w at *
   generalize c.toNat % 128=y at *
   have IH:=fun e8 T X h8=>ih (i+1) (acc+w) e8 T X h8 (by omega) hacc
   rw [show p+(i+1)=p+i+1 from by omega] at IH
   generalize 7*i=s7 at *
   by_cases hl:c.toNat<128
   ·have e12:(c.toNat:Int)<128:=by omega
    rw [if_pos hl] at hR
    by_cases hz:i=0∨0<c.toNat
    ·by_cases hm8:acc+w≤4611686018427387904
     ·rw [if_pos ⟨hz,hm8⟩] at hR
      have e14:((acc+w:Nat):Int)≤4611686018427387904:=by omega
      by_cases hi0:i=0
      ·have e16:=eq_true hi0
       simp (config:={implicitDefEqProofs:=false}) [-zia,e16,-St.obj,-St.set,h8,ho,hbl,byte_gE,hce,hlt,e0,e1,e2,e5,e6,e7,e8',e9,e10,e11,e12,e13,e14,e15,kt2,kt3,hR,R35,-zil,-zit,-znl,-znt,ty3,ty4,ty5,ty23,ty27,ty60,ty68,ty74,hm,hl,hr,E35,n35_8]
      ·have e16:¬ (i:Int)=0:=by omega
       have e17:(0:Int)<(c.toNat:Int):=by omega
       have e18:0<c.toNat:=by omega
       simp (config:={implicitDefEqProofs:=false}) [-zia,-St.obj,-St.set,h8,ho,hbl,byte_gE,hce,hlt,e0,e1,e2,e5,e6,e7,e8',e9,e10,e11,e12,e13,e14,e15,e16,e17,e18,hi0,kt2,kt3,hR,R35,-zil,-zit,-znl,-znt,ty3,ty4,ty5,ty23,ty27,ty60,ty68,ty74,hm,hl,hr,E35,n35_8]
     ·rw [if_neg (fun h=>hm8 h.2)] at hR
      have e14:¬ ((acc+w:Nat):Int)≤4611686018427387904:=by omega
      by_cases hi0:i=0
      ·have e16:=eq_true hi0
       simp (config:={implicitDefEqProofs:=false}) [-zia,e16,-St.obj,-St.set,h8,ho,hbl,byte_gE,hce,hlt,e0,e1,e2,e5,e6,e7,e8',e9,e10,e11,e12,e13,e14,e15,kt2,kt3,kf3,hR,R35,-zil,-zit,-znl,-znt,ty3,ty4,ty5,ty23,ty27,ty60,ty68,ty74,hm,hl,hr,E35,n35_8]
      ·have e16:¬ (i:Int)=0:=by omega
       have e17:(0:Int)<(c.toNat:Int):=by omega
       have e18:0<c.toNat:=by omega
       simp (config:={implicitDefEqProofs:=false}) [-zia,-St.obj,-St.set,h8,ho,hbl,byte_gE,hce,hlt,e0,e1,e2,e5,e6,e7,e8',e9,e10,e11,e12,e13,e14,e15,e16,e17,e18,hi0,kt2,kt3,kf3,hR,R35,-zil,-zit,-znl,-znt,ty3,ty4,ty5,ty23,ty27,ty60,ty68,ty74,hm,hl,hr,E35,n35_8]
    ·rw [if_neg (fun h=>hz h.1)] at hR
     have e16:¬ (i:Int)=0:=by omega
     have e17:¬ (0:Int)<(c.toNat:Int):=by omega
     have e18:¬ 0<c.toNat:=by omega
     have hi0:¬ i=0:=by omega
     simp (config:={implicitDefEqProofs:=false}) [-zia,-St.obj,-St.set,h8,ho,hbl,byte_gE,hce,hlt,e0,e1,e2,e5,e6,e7,e8',e9,e10,e11,e12,e13,e15,e16,e17,e18,hi0,kt2,kf3,hR,R35,-zil,-zit,-znl,-znt,ty3,ty4,ty5,ty23,ty27,ty60,ty68,ty74,hm,hl,hr,E35,n35_8]
   ·have e12:¬ (c.toNat:Int)<128:=by omega
    rw [if_neg hl] at hR
    simp (config:={implicitDefEqProofs:=false}) [-zia,-St.obj,-St.set,h8,ho,hbl,byte_gE,hce,hlt,e0,e1,e2,e5,e6,e7,e8',e9,e10,e11,e12,e13,e15,kt2,-zil,-zit,-znl,-znt,ty3,ty4,ty5,ty23,ty27,ty60,ty68,ty74,hm,hl,hr,E35,n35_8]
    exact IH _ _ _ (tame_val _) hR
  ·have e2:¬ ((p+i:Nat):Int)<(B.length:Int):=by omega
   rw [List.drop_of_length_le hge,rdG] at hR
   simp (config:={implicitDefEqProofs:=false}) [-zia,-St.obj,-St.set,h8,ho,e0,e1,e2,kf2,hR,R35,-zil,-zit,-znl,-znt,ty3,ty4,ty5,ty23,ty27,ty60,ty68,ty74,hm,hl,hr,E35,n35_8]
theorem c35 (id p:Nat)(B:List UInt8)(z:V)(hB:B.length≤1000000)(hp:p≤1000000)(S:St)(ho:St.obj S id=some [.slice (byteVs B),z]) :
  EvF gS 35 [.ptr id 0,.int .i64 (p:Int)] S=some (R35 p S (rd (B.drop p))):=by
 refine EvF_start fi35_eq (fun x h=>by cases h <;> decide) m35 ?_
 rw [st35]
 have LL:=L35 id p B z hB hp S ho (R35 p S (rd (B.drop p))) 9 0 0 .any
 simp (config:={implicitDefEqProofs:=false}) [-St.obj,-St.set,-zil,-zit,-znl,-znt,ty3,ty4,ty5,ty23,ty27,ty60,ty68,ty74,H35,E35,n35_8]
 exact LL _ _ rfl rfl (by decide) rfl
theorem k35 (id p:Nat)(B:List UInt8)(z:V)(hB:B.length≤1000000)(hp:p≤1000000)(fr:Fr)(S:St)(ho:St.obj S id=some [.slice (byteVs B),z]) :
  callStep gS (EvF gS) 35 [.ptr id 0,.int .i64 (p:Int)] fr S=some (match rd (B.drop p) with
   | .ok (n,k)=>.ok (.val (.tuple [.int .i64 (n:Int),.int .i64 ((p+k:Nat):Int)])) (fr.map E.noMem) S
   | .error e=>.pan (.iface 23 (.int .i64 e)) S):=by
 unfold callStep
 simp only [show gS.ext 35=none from rfl,fi35_eq,show fi35.pure=false from rfl,Bool.false_eq_true,if_false,c35 id p B z hB hp S ho]
 cases rd (B.drop p) <;> rfl
def fi23:FI:={body:=codeOf Try.f23,ntmps:=19,results:=[.tmp 2],pers:=[0,2,3,4],locals:=[],pure:=false,marks:=[]}
theorem H23:fi23.marks=[]∧fi23.locals=[]∧fi23.results=[.tmp 2]:=⟨rfl,rfl,rfl⟩
theorem fi23_eq:gS.fn 23=some fi23:=by kernel_rfl
theorem st23 (a0:V):startFr fi23 [a0]={ps:=[(0,.val a0),(2,.any),(3,.any),(4,.any)],ts:=[],lc:=[]}:=rfl
def b23:Code:=mini (codeOf Try.f23)
def c23_6:Code:=.seq (codeN b23 23) .ret
def c23_4:Code:=.seq (codeN b23 11) c23_6
def c23_2:Code:=.seq (codeN b23 5) c23_4
def c23_0:Code:=.seq (codeN b23 2) c23_2
theorem E23:(evK gS fi23 c23_6 fr st k=opsR gS fi23 [mv 18 3 3,
 asn 2 18 3] fr st (.seq .ret k)) ∧
 (evK gS fi23 c23_4 fr st k=opsR gS fi23 [mv 14 0 60,
 mv 15 4 3,
 op1 16 (.nilCheck (.tmp 14)) 0,
 qF 17 68 16 1 0,
 sto 3 17 15] fr st (.seq c23_6 k)) ∧
 (evK gS fi23 c23_2 fr st k=opsR gS fi23 [mv 6 0 60,
 mv 7 0 60,
 op1 8 (.nilCheck (.tmp 7)) 0,
 qF 9 68 8 1 0,
 ld 10 3 9 3,
 cal 11 35 [(.tmp 6),(.tmp 10)] [60,3] 70,
 mv 5 11 70,
 op1 12 (.extract (.tmp 5) 0) 3,
 op1 13 (.extract (.tmp 5) 1) 3,
 asn 3 12 3,
 asn 4 13 3] fr st (.seq c23_4 k)) ∧
 evK gS fi23 c23_0 fr st k=opsR gS fi23 [qI 2 0 3] fr st (.seq c23_2 k):=⟨evK_rs 3 rfl (by kernel_rfl),evK_rs 2 rfl (by kernel_rfl),evK_rs 1 rfl (by kernel_rfl),evK_rs 0 rfl (by kernel_rfl)⟩
theorem m23:mini fi23.body=c23_0:=by kernel_rfl
def R23 (S S':St):Except Int (Nat × Nat)→Out × St
 | .ok (n,_)=>(.ret (.int .i64 (n:Int)) none,S')
 | .error e=>(.pan (.iface 23 (.int .i64 e)),S)
theorem c23 (id p:Nat)(B:List UInt8)(hB:B.length≤1000000)(hp:p≤1000000)(S S':St)(ho:St.obj S id=some [.slice (byteVs B),.int .i64 (p:Int)])(hs:∀ n k,rd (B.drop p)=.ok (n,k)→St.set S id [.slice (byteVs B),.int .i64 ((p+k:Nat):Int)]=some S') :
  EvF gS 23 [.ptr id 0] S=some (R23 S S' (rd (B.drop p))):=by
 refine EvF_start fi23_eq (fun x h=>by cases h <;> decide) m23 ?_
 rw [st23]
 have kk:=fun fr=>k35 id p B _ hB hp fr S ho
 cases hd:rd (B.drop p) with
 | error e =>
  rw [hd] at kk
  simp (config:={implicitDefEqProofs:=false}) [-zia,-St.obj,-St.set,ho,kk,R23,-zil,-zit,-znl,-znt,ty3,ty60,ty68,H23,E23]
 | ok y =>
  obtain ⟨n,k⟩:=y
  rw [hd] at kk
  have hs2:=hs n k hd
  simp (config:={implicitDefEqProofs:=false}) [-zia,-St.obj,-St.set,ho,hs2,kk,R23,-zil,-zit,-znl,-znt,ty3,ty60,ty68,H23,E23]
theorem k23 (id p:Nat)(B:List UInt8)(hB:B.length≤1000000)(hp:p≤1000000)(fr:Fr)(S S':St)(ho:St.obj S id=some [.slice (byteVs B),.int .i64 (p:Int)])(hs:∀ n k,rd (B.drop p)=.ok (n,k)→St.set S id [.slice (byteVs B),.int .i64 ((p+k:Nat):Int)]=some S') :
  callStep gS (EvF gS) 23 [.ptr id 0] fr S=some (match rd (B.drop p) with
   | .ok (n,_)=>.ok (.val (.int .i64 (n:Int))) (fr.map E.noMem) S'
   | .error e=>.pan (.iface 23 (.int .i64 e)) S):=by
 unfold callStep
 simp only [show gS.ext 23=none from rfl,fi23_eq,show fi23.pure=false from rfl,Bool.false_eq_true,if_false,c23 id p B hB hp S S' ho hs]
 cases rd (B.drop p) <;> rfl
def fi24:FI:={body:=codeOf Try.f24,ntmps:=13,results:=[.tmp 2],pers:=[0,2],locals:=[],pure:=true,marks:=[]}
theorem H24:fi24.marks=[]∧fi24.locals=[]∧fi24.results=[.tmp 2]:=⟨rfl,rfl,rfl⟩
theorem fi24_eq:gS.fn 24=some fi24:=by kernel_rfl
theorem st24 (a0:V):startFr fi24 [a0]={ps:=[(0,.val a0),(2,.any)],ts:=[],lc:=[]}:=rfl
def b24:Code:=mini (codeOf Try.f24)
def r24_3:Array Oper:=regOps (codeN (codeOf Try.f24) 5)
def c24_3:Code:=.region 1 r24_3 true
def q24_3:List (Oper × Fl):=[(mv 3 0 60,qz0),
 (op1 4 (.nilCheck (.tmp 3)) 0,qz0),
 (qF 5 68 4 0 0,qz0),
 (ld 6 27 5 27,qz0),
 (len1 7 6 27 3,qz0),
 (mv 8 0 60,qz3),
 (op1 9 (.nilCheck (.tmp 8)) 0,qz3),
 (qF 10 68 9 1 0,qz3),
 (ld 11 3 10 3,qz3),
 (bop 12 .sub 3 7 11 3 3,qz3),
 (asn 2 12 3,qz5)]
theorem e24_3:evK gS fi24 c24_3 fr st k=drwR gS fi24 r24_3 q24_3 fr st k:=evK_dr 1 rfl (by kernel_rfl) (by kernel_rfl)
def c24_2:Code:=.seq c24_3 .ret
theorem e24_2:evK gS fi24 c24_2 fr st k=evK gS fi24 c24_3 fr st (.seq .ret k):=rfl
def c24_0:Code:=.seq (codeN b24 2) c24_2
theorem e24_0:evK gS fi24 c24_0 fr st k=opsR gS fi24 [qI 2 0 3] fr st (.seq c24_2 k):=evK_rs 0 rfl (by kernel_rfl)
theorem m24:mini fi24.body=c24_0:=by kernel_rfl
theorem c24 (id p:Nat)(B:List UInt8)(hB:B.length≤1000000)(hp:p≤B.length)(S:St)(ho:St.obj S id=some [.slice (byteVs B),.int .i64 (p:Int)]) :
  EvF gS 24 [.ptr id 0] S=some (.ret (.int .i64 ((B.length - p:Nat):Int)) none,S):=by
 refine EvF_start fi24_eq (fun x h=>by cases h <;> decide) m24 ?_
 rw [st24]
 have e1:IntKind.wrap .i64 ((B.length:Int) - (p:Int))=((B.length - p:Nat):Int):=by rw [wrap64 (by omega) (by omega)];omega
 simp (config:={implicitDefEqProofs:=false}) [-zia,-St.obj,-St.set,ho,e1,-zil,-zit,-znl,-znt,ty3,ty27,ty60,ty68,H24,e24_3,q24_3,e24_2,e24_0]
theorem k24 (id p:Nat)(B:List UInt8)(hB:B.length≤1000000)(hp:p≤B.length)(fr:Fr)(S:St)(ho:St.obj S id=some [.slice (byteVs B),.int .i64 (p:Int)]) :
  callStep gS (EvF gS) 24 [.ptr id 0] fr S=some (.ok (.val (.int .i64 ((B.length - p:Nat):Int))) fr S):=by
 unfold callStep
 simp only [show gS.ext 24=none from rfl,fi24_eq,show fi24.pure=true from rfl,if_true,show flats [V.ptr id 0]=false from rfl,Bool.false_eq_true,if_false]
 rw [c24 id p B hB hp _ (by exact ho)]
 simp [V.flat,retE]
end
end Go.Proofs.Ytebjpgoadapabaa
namespace Go.Proofs.Ytebjpgoadapabaa
open Go Go.Ab
noncomputable section
variable (fr:Fr)(st:St)(k:Kt)
def fi33:FI:={body:=codeOf Try.f33,ntmps:=8,results:=[.cell 2 23],pers:=[0,2],locals:=[],pure:=false,marks:=[]}
theorem fi33_eq:gS.fn 33=some fi33:=by kernel_rfl
def fi22:FI:={body:=codeOf Try.f22,ntmps:=12,results:=[],pers:=[0,1,2,3,4],locals:=[],pure:=false,marks:=[]}
theorem H22:fi22.marks=[]∧fi22.locals=[]∧fi22.results=[]:=⟨rfl,rfl,rfl⟩
theorem fi22_eq:gS.fn 22=some fi22:=by kernel_rfl
theorem st22 (a0 a1 a2 a3 a4:V):startFr fi22 [a0,a1,a2,a3,a4]={ps:=[(0,.val a0),(1,.val a1),(2,.val a2),(3,.val a3),(4,.val a4)],ts:=[],lc:=[]}:=rfl
def b22:Code:=mini (codeOf Try.f22)
def c22_4:Code:=codeN b22 7
theorem e22_4:evK gS fi22 c22_4 fr st k=opsR gS fi22 [mv 10 0 60,
 cal 11 24 [(.tmp 10)] [60] 3,
 sto 3 3 11,
 mk none (.store 4 (.tmp 4) (.const (.bool true))) 0 none] fr st k:=evK_r 2 (by kernel_rfl)
def c22_2:Code:=.seq (codeN b22 5) c22_4
theorem e22_2:evK gS fi22 c22_2 fr st k=opsR gS fi22 [mv 8 0 60,
 cal 9 23 [(.tmp 8)] [60] 3,
 sto 3 2 9] fr st (.seq c22_4 k):=evK_rs 1 rfl (by kernel_rfl)
def c22_0:Code:=.seq (codeN b22 2) c22_2
theorem e22_0:evK gS fi22 c22_0 fr st k=opsR gS fi22 [mv 6 0 60,
 cal 7 23 [(.tmp 6)] [60] 3,
 sto 3 1 7] fr st (.seq c22_2 k):=evK_rs 0 rfl (by kernel_rfl)
theorem m22:mini fi22.body=c22_0:=by kernel_rfl
def fi34:FI:={body:=codeOf Try.f34,ntmps:=5,results:=[],pers:=[0,1],locals:=[],pure:=false,marks:=[]}
theorem H34:fi34.marks=[]∧fi34.locals=[]∧fi34.results=[]:=⟨rfl,rfl,rfl⟩
theorem fi34_eq:gS.fn 34=some fi34:=by kernel_rfl
theorem st34 (a0 a1:V):startFr fi34 [a0,a1]={ps:=[(0,.val a0),(1,.val a1)],ts:=[],lc:=[]}:=rfl
def b34:Code:=mini (codeOf Try.f34)
def c34_0:Code:=codeN b34 1
theorem e34_0:evK gS fi34 c34_0 fr st k=opsR gS fi34 [ld 2 61 0 61,
 ld 3 60 1 60,
 op1 4 (.call {callee:=(.value (.tmp 2)),args:=#[(.tmp 3)],argTypes:=#[60]}) 0] fr st k:=evK_r 0 (by kernel_rfl)
theorem m34:mini fi34.body=c34_0:=by kernel_rfl
def fi21:FI:={body:=codeOf Try.f21,ntmps:=21,results:=[.tmp 4],pers:=[0,1,3,4,5,6],locals:=[],pure:=false,marks:=[]}
theorem H21:fi21.marks=[]∧fi21.locals=[]∧fi21.results=[.tmp 4]:=⟨rfl,rfl,rfl⟩
theorem fi21_eq:gS.fn 21=some fi21:=by kernel_rfl
theorem st21 (a0 a1:V):startFr fi21 [a0,a1]={ps:=[(0,.val a0),(1,.val a1),(3,.any),(4,.any),(5,.any),(6,.any)],ts:=[],lc:=[]}:=rfl
def b21:Code:=mini (codeOf Try.f21)
def c21_13:Code:=.seq (codeN b21 619) .ret
def c21_12:Code:=.cond (.tmp 16) c21_13 .skip
def c21_10:Code:=.seq (codeN b21 171) c21_12
def c21_8:Code:=.seq (codeN b21 75) c21_10
def c21_7:Code:=.cond (.tmp 12) c21_8 .skip
def c21_5:Code:=.seq (codeN b21 19) c21_7
def c21_22:Code:=.seq (codeN b21 151) .ret
def c21_21:Code:=.cond (.tmp 20) c21_22 .skip
def c21_19:Code:=.seq (codeN b21 39) c21_21
def c21_26:Code:=.seq (codeN b21 47) .ret
def c21_18:Code:=.seq c21_19 c21_26
def c21_4:Code:=.seq c21_5 c21_18
def c21_2:Code:=.seq (codeN b21 5) c21_4
def c21_0:Code:=.seq (codeN b21 2) c21_2
theorem E21:(evK gS fi21 c21_13 fr st k=opsR gS fi21 [mv 17 6 23,
 asn 4 17 23] fr st (.seq .ret k)) ∧
 evK gS fi21 c21_12 fr st k=condK gS fi21 (fr.op (.tmp 16)).bool? c21_13 .skip fr st k ∧
 (evK gS fi21 c21_10 fr st k=opsR gS fi21 [mv 15 6 23,
 qB 16 .neq 23 15 0 23 4] fr st (.seq c21_12 k)) ∧
 (evK gS fi21 c21_8 fr st k=opsR gS fi21 [op1 13 (.makeFunc (.func 34) #[] #[(.tmp 3),(.tmp 5)]) 1,
 cal 14 33 [(.tmp 13)] [1] 23,
 asn 6 14 23] fr st (.seq c21_10 k)) ∧
 evK gS fi21 c21_7 fr st k=condK gS fi21 (fr.op (.tmp 12)).bool? c21_8 .skip fr st k ∧
 (evK gS fi21 c21_5 fr st k=opsR gS fi21 [ld 11 61 3 61,
 op1 12 (.binOp .neq 61 (.tmp 11) (.const .nilFunc) 61) 4] fr st (.seq c21_7 k)) ∧
 evK gS fi21 c21_22 fr st k=opsR gS fi21 [qI 4 3 23] fr st (.seq .ret k) ∧
 evK gS fi21 c21_21 fr st k=condK gS fi21 (fr.op (.tmp 20)).bool? c21_22 .skip fr st k ∧
 (evK gS fi21 c21_19 fr st k=opsR gS fi21 [ld 18 60 5 60,
 cal 19 24 [(.tmp 18)] [60] 3,
 qB 20 .gtr 3 19 0 3 4] fr st (.seq c21_21 k)) ∧
 evK gS fi21 c21_26 fr st k=opsR gS fi21 [qI 4 0 23] fr st (.seq .ret k) ∧
 evK gS fi21 c21_18 fr st k=evK gS fi21 c21_19 fr st (.seq c21_26 k) ∧
 evK gS fi21 c21_4 fr st k=evK gS fi21 c21_5 fr st (.seq c21_18 k) ∧
 (evK gS fi21 c21_2 fr st k=opsR gS fi21 [mv 7 0 27,
 op1 8 (.call {callee:=(.builtin .append),args:=#[(.const (.slice none 0 0)),(.tmp 7)],argTypes:=#[27,27]}) 27,
 op1 9 (.build 68 #[(0,(.tmp 8))]) 68,
 op1 10 (.box 68 (.tmp 9)) 60,
 op1 5 (.alloc 60) 0,
 sto 60 5 10] fr st (.seq c21_4 k)) ∧
 (evK gS fi21 c21_0 fr st k=opsR gS fi21 [op1 3 (.box 61 (.tmp 1)) 0,
 qI 4 0 23] fr st (.seq c21_2 k)):=⟨evK_rs 5 rfl (by kernel_rfl),rfl,evK_rs 4 rfl (by kernel_rfl),evK_rs 3 rfl (by kernel_rfl),rfl,evK_rs 2 rfl (by kernel_rfl),evK_rs 7 rfl (by kernel_rfl),rfl,evK_rs 6 rfl (by kernel_rfl),evK_rs 8 rfl (by kernel_rfl),rfl,rfl,evK_rs 1 rfl (by kernel_rfl),evK_rs 0 rfl (by kernel_rfl)⟩
theorem m21:mini fi21.body=c21_0:=by kernel_rfl
def cR (fr:Fr):Out × St→Rs
 | (.ret v k,st')=>.ok (retE k v) (fr.map E.noMem) st'
 | (.pan v,st')=>.pan v st'
theorem call_np {f:Nat} {args:List V} {st:St} {fi:FI} {r:Out × St} (hx:gS.ext f=none)(hf:gS.fn f=some fi)(hp:fi.pure=false)(h:EvF gS f args st=some r)(fr:Fr) :
  callStep gS (EvF gS) f args fr st=some (cR fr r):=by
 unfold callStep
 simp only [hx,hf,hp,Bool.false_eq_true,if_false,h]
 obtain ⟨o,st'⟩:=r
 cases o <;> rfl
def S7 (S0:St)(a b l:Nat)(h:Bool)(X4:List V)(B:List UInt8)(p:Nat)(X6:List V):St:=apps S0 [[.int .i64 (a:Int)],[.int .i64 (b:Int)],[.int .i64 (l:Int)],[.bool h],X4,[.slice (byteVs B),.int .i64 (p:Int)],X6]
section
variable (S0:St)(hw0:S0.wp≤S0.objs.length)(a b l:Nat)(h:Bool)(X4:List V)(B:List UInt8)(p:Nat)(X6:List V)
theorem S7_o0:St.obj (S7 S0 a b l h X4 B p X6) S0.objs.length=some [.int .i64 (a:Int)]:=apps_get S0 _ 0
theorem S7_o1:St.obj (S7 S0 a b l h X4 B p X6) (S0.objs.length+1)=some [.int .i64 (b:Int)]:=apps_get S0 _ 1
theorem S7_o2:St.obj (S7 S0 a b l h X4 B p X6) (S0.objs.length+2)=some [.int .i64 (l:Int)]:=apps_get S0 _ 2
theorem S7_o3:St.obj (S7 S0 a b l h X4 B p X6) (S0.objs.length+3)=some [.bool h]:=apps_get S0 _ 3
theorem S7_o4:St.obj (S7 S0 a b l h X4 B p X6) (S0.objs.length+4)=some X4:=apps_get S0 _ 4
theorem S7_o5:St.obj (S7 S0 a b l h X4 B p X6) (S0.objs.length+5)=some [.slice (byteVs B),.int .i64 (p:Int)]:=apps_get S0 _ 5
theorem S7_o6:St.obj (S7 S0 a b l h X4 B p X6) (S0.objs.length+6)=some X6:=apps_get S0 _ 6
include hw0
theorem S7_s0 (a':Nat):St.set (S7 S0 a b l h X4 B p X6) S0.objs.length [.int .i64 (a':Int)]=some (S7 S0 a' b l h X4 B p X6):=apps_put hw0 _ 0 _
theorem S7_s1 (b':Nat):St.set (S7 S0 a b l h X4 B p X6) (S0.objs.length+1) [.int .i64 (b':Int)]=some (S7 S0 a b' l h X4 B p X6):=apps_put hw0 _ 1 _
theorem S7_s2 (l':Nat):St.set (S7 S0 a b l h X4 B p X6) (S0.objs.length+2) [.int .i64 (l':Int)]=some (S7 S0 a b l' h X4 B p X6):=apps_put hw0 _ 2 _
theorem S7_s3 (h':Bool):St.set (S7 S0 a b l h X4 B p X6) (S0.objs.length+3) [.bool h']=some (S7 S0 a b l h' X4 B p X6):=apps_put hw0 _ 3 _
theorem S7_s5 (p':Nat):St.set (S7 S0 a b l h X4 B p X6) (S0.objs.length+5) [.slice (byteVs B),.int .i64 (p':Int)]=some (S7 S0 a b l h X4 B p' X6):=apps_put hw0 _ 5 _
end
def R22 (S0:St)(X4:List V)(B:List UInt8)(X6:List V):Out × St :=
 match rd B with
 | .error e=>(.pan (.iface 23 (.int .i64 e)),S7 S0 0 0 0 false X4 B 0 X6)
 | .ok (n,k)=>match rd (B.drop k) with
  | .error e=>(.pan (.iface 23 (.int .i64 e)),S7 S0 n 0 0 false X4 B k X6)
  | .ok (a,k2)=>(.ret (.tuple []) none,S7 S0 n a (B.length - (k+k2)) true X4 B (k+k2) X6)
theorem c22 (S0:St)(hw0:S0.wp≤S0.objs.length)(X4:List V)(B:List UInt8)(X6:List V)(hB:B.length≤1000000) :
  EvF gS 22 [.ptr (S0.objs.length+5) 0,.ptr S0.objs.length 0,.ptr (S0.objs.length+1) 0,.ptr (S0.objs.length+2) 0,.ptr (S0.objs.length+3) 0] (S7 S0 0 0 0 false X4 B 0 X6)=some (R22 S0 X4 B X6):=by
 refine EvF_start fi22_eq (fun x h=>by cases h <;> decide) m22 ?_
 rw [st22]
 have k1:=fun fr S' hs=>k23 (S0.objs.length+5) 0 B hB (by omega) fr (S7 S0 0 0 0 false X4 B 0 X6) S' (S7_o5 S0 0 0 0 false X4 B 0 X6) hs
 rw [List.drop_zero] at k1
 unfold R22
 cases hd:rd B with
 | error e =>
  have k2:=fun fr=>k1 fr (S7 S0 0 0 0 false X4 B 0 X6) (fun n k h=>by rw [hd] at h;cases h)
  rw [hd] at k2
  simp (config:={implicitDefEqProofs:=false}) [-zia,-St.obj,-St.set,k2,-zil,-zit,-znl,-znt,ty3,ty4,ty60,H22,e22_4,e22_2,e22_0]
 | ok y =>
  obtain ⟨n,k⟩:=y
  obtain ⟨_,_,hk⟩:=rd_bound hd
  have k2:=fun fr=>k1 fr (S7 S0 0 0 0 false X4 B k X6) (fun n' k' h=>by rw [hd] at h;cases h;rw [S7_s5 S0 hw0,Nat.zero_add])
  rw [hd] at k2
  have f0:=S7_o0 S0 0 0 0 false X4 B k X6
  have f1:=S7_s0 S0 hw0 0 0 0 false X4 B k X6 n
  have k3:=fun fr S' hs=>k23 (S0.objs.length+5) k B hB (by omega) fr (S7 S0 n 0 0 false X4 B k X6) S' (S7_o5 S0 n 0 0 false X4 B k X6) hs
  simp only
  cases hd2:rd (B.drop k) with
  | error e =>
   have k4:=fun fr=>k3 fr (S7 S0 n 0 0 false X4 B k X6) (fun n k h=>by rw [hd2] at h;cases h)
   rw [hd2] at k4
   simp (config:={implicitDefEqProofs:=false}) [-zia,-St.obj,-St.set,k2,k4,f0,f1,-zil,-zit,-znl,-znt,ty3,ty4,ty60,H22,e22_4,e22_2,e22_0]
  | ok y =>
   obtain ⟨a,k5⟩:=y
   obtain ⟨_,_,hk5⟩:=rd_bound hd2
   rw [List.length_drop] at hk5
   have k4:=fun fr=>k3 fr (S7 S0 n 0 0 false X4 B (k+k5) X6) (fun n' k' h=>by rw [hd2] at h;cases h;rw [S7_s5 S0 hw0])
   rw [hd2] at k4
   have f2:=S7_o1 S0 n 0 0 false X4 B (k+k5) X6
   have f3:=S7_s1 S0 hw0 n 0 0 false X4 B (k+k5) X6 a
   have f4:=S7_o2 S0 n a 0 false X4 B (k+k5) X6
   have f5:=S7_s2 S0 hw0 n a 0 false X4 B (k+k5) X6 (B.length - (k+k5))
   have f6:=S7_o3 S0 n a (B.length - (k+k5)) false X4 B (k+k5) X6
   have f7:=S7_s3 S0 hw0 n a (B.length - (k+k5)) false X4 B (k+k5) X6 true
   have k6:=fun fr=>k24 (S0.objs.length+5) (k+k5) B hB (by omega) fr _ (S7_o5 S0 n a 0 false X4 B (k+k5) X6)
   show _=some (Out.ret (V.tuple []) none,S7 S0 n a (B.length - (k+k5)) true X4 B (k+k5) X6)
   generalize k+k5=kk at *
   generalize B.length - kk=ll at *
   simp (config:={implicitDefEqProofs:=false}) [-zia,-St.obj,-St.set,k2,k4,k6,f0,f1,f2,f3,f4,f5,f6,f7,-zil,-zit,-znl,-znt,ty3,ty4,ty60,H22,e22_4,e22_2,e22_0]
theorem c34 (S0:St)(hw0:S0.wp≤S0.objs.length)(B:List UInt8)(hB:B.length≤1000000)(X4 X6:List V)(h4:X4=[.func 22 [] [.ptr S0.objs.length 0,.ptr (S0.objs.length+1) 0,.ptr (S0.objs.length+2) 0,.ptr (S0.objs.length+3) 0]])(h6:X6=[.ptr (S0.objs.length+5) 0]) :
  EvF gS 34 [.ptr (S0.objs.length+4) 0,.ptr (S0.objs.length+6) 0] (S7 S0 0 0 0 false X4 B 0 X6)=some (R22 S0 X4 B X6):=by
 refine EvF_start fi34_eq (fun x h=>by cases h <;> decide) m34 ?_
 rw [st34]
 have kk:=fun fr=>call_np rfl fi22_eq rfl (c22 S0 hw0 X4 B X6 hB) fr
 have o4:=S7_o4 S0 0 0 0 false X4 B 0 X6
 have o6:=S7_o6 S0 0 0 0 false X4 B 0 X6
 have hout:(∃ v st',R22 S0 X4 B X6=(.pan v,st'))∨∃ st',R22 S0 X4 B X6=(.ret (.tuple []) none,st'):=by
  unfold R22
  split
  ·exact .inl ⟨_,_,rfl⟩
  ·split
   ·exact .inl ⟨_,_,rfl⟩
   ·exact .inr ⟨_,rfl⟩
 rcases hout with ⟨v,st',ho⟩ | ⟨st',ho⟩
 ·rw [ho] at kk ⊢
  generalize S7 S0 0 0 0 false X4 B 0 X6=SS at *
  subst h4 h6
  simp (config:={implicitDefEqProofs:=false}) [-St.obj,-St.set,o4,o6,kk,cR,-zil,-zit,-znl,-znt,ty60,ty61,H34,e34_0]
 ·rw [ho] at kk ⊢
  generalize S7 S0 0 0 0 false X4 B 0 X6=SS at *
  subst h4 h6
  simp (config:={implicitDefEqProofs:=false}) [-St.obj,-St.set,o4,o6,kk,cR,retE,-zil,-zit,-znl,-znt,ty60,ty61,H34,e34_0]
def R33:Out × St→Out × St
 | (.ret _ _,S)=>(.ret (.int .i64 0) none,S)
 | (.pan (.iface _ (.int .i64 e)),S)=>(.ret (.int .i64 e) none,S)
 | (.pan v,S)=>(.pan v,S)
theorem c33 (S0:St)(hw0:S0.wp≤S0.objs.length)(B:List UInt8)(hB:B.length≤1000000)(X4 X6:List V)(h4:X4=[.func 22 [] [.ptr S0.objs.length 0,.ptr (S0.objs.length+1) 0,.ptr (S0.objs.length+2) 0,.ptr (S0.objs.length+3) 0]])(h6:X6=[.ptr (S0.objs.length+5) 0]) :
  EvF gS 33 [.func 34 [] [.ptr (S0.objs.length+4) 0,.ptr (S0.objs.length+6) 0]] (S7 S0 0 0 0 false X4 B 0 X6)=some (R33 (R22 S0 X4 B X6)):=by
 refine EvF_run (e:=23) rfl ?_
 unfold runFn
 simp only [List.nil_append,c34 S0 hw0 B hB X4 X6 h4 h6]
 unfold R22
 cases rd B with
 | error e=>rfl
 | ok y =>
  obtain ⟨n,k⟩:=y
  simp only
  cases rd (B.drop k) with
  | error e=>rfl
  | ok y=>rfl
def R21 (S0:St)(X4:List V)(B:List UInt8)(X6:List V):Int × St :=
 match rd B with
 | .error e=>(e,S7 S0 0 0 0 false X4 B 0 X6)
 | .ok (n,k)=>match rd (B.drop k) with
  | .error e=>(e,S7 S0 n 0 0 false X4 B k X6)
  | .ok (a,k2)=>(if k+k2<B.length then 3 else 0,S7 S0 n a (B.length - (k+k2)) true X4 B (k+k2) X6)
theorem c21 (S0:St)(hw0:S0.wp≤S0.objs.length)(B:List UInt8)(hB:B.length≤1000000)(X4 X6:List V)(h4:X4=[.func 22 [] [.ptr S0.objs.length 0,.ptr (S0.objs.length+1) 0,.ptr (S0.objs.length+2) 0,.ptr (S0.objs.length+3) 0]])(h6:X6=[.ptr (S0.objs.length+5) 0]) :
  EvF gS 21 [.slice (byteVs B),.func 22 [] [.ptr S0.objs.length 0,.ptr (S0.objs.length+1) 0,.ptr (S0.objs.length+2) 0,.ptr (S0.objs.length+3) 0]] (apps S0 [[.int .i64 0],[.int .i64 0],[.int .i64 0],[.bool false]])=some (.ret (.int .i64 (R21 S0 X4 B X6).1) none,(R21 S0 X4 B X6).2):=by
 refine EvF_start fi21_eq (fun x h=>by cases h <;> decide) m21 ?_
 rw [st21]
 have kr:=fun fr=>call_np (fi:=fi33) rfl fi33_eq rfl (c33 S0 hw0 B hB X4 X6 h4 h6) fr
 have hs:=sizes_bytes B
 have b1:B.length≤140737488355328:=by omega
 have q4:=apps_get S0 [[.int .i64 0],[.int .i64 0],[.int .i64 0],[.bool false],X4] 4
 have q4':=apps_get S0 [[.int .i64 0],[.int .i64 0],[.int .i64 0],[.bool false],X4,[.slice (byteVs B),.int .i64 0],X6] 4
 have q5':=apps_get S0 [[.int .i64 0],[.int .i64 0],[.int .i64 0],[.bool false],X4,[.slice (byteVs B),.int .i64 0],[.nilp]] 6
 have q6:=apps_put hw0 [[.int .i64 0],[.int .i64 0],[.int .i64 0],[.bool false],X4,[.slice (byteVs B),.int .i64 0],[.nilp]] 6 X6
 simp only [List.getElem?_cons_succ,List.getElem?_cons_zero,List.set_cons_succ,List.set_cons_zero] at q4 q4' q5' q6
 have hS7:S7 S0 0 0 0 false X4 B 0 X6=apps S0 [[.int .i64 0],[.int .i64 0],[.int .i64 0],[.bool false],X4,[.slice (byteVs B),.int .i64 0],X6]:=rfl
 unfold R22 R33 at kr
 cases hd:rd B with
 | error e =>
  rw [hd] at kr
  have hR:R21 S0 X4 B X6=(e,S7 S0 0 0 0 false X4 B 0 X6):=by unfold R21;rw [hd]
  rw [hR]
  have he:=rdG_err 9 0 0 B e hd
  have he0:¬ e=0:=by omega
  simp only at kr
  rw [hS7] at kr ⊢
  subst h4 h6
  unfold apps at *
  simp (config:={implicitDefEqProofs:=false}) [-zia,-St.obj,-St.set,hs,b1,q4,q4',q5',q6,kr,cR,retE,he0,-zil,-zit,-znl,-znt,ty1,ty3,ty4,ty23,ty27,ty60,ty61,ty68,H21,E21]
 | ok y =>
  obtain ⟨n,k⟩:=y
  obtain ⟨_,_,hk⟩:=rd_bound hd
  rw [hd] at kr
  simp only at kr
  cases hd2:rd (B.drop k) with
  | error e =>
   rw [hd2] at kr
   have hR:R21 S0 X4 B X6=(e,S7 S0 n 0 0 false X4 B k X6):=by unfold R21;rw [hd];simp only;rw [hd2]
   rw [hR]
   have he:=rdG_err 9 0 0 _ e hd2
   have he0:¬ e=0:=by omega
   simp only at kr
   rw [hS7] at kr
   generalize S7 S0 n 0 0 false X4 B k X6=Z at *
   subst h4 h6
   unfold apps at *
   simp (config:={implicitDefEqProofs:=false}) [-zia,-St.obj,-St.set,hs,b1,q4,q4',q5',q6,kr,cR,retE,he0,-zil,-zit,-znl,-znt,ty1,ty3,ty4,ty23,ty27,ty60,ty61,ty68,H21,E21]
  | ok y =>
   obtain ⟨a,k5⟩:=y
   obtain ⟨_,_,hk5⟩:=rd_bound hd2
   rw [List.length_drop] at hk5
   rw [hd2] at kr
   have hR:R21 S0 X4 B X6=(if k+k5<B.length then 3 else 0,S7 S0 n a (B.length - (k+k5)) true X4 B (k+k5) X6):=by unfold R21;rw [hd];simp only;rw [hd2]
   rw [hR]
   simp only at kr
   rw [hS7] at kr
   have o6:=S7_o6 S0 n a (B.length - (k+k5)) true X4 B (k+k5) X6
   have k6:=fun fr=>k24 (S0.objs.length+5) (k+k5) B hB (by omega) fr _ (S7_o5 S0 n a (B.length - (k+k5)) true X4 B (k+k5) X6)
   generalize S7 S0 n a (B.length - (k+k5)) true X4 B (k+k5) X6=Z at *
   have hlt:((0:Int)<((B.length - (k+k5):Nat):Int))=(k+k5<B.length):=by apply propext;omega
   have hlt':(0<B.length - (k+k5))=(k+k5<B.length):=by apply propext;omega
   generalize B.length - (k+k5)=ll at *
   subst h4 h6
   unfold apps at *
   by_cases hc:k+k5<B.length
   ·have h1:(0:Int)<(ll:Int):=by rw [hlt];exact hc
    have h2:0<ll:=by omega
    simp (config:={implicitDefEqProofs:=false}) [-zia,-St.obj,-St.set,hs,b1,q4,q4',q5',q6,kr,cR,retE,o6,k6,h1,h2,hc,-zil,-zit,-znl,-znt,ty1,ty3,ty4,ty23,ty27,ty60,ty61,ty68,H21,E21]
   ·have h1:¬ (0:Int)<(ll:Int):=by rw [hlt];exact hc
    have h2:¬ 0<ll:=by omega
    simp (config:={implicitDefEqProofs:=false}) [-zia,-St.obj,-St.set,hs,b1,q4,q4',q5',q6,kr,cR,retE,o6,k6,h1,h2,hc,-zil,-zit,-znl,-znt,ty1,ty3,ty4,ty23,ty27,ty60,ty61,ty68,H21,E21]
end
end Go.Proofs.Ytebjpgoadapabaa
namespace Go.Ab
open Go
def ackL (a b t:Nat)(l:List Row):Nat × Nat × List Row:=if b≤a then (a+1,0,(l.drop (a+1 - b)).mapIdx F3) else (b,t,l)
theorem Hp.const {σ:List V→List V→St} {e r:Nat} {p:Prop} (h:Hp σ e r p)(D0:List V)(r':Nat) {q:Prop} (hq:¬ q):Hp (fun C _=>σ C D0) e r' q where
 oe:=fun C _=>h.oe C D0
 se:=fun C _ C'=>h.se C D0 C'
 orr:=fun x=>(hq x).elim
 sr:=fun x=>(hq x).elim
 len:=fun C _ C' _=>h.len C D0 C' D0
 wp:=fun C _ C' _=>h.wp C D0 C' D0
 lw:=fun C _=>h.lw C D0
 oth:=fun C _ C' _ j h1 _=>h.oth' C C' D0 j h1
structure Bys (σ σ':List V→List V→St) (e r r':Nat) (p:Prop):Prop where
 keep:∀ C D C' D' j,j<(σ C D).objs.length→j≠e→(p→j≠r)→St.obj (σ' C' D') j=St.obj (σ C D) j
 len:∀ C D C' D',(σ C D).objs.length≤(σ' C' D').objs.length
 wp:∀ C D C' D',(σ' C' D').wp=(σ C D).wp
 own:r'=r∨∀ C D,(σ C D).objs.length≤r'
theorem Bys.refl {σ:List V→List V→St} {e r:Nat} {p:Prop} (h:Hp σ e r p):Bys σ σ e r r p where
 keep:=fun C D C' D' j _ h1 h2=>h.oth C' D' C D j h1 h2
 len:=fun C D C' D'=>Nat.le_of_eq (h.len C D C' D')
 wp:=fun C D C' D'=>h.wp C' D' C D
 own:=.inl rfl
theorem Bys.apps {σ:List V→List V→St} {e r:Nat} {p:Prop} (h:Hp σ e r p)(L:List (List V)):Bys σ (fun C D=>Ab.apps (σ C D) L) e r r p where
 keep:=fun C D C' D' j hj h1 h2=>by
  show St.obj (Ab.apps _ _) _=_
  rw [apps_lt (by rw [h.len C' D' C D];exact hj)];exact h.oth C' D' C D j h1 h2
 len:=fun C D C' D'=>by simp only [Ab.apps,zla];have:=h.len C D C' D';omega
 wp:=fun C D C' D'=>h.wp C' D' C D
 own:=.inl rfl
theorem Bys.fresh {σ:List V→List V→St} {e r:Nat} {p:Prop} (h:Hp σ e r p)(D0:List V):Bys σ (fun C D=>Ab.apps (σ C D0) ([] ++ [D])) e r (σ [] []).objs.length p where
 keep:=fun C D C' D' j hj h1 h2=>by
  show St.obj (Ab.apps _ _) _=_
  rw [apps_lt (by rw [h.len C' D0 C D];exact hj)];exact h.oth C' D0 C D j h1 h2
 len:=fun C D C' D'=>by simp only [Ab.apps,zla];have:=h.len C D C' D0;omega
 wp:=fun C D C' D'=>h.wp C' D0 C D
 own:=.inr fun C D=>Nat.le_of_eq (h.len C D [] [])
theorem Bys.const {σ:List V→List V→St} {e r:Nat} {p:Prop} (h:Hp σ e r p)(D0:List V):Bys σ (fun C _=>σ C D0) e r (σ [] []).objs.length p where
 keep:=fun C D C' D' j hj h1 h2=>h.oth C' D0 C D j h1 h2
 len:=fun C D C' D'=>Nat.le_of_eq (h.len C D C' D0)
 wp:=fun C D C' D'=>h.wp C' D0 C D
 own:=.inr fun C D=>Nat.le_of_eq (h.len C D [] [])
theorem Bys.trans {σ σ' σ'':List V→List V→St} {e r r' r'':Nat} {p q:Prop} (h:Bys σ σ' e r r' p)(h':Bys σ' σ'' e r' r'' q)(hpq:q→p∨r'≠r):Bys σ σ'' e r r'' p where
 keep:=fun C D C' D' j hj h1 h2=>by
  rw [h'.keep C D C' D' j (Nat.lt_of_lt_of_le hj (h.len C D C D)) h1 (fun hq=>?_)]
  ·exact h.keep C D C D j hj h1 h2
  ·rcases h.own with h3 | h3
   ·rw [h3]
    rcases hpq hq with h4 | h4
    ·exact h2 h4
    ·exact (h4 h3).elim
   ·have:=h3 C D
    omega
 len:=fun C D C' D'=>Nat.le_trans (h.len C D C D) (h'.len C D C' D')
 wp:=fun C D C' D'=>(h'.wp C D C' D').trans (h.wp C D C D)
 own:=by
  rcases h'.own with h3 | h3
  ·rw [h3];exact h.own
  ·exact .inr fun C D=>Nat.le_trans (h.len C D C D) (h3 C D)
structure Tk where
 fs:List (List UInt8)
 er:Int
 b:Nat
 g:Nat
 o:Bool
 t:Nat
 l:List Row
def takeL (b s1 g:Nat)(o:Bool)(t:Nat)(l:List Row)(B:List UInt8):Tk :=
 match pr2 B with
 | .error er=>⟨[],er,b,g,o,t,l⟩
 | .ok (n,a,rest)=>if s1<a then ⟨[],1,b,g,o,t,l⟩ else
  if n=0 then ⟨[],0,(ackL a b t l).1,g,o,(ackL a b t l).2.1,(ackL a b t l).2.2⟩
  else if n=g+1 then ⟨[rest],0,(ackL a b t l).1,n,true,(ackL a b t l).2.1,(ackL a b t l).2.2⟩
  else ⟨[],0,(ackL a b t l).1,g,true,(ackL a b t l).2.1,(ackL a b t l).2.2⟩
end Go.Ab
namespace Go.Proofs.Ytebjpgoadapabaa
open Go Go.Ab
noncomputable section
variable (fr:Fr)(st:St)(k:Kt)
def fi12:FI:={body:=codeOf Try.f12,ntmps:=103,results:=[.tmp 4,.tmp 5],pers:=[0,1,4,5,6,7,8,9,10,11,12,67,68],locals:=[],pure:=false,marks:=[49]}
theorem H12:fi12.marks=[49]∧fi12.locals=[]∧fi12.results=[.tmp 4,.tmp 5]:=⟨rfl,rfl,rfl⟩
theorem fi12_eq:gS.fn 12=some fi12:=by kernel_rfl
theorem st12 (a0 a1:V):startFr fi12 [a0,a1]={ps:=[(0,.val a0),(1,.val a1),(4,.any),(5,.any),(6,.any),(7,.any),(8,.any),(9,.any),(10,.any),(11,.any),(12,.any),(67,.any),(68,.any)],ts:=[],lc:=[]}:=rfl
def b12:Code:=mini (codeOf Try.f12)
def c12_10:Code:=.seq (codeN b12 151) .ret
theorem e12_10:evK gS fi12 c12_10 fr st k=opsR gS fi12 [mv 26 10 23,
 qN 4 28,
 asn 5 26 23] fr st (.seq .ret k):=evK_rs 4 rfl (by kernel_rfl)
def c12_9:Code:=.cond (.tmp 25) c12_10 .skip
theorem e12_9:evK gS fi12 c12_9 fr st k=condK gS fi12 (fr.op (.tmp 25)).bool? c12_10 .skip fr st k:=rfl
def c12_7:Code:=.seq (codeN b12 39) c12_9
theorem e12_7:evK gS fi12 c12_7 fr st k=opsR gS fi12 [mv 16 10 23,
 qB 17 .neq 23 16 0 23 4,
 mv 18 17 4,
 ql 19 4 9 4 2 true,
 qm 20 19 4 2 true,
 ql 21 3 6 3 4 true,
 qc 22 .gtr 3 21 0 3 4 4 true,
 mk (some 23) (.pick (.tmp 20) (.tmp 22) (.const (.bool false))) 4 (some (2,true)),
 mk (some 24) (.unOp .not 4 (.tmp 23)) 4 (some (2,true)),
 qP 25 18 24 false 4] fr st (.seq c12_9 k):=evK_rs 3 rfl (by kernel_rfl)
def r12_16:Array Oper:=regOps (codeN (codeOf Try.f12) 79)
def c12_16:Code:=.region 5 r12_16 true
def q12_16:List (Oper × Fl):=[(ld 27 3 7 3,qz0),
 (mv 28 0 22,qz3),
 (op1 29 (.nilCheck (.tmp 28)) 0,qz3),
 (qF 30 55 29 4 0,qz3),
 (ld 31 3 30 3,qz3),
 (bop 32 .gtr 3 27 31 3 4,qz5)]
theorem e12_16:evK gS fi12 c12_16 fr st k=drwR gS fi12 r12_16 q12_16 fr st k:=evK_dr 5 rfl (by kernel_rfl) (by kernel_rfl)
def c12_18:Code:=.seq (codeN b12 303) .ret
theorem e12_18:evK gS fi12 c12_18 fr st k=opsR gS fi12 [qN 4 28,
 qI 5 1 23] fr st (.seq .ret k):=evK_rs 6 rfl (by kernel_rfl)
def c12_17:Code:=.cond (.tmp 32) c12_18 .skip
theorem e12_17:evK gS fi12 c12_17 fr st k=condK gS fi12 (fr.op (.tmp 32)).bool? c12_18 .skip fr st k:=rfl
def c12_15:Code:=.seq c12_16 c12_17
theorem e12_15:evK gS fi12 c12_15 fr st k=evK gS fi12 c12_16 fr st (.seq c12_17 k):=rfl
def r12_24:Array Oper:=regOps (codeN (codeOf Try.f12) 159)
def c12_24:Code:=.region 7 r12_24 true
def q12_24:List (Oper × Fl):=[(ld 33 3 7 3,qz0),
 (mv 34 0 22,qz0),
 (op1 35 (.nilCheck (.tmp 34)) 0,qz3),
 (qF 36 55 35 3 0,qz3),
 (ld 37 3 36 3,qz3),
 (bop 38 .sub 3 33 37 3 3,qz5),
 (qB 39 .add 3 38 1 3 3,qz3),
 (asn 11 39 3,qz5)]
theorem e12_24:evK gS fi12 c12_24 fr st k=drwR gS fi12 r12_24 q12_24 fr st k:=evK_dr 7 rfl (by kernel_rfl) (by kernel_rfl)
def c12_48:Code:=codeN b12 1679071
theorem e12_48:evK gS fi12 c12_48 fr st k=opsR gS fi12 [mv 71 0 22,
 op1 72 (.nilCheck (.tmp 71)) 0,
 qF 73 55 72 2 0,
 ld 74 53 73 53,
 mv 75 12 3,
 ixa 76 53 74 75 0,
 qF 77 57 76 2 0,
 mk none (.store 4 (.tmp 77) (.const (.bool false))) 0 none] fr st k:=evK_r 15 (by kernel_rfl)
def c12_46:Code:=.seq (codeN b12 1154783) c12_48
theorem e12_46:evK gS fi12 c12_46 fr st k=opsR gS fi12 [mv 70 68 3,
 asn 12 70 3] fr st (.seq c12_48 k):=evK_rs 14 rfl (by kernel_rfl)
def c12_49:Code:=codeN b12 499423
theorem e12_49:evK gS fi12 c12_49 fr st k=opsR gS fi12 [qB 78 .add 3 68 1 3 3,
 mv 68 78 3] fr st k:=evK_r 16 (by kernel_rfl)
def c12_44:Code:=.seq (.block 1 c12_46) c12_49
theorem e12_44:evK gS fi12 c12_44 fr st k=evK gS fi12 c12_46 fr st (.blk 1 (.seq c12_49 k)):=rfl
def c12_40:Code:=.seq (.cond (.tmp 69) .skip (.exit 0)) c12_44
theorem e12_40:evK gS fi12 c12_40 fr st k=condK gS fi12 (fr.op (.tmp 69)).bool? .skip (.exit 0) fr st (.seq c12_44 k):=rfl
def c12_38:Code:=.seq (codeN b12 73439) c12_40
theorem e12_38:evK gS fi12 c12_38 fr st k=opsR gS fi12 [bop 69 .lss 3 68 67 3 0] fr st (.seq c12_40 k):=evK_rs 13 rfl (by kernel_rfl)
def c12_37:Code:=.loop c12_38
def c12_36:Code:=.block 0 c12_37
theorem e12_36:evK gS fi12 c12_36 fr st k=evK gS fi12 c12_37 fr st (.blk 0 k):=rfl
def c12_34:Code:=.seq (codeN b12 11999) c12_36
theorem e12_34:evK gS fi12 c12_34 fr st k=opsR gS fi12 [mv 63 0 22,
 op1 64 (.nilCheck (.tmp 63)) 0,
 qF 65 55 64 2 0,
 ld 66 53 65 53,
 len1 67 66 53 3,
 op1 68 (.move (.const (.int .i64 0))) 3] fr st (.seq c12_36 k):=evK_rs 12 rfl (by kernel_rfl)
def c12_32:Code:=.seq (codeN b12 5855) c12_34
theorem e12_32:evK gS fi12 c12_32 fr st k=opsR gS fi12 [mv 60 0 22,
 op1 61 (.nilCheck (.tmp 60)) 0,
 qF 62 55 61 7 0,
 mk none (.store 3 (.tmp 62) (.const (.int .i64 0))) 0 none] fr st (.seq c12_34 k):=evK_rs 11 rfl (by kernel_rfl)
def c12_30:Code:=.seq (codeN b12 2783) c12_32
theorem e12_30:evK gS fi12 c12_30 fr st k=opsR gS fi12 [mv 52 0 22,
 op1 53 (.nilCheck (.tmp 52)) 0,
 qF 54 55 53 3 0,
 ld 55 3 54 3,
 mv 56 11 3,
 bop 57 .add 3 55 56 3 3,
 op1 58 (.nilCheck (.tmp 52)) 0,
 qF 59 55 58 3 0,
 sto 3 59 57] fr st (.seq c12_32 k):=evK_rs 10 rfl (by kernel_rfl)
def c12_28:Code:=.seq (codeN b12 1247) c12_30
theorem e12_28:evK gS fi12 c12_28 fr st k=opsR gS fi12 [mv 42 0 22,
 mv 43 0 22,
 op1 44 (.nilCheck (.tmp 43)) 0,
 qF 45 55 44 2 0,
 ld 46 53 45 53,
 mv 47 11 3,
 op1 48 (.slice 53 (.tmp 46) (some (.tmp 47)) none none) 53,
 op1 49 (.call {callee:=(.builtin .append),args:=#[(.const (.slice none 0 0)),(.tmp 48)],argTypes:=#[53,53]}) 53,
 op1 50 (.nilCheck (.tmp 42)) 0,
 qF 51 55 50 2 0,
 sto 53 51 49] fr st (.seq c12_30 k):=evK_rs 9 rfl (by kernel_rfl)
def c12_27:Code:=.cond (.tmp 41) c12_28 .skip
theorem e12_27:evK gS fi12 c12_27 fr st k=condK gS fi12 (fr.op (.tmp 41)).bool? c12_28 .skip fr st k:=rfl
def c12_25:Code:=.seq (codeN b12 351) c12_27
theorem e12_25:evK gS fi12 c12_25 fr st k=opsR gS fi12 [mv 40 11 3,
 qB 41 .gtr 3 40 0 3 4] fr st (.seq c12_27 k):=evK_rs 8 rfl (by kernel_rfl)
def c12_23:Code:=.seq c12_24 c12_25
theorem e12_23:evK gS fi12 c12_23 fr st k=evK gS fi12 c12_24 fr st (.seq c12_25 k):=rfl
def c12_55:Code:=.seq (codeN b12 1215) .ret
theorem e12_55:evK gS fi12 c12_55 fr st k=opsR gS fi12 [qN 4 28,
 qI 5 0 23] fr st (.seq .ret k):=evK_rs 18 rfl (by kernel_rfl)
def c12_54:Code:=.cond (.tmp 80) c12_55 .skip
theorem e12_54:evK gS fi12 c12_54 fr st k=condK gS fi12 (fr.op (.tmp 80)).bool? c12_55 .skip fr st k:=rfl
def c12_52:Code:=.seq (codeN b12 319) c12_54
theorem e12_52:evK gS fi12 c12_52 fr st k=opsR gS fi12 [ld 79 3 6 3,
 qB 80 .eql 3 79 0 3 4] fr st (.seq c12_54 k):=evK_rs 17 rfl (by kernel_rfl)
def r12_63:Array Oper:=regOps (codeN (codeOf Try.f12) 1279)
def c12_63:Code:=.region 20 r12_63 true
def q12_63:List (Oper × Fl):=[(ld 84 3 6 3,qz0),
 (mv 85 0 22,qz0),
 (op1 86 (.nilCheck (.tmp 85)) 0,qz3),
 (qF 87 55 86 5 0,qz3),
 (ld 88 3 87 3,qz3),
 (qB 89 .add 3 88 1 3 3,qz3),
 (bop 90 .neq 3 84 89 3 4,qz3)]
theorem e12_63:evK gS fi12 c12_63 fr st k=drwR gS fi12 r12_63 q12_63 fr st k:=evK_dr 20 rfl (by kernel_rfl) (by kernel_rfl)
def c12_65:Code:=.seq (codeN b12 4863) .ret
theorem e12_65:evK gS fi12 c12_65 fr st k=opsR gS fi12 [qN 4 28,
 qI 5 0 23] fr st (.seq .ret k):=evK_rs 21 rfl (by kernel_rfl)
def c12_64:Code:=.cond (.tmp 90) c12_65 .skip
theorem e12_64:evK gS fi12 c12_64 fr st k=condK gS fi12 (fr.op (.tmp 90)).bool? c12_65 .skip fr st k:=rfl
def c12_62:Code:=.seq c12_63 c12_64
theorem e12_62:evK gS fi12 c12_62 fr st k=evK gS fi12 c12_63 fr st (.seq c12_64 k):=rfl
def c12_71:Code:=.seq (codeN b12 3071) .ret
theorem e12_71:evK gS fi12 c12_71 fr st k=opsR gS fi12 [mv 95 1 27,
 mv 96 1 27,
 len1 97 96 27 3,
 ld 98 3 8 3,
 bop 99 .sub 3 97 98 3 3,
 op1 100 (.slice 27 (.tmp 95) (some (.tmp 99)) none none) 27,
 op1 101 (.call {callee:=(.builtin .append),args:=#[(.const (.slice none 0 0)),(.tmp 100)],argTypes:=#[27,27]}) 27,
 qS 102 28 101 28,
 asn 4 102 28,
 qI 5 0 23] fr st (.seq .ret k):=evK_rs 23 rfl (by kernel_rfl)
def c12_69:Code:=.seq (codeN b12 1535) c12_71
theorem e12_69:evK gS fi12 c12_69 fr st k=opsR gS fi12 [mv 91 0 22,
 ld 92 3 6 3,
 op1 93 (.nilCheck (.tmp 91)) 0,
 qF 94 55 93 5 0,
 sto 3 94 92] fr st (.seq c12_71 k):=evK_rs 22 rfl (by kernel_rfl)
def c12_61:Code:=.seq c12_62 c12_69
theorem e12_61:evK gS fi12 c12_61 fr st k=evK gS fi12 c12_62 fr st (.seq c12_69 k):=rfl
def c12_59:Code:=.seq (codeN b12 383) c12_61
theorem e12_59:evK gS fi12 c12_59 fr st k=opsR gS fi12 [mv 81 0 22,
 op1 82 (.nilCheck (.tmp 81)) 0,
 qF 83 55 82 6 0,
 mk none (.store 4 (.tmp 83) (.const (.bool true))) 0 none] fr st (.seq c12_61 k):=evK_rs 19 rfl (by kernel_rfl)
def c12_51:Code:=.seq c12_52 c12_59
theorem e12_51:evK gS fi12 c12_51 fr st k=evK gS fi12 c12_52 fr st (.seq c12_59 k):=rfl
def c12_22:Code:=.seq c12_23 c12_51
theorem e12_22:evK gS fi12 c12_22 fr st k=evK gS fi12 c12_23 fr st (.seq c12_51 k):=rfl
def c12_14:Code:=.seq c12_15 c12_22
theorem e12_14:evK gS fi12 c12_14 fr st k=evK gS fi12 c12_15 fr st (.seq c12_22 k):=rfl
def c12_6:Code:=.seq c12_7 c12_14
theorem e12_6:evK gS fi12 c12_6 fr st k=evK gS fi12 c12_7 fr st (.seq c12_14 k):=rfl
def c12_4:Code:=.seq (codeN b12 11) c12_6
theorem e12_4:evK gS fi12 c12_4 fr st k=opsR gS fi12 [mv 13 1 27,
 op1 14 (.makeFunc (.func 22) #[] #[(.tmp 6),(.tmp 7),(.tmp 8),(.tmp 9)]) 61,
 cal 15 21 [(.tmp 13),(.tmp 14)] [27,61] 23,
 asn 10 15 23] fr st (.seq c12_6 k):=evK_rs 2 rfl (by kernel_rfl)
def c12_2:Code:=.seq (codeN b12 5) c12_4
theorem e12_2:evK gS fi12 c12_2 fr st k=opsR gS fi12 [op1 6 (.alloc 3) 0,
 op1 7 (.alloc 3) 0,
 op1 8 (.alloc 3) 0,
 op1 9 (.alloc 4) 0,
 mk none (.store 3 (.tmp 6) (.const (.int .i64 0))) 0 none,
 mk none (.store 3 (.tmp 7) (.const (.int .i64 0))) 0 none,
 mk none (.store 3 (.tmp 8) (.const (.int .i64 0))) 0 none,
 mk none (.store 4 (.tmp 9) (.const (.bool false))) 0 none] fr st (.seq c12_4 k):=evK_rs 1 rfl (by kernel_rfl)
def c12_0:Code:=.seq (codeN b12 2) c12_2
theorem e12_0:evK gS fi12 c12_0 fr st k=opsR gS fi12 [qN 4 28,
 qI 5 0 23] fr st (.seq c12_2 k):=evK_rs 0 rfl (by kernel_rfl)
theorem m12:mini fi12.body=c12_0:=by kernel_rfl
theorem n12_37 (fr:Fr)(st:St)(k:Kt):nextK gS fi12 (.loop c12_38 k) .normal fr st=evK gS fi12 c12_37 fr st k:=rfl
theorem LT12 (e r w z b g:Nat)(o:Bool)(t:Nat)(l:List Row)(hb:b≤1000000)(hg:g≤1000000)(hl7:l.length≤100000)(hfr:∀ x∈l,x.fr.length≤1000000)(R:Out × St)(σ:List V→List V→St)(hσ:Hp σ e r (l≠[]))(s1:Nat)(n0 n1 n2 n3:Nat)(B:List UInt8)
  (H:∀ (e10 e11 e12:E) (T:List (Nat × E)) (X:List (Nat × List V)),e10.Tame→e11.Tame→e12.Tame→evK gS fi12 c12_51 {ps:=[(0,.val (.ptr e 0)),(1,.val (.slice (byteVs B))),(4,.own 0 []),(5,.val (.int .i64 0)),(6,.val (.ptr n0 0)),(7,.val (.ptr n1 0)),(8,.val (.ptr n2 0)),(9,.val (.ptr n3 0)),(10,e10),(11,e11),(12,e12),(67,.val (.int .i64 l.length)),(68,.val (.int .i64 l.length))],ts:=T,lc:=X} (σ (endC w z (rv r l) b s1 g o t) (rowsV (prt F3 l.length l))) .nil=some R) :
  ∀ (m q:Nat) (e10 e11 e12:E) (T:List (Nat × E)) (X:List (Nat × List V)) (h10:e10.Tame) (h11:e11.Tame) (h12:e12.Tame),q≤l.length→l.length - q=m →
  evK gS fi12 c12_37 {ps:=[(0,.val (.ptr e 0)),(1,.val (.slice (byteVs B))),(4,.own 0 []),(5,.val (.int .i64 0)),(6,.val (.ptr n0 0)),(7,.val (.ptr n1 0)),(8,.val (.ptr n2 0)),(9,.val (.ptr n3 0)),(10,e10),(11,e11),(12,e12),(67,.val (.int .i64 l.length)),(68,.val (.int .i64 (q:Nat)))],ts:=T,lc:=X} (σ (endC w z (rv r l) b s1 g o t) (rowsV (prt F3 q l))) (.blk 0 (.seq c12_51 .nil))=some R:=by
 intro m
 induction m with
 | zero =>
  intro q e10 e11 e12 T X h10 h11 h12 hq hm2
  obtain rfl:q=l.length:=by omega
  refine evK_loop c12_38 _ _ _ _ rfl ?_
  simp (config:={implicitDefEqProofs:=false}) [-zia,-St.obj,-St.set,h10,h11,h12,-zil,-zit,-znl,-znt,ty3,ty4,ty22,ty23,ty27,ty28,ty53,ty55,ty57,ty61,H12,e12_10,e12_9,e12_7,e12_16,q12_16,e12_18,e12_17,e12_15,e12_24,q12_24,e12_48,e12_46,e12_49,e12_44,e12_40,e12_38,e12_36,e12_34,e12_32,e12_30,e12_28,e12_27,e12_25,e12_23,e12_55,e12_54,e12_52,e12_63,q12_63,e12_65,e12_64,e12_62,e12_71,e12_69,e12_61,e12_59,e12_22,e12_14,e12_6,e12_4,e12_2,e12_0,n12_37]
  exact H _ _ _ _ _ h10 h11 h12
 | succ m ih =>
  intro q e10 e11 e12 T X h10 h11 h12 hq hm2
  obtain ⟨x,hx⟩  := qgx (l:=l) (i:=q) (by omega)
  have hlt:(q:Int)<(l.length:Int):=by omega
  obtain ⟨hlt2,hxe⟩:=List.getElem?_eq_some_iff.1 hx
  have hw  := qws q (by omega)
  have hne:l≠[]:=by intro h;subst h;simp at hlt2
  have hrv:=rv_pos (r:=r) hne
  have hro:=hσ.orr hne
  have hso:=hσ.sr hne
  have hln:q*3+3≤l.length*3:=by omega
  have hxf:=hfr x (zmg hx)
  have hwb:IntKind.wrap .i64 ((b:Int)+(q:Int))=((b+q:Nat):Int):=by rw [wrap64 (by omega) (by omega)];omega
  have hx2:=prt_get F3 hx
  have htk:=rowsV_take hx2
  have hlen:=rowsV_len (prt F3 q l)
  rw [prt_len] at hlen
  have hsl:q*3+2+1≤l.length*3:=by omega
  have hps:=prt_set F3 hx
  have hoe:=hσ.oe
  have hse:=hσ.se
  unfold endC at H ih ⊢
  rw [hrv] at H ih ⊢
  have IH:=fun e10 e11 e12 T X h10 h11 h12=>ih (q+1) e10 e11 e12 T X h10 h11 h12 (by omega) (by omega)
  obtain ⟨f,xo,xa⟩:=x
  have hsp:=rowsV_ag' hx2 false
  rw [show F3 q ⟨f,xo,xa⟩=⟨f,xo,false⟩ from rfl] at hps
  simp only at hsp
  simp only [Row.cells] at htk
  refine evK_loop c12_38 _ _ _ _ rfl ?_
  rw [← hps] at IH
  generalize rowsV (prt F3 q l)=D at *
  simp (config:={implicitDefEqProofs:=false}) [-zia,-zaa,-St.obj,-St.set,h10,h11,h12,hoe,hse,hro,hso,htk,hlen,hln,hlt,hlt2,hw,hwb,hsp,hsl,-zil,-zit,-znl,-znt,ty3,ty4,ty22,ty23,ty27,ty28,ty53,ty55,ty57,ty61,H12,e12_10,e12_9,e12_7,e12_16,q12_16,e12_18,e12_17,e12_15,e12_24,q12_24,e12_48,e12_46,e12_49,e12_44,e12_40,e12_38,e12_36,e12_34,e12_32,e12_30,e12_28,e12_27,e12_25,e12_23,e12_55,e12_54,e12_52,e12_63,q12_63,e12_65,e12_64,e12_62,e12_71,e12_69,e12_61,e12_59,e12_51,e12_22,e12_14,e12_6,e12_4,e12_2,e12_0,n12_37]
  refine IH _ _ _ _ _ ?_ ?_ ?_
  all_goals simp [h10,h11,h12,tame_lp,tame_val]
def R51 (σ:List V→List V→St)(D:List V)(w z:Nat)(v:V)(b s1 g:Nat)(o:Bool)(t nn ll:Nat)(B:List UInt8):Out × St :=
 if nn=0 then (.ret (.tuple [.slice [],.int .i64 0]) none,σ (endC w z v b s1 g o t) D)
 else if nn=g+1 then (.ret (.tuple [.slice [.slice (byteVs (B.drop (B.length - ll)))],.int .i64 0]) none,σ (endC w z v b s1 nn true t) D)
 else (.ret (.tuple [.slice [],.int .i64 0]) none,σ (endC w z v b s1 g true t) D)
theorem T51 (e r w z b g:Nat)(o:Bool)(t:Nat)(v:V)(D:List V)(p:Prop)(hg:g≤1000000)(σ:List V→List V→St)(hσ:Hp σ e r p)(s1 nn ll:Nat)(n0 n1 n2 n3:Nat)(B:List UInt8)(hB:B.length≤1000000)(hll:ll≤B.length)
  (h0:∀ C D,St.obj (σ C D) n0=some [.int .i64 (nn:Int)]) (h2:∀ C D,St.obj (σ C D) n2=some [.int .i64 (ll:Int)]) (e10 e11 e12 e67 e68:E) (T:List (Nat × E)) (X:List (Nat × List V)) (h10:e10.Tame) (h11:e11.Tame) (h12:e12.Tame) (h67:e67.Tame) (h68:e68.Tame) :
  evK gS fi12 c12_51 {ps:=[(0,.val (.ptr e 0)),(1,.val (.slice (byteVs B))),(4,.own 0 []),(5,.val (.int .i64 0)),(6,.val (.ptr n0 0)),(7,.val (.ptr n1 0)),(8,.val (.ptr n2 0)),(9,.val (.ptr n3 0)),(10,e10),(11,e11),(12,e12),(67,e67),(68,e68)],ts:=T,lc:=X} (σ (endC w z v b s1 g o t) D) .nil=some (R51 σ D w z v b s1 g o t nn ll B):=by
 have hoe:=hσ.oe
 have hse:=hσ.se
 unfold R51 endC
 by_cases hn0:nn=0
 ·subst hn0
  have h0':∀ C D,St.obj (σ C D) n0=some [.int .i64 0]:=h0
  simp (config:={implicitDefEqProofs:=false}) [-zia,-St.obj,-St.set,hoe,hse,h0',h10,h11,h12,h67,h68,-zil,-zit,-znl,-znt,ty3,ty4,ty22,ty23,ty27,ty28,ty53,ty55,ty57,ty61,H12,e12_10,e12_9,e12_7,e12_16,q12_16,e12_18,e12_17,e12_15,e12_24,q12_24,e12_48,e12_46,e12_49,e12_44,e12_40,e12_38,e12_36,e12_34,e12_32,e12_30,e12_28,e12_27,e12_25,e12_23,e12_55,e12_54,e12_52,e12_63,q12_63,e12_65,e12_64,e12_62,e12_71,e12_69,e12_61,e12_59,e12_51,e12_22,e12_14,e12_6,e12_4,e12_2,e12_0,n12_37]
 ·have hni:¬ (nn:Int)=0:=by omega
  have hw  := qws g (by omega)
  have hw2:IntKind.wrap .i64 ((B.length:Int) - (ll:Int))=((B.length - ll:Nat):Int):=by rw [wrap64 (by omega) (by omega)];omega
  by_cases hng:nn=g+1
  ·have hs:=sizes_bytes B
   have hs2:=sizes_bytes (B.drop (B.length - ll))
   have hd:=drop_bytes B (B.length - ll)
   have hle:B.length - ll≤B.length:=by omega
   have b1:(B.drop (B.length - ll)).length≤140737488355328:=by rw [List.length_drop];omega
   have hbl:(B.drop (B.length - ll)).length=ll:=by rw [List.length_drop];omega
   have htk:List.take B.length (byteVs B)=byteVs B:=by rw [← byteVs_length B,List.take_length]
   have b2:ll≤140737488355328:=by omega
   rw [← hng] at hw
   rw [if_neg hn0,if_pos hng]
   generalize B.drop (B.length - ll)=Q at *
   generalize B.length - ll=dd at *
   simp (config:={implicitDefEqProofs:=false}) [-zia,-St.obj,-St.set,-List.take_length,hoe,hse,h0,h2,hn0,hni,hw,hw2,hs,hs2,hd,hle,b1,b2,hbl,htk,h10,h11,h12,h67,h68,-zil,-zit,-znl,-znt,ty3,ty4,ty22,ty23,ty27,ty28,ty53,ty55,ty57,ty61,H12,e12_10,e12_9,e12_7,e12_16,q12_16,e12_18,e12_17,e12_15,e12_24,q12_24,e12_48,e12_46,e12_49,e12_44,e12_40,e12_38,e12_36,e12_34,e12_32,e12_30,e12_28,e12_27,e12_25,e12_23,e12_55,e12_54,e12_52,e12_63,q12_63,e12_65,e12_64,e12_62,e12_71,e12_69,e12_61,e12_59,e12_51,e12_22,e12_14,e12_6,e12_4,e12_2,e12_0,n12_37]
  ·have hgi:¬ (nn:Int)=((g+1:Nat):Int):=by omega
   rw [if_neg hn0,if_neg hng]
   simp (config:={implicitDefEqProofs:=false}) [-zia,-St.obj,-St.set,hoe,hse,h0,h2,hn0,hni,hw,hng,hgi,h10,h11,h12,h67,h68,-zil,-zit,-znl,-znt,ty3,ty4,ty22,ty23,ty27,ty28,ty53,ty55,ty57,ty61,H12,e12_10,e12_9,e12_7,e12_16,q12_16,e12_18,e12_17,e12_15,e12_24,q12_24,e12_48,e12_46,e12_49,e12_44,e12_40,e12_38,e12_36,e12_34,e12_32,e12_30,e12_28,e12_27,e12_25,e12_23,e12_55,e12_54,e12_52,e12_63,q12_63,e12_65,e12_64,e12_62,e12_71,e12_69,e12_61,e12_59,e12_51,e12_22,e12_14,e12_6,e12_4,e12_2,e12_0,n12_37]
theorem T22 (e r w z b g:Nat)(o:Bool)(t:Nat)(l:List Row)(hb:b≤800000)(hg:g≤800000)(hl7:l.length≤100000)(hfr:∀ x∈l,x.fr.length≤1000000)(σ:List V→List V→St)(hσ:Hp σ e r (l≠[]))(s1 a nn ll:Nat)(n0 n1 n2 n3:Nat)(B:List UInt8)(hB:B.length≤1000000)(hll:ll≤B.length)(ha:a≤s1)(hs1:s1+1≤b+l.length)
  (h0:∀ C D,St.obj (σ C D) n0=some [.int .i64 (nn:Int)]) (h1:∀ C D,St.obj (σ C D) n1=some [.int .i64 (a:Int)]) (h2:∀ C D,St.obj (σ C D) n2=some [.int .i64 (ll:Int)]) :
  ∃ σ' r',Hp σ' e r' ((ackL a b t l).2.2≠[])∧Bys σ σ' e r r' (l≠[])∧∀ (e10 e11 e12 e67 e68:E) (T:List (Nat × E)) (X:List (Nat × List V)),e10.Tame→e11.Tame→e12.Tame→e67.Tame→e68.Tame →
  evK gS fi12 c12_22 {ps:=[(0,.val (.ptr e 0)),(1,.val (.slice (byteVs B))),(4,.own 0 []),(5,.val (.int .i64 0)),(6,.val (.ptr n0 0)),(7,.val (.ptr n1 0)),(8,.val (.ptr n2 0)),(9,.val (.ptr n3 0)),(10,e10),(11,e11),(12,e12),(67,e67),(68,e68)],ts:=T,lc:=X} (σ (endC w z (rv r l) b s1 g o t) (rowsV l)) .nil=some (R51 σ' (rowsV (ackL a b t l).2.2) w z (rv r' (ackL a b t l).2.2) (ackL a b t l).1 s1 g o (ackL a b t l).2.1 nn ll B):=by
 have hoe:=hσ.oe
 have hse:=hσ.se
 have hw1:IntKind.wrap .i64 ((a:Int) - (b:Int))=(a:Int) - (b:Int):=wrap64 (by omega) (by omega)
 have hw2:IntKind.wrap .i64 ((a:Int) - (b:Int)+1)=(a:Int) - (b:Int)+1:=wrap64 (by omega) (by omega)
 by_cases hba:b≤a
 ·obtain ⟨k,hk⟩:∃ k,k=a+1 - b:=⟨_,rfl⟩
  have hki:(a:Int) - (b:Int)+1=(k:Int):=by omega
  have hk0:0<k:=by omega
  have hkl:k≤l.length:=by omega
  have hki0:(0:Int)<(k:Int):=by omega
  have hki1:(0:Int)≤(k:Int):=by omega
  have hki2:(k:Int)≤(l.length:Int):=by omega
  have hwf:IntKind.wrap .i64 ((b:Int)+(k:Int))=((a+1:Nat):Int):=by rw [wrap64 (by omega) (by omega)];omega
  have hne:l≠[]:=by intro h;subst h;simp at hkl;omega
  have hor:=hσ.orr hne
  have hv:=rv_pos (r:=r) hne
  have hack:ackL a b t l=(a+1,0,(l.drop k).mapIdx F3):=by unfold ackL;rw [if_pos hba,hk]
  rw [hack]
  simp only
  have q1:=rowsV_one l
  have q2:=rowsV_strip l
  have q3:=rowsV_len l
  rw [hki] at hw2
  rcases Nat.lt_or_ge k l.length with hlt | hge
  ·-- some are left
   have hN:=fun C=>hσ.len C (rowsV l) [] []
   have hσ2:Hp (fun C D=>apps (σ C (rowsV l)) ([] ++ [D])) e (σ [] []).objs.length (l.drop k≠[]):=hσ.fresh (rowsV l) [] _ (by intro h;have:=congrArg List.length h;simp at this;omega) (fun C=>by rw [List.length_nil,Nat.add_zero];exact hN C)
   have hσ3:Hp (fun C D=>apps (σ C (rowsV l)) ([] ++ [D])) e (σ [] []).objs.length ((l.drop k).mapIdx F3≠[]):=hσ2.weaken (by rw [Ne,Ne,mapIdx_ne])
   refine ⟨_,_,hσ3,Bys.fresh hσ (rowsV l),?_⟩
   intro e10 e11 e12 e67 e68 T X h10 h11 h12 h67 h68
   have hdl:(l.drop k).length=l.length - k:=List.length_drop
   have H51:∀ (e10 e11 e12:E) (T:List (Nat × E)) (X:List (Nat × List V)),e10.Tame→e11.Tame→e12.Tame→evK gS fi12 c12_51 {ps:=[(0,.val (.ptr e 0)),(1,.val (.slice (byteVs B))),(4,.own 0 []),(5,.val (.int .i64 0)),(6,.val (.ptr n0 0)),(7,.val (.ptr n1 0)),(8,.val (.ptr n2 0)),(9,.val (.ptr n3 0)),(10,e10),(11,e11),(12,e12),(67,.val (.int .i64 (l.drop k).length)),(68,.val (.int .i64 (l.drop k).length))],ts:=T,lc:=X} ((fun C D=>apps (σ C (rowsV l)) ([] ++ [D])) (endC w z (rv (σ [] []).objs.length (l.drop k)) (a+1) s1 g o 0) (rowsV (prt F3 (l.drop k).length (l.drop k)))) .nil=some (R51 (fun C D=>apps (σ C (rowsV l)) ([] ++ [D])) (rowsV ((l.drop k).mapIdx F3)) w z (rv (σ [] []).objs.length ((l.drop k).mapIdx F3)) (a+1) s1 g o 0 nn ll B):=by
    intro e10 e11 e12 T X h10 h11 h12
    rw [prt_all,rv_map]
    exact T51 e _ w z (a+1) g o 0 _ _ _ (by omega) (fun C D=>apps (σ C (rowsV l)) ([] ++ [D])) hσ2 s1 nn ll n0 n1 n2 n3 B hB hll (fun C D=>apps_obj (h0 _ _) _) (fun C D=>apps_obj (h2 _ _) _) e10 e11 e12 (.val (.int .i64 ((l.drop k).length:Int))) (.val (.int .i64 ((l.drop k).length:Nat))) T X h10 h11 h12 (tame_val _) (tame_val _)
   have LL:=fun (e10 e11 e12:E) (T:List (Nat × E)) (X:List (Nat × List V)) h10 h11 h12=>LT12 e (σ [] []).objs.length w z (a+1) g o 0 (l.drop k) (by omega) (by omega) (by omega) (fun x hx=>hfr x (List.mem_of_mem_drop hx)) _ (fun C D=>apps (σ C (rowsV l)) ([] ++ [D])) hσ2 s1 n0 n1 n2 n3 B H51 (l.drop k).length 0 e10 e11 e12 T X h10 h11 h12 (Nat.zero_le _) rfl
   rw [prt_zero,show ((0:Nat):Int)=0 from rfl,rv_pos (show l.drop k≠[] from by intro h;rw [h] at hdl;simp at hdl;omega),hdl] at LL
   simp only [List.nil_append] at LL ⊢
   have hyt:=rowsV_tail l k hkl
   have hys:=enc_sizes (l.drop k)
   have hyc:=enc_cells (l.drop k)
   have hyl:((l.drop k).map Row.enc).length=l.length - k:=by rw [List.length_map];exact hdl
   have hye:(l.drop k).map Row.enc≠[]:=by intro h;rw [h] at hyl;simp at hyl;omega
   have hnr:=fun fr kk len cs C=>newRef_apps fr (σ C (rowsV l)) kk len cs
   have hap:=fun C cs=>apps_obj (hσ.oe C (rowsV l)) [cs]
   have hset:=fun C cs C'=>apps_set (hσ.oe C (rowsV l)) (hσ.se C (rowsV l) C') [cs]
   have hkn:¬ k=l.length:=by omega
   have hk2:¬ l.length - k=0:=by omega
   have hk4:¬ l.length≤k:=by omega
   have hk3:k*3+(l.length - k)*3≤l.length*3:=by omega
   have b1:(l.length - k)*32≤140737488355328:=by omega
   have b2:l.length - k≤140737488355328:=by omega
   rw [hv]
   unfold endC at LL ⊢
   generalize rowsV l=D at *
   generalize (l.drop k).map Row.enc=Y at *
   generalize rowsV ((l.drop k).mapIdx F3)=Z3 at *
   generalize rowsV (l.drop k)=Z2 at *
   generalize rv (σ [] []).objs.length ((l.drop k).mapIdx F3)=Z4 at *
   simp (config:={implicitDefEqProofs:=false}) [-zia,-St.obj,-St.set,-List.map_take,-List.map_drop,h10,h11,h12,h67,h68,hoe,hse,hor,h1,hw1,hw2,hki,hki0,hki1,hki2,hk0,hkl,hwf,hkn,hk2,hk3,hk4,q1,q2,q3,hyt,hys,hyc,hyl,hye,hnr,hN,hap,hset,b1,b2,markStep,markAppend,elemsAt,-zil,-zit,-znl,-znt,ty3,ty4,ty22,ty23,ty27,ty28,ty53,ty55,ty57,ty61,H12,e12_10,e12_9,e12_7,e12_16,q12_16,e12_18,e12_17,e12_15,e12_24,q12_24,e12_48,e12_46,e12_49,e12_44,e12_40,e12_38,e12_36,e12_34,e12_32,e12_30,e12_28,e12_27,e12_25,e12_23,e12_55,e12_54,e12_52,e12_63,q12_63,e12_65,e12_64,e12_62,e12_71,e12_69,e12_61,e12_59,e12_51,e12_22,e12_14,e12_6,e12_4,e12_2,e12_0,n12_37]
   refine LL _ _ _ _ _ ?_ ?_ ?_
   all_goals simp [h10,h11,h12,h67,h68,tame_val]
  ·-- none is left
   have hkl2:k=l.length:=by omega
   have hd:l.drop k=[]:=List.drop_of_length_le (by omega)
   rw [hd]
   have hσ2:Hp (fun C _=>σ C (rowsV l)) e (σ [] []).objs.length (([]:List Row)≠[]):=hσ.const (rowsV l) _ (fun h=>h rfl)
   refine ⟨_,_,hσ2,Bys.const hσ (rowsV l),?_⟩
   intro e10 e11 e12 e67 e68 T X h10 h11 h12 h67 h68
   have H51:∀ (e10 e11 e12:E) (T:List (Nat × E)) (X:List (Nat × List V)),e10.Tame→e11.Tame→e12.Tame→evK gS fi12 c12_51 {ps:=[(0,.val (.ptr e 0)),(1,.val (.slice (byteVs B))),(4,.own 0 []),(5,.val (.int .i64 0)),(6,.val (.ptr n0 0)),(7,.val (.ptr n1 0)),(8,.val (.ptr n2 0)),(9,.val (.ptr n3 0)),(10,e10),(11,e11),(12,e12),(67,.val (.int .i64 ([]:List Row).length)),(68,.val (.int .i64 ([]:List Row).length))],ts:=T,lc:=X} ((fun C _=>σ C (rowsV l)) (endC w z (rv (σ [] []).objs.length []) (a+1) s1 g o 0) (rowsV (prt F3 ([]:List Row).length []))) .nil=some (R51 (fun C _=>σ C (rowsV l)) (rowsV (([]:List Row).mapIdx F3)) w z (rv (σ [] []).objs.length (([]:List Row).mapIdx F3)) (a+1) s1 g o 0 nn ll B):=by
    intro e10 e11 e12 T X h10 h11 h12
    rw [prt_all,rv_map]
    exact T51 e (σ [] []).objs.length w z (a+1) g o 0 _ _ _ (by omega) (fun C _=>σ C (rowsV l)) hσ2 s1 nn ll n0 n1 n2 n3 B hB hll (fun C D=>h0 _ _) (fun C D=>h2 _ _) e10 e11 e12 (.val (.int .i64 (([]:List Row).length:Int))) (.val (.int .i64 (([]:List Row).length:Nat))) T X h10 h11 h12 (tame_val _) (tame_val _)
   have LL:=fun (e10 e11 e12:E) (T:List (Nat × E)) (X:List (Nat × List V)) h10 h11 h12=>LT12 e (σ [] []).objs.length w z (a+1) g o 0 [] (by omega) (by omega) (by simp) (fun x hx=>by cases hx) _ (fun C _=>σ C (rowsV l)) hσ2 s1 n0 n1 n2 n3 B H51 0 0 e10 e11 e12 T X h10 h11 h12 (Nat.zero_le _) rfl
   rw [show ((0:Nat):Int)=0 from rfl,rv_nil,show (([]:List Row).length:Int)=0 from rfl] at LL
   rw [hv]
   unfold endC at LL ⊢
   generalize rowsV l=D at *
   subst hkl2
   simp (config:={implicitDefEqProofs:=false}) [-zia,-St.obj,-St.set,-List.map_take,-List.map_drop,h10,h11,h12,h67,h68,hoe,hse,hor,h1,hw1,hw2,hki,hki0,hki1,hki2,hk0,hkl,hwf,q1,q2,q3,markStep,markAppend,elemsAt,-zil,-zit,-znl,-znt,ty3,ty4,ty22,ty23,ty27,ty28,ty53,ty55,ty57,ty61,H12,e12_10,e12_9,e12_7,e12_16,q12_16,e12_18,e12_17,e12_15,e12_24,q12_24,e12_48,e12_46,e12_49,e12_44,e12_40,e12_38,e12_36,e12_34,e12_32,e12_30,e12_28,e12_27,e12_25,e12_23,e12_55,e12_54,e12_52,e12_63,q12_63,e12_65,e12_64,e12_62,e12_71,e12_69,e12_61,e12_59,e12_51,e12_22,e12_14,e12_6,e12_4,e12_2,e12_0,n12_37]
   refine LL _ _ _ _ _ ?_ ?_ ?_
   all_goals simp [h10,h11,h12,h67,h68,tame_val]
 ·have hack:ackL a b t l=(b,t,l):=by unfold ackL;rw [if_neg hba]
  rw [hack]
  refine ⟨σ,r,hσ,Bys.refl hσ,?_⟩
  intro e10 e11 e12 e67 e68 T X h10 h11 h12 h67 h68
  have hg0:¬ (0:Int)<(a:Int) - (b:Int)+1:=by omega
  have TT:=fun (e10 e11 e12 e67 e68:E) (T:List (Nat × E)) (X:List (Nat × List V)) h10 h11 h12 h67 h68=>T51 e r w z b g o t (rv r l) (rowsV l) _ (by omega) σ hσ s1 nn ll n0 n1 n2 n3 B hB hll h0 h2 e10 e11 e12 e67 e68 T X h10 h11 h12 h67 h68
  simp only
  unfold endC at TT ⊢
  generalize rowsV l=D at *
  generalize rv r l=vv at *
  generalize R51 σ D w z vv b s1 g o t nn ll B=RR at *
  simp (config:={implicitDefEqProofs:=false}) [-zia,-St.obj,-St.set,h10,h11,h12,h67,h68,hoe,hse,h1,hw1,hw2,hg0,-zil,-zit,-znl,-znt,ty3,ty4,ty22,ty23,ty27,ty28,ty53,ty55,ty57,ty61,H12,e12_10,e12_9,e12_7,e12_16,q12_16,e12_18,e12_17,e12_15,e12_24,q12_24,e12_48,e12_46,e12_49,e12_44,e12_40,e12_38,e12_36,e12_34,e12_32,e12_30,e12_28,e12_27,e12_25,e12_23,e12_55,e12_54,e12_52,e12_63,q12_63,e12_65,e12_64,e12_62,e12_71,e12_69,e12_61,e12_59,e12_22,e12_14,e12_6,e12_4,e12_2,e12_0,n12_37]
  refine TT _ _ _ _ _ _ _ ?_ ?_ ?_ ?_ ?_
  all_goals simp [h10,h11,h12,h67,h68,tame_val]
end
end Go.Proofs.Ytebjpgoadapabaa
namespace Go.Proofs.Ytebjpgoadapabaa
open Go Go.Ab
noncomputable section
variable (fr:Fr)(st:St)(k:Kt)
theorem T12a (S0:St)(hw0:S0.wp≤S0.objs.length)(e:Nat)(B:List UInt8)(hB:B.length≤1000000)(R:Out × St)(er:Int)(SS:St)(hRR:R21 S0 [.func 22 [] [.ptr S0.objs.length 0,.ptr (S0.objs.length+1) 0,.ptr (S0.objs.length+2) 0,.ptr (S0.objs.length+3) 0]] B [.ptr (S0.objs.length+5) 0]=(er,SS))
  (H:∀ T,evK gS fi12 c12_6 {ps:=[(0,.val (.ptr e 0)),(1,.val (.slice (byteVs B))),(4,.own 0 []),(5,.val (.int .i64 0)),(6,.val (.ptr S0.objs.length 0)),(7,.val (.ptr (S0.objs.length+1) 0)),(8,.val (.ptr (S0.objs.length+2) 0)),(9,.val (.ptr (S0.objs.length+3) 0)),(10,.val (.int .i64 er)),(11,.any),(12,.any),(67,.any),(68,.any)],ts:=T,lc:=[]} SS .nil=some R):EvF gS 12 [.ptr e 0,.slice (byteVs B)] S0=some R:=by
 refine EvF_start fi12_eq (fun x h=>by cases h <;> decide) m12 ?_
 rw [st12]
 have kr:=fun fr=>call_np (fi:=fi21) rfl fi21_eq rfl (c21 S0 hw0 B hB [.func 22 [] [.ptr S0.objs.length 0,.ptr (S0.objs.length+1) 0,.ptr (S0.objs.length+2) 0,.ptr (S0.objs.length+3) 0]] [.ptr (S0.objs.length+5) 0] rfl rfl) fr
 rw [hRR] at kr
 have q0:=apps_get S0 [[.int .i64 0],[.int .i64 0],[.int .i64 0],[.bool false]] 0
 have q1:=apps_get S0 [[.int .i64 0],[.int .i64 0],[.int .i64 0],[.bool false]] 1
 have q2:=apps_get S0 [[.int .i64 0],[.int .i64 0],[.int .i64 0],[.bool false]] 2
 have q3:=apps_get S0 [[.int .i64 0],[.int .i64 0],[.int .i64 0],[.bool false]] 3
 have w0:=apps_put hw0 [[.int .i64 0],[.int .i64 0],[.int .i64 0],[.bool false]] 0 [.int .i64 0]
 have w1:=apps_put hw0 [[.int .i64 0],[.int .i64 0],[.int .i64 0],[.bool false]] 1 [.int .i64 0]
 have w2:=apps_put hw0 [[.int .i64 0],[.int .i64 0],[.int .i64 0],[.bool false]] 2 [.int .i64 0]
 have w3:=apps_put hw0 [[.int .i64 0],[.int .i64 0],[.int .i64 0],[.bool false]] 3 [.bool false]
 simp only [Nat.add_zero,List.getElem?_cons_succ,List.getElem?_cons_zero,List.set_cons_succ,List.set_cons_zero] at q0 q1 q2 q3 w0 w1 w2 w3
 unfold apps at q0 q1 q2 q3 w0 w1 w2 w3 kr
 simp (config:={implicitDefEqProofs:=false}) [-zia,-St.obj,-St.set,q0,q1,q2,q3,w0,w1,w2,w3,kr,cR,retE,-zil,-zit,-znl,-znt,ty3,ty4,ty22,ty23,ty27,ty28,ty53,ty55,ty57,ty61,H12,e12_10,e12_9,e12_7,e12_16,q12_16,e12_18,e12_17,e12_15,e12_24,q12_24,e12_48,e12_46,e12_49,e12_44,e12_40,e12_38,e12_36,e12_34,e12_32,e12_30,e12_28,e12_27,e12_25,e12_23,e12_55,e12_54,e12_52,e12_63,q12_63,e12_65,e12_64,e12_62,e12_71,e12_69,e12_61,e12_59,e12_51,e12_22,e12_14,e12_4,e12_2,e12_0,n12_37]
 exact H _
theorem c12 (e r w z b g:Nat)(o:Bool)(t:Nat)(l:List Row)(hb:b≤800000)(hg:g≤800000)(hl7:l.length≤100000)(hfr:∀ x∈l,x.fr.length≤1000000)(σ:List V→List V→St)(hσ:Hp σ e r (l≠[]))(s1:Nat)(hs1:s1+1≤b+l.length)(B:List UInt8)(hB:B.length≤1000000) :
  ∃ σ' r',Hp σ' e r' ((takeL b s1 g o t l B).l≠[])∧Bys σ σ' e r r' (l≠[])∧EvF gS 12 [.ptr e 0,.slice (byteVs B)] (σ (endC w z (rv r l) b s1 g o t) (rowsV l)) =
   some (.ret (.tuple [.slice (encFs (takeL b s1 g o t l B).fs),.int .i64 (takeL b s1 g o t l B).er]) none,σ' (endC w z (rv r' (takeL b s1 g o t l B).l) (takeL b s1 g o t l B).b s1 (takeL b s1 g o t l B).g (takeL b s1 g o t l B).o (takeL b s1 g o t l B).t) (rowsV (takeL b s1 g o t l B).l)):=by
 obtain ⟨S0,hS0⟩:∃ S0,S0=σ (endC w z (rv r l) b s1 g o t) (rowsV l):=⟨_,rfl⟩
 have hw0:S0.wp≤S0.objs.length:=by rw [hS0];exact hσ.lw _ _
 rw [← hS0]
 have TA:=T12a S0 hw0 e B hB
 obtain ⟨X4,h4⟩:∃ X4:List V,X4=[.func 22 [] [.ptr S0.objs.length 0,.ptr (S0.objs.length+1) 0,.ptr (S0.objs.length+2) 0,.ptr (S0.objs.length+3) 0]]:=⟨_,rfl⟩
 obtain ⟨X6,h6⟩:∃ X6:List V,X6=[.ptr (S0.objs.length+5) 0]:=⟨_,rfl⟩
 rw [← h4,← h6] at TA
 have hN:=fun C D=>(hσ.len C D (endC w z (rv r l) b s1 g o t) (rowsV l)).trans (congrArg (fun S:St=>S.objs.length) hS0.symm)
 have hσ7:=fun n a ll h p=>hσ.apps [[.int .i64 ((n:Nat):Int)],[.int .i64 ((a:Nat):Int)],[.int .i64 ((ll:Nat):Int)],[.bool h],X4,[.slice (byteVs B),.int .i64 ((p:Nat):Int)],X6]
 have hb7:=fun n a ll h p=>Bys.apps hσ [[.int .i64 ((n:Nat):Int)],[.int .i64 ((a:Nat):Int)],[.int .i64 ((ll:Nat):Int)],[.bool h],X4,[.slice (byteVs B),.int .i64 ((p:Nat):Int)],X6]
 cases hd:rd B with
 | error er =>
  have her:=rdG_err 9 0 0 B er hd
  have he0:¬ er=0:=by omega
  have ht:takeL b s1 g o t l B=⟨[],er,b,g,o,t,l⟩:=by unfold takeL pr2;rw [hd]
  rw [ht]
  refine ⟨_,_,hσ7 0 0 0 false 0,hb7 0 0 0 false 0,?_⟩
  refine TA _ er (S7 S0 0 0 0 false X4 B 0 X6) (by unfold R21;rw [hd]) (fun T=>?_)
  have f3:=S7_o3 S0 0 0 0 false X4 B 0 X6
  have hZ:S7 S0 0 0 0 false X4 B 0 X6=apps (σ (endC w z (rv r l) b s1 g o t) (rowsV l)) [[.int .i64 ((0:Nat):Int)],[.int .i64 ((0:Nat):Int)],[.int .i64 ((0:Nat):Int)],[.bool false],X4,[.slice (byteVs B),.int .i64 ((0:Nat):Int)],X6]:=by rw [← hS0];rfl
  rw [show encFs []=([]:List V) from rfl]
  simp only
  rw [← hZ]
  generalize S7 S0 0 0 0 false X4 B 0 X6=Z at *
  simp (config:={implicitDefEqProofs:=false}) [-zia,-St.obj,-St.set,he0,f3,-zil,-zit,-znl,-znt,ty3,ty4,ty22,ty23,ty27,ty28,ty53,ty55,ty57,ty61,H12,e12_10,e12_9,e12_7,e12_16,q12_16,e12_18,e12_17,e12_15,e12_24,q12_24,e12_48,e12_46,e12_49,e12_44,e12_40,e12_38,e12_36,e12_34,e12_32,e12_30,e12_28,e12_27,e12_25,e12_23,e12_55,e12_54,e12_52,e12_63,q12_63,e12_65,e12_64,e12_62,e12_71,e12_69,e12_61,e12_59,e12_51,e12_22,e12_14,e12_6,e12_4,e12_2,e12_0,n12_37]
 | ok y =>
  obtain ⟨n,k⟩:=y
  obtain ⟨_,_,hk⟩:=rd_bound hd
  cases hd2:rd (B.drop k) with
  | error er =>
   have her:=rdG_err 9 0 0 _ er hd2
   have he0:¬ er=0:=by omega
   have ht:takeL b s1 g o t l B=⟨[],er,b,g,o,t,l⟩:=by unfold takeL pr2;rw [hd];simp only;rw [hd2]
   rw [ht]
   refine ⟨_,_,hσ7 n 0 0 false k,hb7 n 0 0 false k,?_⟩
   refine TA _ er (S7 S0 n 0 0 false X4 B k X6) (by unfold R21;rw [hd];simp only;rw [hd2]) (fun T=>?_)
   have f3:=S7_o3 S0 n 0 0 false X4 B k X6
   have hZ:S7 S0 n 0 0 false X4 B k X6=apps (σ (endC w z (rv r l) b s1 g o t) (rowsV l)) [[.int .i64 ((n:Nat):Int)],[.int .i64 ((0:Nat):Int)],[.int .i64 ((0:Nat):Int)],[.bool false],X4,[.slice (byteVs B),.int .i64 ((k:Nat):Int)],X6]:=by rw [← hS0];rfl
   rw [show encFs []=([]:List V) from rfl]
   simp only
   rw [← hZ]
   generalize S7 S0 n 0 0 false X4 B k X6=Z at *
   simp (config:={implicitDefEqProofs:=false}) [-zia,-St.obj,-St.set,he0,f3,-zil,-zit,-znl,-znt,ty3,ty4,ty22,ty23,ty27,ty28,ty53,ty55,ty57,ty61,H12,e12_10,e12_9,e12_7,e12_16,q12_16,e12_18,e12_17,e12_15,e12_24,q12_24,e12_48,e12_46,e12_49,e12_44,e12_40,e12_38,e12_36,e12_34,e12_32,e12_30,e12_28,e12_27,e12_25,e12_23,e12_55,e12_54,e12_52,e12_63,q12_63,e12_65,e12_64,e12_62,e12_71,e12_69,e12_61,e12_59,e12_51,e12_22,e12_14,e12_6,e12_4,e12_2,e12_0,n12_37]
  | ok y =>
   obtain ⟨a,k2⟩:=y
   obtain ⟨_,_,hk2⟩:=rd_bound hd2
   rw [List.length_drop] at hk2
   obtain ⟨ll,hll⟩:∃ ll,ll=B.length - (k+k2):=⟨_,rfl⟩
   have hR21:R21 S0 X4 B X6=(if k+k2<B.length then 3 else 0,S7 S0 n a ll true X4 B (k+k2) X6):=by unfold R21;rw [hd];simp only;rw [hd2,hll]
   have f0:=S7_o0 S0 n a ll true X4 B (k+k2) X6
   have f1:=S7_o1 S0 n a ll true X4 B (k+k2) X6
   have f3:=S7_o3 S0 n a ll true X4 B (k+k2) X6
   have hZ:S7 S0 n a ll true X4 B (k+k2) X6=apps (σ (endC w z (rv r l) b s1 g o t) (rowsV l)) [[.int .i64 ((n:Nat):Int)],[.int .i64 ((a:Nat):Int)],[.int .i64 ((ll:Nat):Int)],[.bool true],X4,[.slice (byteVs B),.int .i64 ((k+k2:Nat):Int)],X6]:=by rw [← hS0];rfl
   have hpr:pr2 B=if n=0∧k+k2<B.length then .error 3 else .ok (n,a,B.drop (k+k2)):=by unfold pr2;rw [hd];simp only;rw [hd2]
   by_cases hbad:n=0∧k+k2<B.length
   ·have ht:takeL b s1 g o t l B=⟨[],3,b,g,o,t,l⟩:=by unfold takeL;rw [hpr,if_pos hbad]
    rw [ht]
    obtain ⟨rfl,hlt⟩:=hbad
    rw [if_pos hlt] at hR21
    refine ⟨_,_,hσ7 0 a ll true (k+k2),hb7 0 a ll true (k+k2),?_⟩
    refine TA _ 3 _ hR21 (fun T=>?_)
    rw [show encFs []=([]:List V) from rfl]
    simp only
    rw [← hZ]
    rw [show ((0:Nat):Int)=0 from rfl] at f0
    generalize S7 S0 0 a ll true X4 B (k+k2) X6=Z at *
    simp (config:={implicitDefEqProofs:=false}) [-zia,-St.obj,-St.set,f0,f3,-zil,-zit,-znl,-znt,ty3,ty4,ty22,ty23,ty27,ty28,ty53,ty55,ty57,ty61,H12,e12_10,e12_9,e12_7,e12_16,q12_16,e12_18,e12_17,e12_15,e12_24,q12_24,e12_48,e12_46,e12_49,e12_44,e12_40,e12_38,e12_36,e12_34,e12_32,e12_30,e12_28,e12_27,e12_25,e12_23,e12_55,e12_54,e12_52,e12_63,q12_63,e12_65,e12_64,e12_62,e12_71,e12_69,e12_61,e12_59,e12_51,e12_22,e12_14,e12_6,e12_4,e12_2,e12_0,n12_37]
   ·rw [if_neg hbad] at hpr
    have hgo:∃ er:Int,(if k+k2<B.length then (3:Int) else 0)=er∧(er=0∨(er=3∧0<n)):=by
     by_cases h:k+k2<B.length
     ·exact ⟨3,if_pos h,.inr ⟨rfl,by omega⟩⟩
     ·exact ⟨0,if_neg h,.inl rfl⟩
    obtain ⟨er,her,hcase⟩:=hgo
    rw [her] at hR21
    have hoe7:=(hσ7 n a ll true (k+k2)).oe
    by_cases has:s1<a
    ·have ht:takeL b s1 g o t l B=⟨[],1,b,g,o,t,l⟩:=by unfold takeL;rw [hpr];simp only;rw [if_pos has]
     rw [ht]
     have hasi:(s1:Int)<(a:Int):=by omega
     refine ⟨_,_,hσ7 n a ll true (k+k2),hb7 n a ll true (k+k2),?_⟩
     refine TA _ er _ hR21 (fun T=>?_)
     rw [show encFs []=([]:List V) from rfl]
     have foe:=hoe7 (endC w z (rv r l) b s1 g o t) (rowsV l)
     simp only at foe ⊢
     rw [← hZ] at foe ⊢
     unfold endC at foe
     generalize S7 S0 n a ll true X4 B (k+k2) X6=Z at *
     rcases hcase with rfl | ⟨rfl,hn0⟩
     ·simp (config:={implicitDefEqProofs:=false}) [-zia,-St.obj,-St.set,f0,f1,f3,foe,hasi,has,-zil,-zit,-znl,-znt,ty3,ty4,ty22,ty23,ty27,ty28,ty53,ty55,ty57,ty61,H12,e12_10,e12_9,e12_7,e12_16,q12_16,e12_18,e12_17,e12_15,e12_24,q12_24,e12_48,e12_46,e12_49,e12_44,e12_40,e12_38,e12_36,e12_34,e12_32,e12_30,e12_28,e12_27,e12_25,e12_23,e12_55,e12_54,e12_52,e12_63,q12_63,e12_65,e12_64,e12_62,e12_71,e12_69,e12_61,e12_59,e12_51,e12_22,e12_14,e12_6,e12_4,e12_2,e12_0,n12_37]
     ·have hni:(0:Int)<(n:Int):=by omega
      simp (config:={implicitDefEqProofs:=false}) [-zia,-St.obj,-St.set,f0,f1,f3,foe,hasi,has,hni,hn0,-zil,-zit,-znl,-znt,ty3,ty4,ty22,ty23,ty27,ty28,ty53,ty55,ty57,ty61,H12,e12_10,e12_9,e12_7,e12_16,q12_16,e12_18,e12_17,e12_15,e12_24,q12_24,e12_48,e12_46,e12_49,e12_44,e12_40,e12_38,e12_36,e12_34,e12_32,e12_30,e12_28,e12_27,e12_25,e12_23,e12_55,e12_54,e12_52,e12_63,q12_63,e12_65,e12_64,e12_62,e12_71,e12_69,e12_61,e12_59,e12_51,e12_22,e12_14,e12_6,e12_4,e12_2,e12_0,n12_37]
    ·have hasi:¬ (s1:Int)<(a:Int):=by omega
     have h0:∀ C D,St.obj (apps (σ C D) [[.int .i64 ((n:Nat):Int)],[.int .i64 ((a:Nat):Int)],[.int .i64 ((ll:Nat):Int)],[.bool true],X4,[.slice (byteVs B),.int .i64 ((k+k2:Nat):Int)],X6]) S0.objs.length=some [.int .i64 (n:Int)]:=fun C D=>by rw [← hN C D];exact apps_get _ _ 0
     have h1:∀ C D,St.obj (apps (σ C D) [[.int .i64 ((n:Nat):Int)],[.int .i64 ((a:Nat):Int)],[.int .i64 ((ll:Nat):Int)],[.bool true],X4,[.slice (byteVs B),.int .i64 ((k+k2:Nat):Int)],X6]) (S0.objs.length+1)=some [.int .i64 (a:Int)]:=fun C D=>by rw [← hN C D];exact apps_get _ _ 1
     have h2:∀ C D,St.obj (apps (σ C D) [[.int .i64 ((n:Nat):Int)],[.int .i64 ((a:Nat):Int)],[.int .i64 ((ll:Nat):Int)],[.bool true],X4,[.slice (byteVs B),.int .i64 ((k+k2:Nat):Int)],X6]) (S0.objs.length+2)=some [.int .i64 (ll:Int)]:=fun C D=>by rw [← hN C D];exact apps_get _ _ 2
     obtain ⟨σ',r',hσ',hby,HH⟩:=T22 e r w z b g o t l hb hg hl7 hfr _ (hσ7 n a ll true (k+k2)) s1 a n ll S0.objs.length (S0.objs.length+1) (S0.objs.length+2) (S0.objs.length+3) B hB (by omega) (by omega) hs1 h0 h1 h2
     have hby2:=(hb7 n a ll true (k+k2)).trans hby (fun h=>.inl h)
     have ht:takeL b s1 g o t l B=if n=0 then ⟨[],0,(ackL a b t l).1,g,o,(ackL a b t l).2.1,(ackL a b t l).2.2⟩
      else if n=g+1 then ⟨[B.drop (k+k2)],0,(ackL a b t l).1,n,true,(ackL a b t l).2.1,(ackL a b t l).2.2⟩
      else ⟨[],0,(ackL a b t l).1,g,true,(ackL a b t l).2.1,(ackL a b t l).2.2⟩:=by unfold takeL;rw [hpr];simp only;rw [if_neg has]
     have hlen2:B.length - ll=k+k2:=by omega
     have hout:Hp σ' e r' ((takeL b s1 g o t l B).l≠[])∧R51 σ' (rowsV (ackL a b t l).2.2) w z (rv r' (ackL a b t l).2.2) (ackL a b t l).1 s1 g o (ackL a b t l).2.1 n ll B=(.ret (.tuple [.slice (encFs (takeL b s1 g o t l B).fs),.int .i64 (takeL b s1 g o t l B).er]) none,σ' (endC w z (rv r' (takeL b s1 g o t l B).l) (takeL b s1 g o t l B).b s1 (takeL b s1 g o t l B).g (takeL b s1 g o t l B).o (takeL b s1 g o t l B).t) (rowsV (takeL b s1 g o t l B).l)):=by
      rw [ht]
      unfold R51
      rw [hlen2]
      by_cases hn0:n=0
      ·rw [if_pos hn0,if_pos hn0];exact ⟨hσ',rfl⟩
      ·rw [if_neg hn0,if_neg hn0]
       by_cases hng:n=g+1
       ·rw [if_pos hng,if_pos hng];exact ⟨hσ',rfl⟩
       ·rw [if_neg hng,if_neg hng];exact ⟨hσ',rfl⟩
     refine ⟨σ',r',hout.1,hby2,?_⟩
     rw [← hout.2]
     refine TA _ er _ hR21 (fun T=>?_)
     have foe:=hoe7 (endC w z (rv r l) b s1 g o t) (rowsV l)
     rw [← hZ] at foe HH
     unfold endC at foe
     generalize R51 σ' (rowsV (ackL a b t l).2.2) w z (rv r' (ackL a b t l).2.2) (ackL a b t l).1 s1 g o (ackL a b t l).2.1 n ll B=RR at *
     generalize S7 S0 n a ll true X4 B (k+k2) X6=Z at *
     rcases hcase with rfl | ⟨rfl,hn0⟩
     ·simp (config:={implicitDefEqProofs:=false}) [-zia,-St.obj,-St.set,f0,f1,f3,foe,hasi,has,-zil,-zit,-znl,-znt,ty3,ty4,ty22,ty23,ty27,ty28,ty53,ty55,ty57,ty61,H12,e12_10,e12_9,e12_7,e12_16,q12_16,e12_18,e12_17,e12_15,e12_24,q12_24,e12_48,e12_46,e12_49,e12_44,e12_40,e12_38,e12_36,e12_34,e12_32,e12_30,e12_28,e12_27,e12_25,e12_23,e12_55,e12_54,e12_52,e12_63,q12_63,e12_65,e12_64,e12_62,e12_71,e12_69,e12_61,e12_59,e12_51,e12_14,e12_6,e12_4,e12_2,e12_0,n12_37]
      exact HH _ _ _ _ _ _ _ (tame_val _) rfl rfl rfl rfl
     ·have hni:(0:Int)<(n:Int):=by omega
      simp (config:={implicitDefEqProofs:=false}) [-zia,-St.obj,-St.set,f0,f1,f3,foe,hasi,has,hni,hn0,-zil,-zit,-znl,-znt,ty3,ty4,ty22,ty23,ty27,ty28,ty53,ty55,ty57,ty61,H12,e12_10,e12_9,e12_7,e12_16,q12_16,e12_18,e12_17,e12_15,e12_24,q12_24,e12_48,e12_46,e12_49,e12_44,e12_40,e12_38,e12_36,e12_34,e12_32,e12_30,e12_28,e12_27,e12_25,e12_23,e12_55,e12_54,e12_52,e12_63,q12_63,e12_65,e12_64,e12_62,e12_71,e12_69,e12_61,e12_59,e12_51,e12_14,e12_6,e12_4,e12_2,e12_0,n12_37]
      exact HH _ _ _ _ _ _ _ (tame_val _) rfl rfl rfl rfl
end
end Go.Proofs.Ytebjpgoadapabaa
namespace Go.Ab
open Go
def Rf (c a:Nat)(l:List Row):Prop:=∀ (i:Nat) x,l[i]?=some x→x.out=decide (i<c)∧x.ag=decide (i<a)
def Sm (l:List Row):Prop:=∀ x∈l,x.fr.length≤1000000
theorem mapIdx_get {F:Nat→Row→Row} {l:List Row} {i:Nat} {y:Row} (h:(l.mapIdx F)[i]?=some y):∃ x,l[i]?=some x∧y=F i x:=by
 rw [List.getElem?_mapIdx] at h
 obtain ⟨x,hx,hy⟩:=Option.map_eq_some_iff.1 h
 exact ⟨x,hx,hy.symm⟩
theorem Rf.F2 {c a w:Nat} {l:List Row} (h:Rf c a l):Rf (max c w) a (l.mapIdx (F2 w)):=by
 intro i y hy
 obtain ⟨x,hx,rfl⟩:=mapIdx_get hy
 obtain ⟨h1,h2⟩:=h i x hx
 unfold Ab.F2
 rw [h1]
 by_cases hc:c≤i∧i<w
 ·rw [if_pos (by simp [hc.1,hc.2])]
  exact ⟨by simp;omega,h2⟩
 ·rw [if_neg (by simpa using fun h1=>(by omega:w≤i))]
  refine ⟨?_,h2⟩
  rw [h1];apply decide_eq_decide.2;omega
theorem Rf.F3 {c a:Nat} {l:List Row} (h:Rf c a l):Rf c 0 (l.mapIdx F3):=by
 intro i y hy
 obtain ⟨x,hx,rfl⟩:=mapIdx_get hy
 exact ⟨(h i x hx).1,by simp [Ab.F3]⟩
theorem Rf.FT {c a:Nat} {l:List Row} (h:Rf c a l):Rf c c (l.mapIdx FT):=by
 intro i y hy
 obtain ⟨x,hx,rfl⟩:=mapIdx_get hy
 exact ⟨(h i x hx).1,(h i x hx).1⟩
theorem Rf.drop {c a:Nat} {l:List Row} (h:Rf c a l)(k:Nat):Rf (c - k) (a - k) (l.drop k):=by
 intro i y hy
 rw [List.getElem?_drop] at hy
 obtain ⟨h1,h2⟩:=h _ _ hy
 rw [h1,h2]
 exact ⟨decide_eq_decide.2 (by omega),decide_eq_decide.2 (by omega)⟩
theorem Rf.nil (c a:Nat):Rf c a []:=fun i x h=>by simp at h
theorem Sm.nil:Sm []:=fun x h=>by cases h
theorem Sm.map {l:List Row} (h:Sm l) {F:Nat→Row→Row} (hF:∀ i x,(F i x).fr=x.fr):Sm (l.mapIdx F):=by
 intro x hx
 obtain ⟨i,hi,rfl⟩:=List.mem_mapIdx.1 hx
 rw [hF];exact h _ (List.getElem_mem hi)
theorem Sm.drop {l:List Row} (h:Sm l)(k:Nat):Sm (l.drop k):=fun x hx=>h x (List.mem_of_mem_drop hx)
def outR (w:Nat)(l:List Row):List Row:=(l.mapIdx (F2 w)).mapIdx F3
theorem rv_outR (r w:Nat)(l:List Row):rv r (outR w l)=rv r l:=by unfold outR;rw [rv_map,rv_map]
theorem rv_tick (r z t:Nat)(l:List Row):rv r (tickL z t l).2=rv r l:=by
 unfold tickL
 split
 ·rfl
 ·split
  ·split
   ·rfl
   ·exact rv_map _ _ _
  ·rfl
/-! ### an acknowledgement alone -/
theorem u8_nat (k:Nat)(h:k<256):(u8 (k:Int)).toNat=k:=by
 unfold u8
 rw [wrap8,UInt8.toNat_ofNat']
 omega
end Go.Ab
namespace Go.Proofs.Ytebjpgoadapabaa
open Go Go.Ab
noncomputable section
variable (fr:Fr)(st:St)(k:Kt)
def fi16:FI:={body:=codeOf Try.f16,ntmps:=2,results:=[.tmp 0],pers:=[0],locals:=[],pure:=true,marks:=[]}
theorem fi16_eq:gS.fn 16=some fi16:=by kernel_rfl
theorem k16 (fr:Fr)(st:St):callStep gS (EvF gS) 16 [] fr st=some (.ok (.val (.bool true)) fr st):=by
 have hc:EvF gS 16 [] ⟨[],0⟩=some (.ret (.bool true) none,⟨[],0⟩):=Evn.lim ⟨400,fun n hn=>by
  obtain ⟨m,rfl⟩:∃ m,n=m+400:=⟨n - 400,by omega⟩
  kernel_rfl⟩
 exact call_pure' rfl fi16_eq rfl rfl ⟨_,hc⟩ rfl
theorem np10 (e r w z b g:Nat)(o:Bool)(t:Nat)(l:List Row)(hb:b≤800000)(hg:g≤800000)(hl7:l.length≤100000)(hfr:∀ x∈l,x.fr.length≤1000000)(σ:List V→List V→St)(hσ:Hp σ e r (l≠[]))(s1:Nat)(fr:Fr) :
  callStep gS (EvF gS) 10 [.ptr e 0] fr (σ (endC w z (rv r l) b s1 g o t) (rowsV l))=some (.ok (.own (ko (outs w b g s1 o l).1) (encFs (outs w b g s1 o l).1)) (fr.map E.noMem) (σ (endC w z (rv r (outR w l)) b (outs w b g s1 o l).2 g false t) (rowsV (outR w l)))):=by
 rw [call_np rfl fi10_eq rfl (c10 e r w z b g o t l hb hg hl7 hfr σ hσ s1) fr,rv_outR]
 rfl
theorem np13 (e r w z b g:Nat)(o:Bool)(t:Nat)(l:List Row)(ht:t≤1000000)(hb:b≤1000000)(hg:g≤1000000)(hl7:l.length≤100000)(hfr:∀ x∈l,x.fr.length≤1000000)(σ:List V→List V→St)(hσ:Hp σ e r (l≠[]))(s1:Nat)(fr:Fr) :
  callStep gS (EvF gS) 13 [.ptr e 0] fr (σ (endC w z (rv r l) b s1 g o t) (rowsV l))=some (.ok (.val (.tuple [])) (fr.map E.noMem) (σ (endC w z (rv r (tickL z t l).2) b s1 g o (tickL z t l).1) (rowsV (tickL z t l).2))):=by
 rw [call_np rfl fi13_eq rfl (c13 e r w z b g o t l ht hb hg hl7 hfr σ hσ s1) fr,rv_tick]
 rfl
theorem np12 (e r w z b g:Nat)(o:Bool)(t:Nat)(l:List Row)(hb:b≤800000)(hg:g≤800000)(hl7:l.length≤100000)(hfr:∀ x∈l,x.fr.length≤1000000)(σ:List V→List V→St)(hσ:Hp σ e r (l≠[]))(s1:Nat)(hs1:s1+1≤b+l.length)(B:List UInt8)(hB:B.length≤1000000) :
  ∃ σ' r',Hp σ' e r' ((takeL b s1 g o t l B).l≠[])∧Bys σ σ' e r r' (l≠[])∧∀ fr,callStep gS (EvF gS) 12 [.ptr e 0,.slice (byteVs B)] fr (σ (endC w z (rv r l) b s1 g o t) (rowsV l)) =
   some (.ok (.val (.tuple [.slice (encFs (takeL b s1 g o t l B).fs),.int .i64 (takeL b s1 g o t l B).er])) (fr.map E.noMem) (σ' (endC w z (rv r' (takeL b s1 g o t l B).l) (takeL b s1 g o t l B).b s1 (takeL b s1 g o t l B).g (takeL b s1 g o t l B).o (takeL b s1 g o t l B).t) (rowsV (takeL b s1 g o t l B).l))):=by
 obtain ⟨σ',r',h1,h2,h3⟩:=c12 e r w z b g o t l hb hg hl7 hfr σ hσ s1 hs1 B hB
 refine ⟨σ',r',h1,h2,fun fr=>?_⟩
 rw [call_np rfl fi12_eq rfl h3 fr]
 rfl
end
end Go.Proofs.Ytebjpgoadapabaa
