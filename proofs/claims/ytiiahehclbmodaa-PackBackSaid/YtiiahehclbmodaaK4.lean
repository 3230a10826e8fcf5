/- What was laid of a number, an integer, a float and a text reads back as it was: PackBack. Part 4. -/
import Derived.Test.YtiiahehclbmodaaK3
set_option linter.unusedVariables false
set_option linter.unusedSimpArgs false
set_option linter.unnecessarySimpa false
set_option maxHeartbeats 8000000
set_option maxRecDepth 20000
open Int renaming not_le → zil, not_lt → zit, natCast_add → zia
open Nat renaming not_le → znl, not_lt → znt
open List renaming getElem?_eq_getElem → zge, getElem?_eq_some_iff → zgs, append_assoc → zaa, mem_of_getElem? → zmg, length_append → zla
namespace Go.Proofs.Ytiiahehclbmodaa
open Go Go.Ab
noncomputable def fi49:FI:={body:=codeOf Try.f49,ntmps:=60,results:=[.tmp 4,.tmp 5],pers:=[0,1,4,5,6,7,8],locals:=[],pure:=false,marks:=[]}
theorem fn49:gS.fn 49=some fi49:=by kernel_rfl
theorem or_shift (a y s:Nat)(hs:s≤56)(ha:a<2 ^ s)(hy:y<128):intBin .or .i64 (a:Int) ((y*2 ^ s:Nat):Int)=some (.int .i64 ((a+y*2 ^ s:Nat):Int)):=by
 have hp:2 ^ s≤2 ^ 56:=Nat.pow_le_pow_right (by decide) hs
 have hy2:y*2 ^ s≤127*2 ^ s:=Nat.mul_le_mul_right _ (by omega)
 have hlt:a+y*2 ^ s<2 ^ 63:=by omega
 show some (V.int .i64 (IntKind.wrap .i64 ((BitVec.ofInt 64 (a:Int) ||| BitVec.ofInt 64 ((y*2 ^ s:Nat):Int)).toNat)))=_
 have h1:(BitVec.ofInt 64 (a:Int)).toNat=a:=by simp only [BitVec.toNat_ofInt];omega
 have h2:(BitVec.ofInt 64 ((y*2 ^ s:Nat):Int)).toNat=y*2 ^ s:=by simp only [BitVec.toNat_ofInt];omega
 have h3:=Nat.two_pow_add_eq_or_of_lt ha y
 have h4:(BitVec.ofInt 64 (a:Int) ||| BitVec.ofInt 64 ((y*2 ^ s:Nat):Int)).toNat=a+y*2 ^ s:=by
  rw [BitVec.toNat_or,h1,h2,Nat.or_comm,Nat.mul_comm y,← h3,Nat.add_comm]
 rw [h4,wrap64 (by omega) (by omega)]
def F49 (id k acc i:Nat)(e8:E)(T:List (Nat × E)):Fr:={ps:=[(0,.val (.ptr id 0)),(1,.val (.int .i64 k)),(4,.val (.int .i64 0)),(5,.val (.int .i64 0)),(6,.val (.int .i64 acc)),(7,.val (.int .i64 i)),(8,e8)],ts:=T,lc:=[]}
theorem byte_get (bs:List UInt8)(j:Nat)(c:UInt8)(h:bs[j]?=some c):(byteVs bs)[j]?=some (.int .u8 c.toNat):=by
 unfold byteVs;rw [List.getElem?_map,h];rfl
set_option maxRecDepth 40000 in
theorem more49 (m q id k acc i:Nat)(e8:E)(T:List (Nat × E))(bs:List UInt8)(c:UInt8)(st:St)(ho:∃ z,st.obj id=some [.slice (byteVs bs),z])(hi:i<9)(hb:bs.length<2 ^ 48)(hk:k<2 ^ 48)(hc:bs[k+i]?=some c)(h:128≤c.toNat)(ha:acc<2 ^ (7*i)) :
  ∃ T' e',evalCode gS fi49 (evalFn gS (m+2)) q (codeAt (codeOf Try.f49) [true,true,false,true,true,true]) (F49 id k acc i e8 T) st=some (.normal,F49 id k (acc+c.toNat % 128*2 ^ (7*i)) (i+1) e' T',st):=by
 obtain ⟨z,ho⟩:=ho
 have hm:fi49.marks=[]:=rfl
 have hl:fi49.locals=[]:=rfl
 have hlt:k+i<bs.length:=(List.getElem?_eq_some_iff.1 hc).1
 have hc8:=c.toNat_lt
 have e0:(i:Int)<9:=by omega
 have e1:IntKind.wrap .i64 ((k:Int)+(i:Int))=(k:Int)+(i:Int):=wrap64 (by omega) (by omega)
 have e2:(k:Int)+(i:Int)<(bs.length:Int):=by omega
 have e3:(0:Int)≤(k:Int)+(i:Int):=by omega
 have e4:((k:Int)+(i:Int)).toNat=k+i:=by omega
 have e5:=byte_get bs (k+i) c hc
 have e6:IntKind.wrap .i64 (c.toNat:Int)=(c.toNat:Int):=wrap64 (by omega) (by omega)
 have e7:=and127 c.toNat (by omega)
 have e8':IntKind.wrap .i64 (7*(i:Int))=((7*i:Nat):Int):=by rw [wrap64 (by omega) (by omega)];omega
 have e9:IntKind.wrap .u64 ((7*i:Nat):Int)=((7*i:Nat):Int):=wrapU (by omega) (by omega)
 have hp:2 ^ (7*i)≤2 ^ 56:=Nat.pow_le_pow_right (by decide) (by omega)
 have hy:c.toNat % 128*2 ^ (7*i)≤127*2 ^ (7*i):=Nat.mul_le_mul_right _ (by omega)
 have e10:shiftV .shl .i64 ((c.toNat % 128:Nat):Int) ((7*i:Nat):Int)=some (.int .i64 ((c.toNat % 128*2 ^ (7*i):Nat):Int)):=by
  unfold shiftV
  rw [if_neg (by omega)]
  have h1:min ((7*i:Nat):Int).toNat IntKind.i64.bits=7*i:=by
   have:IntKind.i64.bits=64:=rfl
   rw [this];omega
  simp only [h1]
  have h2:((c.toNat % 128:Nat):Int)*2 ^ (7*i)=((c.toNat % 128*2 ^ (7*i):Nat):Int):=by push_cast;rfl
  rw [h2,wrap64 (by omega) (by omega)]
 have e11:=or_shift acc (c.toNat % 128) (7*i) (by omega) ha (Nat.mod_lt _ (by decide))
 have e12:¬ (c.toNat:Int)<128:=by omega
 have e13:IntKind.wrap .i64 ((i:Int)+1)=(i:Int)+1:=wrap64 (by omega) (by omega)
 have hn:=need_ok m 2
 generalize c.toNat % 128*2 ^ (7*i)=w at *
 generalize c.toNat % 128=y at *
 generalize 7*i=s7 at *
 simp only [codeAt,codeOf,Try.f49,Option.getD_some,if_true,Bool.false_eq_true,if_false]
 simp only [St.obj] at ho
 simp [-zia,gext,fn14,mkFI,Try.f14,hn,F49,ty24,ty59,ty3,ty5,ty54,hm,hl,ho,ib_lss,ib_add,ib_mul,e0,e1,e2,e3,e4,e5,e6,e7,e8',e9,e10,e11,e12,e13,evalCode,evalOps,wantedE,stepM,frzM,frzStep,frzOut,nilRefs,nilRef,marked,stepE,stepOp,startFr,Fr.clear,mapR_eq,take,upE,E.calm,Fr.putO,Fr.put_def,Fr.map_def,Fr.raw_def,Fr.get_def,Fr.lend,Fr.op,lk,ins,lset,E.inval,constV,constVs,V.toE,builtinStep,lenE,elemsOf,okV,okE,E.v?,V.strip,binV,E.int?,E.bool?,appendStep,appended,baseOf,resultsOut,resultE,byteVs_length,flats_bytes,V.strip1,V.one,sizes_bytes,sizesOk,consume,E.weak,unV,sliceStep,boundOf,clip,indexAddrStep,indexStep,addrAdd,loadAt,placeOf,loadCs,cellE,storeAt,splice,E.cells?,V.cells,E.noMem,E.noLoc,E.noLp,callStep,vsOf,retE,V.flat,flats,St.obj,St.set,boxCells,Fr.loc_def,Fr.setLoc_def,E.part?,buildCells,buildSliceV,fillV,chunk,elemV,convV,vsOf,minMax,eqV,strBin,floatBin]
 omega
set_option maxRecDepth 40000 in
theorem last49 (m q id k acc i:Nat)(e8:E)(T:List (Nat × E))(bs:List UInt8)(c:UInt8)(st:St)(ho:∃ z,st.obj id=some [.slice (byteVs bs),z])(hi:i<9)(hb:bs.length<2 ^ 48)(hk:k<2 ^ 48)(hc:bs[k+i]?=some c)(h:c.toNat<128)(hz:i=0∨0<c.toNat)(hx:acc+c.toNat % 128*2 ^ (7*i)≤4611686018427387904)(ha:acc<2 ^ (7*i)) :
  ∃ fr',evalCode gS fi49 (evalFn gS (m+2)) q (codeAt (codeOf Try.f49) [true,true,false,true,true,true]) (F49 id k acc i e8 T) st=some (.ret,fr',st)∧fr'.get 4=.val (.int .i64 ((acc+c.toNat % 128*2 ^ (7*i):Nat):Int))∧fr'.get 5=.val (.int .i64 ((k+i+1:Nat):Int)):=by
 obtain ⟨z,ho⟩:=ho
 have hm:fi49.marks=[]:=rfl
 have hl:fi49.locals=[]:=rfl
 have hlt:k+i<bs.length:=(List.getElem?_eq_some_iff.1 hc).1
 have hc8:=c.toNat_lt
 have e0:(i:Int)<9:=by omega
 have e1:IntKind.wrap .i64 ((k:Int)+(i:Int))=(k:Int)+(i:Int):=wrap64 (by omega) (by omega)
 have e2:(k:Int)+(i:Int)<(bs.length:Int):=by omega
 have e3:(0:Int)≤(k:Int)+(i:Int):=by omega
 have e4:((k:Int)+(i:Int)).toNat=k+i:=by omega
 have e5:=byte_get bs (k+i) c hc
 have e6:IntKind.wrap .i64 (c.toNat:Int)=(c.toNat:Int):=wrap64 (by omega) (by omega)
 have e7:=and127 c.toNat (by omega)
 have e8':IntKind.wrap .i64 (7*(i:Int))=((7*i:Nat):Int):=by rw [wrap64 (by omega) (by omega)];omega
 have e9:IntKind.wrap .u64 ((7*i:Nat):Int)=((7*i:Nat):Int):=wrapU (by omega) (by omega)
 have hp:2 ^ (7*i)≤2 ^ 56:=Nat.pow_le_pow_right (by decide) (by omega)
 have hy:c.toNat % 128*2 ^ (7*i)≤127*2 ^ (7*i):=Nat.mul_le_mul_right _ (by omega)
 have e10:shiftV .shl .i64 ((c.toNat % 128:Nat):Int) ((7*i:Nat):Int)=some (.int .i64 ((c.toNat % 128*2 ^ (7*i):Nat):Int)):=by
  unfold shiftV
  rw [if_neg (by omega)]
  have h1:min ((7*i:Nat):Int).toNat IntKind.i64.bits=7*i:=by
   have:IntKind.i64.bits=64:=rfl
   rw [this];omega
  simp only [h1]
  have h2:((c.toNat % 128:Nat):Int)*2 ^ (7*i)=((c.toNat % 128*2 ^ (7*i):Nat):Int):=by push_cast;rfl
  rw [h2,wrap64 (by omega) (by omega)]
 have e11:=or_shift acc (c.toNat % 128) (7*i) (by omega) ha (Nat.mod_lt _ (by decide))
 have e12:(c.toNat:Int)<128:=by omega
 have e14:((acc+c.toNat % 128*2 ^ (7*i):Nat):Int)≤4611686018427387904:=by omega
 have e15:IntKind.wrap .i64 ((k:Int)+(i:Int)+1)=((k+i+1:Nat):Int):=by rw [wrap64 (by omega) (by omega)];omega
 have e16:((i:Int) == 0)=true∨(((i:Int) == 0)=false∧(0:Int)<(c.toNat:Int)):=by
  rcases hz with h | h
  ·left;rw [beq_iff_eq];omega
  ·by_cases h0:i=0
   ·left;rw [beq_iff_eq];omega
   ·right;exact ⟨by rw [beq_eq_false_iff_ne];omega,by omega⟩
 have e13:IntKind.wrap .i64 ((i:Int)+1)=(i:Int)+1:=wrap64 (by omega) (by omega)
 have hn:=need_ok m 2
 have hn3:=need_ok m 3
 generalize c.toNat % 128*2 ^ (7*i)=w at *
 generalize c.toNat % 128=y at *
 generalize 7*i=s7 at *
 rcases e16 with e16 | ⟨e16,e17⟩
 ·simp only [codeAt,codeOf,Try.f49,Option.getD_some,if_true,Bool.false_eq_true,if_false]
  simp only [St.obj] at ho
  simp [-zia,gext,fn14,mkFI,Try.f14,hn,hn3,F49,ty24,ty59,ty3,ty5,ty54,hm,hl,ho,ib_lss,ib_add,ib_mul,ib_eql,ib_gtr,ib_leq,e0,e1,e2,e3,e4,e5,e6,e7,e8',e9,e10,e11,e12,e13,e14,e15,e16,evalCode,evalOps,wantedE,stepM,frzM,frzStep,frzOut,nilRefs,nilRef,marked,stepE,stepOp,startFr,Fr.clear,mapR_eq,take,upE,E.calm,Fr.putO,Fr.put_def,Fr.map_def,Fr.raw_def,Fr.get_def,Fr.lend,Fr.op,lk,ins,lset,E.inval,constV,constVs,V.toE,builtinStep,lenE,elemsOf,okV,okE,E.v?,V.strip,binV,E.int?,E.bool?,appendStep,appended,baseOf,resultsOut,resultE,byteVs_length,flats_bytes,V.strip1,V.one,sizes_bytes,sizesOk,consume,E.weak,unV,sliceStep,boundOf,clip,indexAddrStep,indexStep,addrAdd,loadAt,placeOf,loadCs,cellE,storeAt,splice,E.cells?,V.cells,E.noMem,E.noLoc,E.noLp,callStep,vsOf,retE,V.flat,flats,St.obj,St.set,boxCells,Fr.loc_def,Fr.setLoc_def,E.part?,buildCells,buildSliceV,fillV,chunk,elemV,convV,vsOf,minMax,eqV,strBin,floatBin]
 ·simp only [codeAt,codeOf,Try.f49,Option.getD_some,if_true,Bool.false_eq_true,if_false]
  simp only [St.obj] at ho
  simp [-zia,gext,fn14,mkFI,Try.f14,hn,hn3,F49,ty24,ty59,ty3,ty5,ty54,hm,hl,ho,ib_lss,ib_add,ib_mul,ib_eql,ib_gtr,ib_leq,e0,e1,e2,e3,e4,e5,e6,e7,e8',e9,e10,e11,e12,e13,e14,e15,e16,e17,(by omega:0<c.toNat),evalCode,evalOps,wantedE,stepM,frzM,frzStep,frzOut,nilRefs,nilRef,marked,stepE,stepOp,startFr,Fr.clear,mapR_eq,take,upE,E.calm,Fr.putO,Fr.put_def,Fr.map_def,Fr.raw_def,Fr.get_def,Fr.lend,Fr.op,lk,ins,lset,E.inval,constV,constVs,V.toE,builtinStep,lenE,elemsOf,okV,okE,E.v?,V.strip,binV,E.int?,E.bool?,appendStep,appended,baseOf,resultsOut,resultE,byteVs_length,flats_bytes,V.strip1,V.one,sizes_bytes,sizesOk,consume,E.weak,unV,sliceStep,boundOf,clip,indexAddrStep,indexStep,addrAdd,loadAt,placeOf,loadCs,cellE,storeAt,splice,E.cells?,V.cells,E.noMem,E.noLoc,E.noLp,callStep,vsOf,retE,V.flat,flats,St.obj,St.set,boxCells,Fr.loc_def,Fr.setLoc_def,E.part?,buildCells,buildSliceV,fillV,chunk,elemV,convV,vsOf,minMax,eqV,strBin,floatBin]
set_option maxRecDepth 40000 in
set_option maxRecDepth 40000 in
theorem u8_nat (x:Nat)(h:x<256):(u8 (x:Int)).toNat=x:=by
 have:=u8_v (x:Int)
 rw [wrap8] at this
 omega
theorem read49 (m q id k:Nat)(bs:List UInt8)(st:St)(ho:∃ z,st.obj id=some [.slice (byteVs bs),z])(hb:bs.length<2 ^ 48)(hk:k<2 ^ 48) :
  ∀ (d i acc v fuel:Nat) (e8:E) (T:List (Nat × E)),(∀ (j:Nat) c,(vlow d v ++ [u8 ((vtop d v:Nat):Int)])[j]?=some c→bs[k+i+j]?=some c)→acc<2 ^ (7*i)→v<128 ^ (d+1)→i+d≤8→(i=0∨0<v) →
   acc+v*2 ^ (7*i)≤4611686018427387904→d<fuel →
  ∃ fr',iterate (evalCode gS fi49 (evalFn gS (m+2)) q (codeAt (codeOf Try.f49) [true,true,false,true,true,true])) fuel (F49 id k acc i e8 T) st=some (.ret,fr',st) ∧
   fr'.get 4=.val (.int .i64 ((acc+v*2 ^ (7*i):Nat):Int))∧fr'.get 5=.val (.int .i64 ((k+i+(vlow d v).length+1:Nat):Int))
 | d,i,acc,v,fuel,e8,T,hbs,ha,hv,hid,hz,hx,hf=>by
  obtain ⟨fuel,rfl⟩:∃ f,fuel=f+1:=⟨fuel - 1,by omega⟩
  by_cases hlast:v<128
  ·have e1:vlow d v=[]:=by cases d <;> simp [vlow,hlast]
   have e2:vtop d v=v:=by cases d <;> simp [vtop,hlast]
   have hc:=hbs 0 (u8 (v:Int)) (by rw [e1,e2];rfl)
   have hn:=u8_nat v (by omega)
   have hm:(u8 (v:Int)).toNat % 128=v:=by rw [hn];omega
   obtain ⟨fr',r1,r2,r3⟩:=last49 m q id k acc i e8 T bs (u8 (v:Int)) st ho (by omega) hb hk hc (by omega) (by omega) (by rw [hm];exact hx) ha
   rw [hm] at r2
   refine ⟨fr',by simp only [iterate];rw [r1],r2,by rw [e1];exact r3⟩
  ·obtain ⟨d,rfl⟩:∃ p,d=p+1:=by
    cases d with
    | zero=>simp at hv;omega
    | succ p=>exact ⟨p,rfl⟩
   have e1:vlow (d+1) v=u8 ((v % 128+128:Nat):Int) :: vlow d (v / 128):=by simp [vlow,hlast]
   have e2:vtop (d+1) v=vtop d (v / 128):=by simp [vtop,hlast]
   have hc:=hbs 0 (u8 ((v % 128+128:Nat):Int)) (by rw [e1];rfl)
   have hn:=u8_nat (v % 128+128) (by omega)
   have hm:(u8 ((v % 128+128:Nat):Int)).toNat % 128=v % 128:=by rw [hn];omega
   obtain ⟨T1,e',r1⟩:=more49 m q id k acc i e8 T bs _ st ho (by omega) hb hk hc (by omega) ha
   rw [hm] at r1
   have hp:2 ^ (7*(i+1))=2 ^ (7*i)*128:=by rw [show 7*(i+1)=7*i+7 by omega,Nat.pow_add]
   have hle:v % 128*2 ^ (7*i)≤127*2 ^ (7*i):=Nat.mul_le_mul_right _ (by omega)
   have hsum:acc+v % 128*2 ^ (7*i)+v / 128*2 ^ (7*(i+1))=acc+v*2 ^ (7*i):=by
    have h1:v*2 ^ (7*i)=(v % 128+128*(v / 128))*2 ^ (7*i):=by rw [Nat.mod_add_div]
    have h2:v / 128*(2 ^ (7*i)*128)=128*(v / 128)*2 ^ (7*i):=by rw [Nat.mul_comm (2 ^ (7*i)) 128,← Nat.mul_assoc,Nat.mul_comm (v / 128) 128]
    rw [hp,h1,Nat.add_mul,h2,Nat.add_assoc]
   obtain ⟨fr',q1,q2,q3⟩:=read49 m q id k bs st ho hb hk d (i+1) (acc+v % 128*2 ^ (7*i)) (v / 128) fuel e' T1
    (fun j c hj=>by
     have:=hbs (j+1) c (by rw [e1,e2];exact hj)
     rwa [show k+i+(j+1)=k+(i+1)+j by omega] at this)
    (by omega) (by rw [Nat.div_lt_iff_lt_mul (by decide)];rw [Nat.pow_succ] at hv;exact hv) (by omega) (by omega) (by rw [hsum];exact hx) (by omega)
   rw [hsum] at q2
   refine ⟨fr',by simp only [iterate];rw [r1];exact q1,q2,?_⟩
   rw [q3,e1];congr 3;simp;omega
end Go.Proofs.Ytiiahehclbmodaa
namespace Go.Proofs.Ytiiahehclbmodaa
open Go Go.Ab
theorem start49 (a b:V):startFr fi49 [a,b]={ps:=[(0,.val a),(1,.val b),(4,.any),(5,.any),(6,.any),(7,.any),(8,.any)],ts:=[],lc:=[]}:=rfl
theorem split49:codeOf Try.f49=.seq (codeAt (codeOf Try.f49) [false]) (.seq (codeAt (codeOf Try.f49) [true,false]) (.seq (.seq (codeAt (codeOf Try.f49) [true,true,false,false]) (.block 0 (.loop (codeAt (codeOf Try.f49) [true,true,false,true,true,true])))) (codeAt (codeOf Try.f49) [true,true,true]))):=by kernel_rfl
set_option maxRecDepth 40000 in
theorem head49 (m q id k:Nat)(st:St)(X:Code):∃ T,evalCode gS fi49 (evalFn gS m) q (.seq (codeAt (codeOf Try.f49) [false]) (.seq (codeAt (codeOf Try.f49) [true,false]) (.seq (.seq (codeAt (codeOf Try.f49) [true,true,false,false]) X) (codeAt (codeOf Try.f49) [true,true,true]))))
   {ps:=[(0,.val (.ptr id 0)),(1,.val (.int .i64 k)),(4,.any),(5,.any),(6,.any),(7,.any),(8,.any)],ts:=[],lc:=[]} st =
  evalCode gS fi49 (evalFn gS m) q (.seq X (codeAt (codeOf Try.f49) [true,true,true])) (F49 id k 0 0 .any T) st:=by
 have hm:fi49.marks=[]:=rfl
 have hl:fi49.locals=[]:=rfl
 obtain ⟨T1,s1⟩:∃ T,evalCode gS fi49 (evalFn gS m) q (codeAt (codeOf Try.f49) [false]) {ps:=[(0,.val (.ptr id 0)),(1,.val (.int .i64 k)),(4,.any),(5,.any),(6,.any),(7,.any),(8,.any)],ts:=[],lc:=[]} st =
   some (.normal,{ps:=[(0,.val (.ptr id 0)),(1,.val (.int .i64 k)),(4,.val (.int .i64 0)),(5,.val (.int .i64 0)),(6,.any),(7,.any),(8,.any)],ts:=T,lc:=[]},st):=by
  simp only [codeAt,codeOf,Try.f49,Option.getD_some,if_true,Bool.false_eq_true,if_false]
  simp [ty3,hm,hl,evalCode,evalOps,wantedE,stepM,frzM,frzStep,frzOut,nilRefs,nilRef,marked,stepE,stepOp,startFr,Fr.clear,mapR_eq,take,upE,E.calm,Fr.putO,Fr.put_def,Fr.map_def,Fr.raw_def,Fr.get_def,Fr.lend,Fr.op,lk,ins,lset,E.inval,constV,constVs,V.toE,builtinStep,lenE,elemsOf,okV,okE,E.v?,V.strip,binV,E.int?,E.bool?,appendStep,appended,baseOf,resultsOut,resultE,byteVs_length,flats_bytes,V.strip1,V.one,sizes_bytes,sizesOk,consume,E.weak,unV,sliceStep,boundOf,clip,indexAddrStep,indexStep,addrAdd,loadAt,placeOf,loadCs,cellE,storeAt,splice,E.cells?,V.cells,E.noMem,E.noLoc,E.noLp,callStep,vsOf,retE,V.flat,flats,St.obj,St.set,boxCells,Fr.loc_def,Fr.setLoc_def,E.part?,buildCells,buildSliceV,fillV,chunk,elemV,convV,vsOf,minMax,eqV,strBin,floatBin]
 obtain ⟨T2,s2⟩:∃ T,evalCode gS fi49 (evalFn gS m) q (codeAt (codeOf Try.f49) [true,false]) {ps:=[(0,.val (.ptr id 0)),(1,.val (.int .i64 k)),(4,.val (.int .i64 0)),(5,.val (.int .i64 0)),(6,.any),(7,.any),(8,.any)],ts:=T1,lc:=[]} st =
   some (.normal,{ps:=[(0,.val (.ptr id 0)),(1,.val (.int .i64 k)),(4,.val (.int .i64 0)),(5,.val (.int .i64 0)),(6,.val (.int .i64 0)),(7,.any),(8,.any)],ts:=T,lc:=[]},st):=by
  simp only [codeAt,codeOf,Try.f49,Option.getD_some,if_true,Bool.false_eq_true,if_false]
  simp [ty3,hm,hl,evalCode,evalOps,wantedE,stepM,frzM,frzStep,frzOut,nilRefs,nilRef,marked,stepE,stepOp,startFr,Fr.clear,mapR_eq,take,upE,E.calm,Fr.putO,Fr.put_def,Fr.map_def,Fr.raw_def,Fr.get_def,Fr.lend,Fr.op,lk,ins,lset,E.inval,constV,constVs,V.toE,builtinStep,lenE,elemsOf,okV,okE,E.v?,V.strip,binV,E.int?,E.bool?,appendStep,appended,baseOf,resultsOut,resultE,byteVs_length,flats_bytes,V.strip1,V.one,sizes_bytes,sizesOk,consume,E.weak,unV,sliceStep,boundOf,clip,indexAddrStep,indexStep,addrAdd,loadAt,placeOf,loadCs,cellE,storeAt,splice,E.cells?,V.cells,E.noMem,E.noLoc,E.noLp,callStep,vsOf,retE,V.flat,flats,St.obj,St.set,boxCells,Fr.loc_def,Fr.setLoc_def,E.part?,buildCells,buildSliceV,fillV,chunk,elemV,convV,vsOf,minMax,eqV,strBin,floatBin]
 obtain ⟨T3,s3⟩:∃ T,evalCode gS fi49 (evalFn gS m) q (codeAt (codeOf Try.f49) [true,true,false,false]) {ps:=[(0,.val (.ptr id 0)),(1,.val (.int .i64 k)),(4,.val (.int .i64 0)),(5,.val (.int .i64 0)),(6,.val (.int .i64 0)),(7,.any),(8,.any)],ts:=T2,lc:=[]} st =
   some (.normal,F49 id k 0 0 .any T,st):=by
  simp only [codeAt,codeOf,Try.f49,Option.getD_some,if_true,Bool.false_eq_true,if_false]
  simp [F49,ty3,hm,hl,evalCode,evalOps,wantedE,stepM,frzM,frzStep,frzOut,nilRefs,nilRef,marked,stepE,stepOp,startFr,Fr.clear,mapR_eq,take,upE,E.calm,Fr.putO,Fr.put_def,Fr.map_def,Fr.raw_def,Fr.get_def,Fr.lend,Fr.op,lk,ins,lset,E.inval,constV,constVs,V.toE,builtinStep,lenE,elemsOf,okV,okE,E.v?,V.strip,binV,E.int?,E.bool?,appendStep,appended,baseOf,resultsOut,resultE,byteVs_length,flats_bytes,V.strip1,V.one,sizes_bytes,sizesOk,consume,E.weak,unV,sliceStep,boundOf,clip,indexAddrStep,indexStep,addrAdd,loadAt,placeOf,loadCs,cellE,storeAt,splice,E.cells?,V.cells,E.noMem,E.noLoc,E.noLp,callStep,vsOf,retE,V.flat,flats,St.obj,St.set,boxCells,Fr.loc_def,Fr.setLoc_def,E.part?,buildCells,buildSliceV,fillV,chunk,elemV,convV,vsOf,minMax,eqV,strBin,floatBin]
 refine ⟨T3,?_⟩
 rw [seq_norm s1,seq_norm s2]
 conv=>lhs;unfold evalCode
 rw [seq_norm s3]
 conv=>rhs;unfold evalCode
theorem nat49 (m id k n:Nat)(bs:List UInt8)(st:St)(ho:∃ z,st.obj id=some [.slice (byteVs bs),z])(hb:bs.length<2 ^ 48)(hk:k<2 ^ 48)(hn:n≤4611686018427387904)
  (hbs:∀ (j:Nat) c,(vbytes n)[j]?=some c→bs[k+j]?=some c) :
  evalFn gS (m+12) 49 [.ptr id 0,.int .i64 k] st=some (.ret (.tuple [.int .i64 n,.int .i64 ((k+(vbytes n).length:Nat):Int)]) none,st):=by
 rw [evalFn];simp only [hrun,evalBody,fn49]
 rw [show fi49.body=codeOf Try.f49 from rfl,split49,start49]
 obtain ⟨T,h1⟩:=head49 (m+11) (m+11) id k st (.block 0 (.loop (codeAt (codeOf Try.f49) [true,true,false,true,true,true])))
 obtain ⟨fr',r1,r2,r3⟩:=read49 (m+9) (m+11) id k bs st ho hb hk 8 0 0 n (m+11) .any T (fun j c hj=>by rw [Nat.add_zero];exact hbs j c hj) (by simp) (by simp;omega) (by omega) (.inl rfl) (by simp;omega) (by omega)
 rw [h1,seq_out (show evalCode gS fi49 (evalFn gS (m+11)) (m+11) (.block 0 (.loop (codeAt (codeOf Try.f49) [true,true,false,true,true,true]))) _ st=some (.ret,fr',st) by simp only [evalCode];rw [r1])]
 have hlen:k+0+(vlow 8 n).length+1=k+(vbytes n).length:=by simp [vbytes];omega
 rw [hlen] at r3
 simp only [Nat.mul_zero,Nat.pow_zero,Nat.mul_one,Nat.zero_add] at r2
 simp [show fi49.results=[.tmp 4,.tmp 5] from rfl,resultsOut,resultE,r2,r3,vsOf,E.v?,V.strip,frzOut,show fi49.marks=[] from rfl]
end Go.Proofs.Ytiiahehclbmodaa
namespace Go.Proofs.Ytiiahehclbmodaa
open Go Go.Ab
noncomputable def fi10:FI:={body:=codeOf Try.f10,ntmps:=19,results:=[.tmp 2],pers:=[0,2,3,4],locals:=[],pure:=false,marks:=[]}
theorem fn10:gS.fn 10=some fi10:=by kernel_rfl
theorem start10 (a:V):startFr fi10 [a]={ps:=[(0,.val a),(2,.any),(3,.any),(4,.any)],ts:=[],lc:=[]}:=rfl
set_option maxRecDepth 40000 in
theorem nat10 (m id k n:Nat)(bs:List UInt8)(st:St)(ho:st.obj id=some [.slice (byteVs bs),.int .i64 k])(hw:st.wp≤id)(hb:bs.length<2 ^ 48)(hk:k<2 ^ 48)(hn:n≤4611686018427387904)
  (hbs:∀ (j:Nat) c,(vbytes n)[j]?=some c→bs[k+j]?=some c) :
  evalFn gS (m+13) 10 [.ptr id 0] st=some (.ret (.int .i64 n) none,{st with objs:=st.objs.set id [.slice (byteVs bs),.int .i64 ((k+(vbytes n).length:Nat):Int)]}):=by
 have h49:=nat49 m id k n bs st ⟨_,ho⟩ hb hk hn hbs
 have hm:fi10.marks=[]:=rfl
 have hl:fi10.locals=[]:=rfl
 rw [evalFn];simp only [hrun,evalBody,fn10]
 rw [start10]
 simp only [show fi10.body=codeOf Try.f10 from rfl,codeOf,Try.f10,Option.getD_some,show fi10.results=[.tmp 2] from rfl]
 simp only [St.obj] at ho
 simp [-zia,gext,fn49,show fi49.pure=false from rfl,h49,ty3,ty59,hm,hl,ho,hw,evalCode,evalOps,wantedE,stepM,frzM,frzStep,frzOut,nilRefs,nilRef,marked,stepE,stepOp,startFr,Fr.clear,mapR_eq,take,upE,E.calm,Fr.putO,Fr.put_def,Fr.map_def,Fr.raw_def,Fr.get_def,Fr.lend,Fr.op,lk,ins,lset,E.inval,constV,constVs,V.toE,builtinStep,lenE,elemsOf,okV,okE,E.v?,V.strip,binV,E.int?,E.bool?,appendStep,appended,baseOf,resultsOut,resultE,byteVs_length,flats_bytes,V.strip1,V.one,sizes_bytes,sizesOk,consume,E.weak,unV,sliceStep,boundOf,clip,indexAddrStep,indexStep,addrAdd,loadAt,placeOf,loadCs,cellE,storeAt,splice,E.cells?,V.cells,E.noMem,E.noLoc,E.noLp,callStep,vsOf,retE,V.flat,flats,St.obj,St.set,boxCells,Fr.loc_def,Fr.setLoc_def,E.part?,buildCells,buildSliceV,fillV,chunk,elemV,convV,vsOf,minMax,eqV,strBin,floatBin]
end Go.Proofs.Ytiiahehclbmodaa
namespace Go.Proofs.Ytiiahehclbmodaa
open Go Go.Ab
theorem or_byte (a c:Nat)(ha:a<2 ^ 56)(hc:c<256):intBin .or .u64 ((a*256:Nat):Int) (c:Int)=some (.int .u64 ((a*256+c:Nat):Int)):=by
 show some (V.int .u64 (IntKind.wrap .u64 ((BitVec.ofInt 64 ((a*256:Nat):Int) ||| BitVec.ofInt 64 (c:Int)).toNat)))=_
 have h1:(BitVec.ofInt 64 ((a*256:Nat):Int)).toNat=a*256:=by simp only [BitVec.toNat_ofInt];omega
 have h2:(BitVec.ofInt 64 (c:Int)).toNat=c:=by simp only [BitVec.toNat_ofInt];omega
 have h3:=Nat.two_pow_add_eq_or_of_lt (i:=8) (b:=c) (by omega) a
 have h4:(BitVec.ofInt 64 ((a*256:Nat):Int) ||| BitVec.ofInt 64 (c:Int)).toNat=a*256+c:=by
  rw [BitVec.toNat_or,h1,h2,Nat.mul_comm a,show (256:Nat)=2 ^ 8 from rfl,← h3]
 rw [h4,wrapU (by omega) (by omega)]
noncomputable def fi53:FI:={body:=codeOf Try.f53,ntmps:=36,results:=[.tmp 2],pers:=[0,2,3,5,23,24,25],locals:=[],pure:=false,marks:=[]}
theorem fn53:gS.fn 53=some fi53:=by kernel_rfl
def F53 (id acc i:Nat)(l:List UInt8)(e5:E)(T:List (Nat × E)):Fr:={ps:=[(0,.val (.ptr id 0)),(2,.val (.int .u64 0)),(3,.val (.int .u64 acc)),(5,e5),(23,.val (.slice (byteVs l))),(24,.val (.int .i64 8)),(25,.val (.int .i64 i))],ts:=T,lc:=[]}
set_option maxRecDepth 40000 in
theorem step53 (m q id acc i:Nat)(l:List UInt8)(c:UInt8)(e5:E)(T:List (Nat × E))(st:St)(hi:i<8)(hc:l[i]?=some c)(ha:acc<2 ^ 56) :
  ∃ T' e',evalCode gS fi53 (evalFn gS m) q (codeAt (codeOf Try.f53) [true,true,true,false,true,true,true]) (F53 id acc i l e5 T) st=some (.normal,F53 id (acc*256+c.toNat) (i+1) l e' T',st):=by
 have hm:fi53.marks=[]:=rfl
 have hl:fi53.locals=[]:=rfl
 have hc8:=c.toNat_lt
 have e0:(i:Int)<8:=by omega
 have e1:=byte_get l i c hc
 have e2:shiftV .shl .u64 (acc:Int) 8=some (.int .u64 ((acc*256:Nat):Int)):=by
  show some (V.int .u64 (IntKind.wrap .u64 ((acc:Int)*2 ^ (min 8 64))))=_
  have:(acc:Int)*2 ^ (min 8 64)=((acc*256:Nat):Int):=by simp
  rw [this,wrapU (by omega) (by omega)]
 have e3:IntKind.wrap .u64 (c.toNat:Int)=(c.toNat:Int):=wrapU (by omega) (by omega)
 have e4:=or_byte acc c.toNat ha hc8
 have e5':IntKind.wrap .i64 ((i:Int)+1)=(i:Int)+1:=wrap64 (by omega) (by omega)
 generalize acc*256=w at *
 simp only [codeAt,codeOf,Try.f53,Option.getD_some,if_true,Bool.false_eq_true,if_false]
 simp [-zia,F53,ty24,ty3,ty5,ty52,ty54,hm,hl,ib_lss,ib_add,e0,e1,e2,e3,e4,e5',evalCode,evalOps,wantedE,stepM,frzM,frzStep,frzOut,nilRefs,nilRef,marked,stepE,stepOp,startFr,Fr.clear,mapR_eq,take,upE,E.calm,Fr.putO,Fr.put_def,Fr.map_def,Fr.raw_def,Fr.get_def,Fr.lend,Fr.op,lk,ins,lset,E.inval,constV,constVs,V.toE,builtinStep,lenE,elemsOf,okV,okE,E.v?,V.strip,binV,E.int?,E.bool?,appendStep,appended,baseOf,resultsOut,resultE,byteVs_length,flats_bytes,V.strip1,V.one,sizes_bytes,sizesOk,consume,E.weak,unV,sliceStep,boundOf,clip,indexAddrStep,indexStep,addrAdd,loadAt,placeOf,loadCs,cellE,storeAt,splice,E.cells?,V.cells,E.noMem,E.noLoc,E.noLp,callStep,vsOf,retE,V.flat,flats,St.obj,St.set,boxCells,Fr.loc_def,Fr.setLoc_def,E.part?,buildCells,buildSliceV,fillV,chunk,elemV,convV,vsOf,minMax,eqV,strBin,floatBin]
 omega
set_option maxRecDepth 40000 in
theorem stop53 (m q id acc:Nat)(l:List UInt8)(e5:E)(T:List (Nat × E))(st:St) :
  ∃ T' e',evalCode gS fi53 (evalFn gS m) q (codeAt (codeOf Try.f53) [true,true,true,false,true,true,true]) (F53 id acc 8 l e5 T) st=some (.exit 0,F53 id acc 8 l e' T',st):=by
 have hm:fi53.marks=[]:=rfl
 have hl:fi53.locals=[]:=rfl
 simp only [codeAt,codeOf,Try.f53,Option.getD_some,if_true,Bool.false_eq_true,if_false]
 simp [F53,ty3,hm,hl,ib_lss,evalCode,evalOps,wantedE,stepM,frzM,frzStep,frzOut,nilRefs,nilRef,marked,stepE,stepOp,startFr,Fr.clear,mapR_eq,take,upE,E.calm,Fr.putO,Fr.put_def,Fr.map_def,Fr.raw_def,Fr.get_def,Fr.lend,Fr.op,lk,ins,lset,E.inval,constV,constVs,V.toE,builtinStep,lenE,elemsOf,okV,okE,E.v?,V.strip,binV,E.int?,E.bool?,appendStep,appended,baseOf,resultsOut,resultE,byteVs_length,flats_bytes,V.strip1,V.one,sizes_bytes,sizesOk,consume,E.weak,unV,sliceStep,boundOf,clip,indexAddrStep,indexStep,addrAdd,loadAt,placeOf,loadCs,cellE,storeAt,splice,E.cells?,V.cells,E.noMem,E.noLoc,E.noLp,callStep,vsOf,retE,V.flat,flats,St.obj,St.set,boxCells,Fr.loc_def,Fr.setLoc_def,E.part?,buildCells,buildSliceV,fillV,chunk,elemV,convV,vsOf,minMax,eqV,strBin,floatBin]
def dig (l:List UInt8)(a:Nat):Nat:=l.foldl (fun a c=>a*256+c.toNat) a
theorem loop53 (m q id:Nat)(l:List UInt8)(h8:l.length=8)(st:St):∀ (d i acc fuel:Nat) (e5:E) (T:List (Nat × E)),i+d=8→acc<256 ^ i→d<fuel →
  ∃ T' e',iterate (evalCode gS fi53 (evalFn gS m) q (codeAt (codeOf Try.f53) [true,true,true,false,true,true,true])) fuel (F53 id acc i l e5 T) st=some (.exit 0,F53 id (dig (l.drop i) acc) 8 l e' T',st)
 | 0,i,acc,fuel,e5,T,h,ha,hf=>by
  obtain ⟨fuel,rfl⟩:∃ f,fuel=f+1:=⟨fuel - 1,by omega⟩
  have:i=8:=by omega
  subst this
  obtain ⟨T',e',r⟩:=stop53 m q id acc l e5 T st
  refine ⟨T',e',?_⟩
  simp only [iterate];rw [r]
  rw [show l.drop 8=[] from List.drop_of_length_le (by omega)];rfl
 | d+1,i,acc,fuel,e5,T,h,ha,hf=>by
  obtain ⟨fuel,rfl⟩:∃ f,fuel=f+1:=⟨fuel - 1,by omega⟩
  have hi:i<l.length:=by omega
  have hp:256 ^ i≤256 ^ 7:=Nat.pow_le_pow_right (by decide) (by omega)
  have hc8:=(l[i]).toNat_lt
  obtain ⟨T1,e1,r⟩:=step53 m q id acc i l l[i] e5 T st (by omega) (zge hi) (by omega)
  obtain ⟨T',e',r'⟩:=loop53 m q id l h8 st d (i+1) (acc*256+(l[i]).toNat) fuel e1 T1 (by omega) (by rw [Nat.pow_succ];omega) (by omega)
  refine ⟨T',e',?_⟩
  simp only [iterate];rw [r]
  simp only
  rw [r',List.drop_eq_getElem_cons hi];rfl
theorem start53 (a:V):startFr fi53 [a]={ps:=[(0,.val a),(2,.any),(3,.any),(5,.any),(23,.any),(24,.any),(25,.any)],ts:=[],lc:=[]}:=rfl
theorem split53:codeOf Try.f53=.seq (codeAt (codeOf Try.f53) [false]) (.seq (codeAt (codeOf Try.f53) [true,false]) (.seq (codeAt (codeOf Try.f53) [true,true,false]) (.seq (.seq (codeAt (codeOf Try.f53) [true,true,true,false,false]) (.block 0 (.loop (codeAt (codeOf Try.f53) [true,true,true,false,true,true,true])))) (codeAt (codeOf Try.f53) [true,true,true,true])))):=by kernel_rfl
theorem reg53:codeAt (codeOf Try.f53) [true,true,true,false,false]=.region 3 (opsAt (codeAt (codeOf Try.f53) [true,true,true,false,false])) true:=by kernel_rfl
theorem lex53:Region.lexB .any (opsAt (codeAt (codeOf Try.f53) [true,true,true,false,false]))=true:=by kernel_rfl
theorem all53:(opsAt (codeAt (codeOf Try.f53) [true,true,true,false,false])).toList.all (isQM gS fi53)=true:=by kernel_rfl
theorem drop_bytes (bs:List UInt8)(n:Nat):(byteVs bs).drop n=byteVs (bs.drop n):=by simp [byteVs,List.map_drop]
set_option maxRecDepth 40000 in
theorem bits53 (m id k:Nat)(bs:List UInt8)(st:St)(ho:st.obj id=some [.slice (byteVs bs),.int .i64 k])(hb:bs.length<2 ^ 48)(hk:k+8≤bs.length) :
  evalFn gS (m+12) 53 [.ptr id 0] st=some (.ret (.int .u64 (dig ((bs.take (k+8)).drop k) 0)) none,st):=by
 have hm:fi53.marks=[]:=rfl
 have hl:fi53.locals=[]:=rfl
 have h15:=left15 (m+10) bs id k (by omega) hb st ho
 have hn:=need_ok (m+9) 2
 have e0:(8:Int)≤((bs.length - k:Nat):Int):=by omega
 have e1:IntKind.wrap .i64 ((k:Int)+8)=((k+8:Nat):Int):=by rw [wrap64 (by omega) (by omega)];omega
 have h8:((bs.take (k+8)).drop k).length=8:=by simp;omega
 obtain ⟨T1,s1⟩:∃ T,evalCode gS fi53 (evalFn gS (m+11)) (m+11) (codeAt (codeOf Try.f53) [false]) {ps:=[(0,.val (.ptr id 0)),(2,.any),(3,.any),(5,.any),(23,.any),(24,.any),(25,.any)],ts:=[],lc:=[]} st =
   some (.normal,{ps:=[(0,.val (.ptr id 0)),(2,.val (.int .u64 0)),(3,.any),(5,.any),(23,.any),(24,.any),(25,.any)],ts:=T,lc:=[]},st):=by
  simp only [codeAt,codeOf,Try.f53,Option.getD_some,if_true,Bool.false_eq_true,if_false]
  simp [ty52,hm,hl,evalCode,evalOps,wantedE,stepM,frzM,frzStep,frzOut,nilRefs,nilRef,marked,stepE,stepOp,startFr,Fr.clear,mapR_eq,take,upE,E.calm,Fr.putO,Fr.put_def,Fr.map_def,Fr.raw_def,Fr.get_def,Fr.lend,Fr.op,lk,ins,lset,E.inval,constV,constVs,V.toE,builtinStep,lenE,elemsOf,okV,okE,E.v?,V.strip,binV,E.int?,E.bool?,appendStep,appended,baseOf,resultsOut,resultE,byteVs_length,flats_bytes,V.strip1,V.one,sizes_bytes,sizesOk,consume,E.weak,unV,sliceStep,boundOf,clip,indexAddrStep,indexStep,addrAdd,loadAt,placeOf,loadCs,cellE,storeAt,splice,E.cells?,V.cells,E.noMem,E.noLoc,E.noLp,callStep,vsOf,retE,V.flat,flats,St.obj,St.set,boxCells,Fr.loc_def,Fr.setLoc_def,E.part?,buildCells,buildSliceV,fillV,chunk,elemV,convV,vsOf,minMax,eqV,strBin,floatBin]
 obtain ⟨T2,s2⟩:∃ T,evalCode gS fi53 (evalFn gS (m+11)) (m+11) (codeAt (codeOf Try.f53) [true,false]) {ps:=[(0,.val (.ptr id 0)),(2,.val (.int .u64 0)),(3,.any),(5,.any),(23,.any),(24,.any),(25,.any)],ts:=T1,lc:=[]} st =
   some (.normal,{ps:=[(0,.val (.ptr id 0)),(2,.val (.int .u64 0)),(3,.any),(5,.any),(23,.any),(24,.any),(25,.any)],ts:=T,lc:=[]},st):=by
  generalize bs.length - k=w at *
  simp only [codeAt,codeOf,Try.f53,Option.getD_some,if_true,Bool.false_eq_true,if_false]
  simp [gext,fn15,show fi15.pure=false from rfl,h15,fn14,mkFI,Try.f14,hn,ty3,hm,hl,ib_geq,e0,evalCode,evalOps,wantedE,stepM,frzM,frzStep,frzOut,nilRefs,nilRef,marked,stepE,stepOp,startFr,Fr.clear,mapR_eq,take,upE,E.calm,Fr.putO,Fr.put_def,Fr.map_def,Fr.raw_def,Fr.get_def,Fr.lend,Fr.op,lk,ins,lset,E.inval,constV,constVs,V.toE,builtinStep,lenE,elemsOf,okV,okE,E.v?,V.strip,binV,E.int?,E.bool?,appendStep,appended,baseOf,resultsOut,resultE,byteVs_length,flats_bytes,V.strip1,V.one,sizes_bytes,sizesOk,consume,E.weak,unV,sliceStep,boundOf,clip,indexAddrStep,indexStep,addrAdd,loadAt,placeOf,loadCs,cellE,storeAt,splice,E.cells?,V.cells,E.noMem,E.noLoc,E.noLp,callStep,vsOf,retE,V.flat,flats,St.obj,St.set,boxCells,Fr.loc_def,Fr.setLoc_def,E.part?,buildCells,buildSliceV,fillV,chunk,elemV,convV,vsOf,minMax,eqV,strBin,floatBin]
 obtain ⟨T3,s3⟩:∃ T,evalCode gS fi53 (evalFn gS (m+11)) (m+11) (codeAt (codeOf Try.f53) [true,true,false]) {ps:=[(0,.val (.ptr id 0)),(2,.val (.int .u64 0)),(3,.any),(5,.any),(23,.any),(24,.any),(25,.any)],ts:=T2,lc:=[]} st =
   some (.normal,{ps:=[(0,.val (.ptr id 0)),(2,.val (.int .u64 0)),(3,.val (.int .u64 0)),(5,.any),(23,.any),(24,.any),(25,.any)],ts:=T,lc:=[]},st):=by
  simp only [codeAt,codeOf,Try.f53,Option.getD_some,if_true,Bool.false_eq_true,if_false]
  simp [ty52,hm,hl,evalCode,evalOps,wantedE,stepM,frzM,frzStep,frzOut,nilRefs,nilRef,marked,stepE,stepOp,startFr,Fr.clear,mapR_eq,take,upE,E.calm,Fr.putO,Fr.put_def,Fr.map_def,Fr.raw_def,Fr.get_def,Fr.lend,Fr.op,lk,ins,lset,E.inval,constV,constVs,V.toE,builtinStep,lenE,elemsOf,okV,okE,E.v?,V.strip,binV,E.int?,E.bool?,appendStep,appended,baseOf,resultsOut,resultE,byteVs_length,flats_bytes,V.strip1,V.one,sizes_bytes,sizesOk,consume,E.weak,unV,sliceStep,boundOf,clip,indexAddrStep,indexStep,addrAdd,loadAt,placeOf,loadCs,cellE,storeAt,splice,E.cells?,V.cells,E.noMem,E.noLoc,E.noLp,callStep,vsOf,retE,V.flat,flats,St.obj,St.set,boxCells,Fr.loc_def,Fr.setLoc_def,E.part?,buildCells,buildSliceV,fillV,chunk,elemV,convV,vsOf,minMax,eqV,strBin,floatBin]
 have key:∃ T',evalD gS fi53 (evalFn gS (m+11)) (opsAt (codeAt (codeOf Try.f53) [true,true,true,false,false])).toList {ps:=[(0,.val (.ptr id 0)),(2,.val (.int .u64 0)),(3,.val (.int .u64 0)),(5,.any),(23,.any),(24,.any),(25,.any)],ts:=[],lc:=[]} st =
   some (F53 id 0 0 ((bs.take (k+8)).drop k) .any T'):=by
  simp only [codeAt,codeOf,Try.f53,Option.getD_some,if_true,Bool.false_eq_true,if_false,opsAt]
  simp only [St.obj] at ho
  have e2:((k+8:Nat):Int)≤(bs.length:Int):=by omega
  have e3:(k:Int)≤((k+8:Nat):Int):=by omega
  have e4:((((bs.take (k+8)).drop k).length:Nat):Int)=8:=by omega
  generalize hk8:k+8=k8 at *
  have e5:(0:Int)≤(k8:Int):=by omega
  have e6:(0:Int)≤(k:Int):=by omega
  have e7:k8≤bs.length:=by omega
  have e8:k≤k8:=by omega
  have e9:((byteVs bs).take k8).drop k=byteVs ((bs.take k8).drop k):=by rw [take_bytes,drop_bytes]
  have e10:((byteVs bs).drop k).take (k8 - k)=byteVs ((bs.take k8).drop k):=by rw [← List.drop_take];exact e9
  generalize (bs.take k8).drop k=l8 at *
  simp [-zia,evalD,stepQ,isQM,isQ,quietOp,E.still,F53,ty24,ty59,ty3,ty52,hm,hl,ho,ib_add,e1,e2,e3,e5,e6,e7,e8,e9,e10,h8,evalCode,evalOps,wantedE,stepM,frzM,frzStep,frzOut,nilRefs,nilRef,marked,stepE,stepOp,startFr,Fr.clear,mapR_eq,take,upE,E.calm,Fr.putO,Fr.put_def,Fr.map_def,Fr.raw_def,Fr.get_def,Fr.lend,Fr.op,lk,ins,lset,E.inval,constV,constVs,V.toE,builtinStep,lenE,elemsOf,okV,okE,E.v?,V.strip,binV,E.int?,E.bool?,appendStep,appended,baseOf,resultsOut,resultE,byteVs_length,flats_bytes,V.strip1,V.one,sizes_bytes,sizesOk,consume,E.weak,unV,sliceStep,boundOf,clip,indexAddrStep,indexStep,addrAdd,loadAt,placeOf,loadCs,cellE,storeAt,splice,E.cells?,V.cells,E.noMem,E.noLoc,E.noLp,callStep,vsOf,retE,V.flat,flats,St.obj,St.set,boxCells,Fr.loc_def,Fr.setLoc_def,E.part?,buildCells,buildSliceV,fillV,chunk,elemV,convV,vsOf,minMax,eqV,strBin,floatBin]
 obtain ⟨T4,hk4⟩:=key
 have hd:=evalD_ok (ops:=opsAt (codeAt (codeOf Try.f53) [true,true,true,false,false])) (strong_all all53) _ 0 _ _ hk4
 have s4:evalCode gS fi53 (evalFn gS (m+11)) (m+11) (codeAt (codeOf Try.f53) [true,true,true,false,false]) {ps:=[(0,.val (.ptr id 0)),(2,.val (.int .u64 0)),(3,.val (.int .u64 0)),(5,.any),(23,.any),(24,.any),(25,.any)],ts:=T3,lc:=[]} st =
   some (.normal,F53 id 0 0 ((bs.take (k+8)).drop k) .any T4,st):=by
  rw [reg53]
  simp only [evalCode,lex53,if_true]
  rw [show Fr.clear {ps:=[(0,.val (.ptr id 0)),(2,.val (.int .u64 0)),(3,.val (.int .u64 0)),(5,.any),(23,.any),(24,.any),(25,.any)],ts:=T3,lc:=[]}={ps:=[(0,.val (.ptr id 0)),(2,.val (.int .u64 0)),(3,.val (.int .u64 0)),(5,.any),(23,.any),(24,.any),(25,.any)],ts:=[],lc:=[]} from rfl,hd]
 obtain ⟨T5,e5,s5⟩:=loop53 (m+11) (m+11) id _ h8 st 8 0 0 (m+11) .any T4 (by omega) (by simp) (by omega)
 have s6:evalCode gS fi53 (evalFn gS (m+11)) (m+11) (.seq (codeAt (codeOf Try.f53) [true,true,true,false,false]) (.block 0 (.loop (codeAt (codeOf Try.f53) [true,true,true,false,true,true,true])))) {ps:=[(0,.val (.ptr id 0)),(2,.val (.int .u64 0)),(3,.val (.int .u64 0)),(5,.any),(23,.any),(24,.any),(25,.any)],ts:=T3,lc:=[]} st =
   some (.normal,F53 id (dig ((bs.take (k+8)).drop k) 0) 8 ((bs.take (k+8)).drop k) e5 T5,st):=by
  rw [seq_norm s4]
  simp only [evalCode]
  rw [s5]
  rw [List.drop_zero];rfl
 rw [evalFn];simp only [hrun,evalBody,fn53]
 rw [show fi53.body=codeOf Try.f53 from rfl,split53,start53,seq_norm s1,seq_norm s2,seq_norm s3,seq_norm s6]
 generalize dig ((bs.take (k+8)).drop k) 0=w
 generalize (bs.take (k+8)).drop k=l8
 simp only [codeAt,codeOf,Try.f53,Option.getD_some,if_true,Bool.false_eq_true,if_false,show fi53.results=[.tmp 2] from rfl]
 simp [F53,hm,hl,ty52,evalCode,evalOps,wantedE,stepM,frzM,frzStep,frzOut,nilRefs,nilRef,marked,stepE,stepOp,startFr,Fr.clear,mapR_eq,take,upE,E.calm,Fr.putO,Fr.put_def,Fr.map_def,Fr.raw_def,Fr.get_def,Fr.lend,Fr.op,lk,ins,lset,E.inval,constV,constVs,V.toE,builtinStep,lenE,elemsOf,okV,okE,E.v?,V.strip,binV,E.int?,E.bool?,appendStep,appended,baseOf,resultsOut,resultE,byteVs_length,flats_bytes,V.strip1,V.one,sizes_bytes,sizesOk,consume,E.weak,unV,sliceStep,boundOf,clip,indexAddrStep,indexStep,addrAdd,loadAt,placeOf,loadCs,cellE,storeAt,splice,E.cells?,V.cells,E.noMem,E.noLoc,E.noLp,callStep,vsOf,retE,V.flat,flats,St.obj,St.set,boxCells,Fr.loc_def,Fr.setLoc_def,E.part?,buildCells,buildSliceV,fillV,chunk,elemV,convV,vsOf,minMax,eqV,strBin,floatBin]
end Go.Proofs.Ytiiahehclbmodaa
namespace Go.Proofs.Ytiiahehclbmodaa
open Go Go.Ab
noncomputable def fi24:FI:={body:=codeOf Try.f24,ntmps:=15,results:=[.tmp 2],pers:=[0,2,3],locals:=[],pure:=false,marks:=[]}
theorem fn24:gS.fn 24=some fi24:=by kernel_rfl
theorem start24 (a:V):startFr fi24 [a]={ps:=[(0,.val a),(2,.any),(3,.any)],ts:=[],lc:=[]}:=rfl
set_option maxRecDepth 40000 in
theorem int24 (m id k:Nat)(bs:List UInt8)(st:St)(ho:st.obj id=some [.slice (byteVs bs),.int .i64 k])(hw:st.wp≤id)(hb:bs.length<2 ^ 48)(hk:k+8≤bs.length) :
  evalFn gS (m+13) 24 [.ptr id 0] st=some (.ret (.int .i64 (IntKind.wrap .i64 (dig ((bs.take (k+8)).drop k) 0))) none,{st with objs:=st.objs.set id [.slice (byteVs bs),.int .i64 ((k+8:Nat):Int)]}):=by
 have h53:=bits53 m id k bs st ho hb hk
 have hm:fi24.marks=[]:=rfl
 have hl:fi24.locals=[]:=rfl
 have e1:IntKind.wrap .i64 ((k:Int)+8)=((k+8:Nat):Int):=by rw [wrap64 (by omega) (by omega)];omega
 generalize dig ((bs.take (k+8)).drop k) 0=w at *
 rw [evalFn];simp only [hrun,evalBody,fn24]
 rw [start24]
 simp only [show fi24.body=codeOf Try.f24 from rfl,codeOf,Try.f24,Option.getD_some,show fi24.results=[.tmp 2] from rfl]
 simp only [St.obj] at ho
 simp [-zia,gext,fn53,show fi53.pure=false from rfl,h53,ty2,ty3,ty52,ty59,hm,hl,ho,hw,ib_add,e1,evalCode,evalOps,wantedE,stepM,frzM,frzStep,frzOut,nilRefs,nilRef,marked,stepE,stepOp,startFr,Fr.clear,mapR_eq,take,upE,E.calm,Fr.putO,Fr.put_def,Fr.map_def,Fr.raw_def,Fr.get_def,Fr.lend,Fr.op,lk,ins,lset,E.inval,constV,constVs,V.toE,builtinStep,lenE,elemsOf,okV,okE,E.v?,V.strip,binV,E.int?,E.bool?,appendStep,appended,baseOf,resultsOut,resultE,byteVs_length,flats_bytes,V.strip1,V.one,sizes_bytes,sizesOk,consume,E.weak,unV,sliceStep,boundOf,clip,indexAddrStep,indexStep,addrAdd,loadAt,placeOf,loadCs,cellE,storeAt,splice,E.cells?,V.cells,E.noMem,E.noLoc,E.noLp,callStep,vsOf,retE,V.flat,flats,St.obj,St.set,boxCells,Fr.loc_def,Fr.setLoc_def,E.part?,buildCells,buildSliceV,fillV,chunk,elemV,convV,vsOf,minMax,eqV,strBin,floatBin]
noncomputable def fi60:FI:={body:=codeOf Try.f60,ntmps:=12,results:=[.tmp 2,.tmp 3],pers:=[0,2,3,4],locals:=[],pure:=true,marks:=[]}
theorem fn60:gS.fn 60=some fi60:=by kernel_rfl
theorem start60 (a:V):startFr fi60 [a]={ps:=[(0,.val a),(2,.any),(3,.any),(4,.any)],ts:=[],lc:=[]}:=rfl
theorem g58:gS.fn 58=some (fiOf 58):=by kernel_rfl
theorem q58:(fiOf 58).pure=true:=by kernel_rfl
set_option maxRecDepth 40000 in
theorem of60 (m w:Nat)(h:bitsOf w=w)(st:St):evalFn gS (m+3) 60 [.int .u64 w] st=some (.ret (.tuple [.float .f64 w,.bool true]) none,st):=by
 have h58:=bits58 m w
 rw [h] at h58
 have hm:fi60.marks=[]:=rfl
 have hl:fi60.locals=[]:=rfl
 rw [evalFn];simp only [hrun,evalBody,fn60]
 rw [start60]
 simp only [show fi60.body=codeOf Try.f60 from rfl,codeOf,Try.f60,Option.getD_some,show fi60.results=[.tmp 2,.tmp 3] from rfl]
 simp [gext,g58,q58,h58,extV,ty38',ty52,hm,hl,ib_neq,evalCode,evalOps,wantedE,stepM,frzM,frzStep,frzOut,nilRefs,nilRef,marked,stepE,stepOp,startFr,Fr.clear,mapR_eq,take,upE,E.calm,Fr.putO,Fr.put_def,Fr.map_def,Fr.raw_def,Fr.get_def,Fr.lend,Fr.op,lk,ins,lset,E.inval,constV,constVs,V.toE,builtinStep,lenE,elemsOf,okV,okE,E.v?,V.strip,binV,E.int?,E.bool?,appendStep,appended,baseOf,resultsOut,resultE,byteVs_length,flats_bytes,V.strip1,V.one,sizes_bytes,sizesOk,consume,E.weak,unV,sliceStep,boundOf,clip,indexAddrStep,indexStep,addrAdd,loadAt,placeOf,loadCs,cellE,storeAt,splice,E.cells?,V.cells,E.noMem,E.noLoc,E.noLp,callStep,vsOf,retE,V.flat,flats,St.obj,St.set,boxCells,Fr.loc_def,Fr.setLoc_def,E.part?,buildCells,buildSliceV,fillV,chunk,elemV,convV,vsOf,minMax,eqV,strBin,floatBin]
noncomputable def fi38:FI:={body:=codeOf Try.f38,ntmps:=21,results:=[.tmp 2],pers:=[0,2,3,4],locals:=[],pure:=false,marks:=[]}
theorem fn38:gS.fn 38=some fi38:=by kernel_rfl
theorem start38 (a:V):startFr fi38 [a]={ps:=[(0,.val a),(2,.any),(3,.any),(4,.any)],ts:=[],lc:=[]}:=rfl
set_option maxRecDepth 40000 in
theorem float38 (m id k:Nat)(bs:List UInt8)(st:St)(ho:st.obj id=some [.slice (byteVs bs),.int .i64 k])(hw:st.wp≤id)(hb:bs.length<2 ^ 48)(hk:k+8≤bs.length)(hx:bitsOf (dig ((bs.take (k+8)).drop k) 0)=dig ((bs.take (k+8)).drop k) 0) :
  evalFn gS (m+13) 38 [.ptr id 0] st=some (.ret (.float .f64 (dig ((bs.take (k+8)).drop k) 0)) none,{st with objs:=st.objs.set id [.slice (byteVs bs),.int .i64 ((k+8:Nat):Int)]}):=by
 have h53:=bits53 m id k bs st ho hb hk
 have h60:=of60 (m+9) _ hx
 have hn:=need_ok (m+10) 3
 have hm:fi38.marks=[]:=rfl
 have hl:fi38.locals=[]:=rfl
 have e1:IntKind.wrap .i64 ((k:Int)+8)=((k+8:Nat):Int):=by rw [wrap64 (by omega) (by omega)];omega
 generalize dig ((bs.take (k+8)).drop k) 0=w at *
 rw [evalFn];simp only [hrun,evalBody,fn38]
 rw [start38]
 simp only [show fi38.body=codeOf Try.f38 from rfl,codeOf,Try.f38,Option.getD_some,show fi38.results=[.tmp 2] from rfl]
 simp only [St.obj] at ho
 simp [-zia,gext,fn53,show fi53.pure=false from rfl,fn60,show fi60.pure=true from rfl,h53,h60,fn14,mkFI,Try.f14,hn,ty2,ty3,ty38',ty52,ty59,hm,hl,ho,hw,ib_add,e1,evalCode,evalOps,wantedE,stepM,frzM,frzStep,frzOut,nilRefs,nilRef,marked,stepE,stepOp,startFr,Fr.clear,mapR_eq,take,upE,E.calm,Fr.putO,Fr.put_def,Fr.map_def,Fr.raw_def,Fr.get_def,Fr.lend,Fr.op,lk,ins,lset,E.inval,constV,constVs,V.toE,builtinStep,lenE,elemsOf,okV,okE,E.v?,V.strip,binV,E.int?,E.bool?,appendStep,appended,baseOf,resultsOut,resultE,byteVs_length,flats_bytes,V.strip1,V.one,sizes_bytes,sizesOk,consume,E.weak,unV,sliceStep,boundOf,clip,indexAddrStep,indexStep,addrAdd,loadAt,placeOf,loadCs,cellE,storeAt,splice,E.cells?,V.cells,E.noMem,E.noLoc,E.noLp,callStep,vsOf,retE,V.flat,flats,St.obj,St.set,boxCells,Fr.loc_def,Fr.setLoc_def,E.part?,buildCells,buildSliceV,fillV,chunk,elemV,convV,vsOf,minMax,eqV,strBin,floatBin]
end Go.Proofs.Ytiiahehclbmodaa
namespace Go.Proofs.Ytiiahehclbmodaa
open Go Go.Ab
noncomputable def fi17:FI:={body:=codeOf Try.f17,ntmps:=48,results:=[.tmp 4],pers:=[0,1,4,5,6],locals:=[],pure:=false,marks:=[]}
theorem fn17:gS.fn 17=some fi17:=by kernel_rfl
theorem start17 (a b:V):startFr fi17 [a,b]={ps:=[(0,.val a),(1,.val b),(4,.any),(5,.any),(6,.any)],ts:=[],lc:=[]}:=rfl
theorem split17:codeOf Try.f17=.seq (codeAt (codeOf Try.f17) [false]) (.seq (codeAt (codeOf Try.f17) [true,false]) (.seq (codeAt (codeOf Try.f17) [true,true,false]) (.seq (codeAt (codeOf Try.f17) [true,true,true,false]) (.seq (codeAt (codeOf Try.f17) [true,true,true,true,false]) (.seq (codeAt (codeOf Try.f17) [true,true,true,true,true,false]) .ret))))):=by kernel_rfl
theorem reg17:codeAt (codeOf Try.f17) [true,true,true,true,true,false]=.region 5 (opsAt (codeAt (codeOf Try.f17) [true,true,true,true,true,false])) true:=by kernel_rfl
theorem lex17:Region.lexB .any (opsAt (codeAt (codeOf Try.f17) [true,true,true,true,true,false]))=true:=by kernel_rfl
theorem all17:(opsAt (codeAt (codeOf Try.f17) [true,true,true,true,true,false])).toList.all (isQM gS fi17)=true:=by kernel_rfl
def F17 (id:Nat)(most:Int)(e4 e5 e6:E)(T:List (Nat × E)):Fr:={ps:=[(0,.val (.ptr id 0)),(1,.val (.int .i64 most)),(4,e4),(5,e5),(6,e6)],ts:=T,lc:=[]}
set_option maxRecDepth 40000 in
theorem head17 (m id k n at':Nat)(most:Int)(bs:List UInt8)(st:St)(ho:st.obj id=some [.slice (byteVs bs),.int .i64 k])(X:Code)
  (h49:evalFn gS (m+12) 49 [.ptr id 0,.int .i64 k] st=some (.ret (.tuple [.int .i64 n,.int .i64 at']) none,st)) :
  ∃ T,evalCode gS fi17 (evalFn gS (m+12)) (m+12) (.seq (codeAt (codeOf Try.f17) [false]) (.seq (codeAt (codeOf Try.f17) [true,false]) X)) {ps:=[(0,.val (.ptr id 0)),(1,.val (.int .i64 most)),(4,.any),(5,.any),(6,.any)],ts:=[],lc:=[]} st =
   evalCode gS fi17 (evalFn gS (m+12)) (m+12) X (F17 id most (.val (.str [])) (.val (.int .i64 n)) (.val (.int .i64 at')) T) st:=by
 have hm:fi17.marks=[]:=rfl
 have hl:fi17.locals=[]:=rfl
 obtain ⟨T1,s1⟩:∃ T,evalCode gS fi17 (evalFn gS (m+12)) (m+12) (codeAt (codeOf Try.f17) [false]) {ps:=[(0,.val (.ptr id 0)),(1,.val (.int .i64 most)),(4,.any),(5,.any),(6,.any)],ts:=[],lc:=[]} st =
   some (.normal,F17 id most (.val (.str [])) .any .any T,st):=by
  simp only [codeAt,codeOf,Try.f17,Option.getD_some,if_true,Bool.false_eq_true,if_false]
  simp [F17,ty9,hm,hl,evalCode,evalOps,wantedE,stepM,frzM,frzStep,frzOut,nilRefs,nilRef,marked,stepE,stepOp,startFr,Fr.clear,mapR_eq,take,upE,E.calm,Fr.putO,Fr.put_def,Fr.map_def,Fr.raw_def,Fr.get_def,Fr.lend,Fr.op,lk,ins,lset,E.inval,constV,constVs,V.toE,builtinStep,lenE,elemsOf,okV,okE,E.v?,V.strip,binV,E.int?,E.bool?,appendStep,appended,baseOf,resultsOut,resultE,byteVs_length,flats_bytes,V.strip1,V.one,sizes_bytes,sizesOk,consume,E.weak,unV,sliceStep,boundOf,clip,indexAddrStep,indexStep,addrAdd,loadAt,placeOf,loadCs,cellE,storeAt,splice,E.cells?,V.cells,E.noMem,E.noLoc,E.noLp,callStep,vsOf,retE,V.flat,flats,St.obj,St.set,boxCells,Fr.loc_def,Fr.setLoc_def,E.part?,buildCells,buildSliceV,fillV,chunk,elemV,convV,vsOf,minMax,eqV,strBin,floatBin]
 obtain ⟨T2,s2⟩:∃ T,evalCode gS fi17 (evalFn gS (m+12)) (m+12) (codeAt (codeOf Try.f17) [true,false]) (F17 id most (.val (.str [])) .any .any T1) st =
   some (.normal,F17 id most (.val (.str [])) (.val (.int .i64 n)) (.val (.int .i64 at')) T,st):=by
  simp only [St.obj] at ho
  simp only [codeAt,codeOf,Try.f17,Option.getD_some,if_true,Bool.false_eq_true,if_false]
  simp [-zia,F17,gext,fn49,show fi49.pure=false from rfl,h49,ty3,ty59,ho,hm,hl,evalCode,evalOps,wantedE,stepM,frzM,frzStep,frzOut,nilRefs,nilRef,marked,stepE,stepOp,startFr,Fr.clear,mapR_eq,take,upE,E.calm,Fr.putO,Fr.put_def,Fr.map_def,Fr.raw_def,Fr.get_def,Fr.lend,Fr.op,lk,ins,lset,E.inval,constV,constVs,V.toE,builtinStep,lenE,elemsOf,okV,okE,E.v?,V.strip,binV,E.int?,E.bool?,appendStep,appended,baseOf,resultsOut,resultE,byteVs_length,flats_bytes,V.strip1,V.one,sizes_bytes,sizesOk,consume,E.weak,unV,sliceStep,boundOf,clip,indexAddrStep,indexStep,addrAdd,loadAt,placeOf,loadCs,cellE,storeAt,splice,E.cells?,V.cells,E.noMem,E.noLoc,E.noLp,callStep,vsOf,retE,V.flat,flats,St.obj,St.set,boxCells,Fr.loc_def,Fr.setLoc_def,E.part?,buildCells,buildSliceV,fillV,chunk,elemV,convV,vsOf,minMax,eqV,strBin,floatBin]
 exact ⟨T2,by rw [seq_norm s1,seq_norm s2]⟩
set_option maxRecDepth 40000 in
theorem text17 (m id k n at':Nat)(most:Int)(bs:List UInt8)(st:St)(ho:st.obj id=some [.slice (byteVs bs),.int .i64 k])(hw:st.wp≤id)(hb:bs.length<2 ^ 48)
  (h49:evalFn gS (m+12) 49 [.ptr id 0,.int .i64 k] st=some (.ret (.tuple [.int .i64 n,.int .i64 at']) none,st)) (h1:(n:Int)≤max most 0) (h2:at'+n≤bs.length) :
  evalFn gS (m+13) 17 [.ptr id 0,.int .i64 most] st=some (.ret (.str ((bs.take (at'+n)).drop at')) none,{st with objs:=st.objs.set id [.slice (byteVs bs),.int .i64 ((at'+n:Nat):Int)]}):=by
 have hm:fi17.marks=[]:=rfl
 have hl:fi17.locals=[]:=rfl
 have hn:=fun e=>need_ok (m+10) e
 have e1:(n:Int)≤if most<0 then 0 else most:=by split <;> omega
 have e2:IntKind.wrap .i64 ((bs.length:Int) - (at':Int))=(bs.length:Int) - (at':Int):=wrap64 (by omega) (by omega)
 have e3:(n:Int)≤(bs.length:Int) - (at':Int):=by omega
 have e4:IntKind.wrap .i64 ((at':Int)+(n:Int))=((at'+n:Nat):Int):=by rw [wrap64 (by omega) (by omega)];omega
 have hlen:id<st.objs.length:=(List.getElem?_eq_some_iff.1 ho).1
 obtain ⟨T1,s1⟩:=head17 m id k n at' most bs st ho (.seq (codeAt (codeOf Try.f17) [true,true,false]) (.seq (codeAt (codeOf Try.f17) [true,true,true,false]) (.seq (codeAt (codeOf Try.f17) [true,true,true,true,false]) (.seq (codeAt (codeOf Try.f17) [true,true,true,true,true,false]) .ret)))) h49
 obtain ⟨T2,s2⟩:∃ T,evalCode gS fi17 (evalFn gS (m+12)) (m+12) (codeAt (codeOf Try.f17) [true,true,false]) (F17 id most (.val (.str [])) (.val (.int .i64 n)) (.val (.int .i64 at')) T1) st =
   some (.normal,F17 id most (.val (.str [])) (.val (.int .i64 n)) (.val (.int .i64 at')) T,st):=by
  simp only [codeAt,codeOf,Try.f17,Option.getD_some,if_true,Bool.false_eq_true,if_false]
  simp [-zia,F17,gext,fn14,mkFI,Try.f14,hn,ty3,hm,hl,ib_leq,e1,evalCode,evalOps,wantedE,stepM,frzM,frzStep,frzOut,nilRefs,nilRef,marked,stepE,stepOp,startFr,Fr.clear,mapR_eq,take,upE,E.calm,Fr.putO,Fr.put_def,Fr.map_def,Fr.raw_def,Fr.get_def,Fr.lend,Fr.op,lk,ins,lset,E.inval,constV,constVs,V.toE,builtinStep,lenE,elemsOf,okV,okE,E.v?,V.strip,binV,E.int?,E.bool?,appendStep,appended,baseOf,resultsOut,resultE,byteVs_length,flats_bytes,V.strip1,V.one,sizes_bytes,sizesOk,consume,E.weak,unV,sliceStep,boundOf,clip,indexAddrStep,indexStep,addrAdd,loadAt,placeOf,loadCs,cellE,storeAt,splice,E.cells?,V.cells,E.noMem,E.noLoc,E.noLp,callStep,vsOf,retE,V.flat,flats,St.obj,St.set,boxCells,Fr.loc_def,Fr.setLoc_def,E.part?,buildCells,buildSliceV,fillV,chunk,elemV,convV,vsOf,minMax,eqV,strBin,floatBin]
 obtain ⟨T3,s3⟩:∃ T,evalCode gS fi17 (evalFn gS (m+12)) (m+12) (codeAt (codeOf Try.f17) [true,true,true,false]) (F17 id most (.val (.str [])) (.val (.int .i64 n)) (.val (.int .i64 at')) T2) st =
   some (.normal,F17 id most (.val (.str [])) (.val (.int .i64 n)) (.val (.int .i64 at')) T,st):=by
  simp only [St.obj] at ho
  simp only [codeAt,codeOf,Try.f17,Option.getD_some,if_true,Bool.false_eq_true,if_false]
  simp [-zia,F17,gext,fn14,mkFI,Try.f14,hn,ty3,ty24,ty59,ho,hm,hl,ib_leq,ib_sub,e2,e3,evalCode,evalOps,wantedE,stepM,frzM,frzStep,frzOut,nilRefs,nilRef,marked,stepE,stepOp,startFr,Fr.clear,mapR_eq,take,upE,E.calm,Fr.putO,Fr.put_def,Fr.map_def,Fr.raw_def,Fr.get_def,Fr.lend,Fr.op,lk,ins,lset,E.inval,constV,constVs,V.toE,builtinStep,lenE,elemsOf,okV,okE,E.v?,V.strip,binV,E.int?,E.bool?,appendStep,appended,baseOf,resultsOut,resultE,byteVs_length,flats_bytes,V.strip1,V.one,sizes_bytes,sizesOk,consume,E.weak,unV,sliceStep,boundOf,clip,indexAddrStep,indexStep,addrAdd,loadAt,placeOf,loadCs,cellE,storeAt,splice,E.cells?,V.cells,E.noMem,E.noLoc,E.noLp,callStep,vsOf,retE,V.flat,flats,St.obj,St.set,boxCells,Fr.loc_def,Fr.setLoc_def,E.part?,buildCells,buildSliceV,fillV,chunk,elemV,convV,vsOf,minMax,eqV,strBin,floatBin]
 obtain ⟨T4,s4⟩:∃ T,evalCode gS fi17 (evalFn gS (m+12)) (m+12) (codeAt (codeOf Try.f17) [true,true,true,true,false]) (F17 id most (.val (.str [])) (.val (.int .i64 n)) (.val (.int .i64 at')) T3) st =
   some (.normal,F17 id most (.val (.str [])) (.val (.int .i64 n)) (.val (.int .i64 at')) T,{st with objs:=st.objs.set id [.slice (byteVs bs),.int .i64 ((at'+n:Nat):Int)]}):=by
  simp only [St.obj] at ho
  simp only [codeAt,codeOf,Try.f17,Option.getD_some,if_true,Bool.false_eq_true,if_false]
  simp [-zia,F17,ty3,ty59,ho,hw,hm,hl,ib_add,e4,evalCode,evalOps,wantedE,stepM,frzM,frzStep,frzOut,nilRefs,nilRef,marked,stepE,stepOp,startFr,Fr.clear,mapR_eq,take,upE,E.calm,Fr.putO,Fr.put_def,Fr.map_def,Fr.raw_def,Fr.get_def,Fr.lend,Fr.op,lk,ins,lset,E.inval,constV,constVs,V.toE,builtinStep,lenE,elemsOf,okV,okE,E.v?,V.strip,binV,E.int?,E.bool?,appendStep,appended,baseOf,resultsOut,resultE,byteVs_length,flats_bytes,V.strip1,V.one,sizes_bytes,sizesOk,consume,E.weak,unV,sliceStep,boundOf,clip,indexAddrStep,indexStep,addrAdd,loadAt,placeOf,loadCs,cellE,storeAt,splice,E.cells?,V.cells,E.noMem,E.noLoc,E.noLp,callStep,vsOf,retE,V.flat,flats,St.obj,St.set,boxCells,Fr.loc_def,Fr.setLoc_def,E.part?,buildCells,buildSliceV,fillV,chunk,elemV,convV,vsOf,minMax,eqV,strBin,floatBin]
 have key:∃ T',evalD gS fi17 (evalFn gS (m+12)) (opsAt (codeAt (codeOf Try.f17) [true,true,true,true,true,false])).toList (F17 id most (.val (.str [])) (.val (.int .i64 n)) (.val (.int .i64 at')) []) {st with objs:=st.objs.set id [.slice (byteVs bs),.int .i64 ((at'+n:Nat):Int)]} =
   some (F17 id most (.val (.str ((bs.take (at'+n)).drop at'))) (.val (.int .i64 n)) (.val (.int .i64 at')) T'):=by
  have e5:(at':Int)≤((at'+n:Nat):Int):=by omega
  have e6:((at'+n:Nat):Int)≤(bs.length:Int):=by omega
  have e7:(0:Int)≤((at'+n:Nat):Int):=by omega
  have e9:((byteVs bs).take (at'+n)).drop at'=byteVs ((bs.take (at'+n)).drop at'):=by rw [take_bytes,drop_bytes]
  have e10:at'≤at'+n:=by omega
  generalize at'+n=w at *
  have e11:((byteVs bs).drop at').take (w - at')=byteVs ((bs.take w).drop at'):=by rw [← List.drop_take];exact e9
  generalize (bs.take w).drop at'=l8 at *
  simp only [codeAt,codeOf,Try.f17,Option.getD_some,if_true,Bool.false_eq_true,if_false,opsAt]
  simp [-zia,evalD,stepQ,isQM,isQ,quietOp,E.still,F17,ty24,ty59,ty3,ty9,u24,hlen,hm,hl,e5,e6,e7,e9,e10,e11,h2,bytes_of,evalCode,evalOps,wantedE,stepM,frzM,frzStep,frzOut,nilRefs,nilRef,marked,stepE,stepOp,startFr,Fr.clear,mapR_eq,take,upE,E.calm,Fr.putO,Fr.put_def,Fr.map_def,Fr.raw_def,Fr.get_def,Fr.lend,Fr.op,lk,ins,lset,E.inval,constV,constVs,V.toE,builtinStep,lenE,elemsOf,okV,okE,E.v?,V.strip,binV,E.int?,E.bool?,appendStep,appended,baseOf,resultsOut,resultE,byteVs_length,flats_bytes,V.strip1,V.one,sizes_bytes,sizesOk,consume,E.weak,unV,sliceStep,boundOf,clip,indexAddrStep,indexStep,addrAdd,loadAt,placeOf,loadCs,cellE,storeAt,splice,E.cells?,V.cells,E.noMem,E.noLoc,E.noLp,callStep,vsOf,retE,V.flat,flats,St.obj,St.set,boxCells,Fr.loc_def,Fr.setLoc_def,E.part?,buildCells,buildSliceV,fillV,chunk,elemV,convV,vsOf,minMax,eqV,strBin,floatBin]
 obtain ⟨T5,hk5⟩:=key
 have hd:=evalD_ok (ops:=opsAt (codeAt (codeOf Try.f17) [true,true,true,true,true,false])) (strong_all all17) _ 0 _ _ hk5
 have s5:evalCode gS fi17 (evalFn gS (m+12)) (m+12) (codeAt (codeOf Try.f17) [true,true,true,true,true,false]) (F17 id most (.val (.str [])) (.val (.int .i64 n)) (.val (.int .i64 at')) T4) {st with objs:=st.objs.set id [.slice (byteVs bs),.int .i64 ((at'+n:Nat):Int)]} =
   some (.normal,F17 id most (.val (.str ((bs.take (at'+n)).drop at'))) (.val (.int .i64 n)) (.val (.int .i64 at')) T5,{st with objs:=st.objs.set id [.slice (byteVs bs),.int .i64 ((at'+n:Nat):Int)]}):=by
  rw [reg17]
  simp only [evalCode,lex17,if_true]
  rw [show Fr.clear (F17 id most (.val (.str [])) (.val (.int .i64 n)) (.val (.int .i64 at')) T4)=F17 id most (.val (.str [])) (.val (.int .i64 n)) (.val (.int .i64 at')) [] from rfl,hd]
 rw [evalFn];simp only [hrun,evalBody,fn17]
 rw [show fi17.body=codeOf Try.f17 from rfl,split17,start17,s1,seq_norm s2,seq_norm s3,seq_norm s4,seq_norm s5]
 simp only [evalCode]
 simp [show fi17.results=[.tmp 4] from rfl,hm,F17,evalCode,evalOps,wantedE,stepM,frzM,frzStep,frzOut,nilRefs,nilRef,marked,stepE,stepOp,startFr,Fr.clear,mapR_eq,take,upE,E.calm,Fr.putO,Fr.put_def,Fr.map_def,Fr.raw_def,Fr.get_def,Fr.lend,Fr.op,lk,ins,lset,E.inval,constV,constVs,V.toE,builtinStep,lenE,elemsOf,okV,okE,E.v?,V.strip,binV,E.int?,E.bool?,appendStep,appended,baseOf,resultsOut,resultE,byteVs_length,flats_bytes,V.strip1,V.one,sizes_bytes,sizesOk,consume,E.weak,unV,sliceStep,boundOf,clip,indexAddrStep,indexStep,addrAdd,loadAt,placeOf,loadCs,cellE,storeAt,splice,E.cells?,V.cells,E.noMem,E.noLoc,E.noLp,callStep,vsOf,retE,V.flat,flats,St.obj,St.set,boxCells,Fr.loc_def,Fr.setLoc_def,E.part?,buildCells,buildSliceV,fillV,chunk,elemV,convV,vsOf,minMax,eqV,strBin,floatBin]
end Go.Proofs.Ytiiahehclbmodaa
namespace Go.Proofs.Ytiiahehclbmodaa
open Go Go.Ab
noncomputable def fi48:FI:={body:=codeOf Try.f48,ntmps:=5,results:=[],pers:=[0,1],locals:=[],pure:=false,marks:=[]}
theorem fn48:gS.fn 48=some fi48:=by kernel_rfl
theorem start48 (a b:V):startFr fi48 [a,b]={ps:=[(0,.val a),(1,.val b)],ts:=[],lc:=[]}:=rfl
theorem ty25:gS.ty 25=some {k:=.pointer,size:=1,agg:=false,zero:=[.nilp]}:=by kernel_rfl
theorem ty27:gS.ty 27=some {k:=.func,size:=1,agg:=false,zero:=[.nilf]}:=by kernel_rfl
set_option maxRecDepth 40000 in
theorem clos48 (m a b r h:Nat)(first cap:List V)(fi:FI)(hfi:gS.fn h=some fi)(hp:fi.pure=false)(hx:gS.ext h=none)(st st':St)(o:Out)
  (ha:st.obj a=some [.func h first cap]) (hb:st.obj b=some [.ptr r 0]) (hv:∀ v k,o=.ret v k→v=.tuple []∧k=none) (hc:evalFn gS m h (first ++ .ptr r 0 :: cap) st=some (o,st')) :
  evalFn gS (m+1) 48 [.ptr a 0,.ptr b 0] st=some (o,st'):=by
 have hm:fi48.marks=[]:=rfl
 have hl:fi48.locals=[]:=rfl
 rw [evalFn];simp only [hrun,evalBody,fn48]
 rw [start48]
 simp only [show fi48.body=codeOf Try.f48 from rfl,codeOf,Try.f48,Option.getD_some,show fi48.results=[] from rfl]
 simp only [St.obj] at ha hb
 cases o with
 | ret v k =>
  obtain ⟨rfl,rfl⟩:=hv v k rfl
  simp [hx,hfi,hp,hc,ty25,ty27,ha,hb,hm,hl,evalCode,evalOps,wantedE,stepM,frzM,frzStep,frzOut,nilRefs,nilRef,marked,stepE,stepOp,startFr,Fr.clear,mapR_eq,take,upE,E.calm,Fr.putO,Fr.put_def,Fr.map_def,Fr.raw_def,Fr.get_def,Fr.lend,Fr.op,lk,ins,lset,E.inval,constV,constVs,V.toE,builtinStep,lenE,elemsOf,okV,okE,E.v?,V.strip,binV,E.int?,E.bool?,appendStep,appended,baseOf,resultsOut,resultE,byteVs_length,flats_bytes,V.strip1,V.one,sizes_bytes,sizesOk,consume,E.weak,unV,sliceStep,boundOf,clip,indexAddrStep,indexStep,addrAdd,loadAt,placeOf,loadCs,cellE,storeAt,splice,E.cells?,V.cells,E.noMem,E.noLoc,E.noLp,callStep,vsOf,retE,V.flat,flats,St.obj,St.set,boxCells,Fr.loc_def,Fr.setLoc_def,E.part?,buildCells,buildSliceV,fillV,chunk,elemV,convV,vsOf,minMax,eqV,strBin,floatBin]
 | pan v =>
  simp [hx,hfi,hp,hc,ty25,ty27,ha,hb,hm,hl,evalCode,evalOps,wantedE,stepM,frzM,frzStep,frzOut,nilRefs,nilRef,marked,stepE,stepOp,startFr,Fr.clear,mapR_eq,take,upE,E.calm,Fr.putO,Fr.put_def,Fr.map_def,Fr.raw_def,Fr.get_def,Fr.lend,Fr.op,lk,ins,lset,E.inval,constV,constVs,V.toE,builtinStep,lenE,elemsOf,okV,okE,E.v?,V.strip,binV,E.int?,E.bool?,appendStep,appended,baseOf,resultsOut,resultE,byteVs_length,flats_bytes,V.strip1,V.one,sizes_bytes,sizesOk,consume,E.weak,unV,sliceStep,boundOf,clip,indexAddrStep,indexStep,addrAdd,loadAt,placeOf,loadCs,cellE,storeAt,splice,E.cells?,V.cells,E.noMem,E.noLoc,E.noLp,callStep,vsOf,retE,V.flat,flats,St.obj,St.set,boxCells,Fr.loc_def,Fr.setLoc_def,E.part?,buildCells,buildSliceV,fillV,chunk,elemV,convV,vsOf,minMax,eqV,strBin,floatBin]
def caught:Out→V
 | .pan (.iface _ (.int _ e))=>.int .i64 e
 | _=>.int .i64 0
theorem run47 (m a b r h:Nat)(first cap:List V)(fi:FI)(hfi:gS.fn h=some fi)(hp:fi.pure=false)(hx:gS.ext h=none)(st st':St)(o:Out)
  (ha:st.obj a=some [.func h first cap]) (hb:st.obj b=some [.ptr r 0]) (hv:o=.ret (.tuple []) none∨∃ e,o=.pan (.iface 22 (.int .i64 e))) (hc:evalFn gS m h (first ++ .ptr r 0 :: cap) st=some (o,st')) :
  evalFn gS (m+2) 47 [.func 48 [] [.ptr a 0,.ptr b 0]] st=some (.ret (caught o) none,st'):=by
 have h48:=clos48 m a b r h first cap fi hfi hp hx st st' o ha hb (by rintro v k rfl;rcases hv with hv | ⟨e,hv⟩ <;> cases hv;exact ⟨rfl,rfl⟩) hc
 rw [evalFn];simp only [hrun]
 rcases hv with rfl | ⟨e,rfl⟩ <;> simp [runFn,h48,caught]
noncomputable def fi8:FI:={body:=codeOf Try.f8,ntmps:=21,results:=[.tmp 4],pers:=[0,1,3,4,5,6],locals:=[],pure:=false,marks:=[]}
theorem fn8:gS.fn 8=some fi8:=by kernel_rfl
theorem fn47:∃ fi,gS.fn 47=some fi∧fi.pure=false:=⟨fiOf 47,by kernel_rfl,by kernel_rfl⟩
theorem start8 (a b:V):startFr fi8 [a,b]={ps:=[(0,.val a),(1,.val b),(3,.any),(4,.any),(5,.any),(6,.any)],ts:=[],lc:=[]}:=rfl
def rdSt (st:St)(bs:List UInt8)(h:Nat)(first cap:List V):St:={st with objs:=st.objs ++ [[.func h first cap],[.slice (byteVs bs),.int .i64 0],[.ptr (st.objs.length+1) 0]]}
set_option maxRecDepth 40000 in
theorem read8_ok (m h:Nat)(first cap:List V)(fi:FI)(hfi:gS.fn h=some fi)(hp:fi.pure=false)(hx:gS.ext h=none)(bs:List UInt8)(k:Nat)(hb:bs.length<2 ^ 47)(hk0:k≤bs.length)(st st':St)(hw:st.wp≤st.objs.length)
  (hc:evalFn gS (m+2) h (first ++ .ptr (st.objs.length+1) 0 :: cap) (rdSt st bs h first cap)=some (.ret (.tuple []) none,st')) (h1:st'.obj (st.objs.length+1)=some [.slice (byteVs bs),.int .i64 k]) (h2:st'.obj (st.objs.length+2)=some [.ptr (st.objs.length+1) 0]) :
  evalFn gS (m+5) 8 [.slice (byteVs bs),.func h first cap] st=some (.ret (.int .i64 (if k=bs.length then 0 else 3)) none,st'):=by
 have hm:fi8.marks=[]:=rfl
 have hl:fi8.locals=[]:=rfl
 obtain ⟨fi47,g47,p47⟩:=fn47
 have h47:=run47 (m+2) st.objs.length (st.objs.length+2) (st.objs.length+1) h first cap fi hfi hp hx (rdSt st bs h first cap) st' _ (by simp [rdSt,St.obj]) (by simp [rdSt,St.obj,List.getElem?_append]) (.inl rfl) hc
 have h15:=left15 (m+3) bs (st.objs.length+1) k hk0 (by omega) st' h1
 simp only [rdSt,caught] at h47
 have hk:bs.length≤140737488355328:=by omega
 have hw2:st.wp≤st.objs.length+2:=by omega
 simp only [St.obj] at h1 h2
 rw [evalFn];simp only [hrun,evalBody,fn8]
 rw [start8]
 simp only [show fi8.body=codeOf Try.f8 from rfl,codeOf,Try.f8,Option.getD_some,show fi8.results=[.tmp 4] from rfl]
 by_cases hkk:k=bs.length
 ·have e1:¬ 0<bs.length - k:=by omega
  generalize bs.length - k=w at *
  simp [gext,g47,p47,h47,h15,fn15,show fi15.pure=false from rfl,h1,h2,e1,hk,hkk,hw2,ty25,ty27,ty24,ty59,ty22,ty3,ib_neq,ib_gtr,hm,hl,evalCode,evalOps,wantedE,stepM,frzM,frzStep,frzOut,nilRefs,nilRef,marked,stepE,stepOp,startFr,Fr.clear,mapR_eq,take,upE,E.calm,Fr.putO,Fr.put_def,Fr.map_def,Fr.raw_def,Fr.get_def,Fr.lend,Fr.op,lk,ins,lset,E.inval,constV,constVs,V.toE,builtinStep,lenE,elemsOf,okV,okE,E.v?,V.strip,binV,E.int?,E.bool?,appendStep,appended,baseOf,resultsOut,resultE,byteVs_length,flats_bytes,V.strip1,V.one,sizes_bytes,sizesOk,consume,E.weak,unV,sliceStep,boundOf,clip,indexAddrStep,indexStep,addrAdd,loadAt,placeOf,loadCs,cellE,storeAt,splice,E.cells?,V.cells,E.noMem,E.noLoc,E.noLp,callStep,vsOf,retE,V.flat,flats,St.obj,St.set,boxCells,Fr.loc_def,Fr.setLoc_def,E.part?,buildCells,buildSliceV,fillV,chunk,elemV,convV,vsOf,minMax,eqV,strBin,floatBin]
 ·have e1:0<bs.length - k:=by omega
  generalize bs.length - k=w at *
  simp [gext,g47,p47,h47,h15,fn15,show fi15.pure=false from rfl,h1,h2,e1,hk,hkk,hw2,ty25,ty27,ty24,ty59,ty22,ty3,ib_neq,ib_gtr,hm,hl,evalCode,evalOps,wantedE,stepM,frzM,frzStep,frzOut,nilRefs,nilRef,marked,stepE,stepOp,startFr,Fr.clear,mapR_eq,take,upE,E.calm,Fr.putO,Fr.put_def,Fr.map_def,Fr.raw_def,Fr.get_def,Fr.lend,Fr.op,lk,ins,lset,E.inval,constV,constVs,V.toE,builtinStep,lenE,elemsOf,okV,okE,E.v?,V.strip,binV,E.int?,E.bool?,appendStep,appended,baseOf,resultsOut,resultE,byteVs_length,flats_bytes,V.strip1,V.one,sizes_bytes,sizesOk,consume,E.weak,unV,sliceStep,boundOf,clip,indexAddrStep,indexStep,addrAdd,loadAt,placeOf,loadCs,cellE,storeAt,splice,E.cells?,V.cells,E.noMem,E.noLoc,E.noLp,callStep,vsOf,retE,V.flat,flats,St.obj,St.set,boxCells,Fr.loc_def,Fr.setLoc_def,E.part?,buildCells,buildSliceV,fillV,chunk,elemV,convV,vsOf,minMax,eqV,strBin,floatBin]
end Go.Proofs.Ytiiahehclbmodaa
namespace Go.Proofs.Ytiiahehclbmodaa
open Go Go.Ab
theorem vbytes_le (n:Nat):(vbytes n).length≤9:=by
 have:=vlow_len 8 n
 simp [vbytes];omega
end Go.Proofs.Ytiiahehclbmodaa
namespace Go.Ab
open Go
def Evn {α:Type} (s:Nat→Option α)(r:α):Prop:=∃ N,∀ n,N≤n→s n=some r
open Classical in
noncomputable def Lim {α:Type} (s:Nat→Option α):Option α:=if h:∃ r,Evn s r then some (Classical.choose h) else none
theorem Evn.of {α:Type} {x:Option α} {r:α} (h:x=some r):Evn (fun _=>x) r:=⟨0,fun _ _=>h⟩
theorem Evn.bind {α β:Type} {s:Nat→Option α} {t:Nat→Option β} {r:α} {q:β} (h:Evn s r)(k:Evn (fun n=>match s n with | some _=>t n | none=>none) q):Evn t q:=by
 obtain ⟨N,h⟩:=h
 obtain ⟨M,k⟩:=k
 refine ⟨max N M,fun n hn=>?_⟩
 have h1:=h n (Nat.le_trans (Nat.le_max_left _ _) hn)
 have h2:=k n (Nat.le_trans (Nat.le_max_right _ _) hn)
 simp only [h1] at h2;exact h2
noncomputable def EvF (g:G):Calling:=fun f args st=>Lim fun n=>evalFn g n f args st
section
variable {g:G} {fi:FI}
end
noncomputable def loopL (body:Fr→St→Res)(fr:Fr)(st:St):Res:=Lim fun n=>iterate body n fr st
def andThen (r:Res)(k:Fr→St→Res):Res :=
 match r with
 | some (.normal,fr,st)=>k fr st
 | r=>r
def unblock (id:Nat)(r:Res):Res :=
 match r with
 | some (.exit i,fr,st)=>if i == id then some (.normal,fr,st) else some (.exit i,fr,st)
 | r=>r
def either (b:Option Bool)(x y:Res):Res :=
 match b with
 | some true=>x
 | some false=>y
 | none=>none
def regOut:Option Rg→Fr→Res
 | some (.ok fr st),_=>some (.normal,fr,st)
 | some (.pan v st),fr=>some (.pan v,fr,st)
 | none,_=>none
noncomputable def EvC (g:G)(fi:FI):Code→Fr→St→Res
 | .skip,fr,st=>some (.normal,fr,st)
 | .region _ ops draw,fr,st =>
  if draw then
   if Region.lexB .any ops then regOut (evalDraw g fi (EvF g) ops ops.toList 0 fr.clear st) fr else none
  else regOut (evalOps g fi (EvF g) ops.toList ops.toList fr.clear st) fr
 | .seq a b,fr,st=>andThen (EvC g fi a fr st) (EvC g fi b)
 | .cond c a b,fr,st=>either (fr.op c).bool? (EvC g fi a fr st) (EvC g fi b fr st)
 | .block id body,fr,st=>unblock id (EvC g fi body fr st)
 | .loop body,fr,st=>loopL (EvC g fi body) fr st
 | .exit id,fr,st=>some (.exit id,fr,st)
 | .ret,fr,st=>some (.ret,fr,st)
 | _,_,_=>none
noncomputable def bodyOut (g:G)(fi:FI)(r:Res):Option (Out × St) :=
 match r with
 | some (.normal,fr,st)=>(resultsOut g fr st fi.results).bind fun o=>frzOut fi o st
 | some (.ret,fr,st)=>(resultsOut g fr st fi.results).bind fun o=>frzOut fi o st
 | some (.pan v,_,st)=>some (.pan v,st)
 | _=>none
end Go.Ab
namespace Go.Ab
open Go
inductive Kt where
 | nil
 | seq (b:Code) (k:Kt)
 | blk (id:Nat) (k:Kt)
 | loop (b:Code) (k:Kt)
variable {g:G} {fi:FI}
noncomputable def finK (g:G)(fi:FI):Kt→Res→Option (Out × St)
 | .nil,r=>bodyOut g fi r
 | .seq b k,r=>finK g fi k (andThen r (EvC g fi b))
 | .blk id k,r=>finK g fi k (unblock id r)
 | .loop b k,r=>finK g fi k (andThen r (loopL (EvC g fi b)))
noncomputable def evK (g:G)(fi:FI)(c:Code)(fr:Fr)(st:St)(k:Kt):Option (Out × St):=finK g fi k (EvC g fi c fr st)
noncomputable def nextK (g:G)(fi:FI)(k:Kt)(x:X)(fr:Fr)(st:St):Option (Out × St):=finK g fi k (some (x,fr,st))
noncomputable def condK (g:G)(fi:FI)(t:Option Bool)(a b:Code)(fr:Fr)(st:St)(k:Kt):Option (Out × St):=finK g fi k (either t (EvC g fi a fr st) (EvC g fi b fr st))
noncomputable def wantedD (ds:List (Option Nat))(o:Oper)(fr:Fr):Option Bool :=
 match o.guard with
 | none=>some true
 | some (j,want)=>match (ds[j]?).join with
  | some d=>match fr.get d with
   | .val (.bool b)=>some (b == want)
   | .val (.tuple [])=>some false
   | _=>none
  | none=>none
theorem wantedD_eq (all:List Oper)(o:Oper)(fr:Fr):wantedE all o fr=wantedD (all.map (·.dst)) o fr:=by
 unfold wantedE wantedD
 cases o.guard with
 | none=>rfl
 | some q =>
  obtain ⟨j,want⟩:=q
  simp only [List.getElem?_map]
  cases all[j]? with
  | none=>rfl
  | some p=>cases p.dst <;> rfl
noncomputable def evalD (g:G)(fi:FI)(call:Calling)(ds:List (Option Nat)):List Oper→Fr→St→Option Rg
 | [],fr,st=>some (.ok fr st)
 | o :: os,fr,st =>
  match wantedD ds o fr with
  | some true=>match stepM g fi call fr st o with
   | some (.ok e fr st)=>evalD g fi call ds os (fr.putO o.dst e) st
   | some (.pan v st)=>some (.pan v st)
   | none=>none
  | some false=>evalD g fi call ds os (fr.putO o.dst (.val (.tuple []))) st
  | none=>none
noncomputable def opsK (g:G)(fi:FI)(all:List (Option Nat))(os:List Oper)(fr:Fr)(st:St)(fb:Fr)(k:Kt):Option (Out × St):=finK g fi k (regOut (evalD g fi (EvF g) all os fr st) fb)
noncomputable def wantK (g:G)(fi:FI)(t:Option Bool)(all:List (Option Nat))(o:Oper)(os:List Oper)(fr:Fr)(st:St)(fb:Fr)(k:Kt):Option (Out × St) :=
 match t with
 | some true=>finK g fi k (regOut (match stepM g fi (EvF g) fr st o with
   | some (.ok e fr st)=>evalD g fi (EvF g) all os (fr.putO o.dst e) st
   | some (.pan v st)=>some (.pan v st)
   | none=>none) fb)
 | some false=>opsK g fi all os (fr.putO o.dst (.val (.tuple []))) st fb k
 | none=>finK g fi k none
noncomputable def stepK (g:G)(fi:FI)(r:Option Rs)(all:List (Option Nat))(d:Option Nat)(os:List Oper)(fb:Fr)(k:Kt):Option (Out × St) :=
 finK g fi k (regOut (match r with
   | some (.ok e fr st)=>evalD g fi (EvF g) all os (fr.putO d e) st
   | some (.pan v st)=>some (.pan v st)
   | none=>none) fb)
theorem evK_seq (a b:Code)(fr:Fr)(st:St)(k:Kt):evK g fi (.seq a b) fr st k=evK g fi a fr st (.seq b k):=rfl
theorem evK_block (id:Nat)(a:Code)(fr:Fr)(st:St)(k:Kt):evK g fi (.block id a) fr st k=evK g fi a fr st (.blk id k):=rfl
theorem evK_skip (fr:Fr)(st:St)(k:Kt):evK g fi .skip fr st k=nextK g fi k .normal fr st:=rfl
theorem evK_ret (fr:Fr)(st:St)(k:Kt):evK g fi .ret fr st k=nextK g fi k .ret fr st:=rfl
theorem evK_exit (i:Nat)(fr:Fr)(st:St)(k:Kt):evK g fi (.exit i) fr st k=nextK g fi k (.exit i) fr st:=rfl
noncomputable def opsR (g:G)(fi:FI)(ops:List Oper)(fr:Fr)(st:St)(k:Kt):Option (Out × St):=opsK g fi (ops.map (·.dst)) ops fr.clear st fr k
theorem opsR_def (ops:List Oper)(fr:Fr)(st:St)(k:Kt):opsR g fi ops fr st k=opsK g fi (ops.map (·.dst)) ops fr.clear st fr k:=rfl
theorem condK_true (a b:Code)(fr:Fr)(st:St)(k:Kt):condK g fi (some true) a b fr st k=evK g fi a fr st k:=rfl
theorem condK_false (a b:Code)(fr:Fr)(st:St)(k:Kt):condK g fi (some false) a b fr st k=evK g fi b fr st k:=rfl
theorem condK_iff (t:Bool)(a b:Code)(fr:Fr)(st:St)(k:Kt)(r:Option (Out × St)):(condK g fi (some t) a b fr st k=r)=((t=true→evK g fi a fr st k=r)∧(t=false→evK g fi b fr st k=r)):=by
 cases t <;> simp [condK_true,condK_false]
theorem nextK_seq (b:Code)(k:Kt)(fr:Fr)(st:St):nextK g fi (.seq b k) .normal fr st=evK g fi b fr st k:=rfl
theorem nextK_seq_ret (b:Code)(k:Kt)(fr:Fr)(st:St):nextK g fi (.seq b k) .ret fr st=nextK g fi k .ret fr st:=rfl
theorem nextK_seq_exit (b:Code)(k:Kt)(i:Nat)(fr:Fr)(st:St):nextK g fi (.seq b k) (.exit i) fr st=nextK g fi k (.exit i) fr st:=rfl
theorem nextK_seq_pan (b:Code)(k:Kt)(v:V)(fr:Fr)(st:St):nextK g fi (.seq b k) (.pan v) fr st=nextK g fi k (.pan v) fr st:=rfl
theorem nextK_blk (id:Nat)(k:Kt)(fr:Fr)(st:St):nextK g fi (.blk id k) .normal fr st=nextK g fi k .normal fr st:=rfl
theorem nextK_blk_ret (id:Nat)(k:Kt)(fr:Fr)(st:St):nextK g fi (.blk id k) .ret fr st=nextK g fi k .ret fr st:=rfl
theorem nextK_blk_exit (id:Nat)(k:Kt)(i:Nat)(fr:Fr)(st:St):nextK g fi (.blk id k) (.exit i) fr st=if i == id then nextK g fi k .normal fr st else nextK g fi k (.exit i) fr st:=by
 unfold nextK
 simp only [finK,unblock]
 split <;> rfl
theorem nextK_blk_pan (id:Nat)(k:Kt)(v:V)(fr:Fr)(st:St):nextK g fi (.blk id k) (.pan v) fr st=nextK g fi k (.pan v) fr st:=rfl
theorem nextK_loop_ret (b:Code)(k:Kt)(fr:Fr)(st:St):nextK g fi (.loop b k) .ret fr st=nextK g fi k .ret fr st:=rfl
theorem nextK_loop_exit (b:Code)(k:Kt)(i:Nat)(fr:Fr)(st:St):nextK g fi (.loop b k) (.exit i) fr st=nextK g fi k (.exit i) fr st:=rfl
theorem nextK_loop_pan (b:Code)(k:Kt)(v:V)(fr:Fr)(st:St):nextK g fi (.loop b k) (.pan v) fr st=nextK g fi k (.pan v) fr st:=rfl
theorem nextK_nil (fr:Fr)(st:St):nextK g fi .nil .normal fr st=(resultsOut g fr st fi.results).bind fun o=>frzOut fi o st:=rfl
theorem nextK_nil_ret (fr:Fr)(st:St):nextK g fi .nil .ret fr st=(resultsOut g fr st fi.results).bind fun o=>frzOut fi o st:=rfl
theorem nextK_nil_pan (v:V)(fr:Fr)(st:St):nextK g fi .nil (.pan v) fr st=some (.pan v,st):=rfl
theorem opsK_nil (all:List (Option Nat))(fr:Fr)(st:St)(fb:Fr)(k:Kt):opsK g fi all [] fr st fb k=nextK g fi k .normal fr st:=rfl
theorem opsK_cons (all:List (Option Nat))(o:Oper)(os:List Oper)(fr:Fr)(st:St)(fb:Fr)(k:Kt):opsK g fi all (o :: os) fr st fb k=wantK g fi (wantedD all o fr) all o os fr st fb k:=by
 unfold opsK wantK
 rw [evalD]
 cases wantedD all o fr with
 | none=>rfl
 | some b=>cases b <;> rfl
theorem wantK_true (all:List (Option Nat))(o:Oper)(os:List Oper)(fr:Fr)(st:St)(fb:Fr)(k:Kt):wantK g fi (some true) all o os fr st fb k=stepK g fi (stepM g fi (EvF g) fr st o) all o.dst os fb k:=rfl
theorem wantK_false (all:List (Option Nat))(o:Oper)(os:List Oper)(fr:Fr)(st:St)(fb:Fr)(k:Kt):wantK g fi (some false) all o os fr st fb k=opsK g fi all os (fr.putO o.dst (.val (.tuple []))) st fb k:=rfl
theorem wantK_iff (t:Bool)(all:List (Option Nat))(o:Oper)(os:List Oper)(fr:Fr)(st:St)(fb:Fr)(k:Kt)(r:Option (Out × St)):(wantK g fi (some t) all o os fr st fb k=r)=((t=true→stepK g fi (stepM g fi (EvF g) fr st o) all o.dst os fb k=r)∧(t=false→opsK g fi all os (fr.putO o.dst (.val (.tuple []))) st fb k=r)):=by
 cases t <;> simp [wantK_true,wantK_false]
theorem stepK_ok (e:E)(fr:Fr)(st:St)(all:List (Option Nat))(d:Option Nat)(os:List Oper)(fb:Fr)(k:Kt):stepK g fi (some (.ok e fr st)) all d os fb k=opsK g fi all os (fr.putO d e) st fb k:=rfl
theorem stepK_pan (v:V)(st:St)(all:List (Option Nat))(d:Option Nat)(os:List Oper)(fb:Fr)(k:Kt):stepK g fi (some (.pan v st)) all d os fb k=nextK g fi k (.pan v) fb st:=rfl
theorem stepK_iff (t:Prop) [Decidable t] (e e':E) (fr:Fr) (st:St) (all:List (Option Nat)) (d:Option Nat) (os:List Oper) (fb:Fr) (k:Kt) (r:Option (Out × St)) :
  (stepK g fi (some (.ok (if t then e else e') fr st)) all d os fb k=r)=((t→opsK g fi all os (fr.putO d e) st fb k=r)∧(¬ t→opsK g fi all os (fr.putO d e') st fb k=r)):=by
 by_cases h:t <;> simp [h,stepK_ok]
def mk (d : Option Nat) (o : Op) (t : TypeId) (g : Option (Nat × Bool)) : Oper := { dst := d, op := o, type := t, pos := "", after := #[], guard := g }
theorem mk_dst (d:Option Nat)(o:Op)(t:TypeId)(g:Option (Nat × Bool)):(mk d o t g).dst=d:=rfl
theorem mk_op (d:Option Nat)(o:Op)(t:TypeId)(g:Option (Nat × Bool)):(mk d o t g).op=o:=rfl
theorem mk_type (d:Option Nat)(o:Op)(t:TypeId)(g:Option (Nat × Bool)):(mk d o t g).type=t:=rfl
theorem mk_guard (d:Option Nat)(o:Op)(t:TypeId)(g:Option (Nat × Bool)):(mk d o t g).guard=g:=rfl
def op1 (d:Nat)(o:Op)(t:TypeId):Oper:=mk (some d) o t none
theorem op1_dst (d:Nat)(o:Op)(t:TypeId):(op1 d o t).dst=some d:=rfl
theorem op1_op (d:Nat)(o:Op)(t:TypeId):(op1 d o t).op=o:=rfl
theorem op1_type (d:Nat)(o:Op)(t:TypeId):(op1 d o t).type=t:=rfl
theorem op1_guard (d:Nat)(o:Op)(t:TypeId):(op1 d o t).guard=none:=rfl
def mv (d x t:Nat):Oper:=op1 d (.move (.tmp x)) t
theorem mv_def (d x t:Nat):mv d x t=op1 d (.move (.tmp x)) t:=rfl
def asn (d x t:Nat):Oper:=op1 d (.assign (.tmp x)) t
theorem asn_def (d x t:Nat):asn d x t=op1 d (.assign (.tmp x)) t:=rfl
def ld (d y x t:Nat):Oper:=op1 d (.load y (.tmp x)) t
theorem ld_def (d y x t:Nat):ld d y x t=op1 d (.load y (.tmp x)) t:=rfl
def ixa (d y a b t:Nat):Oper:=op1 d (.indexAddr y (.tmp a) (.tmp b)) t
theorem ixa_def (d y a b t:Nat):ixa d y a b t=op1 d (.indexAddr y (.tmp a) (.tmp b)) t:=rfl
def bop (d:Nat)(o:BinOp)(y a b u t:Nat):Oper:=op1 d (.binOp o y (.tmp a) (.tmp b) u) t
theorem bop_def (d:Nat)(o:BinOp)(y a b u t:Nat):bop d o y a b u t=op1 d (.binOp o y (.tmp a) (.tmp b) u) t:=rfl
def len1 (d x y t:Nat):Oper:=op1 d (.call {callee:=.builtin .len,args:=#[.tmp x],argTypes:=#[y]}) t
theorem len1_def (d x y t:Nat):len1 d x y t=op1 d (.call {callee:=.builtin .len,args:=#[.tmp x],argTypes:=#[y]}) t:=rfl
def cal (d f:Nat)(a:List Operand)(y:List Nat)(t:Nat):Oper:=op1 d (.call {callee:=.value (.func f),args:=a.toArray,argTypes:=y.toArray}) t
theorem cal_def (d f:Nat)(a:List Operand)(y:List Nat)(t:Nat):cal d f a y t=op1 d (.call {callee:=.value (.func f),args:=a.toArray,argTypes:=y.toArray}) t:=rfl
def sto (y a x:Nat):Oper:=mk none (.store y (.tmp a) (.tmp x)) 0 none
theorem sto_def (y a x:Nat):sto y a x=mk none (.store y (.tmp a) (.tmp x)) 0 none:=rfl
def mini1 (o:Oper):Oper:=mk o.dst o.op o.type o.guard
theorem stepM_mini (call:Calling)(fr:Fr)(st:St)(o:Oper):stepM g fi call fr st (mini1 o)=stepM g fi call fr st o:=by
 obtain ⟨d,op,t,p,a,gd⟩:=o
 cases op <;> rfl
attribute [simp] mv_def asn_def ld_def ixa_def bop_def len1_def cal_def sto_def opsR_def op1_dst op1_op op1_type op1_guard evK_seq evK_block evK_skip evK_ret evK_exit condK_true condK_false condK_iff nextK_seq nextK_loop_ret nextK_loop_exit nextK_loop_pan nextK_seq_ret nextK_seq_exit nextK_seq_pan nextK_blk nextK_blk_ret nextK_blk_exit nextK_blk_pan nextK_nil nextK_nil_ret nextK_nil_pan opsK_nil opsK_cons wantK_true wantK_false wantK_iff stepK_ok stepK_pan stepK_iff mk_dst mk_op mk_type mk_guard wantedD
def E.tame:E→Bool
 | .any=>true
 | .val _=>true
 | .lp _ _=>true
 | _=>false
def E.Tame (e:E):Prop:=e.tame=true
theorem calm_any:E.calm .any=.any:=rfl
theorem calm_val (v:V):E.calm (.val v)=.val v:=rfl
theorem calm_lp (s o:Nat):E.calm (.lp s o)=.lp s o:=rfl
theorem calm_own (k:Nat)(xs:List V):E.calm (.own k xs)=.own k xs:=rfl
theorem calm_bs (k:Nat)(xs:List V)(s:Nat):E.calm (.bor k xs (.slot s))=.val (.slice xs):=rfl
theorem calm_bm (k:Nat)(xs:List V)(i o:Nat):E.calm (.bor k xs (.mem i o))=.bor k xs (.mem i o):=rfl
theorem calm_bl (k:Nat)(xs:List V)(i o:Nat):E.calm (.bor k xs (.loc i o))=.bor k xs (.loc i o):=rfl
theorem calm_tame {e:E} (h:e.Tame):e.calm=e:=by cases e <;> first | rfl | cases h
theorem inval_any (p:Pl):E.inval p .any=.any:=rfl
theorem inval_val (p:Pl)(v:V):E.inval p (.val v)=.val v:=rfl
theorem inval_lp (p:Pl)(s o:Nat):E.inval p (.lp s o)=.lp s o:=rfl
theorem inval_own (p:Pl)(k:Nat)(xs:List V):E.inval p (.own k xs)=.own k xs:=rfl
theorem inval_bor (p:Pl)(k:Nat)(xs:List V)(q:Pl):E.inval p (.bor k xs q)=if q=p then .val (.slice xs) else .bor k xs q:=rfl
theorem inval_tame {e:E} (p:Pl)(h:e.Tame):e.inval p=e:=by cases e <;> first | rfl | cases h
theorem noMem_any:E.noMem .any=.any:=rfl
theorem noMem_val (v:V):E.noMem (.val v)=.val v:=rfl
theorem noMem_lp (s o:Nat):E.noMem (.lp s o)=.lp s o:=rfl
theorem noMem_own (k:Nat)(xs:List V):E.noMem (.own k xs)=.own k xs:=rfl
theorem noMem_bs (k:Nat)(xs:List V)(s:Nat):E.noMem (.bor k xs (.slot s))=.bor k xs (.slot s):=rfl
theorem noMem_bm (k:Nat)(xs:List V)(i o:Nat):E.noMem (.bor k xs (.mem i o))=.val (.slice xs):=rfl
theorem noMem_bl (k:Nat)(xs:List V)(i o:Nat):E.noMem (.bor k xs (.loc i o))=.bor k xs (.loc i o):=rfl
theorem noMem_tame {e:E} (h:e.Tame):e.noMem=e:=by cases e <;> first | rfl | cases h
theorem noLoc_any:E.noLoc .any=.any:=rfl
theorem noLoc_val (v:V):E.noLoc (.val v)=.val v:=rfl
theorem noLoc_lp (s o:Nat):E.noLoc (.lp s o)=.lp s o:=rfl
theorem noLoc_own (k:Nat)(xs:List V):E.noLoc (.own k xs)=.own k xs:=rfl
theorem noLoc_bs (k:Nat)(xs:List V)(s:Nat):E.noLoc (.bor k xs (.slot s))=.bor k xs (.slot s):=rfl
theorem noLoc_bm (k:Nat)(xs:List V)(i o:Nat):E.noLoc (.bor k xs (.mem i o))=.bor k xs (.mem i o):=rfl
theorem noLoc_bl (k:Nat)(xs:List V)(i o:Nat):E.noLoc (.bor k xs (.loc i o))=.val (.slice xs):=rfl
theorem noLoc_tame {e:E} (h:e.Tame):e.noLoc=e:=by cases e <;> first | rfl | cases h
theorem noLp_any (s:Nat):E.noLp s .any=.any:=rfl
theorem noLp_val (s:Nat)(v:V):E.noLp s (.val v)=.val v:=rfl
theorem noLp_lp (s t o:Nat):E.noLp s (.lp t o)=if t == s then .any else .lp t o:=rfl
theorem noLp_own (s:Nat)(k:Nat)(xs:List V):E.noLp s (.own k xs)=.own k xs:=rfl
theorem noLp_bs (s:Nat)(k:Nat)(xs:List V)(t:Nat):E.noLp s (.bor k xs (.slot t))=.bor k xs (.slot t):=rfl
theorem noLp_bm (s:Nat)(k:Nat)(xs:List V)(i o:Nat):E.noLp s (.bor k xs (.mem i o))=.bor k xs (.mem i o):=rfl
theorem noLp_bl (s:Nat)(k:Nat)(xs:List V)(t o:Nat):E.noLp s (.bor k xs (.loc t o))=if t == s then .val (.slice xs) else .bor k xs (.loc t o):=rfl
theorem noLp_tame {e:E} (s:Nat)(h:e.Tame):(e.noLp s).Tame:=by
 cases e with
 | lp t o=>unfold E.noLp;simp only;split <;> rfl
 | _=>first | rfl | cases h
theorem weak_any:E.weak .any=.any:=rfl
theorem weak_val (v:V):E.weak (.val v)=.val v:=rfl
theorem weak_lp (s o:Nat):E.weak (.lp s o)=.lp s o:=rfl
theorem weak_own (k:Nat)(xs:List V):E.weak (.own k xs)=.val (.slice xs):=rfl
theorem weak_bor (k:Nat)(xs:List V)(q:Pl):E.weak (.bor k xs q)=.val (.slice xs):=rfl
theorem still_any:E.still .any=.any:=rfl
theorem still_val (v:V):E.still (.val v)=.val v:=rfl
theorem still_lp (s o:Nat):E.still (.lp s o)=.lp s o:=rfl
theorem still_own (k:Nat)(xs:List V):E.still (.own k xs)=.val (.slice xs):=rfl
theorem still_bs (k:Nat)(xs:List V)(s:Nat):E.still (.bor k xs (.slot s))=.val (.slice xs):=rfl
theorem still_bm (k:Nat)(xs:List V)(i o:Nat):E.still (.bor k xs (.mem i o))=.bor k xs (.mem i o):=rfl
theorem still_bl (k:Nat)(xs:List V)(i o:Nat):E.still (.bor k xs (.loc i o))=.bor k xs (.loc i o):=rfl
theorem still_tame {e:E} (h:e.Tame):e.still=e:=by cases e <;> first | rfl | cases h
theorem weak_tame {e:E} (h:e.Tame):e.weak=e:=by cases e <;> first | rfl | cases h
theorem tame_any:E.Tame .any:=rfl
theorem tame_val (v:V):E.Tame (.val v):=rfl
theorem tame_lp (s o:Nat):E.Tame (.lp s o):=rfl
def E.firm:E→Bool
 | .bor _ _ _=>false
 | _=>true
def E.Firm (e:E):Prop:=e.firm=true
theorem calm_firm {e:E} (h:e.Firm):e.calm=e:=by cases e <;> first | rfl | cases h
theorem inval_firm {e:E} (p:Pl)(h:e.Firm):e.inval p=e:=by cases e <;> first | rfl | cases h
theorem noMem_firm {e:E} (h:e.Firm):e.noMem=e:=by cases e <;> first | rfl | cases h
theorem noLoc_firm {e:E} (h:e.Firm):e.noLoc=e:=by cases e <;> first | rfl | cases h
theorem noLp_firm {e:E} (s:Nat)(h:e.Firm):(e.noLp s).Firm:=by
 cases e with
 | lp t o=>unfold E.noLp;simp only;split <;> rfl
 | _=>first | rfl | cases h
theorem firm_any:E.Firm .any:=rfl
theorem firm_val (v:V):E.Firm (.val v):=rfl
theorem firm_lp (s o:Nat):E.Firm (.lp s o):=rfl
theorem firm_own (k:Nat)(xs:List V):E.Firm (.own k xs):=rfl
attribute [simp] firm_any firm_val firm_lp firm_own calm_firm inval_firm noMem_firm noLoc_firm noLp_firm
attribute [simp] tame_any tame_val tame_lp calm_any calm_val calm_lp calm_own calm_bs calm_bm calm_bl calm_tame inval_any inval_val inval_lp inval_own inval_bor inval_tame noMem_any noMem_val noMem_lp noMem_own noMem_bs noMem_bm noMem_bl noMem_tame
attribute [simp] noLoc_any noLoc_val noLoc_lp noLoc_own noLoc_bs noLoc_bm noLoc_bl noLoc_tame noLp_any noLp_val noLp_lp noLp_own noLp_bs noLp_bm noLp_bl noLp_tame weak_any weak_val weak_lp weak_own weak_bor weak_tame still_any still_val still_lp still_own still_bs still_bm still_bl still_tame
attribute [simp] nilRefs nilRef frzOut stepM frzM frzStep E.melt marked stepE stepOp Fr.clear mapR_eq take upE Fr.putO Fr.put_def Fr.map_def Fr.raw_def Fr.get_def Fr.lend Fr.op lk ins lset constV constVs V.toE builtinStep lenE elemsOf okV okE E.v? V.strip binV E.int? E.bool? appendStep appended baseOf resultsOut resultE V.strip1 V.one sizesOk consume unV sliceStep boundOf clip indexAddrStep indexStep addrAdd loadAt placeOf loadCs cellE storeAt splice E.cells? V.cells vsOf retE V.flat flats St.obj St.set boxCells Fr.loc_def Fr.setLoc_def E.part? buildCells buildSliceV fillV chunk elemV convV minMax eqV strBin partV
def qA (d:Nat)(b:Bool)(t:Nat):Oper:=op1 d (.assign (.const (.bool b))) t
@[simp] theorem qA_def (d:Nat)(b:Bool)(t:Nat):qA d b t=op1 d (.assign (.const (.bool b))) t:=rfl
def qI (d:Nat)(n:Int)(t:Nat):Oper:=op1 d (.assign (.const (.int .i64 n))) t
@[simp] theorem qI_def (d:Nat)(n:Int)(t:Nat):qI d n t=op1 d (.assign (.const (.int .i64 n))) t:=rfl
def qN (d:Nat)(t:Nat):Oper:=op1 d (.assign (.const (.slice none 0 0))) t
@[simp] theorem qN_def (d:Nat)(t:Nat):qN d t=op1 d (.assign (.const (.slice none 0 0))) t:=rfl
def qB (d:Nat)(o:BinOp)(s x:Nat)(n:Int)(u t:Nat):Oper:=op1 d (.binOp o s (.tmp x) (.const (.int .i64 n)) u) t
@[simp] theorem qB_def (d:Nat)(o:BinOp)(s x:Nat)(n:Int)(u t:Nat):qB d o s x n u t=op1 d (.binOp o s (.tmp x) (.const (.int .i64 n)) u) t:=rfl
def qP (d x y:Nat)(b:Bool)(t:Nat):Oper:=op1 d (.pick (.tmp x) (.tmp y) (.const (.bool b))) t
@[simp] theorem qP_def (d x y:Nat)(b:Bool)(t:Nat):qP d x y b t=op1 d (.pick (.tmp x) (.tmp y) (.const (.bool b))) t:=rfl
def qQ (d x:Nat)(b:Bool)(y t:Nat):Oper:=op1 d (.pick (.tmp x) (.const (.bool b)) (.tmp y)) t
@[simp] theorem qQ_def (d x:Nat)(b:Bool)(y t:Nat):qQ d x b y t=op1 d (.pick (.tmp x) (.const (.bool b)) (.tmp y)) t:=rfl
def qF (d s x n t:Nat):Oper:=op1 d (.fieldAddr s (.tmp x) n) t
@[simp] theorem qF_def (d s x n t:Nat):qF d s x n t=op1 d (.fieldAddr s (.tmp x) n) t:=rfl
def qS (d s x t:Nat):Oper:=op1 d (.buildSlice s 1 #[(0,(.tmp x))]) t
@[simp] theorem qS_def (d s x t:Nat):qS d s x t=op1 d (.buildSlice s 1 #[(0,(.tmp x))]) t:=rfl
def qE (d x y s t:Nat):Oper:=op1 d (.call {callee:=(.builtin .append),args:=#[(.tmp x),(.tmp y)],argTypes:=#[s,s]}) t
@[simp] theorem qE_def (d x y s t:Nat):qE d x y s t=op1 d (.call {callee:=(.builtin .append),args:=#[(.tmp x),(.tmp y)],argTypes:=#[s,s]}) t:=rfl
def qm (d x t g:Nat)(b:Bool):Oper:=mk (some d) (.move (.tmp x)) t (some (g,b))
@[simp] theorem qm_def (d x t g:Nat)(b:Bool):qm d x t g b=mk (some d) (.move (.tmp x)) t (some (g,b)):=rfl
def ql (d s x t g:Nat)(b:Bool):Oper:=mk (some d) (.load s (.tmp x)) t (some (g,b))
@[simp] theorem ql_def (d s x t g:Nat)(b:Bool):ql d s x t g b=mk (some d) (.load s (.tmp x)) t (some (g,b)):=rfl
def qf (d s x n t g:Nat)(b:Bool):Oper:=mk (some d) (.fieldAddr s (.tmp x) n) t (some (g,b))
@[simp] theorem qf_def (d s x n t g:Nat)(b:Bool):qf d s x n t g b=mk (some d) (.fieldAddr s (.tmp x) n) t (some (g,b)):=rfl
def qb (d:Nat)(o:BinOp)(s x y u t g:Nat)(b:Bool):Oper:=mk (some d) (.binOp o s (.tmp x) (.tmp y) u) t (some (g,b))
@[simp] theorem qb_def (d:Nat)(o:BinOp)(s x y u t g:Nat)(b:Bool):qb d o s x y u t g b=mk (some d) (.binOp o s (.tmp x) (.tmp y) u) t (some (g,b)):=rfl
def qc (d:Nat)(o:BinOp)(s x:Nat)(n:Int)(u t g:Nat)(b:Bool):Oper:=mk (some d) (.binOp o s (.tmp x) (.const (.int .i64 n)) u) t (some (g,b))
@[simp] theorem qc_def (d:Nat)(o:BinOp)(s x:Nat)(n:Int)(u t g:Nat)(b:Bool):qc d o s x n u t g b=mk (some d) (.binOp o s (.tmp x) (.const (.int .i64 n)) u) t (some (g,b)):=rfl
def qi (d s x y t g:Nat)(b:Bool):Oper:=mk (some d) (.indexAddr s (.tmp x) (.tmp y)) t (some (g,b))
@[simp] theorem qi_def (d s x y t g:Nat)(b:Bool):qi d s x y t g b=mk (some d) (.indexAddr s (.tmp x) (.tmp y)) t (some (g,b)):=rfl
def qe (d x s t g:Nat)(b:Bool):Oper:=mk (some d) (.call {callee:=(.builtin .len),args:=#[(.tmp x)],argTypes:=#[s]}) t (some (g,b))
@[simp] theorem qe_def (d x s t g:Nat)(b:Bool):qe d x s t g b=mk (some d) (.call {callee:=(.builtin .len),args:=#[(.tmp x)],argTypes:=#[s]}) t (some (g,b)):=rfl
end Go.Ab
namespace Go.Ab
open Go
structure Fl where
 q:Bool
 ps:Bool
 strong:Bool
 tame:Bool
 thn:Bool
 semi:Bool
 mild:Bool
 pair:Bool
 any:Bool
 bc:Bool
 els:List Nat
variable {g:G} {fi:FI}
def elsOf (fi:FI)(ops:Array Oper)(k:Nat)(o:Oper):List Nat :=
 (List.range ops.size).filterMap fun j=>match ops[j]? with
  | some oj=>if elseP fi ops k o j oj && !ordB ops j k then locSt fi oj else none
  | none=>none
theorem els_all (g:G)(fi:FI)(ops:Array Oper)(k:Nat)(o:Oper)(e:E):elseOk g fi ops k o e=((!besideCall g fi ops k || isLp e) && (elsOf fi ops k o).all fun a=>otherE a e):=by
 unfold elseOk elsOf
 congr 1
 generalize List.range ops.size=l
 induction l with
 | nil=>rfl
 | cons j l ih =>
  rw [List.all_cons,ih,List.filterMap_cons]
  cases ops[j]? with
  | none=>simp
  | some oj =>
   simp only
   cases h:(elseP fi ops k o j oj && !ordB ops j k) with
   | false=>simp
   | true =>
    simp only [if_true,Bool.not_true,Bool.false_or]
    cases locSt fi oj <;> simp
noncomputable def flagsOf (g:G)(fi:FI)(ops:Array Oper)(k:Nat)(o:Oper):Fl :=
 ⟨isQM g fi o,pivotB ops k || semiM fi o,strongB g fi ops k,tameB fi ops k o,thenB ops k,semiM fi o,mildFor g fi ops k,strongP g fi ops k,elseAny fi ops k o,besideCall g fi ops k,elsOf fi ops k o⟩
noncomputable def rowsOf (g:G)(fi:FI)(ops:Array Oper):List Oper→Nat→List (Oper × Fl)
 | [],_=>[]
 | o :: l,k=>(mini1 o,flagsOf g fi ops k o) :: rowsOf g fi ops l (k+1)
noncomputable def weakX (m bc:Bool)(els:List Nat)(o:Oper)(fr:Fr):Bool :=
 match o.op with
 | .load _ x=>(match fr.op x with | .val (.ep _)=>true | _=>false) || (m && ((!bc || isLp (fr.op x)) && els.all fun a=>otherE a (fr.op x)))
 | .call {callee:=.value x,args,..}=>match fr.op x,vsOf (args.toList.map fr.op) with
  | .val (.func _ first cap),some vs=>flats (first ++ vs ++ cap)
  | _,_=>false
 | _=>true
theorem weakX_eq (ops:Array Oper)(k:Nat)(o:Oper)(fr:Fr):weakOk g fi ops k o fr=weakX (mildFor g fi ops k) (besideCall g fi ops k) (elsOf fi ops k o) o fr:=by
 unfold weakOk weakX
 cases o.op
 case load t x =>
  simp only [els_all]
  cases fr.op x with
  | val v=>cases v <;> rfl
  | _=>rfl
 case call c =>
  obtain ⟨callee,args,ats⟩:=c
  cases callee with
  | value x =>
   simp only
   cases fr.op x with
   | val v =>
    cases v with
    | func f a b=>cases vsOf (args.toList.map fr.op) <;> rfl
    | _=>rfl
   | _=>rfl
  | _=>rfl
 all_goals rfl
noncomputable def stepX (g:G)(fi:FI)(call:Calling)(ops:Array Oper)(k:Nat)(F:Fl)(fr:Fr)(st:St)(o:Oper):Option (List (Nat × E)) :=
 match o.op,o.dst with
 | .move (.tmp u),some t=>match fr.get u with
  | .own n xs=>if borOk ops k u t then some [(t,.bor n xs (.slot u))] else some [(t,.val (.slice xs))]
  | e=>if F.strong then some [(t,e.still)] else some [(t,e.weak)]
 | .assign (.tmp q),some t=>match fr.get q with
  | .own n xs=>if handOk ops k q && !(q == t) then some [(q,.val (.slice xs)),(t,upE g o.type (.own n xs))] else some [(t,.val (.slice xs))]
  | e=>if F.strong then some [(t,e.still)] else some [(t,e.weak)]
 | _,d=>match stepQ g fi call fr st o with
  | some e=>if F.strong then some (d.toList.map fun s=>(s,e)) else if weakX F.mild F.bc F.els o fr then some (d.toList.map fun s=>(s,e.weak)) else none
  | none=>none
noncomputable def evalX (g:G)(fi:FI)(call:Calling)(ops:Array Oper)(ds:List (Option Nat)):List (Oper × Fl)→Nat→Fr→St→Option Rg
 | [],_,fr,st=>some (.ok fr st)
 | (o,F) :: os,k,fr,st =>
  match wantedD ds o fr with
  | some true =>
   if F.q then
    match stepX g fi call ops k F fr st o with
    | some y=>evalX g fi call ops ds os (k+1) (fr.puts y) st
    | none=>none
   else if F.ps && ((F.strong || (F.pair && plainSt fr o)) && (!F.any || plainSt fr o)) && (!F.tame || idleStore g fr st o) then
    match stepM g fi call fr st o with
    | some (.ok e fr st)=>evalX g fi call ops ds os (k+1) (if F.semi then fr.putO o.dst e else (fr.putO o.dst e).calm) st
    | some (.pan v st)=>if F.thn then some (.pan v st) else none
    | none=>none
   else none
  | some false=>evalX g fi call ops ds os (k+1) (fr.putO o.dst (.val (.tuple []))) st
  | none=>none
theorem stepX_eq (call:Calling)(ops:Array Oper)(k:Nat)(fr:Fr)(st:St)(o:Oper):stepW g fi call ops k fr st o=stepX g fi call ops k (flagsOf g fi ops k o) fr st (mini1 o):=by
 have hw:∀ k o fr,weakOk g fi ops k o fr=weakX (mildFor g fi ops k) (besideCall g fi ops k) (elsOf fi ops k o) o fr:=fun k o fr=>weakX_eq ops k o fr
 obtain ⟨d,op,t,p,a,gd⟩:=o
 unfold stepW stepX
 simp only [hw]
 rfl
theorem wantedD_mini (ds:List (Option Nat))(o:Oper)(fr:Fr):wantedD ds (mini1 o) fr=wantedD ds o fr:=rfl
theorem idle_mini (fr:Fr)(st:St)(o:Oper):idleStore g fr st (mini1 o)=idleStore g fr st o:=rfl
theorem evalX_eq (call:Calling)(ops:Array Oper):∀ (l:List Oper) (k:Nat) (fr:Fr) (st:St),evalDraw g fi call ops l k fr st=evalX g fi call ops (ops.toList.map (·.dst)) (rowsOf g fi ops l k) k fr st
 | [],_,_,_=>rfl
 | o :: l,k,fr,st=>by
  unfold evalDraw rowsOf evalX
  rw [wantedD_eq,wantedD_mini]
  cases wantedD (ops.toList.map (·.dst)) o fr with
  | none=>rfl
  | some b =>
   cases b with
   | false=>exact evalX_eq call ops l _ _ _
   | true =>
    simp only
    rw [stepX_eq,stepM_mini,idle_mini]
    have e:(mini1 o).dst=o.dst:=rfl
    rw [e]
    show (if isQM g fi o then _ else if (pivotB ops k || semiM fi o) && firm g fi ops k o fr && (!tameB fi ops k o || idleStore g fr st o) then _ else none)=(if isQM g fi o then _ else if (pivotB ops k || semiM fi o) && firm g fi ops k o fr && (!tameB fi ops k o || idleStore g fr st o) then _ else none)
    by_cases h1:isQM g fi o=true
    ·rw [if_pos h1,if_pos h1]
     cases stepX g fi call ops k (flagsOf g fi ops k o) fr st (mini1 o) with
     | none=>rfl
     | some y=>exact evalX_eq call ops l _ _ _
    ·rw [if_neg h1,if_neg h1]
     split
     ·cases stepM g fi call fr st o with
      | none=>rfl
      | some r =>
       cases r with
       | ok e fr st=>exact evalX_eq call ops l _ _ _
       | pan v st=>rfl
     ·rfl
noncomputable def drwK (g:G)(fi:FI)(ops:Array Oper)(ds:List (Option Nat))(rows:List (Oper × Fl))(j:Nat)(fr:Fr)(st:St)(fb:Fr)(k:Kt):Option (Out × St):=finK g fi k (regOut (evalX g fi (EvF g) ops ds rows j fr st) fb)
noncomputable def dwK (g:G)(fi:FI)(t:Option Bool)(ops:Array Oper)(ds:List (Option Nat))(o:Oper)(F:Fl)(rows:List (Oper × Fl))(j:Nat)(fr:Fr)(st:St)(fb:Fr)(k:Kt):Option (Out × St) :=
 match t with
 | some true=>finK g fi k (regOut (if F.q then
    match stepX g fi (EvF g) ops j F fr st o with
    | some y=>evalX g fi (EvF g) ops ds rows (j+1) (fr.puts y) st
    | none=>none
   else if F.ps && ((F.strong || (F.pair && plainSt fr o)) && (!F.any || plainSt fr o)) && (!F.tame || idleStore g fr st o) then
    match stepM g fi (EvF g) fr st o with
    | some (.ok e fr st)=>evalX g fi (EvF g) ops ds rows (j+1) (if F.semi then fr.putO o.dst e else (fr.putO o.dst e).calm) st
    | some (.pan v st)=>if F.thn then some (.pan v st) else none
    | none=>none
   else none) fb)
 | some false=>drwK g fi ops ds rows (j+1) (fr.putO o.dst (.val (.tuple []))) st fb k
 | none=>finK g fi k none
noncomputable def dqK (g:G)(fi:FI)(y:Option (List (Nat × E))) (ops:Array Oper) (ds:List (Option Nat)) (rows:List (Oper × Fl)) (j:Nat) (fr:Fr) (st:St) (fb:Fr) (k:Kt):Option (Out × St) :=
 finK g fi k (regOut (match y with
    | some y=>evalX g fi (EvF g) ops ds rows j (fr.puts y) st
    | none=>none) fb)
noncomputable def deK (g:G)(fi:FI)(r:Option Rs)(semi thn:Bool)(d:Option Nat)(ops:Array Oper)(ds:List (Option Nat))(rows:List (Oper × Fl))(j:Nat)(fb:Fr)(k:Kt):Option (Out × St) :=
 finK g fi k (regOut (match r with
    | some (.ok e fr st)=>evalX g fi (EvF g) ops ds rows j (if semi then fr.putO d e else (fr.putO d e).calm) st
    | some (.pan v st)=>if thn then some (.pan v st) else none
    | none=>none) fb)
noncomputable def drwR (g:G)(fi:FI)(ops:Array Oper)(rows:List (Oper × Fl))(fr:Fr)(st:St)(k:Kt):Option (Out × St):=drwK g fi ops (rows.map (·.1.dst)) rows 0 fr.clear st fr k
theorem drwR_def (ops:Array Oper)(rows:List (Oper × Fl))(fr:Fr)(st:St)(k:Kt):drwR g fi ops rows fr st k=drwK g fi ops (rows.map (·.1.dst)) rows 0 fr.clear st fr k:=rfl
theorem drwK_nil (ops:Array Oper)(ds:List (Option Nat))(j:Nat)(fr:Fr)(st:St)(fb:Fr)(k:Kt):drwK g fi ops ds [] j fr st fb k=nextK g fi k .normal fr st:=rfl
theorem drwK_cons (ops:Array Oper)(ds:List (Option Nat))(o:Oper)(F:Fl)(rows:List (Oper × Fl))(j:Nat)(fr:Fr)(st:St)(fb:Fr)(k:Kt):drwK g fi ops ds ((o,F) :: rows) j fr st fb k=dwK g fi (wantedD ds o fr) ops ds o F rows j fr st fb k:=by
 unfold drwK dwK
 rw [evalX]
 cases wantedD ds o fr with
 | none=>rfl
 | some b=>cases b <;> rfl
theorem dwK_false (ops:Array Oper)(ds:List (Option Nat))(o:Oper)(F:Fl)(rows:List (Oper × Fl))(j:Nat)(fr:Fr)(st:St)(fb:Fr)(k:Kt):dwK g fi (some false) ops ds o F rows j fr st fb k=drwK g fi ops ds rows (j+1) (fr.putO o.dst (.val (.tuple []))) st fb k:=rfl
theorem dwK_true (ops:Array Oper)(ds:List (Option Nat))(o:Oper)(F:Fl)(rows:List (Oper × Fl))(j:Nat)(fr:Fr)(st:St)(fb:Fr)(k:Kt):dwK g fi (some true) ops ds o F rows j fr st fb k =
  if F.q then dqK g fi (stepX g fi (EvF g) ops j F fr st o) ops ds rows (j+1) fr st fb k
  else if F.ps && ((F.strong || (F.pair && plainSt fr o)) && (!F.any || plainSt fr o)) && (!F.tame || idleStore g fr st o) then deK g fi (stepM g fi (EvF g) fr st o) F.semi F.thn o.dst ops ds rows (j+1) fb k
  else finK g fi k none:=by
 unfold dwK dqK deK
 by_cases h:F.q=true
 ·simp only [h,if_true]
 ·simp only [h,if_false,Bool.false_eq_true]
  by_cases h2:(F.ps && ((F.strong || (F.pair && plainSt fr o)) && (!F.any || plainSt fr o)) && (!F.tame || idleStore g fr st o))=true
  ·rw [if_pos h2,if_pos h2]
  ·rw [if_neg h2,if_neg h2];rfl
theorem dwK_iff (t:Bool)(ops:Array Oper)(ds:List (Option Nat))(o:Oper)(F:Fl)(rows:List (Oper × Fl))(j:Nat)(fr:Fr)(st:St)(fb:Fr)(k:Kt)(r:Option (Out × St)) :
  (dwK g fi (some t) ops ds o F rows j fr st fb k=r)=((t=true→dwK g fi (some true) ops ds o F rows j fr st fb k=r)∧(t=false→drwK g fi ops ds rows (j+1) (fr.putO o.dst (.val (.tuple []))) st fb k=r)):=by
 cases t <;> simp [dwK_false]
theorem dqK_some (y:List (Nat × E))(ops:Array Oper)(ds:List (Option Nat))(rows:List (Oper × Fl))(j:Nat)(fr:Fr)(st:St)(fb:Fr)(k:Kt):dqK g fi (some y) ops ds rows j fr st fb k=drwK g fi ops ds rows j (fr.puts y) st fb k:=rfl
theorem deK_ok (e:E)(fr:Fr)(st:St)(semi thn:Bool)(d:Option Nat)(ops:Array Oper)(ds:List (Option Nat))(rows:List (Oper × Fl))(j:Nat)(fb:Fr)(k:Kt):deK g fi (some (.ok e fr st)) semi thn d ops ds rows j fb k=drwK g fi ops ds rows j (if semi then fr.putO d e else (fr.putO d e).calm) st fb k:=rfl
theorem deK_pan (v:V)(st:St)(semi:Bool)(d:Option Nat)(ops:Array Oper)(ds:List (Option Nat))(rows:List (Oper × Fl))(j:Nat)(fb:Fr)(k:Kt):deK g fi (some (.pan v st)) semi true d ops ds rows j fb k=nextK g fi k (.pan v) fb st:=rfl
theorem dqK_iff (t:Prop) [Decidable t] (s:Nat) (e e':E) (ops:Array Oper) (ds:List (Option Nat)) (rows:List (Oper × Fl)) (j:Nat) (fr:Fr) (st:St) (fb:Fr) (k:Kt) (r:Option (Out × St)) :
  (dqK g fi (some [(s,if t then e else e')]) ops ds rows j fr st fb k=r)=((t→drwK g fi ops ds rows j (fr.put s e) st fb k=r)∧(¬ t→drwK g fi ops ds rows j (fr.put s e') st fb k=r)):=by
 by_cases h:t <;> simp [h,dqK_some,Fr.puts]
theorem calm_ite (t:Prop) [Decidable t] (e e':E):(if t then e else e').calm=if t then e.calm else e'.calm:=by split <;> rfl
theorem otherE_lp (a s o:Nat):otherE a (.lp s o)=!(s == a):=rfl
theorem otherE_val (a:Nat)(v:V):otherE a (.val v)=true:=rfl
theorem isLp_lp (s o:Nat):isLp (.lp s o)=true:=rfl
attribute [simp] drwR_def isLp_lp otherE_lp otherE_val plainSt idleStore eqPlains eqPlain drwK_nil drwK_cons dwK_false dwK_true dwK_iff dqK_some dqK_iff deK_ok deK_pan stepX weakX stepQ quietOp Fr.puts Fr.calm calm_ite
@[simp] def qz0 : Fl := ⟨true,false,false,false,false,false,true,false,false,false,[]⟩
@[simp] def qz1 : Fl := ⟨true,true,false,false,false,true,true,false,false,false,[]⟩
@[simp] def qz2 : Fl := ⟨false,true,true,false,true,true,true,true,false,false,[]⟩
end Go.Ab
namespace Go.Proofs.Ytiiahehclbmodaa
open Go Go.Ab
noncomputable def fi7:FI:={body:=codeOf Try.f7,ntmps:=47,results:=[.tmp 10],pers:=[0,1,2,3,4,5,6,7,8,10,11,12,13,14],locals:=[],pure:=false,marks:=[]}
theorem fn7:gS.fn 7=some fi7:=by kernel_rfl
def G7 (a b:Int)(c:Nat)(s:List UInt8)(L:List Int)(e5 e6 e7 e8 e10 e11 e12 e13 e14:E)(T:List (Nat × E)):Fr:={ps:=[(0,.val (.int .i64 a)),(1,.val (.int .i64 b)),(2,.val (.float .f64 c)),(3,.val (.str s)),(4,.val (.slice (intVs L))),(5,e5),(6,e6),(7,e7),(8,e8),(10,e10),(11,e11),(12,e12),(13,e13),(14,e14)],ts:=T,lc:=[]}
theorem start7 (a b:Int)(c:Nat)(s:List UInt8)(L:List Int):startFr fi7 [.int .i64 a,.int .i64 b,.float .f64 c,.str s,.slice (intVs L)]=G7 a b c s L .any .any .any .any .any .any .any .any .any []:=rfl
noncomputable def ev7 (p:List Bool)(fr:Fr)(st:St):=evalCode gS fi7 (evalFn gS 61) 61 (codeAt (codeOf Try.f7) p) fr st
theorem split7:codeOf Try.f7=.seq (codeAt (codeOf Try.f7) [false]) (.seq (codeAt (codeOf Try.f7) [true,false]) (.seq (codeAt (codeOf Try.f7) [true,true,false]) (.seq (codeAt (codeOf Try.f7) [true,true,true,false]) (.seq (codeAt (codeOf Try.f7) [true,true,true,true,false])
  (.seq (codeAt (codeOf Try.f7) [true,true,true,true,true,false]) (.seq (codeAt (codeOf Try.f7) [true,true,true,true,true,true,false]) (.seq (codeAt (codeOf Try.f7) [true,true,true,true,true,true,true,false]) (codeAt (codeOf Try.f7) [true,true,true,true,true,true,true,true])))))))):=by kernel_rfl
theorem hm7:fi7.marks=[]:=rfl
theorem hl7:fi7.locals=[]:=rfl
abbrev H7 (a b:Int)(c:Nat)(s:List UInt8)(L:List Int)(e11 e12 e13 e14:E)(T:List (Nat × E)):Fr:=G7 a b c s L (.val (.ptr 0 0)) (.val (.ptr 1 0)) (.val (.ptr 2 0)) (.val (.ptr 3 0)) (.val (.bool false)) e11 e12 e13 e14 T
set_option maxRecDepth 40000
set_option maxHeartbeats 4000000
theorem b0 (a b:Int)(c:Nat)(s:List UInt8)(L:List Int):∃ T,ev7 [false] (G7 a b c s L .any .any .any .any .any .any .any .any .any []) ⟨[],0⟩=some (.normal,H7 a b c s L .any .any .any .any T,⟨[[.int .i64 a],[.int .i64 b],[.float .f64 c],[.str s]],0⟩):=by
 simp only [ev7,codeAt,codeOf,Try.f7,Option.getD_some,if_true,Bool.false_eq_true,if_false]
 simp [G7,hm7,hl7,ty24,ty3,ty2,ty38',ty9,evalCode,evalOps,wantedE,stepM,frzM,frzStep,frzOut,nilRefs,nilRef,marked,stepE,stepOp,startFr,Fr.clear,mapR_eq,take,upE,E.calm,Fr.putO,Fr.put_def,Fr.map_def,Fr.raw_def,Fr.get_def,Fr.lend,Fr.op,lk,ins,lset,E.inval,constV,constVs,V.toE,builtinStep,lenE,elemsOf,okV,okE,E.v?,V.strip,binV,E.int?,E.bool?,appendStep,appended,baseOf,resultsOut,resultE,byteVs_length,flats_bytes,V.strip1,V.one,sizes_bytes,sizesOk,consume,E.weak,unV,sliceStep,boundOf,clip,indexAddrStep,indexStep,addrAdd,loadAt,placeOf,loadCs,cellE,storeAt,splice,E.cells?,V.cells,E.noMem,E.noLoc,E.noLp,callStep,vsOf,retE,V.flat,flats,St.obj,St.set,boxCells,Fr.loc_def,Fr.setLoc_def,E.part?,buildCells,buildSliceV,fillV,chunk,elemV,convV,vsOf,minMax,eqV,strBin,floatBin]
theorem b1 (a b:Int)(c:Nat)(s:List UInt8)(L:List Int)(T0:List (Nat × E)):∃ T,ev7 [true,false] (H7 a b c s L .any .any .any .any T0) ⟨[[.int .i64 a],[.int .i64 b],[.float .f64 c],[.str s]],0⟩=some (.normal,H7 a b c s L (.val (.ptr 4 0)) .any .any .any T,fq a b c s L 0):=by
 simp only [ev7,codeAt,codeOf,Try.f7,Option.getD_some,if_true,Bool.false_eq_true,if_false]
 simp [G7,fq,hm7,hl7,ty24,ty3,ty2,ty38',ty9,ty39',ty42,evalCode,evalOps,wantedE,stepM,frzM,frzStep,frzOut,nilRefs,nilRef,marked,stepE,stepOp,startFr,Fr.clear,mapR_eq,take,upE,E.calm,Fr.putO,Fr.put_def,Fr.map_def,Fr.raw_def,Fr.get_def,Fr.lend,Fr.op,lk,ins,lset,E.inval,constV,constVs,V.toE,builtinStep,lenE,elemsOf,okV,okE,E.v?,V.strip,binV,E.int?,E.bool?,appendStep,appended,baseOf,resultsOut,resultE,byteVs_length,flats_bytes,V.strip1,V.one,sizes_bytes,sizesOk,consume,E.weak,unV,sliceStep,boundOf,clip,indexAddrStep,indexStep,addrAdd,loadAt,placeOf,loadCs,cellE,storeAt,splice,E.cells?,V.cells,E.noMem,E.noLoc,E.noLp,callStep,vsOf,retE,V.flat,flats,St.obj,St.set,boxCells,Fr.loc_def,Fr.setLoc_def,E.part?,buildCells,buildSliceV,fillV,chunk,elemV,convV,vsOf,minMax,eqV,strBin,floatBin]
theorem b2 (a a' b:Int)(c:Nat)(s:List UInt8)(L:List Int)(k:Nat)(T0:List (Nat × E)):∃ (w:Nat) (T:List (Nat × E)),w≤4611686018427387904∧ev7 [true,true,false] (H7 a b c s L (.val (.ptr 4 0)) .any .any .any T0) (fq a' b c s L k)=some (.normal,H7 a b c s L (.val (.ptr 4 0)) .any .any .any T,fq w b c s L k):=by
 simp only [ev7,codeAt,codeOf,Try.f7,Option.getD_some,if_true,Bool.false_eq_true,if_false]
 rcases Int.lt_or_le a' 0 with h | h
 ·refine ⟨0,?_⟩
  have e1:a'<4611686018427387904:=by omega
  have e2:¬ 0<a':=by omega
  have e3:¬ 4611686018427387904<a':=by omega
  simp [G7,fq,hm7,hl7,ty24,ty3,h,e1,e2,e3,evalCode,evalOps,wantedE,stepM,frzM,frzStep,frzOut,nilRefs,nilRef,marked,stepE,stepOp,startFr,Fr.clear,mapR_eq,take,upE,E.calm,Fr.putO,Fr.put_def,Fr.map_def,Fr.raw_def,Fr.get_def,Fr.lend,Fr.op,lk,ins,lset,E.inval,constV,constVs,V.toE,builtinStep,lenE,elemsOf,okV,okE,E.v?,V.strip,binV,E.int?,E.bool?,appendStep,appended,baseOf,resultsOut,resultE,byteVs_length,flats_bytes,V.strip1,V.one,sizes_bytes,sizesOk,consume,E.weak,unV,sliceStep,boundOf,clip,indexAddrStep,indexStep,addrAdd,loadAt,placeOf,loadCs,cellE,storeAt,splice,E.cells?,V.cells,E.noMem,E.noLoc,E.noLp,callStep,vsOf,retE,V.flat,flats,St.obj,St.set,boxCells,Fr.loc_def,Fr.setLoc_def,E.part?,buildCells,buildSliceV,fillV,chunk,elemV,convV,vsOf,minMax,eqV,strBin,floatBin]
 ·obtain ⟨w,rfl⟩:=Int.eq_ofNat_of_zero_le h
  rcases Nat.lt_or_ge w 4611686018427387904 with h1 | h1
  ·refine ⟨w,?_⟩
   have e1:(w:Int)<4611686018427387904:=by omega
   have e2:¬ (w:Int)<0:=by omega
   have e3:¬ 4611686018427387904<(w:Int):=by omega
   have e4:w≤4611686018427387904:=by omega
   simp [G7,fq,hm7,hl7,ty24,ty3,e1,e2,e3,e4,evalCode,evalOps,wantedE,stepM,frzM,frzStep,frzOut,nilRefs,nilRef,marked,stepE,stepOp,startFr,Fr.clear,mapR_eq,take,upE,E.calm,Fr.putO,Fr.put_def,Fr.map_def,Fr.raw_def,Fr.get_def,Fr.lend,Fr.op,lk,ins,lset,E.inval,constV,constVs,V.toE,builtinStep,lenE,elemsOf,okV,okE,E.v?,V.strip,binV,E.int?,E.bool?,appendStep,appended,baseOf,resultsOut,resultE,byteVs_length,flats_bytes,V.strip1,V.one,sizes_bytes,sizesOk,consume,E.weak,unV,sliceStep,boundOf,clip,indexAddrStep,indexStep,addrAdd,loadAt,placeOf,loadCs,cellE,storeAt,splice,E.cells?,V.cells,E.noMem,E.noLoc,E.noLp,callStep,vsOf,retE,V.flat,flats,St.obj,St.set,boxCells,Fr.loc_def,Fr.setLoc_def,E.part?,buildCells,buildSliceV,fillV,chunk,elemV,convV,vsOf,minMax,eqV,strBin,floatBin]
   try omega
  ·refine ⟨4611686018427387904,?_⟩
   have e1:¬ (w:Int)<4611686018427387904:=by omega
   have e2:¬ (w:Int)<0:=by omega
   simp [G7,fq,hm7,hl7,ty24,ty3,e1,e2,evalCode,evalOps,wantedE,stepM,frzM,frzStep,frzOut,nilRefs,nilRef,marked,stepE,stepOp,startFr,Fr.clear,mapR_eq,take,upE,E.calm,Fr.putO,Fr.put_def,Fr.map_def,Fr.raw_def,Fr.get_def,Fr.lend,Fr.op,lk,ins,lset,E.inval,constV,constVs,V.toE,builtinStep,lenE,elemsOf,okV,okE,E.v?,V.strip,binV,E.int?,E.bool?,appendStep,appended,baseOf,resultsOut,resultE,byteVs_length,flats_bytes,V.strip1,V.one,sizes_bytes,sizesOk,consume,E.weak,unV,sliceStep,boundOf,clip,indexAddrStep,indexStep,addrAdd,loadAt,placeOf,loadCs,cellE,storeAt,splice,E.cells?,V.cells,E.noMem,E.noLoc,E.noLp,callStep,vsOf,retE,V.flat,flats,St.obj,St.set,boxCells,Fr.loc_def,Fr.setLoc_def,E.part?,buildCells,buildSliceV,fillV,chunk,elemV,convV,vsOf,minMax,eqV,strBin,floatBin]
   (repeat' split) <;> omega
theorem b3 (a a' b:Int)(c:Nat)(s s':List UInt8)(L:List Int)(k:Nat)(T0:List (Nat × E)):∃ T,ev7 [true,true,true,false] (H7 a b c s L (.val (.ptr 4 0)) .any .any .any T0) (fq a' b c s' L k)=some (.normal,H7 a b c s L (.val (.ptr 4 0)) .any .any .any T,fq a' b c (s'.take 200) L k):=by
 have h:∀ st,evalFn gS 61 20 [.str s',.int .i64 200] st=some (.ret (.str (s'.take 200)) none,st):=fun st=>short 60 s' 200 st
 simp only [ev7,codeAt,codeOf,Try.f7,Option.getD_some,if_true,Bool.false_eq_true,if_false]
 simp [G7,fq,hm7,hl7,ty24,ty9,ty3,gext,fn20,mkFI,Try.f20,h,evalCode,evalOps,wantedE,stepM,frzM,frzStep,frzOut,nilRefs,nilRef,marked,stepE,stepOp,startFr,Fr.clear,mapR_eq,take,upE,E.calm,Fr.putO,Fr.put_def,Fr.map_def,Fr.raw_def,Fr.get_def,Fr.lend,Fr.op,lk,ins,lset,E.inval,constV,constVs,V.toE,builtinStep,lenE,elemsOf,okV,okE,E.v?,V.strip,binV,E.int?,E.bool?,appendStep,appended,baseOf,resultsOut,resultE,byteVs_length,flats_bytes,V.strip1,V.one,sizes_bytes,sizesOk,consume,E.weak,unV,sliceStep,boundOf,clip,indexAddrStep,indexStep,addrAdd,loadAt,placeOf,loadCs,cellE,storeAt,splice,E.cells?,V.cells,E.noMem,E.noLoc,E.noLp,callStep,vsOf,retE,V.flat,flats,St.obj,St.set,boxCells,Fr.loc_def,Fr.setLoc_def,E.part?,buildCells,buildSliceV,fillV,chunk,elemV,convV,vsOf,minMax,eqV,strBin,floatBin]
theorem b45 (a a' b:Int)(c:Nat)(s s':List UInt8)(L:List Int)(hc:c<2 ^ 64)(T0:List (Nat × E)):∃ c' k T,c'<2 ^ 64∧ev7 [true,true,true,true,false] (H7 a b c s L (.val (.ptr 4 0)) .any .any .any T0) (fq a' b c s' L 0)=some (.normal,H7 a b c s L (.val (.ptr 4 0)) .any .any .any T,fq a' b c' s' L k):=by
 obtain ⟨r,k1,hr,hk,hn⟩:=next30q 59 a' b c s' L 0 2 (by decide) (by decide) (by decide)
 obtain ⟨y,k2,hy,hk2,hf⟩:=float31q 57 a' b c s' L k1 (by omega)
 have hn':evalFn gS 61 30 [.ptr 4 0,.int .i64 2] (fq a' b c s' L 0)=some (.ret (.int .i64 r) none,fq a' b c s' L k1):=hn
 have hf':evalFn gS 61 31 [.ptr 4 0] (fq a' b c s' L k1)=some (.ret (.float .f64 y) none,fq a' b c s' L k2):=hf
 by_cases h:(r:Int)=1
 ·refine ⟨y,k2,?_⟩;rw [exists_and_left];refine ⟨hy,?_⟩
  have h1:((r:Int) == 1)=true:=by rw [beq_iff_eq];exact h
  simp only [ev7,codeAt,codeOf,Try.f7,Option.getD_some,if_true,Bool.false_eq_true,if_false]
  simp [gext,fn30,fn31,show fi30.pure=false from rfl,show fi31.pure=false from rfl,hn',hf',hm7,hl7,G7,ty3,ty38',ib_eql,h1,evalCode,evalOps,wantedE,stepM,frzM,frzStep,frzOut,nilRefs,nilRef,marked,stepE,stepOp,startFr,Fr.clear,mapR_eq,take,upE,E.calm,Fr.putO,Fr.put_def,Fr.map_def,Fr.raw_def,Fr.get_def,Fr.lend,Fr.op,lk,ins,lset,E.inval,constV,constVs,V.toE,builtinStep,lenE,elemsOf,okV,okE,E.v?,V.strip,binV,E.int?,E.bool?,appendStep,appended,baseOf,resultsOut,resultE,byteVs_length,flats_bytes,V.strip1,V.one,sizes_bytes,sizesOk,consume,E.weak,unV,sliceStep,boundOf,clip,indexAddrStep,indexStep,addrAdd,loadAt,placeOf,loadCs,cellE,storeAt,splice,E.cells?,V.cells,E.noMem,E.noLoc,E.noLp,callStep,vsOf,retE,V.flat,flats,St.obj,St.set,boxCells,Fr.loc_def,Fr.setLoc_def,E.part?,buildCells,buildSliceV,fillV,chunk,elemV,convV,vsOf,minMax,eqV,strBin,floatBin]
  simp [fq]
 ·refine ⟨c,k1,?_⟩;rw [exists_and_left];refine ⟨hc,?_⟩
  have h1:((r:Int) == 1)=false:=by rw [beq_eq_false_iff_ne];exact h
  simp only [ev7,codeAt,codeOf,Try.f7,Option.getD_some,if_true,Bool.false_eq_true,if_false]
  simp [gext,fn30,fn31,show fi30.pure=false from rfl,show fi31.pure=false from rfl,hn',hf',hm7,hl7,G7,ty3,ty38',ib_eql,h1,evalCode,evalOps,wantedE,stepM,frzM,frzStep,frzOut,nilRefs,nilRef,marked,stepE,stepOp,startFr,Fr.clear,mapR_eq,take,upE,E.calm,Fr.putO,Fr.put_def,Fr.map_def,Fr.raw_def,Fr.get_def,Fr.lend,Fr.op,lk,ins,lset,E.inval,constV,constVs,V.toE,builtinStep,lenE,elemsOf,okV,okE,E.v?,V.strip,binV,E.int?,E.bool?,appendStep,appended,baseOf,resultsOut,resultE,byteVs_length,flats_bytes,V.strip1,V.one,sizes_bytes,sizesOk,consume,E.weak,unV,sliceStep,boundOf,clip,indexAddrStep,indexStep,addrAdd,loadAt,placeOf,loadCs,cellE,storeAt,splice,E.cells?,V.cells,E.noMem,E.noLoc,E.noLp,callStep,vsOf,retE,V.flat,flats,St.obj,St.set,boxCells,Fr.loc_def,Fr.setLoc_def,E.part?,buildCells,buildSliceV,fillV,chunk,elemV,convV,vsOf,minMax,eqV,strBin,floatBin]
end Go.Proofs.Ytiiahehclbmodaa
namespace Go.Proofs.Ytiiahehclbmodaa
open Go Go.Ab
noncomputable def ops7:Array Oper:=opsAt (codeAt (codeOf Try.f7) [true,true,true,true,true,false])
theorem reg7:codeAt (codeOf Try.f7) [true,true,true,true,true,false]=.region 6 ops7 true:=by kernel_rfl
theorem lex7:Region.lexB .any ops7=true:=by kernel_rfl
def qL:Fl:=qz0
def qC:Fl:=qz1
def qS:Fl:=qz2
theorem rows7:rowsOf gS fi7 ops7 ops7.toList 0=(ops7.toList.zip [qL,qC,qL,qC,qL,qC,qL,qC,qS,qS]).map (fun p=>(mini1 p.1,p.2)):=by kernel_rfl
set_option maxRecDepth 40000
set_option maxHeartbeats 4000000
theorem b6 (a b' b:Int)(n:Nat)(c c':Nat)(s s':List UInt8)(L:List Int)(k:Nat)(hn:n≤4611686018427387904)(hs:s'.length≤200)(T0:List (Nat × E)) :
  ∃ T,ev7 [true,true,true,true,true,false] (H7 a b c s L (.val (.ptr 4 0)) .any .any .any T0) (fq n b' c' s' L k)=some (.normal,H7 a b c s L (.val (.ptr 4 0)) (.val (.ptr 5 0)) .any .any T,{fq n b' c' s' L k with objs:=(fq n b' c' s' L k).objs ++ [[.slice (byteVs (vbytes n ++ words (IntKind.wrap .u64 b') ++ words (bitsOf c') ++ vbytes s'.length ++ s'))]]}):=by
 have p1:=vbytes_le n
 have p4:∀ u,(words u).length=8:=fun u=>rfl
 have h1:∀ st,evalFn gS 61 19 [.slice [],.int .i64 n] st=some (.ret (.slice (byteVs (vbytes n))) (some 1),st):=fun st=>nat19 49 n [] hn (by simp) st
 have h2:=fun st=>int22 48 (vbytes n) b' (by omega) st
 have h3:=fun st=>float34 48 (vbytes n ++ words (IntKind.wrap .u64 b')) c' (by simp only [zla,p4];omega) st
 have h4:=fun st=>text21 48 (vbytes n ++ words (IntKind.wrap .u64 b') ++ words (bitsOf c')) s' (by simp only [zla,p4];omega) (by omega) st
 have w1:(vbytes n ++ words (IntKind.wrap .u64 b') ++ words (bitsOf c') ++ vbytes s'.length ++ s').length≤140737488355328:=by
  have:=vbytes_le s'.length
  simp only [zla,p4];omega
 generalize vbytes n ++ words (IntKind.wrap .u64 b') ++ words (bitsOf c') ++ vbytes s'.length ++ s'=W at *
 generalize vbytes n ++ words (IntKind.wrap .u64 b') ++ words (bitsOf c')=W3 at *
 generalize vbytes n ++ words (IntKind.wrap .u64 b')=W2 at *
 unfold ev7
 rw [reg7]
 simp only [evalCode,if_true,lex7,evalX_eq,rows7]
 simp only [ops7,codeAt,codeOf,Try.f7,Option.getD_some,if_true,Bool.false_eq_true,if_false,opsAt]
 simp [evalX,stepX,stepQ,weakX,wantedD,mini1,qL,qC,qS,Fr.puts,E.still,G7,fq,hm7,hl7,ty24,ty9,ty3,ty2,ty38',gext,fn19,fn22,fn34,fn21,show fi19.pure=true from rfl,mkFI,Try.f19,Try.f22,Try.f34,Try.f21,h1,h2,h3,h4,w1,evalCode,evalOps,wantedE,stepM,frzM,frzStep,frzOut,nilRefs,nilRef,marked,stepE,stepOp,startFr,Fr.clear,mapR_eq,take,upE,E.calm,Fr.putO,Fr.put_def,Fr.map_def,Fr.raw_def,Fr.get_def,Fr.lend,Fr.op,lk,ins,lset,E.inval,constV,constVs,V.toE,builtinStep,lenE,elemsOf,okV,okE,E.v?,V.strip,binV,E.int?,E.bool?,appendStep,appended,baseOf,resultsOut,resultE,byteVs_length,flats_bytes,V.strip1,V.one,sizes_bytes,sizesOk,consume,E.weak,unV,sliceStep,boundOf,clip,indexAddrStep,indexStep,addrAdd,loadAt,placeOf,loadCs,cellE,storeAt,splice,E.cells?,V.cells,E.noMem,E.noLoc,E.noLp,callStep,vsOf,retE,V.flat,flats,St.obj,St.set,boxCells,Fr.loc_def,Fr.setLoc_def,E.part?,buildCells,buildSliceV,fillV,chunk,elemV,convV,vsOf,minMax,eqV,strBin,floatBin]
end Go.Proofs.Ytiiahehclbmodaa
namespace Go.Proofs.Ytiiahehclbmodaa
open Go Go.Ab
noncomputable def fi45:FI:={body:=codeOf Try.f45,ntmps:=71,results:=[],pers:=[0,1,2,3,4,5,6,8,9,10,11,12],locals:=[],pure:=false,marks:=[]}
theorem fn45:gS.fn 45=some fi45:=by kernel_rfl
theorem fn46:gS.fn 46=some (fiOf 46):=by kernel_rfl
theorem p46:(fiOf 46).pure=true:=by kernel_rfl
theorem sign46 (m:Nat)(st:St):evalFn gS (m+3) 46 [.float .f64 0] st=some (.ret (.bool false) none,st):=by kernel_rfl
theorem start45 (a b c d e f g:V):startFr fi45 [a,b,c,d,e,f,g]={ps:=[(0,.val a),(1,.val b),(2,.val c),(3,.val d),(4,.val e),(5,.val f),(6,.val g),(8,.any),(9,.any),(10,.any),(11,.any),(12,.any)],ts:=[],lc:=[]}:=rfl
theorem split45:codeOf Try.f45=.seq (codeAt (codeOf Try.f45) [false]) (.seq (codeAt (codeOf Try.f45) [true,false]) (.seq (codeAt (codeOf Try.f45) [true,true,false]) (.seq (codeAt (codeOf Try.f45) [true,true,true,false]) (.seq (codeAt (codeOf Try.f45) [true,true,true,true,false]) (codeAt (codeOf Try.f45) [true,true,true,true,true]))))):=by kernel_rfl
theorem ty4:gS.ty 4=some {k:=.bool,size:=1,agg:=false,zero:=[.bool false]}:=by kernel_rfl
theorem hm45:fi45.marks=[]:=rfl
theorem hl45:fi45.locals=[]:=rfl
def sq (n:Nat)(b:Int)(c:Nat)(s:List UInt8)(L:List Int)(k:Nat)(W:List UInt8)(ok:Bool)(F:V)(at_:Nat):St :=
 ⟨[[.int .i64 n],[.int .i64 b],[.float .f64 c],[.str s],[.slice (intVs L),.int .i64 k],[.slice (byteVs W)],[.bool ok],[F],[.slice (byteVs W),.int .i64 at_],[.ptr 8 0]],0⟩
def G45 (e8 e9 e10 e11 e12:E)(T:List (Nat × E)):Fr:={ps:=[(0,.val (.ptr 8 0)),(1,.val (.ptr 5 0)),(2,.val (.ptr 0 0)),(3,.val (.ptr 1 0)),(4,.val (.ptr 2 0)),(5,.val (.ptr 3 0)),(6,.val (.ptr 6 0)),(8,e8),(9,e9),(10,e10),(11,e11),(12,e12)],ts:=T,lc:=[]}
set_option maxRecDepth 40000
set_option maxHeartbeats 4000000
noncomputable def ev45 (m:Nat)(p:List Bool)(fr:Fr)(st:St):=evalCode gS fi45 (evalFn gS m) m (codeAt (codeOf Try.f45) p) fr st
theorem d0 (m:Nat)(z:Int)(st:St)(h:evalFn gS m 15 [.ptr 8 0] st=some (.ret (.int .i64 z) none,st)):∃ T,ev45 m [false] (G45 .any .any .any .any .any []) st=some (.normal,G45 (.val (.int .i64 z)) .any .any .any .any T,st):=by
 simp only [ev45,codeAt,codeOf,Try.f45,Option.getD_some,if_true,Bool.false_eq_true,if_false]
 simp [G45,gext,fn15,show fi15.pure=false from rfl,h,hm45,hl45,ty3,evalCode,evalOps,wantedE,stepM,frzM,frzStep,frzOut,nilRefs,nilRef,marked,stepE,stepOp,startFr,Fr.clear,mapR_eq,take,upE,E.calm,Fr.putO,Fr.put_def,Fr.map_def,Fr.raw_def,Fr.get_def,Fr.lend,Fr.op,lk,ins,lset,E.inval,constV,constVs,V.toE,builtinStep,lenE,elemsOf,okV,okE,E.v?,V.strip,binV,E.int?,E.bool?,appendStep,appended,baseOf,resultsOut,resultE,byteVs_length,flats_bytes,V.strip1,V.one,sizes_bytes,sizesOk,consume,E.weak,unV,sliceStep,boundOf,clip,indexAddrStep,indexStep,addrAdd,loadAt,placeOf,loadCs,cellE,storeAt,splice,E.cells?,V.cells,E.noMem,E.noLoc,E.noLp,callStep,vsOf,retE,V.flat,flats,St.obj,St.set,boxCells,Fr.loc_def,Fr.setLoc_def,E.part?,buildCells,buildSliceV,fillV,chunk,elemV,convV,vsOf,minMax,eqV,strBin,floatBin]
theorem d1 (m:Nat)(z w:Int)(st st':St)(T0:List (Nat × E))(h:evalFn gS m 10 [.ptr 8 0] st=some (.ret (.int .i64 w) none,st')):∃ T,ev45 m [true,false] (G45 (.val (.int .i64 z)) .any .any .any .any T0) st=some (.normal,G45 (.val (.int .i64 z)) (.val (.int .i64 w)) .any .any .any T,st'):=by
 simp only [ev45,codeAt,codeOf,Try.f45,Option.getD_some,if_true,Bool.false_eq_true,if_false]
 simp [G45,gext,fn10,show fi10.pure=false from rfl,h,hm45,hl45,ty3,evalCode,evalOps,wantedE,stepM,frzM,frzStep,frzOut,nilRefs,nilRef,marked,stepE,stepOp,startFr,Fr.clear,mapR_eq,take,upE,E.calm,Fr.putO,Fr.put_def,Fr.map_def,Fr.raw_def,Fr.get_def,Fr.lend,Fr.op,lk,ins,lset,E.inval,constV,constVs,V.toE,builtinStep,lenE,elemsOf,okV,okE,E.v?,V.strip,binV,E.int?,E.bool?,appendStep,appended,baseOf,resultsOut,resultE,byteVs_length,flats_bytes,V.strip1,V.one,sizes_bytes,sizesOk,consume,E.weak,unV,sliceStep,boundOf,clip,indexAddrStep,indexStep,addrAdd,loadAt,placeOf,loadCs,cellE,storeAt,splice,E.cells?,V.cells,E.noMem,E.noLoc,E.noLp,callStep,vsOf,retE,V.flat,flats,St.obj,St.set,boxCells,Fr.loc_def,Fr.setLoc_def,E.part?,buildCells,buildSliceV,fillV,chunk,elemV,convV,vsOf,minMax,eqV,strBin,floatBin]
theorem d2 (m:Nat)(z w b:Int)(st st':St)(T0:List (Nat × E))(h:evalFn gS m 24 [.ptr 8 0] st=some (.ret (.int .i64 b) none,st')):∃ T,ev45 m [true,true,false] (G45 (.val (.int .i64 z)) (.val (.int .i64 w)) .any .any .any T0) st=some (.normal,G45 (.val (.int .i64 z)) (.val (.int .i64 w)) (.val (.int .i64 b)) .any .any T,st'):=by
 simp only [ev45,codeAt,codeOf,Try.f45,Option.getD_some,if_true,Bool.false_eq_true,if_false]
 simp [G45,gext,fn24,show fi24.pure=false from rfl,h,hm45,hl45,ty2,evalCode,evalOps,wantedE,stepM,frzM,frzStep,frzOut,nilRefs,nilRef,marked,stepE,stepOp,startFr,Fr.clear,mapR_eq,take,upE,E.calm,Fr.putO,Fr.put_def,Fr.map_def,Fr.raw_def,Fr.get_def,Fr.lend,Fr.op,lk,ins,lset,E.inval,constV,constVs,V.toE,builtinStep,lenE,elemsOf,okV,okE,E.v?,V.strip,binV,E.int?,E.bool?,appendStep,appended,baseOf,resultsOut,resultE,byteVs_length,flats_bytes,V.strip1,V.one,sizes_bytes,sizesOk,consume,E.weak,unV,sliceStep,boundOf,clip,indexAddrStep,indexStep,addrAdd,loadAt,placeOf,loadCs,cellE,storeAt,splice,E.cells?,V.cells,E.noMem,E.noLoc,E.noLp,callStep,vsOf,retE,V.flat,flats,St.obj,St.set,boxCells,Fr.loc_def,Fr.setLoc_def,E.part?,buildCells,buildSliceV,fillV,chunk,elemV,convV,vsOf,minMax,eqV,strBin,floatBin]
theorem d3 (m:Nat)(z w b:Int)(d:Nat)(st st':St)(T0:List (Nat × E))(h:evalFn gS m 38 [.ptr 8 0] st=some (.ret (.float .f64 d) none,st')):∃ T,ev45 m [true,true,true,false] (G45 (.val (.int .i64 z)) (.val (.int .i64 w)) (.val (.int .i64 b)) .any .any T0) st=some (.normal,G45 (.val (.int .i64 z)) (.val (.int .i64 w)) (.val (.int .i64 b)) (.val (.float .f64 d)) .any T,st'):=by
 simp only [ev45,codeAt,codeOf,Try.f45,Option.getD_some,if_true,Bool.false_eq_true,if_false]
 simp [G45,gext,fn38,show fi38.pure=false from rfl,h,hm45,hl45,ty38',evalCode,evalOps,wantedE,stepM,frzM,frzStep,frzOut,nilRefs,nilRef,marked,stepE,stepOp,startFr,Fr.clear,mapR_eq,take,upE,E.calm,Fr.putO,Fr.put_def,Fr.map_def,Fr.raw_def,Fr.get_def,Fr.lend,Fr.op,lk,ins,lset,E.inval,constV,constVs,V.toE,builtinStep,lenE,elemsOf,okV,okE,E.v?,V.strip,binV,E.int?,E.bool?,appendStep,appended,baseOf,resultsOut,resultE,byteVs_length,flats_bytes,V.strip1,V.one,sizes_bytes,sizesOk,consume,E.weak,unV,sliceStep,boundOf,clip,indexAddrStep,indexStep,addrAdd,loadAt,placeOf,loadCs,cellE,storeAt,splice,E.cells?,V.cells,E.noMem,E.noLoc,E.noLp,callStep,vsOf,retE,V.flat,flats,St.obj,St.set,boxCells,Fr.loc_def,Fr.setLoc_def,E.part?,buildCells,buildSliceV,fillV,chunk,elemV,convV,vsOf,minMax,eqV,strBin,floatBin]
theorem d4 (m:Nat)(z w b:Int)(d:Nat)(s:List UInt8)(st st':St)(T0:List (Nat × E))(h:evalFn gS m 17 [.ptr 8 0,.int .i64 200] st=some (.ret (.str s) none,st')):∃ T,ev45 m [true,true,true,true,false] (G45 (.val (.int .i64 z)) (.val (.int .i64 w)) (.val (.int .i64 b)) (.val (.float .f64 d)) .any T0) st=some (.normal,G45 (.val (.int .i64 z)) (.val (.int .i64 w)) (.val (.int .i64 b)) (.val (.float .f64 d)) (.val (.str s)) T,st'):=by
 simp only [ev45,codeAt,codeOf,Try.f45,Option.getD_some,if_true,Bool.false_eq_true,if_false]
 simp [G45,gext,fn17,show fi17.pure=false from rfl,h,hm45,hl45,ty9,evalCode,evalOps,wantedE,stepM,frzM,frzStep,frzOut,nilRefs,nilRef,marked,stepE,stepOp,startFr,Fr.clear,mapR_eq,take,upE,E.calm,Fr.putO,Fr.put_def,Fr.map_def,Fr.raw_def,Fr.get_def,Fr.lend,Fr.op,lk,ins,lset,E.inval,constV,constVs,V.toE,builtinStep,lenE,elemsOf,okV,okE,E.v?,V.strip,binV,E.int?,E.bool?,appendStep,appended,baseOf,resultsOut,resultE,byteVs_length,flats_bytes,V.strip1,V.one,sizes_bytes,sizesOk,consume,E.weak,unV,sliceStep,boundOf,clip,indexAddrStep,indexStep,addrAdd,loadAt,placeOf,loadCs,cellE,storeAt,splice,E.cells?,V.cells,E.noMem,E.noLoc,E.noLp,callStep,vsOf,retE,V.flat,flats,St.obj,St.set,boxCells,Fr.loc_def,Fr.setLoc_def,E.part?,buildCells,buildSliceV,fillV,chunk,elemV,convV,vsOf,minMax,eqV,strBin,floatBin]
theorem d5 (m:Nat)(n:Nat)(b:Int)(c d:Nat)(s:List UInt8)(L:List Int)(k:Nat)(W:List UInt8)(F:V)(hc:(ord c c=true∧ord d c=true∧(d=0∨ord d 0=false))∨(ord c c=false∧ord d d=false∧ord d 0=false))
  (T0:List (Nat × E)) (h15:evalFn gS (m+13) 15 [.ptr 8 0] (sq n b c s L k W false F W.length)=some (.ret (.int .i64 0) none,sq n b c s L k W false F W.length)) :
  ∃ fr',ev45 (m+13) [true,true,true,true,true] (G45 (.val (.int .i64 W.length)) (.val (.int .i64 n)) (.val (.int .i64 b)) (.val (.float .f64 d)) (.val (.str s)) T0) (sq n b c s L k W false F W.length)=some (.normal,fr',sq n b c s L k W true F W.length):=by
 have o1:∀ x y,(FloatKind.f64.format.order x y == some .eq)=ord x y:=fun _ _=>rfl
 have o2:∀ x y,(FloatKind.f64.format.order x y != some .eq)=!ord x y:=fun _ _=>rfl
 have z0:ord 0 0=true:=by decide +kernel
 simp only [ev45,codeAt,codeOf,Try.f45,Option.getD_some,if_true,Bool.false_eq_true,if_false]
 unfold sq at h15 ⊢
 rcases hc with ⟨c1,c2,rfl | c3⟩ | ⟨c1,c2,c3⟩
 ·simp [G45,gext,fn15,show fi15.pure=false from rfl,h15,hm45,hl45,ty4,ty24,ty2,ty3,ty9,ty38',fn46,p46,sign46,o1,o2,c1,c2,z0,ib_eql,evalCode,evalOps,wantedE,stepM,frzM,frzStep,frzOut,nilRefs,nilRef,marked,stepE,stepOp,startFr,Fr.clear,mapR_eq,take,upE,E.calm,Fr.putO,Fr.put_def,Fr.map_def,Fr.raw_def,Fr.get_def,Fr.lend,Fr.op,lk,ins,lset,E.inval,constV,constVs,V.toE,builtinStep,lenE,elemsOf,okV,okE,E.v?,V.strip,binV,E.int?,E.bool?,appendStep,appended,baseOf,resultsOut,resultE,byteVs_length,flats_bytes,V.strip1,V.one,sizes_bytes,sizesOk,consume,E.weak,unV,sliceStep,boundOf,clip,indexAddrStep,indexStep,addrAdd,loadAt,placeOf,loadCs,cellE,storeAt,splice,E.cells?,V.cells,E.noMem,E.noLoc,E.noLp,callStep,vsOf,retE,V.flat,flats,St.obj,St.set,boxCells,Fr.loc_def,Fr.setLoc_def,E.part?,buildCells,buildSliceV,fillV,chunk,elemV,convV,vsOf,minMax,eqV,strBin,floatBin]
 ·simp [G45,gext,fn15,show fi15.pure=false from rfl,h15,hm45,hl45,ty4,ty24,ty2,ty3,ty9,ty38',fn46,p46,sign46,o1,o2,c1,c2,c3,z0,ib_eql,evalCode,evalOps,wantedE,stepM,frzM,frzStep,frzOut,nilRefs,nilRef,marked,stepE,stepOp,startFr,Fr.clear,mapR_eq,take,upE,E.calm,Fr.putO,Fr.put_def,Fr.map_def,Fr.raw_def,Fr.get_def,Fr.lend,Fr.op,lk,ins,lset,E.inval,constV,constVs,V.toE,builtinStep,lenE,elemsOf,okV,okE,E.v?,V.strip,binV,E.int?,E.bool?,appendStep,appended,baseOf,resultsOut,resultE,byteVs_length,flats_bytes,V.strip1,V.one,sizes_bytes,sizesOk,consume,E.weak,unV,sliceStep,boundOf,clip,indexAddrStep,indexStep,addrAdd,loadAt,placeOf,loadCs,cellE,storeAt,splice,E.cells?,V.cells,E.noMem,E.noLoc,E.noLp,callStep,vsOf,retE,V.flat,flats,St.obj,St.set,boxCells,Fr.loc_def,Fr.setLoc_def,E.part?,buildCells,buildSliceV,fillV,chunk,elemV,convV,vsOf,minMax,eqV,strBin,floatBin]
 ·cases hx:ord d c <;>
  simp [G45,gext,fn15,show fi15.pure=false from rfl,h15,hm45,hl45,ty4,ty24,ty2,ty3,ty9,ty38',fn46,p46,sign46,o1,o2,hx,c1,c2,c3,z0,ib_eql,evalCode,evalOps,wantedE,stepM,frzM,frzStep,frzOut,nilRefs,nilRef,marked,stepE,stepOp,startFr,Fr.clear,mapR_eq,take,upE,E.calm,Fr.putO,Fr.put_def,Fr.map_def,Fr.raw_def,Fr.get_def,Fr.lend,Fr.op,lk,ins,lset,E.inval,constV,constVs,V.toE,builtinStep,lenE,elemsOf,okV,okE,E.v?,V.strip,binV,E.int?,E.bool?,appendStep,appended,baseOf,resultsOut,resultE,byteVs_length,flats_bytes,V.strip1,V.one,sizes_bytes,sizesOk,consume,E.weak,unV,sliceStep,boundOf,clip,indexAddrStep,indexStep,addrAdd,loadAt,placeOf,loadCs,cellE,storeAt,splice,E.cells?,V.cells,E.noMem,E.noLoc,E.noLp,callStep,vsOf,retE,V.flat,flats,St.obj,St.set,boxCells,Fr.loc_def,Fr.setLoc_def,E.part?,buildCells,buildSliceV,fillV,chunk,elemV,convV,vsOf,minMax,eqV,strBin,floatBin]
end Go.Proofs.Ytiiahehclbmodaa
namespace Go.Proofs.Ytiiahehclbmodaa
open Go Go.Ab
theorem u8_n (x:Int):(((u8 x).toNat:Nat):Int)=x % 256:=by rw [u8_v,wrap8]
theorem words_len (u:Int):(words u).length=8:=rfl
set_option maxRecDepth 100000 in
theorem dig_words (u:Int)(h0:0≤u)(h1:u<2 ^ 64):(dig (words u) 0:Int)=u:=by
 unfold dig words
 simp only [List.foldl_cons,List.foldl_nil]
 push_cast
 simp only [u8_n]
 obtain ⟨w,rfl⟩:=Int.eq_ofNat_of_zero_le h0
 have f56:(w:Int).fdiv 72057594037927936=(w:Int) / 72057594037927936:=Int.fdiv_eq_ediv_of_nonneg _ (by decide)
 have f48:(w:Int).fdiv 281474976710656=(w:Int) / 281474976710656:=Int.fdiv_eq_ediv_of_nonneg _ (by decide)
 have f40:(w:Int).fdiv 1099511627776=(w:Int) / 1099511627776:=Int.fdiv_eq_ediv_of_nonneg _ (by decide)
 have f32:(w:Int).fdiv 4294967296=(w:Int) / 4294967296:=Int.fdiv_eq_ediv_of_nonneg _ (by decide)
 have f24:(w:Int).fdiv 16777216=(w:Int) / 16777216:=Int.fdiv_eq_ediv_of_nonneg _ (by decide)
 have f16:(w:Int).fdiv 65536=(w:Int) / 65536:=Int.fdiv_eq_ediv_of_nonneg _ (by decide)
 have f8:(w:Int).fdiv 256=(w:Int) / 256:=Int.fdiv_eq_ediv_of_nonneg _ (by decide)
 have f0:(w:Int).fdiv 1=(w:Int) / 1:=Int.fdiv_eq_ediv_of_nonneg _ (by decide)
 rw [f56,f48,f40,f32,f24,f16,f8,f0]
 omega
theorem wrap_back (b:Int)(h0:-9223372036854775808≤b)(h1:b≤9223372036854775807):IntKind.wrap .i64 (IntKind.wrap .u64 b)=b:=by
 rw [IntKind.wrap_u64,IntKind.wrap_i64];omega
theorem wrapU_range (b:Int):0≤IntKind.wrap .u64 b∧IntKind.wrap .u64 b<2 ^ 64:=by
 rw [IntKind.wrap_u64];omega
theorem nan0:ord 9221120237041090560 9221120237041090560=false:=by decide +kernel
theorem nan1:ord 9221120237041090560 0=false:=by decide +kernel
theorem zz0:ord 0 0=true:=by decide +kernel
theorem dorder_symm (a b:Ieee.Datum)(h:a.order b=some .eq):b.order a=some .eq:=by
 cases a <;> cases b <;> simp [Ieee.Datum.order] at h ⊢
 all_goals first
  | exact h.symm
  | (rw [Int.min_comm];exact h.symm)
  | (exfalso;revert h;split <;> intro h <;> cases h)
  | (rename_i s;cases s <;> cases h)
theorem ord_symm (x y:Nat)(h:ord x y=true):ord y x=true:=by
 have h1:FloatKind.f64.format.order x y=some .eq:=by simpa [ord] using h
 have h2:FloatKind.f64.format.order y x=some .eq:=dorder_symm _ _ h1
 simp [ord,h2]
theorem bits_back (c:Nat)(hc:c<2 ^ 64):∃ d:Nat,bitsOf c=d∧d<2 ^ 64∧bitsOf d=d∧((ord c c=true∧ord d c=true∧(d=0∨ord d 0=false))∨(ord c c=false∧ord d d=false∧ord d 0=false)):=by
 unfold bitsOf
 cases h1:ord c c with
 | false=>exact ⟨9221120237041090560,by simp,by decide,by rw [nan0];rfl,.inr ⟨rfl,nan0,nan1⟩⟩
 | true =>
  cases h2:ord c 0 with
  | true =>
   refine ⟨0,by simp,by decide,by rw [zz0];rfl,.inl ⟨rfl,?_,.inl rfl⟩⟩
   exact ord_symm _ _ h2
  | false=>exact ⟨c,by simp,hc,by rw [h1,h2];rfl,.inl ⟨rfl,h1,.inr h2⟩⟩
end Go.Proofs.Ytiiahehclbmodaa
namespace Go.Proofs.Ytiiahehclbmodaa
open Go Go.Ab
theorem mid (P X R:List UInt8)(p q:Nat)(hp:P.length=p)(hq:p+X.length=q):((P ++ X ++ R).take q).drop p=X:=by
 subst hp;subst hq
 rw [List.take_left' (by rw [zla]),List.drop_left]
theorem midg {P X R:List UInt8} {j:Nat} {c:UInt8} (h:X[j]?=some c):(P ++ X ++ R)[P.length+j]?=some c:=by
 have hx:=(List.getElem?_eq_some_iff.1 h).1
 rw [zaa,List.getElem?_append_right (by omega),Nat.add_sub_cancel_left,List.getElem?_append_left hx];exact h
def laid (n:Nat)(b:Int)(c:Nat)(s:List UInt8):List UInt8:=vbytes n ++ words (IntKind.wrap .u64 b) ++ words (bitsOf c) ++ vbytes s.length ++ s
theorem laid_len (n:Nat)(b:Int)(c:Nat)(s:List UInt8):(laid n b c s).length=(vbytes n).length+16+(vbytes s.length).length+s.length:=by
 unfold laid;simp only [zla,words_len]
set_option maxRecDepth 40000
set_option maxHeartbeats 4000000
theorem back45 (m:Nat)(n:Nat)(b:Int)(c:Nat)(s:List UInt8)(L:List Int)(k:Nat)(F:V)(hn:n≤4611686018427387904)(hb0:-9223372036854775808≤b)(hb1:b≤9223372036854775807)(hc:c<2 ^ 64)(hs:s.length≤200) :
  evalFn gS (m+14) 45 [.ptr 8 0,.ptr 5 0,.ptr 0 0,.ptr 1 0,.ptr 2 0,.ptr 3 0,.ptr 6 0] (sq n b c s L k (laid n b c s) false F 0)=some (.ret (.tuple []) none,sq n b c s L k (laid n b c s) true F (laid n b c s).length):=by
 obtain ⟨d,hd,hd2,hd3,hd4⟩:=bits_back c hc
 have hl:=laid_len n b c s
 have v1:=vbytes_le n
 have v2:=vbytes_le s.length
 have hW:(laid n b c s).length<2 ^ 48:=by omega
 have wr:=wrapU_range b
 have x2:((laid n b c s).take ((vbytes n).length+8)).drop (vbytes n).length=words (IntKind.wrap .u64 b):=by
  have:=mid (vbytes n) (words (IntKind.wrap .u64 b)) (words (bitsOf c) ++ vbytes s.length ++ s) _ ((vbytes n).length+8) rfl rfl
  rw [← this];unfold laid;simp only [zaa]
 have x3:((laid n b c s).take ((vbytes n).length+8+8)).drop ((vbytes n).length+8)=words (bitsOf c):=by
  have:=mid (vbytes n ++ words (IntKind.wrap .u64 b)) (words (bitsOf c)) (vbytes s.length ++ s) ((vbytes n).length+8) ((vbytes n).length+8+8) (by rw [zla,words_len]) rfl
  rw [← this];unfold laid;simp only [zaa]
 have x4:((laid n b c s).take ((vbytes n).length+8+8+(vbytes s.length).length+s.length)).drop ((vbytes n).length+8+8+(vbytes s.length).length)=s:=by
  have:=mid (vbytes n ++ words (IntKind.wrap .u64 b) ++ words (bitsOf c) ++ vbytes s.length) s [] ((vbytes n).length+8+8+(vbytes s.length).length) _ (by simp only [zla,words_len]) rfl
  rw [List.append_nil] at this
  exact this
 have g1:∀ (j:Nat) y,(vbytes n)[j]?=some y→(laid n b c s)[0+j]?=some y:=fun j y hy=>by
  have:=midg (P:=[]) (R:=words (IntKind.wrap .u64 b) ++ words (bitsOf c) ++ vbytes s.length ++ s) hy
  rw [← this];unfold laid;simp only [zaa,List.nil_append,List.length_nil]
 have g4:∀ (j:Nat) y,(vbytes s.length)[j]?=some y→(laid n b c s)[(vbytes n).length+8+8+j]?=some y:=fun j y hy=>by
  have:=midg (P:=vbytes n ++ words (IntKind.wrap .u64 b) ++ words (bitsOf c)) (R:=s) hy
  rw [show (vbytes n ++ words (IntKind.wrap .u64 b) ++ words (bitsOf c)).length=(vbytes n).length+8+8 from by simp only [zla,words_len]] at this
  exact this
 have y2:IntKind.wrap .i64 ((dig (words (IntKind.wrap .u64 b)) 0:Nat):Int)=b:=by rw [dig_words _ wr.1 wr.2,wrap_back b hb0 hb1]
 have y3:dig (words (bitsOf c)) 0=d:=by
  have:=dig_words (bitsOf c) (by omega) (by omega)
  omega
 generalize laid n b c s=W at *
 have k0:=left15 (m+12) W 8 0 (Nat.zero_le _) hW (sq n b c s L k W false F 0) rfl
 have k1:=nat10 m 8 0 n W (sq n b c s L k W false F 0) rfl (by simp [sq]) hW (by omega) hn g1
 rw [Nat.zero_add] at k1
 have k2:=int24 m 8 (vbytes n).length W (sq n b c s L k W false F (vbytes n).length) rfl (by simp [sq]) hW (by omega)
 rw [x2,y2] at k2
 have k3:=float38 m 8 ((vbytes n).length+8) W (sq n b c s L k W false F ((vbytes n).length+8)) rfl (by simp [sq]) hW (by omega) (by rw [x3,y3];exact hd3)
 rw [x3,y3] at k3
 have h49:=nat49 m 8 ((vbytes n).length+8+8) s.length W (sq n b c s L k W false F ((vbytes n).length+8+8)) ⟨_,rfl⟩ hW (by omega) (by omega) g4
 have k4:=text17 m 8 ((vbytes n).length+8+8) s.length ((vbytes n).length+8+8+(vbytes s.length).length) 200 W (sq n b c s L k W false F ((vbytes n).length+8+8)) rfl (by simp [sq]) hW h49 (by omega) (by omega)
 rw [x4] at k4
 have k5:=left15 (m+12) W 8 W.length (Nat.le_refl _) hW (sq n b c s L k W false F W.length) rfl
 rw [Nat.sub_self] at k5
 rw [Nat.sub_zero] at k0
 have hend:(vbytes n).length+8+8+(vbytes s.length).length+s.length=W.length:=by omega
 rw [hend] at k4
 obtain ⟨T0,s0⟩:=d0 (m+13) _ _ k0
 obtain ⟨T1,s1⟩:=d1 (m+13) W.length n _ (sq n b c s L k W false F (vbytes n).length) T0 k1
 obtain ⟨T2,s2⟩:=d2 (m+13) W.length n b _ (sq n b c s L k W false F ((vbytes n).length+8)) T1 k2
 obtain ⟨T3,s3⟩:=d3 (m+13) W.length n b d _ (sq n b c s L k W false F ((vbytes n).length+8+8)) T2 k3
 obtain ⟨T4,s4⟩:=d4 (m+13) W.length n b d s _ (sq n b c s L k W false F W.length) T3 k4
 obtain ⟨fr',s5⟩:=d5 m n b c d s L k W F hd4 T4 k5
 unfold ev45 at s0 s1 s2 s3 s4 s5
 rw [evalFn];simp only [hrun,evalBody,fn45]
 rw [show fi45.body=codeOf Try.f45 from rfl,split45,start45]
 rw [show ({ps:=[(0,.val (.ptr 8 0)),(1,.val (.ptr 5 0)),(2,.val (.ptr 0 0)),(3,.val (.ptr 1 0)),(4,.val (.ptr 2 0)),(5,.val (.ptr 3 0)),(6,.val (.ptr 6 0)),(8,.any),(9,.any),(10,.any),(11,.any),(12,.any)],ts:=[],lc:=[]}:Fr)=G45 .any .any .any .any .any [] from rfl]
 rw [seq_norm s0,seq_norm s1,seq_norm s2,seq_norm s3,seq_norm s4,s5]
 simp [show fi45.results=[] from rfl,resultsOut,vsOf,hm45,frzOut]
end Go.Proofs.Ytiiahehclbmodaa
namespace Go.Proofs.Ytiiahehclbmodaa
open Go Go.Ab
noncomputable def fi4:FI:={body:=codeOf Try.f4,ntmps:=63,results:=[.tmp 8],pers:=[0,1,2,3,8,9,10,11,12,13,14],locals:=[],pure:=false,marks:=[]}
def G4 (n s k c:V)(e8 e9 e10 e11 e12 e13 e14:E)(T:List (Nat × E)):Fr:={ps:=[(0,.val n),(1,.val s),(2,.val k),(3,.val c),(8,e8),(9,e9),(10,e10),(11,e11),(12,e12),(13,e13),(14,e14)],ts:=T,lc:=[]}
noncomputable def ev4 (p:List Bool)(fr:Fr)(st:St):=evalCode gS fi4 (evalFn gS 61) 61 (codeAt (codeOf Try.f4) p) fr st
theorem hm4:fi4.marks=[]:=rfl
theorem hl4:fi4.locals=[]:=rfl
set_option maxRecDepth 40000
set_option maxHeartbeats 4000000
theorem q1 (n0:Int)(s:V)(k c:V)(T0:List (Nat × E))(st:St):∃ (n:Nat) (T:List (Nat × E)),n≤4611686018427387904∧ev4 [true,false] (G4 (.int .i64 n0) s k c (.val (.bool false)) .any .any .any .any .any .any T0) st=some (.normal,G4 (.int .i64 n) s k c (.val (.bool false)) .any .any .any .any .any .any T,st):=by
 simp only [ev4,codeAt,codeOf,Try.f4,Option.getD_some,if_true,Bool.false_eq_true,if_false]
 rcases Int.lt_or_le n0 0 with h | h
 ·refine ⟨0,?_⟩
  have e1:n0<4611686018427387904:=by omega
  have e2:¬ 0<n0:=by omega
  have e3:¬ 4611686018427387904<n0:=by omega
  simp [G4,hm4,hl4,ty24,ty3,h,e1,e2,e3,evalCode,evalOps,wantedE,stepM,frzM,frzStep,frzOut,nilRefs,nilRef,marked,stepE,stepOp,startFr,Fr.clear,mapR_eq,take,upE,E.calm,Fr.putO,Fr.put_def,Fr.map_def,Fr.raw_def,Fr.get_def,Fr.lend,Fr.op,lk,ins,lset,E.inval,constV,constVs,V.toE,builtinStep,lenE,elemsOf,okV,okE,E.v?,V.strip,binV,E.int?,E.bool?,appendStep,appended,baseOf,resultsOut,resultE,byteVs_length,flats_bytes,V.strip1,V.one,sizes_bytes,sizesOk,consume,E.weak,unV,sliceStep,boundOf,clip,indexAddrStep,indexStep,addrAdd,loadAt,placeOf,loadCs,cellE,storeAt,splice,E.cells?,V.cells,E.noMem,E.noLoc,E.noLp,callStep,vsOf,retE,V.flat,flats,St.obj,St.set,boxCells,Fr.loc_def,Fr.setLoc_def,E.part?,buildCells,buildSliceV,fillV,chunk,elemV,convV,vsOf,minMax,eqV,strBin,floatBin]
 ·obtain ⟨w,rfl⟩:=Int.eq_ofNat_of_zero_le h
  rcases Nat.lt_or_ge w 4611686018427387904 with h1 | h1
  ·refine ⟨w,?_⟩
   have e1:(w:Int)<4611686018427387904:=by omega
   have e2:¬ (w:Int)<0:=by omega
   have e3:¬ 4611686018427387904<(w:Int):=by omega
   have e4:w≤4611686018427387904:=by omega
   simp [G4,hm4,hl4,ty24,ty3,e1,e2,e3,e4,evalCode,evalOps,wantedE,stepM,frzM,frzStep,frzOut,nilRefs,nilRef,marked,stepE,stepOp,startFr,Fr.clear,mapR_eq,take,upE,E.calm,Fr.putO,Fr.put_def,Fr.map_def,Fr.raw_def,Fr.get_def,Fr.lend,Fr.op,lk,ins,lset,E.inval,constV,constVs,V.toE,builtinStep,lenE,elemsOf,okV,okE,E.v?,V.strip,binV,E.int?,E.bool?,appendStep,appended,baseOf,resultsOut,resultE,byteVs_length,flats_bytes,V.strip1,V.one,sizes_bytes,sizesOk,consume,E.weak,unV,sliceStep,boundOf,clip,indexAddrStep,indexStep,addrAdd,loadAt,placeOf,loadCs,cellE,storeAt,splice,E.cells?,V.cells,E.noMem,E.noLoc,E.noLp,callStep,vsOf,retE,V.flat,flats,St.obj,St.set,boxCells,Fr.loc_def,Fr.setLoc_def,E.part?,buildCells,buildSliceV,fillV,chunk,elemV,convV,vsOf,minMax,eqV,strBin,floatBin]
   try omega
  ·refine ⟨4611686018427387904,?_⟩
   have e1:¬ (w:Int)<4611686018427387904:=by omega
   have e2:¬ (w:Int)<0:=by omega
   simp [G4,hm4,hl4,ty24,ty3,e1,e2,evalCode,evalOps,wantedE,stepM,frzM,frzStep,frzOut,nilRefs,nilRef,marked,stepE,stepOp,startFr,Fr.clear,mapR_eq,take,upE,E.calm,Fr.putO,Fr.put_def,Fr.map_def,Fr.raw_def,Fr.get_def,Fr.lend,Fr.op,lk,ins,lset,E.inval,constV,constVs,V.toE,builtinStep,lenE,elemsOf,okV,okE,E.v?,V.strip,binV,E.int?,E.bool?,appendStep,appended,baseOf,resultsOut,resultE,byteVs_length,flats_bytes,V.strip1,V.one,sizes_bytes,sizesOk,consume,E.weak,unV,sliceStep,boundOf,clip,indexAddrStep,indexStep,addrAdd,loadAt,placeOf,loadCs,cellE,storeAt,splice,E.cells?,V.cells,E.noMem,E.noLoc,E.noLp,callStep,vsOf,retE,V.flat,flats,St.obj,St.set,boxCells,Fr.loc_def,Fr.setLoc_def,E.part?,buildCells,buildSliceV,fillV,chunk,elemV,convV,vsOf,minMax,eqV,strBin,floatBin]
   (repeat' split) <;> omega
theorem fn29:∃ fi,gS.fn 29=some fi∧fi.pure=true:=⟨fiOf 29,by kernel_rfl,by kernel_rfl⟩
end Go.Proofs.Ytiiahehclbmodaa
namespace Go.Proofs.Ytiiahehclbmodaa
open Go Go.Ab
def tq (n:Nat)(b:Int)(c:Nat)(s:List UInt8)(L:List Int)(k:Nat)(W:List UInt8):St :=
 ⟨[[.int .i64 n],[.int .i64 b],[.float .f64 c],[.str s],[.slice (intVs L),.int .i64 k],[.slice (byteVs W)],[.bool false]],0⟩
def caps7:List V:=[.ptr 5 0,.ptr 0 0,.ptr 1 0,.ptr 2 0,.ptr 3 0,.ptr 6 0]
set_option maxRecDepth 40000
set_option maxHeartbeats 4000000
theorem b7 (a b:Int)(c:Nat)(s:List UInt8)(L:List Int)(n:Nat)(b':Int)(c':Nat)(s':List UInt8)(k:Nat)(W:List UInt8)(T0:List (Nat × E)) :
  ∃ T,ev7 [true,true,true,true,true,true,false] (H7 a b c s L (.val (.ptr 4 0)) (.val (.ptr 5 0)) .any .any T0) {fq n b' c' s' L k with objs:=(fq n b' c' s' L k).objs ++ [[.slice (byteVs W)]]}=some (.normal,H7 a b c s L (.val (.ptr 4 0)) (.val (.ptr 5 0)) (.val (.ptr 6 0)) .any T,tq n b' c' s' L k W):=by
 simp only [ev7,codeAt,codeOf,Try.f7,Option.getD_some,if_true,Bool.false_eq_true,if_false]
 simp [G7,fq,tq,hm7,hl7,ty4,evalCode,evalOps,wantedE,stepM,frzM,frzStep,frzOut,nilRefs,nilRef,marked,stepE,stepOp,startFr,Fr.clear,mapR_eq,take,upE,E.calm,Fr.putO,Fr.put_def,Fr.map_def,Fr.raw_def,Fr.get_def,Fr.lend,Fr.op,lk,ins,lset,E.inval,constV,constVs,V.toE,builtinStep,lenE,elemsOf,okV,okE,E.v?,V.strip,binV,E.int?,E.bool?,appendStep,appended,baseOf,resultsOut,resultE,byteVs_length,flats_bytes,V.strip1,V.one,sizes_bytes,sizesOk,consume,E.weak,unV,sliceStep,boundOf,clip,indexAddrStep,indexStep,addrAdd,loadAt,placeOf,loadCs,cellE,storeAt,splice,E.cells?,V.cells,E.noMem,E.noLoc,E.noLp,callStep,vsOf,retE,V.flat,flats,St.obj,St.set,boxCells,Fr.loc_def,Fr.setLoc_def,E.part?,buildCells,buildSliceV,fillV,chunk,elemV,convV,vsOf,minMax,eqV,strBin,floatBin]
theorem b8 (a b:Int)(c:Nat)(s:List UInt8)(L:List Int)(n:Nat)(b':Int)(c':Nat)(s':List UInt8)(k:Nat)(W:List UInt8)(st':St)(T0:List (Nat × E))
  (h8:evalFn gS 61 8 [.slice (byteVs W),.func 45 [] caps7] (tq n b' c' s' L k W)=some (.ret (.int .i64 0) none,st')) :
  ∃ T,ev7 [true,true,true,true,true,true,true,false] (H7 a b c s L (.val (.ptr 4 0)) (.val (.ptr 5 0)) (.val (.ptr 6 0)) .any T0) (tq n b' c' s' L k W)=some (.normal,H7 a b c s L (.val (.ptr 4 0)) (.val (.ptr 5 0)) (.val (.ptr 6 0)) (.val (.int .i64 0)) T,st'):=by
 simp only [ev7,codeAt,codeOf,Try.f7,Option.getD_some,if_true,Bool.false_eq_true,if_false]
 unfold tq caps7 at h8
 unfold tq
 simp [G7,hm7,hl7,gext,fn8,show fi8.pure=false from rfl,h8,ty4,ty24,ty22,ty27,evalCode,evalOps,wantedE,stepM,frzM,frzStep,frzOut,nilRefs,nilRef,marked,stepE,stepOp,startFr,Fr.clear,mapR_eq,take,upE,E.calm,Fr.putO,Fr.put_def,Fr.map_def,Fr.raw_def,Fr.get_def,Fr.lend,Fr.op,lk,ins,lset,E.inval,constV,constVs,V.toE,builtinStep,lenE,elemsOf,okV,okE,E.v?,V.strip,binV,E.int?,E.bool?,appendStep,appended,baseOf,resultsOut,resultE,byteVs_length,flats_bytes,V.strip1,V.one,sizes_bytes,sizesOk,consume,E.weak,unV,sliceStep,boundOf,clip,indexAddrStep,indexStep,addrAdd,loadAt,placeOf,loadCs,cellE,storeAt,splice,E.cells?,V.cells,E.noMem,E.noLoc,E.noLp,callStep,vsOf,retE,V.flat,flats,St.obj,St.set,boxCells,Fr.loc_def,Fr.setLoc_def,E.part?,buildCells,buildSliceV,fillV,chunk,elemV,convV,vsOf,minMax,eqV,strBin,floatBin]
theorem b9 (a b:Int)(c:Nat)(s:List UInt8)(L:List Int)(n:Nat)(b':Int)(c':Nat)(s':List UInt8)(k:Nat)(W:List UInt8)(F:V)(q:Nat)(T0:List (Nat × E)) :
  ∃ fr',ev7 [true,true,true,true,true,true,true,true] (H7 a b c s L (.val (.ptr 4 0)) (.val (.ptr 5 0)) (.val (.ptr 6 0)) (.val (.int .i64 0)) T0) (sq n b' c' s' L k W true F q)=some (.ret,fr',sq n b' c' s' L k W true F q)∧fr'.get 10=.val (.bool true):=by
 obtain ⟨s29,h29⟩:=known29
 obtain ⟨fi,g29,p29⟩:=fn29
 simp only [ev7,codeAt,codeOf,Try.f7,Option.getD_some,if_true,Bool.false_eq_true,if_false]
 simp [G7,sq,hm7,hl7,gext,g29,p29,h29,ty4,ty24,ty22,ib_eql,evalCode,evalOps,wantedE,stepM,frzM,frzStep,frzOut,nilRefs,nilRef,marked,stepE,stepOp,startFr,Fr.clear,mapR_eq,take,upE,E.calm,Fr.putO,Fr.put_def,Fr.map_def,Fr.raw_def,Fr.get_def,Fr.lend,Fr.op,lk,ins,lset,E.inval,constV,constVs,V.toE,builtinStep,lenE,elemsOf,okV,okE,E.v?,V.strip,binV,E.int?,E.bool?,appendStep,appended,baseOf,resultsOut,resultE,byteVs_length,flats_bytes,V.strip1,V.one,sizes_bytes,sizesOk,consume,E.weak,unV,sliceStep,boundOf,clip,indexAddrStep,indexStep,addrAdd,loadAt,placeOf,loadCs,cellE,storeAt,splice,E.cells?,V.cells,E.noMem,E.noLoc,E.noLp,callStep,vsOf,retE,V.flat,flats,St.obj,St.set,boxCells,Fr.loc_def,Fr.setLoc_def,E.part?,buildCells,buildSliceV,fillV,chunk,elemV,convV,vsOf,minMax,eqV,strBin,floatBin]
theorem read7 (n:Nat)(b:Int)(c:Nat)(s:List UInt8)(L:List Int)(k:Nat)(hn:n≤4611686018427387904)(hb0:-9223372036854775808≤b)(hb1:b≤9223372036854775807)(hc:c<2 ^ 64)(hs:s.length≤200) :
  evalFn gS 61 8 [.slice (byteVs (laid n b c s)),.func 45 [] caps7] (tq n b c s L k (laid n b c s))=some (.ret (.int .i64 0) none,sq n b c s L k (laid n b c s) true (.func 45 [] caps7) (laid n b c s).length):=by
 have h:=back45 44 n b c s L k (.func 45 [] caps7) hn hb0 hb1 hc hs
 have hl:=laid_len n b c s
 have v1:=vbytes_le n
 have v2:=vbytes_le s.length
 generalize laid n b c s=W at *
 have key:=read8_ok 56 45 [] caps7 fi45 fn45 rfl (by rw [gext];rfl) W W.length (by omega) (Nat.le_refl _) (tq n b c s L k W) _ (by simp [tq]) h rfl rfl
 rw [if_pos rfl] at key
 exact key
theorem backs (a b:Int)(c:Nat)(s:List UInt8)(L:List Int)(hb0:-9223372036854775808≤b)(hb1:b≤9223372036854775807)(hc:c<2 ^ 64) :
  ∃ st',evalFn gS 62 7 [.int .i64 a,.int .i64 b,.float .f64 c,.str s,.slice (intVs L)] ⟨[],0⟩=some (.ret (.bool true) none,st'):=by
 have hs:(s.take 200).length≤200:=by simp;omega
 obtain ⟨T0,s0⟩:=b0 a b c s L
 obtain ⟨T1,s1⟩:=b1 a b c s L T0
 obtain ⟨w,T2,hw,s2⟩:=b2 a a b c s L 0 T1
 obtain ⟨T3,s3⟩:=b3 a w b c s s L 0 T2
 obtain ⟨c',k,T4,hc',s4⟩:=b45 a w b c s (s.take 200) L hc T3
 obtain ⟨T5,s5⟩:=b6 a b b w c c' s (s.take 200) L k hw hs T4
 have h8:=read7 w b c' (s.take 200) L k hw hb0 hb1 hc' hs
 unfold laid at h8
 obtain ⟨T6,s6⟩:=b7 a b c s L w b c' (s.take 200) k (vbytes w ++ words (IntKind.wrap .u64 b) ++ words (bitsOf c') ++ vbytes (s.take 200).length ++ s.take 200) T5
 obtain ⟨T7,s7⟩:=b8 a b c s L w b c' (s.take 200) k _ _ T6 h8
 obtain ⟨fr',s8,h9⟩:=b9 a b c s L w b c' (s.take 200) k (vbytes w ++ words (IntKind.wrap .u64 b) ++ words (bitsOf c') ++ vbytes (s.take 200).length ++ s.take 200) (.func 45 [] caps7) (vbytes w ++ words (IntKind.wrap .u64 b) ++ words (bitsOf c') ++ vbytes (s.take 200).length ++ s.take 200).length T7
 refine ⟨_,(?_:_=some (_,sq w b c' (s.take 200) L k (vbytes w ++ words (IntKind.wrap .u64 b) ++ words (bitsOf c') ++ vbytes (s.take 200).length ++ s.take 200) true (.func 45 [] caps7) (vbytes w ++ words (IntKind.wrap .u64 b) ++ words (bitsOf c') ++ vbytes (s.take 200).length ++ s.take 200).length))⟩
 generalize vbytes w ++ words (IntKind.wrap .u64 b) ++ words (bitsOf c') ++ vbytes (s.take 200).length ++ s.take 200=W at *
 unfold ev7 at s0 s1 s2 s3 s4 s5 s6 s7 s8
 rw [evalFn];simp only [hrun,evalBody,fn7]
 rw [show fi7.body=codeOf Try.f7 from rfl,split7,start7]
 rw [seq_norm s0,seq_norm s1,seq_norm s2,seq_norm s3,seq_norm s4,seq_norm s5,seq_norm s6,seq_norm s7,s8]
 simp only [show fi7.results=[.tmp 10] from rfl,resultsOut,resultE,h9]
 simp [E.v?,V.strip,hm7,frzOut,nilRefs]
end Go.Proofs.Ytiiahehclbmodaa
namespace Go.Ab
open Go Go.ChangeShapes Go.WideShapes
variable {H:Type} {enc:TypeId × Value→H} {P:Program} {w:World} {base b0:Nat} {spare:Nat→Bool} {held:Bool} {r:Reach}
theorem arg_ints {t e:TypeId} {k:IntKind} {v:Value} {d:DataW H} {ps:List MemPlace} (ht:P.underlying t=some (.slice e))(he:P.underlying e=some (.int k))(hc:P.cellsOf e=1)
  (hval:Value.okWide P w r b0 t v) (h:DataW.Trod enc P w base spare held t v d ps):∃ zs:List Int,Rep K0 w v (.slice (zs.map (V.int k)))∧∀ n∈zs,(Lit.int k n).wf=true:=by
 obtain ⟨a0,len,cap,rfl⟩:=okWide_slice ht hval
 obtain ⟨fuel,hf⟩:=h
 rcases open_ints ht he hc hf with ⟨hcs,_⟩ | ⟨a,len',cap',zs,hcs,_,hl,hm,hz,_,hcell,hwz⟩
 ·simp [Value.cells] at hcs
  obtain ⟨rfl,rfl,rfl⟩:=hcs
  exact ⟨[],.slice0 _ _,by simp⟩
 ·simp [Value.cells] at hcs
  obtain ⟨rfl,rfl,rfl⟩:=hcs
  have hzl:len≤zs.length:=by rw [hz];split <;> omega
  by_cases h0:len=0
  ·subst h0;exact ⟨[],.slice0 _ _,by simp⟩
  ·refine ⟨zs.take len,?_,fun n hn=>hwz n (List.mem_of_mem_take hn)⟩
   obtain ⟨b,off,spot⟩:=a
   have hspot:spot=none:=by simpa [Addr.add] using World.cell?_spot (hcell 0 (by omega))
   subst hspot
   have hlen:((zs.take len).map (V.int k)).length=len:=by simp;omega
   have hfl:((zs.take len).map (V.int k)).flatMap V.cells=(zs.take len).map (V.int k):=by
    generalize zs.take len=l
    induction l with
    | nil=>rfl
    | cons x r ih=>simp only [List.map_cons,List.flatMap_cons,ih];rfl
   have key:Rep K0 w (.slice (some (at_ b off)) ((zs.take len).map (V.int k)).length cap) (.slice ((zs.take len).map (V.int k))):=by
    refine .slice (k:=1) (by rw [hlen];exact hl) (fun x hx=>?_) ?_
    ·obtain ⟨n,_,rfl⟩:=List.mem_map.1 hx;rfl
    ·rw [hfl]
     refine RepAt.of_get fun j x hx=>?_
     rw [List.getElem?_map,List.getElem?_take] at hx
     split at hx
     ·rename_i hj
      have hjz:j<zs.length:=by omega
      rw [zge hjz] at hx
      simp only [Option.map_some,Option.some.injEq] at hx
      subst hx
      refine ⟨.int k zs[j],⟨?_,rfl⟩,.int _ _⟩
      have:=hcell j hjz
      simp only [List.getD,zge hjz,Option.getD_some] at this
      rwa [show ({block:=b,off:=off}:Addr)=at_ b off from rfl,addr_add] at this
     ·cases hx
   rw [hlen] at key
   exact key
theorem arg_int {t:TypeId} {k:IntKind} {v:Value} (ht:P.underlying t=some (.int k))(hval:Value.okWide P w r b0 t v):∃ n,Rep K0 w v (.int k n):=by
 obtain ⟨n,rfl⟩:=okWide_int ht hval
 exact ⟨n,.int _ _⟩
theorem arg_str {t:TypeId} {v:Value} (ht:P.underlying t=some .string)(hval:Value.okWide P w r b0 t v):∃ s,Rep K0 w v (.str s):=by
 obtain ⟨s,rfl⟩:=okWide_string ht hval
 exact ⟨_,.str _⟩
end Go.Ab
namespace Go.Proofs.Ytiiahehclbmodaa
open Go Go.Ab Go.ChangeShapes Go.WideShapes Go.ChangeAt Go.RowKit
theorem arg_i64 {P:Program} {w:World} {r:Reach} {b0:Nat} {t:TypeId} {v:Value} (ht:P.underlying t=some (.int .i64))(hval:Value.okWide P w r b0 t v):∃ n:Int,-9223372036854775808≤n∧n≤9223372036854775807∧Rep K0 w v (.int .i64 n):=by
 obtain ⟨n,rfl⟩:=okWide_int ht hval
 have h:(Lit.int .i64 n).wf=true:=by simpa [Value.okWide,ht,Cell.okWide,Cell.ok,IntKind.has,Lit.wf] using hval
 simp only [Lit.wf,Bool.and_eq_true,decide_eq_true_eq] at h
 have h2:(-9223372036854775808:Int)≤n:=h.1
 have h3:n≤9223372036854775807:=h.2
 exact ⟨n,h2,h3,.int _ _⟩
theorem arg_f64 {P:Program} {w:World} {r:Reach} {b0:Nat} {t:TypeId} {v:Value} (ht:P.underlying t=some (.float .f64))(hval:Value.okWide P w r b0 t v):∃ c:Nat,c<2 ^ 64∧Rep K0 w v (.float .f64 c):=by
 have:∃ b,b<2 ^ 64∧v=.float .f64 b:=by
  simp only [Value.okWide,ht,Cell.okWide] at hval
  cases v <;> simp_all [Cell.ok,FloatKind.has]
 obtain ⟨b,hb,rfl⟩:=this
 exact ⟨b,hb,.float _ _⟩
set_option maxRecDepth 100000 in
theorem back_lifted (os:Os)(started:os.Started)(H:Type)(enc:TypeId × Value→H) :
  ReturnsInHanded {} Try.checked os 7 .any (Rows.packBackSpec.pre6 enc Try.prog Try.f7 Rows.packBackRow.domain false) (Rows.packBackSpec.post enc Try.prog Try.f7 false true false false):=by
 refine returnsInHanded_of_change_sized (C:=Try.checked) Try.own started (by kernel_rfl) Try.func7
  (ChangeSpec.witness6 (enc:=enc) (C:=Try.checked) false ⟨#[],#[.int .i64 0,.int .i64 0,.float .f64 0,.string ⟨#[]⟩,.slice none 0 0],[]⟩ 8 (by kernel_rfl) (by kernel_rfl) (by kernel_rfl) (by kernel_rfl)) ?_
 intro W base args ds gs before hval0 hW _ hsz0 _
 have hW':=hW
 obtain ⟨p,q,hA0,hV,rfl,_,_⟩:=hW
 have hA:DataW.TrodAll enc Try.prog W 0 (fun _=>true) true Try.f7.params.toList args.toList ds p:=hA0
 have hpar:Try.f7.params=#[3,2,38,9,39]:=by kernel_rfl
 have hval:∀ (j:Nat) t v,Try.f7.params[j]?=some t→args[j]?=some v→Value.okWide Try.prog W .any base t v:=hval0
 rw [hpar] at hA hval
 obtain ⟨l⟩:=args
 obtain ⟨v0,l,d0,ds,p0,r0,rfl,rfl,rfl,h0,hA⟩:=trodAll_cons hA
 obtain ⟨v1,l,d1,ds,p1,r1,rfl,rfl,rfl,h1,hA⟩:=trodAll_cons hA
 obtain ⟨v2,l,d2,ds,p2,r2,rfl,rfl,rfl,h2,hA⟩:=trodAll_cons hA
 obtain ⟨v3,l,d3,ds,p3,r3,rfl,rfl,rfl,h3,hA⟩:=trodAll_cons hA
 obtain ⟨v4,l,d4,ds,p4,r4,rfl,rfl,rfl,h4,hA⟩:=trodAll_cons hA
 obtain ⟨rfl,rfl,rfl⟩:=trodAll_nil hA
 obtain ⟨rfl,rfl⟩:=trodVars_none hV
 obtain ⟨n,a0⟩:=arg_int Try.underlying3 (hval 0 3 v0 rfl rfl)
 obtain ⟨k,k0,k1,a1⟩:=arg_i64 Try.underlying2 (hval 1 2 v1 rfl rfl)
 obtain ⟨x,hx,a2⟩:=arg_f64 Try.underlying38 (hval 2 38 v2 rfl rfl)
 obtain ⟨s,a3⟩:=arg_str Try.underlying9 (hval 3 9 v3 rfl rfl)
 obtain ⟨L,a4,_⟩:=arg_ints Try.underlying39 Try.underlying3 (by kernel_rfl) (hval 4 39 v4 rfl rfl) h4
 have hlt:∀ y∈p0 ++ (p1 ++ (p2 ++ (p3 ++ (p4 ++ [])))) ++ [],y.block<W.heap.size:=fun y hy=>hW'.lt y hy
 have hr:Reps K0 W [v0,v1,v2,v3,v4] [.int .i64 n,.int .i64 k,.float .f64 x,.str s,.slice (intVs L)]:=.cons a0 (.cons a1 (.cons a2 (.cons a3 (.cons a4 .nil))))
 obtain ⟨st',hrun⟩:=backs n k x s L k0 k1 hx
 refine (law_calls (n:=62) (f:=7) (xs:=[.int .i64 n,.int .i64 k,.float .f64 x,.str s,.slice (intVs L)]) (gS_calls 62) (by rw [hrun]) (W:=W) (args:=#[v0,v1,v2,v3,v4]) hr).mono ?_
 rintro e W' ⟨rfl,hn⟩
 refine ⟨_,rfl,_,_,_,[],p0 ++ (p1 ++ (p2 ++ (p3 ++ (p4 ++ [])))),[],hW',?_,?_,rfl,hn.frame _,fun h=>by cases h⟩
 ·exact trodAll_mk1 (shut_bool Try.underlying4 true)
 ·exact ⟨p0,_,Below.trod Try.laidOut (by kernel_rfl) (of_decide_eq_true (by kernel_rfl)) h0 hn (fun y hy=>hlt y (by simp [hy])),
   ⟨p1,_,Below.trod Try.laidOut (by kernel_rfl) (of_decide_eq_true (by kernel_rfl)) h1 hn (fun y hy=>hlt y (by simp [hy])),
   ⟨p2,_,Below.trod Try.laidOut (by kernel_rfl) (of_decide_eq_true (by kernel_rfl)) h2 hn (fun y hy=>hlt y (by simp [hy])),
   ⟨p3,_,Below.trod Try.laidOut (by kernel_rfl) (of_decide_eq_true (by kernel_rfl)) h3 hn (fun y hy=>hlt y (by simp [hy])),
   ⟨p4,_,Below.trod Try.laidOut (by kernel_rfl) (of_decide_eq_true (by kernel_rfl)) h4 hn (fun y hy=>hlt y (by simp [hy])),rfl,rfl⟩,rfl⟩,rfl⟩,rfl⟩,rfl⟩
theorem packBack_holds:Rows.PackBackSaid :=
 OpenClaim.holds_of_wide 7 Try.f7 rfl rfl rfl rfl rfl rfl rfl ⟨rfl,rfl,rfl,rfl,rfl⟩ rfl rfl rfl rfl rfl (by kernel_rfl) Try.func7 (by kernel_rfl)
  (of_decide_eq_true (by kernel_rfl)) (by unfold Func.isWrapper;first | (rw [if_pos (by decide +kernel)];kernel_rfl) | (rw [if_neg (by decide +kernel)];exact ⟨rfl,rfl⟩))
  (fun os started H enc _=>back_lifted os started H enc)
#print axioms packBack_holds
end Go.Proofs.Ytiiahehclbmodaa
