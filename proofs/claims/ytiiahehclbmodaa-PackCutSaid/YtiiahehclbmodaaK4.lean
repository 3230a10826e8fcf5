/- What was laid is cut short, or has a byte behind it, or tells of more than is there: PackCut. Part 4. -/
import Derived.Test.YtiiahehclbmodaaK3
set_option linter.unusedVariables false
set_option linter.unusedSimpArgs false
set_option linter.unnecessarySimpa false
set_option maxHeartbeats 8000000
set_option maxRecDepth 20000
open Int renaming not_le → zil, not_lt → zit, natCast_add → zia
open Nat renaming not_le → znl, not_lt → znt
open List renaming getElem?_eq_getElem → zge, getElem?_eq_some_iff → zgs, append_assoc → zaa, mem_of_getElem? → zmg, length_append → zla
namespace Go.Proofs.Ytiiahehclbmodaa
open Go Go.Ab
theorem or_byte (a c:Nat)(ha:a<2 ^ 56)(hc:c<256):intBin .or .u64 ((a*256:Nat):Int) (c:Int)=some (.int .u64 ((a*256+c:Nat):Int)):=by
 show some (V.int .u64 (IntKind.wrap .u64 ((BitVec.ofInt 64 ((a*256:Nat):Int) ||| BitVec.ofInt 64 (c:Int)).toNat)))=_
 have h1:(BitVec.ofInt 64 ((a*256:Nat):Int)).toNat=a*256:=by simp only [BitVec.toNat_ofInt];omega
 have h2:(BitVec.ofInt 64 (c:Int)).toNat=c:=by simp only [BitVec.toNat_ofInt];omega
 have h3:=Nat.two_pow_add_eq_or_of_lt (i:=8) (b:=c) (by omega) a
 have h4:(BitVec.ofInt 64 ((a*256:Nat):Int) ||| BitVec.ofInt 64 (c:Int)).toNat=a*256+c:=by
  rw [BitVec.toNat_or,h1,h2,Nat.mul_comm a,show (256:Nat)=2 ^ 8 from rfl,← h3]
 rw [h4,wrapU (by omega) (by omega)]
noncomputable def fi53:FI:={body:=codeOf Try.f53,ntmps:=36,results:=[.tmp 2],pers:=[0,2,3,5,23,24,25],locals:=[],pure:=false,marks:=[]}
theorem fn53:gS.fn 53=some fi53:=by kernel_rfl
def F53 (id acc i:Nat)(l:List UInt8)(e5:E)(T:List (Nat × E)):Fr:={ps:=[(0,.val (.ptr id 0)),(2,.val (.int .u64 0)),(3,.val (.int .u64 acc)),(5,e5),(23,.val (.slice (byteVs l))),(24,.val (.int .i64 8)),(25,.val (.int .i64 i))],ts:=T,lc:=[]}
set_option maxRecDepth 40000 in
theorem step53 (m q id acc i:Nat)(l:List UInt8)(c:UInt8)(e5:E)(T:List (Nat × E))(st:St)(hi:i<8)(hc:l[i]?=some c)(ha:acc<2 ^ 56) :
  ∃ T' e',evalCode gS fi53 (evalFn gS m) q (codeAt (codeOf Try.f53) [true,true,true,false,true,true,true]) (F53 id acc i l e5 T) st=some (.normal,F53 id (acc*256+c.toNat) (i+1) l e' T',st):=by
 have hm:fi53.marks=[]:=rfl
 have hl:fi53.locals=[]:=rfl
 have hc8:=c.toNat_lt
 have e0:(i:Int)<8:=by omega
 have e1:=byte_get l i c hc
 have e2:shiftV .shl .u64 (acc:Int) 8=some (.int .u64 ((acc*256:Nat):Int)):=by
  show some (V.int .u64 (IntKind.wrap .u64 ((acc:Int)*2 ^ (min 8 64))))=_
  have:(acc:Int)*2 ^ (min 8 64)=((acc*256:Nat):Int):=by simp
  rw [this,wrapU (by omega) (by omega)]
 have e3:IntKind.wrap .u64 (c.toNat:Int)=(c.toNat:Int):=wrapU (by omega) (by omega)
 have e4:=or_byte acc c.toNat ha hc8
 have e5':IntKind.wrap .i64 ((i:Int)+1)=(i:Int)+1:=wrap64 (by omega) (by omega)
 generalize acc*256=w at *
 simp only [codeAt,codeOf,Try.f53,Option.getD_some,if_true,Bool.false_eq_true,if_false]
 simp [-zia,F53,ty24,ty3,ty5,ty52,ty54,hm,hl,ib_lss,ib_add,e0,e1,e2,e3,e4,e5',evalCode,evalOps,wantedE,stepM,frzM,frzStep,frzOut,nilRefs,nilRef,marked,stepE,stepOp,startFr,Fr.clear,mapR_eq,take,upE,E.calm,Fr.putO,Fr.put_def,Fr.map_def,Fr.raw_def,Fr.get_def,Fr.lend,Fr.op,lk,ins,lset,E.inval,constV,constVs,V.toE,builtinStep,lenE,elemsOf,okV,okE,E.v?,V.strip,binV,E.int?,E.bool?,appendStep,appended,baseOf,resultsOut,resultE,byteVs_length,flats_bytes,V.strip1,V.one,sizes_bytes,sizesOk,consume,E.weak,unV,sliceStep,boundOf,clip,indexAddrStep,indexStep,addrAdd,loadAt,placeOf,loadCs,cellE,storeAt,splice,E.cells?,V.cells,E.noMem,E.noLoc,E.noLp,callStep,vsOf,retE,V.flat,flats,St.obj,St.set,boxCells,Fr.loc_def,Fr.setLoc_def,E.part?,buildCells,buildSliceV,fillV,chunk,elemV,convV,vsOf,minMax,eqV,strBin,floatBin]
 omega
set_option maxRecDepth 40000 in
theorem stop53 (m q id acc:Nat)(l:List UInt8)(e5:E)(T:List (Nat × E))(st:St) :
  ∃ T' e',evalCode gS fi53 (evalFn gS m) q (codeAt (codeOf Try.f53) [true,true,true,false,true,true,true]) (F53 id acc 8 l e5 T) st=some (.exit 0,F53 id acc 8 l e' T',st):=by
 have hm:fi53.marks=[]:=rfl
 have hl:fi53.locals=[]:=rfl
 simp only [codeAt,codeOf,Try.f53,Option.getD_some,if_true,Bool.false_eq_true,if_false]
 simp [F53,ty3,hm,hl,ib_lss,evalCode,evalOps,wantedE,stepM,frzM,frzStep,frzOut,nilRefs,nilRef,marked,stepE,stepOp,startFr,Fr.clear,mapR_eq,take,upE,E.calm,Fr.putO,Fr.put_def,Fr.map_def,Fr.raw_def,Fr.get_def,Fr.lend,Fr.op,lk,ins,lset,E.inval,constV,constVs,V.toE,builtinStep,lenE,elemsOf,okV,okE,E.v?,V.strip,binV,E.int?,E.bool?,appendStep,appended,baseOf,resultsOut,resultE,byteVs_length,flats_bytes,V.strip1,V.one,sizes_bytes,sizesOk,consume,E.weak,unV,sliceStep,boundOf,clip,indexAddrStep,indexStep,addrAdd,loadAt,placeOf,loadCs,cellE,storeAt,splice,E.cells?,V.cells,E.noMem,E.noLoc,E.noLp,callStep,vsOf,retE,V.flat,flats,St.obj,St.set,boxCells,Fr.loc_def,Fr.setLoc_def,E.part?,buildCells,buildSliceV,fillV,chunk,elemV,convV,vsOf,minMax,eqV,strBin,floatBin]
def dig (l:List UInt8)(a:Nat):Nat:=l.foldl (fun a c=>a*256+c.toNat) a
theorem loop53 (m q id:Nat)(l:List UInt8)(h8:l.length=8)(st:St):∀ (d i acc fuel:Nat) (e5:E) (T:List (Nat × E)),i+d=8→acc<256 ^ i→d<fuel →
  ∃ T' e',iterate (evalCode gS fi53 (evalFn gS m) q (codeAt (codeOf Try.f53) [true,true,true,false,true,true,true])) fuel (F53 id acc i l e5 T) st=some (.exit 0,F53 id (dig (l.drop i) acc) 8 l e' T',st)
 | 0,i,acc,fuel,e5,T,h,ha,hf=>by
  obtain ⟨fuel,rfl⟩:∃ f,fuel=f+1:=⟨fuel - 1,by omega⟩
  have:i=8:=by omega
  subst this
  obtain ⟨T',e',r⟩:=stop53 m q id acc l e5 T st
  refine ⟨T',e',?_⟩
  simp only [iterate];rw [r]
  rw [show l.drop 8=[] from List.drop_of_length_le (by omega)];rfl
 | d+1,i,acc,fuel,e5,T,h,ha,hf=>by
  obtain ⟨fuel,rfl⟩:∃ f,fuel=f+1:=⟨fuel - 1,by omega⟩
  have hi:i<l.length:=by omega
  have hp:256 ^ i≤256 ^ 7:=Nat.pow_le_pow_right (by decide) (by omega)
  have hc8:=(l[i]).toNat_lt
  obtain ⟨T1,e1,r⟩:=step53 m q id acc i l l[i] e5 T st (by omega) (zge hi) (by omega)
  obtain ⟨T',e',r'⟩:=loop53 m q id l h8 st d (i+1) (acc*256+(l[i]).toNat) fuel e1 T1 (by omega) (by rw [Nat.pow_succ];omega) (by omega)
  refine ⟨T',e',?_⟩
  simp only [iterate];rw [r]
  simp only
  rw [r',List.drop_eq_getElem_cons hi];rfl
theorem start53 (a:V):startFr fi53 [a]={ps:=[(0,.val a),(2,.any),(3,.any),(5,.any),(23,.any),(24,.any),(25,.any)],ts:=[],lc:=[]}:=rfl
theorem split53:codeOf Try.f53=.seq (codeAt (codeOf Try.f53) [false]) (.seq (codeAt (codeOf Try.f53) [true,false]) (.seq (codeAt (codeOf Try.f53) [true,true,false]) (.seq (.seq (codeAt (codeOf Try.f53) [true,true,true,false,false]) (.block 0 (.loop (codeAt (codeOf Try.f53) [true,true,true,false,true,true,true])))) (codeAt (codeOf Try.f53) [true,true,true,true])))):=by kernel_rfl
theorem reg53:codeAt (codeOf Try.f53) [true,true,true,false,false]=.region 3 (opsAt (codeAt (codeOf Try.f53) [true,true,true,false,false])) true:=by kernel_rfl
theorem lex53:Region.lexB .any (opsAt (codeAt (codeOf Try.f53) [true,true,true,false,false]))=true:=by kernel_rfl
theorem all53:(opsAt (codeAt (codeOf Try.f53) [true,true,true,false,false])).toList.all (isQM gS fi53)=true:=by kernel_rfl
theorem drop_bytes (bs:List UInt8)(n:Nat):(byteVs bs).drop n=byteVs (bs.drop n):=by simp [byteVs,List.map_drop]
set_option maxRecDepth 40000 in
theorem bits53 (m id k:Nat)(bs:List UInt8)(st:St)(ho:st.obj id=some [.slice (byteVs bs),.int .i64 k])(hb:bs.length<2 ^ 48)(hk:k+8≤bs.length) :
  evalFn gS (m+12) 53 [.ptr id 0] st=some (.ret (.int .u64 (dig ((bs.take (k+8)).drop k) 0)) none,st):=by
 have hm:fi53.marks=[]:=rfl
 have hl:fi53.locals=[]:=rfl
 have h15:=left15 (m+10) bs id k (by omega) hb st ho
 have hn:=need_ok (m+9) 2
 have e0:(8:Int)≤((bs.length - k:Nat):Int):=by omega
 have e1:IntKind.wrap .i64 ((k:Int)+8)=((k+8:Nat):Int):=by rw [wrap64 (by omega) (by omega)];omega
 have h8:((bs.take (k+8)).drop k).length=8:=by simp;omega
 obtain ⟨T1,s1⟩:∃ T,evalCode gS fi53 (evalFn gS (m+11)) (m+11) (codeAt (codeOf Try.f53) [false]) {ps:=[(0,.val (.ptr id 0)),(2,.any),(3,.any),(5,.any),(23,.any),(24,.any),(25,.any)],ts:=[],lc:=[]} st =
   some (.normal,{ps:=[(0,.val (.ptr id 0)),(2,.val (.int .u64 0)),(3,.any),(5,.any),(23,.any),(24,.any),(25,.any)],ts:=T,lc:=[]},st):=by
  simp only [codeAt,codeOf,Try.f53,Option.getD_some,if_true,Bool.false_eq_true,if_false]
  simp [ty52,hm,hl,evalCode,evalOps,wantedE,stepM,frzM,frzStep,frzOut,nilRefs,nilRef,marked,stepE,stepOp,startFr,Fr.clear,mapR_eq,take,upE,E.calm,Fr.putO,Fr.put_def,Fr.map_def,Fr.raw_def,Fr.get_def,Fr.lend,Fr.op,lk,ins,lset,E.inval,constV,constVs,V.toE,builtinStep,lenE,elemsOf,okV,okE,E.v?,V.strip,binV,E.int?,E.bool?,appendStep,appended,baseOf,resultsOut,resultE,byteVs_length,flats_bytes,V.strip1,V.one,sizes_bytes,sizesOk,consume,E.weak,unV,sliceStep,boundOf,clip,indexAddrStep,indexStep,addrAdd,loadAt,placeOf,loadCs,cellE,storeAt,splice,E.cells?,V.cells,E.noMem,E.noLoc,E.noLp,callStep,vsOf,retE,V.flat,flats,St.obj,St.set,boxCells,Fr.loc_def,Fr.setLoc_def,E.part?,buildCells,buildSliceV,fillV,chunk,elemV,convV,vsOf,minMax,eqV,strBin,floatBin]
 obtain ⟨T2,s2⟩:∃ T,evalCode gS fi53 (evalFn gS (m+11)) (m+11) (codeAt (codeOf Try.f53) [true,false]) {ps:=[(0,.val (.ptr id 0)),(2,.val (.int .u64 0)),(3,.any),(5,.any),(23,.any),(24,.any),(25,.any)],ts:=T1,lc:=[]} st =
   some (.normal,{ps:=[(0,.val (.ptr id 0)),(2,.val (.int .u64 0)),(3,.any),(5,.any),(23,.any),(24,.any),(25,.any)],ts:=T,lc:=[]},st):=by
  generalize bs.length - k=w at *
  simp only [codeAt,codeOf,Try.f53,Option.getD_some,if_true,Bool.false_eq_true,if_false]
  simp [gext,fn15,show fi15.pure=false from rfl,h15,fn14,mkFI,Try.f14,hn,ty3,hm,hl,ib_geq,e0,evalCode,evalOps,wantedE,stepM,frzM,frzStep,frzOut,nilRefs,nilRef,marked,stepE,stepOp,startFr,Fr.clear,mapR_eq,take,upE,E.calm,Fr.putO,Fr.put_def,Fr.map_def,Fr.raw_def,Fr.get_def,Fr.lend,Fr.op,lk,ins,lset,E.inval,constV,constVs,V.toE,builtinStep,lenE,elemsOf,okV,okE,E.v?,V.strip,binV,E.int?,E.bool?,appendStep,appended,baseOf,resultsOut,resultE,byteVs_length,flats_bytes,V.strip1,V.one,sizes_bytes,sizesOk,consume,E.weak,unV,sliceStep,boundOf,clip,indexAddrStep,indexStep,addrAdd,loadAt,placeOf,loadCs,cellE,storeAt,splice,E.cells?,V.cells,E.noMem,E.noLoc,E.noLp,callStep,vsOf,retE,V.flat,flats,St.obj,St.set,boxCells,Fr.loc_def,Fr.setLoc_def,E.part?,buildCells,buildSliceV,fillV,chunk,elemV,convV,vsOf,minMax,eqV,strBin,floatBin]
 obtain ⟨T3,s3⟩:∃ T,evalCode gS fi53 (evalFn gS (m+11)) (m+11) (codeAt (codeOf Try.f53) [true,true,false]) {ps:=[(0,.val (.ptr id 0)),(2,.val (.int .u64 0)),(3,.any),(5,.any),(23,.any),(24,.any),(25,.any)],ts:=T2,lc:=[]} st =
   some (.normal,{ps:=[(0,.val (.ptr id 0)),(2,.val (.int .u64 0)),(3,.val (.int .u64 0)),(5,.any),(23,.any),(24,.any),(25,.any)],ts:=T,lc:=[]},st):=by
  simp only [codeAt,codeOf,Try.f53,Option.getD_some,if_true,Bool.false_eq_true,if_false]
  simp [ty52,hm,hl,evalCode,evalOps,wantedE,stepM,frzM,frzStep,frzOut,nilRefs,nilRef,marked,stepE,stepOp,startFr,Fr.clear,mapR_eq,take,upE,E.calm,Fr.putO,Fr.put_def,Fr.map_def,Fr.raw_def,Fr.get_def,Fr.lend,Fr.op,lk,ins,lset,E.inval,constV,constVs,V.toE,builtinStep,lenE,elemsOf,okV,okE,E.v?,V.strip,binV,E.int?,E.bool?,appendStep,appended,baseOf,resultsOut,resultE,byteVs_length,flats_bytes,V.strip1,V.one,sizes_bytes,sizesOk,consume,E.weak,unV,sliceStep,boundOf,clip,indexAddrStep,indexStep,addrAdd,loadAt,placeOf,loadCs,cellE,storeAt,splice,E.cells?,V.cells,E.noMem,E.noLoc,E.noLp,callStep,vsOf,retE,V.flat,flats,St.obj,St.set,boxCells,Fr.loc_def,Fr.setLoc_def,E.part?,buildCells,buildSliceV,fillV,chunk,elemV,convV,vsOf,minMax,eqV,strBin,floatBin]
 have key:∃ T',evalD gS fi53 (evalFn gS (m+11)) (opsAt (codeAt (codeOf Try.f53) [true,true,true,false,false])).toList {ps:=[(0,.val (.ptr id 0)),(2,.val (.int .u64 0)),(3,.val (.int .u64 0)),(5,.any),(23,.any),(24,.any),(25,.any)],ts:=[],lc:=[]} st =
   some (F53 id 0 0 ((bs.take (k+8)).drop k) .any T'):=by
  simp only [codeAt,codeOf,Try.f53,Option.getD_some,if_true,Bool.false_eq_true,if_false,opsAt]
  simp only [St.obj] at ho
  have e2:((k+8:Nat):Int)≤(bs.length:Int):=by omega
  have e3:(k:Int)≤((k+8:Nat):Int):=by omega
  have e4:((((bs.take (k+8)).drop k).length:Nat):Int)=8:=by omega
  generalize hk8:k+8=k8 at *
  have e5:(0:Int)≤(k8:Int):=by omega
  have e6:(0:Int)≤(k:Int):=by omega
  have e7:k8≤bs.length:=by omega
  have e8:k≤k8:=by omega
  have e9:((byteVs bs).take k8).drop k=byteVs ((bs.take k8).drop k):=by rw [take_bytes,drop_bytes]
  have e10:((byteVs bs).drop k).take (k8 - k)=byteVs ((bs.take k8).drop k):=by rw [← List.drop_take];exact e9
  generalize (bs.take k8).drop k=l8 at *
  simp [-zia,evalD,stepQ,isQM,isQ,quietOp,E.still,F53,ty24,ty59,ty3,ty52,hm,hl,ho,ib_add,e1,e2,e3,e5,e6,e7,e8,e9,e10,h8,evalCode,evalOps,wantedE,stepM,frzM,frzStep,frzOut,nilRefs,nilRef,marked,stepE,stepOp,startFr,Fr.clear,mapR_eq,take,upE,E.calm,Fr.putO,Fr.put_def,Fr.map_def,Fr.raw_def,Fr.get_def,Fr.lend,Fr.op,lk,ins,lset,E.inval,constV,constVs,V.toE,builtinStep,lenE,elemsOf,okV,okE,E.v?,V.strip,binV,E.int?,E.bool?,appendStep,appended,baseOf,resultsOut,resultE,byteVs_length,flats_bytes,V.strip1,V.one,sizes_bytes,sizesOk,consume,E.weak,unV,sliceStep,boundOf,clip,indexAddrStep,indexStep,addrAdd,loadAt,placeOf,loadCs,cellE,storeAt,splice,E.cells?,V.cells,E.noMem,E.noLoc,E.noLp,callStep,vsOf,retE,V.flat,flats,St.obj,St.set,boxCells,Fr.loc_def,Fr.setLoc_def,E.part?,buildCells,buildSliceV,fillV,chunk,elemV,convV,vsOf,minMax,eqV,strBin,floatBin]
 obtain ⟨T4,hk4⟩:=key
 have hd:=evalD_ok (ops:=opsAt (codeAt (codeOf Try.f53) [true,true,true,false,false])) (strong_all all53) _ 0 _ _ hk4
 have s4:evalCode gS fi53 (evalFn gS (m+11)) (m+11) (codeAt (codeOf Try.f53) [true,true,true,false,false]) {ps:=[(0,.val (.ptr id 0)),(2,.val (.int .u64 0)),(3,.val (.int .u64 0)),(5,.any),(23,.any),(24,.any),(25,.any)],ts:=T3,lc:=[]} st =
   some (.normal,F53 id 0 0 ((bs.take (k+8)).drop k) .any T4,st):=by
  rw [reg53]
  simp only [evalCode,lex53,if_true]
  rw [show Fr.clear {ps:=[(0,.val (.ptr id 0)),(2,.val (.int .u64 0)),(3,.val (.int .u64 0)),(5,.any),(23,.any),(24,.any),(25,.any)],ts:=T3,lc:=[]}={ps:=[(0,.val (.ptr id 0)),(2,.val (.int .u64 0)),(3,.val (.int .u64 0)),(5,.any),(23,.any),(24,.any),(25,.any)],ts:=[],lc:=[]} from rfl,hd]
 obtain ⟨T5,e5,s5⟩:=loop53 (m+11) (m+11) id _ h8 st 8 0 0 (m+11) .any T4 (by omega) (by simp) (by omega)
 have s6:evalCode gS fi53 (evalFn gS (m+11)) (m+11) (.seq (codeAt (codeOf Try.f53) [true,true,true,false,false]) (.block 0 (.loop (codeAt (codeOf Try.f53) [true,true,true,false,true,true,true])))) {ps:=[(0,.val (.ptr id 0)),(2,.val (.int .u64 0)),(3,.val (.int .u64 0)),(5,.any),(23,.any),(24,.any),(25,.any)],ts:=T3,lc:=[]} st =
   some (.normal,F53 id (dig ((bs.take (k+8)).drop k) 0) 8 ((bs.take (k+8)).drop k) e5 T5,st):=by
  rw [seq_norm s4]
  simp only [evalCode]
  rw [s5]
  rw [List.drop_zero];rfl
 rw [evalFn];simp only [hrun,evalBody,fn53]
 rw [show fi53.body=codeOf Try.f53 from rfl,split53,start53,seq_norm s1,seq_norm s2,seq_norm s3,seq_norm s6]
 generalize dig ((bs.take (k+8)).drop k) 0=w
 generalize (bs.take (k+8)).drop k=l8
 simp only [codeAt,codeOf,Try.f53,Option.getD_some,if_true,Bool.false_eq_true,if_false,show fi53.results=[.tmp 2] from rfl]
 simp [F53,hm,hl,ty52,evalCode,evalOps,wantedE,stepM,frzM,frzStep,frzOut,nilRefs,nilRef,marked,stepE,stepOp,startFr,Fr.clear,mapR_eq,take,upE,E.calm,Fr.putO,Fr.put_def,Fr.map_def,Fr.raw_def,Fr.get_def,Fr.lend,Fr.op,lk,ins,lset,E.inval,constV,constVs,V.toE,builtinStep,lenE,elemsOf,okV,okE,E.v?,V.strip,binV,E.int?,E.bool?,appendStep,appended,baseOf,resultsOut,resultE,byteVs_length,flats_bytes,V.strip1,V.one,sizes_bytes,sizesOk,consume,E.weak,unV,sliceStep,boundOf,clip,indexAddrStep,indexStep,addrAdd,loadAt,placeOf,loadCs,cellE,storeAt,splice,E.cells?,V.cells,E.noMem,E.noLoc,E.noLp,callStep,vsOf,retE,V.flat,flats,St.obj,St.set,boxCells,Fr.loc_def,Fr.setLoc_def,E.part?,buildCells,buildSliceV,fillV,chunk,elemV,convV,vsOf,minMax,eqV,strBin,floatBin]
end Go.Proofs.Ytiiahehclbmodaa
namespace Go.Proofs.Ytiiahehclbmodaa
open Go Go.Ab
noncomputable def fi24:FI:={body:=codeOf Try.f24,ntmps:=15,results:=[.tmp 2],pers:=[0,2,3],locals:=[],pure:=false,marks:=[]}
theorem fn24:gS.fn 24=some fi24:=by kernel_rfl
theorem start24 (a:V):startFr fi24 [a]={ps:=[(0,.val a),(2,.any),(3,.any)],ts:=[],lc:=[]}:=rfl
set_option maxRecDepth 40000 in
theorem int24 (m id k:Nat)(bs:List UInt8)(st:St)(ho:st.obj id=some [.slice (byteVs bs),.int .i64 k])(hw:st.wp≤id)(hb:bs.length<2 ^ 48)(hk:k+8≤bs.length) :
  evalFn gS (m+13) 24 [.ptr id 0] st=some (.ret (.int .i64 (IntKind.wrap .i64 (dig ((bs.take (k+8)).drop k) 0))) none,{st with objs:=st.objs.set id [.slice (byteVs bs),.int .i64 ((k+8:Nat):Int)]}):=by
 have h53:=bits53 m id k bs st ho hb hk
 have hm:fi24.marks=[]:=rfl
 have hl:fi24.locals=[]:=rfl
 have e1:IntKind.wrap .i64 ((k:Int)+8)=((k+8:Nat):Int):=by rw [wrap64 (by omega) (by omega)];omega
 generalize dig ((bs.take (k+8)).drop k) 0=w at *
 rw [evalFn];simp only [hrun,evalBody,fn24]
 rw [start24]
 simp only [show fi24.body=codeOf Try.f24 from rfl,codeOf,Try.f24,Option.getD_some,show fi24.results=[.tmp 2] from rfl]
 simp only [St.obj] at ho
 simp [-zia,gext,fn53,show fi53.pure=false from rfl,h53,ty2,ty3,ty52,ty59,hm,hl,ho,hw,ib_add,e1,evalCode,evalOps,wantedE,stepM,frzM,frzStep,frzOut,nilRefs,nilRef,marked,stepE,stepOp,startFr,Fr.clear,mapR_eq,take,upE,E.calm,Fr.putO,Fr.put_def,Fr.map_def,Fr.raw_def,Fr.get_def,Fr.lend,Fr.op,lk,ins,lset,E.inval,constV,constVs,V.toE,builtinStep,lenE,elemsOf,okV,okE,E.v?,V.strip,binV,E.int?,E.bool?,appendStep,appended,baseOf,resultsOut,resultE,byteVs_length,flats_bytes,V.strip1,V.one,sizes_bytes,sizesOk,consume,E.weak,unV,sliceStep,boundOf,clip,indexAddrStep,indexStep,addrAdd,loadAt,placeOf,loadCs,cellE,storeAt,splice,E.cells?,V.cells,E.noMem,E.noLoc,E.noLp,callStep,vsOf,retE,V.flat,flats,St.obj,St.set,boxCells,Fr.loc_def,Fr.setLoc_def,E.part?,buildCells,buildSliceV,fillV,chunk,elemV,convV,vsOf,minMax,eqV,strBin,floatBin]
end Go.Proofs.Ytiiahehclbmodaa
namespace Go.Proofs.Ytiiahehclbmodaa
open Go Go.Ab
noncomputable def fi17:FI:={body:=codeOf Try.f17,ntmps:=48,results:=[.tmp 4],pers:=[0,1,4,5,6],locals:=[],pure:=false,marks:=[]}
theorem fn17:gS.fn 17=some fi17:=by kernel_rfl
theorem start17 (a b:V):startFr fi17 [a,b]={ps:=[(0,.val a),(1,.val b),(4,.any),(5,.any),(6,.any)],ts:=[],lc:=[]}:=rfl
theorem split17:codeOf Try.f17=.seq (codeAt (codeOf Try.f17) [false]) (.seq (codeAt (codeOf Try.f17) [true,false]) (.seq (codeAt (codeOf Try.f17) [true,true,false]) (.seq (codeAt (codeOf Try.f17) [true,true,true,false]) (.seq (codeAt (codeOf Try.f17) [true,true,true,true,false]) (.seq (codeAt (codeOf Try.f17) [true,true,true,true,true,false]) .ret))))):=by kernel_rfl
theorem reg17:codeAt (codeOf Try.f17) [true,true,true,true,true,false]=.region 5 (opsAt (codeAt (codeOf Try.f17) [true,true,true,true,true,false])) true:=by kernel_rfl
theorem lex17:Region.lexB .any (opsAt (codeAt (codeOf Try.f17) [true,true,true,true,true,false]))=true:=by kernel_rfl
theorem all17:(opsAt (codeAt (codeOf Try.f17) [true,true,true,true,true,false])).toList.all (isQM gS fi17)=true:=by kernel_rfl
def F17 (id:Nat)(most:Int)(e4 e5 e6:E)(T:List (Nat × E)):Fr:={ps:=[(0,.val (.ptr id 0)),(1,.val (.int .i64 most)),(4,e4),(5,e5),(6,e6)],ts:=T,lc:=[]}
set_option maxRecDepth 40000 in
theorem head17 (m id k n at':Nat)(most:Int)(bs:List UInt8)(st:St)(ho:st.obj id=some [.slice (byteVs bs),.int .i64 k])(X:Code)
  (h49:evalFn gS (m+12) 49 [.ptr id 0,.int .i64 k] st=some (.ret (.tuple [.int .i64 n,.int .i64 at']) none,st)) :
  ∃ T,evalCode gS fi17 (evalFn gS (m+12)) (m+12) (.seq (codeAt (codeOf Try.f17) [false]) (.seq (codeAt (codeOf Try.f17) [true,false]) X)) {ps:=[(0,.val (.ptr id 0)),(1,.val (.int .i64 most)),(4,.any),(5,.any),(6,.any)],ts:=[],lc:=[]} st =
   evalCode gS fi17 (evalFn gS (m+12)) (m+12) X (F17 id most (.val (.str [])) (.val (.int .i64 n)) (.val (.int .i64 at')) T) st:=by
 have hm:fi17.marks=[]:=rfl
 have hl:fi17.locals=[]:=rfl
 obtain ⟨T1,s1⟩:∃ T,evalCode gS fi17 (evalFn gS (m+12)) (m+12) (codeAt (codeOf Try.f17) [false]) {ps:=[(0,.val (.ptr id 0)),(1,.val (.int .i64 most)),(4,.any),(5,.any),(6,.any)],ts:=[],lc:=[]} st =
   some (.normal,F17 id most (.val (.str [])) .any .any T,st):=by
  simp only [codeAt,codeOf,Try.f17,Option.getD_some,if_true,Bool.false_eq_true,if_false]
  simp [F17,ty9,hm,hl,evalCode,evalOps,wantedE,stepM,frzM,frzStep,frzOut,nilRefs,nilRef,marked,stepE,stepOp,startFr,Fr.clear,mapR_eq,take,upE,E.calm,Fr.putO,Fr.put_def,Fr.map_def,Fr.raw_def,Fr.get_def,Fr.lend,Fr.op,lk,ins,lset,E.inval,constV,constVs,V.toE,builtinStep,lenE,elemsOf,okV,okE,E.v?,V.strip,binV,E.int?,E.bool?,appendStep,appended,baseOf,resultsOut,resultE,byteVs_length,flats_bytes,V.strip1,V.one,sizes_bytes,sizesOk,consume,E.weak,unV,sliceStep,boundOf,clip,indexAddrStep,indexStep,addrAdd,loadAt,placeOf,loadCs,cellE,storeAt,splice,E.cells?,V.cells,E.noMem,E.noLoc,E.noLp,callStep,vsOf,retE,V.flat,flats,St.obj,St.set,boxCells,Fr.loc_def,Fr.setLoc_def,E.part?,buildCells,buildSliceV,fillV,chunk,elemV,convV,vsOf,minMax,eqV,strBin,floatBin]
 obtain ⟨T2,s2⟩:∃ T,evalCode gS fi17 (evalFn gS (m+12)) (m+12) (codeAt (codeOf Try.f17) [true,false]) (F17 id most (.val (.str [])) .any .any T1) st =
   some (.normal,F17 id most (.val (.str [])) (.val (.int .i64 n)) (.val (.int .i64 at')) T,st):=by
  simp only [St.obj] at ho
  simp only [codeAt,codeOf,Try.f17,Option.getD_some,if_true,Bool.false_eq_true,if_false]
  simp [-zia,F17,gext,fn49,show fi49.pure=false from rfl,h49,ty3,ty59,ho,hm,hl,evalCode,evalOps,wantedE,stepM,frzM,frzStep,frzOut,nilRefs,nilRef,marked,stepE,stepOp,startFr,Fr.clear,mapR_eq,take,upE,E.calm,Fr.putO,Fr.put_def,Fr.map_def,Fr.raw_def,Fr.get_def,Fr.lend,Fr.op,lk,ins,lset,E.inval,constV,constVs,V.toE,builtinStep,lenE,elemsOf,okV,okE,E.v?,V.strip,binV,E.int?,E.bool?,appendStep,appended,baseOf,resultsOut,resultE,byteVs_length,flats_bytes,V.strip1,V.one,sizes_bytes,sizesOk,consume,E.weak,unV,sliceStep,boundOf,clip,indexAddrStep,indexStep,addrAdd,loadAt,placeOf,loadCs,cellE,storeAt,splice,E.cells?,V.cells,E.noMem,E.noLoc,E.noLp,callStep,vsOf,retE,V.flat,flats,St.obj,St.set,boxCells,Fr.loc_def,Fr.setLoc_def,E.part?,buildCells,buildSliceV,fillV,chunk,elemV,convV,vsOf,minMax,eqV,strBin,floatBin]
 exact ⟨T2,by rw [seq_norm s1,seq_norm s2]⟩
set_option maxRecDepth 40000 in
theorem text17 (m id k n at':Nat)(most:Int)(bs:List UInt8)(st:St)(ho:st.obj id=some [.slice (byteVs bs),.int .i64 k])(hw:st.wp≤id)(hb:bs.length<2 ^ 48)
  (h49:evalFn gS (m+12) 49 [.ptr id 0,.int .i64 k] st=some (.ret (.tuple [.int .i64 n,.int .i64 at']) none,st)) (h1:(n:Int)≤max most 0) (h2:at'+n≤bs.length) :
  evalFn gS (m+13) 17 [.ptr id 0,.int .i64 most] st=some (.ret (.str ((bs.take (at'+n)).drop at')) none,{st with objs:=st.objs.set id [.slice (byteVs bs),.int .i64 ((at'+n:Nat):Int)]}):=by
 have hm:fi17.marks=[]:=rfl
 have hl:fi17.locals=[]:=rfl
 have hn:=fun e=>need_ok (m+10) e
 have e1:(n:Int)≤if most<0 then 0 else most:=by split <;> omega
 have e2:IntKind.wrap .i64 ((bs.length:Int) - (at':Int))=(bs.length:Int) - (at':Int):=wrap64 (by omega) (by omega)
 have e3:(n:Int)≤(bs.length:Int) - (at':Int):=by omega
 have e4:IntKind.wrap .i64 ((at':Int)+(n:Int))=((at'+n:Nat):Int):=by rw [wrap64 (by omega) (by omega)];omega
 have hlen:id<st.objs.length:=(List.getElem?_eq_some_iff.1 ho).1
 obtain ⟨T1,s1⟩:=head17 m id k n at' most bs st ho (.seq (codeAt (codeOf Try.f17) [true,true,false]) (.seq (codeAt (codeOf Try.f17) [true,true,true,false]) (.seq (codeAt (codeOf Try.f17) [true,true,true,true,false]) (.seq (codeAt (codeOf Try.f17) [true,true,true,true,true,false]) .ret)))) h49
 obtain ⟨T2,s2⟩:∃ T,evalCode gS fi17 (evalFn gS (m+12)) (m+12) (codeAt (codeOf Try.f17) [true,true,false]) (F17 id most (.val (.str [])) (.val (.int .i64 n)) (.val (.int .i64 at')) T1) st =
   some (.normal,F17 id most (.val (.str [])) (.val (.int .i64 n)) (.val (.int .i64 at')) T,st):=by
  simp only [codeAt,codeOf,Try.f17,Option.getD_some,if_true,Bool.false_eq_true,if_false]
  simp [-zia,F17,gext,fn14,mkFI,Try.f14,hn,ty3,hm,hl,ib_leq,e1,evalCode,evalOps,wantedE,stepM,frzM,frzStep,frzOut,nilRefs,nilRef,marked,stepE,stepOp,startFr,Fr.clear,mapR_eq,take,upE,E.calm,Fr.putO,Fr.put_def,Fr.map_def,Fr.raw_def,Fr.get_def,Fr.lend,Fr.op,lk,ins,lset,E.inval,constV,constVs,V.toE,builtinStep,lenE,elemsOf,okV,okE,E.v?,V.strip,binV,E.int?,E.bool?,appendStep,appended,baseOf,resultsOut,resultE,byteVs_length,flats_bytes,V.strip1,V.one,sizes_bytes,sizesOk,consume,E.weak,unV,sliceStep,boundOf,clip,indexAddrStep,indexStep,addrAdd,loadAt,placeOf,loadCs,cellE,storeAt,splice,E.cells?,V.cells,E.noMem,E.noLoc,E.noLp,callStep,vsOf,retE,V.flat,flats,St.obj,St.set,boxCells,Fr.loc_def,Fr.setLoc_def,E.part?,buildCells,buildSliceV,fillV,chunk,elemV,convV,vsOf,minMax,eqV,strBin,floatBin]
 obtain ⟨T3,s3⟩:∃ T,evalCode gS fi17 (evalFn gS (m+12)) (m+12) (codeAt (codeOf Try.f17) [true,true,true,false]) (F17 id most (.val (.str [])) (.val (.int .i64 n)) (.val (.int .i64 at')) T2) st =
   some (.normal,F17 id most (.val (.str [])) (.val (.int .i64 n)) (.val (.int .i64 at')) T,st):=by
  simp only [St.obj] at ho
  simp only [codeAt,codeOf,Try.f17,Option.getD_some,if_true,Bool.false_eq_true,if_false]
  simp [-zia,F17,gext,fn14,mkFI,Try.f14,hn,ty3,ty24,ty59,ho,hm,hl,ib_leq,ib_sub,e2,e3,evalCode,evalOps,wantedE,stepM,frzM,frzStep,frzOut,nilRefs,nilRef,marked,stepE,stepOp,startFr,Fr.clear,mapR_eq,take,upE,E.calm,Fr.putO,Fr.put_def,Fr.map_def,Fr.raw_def,Fr.get_def,Fr.lend,Fr.op,lk,ins,lset,E.inval,constV,constVs,V.toE,builtinStep,lenE,elemsOf,okV,okE,E.v?,V.strip,binV,E.int?,E.bool?,appendStep,appended,baseOf,resultsOut,resultE,byteVs_length,flats_bytes,V.strip1,V.one,sizes_bytes,sizesOk,consume,E.weak,unV,sliceStep,boundOf,clip,indexAddrStep,indexStep,addrAdd,loadAt,placeOf,loadCs,cellE,storeAt,splice,E.cells?,V.cells,E.noMem,E.noLoc,E.noLp,callStep,vsOf,retE,V.flat,flats,St.obj,St.set,boxCells,Fr.loc_def,Fr.setLoc_def,E.part?,buildCells,buildSliceV,fillV,chunk,elemV,convV,vsOf,minMax,eqV,strBin,floatBin]
 obtain ⟨T4,s4⟩:∃ T,evalCode gS fi17 (evalFn gS (m+12)) (m+12) (codeAt (codeOf Try.f17) [true,true,true,true,false]) (F17 id most (.val (.str [])) (.val (.int .i64 n)) (.val (.int .i64 at')) T3) st =
   some (.normal,F17 id most (.val (.str [])) (.val (.int .i64 n)) (.val (.int .i64 at')) T,{st with objs:=st.objs.set id [.slice (byteVs bs),.int .i64 ((at'+n:Nat):Int)]}):=by
  simp only [St.obj] at ho
  simp only [codeAt,codeOf,Try.f17,Option.getD_some,if_true,Bool.false_eq_true,if_false]
  simp [-zia,F17,ty3,ty59,ho,hw,hm,hl,ib_add,e4,evalCode,evalOps,wantedE,stepM,frzM,frzStep,frzOut,nilRefs,nilRef,marked,stepE,stepOp,startFr,Fr.clear,mapR_eq,take,upE,E.calm,Fr.putO,Fr.put_def,Fr.map_def,Fr.raw_def,Fr.get_def,Fr.lend,Fr.op,lk,ins,lset,E.inval,constV,constVs,V.toE,builtinStep,lenE,elemsOf,okV,okE,E.v?,V.strip,binV,E.int?,E.bool?,appendStep,appended,baseOf,resultsOut,resultE,byteVs_length,flats_bytes,V.strip1,V.one,sizes_bytes,sizesOk,consume,E.weak,unV,sliceStep,boundOf,clip,indexAddrStep,indexStep,addrAdd,loadAt,placeOf,loadCs,cellE,storeAt,splice,E.cells?,V.cells,E.noMem,E.noLoc,E.noLp,callStep,vsOf,retE,V.flat,flats,St.obj,St.set,boxCells,Fr.loc_def,Fr.setLoc_def,E.part?,buildCells,buildSliceV,fillV,chunk,elemV,convV,vsOf,minMax,eqV,strBin,floatBin]
 have key:∃ T',evalD gS fi17 (evalFn gS (m+12)) (opsAt (codeAt (codeOf Try.f17) [true,true,true,true,true,false])).toList (F17 id most (.val (.str [])) (.val (.int .i64 n)) (.val (.int .i64 at')) []) {st with objs:=st.objs.set id [.slice (byteVs bs),.int .i64 ((at'+n:Nat):Int)]} =
   some (F17 id most (.val (.str ((bs.take (at'+n)).drop at'))) (.val (.int .i64 n)) (.val (.int .i64 at')) T'):=by
  have e5:(at':Int)≤((at'+n:Nat):Int):=by omega
  have e6:((at'+n:Nat):Int)≤(bs.length:Int):=by omega
  have e7:(0:Int)≤((at'+n:Nat):Int):=by omega
  have e9:((byteVs bs).take (at'+n)).drop at'=byteVs ((bs.take (at'+n)).drop at'):=by rw [take_bytes,drop_bytes]
  have e10:at'≤at'+n:=by omega
  generalize at'+n=w at *
  have e11:((byteVs bs).drop at').take (w - at')=byteVs ((bs.take w).drop at'):=by rw [← List.drop_take];exact e9
  generalize (bs.take w).drop at'=l8 at *
  simp only [codeAt,codeOf,Try.f17,Option.getD_some,if_true,Bool.false_eq_true,if_false,opsAt]
  simp [-zia,evalD,stepQ,isQM,isQ,quietOp,E.still,F17,ty24,ty59,ty3,ty9,u24,hlen,hm,hl,e5,e6,e7,e9,e10,e11,h2,bytes_of,evalCode,evalOps,wantedE,stepM,frzM,frzStep,frzOut,nilRefs,nilRef,marked,stepE,stepOp,startFr,Fr.clear,mapR_eq,take,upE,E.calm,Fr.putO,Fr.put_def,Fr.map_def,Fr.raw_def,Fr.get_def,Fr.lend,Fr.op,lk,ins,lset,E.inval,constV,constVs,V.toE,builtinStep,lenE,elemsOf,okV,okE,E.v?,V.strip,binV,E.int?,E.bool?,appendStep,appended,baseOf,resultsOut,resultE,byteVs_length,flats_bytes,V.strip1,V.one,sizes_bytes,sizesOk,consume,E.weak,unV,sliceStep,boundOf,clip,indexAddrStep,indexStep,addrAdd,loadAt,placeOf,loadCs,cellE,storeAt,splice,E.cells?,V.cells,E.noMem,E.noLoc,E.noLp,callStep,vsOf,retE,V.flat,flats,St.obj,St.set,boxCells,Fr.loc_def,Fr.setLoc_def,E.part?,buildCells,buildSliceV,fillV,chunk,elemV,convV,vsOf,minMax,eqV,strBin,floatBin]
 obtain ⟨T5,hk5⟩:=key
 have hd:=evalD_ok (ops:=opsAt (codeAt (codeOf Try.f17) [true,true,true,true,true,false])) (strong_all all17) _ 0 _ _ hk5
 have s5:evalCode gS fi17 (evalFn gS (m+12)) (m+12) (codeAt (codeOf Try.f17) [true,true,true,true,true,false]) (F17 id most (.val (.str [])) (.val (.int .i64 n)) (.val (.int .i64 at')) T4) {st with objs:=st.objs.set id [.slice (byteVs bs),.int .i64 ((at'+n:Nat):Int)]} =
   some (.normal,F17 id most (.val (.str ((bs.take (at'+n)).drop at'))) (.val (.int .i64 n)) (.val (.int .i64 at')) T5,{st with objs:=st.objs.set id [.slice (byteVs bs),.int .i64 ((at'+n:Nat):Int)]}):=by
  rw [reg17]
  simp only [evalCode,lex17,if_true]
  rw [show Fr.clear (F17 id most (.val (.str [])) (.val (.int .i64 n)) (.val (.int .i64 at')) T4)=F17 id most (.val (.str [])) (.val (.int .i64 n)) (.val (.int .i64 at')) [] from rfl,hd]
 rw [evalFn];simp only [hrun,evalBody,fn17]
 rw [show fi17.body=codeOf Try.f17 from rfl,split17,start17,s1,seq_norm s2,seq_norm s3,seq_norm s4,seq_norm s5]
 simp only [evalCode]
 simp [show fi17.results=[.tmp 4] from rfl,hm,F17,evalCode,evalOps,wantedE,stepM,frzM,frzStep,frzOut,nilRefs,nilRef,marked,stepE,stepOp,startFr,Fr.clear,mapR_eq,take,upE,E.calm,Fr.putO,Fr.put_def,Fr.map_def,Fr.raw_def,Fr.get_def,Fr.lend,Fr.op,lk,ins,lset,E.inval,constV,constVs,V.toE,builtinStep,lenE,elemsOf,okV,okE,E.v?,V.strip,binV,E.int?,E.bool?,appendStep,appended,baseOf,resultsOut,resultE,byteVs_length,flats_bytes,V.strip1,V.one,sizes_bytes,sizesOk,consume,E.weak,unV,sliceStep,boundOf,clip,indexAddrStep,indexStep,addrAdd,loadAt,placeOf,loadCs,cellE,storeAt,splice,E.cells?,V.cells,E.noMem,E.noLoc,E.noLp,callStep,vsOf,retE,V.flat,flats,St.obj,St.set,boxCells,Fr.loc_def,Fr.setLoc_def,E.part?,buildCells,buildSliceV,fillV,chunk,elemV,convV,vsOf,minMax,eqV,strBin,floatBin]
end Go.Proofs.Ytiiahehclbmodaa
namespace Go.Proofs.Ytiiahehclbmodaa
open Go Go.Ab
noncomputable def fi48:FI:={body:=codeOf Try.f48,ntmps:=5,results:=[],pers:=[0,1],locals:=[],pure:=false,marks:=[]}
theorem fn48:gS.fn 48=some fi48:=by kernel_rfl
theorem start48 (a b:V):startFr fi48 [a,b]={ps:=[(0,.val a),(1,.val b)],ts:=[],lc:=[]}:=rfl
theorem ty25:gS.ty 25=some {k:=.pointer,size:=1,agg:=false,zero:=[.nilp]}:=by kernel_rfl
theorem ty27:gS.ty 27=some {k:=.func,size:=1,agg:=false,zero:=[.nilf]}:=by kernel_rfl
set_option maxRecDepth 40000 in
theorem clos48 (m a b r h:Nat)(first cap:List V)(fi:FI)(hfi:gS.fn h=some fi)(hp:fi.pure=false)(hx:gS.ext h=none)(st st':St)(o:Out)
  (ha:st.obj a=some [.func h first cap]) (hb:st.obj b=some [.ptr r 0]) (hv:∀ v k,o=.ret v k→v=.tuple []∧k=none) (hc:evalFn gS m h (first ++ .ptr r 0 :: cap) st=some (o,st')) :
  evalFn gS (m+1) 48 [.ptr a 0,.ptr b 0] st=some (o,st'):=by
 have hm:fi48.marks=[]:=rfl
 have hl:fi48.locals=[]:=rfl
 rw [evalFn];simp only [hrun,evalBody,fn48]
 rw [start48]
 simp only [show fi48.body=codeOf Try.f48 from rfl,codeOf,Try.f48,Option.getD_some,show fi48.results=[] from rfl]
 simp only [St.obj] at ha hb
 cases o with
 | ret v k =>
  obtain ⟨rfl,rfl⟩:=hv v k rfl
  simp [hx,hfi,hp,hc,ty25,ty27,ha,hb,hm,hl,evalCode,evalOps,wantedE,stepM,frzM,frzStep,frzOut,nilRefs,nilRef,marked,stepE,stepOp,startFr,Fr.clear,mapR_eq,take,upE,E.calm,Fr.putO,Fr.put_def,Fr.map_def,Fr.raw_def,Fr.get_def,Fr.lend,Fr.op,lk,ins,lset,E.inval,constV,constVs,V.toE,builtinStep,lenE,elemsOf,okV,okE,E.v?,V.strip,binV,E.int?,E.bool?,appendStep,appended,baseOf,resultsOut,resultE,byteVs_length,flats_bytes,V.strip1,V.one,sizes_bytes,sizesOk,consume,E.weak,unV,sliceStep,boundOf,clip,indexAddrStep,indexStep,addrAdd,loadAt,placeOf,loadCs,cellE,storeAt,splice,E.cells?,V.cells,E.noMem,E.noLoc,E.noLp,callStep,vsOf,retE,V.flat,flats,St.obj,St.set,boxCells,Fr.loc_def,Fr.setLoc_def,E.part?,buildCells,buildSliceV,fillV,chunk,elemV,convV,vsOf,minMax,eqV,strBin,floatBin]
 | pan v =>
  simp [hx,hfi,hp,hc,ty25,ty27,ha,hb,hm,hl,evalCode,evalOps,wantedE,stepM,frzM,frzStep,frzOut,nilRefs,nilRef,marked,stepE,stepOp,startFr,Fr.clear,mapR_eq,take,upE,E.calm,Fr.putO,Fr.put_def,Fr.map_def,Fr.raw_def,Fr.get_def,Fr.lend,Fr.op,lk,ins,lset,E.inval,constV,constVs,V.toE,builtinStep,lenE,elemsOf,okV,okE,E.v?,V.strip,binV,E.int?,E.bool?,appendStep,appended,baseOf,resultsOut,resultE,byteVs_length,flats_bytes,V.strip1,V.one,sizes_bytes,sizesOk,consume,E.weak,unV,sliceStep,boundOf,clip,indexAddrStep,indexStep,addrAdd,loadAt,placeOf,loadCs,cellE,storeAt,splice,E.cells?,V.cells,E.noMem,E.noLoc,E.noLp,callStep,vsOf,retE,V.flat,flats,St.obj,St.set,boxCells,Fr.loc_def,Fr.setLoc_def,E.part?,buildCells,buildSliceV,fillV,chunk,elemV,convV,vsOf,minMax,eqV,strBin,floatBin]
def caught:Out→V
 | .pan (.iface _ (.int _ e))=>.int .i64 e
 | _=>.int .i64 0
theorem run47 (m a b r h:Nat)(first cap:List V)(fi:FI)(hfi:gS.fn h=some fi)(hp:fi.pure=false)(hx:gS.ext h=none)(st st':St)(o:Out)
  (ha:st.obj a=some [.func h first cap]) (hb:st.obj b=some [.ptr r 0]) (hv:o=.ret (.tuple []) none∨∃ e,o=.pan (.iface 22 (.int .i64 e))) (hc:evalFn gS m h (first ++ .ptr r 0 :: cap) st=some (o,st')) :
  evalFn gS (m+2) 47 [.func 48 [] [.ptr a 0,.ptr b 0]] st=some (.ret (caught o) none,st'):=by
 have h48:=clos48 m a b r h first cap fi hfi hp hx st st' o ha hb (by rintro v k rfl;rcases hv with hv | ⟨e,hv⟩ <;> cases hv;exact ⟨rfl,rfl⟩) hc
 rw [evalFn];simp only [hrun]
 rcases hv with rfl | ⟨e,rfl⟩ <;> simp [runFn,h48,caught]
noncomputable def fi8:FI:={body:=codeOf Try.f8,ntmps:=21,results:=[.tmp 4],pers:=[0,1,3,4,5,6],locals:=[],pure:=false,marks:=[]}
theorem fn8:gS.fn 8=some fi8:=by kernel_rfl
theorem fn47:∃ fi,gS.fn 47=some fi∧fi.pure=false:=⟨fiOf 47,by kernel_rfl,by kernel_rfl⟩
theorem start8 (a b:V):startFr fi8 [a,b]={ps:=[(0,.val a),(1,.val b),(3,.any),(4,.any),(5,.any),(6,.any)],ts:=[],lc:=[]}:=rfl
def rdSt (st:St)(bs:List UInt8)(h:Nat)(first cap:List V):St:={st with objs:=st.objs ++ [[.func h first cap],[.slice (byteVs bs),.int .i64 0],[.ptr (st.objs.length+1) 0]]}
set_option maxRecDepth 40000 in
theorem read8_no (m h:Nat)(first cap:List V)(fi:FI)(hfi:gS.fn h=some fi)(hp:fi.pure=false)(hx:gS.ext h=none)(bs:List UInt8)(hb:bs.length<2 ^ 47)(st st':St)(hw:st.wp≤st.objs.length)(e:Int)(he:e≠0)
  (hc:evalFn gS m h (first ++ .ptr (st.objs.length+1) 0 :: cap) (rdSt st bs h first cap)=some (.pan (.iface 22 (.int .i64 e)),st')) :
  evalFn gS (m+3) 8 [.slice (byteVs bs),.func h first cap] st=some (.ret (.int .i64 e) none,st'):=by
 have hm:fi8.marks=[]:=rfl
 have hl:fi8.locals=[]:=rfl
 obtain ⟨fi47,g47,p47⟩:=fn47
 have h47:=run47 m st.objs.length (st.objs.length+2) (st.objs.length+1) h first cap fi hfi hp hx (rdSt st bs h first cap) st' _ (by simp [rdSt,St.obj]) (by simp [rdSt,St.obj,List.getElem?_append]) (.inr ⟨e,rfl⟩) hc
 simp only [rdSt,caught] at h47
 have hk:bs.length≤140737488355328:=by omega
 have hw2:st.wp≤st.objs.length+2:=by omega
 have he:(e != 0)=true:=by simpa [bne_iff_ne] using he
 rw [evalFn];simp only [hrun,evalBody,fn8]
 rw [start8]
 simp only [show fi8.body=codeOf Try.f8 from rfl,codeOf,Try.f8,Option.getD_some,show fi8.results=[.tmp 4] from rfl]
 simp [gext,g47,p47,h47,he,hk,hw2,ty25,ty27,ty24,ty59,ty22,ib_neq,hm,hl,evalCode,evalOps,wantedE,stepM,frzM,frzStep,frzOut,nilRefs,nilRef,marked,stepE,stepOp,startFr,Fr.clear,mapR_eq,take,upE,E.calm,Fr.putO,Fr.put_def,Fr.map_def,Fr.raw_def,Fr.get_def,Fr.lend,Fr.op,lk,ins,lset,E.inval,constV,constVs,V.toE,builtinStep,lenE,elemsOf,okV,okE,E.v?,V.strip,binV,E.int?,E.bool?,appendStep,appended,baseOf,resultsOut,resultE,byteVs_length,flats_bytes,V.strip1,V.one,sizes_bytes,sizesOk,consume,E.weak,unV,sliceStep,boundOf,clip,indexAddrStep,indexStep,addrAdd,loadAt,placeOf,loadCs,cellE,storeAt,splice,E.cells?,V.cells,E.noMem,E.noLoc,E.noLp,callStep,vsOf,retE,V.flat,flats,St.obj,St.set,boxCells,Fr.loc_def,Fr.setLoc_def,E.part?,buildCells,buildSliceV,fillV,chunk,elemV,convV,vsOf,minMax,eqV,strBin,floatBin]
set_option maxRecDepth 40000 in
theorem read8_ok (m h:Nat)(first cap:List V)(fi:FI)(hfi:gS.fn h=some fi)(hp:fi.pure=false)(hx:gS.ext h=none)(bs:List UInt8)(k:Nat)(hb:bs.length<2 ^ 47)(hk0:k≤bs.length)(st st':St)(hw:st.wp≤st.objs.length)
  (hc:evalFn gS (m+2) h (first ++ .ptr (st.objs.length+1) 0 :: cap) (rdSt st bs h first cap)=some (.ret (.tuple []) none,st')) (h1:st'.obj (st.objs.length+1)=some [.slice (byteVs bs),.int .i64 k]) (h2:st'.obj (st.objs.length+2)=some [.ptr (st.objs.length+1) 0]) :
  evalFn gS (m+5) 8 [.slice (byteVs bs),.func h first cap] st=some (.ret (.int .i64 (if k=bs.length then 0 else 3)) none,st'):=by
 have hm:fi8.marks=[]:=rfl
 have hl:fi8.locals=[]:=rfl
 obtain ⟨fi47,g47,p47⟩:=fn47
 have h47:=run47 (m+2) st.objs.length (st.objs.length+2) (st.objs.length+1) h first cap fi hfi hp hx (rdSt st bs h first cap) st' _ (by simp [rdSt,St.obj]) (by simp [rdSt,St.obj,List.getElem?_append]) (.inl rfl) hc
 have h15:=left15 (m+3) bs (st.objs.length+1) k hk0 (by omega) st' h1
 simp only [rdSt,caught] at h47
 have hk:bs.length≤140737488355328:=by omega
 have hw2:st.wp≤st.objs.length+2:=by omega
 simp only [St.obj] at h1 h2
 rw [evalFn];simp only [hrun,evalBody,fn8]
 rw [start8]
 simp only [show fi8.body=codeOf Try.f8 from rfl,codeOf,Try.f8,Option.getD_some,show fi8.results=[.tmp 4] from rfl]
 by_cases hkk:k=bs.length
 ·have e1:¬ 0<bs.length - k:=by omega
  generalize bs.length - k=w at *
  simp [gext,g47,p47,h47,h15,fn15,show fi15.pure=false from rfl,h1,h2,e1,hk,hkk,hw2,ty25,ty27,ty24,ty59,ty22,ty3,ib_neq,ib_gtr,hm,hl,evalCode,evalOps,wantedE,stepM,frzM,frzStep,frzOut,nilRefs,nilRef,marked,stepE,stepOp,startFr,Fr.clear,mapR_eq,take,upE,E.calm,Fr.putO,Fr.put_def,Fr.map_def,Fr.raw_def,Fr.get_def,Fr.lend,Fr.op,lk,ins,lset,E.inval,constV,constVs,V.toE,builtinStep,lenE,elemsOf,okV,okE,E.v?,V.strip,binV,E.int?,E.bool?,appendStep,appended,baseOf,resultsOut,resultE,byteVs_length,flats_bytes,V.strip1,V.one,sizes_bytes,sizesOk,consume,E.weak,unV,sliceStep,boundOf,clip,indexAddrStep,indexStep,addrAdd,loadAt,placeOf,loadCs,cellE,storeAt,splice,E.cells?,V.cells,E.noMem,E.noLoc,E.noLp,callStep,vsOf,retE,V.flat,flats,St.obj,St.set,boxCells,Fr.loc_def,Fr.setLoc_def,E.part?,buildCells,buildSliceV,fillV,chunk,elemV,convV,vsOf,minMax,eqV,strBin,floatBin]
 ·have e1:0<bs.length - k:=by omega
  generalize bs.length - k=w at *
  simp [gext,g47,p47,h47,h15,fn15,show fi15.pure=false from rfl,h1,h2,e1,hk,hkk,hw2,ty25,ty27,ty24,ty59,ty22,ty3,ib_neq,ib_gtr,hm,hl,evalCode,evalOps,wantedE,stepM,frzM,frzStep,frzOut,nilRefs,nilRef,marked,stepE,stepOp,startFr,Fr.clear,mapR_eq,take,upE,E.calm,Fr.putO,Fr.put_def,Fr.map_def,Fr.raw_def,Fr.get_def,Fr.lend,Fr.op,lk,ins,lset,E.inval,constV,constVs,V.toE,builtinStep,lenE,elemsOf,okV,okE,E.v?,V.strip,binV,E.int?,E.bool?,appendStep,appended,baseOf,resultsOut,resultE,byteVs_length,flats_bytes,V.strip1,V.one,sizes_bytes,sizesOk,consume,E.weak,unV,sliceStep,boundOf,clip,indexAddrStep,indexStep,addrAdd,loadAt,placeOf,loadCs,cellE,storeAt,splice,E.cells?,V.cells,E.noMem,E.noLoc,E.noLp,callStep,vsOf,retE,V.flat,flats,St.obj,St.set,boxCells,Fr.loc_def,Fr.setLoc_def,E.part?,buildCells,buildSliceV,fillV,chunk,elemV,convV,vsOf,minMax,eqV,strBin,floatBin]
end Go.Proofs.Ytiiahehclbmodaa
namespace Go.Proofs.Ytiiahehclbmodaa
open Go Go.Ab
theorem cut49 (m q id k:Nat)(bs:List UInt8)(st:St)(ho:∃ z,st.obj id=some [.slice (byteVs bs),z])(hb:bs.length<2 ^ 48)(hk:k<2 ^ 48) :
  ∀ (d i acc v fuel J:Nat) (e8:E) (T:List (Nat × E)),(∀ (j:Nat) c,j<J→(vlow d v)[j]?=some c→bs[k+i+j]?=some c)→acc<2 ^ (7*i)→i+d≤8→bs.length=k+i+J→J≤(vlow d v).length→d<fuel →
  ∃ fr',iterate (evalCode gS fi49 (evalFn gS (m+2)) q (codeAt (codeOf Try.f49) [true,true,false,true,true,true])) fuel (F49 id k acc i e8 T) st=some (.pan (.iface 22 (.int .i64 2)),fr',st)
 | d,i,acc,v,fuel,0,e8,T,hbs,ha,hid,hl,hJ,hf=>by
  obtain ⟨fuel,rfl⟩:∃ f,fuel=f+1:=⟨fuel - 1,by omega⟩
  obtain ⟨fr',r⟩:=short49 m q id k acc i e8 T bs st ho (by omega) hb hk (by omega)
  exact ⟨fr',by simp only [iterate];rw [r]⟩
 | 0,i,acc,v,fuel,J+1,e8,T,hbs,ha,hid,hl,hJ,hf=>by simp [vlow] at hJ
 | d+1,i,acc,v,fuel,J+1,e8,T,hbs,ha,hid,hl,hJ,hf=>by
  obtain ⟨fuel,rfl⟩:∃ f,fuel=f+1:=⟨fuel - 1,by omega⟩
  have hlast:¬ v<128:=by
   intro h;simp [vlow,h] at hJ
  have e1:vlow (d+1) v=u8 ((v % 128+128:Nat):Int) :: vlow d (v / 128):=by simp [vlow,hlast]
  have hc:=hbs 0 (u8 ((v % 128+128:Nat):Int)) (by omega) (by rw [e1];rfl)
  have hn:=u8_nat (v % 128+128) (by omega)
  have hm:(u8 ((v % 128+128:Nat):Int)).toNat % 128=v % 128:=by rw [hn];omega
  obtain ⟨T1,e',r1⟩:=more49 m q id k acc i e8 T bs _ st ho (by omega) hb hk hc (by omega) ha
  rw [hm] at r1
  have hp:2 ^ (7*(i+1))=2 ^ (7*i)*128:=by rw [show 7*(i+1)=7*i+7 by omega,Nat.pow_add]
  have hle:v % 128*2 ^ (7*i)≤127*2 ^ (7*i):=Nat.mul_le_mul_right _ (by omega)
  obtain ⟨fr',q1⟩:=cut49 m q id k bs st ho hb hk d (i+1) (acc+v % 128*2 ^ (7*i)) (v / 128) fuel J e' T1
   (fun j c hj hc=>by
    have:=hbs (j+1) c (by omega) (by rw [e1];exact hc)
    rwa [show k+i+(j+1)=k+(i+1)+j by omega] at this)
   (by omega) (by omega) (by omega) (by rw [e1] at hJ;simpa using hJ) (by omega)
  exact ⟨fr',by simp only [iterate];rw [r1];exact q1⟩
theorem seq_pan {g:G} {fi:FI} {call:Calling} {q:Nat} {a b:Code} {fr fr':Fr} {st st':St} {v:V} (h:evalCode g fi call q a fr st=some (.pan v,fr',st')):evalCode g fi call q (.seq a b) fr st=some (.pan v,fr',st'):=by
 simp only [evalCode,h]
theorem nat49_no (m id k n J:Nat)(bs:List UInt8)(st:St)(ho:∃ z,st.obj id=some [.slice (byteVs bs),z])(hb:bs.length<2 ^ 48)(hk:k<2 ^ 48)
  (hbs:∀ (j:Nat) c,j<J→(vbytes n)[j]?=some c→bs[k+j]?=some c) (hl:bs.length=k+J) (hJ:J<(vbytes n).length) :
  evalFn gS (m+12) 49 [.ptr id 0,.int .i64 k] st=some (.pan (.iface 22 (.int .i64 2)),st):=by
 have hJ':J≤(vlow 8 n).length:=by simp [vbytes] at hJ;omega
 rw [evalFn];simp only [hrun,evalBody,fn49]
 rw [show fi49.body=codeOf Try.f49 from rfl,split49,start49]
 obtain ⟨T,h1⟩:=head49 (m+11) (m+11) id k st (.block 0 (.loop (codeAt (codeOf Try.f49) [true,true,false,true,true,true])))
 obtain ⟨fr',r1⟩:=cut49 (m+9) (m+11) id k bs st ho hb hk 8 0 0 n (m+11) J .any T (fun j c hj hc=>by
  rw [Nat.add_zero]
  exact hbs j c hj (by unfold vbytes;rw [List.getElem?_append_left (by omega)];exact hc)) (by simp) (by omega) (by omega) hJ' (by omega)
 rw [h1,seq_pan (show evalCode gS fi49 (evalFn gS (m+11)) (m+11) (.block 0 (.loop (codeAt (codeOf Try.f49) [true,true,false,true,true,true]))) _ st=some (.pan (.iface 22 (.int .i64 2)),fr',st) by simp only [evalCode];rw [r1])]
 simp
set_option maxRecDepth 40000 in
theorem nat10_no (m id k:Nat)(bs:List UInt8)(st:St)(ho:st.obj id=some [.slice (byteVs bs),.int .i64 k])
  (h49:evalFn gS (m+12) 49 [.ptr id 0,.int .i64 k] st=some (.pan (.iface 22 (.int .i64 2)),st)) :
  evalFn gS (m+13) 10 [.ptr id 0] st=some (.pan (.iface 22 (.int .i64 2)),st):=by
 have hm:fi10.marks=[]:=rfl
 have hl:fi10.locals=[]:=rfl
 rw [evalFn];simp only [hrun,evalBody,fn10]
 rw [start10]
 simp only [show fi10.body=codeOf Try.f10 from rfl,codeOf,Try.f10,Option.getD_some,show fi10.results=[.tmp 2] from rfl]
 simp only [St.obj] at ho
 simp [-zia,gext,fn49,show fi49.pure=false from rfl,h49,ty3,ty59,hm,hl,ho,evalCode,evalOps,wantedE,stepM,frzM,frzStep,frzOut,nilRefs,nilRef,marked,stepE,stepOp,startFr,Fr.clear,mapR_eq,take,upE,E.calm,Fr.putO,Fr.put_def,Fr.map_def,Fr.raw_def,Fr.get_def,Fr.lend,Fr.op,lk,ins,lset,E.inval,constV,constVs,V.toE,builtinStep,lenE,elemsOf,okV,okE,E.v?,V.strip,binV,E.int?,E.bool?,appendStep,appended,baseOf,resultsOut,resultE,byteVs_length,flats_bytes,V.strip1,V.one,sizes_bytes,sizesOk,consume,E.weak,unV,sliceStep,boundOf,clip,indexAddrStep,indexStep,addrAdd,loadAt,placeOf,loadCs,cellE,storeAt,splice,E.cells?,V.cells,E.noMem,E.noLoc,E.noLp,callStep,vsOf,retE,V.flat,flats,St.obj,St.set,boxCells,Fr.loc_def,Fr.setLoc_def,E.part?,buildCells,buildSliceV,fillV,chunk,elemV,convV,vsOf,minMax,eqV,strBin,floatBin]
set_option maxRecDepth 40000 in
theorem bits53_no (m id k:Nat)(bs:List UInt8)(st:St)(ho:st.obj id=some [.slice (byteVs bs),.int .i64 k])(hb:bs.length<2 ^ 48)(hk:k≤bs.length)(hk8:bs.length<k+8) :
  evalFn gS (m+12) 53 [.ptr id 0] st=some (.pan (.iface 22 (.int .i64 2)),st):=by
 have hm:fi53.marks=[]:=rfl
 have hl:fi53.locals=[]:=rfl
 have h15:=left15 (m+10) bs id k (by omega) hb st ho
 have hn:=need_no (m+9) 2 (by decide)
 have e0:¬ (8:Int)≤((bs.length - k:Nat):Int):=by omega
 obtain ⟨T1,s1⟩:∃ T,evalCode gS fi53 (evalFn gS (m+11)) (m+11) (codeAt (codeOf Try.f53) [false]) {ps:=[(0,.val (.ptr id 0)),(2,.any),(3,.any),(5,.any),(23,.any),(24,.any),(25,.any)],ts:=[],lc:=[]} st =
   some (.normal,{ps:=[(0,.val (.ptr id 0)),(2,.val (.int .u64 0)),(3,.any),(5,.any),(23,.any),(24,.any),(25,.any)],ts:=T,lc:=[]},st):=by
  simp only [codeAt,codeOf,Try.f53,Option.getD_some,if_true,Bool.false_eq_true,if_false]
  simp [ty52,hm,hl,evalCode,evalOps,wantedE,stepM,frzM,frzStep,frzOut,nilRefs,nilRef,marked,stepE,stepOp,startFr,Fr.clear,mapR_eq,take,upE,E.calm,Fr.putO,Fr.put_def,Fr.map_def,Fr.raw_def,Fr.get_def,Fr.lend,Fr.op,lk,ins,lset,E.inval,constV,constVs,V.toE,builtinStep,lenE,elemsOf,okV,okE,E.v?,V.strip,binV,E.int?,E.bool?,appendStep,appended,baseOf,resultsOut,resultE,byteVs_length,flats_bytes,V.strip1,V.one,sizes_bytes,sizesOk,consume,E.weak,unV,sliceStep,boundOf,clip,indexAddrStep,indexStep,addrAdd,loadAt,placeOf,loadCs,cellE,storeAt,splice,E.cells?,V.cells,E.noMem,E.noLoc,E.noLp,callStep,vsOf,retE,V.flat,flats,St.obj,St.set,boxCells,Fr.loc_def,Fr.setLoc_def,E.part?,buildCells,buildSliceV,fillV,chunk,elemV,convV,vsOf,minMax,eqV,strBin,floatBin]
 obtain ⟨fr',s2⟩:∃ fr',evalCode gS fi53 (evalFn gS (m+11)) (m+11) (codeAt (codeOf Try.f53) [true,false]) {ps:=[(0,.val (.ptr id 0)),(2,.val (.int .u64 0)),(3,.any),(5,.any),(23,.any),(24,.any),(25,.any)],ts:=T1,lc:=[]} st =
   some (.pan (.iface 22 (.int .i64 2)),fr',st):=by
  generalize bs.length - k=w at *
  simp only [codeAt,codeOf,Try.f53,Option.getD_some,if_true,Bool.false_eq_true,if_false]
  simp [gext,fn15,show fi15.pure=false from rfl,h15,fn14,mkFI,Try.f14,hn,ty3,hm,hl,ib_geq,e0,evalCode,evalOps,wantedE,stepM,frzM,frzStep,frzOut,nilRefs,nilRef,marked,stepE,stepOp,startFr,Fr.clear,mapR_eq,take,upE,E.calm,Fr.putO,Fr.put_def,Fr.map_def,Fr.raw_def,Fr.get_def,Fr.lend,Fr.op,lk,ins,lset,E.inval,constV,constVs,V.toE,builtinStep,lenE,elemsOf,okV,okE,E.v?,V.strip,binV,E.int?,E.bool?,appendStep,appended,baseOf,resultsOut,resultE,byteVs_length,flats_bytes,V.strip1,V.one,sizes_bytes,sizesOk,consume,E.weak,unV,sliceStep,boundOf,clip,indexAddrStep,indexStep,addrAdd,loadAt,placeOf,loadCs,cellE,storeAt,splice,E.cells?,V.cells,E.noMem,E.noLoc,E.noLp,callStep,vsOf,retE,V.flat,flats,St.obj,St.set,boxCells,Fr.loc_def,Fr.setLoc_def,E.part?,buildCells,buildSliceV,fillV,chunk,elemV,convV,vsOf,minMax,eqV,strBin,floatBin]
 rw [evalFn];simp only [hrun,evalBody,fn53]
 rw [show fi53.body=codeOf Try.f53 from rfl,split53,start53,seq_norm s1,seq_pan s2]
 simp
set_option maxRecDepth 40000 in
theorem int24_no (m id k:Nat)(bs:List UInt8)(st:St)(ho:st.obj id=some [.slice (byteVs bs),.int .i64 k])(hb:bs.length<2 ^ 48)(hk:k≤bs.length)(hk8:bs.length<k+8) :
  evalFn gS (m+13) 24 [.ptr id 0] st=some (.pan (.iface 22 (.int .i64 2)),st):=by
 have h53:=bits53_no m id k bs st ho hb hk hk8
 have hm:fi24.marks=[]:=rfl
 have hl:fi24.locals=[]:=rfl
 rw [evalFn];simp only [hrun,evalBody,fn24]
 rw [start24]
 simp only [show fi24.body=codeOf Try.f24 from rfl,codeOf,Try.f24,Option.getD_some,show fi24.results=[.tmp 2] from rfl]
 simp only [St.obj] at ho
 simp [-zia,gext,fn53,show fi53.pure=false from rfl,h53,ty2,ty3,ty52,ty59,hm,hl,ho,evalCode,evalOps,wantedE,stepM,frzM,frzStep,frzOut,nilRefs,nilRef,marked,stepE,stepOp,startFr,Fr.clear,mapR_eq,take,upE,E.calm,Fr.putO,Fr.put_def,Fr.map_def,Fr.raw_def,Fr.get_def,Fr.lend,Fr.op,lk,ins,lset,E.inval,constV,constVs,V.toE,builtinStep,lenE,elemsOf,okV,okE,E.v?,V.strip,binV,E.int?,E.bool?,appendStep,appended,baseOf,resultsOut,resultE,byteVs_length,flats_bytes,V.strip1,V.one,sizes_bytes,sizesOk,consume,E.weak,unV,sliceStep,boundOf,clip,indexAddrStep,indexStep,addrAdd,loadAt,placeOf,loadCs,cellE,storeAt,splice,E.cells?,V.cells,E.noMem,E.noLoc,E.noLp,callStep,vsOf,retE,V.flat,flats,St.obj,St.set,boxCells,Fr.loc_def,Fr.setLoc_def,E.part?,buildCells,buildSliceV,fillV,chunk,elemV,convV,vsOf,minMax,eqV,strBin,floatBin]
set_option maxRecDepth 40000 in
theorem text17_no (m id k:Nat)(most:Int)(bs:List UInt8)(st:St)(ho:st.obj id=some [.slice (byteVs bs),.int .i64 k])
  (h49:evalFn gS (m+12) 49 [.ptr id 0,.int .i64 k] st=some (.pan (.iface 22 (.int .i64 2)),st)) :
  evalFn gS (m+13) 17 [.ptr id 0,.int .i64 most] st=some (.pan (.iface 22 (.int .i64 2)),st):=by
 have hm:fi17.marks=[]:=rfl
 have hl:fi17.locals=[]:=rfl
 obtain ⟨T1,s1⟩:∃ T,evalCode gS fi17 (evalFn gS (m+12)) (m+12) (codeAt (codeOf Try.f17) [false]) {ps:=[(0,.val (.ptr id 0)),(1,.val (.int .i64 most)),(4,.any),(5,.any),(6,.any)],ts:=[],lc:=[]} st =
   some (.normal,F17 id most (.val (.str [])) .any .any T,st):=by
  simp only [codeAt,codeOf,Try.f17,Option.getD_some,if_true,Bool.false_eq_true,if_false]
  simp [F17,ty9,hm,hl,evalCode,evalOps,wantedE,stepM,frzM,frzStep,frzOut,nilRefs,nilRef,marked,stepE,stepOp,startFr,Fr.clear,mapR_eq,take,upE,E.calm,Fr.putO,Fr.put_def,Fr.map_def,Fr.raw_def,Fr.get_def,Fr.lend,Fr.op,lk,ins,lset,E.inval,constV,constVs,V.toE,builtinStep,lenE,elemsOf,okV,okE,E.v?,V.strip,binV,E.int?,E.bool?,appendStep,appended,baseOf,resultsOut,resultE,byteVs_length,flats_bytes,V.strip1,V.one,sizes_bytes,sizesOk,consume,E.weak,unV,sliceStep,boundOf,clip,indexAddrStep,indexStep,addrAdd,loadAt,placeOf,loadCs,cellE,storeAt,splice,E.cells?,V.cells,E.noMem,E.noLoc,E.noLp,callStep,vsOf,retE,V.flat,flats,St.obj,St.set,boxCells,Fr.loc_def,Fr.setLoc_def,E.part?,buildCells,buildSliceV,fillV,chunk,elemV,convV,vsOf,minMax,eqV,strBin,floatBin]
 obtain ⟨fr',s2⟩:∃ fr',evalCode gS fi17 (evalFn gS (m+12)) (m+12) (codeAt (codeOf Try.f17) [true,false]) (F17 id most (.val (.str [])) .any .any T1) st =
   some (.pan (.iface 22 (.int .i64 2)),fr',st):=by
  simp only [St.obj] at ho
  simp only [codeAt,codeOf,Try.f17,Option.getD_some,if_true,Bool.false_eq_true,if_false]
  simp [-zia,F17,gext,fn49,show fi49.pure=false from rfl,h49,ty3,ty59,ho,hm,hl,evalCode,evalOps,wantedE,stepM,frzM,frzStep,frzOut,nilRefs,nilRef,marked,stepE,stepOp,startFr,Fr.clear,mapR_eq,take,upE,E.calm,Fr.putO,Fr.put_def,Fr.map_def,Fr.raw_def,Fr.get_def,Fr.lend,Fr.op,lk,ins,lset,E.inval,constV,constVs,V.toE,builtinStep,lenE,elemsOf,okV,okE,E.v?,V.strip,binV,E.int?,E.bool?,appendStep,appended,baseOf,resultsOut,resultE,byteVs_length,flats_bytes,V.strip1,V.one,sizes_bytes,sizesOk,consume,E.weak,unV,sliceStep,boundOf,clip,indexAddrStep,indexStep,addrAdd,loadAt,placeOf,loadCs,cellE,storeAt,splice,E.cells?,V.cells,E.noMem,E.noLoc,E.noLp,callStep,vsOf,retE,V.flat,flats,St.obj,St.set,boxCells,Fr.loc_def,Fr.setLoc_def,E.part?,buildCells,buildSliceV,fillV,chunk,elemV,convV,vsOf,minMax,eqV,strBin,floatBin]
 rw [evalFn];simp only [hrun,evalBody,fn17]
 rw [show fi17.body=codeOf Try.f17 from rfl,split17,start17,seq_norm s1,seq_pan s2]
 simp
set_option maxRecDepth 40000 in
theorem text17_form (m id k n at':Nat)(most:Int)(bs:List UInt8)(st:St)(ho:st.obj id=some [.slice (byteVs bs),.int .i64 k])
  (h49:evalFn gS (m+12) 49 [.ptr id 0,.int .i64 k] st=some (.ret (.tuple [.int .i64 n,.int .i64 at']) none,st)) (h1:max most 0<(n:Int)) :
  evalFn gS (m+13) 17 [.ptr id 0,.int .i64 most] st=some (.pan (.iface 22 (.int .i64 3)),st):=by
 have hm:fi17.marks=[]:=rfl
 have hl:fi17.locals=[]:=rfl
 have hn:=need_no (m+10) 3 (by decide)
 have e1:¬ (n:Int)≤if most<0 then 0 else most:=by split <;> omega
 obtain ⟨T1,s1⟩:=head17 m id k n at' most bs st ho (.seq (codeAt (codeOf Try.f17) [true,true,false]) (.seq (codeAt (codeOf Try.f17) [true,true,true,false]) (.seq (codeAt (codeOf Try.f17) [true,true,true,true,false]) (.seq (codeAt (codeOf Try.f17) [true,true,true,true,true,false]) .ret)))) h49
 obtain ⟨fr',s2⟩:∃ fr',evalCode gS fi17 (evalFn gS (m+12)) (m+12) (codeAt (codeOf Try.f17) [true,true,false]) (F17 id most (.val (.str [])) (.val (.int .i64 n)) (.val (.int .i64 at')) T1) st =
   some (.pan (.iface 22 (.int .i64 3)),fr',st):=by
  simp only [codeAt,codeOf,Try.f17,Option.getD_some,if_true,Bool.false_eq_true,if_false]
  simp [-zia,F17,gext,fn14,mkFI,Try.f14,hn,ty3,hm,hl,ib_leq,e1,evalCode,evalOps,wantedE,stepM,frzM,frzStep,frzOut,nilRefs,nilRef,marked,stepE,stepOp,startFr,Fr.clear,mapR_eq,take,upE,E.calm,Fr.putO,Fr.put_def,Fr.map_def,Fr.raw_def,Fr.get_def,Fr.lend,Fr.op,lk,ins,lset,E.inval,constV,constVs,V.toE,builtinStep,lenE,elemsOf,okV,okE,E.v?,V.strip,binV,E.int?,E.bool?,appendStep,appended,baseOf,resultsOut,resultE,byteVs_length,flats_bytes,V.strip1,V.one,sizes_bytes,sizesOk,consume,E.weak,unV,sliceStep,boundOf,clip,indexAddrStep,indexStep,addrAdd,loadAt,placeOf,loadCs,cellE,storeAt,splice,E.cells?,V.cells,E.noMem,E.noLoc,E.noLp,callStep,vsOf,retE,V.flat,flats,St.obj,St.set,boxCells,Fr.loc_def,Fr.setLoc_def,E.part?,buildCells,buildSliceV,fillV,chunk,elemV,convV,vsOf,minMax,eqV,strBin,floatBin]
 rw [evalFn];simp only [hrun,evalBody,fn17]
 rw [show fi17.body=codeOf Try.f17 from rfl,split17,start17,s1,seq_pan s2]
 simp
set_option maxRecDepth 40000 in
theorem text17_short (m id k n at':Nat)(most:Int)(bs:List UInt8)(st:St)(ho:st.obj id=some [.slice (byteVs bs),.int .i64 k])(hb:bs.length<2 ^ 48)(ha:at'<2 ^ 48)
  (h49:evalFn gS (m+12) 49 [.ptr id 0,.int .i64 k] st=some (.ret (.tuple [.int .i64 n,.int .i64 at']) none,st)) (h1:(n:Int)≤max most 0) (h2:bs.length<at'+n) :
  evalFn gS (m+13) 17 [.ptr id 0,.int .i64 most] st=some (.pan (.iface 22 (.int .i64 2)),st):=by
 have hm:fi17.marks=[]:=rfl
 have hl:fi17.locals=[]:=rfl
 have hn:=need_ok (m+10) 3
 have hn2:=need_no (m+10) 2 (by decide)
 have e1:(n:Int)≤if most<0 then 0 else most:=by split <;> omega
 have e2:IntKind.wrap .i64 ((bs.length:Int) - (at':Int))=(bs.length:Int) - (at':Int):=wrap64 (by omega) (by omega)
 have e3:¬ (n:Int)≤(bs.length:Int) - (at':Int):=by omega
 obtain ⟨T1,s1⟩:=head17 m id k n at' most bs st ho (.seq (codeAt (codeOf Try.f17) [true,true,false]) (.seq (codeAt (codeOf Try.f17) [true,true,true,false]) (.seq (codeAt (codeOf Try.f17) [true,true,true,true,false]) (.seq (codeAt (codeOf Try.f17) [true,true,true,true,true,false]) .ret)))) h49
 obtain ⟨T2,s2⟩:∃ T,evalCode gS fi17 (evalFn gS (m+12)) (m+12) (codeAt (codeOf Try.f17) [true,true,false]) (F17 id most (.val (.str [])) (.val (.int .i64 n)) (.val (.int .i64 at')) T1) st =
   some (.normal,F17 id most (.val (.str [])) (.val (.int .i64 n)) (.val (.int .i64 at')) T,st):=by
  simp only [codeAt,codeOf,Try.f17,Option.getD_some,if_true,Bool.false_eq_true,if_false]
  simp [-zia,F17,gext,fn14,mkFI,Try.f14,hn,ty3,hm,hl,ib_leq,e1,evalCode,evalOps,wantedE,stepM,frzM,frzStep,frzOut,nilRefs,nilRef,marked,stepE,stepOp,startFr,Fr.clear,mapR_eq,take,upE,E.calm,Fr.putO,Fr.put_def,Fr.map_def,Fr.raw_def,Fr.get_def,Fr.lend,Fr.op,lk,ins,lset,E.inval,constV,constVs,V.toE,builtinStep,lenE,elemsOf,okV,okE,E.v?,V.strip,binV,E.int?,E.bool?,appendStep,appended,baseOf,resultsOut,resultE,byteVs_length,flats_bytes,V.strip1,V.one,sizes_bytes,sizesOk,consume,E.weak,unV,sliceStep,boundOf,clip,indexAddrStep,indexStep,addrAdd,loadAt,placeOf,loadCs,cellE,storeAt,splice,E.cells?,V.cells,E.noMem,E.noLoc,E.noLp,callStep,vsOf,retE,V.flat,flats,St.obj,St.set,boxCells,Fr.loc_def,Fr.setLoc_def,E.part?,buildCells,buildSliceV,fillV,chunk,elemV,convV,vsOf,minMax,eqV,strBin,floatBin]
 obtain ⟨fr',s3⟩:∃ fr',evalCode gS fi17 (evalFn gS (m+12)) (m+12) (codeAt (codeOf Try.f17) [true,true,true,false]) (F17 id most (.val (.str [])) (.val (.int .i64 n)) (.val (.int .i64 at')) T2) st =
   some (.pan (.iface 22 (.int .i64 2)),fr',st):=by
  simp only [St.obj] at ho
  simp only [codeAt,codeOf,Try.f17,Option.getD_some,if_true,Bool.false_eq_true,if_false]
  simp [-zia,F17,gext,fn14,mkFI,Try.f14,hn2,ty3,ty24,ty59,ho,hm,hl,ib_leq,ib_sub,e2,e3,evalCode,evalOps,wantedE,stepM,frzM,frzStep,frzOut,nilRefs,nilRef,marked,stepE,stepOp,startFr,Fr.clear,mapR_eq,take,upE,E.calm,Fr.putO,Fr.put_def,Fr.map_def,Fr.raw_def,Fr.get_def,Fr.lend,Fr.op,lk,ins,lset,E.inval,constV,constVs,V.toE,builtinStep,lenE,elemsOf,okV,okE,E.v?,V.strip,binV,E.int?,E.bool?,appendStep,appended,baseOf,resultsOut,resultE,byteVs_length,flats_bytes,V.strip1,V.one,sizes_bytes,sizesOk,consume,E.weak,unV,sliceStep,boundOf,clip,indexAddrStep,indexStep,addrAdd,loadAt,placeOf,loadCs,cellE,storeAt,splice,E.cells?,V.cells,E.noMem,E.noLoc,E.noLp,callStep,vsOf,retE,V.flat,flats,St.obj,St.set,boxCells,Fr.loc_def,Fr.setLoc_def,E.part?,buildCells,buildSliceV,fillV,chunk,elemV,convV,vsOf,minMax,eqV,strBin,floatBin]
 rw [evalFn];simp only [hrun,evalBody,fn17]
 rw [show fi17.body=codeOf Try.f17 from rfl,split17,start17,s1,seq_norm s2,seq_pan s3]
 simp
end Go.Proofs.Ytiiahehclbmodaa
namespace Go.Proofs.Ytiiahehclbmodaa
open Go Go.Ab
noncomputable def fi23:FI:={body:=codeOf Try.f23,ntmps:=8,results:=[],pers:=[0],locals:=[],pure:=false,marks:=[]}
theorem fn23:gS.fn 23=some fi23:=by kernel_rfl
noncomputable def fi27:FI:={body:=codeOf Try.f27,ntmps:=4,results:=[],pers:=[0],locals:=[],pure:=false,marks:=[]}
theorem fn27:gS.fn 27=some fi27:=by kernel_rfl
noncomputable def fi28:FI:={body:=codeOf Try.f28,ntmps:=4,results:=[],pers:=[0],locals:=[],pure:=false,marks:=[]}
theorem fn28:gS.fn 28=some fi28:=by kernel_rfl
theorem start23 (a:V):startFr fi23 [a]={ps:=[(0,.val a)],ts:=[],lc:=[]}:=rfl
theorem start27 (a:V):startFr fi27 [a]={ps:=[(0,.val a)],ts:=[],lc:=[]}:=rfl
theorem start28 (a:V):startFr fi28 [a]={ps:=[(0,.val a)],ts:=[],lc:=[]}:=rfl
set_option maxRecDepth 40000 in
theorem one27 (m:Nat)(id:Nat)(st st':St)(o:Out)(ho:(∃ v,o=.ret v none)∨∃ v,o=.pan v)(h:evalFn gS m 17 [.ptr id 0,.int .i64 100] st=some (o,st')) :
  evalFn gS (m+1) 27 [.ptr id 0] st=some (match o with | .pan v=>.pan v | _=>.ret (.tuple []) none,st'):=by
 have hm:fi27.marks=[]:=rfl
 have hl:fi27.locals=[]:=rfl
 rw [evalFn];simp only [hrun,evalBody,fn27]
 rw [start27]
 simp only [show fi27.body=codeOf Try.f27 from rfl,codeOf,Try.f27,Option.getD_some,show fi27.results=[] from rfl]
 rcases ho with ⟨v,rfl⟩ | ⟨v,rfl⟩
 ·simp [gext,fn17,show fi17.pure=false from rfl,h,hm,hl,evalCode,evalOps,wantedE,stepM,frzM,frzStep,frzOut,nilRefs,nilRef,marked,stepE,stepOp,startFr,Fr.clear,mapR_eq,take,upE,E.calm,Fr.putO,Fr.put_def,Fr.map_def,Fr.raw_def,Fr.get_def,Fr.lend,Fr.op,lk,ins,lset,E.inval,constV,constVs,V.toE,builtinStep,lenE,elemsOf,okV,okE,E.v?,V.strip,binV,E.int?,E.bool?,appendStep,appended,baseOf,resultsOut,resultE,byteVs_length,flats_bytes,V.strip1,V.one,sizes_bytes,sizesOk,consume,E.weak,unV,sliceStep,boundOf,clip,indexAddrStep,indexStep,addrAdd,loadAt,placeOf,loadCs,cellE,storeAt,splice,E.cells?,V.cells,E.noMem,E.noLoc,E.noLp,callStep,vsOf,retE,V.flat,flats,St.obj,St.set,boxCells,Fr.loc_def,Fr.setLoc_def,E.part?,buildCells,buildSliceV,fillV,chunk,elemV,convV,vsOf,minMax,eqV,strBin,floatBin]
 ·simp [gext,fn17,show fi17.pure=false from rfl,h,hm,hl,evalCode,evalOps,wantedE,stepM,frzM,frzStep,frzOut,nilRefs,nilRef,marked,stepE,stepOp,startFr,Fr.clear,mapR_eq,take,upE,E.calm,Fr.putO,Fr.put_def,Fr.map_def,Fr.raw_def,Fr.get_def,Fr.lend,Fr.op,lk,ins,lset,E.inval,constV,constVs,V.toE,builtinStep,lenE,elemsOf,okV,okE,E.v?,V.strip,binV,E.int?,E.bool?,appendStep,appended,baseOf,resultsOut,resultE,byteVs_length,flats_bytes,V.strip1,V.one,sizes_bytes,sizesOk,consume,E.weak,unV,sliceStep,boundOf,clip,indexAddrStep,indexStep,addrAdd,loadAt,placeOf,loadCs,cellE,storeAt,splice,E.cells?,V.cells,E.noMem,E.noLoc,E.noLp,callStep,vsOf,retE,V.flat,flats,St.obj,St.set,boxCells,Fr.loc_def,Fr.setLoc_def,E.part?,buildCells,buildSliceV,fillV,chunk,elemV,convV,vsOf,minMax,eqV,strBin,floatBin]
set_option maxRecDepth 40000 in
theorem one28 (m:Nat)(id:Nat)(st st':St)(o:Out)(ho:(∃ v,o=.ret v none)∨∃ v,o=.pan v)(h:evalFn gS m 17 [.ptr id 0,.int .i64 100] st=some (o,st')) :
  evalFn gS (m+1) 28 [.ptr id 0] st=some (match o with | .pan v=>.pan v | _=>.ret (.tuple []) none,st'):=by
 have hm:fi28.marks=[]:=rfl
 have hl:fi28.locals=[]:=rfl
 rw [evalFn];simp only [hrun,evalBody,fn28]
 rw [start28]
 simp only [show fi28.body=codeOf Try.f28 from rfl,codeOf,Try.f28,Option.getD_some,show fi28.results=[] from rfl]
 rcases ho with ⟨v,rfl⟩ | ⟨v,rfl⟩
 ·simp [gext,fn17,show fi17.pure=false from rfl,h,hm,hl,evalCode,evalOps,wantedE,stepM,frzM,frzStep,frzOut,nilRefs,nilRef,marked,stepE,stepOp,startFr,Fr.clear,mapR_eq,take,upE,E.calm,Fr.putO,Fr.put_def,Fr.map_def,Fr.raw_def,Fr.get_def,Fr.lend,Fr.op,lk,ins,lset,E.inval,constV,constVs,V.toE,builtinStep,lenE,elemsOf,okV,okE,E.v?,V.strip,binV,E.int?,E.bool?,appendStep,appended,baseOf,resultsOut,resultE,byteVs_length,flats_bytes,V.strip1,V.one,sizes_bytes,sizesOk,consume,E.weak,unV,sliceStep,boundOf,clip,indexAddrStep,indexStep,addrAdd,loadAt,placeOf,loadCs,cellE,storeAt,splice,E.cells?,V.cells,E.noMem,E.noLoc,E.noLp,callStep,vsOf,retE,V.flat,flats,St.obj,St.set,boxCells,Fr.loc_def,Fr.setLoc_def,E.part?,buildCells,buildSliceV,fillV,chunk,elemV,convV,vsOf,minMax,eqV,strBin,floatBin]
 ·simp [gext,fn17,show fi17.pure=false from rfl,h,hm,hl,evalCode,evalOps,wantedE,stepM,frzM,frzStep,frzOut,nilRefs,nilRef,marked,stepE,stepOp,startFr,Fr.clear,mapR_eq,take,upE,E.calm,Fr.putO,Fr.put_def,Fr.map_def,Fr.raw_def,Fr.get_def,Fr.lend,Fr.op,lk,ins,lset,E.inval,constV,constVs,V.toE,builtinStep,lenE,elemsOf,okV,okE,E.v?,V.strip,binV,E.int?,E.bool?,appendStep,appended,baseOf,resultsOut,resultE,byteVs_length,flats_bytes,V.strip1,V.one,sizes_bytes,sizesOk,consume,E.weak,unV,sliceStep,boundOf,clip,indexAddrStep,indexStep,addrAdd,loadAt,placeOf,loadCs,cellE,storeAt,splice,E.cells?,V.cells,E.noMem,E.noLoc,E.noLp,callStep,vsOf,retE,V.flat,flats,St.obj,St.set,boxCells,Fr.loc_def,Fr.setLoc_def,E.part?,buildCells,buildSliceV,fillV,chunk,elemV,convV,vsOf,minMax,eqV,strBin,floatBin]
set_option maxRecDepth 40000 in
theorem all23 (m id:Nat)(st s1 s2 s3:St)(v1 v2 v3:V)(h1:evalFn gS m 10 [.ptr id 0] st=some (.ret v1 none,s1))(h2:evalFn gS m 24 [.ptr id 0] s1=some (.ret v2 none,s2))(h3:evalFn gS m 17 [.ptr id 0,.int .i64 100] s2=some (.ret v3 none,s3)) :
  evalFn gS (m+1) 23 [.ptr id 0] st=some (.ret (.tuple []) none,s3):=by
 have hm:fi23.marks=[]:=rfl
 have hl:fi23.locals=[]:=rfl
 rw [evalFn];simp only [hrun,evalBody,fn23]
 rw [start23]
 simp only [show fi23.body=codeOf Try.f23 from rfl,codeOf,Try.f23,Option.getD_some,show fi23.results=[] from rfl]
 simp [gext,fn10,fn24,fn17,show fi10.pure=false from rfl,show fi24.pure=false from rfl,show fi17.pure=false from rfl,h1,h2,h3,hm,hl,evalCode,evalOps,wantedE,stepM,frzM,frzStep,frzOut,nilRefs,nilRef,marked,stepE,stepOp,startFr,Fr.clear,mapR_eq,take,upE,E.calm,Fr.putO,Fr.put_def,Fr.map_def,Fr.raw_def,Fr.get_def,Fr.lend,Fr.op,lk,ins,lset,E.inval,constV,constVs,V.toE,builtinStep,lenE,elemsOf,okV,okE,E.v?,V.strip,binV,E.int?,E.bool?,appendStep,appended,baseOf,resultsOut,resultE,byteVs_length,flats_bytes,V.strip1,V.one,sizes_bytes,sizesOk,consume,E.weak,unV,sliceStep,boundOf,clip,indexAddrStep,indexStep,addrAdd,loadAt,placeOf,loadCs,cellE,storeAt,splice,E.cells?,V.cells,E.noMem,E.noLoc,E.noLp,callStep,vsOf,retE,V.flat,flats,St.obj,St.set,boxCells,Fr.loc_def,Fr.setLoc_def,E.part?,buildCells,buildSliceV,fillV,chunk,elemV,convV,vsOf,minMax,eqV,strBin,floatBin]
set_option maxRecDepth 40000 in
theorem no1_23 (m id:Nat)(st s1:St)(v1:V)(h1:evalFn gS m 10 [.ptr id 0] st=some (.pan v1,s1)):evalFn gS (m+1) 23 [.ptr id 0] st=some (.pan v1,s1):=by
 have hm:fi23.marks=[]:=rfl
 have hl:fi23.locals=[]:=rfl
 rw [evalFn];simp only [hrun,evalBody,fn23]
 rw [start23]
 simp only [show fi23.body=codeOf Try.f23 from rfl,codeOf,Try.f23,Option.getD_some,show fi23.results=[] from rfl]
 simp [gext,fn10,fn24,fn17,show fi10.pure=false from rfl,h1,hm,hl,evalCode,evalOps,wantedE,stepM,frzM,frzStep,frzOut,nilRefs,nilRef,marked,stepE,stepOp,startFr,Fr.clear,mapR_eq,take,upE,E.calm,Fr.putO,Fr.put_def,Fr.map_def,Fr.raw_def,Fr.get_def,Fr.lend,Fr.op,lk,ins,lset,E.inval,constV,constVs,V.toE,builtinStep,lenE,elemsOf,okV,okE,E.v?,V.strip,binV,E.int?,E.bool?,appendStep,appended,baseOf,resultsOut,resultE,byteVs_length,flats_bytes,V.strip1,V.one,sizes_bytes,sizesOk,consume,E.weak,unV,sliceStep,boundOf,clip,indexAddrStep,indexStep,addrAdd,loadAt,placeOf,loadCs,cellE,storeAt,splice,E.cells?,V.cells,E.noMem,E.noLoc,E.noLp,callStep,vsOf,retE,V.flat,flats,St.obj,St.set,boxCells,Fr.loc_def,Fr.setLoc_def,E.part?,buildCells,buildSliceV,fillV,chunk,elemV,convV,vsOf,minMax,eqV,strBin,floatBin]
set_option maxRecDepth 40000 in
theorem no2_23 (m id:Nat)(st s1 s2:St)(v1 v2:V)(h1:evalFn gS m 10 [.ptr id 0] st=some (.ret v1 none,s1))(h2:evalFn gS m 24 [.ptr id 0] s1=some (.pan v2,s2)):evalFn gS (m+1) 23 [.ptr id 0] st=some (.pan v2,s2):=by
 have hm:fi23.marks=[]:=rfl
 have hl:fi23.locals=[]:=rfl
 rw [evalFn];simp only [hrun,evalBody,fn23]
 rw [start23]
 simp only [show fi23.body=codeOf Try.f23 from rfl,codeOf,Try.f23,Option.getD_some,show fi23.results=[] from rfl]
 simp [gext,fn10,fn24,fn17,show fi10.pure=false from rfl,show fi24.pure=false from rfl,h1,h2,hm,hl,evalCode,evalOps,wantedE,stepM,frzM,frzStep,frzOut,nilRefs,nilRef,marked,stepE,stepOp,startFr,Fr.clear,mapR_eq,take,upE,E.calm,Fr.putO,Fr.put_def,Fr.map_def,Fr.raw_def,Fr.get_def,Fr.lend,Fr.op,lk,ins,lset,E.inval,constV,constVs,V.toE,builtinStep,lenE,elemsOf,okV,okE,E.v?,V.strip,binV,E.int?,E.bool?,appendStep,appended,baseOf,resultsOut,resultE,byteVs_length,flats_bytes,V.strip1,V.one,sizes_bytes,sizesOk,consume,E.weak,unV,sliceStep,boundOf,clip,indexAddrStep,indexStep,addrAdd,loadAt,placeOf,loadCs,cellE,storeAt,splice,E.cells?,V.cells,E.noMem,E.noLoc,E.noLp,callStep,vsOf,retE,V.flat,flats,St.obj,St.set,boxCells,Fr.loc_def,Fr.setLoc_def,E.part?,buildCells,buildSliceV,fillV,chunk,elemV,convV,vsOf,minMax,eqV,strBin,floatBin]
set_option maxRecDepth 40000 in
theorem no3_23 (m id:Nat)(st s1 s2 s3:St)(v1 v2 v3:V)(h1:evalFn gS m 10 [.ptr id 0] st=some (.ret v1 none,s1))(h2:evalFn gS m 24 [.ptr id 0] s1=some (.ret v2 none,s2))(h3:evalFn gS m 17 [.ptr id 0,.int .i64 100] s2=some (.pan v3,s3)) :
  evalFn gS (m+1) 23 [.ptr id 0] st=some (.pan v3,s3):=by
 have hm:fi23.marks=[]:=rfl
 have hl:fi23.locals=[]:=rfl
 rw [evalFn];simp only [hrun,evalBody,fn23]
 rw [start23]
 simp only [show fi23.body=codeOf Try.f23 from rfl,codeOf,Try.f23,Option.getD_some,show fi23.results=[] from rfl]
 simp [gext,fn10,fn24,fn17,show fi10.pure=false from rfl,show fi24.pure=false from rfl,show fi17.pure=false from rfl,h1,h2,h3,hm,hl,evalCode,evalOps,wantedE,stepM,frzM,frzStep,frzOut,nilRefs,nilRef,marked,stepE,stepOp,startFr,Fr.clear,mapR_eq,take,upE,E.calm,Fr.putO,Fr.put_def,Fr.map_def,Fr.raw_def,Fr.get_def,Fr.lend,Fr.op,lk,ins,lset,E.inval,constV,constVs,V.toE,builtinStep,lenE,elemsOf,okV,okE,E.v?,V.strip,binV,E.int?,E.bool?,appendStep,appended,baseOf,resultsOut,resultE,byteVs_length,flats_bytes,V.strip1,V.one,sizes_bytes,sizesOk,consume,E.weak,unV,sliceStep,boundOf,clip,indexAddrStep,indexStep,addrAdd,loadAt,placeOf,loadCs,cellE,storeAt,splice,E.cells?,V.cells,E.noMem,E.noLoc,E.noLp,callStep,vsOf,retE,V.flat,flats,St.obj,St.set,boxCells,Fr.loc_def,Fr.setLoc_def,E.part?,buildCells,buildSliceV,fillV,chunk,elemV,convV,vsOf,minMax,eqV,strBin,floatBin]
end Go.Proofs.Ytiiahehclbmodaa
namespace Go.Proofs.Ytiiahehclbmodaa
open Go Go.Ab
def rdK (st:St)(id:Nat)(bs:List UInt8)(k:Nat):St:={st with objs:=st.objs.set id [.slice (byteVs bs),.int .i64 (k:Nat)]}
theorem rdK_obj {st:St} {id:Nat} (h:id<st.objs.length)(bs:List UInt8)(k:Nat):St.obj (rdK st id bs k) id=some [.slice (byteVs bs),.int .i64 (k:Nat)]:=by
 unfold rdK St.obj
 rw [List.getElem?_set_self h]
theorem rdK_len (st:St)(id:Nat)(bs:List UInt8)(k:Nat):(rdK st id bs k).objs.length=st.objs.length:=by simp [rdK]
theorem rdK_rdK (st:St)(id:Nat)(bs:List UInt8)(k j:Nat):{rdK st id bs k with objs:=(rdK st id bs k).objs.set id [.slice (byteVs bs),.int .i64 (j:Nat)]}=rdK st id bs j:=by
 simp [rdK]
theorem rdK_other {st:St} {id:Nat} (bs:List UInt8)(k:Nat) {i:Nat} (h:i≠id):St.obj (rdK st id bs k) i=St.obj st i:=by
 unfold rdK St.obj
 rw [List.getElem?_set_ne (Ne.symm h)]
theorem vbytes_pos (n:Nat):0<(vbytes n).length:=by simp [vbytes]
theorem vbytes_le (n:Nat):(vbytes n).length≤9:=by
 have:=vlow_len 8 n
 simp [vbytes];omega
theorem pre_get {X R:List UInt8} {r j:Nat} {c:UInt8} (h:X[j]?=some c)(hj:j<r):((X ++ R).take r)[j]?=some c:=by
 have hx:=(List.getElem?_eq_some_iff.1 h).1
 rw [List.getElem?_take_of_lt hj,List.getElem?_append_left hx];exact h
theorem mid_get {P X R:List UInt8} {r j:Nat} {c:UInt8} (h:X[j]?=some c)(hj:P.length+j<r):((P ++ X ++ R).take r)[P.length+j]?=some c:=by
 have hx:=(List.getElem?_eq_some_iff.1 h).1
 rw [List.getElem?_take_of_lt hj,zaa,List.getElem?_append_right (by omega),Nat.add_sub_cancel_left,List.getElem?_append_left hx];exact h
theorem cut23 (m id n L r:Nat)(Y s:List UInt8)(hY:Y.length=8)(hs:s.length=L)(hL:L≤100)(hn:n≤4611686018427387904)(st:St)(hid:id<st.objs.length)(hw:st.wp≤id)(hr:r<(vbytes n ++ Y ++ vbytes L ++ s).length)
  (ho:St.obj st id=some [.slice (byteVs ((vbytes n ++ Y ++ vbytes L ++ s).take r)),.int .i64 (0:Nat)]) :
  ∃ st',evalFn gS (m+14) 23 [.ptr id 0] st=some (.pan (.iface 22 (.int .i64 2)),st')∧st'.wp=st.wp∧st'.objs.length=st.objs.length:=by
 have h1:=vbytes_le n
 have h2:=vbytes_le L
 have p1:=vbytes_pos n
 have p2:=vbytes_pos L
 have hl:((vbytes n ++ Y ++ vbytes L ++ s).take r).length=r:=by rw [List.length_take];omega
 have hr2:r<(vbytes n).length+8+(vbytes L).length+L:=by simpa [hY,hs,Nat.add_assoc] using hr
 have e1:vbytes n ++ Y ++ vbytes L ++ s=vbytes n ++ (Y ++ vbytes L ++ s):=by simp
 generalize hbs:(vbytes n ++ Y ++ vbytes L ++ s).take r=bs at *
 have hb:bs.length<2 ^ 48:=by omega
 rcases Nat.lt_or_ge r (vbytes n).length with c1 | c1
 ·have h49:=nat49_no m id 0 n r bs st ⟨_,ho⟩ hb (by omega) (fun j c hj hc=>by rw [Nat.zero_add,← hbs,e1];exact pre_get hc hj) (by omega) c1
  exact ⟨st,no1_23 (m+13) id st st _ (nat10_no m id 0 bs st ho h49),rfl,rfl⟩
 ·have k1:=nat10 m id 0 n bs st ho hw hb (by omega) hn (fun j c hc=>by
   have hj:=(List.getElem?_eq_some_iff.1 hc).1
   rw [Nat.zero_add,← hbs,e1];exact pre_get hc (by omega))
  rw [show ({st with objs:=st.objs.set id [.slice (byteVs bs),.int .i64 ((0+(vbytes n).length:Nat):Int)]}:St)=rdK st id bs (vbytes n).length from by rw [Nat.zero_add];rfl] at k1
  have o1:=rdK_obj hid bs (vbytes n).length
  rcases Nat.lt_or_ge r ((vbytes n).length+8) with c2 | c2
  ·have k2:=int24_no m id (vbytes n).length bs _ o1 hb (by omega) (by omega)
   exact ⟨_,no2_23 (m+13) id st _ _ _ _ k1 k2,rfl,rdK_len _ _ _ _⟩
  ·have k2:=int24 m id (vbytes n).length bs _ o1 hw hb (by omega)
   rw [rdK_rdK] at k2
   have o2:=rdK_obj hid bs ((vbytes n).length+8)
   have hp:(vbytes n ++ Y).length=(vbytes n).length+8:=by rw [zla,hY]
   rcases Nat.lt_or_ge r ((vbytes n).length+8+(vbytes L).length) with c3 | c3
   ·have h49:=nat49_no m id ((vbytes n).length+8) L (r - ((vbytes n).length+8)) bs (rdK st id bs ((vbytes n).length+8)) ⟨_,o2⟩ hb (by omega) (fun j c hj hc=>by
     rw [← hbs,← hp];exact mid_get hc (by omega)) (by omega) (by omega)
    exact ⟨_,no3_23 (m+13) id st _ _ _ _ _ _ k1 k2 (text17_no m id ((vbytes n).length+8) 100 bs _ o2 h49),rfl,rdK_len _ _ _ _⟩
   ·have h49:=nat49 m id ((vbytes n).length+8) L bs (rdK st id bs ((vbytes n).length+8)) ⟨_,o2⟩ hb (by omega) (by omega) (fun j c hc=>by
     have hj:=(List.getElem?_eq_some_iff.1 hc).1
     rw [← hbs,← hp];exact mid_get hc (by omega))
    exact ⟨_,no3_23 (m+13) id st _ _ _ _ _ _ k1 k2 (text17_short m id ((vbytes n).length+8) L ((vbytes n).length+8+(vbytes L).length) 100 bs _ o2 hb (by omega) h49 (by omega) (by omega)),rfl,rdK_len _ _ _ _⟩
theorem whole23 (m id n L:Nat)(Y s R:List UInt8)(hY:Y.length=8)(hs:s.length=L)(hL:L≤100)(hn:n≤4611686018427387904)(hR:R.length≤10)(st:St)(hid:id<st.objs.length)(hw:st.wp≤id)
  (ho:St.obj st id=some [.slice (byteVs (vbytes n ++ Y ++ vbytes L ++ s ++ R)),.int .i64 (0:Nat)]) :
  evalFn gS (m+14) 23 [.ptr id 0] st=some (.ret (.tuple []) none,rdK st id (vbytes n ++ Y ++ vbytes L ++ s ++ R) (vbytes n ++ Y ++ vbytes L ++ s).length):=by
 have h1:=vbytes_le n
 have h2:=vbytes_le L
 have hl:(vbytes n ++ Y ++ vbytes L ++ s ++ R).length=(vbytes n).length+8+(vbytes L).length+L+R.length:=by simp [hY,hs,Nat.add_assoc]
 have hl2:(vbytes n ++ Y ++ vbytes L ++ s).length=(vbytes n).length+8+(vbytes L).length+L:=by simp [hY,hs,Nat.add_assoc]
 have e1:vbytes n ++ Y ++ vbytes L ++ s ++ R=vbytes n ++ (Y ++ vbytes L ++ s ++ R):=by simp
 have e2:vbytes n ++ Y ++ vbytes L ++ s ++ R=vbytes n ++ Y ++ vbytes L ++ (s ++ R):=by simp
 have e3:∀ l:List UInt8,l=l.take l.length:=fun l=>by rw [List.take_length]
 rw [hl2]
 generalize hbs:vbytes n ++ Y ++ vbytes L ++ s ++ R=bs at *
 have hb:bs.length<2 ^ 48:=by omega
 have k1:=nat10 m id 0 n bs st ho hw hb (by omega) hn (fun j c hc=>by
  have hj:=(List.getElem?_eq_some_iff.1 hc).1
  rw [Nat.zero_add,e3 bs,e1];exact pre_get hc (by rw [← e1];omega))
 rw [show ({st with objs:=st.objs.set id [.slice (byteVs bs),.int .i64 ((0+(vbytes n).length:Nat):Int)]}:St)=rdK st id bs (vbytes n).length from by rw [Nat.zero_add];rfl] at k1
 have o1:=rdK_obj hid bs (vbytes n).length
 have k2:=int24 m id (vbytes n).length bs _ o1 hw hb (by omega)
 rw [rdK_rdK] at k2
 have o2:=rdK_obj hid bs ((vbytes n).length+8)
 have hp:(vbytes n ++ Y).length=(vbytes n).length+8:=by rw [zla,hY]
 have h49:=nat49 m id ((vbytes n).length+8) L bs (rdK st id bs ((vbytes n).length+8)) ⟨_,o2⟩ hb (by omega) (by omega) (fun j c hc=>by
  have hj:=(List.getElem?_eq_some_iff.1 hc).1
  rw [e3 bs,e2,← hp];exact mid_get hc (by rw [← e2];omega))
 have k3:=text17 m id ((vbytes n).length+8) L ((vbytes n).length+8+(vbytes L).length) 100 bs _ o2 hw hb h49 (by omega) (by omega)
 rw [rdK_rdK] at k3
 exact all23 (m+13) id st _ _ _ _ _ _ k1 k2 k3
theorem form27 (m id:Nat)(st:St)(ho:St.obj st id=some [.slice (byteVs (vbytes 101)),.int .i64 (0:Nat)]):evalFn gS (m+14) 27 [.ptr id 0] st=some (.pan (.iface 22 (.int .i64 3)),st):=by
 have h49:=nat49 m id 0 101 (vbytes 101) st ⟨_,ho⟩ (by have:=vbytes_le 101;omega) (by omega) (by omega) (fun j c hc=>by rw [Nat.zero_add];exact hc)
 exact one27 (m+13) id st st _ (.inr ⟨_,rfl⟩) (text17_form m id 0 101 _ 100 _ st ho h49 (by omega))
theorem short28 (m id:Nat)(st:St)(ho:St.obj st id=some [.slice (byteVs (vbytes 100)),.int .i64 (0:Nat)]):evalFn gS (m+14) 28 [.ptr id 0] st=some (.pan (.iface 22 (.int .i64 2)),st):=by
 have h49:=nat49 m id 0 100 (vbytes 100) st ⟨_,ho⟩ (by have:=vbytes_le 100;omega) (by omega) (by omega) (fun j c hc=>by rw [Nat.zero_add];exact hc)
 have:=vbytes_le 100
 exact one28 (m+13) id st st _ (.inr ⟨_,rfl⟩) (text17_short m id 0 100 _ 100 _ st ho (by omega) (by omega) h49 (by omega) (by omega))
end Go.Proofs.Ytiiahehclbmodaa
namespace Go.Proofs.Ytiiahehclbmodaa
open Go Go.Ab
noncomputable def fi4:FI:={body:=codeOf Try.f4,ntmps:=63,results:=[.tmp 8],pers:=[0,1,2,3,8,9,10,11,12,13,14],locals:=[],pure:=false,marks:=[]}
theorem fn4:gS.fn 4=some fi4:=by kernel_rfl
theorem start4 (a b c d:V):startFr fi4 [a,b,c,d]={ps:=[(0,.val a),(1,.val b),(2,.val c),(3,.val d),(8,.any),(9,.any),(10,.any),(11,.any),(12,.any),(13,.any),(14,.any)],ts:=[],lc:=[]}:=rfl
theorem readA (n L r:Nat)(Y s W:List UInt8)(hW:W=vbytes n ++ Y ++ vbytes L ++ s)(hY:Y.length=8)(hs:s.length=L)(hL:L≤100)(hn:n≤4611686018427387904)(hr:r<W.length)(st:St)(hw:st.wp≤st.objs.length) :
  ∃ st',st'.wp≤st'.objs.length∧evalFn gS 61 8 [.slice (byteVs (W.take r)),.func 23 [] []] st=some (.ret (.int .i64 2) none,st'):=by
 subst hW
 have h1:=vbytes_le n
 have h2:=vbytes_le L
 have hl:((vbytes n ++ Y ++ vbytes L ++ s).take r).length≤200:=by
  rw [List.length_take]
  have:(vbytes n ++ Y ++ vbytes L ++ s).length≤200:=by simp only [zla];omega
  omega
 obtain ⟨st',h,w,l⟩:=cut23 44 (st.objs.length+1) n L r Y s hY hs hL hn (rdSt st ((vbytes n ++ Y ++ vbytes L ++ s).take r) 23 [] []) (by simp [rdSt]) (by simp only [rdSt];omega) hr (by simp [rdSt,St.obj,List.getElem?_append])
 refine ⟨st',by rw [w,l];simp only [rdSt,zla];omega,?_⟩
 exact read8_no 58 23 [] [] fi23 fn23 rfl (by rw [gext];rfl) _ (by omega) st st' hw 2 (by decide) h
theorem readB (n L:Nat)(Y s W R:List UInt8)(hW:W=vbytes n ++ Y ++ vbytes L ++ s)(hY:Y.length=8)(hs:s.length=L)(hL:L≤100)(hn:n≤4611686018427387904)(hR:R.length≤10)(hR0:0<R.length)(st:St)(hw:st.wp≤st.objs.length) :
  ∃ st',st'.wp≤st'.objs.length∧evalFn gS 61 8 [.slice (byteVs (W ++ R)),.func 23 [] []] st=some (.ret (.int .i64 3) none,st'):=by
 subst hW
 have h1:=vbytes_le n
 have h2:=vbytes_le L
 have hl:(vbytes n ++ Y ++ vbytes L ++ s ++ R).length≤200:=by simp only [zla];omega
 have hl2:(vbytes n ++ Y ++ vbytes L ++ s).length<(vbytes n ++ Y ++ vbytes L ++ s ++ R).length:=by simp only [zla];omega
 have hid:st.objs.length+1<(rdSt st (vbytes n ++ Y ++ vbytes L ++ s ++ R) 23 [] []).objs.length:=by simp [rdSt]
 have h:=whole23 44 (st.objs.length+1) n L Y s R hY hs hL hn hR (rdSt st (vbytes n ++ Y ++ vbytes L ++ s ++ R) 23 [] []) hid (by simp only [rdSt];omega) (by simp [rdSt,St.obj,List.getElem?_append])
 have ob:=rdK_other (st:=rdSt st (vbytes n ++ Y ++ vbytes L ++ s ++ R) 23 [] []) (id:=st.objs.length+1) (vbytes n ++ Y ++ vbytes L ++ s ++ R) (vbytes n ++ Y ++ vbytes L ++ s).length (i:=st.objs.length+2) (by omega)
 have key:=read8_ok 56 23 [] [] fi23 fn23 rfl (by rw [gext];rfl) _ (vbytes n ++ Y ++ vbytes L ++ s).length (by omega) (by omega) st _ hw h (rdK_obj hid _ _) (by rw [ob];simp [rdSt,St.obj,List.getElem?_append])
 rw [if_neg (by omega)] at key
 refine ⟨_,?_,key⟩
 rw [rdK_len];simp only [rdSt,rdK,zla];omega
theorem readC (st:St)(hw:st.wp≤st.objs.length) :
  ∃ st',st'.wp≤st'.objs.length∧evalFn gS 61 8 [.slice (byteVs (vbytes 101)),.func 27 [] []] st=some (.ret (.int .i64 3) none,st'):=by
 have h1:=vbytes_le 101
 have h:=form27 44 (st.objs.length+1) (rdSt st (vbytes 101) 27 [] []) (by simp [rdSt,St.obj,List.getElem?_append])
 exact ⟨_,by simp only [rdSt,zla];omega,read8_no 58 27 [] [] fi27 fn27 rfl (by rw [gext];rfl) _ (by omega) st _ hw 3 (by decide) h⟩
theorem readD (st:St)(hw:st.wp≤st.objs.length) :
  ∃ st',st'.wp≤st'.objs.length∧evalFn gS 61 8 [.slice (byteVs (vbytes 100)),.func 28 [] []] st=some (.ret (.int .i64 2) none,st'):=by
 have h1:=vbytes_le 100
 have h:=short28 44 (st.objs.length+1) (rdSt st (vbytes 100) 28 [] []) (by simp [rdSt,St.obj,List.getElem?_append])
 exact ⟨_,by simp only [rdSt,zla];omega,read8_no 58 28 [] [] fi28 fn28 rfl (by rw [gext];rfl) _ (by omega) st _ hw 2 (by decide) h⟩
def G4 (n s k c:V)(e8 e9 e10 e11 e12 e13 e14:E)(T:List (Nat × E)):Fr:={ps:=[(0,.val n),(1,.val s),(2,.val k),(3,.val c),(8,e8),(9,e9),(10,e10),(11,e11),(12,e12),(13,e13),(14,e14)],ts:=T,lc:=[]}
noncomputable def ev4 (p:List Bool)(fr:Fr)(st:St):=evalCode gS fi4 (evalFn gS 61) 61 (codeAt (codeOf Try.f4) p) fr st
theorem split4:codeOf Try.f4=.seq (codeAt (codeOf Try.f4) [false]) (.seq (codeAt (codeOf Try.f4) [true,false]) (.seq (codeAt (codeOf Try.f4) [true,true,false]) (.seq (codeAt (codeOf Try.f4) [true,true,true,false]) (.seq (codeAt (codeOf Try.f4) [true,true,true,true,false])
  (.seq (codeAt (codeOf Try.f4) [true,true,true,true,true,false]) (.seq (codeAt (codeOf Try.f4) [true,true,true,true,true,true,false]) (.seq (codeAt (codeOf Try.f4) [true,true,true,true,true,true,true,false]) (.seq (codeAt (codeOf Try.f4) [true,true,true,true,true,true,true,true,false]) (codeAt (codeOf Try.f4) [true,true,true,true,true,true,true,true,true]))))))))):=by kernel_rfl
theorem hm4:fi4.marks=[]:=rfl
theorem hl4:fi4.locals=[]:=rfl
set_option maxRecDepth 40000
set_option maxHeartbeats 4000000
theorem q0 (n s k c:V)(st:St):∃ T,ev4 [false] (G4 n s k c .any .any .any .any .any .any .any []) st=some (.normal,G4 n s k c (.val (.bool false)) .any .any .any .any .any .any T,st):=by
 simp only [ev4,codeAt,codeOf,Try.f4,Option.getD_some,if_true,Bool.false_eq_true,if_false]
 simp [G4,hm4,hl4,ty24,evalCode,evalOps,wantedE,stepM,frzM,frzStep,frzOut,nilRefs,nilRef,marked,stepE,stepOp,startFr,Fr.clear,mapR_eq,take,upE,E.calm,Fr.putO,Fr.put_def,Fr.map_def,Fr.raw_def,Fr.get_def,Fr.lend,Fr.op,lk,ins,lset,E.inval,constV,constVs,V.toE,builtinStep,lenE,elemsOf,okV,okE,E.v?,V.strip,binV,E.int?,E.bool?,appendStep,appended,baseOf,resultsOut,resultE,byteVs_length,flats_bytes,V.strip1,V.one,sizes_bytes,sizesOk,consume,E.weak,unV,sliceStep,boundOf,clip,indexAddrStep,indexStep,addrAdd,loadAt,placeOf,loadCs,cellE,storeAt,splice,E.cells?,V.cells,E.noMem,E.noLoc,E.noLp,callStep,vsOf,retE,V.flat,flats,St.obj,St.set,boxCells,Fr.loc_def,Fr.setLoc_def,E.part?,buildCells,buildSliceV,fillV,chunk,elemV,convV,vsOf,minMax,eqV,strBin,floatBin]
theorem q1 (n0:Int)(s:V)(k c:V)(T0:List (Nat × E))(st:St):∃ (n:Nat) (T:List (Nat × E)),n≤4611686018427387904∧ev4 [true,false] (G4 (.int .i64 n0) s k c (.val (.bool false)) .any .any .any .any .any .any T0) st=some (.normal,G4 (.int .i64 n) s k c (.val (.bool false)) .any .any .any .any .any .any T,st):=by
 simp only [ev4,codeAt,codeOf,Try.f4,Option.getD_some,if_true,Bool.false_eq_true,if_false]
 rcases Int.lt_or_le n0 0 with h | h
 ·refine ⟨0,?_⟩
  have e1:n0<4611686018427387904:=by omega
  have e2:¬ 0<n0:=by omega
  have e3:¬ 4611686018427387904<n0:=by omega
  simp [G4,hm4,hl4,ty24,ty3,h,e1,e2,e3,evalCode,evalOps,wantedE,stepM,frzM,frzStep,frzOut,nilRefs,nilRef,marked,stepE,stepOp,startFr,Fr.clear,mapR_eq,take,upE,E.calm,Fr.putO,Fr.put_def,Fr.map_def,Fr.raw_def,Fr.get_def,Fr.lend,Fr.op,lk,ins,lset,E.inval,constV,constVs,V.toE,builtinStep,lenE,elemsOf,okV,okE,E.v?,V.strip,binV,E.int?,E.bool?,appendStep,appended,baseOf,resultsOut,resultE,byteVs_length,flats_bytes,V.strip1,V.one,sizes_bytes,sizesOk,consume,E.weak,unV,sliceStep,boundOf,clip,indexAddrStep,indexStep,addrAdd,loadAt,placeOf,loadCs,cellE,storeAt,splice,E.cells?,V.cells,E.noMem,E.noLoc,E.noLp,callStep,vsOf,retE,V.flat,flats,St.obj,St.set,boxCells,Fr.loc_def,Fr.setLoc_def,E.part?,buildCells,buildSliceV,fillV,chunk,elemV,convV,vsOf,minMax,eqV,strBin,floatBin]
 ·obtain ⟨w,rfl⟩:=Int.eq_ofNat_of_zero_le h
  rcases Nat.lt_or_ge w 4611686018427387904 with h1 | h1
  ·refine ⟨w,?_⟩
   have e1:(w:Int)<4611686018427387904:=by omega
   have e2:¬ (w:Int)<0:=by omega
   have e3:¬ 4611686018427387904<(w:Int):=by omega
   have e4:w≤4611686018427387904:=by omega
   simp [G4,hm4,hl4,ty24,ty3,e1,e2,e3,e4,evalCode,evalOps,wantedE,stepM,frzM,frzStep,frzOut,nilRefs,nilRef,marked,stepE,stepOp,startFr,Fr.clear,mapR_eq,take,upE,E.calm,Fr.putO,Fr.put_def,Fr.map_def,Fr.raw_def,Fr.get_def,Fr.lend,Fr.op,lk,ins,lset,E.inval,constV,constVs,V.toE,builtinStep,lenE,elemsOf,okV,okE,E.v?,V.strip,binV,E.int?,E.bool?,appendStep,appended,baseOf,resultsOut,resultE,byteVs_length,flats_bytes,V.strip1,V.one,sizes_bytes,sizesOk,consume,E.weak,unV,sliceStep,boundOf,clip,indexAddrStep,indexStep,addrAdd,loadAt,placeOf,loadCs,cellE,storeAt,splice,E.cells?,V.cells,E.noMem,E.noLoc,E.noLp,callStep,vsOf,retE,V.flat,flats,St.obj,St.set,boxCells,Fr.loc_def,Fr.setLoc_def,E.part?,buildCells,buildSliceV,fillV,chunk,elemV,convV,vsOf,minMax,eqV,strBin,floatBin]
   try omega
  ·refine ⟨4611686018427387904,?_⟩
   have e1:¬ (w:Int)<4611686018427387904:=by omega
   have e2:¬ (w:Int)<0:=by omega
   simp [G4,hm4,hl4,ty24,ty3,e1,e2,evalCode,evalOps,wantedE,stepM,frzM,frzStep,frzOut,nilRefs,nilRef,marked,stepE,stepOp,startFr,Fr.clear,mapR_eq,take,upE,E.calm,Fr.putO,Fr.put_def,Fr.map_def,Fr.raw_def,Fr.get_def,Fr.lend,Fr.op,lk,ins,lset,E.inval,constV,constVs,V.toE,builtinStep,lenE,elemsOf,okV,okE,E.v?,V.strip,binV,E.int?,E.bool?,appendStep,appended,baseOf,resultsOut,resultE,byteVs_length,flats_bytes,V.strip1,V.one,sizes_bytes,sizesOk,consume,E.weak,unV,sliceStep,boundOf,clip,indexAddrStep,indexStep,addrAdd,loadAt,placeOf,loadCs,cellE,storeAt,splice,E.cells?,V.cells,E.noMem,E.noLoc,E.noLp,callStep,vsOf,retE,V.flat,flats,St.obj,St.set,boxCells,Fr.loc_def,Fr.setLoc_def,E.part?,buildCells,buildSliceV,fillV,chunk,elemV,convV,vsOf,minMax,eqV,strBin,floatBin]
   (repeat' split) <;> omega
theorem q2 (n:V)(s:List UInt8)(k c:V)(T0:List (Nat × E))(st:St):∃ T,ev4 [true,true,false] (G4 n (.str s) k c (.val (.bool false)) .any .any .any .any .any .any T0) st=some (.normal,G4 n (.str (s.take 100)) k c (.val (.bool false)) .any .any .any .any .any .any T,st):=by
 have h:∀ st,evalFn gS 61 20 [.str s,.int .i64 100] st=some (.ret (.str (s.take 100)) none,st):=fun st=>short 60 s 100 st
 simp only [ev4,codeAt,codeOf,Try.f4,Option.getD_some,if_true,Bool.false_eq_true,if_false]
 simp [G4,hm4,hl4,ty24,ty9,ty3,gext,fn20,mkFI,Try.f20,h,evalCode,evalOps,wantedE,stepM,frzM,frzStep,frzOut,nilRefs,nilRef,marked,stepE,stepOp,startFr,Fr.clear,mapR_eq,take,upE,E.calm,Fr.putO,Fr.put_def,Fr.map_def,Fr.raw_def,Fr.get_def,Fr.lend,Fr.op,lk,ins,lset,E.inval,constV,constVs,V.toE,builtinStep,lenE,elemsOf,okV,okE,E.v?,V.strip,binV,E.int?,E.bool?,appendStep,appended,baseOf,resultsOut,resultE,byteVs_length,flats_bytes,V.strip1,V.one,sizes_bytes,sizesOk,consume,E.weak,unV,sliceStep,boundOf,clip,indexAddrStep,indexStep,addrAdd,loadAt,placeOf,loadCs,cellE,storeAt,splice,E.cells?,V.cells,E.noMem,E.noLoc,E.noLp,callStep,vsOf,retE,V.flat,flats,St.obj,St.set,boxCells,Fr.loc_def,Fr.setLoc_def,E.part?,buildCells,buildSliceV,fillV,chunk,elemV,convV,vsOf,minMax,eqV,strBin,floatBin]
theorem q3 (n:Nat)(s:List UInt8)(hn:n≤4611686018427387904)(hs:s.length≤100)(k c:V)(T0:List (Nat × E))(st:St) :
  ∃ T,ev4 [true,true,true,false] (G4 (.int .i64 n) (.str s) k c (.val (.bool false)) .any .any .any .any .any .any T0) st=some (.normal,G4 (.int .i64 n) (.str s) k c (.val (.bool false)) (.own 1 (byteVs (vbytes n ++ words 5 ++ vbytes s.length ++ s))) .any .any .any .any .any T,st):=by
 have p1:=vbytes_le n
 have h1:=fun st=>nat19 49 n [] hn (by simp) st
 have h2:=fun st=>int22 48 (vbytes n) 5 (by omega) st
 have h3:=fun st=>text21 48 (vbytes n ++ words 5) s (by simp [words];omega) (by omega) st
 rw [show IntKind.wrap .u64 5=5 from by decide] at h2
 simp only [List.nil_append,show byteVs []=[] from rfl] at h1
 generalize hB:vbytes n ++ words 5 ++ vbytes s.length ++ s=B at h3 ⊢
 simp only [ev4,codeAt,codeOf,Try.f4,Option.getD_some,if_true,Bool.false_eq_true,if_false]
 simp [G4,hm4,hl4,ty24,ty9,ty3,ty2,gext,fn19,fn22,fn21,show fi19.pure=true from rfl,mkFI,Try.f19,Try.f22,Try.f21,h1,h2,h3,evalCode,evalOps,wantedE,stepM,frzM,frzStep,frzOut,nilRefs,nilRef,marked,stepE,stepOp,startFr,Fr.clear,mapR_eq,take,upE,E.calm,Fr.putO,Fr.put_def,Fr.map_def,Fr.raw_def,Fr.get_def,Fr.lend,Fr.op,lk,ins,lset,E.inval,constV,constVs,V.toE,builtinStep,lenE,elemsOf,okV,okE,E.v?,V.strip,binV,E.int?,E.bool?,appendStep,appended,baseOf,resultsOut,resultE,byteVs_length,flats_bytes,V.strip1,V.one,sizes_bytes,sizesOk,consume,E.weak,unV,sliceStep,boundOf,clip,indexAddrStep,indexStep,addrAdd,loadAt,placeOf,loadCs,cellE,storeAt,splice,E.cells?,V.cells,E.noMem,E.noLoc,E.noLp,callStep,vsOf,retE,V.flat,flats,St.obj,St.set,boxCells,Fr.loc_def,Fr.setLoc_def,E.part?,buildCells,buildSliceV,fillV,chunk,elemV,convV,vsOf,minMax,eqV,strBin,floatBin]
theorem q4 (n s:V)(k c:V)(W:List UInt8)(T0:List (Nat × E))(st:St):∃ T,ev4 [true,true,true,true,false] (G4 n s k c (.val (.bool false)) (.own 1 (byteVs W)) .any .any .any .any .any T0) st=some (.normal,G4 n s k c (.val (.bool false)) (.own 1 (byteVs W)) (.val (.func 23 [] [])) .any .any .any .any T,st):=by
 simp only [ev4,codeAt,codeOf,Try.f4,Option.getD_some,if_true,Bool.false_eq_true,if_false]
 simp [G4,hm4,hl4,ty24,evalCode,evalOps,wantedE,stepM,frzM,frzStep,frzOut,nilRefs,nilRef,marked,stepE,stepOp,startFr,Fr.clear,mapR_eq,take,upE,E.calm,Fr.putO,Fr.put_def,Fr.map_def,Fr.raw_def,Fr.get_def,Fr.lend,Fr.op,lk,ins,lset,E.inval,constV,constVs,V.toE,builtinStep,lenE,elemsOf,okV,okE,E.v?,V.strip,binV,E.int?,E.bool?,appendStep,appended,baseOf,resultsOut,resultE,byteVs_length,flats_bytes,V.strip1,V.one,sizes_bytes,sizesOk,consume,E.weak,unV,sliceStep,boundOf,clip,indexAddrStep,indexStep,addrAdd,loadAt,placeOf,loadCs,cellE,storeAt,splice,E.cells?,V.cells,E.noMem,E.noLoc,E.noLp,callStep,vsOf,retE,V.flat,flats,St.obj,St.set,boxCells,Fr.loc_def,Fr.setLoc_def,E.part?,buildCells,buildSliceV,fillV,chunk,elemV,convV,vsOf,minMax,eqV,strBin,floatBin]
theorem q5 (n s:V)(k:Int)(c:V)(W:List UInt8)(hW:1≤W.length∧W.length≤200)(T0:List (Nat × E))(st:St)
  (hr:∀ r,r<W.length→∃ st',st'.wp≤st'.objs.length∧evalFn gS 61 8 [.slice (byteVs (W.take r)),.func 23 [] []] st=some (.ret (.int .i64 2) none,st')) :
  ∃ T st',st'.wp≤st'.objs.length∧ev4 [true,true,true,true,true,false] (G4 n s (.int .i64 k) c (.val (.bool false)) (.own 1 (byteVs W)) (.val (.func 23 [] [])) .any .any .any .any T0) st=some (.normal,G4 n s (.int .i64 k) c (.val (.bool false)) (.own 1 (byteVs W)) (.val (.func 23 [] [])) (.val (.int .i64 2)) .any .any .any T,st'):=by
 obtain ⟨r,h1,h2⟩:=pick 60 k W.length (by omega) (by omega)
 obtain ⟨st',hw,h8⟩:=hr r (by omega)
 have e1:r≤W.length:=by omega
 simp only [ev4,codeAt,codeOf,Try.f4,Option.getD_some,if_true,Bool.false_eq_true,if_false]
 simp [G4,hm4,hl4,ty24,ty9,ty3,ty27,ty22,gext,fn25,mkFI,Try.f25,fn8,show fi8.pure=false from rfl,h2,h8,e1,take_bytes,hw,evalCode,evalOps,wantedE,stepM,frzM,frzStep,frzOut,nilRefs,nilRef,marked,stepE,stepOp,startFr,Fr.clear,mapR_eq,take,upE,E.calm,Fr.putO,Fr.put_def,Fr.map_def,Fr.raw_def,Fr.get_def,Fr.lend,Fr.op,lk,ins,lset,E.inval,constV,constVs,V.toE,builtinStep,lenE,elemsOf,okV,okE,E.v?,V.strip,binV,E.int?,E.bool?,appendStep,appended,baseOf,resultsOut,resultE,byteVs_length,flats_bytes,V.strip1,V.one,sizes_bytes,sizesOk,consume,E.weak,unV,sliceStep,boundOf,clip,indexAddrStep,indexStep,addrAdd,loadAt,placeOf,loadCs,cellE,storeAt,splice,E.cells?,V.cells,E.noMem,E.noLoc,E.noLp,callStep,vsOf,retE,V.flat,flats,St.obj,St.set,boxCells,Fr.loc_def,Fr.setLoc_def,E.part?,buildCells,buildSliceV,fillV,chunk,elemV,convV,vsOf,minMax,eqV,strBin,floatBin]
theorem q6 (n s:V)(k:V)(c:UInt8)(W:List UInt8)(hW:W.length≤200)(T0:List (Nat × E))(st:St)
  (hr:∃ st',st'.wp≤st'.objs.length∧evalFn gS 61 8 [.slice (byteVs (W ++ [c])),.func 23 [] []] st=some (.ret (.int .i64 3) none,st')) :
  ∃ T st',st'.wp≤st'.objs.length∧ev4 [true,true,true,true,true,true,false] (G4 n s k (.int .u8 c.toNat) (.val (.bool false)) (.own 1 (byteVs W)) (.val (.func 23 [] [])) (.val (.int .i64 2)) .any .any .any T0) st=some (.normal,G4 n s k (.int .u8 c.toNat) (.val (.bool false)) (.own 1 (byteVs W)) (.val (.func 23 [] [])) (.val (.int .i64 2)) (.val (.int .i64 3)) .any .any T,st'):=by
 obtain ⟨st',hw,h8⟩:=hr
 have h26:=fun st=>few 60 W W.length (by omega) st
 rw [List.take_length] at h26
 have e1:byteVs (W ++ [c])=byteVs W ++ [.int .u8 c.toNat]:=by simp [byteVs]
 rw [e1] at h8
 have e2:W.length+1≤140737488355328:=by omega
 have e3:W.length≤140737488355327:=by omega
 simp only [ev4,codeAt,codeOf,Try.f4,Option.getD_some,if_true,Bool.false_eq_true,if_false]
 simp [G4,hm4,hl4,ty24,ty5,ty9,ty3,ty27,ty22,gext,fn26,mkFI,Try.f26,fn8,show fi8.pure=false from rfl,h26,h8,e2,e3,hw,evalCode,evalOps,wantedE,stepM,frzM,frzStep,frzOut,nilRefs,nilRef,marked,stepE,stepOp,startFr,Fr.clear,mapR_eq,take,upE,E.calm,Fr.putO,Fr.put_def,Fr.map_def,Fr.raw_def,Fr.get_def,Fr.lend,Fr.op,lk,ins,lset,E.inval,constV,constVs,V.toE,builtinStep,lenE,elemsOf,okV,okE,E.v?,V.strip,binV,E.int?,E.bool?,appendStep,appended,baseOf,resultsOut,resultE,byteVs_length,flats_bytes,V.strip1,V.one,sizes_bytes,sizesOk,consume,E.weak,unV,sliceStep,boundOf,clip,indexAddrStep,indexStep,addrAdd,loadAt,placeOf,loadCs,cellE,storeAt,splice,E.cells?,V.cells,E.noMem,E.noLoc,E.noLp,callStep,vsOf,retE,V.flat,flats,St.obj,St.set,boxCells,Fr.loc_def,Fr.setLoc_def,E.part?,buildCells,buildSliceV,fillV,chunk,elemV,convV,vsOf,minMax,eqV,strBin,floatBin]
theorem q7 (n s:V)(k c:V)(W:List UInt8)(T0:List (Nat × E))(st:St)(hw0:st.wp≤st.objs.length) :
  ∃ T st',st'.wp≤st'.objs.length∧ev4 [true,true,true,true,true,true,true,false] (G4 n s k c (.val (.bool false)) (.own 1 (byteVs W)) (.val (.func 23 [] [])) (.val (.int .i64 2)) (.val (.int .i64 3)) .any .any T0) st=some (.normal,G4 n s k c (.val (.bool false)) (.own 1 (byteVs W)) (.val (.func 23 [] [])) (.val (.int .i64 2)) (.val (.int .i64 3)) (.val (.int .i64 3)) .any T,st'):=by
 obtain ⟨st',hw,h8⟩:=readC st hw0
 have h1:∀ st,evalFn gS 61 19 [.slice [],.int .i64 101] st=some (.ret (.slice (byteVs (vbytes 101))) (some 1),st):=fun st=>nat19 49 101 [] (by omega) (by simp) st
 generalize vbytes 101=B at h1 h8
 simp only [ev4,codeAt,codeOf,Try.f4,Option.getD_some,if_true,Bool.false_eq_true,if_false]
 simp [G4,hm4,hl4,ty24,ty3,ty27,ty22,gext,fn19,show fi19.pure=true from rfl,mkFI,Try.f19,fn8,show fi8.pure=false from rfl,h1,h8,hw,evalCode,evalOps,wantedE,stepM,frzM,frzStep,frzOut,nilRefs,nilRef,marked,stepE,stepOp,startFr,Fr.clear,mapR_eq,take,upE,E.calm,Fr.putO,Fr.put_def,Fr.map_def,Fr.raw_def,Fr.get_def,Fr.lend,Fr.op,lk,ins,lset,E.inval,constV,constVs,V.toE,builtinStep,lenE,elemsOf,okV,okE,E.v?,V.strip,binV,E.int?,E.bool?,appendStep,appended,baseOf,resultsOut,resultE,byteVs_length,flats_bytes,V.strip1,V.one,sizes_bytes,sizesOk,consume,E.weak,unV,sliceStep,boundOf,clip,indexAddrStep,indexStep,addrAdd,loadAt,placeOf,loadCs,cellE,storeAt,splice,E.cells?,V.cells,E.noMem,E.noLoc,E.noLp,callStep,vsOf,retE,V.flat,flats,St.obj,St.set,boxCells,Fr.loc_def,Fr.setLoc_def,E.part?,buildCells,buildSliceV,fillV,chunk,elemV,convV,vsOf,minMax,eqV,strBin,floatBin]
theorem q8 (n s:V)(k c:V)(W:List UInt8)(T0:List (Nat × E))(st:St)(hw0:st.wp≤st.objs.length) :
  ∃ T st',st'.wp≤st'.objs.length∧ev4 [true,true,true,true,true,true,true,true,false] (G4 n s k c (.val (.bool false)) (.own 1 (byteVs W)) (.val (.func 23 [] [])) (.val (.int .i64 2)) (.val (.int .i64 3)) (.val (.int .i64 3)) .any T0) st=some (.normal,G4 n s k c (.val (.bool false)) (.own 1 (byteVs W)) (.val (.func 23 [] [])) (.val (.int .i64 2)) (.val (.int .i64 3)) (.val (.int .i64 3)) (.val (.int .i64 2)) T,st'):=by
 obtain ⟨st',hw,h8⟩:=readD st hw0
 have h1:∀ st,evalFn gS 61 19 [.slice [],.int .i64 100] st=some (.ret (.slice (byteVs (vbytes 100))) (some 1),st):=fun st=>nat19 49 100 [] (by omega) (by simp) st
 generalize vbytes 100=B at h1 h8
 simp only [ev4,codeAt,codeOf,Try.f4,Option.getD_some,if_true,Bool.false_eq_true,if_false]
 simp [G4,hm4,hl4,ty24,ty3,ty27,ty22,gext,fn19,show fi19.pure=true from rfl,mkFI,Try.f19,fn8,show fi8.pure=false from rfl,h1,h8,hw,evalCode,evalOps,wantedE,stepM,frzM,frzStep,frzOut,nilRefs,nilRef,marked,stepE,stepOp,startFr,Fr.clear,mapR_eq,take,upE,E.calm,Fr.putO,Fr.put_def,Fr.map_def,Fr.raw_def,Fr.get_def,Fr.lend,Fr.op,lk,ins,lset,E.inval,constV,constVs,V.toE,builtinStep,lenE,elemsOf,okV,okE,E.v?,V.strip,binV,E.int?,E.bool?,appendStep,appended,baseOf,resultsOut,resultE,byteVs_length,flats_bytes,V.strip1,V.one,sizes_bytes,sizesOk,consume,E.weak,unV,sliceStep,boundOf,clip,indexAddrStep,indexStep,addrAdd,loadAt,placeOf,loadCs,cellE,storeAt,splice,E.cells?,V.cells,E.noMem,E.noLoc,E.noLp,callStep,vsOf,retE,V.flat,flats,St.obj,St.set,boxCells,Fr.loc_def,Fr.setLoc_def,E.part?,buildCells,buildSliceV,fillV,chunk,elemV,convV,vsOf,minMax,eqV,strBin,floatBin]
theorem fn29:∃ fi,gS.fn 29=some fi∧fi.pure=true:=⟨fiOf 29,by kernel_rfl,by kernel_rfl⟩
theorem q9 (n s:V)(k c:V)(W:List UInt8)(T0:List (Nat × E))(st:St) :
  ∃ fr',ev4 [true,true,true,true,true,true,true,true,true] (G4 n s k c (.val (.bool false)) (.own 1 (byteVs W)) (.val (.func 23 [] [])) (.val (.int .i64 2)) (.val (.int .i64 3)) (.val (.int .i64 3)) (.val (.int .i64 2)) T0) st=some (.ret,fr',st)∧fr'.get 8=.val (.bool true):=by
 obtain ⟨s29,h29⟩:=known29
 obtain ⟨fi,g29,p29⟩:=fn29
 simp only [ev4,codeAt,codeOf,Try.f4,Option.getD_some,if_true,Bool.false_eq_true,if_false]
 simp [G4,hm4,hl4,ty24,ty3,ty27,ty22,gext,g29,p29,h29,ib_eql,evalCode,evalOps,wantedE,stepM,frzM,frzStep,frzOut,nilRefs,nilRef,marked,stepE,stepOp,startFr,Fr.clear,mapR_eq,take,upE,E.calm,Fr.putO,Fr.put_def,Fr.map_def,Fr.raw_def,Fr.get_def,Fr.lend,Fr.op,lk,ins,lset,E.inval,constV,constVs,V.toE,builtinStep,lenE,elemsOf,okV,okE,E.v?,V.strip,binV,E.int?,E.bool?,appendStep,appended,baseOf,resultsOut,resultE,byteVs_length,flats_bytes,V.strip1,V.one,sizes_bytes,sizesOk,consume,E.weak,unV,sliceStep,boundOf,clip,indexAddrStep,indexStep,addrAdd,loadAt,placeOf,loadCs,cellE,storeAt,splice,E.cells?,V.cells,E.noMem,E.noLoc,E.noLp,callStep,vsOf,retE,V.flat,flats,St.obj,St.set,boxCells,Fr.loc_def,Fr.setLoc_def,E.part?,buildCells,buildSliceV,fillV,chunk,elemV,convV,vsOf,minMax,eqV,strBin,floatBin]
theorem cuts (n k:Int)(s:List UInt8)(c:UInt8):∃ st',evalFn gS 62 4 [.int .i64 n,.str s,.int .i64 k,.int .u8 c.toNat] ⟨[],0⟩=some (.ret (.bool true) none,st'):=by
 have hs:(s.take 100).length≤100:=by simp;omega
 obtain ⟨T0,s0⟩:=q0 (.int .i64 n) (.str s) (.int .i64 k) (.int .u8 c.toNat) ⟨[],0⟩
 obtain ⟨w,T1,hw,s1⟩:=q1 n (.str s) (.int .i64 k) (.int .u8 c.toNat) T0 ⟨[],0⟩
 obtain ⟨T2,s2⟩:=q2 (.int .i64 w) s (.int .i64 k) (.int .u8 c.toNat) T1 ⟨[],0⟩
 obtain ⟨T3,s3⟩:=q3 w (s.take 100) hw hs (.int .i64 k) (.int .u8 c.toNat) T2 ⟨[],0⟩
 have p1:=vbytes_le w
 have p2:=vbytes_pos w
 have p3:=vbytes_le (s.take 100).length
 have hl:1≤(vbytes w ++ words 5 ++ vbytes (s.take 100).length ++ s.take 100).length∧(vbytes w ++ words 5 ++ vbytes (s.take 100).length ++ s.take 100).length≤200:=by
  have:(words 5).length=8:=rfl
  simp only [zla];omega
 have rA:=fun r hr st hst=>readA w _ r (words 5) (s.take 100) _ rfl rfl rfl hs hw hr st hst
 have rB:=fun st hst=>readB w _ (words 5) (s.take 100) _ [c] rfl rfl rfl hs hw (by simp) (by simp) st hst
 generalize vbytes w ++ words 5 ++ vbytes (s.take 100).length ++ s.take 100=W at *
 obtain ⟨T4,s4⟩:=q4 (.int .i64 w) (.str (s.take 100)) (.int .i64 k) (.int .u8 c.toNat) W T3 ⟨[],0⟩
 obtain ⟨T5,st5,w5,s5⟩:=q5 (.int .i64 w) (.str (s.take 100)) k (.int .u8 c.toNat) W hl T4 ⟨[],0⟩ (fun r hr=>rA r hr _ (Nat.le_refl 0))
 obtain ⟨T6,st6,w6,s6⟩:=q6 (.int .i64 w) (.str (s.take 100)) (.int .i64 k) c W hl.2 T5 st5 (rB _ w5)
 obtain ⟨T7,st7,w7,s7⟩:=q7 (.int .i64 w) (.str (s.take 100)) (.int .i64 k) (.int .u8 c.toNat) W T6 st6 w6
 obtain ⟨T8,st8,w8,s8⟩:=q8 (.int .i64 w) (.str (s.take 100)) (.int .i64 k) (.int .u8 c.toNat) W T7 st7 w7
 obtain ⟨fr',s9,h9⟩:=q9 (.int .i64 w) (.str (s.take 100)) (.int .i64 k) (.int .u8 c.toNat) W T8 st8
 refine ⟨st8,?_⟩
 unfold ev4 at s0 s1 s2 s3 s4 s5 s6 s7 s8 s9
 rw [evalFn];simp only [hrun,evalBody,fn4]
 rw [show fi4.body=codeOf Try.f4 from rfl,split4,start4]
 rw [show ({ps:=[(0,.val (.int .i64 n)),(1,.val (.str s)),(2,.val (.int .i64 k)),(3,.val (.int .u8 c.toNat)),(8,.any),(9,.any),(10,.any),(11,.any),(12,.any),(13,.any),(14,.any)],ts:=[],lc:=[]}:Fr)=G4 (.int .i64 n) (.str s) (.int .i64 k) (.int .u8 c.toNat) .any .any .any .any .any .any .any [] from rfl]
 rw [seq_norm s0,seq_norm s1,seq_norm s2,seq_norm s3,seq_norm s4,seq_norm s5,seq_norm s6,seq_norm s7,seq_norm s8,s9]
 simp [show fi4.results=[.tmp 8] from rfl,resultsOut,resultE,h9,E.v?,V.strip,hm4,frzOut,nilRefs]
end Go.Proofs.Ytiiahehclbmodaa
namespace Go.Ab
open Go Go.ChangeShapes Go.WideShapes
variable {H:Type} {enc:TypeId × Value→H} {P:Program} {w:World} {base b0:Nat} {spare:Nat→Bool} {held:Bool} {r:Reach}
theorem arg_int {t:TypeId} {k:IntKind} {v:Value} (ht:P.underlying t=some (.int k))(hval:Value.okWide P w r b0 t v):∃ n,Rep K0 w v (.int k n):=by
 obtain ⟨n,rfl⟩:=okWide_int ht hval
 exact ⟨n,.int _ _⟩
theorem arg_str {t:TypeId} {v:Value} (ht:P.underlying t=some .string)(hval:Value.okWide P w r b0 t v):∃ s,Rep K0 w v (.str s):=by
 obtain ⟨s,rfl⟩:=okWide_string ht hval
 exact ⟨_,.str _⟩
end Go.Ab
namespace Go.Proofs.Ytiiahehclbmodaa
open Go Go.Ab Go.ChangeShapes Go.WideShapes Go.ChangeAt Go.RowKit
theorem arg_byte {P:Program} {w:World} {r:Reach} {b0:Nat} {t:TypeId} {v:Value} (ht:P.underlying t=some (.int .u8))(hval:Value.okWide P w r b0 t v):∃ c:UInt8,Rep K0 w v (.int .u8 c.toNat):=by
 obtain ⟨n,rfl⟩:=okWide_int ht hval
 have h:(Lit.int .u8 n).wf=true:=by simpa [Value.okWide,ht,Cell.okWide,Cell.ok,IntKind.has,Lit.wf] using hval
 simp only [Lit.wf,Bool.and_eq_true,decide_eq_true_eq] at h
 have h2:(0:Int)≤n:=h.1
 have h3:n≤255:=h.2
 refine ⟨UInt8.ofNat n.toNat,?_⟩
 have e:((UInt8.ofNat n.toNat).toNat:Int)=n:=by
  rw [UInt8.toNat_ofNat',Nat.mod_eq_of_lt (by omega)];omega
 rw [e];exact .int _ _
set_option maxRecDepth 100000 in
theorem cut_lifted (os:Os)(started:os.Started)(H:Type)(enc:TypeId × Value→H) :
  ReturnsInHanded {} Try.checked os 4 .any (Rows.packCutSpec.pre6 enc Try.prog Try.f4 Rows.packCutRow.domain false) (Rows.packCutSpec.post enc Try.prog Try.f4 false true false false):=by
 refine returnsInHanded_of_change_sized (C:=Try.checked) Try.own started (by kernel_rfl) Try.func4
  (ChangeSpec.witness6 (enc:=enc) (C:=Try.checked) false ⟨#[],#[.int .i64 0,.string ⟨#[]⟩,.int .i64 0,.int .u8 0],[]⟩ 8 (by kernel_rfl) (by kernel_rfl) (by kernel_rfl) (by kernel_rfl)) ?_
 intro W base args ds gs before hval0 hW _ hsz0 _
 have hW':=hW
 obtain ⟨p,q,hA0,hV,rfl,_,_⟩:=hW
 have hA:DataW.TrodAll enc Try.prog W 0 (fun _=>true) true Try.f4.params.toList args.toList ds p:=hA0
 have hpar:Try.f4.params=#[3,9,3,5]:=by kernel_rfl
 have hval:∀ (j:Nat) t v,Try.f4.params[j]?=some t→args[j]?=some v→Value.okWide Try.prog W .any base t v:=hval0
 rw [hpar] at hA hval
 obtain ⟨l⟩:=args
 obtain ⟨v0,l,d0,ds,p0,r0,rfl,rfl,rfl,h0,hA⟩:=trodAll_cons hA
 obtain ⟨v1,l,d1,ds,p1,r1,rfl,rfl,rfl,h1,hA⟩:=trodAll_cons hA
 obtain ⟨v2,l,d2,ds,p2,r2,rfl,rfl,rfl,h2,hA⟩:=trodAll_cons hA
 obtain ⟨v3,l,d3,ds,p3,r3,rfl,rfl,rfl,h3,hA⟩:=trodAll_cons hA
 obtain ⟨rfl,rfl,rfl⟩:=trodAll_nil hA
 obtain ⟨rfl,rfl⟩:=trodVars_none hV
 obtain ⟨n,a0⟩:=arg_int Try.underlying3 (hval 0 3 v0 rfl rfl)
 obtain ⟨s,a1⟩:=arg_str Try.underlying9 (hval 1 9 v1 rfl rfl)
 obtain ⟨k,a2⟩:=arg_int Try.underlying3 (hval 2 3 v2 rfl rfl)
 obtain ⟨c,a3⟩:=arg_byte Try.underlying5 (hval 3 5 v3 rfl rfl)
 have hlt:∀ y∈p0 ++ (p1 ++ (p2 ++ (p3 ++ []))) ++ [],y.block<W.heap.size:=fun y hy=>hW'.lt y hy
 have hr:Reps K0 W [v0,v1,v2,v3] [.int .i64 n,.str s,.int .i64 k,.int .u8 c.toNat]:=.cons a0 (.cons a1 (.cons a2 (.cons a3 .nil)))
 obtain ⟨st',hrun⟩:=cuts n k s c
 refine (law_calls (n:=62) (f:=4) (xs:=[.int .i64 n,.str s,.int .i64 k,.int .u8 c.toNat]) (gS_calls 62) (by rw [hrun]) (W:=W) (args:=#[v0,v1,v2,v3]) hr).mono ?_
 rintro e W' ⟨rfl,hn⟩
 refine ⟨_,rfl,_,_,_,[],p0 ++ (p1 ++ (p2 ++ (p3 ++ []))),[],hW',?_,?_,rfl,hn.frame _,fun h=>by cases h⟩
 ·exact trodAll_mk1 (shut_bool Try.underlying4 true)
 ·exact ⟨p0,_,Below.trod Try.laidOut (by kernel_rfl) (of_decide_eq_true (by kernel_rfl)) h0 hn (fun y hy=>hlt y (by simp [hy])),
   ⟨p1,_,Below.trod Try.laidOut (by kernel_rfl) (of_decide_eq_true (by kernel_rfl)) h1 hn (fun y hy=>hlt y (by simp [hy])),
   ⟨p2,_,Below.trod Try.laidOut (by kernel_rfl) (of_decide_eq_true (by kernel_rfl)) h2 hn (fun y hy=>hlt y (by simp [hy])),
   ⟨p3,_,Below.trod Try.laidOut (by kernel_rfl) (of_decide_eq_true (by kernel_rfl)) h3 hn (fun y hy=>hlt y (by simp [hy])),rfl,rfl⟩,rfl⟩,rfl⟩,rfl⟩
theorem packCut_holds:Rows.PackCutSaid :=
 OpenClaim.holds_of_wide 4 Try.f4 rfl rfl rfl rfl rfl rfl rfl ⟨rfl,rfl,rfl,rfl,rfl⟩ rfl rfl rfl rfl rfl (by kernel_rfl) Try.func4 (by kernel_rfl)
  (of_decide_eq_true (by kernel_rfl)) (by unfold Func.isWrapper;first | (rw [if_pos (by decide +kernel)];kernel_rfl) | (rw [if_neg (by decide +kernel)];exact ⟨rfl,rfl⟩))
  (fun os started H enc _=>cut_lifted os started H enc)
#print axioms packCut_holds
end Go.Proofs.Ytiiahehclbmodaa
