/- whatever is put, ticked, lost, said twice, or strange, an end does and says what the document's does. No condition. Part 2. -/
import Derived.Laws.Tables
import Derived.Orders
import Derived.Test.YtebjpgoadapabaaK1
set_option linter.unusedVariables false
set_option linter.unusedSimpArgs false
set_option linter.unnecessarySimpa false
set_option maxHeartbeats 8000000
set_option maxRecDepth 20000
open Int renaming not_le → zil, not_lt → zit, natCast_add → zia
open Nat renaming not_le → znl, not_lt → znt
open List renaming getElem?_eq_getElem → zge, getElem?_eq_some_iff → zgs, append_assoc → zaa, mem_of_getElem? → zmg, length_append → zla
namespace Go.Ab
open Go
variable {P:Program} {d n:Nat} {κ:K} {w:World} {lam:Lam} {fr:Fr} {st:St} {a:Act} {o:Oper}
theorem eq_one {u v:Value} {x y:V} {b:Bool} {k:TK} {de:TypeDesc} (hu:Rep κ w u x)(hv:Rep κ w v y)(h:eqScalar k x y=some b) {t:TypeId}
  (ht:P.underlying t=some de) (hk:plainTK (some de)=some k) (D:Nat):(Op.equalIn (D+1) t u v).run P w=.ok b w:=by
 unfold eqScalar at h
 split at h
 ·cases h;cases hu;cases hv
  cases de <;> simp [plainTK] at hk
  simp [Op.equalIn,run_underlying ht]
 ·split at h
  ·rename_i hkk;subst hkk
   cases h;cases hu;cases hv
   cases de <;> simp [plainTK] at hk
   simp [Op.equalIn,run_underlying ht]
  ·cases h
 ·split at h
  ·rename_i hkk;subst hkk
   cases h;cases hu;cases hv
   cases de <;> simp [plainTK] at hk
   simp [Op.equalIn,run_underlying ht]
  ·cases h
 ·cases h
  cases de <;> simp [plainTK] at hk
  obtain ⟨s,rfl,rfl⟩:=hu.str_inv
  obtain ⟨s',rfl,rfl⟩:=hv.str_inv
  rw [run_equalIn_string w D t s s' ht,toList_data,toList_data]
 ·cases h
theorem plain_notAgg {de:TypeDesc} {k:TK} (h:plainTK (some de)=some k):isAggT de=false:=by
 cases de <;> first | rfl | cases h
theorem eq_fields {xs ys:Array Value} {as bs:List V} (hx:Reps κ w xs.toList as)(hy:Reps κ w ys.toList bs)(D:Nat):∀ (fs:List Field) (j:Nat) (ks:List TK) (b:Bool),
  plainFields P j fs=some ks→eqCells ks (as.drop j) (bs.drop j)=some b→(Op.eqFields (D+1) xs ys fs).run P w=.ok b w
 | [],j,ks,b,hf,h=>by
  simp only [plainFields,Option.some.injEq] at hf;subst hf
  unfold eqCells at h
  split at h
  ·cases h;rfl
  ·rename_i heq _ _;cases heq
  ·cases h
 | f :: r,j,ks,b,hf,h=>by
  unfold plainFields at hf
  split at hf
  ·rename_i hn
   simp only [Bool.and_eq_true,bne_iff_ne,ne_eq,beq_iff_eq] at hn
   split at hf
   ·rename_i k l hk hl
    cases hf
    unfold eqCells at h
    split at h
    ·rename_i heq _ _;cases heq
    ·rename_i t q x ra y sb heq1 heq2 heq3
     cases heq1
     cases hde:undOf P.toTables f.type with
     | none=>rw [hde] at hk;cases hk
     | some de =>
      rw [hde] at hk
      have hund:=underlying_of hde
      have hdx:as[j]?=some x:=by
       have:=congrArg (fun l=>l[0]?) heq2;simpa using this
      have hdy:bs[j]?=some y:=by
       have:=congrArg (fun l=>l[0]?) heq3;simpa using this
      have hrx:ra=as.drop (j+1):=by
       have:=congrArg List.tail heq2;simpa using this.symm
      have hry:sb=bs.drop (j+1):=by
       have:=congrArg List.tail heq3;simpa using this.symm
      split at h
      ·rename_i b1 b2 h1 h2
       cases h
       obtain ⟨u,hu,hru⟩:=hx.get j x hdx
       obtain ⟨v,hv,hrv⟩:=hy.get j y hdy
       have e1:=eq_one (P:=P) hru hrv h1 hund hk D
       subst hrx hry
       have ih:=eq_fields hx hy D r (j+1) l b2 hl h2
       have hpu:(part f.type xs f.offset).run P w=.ok u w:=by
        unfold part
        simp only [Sem.run_bind,isAgg_run hund,plain_notAgg hk,Result.andThen_ok,Bool.false_eq_true,if_false,hn.2]
        rw [← Array.getElem?_toList,hu];rfl
       have hpv:(part f.type ys f.offset).run P w=.ok v w:=by
        unfold part
        simp only [Sem.run_bind,isAgg_run hund,plain_notAgg hk,Result.andThen_ok,Bool.false_eq_true,if_false,hn.2]
        rw [← Array.getElem?_toList,hv];rfl
       unfold Op.eqFields
       simp only [ne_eq,hn.1,not_false_eq_true,if_true,Sem.run_bind,hpu,hpv,e1,Result.andThen_ok]
       cases b1
       ·rfl
       ·simpa using ih
      ·cases h
    ·cases h
   ·cases hf
  ·cases hf
theorem mkEq_ok {t:Nat} {ks:List TK} (h:mkEq P t=some ks):∃ fs,P.underlying t=some (.struct fs)∧P.stoodInHeld t=false∧P.eqGuardType P.depth t=false∧plainFields P 0 fs.toList=some ks:=by
 unfold mkEq at h
 split at h
 ·rename_i fs hf
  split at h
  ·rename_i hg
   simp only [Bool.and_eq_true,Bool.not_eq_true'] at hg
   exact ⟨fs,underlying_of hf,hg.1,hg.2,h⟩
  ·cases h
 ·cases h
theorem run_agg_v {t:Nat} {ks:List TK} (h:mkEq P t=some ks)(op:BinOp) {xs ys:List V} {u v:Value} (hu:Rep κ w u (.agg xs))(hv:Rep κ w v (.agg ys)) {z:V} (hz:binAgg ks op xs ys=some z)(X Y:Operand) :
  ∃ r,(do eqGuard op t X Y u v;binOp op t u v:Sem Value).run P w=.ok r w∧Rep κ w r z:=by
 obtain ⟨fs,h1,h2,h3,h4⟩:=mkEq_ok h
 obtain ⟨as,rfl,ha⟩:=hu.agg_inv
 obtain ⟨bs,rfl,hb⟩:=hv.agg_inv
 have hfs:P.fieldsOf t=fs:=by simp [Program.fieldsOf,h1]
 have heq:∀ b,eqCells ks xs ys=some b→(Op.equalIn 10000 t (.agg as) (.agg bs)).run P w=.ok b w:=by
  intro b hb'
  have:=eq_fields (P:=P) ha hb 9998 fs.toList 0 ks b h4 (by simpa using hb')
  rw [show (10000:Nat)=9999+1 from rfl,run_equalIn_struct w 9999 t as bs (by rw [hfs];exact h1) h2,hfs]
  exact this
 unfold binAgg at hz
 split at hz
 ·cases he:eqCells ks xs ys with
  | none=>rw [he] at hz;cases hz
  | some b =>
   rw [he] at hz;simp only [Option.map_some,Option.some.injEq] at hz;subst hz
   refine ⟨.bool b,?_,.bool _⟩
   rw [Sem.run_bind,run_eqGuard_agg w .eql t X Y as bs h3,Result.andThen_ok,run_eql_struct,heq b he];rfl
 ·cases he:eqCells ks xs ys with
  | none=>rw [he] at hz;cases hz
  | some b =>
   rw [he] at hz;simp only [Option.map_some,Option.some.injEq] at hz;subst hz
   refine ⟨.bool (!b),?_,.bool _⟩
   rw [Sem.run_bind,run_eqGuard_agg w .neq t X Y as bs h3,Result.andThen_ok,run_neq_struct,heq b he];rfl
 ·cases hz
end Go.Ab
namespace Go.Ab
open Go
variable {P:Program} {d n:Nat} {κ:K} {w:World} {lam:Lam} {fr:Fr} {st:St} {a:Act} {o:Oper}
theorem places_run:∀ (fs:List Field)(l:List (Nat × Nat × Bool)),l.length=fs.length→(∀ (j:Nat) f,fs[j]?=some f→∃ i,P.info? f.type=some i∧∃ b,l[j]?=some (f.offset,i.size,b)) →
  (fs.mapM fun f=>(P.info? f.type).map fun i=>(f.offset,i.size))=some (l.map fun x=>(x.1,x.2.1))
 | [],[],_,_=>rfl
 | f :: fs,x :: l,hl,h=>by
  obtain ⟨i,hi,b,hb⟩:=h 0 f rfl
  simp at hb;subst hb
  have ih:=places_run fs l (by simpa using hl) (fun j g hg=>by
   obtain ⟨i,hi,b,hb⟩:=h (j+1) g (by simpa using hg)
   exact ⟨i,hi,b,by simpa using hb⟩)
  simp [List.mapM_cons,hi,ih]
theorem build_ok {g:G} (hg:TyOk P g) {t:Nat} {ti:TI} (hti:g.ty t=some ti) {vs:List (Nat × Value)} {ps:List (Nat × Option (List V))} {zs:List V} (hp:Parts κ w vs ps)(h:buildCells ti ps=some zs) :
  ∃ r,(Instr.build t vs.toArray).run P w=.ok r w∧Rep κ w r (.agg zs):=by
 obtain ⟨i,z,hi,hsz,hz,hzr⟩:=(hg.ti t ti hti).info
 obtain ⟨de,h1,h2⟩:=und_tk hg hti
 unfold buildCells at h
 split at h
 ·rename_i fs hk
  rw [hk] at h2
  obtain ⟨fs',rfl,hlen,hall⟩:=h2
  have hpl:(fs'.toList.mapM fun f=>(P.info? f.type).map fun i=>(f.offset,i.size))=some (fs.map fun x=>(x.1,x.2.1)) :=
   places_run fs'.toList fs (by simpa using hlen) (fun j f hf=>by
    obtain ⟨i,de,a1,a2,a3⟩:=hall j f (by simpa using hf)
    exact ⟨i,a1,_,a3⟩)
  obtain ⟨out,h3,h4⟩:=fill_parts (place:=fun i=>Option.map (fun x=>(x.1,x.2.1)) fs[i]?) hp (hzr κ w) (fun i x hx=>hx) h
  refine ⟨.agg out,?_,.agg h4⟩
  simp [Instr.build,run_underlying h1,typeInfo,zeroValue,hi,hz,Array.mapM_eq_mapM_toList,run_places w _ _ hpl]
  rw [h3];rfl
 ·rename_i len esz ea hk
  rw [hk] at h2
  obtain ⟨el,i',de',rfl,hi',rfl,hd,rfl⟩:=h2
  obtain ⟨out,h3,h4⟩:=fill_parts (place:=fun j=>some (j*i'.size,i'.size)) hp (hzr κ w) (fun i x hx=>hx) h
  refine ⟨.agg out,?_,.agg h4⟩
  simp [Instr.build,run_underlying h1,typeInfo,zeroValue,hi,hz,sizeOf,hi',h3]
 ·cases h
theorem one_cells {x:V} (h:x.one=true):x.cells=[x]:=by cases x <;> first | rfl | cases h
theorem chunk_ok {ea:Bool} {esz:Nat} (he:(ea || esz == 1)=true)(h0:0<esz):∀ (m:Nat) (cs:List V),cs.length=m*esz→cs.all V.one=true →
  (chunk ea esz m cs).length=m∧(chunk ea esz m cs).flatMap V.cells=cs∧∀ x∈chunk ea esz m cs,x.cells.length=esz
 | 0,cs,hl,_=>by
  have:cs=[]:=List.length_eq_zero_iff.1 (by simpa using hl)
  subst this;simp [chunk]
 | m+1,cs,hl,h1=>by
  have hl':(m+1)*esz=m*esz+esz:=Nat.succ_mul m esz
  obtain ⟨i1,i2,i3⟩:=chunk_ok he h0 m (cs.drop esz) (by simp;omega) (List.all_eq_true.2 fun x hx=>List.all_eq_true.1 h1 x (List.mem_of_mem_drop hx))
  have hc:(elemV ea (cs.take esz)).cells=cs.take esz:=by
   cases ea with
   | true=>rfl
   | false =>
    simp at he;subst he
    cases cs with
    | nil=>simp at hl
    | cons c cs=>simp [elemV];exact one_cells (List.all_eq_true.1 h1 c (by simp))
  refine ⟨by simp [chunk,i1],?_,?_⟩
  ·simp only [chunk,List.flatMap_cons,i2,hc,List.take_append_drop]
  ·intro x hx
   simp only [chunk,List.mem_cons] at hx
   rcases hx with rfl | hx
   ·rw [hc];simp;omega
   ·exact i3 x hx
theorem slice_full (g:Good κ w) {vs:List Value} {xs:List V} {k:Nat} (hs:∀ x∈xs,x.cells.length=k)(hr:Reps κ w vs (xs.flatMap V.cells))(c:Array Value)(t:TypeId)
  (hc:∀ (j:Nat) v,vs[j]?=some v→c[j]?=some v) :
  let κ':=κ.new w.heap.size fun _=>none
  Rep κ' (w.alloc (.cells c t)) (.slice (some (at_ w.heap.size 0)) xs.length xs.length) (.slice xs):=by
 intro κ'
 by_cases hx:xs=[]
 ·subst hx;exact .slice0 _ _
 ·exact .slice (Nat.le_refl _) hs (new_reads g hr c t hc fun j hj=>rfl)
theorem zeros_get {z:Array Value} {esz:Nat} (hz:z.size=esz)(h0:0<esz)(m j:Nat)(hj:j<m*esz):((Array.range (m*esz)).map (z[· % z.size]!))[j]?=z[j % esz]?:=by
 have:j % esz<esz:=Nat.mod_lt _ h0
 simp [hj,hz,this]
theorem rep_flat_get {α:Type} (l:List α)(esz:Nat)(hl:l.length=esz)(h0:0<esz):∀ (m j:Nat),j<m*esz→((List.replicate m l).flatten)[j]?=l[j % esz]?
 | 0,j,h=>by simp at h
 | m+1,j,h=>by
  rw [List.replicate_succ,List.flatten_cons]
  have e:(m+1)*esz=m*esz+esz:=Nat.succ_mul m esz
  rcases Nat.lt_or_ge j esz with h1 | h1
  ·rw [List.getElem?_append_left (by omega),Nat.mod_eq_of_lt h1]
  ·rw [List.getElem?_append_right (by omega),hl,rep_flat_get l esz hl h0 m (j - esz) (by omega),← Nat.mod_eq_sub_mod h1]
theorem flatten_rep_length {α:Type} (l:List α)(m:Nat):((List.replicate m l).flatten).length=m*l.length:=by
 induction m with
 | zero=>simp
 | succ m ih=>rw [List.replicate_succ,List.flatten_cons,zla,ih,Nat.succ_mul,Nat.add_comm]
theorem buildSlice_ok {g:G} (hg:TyOk P g) {t:Nat} {ti:TI} (hti:g.ty t=some ti) {esz eb:Nat} {ea:Bool} {ez:List V} (hk:ti.k=.slice esz eb ea ez)(r:R d n κ w lam fr st a)
  {len:Nat} {vs:List (Nat × Value)} {ps:List (Nat × Option (List V))} {z:V} (hp:Parts κ w vs ps) (h:buildSliceV esz ea ez len ps=some z) :
  ∃ v w' κ',(Instr.buildSlice t len vs.toArray).run P w=.ok v w'∧R d n κ' w' lam fr st a∧Rep κ' w' v z∧∀ S,Pres S κ w κ' w':=by
 obtain ⟨el,i,zv,h1,hi,hsz,hbz,hzz,hzr⟩:=elem_size hg hti hk
 unfold buildSliceV at h
 split at h
 ·rename_i hc
  obtain ⟨h0,h24,hezl,hea⟩:=hc
  split at h
  ·rename_i cs hf
   split at h
   ·rename_i hone
    cases h
    have hzs:zv.cells.size=esz:=by have:=(hzr κ w).length;simpa [hezl] using this
    have hz0:Reps κ w ((Array.range (len*esz)).map (zv.cells[· % zv.cells.size]!)).toList ((List.replicate len ez).flatten):=by
     refine Reps.of_get (by simp [flatten_rep_length,hezl]) fun j v x hv hx=>?_
     have hj:j<len*esz:=by
      have:=(List.getElem?_eq_some_iff.1 hx).1;rwa [flatten_rep_length,hezl] at this
     rw [Array.getElem?_toList,zeros_get hzs h0 len j hj,← Array.getElem?_toList] at hv
     rw [rep_flat_get ez esz hezl h0 len j hj] at hx
     obtain ⟨u,hu,hru⟩:=(hzr κ w).get _ x hx
     rw [hv] at hu;cases hu;exact hru
    obtain ⟨out,h3,h4⟩:=fill_parts (place:=fun i=>some (i*esz,esz)) hp hz0 (fun i x hx=>hx) hf
    have hcl:(cs.map V.strip1).length=len*esz:=by
     have h5:∀ {q:List (Nat × Option (List V))} {xs ys:List V} {pl:Nat→Option (Nat × Nat)},fillV pl xs q=some ys→ys.length=xs.length:=by
      intro q
      induction q with
      | nil=>intro xs ys pl h;simp only [fillV,Option.some.injEq] at h;rw [h]
      | cons p q ih =>
       intro xs ys pl h
       obtain ⟨i,c⟩:=p
       cases c with
       | none=>cases h
       | some c =>
        simp only [fillV] at h
        split at h
        ·cases h
        ·split at h
         ·split at h
          ·rename_i hsp
           rw [ih h];exact (splice_get hsp).2.1
          ·cases h
         ·cases h
     rw [List.length_map,h5 hf,flatten_rep_length,hezl]
    obtain ⟨c1,c2,c3⟩:=chunk_ok hea h0 len (cs.map V.strip1) hcl hone
    have hrun:(Instr.buildSlice t len vs.toArray).run P w=.ok (.slice (some (at_ w.heap.size 0)) len len) (w.alloc (.cells out el)):=by
     have n1:¬ (16777216<len*esz):=by omega
     by_cases hz:len*esz=0
     ·rw [hz] at h3
      simp only [Array.range_zero',Array.map_empty] at h3
      simp [Instr.buildSlice,run_underlying h1,sizeOf,typeInfo,hi,hsz,hz,Array.range_zero',h3,newRow,at_]
     ·simp [Instr.buildSlice,run_underlying h1,sizeOf,typeInfo,zeroValue,hi,hsz,hzz,n1,hz,h3,newRow,at_]
    refine ⟨_,_,κ.new w.heap.size (fun _=>none),hrun,r.new out el (fun o L h=>by cases h),?_,fun S=>pres_new S r.sim.good _ _⟩
    have hrep:=slice_full r.sim.good c3 (by rw [c2];exact h4.strip1) out el (fun j v hv=>by rw [← Array.getElem?_toList];exact hv)
    rw [c1] at hrep
    have:Rep (κ.new w.heap.size fun _=>none) (w.alloc (.cells out el)) (.slice (some (at_ w.heap.size 0)) (chunk ea esz len (cs.map V.strip1)).length (chunk ea esz len (cs.map V.strip1)).length) (.osl esz (chunk ea esz len (cs.map V.strip1))):=by
     refine .osl ?_
     rw [c1];exact hrep
    rw [c1] at this;exact this
   ·cases h
  ·cases h
 ·cases h
theorem makeSlice_ok {g:G} (hg:TyOk P g) {t:Nat} {ti:TI} (hti:g.ty t=some ti) {esz eb:Nat} {ea:Bool} {ez:List V} (hk:ti.k=.slice esz eb ea ez)(r:R d n κ w lam fr st a)
  {u v:Value} {len cap:Int} (hu:∃ k,u=.int k len) (hv:∃ k,v=.int k cap)
  (hc:0≤len∧len≤cap∧cap*eb≤2 ^ 47∧cap≤2 ^ 47∧0<esz∧ez.length=esz∧(ea || esz == 1)=true∧(ez.map V.strip1).all V.one=true) :
  ∃ v' w' κ',(Instr.makeSlice t u v).run P w=.ok v' w'∧R d n κ' w' lam fr st a∧RepV κ' w' lam fr st a.tmps v' (.own esz (List.replicate len.toNat (elemV ea (ez.map V.strip1))))∧∀ S,Pres S κ w κ' w':=by
 obtain ⟨h0,h1,h2,h3,h4,h5,h6,h7⟩:=hc
 obtain ⟨el,i,zv,hu1,hi,hsz,hbz,hzz,hzr⟩:=elem_size hg hti hk
 obtain ⟨ku,rfl⟩:=hu
 obtain ⟨kv,rfl⟩:=hv
 have hzs:zv.cells.size=esz:=by have:=(hzr κ w).length;simpa [h5] using this
 have hrun:=run_make (P:=P) w t el i zv hu1 hi hzz ku kv len cap h0 h1 (by rw [hbz,Int.mul_comm];omega) (by omega)
 rw [hsz] at hrun
 have hc1:(elemV ea (ez.map V.strip1)).cells=ez.map V.strip1:=by
  cases ea with
  | true=>rfl
  | false =>
   simp at h6;subst h6
   cases ez with
   | nil=>simp at h5
   | cons c cs =>
    have:cs=[]:=by simpa using h5
    subst this
    simp only [List.map_cons,List.map_nil,elemV,Bool.false_eq_true,if_false,List.headD_cons]
    exact one_cells (List.all_eq_true.1 h7 _ (by simp))
 have hxs:∀ x∈List.replicate len.toNat (elemV ea (ez.map V.strip1)),x.cells.length=esz:=by
  intro x hx;rw [List.eq_of_mem_replicate hx,hc1];simpa using h5
 have hfl:∀ m:Nat,(List.replicate m (elemV ea (ez.map V.strip1))).flatMap V.cells=(List.replicate m (ez.map V.strip1)).flatten:=by
  intro m
  induction m with
  | zero=>rfl
  | succ m ih=>rw [List.replicate_succ,List.flatMap_cons,ih,hc1,List.replicate_succ,List.flatten_cons]
 let vs:List Value:=(List.replicate len.toNat zv.cells.toList).flatten
 have hvr:Reps κ w vs ((List.replicate len.toNat (elemV ea (ez.map V.strip1))).flatMap V.cells):=by
  rw [hfl]
  have:∀ m:Nat,Reps κ w ((List.replicate m zv.cells.toList).flatten) ((List.replicate m (ez.map V.strip1)).flatten):=by
   intro m
   induction m with
   | zero=>exact .nil
   | succ m ih=>rw [List.replicate_succ,List.replicate_succ,List.flatten_cons,List.flatten_cons];exact (hzr κ w).strip1.append ih
  exact this _
 have hcs:∀ (j:Nat) v,vs[j]?=some v→(madeCells zv.cells (cap.toNat*esz))[j]?=some v:=by
  intro j v hv
  have hj:j<len.toNat*esz:=by
   have:=(List.getElem?_eq_some_iff.1 hv).1
   rw [flatten_rep_length] at this
   simpa [hzs] using this
  have hj2:len.toNat*esz≤cap.toNat*esz:=Nat.mul_le_mul_right _ (by omega)
  rw [rep_flat_get _ esz (by simpa using hzs) h4 _ j hj] at hv
  unfold madeCells
  rw [zeros_get hzs h4 cap.toNat j (by omega),← Array.getElem?_toList];exact hv
 obtain ⟨g',hrep,hspare⟩:=slice_new (k:=esz) (cap:=cap.toNat) r.sim.good h4 hxs hvr (madeCells zv.cells (cap.toNat*esz)) el hcs (size_madeCells _ _) (by simp;omega)
 rw [List.length_replicate] at hrep hspare
 refine ⟨_,_,_,hrun,?_,⟨hrep,hspare⟩,fun S=>pres_new S r.sim.good _ _⟩
 exact r.new _ el (fun o L h=>by
  split at h
  ·rename_i hh;exact hh.2
  ·cases h)
end Go.Ab
namespace Go.Ab
open Go
variable {P:Program} {d n:Nat} {κ:K} {w:World} {lam:Lam} {fr:Fr} {st:St} {a:Act} {o:Oper}
theorem convert_ok {g:G} (hg:TyOk P g) {s t:Nat} {ts td:TI} (hs:g.ty s=some ts)(ht:g.ty t=some td) {u:Value} {x:V} {e:E} (hu:Rep κ w u x)(h:convV (g.u8 s) td.k x=some e) :
  ∃ v w',(convert s t u).run P w=.ok v w'∧(w'=w∨w'=w.drew)∧RepV κ w' lam fr st a.tmps v e:=by
 obtain ⟨ds,hs1,_⟩:=und_tk hg hs
 obtain ⟨dt,ht1,ht2⟩:=und_tk hg ht
 unfold convV at h
 split at h
 ·rename_i k m hk
  rw [hk] at ht2;simp only [TKok] at ht2;subst ht2
  cases h;cases hu
  exact ⟨_,w,by simp [convert,run_underlying hs1,run_underlying ht1,Conv.intToInt],.inl rfl,Rep.int _ _⟩
 ·rename_i k m hk
  rw [hk] at ht2;simp only [TKok] at ht2;subst ht2
  cases h;cases hu
  exact ⟨_,w,by simp [convert,run_underlying hs1,run_underlying ht1,Conv.intToFloat],.inl rfl,Rep.float _ _⟩
 ·rename_i k s' b hk
  rw [hk] at ht2;simp only [TKok] at ht2;subst ht2
  cases hu
  have hc:(convert s t (.float s' b)).run P w=(Conv.floatToInt s' b k).run P w:=by simp [convert,run_underlying hs1,run_underlying ht1]
  rw [hc]
  unfold Conv.floatToInt
  dsimp only
  have hany:∃ v w',(do pure (.int k (k.wrap (← choose (.floatToInt s' b k)))):Sem Value).run P w=.ok v w'∧(w'=w∨w'=w.drew):=by
   refine ⟨.int k (k.wrap (((Question.floatToInt s' b k).cut (w.tape w.drawn (.floatToInt s' b k)):Nat):Int)),w.drew,by simp [Question.forced],.inr rfl⟩
  split at h
  ·rename_i m hm
   rw [hm]
   dsimp only
   split at h
   ·rename_i hmm
    cases h
    rw [if_pos hmm]
    exact ⟨_,w,rfl,.inl rfl,Rep.int _ _⟩
   ·rename_i hmm
    cases h
    rw [if_neg hmm]
    obtain ⟨v,w',h1,h2⟩:=hany
    exact ⟨v,w',h1,h2,trivial⟩
  ·rename_i hm
   rw [hm]
   cases h
   obtain ⟨v,w',h1,h2⟩:=hany
   exact ⟨v,w',h1,h2,trivial⟩
 ·rename_i k s' b hk
  rw [hk] at ht2;simp only [TKok] at ht2;subst ht2
  split at h
  ·rename_i hkk;subst hkk
   cases h;cases hu
   exact ⟨_,w,by simp [convert,run_underlying hs1,run_underlying ht1,Conv.floatToFloat],.inl rfl,Rep.float _ _⟩
  ·cases h
 ·rename_i s' hk
  rw [hk] at ht2;simp only [TKok] at ht2;subst ht2
  cases h
  obtain ⟨s'',rfl,rfl⟩:=hu.str_inv
  exact ⟨_,w,by simp [convert,run_underlying hs1,run_underlying ht1],.inl rfl,Rep.str _⟩
 ·rename_i xs hk
  rw [hk] at ht2;simp only [TKok] at ht2;subst ht2
  split at h
  ·rename_i hu8
   obtain ⟨el,hs2,he⟩:=hg.u8 s hu8
   rw [hs1] at hs2;cases hs2
   cases hb:bytesOf xs with
   | none=>rw [hb] at h;cases h
   | some bs =>
    rw [hb] at h
    simp only [Option.map_some,Option.some.injEq] at h;subst h
    obtain ⟨q,cap,rfl,_⟩:=hu.slice_inv
    obtain ⟨r,h1,h2⟩:=bytesToString_ok (P:=P) hu hb
    exact ⟨r,w,by rw [run_convert_bytes_string w s t el q _ cap hs1 he ht1];exact h1,.inl rfl,h2⟩
  ·cases h
 ·cases h
theorem minMax_ok (mx:Bool):∀ {us:List Value} {xs:List V} {v:Value} {x z:V},Rep κ w v x→Reps κ w us xs→minMax mx x xs=some z →
  ∃ r,(us.foldlM (if mx then Builtin.max2 else Builtin.min2) v).run P w=.ok r w∧Rep κ w r z
 | _,_,v,x,z,hv,.nil,h=>by simp only [minMax,Option.some.injEq] at h;subst h;exact ⟨v,rfl,hv⟩
 | _,_,v,x,z,hv,.cons (x:=y) hy r,h=>by
  unfold minMax at h
  split at h
  ·rename_i heq;cases heq
  ·rename_i k p k' q r' heq
   cases heq
   cases hv;cases hy
   obtain ⟨r2,h1,h2⟩:=minMax_ok mx (.int k _) r h
   refine ⟨r2,?_,h2⟩
   rw [List.foldlM_cons,Sem.run_bind]
   cases mx
   ·simp only [Bool.false_eq_true,if_false] at h1 ⊢
    show ((Sem.pure _:Sem Value).run P w).andThen _=_
    simpa [Builtin.min2] using h1
   ·simp only [if_true] at h1 ⊢
    show ((Sem.pure _:Sem Value).run P w).andThen _=_
    simpa [Builtin.max2] using h1
  ·cases h
theorem len_ok {g:G} (hg:TyOk P g) {t ty:Nat} {ti:TI} (hti:g.ty t=some ti) {u:Value} {e:E} {z:V} (hu:RepR κ w lam u e)(h:lenE ti.k e=some z)(ats:Array TypeId)(args:Array Value)
  (h0:ats[0]?=some t) (h1:args[0]?=some u):∃ r,(Builtin.len_ ats ty args).run P w=.ok r w∧Rep κ w r z:=by
 obtain ⟨de,hd1,hd2⟩:=und_tk hg hti
 unfold lenE at h
 split at h
 ·rename_i s hk
  rw [hk] at hd2;simp only [TKok] at hd2;subst hd2
  cases h
  obtain ⟨s,rfl,rfl⟩:=Rep.str_inv hu
  refine ⟨_,?_,.int _ _⟩
  rw [← size_eq_length]
  simp [Builtin.len_,h0,h1,run_underlying hd1,goInt]
 ·rename_i esz eb ea ez fl k id off len hk
  rw [hk] at hd2;obtain ⟨el,i,zz,de',rfl,_⟩:=hd2
  cases h
  obtain ⟨b,cap,rfl⟩:=Rep.sref_len hu
  refine ⟨_,?_,.int _ _⟩
  simp [Builtin.len_,h0,h1,run_underlying hd1,goInt]
 ·rename_i esz eb ea ez e' hk _
  rw [hk] at hd2;obtain ⟨el,i,zz,de',rfl,_⟩:=hd2
  split at h
  ·rename_i xs hxs
   cases h
   obtain ⟨q,cap,rfl,_⟩:=(elems_of hu hxs).slice_inv
   refine ⟨_,?_,.int _ _⟩
   simp [Builtin.len_,h0,h1,run_underlying hd1,goInt]
  ·cases h
 ·rename_i m esz ea e' hk
  rw [hk] at hd2;obtain ⟨el,i,de',rfl,_⟩:=hd2
  cases h
  refine ⟨_,?_,.int _ _⟩
  simp [Builtin.len_,h0,h1,run_underlying hd1,goInt]
 ·cases h
theorem appended_type {g:G} (hg:TyOk P g) {ats:Array TypeId} {e:E} {ys:List V} (h:appended ((ats[1]?).bind fun u=>(g.ty u).map TI.k) e=some ys) :
  ∃ xt,ats[1]?=some xt∧((∃ el,P.underlying xt=some (.slice el))∨P.underlying xt=some .string):=by
 cases hx:ats[1]? with
 | none=>rw [hx] at h;cases h
 | some xt =>
  rw [hx] at h
  simp only [Option.bind_some] at h
  cases hti:g.ty xt with
  | none=>rw [hti] at h;cases h
  | some ti =>
   rw [hti] at h
   obtain ⟨de,h1,h2⟩:=und_tk hg hti
   unfold appended at h
   split at h
   ·rename_i hk
    simp only [Option.map_some,Option.some.injEq] at hk
    rw [hk] at h2
    obtain ⟨el,i,z,de',rfl,_⟩:=h2
    exact ⟨xt,rfl,.inl ⟨el,h1⟩⟩
   ·rename_i hk
    simp only [Option.map_some,Option.some.injEq] at hk
    rw [hk] at h2;simp only [TKok] at h2;subst h2
    exact ⟨xt,rfl,.inr h1⟩
   ·cases h
theorem builtin_run (o:Oper)(b:Builtin)(args:Array Operand)(ats:Array TypeId)(h:o.op=.call {callee:=.builtin b,args:=args,argTypes:=ats})(ρ:Operand→Value) :
  (execOp ρ o).run P w=(builtin b ats o.type (args.map fun | .const _=>true | _=>false) (args.map ρ)).run P w:=by
 unfold execOp
 rw [h]
 simp [resolve,invoke]
 rfl
theorem RepR.pres {S:Ow→Prop} {κ':K} {w':World} {v:Value} {e:E} (p:Pres S κ w κ' w')(h:RepR κ w lam v e):RepR κ' w' lam v e:=by
 cases e with
 | any=>trivial
 | val x=>exact Rep.pres p h
 | lp t off=>exact h
 | own k xs=>exact Rep.pres p h
 | bor k xs q=>exact Rep.pres p h
theorem append_ok {g:G} (hg:TyOk P g)(r:R d n κ w lam fr st a) {args:Array Operand} {ats:Array TypeId} {rs:Rs} (ho:o.op=.call {callee:=.builtin .append,args:=args,argTypes:=ats})
  (h:appendStep g fr st ats args=some rs):Does P d n κ w st a o rs:=by
 unfold appendStep at h
 split at h
 ·rename_i t s x ht hs hx
  split at h
  ·rename_i esz eb ea ez size agg zero hti
   split at h
   ·rename_i ys hap
    split at h
    ·rename_i xs fr' st' hb
     split at h
     ·rename_i hc
      cases h
      obtain ⟨c1,c2,c3,c4,c5,c6⟩:=hc
      unfold baseOf at hb
      split at hb
      ·rename_i k xs' fr2 st2 htk
       split at hb
       ·rename_i hk
        cases hb
        obtain ⟨κ1,r1,v1,p1,w1⟩:=take_ok r htk
        obtain ⟨el,i,z,hu,hi,hsz,hbz,hzz,hzr⟩:=elem_size hg hti rfl
        obtain ⟨xt,hxt,hxk⟩:=appended_type hg hap
        have hezl:z.cells.size=esz:=by have:=(hzr κ w).length;simpa [c6] using this
        obtain ⟨v',w',κ',h1,h2,h3,h4⟩:=append_run (P:=P) r1 (t:=t) (xt:=xt) (ty:=o.type) (v:=a.eval s) (vx:=a.eval x) (args:=args.map a.eval) (ats:=ats) hu hi hzz hsz hbz hezl
         (by simp [hs]) (by simp [hx]) ht hxt hxk v1.1 v1.2 (by simpa using hk) ((r.op x).pres p1) hap c5 c4 c3 c1 c2
        refine ⟨.value v',v',w',κ',lam,?_,.inl rfl,h2,h3,p1.trans (h4.mono fun L hL e=>keep_fly d st.wp (e ▸ hL)),w1⟩
        rw [builtin_run o .append args ats ho]
        simp [builtin,h1]
       ·cases hb
      ·cases hb
     ·cases h
    ·cases h
   ·cases h
  ·cases h
 ·cases h
theorem free_ok {g:G} (hg:TyOk P g)(r:R d n κ w lam fr st a) {args:Array Operand} {ats:Array TypeId} {e:E} (ho:o.op=.call {callee:=.builtin .append,args:=args,argTypes:=ats})
  (h:freeStep g fr ats args=some e):Does P d n κ w st a o (.ok e fr st):=by
 unfold freeStep at h
 split at h
 ·rename_i t s x ht hs hx
  split at h
  ·rename_i esz eb ea ez size agg zero hbase hti
   split at h
   ·rename_i ys hap
    split at h
    ·rename_i hc
     cases h
     obtain ⟨c1,c2,c3,c4,c6⟩:=hc
     have hv:Rep κ w (a.eval s) (.osl 0 []):=by have:=r.op s;rw [hbase] at this;exact this
     have v1:Rep κ w (a.eval s) (.slice [])∧Spare κ .fly 0 (a.eval s):=by
      generalize a.eval s=u at hv
      cases hv with | osl h=>exact ⟨h,.inl rfl⟩
     obtain ⟨el,i,z,hu,hi,hsz,hbz,hzz,hzr⟩:=elem_size hg hti rfl
     obtain ⟨xt,hxt,hxk⟩:=appended_type hg hap
     have hezl:z.cells.size=esz:=by have:=(hzr κ w).length;simpa [c6] using this
     obtain ⟨v',w',κ',h1,h2,h3,h4⟩:=append_run (P:=P) r (t:=t) (xt:=xt) (ty:=o.type) (v:=a.eval s) (vx:=a.eval x) (args:=args.map a.eval) (ats:=ats) hu hi hzz hsz hbz hezl
      (by simp [hs]) (by simp [hx]) ht hxt hxk v1.1 v1.2 (by simp) ((r.op x)) hap (by rfl) c4 c3 (by simpa using c1) (by simpa using c2)
     refine ⟨.value v',v',w',κ',lam,?_,.inl rfl,h2,by simpa using h3,(h4.mono fun L hL e=>keep_fly d st.wp (e ▸ hL)),rfl⟩
     rw [builtin_run o .append args ats ho]
     simp [builtin,h1]
    ·cases h
   ·cases h
  ·cases h
 ·cases h
end Go.Ab
namespace Go.Ab
open Go
variable {P:Program} {d n:Nat} {κ:K} {w:World} {lam:Lam} {fr:Fr} {st:St} {a:Act} {o:Oper}
theorem reps_one1 {vs:List Value} {cs:List V} (h:Reps κ w vs cs)(h1:cs.all V.one=true):∀ v∈vs,v.oneCell'=true:=by
 induction cs generalizing vs with
 | nil=>cases h;intro v hv;simp at hv
 | cons x r ih =>
  cases h with
  | cons hx hr =>
   simp only [List.all_cons,Bool.and_eq_true] at h1
   intro v hv
   rcases List.mem_cons.1 hv with rfl | hv
   ·exact Rep.one hx h1.1
   ·exact ih hr h1.2 v hv
theorem reps_get {vs:List Value} {cs:List V} (h:Reps κ w vs cs):∀ (j:Nat) v x,vs[j]?=some v→cs[j]?=some x→Rep κ w v x:=by
 induction cs generalizing vs with
 | nil=>intro j v x _ hx;simp at hx
 | cons y r ih =>
  cases h with
  | cons hy hr =>
   intro j v x hv hx
   cases j with
   | zero=>simp at hv hx;subst hv hx;exact hy
   | succ j=>exact ih hr j v x (by simpa using hv) (by simpa using hx)
theorem from_ok (r:R d n κ w lam fr st a) {ea:Bool} {esz:Nat} {e:E} {v:Value} {ys:List V} (h0:0<esz)(hv:RepR κ w lam v e)(h:elemsAt ea esz st e=some ys)(hs:sizesOk esz ys=true) :
  ∃ vs,Reps κ w vs (ys.flatMap V.cells)∧(∀ w',(Builtin.lenOf v).run P w'=.ok ys.length w')∧∀ m,m≤ys.length→(Builtin.firstCells esz m v).run P w=.ok (vs.take (m*esz)).toArray w:=by
 have some_case:∀ {b off len cap:Nat} {vs:List Value} {L:Nat},(∀ (j:Nat) u,vs[j]?=some u→w.cell? (at_ b (off+j))=some u)→vs.length=L*esz→∀ m,m≤L→(Builtin.firstCells esz m (.slice (some (at_ b off)) len cap)).run P w=.ok (vs.take (m*esz)).toArray w:=by
  intro b off len cap vs L hc hl m hm
  refine run_firstCells_some w esz m (at_ b off) len cap _ ?_ fun j u hu=>?_
  ·rw [List.length_take,hl];exact Nat.min_eq_left (Nat.mul_le_mul_right _ hm)
  ·rw [addr_add]
   rw [List.getElem?_take] at hu
   split at hu
   ·exact hc j u hu
   ·cases hu
 unfold elemsAt at h
 split at h
 ·rename_i fl k id off len
  split at h
  ·rename_i hl0
   subst hl0
   cases h
   obtain ⟨q,cap,rfl⟩:=Rep.sref_len hv
   refine ⟨[],.nil,fun _=>rfl,fun m hm=>?_⟩
   obtain rfl:m=0:=by simpa using hm
   simp only [List.take_nil]
   cases q with
   | none=>exact run_firstCells_none w _ _ _ _
   | some q=>exact run_firstCells_some w esz 0 q 0 cap [] (by simp) (by simp)
  split at h
  ·rename_i cs ho
   split at h
   ·rename_i hc
    obtain ⟨rfl,h2,h3,h4⟩:=hc
    cases h
    obtain ⟨b,cap,rfl,h5,_,h6,h7⟩:=Rep.sref_inv hv (.inl h0)
    obtain ⟨c1,c2,c3⟩:=chunk_ok h3 h0 len (((cs.drop off).take (len*k)).map V.strip1) (by simp;omega) (List.all_eq_true.2 fun x hx=>by
     obtain ⟨y,hy,rfl⟩:=List.mem_map.1 hx
     exact List.all_eq_true.1 h4 _ (List.mem_map_of_mem (List.mem_of_mem_drop (List.mem_of_mem_take hy))))
    obtain ⟨b',hb',hcs⟩:=r.sim.obj id cs ho
    rw [h5] at hb';cases hb'
    obtain ⟨vs,q1,q2,q3⟩:=row_reps hcs (len*k) off h2
    rw [c1,c2]
    exact ⟨vs,q1,fun _=>rfl,some_case q3 q2⟩
   ·cases h
  ·cases h
 ·have hr:=elems_of hv h
  cases hr with
  | slice0 q cap =>
   refine ⟨[],.nil,fun _=>rfl,fun m hm=>?_⟩
   obtain rfl:m=0:=by simpa using hm
   simp only [List.take_nil]
   cases q with
   | none=>exact run_firstCells_none w _ _ _ _
   | some q=>exact run_firstCells_some w esz 0 q 0 cap [] (by simp) (by simp)
  | slice hc hk hat =>
   obtain ⟨vs,h1,h2⟩:=hat.reps
   exact ⟨vs,h1,fun _=>rfl,some_case (fun j u hu=>(h2 j u hu).1) (by rw [h1.length,flat_length _ esz (sizesOk_all hs)])⟩
theorem copy_ok {g:G} (hg:TyOk P g)(r:R d n κ w lam fr st a) {args:Array Operand} {ats:Array TypeId} {rs:Rs} (ho:o.op=.call {callee:=.builtin .copy,args:=args,argTypes:=ats})
  (h:copyStep g fr st ats args=some rs):Does P d n κ w st a o rs:=by
 unfold copyStep at h
 split at h
 ·rename_i t s x es eb eagg ez sz ag zr ht0 hs0 hx0 hxt
  split at h
  ·rename_i esz eb' ea' ez' sz' ag' zr' ht
   split at h
   ·rename_i ys hys
    split at h
    ·rename_i hc
     obtain ⟨hpos,hsz⟩:=hc
     obtain ⟨vs,q1,q2,q3⟩:=from_ok (P:=P) r hpos (r.op x) hys hsz
     obtain ⟨el,i,z,u1,u2,u3,_,_,_⟩:=elem_size hg ht rfl
     have hd:=r.op s
     have run_of:∀ {q:Option Addr} {len cap:Nat} {w':World},a.eval s=.slice q len cap→(match q with | some c=>(storeCells c (vs.take (min ys.length len*esz))).run P w=.ok () w' | none=>w'=w) →
       (execOp a.eval o).run P w=.ok (.value (goInt (min ys.length len:Nat))) w':=by
      intro q len cap w' hq hst
      rw [builtin_run o .copy args ats ho]
      have e0:(args.map a.eval)[0]?=some (.slice q len cap):=by simp [hs0,hq]
      have e1:(args.map a.eval)[1]?=some (a.eval x):=by simp [hx0]
      simp only [builtin,Builtin.copy_,ht0,e0,e1,Sem.run_bind,run_underlying u1,Result.andThen_ok,q2,sizeOf,typeInfo,run_program,u2,Sem.run_pure,u3]
      rw [q3 _ (Nat.min_le_left _ _),Result.andThen_ok]
      cases q with
      | none=>subst hst;rfl
      | some c =>
       simp only [Sem.run_bind] at hst ⊢
       rw [hst];rfl
     split at h
     ·rename_i f k id off len hsr
      rw [hsr] at hd
      split at h
      ·rename_i hk
       subst hk
       obtain ⟨b,cap,hv,h5,_,h6,h7⟩:=Rep.sref_inv hd (.inl hpos)
       split at h
       ·rename_i hmin
        cases h
        refine Does.pure r (v:=goInt (0:Nat)) ?_ (.int _ _)
        have:=run_of (w':=w) hv (by rw [hmin];simp [storeCells])
        rw [hmin] at this;exact this
       ·rename_i hmin
        split at h
        ·rename_i fr2 st2 hs2
         cases h
         unfold storeAt at hs2
         split at hs2
         ·rename_i hchk
          simp only [Bool.and_eq_true,decide_eq_true_eq] at hchk
          obtain ⟨⟨_,hone⟩,hpos2⟩:=hchk
          simp only [placeOf] at hs2
          cases hob:st.obj id with
          | none=>rw [hob] at hs2;simp at hs2
          | some old =>
           rw [hob] at hs2
           simp only [Option.map_some] at hs2
           cases hsp:splice old off ((ys.take (min ys.length len)).flatMap V.cells) with
           | none=>rw [hsp] at hs2;cases hs2
           | some new =>
            rw [hsp] at hs2
            simp only at hs2
            cases hset:st.set id new with
            | none=>rw [hset] at hs2;cases hs2
            | some st3 =>
             rw [hset] at hs2
             simp only [Option.map_some,Option.some.injEq,Prod.mk.injEq] at hs2
             obtain ⟨rfl,rfl⟩:=hs2
             have hrt:=q1.take (min ys.length len*k)
             rw [← flat_take _ _ (sizesOk_all hsz)] at hrt
             have hlen:=hrt.length
             have hne:vs.take (min ys.length len*k)≠[]:=by intro e;rw [e,List.length_nil] at hlen;omega
             obtain ⟨s1,s2,s3,s4⟩:=mem_store (P:=P) r hob h5 hsp hset hlen hne (reps_one1 hrt hone) (fun j v x hv hx=>RepM.of_rep (reps_get hrt j v x hv hx))
             exact ⟨_,_,_,κ,lam,run_of hv s1,.inl rfl,s2,.int _ _,s3,s4⟩
         ·cases hs2
        ·cases h
      ·cases h
     ·rename_i hsr
      cases h
      rw [hsr] at hd
      obtain ⟨q,cap,hv,hrest⟩:=Rep.slice_inv hd
      refine Does.pure r (v:=goInt (0:Nat)) ?_ (.int _ _)
      have:=run_of (w':=w) (len:=0) (cap:=cap) (q:=q) hv (by cases q <;> simp [storeCells])
      simpa using this
     ·cases h
    ·cases h
   ·cases h
  ·cases h
 ·cases h
end Go.Ab
namespace Go.Ab
open Go
variable {P:Program} {d n:Nat} {κ:K} {w:World} {lam:Lam} {fr:Fr} {st:St} {a:Act} {o:Oper}
theorem nil_full {v:Value} (h:Rep κ w v (.sref true 0 0 0 0)):∃ q,v=.slice q 0 0:=by
 cases h with
 | sref h hf hc hs=>have:=hf rfl;subst this;exact ⟨_,rfl⟩
 | sref0 a=>exact ⟨_,rfl⟩
theorem nilRef_rep {v:Value} {x:V} (h:Rep κ w v x):Rep κ w v (nilRef x):=by
 unfold nilRef
 split
 ·cases h with
  | osl h=>exact .sref0 _
 ·exact h
theorem nilRefs_reps {vs:List Value} {xs:List V} (h:Reps κ w vs xs):Reps κ w vs (xs.map nilRef):=by
 induction xs generalizing vs with
 | nil=>exact h
 | cons x r ih =>
  cases h with
  | cons h1 h2=>exact .cons (nilRef_rep h1) (ih h2)
theorem nilRefs_rep (fi:FI)(o:Oper) {v:Value} {xs:List V} (h:Rep κ w v (.agg xs)):Rep κ w v (.agg (nilRefs fi o xs)):=by
 unfold nilRefs
 split
 ·split
  ·obtain ⟨ar,rfl,hr⟩:=Rep.agg_inv h
   exact .agg (nilRefs_reps hr)
  ·exact h
 ·exact h
theorem take_up {g:G} {t:Nat} {κ':K} {fr':Fr} {st':St} {v:Value} {e:E} (h:RepV κ' w lam fr' st' a.tmps v e):RepV κ' w lam fr' st' a.tmps v (upE g t e):=by
 cases e with
 | own k xs =>
  unfold upE
  split
  ·rename_i heq;cases heq
   split
   ·split
    ·rename_i hk
     simp at hk;obtain ⟨hk,_⟩:=hk;subst hk
     refine ⟨h.1,?_⟩
     obtain ⟨q,cap,rfl,_⟩:=h.1.slice_inv
     rcases h.2 with h1 | ⟨h1,_⟩
     ·exact .inl h1
     ·omega
    ·exact h
   ·exact h
  ·rename_i hn;exact absurd rfl (hn k xs)
 | _=>exact h
theorem storeVar_run {t:TypeId} {i:TypeInfo} {b off:Nat} {v:Value} {w':World} (hi:P.info? t=some i)(hs:v.cells.size=i.size)(h:(storeCells (at_ b off) v.cells.toList).run P w=.ok () w') :
  (Instr.storeAt t (.pointer (some (at_ b off))) v).run P w=.ok () w':=by
 simp [Instr.storeAt,Instr.sureAddr,storeVar,sizeOf,typeInfo,hi,hs,h]
theorem store_ok {g:G} (hg:TyOk P g)(r:R d n κ w lam fr st a) {t:TypeId} {ad x:Operand} (ho:o.op=.store t ad x) {ti:TI} (hti:g.ty t=some ti) {e:E} {fr1 fr2:Fr} {st1 st2:St} {cs:List V}
  (ht:take fr st x=some (e,fr1,st1)) (hc:(upE g t e).cells?=some cs) (hs:Ab.storeAt ti.size fr1 st1 (fr1.op ad) cs=some (fr2,st2)):Does P d n κ w st a o (.ok .any fr2 st2):=by
 obtain ⟨κ1,r1,v1,p1,w1⟩:=take_ok r ht
 obtain ⟨i,z,hi,hsz,hz,_⟩:=(hg.ti t ti hti).info
 have v2:=take_up (g:=g) (t:=t) v1
 unfold Ab.storeAt at hs
 split at hs
 ·rename_i hchk
  simp only [Bool.and_eq_true,beq_iff_eq,decide_eq_true_eq] at hchk
  obtain ⟨⟨hlen,hone⟩,hpos⟩:=hchk
  have had:=r1.op ad
  have run_of:∀ {w'},(Instr.storeAt t (a.eval ad) (a.eval x)).run P w=.ok () w'→(execOp a.eval o).run P w=.ok .skip w':=by
   intro w' h
   unfold execOp
   rw [ho]
   simp [h]
  split at hs
  ·rename_i s off old hp
   generalize fr1.op ad=ea at *
   cases ea <;> simp only [placeOf,Option.map_eq_some_iff,Place.loc.injEq,reduceCtorEq,and_false,exists_false] at hp
   case lp s' off' =>
    obtain ⟨cs',hcs,rfl,rfl,rfl⟩:=hp
    obtain ⟨b,hb,hea⟩:=had
    obtain ⟨κ2,r2,p2,c1,c2,c3⟩:=cells_of r1 v2 hc hone (fun j=>.lsp d s' (off'+j)) (by simp)
    cases hsp:splice cs' off' cs with
    | none=>rw [hsp] at hs;cases hs
    | some new =>
     rw [hsp] at hs
     simp only [Option.map_some,Option.some.injEq,Prod.mk.injEq] at hs
     obtain ⟨rfl,rfl⟩:=hs
     have hne:(a.eval x).cells.toList≠[]:=by intro h;rw [h] at c1;simp at c1;omega
     obtain ⟨s1,s2,s3⟩:=loc_store (P:=P) r2 hcs hb hsp c1 hne c2 c3
     refine ⟨.skip,undef,_,κ2,lam,run_of ?_,.inr ⟨rfl,rfl⟩,s2,trivial,p1.trans ((p2.mono fun L hL e=>keep_fly d st.wp (e ▸ hL)).trans (w1 ▸ s3)),w1⟩
     rw [hea]
     exact storeVar_run hi (by have:=c1;simp at this;omega) s1
   case val y=>cases y <;> simp at hp
  ·rename_i id off old hp
   generalize fr1.op ad=ea at *
   cases ea <;> simp only [placeOf,Option.map_eq_some_iff,reduceCtorEq,and_false,exists_false] at hp
   case val y =>
    cases y <;> simp only [placeOf,Option.map_eq_some_iff,Place.mem.injEq,reduceCtorEq,and_false,exists_false,Option.some.injEq] at hp
    case ptr id' off' =>
     obtain ⟨cs',hcs,rfl,rfl,rfl⟩:=hp
     generalize hvv:a.eval ad=va at had run_of
     cases had with
     | ptr hb =>
      rename_i b
      obtain ⟨κ2,r2,p2,c1,c2,c3⟩:=cells_of r1 v2 hc hone (fun j=>.mem id' (off'+j)) (by simp)
      cases hsp:splice cs' off' cs with
      | none=>rw [hsp] at hs;cases hs
      | some new =>
       rw [hsp] at hs
       simp only at hs
       cases hset:st1.set id' new with
       | none=>rw [hset] at hs;cases hs
       | some st3 =>
        rw [hset] at hs
        simp only [Option.map_some,Option.some.injEq,Prod.mk.injEq] at hs
        obtain ⟨rfl,rfl⟩:=hs
        have hne:(a.eval x).cells.toList≠[]:=by intro h;rw [h] at c1;simp at c1;omega
        have hb2:κ2.blk id'=some b:=p2.blk _ _ hb
        obtain ⟨s1,s2,s3,s4⟩:=mem_store (P:=P) r2 hcs hb2 hsp hset c1 hne c2 c3
        refine ⟨.skip,undef,_,κ2,lam,run_of ?_,.inr ⟨rfl,rfl⟩,s2,trivial,p1.trans ((p2.mono fun L hL e=>keep_fly d st.wp (e ▸ hL)).trans (w1 ▸ s3)),s4.trans w1⟩
        exact storeVar_run hi (by have:=c1;simp at this;omega) s1
  ·cases hs
 ·cases hs
theorem Does.any (r:R d n κ w lam fr st a) {v:Value} {w':World} {κ':K} {e:E} (h:(execOp a.eval o).run P w=.ok (.value v) w')(hr:R d n κ' w' lam fr st a)(hv:RepV κ' w' lam fr st a.tmps v e)
  (hp:∀ S,Pres S κ w κ' w'):Does P d n κ w st a o (.ok e fr st):=⟨_,v,w',κ',lam,h,.inl rfl,hr,hv,hp _,rfl⟩
theorem raw_cells {v : Value} {e : E} {cs : List V} (h : RepR κ w lam v e) (hc : e.cells? = some cs) (h1 : cs.all V.one = true) (hk : ∀ k xs, e = .own k xs → ∃ q, v = .slice q xs.length xs.length) : Reps κ w v.cells.toList cs := by
  cases e with
  | val x =>
    simp only [E.cells?, Option.some.injEq] at hc; subst hc
    cases x <;> first
      | (obtain ⟨ar, rfl, hr⟩ := Rep.agg_inv h; exact hr)
      | (have := Rep.one h (by simpa [V.cells] using h1)
         cases v <;> first | exact .cons h .nil | cases this)
  | own k xs =>
    simp only [E.cells?, Option.some.injEq] at hc; subst hc
    obtain ⟨q, rfl⟩ := hk k xs rfl
    exact .cons (.osl h) .nil
  | _ => cases hc
theorem box_cells (r:R d n κ w lam fr st a) {x:Operand} {cs:List V} (hc:boxCells (fr.op x)=some cs):Reps κ w (a.eval x).cells.toList cs:=by
 have h:=r.op x
 generalize fr.op x=e at *
 unfold boxCells at hc
 split at hc
 ·rename_i y
  split at hc
  ·rename_i h1
   cases hc
   exact raw_cells h rfl h1 (fun k xs he=>by cases he)
  ·cases hc
 ·rename_i k xs
  cases hc
  obtain ⟨q,cap,hv,_⟩:=(show Rep κ w _ (.slice xs) from h).slice_inv
  rw [hv] at h ⊢
  exact .cons h .nil
 ·rename_i k xs p
  cases hc
  obtain ⟨q,cap,hv,_⟩:=(show Rep κ w _ (.slice xs) from h).slice_inv
  rw [hv] at h ⊢
  exact .cons h .nil
 ·cases hc
theorem run_value {s:Sem Value} {v:Value} {w':World} (h:s.run P w=.ok v w'):(do pure (Next.value (← s)):Sem Next).run P w=.ok (.value v) w':=by
 simp [h]
theorem builtin_ok {g:G} (hg:TyOk P g)(r:R d n κ w lam fr st a) {b:Builtin} {args:Array Operand} {ats:Array TypeId} {rs:Rs} (ho:o.op=.call {callee:=.builtin b,args:=args,argTypes:=ats})
  (h:builtinStep g fr st b ats args=some rs):Does P d n κ w st a o rs:=by
 unfold builtinStep at h
 split at h
 ·exact append_ok hg r ho h
 ·exact copy_ok hg r ho h
 ·split at h
  ·rename_i x ti hx hti
   obtain ⟨z,hz,rfl⟩:=okV_some h
   cases ht:ats[0]? with
   | none=>rw [ht] at hti;cases hti
   | some t =>
    rw [ht] at hti
    obtain ⟨v,h1,h2⟩:=len_ok (P:=P) (ty:=o.type) hg hti (r.op x) hz ats (args.map a.eval) ht (by simp [hx])
    refine Does.pure r (v:=v) ?_ (RepV.toE h2)
    rw [builtin_run o .len args ats ho]
    simp [builtin,h1]
  ·cases h
 ·split at h
  ·rename_i v rest hv
   obtain ⟨z,hz,rfl⟩:=okV_some h
   have hr:=vsOf_reps (r.ops args.toList) hv
   generalize hl:args.toList.map a.eval=vals at hr
   cases hr with
   | cons h1 h2 =>
    rename_i v0 vs0
    obtain ⟨u,h3,h4⟩:=minMax_ok (P:=P) true h1 h2 hz
    refine Does.pure r (v:=u) ?_ (RepV.toE h4)
    rw [builtin_run o .max args ats ho]
    simp only [if_true] at h3
    simp [builtin,Builtin.max_,hl,h3]
  ·cases h
 ·split at h
  ·rename_i v rest hv
   obtain ⟨z,hz,rfl⟩:=okV_some h
   have hr:=vsOf_reps (r.ops args.toList) hv
   generalize hl:args.toList.map a.eval=vals at hr
   cases hr with
   | cons h1 h2 =>
    rename_i v0 vs0
    obtain ⟨u,h3,h4⟩:=minMax_ok (P:=P) false h1 h2 hz
    refine Does.pure r (v:=u) ?_ (RepV.toE h4)
    rw [builtin_run o .min args ats ho]
    simp only [Bool.false_eq_true,if_false] at h3
    simp [builtin,Builtin.min_,hl,h3]
  ·cases h
 ·cases h
theorem alloc_run {t:TypeId} {i:TypeInfo} {z:Value} (hi:P.info? t=some i)(hz:i.zero=some z):(Instr.alloc t true (.tuple #[])).run P w=.ok (.pointer (some (at_ w.heap.size 0))) (w.alloc (.cells z.cells t)):=by
 simp [Instr.alloc,zeroValue,typeInfo,hi,hz,newVar,newRow,at_]
theorem box_run {t:TypeId} {v:Value}:(Instr.box t v).run P w=.ok (.pointer (some (at_ w.heap.size 0))) (w.alloc (.cells v.cells t)):=by
 simp [Instr.box,newVar,newRow,at_]
def addrLike:E→Prop
 | .lp _ _=>True
 | .val (.ptr _ _)=>True
 | .val (.ep _)=>True
 | .val (.func _ _ _)=>True
 | _=>False
theorem nil_cases {v:Value} {e:E} (h:RepR κ w lam v e)(hn:addrLike e) :
  (∃ b,v=.pointer (some b))∨(∃ f x y,v=.func (.func f) x y):=by
 cases e with
 | lp t off=>obtain ⟨b,_,rfl⟩:=h;exact .inl ⟨_,rfl⟩
 | val x=>cases x <;> first | exact hn.elim | (cases h;exact .inl ⟨_,rfl⟩) | (cases h;exact .inr ⟨_,_,_,rfl⟩)
 | _=>exact hn.elim
theorem stepOp_ok {g:G} {fi:FI} (hg:TyOk P g)(r:R d n κ w lam fr st a) {rs:Rs} (h:stepOp g fi fr st o=some rs):Does P d n κ w st a o rs:=by
 unfold stepOp at h
 split at h
 ·-- move
  rename_i x ho
  cases h
  exact Does.pure r (by unfold execOp;rw [ho];rfl) (r.lend x)
 ·-- assign
  rename_i x ho
  split at h
  ·rename_i e fr1 st1 ht
   cases h
   obtain ⟨κ1,r1,v1,p1,w1⟩:=take_ok r ht
   exact ⟨_,_,w,κ1,lam,by unfold execOp;rw [ho];rfl,.inl rfl,r1,take_up v1,p1,w1⟩
  ·cases h
 ·-- pick
  rename_i c x y ho
  split at h
  ·rename_i t ht
   cases h
   have hc:=bool_of (r.op c) ht
   refine Does.pure r (v:=if t then a.eval x else a.eval y) ?_ ?_
   ·unfold execOp;rw [ho];simp [hc,asBool]
   ·cases t
    ·exact r.lend y
    ·exact r.lend x
  ·cases h
 ·-- alloc
  rename_i t ho
  split at h
  ·rename_i ti s hti hs
   obtain ⟨i,z,hi,hsz,hz,hzr⟩:=(hg.ti t ti hti).info
   have hrun:(execOp a.eval o).run P w=.ok (.value (.pointer (some (at_ w.heap.size 0)))) (w.alloc (.cells z.cells t)):=by
    unfold execOp;rw [ho];exact run_value (alloc_run hi hz)
   split at h
   ·cases h
    obtain ⟨κ',lam',r1,v1,p1⟩:=local_ok r s z.cells t ti.zero (hzr κ w)
    exact ⟨_,_,_,κ',lam',hrun,.inl rfl,r1,v1,p1,rfl⟩
   ·cases h
    obtain ⟨κ',r1,v1,p1⟩:=object_ok r z.cells t ti.zero (hzr κ w)
    exact ⟨_,_,_,κ',lam,hrun,.inl rfl,r1,v1,p1,rfl⟩
  ·cases h
 ·-- box
  rename_i t x ho
  split at h
  ·rename_i cs s hcs hs
   have hc:=box_cells r hcs
   have hrun:(execOp a.eval o).run P w=.ok (.value (.pointer (some (at_ w.heap.size 0)))) (w.alloc (.cells (a.eval x).cells t)):=by
    unfold execOp;rw [ho];exact run_value box_run
   split at h
   ·cases h
    obtain ⟨κ',lam',r1,v1,p1⟩:=local_ok r s (a.eval x).cells t cs hc
    exact ⟨_,_,_,κ',lam',hrun,.inl rfl,r1,v1,p1,rfl⟩
   ·cases h
    obtain ⟨κ',r1,v1,p1⟩:=object_ok r (a.eval x).cells t cs hc
    exact ⟨_,_,_,κ',lam,hrun,.inl rfl,r1,v1,p1,rfl⟩
  ·cases h
 ·-- build
  rename_i t parts ho
  split at h
  ·rename_i ti hti
   obtain ⟨z,hz,rfl⟩:=okV_some h
   cases hb:buildCells ti (parts.toList.map fun p=>(p.1,(fr.op p.2).part?)) with
   | none=>rw [hb] at hz;cases hz
   | some zs =>
    rw [hb] at hz
    simp only [Option.map_some,Option.some.injEq] at hz;subst hz
    obtain ⟨v,h1,h2⟩:=build_ok (P:=P) hg hti (parts_of r parts.toList) hb
    refine Does.pure r (v:=v) ?_ (nilRefs_rep fi o h2)
    unfold execOp;rw [ho]
    refine run_value ?_
    rw [← h1]
    congr 2
    apply Array.ext';simp
  ·cases h
 ·-- load
  rename_i t x ho
  split at h
  ·rename_i ti hti
   obtain ⟨e,he,rfl⟩:=okE_some h
   obtain ⟨v,h1,h2⟩:=load_ok (P:=P) hg hti r (r.op x) he
   exact Does.pure r (by unfold execOp;rw [ho];exact run_value h1) h2
  ·cases h
 ·-- store
  rename_i t ad x ho
  split at h
  ·rename_i ti hti
   split at h
   ·rename_i e fr1 st1 ht
    split at h
    ·rename_i cs hc
     split at h
     ·rename_i fr2 st2 hs
      cases h
      exact store_ok hg r ho hti ht hc hs
     ·cases h
    ·cases h
   ·cases h
  ·cases h
 ·-- nilCheck
  rename_i x ho
  have hx:=r.op x
  have hl:=r.lend x
  have key:∀ e,fr.op x=e→addrLike e→Does P d n κ w st a o (.ok e fr st):=by
   intro e he hn
   rw [he] at hx
   have hv:RepV κ w lam fr st a.tmps (a.eval x) e:=by
    cases e with
    | lp t off=>exact hx
    | val y=>exact hx
    | _=>exact hn.elim
   refine Does.pure r ?_ hv
   unfold execOp;rw [ho]
   rcases nil_cases hx hn with ⟨b,hb⟩ | ⟨f,p,q,hf⟩
   ·simp only [hb];rfl
   ·simp only [hf];rfl
  split at h
  ·rename_i s off he;cases h;exact key _ he trivial
  ·rename_i id off he;cases h;exact key _ he trivial
  ·rename_i cs he;cases h;exact key _ he trivial
  ·rename_i f p q he;cases h;exact key _ he trivial
  ·cases h
 ·-- binOp
  rename_i op t x y ty ho
  have hx:=r.op x
  have hy:=r.op y
  have exec:∀ {v w'},(do eqGuard op t x y (a.eval x) (a.eval y);binOp op t (a.eval x) (a.eval y):Sem Value).run P w=.ok v w'→(execOp a.eval o).run P w=.ok (.value v) w':=by
   intro v w' h
   unfold execOp;rw [ho];exact run_value h
  split at h
  ·rename_i p q hp hq
   split at h
   ·rename_i ks hks
    obtain ⟨z,hz,rfl⟩:=okV_some h
    obtain ⟨v,h1,h2⟩:=run_agg_v (P:=P) (hg.eq t ks hks) op (hx.v hp) (hy.v hq) hz x y
    exact Does.pure r (exec h1) (RepV.toE h2)
   ·cases h
  ·rename_i p q _ hp hq
   obtain ⟨z,hz,rfl⟩:=okV_some h
   obtain ⟨v,w',h1,h2,h3⟩:=run_bin_v (P:=P) hg t op (hx.v hp) (hy.v hq) hz x y
   rcases h2 with rfl | rfl
   ·exact Does.pure r (exec h1) (RepV.toE (h3 κ))
   ·exact Does.drew r (exec h1) (RepV.toE (h3 κ))
  ·cases h
 ·-- unOp
  rename_i op t x ho
  split at h
  ·rename_i p hp
   obtain ⟨z,hz,rfl⟩:=okV_some h
   obtain ⟨v,h1,h2⟩:=run_un_v (P:=P) op ((r.op x).v hp) hz
   exact Does.pure r (by unfold execOp;rw [ho];exact run_value h1) (RepV.toE h2)
  ·cases h
 ·-- convert
  rename_i s t x ho
  split at h
  ·rename_i p ts td hp hs ht
   obtain ⟨e,he,rfl⟩:=okE_some h
   obtain ⟨v,w',h1,h2,h3⟩:=convert_ok (P:=P) (lam:=lam) (fr:=fr) (st:=st) (a:=a) hg hs ht ((r.op x).v hp) he
   have h4:(execOp a.eval o).run P w=.ok (.value v) w':=by unfold execOp;rw [ho];exact run_value h1
   rcases h2 with rfl | rfl
   ·exact Does.pure r h4 h3
   ·exact Does.drew r h4 h3
  ·cases h
 ·-- makeInterface
  rename_i t x ho
  split at h
  ·rename_i p hp
   split at h
   ·rename_i hc
    cases h
    have hcon:=hg.con t hc
    exact Does.pure r (by unfold execOp;rw [ho];exact run_value (run_makeInterface w t _ hcon)) (Rep.iface ((r.op x).v hp))
   ·cases h
  ·cases h
 ·-- makeFunc
  rename_i f first captured ho
  split at h
  ·rename_i p q hp hq
   cases h
   have h1:=vsOf_reps (r.ops first.toList) hp
   have h2:=vsOf_reps (r.ops captured.toList) hq
   refine Does.pure r (v:=.func (.func f) (first.map a.eval) (captured.map a.eval)) ?_ (Rep.func (by simpa using h1) (by simpa using h2))
   unfold execOp;rw [ho];rfl
  ·cases h
 ·-- slice
  rename_i t x lo hi mx ho
  split at h
  ·rename_i ti hti
   split at h
   ·rename_i p l hh m hp hl hh' hm
    obtain ⟨e,he,rfl⟩:=okE_some h
    obtain ⟨v,h1,h2⟩:=slice_ok (P:=P) (lam:=lam) (fr:=fr) (st:=st) (a:=a) hg hti ((r.op x).v hp) (bound_is r hl) (bound_is r hh') (bound_is r hm) he
    exact Does.pure r (by unfold execOp;rw [ho];exact run_value h1) h2
   ·cases h
  ·cases h
 ·-- fieldAddr
  rename_i t x f ho
  split at h
  ·rename_i fs size agg zero hti
   split at h
   ·rename_i off sz ag hf
    split at h
    ·cases h
    ·rename_i hsz
     obtain ⟨e,he,rfl⟩:=okE_some h
     obtain ⟨v,h1,h2⟩:=fieldAddr_ok (P:=P) (fr:=fr) (st:=st) (a:=a) hg hti rfl (r.op x) hf hsz he
     exact Does.pure r (by unfold execOp;rw [ho];exact run_value h1) h2
   ·cases h
  ·cases h
 ·-- field
  rename_i t x f ho
  split at h
  ·rename_i fs size agg zero cs hti hp
   split at h
   ·rename_i off sz ag hf
    obtain ⟨z,hz,rfl⟩:=okV_some h
    obtain ⟨v,h1,h2⟩:=field_ok (P:=P) hg hti rfl ((r.op x).v hp) hf hz
    exact Does.pure r (by unfold execOp;rw [ho];exact run_value h1) (RepV.toE h2)
   ·cases h
  ·cases h
 ·-- indexAddr
  rename_i t x i ho
  split at h
  ·rename_i ti m hti hm
   obtain ⟨e,he,rfl⟩:=okE_some h
   obtain ⟨v,h1,h2⟩:=indexAddr_ok (P:=P) (fr:=fr) (st:=st) (a:=a) hg hti (r.op x) (int_of (r.op i) hm) he
   exact Does.pure r (by unfold execOp;rw [ho];exact run_value h1) h2
  ·cases h
 ·-- index
  rename_i t x i ho
  split at h
  ·rename_i ti p m hti hp hm
   obtain ⟨z,hz,rfl⟩:=okV_some h
   obtain ⟨v,h1,h2⟩:=index_ok (P:=P) hg hti ((r.op x).v hp) (int_of (r.op i) hm) hz
   exact Does.pure r (by unfold execOp;rw [ho];exact run_value h1) (RepV.toE h2)
  ·cases h
 ·-- extract
  rename_i x i ho
  split at h
  ·rename_i vs he
   obtain ⟨z,hz,rfl⟩:=okV_some h
   have hx:=r.op x
   rw [he] at hx
   obtain ⟨ar,hv,hr⟩:=Rep.tuple_inv hx
   obtain ⟨v,h1,h2⟩:=hr.get i z hz
   refine Does.pure r (v:=v) ?_ (RepV.toE h2)
   unfold execOp;rw [ho]
   refine run_value ?_
   rw [hv]
   have:ar[i]?=some v:=by rw [← Array.getElem?_toList];exact h1
   simp [Instr.extract,this]
  ·cases h
 ·-- panic
  rename_i x ho
  split at h
  ·rename_i t v hp
   cases h
   have hx:=(r.op x).v hp
   generalize hu:a.eval x=u at hx
   cases hx with
   | iface hv =>
    refine ⟨_,w,κ,?_,.iface hv,r.sim,.refl _ _ _,rfl⟩
    unfold execOp;rw [ho]
    simp [hu,Instr.panic]
  ·cases h
 ·-- buildSlice
  rename_i t len parts ho
  split at h
  ·rename_i esz eb ea ez size agg zero hti
   obtain ⟨e,he,rfl⟩:=okE_some h
   obtain ⟨z,hz,rfl⟩:=Option.map_eq_some_iff.1 he
   obtain ⟨v,w',κ',h1,h2,h3,h4⟩:=buildSlice_ok (P:=P) hg hti rfl r (parts_of r parts.toList) hz
   refine Does.any r (v:=v) ?_ h2 (RepV.lit fi o h3) h4
   unfold execOp;rw [ho]
   refine run_value ?_
   rw [← h1]
   congr 2
   apply Array.ext';simp
  ·cases h
 ·-- makeSlice
  rename_i t l c ho
  split at h
  ·rename_i esz eb ea ez size agg zero len cap hti hl hc
   split at h
   ·rename_i hcond
    cases h
    obtain ⟨v,w',κ',h1,h2,h3,h4⟩:=makeSlice_ok (P:=P) hg hti rfl r (int_of (r.op l) hl) (int_of (r.op c) hc) hcond
    exact Does.any r (by unfold execOp;rw [ho];exact run_value h1) h2 h3 h4
   ·cases h
  ·cases h
 ·-- a built-in function
  rename_i b args ats ho
  exact builtin_ok hg r ho h
 ·cases h
end Go.Ab
namespace Go.Ab
open Go
variable {P:Program} {d n:Nat} {κ:K} {w:World} {lam:Lam} {fr:Fr} {st:St} {a:Act} {o:Oper}
def Src (P:Program)(κ:K)(w:World)(esz m:Nat)(v:Value)(vs:List Value)(cs:List V):Prop :=
 Reps κ w vs cs∧vs.length=m*esz∧(∀ w',(Builtin.lenOf v).run P w'=.ok m w')∧∀ w',(∀ x,w'.cell? x=w.cell? x)→(Builtin.firstCells esz m v).run P w'=.ok vs.toArray w'
theorem ref_src (r:R d n κ w lam fr st a) {esz id off len cap b:Nat} {cs:List V} (hb:κ.blk id=some b)(ho:st.obj id=some cs)(hl:off+len*esz≤cs.length) :
  ∃ vs,Src P κ w esz len (.slice (some (at_ b off)) len cap) vs (((cs.drop off).take (len*esz)).map V.strip1):=by
 obtain ⟨b',hb',hc⟩:=r.sim.obj id cs ho
 rw [hb] at hb';cases hb'
 obtain ⟨vs,h1,h2,h3⟩:=row_reps hc (len*esz) off hl
 refine ⟨vs,h1,h2,fun _=>rfl,fun w' hw=>?_⟩
 refine run_firstCells_some w' esz _ _ _ _ vs h2 fun j v hv=>?_
 rw [addr_add,hw];exact h3 j v hv
theorem elemsAt_src (r:R d n κ w lam fr st a) {ea:Bool} {esz:Nat} {e:E} {v:Value} {ys:List V} (h0:0<esz)(hv:RepR κ w lam v e)(h:elemsAt ea esz st e=some ys)(hs:sizesOk esz ys=true) :
  ∃ vs,Src P κ w esz ys.length v vs (ys.flatMap V.cells):=by
 unfold elemsAt at h
 split at h
 ·rename_i fl k id off len
  split at h
  ·rename_i hl0
   subst hl0
   cases h
   obtain ⟨q,cap,rfl⟩:=Rep.sref_len hv
   refine ⟨[],.nil,by simp,fun _=>rfl,fun w' _=>?_⟩
   cases q with
   | none=>exact run_firstCells_none w' _ _ _ _
   | some q=>exact run_firstCells_some w' esz 0 q 0 cap [] (by simp) (by simp)
  split at h
  ·rename_i cs ho
   split at h
   ·rename_i hc
    obtain ⟨rfl,h2,h3,h4⟩:=hc
    cases h
    obtain ⟨b,cap,rfl,h5,_,h6,h7⟩:=Rep.sref_inv hv (.inl h0)
    obtain ⟨c1,c2,c3⟩:=chunk_ok h3 h0 len (((cs.drop off).take (len*k)).map V.strip1) (by simp;omega) (List.all_eq_true.2 fun x hx=>by
     obtain ⟨y,hy,rfl⟩:=List.mem_map.1 hx
     exact List.all_eq_true.1 h4 _ (List.mem_map_of_mem (List.mem_of_mem_drop (List.mem_of_mem_take hy))))
    obtain ⟨vs,hvs⟩:=ref_src (P:=P) r (cap:=cap) h5 ho h2
    rw [c1,c2]
    exact ⟨vs,hvs⟩
   ·cases h
  ·cases h
 ·obtain ⟨vs,h1,h2,h3⟩:=src_ok (P:=P) (lam:=lam) (tk:=some (.slice 0 0 false [])) (esz:=esz) hv h hs
  exact ⟨vs,h1,by rw [h1.length,flat_length _ esz (sizesOk_all hs)],h2,h3⟩
theorem append_fit {t xt ty:TypeId} {elem:TypeId} {i:TypeInfo} {esz m:Nat} {vx:Value} {args:Array Value} {ats:Array TypeId} {q:Option Addr} {len cap:Nat} {vs:List Value} {cs:List V}
  (ht:P.underlying t=some (.slice elem)) (hi:P.info? elem=some i) (hsz:i.size=esz)
  (ha0:args[0]?=some (.slice q len cap)) (ha1:args[1]?=some vx) (ht0:ats[0]?=some t) (ht1:ats[1]?=some xt) (hxt:∃ e,P.underlying xt=some (.slice e))
  (hs:Src P κ w esz m vx vs cs) (hfit:len+m≤cap) {w':World} (hst:match q with | some c=>((storeCells (c.add (len*esz)) vs).run P w)=.ok () w' | none=>w'=w) :
  (Builtin.append_ ats ty args).run P w=.ok (.slice q (len+m) cap) w':=by
 obtain ⟨hr,hvl,hlenOf,hfirst⟩:=hs
 obtain ⟨xe,hde⟩:=hxt
 simp only [Builtin.append_,ht0,ha0,ha1,ht1,Sem.run_bind,run_underlying ht,run_underlying hde,Result.andThen_ok,sizeOf,typeInfo,Sem.run_pure,run_program,hi,hsz,Bool.false_eq_true,if_false,hlenOf,hfit,if_true,Bool.not_false,hfirst w (fun _=>rfl)]
 cases q with
 | none=>subst hst;rfl
 | some c =>
  simp only at hst ⊢
  rw [Sem.run_bind,hst];rfl
theorem append_grow {t xt ty:TypeId} {elem:TypeId} {i:TypeInfo} {z:Value} {esz eb m:Nat} {vx:Value} {args:Array Value} {ats:Array TypeId} {q:Option Addr} {len cap:Nat} {vs olds:List Value} {cs:List V}
  (ht:P.underlying t=some (.slice elem)) (hi:P.info? elem=some i) (hz:i.zero=some z) (hsz:i.size=esz) (hb:i.bytes=eb) (hzl:z.cells.size=esz)
  (ha0:args[0]?=some (.slice q len cap)) (ha1:args[1]?=some vx) (ht0:ats[0]?=some t) (ht1:ats[1]?=some xt) (hxt:∃ e,P.underlying xt=some (.slice e))
  (hs:Src P κ w esz m vx vs cs) (hfit:¬ len+m≤cap) (hol:olds.length=len*esz)
  (hfo:∀ w',(∀ x,w'.cell? x=w.cell? x)→(Builtin.firstCells esz len (.slice q len cap)).run P w'=.ok olds.toArray w')
  (hbytes:(len+m)*eb≤2 ^ 47) (hlen:len+m≤2 ^ 47) :
  ∃ (c:Array Value) (newCap:Nat),len+m≤newCap∧c.size=newCap*esz∧(∀ (j:Nat) v,(olds ++ vs)[j]?=some v→c[j]?=some v) ∧
   (Builtin.append_ ats ty args).run P w=.ok (.slice (some (at_ w.heap.size 0)) (len+m) newCap) (w.drew.alloc (.cells c elem)):=by
 obtain ⟨hr,hvl,hlenOf,hfirst⟩:=hs
 let newCap:=grownCap w (len+m) cap elem
 have hge:len+m≤newCap:=by
  simp only [newCap,grownCap,Question.cut];exact Nat.le_add_right _ _
 let c:Array Value:=olds.toArray ++ vs.toArray ++ Builtin.zeroCells z.cells (newCap - (len+m))
 have hcs:c.size=newCap*esz:=by
  simp only [c,Array.size_append,List.size_toArray,Builtin.zeroCells,Array.size_map,Array.size_range,hol,hvl,hzl]
  rw [← Nat.add_mul,← Nat.add_mul]
  congr 1;omega
 have h63':¬ (9223372036854775807<((len:Int)+(m:Int))):=by omega
 have h48:¬ (Builtin.nextslicecap (len+m) cap*i.bytes > 2 ^ 48):=by
  have:=growslice_fits (need:=len+m) (old:=cap) (bytes:=i.bytes) (by omega) (by rw [hb];omega)
  omega
 have h48':¬ (281474976710656<Builtin.nextslicecap (len+m) cap*i.bytes):=by omega
 have hd1:=hfo w.drew (fun _=>rfl)
 have hd2:=hfirst w.drew (fun _=>rfl)
 refine ⟨c,newCap,hge,hcs,fun j v hv=>?_,?_⟩
 ·simp only [c]
  rw [← Array.getElem?_toList]
  simp only [Array.toList_append,List.toList_toArray]
  rw [List.getElem?_append_left (by have:=(List.getElem?_eq_some_iff.1 hv).1;exact this)]
  exact hv
 ·obtain ⟨xe,hde⟩:=hxt
  simp [Builtin.append_,ht0,ha0,ha1,ht1,run_underlying ht,run_underlying hde,sizeOf,typeInfo,zeroValue,hi,hz,hsz,hlenOf,hfit,h63',h48',Question.forced,hd1,hd2,newRow,newCap,grownCap,c]
  rfl
theorem newRef_ok (r:R d n κ w lam fr st a)(c:Array Value)(t:TypeId) {vs:List Value} (cs:List V)(hr:Reps κ w vs cs)(hcv:∀ (j:Nat) v,vs[j]?=some v→c[j]?=some v)
  {k len cap:Nat} (hs:c.size=cap*k) (hc:len≤cap) :
  ∃ κ',R d n κ' (w.alloc (.cells c t)) lam fr {st with objs:=st.objs ++ [cs]} a∧Rep κ' (w.alloc (.cells c t)) (.slice (some (at_ w.heap.size 0)) len cap) (.sref false k st.objs.length 0 len) ∧
   Pres (Keep d st.wp) κ w κ' (w.alloc (.cells c t)):=by
 obtain ⟨κ',h1,h2,h3⟩:=object_gen r c t cs hr hcv
 refine ⟨κ',h1,.sref h2 (fun h=>by cases h) hc (fun j hj=>?_),h3⟩
 rw [Nat.zero_add,cell_new,Array.getElem?_eq_getElem (by omega)];rfl
theorem dead_ok (r:R d n κ w lam fr st a) {id:Nat} {st':St} (h:st.set id []=some st'):R d n κ w lam (fr.map E.noMem) st' a∧st'.wp=st.wp∧st.wp≤id∧st'={st with objs:=st.objs.set id []}:=by
 have hwp:st.wp≤id:=by
  unfold St.set at h;split at h
  ·assumption
  ·cases h
 have hst:st'={st with objs:=st.objs.set id []}:=by
  unfold St.set at h;rw [if_pos hwp] at h;cases h;rfl
 have ho:∀ id' cs',st'.obj id'=some cs'→(id'=id∧cs'=[]∧∃ cs,st.obj id=some cs)∨(id'≠id∧st.obj id'=some cs'):=by
  intro id' cs' hc'
  subst hst
  simp only [St.obj,List.getElem?_set] at hc' ⊢
  split at hc'
  ·rename_i he;subst he
   split at hc'
   ·cases hc';rename_i hlt;exact .inl ⟨rfl,rfl,_,zge hlt⟩
   ·cases hc'
  ·rename_i he;exact .inr ⟨Ne.symm he,hc'⟩
 refine ⟨r.entries (.refl (fun _=>True) κ w) (fun t=>?_) (fun t cs' hc=>r.fm.loc t cs' hc) ⟨by subst hst;simpa using r.sim.wple,r.sim.good,?_,?_,?_⟩,by subst hst;rfl,hwp,hst⟩
 ·rw [get_map _ _ rfl]
  have h1':=r.fm.tmp t
  generalize hv:a.tmps.getD t undef=v at h1' ⊢
  generalize he:fr.get t=e at h1' ⊢
  cases e with
  | bor k' ys q =>
   cases q with
   | slot u=>exact ⟨h1'.1,by rw [get_map _ _ rfl,h1'.2.1];rfl,h1'.2.2⟩
   | mem id' o=>exact h1'.1
   | loc u o=>exact h1'
  | _=>exact h1'
 ·subst hst;intro id' hid;exact r.sim.fresh id' (by simpa using hid)
 ·intro id' cs' hc'
  rcases ho id' cs' hc' with ⟨rfl,rfl,cs,h1⟩ | ⟨h1,h2⟩
  ·obtain ⟨b,hb,_⟩:=r.sim.obj id' cs h1
   exact ⟨b,hb,fun j x hx=>by simp at hx⟩
  ·exact r.sim.obj id' cs' h2
 ·intro id' cs' b' hc' hne hb2
  rcases ho id' cs' hc' with ⟨_,rfl,_⟩ | ⟨h1,h2⟩
  ·exact absurd rfl hne
  ·exact r.sim.room id' cs' b' h2 hne hb2
theorem map_noMem2 (fr:Fr):(fr.map E.noMem).map E.noMem=fr.map E.noMem:=by
 have h:∀ e:E,e.noMem.noMem=e.noMem:=fun e=>by
  cases e with
  | bor k xs q=>cases q <;> rfl
  | _=>rfl
 simp only [Fr.map_def,List.map_map]
 congr 1 <;> (apply List.map_congr_left;intro x _;simp [h])
theorem shrink_ok (r:R d n κ w lam fr st a) {id m:Nat} {cs:List V} {st':St} (hcs:st.obj id=some cs)(h:st.set id []=some st')(h0:0<m)(hm:m≤cs.length) :
  R d n κ w lam (fr.map E.noMem) {st with objs:=st.objs.set id (cs.take m)} a∧({st with objs:=st.objs.set id (cs.take m)}:St).wp=st.wp∧({st with objs:=st.objs.set id (cs.take m)}:St).obj id=some (cs.take m) ∧
   ({st with objs:=st.objs.set id (cs.take m)}:St).set id []=some st':=by
 have hwp:st.wp≤id:=by
  unfold St.set at h;split at h
  ·assumption
  ·cases h
 have hst:st'={st with objs:=st.objs.set id []}:=by
  unfold St.set at h;rw [if_pos hwp] at h;cases h;rfl
 have hid:id<st.objs.length:=(List.getElem?_eq_some_iff.1 hcs).1
 have ho:∀ id' cs',({st with objs:=st.objs.set id (cs.take m)}:St).obj id'=some cs'→(id'=id∧cs'=cs.take m)∨(id'≠id∧st.obj id'=some cs'):=by
  intro id' cs' hc'
  simp only [St.obj,List.getElem?_set] at hc' ⊢
  split at hc'
  ·rename_i he;subst he
   first | (rw [if_pos hid] at hc';cases hc';exact .inl ⟨rfl,rfl⟩) | (cases hc';exact .inl ⟨rfl,rfl⟩)
  ·rename_i he;exact .inr ⟨Ne.symm he,hc'⟩
 refine ⟨r.entries (.refl (fun _=>True) κ w) (fun t=>?_) (fun t cs' hc=>r.fm.loc t cs' hc) ⟨by simpa using r.sim.wple,r.sim.good,?_,?_,?_⟩,rfl,by simp [St.obj,hid],?_⟩
 ·rw [get_map _ _ rfl]
  have h1':=r.fm.tmp t
  generalize hv:a.tmps.getD t undef=v at h1' ⊢
  generalize he:fr.get t=e at h1' ⊢
  cases e with
  | bor k' ys q =>
   cases q with
   | slot u=>exact ⟨h1'.1,by rw [get_map _ _ rfl,h1'.2.1];rfl,h1'.2.2⟩
   | mem id' o=>exact h1'.1
   | loc u o=>exact h1'
  | _=>exact h1'
 ·intro id' hid';exact r.sim.fresh id' (by simpa using hid')
 ·intro id' cs' hc'
  rcases ho id' cs' hc' with ⟨rfl,rfl⟩ | ⟨h1,h2⟩
  ·obtain ⟨b,hb,hc⟩:=r.sim.obj id' cs hcs
   refine ⟨b,hb,fun j x hx=>hc j x ?_⟩
   rw [List.getElem?_take] at hx
   split at hx
   ·exact hx
   ·cases hx
  ·exact r.sim.obj id' cs' h2
 ·intro id' cs' b' hc' hne hb2
  rcases ho id' cs' hc' with ⟨rfl,rfl⟩ | ⟨h1,h2⟩
  ·intro j hj hex
   obtain ⟨b,hb,hc⟩:=r.sim.obj id' cs hcs
   rw [hb2] at hb;cases hb
   rw [List.length_take] at hj
   rcases Nat.lt_or_ge j cs.length with hl | hl
   ·exact (hc j cs[j] (by simp)).1
   ·exact r.sim.room id' cs b' hcs (by intro e;rw [e] at hm;simp at hm;omega) hb2 j hl hex
  ·exact r.sim.room id' cs' b' h2 hne hb2
 ·unfold St.set
  rw [if_pos hwp,hst,List.set_set]
theorem grow_ok (r:R d n κ w lam fr st a) {id b:Nat} {old ys:List V} {vs:List Value} {st':St} (h1:st.obj id=some old)(h2:κ.blk id=some b)(hne:old≠[])(h3:st.set id []=some st')
  (hr:Reps κ w vs ys) (hex:∀ j,j<vs.length→(w.cell? (at_ b (old.length+j))).isSome=true) :
  ∃ κ',R d n κ' (w.setCells b old.length vs) lam (fr.map E.noMem) {st' with objs:=st'.objs ++ [old.map V.strip1 ++ ys]} a∧κ'.blk st.objs.length=some b ∧
   Pres (Keep d st.wp) κ w κ' (w.setCells b old.length vs):=by
 obtain ⟨r0,_,hwp,hst⟩:=dead_ok r h3
 obtain ⟨b',hb',hc⟩:=r.sim.obj id old h1
 rw [h2] at hb';cases hb'
 have hown:∀ j,j<vs.length→κ.own b (old.length+j)=some (.obj id):=fun j hj=>r.sim.room id old b h1 hne h2 _ (by omega) (hex j hj)
 have hcell:∀ j,j<vs.length→∃ v,w.cell? (at_ b (old.length+j))=some v:=fun j hj=>(r.sim.good _ _ _ (hown j hj)).1
 let w':=w.setCells b old.length vs
 have hid:id<st.objs.length:=(List.getElem?_eq_some_iff.1 h1).1
 have hlen:st'.objs.length=st.objs.length:=by subst hst;simp
 let κ1:=κ.re (.obj id) (.obj st.objs.length)
 let κ':K:={κ1 with blk:=fun i=>if i=st.objs.length then some b else κ.blk i}
 have p1:Pres (fun L=>L≠.obj id) κ w κ w':=by
  by_cases hv:vs=[]
  ·subst hv;exact .refl _ _ _
  ·exact pres_write _ (by simp) hv r.sim.good hown
 have p2:Pres (fun L=>L≠.obj id) κ w' κ1 w':=pres_re κ w' _ _ _ (by simp)
 have p3:Pres (fun L=>L≠.obj id) κ1 w' κ' w':={
  os:=rfl
  tape:=rfl
  out:=rfl
  size:=Nat.le_refl _
  blk:=fun i c h=>by
   simp only [κ']
   split
   ·rename_i he
    have:=r.sim.fresh i (by omega)
    rw [show κ1.blk i=κ.blk i from rfl,this] at h;cases h
   ·exact h
  imm:=fun _ _ _ h=>h
  lab:=fun _ _ _ h _=>⟨h,rfl⟩
  sz:=fun _ _ _=>rfl
  free:=fun _ _ h=>⟨rfl,h⟩}
 have p:=(p1.trans p2).trans p3
 have g:Good κ' w':=good_re (good_write r.sim.good b old.length vs hcell)
 have hobj:∀ i cs',St.obj {st' with objs:=st'.objs ++ [old.map V.strip1 ++ ys]} i=some cs' →
   (i=st.objs.length∧cs'=old.map V.strip1 ++ ys)∨(i=id∧cs'=[])∨(i≠id∧i<st.objs.length∧st.obj i=some cs'):=by
  intro i cs' h
  simp only [St.obj] at h ⊢
  rcases Nat.lt_trichotomy i st.objs.length with q | q | q
  ·rw [List.getElem?_append_left (by omega)] at h
   subst hst
   simp only [List.getElem?_set] at h
   split at h
   ·rename_i he;subst he
    cases h;exact .inr (.inl ⟨rfl,rfl⟩)
   ·rename_i he;exact .inr (.inr ⟨Ne.symm he,q,h⟩)
  ·subst q;rw [← hlen] at h;simp at h;exact .inl ⟨rfl,h.symm⟩
  ·rw [List.getElem?_eq_none (by simp;omega)] at h;cases h
 have hin:∀ (i:Nat) cs',i≠id→st.obj i=some cs'→St.obj {st' with objs:=st'.objs ++ [old.map V.strip1 ++ ys]} i=some cs':=by
  intro i cs' hi h
  have hl:i<st.objs.length:=(List.getElem?_eq_some_iff.1 h).1
  simp only [St.obj] at h ⊢
  rw [List.getElem?_append_left (by omega)]
  subst hst
  simp only [List.getElem?_set]
  rw [if_neg (Ne.symm hi)];exact h
 have hvl:=hr.length
 have hsim:Sim κ' w' {st' with objs:=st'.objs ++ [old.map V.strip1 ++ ys]}:=by
  refine ⟨by have:=r0.sim.wple;simp;omega,g,fun i hi=>?_,fun i cs' h=>?_,fun i cs' c h hn hb2=>?_⟩
  ·simp only [zla,List.length_cons,List.length_nil] at hi
   simp only [κ']
   rw [if_neg (by omega)]
   exact r.sim.fresh i (by omega)
  ·rcases hobj i cs' h with ⟨rfl,rfl⟩ | ⟨rfl,rfl⟩ | ⟨h4,h5,h6⟩
   ·refine ⟨b,by simp [κ'],fun j x hx=>?_⟩
    rcases Nat.lt_or_ge j old.length with hj | hj
    ·rw [List.getElem?_append_left (by simpa using hj),List.getElem?_map,zge hj] at hx
     simp only [Option.map_some,Option.some.injEq] at hx;subst hx
     obtain ⟨ho,v,hv,hrv⟩:=hc j old[j] (by simp)
     refine ⟨re_same ho,v,?_,RepM.of_rep (hrv.strip1.pres p)⟩
     show (w.setCells b old.length vs).cell? _=_
     rw [setCells_other _ _ _ _ _ _ (by omega)];exact hv
    ·rw [List.getElem?_append_right (by simpa using hj)] at hx
     simp only [List.length_map] at hx
     obtain ⟨v,hv,hrv⟩:=hr.get _ x hx
     have hjl:j - old.length<vs.length:=(List.getElem?_eq_some_iff.1 hv).1
     have ho:=hown _ hjl
     have hat:=setCells_at b vs old.length w hcell _ v hv
     rw [show old.length+(j - old.length)=j by omega] at ho hat
     exact ⟨re_same ho,v,hat,RepM.of_rep (hrv.pres p)⟩
   ·exact ⟨b,by simp only [κ'];rw [if_neg (by omega)];exact h2,fun j x hx=>by simp at hx⟩
   ·obtain ⟨c,hcb,cc⟩:=r.sim.obj i cs' h6
    exact ⟨c,p.blk _ _ hcb,cc.pres p (by simpa using h4) (by simp)⟩
  ·rcases hobj i cs' h with ⟨rfl,rfl⟩ | ⟨rfl,rfl⟩ | ⟨h4,h5,h6⟩
   ·intro j hj hcj
    simp only [κ',if_true,Option.some.injEq] at hb2;subst hb2
    simp only [zla,List.length_map] at hj
    refine re_same (r.sim.room id old b h1 hne h2 j (by omega) ?_)
    obtain ⟨_,v0,hv0,_⟩:=hc 0 (old[0]'(List.length_pos_iff.2 hne)) (by simp)
    rw [← p.sz b j (World.block_lt_of_cell? w _ hv0)];exact hcj
   ·exact absurd rfl hn
   ·exact Room.step r.sim p i h6 rfl hn hb2 (fun b j hl=>(p.lab b j _ hl (by simpa using h4)).1)
 refine ⟨κ',r.entries p (fun t=>?_) (fun t cs' hc'=>?_) hsim,by simp [κ'],p.mono (fun L hL e=>keep_obj d st.wp id hwp (e ▸ hL))⟩
 ·rw [get_map _ _ rfl]
  have h1':=r.fm.tmp t
  generalize hv:a.tmps.getD t undef=v at h1' ⊢
  generalize he:fr.get t=e at h1' ⊢
  cases e with
  | any=>trivial
  | val x=>exact Rep.pres p h1'
  | lp u o=>exact h1'
  | own k' ys=>exact ⟨h1'.1.pres p,h1'.2.pres p (by simp)⟩
  | bor k' ys q =>
   cases q with
   | slot u=>exact ⟨h1'.1.pres p,by rw [get_map _ _ rfl,h1'.2.1];rfl,h1'.2.2⟩
   | mem id' o=>exact h1'.1.pres p
   | loc u o =>
    obtain ⟨q1,cs',b',e1,e2,e3,e4⟩:=h1'
    exact ⟨q1.pres p,cs',b',e1,e2,e3,(r.fm.cellEq p (by simp) u cs' o _ b' e1 e2 e3).trans e4⟩
 ·obtain ⟨b',hb',c⟩:=r.fm.loc t cs' hc'
  exact ⟨b',hb',c.pres p (by simp) (by simp)⟩
theorem reps_one {vs:List Value} {xs:List V} (hr:Reps κ w vs xs)(h:xs.all V.one=true):∀ v∈vs,v.oneCell'=true:=by
 intro v hv
 obtain ⟨j,hj,rfl⟩:=List.getElem_of_mem hv
 have hj2:j<xs.length:=by rw [← hr.length];exact hj
 obtain ⟨u,hu,hru⟩:=hr.get j xs[j] (by simp)
 rw [zge hj] at hu;cases hu
 exact hru.one (List.all_eq_true.1 h _ (List.getElem_mem _))
theorem sizesOk_all1 {esz:Nat} {ys:List V} (h:sizesOk esz ys=true):(ys.flatMap V.cells).all V.one=true:=by
 exact List.all_eq_true.2 fun x hx=>sizesOk_one h x hx
theorem markAppend_ok {g:G} (hg:TyOk P g)(r:R d n κ w lam fr st a) {args:Array Operand} {ats:Array TypeId} {rs:Rs} (ho:o.op=.call {callee:=.builtin .append,args:=args,argTypes:=ats})
  (h:markAppend g fr st ats args=some rs):Does P d n κ w st a o rs:=by
 unfold markAppend at h
 split at h
 ·rename_i t s x esz' eb' ea ez' size' agg' zero' ht hs hx hxt
  split at h
  ·rename_i esz eb ea' ez size agg zero hti
   split at h
   ·rename_i ys hys
    split at h
    ·rename_i hc
     obtain ⟨h0,hsy,hezl⟩:=hc
     obtain ⟨el,i,z,hu,hi,hsz,hbz,hzz,hzr⟩:=elem_size hg hti rfl
     have hzl:z.cells.size=esz:=by have:=(hzr κ w).length;simpa [hezl] using this
     obtain ⟨xt,hxt1,hxt2⟩:∃ xt,ats[1]?=some xt∧∃ e,P.underlying xt=some (.slice e):=by
      cases hx1:ats[1]? with
      | none=>rw [hx1] at hxt;cases hxt
      | some xt =>
       rw [hx1] at hxt
       obtain ⟨e,_,_,he,_⟩:=elem_size hg (ti:=⟨.slice esz' eb' ea ez',size',agg',zero'⟩) hxt rfl
       exact ⟨xt,rfl,e,he⟩
     obtain ⟨vs,hsrc⟩:=elemsAt_src (P:=P) r h0 (r.op x) hys hsy
     have hrun:∀ {v':Value} {w':World},(Builtin.append_ ats o.type (args.map a.eval)).run P w=.ok v' w'→(execOp a.eval o).run P w=.ok (.value v') w':=by
      intro v' w' h1
      rw [builtin_run o .append args ats ho]
      simp [builtin,h1]
     split at h
     ·-- nothing there yet
      rename_i k fr1 st1 htk
      split at h
      ·rename_i hc2
       simp only [Bool.and_eq_true,beq_iff_eq,decide_eq_true_eq] at hc2
       obtain ⟨⟨rfl,c1⟩,c2⟩:=hc2
       obtain ⟨κ1,r1,v1,p1,w1⟩:=take_ok r htk
       obtain ⟨v1a,v1b⟩:=v1
       obtain ⟨q,cap,hv,_⟩:=v1a.slice_inv
       have hcap:cap=0:=by
        rw [hv] at v1b
        rcases v1b with h | ⟨h,_⟩
        ·simpa using h
        ·omega
       subst hcap
       simp only [List.length_nil] at hv
       cases h
       have hsrc1:Src P κ1 w esz ys.length (a.eval x) vs (ys.flatMap V.cells):=⟨hsrc.1.pres p1,hsrc.2⟩
       by_cases hy:ys=[]
       ·subst hy
        simp only [List.isEmpty_nil,if_true]
        have hvs:vs=[]:=List.length_eq_zero_iff.1 (by simpa using hsrc.2.1)
        subst hvs
        have:=append_fit (P:=P) (w:=w) (q:=q) (len:=0) (cap:=0) (w':=w) (ty:=o.type) (args:=args.map a.eval) (ats:=ats) hu hi hsz (by simp [hs,hv]) (by simp [hx]) ht hxt1 hxt2 hsrc (Nat.le_refl _) (by cases q <;> rfl)
        exact ⟨_,_,w,κ1,lam,hrun this,.inl rfl,r1,.sref0 _,p1,w1⟩
       ·have hyl:0<ys.length:=List.length_pos_iff.2 hy
        rw [if_neg (by simpa using hy)]
        obtain ⟨c,nc,c3,c4,c5,c6⟩:=append_grow (P:=P) (w:=w) (q:=q) (len:=0) (cap:=0) (olds:=[]) (ty:=o.type) (args:=args.map a.eval) (ats:=ats) hu hi hzz hsz hbz hzl (by simp [hs,hv]) (by simp [hx]) ht hxt1 hxt2 hsrc (by omega) (by simp)
         (fun w' hw'=>by
          cases q with
          | none=>exact run_firstCells_none w' _ _ _ _
          | some q=>exact run_firstCells_some w' esz 0 q 0 0 [] (by simp) (by simp)) (by simpa using c1) (by simpa using c2)
        simp only [Nat.zero_add,List.nil_append] at c3 c5 c6
        obtain ⟨κ2,r2,v2,p2⟩:=newRef_ok (k:=esz) (len:=ys.length) (cap:=nc) r1.drew c el (ys.flatMap V.cells) (hsrc1.1.pres (pres_drew fun _=>True)) c5 c4 c3
        exact ⟨_,_,_,κ2,lam,hrun c6,.inl rfl,r2,v2,p1.trans ((pres_drew _).trans (w1 ▸ p2)),w1⟩
      ·cases h
     ·-- nil,as one whose elements are written
      rename_i fr1 st1 htk
      split at h
      ·rename_i hc2
       simp only [Bool.and_eq_true,decide_eq_true_eq] at hc2
       obtain ⟨c1,c2⟩:=hc2
       obtain ⟨κ1,r1,v1,p1,w1⟩:=take_ok r htk
       obtain ⟨q,hv⟩:=nil_full v1
       have hsrc1:Src P κ1 w esz ys.length (a.eval x) vs (ys.flatMap V.cells):=⟨hsrc.1.pres p1,hsrc.2⟩
       cases h
       by_cases hy:ys=[]
       ·subst hy
        simp only [List.isEmpty_nil,if_true]
        have hvs:vs=[]:=List.length_eq_zero_iff.1 (by simpa using hsrc.2.1)
        subst hvs
        have:=append_fit (P:=P) (w:=w) (q:=q) (len:=0) (cap:=0) (w':=w) (ty:=o.type) (args:=args.map a.eval) (ats:=ats) hu hi hsz (by simp [hs,hv]) (by simp [hx]) ht hxt1 hxt2 hsrc (Nat.le_refl _) (by cases q <;> rfl)
        exact ⟨_,_,w,κ1,lam,hrun this,.inl rfl,r1,.sref0 _,p1,w1⟩
       ·have hyl:0<ys.length:=List.length_pos_iff.2 hy
        rw [if_neg (by simpa using hy)]
        obtain ⟨c,nc,c3,c4,c5,c6⟩:=append_grow (P:=P) (w:=w) (q:=q) (len:=0) (cap:=0) (olds:=[]) (ty:=o.type) (args:=args.map a.eval) (ats:=ats) hu hi hzz hsz hbz hzl (by simp [hs,hv]) (by simp [hx]) ht hxt1 hxt2 hsrc (by omega) (by simp)
         (fun w' hw'=>by
          cases q with
          | none=>exact run_firstCells_none w' _ _ _ _
          | some q=>exact run_firstCells_some w' esz 0 q 0 0 [] (by simp) (by simp)) (by simpa using c1) (by simpa using c2)
        simp only [Nat.zero_add,List.nil_append] at c3 c5 c6
        obtain ⟨κ2,r2,v2,p2⟩:=newRef_ok (k:=esz) (len:=ys.length) (cap:=nc) r1.drew c el (ys.flatMap V.cells) (hsrc1.1.pres (pres_drew fun _=>True)) c5 c4 c3
        exact ⟨_,_,_,κ2,lam,hrun c6,.inl rfl,r2,v2,p1.trans ((pres_drew _).trans (w1 ▸ p2)),w1⟩
      ·cases h
     ·-- full: a new row
      rename_i k id off len fr1 st1 _ htk
      split at h
      ·rename_i cs hcs
       split at h
       ·rename_i hc2
        obtain ⟨rfl,c4,c5,c6,c7⟩:=hc2
        cases h
        obtain ⟨κ1,r1,v1,p1,w1⟩:=take_ok r htk
        obtain ⟨b,cap,hv,h5,hf,h6,h7⟩:=Rep.sref_inv v1 (.inl h0)
        have hcap:cap=len:=hf rfl
        subst hcap
        have hsrc1:Src P κ1 w k ys.length (a.eval x) vs (ys.flatMap V.cells):=⟨hsrc.1.pres p1,hsrc.2⟩
        by_cases hy:ys=[]
        ·subst hy
         simp only [List.isEmpty_nil,if_true]
         have hvs:vs=[]:=List.length_eq_zero_iff.1 (by simpa using hsrc.2.1)
         subst hvs
         have:=append_fit (P:=P) (w:=w) (q:=some (at_ b off)) (len:=cap) (cap:=cap) (w':=w) (ty:=o.type) (args:=args.map a.eval) (ats:=ats) hu hi hsz (by simp [hs,hv]) (by simp [hx]) ht hxt1 hxt2 hsrc (Nat.le_refl _) rfl
         exact ⟨_,_,w,κ1,lam,hrun this,.inl rfl,r1,.sref h5 (fun _=>rfl) (Nat.le_refl _) h7,p1,w1⟩
        ·have hyl:0<ys.length:=List.length_pos_iff.2 hy
         rw [if_neg (by simpa using hy)]
         obtain ⟨olds,ho1,ho2,ho3,ho4⟩:=ref_src (P:=P) r1 (cap:=cap) (len:=cap) (esz:=k) (off:=off) h5 hcs c4
         obtain ⟨c,nc,d3,d4,d5,d6⟩:=append_grow (P:=P) (w:=w) (q:=some (at_ b off)) (len:=cap) (cap:=cap) (olds:=olds) (ty:=o.type) (args:=args.map a.eval) (ats:=ats) hu hi hzz hsz hbz hzl (by simp [hs,hv]) (by simp [hx]) ht hxt1 hxt2 hsrc (by omega) ho2 ho4 c5 c6
         obtain ⟨κ2,r2,v2,p2⟩:=newRef_ok (k:=k) (len:=cap+ys.length) (cap:=nc) r1.drew c el _ ((ho1.append hsrc1.1).pres (pres_drew fun _=>True)) d5 d4 d3
         exact ⟨_,_,_,κ2,lam,hrun d6,.inl rfl,r2,v2,p1.trans ((pres_drew _).trans (w1 ▸ p2)),w1⟩
       ·cases h
      ·cases h
     ·-- one more
      rename_i k id off len fr1 st1 htk
      have key:∀ (κ1:K) (fr1:Fr) (st1 st2:St) (cs:List V),R d n κ1 w lam fr1 st1 a→Rep κ1 w (a.eval s) (.sref false k id 0 len)→Pres (Keep d st.wp) κ w κ1 w→st1.wp=st.wp→st1.obj id=some cs→k=esz→0<len→cs.length=len*esz →
        (len+ys.length)*eb≤2 ^ 47→len+ys.length≤2 ^ 47→(cs.map V.strip1).all V.one=true→st1.set id []=some st2 →
        Does P d n κ w st a o (newRef (fr1.map E.noMem) st2 esz (len+ys.length) (cs.map V.strip1 ++ ys.flatMap V.cells)):=by
       intro κ1 fr1 st1 st2 cs r1 v1 p1 w1 hcs hkz c3 c4 c5 c6 c7 hset
       subst hkz
       obtain ⟨b,cap,hv,h5,_,h6,h7⟩:=Rep.sref_inv v1 (.inl h0)
       have hsrc1:Src P κ1 w k ys.length (a.eval x) vs (ys.flatMap V.cells):=⟨hsrc.1.pres p1,hsrc.2⟩
       have hcne:cs≠[]:=by
        intro h;rw [h] at c4
        have:=Nat.mul_pos c3 h0
        simp at c4;omega
       have hl1:st2.objs.length=st1.objs.length:=by
        unfold St.set at hset;split at hset
        ·cases hset;simp
        ·cases hset
       have hw2:st2.wp=st1.wp:=by
        unfold St.set at hset;split at hset
        ·cases hset;rfl
        ·cases hset
       by_cases hfit:len+ys.length≤cap
       ·have hmul:(len+ys.length)*k≤cap*k:=Nat.mul_le_mul_right k hfit
        rw [Nat.add_mul] at hmul
        have hex:∀ j,j<vs.length→(w.cell? (at_ b (cs.length+j))).isSome=true:=fun j hj=>by
         have hvl:=hsrc.2.1
         have:=h7 (cs.length+j) (by omega)
         rwa [Nat.zero_add] at this
        obtain ⟨κ2,r2,v2,p2⟩:=grow_ok r1 hcs h5 hcne hset hsrc1.1 hex
        have hown:∀ j,j<vs.length→κ1.own b (cs.length+j)=some (.obj id):=fun j hj=>r1.sim.room id cs b hcs hcne h5 _ (by omega) (hex j hj)
        have hrun1:=append_fit (P:=P) (w:=w) (q:=some (at_ b 0)) (len:=len) (cap:=cap) (w':=w.setCells b cs.length vs) (ty:=o.type) (args:=args.map a.eval) (ats:=ats) hu hi hsz (by simp [hs,hv]) (by simp [hx]) ht hxt1 hxt2 hsrc hfit (by
         show (storeCells ((at_ b 0).add (len*k)) vs).run P w=_
         rw [addr_add,Nat.zero_add,← c4]
         exact store_run (fun j hj=>(r1.sim.good _ _ _ (hown j hj)).1) (fun j hj=>(r1.sim.good _ _ _ (hown j hj)).2) (reps_one hsrc1.1 (sizesOk_all1 hsy)))
        refine ⟨_,_,_,κ2,lam,hrun hrun1,.inl rfl,r2,?_,p1.trans (w1 ▸ p2),hw2.trans w1⟩
        rw [hl1]
        exact .sref v2 (fun h=>by cases h) hfit (fun j hj=>p2.some (h7 j hj))
       ·obtain ⟨r0,w0,_,_⟩:=dead_ok r1 hset
        obtain ⟨olds,ho1,ho2,ho3,ho4⟩:=ref_src (P:=P) r1 (cap:=cap) (len:=len) (esz:=k) (off:=0) h5 hcs (by omega)
        have hce:(cs.drop 0).take (len*k)=cs:=by rw [List.drop_zero,← c4,List.take_length]
        rw [hce] at ho1
        obtain ⟨c,nc,d3,d4,d5,d6⟩:=append_grow (P:=P) (w:=w) (q:=some (at_ b 0)) (len:=len) (cap:=cap) (olds:=olds) (ty:=o.type) (args:=args.map a.eval) (ats:=ats) hu hi hzz hsz hbz hzl (by simp [hs,hv]) (by simp [hx]) ht hxt1 hxt2 hsrc hfit ho2 ho4 c5 c6
        obtain ⟨κ2,r2,v2,p2⟩:=newRef_ok (k:=k) (len:=len+ys.length) (cap:=nc) r0.drew c el (cs.map V.strip1 ++ ys.flatMap V.cells) ((ho1.append hsrc1.1).pres (pres_drew fun _=>True)) d5 d4 d3
        exact ⟨_,_,_,κ2,lam,hrun d6,.inl rfl,r2,v2,p1.trans ((pres_drew _).trans (w1 ▸ w0 ▸ p2)),w0.trans w1⟩
      split at h
      ·rename_i cs hcs
       split at h
       ·rename_i hc2
        obtain ⟨hkz,rfl,c3,c4,c5,c6,c7⟩:=hc2
        cases hset:st1.set id [] with
        | none=>rw [hset] at h;cases h
        | some st2 =>
         rw [hset] at h
         cases h
         obtain ⟨κ1,r1,v1,p1,w1⟩:=take_ok r htk
         exact key κ1 fr1 st1 st2 cs r1 v1 p1 w1 hcs hkz c3 c4 c5 c6 c7 hset
       ·split at h
        ·rename_i hc2
         obtain ⟨hkz,rfl,c3,c4,c5,c6,c7⟩:=hc2
         cases hset:st1.set id [] with
         | none=>rw [hset] at h;cases h
         | some st2 =>
          rw [hset] at h
          cases h
          obtain ⟨κ1,r1,v1,p1,w1⟩:=take_ok r htk
          have hpos:0<len*esz:=Nat.mul_pos c3 h0
          obtain ⟨r2,w2,h1,h2⟩:=shrink_ok r1 hcs hset hpos (Nat.le_of_lt c4)
          have:=key κ1 (fr1.map E.noMem) _ st2 _ r2 v1 p1 (w2.trans w1) h1 hkz c3 (by rw [List.length_take];omega) c5 c6 c7 h2
          rwa [map_noMem2] at this
        ·cases h
      ·cases h
     ·cases h
    ·cases h
   ·cases h
  ·cases h
 ·cases h
theorem buildSlice_run {g:G} (hg:TyOk P g) {t:Nat} {ti:TI} (hti:g.ty t=some ti) {esz eb:Nat} {ea:Bool} {ez:List V} (hk:ti.k=.slice esz eb ea ez)(r:R d n κ w lam fr st a)
  {len:Nat} {vs:List (Nat × Value)} {ps:List (Nat × Option (List V))} {z:V} (hp:Parts κ w vs ps) (h:buildSliceV esz ea ez len ps=some z) :
  ∃ xs out el,z=.osl esz xs∧(Instr.buildSlice t len vs.toArray).run P w=.ok (.slice (some (at_ w.heap.size 0)) xs.length xs.length) (w.alloc (.cells out el))∧Reps κ w out.toList (xs.flatMap V.cells)∧(∀ x∈xs,x.cells.length=esz):=by
 obtain ⟨el,i,zv,h1,hi,hsz,hbz,hzz,hzr⟩:=elem_size hg hti hk
 unfold buildSliceV at h
 split at h
 ·rename_i hc
  obtain ⟨h0,h24,hezl,hea⟩:=hc
  split at h
  ·rename_i cs hf
   split at h
   ·rename_i hone
    cases h
    have hzs:zv.cells.size=esz:=by have:=(hzr κ w).length;simpa [hezl] using this
    have hz0:Reps κ w ((Array.range (len*esz)).map (zv.cells[· % zv.cells.size]!)).toList ((List.replicate len ez).flatten):=by
     refine Reps.of_get (by simp [flatten_rep_length,hezl]) fun j v x hv hx=>?_
     have hj:j<len*esz:=by
      have:=(List.getElem?_eq_some_iff.1 hx).1;rwa [flatten_rep_length,hezl] at this
     rw [Array.getElem?_toList,zeros_get hzs h0 len j hj,← Array.getElem?_toList] at hv
     rw [rep_flat_get ez esz hezl h0 len j hj] at hx
     obtain ⟨u,hu,hru⟩:=(hzr κ w).get _ x hx
     rw [hv] at hu;cases hu;exact hru
    obtain ⟨out,h3,h4⟩:=fill_parts (place:=fun i=>some (i*esz,esz)) hp hz0 (fun i x hx=>hx) hf
    have hcl:(cs.map V.strip1).length=len*esz:=by
     have h5:∀ {q:List (Nat × Option (List V))} {xs ys:List V} {pl:Nat→Option (Nat × Nat)},fillV pl xs q=some ys→ys.length=xs.length:=by
      intro q
      induction q with
      | nil=>intro xs ys pl h;simp only [fillV,Option.some.injEq] at h;rw [h]
      | cons p q ih =>
       intro xs ys pl h
       obtain ⟨i,c⟩:=p
       cases c with
       | none=>cases h
       | some c =>
        simp only [fillV] at h
        split at h
        ·cases h
        ·split at h
         ·split at h
          ·rename_i hsp
           rw [ih h];exact (splice_get hsp).2.1
          ·cases h
         ·cases h
     rw [List.length_map,h5 hf,flatten_rep_length,hezl]
    obtain ⟨c1,c2,c3⟩:=chunk_ok hea h0 len (cs.map V.strip1) hcl hone
    have hrun:(Instr.buildSlice t len vs.toArray).run P w=.ok (.slice (some (at_ w.heap.size 0)) len len) (w.alloc (.cells out el)):=by
     have n1:¬ (16777216<len*esz):=by omega
     by_cases hz:len*esz=0
     ·rw [hz] at h3
      simp only [Array.range_zero',Array.map_empty] at h3
      simp [Instr.buildSlice,run_underlying h1,sizeOf,typeInfo,hi,hsz,hz,Array.range_zero',h3,newRow,at_]
     ·simp [Instr.buildSlice,run_underlying h1,sizeOf,typeInfo,zeroValue,hi,hsz,hzz,n1,hz,h3,newRow,at_]
    exact ⟨_,out,el,rfl,by rw [c1];exact hrun,by rw [c2];exact h4.strip1,c3⟩
   ·cases h
  ·cases h
 ·cases h
theorem makeSlice_run {g:G} (hg:TyOk P g) {t:Nat} {ti:TI} (hti:g.ty t=some ti) {esz eb:Nat} {ea:Bool} {ez:List V} (hk:ti.k=.slice esz eb ea ez)(r:R d n κ w lam fr st a)
  {u v:Value} {len cap:Int} (hu:∃ k,u=.int k len) (hv:∃ k,v=.int k cap)
  (hc:0≤len∧len≤cap∧cap*eb≤2 ^ 47∧cap≤2 ^ 47∧0<esz∧ez.length=esz∧(ea || esz == 1)=true∧(ez.map V.strip1).all V.one=true) :
  ∃ vs c el,(Instr.makeSlice t u v).run P w=.ok (.slice (some (at_ w.heap.size 0)) len.toNat cap.toNat) (w.alloc (.cells c el))∧Reps κ w vs ((List.replicate len.toNat (elemV ea (ez.map V.strip1))).flatMap V.cells)∧(∀ (j:Nat) v,vs[j]?=some v→c[j]?=some v)∧c.size=cap.toNat*esz:=by
 obtain ⟨h0,h1,h2,h3,h4,h5,h6,h7⟩:=hc
 obtain ⟨el,i,zv,hu1,hi,hsz,hbz,hzz,hzr⟩:=elem_size hg hti hk
 obtain ⟨ku,rfl⟩:=hu
 obtain ⟨kv,rfl⟩:=hv
 have hzs:zv.cells.size=esz:=by have:=(hzr κ w).length;simpa [h5] using this
 have hrun:=run_make (P:=P) w t el i zv hu1 hi hzz ku kv len cap h0 h1 (by rw [hbz,Int.mul_comm];omega) (by omega)
 rw [hsz] at hrun
 have hc1:(elemV ea (ez.map V.strip1)).cells=ez.map V.strip1:=by
  cases ea with
  | true=>rfl
  | false =>
   simp at h6;subst h6
   cases ez with
   | nil=>simp at h5
   | cons c cs =>
    have:cs=[]:=by simpa using h5
    subst this
    simp only [List.map_cons,List.map_nil,elemV,Bool.false_eq_true,if_false,List.headD_cons]
    exact one_cells (List.all_eq_true.1 h7 _ (by simp))
 have hxs:∀ x∈List.replicate len.toNat (elemV ea (ez.map V.strip1)),x.cells.length=esz:=by
  intro x hx;rw [List.eq_of_mem_replicate hx,hc1];simpa using h5
 have hfl:∀ m:Nat,(List.replicate m (elemV ea (ez.map V.strip1))).flatMap V.cells=(List.replicate m (ez.map V.strip1)).flatten:=by
  intro m
  induction m with
  | zero=>rfl
  | succ m ih=>rw [List.replicate_succ,List.flatMap_cons,ih,hc1,List.replicate_succ,List.flatten_cons]
 let vs:List Value:=(List.replicate len.toNat zv.cells.toList).flatten
 have hvr:Reps κ w vs ((List.replicate len.toNat (elemV ea (ez.map V.strip1))).flatMap V.cells):=by
  rw [hfl]
  have:∀ m:Nat,Reps κ w ((List.replicate m zv.cells.toList).flatten) ((List.replicate m (ez.map V.strip1)).flatten):=by
   intro m
   induction m with
   | zero=>exact .nil
   | succ m ih=>rw [List.replicate_succ,List.replicate_succ,List.flatten_cons,List.flatten_cons];exact (hzr κ w).strip1.append ih
  exact this _
 have hcs:∀ (j:Nat) v,vs[j]?=some v→(madeCells zv.cells (cap.toNat*esz))[j]?=some v:=by
  intro j v hv
  have hj:j<len.toNat*esz:=by
   have:=(List.getElem?_eq_some_iff.1 hv).1
   rw [flatten_rep_length] at this
   simpa [hzs] using this
  have hj2:len.toNat*esz≤cap.toNat*esz:=Nat.mul_le_mul_right _ (by omega)
  rw [rep_flat_get _ esz (by simpa using hzs) h4 _ j hj] at hv
  unfold madeCells
  rw [zeros_get hzs h4 cap.toNat j (by omega),← Array.getElem?_toList];exact hv
 exact ⟨vs,_,el,hrun,hvr,hcs,size_madeCells _ _⟩
theorem markTail_ok {g:G} (hg:TyOk P g)(r:R d n κ w lam fr st a) {t:TypeId} {x lo:Operand} {rs:Rs} (ho:o.op=.slice t x (some lo) none none)(h:markTail g fr st t x lo=some rs):Does P d n κ w st a o rs:=by
 unfold markTail at h
 split at h
 ·rename_i esz eb ea ez size agg zero m hti hlo
  have hb:BoundIs (some (a.eval lo)) (some m):=int_of (r.op lo) hlo
  split at h
  ·rename_i k xs fr1 st1 htk
   split at h
   ·rename_i hc
    obtain ⟨c1,c2,c3,c4⟩:=hc
    cases h
    obtain ⟨κ1,r1,v1,p1,q1⟩:=take_ok r htk
    obtain ⟨hu,hsp⟩:=v1
    obtain ⟨el,i,z,h1,hi',hsz,_⟩:=elem_size hg hti rfl
    generalize hv:a.eval x=u at hu hsp
    obtain ⟨p,cap,rfl,hcap⟩:=hu.slice_inv
    have e1:clip (none:Option Int) xs.length xs.length=some xs.length:=rfl
    have e2:clip (some m) 0 xs.length=some m.toNat:=by unfold clip;simp [c1,c2]
    obtain ⟨hb',hb1,hb2⟩:=bounds_run (P:=P) (w:=w) (isS:=true) hb (show BoundIs (none:Option Value) none from trivial) e1 e2 hcap
    have hrun:(Instr.sliceAt t (.slice p xs.length cap) (some (a.eval lo)) none none).run P w=.ok (.slice (if cap=m.toNat then p else p.map (·.add (m.toNat*esz))) (xs.length - m.toNat) (cap - m.toNat)) w:=by
     simp [Instr.sliceAt,Instr.slice,run_underlying h1,hb',sizeOf,typeInfo,hi',hsz]
    have hx:(execOp a.eval o).run P w=.ok (.value (.slice (if cap=m.toNat then p else p.map (·.add (m.toNat*esz))) (xs.length - m.toNat) (cap - m.toNat))) w:=by
     unfold execOp
     rw [ho]
     refine run_value ?_
     rw [← hrun,← hv]
     rfl
    refine ⟨_,_,w,κ1,lam,hx,.inl rfl,r1,⟨?_,?_⟩,p1,q1⟩
    ·split
     ·rename_i hcl
      have hz:xs.drop m.toNat=[]:=by apply List.drop_of_length_le;omega
      have:xs.length - m.toNat=0:=by omega
      rw [hz,this];exact .slice0 _ _
     ·have:=Rep.piece hu (Nat.le_refl _) hb2 (cap':=cap - m.toNat) (by omega) esz (sizesOk_all c3)
      rwa [List.take_length] at this
    ·rcases hsp with hsp | ⟨s1,s2,b,o',s3,s4⟩
     ·exact .inl (by omega)
     ·rcases c4 with rfl | rfl
      ·subst s3
       by_cases hcl:cap=m.toNat
       ·exact .inl (by omega)
       ·rw [if_neg hcl]
        refine .inr ⟨s1,by omega,b,o'+m.toNat*k,by simp only [Option.map_some,addr_add],fun j j1 j2=>s4 j ?_ ?_⟩
        ·have:(xs.length - m.toNat)*k=xs.length*k - m.toNat*k:=Nat.sub_mul _ _ _
         have:m.toNat*k≤xs.length*k:=Nat.mul_le_mul_right k (by omega)
         omega
        ·have:(cap - m.toNat)*k=cap*k - m.toNat*k:=Nat.sub_mul _ _ _
         have:m.toNat*k≤cap*k:=Nat.mul_le_mul_right k (by omega)
         omega
      ·omega
   ·cases h
  ·rename_i xs fr1 st1 htk
   split at h
   ·rename_i hc
    obtain ⟨c1,c2,c3⟩:=hc
    cases h
    obtain ⟨κ1,r1,v1,p1,q1⟩:=take_ok r htk
    have hu:Rep κ1 w (a.eval x) (.slice xs):=v1
    obtain ⟨el,i,z,h1,hi',hsz,_⟩:=elem_size hg hti rfl
    generalize hv:a.eval x=u at hu
    obtain ⟨p,cap,rfl,hcap⟩:=hu.slice_inv
    have e1:clip (none:Option Int) xs.length xs.length=some xs.length:=rfl
    have e2:clip (some m) 0 xs.length=some m.toNat:=by unfold clip;simp [c1,c2]
    obtain ⟨hb',hb1,hb2⟩:=bounds_run (P:=P) (w:=w) (isS:=true) hb (show BoundIs (none:Option Value) none from trivial) e1 e2 hcap
    have hrun:(Instr.sliceAt t (.slice p xs.length cap) (some (a.eval lo)) none none).run P w=.ok (.slice (if cap=m.toNat then p else p.map (·.add (m.toNat*esz))) (xs.length - m.toNat) (cap - m.toNat)) w:=by
     simp [Instr.sliceAt,Instr.slice,run_underlying h1,hb',sizeOf,typeInfo,hi',hsz]
    have hx:(execOp a.eval o).run P w=.ok (.value (.slice (if cap=m.toNat then p else p.map (·.add (m.toNat*esz))) (xs.length - m.toNat) (cap - m.toNat))) w:=by
     unfold execOp
     rw [ho]
     refine run_value ?_
     rw [← hrun,← hv]
     rfl
    refine ⟨_,_,w,κ1,lam,hx,.inl rfl,r1,?_,p1,q1⟩
    show Rep _ _ _ _
    split
    ·rename_i hcl
     have hz:xs.drop m.toNat=[]:=by apply List.drop_of_length_le;omega
     have:xs.length - m.toNat=0:=by omega
     rw [hz,this];exact .slice0 _ _
    ·have:=Rep.piece hu (Nat.le_refl _) hb2 (cap':=cap - m.toNat) (by omega) esz (sizesOk_all c3)
     rwa [List.take_length] at this
   ·cases h
  ·cases h
 ·cases h
theorem markStep_ok {g:G} (hg:TyOk P g)(r:R d n κ w lam fr st a) {rs:Rs} (h:markStep g fr st o=some rs):Does P d n κ w st a o rs:=by
 unfold markStep at h
 split at h
 ·rename_i t x lo ho
  exact markTail_ok hg r ho h
 ·rename_i args ats ho
  exact markAppend_ok hg r ho h
 ·rename_i t len parts ho
  split at h
  ·rename_i esz eb ea ez size agg zero hti
   split at h
   ·rename_i k' xs hb
    cases h
    obtain ⟨xs',out,el,h0,h1,h2,h3⟩:=buildSlice_run (P:=P) hg hti rfl r (parts_of r parts.toList) hb
    cases h0
    have hrun:(execOp a.eval o).run P w=.ok (.value (.slice (some (at_ w.heap.size 0)) xs.length xs.length)) (w.alloc (.cells out el)):=by
     unfold execOp;rw [ho]
     refine run_value ?_
     rw [← h1]
     congr 2
     apply Array.ext';simp
    have hsz:out.size=xs.length*esz:=by
     have:=h2.length
     rw [flat_length _ esz h3] at this
     simpa using this
    by_cases hx:xs=[]
    ·subst hx
     simp only [List.isEmpty_nil,if_true]
     refine ⟨_,_,_,κ.new w.heap.size (fun _=>none),lam,hrun,.inl rfl,r.new out el (fun o L h=>by cases h),⟨.slice0 _ _,.inl rfl⟩,pres_new _ r.sim.good _ _,rfl⟩
    ·rw [if_neg (by simpa using hx)]
     obtain ⟨κ',r',v',p'⟩:=newRef_ok (k:=esz) (len:=xs.length) (cap:=xs.length) r out el (xs.flatMap V.cells) h2 (fun j v hv=>by rw [← Array.getElem?_toList];exact hv) hsz (Nat.le_refl _)
     exact ⟨_,_,_,κ',lam,hrun,.inl rfl,r',v',p',rfl⟩
   ·cases h
  ·cases h
 ·rename_i t l c ho
  split at h
  ·rename_i esz eb ea ez size agg zero len cap hti hl hc
   split at h
   ·rename_i hcond
    cases h
    obtain ⟨vs,c',el,h1,h2,h3,h4⟩:=makeSlice_run (P:=P) hg hti rfl r (int_of (r.op l) hl) (int_of (r.op c) hc) hcond
    obtain ⟨κ',r',v',p'⟩:=newRef_ok (k:=esz) (len:=len.toNat) (cap:=cap.toNat) r c' el _ h2 h3 h4 (by omega)
    exact ⟨_,_,_,κ',lam,by unfold execOp;rw [ho];exact run_value h1,.inl rfl,r',v',p',rfl⟩
   ·cases h
  ·cases h
 ·cases h
end Go.Ab
namespace Go.Ab
open Go
variable {P:Program} {d n:Nat} {κ:K} {w:World} {lam:Lam} {fr:Fr} {st:St} {a:Act} {o:Oper}
def OutOk (d:Nat)(κ:K)(w:World)(e:Ending):Out→Prop
 | .ret v none=>∃ u,e=.returned u∧Rep κ w u v
 | .ret v (some k)=>∃ u s,e=.returned u∧Rep κ w u v∧Spare κ (.tmp d s) k u
 | .pan v=>∃ u,e=.panicked [{v:=u,recovered:=false}]∧Rep κ w u v
def CallOk (P:Program)(call:Calling):Prop :=
 ∀ f args st out st',call f args st=some (out,st')→∀ d κ w (vs:Array Value),Sim κ w st→Reps κ w vs.toList args →
  Calls P f vs w fun e w'=>∃ κ',OutOk d κ' w' e out∧Sim κ' w' st'∧Pres (Keep d st.wp) κ w κ' w'∧st'.wp=st.wp
structure GOk (P:Program) (g:G):Prop where
 ty:TyOk P g
 fn : ∀ f fi, g.fn f = some fi → ∃ fn, P.funcs[f]? = some fn ∧ fn.body = some fi.body ∧ fn.ntmps = fi.ntmps ∧ fn.results.toList = fi.results ∧ (fn.name == "runtime.NumGoroutine") = false
 bits:∀ f,g.ext f=some .floatBits→∀ b w,(callFunc f #[.float .f64 b]).run P w=.ok (.value (.int .u64 b)) w
 ofBits:∀ f,g.ext f=some .floatOf→∀ m w,(callFunc f #[.int .u64 m]).run P w=.ok (.value (.float .f64 m.toNat)) w
 trunc:∀ f,g.ext f=some .trunc→∀ b v w,truncV b=some v→(callFunc f #[.float .f64 b]).run P w=.ok (.value (.float .f64 v)) w
 mixed:P.follows .mixedOrders=true
theorem Sim.pres' {S:Ow→Prop} {κ':K} {w':World} (h:Pres S κ w κ' w')(g:Good κ' w')(f:∀ id,st.objs.length≤id→κ'.blk id=none)
  (h1:∀ id,id<st.objs.length→S (.obj id)) (h2:∀ id off,id<st.objs.length→S (.mem id off)) (s:Sim κ w st):Sim κ' w' st where
 wple:=s.wple
 good:=g
 fresh:=f
 obj:=fun id cs hc=>by
  obtain ⟨b,hb,c⟩:=s.obj id cs hc
  have hid:id<st.objs.length:=(List.getElem?_eq_some_iff.1 hc).1
  exact ⟨b,h.blk _ _ hb,c.pres h (h1 id hid) (fun j=>h2 id j hid)⟩
 room:=Room.pres s h h1
theorem R.pres' {S:Ow→Prop} {κ':K} {w':World} (h:Pres S κ w κ' w')(hS:∀ L,Mine d L→(∀ id,L=.obj id→id<st.objs.length)→(∀ id off,L=.mem id off→id<st.objs.length)→S L)
  (g:Good κ' w') (f:∀ id,st.objs.length≤id→κ'.blk id=none) (r:R d n κ w lam fr st a):R d n κ' w' lam fr st a where
 sim:=r.sim.pres' h g f (fun id hid=>hS _ trivial (fun i e=>by cases e;exact hid) (by simp)) (fun id off hid=>hS _ trivial (by simp) (fun i o e=>by cases e;exact hid))
 fm:={
  defers:=r.fm.defers
  size:=r.fm.size
  tmp:=fun s=>(r.fm.tmp s).pres h (hS _ rfl (by simp) (by simp))
   (fun id cs off x b e1 e2 e3=>by
    obtain ⟨b',hb,c⟩:=r.sim.obj id cs e1
    rw [e3] at hb;cases hb
    have hid:id<st.objs.length:=(List.getElem?_eq_some_iff.1 e1).1
    exact (h.lab _ _ _ (c off x e2).1 (hS _ trivial (fun i e=>by cases e;exact hid) (by simp))).2)
   (r.fm.cellEq h fun s=>hS _ rfl (by simp) (by simp))
  loc:=fun s cs hc=>let ⟨b,hb,c⟩:=r.fm.loc s cs hc;⟨b,hb,c.pres h (hS _ rfl (by simp) (by simp)) (fun _=>hS _ rfl (by simp) (by simp))⟩}
mutual
theorem Rep.flat {κ κ':K} {w:World} (ho:∀ b o,κ.own b o=none→κ'.own b o=none) {v:Value} {x:V}:Rep κ w v x→x.flat=true→Rep κ' w v x
 | .any v,_=>.any v
 | .bool b,_=>.bool b
 | .int k n,_=>.int k n
 | .float k b,_=>.float k b
 | .str s,_=>.str s
 | .nilp,_=>.nilp
 | .ptr h,hf=>by simp [V.flat] at hf
 | .ep h,hf=>.ep (RepAt.flat ho h (by simpa [V.flat] using hf))
 | .slice0 a c,_=>.slice0 a c
 | .slice (xs:=xs) hc hk h,hf=>.slice hc hk (RepAt.flat ho h (flats_flat (by simpa [V.flat] using hf)))
 | .osl h,hf=>.osl (Rep.flat ho h (by simpa [V.flat] using hf))
 | .func h1 h2,hf=>by simp [V.flat] at hf
 | .nilf,_=>.nilf
 | .iface h,hf=>.iface (Rep.flat ho h (by simpa [V.flat] using hf))
 | .nili,_=>.nili
 | .agg h,hf=>.agg (Reps.flat ho h (by simpa [V.flat] using hf))
 | .tuple h,hf=>.tuple (Reps.flat ho h (by simpa [V.flat] using hf))
theorem Reps.flat {κ κ':K} {w:World} (ho:∀ b o,κ.own b o=none→κ'.own b o=none) {vs:List Value} {xs:List V}:Reps κ w vs xs→flats xs=true→Reps κ' w vs xs
 | .nil,_=>.nil
 | .cons h r,hf=>by
  simp only [flats,Bool.and_eq_true] at hf
  exact .cons (Rep.flat ho h hf.1) (Reps.flat ho r hf.2)
theorem RepAt.flat {κ κ':K} {w:World} (ho:∀ b o,κ.own b o=none→κ'.own b o=none) {b o:Nat} {xs:List V}:RepAt κ w b o xs→flats xs=true→RepAt κ' w b o xs
 | .nil,_=>.nil
 | .cons hi h r,hf=>by
  simp only [flats,Bool.and_eq_true] at hf
  exact .cons ⟨hi.1,ho _ _ hi.2⟩ (Rep.flat ho h hf.1) (RepAt.flat ho r hf.2)
theorem flats_flat:{xs:List V}→flats xs=true→flats (xs.flatMap V.cells)=true
 | [],_=>rfl
 | x :: xs,h=>by
  simp only [flats,Bool.and_eq_true] at h
  rw [List.flatMap_cons]
  have hx:flats x.cells=true:=by
   cases x <;> first | (simpa [V.cells,flats,V.flat] using h.1) | (simp only [V.cells,flats,h.1,Bool.and_self])
  have hr:=flats_flat h.2
  generalize x.cells=c at hx
  induction c with
  | nil=>exact hr
  | cons y c ih =>
   simp only [flats,Bool.and_eq_true] at hx
   simp only [List.cons_append,flats,hx.1,ih hx.2,Bool.and_self]
end
end Go.Ab
namespace Go.Ab
open Go
variable {κ:K} {w:World} {st:St}
def K.drop (κ:K)(p:Ow):K:={κ with own:=fun b o=>if κ.own b o=some p then none else κ.own b o}
theorem drop_other {p L:Ow} {b o:Nat} (h:κ.own b o=some L)(hL:L≠p):(κ.drop p).own b o=some L:=by
 simp only [K.drop];rw [if_neg (by rw [h];simpa using hL)];exact h
theorem drop_same {p:Ow} {b o:Nat} (h:κ.own b o=some p):(κ.drop p).own b o=none:=by
 simp only [K.drop];rw [if_pos h]
theorem drop_none {p:Ow} {b o:Nat} (h:κ.own b o=none):(κ.drop p).own b o=none:=by
 simp only [K.drop];split
 ·rfl
 ·exact h
theorem pres_drop (κ:K)(w:World)(p:Ow):Pres (fun L=>L≠p) κ w (κ.drop p) w where
 os:=rfl
 tape:=rfl
 out:=rfl
 size:=Nat.le_refl _
 blk:=fun _ _ h=>h
 imm:=fun _ _ _ h=>⟨h.1,drop_none h.2⟩
 lab:=fun _ _ _ h hs=>⟨drop_other h hs,rfl⟩
 sz:=fun _ _ _=>rfl
 free:=fun _ _ h=>⟨rfl,fun o=>drop_none (h o)⟩
theorem good_drop {p:Ow} (h:Good κ w):Good (κ.drop p) w:=by
 intro b j L hL
 simp only [K.drop] at hL
 split at hL
 ·cases hL
 ·exact h b j L hL
theorem kill_ok (s:Sim κ w st) {id:Nat} {st':St} (h:st.set id []=some st') :
  Sim (κ.drop (.obj id)) w st'∧st'.wp=st.wp∧st.wp≤id∧st'.objs.length=st.objs.length:=by
 have hwp:st.wp≤id:=by
  unfold St.set at h;split at h
  ·assumption
  ·cases h
 have hst:st'={st with objs:=st.objs.set id []}:=by
  unfold St.set at h;rw [if_pos hwp] at h;cases h;rfl
 have ho:∀ id' cs',st'.obj id'=some cs'→(id'=id∧cs'=[]∧∃ cs,st.obj id=some cs)∨(id'≠id∧st.obj id'=some cs'):=by
  intro id' cs' hc'
  subst hst
  simp only [St.obj,List.getElem?_set] at hc' ⊢
  split at hc'
  ·rename_i he;subst he
   split at hc'
   ·cases hc';rename_i hlt;exact .inl ⟨rfl,rfl,_,zge hlt⟩
   ·cases hc'
  ·rename_i he;exact .inr ⟨Ne.symm he,hc'⟩
 refine ⟨⟨by subst hst;simpa using s.wple,good_drop s.good,?_,?_,?_⟩,by subst hst;rfl,hwp,by subst hst;simp⟩
 ·subst hst;intro id' hid;exact s.fresh id' (by simpa using hid)
 ·intro id' cs' hc'
  rcases ho id' cs' hc' with ⟨rfl,rfl,cs,h1⟩ | ⟨h1,h2⟩
  ·obtain ⟨b,hb,_⟩:=s.obj id' cs h1
   exact ⟨b,hb,fun j x hx=>by simp at hx⟩
  ·obtain ⟨b,hb,c⟩:=s.obj id' cs' h2
   exact ⟨b,hb,c.pres (pres_drop κ w (.obj id)) (by simpa using h1) (fun j=>by simp)⟩
 ·intro id' cs' b' hc' hne hb2 j hj hcl
  rcases ho id' cs' hc' with ⟨_,rfl,_⟩ | ⟨h1,h2⟩
  ·exact absurd rfl hne
  ·exact drop_other (s.room id' cs' b' h2 hne hb2 j hj hcl) (by simpa using h1)
def Old (wp:Nat)(L:Ow):Prop:=∀ id,L=.obj id→id<wp
theorem old_keep {d wp:Nat} {L:Ow} (h:Keep d wp L):Old wp L:=by
 intro id e
 subst e
 rcases h with h | ⟨id',e,h⟩ | ⟨id',off,e,_⟩
 ·exact h.elim
 ·cases e;exact h
 ·cases e
structure Frz (κ:K) (w:World) (st:St) (κ':K) (st':St):Prop where
 sim:Sim κ' w st'
 pres:Pres (Old st.wp) κ w κ' w
 wp:st'.wp=st.wp
theorem Frz.refl (s:Sim κ w st):Frz κ w st κ st:=⟨s,.refl _ _ _,rfl⟩
theorem Frz.trans {κ1 κ2:K} {st1 st2:St} (h:Frz κ w st κ1 st1)(k:Frz κ1 w st1 κ2 st2):Frz κ w st κ2 st2 :=
 ⟨k.sim,h.pres.trans (h.wp ▸ k.pres),k.wp.trans h.wp⟩
def FrzOk (f:St→V→Option (V × St)):Prop:=∀ (κ:K) (w:World) (st:St) (v:Value) (x x':V) (st':St),Sim κ w st→Rep κ w v x→f st x=some (x',st')→∃ κ',Frz κ w st κ' st'∧Rep κ' w v x'
theorem frzL_reps {f:St→V→Option (V × St)} (hf:FrzOk f):∀ {xs:List V} {κ:K} {st:St} {vs:List Value} {ys:List V} {st':St},Sim κ w st→Reps κ w vs xs→frzL f st xs=some (ys,st')→∃ κ',Frz κ w st κ' st'∧Reps κ' w vs ys
 | [],κ,st,_,_,_,s,h,e=>by cases h;cases e;exact ⟨κ,.refl s,.nil⟩
 | x :: r,κ,st,_,_,_,s,h,e=>by
  cases h with
  | cons h1 h2 =>
   unfold frzL at e
   split at e
   ·rename_i x1 st1 e1
    split at e
    ·rename_i r2 st2 e2
     cases e
     obtain ⟨κ1,z1,q1⟩:=hf _ _ _ _ _ _ _ s h1 e1
     obtain ⟨κ2,z2,q2⟩:=frzL_reps hf z1.sim (h2.pres z1.pres) e2
     exact ⟨κ2,z1.trans z2,.cons (q1.pres z2.pres) q2⟩
    ·cases e
   ·cases e
theorem frzL_at {f:St→V→Option (V × St)} (hf:FrzOk f) {b:Nat}:∀ {xs:List V} {κ:K} {st:St} {o:Nat} {ys:List V} {st':St},Sim κ w st→RepAt κ w b o xs→frzL f st xs=some (ys,st')→∃ κ',Frz κ w st κ' st'∧RepAt κ' w b o ys
 | [],κ,st,_,_,_,s,h,e=>by cases e;exact ⟨κ,.refl s,.nil⟩
 | x :: r,κ,st,_,_,_,s,h,e=>by
  cases h with
  | cons hi h1 h2 =>
   unfold frzL at e
   split at e
   ·rename_i x1 st1 e1
    split at e
    ·rename_i r2 st2 e2
     cases e
     obtain ⟨κ1,z1,q1⟩:=hf _ _ _ _ _ _ _ s h1 e1
     obtain ⟨κ2,z2,q2⟩:=frzL_at hf z1.sim (h2.pres z1.pres) e2
     exact ⟨κ2,z1.trans z2,.cons ((z1.trans z2).pres.imm _ _ _ hi) (q1.pres z2.pres) q2⟩
    ·cases e
   ·cases e
theorem rep_strip {p:Ow} {v:Value} {x:V} (h:RepM κ w p v x):Rep κ w v x.strip1:=by
 cases x with
 | osl k xs=>exact h.1
 | _=>exact h
theorem at_of {b:Nat}:∀ {cs:List V} {o:Nat},(∀ (j:Nat) x,cs[j]?=some x→κ.own b (o+j)=none∧∃ v,w.cell? (at_ b (o+j))=some v∧Rep κ w v x)→RepAt κ w b o cs
 | [],_,_=>.nil
 | x :: r,o,h=>by
  obtain ⟨h1,v,h2,h3⟩:=h 0 x rfl
  exact .cons ⟨h2,h1⟩ h3 (at_of fun j y hy=>by have:=h (j+1) y (by simpa using hy);rw [show o+1+j=o+(j+1) by omega];exact this)
theorem big {k:Nat} (h:0<k):((Nat.blt 1 k) || k == 1)=true:=by
 by_cases h1:k=1
 ·simp [h1]
 ·have:Nat.blt 1 k=true:=by rw [Nat.blt_eq];omega
  rw [this];rfl
theorem frz_ok:∀ n,FrzOk (frz n)
 | 0=>by
  intro κ w st v x x' st' s h e
  simp only [frz,Option.some.injEq,Prod.mk.injEq] at e
  obtain ⟨rfl,rfl⟩:=e
  exact ⟨κ,.refl s,h⟩
 | n+1=>by
  intro κ w st v x x' st' s h e
  have ih:FrzOk (frz n):=frz_ok n
  unfold frz at e
  split at e
  ·rename_i f k id off len
   split at e
   ·rename_i hl
    cases e
    obtain ⟨b,cap,rfl⟩:=Rep.sref_len h
    exact ⟨κ,.refl s,by subst hl;exact .slice0 _ _⟩
   ·rename_i hl
    obtain ⟨b,cap,rfl,hb,_,hc,_⟩:=Rep.sref_inv h (by omega)
    split at e
    ·rename_i cs ho
     split at e
     ·rename_i hk
      split at e
      ·rename_i st1 hs
       split at e
       ·rename_i xs st2 hf
        split at e
        ·rename_i hx
         cases e
         obtain ⟨s1,w1,wle,_⟩:=kill_ok s hs
         obtain ⟨b',hb',hcs⟩:=s.obj id cs ho
         rw [hb] at hb';cases hb'
         have pd:=pres_drop κ w (.obj id)
         have hat:RepAt (κ.drop (.obj id)) w b off (((cs.drop off).take (len*k)).map V.strip1):=by
          refine at_of fun j x hj=>?_
          rw [List.getElem?_map] at hj
          cases hj':((cs.drop off).take (len*k))[j]? with
          | none=>rw [hj'] at hj;cases hj
          | some y =>
           rw [hj'] at hj;cases hj
           rw [List.getElem?_take] at hj'
           split at hj'
           ·rw [List.getElem?_drop] at hj'
            obtain ⟨o1,u,o2,o3⟩:=hcs _ _ hj'
            exact ⟨drop_same o1,u,o2,(rep_strip o3).pres pd⟩
           ·cases hj'
         obtain ⟨κ2,z2,q2⟩:=frzL_at ih s1 hat hf
         have z1:Frz κ w st (κ.drop (.obj id)) st1:=⟨s1,pd.mono (fun L hL e=>by have:=hL id e;omega),w1⟩
         obtain ⟨c1,c2,c3⟩:=chunk_ok (big hk.1) hk.1 len xs hx.1 hx.2
         refine ⟨κ2,z1.trans z2,?_⟩
         have:=Rep.slice (κ:=κ2) (w:=w) (b:=b) (o:=off) (cap:=cap) (k:=k) (xs:=chunk (Nat.blt 1 k) k len xs) (by rw [c1];exact hc) c3 (by rw [c2];exact q2)
         rw [c1] at this;exact this
        ·cases e
       ·cases e
      ·cases e
     ·cases e
    ·cases e
  ·rename_i cs
   split at e
   ·rename_i xs st1 hf
    cases e
    obtain ⟨ar,rfl,hr⟩:=Rep.agg_inv h
    obtain ⟨κ1,z1,q1⟩:=frzL_reps ih s hr hf
    exact ⟨κ1,z1,.agg q1⟩
   ·cases e
  ·rename_i cs
   split at e
   ·rename_i xs st1 hf
    cases e
    cases h with
    | tuple hr =>
     obtain ⟨κ1,z1,q1⟩:=frzL_reps ih s hr hf
     exact ⟨κ1,z1,.tuple q1⟩
   ·cases e
  ·cases e;exact ⟨κ,.refl s,h⟩
  ·rename_i x0 r
   split at e
   ·cases e;exact ⟨κ,.refl s,h⟩
   ·split at e
    ·rename_i hk
     split at e
     ·rename_i xs st1 hf
      split at e
      ·rename_i hx
       cases e
       cases h with
       | slice hc hk2 hr =>
        obtain ⟨κ1,z1,q1⟩:=frzL_at ih s hr hf
        obtain ⟨c1,c2,c3⟩:=chunk_ok (big hk.1) hk.1 (r.length+1) xs hx.1 hx.2
        refine ⟨κ1,z1,?_⟩
        have:=Rep.slice (κ:=κ1) (w:=w) (xs:=chunk (Nat.blt 1 x0.cells.length) x0.cells.length (r.length+1) xs) (by rw [c1];exact hc) c3 (by rw [c2];exact q1)
        rw [c1] at this;exact this
      ·cases e
     ·cases e
    ·cases e
  ·cases e;exact ⟨κ,.refl s,h⟩
end Go.Ab
namespace Go.Ab
open Go
variable {P:Program} {d n:Nat} {κ:K} {w:World} {lam:Lam} {fr:Fr} {st:St} {a:Act} {o:Oper}
def After (d n:Nat)(κ:K)(w:World)(st:St)(a:Act)(next:Act→World→Prop)(Q:Exit→Act→World→Prop)(dst:Option Nat):Rs→Prop
 | .ok e fr' st'=>∀ v w' κ' lam',R d n κ' w' lam' fr' st' a→RepV κ' w' lam' fr' st' a.tmps v e→Pres (Keep d st.wp) κ w κ' w'→st'.wp=st.wp→next (a.put dst v) w'
 | .pan x st'=>∀ u w' κ',Rep κ' w' u x→Sim κ' w' st'→Pres (Keep d st.wp) κ w κ' w'→st'.wp=st.wp→Q (.panic [{v:=u,recovered:=false}]) a w'
theorem Does.wp {rs:Rs} {next:Act→World→Prop} {Q:Exit→Act→World→Prop} (h:Does P d n κ w st a o rs)(ha:After d n κ w st a next Q o.dst rs):o.wp P a w next Q:=by
 unfold Oper.wp
 cases rs with
 | ok e fr' st' =>
  obtain ⟨nx,v,w',κ',lam',h1,h2,h3,h4,h5,h6⟩:=h
  rw [h1]
  have:=ha v w' κ' lam' h3 h4 h5 h6
  rcases h2 with rfl | ⟨rfl,rfl⟩
  ·exact this
  ·exact this
 | pan x st' =>
  obtain ⟨v,w',κ',h1,h2,h3,h4,h5⟩:=h
  rw [h1]
  exact ha v w' κ' h2 h3 h4 h5
theorem ret_rep {u:Value} {v:V} {k:Option Nat} (r:R d n κ w lam fr st a)(h:OutOk (d+1) κ w (.returned u) (.ret v k)) :
  ∃ κ',R d n κ' w lam fr st a∧RepV κ' w lam fr st a.tmps u (retE k v)∧Pres (fun L=>∀ s,L≠.tmp (d+1) s) κ w κ' w:=by
 cases k with
 | none =>
  obtain ⟨u',h1,h2⟩:=h
  cases h1
  refine ⟨κ,r,?_,.refl _ _ _⟩
  cases v <;> exact h2
 | some k =>
  obtain ⟨u',s,h1,h2,h3⟩:=h
  cases h1
  have p:Pres (fun L=>L≠.tmp (d+1) s) κ w (κ.re (.tmp (d+1) s) .fly) w:=pres_re κ w _ _ _ (by simp)
  refine ⟨κ.re (.tmp (d+1) s) .fly,r.pres p (fun L hL e=>by subst e;simp only [Mine] at hL;omega) (good_re r.sim.good) r.sim.fresh,?_,p.mono fun L hL=>hL s⟩
  cases v <;> first
   | exact ⟨h2.pres p,h3.re⟩
   | exact h2.pres p
theorem call_frame {st':St} {κ':K} {w':World} (r:R d n κ w lam fr st a)(p:Pres (Keep (d+1) st.wp) κ w κ' w') (s:Sim κ' w' st'):R d n κ' w' lam (fr.map E.noMem) st' a:=by
 have hk1:∀ s,Keep (d+1) st.wp (.tmp d s):=fun s=>.inl (Nat.lt_succ_self d)
 have hk2:∀ s,Keep (d+1) st.wp (.loc d s):=fun s=>.inl (Nat.lt_succ_self d)
 have hk3:∀ s o,Keep (d+1) st.wp (.lsp d s o):=fun s o=>.inl (Nat.lt_succ_self d)
 refine r.entries p (fun t=>?_) (fun t cs hc=>?_) s
 ·rw [get_map _ _ rfl]
  have h1:=r.fm.tmp t
  generalize hv:a.tmps.getD t undef=v at h1 ⊢
  generalize he:fr.get t=e at h1 ⊢
  cases e with
  | any=>trivial
  | val x=>exact Rep.pres p h1
  | lp u o=>exact h1
  | own k ys=>exact ⟨h1.1.pres p,h1.2.pres p (hk1 t)⟩
  | bor k ys q =>
   cases q with
   | slot u=>exact ⟨h1.1.pres p,by rw [get_map _ _ rfl,h1.2.1];rfl,h1.2.2⟩
   | mem id o=>exact h1.1.pres p
   | loc u o =>
    obtain ⟨r1,cs,b,e1,e2,e3,e4⟩:=h1
    exact ⟨r1.pres p,cs,b,e1,e2,e3,(r.fm.cellEq p hk2 u cs o _ b e1 e2 e3).trans e4⟩
 ·obtain ⟨b,hb,c⟩:=r.fm.loc t cs hc
  exact ⟨b,hb,c.pres p (hk2 t) (hk3 t)⟩
theorem keep_up {wp wp':Nat} (hw:wp≤wp') {L:Ow} (h:Keep d wp L):Keep (d+1) wp' L:=by
 rcases h with h | ⟨id,h1,h2⟩ | ⟨id,off,h1,h2⟩
 ·refine .inl ?_
  cases L <;> simp only [Ow.below] at h ⊢ <;> omega
 ·exact .inr (.inl ⟨id,h1,by omega⟩)
 ·exact .inr (.inr ⟨id,off,h1,by omega⟩)
theorem keep_tmp1 {wp s:Nat}:¬ Keep d wp (.tmp (d+1) s):=by
 rintro (h | ⟨_,h,_⟩ | ⟨_,_,h,_⟩)
 ·simp only [Ow.below] at h;omega
 ·cases h
 ·cases h
theorem pure_call {call:Calling} (hc:CallOk P call)(r:R d n κ w lam fr st a) {f:Nat} {vs:Array Value} {args:List V} (hreps:Reps κ w vs.toList args) {v:V} {k:Option Nat} {st1:St}
  (hcall:call f args (if flats args then ⟨[],0⟩ else {st with wp:=st.objs.length})=some (.ret v k,st1)) (hflat:v.flat=true) :
  Calls P f vs w fun e w'=>∃ κ2 u,e=.returned u∧R d n κ2 w' lam fr st a∧OutOk (d+1) κ2 w' (.returned u) (.ret v k)∧Pres (Keep (d+1) st.objs.length) κ w κ2 w':=by
 have frame:∀ {κ2:K} {w':World},Pres (Keep (d+1) st.objs.length) κ w κ2 w'→Good κ2 w'→κ2.blk=κ.blk→R d n κ2 w' lam fr st a:=by
  intro κ2 w' p2 g2 hb
  refine r.pres' p2 (fun L hL ho hm=>?_) g2 (by rw [hb];exact r.sim.fresh)
  cases L with
  | obj id=>exact .inr (.inl ⟨id,rfl,ho id rfl⟩)
  | mem id off=>exact .inr (.inr ⟨id,off,rfl,hm id off rfl⟩)
  | tmp e s=>simp only [Mine] at hL;exact .inl (by simp only [Ow.below];omega)
  | loc e s=>simp only [Mine] at hL;exact .inl (by simp only [Ow.below];omega)
  | lsp e s q=>simp only [Mine] at hL;exact .inl (by simp only [Ow.below];omega)
  | fly=>exact hL.elim
 by_cases hfl:flats args=true
 ·rw [if_pos hfl] at hcall
  let up:Ow→Ow:=fun L=>match L with
   | .obj _=>.tmp d 0
   | .mem _ _=>.tmp d 0
   | .fly=>.tmp d 0
   | L=>L
  let κe:K:={own:=fun b o=>(κ.own b o).map up,blk:=fun _=>none}
  have en:∀ b o,κ.own b o=none→κe.own b o=none:=fun b o h=>by simp only [κe,h];rfl
  have sim:Sim κe w ⟨[],0⟩:=by
   refine ⟨Nat.le_refl _,fun b j L h=>?_,fun _ _=>rfl,fun id cs h=>by simp [St.obj] at h,fun id cs b h=>by simp [St.obj] at h⟩
   cases h1:κ.own b j with
   | none=>simp only [κe,h1] at h;cases h
   | some L'=>exact r.sim.good b j L' h1
  refine (hc f args ⟨[],0⟩ _ _ hcall (d+1) κe w vs sim (Reps.flat en hreps hfl)).mono fun e w' ⟨κ',h1,h2,p,h4⟩=>?_
  let κ2:K:={own:=fun b o=>match κ.own b o with
   | some (.obj i)=>some (.obj i)
   | some (.mem i j)=>some (.mem i j)
   | some .fly=>some .fly
   | _=>κ'.own b o,blk:=κ.blk}
  have kt:Keep (d+1) 0 (.tmp d 0):=.inl (Nat.lt_succ_self d)
  -- what is hidden is kept
  have hid:∀ b o L,κ.own b o=some L→up L=.tmp d 0→κ'.own b o=some (.tmp d 0)∧w'.cell? (at_ b o)=w.cell? (at_ b o):=fun b o L hL hu=>p.lab b o (.tmp d 0) (by simp only [κe,hL,Option.map_some,hu]) kt
  have back:∀ b o L,κ'.own b o=L→L≠some (.tmp d 0)→κ2.own b o=L:=by
   intro b o L hL hne
   simp only [κ2]
   split
   ·rename_i i h5;exact (hne (hL.symm.trans (hid b o _ h5 rfl).1)).elim
   ·rename_i i j h5;exact (hne (hL.symm.trans (hid b o _ h5 rfl).1)).elim
   ·rename_i h5;exact (hne (hL.symm.trans (hid b o _ h5 rfl).1)).elim
   ·exact hL
  have p2:Pres (Keep (d+1) st.objs.length) κ w κ2 w':=by
   refine ⟨p.os,p.tape,p.out,p.size,fun _ _ h=>h,fun b o v hi=>?_,fun b o L hL hk=>?_,p.sz,fun b hb hf=>?_⟩
   ·obtain ⟨i1,i2⟩:=p.imm b o v ⟨hi.1,en b o hi.2⟩
    exact ⟨i1,back b o none i2 (by simp)⟩
   ·cases L with
    | obj i=>exact ⟨by simp only [κ2,hL],(hid b o _ hL rfl).2⟩
    | mem i j=>exact ⟨by simp only [κ2,hL],(hid b o _ hL rfl).2⟩
    | fly=>exact ⟨by simp only [κ2,hL],(hid b o _ hL rfl).2⟩
    | tmp e s =>
     have:=p.lab b o (.tmp e s) (by simp only [κe,hL];rfl) (by rcases hk with hk | ⟨_,hk,_⟩ | ⟨_,_,hk,_⟩;exact .inl hk;cases hk;cases hk)
     exact ⟨by simp only [κ2,hL];exact this.1,this.2⟩
    | loc e s =>
     have:=p.lab b o (.loc e s) (by simp only [κe,hL];rfl) (by rcases hk with hk | ⟨_,hk,_⟩ | ⟨_,_,hk,_⟩;exact .inl hk;cases hk;cases hk)
     exact ⟨by simp only [κ2,hL];exact this.1,this.2⟩
    | lsp e s q =>
     have:=p.lab b o (.lsp e s q) (by simp only [κe,hL];rfl) (by rcases hk with hk | ⟨_,hk,_⟩ | ⟨_,_,hk,_⟩;exact .inl hk;cases hk;cases hk)
     exact ⟨by simp only [κ2,hL];exact this.1,this.2⟩
   ·obtain ⟨f1,f2⟩:=p.free b hb (fun o=>en b o (hf o))
    exact ⟨f1,fun o=>by simp only [κ2,hf o];exact f2 o⟩
  have g2:Good κ2 w':=by
   intro b j L hL
   simp only [κ2] at hL
   split at hL
   ·rename_i h5;exact h2.good _ _ _ (hid b j _ h5 rfl).1
   ·rename_i h5;exact h2.good _ _ _ (hid b j _ h5 rfl).1
   ·rename_i h5;exact h2.good _ _ _ (hid b j _ h5 rfl).1
   ·exact h2.good _ _ _ hL
  have nn:∀ b o,κ'.own b o=none→κ2.own b o=none:=fun b o h=>back b o none h (by simp)
  cases k with
  | none =>
   obtain ⟨u,rfl,q2⟩:=h1
   exact ⟨κ2,u,rfl,frame p2 g2 rfl,⟨u,rfl,Rep.flat nn q2 hflat⟩,p2⟩
  | some k =>
   obtain ⟨u,s,rfl,q2,q3⟩:=h1
   refine ⟨κ2,u,rfl,frame p2 g2 rfl,⟨u,s,rfl,Rep.flat nn q2 hflat,?_⟩,p2⟩
   cases u <;> simp only [Spare] at q3 ⊢
   rcases q3 with q3 | ⟨a1,a2,b,o,ha,a3⟩
   ·exact .inl q3
   ·exact .inr ⟨a1,a2,b,o,ha,fun j h5 h6=>back _ _ _ (a3 j h5 h6) (by simp)⟩
 ·rw [if_neg hfl] at hcall
  have hs1:Sim κ w {st with wp:=st.objs.length}:=⟨Nat.le_refl _,r.sim.good,r.sim.fresh,r.sim.obj,r.sim.room⟩
  refine (hc f _ _ _ _ hcall (d+1) κ w _ hs1 hreps).mono fun e w' ⟨κ',h1',h2',h3',h4'⟩=>?_
  let κ2:K:={κ' with blk:=κ.blk}
  have p2:Pres (Keep (d+1) st.objs.length) κ w κ2 w':={h3' with blk:=fun _ _ h=>h,imm:=fun b o v hi=>h3'.imm b o v hi,lab:=fun b o L e s=>h3'.lab b o L e s,free:=fun b hb e=>h3'.free b hb e}
  have r2:R d n κ2 w' lam fr st a:=frame p2 h2'.good rfl
  cases k with
  | none=>obtain ⟨u,rfl,q2⟩:=h1';exact ⟨κ2,u,rfl,r2,⟨u,rfl,Rep.flat (κ:=κ') (κ':=κ2) (fun _ _ h=>h) q2 hflat⟩,p2⟩
  | some k=>obtain ⟨u,s,rfl,q2,q3⟩:=h1';exact ⟨κ2,u,rfl,r2,⟨u,s,rfl,Rep.flat (κ:=κ') (κ':=κ2) (fun _ _ h=>h) q2 hflat,by cases u <;> exact q3⟩,p2⟩
theorem call_wp {g:G} {call:Calling} (hg:GOk P g)(hc:CallOk P call)(r:R d n κ w lam fr st a) {x:Operand} {args:Array Operand} {ats:Array TypeId} {f:Nat} {first cap vs:List V} {rs:Rs}
  (ho:o.op=.call {callee:=.value x,args:=args,argTypes:=ats}) (hx:fr.op x=.val (.func f first cap)) (hv:vsOf (args.toList.map fr.op)=some vs)
  (h:callStep g call f (first ++ vs ++ cap) fr st=some rs) {next:Act→World→Prop} {Q:Exit→Act→World→Prop} (ha:After d n κ w st a next Q o.dst rs):o.wp P a w next Q:=by
 have hf:=r.op x
 rw [hx] at hf
 have hvr:=vsOf_reps (r.ops args.toList) hv
 generalize hfv:a.eval x=fv at hf
 have hwp:=r.sim.wple
 cases hf with
 | func h1 h2 =>
 rename_i F C
 have hreps:Reps κ w ((F ++ args.map a.eval) ++ C).toList (first ++ vs ++ cap):=by
  rw [Array.toList_append,Array.toList_append]
  exact (h1.append (by simpa using hvr)).append h2
 have hexec:(execOp a.eval o).run P w=(callFunc f ((F ++ args.map a.eval) ++ C)).run P w:=by
  unfold execOp
  rw [ho]
  simp [resolve,Deferred.ofValue,hfv,invoke]
 unfold callStep at h
 split at h
 ·-- a function from outside
  rename_i x hext
  split at h
  ·rename_i v hv'
   cases h
   unfold extV at hv'
   split at hv'
   ·rename_i b hargs
    cases hv'
    rw [hargs] at hreps
    have:(F ++ args.map a.eval) ++ C=#[.float .f64 b]:=by
     generalize ((F ++ args.map a.eval) ++ C)=ar at hreps
     obtain ⟨l⟩:=ar
     cases hreps with | cons q1 q2=>cases q1;cases q2;rfl
    refine Does.wp (κ:=κ) (rs:=.ok (.val (.int .u64 b)) fr st) ?_ ha
    exact ⟨_,_,w,κ,lam,by rw [hexec,this];exact hg.bits f hext b w,.inl rfl,r,Rep.int _ _,.refl _ _ _,rfl⟩
   ·rename_i b hargs
    cases hv'
    rw [hargs] at hreps
    have:(F ++ args.map a.eval) ++ C=#[.int .u64 b]:=by
     generalize ((F ++ args.map a.eval) ++ C)=ar at hreps
     obtain ⟨l⟩:=ar
     cases hreps with | cons q1 q2=>cases q1;cases q2;rfl
    refine Does.wp (κ:=κ) (rs:=.ok (.val (.float .f64 b.toNat)) fr st) ?_ ha
    exact ⟨_,_,w,κ,lam,by rw [hexec,this];exact hg.ofBits f hext b w,.inl rfl,r,Rep.float _ _,.refl _ _ _,rfl⟩
   ·rename_i b hargs
    simp only [Option.map_eq_some_iff] at hv'
    obtain ⟨t,ht,rfl⟩:=hv'
    rw [hargs] at hreps
    have:(F ++ args.map a.eval) ++ C=#[.float .f64 b]:=by
     generalize ((F ++ args.map a.eval) ++ C)=ar at hreps
     obtain ⟨l⟩:=ar
     cases hreps with | cons q1 q2=>cases q1;cases q2;rfl
    refine Does.wp (κ:=κ) (rs:=.ok (.val (.float .f64 t)) fr st) ?_ ha
    exact ⟨_,_,w,κ,lam,by rw [hexec,this];exact hg.trunc f hext b t w ht,.inl rfl,r,Rep.float _ _,.refl _ _ _,rfl⟩
   ·cases hv'
  ·cases h
 ·split at h
  ·cases h
  ·rename_i fi hfi
   obtain ⟨fn,f1,f2,f3,f4,f5⟩:=hg.fn f fi hfi
   have henter:(execOp a.eval o).run P w=.ok (.enter f ((F ++ args.map a.eval) ++ C)) w:=by
    rw [hexec]
    unfold callFunc
    have f6 : ¬ fn.name = "runtime.NumGoroutine" := by simpa using f5
    simp [f1,f2,f6]
   unfold Oper.wp
   rw [henter]
   split at h
   ·-- a quiet one
    split at h
    ·rename_i v k st1 hcall
     split at h
     ·rename_i hflat
      cases h
      refine (pure_call hc r hreps hcall hflat).mono fun e w' ⟨κ2,u,he,r2,hout,p2⟩=>?_
      subst he
      obtain ⟨κ3,r3,v3,p3⟩:=ret_rep r2 hout
      exact ha u w' κ3 lam r3 v3 ((p2.mono fun L hL=>keep_up hwp hL).trans (p3.mono fun L hL s e=>keep_tmp1 (e ▸ hL))) rfl
     ·cases h
    ·cases h
   ·split at h
    ·rename_i v k st1 hcall
     cases h
     refine (hc f _ _ _ _ hcall (d+1) κ w _ r.sim hreps).mono fun e w' ⟨κ',h1',h2',h3',h4'⟩=>?_
     have r2:=call_frame r h3' h2'
     have hout:∃ u,e=.returned u:=by
      cases k with
      | none=>obtain ⟨u,rfl,_⟩:=h1';exact ⟨u,rfl⟩
      | some k=>obtain ⟨u,s,rfl,_⟩:=h1';exact ⟨u,rfl⟩
     obtain ⟨u,rfl⟩:=hout
     obtain ⟨κ3,r3,v3,p3⟩:=ret_rep r2 h1'
     exact ha u w' κ3 lam r3 v3 ((h3'.mono fun L hL=>keep_up (Nat.le_refl _) hL).trans (p3.mono fun L hL s e=>keep_tmp1 (e ▸ hL))) h4'
    ·rename_i v st1 hcall
     cases h
     refine (hc f _ _ _ _ hcall (d+1) κ w _ r.sim hreps).mono fun e w' ⟨κ',h1',h2',h3',h4'⟩=>?_
     obtain ⟨u,rfl,q2⟩:=h1'
     exact ha u w' κ' q2 h2' (h3'.mono fun L hL=>keep_up (Nat.le_refl _) hL) h4'
    ·cases h
theorem stepE_wp {g:G} {fi:FI} {call:Calling} (hg:GOk P g)(hc:CallOk P call)(r:R d n κ w lam fr st a) {rs:Rs} (h:stepE g fi call fr st o=some rs)
  {next:Act→World→Prop} {Q:Exit→Act→World→Prop} (ha:After d n κ w st a next Q o.dst rs):o.wp P a w next Q:=by
 unfold stepE at h
 split at h
 ·rename_i x args ats ho
  split at h
  ·rename_i f first cap vs hx hv
   exact call_wp hg hc r ho hx hv h ha
  ·cases h
 ·exact (stepOp_ok hg.ty r h).wp ha
theorem melt_rep {κ κ':K} {v v2:Value} {f f2:Bool} {k id off len:Nat} {x:V} (h0:len≠0)(h1:Rep κ w v (.sref f k id off len))(p:∀ id b,κ.blk id=some b→κ'.blk id=some b) {w':World} (h2:Rep κ' w' v2 (.sref f2 k id off len)) {ys:List V} (hx:x=.slice ys)(q:Rep κ' w' v x):Rep κ' w' v2 x:=by
 subst hx
 obtain ⟨b,cap,rfl,hb,_,hc,_⟩:=h1.sref_inv (.inr (by omega))
 obtain ⟨b2,cap2,rfl,hb2,_,hc2,_⟩:=h2.sref_inv (.inr (by omega))
 have e:b=b2:=Option.some.inj ((p _ _ hb).symm.trans hb2)
 subst e
 generalize hv:Value.slice (some (at_ b off)) len cap=u at q
 cases q with
 | slice0 a c=>cases hv;exact absurd rfl h0
 | slice hc3 hk hr=>cases hv;exact .slice hc2 hk hr
theorem frz_sref {st st':St} {f:Bool} {k id off len n:Nat} {v:V} (h0:len≠0)(h:frz (n+1) st (.sref f k id off len)=some (v,st')):∃ ys,v=.slice ys:=by
 unfold frz at h
 simp only at h
 rw [if_neg h0] at h
 split at h
 ·split at h
  ·split at h
   ·split at h
    ·split at h
     ·cases h;exact ⟨_,rfl⟩
     ·cases h
    ·cases h
   ·cases h
  ·cases h
 ·cases h
theorem melt_ok {κ':K} {k id off len:Nat} {x:V} {st':St} (r:R d n κ' w lam (fr.map E.noMem) st' a)(hm:∀ (v:Value) (f:Bool),Rep κ' w v (.sref f k id off len)→Rep κ' w v x):R d n κ' w lam ((fr.map E.noMem).map (E.melt k id off len x)) st' a where
 sim:=r.sim
 fm:={
  defers:=r.fm.defers
  size:=r.fm.size
  tmp:=fun t=>by
   rw [get_map _ _ rfl]
   have h:=r.fm.tmp t
   generalize (fr.map E.noMem).get t=e at h ⊢
   generalize a.tmps.getD t undef=v at h ⊢
   cases e with
   | any=>trivial
   | val y =>
    cases y with
    | sref f k' id' off' len' =>
     unfold E.melt
     simp only
     split
     ·rename_i hc
      obtain ⟨rfl,rfl,rfl,rfl⟩:=hc
      exact hm v f h
     ·exact h
    | _=>exact h
   | lp u o=>exact h
   | own k ys=>exact h
   | bor k ys q =>
    cases q with
    | slot u=>exact ⟨h.1,by rw [get_map _ _ rfl,h.2.1];rfl,h.2.2⟩
    | mem id' o=>exact h
    | loc u o=>exact h
  loc:=fun s cs hc=>r.fm.loc s cs hc}
theorem frzStep_ok (r:R d n κ w lam fr st a) {rs:Rs} (h:frzStep fr st o=some rs):Does P d n κ w st a o rs:=by
 unfold frzStep at h
 split at h
 ·rename_i x ho
  split at h
  ·rename_i v hv
   split at h
   ·rename_i v' st' hf
    cases h
    have h1:=r.op x
    rw [hv] at h1
    obtain ⟨κ',z,q⟩:=frz_ok 6 κ w st (a.eval x) v v' st' r.sim h1 hf
    have p1:Pres (Keep (d+1) st.wp) κ w κ' w:=z.pres.mono fun L hL=>old_keep hL
    exact ⟨_,a.eval x,w,κ',lam,by unfold execOp;rw [ho];rfl,.inl rfl,call_frame r p1 z.sim,q,z.pres.mono fun L hL=>old_keep hL,z.wp⟩
   ·cases h
  ·rename_i k xs hv
   cases h
   have h1:=r.op x
   rw [hv] at h1
   exact Does.pure r (v:=a.eval x) (by unfold execOp;rw [ho];rfl) h1
  ·rename_i k xs p hv
   cases h
   have h1:=r.op x
   rw [hv] at h1
   exact Does.pure r (v:=a.eval x) (by unfold execOp;rw [ho];rfl) h1
  ·cases h
 ·rename_i x ho
  split at h
  ·rename_i f k id off len hv
   have h1:=r.op x
   rw [hv] at h1
   split at h
   ·rename_i hl
    cases h
    subst hl
    refine Does.pure r (v:=a.eval x) (by unfold execOp;rw [ho];rfl) ?_
    obtain ⟨q,cap,he⟩:=Rep.sref_len h1
    rw [he];exact Rep.slice0 _ _
   ·rename_i hl
    split at h
    ·rename_i v' st' hf
     cases h
     obtain ⟨κ',z,q⟩:=frz_ok 6 κ w st (a.eval x) _ v' st' r.sim h1 hf
     obtain ⟨ys,rfl⟩:=frz_sref hl hf
     have p1:Pres (Keep (d+1) st.wp) κ w κ' w:=z.pres.mono fun L hL=>old_keep hL
     exact ⟨_,a.eval x,w,κ',lam,by unfold execOp;rw [ho];rfl,.inl rfl,melt_ok (call_frame r p1 z.sim) (fun v f hr=>melt_rep hl h1 z.pres.blk hr rfl q),q,z.pres.mono fun L hL=>old_keep hL,z.wp⟩
    ·cases h
  ·rename_i v _ hv
   cases h
   have h1:=r.op x
   rw [hv] at h1
   exact Does.pure r (v:=a.eval x) (by unfold execOp;rw [ho];rfl) h1
  ·rename_i k xs hv
   cases h
   have h1:=r.op x
   rw [hv] at h1
   exact Does.pure r (v:=a.eval x) (by unfold execOp;rw [ho];rfl) h1
  ·rename_i k xs p hv
   cases h
   have h1:=r.op x
   rw [hv] at h1
   exact Does.pure r (v:=a.eval x) (by unfold execOp;rw [ho];rfl) h1
  ·cases h
 ·cases h
theorem stepM_wp {g:G} {fi:FI} {call:Calling} (hg:GOk P g)(hc:CallOk P call)(r:R d n κ w lam fr st a) {rs:Rs} (h:stepM g fi call fr st o=some rs)
  {next:Act→World→Prop} {Q:Exit→Act→World→Prop} (ha:After d n κ w st a next Q o.dst rs):o.wp P a w next Q:=by
 unfold stepM at h
 split at h
 ·exact (markStep_ok hg.ty r h).wp ha
 ·split at h
  ·exact (frzStep_ok r h).wp ha
  ·exact stepE_wp hg hc r h ha
end Go.Ab
namespace Go.Ab
open Go
variable {P:Program} {d n:Nat} {κ:K} {w:World} {lam:Lam} {fr:Fr} {st:St} {a:Act} {o:Oper}
theorem wanted_ok (r:R d n κ w lam fr st a) {ops:Array Oper} {b:Bool} (h:wantedE ops.toList o fr=some b):Region.wanted o (yielded ops a.tmps)=b:=by
 unfold wantedE at h
 unfold Region.wanted
 cases hg:o.guard with
 | none=>rw [hg] at h;simp only [Option.some.injEq] at h;exact h
 | some jw =>
  obtain ⟨j,want⟩:=jw
  rw [hg] at h
  simp only at h ⊢
  split at h
  ·rename_i s hs
   split at h
   ·rename_i c hc
    cases h
    have h1:=r.fm.tmp s
    rw [hc] at h1
    have h2:a.tmps.getD s undef=.bool c:=Rep.bool_inv h1
    have h3:a.tmps[s]?=some (.bool c):=by
     rw [Array.getD_eq_getD_getElem?] at h2
     cases hx:a.tmps[s]? with
     | none=>rw [hx] at h2;simp [undef] at h2
     | some v=>rw [hx] at h2;simpa using h2
    have h4:(ops[j]?).bind (·.dst)=some s:=by rw [← Array.getElem?_toList];exact hs
    unfold yielded
    rw [h4]
    simp [h3]
   ·rename_i hc
    cases h
    have h1:=r.fm.tmp s
    rw [hc] at h1
    obtain ⟨vs,h2,h3⟩:=Rep.tuple_inv h1
    have h4:(ops[j]?).bind (·.dst)=some s:=by rw [← Array.getElem?_toList];exact hs
    unfold yielded
    rw [h4]
    rw [Array.getD_eq_getD_getElem?] at h2
    cases hx:a.tmps[s]? with
    | none=>simp [hx]
    | some v=>rw [hx] at h2;simp at h2;subst h2;simp [hx]
   ·cases h
  ·cases h
theorem putO_ok (r:R d n κ w lam fr st a) {dst:Option Nat} (hd:∀ s,dst=some s→s<n) {e:E} {v:Value} (hv:RepV κ w lam fr st a.tmps v e) :
  ∃ κ',R d n κ' w lam (fr.putO dst e) st (a.put dst v)∧Pres (fun L=>L≠.fly) κ w κ' w:=by
 cases dst with
 | none=>exact ⟨κ,r,.refl _ _ _⟩
 | some s=>exact r.put (hd s rfl) hv
def Fin (d n:Nat)(κ:K)(w:World)(st:St)(Q:Exit→Act→World→Prop):Rg→Prop
 | .ok fr' st'=>∀ a' w' κ' lam',R d n κ' w' lam' fr' st' a'→Pres (Keep d st.wp) κ w κ' w'→st'.wp=st.wp→Q .normal a' w'
 | .pan v st'=>∀ a' u w' κ',a'.defers=[]→Rep κ' w' u v→Sim κ' w' st'→Pres (Keep d st.wp) κ w κ' w'→st'.wp=st.wp→Q (.panic [{v:=u,recovered:=false}]) a' w'
theorem Fin.trans {st1:St} {κ1:K} {w1:World} {Q:Exit→Act→World→Prop} {rg:Rg} (h:Fin d n κ w st Q rg)(p:Pres (Keep d st.wp) κ w κ1 w1)(e:st1.wp=st.wp):Fin d n κ1 w1 st1 Q rg:=by
 cases rg with
 | ok fr' st'=>exact fun a' w' κ' lam' r q f=>h a' w' κ' lam' r (p.trans (e ▸ q)) (f.trans e)
 | pan v st'=>exact fun a' u w' κ' hd r s q f=>h a' u w' κ' hd r s (p.trans (e ▸ q)) (f.trans e)
theorem pres_fly {wp:Nat} {κ':K} {w':World} (p:Pres (fun L=>L≠.fly) κ w κ' w'):Pres (Keep d wp) κ w κ' w':=p.mono fun L hL e=>keep_fly d wp (e ▸ hL)
theorem ops_wp {g:G} {fi:FI} {call:Calling} (hg:GOk P g)(hc:CallOk P call) {ops:Array Oper} (hb:∀ o∈ops.toList,∀ s,o.dst=some s→s<n) {Q:Exit→Act→World→Prop} {rg:Rg} :
  ∀ (os:List Oper) (i:Nat) {κ:K} {w:World} {lam:Lam} {fr:Fr} {st:St} {a:Act},ops.toList.drop i=os→R d n κ w lam fr st a→evalOps g fi call ops.toList os fr st=some rg→Fin d n κ w st Q rg →
   wpOps P ops Q (List.range' i os.length) a w
 | [],i,κ,w,lam,fr,st,a,_,r,h,hf=>by
  simp only [evalOps,Option.some.injEq] at h;subst h
  exact hf a w κ lam r (.refl _ _ _) rfl
 | o :: os,i,κ,w,lam,fr,st,a,hdr,r,h,hf=>by
  have hoi:ops[i]?=some o:=by
   have:=congrArg (fun l=>l[0]?) hdr
   simpa using this
  have hmem:o∈ops.toList:=List.mem_of_mem_drop (hdr ▸ List.mem_cons_self)
  have hdr':ops.toList.drop (i+1)=os:=by
   have:=congrArg List.tail hdr
   simpa using this
  have hdst:=hb o hmem
  rw [List.length_cons,List.range'_succ]
  simp only [wpOps,hoi]
  unfold evalOps at h
  split at h
  ·rename_i hw
   rw [wanted_ok r hw,if_pos rfl]
   refine .inl ?_
   split at h
   ·rename_i e fr' st' hs
    refine stepM_wp hg hc r hs ?_
    intro v w' κ' lam' r' v' p e'
    obtain ⟨κ2,r2,p2⟩:=putO_ok r' hdst v'
    exact ops_wp hg hc hb os (i+1) hdr' r2 h (hf.trans (p.trans (pres_fly p2)) e')
   ·rename_i v st' hs
    cases h
    refine stepM_wp hg hc r hs ?_
    intro u w' κ' q s p e'
    exact hf a u w' κ' r.fm.defers q s p e'
   ·cases h
  ·rename_i hw
   rw [wanted_ok r hw]
   simp only [Bool.false_eq_true,if_false]
   obtain ⟨κ2,r2,p2⟩:=putO_ok (e:=.val (.tuple [])) (v:=undef) r hdst (Rep.tuple .nil)
   exact ops_wp hg hc hb os (i+1) hdr' r2 h (hf.trans (pres_fly p2) rfl)
  ·cases h
end Go.Ab
namespace Go.Ab
open Go
variable {P:Program} {d n:Nat} {κ:K} {w:World} {lam:Lam} {fr fr':Fr} {st:St} {a:Act} {o:Oper}
theorem okV_same {e:Option V} {rs:Rs} (h:okV fr st e=some rs):∃ x,rs=.ok x fr st:=by
 obtain ⟨x,_,rfl⟩:=okV_some h;exact ⟨_,rfl⟩
theorem okE_same {e:Option E} {rs:Rs} (h:okE fr st e=some rs):∃ x,rs=.ok x fr st:=by
 obtain ⟨x,_,rfl⟩:=okE_some h;exact ⟨_,rfl⟩
theorem append_const {g:G} {args:Array Operand} {ats:Array TypeId} {v:Value} (h0:args[0]?=some (.const v)) {rs:Rs} (h:appendStep g fr st ats args=some rs):∃ e,rs=.ok e fr st:=by
 unfold appendStep at h
 rw [h0] at h
 split at h
 ·rename_i t s x ht hs hx
  cases hs
  split at h
  ·split at h
   ·split at h
    ·rename_i xs fr1 st1 hb
     unfold baseOf at hb
     simp only [take] at hb
     split at hb
     ·rename_i k ys fr2 st2 heq
      simp only [Option.some.injEq,Prod.mk.injEq] at heq
      obtain ⟨_,rfl,rfl⟩:=heq
      split at hb
      ·cases hb
       split at h
       ·cases h;exact ⟨_,rfl⟩
       ·cases h
      ·cases hb
     ·cases hb
    ·cases h
   ·cases h
  ·cases h
 ·cases h
theorem quiet_same {g:G} {fi:FI} {call:Calling} (hq:quietOp g o.op=true) {rs:Rs} (h:stepE g fi call fr st o=some rs):∃ e,rs=.ok e fr st:=by
 unfold stepE at h
 split at h
 ·rename_i x args ats ho
  rw [ho] at hq
  split at h
  ·rename_i f first cap vs hx hv
   cases x with
   | func f' =>
    simp only [quietOp] at hq
    simp only [Fr.op,E.val.injEq,V.func.injEq] at hx
    obtain ⟨rfl,rfl,rfl⟩:=hx
    unfold callStep at h
    split at h
    ·split at h
     ·cases h;exact ⟨_,rfl⟩
     ·cases h
    ·rename_i hext
     split at h
     ·cases h
     ·rename_i fi' hfi
      rw [hext,hfi] at hq
      simp only at hq
      rw [if_pos hq] at h
      split at h
      ·split at h
       ·cases h;exact ⟨_,rfl⟩
       ·cases h
      ·cases h
   | _=>simp [quietOp] at hq
  ·cases h
 ·unfold stepOp at h
  split at h <;> first
   | (cases h;done)
   | (rename_i ho;rw [ho] at hq)
  all_goals first
   | (simp [quietOp] at hq;done)
   | skip
  ·split at h
   ·cases h;exact ⟨_,rfl⟩
   ·cases h
  ·split at h
   ·exact okV_same h
   ·cases h
  ·split at h
   ·exact okE_same h
   ·cases h
  ·split at h <;> first | (cases h;exact ⟨_,rfl⟩) | cases h
  ·split at h
   ·split at h
    ·exact okV_same h
    ·cases h
   ·exact okV_same h
   ·cases h
  ·split at h
   ·exact okV_same h
   ·cases h
  ·split at h
   ·exact okE_same h
   ·cases h
  ·split at h
   ·split at h
    ·cases h;exact ⟨_,rfl⟩
    ·cases h
   ·cases h
  ·split at h
   ·cases h;exact ⟨_,rfl⟩
   ·cases h
  ·split at h
   ·split at h
    ·exact okE_same h
    ·cases h
   ·cases h
  ·split at h
   ·split at h
    ·split at h
     ·cases h
     ·exact okE_same h
    ·cases h
   ·cases h
  ·split at h
   ·split at h
    ·exact okV_same h
    ·cases h
   ·cases h
  ·split at h
   ·exact okE_same h
   ·cases h
  ·split at h
   ·exact okV_same h
   ·cases h
  ·split at h
   ·exact okV_same h
   ·cases h
  ·split at h
   ·exact okE_same h
   ·cases h
  ·split at h
   ·split at h
    ·cases h;exact ⟨_,rfl⟩
    ·cases h
   ·cases h
  ·rename_i b args ats
   cases b <;> simp only [quietOp,Bool.false_eq_true] at hq
   ·split at hq
    ·rename_i v h0
     exact append_const h0 (by simpa [builtinStep] using h)
    ·cases hq
   ·simp only [builtinStep] at h
    split at h
    ·exact okV_same h
    ·cases h
   ·simp only [builtinStep] at h
    split at h
    ·exact okV_same h
    ·cases h
   ·simp only [builtinStep] at h
    split at h
    ·exact okV_same h
    ·cases h
/-! ### the frame matters at the operands alone -/
theorem lend_calm {x:Operand} (h:fr.op x=fr'.op x):(fr.lend x).calm=(fr'.lend x).calm:=by
 cases x with
 | tmp t =>
  have h':fr.get t=fr'.get t:=h
  simp only [Fr.lend,h']
 | _=>rfl
def Rs.val:Option Rs→Option E
 | some (.ok e _ _)=>some e.calm
 | _=>none
theorem okV_val {v:Option V}:Rs.val (okV fr st v)=v.map fun v=>v.toE.calm:=by cases v <;> rfl
theorem okE_val {v:Option E}:Rs.val (okE fr st v)=v.map fun v=>v.calm:=by cases v <;> rfl
theorem place_congr {e:E} (hl:fr.loc=fr'.loc):placeOf fr st e=placeOf fr' st e:=by
 unfold placeOf;rw [hl]
theorem loadAt_congr {ti:TI} {e:E} (hl:fr.loc=fr'.loc):Ab.loadAt ti fr st e=Ab.loadAt ti fr' st e:=by
 unfold Ab.loadAt;rw [place_congr hl]
theorem ops_congr {l:List Operand} (h:∀ x∈l,fr.op x=fr'.op x):l.map fr.op=l.map fr'.op:=List.map_congr_left h
theorem parts_congr {l:List (Nat × Operand)} (h:∀ x∈l.map (·.2),fr.op x=fr'.op x):(l.map fun p=>(p.1,(fr.op p.2).part?))=l.map fun p=>(p.1,(fr'.op p.2).part?) :=
 List.map_congr_left fun p hp=>by rw [h p.2 (List.mem_map.2 ⟨p,hp,rfl⟩)]
theorem bound_congr {x:Option Operand} (h:∀ y∈x.toArray,fr.op y=fr'.op y):boundOf fr x=boundOf fr' x:=by
 cases x with
 | none=>rfl
 | some y=>simp only [boundOf,h y (by simp)]
theorem stepQ_congr {g:G} {fi:FI} {call:Calling} (h:∀ x∈o.op.operands,fr.op x=fr'.op x)(hl:fr.loc=fr'.loc):stepQ g fi call fr st o=stepQ g fi call fr' st o:=by
 have key:quietOp g o.op=true→Rs.val (stepE g fi call fr st o)=Rs.val (stepE g fi call fr' st o):=by
  intro hq
  obtain ⟨dst,op,ty,pos,after,guard⟩:=o
  cases op <;> first
   | (simp [quietOp] at hq;done)
   | skip
  case pick c a b =>
   have h1:=h c (by simp [Op.operands])
   have h2:=lend_calm (h a (by simp [Op.operands]))
   have h3:=lend_calm (h b (by simp [Op.operands]))
   simp only [stepE,stepOp,h1]
   split
   ·simp only [Rs.val];split <;> simp [h2,h3]
   ·rfl
  case build t ps =>
   have h1:=parts_congr (fr:=fr) (fr':=fr') (l:=ps.toList) (fun x hx=>h x (by simpa [Op.operands] using hx))
   simp only [stepE,stepOp,h1]
   split
   ·rw [okV_val,okV_val]
   ·rfl
  case buildSlice t n ps =>
   have h1:=parts_congr (fr:=fr) (fr':=fr') (l:=ps.toList) (fun x hx=>h x (by simpa [Op.operands] using hx))
   simp only [stepE,stepOp,h1]
   split
   ·rw [okE_val,okE_val]
   ·rfl
  case load t x =>
   have h1:=h x (by simp [Op.operands])
   simp only [stepE,stepOp,h1,loadAt_congr hl]
   split
   ·rw [okE_val,okE_val]
   ·rfl
  case nilCheck x =>
   have h1:=h x (by simp [Op.operands])
   simp only [stepE,stepOp,h1]
   split <;> rfl
  case binOp b t x y u =>
   have h1:=h x (by simp [Op.operands])
   have h2:=h y (by simp [Op.operands])
   simp only [stepE,stepOp,h1,h2]
   split
   ·split
    ·rw [okV_val,okV_val]
    ·rfl
   ·rw [okV_val,okV_val]
   ·rfl
  case unOp b t x =>
   have h1:=h x (by simp [Op.operands])
   simp only [stepE,stepOp,h1]
   split
   ·rw [okV_val,okV_val]
   ·rfl
  case convert s t x =>
   have h1:=h x (by simp [Op.operands])
   simp only [stepE,stepOp,h1]
   split
   ·rw [okE_val,okE_val]
   ·rfl
  case makeInterface t x =>
   have h1:=h x (by simp [Op.operands])
   simp only [stepE,stepOp,h1]
   split
   ·split <;> rfl
   ·rfl
  case makeFunc fn first captured =>
   have h1:=ops_congr (fr:=fr) (fr':=fr') (l:=first.toList) (fun x hx=>h x (by simp [Op.operands];exact .inl (by simpa using hx)))
   have h2:=ops_congr (fr:=fr) (fr':=fr') (l:=captured.toList) (fun x hx=>h x (by simp [Op.operands];exact .inr (by simpa using hx)))
   cases fn <;> simp only [stepE,stepOp,h1,h2]
   split <;> rfl
  case makeSlice t l c =>
   have h1:=h l (by simp [Op.operands])
   have h2:=h c (by simp [Op.operands])
   simp only [stepE,stepOp,h1,h2]
   split
   ·split <;> rfl
   ·rfl
  case slice t x lo hi mx =>
   have h1:=h x (by simp [Op.operands])
   have h2:=bound_congr (fr:=fr) (fr':=fr') (x:=lo) (fun y hy=>h y (by simp [Op.operands] at hy ⊢;simp [hy]))
   have h3:=bound_congr (fr:=fr) (fr':=fr') (x:=hi) (fun y hy=>h y (by simp [Op.operands] at hy ⊢;simp [hy]))
   have h4:=bound_congr (fr:=fr) (fr':=fr') (x:=mx) (fun y hy=>h y (by simp [Op.operands] at hy ⊢;simp [hy]))
   simp only [stepE,stepOp,h1,h2,h3,h4]
   split
   ·split
    ·rw [okE_val,okE_val]
    ·rfl
   ·rfl
  case fieldAddr t x f =>
   have h1:=h x (by simp [Op.operands])
   simp only [stepE,stepOp,h1]
   split
   ·split
    ·split
     ·rfl
     ·rw [okE_val,okE_val]
    ·rfl
   ·rfl
  case field t x f =>
   have h1:=h x (by simp [Op.operands])
   simp only [stepE,stepOp,h1]
   split
   ·split
    ·rw [okV_val,okV_val]
    ·rfl
   ·rfl
  case indexAddr t x i =>
   have h1:=h x (by simp [Op.operands])
   have h2:=h i (by simp [Op.operands])
   simp only [stepE,stepOp,h1,h2]
   split
   ·rw [okE_val,okE_val]
   ·rfl
  case index t x i =>
   have h1:=h x (by simp [Op.operands])
   have h2:=h i (by simp [Op.operands])
   simp only [stepE,stepOp,h1,h2]
   split
   ·rw [okV_val,okV_val]
   ·rfl
  case extract x i =>
   have h1:=h x (by simp [Op.operands])
   simp only [stepE,stepOp,h1]
   split
   ·rw [okV_val,okV_val]
   ·rfl
  case call c =>
   obtain ⟨callee,args,ats⟩:=c
   have hargs:∀ x∈args.toList,fr.op x=fr'.op x:=fun x hx=>h x (by simp [Op.operands,Call.operands];exact .inr (by simpa using hx))
   have h1:=ops_congr hargs
   cases callee with
   | value x =>
    cases x with
    | func f =>
     have h2:fr.op (.func f)=fr'.op (.func f):=rfl
     simp only [stepE,h1,h2]
     split
     ·unfold callStep
      split
      ·split <;> rfl
      ·rename_i hf _ _ hext
       simp only [Fr.op,E.val.injEq,V.func.injEq] at hf
       obtain ⟨rfl,rfl,rfl⟩:=hf
       split
       ·rfl
       ·rename_i fi' hfi
        simp only [quietOp,hext,hfi] at hq
        rw [if_pos hq,if_pos hq]
        split
        ·split <;> rfl
        ·rfl
     ·rfl
    | _=>simp [quietOp] at hq
   | invoke _ _=>simp [quietOp] at hq
   | builtin b =>
    cases b <;> simp only [quietOp,Bool.false_eq_true] at hq
    case append =>
     split at hq
     ·rename_i v h0
      simp only [stepE,stepOp,builtinStep,appendStep,h0]
      cases ht:ats[0]? with
      | none=>rfl
      | some t =>
       cases hx:args[1]? with
       | none=>rfl
       | some x =>
        have h2:=hargs x (by have:=Array.mem_of_getElem? hx;simpa using this)
        simp only [h2]
        split
        ·split
         ·rename_i esz _ _ _ _ _ _ _ _ _ _
          simp only [baseOf,take,Fr.op]
          cases (constV v).toE <;> try rfl
          rename_i k xs
          by_cases hk:(k == 0 || k == esz)=true
          ·simp only [hk,if_true]
           split <;> rfl
          ·simp only [hk,if_false,Bool.false_eq_true]
         ·rfl
        ·rfl
     ·cases hq
    case len =>
     simp only [stepE,stepOp,builtinStep]
     split
     ·rename_i x ti hx _
      rw [hargs x (by have:=Array.mem_of_getElem? hx;simpa using this),okV_val,okV_val]
     ·rfl
    case max =>
     simp only [stepE,stepOp,builtinStep,h1]
     split
     ·rw [okV_val,okV_val]
     ·rfl
    case min =>
     simp only [stepE,stepOp,builtinStep,h1]
     split
     ·rw [okV_val,okV_val]
     ·rfl
 unfold stepQ
 split
 ·rename_i x ho;rw [h x (by rw [ho];simp [Op.operands])]
 ·rename_i x ho;rw [h x (by rw [ho];simp [Op.operands])]
 ·split
  ·rename_i hq
   exact key hq
  ·split
   ·unfold freeQ
    split
    ·rename_i args ats ho
     unfold freeStep
     split
     ·rename_i t s x ht h0 hx
      rw [h s (by rw [ho];simp [Op.operands,Call.operands];simpa using Array.mem_of_getElem? h0),h x (by rw [ho];simp [Op.operands,Call.operands];simpa using Array.mem_of_getElem? hx)]
     ·rfl
    ·rfl
   ·rfl
end Go.Ab
namespace Go.Ab
open Go
variable {fr fr':Fr} {st st':St} {o:Oper} {g:G} {fi:FI} {call:Calling}
/-! ### entries,their owners forgotten -/
def isSl (e:E)(xs:List V):Prop:=e=.val (.slice xs)∨(∃ k,e=.own k xs)∨∃ k p,e=.bor k xs p
theorem isSl_weak {e:E} {xs:List V} (h:e.weak=.val (.slice xs)):isSl e xs:=by
 cases e with
 | val v=>exact .inl h
 | own k ys=>cases h;exact .inr (.inl ⟨_,rfl⟩)
 | bor k ys p=>cases h;exact .inr (.inr ⟨_,_,rfl⟩)
 | any=>cases h
 | lp s o=>cases h
theorem weak_cases {e e':E} (h:e.weak=e'.weak):e=e'∨∃ xs,isSl e xs∧isSl e' xs:=by
 have key:∀ (e e':E) (xs:List V),e.weak=e'.weak→e.weak=.val (.slice xs)→e=e'∨∃ xs,isSl e xs∧isSl e' xs:=fun e e' xs h h1 =>
  .inr ⟨xs,isSl_weak h1,isSl_weak (h.symm.trans h1)⟩
 cases e with
 | own k xs=>exact key _ _ xs h rfl
 | bor k xs p=>exact key _ _ xs h rfl
 | any=>cases e' <;> first | exact .inl rfl | cases h
 | lp s o=>cases e' <;> first | (cases h;done) | exact .inl h
 | val v =>
  cases e' with
  | own k xs=>exact key _ _ xs h h
  | bor k xs p=>exact key _ _ xs h h
  | val v'=>exact .inl h
  | any=>cases h
  | lp s o=>cases h
theorem weak_weak (e:E):e.weak.weak=e.weak:=by cases e <;> rfl
theorem calm_weak (e:E):e.calm.weak=e.weak:=by
 cases e with
 | bor k xs p=>cases p <;> rfl
 | _=>rfl
theorem still_weak (e:E):e.still.weak=e.weak:=by
 cases e with
 | bor k xs p=>cases p <;> rfl
 | _=>rfl
theorem inval_weak (e:E)(p:Pl):(e.inval p).weak=e.weak:=by
 cases e with
 | bor k xs q=>simp only [E.inval];split <;> rfl
 | _=>rfl
theorem noMem_weak (e:E):e.noMem.weak=e.weak:=by
 cases e with
 | bor k xs q=>cases q <;> rfl
 | _=>rfl
theorem noLoc_weak (e:E):e.noLoc.weak=e.weak:=by
 cases e with
 | bor k xs q=>cases q <;> rfl
 | _=>rfl
def Blind {α:Type} (f:E→α):Prop:=∀ xs e,isSl e xs→f e=f (.val (.slice xs))
theorem Blind.eq {α:Type} {f:E→α} (hf:Blind f) {e e':E} (h:e.weak=e'.weak):f e=f e':=by
 rcases weak_cases h with rfl | ⟨xs,h1,h2⟩
 ·rfl
 ·rw [hf xs e h1,hf xs e' h2]
theorem blind_v:Blind E.v?:=by rintro xs e (rfl | ⟨k,rfl⟩ | ⟨k,p,rfl⟩) <;> rfl
theorem blind_int:Blind E.int?:=by rintro xs e (rfl | ⟨k,rfl⟩ | ⟨k,p,rfl⟩) <;> rfl
theorem blind_bool:Blind E.bool?:=by rintro xs e (rfl | ⟨k,rfl⟩ | ⟨k,p,rfl⟩) <;> rfl
theorem blind_part:Blind E.part?:=by rintro xs e (rfl | ⟨k,rfl⟩ | ⟨k,p,rfl⟩) <;> rfl
theorem blind_add (n:Nat):Blind fun e=>addrAdd e n:=by rintro xs e (rfl | ⟨k,rfl⟩ | ⟨k,p,rfl⟩) <;> rfl
theorem blind_place (fr:Fr)(st:St):Blind (placeOf fr st):=by rintro xs e (rfl | ⟨k,rfl⟩ | ⟨k,p,rfl⟩) <;> rfl
theorem blind_idx (ti:TI)(i:Int):Blind fun e=>indexAddrStep ti e i:=by
 rintro xs e (rfl | ⟨k,rfl⟩ | ⟨k,p,rfl⟩) <;> simp only [indexAddrStep,elemsOf,addrAdd]
theorem blind_len (k:TK):Blind fun e=>lenE k e:=by
 rintro xs e (rfl | ⟨k',rfl⟩ | ⟨k',p,rfl⟩) <;> cases k <;> simp only [lenE,elemsOf]
theorem blind_app (k:Option TK):Blind (appended k):=by
 rintro xs e (rfl | ⟨k',rfl⟩ | ⟨k',p,rfl⟩) <;> cases k <;> try rfl
 all_goals (rename_i k;cases k <;> rfl)
theorem vsOf_weak:∀ {l l':List E},l.map E.weak=l'.map E.weak→vsOf l=vsOf l'
 | [],[],_=>rfl
 | [],_ :: _,h=>by simp at h
 | _ :: _,[],h=>by simp at h
 | e :: l,e' :: l',h=>by
  simp only [List.map_cons,List.cons.injEq] at h
  simp only [vsOf,blind_v.eq h.1,vsOf_weak h.2]
section
variable (W:∀ x∈o.op.operands,(fr.op x).weak=(fr'.op x).weak)
theorem ops_weak {l:List Operand} (h:∀ x∈l,(fr.op x).weak=(fr'.op x).weak):vsOf (l.map fr.op)=vsOf (l.map fr'.op) :=
 vsOf_weak (by rw [List.map_map,List.map_map];exact List.map_congr_left h)
theorem parts_weak {l:List (Nat × Operand)} (h:∀ x∈l.map (·.2),(fr.op x).weak=(fr'.op x).weak):(l.map fun p=>(p.1,(fr.op p.2).part?))=l.map fun p=>(p.1,(fr'.op p.2).part?) :=
 List.map_congr_left fun p hp=>by rw [blind_part.eq (h p.2 (List.mem_map.2 ⟨p,hp,rfl⟩))]
theorem bound_weak {x:Option Operand} (h:∀ y∈x.toArray,(fr.op y).weak=(fr'.op y).weak):boundOf fr x=boundOf fr' x:=by
 cases x with
 | none=>rfl
 | some y=>simp only [boundOf,blind_int.eq (h y (by simp))]
end
theorem lend_weak (x:Operand):(fr.lend x).weak=(fr.op x).weak:=by
 cases x with
 | tmp t =>
  show (fr.lend (.tmp t)).weak=(fr.get t).weak
  simp only [Fr.lend]
  cases fr.get t <;> rfl
 | _=>rfl
def Rs.wal:Option Rs→Option E
 | some (.ok e _ _)=>some e.weak
 | _=>none
theorem okV_wal {v:Option V}:Rs.wal (okV fr st v)=v.map fun v=>v.toE.weak:=by cases v <;> rfl
theorem okE_wal {v:Option E}:Rs.wal (okE fr st v)=v.map fun v=>v.weak:=by cases v <;> rfl
def SameRead (fr:Fr)(st:St)(fr':Fr)(st':St):Prop :=
 (∀ s,(fr.loc s).map (·.map V.strip1)=(fr'.loc s).map (·.map V.strip1))∧∀ id cs,st.obj id=some cs→∃ cs',st'.obj id=some cs'∧cs'.map V.strip1=cs.map V.strip1
theorem strip1_strip1 (v:V):v.strip1.strip1=v.strip1:=by cases v <;> rfl
theorem cellE_weak {p p':Pl} {v v':V} (h:v.strip1=v'.strip1):(cellE p v).weak=(cellE p' v').weak:=by
 cases v <;> cases v' <;> simp only [V.strip1,reduceCtorEq,V.slice.injEq] at h <;> first
  | rfl
  | (subst h;rfl)
  | (cases h;rfl)
theorem loadCs_weak {ti:TI} {off:Nat} {p p':Pl} {cs cs':List V} (h:cs.map V.strip1=cs'.map V.strip1):(loadCs ti off p cs).map E.weak=(loadCs ti off p' cs').map E.weak:=by
 have hl:cs.length=cs'.length:=by simpa using congrArg List.length h
 unfold loadCs
 split
 ·rw [hl]
  split
  ·simp only [Option.map_some,List.map_take,List.map_drop,h]
  ·rfl
 ·have h1:(cs[off]?).map V.strip1=(cs'[off]?).map V.strip1:=by rw [← List.getElem?_map,← List.getElem?_map,h]
  cases h2:cs[off]? with
  | none =>
   rw [h2] at h1
   cases h3:cs'[off]? with
   | none=>rfl
   | some y=>rw [h3] at h1;cases h1
  | some x =>
   rw [h2] at h1
   cases h3:cs'[off]? with
   | none=>rw [h3] at h1;cases h1
   | some y =>
    rw [h3] at h1
    simp only [Option.map_some,Option.some.injEq] at h1 ⊢
    exact cellE_weak h1
theorem loadAt_weak {ti:TI} {x x' e:E} (hx:x.weak=x'.weak)(hs:SameRead fr st fr' st')(h:Ab.loadAt ti fr st x=some e):∃ e',Ab.loadAt ti fr' st' x'=some e'∧e'.weak=e.weak:=by
 unfold Ab.loadAt at h ⊢
 rw [(blind_place fr st).eq hx] at h
 clear hx
 cases x' with
 | lp s off =>
  simp only [placeOf] at h ⊢
  have:=hs.1 s
  cases h1:fr.loc s with
  | none=>rw [h1] at h;simp at h
  | some cs =>
   rw [h1] at this h
   cases h2:fr'.loc s with
   | none=>rw [h2] at this;cases this
   | some cs' =>
    rw [h2] at this
    simp only [Option.map_some,Option.some.injEq] at this h ⊢
    have hw:=loadCs_weak (ti:=ti) (off:=off) (p:=.loc s off) (p':=.loc s off) this
    rw [h] at hw
    cases h3:loadCs ti off (.loc s off) cs' with
    | none=>rw [h3] at hw;cases hw
    | some e'=>rw [h3] at hw;exact ⟨e',rfl,by simpa using hw.symm⟩
 | val v =>
  cases v <;> simp only [placeOf,reduceCtorEq] at h ⊢
  case ptr id off =>
   cases h1:st.obj id with
   | none=>rw [h1] at h;simp at h
   | some cs =>
    obtain ⟨cs',h2,h3⟩:=hs.2 id cs h1
    rw [h1] at h
    rw [h2]
    simp only [Option.map_some] at h ⊢
    have hw:=loadCs_weak (ti:=ti) (off:=off) (p:=.mem id off) (p':=.mem id off) h3.symm
    rw [h] at hw
    cases h4:loadCs ti off (.mem id off) cs' with
    | none=>rw [h4] at hw;cases hw
    | some e'=>rw [h4] at hw;exact ⟨e',rfl,by simpa using hw.symm⟩
  case ep cs=>exact ⟨e,h,rfl⟩
 | _=>simp [placeOf] at h
def SameAt (x:E)(fr:Fr)(st:St)(fr':Fr)(st':St):Prop :=
 (∃ s off,x.weak=.lp s off∧(fr.loc s).map (·.map V.strip1)=(fr'.loc s).map (·.map V.strip1))∨∃ v,x.weak=.val v∧st'=st
theorem loadAt_same {ti:TI} {x x' e:E} (hx:x.weak=x'.weak)(hs:SameAt x fr st fr' st')(h:Ab.loadAt ti fr st x=some e):∃ e',Ab.loadAt ti fr' st' x'=some e'∧e'.weak=e.weak:=by
 unfold SameAt at hs
 rw [hx] at hs
 unfold Ab.loadAt at h ⊢
 rw [(blind_place fr st).eq hx] at h
 clear hx
 rcases hs with ⟨s,off,hw,this⟩ | ⟨v,hw,rfl⟩
 ·have hx':x'=.lp s off:=by cases x' <;> first | exact hw | cases hw
  subst hx'
  simp only [placeOf] at h ⊢
  cases h1:fr.loc s with
  | none=>rw [h1] at h;simp at h
  | some cs =>
   rw [h1] at this h
   cases h2:fr'.loc s with
   | none=>rw [h2] at this;cases this
   | some cs' =>
    rw [h2] at this
    simp only [Option.map_some,Option.some.injEq] at this h ⊢
    have hw:=loadCs_weak (ti:=ti) (off:=off) (p:=.loc s off) (p':=.loc s off) this
    rw [h] at hw
    cases h3:loadCs ti off (.loc s off) cs' with
    | none=>rw [h3] at hw;cases hw
    | some e'=>rw [h3] at hw;exact ⟨e',rfl,by simpa using hw.symm⟩
 ·cases x' with
  | val v'=>cases v' <;> exact ⟨e,h,rfl⟩
  | lp s o=>cases hw
  | any=>cases hw
  | own k xs=>simp [placeOf] at h
  | bor k xs p=>simp [placeOf] at h
end Go.Ab
namespace Go.Ab
open Go
variable {fr fr':Fr} {st st':St} {o:Oper} {g:G} {fi:FI} {call:Calling}
theorem wal_quiet (h:∀ x∈o.op.operands,(fr.op x).weak=(fr'.op x).weak)(hq:quietOp g o.op=true)(hld:∀ t x,o.op≠.load t x)
  (hcall:∀ f args ats,o.op=.call {callee:=.value (.func f),args:=args,argTypes:=ats}→∃ vs,vsOf (args.toList.map fr.op)=some vs∧flats vs=true) :
  Rs.wal (stepE g fi call fr st o)=Rs.wal (stepE g fi call fr' st' o):=by
 obtain ⟨dst,op,ty,pos,after,guard⟩:=o
 cases op <;> first
  | (simp [quietOp] at hq;done)
  | skip
 case load t x=>exact (hld _ _ rfl).elim
 case pick c a b =>
  have h1:=blind_bool.eq (h c (by simp [Op.operands]))
  have h2:(fr.lend a).weak=(fr'.lend a).weak:=by rw [lend_weak,lend_weak];exact h a (by simp [Op.operands])
  have h3:(fr.lend b).weak=(fr'.lend b).weak:=by rw [lend_weak,lend_weak];exact h b (by simp [Op.operands])
  simp only [stepE,stepOp,h1]
  split
  ·simp only [Rs.wal];split <;> simp [h2,h3]
  ·rfl
 case build t ps =>
  have h1:=parts_weak (fr:=fr) (fr':=fr') (l:=ps.toList) (fun x hx=>h x (by simpa [Op.operands] using hx))
  simp only [stepE,stepOp,h1]
  split
  ·rw [okV_wal,okV_wal]
  ·rfl
 case buildSlice t n ps =>
  have h1:=parts_weak (fr:=fr) (fr':=fr') (l:=ps.toList) (fun x hx=>h x (by simpa [Op.operands] using hx))
  simp only [stepE,stepOp,h1]
  split
  ·rw [okE_wal,okE_wal]
  ·rfl
 case nilCheck x =>
  have h1:=h x (by simp [Op.operands])
  have b:Blind fun e=>Rs.wal (match e with
   | .lp s off=>some (.ok (.lp s off) fr st)
   | .val (.ptr id off)=>some (.ok (.val (.ptr id off)) fr st)
   | .val (.ep cs)=>some (.ok (.val (.ep cs)) fr st)
   | .val (.func f a b)=>some (.ok (.val (.func f a b)) fr st)
   | _=>none):=by rintro xs e (rfl | ⟨k,rfl⟩ | ⟨k,p,rfl⟩) <;> rfl
  have h2:=b.eq h1
  simp only [stepE,stepOp]
  refine Eq.trans h2 ?_
  generalize fr'.op x=e
  cases e with
  | val v=>cases v <;> rfl
  | _=>rfl
 case binOp b t x y u =>
  have h1:=blind_v.eq (h x (by simp [Op.operands]))
  have h2:=blind_v.eq (h y (by simp [Op.operands]))
  simp only [stepE,stepOp,h1,h2]
  split
  ·split
   ·rw [okV_wal,okV_wal]
   ·rfl
  ·rw [okV_wal,okV_wal]
  ·rfl
 case unOp b t x =>
  have h1:=blind_v.eq (h x (by simp [Op.operands]))
  simp only [stepE,stepOp,h1]
  split
  ·rw [okV_wal,okV_wal]
  ·rfl
 case convert s t x =>
  have h1:=blind_v.eq (h x (by simp [Op.operands]))
  simp only [stepE,stepOp,h1]
  split
  ·rw [okE_wal,okE_wal]
  ·rfl
 case makeInterface t x =>
  have h1:=blind_v.eq (h x (by simp [Op.operands]))
  simp only [stepE,stepOp,h1]
  split
  ·split <;> rfl
  ·rfl
 case makeFunc fn first captured =>
  have h1:=ops_weak (fr:=fr) (fr':=fr') (l:=first.toList) (fun x hx=>h x (by simp [Op.operands];exact .inl (by simpa using hx)))
  have h2:=ops_weak (fr:=fr) (fr':=fr') (l:=captured.toList) (fun x hx=>h x (by simp [Op.operands];exact .inr (by simpa using hx)))
  cases fn <;> simp only [stepE,stepOp,h1,h2]
  split <;> rfl
 case makeSlice t l c =>
  have h1:=blind_int.eq (h l (by simp [Op.operands]))
  have h2:=blind_int.eq (h c (by simp [Op.operands]))
  simp only [stepE,stepOp,h1,h2]
  split
  ·split <;> rfl
  ·rfl
 case slice t x lo hi mx =>
  have h1:=blind_v.eq (h x (by simp [Op.operands]))
  have h2:=bound_weak (fr:=fr) (fr':=fr') (x:=lo) (fun y hy=>h y (by simp [Op.operands] at hy ⊢;simp [hy]))
  have h3:=bound_weak (fr:=fr) (fr':=fr') (x:=hi) (fun y hy=>h y (by simp [Op.operands] at hy ⊢;simp [hy]))
  have h4:=bound_weak (fr:=fr) (fr':=fr') (x:=mx) (fun y hy=>h y (by simp [Op.operands] at hy ⊢;simp [hy]))
  simp only [stepE,stepOp,h1,h2,h3,h4]
  split
  ·split
   ·rw [okE_wal,okE_wal]
   ·rfl
  ·rfl
 case fieldAddr t x f =>
  have h1:∀ n,addrAdd (fr.op x) n=addrAdd (fr'.op x) n:=fun n=>(blind_add n).eq (h x (by simp [Op.operands]))
  simp only [stepE,stepOp,h1]
  split
  ·split
   ·rename_i hk hf
    generalize ha:fr.op x=e at *
    generalize hb:fr'.op x=e' at *
    have hw:e.weak=e'.weak:=by rw [← ha,← hb];exact h x (by simp [Op.operands])
    rcases weak_cases hw with rfl | ⟨xs,h2,h3⟩
    ·split
     ·rfl
     ·rw [okE_wal,okE_wal]
    ·rcases h2 with rfl | ⟨k,rfl⟩ | ⟨k,p,rfl⟩ <;> rcases h3 with rfl | ⟨k',rfl⟩ | ⟨k',p',rfl⟩ <;> simp [addrAdd,okE,Rs.wal]
   ·rfl
  ·rfl
 case field t x f =>
  have h1:=blind_v.eq (h x (by simp [Op.operands]))
  simp only [stepE,stepOp,h1]
  split
  ·split
   ·rw [okV_wal,okV_wal]
   ·rfl
  ·rfl
 case indexAddr t x i =>
  have h2:=blind_int.eq (h i (by simp [Op.operands]))
  have h1:∀ ti j,indexAddrStep ti (fr.op x) j=indexAddrStep ti (fr'.op x) j:=fun ti j=>(blind_idx ti j).eq (h x (by simp [Op.operands]))
  simp only [stepE,stepOp,h1,h2]
  split
  ·rw [okE_wal,okE_wal]
  ·rfl
 case index t x i =>
  have h1:=blind_v.eq (h x (by simp [Op.operands]))
  have h2:=blind_int.eq (h i (by simp [Op.operands]))
  simp only [stepE,stepOp,h1,h2]
  split
  ·rw [okV_wal,okV_wal]
  ·rfl
 case extract x i =>
  have h1:=h x (by simp [Op.operands])
  simp only [stepE,stepOp]
  generalize fr.op x=e at *
  generalize fr'.op x=e' at *
  rcases weak_cases h1 with rfl | ⟨xs,h2,h3⟩
  ·split
   ·rw [okV_wal,okV_wal]
   ·rfl
  ·rcases h2 with rfl | ⟨k,rfl⟩ | ⟨k,p,rfl⟩ <;> rcases h3 with rfl | ⟨k',rfl⟩ | ⟨k',p',rfl⟩ <;> rfl
 case call c =>
  obtain ⟨callee,args,ats⟩:=c
  have hargs:∀ x∈args.toList,(fr.op x).weak=(fr'.op x).weak:=fun x hx=>h x (by simp [Op.operands,Call.operands];exact .inr (by simpa using hx))
  have h1:=ops_weak hargs
  cases callee with
  | value x =>
   cases x with
   | func f =>
    have h2:fr.op (.func f)=fr'.op (.func f):=rfl
    obtain ⟨vs,hvs,hfl⟩:=hcall f args ats rfl
    have hvs':vsOf (args.toList.map fr'.op)=some vs:=by rw [← h1];exact hvs
    simp only [stepE,hvs,hvs',Fr.op,List.nil_append,List.append_nil]
    unfold callStep
    split
    ·split <;> rfl
    ·rename_i hext
     split
     ·rfl
     ·rename_i fi' hfi
      simp only [quietOp,hext,hfi] at hq
      rw [if_pos hq,if_pos hq,if_pos hfl,if_pos hfl]
      split
      ·split <;> rfl
      ·rfl
   | _=>simp [quietOp] at hq
  | invoke _ _=>simp [quietOp] at hq
  | builtin b =>
   cases b <;> simp only [quietOp,Bool.false_eq_true] at hq
   case append =>
    split at hq
    ·rename_i v h0
     simp only [stepE,stepOp,builtinStep,appendStep,h0]
     cases ht:ats[0]? with
     | none=>rfl
     | some t =>
      cases hx:args[1]? with
      | none=>rfl
      | some x =>
       have h2:∀ k,appended k (fr.op x)=appended k (fr'.op x):=fun k=>(blind_app k).eq (hargs x (by have:=Array.mem_of_getElem? hx;simpa using this))
       simp only [h2]
       split
       ·split
        ·rename_i esz _ _ _ _ _ _ _ _ _ _
         simp only [baseOf,take,Fr.op]
         cases (constV v).toE <;> try rfl
         rename_i k xs
         by_cases hk:(k == 0 || k == esz)=true
         ·simp only [hk,if_true]
          split <;> rfl
         ·simp only [hk,if_false,Bool.false_eq_true]
        ·rfl
       ·rfl
    ·cases hq
   case len =>
    simp only [stepE,stepOp,builtinStep]
    split
    ·rename_i x ti hx _
     rw [(blind_len ti.k).eq (hargs x (by have:=Array.mem_of_getElem? hx;simpa using this)),okV_wal,okV_wal]
    ·rfl
   case max =>
    simp only [stepE,stepOp,builtinStep,h1]
    split
    ·rw [okV_wal,okV_wal]
    ·rfl
   case min =>
    simp only [stepE,stepOp,builtinStep,h1]
    split
    ·rw [okV_wal,okV_wal]
    ·rfl
theorem free_args {args:Array Operand} {ats:Array TypeId} {i:Nat} {x:Operand} (h:args[i]?=some x):x∈Op.operands (.call {callee:=.builtin .append,args:=args,argTypes:=ats}):=by
 have hx:=Array.mem_of_getElem? h
 simp [Op.operands,Call.operands];simpa using hx
theorem free_appended {k:Option TK} {e e':E} (h:e.weak=e'.weak):appended k e=appended k e':=by
 have b:Blind fun e=>appended k e:=by
  rintro xs e (rfl | ⟨k,rfl⟩ | ⟨k,p,rfl⟩) <;> rfl
 exact b.eq h
theorem stepQ_weak (h:∀ x∈o.op.operands,(fr.op x).weak=(fr'.op x).weak)(hld:∀ t x,o.op=.load t x→SameRead fr st fr' st'∨(∃ cs,fr.op x=.val (.ep cs))∨SameAt (fr.op x) fr st fr' st')
  (hcall:∀ f args ats,o.op=.call {callee:=.value (.func f),args:=args,argTypes:=ats}→∃ vs,vsOf (args.toList.map fr.op)=some vs∧flats vs=true)
  {e:E} (hs:stepQ g fi call fr st o=some e):∃ e',stepQ g fi call fr' st' o=some e'∧e'.weak=e.weak:=by
 have mv:∀ x,x∈o.op.operands→(fr'.op x).still.weak=(fr.op x).still.weak:=fun x hx=>by rw [still_weak,still_weak,h x hx]
 unfold stepQ at hs ⊢
 split at hs
 ·rename_i x ho
  cases hs
  exact ⟨_,rfl,mv x (by rw [ho];simp [Op.operands])⟩
 ·rename_i x ho
  cases hs
  exact ⟨_,rfl,mv x (by rw [ho];simp [Op.operands])⟩
 ·rename_i n1 n2
  split at hs
  ·rename_i hq
   split at hs
   ·rename_i e0 fr1 st1 he
    cases hs
    have:∃ e0' fr1' st1',stepE g fi call fr' st' o=some (.ok e0' fr1' st1')∧e0'.weak=e0.weak:=by
     by_cases hl:∃ t x,o.op=.load t x
     ·obtain ⟨t,x,ho⟩:=hl
      simp only [stepE,stepOp,ho] at he ⊢
      split at he
      ·obtain ⟨x',hx',he2⟩:=okE_some he
       cases he2
       have hxw:=h x (by rw [ho];simp [Op.operands])
       rename_i ti _
       obtain ⟨e',h1,h2⟩:∃ e',Ab.loadAt ti fr' st' (fr'.op x)=some e'∧e'.weak=e0.weak:=by
        rcases hld t x ho with hl | ⟨cs,hl⟩ | hl
        ·exact loadAt_weak hxw hl hx'
        ·rw [hl] at hxw hx'
         have:fr'.op x=.val (.ep cs):=by
          rcases weak_cases hxw with h | ⟨ys,h3,_⟩
          ·exact h.symm
          ·rcases h3 with h3 | ⟨_,h3⟩ | ⟨_,_,h3⟩ <;> cases h3
         rw [this]
         exact ⟨e0,hx',rfl⟩
        ·exact loadAt_same hxw hl hx'
       exact ⟨e',fr',st',by simp [h1,okE],h2⟩
      ·cases he
     ·have hw:=wal_quiet (g:=g) (fi:=fi) (call:=call) (st:=st) (st':=st') h hq (fun t x ho=>hl ⟨t,x,ho⟩) hcall
      rw [he] at hw
      simp only [Rs.wal] at hw
      split at hw
      ·rename_i e0' fr1' st1' he'
       exact ⟨e0',fr1',st1',he',by simpa using hw.symm⟩
      ·cases hw
    obtain ⟨e0',fr1',st1',h1,h2⟩:=this
    rw [if_pos hq,h1]
    exact ⟨_,rfl,by rw [calm_weak,calm_weak,h2]⟩
   ·cases hs
  ·rename_i hq
   split at hs
   ·rename_i hf
    rw [if_neg hq,if_pos hf]
    refine ⟨e,?_,rfl⟩
    unfold freeQ at hs ⊢
    split at hs
    ·rename_i args ats ho
     unfold freeStep at hs ⊢
     split at hs
     ·rename_i t s x ht h0 hx
      have hs':=h s (by rw [ho];exact free_args h0)
      have hx':=h x (by rw [ho];exact free_args hx)
      split at hs
      ·rename_i esz eb ea ez size agg zero hb hti
       have hb':fr'.op s=.val (.osl 0 []):=by
        rw [hb] at hs'
        rcases weak_cases hs' with h | ⟨ys,h3,_⟩
        ·exact h.symm
        ·rcases h3 with h3 | ⟨_,h3⟩ | ⟨_,_,h3⟩ <;> cases h3
       have he:=free_appended (k:=(ats[1]?).bind fun u=>(g.ty u).map TI.k) hx'
       simp only [ht,h0,hx,hb',hti,← he]
       exact hs
      ·cases hs
     ·cases hs
    ·cases hs
   ·cases hs
end Go.Ab
namespace Go.Ab
open Go
variable {fr fr':Fr} {st st':St} {o:Oper} {g:G} {fi:FI} {call:Calling}
theorem map_lset (f:E→E)(l:List (Nat × E))(s:Nat)(v:E):(lset l s v).map (fun x=>(x.1,f x.2))=lset (l.map fun x=>(x.1,f x.2)) s (f v):=by
 induction l with
 | nil=>rfl
 | cons x r ih =>
  obtain ⟨k,z⟩:=x
  simp only [lset,List.map_cons]
  split
  ·rfl
  ·rw [List.map_cons,ih]
theorem map_ins (f:E→E)(l:List (Nat × E))(s:Nat)(v:E):(ins l s v).map (fun x=>(x.1,f x.2))=ins (l.map fun x=>(x.1,f x.2)) s (f v):=by
 induction l with
 | nil=>rfl
 | cons x r ih =>
  obtain ⟨k,z⟩:=x
  simp only [ins,List.map_cons]
  split
  ·rfl
  ·split
   ·rw [List.map_cons,ih]
   ·rfl
theorem map_raw (f:E→E)(s:Nat)(v:E):(fr.raw s v).map f=(fr.map f).raw s (f v):=by
 simp only [Fr.raw_def,Fr.map_def]
 simp only [lk_map]
 cases lk fr.ps s with
 | some x=>simp only [Option.map_some,map_lset]
 | none=>simp only [Option.map_none,map_ins]
theorem lset_comm {α:Type} {s t:Nat} (hst:s≠t) {e f:α}:∀ (l:List (Nat × α)),lset (lset l s e) t f=lset (lset l t f) s e
 | []=>rfl
 | (k,z) :: r=>by
  simp only [lset]
  by_cases h1:k=s
  ·subst h1
   simp [lset,hst]
  ·by_cases h2:k=t
   ·subst h2;simp [lset,h1]
   ·simp [lset,h1,h2,lset_comm hst r]
theorem ins_comm {α:Type} {s t:Nat} (hst:s≠t) {e f:α}:∀ (l:List (Nat × α)),ins (ins l s e) t f=ins (ins l t f) s e
 | []=>by
  simp only [ins]
  rcases Nat.lt_or_gt_of_ne hst with h | h
  ·have h1:¬ t<s:=by omega
   simp [hst,Ne.symm hst,h,h1,Nat.blt_eq]
  ·have h1:¬ s<t:=by omega
   simp [hst,Ne.symm hst,h,h1,Nat.blt_eq]
 | (k,z) :: r=>by
  have ih:=ins_comm hst (e:=e) (f:=f) r
  simp only [ins,beq_iff_eq,Nat.blt_eq]
  by_cases h1:k=s
  ·subst h1
   have h2:¬ k=t:=hst
   simp only [if_true,h2,if_false,ins,beq_iff_eq,Nat.blt_eq]
   by_cases h3:t<k
   ·simp [h3,ins]
   ·have h4:k<t:=by omega
    simp [h3,ins,Ne.symm hst,h4,Nat.blt_eq]
  ·by_cases h2:k=t
   ·subst h2
    simp only [if_true,h1,if_false,ins,beq_iff_eq,Nat.blt_eq]
    by_cases h3:s<k
    ·simp [h3,ins]
    ·have h4:k<s:=by omega
     simp [h3,ins,hst,h4,Nat.blt_eq]
   ·simp only [h1,h2,if_false]
    by_cases h3:s<k <;> by_cases h4:t<k <;> simp only [h3,h4,if_true,if_false,ins,beq_iff_eq,Nat.blt_eq,h1,h2]
    ·rw [ih]
    ·have h5:s<t:=by omega
     have h6:¬ t=s:=by omega
     simp [h5,h6]
    ·have h5:t<s:=by omega
     have h6:¬ s=t:=by omega
     simp [h5,h6]
    ·rcases Nat.lt_or_gt_of_ne hst with h | h
     ·have h5:¬ t<s:=by omega
      simp [hst,Ne.symm hst,h,h5,ins,h4,h2,Nat.blt_eq]
     ·have h5:¬ s<t:=by omega
      simp [hst,Ne.symm hst,h,h5,ins,h3,h1,Nat.blt_eq]
theorem lk_lset' {α:Type} (l:List (Nat × α))(s t:Nat)(e:α):(lk (lset l s e) t).isSome=(lk l t).isSome:=by
 induction l with
 | nil=>rfl
 | cons y r ih =>
  obtain ⟨k,z⟩:=y
  simp only [lset]
  by_cases h1:k=s
  ·subst h1;simp only [beq_self_eq_true,if_true,lk];split <;> rfl
  ·simp only [beq_iff_eq,h1,if_false,lk];split
   ·rfl
   ·exact ih
theorem raw_comm {s t:Nat} (hst:s≠t)(e f:E):(fr.raw s e).raw t f=(fr.raw t f).raw s e:=by
 simp only [Fr.raw_def]
 cases h1:lk fr.ps s with
 | some x =>
  cases h2:lk fr.ps t with
  | some y =>
   have a1:=lk_lset' fr.ps s t e
   have a2:=lk_lset' fr.ps t s f
   rw [h2] at a1;rw [h1] at a2
   obtain ⟨x1,e1⟩:=Option.isSome_iff_exists.1 a1
   obtain ⟨x2,e2⟩:=Option.isSome_iff_exists.1 a2
   simp only [e1,e2,lset_comm hst]
  | none =>
   have a1:=lk_lset' fr.ps s t e
   rw [h2] at a1
   have e1:lk (lset fr.ps s e) t=none:=by simpa using a1
   simp only [e1,h1]
 | none =>
  cases h2:lk fr.ps t with
  | some y =>
   have a2:=lk_lset' fr.ps t s f
   rw [h1] at a2
   have e2:lk (lset fr.ps t f) s=none:=by simpa using a2
   simp only [h2,e2]
  | none =>
   simp only [h1,h2,ins_comm hst]
theorem map_map (f h:E→E):(fr.map f).map h=fr.map fun e=>h (f e):=by
 simp only [Fr.map_def,List.map_map,Function.comp_def]
theorem inval_comm (e:E)(p q:Pl):(e.inval p).inval q=(e.inval q).inval p:=by
 cases e with
 | bor k xs r =>
  simp only [E.inval]
  by_cases h1:r=p <;> by_cases h2:r=q <;> simp [h1,h2,E.inval]
  all_goals (split <;> simp_all [E.inval])
 | _=>rfl
theorem noMem_inval (e:E)(s:Nat):(e.inval (.slot s)).noMem=e.noMem.inval (.slot s):=by
 cases e with
 | bor k xs r =>
  cases r with
  | slot u=>by_cases h:u=s <;> simp [E.inval,E.noMem,h]
  | mem a b=>simp [E.inval,E.noMem]
  | loc a b=>simp [E.inval,E.noMem]
 | _=>rfl
theorem noLoc_inval (e:E)(s:Nat):(e.inval (.slot s)).noLoc=e.noLoc.inval (.slot s):=by
 cases e with
 | bor k xs r =>
  cases r with
  | slot u=>by_cases h:u=s <;> simp [E.inval,E.noLoc,h]
  | mem a b=>simp [E.inval,E.noLoc]
  | loc a b=>simp [E.inval,E.noLoc]
 | _=>rfl
theorem weak_inval (e:E)(p:Pl):e.weak.inval p=e.weak:=by cases e <;> rfl
theorem map_put {f:E→E} {s:Nat} (hc:∀ e,f (e.inval (.slot s))=(f e).inval (.slot s)) (v:E):(fr.put s v).map f=(fr.map f).put s (f v):=by
 simp only [Fr.put_def]
 rw [map_raw,map_map,map_map,hc]
 congr 1
 congr 1
 funext e
 exact hc e
theorem put_put {s t:Nat} (hst:s≠t) {v w:E} (hv:v.inval (.slot t)=v)(hw:w.inval (.slot s)=w):(fr.put s v).put t w=(fr.put t w).put s v:=by
 simp only [Fr.put_def]
 rw [map_raw,map_raw,map_map,map_map,raw_comm hst,inval_comm v,hv,inval_comm w,hw]
 congr 2
 congr 1
 funext e
 exact inval_comm e _ _
structure Still (s:Nat) (v:E) (fr:Fr) (o:Oper):Prop where
 mem:v.noMem=v
 loc:v.noLoc=v
 ops:∀ t,Operand.tmp t∈o.op.operands→t≠s∧v.inval (.slot t)=v∧∀ k xs u,fr.get t=.bor k xs (.slot u)→u≠s∧v.inval (.slot u)=v
section
variable {s:Nat} {v:E}
theorem noMem_put (hm:v.noMem=v):(fr.put s v).map E.noMem=(fr.map E.noMem).put s v:=by rw [map_put (fun e=>noMem_inval e s),hm]
theorem noLoc_put (hm:v.noLoc=v):(fr.put s v).map E.noLoc=(fr.map E.noLoc).put s v:=by rw [map_put (fun e=>noLoc_inval e s),hm]
theorem setLoc_put (t:Nat)(cs:List V):(fr.put s v).setLoc t cs=(fr.setLoc t cs).put s v:=by
 simp only [Fr.put_def,Fr.raw_def,Fr.setLoc_def,Fr.map_def]
 cases lk (fr.ps.map fun x=>(x.1,x.2.inval (.slot s))) s <;> rfl
theorem op_put {o:Oper} (hS:Still s v fr o) {x:Operand} (hx:x∈o.op.operands):(fr.put s v).op x=fr.op x:=by
 cases x with
 | tmp t =>
  obtain ⟨h1,_,h3⟩:=hS.ops t hx
  show (fr.put s v).get t=fr.get t
  rw [get_put,if_neg h1]
  cases he:fr.get t with
  | bor k xs p =>
   cases p with
   | slot u =>
    have:=(h3 k xs u he).1
    simp only [E.inval]
    rw [if_neg (by simpa using this)]
   | _=>rfl
  | _=>rfl
 | _=>rfl
theorem consume_put (hm:v.noMem=v)(hl:v.noLoc=v) {xs:List V} {p:Pl} (hp:∀ u,p=.slot u→u≠s∧v.inval (.slot u)=v):consume (fr.put s v) st xs p=(consume fr st xs p).map fun x=>(x.1.put s v,x.2):=by
 cases p with
 | slot u =>
  obtain ⟨h1,h2⟩:=hp u rfl
  simp only [consume,Option.map_some]
  rw [get_put,if_neg h1,inval_weak,put_put (Ne.symm h1) h2 (weak_inval _ _)]
 | mem id off =>
  simp only [consume]
  cases st.obj id with
  | none=>rfl
  | some cs =>
   simp only
   cases cs[off]? with
   | none=>rfl
   | some c =>
    simp only
    cases st.set id (cs.set off c.strip1) with
    | none=>rfl
    | some st'=>simp only [Option.map_some,noMem_put hm]
 | loc t off =>
  simp only [consume,loc_put]
  cases fr.loc t with
  | none=>rfl
  | some cs =>
   simp only
   cases cs[off]? with
   | none=>rfl
   | some c=>simp only [Option.map_some,setLoc_put,noLoc_put hl]
theorem take_put {o:Oper} (hS:Still s v fr o) {x:Operand} (hx:x∈o.op.operands):take (fr.put s v) st x=(take fr st x).map fun y=>(y.1,y.2.1.put s v,y.2.2):=by
 have ho:=op_put hS hx
 cases x with
 | tmp t =>
  obtain ⟨h1,h2,h3⟩:=hS.ops t hx
  have ho':(fr.put s v).get t=fr.get t:=ho
  simp only [take,ho']
  cases h:fr.get t with
  | own k xs=>simp only [Option.map_some];rw [put_put (Ne.symm h1) h2 rfl]
  | bor k xs p =>
   simp only
   rw [consume_put hS.mem hS.loc (fun u hu=>h3 k xs u (by rw [h,hu]))]
   cases consume fr st xs p <;> rfl
  | _=>rfl
 | _=>rfl
theorem storeAt_put (hm:v.noMem=v)(hl:v.noLoc=v)(size:Nat)(a:E)(cs:List V):storeAt size (fr.put s v) st a cs=(storeAt size fr st a cs).map fun x=>(x.1.put s v,x.2):=by
 have hp:placeOf (fr.put s v) st a=placeOf fr st a:=by
  cases a with
  | lp t off=>simp only [placeOf,loc_put]
  | val y=>cases y <;> rfl
  | _=>rfl
 unfold storeAt
 rw [hp]
 split
 ·split
  ·rename_i t off old _
   cases splice old off cs with
   | none=>rfl
   | some new=>simp only [Option.map_some,setLoc_put,noLoc_put hl]
  ·rename_i id off old _
   cases splice old off cs with
   | none=>rfl
   | some new =>
    simp only
    cases st.set id new with
    | none=>rfl
    | some st'=>simp only [Option.map_some,noMem_put hm]
  ·rfl
 ·rfl
noncomputable def Rs.put (s:Nat)(v:E):Rs→Rs
 | .ok e fr st=>.ok e (fr.put s v) st
 | .pan x st=>.pan x st
theorem stepE_put1 (hS:Still s v fr o)(hsemi:semi fi o=true) :
  stepE g fi call (fr.put s v) st o=(stepE g fi call fr st o).map (Rs.put s v):=by
 obtain ⟨dst,op,ty,pos,after,guard⟩:=o
 cases op <;> first
  | (simp [semi,mild] at hsemi;done)
  | skip
 case alloc t =>
  simp only [semi,mild,Bool.or_false] at hsemi
  simp only [stepE,stepOp]
  split
  ·rename_i h1 h2
   simp only [h2] at hsemi
   rw [Bool.not_eq_true'] at hsemi
   simp only [hsemi,Bool.false_eq_true,if_false];rfl
  ·rfl
 case box t x =>
  simp only [semi,mild,Bool.or_false] at hsemi
  have h1:=op_put hS (x:=x) (by simp [Op.operands])
  simp only [stepE,stepOp,h1]
  split
  ·rename_i h1 h2
   simp only [h2] at hsemi
   rw [Bool.not_eq_true'] at hsemi
   simp only [hsemi,Bool.false_eq_true,if_false];rfl
  ·rfl
 case store t a x =>
  have h2:=take_put (st:=st) hS (x:=x) (by simp [Op.operands])
  simp only [stepE,stepOp]
  cases g.ty t with
  | none=>rfl
  | some ti =>
   simp only [h2]
   cases ht:take fr st x with
   | none=>rfl
   | some y =>
    obtain ⟨e,f,st1⟩:=y
    simp only [Option.map_some]
    cases (upE g t e).cells? with
    | none=>rfl
    | some cs =>
     simp only
     -- an address that a store goes to owns nothing
     have key:storeAt ti.size (f.put s v) st1 ((f.put s v).op a) cs=(storeAt ti.size f st1 (f.op a) cs).map fun x=>(x.1.put s v,x.2):=by
      rw [storeAt_put hS.mem hS.loc]
      have hop:(f.put s v).op a=f.op a∨(placeOf f st1 ((f.put s v).op a)=none∧placeOf f st1 (f.op a)=none):=by
       cases a with
       | tmp b =>
        have hb:=(hS.ops b (by simp [Op.operands])).1
        show (f.put s v).get b=f.get b∨(placeOf f st1 ((f.put s v).get b)=none∧placeOf f st1 (f.get b)=none)
        rw [get_put,if_neg hb]
        cases f.get b with
        | bor k xs p=>right;simp only [E.inval];split <;> exact ⟨rfl,rfl⟩
        | _=>left;rfl
       | _=>left;rfl
      rcases hop with hop | ⟨h5,h6⟩
      ·rw [hop]
      ·unfold storeAt
       rw [h5,h6]
     rw [key]
     cases storeAt ti.size f st1 (f.op a) cs <;> rfl
 case panic x =>
  have h1:=op_put hS (x:=x) (by simp [Op.operands])
  simp only [stepE,stepOp,h1]
  split <;> rfl
 case call c =>
  obtain ⟨callee,args,ats⟩:=c
  have hargs:∀ x∈args.toList,x∈Op.operands (.call {callee:=callee,args:=args,argTypes:=ats}):=fun x hx=>by
   cases callee <;> simp [Op.operands,Call.operands] <;> first | (exact .inr (by simpa using hx)) | (simpa using hx)
  have h1:args.toList.map (fr.put s v).op=args.toList.map fr.op:=List.map_congr_left fun x hx=>op_put hS (hargs x hx)
  cases callee with
  | value x =>
   have h2:=op_put hS (x:=x) (by simp [Op.operands,Call.operands])
   simp only [stepE,h1,h2]
   split
   ·rename_i f first cap vs hf hvs
    unfold callStep
    split
    ·split <;> rfl
    ·split
     ·rfl
     ·split
      ·split
       ·split <;> rfl
       ·rfl
      ·split
       ·simp only [Option.map_some,Rs.put,noMem_put hS.mem]
       ·rfl
       ·rfl
   ·rfl
  | invoke _ _=>simp [semi,mild] at hsemi
  | builtin b =>
   cases b <;> first
    | (simp [semi,mild] at hsemi;done)
    | skip
   simp only [stepE,stepOp,builtinStep,appendStep]
   cases ht:ats[0]? with
   | none=>rfl
   | some t =>
    cases h0:args[0]? with
    | none=>rfl
    | some y =>
     cases hx:args[1]? with
     | none=>rfl
     | some x =>
      have h3:(fr.put s v).op x=fr.op x:=op_put hS (hargs x (by have:=Array.mem_of_getElem? hx;simpa using this))
      have h4:=take_put (st:=st) hS (x:=y) (hargs y (by have:=Array.mem_of_getElem? h0;simpa using this))
      simp only [h3]
      have hbase:∀ esz,baseOf esz (fr.put s v) st y=(baseOf esz fr st y).map fun z=>(z.1,z.2.1.put s v,z.2.2):=by
       intro esz
       simp only [baseOf,h4]
       cases take fr st y with
       | none=>rfl
       | some z =>
        obtain ⟨e,f,st1⟩:=z
        cases e <;> try rfl
        simp only [Option.map_some]
        split <;> rfl
      split
      ·split
       ·rw [hbase]
        split
        ·rename_i heq
         simp only [Option.map_eq_some_iff] at heq
         obtain ⟨⟨a1,a2,a3⟩,h5,h6⟩:=heq
         cases h6
         rw [h5]
         simp only
         split <;> rfl
        ·rename_i heq
         simp only [Option.map_eq_none_iff] at heq
         rw [heq];rfl
       ·rfl
      ·rfl
end
end Go.Ab
namespace Go.Ab
open Go
variable {fr fr':Fr} {st st':St} {o:Oper} {g:G} {fi:FI} {call:Calling}
def SameW (fr fr':Fr):Prop:=∀ t,(fr'.get t).weak=(fr.get t).weak
theorem SameW.refl (fr:Fr):SameW fr fr:=fun _=>rfl
theorem SameW.map {f:E→E} (h0:f .any=.any)(h:∀ e,(f e).weak=e.weak):SameW fr (fr.map f):=fun t=>by rw [get_map _ _ h0,h]
theorem SameW.trans {fr1:Fr} (h:SameW fr fr')(k:SameW fr' fr1):SameW fr fr1:=fun t=>(k t).trans (h t)
def Hot (e:E):Prop:=(∃ k xs,e=.own k xs)∨∃ k xs u,e=.bor k xs (.slot u)
def NoNew (fr fr':Fr):Prop:=∀ t,Hot (fr'.get t)→fr.get t=fr'.get t
theorem NoNew.refl (fr:Fr):NoNew fr fr:=fun _ _=>rfl
theorem NoNew.trans {fr1:Fr} (h:NoNew fr fr')(k:NoNew fr' fr1):NoNew fr fr1:=fun t e=>by
 have h1:=k t e
 rw [← h1] at e
 exact (h t e).trans h1
theorem NoNew.map {f:E→E} (h0:f .any=.any)(h:∀ e,Hot (f e)→e=f e):NoNew fr (fr.map f):=fun t e=>by
 rw [get_map _ _ h0] at e ⊢
 exact h _ e
theorem hot_val (v:V):¬ Hot (.val v):=by rintro (⟨_,_,h⟩ | ⟨_,_,_,h⟩) <;> cases h
theorem hot_any:¬ Hot .any:=by rintro (⟨_,_,h⟩ | ⟨_,_,_,h⟩) <;> cases h
theorem hot_lp (s o:Nat):¬ Hot (.lp s o):=by rintro (⟨_,_,h⟩ | ⟨_,_,_,h⟩) <;> cases h
theorem noMem_new (e:E)(h:Hot e.noMem):e=e.noMem:=by
 cases e with
 | bor k xs p=>cases p <;> first | rfl | exact (hot_val _ h).elim
 | _=>rfl
theorem noLoc_new (e:E)(h:Hot e.noLoc):e=e.noLoc:=by
 cases e with
 | bor k xs p=>cases p <;> first | rfl | exact (hot_val _ h).elim
 | _=>rfl
theorem inval_new (e:E)(p:Pl)(h:Hot (e.inval p)):e=e.inval p:=by
 cases e with
 | bor k xs q =>
  simp only [E.inval] at h ⊢
  split at h
  ·exact (hot_val _ h).elim
  ·rename_i hq;rw [if_neg hq]
 | _=>rfl
theorem NoNew.put {s:Nat} {v:E} (hv:¬ Hot v):NoNew fr (fr.put s v):=fun t e=>by
 rw [get_put] at e ⊢
 split at e
 ·have:=inval_new _ _ e;rw [← this] at e;exact (hv e).elim
 ·rename_i h;rw [if_neg h];exact inval_new _ _ e
theorem weak_new (e:E):¬ Hot e.weak:=by cases e <;> first | exact hot_val _ | exact hot_any | exact hot_lp _ _
theorem SameRead.refl (fr:Fr)(st:St):SameRead fr st fr st:=⟨fun _=>rfl,fun _ cs h=>⟨cs,h,rfl⟩⟩
def Like (fr:Fr)(st:St)(fr':Fr)(st':St):Prop :=
 (∀ s,(fr.loc s).map (·.map V.strip1)=(fr'.loc s).map (·.map V.strip1))∧∀ id,(st.obj id).map (·.map V.strip1)=(st'.obj id).map (·.map V.strip1)
theorem Like.refl (fr:Fr)(st:St):Like fr st fr st:=⟨fun _=>rfl,fun _=>rfl⟩
theorem Like.symm (h:Like fr st fr' st'):Like fr' st' fr st:=⟨fun s=>(h.1 s).symm,fun id=>(h.2 id).symm⟩
theorem Like.reads (h:Like fr st fr' st'):SameRead fr st fr' st':=by
 refine ⟨h.1,fun id cs hc=>?_⟩
 have:=h.2 id
 rw [hc] at this
 cases h2:st'.obj id with
 | none=>rw [h2] at this;cases this
 | some cs'=>rw [h2] at this;exact ⟨cs',rfl,by simpa using this.symm⟩
theorem set_strip {cs:List V} {off:Nat} {c:V} (h:cs[off]?=some c):(cs.set off c.strip1).map V.strip1=cs.map V.strip1:=by
 apply List.ext_getElem?
 intro j
 rw [List.getElem?_map,List.getElem?_map,List.getElem?_set]
 split
 ·rename_i hj
  subst hj
  rw [h]
  have:off<cs.length:=(List.getElem?_eq_some_iff.1 h).1
  simp [this,strip1_strip1]
 ·rfl
theorem lk_lset_eq {α β:Type} (f:α→β)(l:List (Nat × α))(s t:Nat)(e x:α)(h:lk l s=some x)(hf:f e=f x):(lk (lset l s e) t).map f=(lk l t).map f:=by
 rw [lk_lset _ _ _ _ _ h]
 split
 ·rename_i ht;subst ht;rw [h];simp [hf]
 ·rfl
theorem consume_weak {xs:List V} {p:Pl} (h:consume fr st xs p=some (fr',st')):SameW fr fr'∧Like fr st fr' st'∧NoNew fr fr':=by
 cases p with
 | slot u =>
  simp only [consume,Option.some.injEq,Prod.mk.injEq] at h
  obtain ⟨rfl,rfl⟩:=h
  refine ⟨fun t=>?_,⟨fun s=>by rw [loc_put],fun _=>rfl⟩,NoNew.put (weak_new _)⟩
  rw [get_put]
  split
  ·rename_i ht;subst ht;rw [weak_inval,weak_weak]
  ·exact inval_weak _ _
 | mem id off =>
  simp only [consume] at h
  split at h
  ·rename_i cs hcs
   split at h
   ·rename_i c hc
    simp only [Option.map_eq_some_iff,Prod.mk.injEq] at h
    obtain ⟨st2,h1,rfl,rfl⟩:=h
    refine ⟨SameW.map rfl noMem_weak,⟨fun _=>rfl,fun id'=>?_⟩,NoNew.map rfl noMem_new⟩
    unfold St.set at h1
    split at h1
    ·cases h1
     simp only [St.obj,List.getElem?_set]
     split
     ·rename_i hid
      subst hid
      have hlt:id<st.objs.length:=(List.getElem?_eq_some_iff.1 hcs).1
      have hcs':st.objs[id]?=some cs:=hcs
      have hge:st.objs[id]=cs:=by simpa [zge hlt] using hcs'
      simp [hlt,hge,set_strip hc]
     ·rfl
    ·cases h1
   ·cases h
  ·cases h
 | loc t off =>
  simp only [consume] at h
  split at h
  ·rename_i cs hcs
   split at h
   ·rename_i c hc
    cases h
    refine ⟨SameW.map (fr:=fr.setLoc t (cs.set off c.strip1)) rfl noLoc_weak,⟨fun s=>?_,fun _=>rfl⟩,NoNew.map (fr:=fr.setLoc t (cs.set off c.strip1)) rfl noLoc_new⟩
    rw [loc_map,Fr.loc_def,Fr.loc_def,Fr.setLoc_def]
    exact (lk_lset_eq (fun l:List V=>l.map V.strip1) fr.lc t s _ cs ((Fr.loc_def fr t).symm.trans hcs) (set_strip hc)).symm
   ·cases h
  ·cases h
theorem take_weak {x:Operand} {e:E} (h:take fr st x=some (e,fr',st')):SameW fr fr'∧Like fr st fr' st'∧NoNew fr fr':=by
 cases x with
 | tmp t =>
  simp only [take] at h
  split at h
  ·rename_i k xs ht
   cases h
   refine ⟨fun u=>?_,⟨fun s=>by rw [loc_put],fun _=>rfl⟩,NoNew.put (hot_val _)⟩
   rw [get_put]
   split
   ·rename_i hu;subst hu;rw [ht];rfl
   ·exact inval_weak _ _
  ·rename_i k xs p ht
   simp only [Option.map_eq_some_iff] at h
   obtain ⟨⟨f,s⟩,h1,h2⟩:=h
   cases h2
   exact consume_weak h1
  ·cases h;exact ⟨.refl _,.refl _ _,.refl _⟩
 | _=>cases h;exact ⟨.refl _,.refl _ _,.refl _⟩
theorem storeAt_weak {size:Nat} {a:E} {cs:List V} (h:storeAt size fr st a cs=some (fr',st')):SameW fr fr'∧NoNew fr fr':=by
 unfold storeAt at h
 split at h
 ·split at h
  ·rename_i t off old _
   simp only [Option.map_eq_some_iff] at h
   obtain ⟨new,_,h2⟩:=h
   cases h2
   exact ⟨SameW.map (fr:=fr.setLoc t new) rfl noLoc_weak,NoNew.map (fr:=fr.setLoc t new) rfl noLoc_new⟩
  ·split at h
   ·rename_i new _
    simp only [Option.map_eq_some_iff] at h
    obtain ⟨st2,_,h2⟩:=h
    cases h2
    exact ⟨SameW.map rfl noMem_weak,NoNew.map rfl noMem_new⟩
   ·cases h
  ·cases h
 ·cases h
theorem obj_append {objs:List (List V)} {cs:List V} {wp id:Nat} {x:List V} (h:(St.mk objs wp).obj id=some x):(St.mk (objs ++ [cs]) wp).obj id=some x:=by
 have hlt:id<objs.length:=(List.getElem?_eq_some_iff.1 h).1
 simp only [St.obj] at h ⊢
 rw [List.getElem?_append_left hlt];exact h
theorem stepE_weak (hsemi:semi fi o=true) {e:E} (h:stepE g fi call fr st o=some (.ok e fr' st')) :
  SameW fr fr'∧NoNew fr fr'∧(∀ k xs u,e≠.bor k xs (.slot u))∧(mild fi o=true→SameRead fr st fr' st')∧(isAppend o.op=true→SameRead fr' st' fr st):=by
 obtain ⟨dst,op,ty,pos,after,guard⟩:=o
 cases op <;> first
  | (simp [semi,mild] at hsemi;done)
  | skip
 case alloc t =>
  simp only [semi,mild,Bool.or_false] at hsemi
  simp only [stepE,stepOp] at h
  split at h
  ·rename_i h1 h2
   simp only [h2] at hsemi
   rw [Bool.not_eq_true'] at hsemi
   simp only [hsemi,Bool.false_eq_true,if_false,Option.some.injEq,Rs.ok.injEq] at h
   obtain ⟨rfl,rfl,rfl⟩:=h
   exact ⟨.refl _,.refl _,by simp,fun _=>⟨fun _=>rfl,fun id cs hc=>⟨cs,obj_append hc,rfl⟩⟩,fun h=>by simp [isAppend] at h⟩
  ·cases h
 case box t x =>
  simp only [semi,mild,Bool.or_false] at hsemi
  simp only [stepE,stepOp] at h
  split at h
  ·rename_i h1 h2
   simp only [h2] at hsemi
   rw [Bool.not_eq_true'] at hsemi
   simp only [hsemi,Bool.false_eq_true,if_false,Option.some.injEq,Rs.ok.injEq] at h
   obtain ⟨rfl,rfl,rfl⟩:=h
   exact ⟨.refl _,.refl _,by simp,fun _=>⟨fun _=>rfl,fun id cs hc=>⟨cs,obj_append hc,rfl⟩⟩,fun h=>by simp [isAppend] at h⟩
  ·cases h
 case store t a x =>
  have key:SameW fr fr'∧NoNew fr fr'∧e=.any:=by
   simp only [stepE,stepOp] at h
   split at h
   ·split at h
    ·rename_i ht
     split at h
     ·split at h
      ·rename_i hst
       cases h
       have h1:=take_weak ht
       have h2:=storeAt_weak hst
       exact ⟨h1.1.trans h2.1,h1.2.2.trans h2.2,rfl⟩
      ·cases h
     ·cases h
    ·cases h
   ·cases h
  obtain ⟨k1,k2,rfl⟩:=key
  exact ⟨k1,k2,by simp,fun h=>by simp [mild] at h,fun h=>by simp [isAppend] at h⟩
 case panic x =>
  simp only [stepE,stepOp] at h
  split at h <;> cases h
 case call c =>
  obtain ⟨callee,args,ats⟩:=c
  have ret:∀ k v n xs u,retE k v≠.bor n xs (.slot u):=by
   intro k v n xs u
   cases k <;> cases v <;> simp [retE]
  cases callee with
  | value x =>
   have key:SameW fr fr'∧NoNew fr fr'∧(∀ k xs u,e≠.bor k xs (.slot u)):=by
    simp only [stepE] at h
    split at h
    ·unfold callStep at h
     split at h
     ·split at h
      ·cases h;exact ⟨.refl _,.refl _,by simp⟩
      ·cases h
     ·split at h
      ·cases h
      ·split at h
       ·split at h
        ·split at h
         ·cases h;exact ⟨.refl _,.refl _,ret _ _⟩
         ·cases h
        ·cases h
       ·split at h
        ·cases h;exact ⟨SameW.map rfl noMem_weak,NoNew.map rfl noMem_new,ret _ _⟩
        ·cases h
        ·cases h
    ·cases h
   exact ⟨key.1,key.2.1,key.2.2,fun h=>by simp [mild] at h,fun h=>by simp [isAppend] at h⟩
  | invoke _ _=>simp [semi,mild] at hsemi
  | builtin b =>
   cases b <;> first
    | (simp [semi,mild] at hsemi;done)
    | skip
   have key:(SameW fr fr'∧Like fr st fr' st'∧NoNew fr fr')∧(∀ k xs u,e≠.bor k xs (.slot u)):=by
    simp only [stepE,stepOp,builtinStep,appendStep] at h
    split at h
    ·split at h
     ·split at h
      ·split at h
       ·rename_i hbase
        split at h
        ·cases h
         unfold baseOf at hbase
         split at hbase
         ·rename_i ht
          split at hbase
          ·cases hbase;exact ⟨take_weak ht,by simp⟩
          ·cases hbase
         ·cases hbase
        ·cases h
       ·cases h
      ·cases h
     ·cases h
    ·cases h
   exact ⟨key.1.1,key.1.2.2,key.2,fun _=>key.1.2.1.reads,fun _=>key.1.2.1.symm.reads⟩
/-! ### an entry that an effect does not touch -/
def Away (u:Nat)(fr:Fr)(o:Oper):Prop:=∀ t,Operand.tmp t∈o.op.operands→t≠u∧∀ k xs,fr.get t≠.bor k xs (.slot u)
theorem own_map {f:E→E} (h0:f .any=.any)(hf:∀ k xs,f (.own k xs)=.own k xs) {u k:Nat} {xs:List V} (h:fr.get u=.own k xs):(fr.map f).get u=.own k xs:=by
 rw [get_map _ _ h0,h,hf]
theorem own_put {s u k:Nat} {v:E} {xs:List V} (hs:u≠s)(h:fr.get u=.own k xs):(fr.put s v).get u=.own k xs:=by
 rw [get_put,if_neg hs,h];rfl
theorem consume_own {ys:List V} {p:Pl} {u k:Nat} {xs:List V} (hu:fr.get u=.own k xs)(hp:p≠.slot u)(h:consume fr st ys p=some (fr',st')):fr'.get u=.own k xs:=by
 cases p with
 | slot s =>
  simp only [consume,Option.some.injEq,Prod.mk.injEq] at h
  obtain ⟨rfl,rfl⟩:=h
  exact own_put (fun e=>hp (by rw [e])) hu
 | mem id off =>
  simp only [consume] at h
  split at h
  ·split at h
   ·simp only [Option.map_eq_some_iff,Prod.mk.injEq] at h
    obtain ⟨_,_,rfl,rfl⟩:=h
    exact own_map rfl (fun _ _=>rfl) hu
   ·cases h
  ·cases h
 | loc s off =>
  simp only [consume] at h
  split at h
  ·split at h
   ·cases h
    exact own_map (fr:=fr.setLoc s _) rfl (fun _ _=>rfl) hu
   ·cases h
  ·cases h
theorem take_own {x:Operand} {e:E} {u k:Nat} {xs:List V} (hu:fr.get u=.own k xs)(hx:∀ t,x=.tmp t→t≠u∧∀ k xs,fr.get t≠.bor k xs (.slot u))(h:take fr st x=some (e,fr',st')):fr'.get u=.own k xs:=by
 cases x with
 | tmp t =>
  obtain ⟨h1,h2⟩:=hx t rfl
  simp only [take] at h
  split at h
  ·cases h;exact own_put (Ne.symm h1) hu
  ·rename_i n ys p ht
   simp only [Option.map_eq_some_iff] at h
   obtain ⟨⟨f,s⟩,hc,he⟩:=h
   cases he
   exact consume_own hu (fun e=>h2 n ys (by rw [ht,e])) hc
  ·cases h;exact hu
 | _=>cases h;exact hu
theorem storeAt_own {size:Nat} {a:E} {cs:List V} {u k:Nat} {xs:List V} (hu:fr.get u=.own k xs)(h:storeAt size fr st a cs=some (fr',st')):fr'.get u=.own k xs:=by
 unfold storeAt at h
 split at h
 ·split at h
  ·rename_i t off old _
   simp only [Option.map_eq_some_iff] at h
   obtain ⟨new,_,h2⟩:=h
   cases h2
   exact own_map (fr:=fr.setLoc t new) rfl (fun _ _=>rfl) hu
  ·split at h
   ·simp only [Option.map_eq_some_iff] at h
    obtain ⟨st2,_,h2⟩:=h
    cases h2
    exact own_map rfl (fun _ _=>rfl) hu
   ·cases h
  ·cases h
 ·cases h
theorem stepE_own (hsemi:semi fi o=true) {e:E} {u k:Nat} {xs:List V} (hu:fr.get u=.own k xs)(ha:Away u fr o)(h:stepE g fi call fr st o=some (.ok e fr' st')):fr'.get u=.own k xs:=by
 obtain ⟨dst,op,ty,pos,after,guard⟩:=o
 cases op <;> first
  | (simp [semi,mild] at hsemi;done)
  | skip
 case alloc t =>
  simp only [semi,mild,Bool.or_false] at hsemi
  simp only [stepE,stepOp] at h
  split at h
  ·rename_i h1 h2
   simp only [h2] at hsemi
   rw [Bool.not_eq_true'] at hsemi
   simp only [hsemi,Bool.false_eq_true,if_false,Option.some.injEq,Rs.ok.injEq] at h
   obtain ⟨rfl,rfl,rfl⟩:=h
   exact hu
  ·cases h
 case box t x =>
  simp only [semi,mild,Bool.or_false] at hsemi
  simp only [stepE,stepOp] at h
  split at h
  ·rename_i h1 h2
   simp only [h2] at hsemi
   rw [Bool.not_eq_true'] at hsemi
   simp only [hsemi,Bool.false_eq_true,if_false,Option.some.injEq,Rs.ok.injEq] at h
   obtain ⟨rfl,rfl,rfl⟩:=h
   exact hu
  ·cases h
 case store t a x =>
  simp only [stepE,stepOp] at h
  split at h
  ·split at h
   ·rename_i ht
    split at h
    ·split at h
     ·rename_i hst
      cases h
      exact storeAt_own (take_own hu (fun t hx=>ha t (by subst hx;simp [Op.operands])) ht) hst
     ·cases h
    ·cases h
   ·cases h
  ·cases h
 case panic x =>
  simp only [stepE,stepOp] at h
  split at h <;> cases h
 case call c =>
  obtain ⟨callee,args,ats⟩:=c
  cases callee with
  | value x =>
   simp only [stepE] at h
   split at h
   ·unfold callStep at h
    split at h
    ·split at h
     ·cases h;exact hu
     ·cases h
    ·split at h
     ·cases h
     ·split at h
      ·split at h
       ·split at h
        ·cases h;exact hu
        ·cases h
       ·cases h
      ·split at h
       ·cases h;exact own_map rfl (fun _ _=>rfl) hu
       ·cases h
       ·cases h
   ·cases h
  | invoke _ _=>simp [semi,mild] at hsemi
  | builtin b =>
   cases b <;> first
    | (simp [semi,mild] at hsemi;done)
    | skip
   simp only [stepE,stepOp,builtinStep,appendStep] at h
   split at h
   ·rename_i s x _ hs _
    split at h
    ·split at h
     ·split at h
      ·rename_i hbase
       split at h
       ·cases h
        unfold baseOf at hbase
        split at hbase
        ·rename_i ht
         split at hbase
         ·cases hbase
          refine take_own hu (fun t hx=>ha t ?_) ht
          subst hx
          have:=Array.mem_of_getElem? hs
          simp [Op.operands,Call.operands];simpa using this
         ·cases hbase
        ·cases hbase
       ·cases h
      ·cases h
     ·cases h
    ·cases h
   ·cases h
end Go.Ab
