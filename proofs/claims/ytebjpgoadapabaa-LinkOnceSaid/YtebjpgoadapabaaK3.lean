/- whatever is put, ticked, lost, said twice, or strange, an end does and says what the document's does. No condition. Part 3. -/
import Derived.LoopN
import Derived.Recover
import Derived.ProofKit
import Derived.SizedLaws
import Derived.Test.YtebjpgoadapabaaChecked
import Derived.Test.YtebjpgoadapabaaRows
import Derived.Test.YtebjpgoadapabaaK2
set_option linter.unusedVariables false
set_option linter.unusedSimpArgs false
set_option linter.unnecessarySimpa false
set_option maxHeartbeats 8000000
set_option maxRecDepth 20000
open Int renaming not_le → zil, not_lt → zit, natCast_add → zia
open Nat renaming not_le → znl, not_lt → znt
open List renaming getElem?_eq_getElem → zge, getElem?_eq_some_iff → zgs, append_assoc → zaa, mem_of_getElem? → zmg, length_append → zla
namespace Go.Ab
open Go
variable {g:G} {fi:FI} {call:Calling} {fr fr':Fr} {st st':St} {o:Oper} {ops:Array Oper} {k:Nat}
inductive Made (fr:Fr) (st:St):Array Operand→Rs→Prop
 | fresh {l:Array Operand} {e:E} {st':St} (he:∀ k xs u,e≠.bor k xs (.slot u)):Made fr st l (.ok e fr st')
 | took {l:Array Operand} {x:Operand} {e0 e:E} {f:Fr} {st1 st':St} (hx:x∈l) (ht:take fr st x=some (e0,f,st1)) (he:∀ k xs u,e≠.bor k xs (.slot u)):Made fr st l (.ok e f st')
 | grew {l:Array Operand} {x:Operand} {e0 e:E} {f:Fr} {st1 st':St} (hx:x∈l) (ht:take fr st x=some (e0,f,st1)) (he:∀ k xs u,e≠.bor k xs (.slot u)):Made fr st l (.ok e (f.map E.noMem) st')
theorem mem_args {args:Array Operand} {callee:Callee} {ats:Array TypeId} {i:Nat} {x:Operand} (h:args[i]?=some x):x∈Op.operands (.call {callee:=callee,args:=args,argTypes:=ats}):=by
 have hx:=Array.mem_of_getElem? h
 cases callee <;> simp [Op.operands,Call.operands] <;> first | (exact .inr (by simpa using hx)) | (simpa using hx)
theorem made {rs:Rs} (h:markStep g fr st o=some rs):Made fr st o.op.operands rs:=by
 unfold markStep at h
 split at h
 ·rename_i t x lo ho
  rw [ho]
  unfold markTail at h
  split at h
  ·split at h
   ·rename_i htk
    split at h
    ·cases h
     exact .took (x:=x) (by simp [Op.operands]) htk (by simp)
    ·cases h
   ·rename_i htk
    split at h
    ·cases h
     exact .took (x:=x) (by simp [Op.operands]) htk (by simp)
    ·cases h
   ·cases h
  ·cases h
 ·rename_i args ats ho
  rw [ho]
  unfold markAppend at h
  split at h
  ·rename_i h0 _ _
   split at h
   ·split at h
    ·split at h
     ·split at h
      ·rename_i htk
       split at h
       ·cases h
        split
        ·exact .took (mem_args h0) htk (by simp)
        ·exact .took (mem_args h0) htk (by simp)
       ·cases h
      ·rename_i htk
       split at h
       ·cases h
        split
        ·exact .took (mem_args h0) htk (by simp)
        ·exact .took (mem_args h0) htk (by simp)
       ·cases h
      ·rename_i htk
       split at h
       ·split at h
        ·cases h
         split
         ·exact .took (mem_args h0) htk (by simp)
         ·exact .took (mem_args h0) htk (by simp)
        ·cases h
       ·cases h
      ·rename_i htk
       split at h
       ·split at h
        ·simp only [Option.map_eq_some_iff] at h
         obtain ⟨st2,_,rfl⟩:=h
         exact .grew (mem_args h0) htk (by simp)
        ·split at h
         ·simp only [Option.map_eq_some_iff] at h
          obtain ⟨st2,_,rfl⟩:=h
          exact .grew (mem_args h0) htk (by simp)
         ·cases h
       ·cases h
      ·cases h
     ·cases h
    ·cases h
   ·cases h
  ·cases h
 ·split at h
  ·split at h
   ·cases h
    split
    ·exact .fresh (by simp)
    ·exact .fresh (by simp)
   ·cases h
  ·cases h
 ·split at h
  ·split at h
   ·cases h;exact .fresh (by simp)
   ·cases h
  ·cases h
 ·cases h
theorem tail_like (ht:isTail o.op=true) {e:E} (h:markStep g fr st o=some (.ok e fr' st')):Like fr st fr' st':=by
 unfold isTail at ht
 split at ht
 ·rename_i t x lo ho
  unfold markStep at h
  rw [ho] at h
  simp only at h
  unfold markTail at h
  split at h
  ·split at h
   ·rename_i htk
    split at h
    ·cases h;exact (take_weak htk).2.1
    ·cases h
   ·rename_i htk
    split at h
    ·cases h;exact (take_weak htk).2.1
    ·cases h
   ·cases h
  ·cases h
 ·cases ht
theorem stepM_weak (hsemi:semiM fi o=true) {e:E} (h:stepM g fi call fr st o=some (.ok e fr' st')) :
  SameW fr fr'∧NoNew fr fr'∧(∀ k xs u,e≠.bor k xs (.slot u))∧(mildM fi o=true→SameRead fr st fr' st')∧(isAppendM fi o=true→SameRead fr' st' fr st):=by
 unfold stepM at h
 split at h
 ·rename_i hm
  refine (fun (key:SameW fr fr'∧NoNew fr fr'∧(∀ k xs u,e≠.bor k xs (.slot u)))=>⟨key.1,key.2.1,key.2.2,fun h9=>(tail_like (by simpa [mildM,hm] using h9) h).reads,fun h9=>(tail_like (by simpa [isAppendM,hm] using h9) h).symm.reads⟩) ?_
  cases made h with
  | fresh he=>exact ⟨.refl _,.refl _,he⟩
  | took hx ht he=>exact ⟨(take_weak ht).1,(take_weak ht).2.2,he⟩
  | grew hx ht he=>exact ⟨(take_weak ht).1.trans (SameW.map rfl noMem_weak),(take_weak ht).2.2.trans (NoNew.map rfl noMem_new),he⟩
 ·rename_i hm
  have hm:marked fi o=false:=by simpa using hm
  have hs2:semi fi o=true:=by simpa [semiM,hm] using hsemi
  rw [if_neg (by rw [frzM_semi hs2];simp)] at h
  obtain ⟨h1,h2,h3,h4,h5⟩:=stepE_weak hs2 h
  exact ⟨h1,h2,h3,fun h=>h4 (by simpa [mildM,hm] using h),fun h=>h5 (by simpa [isAppendM,hm] using h)⟩
theorem stepM_own (hsemi:semiM fi o=true) {e:E} {u k:Nat} {xs:List V} (hu:fr.get u=.own k xs)(ha:Away u fr o)(h:stepM g fi call fr st o=some (.ok e fr' st')):fr'.get u=.own k xs:=by
 unfold stepM at h
 split at h
 ·rename_i hm
  cases made h with
  | fresh he=>exact hu
  | took hx ht he=>exact take_own hu (fun t hx'=>ha t (hx' ▸ hx)) ht
  | grew hx ht he=>exact own_map rfl (fun _ _=>rfl) (take_own hu (fun t hx'=>ha t (hx' ▸ hx)) ht)
 ·rename_i hm
  have hm:marked fi o=false:=by simpa using hm
  have hs2:semi fi o=true:=by simpa [semiM,hm] using hsemi
  rw [if_neg (by rw [frzM_semi hs2];simp)] at h
  exact stepE_own hs2 hu ha h
theorem eqPlain_eq {a b:V} (h:eqPlain a b=true):a=b:=by
 unfold eqPlain at h
 split at h <;> simp_all
theorem eqPlains_eq:∀ {a b:List V},eqPlains a b=true→a=b
 | [],[],_=>rfl
 | x :: r,y :: s,h=>by
  simp only [eqPlains,Bool.and_eq_true] at h
  rw [eqPlain_eq h.1,eqPlains_eq h.2]
 | [],_ :: _,h=>by cases h
 | _ :: _,[],h=>by cases h
theorem SameRead.trans {fr2:Fr} {st2:St} (h:SameRead fr st fr' st')(k:SameRead fr' st' fr2 st2):SameRead fr st fr2 st2 :=
 ⟨fun s=>(h.1 s).trans (k.1 s),fun id cs hc=>by
  obtain ⟨c1,h1,h2⟩:=h.2 id cs hc
  obtain ⟨c2,h3,h4⟩:=k.2 id c1 h1
  exact ⟨c2,h3,h4.trans h2⟩⟩
theorem idle_same (hi:idleStore g fr st o=true) {e:E} (h:stepE g fi call fr st o=some (.ok e fr' st')):SameRead fr st fr' st':=by
 unfold idleStore at hi
 split at hi
 ·rename_i t a x ho
  split at hi
  ·rename_i e0 fr1 st1 ht
   split at hi
   ·rename_i cs hcs
    split at hi
    ·rename_i s off old hp
     split at hi
     ·rename_i new hn
      have h0:=eqPlains_eq hi
      unfold stepE at h
      rw [ho] at h
      simp only [stepOp,ho,ht,hcs] at h
      split at h
      ·split at h
       ·rename_i hst
        cases h
        unfold storeAt at hst
        split at hst
        ·rw [hp] at hst
         simp only [hn,Option.map_some,Option.some.injEq,Prod.mk.injEq] at hst
         obtain ⟨rfl,rfl⟩:=hst
         refine (take_weak ht).2.1.reads.trans ⟨fun u=>?_,fun id cs hc=>⟨cs,hc,rfl⟩⟩
         have hold:fr1.loc s=some old:=by
          generalize fr1.op a=ea at hp
          cases ea <;> simp only [placeOf,Option.map_eq_some_iff,reduceCtorEq,and_false,exists_false] at hp
          ·rename_i y
           cases y <;> simp at hp
          ·obtain ⟨c,h5,h6⟩:=hp
           cases h6;exact h5
         show (fr1.loc u).map _=(((fr1.setLoc s new).map E.noLoc).loc u).map _
         rw [loc_map,Fr.loc_def,Fr.loc_def,Fr.setLoc_def]
         exact (lk_lset_eq (fun l=>l.map V.strip1) fr1.lc s u new old ((Fr.loc_def fr1 s).symm.trans hold) h0.symm).symm
        ·cases hst
       ·cases h
      ·cases h
     ·cases hi
    ·cases hi
   ·cases hi
  ·cases hi
 ·cases hi
theorem idle_sameM (ht:tameB fi ops k o=true)(hi:idleStore g fr st o=true) {e:E} (h:stepM g fi call fr st o=some (.ok e fr' st')):SameRead fr st fr' st':=by
 unfold stepM at h
 split at h
 ·have hs:isStore o.op=true:=by
   unfold tameB at ht
   rw [Bool.and_eq_true] at ht;exact ht.1
  unfold isStore at hs
  split at hs
  ·rename_i ho
   unfold markStep at h
   rw [ho] at h;cases h
  ·cases hs
 ·have hf:frzM fi o=false:=frzM_not (fun x ho=>by
   unfold tameB isStore at ht
   rw [ho] at ht;simp at ht) (fun x ho=>by
   unfold tameB isStore at ht
   rw [ho] at ht;simp at ht)
  rw [if_neg (by rw [hf];simp)] at h
  exact idle_same hi h
section
variable {s:Nat} {v:E}
theorem stepM_put1 (hS : Still s v fr o) (hsemi : semiM fi o = true) :
    stepM g fi call (fr.put s v) st o = (stepM g fi call fr st o).map (Rs.put s v) := by
  unfold stepM
  split
  · unfold markStep
    split
    · rename_i t x lo ho
      unfold markTail
      have e1 : (fr.put s v).op lo = fr.op lo := op_put hS (by rw [ho]; simp [Op.operands])
      have e0 := take_put (st := st) hS (x := x) (by rw [ho]; simp [Op.operands])
      rw [e1]
      split
      · rw [e0]
        cases hq : take fr st x with
        | none => rfl
        | some z =>
          obtain ⟨e, f, st1⟩ := z
          simp only [Option.map_some]
          cases e with
          | own k xs =>
            simp only
            split <;> rfl
          | val w =>
            cases w with
            | slice xs =>
              simp only
              split <;> rfl
            | _ => rfl
          | _ => rfl
      · rfl
    · rename_i args ats ho
      unfold markAppend
      cases h0 : ats[0]? with
      | none => rfl
      | some t =>
        cases h1 : args[0]? with
        | none => rfl
        | some x =>
          cases h2 : args[1]? with
          | none => rfl
          | some y =>
            have e1 : (fr.put s v).op y = fr.op y := op_put hS (ho ▸ mem_args h2)
            have e0 := take_put (st := st) hS (x := x) (ho ▸ mem_args h1)
            cases h3 : (ats[1]?).bind g.ty with
            | none => rfl
            | some ti =>
              obtain ⟨tk, q1, q2, q3⟩ := ti
              cases tk <;> try rfl
              simp only [e1, e0]
              split
              · split
                · split
                  · cases hq : take fr st x with
                    | none => rfl
                    | some z =>
                      obtain ⟨e, f, st1⟩ := z
                      simp only [Option.map_some]
                      cases e with
                      | own k xs =>
                        cases xs with
                        | nil =>
                          simp only
                          split
                          · rename_i hc
                            simp only [hc, if_true, Option.map_some, Option.some.injEq]
                            split <;> rfl
                          · rename_i hc
                            simp only [hc, if_false, Option.map_none, Bool.false_eq_true]
                        | cons _ _ => rfl
                      | val w =>
                        cases w with
                        | sref fl k id off len =>
                          cases fl with
                          | true =>
                            by_cases hz : k = 0 ∧ id = 0 ∧ off = 0 ∧ len = 0
                            · obtain ⟨rfl, rfl, rfl, rfl⟩ := hz
                              simp only
                              split
                              · rename_i hc
                                simp only [hc, if_true, Option.map_some, Option.some.injEq]
                                split <;> rfl
                              · rename_i hc
                                simp only [hc, if_false, Option.map_none, Bool.false_eq_true]
                            · cases k <;> cases id <;> cases off <;> cases len <;> first
                                | exact absurd ⟨rfl, rfl, rfl, rfl⟩ hz
                                | (simp only
                                   generalize st1.obj _ = ob
                                   cases ob with
                                   | none => rfl
                                   | some cs =>
                                     simp only
                                     split
                                     · simp only [Option.map_some, Option.some.injEq]
                                       split <;> rfl
                                     · rfl)
                          | false =>
                          simp only
                          cases st1.obj id with
                          | none => rfl
                          | some cs =>
                            simp only
                            split
                            · simp only [noMem_put hS.mem]
                              cases st1.set id [] with
                              | none => rfl
                              | some st2 => rfl
                            · split
                              · simp only [noMem_put hS.mem]
                                cases st1.set id [] with
                                | none => rfl
                                | some st2 => rfl
                              · rfl
                        | _ => rfl
                      | _ => rfl
                  · rfl
                · rfl
              · rfl
    · rename_i t len parts ho
      have e1 : (parts.toList.map fun p => (p.1, ((fr.put s v).op p.2).part?)) = parts.toList.map fun p => (p.1, (fr.op p.2).part?) :=
        List.map_congr_left fun p hp => by rw [op_put hS (x := p.2) (by rw [ho]; simp only [Op.operands]; simpa using ⟨p.1, by simpa using hp⟩)]
      rw [e1]
      split
      · split
        · simp only [Option.map_some, Option.some.injEq]
          split <;> rfl
        · rfl
      · rfl
    · rename_i t l c ho
      have e1 : (fr.put s v).op l = fr.op l := op_put hS (by rw [ho]; simp [Op.operands])
      have e2 : (fr.put s v).op c = fr.op c := op_put hS (by rw [ho]; simp [Op.operands])
      rw [e1, e2]
      split
      · split <;> rfl
      · rfl
    · rfl
  · rename_i hm
    have hm : marked fi o = false := by simpa using hm
    have hs2 : semi fi o = true := by simpa [semiM, hm] using hsemi
    rw [if_neg (by rw [frzM_semi hs2]; simp), if_neg (by rw [frzM_semi hs2]; simp)]
    exact stepE_put1 hS hs2
end
end Go.Ab
namespace Go.Ab
open Go
variable {P:Program} {d n:Nat} {κ:K} {w:World} {lam:Lam} {fr fr':Fr} {st st':St} {a:Act} {o:Oper}
theorem calm_slot (e:E)(k:Nat)(xs:List V)(u:Nat):e.calm≠.bor k xs (.slot u):=by
 cases e with
 | bor k xs p=>cases p <;> simp [E.calm]
 | _=>simp [E.calm]
theorem still_slot (e:E)(k:Nat)(xs:List V)(u:Nat):e.still≠.bor k xs (.slot u):=by
 cases e with
 | bor k xs p=>cases p <;> simp [E.still]
 | _=>simp [E.still]
theorem weak_slot (e:E)(k:Nat)(xs:List V)(u:Nat):e.weak≠.bor k xs (.slot u):=by cases e <;> simp [E.weak]
theorem loc_puts (l:List (Nat × E)):∀ (fr:Fr),(fr.puts l).loc=fr.loc:=by
 induction l with
 | nil=>intro fr;rfl
 | cons x r ih=>intro fr;show ((fr.put x.1 x.2).puts r).loc=_;rw [ih];funext s;exact loc_put _ _ _ _
theorem loc_putO' (dst:Option Nat)(e:E):(fr.putO dst e).loc=fr.loc:=by
 cases dst with
 | none=>rfl
 | some s=>funext t;exact loc_put fr s t e
theorem putO_puts (dst:Option Nat)(e:E):fr.puts (dst.toList.map fun s=>(s,e))=fr.putO dst e:=by cases dst <;> rfl
/-! ### what may lend -/
theorem borOk_spec {ops:Array Oper} {i u t:Nat} (h:borOk ops i u t=true) {r:Nat} {o:Oper} (ho:ops[r]?=some o) :
  (t∈o.looksAt ops→isBase ops t o=true∧∀ (w:Nat) p,ops[w]?=some p→p.dst=some u→depB ops 4 w r=true) ∧
  (r≠i→u∈o.looksAt ops→isMove u o.op=true∧∀ b,o.dst=some b→∀ (j:Nat) p,ops[j]?=some p→isBase ops b p=false):=by
 have h1:=List.all_eq_true.1 h r (List.mem_range.2 (Array.getElem?_eq_some_iff.1 ho).1)
 rw [ho] at h1
 simp only [Bool.and_eq_true,Bool.or_eq_true,Bool.not_eq_true',looks,List.contains_eq_mem,decide_eq_false_iff_not,beq_iff_eq] at h1
 obtain ⟨h1,h2⟩:=h1
 refine ⟨fun ht=>?_,fun hr hu=>?_⟩
 ·rcases h1 with h1 | ⟨h1,h3⟩
  ·exact (h1 ht).elim
  ·refine ⟨h1,fun w p hp hd=>?_⟩
   have h4:=List.all_eq_true.1 h3 w (List.mem_range.2 (Array.getElem?_eq_some_iff.1 hp).1)
   rw [hp] at h4
   simpa [hd] using h4
 ·rcases h2 with (h2 | h2) | ⟨h2,h3⟩
  ·exact (hr h2).elim
  ·exact (h2 hu).elim
  ·refine ⟨h2,fun b hb j p hp=>?_⟩
   rw [hb] at h3
   have h4:=List.all_eq_true.1 h3 j (List.mem_range.2 (Array.getElem?_eq_some_iff.1 hp).1)
   rw [hp] at h4
   simpa using h4
theorem handOk_spec {ops:Array Oper} {i q:Nat} (h:handOk ops i q=true) {r:Nat} {o:Oper} (ho:ops[r]?=some o)(hr:r≠i):q ∉ o.looksAt ops:=by
 have h1:=List.all_eq_true.1 h r (List.mem_range.2 (Array.getElem?_eq_some_iff.1 ho).1)
 rw [ho] at h1
 simp only [Bool.or_eq_true,Bool.not_eq_true',looks,List.contains_eq_mem,decide_eq_false_iff_not,beq_iff_eq] at h1
 rcases h1 with h1 | h1
 ·exact (hr h1).elim
 ·exact h1
theorem looks_op {ops:Array Oper} {x:Operand} (hx:x∈o.op.operands) {t:Nat} (h:x=.tmp t):t∈o.looksAt ops:=by
 subst h
 unfold Oper.looksAt;exact List.mem_append_left _ (List.mem_filterMap.2 ⟨.tmp t,by simpa using hx,rfl⟩)
theorem move_quiet {g:G} {fi:FI} {x:Operand} (h:o.op=.move x):isQM g fi o=true:=by
 unfold isQM marked
 rw [h];rfl
def BI (ops:Array Oper)(fr:Fr):Prop :=
 ∀ t k xs u,fr.get t=.bor k xs (.slot u)→∃ i o,ops[i]?=some o∧o.op=.move (.tmp u)∧o.dst=some t∧borOk ops i u t=true
theorem BI.new {ops:Array Oper} (h:BI ops fr)(k:NoNew fr fr'):BI ops fr':=fun t n xs u e=>h t n xs u ((k t (.inr ⟨n,xs,u,e⟩)).trans e)
theorem bi_calm (ops:Array Oper):BI ops fr.calm:=fun t k xs u e=>by
 rw [show fr.calm.get t=(fr.get t).calm from get_map _ E.calm rfl t] at e
 exact (calm_slot _ _ _ _ e).elim
theorem get_clear (s:Nat):fr.clear.get s=(fr.get s).calm∨fr.clear.get s=.any:=by
 rw [Fr.get_def,Fr.get_def]
 simp only [Fr.clear,mapR_eq,lk_map]
 cases lk fr.ps s with
 | some e=>exact .inl rfl
 | none=>exact .inr rfl
theorem bi_clear (ops:Array Oper):BI ops fr.clear:=fun t k xs u e=>by
 rcases get_clear (fr:=fr) t with h | h
 ·rw [h] at e;exact (calm_slot _ _ _ _ e).elim
 ·rw [h] at e;cases e
section
variable (g:G)(fi:FI)(call:Calling)(ops:Array Oper)
def Yld (i:Nat)(o:Oper)(y:List (Nat × E))(fr:Fr)(st:St):Prop :=
 (wantedE ops.toList o fr=some true∧isQM g fi o=true∧stepW g fi call ops i fr st o=some y)∨(wantedE ops.toList o fr=some false∧y=o.dst.toList.map fun s=>(s,.val (.tuple [])))
def aOp (i:Nat)(K:Fr→St→Prop)(PQ:V→St→Prop)(fr:Fr)(st:St):Prop :=
 match ops[i]? with
 | none=>K fr st
 | some o=>(∃ y,Yld g fi call ops i o y fr st∧K (fr.puts y) st) ∨
   ((pivotB ops i || semiM fi o)=true∧firm g fi ops i o fr=true∧isQM g fi o=false∧wantedE ops.toList o fr=some true ∧
    ((∃ e fr1 st1,stepM g fi call fr st o=some (.ok e fr1 st1)∧(tameB fi ops i o=true→SameRead fr st fr1 st1)∧K (if semiM fi o then fr1.putO o.dst e else (fr1.putO o.dst e).calm) st1)∨(∃ v st1,stepM g fi call fr st o=some (.pan v st1)∧PQ v st1)))
def anyA (Q:Fr→St→Prop)(PQ:V→St→Prop):Nat→Array Bool→Fr→St→Prop
 | 0,listed,fr,st=>Region.ready .any ops listed=[]∧Q fr st
 | fuel+1,listed,fr,st=>(Region.ready .any ops listed=[]→Q fr st)∧∀ i∈Region.ready .any ops listed,aOp g fi call ops i (anyA Q PQ fuel (listed.setIfInBounds i true)) PQ fr st
end
def Closed (ops:Array Oper)(listed:Array Bool):Prop :=
 ∀ j o,ops[j]?=some o→listed.getD j false=true→∀ e∈o.after,Region.binds .any e=true→listed.getD e.on false=true
theorem Closed.list {ops:Array Oper} {listed:Array Bool} (h:Closed ops listed) {i:Nat} (hr:i∈Region.ready .any ops listed):Closed ops (listed.setIfInBounds i true):=by
 intro j o ho hj e he hb
 by_cases hji:j=i
 ·subst hji
  obtain ⟨_,o',ho',hall⟩:=mem_ready.1 hr
  rw [ho] at ho';cases ho'
  exact getD_set_true (hall e he hb)
 ·rw [getD_set_ne false (Ne.symm hji)] at hj
  exact getD_set_true (h j o ho hj e he hb)
theorem depB_spec {ops:Array Oper} {listed:Array Bool} (hcl:Closed ops listed):∀ (n:Nat) {j i:Nat},depB ops n j i=true→(∀ o,ops[j]?=some o→∀ e∈o.after,Region.binds .any e=true→listed.getD e.on false=true)→listed.getD i false=true
 | 0,_,_,h,_=>by simp [depB] at h
 | n+1,j,i,h,hall=>by
  simp only [depB] at h
  split at h
  ·rename_i o ho
   obtain ⟨e,he,h1⟩:=List.any_eq_true.1 h
   have he':e∈o.after:=by simpa using he
   simp only [Bool.or_eq_true,Bool.and_eq_true,beq_iff_eq] at h1
   rcases h1 with ⟨hb,rfl⟩ | ⟨hb,hd⟩
   ·exact hall o ho e he' hb
   ·exact depB_spec hcl n hd fun o' ho'=>hcl _ o' ho' (hall o ho e he' hb)
  ·cases h
theorem not_both {listed:Array Bool} {j:Nat} (h1:listed.getD j true=false)(h2:listed.getD j false=true):False:=by
 rcases Nat.lt_or_ge j listed.size with h | h
 ·simp [h] at h1 h2;rw [h1] at h2;cases h2
 ·simp [Array.getElem?_eq_none h] at h2
theorem ready_size {ops:Array Oper} {listed:Array Bool} {j:Nat} (h:j∈Region.ready .any ops listed):j<ops.size:=by
 obtain ⟨_,o,ho,_⟩:=mem_ready.1 h
 exact (Array.getElem?_eq_some_iff.1 ho).1
theorem not_dep {ops:Array Oper} {listed:Array Bool} (hcl:Closed ops listed) {i j:Nat} (hi:i∈Region.ready .any ops listed)(hj:j∈Region.ready .any ops listed)(h:depB ops 4 j i=true):False:=by
 obtain ⟨hiu,_⟩:=mem_ready.1 hi
 obtain ⟨_,oj,hoj,hja⟩:=mem_ready.1 hj
 exact not_both hiu (depB_spec hcl 4 h (fun o ho=>by rw [hoj] at ho;cases ho;exact hja))
theorem pivot_alone {ops:Array Oper} {listed:Array Bool} (hcl:Closed ops listed) {k i:Nat} (hp:pivotB ops k=true)(hk:k∈Region.ready .any ops listed)(hi:i∈Region.ready .any ops listed):i=k:=by
 simp only [pivotB,Bool.and_eq_true,List.all_eq_true] at hp
 rcases Nat.lt_trichotomy i k with h | h | h
 ·exact (not_dep hcl hi hk (hp.1 i (by simpa using h))).elim
 ·exact h
 ·have hlt:=ready_size hi
  exact (not_dep hcl hk hi (hp.2 i (by rw [List.mem_range'_1];omega))).elim
theorem not_ordered {ops:Array Oper} {listed:Array Bool} (hcl:Closed ops listed) {i j:Nat} (hi:i∈Region.ready .any ops listed)(hj:j∈Region.ready .any ops listed)(hne:j≠i):ordB ops j i=false:=by
 cases h:ordB ops j i with
 | false=>rfl
 | true =>
  simp only [ordB,Bool.or_eq_true,beq_iff_eq] at h
  rcases h with h | h
  ·exact (hne h).elim
  ·split at h
   ·exact (not_dep hcl hi hj h).elim
   ·exact (not_dep hcl hj hi h).elim
theorem strong_ord {g:G} {fi:FI} {ops:Array Oper} {i j:Nat} {oj:Oper} (h:strongB g fi ops i=true)(hj:ops[j]?=some oj)(hq:isQM g fi oj=false):ordB ops j i=true:=by
 have h1:=List.all_eq_true.1 h j (List.mem_range.2 (Array.getElem?_eq_some_iff.1 hj).1)
 rw [hj] at h1
 simpa [hq] using h1
theorem mild_ord {g:G} {fi:FI} {ops:Array Oper} {i j:Nat} {oj:Oper} (h:mildFor g fi ops i=true)(hj:ops[j]?=some oj)(hq:isQM g fi oj=false)(hn:ordB ops j i=false):(mildM fi oj=true∧(i<j∨isAppendM fi oj=true))∨(isStore oj.op=true∧i<j)∨isCallV oj=true:=by
 have h1:=List.all_eq_true.1 h j (List.mem_range.2 (Array.getElem?_eq_some_iff.1 hj).1)
 rw [hj] at h1
 simpa [hq,hn,Nat.blt_eq,or_assoc] using h1
theorem tame_of {fi:FI} {ops:Array Oper} {i j:Nat} {oi oj:Oper} (hi:ops[i]?=some oi)(hl:isLoad oi.op=true)(hs:isStore oj.op=true)(hij:i<j)(hn:ordB ops j i=false)(he:elseP fi ops i oi j oj=false):tameB fi ops j oj=true:=by
 unfold tameB
 rw [hs,Bool.true_and,Bool.not_eq_true']
 refine Bool.eq_false_iff.2 fun h=>?_
 have h1:=List.all_eq_true.1 h i (List.mem_range.2 hij)
 rw [hi] at h1
 simp [hl,hn,he] at h1
section
variable {g:G} {fi:FI} {call:Calling} {ops:Array Oper} {PQ:V→St→Prop}
theorem freeQ_own {op:Op} {e:E} (h:freeQ g fr op=some e):∃ n ys,e=.own n ys:=by
 unfold freeQ at h
 split at h
 ·unfold freeStep at h
  split at h
  ·split at h
   ·split at h
    ·split at h
     ·cases h;exact ⟨_,_,rfl⟩
     ·cases h
    ·cases h
   ·cases h
  ·cases h
 ·cases h
theorem stepQ_slot {e:E} (h:stepQ g fi call fr st o=some e)(k:Nat)(xs:List V)(u:Nat):e≠.bor k xs (.slot u):=by
 unfold stepQ at h
 split at h
 ·cases h;exact still_slot _ _ _ _
 ·cases h;exact still_slot _ _ _ _
 ·split at h
  ·split at h
   ·cases h;exact calm_slot _ _ _ _
   ·cases h
  ·split at h
   ·obtain ⟨n,ys,rfl⟩:=freeQ_own h;simp
   ·cases h
structure YOk (ops:Array Oper) (i:Nat) (o:Oper) (y:List (Nat × E)):Prop where
 slot:∀ s v,(s,v)∈y→o.dst=some s∨(o.op=.assign (.tmp s)∧handOk ops i s=true)
 bor:∀ s v k xs u,(s,v)∈y→v=.bor k xs (.slot u)→o.dst=some s∧o.op=.move (.tmp u)∧borOk ops i u s=true
theorem YOk.one {i:Nat} {t:Nat} {e:E} (hd:o.dst=some t)(he:∀ k xs u,e≠.bor k xs (.slot u)):YOk ops i o [(t,e)] where
 slot:=fun s v h=>by simp only [List.mem_singleton,Prod.mk.injEq] at h;obtain ⟨rfl,rfl⟩:=h;exact .inl hd
 bor:=fun s v k xs u h hv=>by simp only [List.mem_singleton,Prod.mk.injEq] at h;obtain ⟨rfl,rfl⟩:=h;exact (he k xs u hv).elim
theorem YOk.dst {i:Nat} {e:E} (he:∀ k xs u,e≠.bor k xs (.slot u)):YOk ops i o (o.dst.toList.map fun s=>(s,e)):=by
 cases hd:o.dst with
 | none=>exact ⟨fun s v h=>(by cases h),fun s v k xs u h=>(by cases h)⟩
 | some t=>exact YOk.one hd he
inductive StepW (g:G) (fi:FI) (call:Calling) (ops:Array Oper) (k:Nat) (fr:Fr) (st:St) (o:Oper):List (Nat × E)→Prop
 | lend {u t n:Nat} {xs:List V} (ho:o.op=.move (.tmp u)) (hd:o.dst=some t) (hu:fr.get u=.own n xs) (hb:borOk ops k u t=true):StepW g fi call ops k fr st o [(t,.bor n xs (.slot u))]
 | keep {u t n:Nat} {xs:List V} (ho:o.op=.move (.tmp u)) (hd:o.dst=some t) (hu:fr.get u=.own n xs) (hb:borOk ops k u t=false):StepW g fi call ops k fr st o [(t,.val (.slice xs))]
 | move {u t:Nat} (ho:o.op=.move (.tmp u)) (hd:o.dst=some t) (hu:∀ n xs,fr.get u≠.own n xs) (hs:strongB g fi ops k=true):StepW g fi call ops k fr st o [(t,(fr.get u).still)]
 | movew {u t:Nat} (ho:o.op=.move (.tmp u)) (hd:o.dst=some t) (hu:∀ n xs,fr.get u≠.own n xs) (hs:strongB g fi ops k=false):StepW g fi call ops k fr st o [(t,(fr.get u).weak)]
 | hand {u t n:Nat} {xs:List V} (ho:o.op=.assign (.tmp u)) (hd:o.dst=some t) (hu:fr.get u=.own n xs) (hb:handOk ops k u=true) (hne:u≠t):StepW g fi call ops k fr st o [(u,.val (.slice xs)),(t,upE g o.type (.own n xs))]
 | akeep {u t n:Nat} {xs:List V} (ho:o.op=.assign (.tmp u)) (hd:o.dst=some t) (hu:fr.get u=.own n xs) (hb:(handOk ops k u && !(u == t))=false):StepW g fi call ops k fr st o [(t,.val (.slice xs))]
 | assign {u t:Nat} (ho:o.op=.assign (.tmp u)) (hd:o.dst=some t) (hu:∀ n xs,fr.get u≠.own n xs) (hs:strongB g fi ops k=true):StepW g fi call ops k fr st o [(t,(fr.get u).still)]
 | assignw {u t:Nat} (ho:o.op=.assign (.tmp u)) (hd:o.dst=some t) (hu:∀ n xs,fr.get u≠.own n xs) (hs:strongB g fi ops k=false):StepW g fi call ops k fr st o [(t,(fr.get u).weak)]
 | other {e:E} (hno:∀ u t,o.dst=some t→o.op≠.move (.tmp u)∧o.op≠.assign (.tmp u)) (h:stepQ g fi call fr st o=some e) (hs:strongB g fi ops k=true):StepW g fi call ops k fr st o (o.dst.toList.map fun s=>(s,e))
 | otherw {e:E} (hno:∀ u t,o.dst=some t→o.op≠.move (.tmp u)∧o.op≠.assign (.tmp u)) (h:stepQ g fi call fr st o=some e) (hs:strongB g fi ops k=false) (hw:weakOk g fi ops k o fr=true):StepW g fi call ops k fr st o (o.dst.toList.map fun s=>(s,e.weak))
theorem stepW_iff {k:Nat} {y:List (Nat × E)}:stepW g fi call ops k fr st o=some y↔StepW g fi call ops k fr st o y:=by
 constructor
 ·intro h
  unfold stepW at h
  split at h
  ·rename_i u t ho hd
   split at h
   ·rename_i n xs hu
    split at h
    ·rename_i hb;cases h;exact .lend ho hd hu hb
    ·rename_i hb;cases h;exact .keep ho hd hu (by simpa using hb)
   ·rename_i hne
    split at h
    ·rename_i hs;cases h;exact .move ho hd (fun n xs=>hne n xs) hs
    ·rename_i hs;cases h;exact .movew ho hd (fun n xs=>hne n xs) (by simpa using hs)
  ·rename_i u t ho hd
   split at h
   ·rename_i n xs hu
    split at h
    ·rename_i hb
     cases h
     rw [Bool.and_eq_true] at hb
     exact .hand ho hd hu hb.1 (by simpa using hb.2)
    ·rename_i hb;cases h;exact .akeep ho hd hu (by simpa using hb)
   ·rename_i hne
    split at h
    ·rename_i hs;cases h;exact .assign ho hd (fun n xs=>hne n xs) hs
    ·rename_i hs;cases h;exact .assignw ho hd (fun n xs=>hne n xs) (by simpa using hs)
  ·rename_i hn1 hn2
   have hno:∀ u t,o.dst=some t→o.op≠.move (.tmp u)∧o.op≠.assign (.tmp u):=fun u t hd=>⟨fun ho=>hn1 u t ho hd,fun ho=>hn2 u t ho hd⟩
   split at h
   ·rename_i e he
    split at h
    ·rename_i hs;cases h;exact .other hno he hs
    ·rename_i hs
     split at h
     ·rename_i hw;cases h;exact .otherw hno he (by simpa using hs) hw
     ·cases h
   ·cases h
 ·intro h
  unfold stepW
  cases h with
  | lend ho hd hu hb=>simp only [ho,hd,hu,hb,if_true]
  | keep ho hd hu hb=>simp only [ho,hd,hu,hb,Bool.false_eq_true,if_false]
  | move ho hd hu hs =>
   simp only [ho,hd]
   generalize fr.get _=x at hu
   cases x <;> first
    | exact (hu _ _ rfl).elim
    | simp only [hs,if_true]
  | movew ho hd hu hs =>
   simp only [ho,hd]
   generalize fr.get _=x at hu
   cases x <;> first
    | exact (hu _ _ rfl).elim
    | simp only [hs,Bool.false_eq_true,if_false]
  | hand ho hd hu hb hne =>
   simp only [ho,hd,hu,hb,Bool.true_and]
   rw [if_pos (by simpa using hne)]
  | akeep ho hd hu hb=>simp only [ho,hd,hu,hb,Bool.false_eq_true,if_false]
  | assign ho hd hu hs =>
   simp only [ho,hd]
   generalize fr.get _=x at hu
   cases x <;> first
    | exact (hu _ _ rfl).elim
    | simp only [hs,if_true]
  | assignw ho hd hu hs =>
   simp only [ho,hd]
   generalize fr.get _=x at hu
   cases x <;> first
    | exact (hu _ _ rfl).elim
    | simp only [hs,Bool.false_eq_true,if_false]
  | other hno h hs =>
   split
   ·rename_i u t ho hd;exact ((hno u t hd).1 ho).elim
   ·rename_i u t ho hd;exact ((hno u t hd).2 ho).elim
   ·simp only [h,hs,if_true]
  | otherw hno h hs hw =>
   split
   ·rename_i u t ho hd;exact ((hno u t hd).1 ho).elim
   ·rename_i u t ho hd;exact ((hno u t hd).2 ho).elim
   ·simp only [h,hs,hw,Bool.false_eq_true,if_false,if_true]
theorem upE_own (t:Nat)(n:Nat)(xs:List V):∃ m,upE g t (.own n xs)=.own m xs:=by
 unfold upE
 split
 ·rename_i heq
  cases heq
  split
  ·split <;> exact ⟨_,rfl⟩
  ·exact ⟨_,rfl⟩
 ·rename_i hne;exact (hne _ _ rfl).elim
theorem Yld.ok {i:Nat} {y:List (Nat × E)} (h:Yld g fi call ops i o y fr st):YOk ops i o y:=by
 rcases h with ⟨_,_,h⟩ | ⟨_,rfl⟩
 ·cases stepW_iff.1 h with
  | lend ho hd hu hb =>
   refine ⟨fun s v h=>?_,fun s v k xs u h hv=>?_⟩
   ·simp only [List.mem_singleton,Prod.mk.injEq] at h;obtain ⟨rfl,rfl⟩:=h;exact .inl hd
   ·simp only [List.mem_singleton,Prod.mk.injEq] at h;obtain ⟨rfl,rfl⟩:=h
    cases hv;exact ⟨hd,ho,hb⟩
  | keep ho hd hu hb=>exact YOk.one hd (by simp)
  | move ho hd hu hs=>exact YOk.one hd (still_slot _)
  | movew ho hd hu hs=>exact YOk.one hd (weak_slot _)
  | hand ho hd hu hb hne =>
   refine ⟨fun s v h=>?_,fun s v k xs u h hv=>?_⟩
   ·simp only [List.mem_cons,Prod.mk.injEq,List.not_mem_nil,or_false] at h
    rcases h with ⟨rfl,rfl⟩ | ⟨rfl,rfl⟩
    ·exact .inr ⟨ho,hb⟩
    ·exact .inl hd
   ·simp only [List.mem_cons,Prod.mk.injEq,List.not_mem_nil,or_false] at h
    rcases h with ⟨rfl,rfl⟩ | ⟨rfl,rfl⟩
    ·cases hv
    ·obtain ⟨m,hm⟩:=upE_own (g:=g) o.type _ _
     rw [hm] at hv;cases hv
  | akeep ho hd hu hb=>exact YOk.one hd (by simp)
  | assign ho hd hu hs=>exact YOk.one hd (still_slot _)
  | assignw ho hd hu hs=>exact YOk.one hd (weak_slot _)
  | other hno h9 hs=>exact YOk.dst (stepQ_slot h9)
  | otherw hno h9 hs hw=>exact YOk.dst (weak_slot _)
 ·exact YOk.dst (by simp)
theorem wanted_weak (hs:∀ t∈o.looksAt ops,(fr.get t).weak=(fr'.get t).weak):wantedE ops.toList o fr=wantedE ops.toList o fr':=by
 unfold wantedE
 cases hg:o.guard with
 | none=>rfl
 | some jw =>
  obtain ⟨j,want⟩:=jw
  simp only
  cases hd:(ops.toList[j]?).bind (·.dst) with
  | none=>rfl
  | some t =>
   have:t∈o.looksAt ops:=by
    unfold Oper.looksAt
    refine List.mem_append_right _ ?_
    rw [hg]
    have hd':(ops[j]?).bind (·.dst)=some t:=by rw [← Array.getElem?_toList];exact hd
    simp only [hd'];simp
   have b:Blind fun e=>(match e with
    | .val (.bool b)=>some (b == want)
    | .val (.tuple [])=>some false
    | _=>none:Option Bool):=by rintro xs e (rfl | ⟨k,rfl⟩ | ⟨k,p,rfl⟩) <;> rfl
   have h2:=b.eq (hs t this)
   simp only
   refine Eq.trans ?_ (h2.trans ?_)
   ·cases fr.get t with
    | val v=>cases v <;> first | rfl | (rename_i vs;cases vs <;> rfl)
    | _=>rfl
   ·cases fr'.get t with
    | val v=>cases v <;> first | rfl | (rename_i vs;cases vs <;> rfl)
    | _=>rfl
theorem wanted_congr (hs:∀ t∈o.looksAt ops,fr.get t=fr'.get t):wantedE ops.toList o fr=wantedE ops.toList o fr':=wanted_weak fun t ht=>by rw [hs t ht]
theorem call_loc {fr':Fr} {st':St} {e:E} (hc:isCallV o=true)(h:stepM g fi call fr st o=some (.ok e fr' st')):fr'.loc=fr.loc:=by
 unfold isCallV at hc
 split at hc
 ·rename_i x args ats ho
  unfold stepM at h
  split at h
  ·unfold markStep at h
   rw [ho] at h;cases h
  ·rw [if_neg (by rw [frzM_not (fun x hx=>by rw [ho] at hx;cases hx) (fun x hx=>by rw [ho] at hx;cases hx)];simp)] at h
   unfold stepE at h
   rw [ho] at h
   simp only at h
   split at h
   ·unfold callStep at h
    split at h
    ·split at h
     ·cases h;rfl
     ·cases h
    ·split at h
     ·cases h
     ·split at h
      ·split at h
       ·split at h
        ·cases h;rfl
        ·cases h
       ·cases h
      ·split at h
       ·cases h;rfl
       ·cases h
       ·cases h
   ·cases h
 ·cases hc
theorem call_same {i j:Nat} {oj:Oper} {fr':Fr} {st':St} {e e':E} (d:Option Nat)(hj:ops[j]?=some oj)(hq:isQM g fi oj=false)(hn:ordB ops j i=false)(hc:isCallV oj=true) {p:Oper} (hel:elseOk g fi ops i p e'=true)
  (h:stepM g fi call fr st oj=some (.ok e fr' st')):SameAt e' fr st (fr'.putO d e) st'∧SameAt e' (fr'.putO d e) st' fr st:=by
 have hb:besideCall g fi ops i=true:=List.any_eq_true.2 ⟨j,List.mem_range.2 (Array.getElem?_eq_some_iff.1 hj).1,by simp only [hj,hc,hq,hn,Bool.not_false,Bool.and_self]⟩
 unfold elseOk at hel
 rw [hb,Bool.and_eq_true] at hel
 have hl:isLp e'=true:=by simpa using hel.1
 unfold isLp at hl
 split at hl
 ·rename_i s o hw
  refine ⟨.inl ⟨s,o,hw,?_⟩,.inl ⟨s,o,hw,?_⟩⟩
  ·rw [loc_putO',call_loc hc h]
  ·rw [loc_putO',call_loc hc h]
 ·cases hl
theorem elseOk_weak {i:Nat} {p:Oper} {e e':E} (h:e.weak=e'.weak):elseOk g fi ops i p e=elseOk g fi ops i p e':=by
 unfold elseOk otherE isLp
 rw [h]
theorem weakOk_weak {i:Nat} (h:∀ x∈o.op.operands,(fr.op x).weak=(fr'.op x).weak):weakOk g fi ops i o fr=weakOk g fi ops i o fr':=by
 obtain ⟨dst,op,ty,pos,after,guard⟩:=o
 cases op <;> try rfl
 case load t x =>
  have h2:=h x (by simp [Op.operands])
  simp only [weakOk]
  rw [elseOk_weak h2]
  generalize fr.op x=e at *
  generalize fr'.op x=e' at *
  rcases weak_cases h2 with rfl | ⟨xs,h3,h4⟩
  ·rfl
  ·rcases h3 with rfl | ⟨k,rfl⟩ | ⟨k,p,rfl⟩ <;> rcases h4 with rfl | ⟨k',rfl⟩ | ⟨k',p',rfl⟩ <;> rfl
 rename_i c
 obtain ⟨callee,args,ats⟩:=c
 cases callee <;> try rfl
 rename_i x
 have hargs:∀ x∈args.toList,(fr.op x).weak=(fr'.op x).weak:=fun x hx=>h x (by simp [Op.operands,Call.operands];exact .inr (by simpa using hx))
 have h1:=ops_weak hargs
 have h2:=h x (by simp [Op.operands,Call.operands])
 simp only [weakOk,h1]
 generalize fr.op x=e at *
 generalize fr'.op x=e' at *
 rcases weak_cases h2 with rfl | ⟨xs,h3,h4⟩
 ·rfl
 ·rcases h3 with rfl | ⟨k,rfl⟩ | ⟨k,p,rfl⟩ <;> rcases h4 with rfl | ⟨k',rfl⟩ | ⟨k',p',rfl⟩ <;> rfl
theorem op_of {x:Operand} (hx:x∈o.op.operands)(hs:∀ t∈o.looksAt ops,fr.get t=fr'.get t):fr.op x=fr'.op x:=by
 cases x with
 | tmp t=>exact hs t (looks_op hx rfl)
 | _=>rfl
theorem op_ofw {x:Operand} (hx:x∈o.op.operands)(hs:∀ t∈o.looksAt ops,(fr.get t).weak=(fr'.get t).weak):(fr.op x).weak=(fr'.op x).weak:=by
 cases x with
 | tmp t=>exact hs t (looks_op hx rfl)
 | _=>rfl
theorem move_looks {u:Nat} (ho:o.op=.move (.tmp u)):u∈o.looksAt ops:=looks_op (x:=.tmp u) (by rw [ho];simp [Op.operands]) rfl
theorem assign_looks {u:Nat} (ho:o.op=.assign (.tmp u)):u∈o.looksAt ops:=looks_op (x:=.tmp u) (by rw [ho];simp [Op.operands]) rfl
theorem Yld.congr {i:Nat} {y:List (Nat × E)} (h:Yld g fi call ops i o y fr st)(hs:∀ t∈o.looksAt ops,fr.get t=fr'.get t)(hl:fr.loc=fr'.loc):Yld g fi call ops i o y fr' st:=by
 have h1:∀ x∈o.op.operands,fr.op x=fr'.op x:=fun x hx=>op_of hx hs
 rcases h with ⟨hw,hq,h⟩ | ⟨hw,rfl⟩
 ·refine .inl ⟨by rw [← wanted_congr hs];exact hw,hq,stepW_iff.2 ?_⟩
  cases stepW_iff.1 h with
  | lend ho hd hu hb=>exact .lend ho hd (by rw [← hs _ (move_looks ho)];exact hu) hb
  | keep ho hd hu hb=>exact .keep ho hd (by rw [← hs _ (move_looks ho)];exact hu) hb
  | move ho hd hu hs'=>rw [hs _ (move_looks ho)] at hu ⊢;exact .move ho hd hu hs'
  | movew ho hd hu hs'=>rw [hs _ (move_looks ho)] at hu ⊢;exact .movew ho hd hu hs'
  | hand ho hd hu hb hne=>exact .hand ho hd (by rw [← hs _ (assign_looks ho)];exact hu) hb hne
  | akeep ho hd hu hb=>exact .akeep ho hd (by rw [← hs _ (assign_looks ho)];exact hu) hb
  | assign ho hd hu hs'=>rw [hs _ (assign_looks ho)] at hu ⊢;exact .assign ho hd hu hs'
  | assignw ho hd hu hs'=>rw [hs _ (assign_looks ho)] at hu ⊢;exact .assignw ho hd hu hs'
  | other hno h9 hs'=>exact .other hno (by rw [← stepQ_congr h1 hl];exact h9) hs'
  | otherw hno h9 hs' hw'=>exact .otherw hno (by rw [← stepQ_congr h1 hl];exact h9) hs' (by rw [← weakOk_weak fun x hx=>by rw [h1 x hx]];exact hw')
 ·exact .inr ⟨by rw [← wanted_congr hs];exact hw,rfl⟩
def Light (y:List (Nat × E)):Prop:=∀ s v,(s,v)∈y→v.noMem=v∧v.noLoc=v
theorem light_one {t:Nat} {e:E} (h:e.noMem=e∧e.noLoc=e):Light [(t,e)]:=fun s v hm=>by
 simp only [List.mem_singleton,Prod.mk.injEq] at hm;obtain ⟨rfl,rfl⟩:=hm;exact h
theorem light_dst {dst:Option Nat} {e:E} (h:e.noMem=e∧e.noLoc=e):Light (dst.toList.map fun s=>(s,e)):=by
 cases dst with
 | none=>intro s v h;cases h
 | some t=>exact light_one h
theorem weak_light (e:E):e.weak.noMem=e.weak∧e.weak.noLoc=e.weak:=by cases e <;> exact ⟨rfl,rfl⟩
theorem Yld.weak {i:Nat} {y:List (Nat × E)} (h:Yld g fi call ops i o y fr st)(hn:wantedE ops.toList o fr=some true→strongB g fi ops i=false)(hs:∀ t∈o.looksAt ops,(fr.get t).weak=(fr'.get t).weak)
  (hK:∀ u t,o.dst=some t→(o.op=.move (.tmp u)∧borOk ops i u t=true)∨(o.op=.assign (.tmp u)∧handOk ops i u=true)→fr.get u=fr'.get u∨((∀ n xs,fr.get u≠.own n xs)∧∀ n xs,fr'.get u≠.own n xs))
  (hld:mildFor g fi ops i=true→∀ t x,o.op=.load t x→elseOk g fi ops i o (fr.op x)=true→SameRead fr st fr' st'∨SameAt (fr.op x) fr st fr' st'):Yld g fi call ops i o y fr' st'∧Light y:=by
 have h1:∀ x∈o.op.operands,(fr.op x).weak=(fr'.op x).weak:=fun x hx=>op_ofw hx hs
 rcases h with ⟨hw,hq,h⟩ | ⟨hw,rfl⟩
 ·have hns:=hn hw
  have hw':wantedE ops.toList o fr'=some true:=by rw [← wanted_weak hs];exact hw
  have sl:∀ {u n:Nat} {xs:List V},u∈o.looksAt ops→fr.get u=.own n xs→(fr'.get u).weak=.val (.slice xs):=fun hu h=>by rw [← hs _ hu,h];rfl
  have sl':∀ {u n:Nat} {xs:List V},u∈o.looksAt ops→fr'.get u=.own n xs→(fr.get u).weak=.val (.slice xs):=fun hu h=>by rw [hs _ hu,h];rfl
  cases stepW_iff.1 h with
  | lend ho hd hu hb =>
   rename_i u t n xs
   refine ⟨.inl ⟨hw',hq,stepW_iff.2 (.lend ho hd ?_ hb)⟩,light_one ⟨rfl,rfl⟩⟩
   rcases hK u t hd (.inl ⟨ho,hb⟩) with h2 | h2
   ·rw [← h2];exact hu
   ·exact (h2.1 _ _ hu).elim
  | keep ho hd hu hb =>
   rename_i u t n xs
   refine ⟨.inl ⟨hw',hq,stepW_iff.2 ?_⟩,light_one ⟨rfl,rfl⟩⟩
   have h2:=sl (move_looks ho) hu
   by_cases h3:∃ m ys,fr'.get u=.own m ys
   ·obtain ⟨m,ys,h3⟩:=h3
    rw [h3] at h2
    cases h2
    exact .keep ho hd h3 hb
   ·have:=StepW.movew (g:=g) (fi:=fi) (call:=call) (ops:=ops) (k:=i) (st:=st') ho hd (fun m ys h=>h3 ⟨m,ys,h⟩) hns
    rw [h2] at this;exact this
  | move ho hd hu hs'=>rw [hns] at hs';cases hs'
  | movew ho hd hu hs' =>
   rename_i u t
   refine ⟨.inl ⟨hw',hq,stepW_iff.2 ?_⟩,light_one (weak_light _)⟩
   by_cases h3:∃ m ys,fr'.get u=.own m ys
   ·obtain ⟨m,ys,h3⟩:=h3
    have h2:=sl' (move_looks ho) h3
    rw [h2]
    cases hb:borOk ops i u t with
    | false=>exact .keep ho hd h3 hb
    | true =>
     rcases hK u t hd (.inl ⟨ho,hb⟩) with h4 | h4
     ·exact (hu m ys (h4.trans h3)).elim
     ·exact (h4.2 _ _ h3).elim
   ·rw [hs _ (move_looks ho)]
    exact .movew ho hd (fun m ys h=>h3 ⟨m,ys,h⟩) hns
  | hand ho hd hu hb hne =>
   rename_i u t n xs
   refine ⟨.inl ⟨hw',hq,stepW_iff.2 (.hand ho hd ?_ hb hne)⟩,?_⟩
   ·rcases hK u t hd (.inr ⟨ho,hb⟩) with h2 | h2
    ·rw [← h2];exact hu
    ·exact (h2.1 _ _ hu).elim
   ·intro s v hm
    simp only [List.mem_cons,Prod.mk.injEq,List.not_mem_nil,or_false] at hm
    rcases hm with ⟨rfl,rfl⟩ | ⟨rfl,rfl⟩
    ·exact ⟨rfl,rfl⟩
    ·obtain ⟨m,hm⟩:=upE_own (g:=g) o.type n xs
     rw [hm];exact ⟨rfl,rfl⟩
  | akeep ho hd hu hb =>
   rename_i u t n xs
   refine ⟨.inl ⟨hw',hq,stepW_iff.2 ?_⟩,light_one ⟨rfl,rfl⟩⟩
   have h2:=sl (assign_looks ho) hu
   by_cases h3:∃ m ys,fr'.get u=.own m ys
   ·obtain ⟨m,ys,h3⟩:=h3
    rw [h3] at h2
    cases h2
    exact .akeep ho hd h3 hb
   ·have:=StepW.assignw (g:=g) (fi:=fi) (call:=call) (ops:=ops) (k:=i) (st:=st') ho hd (fun m ys h=>h3 ⟨m,ys,h⟩) hns
    rw [h2] at this;exact this
  | assign ho hd hu hs'=>rw [hns] at hs';cases hs'
  | assignw ho hd hu hs' =>
   rename_i u t
   refine ⟨.inl ⟨hw',hq,stepW_iff.2 ?_⟩,light_one (weak_light _)⟩
   by_cases h3:∃ m ys,fr'.get u=.own m ys
   ·obtain ⟨m,ys,h3⟩:=h3
    have h2:=sl' (assign_looks ho) h3
    rw [h2]
    cases hb:(handOk ops i u && !(u == t)) with
    | false=>exact .akeep ho hd h3 hb
    | true =>
     rw [Bool.and_eq_true] at hb
     rcases hK u t hd (.inr ⟨ho,hb.1⟩) with h4 | h4
     ·exact (hu m ys (h4.trans h3)).elim
     ·exact (h4.2 _ _ h3).elim
   ·rw [hs _ (assign_looks ho)]
    exact .assignw ho hd (fun m ys h=>h3 ⟨m,ys,h⟩) hns
  | other hno h hs'=>rw [hns] at hs';cases hs'
  | otherw hno h0 hs' hwk =>
   obtain ⟨e1,h2,h3⟩:=stepQ_weak (fr':=fr') (st':=st') h1 (fun t x ho=>by
    unfold weakOk at hwk
    rw [ho] at hwk
    simp only [Bool.or_eq_true,Bool.and_eq_true] at hwk
    rcases hwk with hwk | hwk
    ·right;left
     split at hwk
     ·rename_i cs hcs;exact ⟨cs,hcs⟩
     ·cases hwk
    ·rcases hld hwk.1 t x ho hwk.2 with h | h
     ·exact .inl h
     ·exact .inr (.inr h)) (fun f args ats ho=>by
    unfold weakOk at hwk
    rw [ho] at hwk
    simp only [Fr.op,List.nil_append,List.append_nil] at hwk
    split at hwk
    ·rename_i hf hv
     simp only [E.val.injEq,V.func.injEq] at hf
     obtain ⟨_,rfl,rfl⟩:=hf
     exact ⟨_,hv,by simpa using hwk⟩
    ·cases hwk) h0
   refine ⟨.inl ⟨hw',hq,stepW_iff.2 ?_⟩,light_dst (weak_light _)⟩
   rw [← h3]
   exact .otherw hno h2 hns (by rw [← weakOk_weak h1];exact hwk)
 ·exact ⟨.inr ⟨by rw [← wanted_weak hs];exact hw,rfl⟩,light_dst ⟨rfl,rfl⟩⟩
/-! ### two that may come next -/
section
variable {listed:Array Bool} {i j:Nat} {oi oj:Oper} {y:List (Nat × E)}
theorem slot_free (hi:ops[i]?=some oi)(hj:ops[j]?=some oj)(hne:j≠i)(h1:∀ s,oi.dst=some s→s ∉ oj.looksAt ops)(hy:YOk ops i oi y) {s:Nat} {v:E} (hm:(s,v)∈y):s ∉ oj.looksAt ops:=by
 rcases hy.slot s v hm with h | ⟨_,h⟩
 ·exact h1 s h
 ·exact handOk_spec h hj hne
theorem slot_lends (hcl:Closed ops listed)(hir:i∈Region.ready .any ops listed)(hjr:j∈Region.ready .any ops listed)(hi:ops[i]?=some oi)(hj:ops[j]?=some oj)(hy:YOk ops i oi y)(b:BI ops fr) {s:Nat} {v:E} (hm:(s,v)∈y)
  {t:Nat} (ht:t∈oj.looksAt ops) {k:Nat} {xs:List V} {u:Nat} (hb:fr.get t=.bor k xs (.slot u)):u≠s:=by
 rintro rfl
 obtain ⟨i0,o0,h0,h2,h3,h4⟩:=b t k xs u hb
 obtain ⟨_,hw⟩:=(borOk_spec h4 hj).1 ht
 rcases hy.slot u v hm with h | ⟨ha,h⟩
 ·exact not_dep hcl hjr hir (hw i oi hi h)
 ·by_cases h5:i0=i
  ·subst h5;rw [hi] at h0;cases h0;rw [ha] at h2;cases h2
  ·exact handOk_spec h h0 h5 (move_looks h2)
theorem look_puts (hcl:Closed ops listed)(hir:i∈Region.ready .any ops listed)(hjr:j∈Region.ready .any ops listed)(hi:ops[i]?=some oi)(hj:ops[j]?=some oj)(hne:j≠i)(h1:∀ s,oi.dst=some s→s ∉ oj.looksAt ops)
  (hy:YOk ops i oi y) (b:BI ops fr):∀ t∈oj.looksAt ops,(fr.puts y).get t=fr.get t:=by
 intro t ht
 have key:∀ (l:List (Nat × E)),(∀ x∈l,x∈y)→∀ (f:Fr),f.get t=fr.get t→(f.puts l).get t=fr.get t:=by
  intro l
  induction l with
  | nil=>intro _ f hf;exact hf
  | cons x r ih =>
   intro hl f hf
   refine ih (fun z hz=>hl z (List.mem_cons_of_mem _ hz)) (f.put x.1 x.2) ?_
   have hm:(x.1,x.2)∈y:=hl x List.mem_cons_self
   rw [get_put,if_neg (fun (h:t=x.1)=>slot_free hi hj hne h1 hy hm (by rw [← h];exact ht)),hf]
   cases he:fr.get t with
   | bor k xs p =>
    cases p with
    | slot u =>
     have:=slot_lends hcl hir hjr hi hj hy b hm ht he
     simp only [E.inval]
     rw [if_neg (by simpa using this)]
    | _=>rfl
   | _=>rfl
 exact key y (fun _ h=>h) fr rfl
theorem inval_free {v:E} {t:Nat} (h:∀ k xs u,v=.bor k xs (.slot u)→u≠t):v.inval (.slot t)=v:=by
 cases v with
 | bor k xs p =>
  cases p with
  | slot u=>simp only [E.inval];rw [if_neg (by simpa using h k xs u rfl)]
  | _=>rfl
 | _=>rfl
theorem puts_comm:∀ (y z:List (Nat × E))(fr:Fr),(∀ s v,(s,v)∈y→∀ t x,(t,x)∈z→s≠t∧v.inval (.slot t)=v∧x.inval (.slot s)=x)→(fr.puts y).puts z=(fr.puts z).puts y:=by
 have one:∀ (z:List (Nat × E)) (fr:Fr) (s:Nat) (v:E),(∀ t x,(t,x)∈z→s≠t∧v.inval (.slot t)=v∧x.inval (.slot s)=x)→(fr.put s v).puts z=(fr.puts z).put s v:=by
  intro z
  induction z with
  | nil=>intro fr s v _;rfl
  | cons t r ih =>
   intro fr s v h
   obtain ⟨h1,h2,h3⟩:=h t.1 t.2 List.mem_cons_self
   show ((fr.put s v).put t.1 t.2).puts r=((fr.put t.1 t.2).puts r).put s v
   rw [put_put h1 h2 h3]
   exact ih _ s v (fun t x hx=>h t x (List.mem_cons_of_mem _ hx))
 intro y
 induction y with
 | nil=>intro z fr _;rfl
 | cons x r ih =>
  intro z fr h
  show ((fr.put x.1 x.2).puts r).puts z=((fr.puts z).put x.1 x.2).puts r
  rw [ih z _ (fun s v hs=>h s v (List.mem_cons_of_mem _ hs)),one z fr x.1 x.2 (h x.1 x.2 List.mem_cons_self)]
theorem BI.puts (b:BI ops fr)(hi:ops[i]?=some oi)(hy:YOk ops i oi y):BI ops (fr.puts y):=by
 have key:∀ (l:List (Nat × E)),(∀ x∈l,x∈y)→∀ (f:Fr),BI ops f→BI ops (f.puts l):=by
  intro l
  induction l with
  | nil=>intro _ f hf;exact hf
  | cons x r ih =>
   intro hl f hf
   refine ih (fun z hz=>hl z (List.mem_cons_of_mem _ hz)) (f.put x.1 x.2) ?_
   intro t k xs u e
   rw [get_put] at e
   split at e
   ·rename_i ht
    have he:=inval_new _ _ (.inr ⟨k,xs,u,e⟩)
    obtain ⟨q1,q2,q3⟩:=hy.bor x.1 x.2 k xs u (hl x List.mem_cons_self) (he.trans e)
    subst ht
    exact ⟨i,oi,hi,q2,q1,q3⟩
   ·have he:=inval_new _ _ (.inr ⟨k,xs,u,e⟩)
    exact hf t k xs u (he.trans e)
 exact key y (fun _ h=>h) fr b
theorem two_quiet (hi:ops[i]?=some oi)(hj:ops[j]?=some oj)(hne:j≠i)(hap:oi.apart ops oj=true) {z:List (Nat × E)} (hy:YOk ops i oi y)(hz:YOk ops j oj z):(fr.puts y).puts z=(fr.puts z).puts y:=by
 obtain ⟨h1,h2,h3⟩:=Oper.apart_spec hap
 refine puts_comm y z fr fun s v hm t x hn=>⟨?_,inval_free fun k xs u hv=>?_,inval_free fun k xs u hv=>?_⟩
 ·rintro rfl
  rcases hz.slot s x hn with hd | ⟨ha,hh⟩
  ·rcases hy.slot s v hm with hd' | ⟨ha',hh'⟩
   ·exact h2 s hd' hd
   ·exact h3 s hd (assign_looks ha')
  ·exact slot_free hi hj hne (fun s h=>h1 s h) hy hm (assign_looks ha)
 ·rintro rfl
  obtain ⟨_,hmv,_⟩:=hy.bor s v k xs u hm hv
  exact slot_free hj hi (Ne.symm hne) (fun s h=>h3 s h) hz hn (move_looks hmv)
 ·rintro rfl
  obtain ⟨_,hmv,_⟩:=hz.bor t x k xs u hn hv
  exact slot_free hi hj hne (fun s h=>h1 s h) hy hm (move_looks hmv)
theorem still_of (hcl:Closed ops listed)(hir:i∈Region.ready .any ops listed)(hjr:j∈Region.ready .any ops listed)(hi:ops[i]?=some oi)(hj:ops[j]?=some oj)(hne:j≠i)(hq:isQM g fi oj=false)
  (h1:∀ s,oi.dst=some s→s ∉ oj.looksAt ops) (hy:YOk ops i oi y) (hl:Light y) (b:BI ops fr) {f:Fr} (hf:∀ t∈oj.looksAt ops,f.get t=fr.get t) {s:Nat} {v:E} (hm:(s,v)∈y):Still s v f oj where
 mem:=(hl s v hm).1
 loc:=(hl s v hm).2
 ops:=fun t ht=>by
  have htl:t∈oj.looksAt ops:=looks_op ht rfl
  refine ⟨fun (h:t=s)=>slot_free hi hj hne h1 hy hm (by rw [← h];exact htl),inval_free fun k xs u hv=>?_,fun k xs u hb=>?_⟩
  ·rintro rfl
   obtain ⟨_,_,hbo⟩:=hy.bor s v k xs u hm hv
   have:=((borOk_spec hbo hj).2 hne htl).1
   unfold isMove at this
   split at this
   ·rename_i x ho;rw [move_quiet ho] at hq;cases hq
   ·cases this
  ·rw [hf t htl] at hb
   refine ⟨slot_lends hcl hir hjr hi hj hy b hm htl hb,inval_free fun k' xs' u' hv=>?_⟩
   rintro rfl
   obtain ⟨hd,hmv,hbo⟩:=hy.bor s v k' xs' u' hm hv
   obtain ⟨i0,o0,h0,h2,h3,h4⟩:=b t k xs u' hb
   by_cases h5:i0=i
   ·subst h5
    rw [hi] at h0;cases h0
    exact h1 t h3 htl
   ·have h6:=((borOk_spec hbo h0).2 h5 (move_looks h2)).2 t h3 j oj hj
    rw [((borOk_spec h4 hj).1 htl).1] at h6
    cases h6
noncomputable def Rs.puts (y:List (Nat × E)):Rs→Rs
 | .ok e fr st=>.ok e (fr.puts y) st
 | .pan x st=>.pan x st
theorem stepE_puts (hcl:Closed ops listed)(hir:i∈Region.ready .any ops listed)(hjr:j∈Region.ready .any ops listed)(hi:ops[i]?=some oi)(hj:ops[j]?=some oj)(hne:j≠i)(hq:isQM g fi oj=false)
  (h1:∀ s,oi.dst=some s→s ∉ oj.looksAt ops) (hy:YOk ops i oi y) (hl:Light y) (b:BI ops fr) (hsemi:semiM fi oj=true) :
  stepM g fi call (fr.puts y) st oj=(stepM g fi call fr st oj).map (Rs.puts y):=by
 have key:∀ (l:List (Nat × E)),(∀ x∈l,x∈y)→∀ (f:Fr),(∀ t∈oj.looksAt ops,f.get t=fr.get t)→stepM g fi call (f.puts l) st oj=(stepM g fi call f st oj).map (Rs.puts l):=by
  intro l
  induction l with
  | nil =>
   intro _ f _
   show stepM g fi call f st oj=_
   cases stepM g fi call f st oj with
   | none=>rfl
   | some rs=>cases rs <;> rfl
  | cons x r ih =>
   intro hl' f hf
   have hm:(x.1,x.2)∈y:=hl' x List.mem_cons_self
   have hS:=still_of hcl hir hjr hi hj hne hq h1 hy hl b hf hm
   have hf':∀ t∈oj.looksAt ops,(f.put x.1 x.2).get t=fr.get t:=by
    intro t ht
    rw [get_put,if_neg (fun (h:t=x.1)=>slot_free hi hj hne h1 hy hm (by rw [← h];exact ht)),hf t ht]
    exact inval_free fun k xs u hb=>slot_lends hcl hir hjr hi hj hy b hm ht hb
   show stepM g fi call ((f.put x.1 x.2).puts r) st oj=_
   rw [ih (fun z hz=>hl' z (List.mem_cons_of_mem _ hz)) _ hf',stepM_put1 hS hsemi,Option.map_map]
   congr 1
   funext rs
   cases rs <;> rfl
 exact key y (fun _ h=>h) fr (fun _ _=>rfl)
theorem after_puts (h2:∀ s,oi.dst=some s→oj.dst≠some s)(h3:∀ s,oj.dst=some s→s ∉ oi.looksAt ops)(hy:YOk ops i oi y) {f:Fr} {e:E} (he:∀ k xs u,e≠.bor k xs (.slot u)):(f.puts y).putO oj.dst e=(f.putO oj.dst e).puts y:=by
 rw [← putO_puts,← putO_puts]
 refine puts_comm y _ f fun s v hm t x hn=>?_
 have:oj.dst=some t∧x=e:=by
  cases hd:oj.dst with
  | none=>rw [hd] at hn;cases hn
  | some t'=>rw [hd] at hn;simp at hn;exact ⟨by rw [hn.1],hn.2⟩
 obtain ⟨hd,rfl⟩:=this
 refine ⟨?_,inval_free fun k xs u hv=>?_,inval_free fun k xs u hv=>(he k xs u hv).elim⟩
 ·rintro rfl
  rcases hy.slot s v hm with hd' | ⟨ha',hh'⟩
  ·exact h2 s hd' hd
  ·exact h3 s hd (assign_looks ha')
 ·rintro rfl
  obtain ⟨_,hmv,_⟩:=hy.bor s v k xs u hm hv
  exact h3 u hd (move_looks hmv)
theorem beside (hcl:Closed ops listed)(hir:i∈Region.ready .any ops listed)(hjr:j∈Region.ready .any ops listed)(b:BI ops fr)(hi:ops[i]?=some oi)(hj:ops[j]?=some oj)(hne:j≠i)(hqi:isQM g fi oi=true)(hqj:isQM g fi oj=false)(h1:∀ s,oi.dst=some s→s ∉ oj.looksAt ops)(h3:∀ s,oj.dst=some s→s ∉ oi.looksAt ops)(hsemi:semiM fi oj=true)
  {e:E} {fr1:Fr} {st1:St} (hs:stepM g fi call fr st oj=some (.ok e fr1 st1)) :
  (∀ t∈oi.looksAt ops,(fr.get t).weak=((fr1.putO oj.dst e).get t).weak) ∧
  (∀ u t,oi.dst=some t→(oi.op=.move (.tmp u)∧borOk ops i u t=true)∨(oi.op=.assign (.tmp u)∧handOk ops i u=true) →
   fr.get u=(fr1.putO oj.dst e).get u∨((∀ n xs,fr.get u≠.own n xs)∧∀ n xs,(fr1.putO oj.dst e).get u≠.own n xs)):=by
 obtain ⟨w1,w2,w3,_⟩:=stepM_weak hsemi hs
 have get1:∀ t∈oi.looksAt ops,(fr1.putO oj.dst e).get t=fr1.get t:=by
  intro t ht
  cases hd:oj.dst with
  | none=>rfl
  | some s =>
   show (fr1.put s e).get t=fr1.get t
   rw [get_put,if_neg (fun (h:t=s)=>h3 s hd (by rw [← h];exact ht))]
   exact inval_free fun k xs u hb=>by
    rintro rfl
    obtain ⟨i0,o0,h0,h5,h6,h7⟩:=b t k xs u ((w2 t (.inr ⟨k,xs,u,hb⟩)).trans hb |> fun h=>h)
    exact not_dep hcl hir hjr (((borOk_spec h7 hi).1 ht).2 j oj hj hd)
 refine ⟨fun t ht=>by rw [get1 t ht];exact (w1 t).symm,fun u t hd hc=>?_⟩
 have hu:u∈oi.looksAt ops:=by rcases hc with ⟨ho,_⟩ | ⟨ho,_⟩;exact move_looks ho;exact assign_looks ho
 rw [get1 u hu]
 by_cases h5:∃ n xs,fr1.get u=.own n xs
 ·obtain ⟨n,xs,h5⟩:=h5
  exact .inl (w2 u (.inl ⟨n,xs,h5⟩))
 ·by_cases h6:∃ n xs,fr.get u=.own n xs
  ·obtain ⟨n,xs,h6⟩:=h6
   refine absurd ⟨n,xs,stepM_own hsemi h6 ?_ hs⟩ h5
   intro t' ht'
   have htl:t'∈oj.looksAt ops:=looks_op ht' rfl
   have nomove:isMove u oj.op=false:=by
    unfold isMove
    split
    ·rename_i x ho;rw [move_quiet ho] at hqj;cases hqj
    ·rfl
   refine ⟨?_,fun k ys hb=>?_⟩
   ·rintro rfl
    rcases hc with ⟨ho,hbo⟩ | ⟨ho,hh⟩
    ·rw [((borOk_spec hbo hj).2 hne htl).1] at nomove;cases nomove
    ·exact handOk_spec hh hj hne htl
   ·obtain ⟨i0,o0,h0,h7,h8,h9⟩:=b t' k ys u hb
    rcases hc with ⟨ho,hbo⟩ | ⟨ho,hh⟩
    ·by_cases h10:i0=i
     ·subst h10
      rw [hi] at h0;cases h0
      exact h1 t' h8 htl
     ·have:=((borOk_spec hbo h0).2 h10 (move_looks h7)).2 t' h8 j oj hj
      rw [((borOk_spec h9 hj).1 htl).1] at this
      cases this
    ·by_cases h10:i0=i
     ·subst h10;rw [hi] at h0;cases h0;rw [ho] at h7;cases h7
     ·exact handOk_spec hh h0 h10 (move_looks h7)
  ·exact .inr ⟨fun n xs h=>h6 ⟨n,xs,h⟩,fun n xs h=>h5 ⟨n,xs,h⟩⟩
theorem plain_step {o:Oper} {f f1:Fr} {s s1:St} {e:E} (hm:marked fi o=false)(hp:plainSt f o=true)(h:stepM g fi call f s o=some (.ok e f1 s1)) :
  ∃ t a x off v ti old new,o.op=.store t (.tmp a) x∧f.get a=.lp a off∧f.op x=.val v∧(∀ xs,v≠.slice xs)∧g.ty t=some ti∧(v.cells.length == ti.size && v.cells.all V.one && decide (0<ti.size))=true ∧
   f.loc a=some old∧splice old off v.cells=some new∧e=.any∧f1=(f.setLoc a new).map E.noLoc∧s1=s:=by
 unfold plainSt at hp
 split at hp
 ·rename_i t a x ho
  rw [Bool.and_eq_true] at hp
  obtain ⟨h1,h2⟩:=hp
  split at h1
  ·rename_i s0 off hg
   rw [beq_iff_eq] at h1;subst h1
   split at h2
   ·cases h2
   ·rename_i v hns hx
    unfold stepM at h
    rw [frzM_not (fun x hx=>by rw [ho] at hx;cases hx) (fun x hx=>by rw [ho] at hx;cases hx)] at h
    simp only [hm,Bool.false_eq_true,if_false] at h
    unfold stepE at h
    simp only [ho] at h
    unfold stepOp at h
    simp only [ho] at h
    cases hty:g.ty t with
    | none=>rw [hty] at h;cases h
    | some ti =>
     rw [hty] at h
     have htk:Ab.take f s x=some (.val v,f,s):=by
      unfold Ab.take
      split
      ·rename_i u
       have:f.get u=.val v:=hx
       rw [this]
      ·rw [hx]
     simp only [htk,upE,E.cells?] at h
     unfold storeAt at h
     by_cases hc:(v.cells.length == ti.size && v.cells.all V.one && decide (0<ti.size))=true
     ·rw [if_pos hc] at h
      have hop:f.op (.tmp s0)=.lp s0 off:=hg
      simp only [hop,placeOf] at h
      cases hl:f.loc s0 with
      | none=>rw [hl] at h;cases h
      | some old =>
       rw [hl] at h
       simp only [Option.map_some] at h
       cases hsp:splice old off v.cells with
       | none=>rw [hsp] at h;cases h
       | some new =>
        rw [hsp] at h
        simp only [Option.map_some,Option.some.injEq,Rs.ok.injEq] at h
        obtain ⟨rfl,rfl,rfl⟩:=h
        exact ⟨t,s0,x,off,v,ti,old,new,ho,hg,hx,fun xs hv=>hns xs (by rw [hv]),hty,hc,hl,hsp,rfl,rfl,rfl⟩
     ·rw [if_neg hc] at h;cases h
   ·cases h2
  ·cases h1
 ·cases hp
theorem plain_back {o:Oper} {f:Fr} (s:St) {t:TypeId} {a off:Nat} {x:Operand} {v:V} {ti:TI} {old new:List V} (hm:marked fi o=false)(ho:o.op=.store t (.tmp a) x)(hg:f.get a=.lp a off)(hx:f.op x=.val v)
  (hty:g.ty t=some ti) (hc:(v.cells.length == ti.size && v.cells.all V.one && decide (0<ti.size))=true) (hl:f.loc a=some old) (hsp:splice old off v.cells=some new) :
  stepM g fi call f s o=some (.ok .any ((f.setLoc a new).map E.noLoc) s):=by
 unfold stepM
 rw [frzM_not (fun x hx=>by rw [ho] at hx;cases hx) (fun x hx=>by rw [ho] at hx;cases hx)]
 simp only [hm,Bool.false_eq_true,if_false]
 unfold stepE
 simp only [ho]
 unfold stepOp
 simp only [ho]
 have htk:Ab.take f s x=some (.val v,f,s):=by
  unfold Ab.take
  split
  ·rename_i u
   have:f.get u=.val v:=hx
   rw [this]
  ·rw [hx]
 have hop:f.op (.tmp a)=.lp a off:=hg
 simp only [hty,htk,upE,E.cells?,storeAt,hc,if_true,hop,placeOf,hl,Option.map_some,hsp]
theorem plain_nopan {o:Oper} {f:Fr} {s s1:St} {w:V} (hm:marked fi o=false)(hp:plainSt f o=true)(h:stepM g fi call f s o=some (.pan w s1)):False:=by
 unfold plainSt at hp
 split at hp
 ·rename_i t a x ho
  unfold stepM at h
  rw [frzM_not (fun x hx=>by rw [ho] at hx;cases hx) (fun x hx=>by rw [ho] at hx;cases hx)] at h
  simp only [hm,Bool.false_eq_true,if_false] at h
  unfold stepE at h
  simp only [ho] at h
  unfold stepOp at h
  simp only [ho] at h
  split at h
  ·split at h
   ·split at h
    ·split at h <;> cases h
    ·cases h
   ·cases h
  ·cases h
 ·cases hp
theorem plain_of {o:Oper} {f:Fr} {t:TypeId} {a off:Nat} {x:Operand} {v:V} (ho:o.op=.store t (.tmp a) x)(hg:f.get a=.lp a off)(hx:f.op x=.val v)(hns:∀ xs,v≠.slice xs):plainSt f o=true:=by
 unfold plainSt
 simp only [ho,hg,hx,beq_self_eq_true,Bool.true_and]
theorem noLoc_lp_inv {e:E} {s o:Nat} (h:e.noLoc=.lp s o):e=.lp s o:=by
 cases e with
 | bor k xs q=>cases q <;> simp [E.noLoc] at h
 | _=>first | exact h | cases h
theorem noLoc_val_inv {e:E} {v:V} (h:e.noLoc=.val v)(hns:∀ xs,v≠.slice xs):e=.val v:=by
 cases e with
 | bor k xs q=>cases q <;> simp [E.noLoc] at h;exact (hns _ h.symm).elim
 | _=>first | exact h | cases h
theorem get_setLoc (f:Fr)(a:Nat)(c:List V)(t:Nat):((f.setLoc a c).map E.noLoc).get t=(f.get t).noLoc:=by
 rw [get_map _ _ rfl];rfl
theorem op_setLoc (f:Fr)(a:Nat)(c:List V) {x:Operand} {v:V} (h:f.op x=.val v):((f.setLoc a c).map E.noLoc).op x=.val v:=by
 cases x with
 | tmp t=>show ((f.setLoc a c).map E.noLoc).get t=_;rw [get_setLoc,show f.get t=.val v from h];rfl
 | _=>exact h
theorem op_setLoc_inv (f:Fr)(a:Nat)(c:List V) {x:Operand} {v:V} (h:((f.setLoc a c).map E.noLoc).op x=.val v) (hns:∀ xs,v≠.slice xs):f.op x=.val v:=by
 cases x with
 | tmp t =>
  have h':((f.setLoc a c).map E.noLoc).get t=.val v:=h
  rw [get_setLoc] at h'
  exact noLoc_val_inv h' hns
 | _=>exact h
theorem lset_comm2 {α:Type} (l:List (Nat × α)) {a b:Nat} (hab:a≠b)(x y:α):lset (lset l a x) b y=lset (lset l b y) a x:=by
 induction l with
 | nil=>rfl
 | cons z r ih =>
  obtain ⟨k,e⟩:=z
  by_cases h1:k=a
  ·subst h1
   have h2:(k == b)=false:=by simpa using hab
   simp [lset,h2]
  ·have h1':(k == a)=false:=by simpa using h1
   by_cases h2:k=b
   ·subst h2;simp [lset,h1']
   ·have h2':(k == b)=false:=by simpa using h2
    simp [lset,h1',h2',ih]
theorem lk_lset_other2 {α:Type} (l:List (Nat × α)) {a b:Nat} (hab:a≠b)(x:α):lk (lset l a x) b=lk l b:=by
 induction l with
 | nil=>rfl
 | cons z r ih =>
  obtain ⟨k,e⟩:=z
  by_cases h1:k=a
  ·subst h1
   have h2:(k == b)=false:=by simpa using hab
   simp [lset,lk,h2]
  ·have h1':(k == a)=false:=by simpa using h1
   simp only [lset,h1',Bool.false_eq_true,if_false,lk,ih]
theorem map_noLoc_twice (f:Fr):(f.map E.noLoc).map E.noLoc=f.map E.noLoc:=by
 have hc:∀ e:E,e.noLoc.noLoc=e.noLoc:=by
  intro e
  cases e with
  | bor k xs q=>cases q <;> rfl
  | _=>rfl
 rw [Fr.map_def,Fr.map_def]
 simp only [List.map_map]
 congr 1 <;> exact List.map_congr_left fun x _=>by simp [hc]
theorem setLoc_map (f:Fr)(a:Nat)(c:List V):(f.map E.noLoc).setLoc a c=(f.setLoc a c).map E.noLoc:=by
 rw [Fr.map_def,Fr.map_def,Fr.setLoc_def,Fr.setLoc_def]
theorem loc_setLoc_other (f:Fr) {a b:Nat} (hab:a≠b)(c:List V):((f.setLoc a c).map E.noLoc).loc b=f.loc b:=by
 rw [Fr.loc_def,Fr.loc_def,Fr.map_def,Fr.setLoc_def]
 exact lk_lset_other2 _ hab _
theorem loc_setLoc_self (f:Fr) {a:Nat} {old:List V} (h:f.loc a=some old)(c:List V):((f.setLoc a c).map E.noLoc).loc a=some c:=by
 rw [Fr.loc_def] at h
 rw [Fr.loc_def,Fr.map_def,Fr.setLoc_def]
 show lk (lset f.lc a c) a=some c
 generalize f.lc=l at h
 induction l with
 | nil=>cases h
 | cons z r ih =>
  obtain ⟨k,e⟩:=z
  by_cases h1:k=a
  ·subst h1;simp [lset,lk]
  ·have h1':(k == a)=false:=by simpa using h1
   simp only [lk,lset,h1',Bool.false_eq_true,if_false] at h ⊢
   exact ih h
theorem locSt_spec {o:Oper} {a:Nat} (h:locSt fi o=some a):(∃ t x,o.op=.store t (.tmp a) x)∧o.dst=none:=by
 unfold locSt at h
 split at h
 ·rename_i t b x ho hd
  split at h
  ·cases h;exact ⟨⟨t,x,ho⟩,hd⟩
  ·cases h
 ·cases h
theorem nodst_unmarked {o:Oper} (hd:o.dst=none):marked fi o=false:=by
 unfold marked
 split <;> first | rfl | (rw [hd])
theorem plain_congr {f f':Fr} (hs:∀ t∈o.looksAt ops,f.get t=f'.get t):plainSt f o=plainSt f' o:=by
 unfold plainSt
 split
 ·rename_i t a x ho
  have h1:f.get a=f'.get a:=hs a (looks_op (x:=.tmp a) (by rw [ho];simp [Op.operands]) rfl)
  have h2:f.op x=f'.op x:=op_of (ops:=ops) (o:=o) (by rw [ho];simp [Op.operands]) hs
  rw [h1,h2]
 ·rfl
theorem firm_congr {f f':Fr} {i:Nat} (hs:∀ t∈o.looksAt ops,f.get t=f'.get t):firm g fi ops i o f=firm g fi ops i o f':=by
 unfold firm
 rw [plain_congr hs]
theorem aOp_put (hcl:Closed ops listed)(hir:i∈Region.ready .any ops listed)(hjr:j∈Region.ready .any ops listed)(hne:j≠i)
  (hi:ops[i]?=some oi) (hj:ops[j]?=some oj) (hap:oi.apart ops oj=true) {K:Fr→St→Prop} (b:BI ops fr)
  (hy:Yld g fi call ops i oi y fr st) (h:aOp g fi call ops j K PQ (fr.puts y) st) :
  aOp g fi call ops j (fun f s=>BI ops f∧Yld g fi call ops i oi y f s∧K (f.puts y) s) PQ fr st:=by
 obtain ⟨h1,h2,h3⟩:=Oper.apart_spec hap
 have hyo:=hy.ok
 have look:=look_puts hcl hir hjr hi hj hne h1 hyo b
 unfold aOp at h ⊢
 simp only [hj] at h ⊢
 rcases h with ⟨z,hz,hk⟩ | ⟨hp,hst,hq,hw,h⟩
 ·have hz':Yld g fi call ops j oj z fr st:=hz.congr look (loc_puts _ _)
  have hzo:=hz.ok
  refine .inl ⟨z,hz',b.puts hj hzo,hy.congr (fun t ht=>?_) (loc_puts _ _).symm,?_⟩
  ·exact (look_puts hcl hjr hir hj hi (Ne.symm hne) h3 hzo b t ht).symm
  ·rw [← two_quiet hi hj hne hap hyo hzo];exact hk
 ·have hnord:=not_ordered hcl hir hjr hne
  have hsemi:semiM fi oj=true:=by
   rw [Bool.or_eq_true] at hp
   rcases hp with hp | hp
   ·exact (hne (pivot_alone hcl hp hjr hir).symm).elim
   ·exact hp
  have hns:strongB g fi ops i=false:=by
   cases hs:strongB g fi ops i with
   | false=>rfl
   | true=>rw [strong_ord hs hj hq] at hnord;cases hnord
  obtain ⟨_,hf⟩:=hy.weak (fr':=fr) (st':=st) (fun _=>hns) (fun _ _=>rfl) (fun _ _ _ _=>.inl rfl) (fun _ _ _ _ _=>.inl (.refl _ _))
  have hse:=stepE_puts (fi:=fi) (call:=call) (g:=g) (st:=st) hcl hir hjr hi hj hne hq h1 hyo hf b hsemi
  refine .inr ⟨hp,by rw [← firm_congr look];exact hst,hq,by rw [← wanted_congr look];exact hw,?_⟩
  rw [hse] at h
  rcases h with ⟨e,f1,st1,h,htm,hk⟩ | ⟨x,st1,h,hk⟩
  ·simp only [Option.map_eq_some_iff] at h
   obtain ⟨rs,hrs,hrr⟩:=h
   cases rs with
   | pan x0 s0=>cases hrr
   | ok e0 f0 s0 =>
    simp only [Rs.puts,Rs.ok.injEq] at hrr
    obtain ⟨rfl,rfl,rfl⟩:=hrr
    obtain ⟨w1,w2,w3,w4,w5⟩:=stepM_weak hsemi hrs
    rw [if_pos hsemi] at hk
    have htm':tameB fi ops j oj=true→SameRead fr st f0 s0:=fun ht=>by
     have:=htm ht
     exact ⟨fun s=>by have:=this.1 s;rwa [loc_puts,loc_puts] at this,this.2⟩
    refine .inl ⟨e0,f0,s0,hrs,htm',?_⟩
    rw [if_pos hsemi]
    have hbi:BI ops (f0.putO oj.dst e0):=by
     rw [← putO_puts]
     exact (b.new w2).puts hj (YOk.dst w3)
    have hqo:wantedE ops.toList oi fr=some true→isQM g fi oi=true:=fun h=>by
     rcases hy with ⟨_,h',_⟩ | ⟨h',_⟩
     ·exact h'
     ·rw [h] at h';cases h'
    refine ⟨hbi,?_,?_⟩
    ·by_cases hwi:wantedE ops.toList oi fr=some true
     ·obtain ⟨q1,q2⟩:=beside hcl hir hjr b hi hj hne (hqo hwi) hq h1 h3 hsemi hrs
      refine (hy.weak (fun _=>hns) q1 q2 (fun hm t x ho hel=>?_)).1
      have hl:isLoad oi.op=true:=by rw [ho];rfl
      rcases mild_ord hm hj hq hnord with h5 | ⟨h5,h6⟩ | h5
      ·have:=w4 h5.1
       exact .inl ⟨fun s=>by rw [loc_putO'];exact this.1 s,this.2⟩
      ·cases he:elseP fi ops i oi j oj with
       | false =>
        have:=htm' (tame_of hi hl h5 h6 hnord he)
        exact .inl ⟨fun s=>by rw [loc_putO'];exact this.1 s,this.2⟩
       | true =>
        right
        have hps:plainSt fr oj=true:=by
         have hst':firm g fi ops j oj fr=true:=by rw [← firm_congr look];exact hst
         unfold firm at hst';rw [Bool.and_eq_true] at hst'
         have hany:elseAny fi ops j oj=true:=List.any_eq_true.2 ⟨i,List.mem_range.2 h6,by simp only [hi,he,hnord,Bool.not_false,Bool.and_self]⟩
         simpa [hany] using hst'.2
        obtain ⟨a,hla⟩:∃ a,locSt fi oj=some a:=by
         unfold elseP at he
         split at he
         ·rename_i a _ h;exact ⟨_,h⟩
         ·cases he
        obtain ⟨⟨t0,x0,hoj⟩,hdj⟩:=locSt_spec hla
        have hoe:otherE a (fr.op x)=true:=by
         have:=List.all_eq_true.1 (by unfold elseOk at hel;rw [Bool.and_eq_true] at hel;exact hel.2) j (List.mem_range.2 (ready_size hjr))
         rw [hj] at this
         simpa [he,hnord,hla] using this
        obtain ⟨t1,a1,x1,off,v,ti,old,new,ho1,hg1,hx1,_,_,_,hl1,hsp1,_,hf0,hs0⟩:=plain_step (nodst_unmarked hdj) hps hrs
        rw [hoj] at ho1;cases ho1
        unfold SameAt
        unfold otherE at hoe
        split at hoe
        ·rename_i s o hw
         have hsa:a≠s:=fun h=>by rw [h] at hoe;simp at hoe
         exact .inl ⟨s,o,hw,by rw [loc_putO',hf0,loc_setLoc_other _ hsa]⟩
        ·rename_i v hw;exact .inr ⟨v,hw,hs0⟩
        ·cases hoe
      ·exact .inr (call_same oj.dst hj hq hnord h5 hel hrs).1
     ·rcases hy with ⟨h',_⟩ | ⟨hwf,rfl⟩
      ·exact (hwi h').elim
      ·refine .inr ⟨?_,rfl⟩
       rw [← hwf]
       refine (wanted_weak fun t ht=>?_).symm
       have hne':oj.dst≠some t:=fun h=>h3 t h ht
       cases hd:oj.dst with
       | none=>exact (w1 t).symm
       | some s =>
        show _=((f0.put s e0).get t).weak
        rw [get_put,if_neg (fun h=>hne' (by rw [hd,h])),inval_weak]
        exact (w1 t).symm
    ·rw [← after_puts h2 h3 hyo w3];exact hk
  ·simp only [Option.map_eq_some_iff] at h
   obtain ⟨rs,hrs,hrr⟩:=h
   cases rs with
   | ok e0 f0 s0=>cases hrr
   | pan x0 s0=>cases hrr;exact .inr ⟨x,st1,hrs,hk⟩
end
theorem aOp_mono {i:Nat} {K K':Fr→St→Prop} (h:∀ f s,K f s→K' f s)(hh:aOp g fi call ops i K PQ fr st):aOp g fi call ops i K' PQ fr st:=by
 unfold aOp at *
 split
 ·rename_i ho;simp only [ho] at hh;exact h _ _ hh
 ·rename_i o ho
  simp only [ho] at hh
  rcases hh with ⟨e,y,hk⟩ | ⟨a1,a2,a3,a4,⟨e,f,s,hs,ht,hk⟩ | hk⟩
  ·exact .inl ⟨e,y,h _ _ hk⟩
  ·exact .inr ⟨a1,a2,a3,a4,.inl ⟨e,f,s,hs,ht,h _ _ hk⟩⟩
  ·exact .inr ⟨a1,a2,a3,a4,.inr hk⟩
theorem any_first {Q:Fr→St→Prop} {i:Nat} {oi:Oper} {y:List (Nat × E)} (hi:ops[i]?=some oi) :
  ∀ (fuel:Nat) (listed:Array Bool) (fr:Fr) (st:St),BI ops fr→Closed ops listed →
   (∀ j oj,ops[j]?=some oj→j≠i→listed.getD j true=false→(∀ e∈oj.after,Region.binds .any e=true→e.on≠i)→oi.apart ops oj=true) →
   i∈Region.ready .any ops listed→Yld g fi call ops i oi y fr st →
   anyA g fi call ops Q PQ fuel (listed.setIfInBounds i true) (fr.puts y) st→anyA g fi call ops Q PQ (fuel+1) listed fr st:=by
 intro fuel
 induction fuel with
 | zero =>
  intro listed fr st b _ _ hr hy H
  refine ⟨fun h=>(by rw [h] at hr;cases hr),fun j hj=>?_⟩
  by_cases hji:j=i
  ·subst hji;unfold aOp;simp only [hi];exact .inl ⟨y,hy,H⟩
  ·have:=ready_mono hj hji
   rw [H.1] at this
   cases this
 | succ fuel ih =>
  intro listed fr st b hcl hfree hr hy H
  refine ⟨fun h=>(by rw [h] at hr;cases hr),fun j hj=>?_⟩
  by_cases hji:j=i
  ·subst hji;unfold aOp;simp only [hi];exact .inl ⟨y,hy,H⟩
  ·have h1:=H.2 j (ready_mono hj hji)
   obtain ⟨hjun,oj,hoj,hall⟩:=mem_ready.1 hj
   have hnot:∀ e∈oj.after,Region.binds .any e=true→e.on≠i:=fun e he hb heq=>by
    have h1:=hall e he hb
    have h0:=(mem_ready.1 hr).1
    rw [heq] at h1
    exact not_both h0 h1
   have hfree':∀ k ok,ops[k]?=some ok→k≠i→(listed.setIfInBounds j true).getD k true=false →
     (∀ e∈ok.after,Region.binds .any e=true→e.on≠i)→oi.apart ops ok=true:=fun k ok hk hki hun hno=>by
    refine hfree k ok hk hki ?_ hno
    by_cases hjk:j=k
    ·subst hjk;exact hjun
    ·rw [getD_set_ne true hjk] at hun;exact hun
   refine aOp_mono (fun f s hk=>?_) (aOp_put hcl hr hj hji hi hoj (hfree j oj hoj hji hjun hnot) b hy h1)
   exact ih (listed.setIfInBounds j true) f s hk.1 (hcl.list hj) hfree' (ready_mono hr (Ne.symm hji)) hk.2.1 (by rw [Array.setIfInBounds_comm _ _ hji];exact hk.2.2)
theorem two_stores {oi ok:Oper} {f f1 f2:Fr} {s s1 s2:St} {e e':E} (hpair:pairB fi oi ok=true)(hpk:plainSt f ok=true)(h1:stepM g fi call f s ok=some (.ok e f1 s1))
  (hpi:plainSt f1 oi=true) (h2:stepM g fi call f1 s1 oi=some (.ok e' f2 s2)) :
  s1=s∧s2=s∧plainSt f oi=true∧∃ g1,stepM g fi call f s oi=some (.ok e' g1 s)∧plainSt g1 ok=true∧stepM g fi call g1 s ok=some (.ok e f2 s)∧(SameRead f s f1 s→SameRead g1 s f2 s)∧(SameRead f1 s f2 s→SameRead f s g1 s) ∧
   (∀ t,g1.get t=(f.get t).noLoc):=by
 unfold pairB at hpair
 cases hli:locSt fi oi with
 | none=>rw [hli] at hpair;cases hpair
 | some b =>
  cases hlk:locSt fi ok with
  | none=>rw [hli,hlk] at hpair;cases hpair
  | some a =>
   rw [hli,hlk] at hpair
   have hab:b≠a:=by simpa using hpair
   obtain ⟨⟨ti0,xi,hoi⟩,hdi⟩:=locSt_spec hli
   obtain ⟨⟨tk0,xk,hok⟩,hdk⟩:=locSt_spec hlk
   have hmi:=nodst_unmarked (fi:=fi) hdi
   have hmk:=nodst_unmarked (fi:=fi) hdk
   obtain ⟨t,a',x,off,v,ti,old,new,ho,hg,hx,hns,hty,hc,hl,hsp,rfl,rfl,rfl⟩:=plain_step hmk hpk h1
   rw [hok] at ho;cases ho
   obtain ⟨t',b',x',off',v',ti',old',new',ho',hg',hx',hns',hty',hc',hl',hsp',rfl,rfl,rfl⟩:=plain_step hmi hpi h2
   rw [hoi] at ho';cases ho'
   have gb:f.get b=.lp b off':=by
    rw [get_setLoc] at hg';exact noLoc_lp_inv hg'
   have xb:f.op xi=.val v':=op_setLoc_inv _ _ _ hx' hns'
   have lb:f.loc b=some old':=by rw [loc_setLoc_other f hab.symm] at hl';exact hl'
   have ga:((f.setLoc b new').map E.noLoc).get a=.lp a off:=by rw [get_setLoc,hg];rfl
   have xa:((f.setLoc b new').map E.noLoc).op xk=.val v:=op_setLoc _ _ _ hx
   have la:((f.setLoc b new').map E.noLoc).loc a=some old:=by rw [loc_setLoc_other f hab];exact hl
   have fin:(((f.setLoc b new').map E.noLoc).setLoc a new).map E.noLoc=(((f.setLoc a new).map E.noLoc).setLoc b new').map E.noLoc:=by
    rw [setLoc_map,setLoc_map,map_noLoc_twice,map_noLoc_twice]
    rw [Fr.setLoc_def,Fr.setLoc_def,Fr.setLoc_def,Fr.setLoc_def]
    simp only [lset_comm2 f.lc hab]
   have lock:∀ (q:Nat),((((f.setLoc a new).map E.noLoc).setLoc b new').map E.noLoc).loc q=if q=b then some new' else ((f.setLoc a new).map E.noLoc).loc q:=by
    intro q
    by_cases hq:q=b
    ·subst hq;rw [if_pos rfl];exact loc_setLoc_self _ hl' _
    ·rw [if_neg hq];exact loc_setLoc_other _ (fun h=>hq h.symm) _
   have locg:∀ (q:Nat),((f.setLoc b new').map E.noLoc).loc q=if q=b then some new' else f.loc q:=by
    intro q
    by_cases hq:q=b
    ·subst hq;rw [if_pos rfl];exact loc_setLoc_self _ lb _
    ·rw [if_neg hq];exact loc_setLoc_other _ (fun h=>hq h.symm) _
   have lock1:∀ (q:Nat),((f.setLoc a new).map E.noLoc).loc q=if q=a then some new else f.loc q:=by
    intro q
    by_cases hq:q=a
    ·subst hq;rw [if_pos rfl];exact loc_setLoc_self _ hl _
    ·rw [if_neg hq];exact loc_setLoc_other _ (fun h=>hq h.symm) _
   refine ⟨rfl,rfl,plain_of hoi gb xb hns',(f.setLoc b new').map E.noLoc,plain_back _ hmi hoi gb xb hty' hc' lb hsp',plain_of hok ga xa hns,?_,?_,?_,fun t=>get_setLoc _ _ _ _⟩
   ·rw [plain_back _ hmk hok ga xa hty hc la hsp,fin]
   ·rintro ⟨r1,r2⟩
    refine ⟨fun q=>?_,r2⟩
    rw [lock,locg]
    split
    ·rfl
    ·exact r1 q
   ·rintro ⟨r1,r2⟩
    refine ⟨fun q=>?_,r2⟩
    rw [locg]
    have:=r1 q
    rw [lock,lock1] at this
    by_cases hq:q=b
    ·subst hq
     rw [if_pos rfl,if_neg hab] at this
     rw [if_pos rfl];exact this
    ·rw [if_neg hq]
theorem any_eff {Q:Fr→St→Prop} {k:Nat} {ok:Oper} (hk:ops[k]?=some ok)(hsemi:semiM fi ok=true)(hq:isQM g fi ok=false) :
  ∀ (fuel:Nat) (listed:Array Bool) (fr:Fr) (e:E) (fr1:Fr) (st:St) (st1:St),firm g fi ops k ok fr=true→BI ops fr→Closed ops listed→(∀ i,i<k→listed.getD i false=true) →
   (∀ j oj,ops[j]?=some oj→j≠k→listed.getD j true=false→(∀ e∈oj.after,Region.binds .any e=true→e.on≠k)→ok.apart ops oj=true) →
   k∈Region.ready .any ops listed→wantedE ops.toList ok fr=some true→stepM g fi call fr st ok=some (.ok e fr1 st1)→(tameB fi ops k ok=true→SameRead fr st fr1 st1) →
   anyA g fi call ops Q PQ fuel (listed.setIfInBounds k true) (fr1.putO ok.dst e) st1→anyA g fi call ops Q PQ (fuel+1) listed fr st:=by
 intro fuel
 induction fuel with
 | zero =>
  intro listed fr e fr1 st st1 hstr b hcl hlt hfree hr hw hs htm H
  refine ⟨fun h=>(by rw [h] at hr;cases hr),fun j hj=>?_⟩
  by_cases hji:j=k
  ·subst hji;unfold aOp;simp only [hk];exact .inr ⟨by rw [hsemi,Bool.or_true],hstr,hq,hw,.inl ⟨e,fr1,st1,hs,htm,by rw [if_pos hsemi];exact H⟩⟩
  ·have:=ready_mono hj hji
   rw [H.1] at this
   cases this
 | succ fuel ih =>
  intro listed fr e fr1 st st1 hstr b hcl hlt hfree hr hw hs htm H
  refine ⟨fun h=>(by rw [h] at hr;cases hr),fun i hi=>?_⟩
  by_cases hik:i=k
  ·subst hik;unfold aOp;simp only [hk];exact .inr ⟨by rw [hsemi,Bool.or_true],hstr,hq,hw,.inl ⟨e,fr1,st1,hs,htm,by rw [if_pos hsemi];exact H⟩⟩
  ·have h1:=H.2 i (ready_mono hi hik)
   obtain ⟨hiun,oi,hoi,hall⟩:=mem_ready.1 hi
   have hnot:∀ e∈oi.after,Region.binds .any e=true→e.on≠k:=fun e he hb heq=>by
    have h1:=hall e he hb
    have h0:=(mem_ready.1 hr).1
    rw [heq] at h1
    exact not_both h0 h1
   obtain ⟨a1,a2,a3⟩:=Oper.apart_spec (hfree i oi hoi hik hiun hnot)
   have hord:=not_ordered hcl hi hr (Ne.symm hik)
   have hki:k<i:=by
    rcases Nat.lt_trichotomy i k with h | h | h
    ·exact (not_both hiun (hlt i h)).elim
    ·exact (hik h).elim
    ·exact h
   have hns:strongB g fi ops i=false:=by
    cases h:strongB g fi ops i with
    | false=>rfl
    | true=>rw [strong_ord h hk hq] at hord;cases hord
   have hlt2:∀ j,j<k→(listed.setIfInBounds i true).getD j false=true:=fun j hj=>getD_set_true (hlt j hj)
   have hfree2:∀ j oj,ops[j]?=some oj→j≠k→(listed.setIfInBounds i true).getD j true=false→(∀ e∈oj.after,Region.binds .any e=true→e.on≠k)→ok.apart ops oj=true:=by
    intro j oj hj hjk hun hno
    refine hfree j oj hj hjk ?_ hno
    by_cases hji:i=j
    ·subst hji;exact hiun
    ·rw [getD_set_ne true hji] at hun;exact hun
   by_cases hqi:isQM g fi oi=true
   ·unfold aOp at h1 ⊢
    simp only [hoi] at h1 ⊢
    rcases h1 with ⟨y,hy,hK⟩ | ⟨_,_,h,_⟩
    ·obtain ⟨w1,w2,w3,w4,w5⟩:=stepM_weak hsemi hs
     obtain ⟨q1,q2⟩:=beside hcl hi hr b hoi hk (Ne.symm hik) hqi hq a3 a1 hsemi hs
     obtain ⟨y0,hf⟩:=hy.weak (fr':=fr) (st':=st) (fun _=>hns) (fun t ht=>(q1 t ht).symm) (fun u t hd hc=>(q2 u t hd hc).imp Eq.symm And.symm) (fun hm t x ho hel=>by
      rcases mild_ord hm hk hq hord with hmo | ⟨_,h6⟩ | h6
      ·have:=w5 (hmo.2.resolve_left (by omega))
       exact .inl ⟨fun s=>by rw [loc_putO'];exact this.1 s,this.2⟩
      ·omega
      ·have hew:(fr.op x).weak=((fr1.putO ok.dst e).op x).weak:=op_ofw (ops:=ops) (o:=oi) (by rw [ho];simp [Op.operands]) (fun t ht=>q1 t ht)
       have hel':elseOk g fi ops i oi (fr.op x)=true:=by rw [elseOk_weak hew];exact hel
       have:=(call_same ok.dst hk hq hord h6 hel hs).2
       exact .inr this)
     have hyo:=y0.ok
     have hse:=stepE_puts (fi:=fi) (call:=call) (g:=g) (st:=st) hcl hi hr hoi hk (Ne.symm hik) hq a3 hyo hf b hsemi
     rw [hs] at hse
     have a2':∀ s,oi.dst=some s→ok.dst≠some s:=fun s h1 h2=>a2 s h2 h1
     have look:=look_puts hcl hi hr hoi hk (Ne.symm hik) a3 hyo b
     refine .inl ⟨y,y0,?_⟩
     refine ih (listed.setIfInBounds i true) (fr.puts y) e (fr1.puts y) st st1 (by rw [firm_congr look];exact hstr) (b.puts hoi hyo) (hcl.list hi) hlt2 hfree2 (ready_mono hr (Ne.symm hik)) ?_ hse (fun ht=>⟨fun s=>by have:=(htm ht).1 s;rwa [loc_puts,loc_puts],(htm ht).2⟩) ?_
     ·rw [wanted_congr look];exact hw
     ·rw [after_puts a2' a1 hyo w3,Array.setIfInBounds_comm _ _ hik];exact hK
    ·rw [hqi] at h;cases h
   ·have hqi':isQM g fi oi=false:=by simpa using hqi
    have hnot2:=not_ordered hcl hr hi hik
    have hnk:strongB g fi ops k=false:=by
     cases h:strongB g fi ops k with
     | false=>rfl
     | true=>rw [strong_ord h hoi hqi'] at hnot2;cases hnot2
    have hfk:strongP g fi ops k=true∧plainSt fr ok=true:=by
     unfold firm at hstr
     rw [hnk,Bool.false_or,Bool.and_eq_true,Bool.and_eq_true] at hstr;exact hstr.1
    have hpair:pairB fi oi ok=true:=by
     have hisz:i<ops.size:=ready_size hi
     have:=List.all_eq_true.1 hfk.1 i (by rw [List.mem_range];exact hisz)
     simp only [hoi,hk,hqi',hnot2,Bool.false_or] at this
     exact this
    have hdi:oi.dst=none∧ok.dst=none∧semiM fi oi=true:=by
     unfold pairB at hpair
     split at hpair
     ·rename_i x y hx hy
      obtain ⟨⟨t,z,hst⟩,hd⟩:=locSt_spec hx
      refine ⟨hd,(locSt_spec hy).2,?_⟩
      unfold semiM semi
      rw [hst];simp
     ·cases hpair
    obtain ⟨hdi,hdk,hsi⟩:=hdi
    have hmi:=nodst_unmarked (fi:=fi) hdi
    have e1:fr1.putO ok.dst e=fr1:=by rw [hdk];rfl
    obtain ⟨w1,_,_,_,_⟩:=stepM_weak hsemi hs
    rw [e1] at h1 H
    have hwan:wantedE ops.toList oi fr=wantedE ops.toList oi fr1:=wanted_weak fun t _=>(w1 t).symm
    unfold aOp at h1 ⊢
    simp only [hoi] at h1 ⊢
    rcases h1 with ⟨y,hy,hK⟩ | ⟨p1,p2,p3,p4,hh⟩
    ·rcases hy with ⟨_,hy,_⟩ | ⟨hwf,rfl⟩
     ·rw [hy] at hqi';cases hqi'
     ·rw [hdi] at hK ⊢
      refine .inl ⟨[],.inr ⟨by rw [hwan];exact hwf,by rw [hdi];rfl⟩,?_⟩
      refine ih (listed.setIfInBounds i true) fr e fr1 st st1 hstr b (hcl.list hi) hlt2 hfree2 (ready_mono hr (Ne.symm hik)) hw hs htm ?_
      rw [e1,Array.setIfInBounds_comm _ _ hik];exact hK
    ·have hfi:strongP g fi ops i=true∧plainSt fr1 oi=true:=by
      unfold firm at p2
      rw [hns,Bool.false_or,Bool.and_eq_true,Bool.and_eq_true] at p2;exact p2.1
     rcases hh with ⟨e',f2,s2,hs2,htm2,hK⟩ | ⟨v,s2,hs2,_⟩
     ·obtain ⟨rfl,rfl,hpi,g1,hg1,hpk,hg2,r1,r2,_⟩:=two_stores hpair hfk.2 hs hfi.2 hs2
      obtain ⟨u1,u2,_,_,_⟩:=stepM_weak hsi hg1
      have e2:∀ f:Fr,f.putO oi.dst e'=f:=fun f=>by rw [hdi];rfl
      refine .inr ⟨p1,by unfold firm;rw [hfi.1,hpi];simp,p3,by rw [hwan];exact p4,.inl ⟨e',g1,_,hg1,fun ht=>r2 (htm2 ht),?_⟩⟩
      rw [if_pos hsi,e2] at hK ⊢
      refine ih (listed.setIfInBounds i true) g1 e f2 _ _ (by unfold firm;rw [hfk.1,hpk];simp) (b.new u2) (hcl.list hi) hlt2 hfree2 (ready_mono hr (Ne.symm hik)) (by rw [← hw];exact wanted_weak fun t _=>u1 t) hg2 (fun ht=>r1 (htm ht)) ?_
      have e3:f2.putO ok.dst e=f2:=by rw [hdk];rfl
      rw [e3,Array.setIfInBounds_comm _ _ hik];exact hK
     ·exact (plain_nopan hmi hfi.2 hs2).elim
theorem any_lex {Q:Fr→St→Prop}:∀ (l:List Oper) (k:Nat) (listed:Array Bool) (fr:Fr) (st:St) (out:Rg),BI ops fr→Closed ops listed→(∀ i,i<k→listed.getD i false=true)→(∀ (j:Nat),l[j]?=ops[k+j]?) →
  Region.lexFrom .any ops l.length k listed=true→evalDraw g fi call ops l k fr st=some out→(∀ fr' st',out=.ok fr' st'→Q fr' st')→(∀ v st',out=.pan v st'→PQ v st')→anyA g fi call ops Q PQ l.length listed fr st
 | [],_,_,_,_,_,_,_,_,_,hB,h,q,_=>by
  simp only [evalDraw,Option.some.injEq] at h;subst h
  exact ⟨by simpa [Region.lexFrom] using hB,q _ _ rfl⟩
 | o :: l,k,listed,fr,st,out,b,hcl,hlt,hl,hB,h,q,qp=>by
  have h0:ops[k]?=some o:=by simpa using (hl 0).symm
  simp only [List.length_cons,Region.lexFrom,Bool.and_eq_true] at hB
  obtain ⟨⟨hr,hf⟩,hB'⟩:=hB
  have hr':k∈Region.ready .any ops listed:=by simpa using hr
  have hl':∀ (j:Nat),l[j]?=ops[k+1+j]?:=fun j=>by have:=hl (j+1);simpa [Nat.add_assoc,Nat.add_comm 1 j] using this
  have hlt':∀ i,i<k+1→(listed.setIfInBounds k true).getD i false=true:=fun i hi=>by
   by_cases h:i=k
   ·subst h
    have hun:=(mem_ready.1 hr').1
    have hsz:i<listed.size:=by
     rcases Nat.lt_or_ge i listed.size with h | h
     ·exact h
     ·simp [Array.getElem?_eq_none h] at hun
    simp [hsz]
   ·exact getD_set_true (hlt i (by omega))
  have quiet:∀ y,Yld g fi call ops k o y fr st→evalDraw g fi call ops l (k+1) (fr.puts y) st=some out→anyA g fi call ops Q PQ (l.length+1) listed fr st:=fun y hy hK =>
   any_first h0 l.length listed fr st b hcl (Region.free_spec h0 hf) hr' hy (any_lex l (k+1) _ _ _ out (b.puts h0 hy.ok) (hcl.list hr') hlt' hl' hB' hK q qp)
  unfold evalDraw at h
  split at h
  ·rename_i hw
   split at h
   ·rename_i hq
    split at h
    ·rename_i y hy
     exact quiet y (.inl ⟨hw,hq,hy⟩) h
    ·cases h
   ·rename_i hnq
    have hq:isQM g fi o=false:=by simpa using hnq
    split at h
    ·rename_i hp
     rw [Bool.and_eq_true,Bool.and_eq_true] at hp
     obtain ⟨⟨hps,hstr⟩,hidle⟩:=hp
     split at h
     ·rename_i e fr1 st1 hs
      have htm:tameB fi ops k o=true→SameRead fr st fr1 st1:=fun ht=>idle_sameM ht (by simpa [ht] using hidle) hs
      by_cases hsemi:semiM fi o=true
      ·rw [if_pos hsemi] at h
       obtain ⟨w1,w2,w3,_⟩:=stepM_weak hsemi hs
       have hbi:BI ops (fr1.putO o.dst e):=by
        rw [← putO_puts]
        exact (b.new w2).puts h0 (YOk.dst (i:=k) w3)
       exact any_eff h0 hsemi hq l.length listed fr e fr1 st st1 hstr b hcl hlt (Region.free_spec h0 hf) hr' hw hs htm (any_lex l (k+1) _ _ _ out hbi (hcl.list hr') hlt' hl' hB' h q qp)
      ·have hp:pivotB ops k=true:=by
        have:semiM fi o=false:=by simpa using hsemi
        rw [this,Bool.or_false] at hps;exact hps
       rw [if_neg hsemi] at h
       refine ⟨fun h=>(by rw [h] at hr';cases hr'),fun i hi=>?_⟩
       have:=pivot_alone hcl hp hr' hi
       subst this
       unfold aOp
       simp only [h0]
       exact .inr ⟨hps,hstr,hq,hw,.inl ⟨e,fr1,st1,hs,htm,by rw [if_neg hsemi];exact any_lex l _ _ _ _ out (bi_calm ops) (hcl.list hr') hlt' hl' hB' h q qp⟩⟩
     ·rename_i v st1 hs
      split at h
      ·rename_i hth
       cases h
       refine ⟨fun h=>(by rw [h] at hr';cases hr'),fun i hi=>?_⟩
       have:i=k:=by
        obtain ⟨hiu,_⟩:=mem_ready.1 hi
        rcases Nat.lt_trichotomy i k with h | h | h
        ·exact (not_both hiu (hlt i h)).elim
        ·exact h
        ·have hlt:=ready_size hi
         exact (not_dep hcl hr' hi (List.all_eq_true.1 hth i (by rw [List.mem_range'_1];omega))).elim
       subst this
       unfold aOp
       simp only [h0]
       exact .inr ⟨hps,hstr,hq,hw,.inr ⟨v,st1,hs,qp _ _ rfl⟩⟩
      ·cases h
     ·cases h
    ·cases h
  ·rename_i hw
   rw [← putO_puts] at h
   exact quiet _ (.inr ⟨hw,rfl⟩) h
  ·cases h
theorem RepE.calm {v:Value} {s:Nat} {tmps:Array Value} {e:E} (hl:fr'.loc=fr.loc)(h:RepE d κ w lam fr st tmps s v e):RepE d κ w lam fr' st tmps s v e.calm:=by
 cases e with
 | bor k xs p =>
  cases p with
  | slot t=>exact h.1
  | mem id off=>exact h
  | loc t off =>
   obtain ⟨r1,cs,b,e1,e2⟩:=h
   exact ⟨r1,cs,b,by rw [hl];exact e1,e2⟩
 | _=>exact h
theorem R.clear (r:R d n κ w lam fr st a):R d n κ w lam fr.clear st a where
 sim:=r.sim
 fm:={
  defers:=r.fm.defers
  size:=r.fm.size
  tmp:=fun s=>by
   rcases get_clear (fr:=fr) s with hc | hc <;> rw [hc]
   ·exact RepE.calm (fr:=fr) (fr':=fr.clear) rfl (r.fm.tmp s)
   ·trivial
  loc:=fun s cs hc=>r.fm.loc s cs hc}
theorem R.calm (r:R d n κ w lam fr st a):R d n κ w lam fr.calm st a where
 sim:=r.sim
 fm:={
  defers:=r.fm.defers
  size:=r.fm.size
  tmp:=fun s=>by
   rw [show fr.calm.get s=(fr.get s).calm from get_map fr E.calm rfl s]
   exact RepE.calm (fr:=fr) (fr':=fr.calm) rfl (r.fm.tmp s)
  loc:=fun s cs hc=>r.fm.loc s cs hc}
theorem RepV.calm {tmps:Array Value} {v:Value} {e:E} (h:RepV κ w lam fr st tmps v e):RepV κ w lam fr st tmps v e.calm:=by
 cases e with
 | bor k xs p =>
  cases p with
  | slot t=>exact h.1
  | _=>exact h
 | _=>exact h
theorem RepV.weak {tmps:Array Value} {v:Value} {e:E} (h:RepV κ w lam fr st tmps v e):RepV κ w lam fr st tmps v e.weak:=by
 cases e with
 | own k xs=>exact h.1
 | bor k xs p=>cases p <;> exact h.1
 | _=>exact h
theorem R.still (r:R d n κ w lam fr st a)(x:Operand):RepV κ w lam fr st a.tmps (a.eval x) (fr.op x).still:=by
 have gen:∀ e:E,RepR κ w lam (a.eval x) e→(∀ k xs p,e≠.bor k xs p)→RepV κ w lam fr st a.tmps (a.eval x) e.still:=by
  intro e h hne
  cases e with
  | bor k xs p=>exact (hne _ _ _ rfl).elim
  | _=>exact h
 cases x with
 | tmp t =>
  have h:=r.fm.tmp t
  show RepV κ w lam fr st a.tmps (a.tmps.getD t undef) (fr.get t).still
  generalize a.tmps.getD t undef=v at h
  generalize fr.get t=e at h
  cases e with
  | bor k xs p =>
   cases p with
   | slot t=>exact h.1
   | _=>exact h
  | own k xs=>exact h.1
  | _=>exact h
 | const v=>exact gen _ (r.op _) (fun k xs p h=>by
   simp only [Fr.op] at h
   generalize constV v=y at h
   cases y <;> simp [V.toE] at h)
 | func f=>exact gen _ (r.op _) (fun k xs p h=>by cases h)
 | global f=>exact gen _ (r.op _) (fun k xs p h=>by cases h)
theorem stepQ_wp (hg:GOk P g)(hc:CallOk P call)(r:R d n κ w lam fr st a) {e:E} (h:stepQ g fi call fr st o=some e) {next:Act→World→Prop} {Q:Exit→Act→World→Prop}
  (ha:∀ v w' κ' lam',R d n κ' w' lam' fr st a→RepV κ' w' lam' fr st a.tmps v e→Pres (Keep d st.wp) κ w κ' w'→next (a.put o.dst v) w'):o.wp P a w next Q:=by
 unfold stepQ at h
 split at h
 ·rename_i x ho
  cases h
  refine Does.wp (rs:=.ok (fr.op x).still fr st) (Does.pure r (v:=a.eval x) (by unfold execOp;rw [ho];rfl) (r.still x)) ?_
  exact fun v w' κ' lam' r' v' p _=>ha v w' κ' lam' r' v' p
 ·rename_i x ho
  cases h
  refine Does.wp (rs:=.ok (fr.op x).still fr st) (Does.pure r (v:=a.eval x) (by unfold execOp;rw [ho];rfl) (r.still x)) ?_
  exact fun v w' κ' lam' r' v' p _=>ha v w' κ' lam' r' v' p
 ·split at h
  ·rename_i hq
   split at h
   ·rename_i e0 fr1 st1 hs
    cases h
    obtain ⟨e1,he⟩:=quiet_same hq hs
    cases he
    refine stepE_wp hg hc r hs ?_
    exact fun v w' κ' lam' r' v' p _=>ha v w' κ' lam' r' v'.calm p
   ·cases h
  ·split at h
   ·unfold freeQ at h
    split at h
    ·rename_i args ats ho
     refine Does.wp (rs:=.ok e fr st) (free_ok hg.ty r ho h) ?_
     exact fun v w' κ' lam' r' v' p _=>ha v w' κ' lam' r' v' p
    ·cases h
   ·cases h
theorem stepW_wp (hg:GOk P g)(hc:CallOk P call)(hb:∀ s,o.dst=some s→s<n)(r:R d n κ w lam fr st a) {i:Nat} {y:List (Nat × E)} (h:stepW g fi call ops i fr st o=some y) {next:Act→World→Prop} {Q:Exit→Act→World→Prop}
  (ha:∀ v w' κ' lam',R d n κ' w' lam' (fr.puts y) st (a.put o.dst v)→Pres (Keep d st.wp) κ w κ' w'→next (a.put o.dst v) w'):o.wp P a w next Q:=by
 -- a yield of one temporary
 have one:∀ {t:Nat} {e e0:E},o.dst=some t→y=[(t,e)]→stepQ g fi call fr st o=some e0→(∀ {κ':K} {w':World} {lam':Lam} {v:Value},RepV κ' w' lam' fr st a.tmps v e0→RepV κ' w' lam' fr st a.tmps v e)→o.wp P a w next Q:=by
  intro t e e0 hd hy hq he
  refine stepQ_wp hg hc r hq fun v w' κ' lam' r' v' p=>?_
  obtain ⟨κ2,r2,p2⟩:=putO_ok r' hb (he v')
  exact ha v w' κ2 lam' (by rw [hy];rw [hd] at r2 ⊢;exact r2) (p.trans (pres_fly p2))
 have full:∀ {e:E} {fr1:Fr},stepE g fi call fr st o=some (.ok e fr1 st)→fr.puts y=fr1.putO o.dst e→o.wp P a w next Q:=by
  intro e fr1 hs hy
  refine stepE_wp hg hc r hs ?_
  intro v w' κ' lam' r' v' p e'
  obtain ⟨κ2,r2,p2⟩:=putO_ok r' hb v'
  exact ha v w' κ2 lam' (by rw [hy];exact r2) (p.trans (pres_fly p2))
 have other:∀ {e e0:E},y=o.dst.toList.map (fun s=>(s,e))→stepQ g fi call fr st o=some e0→(∀ {κ':K} {w':World} {lam':Lam} {v:Value},RepV κ' w' lam' fr st a.tmps v e0→RepV κ' w' lam' fr st a.tmps v e)→o.wp P a w next Q:=by
  intro e e0 hy hq he
  refine stepQ_wp hg hc r hq fun v w' κ' lam' r' v' p=>?_
  obtain ⟨κ2,r2,p2⟩:=putO_ok r' hb (he v')
  exact ha v w' κ2 lam' (by rw [hy,putO_puts];exact r2) (p.trans (pres_fly p2))
 have qm:∀ {u:Nat},o.op=.move (.tmp u)→stepQ g fi call fr st o=some (fr.get u).still:=fun ho=>by unfold stepQ;rw [ho];rfl
 have qa:∀ {u:Nat},o.op=.assign (.tmp u)→stepQ g fi call fr st o=some (fr.get u).still:=fun ho=>by unfold stepQ;rw [ho];rfl
 have sw:∀ {e:E} {κ':K} {w':World} {lam':Lam} {v:Value},RepV κ' w' lam' fr st a.tmps v e.still→RepV κ' w' lam' fr st a.tmps v e.weak:=fun h=>by
  have:=h.weak;rw [still_weak] at this;exact this
 cases stepW_iff.1 h with
 | lend ho hd hu hb' =>
  refine full (e:=.bor _ _ (.slot _)) (fr1:=fr) ?_ (by rw [hd];rfl)
  unfold stepE stepOp
  simp only [ho,Fr.lend,hu]
 | keep ho hd hu hb'=>exact one hd rfl (qm ho) (fun h=>by rw [hu] at h;exact h)
 | move ho hd hu hs=>exact one hd rfl (qm ho) (fun h=>h)
 | movew ho hd hu hs=>exact one hd rfl (qm ho) sw
 | hand ho hd hu hb' hne =>
  refine full (e:=upE g o.type (.own _ _)) (fr1:=fr.put _ (.val (.slice _))) ?_ (by rw [hd];rfl)
  unfold stepE stepOp
  simp only [ho,take,hu]
 | akeep ho hd hu hb'=>exact one hd rfl (qa ho) (fun h=>by rw [hu] at h;exact h)
 | assign ho hd hu hs=>exact one hd rfl (qa ho) (fun h=>h)
 | assignw ho hd hu hs=>exact one hd rfl (qa ho) sw
 | other hno h9 hs=>exact other rfl h9 (fun h=>h)
 | otherw hno h9 hs hw=>exact other rfl h9 (fun h=>h.weak)
theorem any_wp (hg:GOk P g)(hc:CallOk P call)(hb:∀ o∈ops.toList,∀ s,o.dst=some s→s<n) {Qc:Exit→Act→World→Prop} {Q:Fr→St→Prop} :
  ∀ (fuel:Nat) (listed:Array Bool) {κ:K} {w:World} {lam:Lam} {fr:Fr} {st:St} {a:Act},R d n κ w lam fr st a→(∀ f s,Q f s→Fin d n κ w st Qc (.ok f s))→(∀ v s,PQ v s→Fin d n κ w st Qc (.pan v s)) →
   anyA g fi call ops Q PQ fuel listed fr st→wpAny P .any ops Qc fuel listed a w
 | 0,_,κ,w,lam,fr,st,a,r,q,qp,h=>⟨h.1,q _ _ h.2 a w κ lam r (.refl _ _ _) rfl⟩
 | fuel+1,listed,κ,w,lam,fr,st,a,r,q,qp,h=>by
  refine ⟨fun h0=>q _ _ (h.1 h0) a w κ lam r (.refl _ _ _) rfl,fun i hi=>?_⟩
  have h1:=h.2 i hi
  unfold aOp at h1
  unfold wpOp
  split
  ·rename_i ho
   simp only [ho] at h1
   exact any_wp hg hc hb fuel _ r q qp h1
  ·rename_i o ho
   simp only [ho] at h1
   have hmem:o∈ops.toList:=by
    have:=Array.mem_of_getElem? ho;simpa using this
   rcases h1 with ⟨y,hy,h2⟩ | ⟨_,_,_,hw,h2⟩
   ·rcases hy with ⟨hw,_,hs⟩ | ⟨hw,rfl⟩
    ·rw [wanted_ok r hw,if_pos rfl]
     refine .inl (stepW_wp hg hc (hb o hmem) r hs ?_)
     intro v w' κ' lam' r' p3
     exact any_wp hg hc hb fuel _ r' (fun f s h=>(q f s h).trans p3 rfl) (fun v s h=>(qp v s h).trans p3 rfl) h2
    ·rw [wanted_ok r hw]
     simp only [Bool.false_eq_true,if_false]
     obtain ⟨κ2,r2,p2⟩:=putO_ok (e:=.val (.tuple [])) (v:=undef) r (hb o hmem) (Rep.tuple .nil)
     rw [putO_puts] at h2
     exact any_wp hg hc hb fuel _ r2 (fun f s h=>(q f s h).trans (pres_fly p2) rfl) (fun v s h=>(qp v s h).trans (pres_fly p2) rfl) h2
   ·rw [wanted_ok r hw,if_pos rfl]
    refine .inl ?_
    rcases h2 with ⟨e,fr1,st1,hs,_,h3⟩ | ⟨v,st1,hs,h3⟩
    ·refine stepM_wp hg hc r hs ?_
     intro v w' κ' lam' r' v' p' e'
     obtain ⟨κ2,r2,p2⟩:=putO_ok r' (hb o hmem) v'
     have p3:=p'.trans (pres_fly (wp:=st.wp) p2)
     split at h3
     ·exact any_wp hg hc hb fuel _ r2 (fun f s h=>(q f s h).trans p3 e') (fun v s h=>(qp v s h).trans p3 e') h3
     ·exact any_wp hg hc hb fuel _ r2.calm (fun f s h=>(q f s h).trans p3 e') (fun v s h=>(qp v s h).trans p3 e') h3
    ·refine stepM_wp hg hc r hs ?_
     intro u w' κ' hu s' p' e'
     exact qp v st1 h3 a u w' κ' r.fm.defers hu s' p' e'
theorem draw_wp (hg:GOk P g)(hc:CallOk P call)(hb:∀ o∈ops.toList,∀ s,o.dst=some s→s<n)(r:R d n κ w lam fr st a)(hB:Region.lexB .any ops=true) {out:Rg}
  (h:evalDraw g fi call ops ops.toList 0 fr.clear st=some out) {Qc:Exit→Act→World→Prop} (hQ:Fin d n κ w st Qc out) (id:Nat):(Code.region id ops true).wp P Qc a w:=by
 have hB':=hB
 simp only [Region.lexB,Bool.and_eq_true] at hB'
 have r1:R d n κ w.drew lam fr.clear st a:=(r.clear).drew
 refine wp_region_any hg.mixed ?_
 rw [World.drew_eq]
 have hQ':Fin d n κ w.drew st Qc out:=hQ.trans (pres_drew _) rfl
 refine any_wp (fi:=fi) (Q:=fun f s=>out=.ok f s) (PQ:=fun v s=>out=.pan v s) hg hc hb ops.size _ r1 (fun f s h=>h ▸ hQ') (fun v s h=>h ▸ hQ') ?_
 have hcl:Closed ops (Array.replicate ops.size false):=by
  intro j o ho hj
  have hlt:=(Array.getElem?_eq_some_iff.1 ho).1
  simp [hlt] at hj
 have:=any_lex (g:=g) (fi:=fi) (call:=call) (ops:=ops) (PQ:=fun v s=>out=.pan v s) (Q:=fun f s=>out=.ok f s) ops.toList 0 (Array.replicate ops.size false) fr.clear st out (bi_clear ops) hcl (fun i hi=>(Nat.not_lt_zero i hi).elim) (by simp) (by simpa using hB'.2) h (fun _ _ h=>h) (fun _ _ h=>h)
 simpa using this
end
end Go.Ab
namespace Go.Ab
open Go
variable {P:Program} {d n:Nat} {κ:K} {w:World} {lam:Lam} {fr fr':Fr} {st:St} {a:Act} {o:Oper}
variable {g:G} {fi:FI} {call:Calling}
def FinX (d n:Nat)(κ:K)(w:World)(st:St)(Q:Exit→Act→World→Prop)(x:X)(fr':Fr)(st':St):Prop :=
 match x with
 | .normal=>∀ a' w' κ' lam',R d n κ' w' lam' fr' st' a'→Pres (Keep d st.wp) κ w κ' w'→st'.wp=st.wp→Q .normal a' w'
 | .exit id=>∀ a' w' κ' lam',R d n κ' w' lam' fr' st' a'→Pres (Keep d st.wp) κ w κ' w'→st'.wp=st.wp→Q (.exit id) a' w'
 | .ret=>∀ a' w' κ' lam',R d n κ' w' lam' fr' st' a'→Pres (Keep d st.wp) κ w κ' w'→st'.wp=st.wp→Q .ret a' w'
 | .pan v=>∀ a' u w' κ',a'.defers=[]→Rep κ' w' u v→Sim κ' w' st'→Pres (Keep d st.wp) κ w κ' w'→st'.wp=st.wp→Q (.panic [{v:=u,recovered:=false}]) a' w'
theorem FinX.trans {st1:St} {κ1:K} {w1:World} {Q:Exit→Act→World→Prop} {x:X} {st':St} (h:FinX d n κ w st Q x fr' st')(p:Pres (Keep d st.wp) κ w κ1 w1)(e:st1.wp=st.wp):FinX d n κ1 w1 st1 Q x fr' st':=by
 cases x with
 | pan v=>exact fun a' u w' κ' hd r s q f=>h a' u w' κ' hd r s (p.trans (e ▸ q)) (f.trans e)
 | _=>exact fun a' w' κ' lam' r q f=>h a' w' κ' lam' r (p.trans (e ▸ q)) (f.trans e)
def dstOk (n:Nat):Code→Bool
 | .region _ ops _=>ops.toList.all fun o=>match o.dst with | some s=>decide (s<n) | none=>true
 | .seq a b=>dstOk n a && dstOk n b
 | .cond _ a b=>dstOk n a && dstOk n b
 | .block _ b=>dstOk n b
 | .loop b=>dstOk n b
 | _=>true
theorem dst_of {ops:Array Oper} {id:Nat} {draw:Bool} (h:dstOk n (.region id ops draw)=true):∀ o∈ops.toList,∀ s,o.dst=some s→s<n:=by
 intro o ho s hs
 simp only [dstOk] at h
 have:=List.all_eq_true.1 h o ho
 rw [hs] at this
 simpa using this
theorem code_wp {g:G} {fi:FI} {call:Calling} (hg:GOk P g)(hc:CallOk P call)(m:Nat):∀ (c:Code) {κ:K} {w:World} {lam:Lam} {fr:Fr} {st:St} {a:Act} {Q:Exit→Act→World→Prop} {x:X} {fr':Fr} {st':St},
  dstOk n c=true→R d n κ w lam fr st a→evalCode g fi call m c fr st=some (x,fr',st')→FinX d n κ w st Q x fr' st'→c.wp P Q a w
 | .skip,κ,w,lam,fr,st,a,Q,x,fr',st',_,r,h,f=>by
  simp only [evalCode,Option.some.injEq,Prod.mk.injEq] at h
  obtain ⟨rfl,rfl,rfl⟩:=h
  exact wp_skip (f a w κ lam r (.refl _ _ _) rfl)
 | .region id ops draw,κ,w,lam,fr,st,a,Q,x,fr',st',hd,r,h,f=>by
  simp only [evalCode] at h
  split at h
  ·rename_i hdr
   subst hdr
   split at h
   ·rename_i hB
    split at h
    ·rename_i fr1 st1 he
     cases h
     exact draw_wp hg hc (dst_of hd) r hB he (fun a' w' κ' lam' r' p e=>f a' w' κ' lam' r' p e) id
    ·rename_i v st1 he
     cases h
     exact draw_wp hg hc (dst_of hd) r hB he (fun a' u w' κ' hd q s p e=>f a' u w' κ' hd q s p e) id
    ·cases h
   ·cases h
  ·rename_i hdr
   have:draw=false:=by simpa using hdr
   subst this
   have r1:R d n κ w lam fr.clear st a:=r.clear
   split at h
   ·rename_i fr1 st1 he
    cases h
    refine wp_region ?_
    rw [List.range_eq_range']
    exact ops_wp hg hc (dst_of hd) _ 0 (rg:=.ok fr' st') rfl r1 he (fun a' w' κ' lam' r' p e=>f a' w' κ' lam' r' p e)
   ·rename_i v st1 he
    cases h
    refine wp_region ?_
    rw [List.range_eq_range']
    exact ops_wp hg hc (dst_of hd) _ 0 (rg:=.pan v st') rfl r1 he (fun a' u w' κ' hd q s p e=>f a' u w' κ' hd q s p e)
   ·cases h
 | .seq c1 c2,κ,w,lam,fr,st,a,Q,x,fr',st',hd,r,h,f=>by
  simp only [dstOk,Bool.and_eq_true] at hd
  simp only [evalCode] at h
  refine wp_seq ?_
  split at h
  ·rename_i fr1 st1 h1
   refine code_wp hg hc m c1 hd.1 r h1 ?_
   intro a1 w1 κ1 lam1 r1 p1 e1
   exact code_wp hg hc m c2 hd.2 r1 h (f.trans p1 e1)
  ·rename_i hne
   refine code_wp hg hc m c1 hd.1 r h ?_
   cases x with
   | normal=>exact (hne _ _ h).elim
   | _=>exact f
 | .cond c c1 c2,κ,w,lam,fr,st,a,Q,x,fr',st',hd,r,h,f=>by
  simp only [dstOk,Bool.and_eq_true] at hd
  simp only [evalCode] at h
  have hb:∀ b,(fr.op c).bool?=some b→a.eval c=.bool b:=by
   intro b hb
   have h1:=r.op c
   cases he:fr.op c <;> rw [he] at hb h1 <;> simp only [E.bool?] at hb <;> try cases hb
   rename_i v
   cases v <;> simp only [E.bool?] at hb <;> try cases hb
   exact Rep.bool_inv h1
  split at h
  ·rename_i hb1
   exact wp_cond_true (hb _ hb1) (code_wp hg hc m c1 hd.1 r h f)
  ·rename_i hb1
   exact wp_cond_false (hb _ hb1) (code_wp hg hc m c2 hd.2 r h f)
  ·cases h
 | .block id c,κ,w,lam,fr,st,a,Q,x,fr',st',hd,r,h,f=>by
  simp only [dstOk] at hd
  simp only [evalCode] at h
  refine wp_block ?_
  split at h
  ·rename_i i fr1 st1 h1
   refine code_wp hg hc m c hd r h1 ?_
   intro a1 w1 κ1 lam1 r1 p1 e1
   simp only [Exit.inBlock]
   split at h
   ·rename_i hi
    cases h
    have:i=id:=by simpa using hi
    rw [if_pos this]
    exact f a1 w1 κ1 lam1 r1 p1 e1
   ·rename_i hi
    cases h
    have:¬ i=id:=by simpa using hi
    rw [if_neg this]
    exact f a1 w1 κ1 lam1 r1 p1 e1
  ·rename_i hne
   refine code_wp hg hc m c hd r h ?_
   cases x with
   | exit i=>exact (hne _ _ _ h).elim
   | _=>exact f
 | .loop c,κ,w,lam,fr,st,a,Q,x,fr',st',hd,r,h,f=>by
  simp only [dstOk] at hd
  simp only [evalCode] at h
  have key:∀ k {κ:K} {w:World} {lam:Lam} {fr:Fr} {st:St} {a:Act},R d n κ w lam fr st a→iterate (evalCode g fi call m c) k fr st=some (x,fr',st')→FinX d n κ w st Q x fr' st'→Code.rounds P c Q k a w:=by
   intro k
   induction k with
   | zero=>intro κ w lam fr st a _ h _;simp [iterate] at h
   | succ k ih =>
    intro κ w lam fr st a r h f
    rw [rounds_succ]
    simp only [iterate] at h
    split at h
    ·rename_i fr1 st1 h1
     refine code_wp hg hc m c hd r h1 ?_
     intro a1 w1 κ1 lam1 r1 p1 e1
     exact ih r1 h (f.trans p1 e1)
    ·rename_i hne
     refine code_wp hg hc m c hd r h ?_
     cases x with
     | normal=>exact (hne _ _ h).elim
     | _=>exact f
  exact wp_loop_rounds m (key m r h f)
 | .exit id,κ,w,lam,fr,st,a,Q,x,fr',st',_,r,h,f=>by
  simp only [evalCode,Option.some.injEq,Prod.mk.injEq] at h
  obtain ⟨rfl,rfl,rfl⟩:=h
  exact wp_exit (f a w κ lam r (.refl _ _ _) rfl)
 | .ret,κ,w,lam,fr,st,a,Q,x,fr',st',_,r,h,f=>by
  simp only [evalCode,Option.some.injEq,Prod.mk.injEq] at h
  obtain ⟨rfl,rfl,rfl⟩:=h
  exact wp_ret (f a w κ lam r (.refl _ _ _) rfl)
 | .goto _,_,_,_,_,_,_,_,_,_,_,_,_,h,_=>by simp [evalCode] at h
 | .label _,_,_,_,_,_,_,_,_,_,_,_,_,h,_=>by simp [evalCode] at h
end Go.Ab
namespace Go.Ab
open Go
variable {κ:K} {w:World} {st:St}
theorem frzOut_ok {fi:FI} {d:Nat} {v:Value} {o out:Out} {st':St} (s:Sim κ w st)(h:OutOk d κ w (.returned v) o)(e:frzOut fi o st=some (out,st')) :
  ∃ κ',OutOk d κ' w (.returned v) out∧Sim κ' w st'∧Pres (Keep d st.wp) κ w κ' w∧st'.wp=st.wp:=by
 unfold frzOut at e
 split at e
 ·split at e
  ·rename_i x k
   split at e
   ·rename_i x' st1 hf
    cases e
    obtain ⟨u,hu,hx⟩:∃ u,Ending.returned v=.returned u∧Rep κ w u x:=by
     cases k with
     | none=>exact h
     | some k=>obtain ⟨u,s,h1,h2,_⟩:=h;exact ⟨u,h1,h2⟩
    obtain ⟨κ',z,q⟩:=frz_ok 6 _ _ _ _ _ _ _ s hx hf
    exact ⟨κ',⟨u,hu,q⟩,z.sim,z.pres.mono (fun L hL=>old_keep hL),z.wp⟩
   ·cases e
  ·cases e;exact ⟨κ,h,s,.refl _ _ _,rfl⟩
 ·split at e
  ·split at e
   ·rename_i x k
    split at e
    ·rename_i x' st1 hf
     cases e
     cases k with
     | none =>
      obtain ⟨u,hu,hx⟩:=h
      obtain ⟨κ',z,q⟩:=frz_ok 6 _ _ _ _ _ _ _ s hx hf
      exact ⟨κ',⟨u,hu,q⟩,z.sim,z.pres.mono (fun L hL=>old_keep hL),z.wp⟩
     | some k =>
      obtain ⟨u,t,hu,hx,hsp⟩:=h
      obtain ⟨κ',z,q⟩:=frz_ok 6 _ _ _ _ _ _ _ s hx hf
      exact ⟨κ',⟨u,t,hu,q,hsp.pres z.pres (fun id e=>by cases e)⟩,z.sim,z.pres.mono (fun L hL=>old_keep hL),z.wp⟩
    ·cases e
   ·cases e;exact ⟨κ,h,s,.refl _ _ _,rfl⟩
  ·cases e;exact ⟨κ,h,s,.refl _ _ _,rfl⟩
end Go.Ab
namespace Go.Ab
open Go
variable {P:Program} {d n:Nat} {κ:K} {w:World} {lam:Lam} {fr fr':Fr} {st:St} {a:Act} {o:Oper}
variable {g:G} {fi:FI} {call:Calling}
theorem dstOk_mono {n m:Nat} (hnm:n≤m):∀ {c:Code},dstOk n c=true→dstOk m c=true
 | .region id ops draw,h=>by
  simp only [dstOk,List.all_eq_true] at h ⊢
  intro o ho
  have:=h o ho
  cases hd:o.dst with
  | none=>rfl
  | some s=>rw [hd] at this;exact decide_eq_true (Nat.lt_of_lt_of_le (of_decide_eq_true this) hnm)
 | .seq a b,h=>by simp only [dstOk,Bool.and_eq_true] at h ⊢;exact ⟨dstOk_mono hnm h.1,dstOk_mono hnm h.2⟩
 | .cond _ a b,h=>by simp only [dstOk,Bool.and_eq_true] at h ⊢;exact ⟨dstOk_mono hnm h.1,dstOk_mono hnm h.2⟩
 | .block _ b,h=>by simp only [dstOk] at h ⊢;exact dstOk_mono hnm h
 | .loop b,h=>by simp only [dstOk] at h ⊢;exact dstOk_mono hnm h
 | .skip,_=>rfl
 | .exit _,_=>rfl
 | .ret,_=>rfl
 | .goto _,_=>rfl
 | .label _,_=>rfl
 | .scope _,_=>rfl
 | .rangeFunc _ _ _ _,_=>rfl
 | .refuse _,_=>rfl
def DstOk (g:G):Prop:=∀ f fi,g.fn f=some fi→dstOk fi.ntmps fi.body=true
theorem lk_pers {α:Type} (f:Nat→α)(l:List Nat)(s:Nat):lk (l.map fun s=>(s,f s)) s=if s∈l then some (f s) else none:=by
 induction l with
 | nil=>rfl
 | cons x r ih =>
  simp only [List.map_cons,lk,ih]
  by_cases h:x=s
  ·subst h;simp
  ·simp [h,Ne.symm h]
theorem start_R {vs:Array Value} {args:List V} (s:Sim κ w st)(hr:Reps κ w vs.toList args)(d:Nat) :
  R d (vs.size+(fi.ntmps - vs.size)) κ w (fun _=>none) (startFr fi args) st {tmps:=vs ++ Array.replicate (fi.ntmps - vs.size) undef,defers:=[]} where
 sim:=s
 fm:={
  defers:=rfl
  size:=by simp
  tmp:=fun s=>by
   have:(startFr fi args).get s=.any∨∃ v,args[s]?=some v∧(startFr fi args).get s=.val v:=by
    rw [Fr.get_def];unfold startFr
    have key:=lk_pers (fun s=>match args[s]? with | some v=>E.val v | none=>.any) fi.pers s
    by_cases h:s∈fi.pers
    ·rw [if_pos h] at key
     dsimp only;erw [key];dsimp only
     cases args[s]? with
     | none=>exact .inl rfl
     | some v=>exact .inr ⟨v,rfl,rfl⟩
    ·rw [if_neg h] at key
     dsimp only;erw [key];exact .inl rfl
   rcases this with h | ⟨v,hv,h⟩
   ·rw [h];trivial
   ·rw [h]
    have key:∀ {vs:List Value} {args:List V} {s:Nat},Reps κ w vs args→args[s]?=some v→∃ u,vs[s]?=some u∧Rep κ w u v:=by
     intro vs args s hr
     induction s generalizing vs args with
     | zero =>
      intro h
      cases hr with
      | nil=>simp at h
      | cons h1 h2=>simp only [List.getElem?_cons_zero,Option.some.injEq] at h ⊢;subst h;exact ⟨_,rfl,h1⟩
     | succ s ih =>
      intro h
      cases hr with
      | nil=>simp at h
      | cons h1 h2=>simp only [List.getElem?_cons_succ] at h ⊢;exact ih h2 h
    obtain ⟨u,hu,hR⟩:=key hr hv
    have hlt:s<vs.size:=by
     have:=(List.getElem?_eq_some_iff.1 hu).1
     simpa using this
    have:((vs ++ Array.replicate (fi.ntmps - vs.size) undef).getD s undef)=u:=by
     rw [Array.getD_eq_getD_getElem?,Array.getElem?_append_left hlt]
     rw [← Array.getElem?_toList,hu];rfl
    show Rep κ w _ v
    rw [this];exact hR
  loc:=fun s cs h=>by simp [Fr.loc_def,startFr,lk] at h}
theorem loadAt_noOwn {ti:TI} {e:E} {k:Nat} {xs:List V}:Ab.loadAt ti fr st e≠some (.own k xs):=by
 have hcell:∀ p v,cellE p v≠.own k xs:=by intro p v h;cases v <;> simp [cellE] at h
 unfold Ab.loadAt loadCs
 split
 ·split
  ·split <;> simp
  ·intro h;simp only [Option.map_eq_some_iff] at h;obtain ⟨v,_,h⟩:=h;exact hcell _ _ h
 ·split
  ·split <;> simp
  ·intro h;simp only [Option.map_eq_some_iff] at h;obtain ⟨v,_,h⟩:=h;exact hcell _ _ h
 ·split
  ·split <;> simp
  ·intro h;simp only [Option.map_eq_some_iff] at h;obtain ⟨v,_,h⟩:=h;cases h
 ·simp
def resOne (tmps:Array Value):ResultVar→Sem Value
 | .tmp t=>pure (tmps.getD t undef)
 | .cell a t=>do loadVar t (← asAddr (tmps.getD a undef))
theorem resOne_ok (hg:TyOk P g)(r:R d n κ w lam fr st a) {x:ResultVar} {e:E} (h:resultE g fr st x=some e) :
  ∃ v,(resOne a.tmps x).run P w=.ok v w∧RepR κ w lam v e∧(∀ k xs,e=.own k xs→∃ s,Spare κ (.tmp d s) k v):=by
 cases x with
 | tmp t =>
  simp only [resultE,Option.some.injEq] at h
  subst h
  refine ⟨_,rfl,(r.fm.tmp t).read,?_⟩
  intro k xs he
  have:=r.fm.tmp t
  rw [he] at this
  exact ⟨t,this.2⟩
 | cell b t =>
  simp only [resultE] at h
  split at h
  ·rename_i ti hti
   obtain ⟨v,h1,h2⟩:=load_ok hg hti r (r.fm.tmp b).read h
   refine ⟨v,?_,h2.read,fun k xs he=>?_⟩
   ·simp only [resOne]
    revert h1
    simp only [Instr.loadAt,Instr.sureAddr]
    generalize a.tmps.getD b undef=u
    intro h1
    cases u with
    | pointer q=>cases q with
     | some q=>simpa [asAddr] using h1
     | none=>simp [Sem.run,stuck] at h1
    | _=>simp [Sem.run,stuck] at h1
   ·subst he;exact (loadAt_noOwn h).elim
  ·cases h
theorem mapM_runs {α:Type} {F:α→Sem Value} {w:World}:∀ {l:List α} {vs:List Value},l.length=vs.length→(∀ (i:Nat) x v,l[i]?=some x→vs[i]?=some v→(F x).run P w=.ok v w)→(l.mapM F).run P w=.ok vs w
 | [],[],_,_=>rfl
 | [],_ :: _,h,_=>by simp at h
 | _ :: _,[],h,_=>by simp at h
 | x :: l,v :: vs,h,hf=>by
  rw [List.mapM_cons,Sem.run_bind,hf 0 x v rfl rfl,Result.andThen_ok,Sem.run_bind,mapM_runs (l:=l) (vs:=vs) (by simpa using h) (fun i x v h1 h2=>hf (i+1) x v h1 h2),Result.andThen_ok]
  rfl
theorem results_run {fn:Func} {tmps:Array Value} {w:World} {vs:List Value} (h:(fn.results.toList.mapM (resOne tmps)).run P w=.ok vs w) :
  (results fn tmps).run P w=.ok (if h:vs.toArray.size=1 then vs.toArray[0] else .tuple vs.toArray) w:=by
 unfold results
 have e:(fun x=>match x with
  | ResultVar.tmp t=>(pure (tmps.getD t undef):Sem Value)
  | ResultVar.cell a t=>do loadVar t (← asAddr (tmps.getD a undef)))=resOne tmps:=by
  funext x;cases x <;> rfl
 rw [Sem.run_bind]
 have e2:(Array.mapM (resOne tmps) fn.results).run P w=.ok vs.toArray w:=by
  rw [Array.mapM_eq_mapM_toList,Sem.run_map,h];rfl
 have e3:=e2
 unfold resOne at e3
 erw [e3]
 rfl
theorem mapM_opt {α β:Type} {F:α→Option β}:∀ {l:List α} {es:List β},l.mapM F=some es→l.length=es.length∧∀ (i:Nat) x,l[i]?=some x→∃ e,es[i]?=some e∧F x=some e
 | [],es,h=>by simp at h;subst h;simp
 | x :: l,es,h=>by
  rw [List.mapM_cons] at h
  cases hx:F x with
  | none=>rw [hx] at h;simp at h
  | some e =>
   rw [hx] at h
   cases hl:l.mapM F with
   | none=>rw [hl] at h;simp at h
   | some es' =>
    rw [hl] at h
    simp at h
    subst h
    obtain ⟨h1,h2⟩:=mapM_opt hl
    refine ⟨by simp [h1],fun i y hy=>?_⟩
    cases i with
    | zero=>simp at hy;subst hy;exact ⟨e,rfl,hx⟩
    | succ i=>simpa using h2 i y (by simpa using hy)
theorem resultsOut_ok (hg:TyOk P g)(r:R d n κ w lam fr st a) {fn:Func} {out:Out} (h:resultsOut g fr st fn.results.toList=some out) :
  ∃ v,(results fn a.tmps).run P w=.ok v w∧OutOk d κ w (.returned v) out:=by
 have many:∀ l,fn.results.toList=l→l.length≠1→(match l.mapM (resultE g fr st) with
  | some es=>match vsOf es with
   | some vs=>some (Out.ret (.tuple vs) none)
   | none=>none
  | none=>none)=some out→∃ v,(results fn a.tmps).run P w=.ok v w∧OutOk d κ w (.returned v) out:=by
  intro l hl hne h
  split at h
  ·rename_i es hes
   split at h
   ·rename_i vs hvs
    cases h
    obtain ⟨h1,h2⟩:=mapM_opt hes
    have:∃ us:List Value,l.length=us.length∧(∀ (i:Nat) x v,l[i]?=some x→us[i]?=some v→(resOne a.tmps x).run P w=.ok v w)∧Reads κ w lam us es:=by
     clear hvs hne hl hes
     induction l generalizing es with
     | nil=>cases es with
      | nil=>exact ⟨[],rfl,by simp,.nil⟩
      | cons=>simp at h1
     | cons x l ih =>
      cases es with
      | nil=>simp at h1
      | cons e es =>
       obtain ⟨us,u1,u2,u3⟩:=ih es (by simpa using h1) (fun i y hy=>by simpa using h2 (i+1) y (by simpa using hy))
       obtain ⟨e',he,hx⟩:=h2 0 x rfl
       simp only [List.getElem?_cons_zero,Option.some.injEq] at he
       subst he
       obtain ⟨v,v1,v2,_⟩:=resOne_ok hg r hx
       refine ⟨v :: us,by simp [u1],fun i y z hy hz=>?_,.cons v2 u3⟩
       cases i with
       | zero=>simp at hy hz;subst hy hz;exact v1
       | succ i=>exact u2 i y z (by simpa using hy) (by simpa using hz)
    obtain ⟨us,u1,u2,u3⟩:=this
    have hrun:=results_run (fn:=fn) (tmps:=a.tmps) (vs:=us) (by rw [hl];exact mapM_runs u1 u2)
    refine ⟨_,hrun,?_⟩
    rw [dif_neg (by simp;omega)]
    exact ⟨_,rfl,.tuple (by simpa using vsOf_reps u3 hvs)⟩
   ·cases h
  ·cases h
 generalize hl:fn.results.toList=l at h
 match l,hl,h with
 | [x],hl,h =>
  simp only [resultsOut] at h
  have one:∀ e,resultE g fr st x=some e→∃ v,(results fn a.tmps).run P w=.ok v w∧RepR κ w lam v e∧(∀ k xs,e=.own k xs→∃ s,Spare κ (.tmp d s) k v):=by
   intro e he
   obtain ⟨v,v1,v2,v3⟩:=resOne_ok hg r he
   have hrun:=results_run (fn:=fn) (tmps:=a.tmps) (vs:=[v]) (by rw [hl];exact mapM_runs rfl (fun i y z hy hz=>by
    cases i with
    | zero=>simp at hy hz;subst hy hz;exact v1
    | succ i=>simp at hy))
   exact ⟨v,by simpa using hrun,v2,v3⟩
  split at h
  ·rename_i k xs he
   cases h
   obtain ⟨v,v1,v2,v3⟩:=one _ he
   obtain ⟨s,hs⟩:=v3 k xs rfl
   exact ⟨v,v1,v,s,rfl,v2,hs⟩
  ·rename_i e _ he
   split at h
   ·rename_i x' hx
    cases h
    obtain ⟨v,v1,v2,_⟩:=one _ he
    exact ⟨v,v1,v,rfl,v2.v hx⟩
   ·cases h
  ·cases h
 | [],hl,h=>exact many [] hl (by simp) h
 | x :: y :: l,hl,h=>exact many (x :: y :: l) hl (by simp) h
theorem body_ok (hg:GOk P g)(hd:DstOk g)(hc:CallOk P call) {m f:Nat} {args:List V} {out:Out} {st':St} (h:evalBody g call m f args st=some (out,st'))
  (d:Nat) {vs:Array Value} (s:Sim κ w st) (hr:Reps κ w vs.toList args) :
  Calls P f vs w fun e w'=>∃ κ',OutOk d κ' w' e out∧Sim κ' w' st'∧Pres (Keep d st.wp) κ w κ' w'∧st'.wp=st.wp:=by
 unfold evalBody at h
 split at h
 ·cases h
 ·rename_i fi hfi
  obtain ⟨fn,f1,f2,f3,f4,_⟩:=hg.fn f fi hfi
  have r0:=start_R (fi:=fi) s hr d
  rw [← f3] at r0
  have hdst:dstOk (vs.size+(fn.ntmps - vs.size)) fi.body=true:=dstOk_mono (by omega) (hd f fi hfi)
  have fin:∀ {fr1:Fr} {st1:St} (a':Act) (w':World) (κ':K) (lam':Lam),(resultsOut g fr1 st1 fi.results).bind (fun o=>frzOut fi o st1)=some (out,st')→R d (vs.size+(fn.ntmps - vs.size)) κ' w' lam' fr1 st1 a'→Pres (Keep d st.wp) κ w κ' w'→st1.wp=st.wp →
    a'.defers=[]∧∃ v,(results fn a'.tmps).run P w'=.ok v w'∧∃ κ',OutOk d κ' w' (.returned v) out∧Sim κ' w' st'∧Pres (Keep d st.wp) κ w κ' w'∧st'.wp=st.wp:=by
   intro fr1 st1 a' w' κ' lam' h r' p e
   cases hres:resultsOut g fr1 st1 fi.results with
   | none=>rw [hres] at h;cases h
   | some o =>
    rw [hres] at h
    rw [← f4] at hres
    obtain ⟨v,v1,v2⟩:=resultsOut_ok hg.ty r' hres
    obtain ⟨κ2,z1,z2,z3,z4⟩:=frzOut_ok r'.sim v2 h
    exact ⟨r'.fm.defers,v,v1,κ2,z1,z2,p.trans (e ▸ z3),z4.trans e⟩
  refine calls_of_wp f1 f2 ?_
  split at h
  ·rename_i fr1 st1 he
   exact code_wp hg hc m _ hdst r0 he (fun a' w' κ' lam' r' p e=>fin a' w' κ' lam' h r' p e)
  ·rename_i fr1 st1 he
   exact code_wp hg hc m _ hdst r0 he (fun a' w' κ' lam' r' p e=>fin a' w' κ' lam' h r' p e)
  ·rename_i v fr1 st1 he
   cases h
   exact code_wp hg hc m _ hdst r0 he (fun a' u w' κ' hdf q s' p e=>⟨hdf,κ',⟨u,rfl,q⟩,s',p,e⟩)
  ·cases h
end Go.Ab
namespace Go.Ab
open Go
variable {P:Program} {d n:Nat} {κ:K} {w:World} {lam:Lam} {fr fr':Fr} {st:St} {a:Act} {o:Oper}
variable {g:G} {fi:FI} {call:Calling}
def runBody (tf tb te cl:Nat):Code :=
(Go.Code.seq
        (Go.Code.region 0
          #[{ dst := Option.some 2, op := Go.Op.alloc te, type := 0, pos := "trap.go:21", after := #[],
              guard := Option.none }]
          Bool.false)
        (Go.Code.seq
          (Go.Code.seq
            (Go.Code.region 1
              #[{ dst := Option.some 3, op := Go.Op.move (Go.Operand.tmp 0), type := tf, pos := "trap.go:22",
                  after := #[], guard := Option.none },
                { dst := Option.some 4,
                  op := Go.Op.binOp Go.BinOp.eql tf (Go.Operand.tmp 3) (Go.Operand.const Go.Value.nilFunc) tf, type := tb,
                  pos := "trap.go:22", after := #[{ on := 0, ground := Go.Ground.data }], guard := Option.none }]
              Bool.false)
            (Go.Code.cond (Go.Operand.tmp 4)
              (Go.Code.seq
                (Go.Code.region 2
                  #[{ dst := Option.none,
                      op := Go.Op.store te (Go.Operand.tmp 2) (Go.Operand.const (Go.Value.int Go.IntKind.i64 0)),
                      type := 0, pos := "trap.go:23", after := #[], guard := Option.none }]
                  Bool.false)
                Go.Code.ret)
              Go.Code.skip))
          (Go.Code.seq
            (Go.Code.region 3
              #[{ dst := Option.some 5, op := Go.Op.makeFunc (Go.Fn.func cl) #[] #[Go.Operand.tmp 2], type := tf,
                  pos := "trap.go:25", after := #[], guard := Option.none },
                { dst := Option.none,
                  op := Go.Op.defer { callee := Go.Callee.value (Go.Operand.tmp 5), args := #[], argTypes := #[] },
                  type := 0, pos := "trap.go:25", after := #[{ on := 0, ground := Go.Ground.data }],
                  guard := Option.none }]
              Bool.false)
            (Go.Code.seq
              (Go.Code.region 4
                #[{ dst := Option.some 6, op := Go.Op.move (Go.Operand.tmp 0), type := tf, pos := "trap.go:36",
                    after := #[], guard := Option.none },
                  { dst := Option.some 7,
                    op := Go.Op.call { callee := Go.Callee.value (Go.Operand.tmp 6), args := #[], argTypes := #[] },
                    type := 0, pos := "trap.go:36", after := #[{ on := 0, ground := Go.Ground.data }],
                    guard := Option.none }]
                Bool.false)
              (Go.Code.seq
                (Go.Code.region 5
                  #[{ dst := Option.none,
                      op := Go.Op.store te (Go.Operand.tmp 2) (Go.Operand.const (Go.Value.int Go.IntKind.i64 0)),
                      type := 0, pos := "trap.go:37", after := #[], guard := Option.none }]
                  Bool.false)
                Go.Code.ret)))))
def runCatch (tb te ta tt:Nat):Code :=
(Go.Code.seq
        (Go.Code.region 0
          #[{ dst := Option.some 4,
              op := Go.Op.call { callee := Go.Callee.builtin Go.Builtin.recover, args := #[], argTypes := #[] },
              type := ta, pos := "trap.go:26", after := #[], guard := Option.none },
            { dst := Option.some 1, op := Go.Op.assign (Go.Operand.tmp 4), type := ta, pos := "trap.go:26",
              after :=
                #[{ on := 0, ground := Go.Ground.data }, { on := 0, ground := Go.Ground.chain },
                  { on := 0, ground := Go.Ground.phase }],
              guard := Option.none }]
          Bool.false)
        (Go.Code.seq
          (Go.Code.seq
            (Go.Code.region 1
              #[{ dst := Option.some 5, op := Go.Op.move (Go.Operand.tmp 1), type := ta, pos := "trap.go:27",
                  after := #[], guard := Option.none },
                { dst := Option.some 6,
                  op := Go.Op.binOp Go.BinOp.eql ta (Go.Operand.tmp 5) (Go.Operand.const Go.Value.nilIface) ta,
                  type := tb, pos := "trap.go:27", after := #[{ on := 0, ground := Go.Ground.data }],
                  guard := Option.none }]
              Bool.false)
            (Go.Code.cond (Go.Operand.tmp 6) Go.Code.ret Go.Code.skip))
          (Go.Code.seq
            (Go.Code.region 2
              #[{ dst := Option.some 8, op := Go.Op.move (Go.Operand.tmp 1), type := ta, pos := "trap.go:30",
                  after := #[], guard := Option.none },
                { dst := Option.some 9, op := Go.Op.typeAssert (Go.Operand.tmp 8) ta te Bool.true, type := tt,
                  pos := "trap.go:30", after := #[{ on := 0, ground := Go.Ground.data }], guard := Option.none },
                { dst := Option.some 7, op := Go.Op.move (Go.Operand.tmp 9), type := tt, pos := "trap.go:30",
                  after := #[{ on := 1, ground := Go.Ground.data }], guard := Option.none },
                { dst := Option.some 10, op := Go.Op.extract (Go.Operand.tmp 7) 0, type := te, pos := "trap.go:30",
                  after := #[{ on := 2, ground := Go.Ground.data }], guard := Option.none },
                { dst := Option.some 11, op := Go.Op.extract (Go.Operand.tmp 7) 1, type := tb, pos := "trap.go:30",
                  after :=
                    #[{ on := 2, ground := Go.Ground.data },
                      { on := 5, ground := Go.Ground.gcOnly Go.Departure.lateStores }],
                  guard := Option.none },
                { dst := Option.some 2, op := Go.Op.assign (Go.Operand.tmp 10), type := te, pos := "trap.go:30",
                  after :=
                    #[{ on := 3, ground := Go.Ground.data }, { on := 0, ground := Go.Ground.phase },
                      { on := 1, ground := Go.Ground.phase }, { on := 2, ground := Go.Ground.phase },
                      { on := 3, ground := Go.Ground.phase },
                      { on := 4, ground := Go.Ground.textOnly Go.Departure.lateStores }],
                  guard := Option.none },
                { dst := Option.some 3, op := Go.Op.assign (Go.Operand.tmp 11), type := tb, pos := "trap.go:30",
                  after :=
                    #[{ on := 4, ground := Go.Ground.data }, { on := 5, ground := Go.Ground.chain },
                      { on := 0, ground := Go.Ground.phase }, { on := 1, ground := Go.Ground.phase },
                      { on := 2, ground := Go.Ground.phase }, { on := 3, ground := Go.Ground.phase },
                      { on := 4, ground := Go.Ground.phase }, { on := 5, ground := Go.Ground.phase }],
                  guard := Option.none }]
              Bool.false)
            (Go.Code.seq
              (Go.Code.seq
                (Go.Code.region 3
                  #[{ dst := Option.some 12, op := Go.Op.move (Go.Operand.tmp 3), type := tb, pos := "trap.go:31",
                      after := #[], guard := Option.none },
                    { dst := Option.some 13, op := Go.Op.unOp Go.UnOp.not tb (Go.Operand.tmp 12), type := tb,
                      pos := "trap.go:31", after := #[{ on := 0, ground := Go.Ground.data }], guard := Option.none }]
                  Bool.false)
                (Go.Code.cond (Go.Operand.tmp 13)
                  (Go.Code.region 4
                    #[{ dst := Option.some 14, op := Go.Op.move (Go.Operand.tmp 1), type := ta, pos := "trap.go:32",
                        after := #[], guard := Option.none },
                      { dst := Option.none, op := Go.Op.panic (Go.Operand.tmp 14), type := 0, pos := "trap.go:32",
                        after := #[{ on := 0, ground := Go.Ground.data }], guard := Option.none }]
                    Bool.false)
                  Go.Code.skip))
              (Go.Code.region 5
                #[{ dst := Option.some 15, op := Go.Op.move (Go.Operand.tmp 2), type := te, pos := "trap.go:34",
                    after := #[], guard := Option.none },
                  { dst := Option.none, op := Go.Op.store te (Go.Operand.tmp 0) (Go.Operand.tmp 15), type := 0,
                    pos := "trap.go:34",
                    after := #[{ on := 0, ground := Go.Ground.data }, { on := 0, ground := Go.Ground.phase }],
                    guard := Option.none }]
                Bool.false)))))
structure RunOk (P:Program) (r te tf tb ta tt cl:Nat) (fn fn1:Func):Prop where
 hf:P.funcs[r]?=some fn
 hb:fn.body=some (runBody tf tb te cl)
 hn:fn.ntmps=8
 hr:fn.results=#[.cell 2 te]
 hf1:P.funcs[cl]?=some fn1
 hb1:fn1.body=some (runCatch tb te ta tt)
 hn1:fn1.ntmps=16
 hr1:fn1.results=#[]
 hname : (fn1.name == "runtime.NumGoroutine") = false
 ue:P.underlying te=some (.int .i64)
 ze:∃ i,P.info? te=some i∧i.zero=some (.int .i64 0)∧i.size=1
 uf:∃ a b c,P.underlying tf=some (.func a b c)
 ua:P.underlying ta=some (.interface #[])
section
variable {r te tf tb ta tt cl:Nat} {fn fn1:Func}
theorem catch_idle (h:RunOk P r te tf tb ta tt cl fn fn1)(p:Addr)(w:World) :
  CallsD P cl #[.pointer (some p)] .returning w fun e u' w'=>e=.returned (.tuple #[])∧u'=.returning∧w'=w:=by
 refine callsD_of_wpS h.hf1 h.hb1 fun c₀ cs hu=>?_
 unfold runCatch
 rw [h.hn1]
 apply wpS_seq
 apply wpS_region
 simp [wpOpsS,go_sem,recoverD,hu,Exit.thenS]
 apply wpS_seq
 apply wpS_seq
 apply wpS_region
 simp [wpOpsS,go_sem,Exit.thenS,h.ua]
 refine wpS_cond (t:=true) (by simp [Act.eval,Array.replicate]) ?_
 simp only [if_true]
 refine wpS_of_wp (wp_ret ?_)
 cases c₀
 simp_all [bodyPostS,results,h.hr1,Exit.thenS]
theorem catch_stop (h:RunOk P r te tf tb ta tt cl fn fn1)(b:Nat)(w:World)(e:Int) {u:Value} (hc:w.cell? (at_ b 0)=some u)(hfz:w.frozen? (at_ b 0)=false) :
  CallsD P cl #[.pointer (some (at_ b 0))] (.panicking [{v:=.iface te (.int .i64 e),recovered:=false}]) w fun x u' w'=>x=.returned (.tuple #[])∧u'=.panicking [{v:=.iface te (.int .i64 e),recovered:=true}]∧w'=w.setCell (at_ b 0) (.int .i64 e):=by
 refine callsD_of_wpS h.hf1 h.hb1 fun c₀ cs hu=>?_
 unfold runCatch
 rw [h.hn1]
 have ha:∀ w:World,(isAgg te).run P w=.ok false w:=fun w=>isAgg_run h.ue
 have hs:∀ w:World,(sizeOf te).run P w=.ok 1 w:=fun w=>by
  obtain ⟨i,hi,_,hs⟩:=h.ze
  simp [sizeOf,typeInfo,hi,hs]
 have hta:∀ w:World,(Instr.typeAssert (.iface te (.int .i64 e)) ta te true).run P w=.ok (.tuple #[.int .i64 e,.bool true]) w:=fun w=>by
  simp [Instr.typeAssert,run_underlying h.ue]
 apply wpS_seq
 apply wpS_region
 simp [wpOpsS,go_sem,recoverD,hu,Exit.thenS]
 apply wpS_seq
 apply wpS_seq
 apply wpS_region
 simp [wpOpsS,go_sem,Exit.thenS,h.ua]
 refine wpS_cond (t:=false) (by simp [Act.eval,Array.replicate]) ?_
 simp only [Bool.false_eq_true,if_false]
 refine wpS_of_wp (wp_skip ?_)
 simp only [Exit.thenS]
 apply wpS_seq
 apply wpS_region
 simp [wpOpsS,go_sem,Exit.thenS,h.ue,hta]
 apply wpS_seq
 apply wpS_seq
 apply wpS_region
 simp [wpOpsS,go_sem,Exit.thenS]
 refine wpS_cond (t:=false) (by simp [Act.eval,Array.replicate]) ?_
 simp only [Bool.false_eq_true,if_false]
 refine wpS_of_wp (wp_skip ?_)
 simp only [Exit.thenS]
 apply wpS_region
 simp [wpOpsS,go_sem,Exit.thenS,h.ue,ha,hc,hfz,hs]
 cases c₀
 simp_all [bodyPostS,results,h.hr1,Exit.thenS]
theorem one_val {ops:Array Oper} {Q:Exit→Act→World→Prop} {i:Nat} {rest:List Nat} {o:Oper} {w':World} {v:Value} (hi:ops[i]?=some o)(hw:o.guard=none)(h:(execOp a.eval o).run P w=.ok (.value v) w')
  (k:wpOps P ops Q rest (a.put o.dst v) w'):wpOps P ops Q (i :: rest) a w:=by
 simp only [wpOps,hi,Region.wanted,hw,if_true]
 left;unfold Oper.wp;rw [h];exact k
theorem one_skip {ops:Array Oper} {Q:Exit→Act→World→Prop} {i:Nat} {rest:List Nat} {o:Oper} {w':World} (hi:ops[i]?=some o)(hw:o.guard=none)(h:(execOp a.eval o).run P w=.ok .skip w')
  (k:wpOps P ops Q rest (a.put o.dst undef) w'):wpOps P ops Q (i :: rest) a w:=by
 simp only [wpOps,hi,Region.wanted,hw,if_true]
 left;unfold Oper.wp;rw [h];exact k
theorem one_defer {ops:Array Oper} {Q:Exit→Act→World→Prop} {i:Nat} {rest:List Nat} {o:Oper} {w':World} {df:Deferred} (hi:ops[i]?=some o)(hw:o.guard=none)(h:(execOp a.eval o).run P w=.ok (.defer df) w')
  (k:wpOps P ops Q rest ({a with defers:=df :: a.defers}.put o.dst undef) w'):wpOps P ops Q (i :: rest) a w:=by
 simp only [wpOps,hi,Region.wanted,hw,if_true]
 left;unfold Oper.wp;rw [h];exact k
theorem one_call {ops:Array Oper} {Q:Exit→Act→World→Prop} {i:Nat} {rest:List Nat} {o:Oper} {w':World} {f:FuncId} {args:Array Value} (hi:ops[i]?=some o)(hw:o.guard=none)
  (h:(execOp a.eval o).run P w=.ok (.enter f args) w')
  (k:Calls P f args w' fun
   | .returned v,w''=>wpOps P ops Q rest (a.put o.dst v) w''
   | .panicked chain,w''=>Q (.panic chain) a w''
   | .outgrown,_=>LetsOut Q):wpOps P ops Q (i :: rest) a w:=by
 simp only [wpOps,hi,Region.wanted,hw,if_true]
 left;unfold Oper.wp;rw [h];exact k
theorem run_ok (h:RunOk P r te tf tb ta tt cl fn fn1)(hg:GOk P g)(hc:CallOk P call) {args:List V} {out:Out} {st':St} (hx:runFn call te args st=some (out,st'))
  (hfn : ∀ f args st x, call f args st = some x → ∃ fn, P.funcs[f]? = some fn ∧ (fn.name == "runtime.NumGoroutine") = false ∧ fn.body ≠ none)
  (d:Nat) {vs:Array Value} (s:Sim κ w st) (hr:Reps κ w vs.toList args) :
  Calls P r vs w fun e w'=>∃ κ',OutOk d κ' w' e out∧Sim κ' w' st'∧Pres (Keep d st.wp) κ w κ' w'∧st'.wp=st.wp:=by
 obtain ⟨i,hi,hz,hsz⟩:=h.ze
 obtain ⟨ua,ub,uc,uf⟩:=h.uf
 have ha:∀ w:World,(isAgg te).run P w=.ok false w:=fun w=>isAgg_run h.ue
 have hs:∀ w:World,(sizeOf te).run P w=.ok 1 w:=fun w=>by simp [sizeOf,typeInfo,hi,hsz]
 have hal:∀ w:World,(Instr.alloc te true (.tuple #[])).run P w=.ok (.pointer (some (at_ w.heap.size 0))) (w.alloc (.cells #[.int .i64 0] te)):=fun w=>alloc_run hi hz
 -- the result's variable
 let lab:Nat→Option Ow:=fun o=>if o=0 then some (.loc d 0) else none
 let κ1:=κ.new w.heap.size lab
 let w1:=w.alloc (.cells #[.int .i64 0] te)
 have p1:∀ S,Pres S κ w κ1 w1:=fun S=>pres_new S s.good _ _
 have g1:Good κ1 w1:=good_new s.good _ _ (fun o L h=>by
  simp only [lab] at h;split at h
  ·rename_i h0;subst h0;decide
  ·cases h)
 have s1:Sim κ1 w1 st:=s.pres (p1 (fun _=>True)) g1 s.fresh (fun _=>trivial) (fun _ _=>trivial)
 have l1:κ1.own w.heap.size 0=some (.loc d 0):=by simp [κ1,K.new,lab]
 let p:Value:=.pointer (some (at_ w.heap.size 0))
 let R:=fun (e:Ending) (w':World)=>∃ κ',OutOk d κ' w' e out∧Sim κ' w' st'∧Pres (Keep d st.wp) κ w κ' w'∧st'.wp=st.wp
 -- behind any change that keeps this frame's variables,the variable may be written
 have fin:∀ {κ2:K} {w2:World} {st2:St} (v:Int),Sim κ2 w2 st2→κ2.own w.heap.size 0=some (.loc d 0)→Pres (Keep d st.wp) κ w κ2 w2→st2.wp=st.wp →
   (w2.setCell (at_ w.heap.size 0) (.int .i64 v)).cell? (at_ w.heap.size 0)=some (.int .i64 v) ∧
   ∃ κ',OutOk d κ' (w2.setCell (at_ w.heap.size 0) (.int .i64 v)) (.returned (.int .i64 v)) (.ret (.int .i64 v) none)∧Sim κ' (w2.setCell (at_ w.heap.size 0) (.int .i64 v)) st2∧Pres (Keep d st.wp) κ w κ' (w2.setCell (at_ w.heap.size 0) (.int .i64 v))∧st2.wp=st.wp:=by
  intro κ2 w2 st2 v s2 l2 p2 e2
  have pw:∀ S:Ow→Prop,¬ S (.loc d 0)→Pres S κ2 w2 κ2 (w2.setCells w.heap.size 0 [.int .i64 v]):=fun S hS=>pres_write S hS (by simp) s2.good (fun j hj=>by
   have:j=0:=by simpa using hj
   subst this;exact l2)
  have gw:Good κ2 (w2.setCells w.heap.size 0 [.int .i64 v]):=good_write s2.good _ _ _ (fun j hj=>by
   have:j=0:=by simpa using hj
   subst this;exact (s2.good _ _ _ l2).1)
  have e:w2.setCells w.heap.size 0 [.int .i64 v]=w2.setCell (at_ w.heap.size 0) (.int .i64 v):=rfl
  rw [e] at pw gw
  obtain ⟨⟨u,hu⟩,_⟩:=s2.good _ _ _ l2
  refine ⟨World.cell?_setCell_same _ _ _ hu,κ2,⟨_,rfl,.int _ _⟩,s2.pres (pw (fun L=>L≠.loc d 0) (by simp)) gw s2.fresh (by simp) (by simp),p2.trans (pw _ ?_),e2⟩
  rintro (h | ⟨_,h,_⟩ | ⟨_,_,h,_⟩)
  ·simp only [Ow.below] at h;omega
  ·cases h
  ·cases h
 have hst:∀ {κ2:K} {w2:World} {st2:St} (a:Act) (v:Int),Sim κ2 w2 st2→κ2.own w.heap.size 0=some (.loc d 0)→a.eval (.tmp 2)=p →
   ∀ pos af,(execOp a.eval {dst:=none,op:=.store te (.tmp 2) (.const (.int .i64 v)),type:=0,pos:=pos,after:=af,guard:=none}).run P w2=.ok .skip (w2.setCell (at_ w.heap.size 0) (.int .i64 v)):=by
  intro κ2 w2 st2 a v s2 l2 ha2 pos af
  obtain ⟨⟨u,hu⟩,hfz⟩:=s2.good _ _ _ l2
  have ha3:a.tmps[2]?.getD undef=.pointer (some (at_ w.heap.size 0)):=by simpa [Act.eval,p] using ha2
  simp [execOp,go_sem,ha3,ha,hs,hu,hfz]
 have hres:∀ (tmps:Array Value) (w2:World) (v:Value),tmps.getD 2 undef=p→w2.cell? (at_ w.heap.size 0)=some v→(results fn tmps).run P w2=.ok v w2:=by
  intro tmps w2 v ht hcell
  have ht3:tmps[2]?.getD undef=.pointer (some (at_ w.heap.size 0)):=by simpa [p] using ht
  simp [results,h.hr,ht3,asAddr,loadVar,ha,hcell]
 have hq0:∀ w:World,(binOp .eql tf .nilFunc .nilFunc).run P w=.ok (.bool true) w:=fun w=>by
  have e:binOp .eql tf .nilFunc .nilFunc=(do pure (.bool (← Op.equal tf .nilFunc .nilFunc)):Sem Value):=rfl
  rw [e,Sem.run_bind,show Op.equal tf .nilFunc .nilFunc=Op.equalIn (9999+1) tf .nilFunc .nilFunc from rfl,eqIn_fn0 _ _ _ _ _ uf];rfl
 have hq1:∀ (w:World) f x y,(binOp .eql tf (.func f x y) .nilFunc).run P w=.ok (.bool false) w:=fun w f x y=>by
  have e:binOp .eql tf (.func f x y) .nilFunc=(do pure (.bool (← Op.equal tf (.func f x y) .nilFunc)):Sem Value):=rfl
  rw [e,Sem.run_bind,show Op.equal tf (.func f x y) .nilFunc=Op.equalIn (9999+1) tf (.func f x y) .nilFunc from rfl,eqIn_fn2 _ _ _ _ _ _ _ _ uf];rfl
 have hcl:∀ w:World,(callFunc cl #[p]).run P w=.ok (.enter cl #[p]) w:=fun w=>by
  have f6 : ¬ fn1.name = "runtime.NumGoroutine" := by simpa using h.hname
  unfold callFunc
  simp [h.hf1,h.hb1,f6]
 refine calls_of_wp_defers h.hf h.hb ?_
 unfold runBody
 rw [h.hn]
 unfold runFn at hx
 split at hx
 ·-- nothing to call
  cases hx
  obtain ⟨l⟩:=vs
  simp only at hr
  cases hr with
  | cons h1 h2 =>
   cases h2
   cases h1
   refine wp_seq (wp_region (one_val (w':=w1) (v:=p) rfl rfl (by unfold execOp;exact run_value (hal w)) ?_))
   refine wp_seq (wp_seq (wp_region (one_val (w':=w1) (v:=.nilFunc) rfl rfl rfl (one_val (w':=w1) (v:=.bool true) rfl rfl ?_ ?_))))
   ·simp [execOp,go_sem,Act.eval,Act.put,hq0,hq1]
   refine wp_cond_true rfl ?_
   refine wp_seq (wp_region (one_skip (w':=w1.setCell (at_ w.heap.size 0) (.int .i64 0)) rfl rfl (hst _ 0 s1 l1 rfl _ _) ?_))
   refine wp_ret ?_
   obtain ⟨f1,f2⟩:=fin 0 s1 l1 (p1 _) rfl
   exact ⟨.int .i64 0,hres _ _ _ rfl f1,f2⟩
 ·-- a call
  rename_i f first cap
  obtain ⟨l⟩:=vs
  simp only at hr
  cases hr with
  | cons h1 h2 =>
   cases h2
   cases h1 with
   | func hF hC =>
    rename_i F C
    refine wp_seq (wp_region (one_val (w':=w1) (v:=p) rfl rfl (by unfold execOp;exact run_value (hal w)) ?_))
    refine wp_seq (wp_seq (wp_region (one_val (w':=w1) (v:=.func (.func f) F C) rfl rfl rfl (one_val (w':=w1) (v:=.bool false) rfl rfl ?_ ?_))))
    ·simp [execOp,go_sem,Act.eval,Act.put,hq0,hq1]
    refine wp_cond_false rfl (wp_skip ?_)
    refine wp_seq (wp_region (one_val (w':=w1) (v:=.func (.func cl) #[] #[p]) rfl rfl ?_ (one_defer (df:={target:=.fn (.func cl) #[p],args:=#[]}) (w':=w1) rfl rfl ?_ ?_)))
    ·simp [execOp,go_sem,Act.eval,Act.put,Instr.makeFunc,Array.replicate]
    ·simp [execOp,resolve,Deferred.ofValue,Act.eval,Act.put,go_sem]
    have hcall:∃ x st2,call f (first ++ cap) st=some (x,st2):=by
     split at hx
     ·rename_i h;exact ⟨_,_,h⟩
     ·rename_i h;exact ⟨_,_,h⟩
     ·cases hx
    obtain ⟨x,st2,hcall⟩:=hcall
    obtain ⟨fnf,hff,hname,hbody⟩:=hfn _ _ _ _ hcall
    have hcc:=hc f (first ++ cap) st x st2 hcall (d+1) κ1 w1 (F ++ #[] ++ C) s1 (by
     simp only [Array.toList_append]
     simpa using (hF.pres (p1 (fun _=>True))).append (hC.pres (p1 (fun _=>True))))
    have e:(callFunc f (F ++ C)).run P w1=.ok (.enter f (F ++ C)) w1:=by
     have f6 : ¬ fnf.name = "runtime.NumGoroutine" := by simpa using hname
     unfold callFunc
     simp [hff,f6,hbody]
    -- from here the temporaries are few,and known
    generalize hact:Act.put _ _ _=act
    have ht:act.tmps=#[.func (.func f) F C,undef,p,.func (.func f) F C,.bool false,.func (.func cl) #[] #[p],undef,undef]:=by
     rw [← hact];simp [Act.put,Array.replicate]
    have hd:act.defers=[{target:=.fn (.func cl) #[p],args:=#[]}]:=by rw [← hact];rfl
    clear hact
    obtain ⟨tm,df⟩:=act
    simp only at ht hd
    subst ht hd
    refine wp_seq (wp_region (one_val (w':=w1) (v:=.func (.func f) F C) rfl rfl rfl (one_call (f:=f) (args:=F ++ C) (w':=w1) rfl rfl ?_ ?_)))
    ·simp [execOp,resolve,Deferred.ofValue,invoke,Act.eval,Act.put,go_sem,e]
    rw [show F ++ #[] ++ C=F ++ C by simp] at hcc
    refine hcc.mono ?_
    rintro e w2 ⟨κ2,o2,s2,p2,e2⟩
    have l2:κ2.own w.heap.size 0=some (.loc d 0):=(p2.lab _ _ _ l1 (.inl (Nat.lt_succ_self d))).1
    have p3:Pres (Keep d st.wp) κ w κ2 w2:=(p1 _).trans (p2.mono fun L hL=>keep_up (Nat.le_refl _) hL)
    split at hx
    ·-- it came back
     rename_i v k st3 hx2
     cases hx
     rw [hcall] at hx2;cases hx2
     have:∃ u,e=.returned u:=by
      cases k with
      | none=>obtain ⟨u,rfl,_⟩:=o2;exact ⟨u,rfl⟩
      | some k=>obtain ⟨u,s,rfl,_⟩:=o2;exact ⟨u,rfl⟩
     obtain ⟨u,rfl⟩:=this
     refine wp_seq (wp_region (one_skip (w':=w2.setCell (at_ w.heap.size 0) (.int .i64 0)) rfl rfl (hst _ 0 s2 l2 rfl _ _) ?_))
     refine wp_ret ?_
     obtain ⟨f1,f2⟩:=fin 0 s2 l2 p3 e2
     refine leaves_cons (by simp) (hcl _) ((catch_idle h _ _).mono ?_)
     rintro x u' w3 ⟨rfl,rfl,rfl⟩
     exact ⟨.int .i64 0,hres _ _ _ rfl f1,f2⟩
    ·-- it panicked
     rename_i t m st3 hx2
     rw [hcall] at hx2;cases hx2
     split at hx
     ·rename_i hte
      cases hx
      have hte:t=te:=by simpa using hte
      subst hte
      obtain ⟨u,rfl,hu⟩:=o2
      cases hu with
      | iface hu =>
       cases hu
       obtain ⟨⟨u0,hu0⟩,hfz⟩:=s2.good _ _ _ l2
       obtain ⟨f1,f2⟩:=fin m s2 l2 p3 e2
       refine leaves_cons (by simp) (hcl _) ((catch_stop h _ _ m hu0 hfz).mono ?_)
       rintro x u' w3 ⟨rfl,rfl,rfl⟩
       exact ⟨.int .i64 m,hres _ _ _ rfl f1,f2⟩
     ·cases hx
    ·cases hx
 ·cases hx
end
theorem evalFn_ok (hg : GOk P g) (hd : DstOk g) (hrun : ∀ r te, g.run = some (r, te) → ∃ tf tb ta tt cl fn fn1, RunOk P r te tf tb ta tt cl fn fn1 ∧ (fn.name == "runtime.NumGoroutine") = false) :
  ∀ n, CallOk P (evalFn g n) ∧ ∀ f args st x, evalFn g n f args st = some x → ∃ fn, P.funcs[f]? = some fn ∧ (fn.name == "runtime.NumGoroutine") = false ∧ fn.body ≠ none
 | 0=>⟨fun f args st out st' h=>by simp [evalFn] at h,fun f args st x h=>by simp [evalFn] at h⟩
 | n+1=>by
  obtain ⟨ih1,ih2⟩:=evalFn_ok hg hd hrun n
  have body : ∀ {f args st x}, evalBody g (evalFn g n) n f args st = some x → ∃ fn, P.funcs[f]? = some fn ∧ (fn.name == "runtime.NumGoroutine") = false ∧ fn.body ≠ none := by
   intro f args st x h
   unfold evalBody at h
   split at h
   ·cases h
   ·rename_i fi hfi
    obtain ⟨fn,f1,f2,_,_,f5⟩:=hg.fn f fi hfi
    exact ⟨fn,f1,f5,by rw [f2];simp⟩
  constructor
  ·intro f args st out st' h d κ w vs s hr
   unfold evalFn at h
   split at h
   ·rename_i r te hrun1
    obtain ⟨tf,tb,ta,tt,cl,fn,fn1,hR,_⟩:=hrun r te hrun1
    split at h
    ·rename_i hfr
     have:f=r:=by simpa using hfr
     subst this
     exact run_ok hR hg ih1 h ih2 d s hr
    ·exact body_ok hg hd ih1 h d s hr
   ·exact body_ok hg hd ih1 h d s hr
  ·intro f args st x h
   unfold evalFn at h
   split at h
   ·rename_i r te hrun1
    obtain ⟨tf,tb,ta,tt,cl,fn,fn1,hR,hnm⟩:=hrun r te hrun1
    split at h
    ·rename_i hfr
     have:f=r:=by simpa using hfr
     subst this
     exact ⟨fn,hR.hf,hnm,by rw [hR.hb];simp⟩
    ·exact body h
   ·exact body h
end Go.Ab
namespace Go.Ab
open Go Go.ChangeShapes Go.WideShapes Go.ChangeAt Go.RowKit
noncomputable def mkG (P:Program)(ext:Nat→Option Ext)(run:Option (Nat × Nat))(pure:Nat→Bool)(marks:Nat→List Nat)(tab:Nat→Option (List Nat × List Nat)):G where
 ty:=mkTI P.toTables
 fn:=fun f=>match P.funcs[f]? with
  | some fn=>mkFI fn (pure f) (marks f) (tab f)
  | none=>none
 ext:=ext
 run:=run
 eqs:=mkEq P
 u8:=mkU8 P.toTables
 con:=P.concrete
def okFunc (fn:Func):Bool :=
 !(fn.name == "runtime.NumGoroutine") && match fn.body with
  | some c=>dstOk fn.ntmps c
  | none=>true
theorem mkG_ok {P:Program} {ext:Nat→Option Ext} {run:Option (Nat × Nat)} {pure:Nat→Bool} {marks:Nat→List Nat} {tab:Nat→Option (List Nat × List Nat)} (h:P.funcs.toList.all okFunc=true)(hm:P.follows .mixedOrders=true)
  (hb:∀ f,ext f=some .floatBits→∀ b w,(callFunc f #[.float .f64 b]).run P w=.ok (.value (.int .u64 b)) w)
  (htr:∀ f,ext f=some .trunc→∀ b v w,truncV b=some v→(callFunc f #[.float .f64 b]).run P w=.ok (.value (.float .f64 v)) w)
  (ho:∀ f,ext f=some .floatOf→∀ m w,(callFunc f #[.int .u64 m]).run P w=.ok (.value (.float .f64 m.toNat)) w):GOk P (mkG P ext run pure marks tab)∧DstOk (mkG P ext run pure marks tab):=by
 have key : ∀ f fi, (mkG P ext run pure marks tab).fn f = some fi → ∃ fn, P.funcs[f]? = some fn ∧ fn.body = some fi.body ∧ fn.ntmps = fi.ntmps ∧ fn.results.toList = fi.results ∧ (fn.name == "runtime.NumGoroutine") = false ∧ dstOk fi.ntmps fi.body = true := by
  intro f fi hf
  simp only [mkG] at hf
  split at hf
  ·rename_i fn hfn
   have hmem:fn∈P.funcs.toList:=by
    have:=Array.mem_of_getElem? hfn;simpa using this
   have hok:=List.all_eq_true.1 h fn hmem
   unfold mkFI at hf
   split at hf
   ·rename_i c hc
    simp only [okFunc,hc,Bool.and_eq_true,Bool.not_eq_true'] at hok
    split at hf
    ·cases hf;exact ⟨fn,hfn,hc,rfl,rfl,hok.1,hok.2⟩
    ·cases hf;exact ⟨fn,hfn,hc,rfl,rfl,hok.1,hok.2⟩
   ·cases hf
  ·cases hf
 refine ⟨{ty:={ti:=fun t ti h=>mkTI_ok h,eq:=fun t ks h=>h,con:=fun t h=>h,u8:=fun t h=>mkU8_ok h},fn:=fun f fi hf=>?_,bits:=hb,ofBits:=ho,trunc:=htr,mixed:=hm},fun f fi hf=>?_⟩
 ·obtain ⟨fn,h1,h2,h3,h4,h5,_⟩:=key f fi hf
  exact ⟨fn,h1,h2,h3,h4,h5⟩
 ·obtain ⟨fn,_,_,_,_,_,h6⟩:=key f fi hf
  exact h6
def K0:K:={own:=fun _ _=>none,blk:=fun _=>none}
theorem law_calls {P:Program} {g:G} {n f:Nat} {xs:List V} (ok:CallOk P (evalFn g n))(h:(match evalFn g n f xs ⟨[],0⟩ with | some (.ret (.bool true) none,_)=>true | _=>false)=true) {args:Array Value} {W:World} (hr:Reps K0 W args.toList xs) :
  Calls P f args W fun e W'=>e=.returned (.bool true)∧Below W.heap.size W W':=by
 split at h
 ·rename_i st' he
  have hs:Sim K0 W ⟨[],0⟩:=⟨Nat.le_refl _,fun b j L h=>by simp [K0] at h,fun _ _=>rfl,fun id cs h=>by simp [St.obj] at h,fun id cs b h=>by simp [St.obj] at h⟩
  refine (ok f xs ⟨[],0⟩ _ _ he 0 K0 W args hs hr).mono ?_
  rintro e W' ⟨κ',⟨u,rfl,hu⟩,_,p,_⟩
  refine ⟨by rw [Rep.bool_inv hu],p.os,p.tape,p.out,p.size,fun k hk=>(p.free k hk (fun _=>rfl)).1⟩
 ·cases h
end Go.Ab
namespace Go.Proofs.Ytebjpgoadapabaa
open Go Go.Ab Go.ChangeShapes Go.WideShapes Go.ChangeAt Go.RowKit
theorem Try.own:ownKnob Try.prog.godebug=none:=by kernel_rfl
theorem Try.laidOut:laidOutB Try.prog=true:=by kernel_rfl
def tabS:List (Nat × List Nat × List Nat):=[(2,[],[]),(3,[0,1,2,4,6,7,9,11,13,14,15,16,17,18,19,21,23],[]),(4,[0,1,2,6,7,8],[]),(5,[0,1,2,6,7,8],[]),(6,[0,1,2,6,7,8,9],[]),(7,[0,1,2,3,8,9,10,11,12,13,15,17,18,20],[]),(8,[0,1,4,5],[]),(9,[0,1],[]),(10,[0,2,3,4,5,6,7,8,12,13,14,42,43,44,108,109],[5,7]),(11,[0,2],[]),(12,[0,1,4,5,6,7,8,9,10,11,12,67,68],[]),(13,[0,2,45,46],[]),(14,[0,1,4,5,6,7,9],[]),(15,[0,1,4,5],[]),(16,[0],[]),(17,[0,1,2,4,6,7,8,9,10,11],[4]),(18,[0,1,4,5],[]),(19,[0,1,4,5,6,7],[]),(20,[0,1,2,6],[]),(21,[0,1,3,4,5,6],[]),(22,[0,1,2,3,4],[]),(23,[0,2,3,4],[]),(24,[0,2],[]),(25,[0,1,4,5],[]),(26,[0,1,4],[]),(27,[0,1],[]),(28,[0],[]),(29,[0,1,2,6,7,8,9,10,11],[]),(30,[0,1,2,6,7],[]),(31,[0,1,4,5,6,7],[]),(32,[0,1,4,5],[]),(33,[0,2],[]),(34,[0,1],[]),(35,[0,1,4,5,6,7,8],[]),(36,[0,1,4,5,6,7,8,9],[]),(37,[0,2,3,4],[]),(38,[0,1,4],[]),(39,[0,1,2,3],[]),(40,[0,1],[]),(41,[0],[]),(42,[0,2,3,4,5],[]),(43,[0,2],[]),(44,[0,1,4,5],[]),(45,[0,1,4,5],[])]
noncomputable def gS:Ab.G:=mkG Try.prog (fun _=>none) (some (33,23)) (fun f=>[3,15,16,18,11,20,24,26,32,38,43,44,45].contains f) (fun f=>(lk [(8,[2000022]),(9,[13]),(12,[49]),(36,[64]),(27,[5000009]),(31,[5000074])] f).getD []) (lk tabS)
theorem funcs_ok:Try.prog.funcs.toList.all okFunc=true:=by kernel_rfl
theorem mixed_ok:Try.prog.follows .mixedOrders=true:=by kernel_rfl
set_option maxRecDepth 100000 in
theorem run_ok:RunOk Try.prog 33 23 1 4 20 75 39 Try.f33 Try.f39 where
 hf:=Try.func33
 hb:=by kernel_rfl
 hn:=by kernel_rfl
 hr:=by kernel_rfl
 hf1:=Try.func39
 hb1:=by kernel_rfl
 hn1:=by kernel_rfl
 hr1:=by kernel_rfl
 hname:=by kernel_rfl
 ue:=by kernel_rfl
 ze:=⟨_,rfl,rfl,rfl⟩
 uf:=⟨_,_,_,rfl⟩
 ua:=by kernel_rfl
theorem gS_ok:GOk Try.prog gS∧DstOk gS:=by
 refine mkG_ok funcs_ok mixed_ok (fun f hf b w=>?_) (fun f hf b v w hv=>?_) (fun f hf m w=>?_)
 ·exfalso;revert hf
  show (none:Option Ext)=some .floatBits→False
  repeat' split
  all_goals simp
 ·exfalso;revert hf
  show (none:Option Ext)=some .trunc→False
  repeat' split
  all_goals simp
 ·exfalso;revert hf
  show (none:Option Ext)=some .floatOf→False
  repeat' split
  all_goals simp
theorem gS_calls (n:Nat):CallOk Try.prog (evalFn gS n) :=
 (evalFn_ok gS_ok.1 gS_ok.2 (fun r te h=>by cases h;exact ⟨_,_,_,_,_,_,_,run_ok,by kernel_rfl⟩) n).1
end Go.Proofs.Ytebjpgoadapabaa
namespace Go.Ab
open Go
def Evn {α:Type} (s:Nat→Option α)(r:α):Prop:=∃ N,∀ n,N≤n→s n=some r
theorem Evn.uniq {α:Type} {s:Nat→Option α} {r q:α} (h:Evn s r)(k:Evn s q):r=q:=by
 obtain ⟨N,h⟩:=h
 obtain ⟨M,k⟩:=k
 have h1:=h (max N M) (Nat.le_max_left _ _)
 have h2:=k (max N M) (Nat.le_max_right _ _)
 rw [h1] at h2;exact Option.some.inj h2
open Classical in
noncomputable def Lim {α:Type} (s:Nat→Option α):Option α:=if h:∃ r,Evn s r then some (Classical.choose h) else none
theorem Evn.lim {α:Type} {s:Nat→Option α} {r:α} (h:Evn s r):Lim s=some r:=by
 have hh:∃ r,Evn s r:=⟨r,h⟩
 unfold Lim
 rw [dif_pos hh]
 exact congrArg some ((Classical.choose_spec hh).uniq h)
theorem Lim.evn {α:Type} {s:Nat→Option α} {r:α} (h:Lim s=some r):Evn s r:=by
 unfold Lim at h
 split at h
 ·rename_i hh
  rw [← Option.some.inj h];exact Classical.choose_spec hh
 ·cases h
theorem Evn.of {α:Type} {x:Option α} {r:α} (h:x=some r):Evn (fun _=>x) r:=⟨0,fun _ _=>h⟩
theorem Evn.bind {α β:Type} {s:Nat→Option α} {t:Nat→Option β} {r:α} {q:β} (h:Evn s r)(k:Evn (fun n=>match s n with | some _=>t n | none=>none) q):Evn t q:=by
 obtain ⟨N,h⟩:=h
 obtain ⟨M,k⟩:=k
 refine ⟨max N M,fun n hn=>?_⟩
 have h1:=h n (Nat.le_trans (Nat.le_max_left _ _) hn)
 have h2:=k n (Nat.le_trans (Nat.le_max_right _ _) hn)
 simp only [h1] at h2;exact h2
noncomputable def EvF (g:G):Calling:=fun f args st=>Lim fun n=>evalFn g n f args st
section
variable {g:G} {fi:FI}
theorem callStep_lim {f:Nat} {args:List V} {fr:Fr} {st:St} {r:Rs} (h:callStep g (EvF g) f args fr st=some r):Evn (fun n=>callStep g (evalFn g n) f args fr st) r:=by
 unfold callStep at h ⊢
 cases hx:g.ext f with
 | some x=>rw [hx] at h;exact Evn.of h
 | none =>
  rw [hx] at h
  simp only at h ⊢
  cases hf:g.fn f with
  | none=>rw [hf] at h;cases h
  | some fi =>
   rw [hf] at h
   simp only at h ⊢
   by_cases hp:fi.pure=true
   ·simp only [hp,if_true] at h ⊢
    cases hc:EvF g f args (if flats args then ⟨[],0⟩ else {st with wp:=st.objs.length}) with
    | none=>rw [hc] at h;cases h
    | some o =>
     rw [hc] at h
     obtain ⟨N,hN⟩:=Lim.evn hc
     dsimp only at hN
     exact ⟨N,fun n hn=>by dsimp only;rw [hN n hn];exact h⟩
   ·simp only [hp,if_false,Bool.false_eq_true] at h ⊢
    cases hc:EvF g f args st with
    | none=>rw [hc] at h;cases h
    | some o =>
     rw [hc] at h
     obtain ⟨N,hN⟩:=Lim.evn hc
     dsimp only at hN
     exact ⟨N,fun n hn=>by dsimp only;rw [hN n hn];exact h⟩
theorem stepE_lim {fr:Fr} {st:St} {o:Oper} {r:Rs} (h:stepE g fi (EvF g) fr st o=some r):Evn (fun n=>stepE g fi (evalFn g n) fr st o) r:=by
 unfold stepE at h ⊢
 split at h
 ·split at h
  ·exact callStep_lim h
  ·cases h
 ·exact Evn.of h
theorem stepM_lim {fr:Fr} {st:St} {o:Oper} {r:Rs} (h:stepM g fi (EvF g) fr st o=some r):Evn (fun n=>stepM g fi (evalFn g n) fr st o) r:=by
 unfold stepM at h ⊢
 by_cases hm:marked fi o=true
 ·simp only [hm,if_true] at h ⊢;exact Evn.of h
 ·simp only [hm,if_false,Bool.false_eq_true] at h ⊢
  by_cases hf:frzM fi o=true
  ·simp only [hf,if_true] at h ⊢;exact Evn.of h
  ·simp only [hf,if_false,Bool.false_eq_true] at h ⊢;exact stepE_lim h
theorem evalOps_lim {all:List Oper}:∀ {l:List Oper} {fr:Fr} {st:St} {r:Rg},evalOps g fi (EvF g) all l fr st=some r→Evn (fun n=>evalOps g fi (evalFn g n) all l fr st) r
 | [],_,_,_,h=>Evn.of h
 | o :: os,fr,st,r,h=>by
  unfold evalOps at h
  cases hw:wantedE all o fr with
  | none=>rw [hw] at h;cases h
  | some b =>
   rw [hw] at h
   cases b with
   | false =>
    obtain ⟨N,hN⟩:=evalOps_lim h
    exact ⟨N,fun n hn=>by show evalOps g fi (evalFn g n) all _ _ _=_;unfold evalOps;rw [hw];exact hN n hn⟩
   | true =>
    simp only at h
    cases hs:stepM g fi (EvF g) fr st o with
    | none=>rw [hs] at h;cases h
    | some q =>
     obtain ⟨M,hM⟩:=stepM_lim hs
     rw [hs] at h
     cases q with
     | ok e fr st =>
      obtain ⟨N,hN⟩:=evalOps_lim h
      exact ⟨max N M,fun n hn=>by
       show evalOps g fi (evalFn g n) all _ _ _=_;unfold evalOps;rw [hw];simp only [hM n (Nat.le_trans (Nat.le_max_right _ _) hn)]
       exact hN n (Nat.le_trans (Nat.le_max_left _ _) hn)⟩
     | pan v st =>
      exact ⟨M,fun n hn=>by show evalOps g fi (evalFn g n) all _ _ _=_;unfold evalOps;rw [hw];simp only [hM n hn];exact h⟩
theorem stepQ_lim {fr:Fr} {st:St} {o:Oper} {r:E} (h:stepQ g fi (EvF g) fr st o=some r):Evn (fun n=>stepQ g fi (evalFn g n) fr st o) r:=by
 unfold stepQ at h ⊢
 split at h
 ·exact Evn.of h
 ·exact Evn.of h
 ·split at h
  ·rename_i hq
   simp only [hq,if_true]
   cases hs:stepE g fi (EvF g) fr st o with
   | none=>rw [hs] at h;cases h
   | some q =>
    rw [hs] at h
    obtain ⟨M,hM⟩:=stepE_lim hs
    exact ⟨M,fun n hn=>by simp only [hM n hn];exact h⟩
  ·rename_i hq
   exact ⟨0,fun n _=>by show (if _ then _ else _)=_;rw [if_neg hq];exact h⟩
theorem stepW_lim {ops:Array Oper} {k:Nat} {fr:Fr} {st:St} {o:Oper} {r:List (Nat × E)} (h:stepW g fi (EvF g) ops k fr st o=some r):Evn (fun n=>stepW g fi (evalFn g n) ops k fr st o) r:=by
 unfold stepW at h ⊢
 split at h
 ·exact Evn.of h
 ·exact Evn.of h
 ·cases hs:stepQ g fi (EvF g) fr st o with
  | none=>rw [hs] at h;cases h
  | some q =>
   rw [hs] at h
   obtain ⟨M,hM⟩:=stepQ_lim hs
   exact ⟨M,fun n hn=>by simp only [hM n hn];exact h⟩
theorem evalDraw_lim {ops:Array Oper}:∀ {l:List Oper} {k:Nat} {fr:Fr} {st:St} {r:Rg},evalDraw g fi (EvF g) ops l k fr st=some r→Evn (fun n=>evalDraw g fi (evalFn g n) ops l k fr st) r
 | [],_,_,_,_,h=>Evn.of h
 | o :: os,k,fr,st,r,h=>by
  unfold evalDraw at h
  cases hw:wantedE ops.toList o fr with
  | none=>rw [hw] at h;cases h
  | some b =>
   rw [hw] at h
   cases b with
   | false =>
    obtain ⟨N,hN⟩:=evalDraw_lim h
    exact ⟨N,fun n hn=>by show evalDraw g fi (evalFn g n) ops _ _ _ _=_;unfold evalDraw;rw [hw];exact hN n hn⟩
   | true =>
    simp only at h
    by_cases hq:isQM g fi o=true
    ·simp only [hq,if_true] at h
     cases hs:stepW g fi (EvF g) ops k fr st o with
     | none=>rw [hs] at h;cases h
     | some y =>
      rw [hs] at h
      obtain ⟨M,hM⟩:=stepW_lim hs
      obtain ⟨N,hN⟩:=evalDraw_lim h
      exact ⟨max N M,fun n hn=>by
       show evalDraw g fi (evalFn g n) ops _ _ _ _=_;unfold evalDraw;rw [hw];simp only [hq,if_true,hM n (Nat.le_trans (Nat.le_max_right _ _) hn)]
       exact hN n (Nat.le_trans (Nat.le_max_left _ _) hn)⟩
    ·simp only [hq,if_false,Bool.false_eq_true] at h
     by_cases hc:((pivotB ops k || semiM fi o) && firm g fi ops k o fr && (!tameB fi ops k o || idleStore g fr st o))=true
     ·rw [if_pos hc] at h
      cases hs:stepM g fi (EvF g) fr st o with
      | none=>rw [hs] at h;cases h
      | some q =>
       obtain ⟨M,hM⟩:=stepM_lim hs
       rw [hs] at h
       cases q with
       | ok e fr' st' =>
        obtain ⟨N,hN⟩:=evalDraw_lim h
        exact ⟨max N M,fun n hn=>by
         show evalDraw g fi (evalFn g n) ops _ _ _ _=_;unfold evalDraw;rw [hw];simp only [hq,if_false,Bool.false_eq_true];rw [if_pos hc];simp only [hM n (Nat.le_trans (Nat.le_max_right _ _) hn)]
         exact hN n (Nat.le_trans (Nat.le_max_left _ _) hn)⟩
       | pan v st' =>
        exact ⟨M,fun n hn=>by show evalDraw g fi (evalFn g n) ops _ _ _ _=_;unfold evalDraw;rw [hw];simp only [hq,if_false,Bool.false_eq_true];rw [if_pos hc];simp only [hM n hn];exact h⟩
     ·rw [if_neg hc] at h;cases h
end
noncomputable def loopL (body:Fr→St→Res)(fr:Fr)(st:St):Res:=Lim fun n=>iterate body n fr st
theorem loopL_step {body:Fr→St→Res} {fr fr':Fr} {st st':St} (h:body fr st=some (.normal,fr',st')):loopL body fr st=loopL body fr' st':=by
 have key:∀ r,Evn (fun n=>iterate body n fr st) r↔Evn (fun n=>iterate body n fr' st') r:=by
  intro r
  constructor
  ·rintro ⟨N,hN⟩
   exact ⟨N,fun n hn=>by have:=hN (n+1) (by omega);simpa only [iterate,h] using this⟩
  ·rintro ⟨N,hN⟩
   refine ⟨N+1,fun n hn=>?_⟩
   obtain ⟨n,rfl⟩:∃ k,n=k+1:=⟨n - 1,by omega⟩
   have:=hN n (by omega)
   simpa only [iterate,h] using this
 unfold loopL
 cases h1:Lim (fun n=>iterate body n fr' st') with
 | some r=>exact ((key r).2 (Lim.evn h1)).lim
 | none =>
  cases h2:Lim (fun n=>iterate body n fr st) with
  | none=>rfl
  | some r=>rw [((key r).1 (Lim.evn h2)).lim] at h1;cases h1
theorem loopL_stop {body:Fr→St→Res} {fr fr':Fr} {st st':St} {x:X} (h:body fr st=some (x,fr',st'))(hx:x≠.normal):loopL body fr st=some (x,fr',st'):=by
 refine Evn.lim ⟨1,fun n hn=>?_⟩
 obtain ⟨n,rfl⟩:∃ k,n=k+1:=⟨n - 1,by omega⟩
 show iterate body (n+1) fr st=_
 unfold iterate
 rw [h]
 cases x with
 | normal=>exact absurd rfl hx
 | _=>rfl
def andThen (r:Res)(k:Fr→St→Res):Res :=
 match r with
 | some (.normal,fr,st)=>k fr st
 | r=>r
def unblock (id:Nat)(r:Res):Res :=
 match r with
 | some (.exit i,fr,st)=>if i == id then some (.normal,fr,st) else some (.exit i,fr,st)
 | r=>r
def either (b:Option Bool)(x y:Res):Res :=
 match b with
 | some true=>x
 | some false=>y
 | none=>none
def regOut:Option Rg→Fr→Res
 | some (.ok fr st),_=>some (.normal,fr,st)
 | some (.pan v st),fr=>some (.pan v,fr,st)
 | none,_=>none
noncomputable def EvC (g:G)(fi:FI):Code→Fr→St→Res
 | .skip,fr,st=>some (.normal,fr,st)
 | .region _ ops draw,fr,st =>
  if draw then
   if Region.lexB .any ops then regOut (evalDraw g fi (EvF g) ops ops.toList 0 fr.clear st) fr else none
  else regOut (evalOps g fi (EvF g) ops.toList ops.toList fr.clear st) fr
 | .seq a b,fr,st=>andThen (EvC g fi a fr st) (EvC g fi b)
 | .cond c a b,fr,st=>either (fr.op c).bool? (EvC g fi a fr st) (EvC g fi b fr st)
 | .block id body,fr,st=>unblock id (EvC g fi body fr st)
 | .loop body,fr,st=>loopL (EvC g fi body) fr st
 | .exit id,fr,st=>some (.exit id,fr,st)
 | .ret,fr,st=>some (.ret,fr,st)
 | _,_,_=>none
theorem loop_lim {g:G} {fi:FI} {b:Code} (ih:∀ {fr:Fr} {st:St} {r:X × Fr × St},EvC g fi b fr st=some r→Evn (fun n=>evalCode g fi (evalFn g n) n b fr st) r) :
  ∀ (k:Nat) (fr:Fr) (st:St) (r:X × Fr × St),iterate (EvC g fi b) k fr st=some r→∃ N,∀ n,N≤n→∀ m,k≤m→iterate (evalCode g fi (evalFn g n) n b) m fr st=some r
 | 0,_,_,_,h=>by cases h
 | k+1,fr,st,r,h=>by
  unfold iterate at h
  cases hb:EvC g fi b fr st with
  | none=>rw [hb] at h;cases h
  | some q =>
   obtain ⟨x,fr',st'⟩:=q
   obtain ⟨M,hM⟩:=ih hb
   dsimp only at hM
   rw [hb] at h
   cases x with
   | normal =>
    obtain ⟨N,hN⟩:=loop_lim ih k fr' st' r h
    refine ⟨max N M,fun n hn m hm=>?_⟩
    obtain ⟨m,rfl⟩:∃ j,m=j+1:=⟨m - 1,by omega⟩
    unfold iterate
    rw [hM n (Nat.le_trans (Nat.le_max_right _ _) hn)]
    exact hN n (Nat.le_trans (Nat.le_max_left _ _) hn) m (by omega)
   | _ =>
    refine ⟨M,fun n hn m hm=>?_⟩
    obtain ⟨m,rfl⟩:∃ j,m=j+1:=⟨m - 1,by omega⟩
    unfold iterate
    rw [hM n hn]
    exact h
theorem EvC_lim {g:G} {fi:FI}:∀ {c:Code} {fr:Fr} {st:St} {r:X × Fr × St},EvC g fi c fr st=some r→Evn (fun n=>evalCode g fi (evalFn g n) n c fr st) r
 | .skip,_,_,_,h=>Evn.of h
 | .exit _,_,_,_,h=>Evn.of h
 | .ret,_,_,_,h=>Evn.of h
 | .region _ ops draw,fr,st,r,h=>by
  unfold EvC at h
  cases draw with
  | true =>
   simp only [if_true] at h
   by_cases hl:Region.lexB .any ops=true
   ·rw [if_pos hl] at h
    cases hd:evalDraw g fi (EvF g) ops ops.toList 0 fr.clear st with
    | none=>rw [hd] at h;cases h
    | some q =>
     obtain ⟨N,hN⟩:=evalDraw_lim hd
     rw [hd] at h
     refine ⟨N,fun n hn=>?_⟩
     unfold evalCode
     simp only [if_true,hl,hN n hn]
     cases q <;> exact h
   ·rw [if_neg hl] at h;cases h
  | false =>
   simp only [if_false,Bool.false_eq_true] at h
   cases hd:evalOps g fi (EvF g) ops.toList ops.toList fr.clear st with
   | none=>rw [hd] at h;cases h
   | some q =>
    obtain ⟨N,hN⟩:=evalOps_lim hd
    rw [hd] at h
    refine ⟨N,fun n hn=>?_⟩
    show evalCode g fi (evalFn g n) n _ fr st=_
    unfold evalCode
    simp only [if_false,Bool.false_eq_true,hN n hn]
    cases q <;> exact h
 | .seq a b,fr,st,r,h=>by
  unfold EvC at h
  cases ha:EvC g fi a fr st with
  | none=>rw [ha] at h;cases h
  | some q =>
   obtain ⟨x,fr',st'⟩:=q
   obtain ⟨M,hM⟩:=EvC_lim ha
   dsimp only at hM
   rw [ha] at h
   cases x with
   | normal =>
    obtain ⟨N,hN⟩:=EvC_lim (c:=b) h
    refine ⟨max N M,fun n hn=>?_⟩
    show evalCode g fi (evalFn g n) n _ fr st=_
    unfold evalCode
    rw [hM n (Nat.le_trans (Nat.le_max_right _ _) hn)]
    exact hN n (Nat.le_trans (Nat.le_max_left _ _) hn)
   | _ =>
    refine ⟨M,fun n hn=>?_⟩
    show evalCode g fi (evalFn g n) n _ fr st=_
    unfold evalCode
    rw [hM n hn]
    exact h
 | .cond c a b,fr,st,r,h=>by
  unfold EvC at h
  cases hc:(fr.op c).bool? with
  | none=>rw [hc] at h;cases h
  | some t =>
   rw [hc] at h
   cases t with
   | true =>
    obtain ⟨N,hN⟩:=EvC_lim (c:=a) h
    exact ⟨N,fun n hn=>by show evalCode g fi (evalFn g n) n _ fr st=_;unfold evalCode;rw [hc];exact hN n hn⟩
   | false =>
    obtain ⟨N,hN⟩:=EvC_lim (c:=b) h
    exact ⟨N,fun n hn=>by show evalCode g fi (evalFn g n) n _ fr st=_;unfold evalCode;rw [hc];exact hN n hn⟩
 | .block id body,fr,st,r,h=>by
  unfold EvC at h
  cases ha:EvC g fi body fr st with
  | none=>rw [ha] at h;cases h
  | some q =>
   obtain ⟨x,fr',st'⟩:=q
   obtain ⟨M,hM⟩:=EvC_lim ha
   dsimp only at hM
   rw [ha] at h
   refine ⟨M,fun n hn=>?_⟩
   show evalCode g fi (evalFn g n) n _ fr st=_
   unfold evalCode
   rw [hM n hn]
   cases x <;> exact h
 | .loop body,fr,st,r,h=>by
  unfold EvC at h
  obtain ⟨N0,h0⟩:=Lim.evn h
  obtain ⟨N,hN⟩:=loop_lim (fun h=>EvC_lim h) N0 fr st r (h0 N0 (Nat.le_refl _))
  exact ⟨max N N0,fun n hn=>by
   unfold evalCode
   exact hN n (Nat.le_trans (Nat.le_max_left _ _) hn) n (Nat.le_trans (Nat.le_max_right _ _) hn)⟩
noncomputable def bodyOut (g:G)(fi:FI)(r:Res):Option (Out × St) :=
 match r with
 | some (.normal,fr,st)=>(resultsOut g fr st fi.results).bind fun o=>frzOut fi o st
 | some (.ret,fr,st)=>(resultsOut g fr st fi.results).bind fun o=>frzOut fi o st
 | some (.pan v,_,st)=>some (.pan v,st)
 | _=>none
theorem EvF_body {g:G} {f:Nat} {fi:FI} {args:List V} {st:St} {r:Out × St} (hf:g.fn f=some fi)(hr:∀ x,g.run=some x→f≠x.1)
  (h:bodyOut g fi (EvC g fi fi.body (startFr fi args) st)=some r):EvF g f args st=some r:=by
 cases hc:EvC g fi fi.body (startFr fi args) st with
 | none=>rw [hc] at h;cases h
 | some q =>
  obtain ⟨x,fr',st'⟩:=q
  obtain ⟨M,hM⟩:=EvC_lim hc
  rw [hc] at h
  refine Evn.lim ⟨M+1,fun n hn=>?_⟩
  obtain ⟨n,rfl⟩:∃ j,n=j+1:=⟨n - 1,by omega⟩
  have hb:evalBody g (evalFn g n) n f args st=some r:=by
   unfold evalBody
   rw [hf]
   simp only [hM n (by omega)]
   cases x <;> first | exact h | cases h
  show evalFn g (n+1) f args st=_
  unfold evalFn
  cases hx:g.run with
  | none=>exact hb
  | some y =>
   obtain ⟨a,b⟩:=y
   have:=hr (a,b) hx
   simp only [beq_iff_eq]
   rw [if_neg this]
   exact hb
theorem EvF_run {g:G} {f e:Nat} {args:List V} {st:St} {r:Out × St} (hr:g.run=some (f,e))(h:runFn (EvF g) e args st=some r):EvF g f args st=some r:=by
 suffices hh:Evn (fun n=>runFn (evalFn g n) e args st) r by
  obtain ⟨N,hN⟩:=hh
  refine Evn.lim ⟨N+1,fun n hn=>?_⟩
  obtain ⟨n,rfl⟩:∃ j,n=j+1:=⟨n - 1,by omega⟩
  show evalFn g (n+1) f args st=_
  unfold evalFn
  rw [hr]
  simp only [beq_self_eq_true,if_true]
  exact hN n (by omega)
 unfold runFn at h ⊢
 split at h
 ·exact Evn.of h
 ·rename_i f' first cap
  cases hc:EvF g f' (first ++ cap) st with
  | none=>rw [hc] at h;cases h
  | some o =>
   rw [hc] at h
   obtain ⟨N,hN⟩:=Lim.evn hc
   exact ⟨N,fun n hn=>by simp only [hN n hn];exact h⟩
 ·cases h
theorem EvF_fuel {g:G} {f:Nat} {args:List V} {st:St} {r:Out × St} (h:EvF g f args st=some r):∃ n,evalFn g n f args st=some r:=by
 obtain ⟨N,hN⟩:=Lim.evn h
 exact ⟨N,hN N (Nat.le_refl _)⟩
end Go.Ab
namespace Go.Ab
open Go
inductive Kt where
 | nil
 | seq (b:Code) (k:Kt)
 | blk (id:Nat) (k:Kt)
 | loop (b:Code) (k:Kt)
variable {g:G} {fi:FI}
noncomputable def finK (g:G)(fi:FI):Kt→Res→Option (Out × St)
 | .nil,r=>bodyOut g fi r
 | .seq b k,r=>finK g fi k (andThen r (EvC g fi b))
 | .blk id k,r=>finK g fi k (unblock id r)
 | .loop b k,r=>finK g fi k (andThen r (loopL (EvC g fi b)))
noncomputable def evK (g:G)(fi:FI)(c:Code)(fr:Fr)(st:St)(k:Kt):Option (Out × St):=finK g fi k (EvC g fi c fr st)
noncomputable def nextK (g:G)(fi:FI)(k:Kt)(x:X)(fr:Fr)(st:St):Option (Out × St):=finK g fi k (some (x,fr,st))
noncomputable def condK (g:G)(fi:FI)(t:Option Bool)(a b:Code)(fr:Fr)(st:St)(k:Kt):Option (Out × St):=finK g fi k (either t (EvC g fi a fr st) (EvC g fi b fr st))
noncomputable def wantedD (ds:List (Option Nat))(o:Oper)(fr:Fr):Option Bool :=
 match o.guard with
 | none=>some true
 | some (j,want)=>match (ds[j]?).join with
  | some d=>match fr.get d with
   | .val (.bool b)=>some (b == want)
   | .val (.tuple [])=>some false
   | _=>none
  | none=>none
theorem wantedD_eq (all:List Oper)(o:Oper)(fr:Fr):wantedE all o fr=wantedD (all.map (·.dst)) o fr:=by
 unfold wantedE wantedD
 cases o.guard with
 | none=>rfl
 | some q =>
  obtain ⟨j,want⟩:=q
  simp only [List.getElem?_map]
  cases all[j]? with
  | none=>rfl
  | some p=>cases p.dst <;> rfl
noncomputable def evalD (g:G)(fi:FI)(call:Calling)(ds:List (Option Nat)):List Oper→Fr→St→Option Rg
 | [],fr,st=>some (.ok fr st)
 | o :: os,fr,st =>
  match wantedD ds o fr with
  | some true=>match stepM g fi call fr st o with
   | some (.ok e fr st)=>evalD g fi call ds os (fr.putO o.dst e) st
   | some (.pan v st)=>some (.pan v st)
   | none=>none
  | some false=>evalD g fi call ds os (fr.putO o.dst (.val (.tuple []))) st
  | none=>none
theorem evalD_eq (call:Calling)(all:List Oper):∀ (l:List Oper) (fr:Fr) (st:St),evalOps g fi call all l fr st=evalD g fi call (all.map (·.dst)) l fr st
 | [],_,_=>rfl
 | o :: l,fr,st=>by
  unfold evalOps evalD
  rw [wantedD_eq]
  cases wantedD (all.map (·.dst)) o fr with
  | none=>rfl
  | some b =>
   cases b with
   | false=>exact evalD_eq call all l _ _
   | true =>
    simp only
    cases stepM g fi call fr st o with
    | none=>rfl
    | some r=>cases r with
     | ok e fr st=>exact evalD_eq call all l _ _
     | pan v st=>rfl
noncomputable def opsK (g:G)(fi:FI)(all:List (Option Nat))(os:List Oper)(fr:Fr)(st:St)(fb:Fr)(k:Kt):Option (Out × St):=finK g fi k (regOut (evalD g fi (EvF g) all os fr st) fb)
noncomputable def wantK (g:G)(fi:FI)(t:Option Bool)(all:List (Option Nat))(o:Oper)(os:List Oper)(fr:Fr)(st:St)(fb:Fr)(k:Kt):Option (Out × St) :=
 match t with
 | some true=>finK g fi k (regOut (match stepM g fi (EvF g) fr st o with
   | some (.ok e fr st)=>evalD g fi (EvF g) all os (fr.putO o.dst e) st
   | some (.pan v st)=>some (.pan v st)
   | none=>none) fb)
 | some false=>opsK g fi all os (fr.putO o.dst (.val (.tuple []))) st fb k
 | none=>finK g fi k none
noncomputable def stepK (g:G)(fi:FI)(r:Option Rs)(all:List (Option Nat))(d:Option Nat)(os:List Oper)(fb:Fr)(k:Kt):Option (Out × St) :=
 finK g fi k (regOut (match r with
   | some (.ok e fr st)=>evalD g fi (EvF g) all os (fr.putO d e) st
   | some (.pan v st)=>some (.pan v st)
   | none=>none) fb)
theorem evK_seq (a b:Code)(fr:Fr)(st:St)(k:Kt):evK g fi (.seq a b) fr st k=evK g fi a fr st (.seq b k):=rfl
theorem evK_block (id:Nat)(a:Code)(fr:Fr)(st:St)(k:Kt):evK g fi (.block id a) fr st k=evK g fi a fr st (.blk id k):=rfl
theorem evK_skip (fr:Fr)(st:St)(k:Kt):evK g fi .skip fr st k=nextK g fi k .normal fr st:=rfl
theorem evK_ret (fr:Fr)(st:St)(k:Kt):evK g fi .ret fr st k=nextK g fi k .ret fr st:=rfl
theorem evK_exit (i:Nat)(fr:Fr)(st:St)(k:Kt):evK g fi (.exit i) fr st k=nextK g fi k (.exit i) fr st:=rfl
theorem evK_region {c:Code} (i:Nat)(ops:Array Oper)(fr:Fr)(st:St)(k:Kt)(hc:c=.region i ops false):evK g fi c fr st k=opsK g fi (ops.toList.map (·.dst)) ops.toList fr.clear st fr k:=by
 subst hc
 unfold evK opsK
 simp only [EvC,Bool.false_eq_true,if_false]
 rw [evalD_eq]
theorem evK_reg1 {c:Code} {i:Nat} {ops:List Oper} {ds:List (Option Nat)} {fr:Fr} {st:St} {k:Kt} (hc:c=.region i ops.toArray false)(hd:ops.map (·.dst)=ds):evK g fi c fr st k=opsK g fi ds ops fr.clear st fr k:=by
 subst hd;rw [evK_region i ops.toArray fr st k hc]
noncomputable def opsR (g:G)(fi:FI)(ops:List Oper)(fr:Fr)(st:St)(k:Kt):Option (Out × St):=opsK g fi (ops.map (·.dst)) ops fr.clear st fr k
theorem opsR_def (ops:List Oper)(fr:Fr)(st:St)(k:Kt):opsR g fi ops fr st k=opsK g fi (ops.map (·.dst)) ops fr.clear st fr k:=rfl
theorem evK_r {c:Code} (i:Nat) {ops:List Oper} {fr:Fr} {st:St} {k:Kt} (hc:c=.region i ops.toArray false):evK g fi c fr st k=opsR g fi ops fr st k:=evK_reg1 hc rfl
theorem evK_rs {c a b:Code} (i:Nat) {ops:List Oper} {fr:Fr} {st:St} {k:Kt} (hc:c=.seq a b)(ha:a=.region i ops.toArray false):evK g fi c fr st k=opsR g fi ops fr st (.seq b k):=by
 subst hc;rw [evK_seq];exact evK_r i ha
theorem condK_true (a b:Code)(fr:Fr)(st:St)(k:Kt):condK g fi (some true) a b fr st k=evK g fi a fr st k:=rfl
theorem condK_false (a b:Code)(fr:Fr)(st:St)(k:Kt):condK g fi (some false) a b fr st k=evK g fi b fr st k:=rfl
theorem condK_iff (t:Bool)(a b:Code)(fr:Fr)(st:St)(k:Kt)(r:Option (Out × St)):(condK g fi (some t) a b fr st k=r)=((t=true→evK g fi a fr st k=r)∧(t=false→evK g fi b fr st k=r)):=by
 cases t <;> simp [condK_true,condK_false]
theorem nextK_seq (b:Code)(k:Kt)(fr:Fr)(st:St):nextK g fi (.seq b k) .normal fr st=evK g fi b fr st k:=rfl
theorem nextK_seq_ret (b:Code)(k:Kt)(fr:Fr)(st:St):nextK g fi (.seq b k) .ret fr st=nextK g fi k .ret fr st:=rfl
theorem nextK_seq_exit (b:Code)(k:Kt)(i:Nat)(fr:Fr)(st:St):nextK g fi (.seq b k) (.exit i) fr st=nextK g fi k (.exit i) fr st:=rfl
theorem nextK_seq_pan (b:Code)(k:Kt)(v:V)(fr:Fr)(st:St):nextK g fi (.seq b k) (.pan v) fr st=nextK g fi k (.pan v) fr st:=rfl
theorem nextK_blk (id:Nat)(k:Kt)(fr:Fr)(st:St):nextK g fi (.blk id k) .normal fr st=nextK g fi k .normal fr st:=rfl
theorem nextK_blk_ret (id:Nat)(k:Kt)(fr:Fr)(st:St):nextK g fi (.blk id k) .ret fr st=nextK g fi k .ret fr st:=rfl
theorem nextK_blk_exit (id:Nat)(k:Kt)(i:Nat)(fr:Fr)(st:St):nextK g fi (.blk id k) (.exit i) fr st=if i == id then nextK g fi k .normal fr st else nextK g fi k (.exit i) fr st:=by
 unfold nextK
 simp only [finK,unblock]
 split <;> rfl
theorem nextK_blk_pan (id:Nat)(k:Kt)(v:V)(fr:Fr)(st:St):nextK g fi (.blk id k) (.pan v) fr st=nextK g fi k (.pan v) fr st:=rfl
theorem evK_loop {c:Code} (b:Code)(fr:Fr)(st:St)(k:Kt)(r:Out × St)(hc:c=.loop b)(h:evK g fi b fr st (.loop b k)=some r):evK g fi c fr st k=some r:=by
 subst hc
 unfold evK at h ⊢
 simp only [finK] at h
 cases hb:EvC g fi b fr st with
 | none =>
  rw [hb] at h
  simp only [andThen] at h
  have hn:∀ k,finK g fi k none=none:=by
   intro k
   induction k with
   | nil=>rfl
   | seq b k ih=>exact ih
   | blk id k ih=>exact ih
   | loop b k ih=>exact ih
  rw [hn] at h;cases h
 | some q =>
  obtain ⟨x,fr',st'⟩:=q
  rw [hb] at h
  simp only [EvC]
  cases x with
  | normal=>rw [loopL_step hb];exact h
  | _=>rw [loopL_stop hb (by simp)];exact h
theorem nextK_loop_ret (b:Code)(k:Kt)(fr:Fr)(st:St):nextK g fi (.loop b k) .ret fr st=nextK g fi k .ret fr st:=rfl
theorem nextK_loop_exit (b:Code)(k:Kt)(i:Nat)(fr:Fr)(st:St):nextK g fi (.loop b k) (.exit i) fr st=nextK g fi k (.exit i) fr st:=rfl
theorem nextK_loop_pan (b:Code)(k:Kt)(v:V)(fr:Fr)(st:St):nextK g fi (.loop b k) (.pan v) fr st=nextK g fi k (.pan v) fr st:=rfl
theorem nextK_nil (fr:Fr)(st:St):nextK g fi .nil .normal fr st=(resultsOut g fr st fi.results).bind fun o=>frzOut fi o st:=rfl
theorem nextK_nil_ret (fr:Fr)(st:St):nextK g fi .nil .ret fr st=(resultsOut g fr st fi.results).bind fun o=>frzOut fi o st:=rfl
theorem nextK_nil_pan (v:V)(fr:Fr)(st:St):nextK g fi .nil (.pan v) fr st=some (.pan v,st):=rfl
theorem opsK_nil (all:List (Option Nat))(fr:Fr)(st:St)(fb:Fr)(k:Kt):opsK g fi all [] fr st fb k=nextK g fi k .normal fr st:=rfl
theorem opsK_cons (all:List (Option Nat))(o:Oper)(os:List Oper)(fr:Fr)(st:St)(fb:Fr)(k:Kt):opsK g fi all (o :: os) fr st fb k=wantK g fi (wantedD all o fr) all o os fr st fb k:=by
 unfold opsK wantK
 rw [evalD]
 cases wantedD all o fr with
 | none=>rfl
 | some b=>cases b <;> rfl
theorem wantK_true (all:List (Option Nat))(o:Oper)(os:List Oper)(fr:Fr)(st:St)(fb:Fr)(k:Kt):wantK g fi (some true) all o os fr st fb k=stepK g fi (stepM g fi (EvF g) fr st o) all o.dst os fb k:=rfl
theorem wantK_false (all:List (Option Nat))(o:Oper)(os:List Oper)(fr:Fr)(st:St)(fb:Fr)(k:Kt):wantK g fi (some false) all o os fr st fb k=opsK g fi all os (fr.putO o.dst (.val (.tuple []))) st fb k:=rfl
theorem wantK_iff (t:Bool)(all:List (Option Nat))(o:Oper)(os:List Oper)(fr:Fr)(st:St)(fb:Fr)(k:Kt)(r:Option (Out × St)):(wantK g fi (some t) all o os fr st fb k=r)=((t=true→stepK g fi (stepM g fi (EvF g) fr st o) all o.dst os fb k=r)∧(t=false→opsK g fi all os (fr.putO o.dst (.val (.tuple []))) st fb k=r)):=by
 cases t <;> simp [wantK_true,wantK_false]
theorem stepK_ok (e:E)(fr:Fr)(st:St)(all:List (Option Nat))(d:Option Nat)(os:List Oper)(fb:Fr)(k:Kt):stepK g fi (some (.ok e fr st)) all d os fb k=opsK g fi all os (fr.putO d e) st fb k:=rfl
theorem stepK_pan (v:V)(st:St)(all:List (Option Nat))(d:Option Nat)(os:List Oper)(fb:Fr)(k:Kt):stepK g fi (some (.pan v st)) all d os fb k=nextK g fi k (.pan v) fb st:=rfl
theorem stepK_iff (t:Prop) [Decidable t] (e e':E) (fr:Fr) (st:St) (all:List (Option Nat)) (d:Option Nat) (os:List Oper) (fb:Fr) (k:Kt) (r:Option (Out × St)) :
  (stepK g fi (some (.ok (if t then e else e') fr st)) all d os fb k=r)=((t→opsK g fi all os (fr.putO d e) st fb k=r)∧(¬ t→opsK g fi all os (fr.putO d e') st fb k=r)):=by
 by_cases h:t <;> simp [h,stepK_ok]
def mk (d : Option Nat) (o : Op) (t : TypeId) (g : Option (Nat × Bool)) : Oper := { dst := d, op := o, type := t, pos := "", after := #[], guard := g }
theorem mk_dst (d:Option Nat)(o:Op)(t:TypeId)(g:Option (Nat × Bool)):(mk d o t g).dst=d:=rfl
theorem mk_op (d:Option Nat)(o:Op)(t:TypeId)(g:Option (Nat × Bool)):(mk d o t g).op=o:=rfl
theorem mk_type (d:Option Nat)(o:Op)(t:TypeId)(g:Option (Nat × Bool)):(mk d o t g).type=t:=rfl
theorem mk_guard (d:Option Nat)(o:Op)(t:TypeId)(g:Option (Nat × Bool)):(mk d o t g).guard=g:=rfl
def op1 (d:Nat)(o:Op)(t:TypeId):Oper:=mk (some d) o t none
theorem op1_dst (d:Nat)(o:Op)(t:TypeId):(op1 d o t).dst=some d:=rfl
theorem op1_op (d:Nat)(o:Op)(t:TypeId):(op1 d o t).op=o:=rfl
theorem op1_type (d:Nat)(o:Op)(t:TypeId):(op1 d o t).type=t:=rfl
theorem op1_guard (d:Nat)(o:Op)(t:TypeId):(op1 d o t).guard=none:=rfl
def mv (d x t:Nat):Oper:=op1 d (.move (.tmp x)) t
theorem mv_def (d x t:Nat):mv d x t=op1 d (.move (.tmp x)) t:=rfl
def asn (d x t:Nat):Oper:=op1 d (.assign (.tmp x)) t
theorem asn_def (d x t:Nat):asn d x t=op1 d (.assign (.tmp x)) t:=rfl
def ld (d y x t:Nat):Oper:=op1 d (.load y (.tmp x)) t
theorem ld_def (d y x t:Nat):ld d y x t=op1 d (.load y (.tmp x)) t:=rfl
def ixa (d y a b t:Nat):Oper:=op1 d (.indexAddr y (.tmp a) (.tmp b)) t
theorem ixa_def (d y a b t:Nat):ixa d y a b t=op1 d (.indexAddr y (.tmp a) (.tmp b)) t:=rfl
def bop (d:Nat)(o:BinOp)(y a b u t:Nat):Oper:=op1 d (.binOp o y (.tmp a) (.tmp b) u) t
theorem bop_def (d:Nat)(o:BinOp)(y a b u t:Nat):bop d o y a b u t=op1 d (.binOp o y (.tmp a) (.tmp b) u) t:=rfl
def len1 (d x y t:Nat):Oper:=op1 d (.call {callee:=.builtin .len,args:=#[.tmp x],argTypes:=#[y]}) t
theorem len1_def (d x y t:Nat):len1 d x y t=op1 d (.call {callee:=.builtin .len,args:=#[.tmp x],argTypes:=#[y]}) t:=rfl
def cal (d f:Nat)(a:List Operand)(y:List Nat)(t:Nat):Oper:=op1 d (.call {callee:=.value (.func f),args:=a.toArray,argTypes:=y.toArray}) t
theorem cal_def (d f:Nat)(a:List Operand)(y:List Nat)(t:Nat):cal d f a y t=op1 d (.call {callee:=.value (.func f),args:=a.toArray,argTypes:=y.toArray}) t:=rfl
def sto (y a x:Nat):Oper:=mk none (.store y (.tmp a) (.tmp x)) 0 none
theorem sto_def (y a x:Nat):sto y a x=mk none (.store y (.tmp a) (.tmp x)) 0 none:=rfl
def bitsN:Nat→Nat→List Bool
 | 0,_=>[]
 | f+1,n=>if n≤1 then [] else (n % 2 == 1) :: bitsN f (n / 2)
def mini1 (o:Oper):Oper:=mk o.dst o.op o.type o.guard
def mini:Code→Code
 | .region i ops false=>.region i (ops.toList.map mini1).toArray false
 | .seq a b=>.seq (mini a) (mini b)
 | .cond c a b=>.cond c (mini a) (mini b)
 | .block i b=>.block i (mini b)
 | .loop b=>.loop (mini b)
 | c=>c
theorem stepM_mini (call:Calling)(fr:Fr)(st:St)(o:Oper):stepM g fi call fr st (mini1 o)=stepM g fi call fr st o:=by
 obtain ⟨d,op,t,p,a,gd⟩:=o
 cases op <;> rfl
theorem evalOps_mini (call:Calling)(all:List Oper):∀ (l:List Oper) (fr:Fr) (st:St),evalOps g fi call (all.map mini1) (l.map mini1) fr st=evalOps g fi call all l fr st
 | [],_,_=>rfl
 | o :: l,fr,st=>by
  have hw:wantedE (all.map mini1) (mini1 o) fr=wantedE all o fr:=by
   unfold wantedE
   show (match o.guard with | none=>_ | some (j,want)=>_)=_
   cases o.guard with
   | none=>rfl
   | some q =>
    obtain ⟨j,want⟩:=q
    simp only [List.getElem?_map]
    cases all[j]? <;> rfl
  rw [List.map_cons]
  unfold evalOps
  rw [hw,stepM_mini]
  have e:(mini1 o).dst=o.dst:=rfl
  rw [e]
  cases wantedE all o fr with
  | none=>rfl
  | some b =>
   cases b with
   | false=>exact evalOps_mini call all l _ _
   | true =>
    simp only
    cases stepM g fi call fr st o with
    | none=>rfl
    | some r=>cases r with
     | ok e fr st=>exact evalOps_mini call all l _ _
     | pan v st=>rfl
theorem EvC_mini:∀ (c:Code),EvC g fi (mini c)=EvC g fi c
 | .region i ops false=>by
  funext fr st
  show EvC g fi (.region i (ops.toList.map mini1).toArray false) fr st=_
  simp only [EvC,Bool.false_eq_true,if_false,List.toList_toArray]
  rw [evalOps_mini]
 | .region _ _ true=>rfl
 | .seq a b=>by funext fr st;simp only [mini,EvC,EvC_mini a,EvC_mini b]
 | .cond _ a b=>by funext fr st;simp only [mini,EvC,EvC_mini a,EvC_mini b]
 | .block _ b=>by funext fr st;simp only [mini,EvC,EvC_mini b]
 | .loop b=>by funext fr st;simp only [mini,EvC,EvC_mini b]
 | .skip=>rfl
 | .exit _=>rfl
 | .ret=>rfl
 | .rangeFunc _ _ _ _=>rfl
 | .scope _=>rfl
 | .label _=>rfl
 | .goto _=>rfl
 | .refuse _=>rfl
theorem EvF_start {f:Nat} {args:List V} {st:St} {r:Out × St} (hf:g.fn f=some fi)(hr:∀ x,g.run=some x→f≠x.1)
  {c:Code} (hc:mini fi.body=c) (h:evK g fi c (startFr fi args) st .nil=some r):EvF g f args st=some r:=by
 subst hc
 unfold evK at h
 rw [EvC_mini] at h
 exact EvF_body hf hr h
attribute [simp] mv_def asn_def ld_def ixa_def bop_def len1_def cal_def sto_def opsR_def op1_dst op1_op op1_type op1_guard evK_seq evK_block evK_skip evK_ret evK_exit condK_true condK_false condK_iff nextK_seq nextK_loop_ret nextK_loop_exit nextK_loop_pan nextK_seq_ret nextK_seq_exit nextK_seq_pan nextK_blk nextK_blk_ret nextK_blk_exit nextK_blk_pan nextK_nil nextK_nil_ret nextK_nil_pan opsK_nil opsK_cons wantK_true wantK_false wantK_iff stepK_ok stepK_pan stepK_iff mk_dst mk_op mk_type mk_guard wantedD
def E.tame:E→Bool
 | .any=>true
 | .val _=>true
 | .lp _ _=>true
 | _=>false
def E.Tame (e:E):Prop:=e.tame=true
theorem calm_any:E.calm .any=.any:=rfl
theorem calm_val (v:V):E.calm (.val v)=.val v:=rfl
theorem calm_lp (s o:Nat):E.calm (.lp s o)=.lp s o:=rfl
theorem calm_own (k:Nat)(xs:List V):E.calm (.own k xs)=.own k xs:=rfl
theorem calm_bs (k:Nat)(xs:List V)(s:Nat):E.calm (.bor k xs (.slot s))=.val (.slice xs):=rfl
theorem calm_bm (k:Nat)(xs:List V)(i o:Nat):E.calm (.bor k xs (.mem i o))=.bor k xs (.mem i o):=rfl
theorem calm_bl (k:Nat)(xs:List V)(i o:Nat):E.calm (.bor k xs (.loc i o))=.bor k xs (.loc i o):=rfl
theorem calm_tame {e:E} (h:e.Tame):e.calm=e:=by cases e <;> first | rfl | cases h
theorem inval_any (p:Pl):E.inval p .any=.any:=rfl
theorem inval_val (p:Pl)(v:V):E.inval p (.val v)=.val v:=rfl
theorem inval_lp (p:Pl)(s o:Nat):E.inval p (.lp s o)=.lp s o:=rfl
theorem inval_own (p:Pl)(k:Nat)(xs:List V):E.inval p (.own k xs)=.own k xs:=rfl
theorem inval_bor (p:Pl)(k:Nat)(xs:List V)(q:Pl):E.inval p (.bor k xs q)=if q=p then .val (.slice xs) else .bor k xs q:=rfl
theorem inval_tame {e:E} (p:Pl)(h:e.Tame):e.inval p=e:=by cases e <;> first | rfl | cases h
theorem noMem_any:E.noMem .any=.any:=rfl
theorem noMem_val (v:V):E.noMem (.val v)=.val v:=rfl
theorem noMem_lp (s o:Nat):E.noMem (.lp s o)=.lp s o:=rfl
theorem noMem_own (k:Nat)(xs:List V):E.noMem (.own k xs)=.own k xs:=rfl
theorem noMem_bs (k:Nat)(xs:List V)(s:Nat):E.noMem (.bor k xs (.slot s))=.bor k xs (.slot s):=rfl
theorem noMem_bm (k:Nat)(xs:List V)(i o:Nat):E.noMem (.bor k xs (.mem i o))=.val (.slice xs):=rfl
theorem noMem_bl (k:Nat)(xs:List V)(i o:Nat):E.noMem (.bor k xs (.loc i o))=.bor k xs (.loc i o):=rfl
theorem noMem_tame {e:E} (h:e.Tame):e.noMem=e:=by cases e <;> first | rfl | cases h
theorem noLoc_any:E.noLoc .any=.any:=rfl
theorem noLoc_val (v:V):E.noLoc (.val v)=.val v:=rfl
theorem noLoc_lp (s o:Nat):E.noLoc (.lp s o)=.lp s o:=rfl
theorem noLoc_own (k:Nat)(xs:List V):E.noLoc (.own k xs)=.own k xs:=rfl
theorem noLoc_bs (k:Nat)(xs:List V)(s:Nat):E.noLoc (.bor k xs (.slot s))=.bor k xs (.slot s):=rfl
theorem noLoc_bm (k:Nat)(xs:List V)(i o:Nat):E.noLoc (.bor k xs (.mem i o))=.bor k xs (.mem i o):=rfl
theorem noLoc_bl (k:Nat)(xs:List V)(i o:Nat):E.noLoc (.bor k xs (.loc i o))=.val (.slice xs):=rfl
theorem noLoc_tame {e:E} (h:e.Tame):e.noLoc=e:=by cases e <;> first | rfl | cases h
theorem noLp_any (s:Nat):E.noLp s .any=.any:=rfl
theorem noLp_val (s:Nat)(v:V):E.noLp s (.val v)=.val v:=rfl
theorem noLp_lp (s t o:Nat):E.noLp s (.lp t o)=if t == s then .any else .lp t o:=rfl
theorem noLp_own (s:Nat)(k:Nat)(xs:List V):E.noLp s (.own k xs)=.own k xs:=rfl
theorem noLp_bs (s:Nat)(k:Nat)(xs:List V)(t:Nat):E.noLp s (.bor k xs (.slot t))=.bor k xs (.slot t):=rfl
theorem noLp_bm (s:Nat)(k:Nat)(xs:List V)(i o:Nat):E.noLp s (.bor k xs (.mem i o))=.bor k xs (.mem i o):=rfl
theorem noLp_bl (s:Nat)(k:Nat)(xs:List V)(t o:Nat):E.noLp s (.bor k xs (.loc t o))=if t == s then .val (.slice xs) else .bor k xs (.loc t o):=rfl
theorem noLp_tame {e:E} (s:Nat)(h:e.Tame):(e.noLp s).Tame:=by
 cases e with
 | lp t o=>unfold E.noLp;simp only;split <;> rfl
 | _=>first | rfl | cases h
theorem weak_any:E.weak .any=.any:=rfl
theorem weak_val (v:V):E.weak (.val v)=.val v:=rfl
theorem weak_lp (s o:Nat):E.weak (.lp s o)=.lp s o:=rfl
theorem weak_own (k:Nat)(xs:List V):E.weak (.own k xs)=.val (.slice xs):=rfl
theorem weak_bor (k:Nat)(xs:List V)(q:Pl):E.weak (.bor k xs q)=.val (.slice xs):=rfl
theorem still_any:E.still .any=.any:=rfl
theorem still_val (v:V):E.still (.val v)=.val v:=rfl
theorem still_lp (s o:Nat):E.still (.lp s o)=.lp s o:=rfl
theorem still_own (k:Nat)(xs:List V):E.still (.own k xs)=.val (.slice xs):=rfl
theorem still_bs (k:Nat)(xs:List V)(s:Nat):E.still (.bor k xs (.slot s))=.val (.slice xs):=rfl
theorem still_bm (k:Nat)(xs:List V)(i o:Nat):E.still (.bor k xs (.mem i o))=.bor k xs (.mem i o):=rfl
theorem still_bl (k:Nat)(xs:List V)(i o:Nat):E.still (.bor k xs (.loc i o))=.bor k xs (.loc i o):=rfl
theorem still_tame {e:E} (h:e.Tame):e.still=e:=by cases e <;> first | rfl | cases h
theorem weak_tame {e:E} (h:e.Tame):e.weak=e:=by cases e <;> first | rfl | cases h
theorem tame_any:E.Tame .any:=rfl
theorem tame_val (v:V):E.Tame (.val v):=rfl
theorem tame_lp (s o:Nat):E.Tame (.lp s o):=rfl
def E.firm:E→Bool
 | .bor _ _ _=>false
 | _=>true
def E.Firm (e:E):Prop:=e.firm=true
theorem calm_firm {e:E} (h:e.Firm):e.calm=e:=by cases e <;> first | rfl | cases h
theorem inval_firm {e:E} (p:Pl)(h:e.Firm):e.inval p=e:=by cases e <;> first | rfl | cases h
theorem noMem_firm {e:E} (h:e.Firm):e.noMem=e:=by cases e <;> first | rfl | cases h
theorem noLoc_firm {e:E} (h:e.Firm):e.noLoc=e:=by cases e <;> first | rfl | cases h
theorem noLp_firm {e:E} (s:Nat)(h:e.Firm):(e.noLp s).Firm:=by
 cases e with
 | lp t o=>unfold E.noLp;simp only;split <;> rfl
 | _=>first | rfl | cases h
theorem firm_any:E.Firm .any:=rfl
theorem firm_val (v:V):E.Firm (.val v):=rfl
theorem firm_lp (s o:Nat):E.Firm (.lp s o):=rfl
theorem firm_own (k:Nat)(xs:List V):E.Firm (.own k xs):=rfl
attribute [simp] firm_any firm_val firm_lp firm_own calm_firm inval_firm noMem_firm noLoc_firm noLp_firm
attribute [simp] tame_any tame_val tame_lp calm_any calm_val calm_lp calm_own calm_bs calm_bm calm_bl calm_tame inval_any inval_val inval_lp inval_own inval_bor inval_tame noMem_any noMem_val noMem_lp noMem_own noMem_bs noMem_bm noMem_bl noMem_tame
attribute [simp] noLoc_any noLoc_val noLoc_lp noLoc_own noLoc_bs noLoc_bm noLoc_bl noLoc_tame noLp_any noLp_val noLp_lp noLp_own noLp_bs noLp_bm noLp_bl noLp_tame weak_any weak_val weak_lp weak_own weak_bor weak_tame still_any still_val still_lp still_own still_bs still_bm still_bl still_tame
attribute [simp] litE litV nilRefs nilRef frzOut stepM frzM frzStep E.melt marked stepE stepOp Fr.clear mapR_eq take upE Fr.putO Fr.put_def Fr.map_def Fr.raw_def Fr.get_def Fr.lend Fr.op lk ins lset constV constVs V.toE builtinStep lenE elemsOf okV okE E.v? V.strip binV E.int? E.bool? appendStep appended baseOf resultsOut resultE V.strip1 V.one sizesOk consume unV sliceStep boundOf clip indexAddrStep indexStep addrAdd loadAt placeOf loadCs cellE storeAt splice E.cells? V.cells vsOf retE V.flat flats St.obj St.set boxCells Fr.loc_def Fr.setLoc_def E.part? buildCells buildSliceV fillV chunk elemV convV minMax eqV strBin partV
def qA (d:Nat)(b:Bool)(t:Nat):Oper:=op1 d (.assign (.const (.bool b))) t
@[simp] theorem qA_def (d:Nat)(b:Bool)(t:Nat):qA d b t=op1 d (.assign (.const (.bool b))) t:=rfl
def qI (d:Nat)(n:Int)(t:Nat):Oper:=op1 d (.assign (.const (.int .i64 n))) t
@[simp] theorem qI_def (d:Nat)(n:Int)(t:Nat):qI d n t=op1 d (.assign (.const (.int .i64 n))) t:=rfl
def qN (d:Nat)(t:Nat):Oper:=op1 d (.assign (.const (.slice none 0 0))) t
@[simp] theorem qN_def (d:Nat)(t:Nat):qN d t=op1 d (.assign (.const (.slice none 0 0))) t:=rfl
def qB (d:Nat)(o:BinOp)(s x:Nat)(n:Int)(u t:Nat):Oper:=op1 d (.binOp o s (.tmp x) (.const (.int .i64 n)) u) t
@[simp] theorem qB_def (d:Nat)(o:BinOp)(s x:Nat)(n:Int)(u t:Nat):qB d o s x n u t=op1 d (.binOp o s (.tmp x) (.const (.int .i64 n)) u) t:=rfl
def qP (d x y:Nat)(b:Bool)(t:Nat):Oper:=op1 d (.pick (.tmp x) (.tmp y) (.const (.bool b))) t
@[simp] theorem qP_def (d x y:Nat)(b:Bool)(t:Nat):qP d x y b t=op1 d (.pick (.tmp x) (.tmp y) (.const (.bool b))) t:=rfl
def qQ (d x:Nat)(b:Bool)(y t:Nat):Oper:=op1 d (.pick (.tmp x) (.const (.bool b)) (.tmp y)) t
@[simp] theorem qQ_def (d x:Nat)(b:Bool)(y t:Nat):qQ d x b y t=op1 d (.pick (.tmp x) (.const (.bool b)) (.tmp y)) t:=rfl
def qF (d s x n t:Nat):Oper:=op1 d (.fieldAddr s (.tmp x) n) t
@[simp] theorem qF_def (d s x n t:Nat):qF d s x n t=op1 d (.fieldAddr s (.tmp x) n) t:=rfl
def qS (d s x t:Nat):Oper:=op1 d (.buildSlice s 1 #[(0,(.tmp x))]) t
@[simp] theorem qS_def (d s x t:Nat):qS d s x t=op1 d (.buildSlice s 1 #[(0,(.tmp x))]) t:=rfl
def qE (d x y s t:Nat):Oper:=op1 d (.call {callee:=(.builtin .append),args:=#[(.tmp x),(.tmp y)],argTypes:=#[s,s]}) t
@[simp] theorem qE_def (d x y s t:Nat):qE d x y s t=op1 d (.call {callee:=(.builtin .append),args:=#[(.tmp x),(.tmp y)],argTypes:=#[s,s]}) t:=rfl
def qm (d x t g:Nat)(b:Bool):Oper:=mk (some d) (.move (.tmp x)) t (some (g,b))
@[simp] theorem qm_def (d x t g:Nat)(b:Bool):qm d x t g b=mk (some d) (.move (.tmp x)) t (some (g,b)):=rfl
def ql (d s x t g:Nat)(b:Bool):Oper:=mk (some d) (.load s (.tmp x)) t (some (g,b))
@[simp] theorem ql_def (d s x t g:Nat)(b:Bool):ql d s x t g b=mk (some d) (.load s (.tmp x)) t (some (g,b)):=rfl
def qf (d s x n t g:Nat)(b:Bool):Oper:=mk (some d) (.fieldAddr s (.tmp x) n) t (some (g,b))
@[simp] theorem qf_def (d s x n t g:Nat)(b:Bool):qf d s x n t g b=mk (some d) (.fieldAddr s (.tmp x) n) t (some (g,b)):=rfl
def qb (d:Nat)(o:BinOp)(s x y u t g:Nat)(b:Bool):Oper:=mk (some d) (.binOp o s (.tmp x) (.tmp y) u) t (some (g,b))
@[simp] theorem qb_def (d:Nat)(o:BinOp)(s x y u t g:Nat)(b:Bool):qb d o s x y u t g b=mk (some d) (.binOp o s (.tmp x) (.tmp y) u) t (some (g,b)):=rfl
def qc (d:Nat)(o:BinOp)(s x:Nat)(n:Int)(u t g:Nat)(b:Bool):Oper:=mk (some d) (.binOp o s (.tmp x) (.const (.int .i64 n)) u) t (some (g,b))
@[simp] theorem qc_def (d:Nat)(o:BinOp)(s x:Nat)(n:Int)(u t g:Nat)(b:Bool):qc d o s x n u t g b=mk (some d) (.binOp o s (.tmp x) (.const (.int .i64 n)) u) t (some (g,b)):=rfl
def qi (d s x y t g:Nat)(b:Bool):Oper:=mk (some d) (.indexAddr s (.tmp x) (.tmp y)) t (some (g,b))
@[simp] theorem qi_def (d s x y t g:Nat)(b:Bool):qi d s x y t g b=mk (some d) (.indexAddr s (.tmp x) (.tmp y)) t (some (g,b)):=rfl
def qe (d x s t g:Nat)(b:Bool):Oper:=mk (some d) (.call {callee:=(.builtin .len),args:=#[(.tmp x)],argTypes:=#[s]}) t (some (g,b))
@[simp] theorem qe_def (d x s t g:Nat)(b:Bool):qe d x s t g b=mk (some d) (.call {callee:=(.builtin .len),args:=#[(.tmp x)],argTypes:=#[s]}) t (some (g,b)):=rfl
end Go.Ab
namespace Go.Ab
open Go
structure Fl where
 q:Bool
 ps:Bool
 strong:Bool
 tame:Bool
 thn:Bool
 semi:Bool
 mild:Bool
 pair:Bool
 any:Bool
 bc:Bool
 els:List Nat
variable {g:G} {fi:FI}
def elsOf (fi:FI)(ops:Array Oper)(k:Nat)(o:Oper):List Nat :=
 (List.range ops.size).filterMap fun j=>match ops[j]? with
  | some oj=>if elseP fi ops k o j oj && !ordB ops j k then locSt fi oj else none
  | none=>none
theorem els_all (g:G)(fi:FI)(ops:Array Oper)(k:Nat)(o:Oper)(e:E):elseOk g fi ops k o e=((!besideCall g fi ops k || isLp e) && (elsOf fi ops k o).all fun a=>otherE a e):=by
 unfold elseOk elsOf
 congr 1
 generalize List.range ops.size=l
 induction l with
 | nil=>rfl
 | cons j l ih =>
  rw [List.all_cons,ih,List.filterMap_cons]
  cases ops[j]? with
  | none=>simp
  | some oj =>
   simp only
   cases h:(elseP fi ops k o j oj && !ordB ops j k) with
   | false=>simp
   | true =>
    simp only [if_true,Bool.not_true,Bool.false_or]
    cases locSt fi oj <;> simp
noncomputable def flagsOf (g:G)(fi:FI)(ops:Array Oper)(k:Nat)(o:Oper):Fl :=
 ⟨isQM g fi o,pivotB ops k || semiM fi o,strongB g fi ops k,tameB fi ops k o,thenB ops k,semiM fi o,mildFor g fi ops k,strongP g fi ops k,elseAny fi ops k o,besideCall g fi ops k,elsOf fi ops k o⟩
noncomputable def rowsOf (g:G)(fi:FI)(ops:Array Oper):List Oper→Nat→List (Oper × Fl)
 | [],_=>[]
 | o :: l,k=>(mini1 o,flagsOf g fi ops k o) :: rowsOf g fi ops l (k+1)
noncomputable def weakX (m bc:Bool)(els:List Nat)(o:Oper)(fr:Fr):Bool :=
 match o.op with
 | .load _ x=>(match fr.op x with | .val (.ep _)=>true | _=>false) || (m && ((!bc || isLp (fr.op x)) && els.all fun a=>otherE a (fr.op x)))
 | .call {callee:=.value x,args,..}=>match fr.op x,vsOf (args.toList.map fr.op) with
  | .val (.func _ first cap),some vs=>flats (first ++ vs ++ cap)
  | _,_=>false
 | _=>true
theorem weakX_eq (ops:Array Oper)(k:Nat)(o:Oper)(fr:Fr):weakOk g fi ops k o fr=weakX (mildFor g fi ops k) (besideCall g fi ops k) (elsOf fi ops k o) o fr:=by
 unfold weakOk weakX
 cases o.op
 case load t x =>
  simp only [els_all]
  cases fr.op x with
  | val v=>cases v <;> rfl
  | _=>rfl
 case call c =>
  obtain ⟨callee,args,ats⟩:=c
  cases callee with
  | value x =>
   simp only
   cases fr.op x with
   | val v =>
    cases v with
    | func f a b=>cases vsOf (args.toList.map fr.op) <;> rfl
    | _=>rfl
   | _=>rfl
  | _=>rfl
 all_goals rfl
noncomputable def stepX (g:G)(fi:FI)(call:Calling)(ops:Array Oper)(k:Nat)(F:Fl)(fr:Fr)(st:St)(o:Oper):Option (List (Nat × E)) :=
 match o.op,o.dst with
 | .move (.tmp u),some t=>match fr.get u with
  | .own n xs=>if borOk ops k u t then some [(t,.bor n xs (.slot u))] else some [(t,.val (.slice xs))]
  | e=>if F.strong then some [(t,e.still)] else some [(t,e.weak)]
 | .assign (.tmp q),some t=>match fr.get q with
  | .own n xs=>if handOk ops k q && !(q == t) then some [(q,.val (.slice xs)),(t,upE g o.type (.own n xs))] else some [(t,.val (.slice xs))]
  | e=>if F.strong then some [(t,e.still)] else some [(t,e.weak)]
 | _,d=>match stepQ g fi call fr st o with
  | some e=>if F.strong then some (d.toList.map fun s=>(s,e)) else if weakX F.mild F.bc F.els o fr then some (d.toList.map fun s=>(s,e.weak)) else none
  | none=>none
noncomputable def evalX (g:G)(fi:FI)(call:Calling)(ops:Array Oper)(ds:List (Option Nat)):List (Oper × Fl)→Nat→Fr→St→Option Rg
 | [],_,fr,st=>some (.ok fr st)
 | (o,F) :: os,k,fr,st =>
  match wantedD ds o fr with
  | some true =>
   if F.q then
    match stepX g fi call ops k F fr st o with
    | some y=>evalX g fi call ops ds os (k+1) (fr.puts y) st
    | none=>none
   else if F.ps && ((F.strong || (F.pair && plainSt fr o)) && (!F.any || plainSt fr o)) && (!F.tame || idleStore g fr st o) then
    match stepM g fi call fr st o with
    | some (.ok e fr st)=>evalX g fi call ops ds os (k+1) (if F.semi then fr.putO o.dst e else (fr.putO o.dst e).calm) st
    | some (.pan v st)=>if F.thn then some (.pan v st) else none
    | none=>none
   else none
  | some false=>evalX g fi call ops ds os (k+1) (fr.putO o.dst (.val (.tuple []))) st
  | none=>none
theorem stepX_eq (call:Calling)(ops:Array Oper)(k:Nat)(fr:Fr)(st:St)(o:Oper):stepW g fi call ops k fr st o=stepX g fi call ops k (flagsOf g fi ops k o) fr st (mini1 o):=by
 have hw:∀ k o fr,weakOk g fi ops k o fr=weakX (mildFor g fi ops k) (besideCall g fi ops k) (elsOf fi ops k o) o fr:=fun k o fr=>weakX_eq ops k o fr
 obtain ⟨d,op,t,p,a,gd⟩:=o
 unfold stepW stepX
 simp only [hw]
 rfl
theorem wantedD_mini (ds:List (Option Nat))(o:Oper)(fr:Fr):wantedD ds (mini1 o) fr=wantedD ds o fr:=rfl
theorem idle_mini (fr:Fr)(st:St)(o:Oper):idleStore g fr st (mini1 o)=idleStore g fr st o:=rfl
theorem evalX_eq (call:Calling)(ops:Array Oper):∀ (l:List Oper) (k:Nat) (fr:Fr) (st:St),evalDraw g fi call ops l k fr st=evalX g fi call ops (ops.toList.map (·.dst)) (rowsOf g fi ops l k) k fr st
 | [],_,_,_=>rfl
 | o :: l,k,fr,st=>by
  unfold evalDraw rowsOf evalX
  rw [wantedD_eq,wantedD_mini]
  cases wantedD (ops.toList.map (·.dst)) o fr with
  | none=>rfl
  | some b =>
   cases b with
   | false=>exact evalX_eq call ops l _ _ _
   | true =>
    simp only
    rw [stepX_eq,stepM_mini,idle_mini]
    have e:(mini1 o).dst=o.dst:=rfl
    rw [e]
    show (if isQM g fi o then _ else if (pivotB ops k || semiM fi o) && firm g fi ops k o fr && (!tameB fi ops k o || idleStore g fr st o) then _ else none)=(if isQM g fi o then _ else if (pivotB ops k || semiM fi o) && firm g fi ops k o fr && (!tameB fi ops k o || idleStore g fr st o) then _ else none)
    by_cases h1:isQM g fi o=true
    ·rw [if_pos h1,if_pos h1]
     cases stepX g fi call ops k (flagsOf g fi ops k o) fr st (mini1 o) with
     | none=>rfl
     | some y=>exact evalX_eq call ops l _ _ _
    ·rw [if_neg h1,if_neg h1]
     split
     ·cases stepM g fi call fr st o with
      | none=>rfl
      | some r =>
       cases r with
       | ok e fr st=>exact evalX_eq call ops l _ _ _
       | pan v st=>rfl
     ·rfl
noncomputable def drwK (g:G)(fi:FI)(ops:Array Oper)(ds:List (Option Nat))(rows:List (Oper × Fl))(j:Nat)(fr:Fr)(st:St)(fb:Fr)(k:Kt):Option (Out × St):=finK g fi k (regOut (evalX g fi (EvF g) ops ds rows j fr st) fb)
noncomputable def dwK (g:G)(fi:FI)(t:Option Bool)(ops:Array Oper)(ds:List (Option Nat))(o:Oper)(F:Fl)(rows:List (Oper × Fl))(j:Nat)(fr:Fr)(st:St)(fb:Fr)(k:Kt):Option (Out × St) :=
 match t with
 | some true=>finK g fi k (regOut (if F.q then
    match stepX g fi (EvF g) ops j F fr st o with
    | some y=>evalX g fi (EvF g) ops ds rows (j+1) (fr.puts y) st
    | none=>none
   else if F.ps && ((F.strong || (F.pair && plainSt fr o)) && (!F.any || plainSt fr o)) && (!F.tame || idleStore g fr st o) then
    match stepM g fi (EvF g) fr st o with
    | some (.ok e fr st)=>evalX g fi (EvF g) ops ds rows (j+1) (if F.semi then fr.putO o.dst e else (fr.putO o.dst e).calm) st
    | some (.pan v st)=>if F.thn then some (.pan v st) else none
    | none=>none
   else none) fb)
 | some false=>drwK g fi ops ds rows (j+1) (fr.putO o.dst (.val (.tuple []))) st fb k
 | none=>finK g fi k none
noncomputable def dqK (g:G)(fi:FI)(y:Option (List (Nat × E))) (ops:Array Oper) (ds:List (Option Nat)) (rows:List (Oper × Fl)) (j:Nat) (fr:Fr) (st:St) (fb:Fr) (k:Kt):Option (Out × St) :=
 finK g fi k (regOut (match y with
    | some y=>evalX g fi (EvF g) ops ds rows j (fr.puts y) st
    | none=>none) fb)
noncomputable def deK (g:G)(fi:FI)(r:Option Rs)(semi thn:Bool)(d:Option Nat)(ops:Array Oper)(ds:List (Option Nat))(rows:List (Oper × Fl))(j:Nat)(fb:Fr)(k:Kt):Option (Out × St) :=
 finK g fi k (regOut (match r with
    | some (.ok e fr st)=>evalX g fi (EvF g) ops ds rows j (if semi then fr.putO d e else (fr.putO d e).calm) st
    | some (.pan v st)=>if thn then some (.pan v st) else none
    | none=>none) fb)
theorem evK_draw {c:Code} (i:Nat)(ops:Array Oper)(rows:List (Oper × Fl))(fr:Fr)(st:St)(k:Kt)(hc:c=.region i ops true)(hl:Region.lexB .any ops=true)(hr:rowsOf g fi ops ops.toList 0=rows) :
  evK g fi c fr st k=drwK g fi ops (ops.toList.map (·.dst)) rows 0 fr.clear st fr k:=by
 subst hc;subst hr
 unfold evK drwK
 simp only [EvC,if_true,hl]
 rw [evalX_eq]
theorem rows_dst (ops:Array Oper):∀ (l:List Oper) (k:Nat),(rowsOf g fi ops l k).map (·.1.dst)=l.map (·.dst)
 | [],_=>rfl
 | o :: l,k=>by rw [rowsOf,List.map_cons,List.map_cons,rows_dst ops l (k+1)];rfl
noncomputable def drwR (g:G)(fi:FI)(ops:Array Oper)(rows:List (Oper × Fl))(fr:Fr)(st:St)(k:Kt):Option (Out × St):=drwK g fi ops (rows.map (·.1.dst)) rows 0 fr.clear st fr k
theorem drwR_def (ops:Array Oper)(rows:List (Oper × Fl))(fr:Fr)(st:St)(k:Kt):drwR g fi ops rows fr st k=drwK g fi ops (rows.map (·.1.dst)) rows 0 fr.clear st fr k:=rfl
theorem evK_dr {c:Code} (i:Nat) {ops:Array Oper} {rows:List (Oper × Fl)} {fr:Fr} {st:St} {k:Kt} (hc:c=.region i ops true)(hl:Region.lexB .any ops=true)(hr:rowsOf g fi ops ops.toList 0=rows):evK g fi c fr st k=drwR g fi ops rows fr st k:=by
 rw [evK_draw i ops rows fr st k hc hl hr,← rows_dst (g:=g) (fi:=fi) ops ops.toList 0,hr];rfl
theorem drwK_nil (ops:Array Oper)(ds:List (Option Nat))(j:Nat)(fr:Fr)(st:St)(fb:Fr)(k:Kt):drwK g fi ops ds [] j fr st fb k=nextK g fi k .normal fr st:=rfl
theorem drwK_cons (ops:Array Oper)(ds:List (Option Nat))(o:Oper)(F:Fl)(rows:List (Oper × Fl))(j:Nat)(fr:Fr)(st:St)(fb:Fr)(k:Kt):drwK g fi ops ds ((o,F) :: rows) j fr st fb k=dwK g fi (wantedD ds o fr) ops ds o F rows j fr st fb k:=by
 unfold drwK dwK
 rw [evalX]
 cases wantedD ds o fr with
 | none=>rfl
 | some b=>cases b <;> rfl
theorem dwK_false (ops:Array Oper)(ds:List (Option Nat))(o:Oper)(F:Fl)(rows:List (Oper × Fl))(j:Nat)(fr:Fr)(st:St)(fb:Fr)(k:Kt):dwK g fi (some false) ops ds o F rows j fr st fb k=drwK g fi ops ds rows (j+1) (fr.putO o.dst (.val (.tuple []))) st fb k:=rfl
theorem dwK_true (ops:Array Oper)(ds:List (Option Nat))(o:Oper)(F:Fl)(rows:List (Oper × Fl))(j:Nat)(fr:Fr)(st:St)(fb:Fr)(k:Kt):dwK g fi (some true) ops ds o F rows j fr st fb k =
  if F.q then dqK g fi (stepX g fi (EvF g) ops j F fr st o) ops ds rows (j+1) fr st fb k
  else if F.ps && ((F.strong || (F.pair && plainSt fr o)) && (!F.any || plainSt fr o)) && (!F.tame || idleStore g fr st o) then deK g fi (stepM g fi (EvF g) fr st o) F.semi F.thn o.dst ops ds rows (j+1) fb k
  else finK g fi k none:=by
 unfold dwK dqK deK
 by_cases h:F.q=true
 ·simp only [h,if_true]
 ·simp only [h,if_false,Bool.false_eq_true]
  by_cases h2:(F.ps && ((F.strong || (F.pair && plainSt fr o)) && (!F.any || plainSt fr o)) && (!F.tame || idleStore g fr st o))=true
  ·rw [if_pos h2,if_pos h2]
  ·rw [if_neg h2,if_neg h2];rfl
theorem dwK_iff (t:Bool)(ops:Array Oper)(ds:List (Option Nat))(o:Oper)(F:Fl)(rows:List (Oper × Fl))(j:Nat)(fr:Fr)(st:St)(fb:Fr)(k:Kt)(r:Option (Out × St)) :
  (dwK g fi (some t) ops ds o F rows j fr st fb k=r)=((t=true→dwK g fi (some true) ops ds o F rows j fr st fb k=r)∧(t=false→drwK g fi ops ds rows (j+1) (fr.putO o.dst (.val (.tuple []))) st fb k=r)):=by
 cases t <;> simp [dwK_false]
theorem dqK_some (y:List (Nat × E))(ops:Array Oper)(ds:List (Option Nat))(rows:List (Oper × Fl))(j:Nat)(fr:Fr)(st:St)(fb:Fr)(k:Kt):dqK g fi (some y) ops ds rows j fr st fb k=drwK g fi ops ds rows j (fr.puts y) st fb k:=rfl
theorem deK_ok (e:E)(fr:Fr)(st:St)(semi thn:Bool)(d:Option Nat)(ops:Array Oper)(ds:List (Option Nat))(rows:List (Oper × Fl))(j:Nat)(fb:Fr)(k:Kt):deK g fi (some (.ok e fr st)) semi thn d ops ds rows j fb k=drwK g fi ops ds rows j (if semi then fr.putO d e else (fr.putO d e).calm) st fb k:=rfl
theorem deK_pan (v:V)(st:St)(semi:Bool)(d:Option Nat)(ops:Array Oper)(ds:List (Option Nat))(rows:List (Oper × Fl))(j:Nat)(fb:Fr)(k:Kt):deK g fi (some (.pan v st)) semi true d ops ds rows j fb k=nextK g fi k (.pan v) fb st:=rfl
theorem dqK_iff (t:Prop) [Decidable t] (s:Nat) (e e':E) (ops:Array Oper) (ds:List (Option Nat)) (rows:List (Oper × Fl)) (j:Nat) (fr:Fr) (st:St) (fb:Fr) (k:Kt) (r:Option (Out × St)) :
  (dqK g fi (some [(s,if t then e else e')]) ops ds rows j fr st fb k=r)=((t→drwK g fi ops ds rows j (fr.put s e) st fb k=r)∧(¬ t→drwK g fi ops ds rows j (fr.put s e') st fb k=r)):=by
 by_cases h:t <;> simp [h,dqK_some,Fr.puts]
theorem calm_ite (t:Prop) [Decidable t] (e e':E):(if t then e else e').calm=if t then e.calm else e'.calm:=by split <;> rfl
theorem otherE_lp (a s o:Nat):otherE a (.lp s o)=!(s == a):=rfl
theorem otherE_val (a:Nat)(v:V):otherE a (.val v)=true:=rfl
theorem isLp_lp (s o:Nat):isLp (.lp s o)=true:=rfl
attribute [simp] drwR_def isLp_lp otherE_lp otherE_val plainSt idleStore eqPlains eqPlain drwK_nil drwK_cons dwK_false dwK_true dwK_iff dqK_some dqK_iff deK_ok deK_pan stepX weakX stepQ quietOp freeApp freeQ freeStep Fr.puts Fr.calm calm_ite
@[simp] def qz0 : Fl := ⟨true,false,true,false,false,false,true,true,false,false,[]⟩
@[simp] def qz1 : Fl := ⟨true,true,true,false,false,true,true,true,false,false,[]⟩
@[simp] def qz2 : Fl := ⟨true,false,false,false,false,false,true,false,false,false,[]⟩
@[simp] def qz3 : Fl := ⟨true,false,true,false,true,false,true,true,false,false,[]⟩
@[simp] def qz4 : Fl := ⟨false,true,true,false,true,true,true,true,false,false,[]⟩
@[simp] def qz5 : Fl := ⟨true,true,true,false,true,false,true,true,false,false,[]⟩
@[simp] def qz6 : Fl := ⟨true,true,true,false,true,true,true,true,false,false,[]⟩
@[simp] def qz7 : Fl := ⟨true,false,false,false,false,false,false,false,false,false,[]⟩
@[simp] def qz8 : Fl := ⟨false,true,true,false,false,true,true,true,false,false,[]⟩
@[simp] def qz9 : Fl := ⟨true,false,false,false,true,false,true,false,false,false,[]⟩
@[simp] def qz10 : Fl := ⟨true,false,false,false,false,false,true,false,false,true,[]⟩
@[simp] def qz11 : Fl := ⟨true,false,false,false,true,false,false,false,false,false,[]⟩
end Go.Ab
