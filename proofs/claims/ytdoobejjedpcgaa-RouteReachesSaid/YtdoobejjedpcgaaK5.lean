/- Forwarded from any broker an event comes to each broker once at most, to each where a Sub takes it, and to none behind which there is no such one. Part 5. -/
import Derived.Test.YtdoobejjedpcgaaK4
set_option linter.unusedVariables false
set_option linter.unusedSimpArgs false
set_option linter.unnecessarySimpa false
set_option maxHeartbeats 8000000
set_option maxRecDepth 20000
open Int renaming not_le → zil, not_lt → zit, natCast_add → zia
open Nat renaming not_le → znl, not_lt → znt
open List renaming getElem?_eq_getElem → zge, getElem?_eq_some_iff → zgs, append_assoc → zaa, mem_of_getElem? → zmg, length_append → zla
namespace Go.Ab
open Go
theorem pair_fv {a b:Val} {ra rb:Option (Int × Int)} (ha:FV a ra)(hb:FV b rb):okPair (a,ra) (b,rb)=true :=
 List.all_eq_true.1 (List.all_eq_true.1 pairs_ok _ ha) _ hb
theorem cmp_fv {a b:Val} {ra rb:Option (Int × Int)} (ha:FV a ra)(hb:FV b rb):cmp a b=rcmp ra rb:=by
 have:=pair_fv ha hb
 simp only [okPair,Bool.and_eq_true,decide_eq_true_eq] at this
 exact this.1.1.1
theorem same_fv {a b:Val} {ra rb:Option (Int × Int)} (ha:FV a ra)(hb:FV b rb)(h:vsame a b=true):ra=rb:=by
 have:=pair_fv ha hb
 simp only [okPair,Bool.and_eq_true,h,Bool.not_true,Bool.false_or,decide_eq_true_eq] at this
 exact this.1.1.2
theorem pre_fv {a b:Val} {ra rb:Option (Int × Int)} (ha:FV a ra)(hb:FV b rb)(h1:a.kind=3)(h2:b.kind=3)(h:isPre a.s b.s=true):(cmp a b).1 ≥ 0:=by
 have:=pair_fv ha hb
 simp only [okPair,Bool.and_eq_true,h,h1,h2,decide_true,Bool.and_self,Bool.not_true,Bool.false_or,decide_eq_true_eq] at this
 exact this.1.2
theorem vis_s {a b:Val} {ra rb:Option (Int × Int)} (ha:FV a ra)(hb:FV b rb)(h:vis a b=true):a.s=b.s∧(a.kind=3)=(b.kind=3):=by
 have:=pair_fv ha hb
 simp only [okPair,Bool.and_eq_true,h,Bool.not_true,Bool.false_or,decide_eq_true_eq] at this
 exact this.2
theorem sgn_zero {x y:Int}:sgn (decide (x<y)) (decide (x > y))=0↔x=y:=by
 unfold sgn
 by_cases h1:x<y
 ·simp [h1];omega
 ·by_cases h2:x > y
  ·simp [h1,h2];omega
  ·simp [h1,h2];omega
theorem sgn_pos {x y:Int}:sgn (decide (x<y)) (decide (x > y)) > 0↔x > y:=by
 unfold sgn
 by_cases h1:x<y
 ·simp [h1];omega
 ·by_cases h2:x > y
  ·simp [h1,h2]
  ·simp [h1,h2]
theorem sgn_neg {x y:Int}:sgn (decide (x<y)) (decide (x > y))<0↔x<y:=by
 unfold sgn
 by_cases h1:x<y
 ·simp [h1]
 ·by_cases h2:x > y
  ·simp [h1,h2]
  ·simp [h1,h2]
theorem vis_fv {a b:Val} {ra rb:Option (Int × Int)} (ha:FV a ra)(hb:FV b rb)(h:vis a b=true):ra=rb:=by
 unfold vis at h
 rw [cmp_fv ha hb] at h
 cases ra with
 | none=>simp [rcmp] at h
 | some r =>
  cases rb with
  | none=>simp [rcmp] at h
  | some s =>
   obtain ⟨c,x⟩:=r
   obtain ⟨d,y⟩:=s
   unfold rcmp at h
   by_cases hcd:c=d
   ·subst hcd
    simp only [if_true,Bool.true_and,decide_eq_true_eq,sgn_zero] at h
    rw [h]
   ·simp [hcd] at h
structure PFV (p:Pred):Prop where
 v:∃ r,FV p.v r
 w:∃ r,FV p.w r
 set:∀ x∈p.set,∃ r,FV x r
theorem any_congr {l:List Val} {f g:Val→Bool} (h:∀ y∈l,f y=g y):l.any f=l.any g:=by
 induction l with
 | nil=>rfl
 | cons a r ih=>rw [List.any_cons,List.any_cons,h a (by simp),ih (fun y hy=>h y (by simp [hy]))]
theorem ptakes_congr {p:Pred} {v x:Val} (h1:cmp v p.v=cmp x p.v)(h2:cmp v p.w=cmp x p.w)(h3:∀ y∈p.set,vis v y=vis x y)(hk:(v.kind=3)=(x.kind=3))(hs:v.s=x.s):ptakes p v=ptakes p x:=by
 unfold ptakes
 rw [h1,h2,hs,any_congr h3]
 simp only [hk]
theorem takes_vis {p:Pred} {v x:Val} {rv rx:Option (Int × Int)} (hp:PFV p)(hv:FV v rv)(hx:FV x rx)(h:vis v x=true):ptakes p v=ptakes p x:=by
 have e:=vis_fv hv hx h
 subst e
 obtain ⟨hs,hk⟩:=vis_s hv hx h
 obtain ⟨r1,h1⟩:=hp.v
 obtain ⟨r2,h2⟩:=hp.w
 refine ptakes_congr ?_ ?_ ?_ hk hs
 ·rw [cmp_fv hv h1,cmp_fv hx h1]
 ·rw [cmp_fv hv h2,cmp_fv hx h2]
 ·intro y hy
  obtain ⟨r3,h3⟩:=hp.set y hy
  unfold vis
  rw [cmp_fv hv h3,cmp_fv hx h3]
theorem nan_none {x:Val} (h:vnan x=true)(v:Val):(cmp v x).2=false:=by
 unfold vnan at h
 simp only [Bool.and_eq_true,decide_eq_true_eq,Bool.not_eq_true'] at h
 obtain ⟨h1,h2⟩:=h
 unfold cmp
 by_cases a1:v.kind=1
 ·simp [a1,h1,icmp,h2]
 ·by_cases a2:v.kind=2
  ·simp [a2,h1,fcmp,h2]
  ·simp [a1,a2,h1]
theorem void_none {q:Pred} {v:Val} (hq:PFV q)(hv:∃ r,FV v r)(h:pvoid q=true):ptakes q v=false:=by
 unfold pvoid at h
 unfold ptakes
 cases hr:pright q with
 | false=>rfl
 | true =>
  rw [hr] at h
  simp only [if_true] at h ⊢
  by_cases h2:q.test=2∨(4≤q.test∧q.test≤7)
  ·rw [if_pos h2] at h
   have e:=nan_none h v
   rcases h2 with h2 | ⟨h2,h3⟩
   ·simp [h2,e]
   ·have:q.test=4∨q.test=5∨q.test=6∨q.test=7:=by omega
    rcases this with t | t | t | t <;> simp [t,e]
  ·rw [if_neg h2] at h
   by_cases h8:q.test=8
   ·rw [if_pos h8] at h
    obtain ⟨r1,h1⟩:=hq.v
    obtain ⟨r2,h2⟩:=hq.w
    obtain ⟨r,hv⟩:=hv
    rw [cmp_fv h1 h2] at h
    rw [cmp_fv hv h1,cmp_fv hv h2]
    simp [h8]
    intro a1 a2 a3
    cases r with
    | none=>simp [rcmp] at a1
    | some r =>
     obtain ⟨c,x⟩:=r
     cases r1 with
     | none=>simp [rcmp] at a1
     | some r1 =>
      obtain ⟨c1,x1⟩:=r1
      cases r2 with
      | none=>simp [rcmp] at a3
      | some r2 =>
       obtain ⟨c2,x2⟩:=r2
       by_cases e1:c=c1
       ·by_cases e2:c=c2
        ·subst e1;subst e2
         simp only [rcmp,if_true,Bool.not_true,Bool.false_or,decide_eq_true_eq,sgn_pos] at h a2 ⊢
         have b1:¬ sgn (decide (x<x1)) (decide (x > x1))<0:=by omega
         rw [sgn_neg] at b1
         have b2:sgn (decide (x<x2)) (decide (x > x2)) > 0:=sgn_pos.2 (by omega)
         omega
        ·simp [rcmp,e2] at a3
       ·simp [rcmp,e1] at a1
   ·rw [if_neg h8] at h
    by_cases h10:q.test=10
    ·rw [if_pos h10] at h
     simp [h10]
     intro x hx
     have:=nan_none (List.all_eq_true.1 h x hx) v
     unfold vis
     rw [this];rfl
    ·rw [if_neg h10] at h;cases h
def inLow (v:Val)(e:PEnd):Bool:=!e.is || ((cmp v e.v).2 && (decide ((cmp v e.v).1 > 0) || (decide ((cmp v e.v).1=0) && !e.op)))
def inHigh (v:Val)(e:PEnd):Bool:=!e.is || ((cmp v e.v).2 && (decide ((cmp v e.v).1<0) || (decide ((cmp v e.v).1=0) && !e.op)))
theorem takes_ends {r:Pred} (hr:pright r=true)(h1:4≤r.test)(h2:r.test≤8)(v:Val):ptakes r v=(inLow v (lowE r) && inHigh v (highE r)):=by
 unfold ptakes
 rw [hr]
 have:r.test=4∨r.test=5∨r.test=6∨r.test=7∨r.test=8:=by omega
 have t1:=cmp_tri v r.v
 have t2:=cmp_tri v r.w
 rcases this with t | t | t | t | t
 ·simp [t,inLow,inHigh,lowE,highE]
 ·simp [t,inLow,inHigh,lowE,highE];rcases t1 with e | e | e <;> simp [e]
 ·simp [t,inLow,inHigh,lowE,highE]
 ·simp [t,inLow,inHigh,lowE,highE];rcases t1 with e | e | e <;> simp [e]
 ·simp [t,inLow,inHigh,lowE,highE]
  rcases t1 with e | e | e <;> rcases t2 with e' | e' | e' <;> simp [e,e']
theorem low_sound {v:Val} {q p:PEnd} {rv rq rp:Option (Int × Int)} (hv:FV v rv)(hq:FV q.v rq)(hp:FV p.v rp)(hw:within q p 1=true)(h:inLow v q=true):inLow v p=true:=by
 unfold within at hw
 unfold inLow at h ⊢
 cases hpi:p.is with
 | false=>rfl
 | true =>
  rw [hpi] at hw
  cases hqi:q.is with
  | false=>rw [hqi] at hw;cases hw
  | true =>
   rw [hqi] at hw h
   simp only [if_true,Bool.not_true,Bool.false_or] at hw h ⊢
   rw [cmp_fv hv hq] at h
   rw [cmp_fv hq hp] at hw
   rw [cmp_fv hv hp]
   cases rv with
   | none=>simp [rcmp] at h
   | some rv =>
    cases rq with
    | none=>simp [rcmp] at h
    | some rq =>
     cases rp with
     | none=>simp [rcmp] at hw
     | some rp =>
      obtain ⟨c,x⟩:=rv
      obtain ⟨d,y⟩:=rq
      obtain ⟨e,z⟩:=rp
      by_cases e1:c=d
      ·by_cases e2:d=e
       ·subst e1;subst e2
        have key:∀ {a b:Int},sgn (decide (a<b)) (decide (a > b))=1↔a > b:=by
         intro a b
         have:=@sgn_pos a b
         have b2:=sgn_bound (decide (a<b)) (decide (a > b))
         omega
        simp only [rcmp,if_true,Bool.true_and,Bool.or_eq_true,Bool.and_eq_true,decide_eq_true_eq,sgn_pos,sgn_zero,key] at h hw ⊢
        rcases h with h | ⟨h,ho⟩
        ·rcases hw with hw | ⟨hw,hx⟩
         ·exact Or.inl (by omega)
         ·exact Or.inl (by omega)
        ·rcases hw with hw | ⟨hw,hx⟩
         ·exact Or.inl (by omega)
         ·refine Or.inr ⟨by omega,?_⟩
          rcases hx with hx | hx
          ·exact hx
          ·rw [hx] at ho;cases ho
       ·simp [rcmp,e2] at hw
      ·simp [rcmp,e1] at h
theorem high_sound {v:Val} {q p:PEnd} {rv rq rp:Option (Int × Int)} (hv:FV v rv)(hq:FV q.v rq)(hp:FV p.v rp)(hw:within q p (-1)=true)(h:inHigh v q=true):inHigh v p=true:=by
 unfold within at hw
 unfold inHigh at h ⊢
 cases hpi:p.is with
 | false=>rfl
 | true =>
  rw [hpi] at hw
  cases hqi:q.is with
  | false=>rw [hqi] at hw;cases hw
  | true =>
   rw [hqi] at hw h
   simp only [if_true,Bool.not_true,Bool.false_or] at hw h ⊢
   rw [cmp_fv hv hq] at h
   rw [cmp_fv hq hp] at hw
   rw [cmp_fv hv hp]
   cases rv with
   | none=>simp [rcmp] at h
   | some rv =>
    cases rq with
    | none=>simp [rcmp] at h
    | some rq =>
     cases rp with
     | none=>simp [rcmp] at hw
     | some rp =>
      obtain ⟨c,x⟩:=rv
      obtain ⟨d,y⟩:=rq
      obtain ⟨e,z⟩:=rp
      by_cases e1:c=d
      ·by_cases e2:d=e
       ·subst e1;subst e2
        have key:∀ {a b:Int},sgn (decide (a<b)) (decide (a > b)) = -1↔a<b:=by
         intro a b
         have:=@sgn_neg a b
         have b2:=sgn_bound (decide (a<b)) (decide (a > b))
         omega
        simp only [rcmp,if_true,Bool.true_and,Bool.or_eq_true,Bool.and_eq_true,decide_eq_true_eq,sgn_neg,sgn_zero,key] at h hw ⊢
        rcases h with h | ⟨h,ho⟩
        ·rcases hw with hw | ⟨hw,hx⟩
         ·exact Or.inl (by omega)
         ·exact Or.inl (by omega)
        ·rcases hw with hw | ⟨hw,hx⟩
         ·exact Or.inl (by omega)
         ·refine Or.inr ⟨by omega,?_⟩
          rcases hx with hx | hx
          ·exact hx
          ·rw [hx] at ho;cases ho
       ·simp [rcmp,e2] at hw
      ·simp [rcmp,e1] at h
theorem pre_trans {a b c:List UInt8} (h1:isPre a b=true)(h2:isPre b c=true):isPre a c=true:=by
 unfold isPre at h1 h2 ⊢
 simp only [Bool.and_eq_true,decide_eq_true_eq] at h1 h2 ⊢
 refine ⟨by omega,?_⟩
 have:=congrArg (List.take c.length) h1.2
 rw [List.take_take,Nat.min_eq_left (by omega),h2.2] at this
 exact this
theorem sames_vis {v:Val} {rv:Option (Int × Int)} (hv:FV v rv):∀ {a b:List Val},(∀ x∈a,∃ r,FV x r)→(∀ x∈b,∃ r,FV x r)→sames a b=true→a.any (vis v)=b.any (vis v)
 | [],[],_,_,_=>rfl
 | x :: a,y :: b,ha,hb,h=>by
  simp only [sames,Bool.and_eq_true] at h
  obtain ⟨r1,h1⟩:=ha x (by simp)
  obtain ⟨r2,h2⟩:=hb y (by simp)
  have e:=same_fv h1 h2 h.1
  subst e
  rw [List.any_cons,List.any_cons,sames_vis hv (fun z hz=>ha z (by simp [hz])) (fun z hz=>hb z (by simp [hz])) h.2]
  unfold vis
  rw [cmp_fv hv h1,cmp_fv hv h2]
 | [],_ :: _,_,_,h=>by simp [sames] at h
 | _ :: _,[],_,_,h=>by simp [sames] at h
theorem sound {q p:Pred} {v:Val} (hq:PFV q)(hp:PFV p)(hv:∃ r,FV v r)(hi:pimplies q p=true)(ht:ptakes q v=true):ptakes p v=true:=by
 have hv':=hv
 obtain ⟨rv,fv⟩:=hv
 obtain ⟨rq,fq⟩:=hq.v
 obtain ⟨rp,fp⟩:=hp.v
 unfold pimplies at hi
 cases hqr:pright q with
 | false=>rw [hqr] at hi;cases hi
 | true =>
  cases hpr:pright p with
  | false=>rw [hqr,hpr] at hi;cases hi
  | true =>
   rw [hqr,hpr] at hi
   simp only [Bool.and_self,if_true] at hi
   cases hvd:pvoid q with
   | true=>rw [void_none hq hv' hvd] at ht;cases ht
   | false =>
    rw [hvd] at hi
    by_cases p1:p.test=1
    ·unfold ptakes;rw [hpr];simp [p1]
    ·simp only [p1,decide_false,Bool.false_or,Bool.false_eq_true,if_false] at hi
     split at hi
     ·rename_i hs
      simp only [Bool.and_eq_true,decide_eq_true_eq] at hs
      obtain ⟨hte,⟨s1,s2⟩,s3⟩:=hs
      obtain ⟨rq2,fq2⟩:=hq.w
      obtain ⟨rp2,fp2⟩:=hp.w
      have e1:=same_fv fq fp s1
      have e2:=same_fv fq2 fp2 s2
      subst e1;subst e2
      have hss:q.v.s=p.v.s:=by
       unfold vsame at s1;simp only [Bool.and_eq_true,decide_eq_true_eq] at s1;exact s1.1.1.2
      rw [← ht]
      unfold ptakes
      rw [hqr,hpr,hte,cmp_fv fv fq,cmp_fv fv fp,cmp_fv fv fq2,cmp_fv fv fp2,sames_vis fv hq.set hp.set s3,hss]
     ·split at hi
      ·rename_i p3
       cases hvi:vis v p.v with
       | false =>
        unfold ptakes;rw [hpr]
        unfold vis at hvi
        simp [p3]
        cases hc2:(cmp v p.v).2 with
        | false=>exact .inl rfl
        | true=>rw [hc2] at hvi;exact .inr (by simpa using hvi)
       | true =>
        rw [← takes_vis hq fv fp hvi,ht] at hi;cases hi
      ·split at hi
       ·rename_i q2
        have hvi:vis v q.v=true:=by
         unfold ptakes at ht;rw [hqr] at ht;simp [q2] at ht
         unfold vis;simp [ht]
        rw [takes_vis hp fv fq hvi];exact hi
       ·split at hi
        ·rename_i q10
         have ha:q.set.any (vis v)=true:=by
          unfold ptakes at ht;rw [hqr] at ht;simpa [q10] using ht
         obtain ⟨x,hx,hvx⟩:=List.any_eq_true.1 ha
         have:=List.all_eq_true.1 hi x hx
         obtain ⟨rx,fx⟩:=hq.set x hx
         rw [takes_vis hp fv fx hvx]
         cases hn:vnan x with
         | true =>
          have:=nan_none hn v
          unfold vis at hvx;rw [this] at hvx;cases hvx
         | false=>rw [hn] at this;simpa using this
        ·split at hi
         ·rename_i he
          rw [ended_key,ended_key] at he
          simp only [Bool.and_eq_true,decide_eq_true_eq] at he hi
          rw [takes_ends hqr he.1.1 he.1.2] at ht
          rw [takes_ends hpr he.2.1 he.2.2]
          simp only [Bool.and_eq_true] at ht ⊢
          have lowv:∀ {r:Pred},PFV r→∃ s,FV (lowE r).v s:=by
           intro r hr
           unfold lowE;repeat' split
           ·exact hr.v
           ·exact hr.v
           ·exact ⟨none,by unfold FV FVR;simp⟩
          have highv:∀ {r:Pred},PFV r→∃ s,FV (highE r).v s:=by
           intro r hr
           unfold highE;repeat' split
           ·exact hr.v
           ·exact hr.w
           ·exact ⟨none,by unfold FV FVR;simp⟩
          obtain ⟨_,l1⟩:=lowv hq
          obtain ⟨_,l2⟩:=lowv hp
          obtain ⟨_,l3⟩:=highv hq
          obtain ⟨_,l4⟩:=highv hp
          exact ⟨low_sound fv l1 l2 hi.1 ht.1,high_sound fv l3 l4 hi.2 ht.2⟩
         ·split at hi
          ·rename_i q9
           have h9:v.kind=3∧isPre v.s q.v.s=true:=by
            unfold ptakes at ht;rw [hqr] at ht;simpa [q9] using ht
           have k3:q.v.kind=3:=by
            unfold pright at hqr;simp [q9] at hqr;exact hqr.2.1.1.2
           split at hi
           ·rename_i p9
            unfold ptakes;rw [hpr];simp [p9,h9.1,pre_trans h9.2 hi]
           ·have hge:=pre_fv fv fq h9.1 k3 h9.2
            have there:(cmp v p.v).2=true→True:=fun _=>trivial
            rw [cmp_fv fv fq] at hge
            split at hi
            ·rename_i p7
             rw [cmp_fv fq fp] at hi
             unfold ptakes;rw [hpr];simp [p7]
             rw [cmp_fv fv fp]
             have k:∃ c x,rv=some (c,x)∧∃ y,rq=some (c,y):=by
              have hcv:(cmp v q.v).2=true:=by unfold cmp;simp [h9.1,k3]
              rw [cmp_fv fv fq] at hcv
              cases rv with
              | none=>simp [rcmp] at hcv
              | some a=>cases rq with
               | none=>simp [rcmp] at hcv
               | some b =>
                by_cases e:a.1=b.1
                ·exact ⟨a.1,a.2,rfl,b.2,by rw [e]⟩
                ·simp [rcmp,e] at hcv
             obtain ⟨c,x,rfl,y,rfl⟩:=k
             cases rp with
             | none=>simp [rcmp] at hi
             | some b =>
              obtain ⟨d,z⟩:=b
              by_cases e:c=d
              ·subst e
               simp [rcmp] at hi hge ⊢
               have a1:=@sgn_neg x y
               have a2:=@sgn_neg y z
               have a3:=@sgn_neg x z
               simp only [GT.gt] at a1 a2 a3
               omega
              ·simp [rcmp,e] at hi
            ·split at hi
             ·rename_i p6
              rw [cmp_fv fq fp] at hi
              unfold ptakes;rw [hpr];simp [p6]
              rw [cmp_fv fv fp]
              have k:∃ c x,rv=some (c,x)∧∃ y,rq=some (c,y):=by
               have hcv:(cmp v q.v).2=true:=by unfold cmp;simp [h9.1,k3]
               rw [cmp_fv fv fq] at hcv
               cases rv with
               | none=>simp [rcmp] at hcv
               | some a=>cases rq with
                | none=>simp [rcmp] at hcv
                | some b =>
                 by_cases e:a.1=b.1
                 ·exact ⟨a.1,a.2,rfl,b.2,by rw [e]⟩
                 ·simp [rcmp,e] at hcv
              obtain ⟨c,x,rfl,y,rfl⟩:=k
              cases rp with
              | none=>simp [rcmp] at hi
              | some b =>
               obtain ⟨d,z⟩:=b
               by_cases e:c=d
               ·subst e
                simp [rcmp] at hi hge ⊢
                have a1:=@sgn_neg x y
                have a2:=@sgn_pos y z
                have a3:=@sgn_pos x z
                simp only [GT.gt] at a1 a2 a3
                omega
               ·simp [rcmp,e] at hi
             ·cases hi
          ·cases hi
end Go.Ab
namespace Go.Ab
open Go
def VR (v:Val):Prop:=vright v=true∧∃ r,FV v r
def allVR:List Val:=(FVR.drop 1).map (·.1)
theorem all_right:allVR.all vright=true:=by kernel_rfl
theorem vr_mem {v:Val} (h:v∈allVR):VR v:=by
 refine ⟨List.all_eq_true.1 all_right v h,?_⟩
 unfold allVR at h
 obtain ⟨x,hx,rfl⟩:=List.mem_map.1 h
 exact ⟨x.2,List.mem_of_mem_drop hx⟩
def floatsR:List Val:=F14.map fun x=>⟨2,0,x,[],false⟩
def textsR:List Val:=T6.map fun s=>⟨3,0,0,s,false⟩
def intsR:List Val:=N6.map fun n=>⟨1,n,0,[],false⟩
theorem floats_in:(floatsR.all fun v=>allVR.contains v)=true:=by kernel_rfl
theorem texts_in:(textsR.all fun v=>allVR.contains v)=true:=by kernel_rfl
theorem ints_in:(intsR.all fun v=>allVR.contains v)=true:=by kernel_rfl
theorem smalls_in:((List.range 5).all fun n=>allVR.contains (⟨1,(n:Int),0,[],false⟩:Val))=true:=by kernel_rfl
theorem bools_in:([true,false].all fun b=>allVR.contains (⟨4,0,0,[],b⟩:Val))=true:=by kernel_rfl
theorem of_contains {l:List Val} {f:Val} (h:(l.all fun v=>allVR.contains v)=true)(hf:f∈l):VR f:=by
 have:=List.all_eq_true.1 h f hf
 exact vr_mem (by simpa using this)
theorem vr_float (l:List Int)(a j:Nat):VR ⟨2,0,floatV l a j,[],false⟩:=by
 have hb:=fd_bound l a j (n:=14) (by omega)
 refine of_contains floats_in ?_
 unfold floatsR floatV
 refine List.mem_map.2 ⟨_,?_,rfl⟩
 have hlt:(fd l a j 14).toNat<F14.length:=by show _<14;omega
 rw [List.getD_eq_getElem?_getD,zge hlt]
 exact List.getElem_mem hlt
theorem vr_text {n:Nat} (h:n<6):VR ⟨3,0,0,T6.getD n [],false⟩:=by
 refine of_contains texts_in ?_
 unfold textsR
 refine List.mem_map.2 ⟨_,?_,rfl⟩
 have hlt:n<T6.length:=h
 rw [List.getD_eq_getElem?_getD,zge hlt]
 exact List.getElem_mem hlt
theorem vr_int {n:Nat} (h:n<6):VR ⟨1,N6.getD n 0,0,[],false⟩:=by
 refine of_contains ints_in ?_
 unfold intsR
 refine List.mem_map.2 ⟨_,?_,rfl⟩
 have hlt:n<N6.length:=h
 rw [List.getD_eq_getElem?_getD,zge hlt]
 exact List.getElem_mem hlt
theorem vr_small {n:Int} (h0:0≤n)(h:n<5):VR ⟨1,n,0,[],false⟩:=by
 have:=List.all_eq_true.1 smalls_in n.toNat (List.mem_range.2 (by omega))
 rw [show ((n.toNat:Nat):Int)=n by omega] at this
 exact vr_mem (by simpa using this)
theorem vr_bool (b:Bool):VR ⟨4,0,0,[],b⟩:=by
 have:=List.all_eq_true.1 bools_in b (by cases b <;> simp)
 exact vr_mem (by simpa using this)
theorem vr_value (l:List Int)(a j:Nat):VR (valueV l a j):=by
 unfold valueV
 have h8:=fd_bound l a j (n:=8) (by omega)
 have h6:=fd_bound l a (j+1) (n:=6) (by omega)
 have h5:=fd_bound l a (j+1) (n:=5) (by omega)
 simp only
 repeat' split
 ·exact vr_float _ _ _
 ·exact vr_text (by omega)
 ·exact vr_bool _
 ·exact vr_int (by omega)
 ·exact vr_small (by omega) (by omega)
theorem vr_vals (l:List Int)(a:Nat):∀ (k j:Nat),∀ x∈valsV l a j k,VR x
 | 0,j,x,h=>by simp [valsV] at h
 | k+1,j,x,h=>by
  rcases List.mem_cons.1 h with rfl | h
  ·exact vr_value _ _ _
  ·exact vr_vals l a k _ x h
theorem vals_length (l:List Int)(a:Nat):∀ (k j:Nat),(valsV l a j k).length=k
 | 0,j=>rfl
 | k+1,j=>by simp [valsV,vals_length l a k]
theorem P4_in:(P4.all fun s=>T6.contains s)=true:=by kernel_rfl
theorem vr_P4 {n:Nat} (h:n<4):VR ⟨3,0,0,P4.getD n [],false⟩:=by
 have hlt:n<P4.length:=h
 have h1:P4.getD n []∈P4:=by rw [List.getD_eq_getElem?_getD,zge hlt];exact List.getElem_mem hlt
 have h2:=List.all_eq_true.1 P4_in _ h1
 refine of_contains texts_in ?_
 unfold textsR
 exact List.mem_map.2 ⟨_,by simpa using h2,rfl⟩
theorem fv_zero:∃ r,FV vzero r:=⟨none,by unfold FV FVR;simp⟩
theorem pred_fv (l:List Int)(a j:Nat)(nm:List UInt8):PFV (predV l a j nm).1:=by
 unfold predV
 have h4:=fd_bound l a (j+1) (n:=4) (by omega)
 simp only
 repeat' split
 ·exact ⟨fv_zero,fv_zero,by simp⟩
 ·exact ⟨(vr_P4 (by omega)).2,fv_zero,by simp⟩
 ·exact ⟨fv_zero,fv_zero,fun x hx=>(vr_vals _ _ _ _ x hx).2⟩
 ·exact ⟨(vr_value _ _ _).2,(vr_value _ _ _).2,by simp⟩
 ·exact ⟨(vr_value _ _ _).2,fv_zero,by simp⟩
theorem same_zero:vsame vzero vzero=true:=by kernel_rfl
theorem pred_right (l:List Int)(a j:Nat) {nm:List UInt8} (hn:isWord nm=true):pright (predV l a j nm).1=true:=by
 have h10:=fd_bound l a j (n:=10) (by omega)
 have h4:=fd_bound l a (j+1) (n:=4) (by omega)
 unfold predV
 simp only
 split
 ·simp [pright,hn,same_zero]
 ·split
  ·rename_i h
   have hv:=(vr_P4 (n:=(fd l a (j+1) 4).toNat) (by omega)).1
   generalize P4.getD (fd l a (j+1) 4).toNat []=s at hv
   simp [pright,hn,same_zero,hv]
  ·split
   ·have hv:=fun x hx=>(vr_vals l a ((fd l a (j+1) 4).toNat+1) (j+2) x hx).1
    have hl:=vals_length l a ((fd l a (j+1) 4).toNat+1) (j+2)
    generalize valsV l a (j+2) ((fd l a (j+1) 4).toNat+1)=vs at hv hl
    have hc:vs.all vright=true:=List.all_eq_true.2 hv
    have h5:1≤vs.length∧vs.length≤4:=by omega
    unfold pright
    rw [if_pos hn]
    simp [same_zero,hc,h5,hv]
   ·split
    ·simp [pright,hn,same_zero,(vr_value l a (j+1)).1,(vr_value l a (j+3)).1]
    ·have e1:2≤1+fd l a j 10∧1+fd l a j 10≤7:=by omega
     have e2:¬ 1+fd l a j 10=1:=by omega
     simp only [pright,hn,if_true,e2,if_false,e1,and_self,same_zero,(vr_value l a (j+1)).1,List.length_nil,decide_true,Bool.and_self]
theorem pred_asks (l:List Int)(a j:Nat)(nm:List UInt8):(predV l a j nm).2≤10:=by
 have h4:=fd_bound l a (j+1) (n:=4) (by omega)
 unfold predV
 simp only
 repeat' split
 all_goals (simp only;omega)
theorem ok_of_right {p:Pred} (h:pright p=true):p.ok:=by
 unfold pright at h
 split at h
 ·rename_i hw
  unfold isWord at hw
  simp only [Bool.and_eq_true,decide_eq_true_eq] at hw
  refine ⟨by omega,?_⟩
  repeat' split at h
  all_goals first
   | (simp only [Bool.and_eq_true,decide_eq_true_eq] at h;omega)
   | cases h
 ·cases h
end Go.Ab
namespace Go.Proofs.Ytdoobejjedpcgaa
open Go Go.Ab
noncomputable section
variable (fr:Fr)(st:St)(k:Kt)
theorem k55 (l:List Int)(a j id:Nat)  (fr:Fr) (st:St) (h:FeedOk st id) (ha:a<549755813888) (hj:j<549755812000) :
  callStep gS (EvF gS) 55 [.ptr id 0] fr (setF st id l (nA l a j))=some (.ok (.val ((valueV l a j).enc)) (fr.map E.noMem) (setF st id l (nA l a (j+2)))):=by
 unfold callStep
 simp only [show gS.ext 55=none from rfl,fi17_eq,show fi55.pure=false from rfl,Bool.false_eq_true,if_false,c55 l a j id  st h ha (by omega),retE]
 all_goals rfl
def fi71:FI:={body:=codeOf Try.f71,ntmps:=52,results:=[.cell 4 91],pers:=[0,1,4,5,6,13],locals:=[4,5],pure:=false,marks:=[39,2000011,1000000]}
theorem H71:fi71.marks=[39,2000011,1000000]∧fi71.locals=[4,5]∧fi71.results=[.cell 4 91]:=⟨rfl,rfl,rfl⟩
theorem fi29_eq:gS.fn 71=some fi71:=by kernel_rfl
theorem st71 (a0 a1:V):startFr fi71 [a0,a1]={ps:=[(0,.val a0),(1,.val a1),(4,.any),(5,.any),(6,.any),(13,.any)],ts:=[],lc:=[]}:=rfl
def b71:Code:=mini (codeOf Try.f71)
def c71_11:Code:=.seq (codeN b71 299) .ret
def c71_19:Code:=.seq (codeN b71 2795) .ret
def c71_17:Code:=.seq (codeN b71 1259) c71_19
def c71_33:Code:=.cond (.tmp 31) .skip (.exit 1)
def c71_31:Code:=.seq (codeN b71 136171) c71_33
def r71_38:Array Oper:=regOps (codeN (codeOf Try.f71) 300011)
def c71_38:Code:=.region 12 r71_38 true
def q71_38:List (Oper × Fl):=[(qF 34 91 5 4 0,qz7),
 (ld 35 89 34 89,qz7),
 (mv 36 0 23,qz1),
 (cal 37 55 [(.tmp 36)] [23] 88,qz5),
 (qS 38 89 37 89,qz1),
 (qE 39 35 38 89 89,qz5),
 (qF 40 91 5 4 0,qz6),
 (sto 89 40 39,qz5)]
def c71_39:Code:=codeN b71 234475
def c71_36:Code:=.seq (.block 2 c71_38) c71_39
def c71_30:Code:=.seq c71_31 c71_36
def c71_29:Code:=.loop c71_30
def c71_28:Code:=.block 1 c71_29
def c71_26:Code:=.seq (codeN b71 9195) c71_28
def c71_40:Code:=.seq (codeN b71 11243) .ret
theorem e71_40:evK gS fi71 c71_40 fr st k=opsR gS fi71 [ld 41 91 5 91,
 sto 91 4 41] fr st (.seq .ret k):=evK_rs 13 rfl (by kernel_rfl)
def c71_25:Code:=.seq c71_26 c71_40
def c71_24:Code:=.cond (.tmp 26) c71_25 .skip
def c71_22:Code:=.seq (codeN b71 1515) c71_24
def c71_16:Code:=.cond (.tmp 17) c71_17 c71_22
def c71_14:Code:=.seq (codeN b71 363) c71_16
def c71_10:Code:=.cond (.tmp 14) c71_11 c71_14
def c71_8:Code:=.seq (codeN b71 75) c71_10
def c71_7:Code:=.block 0 c71_8
def c71_5:Code:=.seq (codeN b71 19) c71_7
def c71_50:Code:=codeN b71 175
def c71_49:Code:=.cond (.tmp 47) c71_50 .skip
def c71_47:Code:=.seq (codeN b71 79) c71_49
def c71_52:Code:=.seq (codeN b71 95) .ret
def c71_46:Code:=.seq c71_47 c71_52
def c71_44:Code:=.seq (codeN b71 23) c71_46
def c71_4:Code:=.seq c71_5 c71_44
def c71_2:Code:=.seq (codeN b71 5) c71_4
def c71_0:Code:=.seq (codeN b71 2) c71_2
theorem E71:(evK gS fi71 c71_11 fr st k=opsR gS fi71 [ld 16 91 5 91,
 sto 91 4 16] fr st (.seq .ret k)) ∧
 (evK gS fi71 c71_19 fr st k=opsR gS fi71 [ld 25 91 5 91,
 sto 91 4 25] fr st (.seq .ret k)) ∧
 (evK gS fi71 c71_17 fr st k=opsR gS fi71 [op1 19 (.build 122 #[(0,(.const (.string {data:=#[]}))),(1,(.const (.string {data:=#[97]}))),(2,(.const (.string {data:=#[98]}))),(3,(.const (.string {data:=#[97,98]})))]) 122,
 mv 20 0 23,
 cal 21 11 [(.tmp 20),(.const (.int .i64 4))] [23,3] 3,
 op1 22 (.index 122 (.tmp 19) (.tmp 21)) 9,
 op1 23 (.build 88 #[(0,(.const (.int .i64 3))),(3,(.tmp 22))]) 88,
 qF 24 91 5 2 0,
 sto 88 24 23] fr st (.seq c71_19 k)) ∧
 evK gS fi71 c71_33 fr st k=condK gS fi71 (fr.op (.tmp 31)).bool? .skip (.exit 1) fr st k ∧
 (evK gS fi71 c71_31 fr st k=opsR gS fi71 [mv 30 6 3,
 qB 31 .geq 3 30 0 3 4] fr st (.seq c71_33 k)) ∧
 evK gS fi71 c71_38 fr st k=drwR gS fi71 r71_38 q71_38 fr st k ∧
 (evK gS fi71 c71_39 fr st k=opsR gS fi71 [mv 32 6 3,
 qB 33 .sub 3 32 1 3 3,
 asn 6 33 3] fr st k) ∧
 evK gS fi71 c71_36 fr st k=evK gS fi71 c71_38 fr st (.blk 2 (.seq c71_39 k)) ∧
 evK gS fi71 c71_30 fr st k=evK gS fi71 c71_31 fr st (.seq c71_36 k) ∧
 evK gS fi71 c71_28 fr st k=evK gS fi71 c71_29 fr st (.blk 1 k) ∧
 (evK gS fi71 c71_26 fr st k=opsR gS fi71 [mv 28 0 23,
 cal 29 11 [(.tmp 28),(.const (.int .i64 4))] [23,3] 3,
 asn 6 29 3] fr st (.seq c71_28 k)) ∧
 evK gS fi71 c71_25 fr st k=evK gS fi71 c71_26 fr st (.seq c71_40 k) ∧
 evK gS fi71 c71_24 fr st k=condK gS fi71 (fr.op (.tmp 26)).bool? c71_25 .skip fr st k ∧
 (evK gS fi71 c71_22 fr st k=opsR gS fi71 [qB 27 .eql 3 13 10 3 4,
 asn 26 27 4] fr st (.seq c71_24 k)) ∧
 evK gS fi71 c71_16 fr st k=condK gS fi71 (fr.op (.tmp 17)).bool? c71_17 c71_22 fr st k ∧
 (evK gS fi71 c71_14 fr st k=opsR gS fi71 [qB 18 .eql 3 13 9 3 4,
 asn 17 18 4] fr st (.seq c71_16 k)) ∧
 evK gS fi71 c71_10 fr st k=condK gS fi71 (fr.op (.tmp 14)).bool? c71_11 c71_14 fr st k ∧
 (evK gS fi71 c71_8 fr st k=opsR gS fi71 [qB 15 .eql 3 13 1 3 4,
 asn 14 15 4] fr st (.seq c71_10 k)) ∧
 evK gS fi71 c71_7 fr st k=evK gS fi71 c71_8 fr st (.blk 0 k) ∧
 (evK gS fi71 c71_5 fr st k=opsR gS fi71 [qF 12 91 5 1 0,
 ld 13 3 12 3] fr st (.seq c71_7 k)) ∧
 (evK gS fi71 c71_50 fr st k=opsR gS fi71 [mv 48 0 23,
 cal 49 55 [(.tmp 48)] [23] 88,
 qF 50 91 5 3 0,
 sto 88 50 49] fr st k) ∧
 evK gS fi71 c71_49 fr st k=condK gS fi71 (fr.op (.tmp 47)).bool? c71_50 .skip fr st k ∧
 (evK gS fi71 c71_47 fr st k=opsR gS fi71 [qF 45 91 5 1 0,
 ld 46 3 45 3,
 qB 47 .eql 3 46 8 3 4] fr st (.seq c71_49 k)) ∧
 (evK gS fi71 c71_52 fr st k=opsR gS fi71 [ld 51 91 5 91,
 sto 91 4 51] fr st (.seq .ret k)) ∧
 evK gS fi71 c71_46 fr st k=evK gS fi71 c71_47 fr st (.seq c71_52 k) ∧
 (evK gS fi71 c71_44 fr st k=opsR gS fi71 [mv 42 0 23,
 cal 43 55 [(.tmp 42)] [23] 88,
 qF 44 91 5 2 0,
 sto 88 44 43] fr st (.seq c71_46 k)) ∧
 evK gS fi71 c71_4 fr st k=evK gS fi71 c71_5 fr st (.seq c71_44 k) ∧
 (evK gS fi71 c71_2 fr st k=opsR gS fi71 [mv 7 1 9,
 mv 8 0 23,
 cal 9 11 [(.tmp 8),(.const (.int .i64 10))] [23,3] 3,
 op1 10 (.binOp .add 3 (.const (.int .i64 1)) (.tmp 9) 3) 3,
 op1 11 (.build 91 #[(0,(.tmp 7)),(1,(.tmp 10))]) 91,
 op1 5 (.alloc 91) 0,
 sto 91 5 11] fr st (.seq c71_4 k)) ∧
 evK gS fi71 c71_0 fr st k=opsR gS fi71 [op1 4 (.alloc 91) 0] fr st (.seq c71_2 k):=⟨evK_rs 4 rfl (by kernel_rfl),evK_rs 7 rfl (by kernel_rfl),evK_rs 6 rfl (by kernel_rfl),rfl,evK_rs 10 rfl (by kernel_rfl),evK_dr 12 rfl (by kernel_rfl) (by kernel_rfl),evK_r 11 (by kernel_rfl),rfl,rfl,rfl,evK_rs 9 rfl (by kernel_rfl),rfl,rfl,evK_rs 8 rfl (by kernel_rfl),rfl,evK_rs 5 rfl (by kernel_rfl),rfl,evK_rs 3 rfl (by kernel_rfl),rfl,evK_rs 2 rfl (by kernel_rfl),evK_r 16 (by kernel_rfl),rfl,evK_rs 15 rfl (by kernel_rfl),evK_rs 17 rfl (by kernel_rfl),rfl,evK_rs 14 rfl (by kernel_rfl),rfl,evK_rs 1 rfl (by kernel_rfl),evK_rs 0 rfl (by kernel_rfl)⟩
theorem m71:mini fi71.body=c71_0:=by kernel_rfl
theorem n71_29 (fr:Fr)(st:St)(k:Kt):nextK gS fi71 (.loop c71_30 k) .normal fr st=evK gS fi71 c71_29 fr st k:=rfl
theorem T71_40 (nm:List UInt8)(l:List Int)(a id m:Nat)(vs:List Val)(hv:vs≠[])(st:St)(h:FeedOk st id)(e0 e1 e6 e13:E)(h0:e0.Tame)(h1:e1.Tame)(h6:e6.Tame)(h13:e13.Tame)(T:List (Nat × E))(X:List (Nat × List V))(hx4:lk X 4=some [.str [],.int .i64 0,.int .i64 0,.int .i64 0,.float .f64 0,.str [],.bool false,.int .i64 0,.int .i64 0,.float .f64 0,.str [],.bool false,.osl 0 []])(hx5:lk X 5=some [.str nm,.int .i64 10,.int .i64 0,.int .i64 0,.float .f64 0,.str [],.bool false,.int .i64 0,.int .i64 0,.float .f64 0,.str [],.bool false,.sref false 5 (st.objs.length+m) 0 vs.length]) :
  evK gS fi71 c71_40 {ps:=[(0,e0),(1,e1),(4,.lp 4 0),(5,.lp 5 0),(6,e6),(13,e13)],ts:=T,lc:=X} (setF (nw st m (vs.flatMap Val.cells)) id l a) (.blk 0 (.seq c71_44 .nil))=some (.ret ((⟨nm,10,vzero,vzero,vs⟩:Pred).enc) none,setF (dd st (m+1)) id l a):=by
 have hz:=fun a0 a1 a2 a3 a4 a5 a6 a7 a8 a9 a10 a11 hf=>frz_predcells (a0:=a0) (a1:=a1) (a2:=a2) (a3:=a3) (a4:=a4) (a5:=a5) (a6:=a6) (a7:=a7) (a8:=a8) (a9:=a9) (a10:=a10) (a11:=a11) hf (frz_vals h 4 m vs hv l a)
 simp [lk_lset_self _ _ _ _ hx4,hx4,hx5,h0,h1,h6,h13,hz,vzero,-zil,-zit,-znl,-znt,ty3,ty4,ty9,ty23,ty88,ty89,ty91,ty122,eq88,H71,fi16_eq,fi17_eq,E71,q71_38,e71_40,n71_29]
theorem L71 (nm:List UInt8)(l:List Int)(a id:Nat)(ha:a<549755813888)(st:St)(h:FeedOk st id)(e1 e13:E)(h1:e1.Tame)(h13:e13.Tame):∀ (r j m:Nat) (vs:List Val) (T:List (Nat × E)) (X:List (Nat × List V)),j+2*r<549755812000→vs.length=m+1→vs.length+r<1000→lk X 4=some [.str [],.int .i64 0,.int .i64 0,.int .i64 0,.float .f64 0,.str [],.bool false,.int .i64 0,.int .i64 0,.float .f64 0,.str [],.bool false,.osl 0 []]→lk X 5=some [.str nm,.int .i64 10,.int .i64 0,.int .i64 0,.float .f64 0,.str [],.bool false,.int .i64 0,.int .i64 0,.float .f64 0,.str [],.bool false,.sref false 5 (st.objs.length+m) 0 (m+1)] →
  evK gS fi71 c71_29 {ps:=[(0,.val (.ptr id 0)),(1,e1),(4,.lp 4 0),(5,.lp 5 0),(6,.val (.int .i64 ((r:Int) - 1))),(13,e13)],ts:=T,lc:=X} (setF (nw st m (vs.flatMap Val.cells)) id l (nA l a j)) (.blk 1 (.seq c71_40 (.blk 0 (.seq c71_44 .nil))))=some (.ret ((⟨nm,10,vzero,vzero,vs ++ valsV l a j r⟩:Pred).enc) none,setF (dd st (m+1+r)) id l (nA l a (j+2*r))):=by
 intro r
 induction r with
 | zero =>
  intro j m vs T X hj hlen hlt hx4 hx5
  refine evK_loop c71_30 _ _ _ _ rfl ?_
  have ht:=fun T=>T71_40 nm l (nA l a j) id m vs (by intro e;rw [e] at hlen;simp at hlen) st h (.val (.ptr id 0)) e1 (.val (.int .i64 (-1))) e13 rfl h1 rfl h13 T X hx4 (by rw [hx5,hlen])
  simp [h1,h13,ht,valsV,-zil,-zit,-znl,-znt,ty3,ty4,ty9,ty23,ty88,ty89,ty91,ty122,eq88,H71,fi16_eq,fi17_eq,E71,q71_38,n71_29]
 | succ r ih =>
  intro j m vs T X hj hlen hlt hx4 hx5
  refine evK_loop c71_30 _ _ _ _ rfl ?_
  have hv:=fun fr=>k55 l a j id fr (nw st m (vs.flatMap Val.cells)) (h.nw m _) ha (by omega)
  have e1':((r+1:Nat):Int) - 1=(r:Int):=by omega
  have e2:(0:Int)≤(r:Int):=by omega
  have e3:IntKind.wrap .i64 ((r:Int) - 1)=(r:Int) - 1:=wrap64 (by omega) (by omega)
  have e4:=vals_cells_len vs
  have e5:=vals_cells_strip vs
  have e6:=vals_cells_one vs
  have e7:∀ v:Val,vs.flatMap Val.cells ++ [.int .i64 v.kind,.int .i64 v.n,.float .f64 v.x,.str v.s,.bool v.b]=(vs ++ [v]).flatMap Val.cells:=by intro v;simp [Val.cells]
  have IH:=fun T X h4 h5=>ih (j+2) (m+1) (vs ++ [valueV l a j]) T X (by omega) (by simp [hlen]) (by simp;omega) h4 h5
  have r1:=obj_gr h m (vs.flatMap Val.cells) l (nA l a (j+2))
  have r2:=set_gr h m (vs.flatMap Val.cells) l (nA l a (j+2))
  have r3:=fun fr k len cs=>newRef_dd h fr (m+1) k len cs l (nA l a (j+2))
  have e8:(m+1+1)*48≤140737488355328:=by omega
  have e9:(m+1+1)≤140737488355328:=by omega
  rw [hlen] at e4
  rw [e1']
  rw [show valsV l a j (r+1)=valueV l a j :: valsV l a (j+2) r from rfl,show m+1+(r+1)=m+1+1+r by omega,show j+2*(r+1)=j+2+2*r by omega,List.append_cons vs]
  simp [-zaa,-List.flatMap_append,-St.obj,-St.set,h1,h13,hx4,hx5,hv,e2,e3,e4,e5,e6,e7,e8,e9,r1,r2,r3,markStep,markAppend,elemsAt,lk_lset_self _ _ _ _ hx5,-zil,-zit,-znl,-znt,ty3,ty4,ty9,ty23,ty88,ty89,ty91,ty122,eq88,H71,fi16_eq,fi17_eq,E71,q71_38,n71_29]
  exact IH _ _ (by simp [hx4]) (lk_lset_self _ _ _ _ hx5)
theorem c71 (l:List Int)(a j id:Nat)(nm:List UInt8)(st:St)(h:FeedOk st id)(ha:a<549755813888)(hj:j<549755811000) :
  EvF gS 71 [.ptr id 0,.str nm] (setF st id l (nA l a j))=some (.ret (predV l a j nm).1.enc none,setF (dd st (predV l a j nm).1.set.length) id l (nA l a (j+(predV l a j nm).2))):=by
 refine EvF_start fi29_eq (fun x h=>by cases h) m71 ?_
 rw [st71]
 have hm:fi71.marks=[39,2000011,1000000]:=rfl
 have hl:fi71.locals=[4,5]:=rfl
 have hr:fi71.results=[.cell 4 91]:=rfl
 have hb:=fd_bound l a j (n:=10) (by omega)
 have hb4:=fd_bound l a (j+1) (n:=4) (by omega)
 unfold predV
 have hk:=fun fr=>k11 l a j id 10 fr st h ha (by omega) (by omega)
 have hk4:=fun fr=>k11 l a (j+1) id 4 fr st h ha (by omega) (by omega)
 have hv1:=fun fr=>k55 l a (j+1) id fr st h ha (by omega)
 have hv3:=fun fr=>k55 l a (j+3) id fr st h ha (by omega)
 generalize fd l a j 10=z at *
 generalize fd l a (j+1) 4=y at *
 have hz:z=0∨z=1∨z=2∨z=3∨z=4∨z=5∨z=6∨z=7∨z=8∨z=9:=by omega
 have hy:y=0∨y=1∨y=2∨y=3:=by omega
 have d0:=dd_zero st
 have a2:j+1+1=j+2:=rfl
 have a5:j+3+2=j+5:=rfl
 have a3:j+1+2=j+3:=by omega
 have hz2:=fun st a0 a1 a2 a3 a4 a5 a6 a7 a8 a9 a10 a11 hf=>frz_predcells (a0:=a0) (a1:=a1) (a2:=a2) (a3:=a3) (a4:=a4) (a5:=a5) (a6:=a6) (a7:=a7) (a8:=a8) (a9:=a9) (a10:=a10) (a11:=a11) hf (frz_nil 4 st)
 have en:encVals []=[]:=rfl
 rcases hz with rfl | rfl | rfl | rfl | rfl | rfl | rfl | rfl | rfl | rfl
 case inr.inr.inr.inr.inr.inr.inr.inr.inl=>rcases hy with rfl | rfl | rfl | rfl <;> simp [P4,vzero,d0,en,a2,a3,a5,hz2,w64_1,w64_2,w64_3,w64_4,w64_5,w64_6,w64_7,w64_8,w64_9,w64_10,hk,hk4,hv1,hv3,-zil,-zit,-znl,-znt,ty3,ty4,ty9,ty23,ty88,ty89,ty91,ty122,eq88,hm,hl,hr,fi16_eq,fi17_eq,E71,q71_38,n71_29]
 case inr.inr.inr.inr.inr.inr.inr.inr.inr =>
  have hv2:=fun fr=>k55 l a (j+2) id fr st h ha (by omega)
  have e2:(0:Int)≤y:=by omega
  have e3:IntKind.wrap .i64 (y - 1)=y - 1:=wrap64 (by omega) (by omega)
  have r3:=fun fr k len cs=>newRef_setF h fr k len cs l (nA l a (j+2+2))
  simp [-St.obj,-St.set,a2,w64_1,w64_2,w64_3,w64_4,w64_5,w64_6,w64_7,w64_8,w64_9,w64_10,hk,hk4,hv1,hv3,-zil,-zit,-znl,-znt,ty3,ty4,ty9,ty23,ty88,ty89,ty91,ty122,eq88,hm,hl,hr,fi16_eq,fi17_eq,E71,q71_38,n71_29]
  refine evK_loop c71_30 _ _ _ _ rfl ?_
  simp [-St.obj,-St.set,e2,e3,hv2,r3,markStep,markAppend,elemsAt,-zil,-zit,-znl,-znt,ty3,ty4,ty9,ty23,ty88,ty89,ty91,ty122,eq88,hm,hl,hr,fi16_eq,fi17_eq,E71,q71_38,n71_29]
  have hf:=fun T X=>L71 nm l a id ha st h (.val (.str nm)) (.val (.int .i64 10)) rfl rfl y.toNat (j+2+2) 0 [valueV l a (j+2)] T X (by omega) rfl (by simp;omega)
  have ey:((y.toNat:Nat):Int)=y:=by omega
  rw [ey] at hf
  refine Eq.trans (hf _ _ ?_ ?_) ?_
  ·simp
  ·simp
  ·have hl:=vals_length l a (y.toNat+1) (j+2)
   have hc:[valueV l a (j+2)] ++ valsV l a (j+2+2) y.toNat=valsV l a (j+2) (y.toNat+1):=rfl
   rw [hc,hl]
   rw [show 0+1+y.toNat=y.toNat+1 by omega,show j+2+2+2*y.toNat=j+(2+2*(y.toNat+1)) by omega]
   rfl
 all_goals simp [vzero,d0,en,a2,a3,a5,hz2,w64_1,w64_2,w64_3,w64_4,w64_5,w64_6,w64_7,w64_8,w64_9,w64_10,hk,hk4,hv1,hv3,-zil,-zit,-znl,-znt,ty3,ty4,ty9,ty23,ty88,ty89,ty91,ty122,eq88,hm,hl,hr,fi16_eq,fi17_eq,E71,q71_38,n71_29]
theorem k71 (l:List Int)(a j id:Nat)(nm:List UInt8)(fr:Fr)(st:St)(h:FeedOk st id)(ha:a<549755813888)(hj:j<549755811000) :
  callStep gS (EvF gS) 71 [.ptr id 0,.str nm] fr (setF st id l (nA l a j))=some (.ok (.val ((predV l a j nm).1.enc)) (fr.map E.noMem) (setF (dd st ((predV l a j nm).1.set.length)) id l (nA l a (j+(predV l a j nm).2)))):=by
 unfold callStep
 simp only [show gS.ext 71=none from rfl,fi29_eq,show fi71.pure=false from rfl,Bool.false_eq_true,if_false,c71 l a j id nm st h ha (by omega),retE]
 all_goals rfl
end
end Go.Proofs.Ytdoobejjedpcgaa
namespace Go.Ab
open Go
def aget:List Attr→List UInt8→Val × Bool
 | [],_=>(vzero,false)
 | a :: r,nm=>if a.name=nm then (a.v,true) else aget r nm
def sgt (a b:List UInt8):Bool:=!(Op.bytesLess a b || decide (a=b))
def rises:Option (List UInt8)→List Pred→Bool
 | _,[]=>true
 | none,p :: r=>pright p && rises (some p.name) r
 | some n,p :: r=>pright p && !sgt n p.name && rises (some p.name) r
def fright (f:List Pred):Bool:=decide (f.length≤3) && rises none f
def ftakes (f:List Pred)(l:List Attr):Bool:=f.all fun p=>(aget l p.name).2 && ptakes p (aget l p.name).1
def fcov1 (p:Pred)(g:List Pred):Bool:=g.any fun q=>decide (q.name=p.name) && pimplies q p
def fcovers (f g:List Pred):Bool:=g.any pvoid || f.all fun p=>fcov1 p g
def fany (l:List (List Pred))(a:List Attr):Bool:=l.any fun f=>ftakes f a
def fstep (row:List (List Pred))(f:List Pred):List (List Pred):=if row.any (fun g=>fcovers g f) then row else row.filter (fun g=>!fcovers f g) ++ [f]
def freduce (l:List (List Pred)):List (List Pred):=l.foldl fstep []
def encPredss (l:List (List Pred)):List V:=l.map fun f=>V.slice (encPreds f)
theorem encPredss_length (l:List (List Pred)):(encPredss l).length=l.length:=by simp [encPredss]
theorem encPredss_get (l:List (List Pred))(i:Nat):(encPredss l)[i]?=(l[i]?).map fun f=>V.slice (encPreds f):=by simp [encPredss]
theorem encPredss_gE (l:List (List Pred))(i:Nat)(h:i<(encPredss l).length):(encPredss l)[i]'h=.slice (encPreds (l[i]'(by rw [encPredss_length] at h;exact h))):=by simp [encPredss]
theorem flats_predss (l:List (List Pred)):flats (encPredss l)=true:=by
 induction l with
 | nil=>rfl
 | cons x r ih=>simp only [encPredss,List.map_cons,flats,V.flat,flats_preds] at ih ⊢;exact ih
attribute [simp] encPredss_length encPredss_get encPredss_gE flats_predss
def POk (f:List Pred):Prop:=f.length<4611686018427387904∧∀ p∈f,p.ok
theorem POk.get {f:List Pred} (h:POk f) {i:Nat} {p:Pred} (hp:f[i]?=some p):p.ok:=h.2 p (zmg hp)
theorem rises_some (n:List UInt8)(p:Pred)(r:List Pred):rises (some n) (p :: r)=(pright p && !sgt n p.name && rises (some p.name) r):=rfl
theorem rises_none (p:Pred)(r:List Pred):rises none (p :: r)=(pright p && rises (some p.name) r):=rfl
theorem rises_nil (o:Option (List UInt8)):rises o []=true:=by cases o <;> rfl
end Go.Ab
namespace Go.Proofs.Ytdoobejjedpcgaa
open Go Go.Ab
noncomputable section
variable (fr:Fr)(st:St)(k:Kt)
def fi76:FI:={body:=codeOf Try.f76,ntmps:=22,results:=[.cell 4 88,.tmp 5],pers:=[0,1,4,5,7,8,9,10],locals:=[4,7],pure:=true,marks:=[]}
theorem H76:fi76.marks=[]∧fi76.locals=[4,7]∧fi76.results=[.cell 4 88,.tmp 5]:=⟨rfl,rfl,rfl⟩
theorem fi92_eq:gS.fn 76=some fi76:=by kernel_rfl
theorem st76 (a0 a1:V):startFr fi76 [a0,a1]={ps:=[(0,.val a0),(1,.val a1),(4,.any),(5,.any),(7,.any),(8,.any),(9,.any),(10,.any)],ts:=[],lc:=[]}:=rfl
def b76:Code:=mini (codeOf Try.f76)
def c76_20:Code:=.seq (codeN b76 9829) .ret
def c76_19:Code:=.cond (.tmp 17) c76_20 .skip
def c76_17:Code:=.seq (codeN b76 2661) c76_19
def c76_15:Code:=.seq (codeN b76 1125) c76_17
def c76_24:Code:=codeN b76 485
def c76_13:Code:=.seq (.block 1 c76_15) c76_24
def c76_9:Code:=.seq (.cond (.tmp 11) .skip (.exit 0)) c76_13
def c76_7:Code:=.seq (codeN b76 69) c76_9
def c76_6:Code:=.loop c76_7
def c76_5:Code:=.block 0 c76_6
def c76_3:Code:=.seq (codeN b76 9) c76_5
def c76_25:Code:=.seq (codeN b76 11) .ret
def c76_2:Code:=.seq c76_3 c76_25
def c76_0:Code:=.seq (codeN b76 2) c76_2
theorem E76:(evK gS fi76 c76_20 fr st k=opsR gS fi76 [qF 18 95 7 1 0,
 ld 19 88 18 88,
 sto 88 4 19,
 qA 5 true 4] fr st (.seq .ret k)) ∧
 evK gS fi76 c76_19 fr st k=condK gS fi76 (fr.op (.tmp 17)).bool? c76_20 .skip fr st k ∧
 (evK gS fi76 c76_17 fr st k=opsR gS fi76 [qF 14 95 7 0 0,
 ld 15 9 14 9,
 mv 16 1 9,
 bop 17 .eql 9 15 16 9 4] fr st (.seq c76_19 k)) ∧
 (evK gS fi76 c76_15 fr st k=opsR gS fi76 [ixa 12 42 8 10 0,
 ld 13 95 12 95,
 op1 7 (.alloc 95) 0,
 sto 95 7 13] fr st (.seq c76_17 k)) ∧
 (evK gS fi76 c76_24 fr st k=opsR gS fi76 [qB 20 .add 3 10 1 3 3,
 mv 10 20 3] fr st k) ∧
 evK gS fi76 c76_13 fr st k=evK gS fi76 c76_15 fr st (.blk 1 (.seq c76_24 k)) ∧
 evK gS fi76 c76_9 fr st k=condK gS fi76 (fr.op (.tmp 11)).bool? .skip (.exit 0) fr st (.seq c76_13 k) ∧
 evK gS fi76 c76_7 fr st k=opsR gS fi76 [bop 11 .lss 3 10 9 3 0] fr st (.seq c76_9 k) ∧
 evK gS fi76 c76_5 fr st k=evK gS fi76 c76_6 fr st (.blk 0 k) ∧
 (evK gS fi76 c76_3 fr st k=opsR gS fi76 [mv 8 0 42,
 len1 9 8 42 3,
 op1 10 (.move (.const (.int .i64 0))) 3] fr st (.seq c76_5 k)) ∧
 (evK gS fi76 c76_25 fr st k=opsR gS fi76 [op1 21 (.build 88 #[]) 88,
 sto 88 4 21,
 qA 5 false 4] fr st (.seq .ret k)) ∧
 evK gS fi76 c76_2 fr st k=evK gS fi76 c76_3 fr st (.seq c76_25 k) ∧
 (evK gS fi76 c76_0 fr st k=opsR gS fi76 [op1 4 (.alloc 88) 0,
 qA 5 false 4] fr st (.seq c76_2 k)):=⟨evK_rs 5 rfl (by kernel_rfl),rfl,evK_rs 4 rfl (by kernel_rfl),evK_rs 3 rfl (by kernel_rfl),evK_r 6 (by kernel_rfl),rfl,rfl,evK_rs 2 rfl (by kernel_rfl),rfl,evK_rs 1 rfl (by kernel_rfl),evK_rs 7 rfl (by kernel_rfl),rfl,evK_rs 0 rfl (by kernel_rfl)⟩
theorem m76:mini fi76.body=c76_0:=by kernel_rfl
theorem n76_6 (fr:Fr)(st:St)(k:Kt):nextK gS fi76 (.loop c76_7 k) .normal fr st=evK gS fi76 c76_6 fr st k:=rfl
theorem L76_6 (l:List Attr)(nm:List UInt8)(h_l:l.length<4611686018427387904)(st:St):∀ (n i:Nat) (j:Int)  (e0 e7:E) (T:List (Nat × E)) (X:List (Nat × List V)) (ht0:e0.Tame) (ht7:e7.Tame) (hx4:lk X 4=some [.int .i64 0,.int .i64 0,.float .f64 0,.str [],.bool false]) ,j=(i:Int)→i≤(l).length→(l).length - i=n →
  evK gS fi76 c76_6 {ps:=[(0,e0),(1,.val (.str nm)),(4,.lp 4 0),(5,.val (.bool false)),(7,e7),(8,.val (.slice (encAttrs l))),(9,.val (.int .i64 l.length)),(10,.val (.int .i64 j))],ts:=T,lc:=X} st (.blk 0 (.seq c76_25 .nil))=some ((.ret (.tuple [(aget (l.drop i) nm).1.enc,.bool (aget (l.drop i) nm).2]) none),st):=by
 intro n
 induction n with
 | zero =>
  intro i j  e0 e7 T X ht0 ht7 hx4  hj hi hn
  obtain rfl:i=(l).length:=by omega
  subst hj
  refine evK_loop c76_7 _ st _ _ rfl ?_
  simp (config:={contextual:=true,maxSteps:=10000000,maxDischargeDepth:=6}) [-zil,-zit,-znl,-znt,ty3,ty4,ty9,ty42,ty88,ty95,eq88,H76,E76,n76_6,ht0,ht7,hx4,aget,vzero,lk_lset_self _ _ _ _ hx4]
  all_goals first | done | grind | omega
 | succ n ih =>
  intro i j  e0 e7 T X ht0 ht7 hx4  hj hi hn
  subst hj
  obtain ⟨x,hx⟩  := qgx (l:=(l)) (i:=i) (by omega)
  have hd:=drop_get hx
  have hlt:(i:Int)<((l).length:Int):=by omega
  have hlt2:i<(l).length:=by omega
  have hxe:(l)[i]'hlt2=x:=by rw [zge hlt2] at hx;exact Option.some.inj hx
  have hw:IntKind.wrap .i64 ((i:Int)+1)=(i:Int)+1:=wrap64 (by omega) (by omega)
  have hf4:∀ v,lk (lset (X.filter fun x=>!(x.1 == 7)) 4 v) 4=some v:=fun v=>lk_lset_self _ _ _ _ (by rw [lk_filter _ _ _ rfl];exact hx4)
  have IH:=fun e0 e7 T X ht0 ht7 hx4=>ih (i+1) ((i:Int)+1) e0 e7 T X ht0 ht7 hx4 rfl (by omega) (by omega)
  refine evK_loop c76_7 _ st _ _ rfl ?_
  simp (config:={contextual:=true,maxSteps:=10000000,maxDischargeDepth:=6}) [-zil,-zit,-znl,-znt,ty3,ty4,ty9,ty42,ty88,ty95,eq88,H76,E76,n76_6,ht0,ht7,hx4,hx,hxe,hd,hlt,hlt2,hw,IH,aget,vzero,hf4,lk_lset_self _ _ _ _ hx4]
  all_goals first | done | grind | omega
theorem c76 (l:List Attr)(nm:List UInt8)  (h_l:l.length<4611686018427387904) (st:St):EvF gS 76 [.slice (encAttrs l),.str nm] st=some (.ret (.tuple [(aget l nm).1.enc,.bool (aget l nm).2]) none,st):=by
 refine EvF_start fi92_eq (fun x h=>by cases h) m76 ?_
 rw [st76]
 simp (config:={contextual:=true,maxSteps:=10000000,maxDischargeDepth:=6}) [-zil,-zit,-znl,-znt,ty3,ty4,ty9,ty42,ty88,ty95,eq88,H76,E76,n76_6,(fun e0 e7 T X ht0 ht7 hx4=>L76_6 l nm h_l st _ 0 0  e0 e7 T X ht0 ht7 hx4 rfl (Nat.zero_le _) rfl),h_l]
 all_goals first | done | grind | omega
theorem k76 (l:List Attr)(nm:List UInt8)  (h_l:l.length<4611686018427387904) (fr:Fr) (st:St):callStep gS (EvF gS) 76 [.slice (encAttrs l),.str nm] fr st=some (.ok (retE none (.tuple [(aget l nm).1.enc,.bool (aget l nm).2])) fr st) :=
 call_pure rfl fi92_eq rfl (fun st=>c76 l nm h_l st) (by simp)
def fi44:FI:={body:=codeOf Try.f44,ntmps:=31,results:=[.tmp 4],pers:=[0,1,4,6,7,8,9,10,11],locals:=[6,7],pure:=true,marks:=[]}
theorem H44:fi44.marks=[]∧fi44.locals=[6,7]∧fi44.results=[.tmp 4]:=⟨rfl,rfl,rfl⟩
theorem fi39_eq:gS.fn 44=some fi44:=by kernel_rfl
theorem st44 (a0 a1:V):startFr fi44 [a0,a1]={ps:=[(0,.val a0),(1,.val a1),(4,.any),(6,.any),(7,.any),(8,.any),(9,.any),(10,.any),(11,.any)],ts:=[],lc:=[]}:=rfl
def b44:Code:=mini (codeOf Try.f44)
def c44_22:Code:=.seq (codeN b44 20069) .ret
def c44_21:Code:=.cond (.tmp 29) c44_22 .skip
def c44_19:Code:=.seq (codeN b44 5733) c44_21
def c44_17:Code:=.seq (codeN b44 2661) c44_19
def c44_15:Code:=.seq (codeN b44 1125) c44_17
def c44_26:Code:=codeN b44 485
def c44_13:Code:=.seq (.block 1 c44_15) c44_26
def c44_9:Code:=.seq (.cond (.tmp 12) .skip (.exit 0)) c44_13
def c44_7:Code:=.seq (codeN b44 69) c44_9
def c44_6:Code:=.loop c44_7
def c44_5:Code:=.block 0 c44_6
def c44_3:Code:=.seq (codeN b44 9) c44_5
def c44_27:Code:=.seq (codeN b44 11) .ret
def c44_2:Code:=.seq c44_3 c44_27
def c44_0:Code:=.seq (codeN b44 2) c44_2
theorem E44:evK gS fi44 c44_22 fr st k=opsR gS fi44 [qA 4 false 4] fr st (.seq .ret k) ∧
 evK gS fi44 c44_21 fr st k=condK gS fi44 (fr.op (.tmp 29)).bool? c44_22 .skip fr st k ∧
 (evK gS fi44 c44_19 fr st k=opsR gS fi44 [mv 22 8 4,
 op1 23 (.unOp .not 4 (.tmp 22)) 4,
 mv 24 23 4,
 ql 25 91 6 91 2 false,
 ql 26 88 7 88 2 false,
 mk (some 27) (.call {callee:=(.value (.func 77)),args:=#[(.tmp 25),(.tmp 26)],argTypes:=#[91,88]}) 4 (some (2,false)),
 mk (some 28) (.unOp .not 4 (.tmp 27)) 4 (some (2,false)),
 qQ 29 24 true 28 4] fr st (.seq c44_21 k)) ∧
 (evK gS fi44 c44_17 fr st k=opsR gS fi44 [mv 16 1 42,
 qF 17 91 6 0 0,
 ld 18 9 17 9,
 cal 19 76 [(.tmp 16),(.tmp 18)] [42,9] 106,
 mv 15 19 106,
 op1 20 (.extract (.tmp 15) 0) 88,
 op1 21 (.extract (.tmp 15) 1) 4,
 op1 7 (.alloc 88) 0,
 sto 88 7 20,
 asn 8 21 4] fr st (.seq c44_19 k)) ∧
 (evK gS fi44 c44_15 fr st k=opsR gS fi44 [ixa 13 29 9 11 0,
 ld 14 91 13 91,
 op1 6 (.alloc 91) 0,
 sto 91 6 14] fr st (.seq c44_17 k)) ∧
 (evK gS fi44 c44_26 fr st k=opsR gS fi44 [qB 30 .add 3 11 1 3 3,
 mv 11 30 3] fr st k) ∧
 evK gS fi44 c44_13 fr st k=evK gS fi44 c44_15 fr st (.blk 1 (.seq c44_26 k)) ∧
 evK gS fi44 c44_9 fr st k=condK gS fi44 (fr.op (.tmp 12)).bool? .skip (.exit 0) fr st (.seq c44_13 k) ∧
 evK gS fi44 c44_7 fr st k=opsR gS fi44 [bop 12 .lss 3 11 10 3 0] fr st (.seq c44_9 k) ∧
 evK gS fi44 c44_5 fr st k=evK gS fi44 c44_6 fr st (.blk 0 k) ∧
 (evK gS fi44 c44_3 fr st k=opsR gS fi44 [mv 9 0 29,
 len1 10 9 29 3,
 op1 11 (.move (.const (.int .i64 0))) 3] fr st (.seq c44_5 k)) ∧
 evK gS fi44 c44_27 fr st k=opsR gS fi44 [qA 4 true 4] fr st (.seq .ret k) ∧
 evK gS fi44 c44_2 fr st k=evK gS fi44 c44_3 fr st (.seq c44_27 k) ∧
 evK gS fi44 c44_0 fr st k=opsR gS fi44 [qA 4 false 4] fr st (.seq c44_2 k):=⟨evK_rs 6 rfl (by kernel_rfl),rfl,evK_rs 5 rfl (by kernel_rfl),evK_rs 4 rfl (by kernel_rfl),evK_rs 3 rfl (by kernel_rfl),evK_r 7 (by kernel_rfl),rfl,rfl,evK_rs 2 rfl (by kernel_rfl),rfl,evK_rs 1 rfl (by kernel_rfl),evK_rs 8 rfl (by kernel_rfl),rfl,evK_rs 0 rfl (by kernel_rfl)⟩
theorem m44:mini fi44.body=c44_0:=by kernel_rfl
theorem n44_6 (fr:Fr)(st:St)(k:Kt):nextK gS fi44 (.loop c44_7 k) .normal fr st=evK gS fi44 c44_6 fr st k:=rfl
theorem L44_6 (f:List Pred)(l:List Attr)(h_f:POk f)(h_l:l.length<4611686018427387904)(st:St):∀ (n i:Nat) (j:Int)  (e0 e6 e7 e8:E) (T:List (Nat × E)) (X:List (Nat × List V)) (ht0:e0.Tame) (ht6:e6.Tame) (ht7:e7.Tame) (ht8:e8.Tame) ,j=(i:Int)→i≤(f).length→(f).length - i=n →
  evK gS fi44 c44_6 {ps:=[(0,e0),(1,.val (.slice (encAttrs l))),(4,.val (.bool false)),(6,e6),(7,e7),(8,e8),(9,.val (.slice (encPreds f))),(10,.val (.int .i64 f.length)),(11,.val (.int .i64 j))],ts:=T,lc:=X} st (.blk 0 (.seq c44_27 .nil))=some ((.ret (.bool (ftakes (f.drop i) l)) none),st):=by
 intro n
 have hfl:=h_f.1
 induction n with
 | zero =>
  intro i j  e0 e6 e7 e8 T X ht0 ht6 ht7 ht8  hj hi hn
  obtain rfl:i=(f).length:=by omega
  subst hj
  refine evK_loop c44_7 _ st _ _ rfl ?_
  simp (config:={contextual:=true,maxSteps:=10000000,maxDischargeDepth:=6}) [-zil,-zit,-znl,-znt,ty3,ty4,ty9,ty29,ty42,ty88,ty91,eq88,H44,k77,k76,E44,n44_6,h_l,ht0,ht6,ht7,ht8]
  all_goals try simp (config:={contextual:=true}) [-zil,-zit,-znl,-znt,ftakes]
  all_goals first | done | grind | omega
 | succ n ih =>
  intro i j  e0 e6 e7 e8 T X ht0 ht6 ht7 ht8  hj hi hn
  subst hj
  obtain ⟨x,hx⟩  := qgx (l:=(f)) (i:=i) (by omega)
  have hd:=drop_get hx
  have hlt:(i:Int)<((f).length:Int):=by omega
  have hlt2:i<(f).length:=by omega
  have hxe:(f)[i]'hlt2=x:=by rw [zge hlt2] at hx;exact Option.some.inj hx
  have hw:IntKind.wrap .i64 ((i:Int)+1)=(i:Int)+1:=wrap64 (by omega) (by omega)
  have hpo:=h_f.get hx
  have hxo:=hpo.1
  have hxs:=hpo.2
  have IH:=fun e0 e6 e7 e8 T X ht0 ht6 ht7 ht8=>ih (i+1) ((i:Int)+1) e0 e6 e7 e8 T X ht0 ht6 ht7 ht8 rfl (by omega) (by omega)
  refine evK_loop c44_7 _ st _ _ rfl ?_
  simp (config:={contextual:=true,maxSteps:=10000000,maxDischargeDepth:=6}) [-zil,-zit,-znl,-znt,ty3,ty4,ty9,ty29,ty42,ty88,ty91,eq88,H44,k77,k76,E44,n44_6,h_l,ht0,ht6,ht7,ht8,hx,hxe,hd,hlt,hlt2,hw,IH,hxo,hxs]
  all_goals try simp (config:={contextual:=true}) [-zil,-zit,-znl,-znt,ftakes]
  all_goals first | done | grind | omega
theorem c44 (f:List Pred)(l:List Attr)(h_f:POk f)(h_l:l.length<4611686018427387904)(st:St):EvF gS 44 [.slice (encPreds f),.slice (encAttrs l)] st=some (.ret (.bool (ftakes f l)) none,st):=by
 refine EvF_start fi39_eq (fun x h=>by cases h) m44 ?_
 rw [st44]
 have hfl:=h_f.1
 simp (config:={contextual:=true,maxSteps:=10000000,maxDischargeDepth:=6}) [-zil,-zit,-znl,-znt,ty3,ty4,ty9,ty29,ty42,ty88,ty91,eq88,H44,k77,k76,E44,n44_6,(fun e0 e6 e7 e8 T X ht0 ht6 ht7 ht8=>L44_6 f l h_f h_l st _ 0 0  e0 e6 e7 e8 T X ht0 ht6 ht7 ht8 rfl (Nat.zero_le _) rfl),hfl]
 all_goals try simp (config:={contextual:=true}) [-zil,-zit,-znl,-znt,ftakes]
 all_goals first | done | grind | omega
theorem k44 (f:List Pred)(l:List Attr)(h_f:POk f)(h_l:l.length<4611686018427387904)(fr:Fr)(st:St):callStep gS (EvF gS) 44 [.slice (encPreds f),.slice (encAttrs l)] fr st=some (.ok (retE none (.bool (ftakes f l))) fr st) :=
 call_pure rfl fi39_eq rfl (fun st=>c44 f l h_f h_l st) (by simp)
def fi45:FI:={body:=codeOf Try.f45,ntmps:=17,results:=[.tmp 4],pers:=[0,1,4,6,7,8,9],locals:=[],pure:=true,marks:=[]}
theorem H45:fi45.marks=[]∧fi45.locals=[]∧fi45.results=[.tmp 4]:=⟨rfl,rfl,rfl⟩
theorem fi47_eq:gS.fn 45=some fi45:=by kernel_rfl
theorem st45 (a0 a1:V):startFr fi45 [a0,a1]={ps:=[(0,.val a0),(1,.val a1),(4,.any),(6,.any),(7,.any),(8,.any),(9,.any)],ts:=[],lc:=[]}:=rfl
def b45:Code:=mini (codeOf Try.f45)
def c45_20:Code:=.seq (codeN b45 9829) .ret
def c45_19:Code:=.cond (.tmp 15) c45_20 .skip
def c45_17:Code:=.seq (codeN b45 2661) c45_19
def c45_15:Code:=.seq (codeN b45 1125) c45_17
def c45_24:Code:=codeN b45 485
def c45_13:Code:=.seq (.block 1 c45_15) c45_24
def c45_9:Code:=.seq (.cond (.tmp 10) .skip (.exit 0)) c45_13
def c45_7:Code:=.seq (codeN b45 69) c45_9
def c45_6:Code:=.loop c45_7
def c45_5:Code:=.block 0 c45_6
def c45_3:Code:=.seq (codeN b45 9) c45_5
def c45_25:Code:=.seq (codeN b45 11) .ret
def c45_2:Code:=.seq c45_3 c45_25
def c45_0:Code:=.seq (codeN b45 2) c45_2
theorem E45:evK gS fi45 c45_20 fr st k=opsR gS fi45 [qA 4 true 4] fr st (.seq .ret k) ∧
 evK gS fi45 c45_19 fr st k=condK gS fi45 (fr.op (.tmp 15)).bool? c45_20 .skip fr st k ∧
 (evK gS fi45 c45_17 fr st k=opsR gS fi45 [mv 13 6 29,
 mv 14 1 42,
 cal 15 44 [(.tmp 13),(.tmp 14)] [29,42] 4] fr st (.seq c45_19 k)) ∧
 (evK gS fi45 c45_15 fr st k=opsR gS fi45 [ixa 11 77 7 9 0,
 ld 12 29 11 29,
 asn 6 12 29] fr st (.seq c45_17 k)) ∧
 (evK gS fi45 c45_24 fr st k=opsR gS fi45 [qB 16 .add 3 9 1 3 3,
 mv 9 16 3] fr st k) ∧
 evK gS fi45 c45_13 fr st k=evK gS fi45 c45_15 fr st (.blk 1 (.seq c45_24 k)) ∧
 evK gS fi45 c45_9 fr st k=condK gS fi45 (fr.op (.tmp 10)).bool? .skip (.exit 0) fr st (.seq c45_13 k) ∧
 evK gS fi45 c45_7 fr st k=opsR gS fi45 [bop 10 .lss 3 9 8 3 0] fr st (.seq c45_9 k) ∧
 evK gS fi45 c45_5 fr st k=evK gS fi45 c45_6 fr st (.blk 0 k) ∧
 (evK gS fi45 c45_3 fr st k=opsR gS fi45 [mv 7 0 77,
 len1 8 7 77 3,
 op1 9 (.move (.const (.int .i64 0))) 3] fr st (.seq c45_5 k)) ∧
 evK gS fi45 c45_25 fr st k=opsR gS fi45 [qA 4 false 4] fr st (.seq .ret k) ∧
 evK gS fi45 c45_2 fr st k=evK gS fi45 c45_3 fr st (.seq c45_25 k) ∧
 evK gS fi45 c45_0 fr st k=opsR gS fi45 [qA 4 false 4] fr st (.seq c45_2 k):=⟨evK_rs 5 rfl (by kernel_rfl),rfl,evK_rs 4 rfl (by kernel_rfl),evK_rs 3 rfl (by kernel_rfl),evK_r 6 (by kernel_rfl),rfl,rfl,evK_rs 2 rfl (by kernel_rfl),rfl,evK_rs 1 rfl (by kernel_rfl),evK_rs 7 rfl (by kernel_rfl),rfl,evK_rs 0 rfl (by kernel_rfl)⟩
theorem m45:mini fi45.body=c45_0:=by kernel_rfl
theorem n45_6 (fr:Fr)(st:St)(k:Kt):nextK gS fi45 (.loop c45_7 k) .normal fr st=evK gS fi45 c45_6 fr st k:=rfl
theorem L45_6 (l:List (List Pred))(a:List Attr)(h_l:∀ f∈l,POk f)(h_n:l.length<4611686018427387904)(h_a:a.length<4611686018427387904)(st:St):∀ (n i:Nat) (j:Int)  (e0 e6:E) (T:List (Nat × E)) (X:List (Nat × List V)) (ht0:e0.Tame) (ht6:e6.Tame) ,j=(i:Int)→i≤(l).length→(l).length - i=n →
  evK gS fi45 c45_6 {ps:=[(0,e0),(1,.val (.slice (encAttrs a))),(4,.val (.bool false)),(6,e6),(7,.val (.slice (encPredss l))),(8,.val (.int .i64 l.length)),(9,.val (.int .i64 j))],ts:=T,lc:=X} st (.blk 0 (.seq c45_25 .nil))=some ((.ret (.bool (fany (l.drop i) a)) none),st):=by
 intro n
 induction n with
 | zero =>
  intro i j  e0 e6 T X ht0 ht6  hj hi hn
  obtain rfl:i=(l).length:=by omega
  subst hj
  refine evK_loop c45_7 _ st _ _ rfl ?_
  simp (config:={contextual:=true,maxSteps:=10000000,maxDischargeDepth:=6}) [-zil,-zit,-znl,-znt,ty3,ty4,ty29,ty42,ty77,H45,k44,E45,n45_6,h_a,ht0,ht6]
  all_goals try simp (config:={contextual:=true}) [-zil,-zit,-znl,-znt,fany]
  all_goals first | done | grind | omega
 | succ n ih =>
  intro i j  e0 e6 T X ht0 ht6  hj hi hn
  subst hj
  obtain ⟨x,hx⟩  := qgx (l:=(l)) (i:=i) (by omega)
  have hd:=drop_get hx
  have hlt:(i:Int)<((l).length:Int):=by omega
  have hlt2:i<(l).length:=by omega
  have hxe:(l)[i]'hlt2=x:=by rw [zge hlt2] at hx;exact Option.some.inj hx
  have hw:IntKind.wrap .i64 ((i:Int)+1)=(i:Int)+1:=wrap64 (by omega) (by omega)
  have hpo:=h_l x (zmg hx)
  have IH:=fun e0 e6 T X ht0 ht6=>ih (i+1) ((i:Int)+1) e0 e6 T X ht0 ht6 rfl (by omega) (by omega)
  refine evK_loop c45_7 _ st _ _ rfl ?_
  simp (config:={contextual:=true,maxSteps:=10000000,maxDischargeDepth:=6}) [-zil,-zit,-znl,-znt,ty3,ty4,ty29,ty42,ty77,H45,k44,E45,n45_6,h_a,ht0,ht6,hx,hxe,hd,hlt,hlt2,hw,IH,hpo]
  all_goals try simp (config:={contextual:=true}) [-zil,-zit,-znl,-znt,fany]
  all_goals first | done | grind | omega
theorem c45 (l:List (List Pred))(a:List Attr)(h_l:∀ f∈l,POk f)(h_n:l.length<4611686018427387904)(h_a:a.length<4611686018427387904)(st:St):EvF gS 45 [.slice (encPredss l),.slice (encAttrs a)] st=some (.ret (.bool (fany l a)) none,st):=by
 refine EvF_start fi47_eq (fun x h=>by cases h) m45 ?_
 rw [st45]
 simp (config:={contextual:=true,maxSteps:=10000000,maxDischargeDepth:=6}) [-zil,-zit,-znl,-znt,ty3,ty4,ty29,ty42,ty77,H45,k44,E45,n45_6,(fun e0 e6 T X ht0 ht6=>L45_6 l a h_l h_n h_a st _ 0 0  e0 e6 T X ht0 ht6 rfl (Nat.zero_le _) rfl),h_n]
 all_goals try simp (config:={contextual:=true}) [-zil,-zit,-znl,-znt,fany]
 all_goals first | done | grind | omega
theorem k45 (l:List (List Pred))(a:List Attr)(h_l:∀ f∈l,POk f)(h_n:l.length<4611686018427387904)(h_a:a.length<4611686018427387904)(fr:Fr)(st:St):callStep gS (EvF gS) 45 [.slice (encPredss l),.slice (encAttrs a)] fr st=some (.ok (retE none (.bool (fany l a))) fr st) :=
 call_pure rfl fi47_eq rfl (fun st=>c45 l a h_l h_n h_a st) (by simp)
end
end Go.Proofs.Ytdoobejjedpcgaa
namespace Go.Proofs.Ytdoobejjedpcgaa
open Go Go.Ab
noncomputable section
variable (fr:Fr)(st:St)(k:Kt)
def fi95:FI:={body:=codeOf Try.f95,ntmps:=50,results:=[.tmp 4],pers:=[0,1,4,6,8,9,11,12,13,14,21,22,23,27,28,29],locals:=[6,8,11],pure:=true,marks:=[]}
theorem H95:fi95.marks=[]∧fi95.locals=[6,8,11]∧fi95.results=[.tmp 4]:=⟨rfl,rfl,rfl⟩
theorem fi43_eq:gS.fn 95=some fi95:=by kernel_rfl
theorem st95 (a0 a1:V):startFr fi95 [a0,a1]={ps:=[(0,.val a0),(1,.val a1),(4,.any),(6,.any),(8,.any),(9,.any),(11,.any),(12,.any),(13,.any),(14,.any),(21,.any),(22,.any),(23,.any),(27,.any),(28,.any),(29,.any)],ts:=[],lc:=[]}:=rfl
def b95:Code:=mini (codeOf Try.f95)
def c95_20:Code:=.seq (codeN b95 9829) .ret
def c95_19:Code:=.cond (.tmp 19) c95_20 .skip
def c95_17:Code:=.seq (codeN b95 2661) c95_19
def c95_15:Code:=.seq (codeN b95 1125) c95_17
def c95_24:Code:=codeN b95 485
def c95_13:Code:=.seq (.block 1 c95_15) c95_24
def c95_9:Code:=.seq (.cond (.tmp 15) .skip (.exit 0)) c95_13
def c95_7:Code:=.seq (codeN b95 69) c95_9
def c95_6:Code:=.loop c95_7
def c95_5:Code:=.block 0 c95_6
def c95_3:Code:=.seq (codeN b95 9) c95_5
def c95_57:Code:=codeN b95 3353803
def c95_55:Code:=.seq (codeN b95 2305227) c95_57
def c95_58:Code:=codeN b95 994507
def c95_53:Code:=.seq (.block 5 c95_55) c95_58
def c95_49:Code:=.seq (.cond (.tmp 30) .skip (.exit 4)) c95_53
def c95_47:Code:=.seq (codeN b95 142539) c95_49
def c95_46:Code:=.loop c95_47
def c95_45:Code:=.block 4 c95_46
def c95_43:Code:=.seq (codeN b95 19659) c95_45
def c95_62:Code:=.seq (codeN b95 81099) .ret
def c95_61:Code:=.cond (.tmp 48) c95_62 .skip
def c95_59:Code:=.seq (codeN b95 23755) c95_61
theorem e95_59:evK gS fi95 c95_59 fr st k=opsR gS fi95 [mv 47 9 4,
 op1 48 (.unOp .not 4 (.tmp 47)) 4] fr st (.seq c95_61 k):=evK_rs 16 rfl (by kernel_rfl)
def c95_42:Code:=.seq c95_43 c95_59
def c95_40:Code:=.seq (codeN b95 5323) c95_42
def c95_38:Code:=.seq (codeN b95 2251) c95_40
def c95_66:Code:=codeN b95 971
def c95_36:Code:=.seq (.block 3 c95_38) c95_66
def c95_32:Code:=.seq (.cond (.tmp 24) .skip (.exit 2)) c95_36
def c95_30:Code:=.seq (codeN b95 139) c95_32
def c95_29:Code:=.loop c95_30
def c95_28:Code:=.block 2 c95_29
def c95_26:Code:=.seq (codeN b95 19) c95_28
def c95_67:Code:=.seq (codeN b95 23) .ret
def c95_25:Code:=.seq c95_26 c95_67
theorem e95_25:evK gS fi95 c95_25 fr st k=evK gS fi95 c95_26 fr st (.seq c95_67 k):=rfl
def c95_2:Code:=.seq c95_3 c95_25
def c95_0:Code:=.seq (codeN b95 2) c95_2
theorem E95:evK gS fi95 c95_20 fr st k=opsR gS fi95 [qA 4 true 4] fr st (.seq .ret k) ∧
 evK gS fi95 c95_19 fr st k=condK gS fi95 (fr.op (.tmp 19)).bool? c95_20 .skip fr st k ∧
 (evK gS fi95 c95_17 fr st k=opsR gS fi95 [ld 18 91 6 91,
 cal 19 113 [(.tmp 18)] [91] 4] fr st (.seq c95_19 k)) ∧
 (evK gS fi95 c95_15 fr st k=opsR gS fi95 [ixa 16 29 12 14 0,
 ld 17 91 16 91,
 op1 6 (.alloc 91) 0,
 sto 91 6 17] fr st (.seq c95_17 k)) ∧
 (evK gS fi95 c95_24 fr st k=opsR gS fi95 [qB 20 .add 3 14 1 3 3,
 mv 14 20 3] fr st k) ∧
 evK gS fi95 c95_13 fr st k=evK gS fi95 c95_15 fr st (.blk 1 (.seq c95_24 k)) ∧
 evK gS fi95 c95_9 fr st k=condK gS fi95 (fr.op (.tmp 15)).bool? .skip (.exit 0) fr st (.seq c95_13 k) ∧
 evK gS fi95 c95_7 fr st k=opsR gS fi95 [bop 15 .lss 3 14 13 3 0] fr st (.seq c95_9 k) ∧
 evK gS fi95 c95_5 fr st k=evK gS fi95 c95_6 fr st (.blk 0 k) ∧
 (evK gS fi95 c95_3 fr st k=opsR gS fi95 [mv 12 1 29,
 len1 13 12 29 3,
 op1 14 (.move (.const (.int .i64 0))) 3] fr st (.seq c95_5 k)) ∧
 (evK gS fi95 c95_57 fr st k=opsR gS fi95 [mv 33 9 4,
 mv 34 33 4,
 qf 35 91 11 0 0 1 false,
 ql 36 9 35 9 1 false,
 qf 37 91 8 0 0 1 false,
 ql 38 9 37 9 1 false,
 qb 39 .eql 9 36 38 9 4 1 false,
 qm 40 39 4 1 false,
 ql 41 91 11 91 7 true,
 ql 42 91 8 91 7 true,
 mk (some 43) (.call {callee:=(.value (.func 114)),args:=#[(.tmp 41),(.tmp 42)],argTypes:=#[91,91]}) 4 (some (7,true)),
 mk (some 44) (.pick (.tmp 40) (.tmp 43) (.const (.bool false))) 4 (some (1,false)),
 qQ 45 34 true 44 4,
 asn 9 45 4] fr st k) ∧
 (evK gS fi95 c95_55 fr st k=opsR gS fi95 [ixa 31 29 27 29 0,
 ld 32 91 31 91,
 op1 11 (.alloc 91) 0,
 sto 91 11 32] fr st (.seq c95_57 k)) ∧
 (evK gS fi95 c95_58 fr st k=opsR gS fi95 [qB 46 .add 3 29 1 3 3,
 mv 29 46 3] fr st k) ∧
 evK gS fi95 c95_53 fr st k=evK gS fi95 c95_55 fr st (.blk 5 (.seq c95_58 k)) ∧
 evK gS fi95 c95_49 fr st k=condK gS fi95 (fr.op (.tmp 30)).bool? .skip (.exit 4) fr st (.seq c95_53 k) ∧
 evK gS fi95 c95_47 fr st k=opsR gS fi95 [bop 30 .lss 3 29 28 3 0] fr st (.seq c95_49 k) ∧
 evK gS fi95 c95_45 fr st k=evK gS fi95 c95_46 fr st (.blk 4 k) ∧
 (evK gS fi95 c95_43 fr st k=opsR gS fi95 [mv 27 1 29,
 len1 28 27 29 3,
 op1 29 (.move (.const (.int .i64 0))) 3] fr st (.seq c95_45 k)) ∧
 evK gS fi95 c95_62 fr st k=opsR gS fi95 [qA 4 false 4] fr st (.seq .ret k) ∧
 evK gS fi95 c95_61 fr st k=condK gS fi95 (fr.op (.tmp 48)).bool? c95_62 .skip fr st k ∧
 evK gS fi95 c95_42 fr st k=evK gS fi95 c95_43 fr st (.seq c95_59 k) ∧
 evK gS fi95 c95_40 fr st k=opsR gS fi95 [qA 9 false 4] fr st (.seq c95_42 k) ∧
 (evK gS fi95 c95_38 fr st k=opsR gS fi95 [ixa 25 29 21 23 0,
 ld 26 91 25 91,
 op1 8 (.alloc 91) 0,
 sto 91 8 26] fr st (.seq c95_40 k)) ∧
 (evK gS fi95 c95_66 fr st k=opsR gS fi95 [qB 49 .add 3 23 1 3 3,
 mv 23 49 3] fr st k) ∧
 evK gS fi95 c95_36 fr st k=evK gS fi95 c95_38 fr st (.blk 3 (.seq c95_66 k)) ∧
 evK gS fi95 c95_32 fr st k=condK gS fi95 (fr.op (.tmp 24)).bool? .skip (.exit 2) fr st (.seq c95_36 k) ∧
 evK gS fi95 c95_30 fr st k=opsR gS fi95 [bop 24 .lss 3 23 22 3 0] fr st (.seq c95_32 k) ∧
 evK gS fi95 c95_28 fr st k=evK gS fi95 c95_29 fr st (.blk 2 k) ∧
 (evK gS fi95 c95_26 fr st k=opsR gS fi95 [mv 21 0 29,
 len1 22 21 29 3,
 op1 23 (.move (.const (.int .i64 0))) 3] fr st (.seq c95_28 k)) ∧
 evK gS fi95 c95_67 fr st k=opsR gS fi95 [qA 4 true 4] fr st (.seq .ret k) ∧
 evK gS fi95 c95_2 fr st k=evK gS fi95 c95_3 fr st (.seq c95_25 k) ∧
 evK gS fi95 c95_0 fr st k=opsR gS fi95 [qA 4 false 4] fr st (.seq c95_2 k):=⟨evK_rs 5 rfl (by kernel_rfl),rfl,evK_rs 4 rfl (by kernel_rfl),evK_rs 3 rfl (by kernel_rfl),evK_r 6 (by kernel_rfl),rfl,rfl,evK_rs 2 rfl (by kernel_rfl),rfl,evK_rs 1 rfl (by kernel_rfl),evK_r 14 (by kernel_rfl),evK_rs 13 rfl (by kernel_rfl),evK_r 15 (by kernel_rfl),rfl,rfl,evK_rs 12 rfl (by kernel_rfl),rfl,evK_rs 11 rfl (by kernel_rfl),evK_rs 17 rfl (by kernel_rfl),rfl,rfl,evK_rs 10 rfl (by kernel_rfl),evK_rs 9 rfl (by kernel_rfl),evK_r 18 (by kernel_rfl),rfl,rfl,evK_rs 8 rfl (by kernel_rfl),rfl,evK_rs 7 rfl (by kernel_rfl),evK_rs 19 rfl (by kernel_rfl),rfl,evK_rs 0 rfl (by kernel_rfl)⟩
theorem m95:mini fi95.body=c95_0:=by kernel_rfl
theorem n95_6 (fr:Fr)(st:St)(k:Kt):nextK gS fi95 (.loop c95_7 k) .normal fr st=evK gS fi95 c95_6 fr st k:=rfl
theorem n95_46 (fr:Fr)(st:St)(k:Kt):nextK gS fi95 (.loop c95_47 k) .normal fr st=evK gS fi95 c95_46 fr st k:=rfl
theorem n95_29 (fr:Fr)(st:St)(k:Kt):nextK gS fi95 (.loop c95_30 k) .normal fr st=evK gS fi95 c95_29 fr st k:=rfl
theorem I95 (f g:List Pred)(h_f:POk f)(h_g:POk g)(p:Pred)(h_p:p.ok)(io:Nat)(hio:f[io]?=some p)(st:St)(R:Out × St)(fb:Bool)
  (H:∀ (e0 e6 e11 e12 e13 e14:E) (T:List (Nat × E)) (X:List (Nat × List V)) (ht0:e0.Tame) (ht6:e6.Tame) (ht11:e11.Tame) (ht12:e12.Tame) (ht13:e13.Tame) (ht14:e14.Tame) (hx8:lk X 8=some [.str p.name,.int .i64 p.test,.int .i64 p.v.kind,.int .i64 p.v.n,.float .f64 p.v.x,.str p.v.s,.bool p.v.b,.int .i64 p.w.kind,.int .i64 p.w.n,.float .f64 p.w.x,.str p.w.s,.bool p.w.b,.slice (encVals p.set)]),evK gS fi95 c95_59 {ps:=[(0,e0),(1,.val (.slice (encPreds g))),(4,.val (.bool false)),(6,e6),(8,.lp 8 0),(9,.val (.bool fb)),(11,e11),(12,e12),(13,e13),(14,e14),(21,.val (.slice (encPreds f))),(22,.val (.int .i64 f.length)),(23,.val (.int .i64 (io:Nat))),(27,.val (.slice (encPreds g))),(28,.val (.int .i64 g.length)),(29,.val (.int .i64 (g.length:Nat)))],ts:=T,lc:=X} st (.blk 3 (.seq c95_66 (.loop c95_30 (.blk 2 (.seq c95_67 .nil)))))=some R) :
  ∀ (n k:Nat) (b:Bool) (e0 e6 e11 e12 e13 e14:E) (T:List (Nat × E)) (X:List (Nat × List V)) (ht0:e0.Tame) (ht6:e6.Tame) (ht11:e11.Tame) (ht12:e12.Tame) (ht13:e13.Tame) (ht14:e14.Tame) (hx8:lk X 8=some [.str p.name,.int .i64 p.test,.int .i64 p.v.kind,.int .i64 p.v.n,.float .f64 p.v.x,.str p.v.s,.bool p.v.b,.int .i64 p.w.kind,.int .i64 p.w.n,.float .f64 p.w.x,.str p.w.s,.bool p.w.b,.slice (encVals p.set)]),k≤g.length→g.length - k=n→fb=(b || fcov1 p (g.drop k)) →
  evK gS fi95 c95_46 {ps:=[(0,e0),(1,.val (.slice (encPreds g))),(4,.val (.bool false)),(6,e6),(8,.lp 8 0),(9,.val (.bool b)),(11,e11),(12,e12),(13,e13),(14,e14),(21,.val (.slice (encPreds f))),(22,.val (.int .i64 f.length)),(23,.val (.int .i64 (io:Nat))),(27,.val (.slice (encPreds g))),(28,.val (.int .i64 g.length)),(29,.val (.int .i64 (k:Nat)))],ts:=T,lc:=X} st (.blk 4 (.seq c95_59 (.blk 3 (.seq c95_66 (.loop c95_30 (.blk 2 (.seq c95_67 .nil)))))))=some R:=by
 intro n
 have hgl:=h_g.1
 have hfl:=h_f.1
 have hpo1:=h_p.1
 have hpo2:=h_p.2
 have hil:io<f.length:=(List.getElem?_eq_some_iff.1 hio).1
 have hie:f[io]'hil=p:=(List.getElem?_eq_some_iff.1 hio).2
 induction n with
 | zero =>
  intro k b e0 e6 e11 e12 e13 e14 T X ht0 ht6 ht11 ht12 ht13 ht14 hx8 hk hn hb
  obtain rfl:k=g.length:=by omega
  refine evK_loop c95_47 _ st _ _ rfl ?_
  rw [List.drop_length] at hb
  have hb2:b=fb:=by rw [hb];simp [fcov1]
  subst hb2
  simp (config:={contextual:=true,maxSteps:=10000000,maxDischargeDepth:=6}) [ht0,ht6,ht11,ht12,ht13,ht14,hx8,-zil,-zit,-znl,-znt,ty3,ty4,ty9,ty29,ty91,H95,k113,k114,E95,e95_25,n95_6,n95_46,n95_29]
  all_goals first | done | (refine H _ _ _ _ _ _ _ _ ?_ <;> simp [ht0,ht6,ht11,ht12,ht13,ht14,hx8,];done) | skip
  all_goals (refine H _ _ _ _ _ _ _ _ ?_ ?_ ?_ ?_ ?_ ?_ ?_ <;> simp (config:={contextual:=true,maxSteps:=10000000,maxDischargeDepth:=6}) [ht0,ht6,ht11,ht12,ht13,ht14,hx8,])
 | succ n ih =>
  intro k b e0 e6 e11 e12 e13 e14 T X ht0 ht6 ht11 ht12 ht13 ht14 hx8 hk hn hb
  obtain ⟨x,hx⟩  := qgx (l:=g) (i:=k) (by omega)
  have hd:=drop_get hx
  have hlt:(k:Int)<(g.length:Int):=by omega
  have hlt2:k<g.length:=by omega
  have hxe:g[k]'hlt2=x:=by rw [zge hlt2] at hx;exact Option.some.inj hx
  have hw  := qws k (by omega)
  have hxo:=(h_g.get hx).1
  have hxs:=(h_g.get hx).2
  have hcast:((k+1:Nat):Int)=(k:Int)+1:=by omega
  rw [hd] at hb
  have hc:fcov1 p (x :: g.drop (k+1))=(decide (x.name=p.name) && pimplies x p || fcov1 p (g.drop (k+1))):=rfl
  rw [hc] at hb
  have IH:=fun b' hb' e0 e6 e11 e12 e13 e14 T X ht0 ht6 ht11 ht12 ht13 ht14 hx8=>ih (k+1) b' e0 e6 e11 e12 e13 e14 T X ht0 ht6 ht11 ht12 ht13 ht14 hx8 (by omega) (by omega) hb'
  refine evK_loop c95_47 _ st _ _ rfl ?_
  cases b with
  | true =>
   have IHc:=IH true (by rw [hb];rfl)
   simp (config:={contextual:=true,maxSteps:=10000000,maxDischargeDepth:=6}) [-zia,hio,hil,hie,hx,hxe,hlt,hlt2,hw,hxo,hxs,hpo1,hpo2,IHc,ht0,ht6,ht11,ht12,ht13,ht14,hx8,-zil,-zit,-znl,-znt,ty3,ty4,ty9,ty29,ty91,H95,k113,k114,E95,e95_25,n95_6,n95_46,n95_29]
  | false =>
   by_cases hne:x.name=p.name
   ·generalize hpi:pimplies x p=t at hb
    have IHc:=IH t (by rw [hb];simp [hne])
    have hpi2:pimplies ⟨p.name,x.test,x.v,x.w,x.set⟩ p=t:=by rw [← hne];exact hpi
    simp (config:={contextual:=true,maxSteps:=10000000,maxDischargeDepth:=6}) [-zia,hio,hil,hie,hx,hxe,hlt,hlt2,hw,hxo,hxs,hpo1,hpo2,IHc,hne,hpi2,ht0,ht6,ht11,ht12,ht13,ht14,hx8,-zil,-zit,-znl,-znt,ty3,ty4,ty9,ty29,ty91,H95,k113,k114,E95,e95_25,n95_6,n95_46,n95_29]
   ·have IHc:=IH false (by rw [hb];simp [hne])
    simp (config:={contextual:=true,maxSteps:=10000000,maxDischargeDepth:=6}) [-zia,hio,hil,hie,hx,hxe,hlt,hlt2,hw,hxo,hxs,hpo1,hpo2,IHc,hne,ht0,ht6,ht11,ht12,ht13,ht14,hx8,-zil,-zit,-znl,-znt,ty3,ty4,ty9,ty29,ty91,H95,k113,k114,E95,e95_25,n95_6,n95_46,n95_29]
theorem L95_29 (f g:List Pred)(h_f:POk f)(h_g:POk g)(st:St):∀ (n io:Nat) (e0 e6 e8 e9 e11 e12 e13 e14 e27 e28 e29:E) (T:List (Nat × E)) (X:List (Nat × List V)) (ht0:e0.Tame) (ht6:e6.Tame) (ht8:e8.Tame) (ht9:e9.Tame) (ht11:e11.Tame) (ht12:e12.Tame) (ht13:e13.Tame) (ht14:e14.Tame) (ht27:e27.Tame) (ht28:e28.Tame) (ht29:e29.Tame),io≤f.length→f.length - io=n →
  evK gS fi95 c95_29 {ps:=[(0,e0),(1,.val (.slice (encPreds g))),(4,.val (.bool false)),(6,e6),(8,e8),(9,e9),(11,e11),(12,e12),(13,e13),(14,e14),(21,.val (.slice (encPreds f))),(22,.val (.int .i64 f.length)),(23,.val (.int .i64 (io:Nat))),(27,e27),(28,e28),(29,e29)],ts:=T,lc:=X} st (.blk 2 (.seq c95_67 .nil))=some (.ret (.bool ((f.drop io).all fun p=>fcov1 p g)) none,st):=by
 intro n
 have hgl:=h_g.1
 have hfl:=h_f.1
 induction n with
 | zero =>
  intro io e0 e6 e8 e9 e11 e12 e13 e14 e27 e28 e29 T X ht0 ht6 ht8 ht9 ht11 ht12 ht13 ht14 ht27 ht28 ht29 hk hn
  obtain rfl:io=f.length:=by omega
  refine evK_loop c95_30 _ st _ _ rfl ?_
  simp (config:={contextual:=true,maxSteps:=10000000,maxDischargeDepth:=6}) [ht0,ht6,ht8,ht9,ht11,ht12,ht13,ht14,ht27,ht28,ht29,-zil,-zit,-znl,-znt,ty3,ty4,ty9,ty29,ty91,H95,k113,k114,E95,e95_59,e95_25,n95_6,n95_46,n95_29]
 | succ n ih =>
  intro io e0 e6 e8 e9 e11 e12 e13 e14 e27 e28 e29 T X ht0 ht6 ht8 ht9 ht11 ht12 ht13 ht14 ht27 ht28 ht29 hk hn
  obtain ⟨x,hx⟩  := qgx (l:=f) (i:=io) (by omega)
  have hd:=drop_get hx
  have hlt:(io:Int)<(f.length:Int):=by omega
  have hlt2:io<f.length:=by omega
  have hxe:f[io]'hlt2=x:=by rw [zge hlt2] at hx;exact Option.some.inj hx
  have hw  := qws io (by omega)
  have hxo:=(h_f.get hx).1
  have hxs:=(h_f.get hx).2
  have IH:=fun e0 e6 e8 e9 e11 e12 e13 e14 e27 e28 e29 T X ht0 ht6 ht8 ht9 ht11 ht12 ht13 ht14 ht27 ht28 ht29=>ih (io+1) e0 e6 e8 e9 e11 e12 e13 e14 e27 e28 e29 T X ht0 ht6 ht8 ht9 ht11 ht12 ht13 ht14 ht27 ht28 ht29 (by omega) (by omega)
  refine evK_loop c95_30 _ st _ _ rfl ?_
  have II:=fun H e0 e6 e11 e12 e13 e14 T X ht0 ht6 ht11 ht12 ht13 ht14 hx8=>I95 f g h_f h_g x (h_f.get hx) io hx st (.ret (.bool ((f.drop io).all fun p=>fcov1 p g)) none,st) (fcov1 x g) H g.length 0 false e0 e6 e11 e12 e13 e14 T X ht0 ht6 ht11 ht12 ht13 ht14 hx8 (Nat.zero_le _) (by omega) rfl
  simp (config:={contextual:=true,maxSteps:=10000000,maxDischargeDepth:=6}) [-zia,hx,hxe,hlt,hlt2,hxo,hxs,ht0,ht6,ht8,ht9,ht11,ht12,ht13,ht14,ht27,ht28,ht29,-zil,-zit,-znl,-znt,ty3,ty4,ty9,ty29,ty91,H95,k113,k114,E95,e95_59,e95_25,n95_6,n95_46,n95_29]
  refine II ?_ _ _ _ _ _ _ _ _ ?_ ?_ ?_ ?_ ?_ ?_ ?_
  ·intro e0 e6 e11 e12 e13 e14 T X ht0 ht6 ht11 ht12 ht13 ht14 hx8
   rw [hd,List.all_cons]
   cases hb:fcov1 x g with
   | true=>simp (config:={contextual:=true,maxSteps:=10000000,maxDischargeDepth:=6}) [-zia,IH,hw,hb,ht0,ht6,ht11,ht12,ht13,ht14,hx8,-zil,-zit,-znl,-znt,ty3,ty4,ty9,ty29,ty91,H95,k113,k114,E95,e95_59,e95_25,n95_6,n95_46,n95_29]
   | false=>simp (config:={contextual:=true,maxSteps:=10000000,maxDischargeDepth:=6}) [-zia,IH,hw,hb,ht0,ht6,ht11,ht12,ht13,ht14,hx8,-zil,-zit,-znl,-znt,ty3,ty4,ty9,ty29,ty91,H95,k113,k114,E95,e95_59,e95_25,n95_6,n95_46,n95_29]
  all_goals simp (config:={contextual:=true,maxSteps:=10000000,maxDischargeDepth:=6}) [ht0,ht6,ht8,ht9,ht11,ht12,ht13,ht14,ht27,ht28,ht29,]
theorem T95_25 (f:List Pred)(g:List Pred)(h_f:POk f)(h_g:POk g)(st:St)(e6 e8 e9 e11 e12 e13 e14 e21 e22 e23 e27 e28 e29:E)(T:List (Nat × E))(X:List (Nat × List V))(ht6:e6.Tame)(ht8:e8.Tame)(ht9:e9.Tame)(ht11:e11.Tame)(ht12:e12.Tame)(ht13:e13.Tame)(ht14:e14.Tame)(ht21:e21.Tame)(ht22:e22.Tame)(ht23:e23.Tame)(ht27:e27.Tame)(ht28:e28.Tame)(ht29:e29.Tame)  :
  evK gS fi95 c95_25 {ps:=[(0,.val (.slice (encPreds f))),(1,.val (.slice (encPreds g))),(4,.val (.bool false)),(6,e6),(8,e8),(9,e9),(11,e11),(12,e12),(13,e13),(14,e14),(21,e21),(22,e22),(23,e23),(27,e27),(28,e28),(29,e29)],ts:=T,lc:=X} st .nil=some (.ret (.bool (f.all fun p=>fcov1 p g)) none,st):=by
 have L0:=fun e0 e6 e8 e9 e11 e12 e13 e14 e27 e28 e29 T X ht0 ht6 ht8 ht9 ht11 ht12 ht13 ht14 ht27 ht28 ht29=>L95_29 f g h_f h_g st f.length 0 e0 e6 e8 e9 e11 e12 e13 e14 e27 e28 e29 T X ht0 ht6 ht8 ht9 ht11 ht12 ht13 ht14 ht27 ht28 ht29 (Nat.zero_le _) rfl
 simp only [show ((0:Nat):Int)=0 from rfl,List.drop_zero] at L0
 have hfl:=h_f.1
 have hgl:=h_g.1
 simp (config:={contextual:=true,maxSteps:=10000000,maxDischargeDepth:=6}) [-zil,-zit,-znl,-znt,ty3,ty4,ty9,ty29,ty91,H95,k113,k114,E95,e95_59,e95_25,n95_6,n95_46,n95_29,L0,ht6,ht8,ht9,ht11,ht12,ht13,ht14,ht21,ht22,ht23,ht27,ht28,ht29]
 all_goals first | done | grind | omega
theorem L95_6 (f:List Pred)(g:List Pred)(h_f:POk f)(h_g:POk g)(st:St):∀ (n i:Nat) (j:Int)  (e6 e8 e9 e11 e21 e22 e23 e27 e28 e29:E) (T:List (Nat × E)) (X:List (Nat × List V)) (ht6:e6.Tame) (ht8:e8.Tame) (ht9:e9.Tame) (ht11:e11.Tame) (ht21:e21.Tame) (ht22:e22.Tame) (ht23:e23.Tame) (ht27:e27.Tame) (ht28:e28.Tame) (ht29:e29.Tame) ,j=(i:Int)→i≤(g).length→(g).length - i=n →
  evK gS fi95 c95_6 {ps:=[(0,.val (.slice (encPreds f))),(1,.val (.slice (encPreds g))),(4,.val (.bool false)),(6,e6),(8,e8),(9,e9),(11,e11),(12,.val (.slice (encPreds g))),(13,.val (.int .i64 g.length)),(14,.val (.int .i64 j)),(21,e21),(22,e22),(23,e23),(27,e27),(28,e28),(29,e29)],ts:=T,lc:=X} st (.blk 0 (.seq c95_25 .nil))=some ((.ret (.bool ((g.drop i).any pvoid || f.all fun p=>fcov1 p g)) none),st):=by
 intro n
 have hgl:=h_g.1
 have hTT:=(fun e6 e8 e9 e11 e12 e13 e14 e21 e22 e23 e27 e28 e29 T X ht6 ht8 ht9 ht11 ht12 ht13 ht14 ht21 ht22 ht23 ht27 ht28 ht29=>T95_25 f g h_f h_g st e6 e8 e9 e11 e12 e13 e14 e21 e22 e23 e27 e28 e29 T X ht6 ht8 ht9 ht11 ht12 ht13 ht14 ht21 ht22 ht23 ht27 ht28 ht29)
 induction n with
 | zero =>
  intro i j  e6 e8 e9 e11 e21 e22 e23 e27 e28 e29 T X ht6 ht8 ht9 ht11 ht21 ht22 ht23 ht27 ht28 ht29  hj hi hn
  obtain rfl:i=(g).length:=by omega
  subst hj
  refine evK_loop c95_7 _ st _ _ rfl ?_
  simp (config:={contextual:=true,maxSteps:=10000000,maxDischargeDepth:=6}) [-zil,-zit,-znl,-znt,ty3,ty4,ty9,ty29,ty91,H95,k113,k114,E95,e95_59,n95_6,n95_46,n95_29,hTT,ht6,ht8,ht9,ht11,ht21,ht22,ht23,ht27,ht28,ht29]
  all_goals first | done | grind | omega
 | succ n ih =>
  intro i j  e6 e8 e9 e11 e21 e22 e23 e27 e28 e29 T X ht6 ht8 ht9 ht11 ht21 ht22 ht23 ht27 ht28 ht29  hj hi hn
  subst hj
  obtain ⟨x,hx⟩  := qgx (l:=(g)) (i:=i) (by omega)
  have hd:=drop_get hx
  have hlt:(i:Int)<((g).length:Int):=by omega
  have hlt2:i<(g).length:=by omega
  have hxe:(g)[i]'hlt2=x:=by rw [zge hlt2] at hx;exact Option.some.inj hx
  have hw:IntKind.wrap .i64 ((i:Int)+1)=(i:Int)+1:=wrap64 (by omega) (by omega)
  have hpo:=h_g.get hx
  have hxo:=hpo.1
  have hxs:=hpo.2
  have IH:=fun e6 e8 e9 e11 e21 e22 e23 e27 e28 e29 T X ht6 ht8 ht9 ht11 ht21 ht22 ht23 ht27 ht28 ht29=>ih (i+1) ((i:Int)+1) e6 e8 e9 e11 e21 e22 e23 e27 e28 e29 T X ht6 ht8 ht9 ht11 ht21 ht22 ht23 ht27 ht28 ht29 rfl (by omega) (by omega)
  refine evK_loop c95_7 _ st _ _ rfl ?_
  simp (config:={contextual:=true,maxSteps:=10000000,maxDischargeDepth:=6}) [-zil,-zit,-znl,-znt,ty3,ty4,ty9,ty29,ty91,H95,k113,k114,E95,e95_59,n95_6,n95_46,n95_29,hTT,ht6,ht8,ht9,ht11,ht21,ht22,ht23,ht27,ht28,ht29,hx,hxe,hd,hlt,hlt2,hw,IH,hxo,hxs]
  all_goals first | done | grind | omega
theorem c95 (f:List Pred)(g:List Pred)(h_f:POk f)(h_g:POk g)(st:St):EvF gS 95 [.slice (encPreds f),.slice (encPreds g)] st=some (.ret (.bool (fcovers f g)) none,st):=by
 refine EvF_start fi43_eq (fun x h=>by cases h) m95 ?_
 rw [st95]
 have hgl:=h_g.1
 simp (config:={contextual:=true,maxSteps:=10000000,maxDischargeDepth:=6}) [-zil,-zit,-znl,-znt,ty3,ty4,ty9,ty29,ty91,H95,k113,k114,E95,e95_59,n95_6,n95_46,n95_29,(fun e6 e8 e9 e11 e21 e22 e23 e27 e28 e29 T X ht6 ht8 ht9 ht11 ht21 ht22 ht23 ht27 ht28 ht29=>L95_6 f g h_f h_g st _ 0 0  e6 e8 e9 e11 e21 e22 e23 e27 e28 e29 T X ht6 ht8 ht9 ht11 ht21 ht22 ht23 ht27 ht28 ht29 rfl (Nat.zero_le _) rfl),hgl]
 all_goals try simp (config:={contextual:=true}) [-zil,-zit,-znl,-znt,fcovers]
 all_goals first | done | grind | omega
theorem k95 (f:List Pred)(g:List Pred)(h_f:POk f)(h_g:POk g)(fr:Fr)(st:St):callStep gS (EvF gS) 95 [.slice (encPreds f),.slice (encPreds g)] fr st=some (.ok (retE none (.bool (fcovers f g))) fr st) :=
 call_pure rfl fi43_eq rfl (fun st=>c95 f g h_f h_g st) (by simp)
end
end Go.Proofs.Ytdoobejjedpcgaa
namespace Go.Ab
open Go
theorem nw_obj (st:St)(m:Nat)(cs:List V):St.obj (nw st m cs) (st.objs.length+m)=some cs:=gr_obj st m cs
theorem nw_set {st:St} (h:st.wp≤st.objs.length)(m:Nat)(cs cs':List V):St.set (nw st m cs) (st.objs.length+m) cs'=some (nw st m cs'):=by
 unfold St.set
 rw [if_pos (by rw [gr_wp];omega)]
 unfold nw
 simp only [Option.some.injEq,St.mk.injEq,and_true]
 rw [List.set_append_right _ _ (by omega),Nat.add_sub_cancel_left,List.set_append_right _ _ (by simp),List.length_replicate,Nat.sub_self]
 rfl
theorem nw_dead (st:St)(m:Nat):nw st m []=dd st (m+1):=by
 unfold nw dd
 rw [List.replicate_succ']
theorem nw_kill {st:St} (h:st.wp≤st.objs.length)(m:Nat)(cs:List V):St.set (nw st m cs) (st.objs.length+m) []=some (dd st (m+1)):=by
 rw [nw_set h,nw_dead]
theorem newRef_0 (st:St)(fr:Fr)(k len:Nat)(cs:List V):newRef fr st k len cs=.ok (.val (.sref false k st.objs.length 0 len)) fr (nw st 0 cs):=by
 unfold newRef nw
 simp
variable {α:Type}
theorem row_len (c:α→List V)(k:Nat)(hc:∀ x,(c x).length=k):∀ l:List α,(l.flatMap c).length=l.length*k
 | []=>by simp
 | x :: r=>by rw [List.flatMap_cons,zla,hc,row_len c k hc r,List.length_cons,Nat.succ_mul];omega
theorem row_get (c:α→List V)(k:Nat)(hc:∀ x,(c x).length=k) {l:List α} {i j:Nat} {x:α} (hx:l[i]?=some x)(hj:j<k):(l.flatMap c)[i*k+j]?=(c x)[j]?:=by
 have hs:l=l.take i ++ x :: l.drop (i+1):=by
  have h1:=List.take_append_drop i l
  rw [drop_get hx] at h1
  exact h1.symm
 have hl:(l.take i).length=i:=by
  have:=(List.getElem?_eq_some_iff.1 hx).1
  simp;omega
 rw [hs,List.flatMap_append,List.getElem?_append_right (by rw [row_len c k hc,hl];omega),row_len c k hc,hl,Nat.add_sub_cancel_left,List.flatMap_cons,List.getElem?_append_left (by rw [hc];exact hj)]
theorem row_splice (c:α→List V)(k:Nat)(hc:∀ x,(c x).length=k) {l:List α} {i j:Nat} {x y:α} {vs:List V} (hx:l[i]?=some x)(hs:splice (c x) j vs=some (c y)) :
  splice (l.flatMap c) (i*k+j) vs=some ((l.set i y).flatMap c):=by
 have hil:=(List.getElem?_eq_some_iff.1 hx).1
 have hsl:l=l.take i ++ x :: l.drop (i+1):=by
  have h1:=List.take_append_drop i l
  rw [drop_get hx] at h1
  exact h1.symm
 have hl:(l.take i).length=i:=by simp;omega
 have hset:l.set i y=l.take i ++ y :: l.drop (i+1):=by
  conv=>lhs;rw [hsl]
  rw [List.set_append_right _ _ (by rw [hl];omega),hl,Nat.sub_self]
  rfl
 have hA:((l.take i).flatMap c).length=i*k:=by rw [row_len c k hc,hl]
 unfold splice at hs ⊢
 split at hs
 ·rename_i hle
  have hs':=Option.some.inj hs
  rw [hc] at hle
  rw [hset,List.flatMap_append,List.flatMap_cons,← hs']
  conv=>lhs;rw [hsl]
  rw [List.flatMap_append,List.flatMap_cons]
  generalize (l.take i).flatMap c=A at hA ⊢
  generalize (l.drop (i+1)).flatMap c=C
  have hB:=hc x
  generalize c x=B at hB hs' ⊢
  rw [if_pos (by simp only [zla];omega)]
  congr 1
  rw [← hA,List.take_append,List.take_of_length_le (by omega),Nat.add_sub_cancel_left,List.take_append_of_le_length (by omega),List.drop_append,List.drop_of_length_le (by omega),show A.length+j+vs.length - A.length=j+vs.length by omega,List.drop_append_of_le_length (by omega)]
  simp [zaa]
 ·cases hs
theorem row_one (c:α→List V)(hc:∀ x,(c x).all V.one=true):∀ l:List α,(l.flatMap c).all V.one=true
 | []=>rfl
 | x :: r=>by rw [List.flatMap_cons,List.all_append,hc x,row_one c hc r];rfl
theorem flats_append:∀ (a b:List V),flats (a ++ b)=(flats a && flats b)
 | [],_=>by simp [flats]
 | v :: a,b=>by simp only [List.cons_append,flats,flats_append a b,Bool.and_assoc]
theorem row_flats (c:α→List V)(hc:∀ x,flats (c x)=true):∀ l:List α,flats (l.flatMap c)=true
 | []=>rfl
 | x :: r=>by rw [List.flatMap_cons,flats_append,hc x,row_flats c hc r];rfl
theorem row_strip (c d:α→List V)(hc:∀ x,(c x).map V.strip1=d x):∀ l:List α,(l.flatMap c).map V.strip1=l.flatMap d
 | []=>rfl
 | x :: r=>by rw [List.flatMap_cons,List.map_append,hc x,row_strip c d hc r,List.flatMap_cons]
theorem frz_row {st st1:St} (n id k:Nat)(hk:0<k)(c d:α→List V)(hc:∀ x,(c x).length=k)(hd:∀ x,(d x).length=k)(hcd:∀ x,(c x).map V.strip1=d x)(h1:∀ x,(d x).all V.one=true)(hf:∀ x,flats (d x)=true)
  (l:List α) (hl:l≠[]) (ho:St.obj st id=some (l.flatMap c)) (hs:St.set st id []=some st1):frz (n+1) st (.sref false k id 0 l.length)=some (.slice (chunk (Nat.blt 1 k) k l.length (l.flatMap d)),st1):=by
 have hne:¬ l.length=0:=by simpa using hl
 unfold frz
 simp only [hne,if_false,ho,hs,row_len c k hc,List.drop_zero,Nat.zero_add,Nat.le_refl,and_true,hk,if_true]
 rw [List.take_of_length_le (by rw [row_len c k hc];omega),row_strip c d hcd,frzL_flat _ _ _ (row_flats d hf l)]
 simp only [row_len d k hd,row_one d h1 l,and_self,if_true]
def Pred.cellsO (q:Pred × Bool):List V:=[.str q.1.name,.int .i64 q.1.test,.int .i64 q.1.v.kind,.int .i64 q.1.v.n,.float .f64 q.1.v.x,.str q.1.v.s,.bool q.1.v.b,.int .i64 q.1.w.kind,.int .i64 q.1.w.n,.float .f64 q.1.w.x,.str q.1.w.s,.bool q.1.w.b,if q.2 then .osl 5 (encVals q.1.set) else .slice (encVals q.1.set)]
theorem cellsO_len (q:Pred × Bool):(Pred.cellsO q).length=13:=rfl
theorem cells_len (q:Pred × Bool):(Pred.cells q.1).length=13:=rfl
theorem cellsO_strip (q:Pred × Bool):(Pred.cellsO q).map V.strip1=Pred.cells q.1:=by
 obtain ⟨p,b⟩:=q
 cases b <;> rfl
theorem cells_one (q:Pred × Bool):(Pred.cells q.1).all V.one=true:=rfl
theorem cells_flats (q:Pred × Bool):flats (Pred.cells q.1)=true:=by simp [flats,V.flat]
theorem chunk_preds:∀ (l:List (Pred × Bool)),chunk true 13 l.length (l.flatMap fun q=>Pred.cells q.1)=encPreds (l.map (·.1))
 | []=>rfl
 | x :: r=>by
  rw [List.length_cons,chunk,List.flatMap_cons,List.take_left' (cells_len x),List.drop_left' (cells_len x),chunk_preds r];rfl
theorem call_pure' {g:G} {f:Nat} {args:List V} {fr:Fr} {st:St} {fi:FI} {v:V} {k:Option Nat} (hx:g.ext f=none)(hf:g.fn f=some fi)(hp:fi.pure=true)(ha:flats args=true)
  (h:∃ st',EvF g f args ⟨[],0⟩=some (.ret v k,st')) (hv:v.flat=true):callStep g (EvF g) f args fr st=some (.ok (retE k v) fr st):=by
 obtain ⟨st',h⟩:=h
 unfold callStep
 simp only [hx,hf,hp,if_true,ha,h,hv]
end Go.Ab
namespace Go.Proofs.Ytdoobejjedpcgaa
open Go Go.Ab
noncomputable section
variable (fr:Fr)(st:St)(k:Kt)
theorem preds_cells (f:List Pred):(encPreds f).flatMap V.cells=(f.map fun p=>(p,false)).flatMap Pred.cellsO:=by
 induction f with
 | nil=>rfl
 | cons x r ih=>simp only [encPreds,List.map_cons,List.flatMap_cons] at ih ⊢;rw [ih];rfl
theorem map_fst (f:List Pred):(f.map fun p=>(p,false)).map (·.1)=f:=by induction f with
 | nil=>rfl
 | cons x r ih=>simp only [List.map_cons,ih]
theorem sizes_vals (l:List Val):sizesOk 5 (encVals l)=true:=by
 induction l with
 | nil=>rfl
 | cons x r ih=>simp only [encVals,List.map_cons,sizesOk] at ih ⊢;rw [ih];rfl
theorem sizes_preds (l:List Pred):sizesOk 13 (encPreds l)=true:=by
 induction l with
 | nil=>rfl
 | cons x r ih=>simp only [encPreds,List.map_cons,sizesOk] at ih ⊢;rw [ih];rfl
def PSm (f:List Pred):Prop:=f.length≤1000000∧∀ p∈f,p.name.length<4611686018427387904∧p.set.length*48≤140737488355328
theorem PSm.ok {f:List Pred} (h:PSm f):POk f:=⟨by have:=h.1;omega,fun p hp=>⟨(h.2 p hp).1,by have:=(h.2 p hp).2;omega⟩⟩
def fi50:FI:={body:=codeOf Try.f50,ntmps:=24,results:=[.tmp 2],pers:=[0,2,3,4,8,9],locals:=[],pure:=true,marks:=[6,1000000]}
theorem H50:fi50.marks=[6,1000000]∧fi50.locals=[]∧fi50.results=[.tmp 2]:=⟨rfl,rfl,rfl⟩
theorem fi45_eq:gS.fn 50=some fi50:=by kernel_rfl
theorem st50 (a0:V):startFr fi50 [a0]={ps:=[(0,.val a0),(2,.any),(3,.any),(4,.any),(8,.any),(9,.any)],ts:=[],lc:=[]}:=rfl
def b50:Code:=mini (codeOf Try.f50)
def c50_19:Code:=codeN b50 3275
def c50_17:Code:=.seq (codeN b50 2251) c50_19
def c50_20:Code:=codeN b50 971
def c50_15:Code:=.seq (.block 1 c50_17) c50_20
def c50_11:Code:=.seq (.cond (.tmp 10) .skip (.exit 0)) c50_15
def c50_9:Code:=.seq (codeN b50 139) c50_11
def c50_8:Code:=.loop c50_9
def c50_7:Code:=.block 0 c50_8
def c50_5:Code:=.seq (codeN b50 19) c50_7
def c50_21:Code:=.seq (codeN b50 23) .ret
def c50_4:Code:=.seq c50_5 c50_21
def c50_2:Code:=.seq (codeN b50 5) c50_4
def c50_0:Code:=.seq (codeN b50 2) c50_2
theorem E50:(evK gS fi50 c50_19 fr st k=opsR gS fi50 [mv 12 3 29,
 mv 13 4 3,
 mv 14 3 29,
 mv 15 4 3,
 ixa 16 29 14 15 0,
 qF 17 91 16 4 0,
 ld 18 89 17 89,
 op1 19 (.call {callee:=(.builtin .append),args:=#[(.const (.slice none 0 0)),(.tmp 18)],argTypes:=#[89,89]}) 89,
 ixa 20 29 12 13 0,
 qF 21 91 20 4 0,
 sto 89 21 19] fr st k) ∧
 (evK gS fi50 c50_17 fr st k=opsR gS fi50 [mv 11 9 3,
 asn 4 11 3] fr st (.seq c50_19 k)) ∧
 (evK gS fi50 c50_20 fr st k=opsR gS fi50 [qB 22 .add 3 9 1 3 3,
 mv 9 22 3] fr st k) ∧
 evK gS fi50 c50_15 fr st k=evK gS fi50 c50_17 fr st (.blk 1 (.seq c50_20 k)) ∧
 evK gS fi50 c50_11 fr st k=condK gS fi50 (fr.op (.tmp 10)).bool? .skip (.exit 0) fr st (.seq c50_15 k) ∧
 evK gS fi50 c50_9 fr st k=opsR gS fi50 [bop 10 .lss 3 9 8 3 0] fr st (.seq c50_11 k) ∧
 evK gS fi50 c50_7 fr st k=evK gS fi50 c50_8 fr st (.blk 0 k) ∧
 (evK gS fi50 c50_5 fr st k=opsR gS fi50 [mv 7 3 29,
 len1 8 7 29 3,
 op1 9 (.move (.const (.int .i64 0))) 3] fr st (.seq c50_7 k)) ∧
 (evK gS fi50 c50_21 fr st k=opsR gS fi50 [mv 23 3 29,
 asn 2 23 29] fr st (.seq .ret k)) ∧
 evK gS fi50 c50_4 fr st k=evK gS fi50 c50_5 fr st (.seq c50_21 k) ∧
 (evK gS fi50 c50_2 fr st k=opsR gS fi50 [mv 5 0 29,
 op1 6 (.call {callee:=(.builtin .append),args:=#[(.const (.slice none 0 0)),(.tmp 5)],argTypes:=#[29,29]}) 29,
 asn 3 6 29] fr st (.seq c50_4 k)) ∧
 evK gS fi50 c50_0 fr st k=opsR gS fi50 [qN 2 29] fr st (.seq c50_2 k):=⟨evK_r 5 (by kernel_rfl),evK_rs 4 rfl (by kernel_rfl),evK_r 6 (by kernel_rfl),rfl,rfl,evK_rs 3 rfl (by kernel_rfl),rfl,evK_rs 2 rfl (by kernel_rfl),evK_rs 7 rfl (by kernel_rfl),rfl,evK_rs 1 rfl (by kernel_rfl),evK_rs 0 rfl (by kernel_rfl)⟩
theorem m50:mini fi50.body=c50_0:=by kernel_rfl
theorem n50_8 (fr:Fr)(st:St)(k:Kt):nextK gS fi50 (.loop c50_9 k) .normal fr st=evK gS fi50 c50_8 fr st k:=rfl
theorem L50_8 (f:List Pred)(h_f:PSm f)(hne:f≠[])(st:St)(hst:st.wp≤st.objs.length):∀ (n i:Nat) (l:List (Pred × Bool)) (e0 e4:E) (T:List (Nat × E)) (X:List (Nat × List V)) (ht0:e0.Tame) (ht4:e4.Tame),l.map (·.1)=f→i≤f.length→f.length - i=n →
  evK gS fi50 c50_8 {ps:=[(0,e0),(2,.own 0 []),(3,.val (.sref false 13 st.objs.length 0 f.length)),(4,e4),(8,.val (.int .i64 f.length)),(9,.val (.int .i64 i))],ts:=T,lc:=X} (nw st 0 (l.flatMap Pred.cellsO)) (.blk 0 (.seq c50_21 .nil))=some (.ret (.slice (encPreds f)) none,dd st 1):=by
 intro n
 have hm:fi50.marks=[6,1000000]:=rfl
 have hl:fi50.locals=[]:=rfl
 have hr:fi50.results=[.tmp 2]:=rfl
 have hfl:=h_f.1
 induction n with
 | zero =>
  intro i l e0 e4 T X ht0 ht4 hl hi hn
  obtain rfl:i=f.length:=by omega
  have hll:l.length=f.length:=by rw [← hl];simp
  have hfz:=frz_row (st:=nw st 0 (l.flatMap Pred.cellsO)) 5 st.objs.length 13 (by omega) Pred.cellsO (fun q=>Pred.cells q.1) cellsO_len cells_len cellsO_strip cells_one cells_flats l (by intro e;subst e;exact hne hl.symm) (nw_obj st 0 _) (nw_kill hst 0 _)
  rw [hll,show Nat.blt 1 13=true from rfl,← hll,chunk_preds,hl,hll] at hfz
  refine evK_loop c50_9 _ _ _ _ rfl ?_
  simp [ht0,ht4,hfz,-zil,-zit,-znl,-znt,ty3,ty29,ty89,ty91,hm,hl,hr,E50,n50_8]
 | succ n ih =>
  intro i l e0 e4 T X ht0 ht4 hl hi hn
  have hll:l.length=f.length:=by rw [← hl];simp
  obtain ⟨q,hq⟩:∃ q,l[i]?=some q:=⟨l[i]'(by omega),zge (by omega)⟩
  have hlt:(i:Int)<(f.length:Int):=by omega
  have hlt2:i<f.length:=by omega
  have hw  := qws i (by omega)
  have hqm:q.1∈f:=by rw [← hl];exact List.mem_map.2 ⟨q,zmg hq,rfl⟩
  have hqs:=(h_f.2 q.1 hqm).2
  have hqs2:q.1.set.length≤140737488355328:=by omega
  have hob:=nw_obj st 0 (l.flatMap Pred.cellsO)
  have hget:=row_get Pred.cellsO 13 cellsO_len hq (j:=12) (by omega)
  have hspl:=row_splice Pred.cellsO 13 cellsO_len (j:=12) (y:=(q.1,true)) (vs:=[.osl 5 (encVals q.1.set)]) hq rfl
  have hset:=nw_set hst 0 (l.flatMap Pred.cellsO) ((l.set i (q.1,true)).flatMap Pred.cellsO)
  have hl2:(l.set i (q.1,true)).map (·.1)=f:=by
   rw [List.map_set,hl]
   apply List.ext_getElem?
   intro j
   rw [List.getElem?_set]
   split
   ·rename_i hj;subst hj
    rw [← hl,List.getElem?_map,hq]
    rfl
   ·rfl
  have IH:=fun e0 e4 T X ht0 ht4=>ih (i+1) (l.set i (q.1,true)) e0 e4 T X ht0 ht4 hl2 (by omega) (by omega)
  rw [Nat.add_zero] at hob hset
  have hsz:=sizes_vals q.1.set
  obtain ⟨p,b⟩:=q
  refine evK_loop c50_9 _ _ _ _ rfl ?_
  simp only [Pred.cellsO] at hget
  cases b with
  | true =>
   simp only [List.getElem?_cons_succ,List.getElem?_cons_zero,if_true] at hget
   simp [-zia,-St.obj,-St.set,-splice,ht0,ht4,hlt,hlt2,hw,hob,hget,hspl,hset,hqs,hqs2,hsz,IH,-zil,-zit,-znl,-znt,ty3,ty29,ty89,ty91,hm,hl,hr,E50,n50_8]
  | false =>
   simp only [List.getElem?_cons_succ,List.getElem?_cons_zero,Bool.false_eq_true,if_false] at hget
   simp [-zia,-St.obj,-St.set,-splice,ht0,ht4,hlt,hlt2,hw,hob,hget,hspl,hset,hqs,hqs2,hsz,IH,-zil,-zit,-znl,-znt,ty3,ty29,ty89,ty91,hm,hl,hr,E50,n50_8]
theorem c50 (f:List Pred)(h_f:PSm f)(st:St)(hst:st.wp≤st.objs.length):∃ st',EvF gS 50 [.slice (encPreds f)] st=some (.ret (.slice (encPreds f)) none,st'):=by
 by_cases hne:f=[]
 ·refine ⟨st,?_⟩
  refine EvF_start fi45_eq (fun x h=>by cases h) m50 ?_
  rw [st50]
  subst hne
  have hz:∀ st,frz 6 st (.sref true 0 0 0 0)=some (.slice [],st):=fun st=>frz_nil 5 st
  simp [markStep,markAppend,elemsAt,encPreds,-zil,-zit,-znl,-znt,ty3,ty29,ty89,ty91,H50,E50,n50_8]
  refine evK_loop c50_9 _ _ _ _ rfl ?_
  simp [hz,-zil,-zit,-znl,-znt,ty3,ty29,ty89,ty91,H50,E50,n50_8]
 ·refine ⟨dd st 1,?_⟩
  refine EvF_start fi45_eq (fun x h=>by cases h) m50 ?_
  rw [st50]
  have hfl:=h_f.1
  have hfe:(encPreds f).isEmpty=false:=by cases f with | nil=>exact absurd rfl hne | cons _ _=>rfl
  have hpc:=preds_cells f
  have hsp:=sizes_preds f
  have h1:f.length*144≤140737488355328:=by omega
  have h2:f.length≤140737488355328:=by omega
  have hnr:=fun fr k len cs=>newRef_0 st fr k len cs
  have L0:=fun e0 e4 T X ht0 ht4=>L50_8 f h_f hne st hst f.length 0 (f.map fun p=>(p,false)) e0 e4 T X ht0 ht4 (map_fst f) (Nat.zero_le _) rfl
  simp only [show ((0:Nat):Int)=0 from rfl] at L0
  simp [-St.obj,-St.set,hfe,hpc,hsp,h1,h2,hnr,L0,markStep,markAppend,elemsAt,hne,-zil,-zit,-znl,-znt,ty3,ty29,ty89,ty91,H50,E50,n50_8]
  all_goals first | done | skip
end
end Go.Proofs.Ytdoobejjedpcgaa
namespace Go.Ab
open Go
section
variable {α:Type}
theorem row_drop (c:α→List V)(k:Nat)(hc:∀ x,(c x).length=k):∀ (l:List α) (i:Nat),(l.flatMap c).drop (i*k)=(l.drop i).flatMap c
 | [],i=>by simp
 | x :: r,0=>by simp
 | x :: r,i+1=>by
  rw [List.flatMap_cons,List.drop_succ_cons,← row_drop c k hc r i,List.drop_append,hc,List.drop_of_length_le (by rw [hc,Nat.succ_mul];omega),List.nil_append,Nat.succ_mul,Nat.add_sub_cancel]
theorem row_take (c:α→List V)(k:Nat)(hc:∀ x,(c x).length=k):∀ (l:List α) (i:Nat),(l.flatMap c).take (i*k)=(l.take i).flatMap c
 | [],i=>by simp
 | x :: r,0=>by simp
 | x :: r,i+1=>by
  rw [List.flatMap_cons,List.take_succ_cons,List.flatMap_cons,← row_take c k hc r i,List.take_append,hc,List.take_of_length_le (by rw [hc,Nat.succ_mul];omega),Nat.succ_mul,Nat.add_sub_cancel]
theorem row_splices (c:α→List V)(k:Nat)(hc:∀ x,(c x).length=k)(l m:List α)(i:Nat)(h:i+m.length≤l.length):splice (l.flatMap c) (i*k) (m.flatMap c)=some ((l.take i ++ m ++ l.drop (i+m.length)).flatMap c):=by
 unfold splice
 rw [row_len c k hc,row_len c k hc,if_pos (by rw [← Nat.add_mul];exact Nat.mul_le_mul_right k h),row_take c k hc,← Nat.add_mul,row_drop c k hc,List.flatMap_append,List.flatMap_append]
end
def N4:List (List UInt8):=[[97],[98],[99],[108,111,110,103]]
def nameV (l:List Int)(a j:Nat):List UInt8:=N4.getD ((fd l a j 12).toNat / 3 % 4) []
def A5:List (List UInt8 × Int):=[([97],0),([98],0),([99],0),([100],1),([108,111,110,103],1)]
def attrsG (l:List Int)(a:Nat):List (List UInt8 × Int)→Nat→List Attr × Nat
 | [],j=>([],j)
 | (nm,q) :: r,j=>if fd l a j 3 > q then (⟨nm,valueV l a (j+1)⟩ :: (attrsG l a r (j+3)).1,(attrsG l a r (j+3)).2) else attrsG l a r (j+1)
def attrsV (l:List Int)(a j:Nat):List Attr × Nat:=attrsG l a A5 j
def insN (f:List Pred)(nm:List UInt8):Nat→Nat
 | 0=>0
 | k+1=>if sgt ((f[k]?).getD ⟨[],0,vzero,vzero,[]⟩).name nm then insN f nm k else k+1
theorem insN_le (f:List Pred)(nm:List UInt8):∀ k,insN f nm k≤k
 | 0=>Nat.le_refl _
 | k+1=>by
  unfold insN;split
  ·exact Nat.le_succ_of_le (insN_le f nm k)
  ·exact Nat.le_refl _
def insP (f:List Pred)(p:Pred)(nm:List UInt8):List Pred:=f.take (insN f nm f.length) ++ p :: f.drop (insN f nm f.length)
theorem insP_length (f:List Pred)(p:Pred)(nm:List UInt8):(insP f p nm).length=f.length+1:=by
 have:=insN_le f nm f.length
 unfold insP;simp;omega
def filterG (l:List Int)(a:Nat):Nat→Nat→Nat→List Pred→List Pred × Nat × Nat
 | 0,j,d,f=>(f,j,d)
 | n+1,j,d,f=>filterG l a n (j+1+(predV l a (j+1) (nameV l a j)).2) (d+(predV l a (j+1) (nameV l a j)).1.set.length+1) (insP f (predV l a (j+1) (nameV l a j)).1 (nameV l a j))
def filterV (l:List Int)(a j:Nat):List Pred × Nat × Nat:=filterG l a (fd l a j 4).toNat (j+1) 0 []
def pzero:Pred:=⟨[],0,vzero,vzero,[]⟩
theorem pcells_len (p:Pred):(Pred.cells p).length=13:=rfl
theorem pcells_one (p:Pred):(Pred.cells p).all V.one=true:=rfl
theorem pcells_flats (p:Pred):flats (Pred.cells p)=true:=by simp [flats,V.flat]
theorem pcells_strip (p:Pred):(Pred.cells p).map V.strip1=Pred.cells p:=rfl
theorem chunk_preds1 (l:List Pred):chunk true 13 l.length (l.flatMap Pred.cells)=encPreds l:=chunk_enc Pred.cells 13 (by omega) (fun _=>rfl) l
theorem enc_cells (l:List Pred):(encPreds l).flatMap V.cells=l.flatMap Pred.cells:=by
 induction l with
 | nil=>rfl
 | cons x r ih=>simp only [encPreds,List.map_cons,List.flatMap_cons] at ih ⊢;rw [ih];rfl
theorem elems_row {st:St} {id:Nat} {l:List Pred} (ho:St.obj st id=some (l.flatMap Pred.cells))(f:Bool) {i:Nat} (hi:i≤l.length) :
  elemsAt true 13 st (.val (.sref f 13 id (i*13) (l.length - i)))=some (encPreds (l.drop i)):=by
 unfold elemsAt
 simp only [ho,row_len Pred.cells 13 pcells_len,true_and]
 have h1:i*13+(l.length - i)*13≤l.length*13:=by omega
 have h2:((l.flatMap Pred.cells).map V.strip1).all V.one=true:=by rw [row_strip _ _ pcells_strip];exact row_one _ pcells_one l
 have h3:(true || (13:Nat) == 1)=true:=rfl
 by_cases hz:l.length - i=0
 ·rw [if_pos hz,List.drop_of_length_le (by omega)];rfl
 rw [if_neg hz,if_pos ⟨h1,h3,h2⟩,row_drop Pred.cells 13 pcells_len,List.take_of_length_le (by rw [row_len Pred.cells 13 pcells_len];simp),row_strip _ _ pcells_strip]
 have:=chunk_preds1 (l.drop i)
 rw [List.length_drop] at this
 rw [this]
theorem frz_preds {st st1:St} (n id:Nat)(l:List Pred)(hl:l≠[])(ho:St.obj st id=some (l.flatMap Pred.cells))(hs:St.set st id []=some st1):frz (n+1) st (.sref false 13 id 0 l.length)=some (.slice (encPreds l),st1):=by
 have:=frz_row n id 13 (by omega) Pred.cells Pred.cells pcells_len pcells_len pcells_strip pcells_one pcells_flats l hl ho hs
 rw [show Nat.blt 1 13=true from rfl,chunk_preds1] at this
 exact this
theorem obj_mid {st:St} {id:Nat} (h:FeedOk st id)(m k:Nat)(cs:List V)(l:List Int)(a:Nat):St.obj (setF (dd (nw st m cs) k) id l a) (st.objs.length+m)=some cs:=by
 unfold St.obj setF
 show ((dd (nw st m cs) k).objs.set id _)[_]?=_
 rw [List.getElem?_set_ne (by have:=h.1;omega)]
 unfold dd
 show ((nw st m cs).objs ++ _)[_]?=_
 rw [List.getElem?_append_left (by rw [gr_len];omega),gr_obj]
theorem dd_nw_kill (st:St)(m k:Nat)(cs:List V)(h:st.wp≤st.objs.length):St.set (dd (nw st m cs) k) (st.objs.length+m) []=some (dd st (m+1+k)):=by
 unfold St.set
 rw [if_pos (by rw [dd_wp,gr_wp];omega)]
 unfold dd nw
 simp only [Option.some.injEq,St.mk.injEq,and_true]
 rw [zaa,List.set_append_right _ _ (by omega),Nat.add_sub_cancel_left,zaa,List.set_append_right _ _ (by simp),List.length_replicate,Nat.sub_self]
 simp only [List.singleton_append,List.set_cons_zero]
 rw [show m+1+k=m+(1+k) by omega,← List.replicate_append_replicate,← List.replicate_append_replicate (n:=1)]
 rfl
theorem set_mid {st:St} {id:Nat} (h:FeedOk st id)(m k:Nat)(cs:List V)(l:List Int)(a:Nat):St.set (setF (dd (nw st m cs) k) id l a) (st.objs.length+m) []=some (setF (dd st (m+1+k)) id l a):=by
 have h1:=h.1
 have h2:=h.2
 have hk:=dd_nw_kill st m k cs (by omega)
 unfold St.set at hk ⊢
 rw [if_pos (by rw [dd_wp,gr_wp];omega)] at hk
 rw [if_pos (by rw [setF_wp,dd_wp,gr_wp];omega)]
 have hk2:=Option.some.inj hk
 congr 1
 rw [← hk2]
 unfold setF
 simp only [St.mk.injEq,and_true]
 rw [List.set_comm _ _ (by omega)]
end Go.Ab
namespace Go.Proofs.Ytdoobejjedpcgaa
open Go Go.Ab
noncomputable section
variable (fr:Fr)(st:St)(k:Kt)
def fi70:FI:={body:=codeOf Try.f70,ntmps:=9,results:=[.tmp 2],pers:=[0,2],locals:=[],pure:=false,marks:=[]}
theorem H70:fi70.marks=[]∧fi70.locals=[]∧fi70.results=[.tmp 2]:=⟨rfl,rfl,rfl⟩
theorem fi91_eq:gS.fn 70=some fi70:=by kernel_rfl
theorem st70 (a0:V):startFr fi70 [a0]={ps:=[(0,.val a0),(2,.any)],ts:=[],lc:=[]}:=rfl
def b70:Code:=mini (codeOf Try.f70)
def c70_2:Code:=.seq (codeN b70 5) .ret
theorem e70_2:evK gS fi70 c70_2 fr st k=opsR gS fi70 [op1 3 (.build 122 #[(0,(.const (.string {data:=#[97]}))),(1,(.const (.string {data:=#[98]}))),(2,(.const (.string {data:=#[99]}))),(3,(.const (.string {data:=#[108,111,110,103]})))]) 122,
 mv 4 0 23,
 cal 5 11 [(.tmp 4),(.const (.int .i64 12))] [23,3] 3,
 qB 6 .quo 3 5 3 3 3,
 qB 7 .rem 3 6 4 3 3,
 op1 8 (.index 122 (.tmp 3) (.tmp 7)) 9,
 asn 2 8 9] fr st (.seq .ret k):=evK_rs 1 rfl (by kernel_rfl)
def c70_0:Code:=.seq (codeN b70 2) c70_2
theorem e70_0:evK gS fi70 c70_0 fr st k=opsR gS fi70 [op1 2 (.assign (.const (.string {data:=#[]}))) 9] fr st (.seq c70_2 k):=evK_rs 0 rfl (by kernel_rfl)
theorem m70:mini fi70.body=c70_0:=by kernel_rfl
theorem c70 (l:List Int)(a j id:Nat)(st:St)(h:FeedOk st id)(ha:a<549755813888)(hj:j<549755812000) :
  EvF gS 70 [.ptr id 0] (setF st id l (nA l a j))=some (.ret (.str (nameV l a j)) none,setF st id l (nA l a (j+1))):=by
 refine EvF_start fi91_eq (fun x h=>by cases h) m70 ?_
 rw [st70]
 have hb:=fd_bound l a j (n:=12) (by omega)
 unfold nameV
 have hk:=fun fr=>k11 l a j id 12 fr st h ha (by omega) (by omega)
 generalize fd l a j 12=z at *
 have hz:z=0∨z=1∨z=2∨z=3∨z=4∨z=5∨z=6∨z=7∨z=8∨z=9∨z=10∨z=11:=by omega
 have v1:IntKind.wrap .i64 1=1:=w64_1
 have v2:IntKind.wrap .i64 2=2:=w64_2
 have v3:IntKind.wrap .i64 3=3:=w64_3
 have v0:IntKind.wrap .i64 0=0:=by kernel_rfl
 rcases hz with rfl | rfl | rfl | rfl | rfl | rfl | rfl | rfl | rfl | rfl | rfl | rfl <;>
  simp [N4,hk,v0,v1,v2,v3,-zil,-zit,-znl,-znt,ty3,ty9,ty23,ty122,H70,e70_2,e70_0]
theorem k70 (l:List Int)(a j id:Nat)  (fr:Fr) (st:St) (h:FeedOk st id) (ha:a<549755813888) (hj:j<549755812000) :
  callStep gS (EvF gS) 70 [.ptr id 0] fr (setF st id l (nA l a j))=some (.ok (.val (.str (nameV l a j))) (fr.map E.noMem) (setF st id l (nA l a (j+1)))):=by
 unfold callStep
 simp only [show gS.ext 70=none from rfl,fi91_eq,show fi70.pure=false from rfl,Bool.false_eq_true,if_false,c70 l a j id  st h ha (by omega),retE]
 all_goals rfl
def fi17:FI:={body:=codeOf Try.f17,ntmps:=26,results:=[.tmp 2],pers:=[0,2,3,4,5],locals:=[4],pure:=false,marks:=[1000000]}
theorem H17:fi17.marks=[1000000]∧fi17.locals=[4]∧fi17.results=[.tmp 2]:=⟨rfl,rfl,rfl⟩
theorem fi36_eq:gS.fn 17=some fi17:=by kernel_rfl
theorem st17 (a0:V):startFr fi17 [a0]={ps:=[(0,.val a0),(2,.any),(3,.any),(4,.any),(5,.any)],ts:=[],lc:=[]}:=rfl
def b17:Code:=mini (codeOf Try.f17)
def c17_14:Code:=.cond (.tmp 8) .skip (.exit 0)
def c17_12:Code:=.seq (codeN b17 535) c17_14
def r17_22:Array Oper:=regOps (codeN (codeOf Try.f17) 5271)
def c17_22:Code:=.region 7 r17_22 true
def q17_22:List (Oper × Fl):=[(mv 16 3 42,qz7),
 (mv 17 5 3,qz7),
 (ixa 18 92 4 17 0,qz7),
 (ld 19 9 18 9,qz7),
 (mv 20 0 23,qz1),
 (cal 21 55 [(.tmp 20)] [23] 88,qz5),
 (op1 22 (.build 95 #[(0,(.tmp 19)),(1,(.tmp 21))]) 95,qz1),
 (qS 23 42 22 42,qz1),
 (qE 24 16 23 42 42,qz5),
 (asn 3 24 42,qz6)]
def c17_21:Code:=.cond (.tmp 15) c17_22 .skip
def c17_19:Code:=.seq (codeN b17 2199) c17_21
def c17_24:Code:=codeN b17 919
def c17_17:Code:=.seq (.block 1 c17_19) c17_24
def c17_11:Code:=.seq c17_12 c17_17
def c17_10:Code:=.loop c17_11
def c17_9:Code:=.block 0 c17_10
def c17_7:Code:=.seq (codeN b17 39) c17_9
def c17_25:Code:=.seq (codeN b17 47) .ret
def c17_6:Code:=.seq c17_7 c17_25
def c17_4:Code:=.seq (codeN b17 11) c17_6
def c17_2:Code:=.seq (codeN b17 5) c17_4
def c17_0:Code:=.seq (codeN b17 2) c17_2
theorem E17:evK gS fi17 c17_14 fr st k=condK gS fi17 (fr.op (.tmp 8)).bool? .skip (.exit 0) fr st k ∧
 (evK gS fi17 c17_12 fr st k=opsR gS fi17 [mv 7 5 3,
 qB 8 .lss 3 7 5 3 4] fr st (.seq c17_14 k)) ∧
 evK gS fi17 c17_22 fr st k=drwR gS fi17 r17_22 q17_22 fr st k ∧
 evK gS fi17 c17_21 fr st k=condK gS fi17 (fr.op (.tmp 15)).bool? c17_22 .skip fr st k ∧
 (evK gS fi17 c17_19 fr st k=opsR gS fi17 [mv 11 0 23,
 cal 12 11 [(.tmp 11),(.const (.int .i64 3))] [23,3] 3,
 mv 13 5 3,
 qB 14 .quo 3 13 3 3 3,
 bop 15 .gtr 3 12 14 3 4] fr st (.seq c17_21 k)) ∧
 (evK gS fi17 c17_24 fr st k=opsR gS fi17 [mv 9 5 3,
 qB 10 .add 3 9 1 3 3,
 asn 5 10 3] fr st k) ∧
 evK gS fi17 c17_17 fr st k=evK gS fi17 c17_19 fr st (.blk 1 (.seq c17_24 k)) ∧
 evK gS fi17 c17_11 fr st k=evK gS fi17 c17_12 fr st (.seq c17_17 k) ∧
 evK gS fi17 c17_9 fr st k=evK gS fi17 c17_10 fr st (.blk 0 k) ∧
 evK gS fi17 c17_7 fr st k=opsR gS fi17 [qI 5 0 3] fr st (.seq c17_9 k) ∧
 (evK gS fi17 c17_25 fr st k=opsR gS fi17 [mv 25 3 42,
 asn 2 25 42] fr st (.seq .ret k)) ∧
 evK gS fi17 c17_6 fr st k=evK gS fi17 c17_7 fr st (.seq c17_25 k) ∧
 (evK gS fi17 c17_4 fr st k=opsR gS fi17 [op1 6 (.build 92 #[(0,(.const (.string {data:=#[97]}))),(1,(.const (.string {data:=#[98]}))),(2,(.const (.string {data:=#[99]}))),(3,(.const (.string {data:=#[100]}))),(4,(.const (.string {data:=#[108,111,110,103]})))]) 92,
 op1 4 (.alloc 92) 0,
 sto 92 4 6] fr st (.seq c17_6 k)) ∧
 evK gS fi17 c17_2 fr st k=opsR gS fi17 [qN 3 42] fr st (.seq c17_4 k) ∧
 evK gS fi17 c17_0 fr st k=opsR gS fi17 [qN 2 42] fr st (.seq c17_2 k):=⟨rfl,evK_rs 4 rfl (by kernel_rfl),evK_dr 7 rfl (by kernel_rfl) (by kernel_rfl),rfl,evK_rs 6 rfl (by kernel_rfl),evK_r 5 (by kernel_rfl),rfl,rfl,rfl,evK_rs 3 rfl (by kernel_rfl),evK_rs 8 rfl (by kernel_rfl),rfl,evK_rs 2 rfl (by kernel_rfl),evK_rs 1 rfl (by kernel_rfl),evK_rs 0 rfl (by kernel_rfl)⟩
theorem m17:mini fi17.body=c17_0:=by kernel_rfl
theorem n17_10 (fr:Fr)(st:St)(k:Kt):nextK gS fi17 (.loop c17_11 k) .normal fr st=evK gS fi17 c17_10 fr st k:=rfl
theorem attrs_snoc (l:List Attr)(x:Attr):encAttrs l ++ [.agg [.str x.name,.int .i64 x.v.kind,.int .i64 x.v.n,.float .f64 x.v.x,.str x.v.s,.bool x.v.b]]=encAttrs (l ++ [x]):=by simp [encAttrs,Attr.enc,Attr.cells]
theorem sizes_attrs (l:List Attr):sizesOk 6 (encAttrs l)=true:=by
 induction l with
 | nil=>rfl
 | cons x r ih=>simp only [encAttrs,List.map_cons,sizesOk] at ih ⊢;rw [ih];rfl
theorem L17_5 (l:List Int)(a id:Nat)(ha:a<549755813888)(st:St)(h:FeedOk st id)(j k:Nat)(f:List Attr)(hj:j+15<549755812000+3*5)(hf:f.length≤5)(hk:k=0∧f=[]∨k=6)(T:List (Nat × E))(X:List (Nat × List V))(hx:lk X 4=some [.str [97],.str [98],.str [99],.str [100],.str [108,111,110,103]]) :
  evK gS fi17 c17_10 {ps:=[(0,.val (.ptr id 0)),(2,.own 0 []),(3,.own k (encAttrs f)),(4,.lp 4 0),(5,.val (.int .i64 5))],ts:=T,lc:=X} (setF st id l (nA l a j)) (.blk 0 (.seq c17_25 .nil))=some (.ret (.slice (encAttrs (f ++ (attrsG l a [] j).1))) none,setF st id l (nA l a (attrsG l a [] j).2)):=by
 refine evK_loop c17_11 _ _ _ _ rfl ?_
 have hz:∀ st,frz 6 st (.slice (encAttrs f))=some (.slice (encAttrs f),st):=fun st=>frz_flat 6 st _ (by simp [V.flat])
 rw [show (attrsG l a [] j)=([],j) from rfl]
 rcases hk with ⟨rfl,rfl⟩ | rfl
 ·have en:encAttrs []=[]:=rfl
  rw [en] at hz
  simp [en,hz,hx,-zil,-zit,-znl,-znt,ty3,ty4,ty9,ty23,ty42,ty88,ty92,ty95,eq88,H17,fi16_eq,fi17_eq,E17,q17_22,n17_10]
 ·simp [hz,hx,-zil,-zit,-znl,-znt,ty3,ty4,ty9,ty23,ty42,ty88,ty92,ty95,eq88,H17,fi16_eq,fi17_eq,E17,q17_22,n17_10]
theorem L17_4 (l:List Int)(a id:Nat)(ha:a<549755813888)(st:St)(h:FeedOk st id)(j k:Nat)(f:List Attr)(hj:j+15<549755812000+3*4)(hf:f.length≤4)(hk:k=0∧f=[]∨k=6)(T:List (Nat × E))(X:List (Nat × List V))(hx:lk X 4=some [.str [97],.str [98],.str [99],.str [100],.str [108,111,110,103]]) :
  evK gS fi17 c17_10 {ps:=[(0,.val (.ptr id 0)),(2,.own 0 []),(3,.own k (encAttrs f)),(4,.lp 4 0),(5,.val (.int .i64 4))],ts:=T,lc:=X} (setF st id l (nA l a j)) (.blk 0 (.seq c17_25 .nil))=some (.ret (.slice (encAttrs (f ++ (attrsG l a [([108,111,110,103],1)] j).1))) none,setF st id l (nA l a (attrsG l a [([108,111,110,103],1)] j).2)):=by
 have hm:fi17.marks=[1000000]:=rfl
 have hl:fi17.locals=[4]:=rfl
 have hr:fi17.results=[.tmp 2]:=rfl
 refine evK_loop c17_11 _ _ _ _ rfl ?_
 have hb:=fd_bound l a j (n:=3) (by omega)
 have hk3:=fun fr=>k11 l a j id 3 fr st h ha (by omega) (by omega)
 have hv:=fun fr=>k55 l a (j+1) id fr st h ha (by omega)
 have v0:IntKind.wrap .i64 0=0:=by kernel_rfl
 have bo:borOk r17_22 0 3 16=true:=by kernel_rfl
 have bh:handOk r17_22 9 24=true:=by kernel_rfl
 have hr:attrsG l a [([108,111,110,103],1)] j=if fd l a j 3 > 1 then (⟨[108,111,110,103],valueV l a (j+1)⟩ :: (attrsG l a [] (j+3)).1,(attrsG l a [] (j+3)).2) else attrsG l a [] (j+1):=rfl
 rw [hr]
 generalize fd l a j 3=z at *
 by_cases hz:z > 1
 ·rw [if_pos hz]
  have N:=fun T X hx=>L17_5 l a id ha st h (j+3) 6 (f ++ [⟨[108,111,110,103],valueV l a (j+1)⟩]) (by omega) (by rw [zla];exact Nat.add_le_add hf (Nat.le_refl 1)) (.inr rfl) T X hx
  have e1:=attrs_snoc f ⟨[108,111,110,103],valueV l a (j+1)⟩
  have e2:=sizes_attrs f
  have e3:(f.length+1)*64≤140737488355328:=by omega
  have e4:f.length+1≤140737488355328:=by omega
  have hz':(1:Int)<z:=hz
  have a3:j+1+2=j+3:=rfl
  rcases hk with ⟨rfl,rfl⟩ | rfl
  ·simp only [List.nil_append,List.cons_append] at N e1
   simp [-zaa,bo,bh,hx,hk3,hv,v0,w64_1,w64_2,w64_3,w64_4,w64_5,hz',a3,e1,e2,N,-zil,-zit,-znl,-znt,ty3,ty4,ty9,ty23,ty42,ty88,ty92,ty95,eq88,hm,hl,hr,fi16_eq,fi17_eq,E17,q17_22,n17_10]
  ·rw [show (f ++ (⟨[108,111,110,103],valueV l a (j+1)⟩ :: (attrsG l a [] (j+3)).1))=(f ++ [⟨[108,111,110,103],valueV l a (j+1)⟩]) ++ (attrsG l a [] (j+3)).1 by simp]
   simp only [] at e1
   simp [-zaa,bo,bh,hx,hk3,hv,v0,w64_1,w64_2,w64_3,w64_4,w64_5,hz',a3,e1,e2,e3,e4,N,-zil,-zit,-znl,-znt,ty3,ty4,ty9,ty23,ty42,ty88,ty92,ty95,eq88,hm,hl,hr,fi16_eq,fi17_eq,E17,q17_22,n17_10]
 ·rw [if_neg hz]
  have N:=fun T X hx=>L17_5 l a id ha st h (j+1) k f (by omega) (Nat.le_trans hf (by omega)) hk T X hx
  have hz':¬ (1:Int)<z:=hz
  simp [hx,hk3,hv,v0,w64_1,w64_2,w64_3,w64_4,w64_5,hz',N,-zil,-zit,-znl,-znt,ty3,ty4,ty9,ty23,ty42,ty88,ty92,ty95,eq88,hm,hl,hr,fi16_eq,fi17_eq,E17,q17_22,n17_10]
theorem L17_3 (l:List Int)(a id:Nat)(ha:a<549755813888)(st:St)(h:FeedOk st id)(j k:Nat)(f:List Attr)(hj:j+15<549755812000+3*3)(hf:f.length≤3)(hk:k=0∧f=[]∨k=6)(T:List (Nat × E))(X:List (Nat × List V))(hx:lk X 4=some [.str [97],.str [98],.str [99],.str [100],.str [108,111,110,103]]) :
  evK gS fi17 c17_10 {ps:=[(0,.val (.ptr id 0)),(2,.own 0 []),(3,.own k (encAttrs f)),(4,.lp 4 0),(5,.val (.int .i64 3))],ts:=T,lc:=X} (setF st id l (nA l a j)) (.blk 0 (.seq c17_25 .nil))=some (.ret (.slice (encAttrs (f ++ (attrsG l a [([100],1),([108,111,110,103],1)] j).1))) none,setF st id l (nA l a (attrsG l a [([100],1),([108,111,110,103],1)] j).2)):=by
 have hm:fi17.marks=[1000000]:=rfl
 have hl:fi17.locals=[4]:=rfl
 have hr:fi17.results=[.tmp 2]:=rfl
 refine evK_loop c17_11 _ _ _ _ rfl ?_
 have hb:=fd_bound l a j (n:=3) (by omega)
 have hk3:=fun fr=>k11 l a j id 3 fr st h ha (by omega) (by omega)
 have hv:=fun fr=>k55 l a (j+1) id fr st h ha (by omega)
 have v0:IntKind.wrap .i64 0=0:=by kernel_rfl
 have bo:borOk r17_22 0 3 16=true:=by kernel_rfl
 have bh:handOk r17_22 9 24=true:=by kernel_rfl
 have hr:attrsG l a [([100],1),([108,111,110,103],1)] j=if fd l a j 3 > 1 then (⟨[100],valueV l a (j+1)⟩ :: (attrsG l a [([108,111,110,103],1)] (j+3)).1,(attrsG l a [([108,111,110,103],1)] (j+3)).2) else attrsG l a [([108,111,110,103],1)] (j+1):=rfl
 rw [hr]
 generalize fd l a j 3=z at *
 by_cases hz:z > 1
 ·rw [if_pos hz]
  have N:=fun T X hx=>L17_4 l a id ha st h (j+3) 6 (f ++ [⟨[100],valueV l a (j+1)⟩]) (by omega) (by rw [zla];exact Nat.add_le_add hf (Nat.le_refl 1)) (.inr rfl) T X hx
  have e1:=attrs_snoc f ⟨[100],valueV l a (j+1)⟩
  have e2:=sizes_attrs f
  have e3:(f.length+1)*64≤140737488355328:=by omega
  have e4:f.length+1≤140737488355328:=by omega
  have hz':(1:Int)<z:=hz
  have a3:j+1+2=j+3:=rfl
  rcases hk with ⟨rfl,rfl⟩ | rfl
  ·simp only [List.nil_append,List.cons_append] at N e1
   simp [-zaa,bo,bh,hx,hk3,hv,v0,w64_1,w64_2,w64_3,w64_4,w64_5,hz',a3,e1,e2,N,-zil,-zit,-znl,-znt,ty3,ty4,ty9,ty23,ty42,ty88,ty92,ty95,eq88,hm,hl,hr,fi16_eq,fi17_eq,E17,q17_22,n17_10]
  ·rw [show (f ++ (⟨[100],valueV l a (j+1)⟩ :: (attrsG l a [([108,111,110,103],1)] (j+3)).1))=(f ++ [⟨[100],valueV l a (j+1)⟩]) ++ (attrsG l a [([108,111,110,103],1)] (j+3)).1 by simp]
   simp only [] at e1
   simp [-zaa,bo,bh,hx,hk3,hv,v0,w64_1,w64_2,w64_3,w64_4,w64_5,hz',a3,e1,e2,e3,e4,N,-zil,-zit,-znl,-znt,ty3,ty4,ty9,ty23,ty42,ty88,ty92,ty95,eq88,hm,hl,hr,fi16_eq,fi17_eq,E17,q17_22,n17_10]
 ·rw [if_neg hz]
  have N:=fun T X hx=>L17_4 l a id ha st h (j+1) k f (by omega) (Nat.le_trans hf (by omega)) hk T X hx
  have hz':¬ (1:Int)<z:=hz
  simp [hx,hk3,hv,v0,w64_1,w64_2,w64_3,w64_4,w64_5,hz',N,-zil,-zit,-znl,-znt,ty3,ty4,ty9,ty23,ty42,ty88,ty92,ty95,eq88,hm,hl,hr,fi16_eq,fi17_eq,E17,q17_22,n17_10]
theorem L17_2 (l:List Int)(a id:Nat)(ha:a<549755813888)(st:St)(h:FeedOk st id)(j k:Nat)(f:List Attr)(hj:j+15<549755812000+3*2)(hf:f.length≤2)(hk:k=0∧f=[]∨k=6)(T:List (Nat × E))(X:List (Nat × List V))(hx:lk X 4=some [.str [97],.str [98],.str [99],.str [100],.str [108,111,110,103]]) :
  evK gS fi17 c17_10 {ps:=[(0,.val (.ptr id 0)),(2,.own 0 []),(3,.own k (encAttrs f)),(4,.lp 4 0),(5,.val (.int .i64 2))],ts:=T,lc:=X} (setF st id l (nA l a j)) (.blk 0 (.seq c17_25 .nil))=some (.ret (.slice (encAttrs (f ++ (attrsG l a [([99],0),([100],1),([108,111,110,103],1)] j).1))) none,setF st id l (nA l a (attrsG l a [([99],0),([100],1),([108,111,110,103],1)] j).2)):=by
 have hm:fi17.marks=[1000000]:=rfl
 have hl:fi17.locals=[4]:=rfl
 have hr:fi17.results=[.tmp 2]:=rfl
 refine evK_loop c17_11 _ _ _ _ rfl ?_
 have hb:=fd_bound l a j (n:=3) (by omega)
 have hk3:=fun fr=>k11 l a j id 3 fr st h ha (by omega) (by omega)
 have hv:=fun fr=>k55 l a (j+1) id fr st h ha (by omega)
 have v0:IntKind.wrap .i64 0=0:=by kernel_rfl
 have bo:borOk r17_22 0 3 16=true:=by kernel_rfl
 have bh:handOk r17_22 9 24=true:=by kernel_rfl
 have hr:attrsG l a [([99],0),([100],1),([108,111,110,103],1)] j=if fd l a j 3 > 0 then (⟨[99],valueV l a (j+1)⟩ :: (attrsG l a [([100],1),([108,111,110,103],1)] (j+3)).1,(attrsG l a [([100],1),([108,111,110,103],1)] (j+3)).2) else attrsG l a [([100],1),([108,111,110,103],1)] (j+1):=rfl
 rw [hr]
 generalize fd l a j 3=z at *
 by_cases hz:z > 0
 ·rw [if_pos hz]
  have N:=fun T X hx=>L17_3 l a id ha st h (j+3) 6 (f ++ [⟨[99],valueV l a (j+1)⟩]) (by omega) (by rw [zla];exact Nat.add_le_add hf (Nat.le_refl 1)) (.inr rfl) T X hx
  have e1:=attrs_snoc f ⟨[99],valueV l a (j+1)⟩
  have e2:=sizes_attrs f
  have e3:(f.length+1)*64≤140737488355328:=by omega
  have e4:f.length+1≤140737488355328:=by omega
  have hz':(0:Int)<z:=hz
  have a3:j+1+2=j+3:=rfl
  rcases hk with ⟨rfl,rfl⟩ | rfl
  ·simp only [List.nil_append,List.cons_append] at N e1
   simp [-zaa,bo,bh,hx,hk3,hv,v0,w64_1,w64_2,w64_3,w64_4,w64_5,hz',a3,e1,e2,N,-zil,-zit,-znl,-znt,ty3,ty4,ty9,ty23,ty42,ty88,ty92,ty95,eq88,hm,hl,hr,fi16_eq,fi17_eq,E17,q17_22,n17_10]
  ·rw [show (f ++ (⟨[99],valueV l a (j+1)⟩ :: (attrsG l a [([100],1),([108,111,110,103],1)] (j+3)).1))=(f ++ [⟨[99],valueV l a (j+1)⟩]) ++ (attrsG l a [([100],1),([108,111,110,103],1)] (j+3)).1 by simp]
   simp only [] at e1
   simp [-zaa,bo,bh,hx,hk3,hv,v0,w64_1,w64_2,w64_3,w64_4,w64_5,hz',a3,e1,e2,e3,e4,N,-zil,-zit,-znl,-znt,ty3,ty4,ty9,ty23,ty42,ty88,ty92,ty95,eq88,hm,hl,hr,fi16_eq,fi17_eq,E17,q17_22,n17_10]
 ·rw [if_neg hz]
  have N:=fun T X hx=>L17_3 l a id ha st h (j+1) k f (by omega) (Nat.le_trans hf (by omega)) hk T X hx
  have hz':¬ (0:Int)<z:=hz
  simp [hx,hk3,hv,v0,w64_1,w64_2,w64_3,w64_4,w64_5,hz',N,-zil,-zit,-znl,-znt,ty3,ty4,ty9,ty23,ty42,ty88,ty92,ty95,eq88,hm,hl,hr,fi16_eq,fi17_eq,E17,q17_22,n17_10]
theorem L17_1 (l:List Int)(a id:Nat)(ha:a<549755813888)(st:St)(h:FeedOk st id)(j k:Nat)(f:List Attr)(hj:j+15<549755812000+3*1)(hf:f.length≤1)(hk:k=0∧f=[]∨k=6)(T:List (Nat × E))(X:List (Nat × List V))(hx:lk X 4=some [.str [97],.str [98],.str [99],.str [100],.str [108,111,110,103]]) :
  evK gS fi17 c17_10 {ps:=[(0,.val (.ptr id 0)),(2,.own 0 []),(3,.own k (encAttrs f)),(4,.lp 4 0),(5,.val (.int .i64 1))],ts:=T,lc:=X} (setF st id l (nA l a j)) (.blk 0 (.seq c17_25 .nil))=some (.ret (.slice (encAttrs (f ++ (attrsG l a [([98],0),([99],0),([100],1),([108,111,110,103],1)] j).1))) none,setF st id l (nA l a (attrsG l a [([98],0),([99],0),([100],1),([108,111,110,103],1)] j).2)):=by
 have hm:fi17.marks=[1000000]:=rfl
 have hl:fi17.locals=[4]:=rfl
 have hr:fi17.results=[.tmp 2]:=rfl
 refine evK_loop c17_11 _ _ _ _ rfl ?_
 have hb:=fd_bound l a j (n:=3) (by omega)
 have hk3:=fun fr=>k11 l a j id 3 fr st h ha (by omega) (by omega)
 have hv:=fun fr=>k55 l a (j+1) id fr st h ha (by omega)
 have v0:IntKind.wrap .i64 0=0:=by kernel_rfl
 have bo:borOk r17_22 0 3 16=true:=by kernel_rfl
 have bh:handOk r17_22 9 24=true:=by kernel_rfl
 have hr:attrsG l a [([98],0),([99],0),([100],1),([108,111,110,103],1)] j=if fd l a j 3 > 0 then (⟨[98],valueV l a (j+1)⟩ :: (attrsG l a [([99],0),([100],1),([108,111,110,103],1)] (j+3)).1,(attrsG l a [([99],0),([100],1),([108,111,110,103],1)] (j+3)).2) else attrsG l a [([99],0),([100],1),([108,111,110,103],1)] (j+1):=rfl
 rw [hr]
 generalize fd l a j 3=z at *
 by_cases hz:z > 0
 ·rw [if_pos hz]
  have N:=fun T X hx=>L17_2 l a id ha st h (j+3) 6 (f ++ [⟨[98],valueV l a (j+1)⟩]) (by omega) (by rw [zla];exact Nat.add_le_add hf (Nat.le_refl 1)) (.inr rfl) T X hx
  have e1:=attrs_snoc f ⟨[98],valueV l a (j+1)⟩
  have e2:=sizes_attrs f
  have e3:(f.length+1)*64≤140737488355328:=by omega
  have e4:f.length+1≤140737488355328:=by omega
  have hz':(0:Int)<z:=hz
  have a3:j+1+2=j+3:=rfl
  rcases hk with ⟨rfl,rfl⟩ | rfl
  ·simp only [List.nil_append,List.cons_append] at N e1
   simp [-zaa,bo,bh,hx,hk3,hv,v0,w64_1,w64_2,w64_3,w64_4,w64_5,hz',a3,e1,e2,N,-zil,-zit,-znl,-znt,ty3,ty4,ty9,ty23,ty42,ty88,ty92,ty95,eq88,hm,hl,hr,fi16_eq,fi17_eq,E17,q17_22,n17_10]
  ·rw [show (f ++ (⟨[98],valueV l a (j+1)⟩ :: (attrsG l a [([99],0),([100],1),([108,111,110,103],1)] (j+3)).1))=(f ++ [⟨[98],valueV l a (j+1)⟩]) ++ (attrsG l a [([99],0),([100],1),([108,111,110,103],1)] (j+3)).1 by simp]
   simp only [] at e1
   simp [-zaa,bo,bh,hx,hk3,hv,v0,w64_1,w64_2,w64_3,w64_4,w64_5,hz',a3,e1,e2,e3,e4,N,-zil,-zit,-znl,-znt,ty3,ty4,ty9,ty23,ty42,ty88,ty92,ty95,eq88,hm,hl,hr,fi16_eq,fi17_eq,E17,q17_22,n17_10]
 ·rw [if_neg hz]
  have N:=fun T X hx=>L17_2 l a id ha st h (j+1) k f (by omega) (Nat.le_trans hf (by omega)) hk T X hx
  have hz':¬ (0:Int)<z:=hz
  simp [hx,hk3,hv,v0,w64_1,w64_2,w64_3,w64_4,w64_5,hz',N,-zil,-zit,-znl,-znt,ty3,ty4,ty9,ty23,ty42,ty88,ty92,ty95,eq88,hm,hl,hr,fi16_eq,fi17_eq,E17,q17_22,n17_10]
theorem L17_0 (l:List Int)(a id:Nat)(ha:a<549755813888)(st:St)(h:FeedOk st id)(j k:Nat)(f:List Attr)(hj:j+15<549755812000+3*0)(hf:f.length≤0)(hk:k=0∧f=[]∨k=6)(T:List (Nat × E))(X:List (Nat × List V))(hx:lk X 4=some [.str [97],.str [98],.str [99],.str [100],.str [108,111,110,103]]) :
  evK gS fi17 c17_10 {ps:=[(0,.val (.ptr id 0)),(2,.own 0 []),(3,.own k (encAttrs f)),(4,.lp 4 0),(5,.val (.int .i64 0))],ts:=T,lc:=X} (setF st id l (nA l a j)) (.blk 0 (.seq c17_25 .nil))=some (.ret (.slice (encAttrs (f ++ (attrsG l a [([97],0),([98],0),([99],0),([100],1),([108,111,110,103],1)] j).1))) none,setF st id l (nA l a (attrsG l a [([97],0),([98],0),([99],0),([100],1),([108,111,110,103],1)] j).2)):=by
 have hm:fi17.marks=[1000000]:=rfl
 have hl:fi17.locals=[4]:=rfl
 have hr:fi17.results=[.tmp 2]:=rfl
 refine evK_loop c17_11 _ _ _ _ rfl ?_
 have hb:=fd_bound l a j (n:=3) (by omega)
 have hk3:=fun fr=>k11 l a j id 3 fr st h ha (by omega) (by omega)
 have hv:=fun fr=>k55 l a (j+1) id fr st h ha (by omega)
 have v0:IntKind.wrap .i64 0=0:=by kernel_rfl
 have bo:borOk r17_22 0 3 16=true:=by kernel_rfl
 have bh:handOk r17_22 9 24=true:=by kernel_rfl
 have hr:attrsG l a [([97],0),([98],0),([99],0),([100],1),([108,111,110,103],1)] j=if fd l a j 3 > 0 then (⟨[97],valueV l a (j+1)⟩ :: (attrsG l a [([98],0),([99],0),([100],1),([108,111,110,103],1)] (j+3)).1,(attrsG l a [([98],0),([99],0),([100],1),([108,111,110,103],1)] (j+3)).2) else attrsG l a [([98],0),([99],0),([100],1),([108,111,110,103],1)] (j+1):=rfl
 rw [hr]
 generalize fd l a j 3=z at *
 by_cases hz:z > 0
 ·rw [if_pos hz]
  have N:=fun T X hx=>L17_1 l a id ha st h (j+3) 6 (f ++ [⟨[97],valueV l a (j+1)⟩]) (by omega) (by rw [zla];exact Nat.add_le_add hf (Nat.le_refl 1)) (.inr rfl) T X hx
  have e1:=attrs_snoc f ⟨[97],valueV l a (j+1)⟩
  have e2:=sizes_attrs f
  have e3:(f.length+1)*64≤140737488355328:=by omega
  have e4:f.length+1≤140737488355328:=by omega
  have hz':(0:Int)<z:=hz
  have a3:j+1+2=j+3:=rfl
  rcases hk with ⟨rfl,rfl⟩ | rfl
  ·simp only [List.nil_append,List.cons_append] at N e1
   simp [-zaa,bo,bh,hx,hk3,hv,v0,w64_1,w64_2,w64_3,w64_4,w64_5,hz',a3,e1,e2,N,-zil,-zit,-znl,-znt,ty3,ty4,ty9,ty23,ty42,ty88,ty92,ty95,eq88,hm,hl,hr,fi16_eq,fi17_eq,E17,q17_22,n17_10]
  ·rw [show (f ++ (⟨[97],valueV l a (j+1)⟩ :: (attrsG l a [([98],0),([99],0),([100],1),([108,111,110,103],1)] (j+3)).1))=(f ++ [⟨[97],valueV l a (j+1)⟩]) ++ (attrsG l a [([98],0),([99],0),([100],1),([108,111,110,103],1)] (j+3)).1 by simp]
   simp only [] at e1
   simp [-zaa,bo,bh,hx,hk3,hv,v0,w64_1,w64_2,w64_3,w64_4,w64_5,hz',a3,e1,e2,e3,e4,N,-zil,-zit,-znl,-znt,ty3,ty4,ty9,ty23,ty42,ty88,ty92,ty95,eq88,hm,hl,hr,fi16_eq,fi17_eq,E17,q17_22,n17_10]
 ·rw [if_neg hz]
  have N:=fun T X hx=>L17_1 l a id ha st h (j+1) k f (by omega) (Nat.le_trans hf (by omega)) hk T X hx
  have hz':¬ (0:Int)<z:=hz
  simp [hx,hk3,hv,v0,w64_1,w64_2,w64_3,w64_4,w64_5,hz',N,-zil,-zit,-znl,-znt,ty3,ty4,ty9,ty23,ty42,ty88,ty92,ty95,eq88,hm,hl,hr,fi16_eq,fi17_eq,E17,q17_22,n17_10]
theorem c17 (l:List Int)(a j id:Nat)(st:St)(h:FeedOk st id)(ha:a<549755813888)(hj:j<549755811000) :
  EvF gS 17 [.ptr id 0] (setF st id l (nA l a j))=some (.ret (.slice (encAttrs (attrsV l a j).1)) none,setF st id l (nA l a (attrsV l a j).2)):=by
 refine EvF_start fi36_eq (fun x h=>by cases h) m17 ?_
 rw [st17]
 have L0:=fun T X hx=>L17_0 l a id ha st h j 0 [] (by omega) (by simp) (.inl ⟨rfl,rfl⟩) T X hx
 rw [List.nil_append] at L0
 rw [show attrsV l a j=attrsG l a [([97],0),([98],0),([99],0),([100],1),([108,111,110,103],1)] j from rfl]
 rw [show encAttrs []=[] from rfl] at L0
 simp [L0,-zil,-zit,-znl,-znt,ty3,ty4,ty9,ty23,ty42,ty88,ty92,ty95,eq88,H17,fi16_eq,fi17_eq,E17,q17_22,n17_10]
theorem k17 (l:List Int)(a j id:Nat)  (fr:Fr) (st:St) (h:FeedOk st id) (ha:a<549755813888) (hj:j<549755811000) :
  callStep gS (EvF gS) 17 [.ptr id 0] fr (setF st id l (nA l a j))=some (.ok (.val (.slice (encAttrs (attrsV l a j).1))) (fr.map E.noMem) (setF st id l (nA l a ((attrsV l a j).2)))):=by
 unfold callStep
 simp only [show gS.ext 17=none from rfl,fi36_eq,show fi17.pure=false from rfl,Bool.false_eq_true,if_false,c17 l a j id  st h ha (by omega),retE]
 all_goals rfl
end
end Go.Proofs.Ytdoobejjedpcgaa
namespace Go.Proofs.Ytdoobejjedpcgaa
open Go Go.Ab
noncomputable section
variable (fr:Fr)(st:St)(k:Kt)
def fi40:FI:={body:=codeOf Try.f40,ntmps:=57,results:=[.tmp 2],pers:=[0,2,3,4,5,6,7],locals:=[6],pure:=false,marks:=[43,1000000]}
theorem H40:fi40.marks=[43,1000000]∧fi40.locals=[6]∧fi40.results=[.tmp 2]:=⟨rfl,rfl,rfl⟩
theorem fi35_eq:gS.fn 40=some fi40:=by kernel_rfl
theorem st40 (a0:V):startFr fi40 [a0]={ps:=[(0,.val a0),(2,.any),(3,.any),(4,.any),(5,.any),(6,.any),(7,.any)],ts:=[],lc:=[]}:=rfl
def b40:Code:=mini (codeOf Try.f40)
def c40_12:Code:=.cond (.tmp 16) .skip (.exit 0)
def c40_10:Code:=.seq (codeN b40 267) c40_12
def c40_29:Code:=.cond (.tmp 37) .skip (.exit 2)
def c40_27:Code:=.seq (codeN b40 134731) c40_29
def c40_33:Code:=codeN b40 167499
def c40_32:Code:=.block 3 c40_33
def c40_26:Code:=.seq c40_27 c40_32
def c40_25:Code:=.loop c40_26
def r40_37:Array Oper:=regOps (codeN (codeOf Try.f40) 48715)
def c40_37:Code:=.region 11 r40_37 true
def q40_37:List (Oper × Fl):=[(mv 44 3 29,qz0),
 (mv 45 7 3,qz0),
 (qB 46 .add 3 45 1 3 3,qz0),
 (op1 47 (.slice 29 (.tmp 44) (some (.tmp 46)) none none) 29,qz0),
 (mv 48 3 29,qz0),
 (mv 49 7 3,qz1),
 (op1 50 (.slice 29 (.tmp 48) (some (.tmp 49)) none none) 29,qz1),
 (op1 51 (.call {callee:=(.builtin .copy),args:=#[(.tmp 47),(.tmp 50)],argTypes:=#[29,29]}) 3,qz8)]
def c40_38:Code:=codeN b40 65099
def c40_36:Code:=.seq c40_37 c40_38
def c40_34:Code:=.seq (codeN b40 24139) c40_36
theorem e40_34:evK gS fi40 c40_34 fr st k=opsR gS fi40 [mv 40 3 29,
 op1 41 (.build 91 #[]) 91,
 qS 42 29 41 29,
 qE 43 40 42 29 29,
 asn 3 43 29] fr st (.seq c40_36 k):=evK_rs 10 rfl (by kernel_rfl)
def c40_23:Code:=.seq (.block 2 c40_25) c40_34
def c40_21:Code:=.seq (codeN b40 5707) c40_23
def c40_19:Code:=.seq (codeN b40 2635) c40_21
def c40_17:Code:=.seq (codeN b40 1099) c40_19
def c40_39:Code:=codeN b40 459
def c40_15:Code:=.seq (.block 1 c40_17) c40_39
def c40_9:Code:=.seq c40_10 c40_15
def c40_8:Code:=.loop c40_9
def c40_7:Code:=.block 0 c40_8
def c40_5:Code:=.seq (codeN b40 19) c40_7
def c40_40:Code:=.seq (codeN b40 23) .ret
def c40_4:Code:=.seq c40_5 c40_40
def c40_2:Code:=.seq (codeN b40 5) c40_4
def c40_0:Code:=.seq (codeN b40 2) c40_2
theorem E40:evK gS fi40 c40_12 fr st k=condK gS fi40 (fr.op (.tmp 16)).bool? .skip (.exit 0) fr st k ∧
 (evK gS fi40 c40_10 fr st k=opsR gS fi40 [mv 10 4 3,
 qB 11 .gtr 3 10 0 3 4,
 mv 12 11 4,
 qm 13 3 29 2 true,
 qe 14 13 29 3 2 true,
 qc 15 .lss 3 14 3 3 4 2 true,
 qP 16 12 15 false 4] fr st (.seq c40_12 k)) ∧
 evK gS fi40 c40_29 fr st k=condK gS fi40 (fr.op (.tmp 37)).bool? .skip (.exit 2) fr st k ∧
 (evK gS fi40 c40_27 fr st k=opsR gS fi40 [mv 26 7 3,
 qB 27 .gtr 3 26 0 3 4,
 mv 28 27 4,
 qm 29 3 29 2 true,
 qm 30 7 3 2 true,
 qc 31 .sub 3 30 1 3 3 2 true,
 qi 32 29 29 31 0 2 true,
 qf 33 91 32 0 0 2 true,
 ql 34 9 33 9 2 true,
 qm 35 5 9 2 true,
 qb 36 .gtr 9 34 35 9 4 2 true,
 qP 37 28 36 false 4] fr st (.seq c40_29 k)) ∧
 (evK gS fi40 c40_33 fr st k=opsR gS fi40 [mv 38 7 3,
 qB 39 .sub 3 38 1 3 3,
 asn 7 39 3] fr st k) ∧
 evK gS fi40 c40_32 fr st k=evK gS fi40 c40_33 fr st (.blk 3 k) ∧
 evK gS fi40 c40_26 fr st k=evK gS fi40 c40_27 fr st (.seq c40_32 k) ∧
 evK gS fi40 c40_37 fr st k=drwR gS fi40 r40_37 q40_37 fr st k ∧
 (evK gS fi40 c40_38 fr st k=opsR gS fi40 [mv 52 3 29,
 mv 53 7 3,
 ld 54 91 6 91,
 ixa 55 29 52 53 0,
 sto 91 55 54] fr st k) ∧
 evK gS fi40 c40_36 fr st k=evK gS fi40 c40_37 fr st (.seq c40_38 k) ∧
 evK gS fi40 c40_23 fr st k=evK gS fi40 c40_25 fr st (.blk 2 (.seq c40_34 k)) ∧
 (evK gS fi40 c40_21 fr st k=opsR gS fi40 [mv 24 3 29,
 len1 25 24 29 3,
 asn 7 25 3] fr st (.seq c40_23 k)) ∧
 (evK gS fi40 c40_19 fr st k=opsR gS fi40 [mv 21 0 23,
 mv 22 5 9,
 cal 23 71 [(.tmp 21),(.tmp 22)] [23,9] 91,
 op1 6 (.alloc 91) 0,
 sto 91 6 23] fr st (.seq c40_21 k)) ∧
 (evK gS fi40 c40_17 fr st k=opsR gS fi40 [mv 19 0 23,
 cal 20 70 [(.tmp 19)] [23] 9,
 asn 5 20 9] fr st (.seq c40_19 k)) ∧
 (evK gS fi40 c40_39 fr st k=opsR gS fi40 [mv 17 4 3,
 qB 18 .sub 3 17 1 3 3,
 asn 4 18 3] fr st k) ∧
 evK gS fi40 c40_15 fr st k=evK gS fi40 c40_17 fr st (.blk 1 (.seq c40_39 k)) ∧
 evK gS fi40 c40_9 fr st k=evK gS fi40 c40_10 fr st (.seq c40_15 k) ∧
 evK gS fi40 c40_7 fr st k=evK gS fi40 c40_8 fr st (.blk 0 k) ∧
 (evK gS fi40 c40_5 fr st k=opsR gS fi40 [mv 8 0 23,
 cal 9 11 [(.tmp 8),(.const (.int .i64 4))] [23,3] 3,
 asn 4 9 3] fr st (.seq c40_7 k)) ∧
 (evK gS fi40 c40_40 fr st k=opsR gS fi40 [mv 56 3 29,
 asn 2 56 29] fr st (.seq .ret k)) ∧
 evK gS fi40 c40_4 fr st k=evK gS fi40 c40_5 fr st (.seq c40_40 k) ∧
 evK gS fi40 c40_2 fr st k=opsR gS fi40 [qN 3 29] fr st (.seq c40_4 k) ∧
 evK gS fi40 c40_0 fr st k=opsR gS fi40 [qN 2 29] fr st (.seq c40_2 k):=⟨rfl,evK_rs 3 rfl (by kernel_rfl),rfl,evK_rs 8 rfl (by kernel_rfl),evK_r 9 (by kernel_rfl),rfl,rfl,evK_dr 11 rfl (by kernel_rfl) (by kernel_rfl),evK_r 12 (by kernel_rfl),rfl,rfl,evK_rs 7 rfl (by kernel_rfl),evK_rs 6 rfl (by kernel_rfl),evK_rs 5 rfl (by kernel_rfl),evK_r 4 (by kernel_rfl),rfl,rfl,rfl,evK_rs 2 rfl (by kernel_rfl),evK_rs 13 rfl (by kernel_rfl),rfl,evK_rs 1 rfl (by kernel_rfl),evK_rs 0 rfl (by kernel_rfl)⟩
theorem m40:mini fi40.body=c40_0:=by kernel_rfl
theorem n40_25 (fr:Fr)(st:St)(k:Kt):nextK gS fi40 (.loop c40_26 k) .normal fr st=evK gS fi40 c40_25 fr st k:=rfl
theorem n40_8 (fr:Fr)(st:St)(k:Kt):nextK gS fi40 (.loop c40_9 k) .normal fr st=evK gS fi40 c40_8 fr st k:=rfl
theorem I40 (nm:List UInt8)(f:List Pred)(idl:Nat)(st:St)(ho:St.obj st idl=some (f.flatMap Pred.cells))(hfn:f.length<1000)(R:Out × St)(e0 e4:E)(h0:e0.Tame)(h4:e4.Tame)(X:List (Nat × List V))(at0:Nat)
  (H:∀ T,evK gS fi40 c40_34 {ps:=[(0,e0),(2,.own 0 []),(3,.val (.sref false 13 idl 0 f.length)),(4,e4),(5,.val (.str nm)),(6,.lp 6 0),(7,.val (.int .i64 at0))],ts:=T,lc:=X} st (.blk 1 (.seq c40_39 (.loop c40_9 (.blk 0 (.seq c40_40 .nil)))))=some R) :
  ∀ (k:Nat) (T:List (Nat × E)),k≤f.length→at0=insN f nm k →
  evK gS fi40 c40_25 {ps:=[(0,e0),(2,.own 0 []),(3,.val (.sref false 13 idl 0 f.length)),(4,e4),(5,.val (.str nm)),(6,.lp 6 0),(7,.val (.int .i64 k))],ts:=T,lc:=X} st (.blk 2 (.seq c40_34 (.blk 1 (.seq c40_39 (.loop c40_9 (.blk 0 (.seq c40_40 .nil)))))))=some R:=by
 intro k
 induction k with
 | zero =>
  intro T hk hat
  refine evK_loop c40_26 _ _ _ _ rfl ?_
  have h00:insN f nm 0=0:=rfl
  rw [h00] at hat
  subst hat
  simp only [show ((0:Nat):Int)=0 from rfl] at H ⊢
  simp [-St.obj,-St.set,h0,h4,H,-zil,-zit,-znl,-znt,ty3,ty4,ty9,ty23,ty29,ty91,H40,fi16_eq,fi29_eq,fi91_eq,E40,q40_37,n40_25,n40_8]
 | succ k ih =>
  intro T hk hat
  refine evK_loop c40_26 _ _ _ _ rfl ?_
  obtain ⟨x,hx⟩  := qgx (l:=f) (i:=k) (by omega)
  have hget:=row_get Pred.cells 13 pcells_len hx (j:=0) (by omega)
  have hc0:(Pred.cells x)[0]?=some (.str x.name):=rfl
  rw [hc0,Nat.add_zero] at hget
  have hins:insN f nm (k+1)=if sgt x.name nm then insN f nm k else k+1:=by
   show (if sgt ((f[k]?).getD ⟨[],0,vzero,vzero,[]⟩).name nm then insN f nm k else k+1)=_
   rw [hx];rfl
  rw [hins] at hat
  have hw1:IntKind.wrap .i64 (((k+1:Nat):Int) - 1)=(k:Int):=by rw [wrap64 (by omega) (by omega)];omega
  have hp:(0:Int)<((k+1:Nat):Int):=by omega
  have hlt:(k:Int)<(f.length:Int):=by omega
  have hlt2:k<f.length:=by omega
  have hsg:(!(Op.bytesLess x.name nm || decide (x.name=nm)))=sgt x.name nm:=rfl
  cases hs:sgt x.name nm with
  | true =>
   rw [hs] at hsg hat
   have IH:=fun T=>ih T (by omega) (by rw [hat];rfl)
   simp [-zia,-Bool.not_or,-St.obj,-St.set,h0,h4,ho,hget,hw1,hp,hlt,hlt2,hsg,IH,-zil,-zit,-znl,-znt,ty3,ty4,ty9,ty23,ty29,ty91,H40,fi16_eq,fi29_eq,fi91_eq,E40,q40_37,n40_25,n40_8]
  | false =>
   rw [hs] at hsg hat
   have hat2:at0=k+1:=by rw [hat];rfl
   subst hat2
   simp [-zia,-Bool.not_or,-St.obj,-St.set,h0,h4,ho,hget,hw1,hp,hlt,hlt2,hsg,H,-zil,-zit,-znl,-znt,ty3,ty4,ty9,ty23,ty29,ty91,H40,fi16_eq,fi29_eq,fi91_eq,E40,q40_37,n40_25,n40_8]
theorem ins_shift (f:List Pred)(z p:Pred) {i:Nat} (hi:i≤f.length) :
  (((f ++ [z]).take (i+1) ++ ((f ++ [z]).drop i).take (f.length - i)).take i ++ [p] ++ ((f ++ [z]).take (i+1) ++ ((f ++ [z]).drop i).take (f.length - i)).drop (i+1))=f.take i ++ p :: f.drop i:=by
 have h1:((f ++ [z]).take (i+1)).length=i+1:=by simp;omega
 rw [List.take_append_of_le_length (by omega),List.take_take,Nat.min_eq_left (by omega),List.take_append_of_le_length hi,List.drop_append,h1,Nat.sub_self,List.drop_zero,List.drop_of_length_le (by omega),List.nil_append]
 rw [List.drop_append_of_le_length hi,List.take_append_of_le_length (by simp),List.take_of_length_le (l:=f.drop i) (by simp)]
 simp
theorem T40_34 (f:List Pred)(hne:f≠[])(p:Pred)(hfn:f.length<1000)(i:Nat)(hi:i≤f.length)(id m q:Nat)(st:St)(h:FeedOk st id)(l:List Int)(A:Nat)(nm:List UInt8)(r:Nat)(hr:r<1000)(R:Out × St)
  (e0:E) (h0:e0.Tame) (X:List (Nat × List V)) (hx:lk X 6=some p.cells) (T:List (Nat × E))
  (IH:∀ T,evK gS fi40 c40_8 {ps:=[(0,e0),(2,.own 0 []),(3,.val (.sref false 13 (st.objs.length+(m+1+q)) 0 (f.length+1))),(4,.val (.int .i64 r)),(5,.val (.str nm)),(6,.lp 6 0),(7,.val (.int .i64 i))],ts:=T,lc:=X} (setF (nw st (m+1+q) ((f.take i ++ p :: f.drop i).flatMap Pred.cells)) id l A) (.blk 0 (.seq c40_40 .nil))=some R) :
  evK gS fi40 c40_34 {ps:=[(0,e0),(2,.own 0 []),(3,.val (.sref false 13 (st.objs.length+m) 0 f.length)),(4,.val (.int .i64 ((r+1:Nat):Int))),(5,.val (.str nm)),(6,.lp 6 0),(7,.val (.int .i64 i))],ts:=T,lc:=X} (setF (dd (nw st m (f.flatMap Pred.cells)) q) id l A) (.blk 1 (.seq c40_39 (.loop c40_9 (.blk 0 (.seq c40_40 .nil)))))=some R:=by
 have hm:fi40.marks=[43,1000000]:=rfl
 have hl:fi40.locals=[6]:=rfl
 have hr:fi40.results=[.tmp 2]:=rfl
 have ho:=obj_mid h m q (f.flatMap Pred.cells) l A
 have hk:=set_mid h m q (f.flatMap Pred.cells) l A
 have hn:=fun fr k len cs=>newRef_dd h fr (m+1+q) k len cs l A
 have hz:f.flatMap Pred.cells ++ [.str [],.int .i64 0,.int .i64 0,.int .i64 0,.float .f64 0,.str [],.bool false,.int .i64 0,.int .i64 0,.float .f64 0,.str [],.bool false,.slice []]=(f ++ [pzero]).flatMap Pred.cells:=by simp [pzero,vzero,encVals]
 have hst:=row_strip Pred.cells Pred.cells pcells_strip f
 have hon:=row_one Pred.cells pcells_one f
 have hle:=row_len Pred.cells 13 pcells_len f
 have hfl:0<f.length:=List.length_pos_iff.2 hne
 have b1:(f.length+1)*144≤140737488355328:=by omega
 have b2:f.length+1≤140737488355328:=by omega
 have hw1  := qws i (by omega)
 have hw2:IntKind.wrap .i64 (((r+1:Nat):Int) - 1)=(r:Int):=by rw [wrap64 (by omega) (by omega)];omega
 have ho2:=obj_gr h (m+1+q) ((f ++ [pzero]).flatMap Pred.cells) l A
 have hel:=elems_row ho2 false (i:=i) (by simp;omega)
 rw [zla,List.length_singleton] at hel
 have hlen:(f ++ [pzero]).length=f.length+1:=by simp
 generalize hE0:f ++ [pzero]=E0 at *
 have hsh:=ins_shift f pzero p hi
 rw [hE0] at hsh
 have hs1:=sizes_preds (E0.drop i)
 have hdl:(E0.drop i).length=f.length+1 - i:=by simp [hlen]
 have c1:((i+1:Nat):Int)≤(f.length:Int)+1:=by omega
 have c2:(i:Int)≤(f.length:Int)+1:=by omega
 have c3:(i:Int)<(f.length:Int)+1:=by omega
 have hst2:=fun cs cs'=>set_gr' h (m+1+q) cs cs' l A
 have hspl:=row_splices Pred.cells 13 pcells_len E0 ((E0.drop i).take (f.length - i)) (i+1) (by rw [List.length_take,hdl,hlen];omega)
 have hE1:E0.take (i+1) ++ (E0.drop i).take (f.length - i) ++ E0.drop (i+1+((E0.drop i).take (f.length - i)).length)=E0.take (i+1) ++ (E0.drop i).take (f.length - i):=by
  have hd0:E0.drop (i+1+((E0.drop i).take (f.length - i)).length)=[]:=List.drop_of_length_le (by rw [List.length_take,hdl,hlen];omega)
  rw [hd0,List.append_nil]
 rw [hE1] at hspl
 generalize hE1g:E0.take (i+1) ++ (E0.drop i).take (f.length - i)=E1 at *
 have hl1:E1.length=f.length+1:=by rw [← hE1g,zla,List.length_take,List.length_take,hdl,hlen];omega
 have hspl2:=row_splices Pred.cells 13 pcells_len E1 [p] i (by rw [hl1,List.length_singleton];omega)
 rw [List.length_singleton,hsh] at hspl2
 have hpc:[p].flatMap Pred.cells=p.cells:=by simp
 rw [hpc] at hspl2
 simp only [Pred.cells] at hspl2 hx
 have hmc:∀ k,((encPreds (E0.drop i)).take k).flatMap V.cells=((E0.drop i).take k).flatMap Pred.cells:=fun k=>by
  rw [show (encPreds (E0.drop i)).take k=encPreds ((E0.drop i).take k) from by simp [encPreds],enc_cells]
 have hone:=row_one Pred.cells pcells_one ((E0.drop i).take (f.length - i))
 have hrl:=row_len Pred.cells 13 pcells_len ((E0.drop i).take (f.length - i))
 have ho1:=obj_gr h (m+1+q) (E1.flatMap Pred.cells) l A
 have hcp:∀ n:Nat,(f.length+1 - i - (n+1))=f.length - i - n:=fun n=>by omega
 have hsz:splice [.str [],.int .i64 0,.int .i64 0,.int .i64 0,.float .f64 0,.str [],.bool false,.int .i64 0,.int .i64 0,.float .f64 0,.str [],.bool false,.osl 0 []] 0 [.str [],.int .i64 0,.int .i64 0,.int .i64 0,.float .f64 0,.str [],.bool false,.int .i64 0,.int .i64 0,.float .f64 0,.str [],.bool false,.slice []]=some [.str [],.int .i64 0,.int .i64 0,.int .i64 0,.float .f64 0,.str [],.bool false,.int .i64 0,.int .i64 0,.float .f64 0,.str [],.bool false,.slice []]:=rfl
 have heo:∀ (ea:Bool) (k:Nat) (st:St) (n:Nat) (xs:List V),elemsAt ea k st (.own n xs)=some xs:=fun _ _ _ _ _=>rfl
 by_cases hil:i=f.length
 ·have hE01:E1=E0:=by
   rw [← hE1g,hil,Nat.sub_self,List.take_zero,List.append_nil,List.take_of_length_le (by omega)]
  subst hil
  rw [Nat.add_sub_cancel_left] at hel
  rw [hE01] at hspl2
  clear hE1 hE1g hspl hsh hone hrl ho1 hcp hmc hpc
  have hd1:(E0.drop f.length).length=1:=by rw [hdl];omega
  simp [-zia,-St.obj,-St.set,-splice,h0,ho,hk,hn,hz,hst,hon,hle,hfl,b1,b2,hw1,hw2,ho2,hel,hlen,hs1,hd1,hspl2,hst2,hsz,heo,copyStep,markStep,markAppend,hx,IH,-zil,-zit,-znl,-znt,ty3,ty4,ty9,ty23,ty29,ty91,hm,hl,hr,fi16_eq,fi29_eq,fi91_eq,E40,q40_37,e40_34,n40_25,n40_8]
  simpa [Pred.cells] using IH [(18,.val (.int .i64 (r:Int))),(17,.val (.int .i64 ((r+1:Nat):Int)))]
 ·have hmin:min (f.length+1 - i) (f.length - i)=f.length - i:=by omega
  have hlei:¬ f.length≤i:=by omega
  have hne0:¬ (f.length - i=0):=by omega
  have hrl2:(((E0.drop i).take (f.length - i)).flatMap Pred.cells).length=(f.length - i)*13:=by rw [hrl,List.length_take,hdl];congr 1;omega
  have hpos2:0<(f.length - i)*13:=by omega
  have hpos3:i<f.length:=by omega
  have c6:((i+1:Nat):Int)≤((f.length+1:Nat):Int):=by omega
  have c7:(i:Int)≤((f.length+1:Nat):Int):=by omega
  have c8:(i:Int)<((f.length+1:Nat):Int):=by omega
  have c9:(0:Int)≤((i+1:Nat):Int):=by omega
  have c10:¬ i=f.length+1:=by omega
  simp [-zia,-List.flatMap_append,-St.obj,-St.set,-splice,h0,ho,hk,hn,hz,hst,hon,hle,hfl,b1,b2,hw1,hw2,ho1,ho2,hel,hlen,hs1,hdl,hmin,hlei,hne0,hrl2,hpos2,hpos3,hil,c6,c7,c8,c9,c10,hmc,hone,hspl,hspl2,hst2,hsz,heo,copyStep,markStep,markAppend,hx,-zil,-zit,-znl,-znt,ty3,ty4,ty9,ty23,ty29,ty91,hm,hl,hr,fi16_eq,fi29_eq,fi91_eq,E40,q40_37,e40_34,n40_25,n40_8]
  exact IH _
theorem L40 (l:List Int)(a id:Nat)(ha:a<549755813888)(st:St)(h:FeedOk st id):∀ (r j m:Nat) (f:List Pred) (e5 e6 e7:E) (T:List (Nat × E)) (X:List (Nat × List V)) (h5:e5.Tame) (h6:e6.Tame) (h7:e7.Tame),f≠[]→f.length+r≤3→j+20*r<549755810000 →
  evK gS fi40 c40_8 {ps:=[(0,.val (.ptr id 0)),(2,.own 0 []),(3,.val (.sref false 13 (st.objs.length+m) 0 f.length)),(4,.val (.int .i64 r)),(5,e5),(6,e6),(7,e7)],ts:=T,lc:=X} (setF (nw st m (f.flatMap Pred.cells)) id l (nA l a j)) (.blk 0 (.seq c40_40 .nil))=some (.ret (.slice (encPreds (filterG l a r j (m+1) f).1)) none,setF (dd st (filterG l a r j (m+1) f).2.2) id l (nA l a (filterG l a r j (m+1) f).2.1)):=by
 intro r
 induction r with
 | zero =>
  intro j m f e5 e6 e7 T X h5 h6 h7 hne hlr hj
  refine evK_loop c40_9 _ _ _ _ rfl ?_
  have hz:=frz_preds 5 (st.objs.length+m) f hne (obj_gr h m _ l (nA l a j)) (set_gr h m _ l (nA l a j))
  rw [show filterG l a 0 j (m+1) f=(f,j,m+1) from rfl]
  simp [-St.obj,-St.set,h5,h6,h7,hz,-zil,-zit,-znl,-znt,ty3,ty4,ty9,ty23,ty29,ty91,H40,fi16_eq,fi29_eq,fi91_eq,E40,q40_37,e40_34,n40_25,n40_8]
 | succ r ih =>
  intro j m f e5 e6 e7 T X h5 h6 h7 hne hlr hj
  refine evK_loop c40_9 _ _ _ _ rfl ?_
  have hn:=fun fr=>k70 l a j id fr (nw st m (f.flatMap Pred.cells)) (h.nw m _) ha (by omega)
  have hp:=fun fr=>k71 l a (j+1) id (nameV l a j) fr (nw st m (f.flatMap Pred.cells)) (h.nw m _) ha (by omega)
  have hg:filterG l a (r+1) j (m+1) f=filterG l a r (j+1+(predV l a (j+1) (nameV l a j)).2) (m+1+(predV l a (j+1) (nameV l a j)).1.set.length+1) (insP f (predV l a (j+1) (nameV l a j)).1 (nameV l a j)):=rfl
  rw [hg]
  have hpa:=pred_asks l a (j+1) (nameV l a j)
  generalize nameV l a j=nm at *
  generalize predV l a (j+1) nm=P at *
  obtain ⟨p,k⟩:=P
  simp only at hp hg hpa ⊢
  have c1:(0:Int)<((r+1:Nat):Int):=by omega
  have c2:(f.length:Int)<3:=by omega
  have c3:f.length<3:=by omega
  have hil:=insP_length f p nm
  have hi:=insN_le f nm f.length
  have ipe:insP f p nm≠[]:=by intro e;rw [e] at hil;simp at hil
  have IH:=fun T X=>ih (j+1+k) (m+1+p.set.length) (insP f p nm) (.val (.str nm)) (.lp 6 0) (.val (.int .i64 (insN f nm f.length))) T X rfl rfl rfl ipe (by rw [hil];omega) (by omega)
  rw [hil] at IH
  simp only [insP] at IH ⊢
  have TT:=fun X hx T=>T40_34 f hne p (by omega) (insN f nm f.length) hi id m p.set.length st h l (nA l a (j+1+k)) nm r (by omega) _ (.val (.ptr id 0)) rfl X hx T (fun T=>IH T X)
  have II:=fun X hx T=>I40 nm f (st.objs.length+m) (setF (dd (nw st m (f.flatMap Pred.cells)) p.set.length) id l (nA l a (j+1+k))) (obj_mid h m p.set.length _ l _) (by omega) _ (.val (.ptr id 0)) (.val (.int .i64 ((r+1:Nat):Int))) rfl rfl X (insN f nm f.length) (fun T=>TT X hx T) f.length T (Nat.le_refl _) rfl
  simp [-zia,-St.obj,-St.set,-List.flatMap_append,h5,h6,h7,hn,hp,c1,c2,c3,-zil,-zit,-znl,-znt,ty3,ty4,ty9,ty23,ty29,ty91,H40,fi16_eq,fi29_eq,fi91_eq,E40,q40_37,e40_34,n40_25,n40_8]
  refine II _ ?_ _
  simp
theorem c40 (l:List Int)(a j id:Nat)(st:St)(h:FeedOk st id)(ha:a<549755813888)(hj:j<549755809000) :
  EvF gS 40 [.ptr id 0] (setF st id l (nA l a j))=some (.ret (.slice (encPreds (filterV l a j).1)) none,setF (dd st (filterV l a j).2.2) id l (nA l a (filterV l a j).2.1)):=by
 refine EvF_start fi35_eq (fun x h=>by cases h) m40 ?_
 rw [st40]
 have hb:=fd_bound l a j (n:=4) (by omega)
 have hk:=fun fr=>k11 l a j id 4 fr st h ha (by omega) (by omega)
 unfold filterV
 generalize fd l a j 4=z at *
 obtain ⟨r,rfl⟩:∃ r:Nat,z=(r:Int):=⟨z.toNat,by omega⟩
 rw [Int.toNat_natCast]
 simp [-St.obj,-St.set,hk,-zil,-zit,-znl,-znt,ty3,ty4,ty9,ty23,ty29,ty91,H40,fi16_eq,fi29_eq,fi91_eq,E40,q40_37,e40_34,n40_25,n40_8]
 cases r with
 | zero =>
  refine evK_loop c40_9 _ _ _ _ rfl ?_
  have hz:∀ st,frz 6 st (.slice [])=some (.slice [],st):=fun st=>frz_flat 6 st _ rfl
  rw [show filterG l a 0 (j+1) 0 []=([],j+1,0) from rfl]
  simp [-St.obj,-St.set,hz,dd_zero,encPreds,-zil,-zit,-znl,-znt,ty3,ty4,ty9,ty23,ty29,ty91,H40,fi16_eq,fi29_eq,fi91_eq,E40,q40_37,e40_34,n40_25,n40_8]
 | succ r =>
  refine evK_loop c40_9 _ _ _ _ rfl ?_
  have hn:=fun fr=>k70 l a (j+1) id fr st h ha (by omega)
  have hp:=fun fr=>k71 l a (j+1+1) id (nameV l a (j+1)) fr st h ha (by omega)
  have hg:filterG l a (r+1) (j+1) 0 []=filterG l a r (j+1+1+(predV l a (j+1+1) (nameV l a (j+1))).2) (0+(predV l a (j+1+1) (nameV l a (j+1))).1.set.length+1) (insP [] (predV l a (j+1+1) (nameV l a (j+1))).1 (nameV l a (j+1))):=rfl
  rw [hg]
  have hpa:=pred_asks l a (j+1+1) (nameV l a (j+1))
  generalize nameV l a (j+1)=nm at *
  generalize predV l a (j+1+1) nm=P at *
  obtain ⟨p,k⟩:=P
  simp only at hp hg hpa ⊢
  rw [show insP [] p nm=[p] from rfl,Nat.zero_add]
  have c1:(0:Int)<((r+1:Nat):Int):=by omega
  have LL:=fun e5 e6 e7 T X h5 h6 h7=>L40 l a id ha st h r (j+1+1+k) p.set.length [p] e5 e6 e7 T X h5 h6 h7 (by simp) (by simp;omega) (by omega)
  have hpc:[p].flatMap Pred.cells=p.cells:=by simp
  rw [hpc] at LL
  simp only [Pred.cells,List.length_singleton] at LL
  have hnr:=fun fr kk len cs=>newRef_dd h fr p.set.length kk len cs l (nA l a (j+1+1+k))
  have ho2:=fun cs=>obj_gr h p.set.length cs l (nA l a (j+1+1+k))
  have hst2:=fun cs cs'=>set_gr' h p.set.length cs cs' l (nA l a (j+1+1+k))
  have heo:∀ (ea:Bool) (k:Nat) (st:St) (n:Nat) (xs:List V),elemsAt ea k st (.own n xs)=some xs:=fun _ _ _ _ _=>rfl
  have hw2:IntKind.wrap .i64 (((r+1:Nat):Int) - 1)=(r:Int):=by rw [wrap64 (by omega) (by omega)];omega
  have hel1:elemsAt true 13 (setF (nw st p.set.length [.str [],.int .i64 0,.int .i64 0,.int .i64 0,.float .f64 0,.str [],.bool false,.int .i64 0,.int .i64 0,.float .f64 0,.str [],.bool false,.slice []]) id l (nA l a (j+1+1+k))) (.val (.sref false 13 (st.objs.length+p.set.length) 0 1))=some (encPreds [pzero]):=elems_row (l:=[pzero]) (ho2 _) false (i:=0) (Nat.zero_le _)
  have hs1:=sizes_preds [pzero]
  simp [-zia,-St.obj,-St.set,hn,hp,c1,-zil,-zit,-znl,-znt,ty3,ty4,ty9,ty23,ty29,ty91,H40,fi16_eq,fi29_eq,fi91_eq,E40,q40_37,e40_34,n40_25,n40_8]
  refine evK_loop c40_26 _ _ _ _ rfl ?_
  simp [-zia,-St.obj,-St.set,hnr,ho2,hst2,heo,hw2,w64_1,hel1,hs1,copyStep,markStep,markAppend,-zil,-zit,-znl,-znt,ty3,ty4,ty9,ty23,ty29,ty91,H40,fi16_eq,fi29_eq,fi91_eq,E40,q40_37,e40_34,n40_25,n40_8]
  exact LL _ _ _ _ _ rfl rfl rfl
theorem k40 (l:List Int)(a j id:Nat)(fr:Fr)(st:St)(h:FeedOk st id)(ha:a<549755813888)(hj:j<549755809000) :
  callStep gS (EvF gS) 40 [.ptr id 0] fr (setF st id l (nA l a j))=some (.ok (.val (.slice (encPreds (filterV l a j).1))) (fr.map E.noMem) (setF (dd st (filterV l a j).2.2) id l (nA l a (filterV l a j).2.1))):=by
 unfold callStep
 simp only [show gS.ext 40=none from rfl,fi35_eq,show fi40.pure=false from rfl,Bool.false_eq_true,if_false,c40 l a j id st h ha hj,retE]
 all_goals rfl
end
end Go.Proofs.Ytdoobejjedpcgaa
namespace Go.Ab
open Go
def okNames:Bool:=N4.all fun x=>N4.all fun y=>(N4.all fun z=>sgt x y || sgt y z || !sgt x z) && (!sgt x y || !sgt y x) && isWord x
theorem names_ok:okNames=true:=by kernel_rfl
def NM (x:List UInt8):Prop:=x∈N4
theorem nm_trans {x y z:List UInt8} (hx:NM x)(hy:NM y)(hz:NM z)(h1:sgt x y=false)(h2:sgt y z=false):sgt x z=false:=by
 have:=List.all_eq_true.1 (List.all_eq_true.1 names_ok x hx) y hy
 simp only [Bool.and_eq_true] at this
 have:=List.all_eq_true.1 this.1.1 z hz
 rw [h1,h2] at this
 simpa using this
theorem nm_asym {x y:List UInt8} (hx:NM x)(hy:NM y)(h:sgt x y=true):sgt y x=false:=by
 have:=List.all_eq_true.1 (List.all_eq_true.1 names_ok x hx) y hy
 simp only [Bool.and_eq_true] at this
 have:=this.1.2
 rw [h] at this
 simpa using this
theorem nm_word {x:List UInt8} (hx:NM x):isWord x=true:=by
 have:=List.all_eq_true.1 (List.all_eq_true.1 names_ok x hx) x hx
 simp only [Bool.and_eq_true] at this
 exact this.2
theorem nameV_nm (l:List Int)(a j:Nat):NM (nameV l a j):=by
 unfold NM nameV
 have hlt:(fd l a j 12).toNat / 3 % 4<N4.length:=by show _<4;omega
 rw [List.getD_eq_getElem?_getD,zge hlt]
 exact List.getElem_mem hlt
structure FFV (f:List Pred):Prop where
 right:∀ p∈f,pright p=true
 fv:∀ p∈f,PFV p
 nm:∀ p∈f,NM p.name
 srt:f.Pairwise fun x y=>sgt x.name y.name=false
theorem ffv_nil:FFV []:=⟨by simp,by simp,by simp,List.Pairwise.nil⟩
theorem insN_above (f:List Pred)(nm:List UInt8):∀ (k i:Nat) (p:Pred),insN f nm k≤i→i<k→f[i]?=some p→sgt p.name nm=true
 | 0,i,p,_,h,_=>by omega
 | k+1,i,p,h1,h2,hp=>by
  unfold insN at h1
  split at h1
  ·rename_i hs
   by_cases hik:i=k
   ·subst hik;rw [hp] at hs;exact hs
   ·exact insN_above f nm k i p h1 (by omega) hp
  ·omega
theorem insN_below (f:List Pred)(nm:List UInt8):∀ (k:Nat) (p:Pred),k≤f.length→0<insN f nm k→f[insN f nm k - 1]?=some p→sgt p.name nm=false
 | 0,p,_,h,_=>by simp [insN] at h
 | k+1,p,hk,h,hp=>by
  unfold insN at h hp
  split at h
  ·rename_i hs
   rw [if_pos hs] at hp
   exact insN_below f nm k p (by omega) h hp
  ·rename_i hs
   rw [if_neg hs,Nat.add_sub_cancel] at hp
   rw [hp] at hs
   simpa using hs
theorem ins_ffv {f:List Pred} (h:FFV f) {p:Pred} (h1:pright p=true)(h2:PFV p)(h3:NM p.name):FFV (insP f p p.name):=by
 have hle:=insN_le f p.name f.length
 have hab:=insN_above f p.name f.length
 have hbe:=insN_below f p.name f.length
 unfold insP
 generalize hi:insN f p.name f.length=i at *
 have mem:∀ x,x∈f.take i ++ p :: f.drop i→x∈f∨x=p:=by
  intro x hx
  rcases List.mem_append.1 hx with hx | hx
  ·exact .inl (List.mem_of_mem_take hx)
  ·rcases List.mem_cons.1 hx with hx | hx
   ·exact .inr hx
   ·exact .inl (List.mem_of_mem_drop hx)
 refine ⟨fun x hx=>?_,fun x hx=>?_,fun x hx=>?_,?_⟩
 ·rcases mem x hx with h' | rfl
  ·exact h.right x h'
  ·exact h1
 ·rcases mem x hx with h' | rfl
  ·exact h.fv x h'
  ·exact h2
 ·rcases mem x hx with h' | rfl
  ·exact h.nm x h'
  ·exact h3
 ·have hs:=h.srt
  have hsp:f.take i ++ f.drop i=f:=List.take_append_drop i f
  rw [← hsp] at hs
  rw [List.pairwise_append] at hs ⊢
  obtain ⟨s1,s2,s3⟩:=hs
  have low:∀ x∈f.take i,sgt x.name p.name=false:=by
   intro x hx
   have hpos:0<i:=by
    cases i with
    | zero=>simp at hx
    | succ i=>omega
   have hlast:i - 1<f.length:=by omega
   have hb:=hbe (f[i - 1]) (Nat.le_refl _) hpos (zge hlast)
   obtain ⟨j,hj,rfl⟩:=List.getElem_of_mem hx
   rw [List.length_take] at hj
   rw [List.getElem_take]
   by_cases hji:j=i - 1
   ·subst hji;exact hb
   ·have hlt:j<i - 1:=by omega
    have hp:=List.pairwise_iff_getElem.1 h.srt j (i - 1) (by omega) hlast hlt
    exact nm_trans (h.nm _ (List.getElem_mem _)) (h.nm _ (List.getElem_mem _)) h3 hp hb
  have high:∀ x∈f.drop i,sgt p.name x.name=false:=by
   intro x hx
   obtain ⟨j,hj,rfl⟩:=List.getElem_of_mem hx
   rw [List.length_drop] at hj
   rw [List.getElem_drop]
   have:=hab (i+j) (f[i+j]'(by omega)) (by omega) (by omega) (zge _)
   exact nm_asym (h.nm _ (List.getElem_mem _)) h3 this
  refine ⟨s1,List.pairwise_cons.2 ⟨fun x hx=>high x hx,s2⟩,fun x hx y hy=>?_⟩
  rcases List.mem_cons.1 hy with rfl | hy
  ·exact low x hx
  ·exact s3 x hx y hy
theorem predV_name (l:List Int)(a j:Nat)(nm:List UInt8):(predV l a j nm).1.name=nm:=by
 unfold predV
 simp only
 repeat' split
 all_goals rfl
theorem filterG_ffv (l:List Int)(a:Nat):∀ (n j d:Nat) (f:List Pred),FFV f→FFV (filterG l a n j d f).1∧(filterG l a n j d f).1.length=f.length+n
 | 0,j,d,f,h=>⟨h,rfl⟩
 | n+1,j,d,f,h=>by
  have hn:=nameV_nm l a j
  have hp:=predV_name l a (j+1) (nameV l a j)
  have h2:=ins_ffv h (p:=(predV l a (j+1) (nameV l a j)).1) (pred_right _ _ _ (nm_word hn)) (pred_fv _ _ _ _) (by rw [hp];exact hn)
  rw [hp] at h2
  have:=filterG_ffv l a n (j+1+(predV l a (j+1) (nameV l a j)).2) (d+(predV l a (j+1) (nameV l a j)).1.set.length+1) _ h2
  refine ⟨this.1,?_⟩
  have h3:=this.2
  rw [insP_length] at h3
  show (filterG l a n _ _ _).1.length=_
  omega
theorem filterV_ffv (l:List Int)(a j:Nat):FFV (filterV l a j).1∧(filterV l a j).1.length≤3:=by
 have hb:=fd_bound l a j (n:=4) (by omega)
 have:=filterG_ffv l a (fd l a j 4).toNat (j+1) 0 [] ffv_nil
 refine ⟨this.1,?_⟩
 have h2:=this.2
 simp only [List.length_nil,Nat.zero_add] at h2
 unfold filterV
 omega
theorem rises_of:∀ (f:List Pred)(o:Option (List UInt8)),(∀ p∈f,pright p=true)→f.Pairwise (fun x y=>sgt x.name y.name=false)→(∀ n p,o=some n→f.head?=some p→sgt n p.name=false)→rises o f=true
 | [],o,_,_,_=>rises_nil o
 | p :: r,o,h1,h2,h3=>by
  obtain ⟨h4,h5⟩:=List.pairwise_cons.1 h2
  have ih:=rises_of r (some p.name) (fun q hq=>h1 q (by simp [hq])) h5 (fun n q hn hq=>by
   cases hn
   exact h4 q (List.mem_of_mem_head? hq))
  cases o with
  | none=>rw [rises_none,h1 p (by simp),ih];rfl
  | some n=>rw [rises_some,h1 p (by simp),ih,h3 n p rfl rfl];rfl
theorem ffv_right {f:List Pred} (h:FFV f)(hl:f.length≤3):fright f=true:=by
 unfold fright
 rw [rises_of f none h.right h.srt (fun n p hn=>by cases hn)]
 simp [hl]
theorem filterG_bounds (l:List Int)(a:Nat):∀ (n j d:Nat) (f:List Pred),(filterG l a n j d f).2.1≤j+11*n∧(filterG l a n j d f).2.2≤d+5*n
 | 0,j,d,f=>⟨by simp [filterG],by simp [filterG]⟩
 | n+1,j,d,f=>by
  have h1:=pred_asks l a (j+1) (nameV l a j)
  have hn:=nm_word (nameV_nm l a j)
  have h2:(predV l a (j+1) (nameV l a j)).1.set.length≤4:=by
   have hr:=pred_right l a (j+1) hn
   generalize (predV l a (j+1) (nameV l a j)).1=p at hr ⊢
   unfold pright at hr
   split at hr
   ·repeat' split at hr
    all_goals first
     | (simp only [Bool.and_eq_true,decide_eq_true_eq] at hr;omega)
     | cases hr
   ·cases hr
  have:=filterG_bounds l a n (j+1+(predV l a (j+1) (nameV l a j)).2) (d+(predV l a (j+1) (nameV l a j)).1.set.length+1) (insP f (predV l a (j+1) (nameV l a j)).1 (nameV l a j))
  unfold filterG
  omega
theorem filterV_asks (l:List Int)(a j:Nat):(filterV l a j).2.1≤j+34:=by
 have hb:=fd_bound l a j (n:=4) (by omega)
 have:=(filterG_bounds l a (fd l a j 4).toNat (j+1) 0 []).1
 unfold filterV
 omega
theorem attrsG_asks (l:List Int)(a:Nat):∀ (q:List (List UInt8 × Int)) (j:Nat),(attrsG l a q j).2≤j+3*q.length
 | [],j=>by simp [attrsG]
 | (nm,x) :: r,j=>by
  have h1:=attrsG_asks l a r (j+3)
  have h2:=attrsG_asks l a r (j+1)
  unfold attrsG
  split
  ·simp only [List.length_cons];omega
  ·simp only [List.length_cons];omega
theorem attrsV_asks (l:List Int)(a j:Nat):(attrsV l a j).2≤j+15:=attrsG_asks l a A5 j
theorem attrsG_len (l:List Int)(a:Nat):∀ (q:List (List UInt8 × Int)) (j:Nat),(attrsG l a q j).1.length≤q.length
 | [],j=>by simp [attrsG]
 | (nm,x) :: r,j=>by
  have h1:=attrsG_len l a r (j+3)
  have h2:=attrsG_len l a r (j+1)
  unfold attrsG
  split
  ·simp only [List.length_cons];omega
  ·simp only [List.length_cons];omega
theorem attrsV_len (l:List Int)(a j:Nat):(attrsV l a j).1.length≤5:=attrsG_len l a A5 j
end Go.Ab
namespace Go.Ab
open Go
def AFV (A:List Attr):Prop:=∀ x∈A,∃ r,FV x.v r
theorem attrsG_fv (l:List Int)(a:Nat):∀ (q:List (List UInt8 × Int)) (j:Nat),AFV (attrsG l a q j).1
 | [],j=>by intro x hx;simp [attrsG] at hx
 | (nm,n) :: r,j=>by
  unfold attrsG
  split
  ·intro x hx
   rcases List.mem_cons.1 hx with rfl | hx
   ·exact (vr_value _ _ _).2
   ·exact attrsG_fv l a r (j+3) x hx
  ·exact attrsG_fv l a r (j+1)
theorem attrsV_fv (l:List Int)(a j:Nat):AFV (attrsV l a j).1:=attrsG_fv l a A5 j
theorem aget_fv:∀ {A:List Attr} {nm:List UInt8},AFV A→∃ r,FV (aget A nm).1 r
 | [],nm,_=>fv_zero
 | x :: r,nm,h=>by
  unfold aget
  split
  ·exact h x (by simp)
  ·exact aget_fv fun y hy=>h y (by simp [hy])
def FF (f:List Pred):Prop:=∀ p∈f,PFV p
theorem covers_sound {f g:List Pred} {A:List Attr} (hf:FF f)(hg:FF g)(hA:AFV A)(hc:fcovers f g=true)(ht:ftakes g A=true):ftakes f A=true:=by
 unfold ftakes at ht ⊢
 rw [List.all_eq_true] at ht ⊢
 unfold fcovers at hc
 rw [Bool.or_eq_true] at hc
 rcases hc with hc | hc
 ·obtain ⟨q,hq,hv⟩:=List.any_eq_true.1 hc
  have h1:=ht q hq
  rw [Bool.and_eq_true] at h1
  rw [void_none (hg q hq) (aget_fv hA) hv] at h1
  exact absurd h1.2 (by simp)
 ·intro p hp
  have h1:=List.all_eq_true.1 hc p hp
  obtain ⟨q,hq,h2⟩:=List.any_eq_true.1 h1
  rw [Bool.and_eq_true,decide_eq_true_eq] at h2
  have h3:=ht q hq
  rw [Bool.and_eq_true] at h3 ⊢
  rw [← h2.1]
  exact ⟨h3.1,sound (hg q hq) (hf p hp) (aget_fv hA) h2.2 h3.2⟩
def Apt (a b:List Pred):Prop:=fcovers a b=false∧fcovers b a=false
structure Row (row:List (List Pred)):Prop where
 apart:row.Pairwise Apt
theorem fstep_ff {row:List (List Pred)} {f:List Pred} (h:∀ g∈row,FF g)(hf:FF f):∀ g∈fstep row f,FF g:=by
 unfold fstep
 split
 ·exact h
 ·intro g hg
  rcases List.mem_append.1 hg with hg | hg
  ·exact h g (List.mem_filter.1 hg).1
  ·simp at hg;subst hg;exact hf
theorem fstep_any {row:List (List Pred)} {f:List Pred} {A:List Attr} (h:∀ g∈row,FF g)(hf:FF f)(hA:AFV A):fany (fstep row f) A=(fany row A || ftakes f A):=by
 unfold fstep
 split
 ·rename_i hc
  obtain ⟨g,hg,hc⟩:=List.any_eq_true.1 hc
  cases ht:ftakes f A with
  | false=>rw [Bool.or_false]
  | true =>
   have:fany row A=true:=List.any_eq_true.2 ⟨g,hg,covers_sound (h g hg) hf hA hc ht⟩
   rw [this];rfl
 ·have e1:fany (row.filter (fun g=>!fcovers f g) ++ [f]) A=(fany (row.filter fun g=>!fcovers f g) A || ftakes f A):=by
   unfold fany;rw [List.any_append];simp
  rw [e1]
  cases ht:ftakes f A with
  | true=>rw [Bool.or_true,Bool.or_true]
  | false =>
   rw [Bool.or_false,Bool.or_false]
   unfold fany
   rw [Bool.eq_iff_iff,List.any_eq_true,List.any_eq_true]
   constructor
   ·rintro ⟨g,hg,h1⟩;exact ⟨g,(List.mem_filter.1 hg).1,h1⟩
   ·rintro ⟨g,hg,h1⟩
    refine ⟨g,List.mem_filter.2 ⟨hg,?_⟩,h1⟩
    cases hc:fcovers f g with
    | false=>rfl
    | true =>
     have:=covers_sound hf (h g hg) hA hc h1
     rw [ht] at this;cases this
theorem freduce_any {A:List Attr} (hA:AFV A):∀ (l row:List (List Pred)),(∀ g∈row,FF g)→(∀ g∈l,FF g)→fany (l.foldl fstep row) A=(fany row A || fany l A)
 | [],row,_,_=>by simp [fany]
 | f :: r,row,h1,h2=>by
  rw [List.foldl_cons,freduce_any hA r (fstep row f) (fstep_ff h1 (h2 f (by simp))) (fun g hg=>h2 g (by simp [hg])),fstep_any h1 (h2 f (by simp)) hA]
  unfold fany
  rw [List.any_cons,Bool.or_assoc]
end Go.Ab
namespace Go.Ab
open Go
structure Sub where
 client:Int
 broker:Int
 num:Int
 filter:List Pred
 deriving Inhabited
structure Grp where
 filter:List Pred
 clients:List Int
 deriving Inhabited
def Sub.cells (s:Sub):List V:=[.int .i64 s.client,.int .i64 s.broker,.int .i64 s.num,.slice (encPreds s.filter)]
def Sub.enc (s:Sub):V:=.agg s.cells
def encSubs (l:List Sub):List V:=l.map Sub.enc
def Grp.cells (s:Grp):List V:=[.slice (encPreds s.filter),.slice (intVs s.clients)]
def Grp.enc (s:Grp):V:=.agg s.cells
def encGrps (l:List Grp):List V:=l.map Grp.enc
theorem encSubs_length (l:List Sub):(encSubs l).length=l.length:=by simp [encSubs]
theorem encSubs_get (l:List Sub)(i:Nat):(encSubs l)[i]?=(l[i]?).map Sub.enc:=by simp [encSubs]
theorem encSubs_gE (l:List Sub)(i:Nat)(h:i<(encSubs l).length):(encSubs l)[i]'h=(l[i]'(by rw [encSubs_length] at h;exact h)).enc:=by simp [encSubs]
theorem flat_sub (v:Sub):v.enc.flat=true:=by simp [Sub.enc,Sub.cells,V.flat,flats]
theorem flats_subs (l:List Sub):flats (encSubs l)=true:=by
 induction l with
 | nil=>rfl
 | cons x r ih=>simp only [encSubs,List.map_cons,flats,flat_sub] at ih ⊢;exact ih
theorem encGrps_length (l:List Grp):(encGrps l).length=l.length:=by simp [encGrps]
theorem encGrps_get (l:List Grp)(i:Nat):(encGrps l)[i]?=(l[i]?).map Grp.enc:=by simp [encGrps]
theorem encGrps_gE (l:List Grp)(i:Nat)(h:i<(encGrps l).length):(encGrps l)[i]'h=(l[i]'(by rw [encGrps_length] at h;exact h)).enc:=by simp [encGrps]
theorem flat_grp (v:Grp):v.enc.flat=true:=by simp [Grp.enc,Grp.cells,V.flat,flats]
theorem flats_grps (l:List Grp):flats (encGrps l)=true:=by
 induction l with
 | nil=>rfl
 | cons x r ih=>simp only [encGrps,List.map_cons,flats,flat_grp] at ih ⊢;exact ih
attribute [simp] encSubs_length encSubs_get encSubs_gE flat_sub flats_subs encGrps_length encGrps_get encGrps_gE flat_grp flats_grps Sub.enc Sub.cells Grp.enc Grp.cells
theorem sizes_subs (l:List Sub):sizesOk 4 (encSubs l)=true:=by
 induction l with
 | nil=>rfl
 | cons x r ih=>simp only [encSubs,List.map_cons,sizesOk] at ih ⊢;rw [ih];rfl
theorem sizes_ints (l:List Int):sizesOk 1 (intVs l)=true:=by
 induction l with
 | nil=>rfl
 | cons x r ih=>simp only [intVs,List.map_cons,sizesOk] at ih ⊢;rw [ih];rfl
theorem subs_snoc (l:List Sub)(x:Sub):encSubs l ++ [.agg [.int .i64 x.client,.int .i64 x.broker,.int .i64 x.num,.slice (encPreds x.filter)]]=encSubs (l ++ [x]):=by simp [encSubs]
theorem ints_snoc (l:List Int)(x:Int):intVs l ++ [.int .i64 x]=intVs (l ++ [x]):=by simp [intVs]
theorem ints_take (l:List Int)(n:Nat):(intVs l).take n=intVs (l.take n):=by simp [intVs]
def layI:List Int→Int→List Int
 | [],n=>[n]
 | x :: r,n=>if x<n then x :: layI r n else if x=n then x :: r else n :: x :: r
def rising (l:List Int):Prop:=l.Pairwise (·<·)
def hasI:List Int→Int→Bool
 | [],_=>false
 | x :: r,n=>if x=n then true else hasI r n
theorem hasI_iff:∀ {l:List Int} {n:Int},hasI l n=true↔n∈l
 | [],n=>by simp [hasI]
 | x :: r,n=>by
  unfold hasI
  split
  ·rename_i h;subst h;simp
  ·rename_i h
   rw [hasI_iff,List.mem_cons]
   constructor
   ·exact .inr
   ·rintro (h' | h')
    ·exact absurd h'.symm h
    ·exact h'
def subsI (l:List Int)(a:Nat)(fs:List (List Pred))(c home:Int):Nat→Int→Nat→Nat→List Sub→List Sub × Nat × Nat
 | 0,_,j,d,out=>(out,j,d)
 | n+1,num,j,d,out =>
  subsI l a fs c home n (num+1+fd l a j 2) ((filterV l a (j+1)).2.1+1) (d+(filterV l a (j+1)).2.2)
   (out ++ [⟨c,home,num+1+fd l a j 2,if fd l a (filterV l a (j+1)).2.1 6<3 then fs.getD (fd l a (filterV l a (j+1)).2.1 6).toNat [] else (filterV l a (j+1)).1⟩])
def subsO (l:List Int)(a P:Nat)(fs:List (List Pred)):Nat→Int→Nat→Nat→List Sub→List Sub × Nat × Nat
 | 0,_,j,d,out=>(out,j,d)
 | r+1,c,j,d,out =>
  subsO l a P fs r (c+1) (subsI l a fs c (fd l a j (P+1)) (fd l a (j+1) 4).toNat 0 (j+2) d out).2.1 (subsI l a fs c (fd l a j (P+1)) (fd l a (j+1) 4).toNat 0 (j+2) d out).2.2 (subsI l a fs c (fd l a j (P+1)) (fd l a (j+1) 4).toNat 0 (j+2) d out).1
def subsF (l:List Int)(a j:Nat):List (List Pred):=[(filterV l a j).1,(filterV l a (filterV l a j).2.1).1,[]]
def subsV (l:List Int)(a j P:Nat):List Sub × Nat × Nat :=
 subsO l a P (subsF l a j) 6 1 (filterV l a (filterV l a j).2.1).2.1 ((filterV l a j).2.2+(filterV l a (filterV l a j).2.1).2.2) []
theorem subsI_asks (l:List Int)(a:Nat)(fs:List (List Pred))(c home:Int):∀ (n:Nat) (num:Int) (j d:Nat) (out:List Sub),(subsI l a fs c home n num j d out).2.1≤j+36*n∧(subsI l a fs c home n num j d out).1.length=out.length+n
 | 0,_,_,_,_=>by simp [subsI]
 | n+1,num,j,d,out=>by
  simp only [subsI]
  have h1:=subsI_asks l a fs c home n (num+1+fd l a j 2) ((filterV l a (j+1)).2.1+1) (d+(filterV l a (j+1)).2.2) (out ++ [⟨c,home,num+1+fd l a j 2,if fd l a (filterV l a (j+1)).2.1 6<3 then fs.getD (fd l a (filterV l a (j+1)).2.1 6).toNat [] else (filterV l a (j+1)).1⟩])
  have h2:=filterV_asks l a (j+1)
  refine ⟨by omega,?_⟩
  rw [h1.2];simp;omega
theorem subsO_asks (l:List Int)(a P:Nat)(fs:List (List Pred)):∀ (r:Nat) (c:Int) (j d:Nat) (out:List Sub),(subsO l a P fs r c j d out).2.1≤j+110*r∧(subsO l a P fs r c j d out).1.length≤out.length+3*r
 | 0,_,_,_,_=>by simp [subsO]
 | r+1,c,j,d,out=>by
  simp only [subsO]
  have h0:=fd_bound l a (j+1) (n:=4) (by omega)
  have h1:=subsI_asks l a fs c (fd l a j (P+1)) (fd l a (j+1) 4).toNat 0 (j+2) d out
  have h2:=subsO_asks l a P fs r (c+1) (subsI l a fs c (fd l a j (P+1)) (fd l a (j+1) 4).toNat 0 (j+2) d out).2.1 (subsI l a fs c (fd l a j (P+1)) (fd l a (j+1) 4).toNat 0 (j+2) d out).2.2 (subsI l a fs c (fd l a j (P+1)) (fd l a (j+1) 4).toNat 0 (j+2) d out).1
  have h3:(fd l a (j+1) 4).toNat≤3:=by omega
  omega
theorem subsV_asks (l:List Int)(a j P:Nat):(subsV l a j P).2.1≤j+800∧(subsV l a j P).1.length≤18:=by
 unfold subsV
 have h1:=filterV_asks l a j
 have h2:=filterV_asks l a (filterV l a j).2.1
 have h3:=subsO_asks l a P (subsF l a j) 6 1 (filterV l a (filterV l a j).2.1).2.1 ((filterV l a j).2.2+(filterV l a (filterV l a j).2.1).2.2) []
 simp at h3
 omega
theorem subsI_all {Q:Sub→Prop} (l:List Int)(a:Nat)(fs:List (List Pred))(c home:Int)(hq:∀ num f,(f∈fs∨f=[]∨∃ j,f=(filterV l a j).1)→Q ⟨c,home,num,f⟩):∀ (n:Nat) (num:Int) (j d:Nat) (out:List Sub),(∀ s∈out,Q s)→∀ s∈(subsI l a fs c home n num j d out).1,Q s
 | 0,_,_,_,_,h=>h
 | n+1,num,j,d,out,h=>by
  simp only [subsI]
  refine subsI_all l a fs c home hq n _ _ _ _ fun s hs=>?_
  rcases List.mem_append.1 hs with hs | hs
  ·exact h s hs
  ·simp at hs;subst hs
   refine hq _ _ ?_
   split
   ·cases hg:fs[(fd l a (filterV l a (j+1)).2.1 6).toNat]? with
    | none=>exact .inr (.inl rfl)
    | some f=>exact .inl (zmg hg)
   ·exact .inr (.inr ⟨_,rfl⟩)
theorem subsO_all {Q:Sub→Prop} (l:List Int)(a P:Nat)(fs:List (List Pred))(hq:∀ (c home num:Int) f,1≤c→c≤6→(f∈fs∨f=[]∨∃ j,f=(filterV l a j).1)→Q ⟨c,home,num,f⟩):∀ (r:Nat) (c:Int) (j d:Nat) (out:List Sub),1≤c→c+r≤7→(∀ s∈out,Q s)→∀ s∈(subsO l a P fs r c j d out).1,Q s
 | 0,_,_,_,_,_,_,h=>h
 | r+1,c,j,d,out,h1,h2,h=>by
  simp only [subsO]
  refine subsO_all l a P fs hq r _ _ _ _ (by omega) (by omega) ?_
  exact subsI_all l a fs c _ (fun num f hf=>hq c _ num f h1 (by omega) hf) _ _ _ _ _ h
theorem subsV_all (l:List Int)(a j P:Nat):∀ s∈(subsV l a j P).1,1≤s.client∧s.client≤6∧FFV s.filter∧s.filter.length≤3:=by
 unfold subsV
 refine subsO_all (Q:=fun s=>1≤s.client∧s.client≤6∧FFV s.filter∧s.filter.length≤3) l a P _ (fun c home num f h1 h2 hf=>?_) 6 1 _ _ [] (by omega) (by omega) (by simp)
 refine ⟨h1,h2,?_⟩
 show FFV f∧f.length≤3
 rcases hf with hf | rfl | ⟨j,rfl⟩
 ·unfold subsF at hf
  simp at hf
  rcases hf with rfl | rfl | rfl
  ·exact filterV_ffv l a j
  ·exact filterV_ffv l a _
  ·exact ⟨ffv_nil,by simp⟩
 ·exact ⟨ffv_nil,by simp⟩
 ·exact filterV_ffv l a j
end Go.Ab
namespace Go.Proofs.Ytdoobejjedpcgaa
open Go Go.Ab
noncomputable section
variable (fr:Fr)(st:St)(k:Kt)
def fi48:FI:={body:=codeOf Try.f48,ntmps:=25,results:=[.tmp 2],pers:=[0,2,3,4,5],locals:=[5],pure:=true,marks:=[]}
theorem H48:fi48.marks=[]∧fi48.locals=[5]∧fi48.results=[.tmp 2]:=⟨rfl,rfl,rfl⟩
theorem fi51_eq:gS.fn 48=some fi48:=by kernel_rfl
theorem st48 (a0:V):startFr fi48 [a0]={ps:=[(0,.val a0),(2,.any),(3,.any),(4,.any),(5,.any)],ts:=[],lc:=[]}:=rfl
def b48:Code:=mini (codeOf Try.f48)
def c48_12:Code:=.cond (.tmp 9) .skip (.exit 0)
def c48_10:Code:=.seq (codeN b48 267) c48_12
def c48_21:Code:=codeN b48 3659
def c48_19:Code:=.seq (codeN b48 2635) c48_21
def c48_17:Code:=.seq (codeN b48 1099) c48_19
def c48_22:Code:=codeN b48 459
def c48_15:Code:=.seq (.block 1 c48_17) c48_22
def c48_9:Code:=.seq c48_10 c48_15
def c48_8:Code:=.loop c48_9
def c48_7:Code:=.block 0 c48_8
def c48_5:Code:=.seq (codeN b48 19) c48_7
def c48_23:Code:=.seq (codeN b48 23) .ret
def c48_4:Code:=.seq c48_5 c48_23
def c48_2:Code:=.seq (codeN b48 5) c48_4
def c48_0:Code:=.seq (codeN b48 2) c48_2
theorem E48:evK gS fi48 c48_12 fr st k=condK gS fi48 (fr.op (.tmp 9)).bool? .skip (.exit 0) fr st k ∧
 (evK gS fi48 c48_10 fr st k=opsR gS fi48 [mv 6 4 3,
 mv 7 0 29,
 len1 8 7 29 3,
 bop 9 .lss 3 6 8 3 4] fr st (.seq c48_12 k)) ∧
 (evK gS fi48 c48_21 fr st k=opsR gS fi48 [mv 20 3 29,
 ld 21 91 5 91,
 qS 22 29 21 29,
 qE 23 20 22 29 29,
 asn 3 23 29] fr st k) ∧
 (evK gS fi48 c48_19 fr st k=opsR gS fi48 [qF 16 91 5 4 0,
 ld 17 89 16 89,
 op1 18 (.call {callee:=(.builtin .append),args:=#[(.const (.slice none 0 0)),(.tmp 17)],argTypes:=#[89,89]}) 89,
 qF 19 91 5 4 0,
 sto 89 19 18] fr st (.seq c48_21 k)) ∧
 (evK gS fi48 c48_17 fr st k=opsR gS fi48 [mv 12 0 29,
 mv 13 4 3,
 ixa 14 29 12 13 0,
 ld 15 91 14 91,
 op1 5 (.alloc 91) 0,
 sto 91 5 15] fr st (.seq c48_19 k)) ∧
 (evK gS fi48 c48_22 fr st k=opsR gS fi48 [mv 10 4 3,
 qB 11 .add 3 10 1 3 3,
 asn 4 11 3] fr st k) ∧
 evK gS fi48 c48_15 fr st k=evK gS fi48 c48_17 fr st (.blk 1 (.seq c48_22 k)) ∧
 evK gS fi48 c48_9 fr st k=evK gS fi48 c48_10 fr st (.seq c48_15 k) ∧
 evK gS fi48 c48_7 fr st k=evK gS fi48 c48_8 fr st (.blk 0 k) ∧
 evK gS fi48 c48_5 fr st k=opsR gS fi48 [qI 4 0 3] fr st (.seq c48_7 k) ∧
 (evK gS fi48 c48_23 fr st k=opsR gS fi48 [mv 24 3 29,
 asn 2 24 29] fr st (.seq .ret k)) ∧
 evK gS fi48 c48_4 fr st k=evK gS fi48 c48_5 fr st (.seq c48_23 k) ∧
 evK gS fi48 c48_2 fr st k=opsR gS fi48 [qN 3 29] fr st (.seq c48_4 k) ∧
 evK gS fi48 c48_0 fr st k=opsR gS fi48 [qN 2 29] fr st (.seq c48_2 k):=⟨rfl,evK_rs 3 rfl (by kernel_rfl),evK_r 7 (by kernel_rfl),evK_rs 6 rfl (by kernel_rfl),evK_rs 5 rfl (by kernel_rfl),evK_r 4 (by kernel_rfl),rfl,rfl,rfl,evK_rs 2 rfl (by kernel_rfl),evK_rs 8 rfl (by kernel_rfl),rfl,evK_rs 1 rfl (by kernel_rfl),evK_rs 0 rfl (by kernel_rfl)⟩
theorem m48:mini fi48.body=c48_0:=by kernel_rfl
theorem n48_8 (fr:Fr)(st:St)(k:Kt):nextK gS fi48 (.loop c48_9 k) .normal fr st=evK gS fi48 c48_8 fr st k:=rfl
theorem preds_snoc (l:List Pred)(x:Pred):encPreds l ++ [.agg [.str x.name,.int .i64 x.test,.int .i64 x.v.kind,.int .i64 x.v.n,.float .f64 x.v.x,.str x.v.s,.bool x.v.b,.int .i64 x.w.kind,.int .i64 x.w.n,.float .f64 x.w.x,.str x.w.s,.bool x.w.b,.slice (encVals x.set)]]=encPreds (l ++ [x]):=by simp [encPreds]
def kof {α:Type} (k:Nat)(l:List α):Nat:=if l=[] then 0 else k
theorem L48 (f:List Pred)(h_f:PSm f)(st:St):∀ (n i:Nat) (e5:E) (T:List (Nat × E)) (X:List (Nat × List V)) (ht5:e5.Tame),i≤f.length→f.length - i=n →
  evK gS fi48 c48_8 {ps:=[(0,.val (.slice (encPreds f))),(2,.own 0 []),(3,.own (kof 13 (f.take i)) (encPreds (f.take i))),(4,.val (.int .i64 i)),(5,e5)],ts:=T,lc:=X} st (.blk 0 (.seq c48_23 .nil))=some (.ret (.slice (encPreds f)) (some (kof 13 f)),st):=by
 intro n
 have hfl:=h_f.1
 induction n with
 | zero =>
  intro i e5 T X ht5 hi hn
  obtain rfl:i=f.length:=by omega
  refine evK_loop c48_9 _ _ _ _ rfl ?_
  rw [List.take_length]
  by_cases hfe:f=[]
  ·subst hfe
   simp [ht5,kof,encPreds,-zil,-zit,-znl,-znt,ty3,ty4,ty29,ty89,ty91,H48,E48,n48_8]
  ·have hk:kof 13 f=13:=by unfold kof;rw [if_neg hfe]
   rw [hk]
   simp [ht5,-zil,-zit,-znl,-znt,ty3,ty4,ty29,ty89,ty91,H48,E48,n48_8]
 | succ n ih =>
  intro i e5 T X ht5 hi hn
  obtain ⟨x,hx⟩  := qgx (l:=f) (i:=i) (by omega)
  have hlt:(i:Int)<(f.length:Int):=by omega
  have hlt2:i<f.length:=by omega
  have hxe:f[i]'hlt2=x:=by rw [zge hlt2] at hx;exact Option.some.inj hx
  have hw  := qws i (by omega)
  have hxs:=(h_f.2 x (zmg hx)).2
  have hxs2:x.set.length≤140737488355328:=by omega
  have htk:f.take (i+1)=f.take i ++ [x]:=by rw [List.take_succ_eq_append_getElem hlt2,hxe]
  have IH:=fun e5 T X ht5=>ih (i+1) e5 T X ht5 (by omega) (by omega)
  have hk1:kof 13 (f.take (i+1))=13:=by rw [htk];simp [kof]
  rw [hk1,htk] at IH
  have hsv:=sizes_vals x.set
  have hsp:=sizes_preds (f.take i)
  have hsn:=preds_snoc (f.take i) x
  have hln:(f.take i).length=i:=by simp;omega
  have b1:(i+1)*144≤140737488355328:=by omega
  have b2:i+1≤140737488355328:=by omega
  have hk0:kof 13 (f.take i)=0∧f.take i=[]∨kof 13 (f.take i)=13:=by
   unfold kof;split
   ·exact .inl ⟨rfl,by assumption⟩
   ·exact .inr rfl
  refine evK_loop c48_9 _ _ _ _ rfl ?_
  generalize hF:f.take i=F at *
  rcases hk0 with ⟨h1,h2⟩ | h1
  ·rw [h1,h2]
   rw [h2] at IH
   have hi0:i=0:=by rw [← hln,h2];rfl
   have hsn0:encPreds [x]=[.agg [.str x.name,.int .i64 x.test,.int .i64 x.v.kind,.int .i64 x.v.n,.float .f64 x.v.x,.str x.v.s,.bool x.v.b,.int .i64 x.w.kind,.int .i64 x.w.n,.float .f64 x.w.x,.str x.w.s,.bool x.w.b,.slice (encVals x.set)]]:=rfl
   rw [List.nil_append,hsn0] at IH
   have en:encPreds []=[]:=rfl
   simp [-zia,en,ht5,hx,hxe,hlt,hlt2,hw,hxs,hxs2,hsv,-zil,-zit,-znl,-znt,ty3,ty4,ty29,ty89,ty91,H48,E48,n48_8]
   exact IH _ _ _ rfl
  ·rw [h1]
   simp [-zia,ht5,hx,hxe,hlt,hlt2,hw,hxs,hxs2,hsv,hsp,hsn,hln,b1,b2,IH,-zil,-zit,-znl,-znt,ty3,ty4,ty29,ty89,ty91,H48,E48,n48_8]
theorem c48 (f:List Pred)(h_f:PSm f)(st:St):EvF gS 48 [.slice (encPreds f)] st=some (.ret (.slice (encPreds f)) (some (kof 13 f)),st):=by
 refine EvF_start fi51_eq (fun x h=>by cases h) m48 ?_
 rw [st48]
 have L0:=fun e5 T X ht5=>L48 f h_f st f.length 0 e5 T X ht5 (Nat.zero_le _) rfl
 simp only [show ((0:Nat):Int)=0 from rfl,List.take_zero,show kof 13 ([]:List Pred)=0 from rfl,show encPreds []=[] from rfl] at L0
 simp [L0,-zil,-zit,-znl,-znt,ty3,ty4,ty29,ty89,ty91,H48,E48,n48_8]
theorem k48 (f:List Pred)(h_f:PSm f)(fr:Fr)(st:St):callStep gS (EvF gS) 48 [.slice (encPreds f)] fr st=some (.ok (.own (kof 13 f) (encPreds f)) fr st) :=
 call_pure rfl fi51_eq rfl (fun st=>c48 f h_f st) (by simp [V.flat])
theorem psm_right {f:List Pred} (h:∀ p∈f,pright p=true)(hl:f.length≤1000000):PSm f:=by
 refine ⟨hl,fun p hp=>?_⟩
 have hr:=h p hp
 refine ⟨(ok_of_right hr).1,?_⟩
 unfold pright at hr
 split at hr
 ·repeat' split at hr
  all_goals first
   | (simp only [Bool.and_eq_true,decide_eq_true_eq] at hr;omega)
   | cases hr
 ·cases hr
theorem psm_ffv {f:List Pred} (h:FFV f∧f.length≤3):PSm f:=psm_right h.1.right (by omega)
theorem kof_snoc {α:Type} (k:Nat)(l:List α)(x:α):kof k (l ++ [x])=k:=by unfold kof;rw [if_neg (by simp)]
theorem kof_or {α:Type} (k:Nat)(l:List α):kof k l=0∧l=[]∨kof k l=k:=by
 unfold kof;split
 ·exact .inl ⟨rfl,by assumption⟩
 ·exact .inr rfl
theorem frz_slice {xs:List V} (h:flats xs=true)(st:St):frz 6 st (.slice xs)=some (.slice xs,st):=frz_flat 6 st _ (by simpa [V.flat] using h)
theorem k50 (f:List Pred)(h_f:PSm f)(fr:Fr)(st:St):callStep gS (EvF gS) 50 [.slice (encPreds f)] fr st=some (.ok (.val (.slice (encPreds f))) fr st) :=
 call_pure' rfl fi45_eq rfl (by simp [flats,V.flat]) (c50 f h_f ⟨[],0⟩ (Nat.le_refl _)) (by simp [V.flat])
def fi10:FI:={body:=codeOf Try.f10,ntmps:=59,results:=[.tmp 4],pers:=[0,1,4,5,6,7,8,9,10,11,12],locals:=[11],pure:=false,marks:=[1000000]}
theorem H10:fi10.marks=[1000000]∧fi10.locals=[11]∧fi10.results=[.tmp 4]:=⟨rfl,rfl,rfl⟩
theorem fi53_eq:gS.fn 10=some fi10:=by kernel_rfl
theorem st10 (a0 a1:V):startFr fi10 [a0,a1]={ps:=[(0,.val a0),(1,.val a1),(4,.any),(5,.any),(6,.any),(7,.any),(8,.any),(9,.any),(10,.any),(11,.any),(12,.any)],ts:=[],lc:=[]}:=rfl
def b10:Code:=mini (codeOf Try.f10)
def c10_14:Code:=.cond (.tmp 19) .skip (.exit 0)
def c10_12:Code:=.seq (codeN b10 535) c10_14
def c10_30:Code:=.cond (.tmp 30) .skip (.exit 2)
def c10_28:Code:=.seq (codeN b10 138391) c10_30
def c10_45:Code:=codeN b10 23895191
def c10_44:Code:=.cond (.tmp 47) c10_45 .skip
def c10_42:Code:=.seq (codeN b10 11312279) c10_44
def c10_40:Code:=.seq (codeN b10 5020823) c10_42
def c10_47:Code:=codeN b10 3972247
def c10_39:Code:=.seq c10_40 c10_47
def c10_37:Code:=.seq (codeN b10 1350807) c10_39
def c10_35:Code:=.seq (codeN b10 564375) c10_37
def c10_48:Code:=codeN b10 236695
def c10_33:Code:=.seq (.block 3 c10_35) c10_48
def c10_27:Code:=.seq c10_28 c10_33
def c10_26:Code:=.loop c10_27
def c10_25:Code:=.block 2 c10_26
def c10_23:Code:=.seq (codeN b10 11415) c10_25
def c10_21:Code:=.seq (codeN b10 5271) c10_23
def c10_19:Code:=.seq (codeN b10 2199) c10_21
def c10_49:Code:=codeN b10 919
theorem e10_49:evK gS fi10 c10_49 fr st k=opsR gS fi10 [mv 20 7 3,
 qB 21 .add 3 20 1 3 3,
 asn 7 21 3] fr st k:=evK_r 5 (by kernel_rfl)
def c10_17:Code:=.seq (.block 1 c10_19) c10_49
def c10_11:Code:=.seq c10_12 c10_17
def c10_10:Code:=.loop c10_11
def c10_9:Code:=.block 0 c10_10
def c10_7:Code:=.seq (codeN b10 39) c10_9
def c10_50:Code:=.seq (codeN b10 47) .ret
def c10_6:Code:=.seq c10_7 c10_50
def c10_4:Code:=.seq (codeN b10 11) c10_6
def c10_2:Code:=.seq (codeN b10 5) c10_4
def c10_0:Code:=.seq (codeN b10 2) c10_2
theorem E10:evK gS fi10 c10_14 fr st k=condK gS fi10 (fr.op (.tmp 19)).bool? .skip (.exit 0) fr st k ∧
 (evK gS fi10 c10_12 fr st k=opsR gS fi10 [mv 18 7 3,
 qB 19 .leq 3 18 6 3 4] fr st (.seq c10_14 k)) ∧
 evK gS fi10 c10_30 fr st k=condK gS fi10 (fr.op (.tmp 30)).bool? .skip (.exit 2) fr st k ∧
 (evK gS fi10 c10_28 fr st k=opsR gS fi10 [mv 29 10 3,
 qB 30 .gtr 3 29 0 3 4] fr st (.seq c10_30 k)) ∧
 (evK gS fi10 c10_45 fr st k=opsR gS fi10 [mv 48 6 77,
 mv 49 12 3,
 ixa 50 77 48 49 0,
 ld 51 29 50 29,
 cal 52 48 [(.tmp 51)] [29] 29,
 qF 53 31 11 3 0,
 sto 29 53 52] fr st k) ∧
 evK gS fi10 c10_44 fr st k=condK gS fi10 (fr.op (.tmp 47)).bool? c10_45 .skip fr st k ∧
 (evK gS fi10 c10_42 fr st k=opsR gS fi10 [mv 46 12 3,
 qB 47 .lss 3 46 3 3 4] fr st (.seq c10_44 k)) ∧
 (evK gS fi10 c10_40 fr st k=opsR gS fi10 [mv 44 0 23,
 cal 45 11 [(.tmp 44),(.const (.int .i64 6))] [23,3] 3,
 asn 12 45 3] fr st (.seq c10_42 k)) ∧
 (evK gS fi10 c10_47 fr st k=opsR gS fi10 [mv 54 5 26,
 ld 55 31 11 31,
 qS 56 26 55 26,
 qE 57 54 56 26 26,
 asn 5 57 26] fr st k) ∧
 evK gS fi10 c10_39 fr st k=evK gS fi10 c10_40 fr st (.seq c10_47 k) ∧
 (evK gS fi10 c10_37 fr st k=opsR gS fi10 [mv 38 7 3,
 mv 39 8 3,
 mv 40 9 3,
 mv 41 0 23,
 cal 42 40 [(.tmp 41)] [23] 29,
 op1 43 (.build 31 #[(0,(.tmp 38)),(1,(.tmp 39)),(2,(.tmp 40)),(3,(.tmp 42))]) 31,
 op1 11 (.alloc 31) 0,
 sto 31 11 43] fr st (.seq c10_39 k)) ∧
 (evK gS fi10 c10_35 fr st k=opsR gS fi10 [mv 33 9 3,
 qB 34 .add 3 33 1 3 3,
 mv 35 0 23,
 cal 36 11 [(.tmp 35),(.const (.int .i64 2))] [23,3] 3,
 bop 37 .add 3 34 36 3 3,
 asn 9 37 3] fr st (.seq c10_37 k)) ∧
 (evK gS fi10 c10_48 fr st k=opsR gS fi10 [mv 31 10 3,
 qB 32 .sub 3 31 1 3 3,
 asn 10 32 3] fr st k) ∧
 evK gS fi10 c10_33 fr st k=evK gS fi10 c10_35 fr st (.blk 3 (.seq c10_48 k)) ∧
 evK gS fi10 c10_27 fr st k=evK gS fi10 c10_28 fr st (.seq c10_33 k) ∧
 evK gS fi10 c10_25 fr st k=evK gS fi10 c10_26 fr st (.blk 2 k) ∧
 (evK gS fi10 c10_23 fr st k=opsR gS fi10 [mv 27 0 23,
 cal 28 11 [(.tmp 27),(.const (.int .i64 4))] [23,3] 3,
 asn 10 28 3] fr st (.seq c10_25 k)) ∧
 evK gS fi10 c10_21 fr st k=opsR gS fi10 [qI 9 0 3] fr st (.seq c10_23 k) ∧
 (evK gS fi10 c10_19 fr st k=opsR gS fi10 [mv 22 0 23,
 mv 23 1 22,
 len1 24 23 22 3,
 qB 25 .add 3 24 1 3 3,
 cal 26 11 [(.tmp 22),(.tmp 25)] [23,3] 3,
 asn 8 26 3] fr st (.seq c10_21 k)) ∧
 evK gS fi10 c10_17 fr st k=evK gS fi10 c10_19 fr st (.blk 1 (.seq c10_49 k)) ∧
 evK gS fi10 c10_11 fr st k=evK gS fi10 c10_12 fr st (.seq c10_17 k) ∧
 evK gS fi10 c10_9 fr st k=evK gS fi10 c10_10 fr st (.blk 0 k) ∧
 evK gS fi10 c10_7 fr st k=opsR gS fi10 [qI 7 1 3] fr st (.seq c10_9 k) ∧
 (evK gS fi10 c10_50 fr st k=opsR gS fi10 [mv 58 5 26,
 asn 4 58 26] fr st (.seq .ret k)) ∧
 evK gS fi10 c10_6 fr st k=evK gS fi10 c10_7 fr st (.seq c10_50 k) ∧
 (evK gS fi10 c10_4 fr st k=opsR gS fi10 [mv 13 0 23,
 cal 14 40 [(.tmp 13)] [23] 29,
 mv 15 0 23,
 cal 16 40 [(.tmp 15)] [23] 29,
 op1 17 (.buildSlice 77 3 #[(0,(.tmp 14)),(1,(.tmp 16)),(2,(.const (.slice none 0 0)))]) 77,
 asn 6 17 77] fr st (.seq c10_6 k)) ∧
 evK gS fi10 c10_2 fr st k=opsR gS fi10 [qN 5 26] fr st (.seq c10_4 k) ∧
 evK gS fi10 c10_0 fr st k=opsR gS fi10 [qN 4 26] fr st (.seq c10_2 k):=⟨rfl,evK_rs 4 rfl (by kernel_rfl),rfl,evK_rs 9 rfl (by kernel_rfl),evK_r 15 (by kernel_rfl),rfl,evK_rs 14 rfl (by kernel_rfl),evK_rs 13 rfl (by kernel_rfl),evK_r 16 (by kernel_rfl),rfl,evK_rs 12 rfl (by kernel_rfl),evK_rs 11 rfl (by kernel_rfl),evK_r 10 (by kernel_rfl),rfl,rfl,rfl,evK_rs 8 rfl (by kernel_rfl),evK_rs 7 rfl (by kernel_rfl),evK_rs 6 rfl (by kernel_rfl),rfl,rfl,rfl,evK_rs 3 rfl (by kernel_rfl),evK_rs 17 rfl (by kernel_rfl),rfl,evK_rs 2 rfl (by kernel_rfl),evK_rs 1 rfl (by kernel_rfl),evK_rs 0 rfl (by kernel_rfl)⟩
theorem m10:mini fi10.body=c10_0:=by kernel_rfl
theorem n10_26 (fr:Fr)(st:St)(k:Kt):nextK gS fi10 (.loop c10_27 k) .normal fr st=evK gS fi10 c10_26 fr st k:=rfl
theorem n10_10 (fr:Fr)(st:St)(k:Kt):nextK gS fi10 (.loop c10_11 k) .normal fr st=evK gS fi10 c10_10 fr st k:=rfl
theorem L10_26 (l:List Int)(a id:Nat)(ha:a<549755813888)(st:St)(h:FeedOk st id)(ps:List Int)(fs:List (List Pred))(hfs:∀ f∈fs,PSm f)(hfl:fs.length=3)(c home:Int)(R:Out × St):∀ (r j d:Nat) (num:Int) (out:List Sub) (e11 e12:E) (T:List (Nat × E)) (X:List (Nat × List V)) (h11:e11.Tame) (h12:e12.Tame),out.length+r<1000→0≤num→num+2*r<1000000→j+36*r<549755800000 →
  (∀ e9 e11 e12 T X,e9.Tame→e11.Tame→e12.Tame→evK gS fi10 c10_49 {ps:=[(0,.val (.ptr id 0)),(1,.val (.slice (intVs ps))),(4,.own 0 []),(5,.own (kof 4 (subsI l a fs c home r num j d out).1) (encSubs (subsI l a fs c home r num j d out).1)),(6,.own 1 (encPredss fs)),(7,.val (.int .i64 c)),(8,.val (.int .i64 home)),(9,e9),(10,.val (.int .i64 0)),(11,e11),(12,e12)],ts:=T,lc:=X} (setF (dd st (subsI l a fs c home r num j d out).2.2) id l (nA l a (subsI l a fs c home r num j d out).2.1)) (.loop c10_11 (.blk 0 (.seq c10_50 .nil)))=some R) →
  evK gS fi10 c10_26 {ps:=[(0,.val (.ptr id 0)),(1,.val (.slice (intVs ps))),(4,.own 0 []),(5,.own (kof 4 out) (encSubs out)),(6,.own 1 (encPredss fs)),(7,.val (.int .i64 c)),(8,.val (.int .i64 home)),(9,.val (.int .i64 num)),(10,.val (.int .i64 (r:Nat))),(11,e11),(12,e12)],ts:=T,lc:=X} (setF (dd st d) id l (nA l a j)) (.blk 2 (.blk 1 (.seq c10_49 (.loop c10_11 (.blk 0 (.seq c10_50 .nil))))))=some R:=by
 intro r
 induction r with
 | zero =>
  intro j d num out e11 e12 T X h11 h12 hol hn0 hn1 hj H
  rw [show subsI l a fs c home 0 num j d out=(out,j,d) from rfl] at H
  refine evK_loop c10_27 _ _ _ _ rfl ?_
  rcases kof_or 4 out with ⟨hk,rfl⟩ | hk
  ·have en:encSubs []=[]:=rfl
   rw [hk,en] at H ⊢
   simp [-St.obj,-St.set,h11,h12,-zil,-zit,-znl,-znt,ty3,ty4,ty22,ty23,ty26,ty29,ty31,ty77,H10,E10,n10_26,n10_10]
   exact H _ _ _ _ _ (tame_val _) h11 h12
  ·rw [hk] at H ⊢
   simp [-St.obj,-St.set,h11,h12,-zil,-zit,-znl,-znt,ty3,ty4,ty22,ty23,ty26,ty29,ty31,ty77,H10,E10,n10_26,n10_10]
   exact H _ _ _ _ _ (tame_val _) h11 h12
 | succ r ih =>
  intro j d num out e11 e12 T X h11 h12 hol hn0 hn1 hj H
  have hb2:=fd_bound l a j (n:=2) (by omega)
  have k1:=fun fr=>k11 l a j id 2 fr (dd st d) (h.dd d) ha (by omega) (by omega)
  have k2:=fun fr=>k40 l a (j+1) id fr (dd st d) (h.dd d) ha (by omega)
  rw [dd_dd] at k2
  have hfa:=filterV_asks l a (j+1)
  have hff:=filterV_ffv l a (j+1)
  simp only [subsI] at H
  have k3:=fun fr=>k11 l a (filterV l a (j+1)).2.1 id 6 fr (dd st (d+(filterV l a (j+1)).2.2)) (h.dd _) ha (by omega) (by omega)
  have hb6:=fd_bound l a (filterV l a (j+1)).2.1 (n:=6) (by omega)
  have IH:=fun out' (ho:out'.length=out.length+1) e11 e12 T X h11 h12=>ih ((filterV l a (j+1)).2.1+1) (d+(filterV l a (j+1)).2.2) (num+1+fd l a j 2) out' e11 e12 T X h11 h12 (by omega) (by omega) (by omega) (by omega)
  generalize filterV l a (j+1)=F at *
  obtain ⟨f,J,D⟩:=F
  simp only at k2 k3 hfa hff hb6 H IH
  have hpf:=psm_ffv hff
  generalize hz:fd l a J 6=z at *
  generalize fd l a j 2=y at *
  have hw1:IntKind.wrap .i64 (num+1)=num+1:=wrap64 (by omega) (by omega)
  have hw2:IntKind.wrap .i64 (num+1+y)=num+1+y:=wrap64 (by omega) (by omega)
  have hw3:IntKind.wrap .i64 (((r+1:Nat):Int) - 1)=(r:Int):=by rw [wrap64 (by omega) (by omega)];omega
  have hpos:(0:Int)<((r+1:Nat):Int):=by omega
  have hs1:=sizes_subs out
  have b1:(out.length+1)*48≤140737488355328:=by omega
  have b2:out.length+1≤140737488355328:=by omega
  refine evK_loop c10_27 _ _ _ _ rfl ?_
  by_cases hz3:z<3
  ·rw [if_pos hz3] at H
   obtain ⟨q,rfl⟩:∃ q:Nat,z=(q:Int):=⟨z.toNat,by omega⟩
   rw [Int.toNat_natCast] at H
   have hq:q<fs.length:=by omega
   have hqi:(q:Int)<(fs.length:Int):=by omega
   obtain ⟨x,hx⟩:∃ x,fs[q]?=some x:=⟨fs[q]'hq,zge hq⟩
   have hxe:fs[q]'hq=x:=(List.getElem?_eq_some_iff.1 hx).2
   have hgd:fs.getD q []=x:=by rw [List.getD_eq_getElem?_getD,hx];rfl
   rw [hgd] at H
   have hpx:=hfs x (zmg hx)
   have k4:=fun fr st=>k48 x hpx fr st
   have XX:=IH (out ++ [⟨c,home,num+1+y,x⟩]) (by simp)
   have IHx:=fun e11 e12 T X h11 h12=>XX e11 e12 T X h11 h12 H
   rw [kof_snoc] at IHx
   have hs2:=subs_snoc out ⟨c,home,num+1+y,x⟩
   have en:encSubs []=[]:=rfl
   have en1:encSubs ([] ++ [⟨c,home,num+1+y,x⟩])=[.agg [.int .i64 c,.int .i64 home,.int .i64 (num+1+y),.slice (encPreds x)]]:=rfl
   have hkk:¬ (kof 13 x=0∧¬ encPreds x=[]):=by
    unfold kof;split
    ·rename_i h;rw [h];simp [encPreds]
    ·simp
   generalize kof 13 x=kx at *
   rcases kof_or 4 out with ⟨hk,rfl⟩ | hk
   ·rw [hk,en]
    rw [en1] at IHx
    simp [-zia,-St.obj,-St.set,h11,h12,k1,k2,k3,k4,hw1,hw2,hw3,hpos,hz3,hq,hqi,hx,hxe,hkk,-zil,-zit,-znl,-znt,ty3,ty4,ty22,ty23,ty26,ty29,ty31,ty77,H10,E10,n10_26,n10_10]
    refine IHx _ _ _ _ ?_ ?_
    all_goals simp [h11,h12]
   ·rw [hk]
    simp [-zia,-zaa,-St.obj,-St.set,h11,h12,k1,k2,k3,k4,hw1,hw2,hw3,hpos,hz3,hq,hqi,hx,hxe,hkk,hs1,hs2,b1,b2,-zil,-zit,-znl,-znt,ty3,ty4,ty22,ty23,ty26,ty29,ty31,ty77,H10,E10,n10_26,n10_10]
    refine IHx _ _ _ _ ?_ ?_
    all_goals simp [h11,h12]
  ·rw [if_neg hz3] at H
   have XX:=IH (out ++ [⟨c,home,num+1+y,f⟩]) (by simp)
   have IHx:=fun e11 e12 T X h11 h12=>XX e11 e12 T X h11 h12 H
   rw [kof_snoc] at IHx
   have hs2:=subs_snoc out ⟨c,home,num+1+y,f⟩
   have en:encSubs []=[]:=rfl
   have en1:encSubs ([] ++ [⟨c,home,num+1+y,f⟩])=[.agg [.int .i64 c,.int .i64 home,.int .i64 (num+1+y),.slice (encPreds f)]]:=rfl
   rcases kof_or 4 out with ⟨hk,rfl⟩ | hk
   ·rw [hk,en]
    rw [en1] at IHx
    simp [-zia,-St.obj,-St.set,h11,h12,k1,k2,k3,hw1,hw2,hw3,hpos,hz3,-zil,-zit,-znl,-znt,ty3,ty4,ty22,ty23,ty26,ty29,ty31,ty77,H10,E10,n10_26,n10_10]
    refine IHx _ _ _ _ ?_ ?_
    all_goals simp [h11,h12]
   ·rw [hk]
    simp [-zia,-zaa,-St.obj,-St.set,h11,h12,k1,k2,k3,hw1,hw2,hw3,hpos,hz3,hs1,hs2,b1,b2,-zil,-zit,-znl,-znt,ty3,ty4,ty22,ty23,ty26,ty29,ty31,ty77,H10,E10,n10_26,n10_10]
    refine IHx _ _ _ _ ?_ ?_
    all_goals simp [h11,h12]
theorem L10_10 (l:List Int)(a id:Nat)(ha:a<549755813888)(st:St)(h:FeedOk st id)(ps:List Int)(fs:List (List Pred))(hfs:∀ f∈fs,PSm f)(hfl:fs.length=3)(hps:ps.length<1000):∀ (r j d:Nat) (c:Int) (out:List Sub) (e8 e9 e10 e11 e12:E) (T:List (Nat × E)) (X:List (Nat × List V)) (h8:e8.Tame) (h9:e9.Tame) (h10:e10.Tame) (h11:e11.Tame) (h12:e12.Tame),r≤6→c=7 - r→out.length≤3*(6 - r)→j+110*r<549755700000 →
  evK gS fi10 c10_10 {ps:=[(0,.val (.ptr id 0)),(1,.val (.slice (intVs ps))),(4,.own 0 []),(5,.own (kof 4 out) (encSubs out)),(6,.own 1 (encPredss fs)),(7,.val (.int .i64 c)),(8,e8),(9,e9),(10,e10),(11,e11),(12,e12)],ts:=T,lc:=X} (setF (dd st d) id l (nA l a j)) (.blk 0 (.seq c10_50 .nil))=some (.ret (.slice (encSubs (subsO l a ps.length fs r c j d out).1)) none,setF (dd st (subsO l a ps.length fs r c j d out).2.2) id l (nA l a (subsO l a ps.length fs r c j d out).2.1)):=by
 intro r
 induction r with
 | zero =>
  intro j d c out e8 e9 e10 e11 e12 T X h8 h9 h10 h11 h12 hr6 hc ho hj
  rw [show subsO l a ps.length fs 0 c j d out=(out,j,d) from rfl]
  obtain rfl:c=7:=by omega
  have hz:=frz_slice (xs:=encSubs out) (flats_subs out)
  refine evK_loop c10_11 _ _ _ _ rfl ?_
  rcases kof_or 4 out with ⟨hk,rfl⟩ | hk
  ·have en:encSubs []=[]:=rfl
   rw [en] at hz
   rw [hk,en]
   simp [-St.obj,-St.set,h8,h9,h10,h11,h12,hz,-zil,-zit,-znl,-znt,ty3,ty4,ty22,ty23,ty26,ty29,ty31,ty77,H10,E10,e10_49,n10_26,n10_10]
  ·rw [hk]
   simp [-St.obj,-St.set,h8,h9,h10,h11,h12,hz,-zil,-zit,-znl,-znt,ty3,ty4,ty22,ty23,ty26,ty29,ty31,ty77,H10,E10,e10_49,n10_26,n10_10]
 | succ r ih =>
  intro j d c out e8 e9 e10 e11 e12 T X h8 h9 h10 h11 h12 hr6 hc ho hj
  have k1:=fun fr=>k11 l a j id ((ps.length:Int)+1) fr (dd st d) (h.dd d) ha (by omega) (by omega)
  have k2:=fun fr=>k11 l a (j+1) id 4 fr (dd st d) (h.dd d) ha (by omega) (by omega)
  have hb:=fd_bound l a (j+1) (n:=4) (by omega)
  simp only [subsO]
  have hw1:IntKind.wrap .i64 ((ps.length:Int)+1)=(ps.length:Int)+1:=wrap64 (by omega) (by omega)
  have hwc:IntKind.wrap .i64 (c+1)=c+1:=wrap64 (by omega) (by omega)
  have hc6:c≤6:=by omega
  generalize fd l a j (ps.length+1)=home at *
  generalize hz:fd l a (j+1) 4=z at *
  obtain ⟨q,rfl⟩:∃ q:Nat,z=(q:Int):=⟨z.toNat,by omega⟩
  rw [Int.toNat_natCast]
  have hsa:=subsI_asks l a fs c home q 0 (j+2) d out
  have LI:=fun R e11 e12 T X h11 h12=>L10_26 l a id ha st h ps fs hfs hfl c home R q (j+2) d 0 out e11 e12 T X h11 h12 (by omega) (by omega) (by omega) (by omega)
  generalize subsI l a fs c home q 0 (j+2) d out=I at *
  obtain ⟨out2,J,D⟩:=I
  simp only at hsa LI ⊢
  have IH:=fun e8 e9 e10 e11 e12 T X h8 h9 h10 h11 h12=>ih J D (c+1) out2 e8 e9 e10 e11 e12 T X h8 h9 h10 h11 h12 (by omega) (by omega) (by omega) (by omega)
  generalize hR:(Out.ret (V.slice (encSubs (subsO l a ps.length fs r (c+1) J D out2).1)) none,setF (dd st (subsO l a ps.length fs r (c+1) J D out2).2.2) id l (nA l a (subsO l a ps.length fs r (c+1) J D out2).2.1))=R at IH ⊢
  have H49:∀ e9 e11 e12 T X,e9.Tame→e11.Tame→e12.Tame→evK gS fi10 c10_49 {ps:=[(0,.val (.ptr id 0)),(1,.val (.slice (intVs ps))),(4,.own 0 []),(5,.own (kof 4 out2) (encSubs out2)),(6,.own 1 (encPredss fs)),(7,.val (.int .i64 c)),(8,.val (.int .i64 home)),(9,e9),(10,.val (.int .i64 0)),(11,e11),(12,e12)],ts:=T,lc:=X} (setF (dd st D) id l (nA l a J)) (.loop c10_11 (.blk 0 (.seq c10_50 .nil)))=some R:=by
   intro e9 e11 e12 T X h9 h11 h12
   rcases kof_or 4 out2 with ⟨hk,rfl⟩ | hk
   ·have en:encSubs []=[]:=rfl
    rw [hk,en] at IH ⊢
    simp [-zia,-St.obj,-St.set,h9,h11,h12,hwc,-zil,-zit,-znl,-znt,ty3,ty4,ty22,ty23,ty26,ty29,ty31,ty77,H10,E10,e10_49,n10_26,n10_10]
    exact IH _ _ _ _ _ _ _ (tame_val _) h9 (tame_val _) h11 h12
   ·rw [hk] at IH ⊢
    simp [-zia,-St.obj,-St.set,h9,h11,h12,hwc,-zil,-zit,-znl,-znt,ty3,ty4,ty22,ty23,ty26,ty29,ty31,ty77,H10,E10,e10_49,n10_26,n10_10]
    exact IH _ _ _ _ _ _ _ (tame_val _) h9 (tame_val _) h11 h12
  have LL:=fun e11 e12 T X h11 h12=>LI R e11 e12 T X h11 h12 H49
  refine evK_loop c10_11 _ _ _ _ rfl ?_
  rcases kof_or 4 out with ⟨hk,rfl⟩ | hk
  ·have en:encSubs []=[]:=rfl
   rw [hk,en] at LL ⊢
   simp [-zia,-St.obj,-St.set,h8,h9,h10,h11,h12,k1,k2,hw1,hc6,-zil,-zit,-znl,-znt,ty3,ty4,ty22,ty23,ty26,ty29,ty31,ty77,H10,E10,e10_49,n10_26,n10_10]
   exact LL _ _ _ _ h11 h12
  ·rw [hk] at LL ⊢
   simp [-zia,-St.obj,-St.set,h8,h9,h10,h11,h12,k1,k2,hw1,hc6,-zil,-zit,-znl,-znt,ty3,ty4,ty22,ty23,ty26,ty29,ty31,ty77,H10,E10,e10_49,n10_26,n10_10]
   exact LL _ _ _ _ h11 h12
theorem c10 (l:List Int)(a j id:Nat)(st:St)(h:FeedOk st id)(ha:a<549755813888)(hj:j<549755600000)(ps:List Int)(hps:ps.length<1000) :
  EvF gS 10 [.ptr id 0,.slice (intVs ps)] (setF st id l (nA l a j))=some (.ret (.slice (encSubs (subsV l a j ps.length).1)) none,setF (dd st (subsV l a j ps.length).2.2) id l (nA l a (subsV l a j ps.length).2.1)):=by
 refine EvF_start fi53_eq (fun x h=>by cases h) m10 ?_
 rw [st10]
 have k1:=fun fr=>k40 l a j id fr st h ha (by omega)
 have a1:=filterV_asks l a j
 have k2:=fun fr=>k40 l a (filterV l a j).2.1 id fr (dd st (filterV l a j).2.2) (h.dd _) ha (by omega)
 rw [dd_dd] at k2
 have a2:=filterV_asks l a (filterV l a j).2.1
 have q1:=filterV_ffv l a j
 have q2:=filterV_ffv l a (filterV l a j).2.1
 unfold subsV subsF
 generalize filterV l a (filterV l a j).2.1=B at *
 generalize filterV l a j=A at *
 obtain ⟨f1,J1,D1⟩:=A
 obtain ⟨f2,J2,D2⟩:=B
 simp only at k1 k2 a1 a2 q1 q2 ⊢
 have hfs:∀ f∈[f1,f2,[]],PSm f:=fun f hf=>by
  simp at hf
  rcases hf with rfl | rfl | rfl
  ·exact psm_ffv q1
  ·exact psm_ffv q2
  ·exact ⟨by simp,by simp⟩
 have LL:=fun e8 e9 e10 e11 e12 T X h8 h9 h10 h11 h12=>L10_10 l a id ha st h ps [f1,f2,[]] hfs rfl hps 6 J2 (D1+D2) 1 [] e8 e9 e10 e11 e12 T X h8 h9 h10 h11 h12 (Nat.le_refl _) rfl (Nat.le_refl _) (by omega)
 rw [show kof 4 ([]:List Sub)=0 from rfl,show encSubs []=[] from rfl,show encPredss [f1,f2,[]]=[.slice (encPreds f1),.slice (encPreds f2),.slice []] from rfl] at LL
 generalize hR:(Out.ret (V.slice (encSubs (subsO l a ps.length [f1,f2,[]] 6 1 J2 (D1+D2) []).1)) none,setF (dd st (subsO l a ps.length [f1,f2,[]] 6 1 J2 (D1+D2) []).2.2) id l (nA l a (subsO l a ps.length [f1,f2,[]] 6 1 J2 (D1+D2) []).2.1))=R at LL ⊢
 simp [-St.obj,-St.set,k1,k2,-zil,-zit,-znl,-znt,ty3,ty4,ty22,ty23,ty26,ty29,ty31,ty77,H10,E10,e10_49,n10_26,n10_10]
 exact LL _ _ _ _ _ _ _ tame_any tame_any tame_any tame_any tame_any
theorem k10 (l:List Int)(a j id:Nat)(fr:Fr)(st:St)(h:FeedOk st id)(ha:a<549755813888)(hj:j<549755600000)(ps:List Int)(hps:ps.length<1000) :
  callStep gS (EvF gS) 10 [.ptr id 0,.slice (intVs ps)] fr (setF st id l (nA l a j))=some (.ok (.val (.slice (encSubs (subsV l a j ps.length).1))) (fr.map E.noMem) (setF (dd st (subsV l a j ps.length).2.2) id l (nA l a (subsV l a j ps.length).2.1))):=by
 unfold callStep
 simp only [show gS.ext 10=none from rfl,fi53_eq,show fi10.pure=false from rfl,Bool.false_eq_true,if_false,c10 l a j id st h ha hj ps hps,retE]
end
end Go.Proofs.Ytdoobejjedpcgaa
/-! # Trees of brokers,in plain Lean -/
namespace Go.Ab
open Go
def upT:Nat→List Int→Bool
 | _,[]=>true
 | i,x :: l=>decide (0≤x) && decide (x≤i) && upT (i+1) l
def rightT (p:List Int):Bool:=upT 0 p && decide ((p.length:Int)≤7)
def isT (p:List Int)(b:Int):Bool:=rightT p && decide (0≤b) && decide (b≤(p.length:Int))
structure Atom where
 a:Int
 b:Int
 br:Int
 deriving Inhabited
def Atom.cells (x:Atom):List V:=[.int .i64 x.a,.int .i64 x.b,.int .i64 x.br]
def Atom.enc (x:Atom):V:=.agg x.cells
def encAtoms (l:List Atom):List V:=l.map Atom.enc
theorem upT_cons (i:Nat)(x:Int)(l:List Int):upT i (x :: l)=(decide (0≤x) && decide (x≤i) && upT (i+1) l):=rfl
theorem upT_get:∀ (l:List Int)(i k:Nat)(x:Int),upT i l=true→l[k]?=some x→0≤x∧x≤((i+k:Nat):Int):=by
 intro l
 induction l with
 | nil=>intro i k x h hx;simp at hx
 | cons a l ih =>
  intro i k x h hx
  rw [upT_cons] at h
  simp only [Bool.and_eq_true,decide_eq_true_eq] at h
  cases k with
  | zero=>simp at hx;subst hx;simpa using h.1
  | succ k =>
   have:=ih (i+1) k x h.2 (by simpa using hx)
   omega
def upF (p:List Int):Nat→Nat→List Int
 | 0,_=>[]
 | k+1,b=>if b=0 then [] else (p.getD (b - 1) 0) :: upF p k (p.getD (b - 1) 0).toNat
def upP (p:List Int)(b:Nat):List Int:=(b:Int) :: upF p b b
theorem upF_zero (p:List Int)(k:Nat):upF p k 0=[]:=by cases k <;> simp [upF]
theorem upF_succ (p:List Int)(k b:Nat)(x:Int)(hx:p[b]?=some x):upF p (k+1) (b+1)=x :: upF p k x.toNat:=by
 simp [upF,hx]
theorem encAtoms_length (l:List Atom):(encAtoms l).length=l.length:=by simp [encAtoms]
theorem encAtoms_get (l:List Atom)(i:Nat):(encAtoms l)[i]?=(l[i]?).map Atom.enc:=by simp [encAtoms]
theorem encAtoms_gE (l:List Atom)(i:Nat)(h:i<(encAtoms l).length):(encAtoms l)[i]'h=(l[i]'(by rw [encAtoms_length] at h;exact h)).enc:=by simp [encAtoms]
theorem flat_atom (v:Atom):v.enc.flat=true:=by simp [Atom.enc,Atom.cells,V.flat,flats]
theorem flats_atoms (l:List Atom):flats (encAtoms l)=true:=by
 induction l with
 | nil=>rfl
 | cons x r ih=>simp only [encAtoms,List.map_cons,flats,flat_atom] at ih ⊢;exact ih
attribute [simp] encAtoms_length encAtoms_get encAtoms_gE flat_atom flats_atoms Atom.enc Atom.cells
theorem take_rev (b:List Int)(n:Nat)(x:Int)(hx:b[n]?=some x):(b.take (n+1)).reverse=x :: (b.take n).reverse:=by
 rw [List.take_add_one,hx];simp
theorem upF_len (p:List Int):∀ (k b:Nat),(upF p k b).length≤k
 | 0,_=>by simp [upF]
 | k+1,b=>by
  unfold upF
  split
  ·simp
  ·have:=upF_len p k (p.getD (b - 1) 0).toNat
   simp only [List.length_cons];omega
def treeG (l:List Int)(a:Nat):Nat→Nat→List Int→List Int
 | 0,_,acc=>acc
 | n+1,j,acc=>treeG l a n (j+1) (acc ++ [fd l a j ((acc.length:Int)+1)])
def treeV (l:List Int)(a j:Nat)(most:Int):List Int:=treeG l a (fd l a j most).toNat (j+1) []
theorem treeG_succ (l:List Int)(a n j:Nat)(acc:List Int):treeG l a (n+1) j acc=treeG l a n (j+1) (acc ++ [fd l a j ((acc.length:Int)+1)]):=rfl
theorem treeG_len (l:List Int)(a:Nat):∀ (n j:Nat) (acc:List Int),(treeG l a n j acc).length=acc.length+n
 | 0,_,acc=>rfl
 | n+1,j,acc=>by rw [treeG_succ,treeG_len l a n,zla,List.length_singleton];omega
theorem upT_snoc:∀ (p:List Int)(i:Nat)(x:Int),upT i p=true→0≤x→x≤((i+p.length:Nat):Int)→upT i (p ++ [x])=true
 | [],i,x,_,h1,h2=>by simp [upT,h1];simpa using h2
 | y :: p,i,x,h,h1,h2=>by
  rw [upT_cons] at h
  simp only [Bool.and_eq_true] at h
  rw [List.cons_append,upT_cons,upT_snoc p (i+1) x h.2 h1 (by simp only [List.length_cons] at h2;omega)]
  simp [h.1.1,h.1.2] at *
theorem treeG_up (l:List Int)(a:Nat):∀ (n j:Nat) (acc:List Int),upT 0 acc=true→upT 0 (treeG l a n j acc)=true
 | 0,_,acc,h=>h
 | n+1,j,acc,h=>by
  rw [treeG_succ]
  have hb:=fd_bound l a j (n:=(acc.length:Int)+1) (by omega)
  exact treeG_up l a n _ _ (upT_snoc acc 0 _ h hb.1 (by omega))
theorem treeV_right (l:List Int)(a j:Nat) {most:Int} (h1:1≤most)(h2:most≤8):rightT (treeV l a j most)=true:=by
 have hb:=fd_bound l a j (n:=most) h1
 have hl:=treeG_len l a (fd l a j most).toNat (j+1) []
 unfold rightT treeV
 rw [treeG_up l a _ _ [] rfl,hl]
 simp
 omega
def mayS (s:Sub):Bool:=decide (1≤s.client) && decide (s.client≤6) && decide (0≤s.broker) && decide (s.broker≤7) && decide (1≤s.num) && decide (s.num≤4611686018427387904) && fright s.filter
def bothI (v:List Int):List Int→List Int→List Int
 | [],out=>out
 | c :: r,out=>bothI v r (if hasI v c then layI out c else out)
end Go.Ab
