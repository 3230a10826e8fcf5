/- Forwarded from any broker an event comes to each broker once at most, to each where a Sub takes it, and to none behind which there is no such one. Part 4. -/
import Derived.Test.YtdoobejjedpcgaaK3
set_option linter.unusedVariables false
set_option linter.unusedSimpArgs false
set_option linter.unnecessarySimpa false
set_option maxHeartbeats 8000000
set_option maxRecDepth 20000
open Int renaming not_le → zil, not_lt → zit, natCast_add → zia
open Nat renaming not_le → znl, not_lt → znt
open List renaming getElem?_eq_getElem → zge, getElem?_eq_some_iff → zgs, append_assoc → zaa, mem_of_getElem? → zmg, length_append → zla
namespace Go.Ab
open Go
def flt (x y:Nat):Bool:=FloatKind.f64.format.order x y == some .lt
def fle (x y:Nat):Bool:=FloatKind.f64.format.order x y == some .lt || FloatKind.f64.format.order x y == some .eq
def fgt (x y:Nat):Bool:=FloatKind.f64.format.order x y == some .gt
def fge (x y:Nat):Bool:=FloatKind.f64.format.order x y == some .gt || FloatKind.f64.format.order x y == some .eq
def feq (x y:Nat):Bool:=FloatKind.f64.format.order x y == some .eq
theorem fb_lss (x y:Nat):floatBin .lss .f64 x y=some (.bool (flt x y)):=rfl
theorem fb_leq (x y:Nat):floatBin .leq .f64 x y=some (.bool (fle x y)):=rfl
theorem fb_gtr (x y:Nat):floatBin .gtr .f64 x y=some (.bool (fgt x y)):=rfl
theorem fb_geq (x y:Nat):floatBin .geq .f64 x y=some (.bool (fge x y)):=rfl
theorem fb_eql (x y:Nat):floatBin .eql .f64 x y=some (.bool (feq x y)):=rfl
theorem fb_neq (x y:Nat):floatBin .neq .f64 x y=some (.bool (!feq x y)):=rfl
theorem fs_eq (x y:Nat):Op.floatEq .f64 x y=feq x y:=rfl
attribute [simp] fb_lss fb_leq fb_gtr fb_geq fb_eql fb_neq fs_eq
def fbits (b:Nat):Int:=if feq b b then (if feq b 0 then 0 else b) else 9221120237041090560
def sgn (below above:Bool):Int:=if below then -1 else if above then 1 else 0
def ftr (x:Nat):Nat:=(truncV x).getD 0
def ftz (x:Nat):Int:=((FloatKind.f64.decode (ftr x)).toInt .zero).getD 0
def icmp (n:Int)(x:Nat):Int × Bool :=
 if feq x x then
  if fge x 4890909195324358656 then (-1,true)
  else if flt x 14114281232179134464 then (1,true)
  else if ftz x=n then (sgn (flt (ftr x) x) (fgt (ftr x) x),true)
  else (sgn (n<ftz x) (n > ftz x),true)
 else (0,false)
def fcmp (a b:Nat):Int × Bool:=if feq a a && feq b b then (sgn (flt a b) (fgt a b),true) else (0,false)
def scmp (a b:List UInt8):Int:=sgn (Op.bytesLess a b) (!(Op.bytesLess a b || a == b))
def cmp (a b:Val):Int × Bool :=
 if a.kind=1∧b.kind=1 then (sgn (a.n<b.n) (a.n > b.n),true)
 else if a.kind=2∧b.kind=2 then fcmp a.x b.x
 else if a.kind=1∧b.kind=2 then icmp a.n b.x
 else if a.kind=2∧b.kind=1 then (-(icmp b.n a.x).1,(icmp b.n a.x).2)
 else if a.kind=3∧b.kind=3 then (scmp a.s b.s,true)
 else if a.kind=4∧b.kind=4 then (sgn (!a.b && b.b) (a.b && !b.b),true)
 else (0,false)
def vis (a b:Val):Bool:=(cmp a b).2 && decide ((cmp a b).1=0)
def vright (v:Val):Bool :=
 if v.kind=1 then feq v.x 0 && v.s=[] && !v.b
 else if v.kind=2 then v.n=0 && v.s=[] && !v.b
 else if v.kind=3 then v.n=0 && feq v.x 0 && !v.b && v.s.length≤12
 else if v.kind=4 then v.n=0 && feq v.x 0 && v.s=[]
 else false
def vsame (a b:Val):Bool:=a.kind=b.kind && a.n=b.n && a.s=b.s && a.b=b.b && fbits a.x=fbits b.x
def vzero:Val:=⟨0,0,0,[],false⟩
def isWord (s:List UInt8):Bool:=s.all (fun c=>!decide (c.toNat<97) && !decide (122<c.toNat)) && (decide (1≤s.length) && decide (s.length≤6))
def pright (p:Pred):Bool :=
 if isWord p.name then
  if p.test=1 then vsame p.v vzero && vsame p.w vzero && p.set.length=0
  else if 2≤p.test∧p.test≤7 then vright p.v && vsame p.w vzero && p.set.length=0
  else if p.test=8 then vright p.v && vright p.w && p.set.length=0
  else if p.test=9 then vright p.v && p.v.kind=3 && vsame p.w vzero && p.set.length=0
  else if p.test=10 then vsame p.v vzero && vsame p.w vzero && 1≤p.set.length && p.set.length≤4 && p.set.all vright
  else false
 else false
def sames:List Val→List Val→Bool
 | [],[]=>true
 | a :: r,b :: s=>vsame a b && sames r s
 | _,_=>false
def psame (a b:Pred):Bool:=a.name=b.name && a.test=b.test && vsame a.v b.v && vsame a.w b.w && sames a.set b.set
def isPre (s t:List UInt8):Bool:=t.length≤s.length && s.take t.length=t
def ptakes (p:Pred)(v:Val):Bool :=
 if pright p then
  let c:=cmp v p.v
  if p.test=1 then true
  else if p.test=2 then c.2 && c.1=0
  else if p.test=3 then !(c.2 && c.1=0)
  else if p.test=4 then c.2 && c.1<0
  else if p.test=5 then c.2 && c.1≤0
  else if p.test=6 then c.2 && c.1 > 0
  else if p.test=7 then c.2 && c.1 ≥ 0
  else if p.test=8 then c.2 && c.1 ≥ 0 && (cmp v p.w).2 && (cmp v p.w).1≤0
  else if p.test=9 then v.kind=3 && isPre v.s p.v.s
  else p.set.any (vis v)
 else false
def vnan (v:Val):Bool:=v.kind=2 && !feq v.x v.x
def pvoid (p:Pred):Bool :=
 if pright p then
  if p.test=2∨(4≤p.test∧p.test≤7) then vnan p.v
  else if p.test=8 then !(cmp p.v p.w).2 || (cmp p.v p.w).1 > 0
  else if p.test=10 then p.set.all vnan
  else false
 else false
structure PEnd where
 is:Bool
 op:Bool
 v:Val
def PEnd.encP (e:PEnd):V:=.agg [.bool e.is,.bool e.op,.int .i64 e.v.kind,.int .i64 e.v.n,.float .f64 e.v.x,.str e.v.s,.bool e.v.b]
def PEnd.encR (e:PEnd):V:=.agg [.int .i64 e.v.kind,.int .i64 e.v.n,.float .f64 e.v.x,.str e.v.s,.bool e.v.b,.bool e.is,.bool e.op]
theorem PEnd.eta (e:PEnd):(⟨e.is,e.op,e.v⟩:PEnd)=e:=rfl
attribute [simp] PEnd.encP PEnd.encR PEnd.eta
def lowE (p:Pred):PEnd:=if p.test=6∨p.test=7 then ⟨true,p.test=6,p.v⟩ else if p.test=8 then ⟨true,false,p.v⟩ else ⟨false,false,vzero⟩
def highE (p:Pred):PEnd:=if p.test=4∨p.test=5 then ⟨true,p.test=4,p.v⟩ else if p.test=8 then ⟨true,false,p.w⟩ else ⟨false,false,vzero⟩
def within (q p:PEnd)(side:Int):Bool :=
 if p.is then if q.is then (cmp q.v p.v).2 && (decide ((cmp q.v p.v).1=side) || (decide ((cmp q.v p.v).1=0) && (!p.op || q.op))) else false else true
def pimplies (q p:Pred):Bool :=
 if pright q && pright p then
  if pvoid q || p.test=1 then true
  else if q.test=p.test && (vsame q.v p.v && vsame q.w p.w && sames q.set p.set) then true
  else if p.test=3 then !ptakes q p.v
  else if q.test=2 then ptakes p q.v
  else if q.test=10 then q.set.all (fun v=>vnan v || ptakes p v)
  else if ((lowE q).is || (highE q).is) && ((lowE p).is || (highE p).is) then
   within (lowE q) (lowE p) 1 && within (highE q) (highE p) (-1)
  else if q.test=9 then
   if p.test=9 then isPre q.v.s p.v.s
   else if p.test=7 then (cmp q.v p.v).2 && (cmp q.v p.v).1 ≥ 0
   else if p.test=6 then (cmp q.v p.v).2 && (cmp q.v p.v).1 > 0
   else false
  else false
 else false
theorem less_irrefl:∀ s:List UInt8,Op.bytesLess s s=false
 | []=>rfl
 | a :: r=>by simp [Op.bytesLess,less_irrefl r]
theorem sames_len:∀ {a b:List Val},sames a b=true→a.length=b.length
 | [],[],_=>rfl
 | a :: r,b :: s,h=>by
  simp only [sames,Bool.and_eq_true] at h
  simp [sames_len h.2]
 | [],_ :: _,h=>by simp [sames] at h
 | _ :: _,[],h=>by simp [sames] at h
theorem sames_ne {a b:List Val} (h:¬ a.length=b.length):sames a b=false:=by
 cases hs:sames a b with
 | false=>rfl
 | true=>exact absurd (sames_len hs) h
theorem sgn_bound (a b:Bool):-1≤sgn a b∧sgn a b≤1:=by cases a <;> cases b <;> simp [sgn]
theorem icmp_bound (n:Int)(x:Nat):-1≤(icmp n x).1∧(icmp n x).1≤1:=by
 unfold icmp
 repeat' split
 all_goals first | exact sgn_bound _ _ | simp
theorem sgn_tri (a b:Bool):sgn a b = -1∨sgn a b=0∨sgn a b=1:=by cases a <;> cases b <;> simp [sgn]
theorem icmp_tri (n:Int)(x:Nat):(icmp n x).1 = -1∨(icmp n x).1=0∨(icmp n x).1=1:=by
 have:=icmp_bound n x
 omega
theorem cmp_tri (a b:Val):(cmp a b).1 = -1∨(cmp a b).1=0∨(cmp a b).1=1:=by
 unfold cmp
 repeat' split
 ·exact sgn_tri _ _
 ·unfold fcmp;split
  ·exact sgn_tri _ _
  ·simp
 ·exact icmp_tri _ _
 ·have:=icmp_tri b.n a.x;simp only;omega
 ·exact sgn_tri _ _
 ·exact sgn_tri _ _
 ·simp
theorem wrap_icmp (n:Int)(x:Nat):IntKind.wrap .i64 (-(icmp n x).1) = -(icmp n x).1:=by
 have:=icmp_bound n x
 exact wrap64 (by omega) (by omega)
def opq (b:Bool):Bool:=b
theorem agg_eql (ks:List TK)(x y:List V):binAgg ks .eql x y=(eqCells ks x y).map fun b=>.bool (opq b):=rfl
theorem agg_neq (ks:List TK)(x y:List V):binAgg ks .neq x y=(eqCells ks x y).map fun b=>.bool (!opq b):=rfl
theorem feq00:feq 0 0=true:=by kernel_rfl
attribute [simp] less_irrefl feq00
attribute [simp] wrap_icmp agg_eql agg_neq eqCells eqScalar
end Go.Ab
namespace Go.Ab
open Go Ieee
set_option maxRecDepth 4000
theorem read_cases (x:Nat):(∃ s t,double.read x=.nan s t)∨(∃ s,double.read x=.infinity s)∨∃ s m e,double.read x=.number s m e∧m<2 ^ 53∧(-1074<e→2 ^ 52≤m) ∧ -1074≤e:=by
 have hb:double.binade=2 ^ 52:=rfl
 have hl:double.leastPlace = -1074:=rfl
 unfold Format.read
 simp only [hb,hl]
 generalize x % double.signWeight=r
 split
 ·exact .inr (.inr ⟨_,_,_,rfl,by omega,by omega,by omega⟩)
 ·split
  ·refine .inr (.inr ⟨_,_,_,rfl,?_,?_,?_⟩)
   ·have:=Nat.mod_lt r (show 0<2 ^ 52 by decide);omega
   ·intro _;omega
   ·omega
  ·split
   ·exact .inr (.inl ⟨_,rfl⟩)
   ·exact .inl ⟨_,_,rfl⟩
theorem cut_zero (s:Bool)(n d:Nat):Toward.zero.cut s n d=n / 2 ^ (min d (n.log2+2)):=by
 simp [Toward.cut,Nat.shiftLeft_eq]
theorem cut_even_dvd (s:Bool)(n d q:Nat)(h:n=q*2 ^ (min d (n.log2+2))):Toward.even.cut s n d=q:=by
 have hp:0<2 ^ (min d (n.log2+2)):=Nat.pow_pos (by decide)
 have h1:n / 2 ^ (min d (n.log2+2))=q:=by
  conv=>lhs;lhs;rw [h]
  exact Nat.mul_div_cancel _ hp
 have h2:n % 2 ^ (min d (n.log2+2))=0:=by
  conv=>lhs;lhs;rw [h]
  exact Nat.mul_mod_left _ _
 simp only [Toward.cut,Nat.shiftLeft_eq,Nat.one_mul,h1,h2]
 have h3:¬ (2 ^ (min d (n.log2+2))=0):=by omega
 simp [h3]
theorem log2_of {n k:Nat} (h1:2 ^ k≤n)(h2:n<2 ^ (k+1)):n.log2=k:=by
 have h0:n≠0:=by have:=Nat.pow_pos (n:=k) (show 0<2 by decide);omega
 have a:k≤n.log2:=(Nat.le_log2 h0).2 h1
 have b:n.log2<k+1:=(Nat.log2_lt h0).2 h2
 omega
theorem read_word (s:Bool)(K:Nat)(l:Int)(h1:2 ^ 52≤K)(h2:K<2 ^ 53)(h3:-1074≤l)(h4:l≤900) :
  double.read (double.word s (min ((l - double.leastPlace).toNat*double.binade+K) double.infRung))=.number s K l:=by
 have hb:double.binade=4503599627370496:=rfl
 have hl:double.leastPlace = -1074:=rfl
 have hi:double.infRung=9218868437227405312:=rfl
 have hw:double.signWeight=9223372036854775808:=rfl
 obtain ⟨p,hp⟩:∃ p:Nat,(l - double.leastPlace).toNat=p∧l=(p:Int) - 1074∧p≤1974:=⟨(l+1074).toNat,by rw [hl];omega,by omega,by omega⟩
 obtain ⟨hp1,hp2,hp3⟩:=hp
 rw [hp1]
 have hm:min (p*double.binade+K) double.infRung=p*4503599627370496+K:=by rw [hb,hi];omega
 rw [hm]
 have hr:(p*4503599627370496+K)<9223372036854775808:=by omega
 have key:∀ w:Nat,w % 9223372036854775808=p*4503599627370496+K→(w / 9223372036854775808 % 2 == 1)=s→double.read w=.number s K l:=by
  intro w e1 e2
  unfold Format.read
  simp only [hb,hl,hi,hw,e1,e2]
  have c1:¬ p*4503599627370496+K<4503599627370496:=by omega
  have c2:p*4503599627370496+K<9218868437227405312:=by omega
  have c3:(p*4503599627370496+K) % 4503599627370496=K - 4503599627370496:=by omega
  have c4:(p*4503599627370496+K) / 4503599627370496 - 1=p:=by omega
  rw [if_neg c1,if_pos c2,c3,c4,hp2]
  have c5:4503599627370496+(K - 4503599627370496)=K:=by omega
  have c6:(-1074:Int)+(p:Int)=(p:Int) - 1074:=by omega
  rw [c5,c6]
 apply key
 ·cases s with
  | false=>show (p*4503599627370496+K) % 9223372036854775808=_;omega
  | true=>show (9223372036854775808+(p*4503599627370496+K)) % 9223372036854775808=_;omega
 ·cases s with
  | false =>
   show ((p*4503599627370496+K) / 9223372036854775808 % 2 == 1)=false
   rw [Nat.div_eq_of_lt hr];rfl
  | true =>
   show ((9223372036854775808+(p*4503599627370496+K)) / 9223372036854775808 % 2 == 1)=true
   rw [show (9223372036854775808+(p*4503599627370496+K)) / 9223372036854775808=1 by omega];rfl
theorem read_zero (s:Bool):double.read (double.word s 0)=.number s 0 (-1074):=by cases s <;> rfl
theorem signed_bound (s:Bool)(M:Nat)(h:M≤2 ^ 63)(hs:s=false→M<2 ^ 63):-9223372036854775808≤signed s M 0∧signed s M 0≤9223372036854775807:=by
 unfold signed
 simp only [Nat.shiftLeft_zero]
 cases s with
 | false=>have:=hs rfl;simp only [Bool.false_eq_true,if_false];omega
 | true=>simp only [if_true];omega
theorem whole_exact (s:Bool)(M:Nat)(h:M≤2 ^ 63)(hM:M<2 ^ 53∨∃ m e:Nat,M=m*2 ^ e∧2 ^ 52≤m∧m<2 ^ 53) :
  (double.read (double.write (.number s M 0))).toInt .zero=some (signed s M 0):=by
 have hl:double.leastPlace = -1074:=rfl
 have hf:(double.fractionBits:Int)=52:=rfl
 unfold Format.write Format.nearest
 dsimp only
 by_cases h0:M=0
 ·subst h0
  simp only [if_true]
  rw [read_zero]
  simp only [Datum.toInt,Datum.integral,cut_zero]
  simp
 ·rw [if_neg h0]
  have hL1:2 ^ M.log2≤M:=Nat.log2_self_le h0
  have hL2:M<2 ^ (M.log2+1):=Nat.lt_log2_self
  have hL:M.log2≤63:=by
   have:M.log2<64:=(Nat.log2_lt h0).2 (by omega)
   omega
  have hlast:max ((0:Int)+(M.log2:Int) - (double.fractionBits:Int)) double.leastPlace=(M.log2:Int) - 52:=by rw [hl,hf];omega
  simp only [hlast]
  -- kept
  obtain ⟨K,l,hK,hK1,hK2,hlk,hdef⟩:∃ K:Nat,∃ l:Int,(l=(M.log2:Int) - 52)∧2 ^ 52≤K∧K<2 ^ 53∧Toward.even.cut s (M <<< ((0:Int) - ((M.log2:Int) - 52)).toNat) (((M.log2:Int) - 52) - 0).toNat=K ∧
    ((0≤l→M=K*2 ^ l.toNat)∧(l<0→K=M*2 ^ (-l).toNat∧(-l).toNat≤52)):=by
   by_cases hs:M.log2≤52
   ·refine ⟨M*2 ^ (52 - M.log2),(M.log2:Int) - 52,rfl,?_,?_,?_,?_,?_⟩
    ·calc 2 ^ 52=2 ^ M.log2*2 ^ (52 - M.log2):=by rw [← Nat.pow_add];congr 1;omega
      _≤M*2 ^ (52 - M.log2):=Nat.mul_le_mul_right _ hL1
    ·calc M*2 ^ (52 - M.log2)<2 ^ (M.log2+1)*2 ^ (52 - M.log2):=Nat.mul_lt_mul_of_pos_right hL2 (Nat.pow_pos (by decide))
      _=2 ^ 53:=by rw [← Nat.pow_add];congr 1;omega
    ·have e1:((0:Int) - ((M.log2:Int) - 52)).toNat=52 - M.log2:=by omega
     have e2:(((M.log2:Int) - 52) - 0).toNat=0:=by omega
     rw [e1,e2]
     exact cut_even_dvd _ _ _ _ (by rw [Nat.zero_min,Nat.shiftLeft_eq];simp)
    ·intro hge
     have e:M.log2=52:=by omega
     rw [e];simp
    ·intro hlt
     have e:(-((M.log2:Int) - 52)).toNat=52 - M.log2:=by omega
     rw [e];exact ⟨rfl,by omega⟩
   ·obtain ⟨m,e,hme,hm1,hm2⟩:∃ m e:Nat,M=m*2 ^ e∧2 ^ 52≤m∧m<2 ^ 53:=by
     rcases hM with hM | hM
     ·exfalso
      have:M.log2<53:=(Nat.log2_lt h0).2 hM
      omega
     ·exact hM
    have hlog:M.log2=52+e:=by
     apply log2_of
     ·rw [hme,Nat.pow_add];exact Nat.mul_le_mul_right _ hm1
     ·rw [hme,show 52+e+1=53+e by omega,Nat.pow_add];exact Nat.mul_lt_mul_of_pos_right hm2 (Nat.pow_pos (by decide))
    refine ⟨m,(M.log2:Int) - 52,rfl,hm1,hm2,?_,?_,?_⟩
    ·have e1:((0:Int) - ((M.log2:Int) - 52)).toNat=0:=by omega
     have e2:(((M.log2:Int) - 52) - 0).toNat=e:=by omega
     rw [e1,e2]
     refine cut_even_dvd _ _ _ _ ?_
     rw [Nat.shiftLeft_zero,hlog,show min e (52+e+2)=e by omega];exact hme
    ·intro _
     rw [show ((M.log2:Int) - 52).toNat=e by omega];exact hme
    ·intro hlt;omega
  rw [hlk,← hK,read_word s K l hK1 hK2 (by omega) (by omega)]
  simp only [Datum.toInt,Datum.integral,cut_zero]
  have hKl:K.log2=52:=log2_of hK1 hK2
  have:(K <<< l.toNat) / 2 ^ (min (-l).toNat ((K <<< l.toNat).log2+2))=M:=by
   by_cases hge:0≤l
   ·have e:(-l).toNat=0:=by omega
    rw [e,Nat.zero_min,Nat.pow_zero,Nat.div_one,Nat.shiftLeft_eq]
    exact (hdef.1 hge).symm
   ·have e:l.toNat=0:=by omega
    obtain ⟨d1,d2⟩:=hdef.2 (by omega)
    rw [e,Nat.shiftLeft_zero,hKl,show min (-l).toNat (52+2)=(-l).toNat by omega,d1]
    exact Nat.mul_div_cancel _ (Nat.pow_pos (by decide))
  rw [this]
theorem ord_cmp (s t:Bool)(m n:Nat)(i j:Int):Datum.order (.number s m i) (.number t n j)=some (compare (signed s m (i - min i j).toNat) (signed t n (j - min i j).toNat)):=rfl
theorem conv_ok (x:Nat)(h1:feq x x=true)(h2:¬ fge x 4890909195324358656=true)(h3:¬ flt x 14114281232179134464=true) :
  truncV x=some (ftr x)∧(FloatKind.f64.decode (ftr x)).toInt .zero=some (ftz x)∧(-9223372036854775808≤ftz x∧ftz x≤9223372036854775807):=by
 have c1:double.read 4890909195324358656=.number false 4503599627370496 11:=rfl
 have c2:double.read 14114281232179134464=.number true 4503599627370496 11:=rfl
 have hfeq:feq x x=((double.read x).order (double.read x) == some .eq):=rfl
 have hfge:fge x 4890909195324358656=((double.read x).order (double.read 4890909195324358656) == some .gt || (double.read x).order (double.read 4890909195324358656) == some .eq):=rfl
 have hflt:flt x 14114281232179134464=((double.read x).order (double.read 14114281232179134464) == some .lt):=rfl
 rw [hfeq] at h1;rw [hfge,c1] at h2;rw [hflt,c2] at h3
 rcases read_cases x with ⟨s,t,hx⟩ | ⟨s,hx⟩ | ⟨s,m,e,hx,hm,hn,he⟩
 ·rw [hx] at h1;simp [Datum.order] at h1
 ·rw [hx] at h2 h3
  cases s
  ·simp [Datum.order] at h2
  ·simp [Datum.order] at h3
 ·have hd:FloatKind.f64.decode x=.number s m e:=hx
  rw [hx] at h2 h3
  rw [ord_cmp] at h2 h3
  have ht:truncV x=some (double.write (.number s (Toward.zero.cut s (m <<< e.toNat) (-e).toNat) 0)):=by
   unfold truncV;rw [hd];rfl
  have hftr:ftr x=double.write (.number s (Toward.zero.cut s (m <<< e.toNat) (-e).toNat) 0):=by unfold ftr;rw [ht];rfl
  have hM:∃ M,Toward.zero.cut s (m <<< e.toNat) (-e).toNat=M∧M≤2 ^ 63∧(s=false→M<2 ^ 63)∧(M<2 ^ 53∨∃ m e:Nat,M=m*2 ^ e∧2 ^ 52≤m∧m<2 ^ 53):=by
   by_cases hge:0≤e
   ·obtain ⟨k,rfl⟩:∃ k:Nat,e=(k:Int):=⟨e.toNat,by omega⟩
    have hm52:2 ^ 52≤m:=hn (by omega)
    have e1:(-(k:Int)).toNat=0:=by omega
    rw [cut_zero,e1,Nat.zero_min,Nat.pow_zero,Nat.div_one,Int.toNat_natCast,Nat.shiftLeft_eq]
    have hle:m*2 ^ k≤2 ^ 63∧(s=false→m*2 ^ k<2 ^ 63):=by
     by_cases hk:k≤11
     ·have hp:2 ^ k*2 ^ (11 - k)=2 ^ 11:=by rw [← Nat.pow_add];congr 1;omega
      rw [show ((k:Int) - min (k:Int) 11).toNat=0 by omega,show ((11:Int) - min (k:Int) 11).toNat=11 - k by omega] at h2 h3
      simp only [signed,Nat.shiftLeft_eq] at h2 h3
      have hpp:0<2 ^ k:=Nat.pow_pos (by decide)
      generalize 2 ^ (11 - k)=q at *
      generalize 2 ^ k=r at *
      cases s with
      | false =>
       simp only [Bool.false_eq_true,if_false] at h2
       have hlt:m<4503599627370496*q:=by
        rcases Nat.lt_or_ge m (4503599627370496*q) with hlt | hge2
        ·exact hlt
        ·exfalso;apply h2
         rcases Nat.lt_or_eq_of_le hge2 with hgt | heq
         ·have:compare ((m*2 ^ 0:Nat):Int) ((4503599627370496*q:Nat):Int)=.gt:=Int.compare_eq_gt.2 (by omega)
          rw [this];rfl
         ·have:compare ((m*2 ^ 0:Nat):Int) ((4503599627370496*q:Nat):Int)=.eq:=Int.compare_eq_eq.2 (by omega)
          rw [this];rfl
       have:m*r<4503599627370496*q*r:=Nat.mul_lt_mul_of_pos_right hlt hpp
       have e:4503599627370496*q*r=2 ^ 63:=by rw [Nat.mul_assoc,Nat.mul_comm q r,hp]
       omega
      | true =>
       simp only [if_true] at h3
       have hle:m≤4503599627370496*q:=by
        rcases Nat.lt_or_ge (4503599627370496*q) m with hlt | hge2
        ·exfalso;apply h3
         have:compare (-((m*2 ^ 0:Nat):Int)) (-((4503599627370496*q:Nat):Int))=.lt:=Int.compare_eq_lt.2 (by omega)
         rw [this];rfl
        ·exact hge2
       have:m*r≤4503599627370496*q*r:=Nat.mul_le_mul_right _ hle
       have e:4503599627370496*q*r=2 ^ 63:=by rw [Nat.mul_assoc,Nat.mul_comm q r,hp]
       exact ⟨by omega,fun h=>by cases h⟩
     ·exfalso
      have hp:2 ^ 12≤2*2 ^ (k - 11)*2 ^ 11:=by
       have:1≤2 ^ (k - 11):=Nat.one_le_two_pow
       omega
      have h2k:2≤2 ^ (k - 11):=by
       calc 2=2 ^ 1:=rfl
        _≤2 ^ (k - 11):=Nat.pow_le_pow_right (by decide) (by omega)
      rw [show ((k:Int) - min (k:Int) 11).toNat=k - 11 by omega,show ((11:Int) - min (k:Int) 11).toNat=0 by omega] at h2 h3
      simp only [signed,Nat.shiftLeft_eq] at h2 h3
      have hbig:4503599627370496<m*2 ^ (k - 11):=by
       have:=Nat.mul_le_mul hm52 h2k
       omega
      generalize m*2 ^ (k - 11)=z at *
      cases s with
      | false =>
       simp only [Bool.false_eq_true,if_false] at h2
       apply h2
       have:compare (z:Int) ((4503599627370496*2 ^ 0:Nat):Int)=.gt:=Int.compare_eq_gt.2 (by omega)
       rw [this];rfl
      | true =>
       simp only [if_true] at h3
       apply h3
       have:compare (-(z:Int)) (-((4503599627370496*2 ^ 0:Nat):Int))=.lt:=Int.compare_eq_lt.2 (by omega)
       rw [this];rfl
    exact ⟨_,rfl,hle.1,hle.2,.inr ⟨m,k,rfl,hm52,hm⟩⟩
   ·have e1:e.toNat=0:=by omega
    rw [cut_zero,e1,Nat.shiftLeft_zero]
    have hle:m / 2 ^ (min (-e).toNat (m.log2+2))≤m:=Nat.div_le_self _ _
    exact ⟨_,rfl,by omega,fun _=>by omega,.inl (by omega)⟩
  obtain ⟨M,hMe,hM1,hM2,hM3⟩:=hM
  rw [hMe] at ht hftr
  have hz:=whole_exact s M hM1 hM3
  have hdz:(FloatKind.f64.decode (ftr x)).toInt .zero=some (signed s M 0):=by rw [hftr];exact hz
  have hftz:ftz x=signed s M 0:=by unfold ftz;rw [hdz];rfl
  refine ⟨by rw [ht,hftr],by rw [hdz,hftz],?_⟩
  rw [hftz]
  exact signed_bound s M hM1 hM2
end Go.Ab
namespace Go.Proofs.Ytdoobejjedpcgaa
open Go Go.Ab
noncomputable section
variable (fr:Fr)(st:St)(k:Kt)
theorem ty2:gS.ty 2=some {k:=.int .i64,size:=1,agg:=false,zero:=[.int .i64 0]}:=by kernel_rfl
theorem ty3:gS.ty 3=some {k:=.int .i64,size:=1,agg:=false,zero:=[.int .i64 0]}:=by kernel_rfl
theorem ty4:gS.ty 4=some {k:=.bool,size:=1,agg:=false,zero:=[.bool false]}:=by kernel_rfl
theorem ty5:gS.ty 5=some {k:=.int .u8,size:=1,agg:=false,zero:=[.int .u8 0]}:=by kernel_rfl
theorem ty9:gS.ty 9=some {k:=.str,size:=1,agg:=false,zero:=[.str []]}:=by kernel_rfl
theorem ty22:gS.ty 22=some {k:=.slice 1 8 false [.int .i64 0],size:=1,agg:=false,zero:=[.osl 0 []]}:=by kernel_rfl
theorem ty23:gS.ty 23=some {k:=.pointer,size:=1,agg:=false,zero:=[.nilp]}:=by kernel_rfl
theorem ty25:gS.ty 25=some {k:=.struct [(0,1,false),(1,1,false)],size:=2,agg:=true,zero:=[.osl 0 [],.int .i64 0]}:=by kernel_rfl
theorem ty26:gS.ty 26=some {k:=.slice 4 48 true [.int .i64 0,.int .i64 0,.int .i64 0,.osl 0 []],size:=1,agg:=false,zero:=[.osl 0 []]}:=by kernel_rfl
theorem ty29:gS.ty 29=some {k:=.slice 13 144 true [.str [],.int .i64 0,.int .i64 0,.int .i64 0,.float .f64 0,.str [],.bool false,.int .i64 0,.int .i64 0,.float .f64 0,.str [],.bool false,.osl 0 []],size:=1,agg:=false,zero:=[.osl 0 []]}:=by kernel_rfl
theorem ty31:gS.ty 31=some {k:=.struct [(0,1,false),(1,1,false),(2,1,false),(3,1,false)],size:=4,agg:=true,zero:=[.int .i64 0,.int .i64 0,.int .i64 0,.osl 0 []]}:=by kernel_rfl
theorem ty42:gS.ty 42=some {k:=.slice 6 64 true [.str [],.int .i64 0,.int .i64 0,.float .f64 0,.str [],.bool false],size:=1,agg:=false,zero:=[.osl 0 []]}:=by kernel_rfl
theorem ty70:gS.ty 70=some {k:=.slice 2 32 true [.int .i64 0,.osl 0 []],size:=1,agg:=false,zero:=[.osl 0 []]}:=by kernel_rfl
theorem ty77:gS.ty 77=some {k:=.slice 1 24 false [.osl 0 []],size:=1,agg:=false,zero:=[.osl 0 []]}:=by kernel_rfl
theorem ty79:gS.ty 79=some {k:=.struct [(0,1,false),(1,1,false)],size:=2,agg:=true,zero:=[.int .i64 0,.osl 0 []]}:=by kernel_rfl
theorem ty80:gS.ty 80=some {k:=.slice 1 24 false [.osl 0 []],size:=1,agg:=false,zero:=[.osl 0 []]}:=by kernel_rfl
theorem ty81:gS.ty 81=some {k:=.slice 1 1 false [.bool false],size:=1,agg:=false,zero:=[.osl 0 []]}:=by kernel_rfl
theorem ty86:gS.ty 86=some {k:=.float .f64,size:=1,agg:=false,zero:=[.float .f64 0]}:=by kernel_rfl
theorem ty88:gS.ty 88=some {k:=.struct [(0,1,false),(1,1,false),(2,1,false),(3,1,false),(4,1,false)],size:=5,agg:=true,zero:=[.int .i64 0,.int .i64 0,.float .f64 0,.str [],.bool false]}:=by kernel_rfl
theorem ty89:gS.ty 89=some {k:=.slice 5 48 true [.int .i64 0,.int .i64 0,.float .f64 0,.str [],.bool false],size:=1,agg:=false,zero:=[.osl 0 []]}:=by kernel_rfl
theorem ty91:gS.ty 91=some {k:=.struct [(0,1,false),(1,1,false),(2,5,true),(7,5,true),(12,1,false)],size:=13,agg:=true,zero:=[.str [],.int .i64 0,.int .i64 0,.int .i64 0,.float .f64 0,.str [],.bool false,.int .i64 0,.int .i64 0,.float .f64 0,.str [],.bool false,.osl 0 []]}:=by kernel_rfl
theorem ty92:gS.ty 92=some {k:=.array 5 1 false,size:=5,agg:=true,zero:=[.str [],.str [],.str [],.str [],.str []]}:=by kernel_rfl
theorem ty95:gS.ty 95=some {k:=.struct [(0,1,false),(1,5,true)],size:=6,agg:=true,zero:=[.str [],.int .i64 0,.int .i64 0,.float .f64 0,.str [],.bool false]}:=by kernel_rfl
theorem ty109:gS.ty 109=some {k:=.array 2 1 false,size:=2,agg:=true,zero:=[.int .i64 0,.int .i64 0]}:=by kernel_rfl
theorem ty110:gS.ty 110=some {k:=.slice 2 16 true [.int .i64 0,.int .i64 0],size:=1,agg:=false,zero:=[.osl 0 []]}:=by kernel_rfl
theorem ty117:gS.ty 117=some {k:=.array 6 1 false,size:=6,agg:=true,zero:=[.str [],.str [],.str [],.str [],.str [],.str []]}:=by kernel_rfl
theorem ty118:gS.ty 118=some {k:=.array 6 1 false,size:=6,agg:=true,zero:=[.int .i64 0,.int .i64 0,.int .i64 0,.int .i64 0,.int .i64 0,.int .i64 0]}:=by kernel_rfl
theorem ty122:gS.ty 122=some {k:=.array 4 1 false,size:=4,agg:=true,zero:=[.str [],.str [],.str [],.str []]}:=by kernel_rfl
theorem ty128:gS.ty 128=some {k:=.int .u64,size:=1,agg:=false,zero:=[.int .u64 0]}:=by kernel_rfl
theorem ty132:gS.ty 132=some {k:=.array 14 1 false,size:=14,agg:=true,zero:=[.float .f64 0,.float .f64 0,.float .f64 0,.float .f64 0,.float .f64 0,.float .f64 0,.float .f64 0,.float .f64 0,.float .f64 0,.float .f64 0,.float .f64 0,.float .f64 0,.float .f64 0,.float .f64 0]}:=by kernel_rfl
theorem ty143:gS.ty 143=some {k:=.struct [(0,1,false),(1,1,false),(2,5,true)],size:=7,agg:=true,zero:=[.bool false,.bool false,.int .i64 0,.int .i64 0,.float .f64 0,.str [],.bool false]}:=by kernel_rfl
theorem eq88:gS.eqs 88=some [.int .i64,.int .i64,.float .f64,.str,.bool]:=by kernel_rfl
theorem k123 (b:Nat)(fr:Fr)(st:St):callStep gS (EvF gS) 123 [.float .f64 b] fr st=some (.ok (.val (.int .u64 b)) fr st):=rfl
theorem k140 (b v:Nat)(h:truncV b=some v)(fr:Fr)(st:St):callStep gS (EvF gS) 140 [.float .f64 b] fr st=some (.ok (.val (.float .f64 v)) fr st):=by
 have e:gS.ext 140=some .trunc:=rfl
 unfold callStep
 simp only [e,extV,h,Option.map_some]
def fi136:FI:={body:=codeOf Try.f136,ntmps:=6,results:=[.tmp 2],pers:=[0,2],locals:=[],pure:=true,marks:=[]}
theorem H136:fi136.marks=[]∧fi136.locals=[]∧fi136.results=[.tmp 2]:=⟨rfl,rfl,rfl⟩
theorem fi116_eq:gS.fn 136=some fi136:=by kernel_rfl
theorem st136 (a0:V):startFr fi136 [a0]={ps:=[(0,.val a0),(2,.any)],ts:=[],lc:=[]}:=rfl
def b136:Code:=mini (codeOf Try.f136)
def c136_2:Code:=.seq (codeN b136 5) .ret
theorem e136_2:evK gS fi136 c136_2 fr st k=opsR gS fi136 [mv 3 0 86,
 mv 4 0 86,
 bop 5 .neq 86 3 4 86 4,
 asn 2 5 4] fr st (.seq .ret k):=evK_rs 1 rfl (by kernel_rfl)
def c136_0:Code:=.seq (codeN b136 2) c136_2
theorem e136_0:evK gS fi136 c136_0 fr st k=opsR gS fi136 [qA 2 false 4] fr st (.seq c136_2 k):=evK_rs 0 rfl (by kernel_rfl)
theorem m136:mini fi136.body=c136_0:=by kernel_rfl
theorem c136 (x:Nat)  (st:St):EvF gS 136 [.float .f64 x] st=some (.ret (.bool (!feq x x)) none,st):=by
 refine EvF_start fi116_eq (fun x h=>by cases h) m136 ?_
 rw [st136]
 simp (config:={contextual:=true,maxSteps:=10000000,maxDischargeDepth:=6}) [-zil,-zit,-znl,-znt,ty4,ty86,H136,e136_2,e136_0]
 all_goals first | done | grind | omega
theorem k136 (x:Nat)  (fr:Fr) (st:St):callStep gS (EvF gS) 136 [.float .f64 x] fr st=some (.ok (retE none (.bool (!feq x x))) fr st) :=
 call_pure rfl fi116_eq rfl (fun st=>c136 x  st) (by simp)
def fi137:FI:={body:=codeOf Try.f137,ntmps:=9,results:=[.tmp 4],pers:=[0,1,4],locals:=[],pure:=true,marks:=[]}
theorem H137:fi137.marks=[]∧fi137.locals=[]∧fi137.results=[.tmp 4]:=⟨rfl,rfl,rfl⟩
theorem fi117_eq:gS.fn 137=some fi137:=by kernel_rfl
theorem st137 (a0 a1:V):startFr fi137 [a0,a1]={ps:=[(0,.val a0),(1,.val a1),(4,.any)],ts:=[],lc:=[]}:=rfl
def b137:Code:=mini (codeOf Try.f137)
def c137_7:Code:=.seq (codeN b137 73) .ret
def c137_13:Code:=.seq (codeN b137 313) .ret
def c137_12:Code:=.cond (.tmp 7) c137_13 .skip
def c137_10:Code:=.seq (codeN b137 89) c137_12
def c137_6:Code:=.cond (.tmp 5) c137_7 c137_10
def c137_4:Code:=.seq (codeN b137 17) c137_6
def c137_17:Code:=.seq (codeN b137 11) .ret
def c137_2:Code:=.seq (.block 0 c137_4) c137_17
def c137_0:Code:=.seq (codeN b137 2) c137_2
theorem E137:evK gS fi137 c137_7 fr st k=opsR gS fi137 [qI 4 (-1) 3] fr st (.seq .ret k) ∧
 evK gS fi137 c137_13 fr st k=opsR gS fi137 [qI 4 1 3] fr st (.seq .ret k) ∧
 evK gS fi137 c137_12 fr st k=condK gS fi137 (fr.op (.tmp 7)).bool? c137_13 .skip fr st k ∧
 (evK gS fi137 c137_10 fr st k=opsR gS fi137 [mv 8 1 4,
 asn 7 8 4] fr st (.seq c137_12 k)) ∧
 evK gS fi137 c137_6 fr st k=condK gS fi137 (fr.op (.tmp 5)).bool? c137_7 c137_10 fr st k ∧
 (evK gS fi137 c137_4 fr st k=opsR gS fi137 [mv 6 0 4,
 asn 5 6 4] fr st (.seq c137_6 k)) ∧
 evK gS fi137 c137_17 fr st k=opsR gS fi137 [qI 4 0 3] fr st (.seq .ret k) ∧
 evK gS fi137 c137_2 fr st k=evK gS fi137 c137_4 fr st (.blk 0 (.seq c137_17 k)) ∧
 evK gS fi137 c137_0 fr st k=opsR gS fi137 [qI 4 0 3] fr st (.seq c137_2 k):=⟨evK_rs 2 rfl (by kernel_rfl),evK_rs 4 rfl (by kernel_rfl),rfl,evK_rs 3 rfl (by kernel_rfl),rfl,evK_rs 1 rfl (by kernel_rfl),evK_rs 5 rfl (by kernel_rfl),rfl,evK_rs 0 rfl (by kernel_rfl)⟩
theorem m137:mini fi137.body=c137_0:=by kernel_rfl
theorem c137 (b:Bool)(a:Bool)  (st:St):EvF gS 137 [.bool b,.bool a] st=some (.ret (.int .i64 (sgn b a)) none,st):=by
 refine EvF_start fi117_eq (fun x h=>by cases h) m137 ?_
 rw [st137]
 simp (config:={contextual:=true,maxSteps:=10000000,maxDischargeDepth:=6}) [-zil,-zit,-znl,-znt,ty3,ty4,H137,E137]
 all_goals try simp (config:={contextual:=true}) [-zil,-zit,-znl,-znt,sgn]
 all_goals first | done | grind | omega
theorem k137 (b:Bool)(a:Bool)  (fr:Fr) (st:St):callStep gS (EvF gS) 137 [.bool b,.bool a] fr st=some (.ok (retE none (.int .i64 (sgn b a))) fr st) :=
 call_pure rfl fi117_eq rfl (fun st=>c137 b a  st) (by simp)
def fi120:FI:={body:=codeOf Try.f120,ntmps:=19,results:=[.tmp 4,.tmp 5],pers:=[0,1,4,5],locals:=[],pure:=true,marks:=[]}
theorem H120:fi120.marks=[]∧fi120.locals=[]∧fi120.results=[.tmp 4,.tmp 5]:=⟨rfl,rfl,rfl⟩
theorem fi105_eq:gS.fn 120=some fi120:=by kernel_rfl
theorem st120 (a0 a1:V):startFr fi120 [a0,a1]={ps:=[(0,.val a0),(1,.val a1),(4,.any),(5,.any)],ts:=[],lc:=[]}:=rfl
def b120:Code:=mini (codeOf Try.f120)
def c120_6:Code:=.seq (codeN b120 37) .ret
def c120_5:Code:=.cond (.tmp 11) c120_6 .skip
def c120_3:Code:=.seq (codeN b120 9) c120_5
def c120_10:Code:=.seq (codeN b120 11) .ret
def c120_2:Code:=.seq c120_3 c120_10
def c120_0:Code:=.seq (codeN b120 2) c120_2
theorem E120:(evK gS fi120 c120_6 fr st k=opsR gS fi120 [qI 4 0 3,
 qA 5 false 4] fr st (.seq .ret k)) ∧
 evK gS fi120 c120_5 fr st k=condK gS fi120 (fr.op (.tmp 11)).bool? c120_6 .skip fr st k ∧
 (evK gS fi120 c120_3 fr st k=opsR gS fi120 [mv 6 0 86,
 cal 7 136 [(.tmp 6)] [86] 4,
 mv 8 7 4,
 qm 9 1 86 2 false,
 mk (some 10) (.call {callee:=(.value (.func 136)),args:=#[(.tmp 9)],argTypes:=#[86]}) 4 (some (2,false)),
 qQ 11 8 true 10 4] fr st (.seq c120_5 k)) ∧
 (evK gS fi120 c120_10 fr st k=opsR gS fi120 [mv 12 0 86,
 mv 13 1 86,
 bop 14 .lss 86 12 13 86 4,
 mv 15 0 86,
 mv 16 1 86,
 bop 17 .gtr 86 15 16 86 4,
 cal 18 137 [(.tmp 14),(.tmp 17)] [4,4] 3,
 asn 4 18 3,
 qA 5 true 4] fr st (.seq .ret k)) ∧
 evK gS fi120 c120_2 fr st k=evK gS fi120 c120_3 fr st (.seq c120_10 k) ∧
 (evK gS fi120 c120_0 fr st k=opsR gS fi120 [qI 4 0 3,
 qA 5 false 4] fr st (.seq c120_2 k)):=⟨evK_rs 2 rfl (by kernel_rfl),rfl,evK_rs 1 rfl (by kernel_rfl),evK_rs 3 rfl (by kernel_rfl),rfl,evK_rs 0 rfl (by kernel_rfl)⟩
theorem m120:mini fi120.body=c120_0:=by kernel_rfl
theorem c120 (a:Nat)(b:Nat)  (st:St):EvF gS 120 [.float .f64 a,.float .f64 b] st=some (.ret (.tuple [.int .i64 (fcmp a b).1,.bool (fcmp a b).2]) none,st):=by
 refine EvF_start fi105_eq (fun x h=>by cases h) m120 ?_
 rw [st120]
 simp (config:={contextual:=true,maxSteps:=10000000,maxDischargeDepth:=6}) [-zil,-zit,-znl,-znt,ty3,ty4,ty86,H120,k136,k137,E120]
 all_goals try simp (config:={contextual:=true}) [-zil,-zit,-znl,-znt,fcmp]
 all_goals first | done | grind | omega
theorem k120 (a:Nat)(b:Nat)  (fr:Fr) (st:St):callStep gS (EvF gS) 120 [.float .f64 a,.float .f64 b] fr st=some (.ok (retE none (.tuple [.int .i64 (fcmp a b).1,.bool (fcmp a b).2])) fr st) :=
 call_pure rfl fi105_eq rfl (fun st=>c120 a b  st) (by simp)
def fi138:FI:={body:=codeOf Try.f138,ntmps:=7,results:=[.tmp 2],pers:=[0,2],locals:=[],pure:=true,marks:=[]}
theorem H138:fi138.marks=[]∧fi138.locals=[]∧fi138.results=[.tmp 2]:=⟨rfl,rfl,rfl⟩
theorem fi118_eq:gS.fn 138=some fi138:=by kernel_rfl
theorem st138 (a0:V):startFr fi138 [a0]={ps:=[(0,.val a0),(2,.any)],ts:=[],lc:=[]}:=rfl
def b138:Code:=mini (codeOf Try.f138)
def c138_4:Code:=.seq (codeN b138 17) .ret
def c138_8:Code:=.seq (codeN b138 11) .ret
def c138_2:Code:=.seq (.cond (.const (.bool true)) c138_4 .skip) c138_8
def c138_0:Code:=.seq (codeN b138 2) c138_2
theorem E138:(evK gS fi138 c138_4 fr st k=opsR gS fi138 [mv 3 0 86,
 cal 4 140 [(.tmp 3)] [86] 86,
 asn 2 4 86] fr st (.seq .ret k)) ∧
 (evK gS fi138 c138_8 fr st k=opsR gS fi138 [mv 5 0 86,
 cal 6 141 [(.tmp 5)] [86] 86,
 asn 2 6 86] fr st (.seq .ret k)) ∧
 evK gS fi138 c138_2 fr st k=condK gS fi138 (fr.op (.const (.bool true))).bool? c138_4 .skip fr st (.seq c138_8 k) ∧
 evK gS fi138 c138_0 fr st k=opsR gS fi138 [op1 2 (.assign (.const (.float .f64 0))) 86] fr st (.seq c138_2 k):=⟨evK_rs 1 rfl (by kernel_rfl),evK_rs 2 rfl (by kernel_rfl),rfl,evK_rs 0 rfl (by kernel_rfl)⟩
theorem m138:mini fi138.body=c138_0:=by kernel_rfl
theorem c138 (x:Nat)(h:truncV x=some (ftr x))(st:St):EvF gS 138 [.float .f64 x] st=some (.ret (.float .f64 (ftr x)) none,st):=by
 refine EvF_start fi118_eq (fun x h=>by cases h) m138 ?_
 rw [st138]
 simp (config:={contextual:=true,maxSteps:=10000000,maxDischargeDepth:=6}) [-zil,-zit,-znl,-znt,ty86,H138,E138,k140 x (ftr x) h]
 all_goals first | done | grind | omega
theorem k138 (x:Nat)(h:truncV x=some (ftr x))(fr:Fr)(st:St):callStep gS (EvF gS) 138 [.float .f64 x] fr st=some (.ok (.val (.float .f64 (ftr x))) fr st) :=
 call_pure rfl fi118_eq rfl (fun st=>c138 x h st) (by simp)
def fi121:FI:={body:=codeOf Try.f121,ntmps:=38,results:=[.tmp 4,.tmp 5],pers:=[0,1,4,5,6,7],locals:=[],pure:=true,marks:=[]}
theorem H121:fi121.marks=[]∧fi121.locals=[]∧fi121.results=[.tmp 4,.tmp 5]:=⟨rfl,rfl,rfl⟩
theorem fi106_eq:gS.fn 121=some fi121:=by kernel_rfl
theorem st121 (a0 a1:V):startFr fi121 [a0,a1]={ps:=[(0,.val a0),(1,.val a1),(4,.any),(5,.any),(6,.any),(7,.any)],ts:=[],lc:=[]}:=rfl
def b121:Code:=mini (codeOf Try.f121)
def c121_7:Code:=.seq (codeN b121 73) .ret
def c121_13:Code:=.seq (codeN b121 313) .ret
def c121_19:Code:=.seq (codeN b121 1273) .ret
def c121_18:Code:=.cond (.tmp 14) c121_19 .skip
def c121_16:Code:=.seq (codeN b121 377) c121_18
def c121_12:Code:=.cond (.tmp 11) c121_13 c121_16
def c121_10:Code:=.seq (codeN b121 89) c121_12
def c121_6:Code:=.cond (.tmp 8) c121_7 c121_10
def c121_4:Code:=.seq (codeN b121 17) c121_6
def c121_31:Code:=.seq (codeN b121 311) .ret
def c121_30:Code:=.cond (.tmp 23) c121_31 .skip
def c121_28:Code:=.seq (codeN b121 87) c121_30
def c121_26:Code:=.seq (codeN b121 39) c121_28
def c121_35:Code:=.seq (codeN b121 47) .ret
def c121_25:Code:=.seq c121_26 c121_35
def c121_23:Code:=.seq (codeN b121 11) c121_25
def c121_2:Code:=.seq (.block 0 c121_4) c121_23
def c121_0:Code:=.seq (codeN b121 2) c121_2
theorem E121:(evK gS fi121 c121_7 fr st k=opsR gS fi121 [qI 4 0 3,
 qA 5 false 4] fr st (.seq .ret k)) ∧
 (evK gS fi121 c121_13 fr st k=opsR gS fi121 [qI 4 (-1) 3,
 qA 5 true 4] fr st (.seq .ret k)) ∧
 (evK gS fi121 c121_19 fr st k=opsR gS fi121 [qI 4 1 3,
 qA 5 true 4] fr st (.seq .ret k)) ∧
 evK gS fi121 c121_18 fr st k=condK gS fi121 (fr.op (.tmp 14)).bool? c121_19 .skip fr st k ∧
 (evK gS fi121 c121_16 fr st k=opsR gS fi121 [mv 15 1 86,
 op1 16 (.binOp .lss 86 (.tmp 15) (.const (.float .f64 14114281232179134464)) 86) 4,
 asn 14 16 4] fr st (.seq c121_18 k)) ∧
 evK gS fi121 c121_12 fr st k=condK gS fi121 (fr.op (.tmp 11)).bool? c121_13 c121_16 fr st k ∧
 (evK gS fi121 c121_10 fr st k=opsR gS fi121 [mv 12 1 86,
 op1 13 (.binOp .geq 86 (.tmp 12) (.const (.float .f64 4890909195324358656)) 86) 4,
 asn 11 13 4] fr st (.seq c121_12 k)) ∧
 evK gS fi121 c121_6 fr st k=condK gS fi121 (fr.op (.tmp 8)).bool? c121_7 c121_10 fr st k ∧
 (evK gS fi121 c121_4 fr st k=opsR gS fi121 [mv 9 1 86,
 cal 10 136 [(.tmp 9)] [86] 4,
 asn 8 10 4] fr st (.seq c121_6 k)) ∧
 (evK gS fi121 c121_31 fr st k=opsR gS fi121 [mv 24 0 2,
 mv 25 7 2,
 bop 26 .lss 2 24 25 2 4,
 mv 27 0 2,
 mv 28 7 2,
 bop 29 .gtr 2 27 28 2 4,
 cal 30 137 [(.tmp 26),(.tmp 29)] [4,4] 3,
 asn 4 30 3,
 qA 5 true 4] fr st (.seq .ret k)) ∧
 evK gS fi121 c121_30 fr st k=condK gS fi121 (fr.op (.tmp 23)).bool? c121_31 .skip fr st k ∧
 (evK gS fi121 c121_28 fr st k=opsR gS fi121 [mv 21 7 2,
 mv 22 0 2,
 bop 23 .neq 2 21 22 2 4] fr st (.seq c121_30 k)) ∧
 (evK gS fi121 c121_26 fr st k=opsR gS fi121 [mv 19 6 86,
 op1 20 (.convert 86 2 (.tmp 19)) 2,
 asn 7 20 2] fr st (.seq c121_28 k)) ∧
 (evK gS fi121 c121_35 fr st k=opsR gS fi121 [mv 31 6 86,
 mv 32 1 86,
 bop 33 .lss 86 31 32 86 4,
 mv 34 6 86,
 mv 35 1 86,
 bop 36 .gtr 86 34 35 86 4,
 cal 37 137 [(.tmp 33),(.tmp 36)] [4,4] 3,
 asn 4 37 3,
 qA 5 true 4] fr st (.seq .ret k)) ∧
 evK gS fi121 c121_25 fr st k=evK gS fi121 c121_26 fr st (.seq c121_35 k) ∧
 (evK gS fi121 c121_23 fr st k=opsR gS fi121 [mv 17 1 86,
 cal 18 138 [(.tmp 17)] [86] 86,
 asn 6 18 86] fr st (.seq c121_25 k)) ∧
 evK gS fi121 c121_2 fr st k=evK gS fi121 c121_4 fr st (.blk 0 (.seq c121_23 k)) ∧
 (evK gS fi121 c121_0 fr st k=opsR gS fi121 [qI 4 0 3,
 qA 5 false 4] fr st (.seq c121_2 k)):=⟨evK_rs 2 rfl (by kernel_rfl),evK_rs 4 rfl (by kernel_rfl),evK_rs 6 rfl (by kernel_rfl),rfl,evK_rs 5 rfl (by kernel_rfl),rfl,evK_rs 3 rfl (by kernel_rfl),rfl,evK_rs 1 rfl (by kernel_rfl),evK_rs 10 rfl (by kernel_rfl),rfl,evK_rs 9 rfl (by kernel_rfl),evK_rs 8 rfl (by kernel_rfl),evK_rs 11 rfl (by kernel_rfl),rfl,evK_rs 7 rfl (by kernel_rfl),rfl,evK_rs 0 rfl (by kernel_rfl)⟩
theorem m121:mini fi121.body=c121_0:=by kernel_rfl
theorem c121 (n:Int)(x:Nat)  (st:St):EvF gS 121 [.int .i64 n,.float .f64 x] st=some (.ret (.tuple [.int .i64 (icmp n x).1,.bool (icmp n x).2]) none,st):=by
 refine EvF_start fi106_eq (fun x h=>by cases h) m121 ?_
 rw [st121]
 by_cases h1:feq x x=true
 ·by_cases h2:fge x 4890909195324358656=true
  ·simp (config:={contextual:=true,maxSteps:=10000000}) [icmp,sgn,h1,h2,-zil,-zit,-znl,-znt,ty2,ty3,ty4,ty86,H121,k136,k137,E121]
  ·by_cases h3:flt x 14114281232179134464=true
   ·simp (config:={contextual:=true,maxSteps:=10000000}) [icmp,sgn,h1,h2,h3,-zil,-zit,-znl,-znt,ty2,ty3,ty4,ty86,H121,k136,k137,E121]
   ·obtain ⟨e1,e2,e3,e4⟩:=conv_ok x h1 h2 h3
    have e5:IntKind.min .i64≤ftz x:=e3
    have e6:ftz x≤IntKind.max .i64:=e4
    by_cases h4:ftz x=n
    ·subst h4
     simp (config:={contextual:=true,maxSteps:=10000000}) [icmp,h1,h2,h3,k138 x e1,e2,e3,e4,e5,e6,-zil,-zit,-znl,-znt,ty2,ty3,ty4,ty86,H121,k136,k137,E121]
     skip
    ·skip
     have h5:¬ n=ftz x:=fun h=>h4 h.symm
     simp (config:={contextual:=true,maxSteps:=10000000}) [icmp,h1,h2,h3,h4,h5,k138 x e1,e2,e3,e4,e5,e6,-zil,-zit,-znl,-znt,ty2,ty3,ty4,ty86,H121,k136,k137,E121]
     skip
 ·simp (config:={contextual:=true,maxSteps:=10000000}) [icmp,sgn,h1,-zil,-zit,-znl,-znt,ty2,ty3,ty4,ty86,H121,k136,k137,E121]
theorem k121 (n:Int)(x:Nat)  (fr:Fr) (st:St):callStep gS (EvF gS) 121 [.int .i64 n,.float .f64 x] fr st=some (.ok (retE none (.tuple [.int .i64 (icmp n x).1,.bool (icmp n x).2])) fr st) :=
 call_pure rfl fi106_eq rfl (fun st=>c121 n x  st) (by simp)
def fi139:FI:={body:=codeOf Try.f139,ntmps:=9,results:=[.tmp 2],pers:=[0,2],locals:=[],pure:=true,marks:=[]}
theorem H139:fi139.marks=[]∧fi139.locals=[]∧fi139.results=[.tmp 2]:=⟨rfl,rfl,rfl⟩
theorem fi119_eq:gS.fn 139=some fi139:=by kernel_rfl
theorem st139 (a0:V):startFr fi139 [a0]={ps:=[(0,.val a0),(2,.any)],ts:=[],lc:=[]}:=rfl
def b139:Code:=mini (codeOf Try.f139)
def c139_6:Code:=.seq (codeN b139 37) .ret
def c139_5:Code:=.cond (.tmp 4) c139_6 .skip
def c139_3:Code:=.seq (codeN b139 9) c139_5
def c139_14:Code:=.seq (codeN b139 75) .ret
def c139_13:Code:=.cond (.tmp 6) c139_14 .skip
def c139_11:Code:=.seq (codeN b139 19) c139_13
def c139_18:Code:=.seq (codeN b139 23) .ret
def c139_10:Code:=.seq c139_11 c139_18
def c139_2:Code:=.seq c139_3 c139_10
def c139_0:Code:=.seq (codeN b139 2) c139_2
theorem E139:evK gS fi139 c139_6 fr st k=opsR gS fi139 [op1 2 (.assign (.const (.int .u64 9221120237041090560))) 128] fr st (.seq .ret k) ∧
 evK gS fi139 c139_5 fr st k=condK gS fi139 (fr.op (.tmp 4)).bool? c139_6 .skip fr st k ∧
 (evK gS fi139 c139_3 fr st k=opsR gS fi139 [mv 3 0 86,
 cal 4 136 [(.tmp 3)] [86] 4] fr st (.seq c139_5 k)) ∧
 evK gS fi139 c139_14 fr st k=opsR gS fi139 [op1 2 (.assign (.const (.int .u64 0))) 128] fr st (.seq .ret k) ∧
 evK gS fi139 c139_13 fr st k=condK gS fi139 (fr.op (.tmp 6)).bool? c139_14 .skip fr st k ∧
 (evK gS fi139 c139_11 fr st k=opsR gS fi139 [mv 5 0 86,
 op1 6 (.binOp .eql 86 (.tmp 5) (.const (.float .f64 0)) 86) 4] fr st (.seq c139_13 k)) ∧
 (evK gS fi139 c139_18 fr st k=opsR gS fi139 [mv 7 0 86,
 cal 8 123 [(.tmp 7)] [86] 128,
 asn 2 8 128] fr st (.seq .ret k)) ∧
 evK gS fi139 c139_10 fr st k=evK gS fi139 c139_11 fr st (.seq c139_18 k) ∧
 evK gS fi139 c139_2 fr st k=evK gS fi139 c139_3 fr st (.seq c139_10 k) ∧
 evK gS fi139 c139_0 fr st k=opsR gS fi139 [op1 2 (.assign (.const (.int .u64 0))) 128] fr st (.seq c139_2 k):=⟨evK_rs 2 rfl (by kernel_rfl),rfl,evK_rs 1 rfl (by kernel_rfl),evK_rs 4 rfl (by kernel_rfl),rfl,evK_rs 3 rfl (by kernel_rfl),evK_rs 5 rfl (by kernel_rfl),rfl,rfl,evK_rs 0 rfl (by kernel_rfl)⟩
theorem m139:mini fi139.body=c139_0:=by kernel_rfl
theorem c139 (x:Nat)  (st:St):EvF gS 139 [.float .f64 x] st=some (.ret (.int .u64 (fbits x)) none,st):=by
 refine EvF_start fi119_eq (fun x h=>by cases h) m139 ?_
 rw [st139]
 simp (config:={contextual:=true,maxSteps:=10000000,maxDischargeDepth:=6}) [-zil,-zit,-znl,-znt,ty4,ty86,ty128,H139,k123,k136,E139]
 all_goals try simp (config:={contextual:=true}) [-zil,-zit,-znl,-znt,fbits]
 all_goals first | done | grind | omega
theorem k139 (x:Nat)  (fr:Fr) (st:St):callStep gS (EvF gS) 139 [.float .f64 x] fr st=some (.ok (retE none (.int .u64 (fbits x))) fr st) :=
 call_pure rfl fi119_eq rfl (fun st=>c139 x  st) (by simp)
def fi122:FI:={body:=codeOf Try.f122,ntmps:=10,results:=[.tmp 4],pers:=[0,1,4],locals:=[],pure:=true,marks:=[]}
theorem H122:fi122.marks=[]∧fi122.locals=[]∧fi122.results=[.tmp 4]:=⟨rfl,rfl,rfl⟩
theorem fi109_eq:gS.fn 122=some fi122:=by kernel_rfl
theorem st122 (a0 a1:V):startFr fi122 [a0,a1]={ps:=[(0,.val a0),(1,.val a1),(4,.any)],ts:=[],lc:=[]}:=rfl
def b122:Code:=mini (codeOf Try.f122)
def c122_2:Code:=.seq (codeN b122 5) .ret
theorem e122_2:evK gS fi122 c122_2 fr st k=opsR gS fi122 [mv 5 0 86,
 cal 6 139 [(.tmp 5)] [86] 128,
 mv 7 1 86,
 cal 8 139 [(.tmp 7)] [86] 128,
 bop 9 .eql 128 6 8 128 4,
 asn 4 9 4] fr st (.seq .ret k):=evK_rs 1 rfl (by kernel_rfl)
def c122_0:Code:=.seq (codeN b122 2) c122_2
theorem e122_0:evK gS fi122 c122_0 fr st k=opsR gS fi122 [qA 4 false 4] fr st (.seq c122_2 k):=evK_rs 0 rfl (by kernel_rfl)
theorem m122:mini fi122.body=c122_0:=by kernel_rfl
theorem c122 (a:Nat)(b:Nat)  (st:St):EvF gS 122 [.float .f64 a,.float .f64 b] st=some (.ret (.bool (fbits a=fbits b)) none,st):=by
 refine EvF_start fi109_eq (fun x h=>by cases h) m122 ?_
 rw [st122]
 simp (config:={contextual:=true,maxSteps:=10000000,maxDischargeDepth:=6}) [-zil,-zit,-znl,-znt,ty4,ty86,ty128,H122,k139,e122_2,e122_0]
 all_goals first | done | grind | omega
theorem k122 (a:Nat)(b:Nat)  (fr:Fr) (st:St):callStep gS (EvF gS) 122 [.float .f64 a,.float .f64 b] fr st=some (.ok (retE none (.bool (fbits a=fbits b))) fr st) :=
 call_pure rfl fi109_eq rfl (fun st=>c122 a b  st) (by simp)
def fi119:FI:={body:=codeOf Try.f119,ntmps:=7,results:=[.tmp 4],pers:=[0,1,4],locals:=[],pure:=true,marks:=[]}
theorem H119:fi119.marks=[]∧fi119.locals=[]∧fi119.results=[.tmp 4]:=⟨rfl,rfl,rfl⟩
theorem fi104_eq:gS.fn 119=some fi119:=by kernel_rfl
theorem st119 (a0 a1:V):startFr fi119 [a0,a1]={ps:=[(0,.val a0),(1,.val a1),(4,.any)],ts:=[],lc:=[]}:=rfl
def b119:Code:=mini (codeOf Try.f119)
def c119_6:Code:=.seq (codeN b119 37) .ret
def c119_5:Code:=.cond (.tmp 5) c119_6 .skip
def c119_3:Code:=.seq (codeN b119 9) c119_5
def c119_14:Code:=.seq (codeN b119 75) .ret
def c119_13:Code:=.cond (.tmp 6) c119_14 .skip
def c119_11:Code:=.seq (codeN b119 19) c119_13
def c119_18:Code:=.seq (codeN b119 23) .ret
def c119_10:Code:=.seq c119_11 c119_18
def c119_2:Code:=.seq c119_3 c119_10
def c119_0:Code:=.seq (codeN b119 2) c119_2
theorem E119:evK gS fi119 c119_6 fr st k=opsR gS fi119 [qI 4 (-1) 3] fr st (.seq .ret k) ∧
 evK gS fi119 c119_5 fr st k=condK gS fi119 (fr.op (.tmp 5)).bool? c119_6 .skip fr st k ∧
 evK gS fi119 c119_3 fr st k=opsR gS fi119 [mv 5 0 4] fr st (.seq c119_5 k) ∧
 evK gS fi119 c119_14 fr st k=opsR gS fi119 [qI 4 1 3] fr st (.seq .ret k) ∧
 evK gS fi119 c119_13 fr st k=condK gS fi119 (fr.op (.tmp 6)).bool? c119_14 .skip fr st k ∧
 evK gS fi119 c119_11 fr st k=opsR gS fi119 [mv 6 1 4] fr st (.seq c119_13 k) ∧
 evK gS fi119 c119_18 fr st k=opsR gS fi119 [qI 4 0 3] fr st (.seq .ret k) ∧
 evK gS fi119 c119_10 fr st k=evK gS fi119 c119_11 fr st (.seq c119_18 k) ∧
 evK gS fi119 c119_2 fr st k=evK gS fi119 c119_3 fr st (.seq c119_10 k) ∧
 evK gS fi119 c119_0 fr st k=opsR gS fi119 [qI 4 0 3] fr st (.seq c119_2 k):=⟨evK_rs 2 rfl (by kernel_rfl),rfl,evK_rs 1 rfl (by kernel_rfl),evK_rs 4 rfl (by kernel_rfl),rfl,evK_rs 3 rfl (by kernel_rfl),evK_rs 5 rfl (by kernel_rfl),rfl,rfl,evK_rs 0 rfl (by kernel_rfl)⟩
theorem m119:mini fi119.body=c119_0:=by kernel_rfl
theorem c119 (b:Bool)(a:Bool)  (st:St):EvF gS 119 [.bool b,.bool a] st=some (.ret (.int .i64 (sgn b a)) none,st):=by
 refine EvF_start fi104_eq (fun x h=>by cases h) m119 ?_
 rw [st119]
 simp (config:={contextual:=true,maxSteps:=10000000,maxDischargeDepth:=6}) [-zil,-zit,-znl,-znt,ty3,ty4,H119,E119]
 all_goals try simp (config:={contextual:=true}) [-zil,-zit,-znl,-znt,sgn]
 all_goals first | done | grind | omega
theorem k119 (b:Bool)(a:Bool)  (fr:Fr) (st:St):callStep gS (EvF gS) 119 [.bool b,.bool a] fr st=some (.ok (retE none (.int .i64 (sgn b a))) fr st) :=
 call_pure rfl fi104_eq rfl (fun st=>c119 b a  st) (by simp)
end
end Go.Proofs.Ytdoobejjedpcgaa
namespace Go.Proofs.Ytdoobejjedpcgaa
open Go Go.Ab
noncomputable section
variable (fr:Fr)(st:St)(k:Kt)
def fi98:FI:={body:=codeOf Try.f98,ntmps:=124,results:=[.tmp 4,.tmp 5],pers:=[0,1,2,3,4,5,6,7],locals:=[2,3],pure:=true,marks:=[]}
theorem H98:fi98.marks=[]∧fi98.locals=[2,3]∧fi98.results=[.tmp 4,.tmp 5]:=⟨rfl,rfl,rfl⟩
theorem fi75_eq:gS.fn 98=some fi98:=by kernel_rfl
theorem st98 (a0 a1:V):startFr fi98 [a0,a1]={ps:=[(0,.val a0),(1,.val a1),(2,.any),(3,.any),(4,.any),(5,.any),(6,.any),(7,.any)],ts:=[],lc:=[]}:=rfl
def b98:Code:=mini (codeOf Try.f98)
def c98_7:Code:=.seq (codeN b98 73) .ret
def c98_13:Code:=.seq (codeN b98 313) .ret
def c98_19:Code:=.seq (codeN b98 1273) .ret
def c98_27:Code:=.seq (codeN b98 11257) .ret
def c98_25:Code:=.seq (codeN b98 5113) c98_27
def c98_33:Code:=.seq (codeN b98 20473) .ret
def c98_39:Code:=.seq (codeN b98 81913) .ret
def c98_38:Code:=.cond (.tmp 100) c98_39 .skip
def c98_36:Code:=.seq (codeN b98 24569) c98_38
def c98_32:Code:=.cond (.tmp 80) c98_33 c98_36
def c98_30:Code:=.seq (codeN b98 6137) c98_32
def c98_24:Code:=.cond (.tmp 60) c98_25 c98_30
def c98_22:Code:=.seq (codeN b98 1529) c98_24
def c98_18:Code:=.cond (.tmp 44) c98_19 c98_22
def c98_16:Code:=.seq (codeN b98 377) c98_18
def c98_12:Code:=.cond (.tmp 28) c98_13 c98_16
def c98_10:Code:=.seq (codeN b98 89) c98_12
def c98_6:Code:=.cond (.tmp 8) c98_7 c98_10
def c98_4:Code:=.seq (codeN b98 17) c98_6
def c98_43:Code:=.seq (codeN b98 11) .ret
def c98_2:Code:=.seq (.block 0 c98_4) c98_43
def c98_0:Code:=.seq (codeN b98 2) c98_2
theorem E98:(evK gS fi98 c98_7 fr st k=opsR gS fi98 [qF 17 88 2 1 0,
 ld 18 2 17 2,
 qF 19 88 3 1 0,
 ld 20 2 19 2,
 bop 21 .lss 2 18 20 2 4,
 qF 22 88 2 1 0,
 ld 23 2 22 2,
 qF 24 88 3 1 0,
 ld 25 2 24 2,
 bop 26 .gtr 2 23 25 2 4,
 cal 27 119 [(.tmp 21),(.tmp 26)] [4,4] 3,
 asn 4 27 3,
 qA 5 true 4] fr st (.seq .ret k)) ∧
 (evK gS fi98 c98_13 fr st k=opsR gS fi98 [qF 37 88 2 2 0,
 ld 38 86 37 86,
 qF 39 88 3 2 0,
 ld 40 86 39 86,
 cal 41 120 [(.tmp 38),(.tmp 40)] [86,86] 125,
 op1 42 (.extract (.tmp 41) 0) 3,
 op1 43 (.extract (.tmp 41) 1) 4,
 asn 4 42 3,
 asn 5 43 4] fr st (.seq .ret k)) ∧
 (evK gS fi98 c98_19 fr st k=opsR gS fi98 [qF 53 88 2 1 0,
 ld 54 2 53 2,
 qF 55 88 3 2 0,
 ld 56 86 55 86,
 cal 57 121 [(.tmp 54),(.tmp 56)] [2,86] 125,
 op1 58 (.extract (.tmp 57) 0) 3,
 op1 59 (.extract (.tmp 57) 1) 4,
 asn 4 58 3,
 asn 5 59 4] fr st (.seq .ret k)) ∧
 (evK gS fi98 c98_27 fr st k=opsR gS fi98 [mv 77 6 3,
 op1 78 (.unOp .neg 3 (.tmp 77)) 3,
 mv 79 7 4,
 asn 4 78 3,
 asn 5 79 4] fr st (.seq .ret k)) ∧
 (evK gS fi98 c98_25 fr st k=opsR gS fi98 [qF 70 88 3 1 0,
 ld 71 2 70 2,
 qF 72 88 2 2 0,
 ld 73 86 72 86,
 cal 74 121 [(.tmp 71),(.tmp 73)] [2,86] 125,
 mv 69 74 125,
 op1 75 (.extract (.tmp 69) 0) 3,
 op1 76 (.extract (.tmp 69) 1) 4,
 asn 6 75 3,
 asn 7 76 4] fr st (.seq c98_27 k)) ∧
 (evK gS fi98 c98_33 fr st k=opsR gS fi98 [qF 89 88 2 3 0,
 ld 90 9 89 9,
 qF 91 88 3 3 0,
 ld 92 9 91 9,
 bop 93 .lss 9 90 92 9 4,
 qF 94 88 2 3 0,
 ld 95 9 94 9,
 qF 96 88 3 3 0,
 ld 97 9 96 9,
 bop 98 .gtr 9 95 97 9 4,
 cal 99 119 [(.tmp 93),(.tmp 98)] [4,4] 3,
 asn 4 99 3,
 qA 5 true 4] fr st (.seq .ret k)) ∧
 (evK gS fi98 c98_39 fr st k=opsR gS fi98 [qF 109 88 2 4 0,
 ld 110 4 109 4,
 op1 111 (.unOp .not 4 (.tmp 110)) 4,
 mv 112 111 4,
 qf 113 88 3 4 0 3 true,
 ql 114 4 113 4 3 true,
 qP 115 112 114 false 4,
 qF 116 88 2 4 0,
 ld 117 4 116 4,
 mv 118 117 4,
 qf 119 88 3 4 0 9 true,
 ql 120 4 119 4 9 true,
 mk (some 121) (.unOp .not 4 (.tmp 120)) 4 (some (9,true)),
 qP 122 118 121 false 4,
 cal 123 119 [(.tmp 115),(.tmp 122)] [4,4] 3,
 asn 4 123 3,
 qA 5 true 4] fr st (.seq .ret k)) ∧
 evK gS fi98 c98_38 fr st k=condK gS fi98 (fr.op (.tmp 100)).bool? c98_39 .skip fr st k ∧
 (evK gS fi98 c98_36 fr st k=opsR gS fi98 [qF 101 88 2 0 0,
 ld 102 3 101 3,
 qB 103 .eql 3 102 4 3 4,
 mv 104 103 4,
 qf 105 88 3 0 0 3 true,
 ql 106 3 105 3 3 true,
 qc 107 .eql 3 106 4 3 4 3 true,
 qP 108 104 107 false 4,
 asn 100 108 4] fr st (.seq c98_38 k)) ∧
 evK gS fi98 c98_32 fr st k=condK gS fi98 (fr.op (.tmp 80)).bool? c98_33 c98_36 fr st k ∧
 (evK gS fi98 c98_30 fr st k=opsR gS fi98 [qF 81 88 2 0 0,
 ld 82 3 81 3,
 qB 83 .eql 3 82 3 3 4,
 mv 84 83 4,
 qf 85 88 3 0 0 3 true,
 ql 86 3 85 3 3 true,
 qc 87 .eql 3 86 3 3 4 3 true,
 qP 88 84 87 false 4,
 asn 80 88 4] fr st (.seq c98_32 k)) ∧
 evK gS fi98 c98_24 fr st k=condK gS fi98 (fr.op (.tmp 60)).bool? c98_25 c98_30 fr st k ∧
 (evK gS fi98 c98_22 fr st k=opsR gS fi98 [qF 61 88 2 0 0,
 ld 62 3 61 3,
 qB 63 .eql 3 62 2 3 4,
 mv 64 63 4,
 qf 65 88 3 0 0 3 true,
 ql 66 3 65 3 3 true,
 qc 67 .eql 3 66 1 3 4 3 true,
 qP 68 64 67 false 4,
 asn 60 68 4] fr st (.seq c98_24 k)) ∧
 evK gS fi98 c98_18 fr st k=condK gS fi98 (fr.op (.tmp 44)).bool? c98_19 c98_22 fr st k ∧
 (evK gS fi98 c98_16 fr st k=opsR gS fi98 [qF 45 88 2 0 0,
 ld 46 3 45 3,
 qB 47 .eql 3 46 1 3 4,
 mv 48 47 4,
 qf 49 88 3 0 0 3 true,
 ql 50 3 49 3 3 true,
 qc 51 .eql 3 50 2 3 4 3 true,
 qP 52 48 51 false 4,
 asn 44 52 4] fr st (.seq c98_18 k)) ∧
 evK gS fi98 c98_12 fr st k=condK gS fi98 (fr.op (.tmp 28)).bool? c98_13 c98_16 fr st k ∧
 (evK gS fi98 c98_10 fr st k=opsR gS fi98 [qF 29 88 2 0 0,
 ld 30 3 29 3,
 qB 31 .eql 3 30 2 3 4,
 mv 32 31 4,
 qf 33 88 3 0 0 3 true,
 ql 34 3 33 3 3 true,
 qc 35 .eql 3 34 2 3 4 3 true,
 qP 36 32 35 false 4,
 asn 28 36 4] fr st (.seq c98_12 k)) ∧
 evK gS fi98 c98_6 fr st k=condK gS fi98 (fr.op (.tmp 8)).bool? c98_7 c98_10 fr st k ∧
 (evK gS fi98 c98_4 fr st k=opsR gS fi98 [qF 9 88 2 0 0,
 ld 10 3 9 3,
 qB 11 .eql 3 10 1 3 4,
 mv 12 11 4,
 qf 13 88 3 0 0 3 true,
 ql 14 3 13 3 3 true,
 qc 15 .eql 3 14 1 3 4 3 true,
 qP 16 12 15 false 4,
 asn 8 16 4] fr st (.seq c98_6 k)) ∧
 (evK gS fi98 c98_43 fr st k=opsR gS fi98 [qI 4 0 3,
 qA 5 false 4] fr st (.seq .ret k)) ∧
 evK gS fi98 c98_2 fr st k=evK gS fi98 c98_4 fr st (.blk 0 (.seq c98_43 k)) ∧
 (evK gS fi98 c98_0 fr st k=opsR gS fi98 [op1 2 (.box 88 (.tmp 0)) 0,
 op1 3 (.box 88 (.tmp 1)) 0,
 qI 4 0 3,
 qA 5 false 4] fr st (.seq c98_2 k)):=⟨evK_rs 2 rfl (by kernel_rfl),evK_rs 4 rfl (by kernel_rfl),evK_rs 6 rfl (by kernel_rfl),evK_rs 9 rfl (by kernel_rfl),evK_rs 8 rfl (by kernel_rfl),evK_rs 11 rfl (by kernel_rfl),evK_rs 13 rfl (by kernel_rfl),rfl,evK_rs 12 rfl (by kernel_rfl),rfl,evK_rs 10 rfl (by kernel_rfl),rfl,evK_rs 7 rfl (by kernel_rfl),rfl,evK_rs 5 rfl (by kernel_rfl),rfl,evK_rs 3 rfl (by kernel_rfl),rfl,evK_rs 1 rfl (by kernel_rfl),evK_rs 14 rfl (by kernel_rfl),rfl,evK_rs 0 rfl (by kernel_rfl)⟩
theorem m98:mini fi98.body=c98_0:=by kernel_rfl
theorem c98 (a:Val)(b:Val)  (st:St):EvF gS 98 [a.enc,b.enc] st=some (.ret (.tuple [.int .i64 (cmp a b).1,.bool (cmp a b).2]) none,st):=by
 refine EvF_start fi75_eq (fun x h=>by cases h) m98 ?_
 rw [st98]
 simp (config:={contextual:=true,maxSteps:=10000000,maxDischargeDepth:=6}) [-zil,-zit,-znl,-znt,ty2,ty3,ty4,ty9,ty86,ty88,eq88,H98,k119,k120,k121,E98]
 all_goals try simp (config:={contextual:=true}) [-zil,-zit,-znl,-znt,cmp,scmp]
 all_goals first | done | grind | omega
theorem k98 (a_k:Int)(a_n:Int)(a_x:Nat)(a_s:List UInt8)(a_b:Bool)(b_k:Int)(b_n:Int)(b_x:Nat)(b_s:List UInt8)(b_b:Bool)  (fr:Fr) (st:St):callStep gS (EvF gS) 98 [.agg [.int .i64 a_k,.int .i64 a_n,.float .f64 a_x,.str a_s,.bool a_b],.agg [.int .i64 b_k,.int .i64 b_n,.float .f64 b_x,.str b_s,.bool b_b]] fr st=some (.ok (retE none (.tuple [.int .i64 (cmp (⟨a_k,a_n,a_x,a_s,a_b⟩:Val) (⟨b_k,b_n,b_x,b_s,b_b⟩:Val)).1,.bool (cmp (⟨a_k,a_n,a_x,a_s,a_b⟩:Val) (⟨b_k,b_n,b_x,b_s,b_b⟩:Val)).2])) fr st) :=
 call_pure rfl fi75_eq rfl (fun st=>c98 (⟨a_k,a_n,a_x,a_s,a_b⟩:Val) (⟨b_k,b_n,b_x,b_s,b_b⟩:Val)  st) (by simp)
def fi100:FI:={body:=codeOf Try.f100,ntmps:=18,results:=[.tmp 4],pers:=[0,1,2,3,4,5,6],locals:=[2,3],pure:=true,marks:=[]}
theorem H100:fi100.marks=[]∧fi100.locals=[2,3]∧fi100.results=[.tmp 4]:=⟨rfl,rfl,rfl⟩
theorem fi32_eq:gS.fn 100=some fi100:=by kernel_rfl
theorem st100 (a0 a1:V):startFr fi100 [a0,a1]={ps:=[(0,.val a0),(1,.val a1),(2,.any),(3,.any),(4,.any),(5,.any),(6,.any)],ts:=[],lc:=[]}:=rfl
def b100:Code:=mini (codeOf Try.f100)
def c100_4:Code:=.seq (codeN b100 11) .ret
theorem e100_4:evK gS fi100 c100_4 fr st k=opsR gS fi100 [mv 13 6 4,
 mv 14 13 4,
 qm 15 5 3 1 true,
 qc 16 .eql 3 15 0 3 4 1 true,
 qP 17 14 16 false 4,
 asn 4 17 4] fr st (.seq .ret k):=evK_rs 2 rfl (by kernel_rfl)
def c100_2:Code:=.seq (codeN b100 5) c100_4
theorem e100_2:evK gS fi100 c100_2 fr st k=opsR gS fi100 [ld 8 88 2 88,
 ld 9 88 3 88,
 cal 10 98 [(.tmp 8),(.tmp 9)] [88,88] 125,
 mv 7 10 125,
 op1 11 (.extract (.tmp 7) 0) 3,
 op1 12 (.extract (.tmp 7) 1) 4,
 asn 5 11 3,
 asn 6 12 4] fr st (.seq c100_4 k):=evK_rs 1 rfl (by kernel_rfl)
def c100_0:Code:=.seq (codeN b100 2) c100_2
theorem e100_0:evK gS fi100 c100_0 fr st k=opsR gS fi100 [op1 2 (.box 88 (.tmp 0)) 0,
 op1 3 (.box 88 (.tmp 1)) 0,
 qA 4 false 4] fr st (.seq c100_2 k):=evK_rs 0 rfl (by kernel_rfl)
theorem m100:mini fi100.body=c100_0:=by kernel_rfl
theorem c100 (a:Val)(b:Val)  (st:St):EvF gS 100 [a.enc,b.enc] st=some (.ret (.bool (vis a b)) none,st):=by
 refine EvF_start fi32_eq (fun x h=>by cases h) m100 ?_
 rw [st100]
 simp (config:={contextual:=true,maxSteps:=10000000,maxDischargeDepth:=6}) [-zil,-zit,-znl,-znt,ty3,ty4,ty88,eq88,H100,k98,e100_4,e100_2,e100_0]
 all_goals try simp (config:={contextual:=true}) [-zil,-zit,-znl,-znt,vis]
 all_goals first | done | grind | omega
theorem k100 (a_k:Int)(a_n:Int)(a_x:Nat)(a_s:List UInt8)(a_b:Bool)(b_k:Int)(b_n:Int)(b_x:Nat)(b_s:List UInt8)(b_b:Bool)  (fr:Fr) (st:St):callStep gS (EvF gS) 100 [.agg [.int .i64 a_k,.int .i64 a_n,.float .f64 a_x,.str a_s,.bool a_b],.agg [.int .i64 b_k,.int .i64 b_n,.float .f64 b_x,.str b_s,.bool b_b]] fr st=some (.ok (retE none (.bool (vis (⟨a_k,a_n,a_x,a_s,a_b⟩:Val) (⟨b_k,b_n,b_x,b_s,b_b⟩:Val)))) fr st) :=
 call_pure rfl fi32_eq rfl (fun st=>c100 (⟨a_k,a_n,a_x,a_s,a_b⟩:Val) (⟨b_k,b_n,b_x,b_s,b_b⟩:Val)  st) (by simp)
def fi102:FI:={body:=codeOf Try.f102,ntmps:=38,results:=[.tmp 4],pers:=[0,1,2,3,4],locals:=[2,3],pure:=true,marks:=[]}
theorem H102:fi102.marks=[]∧fi102.locals=[2,3]∧fi102.results=[.tmp 4]:=⟨rfl,rfl,rfl⟩
theorem fi81_eq:gS.fn 102=some fi102:=by kernel_rfl
theorem st102 (a0 a1:V):startFr fi102 [a0,a1]={ps:=[(0,.val a0),(1,.val a1),(2,.any),(3,.any),(4,.any)],ts:=[],lc:=[]}:=rfl
def b102:Code:=mini (codeOf Try.f102)
def c102_2:Code:=.seq (codeN b102 5) .ret
theorem e102_2:evK gS fi102 c102_2 fr st k=opsR gS fi102 [qF 5 88 2 0 0,
 ld 6 3 5 3,
 qF 7 88 3 0 0,
 ld 8 3 7 3,
 bop 9 .eql 3 6 8 3 4,
 mv 10 9 4,
 qf 11 88 2 1 0 5 true,
 ql 12 2 11 2 5 true,
 qf 13 88 3 1 0 5 true,
 ql 14 2 13 2 5 true,
 qb 15 .eql 2 12 14 2 4 5 true,
 qP 16 10 15 false 4,
 mv 17 16 4,
 qf 18 88 2 3 0 12 true,
 ql 19 9 18 9 12 true,
 qf 20 88 3 3 0 12 true,
 ql 21 9 20 9 12 true,
 qb 22 .eql 9 19 21 9 4 12 true,
 qP 23 17 22 false 4,
 mv 24 23 4,
 qf 25 88 2 4 0 19 true,
 ql 26 4 25 4 19 true,
 qf 27 88 3 4 0 19 true,
 ql 28 4 27 4 19 true,
 qb 29 .eql 4 26 28 4 4 19 true,
 qP 30 24 29 false 4,
 mv 31 30 4,
 qf 32 88 2 2 0 26 true,
 ql 33 86 32 86 26 true,
 qf 34 88 3 2 0 26 true,
 ql 35 86 34 86 26 true,
 mk (some 36) (.call {callee:=(.value (.func 122)),args:=#[(.tmp 33),(.tmp 35)],argTypes:=#[86,86]}) 4 (some (26,true)),
 qP 37 31 36 false 4,
 asn 4 37 4] fr st (.seq .ret k):=evK_rs 1 rfl (by kernel_rfl)
def c102_0:Code:=.seq (codeN b102 2) c102_2
theorem e102_0:evK gS fi102 c102_0 fr st k=opsR gS fi102 [op1 2 (.box 88 (.tmp 0)) 0,
 op1 3 (.box 88 (.tmp 1)) 0,
 qA 4 false 4] fr st (.seq c102_2 k):=evK_rs 0 rfl (by kernel_rfl)
theorem m102:mini fi102.body=c102_0:=by kernel_rfl
theorem c102 (a:Val)(b:Val)  (st:St):EvF gS 102 [a.enc,b.enc] st=some (.ret (.bool (vsame a b)) none,st):=by
 refine EvF_start fi81_eq (fun x h=>by cases h) m102 ?_
 rw [st102]
 simp (config:={contextual:=true,maxSteps:=10000000,maxDischargeDepth:=6}) [-zil,-zit,-znl,-znt,ty2,ty3,ty4,ty9,ty86,ty88,eq88,H102,k122,e102_2,e102_0]
 all_goals try simp (config:={contextual:=true}) [-zil,-zit,-znl,-znt,vsame]
 all_goals first | done | grind | omega
theorem k102 (a_k:Int)(a_n:Int)(a_x:Nat)(a_s:List UInt8)(a_b:Bool)(b_k:Int)(b_n:Int)(b_x:Nat)(b_s:List UInt8)(b_b:Bool)  (fr:Fr) (st:St):callStep gS (EvF gS) 102 [.agg [.int .i64 a_k,.int .i64 a_n,.float .f64 a_x,.str a_s,.bool a_b],.agg [.int .i64 b_k,.int .i64 b_n,.float .f64 b_x,.str b_s,.bool b_b]] fr st=some (.ok (retE none (.bool (vsame (⟨a_k,a_n,a_x,a_s,a_b⟩:Val) (⟨b_k,b_n,b_x,b_s,b_b⟩:Val)))) fr st) :=
 call_pure rfl fi81_eq rfl (fun st=>c102 (⟨a_k,a_n,a_x,a_s,a_b⟩:Val) (⟨b_k,b_n,b_x,b_s,b_b⟩:Val)  st) (by simp)
theorem x102:gS.ext 102=none:=rfl
theorem p102:fi102.pure=true:=rfl
def fi117:FI:={body:=codeOf Try.f117,ntmps:=29,results:=[.tmp 2],pers:=[0,1,2,3,7],locals:=[1,3],pure:=true,marks:=[]}
theorem H117:fi117.marks=[]∧fi117.locals=[1,3]∧fi117.results=[.tmp 2]:=⟨rfl,rfl,rfl⟩
theorem fi70_eq:gS.fn 117=some fi117:=by kernel_rfl
theorem st117 (a0:V):startFr fi117 [a0]={ps:=[(0,.val a0),(1,.any),(2,.any),(3,.any),(7,.any)],ts:=[],lc:=[]}:=rfl
def b117:Code:=mini (codeOf Try.f117)
def c117_13:Code:=codeN b117 343
def c117_17:Code:=codeN b117 1495
def c117_21:Code:=codeN b117 6103
def c117_25:Code:=codeN b117 24535
def c117_26:Code:=.seq (codeN b117 49111) .ret
def c117_24:Code:=.cond (.tmp 17) c117_25 c117_26
def c117_22:Code:=.seq (codeN b117 12247) c117_24
def c117_20:Code:=.cond (.tmp 14) c117_21 c117_22
def c117_18:Code:=.seq (codeN b117 3031) c117_20
def c117_16:Code:=.cond (.tmp 11) c117_17 c117_18
def c117_14:Code:=.seq (codeN b117 727) c117_16
def c117_12:Code:=.cond (.tmp 8) c117_13 c117_14
def c117_10:Code:=.seq (codeN b117 151) c117_12
def c117_9:Code:=.block 0 c117_10
def c117_7:Code:=.seq (codeN b117 39) c117_9
def c117_29:Code:=.seq (codeN b117 47) .ret
def c117_6:Code:=.seq c117_7 c117_29
def c117_4:Code:=.seq (codeN b117 11) c117_6
def c117_2:Code:=.seq (codeN b117 5) c117_4
def c117_0:Code:=.seq (codeN b117 2) c117_2
theorem E117:(evK gS fi117 c117_13 fr st k=opsR gS fi117 [qF 10 88 3 1 0,
 mk none (.store 2 (.tmp 10) (.const (.int .i64 0))) 0 none] fr st k) ∧
 (evK gS fi117 c117_17 fr st k=opsR gS fi117 [qF 13 88 3 2 0,
 mk none (.store 86 (.tmp 13) (.const (.float .f64 0))) 0 none] fr st k) ∧
 (evK gS fi117 c117_21 fr st k=opsR gS fi117 [qF 16 88 3 3 0,
 mk none (.store 9 (.tmp 16) (.const (.string {data:=#[]}))) 0 none] fr st k) ∧
 (evK gS fi117 c117_25 fr st k=opsR gS fi117 [qF 19 88 3 4 0,
 mk none (.store 4 (.tmp 19) (.const (.bool false))) 0 none] fr st k) ∧
 evK gS fi117 c117_26 fr st k=opsR gS fi117 [qA 2 false 4] fr st (.seq .ret k) ∧
 evK gS fi117 c117_24 fr st k=condK gS fi117 (fr.op (.tmp 17)).bool? c117_25 c117_26 fr st k ∧
 (evK gS fi117 c117_22 fr st k=opsR gS fi117 [qB 18 .eql 3 7 4 3 4,
 asn 17 18 4] fr st (.seq c117_24 k)) ∧
 evK gS fi117 c117_20 fr st k=condK gS fi117 (fr.op (.tmp 14)).bool? c117_21 c117_22 fr st k ∧
 (evK gS fi117 c117_18 fr st k=opsR gS fi117 [qB 15 .eql 3 7 3 3 4,
 asn 14 15 4] fr st (.seq c117_20 k)) ∧
 evK gS fi117 c117_16 fr st k=condK gS fi117 (fr.op (.tmp 11)).bool? c117_17 c117_18 fr st k ∧
 (evK gS fi117 c117_14 fr st k=opsR gS fi117 [qB 12 .eql 3 7 2 3 4,
 asn 11 12 4] fr st (.seq c117_16 k)) ∧
 evK gS fi117 c117_12 fr st k=condK gS fi117 (fr.op (.tmp 8)).bool? c117_13 c117_14 fr st k ∧
 (evK gS fi117 c117_10 fr st k=opsR gS fi117 [qB 9 .eql 3 7 1 3 4,
 asn 8 9 4] fr st (.seq c117_12 k)) ∧
 evK gS fi117 c117_9 fr st k=evK gS fi117 c117_10 fr st (.blk 0 k) ∧
 (evK gS fi117 c117_7 fr st k=opsR gS fi117 [qF 6 88 1 0 0,
 ld 7 3 6 3] fr st (.seq c117_9 k)) ∧
 (evK gS fi117 c117_29 fr st k=opsR gS fi117 [ld 20 88 3 88,
 op1 21 (.build 88 #[]) 88,
 bop 22 .eql 88 20 21 88 4,
 mv 23 22 4,
 qf 24 88 1 3 0 3 true,
 ql 25 9 24 9 3 true,
 qe 26 25 9 3 3 true,
 qc 27 .leq 3 26 12 3 4 3 true,
 qP 28 23 27 false 4,
 asn 2 28 4] fr st (.seq .ret k)) ∧
 evK gS fi117 c117_6 fr st k=evK gS fi117 c117_7 fr st (.seq c117_29 k) ∧
 (evK gS fi117 c117_4 fr st k=opsR gS fi117 [qF 5 88 3 0 0,
 mk none (.store 3 (.tmp 5) (.const (.int .i64 0))) 0 none] fr st (.seq c117_6 k)) ∧
 (evK gS fi117 c117_2 fr st k=opsR gS fi117 [ld 4 88 1 88,
 op1 3 (.alloc 88) 0,
 sto 88 3 4] fr st (.seq c117_4 k)) ∧
 (evK gS fi117 c117_0 fr st k=opsR gS fi117 [op1 1 (.box 88 (.tmp 0)) 0,
 qA 2 false 4] fr st (.seq c117_2 k)):=⟨evK_r 6 (by kernel_rfl),evK_r 8 (by kernel_rfl),evK_r 10 (by kernel_rfl),evK_r 12 (by kernel_rfl),evK_rs 4 rfl (by kernel_rfl),rfl,evK_rs 11 rfl (by kernel_rfl),rfl,evK_rs 9 rfl (by kernel_rfl),rfl,evK_rs 7 rfl (by kernel_rfl),rfl,evK_rs 5 rfl (by kernel_rfl),rfl,evK_rs 3 rfl (by kernel_rfl),evK_rs 13 rfl (by kernel_rfl),rfl,evK_rs 2 rfl (by kernel_rfl),evK_rs 1 rfl (by kernel_rfl),evK_rs 0 rfl (by kernel_rfl)⟩
theorem m117:mini fi117.body=c117_0:=by kernel_rfl
theorem c117 (v:Val)  (st:St):EvF gS 117 [v.enc] st=some (.ret (.bool (vright v)) none,st):=by
 refine EvF_start fi70_eq (fun x h=>by cases h) m117 ?_
 rw [st117]
 simp (config:={contextual:=true,maxSteps:=10000000,maxDischargeDepth:=6}) [-zil,-zit,-znl,-znt,ty2,ty3,ty4,ty9,ty86,ty88,eq88,H117,E117]
 all_goals try simp (config:={contextual:=true}) [-zil,-zit,-znl,-znt,vright,opq]
 all_goals first | done | grind | omega
theorem k117 (v_k:Int)(v_n:Int)(v_x:Nat)(v_s:List UInt8)(v_b:Bool)  (fr:Fr) (st:St):callStep gS (EvF gS) 117 [.agg [.int .i64 v_k,.int .i64 v_n,.float .f64 v_x,.str v_s,.bool v_b]] fr st=some (.ok (retE none (.bool (vright (⟨v_k,v_n,v_x,v_s,v_b⟩:Val)))) fr st) :=
 call_pure rfl fi70_eq rfl (fun st=>c117 (⟨v_k,v_n,v_x,v_s,v_b⟩:Val)  st) (by simp)
def fi116:FI:={body:=codeOf Try.f116,ntmps:=6,results:=[.tmp 2],pers:=[0,1,2],locals:=[1],pure:=true,marks:=[]}
theorem H116:fi116.marks=[]∧fi116.locals=[1]∧fi116.results=[.tmp 2]:=⟨rfl,rfl,rfl⟩
theorem fi69_eq:gS.fn 116=some fi116:=by kernel_rfl
theorem st116 (a0:V):startFr fi116 [a0]={ps:=[(0,.val a0),(1,.any),(2,.any)],ts:=[],lc:=[]}:=rfl
def b116:Code:=mini (codeOf Try.f116)
def c116_2:Code:=.seq (codeN b116 5) .ret
theorem e116_2:evK gS fi116 c116_2 fr st k=opsR gS fi116 [ld 3 88 1 88,
 op1 4 (.build 88 #[]) 88,
 cal 5 102 [(.tmp 3),(.tmp 4)] [88,88] 4,
 asn 2 5 4] fr st (.seq .ret k):=evK_rs 1 rfl (by kernel_rfl)
def c116_0:Code:=.seq (codeN b116 2) c116_2
theorem e116_0:evK gS fi116 c116_0 fr st k=opsR gS fi116 [op1 1 (.box 88 (.tmp 0)) 0,
 qA 2 false 4] fr st (.seq c116_2 k):=evK_rs 0 rfl (by kernel_rfl)
theorem m116:mini fi116.body=c116_0:=by kernel_rfl
theorem c116 (v:Val)  (st:St):EvF gS 116 [v.enc] st=some (.ret (.bool (vsame v vzero)) none,st):=by
 refine EvF_start fi69_eq (fun x h=>by cases h) m116 ?_
 rw [st116]
 simp (config:={contextual:=true,maxSteps:=10000000,maxDischargeDepth:=6}) [-zil,-zit,-znl,-znt,ty4,ty88,eq88,H116,k102,e116_2,e116_0]
 all_goals try simp (config:={contextual:=true}) [-zil,-zit,-znl,-znt,vzero]
 all_goals first | done | grind | omega
theorem k116 (v_k:Int)(v_n:Int)(v_x:Nat)(v_s:List UInt8)(v_b:Bool)  (fr:Fr) (st:St):callStep gS (EvF gS) 116 [.agg [.int .i64 v_k,.int .i64 v_n,.float .f64 v_x,.str v_s,.bool v_b]] fr st=some (.ok (retE none (.bool (vsame (⟨v_k,v_n,v_x,v_s,v_b⟩:Val) vzero))) fr st) :=
 call_pure rfl fi69_eq rfl (fun st=>c116 (⟨v_k,v_n,v_x,v_s,v_b⟩:Val)  st) (by simp)
def fi132:FI:={body:=codeOf Try.f132,ntmps:=13,results:=[.tmp 2],pers:=[0,1,2],locals:=[1],pure:=true,marks:=[]}
theorem H132:fi132.marks=[]∧fi132.locals=[1]∧fi132.results=[.tmp 2]:=⟨rfl,rfl,rfl⟩
theorem fi80_eq:gS.fn 132=some fi132:=by kernel_rfl
theorem st132 (a0:V):startFr fi132 [a0]={ps:=[(0,.val a0),(1,.any),(2,.any)],ts:=[],lc:=[]}:=rfl
def b132:Code:=mini (codeOf Try.f132)
def c132_2:Code:=.seq (codeN b132 5) .ret
theorem e132_2:evK gS fi132 c132_2 fr st k=opsR gS fi132 [qF 3 88 1 0 0,
 ld 4 3 3 3,
 qB 5 .eql 3 4 2 3 4,
 mv 6 5 4,
 qf 7 88 1 2 0 3 true,
 ql 8 86 7 86 3 true,
 qf 9 88 1 2 0 3 true,
 ql 10 86 9 86 3 true,
 qb 11 .neq 86 8 10 86 4 3 true,
 qP 12 6 11 false 4,
 asn 2 12 4] fr st (.seq .ret k):=evK_rs 1 rfl (by kernel_rfl)
def c132_0:Code:=.seq (codeN b132 2) c132_2
theorem e132_0:evK gS fi132 c132_0 fr st k=opsR gS fi132 [op1 1 (.box 88 (.tmp 0)) 0,
 qA 2 false 4] fr st (.seq c132_2 k):=evK_rs 0 rfl (by kernel_rfl)
theorem m132:mini fi132.body=c132_0:=by kernel_rfl
theorem c132 (v:Val)  (st:St):EvF gS 132 [v.enc] st=some (.ret (.bool (vnan v)) none,st):=by
 refine EvF_start fi80_eq (fun x h=>by cases h) m132 ?_
 rw [st132]
 simp (config:={contextual:=true,maxSteps:=10000000,maxDischargeDepth:=6}) [-zil,-zit,-znl,-znt,ty3,ty4,ty86,ty88,eq88,H132,e132_2,e132_0]
 all_goals try simp (config:={contextual:=true}) [-zil,-zit,-znl,-znt,vnan]
 all_goals first | done | grind | omega
theorem k132 (v_k:Int)(v_n:Int)(v_x:Nat)(v_s:List UInt8)(v_b:Bool)  (fr:Fr) (st:St):callStep gS (EvF gS) 132 [.agg [.int .i64 v_k,.int .i64 v_n,.float .f64 v_x,.str v_s,.bool v_b]] fr st=some (.ok (retE none (.bool (vnan (⟨v_k,v_n,v_x,v_s,v_b⟩:Val)))) fr st) :=
 call_pure rfl fi80_eq rfl (fun st=>c132 (⟨v_k,v_n,v_x,v_s,v_b⟩:Val)  st) (by simp)
def fi99:FI:={body:=codeOf Try.f99,ntmps:=18,results:=[.tmp 4],pers:=[0,1,4],locals:=[],pure:=true,marks:=[]}
theorem H99:fi99.marks=[]∧fi99.locals=[]∧fi99.results=[.tmp 4]:=⟨rfl,rfl,rfl⟩
theorem fi76_eq:gS.fn 99=some fi99:=by kernel_rfl
theorem st99 (a0 a1:V):startFr fi99 [a0,a1]={ps:=[(0,.val a0),(1,.val a1),(4,.any)],ts:=[],lc:=[]}:=rfl
def b99:Code:=mini (codeOf Try.f99)
def c99_2:Code:=.seq (codeN b99 5) .ret
theorem e99_2:evK gS fi99 c99_2 fr st k=opsR gS fi99 [mv 5 0 9,
 len1 6 5 9 3,
 mv 7 1 9,
 len1 8 7 9 3,
 bop 9 .geq 3 6 8 3 4,
 mv 10 9 4,
 qm 11 0 9 5 true,
 qm 12 1 9 5 true,
 qe 13 12 9 3 5 true,
 mk (some 14) (.slice 9 (.tmp 11) none (some (.tmp 13)) none) 9 (some (5,true)),
 qm 15 1 9 5 true,
 qb 16 .eql 9 14 15 9 4 5 true,
 qP 17 10 16 false 4,
 asn 4 17 4] fr st (.seq .ret k):=evK_rs 1 rfl (by kernel_rfl)
def c99_0:Code:=.seq (codeN b99 2) c99_2
theorem e99_0:evK gS fi99 c99_0 fr st k=opsR gS fi99 [qA 4 false 4] fr st (.seq c99_2 k):=evK_rs 0 rfl (by kernel_rfl)
theorem m99:mini fi99.body=c99_0:=by kernel_rfl
theorem c99 (s:List UInt8)(t:List UInt8)  (st:St):EvF gS 99 [.str s,.str t] st=some (.ret (.bool (isPre s t)) none,st):=by
 refine EvF_start fi76_eq (fun x h=>by cases h) m99 ?_
 rw [st99]
 simp (config:={contextual:=true,maxSteps:=10000000,maxDischargeDepth:=6}) [-zil,-zit,-znl,-znt,ty3,ty4,ty9,H99,e99_2,e99_0]
 all_goals try simp (config:={contextual:=true}) [-zil,-zit,-znl,-znt,isPre]
 all_goals first | done | grind | omega
theorem k99 (s:List UInt8)(t:List UInt8)  (fr:Fr) (st:St):callStep gS (EvF gS) 99 [.str s,.str t] fr st=some (.ok (retE none (.bool (isPre s t))) fr st) :=
 call_pure rfl fi76_eq rfl (fun st=>c99 s t  st) (by simp)
end
end Go.Proofs.Ytdoobejjedpcgaa
namespace Go.Proofs.Ytdoobejjedpcgaa
open Go Go.Ab
noncomputable section
variable (fr:Fr)(st:St)(k:Kt)
def fi115:FI:={body:=codeOf Try.f115,ntmps:=28,results:=[.tmp 2],pers:=[0,2,3],locals:=[],pure:=true,marks:=[]}
theorem H115:fi115.marks=[]∧fi115.locals=[]∧fi115.results=[.tmp 2]:=⟨rfl,rfl,rfl⟩
theorem fi68_eq:gS.fn 115=some fi115:=by kernel_rfl
theorem st115 (a0:V):startFr fi115 [a0]={ps:=[(0,.val a0),(2,.any),(3,.any)],ts:=[],lc:=[]}:=rfl
def b115:Code:=mini (codeOf Try.f115)
def c115_10:Code:=.cond (.tmp 7) .skip (.exit 0)
def c115_8:Code:=.seq (codeN b115 133) c115_10
def c115_18:Code:=.seq (codeN b115 2341) .ret
def c115_17:Code:=.cond (.tmp 19) c115_18 .skip
def c115_15:Code:=.seq (codeN b115 549) c115_17
def c115_22:Code:=codeN b115 229
def c115_13:Code:=.seq (.block 1 c115_15) c115_22
def c115_7:Code:=.seq c115_8 c115_13
def c115_6:Code:=.loop c115_7
def c115_5:Code:=.block 0 c115_6
def c115_3:Code:=.seq (codeN b115 9) c115_5
def c115_23:Code:=.seq (codeN b115 11) .ret
def c115_2:Code:=.seq c115_3 c115_23
def c115_0:Code:=.seq (codeN b115 2) c115_2
theorem E115:evK gS fi115 c115_10 fr st k=condK gS fi115 (fr.op (.tmp 7)).bool? .skip (.exit 0) fr st k ∧
 (evK gS fi115 c115_8 fr st k=opsR gS fi115 [mv 4 3 3,
 mv 5 0 9,
 len1 6 5 9 3,
 bop 7 .lss 3 4 6 3 4] fr st (.seq c115_10 k)) ∧
 evK gS fi115 c115_18 fr st k=opsR gS fi115 [qA 2 false 4] fr st (.seq .ret k) ∧
 evK gS fi115 c115_17 fr st k=condK gS fi115 (fr.op (.tmp 19)).bool? c115_18 .skip fr st k ∧
 (evK gS fi115 c115_15 fr st k=opsR gS fi115 [mv 10 0 9,
 mv 11 3 3,
 op1 12 (.index 9 (.tmp 10) (.tmp 11)) 5,
 op1 13 (.binOp .lss 5 (.tmp 12) (.const (.int .u8 97)) 5) 4,
 mv 14 13 4,
 qm 15 0 9 4 false,
 qm 16 3 3 4 false,
 mk (some 17) (.index 9 (.tmp 15) (.tmp 16)) 5 (some (4,false)),
 mk (some 18) (.binOp .gtr 5 (.tmp 17) (.const (.int .u8 122)) 5) 4 (some (4,false)),
 qQ 19 14 true 18 4] fr st (.seq c115_17 k)) ∧
 (evK gS fi115 c115_22 fr st k=opsR gS fi115 [mv 8 3 3,
 qB 9 .add 3 8 1 3 3,
 asn 3 9 3] fr st k) ∧
 evK gS fi115 c115_13 fr st k=evK gS fi115 c115_15 fr st (.blk 1 (.seq c115_22 k)) ∧
 evK gS fi115 c115_7 fr st k=evK gS fi115 c115_8 fr st (.seq c115_13 k) ∧
 evK gS fi115 c115_5 fr st k=evK gS fi115 c115_6 fr st (.blk 0 k) ∧
 evK gS fi115 c115_3 fr st k=opsR gS fi115 [qI 3 0 3] fr st (.seq c115_5 k) ∧
 (evK gS fi115 c115_23 fr st k=opsR gS fi115 [mv 20 0 9,
 len1 21 20 9 3,
 qB 22 .geq 3 21 1 3 4,
 mv 23 22 4,
 qm 24 0 9 3 true,
 qe 25 24 9 3 3 true,
 qc 26 .leq 3 25 6 3 4 3 true,
 qP 27 23 26 false 4,
 asn 2 27 4] fr st (.seq .ret k)) ∧
 evK gS fi115 c115_2 fr st k=evK gS fi115 c115_3 fr st (.seq c115_23 k) ∧
 evK gS fi115 c115_0 fr st k=opsR gS fi115 [qA 2 false 4] fr st (.seq c115_2 k):=⟨rfl,evK_rs 2 rfl (by kernel_rfl),evK_rs 5 rfl (by kernel_rfl),rfl,evK_rs 4 rfl (by kernel_rfl),evK_r 3 (by kernel_rfl),rfl,rfl,rfl,evK_rs 1 rfl (by kernel_rfl),evK_rs 6 rfl (by kernel_rfl),rfl,evK_rs 0 rfl (by kernel_rfl)⟩
theorem m115:mini fi115.body=c115_0:=by kernel_rfl
theorem n115_6 (fr:Fr)(st:St)(k:Kt):nextK gS fi115 (.loop c115_7 k) .normal fr st=evK gS fi115 c115_6 fr st k:=rfl
theorem L115_6 (s:List UInt8)(h_s:s.length<4611686018427387904)(st:St):∀ (n i:Nat) (j:Int)  (e2:E) (T:List (Nat × E)) (X:List (Nat × List V)) (ht2:e2.Tame) ,j=(i:Int)→i≤(s).length→(s).length - i=n →
  evK gS fi115 c115_6 {ps:=[(0,.val (.str s)),(2,e2),(3,.val (.int .i64 j))],ts:=T,lc:=X} st (.blk 0 (.seq c115_23 .nil))=some ((.ret (.bool ((s.drop i).all (fun c=>!decide (c.toNat<97) && !decide (122<c.toNat)) && (decide (1≤s.length) && decide (s.length≤6)))) none),st):=by
 intro n
 induction n with
 | zero =>
  intro i j  e2 T X ht2  hj hi hn
  obtain rfl:i=(s).length:=by omega
  subst hj
  refine evK_loop c115_7 _ st _ _ rfl ?_
  simp (config:={contextual:=true,maxSteps:=10000000,maxDischargeDepth:=6}) [-zil,-zit,-znl,-znt,ty3,ty4,ty5,ty9,H115,E115,n115_6,ht2]
  all_goals first | done | grind | omega
 | succ n ih =>
  intro i j  e2 T X ht2  hj hi hn
  subst hj
  obtain ⟨x,hx⟩  := qgx (l:=(s)) (i:=i) (by omega)
  have hd:=drop_get hx
  have hlt:(i:Int)<((s).length:Int):=by omega
  have hlt2:i<(s).length:=by omega
  have hxe:(s)[i]'hlt2=x:=by rw [zge hlt2] at hx;exact Option.some.inj hx
  have hw:IntKind.wrap .i64 ((i:Int)+1)=(i:Int)+1:=wrap64 (by omega) (by omega)
  have IH:=fun e2 T X ht2=>ih (i+1) ((i:Int)+1) e2 T X ht2 rfl (by omega) (by omega)
  refine evK_loop c115_7 _ st _ _ rfl ?_
  simp (config:={contextual:=true,maxSteps:=10000000,maxDischargeDepth:=6}) [-zil,-zit,-znl,-znt,ty3,ty4,ty5,ty9,H115,E115,n115_6,ht2,hx,hxe,hd,hlt,hlt2,hw,IH]
  all_goals first | done | grind | omega
theorem c115 (s:List UInt8)(h_s:s.length<4611686018427387904)(st:St):EvF gS 115 [.str s] st=some (.ret (.bool (isWord s)) none,st):=by
 refine EvF_start fi68_eq (fun x h=>by cases h) m115 ?_
 rw [st115]
 simp (config:={contextual:=true,maxSteps:=10000000,maxDischargeDepth:=6}) [-zil,-zit,-znl,-znt,ty3,ty4,ty5,ty9,H115,E115,n115_6,(fun e2 T X ht2=>L115_6 s h_s st _ 0 0  e2 T X ht2 rfl (Nat.zero_le _) rfl)]
 all_goals try simp (config:={contextual:=true}) [-zil,-zit,-znl,-znt,isWord]
 all_goals first | done | grind | omega
theorem k115 (s:List UInt8)(h_s:s.length<4611686018427387904)(fr:Fr)(st:St):callStep gS (EvF gS) 115 [.str s] fr st=some (.ok (retE none (.bool (isWord s))) fr st) :=
 call_pure rfl fi68_eq rfl (fun st=>c115 s h_s st) (by simp)
def fi118:FI:={body:=codeOf Try.f118,ntmps:=15,results:=[.tmp 2],pers:=[0,2,4,5,6,7],locals:=[4],pure:=true,marks:=[]}
theorem H118:fi118.marks=[]∧fi118.locals=[4]∧fi118.results=[.tmp 2]:=⟨rfl,rfl,rfl⟩
theorem fi71_eq:gS.fn 118=some fi118:=by kernel_rfl
theorem st118 (a0:V):startFr fi118 [a0]={ps:=[(0,.val a0),(2,.any),(4,.any),(5,.any),(6,.any),(7,.any)],ts:=[],lc:=[]}:=rfl
def b118:Code:=mini (codeOf Try.f118)
def c118_20:Code:=.seq (codeN b118 9829) .ret
def c118_19:Code:=.cond (.tmp 13) c118_20 .skip
def c118_17:Code:=.seq (codeN b118 2661) c118_19
def c118_15:Code:=.seq (codeN b118 1125) c118_17
def c118_24:Code:=codeN b118 485
def c118_13:Code:=.seq (.block 1 c118_15) c118_24
def c118_9:Code:=.seq (.cond (.tmp 8) .skip (.exit 0)) c118_13
def c118_7:Code:=.seq (codeN b118 69) c118_9
def c118_6:Code:=.loop c118_7
def c118_5:Code:=.block 0 c118_6
def c118_3:Code:=.seq (codeN b118 9) c118_5
def c118_25:Code:=.seq (codeN b118 11) .ret
def c118_2:Code:=.seq c118_3 c118_25
def c118_0:Code:=.seq (codeN b118 2) c118_2
theorem E118:evK gS fi118 c118_20 fr st k=opsR gS fi118 [qA 2 false 4] fr st (.seq .ret k) ∧
 evK gS fi118 c118_19 fr st k=condK gS fi118 (fr.op (.tmp 13)).bool? c118_20 .skip fr st k ∧
 (evK gS fi118 c118_17 fr st k=opsR gS fi118 [ld 11 88 4 88,
 cal 12 117 [(.tmp 11)] [88] 4,
 op1 13 (.unOp .not 4 (.tmp 12)) 4] fr st (.seq c118_19 k)) ∧
 (evK gS fi118 c118_15 fr st k=opsR gS fi118 [ixa 9 89 5 7 0,
 ld 10 88 9 88,
 op1 4 (.alloc 88) 0,
 sto 88 4 10] fr st (.seq c118_17 k)) ∧
 (evK gS fi118 c118_24 fr st k=opsR gS fi118 [qB 14 .add 3 7 1 3 3,
 mv 7 14 3] fr st k) ∧
 evK gS fi118 c118_13 fr st k=evK gS fi118 c118_15 fr st (.blk 1 (.seq c118_24 k)) ∧
 evK gS fi118 c118_9 fr st k=condK gS fi118 (fr.op (.tmp 8)).bool? .skip (.exit 0) fr st (.seq c118_13 k) ∧
 evK gS fi118 c118_7 fr st k=opsR gS fi118 [bop 8 .lss 3 7 6 3 0] fr st (.seq c118_9 k) ∧
 evK gS fi118 c118_5 fr st k=evK gS fi118 c118_6 fr st (.blk 0 k) ∧
 (evK gS fi118 c118_3 fr st k=opsR gS fi118 [mv 5 0 89,
 len1 6 5 89 3,
 op1 7 (.move (.const (.int .i64 0))) 3] fr st (.seq c118_5 k)) ∧
 evK gS fi118 c118_25 fr st k=opsR gS fi118 [qA 2 true 4] fr st (.seq .ret k) ∧
 evK gS fi118 c118_2 fr st k=evK gS fi118 c118_3 fr st (.seq c118_25 k) ∧
 evK gS fi118 c118_0 fr st k=opsR gS fi118 [qA 2 false 4] fr st (.seq c118_2 k):=⟨evK_rs 5 rfl (by kernel_rfl),rfl,evK_rs 4 rfl (by kernel_rfl),evK_rs 3 rfl (by kernel_rfl),evK_r 6 (by kernel_rfl),rfl,rfl,evK_rs 2 rfl (by kernel_rfl),rfl,evK_rs 1 rfl (by kernel_rfl),evK_rs 7 rfl (by kernel_rfl),rfl,evK_rs 0 rfl (by kernel_rfl)⟩
theorem m118:mini fi118.body=c118_0:=by kernel_rfl
theorem n118_6 (fr:Fr)(st:St)(k:Kt):nextK gS fi118 (.loop c118_7 k) .normal fr st=evK gS fi118 c118_6 fr st k:=rfl
theorem L118_6 (l:List Val)(h_l:l.length<4611686018427387904)(st:St):∀ (n i:Nat) (j:Int)  (e0 e2 e4:E) (T:List (Nat × E)) (X:List (Nat × List V)) (ht0:e0.Tame) (ht2:e2.Tame) (ht4:e4.Tame) ,j=(i:Int)→i≤(l).length→(l).length - i=n →
  evK gS fi118 c118_6 {ps:=[(0,e0),(2,e2),(4,e4),(5,.val (.slice (encVals l))),(6,.val (.int .i64 l.length)),(7,.val (.int .i64 j))],ts:=T,lc:=X} st (.blk 0 (.seq c118_25 .nil))=some ((.ret (.bool ((l.drop i).all vright)) none),st):=by
 intro n
 induction n with
 | zero =>
  intro i j  e0 e2 e4 T X ht0 ht2 ht4  hj hi hn
  obtain rfl:i=(l).length:=by omega
  subst hj
  refine evK_loop c118_7 _ st _ _ rfl ?_
  simp (config:={contextual:=true,maxSteps:=10000000,maxDischargeDepth:=6}) [-zil,-zit,-znl,-znt,ty3,ty4,ty88,ty89,eq88,H118,k117,E118,n118_6,ht0,ht2,ht4]
  all_goals first | done | grind | omega
 | succ n ih =>
  intro i j  e0 e2 e4 T X ht0 ht2 ht4  hj hi hn
  subst hj
  obtain ⟨x,hx⟩  := qgx (l:=(l)) (i:=i) (by omega)
  have hd:=drop_get hx
  have hlt:(i:Int)<((l).length:Int):=by omega
  have hlt2:i<(l).length:=by omega
  have hxe:(l)[i]'hlt2=x:=by rw [zge hlt2] at hx;exact Option.some.inj hx
  have hw:IntKind.wrap .i64 ((i:Int)+1)=(i:Int)+1:=wrap64 (by omega) (by omega)
  have IH:=fun e0 e2 e4 T X ht0 ht2 ht4=>ih (i+1) ((i:Int)+1) e0 e2 e4 T X ht0 ht2 ht4 rfl (by omega) (by omega)
  refine evK_loop c118_7 _ st _ _ rfl ?_
  simp (config:={contextual:=true,maxSteps:=10000000,maxDischargeDepth:=6}) [-zil,-zit,-znl,-znt,ty3,ty4,ty88,ty89,eq88,H118,k117,E118,n118_6,ht0,ht2,ht4,hx,hxe,hd,hlt,hlt2,hw,IH]
  all_goals first | done | grind | omega
theorem c118 (l:List Val)(h_l:l.length<4611686018427387904)(st:St):EvF gS 118 [.slice (encVals l)] st=some (.ret (.bool (l.all vright)) none,st):=by
 refine EvF_start fi71_eq (fun x h=>by cases h) m118 ?_
 rw [st118]
 simp (config:={contextual:=true,maxSteps:=10000000,maxDischargeDepth:=6}) [-zil,-zit,-znl,-znt,ty3,ty4,ty88,ty89,eq88,H118,k117,E118,n118_6,(fun e0 e2 e4 T X ht0 ht2 ht4=>L118_6 l h_l st _ 0 0  e0 e2 e4 T X ht0 ht2 ht4 rfl (Nat.zero_le _) rfl)]
 all_goals first | done | grind | omega
theorem k118 (l:List Val)(h_l:l.length<4611686018427387904)(fr:Fr)(st:St):callStep gS (EvF gS) 118 [.slice (encVals l)] fr st=some (.ok (retE none (.bool (l.all vright))) fr st) :=
 call_pure rfl fi71_eq rfl (fun st=>c118 l h_l st) (by simp)
end
end Go.Proofs.Ytdoobejjedpcgaa
namespace Go.Proofs.Ytdoobejjedpcgaa
open Go Go.Ab
noncomputable section
variable (fr:Fr)(st:St)(k:Kt)
def fi97:FI:={body:=codeOf Try.f97,ntmps:=111,results:=[.tmp 2],pers:=[0,1,2,8,25],locals:=[1],pure:=true,marks:=[]}
theorem H97:fi97.marks=[]∧fi97.locals=[1]∧fi97.results=[.tmp 2]:=⟨rfl,rfl,rfl⟩
theorem fi19_eq:gS.fn 97=some fi97:=by kernel_rfl
theorem st97 (a0:V):startFr fi97 [a0]={ps:=[(0,.val a0),(1,.any),(2,.any),(8,.any),(25,.any)],ts:=[],lc:=[]}:=rfl
def b97:Code:=mini (codeOf Try.f97)
def c97_6:Code:=.seq (codeN b97 37) .ret
def c97_5:Code:=.cond (.tmp 6) c97_6 .skip
def c97_3:Code:=.seq (codeN b97 9) c97_5
def c97_17:Code:=.seq (codeN b97 299) .ret
def c97_41:Code:=codeN b97 524139
def c97_39:Code:=.cond (.tmp 25) .skip c97_41
def c97_37:Code:=.seq (codeN b97 196459) c97_39
def c97_35:Code:=.cond (.tmp 25) .skip c97_37
def c97_33:Code:=.seq (codeN b97 49003) c97_35
def c97_31:Code:=.cond (.tmp 25) .skip c97_33
def c97_29:Code:=.seq (codeN b97 12139) c97_31
def c97_27:Code:=.cond (.tmp 25) .skip c97_29
def c97_25:Code:=.seq (codeN b97 2923) c97_27
def c97_23:Code:=.cond (.tmp 25) .skip c97_25
def c97_21:Code:=.seq (codeN b97 619) c97_23
def c97_43:Code:=.seq (codeN b97 1259) .ret
def c97_49:Code:=.seq (codeN b97 5099) .ret
def c97_55:Code:=.seq (codeN b97 20459) .ret
def c97_61:Code:=.seq (codeN b97 81899) .ret
def c97_60:Code:=.cond (.tmp 84) c97_61 .skip
def c97_58:Code:=.seq (codeN b97 24555) c97_60
def c97_54:Code:=.cond (.tmp 62) c97_55 c97_58
def c97_52:Code:=.seq (codeN b97 6123) c97_54
def c97_48:Code:=.cond (.tmp 46) c97_49 c97_52
def c97_46:Code:=.seq (codeN b97 1515) c97_48
def c97_42:Code:=.cond (.tmp 25) c97_43 c97_46
def c97_20:Code:=.seq c97_21 c97_42
def c97_16:Code:=.cond (.tmp 9) c97_17 c97_20
def c97_14:Code:=.seq (codeN b97 75) c97_16
def c97_13:Code:=.block 0 c97_14
def c97_11:Code:=.seq (codeN b97 19) c97_13
def c97_65:Code:=.seq (codeN b97 23) .ret
def c97_10:Code:=.seq c97_11 c97_65
def c97_2:Code:=.seq c97_3 c97_10
def c97_0:Code:=.seq (codeN b97 2) c97_2
theorem E97:evK gS fi97 c97_6 fr st k=opsR gS fi97 [qA 2 false 4] fr st (.seq .ret k) ∧
 evK gS fi97 c97_5 fr st k=condK gS fi97 (fr.op (.tmp 6)).bool? c97_6 .skip fr st k ∧
 (evK gS fi97 c97_3 fr st k=opsR gS fi97 [qF 3 91 1 0 0,
 ld 4 9 3 9,
 cal 5 115 [(.tmp 4)] [9] 4,
 op1 6 (.unOp .not 4 (.tmp 5)) 4] fr st (.seq c97_5 k)) ∧
 (evK gS fi97 c97_17 fr st k=opsR gS fi97 [qF 11 91 1 2 0,
 ld 12 88 11 88,
 cal 13 116 [(.tmp 12)] [88] 4,
 mv 14 13 4,
 qf 15 91 1 3 0 3 true,
 ql 16 88 15 88 3 true,
 mk (some 17) (.call {callee:=(.value (.func 116)),args:=#[(.tmp 16)],argTypes:=#[88]}) 4 (some (3,true)),
 qP 18 14 17 false 4,
 mv 19 18 4,
 qf 20 91 1 4 0 8 true,
 ql 21 89 20 89 8 true,
 qe 22 21 89 3 8 true,
 qc 23 .eql 3 22 0 3 4 8 true,
 qP 24 19 23 false 4,
 asn 2 24 4] fr st (.seq .ret k)) ∧
 (evK gS fi97 c97_41 fr st k=opsR gS fi97 [qB 31 .eql 3 8 7 3 4,
 asn 25 31 4] fr st k) ∧
 evK gS fi97 c97_39 fr st k=condK gS fi97 (fr.op (.tmp 25)).bool? .skip c97_41 fr st k ∧
 (evK gS fi97 c97_37 fr st k=opsR gS fi97 [qB 30 .eql 3 8 6 3 4,
 asn 25 30 4] fr st (.seq c97_39 k)) ∧
 evK gS fi97 c97_35 fr st k=condK gS fi97 (fr.op (.tmp 25)).bool? .skip c97_37 fr st k ∧
 (evK gS fi97 c97_33 fr st k=opsR gS fi97 [qB 29 .eql 3 8 5 3 4,
 asn 25 29 4] fr st (.seq c97_35 k)) ∧
 evK gS fi97 c97_31 fr st k=condK gS fi97 (fr.op (.tmp 25)).bool? .skip c97_33 fr st k ∧
 (evK gS fi97 c97_29 fr st k=opsR gS fi97 [qB 28 .eql 3 8 4 3 4,
 asn 25 28 4] fr st (.seq c97_31 k)) ∧
 evK gS fi97 c97_27 fr st k=condK gS fi97 (fr.op (.tmp 25)).bool? .skip c97_29 fr st k ∧
 (evK gS fi97 c97_25 fr st k=opsR gS fi97 [qB 27 .eql 3 8 3 3 4,
 asn 25 27 4] fr st (.seq c97_27 k)) ∧
 evK gS fi97 c97_23 fr st k=condK gS fi97 (fr.op (.tmp 25)).bool? .skip c97_25 fr st k ∧
 (evK gS fi97 c97_21 fr st k=opsR gS fi97 [qB 26 .eql 3 8 2 3 4,
 asn 25 26 4] fr st (.seq c97_23 k)) ∧
 (evK gS fi97 c97_43 fr st k=opsR gS fi97 [qF 32 91 1 2 0,
 ld 33 88 32 88,
 cal 34 117 [(.tmp 33)] [88] 4,
 mv 35 34 4,
 qf 36 91 1 3 0 3 true,
 ql 37 88 36 88 3 true,
 mk (some 38) (.call {callee:=(.value (.func 116)),args:=#[(.tmp 37)],argTypes:=#[88]}) 4 (some (3,true)),
 qP 39 35 38 false 4,
 mv 40 39 4,
 qf 41 91 1 4 0 8 true,
 ql 42 89 41 89 8 true,
 qe 43 42 89 3 8 true,
 qc 44 .eql 3 43 0 3 4 8 true,
 qP 45 40 44 false 4,
 asn 2 45 4] fr st (.seq .ret k)) ∧
 (evK gS fi97 c97_49 fr st k=opsR gS fi97 [qF 48 91 1 2 0,
 ld 49 88 48 88,
 cal 50 117 [(.tmp 49)] [88] 4,
 mv 51 50 4,
 qf 52 91 1 3 0 3 true,
 ql 53 88 52 88 3 true,
 mk (some 54) (.call {callee:=(.value (.func 117)),args:=#[(.tmp 53)],argTypes:=#[88]}) 4 (some (3,true)),
 qP 55 51 54 false 4,
 mv 56 55 4,
 qf 57 91 1 4 0 8 true,
 ql 58 89 57 89 8 true,
 qe 59 58 89 3 8 true,
 qc 60 .eql 3 59 0 3 4 8 true,
 qP 61 56 60 false 4,
 asn 2 61 4] fr st (.seq .ret k)) ∧
 (evK gS fi97 c97_55 fr st k=opsR gS fi97 [qF 64 91 1 2 0,
 ld 65 88 64 88,
 cal 66 117 [(.tmp 65)] [88] 4,
 mv 67 66 4,
 qf 68 91 1 2 0 3 true,
 qf 69 88 68 0 0 3 true,
 ql 70 3 69 3 3 true,
 qc 71 .eql 3 70 3 3 4 3 true,
 qP 72 67 71 false 4,
 mv 73 72 4,
 qf 74 91 1 3 0 9 true,
 ql 75 88 74 88 9 true,
 mk (some 76) (.call {callee:=(.value (.func 116)),args:=#[(.tmp 75)],argTypes:=#[88]}) 4 (some (9,true)),
 qP 77 73 76 false 4,
 mv 78 77 4,
 qf 79 91 1 4 0 14 true,
 ql 80 89 79 89 14 true,
 qe 81 80 89 3 14 true,
 qc 82 .eql 3 81 0 3 4 14 true,
 qP 83 78 82 false 4,
 asn 2 83 4] fr st (.seq .ret k)) ∧
 (evK gS fi97 c97_61 fr st k=opsR gS fi97 [qF 86 91 1 2 0,
 ld 87 88 86 88,
 cal 88 116 [(.tmp 87)] [88] 4,
 mv 89 88 4,
 qf 90 91 1 3 0 3 true,
 ql 91 88 90 88 3 true,
 mk (some 92) (.call {callee:=(.value (.func 116)),args:=#[(.tmp 91)],argTypes:=#[88]}) 4 (some (3,true)),
 qP 93 89 92 false 4,
 mv 94 93 4,
 qf 95 91 1 4 0 8 true,
 ql 96 89 95 89 8 true,
 qe 97 96 89 3 8 true,
 qc 98 .geq 3 97 1 3 4 8 true,
 qP 99 94 98 false 4,
 mv 100 99 4,
 qf 101 91 1 4 0 14 true,
 ql 102 89 101 89 14 true,
 qe 103 102 89 3 14 true,
 qc 104 .leq 3 103 4 3 4 14 true,
 qP 105 100 104 false 4,
 mv 106 105 4,
 qf 107 91 1 4 0 20 true,
 ql 108 89 107 89 20 true,
 mk (some 109) (.call {callee:=(.value (.func 118)),args:=#[(.tmp 108)],argTypes:=#[89]}) 4 (some (20,true)),
 qP 110 106 109 false 4,
 asn 2 110 4] fr st (.seq .ret k)) ∧
 evK gS fi97 c97_60 fr st k=condK gS fi97 (fr.op (.tmp 84)).bool? c97_61 .skip fr st k ∧
 (evK gS fi97 c97_58 fr st k=opsR gS fi97 [qB 85 .eql 3 8 10 3 4,
 asn 84 85 4] fr st (.seq c97_60 k)) ∧
 evK gS fi97 c97_54 fr st k=condK gS fi97 (fr.op (.tmp 62)).bool? c97_55 c97_58 fr st k ∧
 (evK gS fi97 c97_52 fr st k=opsR gS fi97 [qB 63 .eql 3 8 9 3 4,
 asn 62 63 4] fr st (.seq c97_54 k)) ∧
 evK gS fi97 c97_48 fr st k=condK gS fi97 (fr.op (.tmp 46)).bool? c97_49 c97_52 fr st k ∧
 (evK gS fi97 c97_46 fr st k=opsR gS fi97 [qB 47 .eql 3 8 8 3 4,
 asn 46 47 4] fr st (.seq c97_48 k)) ∧
 evK gS fi97 c97_42 fr st k=condK gS fi97 (fr.op (.tmp 25)).bool? c97_43 c97_46 fr st k ∧
 evK gS fi97 c97_20 fr st k=evK gS fi97 c97_21 fr st (.seq c97_42 k) ∧
 evK gS fi97 c97_16 fr st k=condK gS fi97 (fr.op (.tmp 9)).bool? c97_17 c97_20 fr st k ∧
 (evK gS fi97 c97_14 fr st k=opsR gS fi97 [qB 10 .eql 3 8 1 3 4,
 asn 9 10 4] fr st (.seq c97_16 k)) ∧
 evK gS fi97 c97_13 fr st k=evK gS fi97 c97_14 fr st (.blk 0 k) ∧
 (evK gS fi97 c97_11 fr st k=opsR gS fi97 [qF 7 91 1 1 0,
 ld 8 3 7 3] fr st (.seq c97_13 k)) ∧
 evK gS fi97 c97_65 fr st k=opsR gS fi97 [qA 2 false 4] fr st (.seq .ret k) ∧
 evK gS fi97 c97_10 fr st k=evK gS fi97 c97_11 fr st (.seq c97_65 k) ∧
 evK gS fi97 c97_2 fr st k=evK gS fi97 c97_3 fr st (.seq c97_10 k) ∧
 (evK gS fi97 c97_0 fr st k=opsR gS fi97 [op1 1 (.box 91 (.tmp 0)) 0,
 qA 2 false 4] fr st (.seq c97_2 k)):=⟨evK_rs 2 rfl (by kernel_rfl),rfl,evK_rs 1 rfl (by kernel_rfl),evK_rs 5 rfl (by kernel_rfl),evK_r 11 (by kernel_rfl),rfl,evK_rs 10 rfl (by kernel_rfl),rfl,evK_rs 9 rfl (by kernel_rfl),rfl,evK_rs 8 rfl (by kernel_rfl),rfl,evK_rs 7 rfl (by kernel_rfl),rfl,evK_rs 6 rfl (by kernel_rfl),evK_rs 12 rfl (by kernel_rfl),evK_rs 14 rfl (by kernel_rfl),evK_rs 16 rfl (by kernel_rfl),evK_rs 18 rfl (by kernel_rfl),rfl,evK_rs 17 rfl (by kernel_rfl),rfl,evK_rs 15 rfl (by kernel_rfl),rfl,evK_rs 13 rfl (by kernel_rfl),rfl,rfl,rfl,evK_rs 4 rfl (by kernel_rfl),rfl,evK_rs 3 rfl (by kernel_rfl),evK_rs 19 rfl (by kernel_rfl),rfl,rfl,evK_rs 0 rfl (by kernel_rfl)⟩
theorem m97:mini fi97.body=c97_0:=by kernel_rfl
theorem c97 (p:Pred)  (h_p:Pred.ok p) (st:St):EvF gS 97 [p.enc] st=some (.ret (.bool (pright p)) none,st):=by
 refine EvF_start fi19_eq (fun x h=>by cases h) m97 ?_
 rw [st97]
 simp (config:={contextual:=true,maxSteps:=10000000,maxDischargeDepth:=6}) [-zil,-zit,-znl,-znt,ty3,ty4,ty9,ty88,ty89,ty91,eq88,H97,k115,k116,k117,k118,E97,h_p.1,h_p.2]
 all_goals try simp (config:={contextual:=true}) [-zil,-zit,-znl,-znt,pright]
 all_goals first | done | grind | omega
theorem k97 (p_name:List UInt8)(p_test:Int)(p_vk:Int)(p_vn:Int)(p_vx:Nat)(p_vs:List UInt8)(p_vb:Bool)(p_wk:Int)(p_wn:Int)(p_wx:Nat)(p_ws:List UInt8)(p_wb:Bool)(p_set:List Val)  (h_p:Pred.ok (⟨p_name,p_test,⟨p_vk,p_vn,p_vx,p_vs,p_vb⟩,⟨p_wk,p_wn,p_wx,p_ws,p_wb⟩,p_set⟩:Pred)) (fr:Fr) (st:St):callStep gS (EvF gS) 97 [.agg [.str p_name,.int .i64 p_test,.int .i64 p_vk,.int .i64 p_vn,.float .f64 p_vx,.str p_vs,.bool p_vb,.int .i64 p_wk,.int .i64 p_wn,.float .f64 p_wx,.str p_ws,.bool p_wb,.slice (encVals p_set)]] fr st=some (.ok (retE none (.bool (pright (⟨p_name,p_test,⟨p_vk,p_vn,p_vx,p_vs,p_vb⟩,⟨p_wk,p_wn,p_wx,p_ws,p_wb⟩,p_set⟩:Pred)))) fr st) :=
 call_pure rfl fi19_eq rfl (fun st=>c97 (⟨p_name,p_test,⟨p_vk,p_vn,p_vx,p_vs,p_vb⟩,⟨p_wk,p_wn,p_wx,p_ws,p_wb⟩,p_set⟩:Pred) h_p st) (by simp)
end
end Go.Proofs.Ytdoobejjedpcgaa
namespace Go.Proofs.Ytdoobejjedpcgaa
open Go Go.Ab
noncomputable section
variable (fr:Fr)(st:St)(k:Kt)
def fi80:FI:={body:=codeOf Try.f80,ntmps:=62,results:=[.tmp 4],pers:=[0,1,2,3,4,5,45,46],locals:=[2,3],pure:=true,marks:=[]}
theorem H80:fi80.marks=[]∧fi80.locals=[2,3]∧fi80.results=[.tmp 4]:=⟨rfl,rfl,rfl⟩
theorem fi25_eq:gS.fn 80=some fi80:=by kernel_rfl
theorem st80 (a0 a1:V):startFr fi80 [a0,a1]={ps:=[(0,.val a0),(1,.val a1),(2,.any),(3,.any),(4,.any),(5,.any),(45,.any),(46,.any)],ts:=[],lc:=[]}:=rfl
def b80:Code:=mini (codeOf Try.f80)
def c80_6:Code:=.seq (codeN b80 37) .ret
def c80_5:Code:=.cond (.tmp 42) c80_6 .skip
def c80_3:Code:=.seq (codeN b80 9) c80_5
def r80_26:Array Oper:=regOps (codeN (codeOf Try.f80) 5323)
def c80_26:Code:=.region 6 r80_26 true
def q80_26:List (Oper × Fl):=[(qF 49 91 2 4 0,qz0),
 (ld 50 89 49 89,qz0),
 (mv 51 5 3,qz0),
 (ixa 52 89 50 51 0,qz0),
 (ld 53 88 52 88,qz0),
 (qF 54 91 3 4 0,qz0),
 (ld 55 89 54 89,qz0),
 (mv 56 5 3,qz1),
 (ixa 57 89 55 56 0,qz1),
 (ld 58 88 57 88,qz1),
 (cal 59 102 [(.tmp 53),(.tmp 58)] [88,88] 4,qz2),
 (op1 60 (.unOp .not 4 (.tmp 59)) 4,qz1)]
def c80_28:Code:=.seq (codeN b80 19659) .ret
def c80_27:Code:=.cond (.tmp 60) c80_28 .skip
def c80_25:Code:=.seq c80_26 c80_27
def c80_23:Code:=.seq (codeN b80 2251) c80_25
def c80_32:Code:=codeN b80 971
def c80_21:Code:=.seq (.block 1 c80_23) c80_32
def c80_17:Code:=.seq (.cond (.tmp 47) .skip (.exit 0)) c80_21
def c80_15:Code:=.seq (codeN b80 139) c80_17
def c80_14:Code:=.loop c80_15
def c80_13:Code:=.block 0 c80_14
def c80_11:Code:=.seq (codeN b80 19) c80_13
def c80_33:Code:=.seq (codeN b80 23) .ret
def c80_10:Code:=.seq c80_11 c80_33
def c80_2:Code:=.seq c80_3 c80_10
def c80_0:Code:=.seq (codeN b80 2) c80_2
theorem E80:evK gS fi80 c80_6 fr st k=opsR gS fi80 [qA 4 false 4] fr st (.seq .ret k) ∧
 evK gS fi80 c80_5 fr st k=condK gS fi80 (fr.op (.tmp 42)).bool? c80_6 .skip fr st k ∧
 (evK gS fi80 c80_3 fr st k=opsR gS fi80 [qF 6 91 2 0 0,
 ld 7 9 6 9,
 qF 8 91 3 0 0,
 ld 9 9 8 9,
 bop 10 .neq 9 7 9 9 4,
 mv 11 10 4,
 qf 12 91 2 1 0 5 false,
 ql 13 3 12 3 5 false,
 qf 14 91 3 1 0 5 false,
 ql 15 3 14 3 5 false,
 qb 16 .neq 3 13 15 3 4 5 false,
 qQ 17 11 true 16 4,
 mv 18 17 4,
 qf 19 91 2 2 0 12 false,
 ql 20 88 19 88 12 false,
 qf 21 91 3 2 0 12 false,
 ql 22 88 21 88 12 false,
 mk (some 23) (.call {callee:=(.value (.func 102)),args:=#[(.tmp 20),(.tmp 22)],argTypes:=#[88,88]}) 4 (some (12,false)),
 mk (some 24) (.unOp .not 4 (.tmp 23)) 4 (some (12,false)),
 qQ 25 18 true 24 4,
 mv 26 25 4,
 qf 27 91 2 3 0 20 false,
 ql 28 88 27 88 20 false,
 qf 29 91 3 3 0 20 false,
 ql 30 88 29 88 20 false,
 mk (some 31) (.call {callee:=(.value (.func 102)),args:=#[(.tmp 28),(.tmp 30)],argTypes:=#[88,88]}) 4 (some (20,false)),
 mk (some 32) (.unOp .not 4 (.tmp 31)) 4 (some (20,false)),
 qQ 33 26 true 32 4,
 mv 34 33 4,
 qf 35 91 2 4 0 28 false,
 ql 36 89 35 89 28 false,
 qe 37 36 89 3 28 false,
 qf 38 91 3 4 0 28 false,
 ql 39 89 38 89 28 false,
 qe 40 39 89 3 28 false,
 qb 41 .neq 3 37 40 3 4 28 false,
 qQ 42 34 true 41 4] fr st (.seq c80_5 k)) ∧
 evK gS fi80 c80_26 fr st k=drwR gS fi80 r80_26 q80_26 fr st k ∧
 evK gS fi80 c80_28 fr st k=opsR gS fi80 [qA 4 false 4] fr st (.seq .ret k) ∧
 evK gS fi80 c80_27 fr st k=condK gS fi80 (fr.op (.tmp 60)).bool? c80_28 .skip fr st k ∧
 evK gS fi80 c80_25 fr st k=evK gS fi80 c80_26 fr st (.seq c80_27 k) ∧
 (evK gS fi80 c80_23 fr st k=opsR gS fi80 [mv 48 46 3,
 asn 5 48 3] fr st (.seq c80_25 k)) ∧
 (evK gS fi80 c80_32 fr st k=opsR gS fi80 [qB 61 .add 3 46 1 3 3,
 mv 46 61 3] fr st k) ∧
 evK gS fi80 c80_21 fr st k=evK gS fi80 c80_23 fr st (.blk 1 (.seq c80_32 k)) ∧
 evK gS fi80 c80_17 fr st k=condK gS fi80 (fr.op (.tmp 47)).bool? .skip (.exit 0) fr st (.seq c80_21 k) ∧
 evK gS fi80 c80_15 fr st k=opsR gS fi80 [bop 47 .lss 3 46 45 3 0] fr st (.seq c80_17 k) ∧
 evK gS fi80 c80_13 fr st k=evK gS fi80 c80_14 fr st (.blk 0 k) ∧
 (evK gS fi80 c80_11 fr st k=opsR gS fi80 [qF 43 91 2 4 0,
 ld 44 89 43 89,
 len1 45 44 89 3,
 op1 46 (.move (.const (.int .i64 0))) 3] fr st (.seq c80_13 k)) ∧
 evK gS fi80 c80_33 fr st k=opsR gS fi80 [qA 4 true 4] fr st (.seq .ret k) ∧
 evK gS fi80 c80_10 fr st k=evK gS fi80 c80_11 fr st (.seq c80_33 k) ∧
 evK gS fi80 c80_2 fr st k=evK gS fi80 c80_3 fr st (.seq c80_10 k) ∧
 (evK gS fi80 c80_0 fr st k=opsR gS fi80 [op1 2 (.box 91 (.tmp 0)) 0,
 op1 3 (.box 91 (.tmp 1)) 0,
 qA 4 false 4] fr st (.seq c80_2 k)):=⟨evK_rs 2 rfl (by kernel_rfl),rfl,evK_rs 1 rfl (by kernel_rfl),evK_dr 6 rfl (by kernel_rfl) (by kernel_rfl),evK_rs 7 rfl (by kernel_rfl),rfl,rfl,evK_rs 5 rfl (by kernel_rfl),evK_r 8 (by kernel_rfl),rfl,rfl,evK_rs 4 rfl (by kernel_rfl),rfl,evK_rs 3 rfl (by kernel_rfl),evK_rs 9 rfl (by kernel_rfl),rfl,rfl,evK_rs 0 rfl (by kernel_rfl)⟩
theorem m80:mini fi80.body=c80_0:=by kernel_rfl
theorem n80_14 (fr:Fr)(st:St)(k:Kt):nextK gS fi80 (.loop c80_15 k) .normal fr st=evK gS fi80 c80_14 fr st k:=rfl
theorem L80_14 (a:Pred)(b:Pred)(h_a:a.ok)(st:St):∀ (n i:Nat) (j:Int) (m:Int) (e0 e1 e4 e5:E) (T:List (Nat × E)) (X:List (Nat × List V)) (ht0:e0.Tame) (ht1:e1.Tame) (ht4:e4.Tame) (ht5:e5.Tame) (hx2:lk X 2=some [.str a.name,.int .i64 a.test,.int .i64 a.v.kind,.int .i64 a.v.n,.float .f64 a.v.x,.str a.v.s,.bool a.v.b,.int .i64 a.w.kind,.int .i64 a.w.n,.float .f64 a.w.x,.str a.w.s,.bool a.w.b,.slice (encVals a.set)]) (hx3:lk X 3=some [.str b.name,.int .i64 b.test,.int .i64 b.v.kind,.int .i64 b.v.n,.float .f64 b.v.x,.str b.v.s,.bool b.v.b,.int .i64 b.w.kind,.int .i64 b.w.n,.float .f64 b.w.x,.str b.w.s,.bool b.w.b,.slice (encVals b.set)]) (hlen:a.set.length=b.set.length) (hm45:m=((a.set.length:Nat):Int)),j=(i:Int)→i≤(a.set).length→(a.set).length - i=n →
  evK gS fi80 c80_14 {ps:=[(0,e0),(1,e1),(2,.lp 2 0),(3,.lp 3 0),(4,e4),(5,e5),(45,.val (.int .i64 m)),(46,.val (.int .i64 j))],ts:=T,lc:=X} st (.blk 0 (.seq c80_33 .nil))=some ((.ret (.bool (sames (a.set.drop i) (b.set.drop i))) none),st):=by
 intro n
 have hao:=h_a.2
 induction n with
 | zero =>
  intro i j m e0 e1 e4 e5 T X ht0 ht1 ht4 ht5 hx2 hx3 hlen hm45 hj hi hn
  obtain rfl:i=(a.set).length:=by omega
  subst hj
  subst hm45
  have hz:b.set.drop a.set.length=[]:=List.drop_eq_nil_of_le (by omega)
  refine evK_loop c80_15 _ st _ _ rfl ?_
  simp (config:={contextual:=true,maxSteps:=10000000,maxDischargeDepth:=6}) [-zil,-zit,-znl,-znt,ty3,ty4,ty9,ty88,ty89,ty91,eq88,H80,k102,x102,fi81_eq,p102,E80,q80_26,n80_14,ht0,ht1,ht4,ht5,hx2,hx3,hz]
  all_goals try simp (config:={contextual:=true}) [-zil,-zit,-znl,-znt,sames]
  all_goals first | done | grind | omega
 | succ n ih =>
  intro i j m e0 e1 e4 e5 T X ht0 ht1 ht4 ht5 hx2 hx3 hlen hm45 hj hi hn
  subst hj
  obtain ⟨x,hx⟩  := qgx (l:=(a.set)) (i:=i) (by omega)
  have hd:=drop_get hx
  have hlt:(i:Int)<((a.set).length:Int):=by omega
  have hlt2:i<(a.set).length:=by omega
  have hxe:(a.set)[i]'hlt2=x:=by rw [zge hlt2] at hx;exact Option.some.inj hx
  have hw:IntKind.wrap .i64 ((i:Int)+1)=(i:Int)+1:=wrap64 (by omega) (by omega)
  subst hm45
  obtain ⟨y,hy⟩:∃ y,(b.set)[i]?=some y:=⟨(b.set)[i]'(by omega),zge (by omega)⟩
  have hyd:=drop_get hy
  have hyl:i<(b.set).length:=by omega
  have hye:(b.set)[i]'hyl=y:=by rw [zge hyl] at hy;exact Option.some.inj hy
  have IH:=fun m e0 e1 e4 e5 T X ht0 ht1 ht4 ht5 hx2 hx3 hlen hm45=>ih (i+1) ((i:Int)+1) m e0 e1 e4 e5 T X ht0 ht1 ht4 ht5 hx2 hx3 hlen hm45 rfl (by omega) (by omega)
  refine evK_loop c80_15 _ st _ _ rfl ?_
  simp (config:={contextual:=true,maxSteps:=10000000,maxDischargeDepth:=6}) [-zil,-zit,-znl,-znt,ty3,ty4,ty9,ty88,ty89,ty91,eq88,H80,k102,x102,fi81_eq,p102,E80,q80_26,n80_14,ht0,ht1,ht4,ht5,hx2,hx3,hx,hxe,hd,hlt,hlt2,hw,IH,hy,hye,hyd,hlen]
  all_goals try simp (config:={contextual:=true}) [-zil,-zit,-znl,-znt,sames]
  all_goals first | done | grind | omega
theorem c80 (a:Pred)(b:Pred)  (h_a:Pred.ok a) (h_b:Pred.ok b) (st:St):EvF gS 80 [a.enc,b.enc] st=some (.ret (.bool (psame a b)) none,st):=by
 refine EvF_start fi25_eq (fun x h=>by cases h) m80 ?_
 rw [st80]
 simp (config:={contextual:=true,maxSteps:=10000000,maxDischargeDepth:=6}) [-zil,-zit,-znl,-znt,ty3,ty4,ty9,ty88,ty89,ty91,eq88,H80,k102,x102,fi81_eq,p102,E80,q80_26,n80_14,(fun m e0 e1 e4 e5 T X ht0 ht1 ht4 ht5 hx2 hx3 hlen hm45=>L80_14 a b h_a st _ 0 0  m e0 e1 e4 e5 T X ht0 ht1 ht4 ht5 hx2 hx3 hlen hm45 rfl (Nat.zero_le _) rfl),h_a.1,h_a.2,h_b.1,h_b.2]
 all_goals try simp (config:={contextual:=true}) [-zil,-zit,-znl,-znt,psame,sames_ne]
 all_goals first | done | grind | omega
theorem k80 (a_name:List UInt8)(a_test:Int)(a_vk:Int)(a_vn:Int)(a_vx:Nat)(a_vs:List UInt8)(a_vb:Bool)(a_wk:Int)(a_wn:Int)(a_wx:Nat)(a_ws:List UInt8)(a_wb:Bool)(a_set:List Val)(b_name:List UInt8)(b_test:Int)(b_vk:Int)(b_vn:Int)(b_vx:Nat)(b_vs:List UInt8)(b_vb:Bool)(b_wk:Int)(b_wn:Int)(b_wx:Nat)(b_ws:List UInt8)(b_wb:Bool)(b_set:List Val)  (h_a:Pred.ok (⟨a_name,a_test,⟨a_vk,a_vn,a_vx,a_vs,a_vb⟩,⟨a_wk,a_wn,a_wx,a_ws,a_wb⟩,a_set⟩:Pred)) (h_b:Pred.ok (⟨b_name,b_test,⟨b_vk,b_vn,b_vx,b_vs,b_vb⟩,⟨b_wk,b_wn,b_wx,b_ws,b_wb⟩,b_set⟩:Pred)) (fr:Fr) (st:St):callStep gS (EvF gS) 80 [.agg [.str a_name,.int .i64 a_test,.int .i64 a_vk,.int .i64 a_vn,.float .f64 a_vx,.str a_vs,.bool a_vb,.int .i64 a_wk,.int .i64 a_wn,.float .f64 a_wx,.str a_ws,.bool a_wb,.slice (encVals a_set)],.agg [.str b_name,.int .i64 b_test,.int .i64 b_vk,.int .i64 b_vn,.float .f64 b_vx,.str b_vs,.bool b_vb,.int .i64 b_wk,.int .i64 b_wn,.float .f64 b_wx,.str b_ws,.bool b_wb,.slice (encVals b_set)]] fr st=some (.ok (retE none (.bool (psame (⟨a_name,a_test,⟨a_vk,a_vn,a_vx,a_vs,a_vb⟩,⟨a_wk,a_wn,a_wx,a_ws,a_wb⟩,a_set⟩:Pred) (⟨b_name,b_test,⟨b_vk,b_vn,b_vx,b_vs,b_vb⟩,⟨b_wk,b_wn,b_wx,b_ws,b_wb⟩,b_set⟩:Pred)))) fr st) :=
 call_pure rfl fi25_eq rfl (fun st=>c80 (⟨a_name,a_test,⟨a_vk,a_vn,a_vx,a_vs,a_vb⟩,⟨a_wk,a_wn,a_wx,a_ws,a_wb⟩,a_set⟩:Pred) (⟨b_name,b_test,⟨b_vk,b_vn,b_vx,b_vs,b_vb⟩,⟨b_wk,b_wn,b_wx,b_ws,b_wb⟩,b_set⟩:Pred) h_a h_b st) (by simp)
def fi133:FI:={body:=codeOf Try.f133,ntmps:=11,results:=[.tmp 4],pers:=[0,1,2,3,4],locals:=[2,3],pure:=true,marks:=[]}
theorem H133:fi133.marks=[]∧fi133.locals=[2,3]∧fi133.results=[.tmp 4]:=⟨rfl,rfl,rfl⟩
theorem fi84_eq:gS.fn 133=some fi133:=by kernel_rfl
theorem st133 (a0 a1:V):startFr fi133 [a0,a1]={ps:=[(0,.val a0),(1,.val a1),(2,.any),(3,.any),(4,.any)],ts:=[],lc:=[]}:=rfl
def b133:Code:=mini (codeOf Try.f133)
def c133_4:Code:=.seq (codeN b133 11) .ret
theorem e133_4:evK gS fi133 c133_4 fr st k=opsR gS fi133 [ld 8 91 2 91,
 ld 9 91 3 91,
 cal 10 80 [(.tmp 8),(.tmp 9)] [91,91] 4,
 asn 4 10 4] fr st (.seq .ret k):=evK_rs 2 rfl (by kernel_rfl)
def c133_2:Code:=.seq (codeN b133 5) c133_4
theorem e133_2:evK gS fi133 c133_2 fr st k=opsR gS fi133 [qF 5 91 3 0 0,
 ld 6 9 5 9,
 qF 7 91 2 0 0,
 sto 9 7 6] fr st (.seq c133_4 k):=evK_rs 1 rfl (by kernel_rfl)
def c133_0:Code:=.seq (codeN b133 2) c133_2
theorem e133_0:evK gS fi133 c133_0 fr st k=opsR gS fi133 [op1 2 (.box 91 (.tmp 0)) 0,
 op1 3 (.box 91 (.tmp 1)) 0,
 qA 4 false 4] fr st (.seq c133_2 k):=evK_rs 0 rfl (by kernel_rfl)
theorem m133:mini fi133.body=c133_0:=by kernel_rfl
theorem c133 (q:Pred)(p:Pred)  (h_q:Pred.ok q) (h_p:Pred.ok p) (st:St):EvF gS 133 [q.enc,p.enc] st=some (.ret (.bool (decide (q.test=p.test) && vsame q.v p.v && vsame q.w p.w && sames q.set p.set)) none,st):=by
 refine EvF_start fi84_eq (fun x h=>by cases h) m133 ?_
 rw [st133]
 simp (config:={contextual:=true,maxSteps:=10000000,maxDischargeDepth:=6}) [-zil,-zit,-znl,-znt,ty4,ty9,ty91,H133,k80,e133_4,e133_2,e133_0,h_q.1,h_q.2,h_p.1,h_p.2]
 all_goals try simp (config:={contextual:=true}) [-zil,-zit,-znl,-znt,psame]
 all_goals first | done | grind | omega
theorem k133 (q_name:List UInt8)(q_test:Int)(q_vk:Int)(q_vn:Int)(q_vx:Nat)(q_vs:List UInt8)(q_vb:Bool)(q_wk:Int)(q_wn:Int)(q_wx:Nat)(q_ws:List UInt8)(q_wb:Bool)(q_set:List Val)(p_name:List UInt8)(p_test:Int)(p_vk:Int)(p_vn:Int)(p_vx:Nat)(p_vs:List UInt8)(p_vb:Bool)(p_wk:Int)(p_wn:Int)(p_wx:Nat)(p_ws:List UInt8)(p_wb:Bool)(p_set:List Val)  (h_q:Pred.ok (⟨q_name,q_test,⟨q_vk,q_vn,q_vx,q_vs,q_vb⟩,⟨q_wk,q_wn,q_wx,q_ws,q_wb⟩,q_set⟩:Pred)) (h_p:Pred.ok (⟨p_name,p_test,⟨p_vk,p_vn,p_vx,p_vs,p_vb⟩,⟨p_wk,p_wn,p_wx,p_ws,p_wb⟩,p_set⟩:Pred)) (fr:Fr) (st:St):callStep gS (EvF gS) 133 [.agg [.str q_name,.int .i64 q_test,.int .i64 q_vk,.int .i64 q_vn,.float .f64 q_vx,.str q_vs,.bool q_vb,.int .i64 q_wk,.int .i64 q_wn,.float .f64 q_wx,.str q_ws,.bool q_wb,.slice (encVals q_set)],.agg [.str p_name,.int .i64 p_test,.int .i64 p_vk,.int .i64 p_vn,.float .f64 p_vx,.str p_vs,.bool p_vb,.int .i64 p_wk,.int .i64 p_wn,.float .f64 p_wx,.str p_ws,.bool p_wb,.slice (encVals p_set)]] fr st=some (.ok (retE none (.bool (decide ((⟨q_name,q_test,⟨q_vk,q_vn,q_vx,q_vs,q_vb⟩,⟨q_wk,q_wn,q_wx,q_ws,q_wb⟩,q_set⟩:Pred).test=(⟨p_name,p_test,⟨p_vk,p_vn,p_vx,p_vs,p_vb⟩,⟨p_wk,p_wn,p_wx,p_ws,p_wb⟩,p_set⟩:Pred).test) && vsame (⟨q_name,q_test,⟨q_vk,q_vn,q_vx,q_vs,q_vb⟩,⟨q_wk,q_wn,q_wx,q_ws,q_wb⟩,q_set⟩:Pred).v (⟨p_name,p_test,⟨p_vk,p_vn,p_vx,p_vs,p_vb⟩,⟨p_wk,p_wn,p_wx,p_ws,p_wb⟩,p_set⟩:Pred).v && vsame (⟨q_name,q_test,⟨q_vk,q_vn,q_vx,q_vs,q_vb⟩,⟨q_wk,q_wn,q_wx,q_ws,q_wb⟩,q_set⟩:Pred).w (⟨p_name,p_test,⟨p_vk,p_vn,p_vx,p_vs,p_vb⟩,⟨p_wk,p_wn,p_wx,p_ws,p_wb⟩,p_set⟩:Pred).w && sames (⟨q_name,q_test,⟨q_vk,q_vn,q_vx,q_vs,q_vb⟩,⟨q_wk,q_wn,q_wx,q_ws,q_wb⟩,q_set⟩:Pred).set (⟨p_name,p_test,⟨p_vk,p_vn,p_vx,p_vs,p_vb⟩,⟨p_wk,p_wn,p_wx,p_ws,p_wb⟩,p_set⟩:Pred).set))) fr st) :=
 call_pure rfl fi84_eq rfl (fun st=>c133 (⟨q_name,q_test,⟨q_vk,q_vn,q_vx,q_vs,q_vb⟩,⟨q_wk,q_wn,q_wx,q_ws,q_wb⟩,q_set⟩:Pred) (⟨p_name,p_test,⟨p_vk,p_vn,p_vx,p_vs,p_vb⟩,⟨p_wk,p_wn,p_wx,p_ws,p_wb⟩,p_set⟩:Pred) h_q h_p st) (by simp)
def fi77:FI:={body:=codeOf Try.f77,ntmps:=113,results:=[.tmp 4],pers:=[0,1,2,3,4,5,6,7,8,10,22,103,104,105],locals:=[2,3,10],pure:=true,marks:=[]}
theorem H77:fi77.marks=[]∧fi77.locals=[2,3,10]∧fi77.results=[.tmp 4]:=⟨rfl,rfl,rfl⟩
theorem fi21_eq:gS.fn 77=some fi77:=by kernel_rfl
theorem st77 (a0 a1:V):startFr fi77 [a0,a1]={ps:=[(0,.val a0),(1,.val a1),(2,.any),(3,.any),(4,.any),(5,.any),(6,.any),(7,.any),(8,.any),(10,.any),(22,.any),(103,.any),(104,.any),(105,.any)],ts:=[],lc:=[]}:=rfl
def b77:Code:=mini (codeOf Try.f77)
def c77_6:Code:=.seq (codeN b77 37) .ret
def c77_5:Code:=.cond (.tmp 13) c77_6 .skip
def c77_3:Code:=.seq (codeN b77 9) c77_5
def c77_19:Code:=.seq (codeN b77 599) .ret
def c77_25:Code:=.seq (codeN b77 2519) .ret
def c77_31:Code:=.seq (codeN b77 10199) .ret
def c77_37:Code:=.seq (codeN b77 40919) .ret
def c77_43:Code:=.seq (codeN b77 163799) .ret
def c77_49:Code:=.seq (codeN b77 655319) .ret
def c77_55:Code:=.seq (codeN b77 2621399) .ret
def c77_63:Code:=.seq (codeN b77 23068631) .ret
def c77_61:Code:=.seq (codeN b77 10485719) c77_63
def c77_69:Code:=.seq (codeN b77 41942999) .ret
def c77_68:Code:=.cond (.tmp 89) c77_69 .skip
def c77_66:Code:=.seq (codeN b77 12582871) c77_68
def c77_60:Code:=.cond (.tmp 68) c77_61 c77_66
def c77_58:Code:=.seq (codeN b77 3145687) c77_60
def c77_54:Code:=.cond (.tmp 61) c77_55 c77_58
def c77_52:Code:=.seq (codeN b77 786391) c77_54
def c77_48:Code:=.cond (.tmp 54) c77_49 c77_52
def c77_46:Code:=.seq (codeN b77 196567) c77_48
def c77_42:Code:=.cond (.tmp 47) c77_43 c77_46
def c77_40:Code:=.seq (codeN b77 49111) c77_42
def c77_36:Code:=.cond (.tmp 40) c77_37 c77_40
def c77_34:Code:=.seq (codeN b77 12247) c77_36
def c77_30:Code:=.cond (.tmp 32) c77_31 c77_34
def c77_28:Code:=.seq (codeN b77 3031) c77_30
def c77_24:Code:=.cond (.tmp 25) c77_25 c77_28
def c77_22:Code:=.seq (codeN b77 727) c77_24
def c77_18:Code:=.cond (.tmp 23) c77_19 c77_22
def c77_16:Code:=.seq (codeN b77 151) c77_18
def c77_15:Code:=.block 0 c77_16
def c77_13:Code:=.seq (codeN b77 39) c77_15
def c77_91:Code:=.seq (codeN b77 78639) .ret
def c77_90:Code:=.cond (.tmp 111) c77_91 .skip
def c77_88:Code:=.seq (codeN b77 21295) c77_90
def c77_86:Code:=.seq (codeN b77 9007) c77_88
def c77_95:Code:=codeN b77 3887
def c77_84:Code:=.seq (.block 2 c77_86) c77_95
def c77_80:Code:=.seq (.cond (.tmp 106) .skip (.exit 1)) c77_84
def c77_78:Code:=.seq (codeN b77 559) c77_80
def c77_77:Code:=.loop c77_78
def c77_76:Code:=.block 1 c77_77
def c77_74:Code:=.seq (codeN b77 79) c77_76
def c77_96:Code:=.seq (codeN b77 95) .ret
def c77_73:Code:=.seq c77_74 c77_96
def c77_12:Code:=.seq c77_13 c77_73
def c77_10:Code:=.seq (codeN b77 11) c77_12
def c77_2:Code:=.seq c77_3 c77_10
def c77_0:Code:=.seq (codeN b77 2) c77_2
theorem E77:evK gS fi77 c77_6 fr st k=opsR gS fi77 [qA 4 false 4] fr st (.seq .ret k) ∧
 evK gS fi77 c77_5 fr st k=condK gS fi77 (fr.op (.tmp 13)).bool? c77_6 .skip fr st k ∧
 (evK gS fi77 c77_3 fr st k=opsR gS fi77 [ld 11 91 2 91,
 cal 12 97 [(.tmp 11)] [91] 4,
 op1 13 (.unOp .not 4 (.tmp 12)) 4] fr st (.seq c77_5 k)) ∧
 evK gS fi77 c77_19 fr st k=opsR gS fi77 [qA 4 true 4] fr st (.seq .ret k) ∧
 (evK gS fi77 c77_25 fr st k=opsR gS fi77 [mv 27 6 4,
 mv 28 27 4,
 qm 29 5 3 1 true,
 qc 30 .eql 3 29 0 3 4 1 true,
 qP 31 28 30 false 4,
 asn 4 31 4] fr st (.seq .ret k)) ∧
 (evK gS fi77 c77_31 fr st k=opsR gS fi77 [mv 34 6 4,
 mv 35 34 4,
 qm 36 5 3 1 true,
 qc 37 .eql 3 36 0 3 4 1 true,
 qP 38 35 37 false 4,
 op1 39 (.unOp .not 4 (.tmp 38)) 4,
 asn 4 39 4] fr st (.seq .ret k)) ∧
 (evK gS fi77 c77_37 fr st k=opsR gS fi77 [mv 42 6 4,
 mv 43 42 4,
 qm 44 5 3 1 true,
 qc 45 .lss 3 44 0 3 4 1 true,
 qP 46 43 45 false 4,
 asn 4 46 4] fr st (.seq .ret k)) ∧
 (evK gS fi77 c77_43 fr st k=opsR gS fi77 [mv 49 6 4,
 mv 50 49 4,
 qm 51 5 3 1 true,
 qc 52 .leq 3 51 0 3 4 1 true,
 qP 53 50 52 false 4,
 asn 4 53 4] fr st (.seq .ret k)) ∧
 (evK gS fi77 c77_49 fr st k=opsR gS fi77 [mv 56 6 4,
 mv 57 56 4,
 qm 58 5 3 1 true,
 qc 59 .gtr 3 58 0 3 4 1 true,
 qP 60 57 59 false 4,
 asn 4 60 4] fr st (.seq .ret k)) ∧
 (evK gS fi77 c77_55 fr st k=opsR gS fi77 [mv 63 6 4,
 mv 64 63 4,
 qm 65 5 3 1 true,
 qc 66 .geq 3 65 0 3 4 1 true,
 qP 67 64 66 false 4,
 asn 4 67 4] fr st (.seq .ret k)) ∧
 (evK gS fi77 c77_63 fr st k=opsR gS fi77 [mv 77 6 4,
 mv 78 77 4,
 qm 79 5 3 1 true,
 qc 80 .geq 3 79 0 3 4 1 true,
 qP 81 78 80 false 4,
 mv 82 81 4,
 qm 83 8 4 5 true,
 qP 84 82 83 false 4,
 mv 85 84 4,
 qm 86 7 3 8 true,
 qc 87 .leq 3 86 0 3 4 8 true,
 qP 88 85 87 false 4,
 asn 4 88 4] fr st (.seq .ret k)) ∧
 (evK gS fi77 c77_61 fr st k=opsR gS fi77 [ld 71 88 3 88,
 qF 72 91 2 3 0,
 ld 73 88 72 88,
 cal 74 98 [(.tmp 71),(.tmp 73)] [88,88] 125,
 mv 70 74 125,
 op1 75 (.extract (.tmp 70) 0) 3,
 op1 76 (.extract (.tmp 70) 1) 4,
 asn 7 75 3,
 asn 8 76 4] fr st (.seq c77_63 k)) ∧
 (evK gS fi77 c77_69 fr st k=opsR gS fi77 [qF 91 88 3 0 0,
 ld 92 3 91 3,
 qB 93 .eql 3 92 3 3 4,
 mv 94 93 4,
 qf 95 88 3 3 0 3 true,
 ql 96 9 95 9 3 true,
 qf 97 91 2 2 0 3 true,
 qf 98 88 97 3 0 3 true,
 ql 99 9 98 9 3 true,
 mk (some 100) (.call {callee:=(.value (.func 99)),args:=#[(.tmp 96),(.tmp 99)],argTypes:=#[9,9]}) 4 (some (3,true)),
 qP 101 94 100 false 4,
 asn 4 101 4] fr st (.seq .ret k)) ∧
 evK gS fi77 c77_68 fr st k=condK gS fi77 (fr.op (.tmp 89)).bool? c77_69 .skip fr st k ∧
 (evK gS fi77 c77_66 fr st k=opsR gS fi77 [qB 90 .eql 3 22 9 3 4,
 asn 89 90 4] fr st (.seq c77_68 k)) ∧
 evK gS fi77 c77_60 fr st k=condK gS fi77 (fr.op (.tmp 68)).bool? c77_61 c77_66 fr st k ∧
 (evK gS fi77 c77_58 fr st k=opsR gS fi77 [qB 69 .eql 3 22 8 3 4,
 asn 68 69 4] fr st (.seq c77_60 k)) ∧
 evK gS fi77 c77_54 fr st k=condK gS fi77 (fr.op (.tmp 61)).bool? c77_55 c77_58 fr st k ∧
 (evK gS fi77 c77_52 fr st k=opsR gS fi77 [qB 62 .eql 3 22 7 3 4,
 asn 61 62 4] fr st (.seq c77_54 k)) ∧
 evK gS fi77 c77_48 fr st k=condK gS fi77 (fr.op (.tmp 54)).bool? c77_49 c77_52 fr st k ∧
 (evK gS fi77 c77_46 fr st k=opsR gS fi77 [qB 55 .eql 3 22 6 3 4,
 asn 54 55 4] fr st (.seq c77_48 k)) ∧
 evK gS fi77 c77_42 fr st k=condK gS fi77 (fr.op (.tmp 47)).bool? c77_43 c77_46 fr st k ∧
 (evK gS fi77 c77_40 fr st k=opsR gS fi77 [qB 48 .eql 3 22 5 3 4,
 asn 47 48 4] fr st (.seq c77_42 k)) ∧
 evK gS fi77 c77_36 fr st k=condK gS fi77 (fr.op (.tmp 40)).bool? c77_37 c77_40 fr st k ∧
 (evK gS fi77 c77_34 fr st k=opsR gS fi77 [qB 41 .eql 3 22 4 3 4,
 asn 40 41 4] fr st (.seq c77_36 k)) ∧
 evK gS fi77 c77_30 fr st k=condK gS fi77 (fr.op (.tmp 32)).bool? c77_31 c77_34 fr st k ∧
 (evK gS fi77 c77_28 fr st k=opsR gS fi77 [qB 33 .eql 3 22 3 3 4,
 asn 32 33 4] fr st (.seq c77_30 k)) ∧
 evK gS fi77 c77_24 fr st k=condK gS fi77 (fr.op (.tmp 25)).bool? c77_25 c77_28 fr st k ∧
 (evK gS fi77 c77_22 fr st k=opsR gS fi77 [qB 26 .eql 3 22 2 3 4,
 asn 25 26 4] fr st (.seq c77_24 k)) ∧
 evK gS fi77 c77_18 fr st k=condK gS fi77 (fr.op (.tmp 23)).bool? c77_19 c77_22 fr st k ∧
 (evK gS fi77 c77_16 fr st k=opsR gS fi77 [qB 24 .eql 3 22 1 3 4,
 asn 23 24 4] fr st (.seq c77_18 k)) ∧
 evK gS fi77 c77_15 fr st k=evK gS fi77 c77_16 fr st (.blk 0 k) ∧
 (evK gS fi77 c77_13 fr st k=opsR gS fi77 [qF 21 91 2 1 0,
 ld 22 3 21 3] fr st (.seq c77_15 k)) ∧
 evK gS fi77 c77_91 fr st k=opsR gS fi77 [qA 4 true 4] fr st (.seq .ret k) ∧
 evK gS fi77 c77_90 fr st k=condK gS fi77 (fr.op (.tmp 111)).bool? c77_91 .skip fr st k ∧
 (evK gS fi77 c77_88 fr st k=opsR gS fi77 [ld 109 88 3 88,
 ld 110 88 10 88,
 cal 111 100 [(.tmp 109),(.tmp 110)] [88,88] 4] fr st (.seq c77_90 k)) ∧
 (evK gS fi77 c77_86 fr st k=opsR gS fi77 [ixa 107 89 103 105 0,
 ld 108 88 107 88,
 op1 10 (.alloc 88) 0,
 sto 88 10 108] fr st (.seq c77_88 k)) ∧
 (evK gS fi77 c77_95 fr st k=opsR gS fi77 [qB 112 .add 3 105 1 3 3,
 mv 105 112 3] fr st k) ∧
 evK gS fi77 c77_84 fr st k=evK gS fi77 c77_86 fr st (.blk 2 (.seq c77_95 k)) ∧
 evK gS fi77 c77_80 fr st k=condK gS fi77 (fr.op (.tmp 106)).bool? .skip (.exit 1) fr st (.seq c77_84 k) ∧
 evK gS fi77 c77_78 fr st k=opsR gS fi77 [bop 106 .lss 3 105 104 3 0] fr st (.seq c77_80 k) ∧
 evK gS fi77 c77_76 fr st k=evK gS fi77 c77_77 fr st (.blk 1 k) ∧
 (evK gS fi77 c77_74 fr st k=opsR gS fi77 [qF 102 91 2 4 0,
 ld 103 89 102 89,
 len1 104 103 89 3,
 op1 105 (.move (.const (.int .i64 0))) 3] fr st (.seq c77_76 k)) ∧
 evK gS fi77 c77_96 fr st k=opsR gS fi77 [qA 4 false 4] fr st (.seq .ret k) ∧
 evK gS fi77 c77_73 fr st k=evK gS fi77 c77_74 fr st (.seq c77_96 k) ∧
 evK gS fi77 c77_12 fr st k=evK gS fi77 c77_13 fr st (.seq c77_73 k) ∧
 (evK gS fi77 c77_10 fr st k=opsR gS fi77 [ld 15 88 3 88,
 qF 16 91 2 2 0,
 ld 17 88 16 88,
 cal 18 98 [(.tmp 15),(.tmp 17)] [88,88] 125,
 mv 14 18 125,
 op1 19 (.extract (.tmp 14) 0) 3,
 op1 20 (.extract (.tmp 14) 1) 4,
 asn 5 19 3,
 asn 6 20 4] fr st (.seq c77_12 k)) ∧
 evK gS fi77 c77_2 fr st k=evK gS fi77 c77_3 fr st (.seq c77_10 k) ∧
 (evK gS fi77 c77_0 fr st k=opsR gS fi77 [op1 2 (.box 91 (.tmp 0)) 0,
 op1 3 (.box 88 (.tmp 1)) 0,
 qA 4 false 4] fr st (.seq c77_2 k)):=⟨evK_rs 2 rfl (by kernel_rfl),rfl,evK_rs 1 rfl (by kernel_rfl),evK_rs 6 rfl (by kernel_rfl),evK_rs 8 rfl (by kernel_rfl),evK_rs 10 rfl (by kernel_rfl),evK_rs 12 rfl (by kernel_rfl),evK_rs 14 rfl (by kernel_rfl),evK_rs 16 rfl (by kernel_rfl),evK_rs 18 rfl (by kernel_rfl),evK_rs 21 rfl (by kernel_rfl),evK_rs 20 rfl (by kernel_rfl),evK_rs 23 rfl (by kernel_rfl),rfl,evK_rs 22 rfl (by kernel_rfl),rfl,evK_rs 19 rfl (by kernel_rfl),rfl,evK_rs 17 rfl (by kernel_rfl),rfl,evK_rs 15 rfl (by kernel_rfl),rfl,evK_rs 13 rfl (by kernel_rfl),rfl,evK_rs 11 rfl (by kernel_rfl),rfl,evK_rs 9 rfl (by kernel_rfl),rfl,evK_rs 7 rfl (by kernel_rfl),rfl,evK_rs 5 rfl (by kernel_rfl),rfl,evK_rs 4 rfl (by kernel_rfl),evK_rs 28 rfl (by kernel_rfl),rfl,evK_rs 27 rfl (by kernel_rfl),evK_rs 26 rfl (by kernel_rfl),evK_r 29 (by kernel_rfl),rfl,rfl,evK_rs 25 rfl (by kernel_rfl),rfl,evK_rs 24 rfl (by kernel_rfl),evK_rs 30 rfl (by kernel_rfl),rfl,rfl,evK_rs 3 rfl (by kernel_rfl),rfl,evK_rs 0 rfl (by kernel_rfl)⟩
theorem m77:mini fi77.body=c77_0:=by kernel_rfl
theorem n77_77 (fr:Fr)(st:St)(k:Kt):nextK gS fi77 (.loop c77_78 k) .normal fr st=evK gS fi77 c77_77 fr st k:=rfl
theorem L77_77 (p:Pred)(v:Val)(h_p:p.ok)(st:St):∀ (n i:Nat) (j:Int)  (e0 e1 e2 e4 e5 e6 e7 e8 e10 e22:E) (T:List (Nat × E)) (X:List (Nat × List V)) (ht0:e0.Tame) (ht1:e1.Tame) (ht2:e2.Tame) (ht4:e4.Tame) (ht5:e5.Tame) (ht6:e6.Tame) (ht7:e7.Tame) (ht8:e8.Tame) (ht10:e10.Tame) (ht22:e22.Tame) (hx3:lk X 3=some [.int .i64 v.kind,.int .i64 v.n,.float .f64 v.x,.str v.s,.bool v.b]) ,j=(i:Int)→i≤(p.set).length→(p.set).length - i=n →
  evK gS fi77 c77_77 {ps:=[(0,e0),(1,e1),(2,e2),(3,.lp 3 0),(4,e4),(5,e5),(6,e6),(7,e7),(8,e8),(10,e10),(22,e22),(103,.val (.slice (encVals p.set))),(104,.val (.int .i64 p.set.length)),(105,.val (.int .i64 j))],ts:=T,lc:=X} st (.blk 1 (.seq c77_96 .nil))=some ((.ret (.bool ((p.set.drop i).any (vis v))) none),st):=by
 intro n
 have hpo:=h_p.2
 induction n with
 | zero =>
  intro i j  e0 e1 e2 e4 e5 e6 e7 e8 e10 e22 T X ht0 ht1 ht2 ht4 ht5 ht6 ht7 ht8 ht10 ht22 hx3  hj hi hn
  obtain rfl:i=(p.set).length:=by omega
  subst hj
  refine evK_loop c77_78 _ st _ _ rfl ?_
  simp (config:={contextual:=true,maxSteps:=10000000,maxDischargeDepth:=6}) [-zil,-zit,-znl,-znt,ty3,ty4,ty9,ty88,ty89,ty91,eq88,H77,k97,k100,k98,k99,E77,n77_77,ht0,ht1,ht2,ht4,ht5,ht6,ht7,ht8,ht10,ht22,hx3]
  all_goals first | done | grind | omega
 | succ n ih =>
  intro i j  e0 e1 e2 e4 e5 e6 e7 e8 e10 e22 T X ht0 ht1 ht2 ht4 ht5 ht6 ht7 ht8 ht10 ht22 hx3  hj hi hn
  subst hj
  obtain ⟨x,hx⟩  := qgx (l:=(p.set)) (i:=i) (by omega)
  have hd:=drop_get hx
  have hlt:(i:Int)<((p.set).length:Int):=by omega
  have hlt2:i<(p.set).length:=by omega
  have hxe:(p.set)[i]'hlt2=x:=by rw [zge hlt2] at hx;exact Option.some.inj hx
  have hw:IntKind.wrap .i64 ((i:Int)+1)=(i:Int)+1:=wrap64 (by omega) (by omega)
  have IH:=fun e0 e1 e2 e4 e5 e6 e7 e8 e10 e22 T X ht0 ht1 ht2 ht4 ht5 ht6 ht7 ht8 ht10 ht22 hx3=>ih (i+1) ((i:Int)+1) e0 e1 e2 e4 e5 e6 e7 e8 e10 e22 T X ht0 ht1 ht2 ht4 ht5 ht6 ht7 ht8 ht10 ht22 hx3 rfl (by omega) (by omega)
  refine evK_loop c77_78 _ st _ _ rfl ?_
  simp (config:={contextual:=true,maxSteps:=10000000,maxDischargeDepth:=6}) [-zil,-zit,-znl,-znt,ty3,ty4,ty9,ty88,ty89,ty91,eq88,H77,k97,k100,k98,k99,E77,n77_77,ht0,ht1,ht2,ht4,ht5,ht6,ht7,ht8,ht10,ht22,hx3,hx,hxe,hd,hlt,hlt2,hw,IH]
  all_goals first | done | grind | omega
theorem c77 (p:Pred)(v:Val)  (h_p:Pred.ok p) (st:St):EvF gS 77 [p.enc,v.enc] st=some (.ret (.bool (ptakes p v)) none,st):=by
 refine EvF_start fi21_eq (fun x h=>by cases h) m77 ?_
 rw [st77]
 simp (config:={contextual:=true,maxSteps:=10000000,maxDischargeDepth:=6}) [-zil,-zit,-znl,-znt,ty3,ty4,ty9,ty88,ty89,ty91,eq88,H77,k97,k100,k98,k99,E77,n77_77,(fun e0 e1 e2 e4 e5 e6 e7 e8 e10 e22 T X ht0 ht1 ht2 ht4 ht5 ht6 ht7 ht8 ht10 ht22 hx3=>L77_77 p v h_p st _ 0 0  e0 e1 e2 e4 e5 e6 e7 e8 e10 e22 T X ht0 ht1 ht2 ht4 ht5 ht6 ht7 ht8 ht10 ht22 hx3 rfl (Nat.zero_le _) rfl),h_p.1,h_p.2]
 all_goals try simp (config:={contextual:=true}) [-zil,-zit,-znl,-znt,ptakes]
 all_goals first | done | grind | omega
theorem k77 (p_name:List UInt8)(p_test:Int)(p_vk:Int)(p_vn:Int)(p_vx:Nat)(p_vs:List UInt8)(p_vb:Bool)(p_wk:Int)(p_wn:Int)(p_wx:Nat)(p_ws:List UInt8)(p_wb:Bool)(p_set:List Val)(v_k:Int)(v_n:Int)(v_x:Nat)(v_s:List UInt8)(v_b:Bool)  (h_p:Pred.ok (⟨p_name,p_test,⟨p_vk,p_vn,p_vx,p_vs,p_vb⟩,⟨p_wk,p_wn,p_wx,p_ws,p_wb⟩,p_set⟩:Pred)) (fr:Fr) (st:St):callStep gS (EvF gS) 77 [.agg [.str p_name,.int .i64 p_test,.int .i64 p_vk,.int .i64 p_vn,.float .f64 p_vx,.str p_vs,.bool p_vb,.int .i64 p_wk,.int .i64 p_wn,.float .f64 p_wx,.str p_ws,.bool p_wb,.slice (encVals p_set)],.agg [.int .i64 v_k,.int .i64 v_n,.float .f64 v_x,.str v_s,.bool v_b]] fr st=some (.ok (retE none (.bool (ptakes (⟨p_name,p_test,⟨p_vk,p_vn,p_vx,p_vs,p_vb⟩,⟨p_wk,p_wn,p_wx,p_ws,p_wb⟩,p_set⟩:Pred) (⟨v_k,v_n,v_x,v_s,v_b⟩:Val)))) fr st) :=
 call_pure rfl fi21_eq rfl (fun st=>c77 (⟨p_name,p_test,⟨p_vk,p_vn,p_vx,p_vs,p_vb⟩,⟨p_wk,p_wn,p_wx,p_ws,p_wb⟩,p_set⟩:Pred) (⟨v_k,v_n,v_x,v_s,v_b⟩:Val) h_p st) (by simp)
def fi113:FI:={body:=codeOf Try.f113,ntmps:=50,results:=[.tmp 2],pers:=[0,1,2,3,4,6,11,12,40,41,42],locals:=[1,6],pure:=true,marks:=[]}
theorem H113:fi113.marks=[]∧fi113.locals=[1,6]∧fi113.results=[.tmp 2]:=⟨rfl,rfl,rfl⟩
theorem fi23_eq:gS.fn 113=some fi113:=by kernel_rfl
theorem st113 (a0:V):startFr fi113 [a0]={ps:=[(0,.val a0),(1,.any),(2,.any),(3,.any),(4,.any),(6,.any),(11,.any),(12,.any),(40,.any),(41,.any),(42,.any)],ts:=[],lc:=[]}:=rfl
def b113:Code:=mini (codeOf Try.f113)
def c113_6:Code:=.seq (codeN b113 37) .ret
def c113_5:Code:=.cond (.tmp 9) c113_6 .skip
def c113_3:Code:=.seq (codeN b113 9) c113_5
def c113_31:Code:=codeN b113 32715
def c113_29:Code:=.cond (.tmp 12) .skip c113_31
def c113_27:Code:=.seq (codeN b113 12235) c113_29
def c113_25:Code:=.cond (.tmp 12) .skip c113_27
def c113_23:Code:=.seq (codeN b113 3019) c113_25
def c113_21:Code:=.cond (.tmp 12) .skip c113_23
def c113_19:Code:=.seq (codeN b113 715) c113_21
def c113_17:Code:=.cond (.tmp 12) .skip c113_19
def c113_15:Code:=.seq (codeN b113 139) c113_17
def c113_33:Code:=.seq (codeN b113 299) .ret
def c113_41:Code:=.seq (codeN b113 2795) .ret
def c113_39:Code:=.seq (codeN b113 1259) c113_41
def c113_65:Code:=.seq (codeN b113 10064875) .ret
def c113_64:Code:=.cond (.tmp 48) c113_65 .skip
def c113_62:Code:=.seq (codeN b113 2724843) c113_64
def c113_60:Code:=.seq (codeN b113 1151979) c113_62
def c113_69:Code:=codeN b113 496619
def c113_58:Code:=.seq (.block 2 c113_60) c113_69
def c113_54:Code:=.seq (.cond (.tmp 43) .skip (.exit 1)) c113_58
def c113_52:Code:=.seq (codeN b113 70635) c113_54
def c113_51:Code:=.loop c113_52
def c113_50:Code:=.block 1 c113_51
def c113_48:Code:=.seq (codeN b113 9195) c113_50
def c113_70:Code:=.seq (codeN b113 11243) .ret
def c113_47:Code:=.seq c113_48 c113_70
def c113_46:Code:=.cond (.tmp 37) c113_47 .skip
def c113_44:Code:=.seq (codeN b113 1515) c113_46
def c113_38:Code:=.cond (.tmp 21) c113_39 c113_44
def c113_36:Code:=.seq (codeN b113 363) c113_38
def c113_32:Code:=.cond (.tmp 12) c113_33 c113_36
def c113_14:Code:=.seq c113_15 c113_32
def c113_13:Code:=.block 0 c113_14
def c113_11:Code:=.seq (codeN b113 19) c113_13
def c113_74:Code:=.seq (codeN b113 23) .ret
def c113_10:Code:=.seq c113_11 c113_74
def c113_2:Code:=.seq c113_3 c113_10
def c113_0:Code:=.seq (codeN b113 2) c113_2
theorem E113:evK gS fi113 c113_6 fr st k=opsR gS fi113 [qA 2 false 4] fr st (.seq .ret k) ∧
 evK gS fi113 c113_5 fr st k=condK gS fi113 (fr.op (.tmp 9)).bool? c113_6 .skip fr st k ∧
 (evK gS fi113 c113_3 fr st k=opsR gS fi113 [ld 7 91 1 91,
 cal 8 97 [(.tmp 7)] [91] 4,
 op1 9 (.unOp .not 4 (.tmp 8)) 4] fr st (.seq c113_5 k)) ∧
 (evK gS fi113 c113_31 fr st k=opsR gS fi113 [qB 17 .eql 3 11 7 3 4,
 asn 12 17 4] fr st k) ∧
 evK gS fi113 c113_29 fr st k=condK gS fi113 (fr.op (.tmp 12)).bool? .skip c113_31 fr st k ∧
 (evK gS fi113 c113_27 fr st k=opsR gS fi113 [qB 16 .eql 3 11 6 3 4,
 asn 12 16 4] fr st (.seq c113_29 k)) ∧
 evK gS fi113 c113_25 fr st k=condK gS fi113 (fr.op (.tmp 12)).bool? .skip c113_27 fr st k ∧
 (evK gS fi113 c113_23 fr st k=opsR gS fi113 [qB 15 .eql 3 11 5 3 4,
 asn 12 15 4] fr st (.seq c113_25 k)) ∧
 evK gS fi113 c113_21 fr st k=condK gS fi113 (fr.op (.tmp 12)).bool? .skip c113_23 fr st k ∧
 (evK gS fi113 c113_19 fr st k=opsR gS fi113 [qB 14 .eql 3 11 4 3 4,
 asn 12 14 4] fr st (.seq c113_21 k)) ∧
 evK gS fi113 c113_17 fr st k=condK gS fi113 (fr.op (.tmp 12)).bool? .skip c113_19 fr st k ∧
 (evK gS fi113 c113_15 fr st k=opsR gS fi113 [qB 13 .eql 3 11 2 3 4,
 asn 12 13 4] fr st (.seq c113_17 k)) ∧
 (evK gS fi113 c113_33 fr st k=opsR gS fi113 [qF 18 91 1 2 0,
 ld 19 88 18 88,
 cal 20 132 [(.tmp 19)] [88] 4,
 asn 2 20 4] fr st (.seq .ret k)) ∧
 (evK gS fi113 c113_41 fr st k=opsR gS fi113 [mv 31 4 4,
 op1 32 (.unOp .not 4 (.tmp 31)) 4,
 mv 33 32 4,
 qm 34 3 3 2 false,
 qc 35 .gtr 3 34 0 3 4 2 false,
 qQ 36 33 true 35 4,
 asn 2 36 4] fr st (.seq .ret k)) ∧
 (evK gS fi113 c113_39 fr st k=opsR gS fi113 [qF 24 91 1 2 0,
 ld 25 88 24 88,
 qF 26 91 1 3 0,
 ld 27 88 26 88,
 cal 28 98 [(.tmp 25),(.tmp 27)] [88,88] 125,
 mv 23 28 125,
 op1 29 (.extract (.tmp 23) 0) 3,
 op1 30 (.extract (.tmp 23) 1) 4,
 asn 3 29 3,
 asn 4 30 4] fr st (.seq c113_41 k)) ∧
 evK gS fi113 c113_65 fr st k=opsR gS fi113 [qA 2 false 4] fr st (.seq .ret k) ∧
 evK gS fi113 c113_64 fr st k=condK gS fi113 (fr.op (.tmp 48)).bool? c113_65 .skip fr st k ∧
 (evK gS fi113 c113_62 fr st k=opsR gS fi113 [ld 46 88 6 88,
 cal 47 132 [(.tmp 46)] [88] 4,
 op1 48 (.unOp .not 4 (.tmp 47)) 4] fr st (.seq c113_64 k)) ∧
 (evK gS fi113 c113_60 fr st k=opsR gS fi113 [ixa 44 89 40 42 0,
 ld 45 88 44 88,
 op1 6 (.alloc 88) 0,
 sto 88 6 45] fr st (.seq c113_62 k)) ∧
 (evK gS fi113 c113_69 fr st k=opsR gS fi113 [qB 49 .add 3 42 1 3 3,
 mv 42 49 3] fr st k) ∧
 evK gS fi113 c113_58 fr st k=evK gS fi113 c113_60 fr st (.blk 2 (.seq c113_69 k)) ∧
 evK gS fi113 c113_54 fr st k=condK gS fi113 (fr.op (.tmp 43)).bool? .skip (.exit 1) fr st (.seq c113_58 k) ∧
 evK gS fi113 c113_52 fr st k=opsR gS fi113 [bop 43 .lss 3 42 41 3 0] fr st (.seq c113_54 k) ∧
 evK gS fi113 c113_50 fr st k=evK gS fi113 c113_51 fr st (.blk 1 k) ∧
 (evK gS fi113 c113_48 fr st k=opsR gS fi113 [qF 39 91 1 4 0,
 ld 40 89 39 89,
 len1 41 40 89 3,
 op1 42 (.move (.const (.int .i64 0))) 3] fr st (.seq c113_50 k)) ∧
 evK gS fi113 c113_70 fr st k=opsR gS fi113 [qA 2 true 4] fr st (.seq .ret k) ∧
 evK gS fi113 c113_47 fr st k=evK gS fi113 c113_48 fr st (.seq c113_70 k) ∧
 evK gS fi113 c113_46 fr st k=condK gS fi113 (fr.op (.tmp 37)).bool? c113_47 .skip fr st k ∧
 (evK gS fi113 c113_44 fr st k=opsR gS fi113 [qB 38 .eql 3 11 10 3 4,
 asn 37 38 4] fr st (.seq c113_46 k)) ∧
 evK gS fi113 c113_38 fr st k=condK gS fi113 (fr.op (.tmp 21)).bool? c113_39 c113_44 fr st k ∧
 (evK gS fi113 c113_36 fr st k=opsR gS fi113 [qB 22 .eql 3 11 8 3 4,
 asn 21 22 4] fr st (.seq c113_38 k)) ∧
 evK gS fi113 c113_32 fr st k=condK gS fi113 (fr.op (.tmp 12)).bool? c113_33 c113_36 fr st k ∧
 evK gS fi113 c113_14 fr st k=evK gS fi113 c113_15 fr st (.seq c113_32 k) ∧
 evK gS fi113 c113_13 fr st k=evK gS fi113 c113_14 fr st (.blk 0 k) ∧
 (evK gS fi113 c113_11 fr st k=opsR gS fi113 [qF 10 91 1 1 0,
 ld 11 3 10 3] fr st (.seq c113_13 k)) ∧
 evK gS fi113 c113_74 fr st k=opsR gS fi113 [qA 2 false 4] fr st (.seq .ret k) ∧
 evK gS fi113 c113_10 fr st k=evK gS fi113 c113_11 fr st (.seq c113_74 k) ∧
 evK gS fi113 c113_2 fr st k=evK gS fi113 c113_3 fr st (.seq c113_10 k) ∧
 (evK gS fi113 c113_0 fr st k=opsR gS fi113 [op1 1 (.box 91 (.tmp 0)) 0,
 qA 2 false 4] fr st (.seq c113_2 k)):=⟨evK_rs 2 rfl (by kernel_rfl),rfl,evK_rs 1 rfl (by kernel_rfl),evK_r 8 (by kernel_rfl),rfl,evK_rs 7 rfl (by kernel_rfl),rfl,evK_rs 6 rfl (by kernel_rfl),rfl,evK_rs 5 rfl (by kernel_rfl),rfl,evK_rs 4 rfl (by kernel_rfl),evK_rs 9 rfl (by kernel_rfl),evK_rs 12 rfl (by kernel_rfl),evK_rs 11 rfl (by kernel_rfl),evK_rs 18 rfl (by kernel_rfl),rfl,evK_rs 17 rfl (by kernel_rfl),evK_rs 16 rfl (by kernel_rfl),evK_r 19 (by kernel_rfl),rfl,rfl,evK_rs 15 rfl (by kernel_rfl),rfl,evK_rs 14 rfl (by kernel_rfl),evK_rs 20 rfl (by kernel_rfl),rfl,rfl,evK_rs 13 rfl (by kernel_rfl),rfl,evK_rs 10 rfl (by kernel_rfl),rfl,rfl,rfl,evK_rs 3 rfl (by kernel_rfl),evK_rs 21 rfl (by kernel_rfl),rfl,rfl,evK_rs 0 rfl (by kernel_rfl)⟩
theorem m113:mini fi113.body=c113_0:=by kernel_rfl
theorem n113_51 (fr:Fr)(st:St)(k:Kt):nextK gS fi113 (.loop c113_52 k) .normal fr st=evK gS fi113 c113_51 fr st k:=rfl
theorem L113_51 (p:Pred)(h_p:p.ok)(st:St):∀ (n i:Nat) (j:Int)  (e0 e1 e2 e3 e4 e6 e11 e12:E) (T:List (Nat × E)) (X:List (Nat × List V)) (ht0:e0.Tame) (ht1:e1.Tame) (ht2:e2.Tame) (ht3:e3.Tame) (ht4:e4.Tame) (ht6:e6.Tame) (ht11:e11.Tame) (ht12:e12.Tame) ,j=(i:Int)→i≤(p.set).length→(p.set).length - i=n →
  evK gS fi113 c113_51 {ps:=[(0,e0),(1,e1),(2,e2),(3,e3),(4,e4),(6,e6),(11,e11),(12,e12),(40,.val (.slice (encVals p.set))),(41,.val (.int .i64 p.set.length)),(42,.val (.int .i64 j))],ts:=T,lc:=X} st (.blk 1 (.seq c113_70 (.blk 0 (.seq c113_74 .nil))))=some ((.ret (.bool ((p.set.drop i).all vnan)) none),st):=by
 intro n
 have hpo:=h_p.2
 induction n with
 | zero =>
  intro i j  e0 e1 e2 e3 e4 e6 e11 e12 T X ht0 ht1 ht2 ht3 ht4 ht6 ht11 ht12  hj hi hn
  obtain rfl:i=(p.set).length:=by omega
  subst hj
  refine evK_loop c113_52 _ st _ _ rfl ?_
  simp (config:={contextual:=true,maxSteps:=10000000,maxDischargeDepth:=6}) [-zil,-zit,-znl,-znt,ty3,ty4,ty88,ty89,ty91,eq88,H113,k97,k98,k132,E113,n113_51,ht0,ht1,ht2,ht3,ht4,ht6,ht11,ht12]
  all_goals first | done | grind | omega
 | succ n ih =>
  intro i j  e0 e1 e2 e3 e4 e6 e11 e12 T X ht0 ht1 ht2 ht3 ht4 ht6 ht11 ht12  hj hi hn
  subst hj
  obtain ⟨x,hx⟩  := qgx (l:=(p.set)) (i:=i) (by omega)
  have hd:=drop_get hx
  have hlt:(i:Int)<((p.set).length:Int):=by omega
  have hlt2:i<(p.set).length:=by omega
  have hxe:(p.set)[i]'hlt2=x:=by rw [zge hlt2] at hx;exact Option.some.inj hx
  have hw:IntKind.wrap .i64 ((i:Int)+1)=(i:Int)+1:=wrap64 (by omega) (by omega)
  have IH:=fun e0 e1 e2 e3 e4 e6 e11 e12 T X ht0 ht1 ht2 ht3 ht4 ht6 ht11 ht12=>ih (i+1) ((i:Int)+1) e0 e1 e2 e3 e4 e6 e11 e12 T X ht0 ht1 ht2 ht3 ht4 ht6 ht11 ht12 rfl (by omega) (by omega)
  refine evK_loop c113_52 _ st _ _ rfl ?_
  simp (config:={contextual:=true,maxSteps:=10000000,maxDischargeDepth:=6}) [-zil,-zit,-znl,-znt,ty3,ty4,ty88,ty89,ty91,eq88,H113,k97,k98,k132,E113,n113_51,ht0,ht1,ht2,ht3,ht4,ht6,ht11,ht12,hx,hxe,hd,hlt,hlt2,hw,IH]
  all_goals first | done | grind | omega
theorem c113 (p:Pred)  (h_p:Pred.ok p) (st:St):EvF gS 113 [p.enc] st=some (.ret (.bool (pvoid p)) none,st):=by
 refine EvF_start fi23_eq (fun x h=>by cases h) m113 ?_
 rw [st113]
 simp (config:={contextual:=true,maxSteps:=10000000,maxDischargeDepth:=6}) [-zil,-zit,-znl,-znt,ty3,ty4,ty88,ty89,ty91,eq88,H113,k97,k98,k132,E113,n113_51,(fun e0 e1 e2 e3 e4 e6 e11 e12 T X ht0 ht1 ht2 ht3 ht4 ht6 ht11 ht12=>L113_51 p h_p st _ 0 0  e0 e1 e2 e3 e4 e6 e11 e12 T X ht0 ht1 ht2 ht3 ht4 ht6 ht11 ht12 rfl (Nat.zero_le _) rfl),h_p.1,h_p.2]
 all_goals try simp (config:={contextual:=true}) [-zil,-zit,-znl,-znt,pvoid]
 all_goals first | done | grind | omega
theorem k113 (p_name:List UInt8)(p_test:Int)(p_vk:Int)(p_vn:Int)(p_vx:Nat)(p_vs:List UInt8)(p_vb:Bool)(p_wk:Int)(p_wn:Int)(p_wx:Nat)(p_ws:List UInt8)(p_wb:Bool)(p_set:List Val)  (h_p:Pred.ok (⟨p_name,p_test,⟨p_vk,p_vn,p_vx,p_vs,p_vb⟩,⟨p_wk,p_wn,p_wx,p_ws,p_wb⟩,p_set⟩:Pred)) (fr:Fr) (st:St):callStep gS (EvF gS) 113 [.agg [.str p_name,.int .i64 p_test,.int .i64 p_vk,.int .i64 p_vn,.float .f64 p_vx,.str p_vs,.bool p_vb,.int .i64 p_wk,.int .i64 p_wn,.float .f64 p_wx,.str p_ws,.bool p_wb,.slice (encVals p_set)]] fr st=some (.ok (retE none (.bool (pvoid (⟨p_name,p_test,⟨p_vk,p_vn,p_vx,p_vs,p_vb⟩,⟨p_wk,p_wn,p_wx,p_ws,p_wb⟩,p_set⟩:Pred)))) fr st) :=
 call_pure rfl fi23_eq rfl (fun st=>c113 (⟨p_name,p_test,⟨p_vk,p_vn,p_vx,p_vs,p_vb⟩,⟨p_wk,p_wn,p_wx,p_ws,p_wb⟩,p_set⟩:Pred) h_p st) (by simp)
end
end Go.Proofs.Ytdoobejjedpcgaa
namespace Go.Ab
open Go
theorem ended_key (q:Pred):((lowE q).is || (highE q).is)=(decide (4≤q.test) && decide (q.test≤8)):=by
 unfold lowE highE
 by_cases h4:q.test=4
 ·simp [h4]
 ·by_cases h5:q.test=5
  ·simp [h5]
  ·by_cases h6:q.test=6
   ·simp [h6]
   ·by_cases h7:q.test=7
    ·simp [h7]
    ·by_cases h8:q.test=8
     ·simp [h8]
     ·simp [h4,h5,h6,h7,h8];omega
end Go.Ab
namespace Go.Proofs.Ytdoobejjedpcgaa
open Go Go.Ab
noncomputable section
variable (fr:Fr)(st:St)(k:Kt)
def fi134:FI:={body:=codeOf Try.f134,ntmps:=34,results:=[.cell 2 143,.cell 3 143],pers:=[0,1,2,3,5,6,15],locals:=[1,2,3],pure:=true,marks:=[]}
theorem H134:fi134.marks=[]∧fi134.locals=[1,2,3]∧fi134.results=[.cell 2 143,.cell 3 143]:=⟨rfl,rfl,rfl⟩
theorem fi85_eq:gS.fn 134=some fi134:=by kernel_rfl
theorem st134 (a0:V):startFr fi134 [a0]={ps:=[(0,.val a0),(1,.any),(2,.any),(3,.any),(5,.any),(6,.any),(15,.any)],ts:=[],lc:=[]}:=rfl
def b134:Code:=mini (codeOf Try.f134)
def c134_11:Code:=codeN b134 229
def c134_9:Code:=.cond (.tmp 6) .skip c134_11
def c134_7:Code:=.seq (codeN b134 69) c134_9
def c134_13:Code:=codeN b134 85
def c134_19:Code:=codeN b134 949
def c134_17:Code:=.cond (.tmp 15) .skip c134_19
def c134_15:Code:=.seq (codeN b134 309) c134_17
def c134_21:Code:=codeN b134 373
def r134_25:Array Oper:=regOps (codeN (codeOf Try.f134) 1525)
def c134_25:Code:=.region 9 r134_25 true
def q134_25:List (Oper × Fl):=[(qF 26 91 1 2 0,qz0),
 (ld 27 88 26 88,qz0),
 (op1 28 (.build 143 #[(0,(.const (.bool true))),(2,(.tmp 27))]) 143,qz0),
 (qF 29 91 1 3 0,qz3),
 (ld 30 88 29 88,⟨true,false,false,false,false,false,true,false,false,false,[2]⟩),
 (op1 31 (.build 143 #[(0,(.const (.bool true))),(2,(.tmp 30))]) 143,qz3),
 (sto 143 2 28,qz4),
 (sto 143 3 31,qz5)]
def c134_24:Code:=.cond (.tmp 24) c134_25 .skip
def c134_22:Code:=.seq (codeN b134 757) c134_24
def c134_20:Code:=.cond (.tmp 15) c134_21 c134_22
def c134_14:Code:=.seq c134_15 c134_20
def c134_12:Code:=.cond (.tmp 6) c134_13 c134_14
def c134_6:Code:=.seq c134_7 c134_12
def c134_5:Code:=.block 0 c134_6
def c134_3:Code:=.seq (codeN b134 9) c134_5
def r134_28:Array Oper:=regOps (codeN (codeOf Try.f134) 11)
def c134_28:Code:=.region 10 r134_28 true
def q134_28:List (Oper × Fl):=[(ld 32 143 2 143,qz0),
 (ld 33 143 3 143,⟨true,false,false,false,false,false,true,false,false,false,[2]⟩),
 (sto 143 2 32,qz4),
 (sto 143 3 33,qz5)]
def c134_27:Code:=.seq c134_28 .ret
def c134_2:Code:=.seq c134_3 c134_27
def c134_0:Code:=.seq (codeN b134 2) c134_2
theorem E134:(evK gS fi134 c134_11 fr st k=opsR gS fi134 [qB 8 .eql 3 5 5 3 4,
 asn 6 8 4] fr st k) ∧
 evK gS fi134 c134_9 fr st k=condK gS fi134 (fr.op (.tmp 6)).bool? .skip c134_11 fr st k ∧
 (evK gS fi134 c134_7 fr st k=opsR gS fi134 [qB 7 .eql 3 5 4 3 4,
 asn 6 7 4] fr st (.seq c134_9 k)) ∧
 (evK gS fi134 c134_13 fr st k=opsR gS fi134 [qF 9 91 1 1 0,
 ld 10 3 9 3,
 qB 11 .eql 3 10 4 3 4,
 qF 12 91 1 2 0,
 ld 13 88 12 88,
 op1 14 (.build 143 #[(0,(.const (.bool true))),(1,(.tmp 11)),(2,(.tmp 13))]) 143,
 sto 143 3 14] fr st k) ∧
 (evK gS fi134 c134_19 fr st k=opsR gS fi134 [qB 17 .eql 3 5 7 3 4,
 asn 15 17 4] fr st k) ∧
 evK gS fi134 c134_17 fr st k=condK gS fi134 (fr.op (.tmp 15)).bool? .skip c134_19 fr st k ∧
 (evK gS fi134 c134_15 fr st k=opsR gS fi134 [qB 16 .eql 3 5 6 3 4,
 asn 15 16 4] fr st (.seq c134_17 k)) ∧
 (evK gS fi134 c134_21 fr st k=opsR gS fi134 [qF 18 91 1 1 0,
 ld 19 3 18 3,
 qB 20 .eql 3 19 6 3 4,
 qF 21 91 1 2 0,
 ld 22 88 21 88,
 op1 23 (.build 143 #[(0,(.const (.bool true))),(1,(.tmp 20)),(2,(.tmp 22))]) 143,
 sto 143 2 23] fr st k) ∧
 evK gS fi134 c134_25 fr st k=drwR gS fi134 r134_25 q134_25 fr st k ∧
 evK gS fi134 c134_24 fr st k=condK gS fi134 (fr.op (.tmp 24)).bool? c134_25 .skip fr st k ∧
 (evK gS fi134 c134_22 fr st k=opsR gS fi134 [qB 25 .eql 3 5 8 3 4,
 asn 24 25 4] fr st (.seq c134_24 k)) ∧
 evK gS fi134 c134_20 fr st k=condK gS fi134 (fr.op (.tmp 15)).bool? c134_21 c134_22 fr st k ∧
 evK gS fi134 c134_14 fr st k=evK gS fi134 c134_15 fr st (.seq c134_20 k) ∧
 evK gS fi134 c134_12 fr st k=condK gS fi134 (fr.op (.tmp 6)).bool? c134_13 c134_14 fr st k ∧
 evK gS fi134 c134_6 fr st k=evK gS fi134 c134_7 fr st (.seq c134_12 k) ∧
 evK gS fi134 c134_5 fr st k=evK gS fi134 c134_6 fr st (.blk 0 k) ∧
 (evK gS fi134 c134_3 fr st k=opsR gS fi134 [qF 4 91 1 1 0,
 ld 5 3 4 3] fr st (.seq c134_5 k)) ∧
 evK gS fi134 c134_28 fr st k=drwR gS fi134 r134_28 q134_28 fr st k ∧
 evK gS fi134 c134_27 fr st k=evK gS fi134 c134_28 fr st (.seq .ret k) ∧
 evK gS fi134 c134_2 fr st k=evK gS fi134 c134_3 fr st (.seq c134_27 k) ∧
 (evK gS fi134 c134_0 fr st k=opsR gS fi134 [op1 1 (.box 91 (.tmp 0)) 0,
 op1 2 (.alloc 143) 0,
 op1 3 (.alloc 143) 0] fr st (.seq c134_2 k)):=⟨evK_r 3 (by kernel_rfl),rfl,evK_rs 2 rfl (by kernel_rfl),evK_r 4 (by kernel_rfl),evK_r 6 (by kernel_rfl),rfl,evK_rs 5 rfl (by kernel_rfl),evK_r 7 (by kernel_rfl),evK_dr 9 rfl (by kernel_rfl) (by kernel_rfl),rfl,evK_rs 8 rfl (by kernel_rfl),rfl,rfl,rfl,rfl,rfl,evK_rs 1 rfl (by kernel_rfl),evK_dr 10 rfl (by kernel_rfl) (by kernel_rfl),rfl,rfl,evK_rs 0 rfl (by kernel_rfl)⟩
theorem m134:mini fi134.body=c134_0:=by kernel_rfl
theorem c134 (p:Pred)  (st:St):EvF gS 134 [p.enc] st=some (.ret (.tuple [(lowE p).encP,(highE p).encP]) none,st):=by
 refine EvF_start fi85_eq (fun x h=>by cases h) m134 ?_
 rw [st134]
 simp (config:={contextual:=true,maxSteps:=10000000,maxDischargeDepth:=6}) [-zil,-zit,-znl,-znt,ty3,ty4,ty88,ty91,ty143,eq88,H134,E134,q134_25,q134_28]
 all_goals try simp (config:={contextual:=true}) [-zil,-zit,-znl,-znt,lowE,highE,vzero]
 all_goals first | done | grind | omega
theorem k134 (p_name:List UInt8)(p_test:Int)(p_vk:Int)(p_vn:Int)(p_vx:Nat)(p_vs:List UInt8)(p_vb:Bool)(p_wk:Int)(p_wn:Int)(p_wx:Nat)(p_ws:List UInt8)(p_wb:Bool)(p_set:List Val)  (fr:Fr) (st:St):callStep gS (EvF gS) 134 [.agg [.str p_name,.int .i64 p_test,.int .i64 p_vk,.int .i64 p_vn,.float .f64 p_vx,.str p_vs,.bool p_vb,.int .i64 p_wk,.int .i64 p_wn,.float .f64 p_wx,.str p_ws,.bool p_wb,.slice (encVals p_set)]] fr st=some (.ok (retE none (.tuple [(lowE (⟨p_name,p_test,⟨p_vk,p_vn,p_vx,p_vs,p_vb⟩,⟨p_wk,p_wn,p_wx,p_ws,p_wb⟩,p_set⟩:Pred)).encP,(highE (⟨p_name,p_test,⟨p_vk,p_vn,p_vx,p_vs,p_vb⟩,⟨p_wk,p_wn,p_wx,p_ws,p_wb⟩,p_set⟩:Pred)).encP])) fr st) :=
 call_pure rfl fi85_eq rfl (fun st=>c134 (⟨p_name,p_test,⟨p_vk,p_vn,p_vx,p_vs,p_vb⟩,⟨p_wk,p_wn,p_wx,p_ws,p_wb⟩,p_set⟩:Pred)  st) (by simp)
def fi135:FI:={body:=codeOf Try.f135,ntmps:=42,results:=[.tmp 6],pers:=[0,1,2,3,4,6,7,8],locals:=[3,4],pure:=true,marks:=[]}
theorem H135:fi135.marks=[]∧fi135.locals=[3,4]∧fi135.results=[.tmp 6]:=⟨rfl,rfl,rfl⟩
theorem fi86_eq:gS.fn 135=some fi135:=by kernel_rfl
theorem st135 (a0 a1 a2:V):startFr fi135 [a0,a1,a2]={ps:=[(0,.val a0),(1,.val a1),(2,.val a2),(3,.any),(4,.any),(6,.any),(7,.any),(8,.any)],ts:=[],lc:=[]}:=rfl
def b135:Code:=mini (codeOf Try.f135)
def c135_6:Code:=.seq (codeN b135 37) .ret
def c135_5:Code:=.cond (.tmp 11) c135_6 .skip
def c135_3:Code:=.seq (codeN b135 9) c135_5
def c135_14:Code:=.seq (codeN b135 75) .ret
def c135_13:Code:=.cond (.tmp 14) c135_14 .skip
def c135_11:Code:=.seq (codeN b135 19) c135_13
def c135_20:Code:=.seq (codeN b135 47) .ret
def c135_18:Code:=.seq (codeN b135 23) c135_20
def c135_10:Code:=.seq c135_11 c135_18
def c135_2:Code:=.seq c135_3 c135_10
def c135_0:Code:=.seq (codeN b135 2) c135_2
theorem E135:evK gS fi135 c135_6 fr st k=opsR gS fi135 [qA 6 true 4] fr st (.seq .ret k) ∧
 evK gS fi135 c135_5 fr st k=condK gS fi135 (fr.op (.tmp 11)).bool? c135_6 .skip fr st k ∧
 (evK gS fi135 c135_3 fr st k=opsR gS fi135 [qF 9 143 4 0 0,
 ld 10 4 9 4,
 op1 11 (.unOp .not 4 (.tmp 10)) 4] fr st (.seq c135_5 k)) ∧
 evK gS fi135 c135_14 fr st k=opsR gS fi135 [qA 6 false 4] fr st (.seq .ret k) ∧
 evK gS fi135 c135_13 fr st k=condK gS fi135 (fr.op (.tmp 14)).bool? c135_14 .skip fr st k ∧
 (evK gS fi135 c135_11 fr st k=opsR gS fi135 [qF 12 143 3 0 0,
 ld 13 4 12 4,
 op1 14 (.unOp .not 4 (.tmp 13)) 4] fr st (.seq c135_13 k)) ∧
 (evK gS fi135 c135_20 fr st k=opsR gS fi135 [mv 23 8 4,
 mv 24 23 4,
 qm 25 7 3 1 true,
 qm 26 2 3 1 true,
 qb 27 .eql 3 25 26 3 4 1 true,
 qm 28 27 4 1 true,
 qm 29 7 3 5 false,
 qc 30 .eql 3 29 0 3 4 5 false,
 qm 31 30 4 5 false,
 qf 32 143 4 1 0 8 true,
 ql 33 4 32 4 8 true,
 mk (some 34) (.unOp .not 4 (.tmp 33)) 4 (some (8,true)),
 qm 35 34 4 8 true,
 qf 36 143 3 1 0 12 false,
 ql 37 4 36 4 12 false,
 mk (some 38) (.pick (.tmp 35) (.const (.bool true)) (.tmp 37)) 4 (some (8,true)),
 mk (some 39) (.pick (.tmp 31) (.tmp 38) (.const (.bool false))) 4 (some (5,false)),
 mk (some 40) (.pick (.tmp 28) (.const (.bool true)) (.tmp 39)) 4 (some (1,true)),
 qP 41 24 40 false 4,
 asn 6 41 4] fr st (.seq .ret k)) ∧
 (evK gS fi135 c135_18 fr st k=opsR gS fi135 [qF 16 143 3 2 0,
 ld 17 88 16 88,
 qF 18 143 4 2 0,
 ld 19 88 18 88,
 cal 20 98 [(.tmp 17),(.tmp 19)] [88,88] 125,
 mv 15 20 125,
 op1 21 (.extract (.tmp 15) 0) 3,
 op1 22 (.extract (.tmp 15) 1) 4,
 asn 7 21 3,
 asn 8 22 4] fr st (.seq c135_20 k)) ∧
 evK gS fi135 c135_10 fr st k=evK gS fi135 c135_11 fr st (.seq c135_18 k) ∧
 evK gS fi135 c135_2 fr st k=evK gS fi135 c135_3 fr st (.seq c135_10 k) ∧
 (evK gS fi135 c135_0 fr st k=opsR gS fi135 [op1 3 (.box 143 (.tmp 0)) 0,
 op1 4 (.box 143 (.tmp 1)) 0,
 qA 6 false 4] fr st (.seq c135_2 k)):=⟨evK_rs 2 rfl (by kernel_rfl),rfl,evK_rs 1 rfl (by kernel_rfl),evK_rs 4 rfl (by kernel_rfl),rfl,evK_rs 3 rfl (by kernel_rfl),evK_rs 6 rfl (by kernel_rfl),evK_rs 5 rfl (by kernel_rfl),rfl,rfl,evK_rs 0 rfl (by kernel_rfl)⟩
theorem m135:mini fi135.body=c135_0:=by kernel_rfl
theorem c135 (q:PEnd)(p:PEnd)(t:Int)  (st:St):EvF gS 135 [q.encP,p.encP,.int .i64 t] st=some (.ret (.bool (within q p t)) none,st):=by
 refine EvF_start fi86_eq (fun x h=>by cases h) m135 ?_
 rw [st135]
 simp (config:={contextual:=true,maxSteps:=10000000,maxDischargeDepth:=6}) [-zil,-zit,-znl,-znt,ty3,ty4,ty88,ty143,eq88,H135,k98,E135]
 all_goals try simp (config:={contextual:=true}) [-zil,-zit,-znl,-znt,within]
 all_goals first | done | grind | omega
theorem k135 (q_is:Bool)(q_op:Bool)(q_k:Int)(q_n:Int)(q_x:Nat)(q_s:List UInt8)(q_b:Bool)(p_is:Bool)(p_op:Bool)(p_k:Int)(p_n:Int)(p_x:Nat)(p_s:List UInt8)(p_b:Bool)(t:Int)  (fr:Fr) (st:St):callStep gS (EvF gS) 135 [.agg [.bool q_is,.bool q_op,.int .i64 q_k,.int .i64 q_n,.float .f64 q_x,.str q_s,.bool q_b],.agg [.bool p_is,.bool p_op,.int .i64 p_k,.int .i64 p_n,.float .f64 p_x,.str p_s,.bool p_b],.int .i64 t] fr st=some (.ok (retE none (.bool (within (⟨q_is,q_op,⟨q_k,q_n,q_x,q_s,q_b⟩⟩:PEnd) (⟨p_is,p_op,⟨p_k,p_n,p_x,p_s,p_b⟩⟩:PEnd) t))) fr st) :=
 call_pure rfl fi86_eq rfl (fun st=>c135 (⟨q_is,q_op,⟨q_k,q_n,q_x,q_s,q_b⟩⟩:PEnd) (⟨p_is,p_op,⟨p_k,p_n,p_x,p_s,p_b⟩⟩:PEnd) t  st) (by simp)
end
end Go.Proofs.Ytdoobejjedpcgaa
namespace Go.Proofs.Ytdoobejjedpcgaa
open Go Go.Ab
noncomputable section
variable (fr:Fr)(st:St)(k:Kt)
def fi114:FI:={body:=codeOf Try.f114,ntmps:=141,results:=[.tmp 4],pers:=[0,1,2,3,4,6,7,8,9,10,11,12,47,57,58,59,117],locals:=[2,3,6,7,8,9,10],pure:=true,marks:=[]}
theorem H114:fi114.marks=[]∧fi114.locals=[2,3,6,7,8,9,10]∧fi114.results=[.tmp 4]:=⟨rfl,rfl,rfl⟩
theorem fi27_eq:gS.fn 114=some fi114:=by kernel_rfl
theorem st114 (a0 a1:V):startFr fi114 [a0,a1]={ps:=[(0,.val a0),(1,.val a1),(2,.any),(3,.any),(4,.any),(6,.any),(7,.any),(8,.any),(9,.any),(10,.any),(11,.any),(12,.any),(47,.any),(57,.any),(58,.any),(59,.any),(117,.any)],ts:=[],lc:=[]}:=rfl
def b114:Code:=mini (codeOf Try.f114)
def c114_6:Code:=.seq (codeN b114 37) .ret
def c114_5:Code:=.cond (.tmp 20) c114_6 .skip
def c114_3:Code:=.seq (codeN b114 9) c114_5
def c114_14:Code:=.seq (codeN b114 75) .ret
def c114_13:Code:=.cond (.tmp 27) c114_14 .skip
def c114_11:Code:=.seq (codeN b114 19) c114_13
def c114_22:Code:=.seq (codeN b114 151) .ret
def c114_21:Code:=.cond (.tmp 37) c114_22 .skip
def c114_19:Code:=.seq (codeN b114 39) c114_21
def c114_30:Code:=.seq (codeN b114 303) .ret
def c114_29:Code:=.cond (.tmp 40) c114_30 .skip
def c114_27:Code:=.seq (codeN b114 79) c114_29
def c114_41:Code:=.seq (codeN b114 2399) .ret
def c114_65:Code:=.seq (codeN b114 20129631) .ret
def c114_64:Code:=.cond (.tmp 71) c114_65 .skip
def c114_62:Code:=.seq (codeN b114 5449567) c114_64
def c114_60:Code:=.seq (codeN b114 2303839) c114_62
def c114_69:Code:=codeN b114 993119
def c114_58:Code:=.seq (.block 2 c114_60) c114_69
def c114_54:Code:=.seq (.cond (.tmp 60) .skip (.exit 1)) c114_58
def c114_52:Code:=.seq (codeN b114 141151) c114_54
def c114_51:Code:=.loop c114_52
def c114_50:Code:=.block 1 c114_51
def c114_48:Code:=.seq (codeN b114 18271) c114_50
def c114_70:Code:=.seq (codeN b114 22367) .ret
def c114_47:Code:=.seq c114_48 c114_70
def c114_46:Code:=.cond (.tmp 54) c114_47 .skip
def c114_44:Code:=.seq (codeN b114 2911) c114_46
def c114_40:Code:=.cond (.tmp 48) c114_41 c114_44
def c114_38:Code:=.seq (codeN b114 607) c114_40
def c114_37:Code:=.block 0 c114_38
def c114_35:Code:=.seq (codeN b114 159) c114_37
def c114_82:Code:=.seq (codeN b114 4863) .ret
def c114_81:Code:=.cond (.tmp 96) c114_82 .skip
def c114_79:Code:=.seq (codeN b114 1279) c114_81
def c114_90:Code:=.seq (codeN b114 9727) .ret
def c114_89:Code:=.cond (.tmp 107) c114_90 .skip
def c114_87:Code:=.seq (codeN b114 2559) c114_89
def c114_103:Code:=.seq (codeN b114 153599) .ret
def c114_109:Code:=.seq (codeN b114 645119) .ret
def c114_115:Code:=.seq (codeN b114 2611199) .ret
def c114_114:Code:=.cond (.tmp 134) c114_115 .skip
def c114_112:Code:=.seq (codeN b114 776191) c114_114
def c114_108:Code:=.cond (.tmp 127) c114_109 c114_112
def c114_106:Code:=.seq (codeN b114 186367) c114_108
def c114_102:Code:=.cond (.tmp 118) c114_103 c114_106
def c114_100:Code:=.seq (codeN b114 38911) c114_102
def c114_99:Code:=.block 3 c114_100
def c114_97:Code:=.seq (codeN b114 10239) c114_99
def c114_119:Code:=.seq (codeN b114 12287) .ret
def c114_96:Code:=.seq c114_97 c114_119
def c114_94:Code:=.seq (codeN b114 3071) c114_96
def c114_86:Code:=.seq c114_87 c114_94
def c114_78:Code:=.seq c114_79 c114_86
def c114_76:Code:=.seq (codeN b114 383) c114_78
def c114_74:Code:=.seq (codeN b114 191) c114_76
def c114_34:Code:=.seq c114_35 c114_74
def c114_26:Code:=.seq c114_27 c114_34
def c114_18:Code:=.seq c114_19 c114_26
def c114_10:Code:=.seq c114_11 c114_18
def c114_2:Code:=.seq c114_3 c114_10
def c114_0:Code:=.seq (codeN b114 2) c114_2
theorem E114:evK gS fi114 c114_6 fr st k=opsR gS fi114 [qA 4 false 4] fr st (.seq .ret k) ∧
 evK gS fi114 c114_5 fr st k=condK gS fi114 (fr.op (.tmp 20)).bool? c114_6 .skip fr st k ∧
 (evK gS fi114 c114_3 fr st k=opsR gS fi114 [ld 13 91 2 91,
 cal 14 97 [(.tmp 13)] [91] 4,
 op1 15 (.unOp .not 4 (.tmp 14)) 4,
 mv 16 15 4,
 ql 17 91 3 91 3 false,
 mk (some 18) (.call {callee:=(.value (.func 97)),args:=#[(.tmp 17)],argTypes:=#[91]}) 4 (some (3,false)),
 mk (some 19) (.unOp .not 4 (.tmp 18)) 4 (some (3,false)),
 qQ 20 16 true 19 4] fr st (.seq c114_5 k)) ∧
 evK gS fi114 c114_14 fr st k=opsR gS fi114 [qA 4 true 4] fr st (.seq .ret k) ∧
 evK gS fi114 c114_13 fr st k=condK gS fi114 (fr.op (.tmp 27)).bool? c114_14 .skip fr st k ∧
 (evK gS fi114 c114_11 fr st k=opsR gS fi114 [ld 21 91 2 91,
 cal 22 113 [(.tmp 21)] [91] 4,
 mv 23 22 4,
 qf 24 91 3 1 0 2 false,
 ql 25 3 24 3 2 false,
 qc 26 .eql 3 25 1 3 4 2 false,
 qQ 27 23 true 26 4] fr st (.seq c114_13 k)) ∧
 evK gS fi114 c114_22 fr st k=opsR gS fi114 [qA 4 true 4] fr st (.seq .ret k) ∧
 evK gS fi114 c114_21 fr st k=condK gS fi114 (fr.op (.tmp 37)).bool? c114_22 .skip fr st k ∧
 (evK gS fi114 c114_19 fr st k=opsR gS fi114 [qF 28 91 2 1 0,
 ld 29 3 28 3,
 qF 30 91 3 1 0,
 ld 31 3 30 3,
 bop 32 .eql 3 29 31 3 4,
 mv 33 32 4,
 ql 34 91 2 91 5 true,
 ql 35 91 3 91 5 true,
 mk (some 36) (.call {callee:=(.value (.func 133)),args:=#[(.tmp 34),(.tmp 35)],argTypes:=#[91,91]}) 4 (some (5,true)),
 qP 37 33 36 false 4] fr st (.seq c114_21 k)) ∧
 (evK gS fi114 c114_30 fr st k=opsR gS fi114 [ld 41 91 2 91,
 qF 42 91 3 2 0,
 ld 43 88 42 88,
 cal 44 77 [(.tmp 41),(.tmp 43)] [91,88] 4,
 op1 45 (.unOp .not 4 (.tmp 44)) 4,
 asn 4 45 4] fr st (.seq .ret k)) ∧
 evK gS fi114 c114_29 fr st k=condK gS fi114 (fr.op (.tmp 40)).bool? c114_30 .skip fr st k ∧
 (evK gS fi114 c114_27 fr st k=opsR gS fi114 [qF 38 91 3 1 0,
 ld 39 3 38 3,
 qB 40 .eql 3 39 3 3 4] fr st (.seq c114_29 k)) ∧
 (evK gS fi114 c114_41 fr st k=opsR gS fi114 [ld 50 91 3 91,
 qF 51 91 2 2 0,
 ld 52 88 51 88,
 cal 53 77 [(.tmp 50),(.tmp 52)] [91,88] 4,
 asn 4 53 4] fr st (.seq .ret k)) ∧
 evK gS fi114 c114_65 fr st k=opsR gS fi114 [qA 4 false 4] fr st (.seq .ret k) ∧
 evK gS fi114 c114_64 fr st k=condK gS fi114 (fr.op (.tmp 71)).bool? c114_65 .skip fr st k ∧
 (evK gS fi114 c114_62 fr st k=opsR gS fi114 [ld 63 88 6 88,
 cal 64 132 [(.tmp 63)] [88] 4,
 op1 65 (.unOp .not 4 (.tmp 64)) 4,
 mv 66 65 4,
 ql 67 91 3 91 3 true,
 ql 68 88 6 88 3 true,
 mk (some 69) (.call {callee:=(.value (.func 77)),args:=#[(.tmp 67),(.tmp 68)],argTypes:=#[91,88]}) 4 (some (3,true)),
 mk (some 70) (.unOp .not 4 (.tmp 69)) 4 (some (3,true)),
 qP 71 66 70 false 4] fr st (.seq c114_64 k)) ∧
 (evK gS fi114 c114_60 fr st k=opsR gS fi114 [ixa 61 89 57 59 0,
 ld 62 88 61 88,
 op1 6 (.alloc 88) 0,
 sto 88 6 62] fr st (.seq c114_62 k)) ∧
 (evK gS fi114 c114_69 fr st k=opsR gS fi114 [qB 72 .add 3 59 1 3 3,
 mv 59 72 3] fr st k) ∧
 evK gS fi114 c114_58 fr st k=evK gS fi114 c114_60 fr st (.blk 2 (.seq c114_69 k)) ∧
 evK gS fi114 c114_54 fr st k=condK gS fi114 (fr.op (.tmp 60)).bool? .skip (.exit 1) fr st (.seq c114_58 k) ∧
 evK gS fi114 c114_52 fr st k=opsR gS fi114 [bop 60 .lss 3 59 58 3 0] fr st (.seq c114_54 k) ∧
 evK gS fi114 c114_50 fr st k=evK gS fi114 c114_51 fr st (.blk 1 k) ∧
 (evK gS fi114 c114_48 fr st k=opsR gS fi114 [qF 56 91 2 4 0,
 ld 57 89 56 89,
 len1 58 57 89 3,
 op1 59 (.move (.const (.int .i64 0))) 3] fr st (.seq c114_50 k)) ∧
 evK gS fi114 c114_70 fr st k=opsR gS fi114 [qA 4 true 4] fr st (.seq .ret k) ∧
 evK gS fi114 c114_47 fr st k=evK gS fi114 c114_48 fr st (.seq c114_70 k) ∧
 evK gS fi114 c114_46 fr st k=condK gS fi114 (fr.op (.tmp 54)).bool? c114_47 .skip fr st k ∧
 (evK gS fi114 c114_44 fr st k=opsR gS fi114 [qB 55 .eql 3 47 10 3 4,
 asn 54 55 4] fr st (.seq c114_46 k)) ∧
 evK gS fi114 c114_40 fr st k=condK gS fi114 (fr.op (.tmp 48)).bool? c114_41 c114_44 fr st k ∧
 (evK gS fi114 c114_38 fr st k=opsR gS fi114 [qB 49 .eql 3 47 2 3 4,
 asn 48 49 4] fr st (.seq c114_40 k)) ∧
 evK gS fi114 c114_37 fr st k=evK gS fi114 c114_38 fr st (.blk 0 k) ∧
 (evK gS fi114 c114_35 fr st k=opsR gS fi114 [qF 46 91 2 1 0,
 ld 47 3 46 3] fr st (.seq c114_37 k)) ∧
 (evK gS fi114 c114_82 fr st k=opsR gS fi114 [ld 97 143 7 143,
 ld 98 143 9 143,
 cal 99 135 [(.tmp 97),(.tmp 98),(.const (.int .i64 1))] [143,143,3] 4,
 mv 100 99 4,
 ql 101 143 8 143 3 true,
 ql 102 143 10 143 3 true,
 mk (some 103) (.call {callee:=(.value (.func 135)),args:=#[(.tmp 101),(.tmp 102),(.const (.int .i64 (-1)))],argTypes:=#[143,143,3]}) 4 (some (3,true)),
 qP 104 100 103 false 4,
 asn 4 104 4] fr st (.seq .ret k)) ∧
 evK gS fi114 c114_81 fr st k=condK gS fi114 (fr.op (.tmp 96)).bool? c114_82 .skip fr st k ∧
 (evK gS fi114 c114_79 fr st k=opsR gS fi114 [qF 83 143 7 0 0,
 ld 84 4 83 4,
 mv 85 84 4,
 qf 86 143 8 0 0 2 false,
 ql 87 4 86 4 2 false,
 qQ 88 85 true 87 4,
 mv 89 88 4,
 qf 90 143 9 0 0 6 true,
 ql 91 4 90 4 6 true,
 qm 92 91 4 6 true,
 qf 93 143 10 0 0 9 false,
 ql 94 4 93 4 9 false,
 mk (some 95) (.pick (.tmp 92) (.const (.bool true)) (.tmp 94)) 4 (some (6,true)),
 qP 96 89 95 false 4] fr st (.seq c114_81 k)) ∧
 evK gS fi114 c114_90 fr st k=opsR gS fi114 [qA 4 false 4] fr st (.seq .ret k) ∧
 evK gS fi114 c114_89 fr st k=condK gS fi114 (fr.op (.tmp 107)).bool? c114_90 .skip fr st k ∧
 (evK gS fi114 c114_87 fr st k=opsR gS fi114 [qF 105 91 2 1 0,
 ld 106 3 105 3,
 qB 107 .neq 3 106 9 3 4] fr st (.seq c114_89 k)) ∧
 (evK gS fi114 c114_103 fr st k=opsR gS fi114 [qF 120 91 2 2 0,
 qF 121 88 120 3 0,
 ld 122 9 121 9,
 qF 123 91 3 2 0,
 qF 124 88 123 3 0,
 ld 125 9 124 9,
 cal 126 99 [(.tmp 122),(.tmp 125)] [9,9] 4,
 asn 4 126 4] fr st (.seq .ret k)) ∧
 (evK gS fi114 c114_109 fr st k=opsR gS fi114 [mv 129 12 4,
 mv 130 129 4,
 qm 131 11 3 1 true,
 qc 132 .geq 3 131 0 3 4 1 true,
 qP 133 130 132 false 4,
 asn 4 133 4] fr st (.seq .ret k)) ∧
 (evK gS fi114 c114_115 fr st k=opsR gS fi114 [mv 136 12 4,
 mv 137 136 4,
 qm 138 11 3 1 true,
 qc 139 .gtr 3 138 0 3 4 1 true,
 qP 140 137 139 false 4,
 asn 4 140 4] fr st (.seq .ret k)) ∧
 evK gS fi114 c114_114 fr st k=condK gS fi114 (fr.op (.tmp 134)).bool? c114_115 .skip fr st k ∧
 (evK gS fi114 c114_112 fr st k=opsR gS fi114 [qB 135 .eql 3 117 6 3 4,
 asn 134 135 4] fr st (.seq c114_114 k)) ∧
 evK gS fi114 c114_108 fr st k=condK gS fi114 (fr.op (.tmp 127)).bool? c114_109 c114_112 fr st k ∧
 (evK gS fi114 c114_106 fr st k=opsR gS fi114 [qB 128 .eql 3 117 7 3 4,
 asn 127 128 4] fr st (.seq c114_108 k)) ∧
 evK gS fi114 c114_102 fr st k=condK gS fi114 (fr.op (.tmp 118)).bool? c114_103 c114_106 fr st k ∧
 (evK gS fi114 c114_100 fr st k=opsR gS fi114 [qB 119 .eql 3 117 9 3 4,
 asn 118 119 4] fr st (.seq c114_102 k)) ∧
 evK gS fi114 c114_99 fr st k=evK gS fi114 c114_100 fr st (.blk 3 k) ∧
 (evK gS fi114 c114_97 fr st k=opsR gS fi114 [qF 116 91 3 1 0,
 ld 117 3 116 3] fr st (.seq c114_99 k)) ∧
 evK gS fi114 c114_119 fr st k=opsR gS fi114 [qA 4 false 4] fr st (.seq .ret k) ∧
 evK gS fi114 c114_96 fr st k=evK gS fi114 c114_97 fr st (.seq c114_119 k) ∧
 (evK gS fi114 c114_94 fr st k=opsR gS fi114 [qF 109 91 2 2 0,
 ld 110 88 109 88,
 qF 111 91 3 2 0,
 ld 112 88 111 88,
 cal 113 98 [(.tmp 110),(.tmp 112)] [88,88] 125,
 mv 108 113 125,
 op1 114 (.extract (.tmp 108) 0) 3,
 op1 115 (.extract (.tmp 108) 1) 4,
 asn 11 114 3,
 asn 12 115 4] fr st (.seq c114_96 k)) ∧
 evK gS fi114 c114_86 fr st k=evK gS fi114 c114_87 fr st (.seq c114_94 k) ∧
 evK gS fi114 c114_78 fr st k=evK gS fi114 c114_79 fr st (.seq c114_86 k) ∧
 (evK gS fi114 c114_76 fr st k=opsR gS fi114 [ld 79 91 3 91,
 cal 80 134 [(.tmp 79)] [91] 144,
 mv 78 80 144,
 op1 81 (.extract (.tmp 78) 0) 143,
 op1 82 (.extract (.tmp 78) 1) 143,
 op1 9 (.alloc 143) 0,
 op1 10 (.alloc 143) 0,
 sto 143 9 81,
 sto 143 10 82] fr st (.seq c114_78 k)) ∧
 (evK gS fi114 c114_74 fr st k=opsR gS fi114 [ld 74 91 2 91,
 cal 75 134 [(.tmp 74)] [91] 144,
 mv 73 75 144,
 op1 76 (.extract (.tmp 73) 0) 143,
 op1 77 (.extract (.tmp 73) 1) 143,
 op1 7 (.alloc 143) 0,
 op1 8 (.alloc 143) 0,
 sto 143 7 76,
 sto 143 8 77] fr st (.seq c114_76 k)) ∧
 evK gS fi114 c114_34 fr st k=evK gS fi114 c114_35 fr st (.seq c114_74 k) ∧
 evK gS fi114 c114_26 fr st k=evK gS fi114 c114_27 fr st (.seq c114_34 k) ∧
 evK gS fi114 c114_18 fr st k=evK gS fi114 c114_19 fr st (.seq c114_26 k) ∧
 evK gS fi114 c114_10 fr st k=evK gS fi114 c114_11 fr st (.seq c114_18 k) ∧
 evK gS fi114 c114_2 fr st k=evK gS fi114 c114_3 fr st (.seq c114_10 k) ∧
 (evK gS fi114 c114_0 fr st k=opsR gS fi114 [op1 2 (.box 91 (.tmp 0)) 0,
 op1 3 (.box 91 (.tmp 1)) 0,
 qA 4 false 4] fr st (.seq c114_2 k)):=⟨evK_rs 2 rfl (by kernel_rfl),rfl,evK_rs 1 rfl (by kernel_rfl),evK_rs 4 rfl (by kernel_rfl),rfl,evK_rs 3 rfl (by kernel_rfl),evK_rs 6 rfl (by kernel_rfl),rfl,evK_rs 5 rfl (by kernel_rfl),evK_rs 8 rfl (by kernel_rfl),rfl,evK_rs 7 rfl (by kernel_rfl),evK_rs 11 rfl (by kernel_rfl),evK_rs 17 rfl (by kernel_rfl),rfl,evK_rs 16 rfl (by kernel_rfl),evK_rs 15 rfl (by kernel_rfl),evK_r 18 (by kernel_rfl),rfl,rfl,evK_rs 14 rfl (by kernel_rfl),rfl,evK_rs 13 rfl (by kernel_rfl),evK_rs 19 rfl (by kernel_rfl),rfl,rfl,evK_rs 12 rfl (by kernel_rfl),rfl,evK_rs 10 rfl (by kernel_rfl),rfl,evK_rs 9 rfl (by kernel_rfl),evK_rs 23 rfl (by kernel_rfl),rfl,evK_rs 22 rfl (by kernel_rfl),evK_rs 25 rfl (by kernel_rfl),rfl,evK_rs 24 rfl (by kernel_rfl),evK_rs 29 rfl (by kernel_rfl),evK_rs 31 rfl (by kernel_rfl),evK_rs 33 rfl (by kernel_rfl),rfl,evK_rs 32 rfl (by kernel_rfl),rfl,evK_rs 30 rfl (by kernel_rfl),rfl,evK_rs 28 rfl (by kernel_rfl),rfl,evK_rs 27 rfl (by kernel_rfl),evK_rs 34 rfl (by kernel_rfl),rfl,evK_rs 26 rfl (by kernel_rfl),rfl,rfl,evK_rs 21 rfl (by kernel_rfl),evK_rs 20 rfl (by kernel_rfl),rfl,rfl,rfl,rfl,rfl,evK_rs 0 rfl (by kernel_rfl)⟩
theorem m114:mini fi114.body=c114_0:=by kernel_rfl
theorem n114_51 (fr:Fr)(st:St)(k:Kt):nextK gS fi114 (.loop c114_52 k) .normal fr st=evK gS fi114 c114_51 fr st k:=rfl
theorem L114_51 (q:Pred)(p:Pred)(h_q:q.ok)(h_p:p.ok)(st:St):∀ (n i:Nat) (j:Int)  (e0 e1 e2 e4 e6 e7 e8 e9 e10 e11 e12 e47 e117:E) (T:List (Nat × E)) (X:List (Nat × List V)) (ht0:e0.Tame) (ht1:e1.Tame) (ht2:e2.Tame) (ht4:e4.Tame) (ht6:e6.Tame) (ht7:e7.Tame) (ht8:e8.Tame) (ht9:e9.Tame) (ht10:e10.Tame) (ht11:e11.Tame) (ht12:e12.Tame) (ht47:e47.Tame) (ht117:e117.Tame) (hx3:lk X 3=some [.str p.name,.int .i64 p.test,.int .i64 p.v.kind,.int .i64 p.v.n,.float .f64 p.v.x,.str p.v.s,.bool p.v.b,.int .i64 p.w.kind,.int .i64 p.w.n,.float .f64 p.w.x,.str p.w.s,.bool p.w.b,.slice (encVals p.set)]) ,j=(i:Int)→i≤(q.set).length→(q.set).length - i=n →
  evK gS fi114 c114_51 {ps:=[(0,e0),(1,e1),(2,e2),(3,.lp 3 0),(4,e4),(6,e6),(7,e7),(8,e8),(9,e9),(10,e10),(11,e11),(12,e12),(47,e47),(57,.val (.slice (encVals q.set))),(58,.val (.int .i64 q.set.length)),(59,.val (.int .i64 j)),(117,e117)],ts:=T,lc:=X} st (.blk 1 (.seq c114_70 (.blk 0 (.seq c114_74 .nil))))=some ((.ret (.bool ((q.set.drop i).all (fun v=>vnan v || ptakes p v))) none),st):=by
 intro n
 have hpo:=h_q.2
 induction n with
 | zero =>
  intro i j  e0 e1 e2 e4 e6 e7 e8 e9 e10 e11 e12 e47 e117 T X ht0 ht1 ht2 ht4 ht6 ht7 ht8 ht9 ht10 ht11 ht12 ht47 ht117 hx3  hj hi hn
  obtain rfl:i=(q.set).length:=by omega
  subst hj
  refine evK_loop c114_52 _ st _ _ rfl ?_
  simp (config:={contextual:=true,maxSteps:=10000000,maxDischargeDepth:=6}) [-zil,-zit,-znl,-znt,ty3,ty4,ty9,ty88,ty89,ty91,ty143,eq88,H114,k97,k77,k113,k98,k99,k132,k133,k134,k135,E114,n114_51,h_q.1,h_q.2,h_p.1,h_p.2,ht0,ht1,ht2,ht4,ht6,ht7,ht8,ht9,ht10,ht11,ht12,ht47,ht117,hx3]
  all_goals first | done | grind | omega
 | succ n ih =>
  intro i j  e0 e1 e2 e4 e6 e7 e8 e9 e10 e11 e12 e47 e117 T X ht0 ht1 ht2 ht4 ht6 ht7 ht8 ht9 ht10 ht11 ht12 ht47 ht117 hx3  hj hi hn
  subst hj
  obtain ⟨x,hx⟩  := qgx (l:=(q.set)) (i:=i) (by omega)
  have hd:=drop_get hx
  have hlt:(i:Int)<((q.set).length:Int):=by omega
  have hlt2:i<(q.set).length:=by omega
  have hxe:(q.set)[i]'hlt2=x:=by rw [zge hlt2] at hx;exact Option.some.inj hx
  have hw:IntKind.wrap .i64 ((i:Int)+1)=(i:Int)+1:=wrap64 (by omega) (by omega)
  have IH:=fun e0 e1 e2 e4 e6 e7 e8 e9 e10 e11 e12 e47 e117 T X ht0 ht1 ht2 ht4 ht6 ht7 ht8 ht9 ht10 ht11 ht12 ht47 ht117 hx3=>ih (i+1) ((i:Int)+1) e0 e1 e2 e4 e6 e7 e8 e9 e10 e11 e12 e47 e117 T X ht0 ht1 ht2 ht4 ht6 ht7 ht8 ht9 ht10 ht11 ht12 ht47 ht117 hx3 rfl (by omega) (by omega)
  refine evK_loop c114_52 _ st _ _ rfl ?_
  simp (config:={contextual:=true,maxSteps:=10000000,maxDischargeDepth:=6}) [-zil,-zit,-znl,-znt,ty3,ty4,ty9,ty88,ty89,ty91,ty143,eq88,H114,k97,k77,k113,k98,k99,k132,k133,k134,k135,E114,n114_51,h_q.1,h_q.2,h_p.1,h_p.2,ht0,ht1,ht2,ht4,ht6,ht7,ht8,ht9,ht10,ht11,ht12,ht47,ht117,hx3,hx,hxe,hd,hlt,hlt2,hw,IH]
  all_goals first | done | grind | omega
theorem c114 (q:Pred)(p:Pred)  (h_q:Pred.ok q) (h_p:Pred.ok p) (st:St):EvF gS 114 [q.enc,p.enc] st=some (.ret (.bool (pimplies q p)) none,st):=by
 refine EvF_start fi27_eq (fun x h=>by cases h) m114 ?_
 rw [st114]
 simp (config:={contextual:=true,maxSteps:=10000000,maxDischargeDepth:=6}) [-zil,-zit,-znl,-znt,ty3,ty4,ty9,ty88,ty89,ty91,ty143,eq88,H114,k97,k77,k113,k98,k99,k132,k133,k134,k135,E114,n114_51,-ib_eql,-ib_neq,ib_eqlO,ib_neqO,(fun e0 e1 e2 e4 e6 e7 e8 e9 e10 e11 e12 e47 e117 T X ht0 ht1 ht2 ht4 ht6 ht7 ht8 ht9 ht10 ht11 ht12 ht47 ht117 hx3=>L114_51 q p h_q h_p st _ 0 0  e0 e1 e2 e4 e6 e7 e8 e9 e10 e11 e12 e47 e117 T X ht0 ht1 ht2 ht4 ht6 ht7 ht8 ht9 ht10 ht11 ht12 ht47 ht117 hx3 rfl (Nat.zero_le _) rfl),h_q.1,h_q.2,h_p.1,h_p.2]
 all_goals try simp (config:={contextual:=true}) [-zil,-zit,-znl,-znt,ieq,pimplies,within]
 all_goals (generalize sames q.set p.set=b3;generalize vsame q.v p.v=b1;generalize vsame q.w p.w=b2;generalize ptakes q p.v=b4;generalize ptakes p q.v=b5)
 all_goals (cases b1 <;> cases b2 <;> cases b3 <;> simp (config:={contextual:=true}) <;> grind)
theorem k114 (q_name:List UInt8)(q_test:Int)(q_vk:Int)(q_vn:Int)(q_vx:Nat)(q_vs:List UInt8)(q_vb:Bool)(q_wk:Int)(q_wn:Int)(q_wx:Nat)(q_ws:List UInt8)(q_wb:Bool)(q_set:List Val)(p_name:List UInt8)(p_test:Int)(p_vk:Int)(p_vn:Int)(p_vx:Nat)(p_vs:List UInt8)(p_vb:Bool)(p_wk:Int)(p_wn:Int)(p_wx:Nat)(p_ws:List UInt8)(p_wb:Bool)(p_set:List Val)  (h_q:Pred.ok (⟨q_name,q_test,⟨q_vk,q_vn,q_vx,q_vs,q_vb⟩,⟨q_wk,q_wn,q_wx,q_ws,q_wb⟩,q_set⟩:Pred)) (h_p:Pred.ok (⟨p_name,p_test,⟨p_vk,p_vn,p_vx,p_vs,p_vb⟩,⟨p_wk,p_wn,p_wx,p_ws,p_wb⟩,p_set⟩:Pred)) (fr:Fr) (st:St):callStep gS (EvF gS) 114 [.agg [.str q_name,.int .i64 q_test,.int .i64 q_vk,.int .i64 q_vn,.float .f64 q_vx,.str q_vs,.bool q_vb,.int .i64 q_wk,.int .i64 q_wn,.float .f64 q_wx,.str q_ws,.bool q_wb,.slice (encVals q_set)],.agg [.str p_name,.int .i64 p_test,.int .i64 p_vk,.int .i64 p_vn,.float .f64 p_vx,.str p_vs,.bool p_vb,.int .i64 p_wk,.int .i64 p_wn,.float .f64 p_wx,.str p_ws,.bool p_wb,.slice (encVals p_set)]] fr st=some (.ok (retE none (.bool (pimplies (⟨q_name,q_test,⟨q_vk,q_vn,q_vx,q_vs,q_vb⟩,⟨q_wk,q_wn,q_wx,q_ws,q_wb⟩,q_set⟩:Pred) (⟨p_name,p_test,⟨p_vk,p_vn,p_vx,p_vs,p_vb⟩,⟨p_wk,p_wn,p_wx,p_ws,p_wb⟩,p_set⟩:Pred)))) fr st) :=
 call_pure rfl fi27_eq rfl (fun st=>c114 (⟨q_name,q_test,⟨q_vk,q_vn,q_vx,q_vs,q_vb⟩,⟨q_wk,q_wn,q_wx,q_ws,q_wb⟩,q_set⟩:Pred) (⟨p_name,p_test,⟨p_vk,p_vn,p_vx,p_vs,p_vb⟩,⟨p_wk,p_wn,p_wx,p_ws,p_wb⟩,p_set⟩:Pred) h_q h_p st) (by simp)
end
end Go.Proofs.Ytdoobejjedpcgaa
namespace Go.Ab
open Go
def intVs (l:List Int):List V:=l.map (V.int .i64)
theorem intVs_length (l:List Int):(intVs l).length=l.length:=by simp [intVs]
theorem intVs_get (l:List Int)(i:Nat):(intVs l)[i]?=(l[i]?).map (V.int .i64):=by simp [intVs]
theorem intVs_gE (l:List Int)(i:Nat)(h:i<(intVs l).length):(intVs l)[i]'h=.int .i64 (l[i]'(by rw [intVs_length] at h;exact h)):=by simp [intVs]
theorem flats_ints (l:List Int):flats (intVs l)=true:=by
 induction l with
 | nil=>rfl
 | cons x r ih=>simp only [intVs,List.map_cons,flats,V.flat] at ih ⊢;exact ih
attribute [simp] intVs_length intVs_get intVs_gE flats_ints
def pickI (n m:Int):Int:=if m<1 then 0 else if n.tmod m<0 then n.tmod m+m else n.tmod m
theorem tmod_bound (n:Int) {m:Int} (h:1≤m):-m<n.tmod m∧n.tmod m<m:=by
 have b1:=Int.tmod_lt_of_pos n (by omega:0<m)
 refine ⟨?_,b1⟩
 rcases Int.lt_or_le n 0 with hk | hk
 ·have:n.tmod m = -((-n).tmod m):=by rw [Int.neg_tmod];omega
  have:=Int.tmod_lt_of_pos (-n) (by omega:0<m)
  omega
 ·have:=Int.tmod_nonneg m hk;omega
theorem pickI_bound (n:Int) {m:Int} (h:1≤m):0≤pickI n m∧pickI n m<m:=by
 have:=tmod_bound n h
 unfold pickI
 rw [if_neg (by omega)]
 split <;> omega
def FeedAt (st:St)(id:Nat)(l:List Int)(a:Nat):Prop:=st.objs[id]?=some [.slice (intVs l),.int .i64 a]∧st.wp≤id
def setF (st:St)(id:Nat)(l:List Int)(a:Nat):St:={st with objs:=st.objs.set id [.slice (intVs l),.int .i64 a]}
theorem FeedAt.lt {st:St} {id:Nat} {l:List Int} {a:Nat} (h:FeedAt st id l a):id<st.objs.length:=(List.getElem?_eq_some_iff.1 h.1).1
theorem setF_setF (st:St)(id:Nat)(l:List Int)(a b:Nat):setF (setF st id l a) id l b=setF st id l b:=by
 unfold setF;simp
theorem setF_same {st:St} {id:Nat} {l:List Int} {a:Nat} (h:FeedAt st id l a):setF st id l a=st:=by
 unfold setF
 obtain ⟨os,wp⟩:=st
 have h1:os[id]?=some [.slice (intVs l),.int .i64 a]:=h.1
 have h2:id<os.length:=h.lt
 congr 1
 show os.set id _=os
 apply List.ext_getElem?
 intro j
 rw [List.getElem?_set]
 split
 ·rename_i hj;subst hj;rw [h1]
 ·rfl
def rawAt (l:List Int)(a:Nat):Int:=IntKind.wrap .i64 (IntKind.wrap .i64 ((l.getD (a % l.length) 0).tdiv (1+(a / l.length:Nat)))+(a / l.length:Nat))
def nextV (l:List Int)(a:Nat)(n:Int):Int:=if l=[] then 0 else pickI (rawAt l a) n
def nextA (l:List Int)(a:Nat):Nat:=if l=[] then a else a+1
theorem nextV_bound (l:List Int)(a:Nat) {n:Int} (h:1≤n):0≤nextV l a n∧nextV l a n<n:=by
 unfold nextV;split
 ·omega
 ·exact pickI_bound _ h
def nA (l:List Int)(a j:Nat):Nat:=if l=[] then a else a+j
theorem nA_next (l:List Int)(a j:Nat):nextA l (nA l a j)=nA l a (j+1):=by
 unfold nextA nA;split <;> omega
theorem nA_le (l:List Int)(a j:Nat):nA l a j≤a+j:=by unfold nA;split <;> omega
def FeedOk (st:St)(id:Nat):Prop:=id<st.objs.length∧st.wp≤id
theorem feed_at {st:St} {id:Nat} (h:FeedOk st id)(l:List Int)(b:Nat):FeedAt (setF st id l b) id l b:=by
 refine ⟨?_,h.2⟩
 show (st.objs.set id _)[id]?=_
 rw [List.getElem?_set_self h.1]
def fd (l:List Int)(a j:Nat)(n:Int):Int:=nextV l (nA l a j) n
theorem fd_bound (l:List Int)(a j:Nat) {n:Int} (h:1≤n):0≤fd l a j n∧fd l a j n<n:=nextV_bound _ _ h
def F14:List Nat:=[0,9223372036854775808,4607182418800017408,4609434218613702656,4611686018427387904,4613937818241073152,13830554455654793216,4591870180066957722,9221120237041090561,9218868437227405312,18442240474082181120,4845873199050653696,4890909195324358656,1]
def floatV (l:List Int)(a j:Nat):Nat:=F14.getD (fd l a j 14).toNat 0
def T6:List (List UInt8):=[[],[97],[97,98],[98],[98,97],[116,119,101,108,118,101,32,98,121,116,101,115]]
def N6:List Int:=[-9223372036854775808,9223372036854775807,9007199254740992,9007199254740993,-1,4611686018427387904]
def valueV (l:List Int)(a j:Nat):Val :=
 let z:=fd l a j 8
 if z=0∨z=1 then ⟨2,0,floatV l a (j+1),[],false⟩
 else if z=2 then ⟨3,0,0,T6.getD (fd l a (j+1) 6).toNat [],false⟩
 else if z=3 then ⟨4,0,0,[],fd l a (j+1) 2=1⟩
 else if z=4 then ⟨1,N6.getD (fd l a (j+1) 6).toNat 0,0,[],false⟩
 else ⟨1,fd l a (j+1) 5,0,[],false⟩
def valsV (l:List Int)(a:Nat):Nat→Nat→List Val
 | _,0=>[]
 | j,k+1=>valueV l a j :: valsV l a (j+2) k
def P4:List (List UInt8):=[[],[97],[98],[97,98]]
def predV (l:List Int)(a j:Nat)(name:List UInt8):Pred × Nat :=
 let t:=1+fd l a j 10
 if t=1 then (⟨name,1,vzero,vzero,[]⟩,1)
 else if t=9 then (⟨name,9,⟨3,0,0,P4.getD (fd l a (j+1) 4).toNat [],false⟩,vzero,[]⟩,2)
 else if t=10 then (⟨name,10,vzero,vzero,valsV l a (j+2) ((fd l a (j+1) 4).toNat+1)⟩,2+2*((fd l a (j+1) 4).toNat+1))
 else if t=8 then (⟨name,8,valueV l a (j+1),valueV l a (j+3),[]⟩,5)
 else (⟨name,t,valueV l a (j+1),vzero,[]⟩,3)
end Go.Ab
namespace Go.Proofs.Ytdoobejjedpcgaa
open Go Go.Ab
noncomputable section
variable (fr:Fr)(st:St)(k:Kt)
def fi29:FI:={body:=codeOf Try.f29,ntmps:=17,results:=[.tmp 4],pers:=[0,1,4,5],locals:=[],pure:=true,marks:=[]}
theorem H29:fi29.marks=[]∧fi29.locals=[]∧fi29.results=[.tmp 4]:=⟨rfl,rfl,rfl⟩
theorem fi52_eq:gS.fn 29=some fi29:=by kernel_rfl
theorem st29 (a0 a1:V):startFr fi29 [a0,a1]={ps:=[(0,.val a0),(1,.val a1),(4,.any),(5,.any)],ts:=[],lc:=[]}:=rfl
def b29:Code:=mini (codeOf Try.f29)
def c29_6:Code:=.seq (codeN b29 37) .ret
def c29_5:Code:=.cond (.tmp 7) c29_6 .skip
def c29_3:Code:=.seq (codeN b29 9) c29_5
def c29_16:Code:=codeN b29 87
def c29_15:Code:=.cond (.tmp 12) c29_16 .skip
def c29_13:Code:=.seq (codeN b29 39) c29_15
def c29_18:Code:=.seq (codeN b29 47) .ret
def c29_12:Code:=.seq c29_13 c29_18
def c29_10:Code:=.seq (codeN b29 11) c29_12
def c29_2:Code:=.seq c29_3 c29_10
def c29_0:Code:=.seq (codeN b29 2) c29_2
theorem E29:evK gS fi29 c29_6 fr st k=opsR gS fi29 [qI 4 0 3] fr st (.seq .ret k) ∧
 evK gS fi29 c29_5 fr st k=condK gS fi29 (fr.op (.tmp 7)).bool? c29_6 .skip fr st k ∧
 (evK gS fi29 c29_3 fr st k=opsR gS fi29 [mv 6 1 3,
 qB 7 .lss 3 6 1 3 4] fr st (.seq c29_5 k)) ∧
 (evK gS fi29 c29_16 fr st k=opsR gS fi29 [mv 13 5 3,
 mv 14 1 3,
 bop 15 .add 3 13 14 3 3,
 asn 5 15 3] fr st k) ∧
 evK gS fi29 c29_15 fr st k=condK gS fi29 (fr.op (.tmp 12)).bool? c29_16 .skip fr st k ∧
 (evK gS fi29 c29_13 fr st k=opsR gS fi29 [mv 11 5 3,
 qB 12 .lss 3 11 0 3 4] fr st (.seq c29_15 k)) ∧
 (evK gS fi29 c29_18 fr st k=opsR gS fi29 [mv 16 5 3,
 asn 4 16 3] fr st (.seq .ret k)) ∧
 evK gS fi29 c29_12 fr st k=evK gS fi29 c29_13 fr st (.seq c29_18 k) ∧
 (evK gS fi29 c29_10 fr st k=opsR gS fi29 [mv 8 0 3,
 mv 9 1 3,
 bop 10 .rem 3 8 9 3 3,
 asn 5 10 3] fr st (.seq c29_12 k)) ∧
 evK gS fi29 c29_2 fr st k=evK gS fi29 c29_3 fr st (.seq c29_10 k) ∧
 evK gS fi29 c29_0 fr st k=opsR gS fi29 [qI 4 0 3] fr st (.seq c29_2 k):=⟨evK_rs 2 rfl (by kernel_rfl),rfl,evK_rs 1 rfl (by kernel_rfl),evK_r 5 (by kernel_rfl),rfl,evK_rs 4 rfl (by kernel_rfl),evK_rs 6 rfl (by kernel_rfl),rfl,evK_rs 3 rfl (by kernel_rfl),rfl,evK_rs 0 rfl (by kernel_rfl)⟩
theorem m29:mini fi29.body=c29_0:=by kernel_rfl
theorem c29 (n:Int)(m:Int)(hm1:m≤4611686018427387904)(st:St):EvF gS 29 [.int .i64 n,.int .i64 m] st=some (.ret (.int .i64 (pickI n m)) none,st):=by
 refine EvF_start fi52_eq (fun x h=>by cases h) m29 ?_
 rw [st29]
 by_cases h1:m<1
 ·simp [h1,pickI,-zil,-zit,-znl,-znt,ty3,ty4,H29,E29]
 ·have h0:¬ m=0:=by omega
  have hb:=tmod_bound n (m:=m) (by omega)
  by_cases h2:n.tmod m<0
  ·have hw:IntKind.wrap .i64 (n.tmod m+m)=n.tmod m+m:=wrap64 (by omega) (by omega)
   simp [h1,h0,h2,hw,pickI,-zil,-zit,-znl,-znt,ty3,ty4,H29,E29]
  ·simp [h1,h0,h2,pickI,-zil,-zit,-znl,-znt,ty3,ty4,H29,E29]
theorem k29 (n:Int)(m:Int)(hm1:m≤4611686018427387904)(fr:Fr)(st:St):callStep gS (EvF gS) 29 [.int .i64 n,.int .i64 m] fr st=some (.ok (retE none (.int .i64 (pickI n m))) fr st) :=
 call_pure rfl fi52_eq rfl (fun st=>c29 n m hm1 st) (by simp)
theorem x29:gS.ext 29=none:=rfl
theorem p29:fi29.pure=true:=rfl
def fi11:FI:={body:=codeOf Try.f11,ntmps:=61,results:=[.tmp 4],pers:=[0,1,4,5],locals:=[],pure:=false,marks:=[]}
theorem H11:fi11.marks=[]∧fi11.locals=[]∧fi11.results=[.tmp 4]:=⟨rfl,rfl,rfl⟩
theorem fi16_eq:gS.fn 11=some fi11:=by kernel_rfl
theorem st11 (a0 a1:V):startFr fi11 [a0,a1]={ps:=[(0,.val a0),(1,.val a1),(4,.any),(5,.any)],ts:=[],lc:=[]}:=rfl
def b11:Code:=mini (codeOf Try.f11)
def c11_6:Code:=.seq (codeN b11 37) .ret
def c11_5:Code:=.cond (.tmp 11) c11_6 .skip
def c11_3:Code:=.seq (codeN b11 9) c11_5
def r11_11:Array Oper:=regOps (codeN (codeOf Try.f11) 11)
def c11_11:Code:=.region 3 r11_11 true
def q11_11:List (Oper × Fl):=[(mv 12 0 23,qz0),
 (op1 13 (.nilCheck (.tmp 12)) 0,qz0),
 (qF 14 25 13 0 0,qz0),
 (ld 15 22 14 22,qz0),
 (mv 16 0 23,qz0),
 (op1 17 (.nilCheck (.tmp 16)) 0,qz0),
 (qF 18 25 17 1 0,qz0),
 (ld 19 3 18 3,qz0),
 (mv 20 0 23,qz0),
 (op1 21 (.nilCheck (.tmp 20)) 0,qz0),
 (qF 22 25 21 0 0,qz0),
 (ld 23 22 22 22,qz0),
 (len1 24 23 22 3,qz0),
 (bop 25 .rem 3 19 24 3 3,qz0),
 (ixa 26 22 15 25 0,qz0),
 (ld 27 3 26 3,qz0),
 (mv 28 0 23,qz0),
 (op1 29 (.nilCheck (.tmp 28)) 0,qz0),
 (qF 30 25 29 1 0,qz0),
 (ld 31 3 30 3,qz0),
 (mv 32 0 23,qz0),
 (op1 33 (.nilCheck (.tmp 32)) 0,qz0),
 (qF 34 25 33 0 0,qz0),
 (ld 35 22 34 22,qz0),
 (len1 36 35 22 3,qz0),
 (bop 37 .quo 3 31 36 3 3,qz0),
 (op1 38 (.binOp .add 3 (.const (.int .i64 1)) (.tmp 37) 3) 3,qz0),
 (bop 39 .quo 3 27 38 3 3,qz0),
 (mv 40 0 23,qz0),
 (op1 41 (.nilCheck (.tmp 40)) 0,qz0),
 (qF 42 25 41 1 0,qz0),
 (ld 43 3 42 3,qz0),
 (mv 44 0 23,qz0),
 (op1 45 (.nilCheck (.tmp 44)) 0,qz0),
 (qF 46 25 45 0 0,qz1),
 (ld 47 22 46 22,qz1),
 (len1 48 47 22 3,qz1),
 (bop 49 .quo 3 43 48 3 3,qz1),
 (bop 50 .add 3 39 49 3 3,qz1),
 (asn 5 50 3,qz6)]
def c11_14:Code:=.seq (codeN b11 47) .ret
def c11_12:Code:=.seq (codeN b11 23) c11_14
def c11_10:Code:=.seq c11_11 c11_12
def c11_2:Code:=.seq c11_3 c11_10
def c11_0:Code:=.seq (codeN b11 2) c11_2
theorem E11:evK gS fi11 c11_6 fr st k=opsR gS fi11 [qI 4 0 3] fr st (.seq .ret k) ∧
 evK gS fi11 c11_5 fr st k=condK gS fi11 (fr.op (.tmp 11)).bool? c11_6 .skip fr st k ∧
 (evK gS fi11 c11_3 fr st k=opsR gS fi11 [mv 6 0 23,
 op1 7 (.nilCheck (.tmp 6)) 0,
 qF 8 25 7 0 0,
 ld 9 22 8 22,
 len1 10 9 22 3,
 qB 11 .eql 3 10 0 3 4] fr st (.seq c11_5 k)) ∧
 evK gS fi11 c11_11 fr st k=drwR gS fi11 r11_11 q11_11 fr st k ∧
 (evK gS fi11 c11_14 fr st k=opsR gS fi11 [mv 58 5 3,
 mv 59 1 3,
 cal 60 29 [(.tmp 58),(.tmp 59)] [3,3] 3,
 asn 4 60 3] fr st (.seq .ret k)) ∧
 (evK gS fi11 c11_12 fr st k=opsR gS fi11 [mv 51 0 23,
 op1 52 (.nilCheck (.tmp 51)) 0,
 qF 53 25 52 1 0,
 ld 54 3 53 3,
 qB 55 .add 3 54 1 3 3,
 op1 56 (.nilCheck (.tmp 51)) 0,
 qF 57 25 56 1 0,
 sto 3 57 55] fr st (.seq c11_14 k)) ∧
 evK gS fi11 c11_10 fr st k=evK gS fi11 c11_11 fr st (.seq c11_12 k) ∧
 evK gS fi11 c11_2 fr st k=evK gS fi11 c11_3 fr st (.seq c11_10 k) ∧
 evK gS fi11 c11_0 fr st k=opsR gS fi11 [qI 4 0 3] fr st (.seq c11_2 k):=⟨evK_rs 2 rfl (by kernel_rfl),rfl,evK_rs 1 rfl (by kernel_rfl),evK_dr 3 rfl (by kernel_rfl) (by kernel_rfl),evK_rs 5 rfl (by kernel_rfl),evK_rs 4 rfl (by kernel_rfl),rfl,rfl,evK_rs 0 rfl (by kernel_rfl)⟩
theorem m11:mini fi11.body=c11_0:=by kernel_rfl
theorem c11 (l:List Int)(a id:Nat)(n:Int)(st:St)(h:FeedAt st id l a)(ha:a<1099511627776)(hn:n≤4611686018427387904) :
  EvF gS 11 [.ptr id 0,.int .i64 n] st=some (.ret (.int .i64 (nextV l a n)) none,setF st id l (nextA l a)):=by
 refine EvF_start fi16_eq (fun x h=>by cases h) m11 ?_
 rw [st11]
 have ho:=h.1
 have hwp:¬ id<st.wp:=by have:=h.2;omega
 have hwp2:st.wp≤id:=h.2
 have hid:=h.lt
 by_cases hne:l=[]
 ·subst hne
  have hs:setF st id [] a=st:=setF_same h
  simp [nextV,nextA,hs,ho,-zil,-zit,-znl,-znt,ty3,ty4,ty22,ty23,ty25,H11,k29,x29,fi52_eq,p29,E11,q11_11]
 ·have hlen:0<l.length:=by cases l with | nil=>exact (hne rfl).elim | cons _ _=>simp
  have e0:¬ (l.length:Int)=0:=by omega
  have e1:((a:Nat):Int).tmod (l.length:Int)=((a % l.length:Nat):Int):=by rw [Int.tmod_eq_emod_of_nonneg (by omega)];omega
  have e2:((a:Nat):Int).tdiv (l.length:Int)=((a / l.length:Nat):Int):=by rw [Int.tdiv_eq_ediv_of_nonneg (by omega)];omega
  have e3:=Nat.mod_lt a hlen
  have e4:a / l.length≤a:=Nat.div_le_self _ _
  have hx:l[a % l.length]?=some (l.getD (a % l.length) 0):=by
   rw [zge e3,List.getD_eq_getElem?_getD,zge e3];rfl
  have ea:IntKind.wrap .i64 ((a:Int)+1)=(a:Int)+1:=wrap64 (by omega) (by omega)
  have hxe:l[a % l.length]'e3=l.getD (a % l.length) 0:=by rw [zge e3] at hx;exact Option.some.inj hx
  simp only [nextV,nextA,hne,if_false,rawAt]
  generalize l.getD (a % l.length) 0=x at *
  generalize a % l.length=rr at *
  generalize a / l.length=qq at *
  have e5:IntKind.wrap .i64 (qq:Int)=(qq:Int):=wrap64 (by omega) (by omega)
  have e6:IntKind.wrap .i64 (1+(qq:Int))=1+(qq:Int):=wrap64 (by omega) (by omega)
  have e7:¬ (1+(qq:Int))=0:=by omega
  simp [-Int.natCast_emod,-Int.natCast_ediv,setF,ho,hne,e0,e1,e2,e3,e5,e6,e7,hx,hxe,ea,hn,hwp,hwp2,-zil,-zit,-znl,-znt,ty3,ty4,ty22,ty23,ty25,H11,k29,x29,fi52_eq,p29,E11,q11_11]
theorem k11 (l:List Int)(a j id:Nat)(n:Int)(fr:Fr)(st:St)(h:FeedOk st id)(ha:a<549755813888)(hj:j<549755813888)(hn:n≤4611686018427387904) :
  callStep gS (EvF gS) 11 [.ptr id 0,.int .i64 n] fr (setF st id l (nA l a j))=some (.ok (.val (.int .i64 (fd l a j n))) (fr.map E.noMem) (setF st id l (nA l a (j+1)))):=by
 have hc:=c11 l (nA l a j) id n (setF st id l (nA l a j)) (feed_at h l _) (by have:=nA_le l a j;omega) hn
 rw [setF_setF,nA_next] at hc
 unfold callStep
 simp only [show gS.ext 11=none from rfl,fi16_eq,show fi11.pure=false from rfl,Bool.false_eq_true,if_false,hc,retE]
 rfl
end
end Go.Proofs.Ytdoobejjedpcgaa
namespace Go.Proofs.Ytdoobejjedpcgaa
open Go Go.Ab
noncomputable section
variable (fr:Fr)(st:St)(k:Kt)
theorem kCopy (fr:Fr)(st:St):callStep gS (EvF gS) 104 [.float .f64 0,.float .f64 13830554455654793216] fr st=some (.ok (.val (.float .f64 9223372036854775808)) fr st):=by
 have hc:EvF gS 104 [.float .f64 0,.float .f64 13830554455654793216] ⟨[],0⟩=some (.ret (.float .f64 9223372036854775808) none,⟨[],0⟩):=Evn.lim ⟨12,fun n hn=>by
  obtain ⟨m,rfl⟩:∃ m,n=m+12:=⟨n - 12,by omega⟩
  kernel_rfl⟩
 obtain ⟨fi,hf,hp⟩:∃ fi,gS.fn 104=some fi∧fi.pure=true:=by
  refine ⟨(gS.fn 104).getD ⟨.skip,0,[],[],[],false,[]⟩,by kernel_rfl,by kernel_rfl⟩
 unfold callStep
 simp only [show gS.ext 104=none from rfl,hf,hp,if_true,show flats [.float .f64 0,.float .f64 13830554455654793216]=true from by simp,hc,show V.flat (.float .f64 9223372036854775808)=true from rfl]
 rfl
theorem kNaN (fr:Fr)(st:St):callStep gS (EvF gS) 105 [] fr st=some (.ok (.val (.float .f64 9221120237041090561)) fr st):=by
 have hc:EvF gS 105 [] ⟨[],0⟩=some (.ret (.float .f64 9221120237041090561) none,⟨[],0⟩):=Evn.lim ⟨12,fun n hn=>by
  obtain ⟨m,rfl⟩:∃ m,n=m+12:=⟨n - 12,by omega⟩
  kernel_rfl⟩
 obtain ⟨fi,hf,hp⟩:∃ fi,gS.fn 105=some fi∧fi.pure=true:=by
  refine ⟨(gS.fn 105).getD ⟨.skip,0,[],[],[],false,[]⟩,by kernel_rfl,by kernel_rfl⟩
 unfold callStep
 simp only [show gS.ext 105=none from rfl,hf,hp,if_true,show flats []=true from by simp,hc,show V.flat (.float .f64 9221120237041090561)=true from rfl]
 rfl
theorem kInf (fr:Fr)(st:St):callStep gS (EvF gS) 106 [.int .i64 1] fr st=some (.ok (.val (.float .f64 9218868437227405312)) fr st):=by
 have hc:EvF gS 106 [.int .i64 1] ⟨[],0⟩=some (.ret (.float .f64 9218868437227405312) none,⟨[],0⟩):=Evn.lim ⟨12,fun n hn=>by
  obtain ⟨m,rfl⟩:∃ m,n=m+12:=⟨n - 12,by omega⟩
  kernel_rfl⟩
 obtain ⟨fi,hf,hp⟩:∃ fi,gS.fn 106=some fi∧fi.pure=true:=by
  refine ⟨(gS.fn 106).getD ⟨.skip,0,[],[],[],false,[]⟩,by kernel_rfl,by kernel_rfl⟩
 unfold callStep
 simp only [show gS.ext 106=none from rfl,hf,hp,if_true,show flats [.int .i64 1]=true from by simp,hc,show V.flat (.float .f64 9218868437227405312)=true from rfl]
 rfl
theorem kInf2 (fr:Fr)(st:St):callStep gS (EvF gS) 106 [.int .i64 (-1)] fr st=some (.ok (.val (.float .f64 18442240474082181120)) fr st):=by
 have hc:EvF gS 106 [.int .i64 (-1)] ⟨[],0⟩=some (.ret (.float .f64 18442240474082181120) none,⟨[],0⟩):=Evn.lim ⟨12,fun n hn=>by
  obtain ⟨m,rfl⟩:∃ m,n=m+12:=⟨n - 12,by omega⟩
  kernel_rfl⟩
 obtain ⟨fi,hf,hp⟩:∃ fi,gS.fn 106=some fi∧fi.pure=true:=by
  refine ⟨(gS.fn 106).getD ⟨.skip,0,[],[],[],false,[]⟩,by kernel_rfl,by kernel_rfl⟩
 unfold callStep
 simp only [show gS.ext 106=none from rfl,hf,hp,if_true,show flats [.int .i64 (-1)]=true from by simp,hc,show V.flat (.float .f64 18442240474082181120)=true from rfl]
 rfl
def fi85:FI:={body:=codeOf Try.f85,ntmps:=13,results:=[.tmp 2],pers:=[0,2,3],locals:=[3],pure:=false,marks:=[]}
theorem H85:fi85.marks=[]∧fi85.locals=[3]∧fi85.results=[.tmp 2]:=⟨rfl,rfl,rfl⟩
theorem fi66_eq:gS.fn 85=some fi85:=by kernel_rfl
theorem st85 (a0:V):startFr fi85 [a0]={ps:=[(0,.val a0),(2,.any),(3,.any)],ts:=[],lc:=[]}:=rfl
def b85:Code:=mini (codeOf Try.f85)
def c85_4:Code:=.seq (codeN b85 11) .ret
theorem e85_4:evK gS fi85 c85_4 fr st k=opsR gS fi85 [mv 9 0 23,
 cal 10 11 [(.tmp 9),(.const (.int .i64 14))] [23,3] 3,
 ixa 11 132 3 10 0,
 ld 12 86 11 86,
 asn 2 12 86] fr st (.seq .ret k):=evK_rs 2 rfl (by kernel_rfl)
def c85_2:Code:=.seq (codeN b85 5) c85_4
theorem e85_2:evK gS fi85 c85_2 fr st k=opsR gS fi85 [cal 4 104 [(.const (.float .f64 0)),(.const (.float .f64 13830554455654793216))] [86,86] 86,
 cal 5 105 [] [] 86,
 cal 6 106 [(.const (.int .i64 1))] [3] 86,
 cal 7 106 [(.const (.int .i64 (-1)))] [3] 86,
 op1 8 (.build 132 #[(0,(.const (.float .f64 0))),(1,(.tmp 4)),(2,(.const (.float .f64 4607182418800017408))),(3,(.const (.float .f64 4609434218613702656))),(4,(.const (.float .f64 4611686018427387904))),(5,(.const (.float .f64 4613937818241073152))),(6,(.const (.float .f64 13830554455654793216))),(7,(.const (.float .f64 4591870180066957722))),(8,(.tmp 5)),(9,(.tmp 6)),(10,(.tmp 7)),(11,(.const (.float .f64 4845873199050653696))),(12,(.const (.float .f64 4890909195324358656))),(13,(.const (.float .f64 1)))]) 132,
 op1 3 (.alloc 132) 0,
 sto 132 3 8] fr st (.seq c85_4 k):=evK_rs 1 rfl (by kernel_rfl)
def c85_0:Code:=.seq (codeN b85 2) c85_2
theorem e85_0:evK gS fi85 c85_0 fr st k=opsR gS fi85 [op1 2 (.assign (.const (.float .f64 0))) 86] fr st (.seq c85_2 k):=evK_rs 0 rfl (by kernel_rfl)
theorem m85:mini fi85.body=c85_0:=by kernel_rfl
theorem c85 (l:List Int)(a j id:Nat)(st:St)(h:FeedOk st id)(ha:a<549755813888)(hj:j<549755813888) :
  EvF gS 85 [.ptr id 0] (setF st id l (nA l a j))=some (.ret (.float .f64 (floatV l a j)) none,setF st id l (nA l a (j+1))):=by
 refine EvF_start fi66_eq (fun x h=>by cases h) m85 ?_
 rw [st85]
 have hb:=fd_bound l a j (n:=14) (by omega)
 unfold floatV
 have hk:=fun fr=>k11 l a j id 14 fr st h ha hj (by omega)
 generalize fd l a j 14=z at *
 have hz:z=0∨z=1∨z=2∨z=3∨z=4∨z=5∨z=6∨z=7∨z=8∨z=9∨z=10∨z=11∨z=12∨z=13:=by omega
 rcases hz with rfl | rfl | rfl | rfl | rfl | rfl | rfl | rfl | rfl | rfl | rfl | rfl | rfl | rfl <;>
  simp [F14,hk,-zil,-zit,-znl,-znt,ty3,ty23,ty86,ty132,H85,kCopy,kNaN,kInf,kInf2,e85_4,e85_2,e85_0]
theorem k85 (l:List Int)(a j id:Nat)(fr:Fr)(st:St)(h:FeedOk st id)(ha:a<549755813888)(hj:j<549755813000) :
  callStep gS (EvF gS) 85 [.ptr id 0] fr (setF st id l (nA l a j))=some (.ok (.val (.float .f64 (floatV l a j))) (fr.map E.noMem) (setF st id l (nA l a (j+1)))):=by
 unfold callStep
 simp only [show gS.ext 85=none from rfl,fi66_eq,show fi85.pure=false from rfl,Bool.false_eq_true,if_false,c85 l a j id st h ha (by omega),retE]
 all_goals rfl
def fi55:FI:={body:=codeOf Try.f55,ntmps:=38,results:=[.cell 2 88],pers:=[0,2,3,4,6,7],locals:=[2,3,4],pure:=false,marks:=[]}
theorem H55:fi55.marks=[]∧fi55.locals=[2,3,4]∧fi55.results=[.cell 2 88]:=⟨rfl,rfl,rfl⟩
theorem fi17_eq:gS.fn 55=some fi55:=by kernel_rfl
theorem st55 (a0:V):startFr fi55 [a0]={ps:=[(0,.val a0),(2,.any),(3,.any),(4,.any),(6,.any),(7,.any)],ts:=[],lc:=[]}:=rfl
def b55:Code:=mini (codeOf Try.f55)
def c55_11:Code:=codeN b55 229
def c55_9:Code:=.cond (.tmp 7) .skip c55_11
def c55_7:Code:=.seq (codeN b55 69) c55_9
def c55_13:Code:=.seq (codeN b55 149) .ret
def c55_21:Code:=.seq (codeN b55 1397) .ret
def c55_19:Code:=.seq (codeN b55 629) c55_21
def c55_27:Code:=.seq (codeN b55 2549) .ret
def c55_35:Code:=.seq (codeN b55 22517) .ret
def c55_33:Code:=.seq (codeN b55 10229) c55_35
def c55_32:Code:=.cond (.tmp 27) c55_33 .skip
def c55_30:Code:=.seq (codeN b55 3061) c55_32
def c55_26:Code:=.cond (.tmp 21) c55_27 c55_30
def c55_24:Code:=.seq (codeN b55 757) c55_26
def c55_18:Code:=.cond (.tmp 13) c55_19 c55_24
def c55_16:Code:=.seq (codeN b55 181) c55_18
def c55_12:Code:=.cond (.tmp 7) c55_13 c55_16
def c55_6:Code:=.seq c55_7 c55_12
def c55_5:Code:=.block 0 c55_6
def c55_3:Code:=.seq (codeN b55 9) c55_5
def c55_39:Code:=.seq (codeN b55 11) .ret
def c55_2:Code:=.seq c55_3 c55_39
def c55_0:Code:=.seq (codeN b55 2) c55_2
theorem E55:(evK gS fi55 c55_11 fr st k=opsR gS fi55 [qB 9 .eql 3 6 1 3 4,
 asn 7 9 4] fr st k) ∧
 evK gS fi55 c55_9 fr st k=condK gS fi55 (fr.op (.tmp 7)).bool? .skip c55_11 fr st k ∧
 (evK gS fi55 c55_7 fr st k=opsR gS fi55 [qB 8 .eql 3 6 0 3 4,
 asn 7 8 4] fr st (.seq c55_9 k)) ∧
 (evK gS fi55 c55_13 fr st k=opsR gS fi55 [mv 10 0 23,
 cal 11 85 [(.tmp 10)] [23] 86,
 op1 12 (.build 88 #[(0,(.const (.int .i64 2))),(2,(.tmp 11))]) 88,
 sto 88 2 12] fr st (.seq .ret k)) ∧
 (evK gS fi55 c55_21 fr st k=opsR gS fi55 [mv 16 0 23,
 cal 17 11 [(.tmp 16),(.const (.int .i64 6))] [23,3] 3,
 ixa 18 117 3 17 0,
 ld 19 9 18 9,
 op1 20 (.build 88 #[(0,(.const (.int .i64 3))),(3,(.tmp 19))]) 88,
 sto 88 2 20] fr st (.seq .ret k)) ∧
 (evK gS fi55 c55_19 fr st k=opsR gS fi55 [op1 15 (.build 117 #[(0,(.const (.string {data:=#[]}))),(1,(.const (.string {data:=#[97]}))),(2,(.const (.string {data:=#[97,98]}))),(3,(.const (.string {data:=#[98]}))),(4,(.const (.string {data:=#[98,97]}))),(5,(.const (.string {data:=#[116,119,101,108,118,101,32,98,121,116,101,115]})))]) 117,
 op1 3 (.alloc 117) 0,
 sto 117 3 15] fr st (.seq c55_21 k)) ∧
 (evK gS fi55 c55_27 fr st k=opsR gS fi55 [mv 23 0 23,
 cal 24 11 [(.tmp 23),(.const (.int .i64 2))] [23,3] 3,
 qB 25 .eql 3 24 1 3 4,
 op1 26 (.build 88 #[(0,(.const (.int .i64 4))),(4,(.tmp 25))]) 88,
 sto 88 2 26] fr st (.seq .ret k)) ∧
 (evK gS fi55 c55_35 fr st k=opsR gS fi55 [mv 30 0 23,
 cal 31 11 [(.tmp 30),(.const (.int .i64 6))] [23,3] 3,
 ixa 32 118 4 31 0,
 ld 33 2 32 2,
 op1 34 (.build 88 #[(0,(.const (.int .i64 1))),(1,(.tmp 33))]) 88,
 sto 88 2 34] fr st (.seq .ret k)) ∧
 (evK gS fi55 c55_33 fr st k=opsR gS fi55 [op1 29 (.build 118 #[(0,(.const (.int .i64 (-9223372036854775808)))),(1,(.const (.int .i64 9223372036854775807))),(2,(.const (.int .i64 9007199254740992))),(3,(.const (.int .i64 9007199254740993))),(4,(.const (.int .i64 (-1)))),(5,(.const (.int .i64 4611686018427387904)))]) 118,
 op1 4 (.alloc 118) 0,
 sto 118 4 29] fr st (.seq c55_35 k)) ∧
 evK gS fi55 c55_32 fr st k=condK gS fi55 (fr.op (.tmp 27)).bool? c55_33 .skip fr st k ∧
 (evK gS fi55 c55_30 fr st k=opsR gS fi55 [qB 28 .eql 3 6 4 3 4,
 asn 27 28 4] fr st (.seq c55_32 k)) ∧
 evK gS fi55 c55_26 fr st k=condK gS fi55 (fr.op (.tmp 21)).bool? c55_27 c55_30 fr st k ∧
 (evK gS fi55 c55_24 fr st k=opsR gS fi55 [qB 22 .eql 3 6 3 3 4,
 asn 21 22 4] fr st (.seq c55_26 k)) ∧
 evK gS fi55 c55_18 fr st k=condK gS fi55 (fr.op (.tmp 13)).bool? c55_19 c55_24 fr st k ∧
 (evK gS fi55 c55_16 fr st k=opsR gS fi55 [qB 14 .eql 3 6 2 3 4,
 asn 13 14 4] fr st (.seq c55_18 k)) ∧
 evK gS fi55 c55_12 fr st k=condK gS fi55 (fr.op (.tmp 7)).bool? c55_13 c55_16 fr st k ∧
 evK gS fi55 c55_6 fr st k=evK gS fi55 c55_7 fr st (.seq c55_12 k) ∧
 evK gS fi55 c55_5 fr st k=evK gS fi55 c55_6 fr st (.blk 0 k) ∧
 (evK gS fi55 c55_3 fr st k=opsR gS fi55 [mv 5 0 23,
 cal 6 11 [(.tmp 5),(.const (.int .i64 8))] [23,3] 3] fr st (.seq c55_5 k)) ∧
 (evK gS fi55 c55_39 fr st k=opsR gS fi55 [mv 35 0 23,
 cal 36 11 [(.tmp 35),(.const (.int .i64 5))] [23,3] 3,
 op1 37 (.build 88 #[(0,(.const (.int .i64 1))),(1,(.tmp 36))]) 88,
 sto 88 2 37] fr st (.seq .ret k)) ∧
 evK gS fi55 c55_2 fr st k=evK gS fi55 c55_3 fr st (.seq c55_39 k) ∧
 evK gS fi55 c55_0 fr st k=opsR gS fi55 [op1 2 (.alloc 88) 0] fr st (.seq c55_2 k):=⟨evK_r 3 (by kernel_rfl),rfl,evK_rs 2 rfl (by kernel_rfl),evK_rs 4 rfl (by kernel_rfl),evK_rs 7 rfl (by kernel_rfl),evK_rs 6 rfl (by kernel_rfl),evK_rs 9 rfl (by kernel_rfl),evK_rs 12 rfl (by kernel_rfl),evK_rs 11 rfl (by kernel_rfl),rfl,evK_rs 10 rfl (by kernel_rfl),rfl,evK_rs 8 rfl (by kernel_rfl),rfl,evK_rs 5 rfl (by kernel_rfl),rfl,rfl,rfl,evK_rs 1 rfl (by kernel_rfl),evK_rs 13 rfl (by kernel_rfl),rfl,evK_rs 0 rfl (by kernel_rfl)⟩
theorem m55:mini fi55.body=c55_0:=by kernel_rfl
theorem c55 (l:List Int)(a j id:Nat)(st:St)(h:FeedOk st id)(ha:a<549755813888)(hj:j<549755812000) :
  EvF gS 55 [.ptr id 0] (setF st id l (nA l a j))=some (.ret (valueV l a j).enc none,setF st id l (nA l a (j+2))):=by
 refine EvF_start fi17_eq (fun x h=>by cases h) m55 ?_
 rw [st55]
 have hb:=fd_bound l a j (n:=8) (by omega)
 have hb6:=fd_bound l a (j+1) (n:=6) (by omega)
 unfold valueV
 have hk:=fun fr=>k11 l a j id 8 fr st h ha (by omega) (by omega)
 have hk6:=fun fr=>k11 l a (j+1) id 6 fr st h ha (by omega) (by omega)
 have hk2:=fun fr=>k11 l a (j+1) id 2 fr st h ha (by omega) (by omega)
 have hk5:=fun fr=>k11 l a (j+1) id 5 fr st h ha (by omega) (by omega)
 have hf1:=fun fr=>k85 l a (j+1) id fr st h ha (by omega)
 generalize fd l a j 8=z at *
 generalize fd l a (j+1) 6=y at *
 have hz:z=0∨z=1∨z=2∨z=3∨z=4∨z=5∨z=6∨z=7:=by omega
 have hy:y=0∨y=1∨y=2∨y=3∨y=4∨y=5:=by omega
 rcases hz with rfl | rfl | rfl | rfl | rfl | rfl | rfl | rfl
 case inr.inr.inl=>rcases hy with rfl | rfl | rfl | rfl | rfl | rfl <;> simp [T6,hk,hk6,hk2,hk5,hf1,-zil,-zit,-znl,-znt,ty2,ty3,ty4,ty9,ty23,ty86,ty88,ty117,ty118,eq88,H55,E55]
 case inr.inr.inr.inr.inl=>rcases hy with rfl | rfl | rfl | rfl | rfl | rfl <;> simp [N6,hk,hk6,hk2,hk5,hf1,-zil,-zit,-znl,-znt,ty2,ty3,ty4,ty9,ty23,ty86,ty88,ty117,ty118,eq88,H55,E55]
 all_goals simp [hk,hk6,hk2,hk5,hf1,-zil,-zit,-znl,-znt,ty2,ty3,ty4,ty9,ty23,ty86,ty88,ty117,ty118,eq88,H55,E55]
end
end Go.Proofs.Ytdoobejjedpcgaa
namespace Go.Ab
open Go
def dd (st:St)(m:Nat):St:={st with objs:=st.objs ++ List.replicate m []}
def nw (st:St)(m:Nat)(cs:List V):St:={st with objs:=st.objs ++ (List.replicate m [] ++ [cs])}
theorem dd_zero (st:St):dd st 0=st:=by unfold dd;simp
theorem dd_len (st:St)(m:Nat):(dd st m).objs.length=st.objs.length+m:=by simp [dd]
theorem gr_len (st:St)(m:Nat)(cs:List V):(nw st m cs).objs.length=st.objs.length+m+1:=by simp [nw];omega
theorem setF_len (st:St)(id:Nat)(l:List Int)(a:Nat):(setF st id l a).objs.length=st.objs.length:=by simp [setF]
theorem setF_wp (st:St)(id:Nat)(l:List Int)(a:Nat):(setF st id l a).wp=st.wp:=rfl
theorem dd_wp (st:St)(m:Nat):(dd st m).wp=st.wp:=rfl
theorem gr_wp (st:St)(m:Nat)(cs:List V):(nw st m cs).wp=st.wp:=rfl
theorem FeedOk.dd {st:St} {id:Nat} (h:FeedOk st id)(m:Nat):FeedOk (dd st m) id:=⟨by rw [dd_len];have:=h.1;omega,h.2⟩
theorem FeedOk.nw {st:St} {id:Nat} (h:FeedOk st id)(m:Nat)(cs:List V):FeedOk (nw st m cs) id:=⟨by rw [gr_len];have:=h.1;omega,h.2⟩
theorem FeedOk.setF {st:St} {id id':Nat} (h:FeedOk st id)(l:List Int)(a:Nat):FeedOk (setF st id' l a) id:=⟨by rw [setF_len];exact h.1,h.2⟩
theorem dd_dd (st:St)(m n:Nat):dd (dd st m) n=dd st (m+n):=by unfold dd;simp [zaa,List.replicate_append_replicate]
theorem setF_dd {st:St} {id:Nat} (h:FeedOk st id)(m:Nat)(l:List Int)(a:Nat):dd (setF st id l a) m=setF (dd st m) id l a:=by
 unfold dd setF;simp only [St.mk.injEq,and_true];rw [List.set_append_left _ _ h.1]
theorem setF_gr {st:St} {id:Nat} (h:FeedOk st id)(m:Nat)(cs:List V)(l:List Int)(a:Nat):nw (setF st id l a) m cs=setF (nw st m cs) id l a:=by
 unfold nw setF;simp only [St.mk.injEq,and_true];rw [List.set_append_left _ _ h.1]
theorem gr_obj (st:St)(m:Nat)(cs:List V):(nw st m cs).objs[st.objs.length+m]?=some cs:=by
 simp [nw]
theorem obj_gr {st:St} {id:Nat} (h:FeedOk st id)(m:Nat)(cs:List V)(l:List Int)(a:Nat):St.obj (setF (nw st m cs) id l a) (st.objs.length+m)=some cs:=by
 unfold St.obj setF
 show ((nw st m cs).objs.set id _)[_]?=_
 rw [List.getElem?_set_ne (by have:=h.1;omega),gr_obj]
theorem set_gr {st:St} {id:Nat} (h:FeedOk st id)(m:Nat)(cs:List V)(l:List Int)(a:Nat):St.set (setF (nw st m cs) id l a) (st.objs.length+m) []=some (setF (dd st (m+1)) id l a):=by
 have h1:=h.1
 have h2:=h.2
 unfold St.set
 rw [if_pos (by rw [setF_wp,gr_wp];omega)]
 rw [← setF_gr h,← setF_dd h]
 unfold nw dd
 simp only [Option.some.injEq,St.mk.injEq,and_true]
 rw [List.set_append_right _ _ (by rw [setF_len];omega),setF_len,show st.objs.length+m - st.objs.length=m by omega,List.set_append_right _ _ (by simp),List.replicate_succ',List.length_replicate,Nat.sub_self]
 rfl
theorem set_gr' {st:St} {id:Nat} (h:FeedOk st id)(m:Nat)(cs cs':List V)(l:List Int)(a:Nat):St.set (setF (nw st m cs) id l a) (st.objs.length+m) cs'=some (setF (nw st m cs') id l a):=by
 have h1:=h.1
 have h2:=h.2
 unfold St.set
 rw [if_pos (by rw [setF_wp,gr_wp];omega)]
 rw [← setF_gr h,← setF_gr h]
 unfold nw
 simp only [Option.some.injEq,St.mk.injEq,and_true]
 rw [List.set_append_right _ _ (by rw [setF_len];omega),setF_len,show st.objs.length+m - st.objs.length=m by omega,List.set_append_right _ _ (by simp),List.length_replicate,Nat.sub_self]
 rfl
theorem newRef_dd {st:St} {id:Nat} (h:FeedOk st id)(fr:Fr)(m k len:Nat)(cs:List V)(l:List Int)(a:Nat) :
  newRef fr (setF (dd st m) id l a) k len cs=.ok (.val (.sref false k (st.objs.length+m) 0 len)) fr (setF (nw st m cs) id l a):=by
 unfold newRef
 rw [setF_len,dd_len,← setF_dd h,← setF_gr h]
 unfold nw dd
 simp
theorem newRef_setF {st:St} {id:Nat} (h:FeedOk st id)(fr:Fr)(k len:Nat)(cs:List V)(l:List Int)(a:Nat) :
  newRef fr (setF st id l a) k len cs=.ok (.val (.sref false k st.objs.length 0 len)) fr (setF (nw st 0 cs) id l a):=by
 have:=newRef_dd h fr 0 k len cs l a
 rw [dd_zero] at this
 exact this
mutual
theorem frz_flat:∀ (n:Nat)(st:St)(v:V),v.flat=true→frz n st v=some (v,st)
 | 0,_,_,_=>by unfold frz;rfl
 | n+1,st,v,h=>by
  unfold frz
  split
  ·simp [V.flat] at h
  ·rw [frzL_flat n st _ (by simpa [V.flat] using h)]
  ·rw [frzL_flat n st _ (by simpa [V.flat] using h)]
  ·rfl
  ·rw [if_pos (by simpa [V.flat] using h)]
  ·rfl
theorem frzL_flat:∀ (n:Nat)(st:St)(l:List V),flats l=true→frzL (frz n) st l=some (l,st)
 | _,_,[],_=>rfl
 | n,st,v :: r,h=>by
  simp only [flats,Bool.and_eq_true] at h
  unfold frzL
  rw [frz_flat n st v h.1]
  simp only
  rw [frzL_flat n st r h.2]
end
theorem frzL_cons {f:St→V→Option (V × St)} {st st':St} {v v':V} {r:List V} (h:f st v=some (v',st')):frzL f st (v :: r)=match frzL f st' r with
   | some (r',st'')=>some (v' :: r',st'')
   | none=>none:=by
 simp only [frzL,h]
 cases frzL f st' r with
 | none=>rfl
 | some x=>rfl
theorem frzL_append {f:St→V→Option (V × St)} {st st' st'':St}:∀ {xs xs' ys ys':List V},frzL f st xs=some (xs',st')→frzL f st' ys=some (ys',st'')→frzL f st (xs ++ ys)=some (xs' ++ ys',st'')
 | [],_,_,_,h,k=>by unfold frzL at h;cases h;exact k
 | v :: r,_,ys,ys',h,k=>by
  unfold frzL at h
  split at h
  ·rename_i v' st1 h1
   split at h
   ·rename_i r' st2 h2
    cases h
    rw [List.cons_append,frzL_cons h1,frzL_append h2 k];rfl
   ·cases h
  ·cases h
theorem chunk_enc {α:Type} (cells:α→List V)(k:Nat)(hk:0<k)(hl:∀ x,(cells x).length=k):∀ (vs:List α),chunk true k vs.length (vs.flatMap cells)=vs.map fun x=>V.agg (cells x)
 | []=>rfl
 | x :: r=>by
  rw [List.length_cons,chunk,List.flatMap_cons,List.take_left' (hl x),List.drop_left' (hl x),chunk_enc cells k hk hl r];rfl
theorem vals_cells_len (vs:List Val):(vs.flatMap Val.cells).length=vs.length*5:=by
 induction vs with
 | nil=>rfl
 | cons x r ih=>simp [List.flatMap_cons,ih,Val.cells];omega
theorem vals_cells_one (vs:List Val):(vs.flatMap Val.cells).all V.one=true:=by
 induction vs with
 | nil=>rfl
 | cons x r ih=>simp [List.flatMap_cons,ih,Val.cells,V.one]
theorem vals_cells_flat (vs:List Val):flats (vs.flatMap Val.cells)=true:=by
 induction vs with
 | nil=>rfl
 | cons x r ih =>
  have:∀ (a b:List V),flats a=true→flats b=true→flats (a ++ b)=true:=by
   intro a
   induction a with
   | nil=>intro b _ h;exact h
   | cons v a iha=>intro b h1 h2;simp only [flats,List.cons_append,Bool.and_eq_true] at h1 ⊢;exact ⟨h1.1,iha b h1.2 h2⟩
  rw [List.flatMap_cons]
  exact this _ _ (by simp [Val.cells,flats,V.flat]) ih
theorem vals_cells_strip (vs:List Val):(vs.flatMap Val.cells).map V.strip1=vs.flatMap Val.cells:=by
 induction vs with
 | nil=>rfl
 | cons x r ih=>simp [List.flatMap_cons,ih,Val.cells,V.strip1]
theorem chunk_vals (vs:List Val):chunk true 5 vs.length (vs.flatMap Val.cells)=encVals vs:=chunk_enc Val.cells 5 (by omega) (fun _=>rfl) vs
theorem frz_vals {st:St} {id:Nat} (h:FeedOk st id)(n m:Nat)(vs:List Val)(hv:vs≠[])(l:List Int)(a:Nat) :
  frz (n+1) (setF (nw st m (vs.flatMap Val.cells)) id l a) (.sref false 5 (st.objs.length+m) 0 vs.length)=some (.slice (encVals vs),setF (dd st (m+1)) id l a):=by
 have hl:¬ vs.length=0:=by simpa using hv
 unfold frz
 simp only [hl,if_false,obj_gr h,set_gr h,vals_cells_len,List.drop_zero,Nat.zero_add,Nat.le_refl,and_true,show (0<5)=True by simp,if_true]
 rw [List.take_of_length_le (by rw [vals_cells_len];omega),vals_cells_strip,frzL_flat _ _ _ (vals_cells_flat vs)]
 simp only [vals_cells_len,vals_cells_one,and_self,if_true]
 rw [show Nat.blt 1 5=true from rfl,chunk_vals]
theorem frz_predcells {st st':St} {n:Nat} {a0 a1 a2 a3 a4 a5 a6 a7 a8 a9 a10 a11 s s':V} (hf:flats [a0,a1,a2,a3,a4,a5,a6,a7,a8,a9,a10,a11]=true)(hs:frz n st s=some (s',st')) :
  frz (n+1) st (.agg [a0,a1,a2,a3,a4,a5,a6,a7,a8,a9,a10,a11,s])=some (.agg [a0,a1,a2,a3,a4,a5,a6,a7,a8,a9,a10,a11,s'],st'):=by
 unfold frz
 have h1:=frzL_flat n st _ hf
 have h2:frzL (frz n) st [s]=some ([s'],st'):=by rw [frzL_cons hs];rfl
 have:=frzL_append h1 h2
 simp only [List.cons_append,List.nil_append] at this
 simp only [this]
theorem frz_nil (n:Nat)(st:St):frz (n+1) st (.sref true 0 0 0 0)=some (.slice [],st):=by unfold frz;rfl
theorem w64_1:IntKind.wrap .i64 1=1:=by kernel_rfl
theorem w64_2:IntKind.wrap .i64 2=2:=by kernel_rfl
theorem w64_3:IntKind.wrap .i64 3=3:=by kernel_rfl
theorem w64_4:IntKind.wrap .i64 4=4:=by kernel_rfl
theorem w64_5:IntKind.wrap .i64 5=5:=by kernel_rfl
theorem w64_6:IntKind.wrap .i64 6=6:=by kernel_rfl
theorem w64_7:IntKind.wrap .i64 7=7:=by kernel_rfl
theorem w64_8:IntKind.wrap .i64 8=8:=by kernel_rfl
theorem w64_9:IntKind.wrap .i64 9=9:=by kernel_rfl
theorem w64_10:IntKind.wrap .i64 10=10:=by kernel_rfl
end Go.Ab
namespace Go.Ab
open Go
def FVR:List (Val × Option (Int × Int)):=[
 (vzero,none),
 (⟨2,0,0,[],false⟩,some (1,0)),(⟨2,0,9223372036854775808,[],false⟩,some (1,0)),(⟨2,0,4607182418800017408,[],false⟩,some (1,3)),
 (⟨2,0,4609434218613702656,[],false⟩,some (1,4)),(⟨2,0,4611686018427387904,[],false⟩,some (1,5)),(⟨2,0,4613937818241073152,[],false⟩,some (1,6)),
 (⟨2,0,13830554455654793216,[],false⟩,some (1,-1)),(⟨2,0,4591870180066957722,[],false⟩,some (1,2)),(⟨2,0,9221120237041090561,[],false⟩,none),
 (⟨2,0,9218868437227405312,[],false⟩,some (1,20)),(⟨2,0,18442240474082181120,[],false⟩,some (1,-20)),(⟨2,0,4845873199050653696,[],false⟩,some (1,8)),
 (⟨2,0,4890909195324358656,[],false⟩,some (1,12)),(⟨2,0,1,[],false⟩,some (1,1)),
 (⟨3,0,0,[],false⟩,some (3,0)),(⟨3,0,0,[97],false⟩,some (3,1)),(⟨3,0,0,[97,98],false⟩,some (3,2)),(⟨3,0,0,[98],false⟩,some (3,3)),(⟨3,0,0,[98,97],false⟩,some (3,4)),
 (⟨3,0,0,[116,119,101,108,118,101,32,98,121,116,101,115],false⟩,some (3,5)),
 (⟨4,0,0,[],false⟩,some (4,0)),(⟨4,0,0,[],true⟩,some (4,1)),
 (⟨1,-9223372036854775808,0,[],false⟩,some (1,-10)),(⟨1,9223372036854775807,0,[],false⟩,some (1,11)),(⟨1,9007199254740992,0,[],false⟩,some (1,8)),(⟨1,9007199254740993,0,[],false⟩,some (1,9)),
 (⟨1,-1,0,[],false⟩,some (1,-1)),(⟨1,4611686018427387904,0,[],false⟩,some (1,10)),(⟨1,0,0,[],false⟩,some (1,0)),(⟨1,1,0,[],false⟩,some (1,3)),(⟨1,2,0,[],false⟩,some (1,5)),(⟨1,3,0,[],false⟩,some (1,6)),(⟨1,4,0,[],false⟩,some (1,7))]
def rcmp:Option (Int × Int)→Option (Int × Int)→Int × Bool
 | some (c,x),some (d,y)=>if c=d then (sgn (x<y) (x > y),true) else (0,false)
 | _,_=>(0,false)
def FV (v:Val)(r:Option (Int × Int)):Prop:=(v,r)∈FVR
def okPair (a b:Val × Option (Int × Int)):Bool :=
 decide (cmp a.1 b.1=rcmp a.2 b.2) && (!vsame a.1 b.1 || decide (a.2=b.2)) && (!(decide (a.1.kind=3) && isPre a.1.s b.1.s && decide (b.1.kind=3)) || decide ((cmp a.1 b.1).1 ≥ 0)) && (!vis a.1 b.1 || (decide (a.1.s=b.1.s) && decide ((a.1.kind=3)=(b.1.kind=3))))
set_option maxRecDepth 100000 in
theorem pairs_ok:(FVR.all fun a=>FVR.all fun b=>okPair a b)=true:=by kernel_rfl
end Go.Ab
