/- Of any tree, any Subs, right or not, the chain, ways, own places are as the document says. Part 4. -/
import Derived.Test.YtdoobejjedpcgaaK3
set_option linter.unusedVariables false
set_option linter.unusedSimpArgs false
set_option linter.unnecessarySimpa false
set_option maxHeartbeats 8000000
set_option maxRecDepth 20000
open Int renaming not_le → zil, not_lt → zit, natCast_add → zia
open Nat renaming not_le → znl, not_lt → znt
open List renaming getElem?_eq_getElem → zge, getElem?_eq_some_iff → zgs, append_assoc → zaa, mem_of_getElem? → zmg, length_append → zla
namespace Go.Ab
open Go
def flt (x y:Nat):Bool:=FloatKind.f64.format.order x y == some .lt
def fle (x y:Nat):Bool:=FloatKind.f64.format.order x y == some .lt || FloatKind.f64.format.order x y == some .eq
def fgt (x y:Nat):Bool:=FloatKind.f64.format.order x y == some .gt
def fge (x y:Nat):Bool:=FloatKind.f64.format.order x y == some .gt || FloatKind.f64.format.order x y == some .eq
def feq (x y:Nat):Bool:=FloatKind.f64.format.order x y == some .eq
theorem fb_lss (x y:Nat):floatBin .lss .f64 x y=some (.bool (flt x y)):=rfl
theorem fb_leq (x y:Nat):floatBin .leq .f64 x y=some (.bool (fle x y)):=rfl
theorem fb_gtr (x y:Nat):floatBin .gtr .f64 x y=some (.bool (fgt x y)):=rfl
theorem fb_geq (x y:Nat):floatBin .geq .f64 x y=some (.bool (fge x y)):=rfl
theorem fb_eql (x y:Nat):floatBin .eql .f64 x y=some (.bool (feq x y)):=rfl
theorem fb_neq (x y:Nat):floatBin .neq .f64 x y=some (.bool (!feq x y)):=rfl
theorem fs_eq (x y:Nat):Op.floatEq .f64 x y=feq x y:=rfl
attribute [simp] fb_lss fb_leq fb_gtr fb_geq fb_eql fb_neq fs_eq
def fbits (b:Nat):Int:=if feq b b then (if feq b 0 then 0 else b) else 9221120237041090560
def sgn (below above:Bool):Int:=if below then -1 else if above then 1 else 0
def ftr (x:Nat):Nat:=(truncV x).getD 0
def ftz (x:Nat):Int:=((FloatKind.f64.decode (ftr x)).toInt .zero).getD 0
def icmp (n:Int)(x:Nat):Int × Bool :=
 if feq x x then
  if fge x 4890909195324358656 then (-1,true)
  else if flt x 14114281232179134464 then (1,true)
  else if ftz x=n then (sgn (flt (ftr x) x) (fgt (ftr x) x),true)
  else (sgn (n<ftz x) (n > ftz x),true)
 else (0,false)
def fcmp (a b:Nat):Int × Bool:=if feq a a && feq b b then (sgn (flt a b) (fgt a b),true) else (0,false)
def scmp (a b:List UInt8):Int:=sgn (Op.bytesLess a b) (!(Op.bytesLess a b || a == b))
def cmp (a b:Val):Int × Bool :=
 if a.kind=1∧b.kind=1 then (sgn (a.n<b.n) (a.n > b.n),true)
 else if a.kind=2∧b.kind=2 then fcmp a.x b.x
 else if a.kind=1∧b.kind=2 then icmp a.n b.x
 else if a.kind=2∧b.kind=1 then (-(icmp b.n a.x).1,(icmp b.n a.x).2)
 else if a.kind=3∧b.kind=3 then (scmp a.s b.s,true)
 else if a.kind=4∧b.kind=4 then (sgn (!a.b && b.b) (a.b && !b.b),true)
 else (0,false)
def vis (a b:Val):Bool:=(cmp a b).2 && decide ((cmp a b).1=0)
def vright (v:Val):Bool :=
 if v.kind=1 then feq v.x 0 && v.s=[] && !v.b
 else if v.kind=2 then v.n=0 && v.s=[] && !v.b
 else if v.kind=3 then v.n=0 && feq v.x 0 && !v.b && v.s.length≤12
 else if v.kind=4 then v.n=0 && feq v.x 0 && v.s=[]
 else false
def vsame (a b:Val):Bool:=a.kind=b.kind && a.n=b.n && a.s=b.s && a.b=b.b && fbits a.x=fbits b.x
def vzero:Val:=⟨0,0,0,[],false⟩
def isWord (s:List UInt8):Bool:=s.all (fun c=>!decide (c.toNat<97) && !decide (122<c.toNat)) && (decide (1≤s.length) && decide (s.length≤6))
def pright (p:Pred):Bool :=
 if isWord p.name then
  if p.test=1 then vsame p.v vzero && vsame p.w vzero && p.set.length=0
  else if 2≤p.test∧p.test≤7 then vright p.v && vsame p.w vzero && p.set.length=0
  else if p.test=8 then vright p.v && vright p.w && p.set.length=0
  else if p.test=9 then vright p.v && p.v.kind=3 && vsame p.w vzero && p.set.length=0
  else if p.test=10 then vsame p.v vzero && vsame p.w vzero && 1≤p.set.length && p.set.length≤4 && p.set.all vright
  else false
 else false
def sames:List Val→List Val→Bool
 | [],[]=>true
 | a :: r,b :: s=>vsame a b && sames r s
 | _,_=>false
def psame (a b:Pred):Bool:=a.name=b.name && a.test=b.test && vsame a.v b.v && vsame a.w b.w && sames a.set b.set
def isPre (s t:List UInt8):Bool:=t.length≤s.length && s.take t.length=t
def ptakes (p:Pred)(v:Val):Bool :=
 if pright p then
  let c:=cmp v p.v
  if p.test=1 then true
  else if p.test=2 then c.2 && c.1=0
  else if p.test=3 then !(c.2 && c.1=0)
  else if p.test=4 then c.2 && c.1<0
  else if p.test=5 then c.2 && c.1≤0
  else if p.test=6 then c.2 && c.1 > 0
  else if p.test=7 then c.2 && c.1 ≥ 0
  else if p.test=8 then c.2 && c.1 ≥ 0 && (cmp v p.w).2 && (cmp v p.w).1≤0
  else if p.test=9 then v.kind=3 && isPre v.s p.v.s
  else p.set.any (vis v)
 else false
def vnan (v:Val):Bool:=v.kind=2 && !feq v.x v.x
def pvoid (p:Pred):Bool :=
 if pright p then
  if p.test=2∨(4≤p.test∧p.test≤7) then vnan p.v
  else if p.test=8 then !(cmp p.v p.w).2 || (cmp p.v p.w).1 > 0
  else if p.test=10 then p.set.all vnan
  else false
 else false
structure PEnd where
 is:Bool
 op:Bool
 v:Val
def PEnd.encP (e:PEnd):V:=.agg [.bool e.is,.bool e.op,.int .i64 e.v.kind,.int .i64 e.v.n,.float .f64 e.v.x,.str e.v.s,.bool e.v.b]
def PEnd.encR (e:PEnd):V:=.agg [.int .i64 e.v.kind,.int .i64 e.v.n,.float .f64 e.v.x,.str e.v.s,.bool e.v.b,.bool e.is,.bool e.op]
theorem PEnd.eta (e:PEnd):(⟨e.is,e.op,e.v⟩:PEnd)=e:=rfl
attribute [simp] PEnd.encP PEnd.encR PEnd.eta
def lowE (p:Pred):PEnd:=if p.test=6∨p.test=7 then ⟨true,p.test=6,p.v⟩ else if p.test=8 then ⟨true,false,p.v⟩ else ⟨false,false,vzero⟩
def highE (p:Pred):PEnd:=if p.test=4∨p.test=5 then ⟨true,p.test=4,p.v⟩ else if p.test=8 then ⟨true,false,p.w⟩ else ⟨false,false,vzero⟩
def within (q p:PEnd)(side:Int):Bool :=
 if p.is then if q.is then (cmp q.v p.v).2 && (decide ((cmp q.v p.v).1=side) || (decide ((cmp q.v p.v).1=0) && (!p.op || q.op))) else false else true
def pimplies (q p:Pred):Bool :=
 if pright q && pright p then
  if pvoid q || p.test=1 then true
  else if q.test=p.test && (vsame q.v p.v && vsame q.w p.w && sames q.set p.set) then true
  else if p.test=3 then !ptakes q p.v
  else if q.test=2 then ptakes p q.v
  else if q.test=10 then q.set.all (fun v=>vnan v || ptakes p v)
  else if ((lowE q).is || (highE q).is) && ((lowE p).is || (highE p).is) then
   within (lowE q) (lowE p) 1 && within (highE q) (highE p) (-1)
  else if q.test=9 then
   if p.test=9 then isPre q.v.s p.v.s
   else if p.test=7 then (cmp q.v p.v).2 && (cmp q.v p.v).1 ≥ 0
   else if p.test=6 then (cmp q.v p.v).2 && (cmp q.v p.v).1 > 0
   else false
  else false
 else false
theorem less_irrefl:∀ s:List UInt8,Op.bytesLess s s=false
 | []=>rfl
 | a :: r=>by simp [Op.bytesLess,less_irrefl r]
theorem sames_len:∀ {a b:List Val},sames a b=true→a.length=b.length
 | [],[],_=>rfl
 | a :: r,b :: s,h=>by
  simp only [sames,Bool.and_eq_true] at h
  simp [sames_len h.2]
 | [],_ :: _,h=>by simp [sames] at h
 | _ :: _,[],h=>by simp [sames] at h
theorem sames_ne {a b:List Val} (h:¬ a.length=b.length):sames a b=false:=by
 cases hs:sames a b with
 | false=>rfl
 | true=>exact absurd (sames_len hs) h
theorem sgn_bound (a b:Bool):-1≤sgn a b∧sgn a b≤1:=by cases a <;> cases b <;> simp [sgn]
theorem icmp_bound (n:Int)(x:Nat):-1≤(icmp n x).1∧(icmp n x).1≤1:=by
 unfold icmp
 repeat' split
 all_goals first | exact sgn_bound _ _ | simp
theorem wrap_icmp (n:Int)(x:Nat):IntKind.wrap .i64 (-(icmp n x).1) = -(icmp n x).1:=by
 have:=icmp_bound n x
 exact wrap64 (by omega) (by omega)
def opq (b:Bool):Bool:=b
theorem agg_eql (ks:List TK)(x y:List V):binAgg ks .eql x y=(eqCells ks x y).map fun b=>.bool (opq b):=rfl
theorem agg_neq (ks:List TK)(x y:List V):binAgg ks .neq x y=(eqCells ks x y).map fun b=>.bool (!opq b):=rfl
theorem feq00:feq 0 0=true:=by kernel_rfl
attribute [simp] less_irrefl feq00
attribute [simp] wrap_icmp agg_eql agg_neq eqCells eqScalar
end Go.Ab
namespace Go.Ab
open Go Ieee
set_option maxRecDepth 4000
theorem read_cases (x:Nat):(∃ s t,double.read x=.nan s t)∨(∃ s,double.read x=.infinity s)∨∃ s m e,double.read x=.number s m e∧m<2 ^ 53∧(-1074<e→2 ^ 52≤m) ∧ -1074≤e:=by
 have hb:double.binade=2 ^ 52:=rfl
 have hl:double.leastPlace = -1074:=rfl
 unfold Format.read
 simp only [hb,hl]
 generalize x % double.signWeight=r
 split
 ·exact .inr (.inr ⟨_,_,_,rfl,by omega,by omega,by omega⟩)
 ·split
  ·refine .inr (.inr ⟨_,_,_,rfl,?_,?_,?_⟩)
   ·have:=Nat.mod_lt r (show 0<2 ^ 52 by decide);omega
   ·intro _;omega
   ·omega
  ·split
   ·exact .inr (.inl ⟨_,rfl⟩)
   ·exact .inl ⟨_,_,rfl⟩
theorem cut_zero (s:Bool)(n d:Nat):Toward.zero.cut s n d=n / 2 ^ (min d (n.log2+2)):=by
 simp [Toward.cut,Nat.shiftLeft_eq]
theorem cut_even_dvd (s:Bool)(n d q:Nat)(h:n=q*2 ^ (min d (n.log2+2))):Toward.even.cut s n d=q:=by
 have hp:0<2 ^ (min d (n.log2+2)):=Nat.pow_pos (by decide)
 have h1:n / 2 ^ (min d (n.log2+2))=q:=by
  conv=>lhs;lhs;rw [h]
  exact Nat.mul_div_cancel _ hp
 have h2:n % 2 ^ (min d (n.log2+2))=0:=by
  conv=>lhs;lhs;rw [h]
  exact Nat.mul_mod_left _ _
 simp only [Toward.cut,Nat.shiftLeft_eq,Nat.one_mul,h1,h2]
 have h3:¬ (2 ^ (min d (n.log2+2))=0):=by omega
 simp [h3]
theorem log2_of {n k:Nat} (h1:2 ^ k≤n)(h2:n<2 ^ (k+1)):n.log2=k:=by
 have h0:n≠0:=by have:=Nat.pow_pos (n:=k) (show 0<2 by decide);omega
 have a:k≤n.log2:=(Nat.le_log2 h0).2 h1
 have b:n.log2<k+1:=(Nat.log2_lt h0).2 h2
 omega
theorem read_word (s:Bool)(K:Nat)(l:Int)(h1:2 ^ 52≤K)(h2:K<2 ^ 53)(h3:-1074≤l)(h4:l≤900) :
  double.read (double.word s (min ((l - double.leastPlace).toNat*double.binade+K) double.infRung))=.number s K l:=by
 have hb:double.binade=4503599627370496:=rfl
 have hl:double.leastPlace = -1074:=rfl
 have hi:double.infRung=9218868437227405312:=rfl
 have hw:double.signWeight=9223372036854775808:=rfl
 obtain ⟨p,hp⟩:∃ p:Nat,(l - double.leastPlace).toNat=p∧l=(p:Int) - 1074∧p≤1974:=⟨(l+1074).toNat,by rw [hl];omega,by omega,by omega⟩
 obtain ⟨hp1,hp2,hp3⟩:=hp
 rw [hp1]
 have hm:min (p*double.binade+K) double.infRung=p*4503599627370496+K:=by rw [hb,hi];omega
 rw [hm]
 have hr:(p*4503599627370496+K)<9223372036854775808:=by omega
 have key:∀ w:Nat,w % 9223372036854775808=p*4503599627370496+K→(w / 9223372036854775808 % 2 == 1)=s→double.read w=.number s K l:=by
  intro w e1 e2
  unfold Format.read
  simp only [hb,hl,hi,hw,e1,e2]
  have c1:¬ p*4503599627370496+K<4503599627370496:=by omega
  have c2:p*4503599627370496+K<9218868437227405312:=by omega
  have c3:(p*4503599627370496+K) % 4503599627370496=K - 4503599627370496:=by omega
  have c4:(p*4503599627370496+K) / 4503599627370496 - 1=p:=by omega
  rw [if_neg c1,if_pos c2,c3,c4,hp2]
  have c5:4503599627370496+(K - 4503599627370496)=K:=by omega
  have c6:(-1074:Int)+(p:Int)=(p:Int) - 1074:=by omega
  rw [c5,c6]
 apply key
 ·cases s with
  | false=>show (p*4503599627370496+K) % 9223372036854775808=_;omega
  | true=>show (9223372036854775808+(p*4503599627370496+K)) % 9223372036854775808=_;omega
 ·cases s with
  | false =>
   show ((p*4503599627370496+K) / 9223372036854775808 % 2 == 1)=false
   rw [Nat.div_eq_of_lt hr];rfl
  | true =>
   show ((9223372036854775808+(p*4503599627370496+K)) / 9223372036854775808 % 2 == 1)=true
   rw [show (9223372036854775808+(p*4503599627370496+K)) / 9223372036854775808=1 by omega];rfl
theorem read_zero (s:Bool):double.read (double.word s 0)=.number s 0 (-1074):=by cases s <;> rfl
theorem signed_bound (s:Bool)(M:Nat)(h:M≤2 ^ 63)(hs:s=false→M<2 ^ 63):-9223372036854775808≤signed s M 0∧signed s M 0≤9223372036854775807:=by
 unfold signed
 simp only [Nat.shiftLeft_zero]
 cases s with
 | false=>have:=hs rfl;simp only [Bool.false_eq_true,if_false];omega
 | true=>simp only [if_true];omega
theorem whole_exact (s:Bool)(M:Nat)(h:M≤2 ^ 63)(hM:M<2 ^ 53∨∃ m e:Nat,M=m*2 ^ e∧2 ^ 52≤m∧m<2 ^ 53) :
  (double.read (double.write (.number s M 0))).toInt .zero=some (signed s M 0):=by
 have hl:double.leastPlace = -1074:=rfl
 have hf:(double.fractionBits:Int)=52:=rfl
 unfold Format.write Format.nearest
 dsimp only
 by_cases h0:M=0
 ·subst h0
  simp only [if_true]
  rw [read_zero]
  simp only [Datum.toInt,Datum.integral,cut_zero]
  simp
 ·rw [if_neg h0]
  have hL1:2 ^ M.log2≤M:=Nat.log2_self_le h0
  have hL2:M<2 ^ (M.log2+1):=Nat.lt_log2_self
  have hL:M.log2≤63:=by
   have:M.log2<64:=(Nat.log2_lt h0).2 (by omega)
   omega
  have hlast:max ((0:Int)+(M.log2:Int) - (double.fractionBits:Int)) double.leastPlace=(M.log2:Int) - 52:=by rw [hl,hf];omega
  simp only [hlast]
  -- kept
  obtain ⟨K,l,hK,hK1,hK2,hlk,hdef⟩:∃ K:Nat,∃ l:Int,(l=(M.log2:Int) - 52)∧2 ^ 52≤K∧K<2 ^ 53∧Toward.even.cut s (M <<< ((0:Int) - ((M.log2:Int) - 52)).toNat) (((M.log2:Int) - 52) - 0).toNat=K ∧
    ((0≤l→M=K*2 ^ l.toNat)∧(l<0→K=M*2 ^ (-l).toNat∧(-l).toNat≤52)):=by
   by_cases hs:M.log2≤52
   ·refine ⟨M*2 ^ (52 - M.log2),(M.log2:Int) - 52,rfl,?_,?_,?_,?_,?_⟩
    ·calc 2 ^ 52=2 ^ M.log2*2 ^ (52 - M.log2):=by rw [← Nat.pow_add];congr 1;omega
      _≤M*2 ^ (52 - M.log2):=Nat.mul_le_mul_right _ hL1
    ·calc M*2 ^ (52 - M.log2)<2 ^ (M.log2+1)*2 ^ (52 - M.log2):=Nat.mul_lt_mul_of_pos_right hL2 (Nat.pow_pos (by decide))
      _=2 ^ 53:=by rw [← Nat.pow_add];congr 1;omega
    ·have e1:((0:Int) - ((M.log2:Int) - 52)).toNat=52 - M.log2:=by omega
     have e2:(((M.log2:Int) - 52) - 0).toNat=0:=by omega
     rw [e1,e2]
     exact cut_even_dvd _ _ _ _ (by rw [Nat.zero_min,Nat.shiftLeft_eq];simp)
    ·intro hge
     have e:M.log2=52:=by omega
     rw [e];simp
    ·intro hlt
     have e:(-((M.log2:Int) - 52)).toNat=52 - M.log2:=by omega
     rw [e];exact ⟨rfl,by omega⟩
   ·obtain ⟨m,e,hme,hm1,hm2⟩:∃ m e:Nat,M=m*2 ^ e∧2 ^ 52≤m∧m<2 ^ 53:=by
     rcases hM with hM | hM
     ·exfalso
      have:M.log2<53:=(Nat.log2_lt h0).2 hM
      omega
     ·exact hM
    have hlog:M.log2=52+e:=by
     apply log2_of
     ·rw [hme,Nat.pow_add];exact Nat.mul_le_mul_right _ hm1
     ·rw [hme,show 52+e+1=53+e by omega,Nat.pow_add];exact Nat.mul_lt_mul_of_pos_right hm2 (Nat.pow_pos (by decide))
    refine ⟨m,(M.log2:Int) - 52,rfl,hm1,hm2,?_,?_,?_⟩
    ·have e1:((0:Int) - ((M.log2:Int) - 52)).toNat=0:=by omega
     have e2:(((M.log2:Int) - 52) - 0).toNat=e:=by omega
     rw [e1,e2]
     refine cut_even_dvd _ _ _ _ ?_
     rw [Nat.shiftLeft_zero,hlog,show min e (52+e+2)=e by omega];exact hme
    ·intro _
     rw [show ((M.log2:Int) - 52).toNat=e by omega];exact hme
    ·intro hlt;omega
  rw [hlk,← hK,read_word s K l hK1 hK2 (by omega) (by omega)]
  simp only [Datum.toInt,Datum.integral,cut_zero]
  have hKl:K.log2=52:=log2_of hK1 hK2
  have:(K <<< l.toNat) / 2 ^ (min (-l).toNat ((K <<< l.toNat).log2+2))=M:=by
   by_cases hge:0≤l
   ·have e:(-l).toNat=0:=by omega
    rw [e,Nat.zero_min,Nat.pow_zero,Nat.div_one,Nat.shiftLeft_eq]
    exact (hdef.1 hge).symm
   ·have e:l.toNat=0:=by omega
    obtain ⟨d1,d2⟩:=hdef.2 (by omega)
    rw [e,Nat.shiftLeft_zero,hKl,show min (-l).toNat (52+2)=(-l).toNat by omega,d1]
    exact Nat.mul_div_cancel _ (Nat.pow_pos (by decide))
  rw [this]
theorem ord_cmp (s t:Bool)(m n:Nat)(i j:Int):Datum.order (.number s m i) (.number t n j)=some (compare (signed s m (i - min i j).toNat) (signed t n (j - min i j).toNat)):=rfl
theorem conv_ok (x:Nat)(h1:feq x x=true)(h2:¬ fge x 4890909195324358656=true)(h3:¬ flt x 14114281232179134464=true) :
  truncV x=some (ftr x)∧(FloatKind.f64.decode (ftr x)).toInt .zero=some (ftz x)∧(-9223372036854775808≤ftz x∧ftz x≤9223372036854775807):=by
 have c1:double.read 4890909195324358656=.number false 4503599627370496 11:=rfl
 have c2:double.read 14114281232179134464=.number true 4503599627370496 11:=rfl
 have hfeq:feq x x=((double.read x).order (double.read x) == some .eq):=rfl
 have hfge:fge x 4890909195324358656=((double.read x).order (double.read 4890909195324358656) == some .gt || (double.read x).order (double.read 4890909195324358656) == some .eq):=rfl
 have hflt:flt x 14114281232179134464=((double.read x).order (double.read 14114281232179134464) == some .lt):=rfl
 rw [hfeq] at h1;rw [hfge,c1] at h2;rw [hflt,c2] at h3
 rcases read_cases x with ⟨s,t,hx⟩ | ⟨s,hx⟩ | ⟨s,m,e,hx,hm,hn,he⟩
 ·rw [hx] at h1;simp [Datum.order] at h1
 ·rw [hx] at h2 h3
  cases s
  ·simp [Datum.order] at h2
  ·simp [Datum.order] at h3
 ·have hd:FloatKind.f64.decode x=.number s m e:=hx
  rw [hx] at h2 h3
  rw [ord_cmp] at h2 h3
  have ht:truncV x=some (double.write (.number s (Toward.zero.cut s (m <<< e.toNat) (-e).toNat) 0)):=by
   unfold truncV;rw [hd];rfl
  have hftr:ftr x=double.write (.number s (Toward.zero.cut s (m <<< e.toNat) (-e).toNat) 0):=by unfold ftr;rw [ht];rfl
  have hM:∃ M,Toward.zero.cut s (m <<< e.toNat) (-e).toNat=M∧M≤2 ^ 63∧(s=false→M<2 ^ 63)∧(M<2 ^ 53∨∃ m e:Nat,M=m*2 ^ e∧2 ^ 52≤m∧m<2 ^ 53):=by
   by_cases hge:0≤e
   ·obtain ⟨k,rfl⟩:∃ k:Nat,e=(k:Int):=⟨e.toNat,by omega⟩
    have hm52:2 ^ 52≤m:=hn (by omega)
    have e1:(-(k:Int)).toNat=0:=by omega
    rw [cut_zero,e1,Nat.zero_min,Nat.pow_zero,Nat.div_one,Int.toNat_natCast,Nat.shiftLeft_eq]
    have hle:m*2 ^ k≤2 ^ 63∧(s=false→m*2 ^ k<2 ^ 63):=by
     by_cases hk:k≤11
     ·have hp:2 ^ k*2 ^ (11 - k)=2 ^ 11:=by rw [← Nat.pow_add];congr 1;omega
      rw [show ((k:Int) - min (k:Int) 11).toNat=0 by omega,show ((11:Int) - min (k:Int) 11).toNat=11 - k by omega] at h2 h3
      simp only [signed,Nat.shiftLeft_eq] at h2 h3
      have hpp:0<2 ^ k:=Nat.pow_pos (by decide)
      generalize 2 ^ (11 - k)=q at *
      generalize 2 ^ k=r at *
      cases s with
      | false =>
       simp only [Bool.false_eq_true,if_false] at h2
       have hlt:m<4503599627370496*q:=by
        rcases Nat.lt_or_ge m (4503599627370496*q) with hlt | hge2
        ·exact hlt
        ·exfalso;apply h2
         rcases Nat.lt_or_eq_of_le hge2 with hgt | heq
         ·have:compare ((m*2 ^ 0:Nat):Int) ((4503599627370496*q:Nat):Int)=.gt:=Int.compare_eq_gt.2 (by omega)
          rw [this];rfl
         ·have:compare ((m*2 ^ 0:Nat):Int) ((4503599627370496*q:Nat):Int)=.eq:=Int.compare_eq_eq.2 (by omega)
          rw [this];rfl
       have:m*r<4503599627370496*q*r:=Nat.mul_lt_mul_of_pos_right hlt hpp
       have e:4503599627370496*q*r=2 ^ 63:=by rw [Nat.mul_assoc,Nat.mul_comm q r,hp]
       omega
      | true =>
       simp only [if_true] at h3
       have hle:m≤4503599627370496*q:=by
        rcases Nat.lt_or_ge (4503599627370496*q) m with hlt | hge2
        ·exfalso;apply h3
         have:compare (-((m*2 ^ 0:Nat):Int)) (-((4503599627370496*q:Nat):Int))=.lt:=Int.compare_eq_lt.2 (by omega)
         rw [this];rfl
        ·exact hge2
       have:m*r≤4503599627370496*q*r:=Nat.mul_le_mul_right _ hle
       have e:4503599627370496*q*r=2 ^ 63:=by rw [Nat.mul_assoc,Nat.mul_comm q r,hp]
       exact ⟨by omega,fun h=>by cases h⟩
     ·exfalso
      have hp:2 ^ 12≤2*2 ^ (k - 11)*2 ^ 11:=by
       have:1≤2 ^ (k - 11):=Nat.one_le_two_pow
       omega
      have h2k:2≤2 ^ (k - 11):=by
       calc 2=2 ^ 1:=rfl
        _≤2 ^ (k - 11):=Nat.pow_le_pow_right (by decide) (by omega)
      rw [show ((k:Int) - min (k:Int) 11).toNat=k - 11 by omega,show ((11:Int) - min (k:Int) 11).toNat=0 by omega] at h2 h3
      simp only [signed,Nat.shiftLeft_eq] at h2 h3
      have hbig:4503599627370496<m*2 ^ (k - 11):=by
       have:=Nat.mul_le_mul hm52 h2k
       omega
      generalize m*2 ^ (k - 11)=z at *
      cases s with
      | false =>
       simp only [Bool.false_eq_true,if_false] at h2
       apply h2
       have:compare (z:Int) ((4503599627370496*2 ^ 0:Nat):Int)=.gt:=Int.compare_eq_gt.2 (by omega)
       rw [this];rfl
      | true =>
       simp only [if_true] at h3
       apply h3
       have:compare (-(z:Int)) (-((4503599627370496*2 ^ 0:Nat):Int))=.lt:=Int.compare_eq_lt.2 (by omega)
       rw [this];rfl
    exact ⟨_,rfl,hle.1,hle.2,.inr ⟨m,k,rfl,hm52,hm⟩⟩
   ·have e1:e.toNat=0:=by omega
    rw [cut_zero,e1,Nat.shiftLeft_zero]
    have hle:m / 2 ^ (min (-e).toNat (m.log2+2))≤m:=Nat.div_le_self _ _
    exact ⟨_,rfl,by omega,fun _=>by omega,.inl (by omega)⟩
  obtain ⟨M,hMe,hM1,hM2,hM3⟩:=hM
  rw [hMe] at ht hftr
  have hz:=whole_exact s M hM1 hM3
  have hdz:(FloatKind.f64.decode (ftr x)).toInt .zero=some (signed s M 0):=by rw [hftr];exact hz
  have hftz:ftz x=signed s M 0:=by unfold ftz;rw [hdz];rfl
  refine ⟨by rw [ht,hftr],by rw [hdz,hftz],?_⟩
  rw [hftz]
  exact signed_bound s M hM1 hM2
end Go.Ab
namespace Go.Proofs.Ytdoobejjedpcgaa
open Go Go.Ab
noncomputable section
variable (fr:Fr)(st:St)(k:Kt)
theorem ty2:gS.ty 2=some {k:=.int .i64,size:=1,agg:=false,zero:=[.int .i64 0]}:=by kernel_rfl
theorem ty3:gS.ty 3=some {k:=.int .i64,size:=1,agg:=false,zero:=[.int .i64 0]}:=by kernel_rfl
theorem ty4:gS.ty 4=some {k:=.bool,size:=1,agg:=false,zero:=[.bool false]}:=by kernel_rfl
theorem ty5:gS.ty 5=some {k:=.int .u8,size:=1,agg:=false,zero:=[.int .u8 0]}:=by kernel_rfl
theorem ty9:gS.ty 9=some {k:=.str,size:=1,agg:=false,zero:=[.str []]}:=by kernel_rfl
theorem ty22:gS.ty 22=some {k:=.slice 1 8 false [.int .i64 0],size:=1,agg:=false,zero:=[.osl 0 []]}:=by kernel_rfl
theorem ty23:gS.ty 23=some {k:=.pointer,size:=1,agg:=false,zero:=[.nilp]}:=by kernel_rfl
theorem ty25:gS.ty 25=some {k:=.struct [(0,1,false),(1,1,false)],size:=2,agg:=true,zero:=[.osl 0 [],.int .i64 0]}:=by kernel_rfl
theorem ty26:gS.ty 26=some {k:=.slice 4 48 true [.int .i64 0,.int .i64 0,.int .i64 0,.osl 0 []],size:=1,agg:=false,zero:=[.osl 0 []]}:=by kernel_rfl
theorem ty29:gS.ty 29=some {k:=.slice 13 144 true [.str [],.int .i64 0,.int .i64 0,.int .i64 0,.float .f64 0,.str [],.bool false,.int .i64 0,.int .i64 0,.float .f64 0,.str [],.bool false,.osl 0 []],size:=1,agg:=false,zero:=[.osl 0 []]}:=by kernel_rfl
theorem ty31:gS.ty 31=some {k:=.struct [(0,1,false),(1,1,false),(2,1,false),(3,1,false)],size:=4,agg:=true,zero:=[.int .i64 0,.int .i64 0,.int .i64 0,.osl 0 []]}:=by kernel_rfl
theorem ty32:gS.ty 32=some {k:=.slice 2 48 true [.osl 0 [],.osl 0 []],size:=1,agg:=false,zero:=[.osl 0 []]}:=by kernel_rfl
theorem ty39:gS.ty 39=some {k:=.struct [(0,1,false),(1,1,false)],size:=2,agg:=true,zero:=[.osl 0 [],.osl 0 []]}:=by kernel_rfl
theorem ty42:gS.ty 42=some {k:=.slice 6 64 true [.str [],.int .i64 0,.int .i64 0,.float .f64 0,.str [],.bool false],size:=1,agg:=false,zero:=[.osl 0 []]}:=by kernel_rfl
theorem ty53:gS.ty 53=some {k:=.slice 3 24 true [.int .i64 0,.int .i64 0,.int .i64 0],size:=1,agg:=false,zero:=[.osl 0 []]}:=by kernel_rfl
theorem ty59:gS.ty 59=some {k:=.struct [(0,1,false),(1,1,false),(2,1,false)],size:=3,agg:=true,zero:=[.int .i64 0,.int .i64 0,.int .i64 0]}:=by kernel_rfl
theorem ty77:gS.ty 77=some {k:=.slice 1 24 false [.osl 0 []],size:=1,agg:=false,zero:=[.osl 0 []]}:=by kernel_rfl
theorem ty86:gS.ty 86=some {k:=.float .f64,size:=1,agg:=false,zero:=[.float .f64 0]}:=by kernel_rfl
theorem ty88:gS.ty 88=some {k:=.struct [(0,1,false),(1,1,false),(2,1,false),(3,1,false),(4,1,false)],size:=5,agg:=true,zero:=[.int .i64 0,.int .i64 0,.float .f64 0,.str [],.bool false]}:=by kernel_rfl
theorem ty89:gS.ty 89=some {k:=.slice 5 48 true [.int .i64 0,.int .i64 0,.float .f64 0,.str [],.bool false],size:=1,agg:=false,zero:=[.osl 0 []]}:=by kernel_rfl
theorem ty91:gS.ty 91=some {k:=.struct [(0,1,false),(1,1,false),(2,5,true),(7,5,true),(12,1,false)],size:=13,agg:=true,zero:=[.str [],.int .i64 0,.int .i64 0,.int .i64 0,.float .f64 0,.str [],.bool false,.int .i64 0,.int .i64 0,.float .f64 0,.str [],.bool false,.osl 0 []]}:=by kernel_rfl
theorem ty92:gS.ty 92=some {k:=.array 5 1 false,size:=5,agg:=true,zero:=[.str [],.str [],.str [],.str [],.str []]}:=by kernel_rfl
theorem ty95:gS.ty 95=some {k:=.struct [(0,1,false),(1,5,true)],size:=6,agg:=true,zero:=[.str [],.int .i64 0,.int .i64 0,.float .f64 0,.str [],.bool false]}:=by kernel_rfl
theorem ty96:gS.ty 96=some {k:=.array 7 1 false,size:=7,agg:=true,zero:=[.int .i64 0,.int .i64 0,.int .i64 0,.int .i64 0,.int .i64 0,.int .i64 0,.int .i64 0]}:=by kernel_rfl
theorem ty117:gS.ty 117=some {k:=.array 6 1 false,size:=6,agg:=true,zero:=[.str [],.str [],.str [],.str [],.str [],.str []]}:=by kernel_rfl
theorem ty118:gS.ty 118=some {k:=.array 6 1 false,size:=6,agg:=true,zero:=[.int .i64 0,.int .i64 0,.int .i64 0,.int .i64 0,.int .i64 0,.int .i64 0]}:=by kernel_rfl
theorem ty122:gS.ty 122=some {k:=.array 4 1 false,size:=4,agg:=true,zero:=[.str [],.str [],.str [],.str []]}:=by kernel_rfl
theorem ty128:gS.ty 128=some {k:=.int .u64,size:=1,agg:=false,zero:=[.int .u64 0]}:=by kernel_rfl
theorem ty132:gS.ty 132=some {k:=.array 14 1 false,size:=14,agg:=true,zero:=[.float .f64 0,.float .f64 0,.float .f64 0,.float .f64 0,.float .f64 0,.float .f64 0,.float .f64 0,.float .f64 0,.float .f64 0,.float .f64 0,.float .f64 0,.float .f64 0,.float .f64 0,.float .f64 0]}:=by kernel_rfl
theorem eq59:gS.eqs 59=some [.int .i64,.int .i64,.int .i64]:=by kernel_rfl
theorem eq88:gS.eqs 88=some [.int .i64,.int .i64,.float .f64,.str,.bool]:=by kernel_rfl
theorem k123 (b:Nat)(fr:Fr)(st:St):callStep gS (EvF gS) 123 [.float .f64 b] fr st=some (.ok (.val (.int .u64 b)) fr st):=rfl
theorem k140 (b v:Nat)(h:truncV b=some v)(fr:Fr)(st:St):callStep gS (EvF gS) 140 [.float .f64 b] fr st=some (.ok (.val (.float .f64 v)) fr st):=by
 have e:gS.ext 140=some .trunc:=rfl
 unfold callStep
 simp only [e,extV,h,Option.map_some]
def fi136:FI:={body:=codeOf Try.f136,ntmps:=6,results:=[.tmp 2],pers:=[0,2],locals:=[],pure:=true,marks:=[]}
theorem H136:fi136.marks=[]∧fi136.locals=[]∧fi136.results=[.tmp 2]:=⟨rfl,rfl,rfl⟩
theorem fi116_eq:gS.fn 136=some fi136:=by kernel_rfl
theorem st136 (a0:V):startFr fi136 [a0]={ps:=[(0,.val a0),(2,.any)],ts:=[],lc:=[]}:=rfl
def b136:Code:=mini (codeOf Try.f136)
def c136_2:Code:=.seq (codeN b136 5) .ret
theorem e136_2:evK gS fi136 c136_2 fr st k=opsR gS fi136 [mv 3 0 86,
 mv 4 0 86,
 bop 5 .neq 86 3 4 86 4,
 asn 2 5 4] fr st (.seq .ret k):=evK_rs 1 rfl (by kernel_rfl)
def c136_0:Code:=.seq (codeN b136 2) c136_2
theorem e136_0:evK gS fi136 c136_0 fr st k=opsR gS fi136 [qA 2 false 4] fr st (.seq c136_2 k):=evK_rs 0 rfl (by kernel_rfl)
theorem m136:mini fi136.body=c136_0:=by kernel_rfl
theorem c136 (x:Nat)  (st:St):EvF gS 136 [.float .f64 x] st=some (.ret (.bool (!feq x x)) none,st):=by
 refine EvF_start fi116_eq (fun x h=>by cases h) m136 ?_
 rw [st136]
 simp (config:={contextual:=true,maxSteps:=10000000,maxDischargeDepth:=6}) [-zil,-zit,-znl,-znt,ty4,ty86,H136,e136_2,e136_0]
 all_goals first | done | grind | omega
theorem k136 (x:Nat)  (fr:Fr) (st:St):callStep gS (EvF gS) 136 [.float .f64 x] fr st=some (.ok (retE none (.bool (!feq x x))) fr st) :=
 call_pure rfl fi116_eq rfl (fun st=>c136 x  st) (by simp)
def fi129:FI:={body:=codeOf Try.f129,ntmps:=23,results:=[.tmp 4,.tmp 5],pers:=[0,1,4,5],locals:=[],pure:=true,marks:=[]}
theorem H129:fi129.marks=[]∧fi129.locals=[]∧fi129.results=[.tmp 4,.tmp 5]:=⟨rfl,rfl,rfl⟩
theorem fi108_eq:gS.fn 129=some fi129:=by kernel_rfl
theorem st129 (a0 a1:V):startFr fi129 [a0,a1]={ps:=[(0,.val a0),(1,.val a1),(4,.any),(5,.any)],ts:=[],lc:=[]}:=rfl
def b129:Code:=mini (codeOf Try.f129)
def c129_7:Code:=.seq (codeN b129 73) .ret
def c129_13:Code:=.seq (codeN b129 313) .ret
def c129_19:Code:=.seq (codeN b129 1273) .ret
def c129_18:Code:=.cond (.tmp 19) c129_19 .skip
def c129_16:Code:=.seq (codeN b129 377) c129_18
def c129_12:Code:=.cond (.tmp 15) c129_13 c129_16
def c129_10:Code:=.seq (codeN b129 89) c129_12
def c129_6:Code:=.cond (.tmp 6) c129_7 c129_10
def c129_4:Code:=.seq (codeN b129 17) c129_6
def c129_23:Code:=.seq (codeN b129 11) .ret
def c129_2:Code:=.seq (.block 0 c129_4) c129_23
def c129_0:Code:=.seq (codeN b129 2) c129_2
theorem E129:(evK gS fi129 c129_7 fr st k=opsR gS fi129 [qI 4 0 3,
 qA 5 false 4] fr st (.seq .ret k)) ∧
 (evK gS fi129 c129_13 fr st k=opsR gS fi129 [qI 4 (-1) 3,
 qA 5 true 4] fr st (.seq .ret k)) ∧
 (evK gS fi129 c129_19 fr st k=opsR gS fi129 [qI 4 1 3,
 qA 5 true 4] fr st (.seq .ret k)) ∧
 evK gS fi129 c129_18 fr st k=condK gS fi129 (fr.op (.tmp 19)).bool? c129_19 .skip fr st k ∧
 (evK gS fi129 c129_16 fr st k=opsR gS fi129 [mv 20 0 86,
 mv 21 1 86,
 bop 22 .gtr 86 20 21 86 4,
 asn 19 22 4] fr st (.seq c129_18 k)) ∧
 evK gS fi129 c129_12 fr st k=condK gS fi129 (fr.op (.tmp 15)).bool? c129_13 c129_16 fr st k ∧
 (evK gS fi129 c129_10 fr st k=opsR gS fi129 [mv 16 0 86,
 mv 17 1 86,
 bop 18 .lss 86 16 17 86 4,
 asn 15 18 4] fr st (.seq c129_12 k)) ∧
 evK gS fi129 c129_6 fr st k=condK gS fi129 (fr.op (.tmp 6)).bool? c129_7 c129_10 fr st k ∧
 (evK gS fi129 c129_4 fr st k=opsR gS fi129 [mv 7 0 86,
 mv 8 0 86,
 bop 9 .neq 86 7 8 86 4,
 mv 10 9 4,
 qm 11 1 86 3 false,
 qm 12 1 86 3 false,
 qb 13 .neq 86 11 12 86 4 3 false,
 qQ 14 10 true 13 4,
 asn 6 14 4] fr st (.seq c129_6 k)) ∧
 (evK gS fi129 c129_23 fr st k=opsR gS fi129 [qI 4 0 3,
 qA 5 true 4] fr st (.seq .ret k)) ∧
 evK gS fi129 c129_2 fr st k=evK gS fi129 c129_4 fr st (.blk 0 (.seq c129_23 k)) ∧
 (evK gS fi129 c129_0 fr st k=opsR gS fi129 [qI 4 0 3,
 qA 5 false 4] fr st (.seq c129_2 k)):=⟨evK_rs 2 rfl (by kernel_rfl),evK_rs 4 rfl (by kernel_rfl),evK_rs 6 rfl (by kernel_rfl),rfl,evK_rs 5 rfl (by kernel_rfl),rfl,evK_rs 3 rfl (by kernel_rfl),rfl,evK_rs 1 rfl (by kernel_rfl),evK_rs 7 rfl (by kernel_rfl),rfl,evK_rs 0 rfl (by kernel_rfl)⟩
theorem m129:mini fi129.body=c129_0:=by kernel_rfl
theorem c129 (a:Nat)(b:Nat)  (st:St):EvF gS 129 [.float .f64 a,.float .f64 b] st=some (.ret (.tuple [.int .i64 (fcmp a b).1,.bool (fcmp a b).2]) none,st):=by
 refine EvF_start fi108_eq (fun x h=>by cases h) m129 ?_
 rw [st129]
 simp (config:={contextual:=true,maxSteps:=10000000,maxDischargeDepth:=6}) [-zil,-zit,-znl,-znt,ty3,ty4,ty86,H129,E129]
 all_goals try simp (config:={contextual:=true}) [-zil,-zit,-znl,-znt,fcmp,sgn]
 all_goals first | done | grind | omega
theorem k129 (a:Nat)(b:Nat)  (fr:Fr) (st:St):callStep gS (EvF gS) 129 [.float .f64 a,.float .f64 b] fr st=some (.ok (retE none (.tuple [.int .i64 (fcmp a b).1,.bool (fcmp a b).2])) fr st) :=
 call_pure rfl fi108_eq rfl (fun st=>c129 a b  st) (by simp)
def fi138:FI:={body:=codeOf Try.f138,ntmps:=7,results:=[.tmp 2],pers:=[0,2],locals:=[],pure:=true,marks:=[]}
theorem H138:fi138.marks=[]∧fi138.locals=[]∧fi138.results=[.tmp 2]:=⟨rfl,rfl,rfl⟩
theorem fi118_eq:gS.fn 138=some fi138:=by kernel_rfl
theorem st138 (a0:V):startFr fi138 [a0]={ps:=[(0,.val a0),(2,.any)],ts:=[],lc:=[]}:=rfl
def b138:Code:=mini (codeOf Try.f138)
def c138_4:Code:=.seq (codeN b138 17) .ret
def c138_8:Code:=.seq (codeN b138 11) .ret
def c138_2:Code:=.seq (.cond (.const (.bool true)) c138_4 .skip) c138_8
def c138_0:Code:=.seq (codeN b138 2) c138_2
theorem E138:(evK gS fi138 c138_4 fr st k=opsR gS fi138 [mv 3 0 86,
 cal 4 140 [(.tmp 3)] [86] 86,
 asn 2 4 86] fr st (.seq .ret k)) ∧
 (evK gS fi138 c138_8 fr st k=opsR gS fi138 [mv 5 0 86,
 cal 6 141 [(.tmp 5)] [86] 86,
 asn 2 6 86] fr st (.seq .ret k)) ∧
 evK gS fi138 c138_2 fr st k=condK gS fi138 (fr.op (.const (.bool true))).bool? c138_4 .skip fr st (.seq c138_8 k) ∧
 evK gS fi138 c138_0 fr st k=opsR gS fi138 [op1 2 (.assign (.const (.float .f64 0))) 86] fr st (.seq c138_2 k):=⟨evK_rs 1 rfl (by kernel_rfl),evK_rs 2 rfl (by kernel_rfl),rfl,evK_rs 0 rfl (by kernel_rfl)⟩
theorem m138:mini fi138.body=c138_0:=by kernel_rfl
theorem c138 (x:Nat)(h:truncV x=some (ftr x))(st:St):EvF gS 138 [.float .f64 x] st=some (.ret (.float .f64 (ftr x)) none,st):=by
 refine EvF_start fi118_eq (fun x h=>by cases h) m138 ?_
 rw [st138]
 simp (config:={contextual:=true,maxSteps:=10000000,maxDischargeDepth:=6}) [-zil,-zit,-znl,-znt,ty86,H138,E138,k140 x (ftr x) h]
 all_goals first | done | grind | omega
theorem k138 (x:Nat)(h:truncV x=some (ftr x))(fr:Fr)(st:St):callStep gS (EvF gS) 138 [.float .f64 x] fr st=some (.ok (.val (.float .f64 (ftr x))) fr st) :=
 call_pure rfl fi118_eq rfl (fun st=>c138 x h st) (by simp)
def fi128:FI:={body:=codeOf Try.f128,ntmps:=38,results:=[.tmp 4,.tmp 5],pers:=[0,1,4,5,6,7],locals:=[],pure:=true,marks:=[]}
theorem H128:fi128.marks=[]∧fi128.locals=[]∧fi128.results=[.tmp 4,.tmp 5]:=⟨rfl,rfl,rfl⟩
theorem fi107_eq:gS.fn 128=some fi128:=by kernel_rfl
theorem st128 (a0 a1:V):startFr fi128 [a0,a1]={ps:=[(0,.val a0),(1,.val a1),(4,.any),(5,.any),(6,.any),(7,.any)],ts:=[],lc:=[]}:=rfl
def b128:Code:=mini (codeOf Try.f128)
def c128_7:Code:=.seq (codeN b128 73) .ret
def c128_13:Code:=.seq (codeN b128 313) .ret
def c128_19:Code:=.seq (codeN b128 1273) .ret
def c128_18:Code:=.cond (.tmp 15) c128_19 .skip
def c128_16:Code:=.seq (codeN b128 377) c128_18
def c128_12:Code:=.cond (.tmp 12) c128_13 c128_16
def c128_10:Code:=.seq (codeN b128 89) c128_12
def c128_6:Code:=.cond (.tmp 8) c128_7 c128_10
def c128_4:Code:=.seq (codeN b128 17) c128_6
def c128_32:Code:=.seq (codeN b128 591) .ret
def c128_38:Code:=.seq (codeN b128 2511) .ret
def c128_44:Code:=.seq (codeN b128 10191) .ret
def c128_50:Code:=.seq (codeN b128 40911) .ret
def c128_49:Code:=.cond (.tmp 34) c128_50 .skip
def c128_47:Code:=.seq (codeN b128 12239) c128_49
def c128_43:Code:=.cond (.tmp 30) c128_44 c128_47
def c128_41:Code:=.seq (codeN b128 3023) c128_43
def c128_37:Code:=.cond (.tmp 26) c128_38 c128_41
def c128_35:Code:=.seq (codeN b128 719) c128_37
def c128_31:Code:=.cond (.tmp 22) c128_32 c128_35
def c128_29:Code:=.seq (codeN b128 143) c128_31
def c128_54:Code:=.seq (codeN b128 95) .ret
def c128_27:Code:=.seq (.block 1 c128_29) c128_54
def c128_25:Code:=.seq (codeN b128 23) c128_27
def c128_23:Code:=.seq (codeN b128 11) c128_25
def c128_2:Code:=.seq (.block 0 c128_4) c128_23
def c128_0:Code:=.seq (codeN b128 2) c128_2
theorem E128:(evK gS fi128 c128_7 fr st k=opsR gS fi128 [qI 4 0 3,
 qA 5 false 4] fr st (.seq .ret k)) ∧
 (evK gS fi128 c128_13 fr st k=opsR gS fi128 [qI 4 (-1) 3,
 qA 5 true 4] fr st (.seq .ret k)) ∧
 (evK gS fi128 c128_19 fr st k=opsR gS fi128 [qI 4 1 3,
 qA 5 true 4] fr st (.seq .ret k)) ∧
 evK gS fi128 c128_18 fr st k=condK gS fi128 (fr.op (.tmp 15)).bool? c128_19 .skip fr st k ∧
 (evK gS fi128 c128_16 fr st k=opsR gS fi128 [mv 16 1 86,
 op1 17 (.binOp .lss 86 (.tmp 16) (.const (.float .f64 14114281232179134464)) 86) 4,
 asn 15 17 4] fr st (.seq c128_18 k)) ∧
 evK gS fi128 c128_12 fr st k=condK gS fi128 (fr.op (.tmp 12)).bool? c128_13 c128_16 fr st k ∧
 (evK gS fi128 c128_10 fr st k=opsR gS fi128 [mv 13 1 86,
 op1 14 (.binOp .geq 86 (.tmp 13) (.const (.float .f64 4890909195324358656)) 86) 4,
 asn 12 14 4] fr st (.seq c128_12 k)) ∧
 evK gS fi128 c128_6 fr st k=condK gS fi128 (fr.op (.tmp 8)).bool? c128_7 c128_10 fr st k ∧
 (evK gS fi128 c128_4 fr st k=opsR gS fi128 [mv 9 1 86,
 mv 10 1 86,
 bop 11 .neq 86 9 10 86 4,
 asn 8 11 4] fr st (.seq c128_6 k)) ∧
 (evK gS fi128 c128_32 fr st k=opsR gS fi128 [qI 4 (-1) 3,
 qA 5 true 4] fr st (.seq .ret k)) ∧
 (evK gS fi128 c128_38 fr st k=opsR gS fi128 [qI 4 1 3,
 qA 5 true 4] fr st (.seq .ret k)) ∧
 (evK gS fi128 c128_44 fr st k=opsR gS fi128 [qI 4 (-1) 3,
 qA 5 true 4] fr st (.seq .ret k)) ∧
 (evK gS fi128 c128_50 fr st k=opsR gS fi128 [qI 4 1 3,
 qA 5 true 4] fr st (.seq .ret k)) ∧
 evK gS fi128 c128_49 fr st k=condK gS fi128 (fr.op (.tmp 34)).bool? c128_50 .skip fr st k ∧
 (evK gS fi128 c128_47 fr st k=opsR gS fi128 [mv 35 6 86,
 mv 36 1 86,
 bop 37 .gtr 86 35 36 86 4,
 asn 34 37 4] fr st (.seq c128_49 k)) ∧
 evK gS fi128 c128_43 fr st k=condK gS fi128 (fr.op (.tmp 30)).bool? c128_44 c128_47 fr st k ∧
 (evK gS fi128 c128_41 fr st k=opsR gS fi128 [mv 31 6 86,
 mv 32 1 86,
 bop 33 .lss 86 31 32 86 4,
 asn 30 33 4] fr st (.seq c128_43 k)) ∧
 evK gS fi128 c128_37 fr st k=condK gS fi128 (fr.op (.tmp 26)).bool? c128_38 c128_41 fr st k ∧
 (evK gS fi128 c128_35 fr st k=opsR gS fi128 [mv 27 0 2,
 mv 28 7 2,
 bop 29 .gtr 2 27 28 2 4,
 asn 26 29 4] fr st (.seq c128_37 k)) ∧
 evK gS fi128 c128_31 fr st k=condK gS fi128 (fr.op (.tmp 22)).bool? c128_32 c128_35 fr st k ∧
 (evK gS fi128 c128_29 fr st k=opsR gS fi128 [mv 23 0 2,
 mv 24 7 2,
 bop 25 .lss 2 23 24 2 4,
 asn 22 25 4] fr st (.seq c128_31 k)) ∧
 (evK gS fi128 c128_54 fr st k=opsR gS fi128 [qI 4 0 3,
 qA 5 true 4] fr st (.seq .ret k)) ∧
 evK gS fi128 c128_27 fr st k=evK gS fi128 c128_29 fr st (.blk 1 (.seq c128_54 k)) ∧
 (evK gS fi128 c128_25 fr st k=opsR gS fi128 [mv 20 6 86,
 op1 21 (.convert 86 2 (.tmp 20)) 2,
 asn 7 21 2] fr st (.seq c128_27 k)) ∧
 (evK gS fi128 c128_23 fr st k=opsR gS fi128 [mv 18 1 86,
 cal 19 138 [(.tmp 18)] [86] 86,
 asn 6 19 86] fr st (.seq c128_25 k)) ∧
 evK gS fi128 c128_2 fr st k=evK gS fi128 c128_4 fr st (.blk 0 (.seq c128_23 k)) ∧
 (evK gS fi128 c128_0 fr st k=opsR gS fi128 [qI 4 0 3,
 qA 5 false 4] fr st (.seq c128_2 k)):=⟨evK_rs 2 rfl (by kernel_rfl),evK_rs 4 rfl (by kernel_rfl),evK_rs 6 rfl (by kernel_rfl),rfl,evK_rs 5 rfl (by kernel_rfl),rfl,evK_rs 3 rfl (by kernel_rfl),rfl,evK_rs 1 rfl (by kernel_rfl),evK_rs 10 rfl (by kernel_rfl),evK_rs 12 rfl (by kernel_rfl),evK_rs 14 rfl (by kernel_rfl),evK_rs 16 rfl (by kernel_rfl),rfl,evK_rs 15 rfl (by kernel_rfl),rfl,evK_rs 13 rfl (by kernel_rfl),rfl,evK_rs 11 rfl (by kernel_rfl),rfl,evK_rs 9 rfl (by kernel_rfl),evK_rs 17 rfl (by kernel_rfl),rfl,evK_rs 8 rfl (by kernel_rfl),evK_rs 7 rfl (by kernel_rfl),rfl,evK_rs 0 rfl (by kernel_rfl)⟩
theorem m128:mini fi128.body=c128_0:=by kernel_rfl
theorem c128 (n:Int)(x:Nat)  (st:St):EvF gS 128 [.int .i64 n,.float .f64 x] st=some (.ret (.tuple [.int .i64 (icmp n x).1,.bool (icmp n x).2]) none,st):=by
 refine EvF_start fi107_eq (fun x h=>by cases h) m128 ?_
 rw [st128]
 by_cases h1:feq x x=true
 ·by_cases h2:fge x 4890909195324358656=true
  ·simp (config:={contextual:=true,maxSteps:=10000000}) [icmp,sgn,h1,h2,-zil,-zit,-znl,-znt,ty2,ty3,ty4,ty86,H128,E128]
  ·by_cases h3:flt x 14114281232179134464=true
   ·simp (config:={contextual:=true,maxSteps:=10000000}) [icmp,sgn,h1,h2,h3,-zil,-zit,-znl,-znt,ty2,ty3,ty4,ty86,H128,E128]
   ·obtain ⟨e1,e2,e3,e4⟩:=conv_ok x h1 h2 h3
    have e5:IntKind.min .i64≤ftz x:=e3
    have e6:ftz x≤IntKind.max .i64:=e4
    by_cases h4:ftz x=n
    ·subst h4
     simp (config:={contextual:=true,maxSteps:=10000000}) [icmp,h1,h2,h3,k138 x e1,e2,e3,e4,e5,e6,-zil,-zit,-znl,-znt,ty2,ty3,ty4,ty86,H128,E128]
     simp (config:={contextual:=true}) [sgn]
    ·skip
     have h5:¬ n=ftz x:=fun h=>h4 h.symm
     rcases Int.lt_or_gt_of_ne h5 with h6 | h6
     ·have h7:¬ ftz x<n:=by omega
      simp (config:={contextual:=true,maxSteps:=10000000}) [icmp,h1,h2,h3,h4,h5,h6,h7,sgn,k138 x e1,e2,e3,e4,e5,e6,-zil,-zit,-znl,-znt,ty2,ty3,ty4,ty86,H128,E128]
     have h7:¬ n<ftz x:=by omega
     simp (config:={contextual:=true,maxSteps:=10000000}) [icmp,h1,h2,h3,h4,h5,h6,h7,sgn,k138 x e1,e2,e3,e4,e5,e6,-zil,-zit,-znl,-znt,ty2,ty3,ty4,ty86,H128,E128]
 ·simp (config:={contextual:=true,maxSteps:=10000000}) [icmp,sgn,h1,-zil,-zit,-znl,-znt,ty2,ty3,ty4,ty86,H128,E128]
theorem k128 (n:Int)(x:Nat)  (fr:Fr) (st:St):callStep gS (EvF gS) 128 [.int .i64 n,.float .f64 x] fr st=some (.ok (retE none (.tuple [.int .i64 (icmp n x).1,.bool (icmp n x).2])) fr st) :=
 call_pure rfl fi107_eq rfl (fun st=>c128 n x  st) (by simp)
def fi139:FI:={body:=codeOf Try.f139,ntmps:=9,results:=[.tmp 2],pers:=[0,2],locals:=[],pure:=true,marks:=[]}
theorem H139:fi139.marks=[]∧fi139.locals=[]∧fi139.results=[.tmp 2]:=⟨rfl,rfl,rfl⟩
theorem fi119_eq:gS.fn 139=some fi139:=by kernel_rfl
theorem st139 (a0:V):startFr fi139 [a0]={ps:=[(0,.val a0),(2,.any)],ts:=[],lc:=[]}:=rfl
def b139:Code:=mini (codeOf Try.f139)
def c139_6:Code:=.seq (codeN b139 37) .ret
def c139_5:Code:=.cond (.tmp 4) c139_6 .skip
def c139_3:Code:=.seq (codeN b139 9) c139_5
def c139_14:Code:=.seq (codeN b139 75) .ret
def c139_13:Code:=.cond (.tmp 6) c139_14 .skip
def c139_11:Code:=.seq (codeN b139 19) c139_13
def c139_18:Code:=.seq (codeN b139 23) .ret
def c139_10:Code:=.seq c139_11 c139_18
def c139_2:Code:=.seq c139_3 c139_10
def c139_0:Code:=.seq (codeN b139 2) c139_2
theorem E139:evK gS fi139 c139_6 fr st k=opsR gS fi139 [op1 2 (.assign (.const (.int .u64 9221120237041090560))) 128] fr st (.seq .ret k) ∧
 evK gS fi139 c139_5 fr st k=condK gS fi139 (fr.op (.tmp 4)).bool? c139_6 .skip fr st k ∧
 (evK gS fi139 c139_3 fr st k=opsR gS fi139 [mv 3 0 86,
 cal 4 136 [(.tmp 3)] [86] 4] fr st (.seq c139_5 k)) ∧
 evK gS fi139 c139_14 fr st k=opsR gS fi139 [op1 2 (.assign (.const (.int .u64 0))) 128] fr st (.seq .ret k) ∧
 evK gS fi139 c139_13 fr st k=condK gS fi139 (fr.op (.tmp 6)).bool? c139_14 .skip fr st k ∧
 (evK gS fi139 c139_11 fr st k=opsR gS fi139 [mv 5 0 86,
 op1 6 (.binOp .eql 86 (.tmp 5) (.const (.float .f64 0)) 86) 4] fr st (.seq c139_13 k)) ∧
 (evK gS fi139 c139_18 fr st k=opsR gS fi139 [mv 7 0 86,
 cal 8 123 [(.tmp 7)] [86] 128,
 asn 2 8 128] fr st (.seq .ret k)) ∧
 evK gS fi139 c139_10 fr st k=evK gS fi139 c139_11 fr st (.seq c139_18 k) ∧
 evK gS fi139 c139_2 fr st k=evK gS fi139 c139_3 fr st (.seq c139_10 k) ∧
 evK gS fi139 c139_0 fr st k=opsR gS fi139 [op1 2 (.assign (.const (.int .u64 0))) 128] fr st (.seq c139_2 k):=⟨evK_rs 2 rfl (by kernel_rfl),rfl,evK_rs 1 rfl (by kernel_rfl),evK_rs 4 rfl (by kernel_rfl),rfl,evK_rs 3 rfl (by kernel_rfl),evK_rs 5 rfl (by kernel_rfl),rfl,rfl,evK_rs 0 rfl (by kernel_rfl)⟩
theorem m139:mini fi139.body=c139_0:=by kernel_rfl
theorem c139 (x:Nat)  (st:St):EvF gS 139 [.float .f64 x] st=some (.ret (.int .u64 (fbits x)) none,st):=by
 refine EvF_start fi119_eq (fun x h=>by cases h) m139 ?_
 rw [st139]
 simp (config:={contextual:=true,maxSteps:=10000000,maxDischargeDepth:=6}) [-zil,-zit,-znl,-znt,ty4,ty86,ty128,H139,k123,k136,E139]
 all_goals try simp (config:={contextual:=true}) [-zil,-zit,-znl,-znt,fbits]
 all_goals first | done | grind | omega
theorem k139 (x:Nat)  (fr:Fr) (st:St):callStep gS (EvF gS) 139 [.float .f64 x] fr st=some (.ok (retE none (.int .u64 (fbits x))) fr st) :=
 call_pure rfl fi119_eq rfl (fun st=>c139 x  st) (by simp)
def fi103:FI:={body:=codeOf Try.f103,ntmps:=10,results:=[.tmp 2],pers:=[0,2],locals:=[],pure:=true,marks:=[]}
theorem H103:fi103.marks=[]∧fi103.locals=[]∧fi103.results=[.tmp 2]:=⟨rfl,rfl,rfl⟩
theorem fi110_eq:gS.fn 103=some fi103:=by kernel_rfl
theorem st103 (a0:V):startFr fi103 [a0]={ps:=[(0,.val a0),(2,.any)],ts:=[],lc:=[]}:=rfl
def b103:Code:=mini (codeOf Try.f103)
def c103_6:Code:=.seq (codeN b103 37) .ret
def c103_5:Code:=.cond (.tmp 5) c103_6 .skip
def c103_3:Code:=.seq (codeN b103 9) c103_5
def c103_14:Code:=.seq (codeN b103 75) .ret
def c103_13:Code:=.cond (.tmp 7) c103_14 .skip
def c103_11:Code:=.seq (codeN b103 19) c103_13
def c103_18:Code:=.seq (codeN b103 23) .ret
def c103_10:Code:=.seq c103_11 c103_18
def c103_2:Code:=.seq c103_3 c103_10
def c103_0:Code:=.seq (codeN b103 2) c103_2
theorem E103:evK gS fi103 c103_6 fr st k=opsR gS fi103 [op1 2 (.assign (.const (.int .u64 9221120237041090560))) 128] fr st (.seq .ret k) ∧
 evK gS fi103 c103_5 fr st k=condK gS fi103 (fr.op (.tmp 5)).bool? c103_6 .skip fr st k ∧
 (evK gS fi103 c103_3 fr st k=opsR gS fi103 [mv 3 0 86,
 mv 4 0 86,
 bop 5 .neq 86 3 4 86 4] fr st (.seq c103_5 k)) ∧
 evK gS fi103 c103_14 fr st k=opsR gS fi103 [op1 2 (.assign (.const (.int .u64 0))) 128] fr st (.seq .ret k) ∧
 evK gS fi103 c103_13 fr st k=condK gS fi103 (fr.op (.tmp 7)).bool? c103_14 .skip fr st k ∧
 (evK gS fi103 c103_11 fr st k=opsR gS fi103 [mv 6 0 86,
 op1 7 (.binOp .eql 86 (.tmp 6) (.const (.float .f64 0)) 86) 4] fr st (.seq c103_13 k)) ∧
 (evK gS fi103 c103_18 fr st k=opsR gS fi103 [mv 8 0 86,
 cal 9 123 [(.tmp 8)] [86] 128,
 asn 2 9 128] fr st (.seq .ret k)) ∧
 evK gS fi103 c103_10 fr st k=evK gS fi103 c103_11 fr st (.seq c103_18 k) ∧
 evK gS fi103 c103_2 fr st k=evK gS fi103 c103_3 fr st (.seq c103_10 k) ∧
 evK gS fi103 c103_0 fr st k=opsR gS fi103 [op1 2 (.assign (.const (.int .u64 0))) 128] fr st (.seq c103_2 k):=⟨evK_rs 2 rfl (by kernel_rfl),rfl,evK_rs 1 rfl (by kernel_rfl),evK_rs 4 rfl (by kernel_rfl),rfl,evK_rs 3 rfl (by kernel_rfl),evK_rs 5 rfl (by kernel_rfl),rfl,rfl,evK_rs 0 rfl (by kernel_rfl)⟩
theorem m103:mini fi103.body=c103_0:=by kernel_rfl
theorem c103 (x:Nat)  (st:St):EvF gS 103 [.float .f64 x] st=some (.ret (.int .u64 (fbits x)) none,st):=by
 refine EvF_start fi110_eq (fun x h=>by cases h) m103 ?_
 rw [st103]
 simp (config:={contextual:=true,maxSteps:=10000000,maxDischargeDepth:=6}) [-zil,-zit,-znl,-znt,ty4,ty86,ty128,H103,k123,E103]
 all_goals try simp (config:={contextual:=true}) [-zil,-zit,-znl,-znt,fbits]
 all_goals first | done | grind | omega
theorem k103 (x:Nat)  (fr:Fr) (st:St):callStep gS (EvF gS) 103 [.float .f64 x] fr st=some (.ok (retE none (.int .u64 (fbits x))) fr st) :=
 call_pure rfl fi110_eq rfl (fun st=>c103 x  st) (by simp)
theorem x103:gS.ext 103=none:=rfl
theorem p103:fi103.pure=true:=rfl
def fi122:FI:={body:=codeOf Try.f122,ntmps:=10,results:=[.tmp 4],pers:=[0,1,4],locals:=[],pure:=true,marks:=[]}
theorem H122:fi122.marks=[]∧fi122.locals=[]∧fi122.results=[.tmp 4]:=⟨rfl,rfl,rfl⟩
theorem fi109_eq:gS.fn 122=some fi122:=by kernel_rfl
theorem st122 (a0 a1:V):startFr fi122 [a0,a1]={ps:=[(0,.val a0),(1,.val a1),(4,.any)],ts:=[],lc:=[]}:=rfl
def b122:Code:=mini (codeOf Try.f122)
def c122_2:Code:=.seq (codeN b122 5) .ret
theorem e122_2:evK gS fi122 c122_2 fr st k=opsR gS fi122 [mv 5 0 86,
 cal 6 139 [(.tmp 5)] [86] 128,
 mv 7 1 86,
 cal 8 139 [(.tmp 7)] [86] 128,
 bop 9 .eql 128 6 8 128 4,
 asn 4 9 4] fr st (.seq .ret k):=evK_rs 1 rfl (by kernel_rfl)
def c122_0:Code:=.seq (codeN b122 2) c122_2
theorem e122_0:evK gS fi122 c122_0 fr st k=opsR gS fi122 [qA 4 false 4] fr st (.seq c122_2 k):=evK_rs 0 rfl (by kernel_rfl)
theorem m122:mini fi122.body=c122_0:=by kernel_rfl
theorem c122 (a:Nat)(b:Nat)  (st:St):EvF gS 122 [.float .f64 a,.float .f64 b] st=some (.ret (.bool (fbits a=fbits b)) none,st):=by
 refine EvF_start fi109_eq (fun x h=>by cases h) m122 ?_
 rw [st122]
 simp (config:={contextual:=true,maxSteps:=10000000,maxDischargeDepth:=6}) [-zil,-zit,-znl,-znt,ty4,ty86,ty128,H122,k139,e122_2,e122_0]
 all_goals first | done | grind | omega
theorem k122 (a:Nat)(b:Nat)  (fr:Fr) (st:St):callStep gS (EvF gS) 122 [.float .f64 a,.float .f64 b] fr st=some (.ok (retE none (.bool (fbits a=fbits b))) fr st) :=
 call_pure rfl fi109_eq rfl (fun st=>c122 a b  st) (by simp)
end
end Go.Proofs.Ytdoobejjedpcgaa
namespace Go.Proofs.Ytdoobejjedpcgaa
open Go Go.Ab
noncomputable section
variable (fr:Fr)(st:St)(k:Kt)
def fi108:FI:={body:=codeOf Try.f108,ntmps:=114,results:=[.tmp 4,.tmp 5],pers:=[0,1,2,3,4,5,6,7],locals:=[2,3],pure:=true,marks:=[]}
theorem H108:fi108.marks=[]∧fi108.locals=[2,3]∧fi108.results=[.tmp 4,.tmp 5]:=⟨rfl,rfl,rfl⟩
theorem fi77_eq:gS.fn 108=some fi108:=by kernel_rfl
theorem st108 (a0 a1:V):startFr fi108 [a0,a1]={ps:=[(0,.val a0),(1,.val a1),(2,.any),(3,.any),(4,.any),(5,.any),(6,.any),(7,.any)],ts:=[],lc:=[]}:=rfl
def b108:Code:=mini (codeOf Try.f108)
def c108_11:Code:=.seq (codeN b108 585) .ret
def c108_10:Code:=.cond (.tmp 21) c108_11 .skip
def c108_8:Code:=.seq (codeN b108 137) c108_10
def c108_19:Code:=.seq (codeN b108 1193) .ret
def c108_18:Code:=.cond (.tmp 26) c108_19 .skip
def c108_16:Code:=.seq (codeN b108 297) c108_18
def c108_23:Code:=.seq (codeN b108 361) .ret
def c108_15:Code:=.seq c108_16 c108_23
def c108_7:Code:=.seq c108_8 c108_15
def c108_29:Code:=.seq (codeN b108 313) .ret
def c108_37:Code:=.seq (codeN b108 2809) .ret
def c108_35:Code:=.seq (codeN b108 1273) c108_37
def c108_43:Code:=.seq (codeN b108 5113) .ret
def c108_53:Code:=.seq (codeN b108 151545) .ret
def c108_52:Code:=.cond (.tmp 92) c108_53 .skip
def c108_50:Code:=.seq (codeN b108 36857) c108_52
def c108_61:Code:=.seq (codeN b108 307193) .ret
def c108_60:Code:=.cond (.tmp 97) c108_61 .skip
def c108_58:Code:=.seq (codeN b108 77817) c108_60
def c108_65:Code:=.seq (codeN b108 94201) .ret
def c108_57:Code:=.seq c108_58 c108_65
def c108_49:Code:=.seq c108_50 c108_57
def c108_75:Code:=.seq (codeN b108 606201) .ret
def c108_74:Code:=.cond (.tmp 111) c108_75 .skip
def c108_72:Code:=.seq (codeN b108 147449) c108_74
def c108_83:Code:=.seq (codeN b108 1228793) .ret
def c108_82:Code:=.cond (.tmp 113) c108_83 .skip
def c108_80:Code:=.seq (codeN b108 311289) c108_82
def c108_87:Code:=.seq (codeN b108 376825) .ret
def c108_79:Code:=.seq c108_80 c108_87
def c108_71:Code:=.seq c108_72 c108_79
def c108_70:Code:=.cond (.tmp 98) c108_71 .skip
def c108_68:Code:=.seq (codeN b108 24569) c108_70
def c108_48:Code:=.cond (.tmp 79) c108_49 c108_68
def c108_46:Code:=.seq (codeN b108 6137) c108_48
def c108_42:Code:=.cond (.tmp 63) c108_43 c108_46
def c108_40:Code:=.seq (codeN b108 1529) c108_42
def c108_34:Code:=.cond (.tmp 43) c108_35 c108_40
def c108_32:Code:=.seq (codeN b108 377) c108_34
def c108_28:Code:=.cond (.tmp 27) c108_29 c108_32
def c108_26:Code:=.seq (codeN b108 89) c108_28
def c108_6:Code:=.cond (.tmp 8) c108_7 c108_26
def c108_4:Code:=.seq (codeN b108 17) c108_6
def c108_91:Code:=.seq (codeN b108 11) .ret
def c108_2:Code:=.seq (.block 0 c108_4) c108_91
def c108_0:Code:=.seq (codeN b108 2) c108_2
theorem E108:(evK gS fi108 c108_11 fr st k=opsR gS fi108 [qI 4 (-1) 3,
 qA 5 true 4] fr st (.seq .ret k)) ∧
 evK gS fi108 c108_10 fr st k=condK gS fi108 (fr.op (.tmp 21)).bool? c108_11 .skip fr st k ∧
 (evK gS fi108 c108_8 fr st k=opsR gS fi108 [qF 17 88 2 1 0,
 ld 18 2 17 2,
 qF 19 88 3 1 0,
 ld 20 2 19 2,
 bop 21 .lss 2 18 20 2 4] fr st (.seq c108_10 k)) ∧
 (evK gS fi108 c108_19 fr st k=opsR gS fi108 [qI 4 1 3,
 qA 5 true 4] fr st (.seq .ret k)) ∧
 evK gS fi108 c108_18 fr st k=condK gS fi108 (fr.op (.tmp 26)).bool? c108_19 .skip fr st k ∧
 (evK gS fi108 c108_16 fr st k=opsR gS fi108 [qF 22 88 2 1 0,
 ld 23 2 22 2,
 qF 24 88 3 1 0,
 ld 25 2 24 2,
 bop 26 .gtr 2 23 25 2 4] fr st (.seq c108_18 k)) ∧
 (evK gS fi108 c108_23 fr st k=opsR gS fi108 [qI 4 0 3,
 qA 5 true 4] fr st (.seq .ret k)) ∧
 evK gS fi108 c108_15 fr st k=evK gS fi108 c108_16 fr st (.seq c108_23 k) ∧
 evK gS fi108 c108_7 fr st k=evK gS fi108 c108_8 fr st (.seq c108_15 k) ∧
 (evK gS fi108 c108_29 fr st k=opsR gS fi108 [qF 36 88 2 1 0,
 ld 37 2 36 2,
 qF 38 88 3 2 0,
 ld 39 86 38 86,
 cal 40 128 [(.tmp 37),(.tmp 39)] [2,86] 125,
 op1 41 (.extract (.tmp 40) 0) 3,
 op1 42 (.extract (.tmp 40) 1) 4,
 asn 4 41 3,
 asn 5 42 4] fr st (.seq .ret k)) ∧
 (evK gS fi108 c108_37 fr st k=opsR gS fi108 [mv 60 6 3,
 op1 61 (.unOp .neg 3 (.tmp 60)) 3,
 mv 62 7 4,
 asn 4 61 3,
 asn 5 62 4] fr st (.seq .ret k)) ∧
 (evK gS fi108 c108_35 fr st k=opsR gS fi108 [qF 53 88 3 1 0,
 ld 54 2 53 2,
 qF 55 88 2 2 0,
 ld 56 86 55 86,
 cal 57 128 [(.tmp 54),(.tmp 56)] [2,86] 125,
 mv 52 57 125,
 op1 58 (.extract (.tmp 52) 0) 3,
 op1 59 (.extract (.tmp 52) 1) 4,
 asn 6 58 3,
 asn 7 59 4] fr st (.seq c108_37 k)) ∧
 (evK gS fi108 c108_43 fr st k=opsR gS fi108 [qF 72 88 2 2 0,
 ld 73 86 72 86,
 qF 74 88 3 2 0,
 ld 75 86 74 86,
 cal 76 129 [(.tmp 73),(.tmp 75)] [86,86] 125,
 op1 77 (.extract (.tmp 76) 0) 3,
 op1 78 (.extract (.tmp 76) 1) 4,
 asn 4 77 3,
 asn 5 78 4] fr st (.seq .ret k)) ∧
 (evK gS fi108 c108_53 fr st k=opsR gS fi108 [qI 4 (-1) 3,
 qA 5 true 4] fr st (.seq .ret k)) ∧
 evK gS fi108 c108_52 fr st k=condK gS fi108 (fr.op (.tmp 92)).bool? c108_53 .skip fr st k ∧
 (evK gS fi108 c108_50 fr st k=opsR gS fi108 [qF 88 88 2 3 0,
 ld 89 9 88 9,
 qF 90 88 3 3 0,
 ld 91 9 90 9,
 bop 92 .lss 9 89 91 9 4] fr st (.seq c108_52 k)) ∧
 (evK gS fi108 c108_61 fr st k=opsR gS fi108 [qI 4 1 3,
 qA 5 true 4] fr st (.seq .ret k)) ∧
 evK gS fi108 c108_60 fr st k=condK gS fi108 (fr.op (.tmp 97)).bool? c108_61 .skip fr st k ∧
 (evK gS fi108 c108_58 fr st k=opsR gS fi108 [qF 93 88 2 3 0,
 ld 94 9 93 9,
 qF 95 88 3 3 0,
 ld 96 9 95 9,
 bop 97 .gtr 9 94 96 9 4] fr st (.seq c108_60 k)) ∧
 (evK gS fi108 c108_65 fr st k=opsR gS fi108 [qI 4 0 3,
 qA 5 true 4] fr st (.seq .ret k)) ∧
 evK gS fi108 c108_57 fr st k=evK gS fi108 c108_58 fr st (.seq c108_65 k) ∧
 evK gS fi108 c108_49 fr st k=evK gS fi108 c108_50 fr st (.seq c108_57 k) ∧
 (evK gS fi108 c108_75 fr st k=opsR gS fi108 [qI 4 0 3,
 qA 5 true 4] fr st (.seq .ret k)) ∧
 evK gS fi108 c108_74 fr st k=condK gS fi108 (fr.op (.tmp 111)).bool? c108_75 .skip fr st k ∧
 (evK gS fi108 c108_72 fr st k=opsR gS fi108 [qF 107 88 2 4 0,
 ld 108 4 107 4,
 qF 109 88 3 4 0,
 ld 110 4 109 4,
 bop 111 .eql 4 108 110 4 4] fr st (.seq c108_74 k)) ∧
 (evK gS fi108 c108_83 fr st k=opsR gS fi108 [qI 4 (-1) 3,
 qA 5 true 4] fr st (.seq .ret k)) ∧
 evK gS fi108 c108_82 fr st k=condK gS fi108 (fr.op (.tmp 113)).bool? c108_83 .skip fr st k ∧
 (evK gS fi108 c108_80 fr st k=opsR gS fi108 [qF 112 88 3 4 0,
 ld 113 4 112 4] fr st (.seq c108_82 k)) ∧
 (evK gS fi108 c108_87 fr st k=opsR gS fi108 [qI 4 1 3,
 qA 5 true 4] fr st (.seq .ret k)) ∧
 evK gS fi108 c108_79 fr st k=evK gS fi108 c108_80 fr st (.seq c108_87 k) ∧
 evK gS fi108 c108_71 fr st k=evK gS fi108 c108_72 fr st (.seq c108_79 k) ∧
 evK gS fi108 c108_70 fr st k=condK gS fi108 (fr.op (.tmp 98)).bool? c108_71 .skip fr st k ∧
 (evK gS fi108 c108_68 fr st k=opsR gS fi108 [qF 99 88 2 0 0,
 ld 100 3 99 3,
 qB 101 .eql 3 100 4 3 4,
 mv 102 101 4,
 qf 103 88 3 0 0 3 true,
 ql 104 3 103 3 3 true,
 qc 105 .eql 3 104 4 3 4 3 true,
 qP 106 102 105 false 4,
 asn 98 106 4] fr st (.seq c108_70 k)) ∧
 evK gS fi108 c108_48 fr st k=condK gS fi108 (fr.op (.tmp 79)).bool? c108_49 c108_68 fr st k ∧
 (evK gS fi108 c108_46 fr st k=opsR gS fi108 [qF 80 88 2 0 0,
 ld 81 3 80 3,
 qB 82 .eql 3 81 3 3 4,
 mv 83 82 4,
 qf 84 88 3 0 0 3 true,
 ql 85 3 84 3 3 true,
 qc 86 .eql 3 85 3 3 4 3 true,
 qP 87 83 86 false 4,
 asn 79 87 4] fr st (.seq c108_48 k)) ∧
 evK gS fi108 c108_42 fr st k=condK gS fi108 (fr.op (.tmp 63)).bool? c108_43 c108_46 fr st k ∧
 (evK gS fi108 c108_40 fr st k=opsR gS fi108 [qF 64 88 2 0 0,
 ld 65 3 64 3,
 qB 66 .eql 3 65 2 3 4,
 mv 67 66 4,
 qf 68 88 3 0 0 3 true,
 ql 69 3 68 3 3 true,
 qc 70 .eql 3 69 2 3 4 3 true,
 qP 71 67 70 false 4,
 asn 63 71 4] fr st (.seq c108_42 k)) ∧
 evK gS fi108 c108_34 fr st k=condK gS fi108 (fr.op (.tmp 43)).bool? c108_35 c108_40 fr st k ∧
 (evK gS fi108 c108_32 fr st k=opsR gS fi108 [qF 44 88 2 0 0,
 ld 45 3 44 3,
 qB 46 .eql 3 45 2 3 4,
 mv 47 46 4,
 qf 48 88 3 0 0 3 true,
 ql 49 3 48 3 3 true,
 qc 50 .eql 3 49 1 3 4 3 true,
 qP 51 47 50 false 4,
 asn 43 51 4] fr st (.seq c108_34 k)) ∧
 evK gS fi108 c108_28 fr st k=condK gS fi108 (fr.op (.tmp 27)).bool? c108_29 c108_32 fr st k ∧
 (evK gS fi108 c108_26 fr st k=opsR gS fi108 [qF 28 88 2 0 0,
 ld 29 3 28 3,
 qB 30 .eql 3 29 1 3 4,
 mv 31 30 4,
 qf 32 88 3 0 0 3 true,
 ql 33 3 32 3 3 true,
 qc 34 .eql 3 33 2 3 4 3 true,
 qP 35 31 34 false 4,
 asn 27 35 4] fr st (.seq c108_28 k)) ∧
 evK gS fi108 c108_6 fr st k=condK gS fi108 (fr.op (.tmp 8)).bool? c108_7 c108_26 fr st k ∧
 (evK gS fi108 c108_4 fr st k=opsR gS fi108 [qF 9 88 2 0 0,
 ld 10 3 9 3,
 qB 11 .eql 3 10 1 3 4,
 mv 12 11 4,
 qf 13 88 3 0 0 3 true,
 ql 14 3 13 3 3 true,
 qc 15 .eql 3 14 1 3 4 3 true,
 qP 16 12 15 false 4,
 asn 8 16 4] fr st (.seq c108_6 k)) ∧
 (evK gS fi108 c108_91 fr st k=opsR gS fi108 [qI 4 0 3,
 qA 5 false 4] fr st (.seq .ret k)) ∧
 evK gS fi108 c108_2 fr st k=evK gS fi108 c108_4 fr st (.blk 0 (.seq c108_91 k)) ∧
 (evK gS fi108 c108_0 fr st k=opsR gS fi108 [op1 2 (.box 88 (.tmp 0)) 0,
 op1 3 (.box 88 (.tmp 1)) 0,
 qI 4 0 3,
 qA 5 false 4] fr st (.seq c108_2 k)):=⟨evK_rs 3 rfl (by kernel_rfl),rfl,evK_rs 2 rfl (by kernel_rfl),evK_rs 5 rfl (by kernel_rfl),rfl,evK_rs 4 rfl (by kernel_rfl),evK_rs 6 rfl (by kernel_rfl),rfl,rfl,evK_rs 8 rfl (by kernel_rfl),evK_rs 11 rfl (by kernel_rfl),evK_rs 10 rfl (by kernel_rfl),evK_rs 13 rfl (by kernel_rfl),evK_rs 16 rfl (by kernel_rfl),rfl,evK_rs 15 rfl (by kernel_rfl),evK_rs 18 rfl (by kernel_rfl),rfl,evK_rs 17 rfl (by kernel_rfl),evK_rs 19 rfl (by kernel_rfl),rfl,rfl,evK_rs 22 rfl (by kernel_rfl),rfl,evK_rs 21 rfl (by kernel_rfl),evK_rs 24 rfl (by kernel_rfl),rfl,evK_rs 23 rfl (by kernel_rfl),evK_rs 25 rfl (by kernel_rfl),rfl,rfl,rfl,evK_rs 20 rfl (by kernel_rfl),rfl,evK_rs 14 rfl (by kernel_rfl),rfl,evK_rs 12 rfl (by kernel_rfl),rfl,evK_rs 9 rfl (by kernel_rfl),rfl,evK_rs 7 rfl (by kernel_rfl),rfl,evK_rs 1 rfl (by kernel_rfl),evK_rs 26 rfl (by kernel_rfl),rfl,evK_rs 0 rfl (by kernel_rfl)⟩
theorem m108:mini fi108.body=c108_0:=by kernel_rfl
theorem c108 (a:Val)(b:Val)  (st:St):EvF gS 108 [a.enc,b.enc] st=some (.ret (.tuple [.int .i64 (cmp a b).1,.bool (cmp a b).2]) none,st):=by
 refine EvF_start fi77_eq (fun x h=>by cases h) m108 ?_
 rw [st108]
 simp (config:={contextual:=true,maxSteps:=10000000,maxDischargeDepth:=6}) [-zil,-zit,-znl,-znt,ty2,ty3,ty4,ty9,ty86,ty88,eq88,H108,k128,k129,E108]
 all_goals try simp (config:={contextual:=true}) [-zil,-zit,-znl,-znt,cmp,scmp,sgn]
 all_goals first | done | grind | omega
theorem k108 (a_k:Int)(a_n:Int)(a_x:Nat)(a_s:List UInt8)(a_b:Bool)(b_k:Int)(b_n:Int)(b_x:Nat)(b_s:List UInt8)(b_b:Bool)  (fr:Fr) (st:St):callStep gS (EvF gS) 108 [.agg [.int .i64 a_k,.int .i64 a_n,.float .f64 a_x,.str a_s,.bool a_b],.agg [.int .i64 b_k,.int .i64 b_n,.float .f64 b_x,.str b_s,.bool b_b]] fr st=some (.ok (retE none (.tuple [.int .i64 (cmp (⟨a_k,a_n,a_x,a_s,a_b⟩:Val) (⟨b_k,b_n,b_x,b_s,b_b⟩:Val)).1,.bool (cmp (⟨a_k,a_n,a_x,a_s,a_b⟩:Val) (⟨b_k,b_n,b_x,b_s,b_b⟩:Val)).2])) fr st) :=
 call_pure rfl fi77_eq rfl (fun st=>c108 (⟨a_k,a_n,a_x,a_s,a_b⟩:Val) (⟨b_k,b_n,b_x,b_s,b_b⟩:Val)  st) (by simp)
theorem x108:gS.ext 108=none:=rfl
theorem p108:fi108.pure=true:=rfl
def fi110:FI:={body:=codeOf Try.f110,ntmps:=18,results:=[.tmp 4],pers:=[0,1,2,3,4,5,6],locals:=[2,3],pure:=true,marks:=[]}
theorem H110:fi110.marks=[]∧fi110.locals=[2,3]∧fi110.results=[.tmp 4]:=⟨rfl,rfl,rfl⟩
theorem fi79_eq:gS.fn 110=some fi110:=by kernel_rfl
theorem st110 (a0 a1:V):startFr fi110 [a0,a1]={ps:=[(0,.val a0),(1,.val a1),(2,.any),(3,.any),(4,.any),(5,.any),(6,.any)],ts:=[],lc:=[]}:=rfl
def b110:Code:=mini (codeOf Try.f110)
def c110_4:Code:=.seq (codeN b110 11) .ret
theorem e110_4:evK gS fi110 c110_4 fr st k=opsR gS fi110 [mv 13 6 4,
 mv 14 13 4,
 qm 15 5 3 1 true,
 qc 16 .eql 3 15 0 3 4 1 true,
 qP 17 14 16 false 4,
 asn 4 17 4] fr st (.seq .ret k):=evK_rs 2 rfl (by kernel_rfl)
def c110_2:Code:=.seq (codeN b110 5) c110_4
theorem e110_2:evK gS fi110 c110_2 fr st k=opsR gS fi110 [ld 8 88 2 88,
 ld 9 88 3 88,
 cal 10 108 [(.tmp 8),(.tmp 9)] [88,88] 125,
 mv 7 10 125,
 op1 11 (.extract (.tmp 7) 0) 3,
 op1 12 (.extract (.tmp 7) 1) 4,
 asn 5 11 3,
 asn 6 12 4] fr st (.seq c110_4 k):=evK_rs 1 rfl (by kernel_rfl)
def c110_0:Code:=.seq (codeN b110 2) c110_2
theorem e110_0:evK gS fi110 c110_0 fr st k=opsR gS fi110 [op1 2 (.box 88 (.tmp 0)) 0,
 op1 3 (.box 88 (.tmp 1)) 0,
 qA 4 false 4] fr st (.seq c110_2 k):=evK_rs 0 rfl (by kernel_rfl)
theorem m110:mini fi110.body=c110_0:=by kernel_rfl
theorem c110 (a:Val)(b:Val)  (st:St):EvF gS 110 [a.enc,b.enc] st=some (.ret (.bool (vis a b)) none,st):=by
 refine EvF_start fi79_eq (fun x h=>by cases h) m110 ?_
 rw [st110]
 simp (config:={contextual:=true,maxSteps:=10000000,maxDischargeDepth:=6}) [-zil,-zit,-znl,-znt,ty3,ty4,ty88,eq88,H110,k108,e110_4,e110_2,e110_0]
 all_goals try simp (config:={contextual:=true}) [-zil,-zit,-znl,-znt,vis]
 all_goals first | done | grind | omega
theorem k110 (a_k:Int)(a_n:Int)(a_x:Nat)(a_s:List UInt8)(a_b:Bool)(b_k:Int)(b_n:Int)(b_x:Nat)(b_s:List UInt8)(b_b:Bool)  (fr:Fr) (st:St):callStep gS (EvF gS) 110 [.agg [.int .i64 a_k,.int .i64 a_n,.float .f64 a_x,.str a_s,.bool a_b],.agg [.int .i64 b_k,.int .i64 b_n,.float .f64 b_x,.str b_s,.bool b_b]] fr st=some (.ok (retE none (.bool (vis (⟨a_k,a_n,a_x,a_s,a_b⟩:Val) (⟨b_k,b_n,b_x,b_s,b_b⟩:Val)))) fr st) :=
 call_pure rfl fi79_eq rfl (fun st=>c110 (⟨a_k,a_n,a_x,a_s,a_b⟩:Val) (⟨b_k,b_n,b_x,b_s,b_b⟩:Val)  st) (by simp)
theorem x110:gS.ext 110=none:=rfl
theorem p110:fi110.pure=true:=rfl
def fi102:FI:={body:=codeOf Try.f102,ntmps:=38,results:=[.tmp 4],pers:=[0,1,2,3,4],locals:=[2,3],pure:=true,marks:=[]}
theorem H102:fi102.marks=[]∧fi102.locals=[2,3]∧fi102.results=[.tmp 4]:=⟨rfl,rfl,rfl⟩
theorem fi81_eq:gS.fn 102=some fi102:=by kernel_rfl
theorem st102 (a0 a1:V):startFr fi102 [a0,a1]={ps:=[(0,.val a0),(1,.val a1),(2,.any),(3,.any),(4,.any)],ts:=[],lc:=[]}:=rfl
def b102:Code:=mini (codeOf Try.f102)
def c102_2:Code:=.seq (codeN b102 5) .ret
theorem e102_2:evK gS fi102 c102_2 fr st k=opsR gS fi102 [qF 5 88 2 0 0,
 ld 6 3 5 3,
 qF 7 88 3 0 0,
 ld 8 3 7 3,
 bop 9 .eql 3 6 8 3 4,
 mv 10 9 4,
 qf 11 88 2 1 0 5 true,
 ql 12 2 11 2 5 true,
 qf 13 88 3 1 0 5 true,
 ql 14 2 13 2 5 true,
 qb 15 .eql 2 12 14 2 4 5 true,
 qP 16 10 15 false 4,
 mv 17 16 4,
 qf 18 88 2 3 0 12 true,
 ql 19 9 18 9 12 true,
 qf 20 88 3 3 0 12 true,
 ql 21 9 20 9 12 true,
 qb 22 .eql 9 19 21 9 4 12 true,
 qP 23 17 22 false 4,
 mv 24 23 4,
 qf 25 88 2 4 0 19 true,
 ql 26 4 25 4 19 true,
 qf 27 88 3 4 0 19 true,
 ql 28 4 27 4 19 true,
 qb 29 .eql 4 26 28 4 4 19 true,
 qP 30 24 29 false 4,
 mv 31 30 4,
 qf 32 88 2 2 0 26 true,
 ql 33 86 32 86 26 true,
 qf 34 88 3 2 0 26 true,
 ql 35 86 34 86 26 true,
 mk (some 36) (.call {callee:=(.value (.func 122)),args:=#[(.tmp 33),(.tmp 35)],argTypes:=#[86,86]}) 4 (some (26,true)),
 qP 37 31 36 false 4,
 asn 4 37 4] fr st (.seq .ret k):=evK_rs 1 rfl (by kernel_rfl)
def c102_0:Code:=.seq (codeN b102 2) c102_2
theorem e102_0:evK gS fi102 c102_0 fr st k=opsR gS fi102 [op1 2 (.box 88 (.tmp 0)) 0,
 op1 3 (.box 88 (.tmp 1)) 0,
 qA 4 false 4] fr st (.seq c102_2 k):=evK_rs 0 rfl (by kernel_rfl)
theorem m102:mini fi102.body=c102_0:=by kernel_rfl
theorem c102 (a:Val)(b:Val)  (st:St):EvF gS 102 [a.enc,b.enc] st=some (.ret (.bool (vsame a b)) none,st):=by
 refine EvF_start fi81_eq (fun x h=>by cases h) m102 ?_
 rw [st102]
 simp (config:={contextual:=true,maxSteps:=10000000,maxDischargeDepth:=6}) [-zil,-zit,-znl,-znt,ty2,ty3,ty4,ty9,ty86,ty88,eq88,H102,k122,e102_2,e102_0]
 all_goals try simp (config:={contextual:=true}) [-zil,-zit,-znl,-znt,vsame]
 all_goals first | done | grind | omega
theorem k102 (a_k:Int)(a_n:Int)(a_x:Nat)(a_s:List UInt8)(a_b:Bool)(b_k:Int)(b_n:Int)(b_x:Nat)(b_s:List UInt8)(b_b:Bool)  (fr:Fr) (st:St):callStep gS (EvF gS) 102 [.agg [.int .i64 a_k,.int .i64 a_n,.float .f64 a_x,.str a_s,.bool a_b],.agg [.int .i64 b_k,.int .i64 b_n,.float .f64 b_x,.str b_s,.bool b_b]] fr st=some (.ok (retE none (.bool (vsame (⟨a_k,a_n,a_x,a_s,a_b⟩:Val) (⟨b_k,b_n,b_x,b_s,b_b⟩:Val)))) fr st) :=
 call_pure rfl fi81_eq rfl (fun st=>c102 (⟨a_k,a_n,a_x,a_s,a_b⟩:Val) (⟨b_k,b_n,b_x,b_s,b_b⟩:Val)  st) (by simp)
theorem x102:gS.ext 102=none:=rfl
theorem p102:fi102.pure=true:=rfl
def fi83:FI:={body:=codeOf Try.f83,ntmps:=40,results:=[.tmp 4],pers:=[0,1,2,3,4],locals:=[2,3],pure:=true,marks:=[]}
theorem H83:fi83.marks=[]∧fi83.locals=[2,3]∧fi83.results=[.tmp 4]:=⟨rfl,rfl,rfl⟩
theorem fi82_eq:gS.fn 83=some fi83:=by kernel_rfl
theorem st83 (a0 a1:V):startFr fi83 [a0,a1]={ps:=[(0,.val a0),(1,.val a1),(2,.any),(3,.any),(4,.any)],ts:=[],lc:=[]}:=rfl
def b83:Code:=mini (codeOf Try.f83)
def r83_3:Array Oper:=regOps (codeN (codeOf Try.f83) 5)
def c83_3:Code:=.region 1 r83_3 true
def q83_3:List (Oper × Fl):=[(qF 5 88 2 0 0,qz0),
 (ld 6 3 5 3,qz0),
 (qF 7 88 3 0 0,qz0),
 (ld 8 3 7 3,qz0),
 (bop 9 .eql 3 6 8 3 4,qz0),
 (mv 10 9 4,qz0),
 (qf 11 88 2 1 0 5 true,qz0),
 (ql 12 2 11 2 5 true,qz0),
 (qf 13 88 3 1 0 5 true,qz0),
 (ql 14 2 13 2 5 true,qz0),
 (qb 15 .eql 2 12 14 2 4 5 true,qz0),
 (qP 16 10 15 false 4,qz0),
 (mv 17 16 4,qz1),
 (qf 18 88 2 2 0 12 true,qz0),
 (ql 19 86 18 86 12 true,qz0),
 (mk (some 20) (.call {callee:=(.value (.func 103)),args:=#[(.tmp 19)],argTypes:=#[86]}) 128 (some (12,true)),qz2),
 (qf 21 88 3 2 0 12 true,qz0),
 (ql 22 86 21 86 12 true,qz3),
 (mk (some 23) (.call {callee:=(.value (.func 103)),args:=#[(.tmp 22)],argTypes:=#[86]}) 128 (some (12,true)),qz4),
 (qb 24 .eql 128 20 23 128 4 12 true,qz3),
 (qP 25 17 24 false 4,qz3),
 (mv 26 25 4,qz3),
 (qf 27 88 2 3 0 21 true,qz0),
 (ql 28 9 27 9 21 true,qz0),
 (qf 29 88 3 3 0 21 true,qz0),
 (ql 30 9 29 9 21 true,qz3),
 (qb 31 .eql 9 28 30 9 4 21 true,qz3),
 (qP 32 26 31 false 4,qz3),
 (mv 33 32 4,qz3),
 (qf 34 88 2 4 0 28 true,qz0),
 (ql 35 4 34 4 28 true,qz0),
 (qf 36 88 3 4 0 28 true,qz3),
 (ql 37 4 36 4 28 true,qz3),
 (qb 38 .eql 4 35 37 4 4 28 true,qz3),
 (qP 39 33 38 false 4,qz3),
 (asn 4 39 4,qz1)]
theorem e83_3:evK gS fi83 c83_3 fr st k=drwR gS fi83 r83_3 q83_3 fr st k:=evK_dr 1 rfl (by kernel_rfl) (by kernel_rfl)
def c83_2:Code:=.seq c83_3 .ret
theorem e83_2:evK gS fi83 c83_2 fr st k=evK gS fi83 c83_3 fr st (.seq .ret k):=rfl
def c83_0:Code:=.seq (codeN b83 2) c83_2
theorem e83_0:evK gS fi83 c83_0 fr st k=opsR gS fi83 [op1 2 (.box 88 (.tmp 0)) 0,
 op1 3 (.box 88 (.tmp 1)) 0,
 qA 4 false 4] fr st (.seq c83_2 k):=evK_rs 0 rfl (by kernel_rfl)
theorem m83:mini fi83.body=c83_0:=by kernel_rfl
theorem c83 (a:Val)(b:Val)  (st:St):EvF gS 83 [a.enc,b.enc] st=some (.ret (.bool (vsame a b)) none,st):=by
 refine EvF_start fi82_eq (fun x h=>by cases h) m83 ?_
 rw [st83]
 simp (config:={contextual:=true,maxSteps:=10000000,maxDischargeDepth:=6}) [-zil,-zit,-znl,-znt,ty2,ty3,ty4,ty9,ty86,ty88,ty128,eq88,H83,k103,x103,fi110_eq,p103,e83_3,q83_3,e83_2,e83_0]
 all_goals try simp (config:={contextual:=true}) [-zil,-zit,-znl,-znt,vsame]
 all_goals first | done | grind | omega
theorem k83 (a_k:Int)(a_n:Int)(a_x:Nat)(a_s:List UInt8)(a_b:Bool)(b_k:Int)(b_n:Int)(b_x:Nat)(b_s:List UInt8)(b_b:Bool)  (fr:Fr) (st:St):callStep gS (EvF gS) 83 [.agg [.int .i64 a_k,.int .i64 a_n,.float .f64 a_x,.str a_s,.bool a_b],.agg [.int .i64 b_k,.int .i64 b_n,.float .f64 b_x,.str b_s,.bool b_b]] fr st=some (.ok (retE none (.bool (vsame (⟨a_k,a_n,a_x,a_s,a_b⟩:Val) (⟨b_k,b_n,b_x,b_s,b_b⟩:Val)))) fr st) :=
 call_pure rfl fi82_eq rfl (fun st=>c83 (⟨a_k,a_n,a_x,a_s,a_b⟩:Val) (⟨b_k,b_n,b_x,b_s,b_b⟩:Val)  st) (by simp)
theorem x83:gS.ext 83=none:=rfl
theorem p83:fi83.pure=true:=rfl
def fi117:FI:={body:=codeOf Try.f117,ntmps:=29,results:=[.tmp 2],pers:=[0,1,2,3,7],locals:=[1,3],pure:=true,marks:=[]}
theorem H117:fi117.marks=[]∧fi117.locals=[1,3]∧fi117.results=[.tmp 2]:=⟨rfl,rfl,rfl⟩
theorem fi70_eq:gS.fn 117=some fi117:=by kernel_rfl
theorem st117 (a0:V):startFr fi117 [a0]={ps:=[(0,.val a0),(1,.any),(2,.any),(3,.any),(7,.any)],ts:=[],lc:=[]}:=rfl
def b117:Code:=mini (codeOf Try.f117)
def c117_13:Code:=codeN b117 343
def c117_17:Code:=codeN b117 1495
def c117_21:Code:=codeN b117 6103
def c117_25:Code:=codeN b117 24535
def c117_26:Code:=.seq (codeN b117 49111) .ret
def c117_24:Code:=.cond (.tmp 17) c117_25 c117_26
def c117_22:Code:=.seq (codeN b117 12247) c117_24
def c117_20:Code:=.cond (.tmp 14) c117_21 c117_22
def c117_18:Code:=.seq (codeN b117 3031) c117_20
def c117_16:Code:=.cond (.tmp 11) c117_17 c117_18
def c117_14:Code:=.seq (codeN b117 727) c117_16
def c117_12:Code:=.cond (.tmp 8) c117_13 c117_14
def c117_10:Code:=.seq (codeN b117 151) c117_12
def c117_9:Code:=.block 0 c117_10
def c117_7:Code:=.seq (codeN b117 39) c117_9
def c117_29:Code:=.seq (codeN b117 47) .ret
def c117_6:Code:=.seq c117_7 c117_29
def c117_4:Code:=.seq (codeN b117 11) c117_6
def c117_2:Code:=.seq (codeN b117 5) c117_4
def c117_0:Code:=.seq (codeN b117 2) c117_2
theorem E117:(evK gS fi117 c117_13 fr st k=opsR gS fi117 [qF 10 88 3 1 0,
 mk none (.store 2 (.tmp 10) (.const (.int .i64 0))) 0 none] fr st k) ∧
 (evK gS fi117 c117_17 fr st k=opsR gS fi117 [qF 13 88 3 2 0,
 mk none (.store 86 (.tmp 13) (.const (.float .f64 0))) 0 none] fr st k) ∧
 (evK gS fi117 c117_21 fr st k=opsR gS fi117 [qF 16 88 3 3 0,
 mk none (.store 9 (.tmp 16) (.const (.string {data:=#[]}))) 0 none] fr st k) ∧
 (evK gS fi117 c117_25 fr st k=opsR gS fi117 [qF 19 88 3 4 0,
 mk none (.store 4 (.tmp 19) (.const (.bool false))) 0 none] fr st k) ∧
 evK gS fi117 c117_26 fr st k=opsR gS fi117 [qA 2 false 4] fr st (.seq .ret k) ∧
 evK gS fi117 c117_24 fr st k=condK gS fi117 (fr.op (.tmp 17)).bool? c117_25 c117_26 fr st k ∧
 (evK gS fi117 c117_22 fr st k=opsR gS fi117 [qB 18 .eql 3 7 4 3 4,
 asn 17 18 4] fr st (.seq c117_24 k)) ∧
 evK gS fi117 c117_20 fr st k=condK gS fi117 (fr.op (.tmp 14)).bool? c117_21 c117_22 fr st k ∧
 (evK gS fi117 c117_18 fr st k=opsR gS fi117 [qB 15 .eql 3 7 3 3 4,
 asn 14 15 4] fr st (.seq c117_20 k)) ∧
 evK gS fi117 c117_16 fr st k=condK gS fi117 (fr.op (.tmp 11)).bool? c117_17 c117_18 fr st k ∧
 (evK gS fi117 c117_14 fr st k=opsR gS fi117 [qB 12 .eql 3 7 2 3 4,
 asn 11 12 4] fr st (.seq c117_16 k)) ∧
 evK gS fi117 c117_12 fr st k=condK gS fi117 (fr.op (.tmp 8)).bool? c117_13 c117_14 fr st k ∧
 (evK gS fi117 c117_10 fr st k=opsR gS fi117 [qB 9 .eql 3 7 1 3 4,
 asn 8 9 4] fr st (.seq c117_12 k)) ∧
 evK gS fi117 c117_9 fr st k=evK gS fi117 c117_10 fr st (.blk 0 k) ∧
 (evK gS fi117 c117_7 fr st k=opsR gS fi117 [qF 6 88 1 0 0,
 ld 7 3 6 3] fr st (.seq c117_9 k)) ∧
 (evK gS fi117 c117_29 fr st k=opsR gS fi117 [ld 20 88 3 88,
 op1 21 (.build 88 #[]) 88,
 bop 22 .eql 88 20 21 88 4,
 mv 23 22 4,
 qf 24 88 1 3 0 3 true,
 ql 25 9 24 9 3 true,
 qe 26 25 9 3 3 true,
 qc 27 .leq 3 26 12 3 4 3 true,
 qP 28 23 27 false 4,
 asn 2 28 4] fr st (.seq .ret k)) ∧
 evK gS fi117 c117_6 fr st k=evK gS fi117 c117_7 fr st (.seq c117_29 k) ∧
 (evK gS fi117 c117_4 fr st k=opsR gS fi117 [qF 5 88 3 0 0,
 mk none (.store 3 (.tmp 5) (.const (.int .i64 0))) 0 none] fr st (.seq c117_6 k)) ∧
 (evK gS fi117 c117_2 fr st k=opsR gS fi117 [ld 4 88 1 88,
 op1 3 (.alloc 88) 0,
 sto 88 3 4] fr st (.seq c117_4 k)) ∧
 (evK gS fi117 c117_0 fr st k=opsR gS fi117 [op1 1 (.box 88 (.tmp 0)) 0,
 qA 2 false 4] fr st (.seq c117_2 k)):=⟨evK_r 6 (by kernel_rfl),evK_r 8 (by kernel_rfl),evK_r 10 (by kernel_rfl),evK_r 12 (by kernel_rfl),evK_rs 4 rfl (by kernel_rfl),rfl,evK_rs 11 rfl (by kernel_rfl),rfl,evK_rs 9 rfl (by kernel_rfl),rfl,evK_rs 7 rfl (by kernel_rfl),rfl,evK_rs 5 rfl (by kernel_rfl),rfl,evK_rs 3 rfl (by kernel_rfl),evK_rs 13 rfl (by kernel_rfl),rfl,evK_rs 2 rfl (by kernel_rfl),evK_rs 1 rfl (by kernel_rfl),evK_rs 0 rfl (by kernel_rfl)⟩
theorem m117:mini fi117.body=c117_0:=by kernel_rfl
theorem c117 (v:Val)  (st:St):EvF gS 117 [v.enc] st=some (.ret (.bool (vright v)) none,st):=by
 refine EvF_start fi70_eq (fun x h=>by cases h) m117 ?_
 rw [st117]
 simp (config:={contextual:=true,maxSteps:=10000000,maxDischargeDepth:=6}) [-zil,-zit,-znl,-znt,ty2,ty3,ty4,ty9,ty86,ty88,eq88,H117,E117]
 all_goals try simp (config:={contextual:=true}) [-zil,-zit,-znl,-znt,vright,opq]
 all_goals first | done | grind | omega
theorem k117 (v_k:Int)(v_n:Int)(v_x:Nat)(v_s:List UInt8)(v_b:Bool)  (fr:Fr) (st:St):callStep gS (EvF gS) 117 [.agg [.int .i64 v_k,.int .i64 v_n,.float .f64 v_x,.str v_s,.bool v_b]] fr st=some (.ok (retE none (.bool (vright (⟨v_k,v_n,v_x,v_s,v_b⟩:Val)))) fr st) :=
 call_pure rfl fi70_eq rfl (fun st=>c117 (⟨v_k,v_n,v_x,v_s,v_b⟩:Val)  st) (by simp)
def fi127:FI:={body:=codeOf Try.f127,ntmps:=63,results:=[.tmp 2],pers:=[0,1,2,3,4,5,6,20],locals:=[1],pure:=true,marks:=[]}
theorem H127:fi127.marks=[]∧fi127.locals=[1]∧fi127.results=[.tmp 2]:=⟨rfl,rfl,rfl⟩
theorem fi74_eq:gS.fn 127=some fi127:=by kernel_rfl
theorem st127 (a0:V):startFr fi127 [a0]={ps:=[(0,.val a0),(1,.any),(2,.any),(3,.any),(4,.any),(5,.any),(6,.any),(20,.any)],ts:=[],lc:=[]}:=rfl
def b127:Code:=mini (codeOf Try.f127)
def r127_3:Array Oper:=regOps (codeN (codeOf Try.f127) 5)
def c127_3:Code:=.region 1 r127_3 true
def q127_3:List (Oper × Fl):=[(qF 7 88 1 1 0,qz0),
 (ld 8 2 7 2,qz0),
 (qB 9 .eql 2 8 0 2 4,qz0),
 (qF 10 88 1 2 0,qz0),
 (ld 11 86 10 86,qz0),
 (op1 12 (.binOp .eql 86 (.tmp 11) (.const (.float .f64 0)) 86) 4,qz0),
 (qF 13 88 1 3 0,qz0),
 (ld 14 9 13 9,qz0),
 (op1 15 (.binOp .eql 9 (.tmp 14) (.const (.string {data:=#[]})) 9) 4,qz0),
 (qF 16 88 1 4 0,qz0),
 (ld 17 4 16 4,qz0),
 (op1 18 (.unOp .not 4 (.tmp 17)) 4,qz0),
 (asn 3 9 4,qz3),
 (asn 4 12 4,qz3),
 (asn 5 15 4,qz3),
 (asn 6 18 4,qz1)]
def c127_11:Code:=.seq (codeN b127 299) .ret
def c127_17:Code:=.seq (codeN b127 1259) .ret
def c127_23:Code:=.seq (codeN b127 5099) .ret
def c127_29:Code:=.seq (codeN b127 20459) .ret
def c127_28:Code:=.cond (.tmp 54) c127_29 .skip
def c127_26:Code:=.seq (codeN b127 6123) c127_28
def c127_22:Code:=.cond (.tmp 39) c127_23 c127_26
def c127_20:Code:=.seq (codeN b127 1515) c127_22
def c127_16:Code:=.cond (.tmp 30) c127_17 c127_20
def c127_14:Code:=.seq (codeN b127 363) c127_16
def c127_10:Code:=.cond (.tmp 21) c127_11 c127_14
def c127_8:Code:=.seq (codeN b127 75) c127_10
def c127_7:Code:=.block 0 c127_8
def c127_5:Code:=.seq (codeN b127 19) c127_7
def c127_33:Code:=.seq (codeN b127 23) .ret
def c127_4:Code:=.seq c127_5 c127_33
def c127_2:Code:=.seq c127_3 c127_4
def c127_0:Code:=.seq (codeN b127 2) c127_2
theorem E127:evK gS fi127 c127_3 fr st k=drwR gS fi127 r127_3 q127_3 fr st k ∧
 (evK gS fi127 c127_11 fr st k=opsR gS fi127 [mv 23 4 4,
 mv 24 23 4,
 qm 25 5 4 1 true,
 qP 26 24 25 false 4,
 mv 27 26 4,
 qm 28 6 4 4 true,
 qP 29 27 28 false 4,
 asn 2 29 4] fr st (.seq .ret k)) ∧
 (evK gS fi127 c127_17 fr st k=opsR gS fi127 [mv 32 3 4,
 mv 33 32 4,
 qm 34 5 4 1 true,
 qP 35 33 34 false 4,
 mv 36 35 4,
 qm 37 6 4 4 true,
 qP 38 36 37 false 4,
 asn 2 38 4] fr st (.seq .ret k)) ∧
 (evK gS fi127 c127_23 fr st k=opsR gS fi127 [mv 41 3 4,
 mv 42 41 4,
 qm 43 4 4 1 true,
 qP 44 42 43 false 4,
 mv 45 44 4,
 qm 46 6 4 4 true,
 qP 47 45 46 false 4,
 mv 48 47 4,
 qf 49 88 1 3 0 7 true,
 ql 50 9 49 9 7 true,
 qe 51 50 9 3 7 true,
 qc 52 .leq 3 51 12 3 4 7 true,
 qP 53 48 52 false 4,
 asn 2 53 4] fr st (.seq .ret k)) ∧
 (evK gS fi127 c127_29 fr st k=opsR gS fi127 [mv 56 3 4,
 mv 57 56 4,
 qm 58 4 4 1 true,
 qP 59 57 58 false 4,
 mv 60 59 4,
 qm 61 5 4 4 true,
 qP 62 60 61 false 4,
 asn 2 62 4] fr st (.seq .ret k)) ∧
 evK gS fi127 c127_28 fr st k=condK gS fi127 (fr.op (.tmp 54)).bool? c127_29 .skip fr st k ∧
 (evK gS fi127 c127_26 fr st k=opsR gS fi127 [qB 55 .eql 3 20 4 3 4,
 asn 54 55 4] fr st (.seq c127_28 k)) ∧
 evK gS fi127 c127_22 fr st k=condK gS fi127 (fr.op (.tmp 39)).bool? c127_23 c127_26 fr st k ∧
 (evK gS fi127 c127_20 fr st k=opsR gS fi127 [qB 40 .eql 3 20 3 3 4,
 asn 39 40 4] fr st (.seq c127_22 k)) ∧
 evK gS fi127 c127_16 fr st k=condK gS fi127 (fr.op (.tmp 30)).bool? c127_17 c127_20 fr st k ∧
 (evK gS fi127 c127_14 fr st k=opsR gS fi127 [qB 31 .eql 3 20 2 3 4,
 asn 30 31 4] fr st (.seq c127_16 k)) ∧
 evK gS fi127 c127_10 fr st k=condK gS fi127 (fr.op (.tmp 21)).bool? c127_11 c127_14 fr st k ∧
 (evK gS fi127 c127_8 fr st k=opsR gS fi127 [qB 22 .eql 3 20 1 3 4,
 asn 21 22 4] fr st (.seq c127_10 k)) ∧
 evK gS fi127 c127_7 fr st k=evK gS fi127 c127_8 fr st (.blk 0 k) ∧
 (evK gS fi127 c127_5 fr st k=opsR gS fi127 [qF 19 88 1 0 0,
 ld 20 3 19 3] fr st (.seq c127_7 k)) ∧
 evK gS fi127 c127_33 fr st k=opsR gS fi127 [qA 2 false 4] fr st (.seq .ret k) ∧
 evK gS fi127 c127_4 fr st k=evK gS fi127 c127_5 fr st (.seq c127_33 k) ∧
 evK gS fi127 c127_2 fr st k=evK gS fi127 c127_3 fr st (.seq c127_4 k) ∧
 (evK gS fi127 c127_0 fr st k=opsR gS fi127 [op1 1 (.box 88 (.tmp 0)) 0,
 qA 2 false 4] fr st (.seq c127_2 k)):=⟨evK_dr 1 rfl (by kernel_rfl) (by kernel_rfl),evK_rs 4 rfl (by kernel_rfl),evK_rs 6 rfl (by kernel_rfl),evK_rs 8 rfl (by kernel_rfl),evK_rs 10 rfl (by kernel_rfl),rfl,evK_rs 9 rfl (by kernel_rfl),rfl,evK_rs 7 rfl (by kernel_rfl),rfl,evK_rs 5 rfl (by kernel_rfl),rfl,evK_rs 3 rfl (by kernel_rfl),rfl,evK_rs 2 rfl (by kernel_rfl),evK_rs 11 rfl (by kernel_rfl),rfl,rfl,evK_rs 0 rfl (by kernel_rfl)⟩
theorem m127:mini fi127.body=c127_0:=by kernel_rfl
theorem c127 (v:Val)  (st:St):EvF gS 127 [v.enc] st=some (.ret (.bool (vright v)) none,st):=by
 refine EvF_start fi74_eq (fun x h=>by cases h) m127 ?_
 rw [st127]
 simp (config:={contextual:=true,maxSteps:=10000000,maxDischargeDepth:=6}) [-zil,-zit,-znl,-znt,ty2,ty3,ty4,ty9,ty86,ty88,eq88,H127,E127,q127_3]
 all_goals try simp (config:={contextual:=true}) [-zil,-zit,-znl,-znt,vright,opq]
 all_goals first | done | grind | omega
theorem k127 (v_k:Int)(v_n:Int)(v_x:Nat)(v_s:List UInt8)(v_b:Bool)  (fr:Fr) (st:St):callStep gS (EvF gS) 127 [.agg [.int .i64 v_k,.int .i64 v_n,.float .f64 v_x,.str v_s,.bool v_b]] fr st=some (.ok (retE none (.bool (vright (⟨v_k,v_n,v_x,v_s,v_b⟩:Val)))) fr st) :=
 call_pure rfl fi74_eq rfl (fun st=>c127 (⟨v_k,v_n,v_x,v_s,v_b⟩:Val)  st) (by simp)
def fi116:FI:={body:=codeOf Try.f116,ntmps:=6,results:=[.tmp 2],pers:=[0,1,2],locals:=[1],pure:=true,marks:=[]}
theorem H116:fi116.marks=[]∧fi116.locals=[1]∧fi116.results=[.tmp 2]:=⟨rfl,rfl,rfl⟩
theorem fi69_eq:gS.fn 116=some fi116:=by kernel_rfl
theorem st116 (a0:V):startFr fi116 [a0]={ps:=[(0,.val a0),(1,.any),(2,.any)],ts:=[],lc:=[]}:=rfl
def b116:Code:=mini (codeOf Try.f116)
def c116_2:Code:=.seq (codeN b116 5) .ret
theorem e116_2:evK gS fi116 c116_2 fr st k=opsR gS fi116 [ld 3 88 1 88,
 op1 4 (.build 88 #[]) 88,
 cal 5 102 [(.tmp 3),(.tmp 4)] [88,88] 4,
 asn 2 5 4] fr st (.seq .ret k):=evK_rs 1 rfl (by kernel_rfl)
def c116_0:Code:=.seq (codeN b116 2) c116_2
theorem e116_0:evK gS fi116 c116_0 fr st k=opsR gS fi116 [op1 1 (.box 88 (.tmp 0)) 0,
 qA 2 false 4] fr st (.seq c116_2 k):=evK_rs 0 rfl (by kernel_rfl)
theorem m116:mini fi116.body=c116_0:=by kernel_rfl
theorem c116 (v:Val)  (st:St):EvF gS 116 [v.enc] st=some (.ret (.bool (vsame v vzero)) none,st):=by
 refine EvF_start fi69_eq (fun x h=>by cases h) m116 ?_
 rw [st116]
 simp (config:={contextual:=true,maxSteps:=10000000,maxDischargeDepth:=6}) [-zil,-zit,-znl,-znt,ty4,ty88,eq88,H116,k102,e116_2,e116_0]
 all_goals try simp (config:={contextual:=true}) [-zil,-zit,-znl,-znt,vzero]
 all_goals first | done | grind | omega
theorem k116 (v_k:Int)(v_n:Int)(v_x:Nat)(v_s:List UInt8)(v_b:Bool)  (fr:Fr) (st:St):callStep gS (EvF gS) 116 [.agg [.int .i64 v_k,.int .i64 v_n,.float .f64 v_x,.str v_s,.bool v_b]] fr st=some (.ok (retE none (.bool (vsame (⟨v_k,v_n,v_x,v_s,v_b⟩:Val) vzero))) fr st) :=
 call_pure rfl fi69_eq rfl (fun st=>c116 (⟨v_k,v_n,v_x,v_s,v_b⟩:Val)  st) (by simp)
def fi126:FI:={body:=codeOf Try.f126,ntmps:=6,results:=[.tmp 2],pers:=[0,1,2],locals:=[1],pure:=true,marks:=[]}
theorem H126:fi126.marks=[]∧fi126.locals=[1]∧fi126.results=[.tmp 2]:=⟨rfl,rfl,rfl⟩
theorem fi73_eq:gS.fn 126=some fi126:=by kernel_rfl
theorem st126 (a0:V):startFr fi126 [a0]={ps:=[(0,.val a0),(1,.any),(2,.any)],ts:=[],lc:=[]}:=rfl
def b126:Code:=mini (codeOf Try.f126)
def c126_2:Code:=.seq (codeN b126 5) .ret
theorem e126_2:evK gS fi126 c126_2 fr st k=opsR gS fi126 [ld 3 88 1 88,
 op1 4 (.build 88 #[]) 88,
 cal 5 83 [(.tmp 3),(.tmp 4)] [88,88] 4,
 asn 2 5 4] fr st (.seq .ret k):=evK_rs 1 rfl (by kernel_rfl)
def c126_0:Code:=.seq (codeN b126 2) c126_2
theorem e126_0:evK gS fi126 c126_0 fr st k=opsR gS fi126 [op1 1 (.box 88 (.tmp 0)) 0,
 qA 2 false 4] fr st (.seq c126_2 k):=evK_rs 0 rfl (by kernel_rfl)
theorem m126:mini fi126.body=c126_0:=by kernel_rfl
theorem c126 (v:Val)  (st:St):EvF gS 126 [v.enc] st=some (.ret (.bool (vsame v vzero)) none,st):=by
 refine EvF_start fi73_eq (fun x h=>by cases h) m126 ?_
 rw [st126]
 simp (config:={contextual:=true,maxSteps:=10000000,maxDischargeDepth:=6}) [-zil,-zit,-znl,-znt,ty4,ty88,eq88,H126,k83,e126_2,e126_0]
 all_goals try simp (config:={contextual:=true}) [-zil,-zit,-znl,-znt,vzero]
 all_goals first | done | grind | omega
theorem k126 (v_k:Int)(v_n:Int)(v_x:Nat)(v_s:List UInt8)(v_b:Bool)  (fr:Fr) (st:St):callStep gS (EvF gS) 126 [.agg [.int .i64 v_k,.int .i64 v_n,.float .f64 v_x,.str v_s,.bool v_b]] fr st=some (.ok (retE none (.bool (vsame (⟨v_k,v_n,v_x,v_s,v_b⟩:Val) vzero))) fr st) :=
 call_pure rfl fi73_eq rfl (fun st=>c126 (⟨v_k,v_n,v_x,v_s,v_b⟩:Val)  st) (by simp)
def fi109:FI:={body:=codeOf Try.f109,ntmps:=18,results:=[.tmp 4],pers:=[0,1,4],locals:=[],pure:=true,marks:=[]}
theorem H109:fi109.marks=[]∧fi109.locals=[]∧fi109.results=[.tmp 4]:=⟨rfl,rfl,rfl⟩
theorem fi78_eq:gS.fn 109=some fi109:=by kernel_rfl
theorem st109 (a0 a1:V):startFr fi109 [a0,a1]={ps:=[(0,.val a0),(1,.val a1),(4,.any)],ts:=[],lc:=[]}:=rfl
def b109:Code:=mini (codeOf Try.f109)
def c109_2:Code:=.seq (codeN b109 5) .ret
theorem e109_2:evK gS fi109 c109_2 fr st k=opsR gS fi109 [mv 5 0 9,
 len1 6 5 9 3,
 mv 7 1 9,
 len1 8 7 9 3,
 bop 9 .geq 3 6 8 3 4,
 mv 10 9 4,
 qm 11 0 9 5 true,
 qm 12 1 9 5 true,
 qe 13 12 9 3 5 true,
 mk (some 14) (.slice 9 (.tmp 11) none (some (.tmp 13)) none) 9 (some (5,true)),
 qm 15 1 9 5 true,
 qb 16 .eql 9 14 15 9 4 5 true,
 qP 17 10 16 false 4,
 asn 4 17 4] fr st (.seq .ret k):=evK_rs 1 rfl (by kernel_rfl)
def c109_0:Code:=.seq (codeN b109 2) c109_2
theorem e109_0:evK gS fi109 c109_0 fr st k=opsR gS fi109 [qA 4 false 4] fr st (.seq c109_2 k):=evK_rs 0 rfl (by kernel_rfl)
theorem m109:mini fi109.body=c109_0:=by kernel_rfl
theorem c109 (s:List UInt8)(t:List UInt8)  (st:St):EvF gS 109 [.str s,.str t] st=some (.ret (.bool (isPre s t)) none,st):=by
 refine EvF_start fi78_eq (fun x h=>by cases h) m109 ?_
 rw [st109]
 simp (config:={contextual:=true,maxSteps:=10000000,maxDischargeDepth:=6}) [-zil,-zit,-znl,-znt,ty3,ty4,ty9,H109,e109_2,e109_0]
 all_goals try simp (config:={contextual:=true}) [-zil,-zit,-znl,-znt,isPre]
 all_goals first | done | grind | omega
theorem k109 (s:List UInt8)(t:List UInt8)  (fr:Fr) (st:St):callStep gS (EvF gS) 109 [.str s,.str t] fr st=some (.ok (retE none (.bool (isPre s t))) fr st) :=
 call_pure rfl fi78_eq rfl (fun st=>c109 s t  st) (by simp)
theorem x109:gS.ext 109=none:=rfl
theorem p109:fi109.pure=true:=rfl
end
end Go.Proofs.Ytdoobejjedpcgaa
namespace Go.Proofs.Ytdoobejjedpcgaa
open Go Go.Ab
noncomputable section
variable (fr:Fr)(st:St)(k:Kt)
def fi115:FI:={body:=codeOf Try.f115,ntmps:=28,results:=[.tmp 2],pers:=[0,2,3],locals:=[],pure:=true,marks:=[]}
theorem H115:fi115.marks=[]∧fi115.locals=[]∧fi115.results=[.tmp 2]:=⟨rfl,rfl,rfl⟩
theorem fi68_eq:gS.fn 115=some fi115:=by kernel_rfl
theorem st115 (a0:V):startFr fi115 [a0]={ps:=[(0,.val a0),(2,.any),(3,.any)],ts:=[],lc:=[]}:=rfl
def b115:Code:=mini (codeOf Try.f115)
def c115_10:Code:=.cond (.tmp 7) .skip (.exit 0)
def c115_8:Code:=.seq (codeN b115 133) c115_10
def c115_18:Code:=.seq (codeN b115 2341) .ret
def c115_17:Code:=.cond (.tmp 19) c115_18 .skip
def c115_15:Code:=.seq (codeN b115 549) c115_17
def c115_22:Code:=codeN b115 229
def c115_13:Code:=.seq (.block 1 c115_15) c115_22
def c115_7:Code:=.seq c115_8 c115_13
def c115_6:Code:=.loop c115_7
def c115_5:Code:=.block 0 c115_6
def c115_3:Code:=.seq (codeN b115 9) c115_5
def c115_23:Code:=.seq (codeN b115 11) .ret
def c115_2:Code:=.seq c115_3 c115_23
def c115_0:Code:=.seq (codeN b115 2) c115_2
theorem E115:evK gS fi115 c115_10 fr st k=condK gS fi115 (fr.op (.tmp 7)).bool? .skip (.exit 0) fr st k ∧
 (evK gS fi115 c115_8 fr st k=opsR gS fi115 [mv 4 3 3,
 mv 5 0 9,
 len1 6 5 9 3,
 bop 7 .lss 3 4 6 3 4] fr st (.seq c115_10 k)) ∧
 evK gS fi115 c115_18 fr st k=opsR gS fi115 [qA 2 false 4] fr st (.seq .ret k) ∧
 evK gS fi115 c115_17 fr st k=condK gS fi115 (fr.op (.tmp 19)).bool? c115_18 .skip fr st k ∧
 (evK gS fi115 c115_15 fr st k=opsR gS fi115 [mv 10 0 9,
 mv 11 3 3,
 op1 12 (.index 9 (.tmp 10) (.tmp 11)) 5,
 op1 13 (.binOp .lss 5 (.tmp 12) (.const (.int .u8 97)) 5) 4,
 mv 14 13 4,
 qm 15 0 9 4 false,
 qm 16 3 3 4 false,
 mk (some 17) (.index 9 (.tmp 15) (.tmp 16)) 5 (some (4,false)),
 mk (some 18) (.binOp .gtr 5 (.tmp 17) (.const (.int .u8 122)) 5) 4 (some (4,false)),
 qQ 19 14 true 18 4] fr st (.seq c115_17 k)) ∧
 (evK gS fi115 c115_22 fr st k=opsR gS fi115 [mv 8 3 3,
 qB 9 .add 3 8 1 3 3,
 asn 3 9 3] fr st k) ∧
 evK gS fi115 c115_13 fr st k=evK gS fi115 c115_15 fr st (.blk 1 (.seq c115_22 k)) ∧
 evK gS fi115 c115_7 fr st k=evK gS fi115 c115_8 fr st (.seq c115_13 k) ∧
 evK gS fi115 c115_5 fr st k=evK gS fi115 c115_6 fr st (.blk 0 k) ∧
 evK gS fi115 c115_3 fr st k=opsR gS fi115 [qI 3 0 3] fr st (.seq c115_5 k) ∧
 (evK gS fi115 c115_23 fr st k=opsR gS fi115 [mv 20 0 9,
 len1 21 20 9 3,
 qB 22 .geq 3 21 1 3 4,
 mv 23 22 4,
 qm 24 0 9 3 true,
 qe 25 24 9 3 3 true,
 qc 26 .leq 3 25 6 3 4 3 true,
 qP 27 23 26 false 4,
 asn 2 27 4] fr st (.seq .ret k)) ∧
 evK gS fi115 c115_2 fr st k=evK gS fi115 c115_3 fr st (.seq c115_23 k) ∧
 evK gS fi115 c115_0 fr st k=opsR gS fi115 [qA 2 false 4] fr st (.seq c115_2 k):=⟨rfl,evK_rs 2 rfl (by kernel_rfl),evK_rs 5 rfl (by kernel_rfl),rfl,evK_rs 4 rfl (by kernel_rfl),evK_r 3 (by kernel_rfl),rfl,rfl,rfl,evK_rs 1 rfl (by kernel_rfl),evK_rs 6 rfl (by kernel_rfl),rfl,evK_rs 0 rfl (by kernel_rfl)⟩
theorem m115:mini fi115.body=c115_0:=by kernel_rfl
theorem n115_6 (fr:Fr)(st:St)(k:Kt):nextK gS fi115 (.loop c115_7 k) .normal fr st=evK gS fi115 c115_6 fr st k:=rfl
theorem L115_6 (s:List UInt8)(h_s:s.length<4611686018427387904)(st:St):∀ (n i:Nat) (j:Int)  (e2:E) (T:List (Nat × E)) (X:List (Nat × List V)) (ht2:e2.Tame) ,j=(i:Int)→i≤(s).length→(s).length - i=n →
  evK gS fi115 c115_6 {ps:=[(0,.val (.str s)),(2,e2),(3,.val (.int .i64 j))],ts:=T,lc:=X} st (.blk 0 (.seq c115_23 .nil))=some ((.ret (.bool ((s.drop i).all (fun c=>!decide (c.toNat<97) && !decide (122<c.toNat)) && (decide (1≤s.length) && decide (s.length≤6)))) none),st):=by
 intro n
 induction n with
 | zero =>
  intro i j  e2 T X ht2  hj hi hn
  obtain rfl:i=(s).length:=by omega
  subst hj
  refine evK_loop c115_7 _ st _ _ rfl ?_
  simp (config:={contextual:=true,maxSteps:=10000000,maxDischargeDepth:=6}) [-zil,-zit,-znl,-znt,ty3,ty4,ty5,ty9,H115,E115,n115_6,ht2]
  all_goals first | done | grind | omega
 | succ n ih =>
  intro i j  e2 T X ht2  hj hi hn
  subst hj
  obtain ⟨x,hx⟩  := qgx (l:=(s)) (i:=i) (by omega)
  have hd:=drop_get hx
  have hlt:(i:Int)<((s).length:Int):=by omega
  have hlt2:i<(s).length:=by omega
  have hxe:(s)[i]'hlt2=x:=by rw [zge hlt2] at hx;exact Option.some.inj hx
  have hw:IntKind.wrap .i64 ((i:Int)+1)=(i:Int)+1:=wrap64 (by omega) (by omega)
  have IH:=fun e2 T X ht2=>ih (i+1) ((i:Int)+1) e2 T X ht2 rfl (by omega) (by omega)
  refine evK_loop c115_7 _ st _ _ rfl ?_
  simp (config:={contextual:=true,maxSteps:=10000000,maxDischargeDepth:=6}) [-zil,-zit,-znl,-znt,ty3,ty4,ty5,ty9,H115,E115,n115_6,ht2,hx,hxe,hd,hlt,hlt2,hw,IH]
  all_goals first | done | grind | omega
theorem c115 (s:List UInt8)(h_s:s.length<4611686018427387904)(st:St):EvF gS 115 [.str s] st=some (.ret (.bool (isWord s)) none,st):=by
 refine EvF_start fi68_eq (fun x h=>by cases h) m115 ?_
 rw [st115]
 simp (config:={contextual:=true,maxSteps:=10000000,maxDischargeDepth:=6}) [-zil,-zit,-znl,-znt,ty3,ty4,ty5,ty9,H115,E115,n115_6,(fun e2 T X ht2=>L115_6 s h_s st _ 0 0  e2 T X ht2 rfl (Nat.zero_le _) rfl)]
 all_goals try simp (config:={contextual:=true}) [-zil,-zit,-znl,-znt,isWord]
 all_goals first | done | grind | omega
theorem k115 (s:List UInt8)(h_s:s.length<4611686018427387904)(fr:Fr)(st:St):callStep gS (EvF gS) 115 [.str s] fr st=some (.ok (retE none (.bool (isWord s))) fr st) :=
 call_pure rfl fi68_eq rfl (fun st=>c115 s h_s st) (by simp)
def fi125:FI:={body:=codeOf Try.f125,ntmps:=28,results:=[.tmp 2],pers:=[0,2,3],locals:=[],pure:=true,marks:=[]}
theorem H125:fi125.marks=[]∧fi125.locals=[]∧fi125.results=[.tmp 2]:=⟨rfl,rfl,rfl⟩
theorem fi72_eq:gS.fn 125=some fi125:=by kernel_rfl
theorem st125 (a0:V):startFr fi125 [a0]={ps:=[(0,.val a0),(2,.any),(3,.any)],ts:=[],lc:=[]}:=rfl
def b125:Code:=mini (codeOf Try.f125)
def c125_10:Code:=.cond (.tmp 7) .skip (.exit 0)
def c125_8:Code:=.seq (codeN b125 133) c125_10
def c125_18:Code:=.seq (codeN b125 2341) .ret
def c125_17:Code:=.cond (.tmp 19) c125_18 .skip
def c125_15:Code:=.seq (codeN b125 549) c125_17
def c125_22:Code:=codeN b125 229
def c125_13:Code:=.seq (.block 1 c125_15) c125_22
def c125_7:Code:=.seq c125_8 c125_13
def c125_6:Code:=.loop c125_7
def c125_5:Code:=.block 0 c125_6
def c125_3:Code:=.seq (codeN b125 9) c125_5
def c125_23:Code:=.seq (codeN b125 11) .ret
def c125_2:Code:=.seq c125_3 c125_23
def c125_0:Code:=.seq (codeN b125 2) c125_2
theorem E125:evK gS fi125 c125_10 fr st k=condK gS fi125 (fr.op (.tmp 7)).bool? .skip (.exit 0) fr st k ∧
 (evK gS fi125 c125_8 fr st k=opsR gS fi125 [mv 4 3 3,
 mv 5 0 9,
 len1 6 5 9 3,
 bop 7 .lss 3 4 6 3 4] fr st (.seq c125_10 k)) ∧
 evK gS fi125 c125_18 fr st k=opsR gS fi125 [qA 2 false 4] fr st (.seq .ret k) ∧
 evK gS fi125 c125_17 fr st k=condK gS fi125 (fr.op (.tmp 19)).bool? c125_18 .skip fr st k ∧
 (evK gS fi125 c125_15 fr st k=opsR gS fi125 [mv 10 0 9,
 mv 11 3 3,
 op1 12 (.index 9 (.tmp 10) (.tmp 11)) 5,
 op1 13 (.binOp .lss 5 (.tmp 12) (.const (.int .u8 97)) 5) 4,
 mv 14 13 4,
 qm 15 0 9 4 false,
 qm 16 3 3 4 false,
 mk (some 17) (.index 9 (.tmp 15) (.tmp 16)) 5 (some (4,false)),
 mk (some 18) (.binOp .gtr 5 (.tmp 17) (.const (.int .u8 122)) 5) 4 (some (4,false)),
 qQ 19 14 true 18 4] fr st (.seq c125_17 k)) ∧
 (evK gS fi125 c125_22 fr st k=opsR gS fi125 [mv 8 3 3,
 qB 9 .add 3 8 1 3 3,
 asn 3 9 3] fr st k) ∧
 evK gS fi125 c125_13 fr st k=evK gS fi125 c125_15 fr st (.blk 1 (.seq c125_22 k)) ∧
 evK gS fi125 c125_7 fr st k=evK gS fi125 c125_8 fr st (.seq c125_13 k) ∧
 evK gS fi125 c125_5 fr st k=evK gS fi125 c125_6 fr st (.blk 0 k) ∧
 evK gS fi125 c125_3 fr st k=opsR gS fi125 [qI 3 0 3] fr st (.seq c125_5 k) ∧
 (evK gS fi125 c125_23 fr st k=opsR gS fi125 [mv 20 0 9,
 len1 21 20 9 3,
 qB 22 .geq 3 21 1 3 4,
 mv 23 22 4,
 qm 24 0 9 3 true,
 qe 25 24 9 3 3 true,
 qc 26 .leq 3 25 6 3 4 3 true,
 qP 27 23 26 false 4,
 asn 2 27 4] fr st (.seq .ret k)) ∧
 evK gS fi125 c125_2 fr st k=evK gS fi125 c125_3 fr st (.seq c125_23 k) ∧
 evK gS fi125 c125_0 fr st k=opsR gS fi125 [qA 2 false 4] fr st (.seq c125_2 k):=⟨rfl,evK_rs 2 rfl (by kernel_rfl),evK_rs 5 rfl (by kernel_rfl),rfl,evK_rs 4 rfl (by kernel_rfl),evK_r 3 (by kernel_rfl),rfl,rfl,rfl,evK_rs 1 rfl (by kernel_rfl),evK_rs 6 rfl (by kernel_rfl),rfl,evK_rs 0 rfl (by kernel_rfl)⟩
theorem m125:mini fi125.body=c125_0:=by kernel_rfl
theorem n125_6 (fr:Fr)(st:St)(k:Kt):nextK gS fi125 (.loop c125_7 k) .normal fr st=evK gS fi125 c125_6 fr st k:=rfl
theorem L125_6 (s:List UInt8)(h_s:s.length<4611686018427387904)(st:St):∀ (n i:Nat) (j:Int)  (e2:E) (T:List (Nat × E)) (X:List (Nat × List V)) (ht2:e2.Tame) ,j=(i:Int)→i≤(s).length→(s).length - i=n →
  evK gS fi125 c125_6 {ps:=[(0,.val (.str s)),(2,e2),(3,.val (.int .i64 j))],ts:=T,lc:=X} st (.blk 0 (.seq c125_23 .nil))=some ((.ret (.bool ((s.drop i).all (fun c=>!decide (c.toNat<97) && !decide (122<c.toNat)) && (decide (1≤s.length) && decide (s.length≤6)))) none),st):=by
 intro n
 induction n with
 | zero =>
  intro i j  e2 T X ht2  hj hi hn
  obtain rfl:i=(s).length:=by omega
  subst hj
  refine evK_loop c125_7 _ st _ _ rfl ?_
  simp (config:={contextual:=true,maxSteps:=10000000,maxDischargeDepth:=6}) [-zil,-zit,-znl,-znt,ty3,ty4,ty5,ty9,H125,E125,n125_6,ht2]
  all_goals first | done | grind | omega
 | succ n ih =>
  intro i j  e2 T X ht2  hj hi hn
  subst hj
  obtain ⟨x,hx⟩  := qgx (l:=(s)) (i:=i) (by omega)
  have hd:=drop_get hx
  have hlt:(i:Int)<((s).length:Int):=by omega
  have hlt2:i<(s).length:=by omega
  have hxe:(s)[i]'hlt2=x:=by rw [zge hlt2] at hx;exact Option.some.inj hx
  have hw:IntKind.wrap .i64 ((i:Int)+1)=(i:Int)+1:=wrap64 (by omega) (by omega)
  have IH:=fun e2 T X ht2=>ih (i+1) ((i:Int)+1) e2 T X ht2 rfl (by omega) (by omega)
  refine evK_loop c125_7 _ st _ _ rfl ?_
  simp (config:={contextual:=true,maxSteps:=10000000,maxDischargeDepth:=6}) [-zil,-zit,-znl,-znt,ty3,ty4,ty5,ty9,H125,E125,n125_6,ht2,hx,hxe,hd,hlt,hlt2,hw,IH]
  all_goals first | done | grind | omega
theorem c125 (s:List UInt8)(h_s:s.length<4611686018427387904)(st:St):EvF gS 125 [.str s] st=some (.ret (.bool (isWord s)) none,st):=by
 refine EvF_start fi72_eq (fun x h=>by cases h) m125 ?_
 rw [st125]
 simp (config:={contextual:=true,maxSteps:=10000000,maxDischargeDepth:=6}) [-zil,-zit,-znl,-znt,ty3,ty4,ty5,ty9,H125,E125,n125_6,(fun e2 T X ht2=>L125_6 s h_s st _ 0 0  e2 T X ht2 rfl (Nat.zero_le _) rfl)]
 all_goals try simp (config:={contextual:=true}) [-zil,-zit,-znl,-znt,isWord]
 all_goals first | done | grind | omega
theorem k125 (s:List UInt8)(h_s:s.length<4611686018427387904)(fr:Fr)(st:St):callStep gS (EvF gS) 125 [.str s] fr st=some (.ok (retE none (.bool (isWord s))) fr st) :=
 call_pure rfl fi72_eq rfl (fun st=>c125 s h_s st) (by simp)
def fi118:FI:={body:=codeOf Try.f118,ntmps:=15,results:=[.tmp 2],pers:=[0,2,4,5,6,7],locals:=[4],pure:=true,marks:=[]}
theorem H118:fi118.marks=[]∧fi118.locals=[4]∧fi118.results=[.tmp 2]:=⟨rfl,rfl,rfl⟩
theorem fi71_eq:gS.fn 118=some fi118:=by kernel_rfl
theorem st118 (a0:V):startFr fi118 [a0]={ps:=[(0,.val a0),(2,.any),(4,.any),(5,.any),(6,.any),(7,.any)],ts:=[],lc:=[]}:=rfl
def b118:Code:=mini (codeOf Try.f118)
def c118_20:Code:=.seq (codeN b118 9829) .ret
def c118_19:Code:=.cond (.tmp 13) c118_20 .skip
def c118_17:Code:=.seq (codeN b118 2661) c118_19
def c118_15:Code:=.seq (codeN b118 1125) c118_17
def c118_24:Code:=codeN b118 485
def c118_13:Code:=.seq (.block 1 c118_15) c118_24
def c118_9:Code:=.seq (.cond (.tmp 8) .skip (.exit 0)) c118_13
def c118_7:Code:=.seq (codeN b118 69) c118_9
def c118_6:Code:=.loop c118_7
def c118_5:Code:=.block 0 c118_6
def c118_3:Code:=.seq (codeN b118 9) c118_5
def c118_25:Code:=.seq (codeN b118 11) .ret
def c118_2:Code:=.seq c118_3 c118_25
def c118_0:Code:=.seq (codeN b118 2) c118_2
theorem E118:evK gS fi118 c118_20 fr st k=opsR gS fi118 [qA 2 false 4] fr st (.seq .ret k) ∧
 evK gS fi118 c118_19 fr st k=condK gS fi118 (fr.op (.tmp 13)).bool? c118_20 .skip fr st k ∧
 (evK gS fi118 c118_17 fr st k=opsR gS fi118 [ld 11 88 4 88,
 cal 12 117 [(.tmp 11)] [88] 4,
 op1 13 (.unOp .not 4 (.tmp 12)) 4] fr st (.seq c118_19 k)) ∧
 (evK gS fi118 c118_15 fr st k=opsR gS fi118 [ixa 9 89 5 7 0,
 ld 10 88 9 88,
 op1 4 (.alloc 88) 0,
 sto 88 4 10] fr st (.seq c118_17 k)) ∧
 (evK gS fi118 c118_24 fr st k=opsR gS fi118 [qB 14 .add 3 7 1 3 3,
 mv 7 14 3] fr st k) ∧
 evK gS fi118 c118_13 fr st k=evK gS fi118 c118_15 fr st (.blk 1 (.seq c118_24 k)) ∧
 evK gS fi118 c118_9 fr st k=condK gS fi118 (fr.op (.tmp 8)).bool? .skip (.exit 0) fr st (.seq c118_13 k) ∧
 evK gS fi118 c118_7 fr st k=opsR gS fi118 [bop 8 .lss 3 7 6 3 0] fr st (.seq c118_9 k) ∧
 evK gS fi118 c118_5 fr st k=evK gS fi118 c118_6 fr st (.blk 0 k) ∧
 (evK gS fi118 c118_3 fr st k=opsR gS fi118 [mv 5 0 89,
 len1 6 5 89 3,
 op1 7 (.move (.const (.int .i64 0))) 3] fr st (.seq c118_5 k)) ∧
 evK gS fi118 c118_25 fr st k=opsR gS fi118 [qA 2 true 4] fr st (.seq .ret k) ∧
 evK gS fi118 c118_2 fr st k=evK gS fi118 c118_3 fr st (.seq c118_25 k) ∧
 evK gS fi118 c118_0 fr st k=opsR gS fi118 [qA 2 false 4] fr st (.seq c118_2 k):=⟨evK_rs 5 rfl (by kernel_rfl),rfl,evK_rs 4 rfl (by kernel_rfl),evK_rs 3 rfl (by kernel_rfl),evK_r 6 (by kernel_rfl),rfl,rfl,evK_rs 2 rfl (by kernel_rfl),rfl,evK_rs 1 rfl (by kernel_rfl),evK_rs 7 rfl (by kernel_rfl),rfl,evK_rs 0 rfl (by kernel_rfl)⟩
theorem m118:mini fi118.body=c118_0:=by kernel_rfl
theorem n118_6 (fr:Fr)(st:St)(k:Kt):nextK gS fi118 (.loop c118_7 k) .normal fr st=evK gS fi118 c118_6 fr st k:=rfl
theorem L118_6 (l:List Val)(h_l:l.length<4611686018427387904)(st:St):∀ (n i:Nat) (j:Int)  (e0 e2 e4:E) (T:List (Nat × E)) (X:List (Nat × List V)) (ht0:e0.Tame) (ht2:e2.Tame) (ht4:e4.Tame) ,j=(i:Int)→i≤(l).length→(l).length - i=n →
  evK gS fi118 c118_6 {ps:=[(0,e0),(2,e2),(4,e4),(5,.val (.slice (encVals l))),(6,.val (.int .i64 l.length)),(7,.val (.int .i64 j))],ts:=T,lc:=X} st (.blk 0 (.seq c118_25 .nil))=some ((.ret (.bool ((l.drop i).all vright)) none),st):=by
 intro n
 induction n with
 | zero =>
  intro i j  e0 e2 e4 T X ht0 ht2 ht4  hj hi hn
  obtain rfl:i=(l).length:=by omega
  subst hj
  refine evK_loop c118_7 _ st _ _ rfl ?_
  simp (config:={contextual:=true,maxSteps:=10000000,maxDischargeDepth:=6}) [-zil,-zit,-znl,-znt,ty3,ty4,ty88,ty89,eq88,H118,k117,E118,n118_6,ht0,ht2,ht4]
  all_goals first | done | grind | omega
 | succ n ih =>
  intro i j  e0 e2 e4 T X ht0 ht2 ht4  hj hi hn
  subst hj
  obtain ⟨x,hx⟩  := qgx (l:=(l)) (i:=i) (by omega)
  have hd:=drop_get hx
  have hlt:(i:Int)<((l).length:Int):=by omega
  have hlt2:i<(l).length:=by omega
  have hxe:(l)[i]'hlt2=x:=by rw [zge hlt2] at hx;exact Option.some.inj hx
  have hw:IntKind.wrap .i64 ((i:Int)+1)=(i:Int)+1:=wrap64 (by omega) (by omega)
  have IH:=fun e0 e2 e4 T X ht0 ht2 ht4=>ih (i+1) ((i:Int)+1) e0 e2 e4 T X ht0 ht2 ht4 rfl (by omega) (by omega)
  refine evK_loop c118_7 _ st _ _ rfl ?_
  simp (config:={contextual:=true,maxSteps:=10000000,maxDischargeDepth:=6}) [-zil,-zit,-znl,-znt,ty3,ty4,ty88,ty89,eq88,H118,k117,E118,n118_6,ht0,ht2,ht4,hx,hxe,hd,hlt,hlt2,hw,IH]
  all_goals first | done | grind | omega
theorem c118 (l:List Val)(h_l:l.length<4611686018427387904)(st:St):EvF gS 118 [.slice (encVals l)] st=some (.ret (.bool (l.all vright)) none,st):=by
 refine EvF_start fi71_eq (fun x h=>by cases h) m118 ?_
 rw [st118]
 simp (config:={contextual:=true,maxSteps:=10000000,maxDischargeDepth:=6}) [-zil,-zit,-znl,-znt,ty3,ty4,ty88,ty89,eq88,H118,k117,E118,n118_6,(fun e0 e2 e4 T X ht0 ht2 ht4=>L118_6 l h_l st _ 0 0  e0 e2 e4 T X ht0 ht2 ht4 rfl (Nat.zero_le _) rfl)]
 all_goals first | done | grind | omega
theorem k118 (l:List Val)(h_l:l.length<4611686018427387904)(fr:Fr)(st:St):callStep gS (EvF gS) 118 [.slice (encVals l)] fr st=some (.ok (retE none (.bool (l.all vright))) fr st) :=
 call_pure rfl fi71_eq rfl (fun st=>c118 l h_l st) (by simp)
end
end Go.Proofs.Ytdoobejjedpcgaa
namespace Go.Proofs.Ytdoobejjedpcgaa
open Go Go.Ab
noncomputable section
variable (fr:Fr)(st:St)(k:Kt)
def fi97:FI:={body:=codeOf Try.f97,ntmps:=111,results:=[.tmp 2],pers:=[0,1,2,8,25],locals:=[1],pure:=true,marks:=[]}
theorem H97:fi97.marks=[]∧fi97.locals=[1]∧fi97.results=[.tmp 2]:=⟨rfl,rfl,rfl⟩
theorem fi19_eq:gS.fn 97=some fi97:=by kernel_rfl
theorem st97 (a0:V):startFr fi97 [a0]={ps:=[(0,.val a0),(1,.any),(2,.any),(8,.any),(25,.any)],ts:=[],lc:=[]}:=rfl
def b97:Code:=mini (codeOf Try.f97)
def c97_6:Code:=.seq (codeN b97 37) .ret
def c97_5:Code:=.cond (.tmp 6) c97_6 .skip
def c97_3:Code:=.seq (codeN b97 9) c97_5
def c97_17:Code:=.seq (codeN b97 299) .ret
def c97_41:Code:=codeN b97 524139
def c97_39:Code:=.cond (.tmp 25) .skip c97_41
def c97_37:Code:=.seq (codeN b97 196459) c97_39
def c97_35:Code:=.cond (.tmp 25) .skip c97_37
def c97_33:Code:=.seq (codeN b97 49003) c97_35
def c97_31:Code:=.cond (.tmp 25) .skip c97_33
def c97_29:Code:=.seq (codeN b97 12139) c97_31
def c97_27:Code:=.cond (.tmp 25) .skip c97_29
def c97_25:Code:=.seq (codeN b97 2923) c97_27
def c97_23:Code:=.cond (.tmp 25) .skip c97_25
def c97_21:Code:=.seq (codeN b97 619) c97_23
def c97_43:Code:=.seq (codeN b97 1259) .ret
def c97_49:Code:=.seq (codeN b97 5099) .ret
def c97_55:Code:=.seq (codeN b97 20459) .ret
def c97_61:Code:=.seq (codeN b97 81899) .ret
def c97_60:Code:=.cond (.tmp 84) c97_61 .skip
def c97_58:Code:=.seq (codeN b97 24555) c97_60
def c97_54:Code:=.cond (.tmp 62) c97_55 c97_58
def c97_52:Code:=.seq (codeN b97 6123) c97_54
def c97_48:Code:=.cond (.tmp 46) c97_49 c97_52
def c97_46:Code:=.seq (codeN b97 1515) c97_48
def c97_42:Code:=.cond (.tmp 25) c97_43 c97_46
def c97_20:Code:=.seq c97_21 c97_42
def c97_16:Code:=.cond (.tmp 9) c97_17 c97_20
def c97_14:Code:=.seq (codeN b97 75) c97_16
def c97_13:Code:=.block 0 c97_14
def c97_11:Code:=.seq (codeN b97 19) c97_13
def c97_65:Code:=.seq (codeN b97 23) .ret
def c97_10:Code:=.seq c97_11 c97_65
def c97_2:Code:=.seq c97_3 c97_10
def c97_0:Code:=.seq (codeN b97 2) c97_2
theorem E97:evK gS fi97 c97_6 fr st k=opsR gS fi97 [qA 2 false 4] fr st (.seq .ret k) ∧
 evK gS fi97 c97_5 fr st k=condK gS fi97 (fr.op (.tmp 6)).bool? c97_6 .skip fr st k ∧
 (evK gS fi97 c97_3 fr st k=opsR gS fi97 [qF 3 91 1 0 0,
 ld 4 9 3 9,
 cal 5 115 [(.tmp 4)] [9] 4,
 op1 6 (.unOp .not 4 (.tmp 5)) 4] fr st (.seq c97_5 k)) ∧
 (evK gS fi97 c97_17 fr st k=opsR gS fi97 [qF 11 91 1 2 0,
 ld 12 88 11 88,
 cal 13 116 [(.tmp 12)] [88] 4,
 mv 14 13 4,
 qf 15 91 1 3 0 3 true,
 ql 16 88 15 88 3 true,
 mk (some 17) (.call {callee:=(.value (.func 116)),args:=#[(.tmp 16)],argTypes:=#[88]}) 4 (some (3,true)),
 qP 18 14 17 false 4,
 mv 19 18 4,
 qf 20 91 1 4 0 8 true,
 ql 21 89 20 89 8 true,
 qe 22 21 89 3 8 true,
 qc 23 .eql 3 22 0 3 4 8 true,
 qP 24 19 23 false 4,
 asn 2 24 4] fr st (.seq .ret k)) ∧
 (evK gS fi97 c97_41 fr st k=opsR gS fi97 [qB 31 .eql 3 8 7 3 4,
 asn 25 31 4] fr st k) ∧
 evK gS fi97 c97_39 fr st k=condK gS fi97 (fr.op (.tmp 25)).bool? .skip c97_41 fr st k ∧
 (evK gS fi97 c97_37 fr st k=opsR gS fi97 [qB 30 .eql 3 8 6 3 4,
 asn 25 30 4] fr st (.seq c97_39 k)) ∧
 evK gS fi97 c97_35 fr st k=condK gS fi97 (fr.op (.tmp 25)).bool? .skip c97_37 fr st k ∧
 (evK gS fi97 c97_33 fr st k=opsR gS fi97 [qB 29 .eql 3 8 5 3 4,
 asn 25 29 4] fr st (.seq c97_35 k)) ∧
 evK gS fi97 c97_31 fr st k=condK gS fi97 (fr.op (.tmp 25)).bool? .skip c97_33 fr st k ∧
 (evK gS fi97 c97_29 fr st k=opsR gS fi97 [qB 28 .eql 3 8 4 3 4,
 asn 25 28 4] fr st (.seq c97_31 k)) ∧
 evK gS fi97 c97_27 fr st k=condK gS fi97 (fr.op (.tmp 25)).bool? .skip c97_29 fr st k ∧
 (evK gS fi97 c97_25 fr st k=opsR gS fi97 [qB 27 .eql 3 8 3 3 4,
 asn 25 27 4] fr st (.seq c97_27 k)) ∧
 evK gS fi97 c97_23 fr st k=condK gS fi97 (fr.op (.tmp 25)).bool? .skip c97_25 fr st k ∧
 (evK gS fi97 c97_21 fr st k=opsR gS fi97 [qB 26 .eql 3 8 2 3 4,
 asn 25 26 4] fr st (.seq c97_23 k)) ∧
 (evK gS fi97 c97_43 fr st k=opsR gS fi97 [qF 32 91 1 2 0,
 ld 33 88 32 88,
 cal 34 117 [(.tmp 33)] [88] 4,
 mv 35 34 4,
 qf 36 91 1 3 0 3 true,
 ql 37 88 36 88 3 true,
 mk (some 38) (.call {callee:=(.value (.func 116)),args:=#[(.tmp 37)],argTypes:=#[88]}) 4 (some (3,true)),
 qP 39 35 38 false 4,
 mv 40 39 4,
 qf 41 91 1 4 0 8 true,
 ql 42 89 41 89 8 true,
 qe 43 42 89 3 8 true,
 qc 44 .eql 3 43 0 3 4 8 true,
 qP 45 40 44 false 4,
 asn 2 45 4] fr st (.seq .ret k)) ∧
 (evK gS fi97 c97_49 fr st k=opsR gS fi97 [qF 48 91 1 2 0,
 ld 49 88 48 88,
 cal 50 117 [(.tmp 49)] [88] 4,
 mv 51 50 4,
 qf 52 91 1 3 0 3 true,
 ql 53 88 52 88 3 true,
 mk (some 54) (.call {callee:=(.value (.func 117)),args:=#[(.tmp 53)],argTypes:=#[88]}) 4 (some (3,true)),
 qP 55 51 54 false 4,
 mv 56 55 4,
 qf 57 91 1 4 0 8 true,
 ql 58 89 57 89 8 true,
 qe 59 58 89 3 8 true,
 qc 60 .eql 3 59 0 3 4 8 true,
 qP 61 56 60 false 4,
 asn 2 61 4] fr st (.seq .ret k)) ∧
 (evK gS fi97 c97_55 fr st k=opsR gS fi97 [qF 64 91 1 2 0,
 ld 65 88 64 88,
 cal 66 117 [(.tmp 65)] [88] 4,
 mv 67 66 4,
 qf 68 91 1 2 0 3 true,
 qf 69 88 68 0 0 3 true,
 ql 70 3 69 3 3 true,
 qc 71 .eql 3 70 3 3 4 3 true,
 qP 72 67 71 false 4,
 mv 73 72 4,
 qf 74 91 1 3 0 9 true,
 ql 75 88 74 88 9 true,
 mk (some 76) (.call {callee:=(.value (.func 116)),args:=#[(.tmp 75)],argTypes:=#[88]}) 4 (some (9,true)),
 qP 77 73 76 false 4,
 mv 78 77 4,
 qf 79 91 1 4 0 14 true,
 ql 80 89 79 89 14 true,
 qe 81 80 89 3 14 true,
 qc 82 .eql 3 81 0 3 4 14 true,
 qP 83 78 82 false 4,
 asn 2 83 4] fr st (.seq .ret k)) ∧
 (evK gS fi97 c97_61 fr st k=opsR gS fi97 [qF 86 91 1 2 0,
 ld 87 88 86 88,
 cal 88 116 [(.tmp 87)] [88] 4,
 mv 89 88 4,
 qf 90 91 1 3 0 3 true,
 ql 91 88 90 88 3 true,
 mk (some 92) (.call {callee:=(.value (.func 116)),args:=#[(.tmp 91)],argTypes:=#[88]}) 4 (some (3,true)),
 qP 93 89 92 false 4,
 mv 94 93 4,
 qf 95 91 1 4 0 8 true,
 ql 96 89 95 89 8 true,
 qe 97 96 89 3 8 true,
 qc 98 .geq 3 97 1 3 4 8 true,
 qP 99 94 98 false 4,
 mv 100 99 4,
 qf 101 91 1 4 0 14 true,
 ql 102 89 101 89 14 true,
 qe 103 102 89 3 14 true,
 qc 104 .leq 3 103 4 3 4 14 true,
 qP 105 100 104 false 4,
 mv 106 105 4,
 qf 107 91 1 4 0 20 true,
 ql 108 89 107 89 20 true,
 mk (some 109) (.call {callee:=(.value (.func 118)),args:=#[(.tmp 108)],argTypes:=#[89]}) 4 (some (20,true)),
 qP 110 106 109 false 4,
 asn 2 110 4] fr st (.seq .ret k)) ∧
 evK gS fi97 c97_60 fr st k=condK gS fi97 (fr.op (.tmp 84)).bool? c97_61 .skip fr st k ∧
 (evK gS fi97 c97_58 fr st k=opsR gS fi97 [qB 85 .eql 3 8 10 3 4,
 asn 84 85 4] fr st (.seq c97_60 k)) ∧
 evK gS fi97 c97_54 fr st k=condK gS fi97 (fr.op (.tmp 62)).bool? c97_55 c97_58 fr st k ∧
 (evK gS fi97 c97_52 fr st k=opsR gS fi97 [qB 63 .eql 3 8 9 3 4,
 asn 62 63 4] fr st (.seq c97_54 k)) ∧
 evK gS fi97 c97_48 fr st k=condK gS fi97 (fr.op (.tmp 46)).bool? c97_49 c97_52 fr st k ∧
 (evK gS fi97 c97_46 fr st k=opsR gS fi97 [qB 47 .eql 3 8 8 3 4,
 asn 46 47 4] fr st (.seq c97_48 k)) ∧
 evK gS fi97 c97_42 fr st k=condK gS fi97 (fr.op (.tmp 25)).bool? c97_43 c97_46 fr st k ∧
 evK gS fi97 c97_20 fr st k=evK gS fi97 c97_21 fr st (.seq c97_42 k) ∧
 evK gS fi97 c97_16 fr st k=condK gS fi97 (fr.op (.tmp 9)).bool? c97_17 c97_20 fr st k ∧
 (evK gS fi97 c97_14 fr st k=opsR gS fi97 [qB 10 .eql 3 8 1 3 4,
 asn 9 10 4] fr st (.seq c97_16 k)) ∧
 evK gS fi97 c97_13 fr st k=evK gS fi97 c97_14 fr st (.blk 0 k) ∧
 (evK gS fi97 c97_11 fr st k=opsR gS fi97 [qF 7 91 1 1 0,
 ld 8 3 7 3] fr st (.seq c97_13 k)) ∧
 evK gS fi97 c97_65 fr st k=opsR gS fi97 [qA 2 false 4] fr st (.seq .ret k) ∧
 evK gS fi97 c97_10 fr st k=evK gS fi97 c97_11 fr st (.seq c97_65 k) ∧
 evK gS fi97 c97_2 fr st k=evK gS fi97 c97_3 fr st (.seq c97_10 k) ∧
 (evK gS fi97 c97_0 fr st k=opsR gS fi97 [op1 1 (.box 91 (.tmp 0)) 0,
 qA 2 false 4] fr st (.seq c97_2 k)):=⟨evK_rs 2 rfl (by kernel_rfl),rfl,evK_rs 1 rfl (by kernel_rfl),evK_rs 5 rfl (by kernel_rfl),evK_r 11 (by kernel_rfl),rfl,evK_rs 10 rfl (by kernel_rfl),rfl,evK_rs 9 rfl (by kernel_rfl),rfl,evK_rs 8 rfl (by kernel_rfl),rfl,evK_rs 7 rfl (by kernel_rfl),rfl,evK_rs 6 rfl (by kernel_rfl),evK_rs 12 rfl (by kernel_rfl),evK_rs 14 rfl (by kernel_rfl),evK_rs 16 rfl (by kernel_rfl),evK_rs 18 rfl (by kernel_rfl),rfl,evK_rs 17 rfl (by kernel_rfl),rfl,evK_rs 15 rfl (by kernel_rfl),rfl,evK_rs 13 rfl (by kernel_rfl),rfl,rfl,rfl,evK_rs 4 rfl (by kernel_rfl),rfl,evK_rs 3 rfl (by kernel_rfl),evK_rs 19 rfl (by kernel_rfl),rfl,rfl,evK_rs 0 rfl (by kernel_rfl)⟩
theorem m97:mini fi97.body=c97_0:=by kernel_rfl
theorem c97 (p:Pred)  (h_p:Pred.ok p) (st:St):EvF gS 97 [p.enc] st=some (.ret (.bool (pright p)) none,st):=by
 refine EvF_start fi19_eq (fun x h=>by cases h) m97 ?_
 rw [st97]
 simp (config:={contextual:=true,maxSteps:=10000000,maxDischargeDepth:=6}) [-zil,-zit,-znl,-znt,ty3,ty4,ty9,ty88,ty89,ty91,eq88,H97,k115,k116,k117,k118,E97,h_p.1,h_p.2]
 all_goals try simp (config:={contextual:=true}) [-zil,-zit,-znl,-znt,pright]
 all_goals first | done | grind | omega
theorem k97 (p_name:List UInt8)(p_test:Int)(p_vk:Int)(p_vn:Int)(p_vx:Nat)(p_vs:List UInt8)(p_vb:Bool)(p_wk:Int)(p_wn:Int)(p_wx:Nat)(p_ws:List UInt8)(p_wb:Bool)(p_set:List Val)  (h_p:Pred.ok (⟨p_name,p_test,⟨p_vk,p_vn,p_vx,p_vs,p_vb⟩,⟨p_wk,p_wn,p_wx,p_ws,p_wb⟩,p_set⟩:Pred)) (fr:Fr) (st:St):callStep gS (EvF gS) 97 [.agg [.str p_name,.int .i64 p_test,.int .i64 p_vk,.int .i64 p_vn,.float .f64 p_vx,.str p_vs,.bool p_vb,.int .i64 p_wk,.int .i64 p_wn,.float .f64 p_wx,.str p_ws,.bool p_wb,.slice (encVals p_set)]] fr st=some (.ok (retE none (.bool (pright (⟨p_name,p_test,⟨p_vk,p_vn,p_vx,p_vs,p_vb⟩,⟨p_wk,p_wn,p_wx,p_ws,p_wb⟩,p_set⟩:Pred)))) fr st) :=
 call_pure rfl fi19_eq rfl (fun st=>c97 (⟨p_name,p_test,⟨p_vk,p_vn,p_vx,p_vs,p_vb⟩,⟨p_wk,p_wn,p_wx,p_ws,p_wb⟩,p_set⟩:Pred) h_p st) (by simp)
theorem x97:gS.ext 97=none:=rfl
theorem p97:fi97.pure=true:=rfl
def fi107:FI:={body:=codeOf Try.f107,ntmps:=121,results:=[.tmp 2],pers:=[0,1,2,3,9,26],locals:=[1],pure:=true,marks:=[]}
theorem H107:fi107.marks=[]∧fi107.locals=[1]∧fi107.results=[.tmp 2]:=⟨rfl,rfl,rfl⟩
theorem fi20_eq:gS.fn 107=some fi107:=by kernel_rfl
theorem st107 (a0:V):startFr fi107 [a0]={ps:=[(0,.val a0),(1,.any),(2,.any),(3,.any),(9,.any),(26,.any)],ts:=[],lc:=[]}:=rfl
def b107:Code:=mini (codeOf Try.f107)
def c107_6:Code:=.seq (codeN b107 37) .ret
def c107_5:Code:=.cond (.tmp 7) c107_6 .skip
def c107_3:Code:=.seq (codeN b107 9) c107_5
def c107_17:Code:=.seq (codeN b107 299) .ret
def c107_41:Code:=codeN b107 524139
def c107_39:Code:=.cond (.tmp 26) .skip c107_41
def c107_37:Code:=.seq (codeN b107 196459) c107_39
def c107_35:Code:=.cond (.tmp 26) .skip c107_37
def c107_33:Code:=.seq (codeN b107 49003) c107_35
def c107_31:Code:=.cond (.tmp 26) .skip c107_33
def c107_29:Code:=.seq (codeN b107 12139) c107_31
def c107_27:Code:=.cond (.tmp 26) .skip c107_29
def c107_25:Code:=.seq (codeN b107 2923) c107_27
def c107_23:Code:=.cond (.tmp 26) .skip c107_25
def c107_21:Code:=.seq (codeN b107 619) c107_23
def c107_43:Code:=.seq (codeN b107 1259) .ret
def c107_49:Code:=.seq (codeN b107 5099) .ret
def c107_55:Code:=.seq (codeN b107 20459) .ret
def c107_69:Code:=.cond (.tmp 91) .skip (.exit 1)
def c107_67:Code:=.seq (codeN b107 2179051) c107_69
def c107_77:Code:=.seq (codeN b107 38354923) .ret
def c107_76:Code:=.cond (.tmp 100) c107_77 .skip
def c107_74:Code:=.seq (codeN b107 8994795) c107_76
def c107_81:Code:=codeN b107 3751915
def c107_72:Code:=.seq (.block 2 c107_74) c107_81
def c107_66:Code:=.seq c107_67 c107_72
def c107_65:Code:=.loop c107_66
def c107_64:Code:=.block 1 c107_65
def c107_62:Code:=.seq (codeN b107 147435) c107_64
def c107_82:Code:=.seq (codeN b107 180203) .ret
def c107_61:Code:=.seq c107_62 c107_82
def c107_60:Code:=.cond (.tmp 85) c107_61 .skip
def c107_58:Code:=.seq (codeN b107 24555) c107_60
def c107_54:Code:=.cond (.tmp 63) c107_55 c107_58
def c107_52:Code:=.seq (codeN b107 6123) c107_54
def c107_48:Code:=.cond (.tmp 47) c107_49 c107_52
def c107_46:Code:=.seq (codeN b107 1515) c107_48
def c107_42:Code:=.cond (.tmp 26) c107_43 c107_46
def c107_20:Code:=.seq c107_21 c107_42
def c107_16:Code:=.cond (.tmp 10) c107_17 c107_20
def c107_14:Code:=.seq (codeN b107 75) c107_16
def c107_13:Code:=.block 0 c107_14
def c107_11:Code:=.seq (codeN b107 19) c107_13
def c107_86:Code:=.seq (codeN b107 23) .ret
def c107_10:Code:=.seq c107_11 c107_86
def c107_2:Code:=.seq c107_3 c107_10
def c107_0:Code:=.seq (codeN b107 2) c107_2
theorem E107:evK gS fi107 c107_6 fr st k=opsR gS fi107 [qA 2 false 4] fr st (.seq .ret k) ∧
 evK gS fi107 c107_5 fr st k=condK gS fi107 (fr.op (.tmp 7)).bool? c107_6 .skip fr st k ∧
 (evK gS fi107 c107_3 fr st k=opsR gS fi107 [qF 4 91 1 0 0,
 ld 5 9 4 9,
 cal 6 125 [(.tmp 5)] [9] 4,
 op1 7 (.unOp .not 4 (.tmp 6)) 4] fr st (.seq c107_5 k)) ∧
 (evK gS fi107 c107_17 fr st k=opsR gS fi107 [qF 12 91 1 2 0,
 ld 13 88 12 88,
 cal 14 126 [(.tmp 13)] [88] 4,
 mv 15 14 4,
 qf 16 91 1 3 0 3 true,
 ql 17 88 16 88 3 true,
 mk (some 18) (.call {callee:=(.value (.func 126)),args:=#[(.tmp 17)],argTypes:=#[88]}) 4 (some (3,true)),
 qP 19 15 18 false 4,
 mv 20 19 4,
 qf 21 91 1 4 0 8 true,
 ql 22 89 21 89 8 true,
 qe 23 22 89 3 8 true,
 qc 24 .eql 3 23 0 3 4 8 true,
 qP 25 20 24 false 4,
 asn 2 25 4] fr st (.seq .ret k)) ∧
 (evK gS fi107 c107_41 fr st k=opsR gS fi107 [qB 32 .eql 3 9 7 3 4,
 asn 26 32 4] fr st k) ∧
 evK gS fi107 c107_39 fr st k=condK gS fi107 (fr.op (.tmp 26)).bool? .skip c107_41 fr st k ∧
 (evK gS fi107 c107_37 fr st k=opsR gS fi107 [qB 31 .eql 3 9 6 3 4,
 asn 26 31 4] fr st (.seq c107_39 k)) ∧
 evK gS fi107 c107_35 fr st k=condK gS fi107 (fr.op (.tmp 26)).bool? .skip c107_37 fr st k ∧
 (evK gS fi107 c107_33 fr st k=opsR gS fi107 [qB 30 .eql 3 9 5 3 4,
 asn 26 30 4] fr st (.seq c107_35 k)) ∧
 evK gS fi107 c107_31 fr st k=condK gS fi107 (fr.op (.tmp 26)).bool? .skip c107_33 fr st k ∧
 (evK gS fi107 c107_29 fr st k=opsR gS fi107 [qB 29 .eql 3 9 4 3 4,
 asn 26 29 4] fr st (.seq c107_31 k)) ∧
 evK gS fi107 c107_27 fr st k=condK gS fi107 (fr.op (.tmp 26)).bool? .skip c107_29 fr st k ∧
 (evK gS fi107 c107_25 fr st k=opsR gS fi107 [qB 28 .eql 3 9 3 3 4,
 asn 26 28 4] fr st (.seq c107_27 k)) ∧
 evK gS fi107 c107_23 fr st k=condK gS fi107 (fr.op (.tmp 26)).bool? .skip c107_25 fr st k ∧
 (evK gS fi107 c107_21 fr st k=opsR gS fi107 [qB 27 .eql 3 9 2 3 4,
 asn 26 27 4] fr st (.seq c107_23 k)) ∧
 (evK gS fi107 c107_43 fr st k=opsR gS fi107 [qF 33 91 1 2 0,
 ld 34 88 33 88,
 cal 35 127 [(.tmp 34)] [88] 4,
 mv 36 35 4,
 qf 37 91 1 3 0 3 true,
 ql 38 88 37 88 3 true,
 mk (some 39) (.call {callee:=(.value (.func 126)),args:=#[(.tmp 38)],argTypes:=#[88]}) 4 (some (3,true)),
 qP 40 36 39 false 4,
 mv 41 40 4,
 qf 42 91 1 4 0 8 true,
 ql 43 89 42 89 8 true,
 qe 44 43 89 3 8 true,
 qc 45 .eql 3 44 0 3 4 8 true,
 qP 46 41 45 false 4,
 asn 2 46 4] fr st (.seq .ret k)) ∧
 (evK gS fi107 c107_49 fr st k=opsR gS fi107 [qF 49 91 1 2 0,
 ld 50 88 49 88,
 cal 51 127 [(.tmp 50)] [88] 4,
 mv 52 51 4,
 qf 53 91 1 3 0 3 true,
 ql 54 88 53 88 3 true,
 mk (some 55) (.call {callee:=(.value (.func 127)),args:=#[(.tmp 54)],argTypes:=#[88]}) 4 (some (3,true)),
 qP 56 52 55 false 4,
 mv 57 56 4,
 qf 58 91 1 4 0 8 true,
 ql 59 89 58 89 8 true,
 qe 60 59 89 3 8 true,
 qc 61 .eql 3 60 0 3 4 8 true,
 qP 62 57 61 false 4,
 asn 2 62 4] fr st (.seq .ret k)) ∧
 (evK gS fi107 c107_55 fr st k=opsR gS fi107 [qF 65 91 1 2 0,
 ld 66 88 65 88,
 cal 67 127 [(.tmp 66)] [88] 4,
 mv 68 67 4,
 qf 69 91 1 2 0 3 true,
 qf 70 88 69 0 0 3 true,
 ql 71 3 70 3 3 true,
 qc 72 .eql 3 71 3 3 4 3 true,
 qP 73 68 72 false 4,
 mv 74 73 4,
 qf 75 91 1 3 0 9 true,
 ql 76 88 75 88 9 true,
 mk (some 77) (.call {callee:=(.value (.func 126)),args:=#[(.tmp 76)],argTypes:=#[88]}) 4 (some (9,true)),
 qP 78 74 77 false 4,
 mv 79 78 4,
 qf 80 91 1 4 0 14 true,
 ql 81 89 80 89 14 true,
 qe 82 81 89 3 14 true,
 qc 83 .eql 3 82 0 3 4 14 true,
 qP 84 79 83 false 4,
 asn 2 84 4] fr st (.seq .ret k)) ∧
 evK gS fi107 c107_69 fr st k=condK gS fi107 (fr.op (.tmp 91)).bool? .skip (.exit 1) fr st k ∧
 (evK gS fi107 c107_67 fr st k=opsR gS fi107 [mv 87 3 3,
 qF 88 91 1 4 0,
 ld 89 89 88 89,
 len1 90 89 89 3,
 bop 91 .lss 3 87 90 3 4] fr st (.seq c107_69 k)) ∧
 evK gS fi107 c107_77 fr st k=opsR gS fi107 [qA 2 false 4] fr st (.seq .ret k) ∧
 evK gS fi107 c107_76 fr st k=condK gS fi107 (fr.op (.tmp 100)).bool? c107_77 .skip fr st k ∧
 (evK gS fi107 c107_74 fr st k=opsR gS fi107 [qF 94 91 1 4 0,
 ld 95 89 94 89,
 mv 96 3 3,
 ixa 97 89 95 96 0,
 ld 98 88 97 88,
 cal 99 127 [(.tmp 98)] [88] 4,
 op1 100 (.unOp .not 4 (.tmp 99)) 4] fr st (.seq c107_76 k)) ∧
 (evK gS fi107 c107_81 fr st k=opsR gS fi107 [mv 92 3 3,
 qB 93 .add 3 92 1 3 3,
 asn 3 93 3] fr st k) ∧
 evK gS fi107 c107_72 fr st k=evK gS fi107 c107_74 fr st (.blk 2 (.seq c107_81 k)) ∧
 evK gS fi107 c107_66 fr st k=evK gS fi107 c107_67 fr st (.seq c107_72 k) ∧
 evK gS fi107 c107_64 fr st k=evK gS fi107 c107_65 fr st (.blk 1 k) ∧
 evK gS fi107 c107_62 fr st k=opsR gS fi107 [qI 3 0 3] fr st (.seq c107_64 k) ∧
 (evK gS fi107 c107_82 fr st k=opsR gS fi107 [qF 101 91 1 2 0,
 ld 102 88 101 88,
 cal 103 126 [(.tmp 102)] [88] 4,
 mv 104 103 4,
 qf 105 91 1 3 0 3 true,
 ql 106 88 105 88 3 true,
 mk (some 107) (.call {callee:=(.value (.func 126)),args:=#[(.tmp 106)],argTypes:=#[88]}) 4 (some (3,true)),
 qP 108 104 107 false 4,
 mv 109 108 4,
 qf 110 91 1 4 0 8 true,
 ql 111 89 110 89 8 true,
 qe 112 111 89 3 8 true,
 qc 113 .geq 3 112 1 3 4 8 true,
 qP 114 109 113 false 4,
 mv 115 114 4,
 qf 116 91 1 4 0 14 true,
 ql 117 89 116 89 14 true,
 qe 118 117 89 3 14 true,
 qc 119 .leq 3 118 4 3 4 14 true,
 qP 120 115 119 false 4,
 asn 2 120 4] fr st (.seq .ret k)) ∧
 evK gS fi107 c107_61 fr st k=evK gS fi107 c107_62 fr st (.seq c107_82 k) ∧
 evK gS fi107 c107_60 fr st k=condK gS fi107 (fr.op (.tmp 85)).bool? c107_61 .skip fr st k ∧
 (evK gS fi107 c107_58 fr st k=opsR gS fi107 [qB 86 .eql 3 9 10 3 4,
 asn 85 86 4] fr st (.seq c107_60 k)) ∧
 evK gS fi107 c107_54 fr st k=condK gS fi107 (fr.op (.tmp 63)).bool? c107_55 c107_58 fr st k ∧
 (evK gS fi107 c107_52 fr st k=opsR gS fi107 [qB 64 .eql 3 9 9 3 4,
 asn 63 64 4] fr st (.seq c107_54 k)) ∧
 evK gS fi107 c107_48 fr st k=condK gS fi107 (fr.op (.tmp 47)).bool? c107_49 c107_52 fr st k ∧
 (evK gS fi107 c107_46 fr st k=opsR gS fi107 [qB 48 .eql 3 9 8 3 4,
 asn 47 48 4] fr st (.seq c107_48 k)) ∧
 evK gS fi107 c107_42 fr st k=condK gS fi107 (fr.op (.tmp 26)).bool? c107_43 c107_46 fr st k ∧
 evK gS fi107 c107_20 fr st k=evK gS fi107 c107_21 fr st (.seq c107_42 k) ∧
 evK gS fi107 c107_16 fr st k=condK gS fi107 (fr.op (.tmp 10)).bool? c107_17 c107_20 fr st k ∧
 (evK gS fi107 c107_14 fr st k=opsR gS fi107 [qB 11 .eql 3 9 1 3 4,
 asn 10 11 4] fr st (.seq c107_16 k)) ∧
 evK gS fi107 c107_13 fr st k=evK gS fi107 c107_14 fr st (.blk 0 k) ∧
 (evK gS fi107 c107_11 fr st k=opsR gS fi107 [qF 8 91 1 1 0,
 ld 9 3 8 3] fr st (.seq c107_13 k)) ∧
 evK gS fi107 c107_86 fr st k=opsR gS fi107 [qA 2 false 4] fr st (.seq .ret k) ∧
 evK gS fi107 c107_10 fr st k=evK gS fi107 c107_11 fr st (.seq c107_86 k) ∧
 evK gS fi107 c107_2 fr st k=evK gS fi107 c107_3 fr st (.seq c107_10 k) ∧
 (evK gS fi107 c107_0 fr st k=opsR gS fi107 [op1 1 (.box 91 (.tmp 0)) 0,
 qA 2 false 4] fr st (.seq c107_2 k)):=⟨evK_rs 2 rfl (by kernel_rfl),rfl,evK_rs 1 rfl (by kernel_rfl),evK_rs 5 rfl (by kernel_rfl),evK_r 11 (by kernel_rfl),rfl,evK_rs 10 rfl (by kernel_rfl),rfl,evK_rs 9 rfl (by kernel_rfl),rfl,evK_rs 8 rfl (by kernel_rfl),rfl,evK_rs 7 rfl (by kernel_rfl),rfl,evK_rs 6 rfl (by kernel_rfl),evK_rs 12 rfl (by kernel_rfl),evK_rs 14 rfl (by kernel_rfl),evK_rs 16 rfl (by kernel_rfl),rfl,evK_rs 19 rfl (by kernel_rfl),evK_rs 22 rfl (by kernel_rfl),rfl,evK_rs 21 rfl (by kernel_rfl),evK_r 20 (by kernel_rfl),rfl,rfl,rfl,evK_rs 18 rfl (by kernel_rfl),evK_rs 23 rfl (by kernel_rfl),rfl,rfl,evK_rs 17 rfl (by kernel_rfl),rfl,evK_rs 15 rfl (by kernel_rfl),rfl,evK_rs 13 rfl (by kernel_rfl),rfl,rfl,rfl,evK_rs 4 rfl (by kernel_rfl),rfl,evK_rs 3 rfl (by kernel_rfl),evK_rs 24 rfl (by kernel_rfl),rfl,rfl,evK_rs 0 rfl (by kernel_rfl)⟩
theorem m107:mini fi107.body=c107_0:=by kernel_rfl
theorem n107_65 (fr:Fr)(st:St)(k:Kt):nextK gS fi107 (.loop c107_66 k) .normal fr st=evK gS fi107 c107_65 fr st k:=rfl
theorem L107_65 (p:Pred)(h_p:p.ok)(st:St):∀ (n i:Nat) (j:Int)  (e0 e2 e9 e26:E) (T:List (Nat × E)) (X:List (Nat × List V)) (ht0:e0.Tame) (ht2:e2.Tame) (ht9:e9.Tame) (ht26:e26.Tame) (hx1:lk X 1=some [.str p.name,.int .i64 p.test,.int .i64 p.v.kind,.int .i64 p.v.n,.float .f64 p.v.x,.str p.v.s,.bool p.v.b,.int .i64 p.w.kind,.int .i64 p.w.n,.float .f64 p.w.x,.str p.w.s,.bool p.w.b,.slice (encVals p.set)]) ,j=(i:Int)→i≤(p.set).length→(p.set).length - i=n →
  evK gS fi107 c107_65 {ps:=[(0,e0),(1,.lp 1 0),(2,e2),(3,.val (.int .i64 j)),(9,e9),(26,e26)],ts:=T,lc:=X} st (.blk 1 (.seq c107_82 (.blk 0 (.seq c107_86 .nil))))=some ((.ret (.bool ((p.set.drop i).all vright && (vsame p.v vzero && vsame p.w vzero && 1≤p.set.length && p.set.length≤4))) none),st):=by
 intro n
 have hpo:=h_p.2
 induction n with
 | zero =>
  intro i j  e0 e2 e9 e26 T X ht0 ht2 ht9 ht26 hx1  hj hi hn
  obtain rfl:i=(p.set).length:=by omega
  subst hj
  refine evK_loop c107_66 _ st _ _ rfl ?_
  simp (config:={contextual:=true,maxSteps:=10000000,maxDischargeDepth:=6}) [-zil,-zit,-znl,-znt,ty3,ty4,ty9,ty88,ty89,ty91,eq88,H107,k125,k126,k127,E107,n107_65,h_p.1,h_p.2,ht0,ht2,ht9,ht26,hx1]
  all_goals first | done | grind | omega
 | succ n ih =>
  intro i j  e0 e2 e9 e26 T X ht0 ht2 ht9 ht26 hx1  hj hi hn
  subst hj
  obtain ⟨x,hx⟩  := qgx (l:=(p.set)) (i:=i) (by omega)
  have hd:=drop_get hx
  have hlt:(i:Int)<((p.set).length:Int):=by omega
  have hlt2:i<(p.set).length:=by omega
  have hxe:(p.set)[i]'hlt2=x:=by rw [zge hlt2] at hx;exact Option.some.inj hx
  have hw:IntKind.wrap .i64 ((i:Int)+1)=(i:Int)+1:=wrap64 (by omega) (by omega)
  have IH:=fun e0 e2 e9 e26 T X ht0 ht2 ht9 ht26 hx1=>ih (i+1) ((i:Int)+1) e0 e2 e9 e26 T X ht0 ht2 ht9 ht26 hx1 rfl (by omega) (by omega)
  refine evK_loop c107_66 _ st _ _ rfl ?_
  simp (config:={contextual:=true,maxSteps:=10000000,maxDischargeDepth:=6}) [-zil,-zit,-znl,-znt,ty3,ty4,ty9,ty88,ty89,ty91,eq88,H107,k125,k126,k127,E107,n107_65,h_p.1,h_p.2,ht0,ht2,ht9,ht26,hx1,hx,hxe,hd,hlt,hlt2,hw,IH]
  all_goals first | done | grind | omega
theorem c107 (p:Pred)  (h_p:Pred.ok p) (st:St):EvF gS 107 [p.enc] st=some (.ret (.bool (pright p)) none,st):=by
 refine EvF_start fi20_eq (fun x h=>by cases h) m107 ?_
 rw [st107]
 simp (config:={contextual:=true,maxSteps:=10000000,maxDischargeDepth:=6}) [-zil,-zit,-znl,-znt,ty3,ty4,ty9,ty88,ty89,ty91,eq88,H107,k125,k126,k127,E107,n107_65,(fun e0 e2 e9 e26 T X ht0 ht2 ht9 ht26 hx1=>L107_65 p h_p st _ 0 0  e0 e2 e9 e26 T X ht0 ht2 ht9 ht26 hx1 rfl (Nat.zero_le _) rfl),h_p.1,h_p.2]
 all_goals try simp (config:={contextual:=true}) [-zil,-zit,-znl,-znt,pright]
 all_goals first | done | grind | omega
theorem k107 (p_name:List UInt8)(p_test:Int)(p_vk:Int)(p_vn:Int)(p_vx:Nat)(p_vs:List UInt8)(p_vb:Bool)(p_wk:Int)(p_wn:Int)(p_wx:Nat)(p_ws:List UInt8)(p_wb:Bool)(p_set:List Val)  (h_p:Pred.ok (⟨p_name,p_test,⟨p_vk,p_vn,p_vx,p_vs,p_vb⟩,⟨p_wk,p_wn,p_wx,p_ws,p_wb⟩,p_set⟩:Pred)) (fr:Fr) (st:St):callStep gS (EvF gS) 107 [.agg [.str p_name,.int .i64 p_test,.int .i64 p_vk,.int .i64 p_vn,.float .f64 p_vx,.str p_vs,.bool p_vb,.int .i64 p_wk,.int .i64 p_wn,.float .f64 p_wx,.str p_ws,.bool p_wb,.slice (encVals p_set)]] fr st=some (.ok (retE none (.bool (pright (⟨p_name,p_test,⟨p_vk,p_vn,p_vx,p_vs,p_vb⟩,⟨p_wk,p_wn,p_wx,p_ws,p_wb⟩,p_set⟩:Pred)))) fr st) :=
 call_pure rfl fi20_eq rfl (fun st=>c107 (⟨p_name,p_test,⟨p_vk,p_vn,p_vx,p_vs,p_vb⟩,⟨p_wk,p_wn,p_wx,p_ws,p_wb⟩,p_set⟩:Pred) h_p st) (by simp)
theorem x107:gS.ext 107=none:=rfl
theorem p107:fi107.pure=true:=rfl
end
end Go.Proofs.Ytdoobejjedpcgaa
namespace Go.Proofs.Ytdoobejjedpcgaa
open Go Go.Ab
noncomputable section
variable (fr:Fr)(st:St)(k:Kt)
def fi80:FI:={body:=codeOf Try.f80,ntmps:=62,results:=[.tmp 4],pers:=[0,1,2,3,4,5,45,46],locals:=[2,3],pure:=true,marks:=[]}
theorem H80:fi80.marks=[]∧fi80.locals=[2,3]∧fi80.results=[.tmp 4]:=⟨rfl,rfl,rfl⟩
theorem fi25_eq:gS.fn 80=some fi80:=by kernel_rfl
theorem st80 (a0 a1:V):startFr fi80 [a0,a1]={ps:=[(0,.val a0),(1,.val a1),(2,.any),(3,.any),(4,.any),(5,.any),(45,.any),(46,.any)],ts:=[],lc:=[]}:=rfl
def b80:Code:=mini (codeOf Try.f80)
def c80_6:Code:=.seq (codeN b80 37) .ret
def c80_5:Code:=.cond (.tmp 42) c80_6 .skip
def c80_3:Code:=.seq (codeN b80 9) c80_5
def r80_26:Array Oper:=regOps (codeN (codeOf Try.f80) 5323)
def c80_26:Code:=.region 6 r80_26 true
def q80_26:List (Oper × Fl):=[(qF 49 91 2 4 0,qz0),
 (ld 50 89 49 89,qz0),
 (mv 51 5 3,qz0),
 (ixa 52 89 50 51 0,qz0),
 (ld 53 88 52 88,qz0),
 (qF 54 91 3 4 0,qz0),
 (ld 55 89 54 89,qz0),
 (mv 56 5 3,qz3),
 (ixa 57 89 55 56 0,qz3),
 (ld 58 88 57 88,qz3),
 (cal 59 102 [(.tmp 53),(.tmp 58)] [88,88] 4,qz4),
 (op1 60 (.unOp .not 4 (.tmp 59)) 4,qz3)]
def c80_28:Code:=.seq (codeN b80 19659) .ret
def c80_27:Code:=.cond (.tmp 60) c80_28 .skip
def c80_25:Code:=.seq c80_26 c80_27
def c80_23:Code:=.seq (codeN b80 2251) c80_25
def c80_32:Code:=codeN b80 971
def c80_21:Code:=.seq (.block 1 c80_23) c80_32
def c80_17:Code:=.seq (.cond (.tmp 47) .skip (.exit 0)) c80_21
def c80_15:Code:=.seq (codeN b80 139) c80_17
def c80_14:Code:=.loop c80_15
def c80_13:Code:=.block 0 c80_14
def c80_11:Code:=.seq (codeN b80 19) c80_13
def c80_33:Code:=.seq (codeN b80 23) .ret
def c80_10:Code:=.seq c80_11 c80_33
def c80_2:Code:=.seq c80_3 c80_10
def c80_0:Code:=.seq (codeN b80 2) c80_2
theorem E80:evK gS fi80 c80_6 fr st k=opsR gS fi80 [qA 4 false 4] fr st (.seq .ret k) ∧
 evK gS fi80 c80_5 fr st k=condK gS fi80 (fr.op (.tmp 42)).bool? c80_6 .skip fr st k ∧
 (evK gS fi80 c80_3 fr st k=opsR gS fi80 [qF 6 91 2 0 0,
 ld 7 9 6 9,
 qF 8 91 3 0 0,
 ld 9 9 8 9,
 bop 10 .neq 9 7 9 9 4,
 mv 11 10 4,
 qf 12 91 2 1 0 5 false,
 ql 13 3 12 3 5 false,
 qf 14 91 3 1 0 5 false,
 ql 15 3 14 3 5 false,
 qb 16 .neq 3 13 15 3 4 5 false,
 qQ 17 11 true 16 4,
 mv 18 17 4,
 qf 19 91 2 2 0 12 false,
 ql 20 88 19 88 12 false,
 qf 21 91 3 2 0 12 false,
 ql 22 88 21 88 12 false,
 mk (some 23) (.call {callee:=(.value (.func 102)),args:=#[(.tmp 20),(.tmp 22)],argTypes:=#[88,88]}) 4 (some (12,false)),
 mk (some 24) (.unOp .not 4 (.tmp 23)) 4 (some (12,false)),
 qQ 25 18 true 24 4,
 mv 26 25 4,
 qf 27 91 2 3 0 20 false,
 ql 28 88 27 88 20 false,
 qf 29 91 3 3 0 20 false,
 ql 30 88 29 88 20 false,
 mk (some 31) (.call {callee:=(.value (.func 102)),args:=#[(.tmp 28),(.tmp 30)],argTypes:=#[88,88]}) 4 (some (20,false)),
 mk (some 32) (.unOp .not 4 (.tmp 31)) 4 (some (20,false)),
 qQ 33 26 true 32 4,
 mv 34 33 4,
 qf 35 91 2 4 0 28 false,
 ql 36 89 35 89 28 false,
 qe 37 36 89 3 28 false,
 qf 38 91 3 4 0 28 false,
 ql 39 89 38 89 28 false,
 qe 40 39 89 3 28 false,
 qb 41 .neq 3 37 40 3 4 28 false,
 qQ 42 34 true 41 4] fr st (.seq c80_5 k)) ∧
 evK gS fi80 c80_26 fr st k=drwR gS fi80 r80_26 q80_26 fr st k ∧
 evK gS fi80 c80_28 fr st k=opsR gS fi80 [qA 4 false 4] fr st (.seq .ret k) ∧
 evK gS fi80 c80_27 fr st k=condK gS fi80 (fr.op (.tmp 60)).bool? c80_28 .skip fr st k ∧
 evK gS fi80 c80_25 fr st k=evK gS fi80 c80_26 fr st (.seq c80_27 k) ∧
 (evK gS fi80 c80_23 fr st k=opsR gS fi80 [mv 48 46 3,
 asn 5 48 3] fr st (.seq c80_25 k)) ∧
 (evK gS fi80 c80_32 fr st k=opsR gS fi80 [qB 61 .add 3 46 1 3 3,
 mv 46 61 3] fr st k) ∧
 evK gS fi80 c80_21 fr st k=evK gS fi80 c80_23 fr st (.blk 1 (.seq c80_32 k)) ∧
 evK gS fi80 c80_17 fr st k=condK gS fi80 (fr.op (.tmp 47)).bool? .skip (.exit 0) fr st (.seq c80_21 k) ∧
 evK gS fi80 c80_15 fr st k=opsR gS fi80 [bop 47 .lss 3 46 45 3 0] fr st (.seq c80_17 k) ∧
 evK gS fi80 c80_13 fr st k=evK gS fi80 c80_14 fr st (.blk 0 k) ∧
 (evK gS fi80 c80_11 fr st k=opsR gS fi80 [qF 43 91 2 4 0,
 ld 44 89 43 89,
 len1 45 44 89 3,
 op1 46 (.move (.const (.int .i64 0))) 3] fr st (.seq c80_13 k)) ∧
 evK gS fi80 c80_33 fr st k=opsR gS fi80 [qA 4 true 4] fr st (.seq .ret k) ∧
 evK gS fi80 c80_10 fr st k=evK gS fi80 c80_11 fr st (.seq c80_33 k) ∧
 evK gS fi80 c80_2 fr st k=evK gS fi80 c80_3 fr st (.seq c80_10 k) ∧
 (evK gS fi80 c80_0 fr st k=opsR gS fi80 [op1 2 (.box 91 (.tmp 0)) 0,
 op1 3 (.box 91 (.tmp 1)) 0,
 qA 4 false 4] fr st (.seq c80_2 k)):=⟨evK_rs 2 rfl (by kernel_rfl),rfl,evK_rs 1 rfl (by kernel_rfl),evK_dr 6 rfl (by kernel_rfl) (by kernel_rfl),evK_rs 7 rfl (by kernel_rfl),rfl,rfl,evK_rs 5 rfl (by kernel_rfl),evK_r 8 (by kernel_rfl),rfl,rfl,evK_rs 4 rfl (by kernel_rfl),rfl,evK_rs 3 rfl (by kernel_rfl),evK_rs 9 rfl (by kernel_rfl),rfl,rfl,evK_rs 0 rfl (by kernel_rfl)⟩
theorem m80:mini fi80.body=c80_0:=by kernel_rfl
theorem n80_14 (fr:Fr)(st:St)(k:Kt):nextK gS fi80 (.loop c80_15 k) .normal fr st=evK gS fi80 c80_14 fr st k:=rfl
theorem L80_14 (a:Pred)(b:Pred)(h_a:a.ok)(st:St):∀ (n i:Nat) (j:Int) (m:Int) (e0 e1 e4 e5:E) (T:List (Nat × E)) (X:List (Nat × List V)) (ht0:e0.Tame) (ht1:e1.Tame) (ht4:e4.Tame) (ht5:e5.Tame) (hx2:lk X 2=some [.str a.name,.int .i64 a.test,.int .i64 a.v.kind,.int .i64 a.v.n,.float .f64 a.v.x,.str a.v.s,.bool a.v.b,.int .i64 a.w.kind,.int .i64 a.w.n,.float .f64 a.w.x,.str a.w.s,.bool a.w.b,.slice (encVals a.set)]) (hx3:lk X 3=some [.str b.name,.int .i64 b.test,.int .i64 b.v.kind,.int .i64 b.v.n,.float .f64 b.v.x,.str b.v.s,.bool b.v.b,.int .i64 b.w.kind,.int .i64 b.w.n,.float .f64 b.w.x,.str b.w.s,.bool b.w.b,.slice (encVals b.set)]) (hlen:a.set.length=b.set.length) (hm45:m=((a.set.length:Nat):Int)),j=(i:Int)→i≤(a.set).length→(a.set).length - i=n →
  evK gS fi80 c80_14 {ps:=[(0,e0),(1,e1),(2,.lp 2 0),(3,.lp 3 0),(4,e4),(5,e5),(45,.val (.int .i64 m)),(46,.val (.int .i64 j))],ts:=T,lc:=X} st (.blk 0 (.seq c80_33 .nil))=some ((.ret (.bool (sames (a.set.drop i) (b.set.drop i))) none),st):=by
 intro n
 have hao:=h_a.2
 induction n with
 | zero =>
  intro i j m e0 e1 e4 e5 T X ht0 ht1 ht4 ht5 hx2 hx3 hlen hm45 hj hi hn
  obtain rfl:i=(a.set).length:=by omega
  subst hj
  subst hm45
  have hz:b.set.drop a.set.length=[]:=List.drop_eq_nil_of_le (by omega)
  refine evK_loop c80_15 _ st _ _ rfl ?_
  simp (config:={contextual:=true,maxSteps:=10000000,maxDischargeDepth:=6}) [-zil,-zit,-znl,-znt,ty3,ty4,ty9,ty88,ty89,ty91,eq88,H80,k102,x102,fi81_eq,p102,E80,q80_26,n80_14,ht0,ht1,ht4,ht5,hx2,hx3,hz]
  all_goals try simp (config:={contextual:=true}) [-zil,-zit,-znl,-znt,sames]
  all_goals first | done | grind | omega
 | succ n ih =>
  intro i j m e0 e1 e4 e5 T X ht0 ht1 ht4 ht5 hx2 hx3 hlen hm45 hj hi hn
  subst hj
  obtain ⟨x,hx⟩  := qgx (l:=(a.set)) (i:=i) (by omega)
  have hd:=drop_get hx
  have hlt:(i:Int)<((a.set).length:Int):=by omega
  have hlt2:i<(a.set).length:=by omega
  have hxe:(a.set)[i]'hlt2=x:=by rw [zge hlt2] at hx;exact Option.some.inj hx
  have hw:IntKind.wrap .i64 ((i:Int)+1)=(i:Int)+1:=wrap64 (by omega) (by omega)
  subst hm45
  obtain ⟨y,hy⟩:∃ y,(b.set)[i]?=some y:=⟨(b.set)[i]'(by omega),zge (by omega)⟩
  have hyd:=drop_get hy
  have hyl:i<(b.set).length:=by omega
  have hye:(b.set)[i]'hyl=y:=by rw [zge hyl] at hy;exact Option.some.inj hy
  have IH:=fun m e0 e1 e4 e5 T X ht0 ht1 ht4 ht5 hx2 hx3 hlen hm45=>ih (i+1) ((i:Int)+1) m e0 e1 e4 e5 T X ht0 ht1 ht4 ht5 hx2 hx3 hlen hm45 rfl (by omega) (by omega)
  refine evK_loop c80_15 _ st _ _ rfl ?_
  simp (config:={contextual:=true,maxSteps:=10000000,maxDischargeDepth:=6}) [-zil,-zit,-znl,-znt,ty3,ty4,ty9,ty88,ty89,ty91,eq88,H80,k102,x102,fi81_eq,p102,E80,q80_26,n80_14,ht0,ht1,ht4,ht5,hx2,hx3,hx,hxe,hd,hlt,hlt2,hw,IH,hy,hye,hyd,hlen]
  all_goals try simp (config:={contextual:=true}) [-zil,-zit,-znl,-znt,sames]
  all_goals first | done | grind | omega
theorem c80 (a:Pred)(b:Pred)  (h_a:Pred.ok a) (h_b:Pred.ok b) (st:St):EvF gS 80 [a.enc,b.enc] st=some (.ret (.bool (psame a b)) none,st):=by
 refine EvF_start fi25_eq (fun x h=>by cases h) m80 ?_
 rw [st80]
 simp (config:={contextual:=true,maxSteps:=10000000,maxDischargeDepth:=6}) [-zil,-zit,-znl,-znt,ty3,ty4,ty9,ty88,ty89,ty91,eq88,H80,k102,x102,fi81_eq,p102,E80,q80_26,n80_14,(fun m e0 e1 e4 e5 T X ht0 ht1 ht4 ht5 hx2 hx3 hlen hm45=>L80_14 a b h_a st _ 0 0  m e0 e1 e4 e5 T X ht0 ht1 ht4 ht5 hx2 hx3 hlen hm45 rfl (Nat.zero_le _) rfl),h_a.1,h_a.2,h_b.1,h_b.2]
 all_goals try simp (config:={contextual:=true}) [-zil,-zit,-znl,-znt,psame,sames_ne]
 all_goals first | done | grind | omega
theorem k80 (a_name:List UInt8)(a_test:Int)(a_vk:Int)(a_vn:Int)(a_vx:Nat)(a_vs:List UInt8)(a_vb:Bool)(a_wk:Int)(a_wn:Int)(a_wx:Nat)(a_ws:List UInt8)(a_wb:Bool)(a_set:List Val)(b_name:List UInt8)(b_test:Int)(b_vk:Int)(b_vn:Int)(b_vx:Nat)(b_vs:List UInt8)(b_vb:Bool)(b_wk:Int)(b_wn:Int)(b_wx:Nat)(b_ws:List UInt8)(b_wb:Bool)(b_set:List Val)  (h_a:Pred.ok (⟨a_name,a_test,⟨a_vk,a_vn,a_vx,a_vs,a_vb⟩,⟨a_wk,a_wn,a_wx,a_ws,a_wb⟩,a_set⟩:Pred)) (h_b:Pred.ok (⟨b_name,b_test,⟨b_vk,b_vn,b_vx,b_vs,b_vb⟩,⟨b_wk,b_wn,b_wx,b_ws,b_wb⟩,b_set⟩:Pred)) (fr:Fr) (st:St):callStep gS (EvF gS) 80 [.agg [.str a_name,.int .i64 a_test,.int .i64 a_vk,.int .i64 a_vn,.float .f64 a_vx,.str a_vs,.bool a_vb,.int .i64 a_wk,.int .i64 a_wn,.float .f64 a_wx,.str a_ws,.bool a_wb,.slice (encVals a_set)],.agg [.str b_name,.int .i64 b_test,.int .i64 b_vk,.int .i64 b_vn,.float .f64 b_vx,.str b_vs,.bool b_vb,.int .i64 b_wk,.int .i64 b_wn,.float .f64 b_wx,.str b_ws,.bool b_wb,.slice (encVals b_set)]] fr st=some (.ok (retE none (.bool (psame (⟨a_name,a_test,⟨a_vk,a_vn,a_vx,a_vs,a_vb⟩,⟨a_wk,a_wn,a_wx,a_ws,a_wb⟩,a_set⟩:Pred) (⟨b_name,b_test,⟨b_vk,b_vn,b_vx,b_vs,b_vb⟩,⟨b_wk,b_wn,b_wx,b_ws,b_wb⟩,b_set⟩:Pred)))) fr st) :=
 call_pure rfl fi25_eq rfl (fun st=>c80 (⟨a_name,a_test,⟨a_vk,a_vn,a_vx,a_vs,a_vb⟩,⟨a_wk,a_wn,a_wx,a_ws,a_wb⟩,a_set⟩:Pred) (⟨b_name,b_test,⟨b_vk,b_vn,b_vx,b_vs,b_vb⟩,⟨b_wk,b_wn,b_wx,b_ws,b_wb⟩,b_set⟩:Pred) h_a h_b st) (by simp)
theorem x80:gS.ext 80=none:=rfl
theorem p80:fi80.pure=true:=rfl
def fi84:FI:={body:=codeOf Try.f84,ntmps:=27,results:=[.tmp 4],pers:=[0,1,4,5],locals:=[],pure:=true,marks:=[]}
theorem H84:fi84.marks=[]∧fi84.locals=[]∧fi84.results=[.tmp 4]:=⟨rfl,rfl,rfl⟩
theorem fi83_eq:gS.fn 84=some fi84:=by kernel_rfl
theorem st84 (a0 a1:V):startFr fi84 [a0,a1]={ps:=[(0,.val a0),(1,.val a1),(4,.any),(5,.any)],ts:=[],lc:=[]}:=rfl
def b84:Code:=mini (codeOf Try.f84)
def c84_6:Code:=.seq (codeN b84 37) .ret
def c84_5:Code:=.cond (.tmp 10) c84_6 .skip
def c84_3:Code:=.seq (codeN b84 9) c84_5
def c84_18:Code:=.cond (.tmp 14) .skip (.exit 0)
def c84_16:Code:=.seq (codeN b84 267) c84_18
def r84_24:Array Oper:=regOps (codeN (codeOf Try.f84) 1099)
def c84_24:Code:=.region 6 r84_24 true
def q84_24:List (Oper × Fl):=[(mv 17 0 89,qz0),
 (mv 18 5 3,qz0),
 (ixa 19 89 17 18 0,qz0),
 (ld 20 88 19 88,qz0),
 (mv 21 1 89,qz0),
 (mv 22 5 3,qz3),
 (ixa 23 89 21 22 0,qz3),
 (ld 24 88 23 88,qz3),
 (cal 25 83 [(.tmp 20),(.tmp 24)] [88,88] 4,qz4),
 (op1 26 (.unOp .not 4 (.tmp 25)) 4,qz1)]
def c84_26:Code:=.seq (codeN b84 4683) .ret
def c84_25:Code:=.cond (.tmp 26) c84_26 .skip
def c84_23:Code:=.seq c84_24 c84_25
def c84_30:Code:=codeN b84 459
def c84_21:Code:=.seq (.block 1 c84_23) c84_30
def c84_15:Code:=.seq c84_16 c84_21
def c84_14:Code:=.loop c84_15
def c84_13:Code:=.block 0 c84_14
def c84_11:Code:=.seq (codeN b84 19) c84_13
def c84_31:Code:=.seq (codeN b84 23) .ret
def c84_10:Code:=.seq c84_11 c84_31
def c84_2:Code:=.seq c84_3 c84_10
def c84_0:Code:=.seq (codeN b84 2) c84_2
theorem E84:evK gS fi84 c84_6 fr st k=opsR gS fi84 [qA 4 false 4] fr st (.seq .ret k) ∧
 evK gS fi84 c84_5 fr st k=condK gS fi84 (fr.op (.tmp 10)).bool? c84_6 .skip fr st k ∧
 (evK gS fi84 c84_3 fr st k=opsR gS fi84 [mv 6 0 89,
 len1 7 6 89 3,
 mv 8 1 89,
 len1 9 8 89 3,
 bop 10 .neq 3 7 9 3 4] fr st (.seq c84_5 k)) ∧
 evK gS fi84 c84_18 fr st k=condK gS fi84 (fr.op (.tmp 14)).bool? .skip (.exit 0) fr st k ∧
 (evK gS fi84 c84_16 fr st k=opsR gS fi84 [mv 11 5 3,
 mv 12 0 89,
 len1 13 12 89 3,
 bop 14 .lss 3 11 13 3 4] fr st (.seq c84_18 k)) ∧
 evK gS fi84 c84_24 fr st k=drwR gS fi84 r84_24 q84_24 fr st k ∧
 evK gS fi84 c84_26 fr st k=opsR gS fi84 [qA 4 false 4] fr st (.seq .ret k) ∧
 evK gS fi84 c84_25 fr st k=condK gS fi84 (fr.op (.tmp 26)).bool? c84_26 .skip fr st k ∧
 evK gS fi84 c84_23 fr st k=evK gS fi84 c84_24 fr st (.seq c84_25 k) ∧
 (evK gS fi84 c84_30 fr st k=opsR gS fi84 [mv 15 5 3,
 qB 16 .add 3 15 1 3 3,
 asn 5 16 3] fr st k) ∧
 evK gS fi84 c84_21 fr st k=evK gS fi84 c84_23 fr st (.blk 1 (.seq c84_30 k)) ∧
 evK gS fi84 c84_15 fr st k=evK gS fi84 c84_16 fr st (.seq c84_21 k) ∧
 evK gS fi84 c84_13 fr st k=evK gS fi84 c84_14 fr st (.blk 0 k) ∧
 evK gS fi84 c84_11 fr st k=opsR gS fi84 [qI 5 0 3] fr st (.seq c84_13 k) ∧
 evK gS fi84 c84_31 fr st k=opsR gS fi84 [qA 4 true 4] fr st (.seq .ret k) ∧
 evK gS fi84 c84_10 fr st k=evK gS fi84 c84_11 fr st (.seq c84_31 k) ∧
 evK gS fi84 c84_2 fr st k=evK gS fi84 c84_3 fr st (.seq c84_10 k) ∧
 evK gS fi84 c84_0 fr st k=opsR gS fi84 [qA 4 false 4] fr st (.seq c84_2 k):=⟨evK_rs 2 rfl (by kernel_rfl),rfl,evK_rs 1 rfl (by kernel_rfl),rfl,evK_rs 4 rfl (by kernel_rfl),evK_dr 6 rfl (by kernel_rfl) (by kernel_rfl),evK_rs 7 rfl (by kernel_rfl),rfl,rfl,evK_r 5 (by kernel_rfl),rfl,rfl,rfl,evK_rs 3 rfl (by kernel_rfl),evK_rs 8 rfl (by kernel_rfl),rfl,rfl,evK_rs 0 rfl (by kernel_rfl)⟩
theorem m84:mini fi84.body=c84_0:=by kernel_rfl
theorem n84_14 (fr:Fr)(st:St)(k:Kt):nextK gS fi84 (.loop c84_15 k) .normal fr st=evK gS fi84 c84_14 fr st k:=rfl
theorem L84_14 (a:List Val)(b:List Val)(h_a:a.length<4611686018427387904)(st:St):∀ (n i:Nat) (j:Int)  (e4:E) (T:List (Nat × E)) (X:List (Nat × List V)) (ht4:e4.Tame) (hlen:a.length=b.length),j=(i:Int)→i≤(a).length→(a).length - i=n →
  evK gS fi84 c84_14 {ps:=[(0,.val (.slice (encVals a))),(1,.val (.slice (encVals b))),(4,e4),(5,.val (.int .i64 j))],ts:=T,lc:=X} st (.blk 0 (.seq c84_31 .nil))=some ((.ret (.bool (sames (a.drop i) (b.drop i))) none),st):=by
 intro n
 induction n with
 | zero =>
  intro i j  e4 T X ht4 hlen hj hi hn
  obtain rfl:i=(a).length:=by omega
  subst hj
  have hz:b.drop a.length=[]:=List.drop_eq_nil_of_le (by omega)
  refine evK_loop c84_15 _ st _ _ rfl ?_
  simp (config:={contextual:=true,maxSteps:=10000000,maxDischargeDepth:=6}) [-zil,-zit,-znl,-znt,ty3,ty4,ty88,ty89,eq88,H84,k83,x83,fi82_eq,p83,E84,q84_24,n84_14,ht4,hz]
  all_goals try simp (config:={contextual:=true}) [-zil,-zit,-znl,-znt,sames]
  all_goals first | done | grind | omega
 | succ n ih =>
  intro i j  e4 T X ht4 hlen hj hi hn
  subst hj
  obtain ⟨x,hx⟩  := qgx (l:=(a)) (i:=i) (by omega)
  have hd:=drop_get hx
  have hlt:(i:Int)<((a).length:Int):=by omega
  have hlt2:i<(a).length:=by omega
  have hxe:(a)[i]'hlt2=x:=by rw [zge hlt2] at hx;exact Option.some.inj hx
  have hw:IntKind.wrap .i64 ((i:Int)+1)=(i:Int)+1:=wrap64 (by omega) (by omega)
  obtain ⟨y,hy⟩:∃ y,(b)[i]?=some y:=⟨(b)[i]'(by omega),zge (by omega)⟩
  have hyd:=drop_get hy
  have hyl:i<(b).length:=by omega
  have hye:(b)[i]'hyl=y:=by rw [zge hyl] at hy;exact Option.some.inj hy
  have IH:=fun e4 T X ht4 hlen=>ih (i+1) ((i:Int)+1) e4 T X ht4 hlen rfl (by omega) (by omega)
  refine evK_loop c84_15 _ st _ _ rfl ?_
  simp (config:={contextual:=true,maxSteps:=10000000,maxDischargeDepth:=6}) [-zil,-zit,-znl,-znt,ty3,ty4,ty88,ty89,eq88,H84,k83,x83,fi82_eq,p83,E84,q84_24,n84_14,ht4,hx,hxe,hd,hlt,hlt2,hw,IH,hy,hye,hyd,hlen]
  all_goals try simp (config:={contextual:=true}) [-zil,-zit,-znl,-znt,sames]
  all_goals first | done | grind | omega
theorem c84 (a:List Val)(b:List Val)  (h_a:a.length<4611686018427387904) (h_b:b.length<4611686018427387904) (st:St):EvF gS 84 [.slice (encVals a),.slice (encVals b)] st=some (.ret (.bool (sames a b)) none,st):=by
 refine EvF_start fi83_eq (fun x h=>by cases h) m84 ?_
 rw [st84]
 simp (config:={contextual:=true,maxSteps:=10000000,maxDischargeDepth:=6}) [-zil,-zit,-znl,-znt,ty3,ty4,ty88,ty89,eq88,H84,k83,x83,fi82_eq,p83,E84,q84_24,n84_14,(fun e4 T X ht4 hlen=>L84_14 a b h_a st _ 0 0  e4 T X ht4 hlen rfl (Nat.zero_le _) rfl),h_a,h_b]
 all_goals try simp (config:={contextual:=true}) [-zil,-zit,-znl,-znt,sames_ne]
 all_goals first | done | grind | omega
theorem k84 (a:List Val)(b:List Val)  (h_a:a.length<4611686018427387904) (h_b:b.length<4611686018427387904) (fr:Fr) (st:St):callStep gS (EvF gS) 84 [.slice (encVals a),.slice (encVals b)] fr st=some (.ok (retE none (.bool (sames a b))) fr st) :=
 call_pure rfl fi83_eq rfl (fun st=>c84 a b h_a h_b st) (by simp)
def fi54:FI:={body:=codeOf Try.f54,ntmps:=38,results:=[.tmp 4],pers:=[0,1,2,3,4],locals:=[2,3],pure:=true,marks:=[]}
theorem H54:fi54.marks=[]∧fi54.locals=[2,3]∧fi54.results=[.tmp 4]:=⟨rfl,rfl,rfl⟩
theorem fi26_eq:gS.fn 54=some fi54:=by kernel_rfl
theorem st54 (a0 a1:V):startFr fi54 [a0,a1]={ps:=[(0,.val a0),(1,.val a1),(2,.any),(3,.any),(4,.any)],ts:=[],lc:=[]}:=rfl
def b54:Code:=mini (codeOf Try.f54)
def c54_2:Code:=.seq (codeN b54 5) .ret
theorem e54_2:evK gS fi54 c54_2 fr st k=opsR gS fi54 [qF 5 91 2 0 0,
 ld 6 9 5 9,
 qF 7 91 3 0 0,
 ld 8 9 7 9,
 bop 9 .eql 9 6 8 9 4,
 mv 10 9 4,
 qf 11 91 2 1 0 5 true,
 ql 12 3 11 3 5 true,
 qf 13 91 3 1 0 5 true,
 ql 14 3 13 3 5 true,
 qb 15 .eql 3 12 14 3 4 5 true,
 qP 16 10 15 false 4,
 mv 17 16 4,
 qf 18 91 2 2 0 12 true,
 ql 19 88 18 88 12 true,
 qf 20 91 3 2 0 12 true,
 ql 21 88 20 88 12 true,
 mk (some 22) (.call {callee:=(.value (.func 83)),args:=#[(.tmp 19),(.tmp 21)],argTypes:=#[88,88]}) 4 (some (12,true)),
 qP 23 17 22 false 4,
 mv 24 23 4,
 qf 25 91 2 3 0 19 true,
 ql 26 88 25 88 19 true,
 qf 27 91 3 3 0 19 true,
 ql 28 88 27 88 19 true,
 mk (some 29) (.call {callee:=(.value (.func 83)),args:=#[(.tmp 26),(.tmp 28)],argTypes:=#[88,88]}) 4 (some (19,true)),
 qP 30 24 29 false 4,
 mv 31 30 4,
 qf 32 91 2 4 0 26 true,
 ql 33 89 32 89 26 true,
 qf 34 91 3 4 0 26 true,
 ql 35 89 34 89 26 true,
 mk (some 36) (.call {callee:=(.value (.func 84)),args:=#[(.tmp 33),(.tmp 35)],argTypes:=#[89,89]}) 4 (some (26,true)),
 qP 37 31 36 false 4,
 asn 4 37 4] fr st (.seq .ret k):=evK_rs 1 rfl (by kernel_rfl)
def c54_0:Code:=.seq (codeN b54 2) c54_2
theorem e54_0:evK gS fi54 c54_0 fr st k=opsR gS fi54 [op1 2 (.box 91 (.tmp 0)) 0,
 op1 3 (.box 91 (.tmp 1)) 0,
 qA 4 false 4] fr st (.seq c54_2 k):=evK_rs 0 rfl (by kernel_rfl)
theorem m54:mini fi54.body=c54_0:=by kernel_rfl
theorem c54 (a:Pred)(b:Pred)  (h_a:Pred.ok a) (h_b:Pred.ok b) (st:St):EvF gS 54 [a.enc,b.enc] st=some (.ret (.bool (psame a b)) none,st):=by
 refine EvF_start fi26_eq (fun x h=>by cases h) m54 ?_
 rw [st54]
 simp (config:={contextual:=true,maxSteps:=10000000,maxDischargeDepth:=6}) [-zil,-zit,-znl,-znt,ty3,ty4,ty9,ty88,ty89,ty91,eq88,H54,k83,k84,e54_2,e54_0,h_a.1,h_a.2,h_b.1,h_b.2]
 all_goals try simp (config:={contextual:=true}) [-zil,-zit,-znl,-znt,psame]
 all_goals first | done | grind | omega
theorem k54 (a_name:List UInt8)(a_test:Int)(a_vk:Int)(a_vn:Int)(a_vx:Nat)(a_vs:List UInt8)(a_vb:Bool)(a_wk:Int)(a_wn:Int)(a_wx:Nat)(a_ws:List UInt8)(a_wb:Bool)(a_set:List Val)(b_name:List UInt8)(b_test:Int)(b_vk:Int)(b_vn:Int)(b_vx:Nat)(b_vs:List UInt8)(b_vb:Bool)(b_wk:Int)(b_wn:Int)(b_wx:Nat)(b_ws:List UInt8)(b_wb:Bool)(b_set:List Val)  (h_a:Pred.ok (⟨a_name,a_test,⟨a_vk,a_vn,a_vx,a_vs,a_vb⟩,⟨a_wk,a_wn,a_wx,a_ws,a_wb⟩,a_set⟩:Pred)) (h_b:Pred.ok (⟨b_name,b_test,⟨b_vk,b_vn,b_vx,b_vs,b_vb⟩,⟨b_wk,b_wn,b_wx,b_ws,b_wb⟩,b_set⟩:Pred)) (fr:Fr) (st:St):callStep gS (EvF gS) 54 [.agg [.str a_name,.int .i64 a_test,.int .i64 a_vk,.int .i64 a_vn,.float .f64 a_vx,.str a_vs,.bool a_vb,.int .i64 a_wk,.int .i64 a_wn,.float .f64 a_wx,.str a_ws,.bool a_wb,.slice (encVals a_set)],.agg [.str b_name,.int .i64 b_test,.int .i64 b_vk,.int .i64 b_vn,.float .f64 b_vx,.str b_vs,.bool b_vb,.int .i64 b_wk,.int .i64 b_wn,.float .f64 b_wx,.str b_ws,.bool b_wb,.slice (encVals b_set)]] fr st=some (.ok (retE none (.bool (psame (⟨a_name,a_test,⟨a_vk,a_vn,a_vx,a_vs,a_vb⟩,⟨a_wk,a_wn,a_wx,a_ws,a_wb⟩,a_set⟩:Pred) (⟨b_name,b_test,⟨b_vk,b_vn,b_vx,b_vs,b_vb⟩,⟨b_wk,b_wn,b_wx,b_ws,b_wb⟩,b_set⟩:Pred)))) fr st) :=
 call_pure rfl fi26_eq rfl (fun st=>c54 (⟨a_name,a_test,⟨a_vk,a_vn,a_vx,a_vs,a_vb⟩,⟨a_wk,a_wn,a_wx,a_ws,a_wb⟩,a_set⟩:Pred) (⟨b_name,b_test,⟨b_vk,b_vn,b_vx,b_vs,b_vb⟩,⟨b_wk,b_wn,b_wx,b_ws,b_wb⟩,b_set⟩:Pred) h_a h_b st) (by simp)
theorem x54:gS.ext 54=none:=rfl
theorem p54:fi54.pure=true:=rfl
def fi87:FI:={body:=codeOf Try.f87,ntmps:=115,results:=[.tmp 4],pers:=[0,1,2,3,4,5,6,7,8,9,21],locals:=[2,3],pure:=true,marks:=[]}
theorem H87:fi87.marks=[]∧fi87.locals=[2,3]∧fi87.results=[.tmp 4]:=⟨rfl,rfl,rfl⟩
theorem fi22_eq:gS.fn 87=some fi87:=by kernel_rfl
theorem st87 (a0 a1:V):startFr fi87 [a0,a1]={ps:=[(0,.val a0),(1,.val a1),(2,.any),(3,.any),(4,.any),(5,.any),(6,.any),(7,.any),(8,.any),(9,.any),(21,.any)],ts:=[],lc:=[]}:=rfl
def b87:Code:=mini (codeOf Try.f87)
def c87_6:Code:=.seq (codeN b87 37) .ret
def c87_5:Code:=.cond (.tmp 12) c87_6 .skip
def c87_3:Code:=.seq (codeN b87 9) c87_5
def c87_19:Code:=.seq (codeN b87 599) .ret
def c87_25:Code:=.seq (codeN b87 2519) .ret
def c87_31:Code:=.seq (codeN b87 10199) .ret
def c87_37:Code:=.seq (codeN b87 40919) .ret
def c87_43:Code:=.seq (codeN b87 163799) .ret
def c87_49:Code:=.seq (codeN b87 655319) .ret
def c87_55:Code:=.seq (codeN b87 2621399) .ret
def c87_63:Code:=.seq (codeN b87 23068631) .ret
def c87_61:Code:=.seq (codeN b87 10485719) c87_63
def c87_69:Code:=.seq (codeN b87 41942999) .ret
def c87_68:Code:=.cond (.tmp 88) c87_69 .skip
def c87_66:Code:=.seq (codeN b87 12582871) c87_68
def c87_60:Code:=.cond (.tmp 67) c87_61 c87_66
def c87_58:Code:=.seq (codeN b87 3145687) c87_60
def c87_54:Code:=.cond (.tmp 60) c87_55 c87_58
def c87_52:Code:=.seq (codeN b87 786391) c87_54
def c87_48:Code:=.cond (.tmp 53) c87_49 c87_52
def c87_46:Code:=.seq (codeN b87 196567) c87_48
def c87_42:Code:=.cond (.tmp 46) c87_43 c87_46
def c87_40:Code:=.seq (codeN b87 49111) c87_42
def c87_36:Code:=.cond (.tmp 39) c87_37 c87_40
def c87_34:Code:=.seq (codeN b87 12247) c87_36
def c87_30:Code:=.cond (.tmp 31) c87_31 c87_34
def c87_28:Code:=.seq (codeN b87 3031) c87_30
def c87_24:Code:=.cond (.tmp 24) c87_25 c87_28
def c87_22:Code:=.seq (codeN b87 727) c87_24
def c87_18:Code:=.cond (.tmp 22) c87_19 c87_22
def c87_16:Code:=.seq (codeN b87 151) c87_18
def c87_15:Code:=.block 0 c87_16
def c87_13:Code:=.seq (codeN b87 39) c87_15
def c87_81:Code:=.cond (.tmp 105) .skip (.exit 1)
def c87_79:Code:=.seq (codeN b87 1071) c87_81
def r87_87:Array Oper:=regOps (codeN (codeOf Try.f87) 4399)
def c87_87:Code:=.region 27 r87_87 true
def q87_87:List (Oper × Fl):=[(ld 108 88 3 88,qz0),
 (qF 109 91 2 4 0,qz0),
 (ld 110 89 109 89,qz0),
 (mv 111 9 3,qz3),
 (ixa 112 89 110 111 0,qz3),
 (ld 113 88 112 88,qz3),
 (cal 114 110 [(.tmp 108),(.tmp 113)] [88,88] 4,qz4)]
def c87_89:Code:=.seq (codeN b87 18735) .ret
def c87_88:Code:=.cond (.tmp 114) c87_89 .skip
def c87_86:Code:=.seq c87_87 c87_88
def c87_93:Code:=codeN b87 1839
def c87_84:Code:=.seq (.block 2 c87_86) c87_93
def c87_78:Code:=.seq c87_79 c87_84
def c87_77:Code:=.loop c87_78
def c87_76:Code:=.block 1 c87_77
def c87_74:Code:=.seq (codeN b87 79) c87_76
def c87_94:Code:=.seq (codeN b87 95) .ret
def c87_73:Code:=.seq c87_74 c87_94
def c87_12:Code:=.seq c87_13 c87_73
def c87_10:Code:=.seq (codeN b87 11) c87_12
def c87_2:Code:=.seq c87_3 c87_10
def c87_0:Code:=.seq (codeN b87 2) c87_2
theorem E87:evK gS fi87 c87_6 fr st k=opsR gS fi87 [qA 4 false 4] fr st (.seq .ret k) ∧
 evK gS fi87 c87_5 fr st k=condK gS fi87 (fr.op (.tmp 12)).bool? c87_6 .skip fr st k ∧
 (evK gS fi87 c87_3 fr st k=opsR gS fi87 [ld 10 91 2 91,
 cal 11 107 [(.tmp 10)] [91] 4,
 op1 12 (.unOp .not 4 (.tmp 11)) 4] fr st (.seq c87_5 k)) ∧
 evK gS fi87 c87_19 fr st k=opsR gS fi87 [qA 4 true 4] fr st (.seq .ret k) ∧
 (evK gS fi87 c87_25 fr st k=opsR gS fi87 [mv 26 6 4,
 mv 27 26 4,
 qm 28 5 3 1 true,
 qc 29 .eql 3 28 0 3 4 1 true,
 qP 30 27 29 false 4,
 asn 4 30 4] fr st (.seq .ret k)) ∧
 (evK gS fi87 c87_31 fr st k=opsR gS fi87 [mv 33 6 4,
 op1 34 (.unOp .not 4 (.tmp 33)) 4,
 mv 35 34 4,
 qm 36 5 3 2 false,
 qc 37 .neq 3 36 0 3 4 2 false,
 qQ 38 35 true 37 4,
 asn 4 38 4] fr st (.seq .ret k)) ∧
 (evK gS fi87 c87_37 fr st k=opsR gS fi87 [mv 41 6 4,
 mv 42 41 4,
 qm 43 5 3 1 true,
 qc 44 .lss 3 43 0 3 4 1 true,
 qP 45 42 44 false 4,
 asn 4 45 4] fr st (.seq .ret k)) ∧
 (evK gS fi87 c87_43 fr st k=opsR gS fi87 [mv 48 6 4,
 mv 49 48 4,
 qm 50 5 3 1 true,
 qc 51 .leq 3 50 0 3 4 1 true,
 qP 52 49 51 false 4,
 asn 4 52 4] fr st (.seq .ret k)) ∧
 (evK gS fi87 c87_49 fr st k=opsR gS fi87 [mv 55 6 4,
 mv 56 55 4,
 qm 57 5 3 1 true,
 qc 58 .gtr 3 57 0 3 4 1 true,
 qP 59 56 58 false 4,
 asn 4 59 4] fr st (.seq .ret k)) ∧
 (evK gS fi87 c87_55 fr st k=opsR gS fi87 [mv 62 6 4,
 mv 63 62 4,
 qm 64 5 3 1 true,
 qc 65 .geq 3 64 0 3 4 1 true,
 qP 66 63 65 false 4,
 asn 4 66 4] fr st (.seq .ret k)) ∧
 (evK gS fi87 c87_63 fr st k=opsR gS fi87 [mv 76 6 4,
 mv 77 76 4,
 qm 78 8 4 1 true,
 qP 79 77 78 false 4,
 mv 80 79 4,
 qm 81 5 3 4 true,
 qc 82 .geq 3 81 0 3 4 4 true,
 qP 83 80 82 false 4,
 mv 84 83 4,
 qm 85 7 3 8 true,
 qc 86 .leq 3 85 0 3 4 8 true,
 qP 87 84 86 false 4,
 asn 4 87 4] fr st (.seq .ret k)) ∧
 (evK gS fi87 c87_61 fr st k=opsR gS fi87 [ld 70 88 3 88,
 qF 71 91 2 3 0,
 ld 72 88 71 88,
 cal 73 108 [(.tmp 70),(.tmp 72)] [88,88] 125,
 mv 69 73 125,
 op1 74 (.extract (.tmp 69) 0) 3,
 op1 75 (.extract (.tmp 69) 1) 4,
 asn 7 74 3,
 asn 8 75 4] fr st (.seq c87_63 k)) ∧
 (evK gS fi87 c87_69 fr st k=opsR gS fi87 [qF 90 88 3 0 0,
 ld 91 3 90 3,
 qB 92 .eql 3 91 3 3 4,
 mv 93 92 4,
 qf 94 88 3 3 0 3 true,
 ql 95 9 94 9 3 true,
 qf 96 91 2 2 0 3 true,
 qf 97 88 96 3 0 3 true,
 ql 98 9 97 9 3 true,
 mk (some 99) (.call {callee:=(.value (.func 109)),args:=#[(.tmp 95),(.tmp 98)],argTypes:=#[9,9]}) 4 (some (3,true)),
 qP 100 93 99 false 4,
 asn 4 100 4] fr st (.seq .ret k)) ∧
 evK gS fi87 c87_68 fr st k=condK gS fi87 (fr.op (.tmp 88)).bool? c87_69 .skip fr st k ∧
 (evK gS fi87 c87_66 fr st k=opsR gS fi87 [qB 89 .eql 3 21 9 3 4,
 asn 88 89 4] fr st (.seq c87_68 k)) ∧
 evK gS fi87 c87_60 fr st k=condK gS fi87 (fr.op (.tmp 67)).bool? c87_61 c87_66 fr st k ∧
 (evK gS fi87 c87_58 fr st k=opsR gS fi87 [qB 68 .eql 3 21 8 3 4,
 asn 67 68 4] fr st (.seq c87_60 k)) ∧
 evK gS fi87 c87_54 fr st k=condK gS fi87 (fr.op (.tmp 60)).bool? c87_55 c87_58 fr st k ∧
 (evK gS fi87 c87_52 fr st k=opsR gS fi87 [qB 61 .eql 3 21 7 3 4,
 asn 60 61 4] fr st (.seq c87_54 k)) ∧
 evK gS fi87 c87_48 fr st k=condK gS fi87 (fr.op (.tmp 53)).bool? c87_49 c87_52 fr st k ∧
 (evK gS fi87 c87_46 fr st k=opsR gS fi87 [qB 54 .eql 3 21 6 3 4,
 asn 53 54 4] fr st (.seq c87_48 k)) ∧
 evK gS fi87 c87_42 fr st k=condK gS fi87 (fr.op (.tmp 46)).bool? c87_43 c87_46 fr st k ∧
 (evK gS fi87 c87_40 fr st k=opsR gS fi87 [qB 47 .eql 3 21 5 3 4,
 asn 46 47 4] fr st (.seq c87_42 k)) ∧
 evK gS fi87 c87_36 fr st k=condK gS fi87 (fr.op (.tmp 39)).bool? c87_37 c87_40 fr st k ∧
 (evK gS fi87 c87_34 fr st k=opsR gS fi87 [qB 40 .eql 3 21 4 3 4,
 asn 39 40 4] fr st (.seq c87_36 k)) ∧
 evK gS fi87 c87_30 fr st k=condK gS fi87 (fr.op (.tmp 31)).bool? c87_31 c87_34 fr st k ∧
 (evK gS fi87 c87_28 fr st k=opsR gS fi87 [qB 32 .eql 3 21 3 3 4,
 asn 31 32 4] fr st (.seq c87_30 k)) ∧
 evK gS fi87 c87_24 fr st k=condK gS fi87 (fr.op (.tmp 24)).bool? c87_25 c87_28 fr st k ∧
 (evK gS fi87 c87_22 fr st k=opsR gS fi87 [qB 25 .eql 3 21 2 3 4,
 asn 24 25 4] fr st (.seq c87_24 k)) ∧
 evK gS fi87 c87_18 fr st k=condK gS fi87 (fr.op (.tmp 22)).bool? c87_19 c87_22 fr st k ∧
 (evK gS fi87 c87_16 fr st k=opsR gS fi87 [qB 23 .eql 3 21 1 3 4,
 asn 22 23 4] fr st (.seq c87_18 k)) ∧
 evK gS fi87 c87_15 fr st k=evK gS fi87 c87_16 fr st (.blk 0 k) ∧
 (evK gS fi87 c87_13 fr st k=opsR gS fi87 [qF 20 91 2 1 0,
 ld 21 3 20 3] fr st (.seq c87_15 k)) ∧
 evK gS fi87 c87_81 fr st k=condK gS fi87 (fr.op (.tmp 105)).bool? .skip (.exit 1) fr st k ∧
 (evK gS fi87 c87_79 fr st k=opsR gS fi87 [mv 101 9 3,
 qF 102 91 2 4 0,
 ld 103 89 102 89,
 len1 104 103 89 3,
 bop 105 .lss 3 101 104 3 4] fr st (.seq c87_81 k)) ∧
 evK gS fi87 c87_87 fr st k=drwR gS fi87 r87_87 q87_87 fr st k ∧
 evK gS fi87 c87_89 fr st k=opsR gS fi87 [qA 4 true 4] fr st (.seq .ret k) ∧
 evK gS fi87 c87_88 fr st k=condK gS fi87 (fr.op (.tmp 114)).bool? c87_89 .skip fr st k ∧
 evK gS fi87 c87_86 fr st k=evK gS fi87 c87_87 fr st (.seq c87_88 k) ∧
 (evK gS fi87 c87_93 fr st k=opsR gS fi87 [mv 106 9 3,
 qB 107 .add 3 106 1 3 3,
 asn 9 107 3] fr st k) ∧
 evK gS fi87 c87_84 fr st k=evK gS fi87 c87_86 fr st (.blk 2 (.seq c87_93 k)) ∧
 evK gS fi87 c87_78 fr st k=evK gS fi87 c87_79 fr st (.seq c87_84 k) ∧
 evK gS fi87 c87_76 fr st k=evK gS fi87 c87_77 fr st (.blk 1 k) ∧
 evK gS fi87 c87_74 fr st k=opsR gS fi87 [qI 9 0 3] fr st (.seq c87_76 k) ∧
 evK gS fi87 c87_94 fr st k=opsR gS fi87 [qA 4 false 4] fr st (.seq .ret k) ∧
 evK gS fi87 c87_73 fr st k=evK gS fi87 c87_74 fr st (.seq c87_94 k) ∧
 evK gS fi87 c87_12 fr st k=evK gS fi87 c87_13 fr st (.seq c87_73 k) ∧
 (evK gS fi87 c87_10 fr st k=opsR gS fi87 [ld 14 88 3 88,
 qF 15 91 2 2 0,
 ld 16 88 15 88,
 cal 17 108 [(.tmp 14),(.tmp 16)] [88,88] 125,
 mv 13 17 125,
 op1 18 (.extract (.tmp 13) 0) 3,
 op1 19 (.extract (.tmp 13) 1) 4,
 asn 5 18 3,
 asn 6 19 4] fr st (.seq c87_12 k)) ∧
 evK gS fi87 c87_2 fr st k=evK gS fi87 c87_3 fr st (.seq c87_10 k) ∧
 (evK gS fi87 c87_0 fr st k=opsR gS fi87 [op1 2 (.box 91 (.tmp 0)) 0,
 op1 3 (.box 88 (.tmp 1)) 0,
 qA 4 false 4] fr st (.seq c87_2 k)):=⟨evK_rs 2 rfl (by kernel_rfl),rfl,evK_rs 1 rfl (by kernel_rfl),evK_rs 6 rfl (by kernel_rfl),evK_rs 8 rfl (by kernel_rfl),evK_rs 10 rfl (by kernel_rfl),evK_rs 12 rfl (by kernel_rfl),evK_rs 14 rfl (by kernel_rfl),evK_rs 16 rfl (by kernel_rfl),evK_rs 18 rfl (by kernel_rfl),evK_rs 21 rfl (by kernel_rfl),evK_rs 20 rfl (by kernel_rfl),evK_rs 23 rfl (by kernel_rfl),rfl,evK_rs 22 rfl (by kernel_rfl),rfl,evK_rs 19 rfl (by kernel_rfl),rfl,evK_rs 17 rfl (by kernel_rfl),rfl,evK_rs 15 rfl (by kernel_rfl),rfl,evK_rs 13 rfl (by kernel_rfl),rfl,evK_rs 11 rfl (by kernel_rfl),rfl,evK_rs 9 rfl (by kernel_rfl),rfl,evK_rs 7 rfl (by kernel_rfl),rfl,evK_rs 5 rfl (by kernel_rfl),rfl,evK_rs 4 rfl (by kernel_rfl),rfl,evK_rs 25 rfl (by kernel_rfl),evK_dr 27 rfl (by kernel_rfl) (by kernel_rfl),evK_rs 28 rfl (by kernel_rfl),rfl,rfl,evK_r 26 (by kernel_rfl),rfl,rfl,rfl,evK_rs 24 rfl (by kernel_rfl),evK_rs 29 rfl (by kernel_rfl),rfl,rfl,evK_rs 3 rfl (by kernel_rfl),rfl,evK_rs 0 rfl (by kernel_rfl)⟩
theorem m87:mini fi87.body=c87_0:=by kernel_rfl
theorem n87_77 (fr:Fr)(st:St)(k:Kt):nextK gS fi87 (.loop c87_78 k) .normal fr st=evK gS fi87 c87_77 fr st k:=rfl
theorem L87_77 (p:Pred)(v:Val)(h_p:p.ok)(st:St):∀ (n i:Nat) (j:Int)  (e0 e1 e4 e5 e6 e7 e8 e21:E) (T:List (Nat × E)) (X:List (Nat × List V)) (ht0:e0.Tame) (ht1:e1.Tame) (ht4:e4.Tame) (ht5:e5.Tame) (ht6:e6.Tame) (ht7:e7.Tame) (ht8:e8.Tame) (ht21:e21.Tame) (hx2:lk X 2=some [.str p.name,.int .i64 p.test,.int .i64 p.v.kind,.int .i64 p.v.n,.float .f64 p.v.x,.str p.v.s,.bool p.v.b,.int .i64 p.w.kind,.int .i64 p.w.n,.float .f64 p.w.x,.str p.w.s,.bool p.w.b,.slice (encVals p.set)]) (hx3:lk X 3=some [.int .i64 v.kind,.int .i64 v.n,.float .f64 v.x,.str v.s,.bool v.b]) ,j=(i:Int)→i≤(p.set).length→(p.set).length - i=n →
  evK gS fi87 c87_77 {ps:=[(0,e0),(1,e1),(2,.lp 2 0),(3,.lp 3 0),(4,e4),(5,e5),(6,e6),(7,e7),(8,e8),(9,.val (.int .i64 j)),(21,e21)],ts:=T,lc:=X} st (.blk 1 (.seq c87_94 .nil))=some ((.ret (.bool ((p.set.drop i).any (vis v))) none),st):=by
 intro n
 have hpo:=h_p.2
 induction n with
 | zero =>
  intro i j  e0 e1 e4 e5 e6 e7 e8 e21 T X ht0 ht1 ht4 ht5 ht6 ht7 ht8 ht21 hx2 hx3  hj hi hn
  obtain rfl:i=(p.set).length:=by omega
  subst hj
  refine evK_loop c87_78 _ st _ _ rfl ?_
  simp (config:={contextual:=true,maxSteps:=10000000,maxDischargeDepth:=6}) [-zil,-zit,-znl,-znt,ty3,ty4,ty9,ty88,ty89,ty91,eq88,H87,k107,x107,fi20_eq,p107,k108,x108,fi77_eq,p108,k109,x109,fi78_eq,p109,k110,x110,fi79_eq,p110,E87,q87_87,n87_77,ht0,ht1,ht4,ht5,ht6,ht7,ht8,ht21,hx2,hx3]
  all_goals first | done | grind | omega
 | succ n ih =>
  intro i j  e0 e1 e4 e5 e6 e7 e8 e21 T X ht0 ht1 ht4 ht5 ht6 ht7 ht8 ht21 hx2 hx3  hj hi hn
  subst hj
  obtain ⟨x,hx⟩  := qgx (l:=(p.set)) (i:=i) (by omega)
  have hd:=drop_get hx
  have hlt:(i:Int)<((p.set).length:Int):=by omega
  have hlt2:i<(p.set).length:=by omega
  have hxe:(p.set)[i]'hlt2=x:=by rw [zge hlt2] at hx;exact Option.some.inj hx
  have hw:IntKind.wrap .i64 ((i:Int)+1)=(i:Int)+1:=wrap64 (by omega) (by omega)
  have IH:=fun e0 e1 e4 e5 e6 e7 e8 e21 T X ht0 ht1 ht4 ht5 ht6 ht7 ht8 ht21 hx2 hx3=>ih (i+1) ((i:Int)+1) e0 e1 e4 e5 e6 e7 e8 e21 T X ht0 ht1 ht4 ht5 ht6 ht7 ht8 ht21 hx2 hx3 rfl (by omega) (by omega)
  refine evK_loop c87_78 _ st _ _ rfl ?_
  simp (config:={contextual:=true,maxSteps:=10000000,maxDischargeDepth:=6}) [-zil,-zit,-znl,-znt,ty3,ty4,ty9,ty88,ty89,ty91,eq88,H87,k107,x107,fi20_eq,p107,k108,x108,fi77_eq,p108,k109,x109,fi78_eq,p109,k110,x110,fi79_eq,p110,E87,q87_87,n87_77,ht0,ht1,ht4,ht5,ht6,ht7,ht8,ht21,hx2,hx3,hx,hxe,hd,hlt,hlt2,hw,IH]
  all_goals first | done | grind | omega
theorem c87 (p:Pred)(v:Val)  (h_p:Pred.ok p) (st:St):EvF gS 87 [p.enc,v.enc] st=some (.ret (.bool (ptakes p v)) none,st):=by
 refine EvF_start fi22_eq (fun x h=>by cases h) m87 ?_
 rw [st87]
 simp (config:={contextual:=true,maxSteps:=10000000,maxDischargeDepth:=6}) [-zil,-zit,-znl,-znt,ty3,ty4,ty9,ty88,ty89,ty91,eq88,H87,k107,x107,fi20_eq,p107,k108,x108,fi77_eq,p108,k109,x109,fi78_eq,p109,k110,x110,fi79_eq,p110,E87,q87_87,n87_77,(fun e0 e1 e4 e5 e6 e7 e8 e21 T X ht0 ht1 ht4 ht5 ht6 ht7 ht8 ht21 hx2 hx3=>L87_77 p v h_p st _ 0 0  e0 e1 e4 e5 e6 e7 e8 e21 T X ht0 ht1 ht4 ht5 ht6 ht7 ht8 ht21 hx2 hx3 rfl (Nat.zero_le _) rfl),h_p.1,h_p.2]
 all_goals try simp (config:={contextual:=true}) [-zil,-zit,-znl,-znt,ptakes]
 all_goals first | done | grind | omega
theorem k87 (p_name:List UInt8)(p_test:Int)(p_vk:Int)(p_vn:Int)(p_vx:Nat)(p_vs:List UInt8)(p_vb:Bool)(p_wk:Int)(p_wn:Int)(p_wx:Nat)(p_ws:List UInt8)(p_wb:Bool)(p_set:List Val)(v_k:Int)(v_n:Int)(v_x:Nat)(v_s:List UInt8)(v_b:Bool)  (h_p:Pred.ok (⟨p_name,p_test,⟨p_vk,p_vn,p_vx,p_vs,p_vb⟩,⟨p_wk,p_wn,p_wx,p_ws,p_wb⟩,p_set⟩:Pred)) (fr:Fr) (st:St):callStep gS (EvF gS) 87 [.agg [.str p_name,.int .i64 p_test,.int .i64 p_vk,.int .i64 p_vn,.float .f64 p_vx,.str p_vs,.bool p_vb,.int .i64 p_wk,.int .i64 p_wn,.float .f64 p_wx,.str p_ws,.bool p_wb,.slice (encVals p_set)],.agg [.int .i64 v_k,.int .i64 v_n,.float .f64 v_x,.str v_s,.bool v_b]] fr st=some (.ok (retE none (.bool (ptakes (⟨p_name,p_test,⟨p_vk,p_vn,p_vx,p_vs,p_vb⟩,⟨p_wk,p_wn,p_wx,p_ws,p_wb⟩,p_set⟩:Pred) (⟨v_k,v_n,v_x,v_s,v_b⟩:Val)))) fr st) :=
 call_pure rfl fi22_eq rfl (fun st=>c87 (⟨p_name,p_test,⟨p_vk,p_vn,p_vx,p_vs,p_vb⟩,⟨p_wk,p_wn,p_wx,p_ws,p_wb⟩,p_set⟩:Pred) (⟨v_k,v_n,v_x,v_s,v_b⟩:Val) h_p st) (by simp)
theorem x87:gS.ext 87=none:=rfl
theorem p87:fi87.pure=true:=rfl
end
end Go.Proofs.Ytdoobejjedpcgaa
namespace Go.Ab
open Go
def intVs (l:List Int):List V:=l.map (V.int .i64)
theorem intVs_length (l:List Int):(intVs l).length=l.length:=by simp [intVs]
theorem intVs_get (l:List Int)(i:Nat):(intVs l)[i]?=(l[i]?).map (V.int .i64):=by simp [intVs]
theorem intVs_gE (l:List Int)(i:Nat)(h:i<(intVs l).length):(intVs l)[i]'h=.int .i64 (l[i]'(by rw [intVs_length] at h;exact h)):=by simp [intVs]
theorem flats_ints (l:List Int):flats (intVs l)=true:=by
 induction l with
 | nil=>rfl
 | cons x r ih=>simp only [intVs,List.map_cons,flats,V.flat] at ih ⊢;exact ih
attribute [simp] intVs_length intVs_get intVs_gE flats_ints
def pickI (n m:Int):Int:=if m<1 then 0 else if n.tmod m<0 then n.tmod m+m else n.tmod m
theorem tmod_bound (n:Int) {m:Int} (h:1≤m):-m<n.tmod m∧n.tmod m<m:=by
 have b1:=Int.tmod_lt_of_pos n (by omega:0<m)
 refine ⟨?_,b1⟩
 rcases Int.lt_or_le n 0 with hk | hk
 ·have:n.tmod m = -((-n).tmod m):=by rw [Int.neg_tmod];omega
  have:=Int.tmod_lt_of_pos (-n) (by omega:0<m)
  omega
 ·have:=Int.tmod_nonneg m hk;omega
theorem pickI_bound (n:Int) {m:Int} (h:1≤m):0≤pickI n m∧pickI n m<m:=by
 have:=tmod_bound n h
 unfold pickI
 rw [if_neg (by omega)]
 split <;> omega
def FeedAt (st:St)(id:Nat)(l:List Int)(a:Nat):Prop:=st.objs[id]?=some [.slice (intVs l),.int .i64 a]∧st.wp≤id
def setF (st:St)(id:Nat)(l:List Int)(a:Nat):St:={st with objs:=st.objs.set id [.slice (intVs l),.int .i64 a]}
theorem FeedAt.lt {st:St} {id:Nat} {l:List Int} {a:Nat} (h:FeedAt st id l a):id<st.objs.length:=(List.getElem?_eq_some_iff.1 h.1).1
theorem setF_setF (st:St)(id:Nat)(l:List Int)(a b:Nat):setF (setF st id l a) id l b=setF st id l b:=by
 unfold setF;simp
theorem setF_same {st:St} {id:Nat} {l:List Int} {a:Nat} (h:FeedAt st id l a):setF st id l a=st:=by
 unfold setF
 obtain ⟨os,wp⟩:=st
 have h1:os[id]?=some [.slice (intVs l),.int .i64 a]:=h.1
 have h2:id<os.length:=h.lt
 congr 1
 show os.set id _=os
 apply List.ext_getElem?
 intro j
 rw [List.getElem?_set]
 split
 ·rename_i hj;subst hj;rw [h1]
 ·rfl
def rawAt (l:List Int)(a:Nat):Int:=IntKind.wrap .i64 (IntKind.wrap .i64 ((l.getD (a % l.length) 0).tdiv (1+(a / l.length:Nat)))+(a / l.length:Nat))
def nextV (l:List Int)(a:Nat)(n:Int):Int:=if l=[] then 0 else pickI (rawAt l a) n
def nextA (l:List Int)(a:Nat):Nat:=if l=[] then a else a+1
theorem nextV_bound (l:List Int)(a:Nat) {n:Int} (h:1≤n):0≤nextV l a n∧nextV l a n<n:=by
 unfold nextV;split
 ·omega
 ·exact pickI_bound _ h
def nA (l:List Int)(a j:Nat):Nat:=if l=[] then a else a+j
theorem nA_next (l:List Int)(a j:Nat):nextA l (nA l a j)=nA l a (j+1):=by
 unfold nextA nA;split <;> omega
theorem nA_le (l:List Int)(a j:Nat):nA l a j≤a+j:=by unfold nA;split <;> omega
def FeedOk (st:St)(id:Nat):Prop:=id<st.objs.length∧st.wp≤id
theorem feed_at {st:St} {id:Nat} (h:FeedOk st id)(l:List Int)(b:Nat):FeedAt (setF st id l b) id l b:=by
 refine ⟨?_,h.2⟩
 show (st.objs.set id _)[id]?=_
 rw [List.getElem?_set_self h.1]
def fd (l:List Int)(a j:Nat)(n:Int):Int:=nextV l (nA l a j) n
theorem fd_bound (l:List Int)(a j:Nat) {n:Int} (h:1≤n):0≤fd l a j n∧fd l a j n<n:=nextV_bound _ _ h
def F14:List Nat:=[0,9223372036854775808,4607182418800017408,4609434218613702656,4611686018427387904,4613937818241073152,13830554455654793216,4591870180066957722,9221120237041090561,9218868437227405312,18442240474082181120,4845873199050653696,4890909195324358656,1]
def floatV (l:List Int)(a j:Nat):Nat:=F14.getD (fd l a j 14).toNat 0
def T6:List (List UInt8):=[[],[97],[97,98],[98],[98,97],[116,119,101,108,118,101,32,98,121,116,101,115]]
def N6:List Int:=[-9223372036854775808,9223372036854775807,9007199254740992,9007199254740993,-1,4611686018427387904]
def valueV (l:List Int)(a j:Nat):Val :=
 let z:=fd l a j 8
 if z=0∨z=1 then ⟨2,0,floatV l a (j+1),[],false⟩
 else if z=2 then ⟨3,0,0,T6.getD (fd l a (j+1) 6).toNat [],false⟩
 else if z=3 then ⟨4,0,0,[],fd l a (j+1) 2=1⟩
 else if z=4 then ⟨1,N6.getD (fd l a (j+1) 6).toNat 0,0,[],false⟩
 else ⟨1,fd l a (j+1) 5,0,[],false⟩
def valsV (l:List Int)(a:Nat):Nat→Nat→List Val
 | _,0=>[]
 | j,k+1=>valueV l a j :: valsV l a (j+2) k
def P4:List (List UInt8):=[[],[97],[98],[97,98]]
def predV (l:List Int)(a j:Nat)(name:List UInt8):Pred × Nat :=
 let t:=1+fd l a j 10
 if t=1 then (⟨name,1,vzero,vzero,[]⟩,1)
 else if t=9 then (⟨name,9,⟨3,0,0,P4.getD (fd l a (j+1) 4).toNat [],false⟩,vzero,[]⟩,2)
 else if t=10 then (⟨name,10,vzero,vzero,valsV l a (j+2) ((fd l a (j+1) 4).toNat+1)⟩,2+2*((fd l a (j+1) 4).toNat+1))
 else if t=8 then (⟨name,8,valueV l a (j+1),valueV l a (j+3),[]⟩,5)
 else (⟨name,t,valueV l a (j+1),vzero,[]⟩,3)
end Go.Ab
namespace Go.Proofs.Ytdoobejjedpcgaa
open Go Go.Ab
noncomputable section
variable (fr:Fr)(st:St)(k:Kt)
def fi29:FI:={body:=codeOf Try.f29,ntmps:=17,results:=[.tmp 4],pers:=[0,1,4,5],locals:=[],pure:=true,marks:=[]}
theorem H29:fi29.marks=[]∧fi29.locals=[]∧fi29.results=[.tmp 4]:=⟨rfl,rfl,rfl⟩
theorem fi52_eq:gS.fn 29=some fi29:=by kernel_rfl
theorem st29 (a0 a1:V):startFr fi29 [a0,a1]={ps:=[(0,.val a0),(1,.val a1),(4,.any),(5,.any)],ts:=[],lc:=[]}:=rfl
def b29:Code:=mini (codeOf Try.f29)
def c29_6:Code:=.seq (codeN b29 37) .ret
def c29_5:Code:=.cond (.tmp 7) c29_6 .skip
def c29_3:Code:=.seq (codeN b29 9) c29_5
def c29_16:Code:=codeN b29 87
def c29_15:Code:=.cond (.tmp 12) c29_16 .skip
def c29_13:Code:=.seq (codeN b29 39) c29_15
def c29_18:Code:=.seq (codeN b29 47) .ret
def c29_12:Code:=.seq c29_13 c29_18
def c29_10:Code:=.seq (codeN b29 11) c29_12
def c29_2:Code:=.seq c29_3 c29_10
def c29_0:Code:=.seq (codeN b29 2) c29_2
theorem E29:evK gS fi29 c29_6 fr st k=opsR gS fi29 [qI 4 0 3] fr st (.seq .ret k) ∧
 evK gS fi29 c29_5 fr st k=condK gS fi29 (fr.op (.tmp 7)).bool? c29_6 .skip fr st k ∧
 (evK gS fi29 c29_3 fr st k=opsR gS fi29 [mv 6 1 3,
 qB 7 .lss 3 6 1 3 4] fr st (.seq c29_5 k)) ∧
 (evK gS fi29 c29_16 fr st k=opsR gS fi29 [mv 13 5 3,
 mv 14 1 3,
 bop 15 .add 3 13 14 3 3,
 asn 5 15 3] fr st k) ∧
 evK gS fi29 c29_15 fr st k=condK gS fi29 (fr.op (.tmp 12)).bool? c29_16 .skip fr st k ∧
 (evK gS fi29 c29_13 fr st k=opsR gS fi29 [mv 11 5 3,
 qB 12 .lss 3 11 0 3 4] fr st (.seq c29_15 k)) ∧
 (evK gS fi29 c29_18 fr st k=opsR gS fi29 [mv 16 5 3,
 asn 4 16 3] fr st (.seq .ret k)) ∧
 evK gS fi29 c29_12 fr st k=evK gS fi29 c29_13 fr st (.seq c29_18 k) ∧
 (evK gS fi29 c29_10 fr st k=opsR gS fi29 [mv 8 0 3,
 mv 9 1 3,
 bop 10 .rem 3 8 9 3 3,
 asn 5 10 3] fr st (.seq c29_12 k)) ∧
 evK gS fi29 c29_2 fr st k=evK gS fi29 c29_3 fr st (.seq c29_10 k) ∧
 evK gS fi29 c29_0 fr st k=opsR gS fi29 [qI 4 0 3] fr st (.seq c29_2 k):=⟨evK_rs 2 rfl (by kernel_rfl),rfl,evK_rs 1 rfl (by kernel_rfl),evK_r 5 (by kernel_rfl),rfl,evK_rs 4 rfl (by kernel_rfl),evK_rs 6 rfl (by kernel_rfl),rfl,evK_rs 3 rfl (by kernel_rfl),rfl,evK_rs 0 rfl (by kernel_rfl)⟩
theorem m29:mini fi29.body=c29_0:=by kernel_rfl
theorem c29 (n:Int)(m:Int)(hm1:m≤4611686018427387904)(st:St):EvF gS 29 [.int .i64 n,.int .i64 m] st=some (.ret (.int .i64 (pickI n m)) none,st):=by
 refine EvF_start fi52_eq (fun x h=>by cases h) m29 ?_
 rw [st29]
 by_cases h1:m<1
 ·simp [h1,pickI,-zil,-zit,-znl,-znt,ty3,ty4,H29,E29]
 ·have h0:¬ m=0:=by omega
  have hb:=tmod_bound n (m:=m) (by omega)
  by_cases h2:n.tmod m<0
  ·have hw:IntKind.wrap .i64 (n.tmod m+m)=n.tmod m+m:=wrap64 (by omega) (by omega)
   simp [h1,h0,h2,hw,pickI,-zil,-zit,-znl,-znt,ty3,ty4,H29,E29]
  ·simp [h1,h0,h2,pickI,-zil,-zit,-znl,-znt,ty3,ty4,H29,E29]
theorem k29 (n:Int)(m:Int)(hm1:m≤4611686018427387904)(fr:Fr)(st:St):callStep gS (EvF gS) 29 [.int .i64 n,.int .i64 m] fr st=some (.ok (retE none (.int .i64 (pickI n m))) fr st) :=
 call_pure rfl fi52_eq rfl (fun st=>c29 n m hm1 st) (by simp)
theorem x29:gS.ext 29=none:=rfl
theorem p29:fi29.pure=true:=rfl
def fi11:FI:={body:=codeOf Try.f11,ntmps:=61,results:=[.tmp 4],pers:=[0,1,4,5],locals:=[],pure:=false,marks:=[]}
theorem H11:fi11.marks=[]∧fi11.locals=[]∧fi11.results=[.tmp 4]:=⟨rfl,rfl,rfl⟩
theorem fi16_eq:gS.fn 11=some fi11:=by kernel_rfl
theorem st11 (a0 a1:V):startFr fi11 [a0,a1]={ps:=[(0,.val a0),(1,.val a1),(4,.any),(5,.any)],ts:=[],lc:=[]}:=rfl
def b11:Code:=mini (codeOf Try.f11)
def c11_6:Code:=.seq (codeN b11 37) .ret
def c11_5:Code:=.cond (.tmp 11) c11_6 .skip
def c11_3:Code:=.seq (codeN b11 9) c11_5
def r11_11:Array Oper:=regOps (codeN (codeOf Try.f11) 11)
def c11_11:Code:=.region 3 r11_11 true
def q11_11:List (Oper × Fl):=[(mv 12 0 23,qz0),
 (op1 13 (.nilCheck (.tmp 12)) 0,qz0),
 (qF 14 25 13 0 0,qz0),
 (ld 15 22 14 22,qz0),
 (mv 16 0 23,qz0),
 (op1 17 (.nilCheck (.tmp 16)) 0,qz0),
 (qF 18 25 17 1 0,qz0),
 (ld 19 3 18 3,qz0),
 (mv 20 0 23,qz0),
 (op1 21 (.nilCheck (.tmp 20)) 0,qz0),
 (qF 22 25 21 0 0,qz0),
 (ld 23 22 22 22,qz0),
 (len1 24 23 22 3,qz0),
 (bop 25 .rem 3 19 24 3 3,qz0),
 (ixa 26 22 15 25 0,qz0),
 (ld 27 3 26 3,qz0),
 (mv 28 0 23,qz0),
 (op1 29 (.nilCheck (.tmp 28)) 0,qz0),
 (qF 30 25 29 1 0,qz0),
 (ld 31 3 30 3,qz0),
 (mv 32 0 23,qz0),
 (op1 33 (.nilCheck (.tmp 32)) 0,qz0),
 (qF 34 25 33 0 0,qz0),
 (ld 35 22 34 22,qz0),
 (len1 36 35 22 3,qz0),
 (bop 37 .quo 3 31 36 3 3,qz0),
 (op1 38 (.binOp .add 3 (.const (.int .i64 1)) (.tmp 37) 3) 3,qz0),
 (bop 39 .quo 3 27 38 3 3,qz0),
 (mv 40 0 23,qz0),
 (op1 41 (.nilCheck (.tmp 40)) 0,qz0),
 (qF 42 25 41 1 0,qz0),
 (ld 43 3 42 3,qz0),
 (mv 44 0 23,qz0),
 (op1 45 (.nilCheck (.tmp 44)) 0,qz0),
 (qF 46 25 45 0 0,qz3),
 (ld 47 22 46 22,qz3),
 (len1 48 47 22 3,qz3),
 (bop 49 .quo 3 43 48 3 3,qz3),
 (bop 50 .add 3 39 49 3 3,qz3),
 (asn 5 50 3,qz1)]
def c11_14:Code:=.seq (codeN b11 47) .ret
def c11_12:Code:=.seq (codeN b11 23) c11_14
def c11_10:Code:=.seq c11_11 c11_12
def c11_2:Code:=.seq c11_3 c11_10
def c11_0:Code:=.seq (codeN b11 2) c11_2
theorem E11:evK gS fi11 c11_6 fr st k=opsR gS fi11 [qI 4 0 3] fr st (.seq .ret k) ∧
 evK gS fi11 c11_5 fr st k=condK gS fi11 (fr.op (.tmp 11)).bool? c11_6 .skip fr st k ∧
 (evK gS fi11 c11_3 fr st k=opsR gS fi11 [mv 6 0 23,
 op1 7 (.nilCheck (.tmp 6)) 0,
 qF 8 25 7 0 0,
 ld 9 22 8 22,
 len1 10 9 22 3,
 qB 11 .eql 3 10 0 3 4] fr st (.seq c11_5 k)) ∧
 evK gS fi11 c11_11 fr st k=drwR gS fi11 r11_11 q11_11 fr st k ∧
 (evK gS fi11 c11_14 fr st k=opsR gS fi11 [mv 58 5 3,
 mv 59 1 3,
 cal 60 29 [(.tmp 58),(.tmp 59)] [3,3] 3,
 asn 4 60 3] fr st (.seq .ret k)) ∧
 (evK gS fi11 c11_12 fr st k=opsR gS fi11 [mv 51 0 23,
 op1 52 (.nilCheck (.tmp 51)) 0,
 qF 53 25 52 1 0,
 ld 54 3 53 3,
 qB 55 .add 3 54 1 3 3,
 op1 56 (.nilCheck (.tmp 51)) 0,
 qF 57 25 56 1 0,
 sto 3 57 55] fr st (.seq c11_14 k)) ∧
 evK gS fi11 c11_10 fr st k=evK gS fi11 c11_11 fr st (.seq c11_12 k) ∧
 evK gS fi11 c11_2 fr st k=evK gS fi11 c11_3 fr st (.seq c11_10 k) ∧
 evK gS fi11 c11_0 fr st k=opsR gS fi11 [qI 4 0 3] fr st (.seq c11_2 k):=⟨evK_rs 2 rfl (by kernel_rfl),rfl,evK_rs 1 rfl (by kernel_rfl),evK_dr 3 rfl (by kernel_rfl) (by kernel_rfl),evK_rs 5 rfl (by kernel_rfl),evK_rs 4 rfl (by kernel_rfl),rfl,rfl,evK_rs 0 rfl (by kernel_rfl)⟩
theorem m11:mini fi11.body=c11_0:=by kernel_rfl
theorem c11 (l:List Int)(a id:Nat)(n:Int)(st:St)(h:FeedAt st id l a)(ha:a<1099511627776)(hn:n≤4611686018427387904) :
  EvF gS 11 [.ptr id 0,.int .i64 n] st=some (.ret (.int .i64 (nextV l a n)) none,setF st id l (nextA l a)):=by
 refine EvF_start fi16_eq (fun x h=>by cases h) m11 ?_
 rw [st11]
 have ho:=h.1
 have hwp:¬ id<st.wp:=by have:=h.2;omega
 have hwp2:st.wp≤id:=h.2
 have hid:=h.lt
 by_cases hne:l=[]
 ·subst hne
  have hs:setF st id [] a=st:=setF_same h
  simp [nextV,nextA,hs,ho,-zil,-zit,-znl,-znt,ty3,ty4,ty22,ty23,ty25,H11,k29,x29,fi52_eq,p29,E11,q11_11]
 ·have hlen:0<l.length:=by cases l with | nil=>exact (hne rfl).elim | cons _ _=>simp
  have e0:¬ (l.length:Int)=0:=by omega
  have e1:((a:Nat):Int).tmod (l.length:Int)=((a % l.length:Nat):Int):=by rw [Int.tmod_eq_emod_of_nonneg (by omega)];omega
  have e2:((a:Nat):Int).tdiv (l.length:Int)=((a / l.length:Nat):Int):=by rw [Int.tdiv_eq_ediv_of_nonneg (by omega)];omega
  have e3:=Nat.mod_lt a hlen
  have e4:a / l.length≤a:=Nat.div_le_self _ _
  have hx:l[a % l.length]?=some (l.getD (a % l.length) 0):=by
   rw [zge e3,List.getD_eq_getElem?_getD,zge e3];rfl
  have ea:IntKind.wrap .i64 ((a:Int)+1)=(a:Int)+1:=wrap64 (by omega) (by omega)
  have hxe:l[a % l.length]'e3=l.getD (a % l.length) 0:=by rw [zge e3] at hx;exact Option.some.inj hx
  simp only [nextV,nextA,hne,if_false,rawAt]
  generalize l.getD (a % l.length) 0=x at *
  generalize a % l.length=rr at *
  generalize a / l.length=qq at *
  have e5:IntKind.wrap .i64 (qq:Int)=(qq:Int):=wrap64 (by omega) (by omega)
  have e6:IntKind.wrap .i64 (1+(qq:Int))=1+(qq:Int):=wrap64 (by omega) (by omega)
  have e7:¬ (1+(qq:Int))=0:=by omega
  simp [-Int.natCast_emod,-Int.natCast_ediv,setF,ho,hne,e0,e1,e2,e3,e5,e6,e7,hx,hxe,ea,hn,hwp,hwp2,-zil,-zit,-znl,-znt,ty3,ty4,ty22,ty23,ty25,H11,k29,x29,fi52_eq,p29,E11,q11_11]
theorem k11 (l:List Int)(a j id:Nat)(n:Int)(fr:Fr)(st:St)(h:FeedOk st id)(ha:a<549755813888)(hj:j<549755813888)(hn:n≤4611686018427387904) :
  callStep gS (EvF gS) 11 [.ptr id 0,.int .i64 n] fr (setF st id l (nA l a j))=some (.ok (.val (.int .i64 (fd l a j n))) (fr.map E.noMem) (setF st id l (nA l a (j+1)))):=by
 have hc:=c11 l (nA l a j) id n (setF st id l (nA l a j)) (feed_at h l _) (by have:=nA_le l a j;omega) hn
 rw [setF_setF,nA_next] at hc
 unfold callStep
 simp only [show gS.ext 11=none from rfl,fi16_eq,show fi11.pure=false from rfl,Bool.false_eq_true,if_false,hc,retE]
 rfl
end
end Go.Proofs.Ytdoobejjedpcgaa
namespace Go.Proofs.Ytdoobejjedpcgaa
open Go Go.Ab
noncomputable section
variable (fr:Fr)(st:St)(k:Kt)
theorem kCopy (fr:Fr)(st:St):callStep gS (EvF gS) 104 [.float .f64 0,.float .f64 13830554455654793216] fr st=some (.ok (.val (.float .f64 9223372036854775808)) fr st):=by
 have hc:EvF gS 104 [.float .f64 0,.float .f64 13830554455654793216] ⟨[],0⟩=some (.ret (.float .f64 9223372036854775808) none,⟨[],0⟩):=Evn.lim ⟨12,fun n hn=>by
  obtain ⟨m,rfl⟩:∃ m,n=m+12:=⟨n - 12,by omega⟩
  kernel_rfl⟩
 obtain ⟨fi,hf,hp⟩:∃ fi,gS.fn 104=some fi∧fi.pure=true:=by
  refine ⟨(gS.fn 104).getD ⟨.skip,0,[],[],[],false,[]⟩,by kernel_rfl,by kernel_rfl⟩
 unfold callStep
 simp only [show gS.ext 104=none from rfl,hf,hp,if_true,show flats [.float .f64 0,.float .f64 13830554455654793216]=true from by simp,hc,show V.flat (.float .f64 9223372036854775808)=true from rfl]
 rfl
theorem kNaN (fr:Fr)(st:St):callStep gS (EvF gS) 105 [] fr st=some (.ok (.val (.float .f64 9221120237041090561)) fr st):=by
 have hc:EvF gS 105 [] ⟨[],0⟩=some (.ret (.float .f64 9221120237041090561) none,⟨[],0⟩):=Evn.lim ⟨12,fun n hn=>by
  obtain ⟨m,rfl⟩:∃ m,n=m+12:=⟨n - 12,by omega⟩
  kernel_rfl⟩
 obtain ⟨fi,hf,hp⟩:∃ fi,gS.fn 105=some fi∧fi.pure=true:=by
  refine ⟨(gS.fn 105).getD ⟨.skip,0,[],[],[],false,[]⟩,by kernel_rfl,by kernel_rfl⟩
 unfold callStep
 simp only [show gS.ext 105=none from rfl,hf,hp,if_true,show flats []=true from by simp,hc,show V.flat (.float .f64 9221120237041090561)=true from rfl]
 rfl
theorem kInf (fr:Fr)(st:St):callStep gS (EvF gS) 106 [.int .i64 1] fr st=some (.ok (.val (.float .f64 9218868437227405312)) fr st):=by
 have hc:EvF gS 106 [.int .i64 1] ⟨[],0⟩=some (.ret (.float .f64 9218868437227405312) none,⟨[],0⟩):=Evn.lim ⟨12,fun n hn=>by
  obtain ⟨m,rfl⟩:∃ m,n=m+12:=⟨n - 12,by omega⟩
  kernel_rfl⟩
 obtain ⟨fi,hf,hp⟩:∃ fi,gS.fn 106=some fi∧fi.pure=true:=by
  refine ⟨(gS.fn 106).getD ⟨.skip,0,[],[],[],false,[]⟩,by kernel_rfl,by kernel_rfl⟩
 unfold callStep
 simp only [show gS.ext 106=none from rfl,hf,hp,if_true,show flats [.int .i64 1]=true from by simp,hc,show V.flat (.float .f64 9218868437227405312)=true from rfl]
 rfl
theorem kInf2 (fr:Fr)(st:St):callStep gS (EvF gS) 106 [.int .i64 (-1)] fr st=some (.ok (.val (.float .f64 18442240474082181120)) fr st):=by
 have hc:EvF gS 106 [.int .i64 (-1)] ⟨[],0⟩=some (.ret (.float .f64 18442240474082181120) none,⟨[],0⟩):=Evn.lim ⟨12,fun n hn=>by
  obtain ⟨m,rfl⟩:∃ m,n=m+12:=⟨n - 12,by omega⟩
  kernel_rfl⟩
 obtain ⟨fi,hf,hp⟩:∃ fi,gS.fn 106=some fi∧fi.pure=true:=by
  refine ⟨(gS.fn 106).getD ⟨.skip,0,[],[],[],false,[]⟩,by kernel_rfl,by kernel_rfl⟩
 unfold callStep
 simp only [show gS.ext 106=none from rfl,hf,hp,if_true,show flats [.int .i64 (-1)]=true from by simp,hc,show V.flat (.float .f64 18442240474082181120)=true from rfl]
 rfl
def fi85:FI:={body:=codeOf Try.f85,ntmps:=13,results:=[.tmp 2],pers:=[0,2,3],locals:=[3],pure:=false,marks:=[]}
theorem H85:fi85.marks=[]∧fi85.locals=[3]∧fi85.results=[.tmp 2]:=⟨rfl,rfl,rfl⟩
theorem fi66_eq:gS.fn 85=some fi85:=by kernel_rfl
theorem st85 (a0:V):startFr fi85 [a0]={ps:=[(0,.val a0),(2,.any),(3,.any)],ts:=[],lc:=[]}:=rfl
def b85:Code:=mini (codeOf Try.f85)
def c85_4:Code:=.seq (codeN b85 11) .ret
theorem e85_4:evK gS fi85 c85_4 fr st k=opsR gS fi85 [mv 9 0 23,
 cal 10 11 [(.tmp 9),(.const (.int .i64 14))] [23,3] 3,
 ixa 11 132 3 10 0,
 ld 12 86 11 86,
 asn 2 12 86] fr st (.seq .ret k):=evK_rs 2 rfl (by kernel_rfl)
def c85_2:Code:=.seq (codeN b85 5) c85_4
theorem e85_2:evK gS fi85 c85_2 fr st k=opsR gS fi85 [cal 4 104 [(.const (.float .f64 0)),(.const (.float .f64 13830554455654793216))] [86,86] 86,
 cal 5 105 [] [] 86,
 cal 6 106 [(.const (.int .i64 1))] [3] 86,
 cal 7 106 [(.const (.int .i64 (-1)))] [3] 86,
 op1 8 (.build 132 #[(0,(.const (.float .f64 0))),(1,(.tmp 4)),(2,(.const (.float .f64 4607182418800017408))),(3,(.const (.float .f64 4609434218613702656))),(4,(.const (.float .f64 4611686018427387904))),(5,(.const (.float .f64 4613937818241073152))),(6,(.const (.float .f64 13830554455654793216))),(7,(.const (.float .f64 4591870180066957722))),(8,(.tmp 5)),(9,(.tmp 6)),(10,(.tmp 7)),(11,(.const (.float .f64 4845873199050653696))),(12,(.const (.float .f64 4890909195324358656))),(13,(.const (.float .f64 1)))]) 132,
 op1 3 (.alloc 132) 0,
 sto 132 3 8] fr st (.seq c85_4 k):=evK_rs 1 rfl (by kernel_rfl)
def c85_0:Code:=.seq (codeN b85 2) c85_2
theorem e85_0:evK gS fi85 c85_0 fr st k=opsR gS fi85 [op1 2 (.assign (.const (.float .f64 0))) 86] fr st (.seq c85_2 k):=evK_rs 0 rfl (by kernel_rfl)
theorem m85:mini fi85.body=c85_0:=by kernel_rfl
theorem c85 (l:List Int)(a j id:Nat)(st:St)(h:FeedOk st id)(ha:a<549755813888)(hj:j<549755813888) :
  EvF gS 85 [.ptr id 0] (setF st id l (nA l a j))=some (.ret (.float .f64 (floatV l a j)) none,setF st id l (nA l a (j+1))):=by
 refine EvF_start fi66_eq (fun x h=>by cases h) m85 ?_
 rw [st85]
 have hb:=fd_bound l a j (n:=14) (by omega)
 unfold floatV
 have hk:=fun fr=>k11 l a j id 14 fr st h ha hj (by omega)
 generalize fd l a j 14=z at *
 have hz:z=0∨z=1∨z=2∨z=3∨z=4∨z=5∨z=6∨z=7∨z=8∨z=9∨z=10∨z=11∨z=12∨z=13:=by omega
 rcases hz with rfl | rfl | rfl | rfl | rfl | rfl | rfl | rfl | rfl | rfl | rfl | rfl | rfl | rfl <;>
  simp [F14,hk,-zil,-zit,-znl,-znt,ty3,ty23,ty86,ty132,H85,kCopy,kNaN,kInf,kInf2,e85_4,e85_2,e85_0]
theorem k85 (l:List Int)(a j id:Nat)(fr:Fr)(st:St)(h:FeedOk st id)(ha:a<549755813888)(hj:j<549755813000) :
  callStep gS (EvF gS) 85 [.ptr id 0] fr (setF st id l (nA l a j))=some (.ok (.val (.float .f64 (floatV l a j))) (fr.map E.noMem) (setF st id l (nA l a (j+1)))):=by
 unfold callStep
 simp only [show gS.ext 85=none from rfl,fi66_eq,show fi85.pure=false from rfl,Bool.false_eq_true,if_false,c85 l a j id st h ha (by omega),retE]
 all_goals rfl
def fi55:FI:={body:=codeOf Try.f55,ntmps:=38,results:=[.cell 2 88],pers:=[0,2,3,4,6,7],locals:=[2,3,4],pure:=false,marks:=[]}
theorem H55:fi55.marks=[]∧fi55.locals=[2,3,4]∧fi55.results=[.cell 2 88]:=⟨rfl,rfl,rfl⟩
theorem fi17_eq:gS.fn 55=some fi55:=by kernel_rfl
theorem st55 (a0:V):startFr fi55 [a0]={ps:=[(0,.val a0),(2,.any),(3,.any),(4,.any),(6,.any),(7,.any)],ts:=[],lc:=[]}:=rfl
def b55:Code:=mini (codeOf Try.f55)
def c55_11:Code:=codeN b55 229
def c55_9:Code:=.cond (.tmp 7) .skip c55_11
def c55_7:Code:=.seq (codeN b55 69) c55_9
def c55_13:Code:=.seq (codeN b55 149) .ret
def c55_21:Code:=.seq (codeN b55 1397) .ret
def c55_19:Code:=.seq (codeN b55 629) c55_21
def c55_27:Code:=.seq (codeN b55 2549) .ret
def c55_35:Code:=.seq (codeN b55 22517) .ret
def c55_33:Code:=.seq (codeN b55 10229) c55_35
def c55_32:Code:=.cond (.tmp 27) c55_33 .skip
def c55_30:Code:=.seq (codeN b55 3061) c55_32
def c55_26:Code:=.cond (.tmp 21) c55_27 c55_30
def c55_24:Code:=.seq (codeN b55 757) c55_26
def c55_18:Code:=.cond (.tmp 13) c55_19 c55_24
def c55_16:Code:=.seq (codeN b55 181) c55_18
def c55_12:Code:=.cond (.tmp 7) c55_13 c55_16
def c55_6:Code:=.seq c55_7 c55_12
def c55_5:Code:=.block 0 c55_6
def c55_3:Code:=.seq (codeN b55 9) c55_5
def c55_39:Code:=.seq (codeN b55 11) .ret
def c55_2:Code:=.seq c55_3 c55_39
def c55_0:Code:=.seq (codeN b55 2) c55_2
theorem E55:(evK gS fi55 c55_11 fr st k=opsR gS fi55 [qB 9 .eql 3 6 1 3 4,
 asn 7 9 4] fr st k) ∧
 evK gS fi55 c55_9 fr st k=condK gS fi55 (fr.op (.tmp 7)).bool? .skip c55_11 fr st k ∧
 (evK gS fi55 c55_7 fr st k=opsR gS fi55 [qB 8 .eql 3 6 0 3 4,
 asn 7 8 4] fr st (.seq c55_9 k)) ∧
 (evK gS fi55 c55_13 fr st k=opsR gS fi55 [mv 10 0 23,
 cal 11 85 [(.tmp 10)] [23] 86,
 op1 12 (.build 88 #[(0,(.const (.int .i64 2))),(2,(.tmp 11))]) 88,
 sto 88 2 12] fr st (.seq .ret k)) ∧
 (evK gS fi55 c55_21 fr st k=opsR gS fi55 [mv 16 0 23,
 cal 17 11 [(.tmp 16),(.const (.int .i64 6))] [23,3] 3,
 ixa 18 117 3 17 0,
 ld 19 9 18 9,
 op1 20 (.build 88 #[(0,(.const (.int .i64 3))),(3,(.tmp 19))]) 88,
 sto 88 2 20] fr st (.seq .ret k)) ∧
 (evK gS fi55 c55_19 fr st k=opsR gS fi55 [op1 15 (.build 117 #[(0,(.const (.string {data:=#[]}))),(1,(.const (.string {data:=#[97]}))),(2,(.const (.string {data:=#[97,98]}))),(3,(.const (.string {data:=#[98]}))),(4,(.const (.string {data:=#[98,97]}))),(5,(.const (.string {data:=#[116,119,101,108,118,101,32,98,121,116,101,115]})))]) 117,
 op1 3 (.alloc 117) 0,
 sto 117 3 15] fr st (.seq c55_21 k)) ∧
 (evK gS fi55 c55_27 fr st k=opsR gS fi55 [mv 23 0 23,
 cal 24 11 [(.tmp 23),(.const (.int .i64 2))] [23,3] 3,
 qB 25 .eql 3 24 1 3 4,
 op1 26 (.build 88 #[(0,(.const (.int .i64 4))),(4,(.tmp 25))]) 88,
 sto 88 2 26] fr st (.seq .ret k)) ∧
 (evK gS fi55 c55_35 fr st k=opsR gS fi55 [mv 30 0 23,
 cal 31 11 [(.tmp 30),(.const (.int .i64 6))] [23,3] 3,
 ixa 32 118 4 31 0,
 ld 33 2 32 2,
 op1 34 (.build 88 #[(0,(.const (.int .i64 1))),(1,(.tmp 33))]) 88,
 sto 88 2 34] fr st (.seq .ret k)) ∧
 (evK gS fi55 c55_33 fr st k=opsR gS fi55 [op1 29 (.build 118 #[(0,(.const (.int .i64 (-9223372036854775808)))),(1,(.const (.int .i64 9223372036854775807))),(2,(.const (.int .i64 9007199254740992))),(3,(.const (.int .i64 9007199254740993))),(4,(.const (.int .i64 (-1)))),(5,(.const (.int .i64 4611686018427387904)))]) 118,
 op1 4 (.alloc 118) 0,
 sto 118 4 29] fr st (.seq c55_35 k)) ∧
 evK gS fi55 c55_32 fr st k=condK gS fi55 (fr.op (.tmp 27)).bool? c55_33 .skip fr st k ∧
 (evK gS fi55 c55_30 fr st k=opsR gS fi55 [qB 28 .eql 3 6 4 3 4,
 asn 27 28 4] fr st (.seq c55_32 k)) ∧
 evK gS fi55 c55_26 fr st k=condK gS fi55 (fr.op (.tmp 21)).bool? c55_27 c55_30 fr st k ∧
 (evK gS fi55 c55_24 fr st k=opsR gS fi55 [qB 22 .eql 3 6 3 3 4,
 asn 21 22 4] fr st (.seq c55_26 k)) ∧
 evK gS fi55 c55_18 fr st k=condK gS fi55 (fr.op (.tmp 13)).bool? c55_19 c55_24 fr st k ∧
 (evK gS fi55 c55_16 fr st k=opsR gS fi55 [qB 14 .eql 3 6 2 3 4,
 asn 13 14 4] fr st (.seq c55_18 k)) ∧
 evK gS fi55 c55_12 fr st k=condK gS fi55 (fr.op (.tmp 7)).bool? c55_13 c55_16 fr st k ∧
 evK gS fi55 c55_6 fr st k=evK gS fi55 c55_7 fr st (.seq c55_12 k) ∧
 evK gS fi55 c55_5 fr st k=evK gS fi55 c55_6 fr st (.blk 0 k) ∧
 (evK gS fi55 c55_3 fr st k=opsR gS fi55 [mv 5 0 23,
 cal 6 11 [(.tmp 5),(.const (.int .i64 8))] [23,3] 3] fr st (.seq c55_5 k)) ∧
 (evK gS fi55 c55_39 fr st k=opsR gS fi55 [mv 35 0 23,
 cal 36 11 [(.tmp 35),(.const (.int .i64 5))] [23,3] 3,
 op1 37 (.build 88 #[(0,(.const (.int .i64 1))),(1,(.tmp 36))]) 88,
 sto 88 2 37] fr st (.seq .ret k)) ∧
 evK gS fi55 c55_2 fr st k=evK gS fi55 c55_3 fr st (.seq c55_39 k) ∧
 evK gS fi55 c55_0 fr st k=opsR gS fi55 [op1 2 (.alloc 88) 0] fr st (.seq c55_2 k):=⟨evK_r 3 (by kernel_rfl),rfl,evK_rs 2 rfl (by kernel_rfl),evK_rs 4 rfl (by kernel_rfl),evK_rs 7 rfl (by kernel_rfl),evK_rs 6 rfl (by kernel_rfl),evK_rs 9 rfl (by kernel_rfl),evK_rs 12 rfl (by kernel_rfl),evK_rs 11 rfl (by kernel_rfl),rfl,evK_rs 10 rfl (by kernel_rfl),rfl,evK_rs 8 rfl (by kernel_rfl),rfl,evK_rs 5 rfl (by kernel_rfl),rfl,rfl,rfl,evK_rs 1 rfl (by kernel_rfl),evK_rs 13 rfl (by kernel_rfl),rfl,evK_rs 0 rfl (by kernel_rfl)⟩
theorem m55:mini fi55.body=c55_0:=by kernel_rfl
theorem c55 (l:List Int)(a j id:Nat)(st:St)(h:FeedOk st id)(ha:a<549755813888)(hj:j<549755812000) :
  EvF gS 55 [.ptr id 0] (setF st id l (nA l a j))=some (.ret (valueV l a j).enc none,setF st id l (nA l a (j+2))):=by
 refine EvF_start fi17_eq (fun x h=>by cases h) m55 ?_
 rw [st55]
 have hb:=fd_bound l a j (n:=8) (by omega)
 have hb6:=fd_bound l a (j+1) (n:=6) (by omega)
 unfold valueV
 have hk:=fun fr=>k11 l a j id 8 fr st h ha (by omega) (by omega)
 have hk6:=fun fr=>k11 l a (j+1) id 6 fr st h ha (by omega) (by omega)
 have hk2:=fun fr=>k11 l a (j+1) id 2 fr st h ha (by omega) (by omega)
 have hk5:=fun fr=>k11 l a (j+1) id 5 fr st h ha (by omega) (by omega)
 have hf1:=fun fr=>k85 l a (j+1) id fr st h ha (by omega)
 generalize fd l a j 8=z at *
 generalize fd l a (j+1) 6=y at *
 have hz:z=0∨z=1∨z=2∨z=3∨z=4∨z=5∨z=6∨z=7:=by omega
 have hy:y=0∨y=1∨y=2∨y=3∨y=4∨y=5:=by omega
 rcases hz with rfl | rfl | rfl | rfl | rfl | rfl | rfl | rfl
 case inr.inr.inl=>rcases hy with rfl | rfl | rfl | rfl | rfl | rfl <;> simp [T6,hk,hk6,hk2,hk5,hf1,-zil,-zit,-znl,-znt,ty2,ty3,ty4,ty9,ty23,ty86,ty88,ty117,ty118,eq88,H55,E55]
 case inr.inr.inr.inr.inl=>rcases hy with rfl | rfl | rfl | rfl | rfl | rfl <;> simp [N6,hk,hk6,hk2,hk5,hf1,-zil,-zit,-znl,-znt,ty2,ty3,ty4,ty9,ty23,ty86,ty88,ty117,ty118,eq88,H55,E55]
 all_goals simp [hk,hk6,hk2,hk5,hf1,-zil,-zit,-znl,-znt,ty2,ty3,ty4,ty9,ty23,ty86,ty88,ty117,ty118,eq88,H55,E55]
end
end Go.Proofs.Ytdoobejjedpcgaa
namespace Go.Ab
open Go
def dd (st:St)(m:Nat):St:={st with objs:=st.objs ++ List.replicate m []}
def nw (st:St)(m:Nat)(cs:List V):St:={st with objs:=st.objs ++ (List.replicate m [] ++ [cs])}
theorem dd_zero (st:St):dd st 0=st:=by unfold dd;simp
theorem dd_len (st:St)(m:Nat):(dd st m).objs.length=st.objs.length+m:=by simp [dd]
theorem gr_len (st:St)(m:Nat)(cs:List V):(nw st m cs).objs.length=st.objs.length+m+1:=by simp [nw];omega
theorem setF_len (st:St)(id:Nat)(l:List Int)(a:Nat):(setF st id l a).objs.length=st.objs.length:=by simp [setF]
theorem setF_wp (st:St)(id:Nat)(l:List Int)(a:Nat):(setF st id l a).wp=st.wp:=rfl
theorem dd_wp (st:St)(m:Nat):(dd st m).wp=st.wp:=rfl
theorem gr_wp (st:St)(m:Nat)(cs:List V):(nw st m cs).wp=st.wp:=rfl
theorem FeedOk.dd {st:St} {id:Nat} (h:FeedOk st id)(m:Nat):FeedOk (dd st m) id:=⟨by rw [dd_len];have:=h.1;omega,h.2⟩
theorem FeedOk.nw {st:St} {id:Nat} (h:FeedOk st id)(m:Nat)(cs:List V):FeedOk (nw st m cs) id:=⟨by rw [gr_len];have:=h.1;omega,h.2⟩
theorem FeedOk.setF {st:St} {id id':Nat} (h:FeedOk st id)(l:List Int)(a:Nat):FeedOk (setF st id' l a) id:=⟨by rw [setF_len];exact h.1,h.2⟩
theorem dd_dd (st:St)(m n:Nat):dd (dd st m) n=dd st (m+n):=by unfold dd;simp [zaa,List.replicate_append_replicate]
theorem setF_dd {st:St} {id:Nat} (h:FeedOk st id)(m:Nat)(l:List Int)(a:Nat):dd (setF st id l a) m=setF (dd st m) id l a:=by
 unfold dd setF;simp only [St.mk.injEq,and_true];rw [List.set_append_left _ _ h.1]
theorem setF_gr {st:St} {id:Nat} (h:FeedOk st id)(m:Nat)(cs:List V)(l:List Int)(a:Nat):nw (setF st id l a) m cs=setF (nw st m cs) id l a:=by
 unfold nw setF;simp only [St.mk.injEq,and_true];rw [List.set_append_left _ _ h.1]
theorem gr_obj (st:St)(m:Nat)(cs:List V):(nw st m cs).objs[st.objs.length+m]?=some cs:=by
 simp [nw]
theorem obj_gr {st:St} {id:Nat} (h:FeedOk st id)(m:Nat)(cs:List V)(l:List Int)(a:Nat):St.obj (setF (nw st m cs) id l a) (st.objs.length+m)=some cs:=by
 unfold St.obj setF
 show ((nw st m cs).objs.set id _)[_]?=_
 rw [List.getElem?_set_ne (by have:=h.1;omega),gr_obj]
theorem set_gr {st:St} {id:Nat} (h:FeedOk st id)(m:Nat)(cs:List V)(l:List Int)(a:Nat):St.set (setF (nw st m cs) id l a) (st.objs.length+m) []=some (setF (dd st (m+1)) id l a):=by
 have h1:=h.1
 have h2:=h.2
 unfold St.set
 rw [if_pos (by rw [setF_wp,gr_wp];omega)]
 rw [← setF_gr h,← setF_dd h]
 unfold nw dd
 simp only [Option.some.injEq,St.mk.injEq,and_true]
 rw [List.set_append_right _ _ (by rw [setF_len];omega),setF_len,show st.objs.length+m - st.objs.length=m by omega,List.set_append_right _ _ (by simp),List.replicate_succ',List.length_replicate,Nat.sub_self]
 rfl
theorem set_gr' {st:St} {id:Nat} (h:FeedOk st id)(m:Nat)(cs cs':List V)(l:List Int)(a:Nat):St.set (setF (nw st m cs) id l a) (st.objs.length+m) cs'=some (setF (nw st m cs') id l a):=by
 have h1:=h.1
 have h2:=h.2
 unfold St.set
 rw [if_pos (by rw [setF_wp,gr_wp];omega)]
 rw [← setF_gr h,← setF_gr h]
 unfold nw
 simp only [Option.some.injEq,St.mk.injEq,and_true]
 rw [List.set_append_right _ _ (by rw [setF_len];omega),setF_len,show st.objs.length+m - st.objs.length=m by omega,List.set_append_right _ _ (by simp),List.length_replicate,Nat.sub_self]
 rfl
theorem newRef_dd {st:St} {id:Nat} (h:FeedOk st id)(fr:Fr)(m k len:Nat)(cs:List V)(l:List Int)(a:Nat) :
  newRef fr (setF (dd st m) id l a) k len cs=.ok (.val (.sref false k (st.objs.length+m) 0 len)) fr (setF (nw st m cs) id l a):=by
 unfold newRef
 rw [setF_len,dd_len,← setF_dd h,← setF_gr h]
 unfold nw dd
 simp
theorem newRef_setF {st:St} {id:Nat} (h:FeedOk st id)(fr:Fr)(k len:Nat)(cs:List V)(l:List Int)(a:Nat) :
  newRef fr (setF st id l a) k len cs=.ok (.val (.sref false k st.objs.length 0 len)) fr (setF (nw st 0 cs) id l a):=by
 have:=newRef_dd h fr 0 k len cs l a
 rw [dd_zero] at this
 exact this
mutual
theorem frz_flat:∀ (n:Nat)(st:St)(v:V),v.flat=true→frz n st v=some (v,st)
 | 0,_,_,_=>by unfold frz;rfl
 | n+1,st,v,h=>by
  unfold frz
  split
  ·simp [V.flat] at h
  ·rw [frzL_flat n st _ (by simpa [V.flat] using h)]
  ·rw [frzL_flat n st _ (by simpa [V.flat] using h)]
  ·rfl
  ·rw [if_pos (by simpa [V.flat] using h)]
  ·rfl
theorem frzL_flat:∀ (n:Nat)(st:St)(l:List V),flats l=true→frzL (frz n) st l=some (l,st)
 | _,_,[],_=>rfl
 | n,st,v :: r,h=>by
  simp only [flats,Bool.and_eq_true] at h
  unfold frzL
  rw [frz_flat n st v h.1]
  simp only
  rw [frzL_flat n st r h.2]
end
theorem frzL_cons {f:St→V→Option (V × St)} {st st':St} {v v':V} {r:List V} (h:f st v=some (v',st')):frzL f st (v :: r)=match frzL f st' r with
   | some (r',st'')=>some (v' :: r',st'')
   | none=>none:=by
 simp only [frzL,h]
 cases frzL f st' r with
 | none=>rfl
 | some x=>rfl
theorem frzL_append {f:St→V→Option (V × St)} {st st' st'':St}:∀ {xs xs' ys ys':List V},frzL f st xs=some (xs',st')→frzL f st' ys=some (ys',st'')→frzL f st (xs ++ ys)=some (xs' ++ ys',st'')
 | [],_,_,_,h,k=>by unfold frzL at h;cases h;exact k
 | v :: r,_,ys,ys',h,k=>by
  unfold frzL at h
  split at h
  ·rename_i v' st1 h1
   split at h
   ·rename_i r' st2 h2
    cases h
    rw [List.cons_append,frzL_cons h1,frzL_append h2 k];rfl
   ·cases h
  ·cases h
theorem chunk_enc {α:Type} (cells:α→List V)(k:Nat)(hk:0<k)(hl:∀ x,(cells x).length=k):∀ (vs:List α),chunk true k vs.length (vs.flatMap cells)=vs.map fun x=>V.agg (cells x)
 | []=>rfl
 | x :: r=>by
  rw [List.length_cons,chunk,List.flatMap_cons,List.take_left' (hl x),List.drop_left' (hl x),chunk_enc cells k hk hl r];rfl
theorem vals_cells_len (vs:List Val):(vs.flatMap Val.cells).length=vs.length*5:=by
 induction vs with
 | nil=>rfl
 | cons x r ih=>simp [List.flatMap_cons,ih,Val.cells];omega
theorem vals_cells_one (vs:List Val):(vs.flatMap Val.cells).all V.one=true:=by
 induction vs with
 | nil=>rfl
 | cons x r ih=>simp [List.flatMap_cons,ih,Val.cells,V.one]
theorem vals_cells_flat (vs:List Val):flats (vs.flatMap Val.cells)=true:=by
 induction vs with
 | nil=>rfl
 | cons x r ih =>
  have:∀ (a b:List V),flats a=true→flats b=true→flats (a ++ b)=true:=by
   intro a
   induction a with
   | nil=>intro b _ h;exact h
   | cons v a iha=>intro b h1 h2;simp only [flats,List.cons_append,Bool.and_eq_true] at h1 ⊢;exact ⟨h1.1,iha b h1.2 h2⟩
  rw [List.flatMap_cons]
  exact this _ _ (by simp [Val.cells,flats,V.flat]) ih
theorem vals_cells_strip (vs:List Val):(vs.flatMap Val.cells).map V.strip1=vs.flatMap Val.cells:=by
 induction vs with
 | nil=>rfl
 | cons x r ih=>simp [List.flatMap_cons,ih,Val.cells,V.strip1]
theorem chunk_vals (vs:List Val):chunk true 5 vs.length (vs.flatMap Val.cells)=encVals vs:=chunk_enc Val.cells 5 (by omega) (fun _=>rfl) vs
theorem frz_vals {st:St} {id:Nat} (h:FeedOk st id)(n m:Nat)(vs:List Val)(hv:vs≠[])(l:List Int)(a:Nat) :
  frz (n+1) (setF (nw st m (vs.flatMap Val.cells)) id l a) (.sref false 5 (st.objs.length+m) 0 vs.length)=some (.slice (encVals vs),setF (dd st (m+1)) id l a):=by
 have hl:¬ vs.length=0:=by simpa using hv
 unfold frz
 simp only [hl,if_false,obj_gr h,set_gr h,vals_cells_len,List.drop_zero,Nat.zero_add,Nat.le_refl,and_true,show (0<5)=True by simp,if_true]
 rw [List.take_of_length_le (by rw [vals_cells_len];omega),vals_cells_strip,frzL_flat _ _ _ (vals_cells_flat vs)]
 simp only [vals_cells_len,vals_cells_one,and_self,if_true]
 rw [show Nat.blt 1 5=true from rfl,chunk_vals]
theorem frz_predcells {st st':St} {n:Nat} {a0 a1 a2 a3 a4 a5 a6 a7 a8 a9 a10 a11 s s':V} (hf:flats [a0,a1,a2,a3,a4,a5,a6,a7,a8,a9,a10,a11]=true)(hs:frz n st s=some (s',st')) :
  frz (n+1) st (.agg [a0,a1,a2,a3,a4,a5,a6,a7,a8,a9,a10,a11,s])=some (.agg [a0,a1,a2,a3,a4,a5,a6,a7,a8,a9,a10,a11,s'],st'):=by
 unfold frz
 have h1:=frzL_flat n st _ hf
 have h2:frzL (frz n) st [s]=some ([s'],st'):=by rw [frzL_cons hs];rfl
 have:=frzL_append h1 h2
 simp only [List.cons_append,List.nil_append] at this
 simp only [this]
theorem frz_nil (n:Nat)(st:St):frz (n+1) st (.sref true 0 0 0 0)=some (.slice [],st):=by unfold frz;rfl
theorem w64_1:IntKind.wrap .i64 1=1:=by kernel_rfl
theorem w64_2:IntKind.wrap .i64 2=2:=by kernel_rfl
theorem w64_3:IntKind.wrap .i64 3=3:=by kernel_rfl
theorem w64_4:IntKind.wrap .i64 4=4:=by kernel_rfl
theorem w64_5:IntKind.wrap .i64 5=5:=by kernel_rfl
theorem w64_6:IntKind.wrap .i64 6=6:=by kernel_rfl
theorem w64_7:IntKind.wrap .i64 7=7:=by kernel_rfl
theorem w64_8:IntKind.wrap .i64 8=8:=by kernel_rfl
theorem w64_9:IntKind.wrap .i64 9=9:=by kernel_rfl
theorem w64_10:IntKind.wrap .i64 10=10:=by kernel_rfl
end Go.Ab
namespace Go.Ab
open Go
def FVR:List (Val × Option (Int × Int)):=[
 (vzero,none),
 (⟨2,0,0,[],false⟩,some (1,0)),(⟨2,0,9223372036854775808,[],false⟩,some (1,0)),(⟨2,0,4607182418800017408,[],false⟩,some (1,3)),
 (⟨2,0,4609434218613702656,[],false⟩,some (1,4)),(⟨2,0,4611686018427387904,[],false⟩,some (1,5)),(⟨2,0,4613937818241073152,[],false⟩,some (1,6)),
 (⟨2,0,13830554455654793216,[],false⟩,some (1,-1)),(⟨2,0,4591870180066957722,[],false⟩,some (1,2)),(⟨2,0,9221120237041090561,[],false⟩,none),
 (⟨2,0,9218868437227405312,[],false⟩,some (1,20)),(⟨2,0,18442240474082181120,[],false⟩,some (1,-20)),(⟨2,0,4845873199050653696,[],false⟩,some (1,8)),
 (⟨2,0,4890909195324358656,[],false⟩,some (1,12)),(⟨2,0,1,[],false⟩,some (1,1)),
 (⟨3,0,0,[],false⟩,some (3,0)),(⟨3,0,0,[97],false⟩,some (3,1)),(⟨3,0,0,[97,98],false⟩,some (3,2)),(⟨3,0,0,[98],false⟩,some (3,3)),(⟨3,0,0,[98,97],false⟩,some (3,4)),
 (⟨3,0,0,[116,119,101,108,118,101,32,98,121,116,101,115],false⟩,some (3,5)),
 (⟨4,0,0,[],false⟩,some (4,0)),(⟨4,0,0,[],true⟩,some (4,1)),
 (⟨1,-9223372036854775808,0,[],false⟩,some (1,-10)),(⟨1,9223372036854775807,0,[],false⟩,some (1,11)),(⟨1,9007199254740992,0,[],false⟩,some (1,8)),(⟨1,9007199254740993,0,[],false⟩,some (1,9)),
 (⟨1,-1,0,[],false⟩,some (1,-1)),(⟨1,4611686018427387904,0,[],false⟩,some (1,10)),(⟨1,0,0,[],false⟩,some (1,0)),(⟨1,1,0,[],false⟩,some (1,3)),(⟨1,2,0,[],false⟩,some (1,5)),(⟨1,3,0,[],false⟩,some (1,6)),(⟨1,4,0,[],false⟩,some (1,7))]
def FV (v:Val)(r:Option (Int × Int)):Prop:=(v,r)∈FVR
end Go.Ab
namespace Go.Ab
open Go
structure PFV (p:Pred):Prop where
 v:∃ r,FV p.v r
 w:∃ r,FV p.w r
 set:∀ x∈p.set,∃ r,FV x r
end Go.Ab
namespace Go.Ab
open Go
def VR (v:Val):Prop:=vright v=true∧∃ r,FV v r
def allVR:List Val:=(FVR.drop 1).map (·.1)
theorem all_right:allVR.all vright=true:=by kernel_rfl
theorem vr_mem {v:Val} (h:v∈allVR):VR v:=by
 refine ⟨List.all_eq_true.1 all_right v h,?_⟩
 unfold allVR at h
 obtain ⟨x,hx,rfl⟩:=List.mem_map.1 h
 exact ⟨x.2,List.mem_of_mem_drop hx⟩
def floatsR:List Val:=F14.map fun x=>⟨2,0,x,[],false⟩
def textsR:List Val:=T6.map fun s=>⟨3,0,0,s,false⟩
def intsR:List Val:=N6.map fun n=>⟨1,n,0,[],false⟩
theorem floats_in:(floatsR.all fun v=>allVR.contains v)=true:=by kernel_rfl
theorem texts_in:(textsR.all fun v=>allVR.contains v)=true:=by kernel_rfl
theorem ints_in:(intsR.all fun v=>allVR.contains v)=true:=by kernel_rfl
theorem smalls_in:((List.range 5).all fun n=>allVR.contains (⟨1,(n:Int),0,[],false⟩:Val))=true:=by kernel_rfl
theorem bools_in:([true,false].all fun b=>allVR.contains (⟨4,0,0,[],b⟩:Val))=true:=by kernel_rfl
theorem of_contains {l:List Val} {f:Val} (h:(l.all fun v=>allVR.contains v)=true)(hf:f∈l):VR f:=by
 have:=List.all_eq_true.1 h f hf
 exact vr_mem (by simpa using this)
theorem vr_float (l:List Int)(a j:Nat):VR ⟨2,0,floatV l a j,[],false⟩:=by
 have hb:=fd_bound l a j (n:=14) (by omega)
 refine of_contains floats_in ?_
 unfold floatsR floatV
 refine List.mem_map.2 ⟨_,?_,rfl⟩
 have hlt:(fd l a j 14).toNat<F14.length:=by show _<14;omega
 rw [List.getD_eq_getElem?_getD,zge hlt]
 exact List.getElem_mem hlt
theorem vr_text {n:Nat} (h:n<6):VR ⟨3,0,0,T6.getD n [],false⟩:=by
 refine of_contains texts_in ?_
 unfold textsR
 refine List.mem_map.2 ⟨_,?_,rfl⟩
 have hlt:n<T6.length:=h
 rw [List.getD_eq_getElem?_getD,zge hlt]
 exact List.getElem_mem hlt
theorem vr_int {n:Nat} (h:n<6):VR ⟨1,N6.getD n 0,0,[],false⟩:=by
 refine of_contains ints_in ?_
 unfold intsR
 refine List.mem_map.2 ⟨_,?_,rfl⟩
 have hlt:n<N6.length:=h
 rw [List.getD_eq_getElem?_getD,zge hlt]
 exact List.getElem_mem hlt
theorem vr_small {n:Int} (h0:0≤n)(h:n<5):VR ⟨1,n,0,[],false⟩:=by
 have:=List.all_eq_true.1 smalls_in n.toNat (List.mem_range.2 (by omega))
 rw [show ((n.toNat:Nat):Int)=n by omega] at this
 exact vr_mem (by simpa using this)
theorem vr_bool (b:Bool):VR ⟨4,0,0,[],b⟩:=by
 have:=List.all_eq_true.1 bools_in b (by cases b <;> simp)
 exact vr_mem (by simpa using this)
theorem vr_value (l:List Int)(a j:Nat):VR (valueV l a j):=by
 unfold valueV
 have h8:=fd_bound l a j (n:=8) (by omega)
 have h6:=fd_bound l a (j+1) (n:=6) (by omega)
 have h5:=fd_bound l a (j+1) (n:=5) (by omega)
 simp only
 repeat' split
 ·exact vr_float _ _ _
 ·exact vr_text (by omega)
 ·exact vr_bool _
 ·exact vr_int (by omega)
 ·exact vr_small (by omega) (by omega)
theorem vr_vals (l:List Int)(a:Nat):∀ (k j:Nat),∀ x∈valsV l a j k,VR x
 | 0,j,x,h=>by simp [valsV] at h
 | k+1,j,x,h=>by
  rcases List.mem_cons.1 h with rfl | h
  ·exact vr_value _ _ _
  ·exact vr_vals l a k _ x h
theorem vals_length (l:List Int)(a:Nat):∀ (k j:Nat),(valsV l a j k).length=k
 | 0,j=>rfl
 | k+1,j=>by simp [valsV,vals_length l a k]
theorem P4_in:(P4.all fun s=>T6.contains s)=true:=by kernel_rfl
theorem vr_P4 {n:Nat} (h:n<4):VR ⟨3,0,0,P4.getD n [],false⟩:=by
 have hlt:n<P4.length:=h
 have h1:P4.getD n []∈P4:=by rw [List.getD_eq_getElem?_getD,zge hlt];exact List.getElem_mem hlt
 have h2:=List.all_eq_true.1 P4_in _ h1
 refine of_contains texts_in ?_
 unfold textsR
 exact List.mem_map.2 ⟨_,by simpa using h2,rfl⟩
theorem fv_zero:∃ r,FV vzero r:=⟨none,by unfold FV FVR;simp⟩
theorem pred_fv (l:List Int)(a j:Nat)(nm:List UInt8):PFV (predV l a j nm).1:=by
 unfold predV
 have h4:=fd_bound l a (j+1) (n:=4) (by omega)
 simp only
 repeat' split
 ·exact ⟨fv_zero,fv_zero,by simp⟩
 ·exact ⟨(vr_P4 (by omega)).2,fv_zero,by simp⟩
 ·exact ⟨fv_zero,fv_zero,fun x hx=>(vr_vals _ _ _ _ x hx).2⟩
 ·exact ⟨(vr_value _ _ _).2,(vr_value _ _ _).2,by simp⟩
 ·exact ⟨(vr_value _ _ _).2,fv_zero,by simp⟩
theorem same_zero:vsame vzero vzero=true:=by kernel_rfl
theorem pred_right (l:List Int)(a j:Nat) {nm:List UInt8} (hn:isWord nm=true):pright (predV l a j nm).1=true:=by
 have h10:=fd_bound l a j (n:=10) (by omega)
 have h4:=fd_bound l a (j+1) (n:=4) (by omega)
 unfold predV
 simp only
 split
 ·simp [pright,hn,same_zero]
 ·split
  ·rename_i h
   have hv:=(vr_P4 (n:=(fd l a (j+1) 4).toNat) (by omega)).1
   generalize P4.getD (fd l a (j+1) 4).toNat []=s at hv
   simp [pright,hn,same_zero,hv]
  ·split
   ·have hv:=fun x hx=>(vr_vals l a ((fd l a (j+1) 4).toNat+1) (j+2) x hx).1
    have hl:=vals_length l a ((fd l a (j+1) 4).toNat+1) (j+2)
    generalize valsV l a (j+2) ((fd l a (j+1) 4).toNat+1)=vs at hv hl
    have hc:vs.all vright=true:=List.all_eq_true.2 hv
    have h5:1≤vs.length∧vs.length≤4:=by omega
    unfold pright
    rw [if_pos hn]
    simp [same_zero,hc,h5,hv]
   ·split
    ·simp [pright,hn,same_zero,(vr_value l a (j+1)).1,(vr_value l a (j+3)).1]
    ·have e1:2≤1+fd l a j 10∧1+fd l a j 10≤7:=by omega
     have e2:¬ 1+fd l a j 10=1:=by omega
     simp only [pright,hn,if_true,e2,if_false,e1,and_self,same_zero,(vr_value l a (j+1)).1,List.length_nil,decide_true,Bool.and_self]
theorem pred_asks (l:List Int)(a j:Nat)(nm:List UInt8):(predV l a j nm).2≤10:=by
 have h4:=fd_bound l a (j+1) (n:=4) (by omega)
 unfold predV
 simp only
 repeat' split
 all_goals (simp only;omega)
theorem ok_of_right {p:Pred} (h:pright p=true):p.ok:=by
 unfold pright at h
 split at h
 ·rename_i hw
  unfold isWord at hw
  simp only [Bool.and_eq_true,decide_eq_true_eq] at hw
  refine ⟨by omega,?_⟩
  repeat' split at h
  all_goals first
   | (simp only [Bool.and_eq_true,decide_eq_true_eq] at h;omega)
   | cases h
 ·cases h
end Go.Ab
