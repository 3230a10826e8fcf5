/- whatever is put, ticked, lost, said twice, or strange, an end does and says what the document's does. No condition. Part 1. -/
import Derived.WalkKit
import Derived.KernelRfl
import Derived.Still
import Derived.Laws.Build
import Derived.Laws.BytesString
import Derived.Laws.Strings
import Derived.Laws.Small
import Derived.Laws.Pointers
import Derived.Laws.StructEq
import Derived.Lib.SlBytesConst
import Derived.Laws.MakeOwn
import Derived.Laws.IdiomCopy
set_option linter.unusedVariables false
set_option linter.unusedSimpArgs false
set_option linter.unnecessarySimpa false
set_option maxHeartbeats 8000000
set_option maxRecDepth 20000
open Int renaming not_le → zil, not_lt → zit, natCast_add → zia
open Nat renaming not_le → znl, not_lt → znt
open List renaming getElem?_eq_getElem → zge, getElem?_eq_some_iff → zgs, append_assoc → zaa, mem_of_getElem? → zmg, length_append → zla
namespace Go.Ab
open Go
inductive V where
 | any
 | bool (b:Bool)
 | int (k:IntKind) (n:Int)
 | float (k:FloatKind) (b:Nat)
 | str (s:List UInt8)
 | nilp
 | ptr (id off:Nat)
 | ep (cs:List V)
 | slice (xs:List V)
 | osl (k:Nat) (xs:List V)
 | sref (f:Bool) (k id off len:Nat)
 | func (f:Nat) (first cap:List V)
 | nilf
 | iface (t:Nat) (v:V)
 | nili
 | agg (cs:List V)
 | tuple (vs:List V)
 deriving Inhabited
def V.strip1:V→V
 | .osl _ xs=>.slice xs
 | v=>v
def V.strip:V→V
 | .osl _ xs=>.slice xs
 | .agg cs=>.agg (cs.map V.strip1)
 | v=>v
def V.one:V→Bool
 | .any=>false
 | .agg _=>false
 | .tuple _=>false
 | _=>true
def V.cells:V→List V
 | .agg cs=>cs
 | v=>[v]
inductive Pl where
 | slot (s:Nat)
 | mem (id off:Nat)
 | loc (s off:Nat)
 deriving DecidableEq
inductive E where
 | any
 | val (v:V)
 | lp (s off:Nat)
 | own (k:Nat) (xs:List V)
 | bor (k:Nat) (xs:List V) (p:Pl)
 deriving Inhabited
def E.v?:E→Option V
 | .val v=>some v.strip
 | .own _ xs=>some (.slice xs)
 | .bor _ xs _=>some (.slice xs)
 | _=>none
inductive TK where
 | bool | int (k:IntKind) | float (k:FloatKind) | str | pointer
 | slice (esz ebytes:Nat) (eagg:Bool) (ez:List V)
 | array (n esz:Nat) (eagg:Bool)
 | struct (fs:List (Nat × Nat × Bool))
 | func | iface | other
 deriving Inhabited
structure TI where
 k:TK
 size:Nat
 agg:Bool
 zero:List V
 deriving Inhabited
inductive Ext where
 | floatBits | floatOf | trunc
 deriving DecidableEq
structure FI where
 body:Code
 ntmps:Nat
 results:List ResultVar
 pers:List Nat
 locals:List Nat
 pure:Bool
 marks:List Nat
structure G where
 ty:Nat→Option TI
 fn:Nat→Option FI
 ext:Nat→Option Ext
 run:Option (Nat × Nat)
 eqs:Nat→Option (List TK)
 u8:Nat→Bool
 con:Nat→Bool
structure Fr where
 ps:List (Nat × E)
 ts:List (Nat × E)
 lc:List (Nat × List V)
structure St where
 objs:List (List V)
 wp:Nat
inductive Out where
 | ret (v:V) (k:Option Nat)
 | pan (v:V)
def lk {α:Type}:List (Nat × α)→Nat→Option α
 | [],_=>none
 | (k,e) :: r,n=>if k == n then some e else lk r n
def lset {α:Type}:List (Nat × α)→Nat→α→List (Nat × α)
 | [],_,_=>[]
 | (k,e) :: r,n,x=>if k == n then (k,x) :: r else (k,e) :: lset r n x
noncomputable def lkR {α:Type} (l:List (Nat × α))(n:Nat):Option α:=List.rec (motive:=fun _=>Option α) none (fun x _ ih=>cond (Nat.beq x.1 n) (some x.2) ih) l
noncomputable def lsetR {α:Type} (l:List (Nat × α))(n:Nat)(e:α):List (Nat × α):=List.rec (motive:=fun _=>List (Nat × α)) [] (fun x r ih=>cond (Nat.beq x.1 n) ((n,e) :: r) (x :: ih)) l
noncomputable def mapR (f:E→E)(l:List (Nat × E)):List (Nat × E):=List.rec (motive:=fun _=>List (Nat × E)) [] (fun x _ ih=>(x.1,f x.2) :: ih) l
theorem cond_beq {α:Type} (a b:Nat)(x y:α):cond (Nat.beq a b) x y=if a == b then x else y:=by
 by_cases h:a=b
 ·subst h;simp
 ·have h1:Nat.beq a b=false:=by
   cases h2:Nat.beq a b with
   | false=>rfl
   | true=>exact absurd (Nat.eq_of_beq_eq_true h2) h
  simp [h,h1]
theorem cond_blt {α:Type} (a b:Nat)(x y:α):cond (Nat.blt a b) x y=if Nat.blt a b then x else y:=by cases Nat.blt a b <;> rfl
theorem lkR_eq {α:Type} (l:List (Nat × α))(n:Nat):lkR l n=lk l n:=by
 induction l with
 | nil=>rfl
 | cons x r ih =>
  obtain ⟨k,e⟩:=x
  show cond (Nat.beq k n) (some e) (lkR r n)=_
  rw [ih,cond_beq,lk]
theorem lsetR_eq {α:Type} (l:List (Nat × α))(n:Nat)(e:α):lsetR l n e=lset l n e:=by
 induction l with
 | nil=>rfl
 | cons x r ih =>
  obtain ⟨k,f⟩:=x
  show cond (Nat.beq k n) ((n,e) :: r) ((k,f) :: lsetR r n e)=_
  rw [ih,cond_beq,lset]
  split
  ·rename_i h;rw [beq_iff_eq] at h;rw [h]
  ·rfl
theorem mapR_eq (f:E→E)(l:List (Nat × E)):mapR f l=l.map (fun x=>(x.1,f x.2)):=by
 induction l with
 | nil=>rfl
 | cons x r ih=>show (x.1,f x.2) :: mapR f r=_;rw [ih];rfl
noncomputable def Fr.get (fr:Fr)(s:Nat):E :=
 match lkR fr.ps s with
 | some e=>e
 | none=>(lkR fr.ts s).getD .any
theorem Fr.get_def (fr:Fr)(s:Nat):fr.get s=match lk fr.ps s with
 | some e=>e
 | none=>(lk fr.ts s).getD .any:=by unfold Fr.get;rw [lkR_eq,lkR_eq]
def E.inval (p:Pl):E→E
 | .bor k xs q=>if q=p then .val (.slice xs) else .bor k xs q
 | e=>e
def E.noMem:E→E
 | .bor _ xs (.mem _ _)=>.val (.slice xs)
 | e=>e
def E.noLoc:E→E
 | .bor _ xs (.loc _ _)=>.val (.slice xs)
 | e=>e
def E.noLp (s:Nat):E→E
 | .lp t o=>if t == s then .any else .lp t o
 | .bor k xs (.loc t o)=>if t == s then .val (.slice xs) else .bor k xs (.loc t o)
 | e=>e
noncomputable def Fr.map (fr:Fr)(f:E→E):Fr :=
 {fr with ps:=mapR f fr.ps,ts:=mapR f fr.ts}
theorem Fr.map_def (fr:Fr)(f:E→E):fr.map f={fr with ps:=fr.ps.map (fun x=>(x.1,f x.2)),ts:=fr.ts.map (fun x=>(x.1,f x.2))}:=by
 unfold Fr.map;rw [mapR_eq,mapR_eq]
def ins {α:Type}:List (Nat × α)→Nat→α→List (Nat × α)
 | [],n,x=>[(n,x)]
 | (k,e) :: r,n,x=>if k == n then (n,x) :: r else if Nat.blt n k then (k,e) :: ins r n x else (n,x) :: (k,e) :: r
noncomputable def insR {α:Type} (l:List (Nat × α))(n:Nat)(e:α):List (Nat × α):=List.rec (motive:=fun _=>List (Nat × α)) [(n,e)] (fun x r ih=>cond (Nat.beq x.1 n) ((n,e) :: r) (cond (Nat.blt n x.1) (x :: ih) ((n,e) :: x :: r))) l
theorem insR_eq {α:Type} (l:List (Nat × α))(n:Nat)(e:α):insR l n e=ins l n e:=by
 induction l with
 | nil=>rfl
 | cons x r ih =>
  obtain ⟨k,f⟩:=x
  show cond (Nat.beq k n) ((n,e) :: r) (cond (Nat.blt n k) ((k,f) :: insR r n e) ((n,e) :: (k,f) :: r))=_
  rw [ih,cond_beq,cond_blt,ins]
noncomputable def Fr.raw (fr:Fr)(s:Nat)(e:E):Fr :=
 match lkR fr.ps s with
 | some _=>{fr with ps:=lsetR fr.ps s e}
 | none=>{fr with ts:=insR fr.ts s e}
theorem Fr.raw_def (fr:Fr)(s:Nat)(e:E):fr.raw s e=match lk fr.ps s with
 | some _=>{fr with ps:=lset fr.ps s e}
 | none=>{fr with ts:=ins fr.ts s e}:=by unfold Fr.raw;rw [lkR_eq,lsetR_eq,insR_eq]
def E.isLent:E→Bool
 | .bor _ _ (.slot _)=>true
 | _=>false
noncomputable def anyR (l:List (Nat × E)):Bool:=List.rec (motive:=fun _=>Bool) false (fun x _ ih=>cond x.2.isLent true ih) l
theorem anyR_no:∀ {l:List (Nat × E)} (p:Nat),anyR l=false→l.map (fun x=>(x.1,x.2.inval (.slot p)))=l
 | [],_,_=>rfl
 | x :: r,p,h=>by
  have h':cond x.2.isLent true (anyR r)=false:=h
  cases hx:x.2.isLent with
  | true=>rw [hx] at h';cases h'
  | false =>
   rw [hx] at h'
   rw [List.map_cons,anyR_no p h']
   obtain ⟨k,e⟩:=x
   congr 2
   cases e with
   | bor n xs q =>
    cases q with
    | slot u=>cases hx
    | mem i o=>simp [E.inval]
    | loc i o=>simp [E.inval]
   | _=>rfl
noncomputable def Fr.put (fr:Fr)(s:Nat)(e:E):Fr :=
 match cond (anyR fr.ps) true (anyR fr.ts) with
 | true=>(fr.map (E.inval (.slot s))).raw s (e.inval (.slot s))
 | false=>fr.raw s (e.inval (.slot s))
theorem Fr.put_def (fr:Fr)(s:Nat)(e:E):fr.put s e=(fr.map (E.inval (.slot s))).raw s (e.inval (.slot s)):=by
 unfold Fr.put
 cases h1:anyR fr.ps with
 | true=>rfl
 | false =>
  cases h2:anyR fr.ts with
  | true=>rfl
  | false =>
   have:fr.map (E.inval (.slot s))=fr:=by rw [Fr.map_def,anyR_no s h1,anyR_no s h2]
   rw [this];rfl
noncomputable def Fr.putO (fr:Fr):Option Nat→E→Fr
 | some s,e=>fr.put s e
 | none,_=>fr
mutual
def constV:Value→V
 | .bool b=>.bool b
 | .int k n=>.int k n
 | .float k b=>.float k b
 | .string s=>.str s.data.toList
 | .pointer none=>.nilp
 | .slice none 0 0=>.osl 0 []
 | .nilFunc=>.nilf
 | .nilIface=>.nili
 | .agg cs=>.agg (constVs cs.toList)
 | _=>.any
def constVs:List Value→List V
 | []=>[]
 | v :: r=>constV v :: constVs r
end
def V.toE:V→E
 | .osl k xs=>.own k xs
 | v=>.val v
noncomputable def Fr.op (fr:Fr):Operand→E
 | .tmp t=>fr.get t
 | .const v=>(constV v).toE
 | .func f=>.val (.func f [] [])
 | .global _=>.any
noncomputable def Fr.lend (fr:Fr):Operand→E
 | .tmp t=>match fr.get t with
  | .own k xs=>.bor k xs (.slot t)
  | e=>e
 | x=>fr.op x
def St.obj (st:St)(id:Nat):Option (List V):=st.objs[id]?
def St.set (st:St)(id:Nat)(cs:List V):Option St :=
 if st.wp≤id then some {st with objs:=st.objs.set id cs} else none
noncomputable def Fr.loc (fr:Fr)(s:Nat):Option (List V):=lkR fr.lc s
theorem Fr.loc_def (fr:Fr)(s:Nat):fr.loc s=lk fr.lc s:=lkR_eq _ _
noncomputable def Fr.setLoc (fr:Fr)(s:Nat)(cs:List V):Fr:={fr with lc:=lsetR fr.lc s cs}
theorem Fr.setLoc_def (fr:Fr)(s:Nat)(cs:List V):fr.setLoc s cs={fr with lc:=lset fr.lc s cs}:=by unfold Fr.setLoc;rw [lsetR_eq]
def E.weak:E→E
 | .own _ xs=>.val (.slice xs)
 | .bor _ xs _=>.val (.slice xs)
 | e=>e
noncomputable def consume (fr:Fr)(st:St)(xs:List V):Pl→Option (Fr × St)
 | .slot s=>some (fr.put s (fr.get s).weak,st)
 | .mem id off=>match st.obj id with
  | some cs=>match cs[off]? with
   | some c=>(st.set id (cs.set off c.strip1)).map fun st=>(fr.map E.noMem,st)
   | none=>none
  | none=>none
 | .loc s off=>match fr.loc s with
  | some cs=>match cs[off]? with
   | some c=>some ((fr.setLoc s (cs.set off c.strip1)).map E.noLoc,st)
   | none=>none
  | none=>none
noncomputable def take (fr:Fr)(st:St):Operand→Option (E × Fr × St)
 | .tmp t=>match fr.get t with
  | .own k xs=>some (.own k xs,fr.put t (.val (.slice xs)),st)
  | .bor k xs p=>(consume fr st xs p).map fun (fr,st)=>(.own k xs,fr,st)
  | e=>some (e,fr,st)
 | x=>some (fr.op x,fr,st)
def upE (g:G)(t:Nat):E→E
 | .own k xs=>match g.ty t with
  | some {k:=.slice esz _ _ _,..}=>if k == 0 && !xs.isEmpty then .own esz xs else .own k xs
  | _=>.own k xs
 | e=>e
def E.cells?:E→Option (List V)
 | .val v=>some v.cells
 | .own k xs=>some [.osl k xs]
 | _=>none
def boxCells:E→Option (List V)
 | .val v=>if v.cells.all V.one then some v.cells else none
 | .own _ xs=>some [.slice xs]
 | .bor _ xs _=>some [.slice xs]
 | _=>none
def cellE (p:Pl):V→E
 | .osl k xs=>.bor k xs p
 | .any=>.any
 | v=>.val v
def loadCs (ti:TI)(off:Nat)(p:Pl)(cs:List V):Option E :=
 if ti.agg then
  if off+ti.size≤cs.length then some (.val (.agg (((cs.drop off).take ti.size).map V.strip1))) else none
 else (cs[off]?).map (cellE p)
def splice (cs:List V)(off:Nat)(xs:List V):Option (List V) :=
 if off+xs.length≤cs.length then some (cs.take off ++ xs ++ cs.drop (off+xs.length)) else none
inductive Rs where
 | ok (e:E) (fr:Fr) (st:St)
 | pan (v:V) (st:St)
def okE (fr:Fr)(st:St)(e:Option E):Option Rs:=e.map fun e=>.ok e fr st
def okV (fr:Fr)(st:St)(v:Option V):Option Rs:=v.map fun v=>.ok v.toE fr st
def partV (size:Nat)(agg:Bool)(cs:List V)(off:Nat):Option V :=
 if agg then (if off+size≤cs.length then some (.agg ((cs.drop off).take size)) else none) else cs[off]?
def fillV (place:Nat→Option (Nat × Nat))(cells:List V):List (Nat × Option (List V))→Option (List V)
 | []=>some cells
 | (_,none) :: _=>none
 | (i,some cs) :: r =>
  match place i with
  | none=>none
  | some (off,size)=>if cs.length == size then (match splice cells off cs with | some c=>fillV place c r | none=>none) else none
def E.part? (e:E):Option (List V) :=
 match e.v? with
 | some .any=>none
 | some v=>some v.cells
 | none=>none
def intBin (op:BinOp)(k:IntKind)(a b:Int):Option V :=
 match op with
 | .add=>some (.int k (k.wrap (a+b)))
 | .sub=>some (.int k (k.wrap (a - b)))
 | .mul=>some (.int k (k.wrap (a*b)))
 | .quo=>if b=0 then none else some (.int k (k.wrap (a.tdiv b)))
 | .rem=>if b=0 then none else some (.int k (a.tmod b))
 | .and=>some (.int k (k.wrap ((BitVec.ofInt k.bits a &&& BitVec.ofInt k.bits b).toNat)))
 | .or=>some (.int k (k.wrap ((BitVec.ofInt k.bits a ||| BitVec.ofInt k.bits b).toNat)))
 | .xor=>some (.int k (k.wrap ((BitVec.ofInt k.bits a ^^^ BitVec.ofInt k.bits b).toNat)))
 | .andNot=>some (.int k (k.wrap ((BitVec.ofInt k.bits a &&& ~~~BitVec.ofInt k.bits b).toNat)))
 | .eql=>some (.bool (a == b))
 | .neq=>some (.bool (a != b))
 | .lss=>some (.bool (decide (a<b)))
 | .leq=>some (.bool (decide (a≤b)))
 | .gtr=>some (.bool (decide (a > b)))
 | .geq=>some (.bool (decide (a ≥ b)))
 | _=>none
def shiftV (op:BinOp)(k:IntKind)(a b:Int):Option V :=
 if b<0 then none else
 match op with
 | .shl=>some (.int k (k.wrap (a*2 ^ (min b.toNat k.bits))))
 | .shr=>some (.int k (a.fdiv (2 ^ (min b.toNat k.bits))))
 | _=>none
def floatBin (op:BinOp)(k:FloatKind)(x y:Nat):Option V :=
 let c:=k.format.order x y
 let r (o:Option Nat):Option V:=some (match o with | some b=>.float k b | none=>.any)
 match op with
 | .eql=>some (.bool (c == some .eq))
 | .neq=>some (.bool (c != some .eq))
 | .lss=>some (.bool (c == some .lt))
 | .leq=>some (.bool (c == some .lt || c == some .eq))
 | .gtr=>some (.bool (c == some .gt))
 | .geq=>some (.bool (c == some .gt || c == some .eq))
 | .add=>r (k.format.add x y)
 | .sub=>r (k.format.sub x y)
 | .mul=>r (k.format.mul x y)
 | .quo=>r (k.format.div x y)
 | _=>none
def strBin (op:BinOp)(x y:List UInt8):Option V :=
 let eq:=x == y
 let lt:=Op.bytesLess x y
 match op with
 | .add=>if x.length+y.length<2 ^ 60 then some (.str (x ++ y)) else none
 | .eql=>some (.bool eq)
 | .neq=>some (.bool !eq)
 | .lss=>some (.bool lt)
 | .leq=>some (.bool (lt || eq))
 | .gtr=>some (.bool !(lt || eq))
 | .geq=>some (.bool !lt)
 | _=>none
def eqScalar:TK→V→V→Option Bool
 | .bool,.bool a,.bool b=>some (a == b)
 | .int _,.int k a,.int k' b=>if k=k' then some (a == b) else none
 | .float _,.float k a,.float k' b=>if k=k' then some (Op.floatEq k a b) else none
 | .str,.str a,.str b=>some (a == b)
 | _,_,_=>none
def eqCells:List TK→List V→List V→Option Bool
 | [],[],[]=>some true
 | t :: q,a :: r,b :: s=>match eqScalar t a b,eqCells q r s with
  | some x,some y=>some (x && y)
  | _,_=>none
 | _,_,_=>none
def eqV (k:Option TK)(a b:V):Option Bool :=
 match k,a,b with
 | some .bool,.bool a,.bool b=>some (a == b)
 | some .pointer,.nilp,.nilp=>some true
 | some .pointer,.nilp,.ptr _ _=>some false
 | some .pointer,.ptr _ _,.nilp=>some false
 | some .func,.nilf,.nilf=>some true
 | some .func,.nilf,.func _ _ _=>some false
 | some .func,.func _ _ _,.nilf=>some false
 | some .iface,.nili,.iface _ _=>some false
 | some .iface,.iface _ _,.nili=>some false
 | _,_,_=>none
def binV (k:Option TK)(op:BinOp)(x y:V):Option V :=
 match op,x,y with
 | .shl,.int k a,.int _ b | .shr,.int k a,.int _ b=>shiftV op k a b
 | op,.int k a,.int k' b=>if k=k' then intBin op k a b else none
 | op,.float k a,.float k' b=>if k=k' then floatBin op k a b else none
 | op,.str a,.str b=>strBin op a b
 | .eql,x,y=>(eqV k x y).map .bool
 | .neq,x,y=>(eqV k x y).map fun b=>.bool !b
 | _,_,_=>none
def binAgg (ks:List TK)(op:BinOp)(x y:List V):Option V :=
 match op with
 | .eql=>(eqCells ks x y).map .bool
 | .neq=>(eqCells ks x y).map fun b=>.bool !b
 | _=>none
def unV (op:UnOp)(x:V):Option V :=
 match op,x with
 | .not,.bool b=>some (.bool !b)
 | .neg,.int k n=>intBin .sub k 0 n
 | .neg,.float k b=>some (.float k (Op.negFloat k b))
 | .xor,.int k n=>intBin .xor k (if k.signed then -1 else k.max) n
 | _,_=>none
def bytesOf:List V→Option (List UInt8)
 | []=>some []
 | .int .u8 n :: r=>(bytesOf r).map (UInt8.ofNat n.toNat :: ·)
 | _=>none
def byteVs (s:List UInt8):List V:=s.map fun b=>.int .u8 b.toNat
def convV (su:Bool)(dst:TK)(x:V):Option E :=
 match dst,x with
 | .int k,.int _ n=>some (.val (.int k (k.wrap n)))
 | .float k,.int _ n=>some (.val (.float k (k.nearest n)))
 | .int k,.float s b=>match (s.decode b).toInt .zero with
  | some n=>if k.min≤n∧n≤k.max then some (.val (.int k n)) else some .any
  | none=>some .any
 | .float k,.float s b=>if s=k then some (.val (.float k b)) else none
 | .str,.str s=>some (.val (.str s))
 | .str,.slice xs=>if su then (bytesOf xs).map fun s=>.val (.str s) else none
 | _,_=>none
def clip (x:Option Int)(d hi:Nat):Option Nat :=
 match x with
 | none=>some d
 | some n=>if 0≤n∧n≤(hi:Int) then some n.toNat else none
def elemV (agg:Bool)(cs:List V):V:=if agg then .agg cs else (cs.headD .any)
end Go.Ab
namespace Go.Ab
open Go
def E.int?:E→Option Int
 | .val (.int _ n)=>some n
 | _=>none
def E.bool?:E→Option Bool
 | .val (.bool b)=>some b
 | _=>none
def vsOf:List E→Option (List V)
 | []=>some []
 | e :: r=>match e.v? with
  | some v=>(vsOf r).map (v :: ·)
  | none=>none
noncomputable def boundOf (fr:Fr):Option Operand→Option (Option Int)
 | none=>some none
 | some x=>match (fr.op x).int? with
  | some n=>some (some n)
  | none=>none
def sizesOk (esz:Nat):List V→Bool
 | []=>true
 | v :: r=>v.cells.length == esz && v.cells.all V.one && sizesOk esz r
def sliceStep (k:TK)(x:V)(lo hi mx:Option Int):Option E :=
 match k,x,mx with
 | .str,.str s,none =>
  match clip hi s.length s.length with
  | some h=>match clip lo 0 h with
   | some l=>some (.val (.str ((s.take h).drop l)))
   | none=>none
  | none=>none
 | .slice esz _ _ _,.slice xs,none =>
  if sizesOk esz xs then
   match clip hi xs.length xs.length with
   | some h=>match clip lo 0 h with
    | some l=>some (.val (.slice ((xs.take h).drop l)))
    | none=>none
   | none=>none
  else none
 | .slice esz _ _ _,.sref f k id off len,none =>
  if k=esz∧0<k then
   match clip hi len len with
   | some h=>match clip lo 0 h with
    | some l=>if l=h then some (.val (.slice [])) else some (.val (.sref (f && h == len) k id (off+l*k) (h - l)))
    | none=>none
   | none=>none
  else none
 | .slice esz _ _ _,.sref f k id off len,some m =>
  if k=esz∧0<k then
   match hi with
   | some h' =>
    match clip (some h') 0 len with
    | some h=>if m=(h:Int) then
      match clip lo 0 h with
      | some l=>if l=h then some (.own 0 []) else some (.val (.sref true k id (off+l*k) (h - l)))
      | none=>none
     else none
    | none=>none
   | none=>none
  else none
 | .slice esz _ _ _,.slice xs,some m =>
  if sizesOk esz xs then
   match hi with
   | some h' =>
    match clip (some h') 0 xs.length with
    | some h=>if m=(h:Int) then
      match clip lo 0 h with
      | some l=>some (.own esz ((xs.take h).drop l))
      | none=>none
     else none
    | none=>none
   | none=>none
  else none
 | _,_,_=>none
inductive Place where
 | loc (s off:Nat) (cs:List V)
 | mem (id off:Nat) (cs:List V)
 | imm (cs:List V)
noncomputable def placeOf (fr:Fr)(st:St):E→Option Place
 | .lp s off=>(fr.loc s).map fun cs=>.loc s off cs
 | .val (.ptr id off)=>(st.obj id).map fun cs=>.mem id off cs
 | .val (.ep cs)=>some (.imm cs)
 | _=>none
noncomputable def loadAt (ti:TI)(fr:Fr)(st:St)(e:E):Option E :=
 match placeOf fr st e with
 | some (.loc s off cs)=>loadCs ti off (.loc s off) cs
 | some (.mem id off cs)=>loadCs ti off (.mem id off) cs
 | some (.imm cs)=>if ti.agg then (if ti.size≤cs.length then some (.val (.agg (cs.take ti.size))) else none) else (cs[0]?).map E.val
 | none=>none
noncomputable def storeAt (size:Nat)(fr:Fr)(st:St)(a:E)(cs:List V):Option (Fr × St) :=
 if cs.length == size && cs.all V.one && decide (0<size) then
  match placeOf fr st a with
  | some (.loc s off old)=>(splice old off cs).map fun new=>((fr.setLoc s new).map E.noLoc,st)
  | some (.mem id off old)=>match splice old off cs with
   | some new=>(st.set id new).map fun st=>(fr.map E.noMem,st)
   | none=>none
  | _=>none
 else none
def addrAdd (e:E)(n:Nat):Option E :=
 match e with
 | .lp s off=>some (.lp s (off+n))
 | .val (.ptr id off)=>some (.val (.ptr id (off+n)))
 | .val (.ep cs)=>if n≤cs.length then some (.val (.ep (cs.drop n))) else none
 | _=>none
def elemsOf:E→Option (List V)
 | .val (.slice xs)=>some xs
 | .own _ xs=>some xs
 | .bor _ xs _=>some xs
 | _=>none
def indexAddrStep (ti:TI)(x:E)(i:Int):Option E :=
 match ti.k with
 | .array n esz _=>if 0≤i∧i<(n:Int) then addrAdd x (i.toNat*esz) else none
 | .slice esz _ _ _ =>
  match x with
  | .val (.sref _ k id off len)=>if k=esz∧0≤i∧i<(len:Int) then some (.val (.ptr id (off+i.toNat*k))) else none
  | x =>
  match elemsOf x with
  | some xs=>if 0≤i then
    match xs[i.toNat]? with
    | some v=>if v.cells.length == esz then some (.val (.ep v.cells)) else none
    | none=>none
   else none
  | none=>none
 | _=>none
def indexStep (ti:TI)(x:V)(i:Int):Option V :=
 match ti.k,x with
 | .array n esz eagg,.agg cs=>if 0≤i∧i<(n:Int) then partV esz eagg cs (i.toNat*esz) else none
 | .str,.str s=>if 0≤i then (s[i.toNat]?).map fun b=>.int .u8 b.toNat else none
 | _,_=>none
def appended (tk:Option TK)(x:E):Option (List V) :=
 match tk with
 | some (.slice _ _ _ _)=>elemsOf x
 | some .str=>match x with | .val (.str s)=>some (byteVs s) | _=>none
 | _=>none
noncomputable def baseOf (esz:Nat)(fr:Fr)(st:St)(x:Operand):Option (List V × Fr × St) :=
 match take fr st x with
 | some (.own k xs,fr,st)=>if k == 0 || k == esz then some (xs,fr,st) else none
 | _=>none
def lenE:TK→E→Option V
 | .str,.val (.str s)=>some (.int .i64 s.length)
 | .slice _ _ _ _,.val (.sref _ _ _ _ len)=>some (.int .i64 len)
 | .slice _ _ _ _,e=>match elemsOf e with
  | some xs=>some (.int .i64 xs.length)
  | none=>none
 | .array n _ _,_=>some (.int .i64 n)
 | _,_=>none
def minMax (max:Bool):V→List V→Option V
 | v,[]=>some v
 | .int k x,.int _ y :: r=>minMax max (.int k (if max then (if y > x then y else x) else (if y<x then y else x))) r
 | _,_=>none
noncomputable def appendStep (g:G)(fr:Fr)(st:St)(argTypes:Array TypeId)(args:Array Operand):Option Rs :=
 match argTypes[0]?,args[0]?,args[1]? with
 | some t,some s,some x =>
  match g.ty t with
  | some {k:=.slice esz eb _ ez,..} =>
   match appended ((argTypes[1]?).bind fun u=>(g.ty u).map TI.k) (fr.op x) with
   | some ys =>
    match baseOf esz fr st s with
    | some (xs,fr,st) =>
     if (xs.length+ys.length)*eb≤2 ^ 47∧xs.length+ys.length≤2 ^ 47∧0<esz∧sizesOk esz ys=true∧sizesOk esz xs=true∧ez.length=esz then
      some (.ok (.own esz (xs ++ ys)) fr st)
     else none
    | none=>none
   | none=>none
  | _=>none
 | _,_,_=>none
def chunk (eagg:Bool)(esz:Nat):Nat→List V→List V
 | 0,_=>[]
 | n+1,cs=>elemV eagg (cs.take esz) :: chunk eagg esz n (cs.drop esz)
noncomputable def elemsAt (eagg:Bool)(esz:Nat)(st:St):E→Option (List V)
 | .val (.sref _ k id off len) =>
  if len=0 then some [] else
  match st.obj id with
  | some cs=>if k=esz∧off+len*esz≤cs.length∧(eagg || esz == 1)=true∧(cs.map V.strip1).all V.one=true then some (chunk eagg esz len (((cs.drop off).take (len*esz)).map V.strip1)) else none
  | none=>none
 | e=>elemsOf e
noncomputable def copyStep (g:G)(fr:Fr)(st:St)(argTypes:Array TypeId)(args:Array Operand):Option Rs :=
 match argTypes[0]?,args[0]?,args[1]?,(argTypes[1]?).bind g.ty with
 | some t,some s,some x,some {k:=.slice _ _ eagg _,..} =>
  match g.ty t with
  | some {k:=.slice esz _ _ _,..} =>
   match elemsAt eagg esz st (fr.op x) with
   | some ys =>
    if 0<esz∧sizesOk esz ys=true then
     match fr.op s with
     | .val (.sref _ k id off len) =>
      if k=esz then
       if min ys.length len=0 then some (.ok (.val (.int .i64 0)) fr st) else
       match storeAt (((ys.take (min ys.length len)).flatMap V.cells).length) fr st (.val (.ptr id off)) ((ys.take (min ys.length len)).flatMap V.cells) with
       | some (fr,st)=>some (.ok (.val (.int .i64 ((min ys.length len:Nat):Int))) fr st)
       | none=>none
      else none
     | .val (.slice [])=>some (.ok (.val (.int .i64 0)) fr st)
     | _=>none
    else none
   | none=>none
  | _=>none
 | _,_,_,_=>none
noncomputable def builtinStep (g:G)(fr:Fr)(st:St)(b:Builtin)(argTypes:Array TypeId)(args:Array Operand):Option Rs :=
 match b with
 | .append=>appendStep g fr st argTypes args
 | .copy=>copyStep g fr st argTypes args
 | .len =>
  match args[0]?,(argTypes[0]?).bind g.ty with
  | some x,some ti=>okV fr st (lenE ti.k (fr.op x))
  | _,_=>none
 | .max=>match vsOf (args.toList.map fr.op) with
  | some (v :: r)=>okV fr st (minMax true v r)
  | _=>none
 | .min=>match vsOf (args.toList.map fr.op) with
  | some (v :: r)=>okV fr st (minMax false v r)
  | _=>none
 | _=>none
def buildCells (ti:TI)(parts:List (Nat × Option (List V))):Option (List V) :=
 match ti.k with
 | .struct fs=>fillV (fun i=>(fs[i]?).map fun f=>(f.1,f.2.1)) ti.zero parts
 | .array _ esz _=>fillV (fun i=>some (i*esz,esz)) ti.zero parts
 | _=>none
def buildSliceV (esz:Nat)(eagg:Bool)(ez:List V)(len:Nat)(parts:List (Nat × Option (List V))):Option V :=
 if 0<esz∧len*esz≤2 ^ 24∧ez.length=esz∧(eagg || esz == 1)=true then
  match fillV (fun i=>some (i*esz,esz)) ((List.replicate len ez).flatten) parts with
  | some cs=>if (cs.map V.strip1).all V.one then some (.osl esz (chunk eagg esz len (cs.map V.strip1))) else none
  | none=>none
 else none
def nilRef:V→V
 | .osl 0 []=>.sref true 0 0 0 0
 | v=>v
def nilRefs (fi:FI)(o:Oper)(cs:List V):List V :=
 match o.dst with
 | some d=>if fi.marks.contains (d+2000000) then cs.map nilRef else cs
 | none=>cs
def litV:V→E
 | .osl _ []=>.val (.osl 0 [])
 | v=>v.toE
def litE (fi:FI)(o:Oper)(v:V):E :=
 match o.dst with
 | some d=>if fi.marks.contains (d+5000000) then litV v else v.toE
 | none=>v.toE
noncomputable def stepOp (g:G)(fi:FI)(fr:Fr)(st:St)(o:Oper):Option Rs :=
 match o.op with
 | .move x=>some (.ok (fr.lend x) fr st)
 | .assign x=>match take fr st x with
  | some (e,fr,st)=>some (.ok (upE g o.type e) fr st)
  | none=>none
 | .pick c a b=>match (fr.op c).bool? with
  | some t=>some (.ok (if t then fr.lend a else fr.lend b) fr st)
  | none=>none
 | .alloc t=>match g.ty t,o.dst with
  | some ti,some d =>
   if fi.locals.contains d then some (.ok (.lp d 0) {fr.map (E.noLp d) with lc:=(d,ti.zero) :: fr.lc.filter (fun x=>!(x.1 == d))} st)
   else some (.ok (.val (.ptr st.objs.length 0)) fr {st with objs:=st.objs ++ [ti.zero]})
  | _,_=>none
 | .box _ x=>match boxCells (fr.op x),o.dst with
  | some cs,some d =>
   if fi.locals.contains d then some (.ok (.lp d 0) {fr.map (E.noLp d) with lc:=(d,cs) :: fr.lc.filter (fun x=>!(x.1 == d))} st)
   else some (.ok (.val (.ptr st.objs.length 0)) fr {st with objs:=st.objs ++ [cs]})
  | _,_=>none
 | .build t parts=>match g.ty t with
  | some ti=>okV fr st ((buildCells ti (parts.toList.map fun p=>(p.1,(fr.op p.2).part?))).map fun cs=>.agg (nilRefs fi o cs))
  | none=>none
 | .load t a=>match g.ty t with
  | some ti=>okE fr st (loadAt ti fr st (fr.op a))
  | none=>none
 | .store t a x=>match g.ty t with
  | some ti=>match take fr st x with
   | some (e,fr,st)=>match (upE g t e).cells? with
    | some cs=>match storeAt ti.size fr st (fr.op a) cs with
     | some (fr,st)=>some (.ok .any fr st)
     | none=>none
    | none=>none
   | none=>none
  | none=>none
 | .nilCheck x=>match fr.op x with
  | .lp s off=>some (.ok (.lp s off) fr st)
  | .val (.ptr id off)=>some (.ok (.val (.ptr id off)) fr st)
  | .val (.ep cs)=>some (.ok (.val (.ep cs)) fr st)
  | .val (.func f a b)=>some (.ok (.val (.func f a b)) fr st)
  | _=>none
 | .binOp op t x y _=>match (fr.op x).v?,(fr.op y).v? with
  | some (.agg a),some (.agg b)=>match g.eqs t with
   | some ks=>okV fr st (binAgg ks op a b)
   | none=>none
  | some a,some b=>okV fr st (binV ((g.ty t).map TI.k) op a b)
  | _,_=>none
 | .unOp op _ x=>match (fr.op x).v? with
  | some a=>okV fr st (unV op a)
  | none=>none
 | .convert s d x=>match (fr.op x).v?,g.ty s,g.ty d with
  | some a,some _,some td=>okE fr st (convV (g.u8 s) td.k a)
  | _,_,_=>none
 | .makeInterface t x=>match (fr.op x).v? with
  | some a=>if g.con t then some (.ok (.val (.iface t a)) fr st) else none
  | none=>none
 | .makeFunc (.func f) first captured=>match vsOf (first.toList.map fr.op),vsOf (captured.toList.map fr.op) with
  | some a,some b=>some (.ok (.val (.func f a b)) fr st)
  | _,_=>none
 | .slice t x lo hi mx=>match g.ty t with
  | some ti =>
   match (fr.op x).v?,boundOf fr lo,boundOf fr hi,boundOf fr mx with
   | some v,some l,some h,some m=>okE fr st (sliceStep ti.k v l h m)
   | _,_,_,_=>none
  | none=>none
 | .fieldAddr t x f=>match g.ty t with
  | some {k:=.struct fs,..}=>match fs[f]? with
   | some (off,size,_)=>if size=0 then none else okE fr st (addrAdd (fr.op x) off)
   | none=>none
  | _=>none
 | .field t x f=>match g.ty t,(fr.op x).v? with
  | some {k:=.struct fs,..},some (.agg cs)=>match fs[f]? with
   | some (off,size,agg)=>okV fr st (partV size agg cs off)
   | none=>none
  | _,_=>none
 | .indexAddr t x i=>match g.ty t,(fr.op i).int? with
  | some ti,some n=>okE fr st (indexAddrStep ti (fr.op x) n)
  | _,_=>none
 | .index t x i=>match g.ty t,(fr.op x).v?,(fr.op i).int? with
  | some ti,some v,some n=>okV fr st (indexStep ti v n)
  | _,_,_=>none
 | .extract x i=>match (fr.op x) with
  | .val (.tuple vs)=>okV fr st vs[i]?
  | _=>none
 | .panic x=>match (fr.op x).v? with
  | some (.iface t v)=>some (.pan (.iface t v) st)
  | _=>none
 | .buildSlice t len parts=>match g.ty t with
  | some {k:=.slice esz _ eagg ez,..}=>okE fr st ((buildSliceV esz eagg ez len (parts.toList.map fun p=>(p.1,(fr.op p.2).part?))).map (litE fi o))
  | _=>none
 | .makeSlice t l c=>match g.ty t,(fr.op l).int?,(fr.op c).int? with
  | some {k:=.slice esz eb eagg ez,..},some len,some cap =>
   if 0≤len∧len≤cap∧cap*eb≤2 ^ 47∧cap≤2 ^ 47∧0<esz∧ez.length=esz∧(eagg || esz == 1)=true∧(ez.map V.strip1).all V.one=true then
    some (.ok (.own esz (List.replicate len.toNat (elemV eagg (ez.map V.strip1)))) fr st)
   else none
  | _,_,_=>none
 | .call {callee:=.builtin b,args,argTypes}=>builtinStep g fr st b argTypes args
 | _=>none
end Go.Ab
namespace Go.Ab
open Go
mutual
def V.flat:V→Bool
 | .ptr _ _=>false
 | .sref _ _ _ _ _=>false
 | .func _ _ _=>false
 | .ep cs=>flats cs
 | .slice xs=>flats xs
 | .osl _ xs=>flats xs
 | .iface _ v=>v.flat
 | .agg cs=>flats cs
 | .tuple vs=>flats vs
 | _=>true
def flats:List V→Bool
 | []=>true
 | v :: r=>v.flat && flats r
end
abbrev Calling:=Nat→List V→St→Option (Out × St)
def retE (k:Option Nat)(v:V):E :=
 match v,k with
 | .slice xs,some n=>.own n xs
 | v,_=>.val v
def truncV (b:Nat):Option Nat :=
 match FloatKind.f64.decode b with
 | .nan _ t=>if FloatKind.f64.format.quiet t=t then some b else none
 | d=>some (FloatKind.f64.encode (d.integral .zero))
def extV:Ext→List V→Option V
 | .floatBits,[.float .f64 b]=>some (.int .u64 b)
 | .floatOf,[.int .u64 n]=>some (.float .f64 n.toNat)
 | .trunc,[.float .f64 b]=>(truncV b).map (.float .f64)
 | _,_=>none
noncomputable def callStep (g:G)(call:Calling)(f:Nat)(args:List V)(fr:Fr)(st:St):Option Rs :=
 match g.ext f with
 | some x=>match extV x args with
  | some v=>some (.ok (.val v) fr st)
  | none=>none
 | none =>
  match g.fn f with
  | none=>none
  | some fi =>
   if fi.pure then
    match call f args (if flats args then ⟨[],0⟩ else {st with wp:=st.objs.length}) with
    | some (.ret v k,_)=>if v.flat then some (.ok (retE k v) fr st) else none
    | _=>none
   else
    match call f args st with
    | some (.ret v k,st')=>some (.ok (retE k v) (fr.map E.noMem) st')
    | some (.pan v,st')=>some (.pan v st')
    | none=>none
noncomputable def stepE (g:G)(fi:FI)(call:Calling)(fr:Fr)(st:St)(o:Oper):Option Rs :=
 match o.op with
 | .call {callee:=.value x,args,..} =>
  match fr.op x,vsOf (args.toList.map fr.op) with
  | .val (.func f first cap),some vs=>callStep g call f (first ++ vs ++ cap) fr st
  | _,_=>none
 | _=>stepOp g fi fr st o
def marked (fi:FI)(o:Oper):Bool :=
 match o.op with
 | .move _=>false
 | .assign _=>false
 | _=>match o.dst with
  | some d=>fi.marks.contains d
  | none=>false
noncomputable def newRef (fr:Fr)(st:St)(k len:Nat)(cs:List V):Rs:=.ok (.val (.sref false k st.objs.length 0 len)) fr {st with objs:=st.objs ++ [cs]}
noncomputable def markAppend (g:G)(fr:Fr)(st:St)(argTypes:Array TypeId)(args:Array Operand):Option Rs :=
 match argTypes[0]?,args[0]?,args[1]?,(argTypes[1]?).bind g.ty with
 | some t,some s,some x,some {k:=.slice _ _ eagg _,..} =>
  match g.ty t with
  | some {k:=.slice esz eb _ ez,..} =>
   match elemsAt eagg esz st (fr.op x) with
   | some ys =>
    if 0<esz∧sizesOk esz ys=true∧ez.length=esz then
     match take fr st s with
     | some (.own k [],fr,st) =>
      if k == 0 && decide (ys.length*eb≤2 ^ 47) && decide (ys.length≤2 ^ 47) then
       some (if ys.isEmpty then .ok (.val (.sref true 0 0 0 0)) fr st else newRef fr st esz ys.length (ys.flatMap V.cells))
      else none
     | some (.val (.sref true 0 0 0 0),fr,st) =>
      if decide (ys.length*eb≤2 ^ 47) && decide (ys.length≤2 ^ 47) then
       some (if ys.isEmpty then .ok (.val (.sref true 0 0 0 0)) fr st else newRef fr st esz ys.length (ys.flatMap V.cells))
      else none
     | some (.val (.sref true k id off len),fr,st) =>
      match st.obj id with
      | some cs=>if k=esz∧off+len*esz≤cs.length∧(len+ys.length)*eb≤2 ^ 47∧len+ys.length≤2 ^ 47∧(cs.map V.strip1).all V.one=true then
        some (if ys.isEmpty then .ok (.val (.sref true k id off len)) fr st else newRef fr st esz (len+ys.length) (((cs.drop off).take (len*esz)).map V.strip1 ++ ys.flatMap V.cells))
       else none
      | none=>none
     | some (.val (.sref false k id off len),fr,st) =>
      match st.obj id with
      | some cs=>if k=esz∧off=0∧0<len∧cs.length=len*esz∧(len+ys.length)*eb≤2 ^ 47∧len+ys.length≤2 ^ 47∧(cs.map V.strip1).all V.one=true then
        (st.set id []).map fun st=>newRef (fr.map E.noMem) st esz (len+ys.length) (cs.map V.strip1 ++ ys.flatMap V.cells)
       else if k=esz∧off=0∧0<len∧len*esz<cs.length∧(len+ys.length)*eb≤2 ^ 47∧len+ys.length≤2 ^ 47∧((cs.take (len*esz)).map V.strip1).all V.one=true then
        (st.set id []).map fun st=>newRef (fr.map E.noMem) st esz (len+ys.length) ((cs.take (len*esz)).map V.strip1 ++ ys.flatMap V.cells)
       else none
      | none=>none
     | _=>none
    else none
   | none=>none
  | _=>none
 | _,_,_,_=>none
noncomputable def markTail (g:G)(fr:Fr)(st:St)(t:TypeId)(x lo:Operand):Option Rs :=
 match g.ty t,(fr.op lo).int? with
 | some {k:=.slice esz _ _ _,..},some n =>
  match take fr st x with
  | some (.own k xs,fr,st)=>if 0≤n∧n≤(xs.length:Int)∧sizesOk esz xs=true∧(k=esz∨k=0) then some (.ok (.own k (xs.drop n.toNat)) fr st) else none
  | some (.val (.slice xs),fr,st)=>if 0≤n∧n≤(xs.length:Int)∧sizesOk esz xs=true then some (.ok (.val (.slice (xs.drop n.toNat))) fr st) else none
  | _=>none
 | _,_=>none
noncomputable def markStep (g:G)(fr:Fr)(st:St)(o:Oper):Option Rs :=
 match o.op with
 | .slice t x (some lo) none none=>markTail g fr st t x lo
 | .call {callee:=.builtin .append,args,argTypes}=>markAppend g fr st argTypes args
 | .buildSlice t len parts=>match g.ty t with
  | some {k:=.slice esz _ eagg ez,..}=>match buildSliceV esz eagg ez len (parts.toList.map fun p=>(p.1,(fr.op p.2).part?)) with
   | some (.osl _ xs)=>some (if xs.isEmpty then .ok (.own 0 []) fr st else newRef fr st esz xs.length (xs.flatMap V.cells))
   | _=>none
  | _=>none
 | .makeSlice t l c=>match g.ty t,(fr.op l).int?,(fr.op c).int? with
  | some {k:=.slice esz eb eagg ez,..},some len,some cap =>
   if 0≤len∧len≤cap∧cap*eb≤2 ^ 47∧cap≤2 ^ 47∧0<esz∧ez.length=esz∧(eagg || esz == 1)=true∧(ez.map V.strip1).all V.one=true then
    some (newRef fr st esz len.toNat ((List.replicate len.toNat (elemV eagg (ez.map V.strip1))).flatMap V.cells))
   else none
  | _,_,_=>none
 | _=>none
def frzL (f:St→V→Option (V × St)):St→List V→Option (List V × St)
 | st,[]=>some ([],st)
 | st,v :: r=>match f st v with
  | some (v',st')=>match frzL f st' r with
   | some (r',st'')=>some (v' :: r',st'')
   | none=>none
  | none=>none
def frz:Nat→St→V→Option (V × St)
 | 0,st,v=>some (v,st)
 | n+1,st,v=>match v with
  | .sref _ k id off len =>
   if len=0 then some (.slice [],st) else
   match st.obj id with
   | some cs=>if 0<k∧off+len*k≤cs.length then
     match st.set id [] with
     | some st1=>match frzL (frz n) st1 (((cs.drop off).take (len*k)).map V.strip1) with
      | some (xs,st2)=>if xs.length=len*k∧xs.all V.one=true then some (.slice (chunk (Nat.blt 1 k) k len xs),st2) else none
      | none=>none
     | none=>none
    else none
   | none=>none
  | .agg cs=>match frzL (frz n) st cs with
   | some (xs,st1)=>some (.agg xs,st1)
   | none=>none
  | .tuple cs=>match frzL (frz n) st cs with
   | some (xs,st1)=>some (.tuple xs,st1)
   | none=>none
  | .slice []=>some (.slice [],st)
  | .slice (x :: r)=>if flats (x :: r) then some (.slice (x :: r),st) else
   if 0<x.cells.length∧sizesOk x.cells.length (x :: r)=true then
    match frzL (frz n) st ((x :: r).flatMap V.cells) with
    | some (xs,st1)=>if xs.length=(r.length+1)*x.cells.length∧xs.all V.one=true then some (.slice (chunk (Nat.blt 1 x.cells.length) x.cells.length (r.length+1) xs),st1) else none
    | none=>none
   else none
  | v=>some (v,st)
def frzM (fi:FI)(o:Oper):Bool :=
 match o.op with
 | .assign _=>match o.dst with
  | some d=>fi.marks.contains (d+3000000)
  | none=>false
 | .move _=>match o.dst with
  | some d=>fi.marks.contains (d+4000000)
  | none=>false
 | _=>false
def E.melt (k id off len:Nat)(v:V):E→E
 | .val (.sref f k' id' off' len')=>if k'=k∧id'=id∧off'=off∧len'=len then .val v else .val (.sref f k' id' off' len')
 | e=>e
noncomputable def frzStep (fr:Fr)(st:St)(o:Oper):Option Rs :=
 match o.op with
 | .assign x=>match fr.op x with
  | .val v=>match frz 6 st v with
   | some (v',st')=>some (.ok (.val v') (fr.map E.noMem) st')
   | none=>none
  | .own _ xs=>some (.ok (.val (.slice xs)) fr st)
  | .bor _ xs _=>some (.ok (.val (.slice xs)) fr st)
  | _=>none
 | .move x=>match fr.op x with
  | .val (.sref f k id off len) =>
   if len=0 then some (.ok (.val (.slice [])) fr st) else
   match frz 6 st (.sref f k id off len) with
   | some (v',st')=>some (.ok (.val v') ((fr.map E.noMem).map (E.melt k id off len v')) st')
   | none=>none
  | .val v=>some (.ok (.val v) fr st)
  | .own _ xs=>some (.ok (.val (.slice xs)) fr st)
  | .bor _ xs _=>some (.ok (.val (.slice xs)) fr st)
  | _=>none
 | _=>none
noncomputable def stepM (g:G)(fi:FI)(call:Calling)(fr:Fr)(st:St)(o:Oper):Option Rs :=
 if marked fi o then markStep g fr st o else if frzM fi o then frzStep fr st o else stepE g fi call fr st o
noncomputable def wantedE (ops:List Oper)(o:Oper)(fr:Fr):Option Bool :=
 match o.guard with
 | none=>some true
 | some (j,want)=>match (ops[j]?).bind (·.dst) with
  | some d=>match fr.get d with
   | .val (.bool b)=>some (b == want)
   | .val (.tuple [])=>some false
   | _=>none
  | none=>none
inductive Rg where
 | ok (fr:Fr) (st:St)
 | pan (v:V) (st:St)
noncomputable def evalOps (g:G)(fi:FI)(call:Calling)(all:List Oper):List Oper→Fr→St→Option Rg
 | [],fr,st=>some (.ok fr st)
 | o :: os,fr,st =>
  match wantedE all o fr with
  | some true=>match stepM g fi call fr st o with
   | some (.ok e fr st)=>evalOps g fi call all os (fr.putO o.dst e) st
   | some (.pan v st)=>some (.pan v st)
   | none=>none
  | some false=>evalOps g fi call all os (fr.putO o.dst (.val (.tuple []))) st
  | none=>none
inductive X where
 | normal
 | exit (id:Nat)
 | ret
 | pan (v:V)
abbrev Res:=Option (X × Fr × St)
def iterate (body:Fr→St→Res):Nat→Fr→St→Res
 | 0,_,_=>none
 | n+1,fr,st=>match body fr st with
  | some (.normal,fr,st)=>iterate body n fr st
  | r=>r
def quietOp (g:G):Op→Bool
 | .pick _ _ _ | .build _ _ | .buildSlice _ _ _ | .load _ _ | .nilCheck _ | .binOp _ _ _ _ _ | .unOp _ _ _ | .convert _ _ _ | .makeInterface _ _ | .makeFunc _ _ _
 | .slice _ _ _ _ _ | .fieldAddr _ _ _ | .field _ _ _ | .indexAddr _ _ _ | .index _ _ _ | .extract _ _ | .makeSlice _ _ _=>true
 | .call {callee:=.builtin .len,..} | .call {callee:=.builtin .max,..} | .call {callee:=.builtin .min,..}=>true
 | .call {callee:=.builtin .append,args,..}=>match (args[0]?:Option Operand) with
  | some (.const _)=>true
  | _=>false
 | .call {callee:=.value (.func f),..}=>match g.ext f,g.fn f with
  | some _,_=>true
  | none,some fi=>fi.pure
  | none,none=>false
 | _=>false
def E.calm:E→E
 | .bor _ xs (.slot _)=>.val (.slice xs)
 | e=>e
noncomputable def Fr.clear (fr:Fr):Fr:={fr with ps:=mapR E.calm fr.ps,ts:=[]}
noncomputable def Fr.calm (fr:Fr):Fr:=fr.map E.calm
def E.still:E→E
 | .own _ xs=>.val (.slice xs)
 | .bor _ xs (.slot _)=>.val (.slice xs)
 | e=>e
def freeApp (fi:FI)(op:Op):Bool :=
 match op with
 | .call {callee:=.builtin .append,args,..}=>match (args[0]?:Option Operand) with
  | some (.tmp t)=>fi.marks.contains (t+5000000)
  | _=>false
 | _=>false
noncomputable def freeStep (g:G)(fr:Fr)(argTypes:Array TypeId)(args:Array Operand):Option E :=
 match argTypes[0]?,args[0]?,args[1]? with
 | some t,some s,some x =>
  match fr.op s,g.ty t with
  | .val (.osl 0 []),some {k:=.slice esz eb _ ez,..} =>
   match appended ((argTypes[1]?).bind fun u=>(g.ty u).map TI.k) (fr.op x) with
   | some ys=>if ys.length*eb≤2 ^ 47∧ys.length≤2 ^ 47∧0<esz∧sizesOk esz ys=true∧ez.length=esz then some (.own esz ys) else none
   | none=>none
  | _,_=>none
 | _,_,_=>none
noncomputable def freeQ (g:G)(fr:Fr)(op:Op):Option E :=
 match op with
 | .call {callee:=.builtin .append,args,argTypes}=>freeStep g fr argTypes args
 | _=>none
noncomputable def stepQ (g:G)(fi:FI)(call:Calling)(fr:Fr)(st:St)(o:Oper):Option E :=
 match o.op with
 | .move x=>some (fr.op x).still
 | .assign x=>some (fr.op x).still
 | op=>if quietOp g op then
   match stepE g fi call fr st o with
   | some (.ok e _ _)=>some e.calm
   | _=>none
  else if freeApp fi op then freeQ g fr op else none
def depB (ops:Array Oper):Nat→Nat→Nat→Bool
 | 0,_,_=>false
 | n+1,j,i=>match ops[j]? with
  | some o=>o.after.toList.any fun e=>Region.binds .any e && e.on == i || Region.binds .any e && depB ops n e.on i
  | none=>false
def pivotB (ops:Array Oper)(k:Nat):Bool :=
 ((List.range k).all fun i=>depB ops 4 k i) && (List.range' (k+1) (ops.size - (k+1))).all fun j=>depB ops 4 j k
def thenB (ops:Array Oper)(k:Nat):Bool:=(List.range' (k+1) (ops.size - (k+1))).all fun j=>depB ops 4 j k
def isQ (g:G):Op→Bool
 | .move _=>true
 | .assign _=>true
 | op=>quietOp g op
def mild (fi:FI)(o:Oper):Bool :=
 match o.op with
 | .call {callee:=.builtin .append,..}=>true
 | .alloc _=>match o.dst with
  | some d=>!fi.locals.contains d
  | none=>false
 | .box _ _=>match o.dst with
  | some d=>!fi.locals.contains d
  | none=>false
 | _=>false
def isAppend:Op→Bool
 | .call {callee:=.builtin .append,..}=>true
 | _=>false
def semi (fi:FI)(o:Oper):Bool :=
 mild fi o || match o.op with
 | .store _ _ _=>true
 | .panic _=>true
 | .call {callee:=.value _,..}=>true
 | _=>false
theorem frzM_not {fi:FI} {o:Oper} (h:∀ x,o.op≠.assign x)(h2:∀ x,o.op≠.move x):frzM fi o=false:=by
 unfold frzM
 split
 ·rename_i x ho;exact absurd ho (h x)
 ·rename_i x ho;exact absurd ho (h2 x)
 ·rfl
theorem frzM_semi {fi:FI} {o:Oper} (h:semi fi o=true):frzM fi o=false:=by
 refine frzM_not (fun x ho=>?_) (fun x ho=>?_)
 all_goals
  unfold semi mild at h
  rw [ho] at h
  cases h
def isQM (g:G)(fi:FI)(o:Oper):Bool:=!marked fi o && (isQ g o.op || freeApp fi o.op)
def isTail:Op→Bool
 | .slice _ _ (some _) none none=>true
 | _=>false
def mildM (fi:FI)(o:Oper):Bool:=(!marked fi o && mild fi o) || (marked fi o && isTail o.op)
def isAppendM (fi:FI)(o:Oper):Bool:=(!marked fi o && isAppend o.op) || (marked fi o && isTail o.op)
def semiM (fi:FI)(o:Oper):Bool:=marked fi o || semi fi o
def isStore:Op→Bool
 | .store _ _ _=>true
 | _=>false
def isLoad:Op→Bool
 | .load _ _=>true
 | _=>false
def eqPlain:V→V→Bool
 | .bool a,.bool b=>a == b
 | .int k a,.int k' b=>decide (k=k') && a == b
 | .float k a,.float k' b=>decide (k=k') && a == b
 | .str a,.str b=>a == b
 | .ptr a b,.ptr c d=>a == c && b == d
 | .nilp,.nilp=>true
 | .nilf,.nilf=>true
 | .nili,.nili=>true
 | .slice [],.slice []=>true
 | _,_=>false
def eqPlains:List V→List V→Bool
 | [],[]=>true
 | a :: r,b :: s=>eqPlain a b && eqPlains r s
 | _,_=>false
noncomputable def idleStore (g:G)(fr:Fr)(st:St)(o:Oper):Bool :=
 match o.op with
 | .store t a x=>match take fr st x with
  | some (e,fr,st)=>match (upE g t e).cells? with
   | some cs=>match placeOf fr st (fr.op a) with
    | some (.loc _ off old)=>match splice old off cs with
     | some new=>eqPlains (old.map V.strip1) (new.map V.strip1)
     | none=>false
    | _=>false
   | none=>false
  | none=>false
 | _=>false
def ordB (ops:Array Oper)(j k:Nat):Bool:=j == k || if Nat.blt k j then depB ops 4 j k else depB ops 4 k j
def strongB (g:G)(fi:FI)(ops:Array Oper)(k:Nat):Bool :=
 (List.range ops.size).all fun j=>match ops[j]? with
  | some o=>isQM g fi o || ordB ops j k
  | none=>true
def rootT (ops:Array Oper):Nat→Nat→Nat
 | 0,t=>t
 | n+1,t=>match ops.toList.find? (fun o=>o.dst == some t) with
  | some o=>match o.op with
   | .fieldAddr _ (.tmp u) _=>rootT ops n u
   | .indexAddr _ (.tmp u) _=>rootT ops n u
   | .nilCheck (.tmp u)=>rootT ops n u
   | .move (.tmp u)=>rootT ops n u
   | _=>t
  | none=>t
def locSt (fi:FI)(o:Oper):Option Nat :=
 match o.op,o.dst with
 | .store _ (.tmp a) _,none=>if fi.locals.contains a then some a else none
 | _,_=>none
def pairB (fi:FI)(a b:Oper):Bool :=
 match locSt fi a,locSt fi b with
 | some x,some y=>!(x == y)
 | _,_=>false
def strongP (g:G)(fi:FI)(ops:Array Oper)(k:Nat):Bool :=
 (List.range ops.size).all fun j=>match ops[j]?,ops[k]? with
  | some o,some p=>isQM g fi o || ordB ops j k || pairB fi o p
  | _,_=>true
noncomputable def plainSt (fr:Fr)(o:Oper):Bool :=
 match o.op with
 | .store _ (.tmp a) x=>(match fr.get a with | .lp s _=>s == a | _=>false) && (match fr.op x with | .val (.slice _)=>false | .val _=>true | _=>false)
 | _=>false
def elseP (fi:FI)(ops:Array Oper)(i:Nat)(p:Oper)(j:Nat)(oj:Oper):Bool :=
 match p.op,locSt fi oj with
 | .load _ (.tmp u),some a=>Nat.blt i j && !(rootT ops 6 u == a)
 | _,_=>false
def otherE (a:Nat)(e:E):Bool :=
 match e.weak with
 | .lp s _=>!(s == a)
 | .val _=>true
 | _=>false
def isCallV (o:Oper):Bool :=
 match o.op with
 | .call {callee:=.value _,..}=>true
 | _=>false
def isLp (e:E):Bool :=
 match e.weak with
 | .lp _ _=>true
 | _=>false
def mildFor (g:G)(fi:FI)(ops:Array Oper)(k:Nat):Bool :=
 (List.range ops.size).all fun j=>match ops[j]? with
  | some o=>isQM g fi o || ordB ops j k || (mildM fi o && (Nat.blt k j || isAppendM fi o)) || (isStore o.op && Nat.blt k j) || isCallV o
  | none=>true
def besideCall (g:G)(fi:FI)(ops:Array Oper)(i:Nat):Bool :=
 (List.range ops.size).any fun j=>match ops[j]? with
  | some oj=>isCallV oj && !isQM g fi oj && !ordB ops j i
  | none=>false
def elseOk (g:G)(fi:FI)(ops:Array Oper)(i:Nat)(p:Oper)(e:E):Bool :=
 (!besideCall g fi ops i || isLp e) &&
 (List.range ops.size).all fun j=>match ops[j]? with
  | some oj=>!(elseP fi ops i p j oj && !ordB ops j i) || (match locSt fi oj with | some a=>otherE a e | none=>true)
  | none=>true
def elseAny (fi:FI)(ops:Array Oper)(k:Nat)(o:Oper):Bool :=
 (List.range k).any fun i=>match ops[i]? with
  | some p=>elseP fi ops i p k o && !ordB ops k i
  | none=>false
noncomputable def firm (g:G)(fi:FI)(ops:Array Oper)(k:Nat)(o:Oper)(fr:Fr):Bool:=(strongB g fi ops k || (strongP g fi ops k && plainSt fr o)) && (!elseAny fi ops k o || plainSt fr o)
def tameB (fi:FI)(ops:Array Oper)(k:Nat)(o:Oper):Bool :=
 isStore o.op && !(List.range k).all fun i=>match ops[i]? with
  | some p=>!isLoad p.op || ordB ops k i || elseP fi ops i p k o
  | none=>true
noncomputable def weakOk (g:G)(fi:FI)(ops:Array Oper)(k:Nat)(o:Oper)(fr:Fr):Bool :=
 match o.op with
 | .load _ x=>(match fr.op x with | .val (.ep _)=>true | _=>false) || (mildFor g fi ops k && elseOk g fi ops k o (fr.op x))
 | .call {callee:=.value x,args,..}=>match fr.op x,vsOf (args.toList.map fr.op) with
  | .val (.func _ first cap),some vs=>flats (first ++ vs ++ cap)
  | _,_=>false
 | _=>true
def looks (ops:Array Oper)(t:Nat)(o:Oper):Bool:=(o.looksAt ops).contains t
def isBase (ops:Array Oper)(t:Nat)(o:Oper):Bool :=
 match o.op with
 | .call {callee:=.builtin .append,args,..}=>match (args[0]?:Option Operand) with
  | some (.tmp b)=>b == t
  | _=>false
 | _=>false
def isMove (u:Nat):Op→Bool
 | .move (.tmp x)=>x == u
 | _=>false
def borOk (ops:Array Oper)(i u t:Nat):Bool :=
 (List.range ops.size).all fun r=>match ops[r]? with
  | none=>true
  | some o =>
   (!(looks ops t o) || (isBase ops t o && (List.range ops.size).all fun w=>match ops[w]? with
    | some p=>!(p.dst == some u) || depB ops 4 w r
    | none=>true)) &&
   (r == i || !(looks ops u o) || (isMove u o.op && match o.dst with
    | some b=>(List.range ops.size).all fun j=>match ops[j]? with
     | some p=>!(isBase ops b p)
     | none=>true
    | none=>true))
def handOk (ops:Array Oper)(i q:Nat):Bool :=
 (List.range ops.size).all fun r=>match ops[r]? with
  | none=>true
  | some o=>r == i || !(looks ops q o)
noncomputable def stepW (g:G)(fi:FI)(call:Calling)(ops:Array Oper)(k:Nat)(fr:Fr)(st:St)(o:Oper):Option (List (Nat × E)) :=
 match o.op,o.dst with
 | .move (.tmp u),some t=>match fr.get u with
  | .own n xs=>if borOk ops k u t then some [(t,.bor n xs (.slot u))] else some [(t,.val (.slice xs))]
  | e=>if strongB g fi ops k then some [(t,e.still)] else some [(t,e.weak)]
 | .assign (.tmp q),some t=>match fr.get q with
  | .own n xs=>if handOk ops k q && !(q == t) then some [(q,.val (.slice xs)),(t,upE g o.type (.own n xs))] else some [(t,.val (.slice xs))]
  | e=>if strongB g fi ops k then some [(t,e.still)] else some [(t,e.weak)]
 | _,d=>match stepQ g fi call fr st o with
  | some e=>if strongB g fi ops k then some (d.toList.map fun s=>(s,e)) else if weakOk g fi ops k o fr then some (d.toList.map fun s=>(s,e.weak)) else none
  | none=>none
noncomputable def Fr.puts (fr:Fr):List (Nat × E)→Fr
 | []=>fr
 | (s,e) :: r=>(fr.put s e).puts r
noncomputable def evalDraw (g:G)(fi:FI)(call:Calling)(ops:Array Oper):List Oper→Nat→Fr→St→Option Rg
 | [],_,fr,st=>some (.ok fr st)
 | o :: os,k,fr,st =>
  match wantedE ops.toList o fr with
  | some true =>
   if isQM g fi o then
    match stepW g fi call ops k fr st o with
    | some y=>evalDraw g fi call ops os (k+1) (fr.puts y) st
    | none=>none
   else if (pivotB ops k || semiM fi o) && firm g fi ops k o fr && (!tameB fi ops k o || idleStore g fr st o) then
    match stepM g fi call fr st o with
    | some (.ok e fr st)=>evalDraw g fi call ops os (k+1) (if semiM fi o then fr.putO o.dst e else (fr.putO o.dst e).calm) st
    | some (.pan v st)=>if thenB ops k then some (.pan v st) else none
    | none=>none
   else none
  | some false=>evalDraw g fi call ops os (k+1) (fr.putO o.dst (.val (.tuple []))) st
  | none=>none
noncomputable def evalCode (g:G)(fi:FI)(call:Calling)(n:Nat):Code→Fr→St→Res
 | .skip,fr,st=>some (.normal,fr,st)
 | .region _ ops draw,fr,st =>
  if draw then
   if Region.lexB .any ops then
    match evalDraw g fi call ops ops.toList 0 fr.clear st with
    | some (.ok fr st)=>some (.normal,fr,st)
    | some (.pan v st)=>some (.pan v,fr,st)
    | none=>none
   else none
  else
  match evalOps g fi call ops.toList ops.toList fr.clear st with
  | some (.ok fr st)=>some (.normal,fr,st)
  | some (.pan v st)=>some (.pan v,fr,st)
  | none=>none
 | .seq a b,fr,st=>match evalCode g fi call n a fr st with
  | some (.normal,fr,st)=>evalCode g fi call n b fr st
  | r=>r
 | .cond c a b,fr,st=>match (fr.op c).bool? with
  | some true=>evalCode g fi call n a fr st
  | some false=>evalCode g fi call n b fr st
  | none=>none
 | .block id body,fr,st=>match evalCode g fi call n body fr st with
  | some (.exit i,fr,st)=>if i == id then some (.normal,fr,st) else some (.exit i,fr,st)
  | r=>r
 | .loop body,fr,st=>iterate (evalCode g fi call n body) n fr st
 | .exit id,fr,st=>some (.exit id,fr,st)
 | .ret,fr,st=>some (.ret,fr,st)
 | _,_,_=>none
noncomputable def resultE (g:G)(fr:Fr)(st:St):ResultVar→Option E
 | .tmp t=>some (fr.get t)
 | .cell a t=>match g.ty t with
  | some ti=>loadAt ti fr st (fr.get a)
  | none=>none
noncomputable def resultsOut (g:G)(fr:Fr)(st:St)(l:List ResultVar):Option Out :=
 match l with
 | [r]=>match resultE g fr st r with
  | some (.own k xs)=>some (.ret (.slice xs) (some k))
  | some e=>match e.v? with
   | some v=>some (.ret v none)
   | none=>none
  | none=>none
 | l=>match l.mapM (resultE g fr st) with
  | some es=>match vsOf es with
   | some vs=>some (.ret (.tuple vs) none)
   | none=>none
  | none=>none
def startFr (fi:FI)(args:List V):Fr :=
 {ps:=fi.pers.map fun s=>(s,match args[s]? with | some v=>.val v | none=>.any),ts:=[],lc:=[]}
def frzOut (fi:FI)(o:Out)(st:St):Option (Out × St) :=
 if fi.marks.contains 1000000 then match o with
  | .ret v _=>match frz 6 st v with
   | some (v',st')=>some (.ret v' none,st')
   | none=>none
  | o=>some (o,st)
 else if fi.marks.contains 1000001 then match o with
  | .ret v k=>match frz 6 st v with
   | some (v',st')=>some (.ret v' k,st')
   | none=>none
  | o=>some (o,st)
 else some (o,st)
noncomputable def evalBody (g:G)(call:Calling)(n:Nat)(f:Nat)(args:List V)(st:St):Option (Out × St) :=
 match g.fn f with
 | none=>none
 | some fi =>
  match evalCode g fi call n fi.body (startFr fi args) st with
  | some (.normal,fr,st)=>(resultsOut g fr st fi.results).bind fun o=>frzOut fi o st
  | some (.ret,fr,st)=>(resultsOut g fr st fi.results).bind fun o=>frzOut fi o st
  | some (.pan v,_,st)=>some (.pan v,st)
  | _=>none
def runFn (call:Calling)(errno:Nat)(args:List V)(st:St):Option (Out × St) :=
 match args with
 | [.nilf]=>some (.ret (.int .i64 0) none,st)
 | [.func h first cap]=>match call h (first ++ cap) st with
  | some (.ret _ _,st)=>some (.ret (.int .i64 0) none,st)
  | some (.pan (.iface t (.int .i64 e)),st)=>if t == errno then some (.ret (.int .i64 e) none,st) else none
  | _=>none
 | _=>none
noncomputable def evalFn (g:G):Nat→Calling
 | 0,_,_,_=>none
 | n+1,f,args,st =>
  match g.run with
  | some (r,errno)=>if f == r then runFn (evalFn g n) errno args st else evalBody g (evalFn g n) n f args st
  | none=>evalBody g (evalFn g n) n f args st
end Go.Ab
namespace Go.Ab
open Go
inductive Ow where
 | obj (id:Nat)
 | mem (id off:Nat)
 | tmp (d s:Nat)
 | loc (d s:Nat)
 | lsp (d s off:Nat)
 | fly
 deriving DecidableEq
def Ow.below (d:Nat):Ow→Prop
 | .tmp e _=>e<d
 | .loc e _=>e<d
 | .lsp e _ _=>e<d
 | _=>False
structure K where
 own:Nat→Nat→Option Ow
 blk:Nat→Option Nat
def at_ (b o:Nat):Addr:=⟨b,o,none⟩
def Imm (κ:K)(w:World)(b o:Nat)(v:Value):Prop:=w.cell? (at_ b o)=some v∧κ.own b o=none
mutual
inductive Rep (κ:K) (w:World):Value→V→Prop
 | any (v:Value):Rep κ w v .any
 | bool (b:Bool):Rep κ w (.bool b) (.bool b)
 | int (k:IntKind) (n:Int):Rep κ w (.int k n) (.int k n)
 | float (k:FloatKind) (b:Nat):Rep κ w (.float k b) (.float k b)
 | str (s:ByteArray):Rep κ w (.string s) (.str s.data.toList)
 | nilp:Rep κ w (.pointer none) .nilp
 | ptr {id off b:Nat} (h:κ.blk id=some b):Rep κ w (.pointer (some (at_ b off))) (.ptr id off)
 | ep {b o:Nat} {cs:List V} (h:RepAt κ w b o cs):Rep κ w (.pointer (some (at_ b o))) (.ep cs)
 | slice0 (a:Option Addr) (cap:Nat):Rep κ w (.slice a 0 cap) (.slice [])
 | slice {b o cap k:Nat} {xs:List V} (hc:xs.length≤cap) (hk:∀ x∈xs,x.cells.length=k) (h:RepAt κ w b o (xs.flatMap V.cells)):Rep κ w (.slice (some (at_ b o)) xs.length cap) (.slice xs)
 | sref {f:Bool} {k id off b len cap:Nat} (h:κ.blk id=some b) (hf:f=true→cap=len) (hc:len≤cap) (hs:∀ j,j<cap*k→(w.cell? (at_ b (off+j))).isSome=true):Rep κ w (.slice (some (at_ b off)) len cap) (.sref f k id off len)
 | sref0 (a:Option Addr):Rep κ w (.slice a 0 0) (.sref true 0 0 0 0)
 | osl {a:Option Addr} {k:Nat} {xs:List V} (h:Rep κ w (.slice a xs.length xs.length) (.slice xs)):Rep κ w (.slice a xs.length xs.length) (.osl k xs)
 | func {f:Nat} {first cap:Array Value} {a b:List V} (h1:Reps κ w first.toList a) (h2:Reps κ w cap.toList b):Rep κ w (.func (.func f) first cap) (.func f a b)
 | nilf:Rep κ w .nilFunc .nilf
 | iface {t:Nat} {v:Value} {x:V} (h:Rep κ w v x):Rep κ w (.iface t v) (.iface t x)
 | nili:Rep κ w .nilIface .nili
 | agg {cs:Array Value} {xs:List V} (h:Reps κ w cs.toList xs):Rep κ w (.agg cs) (.agg xs)
 | tuple {vs:Array Value} {xs:List V} (h:Reps κ w vs.toList xs):Rep κ w (.tuple vs) (.tuple xs)
inductive Reps (κ:K) (w:World):List Value→List V→Prop
 | nil:Reps κ w [] []
 | cons {v:Value} {x:V} {vs:List Value} {xs:List V} (h:Rep κ w v x) (r:Reps κ w vs xs):Reps κ w (v :: vs) (x :: xs)
inductive RepAt (κ:K) (w:World):Nat→Nat→List V→Prop
 | nil {b o:Nat}:RepAt κ w b o []
 | cons {b o:Nat} {v:Value} {x:V} {xs:List V} (hi:Imm κ w b o v) (h:Rep κ w v x) (r:RepAt κ w b (o+1) xs):RepAt κ w b o (x :: xs)
end
structure Pres (S:Ow→Prop) (κ:K) (w:World) (κ':K) (w':World):Prop where
 os:w'.os=w.os
 tape:w'.tape=w.tape
 out:w'.output=w.output
 size:w.heap.size≤w'.heap.size
 blk:∀ id b,κ.blk id=some b→κ'.blk id=some b
 imm:∀ b o v,Imm κ w b o v→Imm κ' w' b o v
 lab:∀ b o L,κ.own b o=some L→S L→κ'.own b o=some L∧w'.cell? (at_ b o)=w.cell? (at_ b o)
 sz:∀ b j,b<w.heap.size→(w'.cell? (at_ b j)).isSome=(w.cell? (at_ b j)).isSome
 free:∀ b,b<w.heap.size→(∀ o,κ.own b o=none)→w'.heap[b]?=w.heap[b]?∧∀ o,κ'.own b o=none
theorem Pres.refl (S:Ow→Prop)(κ:K)(w:World):Pres S κ w κ w :=
 ⟨rfl,rfl,rfl,Nat.le_refl _,fun _ _ h=>h,fun _ _ _ h=>h,fun _ _ _ h _=>⟨h,rfl⟩,fun _ _ _=>rfl,fun _ _ h=>⟨rfl,h⟩⟩
theorem Pres.trans {S:Ow→Prop} {κ κ' κ'':K} {w w' w'':World} (h:Pres S κ w κ' w')(g:Pres S κ' w' κ'' w''):Pres S κ w κ'' w'' where
 os:=g.os.trans h.os
 tape:=g.tape.trans h.tape
 out:=g.out.trans h.out
 size:=Nat.le_trans h.size g.size
 blk:=fun id b e=>g.blk id b (h.blk id b e)
 imm:=fun b o v e=>g.imm b o v (h.imm b o v e)
 lab:=fun b o L e s=>let ⟨e1,c1⟩:=h.lab b o L e s;let ⟨e2,c2⟩:=g.lab b o L e1 s;⟨e2,c2.trans c1⟩
 sz:=fun b j e=>(g.sz b j (Nat.lt_of_lt_of_le e h.size)).trans (h.sz b j e)
 free:=fun b hb e=>by
  obtain ⟨h1,h2⟩:=h.free b hb e
  obtain ⟨g1,g2⟩:=g.free b (Nat.lt_of_lt_of_le hb h.size) h2
  exact ⟨g1.trans h1,g2⟩
theorem Pres.some {S:Ow→Prop} {κ κ':K} {w w':World} (h:Pres S κ w κ' w') {b j:Nat} (e:(w.cell? (at_ b j)).isSome=true):(w'.cell? (at_ b j)).isSome=true:=by
 obtain ⟨v,hv⟩:=Option.isSome_iff_exists.1 e
 rw [h.sz b j (World.block_lt_of_cell? w _ hv)];exact e
theorem Pres.mono {S S':Ow→Prop} {κ κ':K} {w w':World} (h:Pres S κ w κ' w')(hs:∀ L,S' L→S L):Pres S' κ w κ' w' :=
 {h with lab:=fun b o L e s=>h.lab b o L e (hs L s)}
mutual
theorem Rep.pres {S:Ow→Prop} {κ κ':K} {w w':World} (p:Pres S κ w κ' w') {v:Value} {x:V}:Rep κ w v x→Rep κ' w' v x
 | .any v=>.any v
 | .bool b=>.bool b
 | .int k n=>.int k n
 | .float k b=>.float k b
 | .str s=>.str s
 | .nilp=>.nilp
 | .ptr h=>.ptr (p.blk _ _ h)
 | .ep h=>.ep (RepAt.pres p h)
 | .slice0 a c=>.slice0 a c
 | .slice hc hk h=>.slice hc hk (RepAt.pres p h)
 | .sref h hf hc hs=>.sref (p.blk _ _ h) hf hc (fun j hj=>p.some (hs j hj))
 | .sref0 a=>.sref0 a
 | .osl h=>.osl (Rep.pres p h)
 | .func h1 h2=>.func (Reps.pres p h1) (Reps.pres p h2)
 | .nilf=>.nilf
 | .iface h=>.iface (Rep.pres p h)
 | .nili=>.nili
 | .agg h=>.agg (Reps.pres p h)
 | .tuple h=>.tuple (Reps.pres p h)
theorem Reps.pres {S:Ow→Prop} {κ κ':K} {w w':World} (p:Pres S κ w κ' w') {vs:List Value} {xs:List V}:Reps κ w vs xs→Reps κ' w' vs xs
 | .nil=>.nil
 | .cons h r=>.cons (Rep.pres p h) (Reps.pres p r)
theorem RepAt.pres {S:Ow→Prop} {κ κ':K} {w w':World} (p:Pres S κ w κ' w') {b o:Nat} {xs:List V}:RepAt κ w b o xs→RepAt κ' w' b o xs
 | .nil=>.nil
 | .cons hi h r=>.cons (p.imm _ _ _ hi) (Rep.pres p h) (RepAt.pres p r)
end
theorem Rep.sref_inv {κ:K} {w:World} {v:Value} {f:Bool} {k id off len:Nat} (h:Rep κ w v (.sref f k id off len))(hk:0<k∨0<len) :
  ∃ b cap,v=.slice (some (at_ b off)) len cap∧κ.blk id=some b∧(f=true→cap=len)∧len≤cap∧∀ j,j<cap*k→(w.cell? (at_ b (off+j))).isSome=true:=by
 cases h with
 | sref h hf hc hs=>exact ⟨_,_,rfl,h,hf,hc,hs⟩
 | sref0 a=>omega
theorem Rep.sref_len {κ:K} {w:World} {v:Value} {f:Bool} {k id off len:Nat} (h:Rep κ w v (.sref f k id off len)):∃ a cap,v=.slice a len cap:=by
 cases h with
 | sref h hf hc hs=>exact ⟨_,_,rfl⟩
 | sref0 a=>exact ⟨_,_,rfl⟩
def Spare (κ:K)(p:Ow)(k:Nat):Value→Prop
 | .slice a len cap=>cap=len∨(0<k∧len≤cap∧∃ b o,a=some (at_ b o)∧∀ j,o+len*k≤j→j<o+cap*k→κ.own b j=some p)
 | _=>False
def RepM (κ:K)(w:World)(p:Ow)(v:Value)(x:V):Prop :=
 match x with
 | .osl k xs=>Rep κ w v (.slice xs)∧Spare κ p k v
 | x=>Rep κ w v x
def Good (κ:K)(w:World):Prop :=
 ∀ b j L,κ.own b j=some L→(∃ v,w.cell? (at_ b j)=some v)∧w.frozen? (at_ b j)=false
abbrev Lam:=Nat→Option Nat
def cellsAre (κ:K)(w:World)(b:Nat)(who:Ow)(sp:Nat→Ow)(cs:List V):Prop :=
 ∀ j x,cs[j]?=some x→κ.own b j=some who∧∃ v,w.cell? (at_ b j)=some v∧RepM κ w (sp j) v x
def RepE (d:Nat)(κ:K)(w:World)(lam:Lam)(fr:Fr)(st:St)(tmps:Array Value)(s:Nat)(v:Value):E→Prop
 | .any=>True
 | .val x=>Rep κ w v x
 | .lp t off=>∃ b,lam t=some b∧v=.pointer (some (at_ b off))
 | .own k xs=>Rep κ w v (.slice xs)∧Spare κ (.tmp d s) k v
 | .bor k xs (.slot t)=>Rep κ w v (.slice xs)∧fr.get t=.own k xs∧tmps.getD t undef=v
 | .bor k xs (.mem id off)=>Rep κ w v (.slice xs)∧∃ cs b,st.obj id=some cs∧cs[off]?=some (.osl k xs)∧κ.blk id=some b∧w.cell? (at_ b off)=some v
 | .bor k xs (.loc t off)=>Rep κ w v (.slice xs)∧∃ cs b,fr.loc t=some cs∧cs[off]?=some (.osl k xs)∧lam t=some b∧w.cell? (at_ b off)=some v
def RepV (κ:K)(w:World)(lam:Lam)(fr:Fr)(st:St)(tmps:Array Value)(v:Value):E→Prop
 | .any=>True
 | .val x=>Rep κ w v x
 | .lp t off=>∃ b,lam t=some b∧v=.pointer (some (at_ b off))
 | .own k xs=>Rep κ w v (.slice xs)∧Spare κ .fly k v
 | .bor k xs (.slot t)=>Rep κ w v (.slice xs)∧fr.get t=.own k xs∧tmps.getD t undef=v
 | .bor k xs (.mem id off)=>Rep κ w v (.slice xs)∧∃ cs b,st.obj id=some cs∧cs[off]?=some (.osl k xs)∧κ.blk id=some b∧w.cell? (at_ b off)=some v
 | .bor k xs (.loc t off)=>Rep κ w v (.slice xs)∧∃ cs b,fr.loc t=some cs∧cs[off]?=some (.osl k xs)∧lam t=some b∧w.cell? (at_ b off)=some v
def Room (κ:K)(w:World)(st:St):Prop :=
 ∀ id cs b,st.obj id=some cs→cs≠[]→κ.blk id=some b→∀ j,cs.length≤j→(w.cell? (at_ b j)).isSome=true→κ.own b j=some (.obj id)
structure Sim (κ:K) (w:World) (st:St):Prop where
 wple:st.wp≤st.objs.length
 good:Good κ w
 fresh:∀ id,st.objs.length≤id→κ.blk id=none
 obj:∀ id cs,st.obj id=some cs→∃ b,κ.blk id=some b∧cellsAre κ w b (.obj id) (.mem id) cs
 room:Room κ w st
theorem Room.step {S:Ow→Prop} {κ κ':K} {w w':World} {st:St} (s:Sim κ w st)(p:Pres S κ w κ' w')(id:Nat) {cs cs':List V} {b':Nat} (h1:st.obj id=some cs)(h2:cs.length=cs'.length)(h3:cs'≠[])
  (hb:κ'.blk id=some b') (hl:∀ b j,κ.own b j=some (.obj id)→κ'.own b j=some (.obj id)):∀ j,cs'.length≤j→(w'.cell? (at_ b' j)).isSome=true→κ'.own b' j=some (.obj id):=by
 intro j hj hc
 obtain ⟨b,hb1,hcs⟩:=s.obj id cs h1
 have hb2:=p.blk _ _ hb1
 rw [hb] at hb2;cases hb2
 cases cs with
 | nil=>simp at h2;exact absurd (List.length_eq_zero_iff.1 h2.symm) h3
 | cons x r =>
  obtain ⟨_,v,hv,_⟩:=hcs 0 x rfl
  rw [p.sz b' j (World.block_lt_of_cell? w _ hv)] at hc
  exact hl _ _ (s.room id _ _ h1 (by simp) hb1 j (by omega) hc)
theorem Room.pres {S:Ow→Prop} {κ κ':K} {w w':World} {st:St} (s:Sim κ w st)(p:Pres S κ w κ' w')(h:∀ id,id<st.objs.length→S (.obj id)):Room κ' w' st:=by
 intro id cs b h1 h2 h3
 exact Room.step s p id h1 rfl h2 h3 (fun b j hl=>(p.lab b j _ hl (h id (List.getElem?_eq_some_iff.1 h1).1)).1)
structure Fm (d n:Nat) (κ:K) (w:World) (lam:Lam) (fr:Fr) (st:St) (a:Act):Prop where
 defers:a.defers=[]
 size:a.tmps.size=n
 tmp:∀ s,RepE d κ w lam fr st a.tmps s (a.tmps.getD s undef) (fr.get s)
 loc:∀ s cs,fr.loc s=some cs→∃ b,lam s=some b∧cellsAre κ w b (.loc d s) (.lsp d s) cs
structure R (d n:Nat) (κ:K) (w:World) (lam:Lam) (fr:Fr) (st:St) (a:Act):Prop where
 sim:Sim κ w st
 fm:Fm d n κ w lam fr st a
def Keep (d wp:Nat)(L:Ow):Prop :=
 L.below d∨(∃ id,L=.obj id∧id<wp)∨(∃ id off,L=.mem id off∧id<wp)
end Go.Ab
namespace Go.Ab
open Go
theorem lk_map {α β:Type} (f:α→β)(l:List (Nat × α))(s:Nat):lk (l.map fun x=>(x.1,f x.2)) s=(lk l s).map f:=by
 induction l with
 | nil=>rfl
 | cons x r ih=>obtain ⟨k,e⟩:=x;simp only [List.map_cons,lk];split <;> simp_all
theorem lk_lset {α:Type} (l:List (Nat × α))(s t:Nat)(e x:α)(h:lk l s=some x):lk (lset l s e) t=if t=s then some e else lk l t:=by
 induction l with
 | nil=>simp [lk] at h
 | cons y r ih =>
  obtain ⟨k,z⟩:=y
  simp only [lset,lk] at *
  by_cases hk:k=s
  ·subst hk
   simp only [beq_self_eq_true,if_true,lk]
   by_cases ht:k=t
   ·subst ht;simp
   ·simp [ht,Ne.symm ht]
  ·simp only [beq_iff_eq,hk,if_false] at h
   have:=ih h
   simp only [beq_iff_eq,hk,if_false,lk,this]
   by_cases ht:k=t
   ·subst ht;simp [hk]
   ·simp [ht]
theorem get_map (fr:Fr)(f:E→E)(hf:f .any=.any)(s:Nat):(fr.map f).get s=f (fr.get s):=by
 rw [Fr.map_def,Fr.get_def,Fr.get_def]
 simp only [lk_map]
 cases lk fr.ps s with
 | some e=>rfl
 | none=>cases lk fr.ts s with
  | some e=>rfl
  | none=>simp [hf]
theorem lk_ins {α:Type} (l:List (Nat × α))(s t:Nat)(e:α):lk (ins l s e) t=if t=s then some e else lk l t:=by
 induction l with
 | nil =>
  simp only [ins,lk]
  by_cases h:s=t
  ·subst h;simp
  ·simp [h,Ne.symm h]
 | cons y r ih =>
  obtain ⟨k,z⟩:=y
  simp only [ins]
  by_cases hk:k=s
  ·subst hk
   simp only [beq_self_eq_true,if_true,lk]
   by_cases ht:k=t
   ·subst ht;simp
   ·simp [ht,Ne.symm ht]
  ·simp only [beq_iff_eq,hk,if_false]
   split
   ·simp only [lk,ih]
    by_cases ht:k=t
    ·subst ht;simp [hk]
    ·simp [ht]
   ·simp only [lk]
    by_cases ht:s=t
    ·subst ht;simp
    ·simp [ht,Ne.symm ht]
theorem get_raw (fr:Fr)(s t:Nat)(e:E):(fr.raw s e).get t=if t=s then e else fr.get t:=by
 rw [Fr.raw_def]
 cases h:lk fr.ps s with
 | some x =>
  simp only [Fr.get_def,lk_lset _ _ _ _ _ h]
  by_cases ht:t=s <;> simp [ht]
 | none =>
  simp only [Fr.get_def,lk_ins]
  by_cases ht:t=s
  ·subst ht;simp [h]
  ·simp [ht]
theorem get_put (fr:Fr)(s t:Nat)(e:E):(fr.put s e).get t=if t=s then e.inval (.slot s) else (fr.get t).inval (.slot s):=by
 rw [Fr.put_def]
 rw [get_raw,get_map _ _ rfl]
theorem loc_map (fr:Fr)(f:E→E)(s:Nat):(fr.map f).loc s=fr.loc s:=rfl
theorem loc_raw (fr:Fr)(s t:Nat)(e:E):(fr.raw s e).loc t=fr.loc t:=by
 unfold Fr.raw Fr.loc
 split <;> (try split) <;> rfl
theorem loc_put (fr:Fr)(s t:Nat)(e:E):(fr.put s e).loc t=fr.loc t:=by
 rw [Fr.put_def,loc_raw];rfl
theorem getD_put (a:Act)(s t:Nat)(v:Value)(hs:s<a.tmps.size):(a.put (some s) v).tmps.getD t undef=if t=s then v else a.tmps.getD t undef:=by
 simp only [Act.put,Array.getD_eq_getD_getElem?,Array.getElem?_setIfInBounds]
 by_cases h:s=t
 ·subst h;simp [hs]
 ·simp [h,Ne.symm h]
theorem size_put (a:Act)(s:Option Nat)(v:Value):(a.put s v).tmps.size=a.tmps.size:=by
 cases s <;> simp [Act.put]
theorem defers_put (a:Act)(s:Option Nat)(v:Value):(a.put s v).defers=a.defers:=by
 cases s <;> simp [Act.put]
/-! ### relabelling -/
def K.re (κ:K)(p q:Ow):K:={κ with own:=fun b o=>if κ.own b o=some p then some q else κ.own b o}
theorem re_none {κ:K} {p q:Ow} {b o:Nat}:(κ.re p q).own b o=none↔κ.own b o=none:=by
 simp only [K.re];split <;> simp_all
theorem Imm.re {κ:K} {w:World} {p q:Ow} {b o:Nat} {v:Value} (h:Imm κ w b o v):Imm (κ.re p q) w b o v:=⟨h.1,re_none.2 h.2⟩
theorem re_other {κ:K} {p q L:Ow} {b o:Nat} (h:κ.own b o=some L)(hL:L≠p):(κ.re p q).own b o=some L:=by
 simp only [K.re];rw [if_neg (by rw [h];simpa using hL)];exact h
theorem re_same {κ:K} {p q:Ow} {b o:Nat} (h:κ.own b o=some p):(κ.re p q).own b o=some q:=by
 simp only [K.re];rw [if_pos h]
theorem pres_re (κ:K)(w:World)(p q:Ow)(S:Ow→Prop)(hp:¬ S p):Pres S κ w (κ.re p q) w where
 os:=rfl
 tape:=rfl
 out:=rfl
 size:=Nat.le_refl _
 blk:=fun _ _ h=>h
 imm:=fun _ _ _ h=>h.re
 lab:=fun _ _ _ h hs=>⟨re_other h (fun e=>hp (e ▸ hs)),rfl⟩
 sz:=fun _ _ _=>rfl
 free:=fun _ _ h=>⟨rfl,fun o=>re_none.2 (h o)⟩
theorem good_re {κ:K} {w:World} {p q:Ow} (h:Good κ w):Good (κ.re p q) w:=by
 intro b j L hL
 simp only [K.re] at hL
 split at hL
 ·rename_i h1;exact h b j p h1
 ·exact h b j L hL
/-! ### the spare room -/
theorem Spare.pres {S:Ow→Prop} {κ κ':K} {w w':World} (h:Pres S κ w κ' w') {p:Ow} (hs:S p) {k:Nat} {v:Value}:Spare κ p k v→Spare κ' p k v:=by
 cases v <;> simp only [Spare,imp_self]
 rintro (h1 | ⟨h1,h2,b,o,ha,h3⟩)
 ·exact .inl h1
 ·exact .inr ⟨h1,h2,b,o,ha,fun j h4 h5=>(h.lab _ _ _ (h3 j h4 h5) hs).1⟩
theorem Spare.re {κ:K} {p q:Ow} {k:Nat} {v:Value}:Spare κ p k v→Spare (κ.re p q) q k v:=by
 cases v <;> simp only [Spare,imp_self]
 rintro (h1 | ⟨h1,h2,b,o,ha,h3⟩)
 ·exact .inl h1
 ·exact .inr ⟨h1,h2,b,o,ha,fun j h4 h5=>re_same (h3 j h4 h5)⟩
theorem Spare.full {κ:K} {p:Ow} {k:Nat} {a:Option Addr} {n:Nat}:Spare κ p k (.slice a n n):=.inl rfl
theorem RepM.pres {S:Ow→Prop} {κ κ':K} {w w':World} (h:Pres S κ w κ' w') {p:Ow} (hs:S p) {v:Value} {x:V} (r:RepM κ w p v x):RepM κ' w' p v x:=by
 cases x <;> simp only [RepM] at r ⊢ <;> first | exact r.pres h | exact ⟨r.1.pres h,r.2.pres h hs⟩
theorem RepM.of_rep {κ:K} {w:World} {p:Ow} {v:Value} {x:V} (r:Rep κ w v x):RepM κ w p v x:=by
 cases x <;> simp only [RepM] <;> try exact r
 cases r with
 | osl h=>exact ⟨h,.full⟩
theorem cellsAre.pres {S:Ow→Prop} {κ κ':K} {w w':World} (h:Pres S κ w κ' w') {b:Nat} {who:Ow} {sp:Nat→Ow} {cs:List V} (h1:S who)(h2:∀ j,S (sp j))(c:cellsAre κ w b who sp cs):cellsAre κ' w' b who sp cs:=by
 intro j x hx
 obtain ⟨ho,v,hv,r⟩:=c j x hx
 obtain ⟨ho',hc⟩:=h.lab _ _ _ ho h1
 exact ⟨ho',v,hc.trans hv,r.pres h (h2 j)⟩
def Mine (d:Nat)(L:Ow):Prop :=
 match L with
 | .obj _=>True
 | .mem _ _=>True
 | .tmp e _=>e=d
 | .loc e _=>e=d
 | .lsp e _ _=>e=d
 | .fly=>False
theorem Sim.pres {S:Ow→Prop} {κ κ':K} {w w':World} {st:St} (h:Pres S κ w κ' w')(g:Good κ' w')(f:∀ id,st.objs.length≤id→κ'.blk id=none)
  (h1:∀ id,S (.obj id)) (h2:∀ id off,S (.mem id off)) (s:Sim κ w st):Sim κ' w' st where
 wple:=s.wple
 good:=g
 fresh:=f
 obj:=fun id cs hc=>let ⟨b,hb,c⟩:=s.obj id cs hc;⟨b,h.blk _ _ hb,c.pres h (h1 id) (fun j=>h2 id j)⟩
 room:=Room.pres s h (fun id _=>h1 id)
theorem RepE.pres {S:Ow→Prop} {d:Nat} {κ κ':K} {w w':World} {lam:Lam} {fr:Fr} {st:St} {tmps:Array Value} {s:Nat} {v:Value} {e:E}
  (h:Pres S κ w κ' w') (ht:S (.tmp d s))
  (hm:∀ id cs off x b,st.obj id=some cs→cs[off]?=some x→κ.blk id=some b→w'.cell? (at_ b off)=w.cell? (at_ b off))
  (hl:∀ t cs off x b,fr.loc t=some cs→cs[off]?=some x→lam t=some b→w'.cell? (at_ b off)=w.cell? (at_ b off))
  (r:RepE d κ w lam fr st tmps s v e):RepE d κ' w' lam fr st tmps s v e:=by
 cases e with
 | any=>trivial
 | val x=>exact Rep.pres h r
 | lp t off=>exact r
 | own k xs=>exact ⟨r.1.pres h,r.2.pres h ht⟩
 | bor k xs p =>
  cases p with
  | slot t=>exact ⟨r.1.pres h,r.2⟩
  | mem id off =>
   obtain ⟨r1,cs,b,e1,e2,e3,e4⟩:=r
   exact ⟨r1.pres h,cs,b,e1,e2,h.blk _ _ e3,(hm id cs off _ b e1 e2 e3).trans e4⟩
  | loc t off =>
   obtain ⟨r1,cs,b,e1,e2,e3,e4⟩:=r
   exact ⟨r1.pres h,cs,b,e1,e2,e3,(hl t cs off _ b e1 e2 e3).trans e4⟩
theorem Sim.cellEq {S:Ow→Prop} {κ κ':K} {w w':World} {st:St} (h:Pres S κ w κ' w')(s:Sim κ w st)(h1:∀ id,S (.obj id))
  (id:Nat) (cs:List V) (off:Nat) (x:V) (b:Nat) (e1:st.obj id=some cs) (e2:cs[off]?=some x) (e3:κ.blk id=some b) :
  w'.cell? (at_ b off)=w.cell? (at_ b off):=by
 obtain ⟨b',hb,c⟩:=s.obj id cs e1
 rw [e3] at hb;cases hb
 exact (h.lab _ _ _ (c off x e2).1 (h1 id)).2
theorem Fm.cellEq {S:Ow→Prop} {d n:Nat} {κ κ':K} {w w':World} {lam:Lam} {fr:Fr} {st:St} {a:Act} (h:Pres S κ w κ' w')(f:Fm d n κ w lam fr st a)
  (h1:∀ s,S (.loc d s)) (t:Nat) (cs:List V) (off:Nat) (x:V) (b:Nat) (e1:fr.loc t=some cs) (e2:cs[off]?=some x) (e3:lam t=some b) :
  w'.cell? (at_ b off)=w.cell? (at_ b off):=by
 obtain ⟨b',hb,c⟩:=f.loc t cs e1
 rw [e3] at hb;cases hb
 exact (h.lab _ _ _ (c off x e2).1 (h1 t)).2
theorem R.pres {S:Ow→Prop} {d n:Nat} {κ κ':K} {w w':World} {lam:Lam} {fr:Fr} {st:St} {a:Act} (h:Pres S κ w κ' w')
  (hS:∀ L,Mine d L→S L) (g:Good κ' w') (f:∀ id,st.objs.length≤id→κ'.blk id=none) (r:R d n κ w lam fr st a):R d n κ' w' lam fr st a where
 sim:=r.sim.pres h g f (fun id=>hS _ trivial) (fun id off=>hS _ trivial)
 fm:={
  defers:=r.fm.defers
  size:=r.fm.size
  tmp:=fun s=>(r.fm.tmp s).pres h (hS _ rfl) (r.sim.cellEq h fun id=>hS _ trivial) (r.fm.cellEq h fun s=>hS _ rfl)
  loc:=fun s cs hc=>let ⟨b,hb,c⟩:=r.fm.loc s cs hc;⟨b,hb,c.pres h (hS _ rfl) (fun _=>hS _ rfl)⟩}
theorem RepV.mk {d n:Nat} {κ:K} {w:World} {lam:Lam} {fr:Fr} {st:St} {a:Act} (r:R d n κ w lam fr st a)(s:Nat)(hn:∀ k xs,fr.get s≠.own k xs) :
  RepV κ w lam fr st a.tmps (a.tmps.getD s undef) (fr.get s):=by
 have h:=r.fm.tmp s
 generalize fr.get s=e at *
 cases e with
 | own k xs=>exact absurd rfl (hn k xs)
 | bor k xs p=>cases p <;> exact h
 | _=>exact h
theorem R.put {d n:Nat} {κ:K} {w:World} {lam:Lam} {fr:Fr} {st:St} {a:Act} (r:R d n κ w lam fr st a) {s:Nat} (hs:s<n) {e:E} {v:Value}
  (hv:RepV κ w lam fr st a.tmps v e):∃ κ',R d n κ' w lam (fr.put s e) st (a.put (some s) v)∧Pres (fun L=>L≠.fly) κ w κ' w:=by
 have hp:Pres (fun L=>L≠.fly) κ w (κ.re .fly (.tmp d s)) w:=pres_re _ _ _ _ _ (by simp)
 have r':R d n (κ.re .fly (.tmp d s)) w lam fr st a:=r.pres hp (fun L hL=>by rintro rfl;exact hL) (good_re r.sim.good) r.sim.fresh
 refine ⟨_,⟨{r'.sim with},⟨by rw [defers_put];exact r.fm.defers,by rw [size_put];exact r.fm.size,fun t=>?_,fun t cs hc=>?_⟩⟩,hp⟩
 ·have hsz:s<a.tmps.size:=by rw [r.fm.size];exact hs
  rw [get_put,getD_put _ _ _ _ hsz]
  by_cases ht:t=s
  ·subst ht
   simp only [if_true]
   cases e with
   | any=>trivial
   | val x=>exact Rep.pres hp hv
   | lp u off=>exact hv
   | own k xs=>exact ⟨hv.1.pres hp,hv.2.re⟩
   | bor k xs p =>
    cases p with
    | slot u =>
     simp only [E.inval]
     split
     ·exact hv.1.pres hp
     ·rename_i hne
      have hne':u≠t:=fun h=>hne (by rw [h])
      refine ⟨hv.1.pres hp,?_,?_⟩
      ·rw [get_put,if_neg hne',hv.2.1];rfl
      ·rw [getD_put _ _ _ _ hsz,if_neg hne'];exact hv.2.2
    | mem id off =>
     simp only [E.inval,reduceCtorEq,if_false]
     obtain ⟨r1,cs,b,e1,e2,e3,e4⟩:=hv
     exact ⟨r1.pres hp,cs,b,e1,e2,e3,e4⟩
    | loc u off =>
     simp only [E.inval,reduceCtorEq,if_false]
     obtain ⟨r1,cs,b,e1,e2,e3,e4⟩:=hv
     exact ⟨r1.pres hp,cs,b,by rw [loc_put];exact e1,e2,e3,e4⟩
  ·simp only [if_neg ht]
   have h:=r'.fm.tmp t
   generalize he:fr.get t=e' at *
   cases e' with
   | any=>trivial
   | val x=>exact h
   | lp u off=>exact h
   | own k xs=>exact h
   | bor k xs p =>
    cases p with
    | slot u =>
     simp only [E.inval]
     split
     ·exact h.1
     ·rename_i hne
      have hne':u≠s:=fun h=>hne (by rw [h])
      refine ⟨h.1,?_,?_⟩
      ·rw [get_put,if_neg hne',h.2.1];rfl
      ·rw [getD_put _ _ _ _ hsz,if_neg hne'];exact h.2.2
    | mem id off=>exact h
    | loc u off =>
     obtain ⟨r1,cs,b,e1,e2,e3,e4⟩:=h
     exact ⟨r1,cs,b,by rw [loc_put];exact e1,e2,e3,e4⟩
 ·rw [loc_put] at hc
  exact r'.fm.loc t cs hc
end Go.Ab
namespace Go.Ab
open Go
def cellSz (P:Tables)(und:Nat→Option TypeDesc):Nat→Nat→List Nat
 | 0,_=>[]
 | n+1,t=>match und t with
  | some (.struct fs)=>fs.toList.flatMap fun f=>cellSz P und n f.type
  | some (.array k e)=>(List.replicate k (cellSz P und n e)).flatten
  | some (.slice e)=>[((P.types[e]?).map (·.size)).getD 0]
  | _=>[0]
def upCell (x:V × Nat):V:=x.1
def undOf (P:Tables)(t:Nat):Option TypeDesc :=
 match P.types[t]? with
 | some i=>match i.desc with
  | .named _ u=>(P.types[u]?).map (·.desc)
  | d=>some d
 | none=>none
def isAggD:Option TypeDesc→Bool
 | some (.struct _)=>true
 | some (.array _ _)=>true
 | _=>false
def zeroCs (P:Tables)(t:Nat):Option (List V) :=
 match P.types[t]? with
 | some i=>match i.zero with
  | some z =>
   let ks:=cellSz P (undOf P) 12 t
   if z.cells.toList.length == ks.length then some (((constVs z.cells.toList).zip ks).map upCell) else none
  | none=>none
 | none=>none
def fieldsOf (P:Tables):List Field→Option (List (Nat × Nat × Bool))
 | []=>some []
 | f :: r=>match P.types[f.type]?,undOf P f.type,fieldsOf P r with
  | some i,some d,some l=>some ((f.offset,i.size,isAggD (some d)) :: l)
  | _,_,_=>none
def mkTK (P:Tables):Option TypeDesc→TK
 | some .bool=>.bool
 | some (.int k)=>.int k
 | some (.float k)=>.float k
 | some .string=>.str
 | some (.pointer _)=>.pointer
 | some (.slice e)=>match P.types[e]?,undOf P e,zeroCs P e with
  | some i,some d,some z=>.slice i.size i.bytes (isAggD (some d)) z
  | _,_,_=>.other
 | some (.array n e)=>match P.types[e]?,undOf P e with
  | some i,some d=>.array n i.size (isAggD (some d))
  | _,_=>.other
 | some (.struct fs)=>match fieldsOf P fs.toList with
  | some l=>.struct l
  | none=>.other
 | some (.func _ _ _)=>.func
 | some (.interface _)=>.iface
 | _=>.other
def mkTI (P:Tables)(t:Nat):Option TI :=
 match P.types[t]?,undOf P t,zeroCs P t with
 | some i,some d,some z=>some {k:=mkTK P (some d),size:=i.size,agg:=isAggD (some d),zero:=z}
 | _,_,_=>none
def plainTK:Option TypeDesc→Option TK
 | some .bool=>some .bool
 | some (.int k)=>some (.int k)
 | some (.float k)=>some (.float k)
 | some .string=>some .str
 | _=>none
def plainFields (P:Program):Nat→List Field→Option (List TK)
 | _,[]=>some []
 | j,f :: r =>
  if f.name != "_" && f.offset == j then
   match plainTK (undOf P.toTables f.type),plainFields P (j+1) r with
   | some k,some l=>some (k :: l)
   | _,_=>none
  else none
def mkEq (P:Program)(t:Nat):Option (List TK) :=
 match undOf P.toTables t with
 | some (.struct fs)=>if !P.stoodInHeld t && !P.eqGuardType P.depth t then plainFields P 0 fs.toList else none
 | _=>none
def mkU8 (P:Tables)(t:Nat):Bool :=
 match undOf P t with
 | some (.slice e)=>match undOf P e with
  | some (.int .u8)=>true
  | _=>false
 | _=>false
def opTmps (o:Oper):List Nat:=o.dst.toList ++ o.op.operands.toList.filterMap fun | .tmp t=>some t | _=>none
def regTmps:Code→List (List Nat)
 | .region _ ops _=>[(ops.toList.flatMap opTmps).eraseDups]
 | .seq a b=>regTmps a ++ regTmps b
 | .cond _ a b=>regTmps a ++ regTmps b
 | .block _ b=>regTmps b
 | .loop b=>regTmps b
 | _=>[]
def persOf (f:Func)(c:Code):List Nat :=
 let rs:=regTmps c
 let res:=f.results.toList.filterMap fun | .tmp t=>some t | .cell a _=>some a
 let n:=f.params.size+f.nfree
 (List.range f.ntmps).filter fun t=>res.contains t || (decide (t<n) && rs.any (·.contains t)) || decide (2≤(rs.filter (·.contains t)).length)
def ops (c:Code):List Oper :=
 match c with
 | .region _ o _=>o.toList
 | .seq a b=>ops a ++ ops b
 | .cond _ a b=>ops a ++ ops b
 | .block _ b=>ops b
 | .loop b=>ops b
 | _=>[]
def grow (os:List Oper):Nat→List Nat→List Nat
 | 0,l=>l
 | n+1,l=>grow os n ((os.foldl (fun l o=>match o.dst,o.op with
   | some d,.nilCheck (.tmp x) | some d,.fieldAddr _ (.tmp x) _ | some d,.indexAddr _ (.tmp x) _ | some d,.move (.tmp x)=>if l.contains x && !l.contains d then d :: l else l
   | _,_=>l) l))
def leaks (l:List Nat)(o:Oper):Bool :=
 match o.op with
 | .nilCheck _ | .fieldAddr _ _ _ | .load _ _ | .move _=>false
 | .indexAddr _ _ i=>match i with | .tmp x=>l.contains x | _=>false
 | .store _ _ v=>match v with | .tmp x=>l.contains x | _=>false
 | op=>op.operands.toList.any fun | .tmp x=>l.contains x | _=>false
def localsOf (f:Func)(c:Code):List Nat :=
 let os:=ops c
 let cells:=f.results.toList.filterMap fun | .tmp _=>none | .cell a _=>some a
 os.filterMap fun o=>match o.dst,o.op with
  | some d,.alloc _ | some d,.box _ _ =>
   let l:=grow os 4 [d]
   if os.any (leaks l) || f.results.toList.any (fun | .tmp t=>l.contains t | _=>false) then none else (if cells.contains d then some d else some d)
  | _,_=>none
def mkFI (f:Func)(pure:Bool)(marks:List Nat)(tab:Option (List Nat × List Nat)):Option FI :=
 match f.body with
 | some c=>match tab with
  | some (pers,locals)=>some {body:=c,ntmps:=f.ntmps,results:=f.results.toList,pers,locals,pure,marks}
  | none=>some {body:=c,ntmps:=f.ntmps,results:=f.results.toList,pers:=persOf f c,locals:=localsOf f c,pure,marks}
 | none=>none
end Go.Ab
namespace Go.Ab
open Go
mutual
theorem constV_rep (κ:K)(w:World):(v:Value)→Rep κ w v (constV v)
 | .bool _=>by simp only [constV];exact .bool _
 | .int _ _=>by simp only [constV];exact .int _ _
 | .float _ _=>by simp only [constV];exact .float _ _
 | .complex _ _ _=>by simp only [constV];exact .any _
 | .string _=>by simp only [constV];exact .str _
 | .pointer none=>by simp only [constV];exact .nilp
 | .pointer (some _)=>by simp only [constV];exact .any _
 | .slice none 0 0=>by simp only [constV];exact .osl (xs:=[]) (.slice0 _ _)
 | .slice none 0 (_+1)=>by simp only [constV];exact .any _
 | .slice none (_+1) _=>by simp only [constV];exact .any _
 | .slice (some _) _ _=>by simp only [constV];exact .any _
 | .map _=>by simp only [constV];exact .any _
 | .chan _=>by simp only [constV];exact .any _
 | .func _ _ _=>by simp only [constV];exact .any _
 | .nilFunc=>by simp only [constV];exact .nilf
 | .iface _ _=>by simp only [constV];exact .any _
 | .nilIface=>by simp only [constV];exact .nili
 | .agg ⟨cs⟩=>by simp only [constV];exact .agg (constVs_rep κ w cs)
 | .tuple _=>by simp only [constV];exact .any _
theorem constVs_rep (κ:K)(w:World):(vs:List Value)→Reps κ w vs (constVs vs)
 | []=>.nil
 | v :: r=>.cons (constV_rep κ w v) (constVs_rep κ w r)
end
theorem info_of_types {P:Program} {t:Nat} {i:TypeInfo} (h:P.types[t]?=some i):P.info? t=some i:=by
 have:t<P.types.size:=by
  rcases Nat.lt_or_ge t P.types.size with h1 | h1
  ·exact h1
  ·rw [Array.getElem?_eq_none h1] at h;cases h
 simp only [Tables.info?,this,if_true,h]
theorem underlying_of {P:Program} {t:Nat} {d:TypeDesc} (h:undOf P.toTables t=some d):P.underlying t=some d:=by
 unfold undOf at h
 split at h
 ·rename_i i hi
  unfold Program.underlying
  rw [info_of_types hi]
  obtain ⟨desc,_,_,_,_,_,_,_,_,_⟩:=i
  cases desc <;> simp only at h ⊢ <;> try exact h
  rename_i n u
  cases hu:P.types[u]? with
  | none=>rw [hu] at h;simp at h
  | some j=>rw [hu] at h;rw [info_of_types hu];exact h
 ·cases h
theorem upCell_rep {κ:K} {w:World} {v:Value} {x:V} {k:Nat} (h:Rep κ w v x):Rep κ w v (upCell (x,k)):=h
theorem zipUp_rep {κ:K} {w:World}:∀ {vs:List Value} {xs:List V} {ks:List Nat},Reps κ w vs xs→vs.length=ks.length→Reps κ w vs ((xs.zip ks).map upCell)
 | [],_,[],.nil,_=>.nil
 | _ :: _,_,_ :: _,.cons h r,hl=>.cons (upCell_rep h) (zipUp_rep r (by simpa using hl))
def isAggT (d:TypeDesc):Bool:=isAggD (some d)
def TKok (P:Program)(d:TypeDesc)(k:TK):Prop :=
 match k with
 | .bool=>d=.bool
 | .int k=>d=.int k
 | .float k=>d=.float k
 | .str=>d=.string
 | .pointer=>∃ e,d=.pointer e
 | .slice esz eb ea ez=>∃ e i z de,d=.slice e∧P.info? e=some i∧i.size=esz∧i.bytes=eb∧i.zero=some z∧P.underlying e=some de∧isAggT de=ea∧∀ κ w,Reps κ w z.cells.toList ez
 | .array n esz ea=>∃ e i de,d=.array n e∧P.info? e=some i∧i.size=esz∧P.underlying e=some de∧isAggT de=ea
 | .struct l=>∃ fs:Array Field,d=.struct fs∧l.length=fs.size∧∀ (j:Nat) f,fs[j]?=some f→∃ i de,P.info? f.type=some i∧P.underlying f.type=some de∧l[j]?=some (f.offset,i.size,isAggT de)
 | .func=>∃ a b c,d=.func a b c
 | .iface=>∃ m,d=.interface m
 | .other=>True
structure TIok (P:Program) (t:Nat) (ti:TI):Prop where
 info:∃ i z,P.info? t=some i∧i.size=ti.size∧i.zero=some z∧∀ κ w,Reps κ w z.cells.toList ti.zero
 und:∃ d,P.underlying t=some d∧TKok P d ti.k∧ti.agg=isAggT d
theorem zeroCs_ok {P:Program} {t:Nat} {z:List V} (h:zeroCs P.toTables t=some z) :
  ∃ i zv,P.types[t]?=some i∧i.zero=some zv∧∀ κ w,Reps κ w zv.cells.toList z:=by
 unfold zeroCs at h
 split at h
 ·rename_i i hi
  split at h
  ·rename_i zv hz
   dsimp only at h
   split at h
   ·rename_i hl
    cases h
    exact ⟨i,zv,hi,hz,fun κ w=>zipUp_rep (constVs_rep κ w _) (by simpa using hl)⟩
   ·cases h
  ·cases h
 ·cases h
theorem fieldsOf_ok {P:Program}:∀ {fs:List Field} {l:List (Nat × Nat × Bool)},fieldsOf P.toTables fs=some l →
  l.length=fs.length∧∀ (j:Nat) f,fs[j]?=some f→∃ i de,P.info? f.type=some i∧P.underlying f.type=some de∧l[j]?=some (f.offset,i.size,isAggT de)
 | [],l,h=>by simp only [fieldsOf] at h;cases h;simp
 | f :: r,l,h=>by
  unfold fieldsOf at h
  split at h
  ·rename_i i d l' hi hd hl
   cases h
   obtain ⟨h1,h2⟩:=fieldsOf_ok hl
   refine ⟨by simp [h1],fun j g hg=>?_⟩
   cases j with
   | zero=>simp at hg;subst hg;exact ⟨i,d,info_of_types hi,underlying_of hd,rfl⟩
   | succ j=>simp at hg;obtain ⟨i',d',a,b,c⟩:=h2 j g hg;exact ⟨i',d',a,b,by simpa using c⟩
  ·cases h
theorem mkTK_ok (P:Program)(d:TypeDesc):TKok P d (mkTK P.toTables (some d)):=by
 cases d <;> simp only [mkTK] <;> try trivial
 case pointer e=>exact ⟨e,rfl⟩
 case slice e =>
  split
  ·rename_i i de z hi hd hz
   obtain ⟨i',zv,h1,h2,h3⟩:=zeroCs_ok hz
   rw [hi] at h1;cases h1
   exact ⟨e,i,zv,de,rfl,info_of_types hi,rfl,rfl,h2,underlying_of hd,rfl,h3⟩
  ·trivial
 case array n e =>
  split
  ·rename_i i de hi hd
   exact ⟨e,i,de,rfl,info_of_types hi,rfl,underlying_of hd,rfl⟩
  ·trivial
 case struct fs =>
  split
  ·rename_i l hl
   obtain ⟨h1,h2⟩:=fieldsOf_ok hl
   exact ⟨fs,rfl,by simpa using h1,fun j f hf=>h2 j f (by simpa using hf)⟩
  ·trivial
 case func a b c=>exact ⟨a,b,c,rfl⟩
 case interface m=>exact ⟨m,rfl⟩
theorem mkTI_ok {P:Program} {t:Nat} {ti:TI} (h:mkTI P.toTables t=some ti):TIok P t ti:=by
 unfold mkTI at h
 split at h
 ·rename_i i d z hi hd hz
  cases h
  obtain ⟨i',zv,h1,h2,h3⟩:=zeroCs_ok hz
  rw [hi] at h1;cases h1
  exact ⟨⟨i,zv,info_of_types hi,rfl,h2,h3⟩,⟨d,underlying_of hd,mkTK_ok P d,rfl⟩⟩
 ·cases h
structure TyOk (P:Program) (g:G):Prop where
 ti:∀ t ti,g.ty t=some ti→TIok P t ti
 eq:∀ t ks,g.eqs t=some ks→mkEq P t=some ks
 con:∀ t,g.con t=true→P.concrete t=true
 u8:∀ t,g.u8 t=true→∃ e,P.underlying t=some (.slice e)∧P.underlying e=some (.int .u8)
theorem mkU8_ok {P:Program} {t:Nat} (h:mkU8 P.toTables t=true):∃ e,P.underlying t=some (.slice e)∧P.underlying e=some (.int .u8):=by
 unfold mkU8 at h
 split at h
 ·rename_i e he
  split at h
  ·rename_i h2;exact ⟨e,underlying_of he,underlying_of h2⟩
  ·cases h
 ·cases h
def RepR (κ:K)(w:World)(lam:Lam)(v:Value):E→Prop
 | .any=>True
 | .val x=>Rep κ w v x
 | .lp t off=>∃ b,lam t=some b∧v=.pointer (some (at_ b off))
 | .own _ xs=>Rep κ w v (.slice xs)
 | .bor _ xs _=>Rep κ w v (.slice xs)
theorem RepE.read {d:Nat} {κ:K} {w:World} {lam:Lam} {fr:Fr} {st:St} {tmps:Array Value} {s:Nat} {v:Value} {e:E} (h:RepE d κ w lam fr st tmps s v e):RepR κ w lam v e:=by
 cases e with
 | any=>trivial
 | val x=>exact h
 | lp t off=>exact h
 | own k xs=>exact h.1
 | bor k xs p=>cases p <;> exact h.1
theorem RepV.read {κ:K} {w:World} {lam:Lam} {fr:Fr} {st:St} {tmps:Array Value} {v:Value} {e:E} (h:RepV κ w lam fr st tmps v e):RepR κ w lam v e:=by
 cases e with
 | any=>trivial
 | val x=>exact h
 | lp t off=>exact h
 | own k xs=>exact h.1
 | bor k xs p=>cases p <;> exact h.1
theorem RepV.toE {κ:K} {w:World} {lam:Lam} {fr:Fr} {st:St} {tmps:Array Value} {v:Value} {x:V} (h:Rep κ w v x):RepV κ w lam fr st tmps v x.toE:=by
 cases x <;> try exact h
 cases h with | osl h=>exact ⟨h,.full⟩
theorem RepV.lit {κ:K} {w:World} {lam:Lam} {fr:Fr} {st:St} {tmps:Array Value} {v:Value} {x:V} (fi:FI)(o:Oper)(h:Rep κ w v x):RepV κ w lam fr st tmps v (litE fi o x):=by
 have key:RepV κ w lam fr st tmps v (litV x):=by
  unfold litV
  split
  ·cases h with | osl h=>exact Rep.osl (xs:=[]) h
  ·exact RepV.toE h
 unfold litE
 split
 ·split
  ·exact key
  ·exact RepV.toE h
 ·exact RepV.toE h
theorem R.op {d n:Nat} {κ:K} {w:World} {lam:Lam} {fr:Fr} {st:St} {a:Act} (r:R d n κ w lam fr st a)(x:Operand):RepR κ w lam (a.eval x) (fr.op x):=by
 cases x with
 | tmp t=>exact (r.fm.tmp t).read
 | const v=>exact (RepV.toE (lam:=lam) (fr:=fr) (st:=st) (tmps:=a.tmps) (constV_rep κ w v)).read
 | global g=>trivial
 | func f=>exact Rep.func .nil .nil
theorem R.lend {d n:Nat} {κ:K} {w:World} {lam:Lam} {fr:Fr} {st:St} {a:Act} (r:R d n κ w lam fr st a)(x:Operand):RepV κ w lam fr st a.tmps (a.eval x) (fr.lend x):=by
 cases x with
 | tmp t =>
  simp only [Fr.lend]
  split
  ·rename_i k xs he
   have h:=r.fm.tmp t
   rw [he] at h
   exact ⟨h.1,he,rfl⟩
  ·rename_i e hn
   exact RepV.mk r t (fun k xs he=>hn k xs he)
 | const v=>exact RepV.toE (constV_rep κ w v)
 | global g=>trivial
 | func f=>exact Rep.func .nil .nil
theorem Rep.strip1 {κ:K} {w:World} {v:Value} {x:V} (h:Rep κ w v x):Rep κ w v x.strip1:=by
 cases x <;> try exact h
 cases h with | osl h=>exact h
theorem Reps.strip1 {κ:K} {w:World}:∀ {vs:List Value} {xs:List V},Reps κ w vs xs→Reps κ w vs (xs.map V.strip1)
 | _,_,.nil=>.nil
 | _,_,.cons h r=>.cons h.strip1 r.strip1
theorem Rep.strip {κ:K} {w:World} {v:Value} {x:V} (h:Rep κ w v x):Rep κ w v x.strip:=by
 cases x <;> try exact h
 ·cases h with | osl h=>exact h
 ·cases h with | agg h=>exact .agg h.strip1
theorem RepR.v {κ:K} {w:World} {lam:Lam} {v:Value} {e:E} {x:V} (h:RepR κ w lam v e)(he:e.v?=some x):Rep κ w v x:=by
 cases e <;> simp only [E.v?,Option.some.injEq,reduceCtorEq] at he
 ·subst he;exact Rep.strip h
 ·subst he;exact h
 ·subst he;exact h
inductive Reads (κ:K) (w:World) (lam:Lam):List Value→List E→Prop
 | nil:Reads κ w lam [] []
 | cons {v:Value} {e:E} {vs:List Value} {es:List E} (h:RepR κ w lam v e) (r:Reads κ w lam vs es):Reads κ w lam (v :: vs) (e :: es)
theorem vsOf_reps {κ:K} {w:World} {lam:Lam}:∀ {vs:List Value} {es:List E} {xs:List V},Reads κ w lam vs es→vsOf es=some xs→Reps κ w vs xs
 | _,_,_,.nil,h=>by simp only [vsOf,Option.some.injEq] at h;subst h;exact .nil
 | _,_,_,.cons h r,hx=>by
  simp only [vsOf] at hx
  split at hx
  ·rename_i v hv
   cases hr:vsOf _ with
   | none=>rw [hr] at hx;simp at hx
   | some ys =>
    rw [hr] at hx
    simp only [Option.map_some,Option.some.injEq] at hx
    subst hx
    exact .cons (h.v hv) (vsOf_reps r hr)
  ·cases hx
theorem R.ops {d n:Nat} {κ:K} {w:World} {lam:Lam} {fr:Fr} {st:St} {a:Act} (r:R d n κ w lam fr st a):(l:List Operand)→Reads κ w lam (l.map a.eval) (l.map fr.op)
 | []=>.nil
 | x :: l=>.cons (r.op x) (r.ops l)
theorem Reps.length {κ:K} {w:World}:∀ {vs:List Value} {xs:List V},Reps κ w vs xs→vs.length=xs.length
 | _,_,.nil=>rfl
 | _,_,.cons _ r=>by simp [r.length]
theorem Reps.get {κ:K} {w:World}:∀ {vs:List Value} {xs:List V} (_:Reps κ w vs xs) (i:Nat) (x:V),xs[i]?=some x→∃ v,vs[i]?=some v∧Rep κ w v x
 | _,_,.nil,i,x,h=>by simp at h
 | _,_,.cons h _,0,x,hx=>by simp at hx;subst hx;exact ⟨_,rfl,h⟩
 | _,_,.cons _ r,i+1,x,hx=>by simp at hx;simpa using r.get i x hx
theorem Reps.append {κ:K} {w:World}:∀ {vs us:List Value} {xs ys:List V},Reps κ w vs xs→Reps κ w us ys→Reps κ w (vs ++ us) (xs ++ ys)
 | _,_,_,_,.nil,g=>g
 | _,_,_,_,.cons h r,g=>.cons h (r.append g)
theorem Reps.take {κ:K} {w:World}:∀ {vs:List Value} {xs:List V},Reps κ w vs xs→∀ n,Reps κ w (vs.take n) (xs.take n)
 | _,_,_,0=>by simp;exact .nil
 | _,_,.nil,_+1=>.nil
 | _,_,.cons h r,n+1=>.cons h (r.take n)
theorem Reps.drop {κ:K} {w:World}:∀ {vs:List Value} {xs:List V},Reps κ w vs xs→∀ n,Reps κ w (vs.drop n) (xs.drop n)
 | _,_,h,0=>h
 | _,_,.nil,_+1=>.nil
 | _,_,.cons _ r,n+1=>r.drop n
theorem Reps.of_get {κ:K} {w:World}:∀ {vs:List Value} {xs:List V},vs.length=xs.length→(∀ (i:Nat) v x,vs[i]?=some v→xs[i]?=some x→Rep κ w v x)→Reps κ w vs xs
 | [],[],_,_=>.nil
 | v :: vs,x :: xs,hl,h=>.cons (h 0 v x rfl rfl) (Reps.of_get (by simpa using hl) fun i v x h1 h2=>h (i+1) v x (by simpa using h1) (by simpa using h2))
theorem RepAt.length_le {κ:K} {w:World} {b o:Nat} {xs:List V} (h:RepAt κ w b o xs)(j:Nat)(x:V)(hx:xs[j]?=some x):∃ v,Imm κ w b (o+j) v∧Rep κ w v x:=by
 induction xs generalizing o j with
 | nil=>simp at hx
 | cons y ys ih =>
  cases h with
  | cons hi hr r =>
   cases j with
   | zero=>simp at hx;subst hx;exact ⟨_,hi,hr⟩
   | succ j=>simp at hx;obtain ⟨v,h1,h2⟩:=ih r j hx;exact ⟨v,by rwa [Nat.add_assoc,Nat.add_comm 1 j] at h1,h2⟩
theorem RepAt.of_get {κ:K} {w:World} {b:Nat} {xs:List V}:∀ {o:Nat},(∀ j x,xs[j]?=some x→∃ v,Imm κ w b (o+j) v∧Rep κ w v x)→RepAt κ w b o xs:=by
 induction xs with
 | nil=>intro o _;exact .nil
 | cons y ys ih =>
  intro o h
  obtain ⟨v,h1,h2⟩:=h 0 y rfl
  refine .cons h1 h2 (ih fun j x hx=>?_)
  obtain ⟨v,h3,h4⟩:=h (j+1) x (by simpa using hx)
  exact ⟨v,by rwa [Nat.add_assoc,Nat.add_comm 1 j],h4⟩
theorem RepAt.drop {κ:K} {w:World} {b:Nat} {xs:List V}:∀ {o:Nat},RepAt κ w b o xs→∀ n,RepAt κ w b (o+n) (xs.drop n):=by
 intro o h n
 refine RepAt.of_get fun j x hx=>?_
 rw [List.getElem?_drop] at hx
 rw [Nat.add_assoc]
 exact h.length_le _ _ hx
theorem RepAt.take {κ:K} {w:World} {b:Nat} {xs:List V} {o:Nat} (h:RepAt κ w b o xs)(n:Nat):RepAt κ w b o (xs.take n):=by
 refine RepAt.of_get fun j x hx=>?_
 rw [List.getElem?_take] at hx
 split at hx
 ·exact h.length_le _ _ hx
 ·cases hx
theorem RepAt.append {κ:K} {w:World} {b o:Nat} {xs ys:List V} (h:RepAt κ w b o xs)(g:RepAt κ w b (o+xs.length) ys):RepAt κ w b o (xs ++ ys):=by
 refine RepAt.of_get fun j x hx=>?_
 rcases Nat.lt_or_ge j xs.length with hj | hj
 ·rw [List.getElem?_append_left hj] at hx;exact h.length_le _ _ hx
 ·rw [List.getElem?_append_right hj] at hx
  obtain ⟨v,h1,h2⟩:=g.length_le _ _ hx
  exact ⟨v,by rwa [show o+xs.length+(j - xs.length)=o+j by omega] at h1,h2⟩
end Go.Ab
namespace Go.Ab
open Go
def Does (P:Program)(d n:Nat)(κ:K)(w:World)(st:St)(a:Act)(o:Oper):Rs→Prop
 | .ok e fr' st'=>∃ nx v w' κ' lam',(execOp a.eval o).run P w=.ok nx w'∧(nx=.value v∨(nx=.skip∧v=undef)) ∧
   R d n κ' w' lam' fr' st' a∧RepV κ' w' lam' fr' st' a.tmps v e∧Pres (Keep d st.wp) κ w κ' w'∧st'.wp=st.wp
 | .pan x st'=>∃ v w' κ',(execOp a.eval o).run P w=.halt (.panic v) w'∧Rep κ' w' v x∧Sim κ' w' st'∧Pres (Keep d st.wp) κ w κ' w'∧st'.wp=st.wp
variable {P:Program} {d n:Nat} {κ:K} {w:World} {lam:Lam} {fr:Fr} {st:St} {a:Act} {o:Oper}
theorem Does.pure (r:R d n κ w lam fr st a) {v:Value} {e:E} (h:(execOp a.eval o).run P w=.ok (.value v) w)(hv:RepV κ w lam fr st a.tmps v e) :
  Does P d n κ w st a o (.ok e fr st) :=
 ⟨_,v,w,κ,lam,h,.inl rfl,r,hv,.refl _ _ _,rfl⟩
theorem pres_drew (S:Ow→Prop):Pres S κ w κ w.drew :=
 ⟨rfl,rfl,rfl,Nat.le_refl _,fun _ _ h=>h,fun _ _ _ h=>h,fun _ _ _ h _=>⟨h,rfl⟩,fun _ _ _=>rfl,fun _ _ h=>⟨rfl,h⟩⟩
theorem R.drew (r:R d n κ w lam fr st a):R d n κ w.drew lam fr st a :=
 r.pres (pres_drew fun _=>True) (fun _ _=>trivial) r.sim.good r.sim.fresh
theorem Does.drew (r:R d n κ w lam fr st a) {v:Value} {e:E} (h:(execOp a.eval o).run P w=.ok (.value v) w.drew)(hv:RepV κ w.drew lam fr st a.tmps v e) :
  Does P d n κ w st a o (.ok e fr st) :=
 ⟨_,v,w.drew,κ,lam,h,.inl rfl,r.drew,hv,pres_drew _,rfl⟩
theorem okE_some {e:Option E} {rs:Rs} (h:okE fr st e=some rs):∃ x,e=some x∧rs=.ok x fr st:=by
 cases e with
 | none=>cases h
 | some x=>exact ⟨x,rfl,by simpa [okE] using h.symm⟩
theorem okV_some {e:Option V} {rs:Rs} (h:okV fr st e=some rs):∃ x,e=some x∧rs=.ok x.toE fr st:=by
 cases e with
 | none=>cases h
 | some x=>exact ⟨x,rfl,by simpa [okV] using h.symm⟩
theorem Rep.bool_inv {v:Value} {b:Bool} (h:Rep κ w v (.bool b)):v=.bool b:=by cases h;rfl
theorem Rep.int_inv {v:Value} {k:IntKind} {m:Int} (h:Rep κ w v (.int k m)):v=.int k m:=by cases h;rfl
theorem Rep.str_inv {v:Value} {s:List UInt8} (h:Rep κ w v (.str s)):∃ t:ByteArray,v=.string t∧t.data.toList=s:=by cases h;exact ⟨_,rfl,rfl⟩
theorem Rep.slice_inv {v:Value} {xs:List V} (h:Rep κ w v (.slice xs)):∃ a cap,v=.slice a xs.length cap∧xs.length≤cap:=by
 cases h with
 | slice0 a c=>exact ⟨a,c,rfl,Nat.zero_le _⟩
 | slice hc _ h=>exact ⟨_,_,rfl,hc⟩
theorem Rep.agg_inv {v:Value} {xs:List V} (h:Rep κ w v (.agg xs)):∃ cs:Array Value,v=.agg cs∧Reps κ w cs.toList xs:=by cases h with | agg h=>exact ⟨_,rfl,h⟩
theorem Rep.tuple_inv {v:Value} {xs:List V} (h:Rep κ w v (.tuple xs)):∃ cs:Array Value,v=.tuple cs∧Reps κ w cs.toList xs:=by cases h with | tuple h=>exact ⟨_,rfl,h⟩
theorem int_of {v:Value} {e:E} {m:Int} (h:RepR κ w lam v e)(he:e.int?=some m):∃ k,v=.int k m:=by
 unfold E.int? at he
 split at he
 ·cases he;exact ⟨_,Rep.int_inv h⟩
 ·cases he
theorem bool_of {v:Value} {e:E} {b:Bool} (h:RepR κ w lam v e)(he:e.bool?=some b):v=.bool b:=by
 unfold E.bool? at he
 split at he
 ·cases he;exact Rep.bool_inv h
 ·cases he
theorem run_int_bits (op : BinOp) (k : IntKind) (x y : Int) {z : V} (h : intBin op k x y = some z) (t : TypeId) :
    ∃ v, (binOp op t (.int k x) (.int k y)).run P w = .ok v w ∧ Rep κ w v z := by
  unfold intBin at h
  split at h <;> try cases h
  all_goals first
    | (refine ⟨_, by simp only [binOp, ne_eq, not_true_eq_false, if_false, Op.intArith, Op.intBits, Op.intCmp]; rfl, ?_⟩; first | exact .int _ _ | exact .bool _)
    | (split at h
       · cases h
       · rename_i hy
         cases h
         exact ⟨_, by simp only [binOp, ne_eq, not_true_eq_false, if_false, Op.intDiv, hy]; rfl, .int _ _⟩)
theorem run_shift_v (op:BinOp)(hop:op=.shl∨op=.shr)(k k':IntKind)(x y:Int) {z:V} (h:shiftV op k x y=some z)(t:TypeId) :
  ∃ v,(binOp op t (.int k x) (.int k' y)).run P w=.ok v w∧Rep κ w v z:=by
 unfold shiftV at h
 split at h
 ·cases h
 ·rename_i hy
  rcases hop with rfl | rfl <;> (simp only at h;cases h;exact ⟨_,by simp only [binOp,Op.shift,hy,if_false];rfl,.int _ _⟩)
theorem run_float_v (op : BinOp) (k : FloatKind) (x y : Nat) {z : V} (h : floatBin op k x y = some z) (t : TypeId) :
    ∃ v w', (binOp op t (.float k x) (.float k y)).run P w = .ok v w' ∧ (w' = w ∨ w' = w.drew) ∧ ∀ κ w, Rep κ w v z := by
  unfold floatBin at h
  dsimp only at h
  split at h <;> try cases h
  all_goals first
    | exact ⟨_, w, by simp only [binOp, ne_eq, not_true_eq_false, if_false, Op.floatCmp]; rfl, .inl rfl, fun _ _ => .bool _⟩
    | (simp only [binOp, ne_eq, not_true_eq_false, if_false, Op.floatArith]
       split
       · rename_i b hb
         refine ⟨_, w, ?_, .inl rfl, fun _ _ => .float _ _⟩
         simp [hb]
       · rename_i hb
         refine ⟨.float k ((Question.nanBits k x y).cut (w.tape w.drawn (.nanBits k x y))), w.drew, ?_, .inr rfl, fun _ _ => .any _⟩
         simp [hb, Question.forced])
theorem size_eq_length (s:ByteArray):s.size=s.data.toList.length:=by
 cases s with | mk d=>simp [ByteArray.size]
theorem toList_data (s:ByteArray):s.toList=s.data.toList:=ByteArray.toList_eq s
theorem run_str_v (op:BinOp)(x y:ByteArray) {z:V} (h:strBin op x.data.toList y.data.toList=some z)(t:TypeId) :
  ∃ v,(binOp op t (.string x) (.string y)).run P w=.ok v w∧Rep κ w v z:=by
 unfold strBin at h
 dsimp only at h
 rw [← toList_data,← toList_data] at h
 split at h <;> try cases h
 case h_1 =>
  split at h
  ·rename_i hl
   cases h
   refine ⟨.string (x ++ y),?_,?_⟩
   ·have hx:=size_eq_length x
    have hy:=size_eq_length y
    rw [toList_data,toList_data,← hx,← hy] at hl
    have:¬ ((x.size+y.size:Nat):Int) > IntKind.i64.max:=by
     have:IntKind.i64.max=9223372036854775807:=rfl
     omega
    simp only [binOp,Op.stringOp,this,if_false];rfl
   ·have e:x.toList ++ y.toList=(x ++ y).data.toList:=by rw [toList_data,toList_data,ByteArray.data_append,Array.toList_append]
    rw [e];exact .str _
  ·cases h
 all_goals exact ⟨_,by simp only [binOp,Op.stringOp];rfl,.bool _⟩
theorem eqGuard_other (op : BinOp) (t : TypeId) (x y : Operand) (u v : Value) (h : ∀ a b, u = .agg a → v = .agg b → False) (h2 : u = .nilIface → v = .nilIface → False) :
    (eqGuard op t x y u v).run P w = .ok () w := by
  unfold eqGuard
  cases op <;> simp only [Bool.not_true, Bool.not_false, Bool.false_eq_true, if_false, if_true] <;> first
    | rfl
    | (split
       · exact (h2 rfl rfl).elim
       · exact (h _ _ rfl rfl).elim
       · rfl)
theorem und_eq {g:G} (hg:TyOk P g) {t:Nat} {k:TK} (h:(g.ty t).map TI.k=some k):∃ de,P.underlying t=some de∧TKok P de k:=by
 cases hti:g.ty t with
 | none=>rw [hti] at h;cases h
 | some ti =>
  rw [hti] at h
  simp only [Option.map_some,Option.some.injEq] at h
  obtain ⟨de,h1,h2,_⟩:=(hg.ti t ti hti).und
  exact ⟨de,h1,h ▸ h2⟩
theorem eqIn_ptr1 (d:Nat)(t e:TypeId)(p:Option Addr)(h:P.underlying t=some (.pointer e)):(Op.equalIn (d+1) t (.pointer none) (.pointer p)).run P w=.ok p.isNone w:=by
 simp [Op.equalIn,run_underlying h]
theorem eqIn_ptr2 (d:Nat)(t e:TypeId)(p:Addr)(h:P.underlying t=some (.pointer e)):(Op.equalIn (d+1) t (.pointer (some p)) (.pointer none)).run P w=.ok false w:=by
 simp [Op.equalIn,run_underlying h]
theorem eqIn_fn0 (d:Nat)(t:TypeId)(e f:Array TypeId)(i:Bool)(h:P.underlying t=some (.func e f i)):(Op.equalIn (d+1) t .nilFunc .nilFunc).run P w=.ok true w:=by
 simp [Op.equalIn,run_underlying h]
theorem eqIn_fn1 (d:Nat)(t:TypeId)(e f:Array TypeId)(i:Bool)(fn:Fn)(x y:Array Value)(h:P.underlying t=some (.func e f i)):(Op.equalIn (d+1) t .nilFunc (.func fn x y)).run P w=.ok false w:=by
 simp [Op.equalIn,run_underlying h]
theorem eqIn_fn2 (d:Nat)(t:TypeId)(e f:Array TypeId)(i:Bool)(fn:Fn)(x y:Array Value)(h:P.underlying t=some (.func e f i)):(Op.equalIn (d+1) t (.func fn x y) .nilFunc).run P w=.ok false w:=by
 simp [Op.equalIn,run_underlying h]
theorem eqIn_if1 (d:Nat)(t:TypeId)(m:Array (String × TypeId))(u:TypeId)(x:Value)(h:P.underlying t=some (.interface m)):(Op.equalIn (d+1) t .nilIface (.iface u x)).run P w=.ok false w:=by
 simp [Op.equalIn,run_underlying h]
theorem eqIn_if2 (d:Nat)(t:TypeId)(m:Array (String × TypeId))(u:TypeId)(x:Value)(h:P.underlying t=some (.interface m)):(Op.equalIn (d+1) t (.iface u x) .nilIface).run P w=.ok false w:=by
 simp [Op.equalIn,run_underlying h]
theorem run_eq_v {g:G} (hg:TyOk P g)(t:TypeId) {u v:Value} {x y:V} {b:Bool} (hu:Rep κ w u x)(hv:Rep κ w v y)(h:eqV ((g.ty t).map TI.k) x y=some b) :
  (Op.equal t u v).run P w=.ok b w∧((∃ c e,u=.bool c∧v=.bool e)∨(∃ c e,u=.pointer c∧v=.pointer e)∨(u=.nilFunc∧v=.nilFunc)∨(∃ f x y,u=.nilFunc∧v=.func f x y) ∨
   (∃ f x y,u=.func f x y∧v=.nilFunc)∨(∃ a b,u=.nilIface∧v=.iface a b)∨(∃ a b,u=.iface a b∧v=.nilIface)):=by
 unfold eqV at h
 split at h <;> try cases h
 case h_1 hk =>
  obtain ⟨de,h1,h2⟩:=und_eq hg hk
  simp only [TKok] at h2;subst h2
  cases hu;cases hv
  exact ⟨run_equal_bool w t _ _ h1,.inl ⟨_,_,rfl,rfl⟩⟩
 all_goals (rename_i hk;obtain ⟨de,h1,h2⟩:=und_eq hg hk;simp only [TKok] at h2)
 case h_2.refl | h_3.refl =>
  obtain ⟨e,rfl⟩:=h2
  cases hu;cases hv
  exact ⟨eqIn_ptr1 9999 t e _ h1,.inr (.inl ⟨_,_,rfl,rfl⟩)⟩
 case h_4.refl =>
  obtain ⟨e,rfl⟩:=h2
  cases hu;cases hv
  exact ⟨eqIn_ptr2 9999 t e _ h1,.inr (.inl ⟨_,_,rfl,rfl⟩)⟩
 case h_5.refl =>
  obtain ⟨e,f,i,rfl⟩:=h2
  cases hu;cases hv
  exact ⟨eqIn_fn0 9999 t e f i h1,.inr (.inr (.inl ⟨rfl,rfl⟩))⟩
 case h_6.refl =>
  obtain ⟨e,f,i,rfl⟩:=h2
  cases hu;cases hv
  exact ⟨eqIn_fn1 9999 t e f i _ _ _ h1,.inr (.inr (.inr (.inl ⟨_,_,_,rfl,rfl⟩)))⟩
 case h_7.refl =>
  obtain ⟨e,f,i,rfl⟩:=h2
  cases hu;cases hv
  exact ⟨eqIn_fn2 9999 t e f i _ _ _ h1,.inr (.inr (.inr (.inr (.inl ⟨_,_,_,rfl,rfl⟩))))⟩
 case h_8.refl =>
  obtain ⟨m,rfl⟩:=h2
  cases hu;cases hv
  exact ⟨eqIn_if1 9999 t m _ _ h1,.inr (.inr (.inr (.inr (.inr (.inl ⟨_,_,rfl,rfl⟩)))))⟩
 case h_9.refl =>
  obtain ⟨m,rfl⟩:=h2
  cases hu;cases hv
  exact ⟨eqIn_if2 9999 t m _ _ h1,.inr (.inr (.inr (.inr (.inr (.inr ⟨_,_,rfl,rfl⟩)))))⟩
theorem run_eql_v {g:G} (hg:TyOk P g)(t:TypeId) {u v:Value} {x y:V} {b:Bool} (hu:Rep κ w u x)(hv:Rep κ w v y)(h:eqV ((g.ty t).map TI.k) x y=some b) (X Y:Operand) :
  (do eqGuard .eql t X Y u v;binOp .eql t u v:Sem Value).run P w=.ok (.bool b) w∧(do eqGuard .neq t X Y u v;binOp .neq t u v:Sem Value).run P w=.ok (.bool !b) w:=by
 obtain ⟨h1,h2⟩:=run_eq_v hg t hu hv h
 have hgd:∀ op,(eqGuard op t X Y u v).run P w=.ok () w:=fun op=>eqGuard_other op t X Y u v
  (by rcases h2 with ⟨_,_,rfl,rfl⟩ | ⟨_,_,rfl,rfl⟩ | ⟨rfl,rfl⟩ | ⟨_,_,_,rfl,rfl⟩ | ⟨_,_,_,rfl,rfl⟩ | ⟨_,_,rfl,rfl⟩ | ⟨_,_,rfl,rfl⟩ <;> simp)
  (by rcases h2 with ⟨_,_,rfl,rfl⟩ | ⟨_,_,rfl,rfl⟩ | ⟨rfl,rfl⟩ | ⟨_,_,_,rfl,rfl⟩ | ⟨_,_,_,rfl,rfl⟩ | ⟨_,_,rfl,rfl⟩ | ⟨_,_,rfl,rfl⟩ <;> simp)
 have e1:binOp .eql t u v=(do pure (.bool (← Op.equal t u v)):Sem Value):=by
  rcases h2 with ⟨_,_,rfl,rfl⟩ | ⟨_,_,rfl,rfl⟩ | ⟨rfl,rfl⟩ | ⟨_,_,_,rfl,rfl⟩ | ⟨_,_,_,rfl,rfl⟩ | ⟨_,_,rfl,rfl⟩ | ⟨_,_,rfl,rfl⟩ <;> rfl
 have e2:binOp .neq t u v=(do pure (.bool (!(← Op.equal t u v))):Sem Value):=by
  rcases h2 with ⟨_,_,rfl,rfl⟩ | ⟨_,_,rfl,rfl⟩ | ⟨rfl,rfl⟩ | ⟨_,_,_,rfl,rfl⟩ | ⟨_,_,_,rfl,rfl⟩ | ⟨_,_,rfl,rfl⟩ | ⟨_,_,rfl,rfl⟩ <;> rfl
 constructor
 ·rw [Sem.run_bind,hgd,Result.andThen_ok,e1,Sem.run_bind,h1];rfl
 ·rw [Sem.run_bind,hgd,Result.andThen_ok,e2,Sem.run_bind,h1];rfl
theorem eqGuard_scalar (op:BinOp)(t:TypeId)(x y:Operand) {u v:Value} (h:(∃ k m,u=.int k m)∨(∃ k m,u=.float k m)∨(∃ s,u=.string s)) :
  (eqGuard op t x y u v).run P w=.ok () w :=
 eqGuard_other op t x y u v (by rcases h with ⟨_,_,rfl⟩ | ⟨_,_,rfl⟩ | ⟨_,rfl⟩ <;> simp) (by rcases h with ⟨_,_,rfl⟩ | ⟨_,_,rfl⟩ | ⟨_,rfl⟩ <;> simp)
theorem run_bin_v {g:G} (hg:TyOk P g)(t:TypeId)(op:BinOp) {u v:Value} {x y z:V} (hu:Rep κ w u x)(hv:Rep κ w v y)(h:binV ((g.ty t).map TI.k) op x y=some z) (X Y:Operand) :
  ∃ r w',(do eqGuard op t X Y u v;binOp op t u v:Sem Value).run P w=.ok r w'∧(w'=w∨w'=w.drew)∧∀ κ,Rep κ w' r z:=by
 unfold binV at h
 split at h
 case h_1 =>
  cases hu;cases hv
  obtain ⟨r,h1,h2⟩:=run_shift_v (P:=P) (w:=w) (κ:=κ) .shl (.inl rfl) _ _ _ _ h t
  refine ⟨r,w,?_,.inl rfl,fun κ'=>?_⟩
  ·rw [Sem.run_bind,eqGuard_scalar _ _ _ _ (.inl ⟨_,_,rfl⟩)];exact h1
  ·obtain ⟨r',h1',h2'⟩:=run_shift_v (P:=P) (w:=w) (κ:=κ') .shl (.inl rfl) _ _ _ _ h t
   rw [h1] at h1';cases h1';exact h2'
 case h_2 =>
  cases hu;cases hv
  obtain ⟨r,h1,h2⟩:=run_shift_v (P:=P) (w:=w) (κ:=κ) .shr (.inr rfl) _ _ _ _ h t
  refine ⟨r,w,?_,.inl rfl,fun κ'=>?_⟩
  ·rw [Sem.run_bind,eqGuard_scalar _ _ _ _ (.inl ⟨_,_,rfl⟩)];exact h1
  ·obtain ⟨r',h1',h2'⟩:=run_shift_v (P:=P) (w:=w) (κ:=κ') .shr (.inr rfl) _ _ _ _ h t
   rw [h1] at h1';cases h1';exact h2'
 case h_3 =>
  split at h
  ·rename_i hk;subst hk
   cases hu;cases hv
   obtain ⟨r,h1,h2⟩:=run_int_bits (P:=P) (w:=w) (κ:=κ) _ _ _ _ h t
   refine ⟨r,w,?_,.inl rfl,fun κ'=>?_⟩
   ·rw [Sem.run_bind,eqGuard_scalar _ _ _ _ (.inl ⟨_,_,rfl⟩)];exact h1
   ·obtain ⟨r',h1',h2'⟩:=run_int_bits (P:=P) (w:=w) (κ:=κ') _ _ _ _ h t
    rw [h1] at h1';cases h1';exact h2'
  ·cases h
 case h_4 =>
  split at h
  ·rename_i hk;subst hk
   cases hu;cases hv
   obtain ⟨r,w',h1,h2,h3⟩:=run_float_v (P:=P) (w:=w) _ _ _ _ h t
   refine ⟨r,w',?_,h2,fun κ'=>h3 κ' w'⟩
   rw [Sem.run_bind,eqGuard_scalar _ _ _ _ (.inr (.inl ⟨_,_,rfl⟩))];exact h1
  ·cases h
 case h_5 =>
  obtain ⟨s,rfl,rfl⟩:=hu.str_inv
  obtain ⟨s',rfl,rfl⟩:=hv.str_inv
  obtain ⟨r,h1,h2⟩:=run_str_v (P:=P) (w:=w) (κ:=κ) _ _ _ h t
  refine ⟨r,w,?_,.inl rfl,fun κ'=>?_⟩
  ·rw [Sem.run_bind,eqGuard_scalar _ _ _ _ (.inr (.inr ⟨_,rfl⟩))];exact h1
  ·obtain ⟨r',h1',h2'⟩:=run_str_v (P:=P) (w:=w) (κ:=κ') _ _ _ h t
   rw [h1] at h1';cases h1';exact h2'
 case h_6 =>
  cases hb:eqV ((g.ty t).map TI.k) x y with
  | none=>rw [hb] at h;cases h
  | some b =>
   rw [hb] at h;simp only [Option.map_some,Option.some.injEq] at h;subst h
   exact ⟨_,w,(run_eql_v hg t hu hv hb X Y).1,.inl rfl,fun _=>.bool _⟩
 case h_7 =>
  cases hb:eqV ((g.ty t).map TI.k) x y with
  | none=>rw [hb] at h;cases h
  | some b =>
   rw [hb] at h;simp only [Option.map_some,Option.some.injEq] at h;subst h
   exact ⟨_,w,(run_eql_v hg t hu hv hb X Y).2,.inl rfl,fun _=>.bool _⟩
 case h_8=>cases h
end Go.Ab
namespace Go.Ab
open Go
variable {P:Program} {d n:Nat} {κ:K} {w:World} {lam:Lam} {fr:Fr} {st:St} {a:Act} {o:Oper}
theorem run_un_v (op:UnOp) {u:Value} {x z:V} (hu:Rep κ w u x)(h:unV op x=some z):∃ r,(Op.unary op u).run P w=.ok r w∧Rep κ w r z:=by
 unfold unV at h
 split at h <;> try cases h
 ·cases hu;exact ⟨_,rfl,.bool _⟩
 ·cases hu;exact ⟨_,rfl,.int _ _⟩
 ·cases hu;exact ⟨_,rfl,.float _ _⟩
 ·cases hu;exact ⟨_,rfl,.int _ _⟩
theorem und_tk {g:G} (hg:TyOk P g) {t:Nat} {ti:TI} (h:g.ty t=some ti):∃ de,P.underlying t=some de∧TKok P de ti.k:=by
 obtain ⟨de,h1,h2,_⟩:=(hg.ti t ti h).und
 exact ⟨de,h1,h2⟩
theorem addr_add (b o m:Nat):(at_ b o).add m=at_ b (o+m):=by
 unfold Addr.add at_;split
 ·rename_i h;simp [h]
 ·rfl
/-! ### addresses -/
theorem addrAdd_rep {v:Value} {e e':E} {m:Nat} (h:RepR κ w lam v e)(he:addrAdd e m=some e') :
  ∃ b o,v=.pointer (some (at_ b o))∧RepV κ w lam fr st a.tmps (.pointer (some (at_ b (o+m)))) e':=by
 unfold addrAdd at he
 split at he
 ·cases he
  obtain ⟨b,hb,rfl⟩:=h
  exact ⟨b,_,rfl,b,hb,rfl⟩
 ·cases he
  cases h with | ptr h=>exact ⟨_,_,rfl,.ptr h⟩
 ·split at he
  ·cases he
   cases h with | ep h=>exact ⟨_,_,rfl,.ep (h.drop _)⟩
  ·cases he
 ·cases he
theorem field_run (t:TypeId)(fs:Array Field)(f:Field)(j:Nat)(i:TypeInfo)(b o:Nat)(h1:P.underlying t=some (.struct fs))(h2:fs[j]?=some f)(h3:P.info? f.type=some i)(h4:i.size≠0) :
  (Instr.fieldAt t (.pointer (some (at_ b o))) j).run P w=.ok (.pointer (some (at_ b (o+f.offset)))) w:=by
 simp [Instr.fieldAt,run_underlying h1,h2,Instr.sureAddr,fieldPlace,sizeOf,typeInfo,h3,h4,addr_add]
theorem flat_get (xs:List V)(k:Nat)(h:∀ x∈xs,x.cells.length=k)(i:Nat)(x:V)(hx:xs[i]?=some x)(j:Nat)(hj:j<k) :
  (xs.flatMap V.cells)[i*k+j]?=x.cells[j]?:=by
 induction xs generalizing i with
 | nil=>simp at hx
 | cons y ys ih =>
  have hy:=h y (by simp)
  cases i with
  | zero =>
   simp at hx;subst hx
   rw [List.flatMap_cons,Nat.zero_mul,Nat.zero_add,List.getElem?_append_left (by omega)]
  | succ i =>
   simp at hx
   have:=ih (fun z hz=>h z (by simp [hz])) i hx
   rw [List.flatMap_cons,List.getElem?_append_right (by rw [hy,Nat.succ_mul];omega),hy]
   rw [show (i+1)*k+j - k=i*k+j by rw [Nat.succ_mul];omega]
   exact this
theorem flat_length (xs:List V)(k:Nat)(h:∀ x∈xs,x.cells.length=k):(xs.flatMap V.cells).length=xs.length*k:=by
 induction xs with
 | nil=>simp
 | cons y ys ih=>rw [List.flatMap_cons,zla,h y (by simp),ih (fun z hz=>h z (by simp [hz])),List.length_cons,Nat.succ_mul,Nat.add_comm]
theorem flat_drop (xs:List V)(k:Nat)(h:∀ x∈xs,x.cells.length=k)(i:Nat):(xs.drop i).flatMap V.cells=(xs.flatMap V.cells).drop (i*k):=by
 induction xs generalizing i with
 | nil=>simp
 | cons y ys ih =>
  cases i with
  | zero=>simp
  | succ i =>
   have hy:=h y (by simp)
   have e:(i+1)*k=i*k+k:=Nat.succ_mul i k
   rw [List.drop_succ_cons,ih (fun z hz=>h z (by simp [hz])),List.flatMap_cons,e,List.drop_append,hy,List.drop_of_length_le (l:=y.cells) (by omega),List.nil_append,Nat.add_sub_cancel]
theorem flat_take (xs:List V)(k:Nat)(h:∀ x∈xs,x.cells.length=k)(i:Nat):(xs.take i).flatMap V.cells=(xs.flatMap V.cells).take (i*k):=by
 induction xs generalizing i with
 | nil=>simp
 | cons y ys ih =>
  cases i with
  | zero=>simp
  | succ i =>
   have hy:=h y (by simp)
   have e:(i+1)*k=i*k+k:=Nat.succ_mul i k
   rw [List.take_succ_cons,List.flatMap_cons,ih (fun z hz=>h z (by simp [hz])),List.flatMap_cons,e,List.take_append,hy,List.take_of_length_le (l:=y.cells) (by omega),Nat.add_sub_cancel]
theorem slice_elem {b o cap k:Nat} {xs:List V} (hk:∀ x∈xs,x.cells.length=k)(h:RepAt κ w b o (xs.flatMap V.cells))(i:Nat)(x:V)(hx:xs[i]?=some x) :
  RepAt κ w b (o+i*k) x.cells:=by
 refine RepAt.of_get fun j y hy=>?_
 have hj:j<k:=by
  have:=(List.getElem?_eq_some_iff.1 hy).1
  rwa [hk x (zmg hx)] at this
 rw [Nat.add_assoc]
 exact h.length_le _ _ (by rw [flat_get xs k hk i x hx j hj];exact hy)
theorem elems_of {v:Value} {e:E} {xs:List V} (h:RepR κ w lam v e)(he:elemsOf e=some xs):Rep κ w v (.slice xs):=by
 unfold elemsOf at he
 split at he <;> cases he <;> exact h
theorem index_run_slice (t elem:TypeId)(i:TypeInfo)(b o len cap:Nat)(k:IntKind)(m:Int)(h1:P.underlying t=some (.slice elem))(h2:P.info? elem=some i)(h3:0≤m)(h4:m<len) :
  (Instr.indexAt t (.slice (some (at_ b o)) len cap) (.int k m)).run P w=.ok (.pointer (some (at_ b (o+m.toNat*i.size)))) w:=by
 simp [Instr.indexAt,asIntOf,run_underlying h1,h3,h4,sizeOf,typeInfo,h2,addr_add]
theorem index_run_array (t elem:TypeId)(i:TypeInfo)(b o len:Nat)(k:IntKind)(m:Int)(h1:P.underlying t=some (.array len elem))(h2:P.info? elem=some i)(h3:0≤m)(h4:m<len) :
  (Instr.indexAt t (.pointer (some (at_ b o))) (.int k m)).run P w=.ok (.pointer (some (at_ b (o+m.toNat*i.size)))) w:=by
 simp [Instr.indexAt,asIntOf,run_underlying h1,h3,h4,sizeOf,typeInfo,h2,addr_add,Instr.sureAddr]
theorem indexAddr_ok {g:G} (hg:TyOk P g) {t:Nat} {ti:TI} (hti:g.ty t=some ti) {u v:Value} {x e:E} {m:Int} (hu:RepR κ w lam u x)(hv:∃ k,v=.int k m)
  (h:indexAddrStep ti x m=some e):∃ r,(Instr.indexAt t u v).run P w=.ok r w∧RepV κ w lam fr st a.tmps r e:=by
 obtain ⟨k,rfl⟩:=hv
 obtain ⟨de,h1,h2⟩:=und_tk hg hti
 unfold indexAddrStep at h
 split at h
 ·rename_i len esz ea hk
  rw [hk] at h2
  obtain ⟨el,i,de',rfl,hi,rfl,_,_⟩:=h2
  split at h
  ·rename_i hb
   obtain ⟨b,o,rfl,hr⟩:=addrAdd_rep (fr:=fr) (st:=st) (a:=a) hu h
   exact ⟨_,index_run_array t el i b o len k m h1 hi hb.1 hb.2,hr⟩
  ·cases h
 ·rename_i esz eb ea ez hk
  rw [hk] at h2
  obtain ⟨el,i,z,de',rfl,hi,rfl,_,_,_,_,_⟩:=h2
  split at h
  ·rename_i _ k' id off len
   split at h
   ·rename_i hb
    obtain ⟨rfl,hb1,hb2⟩:=hb
    cases h
    obtain ⟨b,cap,rfl,h3,_,h4,h5⟩:=Rep.sref_inv hu (by omega)
    exact ⟨_,index_run_slice t el i b off len cap k m h1 hi hb1 hb2,.ptr h3⟩
   ·cases h
  split at h
  ·rename_i xs hxs
   split at h
   ·rename_i h0
    split at h
    ·rename_i y hy
     split at h
     ·rename_i hl
      cases h
      have hr:=elems_of hu hxs
      cases hr with
      | slice0=>simp at hy
      | slice hc hk' hat =>
       rename_i b o cap k'
       have hlt:m.toNat<xs.length:=(List.getElem?_eq_some_iff.1 hy).1
       have hke:k'=i.size:=by rw [← hk' y (zmg hy)];simpa using hl
       subst hke
       exact ⟨_,index_run_slice t el i b o xs.length cap k m h1 hi h0 (by omega),.ep (slice_elem (cap:=cap) hk' hat _ _ hy)⟩
     ·cases h
    ·cases h
   ·cases h
  ·cases h
 ·cases h
/-! ### parts of values -/
theorem part_ok {ty:TypeId} {i:TypeInfo} {de:TypeDesc} {cs:Array Value} {xs:List V} {off:Nat} {z:V} (h1:P.info? ty=some i)(h2:P.underlying ty=some de)(hc:Reps κ w cs.toList xs)
  (h:partV i.size (isAggT de) xs off=some z):∃ r,(part ty cs off).run P w=.ok r w∧Rep κ w r z:=by
 have hagg:(isAgg ty).run P w=.ok (isAggT de) w:=by
  unfold isAgg
  simp only [Sem.run_bind,run_underlying h2,Result.andThen_ok]
  cases de <;> rfl
 unfold partV at h
 unfold part
 simp only [Sem.run_bind,hagg,Result.andThen_ok]
 split at h
 ·rename_i ha
  split at h
  ·cases h
   refine ⟨.agg (cs.extract off (off+i.size)),?_,?_⟩
   ·simp [ha,sizeOf,typeInfo,h1]
   ·refine .agg ?_
    have:(cs.extract off (off+i.size)).toList=(cs.toList.drop off).take i.size:=by
     rw [Array.toList_extract];simp [List.extract_eq_take_drop,List.take_drop]
    rw [this];exact (hc.drop off).take i.size
  ·cases h
 ·rename_i ha
  obtain ⟨v,hv,hr⟩:=hc.get off z h
  refine ⟨v,?_,hr⟩
  simp only [ha,if_false,Bool.false_eq_true]
  rw [← Array.getElem?_toList,hv]
  rfl
theorem field_ok {g:G} (hg:TyOk P g) {t:Nat} {ti:TI} (hti:g.ty t=some ti) {fs:List (Nat × Nat × Bool)} (hk:ti.k=.struct fs) {u:Value} {cs:List V} (hu:Rep κ w u (.agg cs))
  {j off size:Nat} {ag:Bool} (hf:fs[j]?=some (off,size,ag)) {z:V} (h:partV size ag cs off=some z):∃ r,(Instr.field t u j).run P w=.ok r w∧Rep κ w r z:=by
 obtain ⟨de,h1,h2⟩:=und_tk hg hti
 rw [hk] at h2
 obtain ⟨fs',rfl,hlen,hall⟩:=h2
 have hj:j<fs'.size:=by rw [← hlen];exact (List.getElem?_eq_some_iff.1 hf).1
 obtain ⟨i,de',hi,hd,he⟩:=hall j fs'[j] (by simp [hj])
 rw [hf] at he
 simp only [Option.some.injEq,Prod.mk.injEq] at he
 obtain ⟨rfl,rfl,rfl⟩:=he
 obtain ⟨ar,rfl,hr⟩:=hu.agg_inv
 obtain ⟨r,h3,h4⟩:=part_ok hi hd hr h
 refine ⟨r,?_,h4⟩
 simp [Instr.field,run_underlying h1,hj,asAgg,h3]
theorem fieldAddr_ok {g:G} (hg:TyOk P g) {t:Nat} {ti:TI} (hti:g.ty t=some ti) {fs:List (Nat × Nat × Bool)} (hk:ti.k=.struct fs) {u:Value} {x e:E} (hu:RepR κ w lam u x)
  {j off size:Nat} {ag:Bool} (hf:fs[j]?=some (off,size,ag)) (hs:size≠0) (h:addrAdd x off=some e):∃ r,(Instr.fieldAt t u j).run P w=.ok r w∧RepV κ w lam fr st a.tmps r e:=by
 obtain ⟨de,h1,h2⟩:=und_tk hg hti
 rw [hk] at h2
 obtain ⟨fs',rfl,hlen,hall⟩:=h2
 have hj:j<fs'.size:=by rw [← hlen];exact (List.getElem?_eq_some_iff.1 hf).1
 obtain ⟨i,de',hi,hd,he⟩:=hall j fs'[j] (by simp [hj])
 rw [hf] at he
 simp only [Option.some.injEq,Prod.mk.injEq] at he
 obtain ⟨rfl,rfl,rfl⟩:=he
 obtain ⟨b,o,rfl,hr⟩:=addrAdd_rep (fr:=fr) (st:=st) (a:=a) hu h
 exact ⟨_,field_run t fs' fs'[j] j i b o h1 (by simp [hj]) hi hs,hr⟩
theorem index_ok {g:G} (hg:TyOk P g) {t:Nat} {ti:TI} (hti:g.ty t=some ti) {u v:Value} {x z:V} {m:Int} (hu:Rep κ w u x)(hv:∃ k,v=.int k m)
  (h:indexStep ti x m=some z):∃ r,(Instr.index t u v).run P w=.ok r w∧Rep κ w r z:=by
 obtain ⟨k,rfl⟩:=hv
 obtain ⟨de,h1,h2⟩:=und_tk hg hti
 unfold indexStep at h
 split at h
 ·rename_i len esz ea cs hk
  rw [hk] at h2
  obtain ⟨el,i,de',rfl,hi,rfl,hd,rfl⟩:=h2
  split at h
  ·rename_i hb
   obtain ⟨ar,rfl,hr⟩:=hu.agg_inv
   obtain ⟨r,h3,h4⟩:=part_ok hi hd hr h
   refine ⟨r,?_,h4⟩
   simp [Instr.index,asIntOf,run_underlying h1,hb,sizeOf,typeInfo,hi,h3]
  ·cases h
 ·rename_i s hk
  rw [hk] at h2
  simp only [TKok] at h2;subst h2
  split at h
  ·rename_i h0
   obtain ⟨s',rfl,rfl⟩:=hu.str_inv
   cases hb:s'.data.toList[m.toNat]? with
   | none=>rw [hb] at h;cases h
   | some c =>
    rw [hb] at h;simp only [Option.map_some,Option.some.injEq] at h;subst h
    refine ⟨.int .u8 c.toNat,?_,.int _ _⟩
    have:s'[m.toNat]?=some c:=by
     rw [← hb]
     obtain ⟨hlt,heq⟩:=List.getElem?_eq_some_iff.1 hb
     have hl2:m.toNat<s'.size:=by rw [size_eq_length];exact hlt
     rw [hb,getElem?_pos s' m.toNat hl2]
     exact congrArg some heq
    simp [Instr.index,asIntOf,run_underlying h1,h0,this]
  ·cases h
 ·cases h
end Go.Ab
namespace Go.Ab
open Go
variable {P:Program} {d n:Nat} {κ:K} {w:World} {lam:Lam} {fr:Fr} {st:St} {a:Act} {o:Oper}
def BoundIs (v:Option Value)(x:Option Int):Prop :=
 match v,x with
 | none,none=>True
 | some v,some m=>∃ k,v=.int k m
 | _,_=>False
theorem bound_is (r:R d n κ w lam fr st a) {x:Option Operand} {y:Option Int} (h:boundOf fr x=some y):BoundIs (x.map a.eval) y:=by
 cases x with
 | none=>simp only [boundOf,Option.some.injEq] at h;subst h;trivial
 | some x =>
  simp only [boundOf] at h
  split at h
  ·rename_i m hm
   cases h
   exact int_of (r.op x) hm
  ·cases h
theorem bound_run {v:Value} {m:Int} {k:IntKind} (hv:v=.int k m)(y:Nat)(code:BoundsCode)(h:0≤m∧m≤(y:Int)):(Instr.sliceBound v y code).run P w=.ok m.toNat w:=by
 subst hv;exact run_sliceBound w k m y code h.1 h.2
theorem clip_some {x:Option Int} {dflt hi r:Nat} (h:clip x dflt hi=some r):(x=none∧r=dflt)∨(∃ m,x=some m∧0≤m∧m≤(hi:Int)∧r=m.toNat):=by
 unfold clip at h
 split at h
 ·cases h;exact .inl ⟨rfl,rfl⟩
 ·rename_i m
  split at h
  ·rename_i hm;cases h;exact .inr ⟨m,rfl,hm.1,hm.2,rfl⟩
  ·cases h
theorem bounds_run {isS:Bool} {len cap:Nat} {lo hi:Option Value} {l h:Option Int} {h' l':Nat} (hl:BoundIs lo l)(hh:BoundIs hi h)
  (e1:clip h len len=some h') (e2:clip l 0 h'=some l') (hc:len≤cap) :
  (Instr.sliceBounds isS len cap lo hi none).run P w=.ok (l',h',cap) w∧h'≤len∧l'≤h':=by
 have hh':h'≤len:=by
  rcases clip_some e1 with ⟨_,rfl⟩ | ⟨m,_,_,_,rfl⟩ <;> omega
 have hl':l'≤h':=by
  rcases clip_some e2 with ⟨_,rfl⟩ | ⟨m,_,_,_,rfl⟩ <;> omega
 refine ⟨?_,hh',hl'⟩
 have A:∀ code,(match hi with | some v=>Instr.sliceBound v cap code | none=>pure len:Sem Nat).run P w=.ok h' w:=by
  intro code
  rcases clip_some e1 with ⟨rfl,rfl⟩ | ⟨m,rfl,m0,m1,rfl⟩
  ·cases hi with
   | none=>rfl
   | some v=>exact hh.elim
  ·cases hi with
   | none=>exact hh.elim
   | some v=>obtain ⟨k,hk⟩:=hh;exact bound_run hk _ _ ⟨m0,by omega⟩
 have B:∀ code,(match lo with | some v=>Instr.sliceBound v h' code | none=>pure 0:Sem Nat).run P w=.ok l' w:=by
  intro code
  rcases clip_some e2 with ⟨rfl,rfl⟩ | ⟨m,rfl,m0,m1,rfl⟩
  ·cases lo with
   | none=>rfl
   | some v=>exact hl.elim
  ·cases lo with
   | none=>exact hl.elim
   | some v=>obtain ⟨k,hk⟩:=hl;exact bound_run hk _ _ ⟨m0,m1⟩
 unfold Instr.sliceBounds
 cases hi with
 | none =>
  simp only [Sem.run_bind,Sem.run_pure,Result.andThen_ok] at A ⊢
  have:=A .index;simp only [Result.ok.injEq,and_true] at this;subst this
  cases lo with
  | none=>have:=B .index;simp only [Sem.run_pure,Result.ok.injEq,and_true] at this;subst this;rfl
  | some v=>simp only [Option.isSome_none,Bool.false_eq_true,if_false];have:=B .sliceB;simp only at this;rw [Sem.run_bind,this];rfl
 | some v =>
  simp only [Sem.run_bind,Sem.run_pure,Result.andThen_ok] at A ⊢
  rw [A]
  simp only [Result.andThen_ok]
  cases lo with
  | none=>have:=B .index;simp only [Sem.run_pure,Result.ok.injEq,and_true] at this;subst this;rfl
  | some v=>simp only [Option.isSome_none,Bool.false_eq_true,if_false];have:=B .sliceB;simp only at this;rw [Sem.run_bind,this];rfl
theorem Rep.piece {p:Option Addr} {cap cap' l h:Nat} {xs:List V} (hr:Rep κ w (.slice p xs.length cap) (.slice xs))(h1:h≤xs.length)(h2:l≤h)(hc:h - l≤cap')(sz:Nat)
  (hsz:∀ x∈xs,x.cells.length=sz):Rep κ w (.slice (p.map (·.add (l*sz))) (h - l) cap') (.slice ((xs.take h).drop l)):=by
 have hlen:((xs.take h).drop l).length=h - l:=by simp;omega
 rw [← hlen] at hc ⊢
 by_cases hz:((xs.take h).drop l)=[]
 ·rw [hz];exact .slice0 _ _
 ·generalize hv:Value.slice p xs.length cap=v at hr
  cases hr with
  | slice0=>simp at hz
  | slice _ hk hat =>
   cases hv
   show Rep κ w (.slice (some (Addr.add (at_ _ _) (l*sz))) _ cap') _
   rw [addr_add]
   refine .slice hc (k:=sz) (fun x hx=>hsz x (List.mem_of_mem_take (List.mem_of_mem_drop hx))) ?_
   rw [flat_drop _ sz (fun x hx=>hsz x (List.mem_of_mem_take hx)),flat_take _ sz hsz]
   exact (hat.take _).drop _
theorem sizesOk_all {esz:Nat}:∀ {xs:List V},sizesOk esz xs=true→∀ x∈xs,x.cells.length=esz
 | [],_,x,hx=>by simp at hx
 | v :: r,h,x,hx=>by
  simp only [sizesOk,Bool.and_eq_true,beq_iff_eq] at h
  rcases List.mem_cons.1 hx with rfl | hx
  ·exact h.1.1
  ·exact sizesOk_all h.2 x hx
theorem sizesOk_one {esz:Nat}:∀ {xs:List V},sizesOk esz xs=true→∀ x∈xs.flatMap V.cells,x.one=true
 | [],_,x,hx=>by simp at hx
 | v :: r,h,x,hx=>by
  simp only [sizesOk,Bool.and_eq_true,beq_iff_eq] at h
  rw [List.flatMap_cons,List.mem_append] at hx
  rcases hx with hx | hx
  ·exact List.all_eq_true.1 h.1.2 x hx
  ·exact sizesOk_one h.2 x hx
theorem elem_size {g:G} (hg:TyOk P g) {t:Nat} {ti:TI} (hti:g.ty t=some ti) {esz eb:Nat} {ea:Bool} {ez:List V} (hk:ti.k=.slice esz eb ea ez) :
  ∃ e i z,P.underlying t=some (.slice e)∧P.info? e=some i∧i.size=esz∧i.bytes=eb∧i.zero=some z∧(∀ κ w,Reps κ w z.cells.toList ez):=by
 obtain ⟨de,h1,h2⟩:=und_tk hg hti
 rw [hk] at h2
 obtain ⟨el,i,z,de',rfl,hi,h3,h4,h5,_,_,h6⟩:=h2
 exact ⟨el,i,z,h1,hi,h3,h4,h5,h6⟩
theorem bounds3_run {len cap:Nat} {lo hi mx:Option Value} {l:Option Int} {h m:Int} {h' l':Nat} (hl:BoundIs lo l)(hh:BoundIs hi (some h))(hm:BoundIs mx (some m))
  (e1:clip (some h) 0 len=some h') (e3:m=(h':Int)) (e2:clip l 0 h'=some l') (hc:len≤cap) :
  (Instr.sliceBounds true len cap lo hi mx).run P w=.ok (l',h',h') w∧h'≤len∧l'≤h':=by
 cases hi with
 | none=>exact hh.elim
 | some vh =>
 cases mx with
 | none=>exact hm.elim
 | some vm =>
 obtain ⟨kh,hh⟩:=hh
 obtain ⟨km,hm⟩:=hm
 rcases clip_some e1 with ⟨h0,_⟩ | ⟨x,hx,x0,x1,rfl⟩
 ·cases h0
 cases hx
 subst e3
 have hl':l'≤h.toNat:=by
  rcases clip_some e2 with ⟨_,rfl⟩ | ⟨m,_,_,_,rfl⟩ <;> omega
 refine ⟨?_,by omega,hl'⟩
 have B:∀ code,(match lo with | some v=>Instr.sliceBound v h.toNat code | none=>pure 0:Sem Nat).run P w=.ok l' w:=by
  intro code
  rcases clip_some e2 with ⟨rfl,rfl⟩ | ⟨m,rfl,m0,m1,rfl⟩
  ·cases lo with
   | none=>rfl
   | some v=>exact hl.elim
  ·cases lo with
   | none=>exact hl.elim
   | some v=>obtain ⟨k,hk⟩:=hl;exact bound_run hk _ _ ⟨m0,m1⟩
 have hx:((h.toNat:Int)).toNat=h.toNat:=Int.toNat_natCast _
 unfold Instr.sliceBounds
 simp only [Sem.run_bind,if_true]
 rw [bound_run hm cap _ ⟨by omega,by omega⟩]
 simp only [Result.andThen_ok,hx]
 rw [bound_run hh h.toNat _ ⟨x0,by omega⟩]
 simp only [Result.andThen_ok,Option.isSome_some,if_true]
 cases lo with
 | none=>have:=B .index;simp only [Sem.run_pure,Result.ok.injEq,and_true] at this;subst this;rfl
 | some v=>have:=B .slice3C;simp only at this;rw [Sem.run_bind,this];rfl
theorem slice_ok {g:G} (hg:TyOk P g) {t:Nat} {ti:TI} (hti:g.ty t=some ti) {u:Value} {x:V} {e:E} {lo hi mx:Option Value} {l h m:Option Int}
  (hu:Rep κ w u x) (hl:BoundIs lo l) (hh:BoundIs hi h) (hm:BoundIs mx m) (hs:sliceStep ti.k x l h m=some e):∃ r,(Instr.sliceAt t u lo hi mx).run P w=.ok r w∧RepV κ w lam fr st a.tmps r e:=by
 unfold sliceStep at hs
 split at hs
 ·rename_i s hk
  obtain ⟨de,h1,h2⟩:=und_tk hg hti
  rw [hk] at h2
  simp only [TKok] at h2;subst h2
  have hmx:mx=none:=by cases mx with | none=>rfl | some v=>exact hm.elim
  subst hmx
  obtain ⟨s',rfl,rfl⟩:=hu.str_inv
  split at hs
  ·rename_i h' e1
   split at hs
   ·rename_i l' e2
    cases hs
    rw [← size_eq_length] at e1
    obtain ⟨hb,hb1,hb2⟩:=bounds_run (P:=P) (w:=w) (isS:=false) hl hh e1 e2 (Nat.le_refl _)
    refine ⟨.string (s'.extract l' h'),?_,?_⟩
    ·rw [run_sliceAt_string w t _ _ _ _ h1]
     simp [Instr.slice,run_underlying h1,hb]
    ·have:(s'.data.toList.take h').drop l'=(s'.extract l' h').data.toList:=by
      rw [ByteArray.data_extract,Array.toList_extract];simp [List.extract_eq_take_drop,List.drop_take]
     rw [this];exact .str _
   ·cases hs
  ·cases hs
 ·rename_i esz eb ea ez xs hk
  obtain ⟨el,i,z,h1,hi',hsz,_⟩:=elem_size hg hti hk
  have hmx:mx=none:=by cases mx with | none=>rfl | some v=>exact hm.elim
  subst hmx
  split at hs
  ·rename_i hok
   split at hs
   ·rename_i h' e1
    split at hs
    ·rename_i l' e2
     cases hs
     obtain ⟨p,cap,rfl,hcap⟩:=hu.slice_inv
     obtain ⟨hb,hb1,hb2⟩:=bounds_run (P:=P) (w:=w) (isS:=true) hl hh e1 e2 hcap
     refine ⟨.slice (if cap=l' then p else p.map (·.add (l'*esz))) (h' - l') (cap - l'),?_,?_⟩
     ·simp [Instr.sliceAt,Instr.slice,run_underlying h1,hb,sizeOf,typeInfo,hi',hsz]
     ·split
      ·rename_i hcl
       have hz:(xs.take h').drop l'=[]:=by apply List.drop_of_length_le;simp;omega
       have:h' - l'=0:=by omega
       rw [hz,this];exact .slice0 _ _
      ·exact Rep.piece hu hb1 hb2 (by omega) esz (sizesOk_all hok)
    ·cases hs
   ·cases hs
  ·cases hs
 ·rename_i esz eb ea ez f k id off len hk
  obtain ⟨el,i,z,h1,hi',hsz,_⟩:=elem_size hg hti hk
  have hmx:mx=none:=by cases mx with | none=>rfl | some v=>exact hm.elim
  subst hmx
  split at hs
  ·rename_i hke
   obtain ⟨hke,hk0⟩:=hke
   subst hke
   split at hs
   ·rename_i h' e1
    split at hs
    ·rename_i l' e2
     obtain ⟨b,cap,rfl,h3,hf,h4,h5⟩:=hu.sref_inv (.inl hk0)
     obtain ⟨hb,hb1,hb2⟩:=bounds_run (P:=P) (w:=w) (isS:=true) hl hh e1 e2 h4
     refine ⟨.slice (if cap=l' then (some (at_ b off)) else some (at_ b (off+l'*k))) (h' - l') (cap - l'),?_,?_⟩
     ·simp [Instr.sliceAt,Instr.slice,run_underlying h1,hb,sizeOf,typeInfo,hi',hsz,addr_add]
     ·split at hs
      ·rename_i hz
       cases hs
       have:h' - l'=0:=by omega
       rw [this];exact .slice0 _ _
      ·cases hs
       rw [if_neg (by omega)]
       refine .sref h3 (fun h=>by simp only [Bool.and_eq_true,beq_iff_eq] at h;have:=hf h.1;omega) (by omega) (fun j hj=>?_)
       rw [Nat.sub_mul] at hj
       have:=h5 (l'*k+j) (by omega)
       rwa [← Nat.add_assoc] at this
    ·cases hs
   ·cases hs
  ·cases hs
 ·rename_i esz eb ea ez f k id off len m' hk
  obtain ⟨el,i,z,h1,hi',hsz,_⟩:=elem_size hg hti hk
  split at hs
  ·rename_i hke
   obtain ⟨hke,hk0⟩:=hke
   subst hke
   split at hs
   ·rename_i h0
    split at hs
    ·rename_i h' e1
     split at hs
     ·rename_i e3
      split at hs
      ·rename_i l' e2
       obtain ⟨b,cap,rfl,h3,hf,h4,h5⟩:=hu.sref_inv (.inl hk0)
       obtain ⟨hb,hb1,hb2⟩:=bounds3_run (P:=P) (w:=w) hl hh hm e1 e3 e2 h4
       refine ⟨.slice (if h'=l' then (some (at_ b off)) else some (at_ b (off+l'*k))) (h' - l') (h' - l'),?_,?_⟩
       ·simp [Instr.sliceAt,Instr.slice,run_underlying h1,hb,sizeOf,typeInfo,hi',hsz,addr_add]
       ·split at hs
        ·rename_i hz
         cases hs
         have:h' - l'=0:=by omega
         rw [this];exact ⟨.slice0 _ _,.inl rfl⟩
        ·cases hs
         rw [if_neg (by omega)]
         refine .sref h3 (fun _=>rfl) (Nat.le_refl _) (fun j hj=>?_)
         rw [Nat.sub_mul] at hj
         have hm1:h'*k≤cap*k:=Nat.mul_le_mul_right k (by omega)
         have hm2:l'*k≤h'*k:=Nat.mul_le_mul_right k (by omega)
         have:=h5 (l'*k+j) (by omega)
         rwa [← Nat.add_assoc] at this
      ·cases hs
     ·cases hs
    ·cases hs
   ·cases hs
  ·cases hs
 ·rename_i esz eb ea ez xs m' hk
  obtain ⟨el,i,z,h1,hi',hsz,_⟩:=elem_size hg hti hk
  split at hs
  ·rename_i hok
   split at hs
   ·rename_i h0
    split at hs
    ·rename_i h' e1
     split at hs
     ·rename_i e3
      split at hs
      ·rename_i l' e2
       cases hs
       obtain ⟨p,cap,rfl,hcap⟩:=hu.slice_inv
       obtain ⟨hb,hb1,hb2⟩:=bounds3_run (P:=P) (w:=w) hl hh hm e1 e3 e2 hcap
       refine ⟨.slice (if h'=l' then p else p.map (·.add (l'*esz))) (h' - l') (h' - l'),?_,?_,.inl rfl⟩
       ·simp [Instr.sliceAt,Instr.slice,run_underlying h1,hb,sizeOf,typeInfo,hi',hsz]
       ·split
        ·rename_i hcl
         have hz:(xs.take h').drop l'=[]:=by apply List.drop_of_length_le;simp;omega
         have:h' - l'=0:=by omega
         rw [hz,this];exact .slice0 _ _
        ·exact Rep.piece hu hb1 hb2 (Nat.le_refl _) esz (sizesOk_all hok)
      ·cases hs
     ·cases hs
    ·cases hs
   ·cases hs
  ·cases hs
 ·cases hs
end Go.Ab
namespace Go.Ab
open Go
variable {P:Program} {d n:Nat} {κ:K} {w:World} {lam:Lam} {fr:Fr} {st:St} {a:Act} {o:Oper}
theorem RepAt.reps {b:Nat}:∀ {o:Nat} {xs:List V},RepAt κ w b o xs→∃ vs,Reps κ w vs xs∧∀ j v,vs[j]?=some v→Imm κ w b (o+j) v
 | _,[],_=>⟨[],.nil,fun j v h=>by simp at h⟩
 | o,x :: xs,h=>by
  cases h with
  | cons hi hr r =>
   obtain ⟨vs,h1,h2⟩:=r.reps
   refine ⟨_ :: vs,.cons hr h1,fun j v hv=>?_⟩
   cases j with
   | zero=>simp at hv;subst hv;exact hi
   | succ j=>simp at hv;have:=h2 j v hv;rwa [Nat.add_assoc,Nat.add_comm 1 j] at this
theorem load_reps {b o:Nat} {xs:List V} (h:RepAt κ w b o xs):∃ vs,Reps κ w vs xs∧(loadCells (at_ b o) xs.length).run P w=.ok vs.toArray w:=by
 obtain ⟨vs,h1,h2⟩:=h.reps
 refine ⟨vs,h1,?_⟩
 rw [← h1.length]
 exact run_loadCells_list w (at_ b o) vs fun j v hv=>by rw [addr_add];exact (h2 j v hv).1
theorem bytes_vals:∀ {xs:List V} {s:List UInt8} {vs:List Value},bytesOf xs=some s→Reps κ w vs xs →
  ∃ ns:List Int,vs=ns.map (Value.int .u8)∧s=ns.map fun n=>UInt8.ofNat n.toNat
 | [],s,_,h,.nil=>by simp only [bytesOf,Option.some.injEq] at h;subst h;exact ⟨[],rfl,rfl⟩
 | x :: xs,s,_,h,.cons hr r=>by
  unfold bytesOf at h
  split at h
  ·rename_i heq;cases heq
  ·rename_i m r' heq
   cases heq
   cases hb:bytesOf xs with
   | none=>rw [hb] at h;cases h
   | some s' =>
    rw [hb] at h;simp only [Option.map_some,Option.some.injEq] at h;subst h
    obtain ⟨ns,h1,h2⟩:=bytes_vals hb r
    cases hr
    exact ⟨m :: ns,by simp [h1],by simp [h2]⟩
  ·cases h
theorem push_all:∀ (ns:List Int)(s:ByteArray),(ns.foldl (fun r n=>r.push (UInt8.ofNat n.toNat)) s).data.toList=s.data.toList ++ ns.map fun n=>UInt8.ofNat n.toNat
 | [],s=>by simp
 | n :: ns,s=>by rw [List.foldl_cons,push_all ns];simp [ByteArray.push]
theorem bytes_cells:∀ {xs:List V} {s:List UInt8},bytesOf xs=some s→xs.flatMap V.cells=xs
 | [],_,_=>rfl
 | x :: xs,s,h=>by
  unfold bytesOf at h
  split at h
  ·rename_i heq;cases heq
  ·rename_i m r' heq
   cases heq
   cases hb:bytesOf xs with
   | none=>rw [hb] at h;cases h
   | some s'=>rw [List.flatMap_cons,bytes_cells hb];rfl
  ·cases h
theorem bytesToString_ok {v:Value} {xs:List V} {s:List UInt8} (h:Rep κ w v (.slice xs))(hb:bytesOf xs=some s):∃ r,(Conv.bytesToString v).run P w=.ok r w∧Rep κ w r (.str s):=by
 cases h with
 | slice0 p cap =>
  simp only [bytesOf,Option.some.injEq] at hb;subst hb
  cases p with
  | none=>exact ⟨.string .empty,rfl,.str _⟩
  | some q=>exact ⟨.string .empty,run_bytesToString w q 0 cap [] rfl,.str _⟩
 | slice hc hk hat =>
  rw [bytes_cells hb] at hat
  obtain ⟨vs,h1,h2⟩:=load_reps (P:=P) hat
  obtain ⟨ns,rfl,rfl⟩:=bytes_vals hb h1
  refine ⟨_,run_bytesToString w _ _ _ ns h2,?_⟩
  have:=push_all ns ByteArray.empty
  simp only [ByteArray.data_empty,List.nil_append] at this
  rw [← this];exact .str _
end Go.Ab
namespace Go.Ab
open Go
variable {P:Program} {d n:Nat} {κ:K} {w:World} {lam:Lam} {fr:Fr} {st:St} {a:Act} {o:Oper}
def K.new (κ:K)(b:Nat)(lab:Nat→Option Ow):K:={κ with own:=fun b' o=>if b'=b then lab o else κ.own b' o}
theorem Good.lt (g:Good κ w) {b o:Nat} {L:Ow} (h:κ.own b o=some L):b<w.heap.size:=by
 obtain ⟨⟨v,hv⟩,_⟩:=g b o L h
 exact World.block_lt_of_cell? w _ hv
theorem Imm.lt {b o:Nat} {v:Value} (h:Imm κ w b o v):b<w.heap.size:=World.block_lt_of_cell? w _ h.1
theorem pres_new (S:Ow→Prop)(g:Good κ w)(ob:Obj)(lab:Nat→Option Ow):Pres S κ w (κ.new w.heap.size lab) (w.alloc ob) where
 os:=rfl
 tape:=rfl
 out:=rfl
 size:=by simp
 blk:=fun _ _ h=>h
 imm:=fun b o v h=>by
  have:=h.lt
  exact ⟨(World.cell?_alloc_lt w _ _ this).trans h.1,by simp only [K.new];rw [if_neg (by omega)];exact h.2⟩
 lab:=fun b o L h _=>by
  have:=g.lt h
  exact ⟨by simp only [K.new];rw [if_neg (by omega)];exact h,World.cell?_alloc_lt w _ _ this⟩
 sz:=fun b j h=>by rw [World.cell?_alloc_lt w _ _ h]
 free:=fun b hb h=>by
  refine ⟨?_,fun o=>by simp only [K.new];rw [if_neg (by omega)];exact h o⟩
  show (w.heap.push ob)[b]?=_
  rw [Array.getElem?_push,if_neg (by omega)]
theorem cell_new (c:Array Value)(t:TypeId)(i:Nat):(w.alloc (.cells c t)).cell? (at_ w.heap.size i)=c[i]?:=World.cell?_alloc_new w c t i
theorem good_new (g:Good κ w)(c:Array Value)(t:TypeId) {lab:Nat→Option Ow} (h:∀ o L,lab o=some L→o<c.size):Good (κ.new w.heap.size lab) (w.alloc (.cells c t)):=by
 intro b j L hL
 simp only [K.new] at hL
 split at hL
 ·rename_i hb;subst hb
  have:=h j L hL
  exact ⟨⟨c[j],by rw [cell_new];simp [this]⟩,World.frozen?_alloc_new w c t j⟩
 ·obtain ⟨⟨v,hv⟩,hf⟩:=g b j L hL
  have hlt:=g.lt hL
  refine ⟨⟨v,(World.cell?_alloc_lt w _ _ hlt).trans hv⟩,?_⟩
  rw [World.frozen?_alloc_old w _ _ (by show b≠_;omega)];exact hf
theorem R.new (r:R d n κ w lam fr st a)(c:Array Value)(t:TypeId) {lab:Nat→Option Ow} (h:∀ o L,lab o=some L→o<c.size) :
  R d n (κ.new w.heap.size lab) (w.alloc (.cells c t)) lam fr st a :=
 r.pres (pres_new (fun _=>True) r.sim.good _ _) (fun _ _=>trivial) (good_new r.sim.good c t h) r.sim.fresh
theorem new_reads (g:Good κ w) {vs:List Value} {xs:List V} (hr:Reps κ w vs xs)(c:Array Value)(t:TypeId) {lab:Nat→Option Ow} (hc:∀ (j:Nat) v,vs[j]?=some v→c[j]?=some v)
  (hl:∀ j,j<vs.length→lab j=none):RepAt (κ.new w.heap.size lab) (w.alloc (.cells c t)) w.heap.size 0 xs:=by
 refine RepAt.of_get fun j x hx=>?_
 obtain ⟨v,hv,hrv⟩:=hr.get j x hx
 refine ⟨v,⟨?_,?_⟩,hrv.pres (pres_new (fun _=>True) g (.cells c t) lab)⟩
 ·rw [Nat.zero_add,cell_new];exact hc j v hv
 ·rw [Nat.zero_add];simp only [K.new,if_true];exact hl j (List.getElem?_eq_some_iff.1 hv).1
theorem slice_new (g : Good κ w) {vs : List Value} {xs : List V} {k cap : Nat} (hk : 0 < k) (hs : ∀ x ∈ xs, x.cells.length = k) (hr : Reps κ w vs (xs.flatMap V.cells)) (c : Array Value) (t : TypeId)
    (hc : ∀ (j : Nat) v, vs[j]? = some v → c[j]? = some v) (hsize : c.size = cap * k) (hcap : xs.length ≤ cap) :
    let κ' := κ.new w.heap.size fun o => if xs.length * k ≤ o ∧ o < c.size then some .fly else none
    let w' := w.alloc (.cells c t)
    Good κ' w' ∧ Rep κ' w' (.slice (some (at_ w.heap.size 0)) xs.length cap) (.slice xs) ∧ Spare κ' .fly k (.slice (some (at_ w.heap.size 0)) xs.length cap) := by
  intro κ' w'
  have hlen : vs.length = xs.length * k := by rw [hr.length, flat_length xs k hs]
  refine ⟨good_new g c t (fun o L h => by split at h; · rename_i h1; exact h1.2
                                          · cases h), ?_, .inr ⟨hk, hcap, _, _, rfl, fun j h1 h2 => ?_⟩⟩
  · by_cases hx : xs = []
    · subst hx; exact .slice0 _ _
    · exact .slice hcap hs (new_reads g hr c t hc fun j hj => by rw [if_neg (by omega)])
  · simp only [κ', K.new, if_true]
    rw [if_pos ⟨by omega, by omega⟩]
/-! ### cells that are written -/
theorem setCells_size (b:Nat):∀ (vs:List Value) (o:Nat) (w:World),(w.setCells b o vs).heap.size=w.heap.size
 | [],_,_=>rfl
 | v :: r,o,w=>by simp only [World.setCells];rw [setCells_size b r];simp
theorem setCells_other (b:Nat):∀ (vs:List Value) (o:Nat) (w:World) (c j:Nat),(c≠b∨j<o∨o+vs.length≤j)→(w.setCells b o vs).cell? (at_ c j)=w.cell? (at_ c j)
 | [],_,_,_,_,_=>rfl
 | v :: r,o,w,c,j,h=>by
  simp only [World.setCells]
  rw [setCells_other b r (o+1) _ c j (by simp only [List.length_cons] at h;omega)]
  exact World.cell?_setCell_other w _ _ _ (by simp only [at_,ne_eq,Addr.mk.injEq,and_true,List.length_cons] at h ⊢;omega)
theorem setCells_at (b:Nat):∀ (vs:List Value) (o:Nat) (w:World),(∀ j,j<vs.length→∃ v,w.cell? (at_ b (o+j))=some v)→∀ j v,vs[j]?=some v→(w.setCells b o vs).cell? (at_ b (o+j))=some v
 | [],_,_,_,j,v,hv=>by simp at hv
 | x :: r,o,w,h,j,v,hv=>by
  simp only [World.setCells]
  cases j with
  | zero =>
   simp at hv;subst hv
   rw [setCells_other b r (o+1) _ b (o+0) (by omega)]
   obtain ⟨u,hu⟩:=h 0 (by simp)
   exact World.cell?_setCell_same w _ _ hu
  | succ j =>
   simp at hv
   have:=setCells_at b r (o+1) (w.setCell ⟨b,o,none⟩ x) (fun i hi=>by
    obtain ⟨u,hu⟩:=h (i+1) (by simp;omega)
    refine ⟨u,?_⟩
    rw [show o+1+i=o+(i+1) by omega,World.cell?_setCell_other w _ _ _ (by simp [at_])]
    exact hu) j v hv
   rwa [show o+1+j=o+(j+1) by omega] at this
theorem setCells_frozen (b:Nat)(x:Addr):∀ (vs:List Value) (o:Nat) (w:World),(w.setCells b o vs).frozen? x=w.frozen? x
 | [],_,_=>rfl
 | v :: r,o,w=>by simp only [World.setCells];rw [setCells_frozen b x r];simp
theorem setCells_os (b:Nat):∀ (vs:List Value) (o:Nat) (w:World),(w.setCells b o vs).os=w.os∧(w.setCells b o vs).tape=w.tape∧(w.setCells b o vs).output=w.output
 | [],_,_=>⟨rfl,rfl,rfl⟩
 | v :: r,o,w=>by simp only [World.setCells];exact setCells_os b r (o+1) _
theorem setCells_block (b:Nat)(c:Nat)(hc:c≠b):∀ (vs:List Value) (o:Nat) (w:World),(w.setCells b o vs).heap[c]?=w.heap[c]?
 | [],_,_=>rfl
 | v :: r,o,w=>by
  simp only [World.setCells];rw [setCells_block b c hc r]
  simp only [World.setCell,Array.getElem?_modify]
  rw [if_neg (by omega)]
theorem setCells_isSome (b:Nat)(vs:List Value)(o:Nat)(w:World)(h:∀ j,j<vs.length→∃ v,w.cell? (at_ b (o+j))=some v) (c j:Nat):((w.setCells b o vs).cell? (at_ c j)).isSome=(w.cell? (at_ c j)).isSome:=by
 by_cases hin:c=b∧o≤j∧j<o+vs.length
 ·obtain ⟨rfl,h1,h2⟩:=hin
  have h3:=setCells_at c vs o w h (j - o) vs[j - o] (by simp)
  obtain ⟨u,hu⟩:=h (j - o) (by omega)
  rw [show o+(j - o)=j by omega] at h3 hu
  rw [h3,hu];rfl
 ·rw [setCells_other _ _ _ _ _ _ (by omega)]
theorem pres_write (S:Ow→Prop) {b o:Nat} {vs:List Value} {p:Ow} (hp:¬ S p)(hv:vs≠[])(hg:Good κ w)(h:∀ j,j<vs.length→κ.own b (o+j)=some p):Pres S κ w κ (w.setCells b o vs) where
 os:=(setCells_os b vs o w).1
 tape:=(setCells_os b vs o w).2.1
 out:=(setCells_os b vs o w).2.2
 size:=by rw [setCells_size];exact Nat.le_refl _
 blk:=fun _ _ h=>h
 imm:=fun c j v hi=>by
  refine ⟨?_,hi.2⟩
  rw [setCells_other]
  ·exact hi.1
  ·by_cases hc:c=b
   ·subst hc
    rcases Nat.lt_or_ge j o with h1 | h1
    ·exact .inr (.inl h1)
    ·rcases Nat.lt_or_ge j (o+vs.length) with h2 | h2
     ·have:=h (j - o) (by omega)
      rw [show o+(j - o)=j by omega,hi.2] at this;cases this
     ·exact .inr (.inr h2)
   ·exact .inl hc
 lab:=fun c j L hL hs=>by
  refine ⟨hL,?_⟩
  rw [setCells_other]
  by_cases hc:c=b
  ·subst hc
   rcases Nat.lt_or_ge j o with h1 | h1
   ·exact .inr (.inl h1)
   ·rcases Nat.lt_or_ge j (o+vs.length) with h2 | h2
    ·have:=h (j - o) (by omega)
     rw [show o+(j - o)=j by omega,hL] at this
     cases this;exact (hp hs).elim
    ·exact .inr (.inr h2)
  ·exact .inl hc
 sz:=fun c j _=>setCells_isSome b vs o w (fun i hi=>(hg _ _ _ (h i hi)).1) c j
 free:=fun c _ hf=>by
  refine ⟨setCells_block b c ?_ vs o w,hf⟩
  rintro rfl
  have:=h 0 (List.length_pos_iff.2 hv)
  rw [hf] at this;cases this
theorem good_write (g:Good κ w)(b o:Nat)(vs:List Value)(h:∀ j,j<vs.length→∃ v,w.cell? (at_ b (o+j))=some v):Good κ (w.setCells b o vs):=by
 intro c j L hL
 obtain ⟨⟨v,hv⟩,hf⟩:=g c j L hL
 refine ⟨?_,by rw [setCells_frozen];exact hf⟩
 by_cases hin:c=b∧o≤j∧j<o+vs.length
 ·obtain ⟨rfl,h1,h2⟩:=hin
  have:=setCells_at c vs o w h (j - o) vs[j - o] (by simp)
  rw [show o+(j - o)=j by omega] at this
  exact ⟨_,this⟩
 ·exact ⟨v,by rw [setCells_other _ _ _ _ _ _ (by omega)];exact hv⟩
theorem Rep.one {v:Value} {x:V} (h:Rep κ w v x)(hx:x.one=true):v.oneCell'=true:=by
 cases h <;> first | rfl | cases hx
end Go.Ab
namespace Go.Ab
open Go
variable {P:Program} {d n:Nat} {κ:K} {w:World} {lam:Lam} {fr:Fr} {st:St} {a:Act} {o:Oper}
theorem keep_tmp (d wp s:Nat):¬ Keep d wp (.tmp d s):=by
 rintro (h | ⟨_,h,_⟩ | ⟨_,_,h,_⟩)
 ·exact Nat.lt_irrefl _ h
 ·cases h
 ·cases h
theorem keep_loc (d wp s:Nat):¬ Keep d wp (.loc d s):=by
 rintro (h | ⟨_,h,_⟩ | ⟨_,_,h,_⟩)
 ·exact Nat.lt_irrefl _ h
 ·cases h
 ·cases h
theorem keep_lsp (d wp s o:Nat):¬ Keep d wp (.lsp d s o):=by
 rintro (h | ⟨_,h,_⟩ | ⟨_,_,h,_⟩)
 ·exact Nat.lt_irrefl _ h
 ·cases h
 ·cases h
theorem keep_fly (d wp:Nat):¬ Keep d wp .fly:=by
 rintro (h | ⟨_,h,_⟩ | ⟨_,_,h,_⟩)
 ·exact h
 ·cases h
 ·cases h
theorem keep_mem (d wp id o:Nat)(h:wp≤id):¬ Keep d wp (.mem id o):=by
 rintro (h1 | ⟨_,h1,_⟩ | ⟨_,_,h1,h2⟩)
 ·exact h1
 ·cases h1
 ·cases h1;omega
theorem keep_obj (d wp id:Nat)(h:wp≤id):¬ Keep d wp (.obj id):=by
 rintro (h1 | ⟨_,h1,h2⟩ | ⟨_,_,h1,_⟩)
 ·exact h1
 ·cases h1;omega
 ·cases h1
theorem R.entries {S:Ow→Prop} {κ':K} {w':World} {fr':Fr} {st':St} (r:R d n κ w lam fr st a)(p:Pres S κ w κ' w')
  (ht:∀ s,RepE d κ' w' lam fr' st' a.tmps s (a.tmps.getD s undef) (fr'.get s))
  (hl:∀ s cs,fr'.loc s=some cs→∃ b,lam s=some b∧cellsAre κ' w' b (.loc d s) (.lsp d s) cs) (hs:Sim κ' w' st'):R d n κ' w' lam fr' st' a :=
 ⟨hs,⟨r.fm.defers,r.fm.size,ht,hl⟩⟩
theorem slot_ok (r:R d n κ w lam fr st a) {s k:Nat} {xs:List V} (h:fr.get s=.own k xs) :
  ∃ κ',R d n κ' w lam (fr.put s (.val (.slice xs))) st a∧RepV κ' w lam (fr.put s (.val (.slice xs))) st a.tmps (a.tmps.getD s undef) (.own k xs)∧Pres (fun L=>L≠.tmp d s) κ w κ' w:=by
 have p:Pres (fun L=>L≠.tmp d s) κ w (κ.re (.tmp d s) .fly) w:=pres_re κ w _ _ _ (by simp)
 have h0:=r.fm.tmp s
 rw [h] at h0
 refine ⟨_,r.entries p (fun t=>?_) (fun t cs hc=>?_) (r.sim.pres p (good_re r.sim.good) r.sim.fresh (by simp) (by simp)),⟨h0.1.pres p,h0.2.re⟩,p⟩
 ·rw [get_put]
  split
  ·rename_i ht;subst ht;exact h0.1.pres p
  ·rename_i ht
   have h1:=r.fm.tmp t
   generalize hv:a.tmps.getD t undef=v at h1 ⊢
   generalize he:fr.get t=e at h1 ⊢
   cases e with
   | any=>trivial
   | val x=>exact Rep.pres p h1
   | lp u off=>exact h1
   | own k' ys=>exact ⟨h1.1.pres p,h1.2.pres p (by simp [ht])⟩
   | bor k' ys q =>
    cases q with
    | slot u =>
     simp only [E.inval]
     split
     ·exact h1.1.pres p
     ·rename_i hne
      have hne':u≠s:=fun hh=>hne (by rw [hh])
      exact ⟨h1.1.pres p,by rw [get_put,if_neg hne',h1.2.1];rfl,h1.2.2⟩
    | mem id off =>
     obtain ⟨r1,cs,b,e1,e2,e3,e4⟩:=h1
     exact ⟨r1.pres p,cs,b,e1,e2,e3,e4⟩
    | loc u off =>
     obtain ⟨r1,cs,b,e1,e2,e3,e4⟩:=h1
     exact ⟨r1.pres p,cs,b,by rw [loc_put];exact e1,e2,e3,e4⟩
 ·rw [loc_put] at hc
  obtain ⟨b,hb,c⟩:=r.fm.loc t cs hc
  exact ⟨b,hb,c.pres p (by simp) (by simp)⟩
theorem cellsAre.weaken {κ κ':K} {w:World} {b:Nat} {who:Ow} {sp:Nat→Ow} {cs:List V} {off:Nat} {k:Nat} {xs:List V} (p:Pres (fun L=>L≠sp off) κ w κ' w)(h1:who≠sp off)
  (h2:∀ j,j≠off→sp j≠sp off) (c:cellsAre κ w b who sp cs) (hc:cs[off]?=some (.osl k xs)):cellsAre κ' w b who sp (cs.set off (.slice xs)):=by
 intro j x hx
 rw [List.getElem?_set] at hx
 split at hx
 ·rename_i hj;subst hj
  split at hx
  ·cases hx
   obtain ⟨ho,v,hv,hr⟩:=c off _ hc
   exact ⟨(p.lab _ _ _ ho h1).1,v,hv,hr.1.pres p⟩
  ·cases hx
 ·rename_i hj
  obtain ⟨ho,v,hv,hr⟩:=c j x hx
  exact ⟨(p.lab _ _ _ ho h1).1,v,hv,hr.pres p (h2 j (fun e=>hj e.symm))⟩
theorem mem_ok (r:R d n κ w lam fr st a) {id off k b:Nat} {xs cs:List V} {st':St} (h1:st.obj id=some cs)(h2:cs[off]?=some (.osl k xs))(h3:κ.blk id=some b)
  (h4:st.set id (cs.set off (.slice xs))=some st') {v:Value} (h5:w.cell? (at_ b off)=some v) :
  ∃ κ',R d n κ' w lam (fr.map E.noMem) st' a∧RepV κ' w lam (fr.map E.noMem) st' a.tmps v (.own k xs)∧Pres (Keep d st.wp) κ w κ' w∧st'.wp=st.wp:=by
 have hwp:st.wp≤id:=by
  unfold St.set at h4;split at h4
  ·assumption
  ·cases h4
 have hst:st'={st with objs:=st.objs.set id (cs.set off (.slice xs))}:=by
  unfold St.set at h4;rw [if_pos hwp] at h4;cases h4;rfl
 have p:Pres (fun L=>L≠.mem id off) κ w (κ.re (.mem id off) .fly) w:=pres_re κ w _ _ _ (by simp)
 obtain ⟨b',hb',hcs⟩:=r.sim.obj id cs h1
 rw [h3] at hb';cases hb'
 have hcell:=hcs off _ h2
 obtain ⟨_,v',hv',hr⟩:=hcell
 rw [h5] at hv';cases hv'
 have hsim:Sim (κ.re (.mem id off) .fly) w st':=by
  refine ⟨by subst hst;simpa using r.sim.wple,good_re r.sim.good,?_,?_,?_⟩
  ·subst hst;intro id' hid;exact r.sim.fresh id' (by simpa using hid)
  rotate_left
  ·intro id' cs' b' hc' hne hb2
   subst hst
   simp only [St.obj,List.getElem?_set] at hc'
   split at hc'
   ·rename_i he;subst he
    split at hc'
    ·cases hc'
     exact Room.step r.sim p id h1 (by simp) hne hb2 (fun b j hl=>(p.lab b j _ hl (by simp)).1)
    ·cases hc'
   ·exact Room.step r.sim p id' hc' rfl hne hb2 (fun b j hl=>(p.lab b j _ hl (by simp)).1)
  ·intro id' cs' hc'
   subst hst
   simp only [St.obj,List.getElem?_set] at hc'
   split at hc'
   ·rename_i he;subst he
    split at hc'
    ·cases hc'
     exact ⟨b,h3,hcs.weaken p (by simp) (by simp) h2⟩
    ·cases hc'
   ·rename_i he
    obtain ⟨b2,hb2,c2⟩:=r.sim.obj id' cs' hc'
    exact ⟨b2,hb2,c2.pres p (by simp) (by simp [Ne.symm he])⟩
 refine ⟨_,r.entries p (fun t=>?_) (fun t cs' hc=>?_) hsim,⟨hr.1.pres p,hr.2.re⟩,p.mono (fun L hL e=>keep_mem d st.wp id off hwp (e ▸ hL)),by subst hst;rfl⟩
 ·rw [get_map _ _ rfl]
  have h1':=r.fm.tmp t
  generalize hv:a.tmps.getD t undef=v at h1' ⊢
  generalize he:fr.get t=e at h1' ⊢
  cases e with
  | any=>trivial
  | val x=>exact Rep.pres p h1'
  | lp u o=>exact h1'
  | own k' ys=>exact ⟨h1'.1.pres p,h1'.2.pres p (by simp)⟩
  | bor k' ys q =>
   cases q with
   | slot u=>exact ⟨h1'.1.pres p,by rw [get_map _ _ rfl,h1'.2.1];rfl,h1'.2.2⟩
   | mem id' o=>exact h1'.1.pres p
   | loc u o =>
    obtain ⟨r1,cs',b',e1,e2,e3,e4⟩:=h1'
    exact ⟨r1.pres p,cs',b',e1,e2,e3,e4⟩
 ·obtain ⟨b',hb',c⟩:=r.fm.loc t cs' hc
  exact ⟨b',hb',c.pres p (by simp) (by simp)⟩
theorem lk_lset_other {α:Type} (l:List (Nat × α))(s t:Nat)(e:α)(h:t≠s):lk (lset l s e) t=lk l t:=by
 induction l with
 | nil=>rfl
 | cons y r ih =>
  obtain ⟨k,z⟩:=y
  simp only [lset]
  by_cases hk:k=s
  ·subst hk;simp [lk,Ne.symm h]
  ·simp only [beq_iff_eq,hk,if_false,lk,ih]
theorem loc_ok (r:R d n κ w lam fr st a) {s off k b:Nat} {xs cs:List V} (h1:fr.loc s=some cs)(h2:cs[off]?=some (.osl k xs))(h3:lam s=some b)
  {v:Value} (h5:w.cell? (at_ b off)=some v) :
  ∃ κ',R d n κ' w lam ((fr.setLoc s (cs.set off (.slice xs))).map E.noLoc) st a∧RepV κ' w lam ((fr.setLoc s (cs.set off (.slice xs))).map E.noLoc) st a.tmps v (.own k xs)∧Pres (Keep d st.wp) κ w κ' w:=by
 have p:Pres (fun L=>L≠.lsp d s off) κ w (κ.re (.lsp d s off) .fly) w:=pres_re κ w _ _ _ (by simp)
 obtain ⟨b',hb',hcs⟩:=r.fm.loc s cs h1
 rw [h3] at hb';cases hb'
 obtain ⟨_,v',hv',hr⟩:=hcs off _ h2
 rw [h5] at hv';cases hv'
 have hget:∀ t,(fr.setLoc s (cs.set off (.slice xs))).get t=fr.get t:=fun t=>rfl
 refine ⟨_,r.entries p (fun t=>?_) (fun t cs' hc=>?_) (r.sim.pres p (good_re r.sim.good) r.sim.fresh (by simp) (by simp)),⟨hr.1.pres p,hr.2.re⟩,p.mono (fun L hL e=>keep_lsp d st.wp s off (e ▸ hL))⟩
 ·rw [get_map _ _ rfl,hget]
  have h1':=r.fm.tmp t
  generalize hv:a.tmps.getD t undef=v at h1' ⊢
  generalize he:fr.get t=e at h1' ⊢
  cases e with
  | any=>trivial
  | val x=>exact Rep.pres p h1'
  | lp u o=>exact h1'
  | own k' ys=>exact ⟨h1'.1.pres p,h1'.2.pres p (by simp)⟩
  | bor k' ys q =>
   cases q with
   | slot u=>exact ⟨h1'.1.pres p,by rw [get_map _ _ rfl,hget,h1'.2.1];rfl,h1'.2.2⟩
   | mem id' o =>
    obtain ⟨r1,cs',b',e1,e2,e3,e4⟩:=h1'
    exact ⟨r1.pres p,cs',b',e1,e2,e3,e4⟩
   | loc u o=>exact h1'.1.pres p
 ·rw [loc_map] at hc
  simp only [Fr.loc_def,Fr.setLoc_def] at hc
  by_cases ht:t=s
  ·subst ht
   rw [lk_lset _ _ _ _ _ ((Fr.loc_def fr _).symm.trans h1),if_pos rfl] at hc
   cases hc
   exact ⟨b,h3,hcs.weaken p (by simp) (by simp) h2⟩
  ·rw [lk_lset_other _ _ _ _ ht] at hc
   obtain ⟨b2,hb2,c2⟩:=r.fm.loc t cs' ((Fr.loc_def fr t).trans hc)
   exact ⟨b2,hb2,c2.pres p (by simp) (by simp [ht])⟩
theorem take_ok (r:R d n κ w lam fr st a) {x:Operand} {e:E} {fr':Fr} {st':St} (h:take fr st x=some (e,fr',st')) :
  ∃ κ',R d n κ' w lam fr' st' a∧RepV κ' w lam fr' st' a.tmps (a.eval x) e∧Pres (Keep d st.wp) κ w κ' w∧st'.wp=st.wp:=by
 cases x with
 | tmp t =>
  simp only [take] at h
  split at h
  ·rename_i k xs he
   cases h
   obtain ⟨κ',h1,h2,h3⟩:=slot_ok r he
   exact ⟨κ',h1,h2,h3.mono (fun L hL e=>keep_tmp d st.wp t (e ▸ hL)),rfl⟩
  ·rename_i k xs q he
   have h0:=r.fm.tmp t
   rw [he] at h0
   cases hc:consume fr st xs q with
   | none=>rw [hc] at h;cases h
   | some y =>
    obtain ⟨fr1,st1⟩:=y
    rw [hc] at h
    simp only [Option.map_some,Option.some.injEq,Prod.mk.injEq] at h
    obtain ⟨rfl,rfl,rfl⟩:=h
    cases q with
    | slot s =>
     simp only [consume,h0.2.1,E.weak,Option.some.injEq,Prod.mk.injEq] at hc
     obtain ⟨rfl,rfl⟩:=hc
     obtain ⟨κ',h1,h2,h3⟩:=slot_ok r h0.2.1
     refine ⟨κ',h1,?_,h3.mono (fun L hL e=>keep_tmp d st.wp s (e ▸ hL)),rfl⟩
     show RepV _ _ _ _ _ _ (a.tmps.getD t undef) _
     rw [← h0.2.2];exact h2
    | mem id off =>
     obtain ⟨r1,cs,b,e1,e2,e3,e4⟩:=h0
     simp only [consume,e1,e2,V.strip1] at hc
     cases hs:st.set id (cs.set off (.slice xs)) with
     | none=>rw [hs] at hc;cases hc
     | some st2 =>
      rw [hs] at hc
      simp only [Option.map_some,Option.some.injEq,Prod.mk.injEq] at hc
      obtain ⟨rfl,rfl⟩:=hc
      exact mem_ok r e1 e2 e3 hs e4
    | loc s off =>
     obtain ⟨r1,cs,b,e1,e2,e3,e4⟩:=h0
     simp only [consume,e1,e2,V.strip1,Option.some.injEq,Prod.mk.injEq] at hc
     obtain ⟨rfl,rfl⟩:=hc
     obtain ⟨κ',h1,h2,h3⟩:=loc_ok r e1 e2 e3 e4
     exact ⟨κ',h1,h2,h3,rfl⟩
  ·rename_i e' hn1 hn2
   cases h
   exact ⟨κ,r,RepV.mk r t (fun k xs he=>hn1 k xs he),.refl _ _ _,rfl⟩
 | const v =>
  simp only [take,Option.some.injEq,Prod.mk.injEq] at h
  obtain ⟨rfl,rfl,rfl⟩:=h
  exact ⟨κ,r,RepV.toE (constV_rep κ w v),.refl _ _ _,rfl⟩
 | global g =>
  simp only [take,Option.some.injEq,Prod.mk.injEq] at h
  obtain ⟨rfl,rfl,rfl⟩:=h
  exact ⟨κ,r,trivial,.refl _ _ _,rfl⟩
 | func f =>
  simp only [take,Option.some.injEq,Prod.mk.injEq] at h
  obtain ⟨rfl,rfl,rfl⟩:=h
  exact ⟨κ,r,Rep.func .nil .nil,.refl _ _ _,rfl⟩
end Go.Ab
namespace Go.Ab
open Go
variable {P:Program} {d n:Nat} {κ:K} {w:World} {lam:Lam} {fr:Fr} {st:St} {a:Act} {o:Oper}
theorem RepV.pres' {S:Ow→Prop} {κ':K} {w':World} {tmps:Array Value} {v:Value} {x:V} (p:Pres S κ w κ' w')(h:Rep κ w v x):RepV κ' w' lam fr st tmps v (.val x):=h.pres p
theorem local_ok (r:R d n κ w lam fr st a)(s:Nat)(c:Array Value)(t:TypeId)(cs:List V)(hr:Reps κ w c.toList cs) :
  ∃ κ' lam',R d n κ' (w.alloc (.cells c t)) lam' {fr.map (E.noLp s) with lc:=(s,cs) :: fr.lc.filter (fun x=>!(x.1 == s))} st a ∧
   RepV κ' (w.alloc (.cells c t)) lam' {fr.map (E.noLp s) with lc:=(s,cs) :: fr.lc.filter (fun x=>!(x.1 == s))} st a.tmps (.pointer (some (at_ w.heap.size 0))) (.lp s 0) ∧
   Pres (Keep d st.wp) κ w κ' (w.alloc (.cells c t)):=by
 let lab:Nat→Option Ow:=fun o=>if o<c.size then some (.loc d s) else none
 have hp:∀ S,Pres S κ w (κ.new w.heap.size lab) (w.alloc (.cells c t)):=fun S=>pres_new S r.sim.good _ _
 have hg:Good (κ.new w.heap.size lab) (w.alloc (.cells c t)):=good_new r.sim.good c t (fun o L h=>by
  simp only [lab] at h;split at h
  ·assumption
  ·cases h)
 have r':R d n (κ.new w.heap.size lab) (w.alloc (.cells c t)) lam fr st a:=r.pres (hp fun _=>True) (fun _ _=>trivial) hg r.sim.fresh
 let lam':Lam:=fun u=>if u=s then some w.heap.size else lam u
 refine ⟨_,lam',⟨r'.sim,⟨r'.fm.defers,r'.fm.size,fun u=>?_,fun u cs' hc=>?_⟩⟩,⟨w.heap.size,by simp [lam'],rfl⟩,hp _⟩
 ·have hget:∀ v,Fr.get {fr.map (E.noLp s) with lc:=(s,cs) :: fr.lc.filter (fun x=>!(x.1 == s))} v=E.noLp s (fr.get v):=fun v=>get_map fr _ rfl v
  rw [hget]
  have h1:=r'.fm.tmp u
  generalize hv:a.tmps.getD u undef=v at h1 ⊢
  generalize he:fr.get u=e at h1 ⊢
  cases e with
  | any=>trivial
  | val x=>exact h1
  | lp t' o =>
   simp only [E.noLp]
   split
   ·trivial
   ·rename_i hne
    obtain ⟨b,hb,e2⟩:=h1
    exact ⟨b,by simp only [lam'];rw [if_neg (by simpa using hne)];exact hb,e2⟩
  | own k xs=>exact h1
  | bor k xs q =>
   cases q with
   | slot t'=>exact ⟨h1.1,by rw [hget,h1.2.1];rfl,h1.2.2⟩
   | mem id o=>exact h1
   | loc t' o =>
    simp only [E.noLp]
    split
    ·exact h1.1
    ·rename_i hne
     have hne':t'≠s:=by simpa using hne
     obtain ⟨r1,cs',b,e1,e2,e3,e4⟩:=h1
     refine ⟨r1,cs',b,?_,e2,by simp only [lam'];rw [if_neg hne'];exact e3,e4⟩
     simp only [Fr.loc_def,lk,beq_iff_eq,Ne.symm hne',if_false]
     have:∀ l:List (Nat × List V),lk (l.filter fun x=>!(x.1 == s)) t'=lk l t':=by
      intro l
      induction l with
      | nil=>rfl
      | cons y r ih =>
       obtain ⟨k,z⟩:=y
       simp only [List.filter_cons,lk]
       by_cases hk:k=s
       ·subst hk;simp [Ne.symm hne',ih]
       ·simp only [beq_iff_eq,hk,Bool.not_eq_true',decide_eq_false_iff_not,not_false_eq_true,lk]
        simp [hk,lk,ih]
     rw [this];exact (Fr.loc_def fr t').symm.trans e1
 ·simp only [Fr.loc_def,lk] at hc
  by_cases hu:u=s
  ·subst hu
   simp only [beq_self_eq_true,if_true,Option.some.injEq] at hc
   subst hc
   refine ⟨w.heap.size,by simp [lam'],fun j x hx=>?_⟩
   obtain ⟨v,hv,hrv⟩:=hr.get j x hx
   have hj:j<c.size:=by
    have:=(List.getElem?_eq_some_iff.1 hv).1;simpa using this
   refine ⟨by simp only [K.new,if_true,lab];rw [if_pos hj],v,by rw [cell_new,← Array.getElem?_toList];exact hv,RepM.of_rep (hrv.pres (hp fun _=>True))⟩
  ·have hne:(s == u)=false:=by simpa using Ne.symm hu
   simp only [hne,Bool.false_eq_true,if_false] at hc
   have:∀ l:List (Nat × List V),lk (l.filter fun x=>!(x.1 == s)) u=lk l u:=by
    intro l
    induction l with
    | nil=>rfl
    | cons y r ih =>
     obtain ⟨k,z⟩:=y
     simp only [List.filter_cons,lk]
     by_cases hk:k=s
     ·subst hk;simp [Ne.symm hu,ih]
     ·simp [hk,lk,ih]
   rw [this] at hc
   obtain ⟨b,hb,cc⟩:=r'.fm.loc u cs' ((Fr.loc_def fr u).trans hc)
   exact ⟨b,by simp only [lam'];rw [if_neg hu];exact hb,cc⟩
theorem object_gen (r:R d n κ w lam fr st a)(c:Array Value)(t:TypeId) {vs:List Value} (cs:List V)(hr:Reps κ w vs cs)(hcv:∀ (j:Nat) v,vs[j]?=some v→c[j]?=some v) :
  ∃ κ',R d n κ' (w.alloc (.cells c t)) lam fr {st with objs:=st.objs ++ [cs]} a∧κ'.blk st.objs.length=some w.heap.size ∧
   Pres (Keep d st.wp) κ w κ' (w.alloc (.cells c t)):=by
 let lab:Nat→Option Ow:=fun o=>if o<c.size then some (.obj st.objs.length) else none
 let κ1:=κ.new w.heap.size lab
 let κ':K:={κ1 with blk:=fun id=>if id=st.objs.length then some w.heap.size else κ.blk id}
 have hp1:∀ S,Pres S κ w κ1 (w.alloc (.cells c t)):=fun S=>pres_new S r.sim.good _ _
 have hp2:∀ S,Pres S κ1 (w.alloc (.cells c t)) κ' (w.alloc (.cells c t)):=fun S=>{
  os:=rfl
  tape:=rfl
  out:=rfl
  size:=Nat.le_refl _
  blk:=fun id b h=>by
   simp only [κ']
   split
   ·rename_i he
    have:=r.sim.fresh id (by omega)
    rw [show κ1.blk id=κ.blk id from rfl,this] at h;cases h
   ·exact h
  imm:=fun b o v h=>h
  lab:=fun b o L h _=>⟨h,rfl⟩
  sz:=fun _ _ _=>rfl
  free:=fun b _ h=>⟨rfl,h⟩}
 have hp:∀ S,Pres S κ w κ' (w.alloc (.cells c t)):=fun S=>(hp1 S).trans (hp2 S)
 have hg:Good κ' (w.alloc (.cells c t)):=good_new (lab:=lab) r.sim.good c t (fun o L h=>by
  simp only [lab] at h;split at h
  ·assumption
  ·cases h)
 have hobj:∀ id cs',St.obj {st with objs:=st.objs ++ [cs]} id=some cs'→(id<st.objs.length∧st.obj id=some cs')∨(id=st.objs.length∧cs'=cs):=by
  intro id cs' h
  simp only [St.obj] at h ⊢
  rcases Nat.lt_trichotomy id st.objs.length with h1 | h1 | h1
  ·rw [List.getElem?_append_left h1] at h;exact .inl ⟨h1,h⟩
  ·subst h1;simp at h;exact .inr ⟨rfl,h.symm⟩
  ·rw [List.getElem?_eq_none (by simp;omega)] at h;cases h
 have hold:∀ id cs',st.obj id=some cs'→St.obj {st with objs:=st.objs ++ [cs]} id=some cs':=by
  intro id cs' h
  simp only [St.obj] at h ⊢
  rw [List.getElem?_append_left (List.getElem?_eq_some_iff.1 h).1];exact h
 have hsim:Sim κ' (w.alloc (.cells c t)) {st with objs:=st.objs ++ [cs]}:=by
  refine ⟨by have:=r.sim.wple;simp;omega,hg,fun id hid=>?_,fun id cs' h=>?_,fun id cs' b' h hne hb2=>?_⟩
  ·simp only [zla,List.length_cons,List.length_nil] at hid
   simp only [κ']
   rw [if_neg (by omega)]
   exact r.sim.fresh id (by omega)
  ·rcases hobj id cs' h with ⟨h1,h2⟩ | ⟨rfl,rfl⟩
   ·obtain ⟨b,hb,cc⟩:=r.sim.obj id cs' h2
    exact ⟨b,(hp fun _=>True).blk _ _ hb,cc.pres (hp fun _=>True) trivial (fun _=>trivial)⟩
   ·refine ⟨w.heap.size,by simp [κ'],fun j x hx=>?_⟩
    obtain ⟨v,hv,hrv⟩:=hr.get j x hx
    have hj:j<c.size:=(Array.getElem?_eq_some_iff.1 (hcv j v hv)).1
    refine ⟨?_,v,by rw [cell_new];exact hcv j v hv,RepM.of_rep (hrv.pres (hp fun _=>True))⟩
    show (if w.heap.size=w.heap.size then lab j else _)=_
    simp only [if_true,lab];rw [if_pos hj]
  ·rcases hobj id cs' h with ⟨h1,h2⟩ | ⟨rfl,rfl⟩
   ·exact Room.step r.sim (hp fun _=>True) id h2 rfl hne hb2 (fun b j hl=>((hp fun _=>True).lab b j _ hl trivial).1)
   ·intro j hj hc
    simp only [κ',if_true,Option.some.injEq] at hb2
    subst hb2
    rw [cell_new] at hc
    have hj:j<c.size:=by
     rcases Nat.lt_or_ge j c.size with h | h
     ·exact h
     ·rw [Array.getElem?_eq_none h] at hc;cases hc
    show (if w.heap.size=w.heap.size then lab j else _)=_
    simp only [if_true,lab];rw [if_pos hj]
 refine ⟨κ',r.entries (hp fun _=>True) (fun s=>?_) (fun s cs' hc=>?_) hsim,by simp [κ'],hp _⟩
 ·have h1:=r.fm.tmp s
  generalize hv:a.tmps.getD s undef=v at h1 ⊢
  generalize he:fr.get s=e at h1 ⊢
  have h2:=h1.pres (hp fun _=>True) trivial (fun id cs off x b e1 e2 e3=>r.sim.cellEq (hp fun _=>True) (fun _=>trivial) id cs off x b e1 e2 e3)
   (fun t cs off x b e1 e2 e3=>r.fm.cellEq (hp fun _=>True) (fun _=>trivial) t cs off x b e1 e2 e3)
  cases e with
  | bor k xs q =>
   cases q with
   | mem id off =>
    obtain ⟨r1,cs',b,e1,e2⟩:=h2
    exact ⟨r1,cs',b,hold _ _ e1,e2⟩
   | slot t=>exact h2
   | loc t o=>exact h2
  | _=>exact h2
 ·obtain ⟨b,hb,cc⟩:=r.fm.loc s cs' hc
  exact ⟨b,hb,cc.pres (hp fun _=>True) trivial (fun _=>trivial)⟩
theorem object_ok (r:R d n κ w lam fr st a)(c:Array Value)(t:TypeId)(cs:List V)(hr:Reps κ w c.toList cs) :
  ∃ κ',R d n κ' (w.alloc (.cells c t)) lam fr {st with objs:=st.objs ++ [cs]} a ∧
   RepV κ' (w.alloc (.cells c t)) lam fr {st with objs:=st.objs ++ [cs]} a.tmps (.pointer (some (at_ w.heap.size 0))) (.val (.ptr st.objs.length 0)) ∧
   Pres (Keep d st.wp) κ w κ' (w.alloc (.cells c t)):=by
 obtain ⟨κ',h1,h2,h3⟩:=object_gen r c t cs hr (fun j v hv=>by rw [← Array.getElem?_toList];exact hv)
 exact ⟨κ',h1,.ptr h2,h3⟩
end Go.Ab
namespace Go.Ab
open Go
variable {P:Program} {d n:Nat} {κ:K} {w:World} {lam:Lam} {fr:Fr} {st:St} {a:Act} {o:Oper}
theorem splice_get {old cs new:List V} {off:Nat} (h:splice old off cs=some new):off+cs.length≤old.length∧new.length=old.length ∧
  ∀ (j:Nat),new[j]?=if off≤j∧j<off+cs.length then cs[j - off]? else old[j]?:=by
 unfold splice at h
 split at h
 ·rename_i hl
  cases h
  refine ⟨hl,by simp;omega,fun j=>?_⟩
  by_cases h1:j<off
  ·rw [if_neg (by omega),zaa,List.getElem?_append_left (by simp;omega),List.getElem?_take,if_pos h1]
  ·by_cases h2:j<off+cs.length
   ·rw [if_pos ⟨by omega,h2⟩,zaa,List.getElem?_append_right (by simp;omega),List.getElem?_append_left (by simp;omega)]
    congr 1;simp;omega
   ·rw [if_neg (by omega),List.getElem?_append_right (by simp;omega),List.getElem?_drop]
    congr 1;simp;omega
 ·cases h
theorem store_run {b off:Nat} {vs:List Value} (h:∀ j,j<vs.length→∃ v,w.cell? (at_ b (off+j))=some v) (hf:∀ j,j<vs.length→w.frozen? (at_ b (off+j))=false)
  (h1:∀ v∈vs,v.oneCell'=true):(storeCells (at_ b off) vs).run P w=.ok () (w.setCells b off vs):=by
 have:=run_storeCells_cells (P:=P) b off vs 0 w (fun j hj=>by obtain ⟨v,hv⟩:=h j hj;simp only [Nat.add_zero];exact Option.isSome_iff_exists.2 ⟨v,hv⟩)
  (fun j hj=>by simp only [Nat.add_zero];exact hf j hj) h1
 rw [Nat.add_zero] at this;exact this
theorem cellsAre.write {b:Nat} {who:Ow} {sp:Nat→Ow} {old cs new:List V} {off:Nat} {vs:List Value} (c:cellsAre κ w b who sp old)(hs:splice old off cs=some new)(hl:vs.length=cs.length)
  (p:Pres (fun L=>L≠who) κ w κ (w.setCells b off vs)) (hsp:∀ j,sp j≠who)
  (hr:∀ (j:Nat) v x,vs[j]?=some v→cs[j]?=some x→RepM κ w (sp (off+j)) v x):cellsAre κ (w.setCells b off vs) b who sp new:=by
 obtain ⟨h1,h2,h3⟩:=splice_get hs
 have hex:∀ j,j<vs.length→∃ v,w.cell? (at_ b (off+j))=some v:=by
  intro j hj
  obtain ⟨_,v,hv,_⟩:=c (off+j) old[off+j] (by simp)
  exact ⟨v,hv⟩
 intro j x hx
 rw [h3] at hx
 split at hx
 ·rename_i hj
  have hj2:j - off<vs.length:=by omega
  have hv:=setCells_at b vs off w hex (j - off) vs[j - off] (by simp)
  rw [show off+(j - off)=j by omega] at hv
  have hj3:j<old.length:=by omega
  obtain ⟨ho,_⟩:=c j old[j] (by simp)
  have:=hr (j - off) vs[j - off] x (by simp) hx
  rw [show off+(j - off)=j by omega] at this
  exact ⟨ho,_,hv,this.pres p (hsp j)⟩
 ·rename_i hj
  obtain ⟨ho,v,hv,r⟩:=c j x hx
  exact ⟨ho,v,by rw [setCells_other _ _ _ _ _ _ (by omega)];exact hv,r.pres p (hsp j)⟩
theorem mem_store (r:R d n κ w lam fr st a) {id off b:Nat} {old cs new:List V} {vs:List Value} {st':St} (h1:st.obj id=some old)(h2:κ.blk id=some b)(hs:splice old off cs=some new)
  (h3:st.set id new=some st') (hl:vs.length=cs.length) (hne:vs≠[]) (h1c:∀ v∈vs,v.oneCell'=true) (hr:∀ (j:Nat) v x,vs[j]?=some v→cs[j]?=some x→RepM κ w (.mem id (off+j)) v x) :
  (storeCells (at_ b off) vs).run P w=.ok () (w.setCells b off vs)∧R d n κ (w.setCells b off vs) lam (fr.map E.noMem) st' a∧Pres (Keep d st.wp) κ w κ (w.setCells b off vs)∧st'.wp=st.wp:=by
 have hwp:st.wp≤id:=by
  unfold St.set at h3;split at h3
  ·assumption
  ·cases h3
 have hst:st'={st with objs:=st.objs.set id new}:=by
  unfold St.set at h3;rw [if_pos hwp] at h3;cases h3;rfl
 obtain ⟨b',hb',hc⟩:=r.sim.obj id old h1
 rw [h2] at hb';cases hb'
 obtain ⟨hle,hlen,_⟩:=splice_get hs
 have hown:∀ j,j<vs.length→κ.own b (off+j)=some (.obj id):=fun j hj=>(hc (off+j) old[off+j] (by simp)).1
 have hex:∀ j,j<vs.length→∃ v,w.cell? (at_ b (off+j))=some v:=fun j hj=>(r.sim.good _ _ _ (hown j hj)).1
 have p:Pres (fun L=>L≠.obj id) κ w κ (w.setCells b off vs):=pres_write _ (by simp) hne r.sim.good hown
 have g:Good κ (w.setCells b off vs):=good_write r.sim.good b off vs hex
 refine ⟨store_run hex (fun j hj=>(r.sim.good _ _ _ (hown j hj)).2) h1c,r.entries p (fun t=>?_) (fun t cs' hc'=>?_) ⟨by subst hst;simpa using r.sim.wple,g,?_,?_,?_⟩,p.mono (fun L hL e=>keep_obj d st.wp id hwp (e ▸ hL)),by subst hst;rfl⟩
 ·rw [get_map _ _ rfl]
  have h1':=r.fm.tmp t
  generalize hv:a.tmps.getD t undef=v at h1' ⊢
  generalize he:fr.get t=e at h1' ⊢
  cases e with
  | any=>trivial
  | val x=>exact Rep.pres p h1'
  | lp u o=>exact h1'
  | own k' ys=>exact ⟨h1'.1.pres p,h1'.2.pres p (by simp)⟩
  | bor k' ys q =>
   cases q with
   | slot u=>exact ⟨h1'.1.pres p,by rw [get_map _ _ rfl,h1'.2.1];rfl,h1'.2.2⟩
   | mem id' o=>exact h1'.1.pres p
   | loc u o =>
    obtain ⟨r1,cs',b',e1,e2,e3,e4⟩:=h1'
    exact ⟨r1.pres p,cs',b',e1,e2,e3,(r.fm.cellEq p (by simp) u cs' o _ b' e1 e2 e3).trans e4⟩
 ·obtain ⟨b',hb',c⟩:=r.fm.loc t cs' hc'
  exact ⟨b',hb',c.pres p (by simp) (by simp)⟩
 ·subst hst;intro id' hid;exact r.sim.fresh id' (by simpa using hid)
 ·intro id' cs' hc'
  subst hst
  simp only [St.obj,List.getElem?_set] at hc'
  split at hc'
  ·rename_i he;subst he
   split at hc'
   ·cases hc'
    exact ⟨b,h2,hc.write hs hl p (by simp) hr⟩
   ·cases hc'
  ·rename_i he
   obtain ⟨b2,hb2,c2⟩:=r.sim.obj id' cs' hc'
   exact ⟨b2,hb2,c2.pres p (by simpa using Ne.symm he) (by simp)⟩
 ·intro id' cs' b' hc' hne hb2
  subst hst
  simp only [St.obj,List.getElem?_set] at hc'
  split at hc'
  ·rename_i he;subst he
   split at hc'
   ·cases hc'
    exact Room.step r.sim p id h1 hlen.symm hne hb2 (fun b j hl=>hl)
   ·cases hc'
  ·exact Room.step r.sim p id' hc' rfl hne hb2 (fun b j hl=>hl)
theorem loc_store (r:R d n κ w lam fr st a) {s off b:Nat} {old cs new:List V} {vs:List Value} (h1:fr.loc s=some old)(h2:lam s=some b)(hs:splice old off cs=some new)
  (hl:vs.length=cs.length) (hne:vs≠[]) (h1c:∀ v∈vs,v.oneCell'=true) (hr:∀ (j:Nat) v x,vs[j]?=some v→cs[j]?=some x→RepM κ w (.lsp d s (off+j)) v x) :
  (storeCells (at_ b off) vs).run P w=.ok () (w.setCells b off vs)∧R d n κ (w.setCells b off vs) lam ((fr.setLoc s new).map E.noLoc) st a∧Pres (Keep d st.wp) κ w κ (w.setCells b off vs):=by
 obtain ⟨b',hb',hc⟩:=r.fm.loc s old h1
 rw [h2] at hb';cases hb'
 obtain ⟨hle,hlen,_⟩:=splice_get hs
 have hown:∀ j,j<vs.length→κ.own b (off+j)=some (.loc d s):=fun j hj=>(hc (off+j) old[off+j] (by simp)).1
 have hex:∀ j,j<vs.length→∃ v,w.cell? (at_ b (off+j))=some v:=fun j hj=>(r.sim.good _ _ _ (hown j hj)).1
 have p:Pres (fun L=>L≠.loc d s) κ w κ (w.setCells b off vs):=pres_write _ (by simp) hne r.sim.good hown
 have g:Good κ (w.setCells b off vs):=good_write r.sim.good b off vs hex
 have hget:∀ t,(fr.setLoc s new).get t=fr.get t:=fun t=>rfl
 refine ⟨store_run hex (fun j hj=>(r.sim.good _ _ _ (hown j hj)).2) h1c,r.entries p (fun t=>?_) (fun t cs' hc'=>?_) (r.sim.pres p g r.sim.fresh (by simp) (by simp)),p.mono (fun L hL e=>keep_loc d st.wp s (e ▸ hL))⟩
 ·rw [get_map _ _ rfl,hget]
  have h1':=r.fm.tmp t
  generalize hv:a.tmps.getD t undef=v at h1' ⊢
  generalize he:fr.get t=e at h1' ⊢
  cases e with
  | any=>trivial
  | val x=>exact Rep.pres p h1'
  | lp u o=>exact h1'
  | own k' ys=>exact ⟨h1'.1.pres p,h1'.2.pres p (by simp)⟩
  | bor k' ys q =>
   cases q with
   | slot u=>exact ⟨h1'.1.pres p,by rw [get_map _ _ rfl,hget,h1'.2.1];rfl,h1'.2.2⟩
   | mem id' o =>
    obtain ⟨r1,cs',b',e1,e2,e3,e4⟩:=h1'
    exact ⟨r1.pres p,cs',b',e1,e2,e3,(r.sim.cellEq p (by simp) id' cs' o _ b' e1 e2 e3).trans e4⟩
   | loc u o=>exact h1'.1.pres p
 ·rw [loc_map] at hc'
  simp only [Fr.loc_def,Fr.setLoc_def] at hc'
  by_cases ht:t=s
  ·subst ht
   rw [lk_lset _ _ _ _ _ ((Fr.loc_def fr _).symm.trans h1),if_pos rfl] at hc'
   cases hc'
   exact ⟨b,h2,hc.write hs hl p (by simp) hr⟩
  ·rw [lk_lset_other _ _ _ _ ht] at hc'
   obtain ⟨b2,hb2,c2⟩:=r.fm.loc t cs' ((Fr.loc_def fr t).trans hc')
   exact ⟨b2,hb2,c2.pres p (by simpa using ht) (by simp)⟩
theorem cells_of {e : E} {v : Value} {cs : List V} {tmps : Array Value} (r : R d n κ w lam fr st a) (h : RepV κ w lam fr st tmps v e) (hc : e.cells? = some cs) (h1 : cs.all V.one = true) (sp : Nat → Ow) (hsp : sp 0 ≠ .fly) :
    ∃ κ', R d n κ' w lam fr st a ∧ Pres (fun L => L ≠ .fly) κ w κ' w ∧ v.cells.toList.length = cs.length ∧ (∀ u ∈ v.cells.toList, u.oneCell' = true) ∧
      ∀ (j : Nat) u x, v.cells.toList[j]? = some u → cs[j]? = some x → RepM κ' w (sp j) u x := by
  cases e with
  | val x =>
    simp only [E.cells?, Option.some.injEq] at hc; subst hc
    refine ⟨κ, r, .refl _ _ _, ?_⟩
    have hx : ∃ us, v.cells.toList = us ∧ Reps κ w us x.cells := by
      cases x <;> first
        | (obtain ⟨ar, rfl, hr⟩ := Rep.agg_inv h; exact ⟨_, rfl, hr⟩)
        | (refine ⟨[v], ?_, .cons h .nil⟩
           have := Rep.one h (by simpa [V.cells] using h1)
           cases v <;> first | rfl | cases this)
    obtain ⟨us, hus, hr⟩ := hx
    rw [hus]
    refine ⟨hr.length, ?_, fun j u y hu hy => ?_⟩
    · intro u hu
      obtain ⟨j, hj, rfl⟩ := List.getElem_of_mem hu
      have hj2 : j < x.cells.length := by rw [← hr.length]; exact hj
      obtain ⟨u', hu', hr'⟩ := hr.get j x.cells[j] (by simp)
      rw [zge hj] at hu'; cases hu'
      exact hr'.one (List.all_eq_true.1 h1 _ (List.getElem_mem _))
    · obtain ⟨u', hu', hr'⟩ := hr.get j y hy
      rw [hu] at hu'; cases hu'
      exact RepM.of_rep hr'
  | own k xs =>
    simp only [E.cells?, Option.some.injEq] at hc; subst hc
    have p : Pres (fun L => L ≠ .fly) κ w (κ.re .fly (sp 0)) w := pres_re κ w _ _ _ (by simp)
    obtain ⟨q, cap, rfl, _⟩ := h.1.slice_inv
    refine ⟨κ.re .fly (sp 0), r.pres p (fun L hL e => by subst e; exact hL) (good_re r.sim.good) r.sim.fresh, p, rfl, by simp [Value.cells, Value.oneCell'], fun j u x hu hx => ?_⟩
    cases j with
    | zero =>
      simp [Value.cells] at hu hx; subst hu hx
      exact ⟨h.1.pres p, h.2.re⟩
    | succ j => simp at hx
  | _ => cases hc
end Go.Ab
namespace Go.Ab
open Go
variable {P:Program} {d n:Nat} {κ:K} {w:World} {lam:Lam} {fr:Fr} {st:St} {a:Act} {o:Oper}
theorem byteVs_length (s:List UInt8):(byteVs s).length=s.length:=by simp [byteVs]
theorem byteVs_cells (s:List UInt8):(byteVs s).flatMap V.cells=byteVs s:=by
 induction s with
 | nil=>rfl
 | cons b r ih=>simp only [byteVs,List.map_cons,List.flatMap_cons] at ih ⊢;rw [ih];rfl
theorem byteVs_reps (κ:K)(w:World)(s:List UInt8):Reps κ w (s.map fun b=>Value.int .u8 b.toNat) (byteVs s):=by
 induction s with
 | nil=>exact .nil
 | cons b r ih=>exact .cons (.int _ _) ih
theorem src_ok {tk:Option TK} {e:E} {v:Value} {ys:List V} {esz:Nat} (h:RepR κ w lam v e)(ha:appended tk e=some ys)(hs:sizesOk esz ys=true) :
  ∃ vs,Reps κ w vs (ys.flatMap V.cells)∧(∀ w',(Builtin.lenOf v).run P w'=.ok ys.length w')∧∀ w',(∀ x,w'.cell? x=w.cell? x)→(Builtin.firstCells esz ys.length v).run P w'=.ok vs.toArray w':=by
 unfold appended at ha
 split at ha
 ·have hr:=elems_of h ha
  cases hr with
  | slice0 q cap =>
   refine ⟨[],.nil,fun _=>rfl,fun w' _=>?_⟩
   cases q with
   | none=>exact run_firstCells_none w' _ _ _ _
   | some q=>exact run_firstCells_some w' esz 0 q 0 cap [] (by simp) (by simp)
  | slice hc hk hat =>
   obtain ⟨vs,h1,h2⟩:=hat.reps
   refine ⟨vs,h1,fun _=>rfl,fun w' hw=>?_⟩
   refine run_firstCells_some w' esz _ _ _ _ vs ?_ fun j v hv=>?_
   ·rw [h1.length,flat_length _ esz (sizesOk_all hs)]
   ·rw [addr_add,hw];exact (h2 j v hv).1
 ·split at ha
  ·cases ha
   obtain ⟨s',rfl,rfl⟩:=Rep.str_inv h
   refine ⟨_,byteVs_cells _ ▸ byteVs_reps κ w _,fun _=>by rw [byteVs_length,← size_eq_length];rfl,fun w' _=>?_⟩
   have:s'.extract 0 (byteVs s'.data.toList).length=s':=by
    rw [byteVs_length,← size_eq_length]
    apply ByteArray.ext
    rw [ByteArray.data_extract]
    exact Array.extract_size
   simp only [Builtin.firstCells,this,Sem.run_pure]
   rw [← Array.toList_map]
  ·cases ha
 ·cases ha
theorem fill_ok (r:R d n κ w lam fr st a) {b o:Nat} {vs:List Value} (hown:∀ j,j<vs.length→κ.own b (o+j)=some .fly)(hne:vs≠[]) :
  let κ':K:={κ with own:=fun b' j=>if b'=b∧o≤j∧j<o+vs.length then none else κ.own b' j}
  R d n κ' (w.setCells b o vs) lam fr st a∧Pres (fun L=>L≠.fly) κ w κ' (w.setCells b o vs)∧(∀ (j:Nat) v,vs[j]?=some v→Imm κ' (w.setCells b o vs) b (o+j) v):=by
 intro κ'
 have hex:∀ j,j<vs.length→∃ v,w.cell? (at_ b (o+j))=some v:=fun j hj=>(r.sim.good _ _ _ (hown j hj)).1
 have p1:Pres (fun L=>L≠.fly) κ w κ (w.setCells b o vs):=pres_write _ (by simp) hne r.sim.good hown
 have p2:Pres (fun L=>L≠.fly) κ (w.setCells b o vs) κ' (w.setCells b o vs):={
  os:=rfl
  tape:=rfl
  out:=rfl
  size:=Nat.le_refl _
  blk:=fun _ _ h=>h
  imm:=fun c j v h=>⟨h.1,by simp only [κ'];split <;> first | rfl | exact h.2⟩
  lab:=fun c j L h hs=>by
   refine ⟨?_,rfl⟩
   simp only [κ']
   rw [if_neg]
   ·exact h
   ·rintro ⟨rfl,h1,h2⟩
    have:=hown (j - o) (by omega)
    rw [show o+(j - o)=j by omega,h] at this
    cases this;exact hs rfl
  sz:=fun _ _ _=>rfl
  free:=fun c _ h=>⟨rfl,fun j=>by simp only [κ'];split <;> first | rfl | exact h j⟩}
 have p:=p1.trans p2
 have g:Good κ' (w.setCells b o vs):=by
  intro c j L hL
  simp only [κ'] at hL
  split at hL
  ·cases hL
  ·exact good_write r.sim.good b o vs hex c j L hL
 refine ⟨r.pres p (fun L hL e=>by subst e;exact hL) g r.sim.fresh,p,fun j v hv=>⟨?_,?_⟩⟩
 ·exact setCells_at b vs o w hex j v hv
 ·show (if b=b∧o≤o+j∧o+j<o+vs.length then none else κ.own b (o+j))=none
  rw [if_pos ⟨rfl,by omega,by have:=(List.getElem?_eq_some_iff.1 hv).1;omega⟩]
theorem own_slice {k:Nat} {v:Value} {xs:List V} (h1:Rep κ w v (.slice xs)):∃ q cap,v=.slice q xs.length cap∧xs.length≤cap:=h1.slice_inv
theorem append_run (r : R d n κ w lam fr st a) {t xt ty : TypeId} {elem : TypeId} {i : TypeInfo} {z : Value} {esz eb k : Nat} {xs ys : List V} {v vx : Value} {tk : Option TK} {e : E} {args : Array Value} {ats : Array TypeId}
    (ht : P.underlying t = some (.slice elem)) (hi : P.info? elem = some i) (hz : i.zero = some z) (hsz : i.size = esz) (hb : i.bytes = eb) (hzl : z.cells.size = esz)
    (ha0 : args[0]? = some v) (ha1 : args[1]? = some vx) (ht0 : ats[0]? = some t) (ht1 : ats[1]? = some xt) (hxt : (∃ e, P.underlying xt = some (.slice e)) ∨ P.underlying xt = some .string)
    (hv : Rep κ w v (.slice xs)) (hsp : Spare κ .fly k v) (hk : k = 0 ∨ k = esz) (hx : RepR κ w lam vx e) (hap : appended tk e = some ys) (hsx : sizesOk esz xs = true) (hsy : sizesOk esz ys = true)
    (he : 0 < esz) (hbytes : (xs.length + ys.length) * eb ≤ 2 ^ 47) (hlen : xs.length + ys.length ≤ 2 ^ 47) :
    ∃ v' w' κ', (Builtin.append_ ats ty args).run P w = .ok v' w' ∧ R d n κ' w' lam fr st a ∧ RepV κ' w' lam fr st a.tmps v' (.own esz (xs ++ ys)) ∧ Pres (fun L => L ≠ .fly) κ w κ' w' := by
  obtain ⟨vs, hr, hlenOf, hfirst⟩ := src_ok (P := P) hx hap hsy
  obtain ⟨q, cap, rfl, hcap⟩ := own_slice (k := k) hv
  have hvl : vs.length = ys.length * esz := by rw [hr.length, flat_length _ esz (sizesOk_all hsy)]
  have hall : ∀ x ∈ xs ++ ys, x.cells.length = esz := by
    intro x hx
    rcases List.mem_append.1 hx with h | h
    · exact sizesOk_all hsx x h
    · exact sizesOk_all hsy x h
  by_cases hfit : xs.length + ys.length ≤ cap
  · -- there is room
    have hrun : ∀ (w' : World) (base : Option Addr), q = base → (match base with | some c => ((storeCells (c.add (xs.length * esz)) vs).run P w) = .ok () w' | none => w' = w) →
        (Builtin.append_ ats ty args).run P w = .ok (.slice q (xs.length + ys.length) cap) w' := by
      intro w' base hq hst
      subst hq
      rcases hxt with ⟨xe, hde⟩ | hde <;>
        (simp only [Builtin.append_, ht0, ha0, ha1, ht1, Sem.run_bind, run_underlying ht, run_underlying hde, Result.andThen_ok, sizeOf, typeInfo, Sem.run_pure, run_program, hi, hsz, Bool.false_eq_true, if_false, hlenOf, hfit, if_true, Bool.not_false, hfirst w (fun _ => rfl)]
         cases q with
         | none => subst hst; rfl
         | some c =>
           simp only at hst ⊢
           rw [Sem.run_bind, hst]; rfl)
    by_cases hy : ys = []
    · subst hy
      simp only [List.length_nil, Nat.zero_mul] at hvl
      have hvs : vs = [] := List.length_eq_zero_iff.1 hvl
      subst hvs
      refine ⟨_, w, κ, hrun w q rfl (by cases q <;> rfl), r, ?_, .refl _ _ _⟩
      simp only [List.append_nil, List.length_nil, Nat.add_zero]
      refine ⟨hv, ?_⟩
      rcases hsp with h1 | ⟨h1, h2, h3⟩
      · exact .inl h1
      · rcases hk with rfl | rfl
        · omega
        · exact .inr ⟨h1, h2, h3⟩
    · have hyl : 0 < ys.length := List.length_pos_iff.2 hy
      rcases hsp with h1 | ⟨h1, h2, b, o, rfl, h3⟩
      · omega
      · have hke : k = esz := by rcases hk with rfl | rfl <;> omega
        subst hke
        have hmul : (xs.length + ys.length) * k ≤ cap * k := Nat.mul_le_mul_right k hfit
        rw [Nat.add_mul] at hmul
        have hvne : vs ≠ [] := by
          intro h
          have h0 : ys.length * k = 0 := by rw [← hvl, h]; rfl
          rcases Nat.mul_eq_zero.1 h0 with h | h <;> omega
        have hown : ∀ j, j < vs.length → κ.own b (o + xs.length * k + j) = some .fly := fun j hj => h3 _ (by omega) (by omega)
        obtain ⟨r', p, himm⟩ := fill_ok r hown hvne
        have hone : ∀ v ∈ vs, v.oneCell' = true := by
          intro v hv'
          obtain ⟨j, hj, rfl⟩ := List.getElem_of_mem hv'
          have hj2 : j < (ys.flatMap V.cells).length := by rw [← hr.length]; exact hj
          obtain ⟨u, hu, hru⟩ := hr.get j (ys.flatMap V.cells)[j] (by simp)
          rw [zge hj] at hu; cases hu
          exact hru.one (sizesOk_one hsy _ (List.getElem_mem _))
        refine ⟨_, _, _, hrun _ (some (at_ b o)) rfl ?_, r', ⟨?_, ?_⟩, p⟩
        · show (storeCells ((at_ b o).add (xs.length * k)) vs).run P w = _
          rw [addr_add]
          exact store_run (fun j hj => (r.sim.good _ _ _ (hown j hj)).1) (fun j hj => (r.sim.good _ _ _ (hown j hj)).2) hone
        · have hl : (xs ++ ys).length = xs.length + ys.length := by simp
          rw [← hl]
          refine .slice (by rw [hl]; exact hfit) hall ?_
          rw [List.flatMap_append]
          refine RepAt.append ?_ ?_
          · by_cases hxe : xs = []
            · subst hxe; exact .nil
            · generalize hvv : Value.slice (some (at_ b o)) xs.length cap = vv at hv
              cases hv with
              | slice0 => exact absurd rfl hxe
              | slice _ _ hat => cases hvv; exact hat.pres p
          · rw [flat_length _ k (sizesOk_all hsx)]
            refine RepAt.of_get fun j x hx => ?_
            obtain ⟨u, hu, hru⟩ := hr.get j x hx
            exact ⟨u, himm j u hu, hru.pres p⟩
        · refine .inr ⟨h1, hfit, b, o, rfl, fun j hj1 hj2 => ?_⟩
          have hmm : (xs.length + ys.length) * k = xs.length * k + ys.length * k := Nat.add_mul _ _ _
          show (if b = b ∧ o + xs.length * k ≤ j ∧ j < o + xs.length * k + vs.length then none else κ.own b j) = _
          rw [if_neg (by omega)]
          exact h3 j (by omega) hj2
  · -- a new row
    have holds : ∃ olds, Reps κ w olds (xs.flatMap V.cells) ∧ ∀ w', (∀ x, w'.cell? x = w.cell? x) → (Builtin.firstCells esz xs.length (.slice q xs.length cap)).run P w' = .ok olds.toArray w' := by
      obtain ⟨olds, h1, _, h2⟩ := src_ok (P := P) (lam := lam) (tk := some (.slice 0 0 false [])) (e := .val (.slice xs)) (show RepR κ w lam _ (.val (.slice xs)) from hv) rfl hsx
      exact ⟨olds, h1, h2⟩
    obtain ⟨olds, hro, hfo⟩ := holds
    have hol : olds.length = xs.length * esz := by rw [hro.length, flat_length _ esz (sizesOk_all hsx)]
    let newCap := grownCap w (xs.length + ys.length) cap elem
    have hge : xs.length + ys.length ≤ newCap := by
      simp only [newCap, grownCap, Question.cut]; exact Nat.le_add_right _ _
    let c : Array Value := olds.toArray ++ vs.toArray ++ Builtin.zeroCells z.cells (newCap - (xs.length + ys.length))
    have hcs : c.size = newCap * esz := by
      simp only [c, Array.size_append, List.size_toArray, Builtin.zeroCells, Array.size_map, Array.size_range, hol, hvl, hzl]
      rw [← Nat.add_mul, ← Nat.add_mul]
      congr 1; omega
    have h63 : ¬ (((xs.length + ys.length : Nat) : Int) > IntKind.i64.max ∧ (False ∨ i.bytes = 0)) := by
      have : IntKind.i64.max = 9223372036854775807 := rfl
      omega
    have h48 : ¬ (Builtin.nextslicecap (xs.length + ys.length) cap * i.bytes > 2 ^ 48) := by
      have := growslice_fits (need := xs.length + ys.length) (old := cap) (bytes := i.bytes) (by omega) (by rw [hb]; omega)
      omega
    have hrun : (Builtin.append_ ats ty args).run P w = .ok (.slice (some (at_ w.heap.size 0)) (xs.length + ys.length) newCap) (w.drew.alloc (.cells c elem)) := by
      have hd1 := hfo w.drew (fun _ => rfl)
      have hd2 := hfirst w.drew (fun _ => rfl)
      have h63' : ¬ (9223372036854775807 < ((xs.length : Int) + (ys.length : Int))) := by omega
      have h48' : ¬ (281474976710656 < Builtin.nextslicecap (xs.length + ys.length) cap * i.bytes) := by omega
      rcases hxt with ⟨xe, hde⟩ | hde <;>
        (simp [Builtin.append_, ht0, ha0, ha1, ht1, run_underlying ht, run_underlying hde, sizeOf, typeInfo, zeroValue, hi, hz, hsz, hlenOf, hfit, h63', h48', Question.forced, hd1, hd2, newRow, newCap, grownCap, c]
         rfl)
    have gd : Good κ w.drew := r.sim.good
    have hreps : Reps κ w.drew (olds ++ vs) ((xs ++ ys).flatMap V.cells) := by
      rw [List.flatMap_append]
      exact (hro.append hr).pres (pres_drew fun _ => True)
    obtain ⟨g', hrep, hspare⟩ := slice_new (k := esz) (cap := newCap) gd he hall hreps c elem (fun j v hv => by
      simp only [c]
      rw [← Array.getElem?_toList]
      simp only [Array.toList_append, List.toList_toArray]
      rw [List.getElem?_append_left (by have := (List.getElem?_eq_some_iff.1 hv).1; exact this)]
      exact hv) hcs (by simpa using hge)
    have hl : (xs ++ ys).length = xs.length + ys.length := by simp
    have pn := fun S => pres_new S gd (.cells c elem) (fun o => if (xs ++ ys).length * esz ≤ o ∧ o < c.size then some .fly else none)
    refine ⟨_, _, _, hrun, ?_, ⟨?_, ?_⟩, (pres_drew _).trans (pn _)⟩
    · exact (r.drew).new c elem (fun o L h => by
        split at h
        · rename_i hh; exact hh.2
        · cases h)
    · rw [← hl]; exact hrep
    · rw [← hl]; exact hspare
end Go.Ab
namespace Go.Ab
open Go
variable {P:Program} {d n:Nat} {κ:K} {w:World} {lam:Lam} {fr:Fr} {st:St} {a:Act} {o:Oper}
theorem RepM.strip1 {p:Ow} {v:Value} {x:V} (h:RepM κ w p v x):Rep κ w v x.strip1:=by
 cases x <;> simp only [RepM] at h <;> first | exact h.1 | exact h
theorem row_reps {b:Nat} {who:Ow} {sp:Nat→Ow} {cs:List V} (c:cellsAre κ w b who sp cs):∀ (m off:Nat),off+m≤cs.length →
  ∃ vs:List Value,Reps κ w vs (((cs.drop off).take m).map V.strip1)∧vs.length=m∧∀ (j:Nat) v,vs[j]?=some v→w.cell? (at_ b (off+j))=some v
 | 0,off,_=>⟨[],by simp;exact .nil,rfl,fun j v h=>by simp at h⟩
 | m+1,off,h=>by
  obtain ⟨vs,h1,h2,h3⟩:=row_reps c m (off+1) (by omega)
  have hoff:off<cs.length:=by omega
  obtain ⟨_,v,hv,hr⟩:=c off cs[off] (by simp)
  refine ⟨v :: vs,?_,by simp [h2],fun j u hu=>?_⟩
  ·rw [List.drop_eq_getElem_cons hoff,List.take_succ_cons,List.map_cons]
   exact .cons hr.strip1 h1
  ·cases j with
   | zero=>simp at hu;subst hu;exact hv
   | succ j=>simp at hu;have:=h3 j u hu;rwa [show off+1+j=off+(j+1) by omega] at this
theorem isAgg_run {t:TypeId} {de:TypeDesc} (h:P.underlying t=some de):(isAgg t).run P w=.ok (isAggT de) w:=by
 unfold isAgg
 simp only [Sem.run_bind,run_underlying h,Result.andThen_ok]
 cases de <;> rfl
theorem loadVar_agg {t:TypeId} {de:TypeDesc} {i:TypeInfo} {b off:Nat} {vs:List Value} (h1:P.underlying t=some de)(h2:isAggT de=true)(hi:P.info? t=some i)(hl:vs.length=i.size)
  (hc:∀ (j:Nat) v,vs[j]?=some v→w.cell? (at_ b (off+j))=some v):(Instr.loadAt t (.pointer (some (at_ b off)))).run P w=.ok (.agg vs.toArray) w:=by
 have:=run_loadCells_list (P:=P) w (at_ b off) vs (fun j v hv=>by rw [addr_add];exact hc j v hv)
 rw [hl] at this
 simp [Instr.loadAt,Instr.sureAddr,loadVar,isAgg_run h1,h2,sizeOf,typeInfo,hi,this]
theorem loadVar_one {t:TypeId} {de:TypeDesc} {b off:Nat} {v:Value} (h1:P.underlying t=some de)(h2:isAggT de=false)(hc:w.cell? (at_ b off)=some v) :
  (Instr.loadAt t (.pointer (some (at_ b off)))).run P w=.ok v w:=by
 simp [Instr.loadAt,Instr.sureAddr,loadVar,isAgg_run h1,h2,hc]
theorem load_ok {g:G} (hg:TyOk P g) {t:Nat} {ti:TI} (hti:g.ty t=some ti)(r:R d n κ w lam fr st a) {u:Value} {x e:E} (hu:RepR κ w lam u x)(h:Ab.loadAt ti fr st x=some e) :
  ∃ v,(Instr.loadAt t u).run P w=.ok v w∧RepV κ w lam fr st a.tmps v e:=by
 obtain ⟨i,z,hi,hsz,hz,_⟩:=(hg.ti t ti hti).info
 obtain ⟨de,h1,_,hagg⟩:=(hg.ti t ti hti).und
 unfold Ab.loadAt at h
 split at h
 ·rename_i s off cs hp
  cases x <;> simp only [placeOf,Option.map_eq_some_iff,Place.loc.injEq,reduceCtorEq,and_false,exists_false] at hp
  case lp s' off' =>
   obtain ⟨cs',hcs,rfl,rfl,rfl⟩:=hp
   obtain ⟨b,hb,rfl⟩:=hu
   obtain ⟨b',hb',hc⟩:=r.fm.loc _ _ hcs
   rw [hb] at hb';cases hb'
   unfold loadCs at h
   split at h
   ·rename_i ha
    split at h
    ·rename_i hle
     cases h
     obtain ⟨vs,v1,v2,v3⟩:=row_reps hc ti.size off' hle
     exact ⟨_,loadVar_agg h1 (by rw [← hagg];exact ha) hi (by rw [v2,hsz]) v3,.agg v1⟩
    ·cases h
   ·rename_i ha
    cases hx:cs'[off']? with
    | none=>rw [hx] at h;cases h
    | some y =>
     rw [hx] at h
     simp only [Option.map_some,Option.some.injEq] at h
     obtain ⟨_,v,hv,hr⟩:=hc off' y hx
     refine ⟨v,loadVar_one h1 (by rw [← hagg];simpa using ha) hv,?_⟩
     subst h
     cases y <;> first
      | exact hr
      | trivial
      | exact ⟨hr.1,cs',b,hcs,hx,hb,hv⟩
  case val y=>cases y <;> simp at hp
 ·rename_i id off cs hp
  cases x <;> simp only [placeOf,Option.map_eq_some_iff,reduceCtorEq,and_false,exists_false] at hp
  case val y =>
   cases y <;> simp only [placeOf,Option.map_eq_some_iff,Place.mem.injEq,reduceCtorEq,and_false,exists_false,Option.some.injEq] at hp
   case ptr id' off' =>
    obtain ⟨cs',hcs,rfl,rfl,rfl⟩:=hp
    cases hu with
    | ptr hb =>
     rename_i b
     obtain ⟨b',hb',hc⟩:=r.sim.obj _ _ hcs
     rw [hb] at hb';cases hb'
     unfold loadCs at h
     split at h
     ·rename_i ha
      split at h
      ·rename_i hle
       cases h
       obtain ⟨vs,v1,v2,v3⟩:=row_reps hc ti.size off' hle
       exact ⟨_,loadVar_agg h1 (by rw [← hagg];exact ha) hi (by rw [v2,hsz]) v3,.agg v1⟩
      ·cases h
     ·rename_i ha
      cases hx:cs'[off']? with
      | none=>rw [hx] at h;cases h
      | some y =>
       rw [hx] at h
       simp only [Option.map_some,Option.some.injEq] at h
       obtain ⟨_,v,hv,hr⟩:=hc off' y hx
       refine ⟨v,loadVar_one h1 (by rw [← hagg];simpa using ha) hv,?_⟩
       subst h
       cases y <;> first
        | exact hr
        | trivial
        | exact ⟨hr.1,cs',b,hcs,hx,hb,hv⟩
 ·rename_i cs hp
  cases x <;> simp only [placeOf,Option.map_eq_some_iff,reduceCtorEq,and_false,exists_false] at hp
  case val y =>
   cases y <;> simp only [placeOf,Option.map_eq_some_iff,Place.imm.injEq,reduceCtorEq,and_false,exists_false,Option.some.injEq] at hp
   case ep cs' =>
    subst hp
    cases hu with
    | ep hat =>
     rename_i b off
     split at h
     ·rename_i ha
      split at h
      ·rename_i hle
       cases h
       obtain ⟨vs,v1,v2⟩:=(hat.take ti.size).reps
       refine ⟨_,loadVar_agg h1 (by rw [← hagg];exact ha) hi ?_ (fun j v hv=>(v2 j v hv).1),.agg v1⟩
       rw [v1.length,hsz];simp;omega
      ·cases h
     ·rename_i ha
      cases hx:cs'[0]? with
      | none=>rw [hx] at h;cases h
      | some y =>
       rw [hx] at h
       simp only [Option.map_some,Option.some.injEq] at h
       subst h
       obtain ⟨v,hv,hr⟩:=hat.length_le 0 y hx
       exact ⟨v,loadVar_one h1 (by rw [← hagg];simpa using ha) hv.1,hr⟩
 ·cases h
/-! ### values that are put together -/
theorem foldl_set:∀ (vs:List Value)(off i:Nat)(cells:Array Value),((vs.zipIdx i).foldl (fun cs (p:Value × Nat)=>cs.setIfInBounds (off+p.2) p.1) cells).toList =
  (if off+i+vs.length≤cells.size then cells.toList.take (off+i) ++ vs ++ cells.toList.drop (off+i+vs.length) else ((vs.zipIdx i).foldl (fun cs (p:Value × Nat)=>cs.setIfInBounds (off+p.2) p.1) cells).toList)
 | [],off,i,cells=>by simp
 | v :: vs,off,i,cells=>by
  split
  ·rename_i h
   simp only [List.length_cons] at h
   rw [List.zipIdx_cons,List.foldl_cons]
   have:=foldl_set vs off (i+1) (cells.setIfInBounds (off+i) v)
   rw [this,if_pos (by simp;omega)]
   apply List.ext_getElem?
   intro j
   simp only [Array.toList_setIfInBounds,List.length_cons]
   rcases Nat.lt_trichotomy j (off+i) with h1 | h1 | h1
   ·rw [zaa,zaa,List.getElem?_append_left (by simp;omega),List.getElem?_append_left (by simp;omega),List.getElem?_take,List.getElem?_take,if_pos (by omega),if_pos (by omega),List.getElem?_set,if_neg (by omega)]
   ·subst h1
    rw [zaa,List.getElem?_append_left (by simp;omega),List.getElem?_take,if_pos (by omega),List.getElem?_set,if_pos rfl,if_pos (by simpa using (by omega:off+i<cells.size))]
    rw [zaa,List.getElem?_append_right (by simp;omega)]
    simp;rw [show off+i - min (off+i) cells.size=0 by omega];simp
   ·by_cases h2:j<off+i+1+vs.length
    ·rw [zaa,List.getElem?_append_right (by simp;omega),List.getElem?_append_left (by simp;omega)]
     rw [zaa,List.getElem?_append_right (by simp;omega),List.getElem?_append_left (by simp;omega)]
     simp only [List.length_take,List.length_set,Array.length_toList]
     rw [show j - min (off+i) cells.size=(j - min (off+(i+1)) cells.size)+1 by omega,List.getElem?_cons_succ]
    ·rw [List.getElem?_append_right (by simp;omega),List.getElem?_append_right (by simp;omega),List.getElem?_drop,List.getElem?_drop,List.getElem?_set]
     simp only [zla,List.length_take,List.length_set,Array.length_toList,List.length_cons]
     rw [if_neg (by omega)]
     congr 1;omega
  ·rfl
inductive Parts (κ:K) (w:World):List (Nat × Value)→List (Nat × Option (List V))→Prop
 | nil:Parts κ w [] []
 | cons {i:Nat} {v:Value} {cs:Option (List V)} {vs:List (Nat × Value)} {ps:List (Nat × Option (List V))} (h:∀ xs,cs=some xs→Reps κ w v.cells.toList xs) (r:Parts κ w vs ps):Parts κ w ((i,v) :: vs) ((i,cs) :: ps)
theorem fill_parts {place:Nat→Option (Nat × Nat)} {place':Nat→Option (Nat × Nat)}:∀ {vs:List (Nat × Value)} {ps:List (Nat × Option (List V))} {cells:Array Value} {cs zs:List V},Parts κ w vs ps→Reps κ w cells.toList cs →
  (∀ i x,place' i=some x→place i=some x)→fillV place' cs ps=some zs→∃ out,Instr.fill place cells vs=some out∧Reps κ w out.toList zs
 | _,_,cells,cs,zs,.nil,hc,_,h=>by
  simp only [fillV,Option.some.injEq] at h;subst h
  exact ⟨cells,rfl,hc⟩
 | _,_,cells,cs,zs,.cons (i:=i) (v:=v) (cs:=pc) hp r,hc,hpl,h=>by
  cases pc with
  | none=>cases h
  | some xs =>
   simp only [fillV] at h
   split at h
   ·cases h
   ·rename_i off size hplace
    split at h
    ·rename_i hl
     split at h
     ·rename_i c hs
      have hx:=hp xs rfl
      obtain ⟨s1,s2,s3⟩:=splice_get hs
      have hlen:v.cells.size=xs.length:=by have:=hx.length;simpa using this
      have hcl:cells.size=cs.length:=by have:=hc.length;simpa using this
      simp only [beq_iff_eq] at hl
      have hnew:Reps κ w (v.cells.zipIdx.foldl (fun cs (p:Value × Nat)=>cs.setIfInBounds (off+p.2) p.1) cells).toList c:=by
       have:=foldl_set v.cells.toList off 0 cells
       rw [if_pos (by simp;omega)] at this
       rw [← Array.foldl_toList,Array.toList_zipIdx,this]
       have hsp:c=cs.take off ++ xs ++ cs.drop (off+xs.length):=by
        unfold splice at hs;split at hs
        ·cases hs;rfl
        ·exact absurd s1 ‹_›
       rw [hsp]
       simp only [Nat.add_zero,Array.length_toList,hlen]
       exact ((hc.take off).append hx).append (hc.drop _)
      obtain ⟨out,h1,h2⟩:=fill_parts r hnew hpl h
      refine ⟨out,?_,h2⟩
      simp only [Instr.fill,hpl _ _ hplace]
      rw [if_neg (by simp;omega)]
      exact h1
     ·cases h
    ·cases h
theorem part_cells {v:Value} {e:E} {xs:List V} (h:RepR κ w lam v e)(he:e.part?=some xs):Reps κ w v.cells.toList xs:=by
 unfold E.part? at he
 split at he
 ·cases he
 ·rename_i x hx hv
  cases he
  have hr:=h.v hv
  cases x with
  | agg cs=>obtain ⟨ar,rfl,hr'⟩:=hr.agg_inv;exact hr'
  | any=>exact absurd rfl hx
  | _=>cases hr <;> exact .cons (by first | assumption | (constructor <;> assumption) | constructor) .nil
 ·cases he
theorem parts_of (r:R d n κ w lam fr st a):(l:List (Nat × Operand))→Parts κ w (l.map fun p=>(p.1,a.eval p.2)) (l.map fun p=>(p.1,(fr.op p.2).part?))
 | []=>.nil
 | p :: l=>.cons (fun _ h=>part_cells (r.op p.2) h) (parts_of r l)
end Go.Ab
