/- The by-value interpreter: operations, code, functions. -/
import Derived.Test.YtiiahehclbmodaaAbA
namespace Go.Ab
open Go
set_option linter.unusedVariables false
set_option linter.unusedSimpArgs false
set_option linter.unnecessarySimpa false

def E.int? : E → Option Int
  | .val (.int _ n) => some n
  | _ => none
def E.bool? : E → Option Bool
  | .val (.bool b) => some b
  | _ => none

def vsOf : List E → Option (List V)
  | [] => some []
  | e :: r => match e.v? with
    | some v => (vsOf r).map (v :: ·)
    | none => none

noncomputable def boundOf (fr : Fr) : Option Operand → Option (Option Int)
  | none => some none
  | some x => match (fr.op x).int? with
    | some n => some (some n)
    | none => none

def sizesOk (esz : Nat) : List V → Bool
  | [] => true
  | v :: r => v.cells.length == esz && v.cells.all V.one && sizesOk esz r

def sliceStep (k : TK) (x : V) (lo hi mx : Option Int) : Option E :=
  match k, x, mx with
  | .str, .str s, none =>
    match clip hi s.length s.length with
    | some h => match clip lo 0 h with
      | some l => some (.val (.str ((s.take h).drop l)))
      | none => none
    | none => none
  | .slice esz _ _ _, .slice xs, none =>
    if sizesOk esz xs then
      match clip hi xs.length xs.length with
      | some h => match clip lo 0 h with
        | some l => some (.val (.slice ((xs.take h).drop l)))
        | none => none
      | none => none
    else none
  | .slice esz _ _ _, .sref f k id off len, none =>
    if k = esz then
      match clip hi len len with
      | some h => match clip lo 0 h with
        | some l => if l = h then some (.val (.slice [])) else some (.val (.sref (f && h == len) k id (off + l * k) (h - l)))
        | none => none
      | none => none
    else none
  | .slice esz _ _ _, .sref f k id off len, some m =>
    if k = esz then
      match hi with
      | some h' =>
        match clip (some h') 0 len with
        | some h => if m = (h : Int) then
            match clip lo 0 h with
            | some l => if l = h then some (.own 0 []) else some (.val (.sref true k id (off + l * k) (h - l)))
            | none => none
          else none
        | none => none
      | none => none
    else none
  | .slice esz _ _ _, .slice xs, some m =>
    if sizesOk esz xs then
      match hi with
      | some h' =>
        match clip (some h') 0 xs.length with
        | some h => if m = (h : Int) then
            match clip lo 0 h with
            | some l => some (.own esz ((xs.take h).drop l))
            | none => none
          else none
        | none => none
      | none => none
    else none
  | _, _, _ => none

/-- The cells that an address leads to, and the place of the first. -/
inductive Place where
  | loc (s off : Nat) (cs : List V)
  | mem (id off : Nat) (cs : List V)
  | imm (cs : List V)
noncomputable def placeOf (fr : Fr) (st : St) : E → Option Place
  | .lp s off => (fr.loc s).map fun cs => .loc s off cs
  | .val (.ptr id off) => (st.obj id).map fun cs => .mem id off cs
  | .val (.ep cs) => some (.imm cs)
  | _ => none
noncomputable def loadAt (ti : TI) (fr : Fr) (st : St) (e : E) : Option E :=
  match placeOf fr st e with
  | some (.loc s off cs) => loadCs ti off (.loc s off) cs
  | some (.mem id off cs) => loadCs ti off (.mem id off) cs
  | some (.imm cs) => if ti.agg then (if ti.size ≤ cs.length then some (.val (.agg (cs.take ti.size))) else none) else (cs[0]?).map E.val
  | none => none
noncomputable def storeAt (size : Nat) (fr : Fr) (st : St) (a : E) (cs : List V) : Option (Fr × St) :=
  if cs.length == size && cs.all V.one && decide (0 < size) then
    match placeOf fr st a with
    | some (.loc s off old) => (splice old off cs).map fun new => ((fr.setLoc s new).map E.noLoc, st)
    | some (.mem id off old) => match splice old off cs with
      | some new => (st.set id new).map fun st => (fr.map E.noMem, st)
      | none => none
    | _ => none
  else none

def addrAdd (e : E) (n : Nat) : Option E :=
  match e with
  | .lp s off => some (.lp s (off + n))
  | .val (.ptr id off) => some (.val (.ptr id (off + n)))
  | .val (.ep cs) => if n ≤ cs.length then some (.val (.ep (cs.drop n))) else none
  | _ => none

def elemsOf : E → Option (List V)
  | .val (.slice xs) => some xs
  | .own _ xs => some xs
  | .bor _ xs _ => some xs
  | _ => none

def indexAddrStep (ti : TI) (x : E) (i : Int) : Option E :=
  match ti.k with
  | .array n esz _ => if 0 ≤ i ∧ i < (n : Int) then addrAdd x (i.toNat * esz) else none
  | .slice esz _ _ _ =>
    match x with
    | .val (.sref _ k id off len) => if k = esz ∧ 0 ≤ i ∧ i < (len : Int) then some (.val (.ptr id (off + i.toNat * k))) else none
    | x =>
    match elemsOf x with
    | some xs => if 0 ≤ i then
        match xs[i.toNat]? with
        | some v => if v.cells.length == esz then some (.val (.ep v.cells)) else none
        | none => none
      else none
    | none => none
  | _ => none

def indexStep (ti : TI) (x : V) (i : Int) : Option V :=
  match ti.k, x with
  | .array n esz eagg, .agg cs => if 0 ≤ i ∧ i < (n : Int) then partV esz eagg cs (i.toNat * esz) else none
  | .str, .str s => if 0 ≤ i then (s[i.toNat]?).map fun b => .int .u8 b.toNat else none
  | _, _ => none

/-- What is appended. -/
def appended (tk : Option TK) (x : E) : Option (List V) :=
  match tk with
  | some (.slice _ _ _ _) => elemsOf x
  | some .str => match x with | .val (.str s) => some (byteVs s) | _ => none
  | _ => none
/-- The slice that is appended to: what it holds, when its owner has given it up. -/
noncomputable def baseOf (esz : Nat) (fr : Fr) (st : St) (x : Operand) : Option (List V × Fr × St) :=
  match take fr st x with
  | some (.own k xs, fr, st) => if k == 0 || k == esz then some (xs, fr, st) else none
  | _ => none
def lenE : TK → E → Option V
  | .str, .val (.str s) => some (.int .i64 s.length)
  | .slice _ _ _ _, .val (.sref _ _ _ _ len) => some (.int .i64 len)
  | .slice _ _ _ _, e => match elemsOf e with
    | some xs => some (.int .i64 xs.length)
    | none => none
  | .array n _ _, _ => some (.int .i64 n)
  | _, _ => none

def minMax (max : Bool) : V → List V → Option V
  | v, [] => some v
  | .int k x, .int _ y :: r => minMax max (.int k (if max then (if y > x then y else x) else (if y < x then y else x))) r
  | _, _ => none

noncomputable def appendStep (g : G) (fr : Fr) (st : St) (argTypes : Array TypeId) (args : Array Operand) : Option Rs :=
  match argTypes[0]?, args[0]?, args[1]? with
  | some t, some s, some x =>
    match g.ty t with
    | some { k := .slice esz eb _ ez, .. } =>
      match appended ((argTypes[1]?).bind fun u => (g.ty u).map TI.k) (fr.op x) with
      | some ys =>
        match baseOf esz fr st s with
        | some (xs, fr, st) =>
          if (xs.length + ys.length) * eb ≤ 2 ^ 47 ∧ xs.length + ys.length ≤ 2 ^ 47 ∧ 0 < esz ∧ sizesOk esz ys = true ∧ sizesOk esz xs = true ∧ ez.length = esz then
            some (.ok (.own esz (xs ++ ys)) fr st)
          else none
        | none => none
      | none => none
    | _ => none
  | _, _, _ => none

noncomputable def builtinStep (g : G) (fr : Fr) (st : St) (b : Builtin) (argTypes : Array TypeId) (args : Array Operand) : Option Rs :=
  match b with
  | .append => appendStep g fr st argTypes args
  | .len =>
    match args[0]?, (argTypes[0]?).bind g.ty with
    | some x, some ti => okV fr st (lenE ti.k (fr.op x))
    | _, _ => none
  | .max => match vsOf (args.toList.map fr.op) with
    | some (v :: r) => okV fr st (minMax true v r)
    | _ => none
  | .min => match vsOf (args.toList.map fr.op) with
    | some (v :: r) => okV fr st (minMax false v r)
    | _ => none
  | _ => none

def buildCells (ti : TI) (parts : List (Nat × Option (List V))) : Option (List V) :=
  match ti.k with
  | .struct fs => fillV (fun i => (fs[i]?).map fun f => (f.1, f.2.1)) ti.zero parts
  | .array _ esz _ => fillV (fun i => some (i * esz, esz)) ti.zero parts
  | _ => none

def chunk (eagg : Bool) (esz : Nat) : Nat → List V → List V
  | 0, _ => []
  | n + 1, cs => elemV eagg (cs.take esz) :: chunk eagg esz n (cs.drop esz)

def buildSliceV (esz : Nat) (eagg : Bool) (ez : List V) (len : Nat) (parts : List (Nat × Option (List V))) : Option V :=
  if 0 < esz ∧ len * esz ≤ 2 ^ 24 ∧ ez.length = esz ∧ (eagg || esz == 1) = true then
    match fillV (fun i => some (i * esz, esz)) ((List.replicate len ez).flatten) parts with
    | some cs => if (cs.map V.strip1).all V.one then some (.osl esz (chunk eagg esz len (cs.map V.strip1))) else none
    | none => none
  else none

/-- An operation that is no call of a function. `ez`: the zero of a slice type's element. -/
noncomputable def stepOp (g : G) (fi : FI) (fr : Fr) (st : St) (o : Oper) : Option Rs :=
  match o.op with
  | .move x => some (.ok (fr.lend x) fr st)
  | .assign x => match take fr st x with
    | some (e, fr, st) => some (.ok (upE g o.type e) fr st)
    | none => none
  | .pick c a b => match (fr.op c).bool? with
    | some t => some (.ok (if t then fr.lend a else fr.lend b) fr st)
    | none => none
  | .alloc t => match g.ty t, o.dst with
    | some ti, some d =>
      if fi.locals.contains d then some (.ok (.lp d 0) { fr.map (E.noLp d) with lc := (d, ti.zero) :: fr.lc.filter (fun x => !(x.1 == d)) } st)
      else some (.ok (.val (.ptr st.objs.length 0)) fr { st with objs := st.objs ++ [ti.zero] })
    | _, _ => none
  | .box _ x => match boxCells (fr.op x), o.dst with
    | some cs, some d =>
      if fi.locals.contains d then some (.ok (.lp d 0) { fr.map (E.noLp d) with lc := (d, cs) :: fr.lc.filter (fun x => !(x.1 == d)) } st)
      else some (.ok (.val (.ptr st.objs.length 0)) fr { st with objs := st.objs ++ [cs] })
    | _, _ => none
  | .build t parts => match g.ty t with
    | some ti => okV fr st ((buildCells ti (parts.toList.map fun p => (p.1, (fr.op p.2).part?))).map V.agg)
    | none => none
  | .load t a => match g.ty t with
    | some ti => okE fr st (loadAt ti fr st (fr.op a))
    | none => none
  | .store t a x => match g.ty t with
    | some ti => match take fr st x with
      | some (e, fr, st) => match (upE g t e).cells? with
        | some cs => match storeAt ti.size fr st (fr.op a) cs with
          | some (fr, st) => some (.ok .any fr st)
          | none => none
        | none => none
      | none => none
    | none => none
  | .nilCheck x => match fr.op x with
    | .lp s off => some (.ok (.lp s off) fr st)
    | .val (.ptr id off) => some (.ok (.val (.ptr id off)) fr st)
    | .val (.ep cs) => some (.ok (.val (.ep cs)) fr st)
    | .val (.func f a b) => some (.ok (.val (.func f a b)) fr st)
    | _ => none
  | .binOp op t x y _ => match (fr.op x).v?, (fr.op y).v? with
    | some (.agg a), some (.agg b) => match g.eqs t with
      | some ks => okV fr st (binAgg ks op a b)
      | none => none
    | some a, some b => okV fr st (binV ((g.ty t).map TI.k) op a b)
    | _, _ => none
  | .unOp op _ x => match (fr.op x).v? with
    | some a => okV fr st (unV op a)
    | none => none
  | .convert s d x => match (fr.op x).v?, g.ty s, g.ty d with
    | some a, some _, some td => okE fr st (convV (g.u8 s) td.k a)
    | _, _, _ => none
  | .makeInterface t x => match (fr.op x).v? with
    | some a => if g.con t then some (.ok (.val (.iface t a)) fr st) else none
    | none => none
  | .makeFunc (.func f) first captured => match vsOf (first.toList.map fr.op), vsOf (captured.toList.map fr.op) with
    | some a, some b => some (.ok (.val (.func f a b)) fr st)
    | _, _ => none
  | .slice t x lo hi mx => match g.ty t with
    | some ti =>
      match (fr.op x).v?, boundOf fr lo, boundOf fr hi, boundOf fr mx with
      | some v, some l, some h, some m => okE fr st (sliceStep ti.k v l h m)
      | _, _, _, _ => none
    | none => none
  | .fieldAddr t x f => match g.ty t with
    | some { k := .struct fs, .. } => match fs[f]? with
      | some (off, size, _) => if size = 0 then none else okE fr st (addrAdd (fr.op x) off)
      | none => none
    | _ => none
  | .field t x f => match g.ty t, (fr.op x).v? with
    | some { k := .struct fs, .. }, some (.agg cs) => match fs[f]? with
      | some (off, size, agg) => okV fr st (partV size agg cs off)
      | none => none
    | _, _ => none
  | .indexAddr t x i => match g.ty t, (fr.op i).int? with
    | some ti, some n => okE fr st (indexAddrStep ti (fr.op x) n)
    | _, _ => none
  | .index t x i => match g.ty t, (fr.op x).v?, (fr.op i).int? with
    | some ti, some v, some n => okV fr st (indexStep ti v n)
    | _, _, _ => none
  | .extract x i => match (fr.op x) with
    | .val (.tuple vs) => okV fr st vs[i]?
    | _ => none
  | .panic x => match (fr.op x).v? with
    | some (.iface t v) => some (.pan (.iface t v) st)
    | _ => none
  | .buildSlice t len parts => match g.ty t with
    | some { k := .slice esz _ eagg ez, .. } => okV fr st (buildSliceV esz eagg ez len (parts.toList.map fun p => (p.1, (fr.op p.2).part?)))
    | _ => none
  | .makeSlice t l c => match g.ty t, (fr.op l).int?, (fr.op c).int? with
    | some { k := .slice esz eb eagg ez, .. }, some len, some cap =>
      if 0 ≤ len ∧ len ≤ cap ∧ cap * eb ≤ 2 ^ 47 ∧ cap ≤ 2 ^ 47 ∧ 0 < esz ∧ ez.length = esz ∧ (eagg || esz == 1) = true ∧ (ez.map V.strip1).all V.one = true then
        some (.ok (.own esz (List.replicate len.toNat (elemV eagg (ez.map V.strip1)))) fr st)
      else none
    | _, _, _ => none
  | .call { callee := .builtin b, args, argTypes } => builtinStep g fr st b argTypes args
  | _ => none

end Go.Ab
