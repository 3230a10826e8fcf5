/- The by-value interpreter: calls, regions, code, functions. -/
import Derived.Test.YtiiahehclbmodaaAbB
import Derived.Still
namespace Go.Ab
open Go
set_option linter.unusedVariables false
set_option linter.unusedSimpArgs false
set_option linter.unnecessarySimpa false

mutual
/-- No store object, no function in it. -/
def V.flat : V → Bool
  | .ptr _ _ => false
  | .sref _ _ _ _ _ => false
  | .func _ _ _ => false
  | .ep cs => flats cs
  | .slice xs => flats xs
  | .osl _ xs => flats xs
  | .iface _ v => v.flat
  | .agg cs => flats cs
  | .tuple vs => flats vs
  | _ => true
def flats : List V → Bool
  | [] => true
  | v :: r => v.flat && flats r
end

abbrev Calling := Nat → List V → St → Option (Out × St)

def retE (k : Option Nat) (v : V) : E :=
  match v, k with
  | .slice xs, some n => .own n xs
  | v, _ => .val v

/-- The whole part of a float; not of a signalling NaN. -/
def truncV (b : Nat) : Option Nat :=
  match FloatKind.f64.decode b with
  | .nan _ t => if FloatKind.f64.format.quiet t = t then some b else none
  | d => some (FloatKind.f64.encode (d.integral .zero))
def extV : Ext → List V → Option V
  | .floatBits, [.float .f64 b] => some (.int .u64 b)
  | .floatOf, [.int .u64 n] => some (.float .f64 n.toNat)
  | .trunc, [.float .f64 b] => (truncV b).map (.float .f64)
  | _, _ => none

noncomputable def callStep (g : G) (call : Calling) (f : Nat) (args : List V) (fr : Fr) (st : St) : Option Rs :=
  match g.ext f with
  | some x => match extV x args with
    | some v => some (.ok (.val v) fr st)
    | none => none
  | none =>
    match g.fn f with
    | none => none
    | some fi =>
      if fi.pure then
        match call f args (if flats args then ⟨[], 0⟩ else { st with wp := st.objs.length }) with
        | some (.ret v k, _) => if v.flat then some (.ok (retE k v) fr st) else none
        | _ => none
      else
        match call f args st with
        | some (.ret v k, st') => some (.ok (retE k v) (fr.map E.noMem) st')
        | some (.pan v, st') => some (.pan v st')
        | none => none

noncomputable def stepE (g : G) (fi : FI) (call : Calling) (fr : Fr) (st : St) (o : Oper) : Option Rs :=
  match o.op with
  | .call { callee := .value x, args, .. } =>
    match fr.op x, vsOf (args.toList.map fr.op) with
    | .val (.func f first cap), some vs => callStep g call f (first ++ vs ++ cap) fr st
    | _, _ => none
  | _ => stepOp g fi fr st o

/-- Is what the operation makes a slice whose elements are written? -/
def marked (fi : FI) (o : Oper) : Bool :=
  match o.op with
  | .move _ => false
  | .assign _ => false
  | _ => match o.dst with
    | some d => fi.marks.contains d
    | none => false
/-- The elements that a slice holds, one whose elements are written too. -/
noncomputable def elemsAt (eagg : Bool) (esz : Nat) (st : St) : E → Option (List V)
  | .val (.sref _ k id off len) =>
    match st.obj id with
    | some cs => if k = esz ∧ off + len * esz ≤ cs.length ∧ (eagg || esz == 1) = true ∧ (cs.map V.strip1).all V.one = true then some (chunk eagg esz len (((cs.drop off).take (len * esz)).map V.strip1)) else none
    | none => none
  | e => elemsOf e
noncomputable def newRef (fr : Fr) (st : St) (k len : Nat) (cs : List V) : Rs := .ok (.val (.sref false k st.objs.length 0 len)) fr { st with objs := st.objs ++ [cs] }
noncomputable def markAppend (g : G) (fr : Fr) (st : St) (argTypes : Array TypeId) (args : Array Operand) : Option Rs :=
  match argTypes[0]?, args[0]?, args[1]?, (argTypes[1]?).bind g.ty with
  | some t, some s, some x, some { k := .slice _ _ eagg _, .. } =>
    match g.ty t with
    | some { k := .slice esz eb _ ez, .. } =>
      match elemsAt eagg esz st (fr.op x) with
      | some ys =>
        if 0 < esz ∧ sizesOk esz ys = true ∧ ez.length = esz then
          match take fr st s with
          | some (.own k [], fr, st) =>
            if k == 0 && decide (ys.length * eb ≤ 2 ^ 47) && decide (ys.length ≤ 2 ^ 47) then
              some (if ys.isEmpty then .ok (.own 0 []) fr st else newRef fr st esz ys.length (ys.flatMap V.cells))
            else none
          | some (.val (.sref true k id off len), fr, st) =>
            match st.obj id with
            | some cs => if k = esz ∧ off + len * esz ≤ cs.length ∧ (len + ys.length) * eb ≤ 2 ^ 47 ∧ len + ys.length ≤ 2 ^ 47 ∧ (cs.map V.strip1).all V.one = true then
                some (if ys.isEmpty then .ok (.val (.sref true k id off len)) fr st else newRef fr st esz (len + ys.length) (((cs.drop off).take (len * esz)).map V.strip1 ++ ys.flatMap V.cells))
              else none
            | none => none
          | some (.val (.sref false k id off len), fr, st) =>
            match st.obj id with
            | some cs => if k = esz ∧ off = 0 ∧ 0 < len ∧ cs.length = len * esz ∧ (len + ys.length) * eb ≤ 2 ^ 47 ∧ len + ys.length ≤ 2 ^ 47 ∧ (cs.map V.strip1).all V.one = true then
                (st.set id []).map fun st => newRef (fr.map E.noMem) st esz (len + ys.length) (cs.map V.strip1 ++ ys.flatMap V.cells)
              else none
            | none => none
          | _ => none
        else none
      | none => none
    | _ => none
  | _, _, _, _ => none
noncomputable def markStep (g : G) (fr : Fr) (st : St) (o : Oper) : Option Rs :=
  match o.op with
  | .call { callee := .builtin .append, args, argTypes } => markAppend g fr st argTypes args
  | .buildSlice t len parts => match g.ty t with
    | some { k := .slice esz _ eagg ez, .. } => match buildSliceV esz eagg ez len (parts.toList.map fun p => (p.1, (fr.op p.2).part?)) with
      | some (.osl _ xs) => some (if xs.isEmpty then .ok (.own 0 []) fr st else newRef fr st esz xs.length (xs.flatMap V.cells))
      | _ => none
    | _ => none
  | .makeSlice t l c => match g.ty t, (fr.op l).int?, (fr.op c).int? with
    | some { k := .slice esz eb eagg ez, .. }, some len, some cap =>
      if 0 ≤ len ∧ len ≤ cap ∧ cap * eb ≤ 2 ^ 47 ∧ cap ≤ 2 ^ 47 ∧ 0 < esz ∧ ez.length = esz ∧ (eagg || esz == 1) = true ∧ (ez.map V.strip1).all V.one = true then
        some (newRef fr st esz len.toNat ((List.replicate len.toNat (elemV eagg (ez.map V.strip1))).flatMap V.cells))
      else none
    | _, _, _ => none
  | _ => none
noncomputable def stepM (g : G) (fi : FI) (call : Calling) (fr : Fr) (st : St) (o : Oper) : Option Rs :=
  if marked fi o then markStep g fr st o else stepE g fi call fr st o

/-- Is the operation wanted? -/
noncomputable def wantedE (ops : List Oper) (o : Oper) (fr : Fr) : Option Bool :=
  match o.guard with
  | none => some true
  | some (j, want) => match (ops[j]?).bind (·.dst) with
    | some d => match fr.get d with
      | .val (.bool b) => some (b == want)
      | .val (.tuple []) => some false
      | _ => none
    | none => none

inductive Rg where
  | ok (fr : Fr) (st : St)
  | pan (v : V) (st : St)

noncomputable def evalOps (g : G) (fi : FI) (call : Calling) (all : List Oper) : List Oper → Fr → St → Option Rg
  | [], fr, st => some (.ok fr st)
  | o :: os, fr, st =>
    match wantedE all o fr with
    | some true => match stepM g fi call fr st o with
      | some (.ok e fr st) => evalOps g fi call all os (fr.putO o.dst e) st
      | some (.pan v st) => some (.pan v st)
      | none => none
    | some false => evalOps g fi call all os (fr.putO o.dst (.val (.tuple []))) st
    | none => none

inductive X where
  | normal
  | exit (id : Nat)
  | ret
  | pan (v : V)

abbrev Res := Option (X × Fr × St)

def iterate (body : Fr → St → Res) : Nat → Fr → St → Res
  | 0, _, _ => none
  | n + 1, fr, st => match body fr st with
    | some (.normal, fr, st) => iterate body n fr st
    | r => r

/-- An operation that leaves the frame and the state as they are. -/
def quietOp (g : G) : Op → Bool
  | .pick _ _ _ | .build _ _ | .buildSlice _ _ _ | .load _ _ | .nilCheck _ | .binOp _ _ _ _ _ | .unOp _ _ _ | .convert _ _ _ | .makeInterface _ _ | .makeFunc _ _ _
  | .slice _ _ _ _ _ | .fieldAddr _ _ _ | .field _ _ _ | .indexAddr _ _ _ | .index _ _ _ | .extract _ _ | .makeSlice _ _ _ => true
  | .call { callee := .builtin .len, .. } | .call { callee := .builtin .max, .. } | .call { callee := .builtin .min, .. } => true
  | .call { callee := .builtin .append, args, .. } => match (args[0]? : Option Operand) with
    | some (.const _) => true
    | _ => false
  | .call { callee := .value (.func f), .. } => match g.ext f, g.fn f with
    | some _, _ => true
    | none, some fi => fi.pure
    | none, none => false
  | _ => false
def E.calm : E → E
  | .bor _ xs (.slot _) => .val (.slice xs)
  | e => e
/-- What is left of a frame between two regions. -/
noncomputable def Fr.clear (fr : Fr) : Fr := { fr with ps := mapR E.calm fr.ps, ts := [] }
noncomputable def Fr.calm (fr : Fr) : Fr := fr.map E.calm
def E.still : E → E
  | .own _ xs => .val (.slice xs)
  | .bor _ xs (.slot _) => .val (.slice xs)
  | e => e
/-- What a quiet operation yields. -/
noncomputable def stepQ (g : G) (fi : FI) (call : Calling) (fr : Fr) (st : St) (o : Oper) : Option E :=
  match o.op with
  | .move x => some (fr.op x).still
  | .assign x => some (fr.op x).still
  | op => if quietOp g op then
      match stepE g fi call fr st o with
      | some (.ok e _ _) => some e.calm
      | _ => none
    else none
/-- Does operation `j` always come behind operation `i`? -/
def depB (ops : Array Oper) : Nat → Nat → Nat → Bool
  | 0, _, _ => false
  | n + 1, j, i => match ops[j]? with
    | some o => o.after.toList.any fun e => Region.binds .any e && e.on == i || Region.binds .any e && depB ops n e.on i
    | none => false
/-- An operation that has its place in every order. -/
def pivotB (ops : Array Oper) (k : Nat) : Bool :=
  ((List.range k).all fun i => depB ops 4 k i) && (List.range' (k + 1) (ops.size - (k + 1))).all fun j => depB ops 4 j k
/-- Do all later operations come behind it? -/
def thenB (ops : Array Oper) (k : Nat) : Bool := (List.range' (k + 1) (ops.size - (k + 1))).all fun j => depB ops 4 j k
/-- Does an operation change no more than what its temporary holds? -/
def isQ (g : G) : Op → Bool
  | .move _ => true
  | .assign _ => true
  | op => quietOp g op
/-- An effect that leaves what is read as it was. -/
def mild (fi : FI) (o : Oper) : Bool :=
  match o.op with
  | .call { callee := .builtin .append, .. } => true
  | .alloc _ => match o.dst with
    | some d => !fi.locals.contains d
    | none => false
  | .box _ _ => match o.dst with
    | some d => !fi.locals.contains d
    | none => false
  | _ => false
def isAppend : Op → Bool
  | .call { callee := .builtin .append, .. } => true
  | _ => false
def semi (fi : FI) (o : Oper) : Bool :=
  mild fi o || match o.op with
  | .store _ _ _ => true
  | .panic _ => true
  | .call { callee := .value _, .. } => true
  | _ => false
def isQM (g : G) (fi : FI) (o : Oper) : Bool := !marked fi o && isQ g o.op
def mildM (fi : FI) (o : Oper) : Bool := !marked fi o && mild fi o
def isAppendM (fi : FI) (o : Oper) : Bool := !marked fi o && isAppend o.op
def semiM (fi : FI) (o : Oper) : Bool := marked fi o || semi fi o
def isStore : Op → Bool
  | .store _ _ _ => true
  | _ => false
def isLoad : Op → Bool
  | .load _ _ => true
  | _ => false
/-- Are two plain values the same? -/
def eqPlain : V → V → Bool
  | .bool a, .bool b => a == b
  | .int k a, .int k' b => decide (k = k') && a == b
  | .float k a, .float k' b => decide (k = k') && a == b
  | .str a, .str b => a == b
  | .ptr a b, .ptr c d => a == c && b == d
  | .nilp, .nilp => true
  | .nilf, .nilf => true
  | .nili, .nili => true
  | .slice [], .slice [] => true
  | _, _ => false
def eqPlains : List V → List V → Bool
  | [], [] => true
  | a :: r, b :: s => eqPlain a b && eqPlains r s
  | _, _ => false
/-- Does a store leave what is read as it was? -/
noncomputable def idleStore (g : G) (fr : Fr) (st : St) (o : Oper) : Bool :=
  match o.op with
  | .store t a x => match take fr st x with
    | some (e, fr, st) => match (upE g t e).cells? with
      | some cs => match placeOf fr st (fr.op a) with
        | some (.loc _ off old) => match splice old off cs with
          | some new => eqPlains (old.map V.strip1) (new.map V.strip1)
          | none => false
        | _ => false
      | none => false
    | none => false
  | _ => false
def ordB (ops : Array Oper) (j k : Nat) : Bool := j == k || if Nat.blt k j then depB ops 4 j k else depB ops 4 k j
/-- Is an operation in order with all that have an effect? -/
def strongB (g : G) (fi : FI) (ops : Array Oper) (k : Nat) : Bool :=
  (List.range ops.size).all fun j => match ops[j]? with
    | some o => isQM g fi o || ordB ops j k
    | none => true
def mildFor (g : G) (fi : FI) (ops : Array Oper) (k : Nat) : Bool :=
  (List.range ops.size).all fun j => match ops[j]? with
    | some o => isQM g fi o || ordB ops j k || (mildM fi o && (Nat.blt k j || isAppendM fi o)) || (isStore o.op && Nat.blt k j)
    | none => true
/-- A store that has its place beside an earlier load. -/
def tameB (ops : Array Oper) (k : Nat) (o : Oper) : Bool :=
  isStore o.op && !(List.range k).all fun i => match ops[i]? with
    | some p => !isLoad p.op || ordB ops k i
    | none => true
/-- May an operation stand on either side of an effect? -/
noncomputable def weakOk (g : G) (fi : FI) (ops : Array Oper) (k : Nat) (o : Oper) (fr : Fr) : Bool :=
  match o.op with
  | .load _ x => (match fr.op x with | .val (.ep _) => true | _ => false) || mildFor g fi ops k
  | .call { callee := .value x, args, .. } => match fr.op x, vsOf (args.toList.map fr.op) with
    | .val (.func _ first cap), some vs => flats (first ++ vs ++ cap)
    | _, _ => false
  | _ => true
def looks (ops : Array Oper) (t : Nat) (o : Oper) : Bool := (o.looksAt ops).contains t
/-- Is `t` the slice that an operation appends to, and nothing else? -/
def isBase (ops : Array Oper) (t : Nat) (o : Oper) : Bool :=
  match o.op with
  | .call { callee := .builtin .append, args, .. } => match (args[0]? : Option Operand) with
    | some (.tmp b) => b == t
    | _ => false
  | _ => false
def isMove (u : Nat) : Op → Bool
  | .move (.tmp x) => x == u
  | _ => false
/-- May a move lend: the one who reads it appends to it, what it is lent by is written behind that, and nobody else is lent it? -/
def borOk (ops : Array Oper) (i u t : Nat) : Bool :=
  (List.range ops.size).all fun r => match ops[r]? with
    | none => true
    | some o =>
      (!(looks ops t o) || (isBase ops t o && (List.range ops.size).all fun w => match ops[w]? with
        | some p => !(p.dst == some u) || depB ops 4 w r
        | none => true)) &&
      (r == i || !(looks ops u o) || (isMove u o.op && match o.dst with
        | some b => (List.range ops.size).all fun j => match ops[j]? with
          | some p => !(isBase ops b p)
          | none => true
        | none => true))
def handOk (ops : Array Oper) (i q : Nat) : Bool :=
  (List.range ops.size).all fun r => match ops[r]? with
    | none => true
    | some o => r == i || !(looks ops q o)
/-- What temporaries a quiet operation of a region turns whose order is drawn. -/
noncomputable def stepW (g : G) (fi : FI) (call : Calling) (ops : Array Oper) (k : Nat) (fr : Fr) (st : St) (o : Oper) : Option (List (Nat × E)) :=
  match o.op, o.dst with
  | .move (.tmp u), some t => match fr.get u with
    | .own n xs => if borOk ops k u t then some [(t, .bor n xs (.slot u))] else some [(t, .val (.slice xs))]
    | e => if strongB g fi ops k then some [(t, e.still)] else some [(t, e.weak)]
  | .assign (.tmp q), some t => match fr.get q with
    | .own n xs => if handOk ops k q && !(q == t) then some [(q, .val (.slice xs)), (t, upE g o.type (.own n xs))] else some [(t, .val (.slice xs))]
    | e => if strongB g fi ops k then some [(t, e.still)] else some [(t, e.weak)]
  | _, d => match stepQ g fi call fr st o with
    | some e => if strongB g fi ops k then some (d.toList.map fun s => (s, e)) else if weakOk g fi ops k o fr then some (d.toList.map fun s => (s, e.weak)) else none
    | none => none
noncomputable def Fr.puts (fr : Fr) : List (Nat × E) → Fr
  | [] => fr
  | (s, e) :: r => (fr.put s e).puts r
noncomputable def evalDraw (g : G) (fi : FI) (call : Calling) (ops : Array Oper) : List Oper → Nat → Fr → St → Option Rg
  | [], _, fr, st => some (.ok fr st)
  | o :: os, k, fr, st =>
    match wantedE ops.toList o fr with
    | some true =>
      if isQM g fi o then
        match stepW g fi call ops k fr st o with
        | some y => evalDraw g fi call ops os (k + 1) (fr.puts y) st
        | none => none
      else if (pivotB ops k || semiM fi o) && strongB g fi ops k && (!tameB ops k o || idleStore g fr st o) then
        match stepM g fi call fr st o with
        | some (.ok e fr st) => evalDraw g fi call ops os (k + 1) (if semiM fi o then fr.putO o.dst e else (fr.putO o.dst e).calm) st
        | some (.pan v st) => if thenB ops k then some (.pan v st) else none
        | none => none
      else none
    | some false => evalDraw g fi call ops os (k + 1) (fr.putO o.dst (.val (.tuple []))) st
    | none => none

noncomputable def evalCode (g : G) (fi : FI) (call : Calling) (n : Nat) : Code → Fr → St → Res
  | .skip, fr, st => some (.normal, fr, st)
  | .region _ ops draw, fr, st =>
    if draw then
      if Region.lexB .any ops then
        match evalDraw g fi call ops ops.toList 0 fr.clear st with
        | some (.ok fr st) => some (.normal, fr, st)
        | some (.pan v st) => some (.pan v, fr, st)
        | none => none
      else none
    else
    match evalOps g fi call ops.toList ops.toList fr.clear st with
    | some (.ok fr st) => some (.normal, fr, st)
    | some (.pan v st) => some (.pan v, fr, st)
    | none => none
  | .seq a b, fr, st => match evalCode g fi call n a fr st with
    | some (.normal, fr, st) => evalCode g fi call n b fr st
    | r => r
  | .cond c a b, fr, st => match (fr.op c).bool? with
    | some true => evalCode g fi call n a fr st
    | some false => evalCode g fi call n b fr st
    | none => none
  | .block id body, fr, st => match evalCode g fi call n body fr st with
    | some (.exit i, fr, st) => if i == id then some (.normal, fr, st) else some (.exit i, fr, st)
    | r => r
  | .loop body, fr, st => iterate (evalCode g fi call n body) n fr st
  | .exit id, fr, st => some (.exit id, fr, st)
  | .ret, fr, st => some (.ret, fr, st)
  | _, _, _ => none

noncomputable def resultE (g : G) (fr : Fr) (st : St) : ResultVar → Option E
  | .tmp t => some (fr.get t)
  | .cell a t => match g.ty t with
    | some ti => loadAt ti fr st (fr.get a)
    | none => none
noncomputable def resultsOut (g : G) (fr : Fr) (st : St) (l : List ResultVar) : Option Out :=
  match l with
  | [r] => match resultE g fr st r with
    | some (.own k xs) => some (.ret (.slice xs) (some k))
    | some e => match e.v? with
      | some v => some (.ret v none)
      | none => none
    | none => none
  | l => match l.mapM (resultE g fr st) with
    | some es => match vsOf es with
      | some vs => some (.ret (.tuple vs) none)
      | none => none
    | none => none

def startFr (fi : FI) (args : List V) : Fr :=
  { ps := fi.pers.map fun s => (s, match args[s]? with | some v => .val v | none => .any), ts := [], lc := [] }

noncomputable def evalBody (g : G) (call : Calling) (n : Nat) (f : Nat) (args : List V) (st : St) : Option (Out × St) :=
  match g.fn f with
  | none => none
  | some fi =>
    match evalCode g fi call n fi.body (startFr fi args) st with
    | some (.normal, fr, st) => (resultsOut g fr st fi.results).map fun o => (o, st)
    | some (.ret, fr, st) => (resultsOut g fr st fi.results).map fun o => (o, st)
    | some (.pan v, _, st) => some (.pan v, st)
    | _ => none
/-- The function that catches what another one panics with. -/
def runFn (call : Calling) (errno : Nat) (args : List V) (st : St) : Option (Out × St) :=
  match args with
  | [.nilf] => some (.ret (.int .i64 0) none, st)
  | [.func h first cap] => match call h (first ++ cap) st with
    | some (.ret _ _, st) => some (.ret (.int .i64 0) none, st)
    | some (.pan (.iface t (.int .i64 e)), st) => if t == errno then some (.ret (.int .i64 e) none, st) else none
    | _ => none
  | _ => none

noncomputable def evalFn (g : G) : Nat → Calling
  | 0, _, _, _ => none
  | n + 1, f, args, st =>
    match g.run with
    | some (r, errno) => if f == r then runFn (evalFn g n) errno args st else evalBody g (evalFn g n) n f args st
    | none => evalBody g (evalFn g n) n f args st

end Go.Ab
