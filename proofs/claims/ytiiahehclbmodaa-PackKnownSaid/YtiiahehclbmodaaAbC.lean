/- The by-value interpreter: calls, regions, code, functions. -/
import Derived.Test.YtiiahehclbmodaaAbB
import Derived.Still
namespace Go.Ab
open Go
set_option linter.unusedVariables false
set_option linter.unusedSimpArgs false
set_option linter.unnecessarySimpa false

mutual
/-- No store object, no function in it. -/
def V.flat : V → Bool
  | .ptr _ _ => false
  | .func _ _ _ => false
  | .ep cs => flats cs
  | .slice xs => flats xs
  | .osl _ xs => flats xs
  | .iface _ v => v.flat
  | .agg cs => flats cs
  | .tuple vs => flats vs
  | _ => true
def flats : List V → Bool
  | [] => true
  | v :: r => v.flat && flats r
end

abbrev Calling := Nat → List V → St → Option (Out × St)

def retE (k : Option Nat) (v : V) : E :=
  match v, k with
  | .slice xs, some n => .own n xs
  | v, _ => .val v

def callStep (g : G) (call : Calling) (f : Nat) (args : List V) (fr : Fr) (st : St) : Option Rs :=
  match g.ext f with
  | some .floatBits => match args with
    | [.float .f64 b] => some (.ok (.val (.int .u64 b)) fr st)
    | _ => none
  | some .floatOf => match args with
    | [.int .u64 n] => some (.ok (.val (.float .f64 n.toNat)) fr st)
    | _ => none
  | none =>
    match g.fn f with
    | none => none
    | some fi =>
      if fi.pure then
        match call f args { st with wp := st.objs.length } with
        | some (.ret v k, _) => if v.flat then some (.ok (retE k v) fr st) else none
        | _ => none
      else
        match call f args st with
        | some (.ret v k, st') => some (.ok (retE k v) (fr.map E.noMem) st')
        | some (.pan v, st') => some (.pan v st')
        | none => none

def stepE (g : G) (fi : FI) (call : Calling) (fr : Fr) (st : St) (o : Oper) : Option Rs :=
  match o.op with
  | .call { callee := .value x, args, .. } =>
    match fr.op x, vsOf (args.toList.map fr.op) with
    | .val (.func f first cap), some vs => callStep g call f (first ++ vs ++ cap) fr st
    | _, _ => none
  | _ => stepOp g fi fr st o

/-- Is the operation wanted? -/
def wantedE (ops : List Oper) (o : Oper) (fr : Fr) : Option Bool :=
  match o.guard with
  | none => some true
  | some (j, want) => match (ops[j]?).bind (·.dst) with
    | some d => match fr.get d with
      | .val (.bool b) => some (b == want)
      | _ => none
    | none => none

inductive Rg where
  | ok (fr : Fr) (st : St)
  | pan (v : V) (st : St)

def evalOps (g : G) (fi : FI) (call : Calling) (all : List Oper) : List Oper → Fr → St → Option Rg
  | [], fr, st => some (.ok fr st)
  | o :: os, fr, st =>
    match wantedE all o fr with
    | some true => match stepE g fi call fr st o with
      | some (.ok e fr st) => evalOps g fi call all os (fr.putO o.dst e) st
      | some (.pan v st) => some (.pan v st)
      | none => none
    | some false => evalOps g fi call all os (fr.putO o.dst .any) st
    | none => none

inductive X where
  | normal
  | exit (id : Nat)
  | ret
  | pan (v : V)

abbrev Res := Option (X × Fr × St)

def iterate (body : Fr → St → Res) : Nat → Fr → St → Res
  | 0, _, _ => none
  | n + 1, fr, st => match body fr st with
    | some (.normal, fr, st) => iterate body n fr st
    | r => r

/-- An operation that leaves the frame and the state as they are. -/
def quietOp (g : G) : Op → Bool
  | .pick _ _ _ | .build _ _ | .buildSlice _ _ _ | .load _ _ | .nilCheck _ | .binOp _ _ _ _ _ | .unOp _ _ _ | .convert _ _ _ | .makeInterface _ _ | .makeFunc _ _ _
  | .slice _ _ _ _ _ | .fieldAddr _ _ _ | .field _ _ _ | .indexAddr _ _ _ | .index _ _ _ | .extract _ _ | .makeSlice _ _ _ => true
  | .call { callee := .builtin .len, .. } | .call { callee := .builtin .max, .. } | .call { callee := .builtin .min, .. } => true
  | .call { callee := .builtin .append, args, .. } => match (args[0]? : Option Operand) with
    | some (.const _) => true
    | _ => false
  | .call { callee := .value (.func f), .. } => match g.ext f, g.fn f with
    | some _, _ => true
    | none, some fi => fi.pure
    | none, none => false
  | _ => false
def E.calm : E → E
  | .bor _ xs _ => .val (.slice xs)
  | e => e
/-- What is left of a frame between two regions. -/
def Fr.clear (fr : Fr) : Fr := { fr with ps := fr.ps.map (fun x => (x.1, x.2.calm)), ts := [] }
def E.still : E → E
  | .own _ xs => .val (.slice xs)
  | .bor _ xs _ => .val (.slice xs)
  | e => e
/-- What a quiet operation yields. -/
def stepQ (g : G) (fi : FI) (call : Calling) (fr : Fr) (st : St) (o : Oper) : Option E :=
  match o.op with
  | .move x => some (fr.op x).still
  | .assign x => some (fr.op x).still
  | op => if quietOp g op then
      match stepE g fi call fr st o with
      | some (.ok e _ _) => some e.calm
      | _ => none
    else none
def evalDraw (g : G) (fi : FI) (call : Calling) (all : List Oper) (st : St) : List Oper → Fr → Option Fr
  | [], fr => some fr
  | o :: os, fr =>
    match wantedE all o fr with
    | some true => match stepQ g fi call fr st o with
      | some e => evalDraw g fi call all st os (fr.putO o.dst e)
      | none => none
    | some false => evalDraw g fi call all st os (fr.putO o.dst .any)
    | none => none

def evalCode (g : G) (fi : FI) (call : Calling) (n : Nat) : Code → Fr → St → Res
  | .skip, fr, st => some (.normal, fr, st)
  | .region _ ops draw, fr, st =>
    if draw then
      if Region.lexB .any ops then
        match evalDraw g fi call ops.toList st ops.toList fr.clear with
        | some fr => some (.normal, fr, st)
        | none => none
      else none
    else
    match evalOps g fi call ops.toList ops.toList fr.clear st with
    | some (.ok fr st) => some (.normal, fr, st)
    | some (.pan v st) => some (.pan v, fr, st)
    | none => none
  | .seq a b, fr, st => match evalCode g fi call n a fr st with
    | some (.normal, fr, st) => evalCode g fi call n b fr st
    | r => r
  | .cond c a b, fr, st => match (fr.op c).bool? with
    | some true => evalCode g fi call n a fr st
    | some false => evalCode g fi call n b fr st
    | none => none
  | .block id body, fr, st => match evalCode g fi call n body fr st with
    | some (.exit i, fr, st) => if i == id then some (.normal, fr, st) else some (.exit i, fr, st)
    | r => r
  | .loop body, fr, st => iterate (evalCode g fi call n body) n fr st
  | .exit id, fr, st => some (.exit id, fr, st)
  | .ret, fr, st => some (.ret, fr, st)
  | _, _, _ => none

def resultE (g : G) (fr : Fr) (st : St) : ResultVar → Option E
  | .tmp t => some (fr.get t)
  | .cell a t => match g.ty t with
    | some ti => loadAt ti fr st (fr.get a)
    | none => none
def resultsOut (g : G) (fr : Fr) (st : St) (l : List ResultVar) : Option Out :=
  match l with
  | [r] => match resultE g fr st r with
    | some (.own k xs) => some (.ret (.slice xs) (some k))
    | some e => match e.v? with
      | some v => some (.ret v none)
      | none => none
    | none => none
  | l => match l.mapM (resultE g fr st) with
    | some es => match vsOf es with
      | some vs => some (.ret (.tuple vs) none)
      | none => none
    | none => none

def startFr (fi : FI) (args : List V) : Fr :=
  { ps := fi.pers.map fun s => (s, match args[s]? with | some v => .val v | none => .any), ts := [], lc := [] }

def evalBody (g : G) (call : Calling) (n : Nat) (f : Nat) (args : List V) (st : St) : Option (Out × St) :=
  match g.fn f with
  | none => none
  | some fi =>
    match evalCode g fi call n fi.body (startFr fi args) st with
    | some (.normal, fr, st) => (resultsOut g fr st fi.results).map fun o => (o, st)
    | some (.ret, fr, st) => (resultsOut g fr st fi.results).map fun o => (o, st)
    | some (.pan v, _, st) => some (.pan v, st)
    | _ => none
/-- The function that catches what another one panics with. -/
def runFn (call : Calling) (errno : Nat) (args : List V) (st : St) : Option (Out × St) :=
  match args with
  | [.nilf] => some (.ret (.int .i64 0) none, st)
  | [.func h first cap] => match call h (first ++ cap) st with
    | some (.ret _ _, st) => some (.ret (.int .i64 0) none, st)
    | some (.pan (.iface t (.int .i64 e)), st) => if t == errno then some (.ret (.int .i64 e) none, st) else none
    | _ => none
  | _ => none

def evalFn (g : G) : Nat → Calling
  | 0, _, _, _ => none
  | n + 1, f, args, st =>
    match g.run with
    | some (r, errno) => if f == r then runFn (evalFn g n) errno args st else evalBody g (evalFn g n) n f args st
    | none => evalBody g (evalFn g n) n f args st

end Go.Ab
