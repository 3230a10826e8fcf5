/- The table of types, out of a program. -/
import Derived.Test.YtiiahehclbmodaaAbC
namespace Go.Ab
open Go
set_option linter.unusedVariables false
set_option linter.unusedSimpArgs false
set_option linter.unnecessarySimpa false

/-- Of each cell of a type: how many cells an element has, if the cell is a slice. -/
def cellSz (P : Tables) (und : Nat → Option TypeDesc) : Nat → Nat → List Nat
  | 0, _ => []
  | n + 1, t => match und t with
    | some (.struct fs) => fs.toList.flatMap fun f => cellSz P und n f.type
    | some (.array k e) => (List.replicate k (cellSz P und n e)).flatten
    | some (.slice e) => [((P.types[e]?).map (·.size)).getD 0]
    | _ => [0]
def upCell (x : V × Nat) : V := x.1
def undOf (P : Tables) (t : Nat) : Option TypeDesc :=
  match P.types[t]? with
  | some i => match i.desc with
    | .named _ u => (P.types[u]?).map (·.desc)
    | d => some d
  | none => none
def isAggD : Option TypeDesc → Bool
  | some (.struct _) => true
  | some (.array _ _) => true
  | _ => false
def zeroCs (P : Tables) (t : Nat) : Option (List V) :=
  match P.types[t]? with
  | some i => match i.zero with
    | some z =>
      let ks := cellSz P (undOf P) 12 t
      if z.cells.toList.length == ks.length then some (((constVs z.cells.toList).zip ks).map upCell) else none
    | none => none
  | none => none
def fieldsOf (P : Tables) : List Field → Option (List (Nat × Nat × Bool))
  | [] => some []
  | f :: r => match P.types[f.type]?, undOf P f.type, fieldsOf P r with
    | some i, some d, some l => some ((f.offset, i.size, isAggD (some d)) :: l)
    | _, _, _ => none
def mkTK (P : Tables) : Option TypeDesc → TK
  | some .bool => .bool
  | some (.int k) => .int k
  | some (.float k) => .float k
  | some .string => .str
  | some (.pointer _) => .pointer
  | some (.slice e) => match P.types[e]?, undOf P e, zeroCs P e with
    | some i, some d, some z => .slice i.size i.bytes (isAggD (some d)) z
    | _, _, _ => .other
  | some (.array n e) => match P.types[e]?, undOf P e with
    | some i, some d => .array n i.size (isAggD (some d))
    | _, _ => .other
  | some (.struct fs) => match fieldsOf P fs.toList with
    | some l => .struct l
    | none => .other
  | some (.func _ _ _) => .func
  | some (.interface _) => .iface
  | _ => .other
def mkTI (P : Tables) (t : Nat) : Option TI :=
  match P.types[t]?, undOf P t, zeroCs P t with
  | some i, some d, some z => some { k := mkTK P (some d), size := i.size, agg := isAggD (some d), zero := z }
  | _, _, _ => none

def plainTK : Option TypeDesc → Option TK
  | some .bool => some .bool
  | some (.int k) => some (.int k)
  | some (.float k) => some (.float k)
  | some .string => some .str
  | _ => none
def plainFields (P : Program) : Nat → List Field → Option (List TK)
  | _, [] => some []
  | j, f :: r =>
    if f.name != "_" && f.offset == j then
      match plainTK (undOf P.toTables f.type), plainFields P (j + 1) r with
      | some k, some l => some (k :: l)
      | _, _ => none
    else none
/-- A struct of plain fields: their kinds. -/
def mkEq (P : Program) (t : Nat) : Option (List TK) :=
  match undOf P.toTables t with
  | some (.struct fs) => if !P.stoodInHeld t && !P.eqGuardType P.depth t then plainFields P 0 fs.toList else none
  | _ => none
def mkU8 (P : Tables) (t : Nat) : Bool :=
  match undOf P t with
  | some (.slice e) => match undOf P e with
    | some (.int .u8) => true
    | _ => false
  | _ => false

/-- The temporaries that more than one region names. -/
def opTmps (o : Oper) : List Nat := o.dst.toList ++ o.op.operands.toList.filterMap fun | .tmp t => some t | _ => none
def regTmps : Code → List (List Nat)
  | .region _ ops _ => [(ops.toList.flatMap opTmps).eraseDups]
  | .seq a b => regTmps a ++ regTmps b
  | .cond _ a b => regTmps a ++ regTmps b
  | .block _ b => regTmps b
  | .loop b => regTmps b
  | _ => []
def persOf (f : Func) (c : Code) : List Nat :=
  let rs := regTmps c
  let res := f.results.toList.filterMap fun | .tmp t => some t | .cell a _ => some a
  let n := f.params.size + f.nfree
  (List.range f.ntmps).filter fun t => res.contains t || (decide (t < n) && rs.any (·.contains t)) || decide (2 ≤ (rs.filter (·.contains t)).length)
/-- The variables in memory whose address goes nowhere. -/
def ops (c : Code) : List Oper :=
  match c with
  | .region _ o _ => o.toList
  | .seq a b => ops a ++ ops b
  | .cond _ a b => ops a ++ ops b
  | .block _ b => ops b
  | .loop b => ops b
  | _ => []
def isTmp (t : Nat) : Operand → Bool | .tmp u => u == t | _ => false
/-- uses of an address that keep it here; what is made of it -/
def grow (os : List Oper) : Nat → List Nat → List Nat
  | 0, l => l
  | n + 1, l => grow os n ((os.foldl (fun l o => match o.dst, o.op with
      | some d, .nilCheck (.tmp x) | some d, .fieldAddr _ (.tmp x) _ | some d, .indexAddr _ (.tmp x) _ | some d, .move (.tmp x) => if l.contains x && !l.contains d then d :: l else l
      | _, _ => l) l))
def leaks (l : List Nat) (o : Oper) : Bool :=
  match o.op with
  | .nilCheck _ | .fieldAddr _ _ _ | .load _ _ | .move _ => false
  | .indexAddr _ _ i => match i with | .tmp x => l.contains x | _ => false
  | .store _ _ v => match v with | .tmp x => l.contains x | _ => false
  | op => op.operands.toList.any fun | .tmp x => l.contains x | _ => false
def localsOf (f : Func) (c : Code) : List Nat :=
  let os := ops c
  let cells := f.results.toList.filterMap fun | .tmp _ => none | .cell a _ => some a
  os.filterMap fun o => match o.dst, o.op with
    | some d, .alloc _ | some d, .box _ _ =>
      let l := grow os 4 [d]
      if os.any (leaks l) || f.results.toList.any (fun | .tmp t => l.contains t | _ => false) then none else (if cells.contains d then some d else some d)
    | _, _ => none
/-- A type whose values hold no address, no function. -/
def flatT (P : Tables) : Nat → Nat → Bool
  | 0, _ => false
  | n + 1, t => match undOf P t with
    | some .bool => true
    | some (.int _) => true
    | some (.float _) => true
    | some .string => true
    | some (.slice e) => flatT P n e
    | some (.array _ e) => flatT P n e
    | some (.struct fs) => fs.toList.all fun f => flatT P n f.type
    | _ => false
/-- A function of plain values. -/
def mkPure (P : Tables) (f : Func) : Bool :=
  f.nfree == 0 && f.params.toList.all (flatT P 8) && f.resultTypes.toList.all (flatT P 8) && !f.resultTypes.toList.isEmpty && f.body.isSome
def mkFI (f : Func) (pure : Bool) (marks : List Nat) (tab : Option (List Nat × List Nat)) : Option FI :=
  match f.body with
  | some c => match tab with
    | some (pers, locals) => some { body := c, ntmps := f.ntmps, results := f.results.toList, pers, locals, pure, marks }
    | none => some { body := c, ntmps := f.ntmps, results := f.results.toList, pers := persOf f c, locals := localsOf f c, pure, marks }
  | none => none
/-- What the tables of all functions are, in a row: number, how many, which, how many, which. -/
def tabRow (fs : Array Func) : List Nat :=
  (List.range fs.size).flatMap fun i => match fs[i]? with
    | some f => match f.body with
      | some c => let p := persOf f c; let l := localsOf f c; i :: p.length :: p ++ l.length :: l
      | none => []
    | none => []
end Go.Ab
