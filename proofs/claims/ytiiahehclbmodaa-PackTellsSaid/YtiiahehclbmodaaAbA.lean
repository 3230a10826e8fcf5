/- The by-value interpreter: values, frames, state, and what each operation does. Nothing here is about one program. -/
import Derived.WalkKit
import Derived.KernelRfl
namespace Go.Ab
open Go
set_option linter.unusedVariables false
set_option linter.unusedSimpArgs false
set_option linter.unnecessarySimpa false

/-- Values without addresses. -/
inductive V where
  | any
  | bool (b : Bool)
  | int (k : IntKind) (n : Int)
  | float (k : FloatKind) (b : Nat)
  | str (s : List UInt8)
  | nilp
  | ptr (id off : Nat)
  | ep (cs : List V)
  | slice (xs : List V)
  | osl (k : Nat) (xs : List V)
  | sref (f : Bool) (k id off len : Nat)
  | func (f : Nat) (first cap : List V)
  | nilf
  | iface (t : Nat) (v : V)
  | nili
  | agg (cs : List V)
  | tuple (vs : List V)
  deriving Inhabited

def V.strip1 : V → V
  | .osl _ xs => .slice xs
  | v => v
def V.strip : V → V
  | .osl _ xs => .slice xs
  | .agg cs => .agg (cs.map V.strip1)
  | v => v
def V.one : V → Bool
  | .any => false
  | .agg _ => false
  | .tuple _ => false
  | _ => true
def V.cells : V → List V
  | .agg cs => cs
  | v => [v]

/-- A place that may own the spare room of a slice. -/
inductive Pl where
  | slot (s : Nat)
  | mem (id off : Nat)
  | loc (s off : Nat)
  deriving DecidableEq

/-- What a temporary holds. -/
inductive E where
  | any
  | val (v : V)
  | lp (s off : Nat)
  | own (k : Nat) (xs : List V)
  | bor (k : Nat) (xs : List V) (p : Pl)
  deriving Inhabited

def E.v? : E → Option V
  | .val v => some v.strip
  | .own _ xs => some (.slice xs)
  | .bor _ xs _ => some (.slice xs)
  | _ => none

/-- A type, as far as the interpreter asks. -/
inductive TK where
  | bool | int (k : IntKind) | float (k : FloatKind) | str | pointer
  | slice (esz ebytes : Nat) (eagg : Bool) (ez : List V)
  | array (n esz : Nat) (eagg : Bool)
  | struct (fs : List (Nat × Nat × Bool))
  | func | iface | other
  deriving Inhabited
structure TI where
  k : TK
  size : Nat
  agg : Bool
  zero : List V
  deriving Inhabited

inductive Ext where
  | floatBits | floatOf | trunc
  deriving DecidableEq

structure FI where
  body : Code
  ntmps : Nat
  results : List ResultVar
  pers : List Nat
  locals : List Nat
  pure : Bool
  marks : List Nat

structure G where
  ty : Nat → Option TI
  fn : Nat → Option FI
  ext : Nat → Option Ext
  run : Option (Nat × Nat)
  eqs : Nat → Option (List TK)
  u8 : Nat → Bool
  con : Nat → Bool

structure Fr where
  ps : List (Nat × E)
  ts : List (Nat × E)
  lc : List (Nat × List V)
structure St where
  objs : List (List V)
  wp : Nat

inductive Out where
  | ret (v : V) (k : Option Nat)
  | pan (v : V)

def lk {α : Type} : List (Nat × α) → Nat → Option α
  | [], _ => none
  | (k, e) :: r, n => if k == n then some e else lk r n
def lset {α : Type} : List (Nat × α) → Nat → α → List (Nat × α)
  | [], _, _ => []
  | (k, e) :: r, n, x => if k == n then (k, x) :: r else (k, e) :: lset r n x

/-- The same, for the kernel: by the recursor itself. -/
noncomputable def lkR {α : Type} (l : List (Nat × α)) (n : Nat) : Option α := List.rec (motive := fun _ => Option α) none (fun x _ ih => cond (Nat.beq x.1 n) (some x.2) ih) l
noncomputable def lsetR {α : Type} (l : List (Nat × α)) (n : Nat) (e : α) : List (Nat × α) := List.rec (motive := fun _ => List (Nat × α)) [] (fun x r ih => cond (Nat.beq x.1 n) ((n, e) :: r) (x :: ih)) l
noncomputable def mapR (f : E → E) (l : List (Nat × E)) : List (Nat × E) := List.rec (motive := fun _ => List (Nat × E)) [] (fun x _ ih => (x.1, f x.2) :: ih) l
theorem cond_beq {α : Type} (a b : Nat) (x y : α) : cond (Nat.beq a b) x y = if a == b then x else y := by
  by_cases h : a = b
  · subst h; simp
  · have h1 : Nat.beq a b = false := by
      cases h2 : Nat.beq a b with
      | false => rfl
      | true => exact absurd (Nat.eq_of_beq_eq_true h2) h
    simp [h, h1]
theorem cond_blt {α : Type} (a b : Nat) (x y : α) : cond (Nat.blt a b) x y = if Nat.blt a b then x else y := by cases Nat.blt a b <;> rfl
theorem lkR_eq {α : Type} (l : List (Nat × α)) (n : Nat) : lkR l n = lk l n := by
  induction l with
  | nil => rfl
  | cons x r ih =>
    obtain ⟨k, e⟩ := x
    show cond (Nat.beq k n) (some e) (lkR r n) = _
    rw [ih, cond_beq, lk]
theorem lsetR_eq {α : Type} (l : List (Nat × α)) (n : Nat) (e : α) : lsetR l n e = lset l n e := by
  induction l with
  | nil => rfl
  | cons x r ih =>
    obtain ⟨k, f⟩ := x
    show cond (Nat.beq k n) ((n, e) :: r) ((k, f) :: lsetR r n e) = _
    rw [ih, cond_beq, lset]
    split
    · rename_i h; rw [beq_iff_eq] at h; rw [h]
    · rfl
theorem mapR_eq (f : E → E) (l : List (Nat × E)) : mapR f l = l.map (fun x => (x.1, f x.2)) := by
  induction l with
  | nil => rfl
  | cons x r ih => show (x.1, f x.2) :: mapR f r = _; rw [ih]; rfl
noncomputable def Fr.get (fr : Fr) (s : Nat) : E :=
  match lkR fr.ps s with
  | some e => e
  | none => (lkR fr.ts s).getD .any
theorem Fr.get_def (fr : Fr) (s : Nat) : fr.get s = match lk fr.ps s with
  | some e => e
  | none => (lk fr.ts s).getD .any := by unfold Fr.get; rw [lkR_eq, lkR_eq]

def E.inval (p : Pl) : E → E
  | .bor k xs q => if q = p then .val (.slice xs) else .bor k xs q
  | e => e
def E.noMem : E → E
  | .bor _ xs (.mem _ _) => .val (.slice xs)
  | e => e
def E.noLoc : E → E
  | .bor _ xs (.loc _ _) => .val (.slice xs)
  | e => e
def E.noLp (s : Nat) : E → E
  | .lp t o => if t == s then .any else .lp t o
  | .bor k xs (.loc t o) => if t == s then .val (.slice xs) else .bor k xs (.loc t o)
  | e => e
noncomputable def Fr.map (fr : Fr) (f : E → E) : Fr :=
  { fr with ps := mapR f fr.ps, ts := mapR f fr.ts }
theorem Fr.map_def (fr : Fr) (f : E → E) : fr.map f = { fr with ps := fr.ps.map (fun x => (x.1, f x.2)), ts := fr.ts.map (fun x => (x.1, f x.2)) } := by
  unfold Fr.map; rw [mapR_eq, mapR_eq]
/-- Into a row whose keys fall. -/
def ins {α : Type} : List (Nat × α) → Nat → α → List (Nat × α)
  | [], n, x => [(n, x)]
  | (k, e) :: r, n, x => if k == n then (n, x) :: r else if Nat.blt n k then (k, e) :: ins r n x else (n, x) :: (k, e) :: r
noncomputable def insR {α : Type} (l : List (Nat × α)) (n : Nat) (e : α) : List (Nat × α) := List.rec (motive := fun _ => List (Nat × α)) [(n, e)] (fun x r ih => cond (Nat.beq x.1 n) ((n, e) :: r) (cond (Nat.blt n x.1) (x :: ih) ((n, e) :: x :: r))) l
theorem insR_eq {α : Type} (l : List (Nat × α)) (n : Nat) (e : α) : insR l n e = ins l n e := by
  induction l with
  | nil => rfl
  | cons x r ih =>
    obtain ⟨k, f⟩ := x
    show cond (Nat.beq k n) ((n, e) :: r) (cond (Nat.blt n k) ((k, f) :: insR r n e) ((n, e) :: (k, f) :: r)) = _
    rw [ih, cond_beq, cond_blt, ins]
/-- The slot itself, nothing else. -/
noncomputable def Fr.raw (fr : Fr) (s : Nat) (e : E) : Fr :=
  match lkR fr.ps s with
  | some _ => { fr with ps := lsetR fr.ps s e }
  | none => { fr with ts := insR fr.ts s e }
theorem Fr.raw_def (fr : Fr) (s : Nat) (e : E) : fr.raw s e = match lk fr.ps s with
  | some _ => { fr with ps := lset fr.ps s e }
  | none => { fr with ts := ins fr.ts s e } := by unfold Fr.raw; rw [lkR_eq, lsetR_eq, insR_eq]
def E.isLent : E → Bool
  | .bor _ _ (.slot _) => true
  | _ => false
noncomputable def anyR (l : List (Nat × E)) : Bool := List.rec (motive := fun _ => Bool) false (fun x _ ih => cond x.2.isLent true ih) l
theorem anyR_no : ∀ {l : List (Nat × E)} (p : Nat), anyR l = false → l.map (fun x => (x.1, x.2.inval (.slot p))) = l
  | [], _, _ => rfl
  | x :: r, p, h => by
    have h' : cond x.2.isLent true (anyR r) = false := h
    cases hx : x.2.isLent with
    | true => rw [hx] at h'; cases h'
    | false =>
      rw [hx] at h'
      rw [List.map_cons, anyR_no p h']
      obtain ⟨k, e⟩ := x
      congr 2
      cases e with
      | bor n xs q =>
        cases q with
        | slot u => cases hx
        | mem i o => simp [E.inval]
        | loc i o => simp [E.inval]
      | _ => rfl
noncomputable def Fr.put (fr : Fr) (s : Nat) (e : E) : Fr :=
  match cond (anyR fr.ps) true (anyR fr.ts) with
  | true => (fr.map (E.inval (.slot s))).raw s (e.inval (.slot s))
  | false => fr.raw s (e.inval (.slot s))
theorem Fr.put_def (fr : Fr) (s : Nat) (e : E) : fr.put s e = (fr.map (E.inval (.slot s))).raw s (e.inval (.slot s)) := by
  unfold Fr.put
  cases h1 : anyR fr.ps with
  | true => rfl
  | false =>
    cases h2 : anyR fr.ts with
    | true => rfl
    | false =>
      have : fr.map (E.inval (.slot s)) = fr := by rw [Fr.map_def, anyR_no s h1, anyR_no s h2]
      rw [this]; rfl
noncomputable def Fr.putO (fr : Fr) : Option Nat → E → Fr
  | some s, e => fr.put s e
  | none, _ => fr

mutual
def constV : Value → V
  | .bool b => .bool b
  | .int k n => .int k n
  | .float k b => .float k b
  | .string s => .str s.data.toList
  | .pointer none => .nilp
  | .slice none 0 0 => .osl 0 []
  | .nilFunc => .nilf
  | .nilIface => .nili
  | .agg cs => .agg (constVs cs.toList)
  | _ => .any
def constVs : List Value → List V
  | [] => []
  | v :: r => constV v :: constVs r
end
def V.toE : V → E
  | .osl k xs => .own k xs
  | v => .val v

noncomputable def Fr.op (fr : Fr) : Operand → E
  | .tmp t => fr.get t
  | .const v => (constV v).toE
  | .func f => .val (.func f [] [])
  | .global _ => .any

/-- What is read off a temporary: an owner lends. -/
noncomputable def Fr.lend (fr : Fr) : Operand → E
  | .tmp t => match fr.get t with
    | .own k xs => .bor k xs (.slot t)
    | e => e
  | x => fr.op x

def St.obj (st : St) (id : Nat) : Option (List V) := st.objs[id]?
def St.set (st : St) (id : Nat) (cs : List V) : Option St :=
  if st.wp ≤ id then some { st with objs := st.objs.set id cs } else none
noncomputable def Fr.loc (fr : Fr) (s : Nat) : Option (List V) := lkR fr.lc s
theorem Fr.loc_def (fr : Fr) (s : Nat) : fr.loc s = lk fr.lc s := lkR_eq _ _
noncomputable def Fr.setLoc (fr : Fr) (s : Nat) (cs : List V) : Fr := { fr with lc := lsetR fr.lc s cs }
theorem Fr.setLoc_def (fr : Fr) (s : Nat) (cs : List V) : fr.setLoc s cs = { fr with lc := lset fr.lc s cs } := by unfold Fr.setLoc; rw [lsetR_eq]

/-- Who owns what is forgotten. -/
def E.weak : E → E
  | .own _ xs => .val (.slice xs)
  | .bor _ xs _ => .val (.slice xs)
  | e => e
/-- The place owns no longer. -/
noncomputable def consume (fr : Fr) (st : St) (xs : List V) : Pl → Option (Fr × St)
  | .slot s => some (fr.put s (fr.get s).weak, st)
  | .mem id off => match st.obj id with
    | some cs => match cs[off]? with
      | some c => (st.set id (cs.set off c.strip1)).map fun st => (fr.map E.noMem, st)
      | none => none
    | none => none
  | .loc s off => match fr.loc s with
    | some cs => match cs[off]? with
      | some c => some ((fr.setLoc s (cs.set off c.strip1)).map E.noLoc, st)
      | none => none
    | none => none

/-- A value that leaves a temporary for good: its owner gives the room up. -/
noncomputable def take (fr : Fr) (st : St) : Operand → Option (E × Fr × St)
  | .tmp t => match fr.get t with
    | .own k xs => some (.own k xs, fr.put t (.val (.slice xs)), st)
    | .bor k xs p => (consume fr st xs p).map fun (fr, st) => (.own k xs, fr, st)
    | e => some (e, fr, st)
  | x => some (fr.op x, fr, st)

def upE (g : G) (t : Nat) : E → E
  | .own k xs => match g.ty t with
    | some { k := .slice esz _ _ _, .. } => if k == 0 && !xs.isEmpty then .own esz xs else .own k xs
    | _ => .own k xs
  | e => e

def E.cells? : E → Option (List V)
  | .val v => some v.cells
  | .own k xs => some [.osl k xs]
  | _ => none

/-- The cells that a new variable is made of: it owns no room. -/
def boxCells : E → Option (List V)
  | .val v => if v.cells.all V.one then some v.cells else none
  | .own _ xs => some [.slice xs]
  | .bor _ xs _ => some [.slice xs]
  | _ => none

def cellE (p : Pl) : V → E
  | .osl k xs => .bor k xs p
  | .any => .any
  | v => .val v
def loadCs (ti : TI) (off : Nat) (p : Pl) (cs : List V) : Option E :=
  if ti.agg then
    if off + ti.size ≤ cs.length then some (.val (.agg (((cs.drop off).take ti.size).map V.strip1))) else none
  else (cs[off]?).map (cellE p)

def splice (cs : List V) (off : Nat) (xs : List V) : Option (List V) :=
  if off + xs.length ≤ cs.length then some (cs.take off ++ xs ++ cs.drop (off + xs.length)) else none

inductive Rs where
  | ok (e : E) (fr : Fr) (st : St)
  | pan (v : V) (st : St)

def okE (fr : Fr) (st : St) (e : Option E) : Option Rs := e.map fun e => .ok e fr st
def okV (fr : Fr) (st : St) (v : Option V) : Option Rs := v.map fun v => .ok v.toE fr st

def partV (size : Nat) (agg : Bool) (cs : List V) (off : Nat) : Option V :=
  if agg then (if off + size ≤ cs.length then some (.agg ((cs.drop off).take size)) else none) else cs[off]?

def fillV (place : Nat → Option (Nat × Nat)) (cells : List V) : List (Nat × Option (List V)) → Option (List V)
  | [] => some cells
  | (_, none) :: _ => none
  | (i, some cs) :: r =>
    match place i with
    | none => none
    | some (off, size) => if cs.length == size then (match splice cells off cs with | some c => fillV place c r | none => none) else none

/-- A part of a value that is put together: what it reads as. -/
def E.part? (e : E) : Option (List V) :=
  match e.v? with
  | some .any => none
  | some v => some v.cells
  | none => none

def intBin (op : BinOp) (k : IntKind) (a b : Int) : Option V :=
  match op with
  | .add => some (.int k (k.wrap (a + b)))
  | .sub => some (.int k (k.wrap (a - b)))
  | .mul => some (.int k (k.wrap (a * b)))
  | .quo => if b = 0 then none else some (.int k (k.wrap (a.tdiv b)))
  | .rem => if b = 0 then none else some (.int k (a.tmod b))
  | .and => some (.int k (k.wrap ((BitVec.ofInt k.bits a &&& BitVec.ofInt k.bits b).toNat)))
  | .or => some (.int k (k.wrap ((BitVec.ofInt k.bits a ||| BitVec.ofInt k.bits b).toNat)))
  | .xor => some (.int k (k.wrap ((BitVec.ofInt k.bits a ^^^ BitVec.ofInt k.bits b).toNat)))
  | .andNot => some (.int k (k.wrap ((BitVec.ofInt k.bits a &&& ~~~BitVec.ofInt k.bits b).toNat)))
  | .eql => some (.bool (a == b))
  | .neq => some (.bool (a != b))
  | .lss => some (.bool (decide (a < b)))
  | .leq => some (.bool (decide (a ≤ b)))
  | .gtr => some (.bool (decide (a > b)))
  | .geq => some (.bool (decide (a ≥ b)))
  | _ => none
def shiftV (op : BinOp) (k : IntKind) (a b : Int) : Option V :=
  if b < 0 then none else
  match op with
  | .shl => some (.int k (k.wrap (a * 2 ^ (min b.toNat k.bits))))
  | .shr => some (.int k (a.fdiv (2 ^ (min b.toNat k.bits))))
  | _ => none
def floatBin (op : BinOp) (k : FloatKind) (x y : Nat) : Option V :=
  let c := k.format.order x y
  let r (o : Option Nat) : Option V := some (match o with | some b => .float k b | none => .any)
  match op with
  | .eql => some (.bool (c == some .eq))
  | .neq => some (.bool (c != some .eq))
  | .lss => some (.bool (c == some .lt))
  | .leq => some (.bool (c == some .lt || c == some .eq))
  | .gtr => some (.bool (c == some .gt))
  | .geq => some (.bool (c == some .gt || c == some .eq))
  | .add => r (k.format.add x y)
  | .sub => r (k.format.sub x y)
  | .mul => r (k.format.mul x y)
  | .quo => r (k.format.div x y)
  | _ => none
def strBin (op : BinOp) (x y : List UInt8) : Option V :=
  let eq := x == y
  let lt := Op.bytesLess x y
  match op with
  | .add => if x.length + y.length < 2 ^ 60 then some (.str (x ++ y)) else none
  | .eql => some (.bool eq)
  | .neq => some (.bool !eq)
  | .lss => some (.bool lt)
  | .leq => some (.bool (lt || eq))
  | .gtr => some (.bool !(lt || eq))
  | .geq => some (.bool !lt)
  | _ => none

/-- Are two values of one plain type the same? -/
def eqScalar : TK → V → V → Option Bool
  | .bool, .bool a, .bool b => some (a == b)
  | .int _, .int k a, .int k' b => if k = k' then some (a == b) else none
  | .float _, .float k a, .float k' b => if k = k' then some (Op.floatEq k a b) else none
  | .str, .str a, .str b => some (a == b)
  | _, _, _ => none
def eqCells : List TK → List V → List V → Option Bool
  | [], [], [] => some true
  | t :: q, a :: r, b :: s => match eqScalar t a b, eqCells q r s with
    | some x, some y => some (x && y)
    | _, _ => none
  | _, _, _ => none
def eqV (k : Option TK) (a b : V) : Option Bool :=
  match k, a, b with
  | some .bool, .bool a, .bool b => some (a == b)
  | some .pointer, .nilp, .nilp => some true
  | some .pointer, .nilp, .ptr _ _ => some false
  | some .pointer, .ptr _ _, .nilp => some false
  | some .func, .nilf, .nilf => some true
  | some .func, .nilf, .func _ _ _ => some false
  | some .func, .func _ _ _, .nilf => some false
  | some .iface, .nili, .iface _ _ => some false
  | some .iface, .iface _ _, .nili => some false
  | _, _, _ => none

def binV (k : Option TK) (op : BinOp) (x y : V) : Option V :=
  match op, x, y with
  | .shl, .int k a, .int _ b | .shr, .int k a, .int _ b => shiftV op k a b
  | op, .int k a, .int k' b => if k = k' then intBin op k a b else none
  | op, .float k a, .float k' b => if k = k' then floatBin op k a b else none
  | op, .str a, .str b => strBin op a b
  | .eql, x, y => (eqV k x y).map .bool
  | .neq, x, y => (eqV k x y).map fun b => .bool !b
  | _, _, _ => none
def binAgg (ks : List TK) (op : BinOp) (x y : List V) : Option V :=
  match op with
  | .eql => (eqCells ks x y).map .bool
  | .neq => (eqCells ks x y).map fun b => .bool !b
  | _ => none
def unV (op : UnOp) (x : V) : Option V :=
  match op, x with
  | .not, .bool b => some (.bool !b)
  | .neg, .int k n => intBin .sub k 0 n
  | .neg, .float k b => some (.float k (Op.negFloat k b))
  | .xor, .int k n => intBin .xor k (if k.signed then -1 else k.max) n
  | _, _ => none
def bytesOf : List V → Option (List UInt8)
  | [] => some []
  | .int .u8 n :: r => (bytesOf r).map (UInt8.ofNat n.toNat :: ·)
  | _ => none
def byteVs (s : List UInt8) : List V := s.map fun b => .int .u8 b.toNat
def convV (su : Bool) (dst : TK) (x : V) : Option E :=
  match dst, x with
  | .int k, .int _ n => some (.val (.int k (k.wrap n)))
  | .float k, .int _ n => some (.val (.float k (k.nearest n)))
  | .int k, .float s b => match (s.decode b).toInt .zero with
    | some n => if k.min ≤ n ∧ n ≤ k.max then some (.val (.int k n)) else some .any
    | none => some .any
  | .float k, .float s b => if s = k then some (.val (.float k b)) else none
  | .str, .str s => some (.val (.str s))
  | .str, .slice xs => if su then (bytesOf xs).map fun s => .val (.str s) else none
  | _, _ => none

def clip (x : Option Int) (d hi : Nat) : Option Nat :=
  match x with
  | none => some d
  | some n => if 0 ≤ n ∧ n ≤ (hi : Int) then some n.toNat else none
def elemV (agg : Bool) (cs : List V) : V := if agg then .agg cs else (cs.headD .any)
end Go.Ab
