/- Of any tests, right or not, and any value, what is right, taken, void, alike, and what implies what, is as the document says, whatever the input. Part 4. -/
import Derived.Test.YtclpbfkbpcjejaaK3
namespace Go.Ab
open Go
set_option linter.unusedVariables false
set_option linter.unusedSimpArgs false
set_option linter.unnecessarySimpa false
structure Val where
  kind : Int
  n : Int
  x : Nat
  s : List UInt8
  b : Bool
  deriving DecidableEq, Inhabited
def Val.cells (v : Val) : List V := [.int .i64 v.kind, .int .i64 v.n, .float .f64 v.x, .str v.s, .bool v.b]
def Val.enc (v : Val) : V := .agg v.cells
structure Pred where
  name : List UInt8
  test : Int
  v : Val
  w : Val
  set : List Val
  deriving DecidableEq, Inhabited
def encVals (l : List Val) : List V := l.map Val.enc
def Pred.cells (p : Pred) : List V := [.str p.name, .int .i64 p.test, .int .i64 p.v.kind, .int .i64 p.v.n, .float .f64 p.v.x, .str p.v.s, .bool p.v.b, .int .i64 p.w.kind, .int .i64 p.w.n, .float .f64 p.w.x, .str p.w.s, .bool p.w.b, .slice (encVals p.set)]
def Pred.enc (p : Pred) : V := .agg p.cells
def encPreds (l : List Pred) : List V := l.map Pred.enc
structure Attr where
  name : List UInt8
  v : Val
  deriving DecidableEq, Inhabited
def Attr.cells (a : Attr) : List V := [.str a.name, .int .i64 a.v.kind, .int .i64 a.v.n, .float .f64 a.v.x, .str a.v.s, .bool a.v.b]
def Attr.enc (a : Attr) : V := .agg a.cells
def encAttrs (l : List Attr) : List V := l.map Attr.enc
theorem encVals_length (l : List Val) : (encVals l).length = l.length := by simp [encVals]
theorem encPreds_length (l : List Pred) : (encPreds l).length = l.length := by simp [encPreds]
theorem encAttrs_length (l : List Attr) : (encAttrs l).length = l.length := by simp [encAttrs]
theorem flat_val (v : Val) : v.enc.flat = true := by simp [Val.enc, Val.cells, V.flat, flats]
theorem flats_vals (l : List Val) : flats (encVals l) = true := by
  induction l with
  | nil => rfl
  | cons x r ih => simp only [encVals, List.map_cons, flats, flat_val] at ih ⊢; exact ih
theorem flat_pred (v : Pred) : v.enc.flat = true := by simp [Pred.enc, Pred.cells, V.flat, flats, flats_vals]
theorem flats_preds (l : List Pred) : flats (encPreds l) = true := by
  induction l with
  | nil => rfl
  | cons x r ih => simp only [encPreds, List.map_cons, flats, flat_pred] at ih ⊢; exact ih
theorem flat_attr (v : Attr) : v.enc.flat = true := by simp [Attr.enc, Attr.cells, V.flat, flats]
theorem flats_attrs (l : List Attr) : flats (encAttrs l) = true := by
  induction l with
  | nil => rfl
  | cons x r ih => simp only [encAttrs, List.map_cons, flats, flat_attr] at ih ⊢; exact ih

/-- A call whose answer is known, whatever memory there is. -/
theorem call_pure {g : G} {f : Nat} {args : List V} {fr : Fr} {st : St} {fi : FI} {v : V} {k : Option Nat} (hx : g.ext f = none) (hf : g.fn f = some fi) (hp : fi.pure = true)
    (h : ∀ st, EvF g f args st = some (.ret v k, st)) (hv : v.flat = true) : callStep g (EvF g) f args fr st = some (.ok (retE k v) fr st) := by
  unfold callStep
  simp only [hx, hf, hp, if_true, h, hv]
def codeAt : Code → List Bool → Code
  | c, [] => c
  | .seq a b, x :: r => if x then codeAt b r else codeAt a r
  | .cond _ a b, x :: r => if x then codeAt b r else codeAt a r
  | .block _ b, _ :: r => codeAt b r
  | .loop b, _ :: r => codeAt b r
  | c, _ => c
noncomputable def codeN (c : Code) (n : Nat) : Code := codeAt c (bitsN 64 n)
def regOps : Code → Array Oper
  | .region _ o _ => o
  | _ => #[]
noncomputable def codeOf (f : Func) : Code := f.body.getD .skip
theorem ib_add (k : IntKind) (a b : Int) : intBin .add k a b = some (.int k (k.wrap (a + b))) := rfl
theorem ib_sub (k : IntKind) (a b : Int) : intBin .sub k a b = some (.int k (k.wrap (a - b))) := rfl
theorem ib_mul (k : IntKind) (a b : Int) : intBin .mul k a b = some (.int k (k.wrap (a * b))) := rfl
theorem ib_eql (k : IntKind) (a b : Int) : intBin .eql k a b = some (.bool (decide (a = b))) := by
  show some (V.bool (a == b)) = _
  by_cases h : a = b <;> simp [h]
theorem ib_neq (k : IntKind) (a b : Int) : intBin .neq k a b = some (.bool (!decide (a = b))) := by
  show some (V.bool (a != b)) = _
  by_cases h : a = b <;> simp [h]
/-- A test that does not put the one for the other. -/
def ieq (a b : Int) : Bool := decide (a = b)
theorem ib_eqlO (k : IntKind) (a b : Int) : intBin .eql k a b = some (.bool (ieq a b)) := ib_eql k a b
theorem ib_neqO (k : IntKind) (a b : Int) : intBin .neq k a b = some (.bool (!ieq a b)) := ib_neq k a b
theorem ib_lss (k : IntKind) (a b : Int) : intBin .lss k a b = some (.bool (decide (a < b))) := rfl
theorem ib_leq (k : IntKind) (a b : Int) : intBin .leq k a b = some (.bool (decide (a ≤ b))) := rfl
theorem ib_gtr (k : IntKind) (a b : Int) : intBin .gtr k a b = some (.bool (decide (a > b))) := rfl
theorem ib_geq (k : IntKind) (a b : Int) : intBin .geq k a b = some (.bool (decide (a ≥ b))) := rfl
theorem ib_quo (k : IntKind) (a b : Int) : intBin .quo k a b = if b = 0 then none else some (.int k (k.wrap (a.tdiv b))) := rfl
theorem ib_rem (k : IntKind) (a b : Int) : intBin .rem k a b = if b = 0 then none else some (.int k (a.tmod b)) := rfl
theorem Val.eta (v : Val) : (⟨v.kind, v.n, v.x, v.s, v.b⟩ : Val) = v := rfl
theorem Pred.eta (v : Pred) : (⟨v.name, v.test, v.v, v.w, v.set⟩ : Pred) = v := rfl
theorem Attr.eta (v : Attr) : (⟨v.name, v.v⟩ : Attr) = v := rfl
theorem encVals_get (l : List Val) (i : Nat) : (encVals l)[i]? = (l[i]?).map Val.enc := by simp [encVals]
theorem encPreds_get (l : List Pred) (i : Nat) : (encPreds l)[i]? = (l[i]?).map Pred.enc := by simp [encPreds]
theorem encAttrs_get (l : List Attr) (i : Nat) : (encAttrs l)[i]? = (l[i]?).map Attr.enc := by simp [encAttrs]
theorem wrap64 {n : Int} (h1 : -9223372036854775808 ≤ n) (h2 : n ≤ 9223372036854775807) : IntKind.wrap .i64 n = n := by
  rw [IntKind.wrap_i64]; omega
theorem str_beq (a b : List UInt8) : (a == b) = decide (a = b) := by by_cases h : a = b <;> simp [h]
theorem drop_get {α : Type} {l : List α} {i : Nat} {x : α} (h : l[i]? = some x) : l.drop i = x :: l.drop (i + 1) := by
  obtain ⟨h1, rfl⟩ := List.getElem?_eq_some_iff.1 h
  exact List.drop_eq_getElem_cons h1
theorem lk_filter {α : Type} (X : List (Nat × α)) (d n : Nat) (h : (d == n) = false) : lk (X.filter fun x => !(x.1 == d)) n = lk X n := by
  induction X with
  | nil => rfl
  | cons x r ih =>
    obtain ⟨k, e⟩ := x
    simp only [List.filter_cons]
    by_cases hk : (k == d) = true
    · have hn : (k == n) = false := by rw [beq_iff_eq] at hk; rw [hk]; exact h
      simp only [hk, Bool.not_true, Bool.false_eq_true, if_false, lk, hn, ih]
    · simp only [hk, Bool.not_false, if_true, lk, ih]
theorem lk_filter' {α : Type} (X : List (Nat × α)) (d n : Nat) (h : (d == n) = false) : lk (X.filter fun x => !decide (x.1 = d)) n = lk X n := by
  rw [← lk_filter X d n h]
  congr 2
theorem lk_lset_self {α : Type} (X : List (Nat × α)) (n : Nat) (e x : α) (h : lk X n = some e) : lk (lset X n x) n = some x := by
  induction X with
  | nil => cases h
  | cons y r ih =>
    obtain ⟨k, f⟩ := y
    unfold lset
    by_cases hk : (k == n) = true
    · simp only [hk, if_true, lk]
    · simp only [hk, if_false, lk, Bool.false_eq_true] at h ⊢
      exact ih h
theorem lk_lset_ne {α : Type} (X : List (Nat × α)) (n m : Nat) (x : α) (h : (m == n) = false) : lk (lset X n x) m = lk X m := by
  induction X with
  | nil => rfl
  | cons y r ih =>
    obtain ⟨k, f⟩ := y
    unfold lset
    by_cases hk : (k == n) = true
    · have hm : (k == m) = false := by
        rw [beq_iff_eq] at hk
        cases hb : k == m with
        | false => rfl
        | true => rw [beq_iff_eq] at hb; rw [← hb, hk] at h; simp at h
      have hm' : (n == m) = false := by rw [beq_iff_eq] at hk; rw [← hk]; exact hm
      simp only [hk, if_true, lk, hm, hm', if_false, Bool.false_eq_true]
    · simp only [hk, if_false, lk, Bool.false_eq_true, ih]
attribute [simp] lk_filter lk_filter' lk_lset_ne
def Pred.ok (p : Pred) : Prop := p.name.length < 4611686018427387904 ∧ p.set.length < 4611686018427387904
theorem Pred.ok_iff (p : Pred) : p.ok = (p.name.length < 4611686018427387904 ∧ p.set.length < 4611686018427387904) := propext Iff.rfl
attribute [simp] Pred.ok_iff
theorem encVals_gE (l : List Val) (i : Nat) (h : i < (encVals l).length) : (encVals l)[i]'h = (l[i]'(by rw [encVals_length] at h; exact h)).enc := by simp [encVals]
theorem encPreds_gE (l : List Pred) (i : Nat) (h : i < (encPreds l).length) : (encPreds l)[i]'h = (l[i]'(by rw [encPreds_length] at h; exact h)).enc := by simp [encPreds]
theorem encAttrs_gE (l : List Attr) (i : Nat) (h : i < (encAttrs l).length) : (encAttrs l)[i]'h = (l[i]'(by rw [encAttrs_length] at h; exact h)).enc := by simp [encAttrs]
theorem lt_l0 (n : Nat) : ((n : Int) < 0) = (n < 0) := by apply propext; omega
theorem gt_l0 (n : Nat) : ((0 : Int) < n) = (0 < n) := by apply propext; omega
theorem le_l0 (n : Nat) : ((n : Int) ≤ 0) = (n ≤ 0) := by apply propext; omega
theorem ge_l0 (n : Nat) : ((0 : Int) ≤ n) = (0 ≤ n) := by apply propext; omega
theorem lt_l1 (n : Nat) : ((n : Int) < 1) = (n < 1) := by apply propext; omega
theorem gt_l1 (n : Nat) : ((1 : Int) < n) = (1 < n) := by apply propext; omega
theorem le_l1 (n : Nat) : ((n : Int) ≤ 1) = (n ≤ 1) := by apply propext; omega
theorem ge_l1 (n : Nat) : ((1 : Int) ≤ n) = (1 ≤ n) := by apply propext; omega
theorem lt_l3 (n : Nat) : ((n : Int) < 3) = (n < 3) := by apply propext; omega
theorem gt_l3 (n : Nat) : ((3 : Int) < n) = (3 < n) := by apply propext; omega
theorem le_l3 (n : Nat) : ((n : Int) ≤ 3) = (n ≤ 3) := by apply propext; omega
theorem ge_l3 (n : Nat) : ((3 : Int) ≤ n) = (3 ≤ n) := by apply propext; omega
theorem lt_l4 (n : Nat) : ((n : Int) < 4) = (n < 4) := by apply propext; omega
theorem gt_l4 (n : Nat) : ((4 : Int) < n) = (4 < n) := by apply propext; omega
theorem le_l4 (n : Nat) : ((n : Int) ≤ 4) = (n ≤ 4) := by apply propext; omega
theorem ge_l4 (n : Nat) : ((4 : Int) ≤ n) = (4 ≤ n) := by apply propext; omega
theorem lt_l5 (n : Nat) : ((n : Int) < 5) = (n < 5) := by apply propext; omega
theorem gt_l5 (n : Nat) : ((5 : Int) < n) = (5 < n) := by apply propext; omega
theorem le_l5 (n : Nat) : ((n : Int) ≤ 5) = (n ≤ 5) := by apply propext; omega
theorem ge_l5 (n : Nat) : ((5 : Int) ≤ n) = (5 ≤ n) := by apply propext; omega
theorem lt_l6 (n : Nat) : ((n : Int) < 6) = (n < 6) := by apply propext; omega
theorem gt_l6 (n : Nat) : ((6 : Int) < n) = (6 < n) := by apply propext; omega
theorem le_l6 (n : Nat) : ((n : Int) ≤ 6) = (n ≤ 6) := by apply propext; omega
theorem ge_l6 (n : Nat) : ((6 : Int) ≤ n) = (6 ≤ n) := by apply propext; omega
theorem lt_l8 (n : Nat) : ((n : Int) < 8) = (n < 8) := by apply propext; omega
theorem gt_l8 (n : Nat) : ((8 : Int) < n) = (8 < n) := by apply propext; omega
theorem le_l8 (n : Nat) : ((n : Int) ≤ 8) = (n ≤ 8) := by apply propext; omega
theorem ge_l8 (n : Nat) : ((8 : Int) ≤ n) = (8 ≤ n) := by apply propext; omega
theorem lt_l12 (n : Nat) : ((n : Int) < 12) = (n < 12) := by apply propext; omega
theorem gt_l12 (n : Nat) : ((12 : Int) < n) = (12 < n) := by apply propext; omega
theorem le_l12 (n : Nat) : ((n : Int) ≤ 12) = (n ≤ 12) := by apply propext; omega
theorem ge_l12 (n : Nat) : ((12 : Int) ≤ n) = (12 ≤ n) := by apply propext; omega
theorem lt_l97 (n : Nat) : ((n : Int) < 97) = (n < 97) := by apply propext; omega
theorem gt_l97 (n : Nat) : ((97 : Int) < n) = (97 < n) := by apply propext; omega
theorem le_l97 (n : Nat) : ((n : Int) ≤ 97) = (n ≤ 97) := by apply propext; omega
theorem ge_l97 (n : Nat) : ((97 : Int) ≤ n) = (97 ≤ n) := by apply propext; omega
theorem lt_l122 (n : Nat) : ((n : Int) < 122) = (n < 122) := by apply propext; omega
theorem gt_l122 (n : Nat) : ((122 : Int) < n) = (122 < n) := by apply propext; omega
theorem le_l122 (n : Nat) : ((n : Int) ≤ 122) = (n ≤ 122) := by apply propext; omega
theorem ge_l122 (n : Nat) : ((122 : Int) ≤ n) = (122 ≤ n) := by apply propext; omega
theorem lt_l200 (n : Nat) : ((n : Int) < 200) = (n < 200) := by apply propext; omega
theorem gt_l200 (n : Nat) : ((200 : Int) < n) = (200 < n) := by apply propext; omega
theorem le_l200 (n : Nat) : ((n : Int) ≤ 200) = (n ≤ 200) := by apply propext; omega
theorem ge_l200 (n : Nat) : ((200 : Int) ≤ n) = (200 ≤ n) := by apply propext; omega
theorem lt_l600 (n : Nat) : ((n : Int) < 600) = (n < 600) := by apply propext; omega
theorem gt_l600 (n : Nat) : ((600 : Int) < n) = (600 < n) := by apply propext; omega
theorem le_l600 (n : Nat) : ((n : Int) ≤ 600) = (n ≤ 600) := by apply propext; omega
theorem ge_l600 (n : Nat) : ((600 : Int) ≤ n) = (600 ≤ n) := by apply propext; omega
attribute [simp] lt_l0 gt_l0 le_l0 ge_l0 lt_l1 gt_l1 le_l1 ge_l1 lt_l3 gt_l3 le_l3 ge_l3 lt_l4 gt_l4 le_l4 ge_l4 lt_l5 gt_l5 le_l5 ge_l5 lt_l6 gt_l6 le_l6 ge_l6 lt_l8 gt_l8 le_l8 ge_l8 lt_l12 gt_l12 le_l12 ge_l12 lt_l97 gt_l97 le_l97 ge_l97 lt_l122 gt_l122 le_l122 ge_l122 lt_l200 gt_l200 le_l200 ge_l200 lt_l600 gt_l600 le_l600 ge_l600
theorem cast_eq (a b : Nat) : ((a : Int) = (b : Int)) = (a = b) := by apply propext; omega
attribute [simp] cast_eq
attribute [simp] encVals_gE encPreds_gE encAttrs_gE Val.eta Pred.eta Attr.eta encVals_get encPreds_get encAttrs_get str_beq Val.enc Val.cells Pred.enc Pred.cells Attr.enc Attr.cells
attribute [simp] ib_add ib_sub ib_mul ib_eql ib_neq ib_lss ib_leq ib_gtr ib_geq ib_quo ib_rem flat_val flats_vals flat_pred flats_preds flat_attr flats_attrs encVals_length encPreds_length encAttrs_length
end Go.Ab
namespace Go.Ab
open Go
set_option linter.unusedVariables false
set_option linter.unusedSimpArgs false
set_option linter.unnecessarySimpa false
def flt (x y : Nat) : Bool := FloatKind.f64.format.order x y == some .lt
def fle (x y : Nat) : Bool := FloatKind.f64.format.order x y == some .lt || FloatKind.f64.format.order x y == some .eq
def fgt (x y : Nat) : Bool := FloatKind.f64.format.order x y == some .gt
def fge (x y : Nat) : Bool := FloatKind.f64.format.order x y == some .gt || FloatKind.f64.format.order x y == some .eq
def feq (x y : Nat) : Bool := FloatKind.f64.format.order x y == some .eq
theorem fb_lss (x y : Nat) : floatBin .lss .f64 x y = some (.bool (flt x y)) := rfl
theorem fb_leq (x y : Nat) : floatBin .leq .f64 x y = some (.bool (fle x y)) := rfl
theorem fb_gtr (x y : Nat) : floatBin .gtr .f64 x y = some (.bool (fgt x y)) := rfl
theorem fb_geq (x y : Nat) : floatBin .geq .f64 x y = some (.bool (fge x y)) := rfl
theorem fb_eql (x y : Nat) : floatBin .eql .f64 x y = some (.bool (feq x y)) := rfl
theorem fb_neq (x y : Nat) : floatBin .neq .f64 x y = some (.bool (!feq x y)) := rfl
theorem fs_eq (x y : Nat) : Op.floatEq .f64 x y = feq x y := rfl
attribute [simp] fb_lss fb_leq fb_gtr fb_geq fb_eql fb_neq fs_eq
def fbits (b : Nat) : Int := if feq b b then (if feq b 0 then 0 else b) else 9221120237041090560
def sgn (below above : Bool) : Int := if below then -1 else if above then 1 else 0
/-- The whole part; as a number. -/
def ftr (x : Nat) : Nat := (truncV x).getD 0
def ftz (x : Nat) : Int := ((FloatKind.f64.decode (ftr x)).toInt .zero).getD 0
def icmp (n : Int) (x : Nat) : Int × Bool :=
  if feq x x then
    if fge x 4890909195324358656 then (-1, true)
    else if flt x 14114281232179134464 then (1, true)
    else if ftz x = n then (sgn (flt (ftr x) x) (fgt (ftr x) x), true)
    else (sgn (n < ftz x) (n > ftz x), true)
  else (0, false)
def fcmp (a b : Nat) : Int × Bool := if feq a a && feq b b then (sgn (flt a b) (fgt a b), true) else (0, false)
def scmp (a b : List UInt8) : Int := sgn (Op.bytesLess a b) (!(Op.bytesLess a b || a == b))
def cmp (a b : Val) : Int × Bool :=
  if a.kind = 1 ∧ b.kind = 1 then (sgn (a.n < b.n) (a.n > b.n), true)
  else if a.kind = 2 ∧ b.kind = 2 then fcmp a.x b.x
  else if a.kind = 1 ∧ b.kind = 2 then icmp a.n b.x
  else if a.kind = 2 ∧ b.kind = 1 then (-(icmp b.n a.x).1, (icmp b.n a.x).2)
  else if a.kind = 3 ∧ b.kind = 3 then (scmp a.s b.s, true)
  else if a.kind = 4 ∧ b.kind = 4 then (sgn (!a.b && b.b) (a.b && !b.b), true)
  else (0, false)
def vis (a b : Val) : Bool := (cmp a b).2 && decide ((cmp a b).1 = 0)
def vright (v : Val) : Bool :=
  if v.kind = 1 then feq v.x 0 && v.s = [] && !v.b
  else if v.kind = 2 then v.n = 0 && v.s = [] && !v.b
  else if v.kind = 3 then v.n = 0 && feq v.x 0 && !v.b && v.s.length ≤ 12
  else if v.kind = 4 then v.n = 0 && feq v.x 0 && v.s = []
  else false
def vsame (a b : Val) : Bool := a.kind = b.kind && a.n = b.n && a.s = b.s && a.b = b.b && fbits a.x = fbits b.x
def vzero : Val := ⟨0, 0, 0, [], false⟩
def isWord (s : List UInt8) : Bool := s.all (fun c => !decide (c.toNat < 97) && !decide (122 < c.toNat)) && (decide (1 ≤ s.length) && decide (s.length ≤ 6))
def pright (p : Pred) : Bool :=
  if isWord p.name then
    if p.test = 1 then vsame p.v vzero && vsame p.w vzero && p.set.length = 0
    else if 2 ≤ p.test ∧ p.test ≤ 7 then vright p.v && vsame p.w vzero && p.set.length = 0
    else if p.test = 8 then vright p.v && vright p.w && p.set.length = 0
    else if p.test = 9 then vright p.v && p.v.kind = 3 && vsame p.w vzero && p.set.length = 0
    else if p.test = 10 then vsame p.v vzero && vsame p.w vzero && 1 ≤ p.set.length && p.set.length ≤ 4 && p.set.all vright
    else false
  else false
def sames : List Val → List Val → Bool
  | [], [] => true
  | a :: r, b :: s => vsame a b && sames r s
  | _, _ => false
def psame (a b : Pred) : Bool := a.name = b.name && a.test = b.test && vsame a.v b.v && vsame a.w b.w && sames a.set b.set
def isPre (s t : List UInt8) : Bool := t.length ≤ s.length && s.take t.length = t
def ptakes (p : Pred) (v : Val) : Bool :=
  if pright p then
    let c := cmp v p.v
    if p.test = 1 then true
    else if p.test = 2 then c.2 && c.1 = 0
    else if p.test = 3 then !(c.2 && c.1 = 0)
    else if p.test = 4 then c.2 && c.1 < 0
    else if p.test = 5 then c.2 && c.1 ≤ 0
    else if p.test = 6 then c.2 && c.1 > 0
    else if p.test = 7 then c.2 && c.1 ≥ 0
    else if p.test = 8 then c.2 && c.1 ≥ 0 && (cmp v p.w).2 && (cmp v p.w).1 ≤ 0
    else if p.test = 9 then v.kind = 3 && isPre v.s p.v.s
    else p.set.any (vis v)
  else false
def vnan (v : Val) : Bool := v.kind = 2 && !feq v.x v.x
def pvoid (p : Pred) : Bool :=
  if pright p then
    if p.test = 2 ∨ (4 ≤ p.test ∧ p.test ≤ 7) then vnan p.v
    else if p.test = 8 then !(cmp p.v p.w).2 || (cmp p.v p.w).1 > 0
    else if p.test = 10 then p.set.all vnan
    else false
  else false
/-- Where a test ends. -/
structure PEnd where
  is : Bool
  op : Bool
  v : Val
def PEnd.encP (e : PEnd) : V := .agg [.bool e.is, .bool e.op, .int .i64 e.v.kind, .int .i64 e.v.n, .float .f64 e.v.x, .str e.v.s, .bool e.v.b]
def PEnd.encR (e : PEnd) : V := .agg [.int .i64 e.v.kind, .int .i64 e.v.n, .float .f64 e.v.x, .str e.v.s, .bool e.v.b, .bool e.is, .bool e.op]
theorem PEnd.eta (e : PEnd) : (⟨e.is, e.op, e.v⟩ : PEnd) = e := rfl
attribute [simp] PEnd.encP PEnd.encR PEnd.eta
def lowE (p : Pred) : PEnd := if p.test = 6 ∨ p.test = 7 then ⟨true, p.test = 6, p.v⟩ else if p.test = 8 then ⟨true, false, p.v⟩ else ⟨false, false, vzero⟩
def highE (p : Pred) : PEnd := if p.test = 4 ∨ p.test = 5 then ⟨true, p.test = 4, p.v⟩ else if p.test = 8 then ⟨true, false, p.w⟩ else ⟨false, false, vzero⟩
def lowR (p : Pred) : PEnd := ⟨p.test = 6 ∨ p.test = 7 ∨ p.test = 8, p.test = 6, p.v⟩
def highR (p : Pred) : PEnd := if p.test = 8 then ⟨true, false, p.w⟩ else ⟨p.test = 4 ∨ p.test = 5, p.test = 4, p.v⟩
/-- Does an end lie within another one? -/
def within (q p : PEnd) (side : Int) : Bool :=
  if p.is then if q.is then (cmp q.v p.v).2 && (decide ((cmp q.v p.v).1 = side) || (decide ((cmp q.v p.v).1 = 0) && (!p.op || q.op))) else false else true
def pimplies (q p : Pred) : Bool :=
  if pright q && pright p then
    if pvoid q || p.test = 1 then true
    else if q.test = p.test && (vsame q.v p.v && vsame q.w p.w && sames q.set p.set) then true
    else if p.test = 3 then !ptakes q p.v
    else if q.test = 2 then ptakes p q.v
    else if q.test = 10 then q.set.all (fun v => vnan v || ptakes p v)
    else if ((lowE q).is || (highE q).is) && ((lowE p).is || (highE p).is) then
      within (lowE q) (lowE p) 1 && within (highE q) (highE p) (-1)
    else if q.test = 9 then
      if p.test = 9 then isPre q.v.s p.v.s
      else if p.test = 7 then (cmp q.v p.v).2 && (cmp q.v p.v).1 ≥ 0
      else if p.test = 6 then (cmp q.v p.v).2 && (cmp q.v p.v).1 > 0
      else false
    else false
  else false
theorem feq_flt {x : Nat} (h : feq x x = true) : flt x x = false := by
  unfold feq at h; unfold flt
  rw [beq_iff_eq] at h; rw [h]; rfl
theorem feq_fgt {x : Nat} (h : feq x x = true) : fgt x x = false := by
  unfold feq at h; unfold fgt
  rw [beq_iff_eq] at h; rw [h]; rfl
theorem less_irrefl : ∀ s : List UInt8, Op.bytesLess s s = false
  | [] => rfl
  | a :: r => by simp [Op.bytesLess, less_irrefl r]
/-- A right value is itself, but for NaN. -/
theorem vis_self {v : Val} (h : vright v = true) : vis v v = !vnan v := by
  unfold vright at h
  unfold vis vnan
  by_cases h1 : v.kind = 1
  · simp [cmp, h1, sgn]
  · by_cases h2 : v.kind = 2
    · by_cases h3 : feq v.x v.x = true
      · simp [cmp, h2, fcmp, h3, sgn, feq_flt h3, feq_fgt h3]
      · simp [cmp, h2, fcmp, h3]
    · by_cases h3 : v.kind = 3
      · simp [cmp, h3, scmp, sgn, less_irrefl]
      · by_cases h4 : v.kind = 4
        · simp [cmp, h4, sgn]
        · simp [h1, h2, h3, h4] at h
theorem all_self : ∀ {l : List Val}, l.all vright = true → l.all (fun v => !vis v v) = l.all vnan
  | [], _ => rfl
  | v :: r, h => by
    simp only [List.all_cons, Bool.and_eq_true] at h
    simp only [List.all_cons, vis_self h.1, all_self h.2, Bool.not_not]
theorem sames_len : ∀ {a b : List Val}, sames a b = true → a.length = b.length
  | [], [], _ => rfl
  | a :: r, b :: s, h => by
    simp only [sames, Bool.and_eq_true] at h
    simp [sames_len h.2]
  | [], _ :: _, h => by simp [sames] at h
  | _ :: _, [], h => by simp [sames] at h
theorem sames_ne {a b : List Val} (h : ¬ a.length = b.length) : sames a b = false := by
  cases hs : sames a b with
  | false => rfl
  | true => exact absurd (sames_len hs) h
theorem right_facts {p : Pred} (h : pright p = true) : (2 ≤ p.test → p.test ≤ 7 → vis p.v p.v = !vnan p.v) ∧ (p.test = 10 → (p.set.all fun v => !vis v v) = p.set.all vnan) := by
  unfold pright at h
  constructor
  · intro h1 h2
    have h3 : ¬ p.test = 1 := by omega
    by_cases hw : isWord p.name = true
    · rw [if_pos hw, if_neg h3, if_pos ⟨h1, h2⟩] at h
      simp only [Bool.and_eq_true] at h
      exact vis_self h.1.1
    · rw [if_neg hw] at h; cases h
  · intro h1
    simp [h1] at h
    exact all_self (List.all_eq_true.2 h.2.2)
theorem sgn_bound (a b : Bool) : -1 ≤ sgn a b ∧ sgn a b ≤ 1 := by cases a <;> cases b <;> simp [sgn]
theorem icmp_bound (n : Int) (x : Nat) : -1 ≤ (icmp n x).1 ∧ (icmp n x).1 ≤ 1 := by
  unfold icmp
  repeat' split
  all_goals first | exact sgn_bound _ _ | simp
theorem sgn_tri (a b : Bool) : sgn a b = -1 ∨ sgn a b = 0 ∨ sgn a b = 1 := by cases a <;> cases b <;> simp [sgn]
theorem icmp_tri (n : Int) (x : Nat) : (icmp n x).1 = -1 ∨ (icmp n x).1 = 0 ∨ (icmp n x).1 = 1 := by
  have := icmp_bound n x
  omega
theorem cmp_tri (a b : Val) : (cmp a b).1 = -1 ∨ (cmp a b).1 = 0 ∨ (cmp a b).1 = 1 := by
  unfold cmp
  repeat' split
  · exact sgn_tri _ _
  · unfold fcmp; split
    · exact sgn_tri _ _
    · simp
  · exact icmp_tri _ _
  · have := icmp_tri b.n a.x; simp only; omega
  · exact sgn_tri _ _
  · exact sgn_tri _ _
  · simp
theorem wrap_icmp (n : Int) (x : Nat) : IntKind.wrap .i64 (-(icmp n x).1) = -(icmp n x).1 := by
  have := icmp_bound n x
  exact wrap64 (by omega) (by omega)
/-- A test that is looked into at the end. -/
def opq (b : Bool) : Bool := b
theorem agg_eql (ks : List TK) (x y : List V) : binAgg ks .eql x y = (eqCells ks x y).map fun b => .bool (opq b) := rfl
theorem agg_neq (ks : List TK) (x y : List V) : binAgg ks .neq x y = (eqCells ks x y).map fun b => .bool (!opq b) := rfl
theorem feq00 : feq 0 0 = true := by kernel_rfl
attribute [simp] less_irrefl feq00
attribute [simp] wrap_icmp agg_eql agg_neq eqCells eqScalar
end Go.Ab
namespace Go.Ab
open Go Ieee
set_option linter.unusedVariables false
set_option linter.unusedSimpArgs false
set_option linter.unnecessarySimpa false
set_option maxRecDepth 4000

theorem read_cases (x : Nat) : (∃ s t, double.read x = .nan s t) ∨ (∃ s, double.read x = .infinity s) ∨ ∃ s m e, double.read x = .number s m e ∧ m < 2 ^ 53 ∧ (-1074 < e → 2 ^ 52 ≤ m) ∧ -1074 ≤ e := by
  have hb : double.binade = 2 ^ 52 := rfl
  have hl : double.leastPlace = -1074 := rfl
  unfold Format.read
  simp only [hb, hl]
  generalize x % double.signWeight = r
  split
  · exact .inr (.inr ⟨_, _, _, rfl, by omega, by omega, by omega⟩)
  · split
    · refine .inr (.inr ⟨_, _, _, rfl, ?_, ?_, ?_⟩)
      · have := Nat.mod_lt r (show 0 < 2 ^ 52 by decide); omega
      · intro _; omega
      · omega
    · split
      · exact .inr (.inl ⟨_, rfl⟩)
      · exact .inl ⟨_, _, rfl⟩

theorem cut_zero (s : Bool) (n d : Nat) : Toward.zero.cut s n d = n / 2 ^ (min d (n.log2 + 2)) := by
  simp [Toward.cut, Nat.shiftLeft_eq]
theorem cut_even_dvd (s : Bool) (n d q : Nat) (h : n = q * 2 ^ (min d (n.log2 + 2))) : Toward.even.cut s n d = q := by
  have hp : 0 < 2 ^ (min d (n.log2 + 2)) := Nat.pow_pos (by decide)
  have h1 : n / 2 ^ (min d (n.log2 + 2)) = q := by
    conv => lhs; lhs; rw [h]
    exact Nat.mul_div_cancel _ hp
  have h2 : n % 2 ^ (min d (n.log2 + 2)) = 0 := by
    conv => lhs; lhs; rw [h]
    exact Nat.mul_mod_left _ _
  simp only [Toward.cut, Nat.shiftLeft_eq, Nat.one_mul, h1, h2]
  have h3 : ¬ (2 ^ (min d (n.log2 + 2)) = 0) := by omega
  simp [h3]

theorem log2_of {n k : Nat} (h1 : 2 ^ k ≤ n) (h2 : n < 2 ^ (k + 1)) : n.log2 = k := by
  have h0 : n ≠ 0 := by have := Nat.pow_pos (n := k) (show 0 < 2 by decide); omega
  have a : k ≤ n.log2 := (Nat.le_log2 h0).2 h1
  have b : n.log2 < k + 1 := (Nat.log2_lt h0).2 h2
  omega

/-- A word that is read as it was laid. -/
theorem read_word (s : Bool) (K : Nat) (l : Int) (h1 : 2 ^ 52 ≤ K) (h2 : K < 2 ^ 53) (h3 : -1074 ≤ l) (h4 : l ≤ 900) :
    double.read (double.word s (min ((l - double.leastPlace).toNat * double.binade + K) double.infRung)) = .number s K l := by
  have hb : double.binade = 4503599627370496 := rfl
  have hl : double.leastPlace = -1074 := rfl
  have hi : double.infRung = 9218868437227405312 := rfl
  have hw : double.signWeight = 9223372036854775808 := rfl
  obtain ⟨p, hp⟩ : ∃ p : Nat, (l - double.leastPlace).toNat = p ∧ l = (p : Int) - 1074 ∧ p ≤ 1974 := ⟨(l + 1074).toNat, by rw [hl]; omega, by omega, by omega⟩
  obtain ⟨hp1, hp2, hp3⟩ := hp
  rw [hp1]
  have hm : min (p * double.binade + K) double.infRung = p * 4503599627370496 + K := by rw [hb, hi]; omega
  rw [hm]
  have hr : (p * 4503599627370496 + K) < 9223372036854775808 := by omega
  have key : ∀ w : Nat, w % 9223372036854775808 = p * 4503599627370496 + K → (w / 9223372036854775808 % 2 == 1) = s → double.read w = .number s K l := by
    intro w e1 e2
    unfold Format.read
    simp only [hb, hl, hi, hw, e1, e2]
    have c1 : ¬ p * 4503599627370496 + K < 4503599627370496 := by omega
    have c2 : p * 4503599627370496 + K < 9218868437227405312 := by omega
    have c3 : (p * 4503599627370496 + K) % 4503599627370496 = K - 4503599627370496 := by omega
    have c4 : (p * 4503599627370496 + K) / 4503599627370496 - 1 = p := by omega
    rw [if_neg c1, if_pos c2, c3, c4, hp2]
    have c5 : 4503599627370496 + (K - 4503599627370496) = K := by omega
    have c6 : (-1074 : Int) + (p : Int) = (p : Int) - 1074 := by omega
    rw [c5, c6]
  apply key
  · cases s with
    | false => show (p * 4503599627370496 + K) % 9223372036854775808 = _; omega
    | true => show (9223372036854775808 + (p * 4503599627370496 + K)) % 9223372036854775808 = _; omega
  · cases s with
    | false =>
      show ((p * 4503599627370496 + K) / 9223372036854775808 % 2 == 1) = false
      rw [Nat.div_eq_of_lt hr]; rfl
    | true =>
      show ((9223372036854775808 + (p * 4503599627370496 + K)) / 9223372036854775808 % 2 == 1) = true
      rw [show (9223372036854775808 + (p * 4503599627370496 + K)) / 9223372036854775808 = 1 by omega]; rfl
theorem read_zero (s : Bool) : double.read (double.word s 0) = .number s 0 (-1074) := by cases s <;> rfl

theorem signed_bound (s : Bool) (M : Nat) (h : M ≤ 2 ^ 63) (hs : s = false → M < 2 ^ 63) : -9223372036854775808 ≤ signed s M 0 ∧ signed s M 0 ≤ 9223372036854775807 := by
  unfold signed
  simp only [Nat.shiftLeft_zero]
  cases s with
  | false => have := hs rfl; simp only [Bool.false_eq_true, if_false]; omega
  | true => simp only [if_true]; omega

/-- A whole number of few digits is written as it is. -/
theorem whole_exact (s : Bool) (M : Nat) (h : M ≤ 2 ^ 63) (hM : M < 2 ^ 53 ∨ ∃ m e : Nat, M = m * 2 ^ e ∧ 2 ^ 52 ≤ m ∧ m < 2 ^ 53) :
    (double.read (double.write (.number s M 0))).toInt .zero = some (signed s M 0) := by
  have hl : double.leastPlace = -1074 := rfl
  have hf : (double.fractionBits : Int) = 52 := rfl
  unfold Format.write Format.nearest
  dsimp only
  by_cases h0 : M = 0
  · subst h0
    simp only [if_true]
    rw [read_zero]
    simp only [Datum.toInt, Datum.integral, cut_zero]
    simp
  · rw [if_neg h0]
    have hL1 : 2 ^ M.log2 ≤ M := Nat.log2_self_le h0
    have hL2 : M < 2 ^ (M.log2 + 1) := Nat.lt_log2_self
    have hL : M.log2 ≤ 63 := by
      have : M.log2 < 64 := (Nat.log2_lt h0).2 (by omega)
      omega
    have hlast : max ((0 : Int) + (M.log2 : Int) - (double.fractionBits : Int)) double.leastPlace = (M.log2 : Int) - 52 := by rw [hl, hf]; omega
    simp only [hlast]
    -- kept
    obtain ⟨K, l, hK, hK1, hK2, hlk, hdef⟩ : ∃ K : Nat, ∃ l : Int, (l = (M.log2 : Int) - 52) ∧ 2 ^ 52 ≤ K ∧ K < 2 ^ 53 ∧ Toward.even.cut s (M <<< ((0 : Int) - ((M.log2 : Int) - 52)).toNat) (((M.log2 : Int) - 52) - 0).toNat = K ∧
        ((0 ≤ l → M = K * 2 ^ l.toNat) ∧ (l < 0 → K = M * 2 ^ (-l).toNat ∧ (-l).toNat ≤ 52)) := by
      by_cases hs : M.log2 ≤ 52
      · refine ⟨M * 2 ^ (52 - M.log2), (M.log2 : Int) - 52, rfl, ?_, ?_, ?_, ?_, ?_⟩
        · calc 2 ^ 52 = 2 ^ M.log2 * 2 ^ (52 - M.log2) := by rw [← Nat.pow_add]; congr 1; omega
            _ ≤ M * 2 ^ (52 - M.log2) := Nat.mul_le_mul_right _ hL1
        · calc M * 2 ^ (52 - M.log2) < 2 ^ (M.log2 + 1) * 2 ^ (52 - M.log2) := Nat.mul_lt_mul_of_pos_right hL2 (Nat.pow_pos (by decide))
            _ = 2 ^ 53 := by rw [← Nat.pow_add]; congr 1; omega
        · have e1 : ((0 : Int) - ((M.log2 : Int) - 52)).toNat = 52 - M.log2 := by omega
          have e2 : (((M.log2 : Int) - 52) - 0).toNat = 0 := by omega
          rw [e1, e2]
          exact cut_even_dvd _ _ _ _ (by rw [Nat.zero_min, Nat.shiftLeft_eq]; simp)
        · intro hge
          have e : M.log2 = 52 := by omega
          rw [e]; simp
        · intro hlt
          have e : (-((M.log2 : Int) - 52)).toNat = 52 - M.log2 := by omega
          rw [e]; exact ⟨rfl, by omega⟩
      · obtain ⟨m, e, hme, hm1, hm2⟩ : ∃ m e : Nat, M = m * 2 ^ e ∧ 2 ^ 52 ≤ m ∧ m < 2 ^ 53 := by
          rcases hM with hM | hM
          · exfalso
            have : M.log2 < 53 := (Nat.log2_lt h0).2 hM
            omega
          · exact hM
        have hlog : M.log2 = 52 + e := by
          apply log2_of
          · rw [hme, Nat.pow_add]; exact Nat.mul_le_mul_right _ hm1
          · rw [hme, show 52 + e + 1 = 53 + e by omega, Nat.pow_add]; exact Nat.mul_lt_mul_of_pos_right hm2 (Nat.pow_pos (by decide))
        refine ⟨m, (M.log2 : Int) - 52, rfl, hm1, hm2, ?_, ?_, ?_⟩
        · have e1 : ((0 : Int) - ((M.log2 : Int) - 52)).toNat = 0 := by omega
          have e2 : (((M.log2 : Int) - 52) - 0).toNat = e := by omega
          rw [e1, e2]
          refine cut_even_dvd _ _ _ _ ?_
          rw [Nat.shiftLeft_zero, hlog, show min e (52 + e + 2) = e by omega]; exact hme
        · intro _
          rw [show ((M.log2 : Int) - 52).toNat = e by omega]; exact hme
        · intro hlt; omega
    rw [hlk, ← hK, read_word s K l hK1 hK2 (by omega) (by omega)]
    simp only [Datum.toInt, Datum.integral, cut_zero]
    have hKl : K.log2 = 52 := log2_of hK1 hK2
    have : (K <<< l.toNat) / 2 ^ (min (-l).toNat ((K <<< l.toNat).log2 + 2)) = M := by
      by_cases hge : 0 ≤ l
      · have e : (-l).toNat = 0 := by omega
        rw [e, Nat.zero_min, Nat.pow_zero, Nat.div_one, Nat.shiftLeft_eq]
        exact (hdef.1 hge).symm
      · have e : l.toNat = 0 := by omega
        obtain ⟨d1, d2⟩ := hdef.2 (by omega)
        rw [e, Nat.shiftLeft_zero, hKl, show min (-l).toNat (52 + 2) = (-l).toNat by omega, d1]
        exact Nat.mul_div_cancel _ (Nat.pow_pos (by decide))
    rw [this]

theorem ord_cmp (s t : Bool) (m n : Nat) (i j : Int) : Datum.order (.number s m i) (.number t n j) = some (compare (signed s m (i - min i j).toNat) (signed t n (j - min i j).toNat)) := rfl
/-- What a float that is no NaN, below 2^63, at least -2^63, has as its whole part. -/
theorem conv_ok (x : Nat) (h1 : feq x x = true) (h2 : ¬ fge x 4890909195324358656 = true) (h3 : ¬ flt x 14114281232179134464 = true) :
    truncV x = some (ftr x) ∧ (FloatKind.f64.decode (ftr x)).toInt .zero = some (ftz x) ∧ (-9223372036854775808 ≤ ftz x ∧ ftz x ≤ 9223372036854775807) := by
  have c1 : double.read 4890909195324358656 = .number false 4503599627370496 11 := rfl
  have c2 : double.read 14114281232179134464 = .number true 4503599627370496 11 := rfl
  have hfeq : feq x x = ((double.read x).order (double.read x) == some .eq) := rfl
  have hfge : fge x 4890909195324358656 = ((double.read x).order (double.read 4890909195324358656) == some .gt || (double.read x).order (double.read 4890909195324358656) == some .eq) := rfl
  have hflt : flt x 14114281232179134464 = ((double.read x).order (double.read 14114281232179134464) == some .lt) := rfl
  rw [hfeq] at h1; rw [hfge, c1] at h2; rw [hflt, c2] at h3
  rcases read_cases x with ⟨s, t, hx⟩ | ⟨s, hx⟩ | ⟨s, m, e, hx, hm, hn, he⟩
  · rw [hx] at h1; simp [Datum.order] at h1
  · rw [hx] at h2 h3
    cases s
    · simp [Datum.order] at h2
    · simp [Datum.order] at h3
  · have hd : FloatKind.f64.decode x = .number s m e := hx
    rw [hx] at h2 h3
    rw [ord_cmp] at h2 h3
    have ht : truncV x = some (double.write (.number s (Toward.zero.cut s (m <<< e.toNat) (-e).toNat) 0)) := by
      unfold truncV; rw [hd]; rfl
    have hftr : ftr x = double.write (.number s (Toward.zero.cut s (m <<< e.toNat) (-e).toNat) 0) := by unfold ftr; rw [ht]; rfl
    have hM : ∃ M, Toward.zero.cut s (m <<< e.toNat) (-e).toNat = M ∧ M ≤ 2 ^ 63 ∧ (s = false → M < 2 ^ 63) ∧ (M < 2 ^ 53 ∨ ∃ m e : Nat, M = m * 2 ^ e ∧ 2 ^ 52 ≤ m ∧ m < 2 ^ 53) := by
      by_cases hge : 0 ≤ e
      · obtain ⟨k, rfl⟩ : ∃ k : Nat, e = (k : Int) := ⟨e.toNat, by omega⟩
        have hm52 : 2 ^ 52 ≤ m := hn (by omega)
        have e1 : (-(k : Int)).toNat = 0 := by omega
        rw [cut_zero, e1, Nat.zero_min, Nat.pow_zero, Nat.div_one, Int.toNat_natCast, Nat.shiftLeft_eq]
        have hle : m * 2 ^ k ≤ 2 ^ 63 ∧ (s = false → m * 2 ^ k < 2 ^ 63) := by
          by_cases hk : k ≤ 11
          · have hp : 2 ^ k * 2 ^ (11 - k) = 2 ^ 11 := by rw [← Nat.pow_add]; congr 1; omega
            rw [show ((k : Int) - min (k : Int) 11).toNat = 0 by omega, show ((11 : Int) - min (k : Int) 11).toNat = 11 - k by omega] at h2 h3
            simp only [signed, Nat.shiftLeft_eq] at h2 h3
            have hpp : 0 < 2 ^ k := Nat.pow_pos (by decide)
            generalize 2 ^ (11 - k) = q at *
            generalize 2 ^ k = r at *
            cases s with
            | false =>
              simp only [Bool.false_eq_true, if_false] at h2
              have hlt : m < 4503599627370496 * q := by
                rcases Nat.lt_or_ge m (4503599627370496 * q) with hlt | hge2
                · exact hlt
                · exfalso; apply h2
                  rcases Nat.lt_or_eq_of_le hge2 with hgt | heq
                  · have : compare ((m * 2 ^ 0 : Nat) : Int) ((4503599627370496 * q : Nat) : Int) = .gt := Int.compare_eq_gt.2 (by omega)
                    rw [this]; rfl
                  · have : compare ((m * 2 ^ 0 : Nat) : Int) ((4503599627370496 * q : Nat) : Int) = .eq := Int.compare_eq_eq.2 (by omega)
                    rw [this]; rfl
              have : m * r < 4503599627370496 * q * r := Nat.mul_lt_mul_of_pos_right hlt hpp
              have e : 4503599627370496 * q * r = 2 ^ 63 := by rw [Nat.mul_assoc, Nat.mul_comm q r, hp]
              omega
            | true =>
              simp only [if_true] at h3
              have hle : m ≤ 4503599627370496 * q := by
                rcases Nat.lt_or_ge (4503599627370496 * q) m with hlt | hge2
                · exfalso; apply h3
                  have : compare (-((m * 2 ^ 0 : Nat) : Int)) (-((4503599627370496 * q : Nat) : Int)) = .lt := Int.compare_eq_lt.2 (by omega)
                  rw [this]; rfl
                · exact hge2
              have : m * r ≤ 4503599627370496 * q * r := Nat.mul_le_mul_right _ hle
              have e : 4503599627370496 * q * r = 2 ^ 63 := by rw [Nat.mul_assoc, Nat.mul_comm q r, hp]
              exact ⟨by omega, fun h => by cases h⟩
          · exfalso
            have hp : 2 ^ 12 ≤ 2 * 2 ^ (k - 11) * 2 ^ 11 := by
              have : 1 ≤ 2 ^ (k - 11) := Nat.one_le_two_pow
              omega
            have h2k : 2 ≤ 2 ^ (k - 11) := by
              calc 2 = 2 ^ 1 := rfl
                _ ≤ 2 ^ (k - 11) := Nat.pow_le_pow_right (by decide) (by omega)
            rw [show ((k : Int) - min (k : Int) 11).toNat = k - 11 by omega, show ((11 : Int) - min (k : Int) 11).toNat = 0 by omega] at h2 h3
            simp only [signed, Nat.shiftLeft_eq] at h2 h3
            have hbig : 4503599627370496 < m * 2 ^ (k - 11) := by
              have := Nat.mul_le_mul hm52 h2k
              omega
            generalize m * 2 ^ (k - 11) = z at *
            cases s with
            | false =>
              simp only [Bool.false_eq_true, if_false] at h2
              apply h2
              have : compare (z : Int) ((4503599627370496 * 2 ^ 0 : Nat) : Int) = .gt := Int.compare_eq_gt.2 (by omega)
              rw [this]; rfl
            | true =>
              simp only [if_true] at h3
              apply h3
              have : compare (-(z : Int)) (-((4503599627370496 * 2 ^ 0 : Nat) : Int)) = .lt := Int.compare_eq_lt.2 (by omega)
              rw [this]; rfl
        exact ⟨_, rfl, hle.1, hle.2, .inr ⟨m, k, rfl, hm52, hm⟩⟩
      · have e1 : e.toNat = 0 := by omega
        rw [cut_zero, e1, Nat.shiftLeft_zero]
        have hle : m / 2 ^ (min (-e).toNat (m.log2 + 2)) ≤ m := Nat.div_le_self _ _
        exact ⟨_, rfl, by omega, fun _ => by omega, .inl (by omega)⟩
    obtain ⟨M, hMe, hM1, hM2, hM3⟩ := hM
    rw [hMe] at ht hftr
    have hz := whole_exact s M hM1 hM3
    have hdz : (FloatKind.f64.decode (ftr x)).toInt .zero = some (signed s M 0) := by rw [hftr]; exact hz
    have hftz : ftz x = signed s M 0 := by unfold ftz; rw [hdz]; rfl
    refine ⟨by rw [ht, hftr], by rw [hdz, hftz], ?_⟩
    rw [hftz]
    exact signed_bound s M hM1 hM2
end Go.Ab
namespace Go.Proofs.Ytclpbfkbpcjejaa
open Go Go.Ab
set_option linter.unusedVariables false
set_option linter.unusedSimpArgs false
set_option linter.unnecessarySimpa false
set_option maxRecDepth 20000
noncomputable section
variable (fr : Fr) (st : St) (k : Kt)
theorem ty2 : gS.ty 2 = some { k := .int .i64, size := 1, agg := false, zero := [.int .i64 0] } := by kernel_rfl
theorem ty3 : gS.ty 3 = some { k := .int .i64, size := 1, agg := false, zero := [.int .i64 0] } := by kernel_rfl
theorem ty4 : gS.ty 4 = some { k := .bool, size := 1, agg := false, zero := [.bool false] } := by kernel_rfl
theorem ty5 : gS.ty 5 = some { k := .int .u8, size := 1, agg := false, zero := [.int .u8 0] } := by kernel_rfl
theorem ty9 : gS.ty 9 = some { k := .str, size := 1, agg := false, zero := [.str []] } := by kernel_rfl
theorem ty22 : gS.ty 22 = some { k := .float .f64, size := 1, agg := false, zero := [.float .f64 0] } := by kernel_rfl
theorem ty24 : gS.ty 24 = some { k := .struct [(0, 1, false), (1, 1, false), (2, 1, false), (3, 1, false), (4, 1, false)], size := 5, agg := true, zero := [.int .i64 0, .int .i64 0, .float .f64 0, .str [], .bool false] } := by kernel_rfl
theorem ty25 : gS.ty 25 = some { k := .slice 5 48 true [.int .i64 0, .int .i64 0, .float .f64 0, .str [], .bool false], size := 1, agg := false, zero := [.osl 0 []] } := by kernel_rfl
theorem ty27 : gS.ty 27 = some { k := .struct [(0, 1, false), (1, 1, false), (2, 5, true), (7, 5, true), (12, 1, false)], size := 13, agg := true, zero := [.str [], .int .i64 0, .int .i64 0, .int .i64 0, .float .f64 0, .str [], .bool false, .int .i64 0, .int .i64 0, .float .f64 0, .str [], .bool false, .osl 0 []] } := by kernel_rfl
theorem ty28 : gS.ty 28 = some { k := .slice 1 8 false [.int .i64 0], size := 1, agg := false, zero := [.osl 0 []] } := by kernel_rfl
theorem ty29 : gS.ty 29 = some { k := .pointer, size := 1, agg := false, zero := [.nilp] } := by kernel_rfl
theorem ty31 : gS.ty 31 = some { k := .struct [(0, 1, false), (1, 1, false)], size := 2, agg := true, zero := [.osl 0 [], .int .i64 0] } := by kernel_rfl
theorem ty49 : gS.ty 49 = some { k := .slice 13 144 true [.str [], .int .i64 0, .int .i64 0, .int .i64 0, .float .f64 0, .str [], .bool false, .int .i64 0, .int .i64 0, .float .f64 0, .str [], .bool false, .osl 0 []], size := 1, agg := false, zero := [.osl 0 []] } := by kernel_rfl
theorem ty87 : gS.ty 87 = some { k := .array 3 1 false, size := 3, agg := true, zero := [.str [], .str [], .str []] } := by kernel_rfl
theorem ty89 : gS.ty 89 = some { k := .array 6 1 false, size := 6, agg := true, zero := [.str [], .str [], .str [], .str [], .str [], .str []] } := by kernel_rfl
theorem ty90 : gS.ty 90 = some { k := .array 6 1 false, size := 6, agg := true, zero := [.int .i64 0, .int .i64 0, .int .i64 0, .int .i64 0, .int .i64 0, .int .i64 0] } := by kernel_rfl
theorem ty99 : gS.ty 99 = some { k := .struct [(0, 1, false), (1, 1, false), (2, 5, true)], size := 7, agg := true, zero := [.bool false, .bool false, .int .i64 0, .int .i64 0, .float .f64 0, .str [], .bool false] } := by kernel_rfl
theorem ty105 : gS.ty 105 = some { k := .struct [(0, 5, true), (5, 1, false), (6, 1, false)], size := 7, agg := true, zero := [.int .i64 0, .int .i64 0, .float .f64 0, .str [], .bool false, .bool false, .bool false] } := by kernel_rfl
theorem ty107 : gS.ty 107 = some { k := .array 4 1 false, size := 4, agg := true, zero := [.str [], .str [], .str [], .str []] } := by kernel_rfl
theorem ty117 : gS.ty 117 = some { k := .array 14 1 false, size := 14, agg := true, zero := [.float .f64 0, .float .f64 0, .float .f64 0, .float .f64 0, .float .f64 0, .float .f64 0, .float .f64 0, .float .f64 0, .float .f64 0, .float .f64 0, .float .f64 0, .float .f64 0, .float .f64 0, .float .f64 0] } := by kernel_rfl
theorem ty123 : gS.ty 123 = some { k := .int .u64, size := 1, agg := false, zero := [.int .u64 0] } := by kernel_rfl
theorem eq24 : gS.eqs 24 = some [.int .i64, .int .i64, .float .f64, .str, .bool] := by kernel_rfl
theorem k115 (b : Nat) (fr : Fr) (st : St) : callStep gS (EvF gS) 115 [.float .f64 b] fr st = some (.ok (.val (.int .u64 b)) fr st) := rfl
theorem k120 (b v : Nat) (h : truncV b = some v) (fr : Fr) (st : St) : callStep gS (EvF gS) 120 [.float .f64 b] fr st = some (.ok (.val (.float .f64 v)) fr st) := by
  have e : gS.ext 120 = some .trunc := rfl
  unfold callStep
  simp only [e, extV, h, Option.map_some]
def fi116 : FI := { body := codeOf Try.f116, ntmps := 6, results := [.tmp 2], pers := [0, 2], locals := [], pure := true, marks := [] }
theorem fi116_eq : gS.fn 116 = some fi116 := by kernel_rfl
theorem st116 (a0 : V) : startFr fi116 [a0] = { ps := [(0, .val a0), (2, .any)], ts := [], lc := [] } := rfl
def b116 : Code := mini (codeOf Try.f116)
def c116_1 : Code := codeN b116 2
theorem e116_1 : evK gS fi116 c116_1 fr st k = opsR gS fi116 [op1 2 (.assign (.const (.bool false))) 4] fr st k := evK_r 0 (by kernel_rfl)
def c116_3 : Code := codeN b116 5
theorem e116_3 : evK gS fi116 c116_3 fr st k = opsR gS fi116 [op1 3 (.move (.tmp 0)) 22,
 op1 4 (.move (.tmp 0)) 22,
 op1 5 (.binOp .neq 22 (.tmp 3) (.tmp 4) 22) 4,
 op1 2 (.assign (.tmp 5)) 4] fr st k := evK_r 1 (by kernel_rfl)
def c116_4 : Code := .ret
theorem e116_4 : evK gS fi116 c116_4 fr st k = nextK gS fi116 k .ret fr st := rfl
def c116_2 : Code := .seq c116_3 c116_4
theorem e116_2 : evK gS fi116 c116_2 fr st k = evK gS fi116 c116_3 fr st (.seq c116_4 k) := rfl
def c116_0 : Code := .seq c116_1 c116_2
theorem e116_0 : evK gS fi116 c116_0 fr st k = evK gS fi116 c116_1 fr st (.seq c116_2 k) := rfl
theorem m116 : mini fi116.body = c116_0 := by kernel_rfl
set_option maxHeartbeats 4000000 in
theorem c116 (x : Nat)  (st : St) : EvF gS 116 [.float .f64 x] st = some (.ret (.bool (!feq x x)) none, st) := by
  refine EvF_start fi116_eq (fun x h => by cases h) m116 ?_
  rw [st116]
  have hm : fi116.marks = [] := rfl
  have hl : fi116.locals = [] := rfl
  have hr : fi116.results = [.tmp 2] := rfl
  simp (config := { contextual := true, maxSteps := 10000000, maxDischargeDepth := 6 }) [-Int.not_le, -Int.not_lt, -Nat.not_le, -Nat.not_lt, ty4, ty22, hm, hl, hr, e116_1, e116_3, e116_4, e116_2, e116_0]
  all_goals first | done | grind | omega | (trace_state; fail)
theorem k116 (x : Nat)  (fr : Fr) (st : St) : callStep gS (EvF gS) 116 [.float .f64 x] fr st = some (.ok (retE none (.bool (!feq x x))) fr st) :=
  call_pure rfl fi116_eq rfl (fun st => c116 x  st) (by simp)
def fi117 : FI := { body := codeOf Try.f117, ntmps := 9, results := [.tmp 4], pers := [0, 1, 4], locals := [], pure := true, marks := [] }
theorem fi117_eq : gS.fn 117 = some fi117 := by kernel_rfl
theorem st117 (a0 a1 : V) : startFr fi117 [a0, a1] = { ps := [(0, .val a0), (1, .val a1), (4, .any)], ts := [], lc := [] } := rfl
def b117 : Code := mini (codeOf Try.f117)
def c117_1 : Code := codeN b117 2
theorem e117_1 : evK gS fi117 c117_1 fr st k = opsR gS fi117 [op1 4 (.assign (.const (.int .i64 0))) 3] fr st k := evK_r 0 (by kernel_rfl)
def c117_5 : Code := codeN b117 17
theorem e117_5 : evK gS fi117 c117_5 fr st k = opsR gS fi117 [op1 6 (.move (.tmp 0)) 4,
 op1 5 (.assign (.tmp 6)) 4] fr st k := evK_r 1 (by kernel_rfl)
def c117_8 : Code := codeN b117 73
theorem e117_8 : evK gS fi117 c117_8 fr st k = opsR gS fi117 [op1 4 (.assign (.const (.int .i64 (-1)))) 3] fr st k := evK_r 2 (by kernel_rfl)
def c117_9 : Code := .ret
theorem e117_9 : evK gS fi117 c117_9 fr st k = nextK gS fi117 k .ret fr st := rfl
def c117_7 : Code := .seq c117_8 c117_9
theorem e117_7 : evK gS fi117 c117_7 fr st k = evK gS fi117 c117_8 fr st (.seq c117_9 k) := rfl
def c117_11 : Code := codeN b117 89
theorem e117_11 : evK gS fi117 c117_11 fr st k = opsR gS fi117 [op1 8 (.move (.tmp 1)) 4,
 op1 7 (.assign (.tmp 8)) 4] fr st k := evK_r 3 (by kernel_rfl)
def c117_14 : Code := codeN b117 313
theorem e117_14 : evK gS fi117 c117_14 fr st k = opsR gS fi117 [op1 4 (.assign (.const (.int .i64 1))) 3] fr st k := evK_r 4 (by kernel_rfl)
def c117_15 : Code := .ret
theorem e117_15 : evK gS fi117 c117_15 fr st k = nextK gS fi117 k .ret fr st := rfl
def c117_13 : Code := .seq c117_14 c117_15
theorem e117_13 : evK gS fi117 c117_13 fr st k = evK gS fi117 c117_14 fr st (.seq c117_15 k) := rfl
def c117_16 : Code := .skip
theorem e117_16 : evK gS fi117 c117_16 fr st k = nextK gS fi117 k .normal fr st := rfl
def c117_12 : Code := .cond (.tmp 7) c117_13 c117_16
theorem e117_12 : evK gS fi117 c117_12 fr st k = condK gS fi117 (fr.op (.tmp 7)).bool? c117_13 c117_16 fr st k := rfl
def c117_10 : Code := .seq c117_11 c117_12
theorem e117_10 : evK gS fi117 c117_10 fr st k = evK gS fi117 c117_11 fr st (.seq c117_12 k) := rfl
def c117_6 : Code := .cond (.tmp 5) c117_7 c117_10
theorem e117_6 : evK gS fi117 c117_6 fr st k = condK gS fi117 (fr.op (.tmp 5)).bool? c117_7 c117_10 fr st k := rfl
def c117_4 : Code := .seq c117_5 c117_6
theorem e117_4 : evK gS fi117 c117_4 fr st k = evK gS fi117 c117_5 fr st (.seq c117_6 k) := rfl
def c117_3 : Code := .block 0 c117_4
theorem e117_3 : evK gS fi117 c117_3 fr st k = evK gS fi117 c117_4 fr st (.blk 0 k) := rfl
def c117_18 : Code := codeN b117 11
theorem e117_18 : evK gS fi117 c117_18 fr st k = opsR gS fi117 [op1 4 (.assign (.const (.int .i64 0))) 3] fr st k := evK_r 5 (by kernel_rfl)
def c117_19 : Code := .ret
theorem e117_19 : evK gS fi117 c117_19 fr st k = nextK gS fi117 k .ret fr st := rfl
def c117_17 : Code := .seq c117_18 c117_19
theorem e117_17 : evK gS fi117 c117_17 fr st k = evK gS fi117 c117_18 fr st (.seq c117_19 k) := rfl
def c117_2 : Code := .seq c117_3 c117_17
theorem e117_2 : evK gS fi117 c117_2 fr st k = evK gS fi117 c117_3 fr st (.seq c117_17 k) := rfl
def c117_0 : Code := .seq c117_1 c117_2
theorem e117_0 : evK gS fi117 c117_0 fr st k = evK gS fi117 c117_1 fr st (.seq c117_2 k) := rfl
theorem m117 : mini fi117.body = c117_0 := by kernel_rfl
set_option maxHeartbeats 4000000 in
theorem c117 (b : Bool) (a : Bool)  (st : St) : EvF gS 117 [.bool b, .bool a] st = some (.ret (.int .i64 (sgn b a)) none, st) := by
  refine EvF_start fi117_eq (fun x h => by cases h) m117 ?_
  rw [st117]
  have hm : fi117.marks = [] := rfl
  have hl : fi117.locals = [] := rfl
  have hr : fi117.results = [.tmp 4] := rfl
  simp (config := { contextual := true, maxSteps := 10000000, maxDischargeDepth := 6 }) [-Int.not_le, -Int.not_lt, -Nat.not_le, -Nat.not_lt, ty3, ty4, hm, hl, hr, e117_1, e117_5, e117_8, e117_9, e117_7, e117_11, e117_14, e117_15, e117_13, e117_16, e117_12, e117_10, e117_6, e117_4, e117_3, e117_18, e117_19, e117_17, e117_2, e117_0]
  all_goals try simp (config := { contextual := true }) [-Int.not_le, -Int.not_lt, -Nat.not_le, -Nat.not_lt, sgn]
  all_goals first | done | grind | omega | (trace_state; fail)
theorem k117 (b : Bool) (a : Bool)  (fr : Fr) (st : St) : callStep gS (EvF gS) 117 [.bool b, .bool a] fr st = some (.ok (retE none (.int .i64 (sgn b a))) fr st) :=
  call_pure rfl fi117_eq rfl (fun st => c117 b a  st) (by simp)
def fi105 : FI := { body := codeOf Try.f105, ntmps := 19, results := [.tmp 4, .tmp 5], pers := [0, 1, 4, 5], locals := [], pure := true, marks := [] }
theorem fi105_eq : gS.fn 105 = some fi105 := by kernel_rfl
theorem st105 (a0 a1 : V) : startFr fi105 [a0, a1] = { ps := [(0, .val a0), (1, .val a1), (4, .any), (5, .any)], ts := [], lc := [] } := rfl
def b105 : Code := mini (codeOf Try.f105)
def c105_1 : Code := codeN b105 2
theorem e105_1 : evK gS fi105 c105_1 fr st k = opsR gS fi105 [op1 4 (.assign (.const (.int .i64 0))) 3,
 op1 5 (.assign (.const (.bool false))) 4] fr st k := evK_r 0 (by kernel_rfl)
def c105_4 : Code := codeN b105 9
theorem e105_4 : evK gS fi105 c105_4 fr st k = opsR gS fi105 [op1 6 (.move (.tmp 0)) 22,
 op1 7 (.call { callee := (.value (.func 116)), args := #[(.tmp 6)], argTypes := #[22] }) 4,
 op1 8 (.move (.tmp 7)) 4,
 mk (some 9) (.move (.tmp 1)) 22 (some (2, false)),
 mk (some 10) (.call { callee := (.value (.func 116)), args := #[(.tmp 9)], argTypes := #[22] }) 4 (some (2, false)),
 op1 11 (.pick (.tmp 8) (.const (.bool true)) (.tmp 10)) 4] fr st k := evK_r 1 (by kernel_rfl)
def c105_7 : Code := codeN b105 37
theorem e105_7 : evK gS fi105 c105_7 fr st k = opsR gS fi105 [op1 4 (.assign (.const (.int .i64 0))) 3,
 op1 5 (.assign (.const (.bool false))) 4] fr st k := evK_r 2 (by kernel_rfl)
def c105_8 : Code := .ret
theorem e105_8 : evK gS fi105 c105_8 fr st k = nextK gS fi105 k .ret fr st := rfl
def c105_6 : Code := .seq c105_7 c105_8
theorem e105_6 : evK gS fi105 c105_6 fr st k = evK gS fi105 c105_7 fr st (.seq c105_8 k) := rfl
def c105_9 : Code := .skip
theorem e105_9 : evK gS fi105 c105_9 fr st k = nextK gS fi105 k .normal fr st := rfl
def c105_5 : Code := .cond (.tmp 11) c105_6 c105_9
theorem e105_5 : evK gS fi105 c105_5 fr st k = condK gS fi105 (fr.op (.tmp 11)).bool? c105_6 c105_9 fr st k := rfl
def c105_3 : Code := .seq c105_4 c105_5
theorem e105_3 : evK gS fi105 c105_3 fr st k = evK gS fi105 c105_4 fr st (.seq c105_5 k) := rfl
def c105_11 : Code := codeN b105 11
theorem e105_11 : evK gS fi105 c105_11 fr st k = opsR gS fi105 [op1 12 (.move (.tmp 0)) 22,
 op1 13 (.move (.tmp 1)) 22,
 op1 14 (.binOp .lss 22 (.tmp 12) (.tmp 13) 22) 4,
 op1 15 (.move (.tmp 0)) 22,
 op1 16 (.move (.tmp 1)) 22,
 op1 17 (.binOp .gtr 22 (.tmp 15) (.tmp 16) 22) 4,
 op1 18 (.call { callee := (.value (.func 117)), args := #[(.tmp 14), (.tmp 17)], argTypes := #[4, 4] }) 3,
 op1 4 (.assign (.tmp 18)) 3,
 op1 5 (.assign (.const (.bool true))) 4] fr st k := evK_r 3 (by kernel_rfl)
def c105_12 : Code := .ret
theorem e105_12 : evK gS fi105 c105_12 fr st k = nextK gS fi105 k .ret fr st := rfl
def c105_10 : Code := .seq c105_11 c105_12
theorem e105_10 : evK gS fi105 c105_10 fr st k = evK gS fi105 c105_11 fr st (.seq c105_12 k) := rfl
def c105_2 : Code := .seq c105_3 c105_10
theorem e105_2 : evK gS fi105 c105_2 fr st k = evK gS fi105 c105_3 fr st (.seq c105_10 k) := rfl
def c105_0 : Code := .seq c105_1 c105_2
theorem e105_0 : evK gS fi105 c105_0 fr st k = evK gS fi105 c105_1 fr st (.seq c105_2 k) := rfl
theorem m105 : mini fi105.body = c105_0 := by kernel_rfl
set_option maxHeartbeats 4000000 in
theorem c105 (a : Nat) (b : Nat)  (st : St) : EvF gS 105 [.float .f64 a, .float .f64 b] st = some (.ret (.tuple [.int .i64 (fcmp a b).1, .bool (fcmp a b).2]) none, st) := by
  refine EvF_start fi105_eq (fun x h => by cases h) m105 ?_
  rw [st105]
  have hm : fi105.marks = [] := rfl
  have hl : fi105.locals = [] := rfl
  have hr : fi105.results = [.tmp 4, .tmp 5] := rfl
  simp (config := { contextual := true, maxSteps := 10000000, maxDischargeDepth := 6 }) [-Int.not_le, -Int.not_lt, -Nat.not_le, -Nat.not_lt, ty3, ty4, ty22, hm, hl, hr, k116, k117, e105_1, e105_4, e105_7, e105_8, e105_6, e105_9, e105_5, e105_3, e105_11, e105_12, e105_10, e105_2, e105_0]
  all_goals try simp (config := { contextual := true }) [-Int.not_le, -Int.not_lt, -Nat.not_le, -Nat.not_lt, fcmp]
  all_goals first | done | grind | omega | (trace_state; fail)
theorem k105 (a : Nat) (b : Nat)  (fr : Fr) (st : St) : callStep gS (EvF gS) 105 [.float .f64 a, .float .f64 b] fr st = some (.ok (retE none (.tuple [.int .i64 (fcmp a b).1, .bool (fcmp a b).2])) fr st) :=
  call_pure rfl fi105_eq rfl (fun st => c105 a b  st) (by simp)
def fi108 : FI := { body := codeOf Try.f108, ntmps := 23, results := [.tmp 4, .tmp 5], pers := [0, 1, 4, 5], locals := [], pure := true, marks := [] }
theorem fi108_eq : gS.fn 108 = some fi108 := by kernel_rfl
theorem st108 (a0 a1 : V) : startFr fi108 [a0, a1] = { ps := [(0, .val a0), (1, .val a1), (4, .any), (5, .any)], ts := [], lc := [] } := rfl
def b108 : Code := mini (codeOf Try.f108)
def c108_1 : Code := codeN b108 2
theorem e108_1 : evK gS fi108 c108_1 fr st k = opsR gS fi108 [op1 4 (.assign (.const (.int .i64 0))) 3,
 op1 5 (.assign (.const (.bool false))) 4] fr st k := evK_r 0 (by kernel_rfl)
def c108_5 : Code := codeN b108 17
theorem e108_5 : evK gS fi108 c108_5 fr st k = opsR gS fi108 [op1 7 (.move (.tmp 0)) 22,
 op1 8 (.move (.tmp 0)) 22,
 op1 9 (.binOp .neq 22 (.tmp 7) (.tmp 8) 22) 4,
 op1 10 (.move (.tmp 9)) 4,
 mk (some 11) (.move (.tmp 1)) 22 (some (3, false)),
 mk (some 12) (.move (.tmp 1)) 22 (some (3, false)),
 mk (some 13) (.binOp .neq 22 (.tmp 11) (.tmp 12) 22) 4 (some (3, false)),
 op1 14 (.pick (.tmp 10) (.const (.bool true)) (.tmp 13)) 4,
 op1 6 (.assign (.tmp 14)) 4] fr st k := evK_r 1 (by kernel_rfl)
def c108_8 : Code := codeN b108 73
theorem e108_8 : evK gS fi108 c108_8 fr st k = opsR gS fi108 [op1 4 (.assign (.const (.int .i64 0))) 3,
 op1 5 (.assign (.const (.bool false))) 4] fr st k := evK_r 2 (by kernel_rfl)
def c108_9 : Code := .ret
theorem e108_9 : evK gS fi108 c108_9 fr st k = nextK gS fi108 k .ret fr st := rfl
def c108_7 : Code := .seq c108_8 c108_9
theorem e108_7 : evK gS fi108 c108_7 fr st k = evK gS fi108 c108_8 fr st (.seq c108_9 k) := rfl
def c108_11 : Code := codeN b108 89
theorem e108_11 : evK gS fi108 c108_11 fr st k = opsR gS fi108 [op1 16 (.move (.tmp 0)) 22,
 op1 17 (.move (.tmp 1)) 22,
 op1 18 (.binOp .lss 22 (.tmp 16) (.tmp 17) 22) 4,
 op1 15 (.assign (.tmp 18)) 4] fr st k := evK_r 3 (by kernel_rfl)
def c108_14 : Code := codeN b108 313
theorem e108_14 : evK gS fi108 c108_14 fr st k = opsR gS fi108 [op1 4 (.assign (.const (.int .i64 (-1)))) 3,
 op1 5 (.assign (.const (.bool true))) 4] fr st k := evK_r 4 (by kernel_rfl)
def c108_15 : Code := .ret
theorem e108_15 : evK gS fi108 c108_15 fr st k = nextK gS fi108 k .ret fr st := rfl
def c108_13 : Code := .seq c108_14 c108_15
theorem e108_13 : evK gS fi108 c108_13 fr st k = evK gS fi108 c108_14 fr st (.seq c108_15 k) := rfl
def c108_17 : Code := codeN b108 377
theorem e108_17 : evK gS fi108 c108_17 fr st k = opsR gS fi108 [op1 20 (.move (.tmp 0)) 22,
 op1 21 (.move (.tmp 1)) 22,
 op1 22 (.binOp .gtr 22 (.tmp 20) (.tmp 21) 22) 4,
 op1 19 (.assign (.tmp 22)) 4] fr st k := evK_r 5 (by kernel_rfl)
def c108_20 : Code := codeN b108 1273
theorem e108_20 : evK gS fi108 c108_20 fr st k = opsR gS fi108 [op1 4 (.assign (.const (.int .i64 1))) 3,
 op1 5 (.assign (.const (.bool true))) 4] fr st k := evK_r 6 (by kernel_rfl)
def c108_21 : Code := .ret
theorem e108_21 : evK gS fi108 c108_21 fr st k = nextK gS fi108 k .ret fr st := rfl
def c108_19 : Code := .seq c108_20 c108_21
theorem e108_19 : evK gS fi108 c108_19 fr st k = evK gS fi108 c108_20 fr st (.seq c108_21 k) := rfl
def c108_22 : Code := .skip
theorem e108_22 : evK gS fi108 c108_22 fr st k = nextK gS fi108 k .normal fr st := rfl
def c108_18 : Code := .cond (.tmp 19) c108_19 c108_22
theorem e108_18 : evK gS fi108 c108_18 fr st k = condK gS fi108 (fr.op (.tmp 19)).bool? c108_19 c108_22 fr st k := rfl
def c108_16 : Code := .seq c108_17 c108_18
theorem e108_16 : evK gS fi108 c108_16 fr st k = evK gS fi108 c108_17 fr st (.seq c108_18 k) := rfl
def c108_12 : Code := .cond (.tmp 15) c108_13 c108_16
theorem e108_12 : evK gS fi108 c108_12 fr st k = condK gS fi108 (fr.op (.tmp 15)).bool? c108_13 c108_16 fr st k := rfl
def c108_10 : Code := .seq c108_11 c108_12
theorem e108_10 : evK gS fi108 c108_10 fr st k = evK gS fi108 c108_11 fr st (.seq c108_12 k) := rfl
def c108_6 : Code := .cond (.tmp 6) c108_7 c108_10
theorem e108_6 : evK gS fi108 c108_6 fr st k = condK gS fi108 (fr.op (.tmp 6)).bool? c108_7 c108_10 fr st k := rfl
def c108_4 : Code := .seq c108_5 c108_6
theorem e108_4 : evK gS fi108 c108_4 fr st k = evK gS fi108 c108_5 fr st (.seq c108_6 k) := rfl
def c108_3 : Code := .block 0 c108_4
theorem e108_3 : evK gS fi108 c108_3 fr st k = evK gS fi108 c108_4 fr st (.blk 0 k) := rfl
def c108_24 : Code := codeN b108 11
theorem e108_24 : evK gS fi108 c108_24 fr st k = opsR gS fi108 [op1 4 (.assign (.const (.int .i64 0))) 3,
 op1 5 (.assign (.const (.bool true))) 4] fr st k := evK_r 7 (by kernel_rfl)
def c108_25 : Code := .ret
theorem e108_25 : evK gS fi108 c108_25 fr st k = nextK gS fi108 k .ret fr st := rfl
def c108_23 : Code := .seq c108_24 c108_25
theorem e108_23 : evK gS fi108 c108_23 fr st k = evK gS fi108 c108_24 fr st (.seq c108_25 k) := rfl
def c108_2 : Code := .seq c108_3 c108_23
theorem e108_2 : evK gS fi108 c108_2 fr st k = evK gS fi108 c108_3 fr st (.seq c108_23 k) := rfl
def c108_0 : Code := .seq c108_1 c108_2
theorem e108_0 : evK gS fi108 c108_0 fr st k = evK gS fi108 c108_1 fr st (.seq c108_2 k) := rfl
theorem m108 : mini fi108.body = c108_0 := by kernel_rfl
set_option maxHeartbeats 4000000 in
theorem c108 (a : Nat) (b : Nat)  (st : St) : EvF gS 108 [.float .f64 a, .float .f64 b] st = some (.ret (.tuple [.int .i64 (fcmp a b).1, .bool (fcmp a b).2]) none, st) := by
  refine EvF_start fi108_eq (fun x h => by cases h) m108 ?_
  rw [st108]
  have hm : fi108.marks = [] := rfl
  have hl : fi108.locals = [] := rfl
  have hr : fi108.results = [.tmp 4, .tmp 5] := rfl
  simp (config := { contextual := true, maxSteps := 10000000, maxDischargeDepth := 6 }) [-Int.not_le, -Int.not_lt, -Nat.not_le, -Nat.not_lt, ty3, ty4, ty22, hm, hl, hr, e108_1, e108_5, e108_8, e108_9, e108_7, e108_11, e108_14, e108_15, e108_13, e108_17, e108_20, e108_21, e108_19, e108_22, e108_18, e108_16, e108_12, e108_10, e108_6, e108_4, e108_3, e108_24, e108_25, e108_23, e108_2, e108_0]
  all_goals try simp (config := { contextual := true }) [-Int.not_le, -Int.not_lt, -Nat.not_le, -Nat.not_lt, fcmp, sgn]
  all_goals first | done | grind | omega | (trace_state; fail)
theorem k108 (a : Nat) (b : Nat)  (fr : Fr) (st : St) : callStep gS (EvF gS) 108 [.float .f64 a, .float .f64 b] fr st = some (.ok (retE none (.tuple [.int .i64 (fcmp a b).1, .bool (fcmp a b).2])) fr st) :=
  call_pure rfl fi108_eq rfl (fun st => c108 a b  st) (by simp)
def fi118 : FI := { body := codeOf Try.f118, ntmps := 7, results := [.tmp 2], pers := [0, 2], locals := [], pure := true, marks := [] }
theorem fi118_eq : gS.fn 118 = some fi118 := by kernel_rfl
theorem st118 (a0 : V) : startFr fi118 [a0] = { ps := [(0, .val a0), (2, .any)], ts := [], lc := [] } := rfl
def b118 : Code := mini (codeOf Try.f118)
def c118_1 : Code := codeN b118 2
theorem e118_1 : evK gS fi118 c118_1 fr st k = opsR gS fi118 [op1 2 (.assign (.const (.float .f64 0))) 22] fr st k := evK_r 0 (by kernel_rfl)
def c118_5 : Code := codeN b118 17
theorem e118_5 : evK gS fi118 c118_5 fr st k = opsR gS fi118 [op1 3 (.move (.tmp 0)) 22,
 op1 4 (.call { callee := (.value (.func 120)), args := #[(.tmp 3)], argTypes := #[22] }) 22,
 op1 2 (.assign (.tmp 4)) 22] fr st k := evK_r 1 (by kernel_rfl)
def c118_6 : Code := .ret
theorem e118_6 : evK gS fi118 c118_6 fr st k = nextK gS fi118 k .ret fr st := rfl
def c118_4 : Code := .seq c118_5 c118_6
theorem e118_4 : evK gS fi118 c118_4 fr st k = evK gS fi118 c118_5 fr st (.seq c118_6 k) := rfl
def c118_7 : Code := .skip
theorem e118_7 : evK gS fi118 c118_7 fr st k = nextK gS fi118 k .normal fr st := rfl
def c118_3 : Code := .cond (.const (.bool true)) c118_4 c118_7
theorem e118_3 : evK gS fi118 c118_3 fr st k = condK gS fi118 (fr.op (.const (.bool true))).bool? c118_4 c118_7 fr st k := rfl
def c118_9 : Code := codeN b118 11
theorem e118_9 : evK gS fi118 c118_9 fr st k = opsR gS fi118 [op1 5 (.move (.tmp 0)) 22,
 op1 6 (.call { callee := (.value (.func 121)), args := #[(.tmp 5)], argTypes := #[22] }) 22,
 op1 2 (.assign (.tmp 6)) 22] fr st k := evK_r 2 (by kernel_rfl)
def c118_10 : Code := .ret
theorem e118_10 : evK gS fi118 c118_10 fr st k = nextK gS fi118 k .ret fr st := rfl
def c118_8 : Code := .seq c118_9 c118_10
theorem e118_8 : evK gS fi118 c118_8 fr st k = evK gS fi118 c118_9 fr st (.seq c118_10 k) := rfl
def c118_2 : Code := .seq c118_3 c118_8
theorem e118_2 : evK gS fi118 c118_2 fr st k = evK gS fi118 c118_3 fr st (.seq c118_8 k) := rfl
def c118_0 : Code := .seq c118_1 c118_2
theorem e118_0 : evK gS fi118 c118_0 fr st k = evK gS fi118 c118_1 fr st (.seq c118_2 k) := rfl
theorem m118 : mini fi118.body = c118_0 := by kernel_rfl
set_option maxHeartbeats 4000000 in
theorem c118 (x : Nat) (h : truncV x = some (ftr x)) (st : St) : EvF gS 118 [.float .f64 x] st = some (.ret (.float .f64 (ftr x)) none, st) := by
  refine EvF_start fi118_eq (fun x h => by cases h) m118 ?_
  rw [st118]
  have hm : fi118.marks = [] := rfl
  have hl : fi118.locals = [] := rfl
  have hr : fi118.results = [.tmp 2] := rfl
  simp (config := { contextual := true, maxSteps := 10000000, maxDischargeDepth := 6 }) [-Int.not_le, -Int.not_lt, -Nat.not_le, -Nat.not_lt, ty22, hm, hl, hr, e118_1, e118_5, e118_6, e118_4, e118_7, e118_3, e118_9, e118_10, e118_8, e118_2, e118_0, k120 x (ftr x) h]
  all_goals first | done | grind | omega | (trace_state; fail)
theorem k118 (x : Nat) (h : truncV x = some (ftr x)) (fr : Fr) (st : St) : callStep gS (EvF gS) 118 [.float .f64 x] fr st = some (.ok (.val (.float .f64 (ftr x))) fr st) :=
  call_pure rfl fi118_eq rfl (fun st => c118 x h st) (by simp)
def fi106 : FI := { body := codeOf Try.f106, ntmps := 38, results := [.tmp 4, .tmp 5], pers := [0, 1, 4, 5, 6, 7], locals := [], pure := true, marks := [] }
theorem fi106_eq : gS.fn 106 = some fi106 := by kernel_rfl
theorem st106 (a0 a1 : V) : startFr fi106 [a0, a1] = { ps := [(0, .val a0), (1, .val a1), (4, .any), (5, .any), (6, .any), (7, .any)], ts := [], lc := [] } := rfl
def b106 : Code := mini (codeOf Try.f106)
def c106_1 : Code := codeN b106 2
theorem e106_1 : evK gS fi106 c106_1 fr st k = opsR gS fi106 [op1 4 (.assign (.const (.int .i64 0))) 3,
 op1 5 (.assign (.const (.bool false))) 4] fr st k := evK_r 0 (by kernel_rfl)
def c106_5 : Code := codeN b106 17
theorem e106_5 : evK gS fi106 c106_5 fr st k = opsR gS fi106 [op1 9 (.move (.tmp 1)) 22,
 op1 10 (.call { callee := (.value (.func 116)), args := #[(.tmp 9)], argTypes := #[22] }) 4,
 op1 8 (.assign (.tmp 10)) 4] fr st k := evK_r 1 (by kernel_rfl)
def c106_8 : Code := codeN b106 73
theorem e106_8 : evK gS fi106 c106_8 fr st k = opsR gS fi106 [op1 4 (.assign (.const (.int .i64 0))) 3,
 op1 5 (.assign (.const (.bool false))) 4] fr st k := evK_r 2 (by kernel_rfl)
def c106_9 : Code := .ret
theorem e106_9 : evK gS fi106 c106_9 fr st k = nextK gS fi106 k .ret fr st := rfl
def c106_7 : Code := .seq c106_8 c106_9
theorem e106_7 : evK gS fi106 c106_7 fr st k = evK gS fi106 c106_8 fr st (.seq c106_9 k) := rfl
def c106_11 : Code := codeN b106 89
theorem e106_11 : evK gS fi106 c106_11 fr st k = opsR gS fi106 [op1 12 (.move (.tmp 1)) 22,
 op1 13 (.binOp .geq 22 (.tmp 12) (.const (.float .f64 4890909195324358656)) 22) 4,
 op1 11 (.assign (.tmp 13)) 4] fr st k := evK_r 3 (by kernel_rfl)
def c106_14 : Code := codeN b106 313
theorem e106_14 : evK gS fi106 c106_14 fr st k = opsR gS fi106 [op1 4 (.assign (.const (.int .i64 (-1)))) 3,
 op1 5 (.assign (.const (.bool true))) 4] fr st k := evK_r 4 (by kernel_rfl)
def c106_15 : Code := .ret
theorem e106_15 : evK gS fi106 c106_15 fr st k = nextK gS fi106 k .ret fr st := rfl
def c106_13 : Code := .seq c106_14 c106_15
theorem e106_13 : evK gS fi106 c106_13 fr st k = evK gS fi106 c106_14 fr st (.seq c106_15 k) := rfl
def c106_17 : Code := codeN b106 377
theorem e106_17 : evK gS fi106 c106_17 fr st k = opsR gS fi106 [op1 15 (.move (.tmp 1)) 22,
 op1 16 (.binOp .lss 22 (.tmp 15) (.const (.float .f64 14114281232179134464)) 22) 4,
 op1 14 (.assign (.tmp 16)) 4] fr st k := evK_r 5 (by kernel_rfl)
def c106_20 : Code := codeN b106 1273
theorem e106_20 : evK gS fi106 c106_20 fr st k = opsR gS fi106 [op1 4 (.assign (.const (.int .i64 1))) 3,
 op1 5 (.assign (.const (.bool true))) 4] fr st k := evK_r 6 (by kernel_rfl)
def c106_21 : Code := .ret
theorem e106_21 : evK gS fi106 c106_21 fr st k = nextK gS fi106 k .ret fr st := rfl
def c106_19 : Code := .seq c106_20 c106_21
theorem e106_19 : evK gS fi106 c106_19 fr st k = evK gS fi106 c106_20 fr st (.seq c106_21 k) := rfl
def c106_22 : Code := .skip
theorem e106_22 : evK gS fi106 c106_22 fr st k = nextK gS fi106 k .normal fr st := rfl
def c106_18 : Code := .cond (.tmp 14) c106_19 c106_22
theorem e106_18 : evK gS fi106 c106_18 fr st k = condK gS fi106 (fr.op (.tmp 14)).bool? c106_19 c106_22 fr st k := rfl
def c106_16 : Code := .seq c106_17 c106_18
theorem e106_16 : evK gS fi106 c106_16 fr st k = evK gS fi106 c106_17 fr st (.seq c106_18 k) := rfl
def c106_12 : Code := .cond (.tmp 11) c106_13 c106_16
theorem e106_12 : evK gS fi106 c106_12 fr st k = condK gS fi106 (fr.op (.tmp 11)).bool? c106_13 c106_16 fr st k := rfl
def c106_10 : Code := .seq c106_11 c106_12
theorem e106_10 : evK gS fi106 c106_10 fr st k = evK gS fi106 c106_11 fr st (.seq c106_12 k) := rfl
def c106_6 : Code := .cond (.tmp 8) c106_7 c106_10
theorem e106_6 : evK gS fi106 c106_6 fr st k = condK gS fi106 (fr.op (.tmp 8)).bool? c106_7 c106_10 fr st k := rfl
def c106_4 : Code := .seq c106_5 c106_6
theorem e106_4 : evK gS fi106 c106_4 fr st k = evK gS fi106 c106_5 fr st (.seq c106_6 k) := rfl
def c106_3 : Code := .block 0 c106_4
theorem e106_3 : evK gS fi106 c106_3 fr st k = evK gS fi106 c106_4 fr st (.blk 0 k) := rfl
def c106_24 : Code := codeN b106 11
theorem e106_24 : evK gS fi106 c106_24 fr st k = opsR gS fi106 [op1 17 (.move (.tmp 1)) 22,
 op1 18 (.call { callee := (.value (.func 118)), args := #[(.tmp 17)], argTypes := #[22] }) 22,
 op1 6 (.assign (.tmp 18)) 22] fr st k := evK_r 7 (by kernel_rfl)
def c106_27 : Code := codeN b106 39
theorem e106_27 : evK gS fi106 c106_27 fr st k = opsR gS fi106 [op1 19 (.move (.tmp 6)) 22,
 op1 20 (.convert 22 2 (.tmp 19)) 2,
 op1 7 (.assign (.tmp 20)) 2] fr st k := evK_r 8 (by kernel_rfl)
def c106_29 : Code := codeN b106 87
theorem e106_29 : evK gS fi106 c106_29 fr st k = opsR gS fi106 [op1 21 (.move (.tmp 7)) 2,
 op1 22 (.move (.tmp 0)) 2,
 op1 23 (.binOp .neq 2 (.tmp 21) (.tmp 22) 2) 4] fr st k := evK_r 9 (by kernel_rfl)
def c106_32 : Code := codeN b106 311
theorem e106_32 : evK gS fi106 c106_32 fr st k = opsR gS fi106 [op1 24 (.move (.tmp 0)) 2,
 op1 25 (.move (.tmp 7)) 2,
 op1 26 (.binOp .lss 2 (.tmp 24) (.tmp 25) 2) 4,
 op1 27 (.move (.tmp 0)) 2,
 op1 28 (.move (.tmp 7)) 2,
 op1 29 (.binOp .gtr 2 (.tmp 27) (.tmp 28) 2) 4,
 op1 30 (.call { callee := (.value (.func 117)), args := #[(.tmp 26), (.tmp 29)], argTypes := #[4, 4] }) 3,
 op1 4 (.assign (.tmp 30)) 3,
 op1 5 (.assign (.const (.bool true))) 4] fr st k := evK_r 10 (by kernel_rfl)
def c106_33 : Code := .ret
theorem e106_33 : evK gS fi106 c106_33 fr st k = nextK gS fi106 k .ret fr st := rfl
def c106_31 : Code := .seq c106_32 c106_33
theorem e106_31 : evK gS fi106 c106_31 fr st k = evK gS fi106 c106_32 fr st (.seq c106_33 k) := rfl
def c106_34 : Code := .skip
theorem e106_34 : evK gS fi106 c106_34 fr st k = nextK gS fi106 k .normal fr st := rfl
def c106_30 : Code := .cond (.tmp 23) c106_31 c106_34
theorem e106_30 : evK gS fi106 c106_30 fr st k = condK gS fi106 (fr.op (.tmp 23)).bool? c106_31 c106_34 fr st k := rfl
def c106_28 : Code := .seq c106_29 c106_30
theorem e106_28 : evK gS fi106 c106_28 fr st k = evK gS fi106 c106_29 fr st (.seq c106_30 k) := rfl
def c106_26 : Code := .seq c106_27 c106_28
theorem e106_26 : evK gS fi106 c106_26 fr st k = evK gS fi106 c106_27 fr st (.seq c106_28 k) := rfl
def c106_36 : Code := codeN b106 47
theorem e106_36 : evK gS fi106 c106_36 fr st k = opsR gS fi106 [op1 31 (.move (.tmp 6)) 22,
 op1 32 (.move (.tmp 1)) 22,
 op1 33 (.binOp .lss 22 (.tmp 31) (.tmp 32) 22) 4,
 op1 34 (.move (.tmp 6)) 22,
 op1 35 (.move (.tmp 1)) 22,
 op1 36 (.binOp .gtr 22 (.tmp 34) (.tmp 35) 22) 4,
 op1 37 (.call { callee := (.value (.func 117)), args := #[(.tmp 33), (.tmp 36)], argTypes := #[4, 4] }) 3,
 op1 4 (.assign (.tmp 37)) 3,
 op1 5 (.assign (.const (.bool true))) 4] fr st k := evK_r 11 (by kernel_rfl)
def c106_37 : Code := .ret
theorem e106_37 : evK gS fi106 c106_37 fr st k = nextK gS fi106 k .ret fr st := rfl
def c106_35 : Code := .seq c106_36 c106_37
theorem e106_35 : evK gS fi106 c106_35 fr st k = evK gS fi106 c106_36 fr st (.seq c106_37 k) := rfl
def c106_25 : Code := .seq c106_26 c106_35
theorem e106_25 : evK gS fi106 c106_25 fr st k = evK gS fi106 c106_26 fr st (.seq c106_35 k) := rfl
def c106_23 : Code := .seq c106_24 c106_25
theorem e106_23 : evK gS fi106 c106_23 fr st k = evK gS fi106 c106_24 fr st (.seq c106_25 k) := rfl
def c106_2 : Code := .seq c106_3 c106_23
theorem e106_2 : evK gS fi106 c106_2 fr st k = evK gS fi106 c106_3 fr st (.seq c106_23 k) := rfl
def c106_0 : Code := .seq c106_1 c106_2
theorem e106_0 : evK gS fi106 c106_0 fr st k = evK gS fi106 c106_1 fr st (.seq c106_2 k) := rfl
theorem m106 : mini fi106.body = c106_0 := by kernel_rfl
set_option maxHeartbeats 4000000 in
theorem c106 (n : Int) (x : Nat)  (st : St) : EvF gS 106 [.int .i64 n, .float .f64 x] st = some (.ret (.tuple [.int .i64 (icmp n x).1, .bool (icmp n x).2]) none, st) := by
  refine EvF_start fi106_eq (fun x h => by cases h) m106 ?_
  rw [st106]
  have hm : fi106.marks = [] := rfl
  have hl : fi106.locals = [] := rfl
  have hr : fi106.results = [.tmp 4, .tmp 5] := rfl
  by_cases h1 : feq x x = true
  · by_cases h2 : fge x 4890909195324358656 = true
    · simp (config := { contextual := true, maxSteps := 10000000 }) [icmp, sgn, h1, h2, -Int.not_le, -Int.not_lt, -Nat.not_le, -Nat.not_lt, ty2, ty3, ty4, ty22, hm, hl, hr, k116, k117, e106_1, e106_5, e106_8, e106_9, e106_7, e106_11, e106_14, e106_15, e106_13, e106_17, e106_20, e106_21, e106_19, e106_22, e106_18, e106_16, e106_12, e106_10, e106_6, e106_4, e106_3, e106_24, e106_27, e106_29, e106_32, e106_33, e106_31, e106_34, e106_30, e106_28, e106_26, e106_36, e106_37, e106_35, e106_25, e106_23, e106_2, e106_0]
    · by_cases h3 : flt x 14114281232179134464 = true
      · simp (config := { contextual := true, maxSteps := 10000000 }) [icmp, sgn, h1, h2, h3, -Int.not_le, -Int.not_lt, -Nat.not_le, -Nat.not_lt, ty2, ty3, ty4, ty22, hm, hl, hr, k116, k117, e106_1, e106_5, e106_8, e106_9, e106_7, e106_11, e106_14, e106_15, e106_13, e106_17, e106_20, e106_21, e106_19, e106_22, e106_18, e106_16, e106_12, e106_10, e106_6, e106_4, e106_3, e106_24, e106_27, e106_29, e106_32, e106_33, e106_31, e106_34, e106_30, e106_28, e106_26, e106_36, e106_37, e106_35, e106_25, e106_23, e106_2, e106_0]
      · obtain ⟨e1, e2, e3, e4⟩ := conv_ok x h1 h2 h3
        have e5 : IntKind.min .i64 ≤ ftz x := e3
        have e6 : ftz x ≤ IntKind.max .i64 := e4
        by_cases h4 : ftz x = n
        · subst h4
          simp (config := { contextual := true, maxSteps := 10000000 }) [icmp, h1, h2, h3, k118 x e1, e2, e3, e4, e5, e6, -Int.not_le, -Int.not_lt, -Nat.not_le, -Nat.not_lt, ty2, ty3, ty4, ty22, hm, hl, hr, k116, k117, e106_1, e106_5, e106_8, e106_9, e106_7, e106_11, e106_14, e106_15, e106_13, e106_17, e106_20, e106_21, e106_19, e106_22, e106_18, e106_16, e106_12, e106_10, e106_6, e106_4, e106_3, e106_24, e106_27, e106_29, e106_32, e106_33, e106_31, e106_34, e106_30, e106_28, e106_26, e106_36, e106_37, e106_35, e106_25, e106_23, e106_2, e106_0]
          skip
        · skip
          have h5 : ¬ n = ftz x := fun h => h4 h.symm
          simp (config := { contextual := true, maxSteps := 10000000 }) [icmp, h1, h2, h3, h4, h5, k118 x e1, e2, e3, e4, e5, e6, -Int.not_le, -Int.not_lt, -Nat.not_le, -Nat.not_lt, ty2, ty3, ty4, ty22, hm, hl, hr, k116, k117, e106_1, e106_5, e106_8, e106_9, e106_7, e106_11, e106_14, e106_15, e106_13, e106_17, e106_20, e106_21, e106_19, e106_22, e106_18, e106_16, e106_12, e106_10, e106_6, e106_4, e106_3, e106_24, e106_27, e106_29, e106_32, e106_33, e106_31, e106_34, e106_30, e106_28, e106_26, e106_36, e106_37, e106_35, e106_25, e106_23, e106_2, e106_0]
          skip
  · simp (config := { contextual := true, maxSteps := 10000000 }) [icmp, sgn, h1, -Int.not_le, -Int.not_lt, -Nat.not_le, -Nat.not_lt, ty2, ty3, ty4, ty22, hm, hl, hr, k116, k117, e106_1, e106_5, e106_8, e106_9, e106_7, e106_11, e106_14, e106_15, e106_13, e106_17, e106_20, e106_21, e106_19, e106_22, e106_18, e106_16, e106_12, e106_10, e106_6, e106_4, e106_3, e106_24, e106_27, e106_29, e106_32, e106_33, e106_31, e106_34, e106_30, e106_28, e106_26, e106_36, e106_37, e106_35, e106_25, e106_23, e106_2, e106_0]
theorem k106 (n : Int) (x : Nat)  (fr : Fr) (st : St) : callStep gS (EvF gS) 106 [.int .i64 n, .float .f64 x] fr st = some (.ok (retE none (.tuple [.int .i64 (icmp n x).1, .bool (icmp n x).2])) fr st) :=
  call_pure rfl fi106_eq rfl (fun st => c106 n x  st) (by simp)
def fi107 : FI := { body := codeOf Try.f107, ntmps := 38, results := [.tmp 4, .tmp 5], pers := [0, 1, 4, 5, 6, 7], locals := [], pure := true, marks := [] }
theorem fi107_eq : gS.fn 107 = some fi107 := by kernel_rfl
theorem st107 (a0 a1 : V) : startFr fi107 [a0, a1] = { ps := [(0, .val a0), (1, .val a1), (4, .any), (5, .any), (6, .any), (7, .any)], ts := [], lc := [] } := rfl
def b107 : Code := mini (codeOf Try.f107)
def c107_1 : Code := codeN b107 2
theorem e107_1 : evK gS fi107 c107_1 fr st k = opsR gS fi107 [op1 4 (.assign (.const (.int .i64 0))) 3,
 op1 5 (.assign (.const (.bool false))) 4] fr st k := evK_r 0 (by kernel_rfl)
def c107_5 : Code := codeN b107 17
theorem e107_5 : evK gS fi107 c107_5 fr st k = opsR gS fi107 [op1 9 (.move (.tmp 1)) 22,
 op1 10 (.move (.tmp 1)) 22,
 op1 11 (.binOp .neq 22 (.tmp 9) (.tmp 10) 22) 4,
 op1 8 (.assign (.tmp 11)) 4] fr st k := evK_r 1 (by kernel_rfl)
def c107_8 : Code := codeN b107 73
theorem e107_8 : evK gS fi107 c107_8 fr st k = opsR gS fi107 [op1 4 (.assign (.const (.int .i64 0))) 3,
 op1 5 (.assign (.const (.bool false))) 4] fr st k := evK_r 2 (by kernel_rfl)
def c107_9 : Code := .ret
theorem e107_9 : evK gS fi107 c107_9 fr st k = nextK gS fi107 k .ret fr st := rfl
def c107_7 : Code := .seq c107_8 c107_9
theorem e107_7 : evK gS fi107 c107_7 fr st k = evK gS fi107 c107_8 fr st (.seq c107_9 k) := rfl
def c107_11 : Code := codeN b107 89
theorem e107_11 : evK gS fi107 c107_11 fr st k = opsR gS fi107 [op1 13 (.move (.tmp 1)) 22,
 op1 14 (.binOp .geq 22 (.tmp 13) (.const (.float .f64 4890909195324358656)) 22) 4,
 op1 12 (.assign (.tmp 14)) 4] fr st k := evK_r 3 (by kernel_rfl)
def c107_14 : Code := codeN b107 313
theorem e107_14 : evK gS fi107 c107_14 fr st k = opsR gS fi107 [op1 4 (.assign (.const (.int .i64 (-1)))) 3,
 op1 5 (.assign (.const (.bool true))) 4] fr st k := evK_r 4 (by kernel_rfl)
def c107_15 : Code := .ret
theorem e107_15 : evK gS fi107 c107_15 fr st k = nextK gS fi107 k .ret fr st := rfl
def c107_13 : Code := .seq c107_14 c107_15
theorem e107_13 : evK gS fi107 c107_13 fr st k = evK gS fi107 c107_14 fr st (.seq c107_15 k) := rfl
def c107_17 : Code := codeN b107 377
theorem e107_17 : evK gS fi107 c107_17 fr st k = opsR gS fi107 [op1 16 (.move (.tmp 1)) 22,
 op1 17 (.binOp .lss 22 (.tmp 16) (.const (.float .f64 14114281232179134464)) 22) 4,
 op1 15 (.assign (.tmp 17)) 4] fr st k := evK_r 5 (by kernel_rfl)
def c107_20 : Code := codeN b107 1273
theorem e107_20 : evK gS fi107 c107_20 fr st k = opsR gS fi107 [op1 4 (.assign (.const (.int .i64 1))) 3,
 op1 5 (.assign (.const (.bool true))) 4] fr st k := evK_r 6 (by kernel_rfl)
def c107_21 : Code := .ret
theorem e107_21 : evK gS fi107 c107_21 fr st k = nextK gS fi107 k .ret fr st := rfl
def c107_19 : Code := .seq c107_20 c107_21
theorem e107_19 : evK gS fi107 c107_19 fr st k = evK gS fi107 c107_20 fr st (.seq c107_21 k) := rfl
def c107_22 : Code := .skip
theorem e107_22 : evK gS fi107 c107_22 fr st k = nextK gS fi107 k .normal fr st := rfl
def c107_18 : Code := .cond (.tmp 15) c107_19 c107_22
theorem e107_18 : evK gS fi107 c107_18 fr st k = condK gS fi107 (fr.op (.tmp 15)).bool? c107_19 c107_22 fr st k := rfl
def c107_16 : Code := .seq c107_17 c107_18
theorem e107_16 : evK gS fi107 c107_16 fr st k = evK gS fi107 c107_17 fr st (.seq c107_18 k) := rfl
def c107_12 : Code := .cond (.tmp 12) c107_13 c107_16
theorem e107_12 : evK gS fi107 c107_12 fr st k = condK gS fi107 (fr.op (.tmp 12)).bool? c107_13 c107_16 fr st k := rfl
def c107_10 : Code := .seq c107_11 c107_12
theorem e107_10 : evK gS fi107 c107_10 fr st k = evK gS fi107 c107_11 fr st (.seq c107_12 k) := rfl
def c107_6 : Code := .cond (.tmp 8) c107_7 c107_10
theorem e107_6 : evK gS fi107 c107_6 fr st k = condK gS fi107 (fr.op (.tmp 8)).bool? c107_7 c107_10 fr st k := rfl
def c107_4 : Code := .seq c107_5 c107_6
theorem e107_4 : evK gS fi107 c107_4 fr st k = evK gS fi107 c107_5 fr st (.seq c107_6 k) := rfl
def c107_3 : Code := .block 0 c107_4
theorem e107_3 : evK gS fi107 c107_3 fr st k = evK gS fi107 c107_4 fr st (.blk 0 k) := rfl
def c107_24 : Code := codeN b107 11
theorem e107_24 : evK gS fi107 c107_24 fr st k = opsR gS fi107 [op1 18 (.move (.tmp 1)) 22,
 op1 19 (.call { callee := (.value (.func 118)), args := #[(.tmp 18)], argTypes := #[22] }) 22,
 op1 6 (.assign (.tmp 19)) 22] fr st k := evK_r 7 (by kernel_rfl)
def c107_26 : Code := codeN b107 23
theorem e107_26 : evK gS fi107 c107_26 fr st k = opsR gS fi107 [op1 20 (.move (.tmp 6)) 22,
 op1 21 (.convert 22 2 (.tmp 20)) 2,
 op1 7 (.assign (.tmp 21)) 2] fr st k := evK_r 8 (by kernel_rfl)
def c107_30 : Code := codeN b107 143
theorem e107_30 : evK gS fi107 c107_30 fr st k = opsR gS fi107 [op1 23 (.move (.tmp 0)) 2,
 op1 24 (.move (.tmp 7)) 2,
 op1 25 (.binOp .lss 2 (.tmp 23) (.tmp 24) 2) 4,
 op1 22 (.assign (.tmp 25)) 4] fr st k := evK_r 9 (by kernel_rfl)
def c107_33 : Code := codeN b107 591
theorem e107_33 : evK gS fi107 c107_33 fr st k = opsR gS fi107 [op1 4 (.assign (.const (.int .i64 (-1)))) 3,
 op1 5 (.assign (.const (.bool true))) 4] fr st k := evK_r 10 (by kernel_rfl)
def c107_34 : Code := .ret
theorem e107_34 : evK gS fi107 c107_34 fr st k = nextK gS fi107 k .ret fr st := rfl
def c107_32 : Code := .seq c107_33 c107_34
theorem e107_32 : evK gS fi107 c107_32 fr st k = evK gS fi107 c107_33 fr st (.seq c107_34 k) := rfl
def c107_36 : Code := codeN b107 719
theorem e107_36 : evK gS fi107 c107_36 fr st k = opsR gS fi107 [op1 27 (.move (.tmp 0)) 2,
 op1 28 (.move (.tmp 7)) 2,
 op1 29 (.binOp .gtr 2 (.tmp 27) (.tmp 28) 2) 4,
 op1 26 (.assign (.tmp 29)) 4] fr st k := evK_r 11 (by kernel_rfl)
def c107_39 : Code := codeN b107 2511
theorem e107_39 : evK gS fi107 c107_39 fr st k = opsR gS fi107 [op1 4 (.assign (.const (.int .i64 1))) 3,
 op1 5 (.assign (.const (.bool true))) 4] fr st k := evK_r 12 (by kernel_rfl)
def c107_40 : Code := .ret
theorem e107_40 : evK gS fi107 c107_40 fr st k = nextK gS fi107 k .ret fr st := rfl
def c107_38 : Code := .seq c107_39 c107_40
theorem e107_38 : evK gS fi107 c107_38 fr st k = evK gS fi107 c107_39 fr st (.seq c107_40 k) := rfl
def c107_42 : Code := codeN b107 3023
theorem e107_42 : evK gS fi107 c107_42 fr st k = opsR gS fi107 [op1 31 (.move (.tmp 6)) 22,
 op1 32 (.move (.tmp 1)) 22,
 op1 33 (.binOp .lss 22 (.tmp 31) (.tmp 32) 22) 4,
 op1 30 (.assign (.tmp 33)) 4] fr st k := evK_r 13 (by kernel_rfl)
def c107_45 : Code := codeN b107 10191
theorem e107_45 : evK gS fi107 c107_45 fr st k = opsR gS fi107 [op1 4 (.assign (.const (.int .i64 (-1)))) 3,
 op1 5 (.assign (.const (.bool true))) 4] fr st k := evK_r 14 (by kernel_rfl)
def c107_46 : Code := .ret
theorem e107_46 : evK gS fi107 c107_46 fr st k = nextK gS fi107 k .ret fr st := rfl
def c107_44 : Code := .seq c107_45 c107_46
theorem e107_44 : evK gS fi107 c107_44 fr st k = evK gS fi107 c107_45 fr st (.seq c107_46 k) := rfl
def c107_48 : Code := codeN b107 12239
theorem e107_48 : evK gS fi107 c107_48 fr st k = opsR gS fi107 [op1 35 (.move (.tmp 6)) 22,
 op1 36 (.move (.tmp 1)) 22,
 op1 37 (.binOp .gtr 22 (.tmp 35) (.tmp 36) 22) 4,
 op1 34 (.assign (.tmp 37)) 4] fr st k := evK_r 15 (by kernel_rfl)
def c107_51 : Code := codeN b107 40911
theorem e107_51 : evK gS fi107 c107_51 fr st k = opsR gS fi107 [op1 4 (.assign (.const (.int .i64 1))) 3,
 op1 5 (.assign (.const (.bool true))) 4] fr st k := evK_r 16 (by kernel_rfl)
def c107_52 : Code := .ret
theorem e107_52 : evK gS fi107 c107_52 fr st k = nextK gS fi107 k .ret fr st := rfl
def c107_50 : Code := .seq c107_51 c107_52
theorem e107_50 : evK gS fi107 c107_50 fr st k = evK gS fi107 c107_51 fr st (.seq c107_52 k) := rfl
def c107_53 : Code := .skip
theorem e107_53 : evK gS fi107 c107_53 fr st k = nextK gS fi107 k .normal fr st := rfl
def c107_49 : Code := .cond (.tmp 34) c107_50 c107_53
theorem e107_49 : evK gS fi107 c107_49 fr st k = condK gS fi107 (fr.op (.tmp 34)).bool? c107_50 c107_53 fr st k := rfl
def c107_47 : Code := .seq c107_48 c107_49
theorem e107_47 : evK gS fi107 c107_47 fr st k = evK gS fi107 c107_48 fr st (.seq c107_49 k) := rfl
def c107_43 : Code := .cond (.tmp 30) c107_44 c107_47
theorem e107_43 : evK gS fi107 c107_43 fr st k = condK gS fi107 (fr.op (.tmp 30)).bool? c107_44 c107_47 fr st k := rfl
def c107_41 : Code := .seq c107_42 c107_43
theorem e107_41 : evK gS fi107 c107_41 fr st k = evK gS fi107 c107_42 fr st (.seq c107_43 k) := rfl
def c107_37 : Code := .cond (.tmp 26) c107_38 c107_41
theorem e107_37 : evK gS fi107 c107_37 fr st k = condK gS fi107 (fr.op (.tmp 26)).bool? c107_38 c107_41 fr st k := rfl
def c107_35 : Code := .seq c107_36 c107_37
theorem e107_35 : evK gS fi107 c107_35 fr st k = evK gS fi107 c107_36 fr st (.seq c107_37 k) := rfl
def c107_31 : Code := .cond (.tmp 22) c107_32 c107_35
theorem e107_31 : evK gS fi107 c107_31 fr st k = condK gS fi107 (fr.op (.tmp 22)).bool? c107_32 c107_35 fr st k := rfl
def c107_29 : Code := .seq c107_30 c107_31
theorem e107_29 : evK gS fi107 c107_29 fr st k = evK gS fi107 c107_30 fr st (.seq c107_31 k) := rfl
def c107_28 : Code := .block 1 c107_29
theorem e107_28 : evK gS fi107 c107_28 fr st k = evK gS fi107 c107_29 fr st (.blk 1 k) := rfl
def c107_55 : Code := codeN b107 95
theorem e107_55 : evK gS fi107 c107_55 fr st k = opsR gS fi107 [op1 4 (.assign (.const (.int .i64 0))) 3,
 op1 5 (.assign (.const (.bool true))) 4] fr st k := evK_r 17 (by kernel_rfl)
def c107_56 : Code := .ret
theorem e107_56 : evK gS fi107 c107_56 fr st k = nextK gS fi107 k .ret fr st := rfl
def c107_54 : Code := .seq c107_55 c107_56
theorem e107_54 : evK gS fi107 c107_54 fr st k = evK gS fi107 c107_55 fr st (.seq c107_56 k) := rfl
def c107_27 : Code := .seq c107_28 c107_54
theorem e107_27 : evK gS fi107 c107_27 fr st k = evK gS fi107 c107_28 fr st (.seq c107_54 k) := rfl
def c107_25 : Code := .seq c107_26 c107_27
theorem e107_25 : evK gS fi107 c107_25 fr st k = evK gS fi107 c107_26 fr st (.seq c107_27 k) := rfl
def c107_23 : Code := .seq c107_24 c107_25
theorem e107_23 : evK gS fi107 c107_23 fr st k = evK gS fi107 c107_24 fr st (.seq c107_25 k) := rfl
def c107_2 : Code := .seq c107_3 c107_23
theorem e107_2 : evK gS fi107 c107_2 fr st k = evK gS fi107 c107_3 fr st (.seq c107_23 k) := rfl
def c107_0 : Code := .seq c107_1 c107_2
theorem e107_0 : evK gS fi107 c107_0 fr st k = evK gS fi107 c107_1 fr st (.seq c107_2 k) := rfl
theorem m107 : mini fi107.body = c107_0 := by kernel_rfl
set_option maxHeartbeats 4000000 in
theorem c107 (n : Int) (x : Nat)  (st : St) : EvF gS 107 [.int .i64 n, .float .f64 x] st = some (.ret (.tuple [.int .i64 (icmp n x).1, .bool (icmp n x).2]) none, st) := by
  refine EvF_start fi107_eq (fun x h => by cases h) m107 ?_
  rw [st107]
  have hm : fi107.marks = [] := rfl
  have hl : fi107.locals = [] := rfl
  have hr : fi107.results = [.tmp 4, .tmp 5] := rfl
  by_cases h1 : feq x x = true
  · by_cases h2 : fge x 4890909195324358656 = true
    · simp (config := { contextual := true, maxSteps := 10000000 }) [icmp, sgn, h1, h2, -Int.not_le, -Int.not_lt, -Nat.not_le, -Nat.not_lt, ty2, ty3, ty4, ty22, hm, hl, hr, e107_1, e107_5, e107_8, e107_9, e107_7, e107_11, e107_14, e107_15, e107_13, e107_17, e107_20, e107_21, e107_19, e107_22, e107_18, e107_16, e107_12, e107_10, e107_6, e107_4, e107_3, e107_24, e107_26, e107_30, e107_33, e107_34, e107_32, e107_36, e107_39, e107_40, e107_38, e107_42, e107_45, e107_46, e107_44, e107_48, e107_51, e107_52, e107_50, e107_53, e107_49, e107_47, e107_43, e107_41, e107_37, e107_35, e107_31, e107_29, e107_28, e107_55, e107_56, e107_54, e107_27, e107_25, e107_23, e107_2, e107_0]
    · by_cases h3 : flt x 14114281232179134464 = true
      · simp (config := { contextual := true, maxSteps := 10000000 }) [icmp, sgn, h1, h2, h3, -Int.not_le, -Int.not_lt, -Nat.not_le, -Nat.not_lt, ty2, ty3, ty4, ty22, hm, hl, hr, e107_1, e107_5, e107_8, e107_9, e107_7, e107_11, e107_14, e107_15, e107_13, e107_17, e107_20, e107_21, e107_19, e107_22, e107_18, e107_16, e107_12, e107_10, e107_6, e107_4, e107_3, e107_24, e107_26, e107_30, e107_33, e107_34, e107_32, e107_36, e107_39, e107_40, e107_38, e107_42, e107_45, e107_46, e107_44, e107_48, e107_51, e107_52, e107_50, e107_53, e107_49, e107_47, e107_43, e107_41, e107_37, e107_35, e107_31, e107_29, e107_28, e107_55, e107_56, e107_54, e107_27, e107_25, e107_23, e107_2, e107_0]
      · obtain ⟨e1, e2, e3, e4⟩ := conv_ok x h1 h2 h3
        have e5 : IntKind.min .i64 ≤ ftz x := e3
        have e6 : ftz x ≤ IntKind.max .i64 := e4
        by_cases h4 : ftz x = n
        · subst h4
          simp (config := { contextual := true, maxSteps := 10000000 }) [icmp, h1, h2, h3, k118 x e1, e2, e3, e4, e5, e6, -Int.not_le, -Int.not_lt, -Nat.not_le, -Nat.not_lt, ty2, ty3, ty4, ty22, hm, hl, hr, e107_1, e107_5, e107_8, e107_9, e107_7, e107_11, e107_14, e107_15, e107_13, e107_17, e107_20, e107_21, e107_19, e107_22, e107_18, e107_16, e107_12, e107_10, e107_6, e107_4, e107_3, e107_24, e107_26, e107_30, e107_33, e107_34, e107_32, e107_36, e107_39, e107_40, e107_38, e107_42, e107_45, e107_46, e107_44, e107_48, e107_51, e107_52, e107_50, e107_53, e107_49, e107_47, e107_43, e107_41, e107_37, e107_35, e107_31, e107_29, e107_28, e107_55, e107_56, e107_54, e107_27, e107_25, e107_23, e107_2, e107_0]
          simp (config := { contextual := true }) [sgn]
        · skip
          have h5 : ¬ n = ftz x := fun h => h4 h.symm
          rcases Int.lt_or_gt_of_ne h5 with h6 | h6
          · have h7 : ¬ ftz x < n := by omega
            simp (config := { contextual := true, maxSteps := 10000000 }) [icmp, h1, h2, h3, h4, h5, h6, h7, sgn, k118 x e1, e2, e3, e4, e5, e6, -Int.not_le, -Int.not_lt, -Nat.not_le, -Nat.not_lt, ty2, ty3, ty4, ty22, hm, hl, hr, e107_1, e107_5, e107_8, e107_9, e107_7, e107_11, e107_14, e107_15, e107_13, e107_17, e107_20, e107_21, e107_19, e107_22, e107_18, e107_16, e107_12, e107_10, e107_6, e107_4, e107_3, e107_24, e107_26, e107_30, e107_33, e107_34, e107_32, e107_36, e107_39, e107_40, e107_38, e107_42, e107_45, e107_46, e107_44, e107_48, e107_51, e107_52, e107_50, e107_53, e107_49, e107_47, e107_43, e107_41, e107_37, e107_35, e107_31, e107_29, e107_28, e107_55, e107_56, e107_54, e107_27, e107_25, e107_23, e107_2, e107_0]
          have h7 : ¬ n < ftz x := by omega
          simp (config := { contextual := true, maxSteps := 10000000 }) [icmp, h1, h2, h3, h4, h5, h6, h7, sgn, k118 x e1, e2, e3, e4, e5, e6, -Int.not_le, -Int.not_lt, -Nat.not_le, -Nat.not_lt, ty2, ty3, ty4, ty22, hm, hl, hr, e107_1, e107_5, e107_8, e107_9, e107_7, e107_11, e107_14, e107_15, e107_13, e107_17, e107_20, e107_21, e107_19, e107_22, e107_18, e107_16, e107_12, e107_10, e107_6, e107_4, e107_3, e107_24, e107_26, e107_30, e107_33, e107_34, e107_32, e107_36, e107_39, e107_40, e107_38, e107_42, e107_45, e107_46, e107_44, e107_48, e107_51, e107_52, e107_50, e107_53, e107_49, e107_47, e107_43, e107_41, e107_37, e107_35, e107_31, e107_29, e107_28, e107_55, e107_56, e107_54, e107_27, e107_25, e107_23, e107_2, e107_0]
  · simp (config := { contextual := true, maxSteps := 10000000 }) [icmp, sgn, h1, -Int.not_le, -Int.not_lt, -Nat.not_le, -Nat.not_lt, ty2, ty3, ty4, ty22, hm, hl, hr, e107_1, e107_5, e107_8, e107_9, e107_7, e107_11, e107_14, e107_15, e107_13, e107_17, e107_20, e107_21, e107_19, e107_22, e107_18, e107_16, e107_12, e107_10, e107_6, e107_4, e107_3, e107_24, e107_26, e107_30, e107_33, e107_34, e107_32, e107_36, e107_39, e107_40, e107_38, e107_42, e107_45, e107_46, e107_44, e107_48, e107_51, e107_52, e107_50, e107_53, e107_49, e107_47, e107_43, e107_41, e107_37, e107_35, e107_31, e107_29, e107_28, e107_55, e107_56, e107_54, e107_27, e107_25, e107_23, e107_2, e107_0]
theorem k107 (n : Int) (x : Nat)  (fr : Fr) (st : St) : callStep gS (EvF gS) 107 [.int .i64 n, .float .f64 x] fr st = some (.ok (retE none (.tuple [.int .i64 (icmp n x).1, .bool (icmp n x).2])) fr st) :=
  call_pure rfl fi107_eq rfl (fun st => c107 n x  st) (by simp)
def fi119 : FI := { body := codeOf Try.f119, ntmps := 9, results := [.tmp 2], pers := [0, 2], locals := [], pure := true, marks := [] }
theorem fi119_eq : gS.fn 119 = some fi119 := by kernel_rfl
theorem st119 (a0 : V) : startFr fi119 [a0] = { ps := [(0, .val a0), (2, .any)], ts := [], lc := [] } := rfl
def b119 : Code := mini (codeOf Try.f119)
def c119_1 : Code := codeN b119 2
theorem e119_1 : evK gS fi119 c119_1 fr st k = opsR gS fi119 [op1 2 (.assign (.const (.int .u64 0))) 123] fr st k := evK_r 0 (by kernel_rfl)
def c119_4 : Code := codeN b119 9
theorem e119_4 : evK gS fi119 c119_4 fr st k = opsR gS fi119 [op1 3 (.move (.tmp 0)) 22,
 op1 4 (.call { callee := (.value (.func 116)), args := #[(.tmp 3)], argTypes := #[22] }) 4] fr st k := evK_r 1 (by kernel_rfl)
def c119_7 : Code := codeN b119 37
theorem e119_7 : evK gS fi119 c119_7 fr st k = opsR gS fi119 [op1 2 (.assign (.const (.int .u64 9221120237041090560))) 123] fr st k := evK_r 2 (by kernel_rfl)
def c119_8 : Code := .ret
theorem e119_8 : evK gS fi119 c119_8 fr st k = nextK gS fi119 k .ret fr st := rfl
def c119_6 : Code := .seq c119_7 c119_8
theorem e119_6 : evK gS fi119 c119_6 fr st k = evK gS fi119 c119_7 fr st (.seq c119_8 k) := rfl
def c119_9 : Code := .skip
theorem e119_9 : evK gS fi119 c119_9 fr st k = nextK gS fi119 k .normal fr st := rfl
def c119_5 : Code := .cond (.tmp 4) c119_6 c119_9
theorem e119_5 : evK gS fi119 c119_5 fr st k = condK gS fi119 (fr.op (.tmp 4)).bool? c119_6 c119_9 fr st k := rfl
def c119_3 : Code := .seq c119_4 c119_5
theorem e119_3 : evK gS fi119 c119_3 fr st k = evK gS fi119 c119_4 fr st (.seq c119_5 k) := rfl
def c119_12 : Code := codeN b119 19
theorem e119_12 : evK gS fi119 c119_12 fr st k = opsR gS fi119 [op1 5 (.move (.tmp 0)) 22,
 op1 6 (.binOp .eql 22 (.tmp 5) (.const (.float .f64 0)) 22) 4] fr st k := evK_r 3 (by kernel_rfl)
def c119_15 : Code := codeN b119 75
theorem e119_15 : evK gS fi119 c119_15 fr st k = opsR gS fi119 [op1 2 (.assign (.const (.int .u64 0))) 123] fr st k := evK_r 4 (by kernel_rfl)
def c119_16 : Code := .ret
theorem e119_16 : evK gS fi119 c119_16 fr st k = nextK gS fi119 k .ret fr st := rfl
def c119_14 : Code := .seq c119_15 c119_16
theorem e119_14 : evK gS fi119 c119_14 fr st k = evK gS fi119 c119_15 fr st (.seq c119_16 k) := rfl
def c119_17 : Code := .skip
theorem e119_17 : evK gS fi119 c119_17 fr st k = nextK gS fi119 k .normal fr st := rfl
def c119_13 : Code := .cond (.tmp 6) c119_14 c119_17
theorem e119_13 : evK gS fi119 c119_13 fr st k = condK gS fi119 (fr.op (.tmp 6)).bool? c119_14 c119_17 fr st k := rfl
def c119_11 : Code := .seq c119_12 c119_13
theorem e119_11 : evK gS fi119 c119_11 fr st k = evK gS fi119 c119_12 fr st (.seq c119_13 k) := rfl
def c119_19 : Code := codeN b119 23
theorem e119_19 : evK gS fi119 c119_19 fr st k = opsR gS fi119 [op1 7 (.move (.tmp 0)) 22,
 op1 8 (.call { callee := (.value (.func 115)), args := #[(.tmp 7)], argTypes := #[22] }) 123,
 op1 2 (.assign (.tmp 8)) 123] fr st k := evK_r 5 (by kernel_rfl)
def c119_20 : Code := .ret
theorem e119_20 : evK gS fi119 c119_20 fr st k = nextK gS fi119 k .ret fr st := rfl
def c119_18 : Code := .seq c119_19 c119_20
theorem e119_18 : evK gS fi119 c119_18 fr st k = evK gS fi119 c119_19 fr st (.seq c119_20 k) := rfl
def c119_10 : Code := .seq c119_11 c119_18
theorem e119_10 : evK gS fi119 c119_10 fr st k = evK gS fi119 c119_11 fr st (.seq c119_18 k) := rfl
def c119_2 : Code := .seq c119_3 c119_10
theorem e119_2 : evK gS fi119 c119_2 fr st k = evK gS fi119 c119_3 fr st (.seq c119_10 k) := rfl
def c119_0 : Code := .seq c119_1 c119_2
theorem e119_0 : evK gS fi119 c119_0 fr st k = evK gS fi119 c119_1 fr st (.seq c119_2 k) := rfl
theorem m119 : mini fi119.body = c119_0 := by kernel_rfl
set_option maxHeartbeats 4000000 in
theorem c119 (x : Nat)  (st : St) : EvF gS 119 [.float .f64 x] st = some (.ret (.int .u64 (fbits x)) none, st) := by
  refine EvF_start fi119_eq (fun x h => by cases h) m119 ?_
  rw [st119]
  have hm : fi119.marks = [] := rfl
  have hl : fi119.locals = [] := rfl
  have hr : fi119.results = [.tmp 2] := rfl
  simp (config := { contextual := true, maxSteps := 10000000, maxDischargeDepth := 6 }) [-Int.not_le, -Int.not_lt, -Nat.not_le, -Nat.not_lt, ty4, ty22, ty123, hm, hl, hr, k115, k116, e119_1, e119_4, e119_7, e119_8, e119_6, e119_9, e119_5, e119_3, e119_12, e119_15, e119_16, e119_14, e119_17, e119_13, e119_11, e119_19, e119_20, e119_18, e119_10, e119_2, e119_0]
  all_goals try simp (config := { contextual := true }) [-Int.not_le, -Int.not_lt, -Nat.not_le, -Nat.not_lt, fbits]
  all_goals first | done | grind | omega | (trace_state; fail)
theorem k119 (x : Nat)  (fr : Fr) (st : St) : callStep gS (EvF gS) 119 [.float .f64 x] fr st = some (.ok (retE none (.int .u64 (fbits x))) fr st) :=
  call_pure rfl fi119_eq rfl (fun st => c119 x  st) (by simp)
def fi110 : FI := { body := codeOf Try.f110, ntmps := 10, results := [.tmp 2], pers := [0, 2], locals := [], pure := true, marks := [] }
theorem fi110_eq : gS.fn 110 = some fi110 := by kernel_rfl
theorem st110 (a0 : V) : startFr fi110 [a0] = { ps := [(0, .val a0), (2, .any)], ts := [], lc := [] } := rfl
def b110 : Code := mini (codeOf Try.f110)
def c110_1 : Code := codeN b110 2
theorem e110_1 : evK gS fi110 c110_1 fr st k = opsR gS fi110 [op1 2 (.assign (.const (.int .u64 0))) 123] fr st k := evK_r 0 (by kernel_rfl)
def c110_4 : Code := codeN b110 9
theorem e110_4 : evK gS fi110 c110_4 fr st k = opsR gS fi110 [op1 3 (.move (.tmp 0)) 22,
 op1 4 (.move (.tmp 0)) 22,
 op1 5 (.binOp .neq 22 (.tmp 3) (.tmp 4) 22) 4] fr st k := evK_r 1 (by kernel_rfl)
def c110_7 : Code := codeN b110 37
theorem e110_7 : evK gS fi110 c110_7 fr st k = opsR gS fi110 [op1 2 (.assign (.const (.int .u64 9221120237041090560))) 123] fr st k := evK_r 2 (by kernel_rfl)
def c110_8 : Code := .ret
theorem e110_8 : evK gS fi110 c110_8 fr st k = nextK gS fi110 k .ret fr st := rfl
def c110_6 : Code := .seq c110_7 c110_8
theorem e110_6 : evK gS fi110 c110_6 fr st k = evK gS fi110 c110_7 fr st (.seq c110_8 k) := rfl
def c110_9 : Code := .skip
theorem e110_9 : evK gS fi110 c110_9 fr st k = nextK gS fi110 k .normal fr st := rfl
def c110_5 : Code := .cond (.tmp 5) c110_6 c110_9
theorem e110_5 : evK gS fi110 c110_5 fr st k = condK gS fi110 (fr.op (.tmp 5)).bool? c110_6 c110_9 fr st k := rfl
def c110_3 : Code := .seq c110_4 c110_5
theorem e110_3 : evK gS fi110 c110_3 fr st k = evK gS fi110 c110_4 fr st (.seq c110_5 k) := rfl
def c110_12 : Code := codeN b110 19
theorem e110_12 : evK gS fi110 c110_12 fr st k = opsR gS fi110 [op1 6 (.move (.tmp 0)) 22,
 op1 7 (.binOp .eql 22 (.tmp 6) (.const (.float .f64 0)) 22) 4] fr st k := evK_r 3 (by kernel_rfl)
def c110_15 : Code := codeN b110 75
theorem e110_15 : evK gS fi110 c110_15 fr st k = opsR gS fi110 [op1 2 (.assign (.const (.int .u64 0))) 123] fr st k := evK_r 4 (by kernel_rfl)
def c110_16 : Code := .ret
theorem e110_16 : evK gS fi110 c110_16 fr st k = nextK gS fi110 k .ret fr st := rfl
def c110_14 : Code := .seq c110_15 c110_16
theorem e110_14 : evK gS fi110 c110_14 fr st k = evK gS fi110 c110_15 fr st (.seq c110_16 k) := rfl
def c110_17 : Code := .skip
theorem e110_17 : evK gS fi110 c110_17 fr st k = nextK gS fi110 k .normal fr st := rfl
def c110_13 : Code := .cond (.tmp 7) c110_14 c110_17
theorem e110_13 : evK gS fi110 c110_13 fr st k = condK gS fi110 (fr.op (.tmp 7)).bool? c110_14 c110_17 fr st k := rfl
def c110_11 : Code := .seq c110_12 c110_13
theorem e110_11 : evK gS fi110 c110_11 fr st k = evK gS fi110 c110_12 fr st (.seq c110_13 k) := rfl
def c110_19 : Code := codeN b110 23
theorem e110_19 : evK gS fi110 c110_19 fr st k = opsR gS fi110 [op1 8 (.move (.tmp 0)) 22,
 op1 9 (.call { callee := (.value (.func 115)), args := #[(.tmp 8)], argTypes := #[22] }) 123,
 op1 2 (.assign (.tmp 9)) 123] fr st k := evK_r 5 (by kernel_rfl)
def c110_20 : Code := .ret
theorem e110_20 : evK gS fi110 c110_20 fr st k = nextK gS fi110 k .ret fr st := rfl
def c110_18 : Code := .seq c110_19 c110_20
theorem e110_18 : evK gS fi110 c110_18 fr st k = evK gS fi110 c110_19 fr st (.seq c110_20 k) := rfl
def c110_10 : Code := .seq c110_11 c110_18
theorem e110_10 : evK gS fi110 c110_10 fr st k = evK gS fi110 c110_11 fr st (.seq c110_18 k) := rfl
def c110_2 : Code := .seq c110_3 c110_10
theorem e110_2 : evK gS fi110 c110_2 fr st k = evK gS fi110 c110_3 fr st (.seq c110_10 k) := rfl
def c110_0 : Code := .seq c110_1 c110_2
theorem e110_0 : evK gS fi110 c110_0 fr st k = evK gS fi110 c110_1 fr st (.seq c110_2 k) := rfl
theorem m110 : mini fi110.body = c110_0 := by kernel_rfl
set_option maxHeartbeats 4000000 in
theorem c110 (x : Nat)  (st : St) : EvF gS 110 [.float .f64 x] st = some (.ret (.int .u64 (fbits x)) none, st) := by
  refine EvF_start fi110_eq (fun x h => by cases h) m110 ?_
  rw [st110]
  have hm : fi110.marks = [] := rfl
  have hl : fi110.locals = [] := rfl
  have hr : fi110.results = [.tmp 2] := rfl
  simp (config := { contextual := true, maxSteps := 10000000, maxDischargeDepth := 6 }) [-Int.not_le, -Int.not_lt, -Nat.not_le, -Nat.not_lt, ty4, ty22, ty123, hm, hl, hr, k115, e110_1, e110_4, e110_7, e110_8, e110_6, e110_9, e110_5, e110_3, e110_12, e110_15, e110_16, e110_14, e110_17, e110_13, e110_11, e110_19, e110_20, e110_18, e110_10, e110_2, e110_0]
  all_goals try simp (config := { contextual := true }) [-Int.not_le, -Int.not_lt, -Nat.not_le, -Nat.not_lt, fbits]
  all_goals first | done | grind | omega | (trace_state; fail)
theorem k110 (x : Nat)  (fr : Fr) (st : St) : callStep gS (EvF gS) 110 [.float .f64 x] fr st = some (.ok (retE none (.int .u64 (fbits x))) fr st) :=
  call_pure rfl fi110_eq rfl (fun st => c110 x  st) (by simp)
theorem x110 : gS.ext 110 = none := rfl
theorem p110 : fi110.pure = true := rfl
def fi109 : FI := { body := codeOf Try.f109, ntmps := 10, results := [.tmp 4], pers := [0, 1, 4], locals := [], pure := true, marks := [] }
theorem fi109_eq : gS.fn 109 = some fi109 := by kernel_rfl
theorem st109 (a0 a1 : V) : startFr fi109 [a0, a1] = { ps := [(0, .val a0), (1, .val a1), (4, .any)], ts := [], lc := [] } := rfl
def b109 : Code := mini (codeOf Try.f109)
def c109_1 : Code := codeN b109 2
theorem e109_1 : evK gS fi109 c109_1 fr st k = opsR gS fi109 [op1 4 (.assign (.const (.bool false))) 4] fr st k := evK_r 0 (by kernel_rfl)
def c109_3 : Code := codeN b109 5
theorem e109_3 : evK gS fi109 c109_3 fr st k = opsR gS fi109 [op1 5 (.move (.tmp 0)) 22,
 op1 6 (.call { callee := (.value (.func 119)), args := #[(.tmp 5)], argTypes := #[22] }) 123,
 op1 7 (.move (.tmp 1)) 22,
 op1 8 (.call { callee := (.value (.func 119)), args := #[(.tmp 7)], argTypes := #[22] }) 123,
 op1 9 (.binOp .eql 123 (.tmp 6) (.tmp 8) 123) 4,
 op1 4 (.assign (.tmp 9)) 4] fr st k := evK_r 1 (by kernel_rfl)
def c109_4 : Code := .ret
theorem e109_4 : evK gS fi109 c109_4 fr st k = nextK gS fi109 k .ret fr st := rfl
def c109_2 : Code := .seq c109_3 c109_4
theorem e109_2 : evK gS fi109 c109_2 fr st k = evK gS fi109 c109_3 fr st (.seq c109_4 k) := rfl
def c109_0 : Code := .seq c109_1 c109_2
theorem e109_0 : evK gS fi109 c109_0 fr st k = evK gS fi109 c109_1 fr st (.seq c109_2 k) := rfl
theorem m109 : mini fi109.body = c109_0 := by kernel_rfl
set_option maxHeartbeats 4000000 in
theorem c109 (a : Nat) (b : Nat)  (st : St) : EvF gS 109 [.float .f64 a, .float .f64 b] st = some (.ret (.bool (fbits a = fbits b)) none, st) := by
  refine EvF_start fi109_eq (fun x h => by cases h) m109 ?_
  rw [st109]
  have hm : fi109.marks = [] := rfl
  have hl : fi109.locals = [] := rfl
  have hr : fi109.results = [.tmp 4] := rfl
  simp (config := { contextual := true, maxSteps := 10000000, maxDischargeDepth := 6 }) [-Int.not_le, -Int.not_lt, -Nat.not_le, -Nat.not_lt, ty4, ty22, ty123, hm, hl, hr, k119, e109_1, e109_3, e109_4, e109_2, e109_0]
  all_goals first | done | grind | omega | (trace_state; fail)
theorem k109 (a : Nat) (b : Nat)  (fr : Fr) (st : St) : callStep gS (EvF gS) 109 [.float .f64 a, .float .f64 b] fr st = some (.ok (retE none (.bool (fbits a = fbits b))) fr st) :=
  call_pure rfl fi109_eq rfl (fun st => c109 a b  st) (by simp)
def fi104 : FI := { body := codeOf Try.f104, ntmps := 7, results := [.tmp 4], pers := [0, 1, 4], locals := [], pure := true, marks := [] }
theorem fi104_eq : gS.fn 104 = some fi104 := by kernel_rfl
theorem st104 (a0 a1 : V) : startFr fi104 [a0, a1] = { ps := [(0, .val a0), (1, .val a1), (4, .any)], ts := [], lc := [] } := rfl
def b104 : Code := mini (codeOf Try.f104)
def c104_1 : Code := codeN b104 2
theorem e104_1 : evK gS fi104 c104_1 fr st k = opsR gS fi104 [op1 4 (.assign (.const (.int .i64 0))) 3] fr st k := evK_r 0 (by kernel_rfl)
def c104_4 : Code := codeN b104 9
theorem e104_4 : evK gS fi104 c104_4 fr st k = opsR gS fi104 [op1 5 (.move (.tmp 0)) 4] fr st k := evK_r 1 (by kernel_rfl)
def c104_7 : Code := codeN b104 37
theorem e104_7 : evK gS fi104 c104_7 fr st k = opsR gS fi104 [op1 4 (.assign (.const (.int .i64 (-1)))) 3] fr st k := evK_r 2 (by kernel_rfl)
def c104_8 : Code := .ret
theorem e104_8 : evK gS fi104 c104_8 fr st k = nextK gS fi104 k .ret fr st := rfl
def c104_6 : Code := .seq c104_7 c104_8
theorem e104_6 : evK gS fi104 c104_6 fr st k = evK gS fi104 c104_7 fr st (.seq c104_8 k) := rfl
def c104_9 : Code := .skip
theorem e104_9 : evK gS fi104 c104_9 fr st k = nextK gS fi104 k .normal fr st := rfl
def c104_5 : Code := .cond (.tmp 5) c104_6 c104_9
theorem e104_5 : evK gS fi104 c104_5 fr st k = condK gS fi104 (fr.op (.tmp 5)).bool? c104_6 c104_9 fr st k := rfl
def c104_3 : Code := .seq c104_4 c104_5
theorem e104_3 : evK gS fi104 c104_3 fr st k = evK gS fi104 c104_4 fr st (.seq c104_5 k) := rfl
def c104_12 : Code := codeN b104 19
theorem e104_12 : evK gS fi104 c104_12 fr st k = opsR gS fi104 [op1 6 (.move (.tmp 1)) 4] fr st k := evK_r 3 (by kernel_rfl)
def c104_15 : Code := codeN b104 75
theorem e104_15 : evK gS fi104 c104_15 fr st k = opsR gS fi104 [op1 4 (.assign (.const (.int .i64 1))) 3] fr st k := evK_r 4 (by kernel_rfl)
def c104_16 : Code := .ret
theorem e104_16 : evK gS fi104 c104_16 fr st k = nextK gS fi104 k .ret fr st := rfl
def c104_14 : Code := .seq c104_15 c104_16
theorem e104_14 : evK gS fi104 c104_14 fr st k = evK gS fi104 c104_15 fr st (.seq c104_16 k) := rfl
def c104_17 : Code := .skip
theorem e104_17 : evK gS fi104 c104_17 fr st k = nextK gS fi104 k .normal fr st := rfl
def c104_13 : Code := .cond (.tmp 6) c104_14 c104_17
theorem e104_13 : evK gS fi104 c104_13 fr st k = condK gS fi104 (fr.op (.tmp 6)).bool? c104_14 c104_17 fr st k := rfl
def c104_11 : Code := .seq c104_12 c104_13
theorem e104_11 : evK gS fi104 c104_11 fr st k = evK gS fi104 c104_12 fr st (.seq c104_13 k) := rfl
def c104_19 : Code := codeN b104 23
theorem e104_19 : evK gS fi104 c104_19 fr st k = opsR gS fi104 [op1 4 (.assign (.const (.int .i64 0))) 3] fr st k := evK_r 5 (by kernel_rfl)
def c104_20 : Code := .ret
theorem e104_20 : evK gS fi104 c104_20 fr st k = nextK gS fi104 k .ret fr st := rfl
def c104_18 : Code := .seq c104_19 c104_20
theorem e104_18 : evK gS fi104 c104_18 fr st k = evK gS fi104 c104_19 fr st (.seq c104_20 k) := rfl
def c104_10 : Code := .seq c104_11 c104_18
theorem e104_10 : evK gS fi104 c104_10 fr st k = evK gS fi104 c104_11 fr st (.seq c104_18 k) := rfl
def c104_2 : Code := .seq c104_3 c104_10
theorem e104_2 : evK gS fi104 c104_2 fr st k = evK gS fi104 c104_3 fr st (.seq c104_10 k) := rfl
def c104_0 : Code := .seq c104_1 c104_2
theorem e104_0 : evK gS fi104 c104_0 fr st k = evK gS fi104 c104_1 fr st (.seq c104_2 k) := rfl
theorem m104 : mini fi104.body = c104_0 := by kernel_rfl
set_option maxHeartbeats 4000000 in
theorem c104 (b : Bool) (a : Bool)  (st : St) : EvF gS 104 [.bool b, .bool a] st = some (.ret (.int .i64 (sgn b a)) none, st) := by
  refine EvF_start fi104_eq (fun x h => by cases h) m104 ?_
  rw [st104]
  have hm : fi104.marks = [] := rfl
  have hl : fi104.locals = [] := rfl
  have hr : fi104.results = [.tmp 4] := rfl
  simp (config := { contextual := true, maxSteps := 10000000, maxDischargeDepth := 6 }) [-Int.not_le, -Int.not_lt, -Nat.not_le, -Nat.not_lt, ty3, ty4, hm, hl, hr, e104_1, e104_4, e104_7, e104_8, e104_6, e104_9, e104_5, e104_3, e104_12, e104_15, e104_16, e104_14, e104_17, e104_13, e104_11, e104_19, e104_20, e104_18, e104_10, e104_2, e104_0]
  all_goals try simp (config := { contextual := true }) [-Int.not_le, -Int.not_lt, -Nat.not_le, -Nat.not_lt, sgn]
  all_goals first | done | grind | omega | (trace_state; fail)
theorem k104 (b : Bool) (a : Bool)  (fr : Fr) (st : St) : callStep gS (EvF gS) 104 [.bool b, .bool a] fr st = some (.ok (retE none (.int .i64 (sgn b a))) fr st) :=
  call_pure rfl fi104_eq rfl (fun st => c104 b a  st) (by simp)
end
end Go.Proofs.Ytclpbfkbpcjejaa
namespace Go.Proofs.Ytclpbfkbpcjejaa
open Go Go.Ab
set_option linter.unusedVariables false
set_option linter.unusedSimpArgs false
set_option linter.unnecessarySimpa false
set_option maxRecDepth 20000
noncomputable section
variable (fr : Fr) (st : St) (k : Kt)
def fi75 : FI := { body := codeOf Try.f75, ntmps := 124, results := [.tmp 4, .tmp 5], pers := [0, 1, 2, 3, 4, 5, 6, 7], locals := [2, 3], pure := true, marks := [] }
theorem fi75_eq : gS.fn 75 = some fi75 := by kernel_rfl
theorem st75 (a0 a1 : V) : startFr fi75 [a0, a1] = { ps := [(0, .val a0), (1, .val a1), (2, .any), (3, .any), (4, .any), (5, .any), (6, .any), (7, .any)], ts := [], lc := [] } := rfl
def b75 : Code := mini (codeOf Try.f75)
def c75_1 : Code := codeN b75 2
theorem e75_1 : evK gS fi75 c75_1 fr st k = opsR gS fi75 [op1 2 (.box 24 (.tmp 0)) 0,
 op1 3 (.box 24 (.tmp 1)) 0,
 op1 4 (.assign (.const (.int .i64 0))) 3,
 op1 5 (.assign (.const (.bool false))) 4] fr st k := evK_r 0 (by kernel_rfl)
def c75_5 : Code := codeN b75 17
theorem e75_5 : evK gS fi75 c75_5 fr st k = opsR gS fi75 [op1 9 (.fieldAddr 24 (.tmp 2) 0) 0,
 op1 10 (.load 3 (.tmp 9)) 3,
 op1 11 (.binOp .eql 3 (.tmp 10) (.const (.int .i64 1)) 3) 4,
 op1 12 (.move (.tmp 11)) 4,
 mk (some 13) (.fieldAddr 24 (.tmp 3) 0) 0 (some (3, true)),
 mk (some 14) (.load 3 (.tmp 13)) 3 (some (3, true)),
 mk (some 15) (.binOp .eql 3 (.tmp 14) (.const (.int .i64 1)) 3) 4 (some (3, true)),
 op1 16 (.pick (.tmp 12) (.tmp 15) (.const (.bool false))) 4,
 op1 8 (.assign (.tmp 16)) 4] fr st k := evK_r 1 (by kernel_rfl)
def c75_8 : Code := codeN b75 73
theorem e75_8 : evK gS fi75 c75_8 fr st k = opsR gS fi75 [op1 17 (.fieldAddr 24 (.tmp 2) 1) 0,
 op1 18 (.load 2 (.tmp 17)) 2,
 op1 19 (.fieldAddr 24 (.tmp 3) 1) 0,
 op1 20 (.load 2 (.tmp 19)) 2,
 op1 21 (.binOp .lss 2 (.tmp 18) (.tmp 20) 2) 4,
 op1 22 (.fieldAddr 24 (.tmp 2) 1) 0,
 op1 23 (.load 2 (.tmp 22)) 2,
 op1 24 (.fieldAddr 24 (.tmp 3) 1) 0,
 op1 25 (.load 2 (.tmp 24)) 2,
 op1 26 (.binOp .gtr 2 (.tmp 23) (.tmp 25) 2) 4,
 op1 27 (.call { callee := (.value (.func 104)), args := #[(.tmp 21), (.tmp 26)], argTypes := #[4, 4] }) 3,
 op1 4 (.assign (.tmp 27)) 3,
 op1 5 (.assign (.const (.bool true))) 4] fr st k := evK_r 2 (by kernel_rfl)
def c75_9 : Code := .ret
theorem e75_9 : evK gS fi75 c75_9 fr st k = nextK gS fi75 k .ret fr st := rfl
def c75_7 : Code := .seq c75_8 c75_9
theorem e75_7 : evK gS fi75 c75_7 fr st k = evK gS fi75 c75_8 fr st (.seq c75_9 k) := rfl
def c75_11 : Code := codeN b75 89
theorem e75_11 : evK gS fi75 c75_11 fr st k = opsR gS fi75 [op1 29 (.fieldAddr 24 (.tmp 2) 0) 0,
 op1 30 (.load 3 (.tmp 29)) 3,
 op1 31 (.binOp .eql 3 (.tmp 30) (.const (.int .i64 2)) 3) 4,
 op1 32 (.move (.tmp 31)) 4,
 mk (some 33) (.fieldAddr 24 (.tmp 3) 0) 0 (some (3, true)),
 mk (some 34) (.load 3 (.tmp 33)) 3 (some (3, true)),
 mk (some 35) (.binOp .eql 3 (.tmp 34) (.const (.int .i64 2)) 3) 4 (some (3, true)),
 op1 36 (.pick (.tmp 32) (.tmp 35) (.const (.bool false))) 4,
 op1 28 (.assign (.tmp 36)) 4] fr st k := evK_r 3 (by kernel_rfl)
def c75_14 : Code := codeN b75 313
theorem e75_14 : evK gS fi75 c75_14 fr st k = opsR gS fi75 [op1 37 (.fieldAddr 24 (.tmp 2) 2) 0,
 op1 38 (.load 22 (.tmp 37)) 22,
 op1 39 (.fieldAddr 24 (.tmp 3) 2) 0,
 op1 40 (.load 22 (.tmp 39)) 22,
 op1 41 (.call { callee := (.value (.func 105)), args := #[(.tmp 38), (.tmp 40)], argTypes := #[22, 22] }) 94,
 op1 42 (.extract (.tmp 41) 0) 3,
 op1 43 (.extract (.tmp 41) 1) 4,
 op1 4 (.assign (.tmp 42)) 3,
 op1 5 (.assign (.tmp 43)) 4] fr st k := evK_r 4 (by kernel_rfl)
def c75_15 : Code := .ret
theorem e75_15 : evK gS fi75 c75_15 fr st k = nextK gS fi75 k .ret fr st := rfl
def c75_13 : Code := .seq c75_14 c75_15
theorem e75_13 : evK gS fi75 c75_13 fr st k = evK gS fi75 c75_14 fr st (.seq c75_15 k) := rfl
def c75_17 : Code := codeN b75 377
theorem e75_17 : evK gS fi75 c75_17 fr st k = opsR gS fi75 [op1 45 (.fieldAddr 24 (.tmp 2) 0) 0,
 op1 46 (.load 3 (.tmp 45)) 3,
 op1 47 (.binOp .eql 3 (.tmp 46) (.const (.int .i64 1)) 3) 4,
 op1 48 (.move (.tmp 47)) 4,
 mk (some 49) (.fieldAddr 24 (.tmp 3) 0) 0 (some (3, true)),
 mk (some 50) (.load 3 (.tmp 49)) 3 (some (3, true)),
 mk (some 51) (.binOp .eql 3 (.tmp 50) (.const (.int .i64 2)) 3) 4 (some (3, true)),
 op1 52 (.pick (.tmp 48) (.tmp 51) (.const (.bool false))) 4,
 op1 44 (.assign (.tmp 52)) 4] fr st k := evK_r 5 (by kernel_rfl)
def c75_20 : Code := codeN b75 1273
theorem e75_20 : evK gS fi75 c75_20 fr st k = opsR gS fi75 [op1 53 (.fieldAddr 24 (.tmp 2) 1) 0,
 op1 54 (.load 2 (.tmp 53)) 2,
 op1 55 (.fieldAddr 24 (.tmp 3) 2) 0,
 op1 56 (.load 22 (.tmp 55)) 22,
 op1 57 (.call { callee := (.value (.func 106)), args := #[(.tmp 54), (.tmp 56)], argTypes := #[2, 22] }) 94,
 op1 58 (.extract (.tmp 57) 0) 3,
 op1 59 (.extract (.tmp 57) 1) 4,
 op1 4 (.assign (.tmp 58)) 3,
 op1 5 (.assign (.tmp 59)) 4] fr st k := evK_r 6 (by kernel_rfl)
def c75_21 : Code := .ret
theorem e75_21 : evK gS fi75 c75_21 fr st k = nextK gS fi75 k .ret fr st := rfl
def c75_19 : Code := .seq c75_20 c75_21
theorem e75_19 : evK gS fi75 c75_19 fr st k = evK gS fi75 c75_20 fr st (.seq c75_21 k) := rfl
def c75_23 : Code := codeN b75 1529
theorem e75_23 : evK gS fi75 c75_23 fr st k = opsR gS fi75 [op1 61 (.fieldAddr 24 (.tmp 2) 0) 0,
 op1 62 (.load 3 (.tmp 61)) 3,
 op1 63 (.binOp .eql 3 (.tmp 62) (.const (.int .i64 2)) 3) 4,
 op1 64 (.move (.tmp 63)) 4,
 mk (some 65) (.fieldAddr 24 (.tmp 3) 0) 0 (some (3, true)),
 mk (some 66) (.load 3 (.tmp 65)) 3 (some (3, true)),
 mk (some 67) (.binOp .eql 3 (.tmp 66) (.const (.int .i64 1)) 3) 4 (some (3, true)),
 op1 68 (.pick (.tmp 64) (.tmp 67) (.const (.bool false))) 4,
 op1 60 (.assign (.tmp 68)) 4] fr st k := evK_r 7 (by kernel_rfl)
def c75_26 : Code := codeN b75 5113
theorem e75_26 : evK gS fi75 c75_26 fr st k = opsR gS fi75 [op1 70 (.fieldAddr 24 (.tmp 3) 1) 0,
 op1 71 (.load 2 (.tmp 70)) 2,
 op1 72 (.fieldAddr 24 (.tmp 2) 2) 0,
 op1 73 (.load 22 (.tmp 72)) 22,
 op1 74 (.call { callee := (.value (.func 106)), args := #[(.tmp 71), (.tmp 73)], argTypes := #[2, 22] }) 94,
 op1 69 (.move (.tmp 74)) 94,
 op1 75 (.extract (.tmp 69) 0) 3,
 op1 76 (.extract (.tmp 69) 1) 4,
 op1 6 (.assign (.tmp 75)) 3,
 op1 7 (.assign (.tmp 76)) 4] fr st k := evK_r 8 (by kernel_rfl)
def c75_28 : Code := codeN b75 11257
theorem e75_28 : evK gS fi75 c75_28 fr st k = opsR gS fi75 [op1 77 (.move (.tmp 6)) 3,
 op1 78 (.unOp .neg 3 (.tmp 77)) 3,
 op1 79 (.move (.tmp 7)) 4,
 op1 4 (.assign (.tmp 78)) 3,
 op1 5 (.assign (.tmp 79)) 4] fr st k := evK_r 9 (by kernel_rfl)
def c75_29 : Code := .ret
theorem e75_29 : evK gS fi75 c75_29 fr st k = nextK gS fi75 k .ret fr st := rfl
def c75_27 : Code := .seq c75_28 c75_29
theorem e75_27 : evK gS fi75 c75_27 fr st k = evK gS fi75 c75_28 fr st (.seq c75_29 k) := rfl
def c75_25 : Code := .seq c75_26 c75_27
theorem e75_25 : evK gS fi75 c75_25 fr st k = evK gS fi75 c75_26 fr st (.seq c75_27 k) := rfl
def c75_31 : Code := codeN b75 6137
theorem e75_31 : evK gS fi75 c75_31 fr st k = opsR gS fi75 [op1 81 (.fieldAddr 24 (.tmp 2) 0) 0,
 op1 82 (.load 3 (.tmp 81)) 3,
 op1 83 (.binOp .eql 3 (.tmp 82) (.const (.int .i64 3)) 3) 4,
 op1 84 (.move (.tmp 83)) 4,
 mk (some 85) (.fieldAddr 24 (.tmp 3) 0) 0 (some (3, true)),
 mk (some 86) (.load 3 (.tmp 85)) 3 (some (3, true)),
 mk (some 87) (.binOp .eql 3 (.tmp 86) (.const (.int .i64 3)) 3) 4 (some (3, true)),
 op1 88 (.pick (.tmp 84) (.tmp 87) (.const (.bool false))) 4,
 op1 80 (.assign (.tmp 88)) 4] fr st k := evK_r 10 (by kernel_rfl)
def c75_34 : Code := codeN b75 20473
theorem e75_34 : evK gS fi75 c75_34 fr st k = opsR gS fi75 [op1 89 (.fieldAddr 24 (.tmp 2) 3) 0,
 op1 90 (.load 9 (.tmp 89)) 9,
 op1 91 (.fieldAddr 24 (.tmp 3) 3) 0,
 op1 92 (.load 9 (.tmp 91)) 9,
 op1 93 (.binOp .lss 9 (.tmp 90) (.tmp 92) 9) 4,
 op1 94 (.fieldAddr 24 (.tmp 2) 3) 0,
 op1 95 (.load 9 (.tmp 94)) 9,
 op1 96 (.fieldAddr 24 (.tmp 3) 3) 0,
 op1 97 (.load 9 (.tmp 96)) 9,
 op1 98 (.binOp .gtr 9 (.tmp 95) (.tmp 97) 9) 4,
 op1 99 (.call { callee := (.value (.func 104)), args := #[(.tmp 93), (.tmp 98)], argTypes := #[4, 4] }) 3,
 op1 4 (.assign (.tmp 99)) 3,
 op1 5 (.assign (.const (.bool true))) 4] fr st k := evK_r 11 (by kernel_rfl)
def c75_35 : Code := .ret
theorem e75_35 : evK gS fi75 c75_35 fr st k = nextK gS fi75 k .ret fr st := rfl
def c75_33 : Code := .seq c75_34 c75_35
theorem e75_33 : evK gS fi75 c75_33 fr st k = evK gS fi75 c75_34 fr st (.seq c75_35 k) := rfl
def c75_37 : Code := codeN b75 24569
theorem e75_37 : evK gS fi75 c75_37 fr st k = opsR gS fi75 [op1 101 (.fieldAddr 24 (.tmp 2) 0) 0,
 op1 102 (.load 3 (.tmp 101)) 3,
 op1 103 (.binOp .eql 3 (.tmp 102) (.const (.int .i64 4)) 3) 4,
 op1 104 (.move (.tmp 103)) 4,
 mk (some 105) (.fieldAddr 24 (.tmp 3) 0) 0 (some (3, true)),
 mk (some 106) (.load 3 (.tmp 105)) 3 (some (3, true)),
 mk (some 107) (.binOp .eql 3 (.tmp 106) (.const (.int .i64 4)) 3) 4 (some (3, true)),
 op1 108 (.pick (.tmp 104) (.tmp 107) (.const (.bool false))) 4,
 op1 100 (.assign (.tmp 108)) 4] fr st k := evK_r 12 (by kernel_rfl)
def c75_40 : Code := codeN b75 81913
theorem e75_40 : evK gS fi75 c75_40 fr st k = opsR gS fi75 [op1 109 (.fieldAddr 24 (.tmp 2) 4) 0,
 op1 110 (.load 4 (.tmp 109)) 4,
 op1 111 (.unOp .not 4 (.tmp 110)) 4,
 op1 112 (.move (.tmp 111)) 4,
 mk (some 113) (.fieldAddr 24 (.tmp 3) 4) 0 (some (3, true)),
 mk (some 114) (.load 4 (.tmp 113)) 4 (some (3, true)),
 op1 115 (.pick (.tmp 112) (.tmp 114) (.const (.bool false))) 4,
 op1 116 (.fieldAddr 24 (.tmp 2) 4) 0,
 op1 117 (.load 4 (.tmp 116)) 4,
 op1 118 (.move (.tmp 117)) 4,
 mk (some 119) (.fieldAddr 24 (.tmp 3) 4) 0 (some (9, true)),
 mk (some 120) (.load 4 (.tmp 119)) 4 (some (9, true)),
 mk (some 121) (.unOp .not 4 (.tmp 120)) 4 (some (9, true)),
 op1 122 (.pick (.tmp 118) (.tmp 121) (.const (.bool false))) 4,
 op1 123 (.call { callee := (.value (.func 104)), args := #[(.tmp 115), (.tmp 122)], argTypes := #[4, 4] }) 3,
 op1 4 (.assign (.tmp 123)) 3,
 op1 5 (.assign (.const (.bool true))) 4] fr st k := evK_r 13 (by kernel_rfl)
def c75_41 : Code := .ret
theorem e75_41 : evK gS fi75 c75_41 fr st k = nextK gS fi75 k .ret fr st := rfl
def c75_39 : Code := .seq c75_40 c75_41
theorem e75_39 : evK gS fi75 c75_39 fr st k = evK gS fi75 c75_40 fr st (.seq c75_41 k) := rfl
def c75_42 : Code := .skip
theorem e75_42 : evK gS fi75 c75_42 fr st k = nextK gS fi75 k .normal fr st := rfl
def c75_38 : Code := .cond (.tmp 100) c75_39 c75_42
theorem e75_38 : evK gS fi75 c75_38 fr st k = condK gS fi75 (fr.op (.tmp 100)).bool? c75_39 c75_42 fr st k := rfl
def c75_36 : Code := .seq c75_37 c75_38
theorem e75_36 : evK gS fi75 c75_36 fr st k = evK gS fi75 c75_37 fr st (.seq c75_38 k) := rfl
def c75_32 : Code := .cond (.tmp 80) c75_33 c75_36
theorem e75_32 : evK gS fi75 c75_32 fr st k = condK gS fi75 (fr.op (.tmp 80)).bool? c75_33 c75_36 fr st k := rfl
def c75_30 : Code := .seq c75_31 c75_32
theorem e75_30 : evK gS fi75 c75_30 fr st k = evK gS fi75 c75_31 fr st (.seq c75_32 k) := rfl
def c75_24 : Code := .cond (.tmp 60) c75_25 c75_30
theorem e75_24 : evK gS fi75 c75_24 fr st k = condK gS fi75 (fr.op (.tmp 60)).bool? c75_25 c75_30 fr st k := rfl
def c75_22 : Code := .seq c75_23 c75_24
theorem e75_22 : evK gS fi75 c75_22 fr st k = evK gS fi75 c75_23 fr st (.seq c75_24 k) := rfl
def c75_18 : Code := .cond (.tmp 44) c75_19 c75_22
theorem e75_18 : evK gS fi75 c75_18 fr st k = condK gS fi75 (fr.op (.tmp 44)).bool? c75_19 c75_22 fr st k := rfl
def c75_16 : Code := .seq c75_17 c75_18
theorem e75_16 : evK gS fi75 c75_16 fr st k = evK gS fi75 c75_17 fr st (.seq c75_18 k) := rfl
def c75_12 : Code := .cond (.tmp 28) c75_13 c75_16
theorem e75_12 : evK gS fi75 c75_12 fr st k = condK gS fi75 (fr.op (.tmp 28)).bool? c75_13 c75_16 fr st k := rfl
def c75_10 : Code := .seq c75_11 c75_12
theorem e75_10 : evK gS fi75 c75_10 fr st k = evK gS fi75 c75_11 fr st (.seq c75_12 k) := rfl
def c75_6 : Code := .cond (.tmp 8) c75_7 c75_10
theorem e75_6 : evK gS fi75 c75_6 fr st k = condK gS fi75 (fr.op (.tmp 8)).bool? c75_7 c75_10 fr st k := rfl
def c75_4 : Code := .seq c75_5 c75_6
theorem e75_4 : evK gS fi75 c75_4 fr st k = evK gS fi75 c75_5 fr st (.seq c75_6 k) := rfl
def c75_3 : Code := .block 0 c75_4
theorem e75_3 : evK gS fi75 c75_3 fr st k = evK gS fi75 c75_4 fr st (.blk 0 k) := rfl
def c75_44 : Code := codeN b75 11
theorem e75_44 : evK gS fi75 c75_44 fr st k = opsR gS fi75 [op1 4 (.assign (.const (.int .i64 0))) 3,
 op1 5 (.assign (.const (.bool false))) 4] fr st k := evK_r 14 (by kernel_rfl)
def c75_45 : Code := .ret
theorem e75_45 : evK gS fi75 c75_45 fr st k = nextK gS fi75 k .ret fr st := rfl
def c75_43 : Code := .seq c75_44 c75_45
theorem e75_43 : evK gS fi75 c75_43 fr st k = evK gS fi75 c75_44 fr st (.seq c75_45 k) := rfl
def c75_2 : Code := .seq c75_3 c75_43
theorem e75_2 : evK gS fi75 c75_2 fr st k = evK gS fi75 c75_3 fr st (.seq c75_43 k) := rfl
def c75_0 : Code := .seq c75_1 c75_2
theorem e75_0 : evK gS fi75 c75_0 fr st k = evK gS fi75 c75_1 fr st (.seq c75_2 k) := rfl
theorem m75 : mini fi75.body = c75_0 := by kernel_rfl
set_option maxHeartbeats 4000000 in
theorem c75 (a : Val) (b : Val)  (st : St) : EvF gS 75 [a.enc, b.enc] st = some (.ret (.tuple [.int .i64 (cmp a b).1, .bool (cmp a b).2]) none, st) := by
  refine EvF_start fi75_eq (fun x h => by cases h) m75 ?_
  rw [st75]
  have hm : fi75.marks = [] := rfl
  have hl : fi75.locals = [2, 3] := rfl
  have hr : fi75.results = [.tmp 4, .tmp 5] := rfl
  simp (config := { contextual := true, maxSteps := 10000000, maxDischargeDepth := 6 }) [-Int.not_le, -Int.not_lt, -Nat.not_le, -Nat.not_lt, ty2, ty3, ty4, ty9, ty22, ty24, eq24, hm, hl, hr, k104, k105, k106, e75_1, e75_5, e75_8, e75_9, e75_7, e75_11, e75_14, e75_15, e75_13, e75_17, e75_20, e75_21, e75_19, e75_23, e75_26, e75_28, e75_29, e75_27, e75_25, e75_31, e75_34, e75_35, e75_33, e75_37, e75_40, e75_41, e75_39, e75_42, e75_38, e75_36, e75_32, e75_30, e75_24, e75_22, e75_18, e75_16, e75_12, e75_10, e75_6, e75_4, e75_3, e75_44, e75_45, e75_43, e75_2, e75_0]
  all_goals try simp (config := { contextual := true }) [-Int.not_le, -Int.not_lt, -Nat.not_le, -Nat.not_lt, cmp, scmp]
  all_goals first | done | grind | omega | (trace_state; fail)
theorem k75 (a_k : Int) (a_n : Int) (a_x : Nat) (a_s : List UInt8) (a_b : Bool) (b_k : Int) (b_n : Int) (b_x : Nat) (b_s : List UInt8) (b_b : Bool)  (fr : Fr) (st : St) : callStep gS (EvF gS) 75 [.agg [.int .i64 a_k, .int .i64 a_n, .float .f64 a_x, .str a_s, .bool a_b], .agg [.int .i64 b_k, .int .i64 b_n, .float .f64 b_x, .str b_s, .bool b_b]] fr st = some (.ok (retE none (.tuple [.int .i64 (cmp (⟨a_k, a_n, a_x, a_s, a_b⟩ : Val) (⟨b_k, b_n, b_x, b_s, b_b⟩ : Val)).1, .bool (cmp (⟨a_k, a_n, a_x, a_s, a_b⟩ : Val) (⟨b_k, b_n, b_x, b_s, b_b⟩ : Val)).2])) fr st) :=
  call_pure rfl fi75_eq rfl (fun st => c75 (⟨a_k, a_n, a_x, a_s, a_b⟩ : Val) (⟨b_k, b_n, b_x, b_s, b_b⟩ : Val)  st) (by simp)
def fi77 : FI := { body := codeOf Try.f77, ntmps := 114, results := [.tmp 4, .tmp 5], pers := [0, 1, 2, 3, 4, 5, 6, 7], locals := [2, 3], pure := true, marks := [] }
theorem fi77_eq : gS.fn 77 = some fi77 := by kernel_rfl
theorem st77 (a0 a1 : V) : startFr fi77 [a0, a1] = { ps := [(0, .val a0), (1, .val a1), (2, .any), (3, .any), (4, .any), (5, .any), (6, .any), (7, .any)], ts := [], lc := [] } := rfl
def b77 : Code := mini (codeOf Try.f77)
def c77_1 : Code := codeN b77 2
theorem e77_1 : evK gS fi77 c77_1 fr st k = opsR gS fi77 [op1 2 (.box 24 (.tmp 0)) 0,
 op1 3 (.box 24 (.tmp 1)) 0,
 op1 4 (.assign (.const (.int .i64 0))) 3,
 op1 5 (.assign (.const (.bool false))) 4] fr st k := evK_r 0 (by kernel_rfl)
def c77_5 : Code := codeN b77 17
theorem e77_5 : evK gS fi77 c77_5 fr st k = opsR gS fi77 [op1 9 (.fieldAddr 24 (.tmp 2) 0) 0,
 op1 10 (.load 3 (.tmp 9)) 3,
 op1 11 (.binOp .eql 3 (.tmp 10) (.const (.int .i64 1)) 3) 4,
 op1 12 (.move (.tmp 11)) 4,
 mk (some 13) (.fieldAddr 24 (.tmp 3) 0) 0 (some (3, true)),
 mk (some 14) (.load 3 (.tmp 13)) 3 (some (3, true)),
 mk (some 15) (.binOp .eql 3 (.tmp 14) (.const (.int .i64 1)) 3) 4 (some (3, true)),
 op1 16 (.pick (.tmp 12) (.tmp 15) (.const (.bool false))) 4,
 op1 8 (.assign (.tmp 16)) 4] fr st k := evK_r 1 (by kernel_rfl)
def c77_9 : Code := codeN b77 137
theorem e77_9 : evK gS fi77 c77_9 fr st k = opsR gS fi77 [op1 17 (.fieldAddr 24 (.tmp 2) 1) 0,
 op1 18 (.load 2 (.tmp 17)) 2,
 op1 19 (.fieldAddr 24 (.tmp 3) 1) 0,
 op1 20 (.load 2 (.tmp 19)) 2,
 op1 21 (.binOp .lss 2 (.tmp 18) (.tmp 20) 2) 4] fr st k := evK_r 2 (by kernel_rfl)
def c77_12 : Code := codeN b77 585
theorem e77_12 : evK gS fi77 c77_12 fr st k = opsR gS fi77 [op1 4 (.assign (.const (.int .i64 (-1)))) 3,
 op1 5 (.assign (.const (.bool true))) 4] fr st k := evK_r 3 (by kernel_rfl)
def c77_13 : Code := .ret
theorem e77_13 : evK gS fi77 c77_13 fr st k = nextK gS fi77 k .ret fr st := rfl
def c77_11 : Code := .seq c77_12 c77_13
theorem e77_11 : evK gS fi77 c77_11 fr st k = evK gS fi77 c77_12 fr st (.seq c77_13 k) := rfl
def c77_14 : Code := .skip
theorem e77_14 : evK gS fi77 c77_14 fr st k = nextK gS fi77 k .normal fr st := rfl
def c77_10 : Code := .cond (.tmp 21) c77_11 c77_14
theorem e77_10 : evK gS fi77 c77_10 fr st k = condK gS fi77 (fr.op (.tmp 21)).bool? c77_11 c77_14 fr st k := rfl
def c77_8 : Code := .seq c77_9 c77_10
theorem e77_8 : evK gS fi77 c77_8 fr st k = evK gS fi77 c77_9 fr st (.seq c77_10 k) := rfl
def c77_17 : Code := codeN b77 297
theorem e77_17 : evK gS fi77 c77_17 fr st k = opsR gS fi77 [op1 22 (.fieldAddr 24 (.tmp 2) 1) 0,
 op1 23 (.load 2 (.tmp 22)) 2,
 op1 24 (.fieldAddr 24 (.tmp 3) 1) 0,
 op1 25 (.load 2 (.tmp 24)) 2,
 op1 26 (.binOp .gtr 2 (.tmp 23) (.tmp 25) 2) 4] fr st k := evK_r 4 (by kernel_rfl)
def c77_20 : Code := codeN b77 1193
theorem e77_20 : evK gS fi77 c77_20 fr st k = opsR gS fi77 [op1 4 (.assign (.const (.int .i64 1))) 3,
 op1 5 (.assign (.const (.bool true))) 4] fr st k := evK_r 5 (by kernel_rfl)
def c77_21 : Code := .ret
theorem e77_21 : evK gS fi77 c77_21 fr st k = nextK gS fi77 k .ret fr st := rfl
def c77_19 : Code := .seq c77_20 c77_21
theorem e77_19 : evK gS fi77 c77_19 fr st k = evK gS fi77 c77_20 fr st (.seq c77_21 k) := rfl
def c77_22 : Code := .skip
theorem e77_22 : evK gS fi77 c77_22 fr st k = nextK gS fi77 k .normal fr st := rfl
def c77_18 : Code := .cond (.tmp 26) c77_19 c77_22
theorem e77_18 : evK gS fi77 c77_18 fr st k = condK gS fi77 (fr.op (.tmp 26)).bool? c77_19 c77_22 fr st k := rfl
def c77_16 : Code := .seq c77_17 c77_18
theorem e77_16 : evK gS fi77 c77_16 fr st k = evK gS fi77 c77_17 fr st (.seq c77_18 k) := rfl
def c77_24 : Code := codeN b77 361
theorem e77_24 : evK gS fi77 c77_24 fr st k = opsR gS fi77 [op1 4 (.assign (.const (.int .i64 0))) 3,
 op1 5 (.assign (.const (.bool true))) 4] fr st k := evK_r 6 (by kernel_rfl)
def c77_25 : Code := .ret
theorem e77_25 : evK gS fi77 c77_25 fr st k = nextK gS fi77 k .ret fr st := rfl
def c77_23 : Code := .seq c77_24 c77_25
theorem e77_23 : evK gS fi77 c77_23 fr st k = evK gS fi77 c77_24 fr st (.seq c77_25 k) := rfl
def c77_15 : Code := .seq c77_16 c77_23
theorem e77_15 : evK gS fi77 c77_15 fr st k = evK gS fi77 c77_16 fr st (.seq c77_23 k) := rfl
def c77_7 : Code := .seq c77_8 c77_15
theorem e77_7 : evK gS fi77 c77_7 fr st k = evK gS fi77 c77_8 fr st (.seq c77_15 k) := rfl
def c77_27 : Code := codeN b77 89
theorem e77_27 : evK gS fi77 c77_27 fr st k = opsR gS fi77 [op1 28 (.fieldAddr 24 (.tmp 2) 0) 0,
 op1 29 (.load 3 (.tmp 28)) 3,
 op1 30 (.binOp .eql 3 (.tmp 29) (.const (.int .i64 1)) 3) 4,
 op1 31 (.move (.tmp 30)) 4,
 mk (some 32) (.fieldAddr 24 (.tmp 3) 0) 0 (some (3, true)),
 mk (some 33) (.load 3 (.tmp 32)) 3 (some (3, true)),
 mk (some 34) (.binOp .eql 3 (.tmp 33) (.const (.int .i64 2)) 3) 4 (some (3, true)),
 op1 35 (.pick (.tmp 31) (.tmp 34) (.const (.bool false))) 4,
 op1 27 (.assign (.tmp 35)) 4] fr st k := evK_r 7 (by kernel_rfl)
def c77_30 : Code := codeN b77 313
theorem e77_30 : evK gS fi77 c77_30 fr st k = opsR gS fi77 [op1 36 (.fieldAddr 24 (.tmp 2) 1) 0,
 op1 37 (.load 2 (.tmp 36)) 2,
 op1 38 (.fieldAddr 24 (.tmp 3) 2) 0,
 op1 39 (.load 22 (.tmp 38)) 22,
 op1 40 (.call { callee := (.value (.func 107)), args := #[(.tmp 37), (.tmp 39)], argTypes := #[2, 22] }) 94,
 op1 41 (.extract (.tmp 40) 0) 3,
 op1 42 (.extract (.tmp 40) 1) 4,
 op1 4 (.assign (.tmp 41)) 3,
 op1 5 (.assign (.tmp 42)) 4] fr st k := evK_r 8 (by kernel_rfl)
def c77_31 : Code := .ret
theorem e77_31 : evK gS fi77 c77_31 fr st k = nextK gS fi77 k .ret fr st := rfl
def c77_29 : Code := .seq c77_30 c77_31
theorem e77_29 : evK gS fi77 c77_29 fr st k = evK gS fi77 c77_30 fr st (.seq c77_31 k) := rfl
def c77_33 : Code := codeN b77 377
theorem e77_33 : evK gS fi77 c77_33 fr st k = opsR gS fi77 [op1 44 (.fieldAddr 24 (.tmp 2) 0) 0,
 op1 45 (.load 3 (.tmp 44)) 3,
 op1 46 (.binOp .eql 3 (.tmp 45) (.const (.int .i64 2)) 3) 4,
 op1 47 (.move (.tmp 46)) 4,
 mk (some 48) (.fieldAddr 24 (.tmp 3) 0) 0 (some (3, true)),
 mk (some 49) (.load 3 (.tmp 48)) 3 (some (3, true)),
 mk (some 50) (.binOp .eql 3 (.tmp 49) (.const (.int .i64 1)) 3) 4 (some (3, true)),
 op1 51 (.pick (.tmp 47) (.tmp 50) (.const (.bool false))) 4,
 op1 43 (.assign (.tmp 51)) 4] fr st k := evK_r 9 (by kernel_rfl)
def c77_36 : Code := codeN b77 1273
theorem e77_36 : evK gS fi77 c77_36 fr st k = opsR gS fi77 [op1 53 (.fieldAddr 24 (.tmp 3) 1) 0,
 op1 54 (.load 2 (.tmp 53)) 2,
 op1 55 (.fieldAddr 24 (.tmp 2) 2) 0,
 op1 56 (.load 22 (.tmp 55)) 22,
 op1 57 (.call { callee := (.value (.func 107)), args := #[(.tmp 54), (.tmp 56)], argTypes := #[2, 22] }) 94,
 op1 52 (.move (.tmp 57)) 94,
 op1 58 (.extract (.tmp 52) 0) 3,
 op1 59 (.extract (.tmp 52) 1) 4,
 op1 6 (.assign (.tmp 58)) 3,
 op1 7 (.assign (.tmp 59)) 4] fr st k := evK_r 10 (by kernel_rfl)
def c77_38 : Code := codeN b77 2809
theorem e77_38 : evK gS fi77 c77_38 fr st k = opsR gS fi77 [op1 60 (.move (.tmp 6)) 3,
 op1 61 (.unOp .neg 3 (.tmp 60)) 3,
 op1 62 (.move (.tmp 7)) 4,
 op1 4 (.assign (.tmp 61)) 3,
 op1 5 (.assign (.tmp 62)) 4] fr st k := evK_r 11 (by kernel_rfl)
def c77_39 : Code := .ret
theorem e77_39 : evK gS fi77 c77_39 fr st k = nextK gS fi77 k .ret fr st := rfl
def c77_37 : Code := .seq c77_38 c77_39
theorem e77_37 : evK gS fi77 c77_37 fr st k = evK gS fi77 c77_38 fr st (.seq c77_39 k) := rfl
def c77_35 : Code := .seq c77_36 c77_37
theorem e77_35 : evK gS fi77 c77_35 fr st k = evK gS fi77 c77_36 fr st (.seq c77_37 k) := rfl
def c77_41 : Code := codeN b77 1529
theorem e77_41 : evK gS fi77 c77_41 fr st k = opsR gS fi77 [op1 64 (.fieldAddr 24 (.tmp 2) 0) 0,
 op1 65 (.load 3 (.tmp 64)) 3,
 op1 66 (.binOp .eql 3 (.tmp 65) (.const (.int .i64 2)) 3) 4,
 op1 67 (.move (.tmp 66)) 4,
 mk (some 68) (.fieldAddr 24 (.tmp 3) 0) 0 (some (3, true)),
 mk (some 69) (.load 3 (.tmp 68)) 3 (some (3, true)),
 mk (some 70) (.binOp .eql 3 (.tmp 69) (.const (.int .i64 2)) 3) 4 (some (3, true)),
 op1 71 (.pick (.tmp 67) (.tmp 70) (.const (.bool false))) 4,
 op1 63 (.assign (.tmp 71)) 4] fr st k := evK_r 12 (by kernel_rfl)
def c77_44 : Code := codeN b77 5113
theorem e77_44 : evK gS fi77 c77_44 fr st k = opsR gS fi77 [op1 72 (.fieldAddr 24 (.tmp 2) 2) 0,
 op1 73 (.load 22 (.tmp 72)) 22,
 op1 74 (.fieldAddr 24 (.tmp 3) 2) 0,
 op1 75 (.load 22 (.tmp 74)) 22,
 op1 76 (.call { callee := (.value (.func 108)), args := #[(.tmp 73), (.tmp 75)], argTypes := #[22, 22] }) 94,
 op1 77 (.extract (.tmp 76) 0) 3,
 op1 78 (.extract (.tmp 76) 1) 4,
 op1 4 (.assign (.tmp 77)) 3,
 op1 5 (.assign (.tmp 78)) 4] fr st k := evK_r 13 (by kernel_rfl)
def c77_45 : Code := .ret
theorem e77_45 : evK gS fi77 c77_45 fr st k = nextK gS fi77 k .ret fr st := rfl
def c77_43 : Code := .seq c77_44 c77_45
theorem e77_43 : evK gS fi77 c77_43 fr st k = evK gS fi77 c77_44 fr st (.seq c77_45 k) := rfl
def c77_47 : Code := codeN b77 6137
theorem e77_47 : evK gS fi77 c77_47 fr st k = opsR gS fi77 [op1 80 (.fieldAddr 24 (.tmp 2) 0) 0,
 op1 81 (.load 3 (.tmp 80)) 3,
 op1 82 (.binOp .eql 3 (.tmp 81) (.const (.int .i64 3)) 3) 4,
 op1 83 (.move (.tmp 82)) 4,
 mk (some 84) (.fieldAddr 24 (.tmp 3) 0) 0 (some (3, true)),
 mk (some 85) (.load 3 (.tmp 84)) 3 (some (3, true)),
 mk (some 86) (.binOp .eql 3 (.tmp 85) (.const (.int .i64 3)) 3) 4 (some (3, true)),
 op1 87 (.pick (.tmp 83) (.tmp 86) (.const (.bool false))) 4,
 op1 79 (.assign (.tmp 87)) 4] fr st k := evK_r 14 (by kernel_rfl)
def c77_51 : Code := codeN b77 36857
theorem e77_51 : evK gS fi77 c77_51 fr st k = opsR gS fi77 [op1 88 (.fieldAddr 24 (.tmp 2) 3) 0,
 op1 89 (.load 9 (.tmp 88)) 9,
 op1 90 (.fieldAddr 24 (.tmp 3) 3) 0,
 op1 91 (.load 9 (.tmp 90)) 9,
 op1 92 (.binOp .lss 9 (.tmp 89) (.tmp 91) 9) 4] fr st k := evK_r 15 (by kernel_rfl)
def c77_54 : Code := codeN b77 151545
theorem e77_54 : evK gS fi77 c77_54 fr st k = opsR gS fi77 [op1 4 (.assign (.const (.int .i64 (-1)))) 3,
 op1 5 (.assign (.const (.bool true))) 4] fr st k := evK_r 16 (by kernel_rfl)
def c77_55 : Code := .ret
theorem e77_55 : evK gS fi77 c77_55 fr st k = nextK gS fi77 k .ret fr st := rfl
def c77_53 : Code := .seq c77_54 c77_55
theorem e77_53 : evK gS fi77 c77_53 fr st k = evK gS fi77 c77_54 fr st (.seq c77_55 k) := rfl
def c77_56 : Code := .skip
theorem e77_56 : evK gS fi77 c77_56 fr st k = nextK gS fi77 k .normal fr st := rfl
def c77_52 : Code := .cond (.tmp 92) c77_53 c77_56
theorem e77_52 : evK gS fi77 c77_52 fr st k = condK gS fi77 (fr.op (.tmp 92)).bool? c77_53 c77_56 fr st k := rfl
def c77_50 : Code := .seq c77_51 c77_52
theorem e77_50 : evK gS fi77 c77_50 fr st k = evK gS fi77 c77_51 fr st (.seq c77_52 k) := rfl
def c77_59 : Code := codeN b77 77817
theorem e77_59 : evK gS fi77 c77_59 fr st k = opsR gS fi77 [op1 93 (.fieldAddr 24 (.tmp 2) 3) 0,
 op1 94 (.load 9 (.tmp 93)) 9,
 op1 95 (.fieldAddr 24 (.tmp 3) 3) 0,
 op1 96 (.load 9 (.tmp 95)) 9,
 op1 97 (.binOp .gtr 9 (.tmp 94) (.tmp 96) 9) 4] fr st k := evK_r 17 (by kernel_rfl)
def c77_62 : Code := codeN b77 307193
theorem e77_62 : evK gS fi77 c77_62 fr st k = opsR gS fi77 [op1 4 (.assign (.const (.int .i64 1))) 3,
 op1 5 (.assign (.const (.bool true))) 4] fr st k := evK_r 18 (by kernel_rfl)
def c77_63 : Code := .ret
theorem e77_63 : evK gS fi77 c77_63 fr st k = nextK gS fi77 k .ret fr st := rfl
def c77_61 : Code := .seq c77_62 c77_63
theorem e77_61 : evK gS fi77 c77_61 fr st k = evK gS fi77 c77_62 fr st (.seq c77_63 k) := rfl
def c77_64 : Code := .skip
theorem e77_64 : evK gS fi77 c77_64 fr st k = nextK gS fi77 k .normal fr st := rfl
def c77_60 : Code := .cond (.tmp 97) c77_61 c77_64
theorem e77_60 : evK gS fi77 c77_60 fr st k = condK gS fi77 (fr.op (.tmp 97)).bool? c77_61 c77_64 fr st k := rfl
def c77_58 : Code := .seq c77_59 c77_60
theorem e77_58 : evK gS fi77 c77_58 fr st k = evK gS fi77 c77_59 fr st (.seq c77_60 k) := rfl
def c77_66 : Code := codeN b77 94201
theorem e77_66 : evK gS fi77 c77_66 fr st k = opsR gS fi77 [op1 4 (.assign (.const (.int .i64 0))) 3,
 op1 5 (.assign (.const (.bool true))) 4] fr st k := evK_r 19 (by kernel_rfl)
def c77_67 : Code := .ret
theorem e77_67 : evK gS fi77 c77_67 fr st k = nextK gS fi77 k .ret fr st := rfl
def c77_65 : Code := .seq c77_66 c77_67
theorem e77_65 : evK gS fi77 c77_65 fr st k = evK gS fi77 c77_66 fr st (.seq c77_67 k) := rfl
def c77_57 : Code := .seq c77_58 c77_65
theorem e77_57 : evK gS fi77 c77_57 fr st k = evK gS fi77 c77_58 fr st (.seq c77_65 k) := rfl
def c77_49 : Code := .seq c77_50 c77_57
theorem e77_49 : evK gS fi77 c77_49 fr st k = evK gS fi77 c77_50 fr st (.seq c77_57 k) := rfl
def c77_69 : Code := codeN b77 24569
theorem e77_69 : evK gS fi77 c77_69 fr st k = opsR gS fi77 [op1 99 (.fieldAddr 24 (.tmp 2) 0) 0,
 op1 100 (.load 3 (.tmp 99)) 3,
 op1 101 (.binOp .eql 3 (.tmp 100) (.const (.int .i64 4)) 3) 4,
 op1 102 (.move (.tmp 101)) 4,
 mk (some 103) (.fieldAddr 24 (.tmp 3) 0) 0 (some (3, true)),
 mk (some 104) (.load 3 (.tmp 103)) 3 (some (3, true)),
 mk (some 105) (.binOp .eql 3 (.tmp 104) (.const (.int .i64 4)) 3) 4 (some (3, true)),
 op1 106 (.pick (.tmp 102) (.tmp 105) (.const (.bool false))) 4,
 op1 98 (.assign (.tmp 106)) 4] fr st k := evK_r 20 (by kernel_rfl)
def c77_73 : Code := codeN b77 147449
theorem e77_73 : evK gS fi77 c77_73 fr st k = opsR gS fi77 [op1 107 (.fieldAddr 24 (.tmp 2) 4) 0,
 op1 108 (.load 4 (.tmp 107)) 4,
 op1 109 (.fieldAddr 24 (.tmp 3) 4) 0,
 op1 110 (.load 4 (.tmp 109)) 4,
 op1 111 (.binOp .eql 4 (.tmp 108) (.tmp 110) 4) 4] fr st k := evK_r 21 (by kernel_rfl)
def c77_76 : Code := codeN b77 606201
theorem e77_76 : evK gS fi77 c77_76 fr st k = opsR gS fi77 [op1 4 (.assign (.const (.int .i64 0))) 3,
 op1 5 (.assign (.const (.bool true))) 4] fr st k := evK_r 22 (by kernel_rfl)
def c77_77 : Code := .ret
theorem e77_77 : evK gS fi77 c77_77 fr st k = nextK gS fi77 k .ret fr st := rfl
def c77_75 : Code := .seq c77_76 c77_77
theorem e77_75 : evK gS fi77 c77_75 fr st k = evK gS fi77 c77_76 fr st (.seq c77_77 k) := rfl
def c77_78 : Code := .skip
theorem e77_78 : evK gS fi77 c77_78 fr st k = nextK gS fi77 k .normal fr st := rfl
def c77_74 : Code := .cond (.tmp 111) c77_75 c77_78
theorem e77_74 : evK gS fi77 c77_74 fr st k = condK gS fi77 (fr.op (.tmp 111)).bool? c77_75 c77_78 fr st k := rfl
def c77_72 : Code := .seq c77_73 c77_74
theorem e77_72 : evK gS fi77 c77_72 fr st k = evK gS fi77 c77_73 fr st (.seq c77_74 k) := rfl
def c77_81 : Code := codeN b77 311289
theorem e77_81 : evK gS fi77 c77_81 fr st k = opsR gS fi77 [op1 112 (.fieldAddr 24 (.tmp 3) 4) 0,
 op1 113 (.load 4 (.tmp 112)) 4] fr st k := evK_r 23 (by kernel_rfl)
def c77_84 : Code := codeN b77 1228793
theorem e77_84 : evK gS fi77 c77_84 fr st k = opsR gS fi77 [op1 4 (.assign (.const (.int .i64 (-1)))) 3,
 op1 5 (.assign (.const (.bool true))) 4] fr st k := evK_r 24 (by kernel_rfl)
def c77_85 : Code := .ret
theorem e77_85 : evK gS fi77 c77_85 fr st k = nextK gS fi77 k .ret fr st := rfl
def c77_83 : Code := .seq c77_84 c77_85
theorem e77_83 : evK gS fi77 c77_83 fr st k = evK gS fi77 c77_84 fr st (.seq c77_85 k) := rfl
def c77_86 : Code := .skip
theorem e77_86 : evK gS fi77 c77_86 fr st k = nextK gS fi77 k .normal fr st := rfl
def c77_82 : Code := .cond (.tmp 113) c77_83 c77_86
theorem e77_82 : evK gS fi77 c77_82 fr st k = condK gS fi77 (fr.op (.tmp 113)).bool? c77_83 c77_86 fr st k := rfl
def c77_80 : Code := .seq c77_81 c77_82
theorem e77_80 : evK gS fi77 c77_80 fr st k = evK gS fi77 c77_81 fr st (.seq c77_82 k) := rfl
def c77_88 : Code := codeN b77 376825
theorem e77_88 : evK gS fi77 c77_88 fr st k = opsR gS fi77 [op1 4 (.assign (.const (.int .i64 1))) 3,
 op1 5 (.assign (.const (.bool true))) 4] fr st k := evK_r 25 (by kernel_rfl)
def c77_89 : Code := .ret
theorem e77_89 : evK gS fi77 c77_89 fr st k = nextK gS fi77 k .ret fr st := rfl
def c77_87 : Code := .seq c77_88 c77_89
theorem e77_87 : evK gS fi77 c77_87 fr st k = evK gS fi77 c77_88 fr st (.seq c77_89 k) := rfl
def c77_79 : Code := .seq c77_80 c77_87
theorem e77_79 : evK gS fi77 c77_79 fr st k = evK gS fi77 c77_80 fr st (.seq c77_87 k) := rfl
def c77_71 : Code := .seq c77_72 c77_79
theorem e77_71 : evK gS fi77 c77_71 fr st k = evK gS fi77 c77_72 fr st (.seq c77_79 k) := rfl
def c77_90 : Code := .skip
theorem e77_90 : evK gS fi77 c77_90 fr st k = nextK gS fi77 k .normal fr st := rfl
def c77_70 : Code := .cond (.tmp 98) c77_71 c77_90
theorem e77_70 : evK gS fi77 c77_70 fr st k = condK gS fi77 (fr.op (.tmp 98)).bool? c77_71 c77_90 fr st k := rfl
def c77_68 : Code := .seq c77_69 c77_70
theorem e77_68 : evK gS fi77 c77_68 fr st k = evK gS fi77 c77_69 fr st (.seq c77_70 k) := rfl
def c77_48 : Code := .cond (.tmp 79) c77_49 c77_68
theorem e77_48 : evK gS fi77 c77_48 fr st k = condK gS fi77 (fr.op (.tmp 79)).bool? c77_49 c77_68 fr st k := rfl
def c77_46 : Code := .seq c77_47 c77_48
theorem e77_46 : evK gS fi77 c77_46 fr st k = evK gS fi77 c77_47 fr st (.seq c77_48 k) := rfl
def c77_42 : Code := .cond (.tmp 63) c77_43 c77_46
theorem e77_42 : evK gS fi77 c77_42 fr st k = condK gS fi77 (fr.op (.tmp 63)).bool? c77_43 c77_46 fr st k := rfl
def c77_40 : Code := .seq c77_41 c77_42
theorem e77_40 : evK gS fi77 c77_40 fr st k = evK gS fi77 c77_41 fr st (.seq c77_42 k) := rfl
def c77_34 : Code := .cond (.tmp 43) c77_35 c77_40
theorem e77_34 : evK gS fi77 c77_34 fr st k = condK gS fi77 (fr.op (.tmp 43)).bool? c77_35 c77_40 fr st k := rfl
def c77_32 : Code := .seq c77_33 c77_34
theorem e77_32 : evK gS fi77 c77_32 fr st k = evK gS fi77 c77_33 fr st (.seq c77_34 k) := rfl
def c77_28 : Code := .cond (.tmp 27) c77_29 c77_32
theorem e77_28 : evK gS fi77 c77_28 fr st k = condK gS fi77 (fr.op (.tmp 27)).bool? c77_29 c77_32 fr st k := rfl
def c77_26 : Code := .seq c77_27 c77_28
theorem e77_26 : evK gS fi77 c77_26 fr st k = evK gS fi77 c77_27 fr st (.seq c77_28 k) := rfl
def c77_6 : Code := .cond (.tmp 8) c77_7 c77_26
theorem e77_6 : evK gS fi77 c77_6 fr st k = condK gS fi77 (fr.op (.tmp 8)).bool? c77_7 c77_26 fr st k := rfl
def c77_4 : Code := .seq c77_5 c77_6
theorem e77_4 : evK gS fi77 c77_4 fr st k = evK gS fi77 c77_5 fr st (.seq c77_6 k) := rfl
def c77_3 : Code := .block 0 c77_4
theorem e77_3 : evK gS fi77 c77_3 fr st k = evK gS fi77 c77_4 fr st (.blk 0 k) := rfl
def c77_92 : Code := codeN b77 11
theorem e77_92 : evK gS fi77 c77_92 fr st k = opsR gS fi77 [op1 4 (.assign (.const (.int .i64 0))) 3,
 op1 5 (.assign (.const (.bool false))) 4] fr st k := evK_r 26 (by kernel_rfl)
def c77_93 : Code := .ret
theorem e77_93 : evK gS fi77 c77_93 fr st k = nextK gS fi77 k .ret fr st := rfl
def c77_91 : Code := .seq c77_92 c77_93
theorem e77_91 : evK gS fi77 c77_91 fr st k = evK gS fi77 c77_92 fr st (.seq c77_93 k) := rfl
def c77_2 : Code := .seq c77_3 c77_91
theorem e77_2 : evK gS fi77 c77_2 fr st k = evK gS fi77 c77_3 fr st (.seq c77_91 k) := rfl
def c77_0 : Code := .seq c77_1 c77_2
theorem e77_0 : evK gS fi77 c77_0 fr st k = evK gS fi77 c77_1 fr st (.seq c77_2 k) := rfl
theorem m77 : mini fi77.body = c77_0 := by kernel_rfl
set_option maxHeartbeats 4000000 in
theorem c77 (a : Val) (b : Val)  (st : St) : EvF gS 77 [a.enc, b.enc] st = some (.ret (.tuple [.int .i64 (cmp a b).1, .bool (cmp a b).2]) none, st) := by
  refine EvF_start fi77_eq (fun x h => by cases h) m77 ?_
  rw [st77]
  have hm : fi77.marks = [] := rfl
  have hl : fi77.locals = [2, 3] := rfl
  have hr : fi77.results = [.tmp 4, .tmp 5] := rfl
  simp (config := { contextual := true, maxSteps := 10000000, maxDischargeDepth := 6 }) [-Int.not_le, -Int.not_lt, -Nat.not_le, -Nat.not_lt, ty2, ty3, ty4, ty9, ty22, ty24, eq24, hm, hl, hr, k107, k108, e77_1, e77_5, e77_9, e77_12, e77_13, e77_11, e77_14, e77_10, e77_8, e77_17, e77_20, e77_21, e77_19, e77_22, e77_18, e77_16, e77_24, e77_25, e77_23, e77_15, e77_7, e77_27, e77_30, e77_31, e77_29, e77_33, e77_36, e77_38, e77_39, e77_37, e77_35, e77_41, e77_44, e77_45, e77_43, e77_47, e77_51, e77_54, e77_55, e77_53, e77_56, e77_52, e77_50, e77_59, e77_62, e77_63, e77_61, e77_64, e77_60, e77_58, e77_66, e77_67, e77_65, e77_57, e77_49, e77_69, e77_73, e77_76, e77_77, e77_75, e77_78, e77_74, e77_72, e77_81, e77_84, e77_85, e77_83, e77_86, e77_82, e77_80, e77_88, e77_89, e77_87, e77_79, e77_71, e77_90, e77_70, e77_68, e77_48, e77_46, e77_42, e77_40, e77_34, e77_32, e77_28, e77_26, e77_6, e77_4, e77_3, e77_92, e77_93, e77_91, e77_2, e77_0]
  all_goals try simp (config := { contextual := true }) [-Int.not_le, -Int.not_lt, -Nat.not_le, -Nat.not_lt, cmp, scmp, sgn]
  all_goals first | done | grind | omega | (trace_state; fail)
theorem k77 (a_k : Int) (a_n : Int) (a_x : Nat) (a_s : List UInt8) (a_b : Bool) (b_k : Int) (b_n : Int) (b_x : Nat) (b_s : List UInt8) (b_b : Bool)  (fr : Fr) (st : St) : callStep gS (EvF gS) 77 [.agg [.int .i64 a_k, .int .i64 a_n, .float .f64 a_x, .str a_s, .bool a_b], .agg [.int .i64 b_k, .int .i64 b_n, .float .f64 b_x, .str b_s, .bool b_b]] fr st = some (.ok (retE none (.tuple [.int .i64 (cmp (⟨a_k, a_n, a_x, a_s, a_b⟩ : Val) (⟨b_k, b_n, b_x, b_s, b_b⟩ : Val)).1, .bool (cmp (⟨a_k, a_n, a_x, a_s, a_b⟩ : Val) (⟨b_k, b_n, b_x, b_s, b_b⟩ : Val)).2])) fr st) :=
  call_pure rfl fi77_eq rfl (fun st => c77 (⟨a_k, a_n, a_x, a_s, a_b⟩ : Val) (⟨b_k, b_n, b_x, b_s, b_b⟩ : Val)  st) (by simp)
theorem x77 : gS.ext 77 = none := rfl
theorem p77 : fi77.pure = true := rfl
def fi32 : FI := { body := codeOf Try.f32, ntmps := 18, results := [.tmp 4], pers := [0, 1, 2, 3, 4, 5, 6], locals := [2, 3], pure := true, marks := [] }
theorem fi32_eq : gS.fn 32 = some fi32 := by kernel_rfl
theorem st32 (a0 a1 : V) : startFr fi32 [a0, a1] = { ps := [(0, .val a0), (1, .val a1), (2, .any), (3, .any), (4, .any), (5, .any), (6, .any)], ts := [], lc := [] } := rfl
def b32 : Code := mini (codeOf Try.f32)
def c32_1 : Code := codeN b32 2
theorem e32_1 : evK gS fi32 c32_1 fr st k = opsR gS fi32 [op1 2 (.box 24 (.tmp 0)) 0,
 op1 3 (.box 24 (.tmp 1)) 0,
 op1 4 (.assign (.const (.bool false))) 4] fr st k := evK_r 0 (by kernel_rfl)
def c32_3 : Code := codeN b32 5
theorem e32_3 : evK gS fi32 c32_3 fr st k = opsR gS fi32 [op1 8 (.load 24 (.tmp 2)) 24,
 op1 9 (.load 24 (.tmp 3)) 24,
 op1 10 (.call { callee := (.value (.func 75)), args := #[(.tmp 8), (.tmp 9)], argTypes := #[24, 24] }) 94,
 op1 7 (.move (.tmp 10)) 94,
 op1 11 (.extract (.tmp 7) 0) 3,
 op1 12 (.extract (.tmp 7) 1) 4,
 op1 5 (.assign (.tmp 11)) 3,
 op1 6 (.assign (.tmp 12)) 4] fr st k := evK_r 1 (by kernel_rfl)
def c32_5 : Code := codeN b32 11
theorem e32_5 : evK gS fi32 c32_5 fr st k = opsR gS fi32 [op1 13 (.move (.tmp 6)) 4,
 op1 14 (.move (.tmp 13)) 4,
 mk (some 15) (.move (.tmp 5)) 3 (some (1, true)),
 mk (some 16) (.binOp .eql 3 (.tmp 15) (.const (.int .i64 0)) 3) 4 (some (1, true)),
 op1 17 (.pick (.tmp 14) (.tmp 16) (.const (.bool false))) 4,
 op1 4 (.assign (.tmp 17)) 4] fr st k := evK_r 2 (by kernel_rfl)
def c32_6 : Code := .ret
theorem e32_6 : evK gS fi32 c32_6 fr st k = nextK gS fi32 k .ret fr st := rfl
def c32_4 : Code := .seq c32_5 c32_6
theorem e32_4 : evK gS fi32 c32_4 fr st k = evK gS fi32 c32_5 fr st (.seq c32_6 k) := rfl
def c32_2 : Code := .seq c32_3 c32_4
theorem e32_2 : evK gS fi32 c32_2 fr st k = evK gS fi32 c32_3 fr st (.seq c32_4 k) := rfl
def c32_0 : Code := .seq c32_1 c32_2
theorem e32_0 : evK gS fi32 c32_0 fr st k = evK gS fi32 c32_1 fr st (.seq c32_2 k) := rfl
theorem m32 : mini fi32.body = c32_0 := by kernel_rfl
set_option maxHeartbeats 4000000 in
theorem c32 (a : Val) (b : Val)  (st : St) : EvF gS 32 [a.enc, b.enc] st = some (.ret (.bool (vis a b)) none, st) := by
  refine EvF_start fi32_eq (fun x h => by cases h) m32 ?_
  rw [st32]
  have hm : fi32.marks = [] := rfl
  have hl : fi32.locals = [2, 3] := rfl
  have hr : fi32.results = [.tmp 4] := rfl
  simp (config := { contextual := true, maxSteps := 10000000, maxDischargeDepth := 6 }) [-Int.not_le, -Int.not_lt, -Nat.not_le, -Nat.not_lt, ty3, ty4, ty24, eq24, hm, hl, hr, k75, e32_1, e32_3, e32_5, e32_6, e32_4, e32_2, e32_0]
  all_goals try simp (config := { contextual := true }) [-Int.not_le, -Int.not_lt, -Nat.not_le, -Nat.not_lt, vis]
  all_goals first | done | grind | omega | (trace_state; fail)
theorem k32 (a_k : Int) (a_n : Int) (a_x : Nat) (a_s : List UInt8) (a_b : Bool) (b_k : Int) (b_n : Int) (b_x : Nat) (b_s : List UInt8) (b_b : Bool)  (fr : Fr) (st : St) : callStep gS (EvF gS) 32 [.agg [.int .i64 a_k, .int .i64 a_n, .float .f64 a_x, .str a_s, .bool a_b], .agg [.int .i64 b_k, .int .i64 b_n, .float .f64 b_x, .str b_s, .bool b_b]] fr st = some (.ok (retE none (.bool (vis (⟨a_k, a_n, a_x, a_s, a_b⟩ : Val) (⟨b_k, b_n, b_x, b_s, b_b⟩ : Val)))) fr st) :=
  call_pure rfl fi32_eq rfl (fun st => c32 (⟨a_k, a_n, a_x, a_s, a_b⟩ : Val) (⟨b_k, b_n, b_x, b_s, b_b⟩ : Val)  st) (by simp)
def fi79 : FI := { body := codeOf Try.f79, ntmps := 18, results := [.tmp 4], pers := [0, 1, 2, 3, 4, 5, 6], locals := [2, 3], pure := true, marks := [] }
theorem fi79_eq : gS.fn 79 = some fi79 := by kernel_rfl
theorem st79 (a0 a1 : V) : startFr fi79 [a0, a1] = { ps := [(0, .val a0), (1, .val a1), (2, .any), (3, .any), (4, .any), (5, .any), (6, .any)], ts := [], lc := [] } := rfl
def b79 : Code := mini (codeOf Try.f79)
def c79_1 : Code := codeN b79 2
theorem e79_1 : evK gS fi79 c79_1 fr st k = opsR gS fi79 [op1 2 (.box 24 (.tmp 0)) 0,
 op1 3 (.box 24 (.tmp 1)) 0,
 op1 4 (.assign (.const (.bool false))) 4] fr st k := evK_r 0 (by kernel_rfl)
def c79_3 : Code := codeN b79 5
theorem e79_3 : evK gS fi79 c79_3 fr st k = opsR gS fi79 [op1 8 (.load 24 (.tmp 2)) 24,
 op1 9 (.load 24 (.tmp 3)) 24,
 op1 10 (.call { callee := (.value (.func 77)), args := #[(.tmp 8), (.tmp 9)], argTypes := #[24, 24] }) 94,
 op1 7 (.move (.tmp 10)) 94,
 op1 11 (.extract (.tmp 7) 0) 3,
 op1 12 (.extract (.tmp 7) 1) 4,
 op1 5 (.assign (.tmp 11)) 3,
 op1 6 (.assign (.tmp 12)) 4] fr st k := evK_r 1 (by kernel_rfl)
def c79_5 : Code := codeN b79 11
theorem e79_5 : evK gS fi79 c79_5 fr st k = opsR gS fi79 [op1 13 (.move (.tmp 6)) 4,
 op1 14 (.move (.tmp 13)) 4,
 mk (some 15) (.move (.tmp 5)) 3 (some (1, true)),
 mk (some 16) (.binOp .eql 3 (.tmp 15) (.const (.int .i64 0)) 3) 4 (some (1, true)),
 op1 17 (.pick (.tmp 14) (.tmp 16) (.const (.bool false))) 4,
 op1 4 (.assign (.tmp 17)) 4] fr st k := evK_r 2 (by kernel_rfl)
def c79_6 : Code := .ret
theorem e79_6 : evK gS fi79 c79_6 fr st k = nextK gS fi79 k .ret fr st := rfl
def c79_4 : Code := .seq c79_5 c79_6
theorem e79_4 : evK gS fi79 c79_4 fr st k = evK gS fi79 c79_5 fr st (.seq c79_6 k) := rfl
def c79_2 : Code := .seq c79_3 c79_4
theorem e79_2 : evK gS fi79 c79_2 fr st k = evK gS fi79 c79_3 fr st (.seq c79_4 k) := rfl
def c79_0 : Code := .seq c79_1 c79_2
theorem e79_0 : evK gS fi79 c79_0 fr st k = evK gS fi79 c79_1 fr st (.seq c79_2 k) := rfl
theorem m79 : mini fi79.body = c79_0 := by kernel_rfl
set_option maxHeartbeats 4000000 in
theorem c79 (a : Val) (b : Val)  (st : St) : EvF gS 79 [a.enc, b.enc] st = some (.ret (.bool (vis a b)) none, st) := by
  refine EvF_start fi79_eq (fun x h => by cases h) m79 ?_
  rw [st79]
  have hm : fi79.marks = [] := rfl
  have hl : fi79.locals = [2, 3] := rfl
  have hr : fi79.results = [.tmp 4] := rfl
  simp (config := { contextual := true, maxSteps := 10000000, maxDischargeDepth := 6 }) [-Int.not_le, -Int.not_lt, -Nat.not_le, -Nat.not_lt, ty3, ty4, ty24, eq24, hm, hl, hr, k77, e79_1, e79_3, e79_5, e79_6, e79_4, e79_2, e79_0]
  all_goals try simp (config := { contextual := true }) [-Int.not_le, -Int.not_lt, -Nat.not_le, -Nat.not_lt, vis]
  all_goals first | done | grind | omega | (trace_state; fail)
theorem k79 (a_k : Int) (a_n : Int) (a_x : Nat) (a_s : List UInt8) (a_b : Bool) (b_k : Int) (b_n : Int) (b_x : Nat) (b_s : List UInt8) (b_b : Bool)  (fr : Fr) (st : St) : callStep gS (EvF gS) 79 [.agg [.int .i64 a_k, .int .i64 a_n, .float .f64 a_x, .str a_s, .bool a_b], .agg [.int .i64 b_k, .int .i64 b_n, .float .f64 b_x, .str b_s, .bool b_b]] fr st = some (.ok (retE none (.bool (vis (⟨a_k, a_n, a_x, a_s, a_b⟩ : Val) (⟨b_k, b_n, b_x, b_s, b_b⟩ : Val)))) fr st) :=
  call_pure rfl fi79_eq rfl (fun st => c79 (⟨a_k, a_n, a_x, a_s, a_b⟩ : Val) (⟨b_k, b_n, b_x, b_s, b_b⟩ : Val)  st) (by simp)
theorem x79 : gS.ext 79 = none := rfl
theorem p79 : fi79.pure = true := rfl
def fi81 : FI := { body := codeOf Try.f81, ntmps := 38, results := [.tmp 4], pers := [0, 1, 2, 3, 4], locals := [2, 3], pure := true, marks := [] }
theorem fi81_eq : gS.fn 81 = some fi81 := by kernel_rfl
theorem st81 (a0 a1 : V) : startFr fi81 [a0, a1] = { ps := [(0, .val a0), (1, .val a1), (2, .any), (3, .any), (4, .any)], ts := [], lc := [] } := rfl
def b81 : Code := mini (codeOf Try.f81)
def c81_1 : Code := codeN b81 2
theorem e81_1 : evK gS fi81 c81_1 fr st k = opsR gS fi81 [op1 2 (.box 24 (.tmp 0)) 0,
 op1 3 (.box 24 (.tmp 1)) 0,
 op1 4 (.assign (.const (.bool false))) 4] fr st k := evK_r 0 (by kernel_rfl)
def c81_3 : Code := codeN b81 5
theorem e81_3 : evK gS fi81 c81_3 fr st k = opsR gS fi81 [op1 5 (.fieldAddr 24 (.tmp 2) 0) 0,
 op1 6 (.load 3 (.tmp 5)) 3,
 op1 7 (.fieldAddr 24 (.tmp 3) 0) 0,
 op1 8 (.load 3 (.tmp 7)) 3,
 op1 9 (.binOp .eql 3 (.tmp 6) (.tmp 8) 3) 4,
 op1 10 (.move (.tmp 9)) 4,
 mk (some 11) (.fieldAddr 24 (.tmp 2) 1) 0 (some (5, true)),
 mk (some 12) (.load 2 (.tmp 11)) 2 (some (5, true)),
 mk (some 13) (.fieldAddr 24 (.tmp 3) 1) 0 (some (5, true)),
 mk (some 14) (.load 2 (.tmp 13)) 2 (some (5, true)),
 mk (some 15) (.binOp .eql 2 (.tmp 12) (.tmp 14) 2) 4 (some (5, true)),
 op1 16 (.pick (.tmp 10) (.tmp 15) (.const (.bool false))) 4,
 op1 17 (.move (.tmp 16)) 4,
 mk (some 18) (.fieldAddr 24 (.tmp 2) 3) 0 (some (12, true)),
 mk (some 19) (.load 9 (.tmp 18)) 9 (some (12, true)),
 mk (some 20) (.fieldAddr 24 (.tmp 3) 3) 0 (some (12, true)),
 mk (some 21) (.load 9 (.tmp 20)) 9 (some (12, true)),
 mk (some 22) (.binOp .eql 9 (.tmp 19) (.tmp 21) 9) 4 (some (12, true)),
 op1 23 (.pick (.tmp 17) (.tmp 22) (.const (.bool false))) 4,
 op1 24 (.move (.tmp 23)) 4,
 mk (some 25) (.fieldAddr 24 (.tmp 2) 4) 0 (some (19, true)),
 mk (some 26) (.load 4 (.tmp 25)) 4 (some (19, true)),
 mk (some 27) (.fieldAddr 24 (.tmp 3) 4) 0 (some (19, true)),
 mk (some 28) (.load 4 (.tmp 27)) 4 (some (19, true)),
 mk (some 29) (.binOp .eql 4 (.tmp 26) (.tmp 28) 4) 4 (some (19, true)),
 op1 30 (.pick (.tmp 24) (.tmp 29) (.const (.bool false))) 4,
 op1 31 (.move (.tmp 30)) 4,
 mk (some 32) (.fieldAddr 24 (.tmp 2) 2) 0 (some (26, true)),
 mk (some 33) (.load 22 (.tmp 32)) 22 (some (26, true)),
 mk (some 34) (.fieldAddr 24 (.tmp 3) 2) 0 (some (26, true)),
 mk (some 35) (.load 22 (.tmp 34)) 22 (some (26, true)),
 mk (some 36) (.call { callee := (.value (.func 109)), args := #[(.tmp 33), (.tmp 35)], argTypes := #[22, 22] }) 4 (some (26, true)),
 op1 37 (.pick (.tmp 31) (.tmp 36) (.const (.bool false))) 4,
 op1 4 (.assign (.tmp 37)) 4] fr st k := evK_r 1 (by kernel_rfl)
def c81_4 : Code := .ret
theorem e81_4 : evK gS fi81 c81_4 fr st k = nextK gS fi81 k .ret fr st := rfl
def c81_2 : Code := .seq c81_3 c81_4
theorem e81_2 : evK gS fi81 c81_2 fr st k = evK gS fi81 c81_3 fr st (.seq c81_4 k) := rfl
def c81_0 : Code := .seq c81_1 c81_2
theorem e81_0 : evK gS fi81 c81_0 fr st k = evK gS fi81 c81_1 fr st (.seq c81_2 k) := rfl
theorem m81 : mini fi81.body = c81_0 := by kernel_rfl
set_option maxHeartbeats 4000000 in
theorem c81 (a : Val) (b : Val)  (st : St) : EvF gS 81 [a.enc, b.enc] st = some (.ret (.bool (vsame a b)) none, st) := by
  refine EvF_start fi81_eq (fun x h => by cases h) m81 ?_
  rw [st81]
  have hm : fi81.marks = [] := rfl
  have hl : fi81.locals = [2, 3] := rfl
  have hr : fi81.results = [.tmp 4] := rfl
  simp (config := { contextual := true, maxSteps := 10000000, maxDischargeDepth := 6 }) [-Int.not_le, -Int.not_lt, -Nat.not_le, -Nat.not_lt, ty2, ty3, ty4, ty9, ty22, ty24, eq24, hm, hl, hr, k109, e81_1, e81_3, e81_4, e81_2, e81_0]
  all_goals try simp (config := { contextual := true }) [-Int.not_le, -Int.not_lt, -Nat.not_le, -Nat.not_lt, vsame]
  all_goals first | done | grind | omega | (trace_state; fail)
theorem k81 (a_k : Int) (a_n : Int) (a_x : Nat) (a_s : List UInt8) (a_b : Bool) (b_k : Int) (b_n : Int) (b_x : Nat) (b_s : List UInt8) (b_b : Bool)  (fr : Fr) (st : St) : callStep gS (EvF gS) 81 [.agg [.int .i64 a_k, .int .i64 a_n, .float .f64 a_x, .str a_s, .bool a_b], .agg [.int .i64 b_k, .int .i64 b_n, .float .f64 b_x, .str b_s, .bool b_b]] fr st = some (.ok (retE none (.bool (vsame (⟨a_k, a_n, a_x, a_s, a_b⟩ : Val) (⟨b_k, b_n, b_x, b_s, b_b⟩ : Val)))) fr st) :=
  call_pure rfl fi81_eq rfl (fun st => c81 (⟨a_k, a_n, a_x, a_s, a_b⟩ : Val) (⟨b_k, b_n, b_x, b_s, b_b⟩ : Val)  st) (by simp)
theorem x81 : gS.ext 81 = none := rfl
theorem p81 : fi81.pure = true := rfl
def fi82 : FI := { body := codeOf Try.f82, ntmps := 40, results := [.tmp 4], pers := [0, 1, 2, 3, 4], locals := [2, 3], pure := true, marks := [] }
theorem fi82_eq : gS.fn 82 = some fi82 := by kernel_rfl
theorem st82 (a0 a1 : V) : startFr fi82 [a0, a1] = { ps := [(0, .val a0), (1, .val a1), (2, .any), (3, .any), (4, .any)], ts := [], lc := [] } := rfl
def b82 : Code := mini (codeOf Try.f82)
def c82_1 : Code := codeN b82 2
theorem e82_1 : evK gS fi82 c82_1 fr st k = opsR gS fi82 [op1 2 (.box 24 (.tmp 0)) 0,
 op1 3 (.box 24 (.tmp 1)) 0,
 op1 4 (.assign (.const (.bool false))) 4] fr st k := evK_r 0 (by kernel_rfl)
def r82_3 : Array Oper := regOps (codeN (codeOf Try.f82) 5)
def c82_3 : Code := .region 1 r82_3 true
def q82_3 : List (Oper × Fl) := [(op1 5 (.fieldAddr 24 (.tmp 2) 0) 0, ⟨true, false, true, false, false, false, true, true, false, false, []⟩),
 (op1 6 (.load 3 (.tmp 5)) 3, ⟨true, false, true, false, false, false, true, true, false, false, []⟩),
 (op1 7 (.fieldAddr 24 (.tmp 3) 0) 0, ⟨true, false, true, false, false, false, true, true, false, false, []⟩),
 (op1 8 (.load 3 (.tmp 7)) 3, ⟨true, false, true, false, false, false, true, true, false, false, []⟩),
 (op1 9 (.binOp .eql 3 (.tmp 6) (.tmp 8) 3) 4, ⟨true, false, true, false, false, false, true, true, false, false, []⟩),
 (op1 10 (.move (.tmp 9)) 4, ⟨true, false, true, false, false, false, true, true, false, false, []⟩),
 (mk (some 11) (.fieldAddr 24 (.tmp 2) 1) 0 (some (5, true)), ⟨true, false, true, false, false, false, true, true, false, false, []⟩),
 (mk (some 12) (.load 2 (.tmp 11)) 2 (some (5, true)), ⟨true, false, true, false, false, false, true, true, false, false, []⟩),
 (mk (some 13) (.fieldAddr 24 (.tmp 3) 1) 0 (some (5, true)), ⟨true, false, true, false, false, false, true, true, false, false, []⟩),
 (mk (some 14) (.load 2 (.tmp 13)) 2 (some (5, true)), ⟨true, false, true, false, false, false, true, true, false, false, []⟩),
 (mk (some 15) (.binOp .eql 2 (.tmp 12) (.tmp 14) 2) 4 (some (5, true)), ⟨true, false, true, false, false, false, true, true, false, false, []⟩),
 (op1 16 (.pick (.tmp 10) (.tmp 15) (.const (.bool false))) 4, ⟨true, false, true, false, false, false, true, true, false, false, []⟩),
 (op1 17 (.move (.tmp 16)) 4, ⟨true, true, true, false, true, false, true, true, false, false, []⟩),
 (mk (some 18) (.fieldAddr 24 (.tmp 2) 2) 0 (some (12, true)), ⟨true, false, true, false, false, false, true, true, false, false, []⟩),
 (mk (some 19) (.load 22 (.tmp 18)) 22 (some (12, true)), ⟨true, false, true, false, false, false, true, true, false, false, []⟩),
 (mk (some 20) (.call { callee := (.value (.func 110)), args := #[(.tmp 19)], argTypes := #[22] }) 123 (some (12, true)), ⟨true, true, true, false, false, true, true, true, false, false, []⟩),
 (mk (some 21) (.fieldAddr 24 (.tmp 3) 2) 0 (some (12, true)), ⟨true, false, true, false, false, false, true, true, false, false, []⟩),
 (mk (some 22) (.load 22 (.tmp 21)) 22 (some (12, true)), ⟨true, false, true, false, true, false, true, true, false, false, []⟩),
 (mk (some 23) (.call { callee := (.value (.func 110)), args := #[(.tmp 22)], argTypes := #[22] }) 123 (some (12, true)), ⟨true, true, true, false, true, true, true, true, false, false, []⟩),
 (mk (some 24) (.binOp .eql 123 (.tmp 20) (.tmp 23) 123) 4 (some (12, true)), ⟨true, false, true, false, true, false, true, true, false, false, []⟩),
 (op1 25 (.pick (.tmp 17) (.tmp 24) (.const (.bool false))) 4, ⟨true, false, true, false, true, false, true, true, false, false, []⟩),
 (op1 26 (.move (.tmp 25)) 4, ⟨true, false, true, false, true, false, true, true, false, false, []⟩),
 (mk (some 27) (.fieldAddr 24 (.tmp 2) 3) 0 (some (21, true)), ⟨true, false, true, false, false, false, true, true, false, false, []⟩),
 (mk (some 28) (.load 9 (.tmp 27)) 9 (some (21, true)), ⟨true, false, true, false, false, false, true, true, false, false, []⟩),
 (mk (some 29) (.fieldAddr 24 (.tmp 3) 3) 0 (some (21, true)), ⟨true, false, true, false, false, false, true, true, false, false, []⟩),
 (mk (some 30) (.load 9 (.tmp 29)) 9 (some (21, true)), ⟨true, false, true, false, true, false, true, true, false, false, []⟩),
 (mk (some 31) (.binOp .eql 9 (.tmp 28) (.tmp 30) 9) 4 (some (21, true)), ⟨true, false, true, false, true, false, true, true, false, false, []⟩),
 (op1 32 (.pick (.tmp 26) (.tmp 31) (.const (.bool false))) 4, ⟨true, false, true, false, true, false, true, true, false, false, []⟩),
 (op1 33 (.move (.tmp 32)) 4, ⟨true, false, true, false, true, false, true, true, false, false, []⟩),
 (mk (some 34) (.fieldAddr 24 (.tmp 2) 4) 0 (some (28, true)), ⟨true, false, true, false, false, false, true, true, false, false, []⟩),
 (mk (some 35) (.load 4 (.tmp 34)) 4 (some (28, true)), ⟨true, false, true, false, false, false, true, true, false, false, []⟩),
 (mk (some 36) (.fieldAddr 24 (.tmp 3) 4) 0 (some (28, true)), ⟨true, false, true, false, true, false, true, true, false, false, []⟩),
 (mk (some 37) (.load 4 (.tmp 36)) 4 (some (28, true)), ⟨true, false, true, false, true, false, true, true, false, false, []⟩),
 (mk (some 38) (.binOp .eql 4 (.tmp 35) (.tmp 37) 4) 4 (some (28, true)), ⟨true, false, true, false, true, false, true, true, false, false, []⟩),
 (op1 39 (.pick (.tmp 33) (.tmp 38) (.const (.bool false))) 4, ⟨true, false, true, false, true, false, true, true, false, false, []⟩),
 (op1 4 (.assign (.tmp 39)) 4, ⟨true, true, true, false, true, false, true, true, false, false, []⟩)]
theorem e82_3 : evK gS fi82 c82_3 fr st k = drwR gS fi82 r82_3 q82_3 fr st k := evK_dr 1 rfl (by kernel_rfl) (by kernel_rfl)
def c82_4 : Code := .ret
theorem e82_4 : evK gS fi82 c82_4 fr st k = nextK gS fi82 k .ret fr st := rfl
def c82_2 : Code := .seq c82_3 c82_4
theorem e82_2 : evK gS fi82 c82_2 fr st k = evK gS fi82 c82_3 fr st (.seq c82_4 k) := rfl
def c82_0 : Code := .seq c82_1 c82_2
theorem e82_0 : evK gS fi82 c82_0 fr st k = evK gS fi82 c82_1 fr st (.seq c82_2 k) := rfl
theorem m82 : mini fi82.body = c82_0 := by kernel_rfl
set_option maxHeartbeats 4000000 in
theorem c82 (a : Val) (b : Val)  (st : St) : EvF gS 82 [a.enc, b.enc] st = some (.ret (.bool (vsame a b)) none, st) := by
  refine EvF_start fi82_eq (fun x h => by cases h) m82 ?_
  rw [st82]
  have hm : fi82.marks = [] := rfl
  have hl : fi82.locals = [2, 3] := rfl
  have hr : fi82.results = [.tmp 4] := rfl
  simp (config := { contextual := true, maxSteps := 10000000, maxDischargeDepth := 6 }) [-Int.not_le, -Int.not_lt, -Nat.not_le, -Nat.not_lt, ty2, ty3, ty4, ty9, ty22, ty24, ty123, eq24, hm, hl, hr, k110, x110, fi110_eq, p110, e82_1, e82_3, q82_3, e82_4, e82_2, e82_0]
  all_goals try simp (config := { contextual := true }) [-Int.not_le, -Int.not_lt, -Nat.not_le, -Nat.not_lt, vsame]
  all_goals first | done | grind | omega | (trace_state; fail)
theorem k82 (a_k : Int) (a_n : Int) (a_x : Nat) (a_s : List UInt8) (a_b : Bool) (b_k : Int) (b_n : Int) (b_x : Nat) (b_s : List UInt8) (b_b : Bool)  (fr : Fr) (st : St) : callStep gS (EvF gS) 82 [.agg [.int .i64 a_k, .int .i64 a_n, .float .f64 a_x, .str a_s, .bool a_b], .agg [.int .i64 b_k, .int .i64 b_n, .float .f64 b_x, .str b_s, .bool b_b]] fr st = some (.ok (retE none (.bool (vsame (⟨a_k, a_n, a_x, a_s, a_b⟩ : Val) (⟨b_k, b_n, b_x, b_s, b_b⟩ : Val)))) fr st) :=
  call_pure rfl fi82_eq rfl (fun st => c82 (⟨a_k, a_n, a_x, a_s, a_b⟩ : Val) (⟨b_k, b_n, b_x, b_s, b_b⟩ : Val)  st) (by simp)
theorem x82 : gS.ext 82 = none := rfl
theorem p82 : fi82.pure = true := rfl
def fi70 : FI := { body := codeOf Try.f70, ntmps := 29, results := [.tmp 2], pers := [0, 1, 2, 3, 7], locals := [1, 3], pure := true, marks := [] }
theorem fi70_eq : gS.fn 70 = some fi70 := by kernel_rfl
theorem st70 (a0 : V) : startFr fi70 [a0] = { ps := [(0, .val a0), (1, .any), (2, .any), (3, .any), (7, .any)], ts := [], lc := [] } := rfl
def b70 : Code := mini (codeOf Try.f70)
def c70_1 : Code := codeN b70 2
theorem e70_1 : evK gS fi70 c70_1 fr st k = opsR gS fi70 [op1 1 (.box 24 (.tmp 0)) 0,
 op1 2 (.assign (.const (.bool false))) 4] fr st k := evK_r 0 (by kernel_rfl)
def c70_3 : Code := codeN b70 5
theorem e70_3 : evK gS fi70 c70_3 fr st k = opsR gS fi70 [op1 4 (.load 24 (.tmp 1)) 24,
 op1 3 (.alloc 24) 0,
 mk none (.store 24 (.tmp 3) (.tmp 4)) 0 none] fr st k := evK_r 1 (by kernel_rfl)
def c70_5 : Code := codeN b70 11
theorem e70_5 : evK gS fi70 c70_5 fr st k = opsR gS fi70 [op1 5 (.fieldAddr 24 (.tmp 3) 0) 0,
 mk none (.store 3 (.tmp 5) (.const (.int .i64 0))) 0 none] fr st k := evK_r 2 (by kernel_rfl)
def c70_8 : Code := codeN b70 39
theorem e70_8 : evK gS fi70 c70_8 fr st k = opsR gS fi70 [op1 6 (.fieldAddr 24 (.tmp 1) 0) 0,
 op1 7 (.load 3 (.tmp 6)) 3] fr st k := evK_r 3 (by kernel_rfl)
def c70_11 : Code := codeN b70 151
theorem e70_11 : evK gS fi70 c70_11 fr st k = opsR gS fi70 [op1 9 (.binOp .eql 3 (.tmp 7) (.const (.int .i64 1)) 3) 4,
 op1 8 (.assign (.tmp 9)) 4] fr st k := evK_r 5 (by kernel_rfl)
def c70_13 : Code := codeN b70 343
theorem e70_13 : evK gS fi70 c70_13 fr st k = opsR gS fi70 [op1 10 (.fieldAddr 24 (.tmp 3) 1) 0,
 mk none (.store 2 (.tmp 10) (.const (.int .i64 0))) 0 none] fr st k := evK_r 6 (by kernel_rfl)
def c70_15 : Code := codeN b70 727
theorem e70_15 : evK gS fi70 c70_15 fr st k = opsR gS fi70 [op1 12 (.binOp .eql 3 (.tmp 7) (.const (.int .i64 2)) 3) 4,
 op1 11 (.assign (.tmp 12)) 4] fr st k := evK_r 7 (by kernel_rfl)
def c70_17 : Code := codeN b70 1495
theorem e70_17 : evK gS fi70 c70_17 fr st k = opsR gS fi70 [op1 13 (.fieldAddr 24 (.tmp 3) 2) 0,
 mk none (.store 22 (.tmp 13) (.const (.float .f64 0))) 0 none] fr st k := evK_r 8 (by kernel_rfl)
def c70_19 : Code := codeN b70 3031
theorem e70_19 : evK gS fi70 c70_19 fr st k = opsR gS fi70 [op1 15 (.binOp .eql 3 (.tmp 7) (.const (.int .i64 3)) 3) 4,
 op1 14 (.assign (.tmp 15)) 4] fr st k := evK_r 9 (by kernel_rfl)
def c70_21 : Code := codeN b70 6103
theorem e70_21 : evK gS fi70 c70_21 fr st k = opsR gS fi70 [op1 16 (.fieldAddr 24 (.tmp 3) 3) 0,
 mk none (.store 9 (.tmp 16) (.const (.string { data := #[] }))) 0 none] fr st k := evK_r 10 (by kernel_rfl)
def c70_23 : Code := codeN b70 12247
theorem e70_23 : evK gS fi70 c70_23 fr st k = opsR gS fi70 [op1 18 (.binOp .eql 3 (.tmp 7) (.const (.int .i64 4)) 3) 4,
 op1 17 (.assign (.tmp 18)) 4] fr st k := evK_r 11 (by kernel_rfl)
def c70_25 : Code := codeN b70 24535
theorem e70_25 : evK gS fi70 c70_25 fr st k = opsR gS fi70 [op1 19 (.fieldAddr 24 (.tmp 3) 4) 0,
 mk none (.store 4 (.tmp 19) (.const (.bool false))) 0 none] fr st k := evK_r 12 (by kernel_rfl)
def c70_27 : Code := codeN b70 49111
theorem e70_27 : evK gS fi70 c70_27 fr st k = opsR gS fi70 [op1 2 (.assign (.const (.bool false))) 4] fr st k := evK_r 4 (by kernel_rfl)
def c70_28 : Code := .ret
theorem e70_28 : evK gS fi70 c70_28 fr st k = nextK gS fi70 k .ret fr st := rfl
def c70_26 : Code := .seq c70_27 c70_28
theorem e70_26 : evK gS fi70 c70_26 fr st k = evK gS fi70 c70_27 fr st (.seq c70_28 k) := rfl
def c70_24 : Code := .cond (.tmp 17) c70_25 c70_26
theorem e70_24 : evK gS fi70 c70_24 fr st k = condK gS fi70 (fr.op (.tmp 17)).bool? c70_25 c70_26 fr st k := rfl
def c70_22 : Code := .seq c70_23 c70_24
theorem e70_22 : evK gS fi70 c70_22 fr st k = evK gS fi70 c70_23 fr st (.seq c70_24 k) := rfl
def c70_20 : Code := .cond (.tmp 14) c70_21 c70_22
theorem e70_20 : evK gS fi70 c70_20 fr st k = condK gS fi70 (fr.op (.tmp 14)).bool? c70_21 c70_22 fr st k := rfl
def c70_18 : Code := .seq c70_19 c70_20
theorem e70_18 : evK gS fi70 c70_18 fr st k = evK gS fi70 c70_19 fr st (.seq c70_20 k) := rfl
def c70_16 : Code := .cond (.tmp 11) c70_17 c70_18
theorem e70_16 : evK gS fi70 c70_16 fr st k = condK gS fi70 (fr.op (.tmp 11)).bool? c70_17 c70_18 fr st k := rfl
def c70_14 : Code := .seq c70_15 c70_16
theorem e70_14 : evK gS fi70 c70_14 fr st k = evK gS fi70 c70_15 fr st (.seq c70_16 k) := rfl
def c70_12 : Code := .cond (.tmp 8) c70_13 c70_14
theorem e70_12 : evK gS fi70 c70_12 fr st k = condK gS fi70 (fr.op (.tmp 8)).bool? c70_13 c70_14 fr st k := rfl
def c70_10 : Code := .seq c70_11 c70_12
theorem e70_10 : evK gS fi70 c70_10 fr st k = evK gS fi70 c70_11 fr st (.seq c70_12 k) := rfl
def c70_9 : Code := .block 0 c70_10
theorem e70_9 : evK gS fi70 c70_9 fr st k = evK gS fi70 c70_10 fr st (.blk 0 k) := rfl
def c70_7 : Code := .seq c70_8 c70_9
theorem e70_7 : evK gS fi70 c70_7 fr st k = evK gS fi70 c70_8 fr st (.seq c70_9 k) := rfl
def c70_30 : Code := codeN b70 47
theorem e70_30 : evK gS fi70 c70_30 fr st k = opsR gS fi70 [op1 20 (.load 24 (.tmp 3)) 24,
 op1 21 (.build 24 #[]) 24,
 op1 22 (.binOp .eql 24 (.tmp 20) (.tmp 21) 24) 4,
 op1 23 (.move (.tmp 22)) 4,
 mk (some 24) (.fieldAddr 24 (.tmp 1) 3) 0 (some (3, true)),
 mk (some 25) (.load 9 (.tmp 24)) 9 (some (3, true)),
 mk (some 26) (.call { callee := (.builtin .len), args := #[(.tmp 25)], argTypes := #[9] }) 3 (some (3, true)),
 mk (some 27) (.binOp .leq 3 (.tmp 26) (.const (.int .i64 12)) 3) 4 (some (3, true)),
 op1 28 (.pick (.tmp 23) (.tmp 27) (.const (.bool false))) 4,
 op1 2 (.assign (.tmp 28)) 4] fr st k := evK_r 13 (by kernel_rfl)
def c70_31 : Code := .ret
theorem e70_31 : evK gS fi70 c70_31 fr st k = nextK gS fi70 k .ret fr st := rfl
def c70_29 : Code := .seq c70_30 c70_31
theorem e70_29 : evK gS fi70 c70_29 fr st k = evK gS fi70 c70_30 fr st (.seq c70_31 k) := rfl
def c70_6 : Code := .seq c70_7 c70_29
theorem e70_6 : evK gS fi70 c70_6 fr st k = evK gS fi70 c70_7 fr st (.seq c70_29 k) := rfl
def c70_4 : Code := .seq c70_5 c70_6
theorem e70_4 : evK gS fi70 c70_4 fr st k = evK gS fi70 c70_5 fr st (.seq c70_6 k) := rfl
def c70_2 : Code := .seq c70_3 c70_4
theorem e70_2 : evK gS fi70 c70_2 fr st k = evK gS fi70 c70_3 fr st (.seq c70_4 k) := rfl
def c70_0 : Code := .seq c70_1 c70_2
theorem e70_0 : evK gS fi70 c70_0 fr st k = evK gS fi70 c70_1 fr st (.seq c70_2 k) := rfl
theorem m70 : mini fi70.body = c70_0 := by kernel_rfl
set_option maxHeartbeats 4000000 in
theorem c70 (v : Val)  (st : St) : EvF gS 70 [v.enc] st = some (.ret (.bool (vright v)) none, st) := by
  refine EvF_start fi70_eq (fun x h => by cases h) m70 ?_
  rw [st70]
  have hm : fi70.marks = [] := rfl
  have hl : fi70.locals = [1, 3] := rfl
  have hr : fi70.results = [.tmp 2] := rfl
  simp (config := { contextual := true, maxSteps := 10000000, maxDischargeDepth := 6 }) [-Int.not_le, -Int.not_lt, -Nat.not_le, -Nat.not_lt, ty2, ty3, ty4, ty9, ty22, ty24, eq24, hm, hl, hr, e70_1, e70_3, e70_5, e70_8, e70_11, e70_13, e70_15, e70_17, e70_19, e70_21, e70_23, e70_25, e70_27, e70_28, e70_26, e70_24, e70_22, e70_20, e70_18, e70_16, e70_14, e70_12, e70_10, e70_9, e70_7, e70_30, e70_31, e70_29, e70_6, e70_4, e70_2, e70_0]
  all_goals try simp (config := { contextual := true }) [-Int.not_le, -Int.not_lt, -Nat.not_le, -Nat.not_lt, vright, opq]
  all_goals first | done | grind | omega | (trace_state; fail)
theorem k70 (v_k : Int) (v_n : Int) (v_x : Nat) (v_s : List UInt8) (v_b : Bool)  (fr : Fr) (st : St) : callStep gS (EvF gS) 70 [.agg [.int .i64 v_k, .int .i64 v_n, .float .f64 v_x, .str v_s, .bool v_b]] fr st = some (.ok (retE none (.bool (vright (⟨v_k, v_n, v_x, v_s, v_b⟩ : Val)))) fr st) :=
  call_pure rfl fi70_eq rfl (fun st => c70 (⟨v_k, v_n, v_x, v_s, v_b⟩ : Val)  st) (by simp)
def fi74 : FI := { body := codeOf Try.f74, ntmps := 63, results := [.tmp 2], pers := [0, 1, 2, 3, 4, 5, 6, 20], locals := [1], pure := true, marks := [] }
theorem fi74_eq : gS.fn 74 = some fi74 := by kernel_rfl
theorem st74 (a0 : V) : startFr fi74 [a0] = { ps := [(0, .val a0), (1, .any), (2, .any), (3, .any), (4, .any), (5, .any), (6, .any), (20, .any)], ts := [], lc := [] } := rfl
def b74 : Code := mini (codeOf Try.f74)
def c74_1 : Code := codeN b74 2
theorem e74_1 : evK gS fi74 c74_1 fr st k = opsR gS fi74 [op1 1 (.box 24 (.tmp 0)) 0,
 op1 2 (.assign (.const (.bool false))) 4] fr st k := evK_r 0 (by kernel_rfl)
def r74_3 : Array Oper := regOps (codeN (codeOf Try.f74) 5)
def c74_3 : Code := .region 1 r74_3 true
def q74_3 : List (Oper × Fl) := [(op1 7 (.fieldAddr 24 (.tmp 1) 1) 0, ⟨true, false, true, false, false, false, true, true, false, false, []⟩),
 (op1 8 (.load 2 (.tmp 7)) 2, ⟨true, false, true, false, false, false, true, true, false, false, []⟩),
 (op1 9 (.binOp .eql 2 (.tmp 8) (.const (.int .i64 0)) 2) 4, ⟨true, false, true, false, false, false, true, true, false, false, []⟩),
 (op1 10 (.fieldAddr 24 (.tmp 1) 2) 0, ⟨true, false, true, false, false, false, true, true, false, false, []⟩),
 (op1 11 (.load 22 (.tmp 10)) 22, ⟨true, false, true, false, false, false, true, true, false, false, []⟩),
 (op1 12 (.binOp .eql 22 (.tmp 11) (.const (.float .f64 0)) 22) 4, ⟨true, false, true, false, false, false, true, true, false, false, []⟩),
 (op1 13 (.fieldAddr 24 (.tmp 1) 3) 0, ⟨true, false, true, false, false, false, true, true, false, false, []⟩),
 (op1 14 (.load 9 (.tmp 13)) 9, ⟨true, false, true, false, false, false, true, true, false, false, []⟩),
 (op1 15 (.binOp .eql 9 (.tmp 14) (.const (.string { data := #[] })) 9) 4, ⟨true, false, true, false, false, false, true, true, false, false, []⟩),
 (op1 16 (.fieldAddr 24 (.tmp 1) 4) 0, ⟨true, false, true, false, false, false, true, true, false, false, []⟩),
 (op1 17 (.load 4 (.tmp 16)) 4, ⟨true, false, true, false, false, false, true, true, false, false, []⟩),
 (op1 18 (.unOp .not 4 (.tmp 17)) 4, ⟨true, false, true, false, false, false, true, true, false, false, []⟩),
 (op1 3 (.assign (.tmp 9)) 4, ⟨true, false, true, false, true, false, true, true, false, false, []⟩),
 (op1 4 (.assign (.tmp 12)) 4, ⟨true, false, true, false, true, false, true, true, false, false, []⟩),
 (op1 5 (.assign (.tmp 15)) 4, ⟨true, false, true, false, true, false, true, true, false, false, []⟩),
 (op1 6 (.assign (.tmp 18)) 4, ⟨true, true, true, false, true, false, true, true, false, false, []⟩)]
theorem e74_3 : evK gS fi74 c74_3 fr st k = drwR gS fi74 r74_3 q74_3 fr st k := evK_dr 1 rfl (by kernel_rfl) (by kernel_rfl)
def c74_6 : Code := codeN b74 19
theorem e74_6 : evK gS fi74 c74_6 fr st k = opsR gS fi74 [op1 19 (.fieldAddr 24 (.tmp 1) 0) 0,
 op1 20 (.load 3 (.tmp 19)) 3] fr st k := evK_r 2 (by kernel_rfl)
def c74_9 : Code := codeN b74 75
theorem e74_9 : evK gS fi74 c74_9 fr st k = opsR gS fi74 [op1 22 (.binOp .eql 3 (.tmp 20) (.const (.int .i64 1)) 3) 4,
 op1 21 (.assign (.tmp 22)) 4] fr st k := evK_r 3 (by kernel_rfl)
def c74_12 : Code := codeN b74 299
theorem e74_12 : evK gS fi74 c74_12 fr st k = opsR gS fi74 [op1 23 (.move (.tmp 4)) 4,
 op1 24 (.move (.tmp 23)) 4,
 mk (some 25) (.move (.tmp 5)) 4 (some (1, true)),
 op1 26 (.pick (.tmp 24) (.tmp 25) (.const (.bool false))) 4,
 op1 27 (.move (.tmp 26)) 4,
 mk (some 28) (.move (.tmp 6)) 4 (some (4, true)),
 op1 29 (.pick (.tmp 27) (.tmp 28) (.const (.bool false))) 4,
 op1 2 (.assign (.tmp 29)) 4] fr st k := evK_r 4 (by kernel_rfl)
def c74_13 : Code := .ret
theorem e74_13 : evK gS fi74 c74_13 fr st k = nextK gS fi74 k .ret fr st := rfl
def c74_11 : Code := .seq c74_12 c74_13
theorem e74_11 : evK gS fi74 c74_11 fr st k = evK gS fi74 c74_12 fr st (.seq c74_13 k) := rfl
def c74_15 : Code := codeN b74 363
theorem e74_15 : evK gS fi74 c74_15 fr st k = opsR gS fi74 [op1 31 (.binOp .eql 3 (.tmp 20) (.const (.int .i64 2)) 3) 4,
 op1 30 (.assign (.tmp 31)) 4] fr st k := evK_r 5 (by kernel_rfl)
def c74_18 : Code := codeN b74 1259
theorem e74_18 : evK gS fi74 c74_18 fr st k = opsR gS fi74 [op1 32 (.move (.tmp 3)) 4,
 op1 33 (.move (.tmp 32)) 4,
 mk (some 34) (.move (.tmp 5)) 4 (some (1, true)),
 op1 35 (.pick (.tmp 33) (.tmp 34) (.const (.bool false))) 4,
 op1 36 (.move (.tmp 35)) 4,
 mk (some 37) (.move (.tmp 6)) 4 (some (4, true)),
 op1 38 (.pick (.tmp 36) (.tmp 37) (.const (.bool false))) 4,
 op1 2 (.assign (.tmp 38)) 4] fr st k := evK_r 6 (by kernel_rfl)
def c74_19 : Code := .ret
theorem e74_19 : evK gS fi74 c74_19 fr st k = nextK gS fi74 k .ret fr st := rfl
def c74_17 : Code := .seq c74_18 c74_19
theorem e74_17 : evK gS fi74 c74_17 fr st k = evK gS fi74 c74_18 fr st (.seq c74_19 k) := rfl
def c74_21 : Code := codeN b74 1515
theorem e74_21 : evK gS fi74 c74_21 fr st k = opsR gS fi74 [op1 40 (.binOp .eql 3 (.tmp 20) (.const (.int .i64 3)) 3) 4,
 op1 39 (.assign (.tmp 40)) 4] fr st k := evK_r 7 (by kernel_rfl)
def c74_24 : Code := codeN b74 5099
theorem e74_24 : evK gS fi74 c74_24 fr st k = opsR gS fi74 [op1 41 (.move (.tmp 3)) 4,
 op1 42 (.move (.tmp 41)) 4,
 mk (some 43) (.move (.tmp 4)) 4 (some (1, true)),
 op1 44 (.pick (.tmp 42) (.tmp 43) (.const (.bool false))) 4,
 op1 45 (.move (.tmp 44)) 4,
 mk (some 46) (.move (.tmp 6)) 4 (some (4, true)),
 op1 47 (.pick (.tmp 45) (.tmp 46) (.const (.bool false))) 4,
 op1 48 (.move (.tmp 47)) 4,
 mk (some 49) (.fieldAddr 24 (.tmp 1) 3) 0 (some (7, true)),
 mk (some 50) (.load 9 (.tmp 49)) 9 (some (7, true)),
 mk (some 51) (.call { callee := (.builtin .len), args := #[(.tmp 50)], argTypes := #[9] }) 3 (some (7, true)),
 mk (some 52) (.binOp .leq 3 (.tmp 51) (.const (.int .i64 12)) 3) 4 (some (7, true)),
 op1 53 (.pick (.tmp 48) (.tmp 52) (.const (.bool false))) 4,
 op1 2 (.assign (.tmp 53)) 4] fr st k := evK_r 8 (by kernel_rfl)
def c74_25 : Code := .ret
theorem e74_25 : evK gS fi74 c74_25 fr st k = nextK gS fi74 k .ret fr st := rfl
def c74_23 : Code := .seq c74_24 c74_25
theorem e74_23 : evK gS fi74 c74_23 fr st k = evK gS fi74 c74_24 fr st (.seq c74_25 k) := rfl
def c74_27 : Code := codeN b74 6123
theorem e74_27 : evK gS fi74 c74_27 fr st k = opsR gS fi74 [op1 55 (.binOp .eql 3 (.tmp 20) (.const (.int .i64 4)) 3) 4,
 op1 54 (.assign (.tmp 55)) 4] fr st k := evK_r 9 (by kernel_rfl)
def c74_30 : Code := codeN b74 20459
theorem e74_30 : evK gS fi74 c74_30 fr st k = opsR gS fi74 [op1 56 (.move (.tmp 3)) 4,
 op1 57 (.move (.tmp 56)) 4,
 mk (some 58) (.move (.tmp 4)) 4 (some (1, true)),
 op1 59 (.pick (.tmp 57) (.tmp 58) (.const (.bool false))) 4,
 op1 60 (.move (.tmp 59)) 4,
 mk (some 61) (.move (.tmp 5)) 4 (some (4, true)),
 op1 62 (.pick (.tmp 60) (.tmp 61) (.const (.bool false))) 4,
 op1 2 (.assign (.tmp 62)) 4] fr st k := evK_r 10 (by kernel_rfl)
def c74_31 : Code := .ret
theorem e74_31 : evK gS fi74 c74_31 fr st k = nextK gS fi74 k .ret fr st := rfl
def c74_29 : Code := .seq c74_30 c74_31
theorem e74_29 : evK gS fi74 c74_29 fr st k = evK gS fi74 c74_30 fr st (.seq c74_31 k) := rfl
def c74_32 : Code := .skip
theorem e74_32 : evK gS fi74 c74_32 fr st k = nextK gS fi74 k .normal fr st := rfl
def c74_28 : Code := .cond (.tmp 54) c74_29 c74_32
theorem e74_28 : evK gS fi74 c74_28 fr st k = condK gS fi74 (fr.op (.tmp 54)).bool? c74_29 c74_32 fr st k := rfl
def c74_26 : Code := .seq c74_27 c74_28
theorem e74_26 : evK gS fi74 c74_26 fr st k = evK gS fi74 c74_27 fr st (.seq c74_28 k) := rfl
def c74_22 : Code := .cond (.tmp 39) c74_23 c74_26
theorem e74_22 : evK gS fi74 c74_22 fr st k = condK gS fi74 (fr.op (.tmp 39)).bool? c74_23 c74_26 fr st k := rfl
def c74_20 : Code := .seq c74_21 c74_22
theorem e74_20 : evK gS fi74 c74_20 fr st k = evK gS fi74 c74_21 fr st (.seq c74_22 k) := rfl
def c74_16 : Code := .cond (.tmp 30) c74_17 c74_20
theorem e74_16 : evK gS fi74 c74_16 fr st k = condK gS fi74 (fr.op (.tmp 30)).bool? c74_17 c74_20 fr st k := rfl
def c74_14 : Code := .seq c74_15 c74_16
theorem e74_14 : evK gS fi74 c74_14 fr st k = evK gS fi74 c74_15 fr st (.seq c74_16 k) := rfl
def c74_10 : Code := .cond (.tmp 21) c74_11 c74_14
theorem e74_10 : evK gS fi74 c74_10 fr st k = condK gS fi74 (fr.op (.tmp 21)).bool? c74_11 c74_14 fr st k := rfl
def c74_8 : Code := .seq c74_9 c74_10
theorem e74_8 : evK gS fi74 c74_8 fr st k = evK gS fi74 c74_9 fr st (.seq c74_10 k) := rfl
def c74_7 : Code := .block 0 c74_8
theorem e74_7 : evK gS fi74 c74_7 fr st k = evK gS fi74 c74_8 fr st (.blk 0 k) := rfl
def c74_5 : Code := .seq c74_6 c74_7
theorem e74_5 : evK gS fi74 c74_5 fr st k = evK gS fi74 c74_6 fr st (.seq c74_7 k) := rfl
def c74_34 : Code := codeN b74 23
theorem e74_34 : evK gS fi74 c74_34 fr st k = opsR gS fi74 [op1 2 (.assign (.const (.bool false))) 4] fr st k := evK_r 11 (by kernel_rfl)
def c74_35 : Code := .ret
theorem e74_35 : evK gS fi74 c74_35 fr st k = nextK gS fi74 k .ret fr st := rfl
def c74_33 : Code := .seq c74_34 c74_35
theorem e74_33 : evK gS fi74 c74_33 fr st k = evK gS fi74 c74_34 fr st (.seq c74_35 k) := rfl
def c74_4 : Code := .seq c74_5 c74_33
theorem e74_4 : evK gS fi74 c74_4 fr st k = evK gS fi74 c74_5 fr st (.seq c74_33 k) := rfl
def c74_2 : Code := .seq c74_3 c74_4
theorem e74_2 : evK gS fi74 c74_2 fr st k = evK gS fi74 c74_3 fr st (.seq c74_4 k) := rfl
def c74_0 : Code := .seq c74_1 c74_2
theorem e74_0 : evK gS fi74 c74_0 fr st k = evK gS fi74 c74_1 fr st (.seq c74_2 k) := rfl
theorem m74 : mini fi74.body = c74_0 := by kernel_rfl
set_option maxHeartbeats 4000000 in
theorem c74 (v : Val)  (st : St) : EvF gS 74 [v.enc] st = some (.ret (.bool (vright v)) none, st) := by
  refine EvF_start fi74_eq (fun x h => by cases h) m74 ?_
  rw [st74]
  have hm : fi74.marks = [] := rfl
  have hl : fi74.locals = [1] := rfl
  have hr : fi74.results = [.tmp 2] := rfl
  simp (config := { contextual := true, maxSteps := 10000000, maxDischargeDepth := 6 }) [-Int.not_le, -Int.not_lt, -Nat.not_le, -Nat.not_lt, ty2, ty3, ty4, ty9, ty22, ty24, eq24, hm, hl, hr, e74_1, e74_3, q74_3, e74_6, e74_9, e74_12, e74_13, e74_11, e74_15, e74_18, e74_19, e74_17, e74_21, e74_24, e74_25, e74_23, e74_27, e74_30, e74_31, e74_29, e74_32, e74_28, e74_26, e74_22, e74_20, e74_16, e74_14, e74_10, e74_8, e74_7, e74_5, e74_34, e74_35, e74_33, e74_4, e74_2, e74_0]
  all_goals try simp (config := { contextual := true }) [-Int.not_le, -Int.not_lt, -Nat.not_le, -Nat.not_lt, vright, opq]
  all_goals first | done | grind | omega | (trace_state; fail)
theorem k74 (v_k : Int) (v_n : Int) (v_x : Nat) (v_s : List UInt8) (v_b : Bool)  (fr : Fr) (st : St) : callStep gS (EvF gS) 74 [.agg [.int .i64 v_k, .int .i64 v_n, .float .f64 v_x, .str v_s, .bool v_b]] fr st = some (.ok (retE none (.bool (vright (⟨v_k, v_n, v_x, v_s, v_b⟩ : Val)))) fr st) :=
  call_pure rfl fi74_eq rfl (fun st => c74 (⟨v_k, v_n, v_x, v_s, v_b⟩ : Val)  st) (by simp)
def fi69 : FI := { body := codeOf Try.f69, ntmps := 6, results := [.tmp 2], pers := [0, 1, 2], locals := [1], pure := true, marks := [] }
theorem fi69_eq : gS.fn 69 = some fi69 := by kernel_rfl
theorem st69 (a0 : V) : startFr fi69 [a0] = { ps := [(0, .val a0), (1, .any), (2, .any)], ts := [], lc := [] } := rfl
def b69 : Code := mini (codeOf Try.f69)
def c69_1 : Code := codeN b69 2
theorem e69_1 : evK gS fi69 c69_1 fr st k = opsR gS fi69 [op1 1 (.box 24 (.tmp 0)) 0,
 op1 2 (.assign (.const (.bool false))) 4] fr st k := evK_r 0 (by kernel_rfl)
def c69_3 : Code := codeN b69 5
theorem e69_3 : evK gS fi69 c69_3 fr st k = opsR gS fi69 [op1 3 (.load 24 (.tmp 1)) 24,
 op1 4 (.build 24 #[]) 24,
 op1 5 (.call { callee := (.value (.func 81)), args := #[(.tmp 3), (.tmp 4)], argTypes := #[24, 24] }) 4,
 op1 2 (.assign (.tmp 5)) 4] fr st k := evK_r 1 (by kernel_rfl)
def c69_4 : Code := .ret
theorem e69_4 : evK gS fi69 c69_4 fr st k = nextK gS fi69 k .ret fr st := rfl
def c69_2 : Code := .seq c69_3 c69_4
theorem e69_2 : evK gS fi69 c69_2 fr st k = evK gS fi69 c69_3 fr st (.seq c69_4 k) := rfl
def c69_0 : Code := .seq c69_1 c69_2
theorem e69_0 : evK gS fi69 c69_0 fr st k = evK gS fi69 c69_1 fr st (.seq c69_2 k) := rfl
theorem m69 : mini fi69.body = c69_0 := by kernel_rfl
set_option maxHeartbeats 4000000 in
theorem c69 (v : Val)  (st : St) : EvF gS 69 [v.enc] st = some (.ret (.bool (vsame v vzero)) none, st) := by
  refine EvF_start fi69_eq (fun x h => by cases h) m69 ?_
  rw [st69]
  have hm : fi69.marks = [] := rfl
  have hl : fi69.locals = [1] := rfl
  have hr : fi69.results = [.tmp 2] := rfl
  simp (config := { contextual := true, maxSteps := 10000000, maxDischargeDepth := 6 }) [-Int.not_le, -Int.not_lt, -Nat.not_le, -Nat.not_lt, ty4, ty24, eq24, hm, hl, hr, k81, e69_1, e69_3, e69_4, e69_2, e69_0]
  all_goals try simp (config := { contextual := true }) [-Int.not_le, -Int.not_lt, -Nat.not_le, -Nat.not_lt, vzero]
  all_goals first | done | grind | omega | (trace_state; fail)
theorem k69 (v_k : Int) (v_n : Int) (v_x : Nat) (v_s : List UInt8) (v_b : Bool)  (fr : Fr) (st : St) : callStep gS (EvF gS) 69 [.agg [.int .i64 v_k, .int .i64 v_n, .float .f64 v_x, .str v_s, .bool v_b]] fr st = some (.ok (retE none (.bool (vsame (⟨v_k, v_n, v_x, v_s, v_b⟩ : Val) vzero))) fr st) :=
  call_pure rfl fi69_eq rfl (fun st => c69 (⟨v_k, v_n, v_x, v_s, v_b⟩ : Val)  st) (by simp)
def fi73 : FI := { body := codeOf Try.f73, ntmps := 6, results := [.tmp 2], pers := [0, 1, 2], locals := [1], pure := true, marks := [] }
theorem fi73_eq : gS.fn 73 = some fi73 := by kernel_rfl
theorem st73 (a0 : V) : startFr fi73 [a0] = { ps := [(0, .val a0), (1, .any), (2, .any)], ts := [], lc := [] } := rfl
def b73 : Code := mini (codeOf Try.f73)
def c73_1 : Code := codeN b73 2
theorem e73_1 : evK gS fi73 c73_1 fr st k = opsR gS fi73 [op1 1 (.box 24 (.tmp 0)) 0,
 op1 2 (.assign (.const (.bool false))) 4] fr st k := evK_r 0 (by kernel_rfl)
def c73_3 : Code := codeN b73 5
theorem e73_3 : evK gS fi73 c73_3 fr st k = opsR gS fi73 [op1 3 (.load 24 (.tmp 1)) 24,
 op1 4 (.build 24 #[]) 24,
 op1 5 (.call { callee := (.value (.func 82)), args := #[(.tmp 3), (.tmp 4)], argTypes := #[24, 24] }) 4,
 op1 2 (.assign (.tmp 5)) 4] fr st k := evK_r 1 (by kernel_rfl)
def c73_4 : Code := .ret
theorem e73_4 : evK gS fi73 c73_4 fr st k = nextK gS fi73 k .ret fr st := rfl
def c73_2 : Code := .seq c73_3 c73_4
theorem e73_2 : evK gS fi73 c73_2 fr st k = evK gS fi73 c73_3 fr st (.seq c73_4 k) := rfl
def c73_0 : Code := .seq c73_1 c73_2
theorem e73_0 : evK gS fi73 c73_0 fr st k = evK gS fi73 c73_1 fr st (.seq c73_2 k) := rfl
theorem m73 : mini fi73.body = c73_0 := by kernel_rfl
set_option maxHeartbeats 4000000 in
theorem c73 (v : Val)  (st : St) : EvF gS 73 [v.enc] st = some (.ret (.bool (vsame v vzero)) none, st) := by
  refine EvF_start fi73_eq (fun x h => by cases h) m73 ?_
  rw [st73]
  have hm : fi73.marks = [] := rfl
  have hl : fi73.locals = [1] := rfl
  have hr : fi73.results = [.tmp 2] := rfl
  simp (config := { contextual := true, maxSteps := 10000000, maxDischargeDepth := 6 }) [-Int.not_le, -Int.not_lt, -Nat.not_le, -Nat.not_lt, ty4, ty24, eq24, hm, hl, hr, k82, e73_1, e73_3, e73_4, e73_2, e73_0]
  all_goals try simp (config := { contextual := true }) [-Int.not_le, -Int.not_lt, -Nat.not_le, -Nat.not_lt, vzero]
  all_goals first | done | grind | omega | (trace_state; fail)
theorem k73 (v_k : Int) (v_n : Int) (v_x : Nat) (v_s : List UInt8) (v_b : Bool)  (fr : Fr) (st : St) : callStep gS (EvF gS) 73 [.agg [.int .i64 v_k, .int .i64 v_n, .float .f64 v_x, .str v_s, .bool v_b]] fr st = some (.ok (retE none (.bool (vsame (⟨v_k, v_n, v_x, v_s, v_b⟩ : Val) vzero))) fr st) :=
  call_pure rfl fi73_eq rfl (fun st => c73 (⟨v_k, v_n, v_x, v_s, v_b⟩ : Val)  st) (by simp)
def fi80 : FI := { body := codeOf Try.f80, ntmps := 13, results := [.tmp 2], pers := [0, 1, 2], locals := [1], pure := true, marks := [] }
theorem fi80_eq : gS.fn 80 = some fi80 := by kernel_rfl
theorem st80 (a0 : V) : startFr fi80 [a0] = { ps := [(0, .val a0), (1, .any), (2, .any)], ts := [], lc := [] } := rfl
def b80 : Code := mini (codeOf Try.f80)
def c80_1 : Code := codeN b80 2
theorem e80_1 : evK gS fi80 c80_1 fr st k = opsR gS fi80 [op1 1 (.box 24 (.tmp 0)) 0,
 op1 2 (.assign (.const (.bool false))) 4] fr st k := evK_r 0 (by kernel_rfl)
def c80_3 : Code := codeN b80 5
theorem e80_3 : evK gS fi80 c80_3 fr st k = opsR gS fi80 [op1 3 (.fieldAddr 24 (.tmp 1) 0) 0,
 op1 4 (.load 3 (.tmp 3)) 3,
 op1 5 (.binOp .eql 3 (.tmp 4) (.const (.int .i64 2)) 3) 4,
 op1 6 (.move (.tmp 5)) 4,
 mk (some 7) (.fieldAddr 24 (.tmp 1) 2) 0 (some (3, true)),
 mk (some 8) (.load 22 (.tmp 7)) 22 (some (3, true)),
 mk (some 9) (.fieldAddr 24 (.tmp 1) 2) 0 (some (3, true)),
 mk (some 10) (.load 22 (.tmp 9)) 22 (some (3, true)),
 mk (some 11) (.binOp .neq 22 (.tmp 8) (.tmp 10) 22) 4 (some (3, true)),
 op1 12 (.pick (.tmp 6) (.tmp 11) (.const (.bool false))) 4,
 op1 2 (.assign (.tmp 12)) 4] fr st k := evK_r 1 (by kernel_rfl)
def c80_4 : Code := .ret
theorem e80_4 : evK gS fi80 c80_4 fr st k = nextK gS fi80 k .ret fr st := rfl
def c80_2 : Code := .seq c80_3 c80_4
theorem e80_2 : evK gS fi80 c80_2 fr st k = evK gS fi80 c80_3 fr st (.seq c80_4 k) := rfl
def c80_0 : Code := .seq c80_1 c80_2
theorem e80_0 : evK gS fi80 c80_0 fr st k = evK gS fi80 c80_1 fr st (.seq c80_2 k) := rfl
theorem m80 : mini fi80.body = c80_0 := by kernel_rfl
set_option maxHeartbeats 4000000 in
theorem c80 (v : Val)  (st : St) : EvF gS 80 [v.enc] st = some (.ret (.bool (vnan v)) none, st) := by
  refine EvF_start fi80_eq (fun x h => by cases h) m80 ?_
  rw [st80]
  have hm : fi80.marks = [] := rfl
  have hl : fi80.locals = [1] := rfl
  have hr : fi80.results = [.tmp 2] := rfl
  simp (config := { contextual := true, maxSteps := 10000000, maxDischargeDepth := 6 }) [-Int.not_le, -Int.not_lt, -Nat.not_le, -Nat.not_lt, ty3, ty4, ty22, ty24, eq24, hm, hl, hr, e80_1, e80_3, e80_4, e80_2, e80_0]
  all_goals try simp (config := { contextual := true }) [-Int.not_le, -Int.not_lt, -Nat.not_le, -Nat.not_lt, vnan]
  all_goals first | done | grind | omega | (trace_state; fail)
theorem k80 (v_k : Int) (v_n : Int) (v_x : Nat) (v_s : List UInt8) (v_b : Bool)  (fr : Fr) (st : St) : callStep gS (EvF gS) 80 [.agg [.int .i64 v_k, .int .i64 v_n, .float .f64 v_x, .str v_s, .bool v_b]] fr st = some (.ok (retE none (.bool (vnan (⟨v_k, v_n, v_x, v_s, v_b⟩ : Val)))) fr st) :=
  call_pure rfl fi80_eq rfl (fun st => c80 (⟨v_k, v_n, v_x, v_s, v_b⟩ : Val)  st) (by simp)
def fi76 : FI := { body := codeOf Try.f76, ntmps := 18, results := [.tmp 4], pers := [0, 1, 4], locals := [], pure := true, marks := [] }
theorem fi76_eq : gS.fn 76 = some fi76 := by kernel_rfl
theorem st76 (a0 a1 : V) : startFr fi76 [a0, a1] = { ps := [(0, .val a0), (1, .val a1), (4, .any)], ts := [], lc := [] } := rfl
def b76 : Code := mini (codeOf Try.f76)
def c76_1 : Code := codeN b76 2
theorem e76_1 : evK gS fi76 c76_1 fr st k = opsR gS fi76 [op1 4 (.assign (.const (.bool false))) 4] fr st k := evK_r 0 (by kernel_rfl)
def c76_3 : Code := codeN b76 5
theorem e76_3 : evK gS fi76 c76_3 fr st k = opsR gS fi76 [op1 5 (.move (.tmp 0)) 9,
 op1 6 (.call { callee := (.builtin .len), args := #[(.tmp 5)], argTypes := #[9] }) 3,
 op1 7 (.move (.tmp 1)) 9,
 op1 8 (.call { callee := (.builtin .len), args := #[(.tmp 7)], argTypes := #[9] }) 3,
 op1 9 (.binOp .geq 3 (.tmp 6) (.tmp 8) 3) 4,
 op1 10 (.move (.tmp 9)) 4,
 mk (some 11) (.move (.tmp 0)) 9 (some (5, true)),
 mk (some 12) (.move (.tmp 1)) 9 (some (5, true)),
 mk (some 13) (.call { callee := (.builtin .len), args := #[(.tmp 12)], argTypes := #[9] }) 3 (some (5, true)),
 mk (some 14) (.slice 9 (.tmp 11) none (some (.tmp 13)) none) 9 (some (5, true)),
 mk (some 15) (.move (.tmp 1)) 9 (some (5, true)),
 mk (some 16) (.binOp .eql 9 (.tmp 14) (.tmp 15) 9) 4 (some (5, true)),
 op1 17 (.pick (.tmp 10) (.tmp 16) (.const (.bool false))) 4,
 op1 4 (.assign (.tmp 17)) 4] fr st k := evK_r 1 (by kernel_rfl)
def c76_4 : Code := .ret
theorem e76_4 : evK gS fi76 c76_4 fr st k = nextK gS fi76 k .ret fr st := rfl
def c76_2 : Code := .seq c76_3 c76_4
theorem e76_2 : evK gS fi76 c76_2 fr st k = evK gS fi76 c76_3 fr st (.seq c76_4 k) := rfl
def c76_0 : Code := .seq c76_1 c76_2
theorem e76_0 : evK gS fi76 c76_0 fr st k = evK gS fi76 c76_1 fr st (.seq c76_2 k) := rfl
theorem m76 : mini fi76.body = c76_0 := by kernel_rfl
set_option maxHeartbeats 4000000 in
theorem c76 (s : List UInt8) (t : List UInt8)  (st : St) : EvF gS 76 [.str s, .str t] st = some (.ret (.bool (isPre s t)) none, st) := by
  refine EvF_start fi76_eq (fun x h => by cases h) m76 ?_
  rw [st76]
  have hm : fi76.marks = [] := rfl
  have hl : fi76.locals = [] := rfl
  have hr : fi76.results = [.tmp 4] := rfl
  simp (config := { contextual := true, maxSteps := 10000000, maxDischargeDepth := 6 }) [-Int.not_le, -Int.not_lt, -Nat.not_le, -Nat.not_lt, ty3, ty4, ty9, hm, hl, hr, e76_1, e76_3, e76_4, e76_2, e76_0]
  all_goals try simp (config := { contextual := true }) [-Int.not_le, -Int.not_lt, -Nat.not_le, -Nat.not_lt, isPre]
  all_goals first | done | grind | omega | (trace_state; fail)
theorem k76 (s : List UInt8) (t : List UInt8)  (fr : Fr) (st : St) : callStep gS (EvF gS) 76 [.str s, .str t] fr st = some (.ok (retE none (.bool (isPre s t))) fr st) :=
  call_pure rfl fi76_eq rfl (fun st => c76 s t  st) (by simp)
def fi78 : FI := { body := codeOf Try.f78, ntmps := 18, results := [.tmp 4], pers := [0, 1, 4], locals := [], pure := true, marks := [] }
theorem fi78_eq : gS.fn 78 = some fi78 := by kernel_rfl
theorem st78 (a0 a1 : V) : startFr fi78 [a0, a1] = { ps := [(0, .val a0), (1, .val a1), (4, .any)], ts := [], lc := [] } := rfl
def b78 : Code := mini (codeOf Try.f78)
def c78_1 : Code := codeN b78 2
theorem e78_1 : evK gS fi78 c78_1 fr st k = opsR gS fi78 [op1 4 (.assign (.const (.bool false))) 4] fr st k := evK_r 0 (by kernel_rfl)
def c78_3 : Code := codeN b78 5
theorem e78_3 : evK gS fi78 c78_3 fr st k = opsR gS fi78 [op1 5 (.move (.tmp 0)) 9,
 op1 6 (.call { callee := (.builtin .len), args := #[(.tmp 5)], argTypes := #[9] }) 3,
 op1 7 (.move (.tmp 1)) 9,
 op1 8 (.call { callee := (.builtin .len), args := #[(.tmp 7)], argTypes := #[9] }) 3,
 op1 9 (.binOp .geq 3 (.tmp 6) (.tmp 8) 3) 4,
 op1 10 (.move (.tmp 9)) 4,
 mk (some 11) (.move (.tmp 0)) 9 (some (5, true)),
 mk (some 12) (.move (.tmp 1)) 9 (some (5, true)),
 mk (some 13) (.call { callee := (.builtin .len), args := #[(.tmp 12)], argTypes := #[9] }) 3 (some (5, true)),
 mk (some 14) (.slice 9 (.tmp 11) none (some (.tmp 13)) none) 9 (some (5, true)),
 mk (some 15) (.move (.tmp 1)) 9 (some (5, true)),
 mk (some 16) (.binOp .eql 9 (.tmp 14) (.tmp 15) 9) 4 (some (5, true)),
 op1 17 (.pick (.tmp 10) (.tmp 16) (.const (.bool false))) 4,
 op1 4 (.assign (.tmp 17)) 4] fr st k := evK_r 1 (by kernel_rfl)
def c78_4 : Code := .ret
theorem e78_4 : evK gS fi78 c78_4 fr st k = nextK gS fi78 k .ret fr st := rfl
def c78_2 : Code := .seq c78_3 c78_4
theorem e78_2 : evK gS fi78 c78_2 fr st k = evK gS fi78 c78_3 fr st (.seq c78_4 k) := rfl
def c78_0 : Code := .seq c78_1 c78_2
theorem e78_0 : evK gS fi78 c78_0 fr st k = evK gS fi78 c78_1 fr st (.seq c78_2 k) := rfl
theorem m78 : mini fi78.body = c78_0 := by kernel_rfl
set_option maxHeartbeats 4000000 in
theorem c78 (s : List UInt8) (t : List UInt8)  (st : St) : EvF gS 78 [.str s, .str t] st = some (.ret (.bool (isPre s t)) none, st) := by
  refine EvF_start fi78_eq (fun x h => by cases h) m78 ?_
  rw [st78]
  have hm : fi78.marks = [] := rfl
  have hl : fi78.locals = [] := rfl
  have hr : fi78.results = [.tmp 4] := rfl
  simp (config := { contextual := true, maxSteps := 10000000, maxDischargeDepth := 6 }) [-Int.not_le, -Int.not_lt, -Nat.not_le, -Nat.not_lt, ty3, ty4, ty9, hm, hl, hr, e78_1, e78_3, e78_4, e78_2, e78_0]
  all_goals try simp (config := { contextual := true }) [-Int.not_le, -Int.not_lt, -Nat.not_le, -Nat.not_lt, isPre]
  all_goals first | done | grind | omega | (trace_state; fail)
theorem k78 (s : List UInt8) (t : List UInt8)  (fr : Fr) (st : St) : callStep gS (EvF gS) 78 [.str s, .str t] fr st = some (.ok (retE none (.bool (isPre s t))) fr st) :=
  call_pure rfl fi78_eq rfl (fun st => c78 s t  st) (by simp)
theorem x78 : gS.ext 78 = none := rfl
theorem p78 : fi78.pure = true := rfl
end
end Go.Proofs.Ytclpbfkbpcjejaa
namespace Go.Proofs.Ytclpbfkbpcjejaa
open Go Go.Ab
set_option linter.unusedVariables false
set_option linter.unusedSimpArgs false
set_option linter.unnecessarySimpa false
set_option maxRecDepth 20000
noncomputable section
variable (fr : Fr) (st : St) (k : Kt)
def fi68 : FI := { body := codeOf Try.f68, ntmps := 28, results := [.tmp 2], pers := [0, 2, 3], locals := [], pure := true, marks := [] }
theorem fi68_eq : gS.fn 68 = some fi68 := by kernel_rfl
theorem st68 (a0 : V) : startFr fi68 [a0] = { ps := [(0, .val a0), (2, .any), (3, .any)], ts := [], lc := [] } := rfl
def b68 : Code := mini (codeOf Try.f68)
def c68_1 : Code := codeN b68 2
theorem e68_1 : evK gS fi68 c68_1 fr st k = opsR gS fi68 [op1 2 (.assign (.const (.bool false))) 4] fr st k := evK_r 0 (by kernel_rfl)
def c68_4 : Code := codeN b68 9
theorem e68_4 : evK gS fi68 c68_4 fr st k = opsR gS fi68 [op1 3 (.assign (.const (.int .i64 0))) 3] fr st k := evK_r 1 (by kernel_rfl)
def c68_9 : Code := codeN b68 133
theorem e68_9 : evK gS fi68 c68_9 fr st k = opsR gS fi68 [op1 4 (.move (.tmp 3)) 3,
 op1 5 (.move (.tmp 0)) 9,
 op1 6 (.call { callee := (.builtin .len), args := #[(.tmp 5)], argTypes := #[9] }) 3,
 op1 7 (.binOp .lss 3 (.tmp 4) (.tmp 6) 3) 4] fr st k := evK_r 2 (by kernel_rfl)
def c68_11 : Code := .skip
theorem e68_11 : evK gS fi68 c68_11 fr st k = nextK gS fi68 k .normal fr st := rfl
def c68_12 : Code := .exit 0
theorem e68_12 : evK gS fi68 c68_12 fr st k = nextK gS fi68 k (.exit 0) fr st := rfl
def c68_10 : Code := .cond (.tmp 7) c68_11 c68_12
theorem e68_10 : evK gS fi68 c68_10 fr st k = condK gS fi68 (fr.op (.tmp 7)).bool? c68_11 c68_12 fr st k := rfl
def c68_8 : Code := .seq c68_9 c68_10
theorem e68_8 : evK gS fi68 c68_8 fr st k = evK gS fi68 c68_9 fr st (.seq c68_10 k) := rfl
def c68_16 : Code := codeN b68 549
theorem e68_16 : evK gS fi68 c68_16 fr st k = opsR gS fi68 [op1 10 (.move (.tmp 0)) 9,
 op1 11 (.move (.tmp 3)) 3,
 op1 12 (.index 9 (.tmp 10) (.tmp 11)) 5,
 op1 13 (.binOp .lss 5 (.tmp 12) (.const (.int .u8 97)) 5) 4,
 op1 14 (.move (.tmp 13)) 4,
 mk (some 15) (.move (.tmp 0)) 9 (some (4, false)),
 mk (some 16) (.move (.tmp 3)) 3 (some (4, false)),
 mk (some 17) (.index 9 (.tmp 15) (.tmp 16)) 5 (some (4, false)),
 mk (some 18) (.binOp .gtr 5 (.tmp 17) (.const (.int .u8 122)) 5) 4 (some (4, false)),
 op1 19 (.pick (.tmp 14) (.const (.bool true)) (.tmp 18)) 4] fr st k := evK_r 4 (by kernel_rfl)
def c68_19 : Code := codeN b68 2341
theorem e68_19 : evK gS fi68 c68_19 fr st k = opsR gS fi68 [op1 2 (.assign (.const (.bool false))) 4] fr st k := evK_r 5 (by kernel_rfl)
def c68_20 : Code := .ret
theorem e68_20 : evK gS fi68 c68_20 fr st k = nextK gS fi68 k .ret fr st := rfl
def c68_18 : Code := .seq c68_19 c68_20
theorem e68_18 : evK gS fi68 c68_18 fr st k = evK gS fi68 c68_19 fr st (.seq c68_20 k) := rfl
def c68_21 : Code := .skip
theorem e68_21 : evK gS fi68 c68_21 fr st k = nextK gS fi68 k .normal fr st := rfl
def c68_17 : Code := .cond (.tmp 19) c68_18 c68_21
theorem e68_17 : evK gS fi68 c68_17 fr st k = condK gS fi68 (fr.op (.tmp 19)).bool? c68_18 c68_21 fr st k := rfl
def c68_15 : Code := .seq c68_16 c68_17
theorem e68_15 : evK gS fi68 c68_15 fr st k = evK gS fi68 c68_16 fr st (.seq c68_17 k) := rfl
def c68_14 : Code := .block 1 c68_15
theorem e68_14 : evK gS fi68 c68_14 fr st k = evK gS fi68 c68_15 fr st (.blk 1 k) := rfl
def c68_22 : Code := codeN b68 229
theorem e68_22 : evK gS fi68 c68_22 fr st k = opsR gS fi68 [op1 8 (.move (.tmp 3)) 3,
 op1 9 (.binOp .add 3 (.tmp 8) (.const (.int .i64 1)) 3) 3,
 op1 3 (.assign (.tmp 9)) 3] fr st k := evK_r 3 (by kernel_rfl)
def c68_13 : Code := .seq c68_14 c68_22
theorem e68_13 : evK gS fi68 c68_13 fr st k = evK gS fi68 c68_14 fr st (.seq c68_22 k) := rfl
def c68_7 : Code := .seq c68_8 c68_13
theorem e68_7 : evK gS fi68 c68_7 fr st k = evK gS fi68 c68_8 fr st (.seq c68_13 k) := rfl
def c68_6 : Code := .loop c68_7
def c68_5 : Code := .block 0 c68_6
theorem e68_5 : evK gS fi68 c68_5 fr st k = evK gS fi68 c68_6 fr st (.blk 0 k) := rfl
def c68_3 : Code := .seq c68_4 c68_5
theorem e68_3 : evK gS fi68 c68_3 fr st k = evK gS fi68 c68_4 fr st (.seq c68_5 k) := rfl
def c68_24 : Code := codeN b68 11
theorem e68_24 : evK gS fi68 c68_24 fr st k = opsR gS fi68 [op1 20 (.move (.tmp 0)) 9,
 op1 21 (.call { callee := (.builtin .len), args := #[(.tmp 20)], argTypes := #[9] }) 3,
 op1 22 (.binOp .geq 3 (.tmp 21) (.const (.int .i64 1)) 3) 4,
 op1 23 (.move (.tmp 22)) 4,
 mk (some 24) (.move (.tmp 0)) 9 (some (3, true)),
 mk (some 25) (.call { callee := (.builtin .len), args := #[(.tmp 24)], argTypes := #[9] }) 3 (some (3, true)),
 mk (some 26) (.binOp .leq 3 (.tmp 25) (.const (.int .i64 6)) 3) 4 (some (3, true)),
 op1 27 (.pick (.tmp 23) (.tmp 26) (.const (.bool false))) 4,
 op1 2 (.assign (.tmp 27)) 4] fr st k := evK_r 6 (by kernel_rfl)
def c68_25 : Code := .ret
theorem e68_25 : evK gS fi68 c68_25 fr st k = nextK gS fi68 k .ret fr st := rfl
def c68_23 : Code := .seq c68_24 c68_25
theorem e68_23 : evK gS fi68 c68_23 fr st k = evK gS fi68 c68_24 fr st (.seq c68_25 k) := rfl
def c68_2 : Code := .seq c68_3 c68_23
theorem e68_2 : evK gS fi68 c68_2 fr st k = evK gS fi68 c68_3 fr st (.seq c68_23 k) := rfl
def c68_0 : Code := .seq c68_1 c68_2
theorem e68_0 : evK gS fi68 c68_0 fr st k = evK gS fi68 c68_1 fr st (.seq c68_2 k) := rfl
theorem m68 : mini fi68.body = c68_0 := by kernel_rfl
theorem n68_6 (fr : Fr) (st : St) (k : Kt) : nextK gS fi68 (.loop c68_7 k) .normal fr st = evK gS fi68 c68_6 fr st k := rfl
set_option maxHeartbeats 4000000 in
theorem L68_6 (s : List UInt8) (h_s : s.length < 4611686018427387904) (st : St) : ∀ (n i : Nat) (j : Int)  (e2 : E) (T : List (Nat × E)) (X : List (Nat × List V)) (ht2 : e2.Tame) , j = (i : Int) → i ≤ (s).length → (s).length - i = n →
    evK gS fi68 c68_6 { ps := [(0, .val (.str s)), (2, e2), (3, .val (.int .i64 j))], ts := T, lc := X } st (.blk 0 (.seq c68_23 .nil)) = some ((.ret (.bool ((s.drop i).all (fun c => !decide (c.toNat < 97) && !decide (122 < c.toNat)) && (decide (1 ≤ s.length) && decide (s.length ≤ 6)))) none), st) := by
  intro n
  have hm : fi68.marks = [] := rfl
  have hl : fi68.locals = [] := rfl
  have hr : fi68.results = [.tmp 2] := rfl
  induction n with
  | zero =>
    intro i j  e2 T X ht2  hj hi hn
    obtain rfl : i = (s).length := by omega
    subst hj
    refine evK_loop c68_7 _ st _ _ rfl ?_
    simp (config := { contextual := true, maxSteps := 10000000, maxDischargeDepth := 6 }) [-Int.not_le, -Int.not_lt, -Nat.not_le, -Nat.not_lt, ty3, ty4, ty5, ty9, hm, hl, hr, e68_1, e68_4, e68_9, e68_11, e68_12, e68_10, e68_8, e68_16, e68_19, e68_20, e68_18, e68_21, e68_17, e68_15, e68_14, e68_22, e68_13, e68_7, e68_5, e68_3, e68_24, e68_25, e68_23, e68_2, e68_0, n68_6, ht2]
    all_goals first | done | grind | omega | (trace_state; fail)
  | succ n ih =>
    intro i j  e2 T X ht2  hj hi hn
    subst hj
    obtain ⟨x, hx⟩ : ∃ x, (s)[i]? = some x := ⟨(s)[i]'(by omega), List.getElem?_eq_getElem (by omega)⟩
    have hd := drop_get hx
    have hlt : (i : Int) < ((s).length : Int) := by omega
    have hlt2 : i < (s).length := by omega
    have hxe : (s)[i]'hlt2 = x := by rw [List.getElem?_eq_getElem hlt2] at hx; exact Option.some.inj hx
    have hw : IntKind.wrap .i64 ((i : Int) + 1) = (i : Int) + 1 := wrap64 (by omega) (by omega)
    have IH := fun e2 T X ht2 => ih (i + 1) ((i : Int) + 1) e2 T X ht2 rfl (by omega) (by omega)
    refine evK_loop c68_7 _ st _ _ rfl ?_
    simp (config := { contextual := true, maxSteps := 10000000, maxDischargeDepth := 6 }) [-Int.not_le, -Int.not_lt, -Nat.not_le, -Nat.not_lt, ty3, ty4, ty5, ty9, hm, hl, hr, e68_1, e68_4, e68_9, e68_11, e68_12, e68_10, e68_8, e68_16, e68_19, e68_20, e68_18, e68_21, e68_17, e68_15, e68_14, e68_22, e68_13, e68_7, e68_5, e68_3, e68_24, e68_25, e68_23, e68_2, e68_0, n68_6, ht2, hx, hxe, hd, hlt, hlt2, hw, IH]
    all_goals first | done | grind | omega | (trace_state; fail)
set_option maxHeartbeats 4000000 in
theorem c68 (s : List UInt8) (h_s : s.length < 4611686018427387904) (st : St) : EvF gS 68 [.str s] st = some (.ret (.bool (isWord s)) none, st) := by
  refine EvF_start fi68_eq (fun x h => by cases h) m68 ?_
  rw [st68]
  have hm : fi68.marks = [] := rfl
  have hl : fi68.locals = [] := rfl
  have hr : fi68.results = [.tmp 2] := rfl
  simp (config := { contextual := true, maxSteps := 10000000, maxDischargeDepth := 6 }) [-Int.not_le, -Int.not_lt, -Nat.not_le, -Nat.not_lt, ty3, ty4, ty5, ty9, hm, hl, hr, e68_1, e68_4, e68_9, e68_11, e68_12, e68_10, e68_8, e68_16, e68_19, e68_20, e68_18, e68_21, e68_17, e68_15, e68_14, e68_22, e68_13, e68_7, e68_5, e68_3, e68_24, e68_25, e68_23, e68_2, e68_0, n68_6, (fun e2 T X ht2 => L68_6 s h_s st _ 0 0  e2 T X ht2 rfl (Nat.zero_le _) rfl)]
  all_goals try simp (config := { contextual := true }) [-Int.not_le, -Int.not_lt, -Nat.not_le, -Nat.not_lt, isWord]
  all_goals first | done | grind | omega | (trace_state; fail)
theorem k68 (s : List UInt8) (h_s : s.length < 4611686018427387904) (fr : Fr) (st : St) : callStep gS (EvF gS) 68 [.str s] fr st = some (.ok (retE none (.bool (isWord s))) fr st) :=
  call_pure rfl fi68_eq rfl (fun st => c68 s h_s st) (by simp)
def fi72 : FI := { body := codeOf Try.f72, ntmps := 28, results := [.tmp 2], pers := [0, 2, 3], locals := [], pure := true, marks := [] }
theorem fi72_eq : gS.fn 72 = some fi72 := by kernel_rfl
theorem st72 (a0 : V) : startFr fi72 [a0] = { ps := [(0, .val a0), (2, .any), (3, .any)], ts := [], lc := [] } := rfl
def b72 : Code := mini (codeOf Try.f72)
def c72_1 : Code := codeN b72 2
theorem e72_1 : evK gS fi72 c72_1 fr st k = opsR gS fi72 [op1 2 (.assign (.const (.bool false))) 4] fr st k := evK_r 0 (by kernel_rfl)
def c72_4 : Code := codeN b72 9
theorem e72_4 : evK gS fi72 c72_4 fr st k = opsR gS fi72 [op1 3 (.assign (.const (.int .i64 0))) 3] fr st k := evK_r 1 (by kernel_rfl)
def c72_9 : Code := codeN b72 133
theorem e72_9 : evK gS fi72 c72_9 fr st k = opsR gS fi72 [op1 4 (.move (.tmp 3)) 3,
 op1 5 (.move (.tmp 0)) 9,
 op1 6 (.call { callee := (.builtin .len), args := #[(.tmp 5)], argTypes := #[9] }) 3,
 op1 7 (.binOp .lss 3 (.tmp 4) (.tmp 6) 3) 4] fr st k := evK_r 2 (by kernel_rfl)
def c72_11 : Code := .skip
theorem e72_11 : evK gS fi72 c72_11 fr st k = nextK gS fi72 k .normal fr st := rfl
def c72_12 : Code := .exit 0
theorem e72_12 : evK gS fi72 c72_12 fr st k = nextK gS fi72 k (.exit 0) fr st := rfl
def c72_10 : Code := .cond (.tmp 7) c72_11 c72_12
theorem e72_10 : evK gS fi72 c72_10 fr st k = condK gS fi72 (fr.op (.tmp 7)).bool? c72_11 c72_12 fr st k := rfl
def c72_8 : Code := .seq c72_9 c72_10
theorem e72_8 : evK gS fi72 c72_8 fr st k = evK gS fi72 c72_9 fr st (.seq c72_10 k) := rfl
def c72_16 : Code := codeN b72 549
theorem e72_16 : evK gS fi72 c72_16 fr st k = opsR gS fi72 [op1 10 (.move (.tmp 0)) 9,
 op1 11 (.move (.tmp 3)) 3,
 op1 12 (.index 9 (.tmp 10) (.tmp 11)) 5,
 op1 13 (.binOp .lss 5 (.tmp 12) (.const (.int .u8 97)) 5) 4,
 op1 14 (.move (.tmp 13)) 4,
 mk (some 15) (.move (.tmp 0)) 9 (some (4, false)),
 mk (some 16) (.move (.tmp 3)) 3 (some (4, false)),
 mk (some 17) (.index 9 (.tmp 15) (.tmp 16)) 5 (some (4, false)),
 mk (some 18) (.binOp .gtr 5 (.tmp 17) (.const (.int .u8 122)) 5) 4 (some (4, false)),
 op1 19 (.pick (.tmp 14) (.const (.bool true)) (.tmp 18)) 4] fr st k := evK_r 4 (by kernel_rfl)
def c72_19 : Code := codeN b72 2341
theorem e72_19 : evK gS fi72 c72_19 fr st k = opsR gS fi72 [op1 2 (.assign (.const (.bool false))) 4] fr st k := evK_r 5 (by kernel_rfl)
def c72_20 : Code := .ret
theorem e72_20 : evK gS fi72 c72_20 fr st k = nextK gS fi72 k .ret fr st := rfl
def c72_18 : Code := .seq c72_19 c72_20
theorem e72_18 : evK gS fi72 c72_18 fr st k = evK gS fi72 c72_19 fr st (.seq c72_20 k) := rfl
def c72_21 : Code := .skip
theorem e72_21 : evK gS fi72 c72_21 fr st k = nextK gS fi72 k .normal fr st := rfl
def c72_17 : Code := .cond (.tmp 19) c72_18 c72_21
theorem e72_17 : evK gS fi72 c72_17 fr st k = condK gS fi72 (fr.op (.tmp 19)).bool? c72_18 c72_21 fr st k := rfl
def c72_15 : Code := .seq c72_16 c72_17
theorem e72_15 : evK gS fi72 c72_15 fr st k = evK gS fi72 c72_16 fr st (.seq c72_17 k) := rfl
def c72_14 : Code := .block 1 c72_15
theorem e72_14 : evK gS fi72 c72_14 fr st k = evK gS fi72 c72_15 fr st (.blk 1 k) := rfl
def c72_22 : Code := codeN b72 229
theorem e72_22 : evK gS fi72 c72_22 fr st k = opsR gS fi72 [op1 8 (.move (.tmp 3)) 3,
 op1 9 (.binOp .add 3 (.tmp 8) (.const (.int .i64 1)) 3) 3,
 op1 3 (.assign (.tmp 9)) 3] fr st k := evK_r 3 (by kernel_rfl)
def c72_13 : Code := .seq c72_14 c72_22
theorem e72_13 : evK gS fi72 c72_13 fr st k = evK gS fi72 c72_14 fr st (.seq c72_22 k) := rfl
def c72_7 : Code := .seq c72_8 c72_13
theorem e72_7 : evK gS fi72 c72_7 fr st k = evK gS fi72 c72_8 fr st (.seq c72_13 k) := rfl
def c72_6 : Code := .loop c72_7
def c72_5 : Code := .block 0 c72_6
theorem e72_5 : evK gS fi72 c72_5 fr st k = evK gS fi72 c72_6 fr st (.blk 0 k) := rfl
def c72_3 : Code := .seq c72_4 c72_5
theorem e72_3 : evK gS fi72 c72_3 fr st k = evK gS fi72 c72_4 fr st (.seq c72_5 k) := rfl
def c72_24 : Code := codeN b72 11
theorem e72_24 : evK gS fi72 c72_24 fr st k = opsR gS fi72 [op1 20 (.move (.tmp 0)) 9,
 op1 21 (.call { callee := (.builtin .len), args := #[(.tmp 20)], argTypes := #[9] }) 3,
 op1 22 (.binOp .geq 3 (.tmp 21) (.const (.int .i64 1)) 3) 4,
 op1 23 (.move (.tmp 22)) 4,
 mk (some 24) (.move (.tmp 0)) 9 (some (3, true)),
 mk (some 25) (.call { callee := (.builtin .len), args := #[(.tmp 24)], argTypes := #[9] }) 3 (some (3, true)),
 mk (some 26) (.binOp .leq 3 (.tmp 25) (.const (.int .i64 6)) 3) 4 (some (3, true)),
 op1 27 (.pick (.tmp 23) (.tmp 26) (.const (.bool false))) 4,
 op1 2 (.assign (.tmp 27)) 4] fr st k := evK_r 6 (by kernel_rfl)
def c72_25 : Code := .ret
theorem e72_25 : evK gS fi72 c72_25 fr st k = nextK gS fi72 k .ret fr st := rfl
def c72_23 : Code := .seq c72_24 c72_25
theorem e72_23 : evK gS fi72 c72_23 fr st k = evK gS fi72 c72_24 fr st (.seq c72_25 k) := rfl
def c72_2 : Code := .seq c72_3 c72_23
theorem e72_2 : evK gS fi72 c72_2 fr st k = evK gS fi72 c72_3 fr st (.seq c72_23 k) := rfl
def c72_0 : Code := .seq c72_1 c72_2
theorem e72_0 : evK gS fi72 c72_0 fr st k = evK gS fi72 c72_1 fr st (.seq c72_2 k) := rfl
theorem m72 : mini fi72.body = c72_0 := by kernel_rfl
theorem n72_6 (fr : Fr) (st : St) (k : Kt) : nextK gS fi72 (.loop c72_7 k) .normal fr st = evK gS fi72 c72_6 fr st k := rfl
set_option maxHeartbeats 4000000 in
theorem L72_6 (s : List UInt8) (h_s : s.length < 4611686018427387904) (st : St) : ∀ (n i : Nat) (j : Int)  (e2 : E) (T : List (Nat × E)) (X : List (Nat × List V)) (ht2 : e2.Tame) , j = (i : Int) → i ≤ (s).length → (s).length - i = n →
    evK gS fi72 c72_6 { ps := [(0, .val (.str s)), (2, e2), (3, .val (.int .i64 j))], ts := T, lc := X } st (.blk 0 (.seq c72_23 .nil)) = some ((.ret (.bool ((s.drop i).all (fun c => !decide (c.toNat < 97) && !decide (122 < c.toNat)) && (decide (1 ≤ s.length) && decide (s.length ≤ 6)))) none), st) := by
  intro n
  have hm : fi72.marks = [] := rfl
  have hl : fi72.locals = [] := rfl
  have hr : fi72.results = [.tmp 2] := rfl
  induction n with
  | zero =>
    intro i j  e2 T X ht2  hj hi hn
    obtain rfl : i = (s).length := by omega
    subst hj
    refine evK_loop c72_7 _ st _ _ rfl ?_
    simp (config := { contextual := true, maxSteps := 10000000, maxDischargeDepth := 6 }) [-Int.not_le, -Int.not_lt, -Nat.not_le, -Nat.not_lt, ty3, ty4, ty5, ty9, hm, hl, hr, e72_1, e72_4, e72_9, e72_11, e72_12, e72_10, e72_8, e72_16, e72_19, e72_20, e72_18, e72_21, e72_17, e72_15, e72_14, e72_22, e72_13, e72_7, e72_5, e72_3, e72_24, e72_25, e72_23, e72_2, e72_0, n72_6, ht2]
    all_goals first | done | grind | omega | (trace_state; fail)
  | succ n ih =>
    intro i j  e2 T X ht2  hj hi hn
    subst hj
    obtain ⟨x, hx⟩ : ∃ x, (s)[i]? = some x := ⟨(s)[i]'(by omega), List.getElem?_eq_getElem (by omega)⟩
    have hd := drop_get hx
    have hlt : (i : Int) < ((s).length : Int) := by omega
    have hlt2 : i < (s).length := by omega
    have hxe : (s)[i]'hlt2 = x := by rw [List.getElem?_eq_getElem hlt2] at hx; exact Option.some.inj hx
    have hw : IntKind.wrap .i64 ((i : Int) + 1) = (i : Int) + 1 := wrap64 (by omega) (by omega)
    have IH := fun e2 T X ht2 => ih (i + 1) ((i : Int) + 1) e2 T X ht2 rfl (by omega) (by omega)
    refine evK_loop c72_7 _ st _ _ rfl ?_
    simp (config := { contextual := true, maxSteps := 10000000, maxDischargeDepth := 6 }) [-Int.not_le, -Int.not_lt, -Nat.not_le, -Nat.not_lt, ty3, ty4, ty5, ty9, hm, hl, hr, e72_1, e72_4, e72_9, e72_11, e72_12, e72_10, e72_8, e72_16, e72_19, e72_20, e72_18, e72_21, e72_17, e72_15, e72_14, e72_22, e72_13, e72_7, e72_5, e72_3, e72_24, e72_25, e72_23, e72_2, e72_0, n72_6, ht2, hx, hxe, hd, hlt, hlt2, hw, IH]
    all_goals first | done | grind | omega | (trace_state; fail)
set_option maxHeartbeats 4000000 in
theorem c72 (s : List UInt8) (h_s : s.length < 4611686018427387904) (st : St) : EvF gS 72 [.str s] st = some (.ret (.bool (isWord s)) none, st) := by
  refine EvF_start fi72_eq (fun x h => by cases h) m72 ?_
  rw [st72]
  have hm : fi72.marks = [] := rfl
  have hl : fi72.locals = [] := rfl
  have hr : fi72.results = [.tmp 2] := rfl
  simp (config := { contextual := true, maxSteps := 10000000, maxDischargeDepth := 6 }) [-Int.not_le, -Int.not_lt, -Nat.not_le, -Nat.not_lt, ty3, ty4, ty5, ty9, hm, hl, hr, e72_1, e72_4, e72_9, e72_11, e72_12, e72_10, e72_8, e72_16, e72_19, e72_20, e72_18, e72_21, e72_17, e72_15, e72_14, e72_22, e72_13, e72_7, e72_5, e72_3, e72_24, e72_25, e72_23, e72_2, e72_0, n72_6, (fun e2 T X ht2 => L72_6 s h_s st _ 0 0  e2 T X ht2 rfl (Nat.zero_le _) rfl)]
  all_goals try simp (config := { contextual := true }) [-Int.not_le, -Int.not_lt, -Nat.not_le, -Nat.not_lt, isWord]
  all_goals first | done | grind | omega | (trace_state; fail)
theorem k72 (s : List UInt8) (h_s : s.length < 4611686018427387904) (fr : Fr) (st : St) : callStep gS (EvF gS) 72 [.str s] fr st = some (.ok (retE none (.bool (isWord s))) fr st) :=
  call_pure rfl fi72_eq rfl (fun st => c72 s h_s st) (by simp)
def fi71 : FI := { body := codeOf Try.f71, ntmps := 15, results := [.tmp 2], pers := [0, 2, 4, 5, 6, 7], locals := [4], pure := true, marks := [] }
theorem fi71_eq : gS.fn 71 = some fi71 := by kernel_rfl
theorem st71 (a0 : V) : startFr fi71 [a0] = { ps := [(0, .val a0), (2, .any), (4, .any), (5, .any), (6, .any), (7, .any)], ts := [], lc := [] } := rfl
def b71 : Code := mini (codeOf Try.f71)
def c71_1 : Code := codeN b71 2
theorem e71_1 : evK gS fi71 c71_1 fr st k = opsR gS fi71 [op1 2 (.assign (.const (.bool false))) 4] fr st k := evK_r 0 (by kernel_rfl)
def c71_4 : Code := codeN b71 9
theorem e71_4 : evK gS fi71 c71_4 fr st k = opsR gS fi71 [op1 5 (.move (.tmp 0)) 25,
 op1 6 (.call { callee := (.builtin .len), args := #[(.tmp 5)], argTypes := #[25] }) 3,
 op1 7 (.move (.const (.int .i64 0))) 3] fr st k := evK_r 1 (by kernel_rfl)
def c71_8 : Code := codeN b71 69
theorem e71_8 : evK gS fi71 c71_8 fr st k = opsR gS fi71 [op1 8 (.binOp .lss 3 (.tmp 7) (.tmp 6) 3) 0] fr st k := evK_r 2 (by kernel_rfl)
def c71_11 : Code := .skip
theorem e71_11 : evK gS fi71 c71_11 fr st k = nextK gS fi71 k .normal fr st := rfl
def c71_12 : Code := .exit 0
theorem e71_12 : evK gS fi71 c71_12 fr st k = nextK gS fi71 k (.exit 0) fr st := rfl
def c71_10 : Code := .cond (.tmp 8) c71_11 c71_12
theorem e71_10 : evK gS fi71 c71_10 fr st k = condK gS fi71 (fr.op (.tmp 8)).bool? c71_11 c71_12 fr st k := rfl
def c71_16 : Code := codeN b71 1125
theorem e71_16 : evK gS fi71 c71_16 fr st k = opsR gS fi71 [op1 9 (.indexAddr 25 (.tmp 5) (.tmp 7)) 0,
 op1 10 (.load 24 (.tmp 9)) 24,
 op1 4 (.alloc 24) 0,
 mk none (.store 24 (.tmp 4) (.tmp 10)) 0 none] fr st k := evK_r 3 (by kernel_rfl)
def c71_18 : Code := codeN b71 2661
theorem e71_18 : evK gS fi71 c71_18 fr st k = opsR gS fi71 [op1 11 (.load 24 (.tmp 4)) 24,
 op1 12 (.call { callee := (.value (.func 70)), args := #[(.tmp 11)], argTypes := #[24] }) 4,
 op1 13 (.unOp .not 4 (.tmp 12)) 4] fr st k := evK_r 4 (by kernel_rfl)
def c71_21 : Code := codeN b71 9829
theorem e71_21 : evK gS fi71 c71_21 fr st k = opsR gS fi71 [op1 2 (.assign (.const (.bool false))) 4] fr st k := evK_r 5 (by kernel_rfl)
def c71_22 : Code := .ret
theorem e71_22 : evK gS fi71 c71_22 fr st k = nextK gS fi71 k .ret fr st := rfl
def c71_20 : Code := .seq c71_21 c71_22
theorem e71_20 : evK gS fi71 c71_20 fr st k = evK gS fi71 c71_21 fr st (.seq c71_22 k) := rfl
def c71_23 : Code := .skip
theorem e71_23 : evK gS fi71 c71_23 fr st k = nextK gS fi71 k .normal fr st := rfl
def c71_19 : Code := .cond (.tmp 13) c71_20 c71_23
theorem e71_19 : evK gS fi71 c71_19 fr st k = condK gS fi71 (fr.op (.tmp 13)).bool? c71_20 c71_23 fr st k := rfl
def c71_17 : Code := .seq c71_18 c71_19
theorem e71_17 : evK gS fi71 c71_17 fr st k = evK gS fi71 c71_18 fr st (.seq c71_19 k) := rfl
def c71_15 : Code := .seq c71_16 c71_17
theorem e71_15 : evK gS fi71 c71_15 fr st k = evK gS fi71 c71_16 fr st (.seq c71_17 k) := rfl
def c71_14 : Code := .block 1 c71_15
theorem e71_14 : evK gS fi71 c71_14 fr st k = evK gS fi71 c71_15 fr st (.blk 1 k) := rfl
def c71_24 : Code := codeN b71 485
theorem e71_24 : evK gS fi71 c71_24 fr st k = opsR gS fi71 [op1 14 (.binOp .add 3 (.tmp 7) (.const (.int .i64 1)) 3) 3,
 op1 7 (.move (.tmp 14)) 3] fr st k := evK_r 6 (by kernel_rfl)
def c71_13 : Code := .seq c71_14 c71_24
theorem e71_13 : evK gS fi71 c71_13 fr st k = evK gS fi71 c71_14 fr st (.seq c71_24 k) := rfl
def c71_9 : Code := .seq c71_10 c71_13
theorem e71_9 : evK gS fi71 c71_9 fr st k = evK gS fi71 c71_10 fr st (.seq c71_13 k) := rfl
def c71_7 : Code := .seq c71_8 c71_9
theorem e71_7 : evK gS fi71 c71_7 fr st k = evK gS fi71 c71_8 fr st (.seq c71_9 k) := rfl
def c71_6 : Code := .loop c71_7
def c71_5 : Code := .block 0 c71_6
theorem e71_5 : evK gS fi71 c71_5 fr st k = evK gS fi71 c71_6 fr st (.blk 0 k) := rfl
def c71_3 : Code := .seq c71_4 c71_5
theorem e71_3 : evK gS fi71 c71_3 fr st k = evK gS fi71 c71_4 fr st (.seq c71_5 k) := rfl
def c71_26 : Code := codeN b71 11
theorem e71_26 : evK gS fi71 c71_26 fr st k = opsR gS fi71 [op1 2 (.assign (.const (.bool true))) 4] fr st k := evK_r 7 (by kernel_rfl)
def c71_27 : Code := .ret
theorem e71_27 : evK gS fi71 c71_27 fr st k = nextK gS fi71 k .ret fr st := rfl
def c71_25 : Code := .seq c71_26 c71_27
theorem e71_25 : evK gS fi71 c71_25 fr st k = evK gS fi71 c71_26 fr st (.seq c71_27 k) := rfl
def c71_2 : Code := .seq c71_3 c71_25
theorem e71_2 : evK gS fi71 c71_2 fr st k = evK gS fi71 c71_3 fr st (.seq c71_25 k) := rfl
def c71_0 : Code := .seq c71_1 c71_2
theorem e71_0 : evK gS fi71 c71_0 fr st k = evK gS fi71 c71_1 fr st (.seq c71_2 k) := rfl
theorem m71 : mini fi71.body = c71_0 := by kernel_rfl
theorem n71_6 (fr : Fr) (st : St) (k : Kt) : nextK gS fi71 (.loop c71_7 k) .normal fr st = evK gS fi71 c71_6 fr st k := rfl
set_option maxHeartbeats 4000000 in
theorem L71_6 (l : List Val) (h_l : l.length < 4611686018427387904) (st : St) : ∀ (n i : Nat) (j : Int)  (e0 e2 e4 : E) (T : List (Nat × E)) (X : List (Nat × List V)) (ht0 : e0.Tame) (ht2 : e2.Tame) (ht4 : e4.Tame) , j = (i : Int) → i ≤ (l).length → (l).length - i = n →
    evK gS fi71 c71_6 { ps := [(0, e0), (2, e2), (4, e4), (5, .val (.slice (encVals l))), (6, .val (.int .i64 l.length)), (7, .val (.int .i64 j))], ts := T, lc := X } st (.blk 0 (.seq c71_25 .nil)) = some ((.ret (.bool ((l.drop i).all vright)) none), st) := by
  intro n
  have hm : fi71.marks = [] := rfl
  have hl : fi71.locals = [4] := rfl
  have hr : fi71.results = [.tmp 2] := rfl
  induction n with
  | zero =>
    intro i j  e0 e2 e4 T X ht0 ht2 ht4  hj hi hn
    obtain rfl : i = (l).length := by omega
    subst hj
    refine evK_loop c71_7 _ st _ _ rfl ?_
    simp (config := { contextual := true, maxSteps := 10000000, maxDischargeDepth := 6 }) [-Int.not_le, -Int.not_lt, -Nat.not_le, -Nat.not_lt, ty3, ty4, ty24, ty25, eq24, hm, hl, hr, k70, e71_1, e71_4, e71_8, e71_11, e71_12, e71_10, e71_16, e71_18, e71_21, e71_22, e71_20, e71_23, e71_19, e71_17, e71_15, e71_14, e71_24, e71_13, e71_9, e71_7, e71_5, e71_3, e71_26, e71_27, e71_25, e71_2, e71_0, n71_6, ht0, ht2, ht4]
    all_goals first | done | grind | omega | (trace_state; fail)
  | succ n ih =>
    intro i j  e0 e2 e4 T X ht0 ht2 ht4  hj hi hn
    subst hj
    obtain ⟨x, hx⟩ : ∃ x, (l)[i]? = some x := ⟨(l)[i]'(by omega), List.getElem?_eq_getElem (by omega)⟩
    have hd := drop_get hx
    have hlt : (i : Int) < ((l).length : Int) := by omega
    have hlt2 : i < (l).length := by omega
    have hxe : (l)[i]'hlt2 = x := by rw [List.getElem?_eq_getElem hlt2] at hx; exact Option.some.inj hx
    have hw : IntKind.wrap .i64 ((i : Int) + 1) = (i : Int) + 1 := wrap64 (by omega) (by omega)
    have IH := fun e0 e2 e4 T X ht0 ht2 ht4 => ih (i + 1) ((i : Int) + 1) e0 e2 e4 T X ht0 ht2 ht4 rfl (by omega) (by omega)
    refine evK_loop c71_7 _ st _ _ rfl ?_
    simp (config := { contextual := true, maxSteps := 10000000, maxDischargeDepth := 6 }) [-Int.not_le, -Int.not_lt, -Nat.not_le, -Nat.not_lt, ty3, ty4, ty24, ty25, eq24, hm, hl, hr, k70, e71_1, e71_4, e71_8, e71_11, e71_12, e71_10, e71_16, e71_18, e71_21, e71_22, e71_20, e71_23, e71_19, e71_17, e71_15, e71_14, e71_24, e71_13, e71_9, e71_7, e71_5, e71_3, e71_26, e71_27, e71_25, e71_2, e71_0, n71_6, ht0, ht2, ht4, hx, hxe, hd, hlt, hlt2, hw, IH]
    all_goals first | done | grind | omega | (trace_state; fail)
set_option maxHeartbeats 4000000 in
theorem c71 (l : List Val) (h_l : l.length < 4611686018427387904) (st : St) : EvF gS 71 [.slice (encVals l)] st = some (.ret (.bool (l.all vright)) none, st) := by
  refine EvF_start fi71_eq (fun x h => by cases h) m71 ?_
  rw [st71]
  have hm : fi71.marks = [] := rfl
  have hl : fi71.locals = [4] := rfl
  have hr : fi71.results = [.tmp 2] := rfl
  simp (config := { contextual := true, maxSteps := 10000000, maxDischargeDepth := 6 }) [-Int.not_le, -Int.not_lt, -Nat.not_le, -Nat.not_lt, ty3, ty4, ty24, ty25, eq24, hm, hl, hr, k70, e71_1, e71_4, e71_8, e71_11, e71_12, e71_10, e71_16, e71_18, e71_21, e71_22, e71_20, e71_23, e71_19, e71_17, e71_15, e71_14, e71_24, e71_13, e71_9, e71_7, e71_5, e71_3, e71_26, e71_27, e71_25, e71_2, e71_0, n71_6, (fun e0 e2 e4 T X ht0 ht2 ht4 => L71_6 l h_l st _ 0 0  e0 e2 e4 T X ht0 ht2 ht4 rfl (Nat.zero_le _) rfl)]
  all_goals first | done | grind | omega | (trace_state; fail)
theorem k71 (l : List Val) (h_l : l.length < 4611686018427387904) (fr : Fr) (st : St) : callStep gS (EvF gS) 71 [.slice (encVals l)] fr st = some (.ok (retE none (.bool (l.all vright))) fr st) :=
  call_pure rfl fi71_eq rfl (fun st => c71 l h_l st) (by simp)
end
end Go.Proofs.Ytclpbfkbpcjejaa
