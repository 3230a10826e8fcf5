/- The law of ways of the chain, with all that it rests on. Part 4. -/
import Derived.Test.YtdoobejjedpcgaaK3
namespace Go.Ab
open Go
set_option linter.unusedVariables false
set_option linter.unusedSimpArgs false
set_option linter.unnecessarySimpa false
def flt (x y : Nat) : Bool := FloatKind.f64.format.order x y == some .lt
def fle (x y : Nat) : Bool := FloatKind.f64.format.order x y == some .lt || FloatKind.f64.format.order x y == some .eq
def fgt (x y : Nat) : Bool := FloatKind.f64.format.order x y == some .gt
def fge (x y : Nat) : Bool := FloatKind.f64.format.order x y == some .gt || FloatKind.f64.format.order x y == some .eq
def feq (x y : Nat) : Bool := FloatKind.f64.format.order x y == some .eq
theorem fb_lss (x y : Nat) : floatBin .lss .f64 x y = some (.bool (flt x y)) := rfl
theorem fb_leq (x y : Nat) : floatBin .leq .f64 x y = some (.bool (fle x y)) := rfl
theorem fb_gtr (x y : Nat) : floatBin .gtr .f64 x y = some (.bool (fgt x y)) := rfl
theorem fb_geq (x y : Nat) : floatBin .geq .f64 x y = some (.bool (fge x y)) := rfl
theorem fb_eql (x y : Nat) : floatBin .eql .f64 x y = some (.bool (feq x y)) := rfl
theorem fb_neq (x y : Nat) : floatBin .neq .f64 x y = some (.bool (!feq x y)) := rfl
theorem fs_eq (x y : Nat) : Op.floatEq .f64 x y = feq x y := rfl
attribute [simp] fb_lss fb_leq fb_gtr fb_geq fb_eql fb_neq fs_eq
def fbits (b : Nat) : Int := if feq b b then (if feq b 0 then 0 else b) else 9221120237041090560
def sgn (below above : Bool) : Int := if below then -1 else if above then 1 else 0
/-- The whole part; as a number. -/
def ftr (x : Nat) : Nat := (truncV x).getD 0
def ftz (x : Nat) : Int := ((FloatKind.f64.decode (ftr x)).toInt .zero).getD 0
def icmp (n : Int) (x : Nat) : Int × Bool :=
  if feq x x then
    if fge x 4890909195324358656 then (-1, true)
    else if flt x 14114281232179134464 then (1, true)
    else if ftz x = n then (sgn (flt (ftr x) x) (fgt (ftr x) x), true)
    else (sgn (n < ftz x) (n > ftz x), true)
  else (0, false)
def fcmp (a b : Nat) : Int × Bool := if feq a a && feq b b then (sgn (flt a b) (fgt a b), true) else (0, false)
def scmp (a b : List UInt8) : Int := sgn (Op.bytesLess a b) (!(Op.bytesLess a b || a == b))
def cmp (a b : Val) : Int × Bool :=
  if a.kind = 1 ∧ b.kind = 1 then (sgn (a.n < b.n) (a.n > b.n), true)
  else if a.kind = 2 ∧ b.kind = 2 then fcmp a.x b.x
  else if a.kind = 1 ∧ b.kind = 2 then icmp a.n b.x
  else if a.kind = 2 ∧ b.kind = 1 then (-(icmp b.n a.x).1, (icmp b.n a.x).2)
  else if a.kind = 3 ∧ b.kind = 3 then (scmp a.s b.s, true)
  else if a.kind = 4 ∧ b.kind = 4 then (sgn (!a.b && b.b) (a.b && !b.b), true)
  else (0, false)
def vis (a b : Val) : Bool := (cmp a b).2 && decide ((cmp a b).1 = 0)
def vright (v : Val) : Bool :=
  if v.kind = 1 then feq v.x 0 && v.s = [] && !v.b
  else if v.kind = 2 then v.n = 0 && v.s = [] && !v.b
  else if v.kind = 3 then v.n = 0 && feq v.x 0 && !v.b && v.s.length ≤ 12
  else if v.kind = 4 then v.n = 0 && feq v.x 0 && v.s = []
  else false
def vsame (a b : Val) : Bool := a.kind = b.kind && a.n = b.n && a.s = b.s && a.b = b.b && fbits a.x = fbits b.x
def vzero : Val := ⟨0, 0, 0, [], false⟩
def isWord (s : List UInt8) : Bool := s.all (fun c => !decide (c.toNat < 97) && !decide (122 < c.toNat)) && (decide (1 ≤ s.length) && decide (s.length ≤ 6))
def pright (p : Pred) : Bool :=
  if isWord p.name then
    if p.test = 1 then vsame p.v vzero && vsame p.w vzero && p.set.length = 0
    else if 2 ≤ p.test ∧ p.test ≤ 7 then vright p.v && vsame p.w vzero && p.set.length = 0
    else if p.test = 8 then vright p.v && vright p.w && p.set.length = 0
    else if p.test = 9 then vright p.v && p.v.kind = 3 && vsame p.w vzero && p.set.length = 0
    else if p.test = 10 then vsame p.v vzero && vsame p.w vzero && 1 ≤ p.set.length && p.set.length ≤ 4 && p.set.all vright
    else false
  else false
def sames : List Val → List Val → Bool
  | [], [] => true
  | a :: r, b :: s => vsame a b && sames r s
  | _, _ => false
def psame (a b : Pred) : Bool := a.name = b.name && a.test = b.test && vsame a.v b.v && vsame a.w b.w && sames a.set b.set
def isPre (s t : List UInt8) : Bool := t.length ≤ s.length && s.take t.length = t
def ptakes (p : Pred) (v : Val) : Bool :=
  if pright p then
    let c := cmp v p.v
    if p.test = 1 then true
    else if p.test = 2 then c.2 && c.1 = 0
    else if p.test = 3 then !(c.2 && c.1 = 0)
    else if p.test = 4 then c.2 && c.1 < 0
    else if p.test = 5 then c.2 && c.1 ≤ 0
    else if p.test = 6 then c.2 && c.1 > 0
    else if p.test = 7 then c.2 && c.1 ≥ 0
    else if p.test = 8 then c.2 && c.1 ≥ 0 && (cmp v p.w).2 && (cmp v p.w).1 ≤ 0
    else if p.test = 9 then v.kind = 3 && isPre v.s p.v.s
    else p.set.any (vis v)
  else false
def vnan (v : Val) : Bool := v.kind = 2 && !feq v.x v.x
def pvoid (p : Pred) : Bool :=
  if pright p then
    if p.test = 2 ∨ (4 ≤ p.test ∧ p.test ≤ 7) then vnan p.v
    else if p.test = 8 then !(cmp p.v p.w).2 || (cmp p.v p.w).1 > 0
    else if p.test = 10 then p.set.all vnan
    else false
  else false
/-- Where a test ends. -/
structure PEnd where
  is : Bool
  op : Bool
  v : Val
def PEnd.encP (e : PEnd) : V := .agg [.bool e.is, .bool e.op, .int .i64 e.v.kind, .int .i64 e.v.n, .float .f64 e.v.x, .str e.v.s, .bool e.v.b]
def PEnd.encR (e : PEnd) : V := .agg [.int .i64 e.v.kind, .int .i64 e.v.n, .float .f64 e.v.x, .str e.v.s, .bool e.v.b, .bool e.is, .bool e.op]
theorem PEnd.eta (e : PEnd) : (⟨e.is, e.op, e.v⟩ : PEnd) = e := rfl
attribute [simp] PEnd.encP PEnd.encR PEnd.eta
def lowE (p : Pred) : PEnd := if p.test = 6 ∨ p.test = 7 then ⟨true, p.test = 6, p.v⟩ else if p.test = 8 then ⟨true, false, p.v⟩ else ⟨false, false, vzero⟩
def highE (p : Pred) : PEnd := if p.test = 4 ∨ p.test = 5 then ⟨true, p.test = 4, p.v⟩ else if p.test = 8 then ⟨true, false, p.w⟩ else ⟨false, false, vzero⟩
/-- Does an end lie within another one? -/
def within (q p : PEnd) (side : Int) : Bool :=
  if p.is then if q.is then (cmp q.v p.v).2 && (decide ((cmp q.v p.v).1 = side) || (decide ((cmp q.v p.v).1 = 0) && (!p.op || q.op))) else false else true
def pimplies (q p : Pred) : Bool :=
  if pright q && pright p then
    if pvoid q || p.test = 1 then true
    else if q.test = p.test && (vsame q.v p.v && vsame q.w p.w && sames q.set p.set) then true
    else if p.test = 3 then !ptakes q p.v
    else if q.test = 2 then ptakes p q.v
    else if q.test = 10 then q.set.all (fun v => vnan v || ptakes p v)
    else if ((lowE q).is || (highE q).is) && ((lowE p).is || (highE p).is) then
      within (lowE q) (lowE p) 1 && within (highE q) (highE p) (-1)
    else if q.test = 9 then
      if p.test = 9 then isPre q.v.s p.v.s
      else if p.test = 7 then (cmp q.v p.v).2 && (cmp q.v p.v).1 ≥ 0
      else if p.test = 6 then (cmp q.v p.v).2 && (cmp q.v p.v).1 > 0
      else false
    else false
  else false
theorem less_irrefl : ∀ s : List UInt8, Op.bytesLess s s = false
  | [] => rfl
  | a :: r => by simp [Op.bytesLess, less_irrefl r]
theorem sames_len : ∀ {a b : List Val}, sames a b = true → a.length = b.length
  | [], [], _ => rfl
  | a :: r, b :: s, h => by
    simp only [sames, Bool.and_eq_true] at h
    simp [sames_len h.2]
  | [], _ :: _, h => by simp [sames] at h
  | _ :: _, [], h => by simp [sames] at h
theorem sames_ne {a b : List Val} (h : ¬ a.length = b.length) : sames a b = false := by
  cases hs : sames a b with
  | false => rfl
  | true => exact absurd (sames_len hs) h
theorem sgn_bound (a b : Bool) : -1 ≤ sgn a b ∧ sgn a b ≤ 1 := by cases a <;> cases b <;> simp [sgn]
theorem icmp_bound (n : Int) (x : Nat) : -1 ≤ (icmp n x).1 ∧ (icmp n x).1 ≤ 1 := by
  unfold icmp
  repeat' split
  all_goals first | exact sgn_bound _ _ | simp
theorem wrap_icmp (n : Int) (x : Nat) : IntKind.wrap .i64 (-(icmp n x).1) = -(icmp n x).1 := by
  have := icmp_bound n x
  exact wrap64 (by omega) (by omega)
/-- A test that is looked into at the end. -/
def opq (b : Bool) : Bool := b
theorem agg_eql (ks : List TK) (x y : List V) : binAgg ks .eql x y = (eqCells ks x y).map fun b => .bool (opq b) := rfl
theorem agg_neq (ks : List TK) (x y : List V) : binAgg ks .neq x y = (eqCells ks x y).map fun b => .bool (!opq b) := rfl
theorem feq00 : feq 0 0 = true := by kernel_rfl
attribute [simp] less_irrefl feq00
attribute [simp] wrap_icmp agg_eql agg_neq eqCells eqScalar
end Go.Ab
namespace Go.Proofs.Ytdoobejjedpcgaa
open Go Go.Ab
set_option linter.unusedVariables false
set_option linter.unusedSimpArgs false
set_option linter.unnecessarySimpa false
set_option maxRecDepth 20000
noncomputable section
variable (fr : Fr) (st : St) (k : Kt)
theorem ty2 : gS.ty 2 = some { k := .int .i64, size := 1, agg := false, zero := [.int .i64 0] } := by kernel_rfl
theorem ty3 : gS.ty 3 = some { k := .int .i64, size := 1, agg := false, zero := [.int .i64 0] } := by kernel_rfl
theorem ty4 : gS.ty 4 = some { k := .bool, size := 1, agg := false, zero := [.bool false] } := by kernel_rfl
theorem ty5 : gS.ty 5 = some { k := .int .u8, size := 1, agg := false, zero := [.int .u8 0] } := by kernel_rfl
theorem ty9 : gS.ty 9 = some { k := .str, size := 1, agg := false, zero := [.str []] } := by kernel_rfl
theorem ty22 : gS.ty 22 = some { k := .slice 1 8 false [.int .i64 0], size := 1, agg := false, zero := [.osl 0 []] } := by kernel_rfl
theorem ty23 : gS.ty 23 = some { k := .pointer, size := 1, agg := false, zero := [.nilp] } := by kernel_rfl
theorem ty25 : gS.ty 25 = some { k := .struct [(0, 1, false), (1, 1, false)], size := 2, agg := true, zero := [.osl 0 [], .int .i64 0] } := by kernel_rfl
theorem ty26 : gS.ty 26 = some { k := .slice 4 48 true [.int .i64 0, .int .i64 0, .int .i64 0, .osl 0 []], size := 1, agg := false, zero := [.osl 0 []] } := by kernel_rfl
theorem ty29 : gS.ty 29 = some { k := .slice 13 144 true [.str [], .int .i64 0, .int .i64 0, .int .i64 0, .float .f64 0, .str [], .bool false, .int .i64 0, .int .i64 0, .float .f64 0, .str [], .bool false, .osl 0 []], size := 1, agg := false, zero := [.osl 0 []] } := by kernel_rfl
theorem ty31 : gS.ty 31 = some { k := .struct [(0, 1, false), (1, 1, false), (2, 1, false), (3, 1, false)], size := 4, agg := true, zero := [.int .i64 0, .int .i64 0, .int .i64 0, .osl 0 []] } := by kernel_rfl
theorem ty32 : gS.ty 32 = some { k := .slice 2 48 true [.osl 0 [], .osl 0 []], size := 1, agg := false, zero := [.osl 0 []] } := by kernel_rfl
theorem ty39 : gS.ty 39 = some { k := .struct [(0, 1, false), (1, 1, false)], size := 2, agg := true, zero := [.osl 0 [], .osl 0 []] } := by kernel_rfl
theorem ty53 : gS.ty 53 = some { k := .slice 3 24 true [.int .i64 0, .int .i64 0, .int .i64 0], size := 1, agg := false, zero := [.osl 0 []] } := by kernel_rfl
theorem ty59 : gS.ty 59 = some { k := .struct [(0, 1, false), (1, 1, false), (2, 1, false)], size := 3, agg := true, zero := [.int .i64 0, .int .i64 0, .int .i64 0] } := by kernel_rfl
theorem ty77 : gS.ty 77 = some { k := .slice 1 24 false [.osl 0 []], size := 1, agg := false, zero := [.osl 0 []] } := by kernel_rfl
theorem ty86 : gS.ty 86 = some { k := .float .f64, size := 1, agg := false, zero := [.float .f64 0] } := by kernel_rfl
theorem ty88 : gS.ty 88 = some { k := .struct [(0, 1, false), (1, 1, false), (2, 1, false), (3, 1, false), (4, 1, false)], size := 5, agg := true, zero := [.int .i64 0, .int .i64 0, .float .f64 0, .str [], .bool false] } := by kernel_rfl
theorem ty89 : gS.ty 89 = some { k := .slice 5 48 true [.int .i64 0, .int .i64 0, .float .f64 0, .str [], .bool false], size := 1, agg := false, zero := [.osl 0 []] } := by kernel_rfl
theorem ty91 : gS.ty 91 = some { k := .struct [(0, 1, false), (1, 1, false), (2, 5, true), (7, 5, true), (12, 1, false)], size := 13, agg := true, zero := [.str [], .int .i64 0, .int .i64 0, .int .i64 0, .float .f64 0, .str [], .bool false, .int .i64 0, .int .i64 0, .float .f64 0, .str [], .bool false, .osl 0 []] } := by kernel_rfl
theorem ty96 : gS.ty 96 = some { k := .array 7 1 false, size := 7, agg := true, zero := [.int .i64 0, .int .i64 0, .int .i64 0, .int .i64 0, .int .i64 0, .int .i64 0, .int .i64 0] } := by kernel_rfl
theorem ty117 : gS.ty 117 = some { k := .array 6 1 false, size := 6, agg := true, zero := [.str [], .str [], .str [], .str [], .str [], .str []] } := by kernel_rfl
theorem ty118 : gS.ty 118 = some { k := .array 6 1 false, size := 6, agg := true, zero := [.int .i64 0, .int .i64 0, .int .i64 0, .int .i64 0, .int .i64 0, .int .i64 0] } := by kernel_rfl
theorem ty122 : gS.ty 122 = some { k := .array 4 1 false, size := 4, agg := true, zero := [.str [], .str [], .str [], .str []] } := by kernel_rfl
theorem ty128 : gS.ty 128 = some { k := .int .u64, size := 1, agg := false, zero := [.int .u64 0] } := by kernel_rfl
theorem ty132 : gS.ty 132 = some { k := .array 14 1 false, size := 14, agg := true, zero := [.float .f64 0, .float .f64 0, .float .f64 0, .float .f64 0, .float .f64 0, .float .f64 0, .float .f64 0, .float .f64 0, .float .f64 0, .float .f64 0, .float .f64 0, .float .f64 0, .float .f64 0, .float .f64 0] } := by kernel_rfl
theorem eq59 : gS.eqs 59 = some [.int .i64, .int .i64, .int .i64] := by kernel_rfl
theorem eq88 : gS.eqs 88 = some [.int .i64, .int .i64, .float .f64, .str, .bool] := by kernel_rfl
theorem k123 (b : Nat) (fr : Fr) (st : St) : callStep gS (EvF gS) 123 [.float .f64 b] fr st = some (.ok (.val (.int .u64 b)) fr st) := rfl
def fi136 : FI := { body := codeOf Try.f136, ntmps := 6, results := [.tmp 2], pers := [0, 2], locals := [], pure := true, marks := [] }
theorem fi116_eq : gS.fn 136 = some fi136 := by kernel_rfl
theorem st136 (a0 : V) : startFr fi136 [a0] = { ps := [(0, .val a0), (2, .any)], ts := [], lc := [] } := rfl
def b136 : Code := mini (codeOf Try.f136)
def c136_2 : Code := .seq (codeN b136 5) .ret
theorem e136_2 : evK gS fi136 c136_2 fr st k = opsR gS fi136 [mv 3 0 86,
 mv 4 0 86,
 bop 5 .neq 86 3 4 86 4,
 asn 2 5 4] fr st (.seq .ret k) := evK_rs 1 rfl (by kernel_rfl)
def c136_0 : Code := .seq (codeN b136 2) c136_2
theorem e136_0 : evK gS fi136 c136_0 fr st k = opsR gS fi136 [op1 2 (.assign (.const (.bool false))) 4] fr st (.seq c136_2 k) := evK_rs 0 rfl (by kernel_rfl)
theorem m136 : mini fi136.body = c136_0 := by kernel_rfl
set_option maxHeartbeats 4000000 in
theorem c136 (x : Nat)  (st : St) : EvF gS 136 [.float .f64 x] st = some (.ret (.bool (!feq x x)) none, st) := by
  refine EvF_start fi116_eq (fun x h => by cases h) m136 ?_
  rw [st136]
  have hm : fi136.marks = [] := rfl
  have hl : fi136.locals = [] := rfl
  have hr : fi136.results = [.tmp 2] := rfl
  simp (config := { contextual := true, maxSteps := 10000000, maxDischargeDepth := 6 }) [-Int.not_le, -Int.not_lt, -Nat.not_le, -Nat.not_lt, ty4, ty86, hm, hl, hr, e136_2, e136_0]
  all_goals first | done | grind | omega | (trace_state; fail)
theorem k136 (x : Nat)  (fr : Fr) (st : St) : callStep gS (EvF gS) 136 [.float .f64 x] fr st = some (.ok (retE none (.bool (!feq x x))) fr st) :=
  call_pure rfl fi116_eq rfl (fun st => c136 x  st) (by simp)
def fi139 : FI := { body := codeOf Try.f139, ntmps := 9, results := [.tmp 2], pers := [0, 2], locals := [], pure := true, marks := [] }
theorem fi119_eq : gS.fn 139 = some fi139 := by kernel_rfl
theorem st139 (a0 : V) : startFr fi139 [a0] = { ps := [(0, .val a0), (2, .any)], ts := [], lc := [] } := rfl
def b139 : Code := mini (codeOf Try.f139)
def c139_6 : Code := .seq (codeN b139 37) .ret
def c139_5 : Code := .cond (.tmp 4) c139_6 .skip
def c139_3 : Code := .seq (codeN b139 9) c139_5
def c139_14 : Code := .seq (codeN b139 75) .ret
def c139_13 : Code := .cond (.tmp 6) c139_14 .skip
def c139_11 : Code := .seq (codeN b139 19) c139_13
def c139_18 : Code := .seq (codeN b139 23) .ret
def c139_10 : Code := .seq c139_11 c139_18
def c139_2 : Code := .seq c139_3 c139_10
def c139_0 : Code := .seq (codeN b139 2) c139_2
theorem E139 : evK gS fi139 c139_6 fr st k = opsR gS fi139 [op1 2 (.assign (.const (.int .u64 9221120237041090560))) 128] fr st (.seq .ret k) ∧
 evK gS fi139 c139_5 fr st k = condK gS fi139 (fr.op (.tmp 4)).bool? c139_6 .skip fr st k ∧
 (evK gS fi139 c139_3 fr st k = opsR gS fi139 [mv 3 0 86,
 cal 4 136 [(.tmp 3)] [86] 4] fr st (.seq c139_5 k)) ∧
 evK gS fi139 c139_14 fr st k = opsR gS fi139 [op1 2 (.assign (.const (.int .u64 0))) 128] fr st (.seq .ret k) ∧
 evK gS fi139 c139_13 fr st k = condK gS fi139 (fr.op (.tmp 6)).bool? c139_14 .skip fr st k ∧
 (evK gS fi139 c139_11 fr st k = opsR gS fi139 [mv 5 0 86,
 op1 6 (.binOp .eql 86 (.tmp 5) (.const (.float .f64 0)) 86) 4] fr st (.seq c139_13 k)) ∧
 (evK gS fi139 c139_18 fr st k = opsR gS fi139 [mv 7 0 86,
 cal 8 123 [(.tmp 7)] [86] 128,
 asn 2 8 128] fr st (.seq .ret k)) ∧
 evK gS fi139 c139_10 fr st k = evK gS fi139 c139_11 fr st (.seq c139_18 k) ∧
 evK gS fi139 c139_2 fr st k = evK gS fi139 c139_3 fr st (.seq c139_10 k) ∧
 evK gS fi139 c139_0 fr st k = opsR gS fi139 [op1 2 (.assign (.const (.int .u64 0))) 128] fr st (.seq c139_2 k) := ⟨evK_rs 2 rfl (by kernel_rfl), rfl, evK_rs 1 rfl (by kernel_rfl), evK_rs 4 rfl (by kernel_rfl), rfl, evK_rs 3 rfl (by kernel_rfl), evK_rs 5 rfl (by kernel_rfl), rfl, rfl, evK_rs 0 rfl (by kernel_rfl)⟩
theorem m139 : mini fi139.body = c139_0 := by kernel_rfl
set_option maxHeartbeats 4000000 in
theorem c139 (x : Nat)  (st : St) : EvF gS 139 [.float .f64 x] st = some (.ret (.int .u64 (fbits x)) none, st) := by
  refine EvF_start fi119_eq (fun x h => by cases h) m139 ?_
  rw [st139]
  have hm : fi139.marks = [] := rfl
  have hl : fi139.locals = [] := rfl
  have hr : fi139.results = [.tmp 2] := rfl
  simp (config := { contextual := true, maxSteps := 10000000, maxDischargeDepth := 6 }) [-Int.not_le, -Int.not_lt, -Nat.not_le, -Nat.not_lt, ty4, ty86, ty128, hm, hl, hr, k123, k136, E139]
  all_goals try simp (config := { contextual := true }) [-Int.not_le, -Int.not_lt, -Nat.not_le, -Nat.not_lt, fbits]
  all_goals first | done | grind | omega | (trace_state; fail)
theorem k139 (x : Nat)  (fr : Fr) (st : St) : callStep gS (EvF gS) 139 [.float .f64 x] fr st = some (.ok (retE none (.int .u64 (fbits x))) fr st) :=
  call_pure rfl fi119_eq rfl (fun st => c139 x  st) (by simp)
def fi122 : FI := { body := codeOf Try.f122, ntmps := 10, results := [.tmp 4], pers := [0, 1, 4], locals := [], pure := true, marks := [] }
theorem fi109_eq : gS.fn 122 = some fi122 := by kernel_rfl
theorem st122 (a0 a1 : V) : startFr fi122 [a0, a1] = { ps := [(0, .val a0), (1, .val a1), (4, .any)], ts := [], lc := [] } := rfl
def b122 : Code := mini (codeOf Try.f122)
def c122_2 : Code := .seq (codeN b122 5) .ret
theorem e122_2 : evK gS fi122 c122_2 fr st k = opsR gS fi122 [mv 5 0 86,
 cal 6 139 [(.tmp 5)] [86] 128,
 mv 7 1 86,
 cal 8 139 [(.tmp 7)] [86] 128,
 bop 9 .eql 128 6 8 128 4,
 asn 4 9 4] fr st (.seq .ret k) := evK_rs 1 rfl (by kernel_rfl)
def c122_0 : Code := .seq (codeN b122 2) c122_2
theorem e122_0 : evK gS fi122 c122_0 fr st k = opsR gS fi122 [op1 4 (.assign (.const (.bool false))) 4] fr st (.seq c122_2 k) := evK_rs 0 rfl (by kernel_rfl)
theorem m122 : mini fi122.body = c122_0 := by kernel_rfl
set_option maxHeartbeats 4000000 in
theorem c122 (a : Nat) (b : Nat)  (st : St) : EvF gS 122 [.float .f64 a, .float .f64 b] st = some (.ret (.bool (fbits a = fbits b)) none, st) := by
  refine EvF_start fi109_eq (fun x h => by cases h) m122 ?_
  rw [st122]
  have hm : fi122.marks = [] := rfl
  have hl : fi122.locals = [] := rfl
  have hr : fi122.results = [.tmp 4] := rfl
  simp (config := { contextual := true, maxSteps := 10000000, maxDischargeDepth := 6 }) [-Int.not_le, -Int.not_lt, -Nat.not_le, -Nat.not_lt, ty4, ty86, ty128, hm, hl, hr, k139, e122_2, e122_0]
  all_goals first | done | grind | omega | (trace_state; fail)
theorem k122 (a : Nat) (b : Nat)  (fr : Fr) (st : St) : callStep gS (EvF gS) 122 [.float .f64 a, .float .f64 b] fr st = some (.ok (retE none (.bool (fbits a = fbits b))) fr st) :=
  call_pure rfl fi109_eq rfl (fun st => c122 a b  st) (by simp)
end
end Go.Proofs.Ytdoobejjedpcgaa
namespace Go.Proofs.Ytdoobejjedpcgaa
open Go Go.Ab
set_option linter.unusedVariables false
set_option linter.unusedSimpArgs false
set_option linter.unnecessarySimpa false
set_option maxRecDepth 20000
noncomputable section
variable (fr : Fr) (st : St) (k : Kt)
def fi102 : FI := { body := codeOf Try.f102, ntmps := 38, results := [.tmp 4], pers := [0, 1, 2, 3, 4], locals := [2, 3], pure := true, marks := [] }
theorem fi81_eq : gS.fn 102 = some fi102 := by kernel_rfl
theorem st102 (a0 a1 : V) : startFr fi102 [a0, a1] = { ps := [(0, .val a0), (1, .val a1), (2, .any), (3, .any), (4, .any)], ts := [], lc := [] } := rfl
def b102 : Code := mini (codeOf Try.f102)
def c102_2 : Code := .seq (codeN b102 5) .ret
theorem e102_2 : evK gS fi102 c102_2 fr st k = opsR gS fi102 [op1 5 (.fieldAddr 88 (.tmp 2) 0) 0,
 ld 6 3 5 3,
 op1 7 (.fieldAddr 88 (.tmp 3) 0) 0,
 ld 8 3 7 3,
 bop 9 .eql 3 6 8 3 4,
 mv 10 9 4,
 mk (some 11) (.fieldAddr 88 (.tmp 2) 1) 0 (some (5, true)),
 mk (some 12) (.load 2 (.tmp 11)) 2 (some (5, true)),
 mk (some 13) (.fieldAddr 88 (.tmp 3) 1) 0 (some (5, true)),
 mk (some 14) (.load 2 (.tmp 13)) 2 (some (5, true)),
 mk (some 15) (.binOp .eql 2 (.tmp 12) (.tmp 14) 2) 4 (some (5, true)),
 op1 16 (.pick (.tmp 10) (.tmp 15) (.const (.bool false))) 4,
 mv 17 16 4,
 mk (some 18) (.fieldAddr 88 (.tmp 2) 3) 0 (some (12, true)),
 mk (some 19) (.load 9 (.tmp 18)) 9 (some (12, true)),
 mk (some 20) (.fieldAddr 88 (.tmp 3) 3) 0 (some (12, true)),
 mk (some 21) (.load 9 (.tmp 20)) 9 (some (12, true)),
 mk (some 22) (.binOp .eql 9 (.tmp 19) (.tmp 21) 9) 4 (some (12, true)),
 op1 23 (.pick (.tmp 17) (.tmp 22) (.const (.bool false))) 4,
 mv 24 23 4,
 mk (some 25) (.fieldAddr 88 (.tmp 2) 4) 0 (some (19, true)),
 mk (some 26) (.load 4 (.tmp 25)) 4 (some (19, true)),
 mk (some 27) (.fieldAddr 88 (.tmp 3) 4) 0 (some (19, true)),
 mk (some 28) (.load 4 (.tmp 27)) 4 (some (19, true)),
 mk (some 29) (.binOp .eql 4 (.tmp 26) (.tmp 28) 4) 4 (some (19, true)),
 op1 30 (.pick (.tmp 24) (.tmp 29) (.const (.bool false))) 4,
 mv 31 30 4,
 mk (some 32) (.fieldAddr 88 (.tmp 2) 2) 0 (some (26, true)),
 mk (some 33) (.load 86 (.tmp 32)) 86 (some (26, true)),
 mk (some 34) (.fieldAddr 88 (.tmp 3) 2) 0 (some (26, true)),
 mk (some 35) (.load 86 (.tmp 34)) 86 (some (26, true)),
 mk (some 36) (.call { callee := (.value (.func 122)), args := #[(.tmp 33), (.tmp 35)], argTypes := #[86, 86] }) 4 (some (26, true)),
 op1 37 (.pick (.tmp 31) (.tmp 36) (.const (.bool false))) 4,
 asn 4 37 4] fr st (.seq .ret k) := evK_rs 1 rfl (by kernel_rfl)
def c102_0 : Code := .seq (codeN b102 2) c102_2
theorem e102_0 : evK gS fi102 c102_0 fr st k = opsR gS fi102 [op1 2 (.box 88 (.tmp 0)) 0,
 op1 3 (.box 88 (.tmp 1)) 0,
 op1 4 (.assign (.const (.bool false))) 4] fr st (.seq c102_2 k) := evK_rs 0 rfl (by kernel_rfl)
theorem m102 : mini fi102.body = c102_0 := by kernel_rfl
set_option maxHeartbeats 4000000 in
theorem c102 (a : Val) (b : Val)  (st : St) : EvF gS 102 [a.enc, b.enc] st = some (.ret (.bool (vsame a b)) none, st) := by
  refine EvF_start fi81_eq (fun x h => by cases h) m102 ?_
  rw [st102]
  have hm : fi102.marks = [] := rfl
  have hl : fi102.locals = [2, 3] := rfl
  have hr : fi102.results = [.tmp 4] := rfl
  simp (config := { contextual := true, maxSteps := 10000000, maxDischargeDepth := 6 }) [-Int.not_le, -Int.not_lt, -Nat.not_le, -Nat.not_lt, ty2, ty3, ty4, ty9, ty86, ty88, eq88, hm, hl, hr, k122, e102_2, e102_0]
  all_goals try simp (config := { contextual := true }) [-Int.not_le, -Int.not_lt, -Nat.not_le, -Nat.not_lt, vsame]
  all_goals first | done | grind | omega | (trace_state; fail)
theorem k102 (a_k : Int) (a_n : Int) (a_x : Nat) (a_s : List UInt8) (a_b : Bool) (b_k : Int) (b_n : Int) (b_x : Nat) (b_s : List UInt8) (b_b : Bool)  (fr : Fr) (st : St) : callStep gS (EvF gS) 102 [.agg [.int .i64 a_k, .int .i64 a_n, .float .f64 a_x, .str a_s, .bool a_b], .agg [.int .i64 b_k, .int .i64 b_n, .float .f64 b_x, .str b_s, .bool b_b]] fr st = some (.ok (retE none (.bool (vsame (⟨a_k, a_n, a_x, a_s, a_b⟩ : Val) (⟨b_k, b_n, b_x, b_s, b_b⟩ : Val)))) fr st) :=
  call_pure rfl fi81_eq rfl (fun st => c102 (⟨a_k, a_n, a_x, a_s, a_b⟩ : Val) (⟨b_k, b_n, b_x, b_s, b_b⟩ : Val)  st) (by simp)
theorem x102 : gS.ext 102 = none := rfl
theorem p102 : fi102.pure = true := rfl
def fi117 : FI := { body := codeOf Try.f117, ntmps := 29, results := [.tmp 2], pers := [0, 1, 2, 3, 7], locals := [1, 3], pure := true, marks := [] }
theorem fi70_eq : gS.fn 117 = some fi117 := by kernel_rfl
theorem st117 (a0 : V) : startFr fi117 [a0] = { ps := [(0, .val a0), (1, .any), (2, .any), (3, .any), (7, .any)], ts := [], lc := [] } := rfl
def b117 : Code := mini (codeOf Try.f117)
def c117_13 : Code := codeN b117 343
def c117_17 : Code := codeN b117 1495
def c117_21 : Code := codeN b117 6103
def c117_25 : Code := codeN b117 24535
def c117_26 : Code := .seq (codeN b117 49111) .ret
def c117_24 : Code := .cond (.tmp 17) c117_25 c117_26
def c117_22 : Code := .seq (codeN b117 12247) c117_24
def c117_20 : Code := .cond (.tmp 14) c117_21 c117_22
def c117_18 : Code := .seq (codeN b117 3031) c117_20
def c117_16 : Code := .cond (.tmp 11) c117_17 c117_18
def c117_14 : Code := .seq (codeN b117 727) c117_16
def c117_12 : Code := .cond (.tmp 8) c117_13 c117_14
def c117_10 : Code := .seq (codeN b117 151) c117_12
def c117_9 : Code := .block 0 c117_10
def c117_7 : Code := .seq (codeN b117 39) c117_9
def c117_29 : Code := .seq (codeN b117 47) .ret
def c117_6 : Code := .seq c117_7 c117_29
def c117_4 : Code := .seq (codeN b117 11) c117_6
def c117_2 : Code := .seq (codeN b117 5) c117_4
def c117_0 : Code := .seq (codeN b117 2) c117_2
theorem E117 : (evK gS fi117 c117_13 fr st k = opsR gS fi117 [op1 10 (.fieldAddr 88 (.tmp 3) 1) 0,
 mk none (.store 2 (.tmp 10) (.const (.int .i64 0))) 0 none] fr st k) ∧
 (evK gS fi117 c117_17 fr st k = opsR gS fi117 [op1 13 (.fieldAddr 88 (.tmp 3) 2) 0,
 mk none (.store 86 (.tmp 13) (.const (.float .f64 0))) 0 none] fr st k) ∧
 (evK gS fi117 c117_21 fr st k = opsR gS fi117 [op1 16 (.fieldAddr 88 (.tmp 3) 3) 0,
 mk none (.store 9 (.tmp 16) (.const (.string { data := #[] }))) 0 none] fr st k) ∧
 (evK gS fi117 c117_25 fr st k = opsR gS fi117 [op1 19 (.fieldAddr 88 (.tmp 3) 4) 0,
 mk none (.store 4 (.tmp 19) (.const (.bool false))) 0 none] fr st k) ∧
 evK gS fi117 c117_26 fr st k = opsR gS fi117 [op1 2 (.assign (.const (.bool false))) 4] fr st (.seq .ret k) ∧
 evK gS fi117 c117_24 fr st k = condK gS fi117 (fr.op (.tmp 17)).bool? c117_25 c117_26 fr st k ∧
 (evK gS fi117 c117_22 fr st k = opsR gS fi117 [op1 18 (.binOp .eql 3 (.tmp 7) (.const (.int .i64 4)) 3) 4,
 asn 17 18 4] fr st (.seq c117_24 k)) ∧
 evK gS fi117 c117_20 fr st k = condK gS fi117 (fr.op (.tmp 14)).bool? c117_21 c117_22 fr st k ∧
 (evK gS fi117 c117_18 fr st k = opsR gS fi117 [op1 15 (.binOp .eql 3 (.tmp 7) (.const (.int .i64 3)) 3) 4,
 asn 14 15 4] fr st (.seq c117_20 k)) ∧
 evK gS fi117 c117_16 fr st k = condK gS fi117 (fr.op (.tmp 11)).bool? c117_17 c117_18 fr st k ∧
 (evK gS fi117 c117_14 fr st k = opsR gS fi117 [op1 12 (.binOp .eql 3 (.tmp 7) (.const (.int .i64 2)) 3) 4,
 asn 11 12 4] fr st (.seq c117_16 k)) ∧
 evK gS fi117 c117_12 fr st k = condK gS fi117 (fr.op (.tmp 8)).bool? c117_13 c117_14 fr st k ∧
 (evK gS fi117 c117_10 fr st k = opsR gS fi117 [op1 9 (.binOp .eql 3 (.tmp 7) (.const (.int .i64 1)) 3) 4,
 asn 8 9 4] fr st (.seq c117_12 k)) ∧
 evK gS fi117 c117_9 fr st k = evK gS fi117 c117_10 fr st (.blk 0 k) ∧
 (evK gS fi117 c117_7 fr st k = opsR gS fi117 [op1 6 (.fieldAddr 88 (.tmp 1) 0) 0,
 ld 7 3 6 3] fr st (.seq c117_9 k)) ∧
 (evK gS fi117 c117_29 fr st k = opsR gS fi117 [ld 20 88 3 88,
 op1 21 (.build 88 #[]) 88,
 bop 22 .eql 88 20 21 88 4,
 mv 23 22 4,
 mk (some 24) (.fieldAddr 88 (.tmp 1) 3) 0 (some (3, true)),
 mk (some 25) (.load 9 (.tmp 24)) 9 (some (3, true)),
 mk (some 26) (.call { callee := (.builtin .len), args := #[(.tmp 25)], argTypes := #[9] }) 3 (some (3, true)),
 mk (some 27) (.binOp .leq 3 (.tmp 26) (.const (.int .i64 12)) 3) 4 (some (3, true)),
 op1 28 (.pick (.tmp 23) (.tmp 27) (.const (.bool false))) 4,
 asn 2 28 4] fr st (.seq .ret k)) ∧
 evK gS fi117 c117_6 fr st k = evK gS fi117 c117_7 fr st (.seq c117_29 k) ∧
 (evK gS fi117 c117_4 fr st k = opsR gS fi117 [op1 5 (.fieldAddr 88 (.tmp 3) 0) 0,
 mk none (.store 3 (.tmp 5) (.const (.int .i64 0))) 0 none] fr st (.seq c117_6 k)) ∧
 (evK gS fi117 c117_2 fr st k = opsR gS fi117 [ld 4 88 1 88,
 op1 3 (.alloc 88) 0,
 sto 88 3 4] fr st (.seq c117_4 k)) ∧
 (evK gS fi117 c117_0 fr st k = opsR gS fi117 [op1 1 (.box 88 (.tmp 0)) 0,
 op1 2 (.assign (.const (.bool false))) 4] fr st (.seq c117_2 k)) := ⟨evK_r 6 (by kernel_rfl), evK_r 8 (by kernel_rfl), evK_r 10 (by kernel_rfl), evK_r 12 (by kernel_rfl), evK_rs 4 rfl (by kernel_rfl), rfl, evK_rs 11 rfl (by kernel_rfl), rfl, evK_rs 9 rfl (by kernel_rfl), rfl, evK_rs 7 rfl (by kernel_rfl), rfl, evK_rs 5 rfl (by kernel_rfl), rfl, evK_rs 3 rfl (by kernel_rfl), evK_rs 13 rfl (by kernel_rfl), rfl, evK_rs 2 rfl (by kernel_rfl), evK_rs 1 rfl (by kernel_rfl), evK_rs 0 rfl (by kernel_rfl)⟩
theorem m117 : mini fi117.body = c117_0 := by kernel_rfl
set_option maxHeartbeats 4000000 in
theorem c117 (v : Val)  (st : St) : EvF gS 117 [v.enc] st = some (.ret (.bool (vright v)) none, st) := by
  refine EvF_start fi70_eq (fun x h => by cases h) m117 ?_
  rw [st117]
  have hm : fi117.marks = [] := rfl
  have hl : fi117.locals = [1, 3] := rfl
  have hr : fi117.results = [.tmp 2] := rfl
  simp (config := { contextual := true, maxSteps := 10000000, maxDischargeDepth := 6 }) [-Int.not_le, -Int.not_lt, -Nat.not_le, -Nat.not_lt, ty2, ty3, ty4, ty9, ty86, ty88, eq88, hm, hl, hr, E117]
  all_goals try simp (config := { contextual := true }) [-Int.not_le, -Int.not_lt, -Nat.not_le, -Nat.not_lt, vright, opq]
  all_goals first | done | grind | omega | (trace_state; fail)
theorem k117 (v_k : Int) (v_n : Int) (v_x : Nat) (v_s : List UInt8) (v_b : Bool)  (fr : Fr) (st : St) : callStep gS (EvF gS) 117 [.agg [.int .i64 v_k, .int .i64 v_n, .float .f64 v_x, .str v_s, .bool v_b]] fr st = some (.ok (retE none (.bool (vright (⟨v_k, v_n, v_x, v_s, v_b⟩ : Val)))) fr st) :=
  call_pure rfl fi70_eq rfl (fun st => c117 (⟨v_k, v_n, v_x, v_s, v_b⟩ : Val)  st) (by simp)
def fi116 : FI := { body := codeOf Try.f116, ntmps := 6, results := [.tmp 2], pers := [0, 1, 2], locals := [1], pure := true, marks := [] }
theorem fi69_eq : gS.fn 116 = some fi116 := by kernel_rfl
theorem st116 (a0 : V) : startFr fi116 [a0] = { ps := [(0, .val a0), (1, .any), (2, .any)], ts := [], lc := [] } := rfl
def b116 : Code := mini (codeOf Try.f116)
def c116_2 : Code := .seq (codeN b116 5) .ret
theorem e116_2 : evK gS fi116 c116_2 fr st k = opsR gS fi116 [ld 3 88 1 88,
 op1 4 (.build 88 #[]) 88,
 cal 5 102 [(.tmp 3), (.tmp 4)] [88, 88] 4,
 asn 2 5 4] fr st (.seq .ret k) := evK_rs 1 rfl (by kernel_rfl)
def c116_0 : Code := .seq (codeN b116 2) c116_2
theorem e116_0 : evK gS fi116 c116_0 fr st k = opsR gS fi116 [op1 1 (.box 88 (.tmp 0)) 0,
 op1 2 (.assign (.const (.bool false))) 4] fr st (.seq c116_2 k) := evK_rs 0 rfl (by kernel_rfl)
theorem m116 : mini fi116.body = c116_0 := by kernel_rfl
set_option maxHeartbeats 4000000 in
theorem c116 (v : Val)  (st : St) : EvF gS 116 [v.enc] st = some (.ret (.bool (vsame v vzero)) none, st) := by
  refine EvF_start fi69_eq (fun x h => by cases h) m116 ?_
  rw [st116]
  have hm : fi116.marks = [] := rfl
  have hl : fi116.locals = [1] := rfl
  have hr : fi116.results = [.tmp 2] := rfl
  simp (config := { contextual := true, maxSteps := 10000000, maxDischargeDepth := 6 }) [-Int.not_le, -Int.not_lt, -Nat.not_le, -Nat.not_lt, ty4, ty88, eq88, hm, hl, hr, k102, e116_2, e116_0]
  all_goals try simp (config := { contextual := true }) [-Int.not_le, -Int.not_lt, -Nat.not_le, -Nat.not_lt, vzero]
  all_goals first | done | grind | omega | (trace_state; fail)
theorem k116 (v_k : Int) (v_n : Int) (v_x : Nat) (v_s : List UInt8) (v_b : Bool)  (fr : Fr) (st : St) : callStep gS (EvF gS) 116 [.agg [.int .i64 v_k, .int .i64 v_n, .float .f64 v_x, .str v_s, .bool v_b]] fr st = some (.ok (retE none (.bool (vsame (⟨v_k, v_n, v_x, v_s, v_b⟩ : Val) vzero))) fr st) :=
  call_pure rfl fi69_eq rfl (fun st => c116 (⟨v_k, v_n, v_x, v_s, v_b⟩ : Val)  st) (by simp)
end
end Go.Proofs.Ytdoobejjedpcgaa
namespace Go.Proofs.Ytdoobejjedpcgaa
open Go Go.Ab
set_option linter.unusedVariables false
set_option linter.unusedSimpArgs false
set_option linter.unnecessarySimpa false
set_option maxRecDepth 20000
noncomputable section
variable (fr : Fr) (st : St) (k : Kt)
def fi115 : FI := { body := codeOf Try.f115, ntmps := 28, results := [.tmp 2], pers := [0, 2, 3], locals := [], pure := true, marks := [] }
theorem fi68_eq : gS.fn 115 = some fi115 := by kernel_rfl
theorem st115 (a0 : V) : startFr fi115 [a0] = { ps := [(0, .val a0), (2, .any), (3, .any)], ts := [], lc := [] } := rfl
def b115 : Code := mini (codeOf Try.f115)
def c115_10 : Code := .cond (.tmp 7) .skip (.exit 0)
def c115_8 : Code := .seq (codeN b115 133) c115_10
def c115_18 : Code := .seq (codeN b115 2341) .ret
def c115_17 : Code := .cond (.tmp 19) c115_18 .skip
def c115_15 : Code := .seq (codeN b115 549) c115_17
def c115_22 : Code := codeN b115 229
def c115_13 : Code := .seq (.block 1 c115_15) c115_22
def c115_7 : Code := .seq c115_8 c115_13
def c115_6 : Code := .loop c115_7
def c115_5 : Code := .block 0 c115_6
def c115_3 : Code := .seq (codeN b115 9) c115_5
def c115_23 : Code := .seq (codeN b115 11) .ret
def c115_2 : Code := .seq c115_3 c115_23
def c115_0 : Code := .seq (codeN b115 2) c115_2
theorem E115 : evK gS fi115 c115_10 fr st k = condK gS fi115 (fr.op (.tmp 7)).bool? .skip (.exit 0) fr st k ∧
 (evK gS fi115 c115_8 fr st k = opsR gS fi115 [mv 4 3 3,
 mv 5 0 9,
 len1 6 5 9 3,
 bop 7 .lss 3 4 6 3 4] fr st (.seq c115_10 k)) ∧
 evK gS fi115 c115_18 fr st k = opsR gS fi115 [op1 2 (.assign (.const (.bool false))) 4] fr st (.seq .ret k) ∧
 evK gS fi115 c115_17 fr st k = condK gS fi115 (fr.op (.tmp 19)).bool? c115_18 .skip fr st k ∧
 (evK gS fi115 c115_15 fr st k = opsR gS fi115 [mv 10 0 9,
 mv 11 3 3,
 op1 12 (.index 9 (.tmp 10) (.tmp 11)) 5,
 op1 13 (.binOp .lss 5 (.tmp 12) (.const (.int .u8 97)) 5) 4,
 mv 14 13 4,
 mk (some 15) (.move (.tmp 0)) 9 (some (4, false)),
 mk (some 16) (.move (.tmp 3)) 3 (some (4, false)),
 mk (some 17) (.index 9 (.tmp 15) (.tmp 16)) 5 (some (4, false)),
 mk (some 18) (.binOp .gtr 5 (.tmp 17) (.const (.int .u8 122)) 5) 4 (some (4, false)),
 op1 19 (.pick (.tmp 14) (.const (.bool true)) (.tmp 18)) 4] fr st (.seq c115_17 k)) ∧
 (evK gS fi115 c115_22 fr st k = opsR gS fi115 [mv 8 3 3,
 op1 9 (.binOp .add 3 (.tmp 8) (.const (.int .i64 1)) 3) 3,
 asn 3 9 3] fr st k) ∧
 evK gS fi115 c115_13 fr st k = evK gS fi115 c115_15 fr st (.blk 1 (.seq c115_22 k)) ∧
 evK gS fi115 c115_7 fr st k = evK gS fi115 c115_8 fr st (.seq c115_13 k) ∧
 evK gS fi115 c115_5 fr st k = evK gS fi115 c115_6 fr st (.blk 0 k) ∧
 evK gS fi115 c115_3 fr st k = opsR gS fi115 [op1 3 (.assign (.const (.int .i64 0))) 3] fr st (.seq c115_5 k) ∧
 (evK gS fi115 c115_23 fr st k = opsR gS fi115 [mv 20 0 9,
 len1 21 20 9 3,
 op1 22 (.binOp .geq 3 (.tmp 21) (.const (.int .i64 1)) 3) 4,
 mv 23 22 4,
 mk (some 24) (.move (.tmp 0)) 9 (some (3, true)),
 mk (some 25) (.call { callee := (.builtin .len), args := #[(.tmp 24)], argTypes := #[9] }) 3 (some (3, true)),
 mk (some 26) (.binOp .leq 3 (.tmp 25) (.const (.int .i64 6)) 3) 4 (some (3, true)),
 op1 27 (.pick (.tmp 23) (.tmp 26) (.const (.bool false))) 4,
 asn 2 27 4] fr st (.seq .ret k)) ∧
 evK gS fi115 c115_2 fr st k = evK gS fi115 c115_3 fr st (.seq c115_23 k) ∧
 evK gS fi115 c115_0 fr st k = opsR gS fi115 [op1 2 (.assign (.const (.bool false))) 4] fr st (.seq c115_2 k) := ⟨rfl, evK_rs 2 rfl (by kernel_rfl), evK_rs 5 rfl (by kernel_rfl), rfl, evK_rs 4 rfl (by kernel_rfl), evK_r 3 (by kernel_rfl), rfl, rfl, rfl, evK_rs 1 rfl (by kernel_rfl), evK_rs 6 rfl (by kernel_rfl), rfl, evK_rs 0 rfl (by kernel_rfl)⟩
theorem m115 : mini fi115.body = c115_0 := by kernel_rfl
theorem n115_6 (fr : Fr) (st : St) (k : Kt) : nextK gS fi115 (.loop c115_7 k) .normal fr st = evK gS fi115 c115_6 fr st k := rfl
set_option maxHeartbeats 4000000 in
theorem L115_6 (s : List UInt8) (h_s : s.length < 4611686018427387904) (st : St) : ∀ (n i : Nat) (j : Int)  (e2 : E) (T : List (Nat × E)) (X : List (Nat × List V)) (ht2 : e2.Tame) , j = (i : Int) → i ≤ (s).length → (s).length - i = n →
    evK gS fi115 c115_6 { ps := [(0, .val (.str s)), (2, e2), (3, .val (.int .i64 j))], ts := T, lc := X } st (.blk 0 (.seq c115_23 .nil)) = some ((.ret (.bool ((s.drop i).all (fun c => !decide (c.toNat < 97) && !decide (122 < c.toNat)) && (decide (1 ≤ s.length) && decide (s.length ≤ 6)))) none), st) := by
  intro n
  have hm : fi115.marks = [] := rfl
  have hl : fi115.locals = [] := rfl
  have hr : fi115.results = [.tmp 2] := rfl
  induction n with
  | zero =>
    intro i j  e2 T X ht2  hj hi hn
    obtain rfl : i = (s).length := by omega
    subst hj
    refine evK_loop c115_7 _ st _ _ rfl ?_
    simp (config := { contextual := true, maxSteps := 10000000, maxDischargeDepth := 6 }) [-Int.not_le, -Int.not_lt, -Nat.not_le, -Nat.not_lt, ty3, ty4, ty5, ty9, hm, hl, hr, E115, n115_6, ht2]
    all_goals first | done | grind | omega | (trace_state; fail)
  | succ n ih =>
    intro i j  e2 T X ht2  hj hi hn
    subst hj
    obtain ⟨x, hx⟩ : ∃ x, (s)[i]? = some x := ⟨(s)[i]'(by omega), List.getElem?_eq_getElem (by omega)⟩
    have hd := drop_get hx
    have hlt : (i : Int) < ((s).length : Int) := by omega
    have hlt2 : i < (s).length := by omega
    have hxe : (s)[i]'hlt2 = x := by rw [List.getElem?_eq_getElem hlt2] at hx; exact Option.some.inj hx
    have hw : IntKind.wrap .i64 ((i : Int) + 1) = (i : Int) + 1 := wrap64 (by omega) (by omega)
    have IH := fun e2 T X ht2 => ih (i + 1) ((i : Int) + 1) e2 T X ht2 rfl (by omega) (by omega)
    refine evK_loop c115_7 _ st _ _ rfl ?_
    simp (config := { contextual := true, maxSteps := 10000000, maxDischargeDepth := 6 }) [-Int.not_le, -Int.not_lt, -Nat.not_le, -Nat.not_lt, ty3, ty4, ty5, ty9, hm, hl, hr, E115, n115_6, ht2, hx, hxe, hd, hlt, hlt2, hw, IH]
    all_goals first | done | grind | omega | (trace_state; fail)
set_option maxHeartbeats 4000000 in
theorem c115 (s : List UInt8) (h_s : s.length < 4611686018427387904) (st : St) : EvF gS 115 [.str s] st = some (.ret (.bool (isWord s)) none, st) := by
  refine EvF_start fi68_eq (fun x h => by cases h) m115 ?_
  rw [st115]
  have hm : fi115.marks = [] := rfl
  have hl : fi115.locals = [] := rfl
  have hr : fi115.results = [.tmp 2] := rfl
  simp (config := { contextual := true, maxSteps := 10000000, maxDischargeDepth := 6 }) [-Int.not_le, -Int.not_lt, -Nat.not_le, -Nat.not_lt, ty3, ty4, ty5, ty9, hm, hl, hr, E115, n115_6, (fun e2 T X ht2 => L115_6 s h_s st _ 0 0  e2 T X ht2 rfl (Nat.zero_le _) rfl)]
  all_goals try simp (config := { contextual := true }) [-Int.not_le, -Int.not_lt, -Nat.not_le, -Nat.not_lt, isWord]
  all_goals first | done | grind | omega | (trace_state; fail)
theorem k115 (s : List UInt8) (h_s : s.length < 4611686018427387904) (fr : Fr) (st : St) : callStep gS (EvF gS) 115 [.str s] fr st = some (.ok (retE none (.bool (isWord s))) fr st) :=
  call_pure rfl fi68_eq rfl (fun st => c115 s h_s st) (by simp)
def fi118 : FI := { body := codeOf Try.f118, ntmps := 15, results := [.tmp 2], pers := [0, 2, 4, 5, 6, 7], locals := [4], pure := true, marks := [] }
theorem fi71_eq : gS.fn 118 = some fi118 := by kernel_rfl
theorem st118 (a0 : V) : startFr fi118 [a0] = { ps := [(0, .val a0), (2, .any), (4, .any), (5, .any), (6, .any), (7, .any)], ts := [], lc := [] } := rfl
def b118 : Code := mini (codeOf Try.f118)
def c118_20 : Code := .seq (codeN b118 9829) .ret
def c118_19 : Code := .cond (.tmp 13) c118_20 .skip
def c118_17 : Code := .seq (codeN b118 2661) c118_19
def c118_15 : Code := .seq (codeN b118 1125) c118_17
def c118_24 : Code := codeN b118 485
def c118_13 : Code := .seq (.block 1 c118_15) c118_24
def c118_9 : Code := .seq (.cond (.tmp 8) .skip (.exit 0)) c118_13
def c118_7 : Code := .seq (codeN b118 69) c118_9
def c118_6 : Code := .loop c118_7
def c118_5 : Code := .block 0 c118_6
def c118_3 : Code := .seq (codeN b118 9) c118_5
def c118_25 : Code := .seq (codeN b118 11) .ret
def c118_2 : Code := .seq c118_3 c118_25
def c118_0 : Code := .seq (codeN b118 2) c118_2
theorem E118 : evK gS fi118 c118_20 fr st k = opsR gS fi118 [op1 2 (.assign (.const (.bool false))) 4] fr st (.seq .ret k) ∧
 evK gS fi118 c118_19 fr st k = condK gS fi118 (fr.op (.tmp 13)).bool? c118_20 .skip fr st k ∧
 (evK gS fi118 c118_17 fr st k = opsR gS fi118 [ld 11 88 4 88,
 cal 12 117 [(.tmp 11)] [88] 4,
 op1 13 (.unOp .not 4 (.tmp 12)) 4] fr st (.seq c118_19 k)) ∧
 (evK gS fi118 c118_15 fr st k = opsR gS fi118 [ixa 9 89 5 7 0,
 ld 10 88 9 88,
 op1 4 (.alloc 88) 0,
 sto 88 4 10] fr st (.seq c118_17 k)) ∧
 (evK gS fi118 c118_24 fr st k = opsR gS fi118 [op1 14 (.binOp .add 3 (.tmp 7) (.const (.int .i64 1)) 3) 3,
 mv 7 14 3] fr st k) ∧
 evK gS fi118 c118_13 fr st k = evK gS fi118 c118_15 fr st (.blk 1 (.seq c118_24 k)) ∧
 evK gS fi118 c118_9 fr st k = condK gS fi118 (fr.op (.tmp 8)).bool? .skip (.exit 0) fr st (.seq c118_13 k) ∧
 evK gS fi118 c118_7 fr st k = opsR gS fi118 [bop 8 .lss 3 7 6 3 0] fr st (.seq c118_9 k) ∧
 evK gS fi118 c118_5 fr st k = evK gS fi118 c118_6 fr st (.blk 0 k) ∧
 (evK gS fi118 c118_3 fr st k = opsR gS fi118 [mv 5 0 89,
 len1 6 5 89 3,
 op1 7 (.move (.const (.int .i64 0))) 3] fr st (.seq c118_5 k)) ∧
 evK gS fi118 c118_25 fr st k = opsR gS fi118 [op1 2 (.assign (.const (.bool true))) 4] fr st (.seq .ret k) ∧
 evK gS fi118 c118_2 fr st k = evK gS fi118 c118_3 fr st (.seq c118_25 k) ∧
 evK gS fi118 c118_0 fr st k = opsR gS fi118 [op1 2 (.assign (.const (.bool false))) 4] fr st (.seq c118_2 k) := ⟨evK_rs 5 rfl (by kernel_rfl), rfl, evK_rs 4 rfl (by kernel_rfl), evK_rs 3 rfl (by kernel_rfl), evK_r 6 (by kernel_rfl), rfl, rfl, evK_rs 2 rfl (by kernel_rfl), rfl, evK_rs 1 rfl (by kernel_rfl), evK_rs 7 rfl (by kernel_rfl), rfl, evK_rs 0 rfl (by kernel_rfl)⟩
theorem m118 : mini fi118.body = c118_0 := by kernel_rfl
theorem n118_6 (fr : Fr) (st : St) (k : Kt) : nextK gS fi118 (.loop c118_7 k) .normal fr st = evK gS fi118 c118_6 fr st k := rfl
set_option maxHeartbeats 4000000 in
theorem L118_6 (l : List Val) (h_l : l.length < 4611686018427387904) (st : St) : ∀ (n i : Nat) (j : Int)  (e0 e2 e4 : E) (T : List (Nat × E)) (X : List (Nat × List V)) (ht0 : e0.Tame) (ht2 : e2.Tame) (ht4 : e4.Tame) , j = (i : Int) → i ≤ (l).length → (l).length - i = n →
    evK gS fi118 c118_6 { ps := [(0, e0), (2, e2), (4, e4), (5, .val (.slice (encVals l))), (6, .val (.int .i64 l.length)), (7, .val (.int .i64 j))], ts := T, lc := X } st (.blk 0 (.seq c118_25 .nil)) = some ((.ret (.bool ((l.drop i).all vright)) none), st) := by
  intro n
  have hm : fi118.marks = [] := rfl
  have hl : fi118.locals = [4] := rfl
  have hr : fi118.results = [.tmp 2] := rfl
  induction n with
  | zero =>
    intro i j  e0 e2 e4 T X ht0 ht2 ht4  hj hi hn
    obtain rfl : i = (l).length := by omega
    subst hj
    refine evK_loop c118_7 _ st _ _ rfl ?_
    simp (config := { contextual := true, maxSteps := 10000000, maxDischargeDepth := 6 }) [-Int.not_le, -Int.not_lt, -Nat.not_le, -Nat.not_lt, ty3, ty4, ty88, ty89, eq88, hm, hl, hr, k117, E118, n118_6, ht0, ht2, ht4]
    all_goals first | done | grind | omega | (trace_state; fail)
  | succ n ih =>
    intro i j  e0 e2 e4 T X ht0 ht2 ht4  hj hi hn
    subst hj
    obtain ⟨x, hx⟩ : ∃ x, (l)[i]? = some x := ⟨(l)[i]'(by omega), List.getElem?_eq_getElem (by omega)⟩
    have hd := drop_get hx
    have hlt : (i : Int) < ((l).length : Int) := by omega
    have hlt2 : i < (l).length := by omega
    have hxe : (l)[i]'hlt2 = x := by rw [List.getElem?_eq_getElem hlt2] at hx; exact Option.some.inj hx
    have hw : IntKind.wrap .i64 ((i : Int) + 1) = (i : Int) + 1 := wrap64 (by omega) (by omega)
    have IH := fun e0 e2 e4 T X ht0 ht2 ht4 => ih (i + 1) ((i : Int) + 1) e0 e2 e4 T X ht0 ht2 ht4 rfl (by omega) (by omega)
    refine evK_loop c118_7 _ st _ _ rfl ?_
    simp (config := { contextual := true, maxSteps := 10000000, maxDischargeDepth := 6 }) [-Int.not_le, -Int.not_lt, -Nat.not_le, -Nat.not_lt, ty3, ty4, ty88, ty89, eq88, hm, hl, hr, k117, E118, n118_6, ht0, ht2, ht4, hx, hxe, hd, hlt, hlt2, hw, IH]
    all_goals first | done | grind | omega | (trace_state; fail)
set_option maxHeartbeats 4000000 in
theorem c118 (l : List Val) (h_l : l.length < 4611686018427387904) (st : St) : EvF gS 118 [.slice (encVals l)] st = some (.ret (.bool (l.all vright)) none, st) := by
  refine EvF_start fi71_eq (fun x h => by cases h) m118 ?_
  rw [st118]
  have hm : fi118.marks = [] := rfl
  have hl : fi118.locals = [4] := rfl
  have hr : fi118.results = [.tmp 2] := rfl
  simp (config := { contextual := true, maxSteps := 10000000, maxDischargeDepth := 6 }) [-Int.not_le, -Int.not_lt, -Nat.not_le, -Nat.not_lt, ty3, ty4, ty88, ty89, eq88, hm, hl, hr, k117, E118, n118_6, (fun e0 e2 e4 T X ht0 ht2 ht4 => L118_6 l h_l st _ 0 0  e0 e2 e4 T X ht0 ht2 ht4 rfl (Nat.zero_le _) rfl)]
  all_goals first | done | grind | omega | (trace_state; fail)
theorem k118 (l : List Val) (h_l : l.length < 4611686018427387904) (fr : Fr) (st : St) : callStep gS (EvF gS) 118 [.slice (encVals l)] fr st = some (.ok (retE none (.bool (l.all vright))) fr st) :=
  call_pure rfl fi71_eq rfl (fun st => c118 l h_l st) (by simp)
end
end Go.Proofs.Ytdoobejjedpcgaa
namespace Go.Proofs.Ytdoobejjedpcgaa
open Go Go.Ab
set_option linter.unusedVariables false
set_option linter.unusedSimpArgs false
set_option linter.unnecessarySimpa false
set_option maxRecDepth 20000
noncomputable section
variable (fr : Fr) (st : St) (k : Kt)
def fi97 : FI := { body := codeOf Try.f97, ntmps := 111, results := [.tmp 2], pers := [0, 1, 2, 8, 25], locals := [1], pure := true, marks := [] }
theorem fi19_eq : gS.fn 97 = some fi97 := by kernel_rfl
theorem st97 (a0 : V) : startFr fi97 [a0] = { ps := [(0, .val a0), (1, .any), (2, .any), (8, .any), (25, .any)], ts := [], lc := [] } := rfl
def b97 : Code := mini (codeOf Try.f97)
def c97_6 : Code := .seq (codeN b97 37) .ret
def c97_5 : Code := .cond (.tmp 6) c97_6 .skip
def c97_3 : Code := .seq (codeN b97 9) c97_5
def c97_17 : Code := .seq (codeN b97 299) .ret
def c97_41 : Code := codeN b97 524139
def c97_39 : Code := .cond (.tmp 25) .skip c97_41
def c97_37 : Code := .seq (codeN b97 196459) c97_39
def c97_35 : Code := .cond (.tmp 25) .skip c97_37
def c97_33 : Code := .seq (codeN b97 49003) c97_35
def c97_31 : Code := .cond (.tmp 25) .skip c97_33
def c97_29 : Code := .seq (codeN b97 12139) c97_31
def c97_27 : Code := .cond (.tmp 25) .skip c97_29
def c97_25 : Code := .seq (codeN b97 2923) c97_27
def c97_23 : Code := .cond (.tmp 25) .skip c97_25
def c97_21 : Code := .seq (codeN b97 619) c97_23
def c97_43 : Code := .seq (codeN b97 1259) .ret
def c97_49 : Code := .seq (codeN b97 5099) .ret
def c97_55 : Code := .seq (codeN b97 20459) .ret
def c97_61 : Code := .seq (codeN b97 81899) .ret
def c97_60 : Code := .cond (.tmp 84) c97_61 .skip
def c97_58 : Code := .seq (codeN b97 24555) c97_60
def c97_54 : Code := .cond (.tmp 62) c97_55 c97_58
def c97_52 : Code := .seq (codeN b97 6123) c97_54
def c97_48 : Code := .cond (.tmp 46) c97_49 c97_52
def c97_46 : Code := .seq (codeN b97 1515) c97_48
def c97_42 : Code := .cond (.tmp 25) c97_43 c97_46
def c97_20 : Code := .seq c97_21 c97_42
def c97_16 : Code := .cond (.tmp 9) c97_17 c97_20
def c97_14 : Code := .seq (codeN b97 75) c97_16
def c97_13 : Code := .block 0 c97_14
def c97_11 : Code := .seq (codeN b97 19) c97_13
def c97_65 : Code := .seq (codeN b97 23) .ret
def c97_10 : Code := .seq c97_11 c97_65
def c97_2 : Code := .seq c97_3 c97_10
def c97_0 : Code := .seq (codeN b97 2) c97_2
theorem E97 : evK gS fi97 c97_6 fr st k = opsR gS fi97 [op1 2 (.assign (.const (.bool false))) 4] fr st (.seq .ret k) ∧
 evK gS fi97 c97_5 fr st k = condK gS fi97 (fr.op (.tmp 6)).bool? c97_6 .skip fr st k ∧
 (evK gS fi97 c97_3 fr st k = opsR gS fi97 [op1 3 (.fieldAddr 91 (.tmp 1) 0) 0,
 ld 4 9 3 9,
 cal 5 115 [(.tmp 4)] [9] 4,
 op1 6 (.unOp .not 4 (.tmp 5)) 4] fr st (.seq c97_5 k)) ∧
 (evK gS fi97 c97_17 fr st k = opsR gS fi97 [op1 11 (.fieldAddr 91 (.tmp 1) 2) 0,
 ld 12 88 11 88,
 cal 13 116 [(.tmp 12)] [88] 4,
 mv 14 13 4,
 mk (some 15) (.fieldAddr 91 (.tmp 1) 3) 0 (some (3, true)),
 mk (some 16) (.load 88 (.tmp 15)) 88 (some (3, true)),
 mk (some 17) (.call { callee := (.value (.func 116)), args := #[(.tmp 16)], argTypes := #[88] }) 4 (some (3, true)),
 op1 18 (.pick (.tmp 14) (.tmp 17) (.const (.bool false))) 4,
 mv 19 18 4,
 mk (some 20) (.fieldAddr 91 (.tmp 1) 4) 0 (some (8, true)),
 mk (some 21) (.load 89 (.tmp 20)) 89 (some (8, true)),
 mk (some 22) (.call { callee := (.builtin .len), args := #[(.tmp 21)], argTypes := #[89] }) 3 (some (8, true)),
 mk (some 23) (.binOp .eql 3 (.tmp 22) (.const (.int .i64 0)) 3) 4 (some (8, true)),
 op1 24 (.pick (.tmp 19) (.tmp 23) (.const (.bool false))) 4,
 asn 2 24 4] fr st (.seq .ret k)) ∧
 (evK gS fi97 c97_41 fr st k = opsR gS fi97 [op1 31 (.binOp .eql 3 (.tmp 8) (.const (.int .i64 7)) 3) 4,
 asn 25 31 4] fr st k) ∧
 evK gS fi97 c97_39 fr st k = condK gS fi97 (fr.op (.tmp 25)).bool? .skip c97_41 fr st k ∧
 (evK gS fi97 c97_37 fr st k = opsR gS fi97 [op1 30 (.binOp .eql 3 (.tmp 8) (.const (.int .i64 6)) 3) 4,
 asn 25 30 4] fr st (.seq c97_39 k)) ∧
 evK gS fi97 c97_35 fr st k = condK gS fi97 (fr.op (.tmp 25)).bool? .skip c97_37 fr st k ∧
 (evK gS fi97 c97_33 fr st k = opsR gS fi97 [op1 29 (.binOp .eql 3 (.tmp 8) (.const (.int .i64 5)) 3) 4,
 asn 25 29 4] fr st (.seq c97_35 k)) ∧
 evK gS fi97 c97_31 fr st k = condK gS fi97 (fr.op (.tmp 25)).bool? .skip c97_33 fr st k ∧
 (evK gS fi97 c97_29 fr st k = opsR gS fi97 [op1 28 (.binOp .eql 3 (.tmp 8) (.const (.int .i64 4)) 3) 4,
 asn 25 28 4] fr st (.seq c97_31 k)) ∧
 evK gS fi97 c97_27 fr st k = condK gS fi97 (fr.op (.tmp 25)).bool? .skip c97_29 fr st k ∧
 (evK gS fi97 c97_25 fr st k = opsR gS fi97 [op1 27 (.binOp .eql 3 (.tmp 8) (.const (.int .i64 3)) 3) 4,
 asn 25 27 4] fr st (.seq c97_27 k)) ∧
 evK gS fi97 c97_23 fr st k = condK gS fi97 (fr.op (.tmp 25)).bool? .skip c97_25 fr st k ∧
 (evK gS fi97 c97_21 fr st k = opsR gS fi97 [op1 26 (.binOp .eql 3 (.tmp 8) (.const (.int .i64 2)) 3) 4,
 asn 25 26 4] fr st (.seq c97_23 k)) ∧
 (evK gS fi97 c97_43 fr st k = opsR gS fi97 [op1 32 (.fieldAddr 91 (.tmp 1) 2) 0,
 ld 33 88 32 88,
 cal 34 117 [(.tmp 33)] [88] 4,
 mv 35 34 4,
 mk (some 36) (.fieldAddr 91 (.tmp 1) 3) 0 (some (3, true)),
 mk (some 37) (.load 88 (.tmp 36)) 88 (some (3, true)),
 mk (some 38) (.call { callee := (.value (.func 116)), args := #[(.tmp 37)], argTypes := #[88] }) 4 (some (3, true)),
 op1 39 (.pick (.tmp 35) (.tmp 38) (.const (.bool false))) 4,
 mv 40 39 4,
 mk (some 41) (.fieldAddr 91 (.tmp 1) 4) 0 (some (8, true)),
 mk (some 42) (.load 89 (.tmp 41)) 89 (some (8, true)),
 mk (some 43) (.call { callee := (.builtin .len), args := #[(.tmp 42)], argTypes := #[89] }) 3 (some (8, true)),
 mk (some 44) (.binOp .eql 3 (.tmp 43) (.const (.int .i64 0)) 3) 4 (some (8, true)),
 op1 45 (.pick (.tmp 40) (.tmp 44) (.const (.bool false))) 4,
 asn 2 45 4] fr st (.seq .ret k)) ∧
 (evK gS fi97 c97_49 fr st k = opsR gS fi97 [op1 48 (.fieldAddr 91 (.tmp 1) 2) 0,
 ld 49 88 48 88,
 cal 50 117 [(.tmp 49)] [88] 4,
 mv 51 50 4,
 mk (some 52) (.fieldAddr 91 (.tmp 1) 3) 0 (some (3, true)),
 mk (some 53) (.load 88 (.tmp 52)) 88 (some (3, true)),
 mk (some 54) (.call { callee := (.value (.func 117)), args := #[(.tmp 53)], argTypes := #[88] }) 4 (some (3, true)),
 op1 55 (.pick (.tmp 51) (.tmp 54) (.const (.bool false))) 4,
 mv 56 55 4,
 mk (some 57) (.fieldAddr 91 (.tmp 1) 4) 0 (some (8, true)),
 mk (some 58) (.load 89 (.tmp 57)) 89 (some (8, true)),
 mk (some 59) (.call { callee := (.builtin .len), args := #[(.tmp 58)], argTypes := #[89] }) 3 (some (8, true)),
 mk (some 60) (.binOp .eql 3 (.tmp 59) (.const (.int .i64 0)) 3) 4 (some (8, true)),
 op1 61 (.pick (.tmp 56) (.tmp 60) (.const (.bool false))) 4,
 asn 2 61 4] fr st (.seq .ret k)) ∧
 (evK gS fi97 c97_55 fr st k = opsR gS fi97 [op1 64 (.fieldAddr 91 (.tmp 1) 2) 0,
 ld 65 88 64 88,
 cal 66 117 [(.tmp 65)] [88] 4,
 mv 67 66 4,
 mk (some 68) (.fieldAddr 91 (.tmp 1) 2) 0 (some (3, true)),
 mk (some 69) (.fieldAddr 88 (.tmp 68) 0) 0 (some (3, true)),
 mk (some 70) (.load 3 (.tmp 69)) 3 (some (3, true)),
 mk (some 71) (.binOp .eql 3 (.tmp 70) (.const (.int .i64 3)) 3) 4 (some (3, true)),
 op1 72 (.pick (.tmp 67) (.tmp 71) (.const (.bool false))) 4,
 mv 73 72 4,
 mk (some 74) (.fieldAddr 91 (.tmp 1) 3) 0 (some (9, true)),
 mk (some 75) (.load 88 (.tmp 74)) 88 (some (9, true)),
 mk (some 76) (.call { callee := (.value (.func 116)), args := #[(.tmp 75)], argTypes := #[88] }) 4 (some (9, true)),
 op1 77 (.pick (.tmp 73) (.tmp 76) (.const (.bool false))) 4,
 mv 78 77 4,
 mk (some 79) (.fieldAddr 91 (.tmp 1) 4) 0 (some (14, true)),
 mk (some 80) (.load 89 (.tmp 79)) 89 (some (14, true)),
 mk (some 81) (.call { callee := (.builtin .len), args := #[(.tmp 80)], argTypes := #[89] }) 3 (some (14, true)),
 mk (some 82) (.binOp .eql 3 (.tmp 81) (.const (.int .i64 0)) 3) 4 (some (14, true)),
 op1 83 (.pick (.tmp 78) (.tmp 82) (.const (.bool false))) 4,
 asn 2 83 4] fr st (.seq .ret k)) ∧
 (evK gS fi97 c97_61 fr st k = opsR gS fi97 [op1 86 (.fieldAddr 91 (.tmp 1) 2) 0,
 ld 87 88 86 88,
 cal 88 116 [(.tmp 87)] [88] 4,
 mv 89 88 4,
 mk (some 90) (.fieldAddr 91 (.tmp 1) 3) 0 (some (3, true)),
 mk (some 91) (.load 88 (.tmp 90)) 88 (some (3, true)),
 mk (some 92) (.call { callee := (.value (.func 116)), args := #[(.tmp 91)], argTypes := #[88] }) 4 (some (3, true)),
 op1 93 (.pick (.tmp 89) (.tmp 92) (.const (.bool false))) 4,
 mv 94 93 4,
 mk (some 95) (.fieldAddr 91 (.tmp 1) 4) 0 (some (8, true)),
 mk (some 96) (.load 89 (.tmp 95)) 89 (some (8, true)),
 mk (some 97) (.call { callee := (.builtin .len), args := #[(.tmp 96)], argTypes := #[89] }) 3 (some (8, true)),
 mk (some 98) (.binOp .geq 3 (.tmp 97) (.const (.int .i64 1)) 3) 4 (some (8, true)),
 op1 99 (.pick (.tmp 94) (.tmp 98) (.const (.bool false))) 4,
 mv 100 99 4,
 mk (some 101) (.fieldAddr 91 (.tmp 1) 4) 0 (some (14, true)),
 mk (some 102) (.load 89 (.tmp 101)) 89 (some (14, true)),
 mk (some 103) (.call { callee := (.builtin .len), args := #[(.tmp 102)], argTypes := #[89] }) 3 (some (14, true)),
 mk (some 104) (.binOp .leq 3 (.tmp 103) (.const (.int .i64 4)) 3) 4 (some (14, true)),
 op1 105 (.pick (.tmp 100) (.tmp 104) (.const (.bool false))) 4,
 mv 106 105 4,
 mk (some 107) (.fieldAddr 91 (.tmp 1) 4) 0 (some (20, true)),
 mk (some 108) (.load 89 (.tmp 107)) 89 (some (20, true)),
 mk (some 109) (.call { callee := (.value (.func 118)), args := #[(.tmp 108)], argTypes := #[89] }) 4 (some (20, true)),
 op1 110 (.pick (.tmp 106) (.tmp 109) (.const (.bool false))) 4,
 asn 2 110 4] fr st (.seq .ret k)) ∧
 evK gS fi97 c97_60 fr st k = condK gS fi97 (fr.op (.tmp 84)).bool? c97_61 .skip fr st k ∧
 (evK gS fi97 c97_58 fr st k = opsR gS fi97 [op1 85 (.binOp .eql 3 (.tmp 8) (.const (.int .i64 10)) 3) 4,
 asn 84 85 4] fr st (.seq c97_60 k)) ∧
 evK gS fi97 c97_54 fr st k = condK gS fi97 (fr.op (.tmp 62)).bool? c97_55 c97_58 fr st k ∧
 (evK gS fi97 c97_52 fr st k = opsR gS fi97 [op1 63 (.binOp .eql 3 (.tmp 8) (.const (.int .i64 9)) 3) 4,
 asn 62 63 4] fr st (.seq c97_54 k)) ∧
 evK gS fi97 c97_48 fr st k = condK gS fi97 (fr.op (.tmp 46)).bool? c97_49 c97_52 fr st k ∧
 (evK gS fi97 c97_46 fr st k = opsR gS fi97 [op1 47 (.binOp .eql 3 (.tmp 8) (.const (.int .i64 8)) 3) 4,
 asn 46 47 4] fr st (.seq c97_48 k)) ∧
 evK gS fi97 c97_42 fr st k = condK gS fi97 (fr.op (.tmp 25)).bool? c97_43 c97_46 fr st k ∧
 evK gS fi97 c97_20 fr st k = evK gS fi97 c97_21 fr st (.seq c97_42 k) ∧
 evK gS fi97 c97_16 fr st k = condK gS fi97 (fr.op (.tmp 9)).bool? c97_17 c97_20 fr st k ∧
 (evK gS fi97 c97_14 fr st k = opsR gS fi97 [op1 10 (.binOp .eql 3 (.tmp 8) (.const (.int .i64 1)) 3) 4,
 asn 9 10 4] fr st (.seq c97_16 k)) ∧
 evK gS fi97 c97_13 fr st k = evK gS fi97 c97_14 fr st (.blk 0 k) ∧
 (evK gS fi97 c97_11 fr st k = opsR gS fi97 [op1 7 (.fieldAddr 91 (.tmp 1) 1) 0,
 ld 8 3 7 3] fr st (.seq c97_13 k)) ∧
 evK gS fi97 c97_65 fr st k = opsR gS fi97 [op1 2 (.assign (.const (.bool false))) 4] fr st (.seq .ret k) ∧
 evK gS fi97 c97_10 fr st k = evK gS fi97 c97_11 fr st (.seq c97_65 k) ∧
 evK gS fi97 c97_2 fr st k = evK gS fi97 c97_3 fr st (.seq c97_10 k) ∧
 (evK gS fi97 c97_0 fr st k = opsR gS fi97 [op1 1 (.box 91 (.tmp 0)) 0,
 op1 2 (.assign (.const (.bool false))) 4] fr st (.seq c97_2 k)) := ⟨evK_rs 2 rfl (by kernel_rfl), rfl, evK_rs 1 rfl (by kernel_rfl), evK_rs 5 rfl (by kernel_rfl), evK_r 11 (by kernel_rfl), rfl, evK_rs 10 rfl (by kernel_rfl), rfl, evK_rs 9 rfl (by kernel_rfl), rfl, evK_rs 8 rfl (by kernel_rfl), rfl, evK_rs 7 rfl (by kernel_rfl), rfl, evK_rs 6 rfl (by kernel_rfl), evK_rs 12 rfl (by kernel_rfl), evK_rs 14 rfl (by kernel_rfl), evK_rs 16 rfl (by kernel_rfl), evK_rs 18 rfl (by kernel_rfl), rfl, evK_rs 17 rfl (by kernel_rfl), rfl, evK_rs 15 rfl (by kernel_rfl), rfl, evK_rs 13 rfl (by kernel_rfl), rfl, rfl, rfl, evK_rs 4 rfl (by kernel_rfl), rfl, evK_rs 3 rfl (by kernel_rfl), evK_rs 19 rfl (by kernel_rfl), rfl, rfl, evK_rs 0 rfl (by kernel_rfl)⟩
theorem m97 : mini fi97.body = c97_0 := by kernel_rfl
set_option maxHeartbeats 4000000 in
theorem c97 (p : Pred)  (h_p : Pred.ok p) (st : St) : EvF gS 97 [p.enc] st = some (.ret (.bool (pright p)) none, st) := by
  refine EvF_start fi19_eq (fun x h => by cases h) m97 ?_
  rw [st97]
  have hm : fi97.marks = [] := rfl
  have hl : fi97.locals = [1] := rfl
  have hr : fi97.results = [.tmp 2] := rfl
  simp (config := { contextual := true, maxSteps := 10000000, maxDischargeDepth := 6 }) [-Int.not_le, -Int.not_lt, -Nat.not_le, -Nat.not_lt, ty3, ty4, ty9, ty88, ty89, ty91, eq88, hm, hl, hr, k115, k116, k117, k118, E97, h_p.1, h_p.2]
  all_goals try simp (config := { contextual := true }) [-Int.not_le, -Int.not_lt, -Nat.not_le, -Nat.not_lt, pright]
  all_goals first | done | grind | omega | (trace_state; fail)
theorem k97 (p_name : List UInt8) (p_test : Int) (p_vk : Int) (p_vn : Int) (p_vx : Nat) (p_vs : List UInt8) (p_vb : Bool) (p_wk : Int) (p_wn : Int) (p_wx : Nat) (p_ws : List UInt8) (p_wb : Bool) (p_set : List Val)  (h_p : Pred.ok (⟨p_name, p_test, ⟨p_vk, p_vn, p_vx, p_vs, p_vb⟩, ⟨p_wk, p_wn, p_wx, p_ws, p_wb⟩, p_set⟩ : Pred)) (fr : Fr) (st : St) : callStep gS (EvF gS) 97 [.agg [.str p_name, .int .i64 p_test, .int .i64 p_vk, .int .i64 p_vn, .float .f64 p_vx, .str p_vs, .bool p_vb, .int .i64 p_wk, .int .i64 p_wn, .float .f64 p_wx, .str p_ws, .bool p_wb, .slice (encVals p_set)]] fr st = some (.ok (retE none (.bool (pright (⟨p_name, p_test, ⟨p_vk, p_vn, p_vx, p_vs, p_vb⟩, ⟨p_wk, p_wn, p_wx, p_ws, p_wb⟩, p_set⟩ : Pred)))) fr st) :=
  call_pure rfl fi19_eq rfl (fun st => c97 (⟨p_name, p_test, ⟨p_vk, p_vn, p_vx, p_vs, p_vb⟩, ⟨p_wk, p_wn, p_wx, p_ws, p_wb⟩, p_set⟩ : Pred) h_p st) (by simp)
theorem x97 : gS.ext 97 = none := rfl
theorem p97 : fi97.pure = true := rfl
end
end Go.Proofs.Ytdoobejjedpcgaa
namespace Go.Proofs.Ytdoobejjedpcgaa
open Go Go.Ab
set_option linter.unusedVariables false
set_option linter.unusedSimpArgs false
set_option linter.unnecessarySimpa false
set_option maxRecDepth 20000
noncomputable section
variable (fr : Fr) (st : St) (k : Kt)
def fi80 : FI := { body := codeOf Try.f80, ntmps := 62, results := [.tmp 4], pers := [0, 1, 2, 3, 4, 5, 45, 46], locals := [2, 3], pure := true, marks := [] }
theorem fi25_eq : gS.fn 80 = some fi80 := by kernel_rfl
theorem st80 (a0 a1 : V) : startFr fi80 [a0, a1] = { ps := [(0, .val a0), (1, .val a1), (2, .any), (3, .any), (4, .any), (5, .any), (45, .any), (46, .any)], ts := [], lc := [] } := rfl
def b80 : Code := mini (codeOf Try.f80)
def c80_6 : Code := .seq (codeN b80 37) .ret
def c80_5 : Code := .cond (.tmp 42) c80_6 .skip
def c80_3 : Code := .seq (codeN b80 9) c80_5
def r80_26 : Array Oper := regOps (codeN (codeOf Try.f80) 5323)
def c80_26 : Code := .region 6 r80_26 true
def q80_26 : List (Oper × Fl) := [(op1 49 (.fieldAddr 91 (.tmp 2) 4) 0, ⟨true, false, true, false, false, false, true, true, false, false, []⟩),
 (ld 50 89 49 89, ⟨true, false, true, false, false, false, true, true, false, false, []⟩),
 (mv 51 5 3, ⟨true, false, true, false, false, false, true, true, false, false, []⟩),
 (ixa 52 89 50 51 0, ⟨true, false, true, false, false, false, true, true, false, false, []⟩),
 (ld 53 88 52 88, ⟨true, false, true, false, false, false, true, true, false, false, []⟩),
 (op1 54 (.fieldAddr 91 (.tmp 3) 4) 0, ⟨true, false, true, false, false, false, true, true, false, false, []⟩),
 (ld 55 89 54 89, ⟨true, false, true, false, false, false, true, true, false, false, []⟩),
 (mv 56 5 3, ⟨true, false, true, false, true, false, true, true, false, false, []⟩),
 (ixa 57 89 55 56 0, ⟨true, false, true, false, true, false, true, true, false, false, []⟩),
 (ld 58 88 57 88, ⟨true, false, true, false, true, false, true, true, false, false, []⟩),
 (cal 59 102 [(.tmp 53), (.tmp 58)] [88, 88] 4, ⟨true, true, true, false, true, true, true, true, false, false, []⟩),
 (op1 60 (.unOp .not 4 (.tmp 59)) 4, ⟨true, false, true, false, true, false, true, true, false, false, []⟩)]
def c80_28 : Code := .seq (codeN b80 19659) .ret
def c80_27 : Code := .cond (.tmp 60) c80_28 .skip
def c80_25 : Code := .seq c80_26 c80_27
def c80_23 : Code := .seq (codeN b80 2251) c80_25
def c80_32 : Code := codeN b80 971
def c80_21 : Code := .seq (.block 1 c80_23) c80_32
def c80_17 : Code := .seq (.cond (.tmp 47) .skip (.exit 0)) c80_21
def c80_15 : Code := .seq (codeN b80 139) c80_17
def c80_14 : Code := .loop c80_15
def c80_13 : Code := .block 0 c80_14
def c80_11 : Code := .seq (codeN b80 19) c80_13
def c80_33 : Code := .seq (codeN b80 23) .ret
def c80_10 : Code := .seq c80_11 c80_33
def c80_2 : Code := .seq c80_3 c80_10
def c80_0 : Code := .seq (codeN b80 2) c80_2
theorem E80 : evK gS fi80 c80_6 fr st k = opsR gS fi80 [op1 4 (.assign (.const (.bool false))) 4] fr st (.seq .ret k) ∧
 evK gS fi80 c80_5 fr st k = condK gS fi80 (fr.op (.tmp 42)).bool? c80_6 .skip fr st k ∧
 (evK gS fi80 c80_3 fr st k = opsR gS fi80 [op1 6 (.fieldAddr 91 (.tmp 2) 0) 0,
 ld 7 9 6 9,
 op1 8 (.fieldAddr 91 (.tmp 3) 0) 0,
 ld 9 9 8 9,
 bop 10 .neq 9 7 9 9 4,
 mv 11 10 4,
 mk (some 12) (.fieldAddr 91 (.tmp 2) 1) 0 (some (5, false)),
 mk (some 13) (.load 3 (.tmp 12)) 3 (some (5, false)),
 mk (some 14) (.fieldAddr 91 (.tmp 3) 1) 0 (some (5, false)),
 mk (some 15) (.load 3 (.tmp 14)) 3 (some (5, false)),
 mk (some 16) (.binOp .neq 3 (.tmp 13) (.tmp 15) 3) 4 (some (5, false)),
 op1 17 (.pick (.tmp 11) (.const (.bool true)) (.tmp 16)) 4,
 mv 18 17 4,
 mk (some 19) (.fieldAddr 91 (.tmp 2) 2) 0 (some (12, false)),
 mk (some 20) (.load 88 (.tmp 19)) 88 (some (12, false)),
 mk (some 21) (.fieldAddr 91 (.tmp 3) 2) 0 (some (12, false)),
 mk (some 22) (.load 88 (.tmp 21)) 88 (some (12, false)),
 mk (some 23) (.call { callee := (.value (.func 102)), args := #[(.tmp 20), (.tmp 22)], argTypes := #[88, 88] }) 4 (some (12, false)),
 mk (some 24) (.unOp .not 4 (.tmp 23)) 4 (some (12, false)),
 op1 25 (.pick (.tmp 18) (.const (.bool true)) (.tmp 24)) 4,
 mv 26 25 4,
 mk (some 27) (.fieldAddr 91 (.tmp 2) 3) 0 (some (20, false)),
 mk (some 28) (.load 88 (.tmp 27)) 88 (some (20, false)),
 mk (some 29) (.fieldAddr 91 (.tmp 3) 3) 0 (some (20, false)),
 mk (some 30) (.load 88 (.tmp 29)) 88 (some (20, false)),
 mk (some 31) (.call { callee := (.value (.func 102)), args := #[(.tmp 28), (.tmp 30)], argTypes := #[88, 88] }) 4 (some (20, false)),
 mk (some 32) (.unOp .not 4 (.tmp 31)) 4 (some (20, false)),
 op1 33 (.pick (.tmp 26) (.const (.bool true)) (.tmp 32)) 4,
 mv 34 33 4,
 mk (some 35) (.fieldAddr 91 (.tmp 2) 4) 0 (some (28, false)),
 mk (some 36) (.load 89 (.tmp 35)) 89 (some (28, false)),
 mk (some 37) (.call { callee := (.builtin .len), args := #[(.tmp 36)], argTypes := #[89] }) 3 (some (28, false)),
 mk (some 38) (.fieldAddr 91 (.tmp 3) 4) 0 (some (28, false)),
 mk (some 39) (.load 89 (.tmp 38)) 89 (some (28, false)),
 mk (some 40) (.call { callee := (.builtin .len), args := #[(.tmp 39)], argTypes := #[89] }) 3 (some (28, false)),
 mk (some 41) (.binOp .neq 3 (.tmp 37) (.tmp 40) 3) 4 (some (28, false)),
 op1 42 (.pick (.tmp 34) (.const (.bool true)) (.tmp 41)) 4] fr st (.seq c80_5 k)) ∧
 evK gS fi80 c80_26 fr st k = drwR gS fi80 r80_26 q80_26 fr st k ∧
 evK gS fi80 c80_28 fr st k = opsR gS fi80 [op1 4 (.assign (.const (.bool false))) 4] fr st (.seq .ret k) ∧
 evK gS fi80 c80_27 fr st k = condK gS fi80 (fr.op (.tmp 60)).bool? c80_28 .skip fr st k ∧
 evK gS fi80 c80_25 fr st k = evK gS fi80 c80_26 fr st (.seq c80_27 k) ∧
 (evK gS fi80 c80_23 fr st k = opsR gS fi80 [mv 48 46 3,
 asn 5 48 3] fr st (.seq c80_25 k)) ∧
 (evK gS fi80 c80_32 fr st k = opsR gS fi80 [op1 61 (.binOp .add 3 (.tmp 46) (.const (.int .i64 1)) 3) 3,
 mv 46 61 3] fr st k) ∧
 evK gS fi80 c80_21 fr st k = evK gS fi80 c80_23 fr st (.blk 1 (.seq c80_32 k)) ∧
 evK gS fi80 c80_17 fr st k = condK gS fi80 (fr.op (.tmp 47)).bool? .skip (.exit 0) fr st (.seq c80_21 k) ∧
 evK gS fi80 c80_15 fr st k = opsR gS fi80 [bop 47 .lss 3 46 45 3 0] fr st (.seq c80_17 k) ∧
 evK gS fi80 c80_13 fr st k = evK gS fi80 c80_14 fr st (.blk 0 k) ∧
 (evK gS fi80 c80_11 fr st k = opsR gS fi80 [op1 43 (.fieldAddr 91 (.tmp 2) 4) 0,
 ld 44 89 43 89,
 len1 45 44 89 3,
 op1 46 (.move (.const (.int .i64 0))) 3] fr st (.seq c80_13 k)) ∧
 evK gS fi80 c80_33 fr st k = opsR gS fi80 [op1 4 (.assign (.const (.bool true))) 4] fr st (.seq .ret k) ∧
 evK gS fi80 c80_10 fr st k = evK gS fi80 c80_11 fr st (.seq c80_33 k) ∧
 evK gS fi80 c80_2 fr st k = evK gS fi80 c80_3 fr st (.seq c80_10 k) ∧
 (evK gS fi80 c80_0 fr st k = opsR gS fi80 [op1 2 (.box 91 (.tmp 0)) 0,
 op1 3 (.box 91 (.tmp 1)) 0,
 op1 4 (.assign (.const (.bool false))) 4] fr st (.seq c80_2 k)) := ⟨evK_rs 2 rfl (by kernel_rfl), rfl, evK_rs 1 rfl (by kernel_rfl), evK_dr 6 rfl (by kernel_rfl) (by kernel_rfl), evK_rs 7 rfl (by kernel_rfl), rfl, rfl, evK_rs 5 rfl (by kernel_rfl), evK_r 8 (by kernel_rfl), rfl, rfl, evK_rs 4 rfl (by kernel_rfl), rfl, evK_rs 3 rfl (by kernel_rfl), evK_rs 9 rfl (by kernel_rfl), rfl, rfl, evK_rs 0 rfl (by kernel_rfl)⟩
theorem m80 : mini fi80.body = c80_0 := by kernel_rfl
theorem n80_14 (fr : Fr) (st : St) (k : Kt) : nextK gS fi80 (.loop c80_15 k) .normal fr st = evK gS fi80 c80_14 fr st k := rfl
set_option maxHeartbeats 4000000 in
theorem L80_14 (a : Pred) (b : Pred) (h_a : a.ok) (st : St) : ∀ (n i : Nat) (j : Int) (m : Int) (e0 e1 e4 e5 : E) (T : List (Nat × E)) (X : List (Nat × List V)) (ht0 : e0.Tame) (ht1 : e1.Tame) (ht4 : e4.Tame) (ht5 : e5.Tame) (hx2 : lk X 2 = some [.str a.name, .int .i64 a.test, .int .i64 a.v.kind, .int .i64 a.v.n, .float .f64 a.v.x, .str a.v.s, .bool a.v.b, .int .i64 a.w.kind, .int .i64 a.w.n, .float .f64 a.w.x, .str a.w.s, .bool a.w.b, .slice (encVals a.set)]) (hx3 : lk X 3 = some [.str b.name, .int .i64 b.test, .int .i64 b.v.kind, .int .i64 b.v.n, .float .f64 b.v.x, .str b.v.s, .bool b.v.b, .int .i64 b.w.kind, .int .i64 b.w.n, .float .f64 b.w.x, .str b.w.s, .bool b.w.b, .slice (encVals b.set)]) (hlen : a.set.length = b.set.length) (hm45 : m = ((a.set.length : Nat) : Int)), j = (i : Int) → i ≤ (a.set).length → (a.set).length - i = n →
    evK gS fi80 c80_14 { ps := [(0, e0), (1, e1), (2, .lp 2 0), (3, .lp 3 0), (4, e4), (5, e5), (45, .val (.int .i64 m)), (46, .val (.int .i64 j))], ts := T, lc := X } st (.blk 0 (.seq c80_33 .nil)) = some ((.ret (.bool (sames (a.set.drop i) (b.set.drop i))) none), st) := by
  intro n
  have hm : fi80.marks = [] := rfl
  have hl : fi80.locals = [2, 3] := rfl
  have hr : fi80.results = [.tmp 4] := rfl
  have hao := h_a.2
  induction n with
  | zero =>
    intro i j m e0 e1 e4 e5 T X ht0 ht1 ht4 ht5 hx2 hx3 hlen hm45 hj hi hn
    obtain rfl : i = (a.set).length := by omega
    subst hj
    subst hm45
    have hz : b.set.drop a.set.length = [] := List.drop_eq_nil_of_le (by omega)
    refine evK_loop c80_15 _ st _ _ rfl ?_
    simp (config := { contextual := true, maxSteps := 10000000, maxDischargeDepth := 6 }) [-Int.not_le, -Int.not_lt, -Nat.not_le, -Nat.not_lt, ty3, ty4, ty9, ty88, ty89, ty91, eq88, hm, hl, hr, k102, x102, fi81_eq, p102, E80, q80_26, n80_14, ht0, ht1, ht4, ht5, hx2, hx3, hz]
    all_goals try simp (config := { contextual := true }) [-Int.not_le, -Int.not_lt, -Nat.not_le, -Nat.not_lt, sames]
    all_goals first | done | grind | omega | (trace_state; fail)
  | succ n ih =>
    intro i j m e0 e1 e4 e5 T X ht0 ht1 ht4 ht5 hx2 hx3 hlen hm45 hj hi hn
    subst hj
    obtain ⟨x, hx⟩ : ∃ x, (a.set)[i]? = some x := ⟨(a.set)[i]'(by omega), List.getElem?_eq_getElem (by omega)⟩
    have hd := drop_get hx
    have hlt : (i : Int) < ((a.set).length : Int) := by omega
    have hlt2 : i < (a.set).length := by omega
    have hxe : (a.set)[i]'hlt2 = x := by rw [List.getElem?_eq_getElem hlt2] at hx; exact Option.some.inj hx
    have hw : IntKind.wrap .i64 ((i : Int) + 1) = (i : Int) + 1 := wrap64 (by omega) (by omega)
    subst hm45
    obtain ⟨y, hy⟩ : ∃ y, (b.set)[i]? = some y := ⟨(b.set)[i]'(by omega), List.getElem?_eq_getElem (by omega)⟩
    have hyd := drop_get hy
    have hyl : i < (b.set).length := by omega
    have hye : (b.set)[i]'hyl = y := by rw [List.getElem?_eq_getElem hyl] at hy; exact Option.some.inj hy
    have IH := fun m e0 e1 e4 e5 T X ht0 ht1 ht4 ht5 hx2 hx3 hlen hm45 => ih (i + 1) ((i : Int) + 1) m e0 e1 e4 e5 T X ht0 ht1 ht4 ht5 hx2 hx3 hlen hm45 rfl (by omega) (by omega)
    refine evK_loop c80_15 _ st _ _ rfl ?_
    simp (config := { contextual := true, maxSteps := 10000000, maxDischargeDepth := 6 }) [-Int.not_le, -Int.not_lt, -Nat.not_le, -Nat.not_lt, ty3, ty4, ty9, ty88, ty89, ty91, eq88, hm, hl, hr, k102, x102, fi81_eq, p102, E80, q80_26, n80_14, ht0, ht1, ht4, ht5, hx2, hx3, hx, hxe, hd, hlt, hlt2, hw, IH, hy, hye, hyd, hlen]
    all_goals try simp (config := { contextual := true }) [-Int.not_le, -Int.not_lt, -Nat.not_le, -Nat.not_lt, sames]
    all_goals first | done | grind | omega | (trace_state; fail)
set_option maxHeartbeats 4000000 in
theorem c80 (a : Pred) (b : Pred)  (h_a : Pred.ok a) (h_b : Pred.ok b) (st : St) : EvF gS 80 [a.enc, b.enc] st = some (.ret (.bool (psame a b)) none, st) := by
  refine EvF_start fi25_eq (fun x h => by cases h) m80 ?_
  rw [st80]
  have hm : fi80.marks = [] := rfl
  have hl : fi80.locals = [2, 3] := rfl
  have hr : fi80.results = [.tmp 4] := rfl
  simp (config := { contextual := true, maxSteps := 10000000, maxDischargeDepth := 6 }) [-Int.not_le, -Int.not_lt, -Nat.not_le, -Nat.not_lt, ty3, ty4, ty9, ty88, ty89, ty91, eq88, hm, hl, hr, k102, x102, fi81_eq, p102, E80, q80_26, n80_14, (fun m e0 e1 e4 e5 T X ht0 ht1 ht4 ht5 hx2 hx3 hlen hm45 => L80_14 a b h_a st _ 0 0  m e0 e1 e4 e5 T X ht0 ht1 ht4 ht5 hx2 hx3 hlen hm45 rfl (Nat.zero_le _) rfl), h_a.1, h_a.2, h_b.1, h_b.2]
  all_goals try simp (config := { contextual := true }) [-Int.not_le, -Int.not_lt, -Nat.not_le, -Nat.not_lt, psame, sames_ne]
  all_goals first | done | grind | omega | (trace_state; fail)
theorem k80 (a_name : List UInt8) (a_test : Int) (a_vk : Int) (a_vn : Int) (a_vx : Nat) (a_vs : List UInt8) (a_vb : Bool) (a_wk : Int) (a_wn : Int) (a_wx : Nat) (a_ws : List UInt8) (a_wb : Bool) (a_set : List Val) (b_name : List UInt8) (b_test : Int) (b_vk : Int) (b_vn : Int) (b_vx : Nat) (b_vs : List UInt8) (b_vb : Bool) (b_wk : Int) (b_wn : Int) (b_wx : Nat) (b_ws : List UInt8) (b_wb : Bool) (b_set : List Val)  (h_a : Pred.ok (⟨a_name, a_test, ⟨a_vk, a_vn, a_vx, a_vs, a_vb⟩, ⟨a_wk, a_wn, a_wx, a_ws, a_wb⟩, a_set⟩ : Pred)) (h_b : Pred.ok (⟨b_name, b_test, ⟨b_vk, b_vn, b_vx, b_vs, b_vb⟩, ⟨b_wk, b_wn, b_wx, b_ws, b_wb⟩, b_set⟩ : Pred)) (fr : Fr) (st : St) : callStep gS (EvF gS) 80 [.agg [.str a_name, .int .i64 a_test, .int .i64 a_vk, .int .i64 a_vn, .float .f64 a_vx, .str a_vs, .bool a_vb, .int .i64 a_wk, .int .i64 a_wn, .float .f64 a_wx, .str a_ws, .bool a_wb, .slice (encVals a_set)], .agg [.str b_name, .int .i64 b_test, .int .i64 b_vk, .int .i64 b_vn, .float .f64 b_vx, .str b_vs, .bool b_vb, .int .i64 b_wk, .int .i64 b_wn, .float .f64 b_wx, .str b_ws, .bool b_wb, .slice (encVals b_set)]] fr st = some (.ok (retE none (.bool (psame (⟨a_name, a_test, ⟨a_vk, a_vn, a_vx, a_vs, a_vb⟩, ⟨a_wk, a_wn, a_wx, a_ws, a_wb⟩, a_set⟩ : Pred) (⟨b_name, b_test, ⟨b_vk, b_vn, b_vx, b_vs, b_vb⟩, ⟨b_wk, b_wn, b_wx, b_ws, b_wb⟩, b_set⟩ : Pred)))) fr st) :=
  call_pure rfl fi25_eq rfl (fun st => c80 (⟨a_name, a_test, ⟨a_vk, a_vn, a_vx, a_vs, a_vb⟩, ⟨a_wk, a_wn, a_wx, a_ws, a_wb⟩, a_set⟩ : Pred) (⟨b_name, b_test, ⟨b_vk, b_vn, b_vx, b_vs, b_vb⟩, ⟨b_wk, b_wn, b_wx, b_ws, b_wb⟩, b_set⟩ : Pred) h_a h_b st) (by simp)
theorem x80 : gS.ext 80 = none := rfl
theorem p80 : fi80.pure = true := rfl
end
end Go.Proofs.Ytdoobejjedpcgaa
namespace Go.Ab
open Go
set_option linter.unusedVariables false
set_option linter.unusedSimpArgs false
set_option linter.unnecessarySimpa false
def intVs (l : List Int) : List V := l.map (V.int .i64)
theorem intVs_length (l : List Int) : (intVs l).length = l.length := by simp [intVs]
theorem intVs_get (l : List Int) (i : Nat) : (intVs l)[i]? = (l[i]?).map (V.int .i64) := by simp [intVs]
theorem intVs_gE (l : List Int) (i : Nat) (h : i < (intVs l).length) : (intVs l)[i]'h = .int .i64 (l[i]'(by rw [intVs_length] at h; exact h)) := by simp [intVs]
theorem flats_ints (l : List Int) : flats (intVs l) = true := by
  induction l with
  | nil => rfl
  | cons x r ih => simp only [intVs, List.map_cons, flats, V.flat] at ih ⊢; exact ih
attribute [simp] intVs_length intVs_get intVs_gE flats_ints
def pickI (n m : Int) : Int := if m < 1 then 0 else if n.tmod m < 0 then n.tmod m + m else n.tmod m
theorem tmod_bound (n : Int) {m : Int} (h : 1 ≤ m) : -m < n.tmod m ∧ n.tmod m < m := by
  have b1 := Int.tmod_lt_of_pos n (by omega : 0 < m)
  refine ⟨?_, b1⟩
  rcases Int.lt_or_le n 0 with hk | hk
  · have : n.tmod m = -((-n).tmod m) := by rw [Int.neg_tmod]; omega
    have := Int.tmod_lt_of_pos (-n) (by omega : 0 < m)
    omega
  · have := Int.tmod_nonneg m hk; omega
theorem pickI_bound (n : Int) {m : Int} (h : 1 ≤ m) : 0 ≤ pickI n m ∧ pickI n m < m := by
  have := tmod_bound n h
  unfold pickI
  rw [if_neg (by omega)]
  split <;> omega
/-- The feed's memory. -/
def FeedAt (st : St) (id : Nat) (l : List Int) (a : Nat) : Prop := st.objs[id]? = some [.slice (intVs l), .int .i64 a] ∧ st.wp ≤ id
def setF (st : St) (id : Nat) (l : List Int) (a : Nat) : St := { st with objs := st.objs.set id [.slice (intVs l), .int .i64 a] }
theorem FeedAt.lt {st : St} {id : Nat} {l : List Int} {a : Nat} (h : FeedAt st id l a) : id < st.objs.length := (List.getElem?_eq_some_iff.1 h.1).1
theorem setF_setF (st : St) (id : Nat) (l : List Int) (a b : Nat) : setF (setF st id l a) id l b = setF st id l b := by
  unfold setF; simp
theorem setF_same {st : St} {id : Nat} {l : List Int} {a : Nat} (h : FeedAt st id l a) : setF st id l a = st := by
  unfold setF
  obtain ⟨os, wp⟩ := st
  have h1 : os[id]? = some [.slice (intVs l), .int .i64 a] := h.1
  have h2 : id < os.length := h.lt
  congr 1
  show os.set id _ = os
  apply List.ext_getElem?
  intro j
  rw [List.getElem?_set]
  split
  · rename_i hj; subst hj; rw [h1]
  · rfl
/-- The raw number at a place. -/
def rawAt (l : List Int) (a : Nat) : Int := IntKind.wrap .i64 (IntKind.wrap .i64 ((l.getD (a % l.length) 0).tdiv (1 + (a / l.length : Nat))) + (a / l.length : Nat))
def nextV (l : List Int) (a : Nat) (n : Int) : Int := if l = [] then 0 else pickI (rawAt l a) n
def nextA (l : List Int) (a : Nat) : Nat := if l = [] then a else a + 1
theorem nextV_bound (l : List Int) (a : Nat) {n : Int} (h : 1 ≤ n) : 0 ≤ nextV l a n ∧ nextV l a n < n := by
  unfold nextV; split
  · omega
  · exact pickI_bound _ h
/-- Where a feed stands when it was asked `j` times. -/
def nA (l : List Int) (a j : Nat) : Nat := if l = [] then a else a + j
theorem nA_next (l : List Int) (a j : Nat) : nextA l (nA l a j) = nA l a (j + 1) := by
  unfold nextA nA; split <;> omega
theorem nA_le (l : List Int) (a j : Nat) : nA l a j ≤ a + j := by unfold nA; split <;> omega
def FeedOk (st : St) (id : Nat) : Prop := id < st.objs.length ∧ st.wp ≤ id
theorem feed_at {st : St} {id : Nat} (h : FeedOk st id) (l : List Int) (b : Nat) : FeedAt (setF st id l b) id l b := by
  refine ⟨?_, h.2⟩
  show (st.objs.set id _)[id]? = _
  rw [List.getElem?_set_self h.1]
/-- What a feed yields that was asked `j` times. -/
def fd (l : List Int) (a j : Nat) (n : Int) : Int := nextV l (nA l a j) n
theorem fd_bound (l : List Int) (a j : Nat) {n : Int} (h : 1 ≤ n) : 0 ≤ fd l a j n ∧ fd l a j n < n := nextV_bound _ _ h
def F14 : List Nat := [0, 9223372036854775808, 4607182418800017408, 4609434218613702656, 4611686018427387904, 4613937818241073152, 13830554455654793216, 4591870180066957722, 9221120237041090561, 9218868437227405312, 18442240474082181120, 4845873199050653696, 4890909195324358656, 1]
def floatV (l : List Int) (a j : Nat) : Nat := F14.getD (fd l a j 14).toNat 0
def T6 : List (List UInt8) := [[], [97], [97, 98], [98], [98, 97], [116, 119, 101, 108, 118, 101, 32, 98, 121, 116, 101, 115]]
def N6 : List Int := [-9223372036854775808, 9223372036854775807, 9007199254740992, 9007199254740993, -1, 4611686018427387904]
/-- A right value: of two asks. -/
def valueV (l : List Int) (a j : Nat) : Val :=
  let z := fd l a j 8
  if z = 0 ∨ z = 1 then ⟨2, 0, floatV l a (j + 1), [], false⟩
  else if z = 2 then ⟨3, 0, 0, T6.getD (fd l a (j + 1) 6).toNat [], false⟩
  else if z = 3 then ⟨4, 0, 0, [], fd l a (j + 1) 2 = 1⟩
  else if z = 4 then ⟨1, N6.getD (fd l a (j + 1) 6).toNat 0, 0, [], false⟩
  else ⟨1, fd l a (j + 1) 5, 0, [], false⟩
/-- So many values, one behind the other. -/
def valsV (l : List Int) (a : Nat) : Nat → Nat → List Val
  | _, 0 => []
  | j, k + 1 => valueV l a j :: valsV l a (j + 2) k
def P4 : List (List UInt8) := [[], [97], [98], [97, 98]]
/-- A right test of a name, and how many asks it took. -/
def predV (l : List Int) (a j : Nat) (name : List UInt8) : Pred × Nat :=
  let t := 1 + fd l a j 10
  if t = 1 then (⟨name, 1, vzero, vzero, []⟩, 1)
  else if t = 9 then (⟨name, 9, ⟨3, 0, 0, P4.getD (fd l a (j + 1) 4).toNat [], false⟩, vzero, []⟩, 2)
  else if t = 10 then (⟨name, 10, vzero, vzero, valsV l a (j + 2) ((fd l a (j + 1) 4).toNat + 1)⟩, 2 + 2 * ((fd l a (j + 1) 4).toNat + 1))
  else if t = 8 then (⟨name, 8, valueV l a (j + 1), valueV l a (j + 3), []⟩, 5)
  else (⟨name, t, valueV l a (j + 1), vzero, []⟩, 3)
end Go.Ab
namespace Go.Proofs.Ytdoobejjedpcgaa
open Go Go.Ab
set_option linter.unusedVariables false
set_option linter.unusedSimpArgs false
set_option linter.unnecessarySimpa false
set_option maxRecDepth 20000
noncomputable section
variable (fr : Fr) (st : St) (k : Kt)
def fi29 : FI := { body := codeOf Try.f29, ntmps := 17, results := [.tmp 4], pers := [0, 1, 4, 5], locals := [], pure := true, marks := [] }
theorem fi52_eq : gS.fn 29 = some fi29 := by kernel_rfl
theorem st29 (a0 a1 : V) : startFr fi29 [a0, a1] = { ps := [(0, .val a0), (1, .val a1), (4, .any), (5, .any)], ts := [], lc := [] } := rfl
def b29 : Code := mini (codeOf Try.f29)
def c29_6 : Code := .seq (codeN b29 37) .ret
def c29_5 : Code := .cond (.tmp 7) c29_6 .skip
def c29_3 : Code := .seq (codeN b29 9) c29_5
def c29_16 : Code := codeN b29 87
def c29_15 : Code := .cond (.tmp 12) c29_16 .skip
def c29_13 : Code := .seq (codeN b29 39) c29_15
def c29_18 : Code := .seq (codeN b29 47) .ret
def c29_12 : Code := .seq c29_13 c29_18
def c29_10 : Code := .seq (codeN b29 11) c29_12
def c29_2 : Code := .seq c29_3 c29_10
def c29_0 : Code := .seq (codeN b29 2) c29_2
theorem E29 : evK gS fi29 c29_6 fr st k = opsR gS fi29 [op1 4 (.assign (.const (.int .i64 0))) 3] fr st (.seq .ret k) ∧
 evK gS fi29 c29_5 fr st k = condK gS fi29 (fr.op (.tmp 7)).bool? c29_6 .skip fr st k ∧
 (evK gS fi29 c29_3 fr st k = opsR gS fi29 [mv 6 1 3,
 op1 7 (.binOp .lss 3 (.tmp 6) (.const (.int .i64 1)) 3) 4] fr st (.seq c29_5 k)) ∧
 (evK gS fi29 c29_16 fr st k = opsR gS fi29 [mv 13 5 3,
 mv 14 1 3,
 bop 15 .add 3 13 14 3 3,
 asn 5 15 3] fr st k) ∧
 evK gS fi29 c29_15 fr st k = condK gS fi29 (fr.op (.tmp 12)).bool? c29_16 .skip fr st k ∧
 (evK gS fi29 c29_13 fr st k = opsR gS fi29 [mv 11 5 3,
 op1 12 (.binOp .lss 3 (.tmp 11) (.const (.int .i64 0)) 3) 4] fr st (.seq c29_15 k)) ∧
 (evK gS fi29 c29_18 fr st k = opsR gS fi29 [mv 16 5 3,
 asn 4 16 3] fr st (.seq .ret k)) ∧
 evK gS fi29 c29_12 fr st k = evK gS fi29 c29_13 fr st (.seq c29_18 k) ∧
 (evK gS fi29 c29_10 fr st k = opsR gS fi29 [mv 8 0 3,
 mv 9 1 3,
 bop 10 .rem 3 8 9 3 3,
 asn 5 10 3] fr st (.seq c29_12 k)) ∧
 evK gS fi29 c29_2 fr st k = evK gS fi29 c29_3 fr st (.seq c29_10 k) ∧
 evK gS fi29 c29_0 fr st k = opsR gS fi29 [op1 4 (.assign (.const (.int .i64 0))) 3] fr st (.seq c29_2 k) := ⟨evK_rs 2 rfl (by kernel_rfl), rfl, evK_rs 1 rfl (by kernel_rfl), evK_r 5 (by kernel_rfl), rfl, evK_rs 4 rfl (by kernel_rfl), evK_rs 6 rfl (by kernel_rfl), rfl, evK_rs 3 rfl (by kernel_rfl), rfl, evK_rs 0 rfl (by kernel_rfl)⟩
theorem m29 : mini fi29.body = c29_0 := by kernel_rfl
set_option maxHeartbeats 4000000 in
theorem c29 (n : Int) (m : Int) (hm1 : m ≤ 4611686018427387904) (st : St) : EvF gS 29 [.int .i64 n, .int .i64 m] st = some (.ret (.int .i64 (pickI n m)) none, st) := by
  refine EvF_start fi52_eq (fun x h => by cases h) m29 ?_
  rw [st29]
  have hm : fi29.marks = [] := rfl
  have hl : fi29.locals = [] := rfl
  have hr : fi29.results = [.tmp 4] := rfl
  by_cases h1 : m < 1
  · simp [h1, pickI, -Int.not_le, -Int.not_lt, -Nat.not_le, -Nat.not_lt, ty3, ty4, hm, hl, hr, E29]
  · have h0 : ¬ m = 0 := by omega
    have hb := tmod_bound n (m := m) (by omega)
    by_cases h2 : n.tmod m < 0
    · have hw : IntKind.wrap .i64 (n.tmod m + m) = n.tmod m + m := wrap64 (by omega) (by omega)
      simp [h1, h0, h2, hw, pickI, -Int.not_le, -Int.not_lt, -Nat.not_le, -Nat.not_lt, ty3, ty4, hm, hl, hr, E29]
    · simp [h1, h0, h2, pickI, -Int.not_le, -Int.not_lt, -Nat.not_le, -Nat.not_lt, ty3, ty4, hm, hl, hr, E29]
theorem k29 (n : Int) (m : Int) (hm1 : m ≤ 4611686018427387904) (fr : Fr) (st : St) : callStep gS (EvF gS) 29 [.int .i64 n, .int .i64 m] fr st = some (.ok (retE none (.int .i64 (pickI n m))) fr st) :=
  call_pure rfl fi52_eq rfl (fun st => c29 n m hm1 st) (by simp)
theorem x29 : gS.ext 29 = none := rfl
theorem p29 : fi29.pure = true := rfl
def fi11 : FI := { body := codeOf Try.f11, ntmps := 61, results := [.tmp 4], pers := [0, 1, 4, 5], locals := [], pure := false, marks := [] }
theorem fi16_eq : gS.fn 11 = some fi11 := by kernel_rfl
theorem st11 (a0 a1 : V) : startFr fi11 [a0, a1] = { ps := [(0, .val a0), (1, .val a1), (4, .any), (5, .any)], ts := [], lc := [] } := rfl
def b11 : Code := mini (codeOf Try.f11)
def c11_6 : Code := .seq (codeN b11 37) .ret
def c11_5 : Code := .cond (.tmp 11) c11_6 .skip
def c11_3 : Code := .seq (codeN b11 9) c11_5
def r11_11 : Array Oper := regOps (codeN (codeOf Try.f11) 11)
def c11_11 : Code := .region 3 r11_11 true
def q11_11 : List (Oper × Fl) := [(mv 12 0 23, ⟨true, false, true, false, false, false, true, true, false, false, []⟩),
 (op1 13 (.nilCheck (.tmp 12)) 0, ⟨true, false, true, false, false, false, true, true, false, false, []⟩),
 (op1 14 (.fieldAddr 25 (.tmp 13) 0) 0, ⟨true, false, true, false, false, false, true, true, false, false, []⟩),
 (ld 15 22 14 22, ⟨true, false, true, false, false, false, true, true, false, false, []⟩),
 (mv 16 0 23, ⟨true, false, true, false, false, false, true, true, false, false, []⟩),
 (op1 17 (.nilCheck (.tmp 16)) 0, ⟨true, false, true, false, false, false, true, true, false, false, []⟩),
 (op1 18 (.fieldAddr 25 (.tmp 17) 1) 0, ⟨true, false, true, false, false, false, true, true, false, false, []⟩),
 (ld 19 3 18 3, ⟨true, false, true, false, false, false, true, true, false, false, []⟩),
 (mv 20 0 23, ⟨true, false, true, false, false, false, true, true, false, false, []⟩),
 (op1 21 (.nilCheck (.tmp 20)) 0, ⟨true, false, true, false, false, false, true, true, false, false, []⟩),
 (op1 22 (.fieldAddr 25 (.tmp 21) 0) 0, ⟨true, false, true, false, false, false, true, true, false, false, []⟩),
 (ld 23 22 22 22, ⟨true, false, true, false, false, false, true, true, false, false, []⟩),
 (len1 24 23 22 3, ⟨true, false, true, false, false, false, true, true, false, false, []⟩),
 (bop 25 .rem 3 19 24 3 3, ⟨true, false, true, false, false, false, true, true, false, false, []⟩),
 (ixa 26 22 15 25 0, ⟨true, false, true, false, false, false, true, true, false, false, []⟩),
 (ld 27 3 26 3, ⟨true, false, true, false, false, false, true, true, false, false, []⟩),
 (mv 28 0 23, ⟨true, false, true, false, false, false, true, true, false, false, []⟩),
 (op1 29 (.nilCheck (.tmp 28)) 0, ⟨true, false, true, false, false, false, true, true, false, false, []⟩),
 (op1 30 (.fieldAddr 25 (.tmp 29) 1) 0, ⟨true, false, true, false, false, false, true, true, false, false, []⟩),
 (ld 31 3 30 3, ⟨true, false, true, false, false, false, true, true, false, false, []⟩),
 (mv 32 0 23, ⟨true, false, true, false, false, false, true, true, false, false, []⟩),
 (op1 33 (.nilCheck (.tmp 32)) 0, ⟨true, false, true, false, false, false, true, true, false, false, []⟩),
 (op1 34 (.fieldAddr 25 (.tmp 33) 0) 0, ⟨true, false, true, false, false, false, true, true, false, false, []⟩),
 (ld 35 22 34 22, ⟨true, false, true, false, false, false, true, true, false, false, []⟩),
 (len1 36 35 22 3, ⟨true, false, true, false, false, false, true, true, false, false, []⟩),
 (bop 37 .quo 3 31 36 3 3, ⟨true, false, true, false, false, false, true, true, false, false, []⟩),
 (op1 38 (.binOp .add 3 (.const (.int .i64 1)) (.tmp 37) 3) 3, ⟨true, false, true, false, false, false, true, true, false, false, []⟩),
 (bop 39 .quo 3 27 38 3 3, ⟨true, false, true, false, false, false, true, true, false, false, []⟩),
 (mv 40 0 23, ⟨true, false, true, false, false, false, true, true, false, false, []⟩),
 (op1 41 (.nilCheck (.tmp 40)) 0, ⟨true, false, true, false, false, false, true, true, false, false, []⟩),
 (op1 42 (.fieldAddr 25 (.tmp 41) 1) 0, ⟨true, false, true, false, false, false, true, true, false, false, []⟩),
 (ld 43 3 42 3, ⟨true, false, true, false, false, false, true, true, false, false, []⟩),
 (mv 44 0 23, ⟨true, false, true, false, false, false, true, true, false, false, []⟩),
 (op1 45 (.nilCheck (.tmp 44)) 0, ⟨true, false, true, false, false, false, true, true, false, false, []⟩),
 (op1 46 (.fieldAddr 25 (.tmp 45) 0) 0, ⟨true, false, true, false, true, false, true, true, false, false, []⟩),
 (ld 47 22 46 22, ⟨true, false, true, false, true, false, true, true, false, false, []⟩),
 (len1 48 47 22 3, ⟨true, false, true, false, true, false, true, true, false, false, []⟩),
 (bop 49 .quo 3 43 48 3 3, ⟨true, false, true, false, true, false, true, true, false, false, []⟩),
 (bop 50 .add 3 39 49 3 3, ⟨true, false, true, false, true, false, true, true, false, false, []⟩),
 (asn 5 50 3, ⟨true, true, true, false, true, false, true, true, false, false, []⟩)]
def c11_14 : Code := .seq (codeN b11 47) .ret
def c11_12 : Code := .seq (codeN b11 23) c11_14
def c11_10 : Code := .seq c11_11 c11_12
def c11_2 : Code := .seq c11_3 c11_10
def c11_0 : Code := .seq (codeN b11 2) c11_2
theorem E11 : evK gS fi11 c11_6 fr st k = opsR gS fi11 [op1 4 (.assign (.const (.int .i64 0))) 3] fr st (.seq .ret k) ∧
 evK gS fi11 c11_5 fr st k = condK gS fi11 (fr.op (.tmp 11)).bool? c11_6 .skip fr st k ∧
 (evK gS fi11 c11_3 fr st k = opsR gS fi11 [mv 6 0 23,
 op1 7 (.nilCheck (.tmp 6)) 0,
 op1 8 (.fieldAddr 25 (.tmp 7) 0) 0,
 ld 9 22 8 22,
 len1 10 9 22 3,
 op1 11 (.binOp .eql 3 (.tmp 10) (.const (.int .i64 0)) 3) 4] fr st (.seq c11_5 k)) ∧
 evK gS fi11 c11_11 fr st k = drwR gS fi11 r11_11 q11_11 fr st k ∧
 (evK gS fi11 c11_14 fr st k = opsR gS fi11 [mv 58 5 3,
 mv 59 1 3,
 cal 60 29 [(.tmp 58), (.tmp 59)] [3, 3] 3,
 asn 4 60 3] fr st (.seq .ret k)) ∧
 (evK gS fi11 c11_12 fr st k = opsR gS fi11 [mv 51 0 23,
 op1 52 (.nilCheck (.tmp 51)) 0,
 op1 53 (.fieldAddr 25 (.tmp 52) 1) 0,
 ld 54 3 53 3,
 op1 55 (.binOp .add 3 (.tmp 54) (.const (.int .i64 1)) 3) 3,
 op1 56 (.nilCheck (.tmp 51)) 0,
 op1 57 (.fieldAddr 25 (.tmp 56) 1) 0,
 sto 3 57 55] fr st (.seq c11_14 k)) ∧
 evK gS fi11 c11_10 fr st k = evK gS fi11 c11_11 fr st (.seq c11_12 k) ∧
 evK gS fi11 c11_2 fr st k = evK gS fi11 c11_3 fr st (.seq c11_10 k) ∧
 evK gS fi11 c11_0 fr st k = opsR gS fi11 [op1 4 (.assign (.const (.int .i64 0))) 3] fr st (.seq c11_2 k) := ⟨evK_rs 2 rfl (by kernel_rfl), rfl, evK_rs 1 rfl (by kernel_rfl), evK_dr 3 rfl (by kernel_rfl) (by kernel_rfl), evK_rs 5 rfl (by kernel_rfl), evK_rs 4 rfl (by kernel_rfl), rfl, rfl, evK_rs 0 rfl (by kernel_rfl)⟩
theorem m11 : mini fi11.body = c11_0 := by kernel_rfl
set_option maxHeartbeats 8000000 in
theorem c11 (l : List Int) (a id : Nat) (n : Int) (st : St) (h : FeedAt st id l a) (ha : a < 1099511627776) (hn : n ≤ 4611686018427387904) :
    EvF gS 11 [.ptr id 0, .int .i64 n] st = some (.ret (.int .i64 (nextV l a n)) none, setF st id l (nextA l a)) := by
  refine EvF_start fi16_eq (fun x h => by cases h) m11 ?_
  rw [st11]
  have hm : fi11.marks = [] := rfl
  have hl : fi11.locals = [] := rfl
  have hr : fi11.results = [.tmp 4] := rfl
  have ho := h.1
  have hwp : ¬ id < st.wp := by have := h.2; omega
  have hwp2 : st.wp ≤ id := h.2
  have hid := h.lt
  by_cases hne : l = []
  · subst hne
    have hs : setF st id [] a = st := setF_same h
    simp [nextV, nextA, hs, ho, -Int.not_le, -Int.not_lt, -Nat.not_le, -Nat.not_lt, ty3, ty4, ty22, ty23, ty25, hm, hl, hr, k29, x29, fi52_eq, p29, E11, q11_11]
  · have hlen : 0 < l.length := by cases l with | nil => exact (hne rfl).elim | cons _ _ => simp
    have e0 : ¬ (l.length : Int) = 0 := by omega
    have e1 : ((a : Nat) : Int).tmod (l.length : Int) = ((a % l.length : Nat) : Int) := by rw [Int.tmod_eq_emod_of_nonneg (by omega)]; omega
    have e2 : ((a : Nat) : Int).tdiv (l.length : Int) = ((a / l.length : Nat) : Int) := by rw [Int.tdiv_eq_ediv_of_nonneg (by omega)]; omega
    have e3 := Nat.mod_lt a hlen
    have e4 : a / l.length ≤ a := Nat.div_le_self _ _
    have hx : l[a % l.length]? = some (l.getD (a % l.length) 0) := by
      rw [List.getElem?_eq_getElem e3, List.getD_eq_getElem?_getD, List.getElem?_eq_getElem e3]; rfl
    have ea : IntKind.wrap .i64 ((a : Int) + 1) = (a : Int) + 1 := wrap64 (by omega) (by omega)
    have hxe : l[a % l.length]'e3 = l.getD (a % l.length) 0 := by rw [List.getElem?_eq_getElem e3] at hx; exact Option.some.inj hx
    simp only [nextV, nextA, hne, if_false, rawAt]
    generalize l.getD (a % l.length) 0 = x at *
    generalize a % l.length = rr at *
    generalize a / l.length = qq at *
    have e5 : IntKind.wrap .i64 (qq : Int) = (qq : Int) := wrap64 (by omega) (by omega)
    have e6 : IntKind.wrap .i64 (1 + (qq : Int)) = 1 + (qq : Int) := wrap64 (by omega) (by omega)
    have e7 : ¬ (1 + (qq : Int)) = 0 := by omega
    simp [-Int.natCast_emod, -Int.natCast_ediv, setF, ho, hne, e0, e1, e2, e3, e5, e6, e7, hx, hxe, ea, hn, hwp, hwp2, -Int.not_le, -Int.not_lt, -Nat.not_le, -Nat.not_lt, ty3, ty4, ty22, ty23, ty25, hm, hl, hr, k29, x29, fi52_eq, p29, E11, q11_11]
theorem k11 (l : List Int) (a j id : Nat) (n : Int) (fr : Fr) (st : St) (h : FeedOk st id) (ha : a < 549755813888) (hj : j < 549755813888) (hn : n ≤ 4611686018427387904) :
    callStep gS (EvF gS) 11 [.ptr id 0, .int .i64 n] fr (setF st id l (nA l a j)) = some (.ok (.val (.int .i64 (fd l a j n))) (fr.map E.noMem) (setF st id l (nA l a (j + 1)))) := by
  have hc := c11 l (nA l a j) id n (setF st id l (nA l a j)) (feed_at h l _) (by have := nA_le l a j; omega) hn
  rw [setF_setF, nA_next] at hc
  unfold callStep
  simp only [show gS.ext 11 = none from rfl, fi16_eq, show fi11.pure = false from rfl, Bool.false_eq_true, if_false, hc, retE]
  rfl
end
end Go.Proofs.Ytdoobejjedpcgaa
namespace Go.Proofs.Ytdoobejjedpcgaa
open Go Go.Ab
set_option linter.unusedVariables false
set_option linter.unusedSimpArgs false
set_option linter.unnecessarySimpa false
set_option maxRecDepth 20000
noncomputable section
variable (fr : Fr) (st : St) (k : Kt)
theorem kCopy (fr : Fr) (st : St) : callStep gS (EvF gS) 104 [.float .f64 0, .float .f64 13830554455654793216] fr st = some (.ok (.val (.float .f64 9223372036854775808)) fr st) := by
  have hc : EvF gS 104 [.float .f64 0, .float .f64 13830554455654793216] ⟨[], 0⟩ = some (.ret (.float .f64 9223372036854775808) none, ⟨[], 0⟩) := Evn.lim ⟨12, fun n hn => by
    obtain ⟨m, rfl⟩ : ∃ m, n = m + 12 := ⟨n - 12, by omega⟩
    kernel_rfl⟩
  obtain ⟨fi, hf, hp⟩ : ∃ fi, gS.fn 104 = some fi ∧ fi.pure = true := by
    refine ⟨(gS.fn 104).getD ⟨.skip, 0, [], [], [], false, []⟩, by kernel_rfl, by kernel_rfl⟩
  unfold callStep
  simp only [show gS.ext 104 = none from rfl, hf, hp, if_true, show flats [.float .f64 0, .float .f64 13830554455654793216] = true from by simp, hc, show V.flat (.float .f64 9223372036854775808) = true from rfl]
  rfl
theorem kNaN (fr : Fr) (st : St) : callStep gS (EvF gS) 105 [] fr st = some (.ok (.val (.float .f64 9221120237041090561)) fr st) := by
  have hc : EvF gS 105 [] ⟨[], 0⟩ = some (.ret (.float .f64 9221120237041090561) none, ⟨[], 0⟩) := Evn.lim ⟨12, fun n hn => by
    obtain ⟨m, rfl⟩ : ∃ m, n = m + 12 := ⟨n - 12, by omega⟩
    kernel_rfl⟩
  obtain ⟨fi, hf, hp⟩ : ∃ fi, gS.fn 105 = some fi ∧ fi.pure = true := by
    refine ⟨(gS.fn 105).getD ⟨.skip, 0, [], [], [], false, []⟩, by kernel_rfl, by kernel_rfl⟩
  unfold callStep
  simp only [show gS.ext 105 = none from rfl, hf, hp, if_true, show flats [] = true from by simp, hc, show V.flat (.float .f64 9221120237041090561) = true from rfl]
  rfl
theorem kInf (fr : Fr) (st : St) : callStep gS (EvF gS) 106 [.int .i64 1] fr st = some (.ok (.val (.float .f64 9218868437227405312)) fr st) := by
  have hc : EvF gS 106 [.int .i64 1] ⟨[], 0⟩ = some (.ret (.float .f64 9218868437227405312) none, ⟨[], 0⟩) := Evn.lim ⟨12, fun n hn => by
    obtain ⟨m, rfl⟩ : ∃ m, n = m + 12 := ⟨n - 12, by omega⟩
    kernel_rfl⟩
  obtain ⟨fi, hf, hp⟩ : ∃ fi, gS.fn 106 = some fi ∧ fi.pure = true := by
    refine ⟨(gS.fn 106).getD ⟨.skip, 0, [], [], [], false, []⟩, by kernel_rfl, by kernel_rfl⟩
  unfold callStep
  simp only [show gS.ext 106 = none from rfl, hf, hp, if_true, show flats [.int .i64 1] = true from by simp, hc, show V.flat (.float .f64 9218868437227405312) = true from rfl]
  rfl
theorem kInf2 (fr : Fr) (st : St) : callStep gS (EvF gS) 106 [.int .i64 (-1)] fr st = some (.ok (.val (.float .f64 18442240474082181120)) fr st) := by
  have hc : EvF gS 106 [.int .i64 (-1)] ⟨[], 0⟩ = some (.ret (.float .f64 18442240474082181120) none, ⟨[], 0⟩) := Evn.lim ⟨12, fun n hn => by
    obtain ⟨m, rfl⟩ : ∃ m, n = m + 12 := ⟨n - 12, by omega⟩
    kernel_rfl⟩
  obtain ⟨fi, hf, hp⟩ : ∃ fi, gS.fn 106 = some fi ∧ fi.pure = true := by
    refine ⟨(gS.fn 106).getD ⟨.skip, 0, [], [], [], false, []⟩, by kernel_rfl, by kernel_rfl⟩
  unfold callStep
  simp only [show gS.ext 106 = none from rfl, hf, hp, if_true, show flats [.int .i64 (-1)] = true from by simp, hc, show V.flat (.float .f64 18442240474082181120) = true from rfl]
  rfl
def fi85 : FI := { body := codeOf Try.f85, ntmps := 13, results := [.tmp 2], pers := [0, 2, 3], locals := [3], pure := false, marks := [] }
theorem fi66_eq : gS.fn 85 = some fi85 := by kernel_rfl
theorem st85 (a0 : V) : startFr fi85 [a0] = { ps := [(0, .val a0), (2, .any), (3, .any)], ts := [], lc := [] } := rfl
def b85 : Code := mini (codeOf Try.f85)
def c85_4 : Code := .seq (codeN b85 11) .ret
theorem e85_4 : evK gS fi85 c85_4 fr st k = opsR gS fi85 [mv 9 0 23,
 cal 10 11 [(.tmp 9), (.const (.int .i64 14))] [23, 3] 3,
 ixa 11 132 3 10 0,
 ld 12 86 11 86,
 asn 2 12 86] fr st (.seq .ret k) := evK_rs 2 rfl (by kernel_rfl)
def c85_2 : Code := .seq (codeN b85 5) c85_4
theorem e85_2 : evK gS fi85 c85_2 fr st k = opsR gS fi85 [cal 4 104 [(.const (.float .f64 0)), (.const (.float .f64 13830554455654793216))] [86, 86] 86,
 cal 5 105 [] [] 86,
 cal 6 106 [(.const (.int .i64 1))] [3] 86,
 cal 7 106 [(.const (.int .i64 (-1)))] [3] 86,
 op1 8 (.build 132 #[(0, (.const (.float .f64 0))), (1, (.tmp 4)), (2, (.const (.float .f64 4607182418800017408))), (3, (.const (.float .f64 4609434218613702656))), (4, (.const (.float .f64 4611686018427387904))), (5, (.const (.float .f64 4613937818241073152))), (6, (.const (.float .f64 13830554455654793216))), (7, (.const (.float .f64 4591870180066957722))), (8, (.tmp 5)), (9, (.tmp 6)), (10, (.tmp 7)), (11, (.const (.float .f64 4845873199050653696))), (12, (.const (.float .f64 4890909195324358656))), (13, (.const (.float .f64 1)))]) 132,
 op1 3 (.alloc 132) 0,
 sto 132 3 8] fr st (.seq c85_4 k) := evK_rs 1 rfl (by kernel_rfl)
def c85_0 : Code := .seq (codeN b85 2) c85_2
theorem e85_0 : evK gS fi85 c85_0 fr st k = opsR gS fi85 [op1 2 (.assign (.const (.float .f64 0))) 86] fr st (.seq c85_2 k) := evK_rs 0 rfl (by kernel_rfl)
theorem m85 : mini fi85.body = c85_0 := by kernel_rfl
set_option maxHeartbeats 8000000 in
theorem c85 (l : List Int) (a j id : Nat) (st : St) (h : FeedOk st id) (ha : a < 549755813888) (hj : j < 549755813888) :
    EvF gS 85 [.ptr id 0] (setF st id l (nA l a j)) = some (.ret (.float .f64 (floatV l a j)) none, setF st id l (nA l a (j + 1))) := by
  refine EvF_start fi66_eq (fun x h => by cases h) m85 ?_
  rw [st85]
  have hm : fi85.marks = [] := rfl
  have hl : fi85.locals = [3] := rfl
  have hr : fi85.results = [.tmp 2] := rfl
  have hb := fd_bound l a j (n := 14) (by omega)
  unfold floatV
  have hk := fun fr => k11 l a j id 14 fr st h ha hj (by omega)
  generalize fd l a j 14 = z at *
  have hz : z = 0 ∨ z = 1 ∨ z = 2 ∨ z = 3 ∨ z = 4 ∨ z = 5 ∨ z = 6 ∨ z = 7 ∨ z = 8 ∨ z = 9 ∨ z = 10 ∨ z = 11 ∨ z = 12 ∨ z = 13 := by omega
  rcases hz with rfl | rfl | rfl | rfl | rfl | rfl | rfl | rfl | rfl | rfl | rfl | rfl | rfl | rfl <;>
    simp [F14, hk, -Int.not_le, -Int.not_lt, -Nat.not_le, -Nat.not_lt, ty3, ty23, ty86, ty132, hm, hl, hr, kCopy, kNaN, kInf, kInf2, e85_4, e85_2, e85_0]
theorem k85 (l : List Int) (a j id : Nat) (fr : Fr) (st : St) (h : FeedOk st id) (ha : a < 549755813888) (hj : j < 549755813000) :
    callStep gS (EvF gS) 85 [.ptr id 0] fr (setF st id l (nA l a j)) = some (.ok (.val (.float .f64 (floatV l a j))) (fr.map E.noMem) (setF st id l (nA l a (j + 1)))) := by
  unfold callStep
  simp only [show gS.ext 85 = none from rfl, fi66_eq, show fi85.pure = false from rfl, Bool.false_eq_true, if_false, c85 l a j id st h ha (by omega), retE]
  all_goals rfl
def fi55 : FI := { body := codeOf Try.f55, ntmps := 38, results := [.cell 2 88], pers := [0, 2, 3, 4, 6, 7], locals := [2, 3, 4], pure := false, marks := [] }
theorem fi17_eq : gS.fn 55 = some fi55 := by kernel_rfl
theorem st55 (a0 : V) : startFr fi55 [a0] = { ps := [(0, .val a0), (2, .any), (3, .any), (4, .any), (6, .any), (7, .any)], ts := [], lc := [] } := rfl
def b55 : Code := mini (codeOf Try.f55)
def c55_11 : Code := codeN b55 229
def c55_9 : Code := .cond (.tmp 7) .skip c55_11
def c55_7 : Code := .seq (codeN b55 69) c55_9
def c55_13 : Code := .seq (codeN b55 149) .ret
def c55_21 : Code := .seq (codeN b55 1397) .ret
def c55_19 : Code := .seq (codeN b55 629) c55_21
def c55_27 : Code := .seq (codeN b55 2549) .ret
def c55_35 : Code := .seq (codeN b55 22517) .ret
def c55_33 : Code := .seq (codeN b55 10229) c55_35
def c55_32 : Code := .cond (.tmp 27) c55_33 .skip
def c55_30 : Code := .seq (codeN b55 3061) c55_32
def c55_26 : Code := .cond (.tmp 21) c55_27 c55_30
def c55_24 : Code := .seq (codeN b55 757) c55_26
def c55_18 : Code := .cond (.tmp 13) c55_19 c55_24
def c55_16 : Code := .seq (codeN b55 181) c55_18
def c55_12 : Code := .cond (.tmp 7) c55_13 c55_16
def c55_6 : Code := .seq c55_7 c55_12
def c55_5 : Code := .block 0 c55_6
def c55_3 : Code := .seq (codeN b55 9) c55_5
def c55_39 : Code := .seq (codeN b55 11) .ret
def c55_2 : Code := .seq c55_3 c55_39
def c55_0 : Code := .seq (codeN b55 2) c55_2
theorem E55 : (evK gS fi55 c55_11 fr st k = opsR gS fi55 [op1 9 (.binOp .eql 3 (.tmp 6) (.const (.int .i64 1)) 3) 4,
 asn 7 9 4] fr st k) ∧
 evK gS fi55 c55_9 fr st k = condK gS fi55 (fr.op (.tmp 7)).bool? .skip c55_11 fr st k ∧
 (evK gS fi55 c55_7 fr st k = opsR gS fi55 [op1 8 (.binOp .eql 3 (.tmp 6) (.const (.int .i64 0)) 3) 4,
 asn 7 8 4] fr st (.seq c55_9 k)) ∧
 (evK gS fi55 c55_13 fr st k = opsR gS fi55 [mv 10 0 23,
 cal 11 85 [(.tmp 10)] [23] 86,
 op1 12 (.build 88 #[(0, (.const (.int .i64 2))), (2, (.tmp 11))]) 88,
 sto 88 2 12] fr st (.seq .ret k)) ∧
 (evK gS fi55 c55_21 fr st k = opsR gS fi55 [mv 16 0 23,
 cal 17 11 [(.tmp 16), (.const (.int .i64 6))] [23, 3] 3,
 ixa 18 117 3 17 0,
 ld 19 9 18 9,
 op1 20 (.build 88 #[(0, (.const (.int .i64 3))), (3, (.tmp 19))]) 88,
 sto 88 2 20] fr st (.seq .ret k)) ∧
 (evK gS fi55 c55_19 fr st k = opsR gS fi55 [op1 15 (.build 117 #[(0, (.const (.string { data := #[] }))), (1, (.const (.string { data := #[97] }))), (2, (.const (.string { data := #[97, 98] }))), (3, (.const (.string { data := #[98] }))), (4, (.const (.string { data := #[98, 97] }))), (5, (.const (.string { data := #[116, 119, 101, 108, 118, 101, 32, 98, 121, 116, 101, 115] })))]) 117,
 op1 3 (.alloc 117) 0,
 sto 117 3 15] fr st (.seq c55_21 k)) ∧
 (evK gS fi55 c55_27 fr st k = opsR gS fi55 [mv 23 0 23,
 cal 24 11 [(.tmp 23), (.const (.int .i64 2))] [23, 3] 3,
 op1 25 (.binOp .eql 3 (.tmp 24) (.const (.int .i64 1)) 3) 4,
 op1 26 (.build 88 #[(0, (.const (.int .i64 4))), (4, (.tmp 25))]) 88,
 sto 88 2 26] fr st (.seq .ret k)) ∧
 (evK gS fi55 c55_35 fr st k = opsR gS fi55 [mv 30 0 23,
 cal 31 11 [(.tmp 30), (.const (.int .i64 6))] [23, 3] 3,
 ixa 32 118 4 31 0,
 ld 33 2 32 2,
 op1 34 (.build 88 #[(0, (.const (.int .i64 1))), (1, (.tmp 33))]) 88,
 sto 88 2 34] fr st (.seq .ret k)) ∧
 (evK gS fi55 c55_33 fr st k = opsR gS fi55 [op1 29 (.build 118 #[(0, (.const (.int .i64 (-9223372036854775808)))), (1, (.const (.int .i64 9223372036854775807))), (2, (.const (.int .i64 9007199254740992))), (3, (.const (.int .i64 9007199254740993))), (4, (.const (.int .i64 (-1)))), (5, (.const (.int .i64 4611686018427387904)))]) 118,
 op1 4 (.alloc 118) 0,
 sto 118 4 29] fr st (.seq c55_35 k)) ∧
 evK gS fi55 c55_32 fr st k = condK gS fi55 (fr.op (.tmp 27)).bool? c55_33 .skip fr st k ∧
 (evK gS fi55 c55_30 fr st k = opsR gS fi55 [op1 28 (.binOp .eql 3 (.tmp 6) (.const (.int .i64 4)) 3) 4,
 asn 27 28 4] fr st (.seq c55_32 k)) ∧
 evK gS fi55 c55_26 fr st k = condK gS fi55 (fr.op (.tmp 21)).bool? c55_27 c55_30 fr st k ∧
 (evK gS fi55 c55_24 fr st k = opsR gS fi55 [op1 22 (.binOp .eql 3 (.tmp 6) (.const (.int .i64 3)) 3) 4,
 asn 21 22 4] fr st (.seq c55_26 k)) ∧
 evK gS fi55 c55_18 fr st k = condK gS fi55 (fr.op (.tmp 13)).bool? c55_19 c55_24 fr st k ∧
 (evK gS fi55 c55_16 fr st k = opsR gS fi55 [op1 14 (.binOp .eql 3 (.tmp 6) (.const (.int .i64 2)) 3) 4,
 asn 13 14 4] fr st (.seq c55_18 k)) ∧
 evK gS fi55 c55_12 fr st k = condK gS fi55 (fr.op (.tmp 7)).bool? c55_13 c55_16 fr st k ∧
 evK gS fi55 c55_6 fr st k = evK gS fi55 c55_7 fr st (.seq c55_12 k) ∧
 evK gS fi55 c55_5 fr st k = evK gS fi55 c55_6 fr st (.blk 0 k) ∧
 (evK gS fi55 c55_3 fr st k = opsR gS fi55 [mv 5 0 23,
 cal 6 11 [(.tmp 5), (.const (.int .i64 8))] [23, 3] 3] fr st (.seq c55_5 k)) ∧
 (evK gS fi55 c55_39 fr st k = opsR gS fi55 [mv 35 0 23,
 cal 36 11 [(.tmp 35), (.const (.int .i64 5))] [23, 3] 3,
 op1 37 (.build 88 #[(0, (.const (.int .i64 1))), (1, (.tmp 36))]) 88,
 sto 88 2 37] fr st (.seq .ret k)) ∧
 evK gS fi55 c55_2 fr st k = evK gS fi55 c55_3 fr st (.seq c55_39 k) ∧
 evK gS fi55 c55_0 fr st k = opsR gS fi55 [op1 2 (.alloc 88) 0] fr st (.seq c55_2 k) := ⟨evK_r 3 (by kernel_rfl), rfl, evK_rs 2 rfl (by kernel_rfl), evK_rs 4 rfl (by kernel_rfl), evK_rs 7 rfl (by kernel_rfl), evK_rs 6 rfl (by kernel_rfl), evK_rs 9 rfl (by kernel_rfl), evK_rs 12 rfl (by kernel_rfl), evK_rs 11 rfl (by kernel_rfl), rfl, evK_rs 10 rfl (by kernel_rfl), rfl, evK_rs 8 rfl (by kernel_rfl), rfl, evK_rs 5 rfl (by kernel_rfl), rfl, rfl, rfl, evK_rs 1 rfl (by kernel_rfl), evK_rs 13 rfl (by kernel_rfl), rfl, evK_rs 0 rfl (by kernel_rfl)⟩
theorem m55 : mini fi55.body = c55_0 := by kernel_rfl
set_option maxHeartbeats 8000000 in
theorem c55 (l : List Int) (a j id : Nat) (st : St) (h : FeedOk st id) (ha : a < 549755813888) (hj : j < 549755812000) :
    EvF gS 55 [.ptr id 0] (setF st id l (nA l a j)) = some (.ret (valueV l a j).enc none, setF st id l (nA l a (j + 2))) := by
  refine EvF_start fi17_eq (fun x h => by cases h) m55 ?_
  rw [st55]
  have hm : fi55.marks = [] := rfl
  have hl : fi55.locals = [2, 3, 4] := rfl
  have hr : fi55.results = [.cell 2 88] := rfl
  have hb := fd_bound l a j (n := 8) (by omega)
  have hb6 := fd_bound l a (j + 1) (n := 6) (by omega)
  unfold valueV
  have hk := fun fr => k11 l a j id 8 fr st h ha (by omega) (by omega)
  have hk6 := fun fr => k11 l a (j + 1) id 6 fr st h ha (by omega) (by omega)
  have hk2 := fun fr => k11 l a (j + 1) id 2 fr st h ha (by omega) (by omega)
  have hk5 := fun fr => k11 l a (j + 1) id 5 fr st h ha (by omega) (by omega)
  have hf1 := fun fr => k85 l a (j + 1) id fr st h ha (by omega)
  generalize fd l a j 8 = z at *
  generalize fd l a (j + 1) 6 = y at *
  have hz : z = 0 ∨ z = 1 ∨ z = 2 ∨ z = 3 ∨ z = 4 ∨ z = 5 ∨ z = 6 ∨ z = 7 := by omega
  have hy : y = 0 ∨ y = 1 ∨ y = 2 ∨ y = 3 ∨ y = 4 ∨ y = 5 := by omega
  rcases hz with rfl | rfl | rfl | rfl | rfl | rfl | rfl | rfl
  case inr.inr.inl => rcases hy with rfl | rfl | rfl | rfl | rfl | rfl <;> simp [T6, hk, hk6, hk2, hk5, hf1, -Int.not_le, -Int.not_lt, -Nat.not_le, -Nat.not_lt, ty2, ty3, ty4, ty9, ty23, ty86, ty88, ty117, ty118, eq88, hm, hl, hr, E55]
  case inr.inr.inr.inr.inl => rcases hy with rfl | rfl | rfl | rfl | rfl | rfl <;> simp [N6, hk, hk6, hk2, hk5, hf1, -Int.not_le, -Int.not_lt, -Nat.not_le, -Nat.not_lt, ty2, ty3, ty4, ty9, ty23, ty86, ty88, ty117, ty118, eq88, hm, hl, hr, E55]
  all_goals simp [hk, hk6, hk2, hk5, hf1, -Int.not_le, -Int.not_lt, -Nat.not_le, -Nat.not_lt, ty2, ty3, ty4, ty9, ty23, ty86, ty88, ty117, ty118, eq88, hm, hl, hr, E55]
end
end Go.Proofs.Ytdoobejjedpcgaa
namespace Go.Ab
open Go
set_option linter.unusedVariables false
set_option linter.unusedSimpArgs false
set_option linter.unnecessarySimpa false
/-- So many objects more that are given up. -/
def dd (st : St) (m : Nat) : St := { st with objs := st.objs ++ List.replicate m [] }
/-- And one behind them. -/
def nw (st : St) (m : Nat) (cs : List V) : St := { st with objs := st.objs ++ (List.replicate m [] ++ [cs]) }
theorem dd_zero (st : St) : dd st 0 = st := by unfold dd; simp
theorem dd_len (st : St) (m : Nat) : (dd st m).objs.length = st.objs.length + m := by simp [dd]
theorem gr_len (st : St) (m : Nat) (cs : List V) : (nw st m cs).objs.length = st.objs.length + m + 1 := by simp [nw]; omega
theorem setF_len (st : St) (id : Nat) (l : List Int) (a : Nat) : (setF st id l a).objs.length = st.objs.length := by simp [setF]
theorem setF_wp (st : St) (id : Nat) (l : List Int) (a : Nat) : (setF st id l a).wp = st.wp := rfl
theorem dd_wp (st : St) (m : Nat) : (dd st m).wp = st.wp := rfl
theorem gr_wp (st : St) (m : Nat) (cs : List V) : (nw st m cs).wp = st.wp := rfl
theorem FeedOk.dd {st : St} {id : Nat} (h : FeedOk st id) (m : Nat) : FeedOk (dd st m) id := ⟨by rw [dd_len]; have := h.1; omega, h.2⟩
theorem FeedOk.nw {st : St} {id : Nat} (h : FeedOk st id) (m : Nat) (cs : List V) : FeedOk (nw st m cs) id := ⟨by rw [gr_len]; have := h.1; omega, h.2⟩
theorem FeedOk.setF {st : St} {id id' : Nat} (h : FeedOk st id) (l : List Int) (a : Nat) : FeedOk (setF st id' l a) id := ⟨by rw [setF_len]; exact h.1, h.2⟩
theorem dd_dd (st : St) (m n : Nat) : dd (dd st m) n = dd st (m + n) := by unfold dd; simp [List.append_assoc, List.replicate_append_replicate]
theorem setF_dd {st : St} {id : Nat} (h : FeedOk st id) (m : Nat) (l : List Int) (a : Nat) : dd (setF st id l a) m = setF (dd st m) id l a := by
  unfold dd setF; simp only [St.mk.injEq, and_true]; rw [List.set_append_left _ _ h.1]
theorem setF_gr {st : St} {id : Nat} (h : FeedOk st id) (m : Nat) (cs : List V) (l : List Int) (a : Nat) : nw (setF st id l a) m cs = setF (nw st m cs) id l a := by
  unfold nw setF; simp only [St.mk.injEq, and_true]; rw [List.set_append_left _ _ h.1]
theorem gr_obj (st : St) (m : Nat) (cs : List V) : (nw st m cs).objs[st.objs.length + m]? = some cs := by
  simp [nw]
theorem obj_gr {st : St} {id : Nat} (h : FeedOk st id) (m : Nat) (cs : List V) (l : List Int) (a : Nat) : St.obj (setF (nw st m cs) id l a) (st.objs.length + m) = some cs := by
  unfold St.obj setF
  show ((nw st m cs).objs.set id _)[_]? = _
  rw [List.getElem?_set_ne (by have := h.1; omega), gr_obj]
theorem set_gr {st : St} {id : Nat} (h : FeedOk st id) (m : Nat) (cs : List V) (l : List Int) (a : Nat) : St.set (setF (nw st m cs) id l a) (st.objs.length + m) [] = some (setF (dd st (m + 1)) id l a) := by
  have h1 := h.1
  have h2 := h.2
  unfold St.set
  rw [if_pos (by rw [setF_wp, gr_wp]; omega)]
  rw [← setF_gr h, ← setF_dd h]
  unfold nw dd
  simp only [Option.some.injEq, St.mk.injEq, and_true]
  rw [List.set_append_right _ _ (by rw [setF_len]; omega), setF_len, show st.objs.length + m - st.objs.length = m by omega, List.set_append_right _ _ (by simp), List.replicate_succ', List.length_replicate, Nat.sub_self]
  rfl
theorem set_gr' {st : St} {id : Nat} (h : FeedOk st id) (m : Nat) (cs cs' : List V) (l : List Int) (a : Nat) : St.set (setF (nw st m cs) id l a) (st.objs.length + m) cs' = some (setF (nw st m cs') id l a) := by
  have h1 := h.1
  have h2 := h.2
  unfold St.set
  rw [if_pos (by rw [setF_wp, gr_wp]; omega)]
  rw [← setF_gr h, ← setF_gr h]
  unfold nw
  simp only [Option.some.injEq, St.mk.injEq, and_true]
  rw [List.set_append_right _ _ (by rw [setF_len]; omega), setF_len, show st.objs.length + m - st.objs.length = m by omega, List.set_append_right _ _ (by simp), List.length_replicate, Nat.sub_self]
  rfl
theorem newRef_dd {st : St} {id : Nat} (h : FeedOk st id) (fr : Fr) (m k len : Nat) (cs : List V) (l : List Int) (a : Nat) :
    newRef fr (setF (dd st m) id l a) k len cs = .ok (.val (.sref false k (st.objs.length + m) 0 len)) fr (setF (nw st m cs) id l a) := by
  unfold newRef
  rw [setF_len, dd_len, ← setF_dd h, ← setF_gr h]
  unfold nw dd
  simp
theorem newRef_setF {st : St} {id : Nat} (h : FeedOk st id) (fr : Fr) (k len : Nat) (cs : List V) (l : List Int) (a : Nat) :
    newRef fr (setF st id l a) k len cs = .ok (.val (.sref false k st.objs.length 0 len)) fr (setF (nw st 0 cs) id l a) := by
  have := newRef_dd h fr 0 k len cs l a
  rw [dd_zero] at this
  exact this
mutual
theorem frz_flat : ∀ (n : Nat) (st : St) (v : V), v.flat = true → frz n st v = some (v, st)
  | 0, _, _, _ => by unfold frz; rfl
  | n + 1, st, v, h => by
    unfold frz
    split
    · simp [V.flat] at h
    · rw [frzL_flat n st _ (by simpa [V.flat] using h)]
    · rw [frzL_flat n st _ (by simpa [V.flat] using h)]
    · rfl
    · rw [if_pos (by simpa [V.flat] using h)]
    · rfl
theorem frzL_flat : ∀ (n : Nat) (st : St) (l : List V), flats l = true → frzL (frz n) st l = some (l, st)
  | _, _, [], _ => rfl
  | n, st, v :: r, h => by
    simp only [flats, Bool.and_eq_true] at h
    unfold frzL
    rw [frz_flat n st v h.1]
    simp only
    rw [frzL_flat n st r h.2]
end
theorem frzL_cons {f : St → V → Option (V × St)} {st st' : St} {v v' : V} {r : List V} (h : f st v = some (v', st')) : frzL f st (v :: r) = match frzL f st' r with
      | some (r', st'') => some (v' :: r', st'')
      | none => none := by
  simp only [frzL, h]
  cases frzL f st' r with
  | none => rfl
  | some x => rfl
theorem frzL_append {f : St → V → Option (V × St)} {st st' st'' : St} : ∀ {xs xs' ys ys' : List V}, frzL f st xs = some (xs', st') → frzL f st' ys = some (ys', st'') → frzL f st (xs ++ ys) = some (xs' ++ ys', st'')
  | [], _, _, _, h, k => by unfold frzL at h; cases h; exact k
  | v :: r, _, ys, ys', h, k => by
    unfold frzL at h
    split at h
    · rename_i v' st1 h1
      split at h
      · rename_i r' st2 h2
        cases h
        rw [List.cons_append, frzL_cons h1, frzL_append h2 k]; rfl
      · cases h
    · cases h
theorem chunk_enc {α : Type} (cells : α → List V) (k : Nat) (hk : 0 < k) (hl : ∀ x, (cells x).length = k) : ∀ (vs : List α), chunk true k vs.length (vs.flatMap cells) = vs.map fun x => V.agg (cells x)
  | [] => rfl
  | x :: r => by
    rw [List.length_cons, chunk, List.flatMap_cons, List.take_left' (hl x), List.drop_left' (hl x), chunk_enc cells k hk hl r]; rfl
theorem vals_cells_len (vs : List Val) : (vs.flatMap Val.cells).length = vs.length * 5 := by
  induction vs with
  | nil => rfl
  | cons x r ih => simp [List.flatMap_cons, ih, Val.cells]; omega
theorem vals_cells_one (vs : List Val) : (vs.flatMap Val.cells).all V.one = true := by
  induction vs with
  | nil => rfl
  | cons x r ih => simp [List.flatMap_cons, ih, Val.cells, V.one]
theorem vals_cells_flat (vs : List Val) : flats (vs.flatMap Val.cells) = true := by
  induction vs with
  | nil => rfl
  | cons x r ih =>
    have : ∀ (a b : List V), flats a = true → flats b = true → flats (a ++ b) = true := by
      intro a
      induction a with
      | nil => intro b _ h; exact h
      | cons v a iha => intro b h1 h2; simp only [flats, List.cons_append, Bool.and_eq_true] at h1 ⊢; exact ⟨h1.1, iha b h1.2 h2⟩
    rw [List.flatMap_cons]
    exact this _ _ (by simp [Val.cells, flats, V.flat]) ih
theorem vals_cells_strip (vs : List Val) : (vs.flatMap Val.cells).map V.strip1 = vs.flatMap Val.cells := by
  induction vs with
  | nil => rfl
  | cons x r ih => simp [List.flatMap_cons, ih, Val.cells, V.strip1]
theorem chunk_vals (vs : List Val) : chunk true 5 vs.length (vs.flatMap Val.cells) = encVals vs := chunk_enc Val.cells 5 (by omega) (fun _ => rfl) vs
/-- A row of values is given up. -/
theorem frz_vals {st : St} {id : Nat} (h : FeedOk st id) (n m : Nat) (vs : List Val) (hv : vs ≠ []) (l : List Int) (a : Nat) :
    frz (n + 1) (setF (nw st m (vs.flatMap Val.cells)) id l a) (.sref false 5 (st.objs.length + m) 0 vs.length) = some (.slice (encVals vs), setF (dd st (m + 1)) id l a) := by
  have hl : ¬ vs.length = 0 := by simpa using hv
  unfold frz
  simp only [hl, if_false, obj_gr h, set_gr h, vals_cells_len, List.drop_zero, Nat.zero_add, Nat.le_refl, and_true, show (0 < 5) = True by simp, if_true]
  rw [List.take_of_length_le (by rw [vals_cells_len]; omega), vals_cells_strip, frzL_flat _ _ _ (vals_cells_flat vs)]
  simp only [vals_cells_len, vals_cells_one, and_self, if_true]
  rw [show Nat.blt 1 5 = true from rfl, chunk_vals]
theorem frz_predcells {st st' : St} {n : Nat} {a0 a1 a2 a3 a4 a5 a6 a7 a8 a9 a10 a11 s s' : V} (hf : flats [a0, a1, a2, a3, a4, a5, a6, a7, a8, a9, a10, a11] = true) (hs : frz n st s = some (s', st')) :
    frz (n + 1) st (.agg [a0, a1, a2, a3, a4, a5, a6, a7, a8, a9, a10, a11, s]) = some (.agg [a0, a1, a2, a3, a4, a5, a6, a7, a8, a9, a10, a11, s'], st') := by
  unfold frz
  have h1 := frzL_flat n st _ hf
  have h2 : frzL (frz n) st [s] = some ([s'], st') := by rw [frzL_cons hs]; rfl
  have := frzL_append h1 h2
  simp only [List.cons_append, List.nil_append] at this
  simp only [this]
theorem frz_nil (n : Nat) (st : St) : frz (n + 1) st (.sref true 0 0 0 0) = some (.slice [], st) := by unfold frz; rfl
theorem w64_1 : IntKind.wrap .i64 1 = 1 := by kernel_rfl
theorem w64_2 : IntKind.wrap .i64 2 = 2 := by kernel_rfl
theorem w64_3 : IntKind.wrap .i64 3 = 3 := by kernel_rfl
theorem w64_4 : IntKind.wrap .i64 4 = 4 := by kernel_rfl
theorem w64_5 : IntKind.wrap .i64 5 = 5 := by kernel_rfl
theorem w64_6 : IntKind.wrap .i64 6 = 6 := by kernel_rfl
theorem w64_7 : IntKind.wrap .i64 7 = 7 := by kernel_rfl
theorem w64_8 : IntKind.wrap .i64 8 = 8 := by kernel_rfl
theorem w64_9 : IntKind.wrap .i64 9 = 9 := by kernel_rfl
theorem w64_10 : IntKind.wrap .i64 10 = 10 := by kernel_rfl
end Go.Ab
namespace Go.Ab
open Go
set_option linter.unusedVariables false
set_option linter.unusedSimpArgs false
set_option linter.unnecessarySimpa false
def FVR : List (Val × Option (Int × Int)) := [
  (vzero, none),
  (⟨2, 0, 0, [], false⟩, some (1, 0)), (⟨2, 0, 9223372036854775808, [], false⟩, some (1, 0)), (⟨2, 0, 4607182418800017408, [], false⟩, some (1, 3)),
  (⟨2, 0, 4609434218613702656, [], false⟩, some (1, 4)), (⟨2, 0, 4611686018427387904, [], false⟩, some (1, 5)), (⟨2, 0, 4613937818241073152, [], false⟩, some (1, 6)),
  (⟨2, 0, 13830554455654793216, [], false⟩, some (1, -1)), (⟨2, 0, 4591870180066957722, [], false⟩, some (1, 2)), (⟨2, 0, 9221120237041090561, [], false⟩, none),
  (⟨2, 0, 9218868437227405312, [], false⟩, some (1, 20)), (⟨2, 0, 18442240474082181120, [], false⟩, some (1, -20)), (⟨2, 0, 4845873199050653696, [], false⟩, some (1, 8)),
  (⟨2, 0, 4890909195324358656, [], false⟩, some (1, 12)), (⟨2, 0, 1, [], false⟩, some (1, 1)),
  (⟨3, 0, 0, [], false⟩, some (3, 0)), (⟨3, 0, 0, [97], false⟩, some (3, 1)), (⟨3, 0, 0, [97, 98], false⟩, some (3, 2)), (⟨3, 0, 0, [98], false⟩, some (3, 3)), (⟨3, 0, 0, [98, 97], false⟩, some (3, 4)),
  (⟨3, 0, 0, [116, 119, 101, 108, 118, 101, 32, 98, 121, 116, 101, 115], false⟩, some (3, 5)),
  (⟨4, 0, 0, [], false⟩, some (4, 0)), (⟨4, 0, 0, [], true⟩, some (4, 1)),
  (⟨1, -9223372036854775808, 0, [], false⟩, some (1, -10)), (⟨1, 9223372036854775807, 0, [], false⟩, some (1, 11)), (⟨1, 9007199254740992, 0, [], false⟩, some (1, 8)), (⟨1, 9007199254740993, 0, [], false⟩, some (1, 9)),
  (⟨1, -1, 0, [], false⟩, some (1, -1)), (⟨1, 4611686018427387904, 0, [], false⟩, some (1, 10)), (⟨1, 0, 0, [], false⟩, some (1, 0)), (⟨1, 1, 0, [], false⟩, some (1, 3)), (⟨1, 2, 0, [], false⟩, some (1, 5)), (⟨1, 3, 0, [], false⟩, some (1, 6)), (⟨1, 4, 0, [], false⟩, some (1, 7))]
def FV (v : Val) (r : Option (Int × Int)) : Prop := (v, r) ∈ FVR
end Go.Ab
namespace Go.Ab
open Go
set_option linter.unusedVariables false
set_option linter.unusedSimpArgs false
set_option linter.unnecessarySimpa false
/-- A test of what a feed yields. -/
structure PFV (p : Pred) : Prop where
  v : ∃ r, FV p.v r
  w : ∃ r, FV p.w r
  set : ∀ x ∈ p.set, ∃ r, FV x r
end Go.Ab
namespace Go.Ab
open Go
set_option linter.unusedVariables false
set_option linter.unusedSimpArgs false
set_option linter.unnecessarySimpa false
/-- A right one of the row. -/
def VR (v : Val) : Prop := vright v = true ∧ ∃ r, FV v r
def allVR : List Val := (FVR.drop 1).map (·.1)
theorem all_right : allVR.all vright = true := by kernel_rfl
theorem vr_mem {v : Val} (h : v ∈ allVR) : VR v := by
  refine ⟨List.all_eq_true.1 all_right v h, ?_⟩
  unfold allVR at h
  obtain ⟨x, hx, rfl⟩ := List.mem_map.1 h
  exact ⟨x.2, List.mem_of_mem_drop hx⟩
def floatsR : List Val := F14.map fun x => ⟨2, 0, x, [], false⟩
def textsR : List Val := T6.map fun s => ⟨3, 0, 0, s, false⟩
def intsR : List Val := N6.map fun n => ⟨1, n, 0, [], false⟩
theorem floats_in : (floatsR.all fun v => allVR.contains v) = true := by kernel_rfl
theorem texts_in : (textsR.all fun v => allVR.contains v) = true := by kernel_rfl
theorem ints_in : (intsR.all fun v => allVR.contains v) = true := by kernel_rfl
theorem smalls_in : ((List.range 5).all fun n => allVR.contains (⟨1, (n : Int), 0, [], false⟩ : Val)) = true := by kernel_rfl
theorem bools_in : ([true, false].all fun b => allVR.contains (⟨4, 0, 0, [], b⟩ : Val)) = true := by kernel_rfl
theorem of_contains {l : List Val} {f : Val} (h : (l.all fun v => allVR.contains v) = true) (hf : f ∈ l) : VR f := by
  have := List.all_eq_true.1 h f hf
  exact vr_mem (by simpa using this)
theorem vr_float (l : List Int) (a j : Nat) : VR ⟨2, 0, floatV l a j, [], false⟩ := by
  have hb := fd_bound l a j (n := 14) (by omega)
  refine of_contains floats_in ?_
  unfold floatsR floatV
  refine List.mem_map.2 ⟨_, ?_, rfl⟩
  have hlt : (fd l a j 14).toNat < F14.length := by show _ < 14; omega
  rw [List.getD_eq_getElem?_getD, List.getElem?_eq_getElem hlt]
  exact List.getElem_mem hlt
theorem vr_text {n : Nat} (h : n < 6) : VR ⟨3, 0, 0, T6.getD n [], false⟩ := by
  refine of_contains texts_in ?_
  unfold textsR
  refine List.mem_map.2 ⟨_, ?_, rfl⟩
  have hlt : n < T6.length := h
  rw [List.getD_eq_getElem?_getD, List.getElem?_eq_getElem hlt]
  exact List.getElem_mem hlt
theorem vr_int {n : Nat} (h : n < 6) : VR ⟨1, N6.getD n 0, 0, [], false⟩ := by
  refine of_contains ints_in ?_
  unfold intsR
  refine List.mem_map.2 ⟨_, ?_, rfl⟩
  have hlt : n < N6.length := h
  rw [List.getD_eq_getElem?_getD, List.getElem?_eq_getElem hlt]
  exact List.getElem_mem hlt
theorem vr_small {n : Int} (h0 : 0 ≤ n) (h : n < 5) : VR ⟨1, n, 0, [], false⟩ := by
  have := List.all_eq_true.1 smalls_in n.toNat (List.mem_range.2 (by omega))
  rw [show ((n.toNat : Nat) : Int) = n by omega] at this
  exact vr_mem (by simpa using this)
theorem vr_bool (b : Bool) : VR ⟨4, 0, 0, [], b⟩ := by
  have := List.all_eq_true.1 bools_in b (by cases b <;> simp)
  exact vr_mem (by simpa using this)
theorem vr_value (l : List Int) (a j : Nat) : VR (valueV l a j) := by
  unfold valueV
  have h8 := fd_bound l a j (n := 8) (by omega)
  have h6 := fd_bound l a (j + 1) (n := 6) (by omega)
  have h5 := fd_bound l a (j + 1) (n := 5) (by omega)
  simp only
  repeat' split
  · exact vr_float _ _ _
  · exact vr_text (by omega)
  · exact vr_bool _
  · exact vr_int (by omega)
  · exact vr_small (by omega) (by omega)
theorem vr_vals (l : List Int) (a : Nat) : ∀ (k j : Nat), ∀ x ∈ valsV l a j k, VR x
  | 0, j, x, h => by simp [valsV] at h
  | k + 1, j, x, h => by
    rcases List.mem_cons.1 h with rfl | h
    · exact vr_value _ _ _
    · exact vr_vals l a k _ x h
theorem vals_length (l : List Int) (a : Nat) : ∀ (k j : Nat), (valsV l a j k).length = k
  | 0, j => rfl
  | k + 1, j => by simp [valsV, vals_length l a k]
theorem P4_in : (P4.all fun s => T6.contains s) = true := by kernel_rfl
theorem vr_P4 {n : Nat} (h : n < 4) : VR ⟨3, 0, 0, P4.getD n [], false⟩ := by
  have hlt : n < P4.length := h
  have h1 : P4.getD n [] ∈ P4 := by rw [List.getD_eq_getElem?_getD, List.getElem?_eq_getElem hlt]; exact List.getElem_mem hlt
  have h2 := List.all_eq_true.1 P4_in _ h1
  refine of_contains texts_in ?_
  unfold textsR
  exact List.mem_map.2 ⟨_, by simpa using h2, rfl⟩
theorem fv_zero : ∃ r, FV vzero r := ⟨none, by unfold FV FVR; simp⟩
/-- What a feed yields as a test. -/
theorem pred_fv (l : List Int) (a j : Nat) (nm : List UInt8) : PFV (predV l a j nm).1 := by
  unfold predV
  have h4 := fd_bound l a (j + 1) (n := 4) (by omega)
  simp only
  repeat' split
  · exact ⟨fv_zero, fv_zero, by simp⟩
  · exact ⟨(vr_P4 (by omega)).2, fv_zero, by simp⟩
  · exact ⟨fv_zero, fv_zero, fun x hx => (vr_vals _ _ _ _ x hx).2⟩
  · exact ⟨(vr_value _ _ _).2, (vr_value _ _ _).2, by simp⟩
  · exact ⟨(vr_value _ _ _).2, fv_zero, by simp⟩
theorem same_zero : vsame vzero vzero = true := by kernel_rfl
theorem pred_right (l : List Int) (a j : Nat) {nm : List UInt8} (hn : isWord nm = true) : pright (predV l a j nm).1 = true := by
  have h10 := fd_bound l a j (n := 10) (by omega)
  have h4 := fd_bound l a (j + 1) (n := 4) (by omega)
  unfold predV
  simp only
  split
  · simp [pright, hn, same_zero]
  · split
    · rename_i h
      have hv := (vr_P4 (n := (fd l a (j + 1) 4).toNat) (by omega)).1
      generalize P4.getD (fd l a (j + 1) 4).toNat [] = s at hv
      simp [pright, hn, same_zero, hv]
    · split
      · have hv := fun x hx => (vr_vals l a ((fd l a (j + 1) 4).toNat + 1) (j + 2) x hx).1
        have hl := vals_length l a ((fd l a (j + 1) 4).toNat + 1) (j + 2)
        generalize valsV l a (j + 2) ((fd l a (j + 1) 4).toNat + 1) = vs at hv hl
        have hc : vs.all vright = true := List.all_eq_true.2 hv
        have h5 : 1 ≤ vs.length ∧ vs.length ≤ 4 := by omega
        unfold pright
        rw [if_pos hn]
        simp [same_zero, hc, h5, hv]
      · split
        · simp [pright, hn, same_zero, (vr_value l a (j + 1)).1, (vr_value l a (j + 3)).1]
        · have e1 : 2 ≤ 1 + fd l a j 10 ∧ 1 + fd l a j 10 ≤ 7 := by omega
          have e2 : ¬ 1 + fd l a j 10 = 1 := by omega
          simp only [pright, hn, if_true, e2, if_false, e1, and_self, same_zero, (vr_value l a (j + 1)).1, List.length_nil, decide_true, Bool.and_self]
theorem pred_asks (l : List Int) (a j : Nat) (nm : List UInt8) : (predV l a j nm).2 ≤ 10 := by
  have h4 := fd_bound l a (j + 1) (n := 4) (by omega)
  unfold predV
  simp only
  repeat' split
  all_goals (simp only; omega)
theorem ok_of_right {p : Pred} (h : pright p = true) : p.ok := by
  unfold pright at h
  split at h
  · rename_i hw
    unfold isWord at hw
    simp only [Bool.and_eq_true, decide_eq_true_eq] at hw
    refine ⟨by omega, ?_⟩
    repeat' split at h
    all_goals first
      | (simp only [Bool.and_eq_true, decide_eq_true_eq] at h; omega)
      | cases h
  · cases h
end Go.Ab
namespace Go.Proofs.Ytdoobejjedpcgaa
open Go Go.Ab
set_option linter.unusedVariables false
set_option linter.unusedSimpArgs false
set_option linter.unnecessarySimpa false
set_option maxRecDepth 20000
noncomputable section
variable (fr : Fr) (st : St) (k : Kt)
theorem k55 (l : List Int) (a j id : Nat)  (fr : Fr) (st : St) (h : FeedOk st id) (ha : a < 549755813888) (hj : j < 549755812000) :
    callStep gS (EvF gS) 55 [.ptr id 0] fr (setF st id l (nA l a j)) = some (.ok (.val ((valueV l a j).enc)) (fr.map E.noMem) (setF st id l (nA l a (j + 2)))) := by
  unfold callStep
  simp only [show gS.ext 55 = none from rfl, fi17_eq, show fi55.pure = false from rfl, Bool.false_eq_true, if_false, c55 l a j id  st h ha (by omega), retE]
  all_goals rfl
def fi71 : FI := { body := codeOf Try.f71, ntmps := 52, results := [.cell 4 91], pers := [0, 1, 4, 5, 6, 13], locals := [4, 5], pure := false, marks := [39, 2000011, 1000000] }
theorem fi29_eq : gS.fn 71 = some fi71 := by kernel_rfl
theorem st71 (a0 a1 : V) : startFr fi71 [a0, a1] = { ps := [(0, .val a0), (1, .val a1), (4, .any), (5, .any), (6, .any), (13, .any)], ts := [], lc := [] } := rfl
def b71 : Code := mini (codeOf Try.f71)
def c71_11 : Code := .seq (codeN b71 299) .ret
def c71_19 : Code := .seq (codeN b71 2795) .ret
def c71_17 : Code := .seq (codeN b71 1259) c71_19
def c71_33 : Code := .cond (.tmp 31) .skip (.exit 1)
def c71_31 : Code := .seq (codeN b71 136171) c71_33
def r71_38 : Array Oper := regOps (codeN (codeOf Try.f71) 300011)
def c71_38 : Code := .region 12 r71_38 true
def q71_38 : List (Oper × Fl) := [(op1 34 (.fieldAddr 91 (.tmp 5) 4) 0, ⟨true, false, false, false, false, false, true, false, false, true, []⟩),
 (ld 35 89 34 89, ⟨true, false, false, false, false, false, true, false, false, true, []⟩),
 (mv 36 0 23, ⟨true, false, true, false, true, false, true, true, false, false, []⟩),
 (cal 37 55 [(.tmp 36)] [23] 88, ⟨false, true, true, false, true, true, true, true, false, false, []⟩),
 (op1 38 (.buildSlice 89 1 #[(0, (.tmp 37))]) 89, ⟨true, false, true, false, true, false, true, true, false, false, []⟩),
 (op1 39 (.call { callee := (.builtin .append), args := #[(.tmp 35), (.tmp 38)], argTypes := #[89, 89] }) 89, ⟨false, true, true, false, true, true, true, true, false, false, []⟩),
 (op1 40 (.fieldAddr 91 (.tmp 5) 4) 0, ⟨true, true, true, false, true, false, true, true, false, false, []⟩),
 (sto 89 40 39, ⟨false, true, true, false, true, true, true, true, false, false, []⟩)]
def c71_39 : Code := codeN b71 234475
def c71_36 : Code := .seq (.block 2 c71_38) c71_39
def c71_30 : Code := .seq c71_31 c71_36
def c71_29 : Code := .loop c71_30
def c71_28 : Code := .block 1 c71_29
def c71_26 : Code := .seq (codeN b71 9195) c71_28
def c71_40 : Code := .seq (codeN b71 11243) .ret
theorem e71_40 : evK gS fi71 c71_40 fr st k = opsR gS fi71 [ld 41 91 5 91,
 sto 91 4 41] fr st (.seq .ret k) := evK_rs 13 rfl (by kernel_rfl)
def c71_25 : Code := .seq c71_26 c71_40
def c71_24 : Code := .cond (.tmp 26) c71_25 .skip
def c71_22 : Code := .seq (codeN b71 1515) c71_24
def c71_16 : Code := .cond (.tmp 17) c71_17 c71_22
def c71_14 : Code := .seq (codeN b71 363) c71_16
def c71_10 : Code := .cond (.tmp 14) c71_11 c71_14
def c71_8 : Code := .seq (codeN b71 75) c71_10
def c71_7 : Code := .block 0 c71_8
def c71_5 : Code := .seq (codeN b71 19) c71_7
def c71_50 : Code := codeN b71 175
def c71_49 : Code := .cond (.tmp 47) c71_50 .skip
def c71_47 : Code := .seq (codeN b71 79) c71_49
def c71_52 : Code := .seq (codeN b71 95) .ret
def c71_46 : Code := .seq c71_47 c71_52
def c71_44 : Code := .seq (codeN b71 23) c71_46
def c71_4 : Code := .seq c71_5 c71_44
def c71_2 : Code := .seq (codeN b71 5) c71_4
def c71_0 : Code := .seq (codeN b71 2) c71_2
theorem E71 : (evK gS fi71 c71_11 fr st k = opsR gS fi71 [ld 16 91 5 91,
 sto 91 4 16] fr st (.seq .ret k)) ∧
 (evK gS fi71 c71_19 fr st k = opsR gS fi71 [ld 25 91 5 91,
 sto 91 4 25] fr st (.seq .ret k)) ∧
 (evK gS fi71 c71_17 fr st k = opsR gS fi71 [op1 19 (.build 122 #[(0, (.const (.string { data := #[] }))), (1, (.const (.string { data := #[97] }))), (2, (.const (.string { data := #[98] }))), (3, (.const (.string { data := #[97, 98] })))]) 122,
 mv 20 0 23,
 cal 21 11 [(.tmp 20), (.const (.int .i64 4))] [23, 3] 3,
 op1 22 (.index 122 (.tmp 19) (.tmp 21)) 9,
 op1 23 (.build 88 #[(0, (.const (.int .i64 3))), (3, (.tmp 22))]) 88,
 op1 24 (.fieldAddr 91 (.tmp 5) 2) 0,
 sto 88 24 23] fr st (.seq c71_19 k)) ∧
 evK gS fi71 c71_33 fr st k = condK gS fi71 (fr.op (.tmp 31)).bool? .skip (.exit 1) fr st k ∧
 (evK gS fi71 c71_31 fr st k = opsR gS fi71 [mv 30 6 3,
 op1 31 (.binOp .geq 3 (.tmp 30) (.const (.int .i64 0)) 3) 4] fr st (.seq c71_33 k)) ∧
 evK gS fi71 c71_38 fr st k = drwR gS fi71 r71_38 q71_38 fr st k ∧
 (evK gS fi71 c71_39 fr st k = opsR gS fi71 [mv 32 6 3,
 op1 33 (.binOp .sub 3 (.tmp 32) (.const (.int .i64 1)) 3) 3,
 asn 6 33 3] fr st k) ∧
 evK gS fi71 c71_36 fr st k = evK gS fi71 c71_38 fr st (.blk 2 (.seq c71_39 k)) ∧
 evK gS fi71 c71_30 fr st k = evK gS fi71 c71_31 fr st (.seq c71_36 k) ∧
 evK gS fi71 c71_28 fr st k = evK gS fi71 c71_29 fr st (.blk 1 k) ∧
 (evK gS fi71 c71_26 fr st k = opsR gS fi71 [mv 28 0 23,
 cal 29 11 [(.tmp 28), (.const (.int .i64 4))] [23, 3] 3,
 asn 6 29 3] fr st (.seq c71_28 k)) ∧
 evK gS fi71 c71_25 fr st k = evK gS fi71 c71_26 fr st (.seq c71_40 k) ∧
 evK gS fi71 c71_24 fr st k = condK gS fi71 (fr.op (.tmp 26)).bool? c71_25 .skip fr st k ∧
 (evK gS fi71 c71_22 fr st k = opsR gS fi71 [op1 27 (.binOp .eql 3 (.tmp 13) (.const (.int .i64 10)) 3) 4,
 asn 26 27 4] fr st (.seq c71_24 k)) ∧
 evK gS fi71 c71_16 fr st k = condK gS fi71 (fr.op (.tmp 17)).bool? c71_17 c71_22 fr st k ∧
 (evK gS fi71 c71_14 fr st k = opsR gS fi71 [op1 18 (.binOp .eql 3 (.tmp 13) (.const (.int .i64 9)) 3) 4,
 asn 17 18 4] fr st (.seq c71_16 k)) ∧
 evK gS fi71 c71_10 fr st k = condK gS fi71 (fr.op (.tmp 14)).bool? c71_11 c71_14 fr st k ∧
 (evK gS fi71 c71_8 fr st k = opsR gS fi71 [op1 15 (.binOp .eql 3 (.tmp 13) (.const (.int .i64 1)) 3) 4,
 asn 14 15 4] fr st (.seq c71_10 k)) ∧
 evK gS fi71 c71_7 fr st k = evK gS fi71 c71_8 fr st (.blk 0 k) ∧
 (evK gS fi71 c71_5 fr st k = opsR gS fi71 [op1 12 (.fieldAddr 91 (.tmp 5) 1) 0,
 ld 13 3 12 3] fr st (.seq c71_7 k)) ∧
 (evK gS fi71 c71_50 fr st k = opsR gS fi71 [mv 48 0 23,
 cal 49 55 [(.tmp 48)] [23] 88,
 op1 50 (.fieldAddr 91 (.tmp 5) 3) 0,
 sto 88 50 49] fr st k) ∧
 evK gS fi71 c71_49 fr st k = condK gS fi71 (fr.op (.tmp 47)).bool? c71_50 .skip fr st k ∧
 (evK gS fi71 c71_47 fr st k = opsR gS fi71 [op1 45 (.fieldAddr 91 (.tmp 5) 1) 0,
 ld 46 3 45 3,
 op1 47 (.binOp .eql 3 (.tmp 46) (.const (.int .i64 8)) 3) 4] fr st (.seq c71_49 k)) ∧
 (evK gS fi71 c71_52 fr st k = opsR gS fi71 [ld 51 91 5 91,
 sto 91 4 51] fr st (.seq .ret k)) ∧
 evK gS fi71 c71_46 fr st k = evK gS fi71 c71_47 fr st (.seq c71_52 k) ∧
 (evK gS fi71 c71_44 fr st k = opsR gS fi71 [mv 42 0 23,
 cal 43 55 [(.tmp 42)] [23] 88,
 op1 44 (.fieldAddr 91 (.tmp 5) 2) 0,
 sto 88 44 43] fr st (.seq c71_46 k)) ∧
 evK gS fi71 c71_4 fr st k = evK gS fi71 c71_5 fr st (.seq c71_44 k) ∧
 (evK gS fi71 c71_2 fr st k = opsR gS fi71 [mv 7 1 9,
 mv 8 0 23,
 cal 9 11 [(.tmp 8), (.const (.int .i64 10))] [23, 3] 3,
 op1 10 (.binOp .add 3 (.const (.int .i64 1)) (.tmp 9) 3) 3,
 op1 11 (.build 91 #[(0, (.tmp 7)), (1, (.tmp 10))]) 91,
 op1 5 (.alloc 91) 0,
 sto 91 5 11] fr st (.seq c71_4 k)) ∧
 evK gS fi71 c71_0 fr st k = opsR gS fi71 [op1 4 (.alloc 91) 0] fr st (.seq c71_2 k) := ⟨evK_rs 4 rfl (by kernel_rfl), evK_rs 7 rfl (by kernel_rfl), evK_rs 6 rfl (by kernel_rfl), rfl, evK_rs 10 rfl (by kernel_rfl), evK_dr 12 rfl (by kernel_rfl) (by kernel_rfl), evK_r 11 (by kernel_rfl), rfl, rfl, rfl, evK_rs 9 rfl (by kernel_rfl), rfl, rfl, evK_rs 8 rfl (by kernel_rfl), rfl, evK_rs 5 rfl (by kernel_rfl), rfl, evK_rs 3 rfl (by kernel_rfl), rfl, evK_rs 2 rfl (by kernel_rfl), evK_r 16 (by kernel_rfl), rfl, evK_rs 15 rfl (by kernel_rfl), evK_rs 17 rfl (by kernel_rfl), rfl, evK_rs 14 rfl (by kernel_rfl), rfl, evK_rs 1 rfl (by kernel_rfl), evK_rs 0 rfl (by kernel_rfl)⟩
theorem m71 : mini fi71.body = c71_0 := by kernel_rfl
theorem n71_29 (fr : Fr) (st : St) (k : Kt) : nextK gS fi71 (.loop c71_30 k) .normal fr st = evK gS fi71 c71_29 fr st k := rfl
set_option maxHeartbeats 4000000 in
theorem T71_40 (nm : List UInt8) (l : List Int) (a id m : Nat) (vs : List Val) (hv : vs ≠ []) (st : St) (h : FeedOk st id) (e0 e1 e6 e13 : E) (h0 : e0.Tame) (h1 : e1.Tame) (h6 : e6.Tame) (h13 : e13.Tame) (T : List (Nat × E)) (X : List (Nat × List V)) (hx4 : lk X 4 = some [.str [], .int .i64 0, .int .i64 0, .int .i64 0, .float .f64 0, .str [], .bool false, .int .i64 0, .int .i64 0, .float .f64 0, .str [], .bool false, .osl 0 []]) (hx5 : lk X 5 = some [.str nm, .int .i64 10, .int .i64 0, .int .i64 0, .float .f64 0, .str [], .bool false, .int .i64 0, .int .i64 0, .float .f64 0, .str [], .bool false, .sref false 5 (st.objs.length + m) 0 vs.length]) :
    evK gS fi71 c71_40 { ps := [(0, e0), (1, e1), (4, .lp 4 0), (5, .lp 5 0), (6, e6), (13, e13)], ts := T, lc := X } (setF (nw st m (vs.flatMap Val.cells)) id l a) (.blk 0 (.seq c71_44 .nil)) = some (.ret ((⟨nm, 10, vzero, vzero, vs⟩ : Pred).enc) none, setF (dd st (m + 1)) id l a) := by
  have hm : fi71.marks = [39, 2000011, 1000000] := rfl
  have hl : fi71.locals = [4, 5] := rfl
  have hr : fi71.results = [.cell 4 91] := rfl
  have hz := fun a0 a1 a2 a3 a4 a5 a6 a7 a8 a9 a10 a11 hf => frz_predcells (a0 := a0) (a1 := a1) (a2 := a2) (a3 := a3) (a4 := a4) (a5 := a5) (a6 := a6) (a7 := a7) (a8 := a8) (a9 := a9) (a10 := a10) (a11 := a11) hf (frz_vals h 4 m vs hv l a)
  simp [lk_lset_self _ _ _ _ hx4, hx4, hx5, h0, h1, h6, h13, hz, vzero, -Int.not_le, -Int.not_lt, -Nat.not_le, -Nat.not_lt, ty3, ty4, ty9, ty23, ty88, ty89, ty91, ty122, eq88, hm, hl, hr, fi16_eq, fi17_eq, E71, q71_38, e71_40, n71_29]
set_option maxHeartbeats 8000000 in
theorem L71 (nm : List UInt8) (l : List Int) (a id : Nat) (ha : a < 549755813888) (st : St) (h : FeedOk st id) (e1 e13 : E) (h1 : e1.Tame) (h13 : e13.Tame) : ∀ (r j m : Nat) (vs : List Val) (T : List (Nat × E)) (X : List (Nat × List V)), j + 2 * r < 549755812000 → vs.length = m + 1 → vs.length + r < 1000 → lk X 4 = some [.str [], .int .i64 0, .int .i64 0, .int .i64 0, .float .f64 0, .str [], .bool false, .int .i64 0, .int .i64 0, .float .f64 0, .str [], .bool false, .osl 0 []] → lk X 5 = some [.str nm, .int .i64 10, .int .i64 0, .int .i64 0, .float .f64 0, .str [], .bool false, .int .i64 0, .int .i64 0, .float .f64 0, .str [], .bool false, .sref false 5 (st.objs.length + m) 0 (m + 1)] →
    evK gS fi71 c71_29 { ps := [(0, .val (.ptr id 0)), (1, e1), (4, .lp 4 0), (5, .lp 5 0), (6, .val (.int .i64 ((r : Int) - 1))), (13, e13)], ts := T, lc := X } (setF (nw st m (vs.flatMap Val.cells)) id l (nA l a j)) (.blk 1 (.seq c71_40 (.blk 0 (.seq c71_44 .nil)))) = some (.ret ((⟨nm, 10, vzero, vzero, vs ++ valsV l a j r⟩ : Pred).enc) none, setF (dd st (m + 1 + r)) id l (nA l a (j + 2 * r))) := by
  intro r
  have hm : fi71.marks = [39, 2000011, 1000000] := rfl
  have hl : fi71.locals = [4, 5] := rfl
  have hr : fi71.results = [.cell 4 91] := rfl
  induction r with
  | zero =>
    intro j m vs T X hj hlen hlt hx4 hx5
    refine evK_loop c71_30 _ _ _ _ rfl ?_
    have ht := fun T => T71_40 nm l (nA l a j) id m vs (by intro e; rw [e] at hlen; simp at hlen) st h (.val (.ptr id 0)) e1 (.val (.int .i64 (-1))) e13 rfl h1 rfl h13 T X hx4 (by rw [hx5, hlen])
    simp [h1, h13, ht, valsV, -Int.not_le, -Int.not_lt, -Nat.not_le, -Nat.not_lt, ty3, ty4, ty9, ty23, ty88, ty89, ty91, ty122, eq88, hm, hl, hr, fi16_eq, fi17_eq, E71, q71_38, n71_29]
  | succ r ih =>
    intro j m vs T X hj hlen hlt hx4 hx5
    refine evK_loop c71_30 _ _ _ _ rfl ?_
    have hv := fun fr => k55 l a j id fr (nw st m (vs.flatMap Val.cells)) (h.nw m _) ha (by omega)
    have e1' : ((r + 1 : Nat) : Int) - 1 = (r : Int) := by omega
    have e2 : (0 : Int) ≤ (r : Int) := by omega
    have e3 : IntKind.wrap .i64 ((r : Int) - 1) = (r : Int) - 1 := wrap64 (by omega) (by omega)
    have e4 := vals_cells_len vs
    have e5 := vals_cells_strip vs
    have e6 := vals_cells_one vs
    have e7 : ∀ v : Val, vs.flatMap Val.cells ++ [.int .i64 v.kind, .int .i64 v.n, .float .f64 v.x, .str v.s, .bool v.b] = (vs ++ [v]).flatMap Val.cells := by intro v; simp [Val.cells]
    have IH := fun T X h4 h5 => ih (j + 2) (m + 1) (vs ++ [valueV l a j]) T X (by omega) (by simp [hlen]) (by simp; omega) h4 h5
    have r1 := obj_gr h m (vs.flatMap Val.cells) l (nA l a (j + 2))
    have r2 := set_gr h m (vs.flatMap Val.cells) l (nA l a (j + 2))
    have r3 := fun fr k len cs => newRef_dd h fr (m + 1) k len cs l (nA l a (j + 2))
    have e8 : (m + 1 + 1) * 48 ≤ 140737488355328 := by omega
    have e9 : (m + 1 + 1) ≤ 140737488355328 := by omega
    rw [hlen] at e4
    rw [e1']
    rw [show valsV l a j (r + 1) = valueV l a j :: valsV l a (j + 2) r from rfl, show m + 1 + (r + 1) = m + 1 + 1 + r by omega, show j + 2 * (r + 1) = j + 2 + 2 * r by omega, List.append_cons vs]
    simp [-List.append_assoc, -List.flatMap_append, -St.obj, -St.set, h1, h13, hx4, hx5, hv, e2, e3, e4, e5, e6, e7, e8, e9, r1, r2, r3, markStep, markAppend, elemsAt, lk_lset_self _ _ _ _ hx5, -Int.not_le, -Int.not_lt, -Nat.not_le, -Nat.not_lt, ty3, ty4, ty9, ty23, ty88, ty89, ty91, ty122, eq88, hm, hl, hr, fi16_eq, fi17_eq, E71, q71_38, n71_29]
    exact IH _ _ (by simp [hx4]) (lk_lset_self _ _ _ _ hx5)
set_option maxHeartbeats 8000000 in
theorem c71 (l : List Int) (a j id : Nat) (nm : List UInt8) (st : St) (h : FeedOk st id) (ha : a < 549755813888) (hj : j < 549755811000) :
    EvF gS 71 [.ptr id 0, .str nm] (setF st id l (nA l a j)) = some (.ret (predV l a j nm).1.enc none, setF (dd st (predV l a j nm).1.set.length) id l (nA l a (j + (predV l a j nm).2))) := by
  refine EvF_start fi29_eq (fun x h => by cases h) m71 ?_
  rw [st71]
  have hm : fi71.marks = [39, 2000011, 1000000] := rfl
  have hl : fi71.locals = [4, 5] := rfl
  have hr : fi71.results = [.cell 4 91] := rfl
  have hb := fd_bound l a j (n := 10) (by omega)
  have hb4 := fd_bound l a (j + 1) (n := 4) (by omega)
  unfold predV
  have hk := fun fr => k11 l a j id 10 fr st h ha (by omega) (by omega)
  have hk4 := fun fr => k11 l a (j + 1) id 4 fr st h ha (by omega) (by omega)
  have hv1 := fun fr => k55 l a (j + 1) id fr st h ha (by omega)
  have hv3 := fun fr => k55 l a (j + 3) id fr st h ha (by omega)
  generalize fd l a j 10 = z at *
  generalize fd l a (j + 1) 4 = y at *
  have hz : z = 0 ∨ z = 1 ∨ z = 2 ∨ z = 3 ∨ z = 4 ∨ z = 5 ∨ z = 6 ∨ z = 7 ∨ z = 8 ∨ z = 9 := by omega
  have hy : y = 0 ∨ y = 1 ∨ y = 2 ∨ y = 3 := by omega
  have d0 := dd_zero st
  have a2 : j + 1 + 1 = j + 2 := rfl
  have a5 : j + 3 + 2 = j + 5 := rfl
  have a3 : j + 1 + 2 = j + 3 := by omega
  have hz2 := fun st a0 a1 a2 a3 a4 a5 a6 a7 a8 a9 a10 a11 hf => frz_predcells (a0 := a0) (a1 := a1) (a2 := a2) (a3 := a3) (a4 := a4) (a5 := a5) (a6 := a6) (a7 := a7) (a8 := a8) (a9 := a9) (a10 := a10) (a11 := a11) hf (frz_nil 4 st)
  have en : encVals [] = [] := rfl
  rcases hz with rfl | rfl | rfl | rfl | rfl | rfl | rfl | rfl | rfl | rfl
  case inr.inr.inr.inr.inr.inr.inr.inr.inl => rcases hy with rfl | rfl | rfl | rfl <;> simp [P4, vzero, d0, en, a2, a3, a5, hz2, w64_1, w64_2, w64_3, w64_4, w64_5, w64_6, w64_7, w64_8, w64_9, w64_10, hk, hk4, hv1, hv3, -Int.not_le, -Int.not_lt, -Nat.not_le, -Nat.not_lt, ty3, ty4, ty9, ty23, ty88, ty89, ty91, ty122, eq88, hm, hl, hr, fi16_eq, fi17_eq, E71, q71_38, n71_29]
  case inr.inr.inr.inr.inr.inr.inr.inr.inr =>
    have hv2 := fun fr => k55 l a (j + 2) id fr st h ha (by omega)
    have e2 : (0 : Int) ≤ y := by omega
    have e3 : IntKind.wrap .i64 (y - 1) = y - 1 := wrap64 (by omega) (by omega)
    have r3 := fun fr k len cs => newRef_setF h fr k len cs l (nA l a (j + 2 + 2))
    simp [-St.obj, -St.set, a2, w64_1, w64_2, w64_3, w64_4, w64_5, w64_6, w64_7, w64_8, w64_9, w64_10, hk, hk4, hv1, hv3, -Int.not_le, -Int.not_lt, -Nat.not_le, -Nat.not_lt, ty3, ty4, ty9, ty23, ty88, ty89, ty91, ty122, eq88, hm, hl, hr, fi16_eq, fi17_eq, E71, q71_38, n71_29]
    refine evK_loop c71_30 _ _ _ _ rfl ?_
    simp [-St.obj, -St.set, e2, e3, hv2, r3, markStep, markAppend, elemsAt, -Int.not_le, -Int.not_lt, -Nat.not_le, -Nat.not_lt, ty3, ty4, ty9, ty23, ty88, ty89, ty91, ty122, eq88, hm, hl, hr, fi16_eq, fi17_eq, E71, q71_38, n71_29]
    have hf := fun T X => L71 nm l a id ha st h (.val (.str nm)) (.val (.int .i64 10)) rfl rfl y.toNat (j + 2 + 2) 0 [valueV l a (j + 2)] T X (by omega) rfl (by simp; omega)
    have ey : ((y.toNat : Nat) : Int) = y := by omega
    rw [ey] at hf
    refine Eq.trans (hf _ _ ?_ ?_) ?_
    · simp
    · simp
    · have hl := vals_length l a (y.toNat + 1) (j + 2)
      have hc : [valueV l a (j + 2)] ++ valsV l a (j + 2 + 2) y.toNat = valsV l a (j + 2) (y.toNat + 1) := rfl
      rw [hc, hl]
      rw [show 0 + 1 + y.toNat = y.toNat + 1 by omega, show j + 2 + 2 + 2 * y.toNat = j + (2 + 2 * (y.toNat + 1)) by omega]
      rfl
  all_goals simp [vzero, d0, en, a2, a3, a5, hz2, w64_1, w64_2, w64_3, w64_4, w64_5, w64_6, w64_7, w64_8, w64_9, w64_10, hk, hk4, hv1, hv3, -Int.not_le, -Int.not_lt, -Nat.not_le, -Nat.not_lt, ty3, ty4, ty9, ty23, ty88, ty89, ty91, ty122, eq88, hm, hl, hr, fi16_eq, fi17_eq, E71, q71_38, n71_29]
theorem k71 (l : List Int) (a j id : Nat) (nm : List UInt8) (fr : Fr) (st : St) (h : FeedOk st id) (ha : a < 549755813888) (hj : j < 549755811000) :
    callStep gS (EvF gS) 71 [.ptr id 0, .str nm] fr (setF st id l (nA l a j)) = some (.ok (.val ((predV l a j nm).1.enc)) (fr.map E.noMem) (setF (dd st ((predV l a j nm).1.set.length)) id l (nA l a (j + (predV l a j nm).2)))) := by
  unfold callStep
  simp only [show gS.ext 71 = none from rfl, fi29_eq, show fi71.pure = false from rfl, Bool.false_eq_true, if_false, c71 l a j id nm st h ha (by omega), retE]
  all_goals rfl
end
end Go.Proofs.Ytdoobejjedpcgaa
namespace Go.Ab
open Go
set_option linter.unusedVariables false
set_option linter.unusedSimpArgs false
set_option linter.unnecessarySimpa false
def sgt (a b : List UInt8) : Bool := !(Op.bytesLess a b || decide (a = b))
/-- Right ones, their names not falling. -/
def rises : Option (List UInt8) → List Pred → Bool
  | _, [] => true
  | none, p :: r => pright p && rises (some p.name) r
  | some n, p :: r => pright p && !sgt n p.name && rises (some p.name) r
def fright (f : List Pred) : Bool := decide (f.length ≤ 3) && rises none f
def fcov1 (p : Pred) (g : List Pred) : Bool := g.any fun q => decide (q.name = p.name) && pimplies q p
def fcovers (f g : List Pred) : Bool := g.any pvoid || f.all fun p => fcov1 p g
def fsames : List Pred → List Pred → Bool
  | [], [] => true
  | a :: r, b :: s => psame a b && fsames r s
  | _, _ => false
def fsame (f g : List Pred) : Bool := decide (f.length = g.length) && fsames f g
def encPredss (l : List (List Pred)) : List V := l.map fun f => V.slice (encPreds f)
theorem encPredss_length (l : List (List Pred)) : (encPredss l).length = l.length := by simp [encPredss]
theorem encPredss_get (l : List (List Pred)) (i : Nat) : (encPredss l)[i]? = (l[i]?).map fun f => V.slice (encPreds f) := by simp [encPredss]
theorem encPredss_gE (l : List (List Pred)) (i : Nat) (h : i < (encPredss l).length) : (encPredss l)[i]'h = .slice (encPreds (l[i]'(by rw [encPredss_length] at h; exact h))) := by simp [encPredss]
theorem flats_predss (l : List (List Pred)) : flats (encPredss l) = true := by
  induction l with
  | nil => rfl
  | cons x r ih => simp only [encPredss, List.map_cons, flats, V.flat, flats_preds] at ih ⊢; exact ih
attribute [simp] encPredss_length encPredss_get encPredss_gE flats_predss
/-- Of a size that may be handled. -/
def POk (f : List Pred) : Prop := f.length < 4611686018427387904 ∧ ∀ p ∈ f, p.ok
theorem POk.get {f : List Pred} (h : POk f) {i : Nat} {p : Pred} (hp : f[i]? = some p) : p.ok := h.2 p (List.mem_of_getElem? hp)
theorem rises_some (n : List UInt8) (p : Pred) (r : List Pred) : rises (some n) (p :: r) = (pright p && !sgt n p.name && rises (some p.name) r) := rfl
theorem rises_none (p : Pred) (r : List Pred) : rises none (p :: r) = (pright p && rises (some p.name) r) := rfl
theorem rises_nil (o : Option (List UInt8)) : rises o [] = true := by cases o <;> rfl
/-- The name prevN of a place. -/
def prevN (f : List Pred) (i : Nat) : Option (List UInt8) := if i = 0 then none else (f[i - 1]?).map Pred.name
theorem prevN_zero (f : List Pred) : prevN f 0 = none := rfl
theorem prevN_succ {f : List Pred} {i : Nat} {p : Pred} (h : f[i]? = some p) : prevN f (i + 1) = some p.name := by
  unfold prevN; rw [if_neg (by omega), Nat.add_sub_cancel, h]; rfl
theorem fsames_len : ∀ {a b : List Pred}, fsames a b = true → a.length = b.length
  | [], [], _ => rfl
  | a :: r, b :: s, h => by
    simp only [fsames, Bool.and_eq_true] at h
    simp [fsames_len h.2]
  | [], _ :: _, h => by simp [fsames] at h
  | _ :: _, [], h => by simp [fsames] at h
end Go.Ab
namespace Go.Proofs.Ytdoobejjedpcgaa
open Go Go.Ab
set_option linter.unusedVariables false
set_option linter.unusedSimpArgs false
set_option linter.unnecessarySimpa false
set_option maxRecDepth 20000
noncomputable section
variable (fr : Fr) (st : St) (k : Kt)
def fi49 : FI := { body := codeOf Try.f49, ntmps := 27, results := [.tmp 4], pers := [0, 1, 4, 5, 12, 13], locals := [], pure := true, marks := [] }
theorem fi41_eq : gS.fn 49 = some fi49 := by kernel_rfl
theorem st49 (a0 a1 : V) : startFr fi49 [a0, a1] = { ps := [(0, .val a0), (1, .val a1), (4, .any), (5, .any), (12, .any), (13, .any)], ts := [], lc := [] } := rfl
def b49 : Code := mini (codeOf Try.f49)
def c49_6 : Code := .seq (codeN b49 37) .ret
def c49_5 : Code := .cond (.tmp 10) c49_6 .skip
def c49_3 : Code := .seq (codeN b49 9) c49_5
def r49_26 : Array Oper := regOps (codeN (codeOf Try.f49) 5323)
def c49_26 : Code := .region 6 r49_26 true
def q49_26 : List (Oper × Fl) := [(mv 16 0 29, ⟨true, false, true, false, false, false, true, true, false, false, []⟩),
 (mv 17 5 3, ⟨true, false, true, false, false, false, true, true, false, false, []⟩),
 (ixa 18 29 16 17 0, ⟨true, false, true, false, false, false, true, true, false, false, []⟩),
 (ld 19 91 18 91, ⟨true, false, true, false, false, false, true, true, false, false, []⟩),
 (mv 20 1 29, ⟨true, false, true, false, false, false, true, true, false, false, []⟩),
 (mv 21 5 3, ⟨true, false, true, false, true, false, true, true, false, false, []⟩),
 (ixa 22 29 20 21 0, ⟨true, false, true, false, true, false, true, true, false, false, []⟩),
 (ld 23 91 22 91, ⟨true, false, true, false, true, false, true, true, false, false, []⟩),
 (cal 24 80 [(.tmp 19), (.tmp 23)] [91, 91] 4, ⟨true, true, true, false, true, true, true, true, false, false, []⟩),
 (op1 25 (.unOp .not 4 (.tmp 24)) 4, ⟨true, true, true, false, true, false, true, true, false, false, []⟩)]
def c49_28 : Code := .seq (codeN b49 19659) .ret
def c49_27 : Code := .cond (.tmp 25) c49_28 .skip
def c49_25 : Code := .seq c49_26 c49_27
def c49_23 : Code := .seq (codeN b49 2251) c49_25
def c49_32 : Code := codeN b49 971
def c49_21 : Code := .seq (.block 1 c49_23) c49_32
def c49_17 : Code := .seq (.cond (.tmp 14) .skip (.exit 0)) c49_21
def c49_15 : Code := .seq (codeN b49 139) c49_17
def c49_14 : Code := .loop c49_15
def c49_13 : Code := .block 0 c49_14
def c49_11 : Code := .seq (codeN b49 19) c49_13
def c49_33 : Code := .seq (codeN b49 23) .ret
def c49_10 : Code := .seq c49_11 c49_33
def c49_2 : Code := .seq c49_3 c49_10
def c49_0 : Code := .seq (codeN b49 2) c49_2
theorem E49 : evK gS fi49 c49_6 fr st k = opsR gS fi49 [op1 4 (.assign (.const (.bool false))) 4] fr st (.seq .ret k) ∧
 evK gS fi49 c49_5 fr st k = condK gS fi49 (fr.op (.tmp 10)).bool? c49_6 .skip fr st k ∧
 (evK gS fi49 c49_3 fr st k = opsR gS fi49 [mv 6 0 29,
 len1 7 6 29 3,
 mv 8 1 29,
 len1 9 8 29 3,
 bop 10 .neq 3 7 9 3 4] fr st (.seq c49_5 k)) ∧
 evK gS fi49 c49_26 fr st k = drwR gS fi49 r49_26 q49_26 fr st k ∧
 evK gS fi49 c49_28 fr st k = opsR gS fi49 [op1 4 (.assign (.const (.bool false))) 4] fr st (.seq .ret k) ∧
 evK gS fi49 c49_27 fr st k = condK gS fi49 (fr.op (.tmp 25)).bool? c49_28 .skip fr st k ∧
 evK gS fi49 c49_25 fr st k = evK gS fi49 c49_26 fr st (.seq c49_27 k) ∧
 (evK gS fi49 c49_23 fr st k = opsR gS fi49 [mv 15 13 3,
 asn 5 15 3] fr st (.seq c49_25 k)) ∧
 (evK gS fi49 c49_32 fr st k = opsR gS fi49 [op1 26 (.binOp .add 3 (.tmp 13) (.const (.int .i64 1)) 3) 3,
 mv 13 26 3] fr st k) ∧
 evK gS fi49 c49_21 fr st k = evK gS fi49 c49_23 fr st (.blk 1 (.seq c49_32 k)) ∧
 evK gS fi49 c49_17 fr st k = condK gS fi49 (fr.op (.tmp 14)).bool? .skip (.exit 0) fr st (.seq c49_21 k) ∧
 evK gS fi49 c49_15 fr st k = opsR gS fi49 [bop 14 .lss 3 13 12 3 0] fr st (.seq c49_17 k) ∧
 evK gS fi49 c49_13 fr st k = evK gS fi49 c49_14 fr st (.blk 0 k) ∧
 (evK gS fi49 c49_11 fr st k = opsR gS fi49 [mv 11 0 29,
 len1 12 11 29 3,
 op1 13 (.move (.const (.int .i64 0))) 3] fr st (.seq c49_13 k)) ∧
 evK gS fi49 c49_33 fr st k = opsR gS fi49 [op1 4 (.assign (.const (.bool true))) 4] fr st (.seq .ret k) ∧
 evK gS fi49 c49_10 fr st k = evK gS fi49 c49_11 fr st (.seq c49_33 k) ∧
 evK gS fi49 c49_2 fr st k = evK gS fi49 c49_3 fr st (.seq c49_10 k) ∧
 evK gS fi49 c49_0 fr st k = opsR gS fi49 [op1 4 (.assign (.const (.bool false))) 4] fr st (.seq c49_2 k) := ⟨evK_rs 2 rfl (by kernel_rfl), rfl, evK_rs 1 rfl (by kernel_rfl), evK_dr 6 rfl (by kernel_rfl) (by kernel_rfl), evK_rs 7 rfl (by kernel_rfl), rfl, rfl, evK_rs 5 rfl (by kernel_rfl), evK_r 8 (by kernel_rfl), rfl, rfl, evK_rs 4 rfl (by kernel_rfl), rfl, evK_rs 3 rfl (by kernel_rfl), evK_rs 9 rfl (by kernel_rfl), rfl, rfl, evK_rs 0 rfl (by kernel_rfl)⟩
theorem m49 : mini fi49.body = c49_0 := by kernel_rfl
theorem n49_14 (fr : Fr) (st : St) (k : Kt) : nextK gS fi49 (.loop c49_15 k) .normal fr st = evK gS fi49 c49_14 fr st k := rfl
set_option maxHeartbeats 4000000 in
theorem L49_14 (f : List Pred) (g : List Pred) (h_f : POk f) (h_g : POk g) (st : St) : ∀ (n i : Nat) (j : Int) (m : Int) (e5 : E) (T : List (Nat × E)) (X : List (Nat × List V)) (ht5 : e5.Tame) (hlen : f.length = g.length) (hm12 : m = ((f.length : Nat) : Int)), j = (i : Int) → i ≤ (f).length → (f).length - i = n →
    evK gS fi49 c49_14 { ps := [(0, .val (.slice (encPreds f))), (1, .val (.slice (encPreds g))), (4, .val (.bool false)), (5, e5), (12, .val (.int .i64 m)), (13, .val (.int .i64 j))], ts := T, lc := X } st (.blk 0 (.seq c49_33 .nil)) = some ((.ret (.bool (fsames (f.drop i) (g.drop i))) none), st) := by
  intro n
  have hm : fi49.marks = [] := rfl
  have hl : fi49.locals = [] := rfl
  have hr : fi49.results = [.tmp 4] := rfl
  have hfl := h_f.1
  induction n with
  | zero =>
    intro i j m e5 T X ht5 hlen hm12 hj hi hn
    obtain rfl : i = (f).length := by omega
    subst hj
    subst hm12
    have hz : g.drop f.length = [] := List.drop_eq_nil_of_le (by omega)
    refine evK_loop c49_15 _ st _ _ rfl ?_
    simp (config := { contextual := true, maxSteps := 10000000, maxDischargeDepth := 6 }) [-Int.not_le, -Int.not_lt, -Nat.not_le, -Nat.not_lt, ty3, ty4, ty29, ty91, hm, hl, hr, k80, x80, fi25_eq, p80, E49, q49_26, n49_14, ht5, hz]
    all_goals try simp (config := { contextual := true }) [-Int.not_le, -Int.not_lt, -Nat.not_le, -Nat.not_lt, fsames]
    all_goals first | done | grind | omega | (trace_state; fail)
  | succ n ih =>
    intro i j m e5 T X ht5 hlen hm12 hj hi hn
    subst hj
    obtain ⟨x, hx⟩ : ∃ x, (f)[i]? = some x := ⟨(f)[i]'(by omega), List.getElem?_eq_getElem (by omega)⟩
    have hd := drop_get hx
    have hlt : (i : Int) < ((f).length : Int) := by omega
    have hlt2 : i < (f).length := by omega
    have hxe : (f)[i]'hlt2 = x := by rw [List.getElem?_eq_getElem hlt2] at hx; exact Option.some.inj hx
    have hw : IntKind.wrap .i64 ((i : Int) + 1) = (i : Int) + 1 := wrap64 (by omega) (by omega)
    subst hm12
    have hpo := h_f.get hx
    have hxo := hpo.1
    have hxs := hpo.2
    obtain ⟨y, hy⟩ : ∃ y, (g)[i]? = some y := ⟨(g)[i]'(by omega), List.getElem?_eq_getElem (by omega)⟩
    have hyd := drop_get hy
    have hyl : i < (g).length := by omega
    have hye : (g)[i]'hyl = y := by rw [List.getElem?_eq_getElem hyl] at hy; exact Option.some.inj hy
    have hpy := h_g.get hy
    have hyo := hpy.1
    have hys := hpy.2
    have IH := fun m e5 T X ht5 hlen hm12 => ih (i + 1) ((i : Int) + 1) m e5 T X ht5 hlen hm12 rfl (by omega) (by omega)
    refine evK_loop c49_15 _ st _ _ rfl ?_
    simp (config := { contextual := true, maxSteps := 10000000, maxDischargeDepth := 6 }) [-Int.not_le, -Int.not_lt, -Nat.not_le, -Nat.not_lt, ty3, ty4, ty29, ty91, hm, hl, hr, k80, x80, fi25_eq, p80, E49, q49_26, n49_14, ht5, hx, hxe, hd, hlt, hlt2, hw, IH, hy, hye, hyd, hlen, hxo, hxs, hyo, hys]
    all_goals try simp (config := { contextual := true }) [-Int.not_le, -Int.not_lt, -Nat.not_le, -Nat.not_lt, fsames]
    all_goals first | done | grind | omega | (trace_state; fail)
set_option maxHeartbeats 4000000 in
theorem c49 (f : List Pred) (g : List Pred) (h_f : POk f) (h_g : POk g) (st : St) : EvF gS 49 [.slice (encPreds f), .slice (encPreds g)] st = some (.ret (.bool (fsame f g)) none, st) := by
  refine EvF_start fi41_eq (fun x h => by cases h) m49 ?_
  rw [st49]
  have hm : fi49.marks = [] := rfl
  have hl : fi49.locals = [] := rfl
  have hr : fi49.results = [.tmp 4] := rfl
  have hfl := h_f.1
  simp (config := { contextual := true, maxSteps := 10000000, maxDischargeDepth := 6 }) [-Int.not_le, -Int.not_lt, -Nat.not_le, -Nat.not_lt, ty3, ty4, ty29, ty91, hm, hl, hr, k80, x80, fi25_eq, p80, E49, q49_26, n49_14, (fun m e5 T X ht5 hlen hm12 => L49_14 f g h_f h_g st _ 0 0  m e5 T X ht5 hlen hm12 rfl (Nat.zero_le _) rfl), hfl]
  all_goals try simp (config := { contextual := true }) [-Int.not_le, -Int.not_lt, -Nat.not_le, -Nat.not_lt, fsame]
  all_goals first | done | grind | omega | (trace_state; fail)
theorem k49 (f : List Pred) (g : List Pred) (h_f : POk f) (h_g : POk g) (fr : Fr) (st : St) : callStep gS (EvF gS) 49 [.slice (encPreds f), .slice (encPreds g)] fr st = some (.ok (retE none (.bool (fsame f g))) fr st) :=
  call_pure rfl fi41_eq rfl (fun st => c49 f g h_f h_g st) (by simp)
end
end Go.Proofs.Ytdoobejjedpcgaa
namespace Go.Proofs.Ytdoobejjedpcgaa
open Go Go.Ab
set_option linter.unusedVariables false
set_option linter.unusedSimpArgs false
set_option linter.unnecessarySimpa false
set_option maxRecDepth 20000
noncomputable section
variable (fr : Fr) (st : St) (k : Kt)
def fi130 : FI := { body := codeOf Try.f130, ntmps := 34, results := [.tmp 2], pers := [0, 2, 3, 4, 8, 9, 10], locals := [4], pure := true, marks := [] }
theorem fi37_eq : gS.fn 130 = some fi130 := by kernel_rfl
theorem st130 (a0 : V) : startFr fi130 [a0] = { ps := [(0, .val a0), (2, .any), (3, .any), (4, .any), (8, .any), (9, .any), (10, .any)], ts := [], lc := [] } := rfl
def b130 : Code := mini (codeOf Try.f130)
def c130_6 : Code := .seq (codeN b130 37) .ret
def c130_5 : Code := .cond (.tmp 7) c130_6 .skip
def c130_3 : Code := .seq (codeN b130 9) c130_5
def r130_26 : Array Oper := regOps (codeN (codeOf Try.f130) 5323)
def c130_26 : Code := .region 6 r130_26 true
def q130_26 : List (Oper × Fl) := [(ld 15 91 4 91, ⟨true, true, true, false, true, false, true, true, false, false, []⟩),
 (cal 16 97 [(.tmp 15)] [91] 4, ⟨true, true, true, false, true, true, true, true, false, false, []⟩),
 (op1 17 (.unOp .not 4 (.tmp 16)) 4, ⟨true, true, true, false, true, false, true, true, false, false, []⟩),
 (mv 18 17 4, ⟨true, true, true, false, true, false, true, true, false, false, []⟩),
 (mk (some 19) (.move (.tmp 3)) 3 (some (3, false)), ⟨true, true, true, false, true, false, true, true, false, false, []⟩),
 (mk (some 20) (.binOp .gtr 3 (.tmp 19) (.const (.int .i64 0)) 3) 4 (some (3, false)), ⟨true, true, true, false, true, false, true, true, false, false, []⟩),
 (mk (some 21) (.move (.tmp 20)) 4 (some (3, false)), ⟨true, true, true, false, true, false, true, true, false, false, []⟩),
 (mk (some 22) (.move (.tmp 0)) 29 (some (6, true)), ⟨true, false, true, false, false, false, true, true, false, false, []⟩),
 (mk (some 23) (.move (.tmp 3)) 3 (some (6, true)), ⟨true, false, true, false, false, false, true, true, false, false, []⟩),
 (mk (some 24) (.binOp .sub 3 (.tmp 23) (.const (.int .i64 1)) 3) 3 (some (6, true)), ⟨true, false, true, false, false, false, true, true, false, false, []⟩),
 (mk (some 25) (.indexAddr 29 (.tmp 22) (.tmp 24)) 0 (some (6, true)), ⟨true, false, true, false, false, false, true, true, false, false, []⟩),
 (mk (some 26) (.fieldAddr 91 (.tmp 25) 0) 0 (some (6, true)), ⟨true, false, true, false, false, false, true, true, false, false, []⟩),
 (mk (some 27) (.load 9 (.tmp 26)) 9 (some (6, true)), ⟨true, false, true, false, false, false, true, true, false, false, []⟩),
 (mk (some 28) (.fieldAddr 91 (.tmp 4) 0) 0 (some (6, true)), ⟨true, false, true, false, true, false, true, true, false, false, []⟩),
 (mk (some 29) (.load 9 (.tmp 28)) 9 (some (6, true)), ⟨true, false, true, false, true, false, true, true, false, false, []⟩),
 (mk (some 30) (.binOp .gtr 9 (.tmp 27) (.tmp 29) 9) 4 (some (6, true)), ⟨true, false, true, false, true, false, true, true, false, false, []⟩),
 (mk (some 31) (.pick (.tmp 21) (.tmp 30) (.const (.bool false))) 4 (some (3, false)), ⟨true, false, true, false, true, false, true, true, false, false, []⟩),
 (op1 32 (.pick (.tmp 18) (.const (.bool true)) (.tmp 31)) 4, ⟨true, false, true, false, true, false, true, true, false, false, []⟩)]
def c130_28 : Code := .seq (codeN b130 19659) .ret
def c130_27 : Code := .cond (.tmp 32) c130_28 .skip
def c130_25 : Code := .seq c130_26 c130_27
def c130_23 : Code := .seq (codeN b130 2251) c130_25
def c130_32 : Code := codeN b130 971
def c130_21 : Code := .seq (.block 1 c130_23) c130_32
def c130_17 : Code := .seq (.cond (.tmp 11) .skip (.exit 0)) c130_21
def c130_15 : Code := .seq (codeN b130 139) c130_17
def c130_14 : Code := .loop c130_15
def c130_13 : Code := .block 0 c130_14
def c130_11 : Code := .seq (codeN b130 19) c130_13
def c130_33 : Code := .seq (codeN b130 23) .ret
def c130_10 : Code := .seq c130_11 c130_33
def c130_2 : Code := .seq c130_3 c130_10
def c130_0 : Code := .seq (codeN b130 2) c130_2
theorem E130 : evK gS fi130 c130_6 fr st k = opsR gS fi130 [op1 2 (.assign (.const (.bool false))) 4] fr st (.seq .ret k) ∧
 evK gS fi130 c130_5 fr st k = condK gS fi130 (fr.op (.tmp 7)).bool? c130_6 .skip fr st k ∧
 (evK gS fi130 c130_3 fr st k = opsR gS fi130 [mv 5 0 29,
 len1 6 5 29 3,
 op1 7 (.binOp .gtr 3 (.tmp 6) (.const (.int .i64 3)) 3) 4] fr st (.seq c130_5 k)) ∧
 evK gS fi130 c130_26 fr st k = drwR gS fi130 r130_26 q130_26 fr st k ∧
 evK gS fi130 c130_28 fr st k = opsR gS fi130 [op1 2 (.assign (.const (.bool false))) 4] fr st (.seq .ret k) ∧
 evK gS fi130 c130_27 fr st k = condK gS fi130 (fr.op (.tmp 32)).bool? c130_28 .skip fr st k ∧
 evK gS fi130 c130_25 fr st k = evK gS fi130 c130_26 fr st (.seq c130_27 k) ∧
 (evK gS fi130 c130_23 fr st k = opsR gS fi130 [mv 12 10 3,
 ixa 13 29 8 10 0,
 ld 14 91 13 91,
 op1 4 (.alloc 91) 0,
 asn 3 12 3,
 sto 91 4 14] fr st (.seq c130_25 k)) ∧
 (evK gS fi130 c130_32 fr st k = opsR gS fi130 [op1 33 (.binOp .add 3 (.tmp 10) (.const (.int .i64 1)) 3) 3,
 mv 10 33 3] fr st k) ∧
 evK gS fi130 c130_21 fr st k = evK gS fi130 c130_23 fr st (.blk 1 (.seq c130_32 k)) ∧
 evK gS fi130 c130_17 fr st k = condK gS fi130 (fr.op (.tmp 11)).bool? .skip (.exit 0) fr st (.seq c130_21 k) ∧
 evK gS fi130 c130_15 fr st k = opsR gS fi130 [bop 11 .lss 3 10 9 3 0] fr st (.seq c130_17 k) ∧
 evK gS fi130 c130_13 fr st k = evK gS fi130 c130_14 fr st (.blk 0 k) ∧
 (evK gS fi130 c130_11 fr st k = opsR gS fi130 [mv 8 0 29,
 len1 9 8 29 3,
 op1 10 (.move (.const (.int .i64 0))) 3] fr st (.seq c130_13 k)) ∧
 evK gS fi130 c130_33 fr st k = opsR gS fi130 [op1 2 (.assign (.const (.bool true))) 4] fr st (.seq .ret k) ∧
 evK gS fi130 c130_10 fr st k = evK gS fi130 c130_11 fr st (.seq c130_33 k) ∧
 evK gS fi130 c130_2 fr st k = evK gS fi130 c130_3 fr st (.seq c130_10 k) ∧
 evK gS fi130 c130_0 fr st k = opsR gS fi130 [op1 2 (.assign (.const (.bool false))) 4] fr st (.seq c130_2 k) := ⟨evK_rs 2 rfl (by kernel_rfl), rfl, evK_rs 1 rfl (by kernel_rfl), evK_dr 6 rfl (by kernel_rfl) (by kernel_rfl), evK_rs 7 rfl (by kernel_rfl), rfl, rfl, evK_rs 5 rfl (by kernel_rfl), evK_r 8 (by kernel_rfl), rfl, rfl, evK_rs 4 rfl (by kernel_rfl), rfl, evK_rs 3 rfl (by kernel_rfl), evK_rs 9 rfl (by kernel_rfl), rfl, rfl, evK_rs 0 rfl (by kernel_rfl)⟩
theorem m130 : mini fi130.body = c130_0 := by kernel_rfl
theorem n130_14 (fr : Fr) (st : St) (k : Kt) : nextK gS fi130 (.loop c130_15 k) .normal fr st = evK gS fi130 c130_14 fr st k := rfl
set_option maxHeartbeats 8000000 in
theorem L130_14 (f : List Pred) (h_f : POk f) (st : St) : ∀ (n i : Nat) (e3 e4 : E) (T : List (Nat × E)) (X : List (Nat × List V)) (ht3 : e3.Tame) (ht4 : e4.Tame), i ≤ f.length → f.length - i = n →
    evK gS fi130 c130_14 { ps := [(0, .val (.slice (encPreds f))), (2, .val (.bool false)), (3, e3), (4, e4), (8, .val (.slice (encPreds f))), (9, .val (.int .i64 f.length)), (10, .val (.int .i64 (i : Nat)))], ts := T, lc := X } st (.blk 0 (.seq c130_33 .nil)) = some (.ret (.bool (rises (prevN f i) (f.drop i))) none, st) := by
  intro n
  have hm : fi130.marks = [] := rfl
  have hl : fi130.locals = [4] := rfl
  have hr : fi130.results = [.tmp 2] := rfl
  have hfl := h_f.1
  induction n with
  | zero =>
    intro i e3 e4 T X ht3 ht4 hi hn
    obtain rfl : i = f.length := by omega
    refine evK_loop c130_15 _ st _ _ rfl ?_
    simp (config := { contextual := true, maxSteps := 10000000, maxDischargeDepth := 6 }) [rises_nil, ht3, ht4, -Int.not_le, -Int.not_lt, -Nat.not_le, -Nat.not_lt, ty3, ty4, ty9, ty29, ty91, hm, hl, hr, k97, x97, fi19_eq, p97, E130, q130_26, n130_14]
    all_goals first | done | grind | omega
  | succ n ih =>
    intro i e3 e4 T X ht3 ht4 hi hn
    obtain ⟨x, hx⟩ : ∃ x, f[i]? = some x := ⟨f[i]'(by omega), List.getElem?_eq_getElem (by omega)⟩
    have hd := drop_get hx
    have hlt : (i : Int) < (f.length : Int) := by omega
    have hlt2 : i < f.length := by omega
    have hxe : f[i]'hlt2 = x := by rw [List.getElem?_eq_getElem hlt2] at hx; exact Option.some.inj hx
    have hw : IntKind.wrap .i64 ((i : Int) + 1) = ((i + 1 : Nat) : Int) := by rw [wrap64 (by omega) (by omega)]; omega
    have hxo := (h_f.get hx).1
    have hxs := (h_f.get hx).2
    have IH := fun e3 e4 T X ht3 ht4 => ih (i + 1) e3 e4 T X ht3 ht4 (by omega) (by omega)
    rw [prevN_succ hx] at IH
    refine evK_loop c130_15 _ st _ _ rfl ?_
    rw [hd]
    by_cases h0 : i = 0
    · subst h0
      rw [prevN_zero, rises_none]
      simp only [Nat.zero_add, show ((1 : Nat) : Int) = 1 from rfl, List.drop_one] at IH
      cases hpr : pright x with
      | true => simp (config := { contextual := true, maxSteps := 10000000, maxDischargeDepth := 6 }) [-Int.natCast_add, w64_1, hx, hxe, hlt, hlt2, hxo, hxs, hpr, IH, ht3, ht4, -Int.not_le, -Int.not_lt, -Nat.not_le, -Nat.not_lt, ty3, ty4, ty9, ty29, ty91, hm, hl, hr, k97, x97, fi19_eq, p97, E130, q130_26, n130_14]
      | false => simp (config := { contextual := true, maxSteps := 10000000, maxDischargeDepth := 6 }) [-Int.natCast_add, hx, hxe, hlt, hlt2, hw, hxo, hxs, hpr, ht3, ht4, -Int.not_le, -Int.not_lt, -Nat.not_le, -Nat.not_lt, ty3, ty4, ty9, ty29, ty91, hm, hl, hr, k97, x97, fi19_eq, p97, E130, q130_26, n130_14]
    · obtain ⟨y, hy⟩ : ∃ y, f[i - 1]? = some y := ⟨f[i - 1]'(by omega), List.getElem?_eq_getElem (by omega)⟩
      have hyl : i - 1 < f.length := by omega
      have hye : f[i - 1]'hyl = y := by rw [List.getElem?_eq_getElem hyl] at hy; exact Option.some.inj hy
      have ha : prevN f i = some y.name := by unfold prevN; rw [if_neg h0, hy]; rfl
      have hip : (0 : Int) < (i : Int) := by omega
      have hip2 : 0 < i := by omega
      have hw1 : IntKind.wrap .i64 ((i : Int) - 1) = ((i - 1 : Nat) : Int) := by rw [wrap64 (by omega) (by omega)]; omega
      rw [ha, rises_some]
      cases hpr : pright x with
      | false => simp (config := { contextual := true, maxSteps := 10000000, maxDischargeDepth := 6 }) [-Int.natCast_add, hx, hxe, hlt, hlt2, hw, hxo, hxs, hpr, ht3, ht4, -Int.not_le, -Int.not_lt, -Nat.not_le, -Nat.not_lt, ty3, ty4, ty9, ty29, ty91, hm, hl, hr, k97, x97, fi19_eq, p97, E130, q130_26, n130_14]
      | true =>
        have hsg : (!(Op.bytesLess y.name x.name || decide (y.name = x.name))) = sgt y.name x.name := rfl
        cases hsq : sgt y.name x.name with
        | true =>
          rw [hsq] at hsg
          simp (config := { contextual := true, maxSteps := 10000000, maxDischargeDepth := 6 }) [-Int.natCast_add, -Bool.not_or, hx, hxe, hlt, hlt2, hw, hw1, hip, hip2, hy, hyl, hye, hxo, hxs, hpr, hsg, ht3, ht4, -Int.not_le, -Int.not_lt, -Nat.not_le, -Nat.not_lt, ty3, ty4, ty9, ty29, ty91, hm, hl, hr, k97, x97, fi19_eq, p97, E130, q130_26, n130_14]
        | false =>
          rw [hsq] at hsg
          simp (config := { contextual := true, maxSteps := 10000000, maxDischargeDepth := 6 }) [-Int.natCast_add, -Bool.not_or, hx, hxe, hlt, hlt2, hw, hw1, hip, hip2, hy, hyl, hye, hxo, hxs, hpr, hsg, IH, ht3, ht4, -Int.not_le, -Int.not_lt, -Nat.not_le, -Nat.not_lt, ty3, ty4, ty9, ty29, ty91, hm, hl, hr, k97, x97, fi19_eq, p97, E130, q130_26, n130_14]
set_option maxHeartbeats 4000000 in
theorem c130 (f : List Pred) (h_f : POk f) (st : St) : EvF gS 130 [.slice (encPreds f)] st = some (.ret (.bool (fright f)) none, st) := by
  refine EvF_start fi37_eq (fun x h => by cases h) m130 ?_
  rw [st130]
  have hm : fi130.marks = [] := rfl
  have hl : fi130.locals = [4] := rfl
  have hr : fi130.results = [.tmp 2] := rfl
  have hfl := h_f.1
  have L0 := fun e3 e4 T X ht3 ht4 => L130_14 f h_f st f.length 0 e3 e4 T X ht3 ht4 (Nat.zero_le _) rfl
  simp only [show ((0 : Nat) : Int) = 0 from rfl, List.drop_zero, prevN_zero] at L0
  simp (config := { contextual := true, maxSteps := 10000000, maxDischargeDepth := 6 }) [-Int.not_le, -Int.not_lt, -Nat.not_le, -Nat.not_lt, ty3, ty4, ty9, ty29, ty91, hm, hl, hr, k97, x97, fi19_eq, p97, E130, q130_26, n130_14, L0, hfl]
  all_goals try simp (config := { contextual := true }) [-Int.not_le, -Int.not_lt, -Nat.not_le, -Nat.not_lt, fright]
  all_goals first | done | grind | (unfold fright; grind)
theorem k130 (f : List Pred) (h_f : POk f) (fr : Fr) (st : St) : callStep gS (EvF gS) 130 [.slice (encPreds f)] fr st = some (.ok (retE none (.bool (fright f))) fr st) :=
  call_pure rfl fi37_eq rfl (fun st => c130 f h_f st) (by simp)
end
end Go.Proofs.Ytdoobejjedpcgaa
namespace Go.Ab
open Go
set_option linter.unusedVariables false
set_option linter.unusedSimpArgs false
set_option linter.unnecessarySimpa false
/-- A state with one new object, nothing else said of it. -/
theorem nw_obj (st : St) (m : Nat) (cs : List V) : St.obj (nw st m cs) (st.objs.length + m) = some cs := gr_obj st m cs
theorem nw_set {st : St} (h : st.wp ≤ st.objs.length) (m : Nat) (cs cs' : List V) : St.set (nw st m cs) (st.objs.length + m) cs' = some (nw st m cs') := by
  unfold St.set
  rw [if_pos (by rw [gr_wp]; omega)]
  unfold nw
  simp only [Option.some.injEq, St.mk.injEq, and_true]
  rw [List.set_append_right _ _ (by omega), Nat.add_sub_cancel_left, List.set_append_right _ _ (by simp), List.length_replicate, Nat.sub_self]
  rfl
theorem nw_dead (st : St) (m : Nat) : nw st m [] = dd st (m + 1) := by
  unfold nw dd
  rw [List.replicate_succ']
theorem nw_kill {st : St} (h : st.wp ≤ st.objs.length) (m : Nat) (cs : List V) : St.set (nw st m cs) (st.objs.length + m) [] = some (dd st (m + 1)) := by
  rw [nw_set h, nw_dead]
theorem newRef_0 (st : St) (fr : Fr) (k len : Nat) (cs : List V) : newRef fr st k len cs = .ok (.val (.sref false k st.objs.length 0 len)) fr (nw st 0 cs) := by
  unfold newRef nw
  simp
variable {α : Type}
theorem row_len (c : α → List V) (k : Nat) (hc : ∀ x, (c x).length = k) : ∀ l : List α, (l.flatMap c).length = l.length * k
  | [] => by simp
  | x :: r => by rw [List.flatMap_cons, List.length_append, hc, row_len c k hc r, List.length_cons, Nat.succ_mul]; omega
theorem row_get (c : α → List V) (k : Nat) (hc : ∀ x, (c x).length = k) {l : List α} {i j : Nat} {x : α} (hx : l[i]? = some x) (hj : j < k) : (l.flatMap c)[i * k + j]? = (c x)[j]? := by
  have hs : l = l.take i ++ x :: l.drop (i + 1) := by
    have h1 := List.take_append_drop i l
    rw [drop_get hx] at h1
    exact h1.symm
  have hl : (l.take i).length = i := by
    have := (List.getElem?_eq_some_iff.1 hx).1
    simp; omega
  rw [hs, List.flatMap_append, List.getElem?_append_right (by rw [row_len c k hc, hl]; omega), row_len c k hc, hl, Nat.add_sub_cancel_left, List.flatMap_cons, List.getElem?_append_left (by rw [hc]; exact hj)]
/-- One place of one of them. -/
theorem row_splice (c : α → List V) (k : Nat) (hc : ∀ x, (c x).length = k) {l : List α} {i j : Nat} {x y : α} {vs : List V} (hx : l[i]? = some x) (hs : splice (c x) j vs = some (c y)) :
    splice (l.flatMap c) (i * k + j) vs = some ((l.set i y).flatMap c) := by
  have hil := (List.getElem?_eq_some_iff.1 hx).1
  have hsl : l = l.take i ++ x :: l.drop (i + 1) := by
    have h1 := List.take_append_drop i l
    rw [drop_get hx] at h1
    exact h1.symm
  have hl : (l.take i).length = i := by simp; omega
  have hset : l.set i y = l.take i ++ y :: l.drop (i + 1) := by
    conv => lhs; rw [hsl]
    rw [List.set_append_right _ _ (by rw [hl]; omega), hl, Nat.sub_self]
    rfl
  have hA : ((l.take i).flatMap c).length = i * k := by rw [row_len c k hc, hl]
  unfold splice at hs ⊢
  split at hs
  · rename_i hle
    have hs' := Option.some.inj hs
    rw [hc] at hle
    rw [hset, List.flatMap_append, List.flatMap_cons, ← hs']
    conv => lhs; rw [hsl]
    rw [List.flatMap_append, List.flatMap_cons]
    generalize (l.take i).flatMap c = A at hA ⊢
    generalize (l.drop (i + 1)).flatMap c = C
    have hB := hc x
    generalize c x = B at hB hs' ⊢
    rw [if_pos (by simp only [List.length_append]; omega)]
    congr 1
    rw [← hA, List.take_append, List.take_of_length_le (by omega), Nat.add_sub_cancel_left, List.take_append_of_le_length (by omega), List.drop_append, List.drop_of_length_le (by omega), show A.length + j + vs.length - A.length = j + vs.length by omega, List.drop_append_of_le_length (by omega)]
    simp [List.append_assoc]
  · cases hs
theorem row_one (c : α → List V) (hc : ∀ x, (c x).all V.one = true) : ∀ l : List α, (l.flatMap c).all V.one = true
  | [] => rfl
  | x :: r => by rw [List.flatMap_cons, List.all_append, hc x, row_one c hc r]; rfl
theorem flats_append : ∀ (a b : List V), flats (a ++ b) = (flats a && flats b)
  | [], _ => by simp [flats]
  | v :: a, b => by simp only [List.cons_append, flats, flats_append a b, Bool.and_assoc]
theorem row_flats (c : α → List V) (hc : ∀ x, flats (c x) = true) : ∀ l : List α, flats (l.flatMap c) = true
  | [] => rfl
  | x :: r => by rw [List.flatMap_cons, flats_append, hc x, row_flats c hc r]; rfl
theorem row_strip (c d : α → List V) (hc : ∀ x, (c x).map V.strip1 = d x) : ∀ l : List α, (l.flatMap c).map V.strip1 = l.flatMap d
  | [] => rfl
  | x :: r => by rw [List.flatMap_cons, List.map_append, hc x, row_strip c d hc r, List.flatMap_cons]
/-- A row of elements is given up. -/
theorem frz_row {st st1 : St} (n id k : Nat) (hk : 0 < k) (c d : α → List V) (hc : ∀ x, (c x).length = k) (hd : ∀ x, (d x).length = k) (hcd : ∀ x, (c x).map V.strip1 = d x) (h1 : ∀ x, (d x).all V.one = true) (hf : ∀ x, flats (d x) = true)
    (l : List α) (hl : l ≠ []) (ho : St.obj st id = some (l.flatMap c)) (hs : St.set st id [] = some st1) : frz (n + 1) st (.sref false k id 0 l.length) = some (.slice (chunk (Nat.blt 1 k) k l.length (l.flatMap d)), st1) := by
  have hne : ¬ l.length = 0 := by simpa using hl
  unfold frz
  simp only [hne, if_false, ho, hs, row_len c k hc, List.drop_zero, Nat.zero_add, Nat.le_refl, and_true, hk, if_true]
  rw [List.take_of_length_le (by rw [row_len c k hc]; omega), row_strip c d hcd, frzL_flat _ _ _ (row_flats d hf l)]
  simp only [row_len d k hd, row_one d h1 l, and_self, if_true]
/-- A test's cells, its values in room of their own. -/
def Pred.cellsO (q : Pred × Bool) : List V := [.str q.1.name, .int .i64 q.1.test, .int .i64 q.1.v.kind, .int .i64 q.1.v.n, .float .f64 q.1.v.x, .str q.1.v.s, .bool q.1.v.b, .int .i64 q.1.w.kind, .int .i64 q.1.w.n, .float .f64 q.1.w.x, .str q.1.w.s, .bool q.1.w.b, if q.2 then .osl 5 (encVals q.1.set) else .slice (encVals q.1.set)]
theorem cellsO_len (q : Pred × Bool) : (Pred.cellsO q).length = 13 := rfl
theorem cells_len (q : Pred × Bool) : (Pred.cells q.1).length = 13 := rfl
theorem cellsO_strip (q : Pred × Bool) : (Pred.cellsO q).map V.strip1 = Pred.cells q.1 := by
  obtain ⟨p, b⟩ := q
  cases b <;> rfl
theorem cells_one (q : Pred × Bool) : (Pred.cells q.1).all V.one = true := rfl
theorem cells_flats (q : Pred × Bool) : flats (Pred.cells q.1) = true := by simp [flats, V.flat]
theorem chunk_preds : ∀ (l : List (Pred × Bool)), chunk true 13 l.length (l.flatMap fun q => Pred.cells q.1) = encPreds (l.map (·.1))
  | [] => rfl
  | x :: r => by
    rw [List.length_cons, chunk, List.flatMap_cons, List.take_left' (cells_len x), List.drop_left' (cells_len x), chunk_preds r]; rfl
/-- A call of a function of plain values, whatever it lays aside. -/
theorem call_pure' {g : G} {f : Nat} {args : List V} {fr : Fr} {st : St} {fi : FI} {v : V} {k : Option Nat} (hx : g.ext f = none) (hf : g.fn f = some fi) (hp : fi.pure = true) (ha : flats args = true)
    (h : ∃ st', EvF g f args ⟨[], 0⟩ = some (.ret v k, st')) (hv : v.flat = true) : callStep g (EvF g) f args fr st = some (.ok (retE k v) fr st) := by
  obtain ⟨st', h⟩ := h
  unfold callStep
  simp only [hx, hf, hp, if_true, ha, h, hv]
end Go.Ab
namespace Go.Proofs.Ytdoobejjedpcgaa
open Go Go.Ab
set_option linter.unusedVariables false
set_option linter.unusedSimpArgs false
set_option linter.unnecessarySimpa false
set_option maxRecDepth 20000
noncomputable section
variable (fr : Fr) (st : St) (k : Kt)
theorem preds_cells (f : List Pred) : (encPreds f).flatMap V.cells = (f.map fun p => (p, false)).flatMap Pred.cellsO := by
  induction f with
  | nil => rfl
  | cons x r ih => simp only [encPreds, List.map_cons, List.flatMap_cons] at ih ⊢; rw [ih]; rfl
theorem map_fst (f : List Pred) : (f.map fun p => (p, false)).map (·.1) = f := by induction f with
  | nil => rfl
  | cons x r ih => simp only [List.map_cons, ih]
theorem sizes_vals (l : List Val) : sizesOk 5 (encVals l) = true := by
  induction l with
  | nil => rfl
  | cons x r ih => simp only [encVals, List.map_cons, sizesOk] at ih ⊢; rw [ih]; rfl
theorem sizes_preds (l : List Pred) : sizesOk 13 (encPreds l) = true := by
  induction l with
  | nil => rfl
  | cons x r ih => simp only [encPreds, List.map_cons, sizesOk] at ih ⊢; rw [ih]; rfl
/-- Of a size that may be copied. -/
def PSm (f : List Pred) : Prop := f.length ≤ 1000000 ∧ ∀ p ∈ f, p.name.length < 4611686018427387904 ∧ p.set.length * 48 ≤ 140737488355328
theorem PSm.ok {f : List Pred} (h : PSm f) : POk f := ⟨by have := h.1; omega, fun p hp => ⟨(h.2 p hp).1, by have := (h.2 p hp).2; omega⟩⟩
def fi50 : FI := { body := codeOf Try.f50, ntmps := 24, results := [.tmp 2], pers := [0, 2, 3, 4, 8, 9], locals := [], pure := true, marks := [6, 1000000] }
theorem fi45_eq : gS.fn 50 = some fi50 := by kernel_rfl
theorem st50 (a0 : V) : startFr fi50 [a0] = { ps := [(0, .val a0), (2, .any), (3, .any), (4, .any), (8, .any), (9, .any)], ts := [], lc := [] } := rfl
def b50 : Code := mini (codeOf Try.f50)
def c50_19 : Code := codeN b50 3275
def c50_17 : Code := .seq (codeN b50 2251) c50_19
def c50_20 : Code := codeN b50 971
def c50_15 : Code := .seq (.block 1 c50_17) c50_20
def c50_11 : Code := .seq (.cond (.tmp 10) .skip (.exit 0)) c50_15
def c50_9 : Code := .seq (codeN b50 139) c50_11
def c50_8 : Code := .loop c50_9
def c50_7 : Code := .block 0 c50_8
def c50_5 : Code := .seq (codeN b50 19) c50_7
def c50_21 : Code := .seq (codeN b50 23) .ret
def c50_4 : Code := .seq c50_5 c50_21
def c50_2 : Code := .seq (codeN b50 5) c50_4
def c50_0 : Code := .seq (codeN b50 2) c50_2
theorem E50 : (evK gS fi50 c50_19 fr st k = opsR gS fi50 [mv 12 3 29,
 mv 13 4 3,
 mv 14 3 29,
 mv 15 4 3,
 ixa 16 29 14 15 0,
 op1 17 (.fieldAddr 91 (.tmp 16) 4) 0,
 ld 18 89 17 89,
 op1 19 (.call { callee := (.builtin .append), args := #[(.const (.slice none 0 0)), (.tmp 18)], argTypes := #[89, 89] }) 89,
 ixa 20 29 12 13 0,
 op1 21 (.fieldAddr 91 (.tmp 20) 4) 0,
 sto 89 21 19] fr st k) ∧
 (evK gS fi50 c50_17 fr st k = opsR gS fi50 [mv 11 9 3,
 asn 4 11 3] fr st (.seq c50_19 k)) ∧
 (evK gS fi50 c50_20 fr st k = opsR gS fi50 [op1 22 (.binOp .add 3 (.tmp 9) (.const (.int .i64 1)) 3) 3,
 mv 9 22 3] fr st k) ∧
 evK gS fi50 c50_15 fr st k = evK gS fi50 c50_17 fr st (.blk 1 (.seq c50_20 k)) ∧
 evK gS fi50 c50_11 fr st k = condK gS fi50 (fr.op (.tmp 10)).bool? .skip (.exit 0) fr st (.seq c50_15 k) ∧
 evK gS fi50 c50_9 fr st k = opsR gS fi50 [bop 10 .lss 3 9 8 3 0] fr st (.seq c50_11 k) ∧
 evK gS fi50 c50_7 fr st k = evK gS fi50 c50_8 fr st (.blk 0 k) ∧
 (evK gS fi50 c50_5 fr st k = opsR gS fi50 [mv 7 3 29,
 len1 8 7 29 3,
 op1 9 (.move (.const (.int .i64 0))) 3] fr st (.seq c50_7 k)) ∧
 (evK gS fi50 c50_21 fr st k = opsR gS fi50 [mv 23 3 29,
 asn 2 23 29] fr st (.seq .ret k)) ∧
 evK gS fi50 c50_4 fr st k = evK gS fi50 c50_5 fr st (.seq c50_21 k) ∧
 (evK gS fi50 c50_2 fr st k = opsR gS fi50 [mv 5 0 29,
 op1 6 (.call { callee := (.builtin .append), args := #[(.const (.slice none 0 0)), (.tmp 5)], argTypes := #[29, 29] }) 29,
 asn 3 6 29] fr st (.seq c50_4 k)) ∧
 evK gS fi50 c50_0 fr st k = opsR gS fi50 [op1 2 (.assign (.const (.slice none 0 0))) 29] fr st (.seq c50_2 k) := ⟨evK_r 5 (by kernel_rfl), evK_rs 4 rfl (by kernel_rfl), evK_r 6 (by kernel_rfl), rfl, rfl, evK_rs 3 rfl (by kernel_rfl), rfl, evK_rs 2 rfl (by kernel_rfl), evK_rs 7 rfl (by kernel_rfl), rfl, evK_rs 1 rfl (by kernel_rfl), evK_rs 0 rfl (by kernel_rfl)⟩
theorem m50 : mini fi50.body = c50_0 := by kernel_rfl
theorem n50_8 (fr : Fr) (st : St) (k : Kt) : nextK gS fi50 (.loop c50_9 k) .normal fr st = evK gS fi50 c50_8 fr st k := rfl
set_option maxHeartbeats 8000000 in
theorem L50_8 (f : List Pred) (h_f : PSm f) (hne : f ≠ []) (st : St) (hst : st.wp ≤ st.objs.length) : ∀ (n i : Nat) (l : List (Pred × Bool)) (e0 e4 : E) (T : List (Nat × E)) (X : List (Nat × List V)) (ht0 : e0.Tame) (ht4 : e4.Tame), l.map (·.1) = f → i ≤ f.length → f.length - i = n →
    evK gS fi50 c50_8 { ps := [(0, e0), (2, .own 0 []), (3, .val (.sref false 13 st.objs.length 0 f.length)), (4, e4), (8, .val (.int .i64 f.length)), (9, .val (.int .i64 i))], ts := T, lc := X } (nw st 0 (l.flatMap Pred.cellsO)) (.blk 0 (.seq c50_21 .nil)) = some (.ret (.slice (encPreds f)) none, dd st 1) := by
  intro n
  have hm : fi50.marks = [6, 1000000] := rfl
  have hl : fi50.locals = [] := rfl
  have hr : fi50.results = [.tmp 2] := rfl
  have hfl := h_f.1
  induction n with
  | zero =>
    intro i l e0 e4 T X ht0 ht4 hl hi hn
    obtain rfl : i = f.length := by omega
    have hll : l.length = f.length := by rw [← hl]; simp
    have hfz := frz_row (st := nw st 0 (l.flatMap Pred.cellsO)) 5 st.objs.length 13 (by omega) Pred.cellsO (fun q => Pred.cells q.1) cellsO_len cells_len cellsO_strip cells_one cells_flats l (by intro e; subst e; exact hne hl.symm) (nw_obj st 0 _) (nw_kill hst 0 _)
    rw [hll, show Nat.blt 1 13 = true from rfl, ← hll, chunk_preds, hl, hll] at hfz
    refine evK_loop c50_9 _ _ _ _ rfl ?_
    simp [ht0, ht4, hfz, -Int.not_le, -Int.not_lt, -Nat.not_le, -Nat.not_lt, ty3, ty29, ty89, ty91, hm, hl, hr, E50, n50_8]
  | succ n ih =>
    intro i l e0 e4 T X ht0 ht4 hl hi hn
    have hll : l.length = f.length := by rw [← hl]; simp
    obtain ⟨q, hq⟩ : ∃ q, l[i]? = some q := ⟨l[i]'(by omega), List.getElem?_eq_getElem (by omega)⟩
    have hlt : (i : Int) < (f.length : Int) := by omega
    have hlt2 : i < f.length := by omega
    have hw : IntKind.wrap .i64 ((i : Int) + 1) = ((i + 1 : Nat) : Int) := by rw [wrap64 (by omega) (by omega)]; omega
    have hqm : q.1 ∈ f := by rw [← hl]; exact List.mem_map.2 ⟨q, List.mem_of_getElem? hq, rfl⟩
    have hqs := (h_f.2 q.1 hqm).2
    have hqs2 : q.1.set.length ≤ 140737488355328 := by omega
    have hob := nw_obj st 0 (l.flatMap Pred.cellsO)
    have hget := row_get Pred.cellsO 13 cellsO_len hq (j := 12) (by omega)
    have hspl := row_splice Pred.cellsO 13 cellsO_len (j := 12) (y := (q.1, true)) (vs := [.osl 5 (encVals q.1.set)]) hq rfl
    have hset := nw_set hst 0 (l.flatMap Pred.cellsO) ((l.set i (q.1, true)).flatMap Pred.cellsO)
    have hl2 : (l.set i (q.1, true)).map (·.1) = f := by
      rw [List.map_set, hl]
      apply List.ext_getElem?
      intro j
      rw [List.getElem?_set]
      split
      · rename_i hj; subst hj
        rw [← hl, List.getElem?_map, hq]
        rfl
      · rfl
    have IH := fun e0 e4 T X ht0 ht4 => ih (i + 1) (l.set i (q.1, true)) e0 e4 T X ht0 ht4 hl2 (by omega) (by omega)
    rw [Nat.add_zero] at hob hset
    have hsz := sizes_vals q.1.set
    obtain ⟨p, b⟩ := q
    refine evK_loop c50_9 _ _ _ _ rfl ?_
    simp only [Pred.cellsO] at hget
    cases b with
    | true =>
      simp only [List.getElem?_cons_succ, List.getElem?_cons_zero, if_true] at hget
      simp [-Int.natCast_add, -St.obj, -St.set, -splice, ht0, ht4, hlt, hlt2, hw, hob, hget, hspl, hset, hqs, hqs2, hsz, IH, -Int.not_le, -Int.not_lt, -Nat.not_le, -Nat.not_lt, ty3, ty29, ty89, ty91, hm, hl, hr, E50, n50_8]
    | false =>
      simp only [List.getElem?_cons_succ, List.getElem?_cons_zero, Bool.false_eq_true, if_false] at hget
      simp [-Int.natCast_add, -St.obj, -St.set, -splice, ht0, ht4, hlt, hlt2, hw, hob, hget, hspl, hset, hqs, hqs2, hsz, IH, -Int.not_le, -Int.not_lt, -Nat.not_le, -Nat.not_lt, ty3, ty29, ty89, ty91, hm, hl, hr, E50, n50_8]
set_option maxHeartbeats 8000000 in
theorem c50 (f : List Pred) (h_f : PSm f) (st : St) (hst : st.wp ≤ st.objs.length) : ∃ st', EvF gS 50 [.slice (encPreds f)] st = some (.ret (.slice (encPreds f)) none, st') := by
  have hm : fi50.marks = [6, 1000000] := rfl
  have hl : fi50.locals = [] := rfl
  have hr : fi50.results = [.tmp 2] := rfl
  by_cases hne : f = []
  · refine ⟨st, ?_⟩
    refine EvF_start fi45_eq (fun x h => by cases h) m50 ?_
    rw [st50]
    subst hne
    have hz : ∀ st, frz 6 st (.sref true 0 0 0 0) = some (.slice [], st) := fun st => frz_nil 5 st
    simp [markStep, markAppend, elemsAt, encPreds, -Int.not_le, -Int.not_lt, -Nat.not_le, -Nat.not_lt, ty3, ty29, ty89, ty91, hm, hl, hr, E50, n50_8]
    refine evK_loop c50_9 _ _ _ _ rfl ?_
    simp [hz, -Int.not_le, -Int.not_lt, -Nat.not_le, -Nat.not_lt, ty3, ty29, ty89, ty91, hm, hl, hr, E50, n50_8]
  · refine ⟨dd st 1, ?_⟩
    refine EvF_start fi45_eq (fun x h => by cases h) m50 ?_
    rw [st50]
    have hfl := h_f.1
    have hfe : (encPreds f).isEmpty = false := by cases f with | nil => exact absurd rfl hne | cons _ _ => rfl
    have hpc := preds_cells f
    have hsp := sizes_preds f
    have h1 : f.length * 144 ≤ 140737488355328 := by omega
    have h2 : f.length ≤ 140737488355328 := by omega
    have hnr := fun fr k len cs => newRef_0 st fr k len cs
    have L0 := fun e0 e4 T X ht0 ht4 => L50_8 f h_f hne st hst f.length 0 (f.map fun p => (p, false)) e0 e4 T X ht0 ht4 (map_fst f) (Nat.zero_le _) rfl
    simp only [show ((0 : Nat) : Int) = 0 from rfl] at L0
    simp [-St.obj, -St.set, hfe, hpc, hsp, h1, h2, hnr, L0, markStep, markAppend, elemsAt, hne, -Int.not_le, -Int.not_lt, -Nat.not_le, -Nat.not_lt, ty3, ty29, ty89, ty91, hm, hl, hr, E50, n50_8]
    all_goals first | done | skip
end
end Go.Proofs.Ytdoobejjedpcgaa
namespace Go.Ab
open Go
set_option linter.unusedVariables false
set_option linter.unusedSimpArgs false
set_option linter.unnecessarySimpa false
section
variable {α : Type}
theorem row_drop (c : α → List V) (k : Nat) (hc : ∀ x, (c x).length = k) : ∀ (l : List α) (i : Nat), (l.flatMap c).drop (i * k) = (l.drop i).flatMap c
  | [], i => by simp
  | x :: r, 0 => by simp
  | x :: r, i + 1 => by
    rw [List.flatMap_cons, List.drop_succ_cons, ← row_drop c k hc r i, List.drop_append, hc, List.drop_of_length_le (by rw [hc, Nat.succ_mul]; omega), List.nil_append, Nat.succ_mul, Nat.add_sub_cancel]
theorem row_take (c : α → List V) (k : Nat) (hc : ∀ x, (c x).length = k) : ∀ (l : List α) (i : Nat), (l.flatMap c).take (i * k) = (l.take i).flatMap c
  | [], i => by simp
  | x :: r, 0 => by simp
  | x :: r, i + 1 => by
    rw [List.flatMap_cons, List.take_succ_cons, List.flatMap_cons, ← row_take c k hc r i, List.take_append, hc, List.take_of_length_le (by rw [hc, Nat.succ_mul]; omega), Nat.succ_mul, Nat.add_sub_cancel]
theorem row_splices (c : α → List V) (k : Nat) (hc : ∀ x, (c x).length = k) (l m : List α) (i : Nat) (h : i + m.length ≤ l.length) : splice (l.flatMap c) (i * k) (m.flatMap c) = some ((l.take i ++ m ++ l.drop (i + m.length)).flatMap c) := by
  unfold splice
  rw [row_len c k hc, row_len c k hc, if_pos (by rw [← Nat.add_mul]; exact Nat.mul_le_mul_right k h), row_take c k hc, ← Nat.add_mul, row_drop c k hc, List.flatMap_append, List.flatMap_append]
end
def N4 : List (List UInt8) := [[97], [98], [99], [108, 111, 110, 103]]
def nameV (l : List Int) (a j : Nat) : List UInt8 := N4.getD ((fd l a j 12).toNat / 3 % 4) []
/-- Behind which one a name has its place. -/
def insN (f : List Pred) (nm : List UInt8) : Nat → Nat
  | 0 => 0
  | k + 1 => if sgt ((f[k]?).getD ⟨[], 0, vzero, vzero, []⟩).name nm then insN f nm k else k + 1
theorem insN_le (f : List Pred) (nm : List UInt8) : ∀ k, insN f nm k ≤ k
  | 0 => Nat.le_refl _
  | k + 1 => by
    unfold insN; split
    · exact Nat.le_succ_of_le (insN_le f nm k)
    · exact Nat.le_refl _
def insP (f : List Pred) (p : Pred) (nm : List UInt8) : List Pred := f.take (insN f nm f.length) ++ p :: f.drop (insN f nm f.length)
theorem insP_length (f : List Pred) (p : Pred) (nm : List UInt8) : (insP f p nm).length = f.length + 1 := by
  have := insN_le f nm f.length
  unfold insP; simp; omega
/-- A filter, where the feed stands then, how many objects were given up. -/
def filterG (l : List Int) (a : Nat) : Nat → Nat → Nat → List Pred → List Pred × Nat × Nat
  | 0, j, d, f => (f, j, d)
  | n + 1, j, d, f => filterG l a n (j + 1 + (predV l a (j + 1) (nameV l a j)).2) (d + (predV l a (j + 1) (nameV l a j)).1.set.length + 1) (insP f (predV l a (j + 1) (nameV l a j)).1 (nameV l a j))
def filterV (l : List Int) (a j : Nat) : List Pred × Nat × Nat := filterG l a (fd l a j 4).toNat (j + 1) 0 []
def pzero : Pred := ⟨[], 0, vzero, vzero, []⟩
theorem pcells_len (p : Pred) : (Pred.cells p).length = 13 := rfl
theorem pcells_one (p : Pred) : (Pred.cells p).all V.one = true := rfl
theorem pcells_flats (p : Pred) : flats (Pred.cells p) = true := by simp [flats, V.flat]
theorem pcells_strip (p : Pred) : (Pred.cells p).map V.strip1 = Pred.cells p := rfl
theorem chunk_preds1 (l : List Pred) : chunk true 13 l.length (l.flatMap Pred.cells) = encPreds l := chunk_enc Pred.cells 13 (by omega) (fun _ => rfl) l
theorem enc_cells (l : List Pred) : (encPreds l).flatMap V.cells = l.flatMap Pred.cells := by
  induction l with
  | nil => rfl
  | cons x r ih => simp only [encPreds, List.map_cons, List.flatMap_cons] at ih ⊢; rw [ih]; rfl
/-- The elements of a part of a row. -/
theorem elems_row {st : St} {id : Nat} {l : List Pred} (ho : St.obj st id = some (l.flatMap Pred.cells)) (f : Bool) {i : Nat} (hi : i ≤ l.length) :
    elemsAt true 13 st (.val (.sref f 13 id (i * 13) (l.length - i))) = some (encPreds (l.drop i)) := by
  unfold elemsAt
  simp only [ho, row_len Pred.cells 13 pcells_len, true_and]
  have h1 : i * 13 + (l.length - i) * 13 ≤ l.length * 13 := by omega
  have h2 : ((l.flatMap Pred.cells).map V.strip1).all V.one = true := by rw [row_strip _ _ pcells_strip]; exact row_one _ pcells_one l
  have h3 : (true || (13 : Nat) == 1) = true := rfl
  by_cases hz : l.length - i = 0
  · rw [if_pos hz, List.drop_of_length_le (by omega)]; rfl
  rw [if_neg hz, if_pos ⟨h1, h3, h2⟩, row_drop Pred.cells 13 pcells_len, List.take_of_length_le (by rw [row_len Pred.cells 13 pcells_len]; simp), row_strip _ _ pcells_strip]
  have := chunk_preds1 (l.drop i)
  rw [List.length_drop] at this
  rw [this]
theorem frz_preds {st st1 : St} (n id : Nat) (l : List Pred) (hl : l ≠ []) (ho : St.obj st id = some (l.flatMap Pred.cells)) (hs : St.set st id [] = some st1) : frz (n + 1) st (.sref false 13 id 0 l.length) = some (.slice (encPreds l), st1) := by
  have := frz_row n id 13 (by omega) Pred.cells Pred.cells pcells_len pcells_len pcells_strip pcells_one pcells_flats l hl ho hs
  rw [show Nat.blt 1 13 = true from rfl, chunk_preds1] at this
  exact this
/-- A row behind which others were given up. -/
theorem obj_mid {st : St} {id : Nat} (h : FeedOk st id) (m k : Nat) (cs : List V) (l : List Int) (a : Nat) : St.obj (setF (dd (nw st m cs) k) id l a) (st.objs.length + m) = some cs := by
  unfold St.obj setF
  show ((dd (nw st m cs) k).objs.set id _)[_]? = _
  rw [List.getElem?_set_ne (by have := h.1; omega)]
  unfold dd
  show ((nw st m cs).objs ++ _)[_]? = _
  rw [List.getElem?_append_left (by rw [gr_len]; omega), gr_obj]
theorem dd_nw_kill (st : St) (m k : Nat) (cs : List V) (h : st.wp ≤ st.objs.length) : St.set (dd (nw st m cs) k) (st.objs.length + m) [] = some (dd st (m + 1 + k)) := by
  unfold St.set
  rw [if_pos (by rw [dd_wp, gr_wp]; omega)]
  unfold dd nw
  simp only [Option.some.injEq, St.mk.injEq, and_true]
  rw [List.append_assoc, List.set_append_right _ _ (by omega), Nat.add_sub_cancel_left, List.append_assoc, List.set_append_right _ _ (by simp), List.length_replicate, Nat.sub_self]
  simp only [List.singleton_append, List.set_cons_zero]
  rw [show m + 1 + k = m + (1 + k) by omega, ← List.replicate_append_replicate, ← List.replicate_append_replicate (n := 1)]
  rfl
theorem set_mid {st : St} {id : Nat} (h : FeedOk st id) (m k : Nat) (cs : List V) (l : List Int) (a : Nat) : St.set (setF (dd (nw st m cs) k) id l a) (st.objs.length + m) [] = some (setF (dd st (m + 1 + k)) id l a) := by
  have h1 := h.1
  have h2 := h.2
  have hk := dd_nw_kill st m k cs (by omega)
  unfold St.set at hk ⊢
  rw [if_pos (by rw [dd_wp, gr_wp]; omega)] at hk
  rw [if_pos (by rw [setF_wp, dd_wp, gr_wp]; omega)]
  have hk2 := Option.some.inj hk
  congr 1
  rw [← hk2]
  unfold setF
  simp only [St.mk.injEq, and_true]
  rw [List.set_comm _ _ (by omega)]
end Go.Ab
namespace Go.Proofs.Ytdoobejjedpcgaa
open Go Go.Ab
set_option linter.unusedVariables false
set_option linter.unusedSimpArgs false
set_option linter.unnecessarySimpa false
set_option maxRecDepth 20000
noncomputable section
variable (fr : Fr) (st : St) (k : Kt)
def fi70 : FI := { body := codeOf Try.f70, ntmps := 9, results := [.tmp 2], pers := [0, 2], locals := [], pure := false, marks := [] }
theorem fi91_eq : gS.fn 70 = some fi70 := by kernel_rfl
theorem st70 (a0 : V) : startFr fi70 [a0] = { ps := [(0, .val a0), (2, .any)], ts := [], lc := [] } := rfl
def b70 : Code := mini (codeOf Try.f70)
def c70_2 : Code := .seq (codeN b70 5) .ret
theorem e70_2 : evK gS fi70 c70_2 fr st k = opsR gS fi70 [op1 3 (.build 122 #[(0, (.const (.string { data := #[97] }))), (1, (.const (.string { data := #[98] }))), (2, (.const (.string { data := #[99] }))), (3, (.const (.string { data := #[108, 111, 110, 103] })))]) 122,
 mv 4 0 23,
 cal 5 11 [(.tmp 4), (.const (.int .i64 12))] [23, 3] 3,
 op1 6 (.binOp .quo 3 (.tmp 5) (.const (.int .i64 3)) 3) 3,
 op1 7 (.binOp .rem 3 (.tmp 6) (.const (.int .i64 4)) 3) 3,
 op1 8 (.index 122 (.tmp 3) (.tmp 7)) 9,
 asn 2 8 9] fr st (.seq .ret k) := evK_rs 1 rfl (by kernel_rfl)
def c70_0 : Code := .seq (codeN b70 2) c70_2
theorem e70_0 : evK gS fi70 c70_0 fr st k = opsR gS fi70 [op1 2 (.assign (.const (.string { data := #[] }))) 9] fr st (.seq c70_2 k) := evK_rs 0 rfl (by kernel_rfl)
theorem m70 : mini fi70.body = c70_0 := by kernel_rfl
set_option maxHeartbeats 8000000 in
theorem c70 (l : List Int) (a j id : Nat) (st : St) (h : FeedOk st id) (ha : a < 549755813888) (hj : j < 549755812000) :
    EvF gS 70 [.ptr id 0] (setF st id l (nA l a j)) = some (.ret (.str (nameV l a j)) none, setF st id l (nA l a (j + 1))) := by
  refine EvF_start fi91_eq (fun x h => by cases h) m70 ?_
  rw [st70]
  have hm : fi70.marks = [] := rfl
  have hl : fi70.locals = [] := rfl
  have hr : fi70.results = [.tmp 2] := rfl
  have hb := fd_bound l a j (n := 12) (by omega)
  unfold nameV
  have hk := fun fr => k11 l a j id 12 fr st h ha (by omega) (by omega)
  generalize fd l a j 12 = z at *
  have hz : z = 0 ∨ z = 1 ∨ z = 2 ∨ z = 3 ∨ z = 4 ∨ z = 5 ∨ z = 6 ∨ z = 7 ∨ z = 8 ∨ z = 9 ∨ z = 10 ∨ z = 11 := by omega
  have v1 : IntKind.wrap .i64 1 = 1 := w64_1
  have v2 : IntKind.wrap .i64 2 = 2 := w64_2
  have v3 : IntKind.wrap .i64 3 = 3 := w64_3
  have v0 : IntKind.wrap .i64 0 = 0 := by kernel_rfl
  rcases hz with rfl | rfl | rfl | rfl | rfl | rfl | rfl | rfl | rfl | rfl | rfl | rfl <;>
    simp [N4, hk, v0, v1, v2, v3, -Int.not_le, -Int.not_lt, -Nat.not_le, -Nat.not_lt, ty3, ty9, ty23, ty122, hm, hl, hr, e70_2, e70_0]
theorem k70 (l : List Int) (a j id : Nat)  (fr : Fr) (st : St) (h : FeedOk st id) (ha : a < 549755813888) (hj : j < 549755812000) :
    callStep gS (EvF gS) 70 [.ptr id 0] fr (setF st id l (nA l a j)) = some (.ok (.val (.str (nameV l a j))) (fr.map E.noMem) (setF st id l (nA l a (j + 1)))) := by
  unfold callStep
  simp only [show gS.ext 70 = none from rfl, fi91_eq, show fi70.pure = false from rfl, Bool.false_eq_true, if_false, c70 l a j id  st h ha (by omega), retE]
  all_goals rfl
end
end Go.Proofs.Ytdoobejjedpcgaa
namespace Go.Proofs.Ytdoobejjedpcgaa
open Go Go.Ab
set_option linter.unusedVariables false
set_option linter.unusedSimpArgs false
set_option linter.unnecessarySimpa false
set_option maxRecDepth 20000
noncomputable section
variable (fr : Fr) (st : St) (k : Kt)
def fi40 : FI := { body := codeOf Try.f40, ntmps := 57, results := [.tmp 2], pers := [0, 2, 3, 4, 5, 6, 7], locals := [6], pure := false, marks := [43, 1000000] }
theorem fi35_eq : gS.fn 40 = some fi40 := by kernel_rfl
theorem st40 (a0 : V) : startFr fi40 [a0] = { ps := [(0, .val a0), (2, .any), (3, .any), (4, .any), (5, .any), (6, .any), (7, .any)], ts := [], lc := [] } := rfl
def b40 : Code := mini (codeOf Try.f40)
def c40_12 : Code := .cond (.tmp 16) .skip (.exit 0)
def c40_10 : Code := .seq (codeN b40 267) c40_12
def c40_29 : Code := .cond (.tmp 37) .skip (.exit 2)
def c40_27 : Code := .seq (codeN b40 134731) c40_29
def c40_33 : Code := codeN b40 167499
def c40_32 : Code := .block 3 c40_33
def c40_26 : Code := .seq c40_27 c40_32
def c40_25 : Code := .loop c40_26
def r40_37 : Array Oper := regOps (codeN (codeOf Try.f40) 48715)
def c40_37 : Code := .region 11 r40_37 true
def q40_37 : List (Oper × Fl) := [(mv 44 3 29, ⟨true, false, true, false, false, false, true, true, false, false, []⟩),
 (mv 45 7 3, ⟨true, false, true, false, false, false, true, true, false, false, []⟩),
 (op1 46 (.binOp .add 3 (.tmp 45) (.const (.int .i64 1)) 3) 3, ⟨true, false, true, false, false, false, true, true, false, false, []⟩),
 (op1 47 (.slice 29 (.tmp 44) (some (.tmp 46)) none none) 29, ⟨true, false, true, false, false, false, true, true, false, false, []⟩),
 (mv 48 3 29, ⟨true, false, true, false, false, false, true, true, false, false, []⟩),
 (mv 49 7 3, ⟨true, false, true, false, true, false, true, true, false, false, []⟩),
 (op1 50 (.slice 29 (.tmp 48) (some (.tmp 49)) none none) 29, ⟨true, false, true, false, true, false, true, true, false, false, []⟩),
 (op1 51 (.call { callee := (.builtin .copy), args := #[(.tmp 47), (.tmp 50)], argTypes := #[29, 29] }) 3, ⟨false, true, true, false, true, false, true, true, false, false, []⟩)]
def c40_38 : Code := codeN b40 65099
def c40_36 : Code := .seq c40_37 c40_38
def c40_34 : Code := .seq (codeN b40 24139) c40_36
theorem e40_34 : evK gS fi40 c40_34 fr st k = opsR gS fi40 [mv 40 3 29,
 op1 41 (.build 91 #[]) 91,
 op1 42 (.buildSlice 29 1 #[(0, (.tmp 41))]) 29,
 op1 43 (.call { callee := (.builtin .append), args := #[(.tmp 40), (.tmp 42)], argTypes := #[29, 29] }) 29,
 asn 3 43 29] fr st (.seq c40_36 k) := evK_rs 10 rfl (by kernel_rfl)
def c40_23 : Code := .seq (.block 2 c40_25) c40_34
def c40_21 : Code := .seq (codeN b40 5707) c40_23
def c40_19 : Code := .seq (codeN b40 2635) c40_21
def c40_17 : Code := .seq (codeN b40 1099) c40_19
def c40_39 : Code := codeN b40 459
def c40_15 : Code := .seq (.block 1 c40_17) c40_39
def c40_9 : Code := .seq c40_10 c40_15
def c40_8 : Code := .loop c40_9
def c40_7 : Code := .block 0 c40_8
def c40_5 : Code := .seq (codeN b40 19) c40_7
def c40_40 : Code := .seq (codeN b40 23) .ret
def c40_4 : Code := .seq c40_5 c40_40
def c40_2 : Code := .seq (codeN b40 5) c40_4
def c40_0 : Code := .seq (codeN b40 2) c40_2
theorem E40 : evK gS fi40 c40_12 fr st k = condK gS fi40 (fr.op (.tmp 16)).bool? .skip (.exit 0) fr st k ∧
 (evK gS fi40 c40_10 fr st k = opsR gS fi40 [mv 10 4 3,
 op1 11 (.binOp .gtr 3 (.tmp 10) (.const (.int .i64 0)) 3) 4,
 mv 12 11 4,
 mk (some 13) (.move (.tmp 3)) 29 (some (2, true)),
 mk (some 14) (.call { callee := (.builtin .len), args := #[(.tmp 13)], argTypes := #[29] }) 3 (some (2, true)),
 mk (some 15) (.binOp .lss 3 (.tmp 14) (.const (.int .i64 3)) 3) 4 (some (2, true)),
 op1 16 (.pick (.tmp 12) (.tmp 15) (.const (.bool false))) 4] fr st (.seq c40_12 k)) ∧
 evK gS fi40 c40_29 fr st k = condK gS fi40 (fr.op (.tmp 37)).bool? .skip (.exit 2) fr st k ∧
 (evK gS fi40 c40_27 fr st k = opsR gS fi40 [mv 26 7 3,
 op1 27 (.binOp .gtr 3 (.tmp 26) (.const (.int .i64 0)) 3) 4,
 mv 28 27 4,
 mk (some 29) (.move (.tmp 3)) 29 (some (2, true)),
 mk (some 30) (.move (.tmp 7)) 3 (some (2, true)),
 mk (some 31) (.binOp .sub 3 (.tmp 30) (.const (.int .i64 1)) 3) 3 (some (2, true)),
 mk (some 32) (.indexAddr 29 (.tmp 29) (.tmp 31)) 0 (some (2, true)),
 mk (some 33) (.fieldAddr 91 (.tmp 32) 0) 0 (some (2, true)),
 mk (some 34) (.load 9 (.tmp 33)) 9 (some (2, true)),
 mk (some 35) (.move (.tmp 5)) 9 (some (2, true)),
 mk (some 36) (.binOp .gtr 9 (.tmp 34) (.tmp 35) 9) 4 (some (2, true)),
 op1 37 (.pick (.tmp 28) (.tmp 36) (.const (.bool false))) 4] fr st (.seq c40_29 k)) ∧
 (evK gS fi40 c40_33 fr st k = opsR gS fi40 [mv 38 7 3,
 op1 39 (.binOp .sub 3 (.tmp 38) (.const (.int .i64 1)) 3) 3,
 asn 7 39 3] fr st k) ∧
 evK gS fi40 c40_32 fr st k = evK gS fi40 c40_33 fr st (.blk 3 k) ∧
 evK gS fi40 c40_26 fr st k = evK gS fi40 c40_27 fr st (.seq c40_32 k) ∧
 evK gS fi40 c40_37 fr st k = drwR gS fi40 r40_37 q40_37 fr st k ∧
 (evK gS fi40 c40_38 fr st k = opsR gS fi40 [mv 52 3 29,
 mv 53 7 3,
 ld 54 91 6 91,
 ixa 55 29 52 53 0,
 sto 91 55 54] fr st k) ∧
 evK gS fi40 c40_36 fr st k = evK gS fi40 c40_37 fr st (.seq c40_38 k) ∧
 evK gS fi40 c40_23 fr st k = evK gS fi40 c40_25 fr st (.blk 2 (.seq c40_34 k)) ∧
 (evK gS fi40 c40_21 fr st k = opsR gS fi40 [mv 24 3 29,
 len1 25 24 29 3,
 asn 7 25 3] fr st (.seq c40_23 k)) ∧
 (evK gS fi40 c40_19 fr st k = opsR gS fi40 [mv 21 0 23,
 mv 22 5 9,
 cal 23 71 [(.tmp 21), (.tmp 22)] [23, 9] 91,
 op1 6 (.alloc 91) 0,
 sto 91 6 23] fr st (.seq c40_21 k)) ∧
 (evK gS fi40 c40_17 fr st k = opsR gS fi40 [mv 19 0 23,
 cal 20 70 [(.tmp 19)] [23] 9,
 asn 5 20 9] fr st (.seq c40_19 k)) ∧
 (evK gS fi40 c40_39 fr st k = opsR gS fi40 [mv 17 4 3,
 op1 18 (.binOp .sub 3 (.tmp 17) (.const (.int .i64 1)) 3) 3,
 asn 4 18 3] fr st k) ∧
 evK gS fi40 c40_15 fr st k = evK gS fi40 c40_17 fr st (.blk 1 (.seq c40_39 k)) ∧
 evK gS fi40 c40_9 fr st k = evK gS fi40 c40_10 fr st (.seq c40_15 k) ∧
 evK gS fi40 c40_7 fr st k = evK gS fi40 c40_8 fr st (.blk 0 k) ∧
 (evK gS fi40 c40_5 fr st k = opsR gS fi40 [mv 8 0 23,
 cal 9 11 [(.tmp 8), (.const (.int .i64 4))] [23, 3] 3,
 asn 4 9 3] fr st (.seq c40_7 k)) ∧
 (evK gS fi40 c40_40 fr st k = opsR gS fi40 [mv 56 3 29,
 asn 2 56 29] fr st (.seq .ret k)) ∧
 evK gS fi40 c40_4 fr st k = evK gS fi40 c40_5 fr st (.seq c40_40 k) ∧
 evK gS fi40 c40_2 fr st k = opsR gS fi40 [op1 3 (.assign (.const (.slice none 0 0))) 29] fr st (.seq c40_4 k) ∧
 evK gS fi40 c40_0 fr st k = opsR gS fi40 [op1 2 (.assign (.const (.slice none 0 0))) 29] fr st (.seq c40_2 k) := ⟨rfl, evK_rs 3 rfl (by kernel_rfl), rfl, evK_rs 8 rfl (by kernel_rfl), evK_r 9 (by kernel_rfl), rfl, rfl, evK_dr 11 rfl (by kernel_rfl) (by kernel_rfl), evK_r 12 (by kernel_rfl), rfl, rfl, evK_rs 7 rfl (by kernel_rfl), evK_rs 6 rfl (by kernel_rfl), evK_rs 5 rfl (by kernel_rfl), evK_r 4 (by kernel_rfl), rfl, rfl, rfl, evK_rs 2 rfl (by kernel_rfl), evK_rs 13 rfl (by kernel_rfl), rfl, evK_rs 1 rfl (by kernel_rfl), evK_rs 0 rfl (by kernel_rfl)⟩
theorem m40 : mini fi40.body = c40_0 := by kernel_rfl
theorem n40_25 (fr : Fr) (st : St) (k : Kt) : nextK gS fi40 (.loop c40_26 k) .normal fr st = evK gS fi40 c40_25 fr st k := rfl
theorem n40_8 (fr : Fr) (st : St) (k : Kt) : nextK gS fi40 (.loop c40_9 k) .normal fr st = evK gS fi40 c40_8 fr st k := rfl
set_option maxHeartbeats 8000000 in
theorem I40 (nm : List UInt8) (f : List Pred) (idl : Nat) (st : St) (ho : St.obj st idl = some (f.flatMap Pred.cells)) (hfn : f.length < 1000) (R : Out × St) (e0 e4 : E) (h0 : e0.Tame) (h4 : e4.Tame) (X : List (Nat × List V)) (at0 : Nat)
    (H : ∀ T, evK gS fi40 c40_34 { ps := [(0, e0), (2, .own 0 []), (3, .val (.sref false 13 idl 0 f.length)), (4, e4), (5, .val (.str nm)), (6, .lp 6 0), (7, .val (.int .i64 at0))], ts := T, lc := X } st (.blk 1 (.seq c40_39 (.loop c40_9 (.blk 0 (.seq c40_40 .nil))))) = some R) :
    ∀ (k : Nat) (T : List (Nat × E)), k ≤ f.length → at0 = insN f nm k →
    evK gS fi40 c40_25 { ps := [(0, e0), (2, .own 0 []), (3, .val (.sref false 13 idl 0 f.length)), (4, e4), (5, .val (.str nm)), (6, .lp 6 0), (7, .val (.int .i64 k))], ts := T, lc := X } st (.blk 2 (.seq c40_34 (.blk 1 (.seq c40_39 (.loop c40_9 (.blk 0 (.seq c40_40 .nil))))))) = some R := by
  intro k
  have hm : fi40.marks = [43, 1000000] := rfl
  have hl : fi40.locals = [6] := rfl
  have hr : fi40.results = [.tmp 2] := rfl
  induction k with
  | zero =>
    intro T hk hat
    refine evK_loop c40_26 _ _ _ _ rfl ?_
    have h00 : insN f nm 0 = 0 := rfl
    rw [h00] at hat
    subst hat
    simp only [show ((0 : Nat) : Int) = 0 from rfl] at H ⊢
    simp [-St.obj, -St.set, h0, h4, H, -Int.not_le, -Int.not_lt, -Nat.not_le, -Nat.not_lt, ty3, ty4, ty9, ty23, ty29, ty91, hm, hl, hr, fi16_eq, fi29_eq, fi91_eq, E40, q40_37, n40_25, n40_8]
  | succ k ih =>
    intro T hk hat
    refine evK_loop c40_26 _ _ _ _ rfl ?_
    obtain ⟨x, hx⟩ : ∃ x, f[k]? = some x := ⟨f[k]'(by omega), List.getElem?_eq_getElem (by omega)⟩
    have hget := row_get Pred.cells 13 pcells_len hx (j := 0) (by omega)
    have hc0 : (Pred.cells x)[0]? = some (.str x.name) := rfl
    rw [hc0, Nat.add_zero] at hget
    have hins : insN f nm (k + 1) = if sgt x.name nm then insN f nm k else k + 1 := by
      show (if sgt ((f[k]?).getD ⟨[], 0, vzero, vzero, []⟩).name nm then insN f nm k else k + 1) = _
      rw [hx]; rfl
    rw [hins] at hat
    have hw1 : IntKind.wrap .i64 (((k + 1 : Nat) : Int) - 1) = (k : Int) := by rw [wrap64 (by omega) (by omega)]; omega
    have hp : (0 : Int) < ((k + 1 : Nat) : Int) := by omega
    have hlt : (k : Int) < (f.length : Int) := by omega
    have hlt2 : k < f.length := by omega
    have hsg : (!(Op.bytesLess x.name nm || decide (x.name = nm))) = sgt x.name nm := rfl
    cases hs : sgt x.name nm with
    | true =>
      rw [hs] at hsg hat
      have IH := fun T => ih T (by omega) (by rw [hat]; rfl)
      simp [-Int.natCast_add, -Bool.not_or, -St.obj, -St.set, h0, h4, ho, hget, hw1, hp, hlt, hlt2, hsg, IH, -Int.not_le, -Int.not_lt, -Nat.not_le, -Nat.not_lt, ty3, ty4, ty9, ty23, ty29, ty91, hm, hl, hr, fi16_eq, fi29_eq, fi91_eq, E40, q40_37, n40_25, n40_8]
    | false =>
      rw [hs] at hsg hat
      have hat2 : at0 = k + 1 := by rw [hat]; rfl
      subst hat2
      simp [-Int.natCast_add, -Bool.not_or, -St.obj, -St.set, h0, h4, ho, hget, hw1, hp, hlt, hlt2, hsg, H, -Int.not_le, -Int.not_lt, -Nat.not_le, -Nat.not_lt, ty3, ty4, ty9, ty23, ty29, ty91, hm, hl, hr, fi16_eq, fi29_eq, fi91_eq, E40, q40_37, n40_25, n40_8]
theorem ins_shift (f : List Pred) (z p : Pred) {i : Nat} (hi : i ≤ f.length) :
    (((f ++ [z]).take (i + 1) ++ ((f ++ [z]).drop i).take (f.length - i)).take i ++ [p] ++ ((f ++ [z]).take (i + 1) ++ ((f ++ [z]).drop i).take (f.length - i)).drop (i + 1)) = f.take i ++ p :: f.drop i := by
  have h1 : ((f ++ [z]).take (i + 1)).length = i + 1 := by simp; omega
  rw [List.take_append_of_le_length (by omega), List.take_take, Nat.min_eq_left (by omega), List.take_append_of_le_length hi, List.drop_append, h1, Nat.sub_self, List.drop_zero, List.drop_of_length_le (by omega), List.nil_append]
  rw [List.drop_append_of_le_length hi, List.take_append_of_le_length (by simp), List.take_of_length_le (l := f.drop i) (by simp)]
  simp
set_option maxHeartbeats 8000000 in
theorem T40_34 (f : List Pred) (hne : f ≠ []) (p : Pred) (hfn : f.length < 1000) (i : Nat) (hi : i ≤ f.length) (id m q : Nat) (st : St) (h : FeedOk st id) (l : List Int) (A : Nat) (nm : List UInt8) (r : Nat) (hr : r < 1000) (R : Out × St)
    (e0 : E) (h0 : e0.Tame) (X : List (Nat × List V)) (hx : lk X 6 = some p.cells) (T : List (Nat × E))
    (IH : ∀ T, evK gS fi40 c40_8 { ps := [(0, e0), (2, .own 0 []), (3, .val (.sref false 13 (st.objs.length + (m + 1 + q)) 0 (f.length + 1))), (4, .val (.int .i64 r)), (5, .val (.str nm)), (6, .lp 6 0), (7, .val (.int .i64 i))], ts := T, lc := X } (setF (nw st (m + 1 + q) ((f.take i ++ p :: f.drop i).flatMap Pred.cells)) id l A) (.blk 0 (.seq c40_40 .nil)) = some R) :
    evK gS fi40 c40_34 { ps := [(0, e0), (2, .own 0 []), (3, .val (.sref false 13 (st.objs.length + m) 0 f.length)), (4, .val (.int .i64 ((r + 1 : Nat) : Int))), (5, .val (.str nm)), (6, .lp 6 0), (7, .val (.int .i64 i))], ts := T, lc := X } (setF (dd (nw st m (f.flatMap Pred.cells)) q) id l A) (.blk 1 (.seq c40_39 (.loop c40_9 (.blk 0 (.seq c40_40 .nil))))) = some R := by
  have hm : fi40.marks = [43, 1000000] := rfl
  have hl : fi40.locals = [6] := rfl
  have hr : fi40.results = [.tmp 2] := rfl
  have ho := obj_mid h m q (f.flatMap Pred.cells) l A
  have hk := set_mid h m q (f.flatMap Pred.cells) l A
  have hn := fun fr k len cs => newRef_dd h fr (m + 1 + q) k len cs l A
  have hz : f.flatMap Pred.cells ++ [.str [], .int .i64 0, .int .i64 0, .int .i64 0, .float .f64 0, .str [], .bool false, .int .i64 0, .int .i64 0, .float .f64 0, .str [], .bool false, .slice []] = (f ++ [pzero]).flatMap Pred.cells := by simp [pzero, vzero, encVals]
  have hst := row_strip Pred.cells Pred.cells pcells_strip f
  have hon := row_one Pred.cells pcells_one f
  have hle := row_len Pred.cells 13 pcells_len f
  have hfl : 0 < f.length := List.length_pos_iff.2 hne
  have b1 : (f.length + 1) * 144 ≤ 140737488355328 := by omega
  have b2 : f.length + 1 ≤ 140737488355328 := by omega
  have hw1 : IntKind.wrap .i64 ((i : Int) + 1) = ((i + 1 : Nat) : Int) := by rw [wrap64 (by omega) (by omega)]; omega
  have hw2 : IntKind.wrap .i64 (((r + 1 : Nat) : Int) - 1) = (r : Int) := by rw [wrap64 (by omega) (by omega)]; omega
  have ho2 := obj_gr h (m + 1 + q) ((f ++ [pzero]).flatMap Pred.cells) l A
  have hel := elems_row ho2 false (i := i) (by simp; omega)
  rw [List.length_append, List.length_singleton] at hel
  have hlen : (f ++ [pzero]).length = f.length + 1 := by simp
  generalize hE0 : f ++ [pzero] = E0 at *
  have hsh := ins_shift f pzero p hi
  rw [hE0] at hsh
  have hs1 := sizes_preds (E0.drop i)
  have hdl : (E0.drop i).length = f.length + 1 - i := by simp [hlen]
  have c1 : ((i + 1 : Nat) : Int) ≤ (f.length : Int) + 1 := by omega
  have c2 : (i : Int) ≤ (f.length : Int) + 1 := by omega
  have c3 : (i : Int) < (f.length : Int) + 1 := by omega
  have hst2 := fun cs cs' => set_gr' h (m + 1 + q) cs cs' l A
  have hspl := row_splices Pred.cells 13 pcells_len E0 ((E0.drop i).take (f.length - i)) (i + 1) (by rw [List.length_take, hdl, hlen]; omega)
  have hE1 : E0.take (i + 1) ++ (E0.drop i).take (f.length - i) ++ E0.drop (i + 1 + ((E0.drop i).take (f.length - i)).length) = E0.take (i + 1) ++ (E0.drop i).take (f.length - i) := by
    have hd0 : E0.drop (i + 1 + ((E0.drop i).take (f.length - i)).length) = [] := List.drop_of_length_le (by rw [List.length_take, hdl, hlen]; omega)
    rw [hd0, List.append_nil]
  rw [hE1] at hspl
  generalize hE1g : E0.take (i + 1) ++ (E0.drop i).take (f.length - i) = E1 at *
  have hl1 : E1.length = f.length + 1 := by rw [← hE1g, List.length_append, List.length_take, List.length_take, hdl, hlen]; omega
  have hspl2 := row_splices Pred.cells 13 pcells_len E1 [p] i (by rw [hl1, List.length_singleton]; omega)
  rw [List.length_singleton, hsh] at hspl2
  have hpc : [p].flatMap Pred.cells = p.cells := by simp
  rw [hpc] at hspl2
  simp only [Pred.cells] at hspl2 hx
  have hmc : ∀ k, ((encPreds (E0.drop i)).take k).flatMap V.cells = ((E0.drop i).take k).flatMap Pred.cells := fun k => by
    rw [show (encPreds (E0.drop i)).take k = encPreds ((E0.drop i).take k) from by simp [encPreds], enc_cells]
  have hone := row_one Pred.cells pcells_one ((E0.drop i).take (f.length - i))
  have hrl := row_len Pred.cells 13 pcells_len ((E0.drop i).take (f.length - i))
  have ho1 := obj_gr h (m + 1 + q) (E1.flatMap Pred.cells) l A
  have hcp : ∀ n : Nat, (f.length + 1 - i - (n + 1)) = f.length - i - n := fun n => by omega
  have hsz : splice [.str [], .int .i64 0, .int .i64 0, .int .i64 0, .float .f64 0, .str [], .bool false, .int .i64 0, .int .i64 0, .float .f64 0, .str [], .bool false, .osl 0 []] 0 [.str [], .int .i64 0, .int .i64 0, .int .i64 0, .float .f64 0, .str [], .bool false, .int .i64 0, .int .i64 0, .float .f64 0, .str [], .bool false, .slice []] = some [.str [], .int .i64 0, .int .i64 0, .int .i64 0, .float .f64 0, .str [], .bool false, .int .i64 0, .int .i64 0, .float .f64 0, .str [], .bool false, .slice []] := rfl
  have heo : ∀ (ea : Bool) (k : Nat) (st : St) (n : Nat) (xs : List V), elemsAt ea k st (.own n xs) = some xs := fun _ _ _ _ _ => rfl
  by_cases hil : i = f.length
  · have hE01 : E1 = E0 := by
      rw [← hE1g, hil, Nat.sub_self, List.take_zero, List.append_nil, List.take_of_length_le (by omega)]
    subst hil
    rw [Nat.add_sub_cancel_left] at hel
    rw [hE01] at hspl2
    clear hE1 hE1g hspl hsh hone hrl ho1 hcp hmc hpc
    have hd1 : (E0.drop f.length).length = 1 := by rw [hdl]; omega
    simp [-Int.natCast_add, -St.obj, -St.set, -splice, h0, ho, hk, hn, hz, hst, hon, hle, hfl, b1, b2, hw1, hw2, ho2, hel, hlen, hs1, hd1, hspl2, hst2, hsz, heo, copyStep, markStep, markAppend, hx, IH, -Int.not_le, -Int.not_lt, -Nat.not_le, -Nat.not_lt, ty3, ty4, ty9, ty23, ty29, ty91, hm, hl, hr, fi16_eq, fi29_eq, fi91_eq, E40, q40_37, e40_34, n40_25, n40_8]
    simpa [Pred.cells] using IH [(18, .val (.int .i64 (r : Int))), (17, .val (.int .i64 ((r + 1 : Nat) : Int)))]
  · have hmin : min (f.length + 1 - i) (f.length - i) = f.length - i := by omega
    have hlei : ¬ f.length ≤ i := by omega
    have hne0 : ¬ (f.length - i = 0) := by omega
    have hrl2 : (((E0.drop i).take (f.length - i)).flatMap Pred.cells).length = (f.length - i) * 13 := by rw [hrl, List.length_take, hdl]; congr 1; omega
    have hpos2 : 0 < (f.length - i) * 13 := by omega
    have hpos3 : i < f.length := by omega
    have c6 : ((i + 1 : Nat) : Int) ≤ ((f.length + 1 : Nat) : Int) := by omega
    have c7 : (i : Int) ≤ ((f.length + 1 : Nat) : Int) := by omega
    have c8 : (i : Int) < ((f.length + 1 : Nat) : Int) := by omega
    have c9 : (0 : Int) ≤ ((i + 1 : Nat) : Int) := by omega
    have c10 : ¬ i = f.length + 1 := by omega
    simp [-Int.natCast_add, -List.flatMap_append, -St.obj, -St.set, -splice, h0, ho, hk, hn, hz, hst, hon, hle, hfl, b1, b2, hw1, hw2, ho1, ho2, hel, hlen, hs1, hdl, hmin, hlei, hne0, hrl2, hpos2, hpos3, hil, c6, c7, c8, c9, c10, hmc, hone, hspl, hspl2, hst2, hsz, heo, copyStep, markStep, markAppend, hx, -Int.not_le, -Int.not_lt, -Nat.not_le, -Nat.not_lt, ty3, ty4, ty9, ty23, ty29, ty91, hm, hl, hr, fi16_eq, fi29_eq, fi91_eq, E40, q40_37, e40_34, n40_25, n40_8]
    exact IH _
set_option maxHeartbeats 8000000 in
theorem L40 (l : List Int) (a id : Nat) (ha : a < 549755813888) (st : St) (h : FeedOk st id) : ∀ (r j m : Nat) (f : List Pred) (e5 e6 e7 : E) (T : List (Nat × E)) (X : List (Nat × List V)) (h5 : e5.Tame) (h6 : e6.Tame) (h7 : e7.Tame), f ≠ [] → f.length + r ≤ 3 → j + 20 * r < 549755810000 →
    evK gS fi40 c40_8 { ps := [(0, .val (.ptr id 0)), (2, .own 0 []), (3, .val (.sref false 13 (st.objs.length + m) 0 f.length)), (4, .val (.int .i64 r)), (5, e5), (6, e6), (7, e7)], ts := T, lc := X } (setF (nw st m (f.flatMap Pred.cells)) id l (nA l a j)) (.blk 0 (.seq c40_40 .nil)) = some (.ret (.slice (encPreds (filterG l a r j (m + 1) f).1)) none, setF (dd st (filterG l a r j (m + 1) f).2.2) id l (nA l a (filterG l a r j (m + 1) f).2.1)) := by
  intro r
  have hm : fi40.marks = [43, 1000000] := rfl
  have hl : fi40.locals = [6] := rfl
  have hr : fi40.results = [.tmp 2] := rfl
  induction r with
  | zero =>
    intro j m f e5 e6 e7 T X h5 h6 h7 hne hlr hj
    refine evK_loop c40_9 _ _ _ _ rfl ?_
    have hz := frz_preds 5 (st.objs.length + m) f hne (obj_gr h m _ l (nA l a j)) (set_gr h m _ l (nA l a j))
    rw [show filterG l a 0 j (m + 1) f = (f, j, m + 1) from rfl]
    simp [-St.obj, -St.set, h5, h6, h7, hz, -Int.not_le, -Int.not_lt, -Nat.not_le, -Nat.not_lt, ty3, ty4, ty9, ty23, ty29, ty91, hm, hl, hr, fi16_eq, fi29_eq, fi91_eq, E40, q40_37, e40_34, n40_25, n40_8]
  | succ r ih =>
    intro j m f e5 e6 e7 T X h5 h6 h7 hne hlr hj
    refine evK_loop c40_9 _ _ _ _ rfl ?_
    have hn := fun fr => k70 l a j id fr (nw st m (f.flatMap Pred.cells)) (h.nw m _) ha (by omega)
    have hp := fun fr => k71 l a (j + 1) id (nameV l a j) fr (nw st m (f.flatMap Pred.cells)) (h.nw m _) ha (by omega)
    have hg : filterG l a (r + 1) j (m + 1) f = filterG l a r (j + 1 + (predV l a (j + 1) (nameV l a j)).2) (m + 1 + (predV l a (j + 1) (nameV l a j)).1.set.length + 1) (insP f (predV l a (j + 1) (nameV l a j)).1 (nameV l a j)) := rfl
    rw [hg]
    have hpa := pred_asks l a (j + 1) (nameV l a j)
    generalize nameV l a j = nm at *
    generalize predV l a (j + 1) nm = P at *
    obtain ⟨p, k⟩ := P
    simp only at hp hg hpa ⊢
    have c1 : (0 : Int) < ((r + 1 : Nat) : Int) := by omega
    have c2 : (f.length : Int) < 3 := by omega
    have c3 : f.length < 3 := by omega
    have hil := insP_length f p nm
    have hi := insN_le f nm f.length
    have ipe : insP f p nm ≠ [] := by intro e; rw [e] at hil; simp at hil
    have IH := fun T X => ih (j + 1 + k) (m + 1 + p.set.length) (insP f p nm) (.val (.str nm)) (.lp 6 0) (.val (.int .i64 (insN f nm f.length))) T X rfl rfl rfl ipe (by rw [hil]; omega) (by omega)
    rw [hil] at IH
    simp only [insP] at IH ⊢
    have TT := fun X hx T => T40_34 f hne p (by omega) (insN f nm f.length) hi id m p.set.length st h l (nA l a (j + 1 + k)) nm r (by omega) _ (.val (.ptr id 0)) rfl X hx T (fun T => IH T X)
    have II := fun X hx T => I40 nm f (st.objs.length + m) (setF (dd (nw st m (f.flatMap Pred.cells)) p.set.length) id l (nA l a (j + 1 + k))) (obj_mid h m p.set.length _ l _) (by omega) _ (.val (.ptr id 0)) (.val (.int .i64 ((r + 1 : Nat) : Int))) rfl rfl X (insN f nm f.length) (fun T => TT X hx T) f.length T (Nat.le_refl _) rfl
    simp [-Int.natCast_add, -St.obj, -St.set, -List.flatMap_append, h5, h6, h7, hn, hp, c1, c2, c3, -Int.not_le, -Int.not_lt, -Nat.not_le, -Nat.not_lt, ty3, ty4, ty9, ty23, ty29, ty91, hm, hl, hr, fi16_eq, fi29_eq, fi91_eq, E40, q40_37, e40_34, n40_25, n40_8]
    refine II _ ?_ _
    simp
set_option maxHeartbeats 8000000 in
theorem c40 (l : List Int) (a j id : Nat) (st : St) (h : FeedOk st id) (ha : a < 549755813888) (hj : j < 549755809000) :
    EvF gS 40 [.ptr id 0] (setF st id l (nA l a j)) = some (.ret (.slice (encPreds (filterV l a j).1)) none, setF (dd st (filterV l a j).2.2) id l (nA l a (filterV l a j).2.1)) := by
  refine EvF_start fi35_eq (fun x h => by cases h) m40 ?_
  rw [st40]
  have hm : fi40.marks = [43, 1000000] := rfl
  have hl : fi40.locals = [6] := rfl
  have hr : fi40.results = [.tmp 2] := rfl
  have hb := fd_bound l a j (n := 4) (by omega)
  have hk := fun fr => k11 l a j id 4 fr st h ha (by omega) (by omega)
  unfold filterV
  generalize fd l a j 4 = z at *
  obtain ⟨r, rfl⟩ : ∃ r : Nat, z = (r : Int) := ⟨z.toNat, by omega⟩
  rw [Int.toNat_natCast]
  simp [-St.obj, -St.set, hk, -Int.not_le, -Int.not_lt, -Nat.not_le, -Nat.not_lt, ty3, ty4, ty9, ty23, ty29, ty91, hm, hl, hr, fi16_eq, fi29_eq, fi91_eq, E40, q40_37, e40_34, n40_25, n40_8]
  cases r with
  | zero =>
    refine evK_loop c40_9 _ _ _ _ rfl ?_
    have hz : ∀ st, frz 6 st (.slice []) = some (.slice [], st) := fun st => frz_flat 6 st _ rfl
    rw [show filterG l a 0 (j + 1) 0 [] = ([], j + 1, 0) from rfl]
    simp [-St.obj, -St.set, hz, dd_zero, encPreds, -Int.not_le, -Int.not_lt, -Nat.not_le, -Nat.not_lt, ty3, ty4, ty9, ty23, ty29, ty91, hm, hl, hr, fi16_eq, fi29_eq, fi91_eq, E40, q40_37, e40_34, n40_25, n40_8]
  | succ r =>
    refine evK_loop c40_9 _ _ _ _ rfl ?_
    have hn := fun fr => k70 l a (j + 1) id fr st h ha (by omega)
    have hp := fun fr => k71 l a (j + 1 + 1) id (nameV l a (j + 1)) fr st h ha (by omega)
    have hg : filterG l a (r + 1) (j + 1) 0 [] = filterG l a r (j + 1 + 1 + (predV l a (j + 1 + 1) (nameV l a (j + 1))).2) (0 + (predV l a (j + 1 + 1) (nameV l a (j + 1))).1.set.length + 1) (insP [] (predV l a (j + 1 + 1) (nameV l a (j + 1))).1 (nameV l a (j + 1))) := rfl
    rw [hg]
    have hpa := pred_asks l a (j + 1 + 1) (nameV l a (j + 1))
    generalize nameV l a (j + 1) = nm at *
    generalize predV l a (j + 1 + 1) nm = P at *
    obtain ⟨p, k⟩ := P
    simp only at hp hg hpa ⊢
    rw [show insP [] p nm = [p] from rfl, Nat.zero_add]
    have c1 : (0 : Int) < ((r + 1 : Nat) : Int) := by omega
    have LL := fun e5 e6 e7 T X h5 h6 h7 => L40 l a id ha st h r (j + 1 + 1 + k) p.set.length [p] e5 e6 e7 T X h5 h6 h7 (by simp) (by simp; omega) (by omega)
    have hpc : [p].flatMap Pred.cells = p.cells := by simp
    rw [hpc] at LL
    simp only [Pred.cells, List.length_singleton] at LL
    have hnr := fun fr kk len cs => newRef_dd h fr p.set.length kk len cs l (nA l a (j + 1 + 1 + k))
    have ho2 := fun cs => obj_gr h p.set.length cs l (nA l a (j + 1 + 1 + k))
    have hst2 := fun cs cs' => set_gr' h p.set.length cs cs' l (nA l a (j + 1 + 1 + k))
    have heo : ∀ (ea : Bool) (k : Nat) (st : St) (n : Nat) (xs : List V), elemsAt ea k st (.own n xs) = some xs := fun _ _ _ _ _ => rfl
    have hw2 : IntKind.wrap .i64 (((r + 1 : Nat) : Int) - 1) = (r : Int) := by rw [wrap64 (by omega) (by omega)]; omega
    have hel1 : elemsAt true 13 (setF (nw st p.set.length [.str [], .int .i64 0, .int .i64 0, .int .i64 0, .float .f64 0, .str [], .bool false, .int .i64 0, .int .i64 0, .float .f64 0, .str [], .bool false, .slice []]) id l (nA l a (j + 1 + 1 + k))) (.val (.sref false 13 (st.objs.length + p.set.length) 0 1)) = some (encPreds [pzero]) := elems_row (l := [pzero]) (ho2 _) false (i := 0) (Nat.zero_le _)
    have hs1 := sizes_preds [pzero]
    simp [-Int.natCast_add, -St.obj, -St.set, hn, hp, c1, -Int.not_le, -Int.not_lt, -Nat.not_le, -Nat.not_lt, ty3, ty4, ty9, ty23, ty29, ty91, hm, hl, hr, fi16_eq, fi29_eq, fi91_eq, E40, q40_37, e40_34, n40_25, n40_8]
    refine evK_loop c40_26 _ _ _ _ rfl ?_
    simp [-Int.natCast_add, -St.obj, -St.set, hnr, ho2, hst2, heo, hw2, w64_1, hel1, hs1, copyStep, markStep, markAppend, -Int.not_le, -Int.not_lt, -Nat.not_le, -Nat.not_lt, ty3, ty4, ty9, ty23, ty29, ty91, hm, hl, hr, fi16_eq, fi29_eq, fi91_eq, E40, q40_37, e40_34, n40_25, n40_8]
    exact LL _ _ _ _ _ rfl rfl rfl
theorem k40 (l : List Int) (a j id : Nat) (fr : Fr) (st : St) (h : FeedOk st id) (ha : a < 549755813888) (hj : j < 549755809000) :
    callStep gS (EvF gS) 40 [.ptr id 0] fr (setF st id l (nA l a j)) = some (.ok (.val (.slice (encPreds (filterV l a j).1))) (fr.map E.noMem) (setF (dd st (filterV l a j).2.2) id l (nA l a (filterV l a j).2.1))) := by
  unfold callStep
  simp only [show gS.ext 40 = none from rfl, fi35_eq, show fi40.pure = false from rfl, Bool.false_eq_true, if_false, c40 l a j id st h ha hj, retE]
  all_goals rfl
end
end Go.Proofs.Ytdoobejjedpcgaa
