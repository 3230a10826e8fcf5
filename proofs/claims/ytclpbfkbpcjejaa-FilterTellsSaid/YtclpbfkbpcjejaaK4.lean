/- Of any filters, any attributes, each answer is as the document says. Part 4. -/
import Derived.Test.YtclpbfkbpcjejaaK3
namespace Go.Ab
open Go
set_option linter.unusedVariables false
set_option linter.unusedSimpArgs false
set_option linter.unnecessarySimpa false
def flt (x y : Nat) : Bool := FloatKind.f64.format.order x y == some .lt
def fle (x y : Nat) : Bool := FloatKind.f64.format.order x y == some .lt || FloatKind.f64.format.order x y == some .eq
def fgt (x y : Nat) : Bool := FloatKind.f64.format.order x y == some .gt
def fge (x y : Nat) : Bool := FloatKind.f64.format.order x y == some .gt || FloatKind.f64.format.order x y == some .eq
def feq (x y : Nat) : Bool := FloatKind.f64.format.order x y == some .eq
theorem fb_lss (x y : Nat) : floatBin .lss .f64 x y = some (.bool (flt x y)) := rfl
theorem fb_leq (x y : Nat) : floatBin .leq .f64 x y = some (.bool (fle x y)) := rfl
theorem fb_gtr (x y : Nat) : floatBin .gtr .f64 x y = some (.bool (fgt x y)) := rfl
theorem fb_geq (x y : Nat) : floatBin .geq .f64 x y = some (.bool (fge x y)) := rfl
theorem fb_eql (x y : Nat) : floatBin .eql .f64 x y = some (.bool (feq x y)) := rfl
theorem fb_neq (x y : Nat) : floatBin .neq .f64 x y = some (.bool (!feq x y)) := rfl
theorem fs_eq (x y : Nat) : Op.floatEq .f64 x y = feq x y := rfl
attribute [simp] fb_lss fb_leq fb_gtr fb_geq fb_eql fb_neq fs_eq
def fbits (b : Nat) : Int := if feq b b then (if feq b 0 then 0 else b) else 9221120237041090560
def sgn (below above : Bool) : Int := if below then -1 else if above then 1 else 0
/-- The whole part; as a number. -/
def ftr (x : Nat) : Nat := (truncV x).getD 0
def ftz (x : Nat) : Int := ((FloatKind.f64.decode (ftr x)).toInt .zero).getD 0
def icmp (n : Int) (x : Nat) : Int × Bool :=
  if feq x x then
    if fge x 4890909195324358656 then (-1, true)
    else if flt x 14114281232179134464 then (1, true)
    else if ftz x = n then (sgn (flt (ftr x) x) (fgt (ftr x) x), true)
    else (sgn (n < ftz x) (n > ftz x), true)
  else (0, false)
def fcmp (a b : Nat) : Int × Bool := if feq a a && feq b b then (sgn (flt a b) (fgt a b), true) else (0, false)
def scmp (a b : List UInt8) : Int := sgn (Op.bytesLess a b) (!(Op.bytesLess a b || a == b))
def cmp (a b : Val) : Int × Bool :=
  if a.kind = 1 ∧ b.kind = 1 then (sgn (a.n < b.n) (a.n > b.n), true)
  else if a.kind = 2 ∧ b.kind = 2 then fcmp a.x b.x
  else if a.kind = 1 ∧ b.kind = 2 then icmp a.n b.x
  else if a.kind = 2 ∧ b.kind = 1 then (-(icmp b.n a.x).1, (icmp b.n a.x).2)
  else if a.kind = 3 ∧ b.kind = 3 then (scmp a.s b.s, true)
  else if a.kind = 4 ∧ b.kind = 4 then (sgn (!a.b && b.b) (a.b && !b.b), true)
  else (0, false)
def vis (a b : Val) : Bool := (cmp a b).2 && decide ((cmp a b).1 = 0)
def vright (v : Val) : Bool :=
  if v.kind = 1 then feq v.x 0 && v.s = [] && !v.b
  else if v.kind = 2 then v.n = 0 && v.s = [] && !v.b
  else if v.kind = 3 then v.n = 0 && feq v.x 0 && !v.b && v.s.length ≤ 12
  else if v.kind = 4 then v.n = 0 && feq v.x 0 && v.s = []
  else false
def vsame (a b : Val) : Bool := a.kind = b.kind && a.n = b.n && a.s = b.s && a.b = b.b && fbits a.x = fbits b.x
def vzero : Val := ⟨0, 0, 0, [], false⟩
def isWord (s : List UInt8) : Bool := s.all (fun c => !decide (c.toNat < 97) && !decide (122 < c.toNat)) && (decide (1 ≤ s.length) && decide (s.length ≤ 6))
def pright (p : Pred) : Bool :=
  if isWord p.name then
    if p.test = 1 then vsame p.v vzero && vsame p.w vzero && p.set.length = 0
    else if 2 ≤ p.test ∧ p.test ≤ 7 then vright p.v && vsame p.w vzero && p.set.length = 0
    else if p.test = 8 then vright p.v && vright p.w && p.set.length = 0
    else if p.test = 9 then vright p.v && p.v.kind = 3 && vsame p.w vzero && p.set.length = 0
    else if p.test = 10 then vsame p.v vzero && vsame p.w vzero && 1 ≤ p.set.length && p.set.length ≤ 4 && p.set.all vright
    else false
  else false
def sames : List Val → List Val → Bool
  | [], [] => true
  | a :: r, b :: s => vsame a b && sames r s
  | _, _ => false
def psame (a b : Pred) : Bool := a.name = b.name && a.test = b.test && vsame a.v b.v && vsame a.w b.w && sames a.set b.set
def isPre (s t : List UInt8) : Bool := t.length ≤ s.length && s.take t.length = t
def ptakes (p : Pred) (v : Val) : Bool :=
  if pright p then
    let c := cmp v p.v
    if p.test = 1 then true
    else if p.test = 2 then c.2 && c.1 = 0
    else if p.test = 3 then !(c.2 && c.1 = 0)
    else if p.test = 4 then c.2 && c.1 < 0
    else if p.test = 5 then c.2 && c.1 ≤ 0
    else if p.test = 6 then c.2 && c.1 > 0
    else if p.test = 7 then c.2 && c.1 ≥ 0
    else if p.test = 8 then c.2 && c.1 ≥ 0 && (cmp v p.w).2 && (cmp v p.w).1 ≤ 0
    else if p.test = 9 then v.kind = 3 && isPre v.s p.v.s
    else p.set.any (vis v)
  else false
def vnan (v : Val) : Bool := v.kind = 2 && !feq v.x v.x
def pvoid (p : Pred) : Bool :=
  if pright p then
    if p.test = 2 ∨ (4 ≤ p.test ∧ p.test ≤ 7) then vnan p.v
    else if p.test = 8 then !(cmp p.v p.w).2 || (cmp p.v p.w).1 > 0
    else if p.test = 10 then p.set.all vnan
    else false
  else false
/-- Where a test ends. -/
structure PEnd where
  is : Bool
  op : Bool
  v : Val
def PEnd.encP (e : PEnd) : V := .agg [.bool e.is, .bool e.op, .int .i64 e.v.kind, .int .i64 e.v.n, .float .f64 e.v.x, .str e.v.s, .bool e.v.b]
def PEnd.encR (e : PEnd) : V := .agg [.int .i64 e.v.kind, .int .i64 e.v.n, .float .f64 e.v.x, .str e.v.s, .bool e.v.b, .bool e.is, .bool e.op]
theorem PEnd.eta (e : PEnd) : (⟨e.is, e.op, e.v⟩ : PEnd) = e := rfl
attribute [simp] PEnd.encP PEnd.encR PEnd.eta
def lowE (p : Pred) : PEnd := if p.test = 6 ∨ p.test = 7 then ⟨true, p.test = 6, p.v⟩ else if p.test = 8 then ⟨true, false, p.v⟩ else ⟨false, false, vzero⟩
def highE (p : Pred) : PEnd := if p.test = 4 ∨ p.test = 5 then ⟨true, p.test = 4, p.v⟩ else if p.test = 8 then ⟨true, false, p.w⟩ else ⟨false, false, vzero⟩
def lowR (p : Pred) : PEnd := ⟨p.test = 6 ∨ p.test = 7 ∨ p.test = 8, p.test = 6, p.v⟩
def highR (p : Pred) : PEnd := if p.test = 8 then ⟨true, false, p.w⟩ else ⟨p.test = 4 ∨ p.test = 5, p.test = 4, p.v⟩
/-- Does an end lie within another one? -/
def within (q p : PEnd) (side : Int) : Bool :=
  if p.is then if q.is then (cmp q.v p.v).2 && (decide ((cmp q.v p.v).1 = side) || (decide ((cmp q.v p.v).1 = 0) && (!p.op || q.op))) else false else true
def pimplies (q p : Pred) : Bool :=
  if pright q && pright p then
    if pvoid q || p.test = 1 then true
    else if q.test = p.test && (vsame q.v p.v && vsame q.w p.w && sames q.set p.set) then true
    else if p.test = 3 then !ptakes q p.v
    else if q.test = 2 then ptakes p q.v
    else if q.test = 10 then q.set.all (fun v => vnan v || ptakes p v)
    else if ((lowE q).is || (highE q).is) && ((lowE p).is || (highE p).is) then
      within (lowE q) (lowE p) 1 && within (highE q) (highE p) (-1)
    else if q.test = 9 then
      if p.test = 9 then isPre q.v.s p.v.s
      else if p.test = 7 then (cmp q.v p.v).2 && (cmp q.v p.v).1 ≥ 0
      else if p.test = 6 then (cmp q.v p.v).2 && (cmp q.v p.v).1 > 0
      else false
    else false
  else false
theorem feq_flt {x : Nat} (h : feq x x = true) : flt x x = false := by
  unfold feq at h; unfold flt
  rw [beq_iff_eq] at h; rw [h]; rfl
theorem feq_fgt {x : Nat} (h : feq x x = true) : fgt x x = false := by
  unfold feq at h; unfold fgt
  rw [beq_iff_eq] at h; rw [h]; rfl
theorem less_irrefl : ∀ s : List UInt8, Op.bytesLess s s = false
  | [] => rfl
  | a :: r => by simp [Op.bytesLess, less_irrefl r]
/-- A right value is itself, but for NaN. -/
theorem vis_self {v : Val} (h : vright v = true) : vis v v = !vnan v := by
  unfold vright at h
  unfold vis vnan
  by_cases h1 : v.kind = 1
  · simp [cmp, h1, sgn]
  · by_cases h2 : v.kind = 2
    · by_cases h3 : feq v.x v.x = true
      · simp [cmp, h2, fcmp, h3, sgn, feq_flt h3, feq_fgt h3]
      · simp [cmp, h2, fcmp, h3]
    · by_cases h3 : v.kind = 3
      · simp [cmp, h3, scmp, sgn, less_irrefl]
      · by_cases h4 : v.kind = 4
        · simp [cmp, h4, sgn]
        · simp [h1, h2, h3, h4] at h
theorem all_self : ∀ {l : List Val}, l.all vright = true → l.all (fun v => !vis v v) = l.all vnan
  | [], _ => rfl
  | v :: r, h => by
    simp only [List.all_cons, Bool.and_eq_true] at h
    simp only [List.all_cons, vis_self h.1, all_self h.2, Bool.not_not]
theorem sames_len : ∀ {a b : List Val}, sames a b = true → a.length = b.length
  | [], [], _ => rfl
  | a :: r, b :: s, h => by
    simp only [sames, Bool.and_eq_true] at h
    simp [sames_len h.2]
  | [], _ :: _, h => by simp [sames] at h
  | _ :: _, [], h => by simp [sames] at h
theorem sames_ne {a b : List Val} (h : ¬ a.length = b.length) : sames a b = false := by
  cases hs : sames a b with
  | false => rfl
  | true => exact absurd (sames_len hs) h
theorem right_facts {p : Pred} (h : pright p = true) : (2 ≤ p.test → p.test ≤ 7 → vis p.v p.v = !vnan p.v) ∧ (p.test = 10 → (p.set.all fun v => !vis v v) = p.set.all vnan) := by
  unfold pright at h
  constructor
  · intro h1 h2
    have h3 : ¬ p.test = 1 := by omega
    by_cases hw : isWord p.name = true
    · rw [if_pos hw, if_neg h3, if_pos ⟨h1, h2⟩] at h
      simp only [Bool.and_eq_true] at h
      exact vis_self h.1.1
    · rw [if_neg hw] at h; cases h
  · intro h1
    simp [h1] at h
    exact all_self (List.all_eq_true.2 h.2.2)
theorem sgn_bound (a b : Bool) : -1 ≤ sgn a b ∧ sgn a b ≤ 1 := by cases a <;> cases b <;> simp [sgn]
theorem icmp_bound (n : Int) (x : Nat) : -1 ≤ (icmp n x).1 ∧ (icmp n x).1 ≤ 1 := by
  unfold icmp
  repeat' split
  all_goals first | exact sgn_bound _ _ | simp
theorem sgn_tri (a b : Bool) : sgn a b = -1 ∨ sgn a b = 0 ∨ sgn a b = 1 := by cases a <;> cases b <;> simp [sgn]
theorem icmp_tri (n : Int) (x : Nat) : (icmp n x).1 = -1 ∨ (icmp n x).1 = 0 ∨ (icmp n x).1 = 1 := by
  have := icmp_bound n x
  omega
theorem cmp_tri (a b : Val) : (cmp a b).1 = -1 ∨ (cmp a b).1 = 0 ∨ (cmp a b).1 = 1 := by
  unfold cmp
  repeat' split
  · exact sgn_tri _ _
  · unfold fcmp; split
    · exact sgn_tri _ _
    · simp
  · exact icmp_tri _ _
  · have := icmp_tri b.n a.x; simp only; omega
  · exact sgn_tri _ _
  · exact sgn_tri _ _
  · simp
theorem wrap_icmp (n : Int) (x : Nat) : IntKind.wrap .i64 (-(icmp n x).1) = -(icmp n x).1 := by
  have := icmp_bound n x
  exact wrap64 (by omega) (by omega)
/-- A test that is looked into at the end. -/
def opq (b : Bool) : Bool := b
theorem agg_eql (ks : List TK) (x y : List V) : binAgg ks .eql x y = (eqCells ks x y).map fun b => .bool (opq b) := rfl
theorem agg_neq (ks : List TK) (x y : List V) : binAgg ks .neq x y = (eqCells ks x y).map fun b => .bool (!opq b) := rfl
theorem feq00 : feq 0 0 = true := by kernel_rfl
attribute [simp] less_irrefl feq00
attribute [simp] wrap_icmp agg_eql agg_neq eqCells eqScalar
end Go.Ab
namespace Go.Ab
open Go Ieee
set_option linter.unusedVariables false
set_option linter.unusedSimpArgs false
set_option linter.unnecessarySimpa false
set_option maxRecDepth 4000

theorem read_cases (x : Nat) : (∃ s t, double.read x = .nan s t) ∨ (∃ s, double.read x = .infinity s) ∨ ∃ s m e, double.read x = .number s m e ∧ m < 2 ^ 53 ∧ (-1074 < e → 2 ^ 52 ≤ m) ∧ -1074 ≤ e := by
  have hb : double.binade = 2 ^ 52 := rfl
  have hl : double.leastPlace = -1074 := rfl
  unfold Format.read
  simp only [hb, hl]
  generalize x % double.signWeight = r
  split
  · exact .inr (.inr ⟨_, _, _, rfl, by omega, by omega, by omega⟩)
  · split
    · refine .inr (.inr ⟨_, _, _, rfl, ?_, ?_, ?_⟩)
      · have := Nat.mod_lt r (show 0 < 2 ^ 52 by decide); omega
      · intro _; omega
      · omega
    · split
      · exact .inr (.inl ⟨_, rfl⟩)
      · exact .inl ⟨_, _, rfl⟩

theorem cut_zero (s : Bool) (n d : Nat) : Toward.zero.cut s n d = n / 2 ^ (min d (n.log2 + 2)) := by
  simp [Toward.cut, Nat.shiftLeft_eq]
theorem cut_even_dvd (s : Bool) (n d q : Nat) (h : n = q * 2 ^ (min d (n.log2 + 2))) : Toward.even.cut s n d = q := by
  have hp : 0 < 2 ^ (min d (n.log2 + 2)) := Nat.pow_pos (by decide)
  have h1 : n / 2 ^ (min d (n.log2 + 2)) = q := by
    conv => lhs; lhs; rw [h]
    exact Nat.mul_div_cancel _ hp
  have h2 : n % 2 ^ (min d (n.log2 + 2)) = 0 := by
    conv => lhs; lhs; rw [h]
    exact Nat.mul_mod_left _ _
  simp only [Toward.cut, Nat.shiftLeft_eq, Nat.one_mul, h1, h2]
  have h3 : ¬ (2 ^ (min d (n.log2 + 2)) = 0) := by omega
  simp [h3]

theorem log2_of {n k : Nat} (h1 : 2 ^ k ≤ n) (h2 : n < 2 ^ (k + 1)) : n.log2 = k := by
  have h0 : n ≠ 0 := by have := Nat.pow_pos (n := k) (show 0 < 2 by decide); omega
  have a : k ≤ n.log2 := (Nat.le_log2 h0).2 h1
  have b : n.log2 < k + 1 := (Nat.log2_lt h0).2 h2
  omega

/-- A word that is read as it was laid. -/
theorem read_word (s : Bool) (K : Nat) (l : Int) (h1 : 2 ^ 52 ≤ K) (h2 : K < 2 ^ 53) (h3 : -1074 ≤ l) (h4 : l ≤ 900) :
    double.read (double.word s (min ((l - double.leastPlace).toNat * double.binade + K) double.infRung)) = .number s K l := by
  have hb : double.binade = 4503599627370496 := rfl
  have hl : double.leastPlace = -1074 := rfl
  have hi : double.infRung = 9218868437227405312 := rfl
  have hw : double.signWeight = 9223372036854775808 := rfl
  obtain ⟨p, hp⟩ : ∃ p : Nat, (l - double.leastPlace).toNat = p ∧ l = (p : Int) - 1074 ∧ p ≤ 1974 := ⟨(l + 1074).toNat, by rw [hl]; omega, by omega, by omega⟩
  obtain ⟨hp1, hp2, hp3⟩ := hp
  rw [hp1]
  have hm : min (p * double.binade + K) double.infRung = p * 4503599627370496 + K := by rw [hb, hi]; omega
  rw [hm]
  have hr : (p * 4503599627370496 + K) < 9223372036854775808 := by omega
  have key : ∀ w : Nat, w % 9223372036854775808 = p * 4503599627370496 + K → (w / 9223372036854775808 % 2 == 1) = s → double.read w = .number s K l := by
    intro w e1 e2
    unfold Format.read
    simp only [hb, hl, hi, hw, e1, e2]
    have c1 : ¬ p * 4503599627370496 + K < 4503599627370496 := by omega
    have c2 : p * 4503599627370496 + K < 9218868437227405312 := by omega
    have c3 : (p * 4503599627370496 + K) % 4503599627370496 = K - 4503599627370496 := by omega
    have c4 : (p * 4503599627370496 + K) / 4503599627370496 - 1 = p := by omega
    rw [if_neg c1, if_pos c2, c3, c4, hp2]
    have c5 : 4503599627370496 + (K - 4503599627370496) = K := by omega
    have c6 : (-1074 : Int) + (p : Int) = (p : Int) - 1074 := by omega
    rw [c5, c6]
  apply key
  · cases s with
    | false => show (p * 4503599627370496 + K) % 9223372036854775808 = _; omega
    | true => show (9223372036854775808 + (p * 4503599627370496 + K)) % 9223372036854775808 = _; omega
  · cases s with
    | false =>
      show ((p * 4503599627370496 + K) / 9223372036854775808 % 2 == 1) = false
      rw [Nat.div_eq_of_lt hr]; rfl
    | true =>
      show ((9223372036854775808 + (p * 4503599627370496 + K)) / 9223372036854775808 % 2 == 1) = true
      rw [show (9223372036854775808 + (p * 4503599627370496 + K)) / 9223372036854775808 = 1 by omega]; rfl
theorem read_zero (s : Bool) : double.read (double.word s 0) = .number s 0 (-1074) := by cases s <;> rfl

theorem signed_bound (s : Bool) (M : Nat) (h : M ≤ 2 ^ 63) (hs : s = false → M < 2 ^ 63) : -9223372036854775808 ≤ signed s M 0 ∧ signed s M 0 ≤ 9223372036854775807 := by
  unfold signed
  simp only [Nat.shiftLeft_zero]
  cases s with
  | false => have := hs rfl; simp only [Bool.false_eq_true, if_false]; omega
  | true => simp only [if_true]; omega

/-- A whole number of few digits is written as it is. -/
theorem whole_exact (s : Bool) (M : Nat) (h : M ≤ 2 ^ 63) (hM : M < 2 ^ 53 ∨ ∃ m e : Nat, M = m * 2 ^ e ∧ 2 ^ 52 ≤ m ∧ m < 2 ^ 53) :
    (double.read (double.write (.number s M 0))).toInt .zero = some (signed s M 0) := by
  have hl : double.leastPlace = -1074 := rfl
  have hf : (double.fractionBits : Int) = 52 := rfl
  unfold Format.write Format.nearest
  dsimp only
  by_cases h0 : M = 0
  · subst h0
    simp only [if_true]
    rw [read_zero]
    simp only [Datum.toInt, Datum.integral, cut_zero]
    simp
  · rw [if_neg h0]
    have hL1 : 2 ^ M.log2 ≤ M := Nat.log2_self_le h0
    have hL2 : M < 2 ^ (M.log2 + 1) := Nat.lt_log2_self
    have hL : M.log2 ≤ 63 := by
      have : M.log2 < 64 := (Nat.log2_lt h0).2 (by omega)
      omega
    have hlast : max ((0 : Int) + (M.log2 : Int) - (double.fractionBits : Int)) double.leastPlace = (M.log2 : Int) - 52 := by rw [hl, hf]; omega
    simp only [hlast]
    -- kept
    obtain ⟨K, l, hK, hK1, hK2, hlk, hdef⟩ : ∃ K : Nat, ∃ l : Int, (l = (M.log2 : Int) - 52) ∧ 2 ^ 52 ≤ K ∧ K < 2 ^ 53 ∧ Toward.even.cut s (M <<< ((0 : Int) - ((M.log2 : Int) - 52)).toNat) (((M.log2 : Int) - 52) - 0).toNat = K ∧
        ((0 ≤ l → M = K * 2 ^ l.toNat) ∧ (l < 0 → K = M * 2 ^ (-l).toNat ∧ (-l).toNat ≤ 52)) := by
      by_cases hs : M.log2 ≤ 52
      · refine ⟨M * 2 ^ (52 - M.log2), (M.log2 : Int) - 52, rfl, ?_, ?_, ?_, ?_, ?_⟩
        · calc 2 ^ 52 = 2 ^ M.log2 * 2 ^ (52 - M.log2) := by rw [← Nat.pow_add]; congr 1; omega
            _ ≤ M * 2 ^ (52 - M.log2) := Nat.mul_le_mul_right _ hL1
        · calc M * 2 ^ (52 - M.log2) < 2 ^ (M.log2 + 1) * 2 ^ (52 - M.log2) := Nat.mul_lt_mul_of_pos_right hL2 (Nat.pow_pos (by decide))
            _ = 2 ^ 53 := by rw [← Nat.pow_add]; congr 1; omega
        · have e1 : ((0 : Int) - ((M.log2 : Int) - 52)).toNat = 52 - M.log2 := by omega
          have e2 : (((M.log2 : Int) - 52) - 0).toNat = 0 := by omega
          rw [e1, e2]
          exact cut_even_dvd _ _ _ _ (by rw [Nat.zero_min, Nat.shiftLeft_eq]; simp)
        · intro hge
          have e : M.log2 = 52 := by omega
          rw [e]; simp
        · intro hlt
          have e : (-((M.log2 : Int) - 52)).toNat = 52 - M.log2 := by omega
          rw [e]; exact ⟨rfl, by omega⟩
      · obtain ⟨m, e, hme, hm1, hm2⟩ : ∃ m e : Nat, M = m * 2 ^ e ∧ 2 ^ 52 ≤ m ∧ m < 2 ^ 53 := by
          rcases hM with hM | hM
          · exfalso
            have : M.log2 < 53 := (Nat.log2_lt h0).2 hM
            omega
          · exact hM
        have hlog : M.log2 = 52 + e := by
          apply log2_of
          · rw [hme, Nat.pow_add]; exact Nat.mul_le_mul_right _ hm1
          · rw [hme, show 52 + e + 1 = 53 + e by omega, Nat.pow_add]; exact Nat.mul_lt_mul_of_pos_right hm2 (Nat.pow_pos (by decide))
        refine ⟨m, (M.log2 : Int) - 52, rfl, hm1, hm2, ?_, ?_, ?_⟩
        · have e1 : ((0 : Int) - ((M.log2 : Int) - 52)).toNat = 0 := by omega
          have e2 : (((M.log2 : Int) - 52) - 0).toNat = e := by omega
          rw [e1, e2]
          refine cut_even_dvd _ _ _ _ ?_
          rw [Nat.shiftLeft_zero, hlog, show min e (52 + e + 2) = e by omega]; exact hme
        · intro _
          rw [show ((M.log2 : Int) - 52).toNat = e by omega]; exact hme
        · intro hlt; omega
    rw [hlk, ← hK, read_word s K l hK1 hK2 (by omega) (by omega)]
    simp only [Datum.toInt, Datum.integral, cut_zero]
    have hKl : K.log2 = 52 := log2_of hK1 hK2
    have : (K <<< l.toNat) / 2 ^ (min (-l).toNat ((K <<< l.toNat).log2 + 2)) = M := by
      by_cases hge : 0 ≤ l
      · have e : (-l).toNat = 0 := by omega
        rw [e, Nat.zero_min, Nat.pow_zero, Nat.div_one, Nat.shiftLeft_eq]
        exact (hdef.1 hge).symm
      · have e : l.toNat = 0 := by omega
        obtain ⟨d1, d2⟩ := hdef.2 (by omega)
        rw [e, Nat.shiftLeft_zero, hKl, show min (-l).toNat (52 + 2) = (-l).toNat by omega, d1]
        exact Nat.mul_div_cancel _ (Nat.pow_pos (by decide))
    rw [this]

theorem ord_cmp (s t : Bool) (m n : Nat) (i j : Int) : Datum.order (.number s m i) (.number t n j) = some (compare (signed s m (i - min i j).toNat) (signed t n (j - min i j).toNat)) := rfl
/-- What a float that is no NaN, below 2^63, at least -2^63, has as its whole part. -/
theorem conv_ok (x : Nat) (h1 : feq x x = true) (h2 : ¬ fge x 4890909195324358656 = true) (h3 : ¬ flt x 14114281232179134464 = true) :
    truncV x = some (ftr x) ∧ (FloatKind.f64.decode (ftr x)).toInt .zero = some (ftz x) ∧ (-9223372036854775808 ≤ ftz x ∧ ftz x ≤ 9223372036854775807) := by
  have c1 : double.read 4890909195324358656 = .number false 4503599627370496 11 := rfl
  have c2 : double.read 14114281232179134464 = .number true 4503599627370496 11 := rfl
  have hfeq : feq x x = ((double.read x).order (double.read x) == some .eq) := rfl
  have hfge : fge x 4890909195324358656 = ((double.read x).order (double.read 4890909195324358656) == some .gt || (double.read x).order (double.read 4890909195324358656) == some .eq) := rfl
  have hflt : flt x 14114281232179134464 = ((double.read x).order (double.read 14114281232179134464) == some .lt) := rfl
  rw [hfeq] at h1; rw [hfge, c1] at h2; rw [hflt, c2] at h3
  rcases read_cases x with ⟨s, t, hx⟩ | ⟨s, hx⟩ | ⟨s, m, e, hx, hm, hn, he⟩
  · rw [hx] at h1; simp [Datum.order] at h1
  · rw [hx] at h2 h3
    cases s
    · simp [Datum.order] at h2
    · simp [Datum.order] at h3
  · have hd : FloatKind.f64.decode x = .number s m e := hx
    rw [hx] at h2 h3
    rw [ord_cmp] at h2 h3
    have ht : truncV x = some (double.write (.number s (Toward.zero.cut s (m <<< e.toNat) (-e).toNat) 0)) := by
      unfold truncV; rw [hd]; rfl
    have hftr : ftr x = double.write (.number s (Toward.zero.cut s (m <<< e.toNat) (-e).toNat) 0) := by unfold ftr; rw [ht]; rfl
    have hM : ∃ M, Toward.zero.cut s (m <<< e.toNat) (-e).toNat = M ∧ M ≤ 2 ^ 63 ∧ (s = false → M < 2 ^ 63) ∧ (M < 2 ^ 53 ∨ ∃ m e : Nat, M = m * 2 ^ e ∧ 2 ^ 52 ≤ m ∧ m < 2 ^ 53) := by
      by_cases hge : 0 ≤ e
      · obtain ⟨k, rfl⟩ : ∃ k : Nat, e = (k : Int) := ⟨e.toNat, by omega⟩
        have hm52 : 2 ^ 52 ≤ m := hn (by omega)
        have e1 : (-(k : Int)).toNat = 0 := by omega
        rw [cut_zero, e1, Nat.zero_min, Nat.pow_zero, Nat.div_one, Int.toNat_natCast, Nat.shiftLeft_eq]
        have hle : m * 2 ^ k ≤ 2 ^ 63 ∧ (s = false → m * 2 ^ k < 2 ^ 63) := by
          by_cases hk : k ≤ 11
          · have hp : 2 ^ k * 2 ^ (11 - k) = 2 ^ 11 := by rw [← Nat.pow_add]; congr 1; omega
            rw [show ((k : Int) - min (k : Int) 11).toNat = 0 by omega, show ((11 : Int) - min (k : Int) 11).toNat = 11 - k by omega] at h2 h3
            simp only [signed, Nat.shiftLeft_eq] at h2 h3
            have hpp : 0 < 2 ^ k := Nat.pow_pos (by decide)
            generalize 2 ^ (11 - k) = q at *
            generalize 2 ^ k = r at *
            cases s with
            | false =>
              simp only [Bool.false_eq_true, if_false] at h2
              have hlt : m < 4503599627370496 * q := by
                rcases Nat.lt_or_ge m (4503599627370496 * q) with hlt | hge2
                · exact hlt
                · exfalso; apply h2
                  rcases Nat.lt_or_eq_of_le hge2 with hgt | heq
                  · have : compare ((m * 2 ^ 0 : Nat) : Int) ((4503599627370496 * q : Nat) : Int) = .gt := Int.compare_eq_gt.2 (by omega)
                    rw [this]; rfl
                  · have : compare ((m * 2 ^ 0 : Nat) : Int) ((4503599627370496 * q : Nat) : Int) = .eq := Int.compare_eq_eq.2 (by omega)
                    rw [this]; rfl
              have : m * r < 4503599627370496 * q * r := Nat.mul_lt_mul_of_pos_right hlt hpp
              have e : 4503599627370496 * q * r = 2 ^ 63 := by rw [Nat.mul_assoc, Nat.mul_comm q r, hp]
              omega
            | true =>
              simp only [if_true] at h3
              have hle : m ≤ 4503599627370496 * q := by
                rcases Nat.lt_or_ge (4503599627370496 * q) m with hlt | hge2
                · exfalso; apply h3
                  have : compare (-((m * 2 ^ 0 : Nat) : Int)) (-((4503599627370496 * q : Nat) : Int)) = .lt := Int.compare_eq_lt.2 (by omega)
                  rw [this]; rfl
                · exact hge2
              have : m * r ≤ 4503599627370496 * q * r := Nat.mul_le_mul_right _ hle
              have e : 4503599627370496 * q * r = 2 ^ 63 := by rw [Nat.mul_assoc, Nat.mul_comm q r, hp]
              exact ⟨by omega, fun h => by cases h⟩
          · exfalso
            have hp : 2 ^ 12 ≤ 2 * 2 ^ (k - 11) * 2 ^ 11 := by
              have : 1 ≤ 2 ^ (k - 11) := Nat.one_le_two_pow
              omega
            have h2k : 2 ≤ 2 ^ (k - 11) := by
              calc 2 = 2 ^ 1 := rfl
                _ ≤ 2 ^ (k - 11) := Nat.pow_le_pow_right (by decide) (by omega)
            rw [show ((k : Int) - min (k : Int) 11).toNat = k - 11 by omega, show ((11 : Int) - min (k : Int) 11).toNat = 0 by omega] at h2 h3
            simp only [signed, Nat.shiftLeft_eq] at h2 h3
            have hbig : 4503599627370496 < m * 2 ^ (k - 11) := by
              have := Nat.mul_le_mul hm52 h2k
              omega
            generalize m * 2 ^ (k - 11) = z at *
            cases s with
            | false =>
              simp only [Bool.false_eq_true, if_false] at h2
              apply h2
              have : compare (z : Int) ((4503599627370496 * 2 ^ 0 : Nat) : Int) = .gt := Int.compare_eq_gt.2 (by omega)
              rw [this]; rfl
            | true =>
              simp only [if_true] at h3
              apply h3
              have : compare (-(z : Int)) (-((4503599627370496 * 2 ^ 0 : Nat) : Int)) = .lt := Int.compare_eq_lt.2 (by omega)
              rw [this]; rfl
        exact ⟨_, rfl, hle.1, hle.2, .inr ⟨m, k, rfl, hm52, hm⟩⟩
      · have e1 : e.toNat = 0 := by omega
        rw [cut_zero, e1, Nat.shiftLeft_zero]
        have hle : m / 2 ^ (min (-e).toNat (m.log2 + 2)) ≤ m := Nat.div_le_self _ _
        exact ⟨_, rfl, by omega, fun _ => by omega, .inl (by omega)⟩
    obtain ⟨M, hMe, hM1, hM2, hM3⟩ := hM
    rw [hMe] at ht hftr
    have hz := whole_exact s M hM1 hM3
    have hdz : (FloatKind.f64.decode (ftr x)).toInt .zero = some (signed s M 0) := by rw [hftr]; exact hz
    have hftz : ftz x = signed s M 0 := by unfold ftz; rw [hdz]; rfl
    refine ⟨by rw [ht, hftr], by rw [hdz, hftz], ?_⟩
    rw [hftz]
    exact signed_bound s M hM1 hM2
end Go.Ab
namespace Go.Proofs.Ytclpbfkbpcjejaa
open Go Go.Ab
set_option linter.unusedVariables false
set_option linter.unusedSimpArgs false
set_option linter.unnecessarySimpa false
set_option maxRecDepth 20000
noncomputable section
variable (fr : Fr) (st : St) (k : Kt)
theorem ty2 : gS.ty 2 = some { k := .int .i64, size := 1, agg := false, zero := [.int .i64 0] } := by kernel_rfl
theorem ty3 : gS.ty 3 = some { k := .int .i64, size := 1, agg := false, zero := [.int .i64 0] } := by kernel_rfl
theorem ty4 : gS.ty 4 = some { k := .bool, size := 1, agg := false, zero := [.bool false] } := by kernel_rfl
theorem ty5 : gS.ty 5 = some { k := .int .u8, size := 1, agg := false, zero := [.int .u8 0] } := by kernel_rfl
theorem ty9 : gS.ty 9 = some { k := .str, size := 1, agg := false, zero := [.str []] } := by kernel_rfl
theorem ty22 : gS.ty 22 = some { k := .float .f64, size := 1, agg := false, zero := [.float .f64 0] } := by kernel_rfl
theorem ty24 : gS.ty 24 = some { k := .struct [(0, 1, false), (1, 1, false), (2, 1, false), (3, 1, false), (4, 1, false)], size := 5, agg := true, zero := [.int .i64 0, .int .i64 0, .float .f64 0, .str [], .bool false] } := by kernel_rfl
theorem ty25 : gS.ty 25 = some { k := .slice 5 48 true [.int .i64 0, .int .i64 0, .float .f64 0, .str [], .bool false], size := 1, agg := false, zero := [.osl 0 []] } := by kernel_rfl
theorem ty27 : gS.ty 27 = some { k := .struct [(0, 1, false), (1, 1, false), (2, 5, true), (7, 5, true), (12, 1, false)], size := 13, agg := true, zero := [.str [], .int .i64 0, .int .i64 0, .int .i64 0, .float .f64 0, .str [], .bool false, .int .i64 0, .int .i64 0, .float .f64 0, .str [], .bool false, .osl 0 []] } := by kernel_rfl
theorem ty28 : gS.ty 28 = some { k := .slice 1 8 false [.int .i64 0], size := 1, agg := false, zero := [.osl 0 []] } := by kernel_rfl
theorem ty29 : gS.ty 29 = some { k := .pointer, size := 1, agg := false, zero := [.nilp] } := by kernel_rfl
theorem ty31 : gS.ty 31 = some { k := .struct [(0, 1, false), (1, 1, false)], size := 2, agg := true, zero := [.osl 0 [], .int .i64 0] } := by kernel_rfl
theorem ty49 : gS.ty 49 = some { k := .slice 13 144 true [.str [], .int .i64 0, .int .i64 0, .int .i64 0, .float .f64 0, .str [], .bool false, .int .i64 0, .int .i64 0, .float .f64 0, .str [], .bool false, .osl 0 []], size := 1, agg := false, zero := [.osl 0 []] } := by kernel_rfl
theorem ty50 : gS.ty 50 = some { k := .slice 6 64 true [.str [], .int .i64 0, .int .i64 0, .float .f64 0, .str [], .bool false], size := 1, agg := false, zero := [.osl 0 []] } := by kernel_rfl
theorem ty51 : gS.ty 51 = some { k := .slice 1 24 false [.osl 0 []], size := 1, agg := false, zero := [.osl 0 []] } := by kernel_rfl
theorem ty89 : gS.ty 89 = some { k := .array 6 1 false, size := 6, agg := true, zero := [.str [], .str [], .str [], .str [], .str [], .str []] } := by kernel_rfl
theorem ty90 : gS.ty 90 = some { k := .array 6 1 false, size := 6, agg := true, zero := [.int .i64 0, .int .i64 0, .int .i64 0, .int .i64 0, .int .i64 0, .int .i64 0] } := by kernel_rfl
theorem ty99 : gS.ty 99 = some { k := .struct [(0, 1, false), (1, 1, false), (2, 5, true)], size := 7, agg := true, zero := [.bool false, .bool false, .int .i64 0, .int .i64 0, .float .f64 0, .str [], .bool false] } := by kernel_rfl
theorem ty105 : gS.ty 105 = some { k := .struct [(0, 5, true), (5, 1, false), (6, 1, false)], size := 7, agg := true, zero := [.int .i64 0, .int .i64 0, .float .f64 0, .str [], .bool false, .bool false, .bool false] } := by kernel_rfl
theorem ty107 : gS.ty 107 = some { k := .array 4 1 false, size := 4, agg := true, zero := [.str [], .str [], .str [], .str []] } := by kernel_rfl
theorem ty109 : gS.ty 109 = some { k := .array 5 1 false, size := 5, agg := true, zero := [.str [], .str [], .str [], .str [], .str []] } := by kernel_rfl
theorem ty111 : gS.ty 111 = some { k := .struct [(0, 1, false), (1, 5, true)], size := 6, agg := true, zero := [.str [], .int .i64 0, .int .i64 0, .float .f64 0, .str [], .bool false] } := by kernel_rfl
theorem ty117 : gS.ty 117 = some { k := .array 14 1 false, size := 14, agg := true, zero := [.float .f64 0, .float .f64 0, .float .f64 0, .float .f64 0, .float .f64 0, .float .f64 0, .float .f64 0, .float .f64 0, .float .f64 0, .float .f64 0, .float .f64 0, .float .f64 0, .float .f64 0, .float .f64 0] } := by kernel_rfl
theorem ty123 : gS.ty 123 = some { k := .int .u64, size := 1, agg := false, zero := [.int .u64 0] } := by kernel_rfl
theorem eq24 : gS.eqs 24 = some [.int .i64, .int .i64, .float .f64, .str, .bool] := by kernel_rfl
theorem k115 (b : Nat) (fr : Fr) (st : St) : callStep gS (EvF gS) 115 [.float .f64 b] fr st = some (.ok (.val (.int .u64 b)) fr st) := rfl
theorem k120 (b v : Nat) (h : truncV b = some v) (fr : Fr) (st : St) : callStep gS (EvF gS) 120 [.float .f64 b] fr st = some (.ok (.val (.float .f64 v)) fr st) := by
  have e : gS.ext 120 = some .trunc := rfl
  unfold callStep
  simp only [e, extV, h, Option.map_some]
def fi116 : FI := { body := codeOf Try.f116, ntmps := 6, results := [.tmp 2], pers := [0, 2], locals := [], pure := true, marks := [] }
theorem fi116_eq : gS.fn 116 = some fi116 := by kernel_rfl
theorem st116 (a0 : V) : startFr fi116 [a0] = { ps := [(0, .val a0), (2, .any)], ts := [], lc := [] } := rfl
def b116 : Code := mini (codeOf Try.f116)
def c116_2 : Code := .seq (codeN b116 5) .ret
theorem e116_2 : evK gS fi116 c116_2 fr st k = opsR gS fi116 [mv 3 0 22,
 mv 4 0 22,
 bop 5 .neq 22 3 4 22 4,
 asn 2 5 4] fr st (.seq .ret k) := evK_rs 1 rfl (by kernel_rfl)
def c116_0 : Code := .seq (codeN b116 2) c116_2
theorem e116_0 : evK gS fi116 c116_0 fr st k = opsR gS fi116 [op1 2 (.assign (.const (.bool false))) 4] fr st (.seq c116_2 k) := evK_rs 0 rfl (by kernel_rfl)
theorem m116 : mini fi116.body = c116_0 := by kernel_rfl
set_option maxHeartbeats 4000000 in
theorem c116 (x : Nat)  (st : St) : EvF gS 116 [.float .f64 x] st = some (.ret (.bool (!feq x x)) none, st) := by
  refine EvF_start fi116_eq (fun x h => by cases h) m116 ?_
  rw [st116]
  have hm : fi116.marks = [] := rfl
  have hl : fi116.locals = [] := rfl
  have hr : fi116.results = [.tmp 2] := rfl
  simp (config := { contextual := true, maxSteps := 10000000, maxDischargeDepth := 6 }) [-Int.not_le, -Int.not_lt, -Nat.not_le, -Nat.not_lt, ty4, ty22, hm, hl, hr, e116_2, e116_0]
  all_goals first | done | grind | omega | (trace_state; fail)
theorem k116 (x : Nat)  (fr : Fr) (st : St) : callStep gS (EvF gS) 116 [.float .f64 x] fr st = some (.ok (retE none (.bool (!feq x x))) fr st) :=
  call_pure rfl fi116_eq rfl (fun st => c116 x  st) (by simp)
def fi117 : FI := { body := codeOf Try.f117, ntmps := 9, results := [.tmp 4], pers := [0, 1, 4], locals := [], pure := true, marks := [] }
theorem fi117_eq : gS.fn 117 = some fi117 := by kernel_rfl
theorem st117 (a0 a1 : V) : startFr fi117 [a0, a1] = { ps := [(0, .val a0), (1, .val a1), (4, .any)], ts := [], lc := [] } := rfl
def b117 : Code := mini (codeOf Try.f117)
def c117_7 : Code := .seq (codeN b117 73) .ret
def c117_13 : Code := .seq (codeN b117 313) .ret
def c117_12 : Code := .cond (.tmp 7) c117_13 .skip
def c117_10 : Code := .seq (codeN b117 89) c117_12
def c117_6 : Code := .cond (.tmp 5) c117_7 c117_10
def c117_4 : Code := .seq (codeN b117 17) c117_6
def c117_17 : Code := .seq (codeN b117 11) .ret
def c117_2 : Code := .seq (.block 0 c117_4) c117_17
def c117_0 : Code := .seq (codeN b117 2) c117_2
theorem E117 : evK gS fi117 c117_7 fr st k = opsR gS fi117 [op1 4 (.assign (.const (.int .i64 (-1)))) 3] fr st (.seq .ret k) ∧
 evK gS fi117 c117_13 fr st k = opsR gS fi117 [op1 4 (.assign (.const (.int .i64 1))) 3] fr st (.seq .ret k) ∧
 evK gS fi117 c117_12 fr st k = condK gS fi117 (fr.op (.tmp 7)).bool? c117_13 .skip fr st k ∧
 (evK gS fi117 c117_10 fr st k = opsR gS fi117 [mv 8 1 4,
 asn 7 8 4] fr st (.seq c117_12 k)) ∧
 evK gS fi117 c117_6 fr st k = condK gS fi117 (fr.op (.tmp 5)).bool? c117_7 c117_10 fr st k ∧
 (evK gS fi117 c117_4 fr st k = opsR gS fi117 [mv 6 0 4,
 asn 5 6 4] fr st (.seq c117_6 k)) ∧
 evK gS fi117 c117_17 fr st k = opsR gS fi117 [op1 4 (.assign (.const (.int .i64 0))) 3] fr st (.seq .ret k) ∧
 evK gS fi117 c117_2 fr st k = evK gS fi117 c117_4 fr st (.blk 0 (.seq c117_17 k)) ∧
 evK gS fi117 c117_0 fr st k = opsR gS fi117 [op1 4 (.assign (.const (.int .i64 0))) 3] fr st (.seq c117_2 k) := ⟨evK_rs 2 rfl (by kernel_rfl), evK_rs 4 rfl (by kernel_rfl), rfl, evK_rs 3 rfl (by kernel_rfl), rfl, evK_rs 1 rfl (by kernel_rfl), evK_rs 5 rfl (by kernel_rfl), rfl, evK_rs 0 rfl (by kernel_rfl)⟩
theorem m117 : mini fi117.body = c117_0 := by kernel_rfl
set_option maxHeartbeats 4000000 in
theorem c117 (b : Bool) (a : Bool)  (st : St) : EvF gS 117 [.bool b, .bool a] st = some (.ret (.int .i64 (sgn b a)) none, st) := by
  refine EvF_start fi117_eq (fun x h => by cases h) m117 ?_
  rw [st117]
  have hm : fi117.marks = [] := rfl
  have hl : fi117.locals = [] := rfl
  have hr : fi117.results = [.tmp 4] := rfl
  simp (config := { contextual := true, maxSteps := 10000000, maxDischargeDepth := 6 }) [-Int.not_le, -Int.not_lt, -Nat.not_le, -Nat.not_lt, ty3, ty4, hm, hl, hr, E117]
  all_goals try simp (config := { contextual := true }) [-Int.not_le, -Int.not_lt, -Nat.not_le, -Nat.not_lt, sgn]
  all_goals first | done | grind | omega | (trace_state; fail)
theorem k117 (b : Bool) (a : Bool)  (fr : Fr) (st : St) : callStep gS (EvF gS) 117 [.bool b, .bool a] fr st = some (.ok (retE none (.int .i64 (sgn b a))) fr st) :=
  call_pure rfl fi117_eq rfl (fun st => c117 b a  st) (by simp)
def fi105 : FI := { body := codeOf Try.f105, ntmps := 19, results := [.tmp 4, .tmp 5], pers := [0, 1, 4, 5], locals := [], pure := true, marks := [] }
theorem fi105_eq : gS.fn 105 = some fi105 := by kernel_rfl
theorem st105 (a0 a1 : V) : startFr fi105 [a0, a1] = { ps := [(0, .val a0), (1, .val a1), (4, .any), (5, .any)], ts := [], lc := [] } := rfl
def b105 : Code := mini (codeOf Try.f105)
def c105_6 : Code := .seq (codeN b105 37) .ret
def c105_5 : Code := .cond (.tmp 11) c105_6 .skip
def c105_3 : Code := .seq (codeN b105 9) c105_5
def c105_10 : Code := .seq (codeN b105 11) .ret
def c105_2 : Code := .seq c105_3 c105_10
def c105_0 : Code := .seq (codeN b105 2) c105_2
theorem E105 : (evK gS fi105 c105_6 fr st k = opsR gS fi105 [op1 4 (.assign (.const (.int .i64 0))) 3,
 op1 5 (.assign (.const (.bool false))) 4] fr st (.seq .ret k)) ∧
 evK gS fi105 c105_5 fr st k = condK gS fi105 (fr.op (.tmp 11)).bool? c105_6 .skip fr st k ∧
 (evK gS fi105 c105_3 fr st k = opsR gS fi105 [mv 6 0 22,
 cal 7 116 [(.tmp 6)] [22] 4,
 mv 8 7 4,
 mk (some 9) (.move (.tmp 1)) 22 (some (2, false)),
 mk (some 10) (.call { callee := (.value (.func 116)), args := #[(.tmp 9)], argTypes := #[22] }) 4 (some (2, false)),
 op1 11 (.pick (.tmp 8) (.const (.bool true)) (.tmp 10)) 4] fr st (.seq c105_5 k)) ∧
 (evK gS fi105 c105_10 fr st k = opsR gS fi105 [mv 12 0 22,
 mv 13 1 22,
 bop 14 .lss 22 12 13 22 4,
 mv 15 0 22,
 mv 16 1 22,
 bop 17 .gtr 22 15 16 22 4,
 cal 18 117 [(.tmp 14), (.tmp 17)] [4, 4] 3,
 asn 4 18 3,
 op1 5 (.assign (.const (.bool true))) 4] fr st (.seq .ret k)) ∧
 evK gS fi105 c105_2 fr st k = evK gS fi105 c105_3 fr st (.seq c105_10 k) ∧
 (evK gS fi105 c105_0 fr st k = opsR gS fi105 [op1 4 (.assign (.const (.int .i64 0))) 3,
 op1 5 (.assign (.const (.bool false))) 4] fr st (.seq c105_2 k)) := ⟨evK_rs 2 rfl (by kernel_rfl), rfl, evK_rs 1 rfl (by kernel_rfl), evK_rs 3 rfl (by kernel_rfl), rfl, evK_rs 0 rfl (by kernel_rfl)⟩
theorem m105 : mini fi105.body = c105_0 := by kernel_rfl
set_option maxHeartbeats 4000000 in
theorem c105 (a : Nat) (b : Nat)  (st : St) : EvF gS 105 [.float .f64 a, .float .f64 b] st = some (.ret (.tuple [.int .i64 (fcmp a b).1, .bool (fcmp a b).2]) none, st) := by
  refine EvF_start fi105_eq (fun x h => by cases h) m105 ?_
  rw [st105]
  have hm : fi105.marks = [] := rfl
  have hl : fi105.locals = [] := rfl
  have hr : fi105.results = [.tmp 4, .tmp 5] := rfl
  simp (config := { contextual := true, maxSteps := 10000000, maxDischargeDepth := 6 }) [-Int.not_le, -Int.not_lt, -Nat.not_le, -Nat.not_lt, ty3, ty4, ty22, hm, hl, hr, k116, k117, E105]
  all_goals try simp (config := { contextual := true }) [-Int.not_le, -Int.not_lt, -Nat.not_le, -Nat.not_lt, fcmp]
  all_goals first | done | grind | omega | (trace_state; fail)
theorem k105 (a : Nat) (b : Nat)  (fr : Fr) (st : St) : callStep gS (EvF gS) 105 [.float .f64 a, .float .f64 b] fr st = some (.ok (retE none (.tuple [.int .i64 (fcmp a b).1, .bool (fcmp a b).2])) fr st) :=
  call_pure rfl fi105_eq rfl (fun st => c105 a b  st) (by simp)
def fi108 : FI := { body := codeOf Try.f108, ntmps := 23, results := [.tmp 4, .tmp 5], pers := [0, 1, 4, 5], locals := [], pure := true, marks := [] }
theorem fi108_eq : gS.fn 108 = some fi108 := by kernel_rfl
theorem st108 (a0 a1 : V) : startFr fi108 [a0, a1] = { ps := [(0, .val a0), (1, .val a1), (4, .any), (5, .any)], ts := [], lc := [] } := rfl
def b108 : Code := mini (codeOf Try.f108)
def c108_7 : Code := .seq (codeN b108 73) .ret
def c108_13 : Code := .seq (codeN b108 313) .ret
def c108_19 : Code := .seq (codeN b108 1273) .ret
def c108_18 : Code := .cond (.tmp 19) c108_19 .skip
def c108_16 : Code := .seq (codeN b108 377) c108_18
def c108_12 : Code := .cond (.tmp 15) c108_13 c108_16
def c108_10 : Code := .seq (codeN b108 89) c108_12
def c108_6 : Code := .cond (.tmp 6) c108_7 c108_10
def c108_4 : Code := .seq (codeN b108 17) c108_6
def c108_23 : Code := .seq (codeN b108 11) .ret
def c108_2 : Code := .seq (.block 0 c108_4) c108_23
def c108_0 : Code := .seq (codeN b108 2) c108_2
theorem E108 : (evK gS fi108 c108_7 fr st k = opsR gS fi108 [op1 4 (.assign (.const (.int .i64 0))) 3,
 op1 5 (.assign (.const (.bool false))) 4] fr st (.seq .ret k)) ∧
 (evK gS fi108 c108_13 fr st k = opsR gS fi108 [op1 4 (.assign (.const (.int .i64 (-1)))) 3,
 op1 5 (.assign (.const (.bool true))) 4] fr st (.seq .ret k)) ∧
 (evK gS fi108 c108_19 fr st k = opsR gS fi108 [op1 4 (.assign (.const (.int .i64 1))) 3,
 op1 5 (.assign (.const (.bool true))) 4] fr st (.seq .ret k)) ∧
 evK gS fi108 c108_18 fr st k = condK gS fi108 (fr.op (.tmp 19)).bool? c108_19 .skip fr st k ∧
 (evK gS fi108 c108_16 fr st k = opsR gS fi108 [mv 20 0 22,
 mv 21 1 22,
 bop 22 .gtr 22 20 21 22 4,
 asn 19 22 4] fr st (.seq c108_18 k)) ∧
 evK gS fi108 c108_12 fr st k = condK gS fi108 (fr.op (.tmp 15)).bool? c108_13 c108_16 fr st k ∧
 (evK gS fi108 c108_10 fr st k = opsR gS fi108 [mv 16 0 22,
 mv 17 1 22,
 bop 18 .lss 22 16 17 22 4,
 asn 15 18 4] fr st (.seq c108_12 k)) ∧
 evK gS fi108 c108_6 fr st k = condK gS fi108 (fr.op (.tmp 6)).bool? c108_7 c108_10 fr st k ∧
 (evK gS fi108 c108_4 fr st k = opsR gS fi108 [mv 7 0 22,
 mv 8 0 22,
 bop 9 .neq 22 7 8 22 4,
 mv 10 9 4,
 mk (some 11) (.move (.tmp 1)) 22 (some (3, false)),
 mk (some 12) (.move (.tmp 1)) 22 (some (3, false)),
 mk (some 13) (.binOp .neq 22 (.tmp 11) (.tmp 12) 22) 4 (some (3, false)),
 op1 14 (.pick (.tmp 10) (.const (.bool true)) (.tmp 13)) 4,
 asn 6 14 4] fr st (.seq c108_6 k)) ∧
 (evK gS fi108 c108_23 fr st k = opsR gS fi108 [op1 4 (.assign (.const (.int .i64 0))) 3,
 op1 5 (.assign (.const (.bool true))) 4] fr st (.seq .ret k)) ∧
 evK gS fi108 c108_2 fr st k = evK gS fi108 c108_4 fr st (.blk 0 (.seq c108_23 k)) ∧
 (evK gS fi108 c108_0 fr st k = opsR gS fi108 [op1 4 (.assign (.const (.int .i64 0))) 3,
 op1 5 (.assign (.const (.bool false))) 4] fr st (.seq c108_2 k)) := ⟨evK_rs 2 rfl (by kernel_rfl), evK_rs 4 rfl (by kernel_rfl), evK_rs 6 rfl (by kernel_rfl), rfl, evK_rs 5 rfl (by kernel_rfl), rfl, evK_rs 3 rfl (by kernel_rfl), rfl, evK_rs 1 rfl (by kernel_rfl), evK_rs 7 rfl (by kernel_rfl), rfl, evK_rs 0 rfl (by kernel_rfl)⟩
theorem m108 : mini fi108.body = c108_0 := by kernel_rfl
set_option maxHeartbeats 4000000 in
theorem c108 (a : Nat) (b : Nat)  (st : St) : EvF gS 108 [.float .f64 a, .float .f64 b] st = some (.ret (.tuple [.int .i64 (fcmp a b).1, .bool (fcmp a b).2]) none, st) := by
  refine EvF_start fi108_eq (fun x h => by cases h) m108 ?_
  rw [st108]
  have hm : fi108.marks = [] := rfl
  have hl : fi108.locals = [] := rfl
  have hr : fi108.results = [.tmp 4, .tmp 5] := rfl
  simp (config := { contextual := true, maxSteps := 10000000, maxDischargeDepth := 6 }) [-Int.not_le, -Int.not_lt, -Nat.not_le, -Nat.not_lt, ty3, ty4, ty22, hm, hl, hr, E108]
  all_goals try simp (config := { contextual := true }) [-Int.not_le, -Int.not_lt, -Nat.not_le, -Nat.not_lt, fcmp, sgn]
  all_goals first | done | grind | omega | (trace_state; fail)
theorem k108 (a : Nat) (b : Nat)  (fr : Fr) (st : St) : callStep gS (EvF gS) 108 [.float .f64 a, .float .f64 b] fr st = some (.ok (retE none (.tuple [.int .i64 (fcmp a b).1, .bool (fcmp a b).2])) fr st) :=
  call_pure rfl fi108_eq rfl (fun st => c108 a b  st) (by simp)
def fi118 : FI := { body := codeOf Try.f118, ntmps := 7, results := [.tmp 2], pers := [0, 2], locals := [], pure := true, marks := [] }
theorem fi118_eq : gS.fn 118 = some fi118 := by kernel_rfl
theorem st118 (a0 : V) : startFr fi118 [a0] = { ps := [(0, .val a0), (2, .any)], ts := [], lc := [] } := rfl
def b118 : Code := mini (codeOf Try.f118)
def c118_4 : Code := .seq (codeN b118 17) .ret
def c118_8 : Code := .seq (codeN b118 11) .ret
def c118_2 : Code := .seq (.cond (.const (.bool true)) c118_4 .skip) c118_8
def c118_0 : Code := .seq (codeN b118 2) c118_2
theorem E118 : (evK gS fi118 c118_4 fr st k = opsR gS fi118 [mv 3 0 22,
 cal 4 120 [(.tmp 3)] [22] 22,
 asn 2 4 22] fr st (.seq .ret k)) ∧
 (evK gS fi118 c118_8 fr st k = opsR gS fi118 [mv 5 0 22,
 cal 6 121 [(.tmp 5)] [22] 22,
 asn 2 6 22] fr st (.seq .ret k)) ∧
 evK gS fi118 c118_2 fr st k = condK gS fi118 (fr.op (.const (.bool true))).bool? c118_4 .skip fr st (.seq c118_8 k) ∧
 evK gS fi118 c118_0 fr st k = opsR gS fi118 [op1 2 (.assign (.const (.float .f64 0))) 22] fr st (.seq c118_2 k) := ⟨evK_rs 1 rfl (by kernel_rfl), evK_rs 2 rfl (by kernel_rfl), rfl, evK_rs 0 rfl (by kernel_rfl)⟩
theorem m118 : mini fi118.body = c118_0 := by kernel_rfl
set_option maxHeartbeats 4000000 in
theorem c118 (x : Nat) (h : truncV x = some (ftr x)) (st : St) : EvF gS 118 [.float .f64 x] st = some (.ret (.float .f64 (ftr x)) none, st) := by
  refine EvF_start fi118_eq (fun x h => by cases h) m118 ?_
  rw [st118]
  have hm : fi118.marks = [] := rfl
  have hl : fi118.locals = [] := rfl
  have hr : fi118.results = [.tmp 2] := rfl
  simp (config := { contextual := true, maxSteps := 10000000, maxDischargeDepth := 6 }) [-Int.not_le, -Int.not_lt, -Nat.not_le, -Nat.not_lt, ty22, hm, hl, hr, E118, k120 x (ftr x) h]
  all_goals first | done | grind | omega | (trace_state; fail)
theorem k118 (x : Nat) (h : truncV x = some (ftr x)) (fr : Fr) (st : St) : callStep gS (EvF gS) 118 [.float .f64 x] fr st = some (.ok (.val (.float .f64 (ftr x))) fr st) :=
  call_pure rfl fi118_eq rfl (fun st => c118 x h st) (by simp)
def fi106 : FI := { body := codeOf Try.f106, ntmps := 38, results := [.tmp 4, .tmp 5], pers := [0, 1, 4, 5, 6, 7], locals := [], pure := true, marks := [] }
theorem fi106_eq : gS.fn 106 = some fi106 := by kernel_rfl
theorem st106 (a0 a1 : V) : startFr fi106 [a0, a1] = { ps := [(0, .val a0), (1, .val a1), (4, .any), (5, .any), (6, .any), (7, .any)], ts := [], lc := [] } := rfl
def b106 : Code := mini (codeOf Try.f106)
def c106_7 : Code := .seq (codeN b106 73) .ret
def c106_13 : Code := .seq (codeN b106 313) .ret
def c106_19 : Code := .seq (codeN b106 1273) .ret
def c106_18 : Code := .cond (.tmp 14) c106_19 .skip
def c106_16 : Code := .seq (codeN b106 377) c106_18
def c106_12 : Code := .cond (.tmp 11) c106_13 c106_16
def c106_10 : Code := .seq (codeN b106 89) c106_12
def c106_6 : Code := .cond (.tmp 8) c106_7 c106_10
def c106_4 : Code := .seq (codeN b106 17) c106_6
def c106_31 : Code := .seq (codeN b106 311) .ret
def c106_30 : Code := .cond (.tmp 23) c106_31 .skip
def c106_28 : Code := .seq (codeN b106 87) c106_30
def c106_26 : Code := .seq (codeN b106 39) c106_28
def c106_35 : Code := .seq (codeN b106 47) .ret
def c106_25 : Code := .seq c106_26 c106_35
def c106_23 : Code := .seq (codeN b106 11) c106_25
def c106_2 : Code := .seq (.block 0 c106_4) c106_23
def c106_0 : Code := .seq (codeN b106 2) c106_2
theorem E106 : (evK gS fi106 c106_7 fr st k = opsR gS fi106 [op1 4 (.assign (.const (.int .i64 0))) 3,
 op1 5 (.assign (.const (.bool false))) 4] fr st (.seq .ret k)) ∧
 (evK gS fi106 c106_13 fr st k = opsR gS fi106 [op1 4 (.assign (.const (.int .i64 (-1)))) 3,
 op1 5 (.assign (.const (.bool true))) 4] fr st (.seq .ret k)) ∧
 (evK gS fi106 c106_19 fr st k = opsR gS fi106 [op1 4 (.assign (.const (.int .i64 1))) 3,
 op1 5 (.assign (.const (.bool true))) 4] fr st (.seq .ret k)) ∧
 evK gS fi106 c106_18 fr st k = condK gS fi106 (fr.op (.tmp 14)).bool? c106_19 .skip fr st k ∧
 (evK gS fi106 c106_16 fr st k = opsR gS fi106 [mv 15 1 22,
 op1 16 (.binOp .lss 22 (.tmp 15) (.const (.float .f64 14114281232179134464)) 22) 4,
 asn 14 16 4] fr st (.seq c106_18 k)) ∧
 evK gS fi106 c106_12 fr st k = condK gS fi106 (fr.op (.tmp 11)).bool? c106_13 c106_16 fr st k ∧
 (evK gS fi106 c106_10 fr st k = opsR gS fi106 [mv 12 1 22,
 op1 13 (.binOp .geq 22 (.tmp 12) (.const (.float .f64 4890909195324358656)) 22) 4,
 asn 11 13 4] fr st (.seq c106_12 k)) ∧
 evK gS fi106 c106_6 fr st k = condK gS fi106 (fr.op (.tmp 8)).bool? c106_7 c106_10 fr st k ∧
 (evK gS fi106 c106_4 fr st k = opsR gS fi106 [mv 9 1 22,
 cal 10 116 [(.tmp 9)] [22] 4,
 asn 8 10 4] fr st (.seq c106_6 k)) ∧
 (evK gS fi106 c106_31 fr st k = opsR gS fi106 [mv 24 0 2,
 mv 25 7 2,
 bop 26 .lss 2 24 25 2 4,
 mv 27 0 2,
 mv 28 7 2,
 bop 29 .gtr 2 27 28 2 4,
 cal 30 117 [(.tmp 26), (.tmp 29)] [4, 4] 3,
 asn 4 30 3,
 op1 5 (.assign (.const (.bool true))) 4] fr st (.seq .ret k)) ∧
 evK gS fi106 c106_30 fr st k = condK gS fi106 (fr.op (.tmp 23)).bool? c106_31 .skip fr st k ∧
 (evK gS fi106 c106_28 fr st k = opsR gS fi106 [mv 21 7 2,
 mv 22 0 2,
 bop 23 .neq 2 21 22 2 4] fr st (.seq c106_30 k)) ∧
 (evK gS fi106 c106_26 fr st k = opsR gS fi106 [mv 19 6 22,
 op1 20 (.convert 22 2 (.tmp 19)) 2,
 asn 7 20 2] fr st (.seq c106_28 k)) ∧
 (evK gS fi106 c106_35 fr st k = opsR gS fi106 [mv 31 6 22,
 mv 32 1 22,
 bop 33 .lss 22 31 32 22 4,
 mv 34 6 22,
 mv 35 1 22,
 bop 36 .gtr 22 34 35 22 4,
 cal 37 117 [(.tmp 33), (.tmp 36)] [4, 4] 3,
 asn 4 37 3,
 op1 5 (.assign (.const (.bool true))) 4] fr st (.seq .ret k)) ∧
 evK gS fi106 c106_25 fr st k = evK gS fi106 c106_26 fr st (.seq c106_35 k) ∧
 (evK gS fi106 c106_23 fr st k = opsR gS fi106 [mv 17 1 22,
 cal 18 118 [(.tmp 17)] [22] 22,
 asn 6 18 22] fr st (.seq c106_25 k)) ∧
 evK gS fi106 c106_2 fr st k = evK gS fi106 c106_4 fr st (.blk 0 (.seq c106_23 k)) ∧
 (evK gS fi106 c106_0 fr st k = opsR gS fi106 [op1 4 (.assign (.const (.int .i64 0))) 3,
 op1 5 (.assign (.const (.bool false))) 4] fr st (.seq c106_2 k)) := ⟨evK_rs 2 rfl (by kernel_rfl), evK_rs 4 rfl (by kernel_rfl), evK_rs 6 rfl (by kernel_rfl), rfl, evK_rs 5 rfl (by kernel_rfl), rfl, evK_rs 3 rfl (by kernel_rfl), rfl, evK_rs 1 rfl (by kernel_rfl), evK_rs 10 rfl (by kernel_rfl), rfl, evK_rs 9 rfl (by kernel_rfl), evK_rs 8 rfl (by kernel_rfl), evK_rs 11 rfl (by kernel_rfl), rfl, evK_rs 7 rfl (by kernel_rfl), rfl, evK_rs 0 rfl (by kernel_rfl)⟩
theorem m106 : mini fi106.body = c106_0 := by kernel_rfl
set_option maxHeartbeats 4000000 in
theorem c106 (n : Int) (x : Nat)  (st : St) : EvF gS 106 [.int .i64 n, .float .f64 x] st = some (.ret (.tuple [.int .i64 (icmp n x).1, .bool (icmp n x).2]) none, st) := by
  refine EvF_start fi106_eq (fun x h => by cases h) m106 ?_
  rw [st106]
  have hm : fi106.marks = [] := rfl
  have hl : fi106.locals = [] := rfl
  have hr : fi106.results = [.tmp 4, .tmp 5] := rfl
  by_cases h1 : feq x x = true
  · by_cases h2 : fge x 4890909195324358656 = true
    · simp (config := { contextual := true, maxSteps := 10000000 }) [icmp, sgn, h1, h2, -Int.not_le, -Int.not_lt, -Nat.not_le, -Nat.not_lt, ty2, ty3, ty4, ty22, hm, hl, hr, k116, k117, E106]
    · by_cases h3 : flt x 14114281232179134464 = true
      · simp (config := { contextual := true, maxSteps := 10000000 }) [icmp, sgn, h1, h2, h3, -Int.not_le, -Int.not_lt, -Nat.not_le, -Nat.not_lt, ty2, ty3, ty4, ty22, hm, hl, hr, k116, k117, E106]
      · obtain ⟨e1, e2, e3, e4⟩ := conv_ok x h1 h2 h3
        have e5 : IntKind.min .i64 ≤ ftz x := e3
        have e6 : ftz x ≤ IntKind.max .i64 := e4
        by_cases h4 : ftz x = n
        · subst h4
          simp (config := { contextual := true, maxSteps := 10000000 }) [icmp, h1, h2, h3, k118 x e1, e2, e3, e4, e5, e6, -Int.not_le, -Int.not_lt, -Nat.not_le, -Nat.not_lt, ty2, ty3, ty4, ty22, hm, hl, hr, k116, k117, E106]
          skip
        · skip
          have h5 : ¬ n = ftz x := fun h => h4 h.symm
          simp (config := { contextual := true, maxSteps := 10000000 }) [icmp, h1, h2, h3, h4, h5, k118 x e1, e2, e3, e4, e5, e6, -Int.not_le, -Int.not_lt, -Nat.not_le, -Nat.not_lt, ty2, ty3, ty4, ty22, hm, hl, hr, k116, k117, E106]
          skip
  · simp (config := { contextual := true, maxSteps := 10000000 }) [icmp, sgn, h1, -Int.not_le, -Int.not_lt, -Nat.not_le, -Nat.not_lt, ty2, ty3, ty4, ty22, hm, hl, hr, k116, k117, E106]
theorem k106 (n : Int) (x : Nat)  (fr : Fr) (st : St) : callStep gS (EvF gS) 106 [.int .i64 n, .float .f64 x] fr st = some (.ok (retE none (.tuple [.int .i64 (icmp n x).1, .bool (icmp n x).2])) fr st) :=
  call_pure rfl fi106_eq rfl (fun st => c106 n x  st) (by simp)
def fi107 : FI := { body := codeOf Try.f107, ntmps := 38, results := [.tmp 4, .tmp 5], pers := [0, 1, 4, 5, 6, 7], locals := [], pure := true, marks := [] }
theorem fi107_eq : gS.fn 107 = some fi107 := by kernel_rfl
theorem st107 (a0 a1 : V) : startFr fi107 [a0, a1] = { ps := [(0, .val a0), (1, .val a1), (4, .any), (5, .any), (6, .any), (7, .any)], ts := [], lc := [] } := rfl
def b107 : Code := mini (codeOf Try.f107)
def c107_7 : Code := .seq (codeN b107 73) .ret
def c107_13 : Code := .seq (codeN b107 313) .ret
def c107_19 : Code := .seq (codeN b107 1273) .ret
def c107_18 : Code := .cond (.tmp 15) c107_19 .skip
def c107_16 : Code := .seq (codeN b107 377) c107_18
def c107_12 : Code := .cond (.tmp 12) c107_13 c107_16
def c107_10 : Code := .seq (codeN b107 89) c107_12
def c107_6 : Code := .cond (.tmp 8) c107_7 c107_10
def c107_4 : Code := .seq (codeN b107 17) c107_6
def c107_32 : Code := .seq (codeN b107 591) .ret
def c107_38 : Code := .seq (codeN b107 2511) .ret
def c107_44 : Code := .seq (codeN b107 10191) .ret
def c107_50 : Code := .seq (codeN b107 40911) .ret
def c107_49 : Code := .cond (.tmp 34) c107_50 .skip
def c107_47 : Code := .seq (codeN b107 12239) c107_49
def c107_43 : Code := .cond (.tmp 30) c107_44 c107_47
def c107_41 : Code := .seq (codeN b107 3023) c107_43
def c107_37 : Code := .cond (.tmp 26) c107_38 c107_41
def c107_35 : Code := .seq (codeN b107 719) c107_37
def c107_31 : Code := .cond (.tmp 22) c107_32 c107_35
def c107_29 : Code := .seq (codeN b107 143) c107_31
def c107_54 : Code := .seq (codeN b107 95) .ret
def c107_27 : Code := .seq (.block 1 c107_29) c107_54
def c107_25 : Code := .seq (codeN b107 23) c107_27
def c107_23 : Code := .seq (codeN b107 11) c107_25
def c107_2 : Code := .seq (.block 0 c107_4) c107_23
def c107_0 : Code := .seq (codeN b107 2) c107_2
theorem E107 : (evK gS fi107 c107_7 fr st k = opsR gS fi107 [op1 4 (.assign (.const (.int .i64 0))) 3,
 op1 5 (.assign (.const (.bool false))) 4] fr st (.seq .ret k)) ∧
 (evK gS fi107 c107_13 fr st k = opsR gS fi107 [op1 4 (.assign (.const (.int .i64 (-1)))) 3,
 op1 5 (.assign (.const (.bool true))) 4] fr st (.seq .ret k)) ∧
 (evK gS fi107 c107_19 fr st k = opsR gS fi107 [op1 4 (.assign (.const (.int .i64 1))) 3,
 op1 5 (.assign (.const (.bool true))) 4] fr st (.seq .ret k)) ∧
 evK gS fi107 c107_18 fr st k = condK gS fi107 (fr.op (.tmp 15)).bool? c107_19 .skip fr st k ∧
 (evK gS fi107 c107_16 fr st k = opsR gS fi107 [mv 16 1 22,
 op1 17 (.binOp .lss 22 (.tmp 16) (.const (.float .f64 14114281232179134464)) 22) 4,
 asn 15 17 4] fr st (.seq c107_18 k)) ∧
 evK gS fi107 c107_12 fr st k = condK gS fi107 (fr.op (.tmp 12)).bool? c107_13 c107_16 fr st k ∧
 (evK gS fi107 c107_10 fr st k = opsR gS fi107 [mv 13 1 22,
 op1 14 (.binOp .geq 22 (.tmp 13) (.const (.float .f64 4890909195324358656)) 22) 4,
 asn 12 14 4] fr st (.seq c107_12 k)) ∧
 evK gS fi107 c107_6 fr st k = condK gS fi107 (fr.op (.tmp 8)).bool? c107_7 c107_10 fr st k ∧
 (evK gS fi107 c107_4 fr st k = opsR gS fi107 [mv 9 1 22,
 mv 10 1 22,
 bop 11 .neq 22 9 10 22 4,
 asn 8 11 4] fr st (.seq c107_6 k)) ∧
 (evK gS fi107 c107_32 fr st k = opsR gS fi107 [op1 4 (.assign (.const (.int .i64 (-1)))) 3,
 op1 5 (.assign (.const (.bool true))) 4] fr st (.seq .ret k)) ∧
 (evK gS fi107 c107_38 fr st k = opsR gS fi107 [op1 4 (.assign (.const (.int .i64 1))) 3,
 op1 5 (.assign (.const (.bool true))) 4] fr st (.seq .ret k)) ∧
 (evK gS fi107 c107_44 fr st k = opsR gS fi107 [op1 4 (.assign (.const (.int .i64 (-1)))) 3,
 op1 5 (.assign (.const (.bool true))) 4] fr st (.seq .ret k)) ∧
 (evK gS fi107 c107_50 fr st k = opsR gS fi107 [op1 4 (.assign (.const (.int .i64 1))) 3,
 op1 5 (.assign (.const (.bool true))) 4] fr st (.seq .ret k)) ∧
 evK gS fi107 c107_49 fr st k = condK gS fi107 (fr.op (.tmp 34)).bool? c107_50 .skip fr st k ∧
 (evK gS fi107 c107_47 fr st k = opsR gS fi107 [mv 35 6 22,
 mv 36 1 22,
 bop 37 .gtr 22 35 36 22 4,
 asn 34 37 4] fr st (.seq c107_49 k)) ∧
 evK gS fi107 c107_43 fr st k = condK gS fi107 (fr.op (.tmp 30)).bool? c107_44 c107_47 fr st k ∧
 (evK gS fi107 c107_41 fr st k = opsR gS fi107 [mv 31 6 22,
 mv 32 1 22,
 bop 33 .lss 22 31 32 22 4,
 asn 30 33 4] fr st (.seq c107_43 k)) ∧
 evK gS fi107 c107_37 fr st k = condK gS fi107 (fr.op (.tmp 26)).bool? c107_38 c107_41 fr st k ∧
 (evK gS fi107 c107_35 fr st k = opsR gS fi107 [mv 27 0 2,
 mv 28 7 2,
 bop 29 .gtr 2 27 28 2 4,
 asn 26 29 4] fr st (.seq c107_37 k)) ∧
 evK gS fi107 c107_31 fr st k = condK gS fi107 (fr.op (.tmp 22)).bool? c107_32 c107_35 fr st k ∧
 (evK gS fi107 c107_29 fr st k = opsR gS fi107 [mv 23 0 2,
 mv 24 7 2,
 bop 25 .lss 2 23 24 2 4,
 asn 22 25 4] fr st (.seq c107_31 k)) ∧
 (evK gS fi107 c107_54 fr st k = opsR gS fi107 [op1 4 (.assign (.const (.int .i64 0))) 3,
 op1 5 (.assign (.const (.bool true))) 4] fr st (.seq .ret k)) ∧
 evK gS fi107 c107_27 fr st k = evK gS fi107 c107_29 fr st (.blk 1 (.seq c107_54 k)) ∧
 (evK gS fi107 c107_25 fr st k = opsR gS fi107 [mv 20 6 22,
 op1 21 (.convert 22 2 (.tmp 20)) 2,
 asn 7 21 2] fr st (.seq c107_27 k)) ∧
 (evK gS fi107 c107_23 fr st k = opsR gS fi107 [mv 18 1 22,
 cal 19 118 [(.tmp 18)] [22] 22,
 asn 6 19 22] fr st (.seq c107_25 k)) ∧
 evK gS fi107 c107_2 fr st k = evK gS fi107 c107_4 fr st (.blk 0 (.seq c107_23 k)) ∧
 (evK gS fi107 c107_0 fr st k = opsR gS fi107 [op1 4 (.assign (.const (.int .i64 0))) 3,
 op1 5 (.assign (.const (.bool false))) 4] fr st (.seq c107_2 k)) := ⟨evK_rs 2 rfl (by kernel_rfl), evK_rs 4 rfl (by kernel_rfl), evK_rs 6 rfl (by kernel_rfl), rfl, evK_rs 5 rfl (by kernel_rfl), rfl, evK_rs 3 rfl (by kernel_rfl), rfl, evK_rs 1 rfl (by kernel_rfl), evK_rs 10 rfl (by kernel_rfl), evK_rs 12 rfl (by kernel_rfl), evK_rs 14 rfl (by kernel_rfl), evK_rs 16 rfl (by kernel_rfl), rfl, evK_rs 15 rfl (by kernel_rfl), rfl, evK_rs 13 rfl (by kernel_rfl), rfl, evK_rs 11 rfl (by kernel_rfl), rfl, evK_rs 9 rfl (by kernel_rfl), evK_rs 17 rfl (by kernel_rfl), rfl, evK_rs 8 rfl (by kernel_rfl), evK_rs 7 rfl (by kernel_rfl), rfl, evK_rs 0 rfl (by kernel_rfl)⟩
theorem m107 : mini fi107.body = c107_0 := by kernel_rfl
set_option maxHeartbeats 4000000 in
theorem c107 (n : Int) (x : Nat)  (st : St) : EvF gS 107 [.int .i64 n, .float .f64 x] st = some (.ret (.tuple [.int .i64 (icmp n x).1, .bool (icmp n x).2]) none, st) := by
  refine EvF_start fi107_eq (fun x h => by cases h) m107 ?_
  rw [st107]
  have hm : fi107.marks = [] := rfl
  have hl : fi107.locals = [] := rfl
  have hr : fi107.results = [.tmp 4, .tmp 5] := rfl
  by_cases h1 : feq x x = true
  · by_cases h2 : fge x 4890909195324358656 = true
    · simp (config := { contextual := true, maxSteps := 10000000 }) [icmp, sgn, h1, h2, -Int.not_le, -Int.not_lt, -Nat.not_le, -Nat.not_lt, ty2, ty3, ty4, ty22, hm, hl, hr, E107]
    · by_cases h3 : flt x 14114281232179134464 = true
      · simp (config := { contextual := true, maxSteps := 10000000 }) [icmp, sgn, h1, h2, h3, -Int.not_le, -Int.not_lt, -Nat.not_le, -Nat.not_lt, ty2, ty3, ty4, ty22, hm, hl, hr, E107]
      · obtain ⟨e1, e2, e3, e4⟩ := conv_ok x h1 h2 h3
        have e5 : IntKind.min .i64 ≤ ftz x := e3
        have e6 : ftz x ≤ IntKind.max .i64 := e4
        by_cases h4 : ftz x = n
        · subst h4
          simp (config := { contextual := true, maxSteps := 10000000 }) [icmp, h1, h2, h3, k118 x e1, e2, e3, e4, e5, e6, -Int.not_le, -Int.not_lt, -Nat.not_le, -Nat.not_lt, ty2, ty3, ty4, ty22, hm, hl, hr, E107]
          simp (config := { contextual := true }) [sgn]
        · skip
          have h5 : ¬ n = ftz x := fun h => h4 h.symm
          rcases Int.lt_or_gt_of_ne h5 with h6 | h6
          · have h7 : ¬ ftz x < n := by omega
            simp (config := { contextual := true, maxSteps := 10000000 }) [icmp, h1, h2, h3, h4, h5, h6, h7, sgn, k118 x e1, e2, e3, e4, e5, e6, -Int.not_le, -Int.not_lt, -Nat.not_le, -Nat.not_lt, ty2, ty3, ty4, ty22, hm, hl, hr, E107]
          have h7 : ¬ n < ftz x := by omega
          simp (config := { contextual := true, maxSteps := 10000000 }) [icmp, h1, h2, h3, h4, h5, h6, h7, sgn, k118 x e1, e2, e3, e4, e5, e6, -Int.not_le, -Int.not_lt, -Nat.not_le, -Nat.not_lt, ty2, ty3, ty4, ty22, hm, hl, hr, E107]
  · simp (config := { contextual := true, maxSteps := 10000000 }) [icmp, sgn, h1, -Int.not_le, -Int.not_lt, -Nat.not_le, -Nat.not_lt, ty2, ty3, ty4, ty22, hm, hl, hr, E107]
theorem k107 (n : Int) (x : Nat)  (fr : Fr) (st : St) : callStep gS (EvF gS) 107 [.int .i64 n, .float .f64 x] fr st = some (.ok (retE none (.tuple [.int .i64 (icmp n x).1, .bool (icmp n x).2])) fr st) :=
  call_pure rfl fi107_eq rfl (fun st => c107 n x  st) (by simp)
def fi119 : FI := { body := codeOf Try.f119, ntmps := 9, results := [.tmp 2], pers := [0, 2], locals := [], pure := true, marks := [] }
theorem fi119_eq : gS.fn 119 = some fi119 := by kernel_rfl
theorem st119 (a0 : V) : startFr fi119 [a0] = { ps := [(0, .val a0), (2, .any)], ts := [], lc := [] } := rfl
def b119 : Code := mini (codeOf Try.f119)
def c119_6 : Code := .seq (codeN b119 37) .ret
def c119_5 : Code := .cond (.tmp 4) c119_6 .skip
def c119_3 : Code := .seq (codeN b119 9) c119_5
def c119_14 : Code := .seq (codeN b119 75) .ret
def c119_13 : Code := .cond (.tmp 6) c119_14 .skip
def c119_11 : Code := .seq (codeN b119 19) c119_13
def c119_18 : Code := .seq (codeN b119 23) .ret
def c119_10 : Code := .seq c119_11 c119_18
def c119_2 : Code := .seq c119_3 c119_10
def c119_0 : Code := .seq (codeN b119 2) c119_2
theorem E119 : evK gS fi119 c119_6 fr st k = opsR gS fi119 [op1 2 (.assign (.const (.int .u64 9221120237041090560))) 123] fr st (.seq .ret k) ∧
 evK gS fi119 c119_5 fr st k = condK gS fi119 (fr.op (.tmp 4)).bool? c119_6 .skip fr st k ∧
 (evK gS fi119 c119_3 fr st k = opsR gS fi119 [mv 3 0 22,
 cal 4 116 [(.tmp 3)] [22] 4] fr st (.seq c119_5 k)) ∧
 evK gS fi119 c119_14 fr st k = opsR gS fi119 [op1 2 (.assign (.const (.int .u64 0))) 123] fr st (.seq .ret k) ∧
 evK gS fi119 c119_13 fr st k = condK gS fi119 (fr.op (.tmp 6)).bool? c119_14 .skip fr st k ∧
 (evK gS fi119 c119_11 fr st k = opsR gS fi119 [mv 5 0 22,
 op1 6 (.binOp .eql 22 (.tmp 5) (.const (.float .f64 0)) 22) 4] fr st (.seq c119_13 k)) ∧
 (evK gS fi119 c119_18 fr st k = opsR gS fi119 [mv 7 0 22,
 cal 8 115 [(.tmp 7)] [22] 123,
 asn 2 8 123] fr st (.seq .ret k)) ∧
 evK gS fi119 c119_10 fr st k = evK gS fi119 c119_11 fr st (.seq c119_18 k) ∧
 evK gS fi119 c119_2 fr st k = evK gS fi119 c119_3 fr st (.seq c119_10 k) ∧
 evK gS fi119 c119_0 fr st k = opsR gS fi119 [op1 2 (.assign (.const (.int .u64 0))) 123] fr st (.seq c119_2 k) := ⟨evK_rs 2 rfl (by kernel_rfl), rfl, evK_rs 1 rfl (by kernel_rfl), evK_rs 4 rfl (by kernel_rfl), rfl, evK_rs 3 rfl (by kernel_rfl), evK_rs 5 rfl (by kernel_rfl), rfl, rfl, evK_rs 0 rfl (by kernel_rfl)⟩
theorem m119 : mini fi119.body = c119_0 := by kernel_rfl
set_option maxHeartbeats 4000000 in
theorem c119 (x : Nat)  (st : St) : EvF gS 119 [.float .f64 x] st = some (.ret (.int .u64 (fbits x)) none, st) := by
  refine EvF_start fi119_eq (fun x h => by cases h) m119 ?_
  rw [st119]
  have hm : fi119.marks = [] := rfl
  have hl : fi119.locals = [] := rfl
  have hr : fi119.results = [.tmp 2] := rfl
  simp (config := { contextual := true, maxSteps := 10000000, maxDischargeDepth := 6 }) [-Int.not_le, -Int.not_lt, -Nat.not_le, -Nat.not_lt, ty4, ty22, ty123, hm, hl, hr, k115, k116, E119]
  all_goals try simp (config := { contextual := true }) [-Int.not_le, -Int.not_lt, -Nat.not_le, -Nat.not_lt, fbits]
  all_goals first | done | grind | omega | (trace_state; fail)
theorem k119 (x : Nat)  (fr : Fr) (st : St) : callStep gS (EvF gS) 119 [.float .f64 x] fr st = some (.ok (retE none (.int .u64 (fbits x))) fr st) :=
  call_pure rfl fi119_eq rfl (fun st => c119 x  st) (by simp)
def fi110 : FI := { body := codeOf Try.f110, ntmps := 10, results := [.tmp 2], pers := [0, 2], locals := [], pure := true, marks := [] }
theorem fi110_eq : gS.fn 110 = some fi110 := by kernel_rfl
theorem st110 (a0 : V) : startFr fi110 [a0] = { ps := [(0, .val a0), (2, .any)], ts := [], lc := [] } := rfl
def b110 : Code := mini (codeOf Try.f110)
def c110_6 : Code := .seq (codeN b110 37) .ret
def c110_5 : Code := .cond (.tmp 5) c110_6 .skip
def c110_3 : Code := .seq (codeN b110 9) c110_5
def c110_14 : Code := .seq (codeN b110 75) .ret
def c110_13 : Code := .cond (.tmp 7) c110_14 .skip
def c110_11 : Code := .seq (codeN b110 19) c110_13
def c110_18 : Code := .seq (codeN b110 23) .ret
def c110_10 : Code := .seq c110_11 c110_18
def c110_2 : Code := .seq c110_3 c110_10
def c110_0 : Code := .seq (codeN b110 2) c110_2
theorem E110 : evK gS fi110 c110_6 fr st k = opsR gS fi110 [op1 2 (.assign (.const (.int .u64 9221120237041090560))) 123] fr st (.seq .ret k) ∧
 evK gS fi110 c110_5 fr st k = condK gS fi110 (fr.op (.tmp 5)).bool? c110_6 .skip fr st k ∧
 (evK gS fi110 c110_3 fr st k = opsR gS fi110 [mv 3 0 22,
 mv 4 0 22,
 bop 5 .neq 22 3 4 22 4] fr st (.seq c110_5 k)) ∧
 evK gS fi110 c110_14 fr st k = opsR gS fi110 [op1 2 (.assign (.const (.int .u64 0))) 123] fr st (.seq .ret k) ∧
 evK gS fi110 c110_13 fr st k = condK gS fi110 (fr.op (.tmp 7)).bool? c110_14 .skip fr st k ∧
 (evK gS fi110 c110_11 fr st k = opsR gS fi110 [mv 6 0 22,
 op1 7 (.binOp .eql 22 (.tmp 6) (.const (.float .f64 0)) 22) 4] fr st (.seq c110_13 k)) ∧
 (evK gS fi110 c110_18 fr st k = opsR gS fi110 [mv 8 0 22,
 cal 9 115 [(.tmp 8)] [22] 123,
 asn 2 9 123] fr st (.seq .ret k)) ∧
 evK gS fi110 c110_10 fr st k = evK gS fi110 c110_11 fr st (.seq c110_18 k) ∧
 evK gS fi110 c110_2 fr st k = evK gS fi110 c110_3 fr st (.seq c110_10 k) ∧
 evK gS fi110 c110_0 fr st k = opsR gS fi110 [op1 2 (.assign (.const (.int .u64 0))) 123] fr st (.seq c110_2 k) := ⟨evK_rs 2 rfl (by kernel_rfl), rfl, evK_rs 1 rfl (by kernel_rfl), evK_rs 4 rfl (by kernel_rfl), rfl, evK_rs 3 rfl (by kernel_rfl), evK_rs 5 rfl (by kernel_rfl), rfl, rfl, evK_rs 0 rfl (by kernel_rfl)⟩
theorem m110 : mini fi110.body = c110_0 := by kernel_rfl
set_option maxHeartbeats 4000000 in
theorem c110 (x : Nat)  (st : St) : EvF gS 110 [.float .f64 x] st = some (.ret (.int .u64 (fbits x)) none, st) := by
  refine EvF_start fi110_eq (fun x h => by cases h) m110 ?_
  rw [st110]
  have hm : fi110.marks = [] := rfl
  have hl : fi110.locals = [] := rfl
  have hr : fi110.results = [.tmp 2] := rfl
  simp (config := { contextual := true, maxSteps := 10000000, maxDischargeDepth := 6 }) [-Int.not_le, -Int.not_lt, -Nat.not_le, -Nat.not_lt, ty4, ty22, ty123, hm, hl, hr, k115, E110]
  all_goals try simp (config := { contextual := true }) [-Int.not_le, -Int.not_lt, -Nat.not_le, -Nat.not_lt, fbits]
  all_goals first | done | grind | omega | (trace_state; fail)
theorem k110 (x : Nat)  (fr : Fr) (st : St) : callStep gS (EvF gS) 110 [.float .f64 x] fr st = some (.ok (retE none (.int .u64 (fbits x))) fr st) :=
  call_pure rfl fi110_eq rfl (fun st => c110 x  st) (by simp)
theorem x110 : gS.ext 110 = none := rfl
theorem p110 : fi110.pure = true := rfl
def fi109 : FI := { body := codeOf Try.f109, ntmps := 10, results := [.tmp 4], pers := [0, 1, 4], locals := [], pure := true, marks := [] }
theorem fi109_eq : gS.fn 109 = some fi109 := by kernel_rfl
theorem st109 (a0 a1 : V) : startFr fi109 [a0, a1] = { ps := [(0, .val a0), (1, .val a1), (4, .any)], ts := [], lc := [] } := rfl
def b109 : Code := mini (codeOf Try.f109)
def c109_2 : Code := .seq (codeN b109 5) .ret
theorem e109_2 : evK gS fi109 c109_2 fr st k = opsR gS fi109 [mv 5 0 22,
 cal 6 119 [(.tmp 5)] [22] 123,
 mv 7 1 22,
 cal 8 119 [(.tmp 7)] [22] 123,
 bop 9 .eql 123 6 8 123 4,
 asn 4 9 4] fr st (.seq .ret k) := evK_rs 1 rfl (by kernel_rfl)
def c109_0 : Code := .seq (codeN b109 2) c109_2
theorem e109_0 : evK gS fi109 c109_0 fr st k = opsR gS fi109 [op1 4 (.assign (.const (.bool false))) 4] fr st (.seq c109_2 k) := evK_rs 0 rfl (by kernel_rfl)
theorem m109 : mini fi109.body = c109_0 := by kernel_rfl
set_option maxHeartbeats 4000000 in
theorem c109 (a : Nat) (b : Nat)  (st : St) : EvF gS 109 [.float .f64 a, .float .f64 b] st = some (.ret (.bool (fbits a = fbits b)) none, st) := by
  refine EvF_start fi109_eq (fun x h => by cases h) m109 ?_
  rw [st109]
  have hm : fi109.marks = [] := rfl
  have hl : fi109.locals = [] := rfl
  have hr : fi109.results = [.tmp 4] := rfl
  simp (config := { contextual := true, maxSteps := 10000000, maxDischargeDepth := 6 }) [-Int.not_le, -Int.not_lt, -Nat.not_le, -Nat.not_lt, ty4, ty22, ty123, hm, hl, hr, k119, e109_2, e109_0]
  all_goals first | done | grind | omega | (trace_state; fail)
theorem k109 (a : Nat) (b : Nat)  (fr : Fr) (st : St) : callStep gS (EvF gS) 109 [.float .f64 a, .float .f64 b] fr st = some (.ok (retE none (.bool (fbits a = fbits b))) fr st) :=
  call_pure rfl fi109_eq rfl (fun st => c109 a b  st) (by simp)
def fi104 : FI := { body := codeOf Try.f104, ntmps := 7, results := [.tmp 4], pers := [0, 1, 4], locals := [], pure := true, marks := [] }
theorem fi104_eq : gS.fn 104 = some fi104 := by kernel_rfl
theorem st104 (a0 a1 : V) : startFr fi104 [a0, a1] = { ps := [(0, .val a0), (1, .val a1), (4, .any)], ts := [], lc := [] } := rfl
def b104 : Code := mini (codeOf Try.f104)
def c104_6 : Code := .seq (codeN b104 37) .ret
def c104_5 : Code := .cond (.tmp 5) c104_6 .skip
def c104_3 : Code := .seq (codeN b104 9) c104_5
def c104_14 : Code := .seq (codeN b104 75) .ret
def c104_13 : Code := .cond (.tmp 6) c104_14 .skip
def c104_11 : Code := .seq (codeN b104 19) c104_13
def c104_18 : Code := .seq (codeN b104 23) .ret
def c104_10 : Code := .seq c104_11 c104_18
def c104_2 : Code := .seq c104_3 c104_10
def c104_0 : Code := .seq (codeN b104 2) c104_2
theorem E104 : evK gS fi104 c104_6 fr st k = opsR gS fi104 [op1 4 (.assign (.const (.int .i64 (-1)))) 3] fr st (.seq .ret k) ∧
 evK gS fi104 c104_5 fr st k = condK gS fi104 (fr.op (.tmp 5)).bool? c104_6 .skip fr st k ∧
 evK gS fi104 c104_3 fr st k = opsR gS fi104 [mv 5 0 4] fr st (.seq c104_5 k) ∧
 evK gS fi104 c104_14 fr st k = opsR gS fi104 [op1 4 (.assign (.const (.int .i64 1))) 3] fr st (.seq .ret k) ∧
 evK gS fi104 c104_13 fr st k = condK gS fi104 (fr.op (.tmp 6)).bool? c104_14 .skip fr st k ∧
 evK gS fi104 c104_11 fr st k = opsR gS fi104 [mv 6 1 4] fr st (.seq c104_13 k) ∧
 evK gS fi104 c104_18 fr st k = opsR gS fi104 [op1 4 (.assign (.const (.int .i64 0))) 3] fr st (.seq .ret k) ∧
 evK gS fi104 c104_10 fr st k = evK gS fi104 c104_11 fr st (.seq c104_18 k) ∧
 evK gS fi104 c104_2 fr st k = evK gS fi104 c104_3 fr st (.seq c104_10 k) ∧
 evK gS fi104 c104_0 fr st k = opsR gS fi104 [op1 4 (.assign (.const (.int .i64 0))) 3] fr st (.seq c104_2 k) := ⟨evK_rs 2 rfl (by kernel_rfl), rfl, evK_rs 1 rfl (by kernel_rfl), evK_rs 4 rfl (by kernel_rfl), rfl, evK_rs 3 rfl (by kernel_rfl), evK_rs 5 rfl (by kernel_rfl), rfl, rfl, evK_rs 0 rfl (by kernel_rfl)⟩
theorem m104 : mini fi104.body = c104_0 := by kernel_rfl
set_option maxHeartbeats 4000000 in
theorem c104 (b : Bool) (a : Bool)  (st : St) : EvF gS 104 [.bool b, .bool a] st = some (.ret (.int .i64 (sgn b a)) none, st) := by
  refine EvF_start fi104_eq (fun x h => by cases h) m104 ?_
  rw [st104]
  have hm : fi104.marks = [] := rfl
  have hl : fi104.locals = [] := rfl
  have hr : fi104.results = [.tmp 4] := rfl
  simp (config := { contextual := true, maxSteps := 10000000, maxDischargeDepth := 6 }) [-Int.not_le, -Int.not_lt, -Nat.not_le, -Nat.not_lt, ty3, ty4, hm, hl, hr, E104]
  all_goals try simp (config := { contextual := true }) [-Int.not_le, -Int.not_lt, -Nat.not_le, -Nat.not_lt, sgn]
  all_goals first | done | grind | omega | (trace_state; fail)
theorem k104 (b : Bool) (a : Bool)  (fr : Fr) (st : St) : callStep gS (EvF gS) 104 [.bool b, .bool a] fr st = some (.ok (retE none (.int .i64 (sgn b a))) fr st) :=
  call_pure rfl fi104_eq rfl (fun st => c104 b a  st) (by simp)
end
end Go.Proofs.Ytclpbfkbpcjejaa
namespace Go.Proofs.Ytclpbfkbpcjejaa
open Go Go.Ab
set_option linter.unusedVariables false
set_option linter.unusedSimpArgs false
set_option linter.unnecessarySimpa false
set_option maxRecDepth 20000
noncomputable section
variable (fr : Fr) (st : St) (k : Kt)
def fi75 : FI := { body := codeOf Try.f75, ntmps := 124, results := [.tmp 4, .tmp 5], pers := [0, 1, 2, 3, 4, 5, 6, 7], locals := [2, 3], pure := true, marks := [] }
theorem fi75_eq : gS.fn 75 = some fi75 := by kernel_rfl
theorem st75 (a0 a1 : V) : startFr fi75 [a0, a1] = { ps := [(0, .val a0), (1, .val a1), (2, .any), (3, .any), (4, .any), (5, .any), (6, .any), (7, .any)], ts := [], lc := [] } := rfl
def b75 : Code := mini (codeOf Try.f75)
def c75_7 : Code := .seq (codeN b75 73) .ret
def c75_13 : Code := .seq (codeN b75 313) .ret
def c75_19 : Code := .seq (codeN b75 1273) .ret
def c75_27 : Code := .seq (codeN b75 11257) .ret
def c75_25 : Code := .seq (codeN b75 5113) c75_27
def c75_33 : Code := .seq (codeN b75 20473) .ret
def c75_39 : Code := .seq (codeN b75 81913) .ret
def c75_38 : Code := .cond (.tmp 100) c75_39 .skip
def c75_36 : Code := .seq (codeN b75 24569) c75_38
def c75_32 : Code := .cond (.tmp 80) c75_33 c75_36
def c75_30 : Code := .seq (codeN b75 6137) c75_32
def c75_24 : Code := .cond (.tmp 60) c75_25 c75_30
def c75_22 : Code := .seq (codeN b75 1529) c75_24
def c75_18 : Code := .cond (.tmp 44) c75_19 c75_22
def c75_16 : Code := .seq (codeN b75 377) c75_18
def c75_12 : Code := .cond (.tmp 28) c75_13 c75_16
def c75_10 : Code := .seq (codeN b75 89) c75_12
def c75_6 : Code := .cond (.tmp 8) c75_7 c75_10
def c75_4 : Code := .seq (codeN b75 17) c75_6
def c75_43 : Code := .seq (codeN b75 11) .ret
def c75_2 : Code := .seq (.block 0 c75_4) c75_43
def c75_0 : Code := .seq (codeN b75 2) c75_2
theorem E75 : (evK gS fi75 c75_7 fr st k = opsR gS fi75 [op1 17 (.fieldAddr 24 (.tmp 2) 1) 0,
 ld 18 2 17 2,
 op1 19 (.fieldAddr 24 (.tmp 3) 1) 0,
 ld 20 2 19 2,
 bop 21 .lss 2 18 20 2 4,
 op1 22 (.fieldAddr 24 (.tmp 2) 1) 0,
 ld 23 2 22 2,
 op1 24 (.fieldAddr 24 (.tmp 3) 1) 0,
 ld 25 2 24 2,
 bop 26 .gtr 2 23 25 2 4,
 cal 27 104 [(.tmp 21), (.tmp 26)] [4, 4] 3,
 asn 4 27 3,
 op1 5 (.assign (.const (.bool true))) 4] fr st (.seq .ret k)) ∧
 (evK gS fi75 c75_13 fr st k = opsR gS fi75 [op1 37 (.fieldAddr 24 (.tmp 2) 2) 0,
 ld 38 22 37 22,
 op1 39 (.fieldAddr 24 (.tmp 3) 2) 0,
 ld 40 22 39 22,
 cal 41 105 [(.tmp 38), (.tmp 40)] [22, 22] 94,
 op1 42 (.extract (.tmp 41) 0) 3,
 op1 43 (.extract (.tmp 41) 1) 4,
 asn 4 42 3,
 asn 5 43 4] fr st (.seq .ret k)) ∧
 (evK gS fi75 c75_19 fr st k = opsR gS fi75 [op1 53 (.fieldAddr 24 (.tmp 2) 1) 0,
 ld 54 2 53 2,
 op1 55 (.fieldAddr 24 (.tmp 3) 2) 0,
 ld 56 22 55 22,
 cal 57 106 [(.tmp 54), (.tmp 56)] [2, 22] 94,
 op1 58 (.extract (.tmp 57) 0) 3,
 op1 59 (.extract (.tmp 57) 1) 4,
 asn 4 58 3,
 asn 5 59 4] fr st (.seq .ret k)) ∧
 (evK gS fi75 c75_27 fr st k = opsR gS fi75 [mv 77 6 3,
 op1 78 (.unOp .neg 3 (.tmp 77)) 3,
 mv 79 7 4,
 asn 4 78 3,
 asn 5 79 4] fr st (.seq .ret k)) ∧
 (evK gS fi75 c75_25 fr st k = opsR gS fi75 [op1 70 (.fieldAddr 24 (.tmp 3) 1) 0,
 ld 71 2 70 2,
 op1 72 (.fieldAddr 24 (.tmp 2) 2) 0,
 ld 73 22 72 22,
 cal 74 106 [(.tmp 71), (.tmp 73)] [2, 22] 94,
 mv 69 74 94,
 op1 75 (.extract (.tmp 69) 0) 3,
 op1 76 (.extract (.tmp 69) 1) 4,
 asn 6 75 3,
 asn 7 76 4] fr st (.seq c75_27 k)) ∧
 (evK gS fi75 c75_33 fr st k = opsR gS fi75 [op1 89 (.fieldAddr 24 (.tmp 2) 3) 0,
 ld 90 9 89 9,
 op1 91 (.fieldAddr 24 (.tmp 3) 3) 0,
 ld 92 9 91 9,
 bop 93 .lss 9 90 92 9 4,
 op1 94 (.fieldAddr 24 (.tmp 2) 3) 0,
 ld 95 9 94 9,
 op1 96 (.fieldAddr 24 (.tmp 3) 3) 0,
 ld 97 9 96 9,
 bop 98 .gtr 9 95 97 9 4,
 cal 99 104 [(.tmp 93), (.tmp 98)] [4, 4] 3,
 asn 4 99 3,
 op1 5 (.assign (.const (.bool true))) 4] fr st (.seq .ret k)) ∧
 (evK gS fi75 c75_39 fr st k = opsR gS fi75 [op1 109 (.fieldAddr 24 (.tmp 2) 4) 0,
 ld 110 4 109 4,
 op1 111 (.unOp .not 4 (.tmp 110)) 4,
 mv 112 111 4,
 mk (some 113) (.fieldAddr 24 (.tmp 3) 4) 0 (some (3, true)),
 mk (some 114) (.load 4 (.tmp 113)) 4 (some (3, true)),
 op1 115 (.pick (.tmp 112) (.tmp 114) (.const (.bool false))) 4,
 op1 116 (.fieldAddr 24 (.tmp 2) 4) 0,
 ld 117 4 116 4,
 mv 118 117 4,
 mk (some 119) (.fieldAddr 24 (.tmp 3) 4) 0 (some (9, true)),
 mk (some 120) (.load 4 (.tmp 119)) 4 (some (9, true)),
 mk (some 121) (.unOp .not 4 (.tmp 120)) 4 (some (9, true)),
 op1 122 (.pick (.tmp 118) (.tmp 121) (.const (.bool false))) 4,
 cal 123 104 [(.tmp 115), (.tmp 122)] [4, 4] 3,
 asn 4 123 3,
 op1 5 (.assign (.const (.bool true))) 4] fr st (.seq .ret k)) ∧
 evK gS fi75 c75_38 fr st k = condK gS fi75 (fr.op (.tmp 100)).bool? c75_39 .skip fr st k ∧
 (evK gS fi75 c75_36 fr st k = opsR gS fi75 [op1 101 (.fieldAddr 24 (.tmp 2) 0) 0,
 ld 102 3 101 3,
 op1 103 (.binOp .eql 3 (.tmp 102) (.const (.int .i64 4)) 3) 4,
 mv 104 103 4,
 mk (some 105) (.fieldAddr 24 (.tmp 3) 0) 0 (some (3, true)),
 mk (some 106) (.load 3 (.tmp 105)) 3 (some (3, true)),
 mk (some 107) (.binOp .eql 3 (.tmp 106) (.const (.int .i64 4)) 3) 4 (some (3, true)),
 op1 108 (.pick (.tmp 104) (.tmp 107) (.const (.bool false))) 4,
 asn 100 108 4] fr st (.seq c75_38 k)) ∧
 evK gS fi75 c75_32 fr st k = condK gS fi75 (fr.op (.tmp 80)).bool? c75_33 c75_36 fr st k ∧
 (evK gS fi75 c75_30 fr st k = opsR gS fi75 [op1 81 (.fieldAddr 24 (.tmp 2) 0) 0,
 ld 82 3 81 3,
 op1 83 (.binOp .eql 3 (.tmp 82) (.const (.int .i64 3)) 3) 4,
 mv 84 83 4,
 mk (some 85) (.fieldAddr 24 (.tmp 3) 0) 0 (some (3, true)),
 mk (some 86) (.load 3 (.tmp 85)) 3 (some (3, true)),
 mk (some 87) (.binOp .eql 3 (.tmp 86) (.const (.int .i64 3)) 3) 4 (some (3, true)),
 op1 88 (.pick (.tmp 84) (.tmp 87) (.const (.bool false))) 4,
 asn 80 88 4] fr st (.seq c75_32 k)) ∧
 evK gS fi75 c75_24 fr st k = condK gS fi75 (fr.op (.tmp 60)).bool? c75_25 c75_30 fr st k ∧
 (evK gS fi75 c75_22 fr st k = opsR gS fi75 [op1 61 (.fieldAddr 24 (.tmp 2) 0) 0,
 ld 62 3 61 3,
 op1 63 (.binOp .eql 3 (.tmp 62) (.const (.int .i64 2)) 3) 4,
 mv 64 63 4,
 mk (some 65) (.fieldAddr 24 (.tmp 3) 0) 0 (some (3, true)),
 mk (some 66) (.load 3 (.tmp 65)) 3 (some (3, true)),
 mk (some 67) (.binOp .eql 3 (.tmp 66) (.const (.int .i64 1)) 3) 4 (some (3, true)),
 op1 68 (.pick (.tmp 64) (.tmp 67) (.const (.bool false))) 4,
 asn 60 68 4] fr st (.seq c75_24 k)) ∧
 evK gS fi75 c75_18 fr st k = condK gS fi75 (fr.op (.tmp 44)).bool? c75_19 c75_22 fr st k ∧
 (evK gS fi75 c75_16 fr st k = opsR gS fi75 [op1 45 (.fieldAddr 24 (.tmp 2) 0) 0,
 ld 46 3 45 3,
 op1 47 (.binOp .eql 3 (.tmp 46) (.const (.int .i64 1)) 3) 4,
 mv 48 47 4,
 mk (some 49) (.fieldAddr 24 (.tmp 3) 0) 0 (some (3, true)),
 mk (some 50) (.load 3 (.tmp 49)) 3 (some (3, true)),
 mk (some 51) (.binOp .eql 3 (.tmp 50) (.const (.int .i64 2)) 3) 4 (some (3, true)),
 op1 52 (.pick (.tmp 48) (.tmp 51) (.const (.bool false))) 4,
 asn 44 52 4] fr st (.seq c75_18 k)) ∧
 evK gS fi75 c75_12 fr st k = condK gS fi75 (fr.op (.tmp 28)).bool? c75_13 c75_16 fr st k ∧
 (evK gS fi75 c75_10 fr st k = opsR gS fi75 [op1 29 (.fieldAddr 24 (.tmp 2) 0) 0,
 ld 30 3 29 3,
 op1 31 (.binOp .eql 3 (.tmp 30) (.const (.int .i64 2)) 3) 4,
 mv 32 31 4,
 mk (some 33) (.fieldAddr 24 (.tmp 3) 0) 0 (some (3, true)),
 mk (some 34) (.load 3 (.tmp 33)) 3 (some (3, true)),
 mk (some 35) (.binOp .eql 3 (.tmp 34) (.const (.int .i64 2)) 3) 4 (some (3, true)),
 op1 36 (.pick (.tmp 32) (.tmp 35) (.const (.bool false))) 4,
 asn 28 36 4] fr st (.seq c75_12 k)) ∧
 evK gS fi75 c75_6 fr st k = condK gS fi75 (fr.op (.tmp 8)).bool? c75_7 c75_10 fr st k ∧
 (evK gS fi75 c75_4 fr st k = opsR gS fi75 [op1 9 (.fieldAddr 24 (.tmp 2) 0) 0,
 ld 10 3 9 3,
 op1 11 (.binOp .eql 3 (.tmp 10) (.const (.int .i64 1)) 3) 4,
 mv 12 11 4,
 mk (some 13) (.fieldAddr 24 (.tmp 3) 0) 0 (some (3, true)),
 mk (some 14) (.load 3 (.tmp 13)) 3 (some (3, true)),
 mk (some 15) (.binOp .eql 3 (.tmp 14) (.const (.int .i64 1)) 3) 4 (some (3, true)),
 op1 16 (.pick (.tmp 12) (.tmp 15) (.const (.bool false))) 4,
 asn 8 16 4] fr st (.seq c75_6 k)) ∧
 (evK gS fi75 c75_43 fr st k = opsR gS fi75 [op1 4 (.assign (.const (.int .i64 0))) 3,
 op1 5 (.assign (.const (.bool false))) 4] fr st (.seq .ret k)) ∧
 evK gS fi75 c75_2 fr st k = evK gS fi75 c75_4 fr st (.blk 0 (.seq c75_43 k)) ∧
 (evK gS fi75 c75_0 fr st k = opsR gS fi75 [op1 2 (.box 24 (.tmp 0)) 0,
 op1 3 (.box 24 (.tmp 1)) 0,
 op1 4 (.assign (.const (.int .i64 0))) 3,
 op1 5 (.assign (.const (.bool false))) 4] fr st (.seq c75_2 k)) := ⟨evK_rs 2 rfl (by kernel_rfl), evK_rs 4 rfl (by kernel_rfl), evK_rs 6 rfl (by kernel_rfl), evK_rs 9 rfl (by kernel_rfl), evK_rs 8 rfl (by kernel_rfl), evK_rs 11 rfl (by kernel_rfl), evK_rs 13 rfl (by kernel_rfl), rfl, evK_rs 12 rfl (by kernel_rfl), rfl, evK_rs 10 rfl (by kernel_rfl), rfl, evK_rs 7 rfl (by kernel_rfl), rfl, evK_rs 5 rfl (by kernel_rfl), rfl, evK_rs 3 rfl (by kernel_rfl), rfl, evK_rs 1 rfl (by kernel_rfl), evK_rs 14 rfl (by kernel_rfl), rfl, evK_rs 0 rfl (by kernel_rfl)⟩
theorem m75 : mini fi75.body = c75_0 := by kernel_rfl
set_option maxHeartbeats 4000000 in
theorem c75 (a : Val) (b : Val)  (st : St) : EvF gS 75 [a.enc, b.enc] st = some (.ret (.tuple [.int .i64 (cmp a b).1, .bool (cmp a b).2]) none, st) := by
  refine EvF_start fi75_eq (fun x h => by cases h) m75 ?_
  rw [st75]
  have hm : fi75.marks = [] := rfl
  have hl : fi75.locals = [2, 3] := rfl
  have hr : fi75.results = [.tmp 4, .tmp 5] := rfl
  simp (config := { contextual := true, maxSteps := 10000000, maxDischargeDepth := 6 }) [-Int.not_le, -Int.not_lt, -Nat.not_le, -Nat.not_lt, ty2, ty3, ty4, ty9, ty22, ty24, eq24, hm, hl, hr, k104, k105, k106, E75]
  all_goals try simp (config := { contextual := true }) [-Int.not_le, -Int.not_lt, -Nat.not_le, -Nat.not_lt, cmp, scmp]
  all_goals first | done | grind | omega | (trace_state; fail)
theorem k75 (a_k : Int) (a_n : Int) (a_x : Nat) (a_s : List UInt8) (a_b : Bool) (b_k : Int) (b_n : Int) (b_x : Nat) (b_s : List UInt8) (b_b : Bool)  (fr : Fr) (st : St) : callStep gS (EvF gS) 75 [.agg [.int .i64 a_k, .int .i64 a_n, .float .f64 a_x, .str a_s, .bool a_b], .agg [.int .i64 b_k, .int .i64 b_n, .float .f64 b_x, .str b_s, .bool b_b]] fr st = some (.ok (retE none (.tuple [.int .i64 (cmp (⟨a_k, a_n, a_x, a_s, a_b⟩ : Val) (⟨b_k, b_n, b_x, b_s, b_b⟩ : Val)).1, .bool (cmp (⟨a_k, a_n, a_x, a_s, a_b⟩ : Val) (⟨b_k, b_n, b_x, b_s, b_b⟩ : Val)).2])) fr st) :=
  call_pure rfl fi75_eq rfl (fun st => c75 (⟨a_k, a_n, a_x, a_s, a_b⟩ : Val) (⟨b_k, b_n, b_x, b_s, b_b⟩ : Val)  st) (by simp)
def fi77 : FI := { body := codeOf Try.f77, ntmps := 114, results := [.tmp 4, .tmp 5], pers := [0, 1, 2, 3, 4, 5, 6, 7], locals := [2, 3], pure := true, marks := [] }
theorem fi77_eq : gS.fn 77 = some fi77 := by kernel_rfl
theorem st77 (a0 a1 : V) : startFr fi77 [a0, a1] = { ps := [(0, .val a0), (1, .val a1), (2, .any), (3, .any), (4, .any), (5, .any), (6, .any), (7, .any)], ts := [], lc := [] } := rfl
def b77 : Code := mini (codeOf Try.f77)
def c77_11 : Code := .seq (codeN b77 585) .ret
def c77_10 : Code := .cond (.tmp 21) c77_11 .skip
def c77_8 : Code := .seq (codeN b77 137) c77_10
def c77_19 : Code := .seq (codeN b77 1193) .ret
def c77_18 : Code := .cond (.tmp 26) c77_19 .skip
def c77_16 : Code := .seq (codeN b77 297) c77_18
def c77_23 : Code := .seq (codeN b77 361) .ret
def c77_15 : Code := .seq c77_16 c77_23
def c77_7 : Code := .seq c77_8 c77_15
def c77_29 : Code := .seq (codeN b77 313) .ret
def c77_37 : Code := .seq (codeN b77 2809) .ret
def c77_35 : Code := .seq (codeN b77 1273) c77_37
def c77_43 : Code := .seq (codeN b77 5113) .ret
def c77_53 : Code := .seq (codeN b77 151545) .ret
def c77_52 : Code := .cond (.tmp 92) c77_53 .skip
def c77_50 : Code := .seq (codeN b77 36857) c77_52
def c77_61 : Code := .seq (codeN b77 307193) .ret
def c77_60 : Code := .cond (.tmp 97) c77_61 .skip
def c77_58 : Code := .seq (codeN b77 77817) c77_60
def c77_65 : Code := .seq (codeN b77 94201) .ret
def c77_57 : Code := .seq c77_58 c77_65
def c77_49 : Code := .seq c77_50 c77_57
def c77_75 : Code := .seq (codeN b77 606201) .ret
def c77_74 : Code := .cond (.tmp 111) c77_75 .skip
def c77_72 : Code := .seq (codeN b77 147449) c77_74
def c77_83 : Code := .seq (codeN b77 1228793) .ret
def c77_82 : Code := .cond (.tmp 113) c77_83 .skip
def c77_80 : Code := .seq (codeN b77 311289) c77_82
def c77_87 : Code := .seq (codeN b77 376825) .ret
def c77_79 : Code := .seq c77_80 c77_87
def c77_71 : Code := .seq c77_72 c77_79
def c77_70 : Code := .cond (.tmp 98) c77_71 .skip
def c77_68 : Code := .seq (codeN b77 24569) c77_70
def c77_48 : Code := .cond (.tmp 79) c77_49 c77_68
def c77_46 : Code := .seq (codeN b77 6137) c77_48
def c77_42 : Code := .cond (.tmp 63) c77_43 c77_46
def c77_40 : Code := .seq (codeN b77 1529) c77_42
def c77_34 : Code := .cond (.tmp 43) c77_35 c77_40
def c77_32 : Code := .seq (codeN b77 377) c77_34
def c77_28 : Code := .cond (.tmp 27) c77_29 c77_32
def c77_26 : Code := .seq (codeN b77 89) c77_28
def c77_6 : Code := .cond (.tmp 8) c77_7 c77_26
def c77_4 : Code := .seq (codeN b77 17) c77_6
def c77_91 : Code := .seq (codeN b77 11) .ret
def c77_2 : Code := .seq (.block 0 c77_4) c77_91
def c77_0 : Code := .seq (codeN b77 2) c77_2
theorem E77 : (evK gS fi77 c77_11 fr st k = opsR gS fi77 [op1 4 (.assign (.const (.int .i64 (-1)))) 3,
 op1 5 (.assign (.const (.bool true))) 4] fr st (.seq .ret k)) ∧
 evK gS fi77 c77_10 fr st k = condK gS fi77 (fr.op (.tmp 21)).bool? c77_11 .skip fr st k ∧
 (evK gS fi77 c77_8 fr st k = opsR gS fi77 [op1 17 (.fieldAddr 24 (.tmp 2) 1) 0,
 ld 18 2 17 2,
 op1 19 (.fieldAddr 24 (.tmp 3) 1) 0,
 ld 20 2 19 2,
 bop 21 .lss 2 18 20 2 4] fr st (.seq c77_10 k)) ∧
 (evK gS fi77 c77_19 fr st k = opsR gS fi77 [op1 4 (.assign (.const (.int .i64 1))) 3,
 op1 5 (.assign (.const (.bool true))) 4] fr st (.seq .ret k)) ∧
 evK gS fi77 c77_18 fr st k = condK gS fi77 (fr.op (.tmp 26)).bool? c77_19 .skip fr st k ∧
 (evK gS fi77 c77_16 fr st k = opsR gS fi77 [op1 22 (.fieldAddr 24 (.tmp 2) 1) 0,
 ld 23 2 22 2,
 op1 24 (.fieldAddr 24 (.tmp 3) 1) 0,
 ld 25 2 24 2,
 bop 26 .gtr 2 23 25 2 4] fr st (.seq c77_18 k)) ∧
 (evK gS fi77 c77_23 fr st k = opsR gS fi77 [op1 4 (.assign (.const (.int .i64 0))) 3,
 op1 5 (.assign (.const (.bool true))) 4] fr st (.seq .ret k)) ∧
 evK gS fi77 c77_15 fr st k = evK gS fi77 c77_16 fr st (.seq c77_23 k) ∧
 evK gS fi77 c77_7 fr st k = evK gS fi77 c77_8 fr st (.seq c77_15 k) ∧
 (evK gS fi77 c77_29 fr st k = opsR gS fi77 [op1 36 (.fieldAddr 24 (.tmp 2) 1) 0,
 ld 37 2 36 2,
 op1 38 (.fieldAddr 24 (.tmp 3) 2) 0,
 ld 39 22 38 22,
 cal 40 107 [(.tmp 37), (.tmp 39)] [2, 22] 94,
 op1 41 (.extract (.tmp 40) 0) 3,
 op1 42 (.extract (.tmp 40) 1) 4,
 asn 4 41 3,
 asn 5 42 4] fr st (.seq .ret k)) ∧
 (evK gS fi77 c77_37 fr st k = opsR gS fi77 [mv 60 6 3,
 op1 61 (.unOp .neg 3 (.tmp 60)) 3,
 mv 62 7 4,
 asn 4 61 3,
 asn 5 62 4] fr st (.seq .ret k)) ∧
 (evK gS fi77 c77_35 fr st k = opsR gS fi77 [op1 53 (.fieldAddr 24 (.tmp 3) 1) 0,
 ld 54 2 53 2,
 op1 55 (.fieldAddr 24 (.tmp 2) 2) 0,
 ld 56 22 55 22,
 cal 57 107 [(.tmp 54), (.tmp 56)] [2, 22] 94,
 mv 52 57 94,
 op1 58 (.extract (.tmp 52) 0) 3,
 op1 59 (.extract (.tmp 52) 1) 4,
 asn 6 58 3,
 asn 7 59 4] fr st (.seq c77_37 k)) ∧
 (evK gS fi77 c77_43 fr st k = opsR gS fi77 [op1 72 (.fieldAddr 24 (.tmp 2) 2) 0,
 ld 73 22 72 22,
 op1 74 (.fieldAddr 24 (.tmp 3) 2) 0,
 ld 75 22 74 22,
 cal 76 108 [(.tmp 73), (.tmp 75)] [22, 22] 94,
 op1 77 (.extract (.tmp 76) 0) 3,
 op1 78 (.extract (.tmp 76) 1) 4,
 asn 4 77 3,
 asn 5 78 4] fr st (.seq .ret k)) ∧
 (evK gS fi77 c77_53 fr st k = opsR gS fi77 [op1 4 (.assign (.const (.int .i64 (-1)))) 3,
 op1 5 (.assign (.const (.bool true))) 4] fr st (.seq .ret k)) ∧
 evK gS fi77 c77_52 fr st k = condK gS fi77 (fr.op (.tmp 92)).bool? c77_53 .skip fr st k ∧
 (evK gS fi77 c77_50 fr st k = opsR gS fi77 [op1 88 (.fieldAddr 24 (.tmp 2) 3) 0,
 ld 89 9 88 9,
 op1 90 (.fieldAddr 24 (.tmp 3) 3) 0,
 ld 91 9 90 9,
 bop 92 .lss 9 89 91 9 4] fr st (.seq c77_52 k)) ∧
 (evK gS fi77 c77_61 fr st k = opsR gS fi77 [op1 4 (.assign (.const (.int .i64 1))) 3,
 op1 5 (.assign (.const (.bool true))) 4] fr st (.seq .ret k)) ∧
 evK gS fi77 c77_60 fr st k = condK gS fi77 (fr.op (.tmp 97)).bool? c77_61 .skip fr st k ∧
 (evK gS fi77 c77_58 fr st k = opsR gS fi77 [op1 93 (.fieldAddr 24 (.tmp 2) 3) 0,
 ld 94 9 93 9,
 op1 95 (.fieldAddr 24 (.tmp 3) 3) 0,
 ld 96 9 95 9,
 bop 97 .gtr 9 94 96 9 4] fr st (.seq c77_60 k)) ∧
 (evK gS fi77 c77_65 fr st k = opsR gS fi77 [op1 4 (.assign (.const (.int .i64 0))) 3,
 op1 5 (.assign (.const (.bool true))) 4] fr st (.seq .ret k)) ∧
 evK gS fi77 c77_57 fr st k = evK gS fi77 c77_58 fr st (.seq c77_65 k) ∧
 evK gS fi77 c77_49 fr st k = evK gS fi77 c77_50 fr st (.seq c77_57 k) ∧
 (evK gS fi77 c77_75 fr st k = opsR gS fi77 [op1 4 (.assign (.const (.int .i64 0))) 3,
 op1 5 (.assign (.const (.bool true))) 4] fr st (.seq .ret k)) ∧
 evK gS fi77 c77_74 fr st k = condK gS fi77 (fr.op (.tmp 111)).bool? c77_75 .skip fr st k ∧
 (evK gS fi77 c77_72 fr st k = opsR gS fi77 [op1 107 (.fieldAddr 24 (.tmp 2) 4) 0,
 ld 108 4 107 4,
 op1 109 (.fieldAddr 24 (.tmp 3) 4) 0,
 ld 110 4 109 4,
 bop 111 .eql 4 108 110 4 4] fr st (.seq c77_74 k)) ∧
 (evK gS fi77 c77_83 fr st k = opsR gS fi77 [op1 4 (.assign (.const (.int .i64 (-1)))) 3,
 op1 5 (.assign (.const (.bool true))) 4] fr st (.seq .ret k)) ∧
 evK gS fi77 c77_82 fr st k = condK gS fi77 (fr.op (.tmp 113)).bool? c77_83 .skip fr st k ∧
 (evK gS fi77 c77_80 fr st k = opsR gS fi77 [op1 112 (.fieldAddr 24 (.tmp 3) 4) 0,
 ld 113 4 112 4] fr st (.seq c77_82 k)) ∧
 (evK gS fi77 c77_87 fr st k = opsR gS fi77 [op1 4 (.assign (.const (.int .i64 1))) 3,
 op1 5 (.assign (.const (.bool true))) 4] fr st (.seq .ret k)) ∧
 evK gS fi77 c77_79 fr st k = evK gS fi77 c77_80 fr st (.seq c77_87 k) ∧
 evK gS fi77 c77_71 fr st k = evK gS fi77 c77_72 fr st (.seq c77_79 k) ∧
 evK gS fi77 c77_70 fr st k = condK gS fi77 (fr.op (.tmp 98)).bool? c77_71 .skip fr st k ∧
 (evK gS fi77 c77_68 fr st k = opsR gS fi77 [op1 99 (.fieldAddr 24 (.tmp 2) 0) 0,
 ld 100 3 99 3,
 op1 101 (.binOp .eql 3 (.tmp 100) (.const (.int .i64 4)) 3) 4,
 mv 102 101 4,
 mk (some 103) (.fieldAddr 24 (.tmp 3) 0) 0 (some (3, true)),
 mk (some 104) (.load 3 (.tmp 103)) 3 (some (3, true)),
 mk (some 105) (.binOp .eql 3 (.tmp 104) (.const (.int .i64 4)) 3) 4 (some (3, true)),
 op1 106 (.pick (.tmp 102) (.tmp 105) (.const (.bool false))) 4,
 asn 98 106 4] fr st (.seq c77_70 k)) ∧
 evK gS fi77 c77_48 fr st k = condK gS fi77 (fr.op (.tmp 79)).bool? c77_49 c77_68 fr st k ∧
 (evK gS fi77 c77_46 fr st k = opsR gS fi77 [op1 80 (.fieldAddr 24 (.tmp 2) 0) 0,
 ld 81 3 80 3,
 op1 82 (.binOp .eql 3 (.tmp 81) (.const (.int .i64 3)) 3) 4,
 mv 83 82 4,
 mk (some 84) (.fieldAddr 24 (.tmp 3) 0) 0 (some (3, true)),
 mk (some 85) (.load 3 (.tmp 84)) 3 (some (3, true)),
 mk (some 86) (.binOp .eql 3 (.tmp 85) (.const (.int .i64 3)) 3) 4 (some (3, true)),
 op1 87 (.pick (.tmp 83) (.tmp 86) (.const (.bool false))) 4,
 asn 79 87 4] fr st (.seq c77_48 k)) ∧
 evK gS fi77 c77_42 fr st k = condK gS fi77 (fr.op (.tmp 63)).bool? c77_43 c77_46 fr st k ∧
 (evK gS fi77 c77_40 fr st k = opsR gS fi77 [op1 64 (.fieldAddr 24 (.tmp 2) 0) 0,
 ld 65 3 64 3,
 op1 66 (.binOp .eql 3 (.tmp 65) (.const (.int .i64 2)) 3) 4,
 mv 67 66 4,
 mk (some 68) (.fieldAddr 24 (.tmp 3) 0) 0 (some (3, true)),
 mk (some 69) (.load 3 (.tmp 68)) 3 (some (3, true)),
 mk (some 70) (.binOp .eql 3 (.tmp 69) (.const (.int .i64 2)) 3) 4 (some (3, true)),
 op1 71 (.pick (.tmp 67) (.tmp 70) (.const (.bool false))) 4,
 asn 63 71 4] fr st (.seq c77_42 k)) ∧
 evK gS fi77 c77_34 fr st k = condK gS fi77 (fr.op (.tmp 43)).bool? c77_35 c77_40 fr st k ∧
 (evK gS fi77 c77_32 fr st k = opsR gS fi77 [op1 44 (.fieldAddr 24 (.tmp 2) 0) 0,
 ld 45 3 44 3,
 op1 46 (.binOp .eql 3 (.tmp 45) (.const (.int .i64 2)) 3) 4,
 mv 47 46 4,
 mk (some 48) (.fieldAddr 24 (.tmp 3) 0) 0 (some (3, true)),
 mk (some 49) (.load 3 (.tmp 48)) 3 (some (3, true)),
 mk (some 50) (.binOp .eql 3 (.tmp 49) (.const (.int .i64 1)) 3) 4 (some (3, true)),
 op1 51 (.pick (.tmp 47) (.tmp 50) (.const (.bool false))) 4,
 asn 43 51 4] fr st (.seq c77_34 k)) ∧
 evK gS fi77 c77_28 fr st k = condK gS fi77 (fr.op (.tmp 27)).bool? c77_29 c77_32 fr st k ∧
 (evK gS fi77 c77_26 fr st k = opsR gS fi77 [op1 28 (.fieldAddr 24 (.tmp 2) 0) 0,
 ld 29 3 28 3,
 op1 30 (.binOp .eql 3 (.tmp 29) (.const (.int .i64 1)) 3) 4,
 mv 31 30 4,
 mk (some 32) (.fieldAddr 24 (.tmp 3) 0) 0 (some (3, true)),
 mk (some 33) (.load 3 (.tmp 32)) 3 (some (3, true)),
 mk (some 34) (.binOp .eql 3 (.tmp 33) (.const (.int .i64 2)) 3) 4 (some (3, true)),
 op1 35 (.pick (.tmp 31) (.tmp 34) (.const (.bool false))) 4,
 asn 27 35 4] fr st (.seq c77_28 k)) ∧
 evK gS fi77 c77_6 fr st k = condK gS fi77 (fr.op (.tmp 8)).bool? c77_7 c77_26 fr st k ∧
 (evK gS fi77 c77_4 fr st k = opsR gS fi77 [op1 9 (.fieldAddr 24 (.tmp 2) 0) 0,
 ld 10 3 9 3,
 op1 11 (.binOp .eql 3 (.tmp 10) (.const (.int .i64 1)) 3) 4,
 mv 12 11 4,
 mk (some 13) (.fieldAddr 24 (.tmp 3) 0) 0 (some (3, true)),
 mk (some 14) (.load 3 (.tmp 13)) 3 (some (3, true)),
 mk (some 15) (.binOp .eql 3 (.tmp 14) (.const (.int .i64 1)) 3) 4 (some (3, true)),
 op1 16 (.pick (.tmp 12) (.tmp 15) (.const (.bool false))) 4,
 asn 8 16 4] fr st (.seq c77_6 k)) ∧
 (evK gS fi77 c77_91 fr st k = opsR gS fi77 [op1 4 (.assign (.const (.int .i64 0))) 3,
 op1 5 (.assign (.const (.bool false))) 4] fr st (.seq .ret k)) ∧
 evK gS fi77 c77_2 fr st k = evK gS fi77 c77_4 fr st (.blk 0 (.seq c77_91 k)) ∧
 (evK gS fi77 c77_0 fr st k = opsR gS fi77 [op1 2 (.box 24 (.tmp 0)) 0,
 op1 3 (.box 24 (.tmp 1)) 0,
 op1 4 (.assign (.const (.int .i64 0))) 3,
 op1 5 (.assign (.const (.bool false))) 4] fr st (.seq c77_2 k)) := ⟨evK_rs 3 rfl (by kernel_rfl), rfl, evK_rs 2 rfl (by kernel_rfl), evK_rs 5 rfl (by kernel_rfl), rfl, evK_rs 4 rfl (by kernel_rfl), evK_rs 6 rfl (by kernel_rfl), rfl, rfl, evK_rs 8 rfl (by kernel_rfl), evK_rs 11 rfl (by kernel_rfl), evK_rs 10 rfl (by kernel_rfl), evK_rs 13 rfl (by kernel_rfl), evK_rs 16 rfl (by kernel_rfl), rfl, evK_rs 15 rfl (by kernel_rfl), evK_rs 18 rfl (by kernel_rfl), rfl, evK_rs 17 rfl (by kernel_rfl), evK_rs 19 rfl (by kernel_rfl), rfl, rfl, evK_rs 22 rfl (by kernel_rfl), rfl, evK_rs 21 rfl (by kernel_rfl), evK_rs 24 rfl (by kernel_rfl), rfl, evK_rs 23 rfl (by kernel_rfl), evK_rs 25 rfl (by kernel_rfl), rfl, rfl, rfl, evK_rs 20 rfl (by kernel_rfl), rfl, evK_rs 14 rfl (by kernel_rfl), rfl, evK_rs 12 rfl (by kernel_rfl), rfl, evK_rs 9 rfl (by kernel_rfl), rfl, evK_rs 7 rfl (by kernel_rfl), rfl, evK_rs 1 rfl (by kernel_rfl), evK_rs 26 rfl (by kernel_rfl), rfl, evK_rs 0 rfl (by kernel_rfl)⟩
theorem m77 : mini fi77.body = c77_0 := by kernel_rfl
set_option maxHeartbeats 4000000 in
theorem c77 (a : Val) (b : Val)  (st : St) : EvF gS 77 [a.enc, b.enc] st = some (.ret (.tuple [.int .i64 (cmp a b).1, .bool (cmp a b).2]) none, st) := by
  refine EvF_start fi77_eq (fun x h => by cases h) m77 ?_
  rw [st77]
  have hm : fi77.marks = [] := rfl
  have hl : fi77.locals = [2, 3] := rfl
  have hr : fi77.results = [.tmp 4, .tmp 5] := rfl
  simp (config := { contextual := true, maxSteps := 10000000, maxDischargeDepth := 6 }) [-Int.not_le, -Int.not_lt, -Nat.not_le, -Nat.not_lt, ty2, ty3, ty4, ty9, ty22, ty24, eq24, hm, hl, hr, k107, k108, E77]
  all_goals try simp (config := { contextual := true }) [-Int.not_le, -Int.not_lt, -Nat.not_le, -Nat.not_lt, cmp, scmp, sgn]
  all_goals first | done | grind | omega | (trace_state; fail)
theorem k77 (a_k : Int) (a_n : Int) (a_x : Nat) (a_s : List UInt8) (a_b : Bool) (b_k : Int) (b_n : Int) (b_x : Nat) (b_s : List UInt8) (b_b : Bool)  (fr : Fr) (st : St) : callStep gS (EvF gS) 77 [.agg [.int .i64 a_k, .int .i64 a_n, .float .f64 a_x, .str a_s, .bool a_b], .agg [.int .i64 b_k, .int .i64 b_n, .float .f64 b_x, .str b_s, .bool b_b]] fr st = some (.ok (retE none (.tuple [.int .i64 (cmp (⟨a_k, a_n, a_x, a_s, a_b⟩ : Val) (⟨b_k, b_n, b_x, b_s, b_b⟩ : Val)).1, .bool (cmp (⟨a_k, a_n, a_x, a_s, a_b⟩ : Val) (⟨b_k, b_n, b_x, b_s, b_b⟩ : Val)).2])) fr st) :=
  call_pure rfl fi77_eq rfl (fun st => c77 (⟨a_k, a_n, a_x, a_s, a_b⟩ : Val) (⟨b_k, b_n, b_x, b_s, b_b⟩ : Val)  st) (by simp)
theorem x77 : gS.ext 77 = none := rfl
theorem p77 : fi77.pure = true := rfl
def fi32 : FI := { body := codeOf Try.f32, ntmps := 18, results := [.tmp 4], pers := [0, 1, 2, 3, 4, 5, 6], locals := [2, 3], pure := true, marks := [] }
theorem fi32_eq : gS.fn 32 = some fi32 := by kernel_rfl
theorem st32 (a0 a1 : V) : startFr fi32 [a0, a1] = { ps := [(0, .val a0), (1, .val a1), (2, .any), (3, .any), (4, .any), (5, .any), (6, .any)], ts := [], lc := [] } := rfl
def b32 : Code := mini (codeOf Try.f32)
def c32_4 : Code := .seq (codeN b32 11) .ret
theorem e32_4 : evK gS fi32 c32_4 fr st k = opsR gS fi32 [mv 13 6 4,
 mv 14 13 4,
 mk (some 15) (.move (.tmp 5)) 3 (some (1, true)),
 mk (some 16) (.binOp .eql 3 (.tmp 15) (.const (.int .i64 0)) 3) 4 (some (1, true)),
 op1 17 (.pick (.tmp 14) (.tmp 16) (.const (.bool false))) 4,
 asn 4 17 4] fr st (.seq .ret k) := evK_rs 2 rfl (by kernel_rfl)
def c32_2 : Code := .seq (codeN b32 5) c32_4
theorem e32_2 : evK gS fi32 c32_2 fr st k = opsR gS fi32 [ld 8 24 2 24,
 ld 9 24 3 24,
 cal 10 75 [(.tmp 8), (.tmp 9)] [24, 24] 94,
 mv 7 10 94,
 op1 11 (.extract (.tmp 7) 0) 3,
 op1 12 (.extract (.tmp 7) 1) 4,
 asn 5 11 3,
 asn 6 12 4] fr st (.seq c32_4 k) := evK_rs 1 rfl (by kernel_rfl)
def c32_0 : Code := .seq (codeN b32 2) c32_2
theorem e32_0 : evK gS fi32 c32_0 fr st k = opsR gS fi32 [op1 2 (.box 24 (.tmp 0)) 0,
 op1 3 (.box 24 (.tmp 1)) 0,
 op1 4 (.assign (.const (.bool false))) 4] fr st (.seq c32_2 k) := evK_rs 0 rfl (by kernel_rfl)
theorem m32 : mini fi32.body = c32_0 := by kernel_rfl
set_option maxHeartbeats 4000000 in
theorem c32 (a : Val) (b : Val)  (st : St) : EvF gS 32 [a.enc, b.enc] st = some (.ret (.bool (vis a b)) none, st) := by
  refine EvF_start fi32_eq (fun x h => by cases h) m32 ?_
  rw [st32]
  have hm : fi32.marks = [] := rfl
  have hl : fi32.locals = [2, 3] := rfl
  have hr : fi32.results = [.tmp 4] := rfl
  simp (config := { contextual := true, maxSteps := 10000000, maxDischargeDepth := 6 }) [-Int.not_le, -Int.not_lt, -Nat.not_le, -Nat.not_lt, ty3, ty4, ty24, eq24, hm, hl, hr, k75, e32_4, e32_2, e32_0]
  all_goals try simp (config := { contextual := true }) [-Int.not_le, -Int.not_lt, -Nat.not_le, -Nat.not_lt, vis]
  all_goals first | done | grind | omega | (trace_state; fail)
theorem k32 (a_k : Int) (a_n : Int) (a_x : Nat) (a_s : List UInt8) (a_b : Bool) (b_k : Int) (b_n : Int) (b_x : Nat) (b_s : List UInt8) (b_b : Bool)  (fr : Fr) (st : St) : callStep gS (EvF gS) 32 [.agg [.int .i64 a_k, .int .i64 a_n, .float .f64 a_x, .str a_s, .bool a_b], .agg [.int .i64 b_k, .int .i64 b_n, .float .f64 b_x, .str b_s, .bool b_b]] fr st = some (.ok (retE none (.bool (vis (⟨a_k, a_n, a_x, a_s, a_b⟩ : Val) (⟨b_k, b_n, b_x, b_s, b_b⟩ : Val)))) fr st) :=
  call_pure rfl fi32_eq rfl (fun st => c32 (⟨a_k, a_n, a_x, a_s, a_b⟩ : Val) (⟨b_k, b_n, b_x, b_s, b_b⟩ : Val)  st) (by simp)
def fi79 : FI := { body := codeOf Try.f79, ntmps := 18, results := [.tmp 4], pers := [0, 1, 2, 3, 4, 5, 6], locals := [2, 3], pure := true, marks := [] }
theorem fi79_eq : gS.fn 79 = some fi79 := by kernel_rfl
theorem st79 (a0 a1 : V) : startFr fi79 [a0, a1] = { ps := [(0, .val a0), (1, .val a1), (2, .any), (3, .any), (4, .any), (5, .any), (6, .any)], ts := [], lc := [] } := rfl
def b79 : Code := mini (codeOf Try.f79)
def c79_4 : Code := .seq (codeN b79 11) .ret
theorem e79_4 : evK gS fi79 c79_4 fr st k = opsR gS fi79 [mv 13 6 4,
 mv 14 13 4,
 mk (some 15) (.move (.tmp 5)) 3 (some (1, true)),
 mk (some 16) (.binOp .eql 3 (.tmp 15) (.const (.int .i64 0)) 3) 4 (some (1, true)),
 op1 17 (.pick (.tmp 14) (.tmp 16) (.const (.bool false))) 4,
 asn 4 17 4] fr st (.seq .ret k) := evK_rs 2 rfl (by kernel_rfl)
def c79_2 : Code := .seq (codeN b79 5) c79_4
theorem e79_2 : evK gS fi79 c79_2 fr st k = opsR gS fi79 [ld 8 24 2 24,
 ld 9 24 3 24,
 cal 10 77 [(.tmp 8), (.tmp 9)] [24, 24] 94,
 mv 7 10 94,
 op1 11 (.extract (.tmp 7) 0) 3,
 op1 12 (.extract (.tmp 7) 1) 4,
 asn 5 11 3,
 asn 6 12 4] fr st (.seq c79_4 k) := evK_rs 1 rfl (by kernel_rfl)
def c79_0 : Code := .seq (codeN b79 2) c79_2
theorem e79_0 : evK gS fi79 c79_0 fr st k = opsR gS fi79 [op1 2 (.box 24 (.tmp 0)) 0,
 op1 3 (.box 24 (.tmp 1)) 0,
 op1 4 (.assign (.const (.bool false))) 4] fr st (.seq c79_2 k) := evK_rs 0 rfl (by kernel_rfl)
theorem m79 : mini fi79.body = c79_0 := by kernel_rfl
set_option maxHeartbeats 4000000 in
theorem c79 (a : Val) (b : Val)  (st : St) : EvF gS 79 [a.enc, b.enc] st = some (.ret (.bool (vis a b)) none, st) := by
  refine EvF_start fi79_eq (fun x h => by cases h) m79 ?_
  rw [st79]
  have hm : fi79.marks = [] := rfl
  have hl : fi79.locals = [2, 3] := rfl
  have hr : fi79.results = [.tmp 4] := rfl
  simp (config := { contextual := true, maxSteps := 10000000, maxDischargeDepth := 6 }) [-Int.not_le, -Int.not_lt, -Nat.not_le, -Nat.not_lt, ty3, ty4, ty24, eq24, hm, hl, hr, k77, e79_4, e79_2, e79_0]
  all_goals try simp (config := { contextual := true }) [-Int.not_le, -Int.not_lt, -Nat.not_le, -Nat.not_lt, vis]
  all_goals first | done | grind | omega | (trace_state; fail)
theorem k79 (a_k : Int) (a_n : Int) (a_x : Nat) (a_s : List UInt8) (a_b : Bool) (b_k : Int) (b_n : Int) (b_x : Nat) (b_s : List UInt8) (b_b : Bool)  (fr : Fr) (st : St) : callStep gS (EvF gS) 79 [.agg [.int .i64 a_k, .int .i64 a_n, .float .f64 a_x, .str a_s, .bool a_b], .agg [.int .i64 b_k, .int .i64 b_n, .float .f64 b_x, .str b_s, .bool b_b]] fr st = some (.ok (retE none (.bool (vis (⟨a_k, a_n, a_x, a_s, a_b⟩ : Val) (⟨b_k, b_n, b_x, b_s, b_b⟩ : Val)))) fr st) :=
  call_pure rfl fi79_eq rfl (fun st => c79 (⟨a_k, a_n, a_x, a_s, a_b⟩ : Val) (⟨b_k, b_n, b_x, b_s, b_b⟩ : Val)  st) (by simp)
theorem x79 : gS.ext 79 = none := rfl
theorem p79 : fi79.pure = true := rfl
def fi81 : FI := { body := codeOf Try.f81, ntmps := 38, results := [.tmp 4], pers := [0, 1, 2, 3, 4], locals := [2, 3], pure := true, marks := [] }
theorem fi81_eq : gS.fn 81 = some fi81 := by kernel_rfl
theorem st81 (a0 a1 : V) : startFr fi81 [a0, a1] = { ps := [(0, .val a0), (1, .val a1), (2, .any), (3, .any), (4, .any)], ts := [], lc := [] } := rfl
def b81 : Code := mini (codeOf Try.f81)
def c81_2 : Code := .seq (codeN b81 5) .ret
theorem e81_2 : evK gS fi81 c81_2 fr st k = opsR gS fi81 [op1 5 (.fieldAddr 24 (.tmp 2) 0) 0,
 ld 6 3 5 3,
 op1 7 (.fieldAddr 24 (.tmp 3) 0) 0,
 ld 8 3 7 3,
 bop 9 .eql 3 6 8 3 4,
 mv 10 9 4,
 mk (some 11) (.fieldAddr 24 (.tmp 2) 1) 0 (some (5, true)),
 mk (some 12) (.load 2 (.tmp 11)) 2 (some (5, true)),
 mk (some 13) (.fieldAddr 24 (.tmp 3) 1) 0 (some (5, true)),
 mk (some 14) (.load 2 (.tmp 13)) 2 (some (5, true)),
 mk (some 15) (.binOp .eql 2 (.tmp 12) (.tmp 14) 2) 4 (some (5, true)),
 op1 16 (.pick (.tmp 10) (.tmp 15) (.const (.bool false))) 4,
 mv 17 16 4,
 mk (some 18) (.fieldAddr 24 (.tmp 2) 3) 0 (some (12, true)),
 mk (some 19) (.load 9 (.tmp 18)) 9 (some (12, true)),
 mk (some 20) (.fieldAddr 24 (.tmp 3) 3) 0 (some (12, true)),
 mk (some 21) (.load 9 (.tmp 20)) 9 (some (12, true)),
 mk (some 22) (.binOp .eql 9 (.tmp 19) (.tmp 21) 9) 4 (some (12, true)),
 op1 23 (.pick (.tmp 17) (.tmp 22) (.const (.bool false))) 4,
 mv 24 23 4,
 mk (some 25) (.fieldAddr 24 (.tmp 2) 4) 0 (some (19, true)),
 mk (some 26) (.load 4 (.tmp 25)) 4 (some (19, true)),
 mk (some 27) (.fieldAddr 24 (.tmp 3) 4) 0 (some (19, true)),
 mk (some 28) (.load 4 (.tmp 27)) 4 (some (19, true)),
 mk (some 29) (.binOp .eql 4 (.tmp 26) (.tmp 28) 4) 4 (some (19, true)),
 op1 30 (.pick (.tmp 24) (.tmp 29) (.const (.bool false))) 4,
 mv 31 30 4,
 mk (some 32) (.fieldAddr 24 (.tmp 2) 2) 0 (some (26, true)),
 mk (some 33) (.load 22 (.tmp 32)) 22 (some (26, true)),
 mk (some 34) (.fieldAddr 24 (.tmp 3) 2) 0 (some (26, true)),
 mk (some 35) (.load 22 (.tmp 34)) 22 (some (26, true)),
 mk (some 36) (.call { callee := (.value (.func 109)), args := #[(.tmp 33), (.tmp 35)], argTypes := #[22, 22] }) 4 (some (26, true)),
 op1 37 (.pick (.tmp 31) (.tmp 36) (.const (.bool false))) 4,
 asn 4 37 4] fr st (.seq .ret k) := evK_rs 1 rfl (by kernel_rfl)
def c81_0 : Code := .seq (codeN b81 2) c81_2
theorem e81_0 : evK gS fi81 c81_0 fr st k = opsR gS fi81 [op1 2 (.box 24 (.tmp 0)) 0,
 op1 3 (.box 24 (.tmp 1)) 0,
 op1 4 (.assign (.const (.bool false))) 4] fr st (.seq c81_2 k) := evK_rs 0 rfl (by kernel_rfl)
theorem m81 : mini fi81.body = c81_0 := by kernel_rfl
set_option maxHeartbeats 4000000 in
theorem c81 (a : Val) (b : Val)  (st : St) : EvF gS 81 [a.enc, b.enc] st = some (.ret (.bool (vsame a b)) none, st) := by
  refine EvF_start fi81_eq (fun x h => by cases h) m81 ?_
  rw [st81]
  have hm : fi81.marks = [] := rfl
  have hl : fi81.locals = [2, 3] := rfl
  have hr : fi81.results = [.tmp 4] := rfl
  simp (config := { contextual := true, maxSteps := 10000000, maxDischargeDepth := 6 }) [-Int.not_le, -Int.not_lt, -Nat.not_le, -Nat.not_lt, ty2, ty3, ty4, ty9, ty22, ty24, eq24, hm, hl, hr, k109, e81_2, e81_0]
  all_goals try simp (config := { contextual := true }) [-Int.not_le, -Int.not_lt, -Nat.not_le, -Nat.not_lt, vsame]
  all_goals first | done | grind | omega | (trace_state; fail)
theorem k81 (a_k : Int) (a_n : Int) (a_x : Nat) (a_s : List UInt8) (a_b : Bool) (b_k : Int) (b_n : Int) (b_x : Nat) (b_s : List UInt8) (b_b : Bool)  (fr : Fr) (st : St) : callStep gS (EvF gS) 81 [.agg [.int .i64 a_k, .int .i64 a_n, .float .f64 a_x, .str a_s, .bool a_b], .agg [.int .i64 b_k, .int .i64 b_n, .float .f64 b_x, .str b_s, .bool b_b]] fr st = some (.ok (retE none (.bool (vsame (⟨a_k, a_n, a_x, a_s, a_b⟩ : Val) (⟨b_k, b_n, b_x, b_s, b_b⟩ : Val)))) fr st) :=
  call_pure rfl fi81_eq rfl (fun st => c81 (⟨a_k, a_n, a_x, a_s, a_b⟩ : Val) (⟨b_k, b_n, b_x, b_s, b_b⟩ : Val)  st) (by simp)
theorem x81 : gS.ext 81 = none := rfl
theorem p81 : fi81.pure = true := rfl
def fi82 : FI := { body := codeOf Try.f82, ntmps := 40, results := [.tmp 4], pers := [0, 1, 2, 3, 4], locals := [2, 3], pure := true, marks := [] }
theorem fi82_eq : gS.fn 82 = some fi82 := by kernel_rfl
theorem st82 (a0 a1 : V) : startFr fi82 [a0, a1] = { ps := [(0, .val a0), (1, .val a1), (2, .any), (3, .any), (4, .any)], ts := [], lc := [] } := rfl
def b82 : Code := mini (codeOf Try.f82)
def r82_3 : Array Oper := regOps (codeN (codeOf Try.f82) 5)
def c82_3 : Code := .region 1 r82_3 true
def q82_3 : List (Oper × Fl) := [(op1 5 (.fieldAddr 24 (.tmp 2) 0) 0, ⟨true, false, true, false, false, false, true, true, false, false, []⟩),
 (ld 6 3 5 3, ⟨true, false, true, false, false, false, true, true, false, false, []⟩),
 (op1 7 (.fieldAddr 24 (.tmp 3) 0) 0, ⟨true, false, true, false, false, false, true, true, false, false, []⟩),
 (ld 8 3 7 3, ⟨true, false, true, false, false, false, true, true, false, false, []⟩),
 (bop 9 .eql 3 6 8 3 4, ⟨true, false, true, false, false, false, true, true, false, false, []⟩),
 (mv 10 9 4, ⟨true, false, true, false, false, false, true, true, false, false, []⟩),
 (mk (some 11) (.fieldAddr 24 (.tmp 2) 1) 0 (some (5, true)), ⟨true, false, true, false, false, false, true, true, false, false, []⟩),
 (mk (some 12) (.load 2 (.tmp 11)) 2 (some (5, true)), ⟨true, false, true, false, false, false, true, true, false, false, []⟩),
 (mk (some 13) (.fieldAddr 24 (.tmp 3) 1) 0 (some (5, true)), ⟨true, false, true, false, false, false, true, true, false, false, []⟩),
 (mk (some 14) (.load 2 (.tmp 13)) 2 (some (5, true)), ⟨true, false, true, false, false, false, true, true, false, false, []⟩),
 (mk (some 15) (.binOp .eql 2 (.tmp 12) (.tmp 14) 2) 4 (some (5, true)), ⟨true, false, true, false, false, false, true, true, false, false, []⟩),
 (op1 16 (.pick (.tmp 10) (.tmp 15) (.const (.bool false))) 4, ⟨true, false, true, false, false, false, true, true, false, false, []⟩),
 (mv 17 16 4, ⟨true, true, true, false, true, false, true, true, false, false, []⟩),
 (mk (some 18) (.fieldAddr 24 (.tmp 2) 2) 0 (some (12, true)), ⟨true, false, true, false, false, false, true, true, false, false, []⟩),
 (mk (some 19) (.load 22 (.tmp 18)) 22 (some (12, true)), ⟨true, false, true, false, false, false, true, true, false, false, []⟩),
 (mk (some 20) (.call { callee := (.value (.func 110)), args := #[(.tmp 19)], argTypes := #[22] }) 123 (some (12, true)), ⟨true, true, true, false, false, true, true, true, false, false, []⟩),
 (mk (some 21) (.fieldAddr 24 (.tmp 3) 2) 0 (some (12, true)), ⟨true, false, true, false, false, false, true, true, false, false, []⟩),
 (mk (some 22) (.load 22 (.tmp 21)) 22 (some (12, true)), ⟨true, false, true, false, true, false, true, true, false, false, []⟩),
 (mk (some 23) (.call { callee := (.value (.func 110)), args := #[(.tmp 22)], argTypes := #[22] }) 123 (some (12, true)), ⟨true, true, true, false, true, true, true, true, false, false, []⟩),
 (mk (some 24) (.binOp .eql 123 (.tmp 20) (.tmp 23) 123) 4 (some (12, true)), ⟨true, false, true, false, true, false, true, true, false, false, []⟩),
 (op1 25 (.pick (.tmp 17) (.tmp 24) (.const (.bool false))) 4, ⟨true, false, true, false, true, false, true, true, false, false, []⟩),
 (mv 26 25 4, ⟨true, false, true, false, true, false, true, true, false, false, []⟩),
 (mk (some 27) (.fieldAddr 24 (.tmp 2) 3) 0 (some (21, true)), ⟨true, false, true, false, false, false, true, true, false, false, []⟩),
 (mk (some 28) (.load 9 (.tmp 27)) 9 (some (21, true)), ⟨true, false, true, false, false, false, true, true, false, false, []⟩),
 (mk (some 29) (.fieldAddr 24 (.tmp 3) 3) 0 (some (21, true)), ⟨true, false, true, false, false, false, true, true, false, false, []⟩),
 (mk (some 30) (.load 9 (.tmp 29)) 9 (some (21, true)), ⟨true, false, true, false, true, false, true, true, false, false, []⟩),
 (mk (some 31) (.binOp .eql 9 (.tmp 28) (.tmp 30) 9) 4 (some (21, true)), ⟨true, false, true, false, true, false, true, true, false, false, []⟩),
 (op1 32 (.pick (.tmp 26) (.tmp 31) (.const (.bool false))) 4, ⟨true, false, true, false, true, false, true, true, false, false, []⟩),
 (mv 33 32 4, ⟨true, false, true, false, true, false, true, true, false, false, []⟩),
 (mk (some 34) (.fieldAddr 24 (.tmp 2) 4) 0 (some (28, true)), ⟨true, false, true, false, false, false, true, true, false, false, []⟩),
 (mk (some 35) (.load 4 (.tmp 34)) 4 (some (28, true)), ⟨true, false, true, false, false, false, true, true, false, false, []⟩),
 (mk (some 36) (.fieldAddr 24 (.tmp 3) 4) 0 (some (28, true)), ⟨true, false, true, false, true, false, true, true, false, false, []⟩),
 (mk (some 37) (.load 4 (.tmp 36)) 4 (some (28, true)), ⟨true, false, true, false, true, false, true, true, false, false, []⟩),
 (mk (some 38) (.binOp .eql 4 (.tmp 35) (.tmp 37) 4) 4 (some (28, true)), ⟨true, false, true, false, true, false, true, true, false, false, []⟩),
 (op1 39 (.pick (.tmp 33) (.tmp 38) (.const (.bool false))) 4, ⟨true, false, true, false, true, false, true, true, false, false, []⟩),
 (asn 4 39 4, ⟨true, true, true, false, true, false, true, true, false, false, []⟩)]
theorem e82_3 : evK gS fi82 c82_3 fr st k = drwR gS fi82 r82_3 q82_3 fr st k := evK_dr 1 rfl (by kernel_rfl) (by kernel_rfl)
def c82_2 : Code := .seq c82_3 .ret
theorem e82_2 : evK gS fi82 c82_2 fr st k = evK gS fi82 c82_3 fr st (.seq .ret k) := rfl
def c82_0 : Code := .seq (codeN b82 2) c82_2
theorem e82_0 : evK gS fi82 c82_0 fr st k = opsR gS fi82 [op1 2 (.box 24 (.tmp 0)) 0,
 op1 3 (.box 24 (.tmp 1)) 0,
 op1 4 (.assign (.const (.bool false))) 4] fr st (.seq c82_2 k) := evK_rs 0 rfl (by kernel_rfl)
theorem m82 : mini fi82.body = c82_0 := by kernel_rfl
set_option maxHeartbeats 4000000 in
theorem c82 (a : Val) (b : Val)  (st : St) : EvF gS 82 [a.enc, b.enc] st = some (.ret (.bool (vsame a b)) none, st) := by
  refine EvF_start fi82_eq (fun x h => by cases h) m82 ?_
  rw [st82]
  have hm : fi82.marks = [] := rfl
  have hl : fi82.locals = [2, 3] := rfl
  have hr : fi82.results = [.tmp 4] := rfl
  simp (config := { contextual := true, maxSteps := 10000000, maxDischargeDepth := 6 }) [-Int.not_le, -Int.not_lt, -Nat.not_le, -Nat.not_lt, ty2, ty3, ty4, ty9, ty22, ty24, ty123, eq24, hm, hl, hr, k110, x110, fi110_eq, p110, e82_3, q82_3, e82_2, e82_0]
  all_goals try simp (config := { contextual := true }) [-Int.not_le, -Int.not_lt, -Nat.not_le, -Nat.not_lt, vsame]
  all_goals first | done | grind | omega | (trace_state; fail)
theorem k82 (a_k : Int) (a_n : Int) (a_x : Nat) (a_s : List UInt8) (a_b : Bool) (b_k : Int) (b_n : Int) (b_x : Nat) (b_s : List UInt8) (b_b : Bool)  (fr : Fr) (st : St) : callStep gS (EvF gS) 82 [.agg [.int .i64 a_k, .int .i64 a_n, .float .f64 a_x, .str a_s, .bool a_b], .agg [.int .i64 b_k, .int .i64 b_n, .float .f64 b_x, .str b_s, .bool b_b]] fr st = some (.ok (retE none (.bool (vsame (⟨a_k, a_n, a_x, a_s, a_b⟩ : Val) (⟨b_k, b_n, b_x, b_s, b_b⟩ : Val)))) fr st) :=
  call_pure rfl fi82_eq rfl (fun st => c82 (⟨a_k, a_n, a_x, a_s, a_b⟩ : Val) (⟨b_k, b_n, b_x, b_s, b_b⟩ : Val)  st) (by simp)
theorem x82 : gS.ext 82 = none := rfl
theorem p82 : fi82.pure = true := rfl
def fi70 : FI := { body := codeOf Try.f70, ntmps := 29, results := [.tmp 2], pers := [0, 1, 2, 3, 7], locals := [1, 3], pure := true, marks := [] }
theorem fi70_eq : gS.fn 70 = some fi70 := by kernel_rfl
theorem st70 (a0 : V) : startFr fi70 [a0] = { ps := [(0, .val a0), (1, .any), (2, .any), (3, .any), (7, .any)], ts := [], lc := [] } := rfl
def b70 : Code := mini (codeOf Try.f70)
def c70_13 : Code := codeN b70 343
def c70_17 : Code := codeN b70 1495
def c70_21 : Code := codeN b70 6103
def c70_25 : Code := codeN b70 24535
def c70_26 : Code := .seq (codeN b70 49111) .ret
def c70_24 : Code := .cond (.tmp 17) c70_25 c70_26
def c70_22 : Code := .seq (codeN b70 12247) c70_24
def c70_20 : Code := .cond (.tmp 14) c70_21 c70_22
def c70_18 : Code := .seq (codeN b70 3031) c70_20
def c70_16 : Code := .cond (.tmp 11) c70_17 c70_18
def c70_14 : Code := .seq (codeN b70 727) c70_16
def c70_12 : Code := .cond (.tmp 8) c70_13 c70_14
def c70_10 : Code := .seq (codeN b70 151) c70_12
def c70_9 : Code := .block 0 c70_10
def c70_7 : Code := .seq (codeN b70 39) c70_9
def c70_29 : Code := .seq (codeN b70 47) .ret
def c70_6 : Code := .seq c70_7 c70_29
def c70_4 : Code := .seq (codeN b70 11) c70_6
def c70_2 : Code := .seq (codeN b70 5) c70_4
def c70_0 : Code := .seq (codeN b70 2) c70_2
theorem E70 : (evK gS fi70 c70_13 fr st k = opsR gS fi70 [op1 10 (.fieldAddr 24 (.tmp 3) 1) 0,
 mk none (.store 2 (.tmp 10) (.const (.int .i64 0))) 0 none] fr st k) ∧
 (evK gS fi70 c70_17 fr st k = opsR gS fi70 [op1 13 (.fieldAddr 24 (.tmp 3) 2) 0,
 mk none (.store 22 (.tmp 13) (.const (.float .f64 0))) 0 none] fr st k) ∧
 (evK gS fi70 c70_21 fr st k = opsR gS fi70 [op1 16 (.fieldAddr 24 (.tmp 3) 3) 0,
 mk none (.store 9 (.tmp 16) (.const (.string { data := #[] }))) 0 none] fr st k) ∧
 (evK gS fi70 c70_25 fr st k = opsR gS fi70 [op1 19 (.fieldAddr 24 (.tmp 3) 4) 0,
 mk none (.store 4 (.tmp 19) (.const (.bool false))) 0 none] fr st k) ∧
 evK gS fi70 c70_26 fr st k = opsR gS fi70 [op1 2 (.assign (.const (.bool false))) 4] fr st (.seq .ret k) ∧
 evK gS fi70 c70_24 fr st k = condK gS fi70 (fr.op (.tmp 17)).bool? c70_25 c70_26 fr st k ∧
 (evK gS fi70 c70_22 fr st k = opsR gS fi70 [op1 18 (.binOp .eql 3 (.tmp 7) (.const (.int .i64 4)) 3) 4,
 asn 17 18 4] fr st (.seq c70_24 k)) ∧
 evK gS fi70 c70_20 fr st k = condK gS fi70 (fr.op (.tmp 14)).bool? c70_21 c70_22 fr st k ∧
 (evK gS fi70 c70_18 fr st k = opsR gS fi70 [op1 15 (.binOp .eql 3 (.tmp 7) (.const (.int .i64 3)) 3) 4,
 asn 14 15 4] fr st (.seq c70_20 k)) ∧
 evK gS fi70 c70_16 fr st k = condK gS fi70 (fr.op (.tmp 11)).bool? c70_17 c70_18 fr st k ∧
 (evK gS fi70 c70_14 fr st k = opsR gS fi70 [op1 12 (.binOp .eql 3 (.tmp 7) (.const (.int .i64 2)) 3) 4,
 asn 11 12 4] fr st (.seq c70_16 k)) ∧
 evK gS fi70 c70_12 fr st k = condK gS fi70 (fr.op (.tmp 8)).bool? c70_13 c70_14 fr st k ∧
 (evK gS fi70 c70_10 fr st k = opsR gS fi70 [op1 9 (.binOp .eql 3 (.tmp 7) (.const (.int .i64 1)) 3) 4,
 asn 8 9 4] fr st (.seq c70_12 k)) ∧
 evK gS fi70 c70_9 fr st k = evK gS fi70 c70_10 fr st (.blk 0 k) ∧
 (evK gS fi70 c70_7 fr st k = opsR gS fi70 [op1 6 (.fieldAddr 24 (.tmp 1) 0) 0,
 ld 7 3 6 3] fr st (.seq c70_9 k)) ∧
 (evK gS fi70 c70_29 fr st k = opsR gS fi70 [ld 20 24 3 24,
 op1 21 (.build 24 #[]) 24,
 bop 22 .eql 24 20 21 24 4,
 mv 23 22 4,
 mk (some 24) (.fieldAddr 24 (.tmp 1) 3) 0 (some (3, true)),
 mk (some 25) (.load 9 (.tmp 24)) 9 (some (3, true)),
 mk (some 26) (.call { callee := (.builtin .len), args := #[(.tmp 25)], argTypes := #[9] }) 3 (some (3, true)),
 mk (some 27) (.binOp .leq 3 (.tmp 26) (.const (.int .i64 12)) 3) 4 (some (3, true)),
 op1 28 (.pick (.tmp 23) (.tmp 27) (.const (.bool false))) 4,
 asn 2 28 4] fr st (.seq .ret k)) ∧
 evK gS fi70 c70_6 fr st k = evK gS fi70 c70_7 fr st (.seq c70_29 k) ∧
 (evK gS fi70 c70_4 fr st k = opsR gS fi70 [op1 5 (.fieldAddr 24 (.tmp 3) 0) 0,
 mk none (.store 3 (.tmp 5) (.const (.int .i64 0))) 0 none] fr st (.seq c70_6 k)) ∧
 (evK gS fi70 c70_2 fr st k = opsR gS fi70 [ld 4 24 1 24,
 op1 3 (.alloc 24) 0,
 sto 24 3 4] fr st (.seq c70_4 k)) ∧
 (evK gS fi70 c70_0 fr st k = opsR gS fi70 [op1 1 (.box 24 (.tmp 0)) 0,
 op1 2 (.assign (.const (.bool false))) 4] fr st (.seq c70_2 k)) := ⟨evK_r 6 (by kernel_rfl), evK_r 8 (by kernel_rfl), evK_r 10 (by kernel_rfl), evK_r 12 (by kernel_rfl), evK_rs 4 rfl (by kernel_rfl), rfl, evK_rs 11 rfl (by kernel_rfl), rfl, evK_rs 9 rfl (by kernel_rfl), rfl, evK_rs 7 rfl (by kernel_rfl), rfl, evK_rs 5 rfl (by kernel_rfl), rfl, evK_rs 3 rfl (by kernel_rfl), evK_rs 13 rfl (by kernel_rfl), rfl, evK_rs 2 rfl (by kernel_rfl), evK_rs 1 rfl (by kernel_rfl), evK_rs 0 rfl (by kernel_rfl)⟩
theorem m70 : mini fi70.body = c70_0 := by kernel_rfl
set_option maxHeartbeats 4000000 in
theorem c70 (v : Val)  (st : St) : EvF gS 70 [v.enc] st = some (.ret (.bool (vright v)) none, st) := by
  refine EvF_start fi70_eq (fun x h => by cases h) m70 ?_
  rw [st70]
  have hm : fi70.marks = [] := rfl
  have hl : fi70.locals = [1, 3] := rfl
  have hr : fi70.results = [.tmp 2] := rfl
  simp (config := { contextual := true, maxSteps := 10000000, maxDischargeDepth := 6 }) [-Int.not_le, -Int.not_lt, -Nat.not_le, -Nat.not_lt, ty2, ty3, ty4, ty9, ty22, ty24, eq24, hm, hl, hr, E70]
  all_goals try simp (config := { contextual := true }) [-Int.not_le, -Int.not_lt, -Nat.not_le, -Nat.not_lt, vright, opq]
  all_goals first | done | grind | omega | (trace_state; fail)
theorem k70 (v_k : Int) (v_n : Int) (v_x : Nat) (v_s : List UInt8) (v_b : Bool)  (fr : Fr) (st : St) : callStep gS (EvF gS) 70 [.agg [.int .i64 v_k, .int .i64 v_n, .float .f64 v_x, .str v_s, .bool v_b]] fr st = some (.ok (retE none (.bool (vright (⟨v_k, v_n, v_x, v_s, v_b⟩ : Val)))) fr st) :=
  call_pure rfl fi70_eq rfl (fun st => c70 (⟨v_k, v_n, v_x, v_s, v_b⟩ : Val)  st) (by simp)
def fi74 : FI := { body := codeOf Try.f74, ntmps := 63, results := [.tmp 2], pers := [0, 1, 2, 3, 4, 5, 6, 20], locals := [1], pure := true, marks := [] }
theorem fi74_eq : gS.fn 74 = some fi74 := by kernel_rfl
theorem st74 (a0 : V) : startFr fi74 [a0] = { ps := [(0, .val a0), (1, .any), (2, .any), (3, .any), (4, .any), (5, .any), (6, .any), (20, .any)], ts := [], lc := [] } := rfl
def b74 : Code := mini (codeOf Try.f74)
def r74_3 : Array Oper := regOps (codeN (codeOf Try.f74) 5)
def c74_3 : Code := .region 1 r74_3 true
def q74_3 : List (Oper × Fl) := [(op1 7 (.fieldAddr 24 (.tmp 1) 1) 0, ⟨true, false, true, false, false, false, true, true, false, false, []⟩),
 (ld 8 2 7 2, ⟨true, false, true, false, false, false, true, true, false, false, []⟩),
 (op1 9 (.binOp .eql 2 (.tmp 8) (.const (.int .i64 0)) 2) 4, ⟨true, false, true, false, false, false, true, true, false, false, []⟩),
 (op1 10 (.fieldAddr 24 (.tmp 1) 2) 0, ⟨true, false, true, false, false, false, true, true, false, false, []⟩),
 (ld 11 22 10 22, ⟨true, false, true, false, false, false, true, true, false, false, []⟩),
 (op1 12 (.binOp .eql 22 (.tmp 11) (.const (.float .f64 0)) 22) 4, ⟨true, false, true, false, false, false, true, true, false, false, []⟩),
 (op1 13 (.fieldAddr 24 (.tmp 1) 3) 0, ⟨true, false, true, false, false, false, true, true, false, false, []⟩),
 (ld 14 9 13 9, ⟨true, false, true, false, false, false, true, true, false, false, []⟩),
 (op1 15 (.binOp .eql 9 (.tmp 14) (.const (.string { data := #[] })) 9) 4, ⟨true, false, true, false, false, false, true, true, false, false, []⟩),
 (op1 16 (.fieldAddr 24 (.tmp 1) 4) 0, ⟨true, false, true, false, false, false, true, true, false, false, []⟩),
 (ld 17 4 16 4, ⟨true, false, true, false, false, false, true, true, false, false, []⟩),
 (op1 18 (.unOp .not 4 (.tmp 17)) 4, ⟨true, false, true, false, false, false, true, true, false, false, []⟩),
 (asn 3 9 4, ⟨true, false, true, false, true, false, true, true, false, false, []⟩),
 (asn 4 12 4, ⟨true, false, true, false, true, false, true, true, false, false, []⟩),
 (asn 5 15 4, ⟨true, false, true, false, true, false, true, true, false, false, []⟩),
 (asn 6 18 4, ⟨true, true, true, false, true, false, true, true, false, false, []⟩)]
def c74_11 : Code := .seq (codeN b74 299) .ret
def c74_17 : Code := .seq (codeN b74 1259) .ret
def c74_23 : Code := .seq (codeN b74 5099) .ret
def c74_29 : Code := .seq (codeN b74 20459) .ret
def c74_28 : Code := .cond (.tmp 54) c74_29 .skip
def c74_26 : Code := .seq (codeN b74 6123) c74_28
def c74_22 : Code := .cond (.tmp 39) c74_23 c74_26
def c74_20 : Code := .seq (codeN b74 1515) c74_22
def c74_16 : Code := .cond (.tmp 30) c74_17 c74_20
def c74_14 : Code := .seq (codeN b74 363) c74_16
def c74_10 : Code := .cond (.tmp 21) c74_11 c74_14
def c74_8 : Code := .seq (codeN b74 75) c74_10
def c74_7 : Code := .block 0 c74_8
def c74_5 : Code := .seq (codeN b74 19) c74_7
def c74_33 : Code := .seq (codeN b74 23) .ret
def c74_4 : Code := .seq c74_5 c74_33
def c74_2 : Code := .seq c74_3 c74_4
def c74_0 : Code := .seq (codeN b74 2) c74_2
theorem E74 : evK gS fi74 c74_3 fr st k = drwR gS fi74 r74_3 q74_3 fr st k ∧
 (evK gS fi74 c74_11 fr st k = opsR gS fi74 [mv 23 4 4,
 mv 24 23 4,
 mk (some 25) (.move (.tmp 5)) 4 (some (1, true)),
 op1 26 (.pick (.tmp 24) (.tmp 25) (.const (.bool false))) 4,
 mv 27 26 4,
 mk (some 28) (.move (.tmp 6)) 4 (some (4, true)),
 op1 29 (.pick (.tmp 27) (.tmp 28) (.const (.bool false))) 4,
 asn 2 29 4] fr st (.seq .ret k)) ∧
 (evK gS fi74 c74_17 fr st k = opsR gS fi74 [mv 32 3 4,
 mv 33 32 4,
 mk (some 34) (.move (.tmp 5)) 4 (some (1, true)),
 op1 35 (.pick (.tmp 33) (.tmp 34) (.const (.bool false))) 4,
 mv 36 35 4,
 mk (some 37) (.move (.tmp 6)) 4 (some (4, true)),
 op1 38 (.pick (.tmp 36) (.tmp 37) (.const (.bool false))) 4,
 asn 2 38 4] fr st (.seq .ret k)) ∧
 (evK gS fi74 c74_23 fr st k = opsR gS fi74 [mv 41 3 4,
 mv 42 41 4,
 mk (some 43) (.move (.tmp 4)) 4 (some (1, true)),
 op1 44 (.pick (.tmp 42) (.tmp 43) (.const (.bool false))) 4,
 mv 45 44 4,
 mk (some 46) (.move (.tmp 6)) 4 (some (4, true)),
 op1 47 (.pick (.tmp 45) (.tmp 46) (.const (.bool false))) 4,
 mv 48 47 4,
 mk (some 49) (.fieldAddr 24 (.tmp 1) 3) 0 (some (7, true)),
 mk (some 50) (.load 9 (.tmp 49)) 9 (some (7, true)),
 mk (some 51) (.call { callee := (.builtin .len), args := #[(.tmp 50)], argTypes := #[9] }) 3 (some (7, true)),
 mk (some 52) (.binOp .leq 3 (.tmp 51) (.const (.int .i64 12)) 3) 4 (some (7, true)),
 op1 53 (.pick (.tmp 48) (.tmp 52) (.const (.bool false))) 4,
 asn 2 53 4] fr st (.seq .ret k)) ∧
 (evK gS fi74 c74_29 fr st k = opsR gS fi74 [mv 56 3 4,
 mv 57 56 4,
 mk (some 58) (.move (.tmp 4)) 4 (some (1, true)),
 op1 59 (.pick (.tmp 57) (.tmp 58) (.const (.bool false))) 4,
 mv 60 59 4,
 mk (some 61) (.move (.tmp 5)) 4 (some (4, true)),
 op1 62 (.pick (.tmp 60) (.tmp 61) (.const (.bool false))) 4,
 asn 2 62 4] fr st (.seq .ret k)) ∧
 evK gS fi74 c74_28 fr st k = condK gS fi74 (fr.op (.tmp 54)).bool? c74_29 .skip fr st k ∧
 (evK gS fi74 c74_26 fr st k = opsR gS fi74 [op1 55 (.binOp .eql 3 (.tmp 20) (.const (.int .i64 4)) 3) 4,
 asn 54 55 4] fr st (.seq c74_28 k)) ∧
 evK gS fi74 c74_22 fr st k = condK gS fi74 (fr.op (.tmp 39)).bool? c74_23 c74_26 fr st k ∧
 (evK gS fi74 c74_20 fr st k = opsR gS fi74 [op1 40 (.binOp .eql 3 (.tmp 20) (.const (.int .i64 3)) 3) 4,
 asn 39 40 4] fr st (.seq c74_22 k)) ∧
 evK gS fi74 c74_16 fr st k = condK gS fi74 (fr.op (.tmp 30)).bool? c74_17 c74_20 fr st k ∧
 (evK gS fi74 c74_14 fr st k = opsR gS fi74 [op1 31 (.binOp .eql 3 (.tmp 20) (.const (.int .i64 2)) 3) 4,
 asn 30 31 4] fr st (.seq c74_16 k)) ∧
 evK gS fi74 c74_10 fr st k = condK gS fi74 (fr.op (.tmp 21)).bool? c74_11 c74_14 fr st k ∧
 (evK gS fi74 c74_8 fr st k = opsR gS fi74 [op1 22 (.binOp .eql 3 (.tmp 20) (.const (.int .i64 1)) 3) 4,
 asn 21 22 4] fr st (.seq c74_10 k)) ∧
 evK gS fi74 c74_7 fr st k = evK gS fi74 c74_8 fr st (.blk 0 k) ∧
 (evK gS fi74 c74_5 fr st k = opsR gS fi74 [op1 19 (.fieldAddr 24 (.tmp 1) 0) 0,
 ld 20 3 19 3] fr st (.seq c74_7 k)) ∧
 evK gS fi74 c74_33 fr st k = opsR gS fi74 [op1 2 (.assign (.const (.bool false))) 4] fr st (.seq .ret k) ∧
 evK gS fi74 c74_4 fr st k = evK gS fi74 c74_5 fr st (.seq c74_33 k) ∧
 evK gS fi74 c74_2 fr st k = evK gS fi74 c74_3 fr st (.seq c74_4 k) ∧
 (evK gS fi74 c74_0 fr st k = opsR gS fi74 [op1 1 (.box 24 (.tmp 0)) 0,
 op1 2 (.assign (.const (.bool false))) 4] fr st (.seq c74_2 k)) := ⟨evK_dr 1 rfl (by kernel_rfl) (by kernel_rfl), evK_rs 4 rfl (by kernel_rfl), evK_rs 6 rfl (by kernel_rfl), evK_rs 8 rfl (by kernel_rfl), evK_rs 10 rfl (by kernel_rfl), rfl, evK_rs 9 rfl (by kernel_rfl), rfl, evK_rs 7 rfl (by kernel_rfl), rfl, evK_rs 5 rfl (by kernel_rfl), rfl, evK_rs 3 rfl (by kernel_rfl), rfl, evK_rs 2 rfl (by kernel_rfl), evK_rs 11 rfl (by kernel_rfl), rfl, rfl, evK_rs 0 rfl (by kernel_rfl)⟩
theorem m74 : mini fi74.body = c74_0 := by kernel_rfl
set_option maxHeartbeats 4000000 in
theorem c74 (v : Val)  (st : St) : EvF gS 74 [v.enc] st = some (.ret (.bool (vright v)) none, st) := by
  refine EvF_start fi74_eq (fun x h => by cases h) m74 ?_
  rw [st74]
  have hm : fi74.marks = [] := rfl
  have hl : fi74.locals = [1] := rfl
  have hr : fi74.results = [.tmp 2] := rfl
  simp (config := { contextual := true, maxSteps := 10000000, maxDischargeDepth := 6 }) [-Int.not_le, -Int.not_lt, -Nat.not_le, -Nat.not_lt, ty2, ty3, ty4, ty9, ty22, ty24, eq24, hm, hl, hr, E74, q74_3]
  all_goals try simp (config := { contextual := true }) [-Int.not_le, -Int.not_lt, -Nat.not_le, -Nat.not_lt, vright, opq]
  all_goals first | done | grind | omega | (trace_state; fail)
theorem k74 (v_k : Int) (v_n : Int) (v_x : Nat) (v_s : List UInt8) (v_b : Bool)  (fr : Fr) (st : St) : callStep gS (EvF gS) 74 [.agg [.int .i64 v_k, .int .i64 v_n, .float .f64 v_x, .str v_s, .bool v_b]] fr st = some (.ok (retE none (.bool (vright (⟨v_k, v_n, v_x, v_s, v_b⟩ : Val)))) fr st) :=
  call_pure rfl fi74_eq rfl (fun st => c74 (⟨v_k, v_n, v_x, v_s, v_b⟩ : Val)  st) (by simp)
def fi69 : FI := { body := codeOf Try.f69, ntmps := 6, results := [.tmp 2], pers := [0, 1, 2], locals := [1], pure := true, marks := [] }
theorem fi69_eq : gS.fn 69 = some fi69 := by kernel_rfl
theorem st69 (a0 : V) : startFr fi69 [a0] = { ps := [(0, .val a0), (1, .any), (2, .any)], ts := [], lc := [] } := rfl
def b69 : Code := mini (codeOf Try.f69)
def c69_2 : Code := .seq (codeN b69 5) .ret
theorem e69_2 : evK gS fi69 c69_2 fr st k = opsR gS fi69 [ld 3 24 1 24,
 op1 4 (.build 24 #[]) 24,
 cal 5 81 [(.tmp 3), (.tmp 4)] [24, 24] 4,
 asn 2 5 4] fr st (.seq .ret k) := evK_rs 1 rfl (by kernel_rfl)
def c69_0 : Code := .seq (codeN b69 2) c69_2
theorem e69_0 : evK gS fi69 c69_0 fr st k = opsR gS fi69 [op1 1 (.box 24 (.tmp 0)) 0,
 op1 2 (.assign (.const (.bool false))) 4] fr st (.seq c69_2 k) := evK_rs 0 rfl (by kernel_rfl)
theorem m69 : mini fi69.body = c69_0 := by kernel_rfl
set_option maxHeartbeats 4000000 in
theorem c69 (v : Val)  (st : St) : EvF gS 69 [v.enc] st = some (.ret (.bool (vsame v vzero)) none, st) := by
  refine EvF_start fi69_eq (fun x h => by cases h) m69 ?_
  rw [st69]
  have hm : fi69.marks = [] := rfl
  have hl : fi69.locals = [1] := rfl
  have hr : fi69.results = [.tmp 2] := rfl
  simp (config := { contextual := true, maxSteps := 10000000, maxDischargeDepth := 6 }) [-Int.not_le, -Int.not_lt, -Nat.not_le, -Nat.not_lt, ty4, ty24, eq24, hm, hl, hr, k81, e69_2, e69_0]
  all_goals try simp (config := { contextual := true }) [-Int.not_le, -Int.not_lt, -Nat.not_le, -Nat.not_lt, vzero]
  all_goals first | done | grind | omega | (trace_state; fail)
theorem k69 (v_k : Int) (v_n : Int) (v_x : Nat) (v_s : List UInt8) (v_b : Bool)  (fr : Fr) (st : St) : callStep gS (EvF gS) 69 [.agg [.int .i64 v_k, .int .i64 v_n, .float .f64 v_x, .str v_s, .bool v_b]] fr st = some (.ok (retE none (.bool (vsame (⟨v_k, v_n, v_x, v_s, v_b⟩ : Val) vzero))) fr st) :=
  call_pure rfl fi69_eq rfl (fun st => c69 (⟨v_k, v_n, v_x, v_s, v_b⟩ : Val)  st) (by simp)
def fi73 : FI := { body := codeOf Try.f73, ntmps := 6, results := [.tmp 2], pers := [0, 1, 2], locals := [1], pure := true, marks := [] }
theorem fi73_eq : gS.fn 73 = some fi73 := by kernel_rfl
theorem st73 (a0 : V) : startFr fi73 [a0] = { ps := [(0, .val a0), (1, .any), (2, .any)], ts := [], lc := [] } := rfl
def b73 : Code := mini (codeOf Try.f73)
def c73_2 : Code := .seq (codeN b73 5) .ret
theorem e73_2 : evK gS fi73 c73_2 fr st k = opsR gS fi73 [ld 3 24 1 24,
 op1 4 (.build 24 #[]) 24,
 cal 5 82 [(.tmp 3), (.tmp 4)] [24, 24] 4,
 asn 2 5 4] fr st (.seq .ret k) := evK_rs 1 rfl (by kernel_rfl)
def c73_0 : Code := .seq (codeN b73 2) c73_2
theorem e73_0 : evK gS fi73 c73_0 fr st k = opsR gS fi73 [op1 1 (.box 24 (.tmp 0)) 0,
 op1 2 (.assign (.const (.bool false))) 4] fr st (.seq c73_2 k) := evK_rs 0 rfl (by kernel_rfl)
theorem m73 : mini fi73.body = c73_0 := by kernel_rfl
set_option maxHeartbeats 4000000 in
theorem c73 (v : Val)  (st : St) : EvF gS 73 [v.enc] st = some (.ret (.bool (vsame v vzero)) none, st) := by
  refine EvF_start fi73_eq (fun x h => by cases h) m73 ?_
  rw [st73]
  have hm : fi73.marks = [] := rfl
  have hl : fi73.locals = [1] := rfl
  have hr : fi73.results = [.tmp 2] := rfl
  simp (config := { contextual := true, maxSteps := 10000000, maxDischargeDepth := 6 }) [-Int.not_le, -Int.not_lt, -Nat.not_le, -Nat.not_lt, ty4, ty24, eq24, hm, hl, hr, k82, e73_2, e73_0]
  all_goals try simp (config := { contextual := true }) [-Int.not_le, -Int.not_lt, -Nat.not_le, -Nat.not_lt, vzero]
  all_goals first | done | grind | omega | (trace_state; fail)
theorem k73 (v_k : Int) (v_n : Int) (v_x : Nat) (v_s : List UInt8) (v_b : Bool)  (fr : Fr) (st : St) : callStep gS (EvF gS) 73 [.agg [.int .i64 v_k, .int .i64 v_n, .float .f64 v_x, .str v_s, .bool v_b]] fr st = some (.ok (retE none (.bool (vsame (⟨v_k, v_n, v_x, v_s, v_b⟩ : Val) vzero))) fr st) :=
  call_pure rfl fi73_eq rfl (fun st => c73 (⟨v_k, v_n, v_x, v_s, v_b⟩ : Val)  st) (by simp)
def fi80 : FI := { body := codeOf Try.f80, ntmps := 13, results := [.tmp 2], pers := [0, 1, 2], locals := [1], pure := true, marks := [] }
theorem fi80_eq : gS.fn 80 = some fi80 := by kernel_rfl
theorem st80 (a0 : V) : startFr fi80 [a0] = { ps := [(0, .val a0), (1, .any), (2, .any)], ts := [], lc := [] } := rfl
def b80 : Code := mini (codeOf Try.f80)
def c80_2 : Code := .seq (codeN b80 5) .ret
theorem e80_2 : evK gS fi80 c80_2 fr st k = opsR gS fi80 [op1 3 (.fieldAddr 24 (.tmp 1) 0) 0,
 ld 4 3 3 3,
 op1 5 (.binOp .eql 3 (.tmp 4) (.const (.int .i64 2)) 3) 4,
 mv 6 5 4,
 mk (some 7) (.fieldAddr 24 (.tmp 1) 2) 0 (some (3, true)),
 mk (some 8) (.load 22 (.tmp 7)) 22 (some (3, true)),
 mk (some 9) (.fieldAddr 24 (.tmp 1) 2) 0 (some (3, true)),
 mk (some 10) (.load 22 (.tmp 9)) 22 (some (3, true)),
 mk (some 11) (.binOp .neq 22 (.tmp 8) (.tmp 10) 22) 4 (some (3, true)),
 op1 12 (.pick (.tmp 6) (.tmp 11) (.const (.bool false))) 4,
 asn 2 12 4] fr st (.seq .ret k) := evK_rs 1 rfl (by kernel_rfl)
def c80_0 : Code := .seq (codeN b80 2) c80_2
theorem e80_0 : evK gS fi80 c80_0 fr st k = opsR gS fi80 [op1 1 (.box 24 (.tmp 0)) 0,
 op1 2 (.assign (.const (.bool false))) 4] fr st (.seq c80_2 k) := evK_rs 0 rfl (by kernel_rfl)
theorem m80 : mini fi80.body = c80_0 := by kernel_rfl
set_option maxHeartbeats 4000000 in
theorem c80 (v : Val)  (st : St) : EvF gS 80 [v.enc] st = some (.ret (.bool (vnan v)) none, st) := by
  refine EvF_start fi80_eq (fun x h => by cases h) m80 ?_
  rw [st80]
  have hm : fi80.marks = [] := rfl
  have hl : fi80.locals = [1] := rfl
  have hr : fi80.results = [.tmp 2] := rfl
  simp (config := { contextual := true, maxSteps := 10000000, maxDischargeDepth := 6 }) [-Int.not_le, -Int.not_lt, -Nat.not_le, -Nat.not_lt, ty3, ty4, ty22, ty24, eq24, hm, hl, hr, e80_2, e80_0]
  all_goals try simp (config := { contextual := true }) [-Int.not_le, -Int.not_lt, -Nat.not_le, -Nat.not_lt, vnan]
  all_goals first | done | grind | omega | (trace_state; fail)
theorem k80 (v_k : Int) (v_n : Int) (v_x : Nat) (v_s : List UInt8) (v_b : Bool)  (fr : Fr) (st : St) : callStep gS (EvF gS) 80 [.agg [.int .i64 v_k, .int .i64 v_n, .float .f64 v_x, .str v_s, .bool v_b]] fr st = some (.ok (retE none (.bool (vnan (⟨v_k, v_n, v_x, v_s, v_b⟩ : Val)))) fr st) :=
  call_pure rfl fi80_eq rfl (fun st => c80 (⟨v_k, v_n, v_x, v_s, v_b⟩ : Val)  st) (by simp)
def fi76 : FI := { body := codeOf Try.f76, ntmps := 18, results := [.tmp 4], pers := [0, 1, 4], locals := [], pure := true, marks := [] }
theorem fi76_eq : gS.fn 76 = some fi76 := by kernel_rfl
theorem st76 (a0 a1 : V) : startFr fi76 [a0, a1] = { ps := [(0, .val a0), (1, .val a1), (4, .any)], ts := [], lc := [] } := rfl
def b76 : Code := mini (codeOf Try.f76)
def c76_2 : Code := .seq (codeN b76 5) .ret
theorem e76_2 : evK gS fi76 c76_2 fr st k = opsR gS fi76 [mv 5 0 9,
 len1 6 5 9 3,
 mv 7 1 9,
 len1 8 7 9 3,
 bop 9 .geq 3 6 8 3 4,
 mv 10 9 4,
 mk (some 11) (.move (.tmp 0)) 9 (some (5, true)),
 mk (some 12) (.move (.tmp 1)) 9 (some (5, true)),
 mk (some 13) (.call { callee := (.builtin .len), args := #[(.tmp 12)], argTypes := #[9] }) 3 (some (5, true)),
 mk (some 14) (.slice 9 (.tmp 11) none (some (.tmp 13)) none) 9 (some (5, true)),
 mk (some 15) (.move (.tmp 1)) 9 (some (5, true)),
 mk (some 16) (.binOp .eql 9 (.tmp 14) (.tmp 15) 9) 4 (some (5, true)),
 op1 17 (.pick (.tmp 10) (.tmp 16) (.const (.bool false))) 4,
 asn 4 17 4] fr st (.seq .ret k) := evK_rs 1 rfl (by kernel_rfl)
def c76_0 : Code := .seq (codeN b76 2) c76_2
theorem e76_0 : evK gS fi76 c76_0 fr st k = opsR gS fi76 [op1 4 (.assign (.const (.bool false))) 4] fr st (.seq c76_2 k) := evK_rs 0 rfl (by kernel_rfl)
theorem m76 : mini fi76.body = c76_0 := by kernel_rfl
set_option maxHeartbeats 4000000 in
theorem c76 (s : List UInt8) (t : List UInt8)  (st : St) : EvF gS 76 [.str s, .str t] st = some (.ret (.bool (isPre s t)) none, st) := by
  refine EvF_start fi76_eq (fun x h => by cases h) m76 ?_
  rw [st76]
  have hm : fi76.marks = [] := rfl
  have hl : fi76.locals = [] := rfl
  have hr : fi76.results = [.tmp 4] := rfl
  simp (config := { contextual := true, maxSteps := 10000000, maxDischargeDepth := 6 }) [-Int.not_le, -Int.not_lt, -Nat.not_le, -Nat.not_lt, ty3, ty4, ty9, hm, hl, hr, e76_2, e76_0]
  all_goals try simp (config := { contextual := true }) [-Int.not_le, -Int.not_lt, -Nat.not_le, -Nat.not_lt, isPre]
  all_goals first | done | grind | omega | (trace_state; fail)
theorem k76 (s : List UInt8) (t : List UInt8)  (fr : Fr) (st : St) : callStep gS (EvF gS) 76 [.str s, .str t] fr st = some (.ok (retE none (.bool (isPre s t))) fr st) :=
  call_pure rfl fi76_eq rfl (fun st => c76 s t  st) (by simp)
def fi78 : FI := { body := codeOf Try.f78, ntmps := 18, results := [.tmp 4], pers := [0, 1, 4], locals := [], pure := true, marks := [] }
theorem fi78_eq : gS.fn 78 = some fi78 := by kernel_rfl
theorem st78 (a0 a1 : V) : startFr fi78 [a0, a1] = { ps := [(0, .val a0), (1, .val a1), (4, .any)], ts := [], lc := [] } := rfl
def b78 : Code := mini (codeOf Try.f78)
def c78_2 : Code := .seq (codeN b78 5) .ret
theorem e78_2 : evK gS fi78 c78_2 fr st k = opsR gS fi78 [mv 5 0 9,
 len1 6 5 9 3,
 mv 7 1 9,
 len1 8 7 9 3,
 bop 9 .geq 3 6 8 3 4,
 mv 10 9 4,
 mk (some 11) (.move (.tmp 0)) 9 (some (5, true)),
 mk (some 12) (.move (.tmp 1)) 9 (some (5, true)),
 mk (some 13) (.call { callee := (.builtin .len), args := #[(.tmp 12)], argTypes := #[9] }) 3 (some (5, true)),
 mk (some 14) (.slice 9 (.tmp 11) none (some (.tmp 13)) none) 9 (some (5, true)),
 mk (some 15) (.move (.tmp 1)) 9 (some (5, true)),
 mk (some 16) (.binOp .eql 9 (.tmp 14) (.tmp 15) 9) 4 (some (5, true)),
 op1 17 (.pick (.tmp 10) (.tmp 16) (.const (.bool false))) 4,
 asn 4 17 4] fr st (.seq .ret k) := evK_rs 1 rfl (by kernel_rfl)
def c78_0 : Code := .seq (codeN b78 2) c78_2
theorem e78_0 : evK gS fi78 c78_0 fr st k = opsR gS fi78 [op1 4 (.assign (.const (.bool false))) 4] fr st (.seq c78_2 k) := evK_rs 0 rfl (by kernel_rfl)
theorem m78 : mini fi78.body = c78_0 := by kernel_rfl
set_option maxHeartbeats 4000000 in
theorem c78 (s : List UInt8) (t : List UInt8)  (st : St) : EvF gS 78 [.str s, .str t] st = some (.ret (.bool (isPre s t)) none, st) := by
  refine EvF_start fi78_eq (fun x h => by cases h) m78 ?_
  rw [st78]
  have hm : fi78.marks = [] := rfl
  have hl : fi78.locals = [] := rfl
  have hr : fi78.results = [.tmp 4] := rfl
  simp (config := { contextual := true, maxSteps := 10000000, maxDischargeDepth := 6 }) [-Int.not_le, -Int.not_lt, -Nat.not_le, -Nat.not_lt, ty3, ty4, ty9, hm, hl, hr, e78_2, e78_0]
  all_goals try simp (config := { contextual := true }) [-Int.not_le, -Int.not_lt, -Nat.not_le, -Nat.not_lt, isPre]
  all_goals first | done | grind | omega | (trace_state; fail)
theorem k78 (s : List UInt8) (t : List UInt8)  (fr : Fr) (st : St) : callStep gS (EvF gS) 78 [.str s, .str t] fr st = some (.ok (retE none (.bool (isPre s t))) fr st) :=
  call_pure rfl fi78_eq rfl (fun st => c78 s t  st) (by simp)
theorem x78 : gS.ext 78 = none := rfl
theorem p78 : fi78.pure = true := rfl
end
end Go.Proofs.Ytclpbfkbpcjejaa
namespace Go.Proofs.Ytclpbfkbpcjejaa
open Go Go.Ab
set_option linter.unusedVariables false
set_option linter.unusedSimpArgs false
set_option linter.unnecessarySimpa false
set_option maxRecDepth 20000
noncomputable section
variable (fr : Fr) (st : St) (k : Kt)
def fi68 : FI := { body := codeOf Try.f68, ntmps := 28, results := [.tmp 2], pers := [0, 2, 3], locals := [], pure := true, marks := [] }
theorem fi68_eq : gS.fn 68 = some fi68 := by kernel_rfl
theorem st68 (a0 : V) : startFr fi68 [a0] = { ps := [(0, .val a0), (2, .any), (3, .any)], ts := [], lc := [] } := rfl
def b68 : Code := mini (codeOf Try.f68)
def c68_10 : Code := .cond (.tmp 7) .skip (.exit 0)
def c68_8 : Code := .seq (codeN b68 133) c68_10
def c68_18 : Code := .seq (codeN b68 2341) .ret
def c68_17 : Code := .cond (.tmp 19) c68_18 .skip
def c68_15 : Code := .seq (codeN b68 549) c68_17
def c68_22 : Code := codeN b68 229
def c68_13 : Code := .seq (.block 1 c68_15) c68_22
def c68_7 : Code := .seq c68_8 c68_13
def c68_6 : Code := .loop c68_7
def c68_5 : Code := .block 0 c68_6
def c68_3 : Code := .seq (codeN b68 9) c68_5
def c68_23 : Code := .seq (codeN b68 11) .ret
def c68_2 : Code := .seq c68_3 c68_23
def c68_0 : Code := .seq (codeN b68 2) c68_2
theorem E68 : evK gS fi68 c68_10 fr st k = condK gS fi68 (fr.op (.tmp 7)).bool? .skip (.exit 0) fr st k ∧
 (evK gS fi68 c68_8 fr st k = opsR gS fi68 [mv 4 3 3,
 mv 5 0 9,
 len1 6 5 9 3,
 bop 7 .lss 3 4 6 3 4] fr st (.seq c68_10 k)) ∧
 evK gS fi68 c68_18 fr st k = opsR gS fi68 [op1 2 (.assign (.const (.bool false))) 4] fr st (.seq .ret k) ∧
 evK gS fi68 c68_17 fr st k = condK gS fi68 (fr.op (.tmp 19)).bool? c68_18 .skip fr st k ∧
 (evK gS fi68 c68_15 fr st k = opsR gS fi68 [mv 10 0 9,
 mv 11 3 3,
 op1 12 (.index 9 (.tmp 10) (.tmp 11)) 5,
 op1 13 (.binOp .lss 5 (.tmp 12) (.const (.int .u8 97)) 5) 4,
 mv 14 13 4,
 mk (some 15) (.move (.tmp 0)) 9 (some (4, false)),
 mk (some 16) (.move (.tmp 3)) 3 (some (4, false)),
 mk (some 17) (.index 9 (.tmp 15) (.tmp 16)) 5 (some (4, false)),
 mk (some 18) (.binOp .gtr 5 (.tmp 17) (.const (.int .u8 122)) 5) 4 (some (4, false)),
 op1 19 (.pick (.tmp 14) (.const (.bool true)) (.tmp 18)) 4] fr st (.seq c68_17 k)) ∧
 (evK gS fi68 c68_22 fr st k = opsR gS fi68 [mv 8 3 3,
 op1 9 (.binOp .add 3 (.tmp 8) (.const (.int .i64 1)) 3) 3,
 asn 3 9 3] fr st k) ∧
 evK gS fi68 c68_13 fr st k = evK gS fi68 c68_15 fr st (.blk 1 (.seq c68_22 k)) ∧
 evK gS fi68 c68_7 fr st k = evK gS fi68 c68_8 fr st (.seq c68_13 k) ∧
 evK gS fi68 c68_5 fr st k = evK gS fi68 c68_6 fr st (.blk 0 k) ∧
 evK gS fi68 c68_3 fr st k = opsR gS fi68 [op1 3 (.assign (.const (.int .i64 0))) 3] fr st (.seq c68_5 k) ∧
 (evK gS fi68 c68_23 fr st k = opsR gS fi68 [mv 20 0 9,
 len1 21 20 9 3,
 op1 22 (.binOp .geq 3 (.tmp 21) (.const (.int .i64 1)) 3) 4,
 mv 23 22 4,
 mk (some 24) (.move (.tmp 0)) 9 (some (3, true)),
 mk (some 25) (.call { callee := (.builtin .len), args := #[(.tmp 24)], argTypes := #[9] }) 3 (some (3, true)),
 mk (some 26) (.binOp .leq 3 (.tmp 25) (.const (.int .i64 6)) 3) 4 (some (3, true)),
 op1 27 (.pick (.tmp 23) (.tmp 26) (.const (.bool false))) 4,
 asn 2 27 4] fr st (.seq .ret k)) ∧
 evK gS fi68 c68_2 fr st k = evK gS fi68 c68_3 fr st (.seq c68_23 k) ∧
 evK gS fi68 c68_0 fr st k = opsR gS fi68 [op1 2 (.assign (.const (.bool false))) 4] fr st (.seq c68_2 k) := ⟨rfl, evK_rs 2 rfl (by kernel_rfl), evK_rs 5 rfl (by kernel_rfl), rfl, evK_rs 4 rfl (by kernel_rfl), evK_r 3 (by kernel_rfl), rfl, rfl, rfl, evK_rs 1 rfl (by kernel_rfl), evK_rs 6 rfl (by kernel_rfl), rfl, evK_rs 0 rfl (by kernel_rfl)⟩
theorem m68 : mini fi68.body = c68_0 := by kernel_rfl
theorem n68_6 (fr : Fr) (st : St) (k : Kt) : nextK gS fi68 (.loop c68_7 k) .normal fr st = evK gS fi68 c68_6 fr st k := rfl
set_option maxHeartbeats 4000000 in
theorem L68_6 (s : List UInt8) (h_s : s.length < 4611686018427387904) (st : St) : ∀ (n i : Nat) (j : Int)  (e2 : E) (T : List (Nat × E)) (X : List (Nat × List V)) (ht2 : e2.Tame) , j = (i : Int) → i ≤ (s).length → (s).length - i = n →
    evK gS fi68 c68_6 { ps := [(0, .val (.str s)), (2, e2), (3, .val (.int .i64 j))], ts := T, lc := X } st (.blk 0 (.seq c68_23 .nil)) = some ((.ret (.bool ((s.drop i).all (fun c => !decide (c.toNat < 97) && !decide (122 < c.toNat)) && (decide (1 ≤ s.length) && decide (s.length ≤ 6)))) none), st) := by
  intro n
  have hm : fi68.marks = [] := rfl
  have hl : fi68.locals = [] := rfl
  have hr : fi68.results = [.tmp 2] := rfl
  induction n with
  | zero =>
    intro i j  e2 T X ht2  hj hi hn
    obtain rfl : i = (s).length := by omega
    subst hj
    refine evK_loop c68_7 _ st _ _ rfl ?_
    simp (config := { contextual := true, maxSteps := 10000000, maxDischargeDepth := 6 }) [-Int.not_le, -Int.not_lt, -Nat.not_le, -Nat.not_lt, ty3, ty4, ty5, ty9, hm, hl, hr, E68, n68_6, ht2]
    all_goals first | done | grind | omega | (trace_state; fail)
  | succ n ih =>
    intro i j  e2 T X ht2  hj hi hn
    subst hj
    obtain ⟨x, hx⟩ : ∃ x, (s)[i]? = some x := ⟨(s)[i]'(by omega), List.getElem?_eq_getElem (by omega)⟩
    have hd := drop_get hx
    have hlt : (i : Int) < ((s).length : Int) := by omega
    have hlt2 : i < (s).length := by omega
    have hxe : (s)[i]'hlt2 = x := by rw [List.getElem?_eq_getElem hlt2] at hx; exact Option.some.inj hx
    have hw : IntKind.wrap .i64 ((i : Int) + 1) = (i : Int) + 1 := wrap64 (by omega) (by omega)
    have IH := fun e2 T X ht2 => ih (i + 1) ((i : Int) + 1) e2 T X ht2 rfl (by omega) (by omega)
    refine evK_loop c68_7 _ st _ _ rfl ?_
    simp (config := { contextual := true, maxSteps := 10000000, maxDischargeDepth := 6 }) [-Int.not_le, -Int.not_lt, -Nat.not_le, -Nat.not_lt, ty3, ty4, ty5, ty9, hm, hl, hr, E68, n68_6, ht2, hx, hxe, hd, hlt, hlt2, hw, IH]
    all_goals first | done | grind | omega | (trace_state; fail)
set_option maxHeartbeats 4000000 in
theorem c68 (s : List UInt8) (h_s : s.length < 4611686018427387904) (st : St) : EvF gS 68 [.str s] st = some (.ret (.bool (isWord s)) none, st) := by
  refine EvF_start fi68_eq (fun x h => by cases h) m68 ?_
  rw [st68]
  have hm : fi68.marks = [] := rfl
  have hl : fi68.locals = [] := rfl
  have hr : fi68.results = [.tmp 2] := rfl
  simp (config := { contextual := true, maxSteps := 10000000, maxDischargeDepth := 6 }) [-Int.not_le, -Int.not_lt, -Nat.not_le, -Nat.not_lt, ty3, ty4, ty5, ty9, hm, hl, hr, E68, n68_6, (fun e2 T X ht2 => L68_6 s h_s st _ 0 0  e2 T X ht2 rfl (Nat.zero_le _) rfl)]
  all_goals try simp (config := { contextual := true }) [-Int.not_le, -Int.not_lt, -Nat.not_le, -Nat.not_lt, isWord]
  all_goals first | done | grind | omega | (trace_state; fail)
theorem k68 (s : List UInt8) (h_s : s.length < 4611686018427387904) (fr : Fr) (st : St) : callStep gS (EvF gS) 68 [.str s] fr st = some (.ok (retE none (.bool (isWord s))) fr st) :=
  call_pure rfl fi68_eq rfl (fun st => c68 s h_s st) (by simp)
def fi72 : FI := { body := codeOf Try.f72, ntmps := 28, results := [.tmp 2], pers := [0, 2, 3], locals := [], pure := true, marks := [] }
theorem fi72_eq : gS.fn 72 = some fi72 := by kernel_rfl
theorem st72 (a0 : V) : startFr fi72 [a0] = { ps := [(0, .val a0), (2, .any), (3, .any)], ts := [], lc := [] } := rfl
def b72 : Code := mini (codeOf Try.f72)
def c72_10 : Code := .cond (.tmp 7) .skip (.exit 0)
def c72_8 : Code := .seq (codeN b72 133) c72_10
def c72_18 : Code := .seq (codeN b72 2341) .ret
def c72_17 : Code := .cond (.tmp 19) c72_18 .skip
def c72_15 : Code := .seq (codeN b72 549) c72_17
def c72_22 : Code := codeN b72 229
def c72_13 : Code := .seq (.block 1 c72_15) c72_22
def c72_7 : Code := .seq c72_8 c72_13
def c72_6 : Code := .loop c72_7
def c72_5 : Code := .block 0 c72_6
def c72_3 : Code := .seq (codeN b72 9) c72_5
def c72_23 : Code := .seq (codeN b72 11) .ret
def c72_2 : Code := .seq c72_3 c72_23
def c72_0 : Code := .seq (codeN b72 2) c72_2
theorem E72 : evK gS fi72 c72_10 fr st k = condK gS fi72 (fr.op (.tmp 7)).bool? .skip (.exit 0) fr st k ∧
 (evK gS fi72 c72_8 fr st k = opsR gS fi72 [mv 4 3 3,
 mv 5 0 9,
 len1 6 5 9 3,
 bop 7 .lss 3 4 6 3 4] fr st (.seq c72_10 k)) ∧
 evK gS fi72 c72_18 fr st k = opsR gS fi72 [op1 2 (.assign (.const (.bool false))) 4] fr st (.seq .ret k) ∧
 evK gS fi72 c72_17 fr st k = condK gS fi72 (fr.op (.tmp 19)).bool? c72_18 .skip fr st k ∧
 (evK gS fi72 c72_15 fr st k = opsR gS fi72 [mv 10 0 9,
 mv 11 3 3,
 op1 12 (.index 9 (.tmp 10) (.tmp 11)) 5,
 op1 13 (.binOp .lss 5 (.tmp 12) (.const (.int .u8 97)) 5) 4,
 mv 14 13 4,
 mk (some 15) (.move (.tmp 0)) 9 (some (4, false)),
 mk (some 16) (.move (.tmp 3)) 3 (some (4, false)),
 mk (some 17) (.index 9 (.tmp 15) (.tmp 16)) 5 (some (4, false)),
 mk (some 18) (.binOp .gtr 5 (.tmp 17) (.const (.int .u8 122)) 5) 4 (some (4, false)),
 op1 19 (.pick (.tmp 14) (.const (.bool true)) (.tmp 18)) 4] fr st (.seq c72_17 k)) ∧
 (evK gS fi72 c72_22 fr st k = opsR gS fi72 [mv 8 3 3,
 op1 9 (.binOp .add 3 (.tmp 8) (.const (.int .i64 1)) 3) 3,
 asn 3 9 3] fr st k) ∧
 evK gS fi72 c72_13 fr st k = evK gS fi72 c72_15 fr st (.blk 1 (.seq c72_22 k)) ∧
 evK gS fi72 c72_7 fr st k = evK gS fi72 c72_8 fr st (.seq c72_13 k) ∧
 evK gS fi72 c72_5 fr st k = evK gS fi72 c72_6 fr st (.blk 0 k) ∧
 evK gS fi72 c72_3 fr st k = opsR gS fi72 [op1 3 (.assign (.const (.int .i64 0))) 3] fr st (.seq c72_5 k) ∧
 (evK gS fi72 c72_23 fr st k = opsR gS fi72 [mv 20 0 9,
 len1 21 20 9 3,
 op1 22 (.binOp .geq 3 (.tmp 21) (.const (.int .i64 1)) 3) 4,
 mv 23 22 4,
 mk (some 24) (.move (.tmp 0)) 9 (some (3, true)),
 mk (some 25) (.call { callee := (.builtin .len), args := #[(.tmp 24)], argTypes := #[9] }) 3 (some (3, true)),
 mk (some 26) (.binOp .leq 3 (.tmp 25) (.const (.int .i64 6)) 3) 4 (some (3, true)),
 op1 27 (.pick (.tmp 23) (.tmp 26) (.const (.bool false))) 4,
 asn 2 27 4] fr st (.seq .ret k)) ∧
 evK gS fi72 c72_2 fr st k = evK gS fi72 c72_3 fr st (.seq c72_23 k) ∧
 evK gS fi72 c72_0 fr st k = opsR gS fi72 [op1 2 (.assign (.const (.bool false))) 4] fr st (.seq c72_2 k) := ⟨rfl, evK_rs 2 rfl (by kernel_rfl), evK_rs 5 rfl (by kernel_rfl), rfl, evK_rs 4 rfl (by kernel_rfl), evK_r 3 (by kernel_rfl), rfl, rfl, rfl, evK_rs 1 rfl (by kernel_rfl), evK_rs 6 rfl (by kernel_rfl), rfl, evK_rs 0 rfl (by kernel_rfl)⟩
theorem m72 : mini fi72.body = c72_0 := by kernel_rfl
theorem n72_6 (fr : Fr) (st : St) (k : Kt) : nextK gS fi72 (.loop c72_7 k) .normal fr st = evK gS fi72 c72_6 fr st k := rfl
set_option maxHeartbeats 4000000 in
theorem L72_6 (s : List UInt8) (h_s : s.length < 4611686018427387904) (st : St) : ∀ (n i : Nat) (j : Int)  (e2 : E) (T : List (Nat × E)) (X : List (Nat × List V)) (ht2 : e2.Tame) , j = (i : Int) → i ≤ (s).length → (s).length - i = n →
    evK gS fi72 c72_6 { ps := [(0, .val (.str s)), (2, e2), (3, .val (.int .i64 j))], ts := T, lc := X } st (.blk 0 (.seq c72_23 .nil)) = some ((.ret (.bool ((s.drop i).all (fun c => !decide (c.toNat < 97) && !decide (122 < c.toNat)) && (decide (1 ≤ s.length) && decide (s.length ≤ 6)))) none), st) := by
  intro n
  have hm : fi72.marks = [] := rfl
  have hl : fi72.locals = [] := rfl
  have hr : fi72.results = [.tmp 2] := rfl
  induction n with
  | zero =>
    intro i j  e2 T X ht2  hj hi hn
    obtain rfl : i = (s).length := by omega
    subst hj
    refine evK_loop c72_7 _ st _ _ rfl ?_
    simp (config := { contextual := true, maxSteps := 10000000, maxDischargeDepth := 6 }) [-Int.not_le, -Int.not_lt, -Nat.not_le, -Nat.not_lt, ty3, ty4, ty5, ty9, hm, hl, hr, E72, n72_6, ht2]
    all_goals first | done | grind | omega | (trace_state; fail)
  | succ n ih =>
    intro i j  e2 T X ht2  hj hi hn
    subst hj
    obtain ⟨x, hx⟩ : ∃ x, (s)[i]? = some x := ⟨(s)[i]'(by omega), List.getElem?_eq_getElem (by omega)⟩
    have hd := drop_get hx
    have hlt : (i : Int) < ((s).length : Int) := by omega
    have hlt2 : i < (s).length := by omega
    have hxe : (s)[i]'hlt2 = x := by rw [List.getElem?_eq_getElem hlt2] at hx; exact Option.some.inj hx
    have hw : IntKind.wrap .i64 ((i : Int) + 1) = (i : Int) + 1 := wrap64 (by omega) (by omega)
    have IH := fun e2 T X ht2 => ih (i + 1) ((i : Int) + 1) e2 T X ht2 rfl (by omega) (by omega)
    refine evK_loop c72_7 _ st _ _ rfl ?_
    simp (config := { contextual := true, maxSteps := 10000000, maxDischargeDepth := 6 }) [-Int.not_le, -Int.not_lt, -Nat.not_le, -Nat.not_lt, ty3, ty4, ty5, ty9, hm, hl, hr, E72, n72_6, ht2, hx, hxe, hd, hlt, hlt2, hw, IH]
    all_goals first | done | grind | omega | (trace_state; fail)
set_option maxHeartbeats 4000000 in
theorem c72 (s : List UInt8) (h_s : s.length < 4611686018427387904) (st : St) : EvF gS 72 [.str s] st = some (.ret (.bool (isWord s)) none, st) := by
  refine EvF_start fi72_eq (fun x h => by cases h) m72 ?_
  rw [st72]
  have hm : fi72.marks = [] := rfl
  have hl : fi72.locals = [] := rfl
  have hr : fi72.results = [.tmp 2] := rfl
  simp (config := { contextual := true, maxSteps := 10000000, maxDischargeDepth := 6 }) [-Int.not_le, -Int.not_lt, -Nat.not_le, -Nat.not_lt, ty3, ty4, ty5, ty9, hm, hl, hr, E72, n72_6, (fun e2 T X ht2 => L72_6 s h_s st _ 0 0  e2 T X ht2 rfl (Nat.zero_le _) rfl)]
  all_goals try simp (config := { contextual := true }) [-Int.not_le, -Int.not_lt, -Nat.not_le, -Nat.not_lt, isWord]
  all_goals first | done | grind | omega | (trace_state; fail)
theorem k72 (s : List UInt8) (h_s : s.length < 4611686018427387904) (fr : Fr) (st : St) : callStep gS (EvF gS) 72 [.str s] fr st = some (.ok (retE none (.bool (isWord s))) fr st) :=
  call_pure rfl fi72_eq rfl (fun st => c72 s h_s st) (by simp)
def fi71 : FI := { body := codeOf Try.f71, ntmps := 15, results := [.tmp 2], pers := [0, 2, 4, 5, 6, 7], locals := [4], pure := true, marks := [] }
theorem fi71_eq : gS.fn 71 = some fi71 := by kernel_rfl
theorem st71 (a0 : V) : startFr fi71 [a0] = { ps := [(0, .val a0), (2, .any), (4, .any), (5, .any), (6, .any), (7, .any)], ts := [], lc := [] } := rfl
def b71 : Code := mini (codeOf Try.f71)
def c71_20 : Code := .seq (codeN b71 9829) .ret
def c71_19 : Code := .cond (.tmp 13) c71_20 .skip
def c71_17 : Code := .seq (codeN b71 2661) c71_19
def c71_15 : Code := .seq (codeN b71 1125) c71_17
def c71_24 : Code := codeN b71 485
def c71_13 : Code := .seq (.block 1 c71_15) c71_24
def c71_9 : Code := .seq (.cond (.tmp 8) .skip (.exit 0)) c71_13
def c71_7 : Code := .seq (codeN b71 69) c71_9
def c71_6 : Code := .loop c71_7
def c71_5 : Code := .block 0 c71_6
def c71_3 : Code := .seq (codeN b71 9) c71_5
def c71_25 : Code := .seq (codeN b71 11) .ret
def c71_2 : Code := .seq c71_3 c71_25
def c71_0 : Code := .seq (codeN b71 2) c71_2
theorem E71 : evK gS fi71 c71_20 fr st k = opsR gS fi71 [op1 2 (.assign (.const (.bool false))) 4] fr st (.seq .ret k) ∧
 evK gS fi71 c71_19 fr st k = condK gS fi71 (fr.op (.tmp 13)).bool? c71_20 .skip fr st k ∧
 (evK gS fi71 c71_17 fr st k = opsR gS fi71 [ld 11 24 4 24,
 cal 12 70 [(.tmp 11)] [24] 4,
 op1 13 (.unOp .not 4 (.tmp 12)) 4] fr st (.seq c71_19 k)) ∧
 (evK gS fi71 c71_15 fr st k = opsR gS fi71 [ixa 9 25 5 7 0,
 ld 10 24 9 24,
 op1 4 (.alloc 24) 0,
 sto 24 4 10] fr st (.seq c71_17 k)) ∧
 (evK gS fi71 c71_24 fr st k = opsR gS fi71 [op1 14 (.binOp .add 3 (.tmp 7) (.const (.int .i64 1)) 3) 3,
 mv 7 14 3] fr st k) ∧
 evK gS fi71 c71_13 fr st k = evK gS fi71 c71_15 fr st (.blk 1 (.seq c71_24 k)) ∧
 evK gS fi71 c71_9 fr st k = condK gS fi71 (fr.op (.tmp 8)).bool? .skip (.exit 0) fr st (.seq c71_13 k) ∧
 evK gS fi71 c71_7 fr st k = opsR gS fi71 [bop 8 .lss 3 7 6 3 0] fr st (.seq c71_9 k) ∧
 evK gS fi71 c71_5 fr st k = evK gS fi71 c71_6 fr st (.blk 0 k) ∧
 (evK gS fi71 c71_3 fr st k = opsR gS fi71 [mv 5 0 25,
 len1 6 5 25 3,
 op1 7 (.move (.const (.int .i64 0))) 3] fr st (.seq c71_5 k)) ∧
 evK gS fi71 c71_25 fr st k = opsR gS fi71 [op1 2 (.assign (.const (.bool true))) 4] fr st (.seq .ret k) ∧
 evK gS fi71 c71_2 fr st k = evK gS fi71 c71_3 fr st (.seq c71_25 k) ∧
 evK gS fi71 c71_0 fr st k = opsR gS fi71 [op1 2 (.assign (.const (.bool false))) 4] fr st (.seq c71_2 k) := ⟨evK_rs 5 rfl (by kernel_rfl), rfl, evK_rs 4 rfl (by kernel_rfl), evK_rs 3 rfl (by kernel_rfl), evK_r 6 (by kernel_rfl), rfl, rfl, evK_rs 2 rfl (by kernel_rfl), rfl, evK_rs 1 rfl (by kernel_rfl), evK_rs 7 rfl (by kernel_rfl), rfl, evK_rs 0 rfl (by kernel_rfl)⟩
theorem m71 : mini fi71.body = c71_0 := by kernel_rfl
theorem n71_6 (fr : Fr) (st : St) (k : Kt) : nextK gS fi71 (.loop c71_7 k) .normal fr st = evK gS fi71 c71_6 fr st k := rfl
set_option maxHeartbeats 4000000 in
theorem L71_6 (l : List Val) (h_l : l.length < 4611686018427387904) (st : St) : ∀ (n i : Nat) (j : Int)  (e0 e2 e4 : E) (T : List (Nat × E)) (X : List (Nat × List V)) (ht0 : e0.Tame) (ht2 : e2.Tame) (ht4 : e4.Tame) , j = (i : Int) → i ≤ (l).length → (l).length - i = n →
    evK gS fi71 c71_6 { ps := [(0, e0), (2, e2), (4, e4), (5, .val (.slice (encVals l))), (6, .val (.int .i64 l.length)), (7, .val (.int .i64 j))], ts := T, lc := X } st (.blk 0 (.seq c71_25 .nil)) = some ((.ret (.bool ((l.drop i).all vright)) none), st) := by
  intro n
  have hm : fi71.marks = [] := rfl
  have hl : fi71.locals = [4] := rfl
  have hr : fi71.results = [.tmp 2] := rfl
  induction n with
  | zero =>
    intro i j  e0 e2 e4 T X ht0 ht2 ht4  hj hi hn
    obtain rfl : i = (l).length := by omega
    subst hj
    refine evK_loop c71_7 _ st _ _ rfl ?_
    simp (config := { contextual := true, maxSteps := 10000000, maxDischargeDepth := 6 }) [-Int.not_le, -Int.not_lt, -Nat.not_le, -Nat.not_lt, ty3, ty4, ty24, ty25, eq24, hm, hl, hr, k70, E71, n71_6, ht0, ht2, ht4]
    all_goals first | done | grind | omega | (trace_state; fail)
  | succ n ih =>
    intro i j  e0 e2 e4 T X ht0 ht2 ht4  hj hi hn
    subst hj
    obtain ⟨x, hx⟩ : ∃ x, (l)[i]? = some x := ⟨(l)[i]'(by omega), List.getElem?_eq_getElem (by omega)⟩
    have hd := drop_get hx
    have hlt : (i : Int) < ((l).length : Int) := by omega
    have hlt2 : i < (l).length := by omega
    have hxe : (l)[i]'hlt2 = x := by rw [List.getElem?_eq_getElem hlt2] at hx; exact Option.some.inj hx
    have hw : IntKind.wrap .i64 ((i : Int) + 1) = (i : Int) + 1 := wrap64 (by omega) (by omega)
    have IH := fun e0 e2 e4 T X ht0 ht2 ht4 => ih (i + 1) ((i : Int) + 1) e0 e2 e4 T X ht0 ht2 ht4 rfl (by omega) (by omega)
    refine evK_loop c71_7 _ st _ _ rfl ?_
    simp (config := { contextual := true, maxSteps := 10000000, maxDischargeDepth := 6 }) [-Int.not_le, -Int.not_lt, -Nat.not_le, -Nat.not_lt, ty3, ty4, ty24, ty25, eq24, hm, hl, hr, k70, E71, n71_6, ht0, ht2, ht4, hx, hxe, hd, hlt, hlt2, hw, IH]
    all_goals first | done | grind | omega | (trace_state; fail)
set_option maxHeartbeats 4000000 in
theorem c71 (l : List Val) (h_l : l.length < 4611686018427387904) (st : St) : EvF gS 71 [.slice (encVals l)] st = some (.ret (.bool (l.all vright)) none, st) := by
  refine EvF_start fi71_eq (fun x h => by cases h) m71 ?_
  rw [st71]
  have hm : fi71.marks = [] := rfl
  have hl : fi71.locals = [4] := rfl
  have hr : fi71.results = [.tmp 2] := rfl
  simp (config := { contextual := true, maxSteps := 10000000, maxDischargeDepth := 6 }) [-Int.not_le, -Int.not_lt, -Nat.not_le, -Nat.not_lt, ty3, ty4, ty24, ty25, eq24, hm, hl, hr, k70, E71, n71_6, (fun e0 e2 e4 T X ht0 ht2 ht4 => L71_6 l h_l st _ 0 0  e0 e2 e4 T X ht0 ht2 ht4 rfl (Nat.zero_le _) rfl)]
  all_goals first | done | grind | omega | (trace_state; fail)
theorem k71 (l : List Val) (h_l : l.length < 4611686018427387904) (fr : Fr) (st : St) : callStep gS (EvF gS) 71 [.slice (encVals l)] fr st = some (.ok (retE none (.bool (l.all vright))) fr st) :=
  call_pure rfl fi71_eq rfl (fun st => c71 l h_l st) (by simp)
end
end Go.Proofs.Ytclpbfkbpcjejaa
namespace Go.Proofs.Ytclpbfkbpcjejaa
open Go Go.Ab
set_option linter.unusedVariables false
set_option linter.unusedSimpArgs false
set_option linter.unnecessarySimpa false
set_option maxRecDepth 20000
noncomputable section
variable (fr : Fr) (st : St) (k : Kt)
def fi19 : FI := { body := codeOf Try.f19, ntmps := 111, results := [.tmp 2], pers := [0, 1, 2, 8, 25], locals := [1], pure := true, marks := [] }
theorem fi19_eq : gS.fn 19 = some fi19 := by kernel_rfl
theorem st19 (a0 : V) : startFr fi19 [a0] = { ps := [(0, .val a0), (1, .any), (2, .any), (8, .any), (25, .any)], ts := [], lc := [] } := rfl
def b19 : Code := mini (codeOf Try.f19)
def c19_6 : Code := .seq (codeN b19 37) .ret
def c19_5 : Code := .cond (.tmp 6) c19_6 .skip
def c19_3 : Code := .seq (codeN b19 9) c19_5
def c19_17 : Code := .seq (codeN b19 299) .ret
def c19_41 : Code := codeN b19 524139
def c19_39 : Code := .cond (.tmp 25) .skip c19_41
def c19_37 : Code := .seq (codeN b19 196459) c19_39
def c19_35 : Code := .cond (.tmp 25) .skip c19_37
def c19_33 : Code := .seq (codeN b19 49003) c19_35
def c19_31 : Code := .cond (.tmp 25) .skip c19_33
def c19_29 : Code := .seq (codeN b19 12139) c19_31
def c19_27 : Code := .cond (.tmp 25) .skip c19_29
def c19_25 : Code := .seq (codeN b19 2923) c19_27
def c19_23 : Code := .cond (.tmp 25) .skip c19_25
def c19_21 : Code := .seq (codeN b19 619) c19_23
def c19_43 : Code := .seq (codeN b19 1259) .ret
def c19_49 : Code := .seq (codeN b19 5099) .ret
def c19_55 : Code := .seq (codeN b19 20459) .ret
def c19_61 : Code := .seq (codeN b19 81899) .ret
def c19_60 : Code := .cond (.tmp 84) c19_61 .skip
def c19_58 : Code := .seq (codeN b19 24555) c19_60
def c19_54 : Code := .cond (.tmp 62) c19_55 c19_58
def c19_52 : Code := .seq (codeN b19 6123) c19_54
def c19_48 : Code := .cond (.tmp 46) c19_49 c19_52
def c19_46 : Code := .seq (codeN b19 1515) c19_48
def c19_42 : Code := .cond (.tmp 25) c19_43 c19_46
def c19_20 : Code := .seq c19_21 c19_42
def c19_16 : Code := .cond (.tmp 9) c19_17 c19_20
def c19_14 : Code := .seq (codeN b19 75) c19_16
def c19_13 : Code := .block 0 c19_14
def c19_11 : Code := .seq (codeN b19 19) c19_13
def c19_65 : Code := .seq (codeN b19 23) .ret
def c19_10 : Code := .seq c19_11 c19_65
def c19_2 : Code := .seq c19_3 c19_10
def c19_0 : Code := .seq (codeN b19 2) c19_2
theorem E19 : evK gS fi19 c19_6 fr st k = opsR gS fi19 [op1 2 (.assign (.const (.bool false))) 4] fr st (.seq .ret k) ∧
 evK gS fi19 c19_5 fr st k = condK gS fi19 (fr.op (.tmp 6)).bool? c19_6 .skip fr st k ∧
 (evK gS fi19 c19_3 fr st k = opsR gS fi19 [op1 3 (.fieldAddr 27 (.tmp 1) 0) 0,
 ld 4 9 3 9,
 cal 5 68 [(.tmp 4)] [9] 4,
 op1 6 (.unOp .not 4 (.tmp 5)) 4] fr st (.seq c19_5 k)) ∧
 (evK gS fi19 c19_17 fr st k = opsR gS fi19 [op1 11 (.fieldAddr 27 (.tmp 1) 2) 0,
 ld 12 24 11 24,
 cal 13 69 [(.tmp 12)] [24] 4,
 mv 14 13 4,
 mk (some 15) (.fieldAddr 27 (.tmp 1) 3) 0 (some (3, true)),
 mk (some 16) (.load 24 (.tmp 15)) 24 (some (3, true)),
 mk (some 17) (.call { callee := (.value (.func 69)), args := #[(.tmp 16)], argTypes := #[24] }) 4 (some (3, true)),
 op1 18 (.pick (.tmp 14) (.tmp 17) (.const (.bool false))) 4,
 mv 19 18 4,
 mk (some 20) (.fieldAddr 27 (.tmp 1) 4) 0 (some (8, true)),
 mk (some 21) (.load 25 (.tmp 20)) 25 (some (8, true)),
 mk (some 22) (.call { callee := (.builtin .len), args := #[(.tmp 21)], argTypes := #[25] }) 3 (some (8, true)),
 mk (some 23) (.binOp .eql 3 (.tmp 22) (.const (.int .i64 0)) 3) 4 (some (8, true)),
 op1 24 (.pick (.tmp 19) (.tmp 23) (.const (.bool false))) 4,
 asn 2 24 4] fr st (.seq .ret k)) ∧
 (evK gS fi19 c19_41 fr st k = opsR gS fi19 [op1 31 (.binOp .eql 3 (.tmp 8) (.const (.int .i64 7)) 3) 4,
 asn 25 31 4] fr st k) ∧
 evK gS fi19 c19_39 fr st k = condK gS fi19 (fr.op (.tmp 25)).bool? .skip c19_41 fr st k ∧
 (evK gS fi19 c19_37 fr st k = opsR gS fi19 [op1 30 (.binOp .eql 3 (.tmp 8) (.const (.int .i64 6)) 3) 4,
 asn 25 30 4] fr st (.seq c19_39 k)) ∧
 evK gS fi19 c19_35 fr st k = condK gS fi19 (fr.op (.tmp 25)).bool? .skip c19_37 fr st k ∧
 (evK gS fi19 c19_33 fr st k = opsR gS fi19 [op1 29 (.binOp .eql 3 (.tmp 8) (.const (.int .i64 5)) 3) 4,
 asn 25 29 4] fr st (.seq c19_35 k)) ∧
 evK gS fi19 c19_31 fr st k = condK gS fi19 (fr.op (.tmp 25)).bool? .skip c19_33 fr st k ∧
 (evK gS fi19 c19_29 fr st k = opsR gS fi19 [op1 28 (.binOp .eql 3 (.tmp 8) (.const (.int .i64 4)) 3) 4,
 asn 25 28 4] fr st (.seq c19_31 k)) ∧
 evK gS fi19 c19_27 fr st k = condK gS fi19 (fr.op (.tmp 25)).bool? .skip c19_29 fr st k ∧
 (evK gS fi19 c19_25 fr st k = opsR gS fi19 [op1 27 (.binOp .eql 3 (.tmp 8) (.const (.int .i64 3)) 3) 4,
 asn 25 27 4] fr st (.seq c19_27 k)) ∧
 evK gS fi19 c19_23 fr st k = condK gS fi19 (fr.op (.tmp 25)).bool? .skip c19_25 fr st k ∧
 (evK gS fi19 c19_21 fr st k = opsR gS fi19 [op1 26 (.binOp .eql 3 (.tmp 8) (.const (.int .i64 2)) 3) 4,
 asn 25 26 4] fr st (.seq c19_23 k)) ∧
 (evK gS fi19 c19_43 fr st k = opsR gS fi19 [op1 32 (.fieldAddr 27 (.tmp 1) 2) 0,
 ld 33 24 32 24,
 cal 34 70 [(.tmp 33)] [24] 4,
 mv 35 34 4,
 mk (some 36) (.fieldAddr 27 (.tmp 1) 3) 0 (some (3, true)),
 mk (some 37) (.load 24 (.tmp 36)) 24 (some (3, true)),
 mk (some 38) (.call { callee := (.value (.func 69)), args := #[(.tmp 37)], argTypes := #[24] }) 4 (some (3, true)),
 op1 39 (.pick (.tmp 35) (.tmp 38) (.const (.bool false))) 4,
 mv 40 39 4,
 mk (some 41) (.fieldAddr 27 (.tmp 1) 4) 0 (some (8, true)),
 mk (some 42) (.load 25 (.tmp 41)) 25 (some (8, true)),
 mk (some 43) (.call { callee := (.builtin .len), args := #[(.tmp 42)], argTypes := #[25] }) 3 (some (8, true)),
 mk (some 44) (.binOp .eql 3 (.tmp 43) (.const (.int .i64 0)) 3) 4 (some (8, true)),
 op1 45 (.pick (.tmp 40) (.tmp 44) (.const (.bool false))) 4,
 asn 2 45 4] fr st (.seq .ret k)) ∧
 (evK gS fi19 c19_49 fr st k = opsR gS fi19 [op1 48 (.fieldAddr 27 (.tmp 1) 2) 0,
 ld 49 24 48 24,
 cal 50 70 [(.tmp 49)] [24] 4,
 mv 51 50 4,
 mk (some 52) (.fieldAddr 27 (.tmp 1) 3) 0 (some (3, true)),
 mk (some 53) (.load 24 (.tmp 52)) 24 (some (3, true)),
 mk (some 54) (.call { callee := (.value (.func 70)), args := #[(.tmp 53)], argTypes := #[24] }) 4 (some (3, true)),
 op1 55 (.pick (.tmp 51) (.tmp 54) (.const (.bool false))) 4,
 mv 56 55 4,
 mk (some 57) (.fieldAddr 27 (.tmp 1) 4) 0 (some (8, true)),
 mk (some 58) (.load 25 (.tmp 57)) 25 (some (8, true)),
 mk (some 59) (.call { callee := (.builtin .len), args := #[(.tmp 58)], argTypes := #[25] }) 3 (some (8, true)),
 mk (some 60) (.binOp .eql 3 (.tmp 59) (.const (.int .i64 0)) 3) 4 (some (8, true)),
 op1 61 (.pick (.tmp 56) (.tmp 60) (.const (.bool false))) 4,
 asn 2 61 4] fr st (.seq .ret k)) ∧
 (evK gS fi19 c19_55 fr st k = opsR gS fi19 [op1 64 (.fieldAddr 27 (.tmp 1) 2) 0,
 ld 65 24 64 24,
 cal 66 70 [(.tmp 65)] [24] 4,
 mv 67 66 4,
 mk (some 68) (.fieldAddr 27 (.tmp 1) 2) 0 (some (3, true)),
 mk (some 69) (.fieldAddr 24 (.tmp 68) 0) 0 (some (3, true)),
 mk (some 70) (.load 3 (.tmp 69)) 3 (some (3, true)),
 mk (some 71) (.binOp .eql 3 (.tmp 70) (.const (.int .i64 3)) 3) 4 (some (3, true)),
 op1 72 (.pick (.tmp 67) (.tmp 71) (.const (.bool false))) 4,
 mv 73 72 4,
 mk (some 74) (.fieldAddr 27 (.tmp 1) 3) 0 (some (9, true)),
 mk (some 75) (.load 24 (.tmp 74)) 24 (some (9, true)),
 mk (some 76) (.call { callee := (.value (.func 69)), args := #[(.tmp 75)], argTypes := #[24] }) 4 (some (9, true)),
 op1 77 (.pick (.tmp 73) (.tmp 76) (.const (.bool false))) 4,
 mv 78 77 4,
 mk (some 79) (.fieldAddr 27 (.tmp 1) 4) 0 (some (14, true)),
 mk (some 80) (.load 25 (.tmp 79)) 25 (some (14, true)),
 mk (some 81) (.call { callee := (.builtin .len), args := #[(.tmp 80)], argTypes := #[25] }) 3 (some (14, true)),
 mk (some 82) (.binOp .eql 3 (.tmp 81) (.const (.int .i64 0)) 3) 4 (some (14, true)),
 op1 83 (.pick (.tmp 78) (.tmp 82) (.const (.bool false))) 4,
 asn 2 83 4] fr st (.seq .ret k)) ∧
 (evK gS fi19 c19_61 fr st k = opsR gS fi19 [op1 86 (.fieldAddr 27 (.tmp 1) 2) 0,
 ld 87 24 86 24,
 cal 88 69 [(.tmp 87)] [24] 4,
 mv 89 88 4,
 mk (some 90) (.fieldAddr 27 (.tmp 1) 3) 0 (some (3, true)),
 mk (some 91) (.load 24 (.tmp 90)) 24 (some (3, true)),
 mk (some 92) (.call { callee := (.value (.func 69)), args := #[(.tmp 91)], argTypes := #[24] }) 4 (some (3, true)),
 op1 93 (.pick (.tmp 89) (.tmp 92) (.const (.bool false))) 4,
 mv 94 93 4,
 mk (some 95) (.fieldAddr 27 (.tmp 1) 4) 0 (some (8, true)),
 mk (some 96) (.load 25 (.tmp 95)) 25 (some (8, true)),
 mk (some 97) (.call { callee := (.builtin .len), args := #[(.tmp 96)], argTypes := #[25] }) 3 (some (8, true)),
 mk (some 98) (.binOp .geq 3 (.tmp 97) (.const (.int .i64 1)) 3) 4 (some (8, true)),
 op1 99 (.pick (.tmp 94) (.tmp 98) (.const (.bool false))) 4,
 mv 100 99 4,
 mk (some 101) (.fieldAddr 27 (.tmp 1) 4) 0 (some (14, true)),
 mk (some 102) (.load 25 (.tmp 101)) 25 (some (14, true)),
 mk (some 103) (.call { callee := (.builtin .len), args := #[(.tmp 102)], argTypes := #[25] }) 3 (some (14, true)),
 mk (some 104) (.binOp .leq 3 (.tmp 103) (.const (.int .i64 4)) 3) 4 (some (14, true)),
 op1 105 (.pick (.tmp 100) (.tmp 104) (.const (.bool false))) 4,
 mv 106 105 4,
 mk (some 107) (.fieldAddr 27 (.tmp 1) 4) 0 (some (20, true)),
 mk (some 108) (.load 25 (.tmp 107)) 25 (some (20, true)),
 mk (some 109) (.call { callee := (.value (.func 71)), args := #[(.tmp 108)], argTypes := #[25] }) 4 (some (20, true)),
 op1 110 (.pick (.tmp 106) (.tmp 109) (.const (.bool false))) 4,
 asn 2 110 4] fr st (.seq .ret k)) ∧
 evK gS fi19 c19_60 fr st k = condK gS fi19 (fr.op (.tmp 84)).bool? c19_61 .skip fr st k ∧
 (evK gS fi19 c19_58 fr st k = opsR gS fi19 [op1 85 (.binOp .eql 3 (.tmp 8) (.const (.int .i64 10)) 3) 4,
 asn 84 85 4] fr st (.seq c19_60 k)) ∧
 evK gS fi19 c19_54 fr st k = condK gS fi19 (fr.op (.tmp 62)).bool? c19_55 c19_58 fr st k ∧
 (evK gS fi19 c19_52 fr st k = opsR gS fi19 [op1 63 (.binOp .eql 3 (.tmp 8) (.const (.int .i64 9)) 3) 4,
 asn 62 63 4] fr st (.seq c19_54 k)) ∧
 evK gS fi19 c19_48 fr st k = condK gS fi19 (fr.op (.tmp 46)).bool? c19_49 c19_52 fr st k ∧
 (evK gS fi19 c19_46 fr st k = opsR gS fi19 [op1 47 (.binOp .eql 3 (.tmp 8) (.const (.int .i64 8)) 3) 4,
 asn 46 47 4] fr st (.seq c19_48 k)) ∧
 evK gS fi19 c19_42 fr st k = condK gS fi19 (fr.op (.tmp 25)).bool? c19_43 c19_46 fr st k ∧
 evK gS fi19 c19_20 fr st k = evK gS fi19 c19_21 fr st (.seq c19_42 k) ∧
 evK gS fi19 c19_16 fr st k = condK gS fi19 (fr.op (.tmp 9)).bool? c19_17 c19_20 fr st k ∧
 (evK gS fi19 c19_14 fr st k = opsR gS fi19 [op1 10 (.binOp .eql 3 (.tmp 8) (.const (.int .i64 1)) 3) 4,
 asn 9 10 4] fr st (.seq c19_16 k)) ∧
 evK gS fi19 c19_13 fr st k = evK gS fi19 c19_14 fr st (.blk 0 k) ∧
 (evK gS fi19 c19_11 fr st k = opsR gS fi19 [op1 7 (.fieldAddr 27 (.tmp 1) 1) 0,
 ld 8 3 7 3] fr st (.seq c19_13 k)) ∧
 evK gS fi19 c19_65 fr st k = opsR gS fi19 [op1 2 (.assign (.const (.bool false))) 4] fr st (.seq .ret k) ∧
 evK gS fi19 c19_10 fr st k = evK gS fi19 c19_11 fr st (.seq c19_65 k) ∧
 evK gS fi19 c19_2 fr st k = evK gS fi19 c19_3 fr st (.seq c19_10 k) ∧
 (evK gS fi19 c19_0 fr st k = opsR gS fi19 [op1 1 (.box 27 (.tmp 0)) 0,
 op1 2 (.assign (.const (.bool false))) 4] fr st (.seq c19_2 k)) := ⟨evK_rs 2 rfl (by kernel_rfl), rfl, evK_rs 1 rfl (by kernel_rfl), evK_rs 5 rfl (by kernel_rfl), evK_r 11 (by kernel_rfl), rfl, evK_rs 10 rfl (by kernel_rfl), rfl, evK_rs 9 rfl (by kernel_rfl), rfl, evK_rs 8 rfl (by kernel_rfl), rfl, evK_rs 7 rfl (by kernel_rfl), rfl, evK_rs 6 rfl (by kernel_rfl), evK_rs 12 rfl (by kernel_rfl), evK_rs 14 rfl (by kernel_rfl), evK_rs 16 rfl (by kernel_rfl), evK_rs 18 rfl (by kernel_rfl), rfl, evK_rs 17 rfl (by kernel_rfl), rfl, evK_rs 15 rfl (by kernel_rfl), rfl, evK_rs 13 rfl (by kernel_rfl), rfl, rfl, rfl, evK_rs 4 rfl (by kernel_rfl), rfl, evK_rs 3 rfl (by kernel_rfl), evK_rs 19 rfl (by kernel_rfl), rfl, rfl, evK_rs 0 rfl (by kernel_rfl)⟩
theorem m19 : mini fi19.body = c19_0 := by kernel_rfl
set_option maxHeartbeats 4000000 in
theorem c19 (p : Pred)  (h_p : Pred.ok p) (st : St) : EvF gS 19 [p.enc] st = some (.ret (.bool (pright p)) none, st) := by
  refine EvF_start fi19_eq (fun x h => by cases h) m19 ?_
  rw [st19]
  have hm : fi19.marks = [] := rfl
  have hl : fi19.locals = [1] := rfl
  have hr : fi19.results = [.tmp 2] := rfl
  simp (config := { contextual := true, maxSteps := 10000000, maxDischargeDepth := 6 }) [-Int.not_le, -Int.not_lt, -Nat.not_le, -Nat.not_lt, ty3, ty4, ty9, ty24, ty25, ty27, eq24, hm, hl, hr, k68, k69, k70, k71, E19, h_p.1, h_p.2]
  all_goals try simp (config := { contextual := true }) [-Int.not_le, -Int.not_lt, -Nat.not_le, -Nat.not_lt, pright]
  all_goals first | done | grind | omega | (trace_state; fail)
theorem k19 (p_name : List UInt8) (p_test : Int) (p_vk : Int) (p_vn : Int) (p_vx : Nat) (p_vs : List UInt8) (p_vb : Bool) (p_wk : Int) (p_wn : Int) (p_wx : Nat) (p_ws : List UInt8) (p_wb : Bool) (p_set : List Val)  (h_p : Pred.ok (⟨p_name, p_test, ⟨p_vk, p_vn, p_vx, p_vs, p_vb⟩, ⟨p_wk, p_wn, p_wx, p_ws, p_wb⟩, p_set⟩ : Pred)) (fr : Fr) (st : St) : callStep gS (EvF gS) 19 [.agg [.str p_name, .int .i64 p_test, .int .i64 p_vk, .int .i64 p_vn, .float .f64 p_vx, .str p_vs, .bool p_vb, .int .i64 p_wk, .int .i64 p_wn, .float .f64 p_wx, .str p_ws, .bool p_wb, .slice (encVals p_set)]] fr st = some (.ok (retE none (.bool (pright (⟨p_name, p_test, ⟨p_vk, p_vn, p_vx, p_vs, p_vb⟩, ⟨p_wk, p_wn, p_wx, p_ws, p_wb⟩, p_set⟩ : Pred)))) fr st) :=
  call_pure rfl fi19_eq rfl (fun st => c19 (⟨p_name, p_test, ⟨p_vk, p_vn, p_vx, p_vs, p_vb⟩, ⟨p_wk, p_wn, p_wx, p_ws, p_wb⟩, p_set⟩ : Pred) h_p st) (by simp)
theorem x19 : gS.ext 19 = none := rfl
theorem p19 : fi19.pure = true := rfl
def fi20 : FI := { body := codeOf Try.f20, ntmps := 121, results := [.tmp 2], pers := [0, 1, 2, 3, 9, 26], locals := [1], pure := true, marks := [] }
theorem fi20_eq : gS.fn 20 = some fi20 := by kernel_rfl
theorem st20 (a0 : V) : startFr fi20 [a0] = { ps := [(0, .val a0), (1, .any), (2, .any), (3, .any), (9, .any), (26, .any)], ts := [], lc := [] } := rfl
def b20 : Code := mini (codeOf Try.f20)
def c20_6 : Code := .seq (codeN b20 37) .ret
def c20_5 : Code := .cond (.tmp 7) c20_6 .skip
def c20_3 : Code := .seq (codeN b20 9) c20_5
def c20_17 : Code := .seq (codeN b20 299) .ret
def c20_41 : Code := codeN b20 524139
def c20_39 : Code := .cond (.tmp 26) .skip c20_41
def c20_37 : Code := .seq (codeN b20 196459) c20_39
def c20_35 : Code := .cond (.tmp 26) .skip c20_37
def c20_33 : Code := .seq (codeN b20 49003) c20_35
def c20_31 : Code := .cond (.tmp 26) .skip c20_33
def c20_29 : Code := .seq (codeN b20 12139) c20_31
def c20_27 : Code := .cond (.tmp 26) .skip c20_29
def c20_25 : Code := .seq (codeN b20 2923) c20_27
def c20_23 : Code := .cond (.tmp 26) .skip c20_25
def c20_21 : Code := .seq (codeN b20 619) c20_23
def c20_43 : Code := .seq (codeN b20 1259) .ret
def c20_49 : Code := .seq (codeN b20 5099) .ret
def c20_55 : Code := .seq (codeN b20 20459) .ret
def c20_69 : Code := .cond (.tmp 91) .skip (.exit 1)
def c20_67 : Code := .seq (codeN b20 2179051) c20_69
def c20_77 : Code := .seq (codeN b20 38354923) .ret
def c20_76 : Code := .cond (.tmp 100) c20_77 .skip
def c20_74 : Code := .seq (codeN b20 8994795) c20_76
def c20_81 : Code := codeN b20 3751915
def c20_72 : Code := .seq (.block 2 c20_74) c20_81
def c20_66 : Code := .seq c20_67 c20_72
def c20_65 : Code := .loop c20_66
def c20_64 : Code := .block 1 c20_65
def c20_62 : Code := .seq (codeN b20 147435) c20_64
def c20_82 : Code := .seq (codeN b20 180203) .ret
def c20_61 : Code := .seq c20_62 c20_82
def c20_60 : Code := .cond (.tmp 85) c20_61 .skip
def c20_58 : Code := .seq (codeN b20 24555) c20_60
def c20_54 : Code := .cond (.tmp 63) c20_55 c20_58
def c20_52 : Code := .seq (codeN b20 6123) c20_54
def c20_48 : Code := .cond (.tmp 47) c20_49 c20_52
def c20_46 : Code := .seq (codeN b20 1515) c20_48
def c20_42 : Code := .cond (.tmp 26) c20_43 c20_46
def c20_20 : Code := .seq c20_21 c20_42
def c20_16 : Code := .cond (.tmp 10) c20_17 c20_20
def c20_14 : Code := .seq (codeN b20 75) c20_16
def c20_13 : Code := .block 0 c20_14
def c20_11 : Code := .seq (codeN b20 19) c20_13
def c20_86 : Code := .seq (codeN b20 23) .ret
def c20_10 : Code := .seq c20_11 c20_86
def c20_2 : Code := .seq c20_3 c20_10
def c20_0 : Code := .seq (codeN b20 2) c20_2
theorem E20 : evK gS fi20 c20_6 fr st k = opsR gS fi20 [op1 2 (.assign (.const (.bool false))) 4] fr st (.seq .ret k) ∧
 evK gS fi20 c20_5 fr st k = condK gS fi20 (fr.op (.tmp 7)).bool? c20_6 .skip fr st k ∧
 (evK gS fi20 c20_3 fr st k = opsR gS fi20 [op1 4 (.fieldAddr 27 (.tmp 1) 0) 0,
 ld 5 9 4 9,
 cal 6 72 [(.tmp 5)] [9] 4,
 op1 7 (.unOp .not 4 (.tmp 6)) 4] fr st (.seq c20_5 k)) ∧
 (evK gS fi20 c20_17 fr st k = opsR gS fi20 [op1 12 (.fieldAddr 27 (.tmp 1) 2) 0,
 ld 13 24 12 24,
 cal 14 73 [(.tmp 13)] [24] 4,
 mv 15 14 4,
 mk (some 16) (.fieldAddr 27 (.tmp 1) 3) 0 (some (3, true)),
 mk (some 17) (.load 24 (.tmp 16)) 24 (some (3, true)),
 mk (some 18) (.call { callee := (.value (.func 73)), args := #[(.tmp 17)], argTypes := #[24] }) 4 (some (3, true)),
 op1 19 (.pick (.tmp 15) (.tmp 18) (.const (.bool false))) 4,
 mv 20 19 4,
 mk (some 21) (.fieldAddr 27 (.tmp 1) 4) 0 (some (8, true)),
 mk (some 22) (.load 25 (.tmp 21)) 25 (some (8, true)),
 mk (some 23) (.call { callee := (.builtin .len), args := #[(.tmp 22)], argTypes := #[25] }) 3 (some (8, true)),
 mk (some 24) (.binOp .eql 3 (.tmp 23) (.const (.int .i64 0)) 3) 4 (some (8, true)),
 op1 25 (.pick (.tmp 20) (.tmp 24) (.const (.bool false))) 4,
 asn 2 25 4] fr st (.seq .ret k)) ∧
 (evK gS fi20 c20_41 fr st k = opsR gS fi20 [op1 32 (.binOp .eql 3 (.tmp 9) (.const (.int .i64 7)) 3) 4,
 asn 26 32 4] fr st k) ∧
 evK gS fi20 c20_39 fr st k = condK gS fi20 (fr.op (.tmp 26)).bool? .skip c20_41 fr st k ∧
 (evK gS fi20 c20_37 fr st k = opsR gS fi20 [op1 31 (.binOp .eql 3 (.tmp 9) (.const (.int .i64 6)) 3) 4,
 asn 26 31 4] fr st (.seq c20_39 k)) ∧
 evK gS fi20 c20_35 fr st k = condK gS fi20 (fr.op (.tmp 26)).bool? .skip c20_37 fr st k ∧
 (evK gS fi20 c20_33 fr st k = opsR gS fi20 [op1 30 (.binOp .eql 3 (.tmp 9) (.const (.int .i64 5)) 3) 4,
 asn 26 30 4] fr st (.seq c20_35 k)) ∧
 evK gS fi20 c20_31 fr st k = condK gS fi20 (fr.op (.tmp 26)).bool? .skip c20_33 fr st k ∧
 (evK gS fi20 c20_29 fr st k = opsR gS fi20 [op1 29 (.binOp .eql 3 (.tmp 9) (.const (.int .i64 4)) 3) 4,
 asn 26 29 4] fr st (.seq c20_31 k)) ∧
 evK gS fi20 c20_27 fr st k = condK gS fi20 (fr.op (.tmp 26)).bool? .skip c20_29 fr st k ∧
 (evK gS fi20 c20_25 fr st k = opsR gS fi20 [op1 28 (.binOp .eql 3 (.tmp 9) (.const (.int .i64 3)) 3) 4,
 asn 26 28 4] fr st (.seq c20_27 k)) ∧
 evK gS fi20 c20_23 fr st k = condK gS fi20 (fr.op (.tmp 26)).bool? .skip c20_25 fr st k ∧
 (evK gS fi20 c20_21 fr st k = opsR gS fi20 [op1 27 (.binOp .eql 3 (.tmp 9) (.const (.int .i64 2)) 3) 4,
 asn 26 27 4] fr st (.seq c20_23 k)) ∧
 (evK gS fi20 c20_43 fr st k = opsR gS fi20 [op1 33 (.fieldAddr 27 (.tmp 1) 2) 0,
 ld 34 24 33 24,
 cal 35 74 [(.tmp 34)] [24] 4,
 mv 36 35 4,
 mk (some 37) (.fieldAddr 27 (.tmp 1) 3) 0 (some (3, true)),
 mk (some 38) (.load 24 (.tmp 37)) 24 (some (3, true)),
 mk (some 39) (.call { callee := (.value (.func 73)), args := #[(.tmp 38)], argTypes := #[24] }) 4 (some (3, true)),
 op1 40 (.pick (.tmp 36) (.tmp 39) (.const (.bool false))) 4,
 mv 41 40 4,
 mk (some 42) (.fieldAddr 27 (.tmp 1) 4) 0 (some (8, true)),
 mk (some 43) (.load 25 (.tmp 42)) 25 (some (8, true)),
 mk (some 44) (.call { callee := (.builtin .len), args := #[(.tmp 43)], argTypes := #[25] }) 3 (some (8, true)),
 mk (some 45) (.binOp .eql 3 (.tmp 44) (.const (.int .i64 0)) 3) 4 (some (8, true)),
 op1 46 (.pick (.tmp 41) (.tmp 45) (.const (.bool false))) 4,
 asn 2 46 4] fr st (.seq .ret k)) ∧
 (evK gS fi20 c20_49 fr st k = opsR gS fi20 [op1 49 (.fieldAddr 27 (.tmp 1) 2) 0,
 ld 50 24 49 24,
 cal 51 74 [(.tmp 50)] [24] 4,
 mv 52 51 4,
 mk (some 53) (.fieldAddr 27 (.tmp 1) 3) 0 (some (3, true)),
 mk (some 54) (.load 24 (.tmp 53)) 24 (some (3, true)),
 mk (some 55) (.call { callee := (.value (.func 74)), args := #[(.tmp 54)], argTypes := #[24] }) 4 (some (3, true)),
 op1 56 (.pick (.tmp 52) (.tmp 55) (.const (.bool false))) 4,
 mv 57 56 4,
 mk (some 58) (.fieldAddr 27 (.tmp 1) 4) 0 (some (8, true)),
 mk (some 59) (.load 25 (.tmp 58)) 25 (some (8, true)),
 mk (some 60) (.call { callee := (.builtin .len), args := #[(.tmp 59)], argTypes := #[25] }) 3 (some (8, true)),
 mk (some 61) (.binOp .eql 3 (.tmp 60) (.const (.int .i64 0)) 3) 4 (some (8, true)),
 op1 62 (.pick (.tmp 57) (.tmp 61) (.const (.bool false))) 4,
 asn 2 62 4] fr st (.seq .ret k)) ∧
 (evK gS fi20 c20_55 fr st k = opsR gS fi20 [op1 65 (.fieldAddr 27 (.tmp 1) 2) 0,
 ld 66 24 65 24,
 cal 67 74 [(.tmp 66)] [24] 4,
 mv 68 67 4,
 mk (some 69) (.fieldAddr 27 (.tmp 1) 2) 0 (some (3, true)),
 mk (some 70) (.fieldAddr 24 (.tmp 69) 0) 0 (some (3, true)),
 mk (some 71) (.load 3 (.tmp 70)) 3 (some (3, true)),
 mk (some 72) (.binOp .eql 3 (.tmp 71) (.const (.int .i64 3)) 3) 4 (some (3, true)),
 op1 73 (.pick (.tmp 68) (.tmp 72) (.const (.bool false))) 4,
 mv 74 73 4,
 mk (some 75) (.fieldAddr 27 (.tmp 1) 3) 0 (some (9, true)),
 mk (some 76) (.load 24 (.tmp 75)) 24 (some (9, true)),
 mk (some 77) (.call { callee := (.value (.func 73)), args := #[(.tmp 76)], argTypes := #[24] }) 4 (some (9, true)),
 op1 78 (.pick (.tmp 74) (.tmp 77) (.const (.bool false))) 4,
 mv 79 78 4,
 mk (some 80) (.fieldAddr 27 (.tmp 1) 4) 0 (some (14, true)),
 mk (some 81) (.load 25 (.tmp 80)) 25 (some (14, true)),
 mk (some 82) (.call { callee := (.builtin .len), args := #[(.tmp 81)], argTypes := #[25] }) 3 (some (14, true)),
 mk (some 83) (.binOp .eql 3 (.tmp 82) (.const (.int .i64 0)) 3) 4 (some (14, true)),
 op1 84 (.pick (.tmp 79) (.tmp 83) (.const (.bool false))) 4,
 asn 2 84 4] fr st (.seq .ret k)) ∧
 evK gS fi20 c20_69 fr st k = condK gS fi20 (fr.op (.tmp 91)).bool? .skip (.exit 1) fr st k ∧
 (evK gS fi20 c20_67 fr st k = opsR gS fi20 [mv 87 3 3,
 op1 88 (.fieldAddr 27 (.tmp 1) 4) 0,
 ld 89 25 88 25,
 len1 90 89 25 3,
 bop 91 .lss 3 87 90 3 4] fr st (.seq c20_69 k)) ∧
 evK gS fi20 c20_77 fr st k = opsR gS fi20 [op1 2 (.assign (.const (.bool false))) 4] fr st (.seq .ret k) ∧
 evK gS fi20 c20_76 fr st k = condK gS fi20 (fr.op (.tmp 100)).bool? c20_77 .skip fr st k ∧
 (evK gS fi20 c20_74 fr st k = opsR gS fi20 [op1 94 (.fieldAddr 27 (.tmp 1) 4) 0,
 ld 95 25 94 25,
 mv 96 3 3,
 ixa 97 25 95 96 0,
 ld 98 24 97 24,
 cal 99 74 [(.tmp 98)] [24] 4,
 op1 100 (.unOp .not 4 (.tmp 99)) 4] fr st (.seq c20_76 k)) ∧
 (evK gS fi20 c20_81 fr st k = opsR gS fi20 [mv 92 3 3,
 op1 93 (.binOp .add 3 (.tmp 92) (.const (.int .i64 1)) 3) 3,
 asn 3 93 3] fr st k) ∧
 evK gS fi20 c20_72 fr st k = evK gS fi20 c20_74 fr st (.blk 2 (.seq c20_81 k)) ∧
 evK gS fi20 c20_66 fr st k = evK gS fi20 c20_67 fr st (.seq c20_72 k) ∧
 evK gS fi20 c20_64 fr st k = evK gS fi20 c20_65 fr st (.blk 1 k) ∧
 evK gS fi20 c20_62 fr st k = opsR gS fi20 [op1 3 (.assign (.const (.int .i64 0))) 3] fr st (.seq c20_64 k) ∧
 (evK gS fi20 c20_82 fr st k = opsR gS fi20 [op1 101 (.fieldAddr 27 (.tmp 1) 2) 0,
 ld 102 24 101 24,
 cal 103 73 [(.tmp 102)] [24] 4,
 mv 104 103 4,
 mk (some 105) (.fieldAddr 27 (.tmp 1) 3) 0 (some (3, true)),
 mk (some 106) (.load 24 (.tmp 105)) 24 (some (3, true)),
 mk (some 107) (.call { callee := (.value (.func 73)), args := #[(.tmp 106)], argTypes := #[24] }) 4 (some (3, true)),
 op1 108 (.pick (.tmp 104) (.tmp 107) (.const (.bool false))) 4,
 mv 109 108 4,
 mk (some 110) (.fieldAddr 27 (.tmp 1) 4) 0 (some (8, true)),
 mk (some 111) (.load 25 (.tmp 110)) 25 (some (8, true)),
 mk (some 112) (.call { callee := (.builtin .len), args := #[(.tmp 111)], argTypes := #[25] }) 3 (some (8, true)),
 mk (some 113) (.binOp .geq 3 (.tmp 112) (.const (.int .i64 1)) 3) 4 (some (8, true)),
 op1 114 (.pick (.tmp 109) (.tmp 113) (.const (.bool false))) 4,
 mv 115 114 4,
 mk (some 116) (.fieldAddr 27 (.tmp 1) 4) 0 (some (14, true)),
 mk (some 117) (.load 25 (.tmp 116)) 25 (some (14, true)),
 mk (some 118) (.call { callee := (.builtin .len), args := #[(.tmp 117)], argTypes := #[25] }) 3 (some (14, true)),
 mk (some 119) (.binOp .leq 3 (.tmp 118) (.const (.int .i64 4)) 3) 4 (some (14, true)),
 op1 120 (.pick (.tmp 115) (.tmp 119) (.const (.bool false))) 4,
 asn 2 120 4] fr st (.seq .ret k)) ∧
 evK gS fi20 c20_61 fr st k = evK gS fi20 c20_62 fr st (.seq c20_82 k) ∧
 evK gS fi20 c20_60 fr st k = condK gS fi20 (fr.op (.tmp 85)).bool? c20_61 .skip fr st k ∧
 (evK gS fi20 c20_58 fr st k = opsR gS fi20 [op1 86 (.binOp .eql 3 (.tmp 9) (.const (.int .i64 10)) 3) 4,
 asn 85 86 4] fr st (.seq c20_60 k)) ∧
 evK gS fi20 c20_54 fr st k = condK gS fi20 (fr.op (.tmp 63)).bool? c20_55 c20_58 fr st k ∧
 (evK gS fi20 c20_52 fr st k = opsR gS fi20 [op1 64 (.binOp .eql 3 (.tmp 9) (.const (.int .i64 9)) 3) 4,
 asn 63 64 4] fr st (.seq c20_54 k)) ∧
 evK gS fi20 c20_48 fr st k = condK gS fi20 (fr.op (.tmp 47)).bool? c20_49 c20_52 fr st k ∧
 (evK gS fi20 c20_46 fr st k = opsR gS fi20 [op1 48 (.binOp .eql 3 (.tmp 9) (.const (.int .i64 8)) 3) 4,
 asn 47 48 4] fr st (.seq c20_48 k)) ∧
 evK gS fi20 c20_42 fr st k = condK gS fi20 (fr.op (.tmp 26)).bool? c20_43 c20_46 fr st k ∧
 evK gS fi20 c20_20 fr st k = evK gS fi20 c20_21 fr st (.seq c20_42 k) ∧
 evK gS fi20 c20_16 fr st k = condK gS fi20 (fr.op (.tmp 10)).bool? c20_17 c20_20 fr st k ∧
 (evK gS fi20 c20_14 fr st k = opsR gS fi20 [op1 11 (.binOp .eql 3 (.tmp 9) (.const (.int .i64 1)) 3) 4,
 asn 10 11 4] fr st (.seq c20_16 k)) ∧
 evK gS fi20 c20_13 fr st k = evK gS fi20 c20_14 fr st (.blk 0 k) ∧
 (evK gS fi20 c20_11 fr st k = opsR gS fi20 [op1 8 (.fieldAddr 27 (.tmp 1) 1) 0,
 ld 9 3 8 3] fr st (.seq c20_13 k)) ∧
 evK gS fi20 c20_86 fr st k = opsR gS fi20 [op1 2 (.assign (.const (.bool false))) 4] fr st (.seq .ret k) ∧
 evK gS fi20 c20_10 fr st k = evK gS fi20 c20_11 fr st (.seq c20_86 k) ∧
 evK gS fi20 c20_2 fr st k = evK gS fi20 c20_3 fr st (.seq c20_10 k) ∧
 (evK gS fi20 c20_0 fr st k = opsR gS fi20 [op1 1 (.box 27 (.tmp 0)) 0,
 op1 2 (.assign (.const (.bool false))) 4] fr st (.seq c20_2 k)) := ⟨evK_rs 2 rfl (by kernel_rfl), rfl, evK_rs 1 rfl (by kernel_rfl), evK_rs 5 rfl (by kernel_rfl), evK_r 11 (by kernel_rfl), rfl, evK_rs 10 rfl (by kernel_rfl), rfl, evK_rs 9 rfl (by kernel_rfl), rfl, evK_rs 8 rfl (by kernel_rfl), rfl, evK_rs 7 rfl (by kernel_rfl), rfl, evK_rs 6 rfl (by kernel_rfl), evK_rs 12 rfl (by kernel_rfl), evK_rs 14 rfl (by kernel_rfl), evK_rs 16 rfl (by kernel_rfl), rfl, evK_rs 19 rfl (by kernel_rfl), evK_rs 22 rfl (by kernel_rfl), rfl, evK_rs 21 rfl (by kernel_rfl), evK_r 20 (by kernel_rfl), rfl, rfl, rfl, evK_rs 18 rfl (by kernel_rfl), evK_rs 23 rfl (by kernel_rfl), rfl, rfl, evK_rs 17 rfl (by kernel_rfl), rfl, evK_rs 15 rfl (by kernel_rfl), rfl, evK_rs 13 rfl (by kernel_rfl), rfl, rfl, rfl, evK_rs 4 rfl (by kernel_rfl), rfl, evK_rs 3 rfl (by kernel_rfl), evK_rs 24 rfl (by kernel_rfl), rfl, rfl, evK_rs 0 rfl (by kernel_rfl)⟩
theorem m20 : mini fi20.body = c20_0 := by kernel_rfl
theorem n20_65 (fr : Fr) (st : St) (k : Kt) : nextK gS fi20 (.loop c20_66 k) .normal fr st = evK gS fi20 c20_65 fr st k := rfl
set_option maxHeartbeats 4000000 in
theorem L20_65 (p : Pred) (h_p : p.ok) (st : St) : ∀ (n i : Nat) (j : Int)  (e0 e2 e9 e26 : E) (T : List (Nat × E)) (X : List (Nat × List V)) (ht0 : e0.Tame) (ht2 : e2.Tame) (ht9 : e9.Tame) (ht26 : e26.Tame) (hx1 : lk X 1 = some [.str p.name, .int .i64 p.test, .int .i64 p.v.kind, .int .i64 p.v.n, .float .f64 p.v.x, .str p.v.s, .bool p.v.b, .int .i64 p.w.kind, .int .i64 p.w.n, .float .f64 p.w.x, .str p.w.s, .bool p.w.b, .slice (encVals p.set)]) , j = (i : Int) → i ≤ (p.set).length → (p.set).length - i = n →
    evK gS fi20 c20_65 { ps := [(0, e0), (1, .lp 1 0), (2, e2), (3, .val (.int .i64 j)), (9, e9), (26, e26)], ts := T, lc := X } st (.blk 1 (.seq c20_82 (.blk 0 (.seq c20_86 .nil)))) = some ((.ret (.bool ((p.set.drop i).all vright && (vsame p.v vzero && vsame p.w vzero && 1 ≤ p.set.length && p.set.length ≤ 4))) none), st) := by
  intro n
  have hm : fi20.marks = [] := rfl
  have hl : fi20.locals = [1] := rfl
  have hr : fi20.results = [.tmp 2] := rfl
  have hpo := h_p.2
  induction n with
  | zero =>
    intro i j  e0 e2 e9 e26 T X ht0 ht2 ht9 ht26 hx1  hj hi hn
    obtain rfl : i = (p.set).length := by omega
    subst hj
    refine evK_loop c20_66 _ st _ _ rfl ?_
    simp (config := { contextual := true, maxSteps := 10000000, maxDischargeDepth := 6 }) [-Int.not_le, -Int.not_lt, -Nat.not_le, -Nat.not_lt, ty3, ty4, ty9, ty24, ty25, ty27, eq24, hm, hl, hr, k72, k73, k74, E20, n20_65, h_p.1, h_p.2, ht0, ht2, ht9, ht26, hx1]
    all_goals first | done | grind | omega | (trace_state; fail)
  | succ n ih =>
    intro i j  e0 e2 e9 e26 T X ht0 ht2 ht9 ht26 hx1  hj hi hn
    subst hj
    obtain ⟨x, hx⟩ : ∃ x, (p.set)[i]? = some x := ⟨(p.set)[i]'(by omega), List.getElem?_eq_getElem (by omega)⟩
    have hd := drop_get hx
    have hlt : (i : Int) < ((p.set).length : Int) := by omega
    have hlt2 : i < (p.set).length := by omega
    have hxe : (p.set)[i]'hlt2 = x := by rw [List.getElem?_eq_getElem hlt2] at hx; exact Option.some.inj hx
    have hw : IntKind.wrap .i64 ((i : Int) + 1) = (i : Int) + 1 := wrap64 (by omega) (by omega)
    have IH := fun e0 e2 e9 e26 T X ht0 ht2 ht9 ht26 hx1 => ih (i + 1) ((i : Int) + 1) e0 e2 e9 e26 T X ht0 ht2 ht9 ht26 hx1 rfl (by omega) (by omega)
    refine evK_loop c20_66 _ st _ _ rfl ?_
    simp (config := { contextual := true, maxSteps := 10000000, maxDischargeDepth := 6 }) [-Int.not_le, -Int.not_lt, -Nat.not_le, -Nat.not_lt, ty3, ty4, ty9, ty24, ty25, ty27, eq24, hm, hl, hr, k72, k73, k74, E20, n20_65, h_p.1, h_p.2, ht0, ht2, ht9, ht26, hx1, hx, hxe, hd, hlt, hlt2, hw, IH]
    all_goals first | done | grind | omega | (trace_state; fail)
set_option maxHeartbeats 4000000 in
theorem c20 (p : Pred)  (h_p : Pred.ok p) (st : St) : EvF gS 20 [p.enc] st = some (.ret (.bool (pright p)) none, st) := by
  refine EvF_start fi20_eq (fun x h => by cases h) m20 ?_
  rw [st20]
  have hm : fi20.marks = [] := rfl
  have hl : fi20.locals = [1] := rfl
  have hr : fi20.results = [.tmp 2] := rfl
  simp (config := { contextual := true, maxSteps := 10000000, maxDischargeDepth := 6 }) [-Int.not_le, -Int.not_lt, -Nat.not_le, -Nat.not_lt, ty3, ty4, ty9, ty24, ty25, ty27, eq24, hm, hl, hr, k72, k73, k74, E20, n20_65, (fun e0 e2 e9 e26 T X ht0 ht2 ht9 ht26 hx1 => L20_65 p h_p st _ 0 0  e0 e2 e9 e26 T X ht0 ht2 ht9 ht26 hx1 rfl (Nat.zero_le _) rfl), h_p.1, h_p.2]
  all_goals try simp (config := { contextual := true }) [-Int.not_le, -Int.not_lt, -Nat.not_le, -Nat.not_lt, pright]
  all_goals first | done | grind | omega | (trace_state; fail)
theorem k20 (p_name : List UInt8) (p_test : Int) (p_vk : Int) (p_vn : Int) (p_vx : Nat) (p_vs : List UInt8) (p_vb : Bool) (p_wk : Int) (p_wn : Int) (p_wx : Nat) (p_ws : List UInt8) (p_wb : Bool) (p_set : List Val)  (h_p : Pred.ok (⟨p_name, p_test, ⟨p_vk, p_vn, p_vx, p_vs, p_vb⟩, ⟨p_wk, p_wn, p_wx, p_ws, p_wb⟩, p_set⟩ : Pred)) (fr : Fr) (st : St) : callStep gS (EvF gS) 20 [.agg [.str p_name, .int .i64 p_test, .int .i64 p_vk, .int .i64 p_vn, .float .f64 p_vx, .str p_vs, .bool p_vb, .int .i64 p_wk, .int .i64 p_wn, .float .f64 p_wx, .str p_ws, .bool p_wb, .slice (encVals p_set)]] fr st = some (.ok (retE none (.bool (pright (⟨p_name, p_test, ⟨p_vk, p_vn, p_vx, p_vs, p_vb⟩, ⟨p_wk, p_wn, p_wx, p_ws, p_wb⟩, p_set⟩ : Pred)))) fr st) :=
  call_pure rfl fi20_eq rfl (fun st => c20 (⟨p_name, p_test, ⟨p_vk, p_vn, p_vx, p_vs, p_vb⟩, ⟨p_wk, p_wn, p_wx, p_ws, p_wb⟩, p_set⟩ : Pred) h_p st) (by simp)
theorem x20 : gS.ext 20 = none := rfl
theorem p20 : fi20.pure = true := rfl
end
end Go.Proofs.Ytclpbfkbpcjejaa
