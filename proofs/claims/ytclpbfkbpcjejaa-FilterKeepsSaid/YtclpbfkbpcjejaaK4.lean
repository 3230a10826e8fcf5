/- Whatever attributes, one of some filters takes them just if one of the reduced row does; in the row no one covers another one. Part 4. -/
import Derived.Test.YtclpbfkbpcjejaaK3
namespace Go.Ab
open Go
set_option linter.unusedVariables false
set_option linter.unusedSimpArgs false
set_option linter.unnecessarySimpa false
def flt (x y : Nat) : Bool := FloatKind.f64.format.order x y == some .lt
def fle (x y : Nat) : Bool := FloatKind.f64.format.order x y == some .lt || FloatKind.f64.format.order x y == some .eq
def fgt (x y : Nat) : Bool := FloatKind.f64.format.order x y == some .gt
def fge (x y : Nat) : Bool := FloatKind.f64.format.order x y == some .gt || FloatKind.f64.format.order x y == some .eq
def feq (x y : Nat) : Bool := FloatKind.f64.format.order x y == some .eq
theorem fb_lss (x y : Nat) : floatBin .lss .f64 x y = some (.bool (flt x y)) := rfl
theorem fb_leq (x y : Nat) : floatBin .leq .f64 x y = some (.bool (fle x y)) := rfl
theorem fb_gtr (x y : Nat) : floatBin .gtr .f64 x y = some (.bool (fgt x y)) := rfl
theorem fb_geq (x y : Nat) : floatBin .geq .f64 x y = some (.bool (fge x y)) := rfl
theorem fb_eql (x y : Nat) : floatBin .eql .f64 x y = some (.bool (feq x y)) := rfl
theorem fb_neq (x y : Nat) : floatBin .neq .f64 x y = some (.bool (!feq x y)) := rfl
theorem fs_eq (x y : Nat) : Op.floatEq .f64 x y = feq x y := rfl
attribute [simp] fb_lss fb_leq fb_gtr fb_geq fb_eql fb_neq fs_eq
def fbits (b : Nat) : Int := if feq b b then (if feq b 0 then 0 else b) else 9221120237041090560
def sgn (below above : Bool) : Int := if below then -1 else if above then 1 else 0
/-- The whole part; as a number. -/
def ftr (x : Nat) : Nat := (truncV x).getD 0
def ftz (x : Nat) : Int := ((FloatKind.f64.decode (ftr x)).toInt .zero).getD 0
def icmp (n : Int) (x : Nat) : Int × Bool :=
  if feq x x then
    if fge x 4890909195324358656 then (-1, true)
    else if flt x 14114281232179134464 then (1, true)
    else if ftz x = n then (sgn (flt (ftr x) x) (fgt (ftr x) x), true)
    else (sgn (n < ftz x) (n > ftz x), true)
  else (0, false)
def fcmp (a b : Nat) : Int × Bool := if feq a a && feq b b then (sgn (flt a b) (fgt a b), true) else (0, false)
def scmp (a b : List UInt8) : Int := sgn (Op.bytesLess a b) (!(Op.bytesLess a b || a == b))
def cmp (a b : Val) : Int × Bool :=
  if a.kind = 1 ∧ b.kind = 1 then (sgn (a.n < b.n) (a.n > b.n), true)
  else if a.kind = 2 ∧ b.kind = 2 then fcmp a.x b.x
  else if a.kind = 1 ∧ b.kind = 2 then icmp a.n b.x
  else if a.kind = 2 ∧ b.kind = 1 then (-(icmp b.n a.x).1, (icmp b.n a.x).2)
  else if a.kind = 3 ∧ b.kind = 3 then (scmp a.s b.s, true)
  else if a.kind = 4 ∧ b.kind = 4 then (sgn (!a.b && b.b) (a.b && !b.b), true)
  else (0, false)
def vis (a b : Val) : Bool := (cmp a b).2 && decide ((cmp a b).1 = 0)
def vright (v : Val) : Bool :=
  if v.kind = 1 then feq v.x 0 && v.s = [] && !v.b
  else if v.kind = 2 then v.n = 0 && v.s = [] && !v.b
  else if v.kind = 3 then v.n = 0 && feq v.x 0 && !v.b && v.s.length ≤ 12
  else if v.kind = 4 then v.n = 0 && feq v.x 0 && v.s = []
  else false
def vsame (a b : Val) : Bool := a.kind = b.kind && a.n = b.n && a.s = b.s && a.b = b.b && fbits a.x = fbits b.x
def vzero : Val := ⟨0, 0, 0, [], false⟩
def isWord (s : List UInt8) : Bool := s.all (fun c => !decide (c.toNat < 97) && !decide (122 < c.toNat)) && (decide (1 ≤ s.length) && decide (s.length ≤ 6))
def pright (p : Pred) : Bool :=
  if isWord p.name then
    if p.test = 1 then vsame p.v vzero && vsame p.w vzero && p.set.length = 0
    else if 2 ≤ p.test ∧ p.test ≤ 7 then vright p.v && vsame p.w vzero && p.set.length = 0
    else if p.test = 8 then vright p.v && vright p.w && p.set.length = 0
    else if p.test = 9 then vright p.v && p.v.kind = 3 && vsame p.w vzero && p.set.length = 0
    else if p.test = 10 then vsame p.v vzero && vsame p.w vzero && 1 ≤ p.set.length && p.set.length ≤ 4 && p.set.all vright
    else false
  else false
def sames : List Val → List Val → Bool
  | [], [] => true
  | a :: r, b :: s => vsame a b && sames r s
  | _, _ => false
def psame (a b : Pred) : Bool := a.name = b.name && a.test = b.test && vsame a.v b.v && vsame a.w b.w && sames a.set b.set
def isPre (s t : List UInt8) : Bool := t.length ≤ s.length && s.take t.length = t
def ptakes (p : Pred) (v : Val) : Bool :=
  if pright p then
    let c := cmp v p.v
    if p.test = 1 then true
    else if p.test = 2 then c.2 && c.1 = 0
    else if p.test = 3 then !(c.2 && c.1 = 0)
    else if p.test = 4 then c.2 && c.1 < 0
    else if p.test = 5 then c.2 && c.1 ≤ 0
    else if p.test = 6 then c.2 && c.1 > 0
    else if p.test = 7 then c.2 && c.1 ≥ 0
    else if p.test = 8 then c.2 && c.1 ≥ 0 && (cmp v p.w).2 && (cmp v p.w).1 ≤ 0
    else if p.test = 9 then v.kind = 3 && isPre v.s p.v.s
    else p.set.any (vis v)
  else false
def vnan (v : Val) : Bool := v.kind = 2 && !feq v.x v.x
def pvoid (p : Pred) : Bool :=
  if pright p then
    if p.test = 2 ∨ (4 ≤ p.test ∧ p.test ≤ 7) then vnan p.v
    else if p.test = 8 then !(cmp p.v p.w).2 || (cmp p.v p.w).1 > 0
    else if p.test = 10 then p.set.all vnan
    else false
  else false
/-- Where a test ends. -/
structure PEnd where
  is : Bool
  op : Bool
  v : Val
def PEnd.encP (e : PEnd) : V := .agg [.bool e.is, .bool e.op, .int .i64 e.v.kind, .int .i64 e.v.n, .float .f64 e.v.x, .str e.v.s, .bool e.v.b]
def PEnd.encR (e : PEnd) : V := .agg [.int .i64 e.v.kind, .int .i64 e.v.n, .float .f64 e.v.x, .str e.v.s, .bool e.v.b, .bool e.is, .bool e.op]
theorem PEnd.eta (e : PEnd) : (⟨e.is, e.op, e.v⟩ : PEnd) = e := rfl
attribute [simp] PEnd.encP PEnd.encR PEnd.eta
def lowE (p : Pred) : PEnd := if p.test = 6 ∨ p.test = 7 then ⟨true, p.test = 6, p.v⟩ else if p.test = 8 then ⟨true, false, p.v⟩ else ⟨false, false, vzero⟩
def highE (p : Pred) : PEnd := if p.test = 4 ∨ p.test = 5 then ⟨true, p.test = 4, p.v⟩ else if p.test = 8 then ⟨true, false, p.w⟩ else ⟨false, false, vzero⟩
/-- Does an end lie within another one? -/
def within (q p : PEnd) (side : Int) : Bool :=
  if p.is then if q.is then (cmp q.v p.v).2 && (decide ((cmp q.v p.v).1 = side) || (decide ((cmp q.v p.v).1 = 0) && (!p.op || q.op))) else false else true
def pimplies (q p : Pred) : Bool :=
  if pright q && pright p then
    if pvoid q || p.test = 1 then true
    else if q.test = p.test && (vsame q.v p.v && vsame q.w p.w && sames q.set p.set) then true
    else if p.test = 3 then !ptakes q p.v
    else if q.test = 2 then ptakes p q.v
    else if q.test = 10 then q.set.all (fun v => vnan v || ptakes p v)
    else if ((lowE q).is || (highE q).is) && ((lowE p).is || (highE p).is) then
      within (lowE q) (lowE p) 1 && within (highE q) (highE p) (-1)
    else if q.test = 9 then
      if p.test = 9 then isPre q.v.s p.v.s
      else if p.test = 7 then (cmp q.v p.v).2 && (cmp q.v p.v).1 ≥ 0
      else if p.test = 6 then (cmp q.v p.v).2 && (cmp q.v p.v).1 > 0
      else false
    else false
  else false
theorem less_irrefl : ∀ s : List UInt8, Op.bytesLess s s = false
  | [] => rfl
  | a :: r => by simp [Op.bytesLess, less_irrefl r]
theorem sames_len : ∀ {a b : List Val}, sames a b = true → a.length = b.length
  | [], [], _ => rfl
  | a :: r, b :: s, h => by
    simp only [sames, Bool.and_eq_true] at h
    simp [sames_len h.2]
  | [], _ :: _, h => by simp [sames] at h
  | _ :: _, [], h => by simp [sames] at h
theorem sames_ne {a b : List Val} (h : ¬ a.length = b.length) : sames a b = false := by
  cases hs : sames a b with
  | false => rfl
  | true => exact absurd (sames_len hs) h
theorem sgn_bound (a b : Bool) : -1 ≤ sgn a b ∧ sgn a b ≤ 1 := by cases a <;> cases b <;> simp [sgn]
theorem icmp_bound (n : Int) (x : Nat) : -1 ≤ (icmp n x).1 ∧ (icmp n x).1 ≤ 1 := by
  unfold icmp
  repeat' split
  all_goals first | exact sgn_bound _ _ | simp
theorem sgn_tri (a b : Bool) : sgn a b = -1 ∨ sgn a b = 0 ∨ sgn a b = 1 := by cases a <;> cases b <;> simp [sgn]
theorem icmp_tri (n : Int) (x : Nat) : (icmp n x).1 = -1 ∨ (icmp n x).1 = 0 ∨ (icmp n x).1 = 1 := by
  have := icmp_bound n x
  omega
theorem cmp_tri (a b : Val) : (cmp a b).1 = -1 ∨ (cmp a b).1 = 0 ∨ (cmp a b).1 = 1 := by
  unfold cmp
  repeat' split
  · exact sgn_tri _ _
  · unfold fcmp; split
    · exact sgn_tri _ _
    · simp
  · exact icmp_tri _ _
  · have := icmp_tri b.n a.x; simp only; omega
  · exact sgn_tri _ _
  · exact sgn_tri _ _
  · simp
theorem wrap_icmp (n : Int) (x : Nat) : IntKind.wrap .i64 (-(icmp n x).1) = -(icmp n x).1 := by
  have := icmp_bound n x
  exact wrap64 (by omega) (by omega)
/-- A test that is looked into at the end. -/
def opq (b : Bool) : Bool := b
theorem agg_eql (ks : List TK) (x y : List V) : binAgg ks .eql x y = (eqCells ks x y).map fun b => .bool (opq b) := rfl
theorem agg_neq (ks : List TK) (x y : List V) : binAgg ks .neq x y = (eqCells ks x y).map fun b => .bool (!opq b) := rfl
theorem feq00 : feq 0 0 = true := by kernel_rfl
attribute [simp] less_irrefl feq00
attribute [simp] wrap_icmp agg_eql agg_neq eqCells eqScalar
end Go.Ab
namespace Go.Ab
open Go Ieee
set_option linter.unusedVariables false
set_option linter.unusedSimpArgs false
set_option linter.unnecessarySimpa false
set_option maxRecDepth 4000

theorem read_cases (x : Nat) : (∃ s t, double.read x = .nan s t) ∨ (∃ s, double.read x = .infinity s) ∨ ∃ s m e, double.read x = .number s m e ∧ m < 2 ^ 53 ∧ (-1074 < e → 2 ^ 52 ≤ m) ∧ -1074 ≤ e := by
  have hb : double.binade = 2 ^ 52 := rfl
  have hl : double.leastPlace = -1074 := rfl
  unfold Format.read
  simp only [hb, hl]
  generalize x % double.signWeight = r
  split
  · exact .inr (.inr ⟨_, _, _, rfl, by omega, by omega, by omega⟩)
  · split
    · refine .inr (.inr ⟨_, _, _, rfl, ?_, ?_, ?_⟩)
      · have := Nat.mod_lt r (show 0 < 2 ^ 52 by decide); omega
      · intro _; omega
      · omega
    · split
      · exact .inr (.inl ⟨_, rfl⟩)
      · exact .inl ⟨_, _, rfl⟩

theorem cut_zero (s : Bool) (n d : Nat) : Toward.zero.cut s n d = n / 2 ^ (min d (n.log2 + 2)) := by
  simp [Toward.cut, Nat.shiftLeft_eq]
theorem cut_even_dvd (s : Bool) (n d q : Nat) (h : n = q * 2 ^ (min d (n.log2 + 2))) : Toward.even.cut s n d = q := by
  have hp : 0 < 2 ^ (min d (n.log2 + 2)) := Nat.pow_pos (by decide)
  have h1 : n / 2 ^ (min d (n.log2 + 2)) = q := by
    conv => lhs; lhs; rw [h]
    exact Nat.mul_div_cancel _ hp
  have h2 : n % 2 ^ (min d (n.log2 + 2)) = 0 := by
    conv => lhs; lhs; rw [h]
    exact Nat.mul_mod_left _ _
  simp only [Toward.cut, Nat.shiftLeft_eq, Nat.one_mul, h1, h2]
  have h3 : ¬ (2 ^ (min d (n.log2 + 2)) = 0) := by omega
  simp [h3]

theorem log2_of {n k : Nat} (h1 : 2 ^ k ≤ n) (h2 : n < 2 ^ (k + 1)) : n.log2 = k := by
  have h0 : n ≠ 0 := by have := Nat.pow_pos (n := k) (show 0 < 2 by decide); omega
  have a : k ≤ n.log2 := (Nat.le_log2 h0).2 h1
  have b : n.log2 < k + 1 := (Nat.log2_lt h0).2 h2
  omega

/-- A word that is read as it was laid. -/
theorem read_word (s : Bool) (K : Nat) (l : Int) (h1 : 2 ^ 52 ≤ K) (h2 : K < 2 ^ 53) (h3 : -1074 ≤ l) (h4 : l ≤ 900) :
    double.read (double.word s (min ((l - double.leastPlace).toNat * double.binade + K) double.infRung)) = .number s K l := by
  have hb : double.binade = 4503599627370496 := rfl
  have hl : double.leastPlace = -1074 := rfl
  have hi : double.infRung = 9218868437227405312 := rfl
  have hw : double.signWeight = 9223372036854775808 := rfl
  obtain ⟨p, hp⟩ : ∃ p : Nat, (l - double.leastPlace).toNat = p ∧ l = (p : Int) - 1074 ∧ p ≤ 1974 := ⟨(l + 1074).toNat, by rw [hl]; omega, by omega, by omega⟩
  obtain ⟨hp1, hp2, hp3⟩ := hp
  rw [hp1]
  have hm : min (p * double.binade + K) double.infRung = p * 4503599627370496 + K := by rw [hb, hi]; omega
  rw [hm]
  have hr : (p * 4503599627370496 + K) < 9223372036854775808 := by omega
  have key : ∀ w : Nat, w % 9223372036854775808 = p * 4503599627370496 + K → (w / 9223372036854775808 % 2 == 1) = s → double.read w = .number s K l := by
    intro w e1 e2
    unfold Format.read
    simp only [hb, hl, hi, hw, e1, e2]
    have c1 : ¬ p * 4503599627370496 + K < 4503599627370496 := by omega
    have c2 : p * 4503599627370496 + K < 9218868437227405312 := by omega
    have c3 : (p * 4503599627370496 + K) % 4503599627370496 = K - 4503599627370496 := by omega
    have c4 : (p * 4503599627370496 + K) / 4503599627370496 - 1 = p := by omega
    rw [if_neg c1, if_pos c2, c3, c4, hp2]
    have c5 : 4503599627370496 + (K - 4503599627370496) = K := by omega
    have c6 : (-1074 : Int) + (p : Int) = (p : Int) - 1074 := by omega
    rw [c5, c6]
  apply key
  · cases s with
    | false => show (p * 4503599627370496 + K) % 9223372036854775808 = _; omega
    | true => show (9223372036854775808 + (p * 4503599627370496 + K)) % 9223372036854775808 = _; omega
  · cases s with
    | false =>
      show ((p * 4503599627370496 + K) / 9223372036854775808 % 2 == 1) = false
      rw [Nat.div_eq_of_lt hr]; rfl
    | true =>
      show ((9223372036854775808 + (p * 4503599627370496 + K)) / 9223372036854775808 % 2 == 1) = true
      rw [show (9223372036854775808 + (p * 4503599627370496 + K)) / 9223372036854775808 = 1 by omega]; rfl
theorem read_zero (s : Bool) : double.read (double.word s 0) = .number s 0 (-1074) := by cases s <;> rfl

theorem signed_bound (s : Bool) (M : Nat) (h : M ≤ 2 ^ 63) (hs : s = false → M < 2 ^ 63) : -9223372036854775808 ≤ signed s M 0 ∧ signed s M 0 ≤ 9223372036854775807 := by
  unfold signed
  simp only [Nat.shiftLeft_zero]
  cases s with
  | false => have := hs rfl; simp only [Bool.false_eq_true, if_false]; omega
  | true => simp only [if_true]; omega

/-- A whole number of few digits is written as it is. -/
theorem whole_exact (s : Bool) (M : Nat) (h : M ≤ 2 ^ 63) (hM : M < 2 ^ 53 ∨ ∃ m e : Nat, M = m * 2 ^ e ∧ 2 ^ 52 ≤ m ∧ m < 2 ^ 53) :
    (double.read (double.write (.number s M 0))).toInt .zero = some (signed s M 0) := by
  have hl : double.leastPlace = -1074 := rfl
  have hf : (double.fractionBits : Int) = 52 := rfl
  unfold Format.write Format.nearest
  dsimp only
  by_cases h0 : M = 0
  · subst h0
    simp only [if_true]
    rw [read_zero]
    simp only [Datum.toInt, Datum.integral, cut_zero]
    simp
  · rw [if_neg h0]
    have hL1 : 2 ^ M.log2 ≤ M := Nat.log2_self_le h0
    have hL2 : M < 2 ^ (M.log2 + 1) := Nat.lt_log2_self
    have hL : M.log2 ≤ 63 := by
      have : M.log2 < 64 := (Nat.log2_lt h0).2 (by omega)
      omega
    have hlast : max ((0 : Int) + (M.log2 : Int) - (double.fractionBits : Int)) double.leastPlace = (M.log2 : Int) - 52 := by rw [hl, hf]; omega
    simp only [hlast]
    -- kept
    obtain ⟨K, l, hK, hK1, hK2, hlk, hdef⟩ : ∃ K : Nat, ∃ l : Int, (l = (M.log2 : Int) - 52) ∧ 2 ^ 52 ≤ K ∧ K < 2 ^ 53 ∧ Toward.even.cut s (M <<< ((0 : Int) - ((M.log2 : Int) - 52)).toNat) (((M.log2 : Int) - 52) - 0).toNat = K ∧
        ((0 ≤ l → M = K * 2 ^ l.toNat) ∧ (l < 0 → K = M * 2 ^ (-l).toNat ∧ (-l).toNat ≤ 52)) := by
      by_cases hs : M.log2 ≤ 52
      · refine ⟨M * 2 ^ (52 - M.log2), (M.log2 : Int) - 52, rfl, ?_, ?_, ?_, ?_, ?_⟩
        · calc 2 ^ 52 = 2 ^ M.log2 * 2 ^ (52 - M.log2) := by rw [← Nat.pow_add]; congr 1; omega
            _ ≤ M * 2 ^ (52 - M.log2) := Nat.mul_le_mul_right _ hL1
        · calc M * 2 ^ (52 - M.log2) < 2 ^ (M.log2 + 1) * 2 ^ (52 - M.log2) := Nat.mul_lt_mul_of_pos_right hL2 (Nat.pow_pos (by decide))
            _ = 2 ^ 53 := by rw [← Nat.pow_add]; congr 1; omega
        · have e1 : ((0 : Int) - ((M.log2 : Int) - 52)).toNat = 52 - M.log2 := by omega
          have e2 : (((M.log2 : Int) - 52) - 0).toNat = 0 := by omega
          rw [e1, e2]
          exact cut_even_dvd _ _ _ _ (by rw [Nat.zero_min, Nat.shiftLeft_eq]; simp)
        · intro hge
          have e : M.log2 = 52 := by omega
          rw [e]; simp
        · intro hlt
          have e : (-((M.log2 : Int) - 52)).toNat = 52 - M.log2 := by omega
          rw [e]; exact ⟨rfl, by omega⟩
      · obtain ⟨m, e, hme, hm1, hm2⟩ : ∃ m e : Nat, M = m * 2 ^ e ∧ 2 ^ 52 ≤ m ∧ m < 2 ^ 53 := by
          rcases hM with hM | hM
          · exfalso
            have : M.log2 < 53 := (Nat.log2_lt h0).2 hM
            omega
          · exact hM
        have hlog : M.log2 = 52 + e := by
          apply log2_of
          · rw [hme, Nat.pow_add]; exact Nat.mul_le_mul_right _ hm1
          · rw [hme, show 52 + e + 1 = 53 + e by omega, Nat.pow_add]; exact Nat.mul_lt_mul_of_pos_right hm2 (Nat.pow_pos (by decide))
        refine ⟨m, (M.log2 : Int) - 52, rfl, hm1, hm2, ?_, ?_, ?_⟩
        · have e1 : ((0 : Int) - ((M.log2 : Int) - 52)).toNat = 0 := by omega
          have e2 : (((M.log2 : Int) - 52) - 0).toNat = e := by omega
          rw [e1, e2]
          refine cut_even_dvd _ _ _ _ ?_
          rw [Nat.shiftLeft_zero, hlog, show min e (52 + e + 2) = e by omega]; exact hme
        · intro _
          rw [show ((M.log2 : Int) - 52).toNat = e by omega]; exact hme
        · intro hlt; omega
    rw [hlk, ← hK, read_word s K l hK1 hK2 (by omega) (by omega)]
    simp only [Datum.toInt, Datum.integral, cut_zero]
    have hKl : K.log2 = 52 := log2_of hK1 hK2
    have : (K <<< l.toNat) / 2 ^ (min (-l).toNat ((K <<< l.toNat).log2 + 2)) = M := by
      by_cases hge : 0 ≤ l
      · have e : (-l).toNat = 0 := by omega
        rw [e, Nat.zero_min, Nat.pow_zero, Nat.div_one, Nat.shiftLeft_eq]
        exact (hdef.1 hge).symm
      · have e : l.toNat = 0 := by omega
        obtain ⟨d1, d2⟩ := hdef.2 (by omega)
        rw [e, Nat.shiftLeft_zero, hKl, show min (-l).toNat (52 + 2) = (-l).toNat by omega, d1]
        exact Nat.mul_div_cancel _ (Nat.pow_pos (by decide))
    rw [this]

theorem ord_cmp (s t : Bool) (m n : Nat) (i j : Int) : Datum.order (.number s m i) (.number t n j) = some (compare (signed s m (i - min i j).toNat) (signed t n (j - min i j).toNat)) := rfl
/-- What a float that is no NaN, below 2^63, at least -2^63, has as its whole part. -/
theorem conv_ok (x : Nat) (h1 : feq x x = true) (h2 : ¬ fge x 4890909195324358656 = true) (h3 : ¬ flt x 14114281232179134464 = true) :
    truncV x = some (ftr x) ∧ (FloatKind.f64.decode (ftr x)).toInt .zero = some (ftz x) ∧ (-9223372036854775808 ≤ ftz x ∧ ftz x ≤ 9223372036854775807) := by
  have c1 : double.read 4890909195324358656 = .number false 4503599627370496 11 := rfl
  have c2 : double.read 14114281232179134464 = .number true 4503599627370496 11 := rfl
  have hfeq : feq x x = ((double.read x).order (double.read x) == some .eq) := rfl
  have hfge : fge x 4890909195324358656 = ((double.read x).order (double.read 4890909195324358656) == some .gt || (double.read x).order (double.read 4890909195324358656) == some .eq) := rfl
  have hflt : flt x 14114281232179134464 = ((double.read x).order (double.read 14114281232179134464) == some .lt) := rfl
  rw [hfeq] at h1; rw [hfge, c1] at h2; rw [hflt, c2] at h3
  rcases read_cases x with ⟨s, t, hx⟩ | ⟨s, hx⟩ | ⟨s, m, e, hx, hm, hn, he⟩
  · rw [hx] at h1; simp [Datum.order] at h1
  · rw [hx] at h2 h3
    cases s
    · simp [Datum.order] at h2
    · simp [Datum.order] at h3
  · have hd : FloatKind.f64.decode x = .number s m e := hx
    rw [hx] at h2 h3
    rw [ord_cmp] at h2 h3
    have ht : truncV x = some (double.write (.number s (Toward.zero.cut s (m <<< e.toNat) (-e).toNat) 0)) := by
      unfold truncV; rw [hd]; rfl
    have hftr : ftr x = double.write (.number s (Toward.zero.cut s (m <<< e.toNat) (-e).toNat) 0) := by unfold ftr; rw [ht]; rfl
    have hM : ∃ M, Toward.zero.cut s (m <<< e.toNat) (-e).toNat = M ∧ M ≤ 2 ^ 63 ∧ (s = false → M < 2 ^ 63) ∧ (M < 2 ^ 53 ∨ ∃ m e : Nat, M = m * 2 ^ e ∧ 2 ^ 52 ≤ m ∧ m < 2 ^ 53) := by
      by_cases hge : 0 ≤ e
      · obtain ⟨k, rfl⟩ : ∃ k : Nat, e = (k : Int) := ⟨e.toNat, by omega⟩
        have hm52 : 2 ^ 52 ≤ m := hn (by omega)
        have e1 : (-(k : Int)).toNat = 0 := by omega
        rw [cut_zero, e1, Nat.zero_min, Nat.pow_zero, Nat.div_one, Int.toNat_natCast, Nat.shiftLeft_eq]
        have hle : m * 2 ^ k ≤ 2 ^ 63 ∧ (s = false → m * 2 ^ k < 2 ^ 63) := by
          by_cases hk : k ≤ 11
          · have hp : 2 ^ k * 2 ^ (11 - k) = 2 ^ 11 := by rw [← Nat.pow_add]; congr 1; omega
            rw [show ((k : Int) - min (k : Int) 11).toNat = 0 by omega, show ((11 : Int) - min (k : Int) 11).toNat = 11 - k by omega] at h2 h3
            simp only [signed, Nat.shiftLeft_eq] at h2 h3
            have hpp : 0 < 2 ^ k := Nat.pow_pos (by decide)
            generalize 2 ^ (11 - k) = q at *
            generalize 2 ^ k = r at *
            cases s with
            | false =>
              simp only [Bool.false_eq_true, if_false] at h2
              have hlt : m < 4503599627370496 * q := by
                rcases Nat.lt_or_ge m (4503599627370496 * q) with hlt | hge2
                · exact hlt
                · exfalso; apply h2
                  rcases Nat.lt_or_eq_of_le hge2 with hgt | heq
                  · have : compare ((m * 2 ^ 0 : Nat) : Int) ((4503599627370496 * q : Nat) : Int) = .gt := Int.compare_eq_gt.2 (by omega)
                    rw [this]; rfl
                  · have : compare ((m * 2 ^ 0 : Nat) : Int) ((4503599627370496 * q : Nat) : Int) = .eq := Int.compare_eq_eq.2 (by omega)
                    rw [this]; rfl
              have : m * r < 4503599627370496 * q * r := Nat.mul_lt_mul_of_pos_right hlt hpp
              have e : 4503599627370496 * q * r = 2 ^ 63 := by rw [Nat.mul_assoc, Nat.mul_comm q r, hp]
              omega
            | true =>
              simp only [if_true] at h3
              have hle : m ≤ 4503599627370496 * q := by
                rcases Nat.lt_or_ge (4503599627370496 * q) m with hlt | hge2
                · exfalso; apply h3
                  have : compare (-((m * 2 ^ 0 : Nat) : Int)) (-((4503599627370496 * q : Nat) : Int)) = .lt := Int.compare_eq_lt.2 (by omega)
                  rw [this]; rfl
                · exact hge2
              have : m * r ≤ 4503599627370496 * q * r := Nat.mul_le_mul_right _ hle
              have e : 4503599627370496 * q * r = 2 ^ 63 := by rw [Nat.mul_assoc, Nat.mul_comm q r, hp]
              exact ⟨by omega, fun h => by cases h⟩
          · exfalso
            have hp : 2 ^ 12 ≤ 2 * 2 ^ (k - 11) * 2 ^ 11 := by
              have : 1 ≤ 2 ^ (k - 11) := Nat.one_le_two_pow
              omega
            have h2k : 2 ≤ 2 ^ (k - 11) := by
              calc 2 = 2 ^ 1 := rfl
                _ ≤ 2 ^ (k - 11) := Nat.pow_le_pow_right (by decide) (by omega)
            rw [show ((k : Int) - min (k : Int) 11).toNat = k - 11 by omega, show ((11 : Int) - min (k : Int) 11).toNat = 0 by omega] at h2 h3
            simp only [signed, Nat.shiftLeft_eq] at h2 h3
            have hbig : 4503599627370496 < m * 2 ^ (k - 11) := by
              have := Nat.mul_le_mul hm52 h2k
              omega
            generalize m * 2 ^ (k - 11) = z at *
            cases s with
            | false =>
              simp only [Bool.false_eq_true, if_false] at h2
              apply h2
              have : compare (z : Int) ((4503599627370496 * 2 ^ 0 : Nat) : Int) = .gt := Int.compare_eq_gt.2 (by omega)
              rw [this]; rfl
            | true =>
              simp only [if_true] at h3
              apply h3
              have : compare (-(z : Int)) (-((4503599627370496 * 2 ^ 0 : Nat) : Int)) = .lt := Int.compare_eq_lt.2 (by omega)
              rw [this]; rfl
        exact ⟨_, rfl, hle.1, hle.2, .inr ⟨m, k, rfl, hm52, hm⟩⟩
      · have e1 : e.toNat = 0 := by omega
        rw [cut_zero, e1, Nat.shiftLeft_zero]
        have hle : m / 2 ^ (min (-e).toNat (m.log2 + 2)) ≤ m := Nat.div_le_self _ _
        exact ⟨_, rfl, by omega, fun _ => by omega, .inl (by omega)⟩
    obtain ⟨M, hMe, hM1, hM2, hM3⟩ := hM
    rw [hMe] at ht hftr
    have hz := whole_exact s M hM1 hM3
    have hdz : (FloatKind.f64.decode (ftr x)).toInt .zero = some (signed s M 0) := by rw [hftr]; exact hz
    have hftz : ftz x = signed s M 0 := by unfold ftz; rw [hdz]; rfl
    refine ⟨by rw [ht, hftr], by rw [hdz, hftz], ?_⟩
    rw [hftz]
    exact signed_bound s M hM1 hM2
end Go.Ab
namespace Go.Proofs.Ytclpbfkbpcjejaa
open Go Go.Ab
set_option linter.unusedVariables false
set_option linter.unusedSimpArgs false
set_option linter.unnecessarySimpa false
set_option maxRecDepth 20000
noncomputable section
variable (fr : Fr) (st : St) (k : Kt)
theorem ty2 : gS.ty 2 = some { k := .int .i64, size := 1, agg := false, zero := [.int .i64 0] } := by kernel_rfl
theorem ty3 : gS.ty 3 = some { k := .int .i64, size := 1, agg := false, zero := [.int .i64 0] } := by kernel_rfl
theorem ty4 : gS.ty 4 = some { k := .bool, size := 1, agg := false, zero := [.bool false] } := by kernel_rfl
theorem ty5 : gS.ty 5 = some { k := .int .u8, size := 1, agg := false, zero := [.int .u8 0] } := by kernel_rfl
theorem ty9 : gS.ty 9 = some { k := .str, size := 1, agg := false, zero := [.str []] } := by kernel_rfl
theorem ty22 : gS.ty 22 = some { k := .float .f64, size := 1, agg := false, zero := [.float .f64 0] } := by kernel_rfl
theorem ty24 : gS.ty 24 = some { k := .struct [(0, 1, false), (1, 1, false), (2, 1, false), (3, 1, false), (4, 1, false)], size := 5, agg := true, zero := [.int .i64 0, .int .i64 0, .float .f64 0, .str [], .bool false] } := by kernel_rfl
theorem ty25 : gS.ty 25 = some { k := .slice 5 48 true [.int .i64 0, .int .i64 0, .float .f64 0, .str [], .bool false], size := 1, agg := false, zero := [.osl 0 []] } := by kernel_rfl
theorem ty27 : gS.ty 27 = some { k := .struct [(0, 1, false), (1, 1, false), (2, 5, true), (7, 5, true), (12, 1, false)], size := 13, agg := true, zero := [.str [], .int .i64 0, .int .i64 0, .int .i64 0, .float .f64 0, .str [], .bool false, .int .i64 0, .int .i64 0, .float .f64 0, .str [], .bool false, .osl 0 []] } := by kernel_rfl
theorem ty28 : gS.ty 28 = some { k := .slice 1 8 false [.int .i64 0], size := 1, agg := false, zero := [.osl 0 []] } := by kernel_rfl
theorem ty29 : gS.ty 29 = some { k := .pointer, size := 1, agg := false, zero := [.nilp] } := by kernel_rfl
theorem ty31 : gS.ty 31 = some { k := .struct [(0, 1, false), (1, 1, false)], size := 2, agg := true, zero := [.osl 0 [], .int .i64 0] } := by kernel_rfl
theorem ty49 : gS.ty 49 = some { k := .slice 13 144 true [.str [], .int .i64 0, .int .i64 0, .int .i64 0, .float .f64 0, .str [], .bool false, .int .i64 0, .int .i64 0, .float .f64 0, .str [], .bool false, .osl 0 []], size := 1, agg := false, zero := [.osl 0 []] } := by kernel_rfl
theorem ty50 : gS.ty 50 = some { k := .slice 6 64 true [.str [], .int .i64 0, .int .i64 0, .float .f64 0, .str [], .bool false], size := 1, agg := false, zero := [.osl 0 []] } := by kernel_rfl
theorem ty51 : gS.ty 51 = some { k := .slice 1 24 false [.osl 0 []], size := 1, agg := false, zero := [.osl 0 []] } := by kernel_rfl
theorem ty89 : gS.ty 89 = some { k := .array 6 1 false, size := 6, agg := true, zero := [.str [], .str [], .str [], .str [], .str [], .str []] } := by kernel_rfl
theorem ty90 : gS.ty 90 = some { k := .array 6 1 false, size := 6, agg := true, zero := [.int .i64 0, .int .i64 0, .int .i64 0, .int .i64 0, .int .i64 0, .int .i64 0] } := by kernel_rfl
theorem ty99 : gS.ty 99 = some { k := .struct [(0, 1, false), (1, 1, false), (2, 5, true)], size := 7, agg := true, zero := [.bool false, .bool false, .int .i64 0, .int .i64 0, .float .f64 0, .str [], .bool false] } := by kernel_rfl
theorem ty107 : gS.ty 107 = some { k := .array 4 1 false, size := 4, agg := true, zero := [.str [], .str [], .str [], .str []] } := by kernel_rfl
theorem ty109 : gS.ty 109 = some { k := .array 5 1 false, size := 5, agg := true, zero := [.str [], .str [], .str [], .str [], .str []] } := by kernel_rfl
theorem ty111 : gS.ty 111 = some { k := .struct [(0, 1, false), (1, 5, true)], size := 6, agg := true, zero := [.str [], .int .i64 0, .int .i64 0, .float .f64 0, .str [], .bool false] } := by kernel_rfl
theorem ty117 : gS.ty 117 = some { k := .array 14 1 false, size := 14, agg := true, zero := [.float .f64 0, .float .f64 0, .float .f64 0, .float .f64 0, .float .f64 0, .float .f64 0, .float .f64 0, .float .f64 0, .float .f64 0, .float .f64 0, .float .f64 0, .float .f64 0, .float .f64 0, .float .f64 0] } := by kernel_rfl
theorem ty123 : gS.ty 123 = some { k := .int .u64, size := 1, agg := false, zero := [.int .u64 0] } := by kernel_rfl
theorem eq24 : gS.eqs 24 = some [.int .i64, .int .i64, .float .f64, .str, .bool] := by kernel_rfl
theorem k115 (b : Nat) (fr : Fr) (st : St) : callStep gS (EvF gS) 115 [.float .f64 b] fr st = some (.ok (.val (.int .u64 b)) fr st) := rfl
theorem k120 (b v : Nat) (h : truncV b = some v) (fr : Fr) (st : St) : callStep gS (EvF gS) 120 [.float .f64 b] fr st = some (.ok (.val (.float .f64 v)) fr st) := by
  have e : gS.ext 120 = some .trunc := rfl
  unfold callStep
  simp only [e, extV, h, Option.map_some]
def fi116 : FI := { body := codeOf Try.f116, ntmps := 6, results := [.tmp 2], pers := [0, 2], locals := [], pure := true, marks := [] }
theorem fi116_eq : gS.fn 116 = some fi116 := by kernel_rfl
theorem st116 (a0 : V) : startFr fi116 [a0] = { ps := [(0, .val a0), (2, .any)], ts := [], lc := [] } := rfl
def b116 : Code := mini (codeOf Try.f116)
def c116_2 : Code := .seq (codeN b116 5) .ret
theorem e116_2 : evK gS fi116 c116_2 fr st k = opsR gS fi116 [mv 3 0 22,
 mv 4 0 22,
 bop 5 .neq 22 3 4 22 4,
 asn 2 5 4] fr st (.seq .ret k) := evK_rs 1 rfl (by kernel_rfl)
def c116_0 : Code := .seq (codeN b116 2) c116_2
theorem e116_0 : evK gS fi116 c116_0 fr st k = opsR gS fi116 [op1 2 (.assign (.const (.bool false))) 4] fr st (.seq c116_2 k) := evK_rs 0 rfl (by kernel_rfl)
theorem m116 : mini fi116.body = c116_0 := by kernel_rfl
set_option maxHeartbeats 4000000 in
theorem c116 (x : Nat)  (st : St) : EvF gS 116 [.float .f64 x] st = some (.ret (.bool (!feq x x)) none, st) := by
  refine EvF_start fi116_eq (fun x h => by cases h) m116 ?_
  rw [st116]
  have hm : fi116.marks = [] := rfl
  have hl : fi116.locals = [] := rfl
  have hr : fi116.results = [.tmp 2] := rfl
  simp (config := { contextual := true, maxSteps := 10000000, maxDischargeDepth := 6 }) [-Int.not_le, -Int.not_lt, -Nat.not_le, -Nat.not_lt, ty4, ty22, hm, hl, hr, e116_2, e116_0]
  all_goals first | done | grind | omega | (trace_state; fail)
theorem k116 (x : Nat)  (fr : Fr) (st : St) : callStep gS (EvF gS) 116 [.float .f64 x] fr st = some (.ok (retE none (.bool (!feq x x))) fr st) :=
  call_pure rfl fi116_eq rfl (fun st => c116 x  st) (by simp)
def fi117 : FI := { body := codeOf Try.f117, ntmps := 9, results := [.tmp 4], pers := [0, 1, 4], locals := [], pure := true, marks := [] }
theorem fi117_eq : gS.fn 117 = some fi117 := by kernel_rfl
theorem st117 (a0 a1 : V) : startFr fi117 [a0, a1] = { ps := [(0, .val a0), (1, .val a1), (4, .any)], ts := [], lc := [] } := rfl
def b117 : Code := mini (codeOf Try.f117)
def c117_7 : Code := .seq (codeN b117 73) .ret
def c117_13 : Code := .seq (codeN b117 313) .ret
def c117_12 : Code := .cond (.tmp 7) c117_13 .skip
def c117_10 : Code := .seq (codeN b117 89) c117_12
def c117_6 : Code := .cond (.tmp 5) c117_7 c117_10
def c117_4 : Code := .seq (codeN b117 17) c117_6
def c117_17 : Code := .seq (codeN b117 11) .ret
def c117_2 : Code := .seq (.block 0 c117_4) c117_17
def c117_0 : Code := .seq (codeN b117 2) c117_2
theorem E117 : evK gS fi117 c117_7 fr st k = opsR gS fi117 [op1 4 (.assign (.const (.int .i64 (-1)))) 3] fr st (.seq .ret k) ∧
 evK gS fi117 c117_13 fr st k = opsR gS fi117 [op1 4 (.assign (.const (.int .i64 1))) 3] fr st (.seq .ret k) ∧
 evK gS fi117 c117_12 fr st k = condK gS fi117 (fr.op (.tmp 7)).bool? c117_13 .skip fr st k ∧
 (evK gS fi117 c117_10 fr st k = opsR gS fi117 [mv 8 1 4,
 asn 7 8 4] fr st (.seq c117_12 k)) ∧
 evK gS fi117 c117_6 fr st k = condK gS fi117 (fr.op (.tmp 5)).bool? c117_7 c117_10 fr st k ∧
 (evK gS fi117 c117_4 fr st k = opsR gS fi117 [mv 6 0 4,
 asn 5 6 4] fr st (.seq c117_6 k)) ∧
 evK gS fi117 c117_17 fr st k = opsR gS fi117 [op1 4 (.assign (.const (.int .i64 0))) 3] fr st (.seq .ret k) ∧
 evK gS fi117 c117_2 fr st k = evK gS fi117 c117_4 fr st (.blk 0 (.seq c117_17 k)) ∧
 evK gS fi117 c117_0 fr st k = opsR gS fi117 [op1 4 (.assign (.const (.int .i64 0))) 3] fr st (.seq c117_2 k) := ⟨evK_rs 2 rfl (by kernel_rfl), evK_rs 4 rfl (by kernel_rfl), rfl, evK_rs 3 rfl (by kernel_rfl), rfl, evK_rs 1 rfl (by kernel_rfl), evK_rs 5 rfl (by kernel_rfl), rfl, evK_rs 0 rfl (by kernel_rfl)⟩
theorem m117 : mini fi117.body = c117_0 := by kernel_rfl
set_option maxHeartbeats 4000000 in
theorem c117 (b : Bool) (a : Bool)  (st : St) : EvF gS 117 [.bool b, .bool a] st = some (.ret (.int .i64 (sgn b a)) none, st) := by
  refine EvF_start fi117_eq (fun x h => by cases h) m117 ?_
  rw [st117]
  have hm : fi117.marks = [] := rfl
  have hl : fi117.locals = [] := rfl
  have hr : fi117.results = [.tmp 4] := rfl
  simp (config := { contextual := true, maxSteps := 10000000, maxDischargeDepth := 6 }) [-Int.not_le, -Int.not_lt, -Nat.not_le, -Nat.not_lt, ty3, ty4, hm, hl, hr, E117]
  all_goals try simp (config := { contextual := true }) [-Int.not_le, -Int.not_lt, -Nat.not_le, -Nat.not_lt, sgn]
  all_goals first | done | grind | omega | (trace_state; fail)
theorem k117 (b : Bool) (a : Bool)  (fr : Fr) (st : St) : callStep gS (EvF gS) 117 [.bool b, .bool a] fr st = some (.ok (retE none (.int .i64 (sgn b a))) fr st) :=
  call_pure rfl fi117_eq rfl (fun st => c117 b a  st) (by simp)
def fi105 : FI := { body := codeOf Try.f105, ntmps := 19, results := [.tmp 4, .tmp 5], pers := [0, 1, 4, 5], locals := [], pure := true, marks := [] }
theorem fi105_eq : gS.fn 105 = some fi105 := by kernel_rfl
theorem st105 (a0 a1 : V) : startFr fi105 [a0, a1] = { ps := [(0, .val a0), (1, .val a1), (4, .any), (5, .any)], ts := [], lc := [] } := rfl
def b105 : Code := mini (codeOf Try.f105)
def c105_6 : Code := .seq (codeN b105 37) .ret
def c105_5 : Code := .cond (.tmp 11) c105_6 .skip
def c105_3 : Code := .seq (codeN b105 9) c105_5
def c105_10 : Code := .seq (codeN b105 11) .ret
def c105_2 : Code := .seq c105_3 c105_10
def c105_0 : Code := .seq (codeN b105 2) c105_2
theorem E105 : (evK gS fi105 c105_6 fr st k = opsR gS fi105 [op1 4 (.assign (.const (.int .i64 0))) 3,
 op1 5 (.assign (.const (.bool false))) 4] fr st (.seq .ret k)) ∧
 evK gS fi105 c105_5 fr st k = condK gS fi105 (fr.op (.tmp 11)).bool? c105_6 .skip fr st k ∧
 (evK gS fi105 c105_3 fr st k = opsR gS fi105 [mv 6 0 22,
 cal 7 116 [(.tmp 6)] [22] 4,
 mv 8 7 4,
 mk (some 9) (.move (.tmp 1)) 22 (some (2, false)),
 mk (some 10) (.call { callee := (.value (.func 116)), args := #[(.tmp 9)], argTypes := #[22] }) 4 (some (2, false)),
 op1 11 (.pick (.tmp 8) (.const (.bool true)) (.tmp 10)) 4] fr st (.seq c105_5 k)) ∧
 (evK gS fi105 c105_10 fr st k = opsR gS fi105 [mv 12 0 22,
 mv 13 1 22,
 bop 14 .lss 22 12 13 22 4,
 mv 15 0 22,
 mv 16 1 22,
 bop 17 .gtr 22 15 16 22 4,
 cal 18 117 [(.tmp 14), (.tmp 17)] [4, 4] 3,
 asn 4 18 3,
 op1 5 (.assign (.const (.bool true))) 4] fr st (.seq .ret k)) ∧
 evK gS fi105 c105_2 fr st k = evK gS fi105 c105_3 fr st (.seq c105_10 k) ∧
 (evK gS fi105 c105_0 fr st k = opsR gS fi105 [op1 4 (.assign (.const (.int .i64 0))) 3,
 op1 5 (.assign (.const (.bool false))) 4] fr st (.seq c105_2 k)) := ⟨evK_rs 2 rfl (by kernel_rfl), rfl, evK_rs 1 rfl (by kernel_rfl), evK_rs 3 rfl (by kernel_rfl), rfl, evK_rs 0 rfl (by kernel_rfl)⟩
theorem m105 : mini fi105.body = c105_0 := by kernel_rfl
set_option maxHeartbeats 4000000 in
theorem c105 (a : Nat) (b : Nat)  (st : St) : EvF gS 105 [.float .f64 a, .float .f64 b] st = some (.ret (.tuple [.int .i64 (fcmp a b).1, .bool (fcmp a b).2]) none, st) := by
  refine EvF_start fi105_eq (fun x h => by cases h) m105 ?_
  rw [st105]
  have hm : fi105.marks = [] := rfl
  have hl : fi105.locals = [] := rfl
  have hr : fi105.results = [.tmp 4, .tmp 5] := rfl
  simp (config := { contextual := true, maxSteps := 10000000, maxDischargeDepth := 6 }) [-Int.not_le, -Int.not_lt, -Nat.not_le, -Nat.not_lt, ty3, ty4, ty22, hm, hl, hr, k116, k117, E105]
  all_goals try simp (config := { contextual := true }) [-Int.not_le, -Int.not_lt, -Nat.not_le, -Nat.not_lt, fcmp]
  all_goals first | done | grind | omega | (trace_state; fail)
theorem k105 (a : Nat) (b : Nat)  (fr : Fr) (st : St) : callStep gS (EvF gS) 105 [.float .f64 a, .float .f64 b] fr st = some (.ok (retE none (.tuple [.int .i64 (fcmp a b).1, .bool (fcmp a b).2])) fr st) :=
  call_pure rfl fi105_eq rfl (fun st => c105 a b  st) (by simp)
def fi118 : FI := { body := codeOf Try.f118, ntmps := 7, results := [.tmp 2], pers := [0, 2], locals := [], pure := true, marks := [] }
theorem fi118_eq : gS.fn 118 = some fi118 := by kernel_rfl
theorem st118 (a0 : V) : startFr fi118 [a0] = { ps := [(0, .val a0), (2, .any)], ts := [], lc := [] } := rfl
def b118 : Code := mini (codeOf Try.f118)
def c118_4 : Code := .seq (codeN b118 17) .ret
def c118_8 : Code := .seq (codeN b118 11) .ret
def c118_2 : Code := .seq (.cond (.const (.bool true)) c118_4 .skip) c118_8
def c118_0 : Code := .seq (codeN b118 2) c118_2
theorem E118 : (evK gS fi118 c118_4 fr st k = opsR gS fi118 [mv 3 0 22,
 cal 4 120 [(.tmp 3)] [22] 22,
 asn 2 4 22] fr st (.seq .ret k)) ∧
 (evK gS fi118 c118_8 fr st k = opsR gS fi118 [mv 5 0 22,
 cal 6 121 [(.tmp 5)] [22] 22,
 asn 2 6 22] fr st (.seq .ret k)) ∧
 evK gS fi118 c118_2 fr st k = condK gS fi118 (fr.op (.const (.bool true))).bool? c118_4 .skip fr st (.seq c118_8 k) ∧
 evK gS fi118 c118_0 fr st k = opsR gS fi118 [op1 2 (.assign (.const (.float .f64 0))) 22] fr st (.seq c118_2 k) := ⟨evK_rs 1 rfl (by kernel_rfl), evK_rs 2 rfl (by kernel_rfl), rfl, evK_rs 0 rfl (by kernel_rfl)⟩
theorem m118 : mini fi118.body = c118_0 := by kernel_rfl
set_option maxHeartbeats 4000000 in
theorem c118 (x : Nat) (h : truncV x = some (ftr x)) (st : St) : EvF gS 118 [.float .f64 x] st = some (.ret (.float .f64 (ftr x)) none, st) := by
  refine EvF_start fi118_eq (fun x h => by cases h) m118 ?_
  rw [st118]
  have hm : fi118.marks = [] := rfl
  have hl : fi118.locals = [] := rfl
  have hr : fi118.results = [.tmp 2] := rfl
  simp (config := { contextual := true, maxSteps := 10000000, maxDischargeDepth := 6 }) [-Int.not_le, -Int.not_lt, -Nat.not_le, -Nat.not_lt, ty22, hm, hl, hr, E118, k120 x (ftr x) h]
  all_goals first | done | grind | omega | (trace_state; fail)
theorem k118 (x : Nat) (h : truncV x = some (ftr x)) (fr : Fr) (st : St) : callStep gS (EvF gS) 118 [.float .f64 x] fr st = some (.ok (.val (.float .f64 (ftr x))) fr st) :=
  call_pure rfl fi118_eq rfl (fun st => c118 x h st) (by simp)
def fi106 : FI := { body := codeOf Try.f106, ntmps := 38, results := [.tmp 4, .tmp 5], pers := [0, 1, 4, 5, 6, 7], locals := [], pure := true, marks := [] }
theorem fi106_eq : gS.fn 106 = some fi106 := by kernel_rfl
theorem st106 (a0 a1 : V) : startFr fi106 [a0, a1] = { ps := [(0, .val a0), (1, .val a1), (4, .any), (5, .any), (6, .any), (7, .any)], ts := [], lc := [] } := rfl
def b106 : Code := mini (codeOf Try.f106)
def c106_7 : Code := .seq (codeN b106 73) .ret
def c106_13 : Code := .seq (codeN b106 313) .ret
def c106_19 : Code := .seq (codeN b106 1273) .ret
def c106_18 : Code := .cond (.tmp 14) c106_19 .skip
def c106_16 : Code := .seq (codeN b106 377) c106_18
def c106_12 : Code := .cond (.tmp 11) c106_13 c106_16
def c106_10 : Code := .seq (codeN b106 89) c106_12
def c106_6 : Code := .cond (.tmp 8) c106_7 c106_10
def c106_4 : Code := .seq (codeN b106 17) c106_6
def c106_31 : Code := .seq (codeN b106 311) .ret
def c106_30 : Code := .cond (.tmp 23) c106_31 .skip
def c106_28 : Code := .seq (codeN b106 87) c106_30
def c106_26 : Code := .seq (codeN b106 39) c106_28
def c106_35 : Code := .seq (codeN b106 47) .ret
def c106_25 : Code := .seq c106_26 c106_35
def c106_23 : Code := .seq (codeN b106 11) c106_25
def c106_2 : Code := .seq (.block 0 c106_4) c106_23
def c106_0 : Code := .seq (codeN b106 2) c106_2
theorem E106 : (evK gS fi106 c106_7 fr st k = opsR gS fi106 [op1 4 (.assign (.const (.int .i64 0))) 3,
 op1 5 (.assign (.const (.bool false))) 4] fr st (.seq .ret k)) ∧
 (evK gS fi106 c106_13 fr st k = opsR gS fi106 [op1 4 (.assign (.const (.int .i64 (-1)))) 3,
 op1 5 (.assign (.const (.bool true))) 4] fr st (.seq .ret k)) ∧
 (evK gS fi106 c106_19 fr st k = opsR gS fi106 [op1 4 (.assign (.const (.int .i64 1))) 3,
 op1 5 (.assign (.const (.bool true))) 4] fr st (.seq .ret k)) ∧
 evK gS fi106 c106_18 fr st k = condK gS fi106 (fr.op (.tmp 14)).bool? c106_19 .skip fr st k ∧
 (evK gS fi106 c106_16 fr st k = opsR gS fi106 [mv 15 1 22,
 op1 16 (.binOp .lss 22 (.tmp 15) (.const (.float .f64 14114281232179134464)) 22) 4,
 asn 14 16 4] fr st (.seq c106_18 k)) ∧
 evK gS fi106 c106_12 fr st k = condK gS fi106 (fr.op (.tmp 11)).bool? c106_13 c106_16 fr st k ∧
 (evK gS fi106 c106_10 fr st k = opsR gS fi106 [mv 12 1 22,
 op1 13 (.binOp .geq 22 (.tmp 12) (.const (.float .f64 4890909195324358656)) 22) 4,
 asn 11 13 4] fr st (.seq c106_12 k)) ∧
 evK gS fi106 c106_6 fr st k = condK gS fi106 (fr.op (.tmp 8)).bool? c106_7 c106_10 fr st k ∧
 (evK gS fi106 c106_4 fr st k = opsR gS fi106 [mv 9 1 22,
 cal 10 116 [(.tmp 9)] [22] 4,
 asn 8 10 4] fr st (.seq c106_6 k)) ∧
 (evK gS fi106 c106_31 fr st k = opsR gS fi106 [mv 24 0 2,
 mv 25 7 2,
 bop 26 .lss 2 24 25 2 4,
 mv 27 0 2,
 mv 28 7 2,
 bop 29 .gtr 2 27 28 2 4,
 cal 30 117 [(.tmp 26), (.tmp 29)] [4, 4] 3,
 asn 4 30 3,
 op1 5 (.assign (.const (.bool true))) 4] fr st (.seq .ret k)) ∧
 evK gS fi106 c106_30 fr st k = condK gS fi106 (fr.op (.tmp 23)).bool? c106_31 .skip fr st k ∧
 (evK gS fi106 c106_28 fr st k = opsR gS fi106 [mv 21 7 2,
 mv 22 0 2,
 bop 23 .neq 2 21 22 2 4] fr st (.seq c106_30 k)) ∧
 (evK gS fi106 c106_26 fr st k = opsR gS fi106 [mv 19 6 22,
 op1 20 (.convert 22 2 (.tmp 19)) 2,
 asn 7 20 2] fr st (.seq c106_28 k)) ∧
 (evK gS fi106 c106_35 fr st k = opsR gS fi106 [mv 31 6 22,
 mv 32 1 22,
 bop 33 .lss 22 31 32 22 4,
 mv 34 6 22,
 mv 35 1 22,
 bop 36 .gtr 22 34 35 22 4,
 cal 37 117 [(.tmp 33), (.tmp 36)] [4, 4] 3,
 asn 4 37 3,
 op1 5 (.assign (.const (.bool true))) 4] fr st (.seq .ret k)) ∧
 evK gS fi106 c106_25 fr st k = evK gS fi106 c106_26 fr st (.seq c106_35 k) ∧
 (evK gS fi106 c106_23 fr st k = opsR gS fi106 [mv 17 1 22,
 cal 18 118 [(.tmp 17)] [22] 22,
 asn 6 18 22] fr st (.seq c106_25 k)) ∧
 evK gS fi106 c106_2 fr st k = evK gS fi106 c106_4 fr st (.blk 0 (.seq c106_23 k)) ∧
 (evK gS fi106 c106_0 fr st k = opsR gS fi106 [op1 4 (.assign (.const (.int .i64 0))) 3,
 op1 5 (.assign (.const (.bool false))) 4] fr st (.seq c106_2 k)) := ⟨evK_rs 2 rfl (by kernel_rfl), evK_rs 4 rfl (by kernel_rfl), evK_rs 6 rfl (by kernel_rfl), rfl, evK_rs 5 rfl (by kernel_rfl), rfl, evK_rs 3 rfl (by kernel_rfl), rfl, evK_rs 1 rfl (by kernel_rfl), evK_rs 10 rfl (by kernel_rfl), rfl, evK_rs 9 rfl (by kernel_rfl), evK_rs 8 rfl (by kernel_rfl), evK_rs 11 rfl (by kernel_rfl), rfl, evK_rs 7 rfl (by kernel_rfl), rfl, evK_rs 0 rfl (by kernel_rfl)⟩
theorem m106 : mini fi106.body = c106_0 := by kernel_rfl
set_option maxHeartbeats 4000000 in
theorem c106 (n : Int) (x : Nat)  (st : St) : EvF gS 106 [.int .i64 n, .float .f64 x] st = some (.ret (.tuple [.int .i64 (icmp n x).1, .bool (icmp n x).2]) none, st) := by
  refine EvF_start fi106_eq (fun x h => by cases h) m106 ?_
  rw [st106]
  have hm : fi106.marks = [] := rfl
  have hl : fi106.locals = [] := rfl
  have hr : fi106.results = [.tmp 4, .tmp 5] := rfl
  by_cases h1 : feq x x = true
  · by_cases h2 : fge x 4890909195324358656 = true
    · simp (config := { contextual := true, maxSteps := 10000000 }) [icmp, sgn, h1, h2, -Int.not_le, -Int.not_lt, -Nat.not_le, -Nat.not_lt, ty2, ty3, ty4, ty22, hm, hl, hr, k116, k117, E106]
    · by_cases h3 : flt x 14114281232179134464 = true
      · simp (config := { contextual := true, maxSteps := 10000000 }) [icmp, sgn, h1, h2, h3, -Int.not_le, -Int.not_lt, -Nat.not_le, -Nat.not_lt, ty2, ty3, ty4, ty22, hm, hl, hr, k116, k117, E106]
      · obtain ⟨e1, e2, e3, e4⟩ := conv_ok x h1 h2 h3
        have e5 : IntKind.min .i64 ≤ ftz x := e3
        have e6 : ftz x ≤ IntKind.max .i64 := e4
        by_cases h4 : ftz x = n
        · subst h4
          simp (config := { contextual := true, maxSteps := 10000000 }) [icmp, h1, h2, h3, k118 x e1, e2, e3, e4, e5, e6, -Int.not_le, -Int.not_lt, -Nat.not_le, -Nat.not_lt, ty2, ty3, ty4, ty22, hm, hl, hr, k116, k117, E106]
          skip
        · skip
          have h5 : ¬ n = ftz x := fun h => h4 h.symm
          simp (config := { contextual := true, maxSteps := 10000000 }) [icmp, h1, h2, h3, h4, h5, k118 x e1, e2, e3, e4, e5, e6, -Int.not_le, -Int.not_lt, -Nat.not_le, -Nat.not_lt, ty2, ty3, ty4, ty22, hm, hl, hr, k116, k117, E106]
          skip
  · simp (config := { contextual := true, maxSteps := 10000000 }) [icmp, sgn, h1, -Int.not_le, -Int.not_lt, -Nat.not_le, -Nat.not_lt, ty2, ty3, ty4, ty22, hm, hl, hr, k116, k117, E106]
theorem k106 (n : Int) (x : Nat)  (fr : Fr) (st : St) : callStep gS (EvF gS) 106 [.int .i64 n, .float .f64 x] fr st = some (.ok (retE none (.tuple [.int .i64 (icmp n x).1, .bool (icmp n x).2])) fr st) :=
  call_pure rfl fi106_eq rfl (fun st => c106 n x  st) (by simp)
def fi119 : FI := { body := codeOf Try.f119, ntmps := 9, results := [.tmp 2], pers := [0, 2], locals := [], pure := true, marks := [] }
theorem fi119_eq : gS.fn 119 = some fi119 := by kernel_rfl
theorem st119 (a0 : V) : startFr fi119 [a0] = { ps := [(0, .val a0), (2, .any)], ts := [], lc := [] } := rfl
def b119 : Code := mini (codeOf Try.f119)
def c119_6 : Code := .seq (codeN b119 37) .ret
def c119_5 : Code := .cond (.tmp 4) c119_6 .skip
def c119_3 : Code := .seq (codeN b119 9) c119_5
def c119_14 : Code := .seq (codeN b119 75) .ret
def c119_13 : Code := .cond (.tmp 6) c119_14 .skip
def c119_11 : Code := .seq (codeN b119 19) c119_13
def c119_18 : Code := .seq (codeN b119 23) .ret
def c119_10 : Code := .seq c119_11 c119_18
def c119_2 : Code := .seq c119_3 c119_10
def c119_0 : Code := .seq (codeN b119 2) c119_2
theorem E119 : evK gS fi119 c119_6 fr st k = opsR gS fi119 [op1 2 (.assign (.const (.int .u64 9221120237041090560))) 123] fr st (.seq .ret k) ∧
 evK gS fi119 c119_5 fr st k = condK gS fi119 (fr.op (.tmp 4)).bool? c119_6 .skip fr st k ∧
 (evK gS fi119 c119_3 fr st k = opsR gS fi119 [mv 3 0 22,
 cal 4 116 [(.tmp 3)] [22] 4] fr st (.seq c119_5 k)) ∧
 evK gS fi119 c119_14 fr st k = opsR gS fi119 [op1 2 (.assign (.const (.int .u64 0))) 123] fr st (.seq .ret k) ∧
 evK gS fi119 c119_13 fr st k = condK gS fi119 (fr.op (.tmp 6)).bool? c119_14 .skip fr st k ∧
 (evK gS fi119 c119_11 fr st k = opsR gS fi119 [mv 5 0 22,
 op1 6 (.binOp .eql 22 (.tmp 5) (.const (.float .f64 0)) 22) 4] fr st (.seq c119_13 k)) ∧
 (evK gS fi119 c119_18 fr st k = opsR gS fi119 [mv 7 0 22,
 cal 8 115 [(.tmp 7)] [22] 123,
 asn 2 8 123] fr st (.seq .ret k)) ∧
 evK gS fi119 c119_10 fr st k = evK gS fi119 c119_11 fr st (.seq c119_18 k) ∧
 evK gS fi119 c119_2 fr st k = evK gS fi119 c119_3 fr st (.seq c119_10 k) ∧
 evK gS fi119 c119_0 fr st k = opsR gS fi119 [op1 2 (.assign (.const (.int .u64 0))) 123] fr st (.seq c119_2 k) := ⟨evK_rs 2 rfl (by kernel_rfl), rfl, evK_rs 1 rfl (by kernel_rfl), evK_rs 4 rfl (by kernel_rfl), rfl, evK_rs 3 rfl (by kernel_rfl), evK_rs 5 rfl (by kernel_rfl), rfl, rfl, evK_rs 0 rfl (by kernel_rfl)⟩
theorem m119 : mini fi119.body = c119_0 := by kernel_rfl
set_option maxHeartbeats 4000000 in
theorem c119 (x : Nat)  (st : St) : EvF gS 119 [.float .f64 x] st = some (.ret (.int .u64 (fbits x)) none, st) := by
  refine EvF_start fi119_eq (fun x h => by cases h) m119 ?_
  rw [st119]
  have hm : fi119.marks = [] := rfl
  have hl : fi119.locals = [] := rfl
  have hr : fi119.results = [.tmp 2] := rfl
  simp (config := { contextual := true, maxSteps := 10000000, maxDischargeDepth := 6 }) [-Int.not_le, -Int.not_lt, -Nat.not_le, -Nat.not_lt, ty4, ty22, ty123, hm, hl, hr, k115, k116, E119]
  all_goals try simp (config := { contextual := true }) [-Int.not_le, -Int.not_lt, -Nat.not_le, -Nat.not_lt, fbits]
  all_goals first | done | grind | omega | (trace_state; fail)
theorem k119 (x : Nat)  (fr : Fr) (st : St) : callStep gS (EvF gS) 119 [.float .f64 x] fr st = some (.ok (retE none (.int .u64 (fbits x))) fr st) :=
  call_pure rfl fi119_eq rfl (fun st => c119 x  st) (by simp)
def fi109 : FI := { body := codeOf Try.f109, ntmps := 10, results := [.tmp 4], pers := [0, 1, 4], locals := [], pure := true, marks := [] }
theorem fi109_eq : gS.fn 109 = some fi109 := by kernel_rfl
theorem st109 (a0 a1 : V) : startFr fi109 [a0, a1] = { ps := [(0, .val a0), (1, .val a1), (4, .any)], ts := [], lc := [] } := rfl
def b109 : Code := mini (codeOf Try.f109)
def c109_2 : Code := .seq (codeN b109 5) .ret
theorem e109_2 : evK gS fi109 c109_2 fr st k = opsR gS fi109 [mv 5 0 22,
 cal 6 119 [(.tmp 5)] [22] 123,
 mv 7 1 22,
 cal 8 119 [(.tmp 7)] [22] 123,
 bop 9 .eql 123 6 8 123 4,
 asn 4 9 4] fr st (.seq .ret k) := evK_rs 1 rfl (by kernel_rfl)
def c109_0 : Code := .seq (codeN b109 2) c109_2
theorem e109_0 : evK gS fi109 c109_0 fr st k = opsR gS fi109 [op1 4 (.assign (.const (.bool false))) 4] fr st (.seq c109_2 k) := evK_rs 0 rfl (by kernel_rfl)
theorem m109 : mini fi109.body = c109_0 := by kernel_rfl
set_option maxHeartbeats 4000000 in
theorem c109 (a : Nat) (b : Nat)  (st : St) : EvF gS 109 [.float .f64 a, .float .f64 b] st = some (.ret (.bool (fbits a = fbits b)) none, st) := by
  refine EvF_start fi109_eq (fun x h => by cases h) m109 ?_
  rw [st109]
  have hm : fi109.marks = [] := rfl
  have hl : fi109.locals = [] := rfl
  have hr : fi109.results = [.tmp 4] := rfl
  simp (config := { contextual := true, maxSteps := 10000000, maxDischargeDepth := 6 }) [-Int.not_le, -Int.not_lt, -Nat.not_le, -Nat.not_lt, ty4, ty22, ty123, hm, hl, hr, k119, e109_2, e109_0]
  all_goals first | done | grind | omega | (trace_state; fail)
theorem k109 (a : Nat) (b : Nat)  (fr : Fr) (st : St) : callStep gS (EvF gS) 109 [.float .f64 a, .float .f64 b] fr st = some (.ok (retE none (.bool (fbits a = fbits b))) fr st) :=
  call_pure rfl fi109_eq rfl (fun st => c109 a b  st) (by simp)
def fi104 : FI := { body := codeOf Try.f104, ntmps := 7, results := [.tmp 4], pers := [0, 1, 4], locals := [], pure := true, marks := [] }
theorem fi104_eq : gS.fn 104 = some fi104 := by kernel_rfl
theorem st104 (a0 a1 : V) : startFr fi104 [a0, a1] = { ps := [(0, .val a0), (1, .val a1), (4, .any)], ts := [], lc := [] } := rfl
def b104 : Code := mini (codeOf Try.f104)
def c104_6 : Code := .seq (codeN b104 37) .ret
def c104_5 : Code := .cond (.tmp 5) c104_6 .skip
def c104_3 : Code := .seq (codeN b104 9) c104_5
def c104_14 : Code := .seq (codeN b104 75) .ret
def c104_13 : Code := .cond (.tmp 6) c104_14 .skip
def c104_11 : Code := .seq (codeN b104 19) c104_13
def c104_18 : Code := .seq (codeN b104 23) .ret
def c104_10 : Code := .seq c104_11 c104_18
def c104_2 : Code := .seq c104_3 c104_10
def c104_0 : Code := .seq (codeN b104 2) c104_2
theorem E104 : evK gS fi104 c104_6 fr st k = opsR gS fi104 [op1 4 (.assign (.const (.int .i64 (-1)))) 3] fr st (.seq .ret k) ∧
 evK gS fi104 c104_5 fr st k = condK gS fi104 (fr.op (.tmp 5)).bool? c104_6 .skip fr st k ∧
 evK gS fi104 c104_3 fr st k = opsR gS fi104 [mv 5 0 4] fr st (.seq c104_5 k) ∧
 evK gS fi104 c104_14 fr st k = opsR gS fi104 [op1 4 (.assign (.const (.int .i64 1))) 3] fr st (.seq .ret k) ∧
 evK gS fi104 c104_13 fr st k = condK gS fi104 (fr.op (.tmp 6)).bool? c104_14 .skip fr st k ∧
 evK gS fi104 c104_11 fr st k = opsR gS fi104 [mv 6 1 4] fr st (.seq c104_13 k) ∧
 evK gS fi104 c104_18 fr st k = opsR gS fi104 [op1 4 (.assign (.const (.int .i64 0))) 3] fr st (.seq .ret k) ∧
 evK gS fi104 c104_10 fr st k = evK gS fi104 c104_11 fr st (.seq c104_18 k) ∧
 evK gS fi104 c104_2 fr st k = evK gS fi104 c104_3 fr st (.seq c104_10 k) ∧
 evK gS fi104 c104_0 fr st k = opsR gS fi104 [op1 4 (.assign (.const (.int .i64 0))) 3] fr st (.seq c104_2 k) := ⟨evK_rs 2 rfl (by kernel_rfl), rfl, evK_rs 1 rfl (by kernel_rfl), evK_rs 4 rfl (by kernel_rfl), rfl, evK_rs 3 rfl (by kernel_rfl), evK_rs 5 rfl (by kernel_rfl), rfl, rfl, evK_rs 0 rfl (by kernel_rfl)⟩
theorem m104 : mini fi104.body = c104_0 := by kernel_rfl
set_option maxHeartbeats 4000000 in
theorem c104 (b : Bool) (a : Bool)  (st : St) : EvF gS 104 [.bool b, .bool a] st = some (.ret (.int .i64 (sgn b a)) none, st) := by
  refine EvF_start fi104_eq (fun x h => by cases h) m104 ?_
  rw [st104]
  have hm : fi104.marks = [] := rfl
  have hl : fi104.locals = [] := rfl
  have hr : fi104.results = [.tmp 4] := rfl
  simp (config := { contextual := true, maxSteps := 10000000, maxDischargeDepth := 6 }) [-Int.not_le, -Int.not_lt, -Nat.not_le, -Nat.not_lt, ty3, ty4, hm, hl, hr, E104]
  all_goals try simp (config := { contextual := true }) [-Int.not_le, -Int.not_lt, -Nat.not_le, -Nat.not_lt, sgn]
  all_goals first | done | grind | omega | (trace_state; fail)
theorem k104 (b : Bool) (a : Bool)  (fr : Fr) (st : St) : callStep gS (EvF gS) 104 [.bool b, .bool a] fr st = some (.ok (retE none (.int .i64 (sgn b a))) fr st) :=
  call_pure rfl fi104_eq rfl (fun st => c104 b a  st) (by simp)
end
end Go.Proofs.Ytclpbfkbpcjejaa
namespace Go.Proofs.Ytclpbfkbpcjejaa
open Go Go.Ab
set_option linter.unusedVariables false
set_option linter.unusedSimpArgs false
set_option linter.unnecessarySimpa false
set_option maxRecDepth 20000
noncomputable section
variable (fr : Fr) (st : St) (k : Kt)
def fi75 : FI := { body := codeOf Try.f75, ntmps := 124, results := [.tmp 4, .tmp 5], pers := [0, 1, 2, 3, 4, 5, 6, 7], locals := [2, 3], pure := true, marks := [] }
theorem fi75_eq : gS.fn 75 = some fi75 := by kernel_rfl
theorem st75 (a0 a1 : V) : startFr fi75 [a0, a1] = { ps := [(0, .val a0), (1, .val a1), (2, .any), (3, .any), (4, .any), (5, .any), (6, .any), (7, .any)], ts := [], lc := [] } := rfl
def b75 : Code := mini (codeOf Try.f75)
def c75_7 : Code := .seq (codeN b75 73) .ret
def c75_13 : Code := .seq (codeN b75 313) .ret
def c75_19 : Code := .seq (codeN b75 1273) .ret
def c75_27 : Code := .seq (codeN b75 11257) .ret
def c75_25 : Code := .seq (codeN b75 5113) c75_27
def c75_33 : Code := .seq (codeN b75 20473) .ret
def c75_39 : Code := .seq (codeN b75 81913) .ret
def c75_38 : Code := .cond (.tmp 100) c75_39 .skip
def c75_36 : Code := .seq (codeN b75 24569) c75_38
def c75_32 : Code := .cond (.tmp 80) c75_33 c75_36
def c75_30 : Code := .seq (codeN b75 6137) c75_32
def c75_24 : Code := .cond (.tmp 60) c75_25 c75_30
def c75_22 : Code := .seq (codeN b75 1529) c75_24
def c75_18 : Code := .cond (.tmp 44) c75_19 c75_22
def c75_16 : Code := .seq (codeN b75 377) c75_18
def c75_12 : Code := .cond (.tmp 28) c75_13 c75_16
def c75_10 : Code := .seq (codeN b75 89) c75_12
def c75_6 : Code := .cond (.tmp 8) c75_7 c75_10
def c75_4 : Code := .seq (codeN b75 17) c75_6
def c75_43 : Code := .seq (codeN b75 11) .ret
def c75_2 : Code := .seq (.block 0 c75_4) c75_43
def c75_0 : Code := .seq (codeN b75 2) c75_2
theorem E75 : (evK gS fi75 c75_7 fr st k = opsR gS fi75 [op1 17 (.fieldAddr 24 (.tmp 2) 1) 0,
 ld 18 2 17 2,
 op1 19 (.fieldAddr 24 (.tmp 3) 1) 0,
 ld 20 2 19 2,
 bop 21 .lss 2 18 20 2 4,
 op1 22 (.fieldAddr 24 (.tmp 2) 1) 0,
 ld 23 2 22 2,
 op1 24 (.fieldAddr 24 (.tmp 3) 1) 0,
 ld 25 2 24 2,
 bop 26 .gtr 2 23 25 2 4,
 cal 27 104 [(.tmp 21), (.tmp 26)] [4, 4] 3,
 asn 4 27 3,
 op1 5 (.assign (.const (.bool true))) 4] fr st (.seq .ret k)) ∧
 (evK gS fi75 c75_13 fr st k = opsR gS fi75 [op1 37 (.fieldAddr 24 (.tmp 2) 2) 0,
 ld 38 22 37 22,
 op1 39 (.fieldAddr 24 (.tmp 3) 2) 0,
 ld 40 22 39 22,
 cal 41 105 [(.tmp 38), (.tmp 40)] [22, 22] 94,
 op1 42 (.extract (.tmp 41) 0) 3,
 op1 43 (.extract (.tmp 41) 1) 4,
 asn 4 42 3,
 asn 5 43 4] fr st (.seq .ret k)) ∧
 (evK gS fi75 c75_19 fr st k = opsR gS fi75 [op1 53 (.fieldAddr 24 (.tmp 2) 1) 0,
 ld 54 2 53 2,
 op1 55 (.fieldAddr 24 (.tmp 3) 2) 0,
 ld 56 22 55 22,
 cal 57 106 [(.tmp 54), (.tmp 56)] [2, 22] 94,
 op1 58 (.extract (.tmp 57) 0) 3,
 op1 59 (.extract (.tmp 57) 1) 4,
 asn 4 58 3,
 asn 5 59 4] fr st (.seq .ret k)) ∧
 (evK gS fi75 c75_27 fr st k = opsR gS fi75 [mv 77 6 3,
 op1 78 (.unOp .neg 3 (.tmp 77)) 3,
 mv 79 7 4,
 asn 4 78 3,
 asn 5 79 4] fr st (.seq .ret k)) ∧
 (evK gS fi75 c75_25 fr st k = opsR gS fi75 [op1 70 (.fieldAddr 24 (.tmp 3) 1) 0,
 ld 71 2 70 2,
 op1 72 (.fieldAddr 24 (.tmp 2) 2) 0,
 ld 73 22 72 22,
 cal 74 106 [(.tmp 71), (.tmp 73)] [2, 22] 94,
 mv 69 74 94,
 op1 75 (.extract (.tmp 69) 0) 3,
 op1 76 (.extract (.tmp 69) 1) 4,
 asn 6 75 3,
 asn 7 76 4] fr st (.seq c75_27 k)) ∧
 (evK gS fi75 c75_33 fr st k = opsR gS fi75 [op1 89 (.fieldAddr 24 (.tmp 2) 3) 0,
 ld 90 9 89 9,
 op1 91 (.fieldAddr 24 (.tmp 3) 3) 0,
 ld 92 9 91 9,
 bop 93 .lss 9 90 92 9 4,
 op1 94 (.fieldAddr 24 (.tmp 2) 3) 0,
 ld 95 9 94 9,
 op1 96 (.fieldAddr 24 (.tmp 3) 3) 0,
 ld 97 9 96 9,
 bop 98 .gtr 9 95 97 9 4,
 cal 99 104 [(.tmp 93), (.tmp 98)] [4, 4] 3,
 asn 4 99 3,
 op1 5 (.assign (.const (.bool true))) 4] fr st (.seq .ret k)) ∧
 (evK gS fi75 c75_39 fr st k = opsR gS fi75 [op1 109 (.fieldAddr 24 (.tmp 2) 4) 0,
 ld 110 4 109 4,
 op1 111 (.unOp .not 4 (.tmp 110)) 4,
 mv 112 111 4,
 mk (some 113) (.fieldAddr 24 (.tmp 3) 4) 0 (some (3, true)),
 mk (some 114) (.load 4 (.tmp 113)) 4 (some (3, true)),
 op1 115 (.pick (.tmp 112) (.tmp 114) (.const (.bool false))) 4,
 op1 116 (.fieldAddr 24 (.tmp 2) 4) 0,
 ld 117 4 116 4,
 mv 118 117 4,
 mk (some 119) (.fieldAddr 24 (.tmp 3) 4) 0 (some (9, true)),
 mk (some 120) (.load 4 (.tmp 119)) 4 (some (9, true)),
 mk (some 121) (.unOp .not 4 (.tmp 120)) 4 (some (9, true)),
 op1 122 (.pick (.tmp 118) (.tmp 121) (.const (.bool false))) 4,
 cal 123 104 [(.tmp 115), (.tmp 122)] [4, 4] 3,
 asn 4 123 3,
 op1 5 (.assign (.const (.bool true))) 4] fr st (.seq .ret k)) ∧
 evK gS fi75 c75_38 fr st k = condK gS fi75 (fr.op (.tmp 100)).bool? c75_39 .skip fr st k ∧
 (evK gS fi75 c75_36 fr st k = opsR gS fi75 [op1 101 (.fieldAddr 24 (.tmp 2) 0) 0,
 ld 102 3 101 3,
 op1 103 (.binOp .eql 3 (.tmp 102) (.const (.int .i64 4)) 3) 4,
 mv 104 103 4,
 mk (some 105) (.fieldAddr 24 (.tmp 3) 0) 0 (some (3, true)),
 mk (some 106) (.load 3 (.tmp 105)) 3 (some (3, true)),
 mk (some 107) (.binOp .eql 3 (.tmp 106) (.const (.int .i64 4)) 3) 4 (some (3, true)),
 op1 108 (.pick (.tmp 104) (.tmp 107) (.const (.bool false))) 4,
 asn 100 108 4] fr st (.seq c75_38 k)) ∧
 evK gS fi75 c75_32 fr st k = condK gS fi75 (fr.op (.tmp 80)).bool? c75_33 c75_36 fr st k ∧
 (evK gS fi75 c75_30 fr st k = opsR gS fi75 [op1 81 (.fieldAddr 24 (.tmp 2) 0) 0,
 ld 82 3 81 3,
 op1 83 (.binOp .eql 3 (.tmp 82) (.const (.int .i64 3)) 3) 4,
 mv 84 83 4,
 mk (some 85) (.fieldAddr 24 (.tmp 3) 0) 0 (some (3, true)),
 mk (some 86) (.load 3 (.tmp 85)) 3 (some (3, true)),
 mk (some 87) (.binOp .eql 3 (.tmp 86) (.const (.int .i64 3)) 3) 4 (some (3, true)),
 op1 88 (.pick (.tmp 84) (.tmp 87) (.const (.bool false))) 4,
 asn 80 88 4] fr st (.seq c75_32 k)) ∧
 evK gS fi75 c75_24 fr st k = condK gS fi75 (fr.op (.tmp 60)).bool? c75_25 c75_30 fr st k ∧
 (evK gS fi75 c75_22 fr st k = opsR gS fi75 [op1 61 (.fieldAddr 24 (.tmp 2) 0) 0,
 ld 62 3 61 3,
 op1 63 (.binOp .eql 3 (.tmp 62) (.const (.int .i64 2)) 3) 4,
 mv 64 63 4,
 mk (some 65) (.fieldAddr 24 (.tmp 3) 0) 0 (some (3, true)),
 mk (some 66) (.load 3 (.tmp 65)) 3 (some (3, true)),
 mk (some 67) (.binOp .eql 3 (.tmp 66) (.const (.int .i64 1)) 3) 4 (some (3, true)),
 op1 68 (.pick (.tmp 64) (.tmp 67) (.const (.bool false))) 4,
 asn 60 68 4] fr st (.seq c75_24 k)) ∧
 evK gS fi75 c75_18 fr st k = condK gS fi75 (fr.op (.tmp 44)).bool? c75_19 c75_22 fr st k ∧
 (evK gS fi75 c75_16 fr st k = opsR gS fi75 [op1 45 (.fieldAddr 24 (.tmp 2) 0) 0,
 ld 46 3 45 3,
 op1 47 (.binOp .eql 3 (.tmp 46) (.const (.int .i64 1)) 3) 4,
 mv 48 47 4,
 mk (some 49) (.fieldAddr 24 (.tmp 3) 0) 0 (some (3, true)),
 mk (some 50) (.load 3 (.tmp 49)) 3 (some (3, true)),
 mk (some 51) (.binOp .eql 3 (.tmp 50) (.const (.int .i64 2)) 3) 4 (some (3, true)),
 op1 52 (.pick (.tmp 48) (.tmp 51) (.const (.bool false))) 4,
 asn 44 52 4] fr st (.seq c75_18 k)) ∧
 evK gS fi75 c75_12 fr st k = condK gS fi75 (fr.op (.tmp 28)).bool? c75_13 c75_16 fr st k ∧
 (evK gS fi75 c75_10 fr st k = opsR gS fi75 [op1 29 (.fieldAddr 24 (.tmp 2) 0) 0,
 ld 30 3 29 3,
 op1 31 (.binOp .eql 3 (.tmp 30) (.const (.int .i64 2)) 3) 4,
 mv 32 31 4,
 mk (some 33) (.fieldAddr 24 (.tmp 3) 0) 0 (some (3, true)),
 mk (some 34) (.load 3 (.tmp 33)) 3 (some (3, true)),
 mk (some 35) (.binOp .eql 3 (.tmp 34) (.const (.int .i64 2)) 3) 4 (some (3, true)),
 op1 36 (.pick (.tmp 32) (.tmp 35) (.const (.bool false))) 4,
 asn 28 36 4] fr st (.seq c75_12 k)) ∧
 evK gS fi75 c75_6 fr st k = condK gS fi75 (fr.op (.tmp 8)).bool? c75_7 c75_10 fr st k ∧
 (evK gS fi75 c75_4 fr st k = opsR gS fi75 [op1 9 (.fieldAddr 24 (.tmp 2) 0) 0,
 ld 10 3 9 3,
 op1 11 (.binOp .eql 3 (.tmp 10) (.const (.int .i64 1)) 3) 4,
 mv 12 11 4,
 mk (some 13) (.fieldAddr 24 (.tmp 3) 0) 0 (some (3, true)),
 mk (some 14) (.load 3 (.tmp 13)) 3 (some (3, true)),
 mk (some 15) (.binOp .eql 3 (.tmp 14) (.const (.int .i64 1)) 3) 4 (some (3, true)),
 op1 16 (.pick (.tmp 12) (.tmp 15) (.const (.bool false))) 4,
 asn 8 16 4] fr st (.seq c75_6 k)) ∧
 (evK gS fi75 c75_43 fr st k = opsR gS fi75 [op1 4 (.assign (.const (.int .i64 0))) 3,
 op1 5 (.assign (.const (.bool false))) 4] fr st (.seq .ret k)) ∧
 evK gS fi75 c75_2 fr st k = evK gS fi75 c75_4 fr st (.blk 0 (.seq c75_43 k)) ∧
 (evK gS fi75 c75_0 fr st k = opsR gS fi75 [op1 2 (.box 24 (.tmp 0)) 0,
 op1 3 (.box 24 (.tmp 1)) 0,
 op1 4 (.assign (.const (.int .i64 0))) 3,
 op1 5 (.assign (.const (.bool false))) 4] fr st (.seq c75_2 k)) := ⟨evK_rs 2 rfl (by kernel_rfl), evK_rs 4 rfl (by kernel_rfl), evK_rs 6 rfl (by kernel_rfl), evK_rs 9 rfl (by kernel_rfl), evK_rs 8 rfl (by kernel_rfl), evK_rs 11 rfl (by kernel_rfl), evK_rs 13 rfl (by kernel_rfl), rfl, evK_rs 12 rfl (by kernel_rfl), rfl, evK_rs 10 rfl (by kernel_rfl), rfl, evK_rs 7 rfl (by kernel_rfl), rfl, evK_rs 5 rfl (by kernel_rfl), rfl, evK_rs 3 rfl (by kernel_rfl), rfl, evK_rs 1 rfl (by kernel_rfl), evK_rs 14 rfl (by kernel_rfl), rfl, evK_rs 0 rfl (by kernel_rfl)⟩
theorem m75 : mini fi75.body = c75_0 := by kernel_rfl
set_option maxHeartbeats 4000000 in
theorem c75 (a : Val) (b : Val)  (st : St) : EvF gS 75 [a.enc, b.enc] st = some (.ret (.tuple [.int .i64 (cmp a b).1, .bool (cmp a b).2]) none, st) := by
  refine EvF_start fi75_eq (fun x h => by cases h) m75 ?_
  rw [st75]
  have hm : fi75.marks = [] := rfl
  have hl : fi75.locals = [2, 3] := rfl
  have hr : fi75.results = [.tmp 4, .tmp 5] := rfl
  simp (config := { contextual := true, maxSteps := 10000000, maxDischargeDepth := 6 }) [-Int.not_le, -Int.not_lt, -Nat.not_le, -Nat.not_lt, ty2, ty3, ty4, ty9, ty22, ty24, eq24, hm, hl, hr, k104, k105, k106, E75]
  all_goals try simp (config := { contextual := true }) [-Int.not_le, -Int.not_lt, -Nat.not_le, -Nat.not_lt, cmp, scmp]
  all_goals first | done | grind | omega | (trace_state; fail)
theorem k75 (a_k : Int) (a_n : Int) (a_x : Nat) (a_s : List UInt8) (a_b : Bool) (b_k : Int) (b_n : Int) (b_x : Nat) (b_s : List UInt8) (b_b : Bool)  (fr : Fr) (st : St) : callStep gS (EvF gS) 75 [.agg [.int .i64 a_k, .int .i64 a_n, .float .f64 a_x, .str a_s, .bool a_b], .agg [.int .i64 b_k, .int .i64 b_n, .float .f64 b_x, .str b_s, .bool b_b]] fr st = some (.ok (retE none (.tuple [.int .i64 (cmp (⟨a_k, a_n, a_x, a_s, a_b⟩ : Val) (⟨b_k, b_n, b_x, b_s, b_b⟩ : Val)).1, .bool (cmp (⟨a_k, a_n, a_x, a_s, a_b⟩ : Val) (⟨b_k, b_n, b_x, b_s, b_b⟩ : Val)).2])) fr st) :=
  call_pure rfl fi75_eq rfl (fun st => c75 (⟨a_k, a_n, a_x, a_s, a_b⟩ : Val) (⟨b_k, b_n, b_x, b_s, b_b⟩ : Val)  st) (by simp)
def fi32 : FI := { body := codeOf Try.f32, ntmps := 18, results := [.tmp 4], pers := [0, 1, 2, 3, 4, 5, 6], locals := [2, 3], pure := true, marks := [] }
theorem fi32_eq : gS.fn 32 = some fi32 := by kernel_rfl
theorem st32 (a0 a1 : V) : startFr fi32 [a0, a1] = { ps := [(0, .val a0), (1, .val a1), (2, .any), (3, .any), (4, .any), (5, .any), (6, .any)], ts := [], lc := [] } := rfl
def b32 : Code := mini (codeOf Try.f32)
def c32_4 : Code := .seq (codeN b32 11) .ret
theorem e32_4 : evK gS fi32 c32_4 fr st k = opsR gS fi32 [mv 13 6 4,
 mv 14 13 4,
 mk (some 15) (.move (.tmp 5)) 3 (some (1, true)),
 mk (some 16) (.binOp .eql 3 (.tmp 15) (.const (.int .i64 0)) 3) 4 (some (1, true)),
 op1 17 (.pick (.tmp 14) (.tmp 16) (.const (.bool false))) 4,
 asn 4 17 4] fr st (.seq .ret k) := evK_rs 2 rfl (by kernel_rfl)
def c32_2 : Code := .seq (codeN b32 5) c32_4
theorem e32_2 : evK gS fi32 c32_2 fr st k = opsR gS fi32 [ld 8 24 2 24,
 ld 9 24 3 24,
 cal 10 75 [(.tmp 8), (.tmp 9)] [24, 24] 94,
 mv 7 10 94,
 op1 11 (.extract (.tmp 7) 0) 3,
 op1 12 (.extract (.tmp 7) 1) 4,
 asn 5 11 3,
 asn 6 12 4] fr st (.seq c32_4 k) := evK_rs 1 rfl (by kernel_rfl)
def c32_0 : Code := .seq (codeN b32 2) c32_2
theorem e32_0 : evK gS fi32 c32_0 fr st k = opsR gS fi32 [op1 2 (.box 24 (.tmp 0)) 0,
 op1 3 (.box 24 (.tmp 1)) 0,
 op1 4 (.assign (.const (.bool false))) 4] fr st (.seq c32_2 k) := evK_rs 0 rfl (by kernel_rfl)
theorem m32 : mini fi32.body = c32_0 := by kernel_rfl
set_option maxHeartbeats 4000000 in
theorem c32 (a : Val) (b : Val)  (st : St) : EvF gS 32 [a.enc, b.enc] st = some (.ret (.bool (vis a b)) none, st) := by
  refine EvF_start fi32_eq (fun x h => by cases h) m32 ?_
  rw [st32]
  have hm : fi32.marks = [] := rfl
  have hl : fi32.locals = [2, 3] := rfl
  have hr : fi32.results = [.tmp 4] := rfl
  simp (config := { contextual := true, maxSteps := 10000000, maxDischargeDepth := 6 }) [-Int.not_le, -Int.not_lt, -Nat.not_le, -Nat.not_lt, ty3, ty4, ty24, eq24, hm, hl, hr, k75, e32_4, e32_2, e32_0]
  all_goals try simp (config := { contextual := true }) [-Int.not_le, -Int.not_lt, -Nat.not_le, -Nat.not_lt, vis]
  all_goals first | done | grind | omega | (trace_state; fail)
theorem k32 (a_k : Int) (a_n : Int) (a_x : Nat) (a_s : List UInt8) (a_b : Bool) (b_k : Int) (b_n : Int) (b_x : Nat) (b_s : List UInt8) (b_b : Bool)  (fr : Fr) (st : St) : callStep gS (EvF gS) 32 [.agg [.int .i64 a_k, .int .i64 a_n, .float .f64 a_x, .str a_s, .bool a_b], .agg [.int .i64 b_k, .int .i64 b_n, .float .f64 b_x, .str b_s, .bool b_b]] fr st = some (.ok (retE none (.bool (vis (⟨a_k, a_n, a_x, a_s, a_b⟩ : Val) (⟨b_k, b_n, b_x, b_s, b_b⟩ : Val)))) fr st) :=
  call_pure rfl fi32_eq rfl (fun st => c32 (⟨a_k, a_n, a_x, a_s, a_b⟩ : Val) (⟨b_k, b_n, b_x, b_s, b_b⟩ : Val)  st) (by simp)
def fi81 : FI := { body := codeOf Try.f81, ntmps := 38, results := [.tmp 4], pers := [0, 1, 2, 3, 4], locals := [2, 3], pure := true, marks := [] }
theorem fi81_eq : gS.fn 81 = some fi81 := by kernel_rfl
theorem st81 (a0 a1 : V) : startFr fi81 [a0, a1] = { ps := [(0, .val a0), (1, .val a1), (2, .any), (3, .any), (4, .any)], ts := [], lc := [] } := rfl
def b81 : Code := mini (codeOf Try.f81)
def c81_2 : Code := .seq (codeN b81 5) .ret
theorem e81_2 : evK gS fi81 c81_2 fr st k = opsR gS fi81 [op1 5 (.fieldAddr 24 (.tmp 2) 0) 0,
 ld 6 3 5 3,
 op1 7 (.fieldAddr 24 (.tmp 3) 0) 0,
 ld 8 3 7 3,
 bop 9 .eql 3 6 8 3 4,
 mv 10 9 4,
 mk (some 11) (.fieldAddr 24 (.tmp 2) 1) 0 (some (5, true)),
 mk (some 12) (.load 2 (.tmp 11)) 2 (some (5, true)),
 mk (some 13) (.fieldAddr 24 (.tmp 3) 1) 0 (some (5, true)),
 mk (some 14) (.load 2 (.tmp 13)) 2 (some (5, true)),
 mk (some 15) (.binOp .eql 2 (.tmp 12) (.tmp 14) 2) 4 (some (5, true)),
 op1 16 (.pick (.tmp 10) (.tmp 15) (.const (.bool false))) 4,
 mv 17 16 4,
 mk (some 18) (.fieldAddr 24 (.tmp 2) 3) 0 (some (12, true)),
 mk (some 19) (.load 9 (.tmp 18)) 9 (some (12, true)),
 mk (some 20) (.fieldAddr 24 (.tmp 3) 3) 0 (some (12, true)),
 mk (some 21) (.load 9 (.tmp 20)) 9 (some (12, true)),
 mk (some 22) (.binOp .eql 9 (.tmp 19) (.tmp 21) 9) 4 (some (12, true)),
 op1 23 (.pick (.tmp 17) (.tmp 22) (.const (.bool false))) 4,
 mv 24 23 4,
 mk (some 25) (.fieldAddr 24 (.tmp 2) 4) 0 (some (19, true)),
 mk (some 26) (.load 4 (.tmp 25)) 4 (some (19, true)),
 mk (some 27) (.fieldAddr 24 (.tmp 3) 4) 0 (some (19, true)),
 mk (some 28) (.load 4 (.tmp 27)) 4 (some (19, true)),
 mk (some 29) (.binOp .eql 4 (.tmp 26) (.tmp 28) 4) 4 (some (19, true)),
 op1 30 (.pick (.tmp 24) (.tmp 29) (.const (.bool false))) 4,
 mv 31 30 4,
 mk (some 32) (.fieldAddr 24 (.tmp 2) 2) 0 (some (26, true)),
 mk (some 33) (.load 22 (.tmp 32)) 22 (some (26, true)),
 mk (some 34) (.fieldAddr 24 (.tmp 3) 2) 0 (some (26, true)),
 mk (some 35) (.load 22 (.tmp 34)) 22 (some (26, true)),
 mk (some 36) (.call { callee := (.value (.func 109)), args := #[(.tmp 33), (.tmp 35)], argTypes := #[22, 22] }) 4 (some (26, true)),
 op1 37 (.pick (.tmp 31) (.tmp 36) (.const (.bool false))) 4,
 asn 4 37 4] fr st (.seq .ret k) := evK_rs 1 rfl (by kernel_rfl)
def c81_0 : Code := .seq (codeN b81 2) c81_2
theorem e81_0 : evK gS fi81 c81_0 fr st k = opsR gS fi81 [op1 2 (.box 24 (.tmp 0)) 0,
 op1 3 (.box 24 (.tmp 1)) 0,
 op1 4 (.assign (.const (.bool false))) 4] fr st (.seq c81_2 k) := evK_rs 0 rfl (by kernel_rfl)
theorem m81 : mini fi81.body = c81_0 := by kernel_rfl
set_option maxHeartbeats 4000000 in
theorem c81 (a : Val) (b : Val)  (st : St) : EvF gS 81 [a.enc, b.enc] st = some (.ret (.bool (vsame a b)) none, st) := by
  refine EvF_start fi81_eq (fun x h => by cases h) m81 ?_
  rw [st81]
  have hm : fi81.marks = [] := rfl
  have hl : fi81.locals = [2, 3] := rfl
  have hr : fi81.results = [.tmp 4] := rfl
  simp (config := { contextual := true, maxSteps := 10000000, maxDischargeDepth := 6 }) [-Int.not_le, -Int.not_lt, -Nat.not_le, -Nat.not_lt, ty2, ty3, ty4, ty9, ty22, ty24, eq24, hm, hl, hr, k109, e81_2, e81_0]
  all_goals try simp (config := { contextual := true }) [-Int.not_le, -Int.not_lt, -Nat.not_le, -Nat.not_lt, vsame]
  all_goals first | done | grind | omega | (trace_state; fail)
theorem k81 (a_k : Int) (a_n : Int) (a_x : Nat) (a_s : List UInt8) (a_b : Bool) (b_k : Int) (b_n : Int) (b_x : Nat) (b_s : List UInt8) (b_b : Bool)  (fr : Fr) (st : St) : callStep gS (EvF gS) 81 [.agg [.int .i64 a_k, .int .i64 a_n, .float .f64 a_x, .str a_s, .bool a_b], .agg [.int .i64 b_k, .int .i64 b_n, .float .f64 b_x, .str b_s, .bool b_b]] fr st = some (.ok (retE none (.bool (vsame (⟨a_k, a_n, a_x, a_s, a_b⟩ : Val) (⟨b_k, b_n, b_x, b_s, b_b⟩ : Val)))) fr st) :=
  call_pure rfl fi81_eq rfl (fun st => c81 (⟨a_k, a_n, a_x, a_s, a_b⟩ : Val) (⟨b_k, b_n, b_x, b_s, b_b⟩ : Val)  st) (by simp)
theorem x81 : gS.ext 81 = none := rfl
theorem p81 : fi81.pure = true := rfl
def fi70 : FI := { body := codeOf Try.f70, ntmps := 29, results := [.tmp 2], pers := [0, 1, 2, 3, 7], locals := [1, 3], pure := true, marks := [] }
theorem fi70_eq : gS.fn 70 = some fi70 := by kernel_rfl
theorem st70 (a0 : V) : startFr fi70 [a0] = { ps := [(0, .val a0), (1, .any), (2, .any), (3, .any), (7, .any)], ts := [], lc := [] } := rfl
def b70 : Code := mini (codeOf Try.f70)
def c70_13 : Code := codeN b70 343
def c70_17 : Code := codeN b70 1495
def c70_21 : Code := codeN b70 6103
def c70_25 : Code := codeN b70 24535
def c70_26 : Code := .seq (codeN b70 49111) .ret
def c70_24 : Code := .cond (.tmp 17) c70_25 c70_26
def c70_22 : Code := .seq (codeN b70 12247) c70_24
def c70_20 : Code := .cond (.tmp 14) c70_21 c70_22
def c70_18 : Code := .seq (codeN b70 3031) c70_20
def c70_16 : Code := .cond (.tmp 11) c70_17 c70_18
def c70_14 : Code := .seq (codeN b70 727) c70_16
def c70_12 : Code := .cond (.tmp 8) c70_13 c70_14
def c70_10 : Code := .seq (codeN b70 151) c70_12
def c70_9 : Code := .block 0 c70_10
def c70_7 : Code := .seq (codeN b70 39) c70_9
def c70_29 : Code := .seq (codeN b70 47) .ret
def c70_6 : Code := .seq c70_7 c70_29
def c70_4 : Code := .seq (codeN b70 11) c70_6
def c70_2 : Code := .seq (codeN b70 5) c70_4
def c70_0 : Code := .seq (codeN b70 2) c70_2
theorem E70 : (evK gS fi70 c70_13 fr st k = opsR gS fi70 [op1 10 (.fieldAddr 24 (.tmp 3) 1) 0,
 mk none (.store 2 (.tmp 10) (.const (.int .i64 0))) 0 none] fr st k) ∧
 (evK gS fi70 c70_17 fr st k = opsR gS fi70 [op1 13 (.fieldAddr 24 (.tmp 3) 2) 0,
 mk none (.store 22 (.tmp 13) (.const (.float .f64 0))) 0 none] fr st k) ∧
 (evK gS fi70 c70_21 fr st k = opsR gS fi70 [op1 16 (.fieldAddr 24 (.tmp 3) 3) 0,
 mk none (.store 9 (.tmp 16) (.const (.string { data := #[] }))) 0 none] fr st k) ∧
 (evK gS fi70 c70_25 fr st k = opsR gS fi70 [op1 19 (.fieldAddr 24 (.tmp 3) 4) 0,
 mk none (.store 4 (.tmp 19) (.const (.bool false))) 0 none] fr st k) ∧
 evK gS fi70 c70_26 fr st k = opsR gS fi70 [op1 2 (.assign (.const (.bool false))) 4] fr st (.seq .ret k) ∧
 evK gS fi70 c70_24 fr st k = condK gS fi70 (fr.op (.tmp 17)).bool? c70_25 c70_26 fr st k ∧
 (evK gS fi70 c70_22 fr st k = opsR gS fi70 [op1 18 (.binOp .eql 3 (.tmp 7) (.const (.int .i64 4)) 3) 4,
 asn 17 18 4] fr st (.seq c70_24 k)) ∧
 evK gS fi70 c70_20 fr st k = condK gS fi70 (fr.op (.tmp 14)).bool? c70_21 c70_22 fr st k ∧
 (evK gS fi70 c70_18 fr st k = opsR gS fi70 [op1 15 (.binOp .eql 3 (.tmp 7) (.const (.int .i64 3)) 3) 4,
 asn 14 15 4] fr st (.seq c70_20 k)) ∧
 evK gS fi70 c70_16 fr st k = condK gS fi70 (fr.op (.tmp 11)).bool? c70_17 c70_18 fr st k ∧
 (evK gS fi70 c70_14 fr st k = opsR gS fi70 [op1 12 (.binOp .eql 3 (.tmp 7) (.const (.int .i64 2)) 3) 4,
 asn 11 12 4] fr st (.seq c70_16 k)) ∧
 evK gS fi70 c70_12 fr st k = condK gS fi70 (fr.op (.tmp 8)).bool? c70_13 c70_14 fr st k ∧
 (evK gS fi70 c70_10 fr st k = opsR gS fi70 [op1 9 (.binOp .eql 3 (.tmp 7) (.const (.int .i64 1)) 3) 4,
 asn 8 9 4] fr st (.seq c70_12 k)) ∧
 evK gS fi70 c70_9 fr st k = evK gS fi70 c70_10 fr st (.blk 0 k) ∧
 (evK gS fi70 c70_7 fr st k = opsR gS fi70 [op1 6 (.fieldAddr 24 (.tmp 1) 0) 0,
 ld 7 3 6 3] fr st (.seq c70_9 k)) ∧
 (evK gS fi70 c70_29 fr st k = opsR gS fi70 [ld 20 24 3 24,
 op1 21 (.build 24 #[]) 24,
 bop 22 .eql 24 20 21 24 4,
 mv 23 22 4,
 mk (some 24) (.fieldAddr 24 (.tmp 1) 3) 0 (some (3, true)),
 mk (some 25) (.load 9 (.tmp 24)) 9 (some (3, true)),
 mk (some 26) (.call { callee := (.builtin .len), args := #[(.tmp 25)], argTypes := #[9] }) 3 (some (3, true)),
 mk (some 27) (.binOp .leq 3 (.tmp 26) (.const (.int .i64 12)) 3) 4 (some (3, true)),
 op1 28 (.pick (.tmp 23) (.tmp 27) (.const (.bool false))) 4,
 asn 2 28 4] fr st (.seq .ret k)) ∧
 evK gS fi70 c70_6 fr st k = evK gS fi70 c70_7 fr st (.seq c70_29 k) ∧
 (evK gS fi70 c70_4 fr st k = opsR gS fi70 [op1 5 (.fieldAddr 24 (.tmp 3) 0) 0,
 mk none (.store 3 (.tmp 5) (.const (.int .i64 0))) 0 none] fr st (.seq c70_6 k)) ∧
 (evK gS fi70 c70_2 fr st k = opsR gS fi70 [ld 4 24 1 24,
 op1 3 (.alloc 24) 0,
 sto 24 3 4] fr st (.seq c70_4 k)) ∧
 (evK gS fi70 c70_0 fr st k = opsR gS fi70 [op1 1 (.box 24 (.tmp 0)) 0,
 op1 2 (.assign (.const (.bool false))) 4] fr st (.seq c70_2 k)) := ⟨evK_r 6 (by kernel_rfl), evK_r 8 (by kernel_rfl), evK_r 10 (by kernel_rfl), evK_r 12 (by kernel_rfl), evK_rs 4 rfl (by kernel_rfl), rfl, evK_rs 11 rfl (by kernel_rfl), rfl, evK_rs 9 rfl (by kernel_rfl), rfl, evK_rs 7 rfl (by kernel_rfl), rfl, evK_rs 5 rfl (by kernel_rfl), rfl, evK_rs 3 rfl (by kernel_rfl), evK_rs 13 rfl (by kernel_rfl), rfl, evK_rs 2 rfl (by kernel_rfl), evK_rs 1 rfl (by kernel_rfl), evK_rs 0 rfl (by kernel_rfl)⟩
theorem m70 : mini fi70.body = c70_0 := by kernel_rfl
set_option maxHeartbeats 4000000 in
theorem c70 (v : Val)  (st : St) : EvF gS 70 [v.enc] st = some (.ret (.bool (vright v)) none, st) := by
  refine EvF_start fi70_eq (fun x h => by cases h) m70 ?_
  rw [st70]
  have hm : fi70.marks = [] := rfl
  have hl : fi70.locals = [1, 3] := rfl
  have hr : fi70.results = [.tmp 2] := rfl
  simp (config := { contextual := true, maxSteps := 10000000, maxDischargeDepth := 6 }) [-Int.not_le, -Int.not_lt, -Nat.not_le, -Nat.not_lt, ty2, ty3, ty4, ty9, ty22, ty24, eq24, hm, hl, hr, E70]
  all_goals try simp (config := { contextual := true }) [-Int.not_le, -Int.not_lt, -Nat.not_le, -Nat.not_lt, vright, opq]
  all_goals first | done | grind | omega | (trace_state; fail)
theorem k70 (v_k : Int) (v_n : Int) (v_x : Nat) (v_s : List UInt8) (v_b : Bool)  (fr : Fr) (st : St) : callStep gS (EvF gS) 70 [.agg [.int .i64 v_k, .int .i64 v_n, .float .f64 v_x, .str v_s, .bool v_b]] fr st = some (.ok (retE none (.bool (vright (⟨v_k, v_n, v_x, v_s, v_b⟩ : Val)))) fr st) :=
  call_pure rfl fi70_eq rfl (fun st => c70 (⟨v_k, v_n, v_x, v_s, v_b⟩ : Val)  st) (by simp)
def fi69 : FI := { body := codeOf Try.f69, ntmps := 6, results := [.tmp 2], pers := [0, 1, 2], locals := [1], pure := true, marks := [] }
theorem fi69_eq : gS.fn 69 = some fi69 := by kernel_rfl
theorem st69 (a0 : V) : startFr fi69 [a0] = { ps := [(0, .val a0), (1, .any), (2, .any)], ts := [], lc := [] } := rfl
def b69 : Code := mini (codeOf Try.f69)
def c69_2 : Code := .seq (codeN b69 5) .ret
theorem e69_2 : evK gS fi69 c69_2 fr st k = opsR gS fi69 [ld 3 24 1 24,
 op1 4 (.build 24 #[]) 24,
 cal 5 81 [(.tmp 3), (.tmp 4)] [24, 24] 4,
 asn 2 5 4] fr st (.seq .ret k) := evK_rs 1 rfl (by kernel_rfl)
def c69_0 : Code := .seq (codeN b69 2) c69_2
theorem e69_0 : evK gS fi69 c69_0 fr st k = opsR gS fi69 [op1 1 (.box 24 (.tmp 0)) 0,
 op1 2 (.assign (.const (.bool false))) 4] fr st (.seq c69_2 k) := evK_rs 0 rfl (by kernel_rfl)
theorem m69 : mini fi69.body = c69_0 := by kernel_rfl
set_option maxHeartbeats 4000000 in
theorem c69 (v : Val)  (st : St) : EvF gS 69 [v.enc] st = some (.ret (.bool (vsame v vzero)) none, st) := by
  refine EvF_start fi69_eq (fun x h => by cases h) m69 ?_
  rw [st69]
  have hm : fi69.marks = [] := rfl
  have hl : fi69.locals = [1] := rfl
  have hr : fi69.results = [.tmp 2] := rfl
  simp (config := { contextual := true, maxSteps := 10000000, maxDischargeDepth := 6 }) [-Int.not_le, -Int.not_lt, -Nat.not_le, -Nat.not_lt, ty4, ty24, eq24, hm, hl, hr, k81, e69_2, e69_0]
  all_goals try simp (config := { contextual := true }) [-Int.not_le, -Int.not_lt, -Nat.not_le, -Nat.not_lt, vzero]
  all_goals first | done | grind | omega | (trace_state; fail)
theorem k69 (v_k : Int) (v_n : Int) (v_x : Nat) (v_s : List UInt8) (v_b : Bool)  (fr : Fr) (st : St) : callStep gS (EvF gS) 69 [.agg [.int .i64 v_k, .int .i64 v_n, .float .f64 v_x, .str v_s, .bool v_b]] fr st = some (.ok (retE none (.bool (vsame (⟨v_k, v_n, v_x, v_s, v_b⟩ : Val) vzero))) fr st) :=
  call_pure rfl fi69_eq rfl (fun st => c69 (⟨v_k, v_n, v_x, v_s, v_b⟩ : Val)  st) (by simp)
def fi80 : FI := { body := codeOf Try.f80, ntmps := 13, results := [.tmp 2], pers := [0, 1, 2], locals := [1], pure := true, marks := [] }
theorem fi80_eq : gS.fn 80 = some fi80 := by kernel_rfl
theorem st80 (a0 : V) : startFr fi80 [a0] = { ps := [(0, .val a0), (1, .any), (2, .any)], ts := [], lc := [] } := rfl
def b80 : Code := mini (codeOf Try.f80)
def c80_2 : Code := .seq (codeN b80 5) .ret
theorem e80_2 : evK gS fi80 c80_2 fr st k = opsR gS fi80 [op1 3 (.fieldAddr 24 (.tmp 1) 0) 0,
 ld 4 3 3 3,
 op1 5 (.binOp .eql 3 (.tmp 4) (.const (.int .i64 2)) 3) 4,
 mv 6 5 4,
 mk (some 7) (.fieldAddr 24 (.tmp 1) 2) 0 (some (3, true)),
 mk (some 8) (.load 22 (.tmp 7)) 22 (some (3, true)),
 mk (some 9) (.fieldAddr 24 (.tmp 1) 2) 0 (some (3, true)),
 mk (some 10) (.load 22 (.tmp 9)) 22 (some (3, true)),
 mk (some 11) (.binOp .neq 22 (.tmp 8) (.tmp 10) 22) 4 (some (3, true)),
 op1 12 (.pick (.tmp 6) (.tmp 11) (.const (.bool false))) 4,
 asn 2 12 4] fr st (.seq .ret k) := evK_rs 1 rfl (by kernel_rfl)
def c80_0 : Code := .seq (codeN b80 2) c80_2
theorem e80_0 : evK gS fi80 c80_0 fr st k = opsR gS fi80 [op1 1 (.box 24 (.tmp 0)) 0,
 op1 2 (.assign (.const (.bool false))) 4] fr st (.seq c80_2 k) := evK_rs 0 rfl (by kernel_rfl)
theorem m80 : mini fi80.body = c80_0 := by kernel_rfl
set_option maxHeartbeats 4000000 in
theorem c80 (v : Val)  (st : St) : EvF gS 80 [v.enc] st = some (.ret (.bool (vnan v)) none, st) := by
  refine EvF_start fi80_eq (fun x h => by cases h) m80 ?_
  rw [st80]
  have hm : fi80.marks = [] := rfl
  have hl : fi80.locals = [1] := rfl
  have hr : fi80.results = [.tmp 2] := rfl
  simp (config := { contextual := true, maxSteps := 10000000, maxDischargeDepth := 6 }) [-Int.not_le, -Int.not_lt, -Nat.not_le, -Nat.not_lt, ty3, ty4, ty22, ty24, eq24, hm, hl, hr, e80_2, e80_0]
  all_goals try simp (config := { contextual := true }) [-Int.not_le, -Int.not_lt, -Nat.not_le, -Nat.not_lt, vnan]
  all_goals first | done | grind | omega | (trace_state; fail)
theorem k80 (v_k : Int) (v_n : Int) (v_x : Nat) (v_s : List UInt8) (v_b : Bool)  (fr : Fr) (st : St) : callStep gS (EvF gS) 80 [.agg [.int .i64 v_k, .int .i64 v_n, .float .f64 v_x, .str v_s, .bool v_b]] fr st = some (.ok (retE none (.bool (vnan (⟨v_k, v_n, v_x, v_s, v_b⟩ : Val)))) fr st) :=
  call_pure rfl fi80_eq rfl (fun st => c80 (⟨v_k, v_n, v_x, v_s, v_b⟩ : Val)  st) (by simp)
def fi76 : FI := { body := codeOf Try.f76, ntmps := 18, results := [.tmp 4], pers := [0, 1, 4], locals := [], pure := true, marks := [] }
theorem fi76_eq : gS.fn 76 = some fi76 := by kernel_rfl
theorem st76 (a0 a1 : V) : startFr fi76 [a0, a1] = { ps := [(0, .val a0), (1, .val a1), (4, .any)], ts := [], lc := [] } := rfl
def b76 : Code := mini (codeOf Try.f76)
def c76_2 : Code := .seq (codeN b76 5) .ret
theorem e76_2 : evK gS fi76 c76_2 fr st k = opsR gS fi76 [mv 5 0 9,
 len1 6 5 9 3,
 mv 7 1 9,
 len1 8 7 9 3,
 bop 9 .geq 3 6 8 3 4,
 mv 10 9 4,
 mk (some 11) (.move (.tmp 0)) 9 (some (5, true)),
 mk (some 12) (.move (.tmp 1)) 9 (some (5, true)),
 mk (some 13) (.call { callee := (.builtin .len), args := #[(.tmp 12)], argTypes := #[9] }) 3 (some (5, true)),
 mk (some 14) (.slice 9 (.tmp 11) none (some (.tmp 13)) none) 9 (some (5, true)),
 mk (some 15) (.move (.tmp 1)) 9 (some (5, true)),
 mk (some 16) (.binOp .eql 9 (.tmp 14) (.tmp 15) 9) 4 (some (5, true)),
 op1 17 (.pick (.tmp 10) (.tmp 16) (.const (.bool false))) 4,
 asn 4 17 4] fr st (.seq .ret k) := evK_rs 1 rfl (by kernel_rfl)
def c76_0 : Code := .seq (codeN b76 2) c76_2
theorem e76_0 : evK gS fi76 c76_0 fr st k = opsR gS fi76 [op1 4 (.assign (.const (.bool false))) 4] fr st (.seq c76_2 k) := evK_rs 0 rfl (by kernel_rfl)
theorem m76 : mini fi76.body = c76_0 := by kernel_rfl
set_option maxHeartbeats 4000000 in
theorem c76 (s : List UInt8) (t : List UInt8)  (st : St) : EvF gS 76 [.str s, .str t] st = some (.ret (.bool (isPre s t)) none, st) := by
  refine EvF_start fi76_eq (fun x h => by cases h) m76 ?_
  rw [st76]
  have hm : fi76.marks = [] := rfl
  have hl : fi76.locals = [] := rfl
  have hr : fi76.results = [.tmp 4] := rfl
  simp (config := { contextual := true, maxSteps := 10000000, maxDischargeDepth := 6 }) [-Int.not_le, -Int.not_lt, -Nat.not_le, -Nat.not_lt, ty3, ty4, ty9, hm, hl, hr, e76_2, e76_0]
  all_goals try simp (config := { contextual := true }) [-Int.not_le, -Int.not_lt, -Nat.not_le, -Nat.not_lt, isPre]
  all_goals first | done | grind | omega | (trace_state; fail)
theorem k76 (s : List UInt8) (t : List UInt8)  (fr : Fr) (st : St) : callStep gS (EvF gS) 76 [.str s, .str t] fr st = some (.ok (retE none (.bool (isPre s t))) fr st) :=
  call_pure rfl fi76_eq rfl (fun st => c76 s t  st) (by simp)
end
end Go.Proofs.Ytclpbfkbpcjejaa
namespace Go.Proofs.Ytclpbfkbpcjejaa
open Go Go.Ab
set_option linter.unusedVariables false
set_option linter.unusedSimpArgs false
set_option linter.unnecessarySimpa false
set_option maxRecDepth 20000
noncomputable section
variable (fr : Fr) (st : St) (k : Kt)
def fi68 : FI := { body := codeOf Try.f68, ntmps := 28, results := [.tmp 2], pers := [0, 2, 3], locals := [], pure := true, marks := [] }
theorem fi68_eq : gS.fn 68 = some fi68 := by kernel_rfl
theorem st68 (a0 : V) : startFr fi68 [a0] = { ps := [(0, .val a0), (2, .any), (3, .any)], ts := [], lc := [] } := rfl
def b68 : Code := mini (codeOf Try.f68)
def c68_10 : Code := .cond (.tmp 7) .skip (.exit 0)
def c68_8 : Code := .seq (codeN b68 133) c68_10
def c68_18 : Code := .seq (codeN b68 2341) .ret
def c68_17 : Code := .cond (.tmp 19) c68_18 .skip
def c68_15 : Code := .seq (codeN b68 549) c68_17
def c68_22 : Code := codeN b68 229
def c68_13 : Code := .seq (.block 1 c68_15) c68_22
def c68_7 : Code := .seq c68_8 c68_13
def c68_6 : Code := .loop c68_7
def c68_5 : Code := .block 0 c68_6
def c68_3 : Code := .seq (codeN b68 9) c68_5
def c68_23 : Code := .seq (codeN b68 11) .ret
def c68_2 : Code := .seq c68_3 c68_23
def c68_0 : Code := .seq (codeN b68 2) c68_2
theorem E68 : evK gS fi68 c68_10 fr st k = condK gS fi68 (fr.op (.tmp 7)).bool? .skip (.exit 0) fr st k ∧
 (evK gS fi68 c68_8 fr st k = opsR gS fi68 [mv 4 3 3,
 mv 5 0 9,
 len1 6 5 9 3,
 bop 7 .lss 3 4 6 3 4] fr st (.seq c68_10 k)) ∧
 evK gS fi68 c68_18 fr st k = opsR gS fi68 [op1 2 (.assign (.const (.bool false))) 4] fr st (.seq .ret k) ∧
 evK gS fi68 c68_17 fr st k = condK gS fi68 (fr.op (.tmp 19)).bool? c68_18 .skip fr st k ∧
 (evK gS fi68 c68_15 fr st k = opsR gS fi68 [mv 10 0 9,
 mv 11 3 3,
 op1 12 (.index 9 (.tmp 10) (.tmp 11)) 5,
 op1 13 (.binOp .lss 5 (.tmp 12) (.const (.int .u8 97)) 5) 4,
 mv 14 13 4,
 mk (some 15) (.move (.tmp 0)) 9 (some (4, false)),
 mk (some 16) (.move (.tmp 3)) 3 (some (4, false)),
 mk (some 17) (.index 9 (.tmp 15) (.tmp 16)) 5 (some (4, false)),
 mk (some 18) (.binOp .gtr 5 (.tmp 17) (.const (.int .u8 122)) 5) 4 (some (4, false)),
 op1 19 (.pick (.tmp 14) (.const (.bool true)) (.tmp 18)) 4] fr st (.seq c68_17 k)) ∧
 (evK gS fi68 c68_22 fr st k = opsR gS fi68 [mv 8 3 3,
 op1 9 (.binOp .add 3 (.tmp 8) (.const (.int .i64 1)) 3) 3,
 asn 3 9 3] fr st k) ∧
 evK gS fi68 c68_13 fr st k = evK gS fi68 c68_15 fr st (.blk 1 (.seq c68_22 k)) ∧
 evK gS fi68 c68_7 fr st k = evK gS fi68 c68_8 fr st (.seq c68_13 k) ∧
 evK gS fi68 c68_5 fr st k = evK gS fi68 c68_6 fr st (.blk 0 k) ∧
 evK gS fi68 c68_3 fr st k = opsR gS fi68 [op1 3 (.assign (.const (.int .i64 0))) 3] fr st (.seq c68_5 k) ∧
 (evK gS fi68 c68_23 fr st k = opsR gS fi68 [mv 20 0 9,
 len1 21 20 9 3,
 op1 22 (.binOp .geq 3 (.tmp 21) (.const (.int .i64 1)) 3) 4,
 mv 23 22 4,
 mk (some 24) (.move (.tmp 0)) 9 (some (3, true)),
 mk (some 25) (.call { callee := (.builtin .len), args := #[(.tmp 24)], argTypes := #[9] }) 3 (some (3, true)),
 mk (some 26) (.binOp .leq 3 (.tmp 25) (.const (.int .i64 6)) 3) 4 (some (3, true)),
 op1 27 (.pick (.tmp 23) (.tmp 26) (.const (.bool false))) 4,
 asn 2 27 4] fr st (.seq .ret k)) ∧
 evK gS fi68 c68_2 fr st k = evK gS fi68 c68_3 fr st (.seq c68_23 k) ∧
 evK gS fi68 c68_0 fr st k = opsR gS fi68 [op1 2 (.assign (.const (.bool false))) 4] fr st (.seq c68_2 k) := ⟨rfl, evK_rs 2 rfl (by kernel_rfl), evK_rs 5 rfl (by kernel_rfl), rfl, evK_rs 4 rfl (by kernel_rfl), evK_r 3 (by kernel_rfl), rfl, rfl, rfl, evK_rs 1 rfl (by kernel_rfl), evK_rs 6 rfl (by kernel_rfl), rfl, evK_rs 0 rfl (by kernel_rfl)⟩
theorem m68 : mini fi68.body = c68_0 := by kernel_rfl
theorem n68_6 (fr : Fr) (st : St) (k : Kt) : nextK gS fi68 (.loop c68_7 k) .normal fr st = evK gS fi68 c68_6 fr st k := rfl
set_option maxHeartbeats 4000000 in
theorem L68_6 (s : List UInt8) (h_s : s.length < 4611686018427387904) (st : St) : ∀ (n i : Nat) (j : Int)  (e2 : E) (T : List (Nat × E)) (X : List (Nat × List V)) (ht2 : e2.Tame) , j = (i : Int) → i ≤ (s).length → (s).length - i = n →
    evK gS fi68 c68_6 { ps := [(0, .val (.str s)), (2, e2), (3, .val (.int .i64 j))], ts := T, lc := X } st (.blk 0 (.seq c68_23 .nil)) = some ((.ret (.bool ((s.drop i).all (fun c => !decide (c.toNat < 97) && !decide (122 < c.toNat)) && (decide (1 ≤ s.length) && decide (s.length ≤ 6)))) none), st) := by
  intro n
  have hm : fi68.marks = [] := rfl
  have hl : fi68.locals = [] := rfl
  have hr : fi68.results = [.tmp 2] := rfl
  induction n with
  | zero =>
    intro i j  e2 T X ht2  hj hi hn
    obtain rfl : i = (s).length := by omega
    subst hj
    refine evK_loop c68_7 _ st _ _ rfl ?_
    simp (config := { contextual := true, maxSteps := 10000000, maxDischargeDepth := 6 }) [-Int.not_le, -Int.not_lt, -Nat.not_le, -Nat.not_lt, ty3, ty4, ty5, ty9, hm, hl, hr, E68, n68_6, ht2]
    all_goals first | done | grind | omega | (trace_state; fail)
  | succ n ih =>
    intro i j  e2 T X ht2  hj hi hn
    subst hj
    obtain ⟨x, hx⟩ : ∃ x, (s)[i]? = some x := ⟨(s)[i]'(by omega), List.getElem?_eq_getElem (by omega)⟩
    have hd := drop_get hx
    have hlt : (i : Int) < ((s).length : Int) := by omega
    have hlt2 : i < (s).length := by omega
    have hxe : (s)[i]'hlt2 = x := by rw [List.getElem?_eq_getElem hlt2] at hx; exact Option.some.inj hx
    have hw : IntKind.wrap .i64 ((i : Int) + 1) = (i : Int) + 1 := wrap64 (by omega) (by omega)
    have IH := fun e2 T X ht2 => ih (i + 1) ((i : Int) + 1) e2 T X ht2 rfl (by omega) (by omega)
    refine evK_loop c68_7 _ st _ _ rfl ?_
    simp (config := { contextual := true, maxSteps := 10000000, maxDischargeDepth := 6 }) [-Int.not_le, -Int.not_lt, -Nat.not_le, -Nat.not_lt, ty3, ty4, ty5, ty9, hm, hl, hr, E68, n68_6, ht2, hx, hxe, hd, hlt, hlt2, hw, IH]
    all_goals first | done | grind | omega | (trace_state; fail)
set_option maxHeartbeats 4000000 in
theorem c68 (s : List UInt8) (h_s : s.length < 4611686018427387904) (st : St) : EvF gS 68 [.str s] st = some (.ret (.bool (isWord s)) none, st) := by
  refine EvF_start fi68_eq (fun x h => by cases h) m68 ?_
  rw [st68]
  have hm : fi68.marks = [] := rfl
  have hl : fi68.locals = [] := rfl
  have hr : fi68.results = [.tmp 2] := rfl
  simp (config := { contextual := true, maxSteps := 10000000, maxDischargeDepth := 6 }) [-Int.not_le, -Int.not_lt, -Nat.not_le, -Nat.not_lt, ty3, ty4, ty5, ty9, hm, hl, hr, E68, n68_6, (fun e2 T X ht2 => L68_6 s h_s st _ 0 0  e2 T X ht2 rfl (Nat.zero_le _) rfl)]
  all_goals try simp (config := { contextual := true }) [-Int.not_le, -Int.not_lt, -Nat.not_le, -Nat.not_lt, isWord]
  all_goals first | done | grind | omega | (trace_state; fail)
theorem k68 (s : List UInt8) (h_s : s.length < 4611686018427387904) (fr : Fr) (st : St) : callStep gS (EvF gS) 68 [.str s] fr st = some (.ok (retE none (.bool (isWord s))) fr st) :=
  call_pure rfl fi68_eq rfl (fun st => c68 s h_s st) (by simp)
def fi71 : FI := { body := codeOf Try.f71, ntmps := 15, results := [.tmp 2], pers := [0, 2, 4, 5, 6, 7], locals := [4], pure := true, marks := [] }
theorem fi71_eq : gS.fn 71 = some fi71 := by kernel_rfl
theorem st71 (a0 : V) : startFr fi71 [a0] = { ps := [(0, .val a0), (2, .any), (4, .any), (5, .any), (6, .any), (7, .any)], ts := [], lc := [] } := rfl
def b71 : Code := mini (codeOf Try.f71)
def c71_20 : Code := .seq (codeN b71 9829) .ret
def c71_19 : Code := .cond (.tmp 13) c71_20 .skip
def c71_17 : Code := .seq (codeN b71 2661) c71_19
def c71_15 : Code := .seq (codeN b71 1125) c71_17
def c71_24 : Code := codeN b71 485
def c71_13 : Code := .seq (.block 1 c71_15) c71_24
def c71_9 : Code := .seq (.cond (.tmp 8) .skip (.exit 0)) c71_13
def c71_7 : Code := .seq (codeN b71 69) c71_9
def c71_6 : Code := .loop c71_7
def c71_5 : Code := .block 0 c71_6
def c71_3 : Code := .seq (codeN b71 9) c71_5
def c71_25 : Code := .seq (codeN b71 11) .ret
def c71_2 : Code := .seq c71_3 c71_25
def c71_0 : Code := .seq (codeN b71 2) c71_2
theorem E71 : evK gS fi71 c71_20 fr st k = opsR gS fi71 [op1 2 (.assign (.const (.bool false))) 4] fr st (.seq .ret k) ∧
 evK gS fi71 c71_19 fr st k = condK gS fi71 (fr.op (.tmp 13)).bool? c71_20 .skip fr st k ∧
 (evK gS fi71 c71_17 fr st k = opsR gS fi71 [ld 11 24 4 24,
 cal 12 70 [(.tmp 11)] [24] 4,
 op1 13 (.unOp .not 4 (.tmp 12)) 4] fr st (.seq c71_19 k)) ∧
 (evK gS fi71 c71_15 fr st k = opsR gS fi71 [ixa 9 25 5 7 0,
 ld 10 24 9 24,
 op1 4 (.alloc 24) 0,
 sto 24 4 10] fr st (.seq c71_17 k)) ∧
 (evK gS fi71 c71_24 fr st k = opsR gS fi71 [op1 14 (.binOp .add 3 (.tmp 7) (.const (.int .i64 1)) 3) 3,
 mv 7 14 3] fr st k) ∧
 evK gS fi71 c71_13 fr st k = evK gS fi71 c71_15 fr st (.blk 1 (.seq c71_24 k)) ∧
 evK gS fi71 c71_9 fr st k = condK gS fi71 (fr.op (.tmp 8)).bool? .skip (.exit 0) fr st (.seq c71_13 k) ∧
 evK gS fi71 c71_7 fr st k = opsR gS fi71 [bop 8 .lss 3 7 6 3 0] fr st (.seq c71_9 k) ∧
 evK gS fi71 c71_5 fr st k = evK gS fi71 c71_6 fr st (.blk 0 k) ∧
 (evK gS fi71 c71_3 fr st k = opsR gS fi71 [mv 5 0 25,
 len1 6 5 25 3,
 op1 7 (.move (.const (.int .i64 0))) 3] fr st (.seq c71_5 k)) ∧
 evK gS fi71 c71_25 fr st k = opsR gS fi71 [op1 2 (.assign (.const (.bool true))) 4] fr st (.seq .ret k) ∧
 evK gS fi71 c71_2 fr st k = evK gS fi71 c71_3 fr st (.seq c71_25 k) ∧
 evK gS fi71 c71_0 fr st k = opsR gS fi71 [op1 2 (.assign (.const (.bool false))) 4] fr st (.seq c71_2 k) := ⟨evK_rs 5 rfl (by kernel_rfl), rfl, evK_rs 4 rfl (by kernel_rfl), evK_rs 3 rfl (by kernel_rfl), evK_r 6 (by kernel_rfl), rfl, rfl, evK_rs 2 rfl (by kernel_rfl), rfl, evK_rs 1 rfl (by kernel_rfl), evK_rs 7 rfl (by kernel_rfl), rfl, evK_rs 0 rfl (by kernel_rfl)⟩
theorem m71 : mini fi71.body = c71_0 := by kernel_rfl
theorem n71_6 (fr : Fr) (st : St) (k : Kt) : nextK gS fi71 (.loop c71_7 k) .normal fr st = evK gS fi71 c71_6 fr st k := rfl
set_option maxHeartbeats 4000000 in
theorem L71_6 (l : List Val) (h_l : l.length < 4611686018427387904) (st : St) : ∀ (n i : Nat) (j : Int)  (e0 e2 e4 : E) (T : List (Nat × E)) (X : List (Nat × List V)) (ht0 : e0.Tame) (ht2 : e2.Tame) (ht4 : e4.Tame) , j = (i : Int) → i ≤ (l).length → (l).length - i = n →
    evK gS fi71 c71_6 { ps := [(0, e0), (2, e2), (4, e4), (5, .val (.slice (encVals l))), (6, .val (.int .i64 l.length)), (7, .val (.int .i64 j))], ts := T, lc := X } st (.blk 0 (.seq c71_25 .nil)) = some ((.ret (.bool ((l.drop i).all vright)) none), st) := by
  intro n
  have hm : fi71.marks = [] := rfl
  have hl : fi71.locals = [4] := rfl
  have hr : fi71.results = [.tmp 2] := rfl
  induction n with
  | zero =>
    intro i j  e0 e2 e4 T X ht0 ht2 ht4  hj hi hn
    obtain rfl : i = (l).length := by omega
    subst hj
    refine evK_loop c71_7 _ st _ _ rfl ?_
    simp (config := { contextual := true, maxSteps := 10000000, maxDischargeDepth := 6 }) [-Int.not_le, -Int.not_lt, -Nat.not_le, -Nat.not_lt, ty3, ty4, ty24, ty25, eq24, hm, hl, hr, k70, E71, n71_6, ht0, ht2, ht4]
    all_goals first | done | grind | omega | (trace_state; fail)
  | succ n ih =>
    intro i j  e0 e2 e4 T X ht0 ht2 ht4  hj hi hn
    subst hj
    obtain ⟨x, hx⟩ : ∃ x, (l)[i]? = some x := ⟨(l)[i]'(by omega), List.getElem?_eq_getElem (by omega)⟩
    have hd := drop_get hx
    have hlt : (i : Int) < ((l).length : Int) := by omega
    have hlt2 : i < (l).length := by omega
    have hxe : (l)[i]'hlt2 = x := by rw [List.getElem?_eq_getElem hlt2] at hx; exact Option.some.inj hx
    have hw : IntKind.wrap .i64 ((i : Int) + 1) = (i : Int) + 1 := wrap64 (by omega) (by omega)
    have IH := fun e0 e2 e4 T X ht0 ht2 ht4 => ih (i + 1) ((i : Int) + 1) e0 e2 e4 T X ht0 ht2 ht4 rfl (by omega) (by omega)
    refine evK_loop c71_7 _ st _ _ rfl ?_
    simp (config := { contextual := true, maxSteps := 10000000, maxDischargeDepth := 6 }) [-Int.not_le, -Int.not_lt, -Nat.not_le, -Nat.not_lt, ty3, ty4, ty24, ty25, eq24, hm, hl, hr, k70, E71, n71_6, ht0, ht2, ht4, hx, hxe, hd, hlt, hlt2, hw, IH]
    all_goals first | done | grind | omega | (trace_state; fail)
set_option maxHeartbeats 4000000 in
theorem c71 (l : List Val) (h_l : l.length < 4611686018427387904) (st : St) : EvF gS 71 [.slice (encVals l)] st = some (.ret (.bool (l.all vright)) none, st) := by
  refine EvF_start fi71_eq (fun x h => by cases h) m71 ?_
  rw [st71]
  have hm : fi71.marks = [] := rfl
  have hl : fi71.locals = [4] := rfl
  have hr : fi71.results = [.tmp 2] := rfl
  simp (config := { contextual := true, maxSteps := 10000000, maxDischargeDepth := 6 }) [-Int.not_le, -Int.not_lt, -Nat.not_le, -Nat.not_lt, ty3, ty4, ty24, ty25, eq24, hm, hl, hr, k70, E71, n71_6, (fun e0 e2 e4 T X ht0 ht2 ht4 => L71_6 l h_l st _ 0 0  e0 e2 e4 T X ht0 ht2 ht4 rfl (Nat.zero_le _) rfl)]
  all_goals first | done | grind | omega | (trace_state; fail)
theorem k71 (l : List Val) (h_l : l.length < 4611686018427387904) (fr : Fr) (st : St) : callStep gS (EvF gS) 71 [.slice (encVals l)] fr st = some (.ok (retE none (.bool (l.all vright))) fr st) :=
  call_pure rfl fi71_eq rfl (fun st => c71 l h_l st) (by simp)
end
end Go.Proofs.Ytclpbfkbpcjejaa
namespace Go.Proofs.Ytclpbfkbpcjejaa
open Go Go.Ab
set_option linter.unusedVariables false
set_option linter.unusedSimpArgs false
set_option linter.unnecessarySimpa false
set_option maxRecDepth 20000
noncomputable section
variable (fr : Fr) (st : St) (k : Kt)
def fi19 : FI := { body := codeOf Try.f19, ntmps := 111, results := [.tmp 2], pers := [0, 1, 2, 8, 25], locals := [1], pure := true, marks := [] }
theorem fi19_eq : gS.fn 19 = some fi19 := by kernel_rfl
theorem st19 (a0 : V) : startFr fi19 [a0] = { ps := [(0, .val a0), (1, .any), (2, .any), (8, .any), (25, .any)], ts := [], lc := [] } := rfl
def b19 : Code := mini (codeOf Try.f19)
def c19_6 : Code := .seq (codeN b19 37) .ret
def c19_5 : Code := .cond (.tmp 6) c19_6 .skip
def c19_3 : Code := .seq (codeN b19 9) c19_5
def c19_17 : Code := .seq (codeN b19 299) .ret
def c19_41 : Code := codeN b19 524139
def c19_39 : Code := .cond (.tmp 25) .skip c19_41
def c19_37 : Code := .seq (codeN b19 196459) c19_39
def c19_35 : Code := .cond (.tmp 25) .skip c19_37
def c19_33 : Code := .seq (codeN b19 49003) c19_35
def c19_31 : Code := .cond (.tmp 25) .skip c19_33
def c19_29 : Code := .seq (codeN b19 12139) c19_31
def c19_27 : Code := .cond (.tmp 25) .skip c19_29
def c19_25 : Code := .seq (codeN b19 2923) c19_27
def c19_23 : Code := .cond (.tmp 25) .skip c19_25
def c19_21 : Code := .seq (codeN b19 619) c19_23
def c19_43 : Code := .seq (codeN b19 1259) .ret
def c19_49 : Code := .seq (codeN b19 5099) .ret
def c19_55 : Code := .seq (codeN b19 20459) .ret
def c19_61 : Code := .seq (codeN b19 81899) .ret
def c19_60 : Code := .cond (.tmp 84) c19_61 .skip
def c19_58 : Code := .seq (codeN b19 24555) c19_60
def c19_54 : Code := .cond (.tmp 62) c19_55 c19_58
def c19_52 : Code := .seq (codeN b19 6123) c19_54
def c19_48 : Code := .cond (.tmp 46) c19_49 c19_52
def c19_46 : Code := .seq (codeN b19 1515) c19_48
def c19_42 : Code := .cond (.tmp 25) c19_43 c19_46
def c19_20 : Code := .seq c19_21 c19_42
def c19_16 : Code := .cond (.tmp 9) c19_17 c19_20
def c19_14 : Code := .seq (codeN b19 75) c19_16
def c19_13 : Code := .block 0 c19_14
def c19_11 : Code := .seq (codeN b19 19) c19_13
def c19_65 : Code := .seq (codeN b19 23) .ret
def c19_10 : Code := .seq c19_11 c19_65
def c19_2 : Code := .seq c19_3 c19_10
def c19_0 : Code := .seq (codeN b19 2) c19_2
theorem E19 : evK gS fi19 c19_6 fr st k = opsR gS fi19 [op1 2 (.assign (.const (.bool false))) 4] fr st (.seq .ret k) ∧
 evK gS fi19 c19_5 fr st k = condK gS fi19 (fr.op (.tmp 6)).bool? c19_6 .skip fr st k ∧
 (evK gS fi19 c19_3 fr st k = opsR gS fi19 [op1 3 (.fieldAddr 27 (.tmp 1) 0) 0,
 ld 4 9 3 9,
 cal 5 68 [(.tmp 4)] [9] 4,
 op1 6 (.unOp .not 4 (.tmp 5)) 4] fr st (.seq c19_5 k)) ∧
 (evK gS fi19 c19_17 fr st k = opsR gS fi19 [op1 11 (.fieldAddr 27 (.tmp 1) 2) 0,
 ld 12 24 11 24,
 cal 13 69 [(.tmp 12)] [24] 4,
 mv 14 13 4,
 mk (some 15) (.fieldAddr 27 (.tmp 1) 3) 0 (some (3, true)),
 mk (some 16) (.load 24 (.tmp 15)) 24 (some (3, true)),
 mk (some 17) (.call { callee := (.value (.func 69)), args := #[(.tmp 16)], argTypes := #[24] }) 4 (some (3, true)),
 op1 18 (.pick (.tmp 14) (.tmp 17) (.const (.bool false))) 4,
 mv 19 18 4,
 mk (some 20) (.fieldAddr 27 (.tmp 1) 4) 0 (some (8, true)),
 mk (some 21) (.load 25 (.tmp 20)) 25 (some (8, true)),
 mk (some 22) (.call { callee := (.builtin .len), args := #[(.tmp 21)], argTypes := #[25] }) 3 (some (8, true)),
 mk (some 23) (.binOp .eql 3 (.tmp 22) (.const (.int .i64 0)) 3) 4 (some (8, true)),
 op1 24 (.pick (.tmp 19) (.tmp 23) (.const (.bool false))) 4,
 asn 2 24 4] fr st (.seq .ret k)) ∧
 (evK gS fi19 c19_41 fr st k = opsR gS fi19 [op1 31 (.binOp .eql 3 (.tmp 8) (.const (.int .i64 7)) 3) 4,
 asn 25 31 4] fr st k) ∧
 evK gS fi19 c19_39 fr st k = condK gS fi19 (fr.op (.tmp 25)).bool? .skip c19_41 fr st k ∧
 (evK gS fi19 c19_37 fr st k = opsR gS fi19 [op1 30 (.binOp .eql 3 (.tmp 8) (.const (.int .i64 6)) 3) 4,
 asn 25 30 4] fr st (.seq c19_39 k)) ∧
 evK gS fi19 c19_35 fr st k = condK gS fi19 (fr.op (.tmp 25)).bool? .skip c19_37 fr st k ∧
 (evK gS fi19 c19_33 fr st k = opsR gS fi19 [op1 29 (.binOp .eql 3 (.tmp 8) (.const (.int .i64 5)) 3) 4,
 asn 25 29 4] fr st (.seq c19_35 k)) ∧
 evK gS fi19 c19_31 fr st k = condK gS fi19 (fr.op (.tmp 25)).bool? .skip c19_33 fr st k ∧
 (evK gS fi19 c19_29 fr st k = opsR gS fi19 [op1 28 (.binOp .eql 3 (.tmp 8) (.const (.int .i64 4)) 3) 4,
 asn 25 28 4] fr st (.seq c19_31 k)) ∧
 evK gS fi19 c19_27 fr st k = condK gS fi19 (fr.op (.tmp 25)).bool? .skip c19_29 fr st k ∧
 (evK gS fi19 c19_25 fr st k = opsR gS fi19 [op1 27 (.binOp .eql 3 (.tmp 8) (.const (.int .i64 3)) 3) 4,
 asn 25 27 4] fr st (.seq c19_27 k)) ∧
 evK gS fi19 c19_23 fr st k = condK gS fi19 (fr.op (.tmp 25)).bool? .skip c19_25 fr st k ∧
 (evK gS fi19 c19_21 fr st k = opsR gS fi19 [op1 26 (.binOp .eql 3 (.tmp 8) (.const (.int .i64 2)) 3) 4,
 asn 25 26 4] fr st (.seq c19_23 k)) ∧
 (evK gS fi19 c19_43 fr st k = opsR gS fi19 [op1 32 (.fieldAddr 27 (.tmp 1) 2) 0,
 ld 33 24 32 24,
 cal 34 70 [(.tmp 33)] [24] 4,
 mv 35 34 4,
 mk (some 36) (.fieldAddr 27 (.tmp 1) 3) 0 (some (3, true)),
 mk (some 37) (.load 24 (.tmp 36)) 24 (some (3, true)),
 mk (some 38) (.call { callee := (.value (.func 69)), args := #[(.tmp 37)], argTypes := #[24] }) 4 (some (3, true)),
 op1 39 (.pick (.tmp 35) (.tmp 38) (.const (.bool false))) 4,
 mv 40 39 4,
 mk (some 41) (.fieldAddr 27 (.tmp 1) 4) 0 (some (8, true)),
 mk (some 42) (.load 25 (.tmp 41)) 25 (some (8, true)),
 mk (some 43) (.call { callee := (.builtin .len), args := #[(.tmp 42)], argTypes := #[25] }) 3 (some (8, true)),
 mk (some 44) (.binOp .eql 3 (.tmp 43) (.const (.int .i64 0)) 3) 4 (some (8, true)),
 op1 45 (.pick (.tmp 40) (.tmp 44) (.const (.bool false))) 4,
 asn 2 45 4] fr st (.seq .ret k)) ∧
 (evK gS fi19 c19_49 fr st k = opsR gS fi19 [op1 48 (.fieldAddr 27 (.tmp 1) 2) 0,
 ld 49 24 48 24,
 cal 50 70 [(.tmp 49)] [24] 4,
 mv 51 50 4,
 mk (some 52) (.fieldAddr 27 (.tmp 1) 3) 0 (some (3, true)),
 mk (some 53) (.load 24 (.tmp 52)) 24 (some (3, true)),
 mk (some 54) (.call { callee := (.value (.func 70)), args := #[(.tmp 53)], argTypes := #[24] }) 4 (some (3, true)),
 op1 55 (.pick (.tmp 51) (.tmp 54) (.const (.bool false))) 4,
 mv 56 55 4,
 mk (some 57) (.fieldAddr 27 (.tmp 1) 4) 0 (some (8, true)),
 mk (some 58) (.load 25 (.tmp 57)) 25 (some (8, true)),
 mk (some 59) (.call { callee := (.builtin .len), args := #[(.tmp 58)], argTypes := #[25] }) 3 (some (8, true)),
 mk (some 60) (.binOp .eql 3 (.tmp 59) (.const (.int .i64 0)) 3) 4 (some (8, true)),
 op1 61 (.pick (.tmp 56) (.tmp 60) (.const (.bool false))) 4,
 asn 2 61 4] fr st (.seq .ret k)) ∧
 (evK gS fi19 c19_55 fr st k = opsR gS fi19 [op1 64 (.fieldAddr 27 (.tmp 1) 2) 0,
 ld 65 24 64 24,
 cal 66 70 [(.tmp 65)] [24] 4,
 mv 67 66 4,
 mk (some 68) (.fieldAddr 27 (.tmp 1) 2) 0 (some (3, true)),
 mk (some 69) (.fieldAddr 24 (.tmp 68) 0) 0 (some (3, true)),
 mk (some 70) (.load 3 (.tmp 69)) 3 (some (3, true)),
 mk (some 71) (.binOp .eql 3 (.tmp 70) (.const (.int .i64 3)) 3) 4 (some (3, true)),
 op1 72 (.pick (.tmp 67) (.tmp 71) (.const (.bool false))) 4,
 mv 73 72 4,
 mk (some 74) (.fieldAddr 27 (.tmp 1) 3) 0 (some (9, true)),
 mk (some 75) (.load 24 (.tmp 74)) 24 (some (9, true)),
 mk (some 76) (.call { callee := (.value (.func 69)), args := #[(.tmp 75)], argTypes := #[24] }) 4 (some (9, true)),
 op1 77 (.pick (.tmp 73) (.tmp 76) (.const (.bool false))) 4,
 mv 78 77 4,
 mk (some 79) (.fieldAddr 27 (.tmp 1) 4) 0 (some (14, true)),
 mk (some 80) (.load 25 (.tmp 79)) 25 (some (14, true)),
 mk (some 81) (.call { callee := (.builtin .len), args := #[(.tmp 80)], argTypes := #[25] }) 3 (some (14, true)),
 mk (some 82) (.binOp .eql 3 (.tmp 81) (.const (.int .i64 0)) 3) 4 (some (14, true)),
 op1 83 (.pick (.tmp 78) (.tmp 82) (.const (.bool false))) 4,
 asn 2 83 4] fr st (.seq .ret k)) ∧
 (evK gS fi19 c19_61 fr st k = opsR gS fi19 [op1 86 (.fieldAddr 27 (.tmp 1) 2) 0,
 ld 87 24 86 24,
 cal 88 69 [(.tmp 87)] [24] 4,
 mv 89 88 4,
 mk (some 90) (.fieldAddr 27 (.tmp 1) 3) 0 (some (3, true)),
 mk (some 91) (.load 24 (.tmp 90)) 24 (some (3, true)),
 mk (some 92) (.call { callee := (.value (.func 69)), args := #[(.tmp 91)], argTypes := #[24] }) 4 (some (3, true)),
 op1 93 (.pick (.tmp 89) (.tmp 92) (.const (.bool false))) 4,
 mv 94 93 4,
 mk (some 95) (.fieldAddr 27 (.tmp 1) 4) 0 (some (8, true)),
 mk (some 96) (.load 25 (.tmp 95)) 25 (some (8, true)),
 mk (some 97) (.call { callee := (.builtin .len), args := #[(.tmp 96)], argTypes := #[25] }) 3 (some (8, true)),
 mk (some 98) (.binOp .geq 3 (.tmp 97) (.const (.int .i64 1)) 3) 4 (some (8, true)),
 op1 99 (.pick (.tmp 94) (.tmp 98) (.const (.bool false))) 4,
 mv 100 99 4,
 mk (some 101) (.fieldAddr 27 (.tmp 1) 4) 0 (some (14, true)),
 mk (some 102) (.load 25 (.tmp 101)) 25 (some (14, true)),
 mk (some 103) (.call { callee := (.builtin .len), args := #[(.tmp 102)], argTypes := #[25] }) 3 (some (14, true)),
 mk (some 104) (.binOp .leq 3 (.tmp 103) (.const (.int .i64 4)) 3) 4 (some (14, true)),
 op1 105 (.pick (.tmp 100) (.tmp 104) (.const (.bool false))) 4,
 mv 106 105 4,
 mk (some 107) (.fieldAddr 27 (.tmp 1) 4) 0 (some (20, true)),
 mk (some 108) (.load 25 (.tmp 107)) 25 (some (20, true)),
 mk (some 109) (.call { callee := (.value (.func 71)), args := #[(.tmp 108)], argTypes := #[25] }) 4 (some (20, true)),
 op1 110 (.pick (.tmp 106) (.tmp 109) (.const (.bool false))) 4,
 asn 2 110 4] fr st (.seq .ret k)) ∧
 evK gS fi19 c19_60 fr st k = condK gS fi19 (fr.op (.tmp 84)).bool? c19_61 .skip fr st k ∧
 (evK gS fi19 c19_58 fr st k = opsR gS fi19 [op1 85 (.binOp .eql 3 (.tmp 8) (.const (.int .i64 10)) 3) 4,
 asn 84 85 4] fr st (.seq c19_60 k)) ∧
 evK gS fi19 c19_54 fr st k = condK gS fi19 (fr.op (.tmp 62)).bool? c19_55 c19_58 fr st k ∧
 (evK gS fi19 c19_52 fr st k = opsR gS fi19 [op1 63 (.binOp .eql 3 (.tmp 8) (.const (.int .i64 9)) 3) 4,
 asn 62 63 4] fr st (.seq c19_54 k)) ∧
 evK gS fi19 c19_48 fr st k = condK gS fi19 (fr.op (.tmp 46)).bool? c19_49 c19_52 fr st k ∧
 (evK gS fi19 c19_46 fr st k = opsR gS fi19 [op1 47 (.binOp .eql 3 (.tmp 8) (.const (.int .i64 8)) 3) 4,
 asn 46 47 4] fr st (.seq c19_48 k)) ∧
 evK gS fi19 c19_42 fr st k = condK gS fi19 (fr.op (.tmp 25)).bool? c19_43 c19_46 fr st k ∧
 evK gS fi19 c19_20 fr st k = evK gS fi19 c19_21 fr st (.seq c19_42 k) ∧
 evK gS fi19 c19_16 fr st k = condK gS fi19 (fr.op (.tmp 9)).bool? c19_17 c19_20 fr st k ∧
 (evK gS fi19 c19_14 fr st k = opsR gS fi19 [op1 10 (.binOp .eql 3 (.tmp 8) (.const (.int .i64 1)) 3) 4,
 asn 9 10 4] fr st (.seq c19_16 k)) ∧
 evK gS fi19 c19_13 fr st k = evK gS fi19 c19_14 fr st (.blk 0 k) ∧
 (evK gS fi19 c19_11 fr st k = opsR gS fi19 [op1 7 (.fieldAddr 27 (.tmp 1) 1) 0,
 ld 8 3 7 3] fr st (.seq c19_13 k)) ∧
 evK gS fi19 c19_65 fr st k = opsR gS fi19 [op1 2 (.assign (.const (.bool false))) 4] fr st (.seq .ret k) ∧
 evK gS fi19 c19_10 fr st k = evK gS fi19 c19_11 fr st (.seq c19_65 k) ∧
 evK gS fi19 c19_2 fr st k = evK gS fi19 c19_3 fr st (.seq c19_10 k) ∧
 (evK gS fi19 c19_0 fr st k = opsR gS fi19 [op1 1 (.box 27 (.tmp 0)) 0,
 op1 2 (.assign (.const (.bool false))) 4] fr st (.seq c19_2 k)) := ⟨evK_rs 2 rfl (by kernel_rfl), rfl, evK_rs 1 rfl (by kernel_rfl), evK_rs 5 rfl (by kernel_rfl), evK_r 11 (by kernel_rfl), rfl, evK_rs 10 rfl (by kernel_rfl), rfl, evK_rs 9 rfl (by kernel_rfl), rfl, evK_rs 8 rfl (by kernel_rfl), rfl, evK_rs 7 rfl (by kernel_rfl), rfl, evK_rs 6 rfl (by kernel_rfl), evK_rs 12 rfl (by kernel_rfl), evK_rs 14 rfl (by kernel_rfl), evK_rs 16 rfl (by kernel_rfl), evK_rs 18 rfl (by kernel_rfl), rfl, evK_rs 17 rfl (by kernel_rfl), rfl, evK_rs 15 rfl (by kernel_rfl), rfl, evK_rs 13 rfl (by kernel_rfl), rfl, rfl, rfl, evK_rs 4 rfl (by kernel_rfl), rfl, evK_rs 3 rfl (by kernel_rfl), evK_rs 19 rfl (by kernel_rfl), rfl, rfl, evK_rs 0 rfl (by kernel_rfl)⟩
theorem m19 : mini fi19.body = c19_0 := by kernel_rfl
set_option maxHeartbeats 4000000 in
theorem c19 (p : Pred)  (h_p : Pred.ok p) (st : St) : EvF gS 19 [p.enc] st = some (.ret (.bool (pright p)) none, st) := by
  refine EvF_start fi19_eq (fun x h => by cases h) m19 ?_
  rw [st19]
  have hm : fi19.marks = [] := rfl
  have hl : fi19.locals = [1] := rfl
  have hr : fi19.results = [.tmp 2] := rfl
  simp (config := { contextual := true, maxSteps := 10000000, maxDischargeDepth := 6 }) [-Int.not_le, -Int.not_lt, -Nat.not_le, -Nat.not_lt, ty3, ty4, ty9, ty24, ty25, ty27, eq24, hm, hl, hr, k68, k69, k70, k71, E19, h_p.1, h_p.2]
  all_goals try simp (config := { contextual := true }) [-Int.not_le, -Int.not_lt, -Nat.not_le, -Nat.not_lt, pright]
  all_goals first | done | grind | omega | (trace_state; fail)
theorem k19 (p_name : List UInt8) (p_test : Int) (p_vk : Int) (p_vn : Int) (p_vx : Nat) (p_vs : List UInt8) (p_vb : Bool) (p_wk : Int) (p_wn : Int) (p_wx : Nat) (p_ws : List UInt8) (p_wb : Bool) (p_set : List Val)  (h_p : Pred.ok (⟨p_name, p_test, ⟨p_vk, p_vn, p_vx, p_vs, p_vb⟩, ⟨p_wk, p_wn, p_wx, p_ws, p_wb⟩, p_set⟩ : Pred)) (fr : Fr) (st : St) : callStep gS (EvF gS) 19 [.agg [.str p_name, .int .i64 p_test, .int .i64 p_vk, .int .i64 p_vn, .float .f64 p_vx, .str p_vs, .bool p_vb, .int .i64 p_wk, .int .i64 p_wn, .float .f64 p_wx, .str p_ws, .bool p_wb, .slice (encVals p_set)]] fr st = some (.ok (retE none (.bool (pright (⟨p_name, p_test, ⟨p_vk, p_vn, p_vx, p_vs, p_vb⟩, ⟨p_wk, p_wn, p_wx, p_ws, p_wb⟩, p_set⟩ : Pred)))) fr st) :=
  call_pure rfl fi19_eq rfl (fun st => c19 (⟨p_name, p_test, ⟨p_vk, p_vn, p_vx, p_vs, p_vb⟩, ⟨p_wk, p_wn, p_wx, p_ws, p_wb⟩, p_set⟩ : Pred) h_p st) (by simp)
end
end Go.Proofs.Ytclpbfkbpcjejaa
namespace Go.Proofs.Ytclpbfkbpcjejaa
open Go Go.Ab
set_option linter.unusedVariables false
set_option linter.unusedSimpArgs false
set_option linter.unnecessarySimpa false
set_option maxRecDepth 20000
noncomputable section
variable (fr : Fr) (st : St) (k : Kt)
def fi25 : FI := { body := codeOf Try.f25, ntmps := 62, results := [.tmp 4], pers := [0, 1, 2, 3, 4, 5, 45, 46], locals := [2, 3], pure := true, marks := [] }
theorem fi25_eq : gS.fn 25 = some fi25 := by kernel_rfl
theorem st25 (a0 a1 : V) : startFr fi25 [a0, a1] = { ps := [(0, .val a0), (1, .val a1), (2, .any), (3, .any), (4, .any), (5, .any), (45, .any), (46, .any)], ts := [], lc := [] } := rfl
def b25 : Code := mini (codeOf Try.f25)
def c25_6 : Code := .seq (codeN b25 37) .ret
def c25_5 : Code := .cond (.tmp 42) c25_6 .skip
def c25_3 : Code := .seq (codeN b25 9) c25_5
def r25_26 : Array Oper := regOps (codeN (codeOf Try.f25) 5323)
def c25_26 : Code := .region 6 r25_26 true
def q25_26 : List (Oper × Fl) := [(op1 49 (.fieldAddr 27 (.tmp 2) 4) 0, ⟨true, false, true, false, false, false, true, true, false, false, []⟩),
 (ld 50 25 49 25, ⟨true, false, true, false, false, false, true, true, false, false, []⟩),
 (mv 51 5 3, ⟨true, false, true, false, false, false, true, true, false, false, []⟩),
 (ixa 52 25 50 51 0, ⟨true, false, true, false, false, false, true, true, false, false, []⟩),
 (ld 53 24 52 24, ⟨true, false, true, false, false, false, true, true, false, false, []⟩),
 (op1 54 (.fieldAddr 27 (.tmp 3) 4) 0, ⟨true, false, true, false, false, false, true, true, false, false, []⟩),
 (ld 55 25 54 25, ⟨true, false, true, false, false, false, true, true, false, false, []⟩),
 (mv 56 5 3, ⟨true, false, true, false, true, false, true, true, false, false, []⟩),
 (ixa 57 25 55 56 0, ⟨true, false, true, false, true, false, true, true, false, false, []⟩),
 (ld 58 24 57 24, ⟨true, false, true, false, true, false, true, true, false, false, []⟩),
 (cal 59 81 [(.tmp 53), (.tmp 58)] [24, 24] 4, ⟨true, true, true, false, true, true, true, true, false, false, []⟩),
 (op1 60 (.unOp .not 4 (.tmp 59)) 4, ⟨true, false, true, false, true, false, true, true, false, false, []⟩)]
def c25_28 : Code := .seq (codeN b25 19659) .ret
def c25_27 : Code := .cond (.tmp 60) c25_28 .skip
def c25_25 : Code := .seq c25_26 c25_27
def c25_23 : Code := .seq (codeN b25 2251) c25_25
def c25_32 : Code := codeN b25 971
def c25_21 : Code := .seq (.block 1 c25_23) c25_32
def c25_17 : Code := .seq (.cond (.tmp 47) .skip (.exit 0)) c25_21
def c25_15 : Code := .seq (codeN b25 139) c25_17
def c25_14 : Code := .loop c25_15
def c25_13 : Code := .block 0 c25_14
def c25_11 : Code := .seq (codeN b25 19) c25_13
def c25_33 : Code := .seq (codeN b25 23) .ret
def c25_10 : Code := .seq c25_11 c25_33
def c25_2 : Code := .seq c25_3 c25_10
def c25_0 : Code := .seq (codeN b25 2) c25_2
theorem E25 : evK gS fi25 c25_6 fr st k = opsR gS fi25 [op1 4 (.assign (.const (.bool false))) 4] fr st (.seq .ret k) ∧
 evK gS fi25 c25_5 fr st k = condK gS fi25 (fr.op (.tmp 42)).bool? c25_6 .skip fr st k ∧
 (evK gS fi25 c25_3 fr st k = opsR gS fi25 [op1 6 (.fieldAddr 27 (.tmp 2) 0) 0,
 ld 7 9 6 9,
 op1 8 (.fieldAddr 27 (.tmp 3) 0) 0,
 ld 9 9 8 9,
 bop 10 .neq 9 7 9 9 4,
 mv 11 10 4,
 mk (some 12) (.fieldAddr 27 (.tmp 2) 1) 0 (some (5, false)),
 mk (some 13) (.load 3 (.tmp 12)) 3 (some (5, false)),
 mk (some 14) (.fieldAddr 27 (.tmp 3) 1) 0 (some (5, false)),
 mk (some 15) (.load 3 (.tmp 14)) 3 (some (5, false)),
 mk (some 16) (.binOp .neq 3 (.tmp 13) (.tmp 15) 3) 4 (some (5, false)),
 op1 17 (.pick (.tmp 11) (.const (.bool true)) (.tmp 16)) 4,
 mv 18 17 4,
 mk (some 19) (.fieldAddr 27 (.tmp 2) 2) 0 (some (12, false)),
 mk (some 20) (.load 24 (.tmp 19)) 24 (some (12, false)),
 mk (some 21) (.fieldAddr 27 (.tmp 3) 2) 0 (some (12, false)),
 mk (some 22) (.load 24 (.tmp 21)) 24 (some (12, false)),
 mk (some 23) (.call { callee := (.value (.func 81)), args := #[(.tmp 20), (.tmp 22)], argTypes := #[24, 24] }) 4 (some (12, false)),
 mk (some 24) (.unOp .not 4 (.tmp 23)) 4 (some (12, false)),
 op1 25 (.pick (.tmp 18) (.const (.bool true)) (.tmp 24)) 4,
 mv 26 25 4,
 mk (some 27) (.fieldAddr 27 (.tmp 2) 3) 0 (some (20, false)),
 mk (some 28) (.load 24 (.tmp 27)) 24 (some (20, false)),
 mk (some 29) (.fieldAddr 27 (.tmp 3) 3) 0 (some (20, false)),
 mk (some 30) (.load 24 (.tmp 29)) 24 (some (20, false)),
 mk (some 31) (.call { callee := (.value (.func 81)), args := #[(.tmp 28), (.tmp 30)], argTypes := #[24, 24] }) 4 (some (20, false)),
 mk (some 32) (.unOp .not 4 (.tmp 31)) 4 (some (20, false)),
 op1 33 (.pick (.tmp 26) (.const (.bool true)) (.tmp 32)) 4,
 mv 34 33 4,
 mk (some 35) (.fieldAddr 27 (.tmp 2) 4) 0 (some (28, false)),
 mk (some 36) (.load 25 (.tmp 35)) 25 (some (28, false)),
 mk (some 37) (.call { callee := (.builtin .len), args := #[(.tmp 36)], argTypes := #[25] }) 3 (some (28, false)),
 mk (some 38) (.fieldAddr 27 (.tmp 3) 4) 0 (some (28, false)),
 mk (some 39) (.load 25 (.tmp 38)) 25 (some (28, false)),
 mk (some 40) (.call { callee := (.builtin .len), args := #[(.tmp 39)], argTypes := #[25] }) 3 (some (28, false)),
 mk (some 41) (.binOp .neq 3 (.tmp 37) (.tmp 40) 3) 4 (some (28, false)),
 op1 42 (.pick (.tmp 34) (.const (.bool true)) (.tmp 41)) 4] fr st (.seq c25_5 k)) ∧
 evK gS fi25 c25_26 fr st k = drwR gS fi25 r25_26 q25_26 fr st k ∧
 evK gS fi25 c25_28 fr st k = opsR gS fi25 [op1 4 (.assign (.const (.bool false))) 4] fr st (.seq .ret k) ∧
 evK gS fi25 c25_27 fr st k = condK gS fi25 (fr.op (.tmp 60)).bool? c25_28 .skip fr st k ∧
 evK gS fi25 c25_25 fr st k = evK gS fi25 c25_26 fr st (.seq c25_27 k) ∧
 (evK gS fi25 c25_23 fr st k = opsR gS fi25 [mv 48 46 3,
 asn 5 48 3] fr st (.seq c25_25 k)) ∧
 (evK gS fi25 c25_32 fr st k = opsR gS fi25 [op1 61 (.binOp .add 3 (.tmp 46) (.const (.int .i64 1)) 3) 3,
 mv 46 61 3] fr st k) ∧
 evK gS fi25 c25_21 fr st k = evK gS fi25 c25_23 fr st (.blk 1 (.seq c25_32 k)) ∧
 evK gS fi25 c25_17 fr st k = condK gS fi25 (fr.op (.tmp 47)).bool? .skip (.exit 0) fr st (.seq c25_21 k) ∧
 evK gS fi25 c25_15 fr st k = opsR gS fi25 [bop 47 .lss 3 46 45 3 0] fr st (.seq c25_17 k) ∧
 evK gS fi25 c25_13 fr st k = evK gS fi25 c25_14 fr st (.blk 0 k) ∧
 (evK gS fi25 c25_11 fr st k = opsR gS fi25 [op1 43 (.fieldAddr 27 (.tmp 2) 4) 0,
 ld 44 25 43 25,
 len1 45 44 25 3,
 op1 46 (.move (.const (.int .i64 0))) 3] fr st (.seq c25_13 k)) ∧
 evK gS fi25 c25_33 fr st k = opsR gS fi25 [op1 4 (.assign (.const (.bool true))) 4] fr st (.seq .ret k) ∧
 evK gS fi25 c25_10 fr st k = evK gS fi25 c25_11 fr st (.seq c25_33 k) ∧
 evK gS fi25 c25_2 fr st k = evK gS fi25 c25_3 fr st (.seq c25_10 k) ∧
 (evK gS fi25 c25_0 fr st k = opsR gS fi25 [op1 2 (.box 27 (.tmp 0)) 0,
 op1 3 (.box 27 (.tmp 1)) 0,
 op1 4 (.assign (.const (.bool false))) 4] fr st (.seq c25_2 k)) := ⟨evK_rs 2 rfl (by kernel_rfl), rfl, evK_rs 1 rfl (by kernel_rfl), evK_dr 6 rfl (by kernel_rfl) (by kernel_rfl), evK_rs 7 rfl (by kernel_rfl), rfl, rfl, evK_rs 5 rfl (by kernel_rfl), evK_r 8 (by kernel_rfl), rfl, rfl, evK_rs 4 rfl (by kernel_rfl), rfl, evK_rs 3 rfl (by kernel_rfl), evK_rs 9 rfl (by kernel_rfl), rfl, rfl, evK_rs 0 rfl (by kernel_rfl)⟩
theorem m25 : mini fi25.body = c25_0 := by kernel_rfl
theorem n25_14 (fr : Fr) (st : St) (k : Kt) : nextK gS fi25 (.loop c25_15 k) .normal fr st = evK gS fi25 c25_14 fr st k := rfl
set_option maxHeartbeats 4000000 in
theorem L25_14 (a : Pred) (b : Pred) (h_a : a.ok) (st : St) : ∀ (n i : Nat) (j : Int) (m : Int) (e0 e1 e4 e5 : E) (T : List (Nat × E)) (X : List (Nat × List V)) (ht0 : e0.Tame) (ht1 : e1.Tame) (ht4 : e4.Tame) (ht5 : e5.Tame) (hx2 : lk X 2 = some [.str a.name, .int .i64 a.test, .int .i64 a.v.kind, .int .i64 a.v.n, .float .f64 a.v.x, .str a.v.s, .bool a.v.b, .int .i64 a.w.kind, .int .i64 a.w.n, .float .f64 a.w.x, .str a.w.s, .bool a.w.b, .slice (encVals a.set)]) (hx3 : lk X 3 = some [.str b.name, .int .i64 b.test, .int .i64 b.v.kind, .int .i64 b.v.n, .float .f64 b.v.x, .str b.v.s, .bool b.v.b, .int .i64 b.w.kind, .int .i64 b.w.n, .float .f64 b.w.x, .str b.w.s, .bool b.w.b, .slice (encVals b.set)]) (hlen : a.set.length = b.set.length) (hm45 : m = ((a.set.length : Nat) : Int)), j = (i : Int) → i ≤ (a.set).length → (a.set).length - i = n →
    evK gS fi25 c25_14 { ps := [(0, e0), (1, e1), (2, .lp 2 0), (3, .lp 3 0), (4, e4), (5, e5), (45, .val (.int .i64 m)), (46, .val (.int .i64 j))], ts := T, lc := X } st (.blk 0 (.seq c25_33 .nil)) = some ((.ret (.bool (sames (a.set.drop i) (b.set.drop i))) none), st) := by
  intro n
  have hm : fi25.marks = [] := rfl
  have hl : fi25.locals = [2, 3] := rfl
  have hr : fi25.results = [.tmp 4] := rfl
  have hao := h_a.2
  induction n with
  | zero =>
    intro i j m e0 e1 e4 e5 T X ht0 ht1 ht4 ht5 hx2 hx3 hlen hm45 hj hi hn
    obtain rfl : i = (a.set).length := by omega
    subst hj
    subst hm45
    have hz : b.set.drop a.set.length = [] := List.drop_eq_nil_of_le (by omega)
    refine evK_loop c25_15 _ st _ _ rfl ?_
    simp (config := { contextual := true, maxSteps := 10000000, maxDischargeDepth := 6 }) [-Int.not_le, -Int.not_lt, -Nat.not_le, -Nat.not_lt, ty3, ty4, ty9, ty24, ty25, ty27, eq24, hm, hl, hr, k81, x81, fi81_eq, p81, E25, q25_26, n25_14, ht0, ht1, ht4, ht5, hx2, hx3, hz]
    all_goals try simp (config := { contextual := true }) [-Int.not_le, -Int.not_lt, -Nat.not_le, -Nat.not_lt, sames]
    all_goals first | done | grind | omega | (trace_state; fail)
  | succ n ih =>
    intro i j m e0 e1 e4 e5 T X ht0 ht1 ht4 ht5 hx2 hx3 hlen hm45 hj hi hn
    subst hj
    obtain ⟨x, hx⟩ : ∃ x, (a.set)[i]? = some x := ⟨(a.set)[i]'(by omega), List.getElem?_eq_getElem (by omega)⟩
    have hd := drop_get hx
    have hlt : (i : Int) < ((a.set).length : Int) := by omega
    have hlt2 : i < (a.set).length := by omega
    have hxe : (a.set)[i]'hlt2 = x := by rw [List.getElem?_eq_getElem hlt2] at hx; exact Option.some.inj hx
    have hw : IntKind.wrap .i64 ((i : Int) + 1) = (i : Int) + 1 := wrap64 (by omega) (by omega)
    subst hm45
    obtain ⟨y, hy⟩ : ∃ y, (b.set)[i]? = some y := ⟨(b.set)[i]'(by omega), List.getElem?_eq_getElem (by omega)⟩
    have hyd := drop_get hy
    have hyl : i < (b.set).length := by omega
    have hye : (b.set)[i]'hyl = y := by rw [List.getElem?_eq_getElem hyl] at hy; exact Option.some.inj hy
    have IH := fun m e0 e1 e4 e5 T X ht0 ht1 ht4 ht5 hx2 hx3 hlen hm45 => ih (i + 1) ((i : Int) + 1) m e0 e1 e4 e5 T X ht0 ht1 ht4 ht5 hx2 hx3 hlen hm45 rfl (by omega) (by omega)
    refine evK_loop c25_15 _ st _ _ rfl ?_
    simp (config := { contextual := true, maxSteps := 10000000, maxDischargeDepth := 6 }) [-Int.not_le, -Int.not_lt, -Nat.not_le, -Nat.not_lt, ty3, ty4, ty9, ty24, ty25, ty27, eq24, hm, hl, hr, k81, x81, fi81_eq, p81, E25, q25_26, n25_14, ht0, ht1, ht4, ht5, hx2, hx3, hx, hxe, hd, hlt, hlt2, hw, IH, hy, hye, hyd, hlen]
    all_goals try simp (config := { contextual := true }) [-Int.not_le, -Int.not_lt, -Nat.not_le, -Nat.not_lt, sames]
    all_goals first | done | grind | omega | (trace_state; fail)
set_option maxHeartbeats 4000000 in
theorem c25 (a : Pred) (b : Pred)  (h_a : Pred.ok a) (h_b : Pred.ok b) (st : St) : EvF gS 25 [a.enc, b.enc] st = some (.ret (.bool (psame a b)) none, st) := by
  refine EvF_start fi25_eq (fun x h => by cases h) m25 ?_
  rw [st25]
  have hm : fi25.marks = [] := rfl
  have hl : fi25.locals = [2, 3] := rfl
  have hr : fi25.results = [.tmp 4] := rfl
  simp (config := { contextual := true, maxSteps := 10000000, maxDischargeDepth := 6 }) [-Int.not_le, -Int.not_lt, -Nat.not_le, -Nat.not_lt, ty3, ty4, ty9, ty24, ty25, ty27, eq24, hm, hl, hr, k81, x81, fi81_eq, p81, E25, q25_26, n25_14, (fun m e0 e1 e4 e5 T X ht0 ht1 ht4 ht5 hx2 hx3 hlen hm45 => L25_14 a b h_a st _ 0 0  m e0 e1 e4 e5 T X ht0 ht1 ht4 ht5 hx2 hx3 hlen hm45 rfl (Nat.zero_le _) rfl), h_a.1, h_a.2, h_b.1, h_b.2]
  all_goals try simp (config := { contextual := true }) [-Int.not_le, -Int.not_lt, -Nat.not_le, -Nat.not_lt, psame, sames_ne]
  all_goals first | done | grind | omega | (trace_state; fail)
theorem k25 (a_name : List UInt8) (a_test : Int) (a_vk : Int) (a_vn : Int) (a_vx : Nat) (a_vs : List UInt8) (a_vb : Bool) (a_wk : Int) (a_wn : Int) (a_wx : Nat) (a_ws : List UInt8) (a_wb : Bool) (a_set : List Val) (b_name : List UInt8) (b_test : Int) (b_vk : Int) (b_vn : Int) (b_vx : Nat) (b_vs : List UInt8) (b_vb : Bool) (b_wk : Int) (b_wn : Int) (b_wx : Nat) (b_ws : List UInt8) (b_wb : Bool) (b_set : List Val)  (h_a : Pred.ok (⟨a_name, a_test, ⟨a_vk, a_vn, a_vx, a_vs, a_vb⟩, ⟨a_wk, a_wn, a_wx, a_ws, a_wb⟩, a_set⟩ : Pred)) (h_b : Pred.ok (⟨b_name, b_test, ⟨b_vk, b_vn, b_vx, b_vs, b_vb⟩, ⟨b_wk, b_wn, b_wx, b_ws, b_wb⟩, b_set⟩ : Pred)) (fr : Fr) (st : St) : callStep gS (EvF gS) 25 [.agg [.str a_name, .int .i64 a_test, .int .i64 a_vk, .int .i64 a_vn, .float .f64 a_vx, .str a_vs, .bool a_vb, .int .i64 a_wk, .int .i64 a_wn, .float .f64 a_wx, .str a_ws, .bool a_wb, .slice (encVals a_set)], .agg [.str b_name, .int .i64 b_test, .int .i64 b_vk, .int .i64 b_vn, .float .f64 b_vx, .str b_vs, .bool b_vb, .int .i64 b_wk, .int .i64 b_wn, .float .f64 b_wx, .str b_ws, .bool b_wb, .slice (encVals b_set)]] fr st = some (.ok (retE none (.bool (psame (⟨a_name, a_test, ⟨a_vk, a_vn, a_vx, a_vs, a_vb⟩, ⟨a_wk, a_wn, a_wx, a_ws, a_wb⟩, a_set⟩ : Pred) (⟨b_name, b_test, ⟨b_vk, b_vn, b_vx, b_vs, b_vb⟩, ⟨b_wk, b_wn, b_wx, b_ws, b_wb⟩, b_set⟩ : Pred)))) fr st) :=
  call_pure rfl fi25_eq rfl (fun st => c25 (⟨a_name, a_test, ⟨a_vk, a_vn, a_vx, a_vs, a_vb⟩, ⟨a_wk, a_wn, a_wx, a_ws, a_wb⟩, a_set⟩ : Pred) (⟨b_name, b_test, ⟨b_vk, b_vn, b_vx, b_vs, b_vb⟩, ⟨b_wk, b_wn, b_wx, b_ws, b_wb⟩, b_set⟩ : Pred) h_a h_b st) (by simp)
def fi84 : FI := { body := codeOf Try.f84, ntmps := 11, results := [.tmp 4], pers := [0, 1, 2, 3, 4], locals := [2, 3], pure := true, marks := [] }
theorem fi84_eq : gS.fn 84 = some fi84 := by kernel_rfl
theorem st84 (a0 a1 : V) : startFr fi84 [a0, a1] = { ps := [(0, .val a0), (1, .val a1), (2, .any), (3, .any), (4, .any)], ts := [], lc := [] } := rfl
def b84 : Code := mini (codeOf Try.f84)
def c84_4 : Code := .seq (codeN b84 11) .ret
theorem e84_4 : evK gS fi84 c84_4 fr st k = opsR gS fi84 [ld 8 27 2 27,
 ld 9 27 3 27,
 cal 10 25 [(.tmp 8), (.tmp 9)] [27, 27] 4,
 asn 4 10 4] fr st (.seq .ret k) := evK_rs 2 rfl (by kernel_rfl)
def c84_2 : Code := .seq (codeN b84 5) c84_4
theorem e84_2 : evK gS fi84 c84_2 fr st k = opsR gS fi84 [op1 5 (.fieldAddr 27 (.tmp 3) 0) 0,
 ld 6 9 5 9,
 op1 7 (.fieldAddr 27 (.tmp 2) 0) 0,
 sto 9 7 6] fr st (.seq c84_4 k) := evK_rs 1 rfl (by kernel_rfl)
def c84_0 : Code := .seq (codeN b84 2) c84_2
theorem e84_0 : evK gS fi84 c84_0 fr st k = opsR gS fi84 [op1 2 (.box 27 (.tmp 0)) 0,
 op1 3 (.box 27 (.tmp 1)) 0,
 op1 4 (.assign (.const (.bool false))) 4] fr st (.seq c84_2 k) := evK_rs 0 rfl (by kernel_rfl)
theorem m84 : mini fi84.body = c84_0 := by kernel_rfl
set_option maxHeartbeats 4000000 in
theorem c84 (q : Pred) (p : Pred)  (h_q : Pred.ok q) (h_p : Pred.ok p) (st : St) : EvF gS 84 [q.enc, p.enc] st = some (.ret (.bool (decide (q.test = p.test) && vsame q.v p.v && vsame q.w p.w && sames q.set p.set)) none, st) := by
  refine EvF_start fi84_eq (fun x h => by cases h) m84 ?_
  rw [st84]
  have hm : fi84.marks = [] := rfl
  have hl : fi84.locals = [2, 3] := rfl
  have hr : fi84.results = [.tmp 4] := rfl
  simp (config := { contextual := true, maxSteps := 10000000, maxDischargeDepth := 6 }) [-Int.not_le, -Int.not_lt, -Nat.not_le, -Nat.not_lt, ty4, ty9, ty27, hm, hl, hr, k25, e84_4, e84_2, e84_0, h_q.1, h_q.2, h_p.1, h_p.2]
  all_goals try simp (config := { contextual := true }) [-Int.not_le, -Int.not_lt, -Nat.not_le, -Nat.not_lt, psame]
  all_goals first | done | grind | omega | (trace_state; fail)
theorem k84 (q_name : List UInt8) (q_test : Int) (q_vk : Int) (q_vn : Int) (q_vx : Nat) (q_vs : List UInt8) (q_vb : Bool) (q_wk : Int) (q_wn : Int) (q_wx : Nat) (q_ws : List UInt8) (q_wb : Bool) (q_set : List Val) (p_name : List UInt8) (p_test : Int) (p_vk : Int) (p_vn : Int) (p_vx : Nat) (p_vs : List UInt8) (p_vb : Bool) (p_wk : Int) (p_wn : Int) (p_wx : Nat) (p_ws : List UInt8) (p_wb : Bool) (p_set : List Val)  (h_q : Pred.ok (⟨q_name, q_test, ⟨q_vk, q_vn, q_vx, q_vs, q_vb⟩, ⟨q_wk, q_wn, q_wx, q_ws, q_wb⟩, q_set⟩ : Pred)) (h_p : Pred.ok (⟨p_name, p_test, ⟨p_vk, p_vn, p_vx, p_vs, p_vb⟩, ⟨p_wk, p_wn, p_wx, p_ws, p_wb⟩, p_set⟩ : Pred)) (fr : Fr) (st : St) : callStep gS (EvF gS) 84 [.agg [.str q_name, .int .i64 q_test, .int .i64 q_vk, .int .i64 q_vn, .float .f64 q_vx, .str q_vs, .bool q_vb, .int .i64 q_wk, .int .i64 q_wn, .float .f64 q_wx, .str q_ws, .bool q_wb, .slice (encVals q_set)], .agg [.str p_name, .int .i64 p_test, .int .i64 p_vk, .int .i64 p_vn, .float .f64 p_vx, .str p_vs, .bool p_vb, .int .i64 p_wk, .int .i64 p_wn, .float .f64 p_wx, .str p_ws, .bool p_wb, .slice (encVals p_set)]] fr st = some (.ok (retE none (.bool (decide ((⟨q_name, q_test, ⟨q_vk, q_vn, q_vx, q_vs, q_vb⟩, ⟨q_wk, q_wn, q_wx, q_ws, q_wb⟩, q_set⟩ : Pred).test = (⟨p_name, p_test, ⟨p_vk, p_vn, p_vx, p_vs, p_vb⟩, ⟨p_wk, p_wn, p_wx, p_ws, p_wb⟩, p_set⟩ : Pred).test) && vsame (⟨q_name, q_test, ⟨q_vk, q_vn, q_vx, q_vs, q_vb⟩, ⟨q_wk, q_wn, q_wx, q_ws, q_wb⟩, q_set⟩ : Pred).v (⟨p_name, p_test, ⟨p_vk, p_vn, p_vx, p_vs, p_vb⟩, ⟨p_wk, p_wn, p_wx, p_ws, p_wb⟩, p_set⟩ : Pred).v && vsame (⟨q_name, q_test, ⟨q_vk, q_vn, q_vx, q_vs, q_vb⟩, ⟨q_wk, q_wn, q_wx, q_ws, q_wb⟩, q_set⟩ : Pred).w (⟨p_name, p_test, ⟨p_vk, p_vn, p_vx, p_vs, p_vb⟩, ⟨p_wk, p_wn, p_wx, p_ws, p_wb⟩, p_set⟩ : Pred).w && sames (⟨q_name, q_test, ⟨q_vk, q_vn, q_vx, q_vs, q_vb⟩, ⟨q_wk, q_wn, q_wx, q_ws, q_wb⟩, q_set⟩ : Pred).set (⟨p_name, p_test, ⟨p_vk, p_vn, p_vx, p_vs, p_vb⟩, ⟨p_wk, p_wn, p_wx, p_ws, p_wb⟩, p_set⟩ : Pred).set))) fr st) :=
  call_pure rfl fi84_eq rfl (fun st => c84 (⟨q_name, q_test, ⟨q_vk, q_vn, q_vx, q_vs, q_vb⟩, ⟨q_wk, q_wn, q_wx, q_ws, q_wb⟩, q_set⟩ : Pred) (⟨p_name, p_test, ⟨p_vk, p_vn, p_vx, p_vs, p_vb⟩, ⟨p_wk, p_wn, p_wx, p_ws, p_wb⟩, p_set⟩ : Pred) h_q h_p st) (by simp)
def fi21 : FI := { body := codeOf Try.f21, ntmps := 113, results := [.tmp 4], pers := [0, 1, 2, 3, 4, 5, 6, 7, 8, 10, 22, 103, 104, 105], locals := [2, 3, 10], pure := true, marks := [] }
theorem fi21_eq : gS.fn 21 = some fi21 := by kernel_rfl
theorem st21 (a0 a1 : V) : startFr fi21 [a0, a1] = { ps := [(0, .val a0), (1, .val a1), (2, .any), (3, .any), (4, .any), (5, .any), (6, .any), (7, .any), (8, .any), (10, .any), (22, .any), (103, .any), (104, .any), (105, .any)], ts := [], lc := [] } := rfl
def b21 : Code := mini (codeOf Try.f21)
def c21_6 : Code := .seq (codeN b21 37) .ret
def c21_5 : Code := .cond (.tmp 13) c21_6 .skip
def c21_3 : Code := .seq (codeN b21 9) c21_5
def c21_19 : Code := .seq (codeN b21 599) .ret
def c21_25 : Code := .seq (codeN b21 2519) .ret
def c21_31 : Code := .seq (codeN b21 10199) .ret
def c21_37 : Code := .seq (codeN b21 40919) .ret
def c21_43 : Code := .seq (codeN b21 163799) .ret
def c21_49 : Code := .seq (codeN b21 655319) .ret
def c21_55 : Code := .seq (codeN b21 2621399) .ret
def c21_63 : Code := .seq (codeN b21 23068631) .ret
def c21_61 : Code := .seq (codeN b21 10485719) c21_63
def c21_69 : Code := .seq (codeN b21 41942999) .ret
def c21_68 : Code := .cond (.tmp 89) c21_69 .skip
def c21_66 : Code := .seq (codeN b21 12582871) c21_68
def c21_60 : Code := .cond (.tmp 68) c21_61 c21_66
def c21_58 : Code := .seq (codeN b21 3145687) c21_60
def c21_54 : Code := .cond (.tmp 61) c21_55 c21_58
def c21_52 : Code := .seq (codeN b21 786391) c21_54
def c21_48 : Code := .cond (.tmp 54) c21_49 c21_52
def c21_46 : Code := .seq (codeN b21 196567) c21_48
def c21_42 : Code := .cond (.tmp 47) c21_43 c21_46
def c21_40 : Code := .seq (codeN b21 49111) c21_42
def c21_36 : Code := .cond (.tmp 40) c21_37 c21_40
def c21_34 : Code := .seq (codeN b21 12247) c21_36
def c21_30 : Code := .cond (.tmp 32) c21_31 c21_34
def c21_28 : Code := .seq (codeN b21 3031) c21_30
def c21_24 : Code := .cond (.tmp 25) c21_25 c21_28
def c21_22 : Code := .seq (codeN b21 727) c21_24
def c21_18 : Code := .cond (.tmp 23) c21_19 c21_22
def c21_16 : Code := .seq (codeN b21 151) c21_18
def c21_15 : Code := .block 0 c21_16
def c21_13 : Code := .seq (codeN b21 39) c21_15
def c21_91 : Code := .seq (codeN b21 78639) .ret
def c21_90 : Code := .cond (.tmp 111) c21_91 .skip
def c21_88 : Code := .seq (codeN b21 21295) c21_90
def c21_86 : Code := .seq (codeN b21 9007) c21_88
def c21_95 : Code := codeN b21 3887
def c21_84 : Code := .seq (.block 2 c21_86) c21_95
def c21_80 : Code := .seq (.cond (.tmp 106) .skip (.exit 1)) c21_84
def c21_78 : Code := .seq (codeN b21 559) c21_80
def c21_77 : Code := .loop c21_78
def c21_76 : Code := .block 1 c21_77
def c21_74 : Code := .seq (codeN b21 79) c21_76
def c21_96 : Code := .seq (codeN b21 95) .ret
def c21_73 : Code := .seq c21_74 c21_96
def c21_12 : Code := .seq c21_13 c21_73
def c21_10 : Code := .seq (codeN b21 11) c21_12
def c21_2 : Code := .seq c21_3 c21_10
def c21_0 : Code := .seq (codeN b21 2) c21_2
theorem E21 : evK gS fi21 c21_6 fr st k = opsR gS fi21 [op1 4 (.assign (.const (.bool false))) 4] fr st (.seq .ret k) ∧
 evK gS fi21 c21_5 fr st k = condK gS fi21 (fr.op (.tmp 13)).bool? c21_6 .skip fr st k ∧
 (evK gS fi21 c21_3 fr st k = opsR gS fi21 [ld 11 27 2 27,
 cal 12 19 [(.tmp 11)] [27] 4,
 op1 13 (.unOp .not 4 (.tmp 12)) 4] fr st (.seq c21_5 k)) ∧
 evK gS fi21 c21_19 fr st k = opsR gS fi21 [op1 4 (.assign (.const (.bool true))) 4] fr st (.seq .ret k) ∧
 (evK gS fi21 c21_25 fr st k = opsR gS fi21 [mv 27 6 4,
 mv 28 27 4,
 mk (some 29) (.move (.tmp 5)) 3 (some (1, true)),
 mk (some 30) (.binOp .eql 3 (.tmp 29) (.const (.int .i64 0)) 3) 4 (some (1, true)),
 op1 31 (.pick (.tmp 28) (.tmp 30) (.const (.bool false))) 4,
 asn 4 31 4] fr st (.seq .ret k)) ∧
 (evK gS fi21 c21_31 fr st k = opsR gS fi21 [mv 34 6 4,
 mv 35 34 4,
 mk (some 36) (.move (.tmp 5)) 3 (some (1, true)),
 mk (some 37) (.binOp .eql 3 (.tmp 36) (.const (.int .i64 0)) 3) 4 (some (1, true)),
 op1 38 (.pick (.tmp 35) (.tmp 37) (.const (.bool false))) 4,
 op1 39 (.unOp .not 4 (.tmp 38)) 4,
 asn 4 39 4] fr st (.seq .ret k)) ∧
 (evK gS fi21 c21_37 fr st k = opsR gS fi21 [mv 42 6 4,
 mv 43 42 4,
 mk (some 44) (.move (.tmp 5)) 3 (some (1, true)),
 mk (some 45) (.binOp .lss 3 (.tmp 44) (.const (.int .i64 0)) 3) 4 (some (1, true)),
 op1 46 (.pick (.tmp 43) (.tmp 45) (.const (.bool false))) 4,
 asn 4 46 4] fr st (.seq .ret k)) ∧
 (evK gS fi21 c21_43 fr st k = opsR gS fi21 [mv 49 6 4,
 mv 50 49 4,
 mk (some 51) (.move (.tmp 5)) 3 (some (1, true)),
 mk (some 52) (.binOp .leq 3 (.tmp 51) (.const (.int .i64 0)) 3) 4 (some (1, true)),
 op1 53 (.pick (.tmp 50) (.tmp 52) (.const (.bool false))) 4,
 asn 4 53 4] fr st (.seq .ret k)) ∧
 (evK gS fi21 c21_49 fr st k = opsR gS fi21 [mv 56 6 4,
 mv 57 56 4,
 mk (some 58) (.move (.tmp 5)) 3 (some (1, true)),
 mk (some 59) (.binOp .gtr 3 (.tmp 58) (.const (.int .i64 0)) 3) 4 (some (1, true)),
 op1 60 (.pick (.tmp 57) (.tmp 59) (.const (.bool false))) 4,
 asn 4 60 4] fr st (.seq .ret k)) ∧
 (evK gS fi21 c21_55 fr st k = opsR gS fi21 [mv 63 6 4,
 mv 64 63 4,
 mk (some 65) (.move (.tmp 5)) 3 (some (1, true)),
 mk (some 66) (.binOp .geq 3 (.tmp 65) (.const (.int .i64 0)) 3) 4 (some (1, true)),
 op1 67 (.pick (.tmp 64) (.tmp 66) (.const (.bool false))) 4,
 asn 4 67 4] fr st (.seq .ret k)) ∧
 (evK gS fi21 c21_63 fr st k = opsR gS fi21 [mv 77 6 4,
 mv 78 77 4,
 mk (some 79) (.move (.tmp 5)) 3 (some (1, true)),
 mk (some 80) (.binOp .geq 3 (.tmp 79) (.const (.int .i64 0)) 3) 4 (some (1, true)),
 op1 81 (.pick (.tmp 78) (.tmp 80) (.const (.bool false))) 4,
 mv 82 81 4,
 mk (some 83) (.move (.tmp 8)) 4 (some (5, true)),
 op1 84 (.pick (.tmp 82) (.tmp 83) (.const (.bool false))) 4,
 mv 85 84 4,
 mk (some 86) (.move (.tmp 7)) 3 (some (8, true)),
 mk (some 87) (.binOp .leq 3 (.tmp 86) (.const (.int .i64 0)) 3) 4 (some (8, true)),
 op1 88 (.pick (.tmp 85) (.tmp 87) (.const (.bool false))) 4,
 asn 4 88 4] fr st (.seq .ret k)) ∧
 (evK gS fi21 c21_61 fr st k = opsR gS fi21 [ld 71 24 3 24,
 op1 72 (.fieldAddr 27 (.tmp 2) 3) 0,
 ld 73 24 72 24,
 cal 74 75 [(.tmp 71), (.tmp 73)] [24, 24] 94,
 mv 70 74 94,
 op1 75 (.extract (.tmp 70) 0) 3,
 op1 76 (.extract (.tmp 70) 1) 4,
 asn 7 75 3,
 asn 8 76 4] fr st (.seq c21_63 k)) ∧
 (evK gS fi21 c21_69 fr st k = opsR gS fi21 [op1 91 (.fieldAddr 24 (.tmp 3) 0) 0,
 ld 92 3 91 3,
 op1 93 (.binOp .eql 3 (.tmp 92) (.const (.int .i64 3)) 3) 4,
 mv 94 93 4,
 mk (some 95) (.fieldAddr 24 (.tmp 3) 3) 0 (some (3, true)),
 mk (some 96) (.load 9 (.tmp 95)) 9 (some (3, true)),
 mk (some 97) (.fieldAddr 27 (.tmp 2) 2) 0 (some (3, true)),
 mk (some 98) (.fieldAddr 24 (.tmp 97) 3) 0 (some (3, true)),
 mk (some 99) (.load 9 (.tmp 98)) 9 (some (3, true)),
 mk (some 100) (.call { callee := (.value (.func 76)), args := #[(.tmp 96), (.tmp 99)], argTypes := #[9, 9] }) 4 (some (3, true)),
 op1 101 (.pick (.tmp 94) (.tmp 100) (.const (.bool false))) 4,
 asn 4 101 4] fr st (.seq .ret k)) ∧
 evK gS fi21 c21_68 fr st k = condK gS fi21 (fr.op (.tmp 89)).bool? c21_69 .skip fr st k ∧
 (evK gS fi21 c21_66 fr st k = opsR gS fi21 [op1 90 (.binOp .eql 3 (.tmp 22) (.const (.int .i64 9)) 3) 4,
 asn 89 90 4] fr st (.seq c21_68 k)) ∧
 evK gS fi21 c21_60 fr st k = condK gS fi21 (fr.op (.tmp 68)).bool? c21_61 c21_66 fr st k ∧
 (evK gS fi21 c21_58 fr st k = opsR gS fi21 [op1 69 (.binOp .eql 3 (.tmp 22) (.const (.int .i64 8)) 3) 4,
 asn 68 69 4] fr st (.seq c21_60 k)) ∧
 evK gS fi21 c21_54 fr st k = condK gS fi21 (fr.op (.tmp 61)).bool? c21_55 c21_58 fr st k ∧
 (evK gS fi21 c21_52 fr st k = opsR gS fi21 [op1 62 (.binOp .eql 3 (.tmp 22) (.const (.int .i64 7)) 3) 4,
 asn 61 62 4] fr st (.seq c21_54 k)) ∧
 evK gS fi21 c21_48 fr st k = condK gS fi21 (fr.op (.tmp 54)).bool? c21_49 c21_52 fr st k ∧
 (evK gS fi21 c21_46 fr st k = opsR gS fi21 [op1 55 (.binOp .eql 3 (.tmp 22) (.const (.int .i64 6)) 3) 4,
 asn 54 55 4] fr st (.seq c21_48 k)) ∧
 evK gS fi21 c21_42 fr st k = condK gS fi21 (fr.op (.tmp 47)).bool? c21_43 c21_46 fr st k ∧
 (evK gS fi21 c21_40 fr st k = opsR gS fi21 [op1 48 (.binOp .eql 3 (.tmp 22) (.const (.int .i64 5)) 3) 4,
 asn 47 48 4] fr st (.seq c21_42 k)) ∧
 evK gS fi21 c21_36 fr st k = condK gS fi21 (fr.op (.tmp 40)).bool? c21_37 c21_40 fr st k ∧
 (evK gS fi21 c21_34 fr st k = opsR gS fi21 [op1 41 (.binOp .eql 3 (.tmp 22) (.const (.int .i64 4)) 3) 4,
 asn 40 41 4] fr st (.seq c21_36 k)) ∧
 evK gS fi21 c21_30 fr st k = condK gS fi21 (fr.op (.tmp 32)).bool? c21_31 c21_34 fr st k ∧
 (evK gS fi21 c21_28 fr st k = opsR gS fi21 [op1 33 (.binOp .eql 3 (.tmp 22) (.const (.int .i64 3)) 3) 4,
 asn 32 33 4] fr st (.seq c21_30 k)) ∧
 evK gS fi21 c21_24 fr st k = condK gS fi21 (fr.op (.tmp 25)).bool? c21_25 c21_28 fr st k ∧
 (evK gS fi21 c21_22 fr st k = opsR gS fi21 [op1 26 (.binOp .eql 3 (.tmp 22) (.const (.int .i64 2)) 3) 4,
 asn 25 26 4] fr st (.seq c21_24 k)) ∧
 evK gS fi21 c21_18 fr st k = condK gS fi21 (fr.op (.tmp 23)).bool? c21_19 c21_22 fr st k ∧
 (evK gS fi21 c21_16 fr st k = opsR gS fi21 [op1 24 (.binOp .eql 3 (.tmp 22) (.const (.int .i64 1)) 3) 4,
 asn 23 24 4] fr st (.seq c21_18 k)) ∧
 evK gS fi21 c21_15 fr st k = evK gS fi21 c21_16 fr st (.blk 0 k) ∧
 (evK gS fi21 c21_13 fr st k = opsR gS fi21 [op1 21 (.fieldAddr 27 (.tmp 2) 1) 0,
 ld 22 3 21 3] fr st (.seq c21_15 k)) ∧
 evK gS fi21 c21_91 fr st k = opsR gS fi21 [op1 4 (.assign (.const (.bool true))) 4] fr st (.seq .ret k) ∧
 evK gS fi21 c21_90 fr st k = condK gS fi21 (fr.op (.tmp 111)).bool? c21_91 .skip fr st k ∧
 (evK gS fi21 c21_88 fr st k = opsR gS fi21 [ld 109 24 3 24,
 ld 110 24 10 24,
 cal 111 32 [(.tmp 109), (.tmp 110)] [24, 24] 4] fr st (.seq c21_90 k)) ∧
 (evK gS fi21 c21_86 fr st k = opsR gS fi21 [ixa 107 25 103 105 0,
 ld 108 24 107 24,
 op1 10 (.alloc 24) 0,
 sto 24 10 108] fr st (.seq c21_88 k)) ∧
 (evK gS fi21 c21_95 fr st k = opsR gS fi21 [op1 112 (.binOp .add 3 (.tmp 105) (.const (.int .i64 1)) 3) 3,
 mv 105 112 3] fr st k) ∧
 evK gS fi21 c21_84 fr st k = evK gS fi21 c21_86 fr st (.blk 2 (.seq c21_95 k)) ∧
 evK gS fi21 c21_80 fr st k = condK gS fi21 (fr.op (.tmp 106)).bool? .skip (.exit 1) fr st (.seq c21_84 k) ∧
 evK gS fi21 c21_78 fr st k = opsR gS fi21 [bop 106 .lss 3 105 104 3 0] fr st (.seq c21_80 k) ∧
 evK gS fi21 c21_76 fr st k = evK gS fi21 c21_77 fr st (.blk 1 k) ∧
 (evK gS fi21 c21_74 fr st k = opsR gS fi21 [op1 102 (.fieldAddr 27 (.tmp 2) 4) 0,
 ld 103 25 102 25,
 len1 104 103 25 3,
 op1 105 (.move (.const (.int .i64 0))) 3] fr st (.seq c21_76 k)) ∧
 evK gS fi21 c21_96 fr st k = opsR gS fi21 [op1 4 (.assign (.const (.bool false))) 4] fr st (.seq .ret k) ∧
 evK gS fi21 c21_73 fr st k = evK gS fi21 c21_74 fr st (.seq c21_96 k) ∧
 evK gS fi21 c21_12 fr st k = evK gS fi21 c21_13 fr st (.seq c21_73 k) ∧
 (evK gS fi21 c21_10 fr st k = opsR gS fi21 [ld 15 24 3 24,
 op1 16 (.fieldAddr 27 (.tmp 2) 2) 0,
 ld 17 24 16 24,
 cal 18 75 [(.tmp 15), (.tmp 17)] [24, 24] 94,
 mv 14 18 94,
 op1 19 (.extract (.tmp 14) 0) 3,
 op1 20 (.extract (.tmp 14) 1) 4,
 asn 5 19 3,
 asn 6 20 4] fr st (.seq c21_12 k)) ∧
 evK gS fi21 c21_2 fr st k = evK gS fi21 c21_3 fr st (.seq c21_10 k) ∧
 (evK gS fi21 c21_0 fr st k = opsR gS fi21 [op1 2 (.box 27 (.tmp 0)) 0,
 op1 3 (.box 24 (.tmp 1)) 0,
 op1 4 (.assign (.const (.bool false))) 4] fr st (.seq c21_2 k)) := ⟨evK_rs 2 rfl (by kernel_rfl), rfl, evK_rs 1 rfl (by kernel_rfl), evK_rs 6 rfl (by kernel_rfl), evK_rs 8 rfl (by kernel_rfl), evK_rs 10 rfl (by kernel_rfl), evK_rs 12 rfl (by kernel_rfl), evK_rs 14 rfl (by kernel_rfl), evK_rs 16 rfl (by kernel_rfl), evK_rs 18 rfl (by kernel_rfl), evK_rs 21 rfl (by kernel_rfl), evK_rs 20 rfl (by kernel_rfl), evK_rs 23 rfl (by kernel_rfl), rfl, evK_rs 22 rfl (by kernel_rfl), rfl, evK_rs 19 rfl (by kernel_rfl), rfl, evK_rs 17 rfl (by kernel_rfl), rfl, evK_rs 15 rfl (by kernel_rfl), rfl, evK_rs 13 rfl (by kernel_rfl), rfl, evK_rs 11 rfl (by kernel_rfl), rfl, evK_rs 9 rfl (by kernel_rfl), rfl, evK_rs 7 rfl (by kernel_rfl), rfl, evK_rs 5 rfl (by kernel_rfl), rfl, evK_rs 4 rfl (by kernel_rfl), evK_rs 28 rfl (by kernel_rfl), rfl, evK_rs 27 rfl (by kernel_rfl), evK_rs 26 rfl (by kernel_rfl), evK_r 29 (by kernel_rfl), rfl, rfl, evK_rs 25 rfl (by kernel_rfl), rfl, evK_rs 24 rfl (by kernel_rfl), evK_rs 30 rfl (by kernel_rfl), rfl, rfl, evK_rs 3 rfl (by kernel_rfl), rfl, evK_rs 0 rfl (by kernel_rfl)⟩
theorem m21 : mini fi21.body = c21_0 := by kernel_rfl
theorem n21_77 (fr : Fr) (st : St) (k : Kt) : nextK gS fi21 (.loop c21_78 k) .normal fr st = evK gS fi21 c21_77 fr st k := rfl
set_option maxHeartbeats 4000000 in
theorem L21_77 (p : Pred) (v : Val) (h_p : p.ok) (st : St) : ∀ (n i : Nat) (j : Int)  (e0 e1 e2 e4 e5 e6 e7 e8 e10 e22 : E) (T : List (Nat × E)) (X : List (Nat × List V)) (ht0 : e0.Tame) (ht1 : e1.Tame) (ht2 : e2.Tame) (ht4 : e4.Tame) (ht5 : e5.Tame) (ht6 : e6.Tame) (ht7 : e7.Tame) (ht8 : e8.Tame) (ht10 : e10.Tame) (ht22 : e22.Tame) (hx3 : lk X 3 = some [.int .i64 v.kind, .int .i64 v.n, .float .f64 v.x, .str v.s, .bool v.b]) , j = (i : Int) → i ≤ (p.set).length → (p.set).length - i = n →
    evK gS fi21 c21_77 { ps := [(0, e0), (1, e1), (2, e2), (3, .lp 3 0), (4, e4), (5, e5), (6, e6), (7, e7), (8, e8), (10, e10), (22, e22), (103, .val (.slice (encVals p.set))), (104, .val (.int .i64 p.set.length)), (105, .val (.int .i64 j))], ts := T, lc := X } st (.blk 1 (.seq c21_96 .nil)) = some ((.ret (.bool ((p.set.drop i).any (vis v))) none), st) := by
  intro n
  have hm : fi21.marks = [] := rfl
  have hl : fi21.locals = [2, 3, 10] := rfl
  have hr : fi21.results = [.tmp 4] := rfl
  have hpo := h_p.2
  induction n with
  | zero =>
    intro i j  e0 e1 e2 e4 e5 e6 e7 e8 e10 e22 T X ht0 ht1 ht2 ht4 ht5 ht6 ht7 ht8 ht10 ht22 hx3  hj hi hn
    obtain rfl : i = (p.set).length := by omega
    subst hj
    refine evK_loop c21_78 _ st _ _ rfl ?_
    simp (config := { contextual := true, maxSteps := 10000000, maxDischargeDepth := 6 }) [-Int.not_le, -Int.not_lt, -Nat.not_le, -Nat.not_lt, ty3, ty4, ty9, ty24, ty25, ty27, eq24, hm, hl, hr, k19, k32, k75, k76, E21, n21_77, ht0, ht1, ht2, ht4, ht5, ht6, ht7, ht8, ht10, ht22, hx3]
    all_goals first | done | grind | omega | (trace_state; fail)
  | succ n ih =>
    intro i j  e0 e1 e2 e4 e5 e6 e7 e8 e10 e22 T X ht0 ht1 ht2 ht4 ht5 ht6 ht7 ht8 ht10 ht22 hx3  hj hi hn
    subst hj
    obtain ⟨x, hx⟩ : ∃ x, (p.set)[i]? = some x := ⟨(p.set)[i]'(by omega), List.getElem?_eq_getElem (by omega)⟩
    have hd := drop_get hx
    have hlt : (i : Int) < ((p.set).length : Int) := by omega
    have hlt2 : i < (p.set).length := by omega
    have hxe : (p.set)[i]'hlt2 = x := by rw [List.getElem?_eq_getElem hlt2] at hx; exact Option.some.inj hx
    have hw : IntKind.wrap .i64 ((i : Int) + 1) = (i : Int) + 1 := wrap64 (by omega) (by omega)
    have IH := fun e0 e1 e2 e4 e5 e6 e7 e8 e10 e22 T X ht0 ht1 ht2 ht4 ht5 ht6 ht7 ht8 ht10 ht22 hx3 => ih (i + 1) ((i : Int) + 1) e0 e1 e2 e4 e5 e6 e7 e8 e10 e22 T X ht0 ht1 ht2 ht4 ht5 ht6 ht7 ht8 ht10 ht22 hx3 rfl (by omega) (by omega)
    refine evK_loop c21_78 _ st _ _ rfl ?_
    simp (config := { contextual := true, maxSteps := 10000000, maxDischargeDepth := 6 }) [-Int.not_le, -Int.not_lt, -Nat.not_le, -Nat.not_lt, ty3, ty4, ty9, ty24, ty25, ty27, eq24, hm, hl, hr, k19, k32, k75, k76, E21, n21_77, ht0, ht1, ht2, ht4, ht5, ht6, ht7, ht8, ht10, ht22, hx3, hx, hxe, hd, hlt, hlt2, hw, IH]
    all_goals first | done | grind | omega | (trace_state; fail)
set_option maxHeartbeats 4000000 in
theorem c21 (p : Pred) (v : Val)  (h_p : Pred.ok p) (st : St) : EvF gS 21 [p.enc, v.enc] st = some (.ret (.bool (ptakes p v)) none, st) := by
  refine EvF_start fi21_eq (fun x h => by cases h) m21 ?_
  rw [st21]
  have hm : fi21.marks = [] := rfl
  have hl : fi21.locals = [2, 3, 10] := rfl
  have hr : fi21.results = [.tmp 4] := rfl
  simp (config := { contextual := true, maxSteps := 10000000, maxDischargeDepth := 6 }) [-Int.not_le, -Int.not_lt, -Nat.not_le, -Nat.not_lt, ty3, ty4, ty9, ty24, ty25, ty27, eq24, hm, hl, hr, k19, k32, k75, k76, E21, n21_77, (fun e0 e1 e2 e4 e5 e6 e7 e8 e10 e22 T X ht0 ht1 ht2 ht4 ht5 ht6 ht7 ht8 ht10 ht22 hx3 => L21_77 p v h_p st _ 0 0  e0 e1 e2 e4 e5 e6 e7 e8 e10 e22 T X ht0 ht1 ht2 ht4 ht5 ht6 ht7 ht8 ht10 ht22 hx3 rfl (Nat.zero_le _) rfl), h_p.1, h_p.2]
  all_goals try simp (config := { contextual := true }) [-Int.not_le, -Int.not_lt, -Nat.not_le, -Nat.not_lt, ptakes]
  all_goals first | done | grind | omega | (trace_state; fail)
theorem k21 (p_name : List UInt8) (p_test : Int) (p_vk : Int) (p_vn : Int) (p_vx : Nat) (p_vs : List UInt8) (p_vb : Bool) (p_wk : Int) (p_wn : Int) (p_wx : Nat) (p_ws : List UInt8) (p_wb : Bool) (p_set : List Val) (v_k : Int) (v_n : Int) (v_x : Nat) (v_s : List UInt8) (v_b : Bool)  (h_p : Pred.ok (⟨p_name, p_test, ⟨p_vk, p_vn, p_vx, p_vs, p_vb⟩, ⟨p_wk, p_wn, p_wx, p_ws, p_wb⟩, p_set⟩ : Pred)) (fr : Fr) (st : St) : callStep gS (EvF gS) 21 [.agg [.str p_name, .int .i64 p_test, .int .i64 p_vk, .int .i64 p_vn, .float .f64 p_vx, .str p_vs, .bool p_vb, .int .i64 p_wk, .int .i64 p_wn, .float .f64 p_wx, .str p_ws, .bool p_wb, .slice (encVals p_set)], .agg [.int .i64 v_k, .int .i64 v_n, .float .f64 v_x, .str v_s, .bool v_b]] fr st = some (.ok (retE none (.bool (ptakes (⟨p_name, p_test, ⟨p_vk, p_vn, p_vx, p_vs, p_vb⟩, ⟨p_wk, p_wn, p_wx, p_ws, p_wb⟩, p_set⟩ : Pred) (⟨v_k, v_n, v_x, v_s, v_b⟩ : Val)))) fr st) :=
  call_pure rfl fi21_eq rfl (fun st => c21 (⟨p_name, p_test, ⟨p_vk, p_vn, p_vx, p_vs, p_vb⟩, ⟨p_wk, p_wn, p_wx, p_ws, p_wb⟩, p_set⟩ : Pred) (⟨v_k, v_n, v_x, v_s, v_b⟩ : Val) h_p st) (by simp)
def fi23 : FI := { body := codeOf Try.f23, ntmps := 50, results := [.tmp 2], pers := [0, 1, 2, 3, 4, 6, 11, 12, 40, 41, 42], locals := [1, 6], pure := true, marks := [] }
theorem fi23_eq : gS.fn 23 = some fi23 := by kernel_rfl
theorem st23 (a0 : V) : startFr fi23 [a0] = { ps := [(0, .val a0), (1, .any), (2, .any), (3, .any), (4, .any), (6, .any), (11, .any), (12, .any), (40, .any), (41, .any), (42, .any)], ts := [], lc := [] } := rfl
def b23 : Code := mini (codeOf Try.f23)
def c23_6 : Code := .seq (codeN b23 37) .ret
def c23_5 : Code := .cond (.tmp 9) c23_6 .skip
def c23_3 : Code := .seq (codeN b23 9) c23_5
def c23_31 : Code := codeN b23 32715
def c23_29 : Code := .cond (.tmp 12) .skip c23_31
def c23_27 : Code := .seq (codeN b23 12235) c23_29
def c23_25 : Code := .cond (.tmp 12) .skip c23_27
def c23_23 : Code := .seq (codeN b23 3019) c23_25
def c23_21 : Code := .cond (.tmp 12) .skip c23_23
def c23_19 : Code := .seq (codeN b23 715) c23_21
def c23_17 : Code := .cond (.tmp 12) .skip c23_19
def c23_15 : Code := .seq (codeN b23 139) c23_17
def c23_33 : Code := .seq (codeN b23 299) .ret
def c23_41 : Code := .seq (codeN b23 2795) .ret
def c23_39 : Code := .seq (codeN b23 1259) c23_41
def c23_65 : Code := .seq (codeN b23 10064875) .ret
def c23_64 : Code := .cond (.tmp 48) c23_65 .skip
def c23_62 : Code := .seq (codeN b23 2724843) c23_64
def c23_60 : Code := .seq (codeN b23 1151979) c23_62
def c23_69 : Code := codeN b23 496619
def c23_58 : Code := .seq (.block 2 c23_60) c23_69
def c23_54 : Code := .seq (.cond (.tmp 43) .skip (.exit 1)) c23_58
def c23_52 : Code := .seq (codeN b23 70635) c23_54
def c23_51 : Code := .loop c23_52
def c23_50 : Code := .block 1 c23_51
def c23_48 : Code := .seq (codeN b23 9195) c23_50
def c23_70 : Code := .seq (codeN b23 11243) .ret
def c23_47 : Code := .seq c23_48 c23_70
def c23_46 : Code := .cond (.tmp 37) c23_47 .skip
def c23_44 : Code := .seq (codeN b23 1515) c23_46
def c23_38 : Code := .cond (.tmp 21) c23_39 c23_44
def c23_36 : Code := .seq (codeN b23 363) c23_38
def c23_32 : Code := .cond (.tmp 12) c23_33 c23_36
def c23_14 : Code := .seq c23_15 c23_32
def c23_13 : Code := .block 0 c23_14
def c23_11 : Code := .seq (codeN b23 19) c23_13
def c23_74 : Code := .seq (codeN b23 23) .ret
def c23_10 : Code := .seq c23_11 c23_74
def c23_2 : Code := .seq c23_3 c23_10
def c23_0 : Code := .seq (codeN b23 2) c23_2
theorem E23 : evK gS fi23 c23_6 fr st k = opsR gS fi23 [op1 2 (.assign (.const (.bool false))) 4] fr st (.seq .ret k) ∧
 evK gS fi23 c23_5 fr st k = condK gS fi23 (fr.op (.tmp 9)).bool? c23_6 .skip fr st k ∧
 (evK gS fi23 c23_3 fr st k = opsR gS fi23 [ld 7 27 1 27,
 cal 8 19 [(.tmp 7)] [27] 4,
 op1 9 (.unOp .not 4 (.tmp 8)) 4] fr st (.seq c23_5 k)) ∧
 (evK gS fi23 c23_31 fr st k = opsR gS fi23 [op1 17 (.binOp .eql 3 (.tmp 11) (.const (.int .i64 7)) 3) 4,
 asn 12 17 4] fr st k) ∧
 evK gS fi23 c23_29 fr st k = condK gS fi23 (fr.op (.tmp 12)).bool? .skip c23_31 fr st k ∧
 (evK gS fi23 c23_27 fr st k = opsR gS fi23 [op1 16 (.binOp .eql 3 (.tmp 11) (.const (.int .i64 6)) 3) 4,
 asn 12 16 4] fr st (.seq c23_29 k)) ∧
 evK gS fi23 c23_25 fr st k = condK gS fi23 (fr.op (.tmp 12)).bool? .skip c23_27 fr st k ∧
 (evK gS fi23 c23_23 fr st k = opsR gS fi23 [op1 15 (.binOp .eql 3 (.tmp 11) (.const (.int .i64 5)) 3) 4,
 asn 12 15 4] fr st (.seq c23_25 k)) ∧
 evK gS fi23 c23_21 fr st k = condK gS fi23 (fr.op (.tmp 12)).bool? .skip c23_23 fr st k ∧
 (evK gS fi23 c23_19 fr st k = opsR gS fi23 [op1 14 (.binOp .eql 3 (.tmp 11) (.const (.int .i64 4)) 3) 4,
 asn 12 14 4] fr st (.seq c23_21 k)) ∧
 evK gS fi23 c23_17 fr st k = condK gS fi23 (fr.op (.tmp 12)).bool? .skip c23_19 fr st k ∧
 (evK gS fi23 c23_15 fr st k = opsR gS fi23 [op1 13 (.binOp .eql 3 (.tmp 11) (.const (.int .i64 2)) 3) 4,
 asn 12 13 4] fr st (.seq c23_17 k)) ∧
 (evK gS fi23 c23_33 fr st k = opsR gS fi23 [op1 18 (.fieldAddr 27 (.tmp 1) 2) 0,
 ld 19 24 18 24,
 cal 20 80 [(.tmp 19)] [24] 4,
 asn 2 20 4] fr st (.seq .ret k)) ∧
 (evK gS fi23 c23_41 fr st k = opsR gS fi23 [mv 31 4 4,
 op1 32 (.unOp .not 4 (.tmp 31)) 4,
 mv 33 32 4,
 mk (some 34) (.move (.tmp 3)) 3 (some (2, false)),
 mk (some 35) (.binOp .gtr 3 (.tmp 34) (.const (.int .i64 0)) 3) 4 (some (2, false)),
 op1 36 (.pick (.tmp 33) (.const (.bool true)) (.tmp 35)) 4,
 asn 2 36 4] fr st (.seq .ret k)) ∧
 (evK gS fi23 c23_39 fr st k = opsR gS fi23 [op1 24 (.fieldAddr 27 (.tmp 1) 2) 0,
 ld 25 24 24 24,
 op1 26 (.fieldAddr 27 (.tmp 1) 3) 0,
 ld 27 24 26 24,
 cal 28 75 [(.tmp 25), (.tmp 27)] [24, 24] 94,
 mv 23 28 94,
 op1 29 (.extract (.tmp 23) 0) 3,
 op1 30 (.extract (.tmp 23) 1) 4,
 asn 3 29 3,
 asn 4 30 4] fr st (.seq c23_41 k)) ∧
 evK gS fi23 c23_65 fr st k = opsR gS fi23 [op1 2 (.assign (.const (.bool false))) 4] fr st (.seq .ret k) ∧
 evK gS fi23 c23_64 fr st k = condK gS fi23 (fr.op (.tmp 48)).bool? c23_65 .skip fr st k ∧
 (evK gS fi23 c23_62 fr st k = opsR gS fi23 [ld 46 24 6 24,
 cal 47 80 [(.tmp 46)] [24] 4,
 op1 48 (.unOp .not 4 (.tmp 47)) 4] fr st (.seq c23_64 k)) ∧
 (evK gS fi23 c23_60 fr st k = opsR gS fi23 [ixa 44 25 40 42 0,
 ld 45 24 44 24,
 op1 6 (.alloc 24) 0,
 sto 24 6 45] fr st (.seq c23_62 k)) ∧
 (evK gS fi23 c23_69 fr st k = opsR gS fi23 [op1 49 (.binOp .add 3 (.tmp 42) (.const (.int .i64 1)) 3) 3,
 mv 42 49 3] fr st k) ∧
 evK gS fi23 c23_58 fr st k = evK gS fi23 c23_60 fr st (.blk 2 (.seq c23_69 k)) ∧
 evK gS fi23 c23_54 fr st k = condK gS fi23 (fr.op (.tmp 43)).bool? .skip (.exit 1) fr st (.seq c23_58 k) ∧
 evK gS fi23 c23_52 fr st k = opsR gS fi23 [bop 43 .lss 3 42 41 3 0] fr st (.seq c23_54 k) ∧
 evK gS fi23 c23_50 fr st k = evK gS fi23 c23_51 fr st (.blk 1 k) ∧
 (evK gS fi23 c23_48 fr st k = opsR gS fi23 [op1 39 (.fieldAddr 27 (.tmp 1) 4) 0,
 ld 40 25 39 25,
 len1 41 40 25 3,
 op1 42 (.move (.const (.int .i64 0))) 3] fr st (.seq c23_50 k)) ∧
 evK gS fi23 c23_70 fr st k = opsR gS fi23 [op1 2 (.assign (.const (.bool true))) 4] fr st (.seq .ret k) ∧
 evK gS fi23 c23_47 fr st k = evK gS fi23 c23_48 fr st (.seq c23_70 k) ∧
 evK gS fi23 c23_46 fr st k = condK gS fi23 (fr.op (.tmp 37)).bool? c23_47 .skip fr st k ∧
 (evK gS fi23 c23_44 fr st k = opsR gS fi23 [op1 38 (.binOp .eql 3 (.tmp 11) (.const (.int .i64 10)) 3) 4,
 asn 37 38 4] fr st (.seq c23_46 k)) ∧
 evK gS fi23 c23_38 fr st k = condK gS fi23 (fr.op (.tmp 21)).bool? c23_39 c23_44 fr st k ∧
 (evK gS fi23 c23_36 fr st k = opsR gS fi23 [op1 22 (.binOp .eql 3 (.tmp 11) (.const (.int .i64 8)) 3) 4,
 asn 21 22 4] fr st (.seq c23_38 k)) ∧
 evK gS fi23 c23_32 fr st k = condK gS fi23 (fr.op (.tmp 12)).bool? c23_33 c23_36 fr st k ∧
 evK gS fi23 c23_14 fr st k = evK gS fi23 c23_15 fr st (.seq c23_32 k) ∧
 evK gS fi23 c23_13 fr st k = evK gS fi23 c23_14 fr st (.blk 0 k) ∧
 (evK gS fi23 c23_11 fr st k = opsR gS fi23 [op1 10 (.fieldAddr 27 (.tmp 1) 1) 0,
 ld 11 3 10 3] fr st (.seq c23_13 k)) ∧
 evK gS fi23 c23_74 fr st k = opsR gS fi23 [op1 2 (.assign (.const (.bool false))) 4] fr st (.seq .ret k) ∧
 evK gS fi23 c23_10 fr st k = evK gS fi23 c23_11 fr st (.seq c23_74 k) ∧
 evK gS fi23 c23_2 fr st k = evK gS fi23 c23_3 fr st (.seq c23_10 k) ∧
 (evK gS fi23 c23_0 fr st k = opsR gS fi23 [op1 1 (.box 27 (.tmp 0)) 0,
 op1 2 (.assign (.const (.bool false))) 4] fr st (.seq c23_2 k)) := ⟨evK_rs 2 rfl (by kernel_rfl), rfl, evK_rs 1 rfl (by kernel_rfl), evK_r 8 (by kernel_rfl), rfl, evK_rs 7 rfl (by kernel_rfl), rfl, evK_rs 6 rfl (by kernel_rfl), rfl, evK_rs 5 rfl (by kernel_rfl), rfl, evK_rs 4 rfl (by kernel_rfl), evK_rs 9 rfl (by kernel_rfl), evK_rs 12 rfl (by kernel_rfl), evK_rs 11 rfl (by kernel_rfl), evK_rs 18 rfl (by kernel_rfl), rfl, evK_rs 17 rfl (by kernel_rfl), evK_rs 16 rfl (by kernel_rfl), evK_r 19 (by kernel_rfl), rfl, rfl, evK_rs 15 rfl (by kernel_rfl), rfl, evK_rs 14 rfl (by kernel_rfl), evK_rs 20 rfl (by kernel_rfl), rfl, rfl, evK_rs 13 rfl (by kernel_rfl), rfl, evK_rs 10 rfl (by kernel_rfl), rfl, rfl, rfl, evK_rs 3 rfl (by kernel_rfl), evK_rs 21 rfl (by kernel_rfl), rfl, rfl, evK_rs 0 rfl (by kernel_rfl)⟩
theorem m23 : mini fi23.body = c23_0 := by kernel_rfl
theorem n23_51 (fr : Fr) (st : St) (k : Kt) : nextK gS fi23 (.loop c23_52 k) .normal fr st = evK gS fi23 c23_51 fr st k := rfl
set_option maxHeartbeats 4000000 in
theorem L23_51 (p : Pred) (h_p : p.ok) (st : St) : ∀ (n i : Nat) (j : Int)  (e0 e1 e2 e3 e4 e6 e11 e12 : E) (T : List (Nat × E)) (X : List (Nat × List V)) (ht0 : e0.Tame) (ht1 : e1.Tame) (ht2 : e2.Tame) (ht3 : e3.Tame) (ht4 : e4.Tame) (ht6 : e6.Tame) (ht11 : e11.Tame) (ht12 : e12.Tame) , j = (i : Int) → i ≤ (p.set).length → (p.set).length - i = n →
    evK gS fi23 c23_51 { ps := [(0, e0), (1, e1), (2, e2), (3, e3), (4, e4), (6, e6), (11, e11), (12, e12), (40, .val (.slice (encVals p.set))), (41, .val (.int .i64 p.set.length)), (42, .val (.int .i64 j))], ts := T, lc := X } st (.blk 1 (.seq c23_70 (.blk 0 (.seq c23_74 .nil)))) = some ((.ret (.bool ((p.set.drop i).all vnan)) none), st) := by
  intro n
  have hm : fi23.marks = [] := rfl
  have hl : fi23.locals = [1, 6] := rfl
  have hr : fi23.results = [.tmp 2] := rfl
  have hpo := h_p.2
  induction n with
  | zero =>
    intro i j  e0 e1 e2 e3 e4 e6 e11 e12 T X ht0 ht1 ht2 ht3 ht4 ht6 ht11 ht12  hj hi hn
    obtain rfl : i = (p.set).length := by omega
    subst hj
    refine evK_loop c23_52 _ st _ _ rfl ?_
    simp (config := { contextual := true, maxSteps := 10000000, maxDischargeDepth := 6 }) [-Int.not_le, -Int.not_lt, -Nat.not_le, -Nat.not_lt, ty3, ty4, ty24, ty25, ty27, eq24, hm, hl, hr, k19, k75, k80, E23, n23_51, ht0, ht1, ht2, ht3, ht4, ht6, ht11, ht12]
    all_goals first | done | grind | omega | (trace_state; fail)
  | succ n ih =>
    intro i j  e0 e1 e2 e3 e4 e6 e11 e12 T X ht0 ht1 ht2 ht3 ht4 ht6 ht11 ht12  hj hi hn
    subst hj
    obtain ⟨x, hx⟩ : ∃ x, (p.set)[i]? = some x := ⟨(p.set)[i]'(by omega), List.getElem?_eq_getElem (by omega)⟩
    have hd := drop_get hx
    have hlt : (i : Int) < ((p.set).length : Int) := by omega
    have hlt2 : i < (p.set).length := by omega
    have hxe : (p.set)[i]'hlt2 = x := by rw [List.getElem?_eq_getElem hlt2] at hx; exact Option.some.inj hx
    have hw : IntKind.wrap .i64 ((i : Int) + 1) = (i : Int) + 1 := wrap64 (by omega) (by omega)
    have IH := fun e0 e1 e2 e3 e4 e6 e11 e12 T X ht0 ht1 ht2 ht3 ht4 ht6 ht11 ht12 => ih (i + 1) ((i : Int) + 1) e0 e1 e2 e3 e4 e6 e11 e12 T X ht0 ht1 ht2 ht3 ht4 ht6 ht11 ht12 rfl (by omega) (by omega)
    refine evK_loop c23_52 _ st _ _ rfl ?_
    simp (config := { contextual := true, maxSteps := 10000000, maxDischargeDepth := 6 }) [-Int.not_le, -Int.not_lt, -Nat.not_le, -Nat.not_lt, ty3, ty4, ty24, ty25, ty27, eq24, hm, hl, hr, k19, k75, k80, E23, n23_51, ht0, ht1, ht2, ht3, ht4, ht6, ht11, ht12, hx, hxe, hd, hlt, hlt2, hw, IH]
    all_goals first | done | grind | omega | (trace_state; fail)
set_option maxHeartbeats 4000000 in
theorem c23 (p : Pred)  (h_p : Pred.ok p) (st : St) : EvF gS 23 [p.enc] st = some (.ret (.bool (pvoid p)) none, st) := by
  refine EvF_start fi23_eq (fun x h => by cases h) m23 ?_
  rw [st23]
  have hm : fi23.marks = [] := rfl
  have hl : fi23.locals = [1, 6] := rfl
  have hr : fi23.results = [.tmp 2] := rfl
  simp (config := { contextual := true, maxSteps := 10000000, maxDischargeDepth := 6 }) [-Int.not_le, -Int.not_lt, -Nat.not_le, -Nat.not_lt, ty3, ty4, ty24, ty25, ty27, eq24, hm, hl, hr, k19, k75, k80, E23, n23_51, (fun e0 e1 e2 e3 e4 e6 e11 e12 T X ht0 ht1 ht2 ht3 ht4 ht6 ht11 ht12 => L23_51 p h_p st _ 0 0  e0 e1 e2 e3 e4 e6 e11 e12 T X ht0 ht1 ht2 ht3 ht4 ht6 ht11 ht12 rfl (Nat.zero_le _) rfl), h_p.1, h_p.2]
  all_goals try simp (config := { contextual := true }) [-Int.not_le, -Int.not_lt, -Nat.not_le, -Nat.not_lt, pvoid]
  all_goals first | done | grind | omega | (trace_state; fail)
theorem k23 (p_name : List UInt8) (p_test : Int) (p_vk : Int) (p_vn : Int) (p_vx : Nat) (p_vs : List UInt8) (p_vb : Bool) (p_wk : Int) (p_wn : Int) (p_wx : Nat) (p_ws : List UInt8) (p_wb : Bool) (p_set : List Val)  (h_p : Pred.ok (⟨p_name, p_test, ⟨p_vk, p_vn, p_vx, p_vs, p_vb⟩, ⟨p_wk, p_wn, p_wx, p_ws, p_wb⟩, p_set⟩ : Pred)) (fr : Fr) (st : St) : callStep gS (EvF gS) 23 [.agg [.str p_name, .int .i64 p_test, .int .i64 p_vk, .int .i64 p_vn, .float .f64 p_vx, .str p_vs, .bool p_vb, .int .i64 p_wk, .int .i64 p_wn, .float .f64 p_wx, .str p_ws, .bool p_wb, .slice (encVals p_set)]] fr st = some (.ok (retE none (.bool (pvoid (⟨p_name, p_test, ⟨p_vk, p_vn, p_vx, p_vs, p_vb⟩, ⟨p_wk, p_wn, p_wx, p_ws, p_wb⟩, p_set⟩ : Pred)))) fr st) :=
  call_pure rfl fi23_eq rfl (fun st => c23 (⟨p_name, p_test, ⟨p_vk, p_vn, p_vx, p_vs, p_vb⟩, ⟨p_wk, p_wn, p_wx, p_ws, p_wb⟩, p_set⟩ : Pred) h_p st) (by simp)
end
end Go.Proofs.Ytclpbfkbpcjejaa
namespace Go.Ab
open Go
set_option linter.unusedVariables false
set_option linter.unusedSimpArgs false
set_option linter.unnecessarySimpa false
theorem ended_key (q : Pred) : ((lowE q).is || (highE q).is) = (decide (4 ≤ q.test) && decide (q.test ≤ 8)) := by
  unfold lowE highE
  by_cases h4 : q.test = 4
  · simp [h4]
  · by_cases h5 : q.test = 5
    · simp [h5]
    · by_cases h6 : q.test = 6
      · simp [h6]
      · by_cases h7 : q.test = 7
        · simp [h7]
        · by_cases h8 : q.test = 8
          · simp [h8]
          · simp [h4, h5, h6, h7, h8]; omega
end Go.Ab
namespace Go.Proofs.Ytclpbfkbpcjejaa
open Go Go.Ab
set_option linter.unusedVariables false
set_option linter.unusedSimpArgs false
set_option linter.unnecessarySimpa false
set_option maxRecDepth 20000
noncomputable section
variable (fr : Fr) (st : St) (k : Kt)
def fi85 : FI := { body := codeOf Try.f85, ntmps := 34, results := [.cell 2 99, .cell 3 99], pers := [0, 1, 2, 3, 5, 6, 15], locals := [1, 2, 3], pure := true, marks := [] }
theorem fi85_eq : gS.fn 85 = some fi85 := by kernel_rfl
theorem st85 (a0 : V) : startFr fi85 [a0] = { ps := [(0, .val a0), (1, .any), (2, .any), (3, .any), (5, .any), (6, .any), (15, .any)], ts := [], lc := [] } := rfl
def b85 : Code := mini (codeOf Try.f85)
def c85_11 : Code := codeN b85 229
def c85_9 : Code := .cond (.tmp 6) .skip c85_11
def c85_7 : Code := .seq (codeN b85 69) c85_9
def c85_13 : Code := codeN b85 85
def c85_19 : Code := codeN b85 949
def c85_17 : Code := .cond (.tmp 15) .skip c85_19
def c85_15 : Code := .seq (codeN b85 309) c85_17
def c85_21 : Code := codeN b85 373
def r85_25 : Array Oper := regOps (codeN (codeOf Try.f85) 1525)
def c85_25 : Code := .region 9 r85_25 true
def q85_25 : List (Oper × Fl) := [(op1 26 (.fieldAddr 27 (.tmp 1) 2) 0, ⟨true, false, true, false, false, false, true, true, false, false, []⟩),
 (ld 27 24 26 24, ⟨true, false, true, false, false, false, true, true, false, false, []⟩),
 (op1 28 (.build 99 #[(0, (.const (.bool true))), (2, (.tmp 27))]) 99, ⟨true, false, true, false, false, false, true, true, false, false, []⟩),
 (op1 29 (.fieldAddr 27 (.tmp 1) 3) 0, ⟨true, false, false, false, false, false, true, false, false, false, []⟩),
 (ld 30 24 29 24, ⟨true, false, false, false, false, false, true, false, false, false, [2]⟩),
 (op1 31 (.build 99 #[(0, (.const (.bool true))), (2, (.tmp 30))]) 99, ⟨true, false, false, false, false, false, true, false, false, false, []⟩),
 (sto 99 2 28, ⟨false, true, true, false, true, true, true, true, true, false, []⟩),
 (sto 99 3 31, ⟨false, true, true, false, true, true, true, true, false, false, []⟩)]
def c85_24 : Code := .cond (.tmp 24) c85_25 .skip
def c85_22 : Code := .seq (codeN b85 757) c85_24
def c85_20 : Code := .cond (.tmp 15) c85_21 c85_22
def c85_14 : Code := .seq c85_15 c85_20
def c85_12 : Code := .cond (.tmp 6) c85_13 c85_14
def c85_6 : Code := .seq c85_7 c85_12
def c85_5 : Code := .block 0 c85_6
def c85_3 : Code := .seq (codeN b85 9) c85_5
def r85_28 : Array Oper := regOps (codeN (codeOf Try.f85) 11)
def c85_28 : Code := .region 10 r85_28 true
def q85_28 : List (Oper × Fl) := [(ld 32 99 2 99, ⟨true, false, true, false, false, false, true, true, false, false, []⟩),
 (ld 33 99 3 99, ⟨true, false, false, false, false, false, true, false, false, false, [2]⟩),
 (sto 99 2 32, ⟨false, true, true, false, true, true, true, true, true, false, []⟩),
 (sto 99 3 33, ⟨false, true, true, false, true, true, true, true, false, false, []⟩)]
def c85_27 : Code := .seq c85_28 .ret
def c85_2 : Code := .seq c85_3 c85_27
def c85_0 : Code := .seq (codeN b85 2) c85_2
theorem E85 : (evK gS fi85 c85_11 fr st k = opsR gS fi85 [op1 8 (.binOp .eql 3 (.tmp 5) (.const (.int .i64 5)) 3) 4,
 asn 6 8 4] fr st k) ∧
 evK gS fi85 c85_9 fr st k = condK gS fi85 (fr.op (.tmp 6)).bool? .skip c85_11 fr st k ∧
 (evK gS fi85 c85_7 fr st k = opsR gS fi85 [op1 7 (.binOp .eql 3 (.tmp 5) (.const (.int .i64 4)) 3) 4,
 asn 6 7 4] fr st (.seq c85_9 k)) ∧
 (evK gS fi85 c85_13 fr st k = opsR gS fi85 [op1 9 (.fieldAddr 27 (.tmp 1) 1) 0,
 ld 10 3 9 3,
 op1 11 (.binOp .eql 3 (.tmp 10) (.const (.int .i64 4)) 3) 4,
 op1 12 (.fieldAddr 27 (.tmp 1) 2) 0,
 ld 13 24 12 24,
 op1 14 (.build 99 #[(0, (.const (.bool true))), (1, (.tmp 11)), (2, (.tmp 13))]) 99,
 sto 99 3 14] fr st k) ∧
 (evK gS fi85 c85_19 fr st k = opsR gS fi85 [op1 17 (.binOp .eql 3 (.tmp 5) (.const (.int .i64 7)) 3) 4,
 asn 15 17 4] fr st k) ∧
 evK gS fi85 c85_17 fr st k = condK gS fi85 (fr.op (.tmp 15)).bool? .skip c85_19 fr st k ∧
 (evK gS fi85 c85_15 fr st k = opsR gS fi85 [op1 16 (.binOp .eql 3 (.tmp 5) (.const (.int .i64 6)) 3) 4,
 asn 15 16 4] fr st (.seq c85_17 k)) ∧
 (evK gS fi85 c85_21 fr st k = opsR gS fi85 [op1 18 (.fieldAddr 27 (.tmp 1) 1) 0,
 ld 19 3 18 3,
 op1 20 (.binOp .eql 3 (.tmp 19) (.const (.int .i64 6)) 3) 4,
 op1 21 (.fieldAddr 27 (.tmp 1) 2) 0,
 ld 22 24 21 24,
 op1 23 (.build 99 #[(0, (.const (.bool true))), (1, (.tmp 20)), (2, (.tmp 22))]) 99,
 sto 99 2 23] fr st k) ∧
 evK gS fi85 c85_25 fr st k = drwR gS fi85 r85_25 q85_25 fr st k ∧
 evK gS fi85 c85_24 fr st k = condK gS fi85 (fr.op (.tmp 24)).bool? c85_25 .skip fr st k ∧
 (evK gS fi85 c85_22 fr st k = opsR gS fi85 [op1 25 (.binOp .eql 3 (.tmp 5) (.const (.int .i64 8)) 3) 4,
 asn 24 25 4] fr st (.seq c85_24 k)) ∧
 evK gS fi85 c85_20 fr st k = condK gS fi85 (fr.op (.tmp 15)).bool? c85_21 c85_22 fr st k ∧
 evK gS fi85 c85_14 fr st k = evK gS fi85 c85_15 fr st (.seq c85_20 k) ∧
 evK gS fi85 c85_12 fr st k = condK gS fi85 (fr.op (.tmp 6)).bool? c85_13 c85_14 fr st k ∧
 evK gS fi85 c85_6 fr st k = evK gS fi85 c85_7 fr st (.seq c85_12 k) ∧
 evK gS fi85 c85_5 fr st k = evK gS fi85 c85_6 fr st (.blk 0 k) ∧
 (evK gS fi85 c85_3 fr st k = opsR gS fi85 [op1 4 (.fieldAddr 27 (.tmp 1) 1) 0,
 ld 5 3 4 3] fr st (.seq c85_5 k)) ∧
 evK gS fi85 c85_28 fr st k = drwR gS fi85 r85_28 q85_28 fr st k ∧
 evK gS fi85 c85_27 fr st k = evK gS fi85 c85_28 fr st (.seq .ret k) ∧
 evK gS fi85 c85_2 fr st k = evK gS fi85 c85_3 fr st (.seq c85_27 k) ∧
 (evK gS fi85 c85_0 fr st k = opsR gS fi85 [op1 1 (.box 27 (.tmp 0)) 0,
 op1 2 (.alloc 99) 0,
 op1 3 (.alloc 99) 0] fr st (.seq c85_2 k)) := ⟨evK_r 3 (by kernel_rfl), rfl, evK_rs 2 rfl (by kernel_rfl), evK_r 4 (by kernel_rfl), evK_r 6 (by kernel_rfl), rfl, evK_rs 5 rfl (by kernel_rfl), evK_r 7 (by kernel_rfl), evK_dr 9 rfl (by kernel_rfl) (by kernel_rfl), rfl, evK_rs 8 rfl (by kernel_rfl), rfl, rfl, rfl, rfl, rfl, evK_rs 1 rfl (by kernel_rfl), evK_dr 10 rfl (by kernel_rfl) (by kernel_rfl), rfl, rfl, evK_rs 0 rfl (by kernel_rfl)⟩
theorem m85 : mini fi85.body = c85_0 := by kernel_rfl
set_option maxHeartbeats 4000000 in
theorem c85 (p : Pred)  (st : St) : EvF gS 85 [p.enc] st = some (.ret (.tuple [(lowE p).encP, (highE p).encP]) none, st) := by
  refine EvF_start fi85_eq (fun x h => by cases h) m85 ?_
  rw [st85]
  have hm : fi85.marks = [] := rfl
  have hl : fi85.locals = [1, 2, 3] := rfl
  have hr : fi85.results = [.cell 2 99, .cell 3 99] := rfl
  simp (config := { contextual := true, maxSteps := 10000000, maxDischargeDepth := 6 }) [-Int.not_le, -Int.not_lt, -Nat.not_le, -Nat.not_lt, ty3, ty4, ty24, ty27, ty99, eq24, hm, hl, hr, E85, q85_25, q85_28]
  all_goals try simp (config := { contextual := true }) [-Int.not_le, -Int.not_lt, -Nat.not_le, -Nat.not_lt, lowE, highE, vzero]
  all_goals first | done | grind | omega | (trace_state; fail)
theorem k85 (p_name : List UInt8) (p_test : Int) (p_vk : Int) (p_vn : Int) (p_vx : Nat) (p_vs : List UInt8) (p_vb : Bool) (p_wk : Int) (p_wn : Int) (p_wx : Nat) (p_ws : List UInt8) (p_wb : Bool) (p_set : List Val)  (fr : Fr) (st : St) : callStep gS (EvF gS) 85 [.agg [.str p_name, .int .i64 p_test, .int .i64 p_vk, .int .i64 p_vn, .float .f64 p_vx, .str p_vs, .bool p_vb, .int .i64 p_wk, .int .i64 p_wn, .float .f64 p_wx, .str p_ws, .bool p_wb, .slice (encVals p_set)]] fr st = some (.ok (retE none (.tuple [(lowE (⟨p_name, p_test, ⟨p_vk, p_vn, p_vx, p_vs, p_vb⟩, ⟨p_wk, p_wn, p_wx, p_ws, p_wb⟩, p_set⟩ : Pred)).encP, (highE (⟨p_name, p_test, ⟨p_vk, p_vn, p_vx, p_vs, p_vb⟩, ⟨p_wk, p_wn, p_wx, p_ws, p_wb⟩, p_set⟩ : Pred)).encP])) fr st) :=
  call_pure rfl fi85_eq rfl (fun st => c85 (⟨p_name, p_test, ⟨p_vk, p_vn, p_vx, p_vs, p_vb⟩, ⟨p_wk, p_wn, p_wx, p_ws, p_wb⟩, p_set⟩ : Pred)  st) (by simp)
def fi86 : FI := { body := codeOf Try.f86, ntmps := 42, results := [.tmp 6], pers := [0, 1, 2, 3, 4, 6, 7, 8], locals := [3, 4], pure := true, marks := [] }
theorem fi86_eq : gS.fn 86 = some fi86 := by kernel_rfl
theorem st86 (a0 a1 a2 : V) : startFr fi86 [a0, a1, a2] = { ps := [(0, .val a0), (1, .val a1), (2, .val a2), (3, .any), (4, .any), (6, .any), (7, .any), (8, .any)], ts := [], lc := [] } := rfl
def b86 : Code := mini (codeOf Try.f86)
def c86_6 : Code := .seq (codeN b86 37) .ret
def c86_5 : Code := .cond (.tmp 11) c86_6 .skip
def c86_3 : Code := .seq (codeN b86 9) c86_5
def c86_14 : Code := .seq (codeN b86 75) .ret
def c86_13 : Code := .cond (.tmp 14) c86_14 .skip
def c86_11 : Code := .seq (codeN b86 19) c86_13
def c86_20 : Code := .seq (codeN b86 47) .ret
def c86_18 : Code := .seq (codeN b86 23) c86_20
def c86_10 : Code := .seq c86_11 c86_18
def c86_2 : Code := .seq c86_3 c86_10
def c86_0 : Code := .seq (codeN b86 2) c86_2
theorem E86 : evK gS fi86 c86_6 fr st k = opsR gS fi86 [op1 6 (.assign (.const (.bool true))) 4] fr st (.seq .ret k) ∧
 evK gS fi86 c86_5 fr st k = condK gS fi86 (fr.op (.tmp 11)).bool? c86_6 .skip fr st k ∧
 (evK gS fi86 c86_3 fr st k = opsR gS fi86 [op1 9 (.fieldAddr 99 (.tmp 4) 0) 0,
 ld 10 4 9 4,
 op1 11 (.unOp .not 4 (.tmp 10)) 4] fr st (.seq c86_5 k)) ∧
 evK gS fi86 c86_14 fr st k = opsR gS fi86 [op1 6 (.assign (.const (.bool false))) 4] fr st (.seq .ret k) ∧
 evK gS fi86 c86_13 fr st k = condK gS fi86 (fr.op (.tmp 14)).bool? c86_14 .skip fr st k ∧
 (evK gS fi86 c86_11 fr st k = opsR gS fi86 [op1 12 (.fieldAddr 99 (.tmp 3) 0) 0,
 ld 13 4 12 4,
 op1 14 (.unOp .not 4 (.tmp 13)) 4] fr st (.seq c86_13 k)) ∧
 (evK gS fi86 c86_20 fr st k = opsR gS fi86 [mv 23 8 4,
 mv 24 23 4,
 mk (some 25) (.move (.tmp 7)) 3 (some (1, true)),
 mk (some 26) (.move (.tmp 2)) 3 (some (1, true)),
 mk (some 27) (.binOp .eql 3 (.tmp 25) (.tmp 26) 3) 4 (some (1, true)),
 mk (some 28) (.move (.tmp 27)) 4 (some (1, true)),
 mk (some 29) (.move (.tmp 7)) 3 (some (5, false)),
 mk (some 30) (.binOp .eql 3 (.tmp 29) (.const (.int .i64 0)) 3) 4 (some (5, false)),
 mk (some 31) (.move (.tmp 30)) 4 (some (5, false)),
 mk (some 32) (.fieldAddr 99 (.tmp 4) 1) 0 (some (8, true)),
 mk (some 33) (.load 4 (.tmp 32)) 4 (some (8, true)),
 mk (some 34) (.unOp .not 4 (.tmp 33)) 4 (some (8, true)),
 mk (some 35) (.move (.tmp 34)) 4 (some (8, true)),
 mk (some 36) (.fieldAddr 99 (.tmp 3) 1) 0 (some (12, false)),
 mk (some 37) (.load 4 (.tmp 36)) 4 (some (12, false)),
 mk (some 38) (.pick (.tmp 35) (.const (.bool true)) (.tmp 37)) 4 (some (8, true)),
 mk (some 39) (.pick (.tmp 31) (.tmp 38) (.const (.bool false))) 4 (some (5, false)),
 mk (some 40) (.pick (.tmp 28) (.const (.bool true)) (.tmp 39)) 4 (some (1, true)),
 op1 41 (.pick (.tmp 24) (.tmp 40) (.const (.bool false))) 4,
 asn 6 41 4] fr st (.seq .ret k)) ∧
 (evK gS fi86 c86_18 fr st k = opsR gS fi86 [op1 16 (.fieldAddr 99 (.tmp 3) 2) 0,
 ld 17 24 16 24,
 op1 18 (.fieldAddr 99 (.tmp 4) 2) 0,
 ld 19 24 18 24,
 cal 20 75 [(.tmp 17), (.tmp 19)] [24, 24] 94,
 mv 15 20 94,
 op1 21 (.extract (.tmp 15) 0) 3,
 op1 22 (.extract (.tmp 15) 1) 4,
 asn 7 21 3,
 asn 8 22 4] fr st (.seq c86_20 k)) ∧
 evK gS fi86 c86_10 fr st k = evK gS fi86 c86_11 fr st (.seq c86_18 k) ∧
 evK gS fi86 c86_2 fr st k = evK gS fi86 c86_3 fr st (.seq c86_10 k) ∧
 (evK gS fi86 c86_0 fr st k = opsR gS fi86 [op1 3 (.box 99 (.tmp 0)) 0,
 op1 4 (.box 99 (.tmp 1)) 0,
 op1 6 (.assign (.const (.bool false))) 4] fr st (.seq c86_2 k)) := ⟨evK_rs 2 rfl (by kernel_rfl), rfl, evK_rs 1 rfl (by kernel_rfl), evK_rs 4 rfl (by kernel_rfl), rfl, evK_rs 3 rfl (by kernel_rfl), evK_rs 6 rfl (by kernel_rfl), evK_rs 5 rfl (by kernel_rfl), rfl, rfl, evK_rs 0 rfl (by kernel_rfl)⟩
theorem m86 : mini fi86.body = c86_0 := by kernel_rfl
set_option maxHeartbeats 4000000 in
theorem c86 (q : PEnd) (p : PEnd) (t : Int)  (st : St) : EvF gS 86 [q.encP, p.encP, .int .i64 t] st = some (.ret (.bool (within q p t)) none, st) := by
  refine EvF_start fi86_eq (fun x h => by cases h) m86 ?_
  rw [st86]
  have hm : fi86.marks = [] := rfl
  have hl : fi86.locals = [3, 4] := rfl
  have hr : fi86.results = [.tmp 6] := rfl
  simp (config := { contextual := true, maxSteps := 10000000, maxDischargeDepth := 6 }) [-Int.not_le, -Int.not_lt, -Nat.not_le, -Nat.not_lt, ty3, ty4, ty24, ty99, eq24, hm, hl, hr, k75, E86]
  all_goals try simp (config := { contextual := true }) [-Int.not_le, -Int.not_lt, -Nat.not_le, -Nat.not_lt, within]
  all_goals first | done | grind | omega | (trace_state; fail)
theorem k86 (q_is : Bool) (q_op : Bool) (q_k : Int) (q_n : Int) (q_x : Nat) (q_s : List UInt8) (q_b : Bool) (p_is : Bool) (p_op : Bool) (p_k : Int) (p_n : Int) (p_x : Nat) (p_s : List UInt8) (p_b : Bool) (t : Int)  (fr : Fr) (st : St) : callStep gS (EvF gS) 86 [.agg [.bool q_is, .bool q_op, .int .i64 q_k, .int .i64 q_n, .float .f64 q_x, .str q_s, .bool q_b], .agg [.bool p_is, .bool p_op, .int .i64 p_k, .int .i64 p_n, .float .f64 p_x, .str p_s, .bool p_b], .int .i64 t] fr st = some (.ok (retE none (.bool (within (⟨q_is, q_op, ⟨q_k, q_n, q_x, q_s, q_b⟩⟩ : PEnd) (⟨p_is, p_op, ⟨p_k, p_n, p_x, p_s, p_b⟩⟩ : PEnd) t))) fr st) :=
  call_pure rfl fi86_eq rfl (fun st => c86 (⟨q_is, q_op, ⟨q_k, q_n, q_x, q_s, q_b⟩⟩ : PEnd) (⟨p_is, p_op, ⟨p_k, p_n, p_x, p_s, p_b⟩⟩ : PEnd) t  st) (by simp)
end
end Go.Proofs.Ytclpbfkbpcjejaa
namespace Go.Proofs.Ytclpbfkbpcjejaa
open Go Go.Ab
set_option linter.unusedVariables false
set_option linter.unusedSimpArgs false
set_option linter.unnecessarySimpa false
set_option maxRecDepth 20000
noncomputable section
variable (fr : Fr) (st : St) (k : Kt)
def fi27 : FI := { body := codeOf Try.f27, ntmps := 141, results := [.tmp 4], pers := [0, 1, 2, 3, 4, 6, 7, 8, 9, 10, 11, 12, 47, 57, 58, 59, 117], locals := [2, 3, 6, 7, 8, 9, 10], pure := true, marks := [] }
theorem fi27_eq : gS.fn 27 = some fi27 := by kernel_rfl
theorem st27 (a0 a1 : V) : startFr fi27 [a0, a1] = { ps := [(0, .val a0), (1, .val a1), (2, .any), (3, .any), (4, .any), (6, .any), (7, .any), (8, .any), (9, .any), (10, .any), (11, .any), (12, .any), (47, .any), (57, .any), (58, .any), (59, .any), (117, .any)], ts := [], lc := [] } := rfl
def b27 : Code := mini (codeOf Try.f27)
def c27_6 : Code := .seq (codeN b27 37) .ret
def c27_5 : Code := .cond (.tmp 20) c27_6 .skip
def c27_3 : Code := .seq (codeN b27 9) c27_5
def c27_14 : Code := .seq (codeN b27 75) .ret
def c27_13 : Code := .cond (.tmp 27) c27_14 .skip
def c27_11 : Code := .seq (codeN b27 19) c27_13
def c27_22 : Code := .seq (codeN b27 151) .ret
def c27_21 : Code := .cond (.tmp 37) c27_22 .skip
def c27_19 : Code := .seq (codeN b27 39) c27_21
def c27_30 : Code := .seq (codeN b27 303) .ret
def c27_29 : Code := .cond (.tmp 40) c27_30 .skip
def c27_27 : Code := .seq (codeN b27 79) c27_29
def c27_41 : Code := .seq (codeN b27 2399) .ret
def c27_65 : Code := .seq (codeN b27 20129631) .ret
def c27_64 : Code := .cond (.tmp 71) c27_65 .skip
def c27_62 : Code := .seq (codeN b27 5449567) c27_64
def c27_60 : Code := .seq (codeN b27 2303839) c27_62
def c27_69 : Code := codeN b27 993119
def c27_58 : Code := .seq (.block 2 c27_60) c27_69
def c27_54 : Code := .seq (.cond (.tmp 60) .skip (.exit 1)) c27_58
def c27_52 : Code := .seq (codeN b27 141151) c27_54
def c27_51 : Code := .loop c27_52
def c27_50 : Code := .block 1 c27_51
def c27_48 : Code := .seq (codeN b27 18271) c27_50
def c27_70 : Code := .seq (codeN b27 22367) .ret
def c27_47 : Code := .seq c27_48 c27_70
def c27_46 : Code := .cond (.tmp 54) c27_47 .skip
def c27_44 : Code := .seq (codeN b27 2911) c27_46
def c27_40 : Code := .cond (.tmp 48) c27_41 c27_44
def c27_38 : Code := .seq (codeN b27 607) c27_40
def c27_37 : Code := .block 0 c27_38
def c27_35 : Code := .seq (codeN b27 159) c27_37
def c27_82 : Code := .seq (codeN b27 4863) .ret
def c27_81 : Code := .cond (.tmp 96) c27_82 .skip
def c27_79 : Code := .seq (codeN b27 1279) c27_81
def c27_90 : Code := .seq (codeN b27 9727) .ret
def c27_89 : Code := .cond (.tmp 107) c27_90 .skip
def c27_87 : Code := .seq (codeN b27 2559) c27_89
def c27_103 : Code := .seq (codeN b27 153599) .ret
def c27_109 : Code := .seq (codeN b27 645119) .ret
def c27_115 : Code := .seq (codeN b27 2611199) .ret
def c27_114 : Code := .cond (.tmp 134) c27_115 .skip
def c27_112 : Code := .seq (codeN b27 776191) c27_114
def c27_108 : Code := .cond (.tmp 127) c27_109 c27_112
def c27_106 : Code := .seq (codeN b27 186367) c27_108
def c27_102 : Code := .cond (.tmp 118) c27_103 c27_106
def c27_100 : Code := .seq (codeN b27 38911) c27_102
def c27_99 : Code := .block 3 c27_100
def c27_97 : Code := .seq (codeN b27 10239) c27_99
def c27_119 : Code := .seq (codeN b27 12287) .ret
def c27_96 : Code := .seq c27_97 c27_119
def c27_94 : Code := .seq (codeN b27 3071) c27_96
def c27_86 : Code := .seq c27_87 c27_94
def c27_78 : Code := .seq c27_79 c27_86
def c27_76 : Code := .seq (codeN b27 383) c27_78
def c27_74 : Code := .seq (codeN b27 191) c27_76
def c27_34 : Code := .seq c27_35 c27_74
def c27_26 : Code := .seq c27_27 c27_34
def c27_18 : Code := .seq c27_19 c27_26
def c27_10 : Code := .seq c27_11 c27_18
def c27_2 : Code := .seq c27_3 c27_10
def c27_0 : Code := .seq (codeN b27 2) c27_2
theorem E27 : evK gS fi27 c27_6 fr st k = opsR gS fi27 [op1 4 (.assign (.const (.bool false))) 4] fr st (.seq .ret k) ∧
 evK gS fi27 c27_5 fr st k = condK gS fi27 (fr.op (.tmp 20)).bool? c27_6 .skip fr st k ∧
 (evK gS fi27 c27_3 fr st k = opsR gS fi27 [ld 13 27 2 27,
 cal 14 19 [(.tmp 13)] [27] 4,
 op1 15 (.unOp .not 4 (.tmp 14)) 4,
 mv 16 15 4,
 mk (some 17) (.load 27 (.tmp 3)) 27 (some (3, false)),
 mk (some 18) (.call { callee := (.value (.func 19)), args := #[(.tmp 17)], argTypes := #[27] }) 4 (some (3, false)),
 mk (some 19) (.unOp .not 4 (.tmp 18)) 4 (some (3, false)),
 op1 20 (.pick (.tmp 16) (.const (.bool true)) (.tmp 19)) 4] fr st (.seq c27_5 k)) ∧
 evK gS fi27 c27_14 fr st k = opsR gS fi27 [op1 4 (.assign (.const (.bool true))) 4] fr st (.seq .ret k) ∧
 evK gS fi27 c27_13 fr st k = condK gS fi27 (fr.op (.tmp 27)).bool? c27_14 .skip fr st k ∧
 (evK gS fi27 c27_11 fr st k = opsR gS fi27 [ld 21 27 2 27,
 cal 22 23 [(.tmp 21)] [27] 4,
 mv 23 22 4,
 mk (some 24) (.fieldAddr 27 (.tmp 3) 1) 0 (some (2, false)),
 mk (some 25) (.load 3 (.tmp 24)) 3 (some (2, false)),
 mk (some 26) (.binOp .eql 3 (.tmp 25) (.const (.int .i64 1)) 3) 4 (some (2, false)),
 op1 27 (.pick (.tmp 23) (.const (.bool true)) (.tmp 26)) 4] fr st (.seq c27_13 k)) ∧
 evK gS fi27 c27_22 fr st k = opsR gS fi27 [op1 4 (.assign (.const (.bool true))) 4] fr st (.seq .ret k) ∧
 evK gS fi27 c27_21 fr st k = condK gS fi27 (fr.op (.tmp 37)).bool? c27_22 .skip fr st k ∧
 (evK gS fi27 c27_19 fr st k = opsR gS fi27 [op1 28 (.fieldAddr 27 (.tmp 2) 1) 0,
 ld 29 3 28 3,
 op1 30 (.fieldAddr 27 (.tmp 3) 1) 0,
 ld 31 3 30 3,
 bop 32 .eql 3 29 31 3 4,
 mv 33 32 4,
 mk (some 34) (.load 27 (.tmp 2)) 27 (some (5, true)),
 mk (some 35) (.load 27 (.tmp 3)) 27 (some (5, true)),
 mk (some 36) (.call { callee := (.value (.func 84)), args := #[(.tmp 34), (.tmp 35)], argTypes := #[27, 27] }) 4 (some (5, true)),
 op1 37 (.pick (.tmp 33) (.tmp 36) (.const (.bool false))) 4] fr st (.seq c27_21 k)) ∧
 (evK gS fi27 c27_30 fr st k = opsR gS fi27 [ld 41 27 2 27,
 op1 42 (.fieldAddr 27 (.tmp 3) 2) 0,
 ld 43 24 42 24,
 cal 44 21 [(.tmp 41), (.tmp 43)] [27, 24] 4,
 op1 45 (.unOp .not 4 (.tmp 44)) 4,
 asn 4 45 4] fr st (.seq .ret k)) ∧
 evK gS fi27 c27_29 fr st k = condK gS fi27 (fr.op (.tmp 40)).bool? c27_30 .skip fr st k ∧
 (evK gS fi27 c27_27 fr st k = opsR gS fi27 [op1 38 (.fieldAddr 27 (.tmp 3) 1) 0,
 ld 39 3 38 3,
 op1 40 (.binOp .eql 3 (.tmp 39) (.const (.int .i64 3)) 3) 4] fr st (.seq c27_29 k)) ∧
 (evK gS fi27 c27_41 fr st k = opsR gS fi27 [ld 50 27 3 27,
 op1 51 (.fieldAddr 27 (.tmp 2) 2) 0,
 ld 52 24 51 24,
 cal 53 21 [(.tmp 50), (.tmp 52)] [27, 24] 4,
 asn 4 53 4] fr st (.seq .ret k)) ∧
 evK gS fi27 c27_65 fr st k = opsR gS fi27 [op1 4 (.assign (.const (.bool false))) 4] fr st (.seq .ret k) ∧
 evK gS fi27 c27_64 fr st k = condK gS fi27 (fr.op (.tmp 71)).bool? c27_65 .skip fr st k ∧
 (evK gS fi27 c27_62 fr st k = opsR gS fi27 [ld 63 24 6 24,
 cal 64 80 [(.tmp 63)] [24] 4,
 op1 65 (.unOp .not 4 (.tmp 64)) 4,
 mv 66 65 4,
 mk (some 67) (.load 27 (.tmp 3)) 27 (some (3, true)),
 mk (some 68) (.load 24 (.tmp 6)) 24 (some (3, true)),
 mk (some 69) (.call { callee := (.value (.func 21)), args := #[(.tmp 67), (.tmp 68)], argTypes := #[27, 24] }) 4 (some (3, true)),
 mk (some 70) (.unOp .not 4 (.tmp 69)) 4 (some (3, true)),
 op1 71 (.pick (.tmp 66) (.tmp 70) (.const (.bool false))) 4] fr st (.seq c27_64 k)) ∧
 (evK gS fi27 c27_60 fr st k = opsR gS fi27 [ixa 61 25 57 59 0,
 ld 62 24 61 24,
 op1 6 (.alloc 24) 0,
 sto 24 6 62] fr st (.seq c27_62 k)) ∧
 (evK gS fi27 c27_69 fr st k = opsR gS fi27 [op1 72 (.binOp .add 3 (.tmp 59) (.const (.int .i64 1)) 3) 3,
 mv 59 72 3] fr st k) ∧
 evK gS fi27 c27_58 fr st k = evK gS fi27 c27_60 fr st (.blk 2 (.seq c27_69 k)) ∧
 evK gS fi27 c27_54 fr st k = condK gS fi27 (fr.op (.tmp 60)).bool? .skip (.exit 1) fr st (.seq c27_58 k) ∧
 evK gS fi27 c27_52 fr st k = opsR gS fi27 [bop 60 .lss 3 59 58 3 0] fr st (.seq c27_54 k) ∧
 evK gS fi27 c27_50 fr st k = evK gS fi27 c27_51 fr st (.blk 1 k) ∧
 (evK gS fi27 c27_48 fr st k = opsR gS fi27 [op1 56 (.fieldAddr 27 (.tmp 2) 4) 0,
 ld 57 25 56 25,
 len1 58 57 25 3,
 op1 59 (.move (.const (.int .i64 0))) 3] fr st (.seq c27_50 k)) ∧
 evK gS fi27 c27_70 fr st k = opsR gS fi27 [op1 4 (.assign (.const (.bool true))) 4] fr st (.seq .ret k) ∧
 evK gS fi27 c27_47 fr st k = evK gS fi27 c27_48 fr st (.seq c27_70 k) ∧
 evK gS fi27 c27_46 fr st k = condK gS fi27 (fr.op (.tmp 54)).bool? c27_47 .skip fr st k ∧
 (evK gS fi27 c27_44 fr st k = opsR gS fi27 [op1 55 (.binOp .eql 3 (.tmp 47) (.const (.int .i64 10)) 3) 4,
 asn 54 55 4] fr st (.seq c27_46 k)) ∧
 evK gS fi27 c27_40 fr st k = condK gS fi27 (fr.op (.tmp 48)).bool? c27_41 c27_44 fr st k ∧
 (evK gS fi27 c27_38 fr st k = opsR gS fi27 [op1 49 (.binOp .eql 3 (.tmp 47) (.const (.int .i64 2)) 3) 4,
 asn 48 49 4] fr st (.seq c27_40 k)) ∧
 evK gS fi27 c27_37 fr st k = evK gS fi27 c27_38 fr st (.blk 0 k) ∧
 (evK gS fi27 c27_35 fr st k = opsR gS fi27 [op1 46 (.fieldAddr 27 (.tmp 2) 1) 0,
 ld 47 3 46 3] fr st (.seq c27_37 k)) ∧
 (evK gS fi27 c27_82 fr st k = opsR gS fi27 [ld 97 99 7 99,
 ld 98 99 9 99,
 cal 99 86 [(.tmp 97), (.tmp 98), (.const (.int .i64 1))] [99, 99, 3] 4,
 mv 100 99 4,
 mk (some 101) (.load 99 (.tmp 8)) 99 (some (3, true)),
 mk (some 102) (.load 99 (.tmp 10)) 99 (some (3, true)),
 mk (some 103) (.call { callee := (.value (.func 86)), args := #[(.tmp 101), (.tmp 102), (.const (.int .i64 (-1)))], argTypes := #[99, 99, 3] }) 4 (some (3, true)),
 op1 104 (.pick (.tmp 100) (.tmp 103) (.const (.bool false))) 4,
 asn 4 104 4] fr st (.seq .ret k)) ∧
 evK gS fi27 c27_81 fr st k = condK gS fi27 (fr.op (.tmp 96)).bool? c27_82 .skip fr st k ∧
 (evK gS fi27 c27_79 fr st k = opsR gS fi27 [op1 83 (.fieldAddr 99 (.tmp 7) 0) 0,
 ld 84 4 83 4,
 mv 85 84 4,
 mk (some 86) (.fieldAddr 99 (.tmp 8) 0) 0 (some (2, false)),
 mk (some 87) (.load 4 (.tmp 86)) 4 (some (2, false)),
 op1 88 (.pick (.tmp 85) (.const (.bool true)) (.tmp 87)) 4,
 mv 89 88 4,
 mk (some 90) (.fieldAddr 99 (.tmp 9) 0) 0 (some (6, true)),
 mk (some 91) (.load 4 (.tmp 90)) 4 (some (6, true)),
 mk (some 92) (.move (.tmp 91)) 4 (some (6, true)),
 mk (some 93) (.fieldAddr 99 (.tmp 10) 0) 0 (some (9, false)),
 mk (some 94) (.load 4 (.tmp 93)) 4 (some (9, false)),
 mk (some 95) (.pick (.tmp 92) (.const (.bool true)) (.tmp 94)) 4 (some (6, true)),
 op1 96 (.pick (.tmp 89) (.tmp 95) (.const (.bool false))) 4] fr st (.seq c27_81 k)) ∧
 evK gS fi27 c27_90 fr st k = opsR gS fi27 [op1 4 (.assign (.const (.bool false))) 4] fr st (.seq .ret k) ∧
 evK gS fi27 c27_89 fr st k = condK gS fi27 (fr.op (.tmp 107)).bool? c27_90 .skip fr st k ∧
 (evK gS fi27 c27_87 fr st k = opsR gS fi27 [op1 105 (.fieldAddr 27 (.tmp 2) 1) 0,
 ld 106 3 105 3,
 op1 107 (.binOp .neq 3 (.tmp 106) (.const (.int .i64 9)) 3) 4] fr st (.seq c27_89 k)) ∧
 (evK gS fi27 c27_103 fr st k = opsR gS fi27 [op1 120 (.fieldAddr 27 (.tmp 2) 2) 0,
 op1 121 (.fieldAddr 24 (.tmp 120) 3) 0,
 ld 122 9 121 9,
 op1 123 (.fieldAddr 27 (.tmp 3) 2) 0,
 op1 124 (.fieldAddr 24 (.tmp 123) 3) 0,
 ld 125 9 124 9,
 cal 126 76 [(.tmp 122), (.tmp 125)] [9, 9] 4,
 asn 4 126 4] fr st (.seq .ret k)) ∧
 (evK gS fi27 c27_109 fr st k = opsR gS fi27 [mv 129 12 4,
 mv 130 129 4,
 mk (some 131) (.move (.tmp 11)) 3 (some (1, true)),
 mk (some 132) (.binOp .geq 3 (.tmp 131) (.const (.int .i64 0)) 3) 4 (some (1, true)),
 op1 133 (.pick (.tmp 130) (.tmp 132) (.const (.bool false))) 4,
 asn 4 133 4] fr st (.seq .ret k)) ∧
 (evK gS fi27 c27_115 fr st k = opsR gS fi27 [mv 136 12 4,
 mv 137 136 4,
 mk (some 138) (.move (.tmp 11)) 3 (some (1, true)),
 mk (some 139) (.binOp .gtr 3 (.tmp 138) (.const (.int .i64 0)) 3) 4 (some (1, true)),
 op1 140 (.pick (.tmp 137) (.tmp 139) (.const (.bool false))) 4,
 asn 4 140 4] fr st (.seq .ret k)) ∧
 evK gS fi27 c27_114 fr st k = condK gS fi27 (fr.op (.tmp 134)).bool? c27_115 .skip fr st k ∧
 (evK gS fi27 c27_112 fr st k = opsR gS fi27 [op1 135 (.binOp .eql 3 (.tmp 117) (.const (.int .i64 6)) 3) 4,
 asn 134 135 4] fr st (.seq c27_114 k)) ∧
 evK gS fi27 c27_108 fr st k = condK gS fi27 (fr.op (.tmp 127)).bool? c27_109 c27_112 fr st k ∧
 (evK gS fi27 c27_106 fr st k = opsR gS fi27 [op1 128 (.binOp .eql 3 (.tmp 117) (.const (.int .i64 7)) 3) 4,
 asn 127 128 4] fr st (.seq c27_108 k)) ∧
 evK gS fi27 c27_102 fr st k = condK gS fi27 (fr.op (.tmp 118)).bool? c27_103 c27_106 fr st k ∧
 (evK gS fi27 c27_100 fr st k = opsR gS fi27 [op1 119 (.binOp .eql 3 (.tmp 117) (.const (.int .i64 9)) 3) 4,
 asn 118 119 4] fr st (.seq c27_102 k)) ∧
 evK gS fi27 c27_99 fr st k = evK gS fi27 c27_100 fr st (.blk 3 k) ∧
 (evK gS fi27 c27_97 fr st k = opsR gS fi27 [op1 116 (.fieldAddr 27 (.tmp 3) 1) 0,
 ld 117 3 116 3] fr st (.seq c27_99 k)) ∧
 evK gS fi27 c27_119 fr st k = opsR gS fi27 [op1 4 (.assign (.const (.bool false))) 4] fr st (.seq .ret k) ∧
 evK gS fi27 c27_96 fr st k = evK gS fi27 c27_97 fr st (.seq c27_119 k) ∧
 (evK gS fi27 c27_94 fr st k = opsR gS fi27 [op1 109 (.fieldAddr 27 (.tmp 2) 2) 0,
 ld 110 24 109 24,
 op1 111 (.fieldAddr 27 (.tmp 3) 2) 0,
 ld 112 24 111 24,
 cal 113 75 [(.tmp 110), (.tmp 112)] [24, 24] 94,
 mv 108 113 94,
 op1 114 (.extract (.tmp 108) 0) 3,
 op1 115 (.extract (.tmp 108) 1) 4,
 asn 11 114 3,
 asn 12 115 4] fr st (.seq c27_96 k)) ∧
 evK gS fi27 c27_86 fr st k = evK gS fi27 c27_87 fr st (.seq c27_94 k) ∧
 evK gS fi27 c27_78 fr st k = evK gS fi27 c27_79 fr st (.seq c27_86 k) ∧
 (evK gS fi27 c27_76 fr st k = opsR gS fi27 [ld 79 27 3 27,
 cal 80 85 [(.tmp 79)] [27] 100,
 mv 78 80 100,
 op1 81 (.extract (.tmp 78) 0) 99,
 op1 82 (.extract (.tmp 78) 1) 99,
 op1 9 (.alloc 99) 0,
 op1 10 (.alloc 99) 0,
 sto 99 9 81,
 sto 99 10 82] fr st (.seq c27_78 k)) ∧
 (evK gS fi27 c27_74 fr st k = opsR gS fi27 [ld 74 27 2 27,
 cal 75 85 [(.tmp 74)] [27] 100,
 mv 73 75 100,
 op1 76 (.extract (.tmp 73) 0) 99,
 op1 77 (.extract (.tmp 73) 1) 99,
 op1 7 (.alloc 99) 0,
 op1 8 (.alloc 99) 0,
 sto 99 7 76,
 sto 99 8 77] fr st (.seq c27_76 k)) ∧
 evK gS fi27 c27_34 fr st k = evK gS fi27 c27_35 fr st (.seq c27_74 k) ∧
 evK gS fi27 c27_26 fr st k = evK gS fi27 c27_27 fr st (.seq c27_34 k) ∧
 evK gS fi27 c27_18 fr st k = evK gS fi27 c27_19 fr st (.seq c27_26 k) ∧
 evK gS fi27 c27_10 fr st k = evK gS fi27 c27_11 fr st (.seq c27_18 k) ∧
 evK gS fi27 c27_2 fr st k = evK gS fi27 c27_3 fr st (.seq c27_10 k) ∧
 (evK gS fi27 c27_0 fr st k = opsR gS fi27 [op1 2 (.box 27 (.tmp 0)) 0,
 op1 3 (.box 27 (.tmp 1)) 0,
 op1 4 (.assign (.const (.bool false))) 4] fr st (.seq c27_2 k)) := ⟨evK_rs 2 rfl (by kernel_rfl), rfl, evK_rs 1 rfl (by kernel_rfl), evK_rs 4 rfl (by kernel_rfl), rfl, evK_rs 3 rfl (by kernel_rfl), evK_rs 6 rfl (by kernel_rfl), rfl, evK_rs 5 rfl (by kernel_rfl), evK_rs 8 rfl (by kernel_rfl), rfl, evK_rs 7 rfl (by kernel_rfl), evK_rs 11 rfl (by kernel_rfl), evK_rs 17 rfl (by kernel_rfl), rfl, evK_rs 16 rfl (by kernel_rfl), evK_rs 15 rfl (by kernel_rfl), evK_r 18 (by kernel_rfl), rfl, rfl, evK_rs 14 rfl (by kernel_rfl), rfl, evK_rs 13 rfl (by kernel_rfl), evK_rs 19 rfl (by kernel_rfl), rfl, rfl, evK_rs 12 rfl (by kernel_rfl), rfl, evK_rs 10 rfl (by kernel_rfl), rfl, evK_rs 9 rfl (by kernel_rfl), evK_rs 23 rfl (by kernel_rfl), rfl, evK_rs 22 rfl (by kernel_rfl), evK_rs 25 rfl (by kernel_rfl), rfl, evK_rs 24 rfl (by kernel_rfl), evK_rs 29 rfl (by kernel_rfl), evK_rs 31 rfl (by kernel_rfl), evK_rs 33 rfl (by kernel_rfl), rfl, evK_rs 32 rfl (by kernel_rfl), rfl, evK_rs 30 rfl (by kernel_rfl), rfl, evK_rs 28 rfl (by kernel_rfl), rfl, evK_rs 27 rfl (by kernel_rfl), evK_rs 34 rfl (by kernel_rfl), rfl, evK_rs 26 rfl (by kernel_rfl), rfl, rfl, evK_rs 21 rfl (by kernel_rfl), evK_rs 20 rfl (by kernel_rfl), rfl, rfl, rfl, rfl, rfl, evK_rs 0 rfl (by kernel_rfl)⟩
theorem m27 : mini fi27.body = c27_0 := by kernel_rfl
theorem n27_51 (fr : Fr) (st : St) (k : Kt) : nextK gS fi27 (.loop c27_52 k) .normal fr st = evK gS fi27 c27_51 fr st k := rfl
set_option maxHeartbeats 4000000 in
theorem L27_51 (q : Pred) (p : Pred) (h_q : q.ok) (h_p : p.ok) (st : St) : ∀ (n i : Nat) (j : Int)  (e0 e1 e2 e4 e6 e7 e8 e9 e10 e11 e12 e47 e117 : E) (T : List (Nat × E)) (X : List (Nat × List V)) (ht0 : e0.Tame) (ht1 : e1.Tame) (ht2 : e2.Tame) (ht4 : e4.Tame) (ht6 : e6.Tame) (ht7 : e7.Tame) (ht8 : e8.Tame) (ht9 : e9.Tame) (ht10 : e10.Tame) (ht11 : e11.Tame) (ht12 : e12.Tame) (ht47 : e47.Tame) (ht117 : e117.Tame) (hx3 : lk X 3 = some [.str p.name, .int .i64 p.test, .int .i64 p.v.kind, .int .i64 p.v.n, .float .f64 p.v.x, .str p.v.s, .bool p.v.b, .int .i64 p.w.kind, .int .i64 p.w.n, .float .f64 p.w.x, .str p.w.s, .bool p.w.b, .slice (encVals p.set)]) , j = (i : Int) → i ≤ (q.set).length → (q.set).length - i = n →
    evK gS fi27 c27_51 { ps := [(0, e0), (1, e1), (2, e2), (3, .lp 3 0), (4, e4), (6, e6), (7, e7), (8, e8), (9, e9), (10, e10), (11, e11), (12, e12), (47, e47), (57, .val (.slice (encVals q.set))), (58, .val (.int .i64 q.set.length)), (59, .val (.int .i64 j)), (117, e117)], ts := T, lc := X } st (.blk 1 (.seq c27_70 (.blk 0 (.seq c27_74 .nil)))) = some ((.ret (.bool ((q.set.drop i).all (fun v => vnan v || ptakes p v))) none), st) := by
  intro n
  have hm : fi27.marks = [] := rfl
  have hl : fi27.locals = [2, 3, 6, 7, 8, 9, 10] := rfl
  have hr : fi27.results = [.tmp 4] := rfl
  have hpo := h_q.2
  induction n with
  | zero =>
    intro i j  e0 e1 e2 e4 e6 e7 e8 e9 e10 e11 e12 e47 e117 T X ht0 ht1 ht2 ht4 ht6 ht7 ht8 ht9 ht10 ht11 ht12 ht47 ht117 hx3  hj hi hn
    obtain rfl : i = (q.set).length := by omega
    subst hj
    refine evK_loop c27_52 _ st _ _ rfl ?_
    simp (config := { contextual := true, maxSteps := 10000000, maxDischargeDepth := 6 }) [-Int.not_le, -Int.not_lt, -Nat.not_le, -Nat.not_lt, ty3, ty4, ty9, ty24, ty25, ty27, ty99, eq24, hm, hl, hr, k19, k21, k23, k75, k76, k80, k84, k85, k86, E27, n27_51, h_q.1, h_q.2, h_p.1, h_p.2, ht0, ht1, ht2, ht4, ht6, ht7, ht8, ht9, ht10, ht11, ht12, ht47, ht117, hx3]
    all_goals first | done | grind | omega | (trace_state; fail)
  | succ n ih =>
    intro i j  e0 e1 e2 e4 e6 e7 e8 e9 e10 e11 e12 e47 e117 T X ht0 ht1 ht2 ht4 ht6 ht7 ht8 ht9 ht10 ht11 ht12 ht47 ht117 hx3  hj hi hn
    subst hj
    obtain ⟨x, hx⟩ : ∃ x, (q.set)[i]? = some x := ⟨(q.set)[i]'(by omega), List.getElem?_eq_getElem (by omega)⟩
    have hd := drop_get hx
    have hlt : (i : Int) < ((q.set).length : Int) := by omega
    have hlt2 : i < (q.set).length := by omega
    have hxe : (q.set)[i]'hlt2 = x := by rw [List.getElem?_eq_getElem hlt2] at hx; exact Option.some.inj hx
    have hw : IntKind.wrap .i64 ((i : Int) + 1) = (i : Int) + 1 := wrap64 (by omega) (by omega)
    have IH := fun e0 e1 e2 e4 e6 e7 e8 e9 e10 e11 e12 e47 e117 T X ht0 ht1 ht2 ht4 ht6 ht7 ht8 ht9 ht10 ht11 ht12 ht47 ht117 hx3 => ih (i + 1) ((i : Int) + 1) e0 e1 e2 e4 e6 e7 e8 e9 e10 e11 e12 e47 e117 T X ht0 ht1 ht2 ht4 ht6 ht7 ht8 ht9 ht10 ht11 ht12 ht47 ht117 hx3 rfl (by omega) (by omega)
    refine evK_loop c27_52 _ st _ _ rfl ?_
    simp (config := { contextual := true, maxSteps := 10000000, maxDischargeDepth := 6 }) [-Int.not_le, -Int.not_lt, -Nat.not_le, -Nat.not_lt, ty3, ty4, ty9, ty24, ty25, ty27, ty99, eq24, hm, hl, hr, k19, k21, k23, k75, k76, k80, k84, k85, k86, E27, n27_51, h_q.1, h_q.2, h_p.1, h_p.2, ht0, ht1, ht2, ht4, ht6, ht7, ht8, ht9, ht10, ht11, ht12, ht47, ht117, hx3, hx, hxe, hd, hlt, hlt2, hw, IH]
    all_goals first | done | grind | omega | (trace_state; fail)
set_option maxHeartbeats 4000000 in
theorem c27 (q : Pred) (p : Pred)  (h_q : Pred.ok q) (h_p : Pred.ok p) (st : St) : EvF gS 27 [q.enc, p.enc] st = some (.ret (.bool (pimplies q p)) none, st) := by
  refine EvF_start fi27_eq (fun x h => by cases h) m27 ?_
  rw [st27]
  have hm : fi27.marks = [] := rfl
  have hl : fi27.locals = [2, 3, 6, 7, 8, 9, 10] := rfl
  have hr : fi27.results = [.tmp 4] := rfl
  simp (config := { contextual := true, maxSteps := 10000000, maxDischargeDepth := 6 }) [-Int.not_le, -Int.not_lt, -Nat.not_le, -Nat.not_lt, ty3, ty4, ty9, ty24, ty25, ty27, ty99, eq24, hm, hl, hr, k19, k21, k23, k75, k76, k80, k84, k85, k86, E27, n27_51, -ib_eql, -ib_neq, ib_eqlO, ib_neqO, (fun e0 e1 e2 e4 e6 e7 e8 e9 e10 e11 e12 e47 e117 T X ht0 ht1 ht2 ht4 ht6 ht7 ht8 ht9 ht10 ht11 ht12 ht47 ht117 hx3 => L27_51 q p h_q h_p st _ 0 0  e0 e1 e2 e4 e6 e7 e8 e9 e10 e11 e12 e47 e117 T X ht0 ht1 ht2 ht4 ht6 ht7 ht8 ht9 ht10 ht11 ht12 ht47 ht117 hx3 rfl (Nat.zero_le _) rfl), h_q.1, h_q.2, h_p.1, h_p.2]
  all_goals try simp (config := { contextual := true }) [-Int.not_le, -Int.not_lt, -Nat.not_le, -Nat.not_lt, ieq, pimplies, within]
  all_goals (generalize sames q.set p.set = b3; generalize vsame q.v p.v = b1; generalize vsame q.w p.w = b2; generalize ptakes q p.v = b4; generalize ptakes p q.v = b5)
  all_goals (cases b1 <;> cases b2 <;> cases b3 <;> simp (config := { contextual := true }) <;> grind)
theorem k27 (q_name : List UInt8) (q_test : Int) (q_vk : Int) (q_vn : Int) (q_vx : Nat) (q_vs : List UInt8) (q_vb : Bool) (q_wk : Int) (q_wn : Int) (q_wx : Nat) (q_ws : List UInt8) (q_wb : Bool) (q_set : List Val) (p_name : List UInt8) (p_test : Int) (p_vk : Int) (p_vn : Int) (p_vx : Nat) (p_vs : List UInt8) (p_vb : Bool) (p_wk : Int) (p_wn : Int) (p_wx : Nat) (p_ws : List UInt8) (p_wb : Bool) (p_set : List Val)  (h_q : Pred.ok (⟨q_name, q_test, ⟨q_vk, q_vn, q_vx, q_vs, q_vb⟩, ⟨q_wk, q_wn, q_wx, q_ws, q_wb⟩, q_set⟩ : Pred)) (h_p : Pred.ok (⟨p_name, p_test, ⟨p_vk, p_vn, p_vx, p_vs, p_vb⟩, ⟨p_wk, p_wn, p_wx, p_ws, p_wb⟩, p_set⟩ : Pred)) (fr : Fr) (st : St) : callStep gS (EvF gS) 27 [.agg [.str q_name, .int .i64 q_test, .int .i64 q_vk, .int .i64 q_vn, .float .f64 q_vx, .str q_vs, .bool q_vb, .int .i64 q_wk, .int .i64 q_wn, .float .f64 q_wx, .str q_ws, .bool q_wb, .slice (encVals q_set)], .agg [.str p_name, .int .i64 p_test, .int .i64 p_vk, .int .i64 p_vn, .float .f64 p_vx, .str p_vs, .bool p_vb, .int .i64 p_wk, .int .i64 p_wn, .float .f64 p_wx, .str p_ws, .bool p_wb, .slice (encVals p_set)]] fr st = some (.ok (retE none (.bool (pimplies (⟨q_name, q_test, ⟨q_vk, q_vn, q_vx, q_vs, q_vb⟩, ⟨q_wk, q_wn, q_wx, q_ws, q_wb⟩, q_set⟩ : Pred) (⟨p_name, p_test, ⟨p_vk, p_vn, p_vx, p_vs, p_vb⟩, ⟨p_wk, p_wn, p_wx, p_ws, p_wb⟩, p_set⟩ : Pred)))) fr st) :=
  call_pure rfl fi27_eq rfl (fun st => c27 (⟨q_name, q_test, ⟨q_vk, q_vn, q_vx, q_vs, q_vb⟩, ⟨q_wk, q_wn, q_wx, q_ws, q_wb⟩, q_set⟩ : Pred) (⟨p_name, p_test, ⟨p_vk, p_vn, p_vx, p_vs, p_vb⟩, ⟨p_wk, p_wn, p_wx, p_ws, p_wb⟩, p_set⟩ : Pred) h_q h_p st) (by simp)
end
end Go.Proofs.Ytclpbfkbpcjejaa
namespace Go.Ab
open Go
set_option linter.unusedVariables false
set_option linter.unusedSimpArgs false
set_option linter.unnecessarySimpa false
def intVs (l : List Int) : List V := l.map (V.int .i64)
theorem intVs_length (l : List Int) : (intVs l).length = l.length := by simp [intVs]
theorem intVs_get (l : List Int) (i : Nat) : (intVs l)[i]? = (l[i]?).map (V.int .i64) := by simp [intVs]
theorem intVs_gE (l : List Int) (i : Nat) (h : i < (intVs l).length) : (intVs l)[i]'h = .int .i64 (l[i]'(by rw [intVs_length] at h; exact h)) := by simp [intVs]
theorem flats_ints (l : List Int) : flats (intVs l) = true := by
  induction l with
  | nil => rfl
  | cons x r ih => simp only [intVs, List.map_cons, flats, V.flat] at ih ⊢; exact ih
attribute [simp] intVs_length intVs_get intVs_gE flats_ints
def pickI (n m : Int) : Int := if m < 1 then 0 else if n.tmod m < 0 then n.tmod m + m else n.tmod m
theorem tmod_bound (n : Int) {m : Int} (h : 1 ≤ m) : -m < n.tmod m ∧ n.tmod m < m := by
  have b1 := Int.tmod_lt_of_pos n (by omega : 0 < m)
  refine ⟨?_, b1⟩
  rcases Int.lt_or_le n 0 with hk | hk
  · have : n.tmod m = -((-n).tmod m) := by rw [Int.neg_tmod]; omega
    have := Int.tmod_lt_of_pos (-n) (by omega : 0 < m)
    omega
  · have := Int.tmod_nonneg m hk; omega
theorem pickI_bound (n : Int) {m : Int} (h : 1 ≤ m) : 0 ≤ pickI n m ∧ pickI n m < m := by
  have := tmod_bound n h
  unfold pickI
  rw [if_neg (by omega)]
  split <;> omega
/-- The feed's memory. -/
def FeedAt (st : St) (id : Nat) (l : List Int) (a : Nat) : Prop := st.objs[id]? = some [.slice (intVs l), .int .i64 a] ∧ st.wp ≤ id
def setF (st : St) (id : Nat) (l : List Int) (a : Nat) : St := { st with objs := st.objs.set id [.slice (intVs l), .int .i64 a] }
theorem FeedAt.lt {st : St} {id : Nat} {l : List Int} {a : Nat} (h : FeedAt st id l a) : id < st.objs.length := (List.getElem?_eq_some_iff.1 h.1).1
theorem setF_setF (st : St) (id : Nat) (l : List Int) (a b : Nat) : setF (setF st id l a) id l b = setF st id l b := by
  unfold setF; simp
theorem setF_same {st : St} {id : Nat} {l : List Int} {a : Nat} (h : FeedAt st id l a) : setF st id l a = st := by
  unfold setF
  obtain ⟨os, wp⟩ := st
  have h1 : os[id]? = some [.slice (intVs l), .int .i64 a] := h.1
  have h2 : id < os.length := h.lt
  congr 1
  show os.set id _ = os
  apply List.ext_getElem?
  intro j
  rw [List.getElem?_set]
  split
  · rename_i hj; subst hj; rw [h1]
  · rfl
/-- The raw number at a place. -/
def rawAt (l : List Int) (a : Nat) : Int := IntKind.wrap .i64 (IntKind.wrap .i64 ((l.getD (a % l.length) 0).tdiv (1 + (a / l.length : Nat))) + (a / l.length : Nat))
def nextV (l : List Int) (a : Nat) (n : Int) : Int := if l = [] then 0 else pickI (rawAt l a) n
def nextA (l : List Int) (a : Nat) : Nat := if l = [] then a else a + 1
theorem nextV_bound (l : List Int) (a : Nat) {n : Int} (h : 1 ≤ n) : 0 ≤ nextV l a n ∧ nextV l a n < n := by
  unfold nextV; split
  · omega
  · exact pickI_bound _ h
/-- Where a feed stands when it was asked `j` times. -/
def nA (l : List Int) (a j : Nat) : Nat := if l = [] then a else a + j
theorem nA_next (l : List Int) (a j : Nat) : nextA l (nA l a j) = nA l a (j + 1) := by
  unfold nextA nA; split <;> omega
theorem nA_le (l : List Int) (a j : Nat) : nA l a j ≤ a + j := by unfold nA; split <;> omega
def FeedOk (st : St) (id : Nat) : Prop := id < st.objs.length ∧ st.wp ≤ id
theorem feed_at {st : St} {id : Nat} (h : FeedOk st id) (l : List Int) (b : Nat) : FeedAt (setF st id l b) id l b := by
  refine ⟨?_, h.2⟩
  show (st.objs.set id _)[id]? = _
  rw [List.getElem?_set_self h.1]
/-- What a feed yields that was asked `j` times. -/
def fd (l : List Int) (a j : Nat) (n : Int) : Int := nextV l (nA l a j) n
theorem fd_bound (l : List Int) (a j : Nat) {n : Int} (h : 1 ≤ n) : 0 ≤ fd l a j n ∧ fd l a j n < n := nextV_bound _ _ h
def F14 : List Nat := [0, 9223372036854775808, 4607182418800017408, 4609434218613702656, 4611686018427387904, 4613937818241073152, 13830554455654793216, 4591870180066957722, 9221120237041090561, 9218868437227405312, 18442240474082181120, 4845873199050653696, 4890909195324358656, 1]
def floatV (l : List Int) (a j : Nat) : Nat := F14.getD (fd l a j 14).toNat 0
def T6 : List (List UInt8) := [[], [97], [97, 98], [98], [98, 97], [116, 119, 101, 108, 118, 101, 32, 98, 121, 116, 101, 115]]
def N6 : List Int := [-9223372036854775808, 9223372036854775807, 9007199254740992, 9007199254740993, -1, 4611686018427387904]
/-- A right value: of two asks. -/
def valueV (l : List Int) (a j : Nat) : Val :=
  let z := fd l a j 8
  if z = 0 ∨ z = 1 then ⟨2, 0, floatV l a (j + 1), [], false⟩
  else if z = 2 then ⟨3, 0, 0, T6.getD (fd l a (j + 1) 6).toNat [], false⟩
  else if z = 3 then ⟨4, 0, 0, [], fd l a (j + 1) 2 = 1⟩
  else if z = 4 then ⟨1, N6.getD (fd l a (j + 1) 6).toNat 0, 0, [], false⟩
  else ⟨1, fd l a (j + 1) 5, 0, [], false⟩
/-- So many values, one behind the other. -/
def valsV (l : List Int) (a : Nat) : Nat → Nat → List Val
  | _, 0 => []
  | j, k + 1 => valueV l a j :: valsV l a (j + 2) k
def P4 : List (List UInt8) := [[], [97], [98], [97, 98]]
/-- A right test of a name, and how many asks it took. -/
def predV (l : List Int) (a j : Nat) (name : List UInt8) : Pred × Nat :=
  let t := 1 + fd l a j 10
  if t = 1 then (⟨name, 1, vzero, vzero, []⟩, 1)
  else if t = 9 then (⟨name, 9, ⟨3, 0, 0, P4.getD (fd l a (j + 1) 4).toNat [], false⟩, vzero, []⟩, 2)
  else if t = 10 then (⟨name, 10, vzero, vzero, valsV l a (j + 2) ((fd l a (j + 1) 4).toNat + 1)⟩, 2 + 2 * ((fd l a (j + 1) 4).toNat + 1))
  else if t = 8 then (⟨name, 8, valueV l a (j + 1), valueV l a (j + 3), []⟩, 5)
  else (⟨name, t, valueV l a (j + 1), vzero, []⟩, 3)
end Go.Ab
namespace Go.Proofs.Ytclpbfkbpcjejaa
open Go Go.Ab
set_option linter.unusedVariables false
set_option linter.unusedSimpArgs false
set_option linter.unnecessarySimpa false
set_option maxRecDepth 20000
noncomputable section
variable (fr : Fr) (st : St) (k : Kt)
def fi52 : FI := { body := codeOf Try.f52, ntmps := 17, results := [.tmp 4], pers := [0, 1, 4, 5], locals := [], pure := true, marks := [] }
theorem fi52_eq : gS.fn 52 = some fi52 := by kernel_rfl
theorem st52 (a0 a1 : V) : startFr fi52 [a0, a1] = { ps := [(0, .val a0), (1, .val a1), (4, .any), (5, .any)], ts := [], lc := [] } := rfl
def b52 : Code := mini (codeOf Try.f52)
def c52_6 : Code := .seq (codeN b52 37) .ret
def c52_5 : Code := .cond (.tmp 7) c52_6 .skip
def c52_3 : Code := .seq (codeN b52 9) c52_5
def c52_16 : Code := codeN b52 87
def c52_15 : Code := .cond (.tmp 12) c52_16 .skip
def c52_13 : Code := .seq (codeN b52 39) c52_15
def c52_18 : Code := .seq (codeN b52 47) .ret
def c52_12 : Code := .seq c52_13 c52_18
def c52_10 : Code := .seq (codeN b52 11) c52_12
def c52_2 : Code := .seq c52_3 c52_10
def c52_0 : Code := .seq (codeN b52 2) c52_2
theorem E52 : evK gS fi52 c52_6 fr st k = opsR gS fi52 [op1 4 (.assign (.const (.int .i64 0))) 3] fr st (.seq .ret k) ∧
 evK gS fi52 c52_5 fr st k = condK gS fi52 (fr.op (.tmp 7)).bool? c52_6 .skip fr st k ∧
 (evK gS fi52 c52_3 fr st k = opsR gS fi52 [mv 6 1 3,
 op1 7 (.binOp .lss 3 (.tmp 6) (.const (.int .i64 1)) 3) 4] fr st (.seq c52_5 k)) ∧
 (evK gS fi52 c52_16 fr st k = opsR gS fi52 [mv 13 5 3,
 mv 14 1 3,
 bop 15 .add 3 13 14 3 3,
 asn 5 15 3] fr st k) ∧
 evK gS fi52 c52_15 fr st k = condK gS fi52 (fr.op (.tmp 12)).bool? c52_16 .skip fr st k ∧
 (evK gS fi52 c52_13 fr st k = opsR gS fi52 [mv 11 5 3,
 op1 12 (.binOp .lss 3 (.tmp 11) (.const (.int .i64 0)) 3) 4] fr st (.seq c52_15 k)) ∧
 (evK gS fi52 c52_18 fr st k = opsR gS fi52 [mv 16 5 3,
 asn 4 16 3] fr st (.seq .ret k)) ∧
 evK gS fi52 c52_12 fr st k = evK gS fi52 c52_13 fr st (.seq c52_18 k) ∧
 (evK gS fi52 c52_10 fr st k = opsR gS fi52 [mv 8 0 3,
 mv 9 1 3,
 bop 10 .rem 3 8 9 3 3,
 asn 5 10 3] fr st (.seq c52_12 k)) ∧
 evK gS fi52 c52_2 fr st k = evK gS fi52 c52_3 fr st (.seq c52_10 k) ∧
 evK gS fi52 c52_0 fr st k = opsR gS fi52 [op1 4 (.assign (.const (.int .i64 0))) 3] fr st (.seq c52_2 k) := ⟨evK_rs 2 rfl (by kernel_rfl), rfl, evK_rs 1 rfl (by kernel_rfl), evK_r 5 (by kernel_rfl), rfl, evK_rs 4 rfl (by kernel_rfl), evK_rs 6 rfl (by kernel_rfl), rfl, evK_rs 3 rfl (by kernel_rfl), rfl, evK_rs 0 rfl (by kernel_rfl)⟩
theorem m52 : mini fi52.body = c52_0 := by kernel_rfl
set_option maxHeartbeats 4000000 in
theorem c52 (n : Int) (m : Int) (hm1 : m ≤ 4611686018427387904) (st : St) : EvF gS 52 [.int .i64 n, .int .i64 m] st = some (.ret (.int .i64 (pickI n m)) none, st) := by
  refine EvF_start fi52_eq (fun x h => by cases h) m52 ?_
  rw [st52]
  have hm : fi52.marks = [] := rfl
  have hl : fi52.locals = [] := rfl
  have hr : fi52.results = [.tmp 4] := rfl
  by_cases h1 : m < 1
  · simp [h1, pickI, -Int.not_le, -Int.not_lt, -Nat.not_le, -Nat.not_lt, ty3, ty4, hm, hl, hr, E52]
  · have h0 : ¬ m = 0 := by omega
    have hb := tmod_bound n (m := m) (by omega)
    by_cases h2 : n.tmod m < 0
    · have hw : IntKind.wrap .i64 (n.tmod m + m) = n.tmod m + m := wrap64 (by omega) (by omega)
      simp [h1, h0, h2, hw, pickI, -Int.not_le, -Int.not_lt, -Nat.not_le, -Nat.not_lt, ty3, ty4, hm, hl, hr, E52]
    · simp [h1, h0, h2, pickI, -Int.not_le, -Int.not_lt, -Nat.not_le, -Nat.not_lt, ty3, ty4, hm, hl, hr, E52]
theorem k52 (n : Int) (m : Int) (hm1 : m ≤ 4611686018427387904) (fr : Fr) (st : St) : callStep gS (EvF gS) 52 [.int .i64 n, .int .i64 m] fr st = some (.ok (retE none (.int .i64 (pickI n m))) fr st) :=
  call_pure rfl fi52_eq rfl (fun st => c52 n m hm1 st) (by simp)
theorem x52 : gS.ext 52 = none := rfl
theorem p52 : fi52.pure = true := rfl
def fi16 : FI := { body := codeOf Try.f16, ntmps := 61, results := [.tmp 4], pers := [0, 1, 4, 5], locals := [], pure := false, marks := [] }
theorem fi16_eq : gS.fn 16 = some fi16 := by kernel_rfl
theorem st16 (a0 a1 : V) : startFr fi16 [a0, a1] = { ps := [(0, .val a0), (1, .val a1), (4, .any), (5, .any)], ts := [], lc := [] } := rfl
def b16 : Code := mini (codeOf Try.f16)
def c16_6 : Code := .seq (codeN b16 37) .ret
def c16_5 : Code := .cond (.tmp 11) c16_6 .skip
def c16_3 : Code := .seq (codeN b16 9) c16_5
def r16_11 : Array Oper := regOps (codeN (codeOf Try.f16) 11)
def c16_11 : Code := .region 3 r16_11 true
def q16_11 : List (Oper × Fl) := [(mv 12 0 29, ⟨true, false, true, false, false, false, true, true, false, false, []⟩),
 (op1 13 (.nilCheck (.tmp 12)) 0, ⟨true, false, true, false, false, false, true, true, false, false, []⟩),
 (op1 14 (.fieldAddr 31 (.tmp 13) 0) 0, ⟨true, false, true, false, false, false, true, true, false, false, []⟩),
 (ld 15 28 14 28, ⟨true, false, true, false, false, false, true, true, false, false, []⟩),
 (mv 16 0 29, ⟨true, false, true, false, false, false, true, true, false, false, []⟩),
 (op1 17 (.nilCheck (.tmp 16)) 0, ⟨true, false, true, false, false, false, true, true, false, false, []⟩),
 (op1 18 (.fieldAddr 31 (.tmp 17) 1) 0, ⟨true, false, true, false, false, false, true, true, false, false, []⟩),
 (ld 19 3 18 3, ⟨true, false, true, false, false, false, true, true, false, false, []⟩),
 (mv 20 0 29, ⟨true, false, true, false, false, false, true, true, false, false, []⟩),
 (op1 21 (.nilCheck (.tmp 20)) 0, ⟨true, false, true, false, false, false, true, true, false, false, []⟩),
 (op1 22 (.fieldAddr 31 (.tmp 21) 0) 0, ⟨true, false, true, false, false, false, true, true, false, false, []⟩),
 (ld 23 28 22 28, ⟨true, false, true, false, false, false, true, true, false, false, []⟩),
 (len1 24 23 28 3, ⟨true, false, true, false, false, false, true, true, false, false, []⟩),
 (bop 25 .rem 3 19 24 3 3, ⟨true, false, true, false, false, false, true, true, false, false, []⟩),
 (ixa 26 28 15 25 0, ⟨true, false, true, false, false, false, true, true, false, false, []⟩),
 (ld 27 3 26 3, ⟨true, false, true, false, false, false, true, true, false, false, []⟩),
 (mv 28 0 29, ⟨true, false, true, false, false, false, true, true, false, false, []⟩),
 (op1 29 (.nilCheck (.tmp 28)) 0, ⟨true, false, true, false, false, false, true, true, false, false, []⟩),
 (op1 30 (.fieldAddr 31 (.tmp 29) 1) 0, ⟨true, false, true, false, false, false, true, true, false, false, []⟩),
 (ld 31 3 30 3, ⟨true, false, true, false, false, false, true, true, false, false, []⟩),
 (mv 32 0 29, ⟨true, false, true, false, false, false, true, true, false, false, []⟩),
 (op1 33 (.nilCheck (.tmp 32)) 0, ⟨true, false, true, false, false, false, true, true, false, false, []⟩),
 (op1 34 (.fieldAddr 31 (.tmp 33) 0) 0, ⟨true, false, true, false, false, false, true, true, false, false, []⟩),
 (ld 35 28 34 28, ⟨true, false, true, false, false, false, true, true, false, false, []⟩),
 (len1 36 35 28 3, ⟨true, false, true, false, false, false, true, true, false, false, []⟩),
 (bop 37 .quo 3 31 36 3 3, ⟨true, false, true, false, false, false, true, true, false, false, []⟩),
 (op1 38 (.binOp .add 3 (.const (.int .i64 1)) (.tmp 37) 3) 3, ⟨true, false, true, false, false, false, true, true, false, false, []⟩),
 (bop 39 .quo 3 27 38 3 3, ⟨true, false, true, false, false, false, true, true, false, false, []⟩),
 (mv 40 0 29, ⟨true, false, true, false, false, false, true, true, false, false, []⟩),
 (op1 41 (.nilCheck (.tmp 40)) 0, ⟨true, false, true, false, false, false, true, true, false, false, []⟩),
 (op1 42 (.fieldAddr 31 (.tmp 41) 1) 0, ⟨true, false, true, false, false, false, true, true, false, false, []⟩),
 (ld 43 3 42 3, ⟨true, false, true, false, false, false, true, true, false, false, []⟩),
 (mv 44 0 29, ⟨true, false, true, false, false, false, true, true, false, false, []⟩),
 (op1 45 (.nilCheck (.tmp 44)) 0, ⟨true, false, true, false, false, false, true, true, false, false, []⟩),
 (op1 46 (.fieldAddr 31 (.tmp 45) 0) 0, ⟨true, false, true, false, true, false, true, true, false, false, []⟩),
 (ld 47 28 46 28, ⟨true, false, true, false, true, false, true, true, false, false, []⟩),
 (len1 48 47 28 3, ⟨true, false, true, false, true, false, true, true, false, false, []⟩),
 (bop 49 .quo 3 43 48 3 3, ⟨true, false, true, false, true, false, true, true, false, false, []⟩),
 (bop 50 .add 3 39 49 3 3, ⟨true, false, true, false, true, false, true, true, false, false, []⟩),
 (asn 5 50 3, ⟨true, true, true, false, true, false, true, true, false, false, []⟩)]
def c16_14 : Code := .seq (codeN b16 47) .ret
def c16_12 : Code := .seq (codeN b16 23) c16_14
def c16_10 : Code := .seq c16_11 c16_12
def c16_2 : Code := .seq c16_3 c16_10
def c16_0 : Code := .seq (codeN b16 2) c16_2
theorem E16 : evK gS fi16 c16_6 fr st k = opsR gS fi16 [op1 4 (.assign (.const (.int .i64 0))) 3] fr st (.seq .ret k) ∧
 evK gS fi16 c16_5 fr st k = condK gS fi16 (fr.op (.tmp 11)).bool? c16_6 .skip fr st k ∧
 (evK gS fi16 c16_3 fr st k = opsR gS fi16 [mv 6 0 29,
 op1 7 (.nilCheck (.tmp 6)) 0,
 op1 8 (.fieldAddr 31 (.tmp 7) 0) 0,
 ld 9 28 8 28,
 len1 10 9 28 3,
 op1 11 (.binOp .eql 3 (.tmp 10) (.const (.int .i64 0)) 3) 4] fr st (.seq c16_5 k)) ∧
 evK gS fi16 c16_11 fr st k = drwR gS fi16 r16_11 q16_11 fr st k ∧
 (evK gS fi16 c16_14 fr st k = opsR gS fi16 [mv 58 5 3,
 mv 59 1 3,
 cal 60 52 [(.tmp 58), (.tmp 59)] [3, 3] 3,
 asn 4 60 3] fr st (.seq .ret k)) ∧
 (evK gS fi16 c16_12 fr st k = opsR gS fi16 [mv 51 0 29,
 op1 52 (.nilCheck (.tmp 51)) 0,
 op1 53 (.fieldAddr 31 (.tmp 52) 1) 0,
 ld 54 3 53 3,
 op1 55 (.binOp .add 3 (.tmp 54) (.const (.int .i64 1)) 3) 3,
 op1 56 (.nilCheck (.tmp 51)) 0,
 op1 57 (.fieldAddr 31 (.tmp 56) 1) 0,
 sto 3 57 55] fr st (.seq c16_14 k)) ∧
 evK gS fi16 c16_10 fr st k = evK gS fi16 c16_11 fr st (.seq c16_12 k) ∧
 evK gS fi16 c16_2 fr st k = evK gS fi16 c16_3 fr st (.seq c16_10 k) ∧
 evK gS fi16 c16_0 fr st k = opsR gS fi16 [op1 4 (.assign (.const (.int .i64 0))) 3] fr st (.seq c16_2 k) := ⟨evK_rs 2 rfl (by kernel_rfl), rfl, evK_rs 1 rfl (by kernel_rfl), evK_dr 3 rfl (by kernel_rfl) (by kernel_rfl), evK_rs 5 rfl (by kernel_rfl), evK_rs 4 rfl (by kernel_rfl), rfl, rfl, evK_rs 0 rfl (by kernel_rfl)⟩
theorem m16 : mini fi16.body = c16_0 := by kernel_rfl
set_option maxHeartbeats 8000000 in
theorem c16 (l : List Int) (a id : Nat) (n : Int) (st : St) (h : FeedAt st id l a) (ha : a < 1099511627776) (hn : n ≤ 4611686018427387904) :
    EvF gS 16 [.ptr id 0, .int .i64 n] st = some (.ret (.int .i64 (nextV l a n)) none, setF st id l (nextA l a)) := by
  refine EvF_start fi16_eq (fun x h => by cases h) m16 ?_
  rw [st16]
  have hm : fi16.marks = [] := rfl
  have hl : fi16.locals = [] := rfl
  have hr : fi16.results = [.tmp 4] := rfl
  have ho := h.1
  have hwp : ¬ id < st.wp := by have := h.2; omega
  have hwp2 : st.wp ≤ id := h.2
  have hid := h.lt
  by_cases hne : l = []
  · subst hne
    have hs : setF st id [] a = st := setF_same h
    simp [nextV, nextA, hs, ho, -Int.not_le, -Int.not_lt, -Nat.not_le, -Nat.not_lt, ty3, ty4, ty28, ty29, ty31, hm, hl, hr, k52, x52, fi52_eq, p52, E16, q16_11]
  · have hlen : 0 < l.length := by cases l with | nil => exact (hne rfl).elim | cons _ _ => simp
    have e0 : ¬ (l.length : Int) = 0 := by omega
    have e1 : ((a : Nat) : Int).tmod (l.length : Int) = ((a % l.length : Nat) : Int) := by rw [Int.tmod_eq_emod_of_nonneg (by omega)]; omega
    have e2 : ((a : Nat) : Int).tdiv (l.length : Int) = ((a / l.length : Nat) : Int) := by rw [Int.tdiv_eq_ediv_of_nonneg (by omega)]; omega
    have e3 := Nat.mod_lt a hlen
    have e4 : a / l.length ≤ a := Nat.div_le_self _ _
    have hx : l[a % l.length]? = some (l.getD (a % l.length) 0) := by
      rw [List.getElem?_eq_getElem e3, List.getD_eq_getElem?_getD, List.getElem?_eq_getElem e3]; rfl
    have ea : IntKind.wrap .i64 ((a : Int) + 1) = (a : Int) + 1 := wrap64 (by omega) (by omega)
    have hxe : l[a % l.length]'e3 = l.getD (a % l.length) 0 := by rw [List.getElem?_eq_getElem e3] at hx; exact Option.some.inj hx
    simp only [nextV, nextA, hne, if_false, rawAt]
    generalize l.getD (a % l.length) 0 = x at *
    generalize a % l.length = rr at *
    generalize a / l.length = qq at *
    have e5 : IntKind.wrap .i64 (qq : Int) = (qq : Int) := wrap64 (by omega) (by omega)
    have e6 : IntKind.wrap .i64 (1 + (qq : Int)) = 1 + (qq : Int) := wrap64 (by omega) (by omega)
    have e7 : ¬ (1 + (qq : Int)) = 0 := by omega
    simp [-Int.natCast_emod, -Int.natCast_ediv, setF, ho, hne, e0, e1, e2, e3, e5, e6, e7, hx, hxe, ea, hn, hwp, hwp2, -Int.not_le, -Int.not_lt, -Nat.not_le, -Nat.not_lt, ty3, ty4, ty28, ty29, ty31, hm, hl, hr, k52, x52, fi52_eq, p52, E16, q16_11]
theorem k16 (l : List Int) (a j id : Nat) (n : Int) (fr : Fr) (st : St) (h : FeedOk st id) (ha : a < 549755813888) (hj : j < 549755813888) (hn : n ≤ 4611686018427387904) :
    callStep gS (EvF gS) 16 [.ptr id 0, .int .i64 n] fr (setF st id l (nA l a j)) = some (.ok (.val (.int .i64 (fd l a j n))) (fr.map E.noMem) (setF st id l (nA l a (j + 1)))) := by
  have hc := c16 l (nA l a j) id n (setF st id l (nA l a j)) (feed_at h l _) (by have := nA_le l a j; omega) hn
  rw [setF_setF, nA_next] at hc
  unfold callStep
  simp only [show gS.ext 16 = none from rfl, fi16_eq, show fi16.pure = false from rfl, Bool.false_eq_true, if_false, hc, retE]
  rfl
end
end Go.Proofs.Ytclpbfkbpcjejaa
namespace Go.Proofs.Ytclpbfkbpcjejaa
open Go Go.Ab
set_option linter.unusedVariables false
set_option linter.unusedSimpArgs false
set_option linter.unnecessarySimpa false
set_option maxRecDepth 20000
noncomputable section
variable (fr : Fr) (st : St) (k : Kt)
theorem kCopy (fr : Fr) (st : St) : callStep gS (EvF gS) 100 [.float .f64 0, .float .f64 13830554455654793216] fr st = some (.ok (.val (.float .f64 9223372036854775808)) fr st) := by
  have hc : EvF gS 100 [.float .f64 0, .float .f64 13830554455654793216] ⟨[], 0⟩ = some (.ret (.float .f64 9223372036854775808) none, ⟨[], 0⟩) := Evn.lim ⟨12, fun n hn => by
    obtain ⟨m, rfl⟩ : ∃ m, n = m + 12 := ⟨n - 12, by omega⟩
    kernel_rfl⟩
  obtain ⟨fi, hf, hp⟩ : ∃ fi, gS.fn 100 = some fi ∧ fi.pure = true := by
    refine ⟨(gS.fn 100).getD ⟨.skip, 0, [], [], [], false, []⟩, by kernel_rfl, by kernel_rfl⟩
  unfold callStep
  simp only [show gS.ext 100 = none from rfl, hf, hp, if_true, show flats [.float .f64 0, .float .f64 13830554455654793216] = true from by simp, hc, show V.flat (.float .f64 9223372036854775808) = true from rfl]
  rfl
theorem kNaN (fr : Fr) (st : St) : callStep gS (EvF gS) 101 [] fr st = some (.ok (.val (.float .f64 9221120237041090561)) fr st) := by
  have hc : EvF gS 101 [] ⟨[], 0⟩ = some (.ret (.float .f64 9221120237041090561) none, ⟨[], 0⟩) := Evn.lim ⟨12, fun n hn => by
    obtain ⟨m, rfl⟩ : ∃ m, n = m + 12 := ⟨n - 12, by omega⟩
    kernel_rfl⟩
  obtain ⟨fi, hf, hp⟩ : ∃ fi, gS.fn 101 = some fi ∧ fi.pure = true := by
    refine ⟨(gS.fn 101).getD ⟨.skip, 0, [], [], [], false, []⟩, by kernel_rfl, by kernel_rfl⟩
  unfold callStep
  simp only [show gS.ext 101 = none from rfl, hf, hp, if_true, show flats [] = true from by simp, hc, show V.flat (.float .f64 9221120237041090561) = true from rfl]
  rfl
theorem kInf (fr : Fr) (st : St) : callStep gS (EvF gS) 102 [.int .i64 1] fr st = some (.ok (.val (.float .f64 9218868437227405312)) fr st) := by
  have hc : EvF gS 102 [.int .i64 1] ⟨[], 0⟩ = some (.ret (.float .f64 9218868437227405312) none, ⟨[], 0⟩) := Evn.lim ⟨12, fun n hn => by
    obtain ⟨m, rfl⟩ : ∃ m, n = m + 12 := ⟨n - 12, by omega⟩
    kernel_rfl⟩
  obtain ⟨fi, hf, hp⟩ : ∃ fi, gS.fn 102 = some fi ∧ fi.pure = true := by
    refine ⟨(gS.fn 102).getD ⟨.skip, 0, [], [], [], false, []⟩, by kernel_rfl, by kernel_rfl⟩
  unfold callStep
  simp only [show gS.ext 102 = none from rfl, hf, hp, if_true, show flats [.int .i64 1] = true from by simp, hc, show V.flat (.float .f64 9218868437227405312) = true from rfl]
  rfl
theorem kInf2 (fr : Fr) (st : St) : callStep gS (EvF gS) 102 [.int .i64 (-1)] fr st = some (.ok (.val (.float .f64 18442240474082181120)) fr st) := by
  have hc : EvF gS 102 [.int .i64 (-1)] ⟨[], 0⟩ = some (.ret (.float .f64 18442240474082181120) none, ⟨[], 0⟩) := Evn.lim ⟨12, fun n hn => by
    obtain ⟨m, rfl⟩ : ∃ m, n = m + 12 := ⟨n - 12, by omega⟩
    kernel_rfl⟩
  obtain ⟨fi, hf, hp⟩ : ∃ fi, gS.fn 102 = some fi ∧ fi.pure = true := by
    refine ⟨(gS.fn 102).getD ⟨.skip, 0, [], [], [], false, []⟩, by kernel_rfl, by kernel_rfl⟩
  unfold callStep
  simp only [show gS.ext 102 = none from rfl, hf, hp, if_true, show flats [.int .i64 (-1)] = true from by simp, hc, show V.flat (.float .f64 18442240474082181120) = true from rfl]
  rfl
def fi66 : FI := { body := codeOf Try.f66, ntmps := 13, results := [.tmp 2], pers := [0, 2, 3], locals := [3], pure := false, marks := [] }
theorem fi66_eq : gS.fn 66 = some fi66 := by kernel_rfl
theorem st66 (a0 : V) : startFr fi66 [a0] = { ps := [(0, .val a0), (2, .any), (3, .any)], ts := [], lc := [] } := rfl
def b66 : Code := mini (codeOf Try.f66)
def c66_4 : Code := .seq (codeN b66 11) .ret
theorem e66_4 : evK gS fi66 c66_4 fr st k = opsR gS fi66 [mv 9 0 29,
 cal 10 16 [(.tmp 9), (.const (.int .i64 14))] [29, 3] 3,
 ixa 11 117 3 10 0,
 ld 12 22 11 22,
 asn 2 12 22] fr st (.seq .ret k) := evK_rs 2 rfl (by kernel_rfl)
def c66_2 : Code := .seq (codeN b66 5) c66_4
theorem e66_2 : evK gS fi66 c66_2 fr st k = opsR gS fi66 [cal 4 100 [(.const (.float .f64 0)), (.const (.float .f64 13830554455654793216))] [22, 22] 22,
 cal 5 101 [] [] 22,
 cal 6 102 [(.const (.int .i64 1))] [3] 22,
 cal 7 102 [(.const (.int .i64 (-1)))] [3] 22,
 op1 8 (.build 117 #[(0, (.const (.float .f64 0))), (1, (.tmp 4)), (2, (.const (.float .f64 4607182418800017408))), (3, (.const (.float .f64 4609434218613702656))), (4, (.const (.float .f64 4611686018427387904))), (5, (.const (.float .f64 4613937818241073152))), (6, (.const (.float .f64 13830554455654793216))), (7, (.const (.float .f64 4591870180066957722))), (8, (.tmp 5)), (9, (.tmp 6)), (10, (.tmp 7)), (11, (.const (.float .f64 4845873199050653696))), (12, (.const (.float .f64 4890909195324358656))), (13, (.const (.float .f64 1)))]) 117,
 op1 3 (.alloc 117) 0,
 sto 117 3 8] fr st (.seq c66_4 k) := evK_rs 1 rfl (by kernel_rfl)
def c66_0 : Code := .seq (codeN b66 2) c66_2
theorem e66_0 : evK gS fi66 c66_0 fr st k = opsR gS fi66 [op1 2 (.assign (.const (.float .f64 0))) 22] fr st (.seq c66_2 k) := evK_rs 0 rfl (by kernel_rfl)
theorem m66 : mini fi66.body = c66_0 := by kernel_rfl
set_option maxHeartbeats 8000000 in
theorem c66 (l : List Int) (a j id : Nat) (st : St) (h : FeedOk st id) (ha : a < 549755813888) (hj : j < 549755813888) :
    EvF gS 66 [.ptr id 0] (setF st id l (nA l a j)) = some (.ret (.float .f64 (floatV l a j)) none, setF st id l (nA l a (j + 1))) := by
  refine EvF_start fi66_eq (fun x h => by cases h) m66 ?_
  rw [st66]
  have hm : fi66.marks = [] := rfl
  have hl : fi66.locals = [3] := rfl
  have hr : fi66.results = [.tmp 2] := rfl
  have hb := fd_bound l a j (n := 14) (by omega)
  unfold floatV
  have hk := fun fr => k16 l a j id 14 fr st h ha hj (by omega)
  generalize fd l a j 14 = z at *
  have hz : z = 0 ∨ z = 1 ∨ z = 2 ∨ z = 3 ∨ z = 4 ∨ z = 5 ∨ z = 6 ∨ z = 7 ∨ z = 8 ∨ z = 9 ∨ z = 10 ∨ z = 11 ∨ z = 12 ∨ z = 13 := by omega
  rcases hz with rfl | rfl | rfl | rfl | rfl | rfl | rfl | rfl | rfl | rfl | rfl | rfl | rfl | rfl <;>
    simp [F14, hk, -Int.not_le, -Int.not_lt, -Nat.not_le, -Nat.not_lt, ty3, ty22, ty29, ty117, hm, hl, hr, kCopy, kNaN, kInf, kInf2, e66_4, e66_2, e66_0]
theorem k66 (l : List Int) (a j id : Nat) (fr : Fr) (st : St) (h : FeedOk st id) (ha : a < 549755813888) (hj : j < 549755813000) :
    callStep gS (EvF gS) 66 [.ptr id 0] fr (setF st id l (nA l a j)) = some (.ok (.val (.float .f64 (floatV l a j))) (fr.map E.noMem) (setF st id l (nA l a (j + 1)))) := by
  unfold callStep
  simp only [show gS.ext 66 = none from rfl, fi66_eq, show fi66.pure = false from rfl, Bool.false_eq_true, if_false, c66 l a j id st h ha (by omega), retE]
  all_goals rfl
def fi17 : FI := { body := codeOf Try.f17, ntmps := 38, results := [.cell 2 24], pers := [0, 2, 3, 4, 6, 7], locals := [2, 3, 4], pure := false, marks := [] }
theorem fi17_eq : gS.fn 17 = some fi17 := by kernel_rfl
theorem st17 (a0 : V) : startFr fi17 [a0] = { ps := [(0, .val a0), (2, .any), (3, .any), (4, .any), (6, .any), (7, .any)], ts := [], lc := [] } := rfl
def b17 : Code := mini (codeOf Try.f17)
def c17_11 : Code := codeN b17 229
def c17_9 : Code := .cond (.tmp 7) .skip c17_11
def c17_7 : Code := .seq (codeN b17 69) c17_9
def c17_13 : Code := .seq (codeN b17 149) .ret
def c17_21 : Code := .seq (codeN b17 1397) .ret
def c17_19 : Code := .seq (codeN b17 629) c17_21
def c17_27 : Code := .seq (codeN b17 2549) .ret
def c17_35 : Code := .seq (codeN b17 22517) .ret
def c17_33 : Code := .seq (codeN b17 10229) c17_35
def c17_32 : Code := .cond (.tmp 27) c17_33 .skip
def c17_30 : Code := .seq (codeN b17 3061) c17_32
def c17_26 : Code := .cond (.tmp 21) c17_27 c17_30
def c17_24 : Code := .seq (codeN b17 757) c17_26
def c17_18 : Code := .cond (.tmp 13) c17_19 c17_24
def c17_16 : Code := .seq (codeN b17 181) c17_18
def c17_12 : Code := .cond (.tmp 7) c17_13 c17_16
def c17_6 : Code := .seq c17_7 c17_12
def c17_5 : Code := .block 0 c17_6
def c17_3 : Code := .seq (codeN b17 9) c17_5
def c17_39 : Code := .seq (codeN b17 11) .ret
def c17_2 : Code := .seq c17_3 c17_39
def c17_0 : Code := .seq (codeN b17 2) c17_2
theorem E17 : (evK gS fi17 c17_11 fr st k = opsR gS fi17 [op1 9 (.binOp .eql 3 (.tmp 6) (.const (.int .i64 1)) 3) 4,
 asn 7 9 4] fr st k) ∧
 evK gS fi17 c17_9 fr st k = condK gS fi17 (fr.op (.tmp 7)).bool? .skip c17_11 fr st k ∧
 (evK gS fi17 c17_7 fr st k = opsR gS fi17 [op1 8 (.binOp .eql 3 (.tmp 6) (.const (.int .i64 0)) 3) 4,
 asn 7 8 4] fr st (.seq c17_9 k)) ∧
 (evK gS fi17 c17_13 fr st k = opsR gS fi17 [mv 10 0 29,
 cal 11 66 [(.tmp 10)] [29] 22,
 op1 12 (.build 24 #[(0, (.const (.int .i64 2))), (2, (.tmp 11))]) 24,
 sto 24 2 12] fr st (.seq .ret k)) ∧
 (evK gS fi17 c17_21 fr st k = opsR gS fi17 [mv 16 0 29,
 cal 17 16 [(.tmp 16), (.const (.int .i64 6))] [29, 3] 3,
 ixa 18 89 3 17 0,
 ld 19 9 18 9,
 op1 20 (.build 24 #[(0, (.const (.int .i64 3))), (3, (.tmp 19))]) 24,
 sto 24 2 20] fr st (.seq .ret k)) ∧
 (evK gS fi17 c17_19 fr st k = opsR gS fi17 [op1 15 (.build 89 #[(0, (.const (.string { data := #[] }))), (1, (.const (.string { data := #[97] }))), (2, (.const (.string { data := #[97, 98] }))), (3, (.const (.string { data := #[98] }))), (4, (.const (.string { data := #[98, 97] }))), (5, (.const (.string { data := #[116, 119, 101, 108, 118, 101, 32, 98, 121, 116, 101, 115] })))]) 89,
 op1 3 (.alloc 89) 0,
 sto 89 3 15] fr st (.seq c17_21 k)) ∧
 (evK gS fi17 c17_27 fr st k = opsR gS fi17 [mv 23 0 29,
 cal 24 16 [(.tmp 23), (.const (.int .i64 2))] [29, 3] 3,
 op1 25 (.binOp .eql 3 (.tmp 24) (.const (.int .i64 1)) 3) 4,
 op1 26 (.build 24 #[(0, (.const (.int .i64 4))), (4, (.tmp 25))]) 24,
 sto 24 2 26] fr st (.seq .ret k)) ∧
 (evK gS fi17 c17_35 fr st k = opsR gS fi17 [mv 30 0 29,
 cal 31 16 [(.tmp 30), (.const (.int .i64 6))] [29, 3] 3,
 ixa 32 90 4 31 0,
 ld 33 2 32 2,
 op1 34 (.build 24 #[(0, (.const (.int .i64 1))), (1, (.tmp 33))]) 24,
 sto 24 2 34] fr st (.seq .ret k)) ∧
 (evK gS fi17 c17_33 fr st k = opsR gS fi17 [op1 29 (.build 90 #[(0, (.const (.int .i64 (-9223372036854775808)))), (1, (.const (.int .i64 9223372036854775807))), (2, (.const (.int .i64 9007199254740992))), (3, (.const (.int .i64 9007199254740993))), (4, (.const (.int .i64 (-1)))), (5, (.const (.int .i64 4611686018427387904)))]) 90,
 op1 4 (.alloc 90) 0,
 sto 90 4 29] fr st (.seq c17_35 k)) ∧
 evK gS fi17 c17_32 fr st k = condK gS fi17 (fr.op (.tmp 27)).bool? c17_33 .skip fr st k ∧
 (evK gS fi17 c17_30 fr st k = opsR gS fi17 [op1 28 (.binOp .eql 3 (.tmp 6) (.const (.int .i64 4)) 3) 4,
 asn 27 28 4] fr st (.seq c17_32 k)) ∧
 evK gS fi17 c17_26 fr st k = condK gS fi17 (fr.op (.tmp 21)).bool? c17_27 c17_30 fr st k ∧
 (evK gS fi17 c17_24 fr st k = opsR gS fi17 [op1 22 (.binOp .eql 3 (.tmp 6) (.const (.int .i64 3)) 3) 4,
 asn 21 22 4] fr st (.seq c17_26 k)) ∧
 evK gS fi17 c17_18 fr st k = condK gS fi17 (fr.op (.tmp 13)).bool? c17_19 c17_24 fr st k ∧
 (evK gS fi17 c17_16 fr st k = opsR gS fi17 [op1 14 (.binOp .eql 3 (.tmp 6) (.const (.int .i64 2)) 3) 4,
 asn 13 14 4] fr st (.seq c17_18 k)) ∧
 evK gS fi17 c17_12 fr st k = condK gS fi17 (fr.op (.tmp 7)).bool? c17_13 c17_16 fr st k ∧
 evK gS fi17 c17_6 fr st k = evK gS fi17 c17_7 fr st (.seq c17_12 k) ∧
 evK gS fi17 c17_5 fr st k = evK gS fi17 c17_6 fr st (.blk 0 k) ∧
 (evK gS fi17 c17_3 fr st k = opsR gS fi17 [mv 5 0 29,
 cal 6 16 [(.tmp 5), (.const (.int .i64 8))] [29, 3] 3] fr st (.seq c17_5 k)) ∧
 (evK gS fi17 c17_39 fr st k = opsR gS fi17 [mv 35 0 29,
 cal 36 16 [(.tmp 35), (.const (.int .i64 5))] [29, 3] 3,
 op1 37 (.build 24 #[(0, (.const (.int .i64 1))), (1, (.tmp 36))]) 24,
 sto 24 2 37] fr st (.seq .ret k)) ∧
 evK gS fi17 c17_2 fr st k = evK gS fi17 c17_3 fr st (.seq c17_39 k) ∧
 evK gS fi17 c17_0 fr st k = opsR gS fi17 [op1 2 (.alloc 24) 0] fr st (.seq c17_2 k) := ⟨evK_r 3 (by kernel_rfl), rfl, evK_rs 2 rfl (by kernel_rfl), evK_rs 4 rfl (by kernel_rfl), evK_rs 7 rfl (by kernel_rfl), evK_rs 6 rfl (by kernel_rfl), evK_rs 9 rfl (by kernel_rfl), evK_rs 12 rfl (by kernel_rfl), evK_rs 11 rfl (by kernel_rfl), rfl, evK_rs 10 rfl (by kernel_rfl), rfl, evK_rs 8 rfl (by kernel_rfl), rfl, evK_rs 5 rfl (by kernel_rfl), rfl, rfl, rfl, evK_rs 1 rfl (by kernel_rfl), evK_rs 13 rfl (by kernel_rfl), rfl, evK_rs 0 rfl (by kernel_rfl)⟩
theorem m17 : mini fi17.body = c17_0 := by kernel_rfl
set_option maxHeartbeats 8000000 in
theorem c17 (l : List Int) (a j id : Nat) (st : St) (h : FeedOk st id) (ha : a < 549755813888) (hj : j < 549755812000) :
    EvF gS 17 [.ptr id 0] (setF st id l (nA l a j)) = some (.ret (valueV l a j).enc none, setF st id l (nA l a (j + 2))) := by
  refine EvF_start fi17_eq (fun x h => by cases h) m17 ?_
  rw [st17]
  have hm : fi17.marks = [] := rfl
  have hl : fi17.locals = [2, 3, 4] := rfl
  have hr : fi17.results = [.cell 2 24] := rfl
  have hb := fd_bound l a j (n := 8) (by omega)
  have hb6 := fd_bound l a (j + 1) (n := 6) (by omega)
  unfold valueV
  have hk := fun fr => k16 l a j id 8 fr st h ha (by omega) (by omega)
  have hk6 := fun fr => k16 l a (j + 1) id 6 fr st h ha (by omega) (by omega)
  have hk2 := fun fr => k16 l a (j + 1) id 2 fr st h ha (by omega) (by omega)
  have hk5 := fun fr => k16 l a (j + 1) id 5 fr st h ha (by omega) (by omega)
  have hf1 := fun fr => k66 l a (j + 1) id fr st h ha (by omega)
  generalize fd l a j 8 = z at *
  generalize fd l a (j + 1) 6 = y at *
  have hz : z = 0 ∨ z = 1 ∨ z = 2 ∨ z = 3 ∨ z = 4 ∨ z = 5 ∨ z = 6 ∨ z = 7 := by omega
  have hy : y = 0 ∨ y = 1 ∨ y = 2 ∨ y = 3 ∨ y = 4 ∨ y = 5 := by omega
  rcases hz with rfl | rfl | rfl | rfl | rfl | rfl | rfl | rfl
  case inr.inr.inl => rcases hy with rfl | rfl | rfl | rfl | rfl | rfl <;> simp [T6, hk, hk6, hk2, hk5, hf1, -Int.not_le, -Int.not_lt, -Nat.not_le, -Nat.not_lt, ty2, ty3, ty4, ty9, ty22, ty24, ty29, ty89, ty90, eq24, hm, hl, hr, E17]
  case inr.inr.inr.inr.inl => rcases hy with rfl | rfl | rfl | rfl | rfl | rfl <;> simp [N6, hk, hk6, hk2, hk5, hf1, -Int.not_le, -Int.not_lt, -Nat.not_le, -Nat.not_lt, ty2, ty3, ty4, ty9, ty22, ty24, ty29, ty89, ty90, eq24, hm, hl, hr, E17]
  all_goals simp [hk, hk6, hk2, hk5, hf1, -Int.not_le, -Int.not_lt, -Nat.not_le, -Nat.not_lt, ty2, ty3, ty4, ty9, ty22, ty24, ty29, ty89, ty90, eq24, hm, hl, hr, E17]
end
end Go.Proofs.Ytclpbfkbpcjejaa
