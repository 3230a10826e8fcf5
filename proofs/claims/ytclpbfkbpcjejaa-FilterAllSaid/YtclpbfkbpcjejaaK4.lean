/- FilterAll: whatever it is given, the call returns true and leaves what was there as it was; no condition. Part 4. -/
import Derived.Test.YtclpbfkbpcjejaaK3
namespace Go.Ab
open Go
set_option linter.unusedVariables false
set_option linter.unusedSimpArgs false
set_option linter.unnecessarySimpa false
def flt (x y : Nat) : Bool := FloatKind.f64.format.order x y == some .lt
def fle (x y : Nat) : Bool := FloatKind.f64.format.order x y == some .lt || FloatKind.f64.format.order x y == some .eq
def fgt (x y : Nat) : Bool := FloatKind.f64.format.order x y == some .gt
def fge (x y : Nat) : Bool := FloatKind.f64.format.order x y == some .gt || FloatKind.f64.format.order x y == some .eq
def feq (x y : Nat) : Bool := FloatKind.f64.format.order x y == some .eq
theorem fb_lss (x y : Nat) : floatBin .lss .f64 x y = some (.bool (flt x y)) := rfl
theorem fb_leq (x y : Nat) : floatBin .leq .f64 x y = some (.bool (fle x y)) := rfl
theorem fb_gtr (x y : Nat) : floatBin .gtr .f64 x y = some (.bool (fgt x y)) := rfl
theorem fb_geq (x y : Nat) : floatBin .geq .f64 x y = some (.bool (fge x y)) := rfl
theorem fb_eql (x y : Nat) : floatBin .eql .f64 x y = some (.bool (feq x y)) := rfl
theorem fb_neq (x y : Nat) : floatBin .neq .f64 x y = some (.bool (!feq x y)) := rfl
theorem fs_eq (x y : Nat) : Op.floatEq .f64 x y = feq x y := rfl
attribute [simp] fb_lss fb_leq fb_gtr fb_geq fb_eql fb_neq fs_eq
def fbits (b : Nat) : Int := if feq b b then (if feq b 0 then 0 else b) else 9221120237041090560
def sgn (below above : Bool) : Int := if below then -1 else if above then 1 else 0
/-- The whole part; as a number. -/
def ftr (x : Nat) : Nat := (truncV x).getD 0
def ftz (x : Nat) : Int := ((FloatKind.f64.decode (ftr x)).toInt .zero).getD 0
def icmp (n : Int) (x : Nat) : Int × Bool :=
  if feq x x then
    if fge x 4890909195324358656 then (-1, true)
    else if flt x 14114281232179134464 then (1, true)
    else if ftz x = n then (sgn (flt (ftr x) x) (fgt (ftr x) x), true)
    else (sgn (n < ftz x) (n > ftz x), true)
  else (0, false)
def fcmp (a b : Nat) : Int × Bool := if feq a a && feq b b then (sgn (flt a b) (fgt a b), true) else (0, false)
def scmp (a b : List UInt8) : Int := sgn (Op.bytesLess a b) (!(Op.bytesLess a b || a == b))
def cmp (a b : Val) : Int × Bool :=
  if a.kind = 1 ∧ b.kind = 1 then (sgn (a.n < b.n) (a.n > b.n), true)
  else if a.kind = 2 ∧ b.kind = 2 then fcmp a.x b.x
  else if a.kind = 1 ∧ b.kind = 2 then icmp a.n b.x
  else if a.kind = 2 ∧ b.kind = 1 then (-(icmp b.n a.x).1, (icmp b.n a.x).2)
  else if a.kind = 3 ∧ b.kind = 3 then (scmp a.s b.s, true)
  else if a.kind = 4 ∧ b.kind = 4 then (sgn (!a.b && b.b) (a.b && !b.b), true)
  else (0, false)
def vis (a b : Val) : Bool := (cmp a b).2 && decide ((cmp a b).1 = 0)
def vright (v : Val) : Bool :=
  if v.kind = 1 then feq v.x 0 && v.s = [] && !v.b
  else if v.kind = 2 then v.n = 0 && v.s = [] && !v.b
  else if v.kind = 3 then v.n = 0 && feq v.x 0 && !v.b && v.s.length ≤ 12
  else if v.kind = 4 then v.n = 0 && feq v.x 0 && v.s = []
  else false
def vsame (a b : Val) : Bool := a.kind = b.kind && a.n = b.n && a.s = b.s && a.b = b.b && fbits a.x = fbits b.x
def vzero : Val := ⟨0, 0, 0, [], false⟩
def isWord (s : List UInt8) : Bool := s.all (fun c => !decide (c.toNat < 97) && !decide (122 < c.toNat)) && (decide (1 ≤ s.length) && decide (s.length ≤ 6))
def pright (p : Pred) : Bool :=
  if isWord p.name then
    if p.test = 1 then vsame p.v vzero && vsame p.w vzero && p.set.length = 0
    else if 2 ≤ p.test ∧ p.test ≤ 7 then vright p.v && vsame p.w vzero && p.set.length = 0
    else if p.test = 8 then vright p.v && vright p.w && p.set.length = 0
    else if p.test = 9 then vright p.v && p.v.kind = 3 && vsame p.w vzero && p.set.length = 0
    else if p.test = 10 then vsame p.v vzero && vsame p.w vzero && 1 ≤ p.set.length && p.set.length ≤ 4 && p.set.all vright
    else false
  else false
def sames : List Val → List Val → Bool
  | [], [] => true
  | a :: r, b :: s => vsame a b && sames r s
  | _, _ => false
def psame (a b : Pred) : Bool := a.name = b.name && a.test = b.test && vsame a.v b.v && vsame a.w b.w && sames a.set b.set
def isPre (s t : List UInt8) : Bool := t.length ≤ s.length && s.take t.length = t
def ptakes (p : Pred) (v : Val) : Bool :=
  if pright p then
    let c := cmp v p.v
    if p.test = 1 then true
    else if p.test = 2 then c.2 && c.1 = 0
    else if p.test = 3 then !(c.2 && c.1 = 0)
    else if p.test = 4 then c.2 && c.1 < 0
    else if p.test = 5 then c.2 && c.1 ≤ 0
    else if p.test = 6 then c.2 && c.1 > 0
    else if p.test = 7 then c.2 && c.1 ≥ 0
    else if p.test = 8 then c.2 && c.1 ≥ 0 && (cmp v p.w).2 && (cmp v p.w).1 ≤ 0
    else if p.test = 9 then v.kind = 3 && isPre v.s p.v.s
    else p.set.any (vis v)
  else false
def vnan (v : Val) : Bool := v.kind = 2 && !feq v.x v.x
def pvoid (p : Pred) : Bool :=
  if pright p then
    if p.test = 2 ∨ (4 ≤ p.test ∧ p.test ≤ 7) then vnan p.v
    else if p.test = 8 then !(cmp p.v p.w).2 || (cmp p.v p.w).1 > 0
    else if p.test = 10 then p.set.all vnan
    else false
  else false
/-- Where a test ends. -/
structure PEnd where
  is : Bool
  op : Bool
  v : Val
def PEnd.encP (e : PEnd) : V := .agg [.bool e.is, .bool e.op, .int .i64 e.v.kind, .int .i64 e.v.n, .float .f64 e.v.x, .str e.v.s, .bool e.v.b]
def PEnd.encR (e : PEnd) : V := .agg [.int .i64 e.v.kind, .int .i64 e.v.n, .float .f64 e.v.x, .str e.v.s, .bool e.v.b, .bool e.is, .bool e.op]
theorem PEnd.eta (e : PEnd) : (⟨e.is, e.op, e.v⟩ : PEnd) = e := rfl
attribute [simp] PEnd.encP PEnd.encR PEnd.eta
def lowE (p : Pred) : PEnd := if p.test = 6 ∨ p.test = 7 then ⟨true, p.test = 6, p.v⟩ else if p.test = 8 then ⟨true, false, p.v⟩ else ⟨false, false, vzero⟩
def highE (p : Pred) : PEnd := if p.test = 4 ∨ p.test = 5 then ⟨true, p.test = 4, p.v⟩ else if p.test = 8 then ⟨true, false, p.w⟩ else ⟨false, false, vzero⟩
/-- Does an end lie within another one? -/
def within (q p : PEnd) (side : Int) : Bool :=
  if p.is then if q.is then (cmp q.v p.v).2 && (decide ((cmp q.v p.v).1 = side) || (decide ((cmp q.v p.v).1 = 0) && (!p.op || q.op))) else false else true
def pimplies (q p : Pred) : Bool :=
  if pright q && pright p then
    if pvoid q || p.test = 1 then true
    else if q.test = p.test && (vsame q.v p.v && vsame q.w p.w && sames q.set p.set) then true
    else if p.test = 3 then !ptakes q p.v
    else if q.test = 2 then ptakes p q.v
    else if q.test = 10 then q.set.all (fun v => vnan v || ptakes p v)
    else if ((lowE q).is || (highE q).is) && ((lowE p).is || (highE p).is) then
      within (lowE q) (lowE p) 1 && within (highE q) (highE p) (-1)
    else if q.test = 9 then
      if p.test = 9 then isPre q.v.s p.v.s
      else if p.test = 7 then (cmp q.v p.v).2 && (cmp q.v p.v).1 ≥ 0
      else if p.test = 6 then (cmp q.v p.v).2 && (cmp q.v p.v).1 > 0
      else false
    else false
  else false
theorem less_irrefl : ∀ s : List UInt8, Op.bytesLess s s = false
  | [] => rfl
  | a :: r => by simp [Op.bytesLess, less_irrefl r]
theorem sames_len : ∀ {a b : List Val}, sames a b = true → a.length = b.length
  | [], [], _ => rfl
  | a :: r, b :: s, h => by
    simp only [sames, Bool.and_eq_true] at h
    simp [sames_len h.2]
  | [], _ :: _, h => by simp [sames] at h
  | _ :: _, [], h => by simp [sames] at h
theorem sames_ne {a b : List Val} (h : ¬ a.length = b.length) : sames a b = false := by
  cases hs : sames a b with
  | false => rfl
  | true => exact absurd (sames_len hs) h
theorem sgn_bound (a b : Bool) : -1 ≤ sgn a b ∧ sgn a b ≤ 1 := by cases a <;> cases b <;> simp [sgn]
theorem icmp_bound (n : Int) (x : Nat) : -1 ≤ (icmp n x).1 ∧ (icmp n x).1 ≤ 1 := by
  unfold icmp
  repeat' split
  all_goals first | exact sgn_bound _ _ | simp
theorem sgn_tri (a b : Bool) : sgn a b = -1 ∨ sgn a b = 0 ∨ sgn a b = 1 := by cases a <;> cases b <;> simp [sgn]
theorem icmp_tri (n : Int) (x : Nat) : (icmp n x).1 = -1 ∨ (icmp n x).1 = 0 ∨ (icmp n x).1 = 1 := by
  have := icmp_bound n x
  omega
theorem cmp_tri (a b : Val) : (cmp a b).1 = -1 ∨ (cmp a b).1 = 0 ∨ (cmp a b).1 = 1 := by
  unfold cmp
  repeat' split
  · exact sgn_tri _ _
  · unfold fcmp; split
    · exact sgn_tri _ _
    · simp
  · exact icmp_tri _ _
  · have := icmp_tri b.n a.x; simp only; omega
  · exact sgn_tri _ _
  · exact sgn_tri _ _
  · simp
theorem wrap_icmp (n : Int) (x : Nat) : IntKind.wrap .i64 (-(icmp n x).1) = -(icmp n x).1 := by
  have := icmp_bound n x
  exact wrap64 (by omega) (by omega)
/-- A test that is looked into at the end. -/
def opq (b : Bool) : Bool := b
theorem agg_eql (ks : List TK) (x y : List V) : binAgg ks .eql x y = (eqCells ks x y).map fun b => .bool (opq b) := rfl
theorem agg_neq (ks : List TK) (x y : List V) : binAgg ks .neq x y = (eqCells ks x y).map fun b => .bool (!opq b) := rfl
theorem feq00 : feq 0 0 = true := by kernel_rfl
attribute [simp] less_irrefl feq00
attribute [simp] wrap_icmp agg_eql agg_neq eqCells eqScalar
end Go.Ab
namespace Go.Ab
open Go Ieee
set_option linter.unusedVariables false
set_option linter.unusedSimpArgs false
set_option linter.unnecessarySimpa false
set_option maxRecDepth 4000

theorem read_cases (x : Nat) : (∃ s t, double.read x = .nan s t) ∨ (∃ s, double.read x = .infinity s) ∨ ∃ s m e, double.read x = .number s m e ∧ m < 2 ^ 53 ∧ (-1074 < e → 2 ^ 52 ≤ m) ∧ -1074 ≤ e := by
  have hb : double.binade = 2 ^ 52 := rfl
  have hl : double.leastPlace = -1074 := rfl
  unfold Format.read
  simp only [hb, hl]
  generalize x % double.signWeight = r
  split
  · exact .inr (.inr ⟨_, _, _, rfl, by omega, by omega, by omega⟩)
  · split
    · refine .inr (.inr ⟨_, _, _, rfl, ?_, ?_, ?_⟩)
      · have := Nat.mod_lt r (show 0 < 2 ^ 52 by decide); omega
      · intro _; omega
      · omega
    · split
      · exact .inr (.inl ⟨_, rfl⟩)
      · exact .inl ⟨_, _, rfl⟩

theorem cut_zero (s : Bool) (n d : Nat) : Toward.zero.cut s n d = n / 2 ^ (min d (n.log2 + 2)) := by
  simp [Toward.cut, Nat.shiftLeft_eq]
theorem cut_even_dvd (s : Bool) (n d q : Nat) (h : n = q * 2 ^ (min d (n.log2 + 2))) : Toward.even.cut s n d = q := by
  have hp : 0 < 2 ^ (min d (n.log2 + 2)) := Nat.pow_pos (by decide)
  have h1 : n / 2 ^ (min d (n.log2 + 2)) = q := by
    conv => lhs; lhs; rw [h]
    exact Nat.mul_div_cancel _ hp
  have h2 : n % 2 ^ (min d (n.log2 + 2)) = 0 := by
    conv => lhs; lhs; rw [h]
    exact Nat.mul_mod_left _ _
  simp only [Toward.cut, Nat.shiftLeft_eq, Nat.one_mul, h1, h2]
  have h3 : ¬ (2 ^ (min d (n.log2 + 2)) = 0) := by omega
  simp [h3]

theorem log2_of {n k : Nat} (h1 : 2 ^ k ≤ n) (h2 : n < 2 ^ (k + 1)) : n.log2 = k := by
  have h0 : n ≠ 0 := by have := Nat.pow_pos (n := k) (show 0 < 2 by decide); omega
  have a : k ≤ n.log2 := (Nat.le_log2 h0).2 h1
  have b : n.log2 < k + 1 := (Nat.log2_lt h0).2 h2
  omega

/-- A word that is read as it was laid. -/
theorem read_word (s : Bool) (K : Nat) (l : Int) (h1 : 2 ^ 52 ≤ K) (h2 : K < 2 ^ 53) (h3 : -1074 ≤ l) (h4 : l ≤ 900) :
    double.read (double.word s (min ((l - double.leastPlace).toNat * double.binade + K) double.infRung)) = .number s K l := by
  have hb : double.binade = 4503599627370496 := rfl
  have hl : double.leastPlace = -1074 := rfl
  have hi : double.infRung = 9218868437227405312 := rfl
  have hw : double.signWeight = 9223372036854775808 := rfl
  obtain ⟨p, hp⟩ : ∃ p : Nat, (l - double.leastPlace).toNat = p ∧ l = (p : Int) - 1074 ∧ p ≤ 1974 := ⟨(l + 1074).toNat, by rw [hl]; omega, by omega, by omega⟩
  obtain ⟨hp1, hp2, hp3⟩ := hp
  rw [hp1]
  have hm : min (p * double.binade + K) double.infRung = p * 4503599627370496 + K := by rw [hb, hi]; omega
  rw [hm]
  have hr : (p * 4503599627370496 + K) < 9223372036854775808 := by omega
  have key : ∀ w : Nat, w % 9223372036854775808 = p * 4503599627370496 + K → (w / 9223372036854775808 % 2 == 1) = s → double.read w = .number s K l := by
    intro w e1 e2
    unfold Format.read
    simp only [hb, hl, hi, hw, e1, e2]
    have c1 : ¬ p * 4503599627370496 + K < 4503599627370496 := by omega
    have c2 : p * 4503599627370496 + K < 9218868437227405312 := by omega
    have c3 : (p * 4503599627370496 + K) % 4503599627370496 = K - 4503599627370496 := by omega
    have c4 : (p * 4503599627370496 + K) / 4503599627370496 - 1 = p := by omega
    rw [if_neg c1, if_pos c2, c3, c4, hp2]
    have c5 : 4503599627370496 + (K - 4503599627370496) = K := by omega
    have c6 : (-1074 : Int) + (p : Int) = (p : Int) - 1074 := by omega
    rw [c5, c6]
  apply key
  · cases s with
    | false => show (p * 4503599627370496 + K) % 9223372036854775808 = _; omega
    | true => show (9223372036854775808 + (p * 4503599627370496 + K)) % 9223372036854775808 = _; omega
  · cases s with
    | false =>
      show ((p * 4503599627370496 + K) / 9223372036854775808 % 2 == 1) = false
      rw [Nat.div_eq_of_lt hr]; rfl
    | true =>
      show ((9223372036854775808 + (p * 4503599627370496 + K)) / 9223372036854775808 % 2 == 1) = true
      rw [show (9223372036854775808 + (p * 4503599627370496 + K)) / 9223372036854775808 = 1 by omega]; rfl
theorem read_zero (s : Bool) : double.read (double.word s 0) = .number s 0 (-1074) := by cases s <;> rfl

theorem signed_bound (s : Bool) (M : Nat) (h : M ≤ 2 ^ 63) (hs : s = false → M < 2 ^ 63) : -9223372036854775808 ≤ signed s M 0 ∧ signed s M 0 ≤ 9223372036854775807 := by
  unfold signed
  simp only [Nat.shiftLeft_zero]
  cases s with
  | false => have := hs rfl; simp only [Bool.false_eq_true, if_false]; omega
  | true => simp only [if_true]; omega

/-- A whole number of few digits is written as it is. -/
theorem whole_exact (s : Bool) (M : Nat) (h : M ≤ 2 ^ 63) (hM : M < 2 ^ 53 ∨ ∃ m e : Nat, M = m * 2 ^ e ∧ 2 ^ 52 ≤ m ∧ m < 2 ^ 53) :
    (double.read (double.write (.number s M 0))).toInt .zero = some (signed s M 0) := by
  have hl : double.leastPlace = -1074 := rfl
  have hf : (double.fractionBits : Int) = 52 := rfl
  unfold Format.write Format.nearest
  dsimp only
  by_cases h0 : M = 0
  · subst h0
    simp only [if_true]
    rw [read_zero]
    simp only [Datum.toInt, Datum.integral, cut_zero]
    simp
  · rw [if_neg h0]
    have hL1 : 2 ^ M.log2 ≤ M := Nat.log2_self_le h0
    have hL2 : M < 2 ^ (M.log2 + 1) := Nat.lt_log2_self
    have hL : M.log2 ≤ 63 := by
      have : M.log2 < 64 := (Nat.log2_lt h0).2 (by omega)
      omega
    have hlast : max ((0 : Int) + (M.log2 : Int) - (double.fractionBits : Int)) double.leastPlace = (M.log2 : Int) - 52 := by rw [hl, hf]; omega
    simp only [hlast]
    -- kept
    obtain ⟨K, l, hK, hK1, hK2, hlk, hdef⟩ : ∃ K : Nat, ∃ l : Int, (l = (M.log2 : Int) - 52) ∧ 2 ^ 52 ≤ K ∧ K < 2 ^ 53 ∧ Toward.even.cut s (M <<< ((0 : Int) - ((M.log2 : Int) - 52)).toNat) (((M.log2 : Int) - 52) - 0).toNat = K ∧
        ((0 ≤ l → M = K * 2 ^ l.toNat) ∧ (l < 0 → K = M * 2 ^ (-l).toNat ∧ (-l).toNat ≤ 52)) := by
      by_cases hs : M.log2 ≤ 52
      · refine ⟨M * 2 ^ (52 - M.log2), (M.log2 : Int) - 52, rfl, ?_, ?_, ?_, ?_, ?_⟩
        · calc 2 ^ 52 = 2 ^ M.log2 * 2 ^ (52 - M.log2) := by rw [← Nat.pow_add]; congr 1; omega
            _ ≤ M * 2 ^ (52 - M.log2) := Nat.mul_le_mul_right _ hL1
        · calc M * 2 ^ (52 - M.log2) < 2 ^ (M.log2 + 1) * 2 ^ (52 - M.log2) := Nat.mul_lt_mul_of_pos_right hL2 (Nat.pow_pos (by decide))
            _ = 2 ^ 53 := by rw [← Nat.pow_add]; congr 1; omega
        · have e1 : ((0 : Int) - ((M.log2 : Int) - 52)).toNat = 52 - M.log2 := by omega
          have e2 : (((M.log2 : Int) - 52) - 0).toNat = 0 := by omega
          rw [e1, e2]
          exact cut_even_dvd _ _ _ _ (by rw [Nat.zero_min, Nat.shiftLeft_eq]; simp)
        · intro hge
          have e : M.log2 = 52 := by omega
          rw [e]; simp
        · intro hlt
          have e : (-((M.log2 : Int) - 52)).toNat = 52 - M.log2 := by omega
          rw [e]; exact ⟨rfl, by omega⟩
      · obtain ⟨m, e, hme, hm1, hm2⟩ : ∃ m e : Nat, M = m * 2 ^ e ∧ 2 ^ 52 ≤ m ∧ m < 2 ^ 53 := by
          rcases hM with hM | hM
          · exfalso
            have : M.log2 < 53 := (Nat.log2_lt h0).2 hM
            omega
          · exact hM
        have hlog : M.log2 = 52 + e := by
          apply log2_of
          · rw [hme, Nat.pow_add]; exact Nat.mul_le_mul_right _ hm1
          · rw [hme, show 52 + e + 1 = 53 + e by omega, Nat.pow_add]; exact Nat.mul_lt_mul_of_pos_right hm2 (Nat.pow_pos (by decide))
        refine ⟨m, (M.log2 : Int) - 52, rfl, hm1, hm2, ?_, ?_, ?_⟩
        · have e1 : ((0 : Int) - ((M.log2 : Int) - 52)).toNat = 0 := by omega
          have e2 : (((M.log2 : Int) - 52) - 0).toNat = e := by omega
          rw [e1, e2]
          refine cut_even_dvd _ _ _ _ ?_
          rw [Nat.shiftLeft_zero, hlog, show min e (52 + e + 2) = e by omega]; exact hme
        · intro _
          rw [show ((M.log2 : Int) - 52).toNat = e by omega]; exact hme
        · intro hlt; omega
    rw [hlk, ← hK, read_word s K l hK1 hK2 (by omega) (by omega)]
    simp only [Datum.toInt, Datum.integral, cut_zero]
    have hKl : K.log2 = 52 := log2_of hK1 hK2
    have : (K <<< l.toNat) / 2 ^ (min (-l).toNat ((K <<< l.toNat).log2 + 2)) = M := by
      by_cases hge : 0 ≤ l
      · have e : (-l).toNat = 0 := by omega
        rw [e, Nat.zero_min, Nat.pow_zero, Nat.div_one, Nat.shiftLeft_eq]
        exact (hdef.1 hge).symm
      · have e : l.toNat = 0 := by omega
        obtain ⟨d1, d2⟩ := hdef.2 (by omega)
        rw [e, Nat.shiftLeft_zero, hKl, show min (-l).toNat (52 + 2) = (-l).toNat by omega, d1]
        exact Nat.mul_div_cancel _ (Nat.pow_pos (by decide))
    rw [this]

theorem ord_cmp (s t : Bool) (m n : Nat) (i j : Int) : Datum.order (.number s m i) (.number t n j) = some (compare (signed s m (i - min i j).toNat) (signed t n (j - min i j).toNat)) := rfl
/-- What a float that is no NaN, below 2^63, at least -2^63, has as its whole part. -/
theorem conv_ok (x : Nat) (h1 : feq x x = true) (h2 : ¬ fge x 4890909195324358656 = true) (h3 : ¬ flt x 14114281232179134464 = true) :
    truncV x = some (ftr x) ∧ (FloatKind.f64.decode (ftr x)).toInt .zero = some (ftz x) ∧ (-9223372036854775808 ≤ ftz x ∧ ftz x ≤ 9223372036854775807) := by
  have c1 : double.read 4890909195324358656 = .number false 4503599627370496 11 := rfl
  have c2 : double.read 14114281232179134464 = .number true 4503599627370496 11 := rfl
  have hfeq : feq x x = ((double.read x).order (double.read x) == some .eq) := rfl
  have hfge : fge x 4890909195324358656 = ((double.read x).order (double.read 4890909195324358656) == some .gt || (double.read x).order (double.read 4890909195324358656) == some .eq) := rfl
  have hflt : flt x 14114281232179134464 = ((double.read x).order (double.read 14114281232179134464) == some .lt) := rfl
  rw [hfeq] at h1; rw [hfge, c1] at h2; rw [hflt, c2] at h3
  rcases read_cases x with ⟨s, t, hx⟩ | ⟨s, hx⟩ | ⟨s, m, e, hx, hm, hn, he⟩
  · rw [hx] at h1; simp [Datum.order] at h1
  · rw [hx] at h2 h3
    cases s
    · simp [Datum.order] at h2
    · simp [Datum.order] at h3
  · have hd : FloatKind.f64.decode x = .number s m e := hx
    rw [hx] at h2 h3
    rw [ord_cmp] at h2 h3
    have ht : truncV x = some (double.write (.number s (Toward.zero.cut s (m <<< e.toNat) (-e).toNat) 0)) := by
      unfold truncV; rw [hd]; rfl
    have hftr : ftr x = double.write (.number s (Toward.zero.cut s (m <<< e.toNat) (-e).toNat) 0) := by unfold ftr; rw [ht]; rfl
    have hM : ∃ M, Toward.zero.cut s (m <<< e.toNat) (-e).toNat = M ∧ M ≤ 2 ^ 63 ∧ (s = false → M < 2 ^ 63) ∧ (M < 2 ^ 53 ∨ ∃ m e : Nat, M = m * 2 ^ e ∧ 2 ^ 52 ≤ m ∧ m < 2 ^ 53) := by
      by_cases hge : 0 ≤ e
      · obtain ⟨k, rfl⟩ : ∃ k : Nat, e = (k : Int) := ⟨e.toNat, by omega⟩
        have hm52 : 2 ^ 52 ≤ m := hn (by omega)
        have e1 : (-(k : Int)).toNat = 0 := by omega
        rw [cut_zero, e1, Nat.zero_min, Nat.pow_zero, Nat.div_one, Int.toNat_natCast, Nat.shiftLeft_eq]
        have hle : m * 2 ^ k ≤ 2 ^ 63 ∧ (s = false → m * 2 ^ k < 2 ^ 63) := by
          by_cases hk : k ≤ 11
          · have hp : 2 ^ k * 2 ^ (11 - k) = 2 ^ 11 := by rw [← Nat.pow_add]; congr 1; omega
            rw [show ((k : Int) - min (k : Int) 11).toNat = 0 by omega, show ((11 : Int) - min (k : Int) 11).toNat = 11 - k by omega] at h2 h3
            simp only [signed, Nat.shiftLeft_eq] at h2 h3
            have hpp : 0 < 2 ^ k := Nat.pow_pos (by decide)
            generalize 2 ^ (11 - k) = q at *
            generalize 2 ^ k = r at *
            cases s with
            | false =>
              simp only [Bool.false_eq_true, if_false] at h2
              have hlt : m < 4503599627370496 * q := by
                rcases Nat.lt_or_ge m (4503599627370496 * q) with hlt | hge2
                · exact hlt
                · exfalso; apply h2
                  rcases Nat.lt_or_eq_of_le hge2 with hgt | heq
                  · have : compare ((m * 2 ^ 0 : Nat) : Int) ((4503599627370496 * q : Nat) : Int) = .gt := Int.compare_eq_gt.2 (by omega)
                    rw [this]; rfl
                  · have : compare ((m * 2 ^ 0 : Nat) : Int) ((4503599627370496 * q : Nat) : Int) = .eq := Int.compare_eq_eq.2 (by omega)
                    rw [this]; rfl
              have : m * r < 4503599627370496 * q * r := Nat.mul_lt_mul_of_pos_right hlt hpp
              have e : 4503599627370496 * q * r = 2 ^ 63 := by rw [Nat.mul_assoc, Nat.mul_comm q r, hp]
              omega
            | true =>
              simp only [if_true] at h3
              have hle : m ≤ 4503599627370496 * q := by
                rcases Nat.lt_or_ge (4503599627370496 * q) m with hlt | hge2
                · exfalso; apply h3
                  have : compare (-((m * 2 ^ 0 : Nat) : Int)) (-((4503599627370496 * q : Nat) : Int)) = .lt := Int.compare_eq_lt.2 (by omega)
                  rw [this]; rfl
                · exact hge2
              have : m * r ≤ 4503599627370496 * q * r := Nat.mul_le_mul_right _ hle
              have e : 4503599627370496 * q * r = 2 ^ 63 := by rw [Nat.mul_assoc, Nat.mul_comm q r, hp]
              exact ⟨by omega, fun h => by cases h⟩
          · exfalso
            have hp : 2 ^ 12 ≤ 2 * 2 ^ (k - 11) * 2 ^ 11 := by
              have : 1 ≤ 2 ^ (k - 11) := Nat.one_le_two_pow
              omega
            have h2k : 2 ≤ 2 ^ (k - 11) := by
              calc 2 = 2 ^ 1 := rfl
                _ ≤ 2 ^ (k - 11) := Nat.pow_le_pow_right (by decide) (by omega)
            rw [show ((k : Int) - min (k : Int) 11).toNat = k - 11 by omega, show ((11 : Int) - min (k : Int) 11).toNat = 0 by omega] at h2 h3
            simp only [signed, Nat.shiftLeft_eq] at h2 h3
            have hbig : 4503599627370496 < m * 2 ^ (k - 11) := by
              have := Nat.mul_le_mul hm52 h2k
              omega
            generalize m * 2 ^ (k - 11) = z at *
            cases s with
            | false =>
              simp only [Bool.false_eq_true, if_false] at h2
              apply h2
              have : compare (z : Int) ((4503599627370496 * 2 ^ 0 : Nat) : Int) = .gt := Int.compare_eq_gt.2 (by omega)
              rw [this]; rfl
            | true =>
              simp only [if_true] at h3
              apply h3
              have : compare (-(z : Int)) (-((4503599627370496 * 2 ^ 0 : Nat) : Int)) = .lt := Int.compare_eq_lt.2 (by omega)
              rw [this]; rfl
        exact ⟨_, rfl, hle.1, hle.2, .inr ⟨m, k, rfl, hm52, hm⟩⟩
      · have e1 : e.toNat = 0 := by omega
        rw [cut_zero, e1, Nat.shiftLeft_zero]
        have hle : m / 2 ^ (min (-e).toNat (m.log2 + 2)) ≤ m := Nat.div_le_self _ _
        exact ⟨_, rfl, by omega, fun _ => by omega, .inl (by omega)⟩
    obtain ⟨M, hMe, hM1, hM2, hM3⟩ := hM
    rw [hMe] at ht hftr
    have hz := whole_exact s M hM1 hM3
    have hdz : (FloatKind.f64.decode (ftr x)).toInt .zero = some (signed s M 0) := by rw [hftr]; exact hz
    have hftz : ftz x = signed s M 0 := by unfold ftz; rw [hdz]; rfl
    refine ⟨by rw [ht, hftr], by rw [hdz, hftz], ?_⟩
    rw [hftz]
    exact signed_bound s M hM1 hM2
end Go.Ab
namespace Go.Proofs.Ytclpbfkbpcjejaa
open Go Go.Ab
set_option linter.unusedVariables false
set_option linter.unusedSimpArgs false
set_option linter.unnecessarySimpa false
set_option maxRecDepth 20000
variable (fr : Fr) (st : St) (k : Kt)
theorem ty2 : gS.ty 2 = some { k := .int .i64, size := 1, agg := false, zero := [.int .i64 0] } := by kernel_rfl
theorem ty3 : gS.ty 3 = some { k := .int .i64, size := 1, agg := false, zero := [.int .i64 0] } := by kernel_rfl
theorem ty4 : gS.ty 4 = some { k := .bool, size := 1, agg := false, zero := [.bool false] } := by kernel_rfl
theorem ty5 : gS.ty 5 = some { k := .int .u8, size := 1, agg := false, zero := [.int .u8 0] } := by kernel_rfl
theorem ty9 : gS.ty 9 = some { k := .str, size := 1, agg := false, zero := [.str []] } := by kernel_rfl
theorem ty22 : gS.ty 22 = some { k := .float .f64, size := 1, agg := false, zero := [.float .f64 0] } := by kernel_rfl
theorem ty24 : gS.ty 24 = some { k := .struct [(0, 1, false), (1, 1, false), (2, 1, false), (3, 1, false), (4, 1, false)], size := 5, agg := true, zero := [.int .i64 0, .int .i64 0, .float .f64 0, .str [], .bool false] } := by kernel_rfl
theorem ty25 : gS.ty 25 = some { k := .slice 5 48 true [.int .i64 0, .int .i64 0, .float .f64 0, .str [], .bool false], size := 1, agg := false, zero := [.osl 0 []] } := by kernel_rfl
theorem ty27 : gS.ty 27 = some { k := .struct [(0, 1, false), (1, 1, false), (2, 5, true), (7, 5, true), (12, 1, false)], size := 13, agg := true, zero := [.str [], .int .i64 0, .int .i64 0, .int .i64 0, .float .f64 0, .str [], .bool false, .int .i64 0, .int .i64 0, .float .f64 0, .str [], .bool false, .osl 0 []] } := by kernel_rfl
theorem ty28 : gS.ty 28 = some { k := .slice 1 8 false [.int .i64 0], size := 1, agg := false, zero := [.osl 0 []] } := by kernel_rfl
theorem ty29 : gS.ty 29 = some { k := .pointer, size := 1, agg := false, zero := [.nilp] } := by kernel_rfl
theorem ty31 : gS.ty 31 = some { k := .struct [(0, 1, false), (1, 1, false)], size := 2, agg := true, zero := [.osl 0 [], .int .i64 0] } := by kernel_rfl
theorem ty49 : gS.ty 49 = some { k := .slice 13 144 true [.str [], .int .i64 0, .int .i64 0, .int .i64 0, .float .f64 0, .str [], .bool false, .int .i64 0, .int .i64 0, .float .f64 0, .str [], .bool false, .osl 0 []], size := 1, agg := false, zero := [.osl 0 []] } := by kernel_rfl
theorem ty50 : gS.ty 50 = some { k := .slice 6 64 true [.str [], .int .i64 0, .int .i64 0, .float .f64 0, .str [], .bool false], size := 1, agg := false, zero := [.osl 0 []] } := by kernel_rfl
theorem ty89 : gS.ty 89 = some { k := .array 6 1 false, size := 6, agg := true, zero := [.str [], .str [], .str [], .str [], .str [], .str []] } := by kernel_rfl
theorem ty90 : gS.ty 90 = some { k := .array 6 1 false, size := 6, agg := true, zero := [.int .i64 0, .int .i64 0, .int .i64 0, .int .i64 0, .int .i64 0, .int .i64 0] } := by kernel_rfl
theorem ty99 : gS.ty 99 = some { k := .struct [(0, 1, false), (1, 1, false), (2, 5, true)], size := 7, agg := true, zero := [.bool false, .bool false, .int .i64 0, .int .i64 0, .float .f64 0, .str [], .bool false] } := by kernel_rfl
theorem ty107 : gS.ty 107 = some { k := .array 4 1 false, size := 4, agg := true, zero := [.str [], .str [], .str [], .str []] } := by kernel_rfl
theorem ty109 : gS.ty 109 = some { k := .array 5 1 false, size := 5, agg := true, zero := [.str [], .str [], .str [], .str [], .str []] } := by kernel_rfl
theorem ty111 : gS.ty 111 = some { k := .struct [(0, 1, false), (1, 5, true)], size := 6, agg := true, zero := [.str [], .int .i64 0, .int .i64 0, .float .f64 0, .str [], .bool false] } := by kernel_rfl
theorem ty117 : gS.ty 117 = some { k := .array 14 1 false, size := 14, agg := true, zero := [.float .f64 0, .float .f64 0, .float .f64 0, .float .f64 0, .float .f64 0, .float .f64 0, .float .f64 0, .float .f64 0, .float .f64 0, .float .f64 0, .float .f64 0, .float .f64 0, .float .f64 0, .float .f64 0] } := by kernel_rfl
theorem ty123 : gS.ty 123 = some { k := .int .u64, size := 1, agg := false, zero := [.int .u64 0] } := by kernel_rfl
theorem eq24 : gS.eqs 24 = some [.int .i64, .int .i64, .float .f64, .str, .bool] := by kernel_rfl
theorem k115 (b : Nat) (fr : Fr) (st : St) : callStep gS (EvF gS) 115 [.float .f64 b] fr st = some (.ok (.val (.int .u64 b)) fr st) := rfl
theorem k120 (b v : Nat) (h : truncV b = some v) (fr : Fr) (st : St) : callStep gS (EvF gS) 120 [.float .f64 b] fr st = some (.ok (.val (.float .f64 v)) fr st) := by
  have e : gS.ext 120 = some .trunc := rfl
  unfold callStep
  simp only [e, extV, h, Option.map_some]
noncomputable def fi116 : FI := { body := codeOf Try.f116, ntmps := 6, results := [.tmp 2], pers := [0, 2], locals := [], pure := true, marks := [] }
theorem fi116_eq : gS.fn 116 = some fi116 := by kernel_rfl
theorem st116 (a0 : V) : startFr fi116 [a0] = { ps := [(0, .val a0), (2, .any)], ts := [], lc := [] } := rfl
noncomputable def b116 : Code := mini (codeOf Try.f116)
noncomputable def c116_1 : Code := codeAt b116 [false]
theorem e116_1 : evK gS fi116 c116_1 fr st k = opsK gS fi116 [(some 2)] [mk (some 2) (.assign (.const (.bool false))) 4 none] fr.clear st fr k := evK_reg1 (i := 0) (by kernel_rfl) (by kernel_rfl)
noncomputable def c116_3 : Code := codeAt b116 [true, false]
theorem e116_3 : evK gS fi116 c116_3 fr st k = opsK gS fi116 [(some 3), (some 4), (some 5), (some 2)] [mk (some 3) (.move (.tmp 0)) 22 none,
  mk (some 4) (.move (.tmp 0)) 22 none,
  mk (some 5) (.binOp .neq 22 (.tmp 3) (.tmp 4) 22) 4 none,
  mk (some 2) (.assign (.tmp 5)) 4 none] fr.clear st fr k := evK_reg1 (i := 1) (by kernel_rfl) (by kernel_rfl)
noncomputable def c116_4 : Code := .ret
theorem e116_4 : evK gS fi116 c116_4 fr st k = nextK gS fi116 k .ret fr st := rfl
noncomputable def c116_2 : Code := .seq c116_3 c116_4
theorem e116_2 : evK gS fi116 c116_2 fr st k = evK gS fi116 c116_3 fr st (.seq c116_4 k) := rfl
noncomputable def c116_0 : Code := .seq c116_1 c116_2
theorem e116_0 : evK gS fi116 c116_0 fr st k = evK gS fi116 c116_1 fr st (.seq c116_2 k) := rfl
theorem m116 : mini fi116.body = c116_0 := by kernel_rfl
set_option maxHeartbeats 4000000 in
theorem c116 (x : Nat)  (st : St) : EvF gS 116 [.float .f64 x] st = some (.ret (.bool (!feq x x)) none, st) := by
  refine EvF_start fi116_eq (fun x h => by cases h) m116 ?_
  rw [st116]
  have hm : fi116.marks = [] := rfl
  have hl : fi116.locals = [] := rfl
  have hr : fi116.results = [.tmp 2] := rfl
  simp (config := { contextual := true, maxSteps := 10000000, maxDischargeDepth := 6 }) [-Int.not_le, -Int.not_lt, -Nat.not_le, -Nat.not_lt, ty4, ty22, hm, hl, hr, e116_1, e116_3, e116_4, e116_2, e116_0]
  all_goals first | done | grind | omega | (trace_state; fail)
theorem k116 (x : Nat)  (fr : Fr) (st : St) : callStep gS (EvF gS) 116 [.float .f64 x] fr st = some (.ok (retE none (.bool (!feq x x))) fr st) :=
  call_pure rfl fi116_eq rfl (fun st => c116 x  st) (by simp)
noncomputable def fi117 : FI := { body := codeOf Try.f117, ntmps := 9, results := [.tmp 4], pers := [0, 1, 4], locals := [], pure := true, marks := [] }
theorem fi117_eq : gS.fn 117 = some fi117 := by kernel_rfl
theorem st117 (a0 a1 : V) : startFr fi117 [a0, a1] = { ps := [(0, .val a0), (1, .val a1), (4, .any)], ts := [], lc := [] } := rfl
noncomputable def b117 : Code := mini (codeOf Try.f117)
noncomputable def c117_1 : Code := codeAt b117 [false]
theorem e117_1 : evK gS fi117 c117_1 fr st k = opsK gS fi117 [(some 4)] [mk (some 4) (.assign (.const (.int .i64 0))) 3 none] fr.clear st fr k := evK_reg1 (i := 0) (by kernel_rfl) (by kernel_rfl)
noncomputable def c117_5 : Code := codeAt b117 [true, false, false, false]
theorem e117_5 : evK gS fi117 c117_5 fr st k = opsK gS fi117 [(some 6), (some 5)] [mk (some 6) (.move (.tmp 0)) 4 none,
  mk (some 5) (.assign (.tmp 6)) 4 none] fr.clear st fr k := evK_reg1 (i := 1) (by kernel_rfl) (by kernel_rfl)
noncomputable def c117_8 : Code := codeAt b117 [true, false, false, true, false, false]
theorem e117_8 : evK gS fi117 c117_8 fr st k = opsK gS fi117 [(some 4)] [mk (some 4) (.assign (.const (.int .i64 (-1)))) 3 none] fr.clear st fr k := evK_reg1 (i := 2) (by kernel_rfl) (by kernel_rfl)
noncomputable def c117_9 : Code := .ret
theorem e117_9 : evK gS fi117 c117_9 fr st k = nextK gS fi117 k .ret fr st := rfl
noncomputable def c117_7 : Code := .seq c117_8 c117_9
theorem e117_7 : evK gS fi117 c117_7 fr st k = evK gS fi117 c117_8 fr st (.seq c117_9 k) := rfl
noncomputable def c117_11 : Code := codeAt b117 [true, false, false, true, true, false]
theorem e117_11 : evK gS fi117 c117_11 fr st k = opsK gS fi117 [(some 8), (some 7)] [mk (some 8) (.move (.tmp 1)) 4 none,
  mk (some 7) (.assign (.tmp 8)) 4 none] fr.clear st fr k := evK_reg1 (i := 3) (by kernel_rfl) (by kernel_rfl)
noncomputable def c117_14 : Code := codeAt b117 [true, false, false, true, true, true, false, false]
theorem e117_14 : evK gS fi117 c117_14 fr st k = opsK gS fi117 [(some 4)] [mk (some 4) (.assign (.const (.int .i64 1))) 3 none] fr.clear st fr k := evK_reg1 (i := 4) (by kernel_rfl) (by kernel_rfl)
noncomputable def c117_15 : Code := .ret
theorem e117_15 : evK gS fi117 c117_15 fr st k = nextK gS fi117 k .ret fr st := rfl
noncomputable def c117_13 : Code := .seq c117_14 c117_15
theorem e117_13 : evK gS fi117 c117_13 fr st k = evK gS fi117 c117_14 fr st (.seq c117_15 k) := rfl
noncomputable def c117_16 : Code := .skip
theorem e117_16 : evK gS fi117 c117_16 fr st k = nextK gS fi117 k .normal fr st := rfl
noncomputable def c117_12 : Code := .cond (.tmp 7) c117_13 c117_16
theorem e117_12 : evK gS fi117 c117_12 fr st k = condK gS fi117 (fr.op (.tmp 7)).bool? c117_13 c117_16 fr st k := rfl
noncomputable def c117_10 : Code := .seq c117_11 c117_12
theorem e117_10 : evK gS fi117 c117_10 fr st k = evK gS fi117 c117_11 fr st (.seq c117_12 k) := rfl
noncomputable def c117_6 : Code := .cond (.tmp 5) c117_7 c117_10
theorem e117_6 : evK gS fi117 c117_6 fr st k = condK gS fi117 (fr.op (.tmp 5)).bool? c117_7 c117_10 fr st k := rfl
noncomputable def c117_4 : Code := .seq c117_5 c117_6
theorem e117_4 : evK gS fi117 c117_4 fr st k = evK gS fi117 c117_5 fr st (.seq c117_6 k) := rfl
noncomputable def c117_3 : Code := .block 0 c117_4
theorem e117_3 : evK gS fi117 c117_3 fr st k = evK gS fi117 c117_4 fr st (.blk 0 k) := rfl
noncomputable def c117_18 : Code := codeAt b117 [true, true, false]
theorem e117_18 : evK gS fi117 c117_18 fr st k = opsK gS fi117 [(some 4)] [mk (some 4) (.assign (.const (.int .i64 0))) 3 none] fr.clear st fr k := evK_reg1 (i := 5) (by kernel_rfl) (by kernel_rfl)
noncomputable def c117_19 : Code := .ret
theorem e117_19 : evK gS fi117 c117_19 fr st k = nextK gS fi117 k .ret fr st := rfl
noncomputable def c117_17 : Code := .seq c117_18 c117_19
theorem e117_17 : evK gS fi117 c117_17 fr st k = evK gS fi117 c117_18 fr st (.seq c117_19 k) := rfl
noncomputable def c117_2 : Code := .seq c117_3 c117_17
theorem e117_2 : evK gS fi117 c117_2 fr st k = evK gS fi117 c117_3 fr st (.seq c117_17 k) := rfl
noncomputable def c117_0 : Code := .seq c117_1 c117_2
theorem e117_0 : evK gS fi117 c117_0 fr st k = evK gS fi117 c117_1 fr st (.seq c117_2 k) := rfl
theorem m117 : mini fi117.body = c117_0 := by kernel_rfl
set_option maxHeartbeats 4000000 in
theorem c117 (b : Bool) (a : Bool)  (st : St) : EvF gS 117 [.bool b, .bool a] st = some (.ret (.int .i64 (sgn b a)) none, st) := by
  refine EvF_start fi117_eq (fun x h => by cases h) m117 ?_
  rw [st117]
  have hm : fi117.marks = [] := rfl
  have hl : fi117.locals = [] := rfl
  have hr : fi117.results = [.tmp 4] := rfl
  simp (config := { contextual := true, maxSteps := 10000000, maxDischargeDepth := 6 }) [-Int.not_le, -Int.not_lt, -Nat.not_le, -Nat.not_lt, ty3, ty4, hm, hl, hr, e117_1, e117_5, e117_8, e117_9, e117_7, e117_11, e117_14, e117_15, e117_13, e117_16, e117_12, e117_10, e117_6, e117_4, e117_3, e117_18, e117_19, e117_17, e117_2, e117_0]
  all_goals try simp (config := { contextual := true }) [-Int.not_le, -Int.not_lt, -Nat.not_le, -Nat.not_lt, sgn]
  all_goals first | done | grind | omega | (trace_state; fail)
theorem k117 (b : Bool) (a : Bool)  (fr : Fr) (st : St) : callStep gS (EvF gS) 117 [.bool b, .bool a] fr st = some (.ok (retE none (.int .i64 (sgn b a))) fr st) :=
  call_pure rfl fi117_eq rfl (fun st => c117 b a  st) (by simp)
noncomputable def fi105 : FI := { body := codeOf Try.f105, ntmps := 19, results := [.tmp 4, .tmp 5], pers := [0, 1, 4, 5], locals := [], pure := true, marks := [] }
theorem fi105_eq : gS.fn 105 = some fi105 := by kernel_rfl
theorem st105 (a0 a1 : V) : startFr fi105 [a0, a1] = { ps := [(0, .val a0), (1, .val a1), (4, .any), (5, .any)], ts := [], lc := [] } := rfl
noncomputable def b105 : Code := mini (codeOf Try.f105)
noncomputable def c105_1 : Code := codeAt b105 [false]
theorem e105_1 : evK gS fi105 c105_1 fr st k = opsK gS fi105 [(some 4), (some 5)] [mk (some 4) (.assign (.const (.int .i64 0))) 3 none,
  mk (some 5) (.assign (.const (.bool false))) 4 none] fr.clear st fr k := evK_reg1 (i := 0) (by kernel_rfl) (by kernel_rfl)
noncomputable def c105_4 : Code := codeAt b105 [true, false, false]
theorem e105_4 : evK gS fi105 c105_4 fr st k = opsK gS fi105 [(some 6), (some 7), (some 8), (some 9), (some 10), (some 11)] [mk (some 6) (.move (.tmp 0)) 22 none,
  mk (some 7) (.call { callee := (.value (.func 116)), args := #[(.tmp 6)], argTypes := #[22] }) 4 none,
  mk (some 8) (.move (.tmp 7)) 4 none,
  mk (some 9) (.move (.tmp 1)) 22 (some (2, false)),
  mk (some 10) (.call { callee := (.value (.func 116)), args := #[(.tmp 9)], argTypes := #[22] }) 4 (some (2, false)),
  mk (some 11) (.pick (.tmp 8) (.const (.bool true)) (.tmp 10)) 4 none] fr.clear st fr k := evK_reg1 (i := 1) (by kernel_rfl) (by kernel_rfl)
noncomputable def c105_7 : Code := codeAt b105 [true, false, true, false, false]
theorem e105_7 : evK gS fi105 c105_7 fr st k = opsK gS fi105 [(some 4), (some 5)] [mk (some 4) (.assign (.const (.int .i64 0))) 3 none,
  mk (some 5) (.assign (.const (.bool false))) 4 none] fr.clear st fr k := evK_reg1 (i := 2) (by kernel_rfl) (by kernel_rfl)
noncomputable def c105_8 : Code := .ret
theorem e105_8 : evK gS fi105 c105_8 fr st k = nextK gS fi105 k .ret fr st := rfl
noncomputable def c105_6 : Code := .seq c105_7 c105_8
theorem e105_6 : evK gS fi105 c105_6 fr st k = evK gS fi105 c105_7 fr st (.seq c105_8 k) := rfl
noncomputable def c105_9 : Code := .skip
theorem e105_9 : evK gS fi105 c105_9 fr st k = nextK gS fi105 k .normal fr st := rfl
noncomputable def c105_5 : Code := .cond (.tmp 11) c105_6 c105_9
theorem e105_5 : evK gS fi105 c105_5 fr st k = condK gS fi105 (fr.op (.tmp 11)).bool? c105_6 c105_9 fr st k := rfl
noncomputable def c105_3 : Code := .seq c105_4 c105_5
theorem e105_3 : evK gS fi105 c105_3 fr st k = evK gS fi105 c105_4 fr st (.seq c105_5 k) := rfl
noncomputable def c105_11 : Code := codeAt b105 [true, true, false]
theorem e105_11 : evK gS fi105 c105_11 fr st k = opsK gS fi105 [(some 12), (some 13), (some 14), (some 15), (some 16), (some 17), (some 18), (some 4), (some 5)] [mk (some 12) (.move (.tmp 0)) 22 none,
  mk (some 13) (.move (.tmp 1)) 22 none,
  mk (some 14) (.binOp .lss 22 (.tmp 12) (.tmp 13) 22) 4 none,
  mk (some 15) (.move (.tmp 0)) 22 none,
  mk (some 16) (.move (.tmp 1)) 22 none,
  mk (some 17) (.binOp .gtr 22 (.tmp 15) (.tmp 16) 22) 4 none,
  mk (some 18) (.call { callee := (.value (.func 117)), args := #[(.tmp 14), (.tmp 17)], argTypes := #[4, 4] }) 3 none,
  mk (some 4) (.assign (.tmp 18)) 3 none,
  mk (some 5) (.assign (.const (.bool true))) 4 none] fr.clear st fr k := evK_reg1 (i := 3) (by kernel_rfl) (by kernel_rfl)
noncomputable def c105_12 : Code := .ret
theorem e105_12 : evK gS fi105 c105_12 fr st k = nextK gS fi105 k .ret fr st := rfl
noncomputable def c105_10 : Code := .seq c105_11 c105_12
theorem e105_10 : evK gS fi105 c105_10 fr st k = evK gS fi105 c105_11 fr st (.seq c105_12 k) := rfl
noncomputable def c105_2 : Code := .seq c105_3 c105_10
theorem e105_2 : evK gS fi105 c105_2 fr st k = evK gS fi105 c105_3 fr st (.seq c105_10 k) := rfl
noncomputable def c105_0 : Code := .seq c105_1 c105_2
theorem e105_0 : evK gS fi105 c105_0 fr st k = evK gS fi105 c105_1 fr st (.seq c105_2 k) := rfl
theorem m105 : mini fi105.body = c105_0 := by kernel_rfl
set_option maxHeartbeats 4000000 in
theorem c105 (a : Nat) (b : Nat)  (st : St) : EvF gS 105 [.float .f64 a, .float .f64 b] st = some (.ret (.tuple [.int .i64 (fcmp a b).1, .bool (fcmp a b).2]) none, st) := by
  refine EvF_start fi105_eq (fun x h => by cases h) m105 ?_
  rw [st105]
  have hm : fi105.marks = [] := rfl
  have hl : fi105.locals = [] := rfl
  have hr : fi105.results = [.tmp 4, .tmp 5] := rfl
  simp (config := { contextual := true, maxSteps := 10000000, maxDischargeDepth := 6 }) [-Int.not_le, -Int.not_lt, -Nat.not_le, -Nat.not_lt, ty3, ty4, ty22, hm, hl, hr, k116, k117, e105_1, e105_4, e105_7, e105_8, e105_6, e105_9, e105_5, e105_3, e105_11, e105_12, e105_10, e105_2, e105_0]
  all_goals try simp (config := { contextual := true }) [-Int.not_le, -Int.not_lt, -Nat.not_le, -Nat.not_lt, fcmp]
  all_goals first | done | grind | omega | (trace_state; fail)
theorem k105 (a : Nat) (b : Nat)  (fr : Fr) (st : St) : callStep gS (EvF gS) 105 [.float .f64 a, .float .f64 b] fr st = some (.ok (retE none (.tuple [.int .i64 (fcmp a b).1, .bool (fcmp a b).2])) fr st) :=
  call_pure rfl fi105_eq rfl (fun st => c105 a b  st) (by simp)
noncomputable def fi118 : FI := { body := codeOf Try.f118, ntmps := 7, results := [.tmp 2], pers := [0, 2], locals := [], pure := true, marks := [] }
theorem fi118_eq : gS.fn 118 = some fi118 := by kernel_rfl
theorem st118 (a0 : V) : startFr fi118 [a0] = { ps := [(0, .val a0), (2, .any)], ts := [], lc := [] } := rfl
noncomputable def b118 : Code := mini (codeOf Try.f118)
noncomputable def c118_1 : Code := codeAt b118 [false]
theorem e118_1 : evK gS fi118 c118_1 fr st k = opsK gS fi118 [(some 2)] [mk (some 2) (.assign (.const (.float .f64 0))) 22 none] fr.clear st fr k := evK_reg1 (i := 0) (by kernel_rfl) (by kernel_rfl)
noncomputable def c118_5 : Code := codeAt b118 [true, false, false, false]
theorem e118_5 : evK gS fi118 c118_5 fr st k = opsK gS fi118 [(some 3), (some 4), (some 2)] [mk (some 3) (.move (.tmp 0)) 22 none,
  mk (some 4) (.call { callee := (.value (.func 120)), args := #[(.tmp 3)], argTypes := #[22] }) 22 none,
  mk (some 2) (.assign (.tmp 4)) 22 none] fr.clear st fr k := evK_reg1 (i := 1) (by kernel_rfl) (by kernel_rfl)
noncomputable def c118_6 : Code := .ret
theorem e118_6 : evK gS fi118 c118_6 fr st k = nextK gS fi118 k .ret fr st := rfl
noncomputable def c118_4 : Code := .seq c118_5 c118_6
theorem e118_4 : evK gS fi118 c118_4 fr st k = evK gS fi118 c118_5 fr st (.seq c118_6 k) := rfl
noncomputable def c118_7 : Code := .skip
theorem e118_7 : evK gS fi118 c118_7 fr st k = nextK gS fi118 k .normal fr st := rfl
noncomputable def c118_3 : Code := .cond (.const (.bool true)) c118_4 c118_7
theorem e118_3 : evK gS fi118 c118_3 fr st k = condK gS fi118 (fr.op (.const (.bool true))).bool? c118_4 c118_7 fr st k := rfl
noncomputable def c118_9 : Code := codeAt b118 [true, true, false]
theorem e118_9 : evK gS fi118 c118_9 fr st k = opsK gS fi118 [(some 5), (some 6), (some 2)] [mk (some 5) (.move (.tmp 0)) 22 none,
  mk (some 6) (.call { callee := (.value (.func 121)), args := #[(.tmp 5)], argTypes := #[22] }) 22 none,
  mk (some 2) (.assign (.tmp 6)) 22 none] fr.clear st fr k := evK_reg1 (i := 2) (by kernel_rfl) (by kernel_rfl)
noncomputable def c118_10 : Code := .ret
theorem e118_10 : evK gS fi118 c118_10 fr st k = nextK gS fi118 k .ret fr st := rfl
noncomputable def c118_8 : Code := .seq c118_9 c118_10
theorem e118_8 : evK gS fi118 c118_8 fr st k = evK gS fi118 c118_9 fr st (.seq c118_10 k) := rfl
noncomputable def c118_2 : Code := .seq c118_3 c118_8
theorem e118_2 : evK gS fi118 c118_2 fr st k = evK gS fi118 c118_3 fr st (.seq c118_8 k) := rfl
noncomputable def c118_0 : Code := .seq c118_1 c118_2
theorem e118_0 : evK gS fi118 c118_0 fr st k = evK gS fi118 c118_1 fr st (.seq c118_2 k) := rfl
theorem m118 : mini fi118.body = c118_0 := by kernel_rfl
set_option maxHeartbeats 4000000 in
theorem c118 (x : Nat) (h : truncV x = some (ftr x)) (st : St) : EvF gS 118 [.float .f64 x] st = some (.ret (.float .f64 (ftr x)) none, st) := by
  refine EvF_start fi118_eq (fun x h => by cases h) m118 ?_
  rw [st118]
  have hm : fi118.marks = [] := rfl
  have hl : fi118.locals = [] := rfl
  have hr : fi118.results = [.tmp 2] := rfl
  simp (config := { contextual := true, maxSteps := 10000000, maxDischargeDepth := 6 }) [-Int.not_le, -Int.not_lt, -Nat.not_le, -Nat.not_lt, ty22, hm, hl, hr, e118_1, e118_5, e118_6, e118_4, e118_7, e118_3, e118_9, e118_10, e118_8, e118_2, e118_0, k120 x (ftr x) h]
  all_goals first | done | grind | omega | (trace_state; fail)
theorem k118 (x : Nat) (h : truncV x = some (ftr x)) (fr : Fr) (st : St) : callStep gS (EvF gS) 118 [.float .f64 x] fr st = some (.ok (.val (.float .f64 (ftr x))) fr st) :=
  call_pure rfl fi118_eq rfl (fun st => c118 x h st) (by simp)
noncomputable def fi106 : FI := { body := codeOf Try.f106, ntmps := 38, results := [.tmp 4, .tmp 5], pers := [0, 1, 4, 5, 6, 7], locals := [], pure := true, marks := [] }
theorem fi106_eq : gS.fn 106 = some fi106 := by kernel_rfl
theorem st106 (a0 a1 : V) : startFr fi106 [a0, a1] = { ps := [(0, .val a0), (1, .val a1), (4, .any), (5, .any), (6, .any), (7, .any)], ts := [], lc := [] } := rfl
noncomputable def b106 : Code := mini (codeOf Try.f106)
noncomputable def c106_1 : Code := codeAt b106 [false]
theorem e106_1 : evK gS fi106 c106_1 fr st k = opsK gS fi106 [(some 4), (some 5)] [mk (some 4) (.assign (.const (.int .i64 0))) 3 none,
  mk (some 5) (.assign (.const (.bool false))) 4 none] fr.clear st fr k := evK_reg1 (i := 0) (by kernel_rfl) (by kernel_rfl)
noncomputable def c106_5 : Code := codeAt b106 [true, false, false, false]
theorem e106_5 : evK gS fi106 c106_5 fr st k = opsK gS fi106 [(some 9), (some 10), (some 8)] [mk (some 9) (.move (.tmp 1)) 22 none,
  mk (some 10) (.call { callee := (.value (.func 116)), args := #[(.tmp 9)], argTypes := #[22] }) 4 none,
  mk (some 8) (.assign (.tmp 10)) 4 none] fr.clear st fr k := evK_reg1 (i := 1) (by kernel_rfl) (by kernel_rfl)
noncomputable def c106_8 : Code := codeAt b106 [true, false, false, true, false, false]
theorem e106_8 : evK gS fi106 c106_8 fr st k = opsK gS fi106 [(some 4), (some 5)] [mk (some 4) (.assign (.const (.int .i64 0))) 3 none,
  mk (some 5) (.assign (.const (.bool false))) 4 none] fr.clear st fr k := evK_reg1 (i := 2) (by kernel_rfl) (by kernel_rfl)
noncomputable def c106_9 : Code := .ret
theorem e106_9 : evK gS fi106 c106_9 fr st k = nextK gS fi106 k .ret fr st := rfl
noncomputable def c106_7 : Code := .seq c106_8 c106_9
theorem e106_7 : evK gS fi106 c106_7 fr st k = evK gS fi106 c106_8 fr st (.seq c106_9 k) := rfl
noncomputable def c106_11 : Code := codeAt b106 [true, false, false, true, true, false]
theorem e106_11 : evK gS fi106 c106_11 fr st k = opsK gS fi106 [(some 12), (some 13), (some 11)] [mk (some 12) (.move (.tmp 1)) 22 none,
  mk (some 13) (.binOp .geq 22 (.tmp 12) (.const (.float .f64 4890909195324358656)) 22) 4 none,
  mk (some 11) (.assign (.tmp 13)) 4 none] fr.clear st fr k := evK_reg1 (i := 3) (by kernel_rfl) (by kernel_rfl)
noncomputable def c106_14 : Code := codeAt b106 [true, false, false, true, true, true, false, false]
theorem e106_14 : evK gS fi106 c106_14 fr st k = opsK gS fi106 [(some 4), (some 5)] [mk (some 4) (.assign (.const (.int .i64 (-1)))) 3 none,
  mk (some 5) (.assign (.const (.bool true))) 4 none] fr.clear st fr k := evK_reg1 (i := 4) (by kernel_rfl) (by kernel_rfl)
noncomputable def c106_15 : Code := .ret
theorem e106_15 : evK gS fi106 c106_15 fr st k = nextK gS fi106 k .ret fr st := rfl
noncomputable def c106_13 : Code := .seq c106_14 c106_15
theorem e106_13 : evK gS fi106 c106_13 fr st k = evK gS fi106 c106_14 fr st (.seq c106_15 k) := rfl
noncomputable def c106_17 : Code := codeAt b106 [true, false, false, true, true, true, true, false]
theorem e106_17 : evK gS fi106 c106_17 fr st k = opsK gS fi106 [(some 15), (some 16), (some 14)] [mk (some 15) (.move (.tmp 1)) 22 none,
  mk (some 16) (.binOp .lss 22 (.tmp 15) (.const (.float .f64 14114281232179134464)) 22) 4 none,
  mk (some 14) (.assign (.tmp 16)) 4 none] fr.clear st fr k := evK_reg1 (i := 5) (by kernel_rfl) (by kernel_rfl)
noncomputable def c106_20 : Code := codeAt b106 [true, false, false, true, true, true, true, true, false, false]
theorem e106_20 : evK gS fi106 c106_20 fr st k = opsK gS fi106 [(some 4), (some 5)] [mk (some 4) (.assign (.const (.int .i64 1))) 3 none,
  mk (some 5) (.assign (.const (.bool true))) 4 none] fr.clear st fr k := evK_reg1 (i := 6) (by kernel_rfl) (by kernel_rfl)
noncomputable def c106_21 : Code := .ret
theorem e106_21 : evK gS fi106 c106_21 fr st k = nextK gS fi106 k .ret fr st := rfl
noncomputable def c106_19 : Code := .seq c106_20 c106_21
theorem e106_19 : evK gS fi106 c106_19 fr st k = evK gS fi106 c106_20 fr st (.seq c106_21 k) := rfl
noncomputable def c106_22 : Code := .skip
theorem e106_22 : evK gS fi106 c106_22 fr st k = nextK gS fi106 k .normal fr st := rfl
noncomputable def c106_18 : Code := .cond (.tmp 14) c106_19 c106_22
theorem e106_18 : evK gS fi106 c106_18 fr st k = condK gS fi106 (fr.op (.tmp 14)).bool? c106_19 c106_22 fr st k := rfl
noncomputable def c106_16 : Code := .seq c106_17 c106_18
theorem e106_16 : evK gS fi106 c106_16 fr st k = evK gS fi106 c106_17 fr st (.seq c106_18 k) := rfl
noncomputable def c106_12 : Code := .cond (.tmp 11) c106_13 c106_16
theorem e106_12 : evK gS fi106 c106_12 fr st k = condK gS fi106 (fr.op (.tmp 11)).bool? c106_13 c106_16 fr st k := rfl
noncomputable def c106_10 : Code := .seq c106_11 c106_12
theorem e106_10 : evK gS fi106 c106_10 fr st k = evK gS fi106 c106_11 fr st (.seq c106_12 k) := rfl
noncomputable def c106_6 : Code := .cond (.tmp 8) c106_7 c106_10
theorem e106_6 : evK gS fi106 c106_6 fr st k = condK gS fi106 (fr.op (.tmp 8)).bool? c106_7 c106_10 fr st k := rfl
noncomputable def c106_4 : Code := .seq c106_5 c106_6
theorem e106_4 : evK gS fi106 c106_4 fr st k = evK gS fi106 c106_5 fr st (.seq c106_6 k) := rfl
noncomputable def c106_3 : Code := .block 0 c106_4
theorem e106_3 : evK gS fi106 c106_3 fr st k = evK gS fi106 c106_4 fr st (.blk 0 k) := rfl
noncomputable def c106_24 : Code := codeAt b106 [true, true, false]
theorem e106_24 : evK gS fi106 c106_24 fr st k = opsK gS fi106 [(some 17), (some 18), (some 6)] [mk (some 17) (.move (.tmp 1)) 22 none,
  mk (some 18) (.call { callee := (.value (.func 118)), args := #[(.tmp 17)], argTypes := #[22] }) 22 none,
  mk (some 6) (.assign (.tmp 18)) 22 none] fr.clear st fr k := evK_reg1 (i := 7) (by kernel_rfl) (by kernel_rfl)
noncomputable def c106_27 : Code := codeAt b106 [true, true, true, false, false]
theorem e106_27 : evK gS fi106 c106_27 fr st k = opsK gS fi106 [(some 19), (some 20), (some 7)] [mk (some 19) (.move (.tmp 6)) 22 none,
  mk (some 20) (.convert 22 2 (.tmp 19)) 2 none,
  mk (some 7) (.assign (.tmp 20)) 2 none] fr.clear st fr k := evK_reg1 (i := 8) (by kernel_rfl) (by kernel_rfl)
noncomputable def c106_29 : Code := codeAt b106 [true, true, true, false, true, false]
theorem e106_29 : evK gS fi106 c106_29 fr st k = opsK gS fi106 [(some 21), (some 22), (some 23)] [mk (some 21) (.move (.tmp 7)) 2 none,
  mk (some 22) (.move (.tmp 0)) 2 none,
  mk (some 23) (.binOp .neq 2 (.tmp 21) (.tmp 22) 2) 4 none] fr.clear st fr k := evK_reg1 (i := 9) (by kernel_rfl) (by kernel_rfl)
noncomputable def c106_32 : Code := codeAt b106 [true, true, true, false, true, true, false, false]
theorem e106_32 : evK gS fi106 c106_32 fr st k = opsK gS fi106 [(some 24), (some 25), (some 26), (some 27), (some 28), (some 29), (some 30), (some 4), (some 5)] [mk (some 24) (.move (.tmp 0)) 2 none,
  mk (some 25) (.move (.tmp 7)) 2 none,
  mk (some 26) (.binOp .lss 2 (.tmp 24) (.tmp 25) 2) 4 none,
  mk (some 27) (.move (.tmp 0)) 2 none,
  mk (some 28) (.move (.tmp 7)) 2 none,
  mk (some 29) (.binOp .gtr 2 (.tmp 27) (.tmp 28) 2) 4 none,
  mk (some 30) (.call { callee := (.value (.func 117)), args := #[(.tmp 26), (.tmp 29)], argTypes := #[4, 4] }) 3 none,
  mk (some 4) (.assign (.tmp 30)) 3 none,
  mk (some 5) (.assign (.const (.bool true))) 4 none] fr.clear st fr k := evK_reg1 (i := 10) (by kernel_rfl) (by kernel_rfl)
noncomputable def c106_33 : Code := .ret
theorem e106_33 : evK gS fi106 c106_33 fr st k = nextK gS fi106 k .ret fr st := rfl
noncomputable def c106_31 : Code := .seq c106_32 c106_33
theorem e106_31 : evK gS fi106 c106_31 fr st k = evK gS fi106 c106_32 fr st (.seq c106_33 k) := rfl
noncomputable def c106_34 : Code := .skip
theorem e106_34 : evK gS fi106 c106_34 fr st k = nextK gS fi106 k .normal fr st := rfl
noncomputable def c106_30 : Code := .cond (.tmp 23) c106_31 c106_34
theorem e106_30 : evK gS fi106 c106_30 fr st k = condK gS fi106 (fr.op (.tmp 23)).bool? c106_31 c106_34 fr st k := rfl
noncomputable def c106_28 : Code := .seq c106_29 c106_30
theorem e106_28 : evK gS fi106 c106_28 fr st k = evK gS fi106 c106_29 fr st (.seq c106_30 k) := rfl
noncomputable def c106_26 : Code := .seq c106_27 c106_28
theorem e106_26 : evK gS fi106 c106_26 fr st k = evK gS fi106 c106_27 fr st (.seq c106_28 k) := rfl
noncomputable def c106_36 : Code := codeAt b106 [true, true, true, true, false]
theorem e106_36 : evK gS fi106 c106_36 fr st k = opsK gS fi106 [(some 31), (some 32), (some 33), (some 34), (some 35), (some 36), (some 37), (some 4), (some 5)] [mk (some 31) (.move (.tmp 6)) 22 none,
  mk (some 32) (.move (.tmp 1)) 22 none,
  mk (some 33) (.binOp .lss 22 (.tmp 31) (.tmp 32) 22) 4 none,
  mk (some 34) (.move (.tmp 6)) 22 none,
  mk (some 35) (.move (.tmp 1)) 22 none,
  mk (some 36) (.binOp .gtr 22 (.tmp 34) (.tmp 35) 22) 4 none,
  mk (some 37) (.call { callee := (.value (.func 117)), args := #[(.tmp 33), (.tmp 36)], argTypes := #[4, 4] }) 3 none,
  mk (some 4) (.assign (.tmp 37)) 3 none,
  mk (some 5) (.assign (.const (.bool true))) 4 none] fr.clear st fr k := evK_reg1 (i := 11) (by kernel_rfl) (by kernel_rfl)
noncomputable def c106_37 : Code := .ret
theorem e106_37 : evK gS fi106 c106_37 fr st k = nextK gS fi106 k .ret fr st := rfl
noncomputable def c106_35 : Code := .seq c106_36 c106_37
theorem e106_35 : evK gS fi106 c106_35 fr st k = evK gS fi106 c106_36 fr st (.seq c106_37 k) := rfl
noncomputable def c106_25 : Code := .seq c106_26 c106_35
theorem e106_25 : evK gS fi106 c106_25 fr st k = evK gS fi106 c106_26 fr st (.seq c106_35 k) := rfl
noncomputable def c106_23 : Code := .seq c106_24 c106_25
theorem e106_23 : evK gS fi106 c106_23 fr st k = evK gS fi106 c106_24 fr st (.seq c106_25 k) := rfl
noncomputable def c106_2 : Code := .seq c106_3 c106_23
theorem e106_2 : evK gS fi106 c106_2 fr st k = evK gS fi106 c106_3 fr st (.seq c106_23 k) := rfl
noncomputable def c106_0 : Code := .seq c106_1 c106_2
theorem e106_0 : evK gS fi106 c106_0 fr st k = evK gS fi106 c106_1 fr st (.seq c106_2 k) := rfl
theorem m106 : mini fi106.body = c106_0 := by kernel_rfl
set_option maxHeartbeats 4000000 in
theorem c106 (n : Int) (x : Nat)  (st : St) : EvF gS 106 [.int .i64 n, .float .f64 x] st = some (.ret (.tuple [.int .i64 (icmp n x).1, .bool (icmp n x).2]) none, st) := by
  refine EvF_start fi106_eq (fun x h => by cases h) m106 ?_
  rw [st106]
  have hm : fi106.marks = [] := rfl
  have hl : fi106.locals = [] := rfl
  have hr : fi106.results = [.tmp 4, .tmp 5] := rfl
  by_cases h1 : feq x x = true
  · by_cases h2 : fge x 4890909195324358656 = true
    · simp (config := { contextual := true, maxSteps := 10000000 }) [icmp, sgn, h1, h2, -Int.not_le, -Int.not_lt, -Nat.not_le, -Nat.not_lt, ty2, ty3, ty4, ty22, hm, hl, hr, k116, k117, e106_1, e106_5, e106_8, e106_9, e106_7, e106_11, e106_14, e106_15, e106_13, e106_17, e106_20, e106_21, e106_19, e106_22, e106_18, e106_16, e106_12, e106_10, e106_6, e106_4, e106_3, e106_24, e106_27, e106_29, e106_32, e106_33, e106_31, e106_34, e106_30, e106_28, e106_26, e106_36, e106_37, e106_35, e106_25, e106_23, e106_2, e106_0]
    · by_cases h3 : flt x 14114281232179134464 = true
      · simp (config := { contextual := true, maxSteps := 10000000 }) [icmp, sgn, h1, h2, h3, -Int.not_le, -Int.not_lt, -Nat.not_le, -Nat.not_lt, ty2, ty3, ty4, ty22, hm, hl, hr, k116, k117, e106_1, e106_5, e106_8, e106_9, e106_7, e106_11, e106_14, e106_15, e106_13, e106_17, e106_20, e106_21, e106_19, e106_22, e106_18, e106_16, e106_12, e106_10, e106_6, e106_4, e106_3, e106_24, e106_27, e106_29, e106_32, e106_33, e106_31, e106_34, e106_30, e106_28, e106_26, e106_36, e106_37, e106_35, e106_25, e106_23, e106_2, e106_0]
      · obtain ⟨e1, e2, e3, e4⟩ := conv_ok x h1 h2 h3
        have e5 : IntKind.min .i64 ≤ ftz x := e3
        have e6 : ftz x ≤ IntKind.max .i64 := e4
        by_cases h4 : ftz x = n
        · subst h4
          simp (config := { contextual := true, maxSteps := 10000000 }) [icmp, h1, h2, h3, k118 x e1, e2, e3, e4, e5, e6, -Int.not_le, -Int.not_lt, -Nat.not_le, -Nat.not_lt, ty2, ty3, ty4, ty22, hm, hl, hr, k116, k117, e106_1, e106_5, e106_8, e106_9, e106_7, e106_11, e106_14, e106_15, e106_13, e106_17, e106_20, e106_21, e106_19, e106_22, e106_18, e106_16, e106_12, e106_10, e106_6, e106_4, e106_3, e106_24, e106_27, e106_29, e106_32, e106_33, e106_31, e106_34, e106_30, e106_28, e106_26, e106_36, e106_37, e106_35, e106_25, e106_23, e106_2, e106_0]
          skip
        · skip
          have h5 : ¬ n = ftz x := fun h => h4 h.symm
          simp (config := { contextual := true, maxSteps := 10000000 }) [icmp, h1, h2, h3, h4, h5, k118 x e1, e2, e3, e4, e5, e6, -Int.not_le, -Int.not_lt, -Nat.not_le, -Nat.not_lt, ty2, ty3, ty4, ty22, hm, hl, hr, k116, k117, e106_1, e106_5, e106_8, e106_9, e106_7, e106_11, e106_14, e106_15, e106_13, e106_17, e106_20, e106_21, e106_19, e106_22, e106_18, e106_16, e106_12, e106_10, e106_6, e106_4, e106_3, e106_24, e106_27, e106_29, e106_32, e106_33, e106_31, e106_34, e106_30, e106_28, e106_26, e106_36, e106_37, e106_35, e106_25, e106_23, e106_2, e106_0]
          skip
  · simp (config := { contextual := true, maxSteps := 10000000 }) [icmp, sgn, h1, -Int.not_le, -Int.not_lt, -Nat.not_le, -Nat.not_lt, ty2, ty3, ty4, ty22, hm, hl, hr, k116, k117, e106_1, e106_5, e106_8, e106_9, e106_7, e106_11, e106_14, e106_15, e106_13, e106_17, e106_20, e106_21, e106_19, e106_22, e106_18, e106_16, e106_12, e106_10, e106_6, e106_4, e106_3, e106_24, e106_27, e106_29, e106_32, e106_33, e106_31, e106_34, e106_30, e106_28, e106_26, e106_36, e106_37, e106_35, e106_25, e106_23, e106_2, e106_0]
theorem k106 (n : Int) (x : Nat)  (fr : Fr) (st : St) : callStep gS (EvF gS) 106 [.int .i64 n, .float .f64 x] fr st = some (.ok (retE none (.tuple [.int .i64 (icmp n x).1, .bool (icmp n x).2])) fr st) :=
  call_pure rfl fi106_eq rfl (fun st => c106 n x  st) (by simp)
noncomputable def fi119 : FI := { body := codeOf Try.f119, ntmps := 9, results := [.tmp 2], pers := [0, 2], locals := [], pure := true, marks := [] }
theorem fi119_eq : gS.fn 119 = some fi119 := by kernel_rfl
theorem st119 (a0 : V) : startFr fi119 [a0] = { ps := [(0, .val a0), (2, .any)], ts := [], lc := [] } := rfl
noncomputable def b119 : Code := mini (codeOf Try.f119)
noncomputable def c119_1 : Code := codeAt b119 [false]
theorem e119_1 : evK gS fi119 c119_1 fr st k = opsK gS fi119 [(some 2)] [mk (some 2) (.assign (.const (.int .u64 0))) 123 none] fr.clear st fr k := evK_reg1 (i := 0) (by kernel_rfl) (by kernel_rfl)
noncomputable def c119_4 : Code := codeAt b119 [true, false, false]
theorem e119_4 : evK gS fi119 c119_4 fr st k = opsK gS fi119 [(some 3), (some 4)] [mk (some 3) (.move (.tmp 0)) 22 none,
  mk (some 4) (.call { callee := (.value (.func 116)), args := #[(.tmp 3)], argTypes := #[22] }) 4 none] fr.clear st fr k := evK_reg1 (i := 1) (by kernel_rfl) (by kernel_rfl)
noncomputable def c119_7 : Code := codeAt b119 [true, false, true, false, false]
theorem e119_7 : evK gS fi119 c119_7 fr st k = opsK gS fi119 [(some 2)] [mk (some 2) (.assign (.const (.int .u64 9221120237041090560))) 123 none] fr.clear st fr k := evK_reg1 (i := 2) (by kernel_rfl) (by kernel_rfl)
noncomputable def c119_8 : Code := .ret
theorem e119_8 : evK gS fi119 c119_8 fr st k = nextK gS fi119 k .ret fr st := rfl
noncomputable def c119_6 : Code := .seq c119_7 c119_8
theorem e119_6 : evK gS fi119 c119_6 fr st k = evK gS fi119 c119_7 fr st (.seq c119_8 k) := rfl
noncomputable def c119_9 : Code := .skip
theorem e119_9 : evK gS fi119 c119_9 fr st k = nextK gS fi119 k .normal fr st := rfl
noncomputable def c119_5 : Code := .cond (.tmp 4) c119_6 c119_9
theorem e119_5 : evK gS fi119 c119_5 fr st k = condK gS fi119 (fr.op (.tmp 4)).bool? c119_6 c119_9 fr st k := rfl
noncomputable def c119_3 : Code := .seq c119_4 c119_5
theorem e119_3 : evK gS fi119 c119_3 fr st k = evK gS fi119 c119_4 fr st (.seq c119_5 k) := rfl
noncomputable def c119_12 : Code := codeAt b119 [true, true, false, false]
theorem e119_12 : evK gS fi119 c119_12 fr st k = opsK gS fi119 [(some 5), (some 6)] [mk (some 5) (.move (.tmp 0)) 22 none,
  mk (some 6) (.binOp .eql 22 (.tmp 5) (.const (.float .f64 0)) 22) 4 none] fr.clear st fr k := evK_reg1 (i := 3) (by kernel_rfl) (by kernel_rfl)
noncomputable def c119_15 : Code := codeAt b119 [true, true, false, true, false, false]
theorem e119_15 : evK gS fi119 c119_15 fr st k = opsK gS fi119 [(some 2)] [mk (some 2) (.assign (.const (.int .u64 0))) 123 none] fr.clear st fr k := evK_reg1 (i := 4) (by kernel_rfl) (by kernel_rfl)
noncomputable def c119_16 : Code := .ret
theorem e119_16 : evK gS fi119 c119_16 fr st k = nextK gS fi119 k .ret fr st := rfl
noncomputable def c119_14 : Code := .seq c119_15 c119_16
theorem e119_14 : evK gS fi119 c119_14 fr st k = evK gS fi119 c119_15 fr st (.seq c119_16 k) := rfl
noncomputable def c119_17 : Code := .skip
theorem e119_17 : evK gS fi119 c119_17 fr st k = nextK gS fi119 k .normal fr st := rfl
noncomputable def c119_13 : Code := .cond (.tmp 6) c119_14 c119_17
theorem e119_13 : evK gS fi119 c119_13 fr st k = condK gS fi119 (fr.op (.tmp 6)).bool? c119_14 c119_17 fr st k := rfl
noncomputable def c119_11 : Code := .seq c119_12 c119_13
theorem e119_11 : evK gS fi119 c119_11 fr st k = evK gS fi119 c119_12 fr st (.seq c119_13 k) := rfl
noncomputable def c119_19 : Code := codeAt b119 [true, true, true, false]
theorem e119_19 : evK gS fi119 c119_19 fr st k = opsK gS fi119 [(some 7), (some 8), (some 2)] [mk (some 7) (.move (.tmp 0)) 22 none,
  mk (some 8) (.call { callee := (.value (.func 115)), args := #[(.tmp 7)], argTypes := #[22] }) 123 none,
  mk (some 2) (.assign (.tmp 8)) 123 none] fr.clear st fr k := evK_reg1 (i := 5) (by kernel_rfl) (by kernel_rfl)
noncomputable def c119_20 : Code := .ret
theorem e119_20 : evK gS fi119 c119_20 fr st k = nextK gS fi119 k .ret fr st := rfl
noncomputable def c119_18 : Code := .seq c119_19 c119_20
theorem e119_18 : evK gS fi119 c119_18 fr st k = evK gS fi119 c119_19 fr st (.seq c119_20 k) := rfl
noncomputable def c119_10 : Code := .seq c119_11 c119_18
theorem e119_10 : evK gS fi119 c119_10 fr st k = evK gS fi119 c119_11 fr st (.seq c119_18 k) := rfl
noncomputable def c119_2 : Code := .seq c119_3 c119_10
theorem e119_2 : evK gS fi119 c119_2 fr st k = evK gS fi119 c119_3 fr st (.seq c119_10 k) := rfl
noncomputable def c119_0 : Code := .seq c119_1 c119_2
theorem e119_0 : evK gS fi119 c119_0 fr st k = evK gS fi119 c119_1 fr st (.seq c119_2 k) := rfl
theorem m119 : mini fi119.body = c119_0 := by kernel_rfl
set_option maxHeartbeats 4000000 in
theorem c119 (x : Nat)  (st : St) : EvF gS 119 [.float .f64 x] st = some (.ret (.int .u64 (fbits x)) none, st) := by
  refine EvF_start fi119_eq (fun x h => by cases h) m119 ?_
  rw [st119]
  have hm : fi119.marks = [] := rfl
  have hl : fi119.locals = [] := rfl
  have hr : fi119.results = [.tmp 2] := rfl
  simp (config := { contextual := true, maxSteps := 10000000, maxDischargeDepth := 6 }) [-Int.not_le, -Int.not_lt, -Nat.not_le, -Nat.not_lt, ty4, ty22, ty123, hm, hl, hr, k115, k116, e119_1, e119_4, e119_7, e119_8, e119_6, e119_9, e119_5, e119_3, e119_12, e119_15, e119_16, e119_14, e119_17, e119_13, e119_11, e119_19, e119_20, e119_18, e119_10, e119_2, e119_0]
  all_goals try simp (config := { contextual := true }) [-Int.not_le, -Int.not_lt, -Nat.not_le, -Nat.not_lt, fbits]
  all_goals first | done | grind | omega | (trace_state; fail)
theorem k119 (x : Nat)  (fr : Fr) (st : St) : callStep gS (EvF gS) 119 [.float .f64 x] fr st = some (.ok (retE none (.int .u64 (fbits x))) fr st) :=
  call_pure rfl fi119_eq rfl (fun st => c119 x  st) (by simp)
noncomputable def fi109 : FI := { body := codeOf Try.f109, ntmps := 10, results := [.tmp 4], pers := [0, 1, 4], locals := [], pure := true, marks := [] }
theorem fi109_eq : gS.fn 109 = some fi109 := by kernel_rfl
theorem st109 (a0 a1 : V) : startFr fi109 [a0, a1] = { ps := [(0, .val a0), (1, .val a1), (4, .any)], ts := [], lc := [] } := rfl
noncomputable def b109 : Code := mini (codeOf Try.f109)
noncomputable def c109_1 : Code := codeAt b109 [false]
theorem e109_1 : evK gS fi109 c109_1 fr st k = opsK gS fi109 [(some 4)] [mk (some 4) (.assign (.const (.bool false))) 4 none] fr.clear st fr k := evK_reg1 (i := 0) (by kernel_rfl) (by kernel_rfl)
noncomputable def c109_3 : Code := codeAt b109 [true, false]
theorem e109_3 : evK gS fi109 c109_3 fr st k = opsK gS fi109 [(some 5), (some 6), (some 7), (some 8), (some 9), (some 4)] [mk (some 5) (.move (.tmp 0)) 22 none,
  mk (some 6) (.call { callee := (.value (.func 119)), args := #[(.tmp 5)], argTypes := #[22] }) 123 none,
  mk (some 7) (.move (.tmp 1)) 22 none,
  mk (some 8) (.call { callee := (.value (.func 119)), args := #[(.tmp 7)], argTypes := #[22] }) 123 none,
  mk (some 9) (.binOp .eql 123 (.tmp 6) (.tmp 8) 123) 4 none,
  mk (some 4) (.assign (.tmp 9)) 4 none] fr.clear st fr k := evK_reg1 (i := 1) (by kernel_rfl) (by kernel_rfl)
noncomputable def c109_4 : Code := .ret
theorem e109_4 : evK gS fi109 c109_4 fr st k = nextK gS fi109 k .ret fr st := rfl
noncomputable def c109_2 : Code := .seq c109_3 c109_4
theorem e109_2 : evK gS fi109 c109_2 fr st k = evK gS fi109 c109_3 fr st (.seq c109_4 k) := rfl
noncomputable def c109_0 : Code := .seq c109_1 c109_2
theorem e109_0 : evK gS fi109 c109_0 fr st k = evK gS fi109 c109_1 fr st (.seq c109_2 k) := rfl
theorem m109 : mini fi109.body = c109_0 := by kernel_rfl
set_option maxHeartbeats 4000000 in
theorem c109 (a : Nat) (b : Nat)  (st : St) : EvF gS 109 [.float .f64 a, .float .f64 b] st = some (.ret (.bool (fbits a = fbits b)) none, st) := by
  refine EvF_start fi109_eq (fun x h => by cases h) m109 ?_
  rw [st109]
  have hm : fi109.marks = [] := rfl
  have hl : fi109.locals = [] := rfl
  have hr : fi109.results = [.tmp 4] := rfl
  simp (config := { contextual := true, maxSteps := 10000000, maxDischargeDepth := 6 }) [-Int.not_le, -Int.not_lt, -Nat.not_le, -Nat.not_lt, ty4, ty22, ty123, hm, hl, hr, k119, e109_1, e109_3, e109_4, e109_2, e109_0]
  all_goals first | done | grind | omega | (trace_state; fail)
theorem k109 (a : Nat) (b : Nat)  (fr : Fr) (st : St) : callStep gS (EvF gS) 109 [.float .f64 a, .float .f64 b] fr st = some (.ok (retE none (.bool (fbits a = fbits b))) fr st) :=
  call_pure rfl fi109_eq rfl (fun st => c109 a b  st) (by simp)
noncomputable def fi104 : FI := { body := codeOf Try.f104, ntmps := 7, results := [.tmp 4], pers := [0, 1, 4], locals := [], pure := true, marks := [] }
theorem fi104_eq : gS.fn 104 = some fi104 := by kernel_rfl
theorem st104 (a0 a1 : V) : startFr fi104 [a0, a1] = { ps := [(0, .val a0), (1, .val a1), (4, .any)], ts := [], lc := [] } := rfl
noncomputable def b104 : Code := mini (codeOf Try.f104)
noncomputable def c104_1 : Code := codeAt b104 [false]
theorem e104_1 : evK gS fi104 c104_1 fr st k = opsK gS fi104 [(some 4)] [mk (some 4) (.assign (.const (.int .i64 0))) 3 none] fr.clear st fr k := evK_reg1 (i := 0) (by kernel_rfl) (by kernel_rfl)
noncomputable def c104_4 : Code := codeAt b104 [true, false, false]
theorem e104_4 : evK gS fi104 c104_4 fr st k = opsK gS fi104 [(some 5)] [mk (some 5) (.move (.tmp 0)) 4 none] fr.clear st fr k := evK_reg1 (i := 1) (by kernel_rfl) (by kernel_rfl)
noncomputable def c104_7 : Code := codeAt b104 [true, false, true, false, false]
theorem e104_7 : evK gS fi104 c104_7 fr st k = opsK gS fi104 [(some 4)] [mk (some 4) (.assign (.const (.int .i64 (-1)))) 3 none] fr.clear st fr k := evK_reg1 (i := 2) (by kernel_rfl) (by kernel_rfl)
noncomputable def c104_8 : Code := .ret
theorem e104_8 : evK gS fi104 c104_8 fr st k = nextK gS fi104 k .ret fr st := rfl
noncomputable def c104_6 : Code := .seq c104_7 c104_8
theorem e104_6 : evK gS fi104 c104_6 fr st k = evK gS fi104 c104_7 fr st (.seq c104_8 k) := rfl
noncomputable def c104_9 : Code := .skip
theorem e104_9 : evK gS fi104 c104_9 fr st k = nextK gS fi104 k .normal fr st := rfl
noncomputable def c104_5 : Code := .cond (.tmp 5) c104_6 c104_9
theorem e104_5 : evK gS fi104 c104_5 fr st k = condK gS fi104 (fr.op (.tmp 5)).bool? c104_6 c104_9 fr st k := rfl
noncomputable def c104_3 : Code := .seq c104_4 c104_5
theorem e104_3 : evK gS fi104 c104_3 fr st k = evK gS fi104 c104_4 fr st (.seq c104_5 k) := rfl
noncomputable def c104_12 : Code := codeAt b104 [true, true, false, false]
theorem e104_12 : evK gS fi104 c104_12 fr st k = opsK gS fi104 [(some 6)] [mk (some 6) (.move (.tmp 1)) 4 none] fr.clear st fr k := evK_reg1 (i := 3) (by kernel_rfl) (by kernel_rfl)
noncomputable def c104_15 : Code := codeAt b104 [true, true, false, true, false, false]
theorem e104_15 : evK gS fi104 c104_15 fr st k = opsK gS fi104 [(some 4)] [mk (some 4) (.assign (.const (.int .i64 1))) 3 none] fr.clear st fr k := evK_reg1 (i := 4) (by kernel_rfl) (by kernel_rfl)
noncomputable def c104_16 : Code := .ret
theorem e104_16 : evK gS fi104 c104_16 fr st k = nextK gS fi104 k .ret fr st := rfl
noncomputable def c104_14 : Code := .seq c104_15 c104_16
theorem e104_14 : evK gS fi104 c104_14 fr st k = evK gS fi104 c104_15 fr st (.seq c104_16 k) := rfl
noncomputable def c104_17 : Code := .skip
theorem e104_17 : evK gS fi104 c104_17 fr st k = nextK gS fi104 k .normal fr st := rfl
noncomputable def c104_13 : Code := .cond (.tmp 6) c104_14 c104_17
theorem e104_13 : evK gS fi104 c104_13 fr st k = condK gS fi104 (fr.op (.tmp 6)).bool? c104_14 c104_17 fr st k := rfl
noncomputable def c104_11 : Code := .seq c104_12 c104_13
theorem e104_11 : evK gS fi104 c104_11 fr st k = evK gS fi104 c104_12 fr st (.seq c104_13 k) := rfl
noncomputable def c104_19 : Code := codeAt b104 [true, true, true, false]
theorem e104_19 : evK gS fi104 c104_19 fr st k = opsK gS fi104 [(some 4)] [mk (some 4) (.assign (.const (.int .i64 0))) 3 none] fr.clear st fr k := evK_reg1 (i := 5) (by kernel_rfl) (by kernel_rfl)
noncomputable def c104_20 : Code := .ret
theorem e104_20 : evK gS fi104 c104_20 fr st k = nextK gS fi104 k .ret fr st := rfl
noncomputable def c104_18 : Code := .seq c104_19 c104_20
theorem e104_18 : evK gS fi104 c104_18 fr st k = evK gS fi104 c104_19 fr st (.seq c104_20 k) := rfl
noncomputable def c104_10 : Code := .seq c104_11 c104_18
theorem e104_10 : evK gS fi104 c104_10 fr st k = evK gS fi104 c104_11 fr st (.seq c104_18 k) := rfl
noncomputable def c104_2 : Code := .seq c104_3 c104_10
theorem e104_2 : evK gS fi104 c104_2 fr st k = evK gS fi104 c104_3 fr st (.seq c104_10 k) := rfl
noncomputable def c104_0 : Code := .seq c104_1 c104_2
theorem e104_0 : evK gS fi104 c104_0 fr st k = evK gS fi104 c104_1 fr st (.seq c104_2 k) := rfl
theorem m104 : mini fi104.body = c104_0 := by kernel_rfl
set_option maxHeartbeats 4000000 in
theorem c104 (b : Bool) (a : Bool)  (st : St) : EvF gS 104 [.bool b, .bool a] st = some (.ret (.int .i64 (sgn b a)) none, st) := by
  refine EvF_start fi104_eq (fun x h => by cases h) m104 ?_
  rw [st104]
  have hm : fi104.marks = [] := rfl
  have hl : fi104.locals = [] := rfl
  have hr : fi104.results = [.tmp 4] := rfl
  simp (config := { contextual := true, maxSteps := 10000000, maxDischargeDepth := 6 }) [-Int.not_le, -Int.not_lt, -Nat.not_le, -Nat.not_lt, ty3, ty4, hm, hl, hr, e104_1, e104_4, e104_7, e104_8, e104_6, e104_9, e104_5, e104_3, e104_12, e104_15, e104_16, e104_14, e104_17, e104_13, e104_11, e104_19, e104_20, e104_18, e104_10, e104_2, e104_0]
  all_goals try simp (config := { contextual := true }) [-Int.not_le, -Int.not_lt, -Nat.not_le, -Nat.not_lt, sgn]
  all_goals first | done | grind | omega | (trace_state; fail)
theorem k104 (b : Bool) (a : Bool)  (fr : Fr) (st : St) : callStep gS (EvF gS) 104 [.bool b, .bool a] fr st = some (.ok (retE none (.int .i64 (sgn b a))) fr st) :=
  call_pure rfl fi104_eq rfl (fun st => c104 b a  st) (by simp)
end Go.Proofs.Ytclpbfkbpcjejaa
namespace Go.Proofs.Ytclpbfkbpcjejaa
open Go Go.Ab
set_option linter.unusedVariables false
set_option linter.unusedSimpArgs false
set_option linter.unnecessarySimpa false
set_option maxRecDepth 20000
variable (fr : Fr) (st : St) (k : Kt)
noncomputable def fi75 : FI := { body := codeOf Try.f75, ntmps := 124, results := [.tmp 4, .tmp 5], pers := [0, 1, 2, 3, 4, 5, 6, 7], locals := [2, 3], pure := true, marks := [] }
theorem fi75_eq : gS.fn 75 = some fi75 := by kernel_rfl
theorem st75 (a0 a1 : V) : startFr fi75 [a0, a1] = { ps := [(0, .val a0), (1, .val a1), (2, .any), (3, .any), (4, .any), (5, .any), (6, .any), (7, .any)], ts := [], lc := [] } := rfl
noncomputable def b75 : Code := mini (codeOf Try.f75)
noncomputable def c75_1 : Code := codeAt b75 [false]
theorem e75_1 : evK gS fi75 c75_1 fr st k = opsK gS fi75 [(some 2), (some 3), (some 4), (some 5)] [mk (some 2) (.box 24 (.tmp 0)) 0 none,
  mk (some 3) (.box 24 (.tmp 1)) 0 none,
  mk (some 4) (.assign (.const (.int .i64 0))) 3 none,
  mk (some 5) (.assign (.const (.bool false))) 4 none] fr.clear st fr k := evK_reg1 (i := 0) (by kernel_rfl) (by kernel_rfl)
noncomputable def c75_5 : Code := codeAt b75 [true, false, false, false]
theorem e75_5 : evK gS fi75 c75_5 fr st k = opsK gS fi75 [(some 9), (some 10), (some 11), (some 12), (some 13), (some 14), (some 15), (some 16), (some 8)] [mk (some 9) (.fieldAddr 24 (.tmp 2) 0) 0 none,
  mk (some 10) (.load 3 (.tmp 9)) 3 none,
  mk (some 11) (.binOp .eql 3 (.tmp 10) (.const (.int .i64 1)) 3) 4 none,
  mk (some 12) (.move (.tmp 11)) 4 none,
  mk (some 13) (.fieldAddr 24 (.tmp 3) 0) 0 (some (3, true)),
  mk (some 14) (.load 3 (.tmp 13)) 3 (some (3, true)),
  mk (some 15) (.binOp .eql 3 (.tmp 14) (.const (.int .i64 1)) 3) 4 (some (3, true)),
  mk (some 16) (.pick (.tmp 12) (.tmp 15) (.const (.bool false))) 4 none,
  mk (some 8) (.assign (.tmp 16)) 4 none] fr.clear st fr k := evK_reg1 (i := 1) (by kernel_rfl) (by kernel_rfl)
noncomputable def c75_8 : Code := codeAt b75 [true, false, false, true, false, false]
theorem e75_8 : evK gS fi75 c75_8 fr st k = opsK gS fi75 [(some 17), (some 18), (some 19), (some 20), (some 21), (some 22), (some 23), (some 24), (some 25), (some 26), (some 27), (some 4), (some 5)] [mk (some 17) (.fieldAddr 24 (.tmp 2) 1) 0 none,
  mk (some 18) (.load 2 (.tmp 17)) 2 none,
  mk (some 19) (.fieldAddr 24 (.tmp 3) 1) 0 none,
  mk (some 20) (.load 2 (.tmp 19)) 2 none,
  mk (some 21) (.binOp .lss 2 (.tmp 18) (.tmp 20) 2) 4 none,
  mk (some 22) (.fieldAddr 24 (.tmp 2) 1) 0 none,
  mk (some 23) (.load 2 (.tmp 22)) 2 none,
  mk (some 24) (.fieldAddr 24 (.tmp 3) 1) 0 none,
  mk (some 25) (.load 2 (.tmp 24)) 2 none,
  mk (some 26) (.binOp .gtr 2 (.tmp 23) (.tmp 25) 2) 4 none,
  mk (some 27) (.call { callee := (.value (.func 104)), args := #[(.tmp 21), (.tmp 26)], argTypes := #[4, 4] }) 3 none,
  mk (some 4) (.assign (.tmp 27)) 3 none,
  mk (some 5) (.assign (.const (.bool true))) 4 none] fr.clear st fr k := evK_reg1 (i := 2) (by kernel_rfl) (by kernel_rfl)
noncomputable def c75_9 : Code := .ret
theorem e75_9 : evK gS fi75 c75_9 fr st k = nextK gS fi75 k .ret fr st := rfl
noncomputable def c75_7 : Code := .seq c75_8 c75_9
theorem e75_7 : evK gS fi75 c75_7 fr st k = evK gS fi75 c75_8 fr st (.seq c75_9 k) := rfl
noncomputable def c75_11 : Code := codeAt b75 [true, false, false, true, true, false]
theorem e75_11 : evK gS fi75 c75_11 fr st k = opsK gS fi75 [(some 29), (some 30), (some 31), (some 32), (some 33), (some 34), (some 35), (some 36), (some 28)] [mk (some 29) (.fieldAddr 24 (.tmp 2) 0) 0 none,
  mk (some 30) (.load 3 (.tmp 29)) 3 none,
  mk (some 31) (.binOp .eql 3 (.tmp 30) (.const (.int .i64 2)) 3) 4 none,
  mk (some 32) (.move (.tmp 31)) 4 none,
  mk (some 33) (.fieldAddr 24 (.tmp 3) 0) 0 (some (3, true)),
  mk (some 34) (.load 3 (.tmp 33)) 3 (some (3, true)),
  mk (some 35) (.binOp .eql 3 (.tmp 34) (.const (.int .i64 2)) 3) 4 (some (3, true)),
  mk (some 36) (.pick (.tmp 32) (.tmp 35) (.const (.bool false))) 4 none,
  mk (some 28) (.assign (.tmp 36)) 4 none] fr.clear st fr k := evK_reg1 (i := 3) (by kernel_rfl) (by kernel_rfl)
noncomputable def c75_14 : Code := codeAt b75 [true, false, false, true, true, true, false, false]
theorem e75_14 : evK gS fi75 c75_14 fr st k = opsK gS fi75 [(some 37), (some 38), (some 39), (some 40), (some 41), (some 42), (some 43), (some 4), (some 5)] [mk (some 37) (.fieldAddr 24 (.tmp 2) 2) 0 none,
  mk (some 38) (.load 22 (.tmp 37)) 22 none,
  mk (some 39) (.fieldAddr 24 (.tmp 3) 2) 0 none,
  mk (some 40) (.load 22 (.tmp 39)) 22 none,
  mk (some 41) (.call { callee := (.value (.func 105)), args := #[(.tmp 38), (.tmp 40)], argTypes := #[22, 22] }) 94 none,
  mk (some 42) (.extract (.tmp 41) 0) 3 none,
  mk (some 43) (.extract (.tmp 41) 1) 4 none,
  mk (some 4) (.assign (.tmp 42)) 3 none,
  mk (some 5) (.assign (.tmp 43)) 4 none] fr.clear st fr k := evK_reg1 (i := 4) (by kernel_rfl) (by kernel_rfl)
noncomputable def c75_15 : Code := .ret
theorem e75_15 : evK gS fi75 c75_15 fr st k = nextK gS fi75 k .ret fr st := rfl
noncomputable def c75_13 : Code := .seq c75_14 c75_15
theorem e75_13 : evK gS fi75 c75_13 fr st k = evK gS fi75 c75_14 fr st (.seq c75_15 k) := rfl
noncomputable def c75_17 : Code := codeAt b75 [true, false, false, true, true, true, true, false]
theorem e75_17 : evK gS fi75 c75_17 fr st k = opsK gS fi75 [(some 45), (some 46), (some 47), (some 48), (some 49), (some 50), (some 51), (some 52), (some 44)] [mk (some 45) (.fieldAddr 24 (.tmp 2) 0) 0 none,
  mk (some 46) (.load 3 (.tmp 45)) 3 none,
  mk (some 47) (.binOp .eql 3 (.tmp 46) (.const (.int .i64 1)) 3) 4 none,
  mk (some 48) (.move (.tmp 47)) 4 none,
  mk (some 49) (.fieldAddr 24 (.tmp 3) 0) 0 (some (3, true)),
  mk (some 50) (.load 3 (.tmp 49)) 3 (some (3, true)),
  mk (some 51) (.binOp .eql 3 (.tmp 50) (.const (.int .i64 2)) 3) 4 (some (3, true)),
  mk (some 52) (.pick (.tmp 48) (.tmp 51) (.const (.bool false))) 4 none,
  mk (some 44) (.assign (.tmp 52)) 4 none] fr.clear st fr k := evK_reg1 (i := 5) (by kernel_rfl) (by kernel_rfl)
noncomputable def c75_20 : Code := codeAt b75 [true, false, false, true, true, true, true, true, false, false]
theorem e75_20 : evK gS fi75 c75_20 fr st k = opsK gS fi75 [(some 53), (some 54), (some 55), (some 56), (some 57), (some 58), (some 59), (some 4), (some 5)] [mk (some 53) (.fieldAddr 24 (.tmp 2) 1) 0 none,
  mk (some 54) (.load 2 (.tmp 53)) 2 none,
  mk (some 55) (.fieldAddr 24 (.tmp 3) 2) 0 none,
  mk (some 56) (.load 22 (.tmp 55)) 22 none,
  mk (some 57) (.call { callee := (.value (.func 106)), args := #[(.tmp 54), (.tmp 56)], argTypes := #[2, 22] }) 94 none,
  mk (some 58) (.extract (.tmp 57) 0) 3 none,
  mk (some 59) (.extract (.tmp 57) 1) 4 none,
  mk (some 4) (.assign (.tmp 58)) 3 none,
  mk (some 5) (.assign (.tmp 59)) 4 none] fr.clear st fr k := evK_reg1 (i := 6) (by kernel_rfl) (by kernel_rfl)
noncomputable def c75_21 : Code := .ret
theorem e75_21 : evK gS fi75 c75_21 fr st k = nextK gS fi75 k .ret fr st := rfl
noncomputable def c75_19 : Code := .seq c75_20 c75_21
theorem e75_19 : evK gS fi75 c75_19 fr st k = evK gS fi75 c75_20 fr st (.seq c75_21 k) := rfl
noncomputable def c75_23 : Code := codeAt b75 [true, false, false, true, true, true, true, true, true, false]
theorem e75_23 : evK gS fi75 c75_23 fr st k = opsK gS fi75 [(some 61), (some 62), (some 63), (some 64), (some 65), (some 66), (some 67), (some 68), (some 60)] [mk (some 61) (.fieldAddr 24 (.tmp 2) 0) 0 none,
  mk (some 62) (.load 3 (.tmp 61)) 3 none,
  mk (some 63) (.binOp .eql 3 (.tmp 62) (.const (.int .i64 2)) 3) 4 none,
  mk (some 64) (.move (.tmp 63)) 4 none,
  mk (some 65) (.fieldAddr 24 (.tmp 3) 0) 0 (some (3, true)),
  mk (some 66) (.load 3 (.tmp 65)) 3 (some (3, true)),
  mk (some 67) (.binOp .eql 3 (.tmp 66) (.const (.int .i64 1)) 3) 4 (some (3, true)),
  mk (some 68) (.pick (.tmp 64) (.tmp 67) (.const (.bool false))) 4 none,
  mk (some 60) (.assign (.tmp 68)) 4 none] fr.clear st fr k := evK_reg1 (i := 7) (by kernel_rfl) (by kernel_rfl)
noncomputable def c75_26 : Code := codeAt b75 [true, false, false, true, true, true, true, true, true, true, false, false]
theorem e75_26 : evK gS fi75 c75_26 fr st k = opsK gS fi75 [(some 70), (some 71), (some 72), (some 73), (some 74), (some 69), (some 75), (some 76), (some 6), (some 7)] [mk (some 70) (.fieldAddr 24 (.tmp 3) 1) 0 none,
  mk (some 71) (.load 2 (.tmp 70)) 2 none,
  mk (some 72) (.fieldAddr 24 (.tmp 2) 2) 0 none,
  mk (some 73) (.load 22 (.tmp 72)) 22 none,
  mk (some 74) (.call { callee := (.value (.func 106)), args := #[(.tmp 71), (.tmp 73)], argTypes := #[2, 22] }) 94 none,
  mk (some 69) (.move (.tmp 74)) 94 none,
  mk (some 75) (.extract (.tmp 69) 0) 3 none,
  mk (some 76) (.extract (.tmp 69) 1) 4 none,
  mk (some 6) (.assign (.tmp 75)) 3 none,
  mk (some 7) (.assign (.tmp 76)) 4 none] fr.clear st fr k := evK_reg1 (i := 8) (by kernel_rfl) (by kernel_rfl)
noncomputable def c75_28 : Code := codeAt b75 [true, false, false, true, true, true, true, true, true, true, false, true, false]
theorem e75_28 : evK gS fi75 c75_28 fr st k = opsK gS fi75 [(some 77), (some 78), (some 79), (some 4), (some 5)] [mk (some 77) (.move (.tmp 6)) 3 none,
  mk (some 78) (.unOp .neg 3 (.tmp 77)) 3 none,
  mk (some 79) (.move (.tmp 7)) 4 none,
  mk (some 4) (.assign (.tmp 78)) 3 none,
  mk (some 5) (.assign (.tmp 79)) 4 none] fr.clear st fr k := evK_reg1 (i := 9) (by kernel_rfl) (by kernel_rfl)
noncomputable def c75_29 : Code := .ret
theorem e75_29 : evK gS fi75 c75_29 fr st k = nextK gS fi75 k .ret fr st := rfl
noncomputable def c75_27 : Code := .seq c75_28 c75_29
theorem e75_27 : evK gS fi75 c75_27 fr st k = evK gS fi75 c75_28 fr st (.seq c75_29 k) := rfl
noncomputable def c75_25 : Code := .seq c75_26 c75_27
theorem e75_25 : evK gS fi75 c75_25 fr st k = evK gS fi75 c75_26 fr st (.seq c75_27 k) := rfl
noncomputable def c75_31 : Code := codeAt b75 [true, false, false, true, true, true, true, true, true, true, true, false]
theorem e75_31 : evK gS fi75 c75_31 fr st k = opsK gS fi75 [(some 81), (some 82), (some 83), (some 84), (some 85), (some 86), (some 87), (some 88), (some 80)] [mk (some 81) (.fieldAddr 24 (.tmp 2) 0) 0 none,
  mk (some 82) (.load 3 (.tmp 81)) 3 none,
  mk (some 83) (.binOp .eql 3 (.tmp 82) (.const (.int .i64 3)) 3) 4 none,
  mk (some 84) (.move (.tmp 83)) 4 none,
  mk (some 85) (.fieldAddr 24 (.tmp 3) 0) 0 (some (3, true)),
  mk (some 86) (.load 3 (.tmp 85)) 3 (some (3, true)),
  mk (some 87) (.binOp .eql 3 (.tmp 86) (.const (.int .i64 3)) 3) 4 (some (3, true)),
  mk (some 88) (.pick (.tmp 84) (.tmp 87) (.const (.bool false))) 4 none,
  mk (some 80) (.assign (.tmp 88)) 4 none] fr.clear st fr k := evK_reg1 (i := 10) (by kernel_rfl) (by kernel_rfl)
noncomputable def c75_34 : Code := codeAt b75 [true, false, false, true, true, true, true, true, true, true, true, true, false, false]
theorem e75_34 : evK gS fi75 c75_34 fr st k = opsK gS fi75 [(some 89), (some 90), (some 91), (some 92), (some 93), (some 94), (some 95), (some 96), (some 97), (some 98), (some 99), (some 4), (some 5)] [mk (some 89) (.fieldAddr 24 (.tmp 2) 3) 0 none,
  mk (some 90) (.load 9 (.tmp 89)) 9 none,
  mk (some 91) (.fieldAddr 24 (.tmp 3) 3) 0 none,
  mk (some 92) (.load 9 (.tmp 91)) 9 none,
  mk (some 93) (.binOp .lss 9 (.tmp 90) (.tmp 92) 9) 4 none,
  mk (some 94) (.fieldAddr 24 (.tmp 2) 3) 0 none,
  mk (some 95) (.load 9 (.tmp 94)) 9 none,
  mk (some 96) (.fieldAddr 24 (.tmp 3) 3) 0 none,
  mk (some 97) (.load 9 (.tmp 96)) 9 none,
  mk (some 98) (.binOp .gtr 9 (.tmp 95) (.tmp 97) 9) 4 none,
  mk (some 99) (.call { callee := (.value (.func 104)), args := #[(.tmp 93), (.tmp 98)], argTypes := #[4, 4] }) 3 none,
  mk (some 4) (.assign (.tmp 99)) 3 none,
  mk (some 5) (.assign (.const (.bool true))) 4 none] fr.clear st fr k := evK_reg1 (i := 11) (by kernel_rfl) (by kernel_rfl)
noncomputable def c75_35 : Code := .ret
theorem e75_35 : evK gS fi75 c75_35 fr st k = nextK gS fi75 k .ret fr st := rfl
noncomputable def c75_33 : Code := .seq c75_34 c75_35
theorem e75_33 : evK gS fi75 c75_33 fr st k = evK gS fi75 c75_34 fr st (.seq c75_35 k) := rfl
noncomputable def c75_37 : Code := codeAt b75 [true, false, false, true, true, true, true, true, true, true, true, true, true, false]
theorem e75_37 : evK gS fi75 c75_37 fr st k = opsK gS fi75 [(some 101), (some 102), (some 103), (some 104), (some 105), (some 106), (some 107), (some 108), (some 100)] [mk (some 101) (.fieldAddr 24 (.tmp 2) 0) 0 none,
  mk (some 102) (.load 3 (.tmp 101)) 3 none,
  mk (some 103) (.binOp .eql 3 (.tmp 102) (.const (.int .i64 4)) 3) 4 none,
  mk (some 104) (.move (.tmp 103)) 4 none,
  mk (some 105) (.fieldAddr 24 (.tmp 3) 0) 0 (some (3, true)),
  mk (some 106) (.load 3 (.tmp 105)) 3 (some (3, true)),
  mk (some 107) (.binOp .eql 3 (.tmp 106) (.const (.int .i64 4)) 3) 4 (some (3, true)),
  mk (some 108) (.pick (.tmp 104) (.tmp 107) (.const (.bool false))) 4 none,
  mk (some 100) (.assign (.tmp 108)) 4 none] fr.clear st fr k := evK_reg1 (i := 12) (by kernel_rfl) (by kernel_rfl)
noncomputable def c75_40 : Code := codeAt b75 [true, false, false, true, true, true, true, true, true, true, true, true, true, true, false, false]
theorem e75_40 : evK gS fi75 c75_40 fr st k = opsK gS fi75 [(some 109), (some 110), (some 111), (some 112), (some 113), (some 114), (some 115), (some 116), (some 117), (some 118), (some 119), (some 120), (some 121), (some 122), (some 123), (some 4), (some 5)] [mk (some 109) (.fieldAddr 24 (.tmp 2) 4) 0 none,
  mk (some 110) (.load 4 (.tmp 109)) 4 none,
  mk (some 111) (.unOp .not 4 (.tmp 110)) 4 none,
  mk (some 112) (.move (.tmp 111)) 4 none,
  mk (some 113) (.fieldAddr 24 (.tmp 3) 4) 0 (some (3, true)),
  mk (some 114) (.load 4 (.tmp 113)) 4 (some (3, true)),
  mk (some 115) (.pick (.tmp 112) (.tmp 114) (.const (.bool false))) 4 none,
  mk (some 116) (.fieldAddr 24 (.tmp 2) 4) 0 none,
  mk (some 117) (.load 4 (.tmp 116)) 4 none,
  mk (some 118) (.move (.tmp 117)) 4 none,
  mk (some 119) (.fieldAddr 24 (.tmp 3) 4) 0 (some (9, true)),
  mk (some 120) (.load 4 (.tmp 119)) 4 (some (9, true)),
  mk (some 121) (.unOp .not 4 (.tmp 120)) 4 (some (9, true)),
  mk (some 122) (.pick (.tmp 118) (.tmp 121) (.const (.bool false))) 4 none,
  mk (some 123) (.call { callee := (.value (.func 104)), args := #[(.tmp 115), (.tmp 122)], argTypes := #[4, 4] }) 3 none,
  mk (some 4) (.assign (.tmp 123)) 3 none,
  mk (some 5) (.assign (.const (.bool true))) 4 none] fr.clear st fr k := evK_reg1 (i := 13) (by kernel_rfl) (by kernel_rfl)
noncomputable def c75_41 : Code := .ret
theorem e75_41 : evK gS fi75 c75_41 fr st k = nextK gS fi75 k .ret fr st := rfl
noncomputable def c75_39 : Code := .seq c75_40 c75_41
theorem e75_39 : evK gS fi75 c75_39 fr st k = evK gS fi75 c75_40 fr st (.seq c75_41 k) := rfl
noncomputable def c75_42 : Code := .skip
theorem e75_42 : evK gS fi75 c75_42 fr st k = nextK gS fi75 k .normal fr st := rfl
noncomputable def c75_38 : Code := .cond (.tmp 100) c75_39 c75_42
theorem e75_38 : evK gS fi75 c75_38 fr st k = condK gS fi75 (fr.op (.tmp 100)).bool? c75_39 c75_42 fr st k := rfl
noncomputable def c75_36 : Code := .seq c75_37 c75_38
theorem e75_36 : evK gS fi75 c75_36 fr st k = evK gS fi75 c75_37 fr st (.seq c75_38 k) := rfl
noncomputable def c75_32 : Code := .cond (.tmp 80) c75_33 c75_36
theorem e75_32 : evK gS fi75 c75_32 fr st k = condK gS fi75 (fr.op (.tmp 80)).bool? c75_33 c75_36 fr st k := rfl
noncomputable def c75_30 : Code := .seq c75_31 c75_32
theorem e75_30 : evK gS fi75 c75_30 fr st k = evK gS fi75 c75_31 fr st (.seq c75_32 k) := rfl
noncomputable def c75_24 : Code := .cond (.tmp 60) c75_25 c75_30
theorem e75_24 : evK gS fi75 c75_24 fr st k = condK gS fi75 (fr.op (.tmp 60)).bool? c75_25 c75_30 fr st k := rfl
noncomputable def c75_22 : Code := .seq c75_23 c75_24
theorem e75_22 : evK gS fi75 c75_22 fr st k = evK gS fi75 c75_23 fr st (.seq c75_24 k) := rfl
noncomputable def c75_18 : Code := .cond (.tmp 44) c75_19 c75_22
theorem e75_18 : evK gS fi75 c75_18 fr st k = condK gS fi75 (fr.op (.tmp 44)).bool? c75_19 c75_22 fr st k := rfl
noncomputable def c75_16 : Code := .seq c75_17 c75_18
theorem e75_16 : evK gS fi75 c75_16 fr st k = evK gS fi75 c75_17 fr st (.seq c75_18 k) := rfl
noncomputable def c75_12 : Code := .cond (.tmp 28) c75_13 c75_16
theorem e75_12 : evK gS fi75 c75_12 fr st k = condK gS fi75 (fr.op (.tmp 28)).bool? c75_13 c75_16 fr st k := rfl
noncomputable def c75_10 : Code := .seq c75_11 c75_12
theorem e75_10 : evK gS fi75 c75_10 fr st k = evK gS fi75 c75_11 fr st (.seq c75_12 k) := rfl
noncomputable def c75_6 : Code := .cond (.tmp 8) c75_7 c75_10
theorem e75_6 : evK gS fi75 c75_6 fr st k = condK gS fi75 (fr.op (.tmp 8)).bool? c75_7 c75_10 fr st k := rfl
noncomputable def c75_4 : Code := .seq c75_5 c75_6
theorem e75_4 : evK gS fi75 c75_4 fr st k = evK gS fi75 c75_5 fr st (.seq c75_6 k) := rfl
noncomputable def c75_3 : Code := .block 0 c75_4
theorem e75_3 : evK gS fi75 c75_3 fr st k = evK gS fi75 c75_4 fr st (.blk 0 k) := rfl
noncomputable def c75_44 : Code := codeAt b75 [true, true, false]
theorem e75_44 : evK gS fi75 c75_44 fr st k = opsK gS fi75 [(some 4), (some 5)] [mk (some 4) (.assign (.const (.int .i64 0))) 3 none,
  mk (some 5) (.assign (.const (.bool false))) 4 none] fr.clear st fr k := evK_reg1 (i := 14) (by kernel_rfl) (by kernel_rfl)
noncomputable def c75_45 : Code := .ret
theorem e75_45 : evK gS fi75 c75_45 fr st k = nextK gS fi75 k .ret fr st := rfl
noncomputable def c75_43 : Code := .seq c75_44 c75_45
theorem e75_43 : evK gS fi75 c75_43 fr st k = evK gS fi75 c75_44 fr st (.seq c75_45 k) := rfl
noncomputable def c75_2 : Code := .seq c75_3 c75_43
theorem e75_2 : evK gS fi75 c75_2 fr st k = evK gS fi75 c75_3 fr st (.seq c75_43 k) := rfl
noncomputable def c75_0 : Code := .seq c75_1 c75_2
theorem e75_0 : evK gS fi75 c75_0 fr st k = evK gS fi75 c75_1 fr st (.seq c75_2 k) := rfl
theorem m75 : mini fi75.body = c75_0 := by kernel_rfl
set_option maxHeartbeats 4000000 in
theorem c75 (a : Val) (b : Val)  (st : St) : EvF gS 75 [a.enc, b.enc] st = some (.ret (.tuple [.int .i64 (cmp a b).1, .bool (cmp a b).2]) none, st) := by
  refine EvF_start fi75_eq (fun x h => by cases h) m75 ?_
  rw [st75]
  have hm : fi75.marks = [] := rfl
  have hl : fi75.locals = [2, 3] := rfl
  have hr : fi75.results = [.tmp 4, .tmp 5] := rfl
  simp (config := { contextual := true, maxSteps := 10000000, maxDischargeDepth := 6 }) [-Int.not_le, -Int.not_lt, -Nat.not_le, -Nat.not_lt, ty2, ty3, ty4, ty9, ty22, ty24, eq24, hm, hl, hr, k104, k105, k106, e75_1, e75_5, e75_8, e75_9, e75_7, e75_11, e75_14, e75_15, e75_13, e75_17, e75_20, e75_21, e75_19, e75_23, e75_26, e75_28, e75_29, e75_27, e75_25, e75_31, e75_34, e75_35, e75_33, e75_37, e75_40, e75_41, e75_39, e75_42, e75_38, e75_36, e75_32, e75_30, e75_24, e75_22, e75_18, e75_16, e75_12, e75_10, e75_6, e75_4, e75_3, e75_44, e75_45, e75_43, e75_2, e75_0]
  all_goals try simp (config := { contextual := true }) [-Int.not_le, -Int.not_lt, -Nat.not_le, -Nat.not_lt, cmp, scmp]
  all_goals first | done | grind | omega | (trace_state; fail)
theorem k75 (a_k : Int) (a_n : Int) (a_x : Nat) (a_s : List UInt8) (a_b : Bool) (b_k : Int) (b_n : Int) (b_x : Nat) (b_s : List UInt8) (b_b : Bool)  (fr : Fr) (st : St) : callStep gS (EvF gS) 75 [.agg [.int .i64 a_k, .int .i64 a_n, .float .f64 a_x, .str a_s, .bool a_b], .agg [.int .i64 b_k, .int .i64 b_n, .float .f64 b_x, .str b_s, .bool b_b]] fr st = some (.ok (retE none (.tuple [.int .i64 (cmp (⟨a_k, a_n, a_x, a_s, a_b⟩ : Val) (⟨b_k, b_n, b_x, b_s, b_b⟩ : Val)).1, .bool (cmp (⟨a_k, a_n, a_x, a_s, a_b⟩ : Val) (⟨b_k, b_n, b_x, b_s, b_b⟩ : Val)).2])) fr st) :=
  call_pure rfl fi75_eq rfl (fun st => c75 (⟨a_k, a_n, a_x, a_s, a_b⟩ : Val) (⟨b_k, b_n, b_x, b_s, b_b⟩ : Val)  st) (by simp)
noncomputable def fi32 : FI := { body := codeOf Try.f32, ntmps := 18, results := [.tmp 4], pers := [0, 1, 2, 3, 4, 5, 6], locals := [2, 3], pure := true, marks := [] }
theorem fi32_eq : gS.fn 32 = some fi32 := by kernel_rfl
theorem st32 (a0 a1 : V) : startFr fi32 [a0, a1] = { ps := [(0, .val a0), (1, .val a1), (2, .any), (3, .any), (4, .any), (5, .any), (6, .any)], ts := [], lc := [] } := rfl
noncomputable def b32 : Code := mini (codeOf Try.f32)
noncomputable def c32_1 : Code := codeAt b32 [false]
theorem e32_1 : evK gS fi32 c32_1 fr st k = opsK gS fi32 [(some 2), (some 3), (some 4)] [mk (some 2) (.box 24 (.tmp 0)) 0 none,
  mk (some 3) (.box 24 (.tmp 1)) 0 none,
  mk (some 4) (.assign (.const (.bool false))) 4 none] fr.clear st fr k := evK_reg1 (i := 0) (by kernel_rfl) (by kernel_rfl)
noncomputable def c32_3 : Code := codeAt b32 [true, false]
theorem e32_3 : evK gS fi32 c32_3 fr st k = opsK gS fi32 [(some 8), (some 9), (some 10), (some 7), (some 11), (some 12), (some 5), (some 6)] [mk (some 8) (.load 24 (.tmp 2)) 24 none,
  mk (some 9) (.load 24 (.tmp 3)) 24 none,
  mk (some 10) (.call { callee := (.value (.func 75)), args := #[(.tmp 8), (.tmp 9)], argTypes := #[24, 24] }) 94 none,
  mk (some 7) (.move (.tmp 10)) 94 none,
  mk (some 11) (.extract (.tmp 7) 0) 3 none,
  mk (some 12) (.extract (.tmp 7) 1) 4 none,
  mk (some 5) (.assign (.tmp 11)) 3 none,
  mk (some 6) (.assign (.tmp 12)) 4 none] fr.clear st fr k := evK_reg1 (i := 1) (by kernel_rfl) (by kernel_rfl)
noncomputable def c32_5 : Code := codeAt b32 [true, true, false]
theorem e32_5 : evK gS fi32 c32_5 fr st k = opsK gS fi32 [(some 13), (some 14), (some 15), (some 16), (some 17), (some 4)] [mk (some 13) (.move (.tmp 6)) 4 none,
  mk (some 14) (.move (.tmp 13)) 4 none,
  mk (some 15) (.move (.tmp 5)) 3 (some (1, true)),
  mk (some 16) (.binOp .eql 3 (.tmp 15) (.const (.int .i64 0)) 3) 4 (some (1, true)),
  mk (some 17) (.pick (.tmp 14) (.tmp 16) (.const (.bool false))) 4 none,
  mk (some 4) (.assign (.tmp 17)) 4 none] fr.clear st fr k := evK_reg1 (i := 2) (by kernel_rfl) (by kernel_rfl)
noncomputable def c32_6 : Code := .ret
theorem e32_6 : evK gS fi32 c32_6 fr st k = nextK gS fi32 k .ret fr st := rfl
noncomputable def c32_4 : Code := .seq c32_5 c32_6
theorem e32_4 : evK gS fi32 c32_4 fr st k = evK gS fi32 c32_5 fr st (.seq c32_6 k) := rfl
noncomputable def c32_2 : Code := .seq c32_3 c32_4
theorem e32_2 : evK gS fi32 c32_2 fr st k = evK gS fi32 c32_3 fr st (.seq c32_4 k) := rfl
noncomputable def c32_0 : Code := .seq c32_1 c32_2
theorem e32_0 : evK gS fi32 c32_0 fr st k = evK gS fi32 c32_1 fr st (.seq c32_2 k) := rfl
theorem m32 : mini fi32.body = c32_0 := by kernel_rfl
set_option maxHeartbeats 4000000 in
theorem c32 (a : Val) (b : Val)  (st : St) : EvF gS 32 [a.enc, b.enc] st = some (.ret (.bool (vis a b)) none, st) := by
  refine EvF_start fi32_eq (fun x h => by cases h) m32 ?_
  rw [st32]
  have hm : fi32.marks = [] := rfl
  have hl : fi32.locals = [2, 3] := rfl
  have hr : fi32.results = [.tmp 4] := rfl
  simp (config := { contextual := true, maxSteps := 10000000, maxDischargeDepth := 6 }) [-Int.not_le, -Int.not_lt, -Nat.not_le, -Nat.not_lt, ty3, ty4, ty24, eq24, hm, hl, hr, k75, e32_1, e32_3, e32_5, e32_6, e32_4, e32_2, e32_0]
  all_goals try simp (config := { contextual := true }) [-Int.not_le, -Int.not_lt, -Nat.not_le, -Nat.not_lt, vis]
  all_goals first | done | grind | omega | (trace_state; fail)
theorem k32 (a_k : Int) (a_n : Int) (a_x : Nat) (a_s : List UInt8) (a_b : Bool) (b_k : Int) (b_n : Int) (b_x : Nat) (b_s : List UInt8) (b_b : Bool)  (fr : Fr) (st : St) : callStep gS (EvF gS) 32 [.agg [.int .i64 a_k, .int .i64 a_n, .float .f64 a_x, .str a_s, .bool a_b], .agg [.int .i64 b_k, .int .i64 b_n, .float .f64 b_x, .str b_s, .bool b_b]] fr st = some (.ok (retE none (.bool (vis (⟨a_k, a_n, a_x, a_s, a_b⟩ : Val) (⟨b_k, b_n, b_x, b_s, b_b⟩ : Val)))) fr st) :=
  call_pure rfl fi32_eq rfl (fun st => c32 (⟨a_k, a_n, a_x, a_s, a_b⟩ : Val) (⟨b_k, b_n, b_x, b_s, b_b⟩ : Val)  st) (by simp)
noncomputable def fi81 : FI := { body := codeOf Try.f81, ntmps := 38, results := [.tmp 4], pers := [0, 1, 2, 3, 4], locals := [2, 3], pure := true, marks := [] }
theorem fi81_eq : gS.fn 81 = some fi81 := by kernel_rfl
theorem st81 (a0 a1 : V) : startFr fi81 [a0, a1] = { ps := [(0, .val a0), (1, .val a1), (2, .any), (3, .any), (4, .any)], ts := [], lc := [] } := rfl
noncomputable def b81 : Code := mini (codeOf Try.f81)
noncomputable def c81_1 : Code := codeAt b81 [false]
theorem e81_1 : evK gS fi81 c81_1 fr st k = opsK gS fi81 [(some 2), (some 3), (some 4)] [mk (some 2) (.box 24 (.tmp 0)) 0 none,
  mk (some 3) (.box 24 (.tmp 1)) 0 none,
  mk (some 4) (.assign (.const (.bool false))) 4 none] fr.clear st fr k := evK_reg1 (i := 0) (by kernel_rfl) (by kernel_rfl)
noncomputable def c81_3 : Code := codeAt b81 [true, false]
theorem e81_3 : evK gS fi81 c81_3 fr st k = opsK gS fi81 [(some 5), (some 6), (some 7), (some 8), (some 9), (some 10), (some 11), (some 12), (some 13), (some 14), (some 15), (some 16), (some 17), (some 18), (some 19), (some 20), (some 21), (some 22), (some 23), (some 24), (some 25), (some 26), (some 27), (some 28), (some 29), (some 30), (some 31), (some 32), (some 33), (some 34), (some 35), (some 36), (some 37), (some 4)] [mk (some 5) (.fieldAddr 24 (.tmp 2) 0) 0 none,
  mk (some 6) (.load 3 (.tmp 5)) 3 none,
  mk (some 7) (.fieldAddr 24 (.tmp 3) 0) 0 none,
  mk (some 8) (.load 3 (.tmp 7)) 3 none,
  mk (some 9) (.binOp .eql 3 (.tmp 6) (.tmp 8) 3) 4 none,
  mk (some 10) (.move (.tmp 9)) 4 none,
  mk (some 11) (.fieldAddr 24 (.tmp 2) 1) 0 (some (5, true)),
  mk (some 12) (.load 2 (.tmp 11)) 2 (some (5, true)),
  mk (some 13) (.fieldAddr 24 (.tmp 3) 1) 0 (some (5, true)),
  mk (some 14) (.load 2 (.tmp 13)) 2 (some (5, true)),
  mk (some 15) (.binOp .eql 2 (.tmp 12) (.tmp 14) 2) 4 (some (5, true)),
  mk (some 16) (.pick (.tmp 10) (.tmp 15) (.const (.bool false))) 4 none,
  mk (some 17) (.move (.tmp 16)) 4 none,
  mk (some 18) (.fieldAddr 24 (.tmp 2) 3) 0 (some (12, true)),
  mk (some 19) (.load 9 (.tmp 18)) 9 (some (12, true)),
  mk (some 20) (.fieldAddr 24 (.tmp 3) 3) 0 (some (12, true)),
  mk (some 21) (.load 9 (.tmp 20)) 9 (some (12, true)),
  mk (some 22) (.binOp .eql 9 (.tmp 19) (.tmp 21) 9) 4 (some (12, true)),
  mk (some 23) (.pick (.tmp 17) (.tmp 22) (.const (.bool false))) 4 none,
  mk (some 24) (.move (.tmp 23)) 4 none,
  mk (some 25) (.fieldAddr 24 (.tmp 2) 4) 0 (some (19, true)),
  mk (some 26) (.load 4 (.tmp 25)) 4 (some (19, true)),
  mk (some 27) (.fieldAddr 24 (.tmp 3) 4) 0 (some (19, true)),
  mk (some 28) (.load 4 (.tmp 27)) 4 (some (19, true)),
  mk (some 29) (.binOp .eql 4 (.tmp 26) (.tmp 28) 4) 4 (some (19, true)),
  mk (some 30) (.pick (.tmp 24) (.tmp 29) (.const (.bool false))) 4 none,
  mk (some 31) (.move (.tmp 30)) 4 none,
  mk (some 32) (.fieldAddr 24 (.tmp 2) 2) 0 (some (26, true)),
  mk (some 33) (.load 22 (.tmp 32)) 22 (some (26, true)),
  mk (some 34) (.fieldAddr 24 (.tmp 3) 2) 0 (some (26, true)),
  mk (some 35) (.load 22 (.tmp 34)) 22 (some (26, true)),
  mk (some 36) (.call { callee := (.value (.func 109)), args := #[(.tmp 33), (.tmp 35)], argTypes := #[22, 22] }) 4 (some (26, true)),
  mk (some 37) (.pick (.tmp 31) (.tmp 36) (.const (.bool false))) 4 none,
  mk (some 4) (.assign (.tmp 37)) 4 none] fr.clear st fr k := evK_reg1 (i := 1) (by kernel_rfl) (by kernel_rfl)
noncomputable def c81_4 : Code := .ret
theorem e81_4 : evK gS fi81 c81_4 fr st k = nextK gS fi81 k .ret fr st := rfl
noncomputable def c81_2 : Code := .seq c81_3 c81_4
theorem e81_2 : evK gS fi81 c81_2 fr st k = evK gS fi81 c81_3 fr st (.seq c81_4 k) := rfl
noncomputable def c81_0 : Code := .seq c81_1 c81_2
theorem e81_0 : evK gS fi81 c81_0 fr st k = evK gS fi81 c81_1 fr st (.seq c81_2 k) := rfl
theorem m81 : mini fi81.body = c81_0 := by kernel_rfl
set_option maxHeartbeats 4000000 in
theorem c81 (a : Val) (b : Val)  (st : St) : EvF gS 81 [a.enc, b.enc] st = some (.ret (.bool (vsame a b)) none, st) := by
  refine EvF_start fi81_eq (fun x h => by cases h) m81 ?_
  rw [st81]
  have hm : fi81.marks = [] := rfl
  have hl : fi81.locals = [2, 3] := rfl
  have hr : fi81.results = [.tmp 4] := rfl
  simp (config := { contextual := true, maxSteps := 10000000, maxDischargeDepth := 6 }) [-Int.not_le, -Int.not_lt, -Nat.not_le, -Nat.not_lt, ty2, ty3, ty4, ty9, ty22, ty24, eq24, hm, hl, hr, k109, e81_1, e81_3, e81_4, e81_2, e81_0]
  all_goals try simp (config := { contextual := true }) [-Int.not_le, -Int.not_lt, -Nat.not_le, -Nat.not_lt, vsame]
  all_goals first | done | grind | omega | (trace_state; fail)
theorem k81 (a_k : Int) (a_n : Int) (a_x : Nat) (a_s : List UInt8) (a_b : Bool) (b_k : Int) (b_n : Int) (b_x : Nat) (b_s : List UInt8) (b_b : Bool)  (fr : Fr) (st : St) : callStep gS (EvF gS) 81 [.agg [.int .i64 a_k, .int .i64 a_n, .float .f64 a_x, .str a_s, .bool a_b], .agg [.int .i64 b_k, .int .i64 b_n, .float .f64 b_x, .str b_s, .bool b_b]] fr st = some (.ok (retE none (.bool (vsame (⟨a_k, a_n, a_x, a_s, a_b⟩ : Val) (⟨b_k, b_n, b_x, b_s, b_b⟩ : Val)))) fr st) :=
  call_pure rfl fi81_eq rfl (fun st => c81 (⟨a_k, a_n, a_x, a_s, a_b⟩ : Val) (⟨b_k, b_n, b_x, b_s, b_b⟩ : Val)  st) (by simp)
theorem x81 : gS.ext 81 = none := rfl
theorem p81 : fi81.pure = true := rfl
noncomputable def fi70 : FI := { body := codeOf Try.f70, ntmps := 29, results := [.tmp 2], pers := [0, 1, 2, 3, 7], locals := [1, 3], pure := true, marks := [] }
theorem fi70_eq : gS.fn 70 = some fi70 := by kernel_rfl
theorem st70 (a0 : V) : startFr fi70 [a0] = { ps := [(0, .val a0), (1, .any), (2, .any), (3, .any), (7, .any)], ts := [], lc := [] } := rfl
noncomputable def b70 : Code := mini (codeOf Try.f70)
noncomputable def c70_1 : Code := codeAt b70 [false]
theorem e70_1 : evK gS fi70 c70_1 fr st k = opsK gS fi70 [(some 1), (some 2)] [mk (some 1) (.box 24 (.tmp 0)) 0 none,
  mk (some 2) (.assign (.const (.bool false))) 4 none] fr.clear st fr k := evK_reg1 (i := 0) (by kernel_rfl) (by kernel_rfl)
noncomputable def c70_3 : Code := codeAt b70 [true, false]
theorem e70_3 : evK gS fi70 c70_3 fr st k = opsK gS fi70 [(some 4), (some 3), none] [mk (some 4) (.load 24 (.tmp 1)) 24 none,
  mk (some 3) (.alloc 24) 0 none,
  mk none (.store 24 (.tmp 3) (.tmp 4)) 0 none] fr.clear st fr k := evK_reg1 (i := 1) (by kernel_rfl) (by kernel_rfl)
noncomputable def c70_5 : Code := codeAt b70 [true, true, false]
theorem e70_5 : evK gS fi70 c70_5 fr st k = opsK gS fi70 [(some 5), none] [mk (some 5) (.fieldAddr 24 (.tmp 3) 0) 0 none,
  mk none (.store 3 (.tmp 5) (.const (.int .i64 0))) 0 none] fr.clear st fr k := evK_reg1 (i := 2) (by kernel_rfl) (by kernel_rfl)
noncomputable def c70_8 : Code := codeAt b70 [true, true, true, false, false]
theorem e70_8 : evK gS fi70 c70_8 fr st k = opsK gS fi70 [(some 6), (some 7)] [mk (some 6) (.fieldAddr 24 (.tmp 1) 0) 0 none,
  mk (some 7) (.load 3 (.tmp 6)) 3 none] fr.clear st fr k := evK_reg1 (i := 3) (by kernel_rfl) (by kernel_rfl)
noncomputable def c70_11 : Code := codeAt b70 [true, true, true, false, true, false, false]
theorem e70_11 : evK gS fi70 c70_11 fr st k = opsK gS fi70 [(some 9), (some 8)] [mk (some 9) (.binOp .eql 3 (.tmp 7) (.const (.int .i64 1)) 3) 4 none,
  mk (some 8) (.assign (.tmp 9)) 4 none] fr.clear st fr k := evK_reg1 (i := 5) (by kernel_rfl) (by kernel_rfl)
noncomputable def c70_13 : Code := codeAt b70 [true, true, true, false, true, false, true, false]
theorem e70_13 : evK gS fi70 c70_13 fr st k = opsK gS fi70 [(some 10), none] [mk (some 10) (.fieldAddr 24 (.tmp 3) 1) 0 none,
  mk none (.store 2 (.tmp 10) (.const (.int .i64 0))) 0 none] fr.clear st fr k := evK_reg1 (i := 6) (by kernel_rfl) (by kernel_rfl)
noncomputable def c70_15 : Code := codeAt b70 [true, true, true, false, true, false, true, true, false]
theorem e70_15 : evK gS fi70 c70_15 fr st k = opsK gS fi70 [(some 12), (some 11)] [mk (some 12) (.binOp .eql 3 (.tmp 7) (.const (.int .i64 2)) 3) 4 none,
  mk (some 11) (.assign (.tmp 12)) 4 none] fr.clear st fr k := evK_reg1 (i := 7) (by kernel_rfl) (by kernel_rfl)
noncomputable def c70_17 : Code := codeAt b70 [true, true, true, false, true, false, true, true, true, false]
theorem e70_17 : evK gS fi70 c70_17 fr st k = opsK gS fi70 [(some 13), none] [mk (some 13) (.fieldAddr 24 (.tmp 3) 2) 0 none,
  mk none (.store 22 (.tmp 13) (.const (.float .f64 0))) 0 none] fr.clear st fr k := evK_reg1 (i := 8) (by kernel_rfl) (by kernel_rfl)
noncomputable def c70_19 : Code := codeAt b70 [true, true, true, false, true, false, true, true, true, true, false]
theorem e70_19 : evK gS fi70 c70_19 fr st k = opsK gS fi70 [(some 15), (some 14)] [mk (some 15) (.binOp .eql 3 (.tmp 7) (.const (.int .i64 3)) 3) 4 none,
  mk (some 14) (.assign (.tmp 15)) 4 none] fr.clear st fr k := evK_reg1 (i := 9) (by kernel_rfl) (by kernel_rfl)
noncomputable def c70_21 : Code := codeAt b70 [true, true, true, false, true, false, true, true, true, true, true, false]
theorem e70_21 : evK gS fi70 c70_21 fr st k = opsK gS fi70 [(some 16), none] [mk (some 16) (.fieldAddr 24 (.tmp 3) 3) 0 none,
  mk none (.store 9 (.tmp 16) (.const (.string { data := #[] }))) 0 none] fr.clear st fr k := evK_reg1 (i := 10) (by kernel_rfl) (by kernel_rfl)
noncomputable def c70_23 : Code := codeAt b70 [true, true, true, false, true, false, true, true, true, true, true, true, false]
theorem e70_23 : evK gS fi70 c70_23 fr st k = opsK gS fi70 [(some 18), (some 17)] [mk (some 18) (.binOp .eql 3 (.tmp 7) (.const (.int .i64 4)) 3) 4 none,
  mk (some 17) (.assign (.tmp 18)) 4 none] fr.clear st fr k := evK_reg1 (i := 11) (by kernel_rfl) (by kernel_rfl)
noncomputable def c70_25 : Code := codeAt b70 [true, true, true, false, true, false, true, true, true, true, true, true, true, false]
theorem e70_25 : evK gS fi70 c70_25 fr st k = opsK gS fi70 [(some 19), none] [mk (some 19) (.fieldAddr 24 (.tmp 3) 4) 0 none,
  mk none (.store 4 (.tmp 19) (.const (.bool false))) 0 none] fr.clear st fr k := evK_reg1 (i := 12) (by kernel_rfl) (by kernel_rfl)
noncomputable def c70_27 : Code := codeAt b70 [true, true, true, false, true, false, true, true, true, true, true, true, true, true, false]
theorem e70_27 : evK gS fi70 c70_27 fr st k = opsK gS fi70 [(some 2)] [mk (some 2) (.assign (.const (.bool false))) 4 none] fr.clear st fr k := evK_reg1 (i := 4) (by kernel_rfl) (by kernel_rfl)
noncomputable def c70_28 : Code := .ret
theorem e70_28 : evK gS fi70 c70_28 fr st k = nextK gS fi70 k .ret fr st := rfl
noncomputable def c70_26 : Code := .seq c70_27 c70_28
theorem e70_26 : evK gS fi70 c70_26 fr st k = evK gS fi70 c70_27 fr st (.seq c70_28 k) := rfl
noncomputable def c70_24 : Code := .cond (.tmp 17) c70_25 c70_26
theorem e70_24 : evK gS fi70 c70_24 fr st k = condK gS fi70 (fr.op (.tmp 17)).bool? c70_25 c70_26 fr st k := rfl
noncomputable def c70_22 : Code := .seq c70_23 c70_24
theorem e70_22 : evK gS fi70 c70_22 fr st k = evK gS fi70 c70_23 fr st (.seq c70_24 k) := rfl
noncomputable def c70_20 : Code := .cond (.tmp 14) c70_21 c70_22
theorem e70_20 : evK gS fi70 c70_20 fr st k = condK gS fi70 (fr.op (.tmp 14)).bool? c70_21 c70_22 fr st k := rfl
noncomputable def c70_18 : Code := .seq c70_19 c70_20
theorem e70_18 : evK gS fi70 c70_18 fr st k = evK gS fi70 c70_19 fr st (.seq c70_20 k) := rfl
noncomputable def c70_16 : Code := .cond (.tmp 11) c70_17 c70_18
theorem e70_16 : evK gS fi70 c70_16 fr st k = condK gS fi70 (fr.op (.tmp 11)).bool? c70_17 c70_18 fr st k := rfl
noncomputable def c70_14 : Code := .seq c70_15 c70_16
theorem e70_14 : evK gS fi70 c70_14 fr st k = evK gS fi70 c70_15 fr st (.seq c70_16 k) := rfl
noncomputable def c70_12 : Code := .cond (.tmp 8) c70_13 c70_14
theorem e70_12 : evK gS fi70 c70_12 fr st k = condK gS fi70 (fr.op (.tmp 8)).bool? c70_13 c70_14 fr st k := rfl
noncomputable def c70_10 : Code := .seq c70_11 c70_12
theorem e70_10 : evK gS fi70 c70_10 fr st k = evK gS fi70 c70_11 fr st (.seq c70_12 k) := rfl
noncomputable def c70_9 : Code := .block 0 c70_10
theorem e70_9 : evK gS fi70 c70_9 fr st k = evK gS fi70 c70_10 fr st (.blk 0 k) := rfl
noncomputable def c70_7 : Code := .seq c70_8 c70_9
theorem e70_7 : evK gS fi70 c70_7 fr st k = evK gS fi70 c70_8 fr st (.seq c70_9 k) := rfl
noncomputable def c70_30 : Code := codeAt b70 [true, true, true, true, false]
theorem e70_30 : evK gS fi70 c70_30 fr st k = opsK gS fi70 [(some 20), (some 21), (some 22), (some 23), (some 24), (some 25), (some 26), (some 27), (some 28), (some 2)] [mk (some 20) (.load 24 (.tmp 3)) 24 none,
  mk (some 21) (.build 24 #[]) 24 none,
  mk (some 22) (.binOp .eql 24 (.tmp 20) (.tmp 21) 24) 4 none,
  mk (some 23) (.move (.tmp 22)) 4 none,
  mk (some 24) (.fieldAddr 24 (.tmp 1) 3) 0 (some (3, true)),
  mk (some 25) (.load 9 (.tmp 24)) 9 (some (3, true)),
  mk (some 26) (.call { callee := (.builtin .len), args := #[(.tmp 25)], argTypes := #[9] }) 3 (some (3, true)),
  mk (some 27) (.binOp .leq 3 (.tmp 26) (.const (.int .i64 12)) 3) 4 (some (3, true)),
  mk (some 28) (.pick (.tmp 23) (.tmp 27) (.const (.bool false))) 4 none,
  mk (some 2) (.assign (.tmp 28)) 4 none] fr.clear st fr k := evK_reg1 (i := 13) (by kernel_rfl) (by kernel_rfl)
noncomputable def c70_31 : Code := .ret
theorem e70_31 : evK gS fi70 c70_31 fr st k = nextK gS fi70 k .ret fr st := rfl
noncomputable def c70_29 : Code := .seq c70_30 c70_31
theorem e70_29 : evK gS fi70 c70_29 fr st k = evK gS fi70 c70_30 fr st (.seq c70_31 k) := rfl
noncomputable def c70_6 : Code := .seq c70_7 c70_29
theorem e70_6 : evK gS fi70 c70_6 fr st k = evK gS fi70 c70_7 fr st (.seq c70_29 k) := rfl
noncomputable def c70_4 : Code := .seq c70_5 c70_6
theorem e70_4 : evK gS fi70 c70_4 fr st k = evK gS fi70 c70_5 fr st (.seq c70_6 k) := rfl
noncomputable def c70_2 : Code := .seq c70_3 c70_4
theorem e70_2 : evK gS fi70 c70_2 fr st k = evK gS fi70 c70_3 fr st (.seq c70_4 k) := rfl
noncomputable def c70_0 : Code := .seq c70_1 c70_2
theorem e70_0 : evK gS fi70 c70_0 fr st k = evK gS fi70 c70_1 fr st (.seq c70_2 k) := rfl
theorem m70 : mini fi70.body = c70_0 := by kernel_rfl
set_option maxHeartbeats 4000000 in
theorem c70 (v : Val)  (st : St) : EvF gS 70 [v.enc] st = some (.ret (.bool (vright v)) none, st) := by
  refine EvF_start fi70_eq (fun x h => by cases h) m70 ?_
  rw [st70]
  have hm : fi70.marks = [] := rfl
  have hl : fi70.locals = [1, 3] := rfl
  have hr : fi70.results = [.tmp 2] := rfl
  simp (config := { contextual := true, maxSteps := 10000000, maxDischargeDepth := 6 }) [-Int.not_le, -Int.not_lt, -Nat.not_le, -Nat.not_lt, ty2, ty3, ty4, ty9, ty22, ty24, eq24, hm, hl, hr, e70_1, e70_3, e70_5, e70_8, e70_11, e70_13, e70_15, e70_17, e70_19, e70_21, e70_23, e70_25, e70_27, e70_28, e70_26, e70_24, e70_22, e70_20, e70_18, e70_16, e70_14, e70_12, e70_10, e70_9, e70_7, e70_30, e70_31, e70_29, e70_6, e70_4, e70_2, e70_0]
  all_goals try simp (config := { contextual := true }) [-Int.not_le, -Int.not_lt, -Nat.not_le, -Nat.not_lt, vright, opq]
  all_goals first | done | grind | omega | (trace_state; fail)
theorem k70 (v_k : Int) (v_n : Int) (v_x : Nat) (v_s : List UInt8) (v_b : Bool)  (fr : Fr) (st : St) : callStep gS (EvF gS) 70 [.agg [.int .i64 v_k, .int .i64 v_n, .float .f64 v_x, .str v_s, .bool v_b]] fr st = some (.ok (retE none (.bool (vright (⟨v_k, v_n, v_x, v_s, v_b⟩ : Val)))) fr st) :=
  call_pure rfl fi70_eq rfl (fun st => c70 (⟨v_k, v_n, v_x, v_s, v_b⟩ : Val)  st) (by simp)
noncomputable def fi69 : FI := { body := codeOf Try.f69, ntmps := 6, results := [.tmp 2], pers := [0, 1, 2], locals := [1], pure := true, marks := [] }
theorem fi69_eq : gS.fn 69 = some fi69 := by kernel_rfl
theorem st69 (a0 : V) : startFr fi69 [a0] = { ps := [(0, .val a0), (1, .any), (2, .any)], ts := [], lc := [] } := rfl
noncomputable def b69 : Code := mini (codeOf Try.f69)
noncomputable def c69_1 : Code := codeAt b69 [false]
theorem e69_1 : evK gS fi69 c69_1 fr st k = opsK gS fi69 [(some 1), (some 2)] [mk (some 1) (.box 24 (.tmp 0)) 0 none,
  mk (some 2) (.assign (.const (.bool false))) 4 none] fr.clear st fr k := evK_reg1 (i := 0) (by kernel_rfl) (by kernel_rfl)
noncomputable def c69_3 : Code := codeAt b69 [true, false]
theorem e69_3 : evK gS fi69 c69_3 fr st k = opsK gS fi69 [(some 3), (some 4), (some 5), (some 2)] [mk (some 3) (.load 24 (.tmp 1)) 24 none,
  mk (some 4) (.build 24 #[]) 24 none,
  mk (some 5) (.call { callee := (.value (.func 81)), args := #[(.tmp 3), (.tmp 4)], argTypes := #[24, 24] }) 4 none,
  mk (some 2) (.assign (.tmp 5)) 4 none] fr.clear st fr k := evK_reg1 (i := 1) (by kernel_rfl) (by kernel_rfl)
noncomputable def c69_4 : Code := .ret
theorem e69_4 : evK gS fi69 c69_4 fr st k = nextK gS fi69 k .ret fr st := rfl
noncomputable def c69_2 : Code := .seq c69_3 c69_4
theorem e69_2 : evK gS fi69 c69_2 fr st k = evK gS fi69 c69_3 fr st (.seq c69_4 k) := rfl
noncomputable def c69_0 : Code := .seq c69_1 c69_2
theorem e69_0 : evK gS fi69 c69_0 fr st k = evK gS fi69 c69_1 fr st (.seq c69_2 k) := rfl
theorem m69 : mini fi69.body = c69_0 := by kernel_rfl
set_option maxHeartbeats 4000000 in
theorem c69 (v : Val)  (st : St) : EvF gS 69 [v.enc] st = some (.ret (.bool (vsame v vzero)) none, st) := by
  refine EvF_start fi69_eq (fun x h => by cases h) m69 ?_
  rw [st69]
  have hm : fi69.marks = [] := rfl
  have hl : fi69.locals = [1] := rfl
  have hr : fi69.results = [.tmp 2] := rfl
  simp (config := { contextual := true, maxSteps := 10000000, maxDischargeDepth := 6 }) [-Int.not_le, -Int.not_lt, -Nat.not_le, -Nat.not_lt, ty4, ty24, eq24, hm, hl, hr, k81, e69_1, e69_3, e69_4, e69_2, e69_0]
  all_goals try simp (config := { contextual := true }) [-Int.not_le, -Int.not_lt, -Nat.not_le, -Nat.not_lt, vzero]
  all_goals first | done | grind | omega | (trace_state; fail)
theorem k69 (v_k : Int) (v_n : Int) (v_x : Nat) (v_s : List UInt8) (v_b : Bool)  (fr : Fr) (st : St) : callStep gS (EvF gS) 69 [.agg [.int .i64 v_k, .int .i64 v_n, .float .f64 v_x, .str v_s, .bool v_b]] fr st = some (.ok (retE none (.bool (vsame (⟨v_k, v_n, v_x, v_s, v_b⟩ : Val) vzero))) fr st) :=
  call_pure rfl fi69_eq rfl (fun st => c69 (⟨v_k, v_n, v_x, v_s, v_b⟩ : Val)  st) (by simp)
noncomputable def fi80 : FI := { body := codeOf Try.f80, ntmps := 13, results := [.tmp 2], pers := [0, 1, 2], locals := [1], pure := true, marks := [] }
theorem fi80_eq : gS.fn 80 = some fi80 := by kernel_rfl
theorem st80 (a0 : V) : startFr fi80 [a0] = { ps := [(0, .val a0), (1, .any), (2, .any)], ts := [], lc := [] } := rfl
noncomputable def b80 : Code := mini (codeOf Try.f80)
noncomputable def c80_1 : Code := codeAt b80 [false]
theorem e80_1 : evK gS fi80 c80_1 fr st k = opsK gS fi80 [(some 1), (some 2)] [mk (some 1) (.box 24 (.tmp 0)) 0 none,
  mk (some 2) (.assign (.const (.bool false))) 4 none] fr.clear st fr k := evK_reg1 (i := 0) (by kernel_rfl) (by kernel_rfl)
noncomputable def c80_3 : Code := codeAt b80 [true, false]
theorem e80_3 : evK gS fi80 c80_3 fr st k = opsK gS fi80 [(some 3), (some 4), (some 5), (some 6), (some 7), (some 8), (some 9), (some 10), (some 11), (some 12), (some 2)] [mk (some 3) (.fieldAddr 24 (.tmp 1) 0) 0 none,
  mk (some 4) (.load 3 (.tmp 3)) 3 none,
  mk (some 5) (.binOp .eql 3 (.tmp 4) (.const (.int .i64 2)) 3) 4 none,
  mk (some 6) (.move (.tmp 5)) 4 none,
  mk (some 7) (.fieldAddr 24 (.tmp 1) 2) 0 (some (3, true)),
  mk (some 8) (.load 22 (.tmp 7)) 22 (some (3, true)),
  mk (some 9) (.fieldAddr 24 (.tmp 1) 2) 0 (some (3, true)),
  mk (some 10) (.load 22 (.tmp 9)) 22 (some (3, true)),
  mk (some 11) (.binOp .neq 22 (.tmp 8) (.tmp 10) 22) 4 (some (3, true)),
  mk (some 12) (.pick (.tmp 6) (.tmp 11) (.const (.bool false))) 4 none,
  mk (some 2) (.assign (.tmp 12)) 4 none] fr.clear st fr k := evK_reg1 (i := 1) (by kernel_rfl) (by kernel_rfl)
noncomputable def c80_4 : Code := .ret
theorem e80_4 : evK gS fi80 c80_4 fr st k = nextK gS fi80 k .ret fr st := rfl
noncomputable def c80_2 : Code := .seq c80_3 c80_4
theorem e80_2 : evK gS fi80 c80_2 fr st k = evK gS fi80 c80_3 fr st (.seq c80_4 k) := rfl
noncomputable def c80_0 : Code := .seq c80_1 c80_2
theorem e80_0 : evK gS fi80 c80_0 fr st k = evK gS fi80 c80_1 fr st (.seq c80_2 k) := rfl
theorem m80 : mini fi80.body = c80_0 := by kernel_rfl
set_option maxHeartbeats 4000000 in
theorem c80 (v : Val)  (st : St) : EvF gS 80 [v.enc] st = some (.ret (.bool (vnan v)) none, st) := by
  refine EvF_start fi80_eq (fun x h => by cases h) m80 ?_
  rw [st80]
  have hm : fi80.marks = [] := rfl
  have hl : fi80.locals = [1] := rfl
  have hr : fi80.results = [.tmp 2] := rfl
  simp (config := { contextual := true, maxSteps := 10000000, maxDischargeDepth := 6 }) [-Int.not_le, -Int.not_lt, -Nat.not_le, -Nat.not_lt, ty3, ty4, ty22, ty24, eq24, hm, hl, hr, e80_1, e80_3, e80_4, e80_2, e80_0]
  all_goals try simp (config := { contextual := true }) [-Int.not_le, -Int.not_lt, -Nat.not_le, -Nat.not_lt, vnan]
  all_goals first | done | grind | omega | (trace_state; fail)
theorem k80 (v_k : Int) (v_n : Int) (v_x : Nat) (v_s : List UInt8) (v_b : Bool)  (fr : Fr) (st : St) : callStep gS (EvF gS) 80 [.agg [.int .i64 v_k, .int .i64 v_n, .float .f64 v_x, .str v_s, .bool v_b]] fr st = some (.ok (retE none (.bool (vnan (⟨v_k, v_n, v_x, v_s, v_b⟩ : Val)))) fr st) :=
  call_pure rfl fi80_eq rfl (fun st => c80 (⟨v_k, v_n, v_x, v_s, v_b⟩ : Val)  st) (by simp)
noncomputable def fi76 : FI := { body := codeOf Try.f76, ntmps := 18, results := [.tmp 4], pers := [0, 1, 4], locals := [], pure := true, marks := [] }
theorem fi76_eq : gS.fn 76 = some fi76 := by kernel_rfl
theorem st76 (a0 a1 : V) : startFr fi76 [a0, a1] = { ps := [(0, .val a0), (1, .val a1), (4, .any)], ts := [], lc := [] } := rfl
noncomputable def b76 : Code := mini (codeOf Try.f76)
noncomputable def c76_1 : Code := codeAt b76 [false]
theorem e76_1 : evK gS fi76 c76_1 fr st k = opsK gS fi76 [(some 4)] [mk (some 4) (.assign (.const (.bool false))) 4 none] fr.clear st fr k := evK_reg1 (i := 0) (by kernel_rfl) (by kernel_rfl)
noncomputable def c76_3 : Code := codeAt b76 [true, false]
theorem e76_3 : evK gS fi76 c76_3 fr st k = opsK gS fi76 [(some 5), (some 6), (some 7), (some 8), (some 9), (some 10), (some 11), (some 12), (some 13), (some 14), (some 15), (some 16), (some 17), (some 4)] [mk (some 5) (.move (.tmp 0)) 9 none,
  mk (some 6) (.call { callee := (.builtin .len), args := #[(.tmp 5)], argTypes := #[9] }) 3 none,
  mk (some 7) (.move (.tmp 1)) 9 none,
  mk (some 8) (.call { callee := (.builtin .len), args := #[(.tmp 7)], argTypes := #[9] }) 3 none,
  mk (some 9) (.binOp .geq 3 (.tmp 6) (.tmp 8) 3) 4 none,
  mk (some 10) (.move (.tmp 9)) 4 none,
  mk (some 11) (.move (.tmp 0)) 9 (some (5, true)),
  mk (some 12) (.move (.tmp 1)) 9 (some (5, true)),
  mk (some 13) (.call { callee := (.builtin .len), args := #[(.tmp 12)], argTypes := #[9] }) 3 (some (5, true)),
  mk (some 14) (.slice 9 (.tmp 11) none (some (.tmp 13)) none) 9 (some (5, true)),
  mk (some 15) (.move (.tmp 1)) 9 (some (5, true)),
  mk (some 16) (.binOp .eql 9 (.tmp 14) (.tmp 15) 9) 4 (some (5, true)),
  mk (some 17) (.pick (.tmp 10) (.tmp 16) (.const (.bool false))) 4 none,
  mk (some 4) (.assign (.tmp 17)) 4 none] fr.clear st fr k := evK_reg1 (i := 1) (by kernel_rfl) (by kernel_rfl)
noncomputable def c76_4 : Code := .ret
theorem e76_4 : evK gS fi76 c76_4 fr st k = nextK gS fi76 k .ret fr st := rfl
noncomputable def c76_2 : Code := .seq c76_3 c76_4
theorem e76_2 : evK gS fi76 c76_2 fr st k = evK gS fi76 c76_3 fr st (.seq c76_4 k) := rfl
noncomputable def c76_0 : Code := .seq c76_1 c76_2
theorem e76_0 : evK gS fi76 c76_0 fr st k = evK gS fi76 c76_1 fr st (.seq c76_2 k) := rfl
theorem m76 : mini fi76.body = c76_0 := by kernel_rfl
set_option maxHeartbeats 4000000 in
theorem c76 (s : List UInt8) (t : List UInt8)  (st : St) : EvF gS 76 [.str s, .str t] st = some (.ret (.bool (isPre s t)) none, st) := by
  refine EvF_start fi76_eq (fun x h => by cases h) m76 ?_
  rw [st76]
  have hm : fi76.marks = [] := rfl
  have hl : fi76.locals = [] := rfl
  have hr : fi76.results = [.tmp 4] := rfl
  simp (config := { contextual := true, maxSteps := 10000000, maxDischargeDepth := 6 }) [-Int.not_le, -Int.not_lt, -Nat.not_le, -Nat.not_lt, ty3, ty4, ty9, hm, hl, hr, e76_1, e76_3, e76_4, e76_2, e76_0]
  all_goals try simp (config := { contextual := true }) [-Int.not_le, -Int.not_lt, -Nat.not_le, -Nat.not_lt, isPre]
  all_goals first | done | grind | omega | (trace_state; fail)
theorem k76 (s : List UInt8) (t : List UInt8)  (fr : Fr) (st : St) : callStep gS (EvF gS) 76 [.str s, .str t] fr st = some (.ok (retE none (.bool (isPre s t))) fr st) :=
  call_pure rfl fi76_eq rfl (fun st => c76 s t  st) (by simp)
end Go.Proofs.Ytclpbfkbpcjejaa
namespace Go.Proofs.Ytclpbfkbpcjejaa
open Go Go.Ab
set_option linter.unusedVariables false
set_option linter.unusedSimpArgs false
set_option linter.unnecessarySimpa false
set_option maxRecDepth 20000
variable (fr : Fr) (st : St) (k : Kt)
noncomputable def fi68 : FI := { body := codeOf Try.f68, ntmps := 28, results := [.tmp 2], pers := [0, 2, 3], locals := [], pure := true, marks := [] }
theorem fi68_eq : gS.fn 68 = some fi68 := by kernel_rfl
theorem st68 (a0 : V) : startFr fi68 [a0] = { ps := [(0, .val a0), (2, .any), (3, .any)], ts := [], lc := [] } := rfl
noncomputable def b68 : Code := mini (codeOf Try.f68)
noncomputable def c68_1 : Code := codeAt b68 [false]
theorem e68_1 : evK gS fi68 c68_1 fr st k = opsK gS fi68 [(some 2)] [mk (some 2) (.assign (.const (.bool false))) 4 none] fr.clear st fr k := evK_reg1 (i := 0) (by kernel_rfl) (by kernel_rfl)
noncomputable def c68_4 : Code := codeAt b68 [true, false, false]
theorem e68_4 : evK gS fi68 c68_4 fr st k = opsK gS fi68 [(some 3)] [mk (some 3) (.assign (.const (.int .i64 0))) 3 none] fr.clear st fr k := evK_reg1 (i := 1) (by kernel_rfl) (by kernel_rfl)
noncomputable def c68_9 : Code := codeAt b68 [true, false, true, false, false, false, false]
theorem e68_9 : evK gS fi68 c68_9 fr st k = opsK gS fi68 [(some 4), (some 5), (some 6), (some 7)] [mk (some 4) (.move (.tmp 3)) 3 none,
  mk (some 5) (.move (.tmp 0)) 9 none,
  mk (some 6) (.call { callee := (.builtin .len), args := #[(.tmp 5)], argTypes := #[9] }) 3 none,
  mk (some 7) (.binOp .lss 3 (.tmp 4) (.tmp 6) 3) 4 none] fr.clear st fr k := evK_reg1 (i := 2) (by kernel_rfl) (by kernel_rfl)
noncomputable def c68_11 : Code := .skip
theorem e68_11 : evK gS fi68 c68_11 fr st k = nextK gS fi68 k .normal fr st := rfl
noncomputable def c68_12 : Code := .exit 0
theorem e68_12 : evK gS fi68 c68_12 fr st k = nextK gS fi68 k (.exit 0) fr st := rfl
noncomputable def c68_10 : Code := .cond (.tmp 7) c68_11 c68_12
theorem e68_10 : evK gS fi68 c68_10 fr st k = condK gS fi68 (fr.op (.tmp 7)).bool? c68_11 c68_12 fr st k := rfl
noncomputable def c68_8 : Code := .seq c68_9 c68_10
theorem e68_8 : evK gS fi68 c68_8 fr st k = evK gS fi68 c68_9 fr st (.seq c68_10 k) := rfl
noncomputable def c68_16 : Code := codeAt b68 [true, false, true, false, false, true, false, false, false]
theorem e68_16 : evK gS fi68 c68_16 fr st k = opsK gS fi68 [(some 10), (some 11), (some 12), (some 13), (some 14), (some 15), (some 16), (some 17), (some 18), (some 19)] [mk (some 10) (.move (.tmp 0)) 9 none,
  mk (some 11) (.move (.tmp 3)) 3 none,
  mk (some 12) (.index 9 (.tmp 10) (.tmp 11)) 5 none,
  mk (some 13) (.binOp .lss 5 (.tmp 12) (.const (.int .u8 97)) 5) 4 none,
  mk (some 14) (.move (.tmp 13)) 4 none,
  mk (some 15) (.move (.tmp 0)) 9 (some (4, false)),
  mk (some 16) (.move (.tmp 3)) 3 (some (4, false)),
  mk (some 17) (.index 9 (.tmp 15) (.tmp 16)) 5 (some (4, false)),
  mk (some 18) (.binOp .gtr 5 (.tmp 17) (.const (.int .u8 122)) 5) 4 (some (4, false)),
  mk (some 19) (.pick (.tmp 14) (.const (.bool true)) (.tmp 18)) 4 none] fr.clear st fr k := evK_reg1 (i := 4) (by kernel_rfl) (by kernel_rfl)
noncomputable def c68_19 : Code := codeAt b68 [true, false, true, false, false, true, false, false, true, false, false]
theorem e68_19 : evK gS fi68 c68_19 fr st k = opsK gS fi68 [(some 2)] [mk (some 2) (.assign (.const (.bool false))) 4 none] fr.clear st fr k := evK_reg1 (i := 5) (by kernel_rfl) (by kernel_rfl)
noncomputable def c68_20 : Code := .ret
theorem e68_20 : evK gS fi68 c68_20 fr st k = nextK gS fi68 k .ret fr st := rfl
noncomputable def c68_18 : Code := .seq c68_19 c68_20
theorem e68_18 : evK gS fi68 c68_18 fr st k = evK gS fi68 c68_19 fr st (.seq c68_20 k) := rfl
noncomputable def c68_21 : Code := .skip
theorem e68_21 : evK gS fi68 c68_21 fr st k = nextK gS fi68 k .normal fr st := rfl
noncomputable def c68_17 : Code := .cond (.tmp 19) c68_18 c68_21
theorem e68_17 : evK gS fi68 c68_17 fr st k = condK gS fi68 (fr.op (.tmp 19)).bool? c68_18 c68_21 fr st k := rfl
noncomputable def c68_15 : Code := .seq c68_16 c68_17
theorem e68_15 : evK gS fi68 c68_15 fr st k = evK gS fi68 c68_16 fr st (.seq c68_17 k) := rfl
noncomputable def c68_14 : Code := .block 1 c68_15
theorem e68_14 : evK gS fi68 c68_14 fr st k = evK gS fi68 c68_15 fr st (.blk 1 k) := rfl
noncomputable def c68_22 : Code := codeAt b68 [true, false, true, false, false, true, true]
theorem e68_22 : evK gS fi68 c68_22 fr st k = opsK gS fi68 [(some 8), (some 9), (some 3)] [mk (some 8) (.move (.tmp 3)) 3 none,
  mk (some 9) (.binOp .add 3 (.tmp 8) (.const (.int .i64 1)) 3) 3 none,
  mk (some 3) (.assign (.tmp 9)) 3 none] fr.clear st fr k := evK_reg1 (i := 3) (by kernel_rfl) (by kernel_rfl)
noncomputable def c68_13 : Code := .seq c68_14 c68_22
theorem e68_13 : evK gS fi68 c68_13 fr st k = evK gS fi68 c68_14 fr st (.seq c68_22 k) := rfl
noncomputable def c68_7 : Code := .seq c68_8 c68_13
theorem e68_7 : evK gS fi68 c68_7 fr st k = evK gS fi68 c68_8 fr st (.seq c68_13 k) := rfl
noncomputable def c68_6 : Code := .loop c68_7
noncomputable def c68_5 : Code := .block 0 c68_6
theorem e68_5 : evK gS fi68 c68_5 fr st k = evK gS fi68 c68_6 fr st (.blk 0 k) := rfl
noncomputable def c68_3 : Code := .seq c68_4 c68_5
theorem e68_3 : evK gS fi68 c68_3 fr st k = evK gS fi68 c68_4 fr st (.seq c68_5 k) := rfl
noncomputable def c68_24 : Code := codeAt b68 [true, true, false]
theorem e68_24 : evK gS fi68 c68_24 fr st k = opsK gS fi68 [(some 20), (some 21), (some 22), (some 23), (some 24), (some 25), (some 26), (some 27), (some 2)] [mk (some 20) (.move (.tmp 0)) 9 none,
  mk (some 21) (.call { callee := (.builtin .len), args := #[(.tmp 20)], argTypes := #[9] }) 3 none,
  mk (some 22) (.binOp .geq 3 (.tmp 21) (.const (.int .i64 1)) 3) 4 none,
  mk (some 23) (.move (.tmp 22)) 4 none,
  mk (some 24) (.move (.tmp 0)) 9 (some (3, true)),
  mk (some 25) (.call { callee := (.builtin .len), args := #[(.tmp 24)], argTypes := #[9] }) 3 (some (3, true)),
  mk (some 26) (.binOp .leq 3 (.tmp 25) (.const (.int .i64 6)) 3) 4 (some (3, true)),
  mk (some 27) (.pick (.tmp 23) (.tmp 26) (.const (.bool false))) 4 none,
  mk (some 2) (.assign (.tmp 27)) 4 none] fr.clear st fr k := evK_reg1 (i := 6) (by kernel_rfl) (by kernel_rfl)
noncomputable def c68_25 : Code := .ret
theorem e68_25 : evK gS fi68 c68_25 fr st k = nextK gS fi68 k .ret fr st := rfl
noncomputable def c68_23 : Code := .seq c68_24 c68_25
theorem e68_23 : evK gS fi68 c68_23 fr st k = evK gS fi68 c68_24 fr st (.seq c68_25 k) := rfl
noncomputable def c68_2 : Code := .seq c68_3 c68_23
theorem e68_2 : evK gS fi68 c68_2 fr st k = evK gS fi68 c68_3 fr st (.seq c68_23 k) := rfl
noncomputable def c68_0 : Code := .seq c68_1 c68_2
theorem e68_0 : evK gS fi68 c68_0 fr st k = evK gS fi68 c68_1 fr st (.seq c68_2 k) := rfl
theorem m68 : mini fi68.body = c68_0 := by kernel_rfl
theorem n68_6 (fr : Fr) (st : St) (k : Kt) : nextK gS fi68 (.loop c68_7 k) .normal fr st = evK gS fi68 c68_6 fr st k := rfl
set_option maxHeartbeats 4000000 in
theorem L68_6 (s : List UInt8) (h_s : s.length < 4611686018427387904) (st : St) : ∀ (n i : Nat) (j : Int)  (e2 : E) (T : List (Nat × E)) (X : List (Nat × List V)) (ht2 : e2.Tame) , j = (i : Int) → i ≤ (s).length → (s).length - i = n →
    evK gS fi68 c68_6 { ps := [(0, .val (.str s)), (2, e2), (3, .val (.int .i64 j))], ts := T, lc := X } st (.blk 0 (.seq c68_23 .nil)) = some ((.ret (.bool ((s.drop i).all (fun c => !decide (c.toNat < 97) && !decide (122 < c.toNat)) && (decide (1 ≤ s.length) && decide (s.length ≤ 6)))) none), st) := by
  intro n
  have hm : fi68.marks = [] := rfl
  have hl : fi68.locals = [] := rfl
  have hr : fi68.results = [.tmp 2] := rfl
  induction n with
  | zero =>
    intro i j  e2 T X ht2  hj hi hn
    obtain rfl : i = (s).length := by omega
    subst hj
    refine evK_loop c68_7 _ st _ _ rfl ?_
    simp (config := { contextual := true, maxSteps := 10000000, maxDischargeDepth := 6 }) [-Int.not_le, -Int.not_lt, -Nat.not_le, -Nat.not_lt, ty3, ty4, ty5, ty9, hm, hl, hr, e68_1, e68_4, e68_9, e68_11, e68_12, e68_10, e68_8, e68_16, e68_19, e68_20, e68_18, e68_21, e68_17, e68_15, e68_14, e68_22, e68_13, e68_7, e68_5, e68_3, e68_24, e68_25, e68_23, e68_2, e68_0, n68_6, ht2]
    all_goals first | done | grind | omega | (trace_state; fail)
  | succ n ih =>
    intro i j  e2 T X ht2  hj hi hn
    subst hj
    obtain ⟨x, hx⟩ : ∃ x, (s)[i]? = some x := ⟨(s)[i]'(by omega), List.getElem?_eq_getElem (by omega)⟩
    have hd := drop_get hx
    have hlt : (i : Int) < ((s).length : Int) := by omega
    have hlt2 : i < (s).length := by omega
    have hxe : (s)[i]'hlt2 = x := by rw [List.getElem?_eq_getElem hlt2] at hx; exact Option.some.inj hx
    have hw : IntKind.wrap .i64 ((i : Int) + 1) = (i : Int) + 1 := wrap64 (by omega) (by omega)
    have IH := fun e2 T X ht2 => ih (i + 1) ((i : Int) + 1) e2 T X ht2 rfl (by omega) (by omega)
    refine evK_loop c68_7 _ st _ _ rfl ?_
    simp (config := { contextual := true, maxSteps := 10000000, maxDischargeDepth := 6 }) [-Int.not_le, -Int.not_lt, -Nat.not_le, -Nat.not_lt, ty3, ty4, ty5, ty9, hm, hl, hr, e68_1, e68_4, e68_9, e68_11, e68_12, e68_10, e68_8, e68_16, e68_19, e68_20, e68_18, e68_21, e68_17, e68_15, e68_14, e68_22, e68_13, e68_7, e68_5, e68_3, e68_24, e68_25, e68_23, e68_2, e68_0, n68_6, ht2, hx, hxe, hd, hlt, hlt2, hw, IH]
    all_goals first | done | grind | omega | (trace_state; fail)
set_option maxHeartbeats 4000000 in
theorem c68 (s : List UInt8) (h_s : s.length < 4611686018427387904) (st : St) : EvF gS 68 [.str s] st = some (.ret (.bool (isWord s)) none, st) := by
  refine EvF_start fi68_eq (fun x h => by cases h) m68 ?_
  rw [st68]
  have hm : fi68.marks = [] := rfl
  have hl : fi68.locals = [] := rfl
  have hr : fi68.results = [.tmp 2] := rfl
  simp (config := { contextual := true, maxSteps := 10000000, maxDischargeDepth := 6 }) [-Int.not_le, -Int.not_lt, -Nat.not_le, -Nat.not_lt, ty3, ty4, ty5, ty9, hm, hl, hr, e68_1, e68_4, e68_9, e68_11, e68_12, e68_10, e68_8, e68_16, e68_19, e68_20, e68_18, e68_21, e68_17, e68_15, e68_14, e68_22, e68_13, e68_7, e68_5, e68_3, e68_24, e68_25, e68_23, e68_2, e68_0, n68_6, (fun e2 T X ht2 => L68_6 s h_s st _ 0 0  e2 T X ht2 rfl (Nat.zero_le _) rfl)]
  all_goals try simp (config := { contextual := true }) [-Int.not_le, -Int.not_lt, -Nat.not_le, -Nat.not_lt, isWord]
  all_goals first | done | grind | omega | (trace_state; fail)
theorem k68 (s : List UInt8) (h_s : s.length < 4611686018427387904) (fr : Fr) (st : St) : callStep gS (EvF gS) 68 [.str s] fr st = some (.ok (retE none (.bool (isWord s))) fr st) :=
  call_pure rfl fi68_eq rfl (fun st => c68 s h_s st) (by simp)
noncomputable def fi71 : FI := { body := codeOf Try.f71, ntmps := 15, results := [.tmp 2], pers := [0, 2, 4, 5, 6, 7], locals := [4], pure := true, marks := [] }
theorem fi71_eq : gS.fn 71 = some fi71 := by kernel_rfl
theorem st71 (a0 : V) : startFr fi71 [a0] = { ps := [(0, .val a0), (2, .any), (4, .any), (5, .any), (6, .any), (7, .any)], ts := [], lc := [] } := rfl
noncomputable def b71 : Code := mini (codeOf Try.f71)
noncomputable def c71_1 : Code := codeAt b71 [false]
theorem e71_1 : evK gS fi71 c71_1 fr st k = opsK gS fi71 [(some 2)] [mk (some 2) (.assign (.const (.bool false))) 4 none] fr.clear st fr k := evK_reg1 (i := 0) (by kernel_rfl) (by kernel_rfl)
noncomputable def c71_4 : Code := codeAt b71 [true, false, false]
theorem e71_4 : evK gS fi71 c71_4 fr st k = opsK gS fi71 [(some 5), (some 6), (some 7)] [mk (some 5) (.move (.tmp 0)) 25 none,
  mk (some 6) (.call { callee := (.builtin .len), args := #[(.tmp 5)], argTypes := #[25] }) 3 none,
  mk (some 7) (.move (.const (.int .i64 0))) 3 none] fr.clear st fr k := evK_reg1 (i := 1) (by kernel_rfl) (by kernel_rfl)
noncomputable def c71_8 : Code := codeAt b71 [true, false, true, false, false, false]
theorem e71_8 : evK gS fi71 c71_8 fr st k = opsK gS fi71 [(some 8)] [mk (some 8) (.binOp .lss 3 (.tmp 7) (.tmp 6) 3) 0 none] fr.clear st fr k := evK_reg1 (i := 2) (by kernel_rfl) (by kernel_rfl)
noncomputable def c71_11 : Code := .skip
theorem e71_11 : evK gS fi71 c71_11 fr st k = nextK gS fi71 k .normal fr st := rfl
noncomputable def c71_12 : Code := .exit 0
theorem e71_12 : evK gS fi71 c71_12 fr st k = nextK gS fi71 k (.exit 0) fr st := rfl
noncomputable def c71_10 : Code := .cond (.tmp 8) c71_11 c71_12
theorem e71_10 : evK gS fi71 c71_10 fr st k = condK gS fi71 (fr.op (.tmp 8)).bool? c71_11 c71_12 fr st k := rfl
noncomputable def c71_16 : Code := codeAt b71 [true, false, true, false, false, true, true, false, false, false]
theorem e71_16 : evK gS fi71 c71_16 fr st k = opsK gS fi71 [(some 9), (some 10), (some 4), none] [mk (some 9) (.indexAddr 25 (.tmp 5) (.tmp 7)) 0 none,
  mk (some 10) (.load 24 (.tmp 9)) 24 none,
  mk (some 4) (.alloc 24) 0 none,
  mk none (.store 24 (.tmp 4) (.tmp 10)) 0 none] fr.clear st fr k := evK_reg1 (i := 3) (by kernel_rfl) (by kernel_rfl)
noncomputable def c71_18 : Code := codeAt b71 [true, false, true, false, false, true, true, false, false, true, false]
theorem e71_18 : evK gS fi71 c71_18 fr st k = opsK gS fi71 [(some 11), (some 12), (some 13)] [mk (some 11) (.load 24 (.tmp 4)) 24 none,
  mk (some 12) (.call { callee := (.value (.func 70)), args := #[(.tmp 11)], argTypes := #[24] }) 4 none,
  mk (some 13) (.unOp .not 4 (.tmp 12)) 4 none] fr.clear st fr k := evK_reg1 (i := 4) (by kernel_rfl) (by kernel_rfl)
noncomputable def c71_21 : Code := codeAt b71 [true, false, true, false, false, true, true, false, false, true, true, false, false]
theorem e71_21 : evK gS fi71 c71_21 fr st k = opsK gS fi71 [(some 2)] [mk (some 2) (.assign (.const (.bool false))) 4 none] fr.clear st fr k := evK_reg1 (i := 5) (by kernel_rfl) (by kernel_rfl)
noncomputable def c71_22 : Code := .ret
theorem e71_22 : evK gS fi71 c71_22 fr st k = nextK gS fi71 k .ret fr st := rfl
noncomputable def c71_20 : Code := .seq c71_21 c71_22
theorem e71_20 : evK gS fi71 c71_20 fr st k = evK gS fi71 c71_21 fr st (.seq c71_22 k) := rfl
noncomputable def c71_23 : Code := .skip
theorem e71_23 : evK gS fi71 c71_23 fr st k = nextK gS fi71 k .normal fr st := rfl
noncomputable def c71_19 : Code := .cond (.tmp 13) c71_20 c71_23
theorem e71_19 : evK gS fi71 c71_19 fr st k = condK gS fi71 (fr.op (.tmp 13)).bool? c71_20 c71_23 fr st k := rfl
noncomputable def c71_17 : Code := .seq c71_18 c71_19
theorem e71_17 : evK gS fi71 c71_17 fr st k = evK gS fi71 c71_18 fr st (.seq c71_19 k) := rfl
noncomputable def c71_15 : Code := .seq c71_16 c71_17
theorem e71_15 : evK gS fi71 c71_15 fr st k = evK gS fi71 c71_16 fr st (.seq c71_17 k) := rfl
noncomputable def c71_14 : Code := .block 1 c71_15
theorem e71_14 : evK gS fi71 c71_14 fr st k = evK gS fi71 c71_15 fr st (.blk 1 k) := rfl
noncomputable def c71_24 : Code := codeAt b71 [true, false, true, false, false, true, true, true]
theorem e71_24 : evK gS fi71 c71_24 fr st k = opsK gS fi71 [(some 14), (some 7)] [mk (some 14) (.binOp .add 3 (.tmp 7) (.const (.int .i64 1)) 3) 3 none,
  mk (some 7) (.move (.tmp 14)) 3 none] fr.clear st fr k := evK_reg1 (i := 6) (by kernel_rfl) (by kernel_rfl)
noncomputable def c71_13 : Code := .seq c71_14 c71_24
theorem e71_13 : evK gS fi71 c71_13 fr st k = evK gS fi71 c71_14 fr st (.seq c71_24 k) := rfl
noncomputable def c71_9 : Code := .seq c71_10 c71_13
theorem e71_9 : evK gS fi71 c71_9 fr st k = evK gS fi71 c71_10 fr st (.seq c71_13 k) := rfl
noncomputable def c71_7 : Code := .seq c71_8 c71_9
theorem e71_7 : evK gS fi71 c71_7 fr st k = evK gS fi71 c71_8 fr st (.seq c71_9 k) := rfl
noncomputable def c71_6 : Code := .loop c71_7
noncomputable def c71_5 : Code := .block 0 c71_6
theorem e71_5 : evK gS fi71 c71_5 fr st k = evK gS fi71 c71_6 fr st (.blk 0 k) := rfl
noncomputable def c71_3 : Code := .seq c71_4 c71_5
theorem e71_3 : evK gS fi71 c71_3 fr st k = evK gS fi71 c71_4 fr st (.seq c71_5 k) := rfl
noncomputable def c71_26 : Code := codeAt b71 [true, true, false]
theorem e71_26 : evK gS fi71 c71_26 fr st k = opsK gS fi71 [(some 2)] [mk (some 2) (.assign (.const (.bool true))) 4 none] fr.clear st fr k := evK_reg1 (i := 7) (by kernel_rfl) (by kernel_rfl)
noncomputable def c71_27 : Code := .ret
theorem e71_27 : evK gS fi71 c71_27 fr st k = nextK gS fi71 k .ret fr st := rfl
noncomputable def c71_25 : Code := .seq c71_26 c71_27
theorem e71_25 : evK gS fi71 c71_25 fr st k = evK gS fi71 c71_26 fr st (.seq c71_27 k) := rfl
noncomputable def c71_2 : Code := .seq c71_3 c71_25
theorem e71_2 : evK gS fi71 c71_2 fr st k = evK gS fi71 c71_3 fr st (.seq c71_25 k) := rfl
noncomputable def c71_0 : Code := .seq c71_1 c71_2
theorem e71_0 : evK gS fi71 c71_0 fr st k = evK gS fi71 c71_1 fr st (.seq c71_2 k) := rfl
theorem m71 : mini fi71.body = c71_0 := by kernel_rfl
theorem n71_6 (fr : Fr) (st : St) (k : Kt) : nextK gS fi71 (.loop c71_7 k) .normal fr st = evK gS fi71 c71_6 fr st k := rfl
set_option maxHeartbeats 4000000 in
theorem L71_6 (l : List Val) (h_l : l.length < 4611686018427387904) (st : St) : ∀ (n i : Nat) (j : Int)  (e0 e2 e4 : E) (T : List (Nat × E)) (X : List (Nat × List V)) (ht0 : e0.Tame) (ht2 : e2.Tame) (ht4 : e4.Tame) , j = (i : Int) → i ≤ (l).length → (l).length - i = n →
    evK gS fi71 c71_6 { ps := [(0, e0), (2, e2), (4, e4), (5, .val (.slice (encVals l))), (6, .val (.int .i64 l.length)), (7, .val (.int .i64 j))], ts := T, lc := X } st (.blk 0 (.seq c71_25 .nil)) = some ((.ret (.bool ((l.drop i).all vright)) none), st) := by
  intro n
  have hm : fi71.marks = [] := rfl
  have hl : fi71.locals = [4] := rfl
  have hr : fi71.results = [.tmp 2] := rfl
  induction n with
  | zero =>
    intro i j  e0 e2 e4 T X ht0 ht2 ht4  hj hi hn
    obtain rfl : i = (l).length := by omega
    subst hj
    refine evK_loop c71_7 _ st _ _ rfl ?_
    simp (config := { contextual := true, maxSteps := 10000000, maxDischargeDepth := 6 }) [-Int.not_le, -Int.not_lt, -Nat.not_le, -Nat.not_lt, ty3, ty4, ty24, ty25, eq24, hm, hl, hr, k70, e71_1, e71_4, e71_8, e71_11, e71_12, e71_10, e71_16, e71_18, e71_21, e71_22, e71_20, e71_23, e71_19, e71_17, e71_15, e71_14, e71_24, e71_13, e71_9, e71_7, e71_5, e71_3, e71_26, e71_27, e71_25, e71_2, e71_0, n71_6, ht0, ht2, ht4]
    all_goals first | done | grind | omega | (trace_state; fail)
  | succ n ih =>
    intro i j  e0 e2 e4 T X ht0 ht2 ht4  hj hi hn
    subst hj
    obtain ⟨x, hx⟩ : ∃ x, (l)[i]? = some x := ⟨(l)[i]'(by omega), List.getElem?_eq_getElem (by omega)⟩
    have hd := drop_get hx
    have hlt : (i : Int) < ((l).length : Int) := by omega
    have hlt2 : i < (l).length := by omega
    have hxe : (l)[i]'hlt2 = x := by rw [List.getElem?_eq_getElem hlt2] at hx; exact Option.some.inj hx
    have hw : IntKind.wrap .i64 ((i : Int) + 1) = (i : Int) + 1 := wrap64 (by omega) (by omega)
    have IH := fun e0 e2 e4 T X ht0 ht2 ht4 => ih (i + 1) ((i : Int) + 1) e0 e2 e4 T X ht0 ht2 ht4 rfl (by omega) (by omega)
    refine evK_loop c71_7 _ st _ _ rfl ?_
    simp (config := { contextual := true, maxSteps := 10000000, maxDischargeDepth := 6 }) [-Int.not_le, -Int.not_lt, -Nat.not_le, -Nat.not_lt, ty3, ty4, ty24, ty25, eq24, hm, hl, hr, k70, e71_1, e71_4, e71_8, e71_11, e71_12, e71_10, e71_16, e71_18, e71_21, e71_22, e71_20, e71_23, e71_19, e71_17, e71_15, e71_14, e71_24, e71_13, e71_9, e71_7, e71_5, e71_3, e71_26, e71_27, e71_25, e71_2, e71_0, n71_6, ht0, ht2, ht4, hx, hxe, hd, hlt, hlt2, hw, IH]
    all_goals first | done | grind | omega | (trace_state; fail)
set_option maxHeartbeats 4000000 in
theorem c71 (l : List Val) (h_l : l.length < 4611686018427387904) (st : St) : EvF gS 71 [.slice (encVals l)] st = some (.ret (.bool (l.all vright)) none, st) := by
  refine EvF_start fi71_eq (fun x h => by cases h) m71 ?_
  rw [st71]
  have hm : fi71.marks = [] := rfl
  have hl : fi71.locals = [4] := rfl
  have hr : fi71.results = [.tmp 2] := rfl
  simp (config := { contextual := true, maxSteps := 10000000, maxDischargeDepth := 6 }) [-Int.not_le, -Int.not_lt, -Nat.not_le, -Nat.not_lt, ty3, ty4, ty24, ty25, eq24, hm, hl, hr, k70, e71_1, e71_4, e71_8, e71_11, e71_12, e71_10, e71_16, e71_18, e71_21, e71_22, e71_20, e71_23, e71_19, e71_17, e71_15, e71_14, e71_24, e71_13, e71_9, e71_7, e71_5, e71_3, e71_26, e71_27, e71_25, e71_2, e71_0, n71_6, (fun e0 e2 e4 T X ht0 ht2 ht4 => L71_6 l h_l st _ 0 0  e0 e2 e4 T X ht0 ht2 ht4 rfl (Nat.zero_le _) rfl)]
  all_goals first | done | grind | omega | (trace_state; fail)
theorem k71 (l : List Val) (h_l : l.length < 4611686018427387904) (fr : Fr) (st : St) : callStep gS (EvF gS) 71 [.slice (encVals l)] fr st = some (.ok (retE none (.bool (l.all vright))) fr st) :=
  call_pure rfl fi71_eq rfl (fun st => c71 l h_l st) (by simp)
end Go.Proofs.Ytclpbfkbpcjejaa
namespace Go.Proofs.Ytclpbfkbpcjejaa
open Go Go.Ab
set_option linter.unusedVariables false
set_option linter.unusedSimpArgs false
set_option linter.unnecessarySimpa false
set_option maxRecDepth 20000
variable (fr : Fr) (st : St) (k : Kt)
noncomputable def fi19 : FI := { body := codeOf Try.f19, ntmps := 111, results := [.tmp 2], pers := [0, 1, 2, 8, 25], locals := [1], pure := true, marks := [] }
theorem fi19_eq : gS.fn 19 = some fi19 := by kernel_rfl
theorem st19 (a0 : V) : startFr fi19 [a0] = { ps := [(0, .val a0), (1, .any), (2, .any), (8, .any), (25, .any)], ts := [], lc := [] } := rfl
noncomputable def b19 : Code := mini (codeOf Try.f19)
noncomputable def c19_1 : Code := codeAt b19 [false]
theorem e19_1 : evK gS fi19 c19_1 fr st k = opsK gS fi19 [(some 1), (some 2)] [mk (some 1) (.box 27 (.tmp 0)) 0 none,
  mk (some 2) (.assign (.const (.bool false))) 4 none] fr.clear st fr k := evK_reg1 (i := 0) (by kernel_rfl) (by kernel_rfl)
noncomputable def c19_4 : Code := codeAt b19 [true, false, false]
theorem e19_4 : evK gS fi19 c19_4 fr st k = opsK gS fi19 [(some 3), (some 4), (some 5), (some 6)] [mk (some 3) (.fieldAddr 27 (.tmp 1) 0) 0 none,
  mk (some 4) (.load 9 (.tmp 3)) 9 none,
  mk (some 5) (.call { callee := (.value (.func 68)), args := #[(.tmp 4)], argTypes := #[9] }) 4 none,
  mk (some 6) (.unOp .not 4 (.tmp 5)) 4 none] fr.clear st fr k := evK_reg1 (i := 1) (by kernel_rfl) (by kernel_rfl)
noncomputable def c19_7 : Code := codeAt b19 [true, false, true, false, false]
theorem e19_7 : evK gS fi19 c19_7 fr st k = opsK gS fi19 [(some 2)] [mk (some 2) (.assign (.const (.bool false))) 4 none] fr.clear st fr k := evK_reg1 (i := 2) (by kernel_rfl) (by kernel_rfl)
noncomputable def c19_8 : Code := .ret
theorem e19_8 : evK gS fi19 c19_8 fr st k = nextK gS fi19 k .ret fr st := rfl
noncomputable def c19_6 : Code := .seq c19_7 c19_8
theorem e19_6 : evK gS fi19 c19_6 fr st k = evK gS fi19 c19_7 fr st (.seq c19_8 k) := rfl
noncomputable def c19_9 : Code := .skip
theorem e19_9 : evK gS fi19 c19_9 fr st k = nextK gS fi19 k .normal fr st := rfl
noncomputable def c19_5 : Code := .cond (.tmp 6) c19_6 c19_9
theorem e19_5 : evK gS fi19 c19_5 fr st k = condK gS fi19 (fr.op (.tmp 6)).bool? c19_6 c19_9 fr st k := rfl
noncomputable def c19_3 : Code := .seq c19_4 c19_5
theorem e19_3 : evK gS fi19 c19_3 fr st k = evK gS fi19 c19_4 fr st (.seq c19_5 k) := rfl
noncomputable def c19_12 : Code := codeAt b19 [true, true, false, false]
theorem e19_12 : evK gS fi19 c19_12 fr st k = opsK gS fi19 [(some 7), (some 8)] [mk (some 7) (.fieldAddr 27 (.tmp 1) 1) 0 none,
  mk (some 8) (.load 3 (.tmp 7)) 3 none] fr.clear st fr k := evK_reg1 (i := 3) (by kernel_rfl) (by kernel_rfl)
noncomputable def c19_15 : Code := codeAt b19 [true, true, false, true, false, false]
theorem e19_15 : evK gS fi19 c19_15 fr st k = opsK gS fi19 [(some 10), (some 9)] [mk (some 10) (.binOp .eql 3 (.tmp 8) (.const (.int .i64 1)) 3) 4 none,
  mk (some 9) (.assign (.tmp 10)) 4 none] fr.clear st fr k := evK_reg1 (i := 4) (by kernel_rfl) (by kernel_rfl)
noncomputable def c19_18 : Code := codeAt b19 [true, true, false, true, false, true, false, false]
theorem e19_18 : evK gS fi19 c19_18 fr st k = opsK gS fi19 [(some 11), (some 12), (some 13), (some 14), (some 15), (some 16), (some 17), (some 18), (some 19), (some 20), (some 21), (some 22), (some 23), (some 24), (some 2)] [mk (some 11) (.fieldAddr 27 (.tmp 1) 2) 0 none,
  mk (some 12) (.load 24 (.tmp 11)) 24 none,
  mk (some 13) (.call { callee := (.value (.func 69)), args := #[(.tmp 12)], argTypes := #[24] }) 4 none,
  mk (some 14) (.move (.tmp 13)) 4 none,
  mk (some 15) (.fieldAddr 27 (.tmp 1) 3) 0 (some (3, true)),
  mk (some 16) (.load 24 (.tmp 15)) 24 (some (3, true)),
  mk (some 17) (.call { callee := (.value (.func 69)), args := #[(.tmp 16)], argTypes := #[24] }) 4 (some (3, true)),
  mk (some 18) (.pick (.tmp 14) (.tmp 17) (.const (.bool false))) 4 none,
  mk (some 19) (.move (.tmp 18)) 4 none,
  mk (some 20) (.fieldAddr 27 (.tmp 1) 4) 0 (some (8, true)),
  mk (some 21) (.load 25 (.tmp 20)) 25 (some (8, true)),
  mk (some 22) (.call { callee := (.builtin .len), args := #[(.tmp 21)], argTypes := #[25] }) 3 (some (8, true)),
  mk (some 23) (.binOp .eql 3 (.tmp 22) (.const (.int .i64 0)) 3) 4 (some (8, true)),
  mk (some 24) (.pick (.tmp 19) (.tmp 23) (.const (.bool false))) 4 none,
  mk (some 2) (.assign (.tmp 24)) 4 none] fr.clear st fr k := evK_reg1 (i := 5) (by kernel_rfl) (by kernel_rfl)
noncomputable def c19_19 : Code := .ret
theorem e19_19 : evK gS fi19 c19_19 fr st k = nextK gS fi19 k .ret fr st := rfl
noncomputable def c19_17 : Code := .seq c19_18 c19_19
theorem e19_17 : evK gS fi19 c19_17 fr st k = evK gS fi19 c19_18 fr st (.seq c19_19 k) := rfl
noncomputable def c19_22 : Code := codeAt b19 [true, true, false, true, false, true, true, false, false]
theorem e19_22 : evK gS fi19 c19_22 fr st k = opsK gS fi19 [(some 26), (some 25)] [mk (some 26) (.binOp .eql 3 (.tmp 8) (.const (.int .i64 2)) 3) 4 none,
  mk (some 25) (.assign (.tmp 26)) 4 none] fr.clear st fr k := evK_reg1 (i := 6) (by kernel_rfl) (by kernel_rfl)
noncomputable def c19_24 : Code := .skip
theorem e19_24 : evK gS fi19 c19_24 fr st k = nextK gS fi19 k .normal fr st := rfl
noncomputable def c19_26 : Code := codeAt b19 [true, true, false, true, false, true, true, false, true, true, false]
theorem e19_26 : evK gS fi19 c19_26 fr st k = opsK gS fi19 [(some 27), (some 25)] [mk (some 27) (.binOp .eql 3 (.tmp 8) (.const (.int .i64 3)) 3) 4 none,
  mk (some 25) (.assign (.tmp 27)) 4 none] fr.clear st fr k := evK_reg1 (i := 7) (by kernel_rfl) (by kernel_rfl)
noncomputable def c19_28 : Code := .skip
theorem e19_28 : evK gS fi19 c19_28 fr st k = nextK gS fi19 k .normal fr st := rfl
noncomputable def c19_30 : Code := codeAt b19 [true, true, false, true, false, true, true, false, true, true, true, true, false]
theorem e19_30 : evK gS fi19 c19_30 fr st k = opsK gS fi19 [(some 28), (some 25)] [mk (some 28) (.binOp .eql 3 (.tmp 8) (.const (.int .i64 4)) 3) 4 none,
  mk (some 25) (.assign (.tmp 28)) 4 none] fr.clear st fr k := evK_reg1 (i := 8) (by kernel_rfl) (by kernel_rfl)
noncomputable def c19_32 : Code := .skip
theorem e19_32 : evK gS fi19 c19_32 fr st k = nextK gS fi19 k .normal fr st := rfl
noncomputable def c19_34 : Code := codeAt b19 [true, true, false, true, false, true, true, false, true, true, true, true, true, true, false]
theorem e19_34 : evK gS fi19 c19_34 fr st k = opsK gS fi19 [(some 29), (some 25)] [mk (some 29) (.binOp .eql 3 (.tmp 8) (.const (.int .i64 5)) 3) 4 none,
  mk (some 25) (.assign (.tmp 29)) 4 none] fr.clear st fr k := evK_reg1 (i := 9) (by kernel_rfl) (by kernel_rfl)
noncomputable def c19_36 : Code := .skip
theorem e19_36 : evK gS fi19 c19_36 fr st k = nextK gS fi19 k .normal fr st := rfl
noncomputable def c19_38 : Code := codeAt b19 [true, true, false, true, false, true, true, false, true, true, true, true, true, true, true, true, false]
theorem e19_38 : evK gS fi19 c19_38 fr st k = opsK gS fi19 [(some 30), (some 25)] [mk (some 30) (.binOp .eql 3 (.tmp 8) (.const (.int .i64 6)) 3) 4 none,
  mk (some 25) (.assign (.tmp 30)) 4 none] fr.clear st fr k := evK_reg1 (i := 10) (by kernel_rfl) (by kernel_rfl)
noncomputable def c19_40 : Code := .skip
theorem e19_40 : evK gS fi19 c19_40 fr st k = nextK gS fi19 k .normal fr st := rfl
noncomputable def c19_41 : Code := codeAt b19 [true, true, false, true, false, true, true, false, true, true, true, true, true, true, true, true, true, true]
theorem e19_41 : evK gS fi19 c19_41 fr st k = opsK gS fi19 [(some 31), (some 25)] [mk (some 31) (.binOp .eql 3 (.tmp 8) (.const (.int .i64 7)) 3) 4 none,
  mk (some 25) (.assign (.tmp 31)) 4 none] fr.clear st fr k := evK_reg1 (i := 11) (by kernel_rfl) (by kernel_rfl)
noncomputable def c19_39 : Code := .cond (.tmp 25) c19_40 c19_41
theorem e19_39 : evK gS fi19 c19_39 fr st k = condK gS fi19 (fr.op (.tmp 25)).bool? c19_40 c19_41 fr st k := rfl
noncomputable def c19_37 : Code := .seq c19_38 c19_39
theorem e19_37 : evK gS fi19 c19_37 fr st k = evK gS fi19 c19_38 fr st (.seq c19_39 k) := rfl
noncomputable def c19_35 : Code := .cond (.tmp 25) c19_36 c19_37
theorem e19_35 : evK gS fi19 c19_35 fr st k = condK gS fi19 (fr.op (.tmp 25)).bool? c19_36 c19_37 fr st k := rfl
noncomputable def c19_33 : Code := .seq c19_34 c19_35
theorem e19_33 : evK gS fi19 c19_33 fr st k = evK gS fi19 c19_34 fr st (.seq c19_35 k) := rfl
noncomputable def c19_31 : Code := .cond (.tmp 25) c19_32 c19_33
theorem e19_31 : evK gS fi19 c19_31 fr st k = condK gS fi19 (fr.op (.tmp 25)).bool? c19_32 c19_33 fr st k := rfl
noncomputable def c19_29 : Code := .seq c19_30 c19_31
theorem e19_29 : evK gS fi19 c19_29 fr st k = evK gS fi19 c19_30 fr st (.seq c19_31 k) := rfl
noncomputable def c19_27 : Code := .cond (.tmp 25) c19_28 c19_29
theorem e19_27 : evK gS fi19 c19_27 fr st k = condK gS fi19 (fr.op (.tmp 25)).bool? c19_28 c19_29 fr st k := rfl
noncomputable def c19_25 : Code := .seq c19_26 c19_27
theorem e19_25 : evK gS fi19 c19_25 fr st k = evK gS fi19 c19_26 fr st (.seq c19_27 k) := rfl
noncomputable def c19_23 : Code := .cond (.tmp 25) c19_24 c19_25
theorem e19_23 : evK gS fi19 c19_23 fr st k = condK gS fi19 (fr.op (.tmp 25)).bool? c19_24 c19_25 fr st k := rfl
noncomputable def c19_21 : Code := .seq c19_22 c19_23
theorem e19_21 : evK gS fi19 c19_21 fr st k = evK gS fi19 c19_22 fr st (.seq c19_23 k) := rfl
noncomputable def c19_44 : Code := codeAt b19 [true, true, false, true, false, true, true, true, false, false]
theorem e19_44 : evK gS fi19 c19_44 fr st k = opsK gS fi19 [(some 32), (some 33), (some 34), (some 35), (some 36), (some 37), (some 38), (some 39), (some 40), (some 41), (some 42), (some 43), (some 44), (some 45), (some 2)] [mk (some 32) (.fieldAddr 27 (.tmp 1) 2) 0 none,
  mk (some 33) (.load 24 (.tmp 32)) 24 none,
  mk (some 34) (.call { callee := (.value (.func 70)), args := #[(.tmp 33)], argTypes := #[24] }) 4 none,
  mk (some 35) (.move (.tmp 34)) 4 none,
  mk (some 36) (.fieldAddr 27 (.tmp 1) 3) 0 (some (3, true)),
  mk (some 37) (.load 24 (.tmp 36)) 24 (some (3, true)),
  mk (some 38) (.call { callee := (.value (.func 69)), args := #[(.tmp 37)], argTypes := #[24] }) 4 (some (3, true)),
  mk (some 39) (.pick (.tmp 35) (.tmp 38) (.const (.bool false))) 4 none,
  mk (some 40) (.move (.tmp 39)) 4 none,
  mk (some 41) (.fieldAddr 27 (.tmp 1) 4) 0 (some (8, true)),
  mk (some 42) (.load 25 (.tmp 41)) 25 (some (8, true)),
  mk (some 43) (.call { callee := (.builtin .len), args := #[(.tmp 42)], argTypes := #[25] }) 3 (some (8, true)),
  mk (some 44) (.binOp .eql 3 (.tmp 43) (.const (.int .i64 0)) 3) 4 (some (8, true)),
  mk (some 45) (.pick (.tmp 40) (.tmp 44) (.const (.bool false))) 4 none,
  mk (some 2) (.assign (.tmp 45)) 4 none] fr.clear st fr k := evK_reg1 (i := 12) (by kernel_rfl) (by kernel_rfl)
noncomputable def c19_45 : Code := .ret
theorem e19_45 : evK gS fi19 c19_45 fr st k = nextK gS fi19 k .ret fr st := rfl
noncomputable def c19_43 : Code := .seq c19_44 c19_45
theorem e19_43 : evK gS fi19 c19_43 fr st k = evK gS fi19 c19_44 fr st (.seq c19_45 k) := rfl
noncomputable def c19_47 : Code := codeAt b19 [true, true, false, true, false, true, true, true, true, false]
theorem e19_47 : evK gS fi19 c19_47 fr st k = opsK gS fi19 [(some 47), (some 46)] [mk (some 47) (.binOp .eql 3 (.tmp 8) (.const (.int .i64 8)) 3) 4 none,
  mk (some 46) (.assign (.tmp 47)) 4 none] fr.clear st fr k := evK_reg1 (i := 13) (by kernel_rfl) (by kernel_rfl)
noncomputable def c19_50 : Code := codeAt b19 [true, true, false, true, false, true, true, true, true, true, false, false]
theorem e19_50 : evK gS fi19 c19_50 fr st k = opsK gS fi19 [(some 48), (some 49), (some 50), (some 51), (some 52), (some 53), (some 54), (some 55), (some 56), (some 57), (some 58), (some 59), (some 60), (some 61), (some 2)] [mk (some 48) (.fieldAddr 27 (.tmp 1) 2) 0 none,
  mk (some 49) (.load 24 (.tmp 48)) 24 none,
  mk (some 50) (.call { callee := (.value (.func 70)), args := #[(.tmp 49)], argTypes := #[24] }) 4 none,
  mk (some 51) (.move (.tmp 50)) 4 none,
  mk (some 52) (.fieldAddr 27 (.tmp 1) 3) 0 (some (3, true)),
  mk (some 53) (.load 24 (.tmp 52)) 24 (some (3, true)),
  mk (some 54) (.call { callee := (.value (.func 70)), args := #[(.tmp 53)], argTypes := #[24] }) 4 (some (3, true)),
  mk (some 55) (.pick (.tmp 51) (.tmp 54) (.const (.bool false))) 4 none,
  mk (some 56) (.move (.tmp 55)) 4 none,
  mk (some 57) (.fieldAddr 27 (.tmp 1) 4) 0 (some (8, true)),
  mk (some 58) (.load 25 (.tmp 57)) 25 (some (8, true)),
  mk (some 59) (.call { callee := (.builtin .len), args := #[(.tmp 58)], argTypes := #[25] }) 3 (some (8, true)),
  mk (some 60) (.binOp .eql 3 (.tmp 59) (.const (.int .i64 0)) 3) 4 (some (8, true)),
  mk (some 61) (.pick (.tmp 56) (.tmp 60) (.const (.bool false))) 4 none,
  mk (some 2) (.assign (.tmp 61)) 4 none] fr.clear st fr k := evK_reg1 (i := 14) (by kernel_rfl) (by kernel_rfl)
noncomputable def c19_51 : Code := .ret
theorem e19_51 : evK gS fi19 c19_51 fr st k = nextK gS fi19 k .ret fr st := rfl
noncomputable def c19_49 : Code := .seq c19_50 c19_51
theorem e19_49 : evK gS fi19 c19_49 fr st k = evK gS fi19 c19_50 fr st (.seq c19_51 k) := rfl
noncomputable def c19_53 : Code := codeAt b19 [true, true, false, true, false, true, true, true, true, true, true, false]
theorem e19_53 : evK gS fi19 c19_53 fr st k = opsK gS fi19 [(some 63), (some 62)] [mk (some 63) (.binOp .eql 3 (.tmp 8) (.const (.int .i64 9)) 3) 4 none,
  mk (some 62) (.assign (.tmp 63)) 4 none] fr.clear st fr k := evK_reg1 (i := 15) (by kernel_rfl) (by kernel_rfl)
noncomputable def c19_56 : Code := codeAt b19 [true, true, false, true, false, true, true, true, true, true, true, true, false, false]
theorem e19_56 : evK gS fi19 c19_56 fr st k = opsK gS fi19 [(some 64), (some 65), (some 66), (some 67), (some 68), (some 69), (some 70), (some 71), (some 72), (some 73), (some 74), (some 75), (some 76), (some 77), (some 78), (some 79), (some 80), (some 81), (some 82), (some 83), (some 2)] [mk (some 64) (.fieldAddr 27 (.tmp 1) 2) 0 none,
  mk (some 65) (.load 24 (.tmp 64)) 24 none,
  mk (some 66) (.call { callee := (.value (.func 70)), args := #[(.tmp 65)], argTypes := #[24] }) 4 none,
  mk (some 67) (.move (.tmp 66)) 4 none,
  mk (some 68) (.fieldAddr 27 (.tmp 1) 2) 0 (some (3, true)),
  mk (some 69) (.fieldAddr 24 (.tmp 68) 0) 0 (some (3, true)),
  mk (some 70) (.load 3 (.tmp 69)) 3 (some (3, true)),
  mk (some 71) (.binOp .eql 3 (.tmp 70) (.const (.int .i64 3)) 3) 4 (some (3, true)),
  mk (some 72) (.pick (.tmp 67) (.tmp 71) (.const (.bool false))) 4 none,
  mk (some 73) (.move (.tmp 72)) 4 none,
  mk (some 74) (.fieldAddr 27 (.tmp 1) 3) 0 (some (9, true)),
  mk (some 75) (.load 24 (.tmp 74)) 24 (some (9, true)),
  mk (some 76) (.call { callee := (.value (.func 69)), args := #[(.tmp 75)], argTypes := #[24] }) 4 (some (9, true)),
  mk (some 77) (.pick (.tmp 73) (.tmp 76) (.const (.bool false))) 4 none,
  mk (some 78) (.move (.tmp 77)) 4 none,
  mk (some 79) (.fieldAddr 27 (.tmp 1) 4) 0 (some (14, true)),
  mk (some 80) (.load 25 (.tmp 79)) 25 (some (14, true)),
  mk (some 81) (.call { callee := (.builtin .len), args := #[(.tmp 80)], argTypes := #[25] }) 3 (some (14, true)),
  mk (some 82) (.binOp .eql 3 (.tmp 81) (.const (.int .i64 0)) 3) 4 (some (14, true)),
  mk (some 83) (.pick (.tmp 78) (.tmp 82) (.const (.bool false))) 4 none,
  mk (some 2) (.assign (.tmp 83)) 4 none] fr.clear st fr k := evK_reg1 (i := 16) (by kernel_rfl) (by kernel_rfl)
noncomputable def c19_57 : Code := .ret
theorem e19_57 : evK gS fi19 c19_57 fr st k = nextK gS fi19 k .ret fr st := rfl
noncomputable def c19_55 : Code := .seq c19_56 c19_57
theorem e19_55 : evK gS fi19 c19_55 fr st k = evK gS fi19 c19_56 fr st (.seq c19_57 k) := rfl
noncomputable def c19_59 : Code := codeAt b19 [true, true, false, true, false, true, true, true, true, true, true, true, true, false]
theorem e19_59 : evK gS fi19 c19_59 fr st k = opsK gS fi19 [(some 85), (some 84)] [mk (some 85) (.binOp .eql 3 (.tmp 8) (.const (.int .i64 10)) 3) 4 none,
  mk (some 84) (.assign (.tmp 85)) 4 none] fr.clear st fr k := evK_reg1 (i := 17) (by kernel_rfl) (by kernel_rfl)
noncomputable def c19_62 : Code := codeAt b19 [true, true, false, true, false, true, true, true, true, true, true, true, true, true, false, false]
theorem e19_62 : evK gS fi19 c19_62 fr st k = opsK gS fi19 [(some 86), (some 87), (some 88), (some 89), (some 90), (some 91), (some 92), (some 93), (some 94), (some 95), (some 96), (some 97), (some 98), (some 99), (some 100), (some 101), (some 102), (some 103), (some 104), (some 105), (some 106), (some 107), (some 108), (some 109), (some 110), (some 2)] [mk (some 86) (.fieldAddr 27 (.tmp 1) 2) 0 none,
  mk (some 87) (.load 24 (.tmp 86)) 24 none,
  mk (some 88) (.call { callee := (.value (.func 69)), args := #[(.tmp 87)], argTypes := #[24] }) 4 none,
  mk (some 89) (.move (.tmp 88)) 4 none,
  mk (some 90) (.fieldAddr 27 (.tmp 1) 3) 0 (some (3, true)),
  mk (some 91) (.load 24 (.tmp 90)) 24 (some (3, true)),
  mk (some 92) (.call { callee := (.value (.func 69)), args := #[(.tmp 91)], argTypes := #[24] }) 4 (some (3, true)),
  mk (some 93) (.pick (.tmp 89) (.tmp 92) (.const (.bool false))) 4 none,
  mk (some 94) (.move (.tmp 93)) 4 none,
  mk (some 95) (.fieldAddr 27 (.tmp 1) 4) 0 (some (8, true)),
  mk (some 96) (.load 25 (.tmp 95)) 25 (some (8, true)),
  mk (some 97) (.call { callee := (.builtin .len), args := #[(.tmp 96)], argTypes := #[25] }) 3 (some (8, true)),
  mk (some 98) (.binOp .geq 3 (.tmp 97) (.const (.int .i64 1)) 3) 4 (some (8, true)),
  mk (some 99) (.pick (.tmp 94) (.tmp 98) (.const (.bool false))) 4 none,
  mk (some 100) (.move (.tmp 99)) 4 none,
  mk (some 101) (.fieldAddr 27 (.tmp 1) 4) 0 (some (14, true)),
  mk (some 102) (.load 25 (.tmp 101)) 25 (some (14, true)),
  mk (some 103) (.call { callee := (.builtin .len), args := #[(.tmp 102)], argTypes := #[25] }) 3 (some (14, true)),
  mk (some 104) (.binOp .leq 3 (.tmp 103) (.const (.int .i64 4)) 3) 4 (some (14, true)),
  mk (some 105) (.pick (.tmp 100) (.tmp 104) (.const (.bool false))) 4 none,
  mk (some 106) (.move (.tmp 105)) 4 none,
  mk (some 107) (.fieldAddr 27 (.tmp 1) 4) 0 (some (20, true)),
  mk (some 108) (.load 25 (.tmp 107)) 25 (some (20, true)),
  mk (some 109) (.call { callee := (.value (.func 71)), args := #[(.tmp 108)], argTypes := #[25] }) 4 (some (20, true)),
  mk (some 110) (.pick (.tmp 106) (.tmp 109) (.const (.bool false))) 4 none,
  mk (some 2) (.assign (.tmp 110)) 4 none] fr.clear st fr k := evK_reg1 (i := 18) (by kernel_rfl) (by kernel_rfl)
noncomputable def c19_63 : Code := .ret
theorem e19_63 : evK gS fi19 c19_63 fr st k = nextK gS fi19 k .ret fr st := rfl
noncomputable def c19_61 : Code := .seq c19_62 c19_63
theorem e19_61 : evK gS fi19 c19_61 fr st k = evK gS fi19 c19_62 fr st (.seq c19_63 k) := rfl
noncomputable def c19_64 : Code := .skip
theorem e19_64 : evK gS fi19 c19_64 fr st k = nextK gS fi19 k .normal fr st := rfl
noncomputable def c19_60 : Code := .cond (.tmp 84) c19_61 c19_64
theorem e19_60 : evK gS fi19 c19_60 fr st k = condK gS fi19 (fr.op (.tmp 84)).bool? c19_61 c19_64 fr st k := rfl
noncomputable def c19_58 : Code := .seq c19_59 c19_60
theorem e19_58 : evK gS fi19 c19_58 fr st k = evK gS fi19 c19_59 fr st (.seq c19_60 k) := rfl
noncomputable def c19_54 : Code := .cond (.tmp 62) c19_55 c19_58
theorem e19_54 : evK gS fi19 c19_54 fr st k = condK gS fi19 (fr.op (.tmp 62)).bool? c19_55 c19_58 fr st k := rfl
noncomputable def c19_52 : Code := .seq c19_53 c19_54
theorem e19_52 : evK gS fi19 c19_52 fr st k = evK gS fi19 c19_53 fr st (.seq c19_54 k) := rfl
noncomputable def c19_48 : Code := .cond (.tmp 46) c19_49 c19_52
theorem e19_48 : evK gS fi19 c19_48 fr st k = condK gS fi19 (fr.op (.tmp 46)).bool? c19_49 c19_52 fr st k := rfl
noncomputable def c19_46 : Code := .seq c19_47 c19_48
theorem e19_46 : evK gS fi19 c19_46 fr st k = evK gS fi19 c19_47 fr st (.seq c19_48 k) := rfl
noncomputable def c19_42 : Code := .cond (.tmp 25) c19_43 c19_46
theorem e19_42 : evK gS fi19 c19_42 fr st k = condK gS fi19 (fr.op (.tmp 25)).bool? c19_43 c19_46 fr st k := rfl
noncomputable def c19_20 : Code := .seq c19_21 c19_42
theorem e19_20 : evK gS fi19 c19_20 fr st k = evK gS fi19 c19_21 fr st (.seq c19_42 k) := rfl
noncomputable def c19_16 : Code := .cond (.tmp 9) c19_17 c19_20
theorem e19_16 : evK gS fi19 c19_16 fr st k = condK gS fi19 (fr.op (.tmp 9)).bool? c19_17 c19_20 fr st k := rfl
noncomputable def c19_14 : Code := .seq c19_15 c19_16
theorem e19_14 : evK gS fi19 c19_14 fr st k = evK gS fi19 c19_15 fr st (.seq c19_16 k) := rfl
noncomputable def c19_13 : Code := .block 0 c19_14
theorem e19_13 : evK gS fi19 c19_13 fr st k = evK gS fi19 c19_14 fr st (.blk 0 k) := rfl
noncomputable def c19_11 : Code := .seq c19_12 c19_13
theorem e19_11 : evK gS fi19 c19_11 fr st k = evK gS fi19 c19_12 fr st (.seq c19_13 k) := rfl
noncomputable def c19_66 : Code := codeAt b19 [true, true, true, false]
theorem e19_66 : evK gS fi19 c19_66 fr st k = opsK gS fi19 [(some 2)] [mk (some 2) (.assign (.const (.bool false))) 4 none] fr.clear st fr k := evK_reg1 (i := 19) (by kernel_rfl) (by kernel_rfl)
noncomputable def c19_67 : Code := .ret
theorem e19_67 : evK gS fi19 c19_67 fr st k = nextK gS fi19 k .ret fr st := rfl
noncomputable def c19_65 : Code := .seq c19_66 c19_67
theorem e19_65 : evK gS fi19 c19_65 fr st k = evK gS fi19 c19_66 fr st (.seq c19_67 k) := rfl
noncomputable def c19_10 : Code := .seq c19_11 c19_65
theorem e19_10 : evK gS fi19 c19_10 fr st k = evK gS fi19 c19_11 fr st (.seq c19_65 k) := rfl
noncomputable def c19_2 : Code := .seq c19_3 c19_10
theorem e19_2 : evK gS fi19 c19_2 fr st k = evK gS fi19 c19_3 fr st (.seq c19_10 k) := rfl
noncomputable def c19_0 : Code := .seq c19_1 c19_2
theorem e19_0 : evK gS fi19 c19_0 fr st k = evK gS fi19 c19_1 fr st (.seq c19_2 k) := rfl
theorem m19 : mini fi19.body = c19_0 := by kernel_rfl
set_option maxHeartbeats 4000000 in
theorem c19 (p : Pred)  (h_p : Pred.ok p) (st : St) : EvF gS 19 [p.enc] st = some (.ret (.bool (pright p)) none, st) := by
  refine EvF_start fi19_eq (fun x h => by cases h) m19 ?_
  rw [st19]
  have hm : fi19.marks = [] := rfl
  have hl : fi19.locals = [1] := rfl
  have hr : fi19.results = [.tmp 2] := rfl
  simp (config := { contextual := true, maxSteps := 10000000, maxDischargeDepth := 6 }) [-Int.not_le, -Int.not_lt, -Nat.not_le, -Nat.not_lt, ty3, ty4, ty9, ty24, ty25, ty27, eq24, hm, hl, hr, k68, k69, k70, k71, e19_1, e19_4, e19_7, e19_8, e19_6, e19_9, e19_5, e19_3, e19_12, e19_15, e19_18, e19_19, e19_17, e19_22, e19_24, e19_26, e19_28, e19_30, e19_32, e19_34, e19_36, e19_38, e19_40, e19_41, e19_39, e19_37, e19_35, e19_33, e19_31, e19_29, e19_27, e19_25, e19_23, e19_21, e19_44, e19_45, e19_43, e19_47, e19_50, e19_51, e19_49, e19_53, e19_56, e19_57, e19_55, e19_59, e19_62, e19_63, e19_61, e19_64, e19_60, e19_58, e19_54, e19_52, e19_48, e19_46, e19_42, e19_20, e19_16, e19_14, e19_13, e19_11, e19_66, e19_67, e19_65, e19_10, e19_2, e19_0, h_p.1, h_p.2]
  all_goals try simp (config := { contextual := true }) [-Int.not_le, -Int.not_lt, -Nat.not_le, -Nat.not_lt, pright]
  all_goals first | done | grind | omega | (trace_state; fail)
theorem k19 (p_name : List UInt8) (p_test : Int) (p_vk : Int) (p_vn : Int) (p_vx : Nat) (p_vs : List UInt8) (p_vb : Bool) (p_wk : Int) (p_wn : Int) (p_wx : Nat) (p_ws : List UInt8) (p_wb : Bool) (p_set : List Val)  (h_p : Pred.ok (⟨p_name, p_test, ⟨p_vk, p_vn, p_vx, p_vs, p_vb⟩, ⟨p_wk, p_wn, p_wx, p_ws, p_wb⟩, p_set⟩ : Pred)) (fr : Fr) (st : St) : callStep gS (EvF gS) 19 [.agg [.str p_name, .int .i64 p_test, .int .i64 p_vk, .int .i64 p_vn, .float .f64 p_vx, .str p_vs, .bool p_vb, .int .i64 p_wk, .int .i64 p_wn, .float .f64 p_wx, .str p_ws, .bool p_wb, .slice (encVals p_set)]] fr st = some (.ok (retE none (.bool (pright (⟨p_name, p_test, ⟨p_vk, p_vn, p_vx, p_vs, p_vb⟩, ⟨p_wk, p_wn, p_wx, p_ws, p_wb⟩, p_set⟩ : Pred)))) fr st) :=
  call_pure rfl fi19_eq rfl (fun st => c19 (⟨p_name, p_test, ⟨p_vk, p_vn, p_vx, p_vs, p_vb⟩, ⟨p_wk, p_wn, p_wx, p_ws, p_wb⟩, p_set⟩ : Pred) h_p st) (by simp)
theorem x19 : gS.ext 19 = none := rfl
theorem p19 : fi19.pure = true := rfl
end Go.Proofs.Ytclpbfkbpcjejaa
