/- The law of meeting, with all that it rests on. Part 4. -/
import Derived.Test.YtdoobejjedpcgaaK3
namespace Go.Ab
open Go
set_option linter.unusedVariables false
set_option linter.unusedSimpArgs false
set_option linter.unnecessarySimpa false
def flt (x y : Nat) : Bool := FloatKind.f64.format.order x y == some .lt
def fle (x y : Nat) : Bool := FloatKind.f64.format.order x y == some .lt || FloatKind.f64.format.order x y == some .eq
def fgt (x y : Nat) : Bool := FloatKind.f64.format.order x y == some .gt
def fge (x y : Nat) : Bool := FloatKind.f64.format.order x y == some .gt || FloatKind.f64.format.order x y == some .eq
def feq (x y : Nat) : Bool := FloatKind.f64.format.order x y == some .eq
theorem fb_lss (x y : Nat) : floatBin .lss .f64 x y = some (.bool (flt x y)) := rfl
theorem fb_leq (x y : Nat) : floatBin .leq .f64 x y = some (.bool (fle x y)) := rfl
theorem fb_gtr (x y : Nat) : floatBin .gtr .f64 x y = some (.bool (fgt x y)) := rfl
theorem fb_geq (x y : Nat) : floatBin .geq .f64 x y = some (.bool (fge x y)) := rfl
theorem fb_eql (x y : Nat) : floatBin .eql .f64 x y = some (.bool (feq x y)) := rfl
theorem fb_neq (x y : Nat) : floatBin .neq .f64 x y = some (.bool (!feq x y)) := rfl
theorem fs_eq (x y : Nat) : Op.floatEq .f64 x y = feq x y := rfl
attribute [simp] fb_lss fb_leq fb_gtr fb_geq fb_eql fb_neq fs_eq
def fbits (b : Nat) : Int := if feq b b then (if feq b 0 then 0 else b) else 9221120237041090560
def sgn (below above : Bool) : Int := if below then -1 else if above then 1 else 0
/-- The whole part; as a number. -/
def ftr (x : Nat) : Nat := (truncV x).getD 0
def ftz (x : Nat) : Int := ((FloatKind.f64.decode (ftr x)).toInt .zero).getD 0
def icmp (n : Int) (x : Nat) : Int × Bool :=
  if feq x x then
    if fge x 4890909195324358656 then (-1, true)
    else if flt x 14114281232179134464 then (1, true)
    else if ftz x = n then (sgn (flt (ftr x) x) (fgt (ftr x) x), true)
    else (sgn (n < ftz x) (n > ftz x), true)
  else (0, false)
def fcmp (a b : Nat) : Int × Bool := if feq a a && feq b b then (sgn (flt a b) (fgt a b), true) else (0, false)
def scmp (a b : List UInt8) : Int := sgn (Op.bytesLess a b) (!(Op.bytesLess a b || a == b))
def cmp (a b : Val) : Int × Bool :=
  if a.kind = 1 ∧ b.kind = 1 then (sgn (a.n < b.n) (a.n > b.n), true)
  else if a.kind = 2 ∧ b.kind = 2 then fcmp a.x b.x
  else if a.kind = 1 ∧ b.kind = 2 then icmp a.n b.x
  else if a.kind = 2 ∧ b.kind = 1 then (-(icmp b.n a.x).1, (icmp b.n a.x).2)
  else if a.kind = 3 ∧ b.kind = 3 then (scmp a.s b.s, true)
  else if a.kind = 4 ∧ b.kind = 4 then (sgn (!a.b && b.b) (a.b && !b.b), true)
  else (0, false)
def vis (a b : Val) : Bool := (cmp a b).2 && decide ((cmp a b).1 = 0)
def vright (v : Val) : Bool :=
  if v.kind = 1 then feq v.x 0 && v.s = [] && !v.b
  else if v.kind = 2 then v.n = 0 && v.s = [] && !v.b
  else if v.kind = 3 then v.n = 0 && feq v.x 0 && !v.b && v.s.length ≤ 12
  else if v.kind = 4 then v.n = 0 && feq v.x 0 && v.s = []
  else false
def vsame (a b : Val) : Bool := a.kind = b.kind && a.n = b.n && a.s = b.s && a.b = b.b && fbits a.x = fbits b.x
def vzero : Val := ⟨0, 0, 0, [], false⟩
def isWord (s : List UInt8) : Bool := s.all (fun c => !decide (c.toNat < 97) && !decide (122 < c.toNat)) && (decide (1 ≤ s.length) && decide (s.length ≤ 6))
def pright (p : Pred) : Bool :=
  if isWord p.name then
    if p.test = 1 then vsame p.v vzero && vsame p.w vzero && p.set.length = 0
    else if 2 ≤ p.test ∧ p.test ≤ 7 then vright p.v && vsame p.w vzero && p.set.length = 0
    else if p.test = 8 then vright p.v && vright p.w && p.set.length = 0
    else if p.test = 9 then vright p.v && p.v.kind = 3 && vsame p.w vzero && p.set.length = 0
    else if p.test = 10 then vsame p.v vzero && vsame p.w vzero && 1 ≤ p.set.length && p.set.length ≤ 4 && p.set.all vright
    else false
  else false
def sames : List Val → List Val → Bool
  | [], [] => true
  | a :: r, b :: s => vsame a b && sames r s
  | _, _ => false
def psame (a b : Pred) : Bool := a.name = b.name && a.test = b.test && vsame a.v b.v && vsame a.w b.w && sames a.set b.set
def isPre (s t : List UInt8) : Bool := t.length ≤ s.length && s.take t.length = t
def ptakes (p : Pred) (v : Val) : Bool :=
  if pright p then
    let c := cmp v p.v
    if p.test = 1 then true
    else if p.test = 2 then c.2 && c.1 = 0
    else if p.test = 3 then !(c.2 && c.1 = 0)
    else if p.test = 4 then c.2 && c.1 < 0
    else if p.test = 5 then c.2 && c.1 ≤ 0
    else if p.test = 6 then c.2 && c.1 > 0
    else if p.test = 7 then c.2 && c.1 ≥ 0
    else if p.test = 8 then c.2 && c.1 ≥ 0 && (cmp v p.w).2 && (cmp v p.w).1 ≤ 0
    else if p.test = 9 then v.kind = 3 && isPre v.s p.v.s
    else p.set.any (vis v)
  else false
def vnan (v : Val) : Bool := v.kind = 2 && !feq v.x v.x
def pvoid (p : Pred) : Bool :=
  if pright p then
    if p.test = 2 ∨ (4 ≤ p.test ∧ p.test ≤ 7) then vnan p.v
    else if p.test = 8 then !(cmp p.v p.w).2 || (cmp p.v p.w).1 > 0
    else if p.test = 10 then p.set.all vnan
    else false
  else false
/-- Where a test ends. -/
structure PEnd where
  is : Bool
  op : Bool
  v : Val
def PEnd.encP (e : PEnd) : V := .agg [.bool e.is, .bool e.op, .int .i64 e.v.kind, .int .i64 e.v.n, .float .f64 e.v.x, .str e.v.s, .bool e.v.b]
def PEnd.encR (e : PEnd) : V := .agg [.int .i64 e.v.kind, .int .i64 e.v.n, .float .f64 e.v.x, .str e.v.s, .bool e.v.b, .bool e.is, .bool e.op]
theorem PEnd.eta (e : PEnd) : (⟨e.is, e.op, e.v⟩ : PEnd) = e := rfl
attribute [simp] PEnd.encP PEnd.encR PEnd.eta
def lowE (p : Pred) : PEnd := if p.test = 6 ∨ p.test = 7 then ⟨true, p.test = 6, p.v⟩ else if p.test = 8 then ⟨true, false, p.v⟩ else ⟨false, false, vzero⟩
def highE (p : Pred) : PEnd := if p.test = 4 ∨ p.test = 5 then ⟨true, p.test = 4, p.v⟩ else if p.test = 8 then ⟨true, false, p.w⟩ else ⟨false, false, vzero⟩
/-- Does an end lie within another one? -/
def within (q p : PEnd) (side : Int) : Bool :=
  if p.is then if q.is then (cmp q.v p.v).2 && (decide ((cmp q.v p.v).1 = side) || (decide ((cmp q.v p.v).1 = 0) && (!p.op || q.op))) else false else true
def pimplies (q p : Pred) : Bool :=
  if pright q && pright p then
    if pvoid q || p.test = 1 then true
    else if q.test = p.test && (vsame q.v p.v && vsame q.w p.w && sames q.set p.set) then true
    else if p.test = 3 then !ptakes q p.v
    else if q.test = 2 then ptakes p q.v
    else if q.test = 10 then q.set.all (fun v => vnan v || ptakes p v)
    else if ((lowE q).is || (highE q).is) && ((lowE p).is || (highE p).is) then
      within (lowE q) (lowE p) 1 && within (highE q) (highE p) (-1)
    else if q.test = 9 then
      if p.test = 9 then isPre q.v.s p.v.s
      else if p.test = 7 then (cmp q.v p.v).2 && (cmp q.v p.v).1 ≥ 0
      else if p.test = 6 then (cmp q.v p.v).2 && (cmp q.v p.v).1 > 0
      else false
    else false
  else false
theorem less_irrefl : ∀ s : List UInt8, Op.bytesLess s s = false
  | [] => rfl
  | a :: r => by simp [Op.bytesLess, less_irrefl r]
theorem sames_len : ∀ {a b : List Val}, sames a b = true → a.length = b.length
  | [], [], _ => rfl
  | a :: r, b :: s, h => by
    simp only [sames, Bool.and_eq_true] at h
    simp [sames_len h.2]
  | [], _ :: _, h => by simp [sames] at h
  | _ :: _, [], h => by simp [sames] at h
theorem sames_ne {a b : List Val} (h : ¬ a.length = b.length) : sames a b = false := by
  cases hs : sames a b with
  | false => rfl
  | true => exact absurd (sames_len hs) h
theorem sgn_bound (a b : Bool) : -1 ≤ sgn a b ∧ sgn a b ≤ 1 := by cases a <;> cases b <;> simp [sgn]
theorem icmp_bound (n : Int) (x : Nat) : -1 ≤ (icmp n x).1 ∧ (icmp n x).1 ≤ 1 := by
  unfold icmp
  repeat' split
  all_goals first | exact sgn_bound _ _ | simp
theorem wrap_icmp (n : Int) (x : Nat) : IntKind.wrap .i64 (-(icmp n x).1) = -(icmp n x).1 := by
  have := icmp_bound n x
  exact wrap64 (by omega) (by omega)
/-- A test that is looked into at the end. -/
def opq (b : Bool) : Bool := b
theorem agg_eql (ks : List TK) (x y : List V) : binAgg ks .eql x y = (eqCells ks x y).map fun b => .bool (opq b) := rfl
theorem agg_neq (ks : List TK) (x y : List V) : binAgg ks .neq x y = (eqCells ks x y).map fun b => .bool (!opq b) := rfl
theorem feq00 : feq 0 0 = true := by kernel_rfl
attribute [simp] less_irrefl feq00
attribute [simp] wrap_icmp agg_eql agg_neq eqCells eqScalar
end Go.Ab
namespace Go.Ab
open Go Ieee
set_option linter.unusedVariables false
set_option linter.unusedSimpArgs false
set_option linter.unnecessarySimpa false
set_option maxRecDepth 4000

theorem read_cases (x : Nat) : (∃ s t, double.read x = .nan s t) ∨ (∃ s, double.read x = .infinity s) ∨ ∃ s m e, double.read x = .number s m e ∧ m < 2 ^ 53 ∧ (-1074 < e → 2 ^ 52 ≤ m) ∧ -1074 ≤ e := by
  have hb : double.binade = 2 ^ 52 := rfl
  have hl : double.leastPlace = -1074 := rfl
  unfold Format.read
  simp only [hb, hl]
  generalize x % double.signWeight = r
  split
  · exact .inr (.inr ⟨_, _, _, rfl, by omega, by omega, by omega⟩)
  · split
    · refine .inr (.inr ⟨_, _, _, rfl, ?_, ?_, ?_⟩)
      · have := Nat.mod_lt r (show 0 < 2 ^ 52 by decide); omega
      · intro _; omega
      · omega
    · split
      · exact .inr (.inl ⟨_, rfl⟩)
      · exact .inl ⟨_, _, rfl⟩

theorem cut_zero (s : Bool) (n d : Nat) : Toward.zero.cut s n d = n / 2 ^ (min d (n.log2 + 2)) := by
  simp [Toward.cut, Nat.shiftLeft_eq]
theorem cut_even_dvd (s : Bool) (n d q : Nat) (h : n = q * 2 ^ (min d (n.log2 + 2))) : Toward.even.cut s n d = q := by
  have hp : 0 < 2 ^ (min d (n.log2 + 2)) := Nat.pow_pos (by decide)
  have h1 : n / 2 ^ (min d (n.log2 + 2)) = q := by
    conv => lhs; lhs; rw [h]
    exact Nat.mul_div_cancel _ hp
  have h2 : n % 2 ^ (min d (n.log2 + 2)) = 0 := by
    conv => lhs; lhs; rw [h]
    exact Nat.mul_mod_left _ _
  simp only [Toward.cut, Nat.shiftLeft_eq, Nat.one_mul, h1, h2]
  have h3 : ¬ (2 ^ (min d (n.log2 + 2)) = 0) := by omega
  simp [h3]

theorem log2_of {n k : Nat} (h1 : 2 ^ k ≤ n) (h2 : n < 2 ^ (k + 1)) : n.log2 = k := by
  have h0 : n ≠ 0 := by have := Nat.pow_pos (n := k) (show 0 < 2 by decide); omega
  have a : k ≤ n.log2 := (Nat.le_log2 h0).2 h1
  have b : n.log2 < k + 1 := (Nat.log2_lt h0).2 h2
  omega

/-- A word that is read as it was laid. -/
theorem read_word (s : Bool) (K : Nat) (l : Int) (h1 : 2 ^ 52 ≤ K) (h2 : K < 2 ^ 53) (h3 : -1074 ≤ l) (h4 : l ≤ 900) :
    double.read (double.word s (min ((l - double.leastPlace).toNat * double.binade + K) double.infRung)) = .number s K l := by
  have hb : double.binade = 4503599627370496 := rfl
  have hl : double.leastPlace = -1074 := rfl
  have hi : double.infRung = 9218868437227405312 := rfl
  have hw : double.signWeight = 9223372036854775808 := rfl
  obtain ⟨p, hp⟩ : ∃ p : Nat, (l - double.leastPlace).toNat = p ∧ l = (p : Int) - 1074 ∧ p ≤ 1974 := ⟨(l + 1074).toNat, by rw [hl]; omega, by omega, by omega⟩
  obtain ⟨hp1, hp2, hp3⟩ := hp
  rw [hp1]
  have hm : min (p * double.binade + K) double.infRung = p * 4503599627370496 + K := by rw [hb, hi]; omega
  rw [hm]
  have hr : (p * 4503599627370496 + K) < 9223372036854775808 := by omega
  have key : ∀ w : Nat, w % 9223372036854775808 = p * 4503599627370496 + K → (w / 9223372036854775808 % 2 == 1) = s → double.read w = .number s K l := by
    intro w e1 e2
    unfold Format.read
    simp only [hb, hl, hi, hw, e1, e2]
    have c1 : ¬ p * 4503599627370496 + K < 4503599627370496 := by omega
    have c2 : p * 4503599627370496 + K < 9218868437227405312 := by omega
    have c3 : (p * 4503599627370496 + K) % 4503599627370496 = K - 4503599627370496 := by omega
    have c4 : (p * 4503599627370496 + K) / 4503599627370496 - 1 = p := by omega
    rw [if_neg c1, if_pos c2, c3, c4, hp2]
    have c5 : 4503599627370496 + (K - 4503599627370496) = K := by omega
    have c6 : (-1074 : Int) + (p : Int) = (p : Int) - 1074 := by omega
    rw [c5, c6]
  apply key
  · cases s with
    | false => show (p * 4503599627370496 + K) % 9223372036854775808 = _; omega
    | true => show (9223372036854775808 + (p * 4503599627370496 + K)) % 9223372036854775808 = _; omega
  · cases s with
    | false =>
      show ((p * 4503599627370496 + K) / 9223372036854775808 % 2 == 1) = false
      rw [Nat.div_eq_of_lt hr]; rfl
    | true =>
      show ((9223372036854775808 + (p * 4503599627370496 + K)) / 9223372036854775808 % 2 == 1) = true
      rw [show (9223372036854775808 + (p * 4503599627370496 + K)) / 9223372036854775808 = 1 by omega]; rfl
theorem read_zero (s : Bool) : double.read (double.word s 0) = .number s 0 (-1074) := by cases s <;> rfl

theorem signed_bound (s : Bool) (M : Nat) (h : M ≤ 2 ^ 63) (hs : s = false → M < 2 ^ 63) : -9223372036854775808 ≤ signed s M 0 ∧ signed s M 0 ≤ 9223372036854775807 := by
  unfold signed
  simp only [Nat.shiftLeft_zero]
  cases s with
  | false => have := hs rfl; simp only [Bool.false_eq_true, if_false]; omega
  | true => simp only [if_true]; omega

/-- A whole number of few digits is written as it is. -/
theorem whole_exact (s : Bool) (M : Nat) (h : M ≤ 2 ^ 63) (hM : M < 2 ^ 53 ∨ ∃ m e : Nat, M = m * 2 ^ e ∧ 2 ^ 52 ≤ m ∧ m < 2 ^ 53) :
    (double.read (double.write (.number s M 0))).toInt .zero = some (signed s M 0) := by
  have hl : double.leastPlace = -1074 := rfl
  have hf : (double.fractionBits : Int) = 52 := rfl
  unfold Format.write Format.nearest
  dsimp only
  by_cases h0 : M = 0
  · subst h0
    simp only [if_true]
    rw [read_zero]
    simp only [Datum.toInt, Datum.integral, cut_zero]
    simp
  · rw [if_neg h0]
    have hL1 : 2 ^ M.log2 ≤ M := Nat.log2_self_le h0
    have hL2 : M < 2 ^ (M.log2 + 1) := Nat.lt_log2_self
    have hL : M.log2 ≤ 63 := by
      have : M.log2 < 64 := (Nat.log2_lt h0).2 (by omega)
      omega
    have hlast : max ((0 : Int) + (M.log2 : Int) - (double.fractionBits : Int)) double.leastPlace = (M.log2 : Int) - 52 := by rw [hl, hf]; omega
    simp only [hlast]
    -- kept
    obtain ⟨K, l, hK, hK1, hK2, hlk, hdef⟩ : ∃ K : Nat, ∃ l : Int, (l = (M.log2 : Int) - 52) ∧ 2 ^ 52 ≤ K ∧ K < 2 ^ 53 ∧ Toward.even.cut s (M <<< ((0 : Int) - ((M.log2 : Int) - 52)).toNat) (((M.log2 : Int) - 52) - 0).toNat = K ∧
        ((0 ≤ l → M = K * 2 ^ l.toNat) ∧ (l < 0 → K = M * 2 ^ (-l).toNat ∧ (-l).toNat ≤ 52)) := by
      by_cases hs : M.log2 ≤ 52
      · refine ⟨M * 2 ^ (52 - M.log2), (M.log2 : Int) - 52, rfl, ?_, ?_, ?_, ?_, ?_⟩
        · calc 2 ^ 52 = 2 ^ M.log2 * 2 ^ (52 - M.log2) := by rw [← Nat.pow_add]; congr 1; omega
            _ ≤ M * 2 ^ (52 - M.log2) := Nat.mul_le_mul_right _ hL1
        · calc M * 2 ^ (52 - M.log2) < 2 ^ (M.log2 + 1) * 2 ^ (52 - M.log2) := Nat.mul_lt_mul_of_pos_right hL2 (Nat.pow_pos (by decide))
            _ = 2 ^ 53 := by rw [← Nat.pow_add]; congr 1; omega
        · have e1 : ((0 : Int) - ((M.log2 : Int) - 52)).toNat = 52 - M.log2 := by omega
          have e2 : (((M.log2 : Int) - 52) - 0).toNat = 0 := by omega
          rw [e1, e2]
          exact cut_even_dvd _ _ _ _ (by rw [Nat.zero_min, Nat.shiftLeft_eq]; simp)
        · intro hge
          have e : M.log2 = 52 := by omega
          rw [e]; simp
        · intro hlt
          have e : (-((M.log2 : Int) - 52)).toNat = 52 - M.log2 := by omega
          rw [e]; exact ⟨rfl, by omega⟩
      · obtain ⟨m, e, hme, hm1, hm2⟩ : ∃ m e : Nat, M = m * 2 ^ e ∧ 2 ^ 52 ≤ m ∧ m < 2 ^ 53 := by
          rcases hM with hM | hM
          · exfalso
            have : M.log2 < 53 := (Nat.log2_lt h0).2 hM
            omega
          · exact hM
        have hlog : M.log2 = 52 + e := by
          apply log2_of
          · rw [hme, Nat.pow_add]; exact Nat.mul_le_mul_right _ hm1
          · rw [hme, show 52 + e + 1 = 53 + e by omega, Nat.pow_add]; exact Nat.mul_lt_mul_of_pos_right hm2 (Nat.pow_pos (by decide))
        refine ⟨m, (M.log2 : Int) - 52, rfl, hm1, hm2, ?_, ?_, ?_⟩
        · have e1 : ((0 : Int) - ((M.log2 : Int) - 52)).toNat = 0 := by omega
          have e2 : (((M.log2 : Int) - 52) - 0).toNat = e := by omega
          rw [e1, e2]
          refine cut_even_dvd _ _ _ _ ?_
          rw [Nat.shiftLeft_zero, hlog, show min e (52 + e + 2) = e by omega]; exact hme
        · intro _
          rw [show ((M.log2 : Int) - 52).toNat = e by omega]; exact hme
        · intro hlt; omega
    rw [hlk, ← hK, read_word s K l hK1 hK2 (by omega) (by omega)]
    simp only [Datum.toInt, Datum.integral, cut_zero]
    have hKl : K.log2 = 52 := log2_of hK1 hK2
    have : (K <<< l.toNat) / 2 ^ (min (-l).toNat ((K <<< l.toNat).log2 + 2)) = M := by
      by_cases hge : 0 ≤ l
      · have e : (-l).toNat = 0 := by omega
        rw [e, Nat.zero_min, Nat.pow_zero, Nat.div_one, Nat.shiftLeft_eq]
        exact (hdef.1 hge).symm
      · have e : l.toNat = 0 := by omega
        obtain ⟨d1, d2⟩ := hdef.2 (by omega)
        rw [e, Nat.shiftLeft_zero, hKl, show min (-l).toNat (52 + 2) = (-l).toNat by omega, d1]
        exact Nat.mul_div_cancel _ (Nat.pow_pos (by decide))
    rw [this]

theorem ord_cmp (s t : Bool) (m n : Nat) (i j : Int) : Datum.order (.number s m i) (.number t n j) = some (compare (signed s m (i - min i j).toNat) (signed t n (j - min i j).toNat)) := rfl
/-- What a float that is no NaN, below 2^63, at least -2^63, has as its whole part. -/
theorem conv_ok (x : Nat) (h1 : feq x x = true) (h2 : ¬ fge x 4890909195324358656 = true) (h3 : ¬ flt x 14114281232179134464 = true) :
    truncV x = some (ftr x) ∧ (FloatKind.f64.decode (ftr x)).toInt .zero = some (ftz x) ∧ (-9223372036854775808 ≤ ftz x ∧ ftz x ≤ 9223372036854775807) := by
  have c1 : double.read 4890909195324358656 = .number false 4503599627370496 11 := rfl
  have c2 : double.read 14114281232179134464 = .number true 4503599627370496 11 := rfl
  have hfeq : feq x x = ((double.read x).order (double.read x) == some .eq) := rfl
  have hfge : fge x 4890909195324358656 = ((double.read x).order (double.read 4890909195324358656) == some .gt || (double.read x).order (double.read 4890909195324358656) == some .eq) := rfl
  have hflt : flt x 14114281232179134464 = ((double.read x).order (double.read 14114281232179134464) == some .lt) := rfl
  rw [hfeq] at h1; rw [hfge, c1] at h2; rw [hflt, c2] at h3
  rcases read_cases x with ⟨s, t, hx⟩ | ⟨s, hx⟩ | ⟨s, m, e, hx, hm, hn, he⟩
  · rw [hx] at h1; simp [Datum.order] at h1
  · rw [hx] at h2 h3
    cases s
    · simp [Datum.order] at h2
    · simp [Datum.order] at h3
  · have hd : FloatKind.f64.decode x = .number s m e := hx
    rw [hx] at h2 h3
    rw [ord_cmp] at h2 h3
    have ht : truncV x = some (double.write (.number s (Toward.zero.cut s (m <<< e.toNat) (-e).toNat) 0)) := by
      unfold truncV; rw [hd]; rfl
    have hftr : ftr x = double.write (.number s (Toward.zero.cut s (m <<< e.toNat) (-e).toNat) 0) := by unfold ftr; rw [ht]; rfl
    have hM : ∃ M, Toward.zero.cut s (m <<< e.toNat) (-e).toNat = M ∧ M ≤ 2 ^ 63 ∧ (s = false → M < 2 ^ 63) ∧ (M < 2 ^ 53 ∨ ∃ m e : Nat, M = m * 2 ^ e ∧ 2 ^ 52 ≤ m ∧ m < 2 ^ 53) := by
      by_cases hge : 0 ≤ e
      · obtain ⟨k, rfl⟩ : ∃ k : Nat, e = (k : Int) := ⟨e.toNat, by omega⟩
        have hm52 : 2 ^ 52 ≤ m := hn (by omega)
        have e1 : (-(k : Int)).toNat = 0 := by omega
        rw [cut_zero, e1, Nat.zero_min, Nat.pow_zero, Nat.div_one, Int.toNat_natCast, Nat.shiftLeft_eq]
        have hle : m * 2 ^ k ≤ 2 ^ 63 ∧ (s = false → m * 2 ^ k < 2 ^ 63) := by
          by_cases hk : k ≤ 11
          · have hp : 2 ^ k * 2 ^ (11 - k) = 2 ^ 11 := by rw [← Nat.pow_add]; congr 1; omega
            rw [show ((k : Int) - min (k : Int) 11).toNat = 0 by omega, show ((11 : Int) - min (k : Int) 11).toNat = 11 - k by omega] at h2 h3
            simp only [signed, Nat.shiftLeft_eq] at h2 h3
            have hpp : 0 < 2 ^ k := Nat.pow_pos (by decide)
            generalize 2 ^ (11 - k) = q at *
            generalize 2 ^ k = r at *
            cases s with
            | false =>
              simp only [Bool.false_eq_true, if_false] at h2
              have hlt : m < 4503599627370496 * q := by
                rcases Nat.lt_or_ge m (4503599627370496 * q) with hlt | hge2
                · exact hlt
                · exfalso; apply h2
                  rcases Nat.lt_or_eq_of_le hge2 with hgt | heq
                  · have : compare ((m * 2 ^ 0 : Nat) : Int) ((4503599627370496 * q : Nat) : Int) = .gt := Int.compare_eq_gt.2 (by omega)
                    rw [this]; rfl
                  · have : compare ((m * 2 ^ 0 : Nat) : Int) ((4503599627370496 * q : Nat) : Int) = .eq := Int.compare_eq_eq.2 (by omega)
                    rw [this]; rfl
              have : m * r < 4503599627370496 * q * r := Nat.mul_lt_mul_of_pos_right hlt hpp
              have e : 4503599627370496 * q * r = 2 ^ 63 := by rw [Nat.mul_assoc, Nat.mul_comm q r, hp]
              omega
            | true =>
              simp only [if_true] at h3
              have hle : m ≤ 4503599627370496 * q := by
                rcases Nat.lt_or_ge (4503599627370496 * q) m with hlt | hge2
                · exfalso; apply h3
                  have : compare (-((m * 2 ^ 0 : Nat) : Int)) (-((4503599627370496 * q : Nat) : Int)) = .lt := Int.compare_eq_lt.2 (by omega)
                  rw [this]; rfl
                · exact hge2
              have : m * r ≤ 4503599627370496 * q * r := Nat.mul_le_mul_right _ hle
              have e : 4503599627370496 * q * r = 2 ^ 63 := by rw [Nat.mul_assoc, Nat.mul_comm q r, hp]
              exact ⟨by omega, fun h => by cases h⟩
          · exfalso
            have hp : 2 ^ 12 ≤ 2 * 2 ^ (k - 11) * 2 ^ 11 := by
              have : 1 ≤ 2 ^ (k - 11) := Nat.one_le_two_pow
              omega
            have h2k : 2 ≤ 2 ^ (k - 11) := by
              calc 2 = 2 ^ 1 := rfl
                _ ≤ 2 ^ (k - 11) := Nat.pow_le_pow_right (by decide) (by omega)
            rw [show ((k : Int) - min (k : Int) 11).toNat = k - 11 by omega, show ((11 : Int) - min (k : Int) 11).toNat = 0 by omega] at h2 h3
            simp only [signed, Nat.shiftLeft_eq] at h2 h3
            have hbig : 4503599627370496 < m * 2 ^ (k - 11) := by
              have := Nat.mul_le_mul hm52 h2k
              omega
            generalize m * 2 ^ (k - 11) = z at *
            cases s with
            | false =>
              simp only [Bool.false_eq_true, if_false] at h2
              apply h2
              have : compare (z : Int) ((4503599627370496 * 2 ^ 0 : Nat) : Int) = .gt := Int.compare_eq_gt.2 (by omega)
              rw [this]; rfl
            | true =>
              simp only [if_true] at h3
              apply h3
              have : compare (-(z : Int)) (-((4503599627370496 * 2 ^ 0 : Nat) : Int)) = .lt := Int.compare_eq_lt.2 (by omega)
              rw [this]; rfl
        exact ⟨_, rfl, hle.1, hle.2, .inr ⟨m, k, rfl, hm52, hm⟩⟩
      · have e1 : e.toNat = 0 := by omega
        rw [cut_zero, e1, Nat.shiftLeft_zero]
        have hle : m / 2 ^ (min (-e).toNat (m.log2 + 2)) ≤ m := Nat.div_le_self _ _
        exact ⟨_, rfl, by omega, fun _ => by omega, .inl (by omega)⟩
    obtain ⟨M, hMe, hM1, hM2, hM3⟩ := hM
    rw [hMe] at ht hftr
    have hz := whole_exact s M hM1 hM3
    have hdz : (FloatKind.f64.decode (ftr x)).toInt .zero = some (signed s M 0) := by rw [hftr]; exact hz
    have hftz : ftz x = signed s M 0 := by unfold ftz; rw [hdz]; rfl
    refine ⟨by rw [ht, hftr], by rw [hdz, hftz], ?_⟩
    rw [hftz]
    exact signed_bound s M hM1 hM2
end Go.Ab
namespace Go.Proofs.Ytdoobejjedpcgaa
open Go Go.Ab
set_option linter.unusedVariables false
set_option linter.unusedSimpArgs false
set_option linter.unnecessarySimpa false
set_option maxRecDepth 20000
noncomputable section
variable (fr : Fr) (st : St) (k : Kt)
theorem ty2 : gS.ty 2 = some { k := .int .i64, size := 1, agg := false, zero := [.int .i64 0] } := by kernel_rfl
theorem ty3 : gS.ty 3 = some { k := .int .i64, size := 1, agg := false, zero := [.int .i64 0] } := by kernel_rfl
theorem ty4 : gS.ty 4 = some { k := .bool, size := 1, agg := false, zero := [.bool false] } := by kernel_rfl
theorem ty5 : gS.ty 5 = some { k := .int .u8, size := 1, agg := false, zero := [.int .u8 0] } := by kernel_rfl
theorem ty9 : gS.ty 9 = some { k := .str, size := 1, agg := false, zero := [.str []] } := by kernel_rfl
theorem ty22 : gS.ty 22 = some { k := .slice 1 8 false [.int .i64 0], size := 1, agg := false, zero := [.osl 0 []] } := by kernel_rfl
theorem ty23 : gS.ty 23 = some { k := .pointer, size := 1, agg := false, zero := [.nilp] } := by kernel_rfl
theorem ty25 : gS.ty 25 = some { k := .struct [(0, 1, false), (1, 1, false)], size := 2, agg := true, zero := [.osl 0 [], .int .i64 0] } := by kernel_rfl
theorem ty26 : gS.ty 26 = some { k := .slice 4 48 true [.int .i64 0, .int .i64 0, .int .i64 0, .osl 0 []], size := 1, agg := false, zero := [.osl 0 []] } := by kernel_rfl
theorem ty29 : gS.ty 29 = some { k := .slice 13 144 true [.str [], .int .i64 0, .int .i64 0, .int .i64 0, .float .f64 0, .str [], .bool false, .int .i64 0, .int .i64 0, .float .f64 0, .str [], .bool false, .osl 0 []], size := 1, agg := false, zero := [.osl 0 []] } := by kernel_rfl
theorem ty31 : gS.ty 31 = some { k := .struct [(0, 1, false), (1, 1, false), (2, 1, false), (3, 1, false)], size := 4, agg := true, zero := [.int .i64 0, .int .i64 0, .int .i64 0, .osl 0 []] } := by kernel_rfl
theorem ty32 : gS.ty 32 = some { k := .slice 2 48 true [.osl 0 [], .osl 0 []], size := 1, agg := false, zero := [.osl 0 []] } := by kernel_rfl
theorem ty39 : gS.ty 39 = some { k := .struct [(0, 1, false), (1, 1, false)], size := 2, agg := true, zero := [.osl 0 [], .osl 0 []] } := by kernel_rfl
theorem ty42 : gS.ty 42 = some { k := .slice 6 64 true [.str [], .int .i64 0, .int .i64 0, .float .f64 0, .str [], .bool false], size := 1, agg := false, zero := [.osl 0 []] } := by kernel_rfl
theorem ty53 : gS.ty 53 = some { k := .slice 3 24 true [.int .i64 0, .int .i64 0, .int .i64 0], size := 1, agg := false, zero := [.osl 0 []] } := by kernel_rfl
theorem ty59 : gS.ty 59 = some { k := .struct [(0, 1, false), (1, 1, false), (2, 1, false)], size := 3, agg := true, zero := [.int .i64 0, .int .i64 0, .int .i64 0] } := by kernel_rfl
theorem ty64 : gS.ty 64 = some { k := .array 4 1 false, size := 4, agg := true, zero := [.osl 0 [], .osl 0 [], .osl 0 [], .osl 0 []] } := by kernel_rfl
theorem ty77 : gS.ty 77 = some { k := .slice 1 24 false [.osl 0 []], size := 1, agg := false, zero := [.osl 0 []] } := by kernel_rfl
theorem ty86 : gS.ty 86 = some { k := .float .f64, size := 1, agg := false, zero := [.float .f64 0] } := by kernel_rfl
theorem ty88 : gS.ty 88 = some { k := .struct [(0, 1, false), (1, 1, false), (2, 1, false), (3, 1, false), (4, 1, false)], size := 5, agg := true, zero := [.int .i64 0, .int .i64 0, .float .f64 0, .str [], .bool false] } := by kernel_rfl
theorem ty89 : gS.ty 89 = some { k := .slice 5 48 true [.int .i64 0, .int .i64 0, .float .f64 0, .str [], .bool false], size := 1, agg := false, zero := [.osl 0 []] } := by kernel_rfl
theorem ty91 : gS.ty 91 = some { k := .struct [(0, 1, false), (1, 1, false), (2, 5, true), (7, 5, true), (12, 1, false)], size := 13, agg := true, zero := [.str [], .int .i64 0, .int .i64 0, .int .i64 0, .float .f64 0, .str [], .bool false, .int .i64 0, .int .i64 0, .float .f64 0, .str [], .bool false, .osl 0 []] } := by kernel_rfl
theorem ty92 : gS.ty 92 = some { k := .array 5 1 false, size := 5, agg := true, zero := [.str [], .str [], .str [], .str [], .str []] } := by kernel_rfl
theorem ty95 : gS.ty 95 = some { k := .struct [(0, 1, false), (1, 5, true)], size := 6, agg := true, zero := [.str [], .int .i64 0, .int .i64 0, .float .f64 0, .str [], .bool false] } := by kernel_rfl
theorem ty96 : gS.ty 96 = some { k := .array 7 1 false, size := 7, agg := true, zero := [.int .i64 0, .int .i64 0, .int .i64 0, .int .i64 0, .int .i64 0, .int .i64 0, .int .i64 0] } := by kernel_rfl
theorem ty117 : gS.ty 117 = some { k := .array 6 1 false, size := 6, agg := true, zero := [.str [], .str [], .str [], .str [], .str [], .str []] } := by kernel_rfl
theorem ty118 : gS.ty 118 = some { k := .array 6 1 false, size := 6, agg := true, zero := [.int .i64 0, .int .i64 0, .int .i64 0, .int .i64 0, .int .i64 0, .int .i64 0] } := by kernel_rfl
theorem ty122 : gS.ty 122 = some { k := .array 4 1 false, size := 4, agg := true, zero := [.str [], .str [], .str [], .str []] } := by kernel_rfl
theorem ty128 : gS.ty 128 = some { k := .int .u64, size := 1, agg := false, zero := [.int .u64 0] } := by kernel_rfl
theorem ty132 : gS.ty 132 = some { k := .array 14 1 false, size := 14, agg := true, zero := [.float .f64 0, .float .f64 0, .float .f64 0, .float .f64 0, .float .f64 0, .float .f64 0, .float .f64 0, .float .f64 0, .float .f64 0, .float .f64 0, .float .f64 0, .float .f64 0, .float .f64 0, .float .f64 0] } := by kernel_rfl
theorem eq59 : gS.eqs 59 = some [.int .i64, .int .i64, .int .i64] := by kernel_rfl
theorem eq88 : gS.eqs 88 = some [.int .i64, .int .i64, .float .f64, .str, .bool] := by kernel_rfl
theorem k123 (b : Nat) (fr : Fr) (st : St) : callStep gS (EvF gS) 123 [.float .f64 b] fr st = some (.ok (.val (.int .u64 b)) fr st) := rfl
theorem k140 (b v : Nat) (h : truncV b = some v) (fr : Fr) (st : St) : callStep gS (EvF gS) 140 [.float .f64 b] fr st = some (.ok (.val (.float .f64 v)) fr st) := by
  have e : gS.ext 140 = some .trunc := rfl
  unfold callStep
  simp only [e, extV, h, Option.map_some]
def fi136 : FI := { body := codeOf Try.f136, ntmps := 6, results := [.tmp 2], pers := [0, 2], locals := [], pure := true, marks := [] }
theorem fi116_eq : gS.fn 136 = some fi136 := by kernel_rfl
theorem st136 (a0 : V) : startFr fi136 [a0] = { ps := [(0, .val a0), (2, .any)], ts := [], lc := [] } := rfl
def b136 : Code := mini (codeOf Try.f136)
def c136_2 : Code := .seq (codeN b136 5) .ret
theorem e136_2 : evK gS fi136 c136_2 fr st k = opsR gS fi136 [mv 3 0 86,
 mv 4 0 86,
 bop 5 .neq 86 3 4 86 4,
 asn 2 5 4] fr st (.seq .ret k) := evK_rs 1 rfl (by kernel_rfl)
def c136_0 : Code := .seq (codeN b136 2) c136_2
theorem e136_0 : evK gS fi136 c136_0 fr st k = opsR gS fi136 [op1 2 (.assign (.const (.bool false))) 4] fr st (.seq c136_2 k) := evK_rs 0 rfl (by kernel_rfl)
theorem m136 : mini fi136.body = c136_0 := by kernel_rfl
set_option maxHeartbeats 4000000 in
theorem c136 (x : Nat)  (st : St) : EvF gS 136 [.float .f64 x] st = some (.ret (.bool (!feq x x)) none, st) := by
  refine EvF_start fi116_eq (fun x h => by cases h) m136 ?_
  rw [st136]
  have hm : fi136.marks = [] := rfl
  have hl : fi136.locals = [] := rfl
  have hr : fi136.results = [.tmp 2] := rfl
  simp (config := { contextual := true, maxSteps := 10000000, maxDischargeDepth := 6 }) [-Int.not_le, -Int.not_lt, -Nat.not_le, -Nat.not_lt, ty4, ty86, hm, hl, hr, e136_2, e136_0]
  all_goals first | done | grind | omega | (trace_state; fail)
theorem k136 (x : Nat)  (fr : Fr) (st : St) : callStep gS (EvF gS) 136 [.float .f64 x] fr st = some (.ok (retE none (.bool (!feq x x))) fr st) :=
  call_pure rfl fi116_eq rfl (fun st => c136 x  st) (by simp)
def fi137 : FI := { body := codeOf Try.f137, ntmps := 9, results := [.tmp 4], pers := [0, 1, 4], locals := [], pure := true, marks := [] }
theorem fi117_eq : gS.fn 137 = some fi137 := by kernel_rfl
theorem st137 (a0 a1 : V) : startFr fi137 [a0, a1] = { ps := [(0, .val a0), (1, .val a1), (4, .any)], ts := [], lc := [] } := rfl
def b137 : Code := mini (codeOf Try.f137)
def c137_7 : Code := .seq (codeN b137 73) .ret
def c137_13 : Code := .seq (codeN b137 313) .ret
def c137_12 : Code := .cond (.tmp 7) c137_13 .skip
def c137_10 : Code := .seq (codeN b137 89) c137_12
def c137_6 : Code := .cond (.tmp 5) c137_7 c137_10
def c137_4 : Code := .seq (codeN b137 17) c137_6
def c137_17 : Code := .seq (codeN b137 11) .ret
def c137_2 : Code := .seq (.block 0 c137_4) c137_17
def c137_0 : Code := .seq (codeN b137 2) c137_2
theorem E137 : evK gS fi137 c137_7 fr st k = opsR gS fi137 [op1 4 (.assign (.const (.int .i64 (-1)))) 3] fr st (.seq .ret k) ∧
 evK gS fi137 c137_13 fr st k = opsR gS fi137 [op1 4 (.assign (.const (.int .i64 1))) 3] fr st (.seq .ret k) ∧
 evK gS fi137 c137_12 fr st k = condK gS fi137 (fr.op (.tmp 7)).bool? c137_13 .skip fr st k ∧
 (evK gS fi137 c137_10 fr st k = opsR gS fi137 [mv 8 1 4,
 asn 7 8 4] fr st (.seq c137_12 k)) ∧
 evK gS fi137 c137_6 fr st k = condK gS fi137 (fr.op (.tmp 5)).bool? c137_7 c137_10 fr st k ∧
 (evK gS fi137 c137_4 fr st k = opsR gS fi137 [mv 6 0 4,
 asn 5 6 4] fr st (.seq c137_6 k)) ∧
 evK gS fi137 c137_17 fr st k = opsR gS fi137 [op1 4 (.assign (.const (.int .i64 0))) 3] fr st (.seq .ret k) ∧
 evK gS fi137 c137_2 fr st k = evK gS fi137 c137_4 fr st (.blk 0 (.seq c137_17 k)) ∧
 evK gS fi137 c137_0 fr st k = opsR gS fi137 [op1 4 (.assign (.const (.int .i64 0))) 3] fr st (.seq c137_2 k) := ⟨evK_rs 2 rfl (by kernel_rfl), evK_rs 4 rfl (by kernel_rfl), rfl, evK_rs 3 rfl (by kernel_rfl), rfl, evK_rs 1 rfl (by kernel_rfl), evK_rs 5 rfl (by kernel_rfl), rfl, evK_rs 0 rfl (by kernel_rfl)⟩
theorem m137 : mini fi137.body = c137_0 := by kernel_rfl
set_option maxHeartbeats 4000000 in
theorem c137 (b : Bool) (a : Bool)  (st : St) : EvF gS 137 [.bool b, .bool a] st = some (.ret (.int .i64 (sgn b a)) none, st) := by
  refine EvF_start fi117_eq (fun x h => by cases h) m137 ?_
  rw [st137]
  have hm : fi137.marks = [] := rfl
  have hl : fi137.locals = [] := rfl
  have hr : fi137.results = [.tmp 4] := rfl
  simp (config := { contextual := true, maxSteps := 10000000, maxDischargeDepth := 6 }) [-Int.not_le, -Int.not_lt, -Nat.not_le, -Nat.not_lt, ty3, ty4, hm, hl, hr, E137]
  all_goals try simp (config := { contextual := true }) [-Int.not_le, -Int.not_lt, -Nat.not_le, -Nat.not_lt, sgn]
  all_goals first | done | grind | omega | (trace_state; fail)
theorem k137 (b : Bool) (a : Bool)  (fr : Fr) (st : St) : callStep gS (EvF gS) 137 [.bool b, .bool a] fr st = some (.ok (retE none (.int .i64 (sgn b a))) fr st) :=
  call_pure rfl fi117_eq rfl (fun st => c137 b a  st) (by simp)
def fi120 : FI := { body := codeOf Try.f120, ntmps := 19, results := [.tmp 4, .tmp 5], pers := [0, 1, 4, 5], locals := [], pure := true, marks := [] }
theorem fi105_eq : gS.fn 120 = some fi120 := by kernel_rfl
theorem st120 (a0 a1 : V) : startFr fi120 [a0, a1] = { ps := [(0, .val a0), (1, .val a1), (4, .any), (5, .any)], ts := [], lc := [] } := rfl
def b120 : Code := mini (codeOf Try.f120)
def c120_6 : Code := .seq (codeN b120 37) .ret
def c120_5 : Code := .cond (.tmp 11) c120_6 .skip
def c120_3 : Code := .seq (codeN b120 9) c120_5
def c120_10 : Code := .seq (codeN b120 11) .ret
def c120_2 : Code := .seq c120_3 c120_10
def c120_0 : Code := .seq (codeN b120 2) c120_2
theorem E120 : (evK gS fi120 c120_6 fr st k = opsR gS fi120 [op1 4 (.assign (.const (.int .i64 0))) 3,
 op1 5 (.assign (.const (.bool false))) 4] fr st (.seq .ret k)) ∧
 evK gS fi120 c120_5 fr st k = condK gS fi120 (fr.op (.tmp 11)).bool? c120_6 .skip fr st k ∧
 (evK gS fi120 c120_3 fr st k = opsR gS fi120 [mv 6 0 86,
 cal 7 136 [(.tmp 6)] [86] 4,
 mv 8 7 4,
 mk (some 9) (.move (.tmp 1)) 86 (some (2, false)),
 mk (some 10) (.call { callee := (.value (.func 136)), args := #[(.tmp 9)], argTypes := #[86] }) 4 (some (2, false)),
 op1 11 (.pick (.tmp 8) (.const (.bool true)) (.tmp 10)) 4] fr st (.seq c120_5 k)) ∧
 (evK gS fi120 c120_10 fr st k = opsR gS fi120 [mv 12 0 86,
 mv 13 1 86,
 bop 14 .lss 86 12 13 86 4,
 mv 15 0 86,
 mv 16 1 86,
 bop 17 .gtr 86 15 16 86 4,
 cal 18 137 [(.tmp 14), (.tmp 17)] [4, 4] 3,
 asn 4 18 3,
 op1 5 (.assign (.const (.bool true))) 4] fr st (.seq .ret k)) ∧
 evK gS fi120 c120_2 fr st k = evK gS fi120 c120_3 fr st (.seq c120_10 k) ∧
 (evK gS fi120 c120_0 fr st k = opsR gS fi120 [op1 4 (.assign (.const (.int .i64 0))) 3,
 op1 5 (.assign (.const (.bool false))) 4] fr st (.seq c120_2 k)) := ⟨evK_rs 2 rfl (by kernel_rfl), rfl, evK_rs 1 rfl (by kernel_rfl), evK_rs 3 rfl (by kernel_rfl), rfl, evK_rs 0 rfl (by kernel_rfl)⟩
theorem m120 : mini fi120.body = c120_0 := by kernel_rfl
set_option maxHeartbeats 4000000 in
theorem c120 (a : Nat) (b : Nat)  (st : St) : EvF gS 120 [.float .f64 a, .float .f64 b] st = some (.ret (.tuple [.int .i64 (fcmp a b).1, .bool (fcmp a b).2]) none, st) := by
  refine EvF_start fi105_eq (fun x h => by cases h) m120 ?_
  rw [st120]
  have hm : fi120.marks = [] := rfl
  have hl : fi120.locals = [] := rfl
  have hr : fi120.results = [.tmp 4, .tmp 5] := rfl
  simp (config := { contextual := true, maxSteps := 10000000, maxDischargeDepth := 6 }) [-Int.not_le, -Int.not_lt, -Nat.not_le, -Nat.not_lt, ty3, ty4, ty86, hm, hl, hr, k136, k137, E120]
  all_goals try simp (config := { contextual := true }) [-Int.not_le, -Int.not_lt, -Nat.not_le, -Nat.not_lt, fcmp]
  all_goals first | done | grind | omega | (trace_state; fail)
theorem k120 (a : Nat) (b : Nat)  (fr : Fr) (st : St) : callStep gS (EvF gS) 120 [.float .f64 a, .float .f64 b] fr st = some (.ok (retE none (.tuple [.int .i64 (fcmp a b).1, .bool (fcmp a b).2])) fr st) :=
  call_pure rfl fi105_eq rfl (fun st => c120 a b  st) (by simp)
def fi138 : FI := { body := codeOf Try.f138, ntmps := 7, results := [.tmp 2], pers := [0, 2], locals := [], pure := true, marks := [] }
theorem fi118_eq : gS.fn 138 = some fi138 := by kernel_rfl
theorem st138 (a0 : V) : startFr fi138 [a0] = { ps := [(0, .val a0), (2, .any)], ts := [], lc := [] } := rfl
def b138 : Code := mini (codeOf Try.f138)
def c138_4 : Code := .seq (codeN b138 17) .ret
def c138_8 : Code := .seq (codeN b138 11) .ret
def c138_2 : Code := .seq (.cond (.const (.bool true)) c138_4 .skip) c138_8
def c138_0 : Code := .seq (codeN b138 2) c138_2
theorem E138 : (evK gS fi138 c138_4 fr st k = opsR gS fi138 [mv 3 0 86,
 cal 4 140 [(.tmp 3)] [86] 86,
 asn 2 4 86] fr st (.seq .ret k)) ∧
 (evK gS fi138 c138_8 fr st k = opsR gS fi138 [mv 5 0 86,
 cal 6 141 [(.tmp 5)] [86] 86,
 asn 2 6 86] fr st (.seq .ret k)) ∧
 evK gS fi138 c138_2 fr st k = condK gS fi138 (fr.op (.const (.bool true))).bool? c138_4 .skip fr st (.seq c138_8 k) ∧
 evK gS fi138 c138_0 fr st k = opsR gS fi138 [op1 2 (.assign (.const (.float .f64 0))) 86] fr st (.seq c138_2 k) := ⟨evK_rs 1 rfl (by kernel_rfl), evK_rs 2 rfl (by kernel_rfl), rfl, evK_rs 0 rfl (by kernel_rfl)⟩
theorem m138 : mini fi138.body = c138_0 := by kernel_rfl
set_option maxHeartbeats 4000000 in
theorem c138 (x : Nat) (h : truncV x = some (ftr x)) (st : St) : EvF gS 138 [.float .f64 x] st = some (.ret (.float .f64 (ftr x)) none, st) := by
  refine EvF_start fi118_eq (fun x h => by cases h) m138 ?_
  rw [st138]
  have hm : fi138.marks = [] := rfl
  have hl : fi138.locals = [] := rfl
  have hr : fi138.results = [.tmp 2] := rfl
  simp (config := { contextual := true, maxSteps := 10000000, maxDischargeDepth := 6 }) [-Int.not_le, -Int.not_lt, -Nat.not_le, -Nat.not_lt, ty86, hm, hl, hr, E138, k140 x (ftr x) h]
  all_goals first | done | grind | omega | (trace_state; fail)
theorem k138 (x : Nat) (h : truncV x = some (ftr x)) (fr : Fr) (st : St) : callStep gS (EvF gS) 138 [.float .f64 x] fr st = some (.ok (.val (.float .f64 (ftr x))) fr st) :=
  call_pure rfl fi118_eq rfl (fun st => c138 x h st) (by simp)
def fi121 : FI := { body := codeOf Try.f121, ntmps := 38, results := [.tmp 4, .tmp 5], pers := [0, 1, 4, 5, 6, 7], locals := [], pure := true, marks := [] }
theorem fi106_eq : gS.fn 121 = some fi121 := by kernel_rfl
theorem st121 (a0 a1 : V) : startFr fi121 [a0, a1] = { ps := [(0, .val a0), (1, .val a1), (4, .any), (5, .any), (6, .any), (7, .any)], ts := [], lc := [] } := rfl
def b121 : Code := mini (codeOf Try.f121)
def c121_7 : Code := .seq (codeN b121 73) .ret
def c121_13 : Code := .seq (codeN b121 313) .ret
def c121_19 : Code := .seq (codeN b121 1273) .ret
def c121_18 : Code := .cond (.tmp 14) c121_19 .skip
def c121_16 : Code := .seq (codeN b121 377) c121_18
def c121_12 : Code := .cond (.tmp 11) c121_13 c121_16
def c121_10 : Code := .seq (codeN b121 89) c121_12
def c121_6 : Code := .cond (.tmp 8) c121_7 c121_10
def c121_4 : Code := .seq (codeN b121 17) c121_6
def c121_31 : Code := .seq (codeN b121 311) .ret
def c121_30 : Code := .cond (.tmp 23) c121_31 .skip
def c121_28 : Code := .seq (codeN b121 87) c121_30
def c121_26 : Code := .seq (codeN b121 39) c121_28
def c121_35 : Code := .seq (codeN b121 47) .ret
def c121_25 : Code := .seq c121_26 c121_35
def c121_23 : Code := .seq (codeN b121 11) c121_25
def c121_2 : Code := .seq (.block 0 c121_4) c121_23
def c121_0 : Code := .seq (codeN b121 2) c121_2
theorem E121 : (evK gS fi121 c121_7 fr st k = opsR gS fi121 [op1 4 (.assign (.const (.int .i64 0))) 3,
 op1 5 (.assign (.const (.bool false))) 4] fr st (.seq .ret k)) ∧
 (evK gS fi121 c121_13 fr st k = opsR gS fi121 [op1 4 (.assign (.const (.int .i64 (-1)))) 3,
 op1 5 (.assign (.const (.bool true))) 4] fr st (.seq .ret k)) ∧
 (evK gS fi121 c121_19 fr st k = opsR gS fi121 [op1 4 (.assign (.const (.int .i64 1))) 3,
 op1 5 (.assign (.const (.bool true))) 4] fr st (.seq .ret k)) ∧
 evK gS fi121 c121_18 fr st k = condK gS fi121 (fr.op (.tmp 14)).bool? c121_19 .skip fr st k ∧
 (evK gS fi121 c121_16 fr st k = opsR gS fi121 [mv 15 1 86,
 op1 16 (.binOp .lss 86 (.tmp 15) (.const (.float .f64 14114281232179134464)) 86) 4,
 asn 14 16 4] fr st (.seq c121_18 k)) ∧
 evK gS fi121 c121_12 fr st k = condK gS fi121 (fr.op (.tmp 11)).bool? c121_13 c121_16 fr st k ∧
 (evK gS fi121 c121_10 fr st k = opsR gS fi121 [mv 12 1 86,
 op1 13 (.binOp .geq 86 (.tmp 12) (.const (.float .f64 4890909195324358656)) 86) 4,
 asn 11 13 4] fr st (.seq c121_12 k)) ∧
 evK gS fi121 c121_6 fr st k = condK gS fi121 (fr.op (.tmp 8)).bool? c121_7 c121_10 fr st k ∧
 (evK gS fi121 c121_4 fr st k = opsR gS fi121 [mv 9 1 86,
 cal 10 136 [(.tmp 9)] [86] 4,
 asn 8 10 4] fr st (.seq c121_6 k)) ∧
 (evK gS fi121 c121_31 fr st k = opsR gS fi121 [mv 24 0 2,
 mv 25 7 2,
 bop 26 .lss 2 24 25 2 4,
 mv 27 0 2,
 mv 28 7 2,
 bop 29 .gtr 2 27 28 2 4,
 cal 30 137 [(.tmp 26), (.tmp 29)] [4, 4] 3,
 asn 4 30 3,
 op1 5 (.assign (.const (.bool true))) 4] fr st (.seq .ret k)) ∧
 evK gS fi121 c121_30 fr st k = condK gS fi121 (fr.op (.tmp 23)).bool? c121_31 .skip fr st k ∧
 (evK gS fi121 c121_28 fr st k = opsR gS fi121 [mv 21 7 2,
 mv 22 0 2,
 bop 23 .neq 2 21 22 2 4] fr st (.seq c121_30 k)) ∧
 (evK gS fi121 c121_26 fr st k = opsR gS fi121 [mv 19 6 86,
 op1 20 (.convert 86 2 (.tmp 19)) 2,
 asn 7 20 2] fr st (.seq c121_28 k)) ∧
 (evK gS fi121 c121_35 fr st k = opsR gS fi121 [mv 31 6 86,
 mv 32 1 86,
 bop 33 .lss 86 31 32 86 4,
 mv 34 6 86,
 mv 35 1 86,
 bop 36 .gtr 86 34 35 86 4,
 cal 37 137 [(.tmp 33), (.tmp 36)] [4, 4] 3,
 asn 4 37 3,
 op1 5 (.assign (.const (.bool true))) 4] fr st (.seq .ret k)) ∧
 evK gS fi121 c121_25 fr st k = evK gS fi121 c121_26 fr st (.seq c121_35 k) ∧
 (evK gS fi121 c121_23 fr st k = opsR gS fi121 [mv 17 1 86,
 cal 18 138 [(.tmp 17)] [86] 86,
 asn 6 18 86] fr st (.seq c121_25 k)) ∧
 evK gS fi121 c121_2 fr st k = evK gS fi121 c121_4 fr st (.blk 0 (.seq c121_23 k)) ∧
 (evK gS fi121 c121_0 fr st k = opsR gS fi121 [op1 4 (.assign (.const (.int .i64 0))) 3,
 op1 5 (.assign (.const (.bool false))) 4] fr st (.seq c121_2 k)) := ⟨evK_rs 2 rfl (by kernel_rfl), evK_rs 4 rfl (by kernel_rfl), evK_rs 6 rfl (by kernel_rfl), rfl, evK_rs 5 rfl (by kernel_rfl), rfl, evK_rs 3 rfl (by kernel_rfl), rfl, evK_rs 1 rfl (by kernel_rfl), evK_rs 10 rfl (by kernel_rfl), rfl, evK_rs 9 rfl (by kernel_rfl), evK_rs 8 rfl (by kernel_rfl), evK_rs 11 rfl (by kernel_rfl), rfl, evK_rs 7 rfl (by kernel_rfl), rfl, evK_rs 0 rfl (by kernel_rfl)⟩
theorem m121 : mini fi121.body = c121_0 := by kernel_rfl
set_option maxHeartbeats 4000000 in
theorem c121 (n : Int) (x : Nat)  (st : St) : EvF gS 121 [.int .i64 n, .float .f64 x] st = some (.ret (.tuple [.int .i64 (icmp n x).1, .bool (icmp n x).2]) none, st) := by
  refine EvF_start fi106_eq (fun x h => by cases h) m121 ?_
  rw [st121]
  have hm : fi121.marks = [] := rfl
  have hl : fi121.locals = [] := rfl
  have hr : fi121.results = [.tmp 4, .tmp 5] := rfl
  by_cases h1 : feq x x = true
  · by_cases h2 : fge x 4890909195324358656 = true
    · simp (config := { contextual := true, maxSteps := 10000000 }) [icmp, sgn, h1, h2, -Int.not_le, -Int.not_lt, -Nat.not_le, -Nat.not_lt, ty2, ty3, ty4, ty86, hm, hl, hr, k136, k137, E121]
    · by_cases h3 : flt x 14114281232179134464 = true
      · simp (config := { contextual := true, maxSteps := 10000000 }) [icmp, sgn, h1, h2, h3, -Int.not_le, -Int.not_lt, -Nat.not_le, -Nat.not_lt, ty2, ty3, ty4, ty86, hm, hl, hr, k136, k137, E121]
      · obtain ⟨e1, e2, e3, e4⟩ := conv_ok x h1 h2 h3
        have e5 : IntKind.min .i64 ≤ ftz x := e3
        have e6 : ftz x ≤ IntKind.max .i64 := e4
        by_cases h4 : ftz x = n
        · subst h4
          simp (config := { contextual := true, maxSteps := 10000000 }) [icmp, h1, h2, h3, k138 x e1, e2, e3, e4, e5, e6, -Int.not_le, -Int.not_lt, -Nat.not_le, -Nat.not_lt, ty2, ty3, ty4, ty86, hm, hl, hr, k136, k137, E121]
          skip
        · skip
          have h5 : ¬ n = ftz x := fun h => h4 h.symm
          simp (config := { contextual := true, maxSteps := 10000000 }) [icmp, h1, h2, h3, h4, h5, k138 x e1, e2, e3, e4, e5, e6, -Int.not_le, -Int.not_lt, -Nat.not_le, -Nat.not_lt, ty2, ty3, ty4, ty86, hm, hl, hr, k136, k137, E121]
          skip
  · simp (config := { contextual := true, maxSteps := 10000000 }) [icmp, sgn, h1, -Int.not_le, -Int.not_lt, -Nat.not_le, -Nat.not_lt, ty2, ty3, ty4, ty86, hm, hl, hr, k136, k137, E121]
theorem k121 (n : Int) (x : Nat)  (fr : Fr) (st : St) : callStep gS (EvF gS) 121 [.int .i64 n, .float .f64 x] fr st = some (.ok (retE none (.tuple [.int .i64 (icmp n x).1, .bool (icmp n x).2])) fr st) :=
  call_pure rfl fi106_eq rfl (fun st => c121 n x  st) (by simp)
def fi139 : FI := { body := codeOf Try.f139, ntmps := 9, results := [.tmp 2], pers := [0, 2], locals := [], pure := true, marks := [] }
theorem fi119_eq : gS.fn 139 = some fi139 := by kernel_rfl
theorem st139 (a0 : V) : startFr fi139 [a0] = { ps := [(0, .val a0), (2, .any)], ts := [], lc := [] } := rfl
def b139 : Code := mini (codeOf Try.f139)
def c139_6 : Code := .seq (codeN b139 37) .ret
def c139_5 : Code := .cond (.tmp 4) c139_6 .skip
def c139_3 : Code := .seq (codeN b139 9) c139_5
def c139_14 : Code := .seq (codeN b139 75) .ret
def c139_13 : Code := .cond (.tmp 6) c139_14 .skip
def c139_11 : Code := .seq (codeN b139 19) c139_13
def c139_18 : Code := .seq (codeN b139 23) .ret
def c139_10 : Code := .seq c139_11 c139_18
def c139_2 : Code := .seq c139_3 c139_10
def c139_0 : Code := .seq (codeN b139 2) c139_2
theorem E139 : evK gS fi139 c139_6 fr st k = opsR gS fi139 [op1 2 (.assign (.const (.int .u64 9221120237041090560))) 128] fr st (.seq .ret k) ∧
 evK gS fi139 c139_5 fr st k = condK gS fi139 (fr.op (.tmp 4)).bool? c139_6 .skip fr st k ∧
 (evK gS fi139 c139_3 fr st k = opsR gS fi139 [mv 3 0 86,
 cal 4 136 [(.tmp 3)] [86] 4] fr st (.seq c139_5 k)) ∧
 evK gS fi139 c139_14 fr st k = opsR gS fi139 [op1 2 (.assign (.const (.int .u64 0))) 128] fr st (.seq .ret k) ∧
 evK gS fi139 c139_13 fr st k = condK gS fi139 (fr.op (.tmp 6)).bool? c139_14 .skip fr st k ∧
 (evK gS fi139 c139_11 fr st k = opsR gS fi139 [mv 5 0 86,
 op1 6 (.binOp .eql 86 (.tmp 5) (.const (.float .f64 0)) 86) 4] fr st (.seq c139_13 k)) ∧
 (evK gS fi139 c139_18 fr st k = opsR gS fi139 [mv 7 0 86,
 cal 8 123 [(.tmp 7)] [86] 128,
 asn 2 8 128] fr st (.seq .ret k)) ∧
 evK gS fi139 c139_10 fr st k = evK gS fi139 c139_11 fr st (.seq c139_18 k) ∧
 evK gS fi139 c139_2 fr st k = evK gS fi139 c139_3 fr st (.seq c139_10 k) ∧
 evK gS fi139 c139_0 fr st k = opsR gS fi139 [op1 2 (.assign (.const (.int .u64 0))) 128] fr st (.seq c139_2 k) := ⟨evK_rs 2 rfl (by kernel_rfl), rfl, evK_rs 1 rfl (by kernel_rfl), evK_rs 4 rfl (by kernel_rfl), rfl, evK_rs 3 rfl (by kernel_rfl), evK_rs 5 rfl (by kernel_rfl), rfl, rfl, evK_rs 0 rfl (by kernel_rfl)⟩
theorem m139 : mini fi139.body = c139_0 := by kernel_rfl
set_option maxHeartbeats 4000000 in
theorem c139 (x : Nat)  (st : St) : EvF gS 139 [.float .f64 x] st = some (.ret (.int .u64 (fbits x)) none, st) := by
  refine EvF_start fi119_eq (fun x h => by cases h) m139 ?_
  rw [st139]
  have hm : fi139.marks = [] := rfl
  have hl : fi139.locals = [] := rfl
  have hr : fi139.results = [.tmp 2] := rfl
  simp (config := { contextual := true, maxSteps := 10000000, maxDischargeDepth := 6 }) [-Int.not_le, -Int.not_lt, -Nat.not_le, -Nat.not_lt, ty4, ty86, ty128, hm, hl, hr, k123, k136, E139]
  all_goals try simp (config := { contextual := true }) [-Int.not_le, -Int.not_lt, -Nat.not_le, -Nat.not_lt, fbits]
  all_goals first | done | grind | omega | (trace_state; fail)
theorem k139 (x : Nat)  (fr : Fr) (st : St) : callStep gS (EvF gS) 139 [.float .f64 x] fr st = some (.ok (retE none (.int .u64 (fbits x))) fr st) :=
  call_pure rfl fi119_eq rfl (fun st => c139 x  st) (by simp)
def fi122 : FI := { body := codeOf Try.f122, ntmps := 10, results := [.tmp 4], pers := [0, 1, 4], locals := [], pure := true, marks := [] }
theorem fi109_eq : gS.fn 122 = some fi122 := by kernel_rfl
theorem st122 (a0 a1 : V) : startFr fi122 [a0, a1] = { ps := [(0, .val a0), (1, .val a1), (4, .any)], ts := [], lc := [] } := rfl
def b122 : Code := mini (codeOf Try.f122)
def c122_2 : Code := .seq (codeN b122 5) .ret
theorem e122_2 : evK gS fi122 c122_2 fr st k = opsR gS fi122 [mv 5 0 86,
 cal 6 139 [(.tmp 5)] [86] 128,
 mv 7 1 86,
 cal 8 139 [(.tmp 7)] [86] 128,
 bop 9 .eql 128 6 8 128 4,
 asn 4 9 4] fr st (.seq .ret k) := evK_rs 1 rfl (by kernel_rfl)
def c122_0 : Code := .seq (codeN b122 2) c122_2
theorem e122_0 : evK gS fi122 c122_0 fr st k = opsR gS fi122 [op1 4 (.assign (.const (.bool false))) 4] fr st (.seq c122_2 k) := evK_rs 0 rfl (by kernel_rfl)
theorem m122 : mini fi122.body = c122_0 := by kernel_rfl
set_option maxHeartbeats 4000000 in
theorem c122 (a : Nat) (b : Nat)  (st : St) : EvF gS 122 [.float .f64 a, .float .f64 b] st = some (.ret (.bool (fbits a = fbits b)) none, st) := by
  refine EvF_start fi109_eq (fun x h => by cases h) m122 ?_
  rw [st122]
  have hm : fi122.marks = [] := rfl
  have hl : fi122.locals = [] := rfl
  have hr : fi122.results = [.tmp 4] := rfl
  simp (config := { contextual := true, maxSteps := 10000000, maxDischargeDepth := 6 }) [-Int.not_le, -Int.not_lt, -Nat.not_le, -Nat.not_lt, ty4, ty86, ty128, hm, hl, hr, k139, e122_2, e122_0]
  all_goals first | done | grind | omega | (trace_state; fail)
theorem k122 (a : Nat) (b : Nat)  (fr : Fr) (st : St) : callStep gS (EvF gS) 122 [.float .f64 a, .float .f64 b] fr st = some (.ok (retE none (.bool (fbits a = fbits b))) fr st) :=
  call_pure rfl fi109_eq rfl (fun st => c122 a b  st) (by simp)
def fi119 : FI := { body := codeOf Try.f119, ntmps := 7, results := [.tmp 4], pers := [0, 1, 4], locals := [], pure := true, marks := [] }
theorem fi104_eq : gS.fn 119 = some fi119 := by kernel_rfl
theorem st119 (a0 a1 : V) : startFr fi119 [a0, a1] = { ps := [(0, .val a0), (1, .val a1), (4, .any)], ts := [], lc := [] } := rfl
def b119 : Code := mini (codeOf Try.f119)
def c119_6 : Code := .seq (codeN b119 37) .ret
def c119_5 : Code := .cond (.tmp 5) c119_6 .skip
def c119_3 : Code := .seq (codeN b119 9) c119_5
def c119_14 : Code := .seq (codeN b119 75) .ret
def c119_13 : Code := .cond (.tmp 6) c119_14 .skip
def c119_11 : Code := .seq (codeN b119 19) c119_13
def c119_18 : Code := .seq (codeN b119 23) .ret
def c119_10 : Code := .seq c119_11 c119_18
def c119_2 : Code := .seq c119_3 c119_10
def c119_0 : Code := .seq (codeN b119 2) c119_2
theorem E119 : evK gS fi119 c119_6 fr st k = opsR gS fi119 [op1 4 (.assign (.const (.int .i64 (-1)))) 3] fr st (.seq .ret k) ∧
 evK gS fi119 c119_5 fr st k = condK gS fi119 (fr.op (.tmp 5)).bool? c119_6 .skip fr st k ∧
 evK gS fi119 c119_3 fr st k = opsR gS fi119 [mv 5 0 4] fr st (.seq c119_5 k) ∧
 evK gS fi119 c119_14 fr st k = opsR gS fi119 [op1 4 (.assign (.const (.int .i64 1))) 3] fr st (.seq .ret k) ∧
 evK gS fi119 c119_13 fr st k = condK gS fi119 (fr.op (.tmp 6)).bool? c119_14 .skip fr st k ∧
 evK gS fi119 c119_11 fr st k = opsR gS fi119 [mv 6 1 4] fr st (.seq c119_13 k) ∧
 evK gS fi119 c119_18 fr st k = opsR gS fi119 [op1 4 (.assign (.const (.int .i64 0))) 3] fr st (.seq .ret k) ∧
 evK gS fi119 c119_10 fr st k = evK gS fi119 c119_11 fr st (.seq c119_18 k) ∧
 evK gS fi119 c119_2 fr st k = evK gS fi119 c119_3 fr st (.seq c119_10 k) ∧
 evK gS fi119 c119_0 fr st k = opsR gS fi119 [op1 4 (.assign (.const (.int .i64 0))) 3] fr st (.seq c119_2 k) := ⟨evK_rs 2 rfl (by kernel_rfl), rfl, evK_rs 1 rfl (by kernel_rfl), evK_rs 4 rfl (by kernel_rfl), rfl, evK_rs 3 rfl (by kernel_rfl), evK_rs 5 rfl (by kernel_rfl), rfl, rfl, evK_rs 0 rfl (by kernel_rfl)⟩
theorem m119 : mini fi119.body = c119_0 := by kernel_rfl
set_option maxHeartbeats 4000000 in
theorem c119 (b : Bool) (a : Bool)  (st : St) : EvF gS 119 [.bool b, .bool a] st = some (.ret (.int .i64 (sgn b a)) none, st) := by
  refine EvF_start fi104_eq (fun x h => by cases h) m119 ?_
  rw [st119]
  have hm : fi119.marks = [] := rfl
  have hl : fi119.locals = [] := rfl
  have hr : fi119.results = [.tmp 4] := rfl
  simp (config := { contextual := true, maxSteps := 10000000, maxDischargeDepth := 6 }) [-Int.not_le, -Int.not_lt, -Nat.not_le, -Nat.not_lt, ty3, ty4, hm, hl, hr, E119]
  all_goals try simp (config := { contextual := true }) [-Int.not_le, -Int.not_lt, -Nat.not_le, -Nat.not_lt, sgn]
  all_goals first | done | grind | omega | (trace_state; fail)
theorem k119 (b : Bool) (a : Bool)  (fr : Fr) (st : St) : callStep gS (EvF gS) 119 [.bool b, .bool a] fr st = some (.ok (retE none (.int .i64 (sgn b a))) fr st) :=
  call_pure rfl fi104_eq rfl (fun st => c119 b a  st) (by simp)
end
end Go.Proofs.Ytdoobejjedpcgaa
namespace Go.Proofs.Ytdoobejjedpcgaa
open Go Go.Ab
set_option linter.unusedVariables false
set_option linter.unusedSimpArgs false
set_option linter.unnecessarySimpa false
set_option maxRecDepth 20000
noncomputable section
variable (fr : Fr) (st : St) (k : Kt)
def fi98 : FI := { body := codeOf Try.f98, ntmps := 124, results := [.tmp 4, .tmp 5], pers := [0, 1, 2, 3, 4, 5, 6, 7], locals := [2, 3], pure := true, marks := [] }
theorem fi75_eq : gS.fn 98 = some fi98 := by kernel_rfl
theorem st98 (a0 a1 : V) : startFr fi98 [a0, a1] = { ps := [(0, .val a0), (1, .val a1), (2, .any), (3, .any), (4, .any), (5, .any), (6, .any), (7, .any)], ts := [], lc := [] } := rfl
def b98 : Code := mini (codeOf Try.f98)
def c98_7 : Code := .seq (codeN b98 73) .ret
def c98_13 : Code := .seq (codeN b98 313) .ret
def c98_19 : Code := .seq (codeN b98 1273) .ret
def c98_27 : Code := .seq (codeN b98 11257) .ret
def c98_25 : Code := .seq (codeN b98 5113) c98_27
def c98_33 : Code := .seq (codeN b98 20473) .ret
def c98_39 : Code := .seq (codeN b98 81913) .ret
def c98_38 : Code := .cond (.tmp 100) c98_39 .skip
def c98_36 : Code := .seq (codeN b98 24569) c98_38
def c98_32 : Code := .cond (.tmp 80) c98_33 c98_36
def c98_30 : Code := .seq (codeN b98 6137) c98_32
def c98_24 : Code := .cond (.tmp 60) c98_25 c98_30
def c98_22 : Code := .seq (codeN b98 1529) c98_24
def c98_18 : Code := .cond (.tmp 44) c98_19 c98_22
def c98_16 : Code := .seq (codeN b98 377) c98_18
def c98_12 : Code := .cond (.tmp 28) c98_13 c98_16
def c98_10 : Code := .seq (codeN b98 89) c98_12
def c98_6 : Code := .cond (.tmp 8) c98_7 c98_10
def c98_4 : Code := .seq (codeN b98 17) c98_6
def c98_43 : Code := .seq (codeN b98 11) .ret
def c98_2 : Code := .seq (.block 0 c98_4) c98_43
def c98_0 : Code := .seq (codeN b98 2) c98_2
theorem E98 : (evK gS fi98 c98_7 fr st k = opsR gS fi98 [op1 17 (.fieldAddr 88 (.tmp 2) 1) 0,
 ld 18 2 17 2,
 op1 19 (.fieldAddr 88 (.tmp 3) 1) 0,
 ld 20 2 19 2,
 bop 21 .lss 2 18 20 2 4,
 op1 22 (.fieldAddr 88 (.tmp 2) 1) 0,
 ld 23 2 22 2,
 op1 24 (.fieldAddr 88 (.tmp 3) 1) 0,
 ld 25 2 24 2,
 bop 26 .gtr 2 23 25 2 4,
 cal 27 119 [(.tmp 21), (.tmp 26)] [4, 4] 3,
 asn 4 27 3,
 op1 5 (.assign (.const (.bool true))) 4] fr st (.seq .ret k)) ∧
 (evK gS fi98 c98_13 fr st k = opsR gS fi98 [op1 37 (.fieldAddr 88 (.tmp 2) 2) 0,
 ld 38 86 37 86,
 op1 39 (.fieldAddr 88 (.tmp 3) 2) 0,
 ld 40 86 39 86,
 cal 41 120 [(.tmp 38), (.tmp 40)] [86, 86] 125,
 op1 42 (.extract (.tmp 41) 0) 3,
 op1 43 (.extract (.tmp 41) 1) 4,
 asn 4 42 3,
 asn 5 43 4] fr st (.seq .ret k)) ∧
 (evK gS fi98 c98_19 fr st k = opsR gS fi98 [op1 53 (.fieldAddr 88 (.tmp 2) 1) 0,
 ld 54 2 53 2,
 op1 55 (.fieldAddr 88 (.tmp 3) 2) 0,
 ld 56 86 55 86,
 cal 57 121 [(.tmp 54), (.tmp 56)] [2, 86] 125,
 op1 58 (.extract (.tmp 57) 0) 3,
 op1 59 (.extract (.tmp 57) 1) 4,
 asn 4 58 3,
 asn 5 59 4] fr st (.seq .ret k)) ∧
 (evK gS fi98 c98_27 fr st k = opsR gS fi98 [mv 77 6 3,
 op1 78 (.unOp .neg 3 (.tmp 77)) 3,
 mv 79 7 4,
 asn 4 78 3,
 asn 5 79 4] fr st (.seq .ret k)) ∧
 (evK gS fi98 c98_25 fr st k = opsR gS fi98 [op1 70 (.fieldAddr 88 (.tmp 3) 1) 0,
 ld 71 2 70 2,
 op1 72 (.fieldAddr 88 (.tmp 2) 2) 0,
 ld 73 86 72 86,
 cal 74 121 [(.tmp 71), (.tmp 73)] [2, 86] 125,
 mv 69 74 125,
 op1 75 (.extract (.tmp 69) 0) 3,
 op1 76 (.extract (.tmp 69) 1) 4,
 asn 6 75 3,
 asn 7 76 4] fr st (.seq c98_27 k)) ∧
 (evK gS fi98 c98_33 fr st k = opsR gS fi98 [op1 89 (.fieldAddr 88 (.tmp 2) 3) 0,
 ld 90 9 89 9,
 op1 91 (.fieldAddr 88 (.tmp 3) 3) 0,
 ld 92 9 91 9,
 bop 93 .lss 9 90 92 9 4,
 op1 94 (.fieldAddr 88 (.tmp 2) 3) 0,
 ld 95 9 94 9,
 op1 96 (.fieldAddr 88 (.tmp 3) 3) 0,
 ld 97 9 96 9,
 bop 98 .gtr 9 95 97 9 4,
 cal 99 119 [(.tmp 93), (.tmp 98)] [4, 4] 3,
 asn 4 99 3,
 op1 5 (.assign (.const (.bool true))) 4] fr st (.seq .ret k)) ∧
 (evK gS fi98 c98_39 fr st k = opsR gS fi98 [op1 109 (.fieldAddr 88 (.tmp 2) 4) 0,
 ld 110 4 109 4,
 op1 111 (.unOp .not 4 (.tmp 110)) 4,
 mv 112 111 4,
 mk (some 113) (.fieldAddr 88 (.tmp 3) 4) 0 (some (3, true)),
 mk (some 114) (.load 4 (.tmp 113)) 4 (some (3, true)),
 op1 115 (.pick (.tmp 112) (.tmp 114) (.const (.bool false))) 4,
 op1 116 (.fieldAddr 88 (.tmp 2) 4) 0,
 ld 117 4 116 4,
 mv 118 117 4,
 mk (some 119) (.fieldAddr 88 (.tmp 3) 4) 0 (some (9, true)),
 mk (some 120) (.load 4 (.tmp 119)) 4 (some (9, true)),
 mk (some 121) (.unOp .not 4 (.tmp 120)) 4 (some (9, true)),
 op1 122 (.pick (.tmp 118) (.tmp 121) (.const (.bool false))) 4,
 cal 123 119 [(.tmp 115), (.tmp 122)] [4, 4] 3,
 asn 4 123 3,
 op1 5 (.assign (.const (.bool true))) 4] fr st (.seq .ret k)) ∧
 evK gS fi98 c98_38 fr st k = condK gS fi98 (fr.op (.tmp 100)).bool? c98_39 .skip fr st k ∧
 (evK gS fi98 c98_36 fr st k = opsR gS fi98 [op1 101 (.fieldAddr 88 (.tmp 2) 0) 0,
 ld 102 3 101 3,
 op1 103 (.binOp .eql 3 (.tmp 102) (.const (.int .i64 4)) 3) 4,
 mv 104 103 4,
 mk (some 105) (.fieldAddr 88 (.tmp 3) 0) 0 (some (3, true)),
 mk (some 106) (.load 3 (.tmp 105)) 3 (some (3, true)),
 mk (some 107) (.binOp .eql 3 (.tmp 106) (.const (.int .i64 4)) 3) 4 (some (3, true)),
 op1 108 (.pick (.tmp 104) (.tmp 107) (.const (.bool false))) 4,
 asn 100 108 4] fr st (.seq c98_38 k)) ∧
 evK gS fi98 c98_32 fr st k = condK gS fi98 (fr.op (.tmp 80)).bool? c98_33 c98_36 fr st k ∧
 (evK gS fi98 c98_30 fr st k = opsR gS fi98 [op1 81 (.fieldAddr 88 (.tmp 2) 0) 0,
 ld 82 3 81 3,
 op1 83 (.binOp .eql 3 (.tmp 82) (.const (.int .i64 3)) 3) 4,
 mv 84 83 4,
 mk (some 85) (.fieldAddr 88 (.tmp 3) 0) 0 (some (3, true)),
 mk (some 86) (.load 3 (.tmp 85)) 3 (some (3, true)),
 mk (some 87) (.binOp .eql 3 (.tmp 86) (.const (.int .i64 3)) 3) 4 (some (3, true)),
 op1 88 (.pick (.tmp 84) (.tmp 87) (.const (.bool false))) 4,
 asn 80 88 4] fr st (.seq c98_32 k)) ∧
 evK gS fi98 c98_24 fr st k = condK gS fi98 (fr.op (.tmp 60)).bool? c98_25 c98_30 fr st k ∧
 (evK gS fi98 c98_22 fr st k = opsR gS fi98 [op1 61 (.fieldAddr 88 (.tmp 2) 0) 0,
 ld 62 3 61 3,
 op1 63 (.binOp .eql 3 (.tmp 62) (.const (.int .i64 2)) 3) 4,
 mv 64 63 4,
 mk (some 65) (.fieldAddr 88 (.tmp 3) 0) 0 (some (3, true)),
 mk (some 66) (.load 3 (.tmp 65)) 3 (some (3, true)),
 mk (some 67) (.binOp .eql 3 (.tmp 66) (.const (.int .i64 1)) 3) 4 (some (3, true)),
 op1 68 (.pick (.tmp 64) (.tmp 67) (.const (.bool false))) 4,
 asn 60 68 4] fr st (.seq c98_24 k)) ∧
 evK gS fi98 c98_18 fr st k = condK gS fi98 (fr.op (.tmp 44)).bool? c98_19 c98_22 fr st k ∧
 (evK gS fi98 c98_16 fr st k = opsR gS fi98 [op1 45 (.fieldAddr 88 (.tmp 2) 0) 0,
 ld 46 3 45 3,
 op1 47 (.binOp .eql 3 (.tmp 46) (.const (.int .i64 1)) 3) 4,
 mv 48 47 4,
 mk (some 49) (.fieldAddr 88 (.tmp 3) 0) 0 (some (3, true)),
 mk (some 50) (.load 3 (.tmp 49)) 3 (some (3, true)),
 mk (some 51) (.binOp .eql 3 (.tmp 50) (.const (.int .i64 2)) 3) 4 (some (3, true)),
 op1 52 (.pick (.tmp 48) (.tmp 51) (.const (.bool false))) 4,
 asn 44 52 4] fr st (.seq c98_18 k)) ∧
 evK gS fi98 c98_12 fr st k = condK gS fi98 (fr.op (.tmp 28)).bool? c98_13 c98_16 fr st k ∧
 (evK gS fi98 c98_10 fr st k = opsR gS fi98 [op1 29 (.fieldAddr 88 (.tmp 2) 0) 0,
 ld 30 3 29 3,
 op1 31 (.binOp .eql 3 (.tmp 30) (.const (.int .i64 2)) 3) 4,
 mv 32 31 4,
 mk (some 33) (.fieldAddr 88 (.tmp 3) 0) 0 (some (3, true)),
 mk (some 34) (.load 3 (.tmp 33)) 3 (some (3, true)),
 mk (some 35) (.binOp .eql 3 (.tmp 34) (.const (.int .i64 2)) 3) 4 (some (3, true)),
 op1 36 (.pick (.tmp 32) (.tmp 35) (.const (.bool false))) 4,
 asn 28 36 4] fr st (.seq c98_12 k)) ∧
 evK gS fi98 c98_6 fr st k = condK gS fi98 (fr.op (.tmp 8)).bool? c98_7 c98_10 fr st k ∧
 (evK gS fi98 c98_4 fr st k = opsR gS fi98 [op1 9 (.fieldAddr 88 (.tmp 2) 0) 0,
 ld 10 3 9 3,
 op1 11 (.binOp .eql 3 (.tmp 10) (.const (.int .i64 1)) 3) 4,
 mv 12 11 4,
 mk (some 13) (.fieldAddr 88 (.tmp 3) 0) 0 (some (3, true)),
 mk (some 14) (.load 3 (.tmp 13)) 3 (some (3, true)),
 mk (some 15) (.binOp .eql 3 (.tmp 14) (.const (.int .i64 1)) 3) 4 (some (3, true)),
 op1 16 (.pick (.tmp 12) (.tmp 15) (.const (.bool false))) 4,
 asn 8 16 4] fr st (.seq c98_6 k)) ∧
 (evK gS fi98 c98_43 fr st k = opsR gS fi98 [op1 4 (.assign (.const (.int .i64 0))) 3,
 op1 5 (.assign (.const (.bool false))) 4] fr st (.seq .ret k)) ∧
 evK gS fi98 c98_2 fr st k = evK gS fi98 c98_4 fr st (.blk 0 (.seq c98_43 k)) ∧
 (evK gS fi98 c98_0 fr st k = opsR gS fi98 [op1 2 (.box 88 (.tmp 0)) 0,
 op1 3 (.box 88 (.tmp 1)) 0,
 op1 4 (.assign (.const (.int .i64 0))) 3,
 op1 5 (.assign (.const (.bool false))) 4] fr st (.seq c98_2 k)) := ⟨evK_rs 2 rfl (by kernel_rfl), evK_rs 4 rfl (by kernel_rfl), evK_rs 6 rfl (by kernel_rfl), evK_rs 9 rfl (by kernel_rfl), evK_rs 8 rfl (by kernel_rfl), evK_rs 11 rfl (by kernel_rfl), evK_rs 13 rfl (by kernel_rfl), rfl, evK_rs 12 rfl (by kernel_rfl), rfl, evK_rs 10 rfl (by kernel_rfl), rfl, evK_rs 7 rfl (by kernel_rfl), rfl, evK_rs 5 rfl (by kernel_rfl), rfl, evK_rs 3 rfl (by kernel_rfl), rfl, evK_rs 1 rfl (by kernel_rfl), evK_rs 14 rfl (by kernel_rfl), rfl, evK_rs 0 rfl (by kernel_rfl)⟩
theorem m98 : mini fi98.body = c98_0 := by kernel_rfl
set_option maxHeartbeats 4000000 in
theorem c98 (a : Val) (b : Val)  (st : St) : EvF gS 98 [a.enc, b.enc] st = some (.ret (.tuple [.int .i64 (cmp a b).1, .bool (cmp a b).2]) none, st) := by
  refine EvF_start fi75_eq (fun x h => by cases h) m98 ?_
  rw [st98]
  have hm : fi98.marks = [] := rfl
  have hl : fi98.locals = [2, 3] := rfl
  have hr : fi98.results = [.tmp 4, .tmp 5] := rfl
  simp (config := { contextual := true, maxSteps := 10000000, maxDischargeDepth := 6 }) [-Int.not_le, -Int.not_lt, -Nat.not_le, -Nat.not_lt, ty2, ty3, ty4, ty9, ty86, ty88, eq88, hm, hl, hr, k119, k120, k121, E98]
  all_goals try simp (config := { contextual := true }) [-Int.not_le, -Int.not_lt, -Nat.not_le, -Nat.not_lt, cmp, scmp]
  all_goals first | done | grind | omega | (trace_state; fail)
theorem k98 (a_k : Int) (a_n : Int) (a_x : Nat) (a_s : List UInt8) (a_b : Bool) (b_k : Int) (b_n : Int) (b_x : Nat) (b_s : List UInt8) (b_b : Bool)  (fr : Fr) (st : St) : callStep gS (EvF gS) 98 [.agg [.int .i64 a_k, .int .i64 a_n, .float .f64 a_x, .str a_s, .bool a_b], .agg [.int .i64 b_k, .int .i64 b_n, .float .f64 b_x, .str b_s, .bool b_b]] fr st = some (.ok (retE none (.tuple [.int .i64 (cmp (⟨a_k, a_n, a_x, a_s, a_b⟩ : Val) (⟨b_k, b_n, b_x, b_s, b_b⟩ : Val)).1, .bool (cmp (⟨a_k, a_n, a_x, a_s, a_b⟩ : Val) (⟨b_k, b_n, b_x, b_s, b_b⟩ : Val)).2])) fr st) :=
  call_pure rfl fi75_eq rfl (fun st => c98 (⟨a_k, a_n, a_x, a_s, a_b⟩ : Val) (⟨b_k, b_n, b_x, b_s, b_b⟩ : Val)  st) (by simp)
def fi100 : FI := { body := codeOf Try.f100, ntmps := 18, results := [.tmp 4], pers := [0, 1, 2, 3, 4, 5, 6], locals := [2, 3], pure := true, marks := [] }
theorem fi32_eq : gS.fn 100 = some fi100 := by kernel_rfl
theorem st100 (a0 a1 : V) : startFr fi100 [a0, a1] = { ps := [(0, .val a0), (1, .val a1), (2, .any), (3, .any), (4, .any), (5, .any), (6, .any)], ts := [], lc := [] } := rfl
def b100 : Code := mini (codeOf Try.f100)
def c100_4 : Code := .seq (codeN b100 11) .ret
theorem e100_4 : evK gS fi100 c100_4 fr st k = opsR gS fi100 [mv 13 6 4,
 mv 14 13 4,
 mk (some 15) (.move (.tmp 5)) 3 (some (1, true)),
 mk (some 16) (.binOp .eql 3 (.tmp 15) (.const (.int .i64 0)) 3) 4 (some (1, true)),
 op1 17 (.pick (.tmp 14) (.tmp 16) (.const (.bool false))) 4,
 asn 4 17 4] fr st (.seq .ret k) := evK_rs 2 rfl (by kernel_rfl)
def c100_2 : Code := .seq (codeN b100 5) c100_4
theorem e100_2 : evK gS fi100 c100_2 fr st k = opsR gS fi100 [ld 8 88 2 88,
 ld 9 88 3 88,
 cal 10 98 [(.tmp 8), (.tmp 9)] [88, 88] 125,
 mv 7 10 125,
 op1 11 (.extract (.tmp 7) 0) 3,
 op1 12 (.extract (.tmp 7) 1) 4,
 asn 5 11 3,
 asn 6 12 4] fr st (.seq c100_4 k) := evK_rs 1 rfl (by kernel_rfl)
def c100_0 : Code := .seq (codeN b100 2) c100_2
theorem e100_0 : evK gS fi100 c100_0 fr st k = opsR gS fi100 [op1 2 (.box 88 (.tmp 0)) 0,
 op1 3 (.box 88 (.tmp 1)) 0,
 op1 4 (.assign (.const (.bool false))) 4] fr st (.seq c100_2 k) := evK_rs 0 rfl (by kernel_rfl)
theorem m100 : mini fi100.body = c100_0 := by kernel_rfl
set_option maxHeartbeats 4000000 in
theorem c100 (a : Val) (b : Val)  (st : St) : EvF gS 100 [a.enc, b.enc] st = some (.ret (.bool (vis a b)) none, st) := by
  refine EvF_start fi32_eq (fun x h => by cases h) m100 ?_
  rw [st100]
  have hm : fi100.marks = [] := rfl
  have hl : fi100.locals = [2, 3] := rfl
  have hr : fi100.results = [.tmp 4] := rfl
  simp (config := { contextual := true, maxSteps := 10000000, maxDischargeDepth := 6 }) [-Int.not_le, -Int.not_lt, -Nat.not_le, -Nat.not_lt, ty3, ty4, ty88, eq88, hm, hl, hr, k98, e100_4, e100_2, e100_0]
  all_goals try simp (config := { contextual := true }) [-Int.not_le, -Int.not_lt, -Nat.not_le, -Nat.not_lt, vis]
  all_goals first | done | grind | omega | (trace_state; fail)
theorem k100 (a_k : Int) (a_n : Int) (a_x : Nat) (a_s : List UInt8) (a_b : Bool) (b_k : Int) (b_n : Int) (b_x : Nat) (b_s : List UInt8) (b_b : Bool)  (fr : Fr) (st : St) : callStep gS (EvF gS) 100 [.agg [.int .i64 a_k, .int .i64 a_n, .float .f64 a_x, .str a_s, .bool a_b], .agg [.int .i64 b_k, .int .i64 b_n, .float .f64 b_x, .str b_s, .bool b_b]] fr st = some (.ok (retE none (.bool (vis (⟨a_k, a_n, a_x, a_s, a_b⟩ : Val) (⟨b_k, b_n, b_x, b_s, b_b⟩ : Val)))) fr st) :=
  call_pure rfl fi32_eq rfl (fun st => c100 (⟨a_k, a_n, a_x, a_s, a_b⟩ : Val) (⟨b_k, b_n, b_x, b_s, b_b⟩ : Val)  st) (by simp)
def fi102 : FI := { body := codeOf Try.f102, ntmps := 38, results := [.tmp 4], pers := [0, 1, 2, 3, 4], locals := [2, 3], pure := true, marks := [] }
theorem fi81_eq : gS.fn 102 = some fi102 := by kernel_rfl
theorem st102 (a0 a1 : V) : startFr fi102 [a0, a1] = { ps := [(0, .val a0), (1, .val a1), (2, .any), (3, .any), (4, .any)], ts := [], lc := [] } := rfl
def b102 : Code := mini (codeOf Try.f102)
def c102_2 : Code := .seq (codeN b102 5) .ret
theorem e102_2 : evK gS fi102 c102_2 fr st k = opsR gS fi102 [op1 5 (.fieldAddr 88 (.tmp 2) 0) 0,
 ld 6 3 5 3,
 op1 7 (.fieldAddr 88 (.tmp 3) 0) 0,
 ld 8 3 7 3,
 bop 9 .eql 3 6 8 3 4,
 mv 10 9 4,
 mk (some 11) (.fieldAddr 88 (.tmp 2) 1) 0 (some (5, true)),
 mk (some 12) (.load 2 (.tmp 11)) 2 (some (5, true)),
 mk (some 13) (.fieldAddr 88 (.tmp 3) 1) 0 (some (5, true)),
 mk (some 14) (.load 2 (.tmp 13)) 2 (some (5, true)),
 mk (some 15) (.binOp .eql 2 (.tmp 12) (.tmp 14) 2) 4 (some (5, true)),
 op1 16 (.pick (.tmp 10) (.tmp 15) (.const (.bool false))) 4,
 mv 17 16 4,
 mk (some 18) (.fieldAddr 88 (.tmp 2) 3) 0 (some (12, true)),
 mk (some 19) (.load 9 (.tmp 18)) 9 (some (12, true)),
 mk (some 20) (.fieldAddr 88 (.tmp 3) 3) 0 (some (12, true)),
 mk (some 21) (.load 9 (.tmp 20)) 9 (some (12, true)),
 mk (some 22) (.binOp .eql 9 (.tmp 19) (.tmp 21) 9) 4 (some (12, true)),
 op1 23 (.pick (.tmp 17) (.tmp 22) (.const (.bool false))) 4,
 mv 24 23 4,
 mk (some 25) (.fieldAddr 88 (.tmp 2) 4) 0 (some (19, true)),
 mk (some 26) (.load 4 (.tmp 25)) 4 (some (19, true)),
 mk (some 27) (.fieldAddr 88 (.tmp 3) 4) 0 (some (19, true)),
 mk (some 28) (.load 4 (.tmp 27)) 4 (some (19, true)),
 mk (some 29) (.binOp .eql 4 (.tmp 26) (.tmp 28) 4) 4 (some (19, true)),
 op1 30 (.pick (.tmp 24) (.tmp 29) (.const (.bool false))) 4,
 mv 31 30 4,
 mk (some 32) (.fieldAddr 88 (.tmp 2) 2) 0 (some (26, true)),
 mk (some 33) (.load 86 (.tmp 32)) 86 (some (26, true)),
 mk (some 34) (.fieldAddr 88 (.tmp 3) 2) 0 (some (26, true)),
 mk (some 35) (.load 86 (.tmp 34)) 86 (some (26, true)),
 mk (some 36) (.call { callee := (.value (.func 122)), args := #[(.tmp 33), (.tmp 35)], argTypes := #[86, 86] }) 4 (some (26, true)),
 op1 37 (.pick (.tmp 31) (.tmp 36) (.const (.bool false))) 4,
 asn 4 37 4] fr st (.seq .ret k) := evK_rs 1 rfl (by kernel_rfl)
def c102_0 : Code := .seq (codeN b102 2) c102_2
theorem e102_0 : evK gS fi102 c102_0 fr st k = opsR gS fi102 [op1 2 (.box 88 (.tmp 0)) 0,
 op1 3 (.box 88 (.tmp 1)) 0,
 op1 4 (.assign (.const (.bool false))) 4] fr st (.seq c102_2 k) := evK_rs 0 rfl (by kernel_rfl)
theorem m102 : mini fi102.body = c102_0 := by kernel_rfl
set_option maxHeartbeats 4000000 in
theorem c102 (a : Val) (b : Val)  (st : St) : EvF gS 102 [a.enc, b.enc] st = some (.ret (.bool (vsame a b)) none, st) := by
  refine EvF_start fi81_eq (fun x h => by cases h) m102 ?_
  rw [st102]
  have hm : fi102.marks = [] := rfl
  have hl : fi102.locals = [2, 3] := rfl
  have hr : fi102.results = [.tmp 4] := rfl
  simp (config := { contextual := true, maxSteps := 10000000, maxDischargeDepth := 6 }) [-Int.not_le, -Int.not_lt, -Nat.not_le, -Nat.not_lt, ty2, ty3, ty4, ty9, ty86, ty88, eq88, hm, hl, hr, k122, e102_2, e102_0]
  all_goals try simp (config := { contextual := true }) [-Int.not_le, -Int.not_lt, -Nat.not_le, -Nat.not_lt, vsame]
  all_goals first | done | grind | omega | (trace_state; fail)
theorem k102 (a_k : Int) (a_n : Int) (a_x : Nat) (a_s : List UInt8) (a_b : Bool) (b_k : Int) (b_n : Int) (b_x : Nat) (b_s : List UInt8) (b_b : Bool)  (fr : Fr) (st : St) : callStep gS (EvF gS) 102 [.agg [.int .i64 a_k, .int .i64 a_n, .float .f64 a_x, .str a_s, .bool a_b], .agg [.int .i64 b_k, .int .i64 b_n, .float .f64 b_x, .str b_s, .bool b_b]] fr st = some (.ok (retE none (.bool (vsame (⟨a_k, a_n, a_x, a_s, a_b⟩ : Val) (⟨b_k, b_n, b_x, b_s, b_b⟩ : Val)))) fr st) :=
  call_pure rfl fi81_eq rfl (fun st => c102 (⟨a_k, a_n, a_x, a_s, a_b⟩ : Val) (⟨b_k, b_n, b_x, b_s, b_b⟩ : Val)  st) (by simp)
theorem x102 : gS.ext 102 = none := rfl
theorem p102 : fi102.pure = true := rfl
def fi117 : FI := { body := codeOf Try.f117, ntmps := 29, results := [.tmp 2], pers := [0, 1, 2, 3, 7], locals := [1, 3], pure := true, marks := [] }
theorem fi70_eq : gS.fn 117 = some fi117 := by kernel_rfl
theorem st117 (a0 : V) : startFr fi117 [a0] = { ps := [(0, .val a0), (1, .any), (2, .any), (3, .any), (7, .any)], ts := [], lc := [] } := rfl
def b117 : Code := mini (codeOf Try.f117)
def c117_13 : Code := codeN b117 343
def c117_17 : Code := codeN b117 1495
def c117_21 : Code := codeN b117 6103
def c117_25 : Code := codeN b117 24535
def c117_26 : Code := .seq (codeN b117 49111) .ret
def c117_24 : Code := .cond (.tmp 17) c117_25 c117_26
def c117_22 : Code := .seq (codeN b117 12247) c117_24
def c117_20 : Code := .cond (.tmp 14) c117_21 c117_22
def c117_18 : Code := .seq (codeN b117 3031) c117_20
def c117_16 : Code := .cond (.tmp 11) c117_17 c117_18
def c117_14 : Code := .seq (codeN b117 727) c117_16
def c117_12 : Code := .cond (.tmp 8) c117_13 c117_14
def c117_10 : Code := .seq (codeN b117 151) c117_12
def c117_9 : Code := .block 0 c117_10
def c117_7 : Code := .seq (codeN b117 39) c117_9
def c117_29 : Code := .seq (codeN b117 47) .ret
def c117_6 : Code := .seq c117_7 c117_29
def c117_4 : Code := .seq (codeN b117 11) c117_6
def c117_2 : Code := .seq (codeN b117 5) c117_4
def c117_0 : Code := .seq (codeN b117 2) c117_2
theorem E117 : (evK gS fi117 c117_13 fr st k = opsR gS fi117 [op1 10 (.fieldAddr 88 (.tmp 3) 1) 0,
 mk none (.store 2 (.tmp 10) (.const (.int .i64 0))) 0 none] fr st k) ∧
 (evK gS fi117 c117_17 fr st k = opsR gS fi117 [op1 13 (.fieldAddr 88 (.tmp 3) 2) 0,
 mk none (.store 86 (.tmp 13) (.const (.float .f64 0))) 0 none] fr st k) ∧
 (evK gS fi117 c117_21 fr st k = opsR gS fi117 [op1 16 (.fieldAddr 88 (.tmp 3) 3) 0,
 mk none (.store 9 (.tmp 16) (.const (.string { data := #[] }))) 0 none] fr st k) ∧
 (evK gS fi117 c117_25 fr st k = opsR gS fi117 [op1 19 (.fieldAddr 88 (.tmp 3) 4) 0,
 mk none (.store 4 (.tmp 19) (.const (.bool false))) 0 none] fr st k) ∧
 evK gS fi117 c117_26 fr st k = opsR gS fi117 [op1 2 (.assign (.const (.bool false))) 4] fr st (.seq .ret k) ∧
 evK gS fi117 c117_24 fr st k = condK gS fi117 (fr.op (.tmp 17)).bool? c117_25 c117_26 fr st k ∧
 (evK gS fi117 c117_22 fr st k = opsR gS fi117 [op1 18 (.binOp .eql 3 (.tmp 7) (.const (.int .i64 4)) 3) 4,
 asn 17 18 4] fr st (.seq c117_24 k)) ∧
 evK gS fi117 c117_20 fr st k = condK gS fi117 (fr.op (.tmp 14)).bool? c117_21 c117_22 fr st k ∧
 (evK gS fi117 c117_18 fr st k = opsR gS fi117 [op1 15 (.binOp .eql 3 (.tmp 7) (.const (.int .i64 3)) 3) 4,
 asn 14 15 4] fr st (.seq c117_20 k)) ∧
 evK gS fi117 c117_16 fr st k = condK gS fi117 (fr.op (.tmp 11)).bool? c117_17 c117_18 fr st k ∧
 (evK gS fi117 c117_14 fr st k = opsR gS fi117 [op1 12 (.binOp .eql 3 (.tmp 7) (.const (.int .i64 2)) 3) 4,
 asn 11 12 4] fr st (.seq c117_16 k)) ∧
 evK gS fi117 c117_12 fr st k = condK gS fi117 (fr.op (.tmp 8)).bool? c117_13 c117_14 fr st k ∧
 (evK gS fi117 c117_10 fr st k = opsR gS fi117 [op1 9 (.binOp .eql 3 (.tmp 7) (.const (.int .i64 1)) 3) 4,
 asn 8 9 4] fr st (.seq c117_12 k)) ∧
 evK gS fi117 c117_9 fr st k = evK gS fi117 c117_10 fr st (.blk 0 k) ∧
 (evK gS fi117 c117_7 fr st k = opsR gS fi117 [op1 6 (.fieldAddr 88 (.tmp 1) 0) 0,
 ld 7 3 6 3] fr st (.seq c117_9 k)) ∧
 (evK gS fi117 c117_29 fr st k = opsR gS fi117 [ld 20 88 3 88,
 op1 21 (.build 88 #[]) 88,
 bop 22 .eql 88 20 21 88 4,
 mv 23 22 4,
 mk (some 24) (.fieldAddr 88 (.tmp 1) 3) 0 (some (3, true)),
 mk (some 25) (.load 9 (.tmp 24)) 9 (some (3, true)),
 mk (some 26) (.call { callee := (.builtin .len), args := #[(.tmp 25)], argTypes := #[9] }) 3 (some (3, true)),
 mk (some 27) (.binOp .leq 3 (.tmp 26) (.const (.int .i64 12)) 3) 4 (some (3, true)),
 op1 28 (.pick (.tmp 23) (.tmp 27) (.const (.bool false))) 4,
 asn 2 28 4] fr st (.seq .ret k)) ∧
 evK gS fi117 c117_6 fr st k = evK gS fi117 c117_7 fr st (.seq c117_29 k) ∧
 (evK gS fi117 c117_4 fr st k = opsR gS fi117 [op1 5 (.fieldAddr 88 (.tmp 3) 0) 0,
 mk none (.store 3 (.tmp 5) (.const (.int .i64 0))) 0 none] fr st (.seq c117_6 k)) ∧
 (evK gS fi117 c117_2 fr st k = opsR gS fi117 [ld 4 88 1 88,
 op1 3 (.alloc 88) 0,
 sto 88 3 4] fr st (.seq c117_4 k)) ∧
 (evK gS fi117 c117_0 fr st k = opsR gS fi117 [op1 1 (.box 88 (.tmp 0)) 0,
 op1 2 (.assign (.const (.bool false))) 4] fr st (.seq c117_2 k)) := ⟨evK_r 6 (by kernel_rfl), evK_r 8 (by kernel_rfl), evK_r 10 (by kernel_rfl), evK_r 12 (by kernel_rfl), evK_rs 4 rfl (by kernel_rfl), rfl, evK_rs 11 rfl (by kernel_rfl), rfl, evK_rs 9 rfl (by kernel_rfl), rfl, evK_rs 7 rfl (by kernel_rfl), rfl, evK_rs 5 rfl (by kernel_rfl), rfl, evK_rs 3 rfl (by kernel_rfl), evK_rs 13 rfl (by kernel_rfl), rfl, evK_rs 2 rfl (by kernel_rfl), evK_rs 1 rfl (by kernel_rfl), evK_rs 0 rfl (by kernel_rfl)⟩
theorem m117 : mini fi117.body = c117_0 := by kernel_rfl
set_option maxHeartbeats 4000000 in
theorem c117 (v : Val)  (st : St) : EvF gS 117 [v.enc] st = some (.ret (.bool (vright v)) none, st) := by
  refine EvF_start fi70_eq (fun x h => by cases h) m117 ?_
  rw [st117]
  have hm : fi117.marks = [] := rfl
  have hl : fi117.locals = [1, 3] := rfl
  have hr : fi117.results = [.tmp 2] := rfl
  simp (config := { contextual := true, maxSteps := 10000000, maxDischargeDepth := 6 }) [-Int.not_le, -Int.not_lt, -Nat.not_le, -Nat.not_lt, ty2, ty3, ty4, ty9, ty86, ty88, eq88, hm, hl, hr, E117]
  all_goals try simp (config := { contextual := true }) [-Int.not_le, -Int.not_lt, -Nat.not_le, -Nat.not_lt, vright, opq]
  all_goals first | done | grind | omega | (trace_state; fail)
theorem k117 (v_k : Int) (v_n : Int) (v_x : Nat) (v_s : List UInt8) (v_b : Bool)  (fr : Fr) (st : St) : callStep gS (EvF gS) 117 [.agg [.int .i64 v_k, .int .i64 v_n, .float .f64 v_x, .str v_s, .bool v_b]] fr st = some (.ok (retE none (.bool (vright (⟨v_k, v_n, v_x, v_s, v_b⟩ : Val)))) fr st) :=
  call_pure rfl fi70_eq rfl (fun st => c117 (⟨v_k, v_n, v_x, v_s, v_b⟩ : Val)  st) (by simp)
def fi116 : FI := { body := codeOf Try.f116, ntmps := 6, results := [.tmp 2], pers := [0, 1, 2], locals := [1], pure := true, marks := [] }
theorem fi69_eq : gS.fn 116 = some fi116 := by kernel_rfl
theorem st116 (a0 : V) : startFr fi116 [a0] = { ps := [(0, .val a0), (1, .any), (2, .any)], ts := [], lc := [] } := rfl
def b116 : Code := mini (codeOf Try.f116)
def c116_2 : Code := .seq (codeN b116 5) .ret
theorem e116_2 : evK gS fi116 c116_2 fr st k = opsR gS fi116 [ld 3 88 1 88,
 op1 4 (.build 88 #[]) 88,
 cal 5 102 [(.tmp 3), (.tmp 4)] [88, 88] 4,
 asn 2 5 4] fr st (.seq .ret k) := evK_rs 1 rfl (by kernel_rfl)
def c116_0 : Code := .seq (codeN b116 2) c116_2
theorem e116_0 : evK gS fi116 c116_0 fr st k = opsR gS fi116 [op1 1 (.box 88 (.tmp 0)) 0,
 op1 2 (.assign (.const (.bool false))) 4] fr st (.seq c116_2 k) := evK_rs 0 rfl (by kernel_rfl)
theorem m116 : mini fi116.body = c116_0 := by kernel_rfl
set_option maxHeartbeats 4000000 in
theorem c116 (v : Val)  (st : St) : EvF gS 116 [v.enc] st = some (.ret (.bool (vsame v vzero)) none, st) := by
  refine EvF_start fi69_eq (fun x h => by cases h) m116 ?_
  rw [st116]
  have hm : fi116.marks = [] := rfl
  have hl : fi116.locals = [1] := rfl
  have hr : fi116.results = [.tmp 2] := rfl
  simp (config := { contextual := true, maxSteps := 10000000, maxDischargeDepth := 6 }) [-Int.not_le, -Int.not_lt, -Nat.not_le, -Nat.not_lt, ty4, ty88, eq88, hm, hl, hr, k102, e116_2, e116_0]
  all_goals try simp (config := { contextual := true }) [-Int.not_le, -Int.not_lt, -Nat.not_le, -Nat.not_lt, vzero]
  all_goals first | done | grind | omega | (trace_state; fail)
theorem k116 (v_k : Int) (v_n : Int) (v_x : Nat) (v_s : List UInt8) (v_b : Bool)  (fr : Fr) (st : St) : callStep gS (EvF gS) 116 [.agg [.int .i64 v_k, .int .i64 v_n, .float .f64 v_x, .str v_s, .bool v_b]] fr st = some (.ok (retE none (.bool (vsame (⟨v_k, v_n, v_x, v_s, v_b⟩ : Val) vzero))) fr st) :=
  call_pure rfl fi69_eq rfl (fun st => c116 (⟨v_k, v_n, v_x, v_s, v_b⟩ : Val)  st) (by simp)
def fi99 : FI := { body := codeOf Try.f99, ntmps := 18, results := [.tmp 4], pers := [0, 1, 4], locals := [], pure := true, marks := [] }
theorem fi76_eq : gS.fn 99 = some fi99 := by kernel_rfl
theorem st99 (a0 a1 : V) : startFr fi99 [a0, a1] = { ps := [(0, .val a0), (1, .val a1), (4, .any)], ts := [], lc := [] } := rfl
def b99 : Code := mini (codeOf Try.f99)
def c99_2 : Code := .seq (codeN b99 5) .ret
theorem e99_2 : evK gS fi99 c99_2 fr st k = opsR gS fi99 [mv 5 0 9,
 len1 6 5 9 3,
 mv 7 1 9,
 len1 8 7 9 3,
 bop 9 .geq 3 6 8 3 4,
 mv 10 9 4,
 mk (some 11) (.move (.tmp 0)) 9 (some (5, true)),
 mk (some 12) (.move (.tmp 1)) 9 (some (5, true)),
 mk (some 13) (.call { callee := (.builtin .len), args := #[(.tmp 12)], argTypes := #[9] }) 3 (some (5, true)),
 mk (some 14) (.slice 9 (.tmp 11) none (some (.tmp 13)) none) 9 (some (5, true)),
 mk (some 15) (.move (.tmp 1)) 9 (some (5, true)),
 mk (some 16) (.binOp .eql 9 (.tmp 14) (.tmp 15) 9) 4 (some (5, true)),
 op1 17 (.pick (.tmp 10) (.tmp 16) (.const (.bool false))) 4,
 asn 4 17 4] fr st (.seq .ret k) := evK_rs 1 rfl (by kernel_rfl)
def c99_0 : Code := .seq (codeN b99 2) c99_2
theorem e99_0 : evK gS fi99 c99_0 fr st k = opsR gS fi99 [op1 4 (.assign (.const (.bool false))) 4] fr st (.seq c99_2 k) := evK_rs 0 rfl (by kernel_rfl)
theorem m99 : mini fi99.body = c99_0 := by kernel_rfl
set_option maxHeartbeats 4000000 in
theorem c99 (s : List UInt8) (t : List UInt8)  (st : St) : EvF gS 99 [.str s, .str t] st = some (.ret (.bool (isPre s t)) none, st) := by
  refine EvF_start fi76_eq (fun x h => by cases h) m99 ?_
  rw [st99]
  have hm : fi99.marks = [] := rfl
  have hl : fi99.locals = [] := rfl
  have hr : fi99.results = [.tmp 4] := rfl
  simp (config := { contextual := true, maxSteps := 10000000, maxDischargeDepth := 6 }) [-Int.not_le, -Int.not_lt, -Nat.not_le, -Nat.not_lt, ty3, ty4, ty9, hm, hl, hr, e99_2, e99_0]
  all_goals try simp (config := { contextual := true }) [-Int.not_le, -Int.not_lt, -Nat.not_le, -Nat.not_lt, isPre]
  all_goals first | done | grind | omega | (trace_state; fail)
theorem k99 (s : List UInt8) (t : List UInt8)  (fr : Fr) (st : St) : callStep gS (EvF gS) 99 [.str s, .str t] fr st = some (.ok (retE none (.bool (isPre s t))) fr st) :=
  call_pure rfl fi76_eq rfl (fun st => c99 s t  st) (by simp)
end
end Go.Proofs.Ytdoobejjedpcgaa
namespace Go.Proofs.Ytdoobejjedpcgaa
open Go Go.Ab
set_option linter.unusedVariables false
set_option linter.unusedSimpArgs false
set_option linter.unnecessarySimpa false
set_option maxRecDepth 20000
noncomputable section
variable (fr : Fr) (st : St) (k : Kt)
def fi115 : FI := { body := codeOf Try.f115, ntmps := 28, results := [.tmp 2], pers := [0, 2, 3], locals := [], pure := true, marks := [] }
theorem fi68_eq : gS.fn 115 = some fi115 := by kernel_rfl
theorem st115 (a0 : V) : startFr fi115 [a0] = { ps := [(0, .val a0), (2, .any), (3, .any)], ts := [], lc := [] } := rfl
def b115 : Code := mini (codeOf Try.f115)
def c115_10 : Code := .cond (.tmp 7) .skip (.exit 0)
def c115_8 : Code := .seq (codeN b115 133) c115_10
def c115_18 : Code := .seq (codeN b115 2341) .ret
def c115_17 : Code := .cond (.tmp 19) c115_18 .skip
def c115_15 : Code := .seq (codeN b115 549) c115_17
def c115_22 : Code := codeN b115 229
def c115_13 : Code := .seq (.block 1 c115_15) c115_22
def c115_7 : Code := .seq c115_8 c115_13
def c115_6 : Code := .loop c115_7
def c115_5 : Code := .block 0 c115_6
def c115_3 : Code := .seq (codeN b115 9) c115_5
def c115_23 : Code := .seq (codeN b115 11) .ret
def c115_2 : Code := .seq c115_3 c115_23
def c115_0 : Code := .seq (codeN b115 2) c115_2
theorem E115 : evK gS fi115 c115_10 fr st k = condK gS fi115 (fr.op (.tmp 7)).bool? .skip (.exit 0) fr st k ∧
 (evK gS fi115 c115_8 fr st k = opsR gS fi115 [mv 4 3 3,
 mv 5 0 9,
 len1 6 5 9 3,
 bop 7 .lss 3 4 6 3 4] fr st (.seq c115_10 k)) ∧
 evK gS fi115 c115_18 fr st k = opsR gS fi115 [op1 2 (.assign (.const (.bool false))) 4] fr st (.seq .ret k) ∧
 evK gS fi115 c115_17 fr st k = condK gS fi115 (fr.op (.tmp 19)).bool? c115_18 .skip fr st k ∧
 (evK gS fi115 c115_15 fr st k = opsR gS fi115 [mv 10 0 9,
 mv 11 3 3,
 op1 12 (.index 9 (.tmp 10) (.tmp 11)) 5,
 op1 13 (.binOp .lss 5 (.tmp 12) (.const (.int .u8 97)) 5) 4,
 mv 14 13 4,
 mk (some 15) (.move (.tmp 0)) 9 (some (4, false)),
 mk (some 16) (.move (.tmp 3)) 3 (some (4, false)),
 mk (some 17) (.index 9 (.tmp 15) (.tmp 16)) 5 (some (4, false)),
 mk (some 18) (.binOp .gtr 5 (.tmp 17) (.const (.int .u8 122)) 5) 4 (some (4, false)),
 op1 19 (.pick (.tmp 14) (.const (.bool true)) (.tmp 18)) 4] fr st (.seq c115_17 k)) ∧
 (evK gS fi115 c115_22 fr st k = opsR gS fi115 [mv 8 3 3,
 op1 9 (.binOp .add 3 (.tmp 8) (.const (.int .i64 1)) 3) 3,
 asn 3 9 3] fr st k) ∧
 evK gS fi115 c115_13 fr st k = evK gS fi115 c115_15 fr st (.blk 1 (.seq c115_22 k)) ∧
 evK gS fi115 c115_7 fr st k = evK gS fi115 c115_8 fr st (.seq c115_13 k) ∧
 evK gS fi115 c115_5 fr st k = evK gS fi115 c115_6 fr st (.blk 0 k) ∧
 evK gS fi115 c115_3 fr st k = opsR gS fi115 [op1 3 (.assign (.const (.int .i64 0))) 3] fr st (.seq c115_5 k) ∧
 (evK gS fi115 c115_23 fr st k = opsR gS fi115 [mv 20 0 9,
 len1 21 20 9 3,
 op1 22 (.binOp .geq 3 (.tmp 21) (.const (.int .i64 1)) 3) 4,
 mv 23 22 4,
 mk (some 24) (.move (.tmp 0)) 9 (some (3, true)),
 mk (some 25) (.call { callee := (.builtin .len), args := #[(.tmp 24)], argTypes := #[9] }) 3 (some (3, true)),
 mk (some 26) (.binOp .leq 3 (.tmp 25) (.const (.int .i64 6)) 3) 4 (some (3, true)),
 op1 27 (.pick (.tmp 23) (.tmp 26) (.const (.bool false))) 4,
 asn 2 27 4] fr st (.seq .ret k)) ∧
 evK gS fi115 c115_2 fr st k = evK gS fi115 c115_3 fr st (.seq c115_23 k) ∧
 evK gS fi115 c115_0 fr st k = opsR gS fi115 [op1 2 (.assign (.const (.bool false))) 4] fr st (.seq c115_2 k) := ⟨rfl, evK_rs 2 rfl (by kernel_rfl), evK_rs 5 rfl (by kernel_rfl), rfl, evK_rs 4 rfl (by kernel_rfl), evK_r 3 (by kernel_rfl), rfl, rfl, rfl, evK_rs 1 rfl (by kernel_rfl), evK_rs 6 rfl (by kernel_rfl), rfl, evK_rs 0 rfl (by kernel_rfl)⟩
theorem m115 : mini fi115.body = c115_0 := by kernel_rfl
theorem n115_6 (fr : Fr) (st : St) (k : Kt) : nextK gS fi115 (.loop c115_7 k) .normal fr st = evK gS fi115 c115_6 fr st k := rfl
set_option maxHeartbeats 4000000 in
theorem L115_6 (s : List UInt8) (h_s : s.length < 4611686018427387904) (st : St) : ∀ (n i : Nat) (j : Int)  (e2 : E) (T : List (Nat × E)) (X : List (Nat × List V)) (ht2 : e2.Tame) , j = (i : Int) → i ≤ (s).length → (s).length - i = n →
    evK gS fi115 c115_6 { ps := [(0, .val (.str s)), (2, e2), (3, .val (.int .i64 j))], ts := T, lc := X } st (.blk 0 (.seq c115_23 .nil)) = some ((.ret (.bool ((s.drop i).all (fun c => !decide (c.toNat < 97) && !decide (122 < c.toNat)) && (decide (1 ≤ s.length) && decide (s.length ≤ 6)))) none), st) := by
  intro n
  have hm : fi115.marks = [] := rfl
  have hl : fi115.locals = [] := rfl
  have hr : fi115.results = [.tmp 2] := rfl
  induction n with
  | zero =>
    intro i j  e2 T X ht2  hj hi hn
    obtain rfl : i = (s).length := by omega
    subst hj
    refine evK_loop c115_7 _ st _ _ rfl ?_
    simp (config := { contextual := true, maxSteps := 10000000, maxDischargeDepth := 6 }) [-Int.not_le, -Int.not_lt, -Nat.not_le, -Nat.not_lt, ty3, ty4, ty5, ty9, hm, hl, hr, E115, n115_6, ht2]
    all_goals first | done | grind | omega | (trace_state; fail)
  | succ n ih =>
    intro i j  e2 T X ht2  hj hi hn
    subst hj
    obtain ⟨x, hx⟩ : ∃ x, (s)[i]? = some x := ⟨(s)[i]'(by omega), List.getElem?_eq_getElem (by omega)⟩
    have hd := drop_get hx
    have hlt : (i : Int) < ((s).length : Int) := by omega
    have hlt2 : i < (s).length := by omega
    have hxe : (s)[i]'hlt2 = x := by rw [List.getElem?_eq_getElem hlt2] at hx; exact Option.some.inj hx
    have hw : IntKind.wrap .i64 ((i : Int) + 1) = (i : Int) + 1 := wrap64 (by omega) (by omega)
    have IH := fun e2 T X ht2 => ih (i + 1) ((i : Int) + 1) e2 T X ht2 rfl (by omega) (by omega)
    refine evK_loop c115_7 _ st _ _ rfl ?_
    simp (config := { contextual := true, maxSteps := 10000000, maxDischargeDepth := 6 }) [-Int.not_le, -Int.not_lt, -Nat.not_le, -Nat.not_lt, ty3, ty4, ty5, ty9, hm, hl, hr, E115, n115_6, ht2, hx, hxe, hd, hlt, hlt2, hw, IH]
    all_goals first | done | grind | omega | (trace_state; fail)
set_option maxHeartbeats 4000000 in
theorem c115 (s : List UInt8) (h_s : s.length < 4611686018427387904) (st : St) : EvF gS 115 [.str s] st = some (.ret (.bool (isWord s)) none, st) := by
  refine EvF_start fi68_eq (fun x h => by cases h) m115 ?_
  rw [st115]
  have hm : fi115.marks = [] := rfl
  have hl : fi115.locals = [] := rfl
  have hr : fi115.results = [.tmp 2] := rfl
  simp (config := { contextual := true, maxSteps := 10000000, maxDischargeDepth := 6 }) [-Int.not_le, -Int.not_lt, -Nat.not_le, -Nat.not_lt, ty3, ty4, ty5, ty9, hm, hl, hr, E115, n115_6, (fun e2 T X ht2 => L115_6 s h_s st _ 0 0  e2 T X ht2 rfl (Nat.zero_le _) rfl)]
  all_goals try simp (config := { contextual := true }) [-Int.not_le, -Int.not_lt, -Nat.not_le, -Nat.not_lt, isWord]
  all_goals first | done | grind | omega | (trace_state; fail)
theorem k115 (s : List UInt8) (h_s : s.length < 4611686018427387904) (fr : Fr) (st : St) : callStep gS (EvF gS) 115 [.str s] fr st = some (.ok (retE none (.bool (isWord s))) fr st) :=
  call_pure rfl fi68_eq rfl (fun st => c115 s h_s st) (by simp)
def fi118 : FI := { body := codeOf Try.f118, ntmps := 15, results := [.tmp 2], pers := [0, 2, 4, 5, 6, 7], locals := [4], pure := true, marks := [] }
theorem fi71_eq : gS.fn 118 = some fi118 := by kernel_rfl
theorem st118 (a0 : V) : startFr fi118 [a0] = { ps := [(0, .val a0), (2, .any), (4, .any), (5, .any), (6, .any), (7, .any)], ts := [], lc := [] } := rfl
def b118 : Code := mini (codeOf Try.f118)
def c118_20 : Code := .seq (codeN b118 9829) .ret
def c118_19 : Code := .cond (.tmp 13) c118_20 .skip
def c118_17 : Code := .seq (codeN b118 2661) c118_19
def c118_15 : Code := .seq (codeN b118 1125) c118_17
def c118_24 : Code := codeN b118 485
def c118_13 : Code := .seq (.block 1 c118_15) c118_24
def c118_9 : Code := .seq (.cond (.tmp 8) .skip (.exit 0)) c118_13
def c118_7 : Code := .seq (codeN b118 69) c118_9
def c118_6 : Code := .loop c118_7
def c118_5 : Code := .block 0 c118_6
def c118_3 : Code := .seq (codeN b118 9) c118_5
def c118_25 : Code := .seq (codeN b118 11) .ret
def c118_2 : Code := .seq c118_3 c118_25
def c118_0 : Code := .seq (codeN b118 2) c118_2
theorem E118 : evK gS fi118 c118_20 fr st k = opsR gS fi118 [op1 2 (.assign (.const (.bool false))) 4] fr st (.seq .ret k) ∧
 evK gS fi118 c118_19 fr st k = condK gS fi118 (fr.op (.tmp 13)).bool? c118_20 .skip fr st k ∧
 (evK gS fi118 c118_17 fr st k = opsR gS fi118 [ld 11 88 4 88,
 cal 12 117 [(.tmp 11)] [88] 4,
 op1 13 (.unOp .not 4 (.tmp 12)) 4] fr st (.seq c118_19 k)) ∧
 (evK gS fi118 c118_15 fr st k = opsR gS fi118 [ixa 9 89 5 7 0,
 ld 10 88 9 88,
 op1 4 (.alloc 88) 0,
 sto 88 4 10] fr st (.seq c118_17 k)) ∧
 (evK gS fi118 c118_24 fr st k = opsR gS fi118 [op1 14 (.binOp .add 3 (.tmp 7) (.const (.int .i64 1)) 3) 3,
 mv 7 14 3] fr st k) ∧
 evK gS fi118 c118_13 fr st k = evK gS fi118 c118_15 fr st (.blk 1 (.seq c118_24 k)) ∧
 evK gS fi118 c118_9 fr st k = condK gS fi118 (fr.op (.tmp 8)).bool? .skip (.exit 0) fr st (.seq c118_13 k) ∧
 evK gS fi118 c118_7 fr st k = opsR gS fi118 [bop 8 .lss 3 7 6 3 0] fr st (.seq c118_9 k) ∧
 evK gS fi118 c118_5 fr st k = evK gS fi118 c118_6 fr st (.blk 0 k) ∧
 (evK gS fi118 c118_3 fr st k = opsR gS fi118 [mv 5 0 89,
 len1 6 5 89 3,
 op1 7 (.move (.const (.int .i64 0))) 3] fr st (.seq c118_5 k)) ∧
 evK gS fi118 c118_25 fr st k = opsR gS fi118 [op1 2 (.assign (.const (.bool true))) 4] fr st (.seq .ret k) ∧
 evK gS fi118 c118_2 fr st k = evK gS fi118 c118_3 fr st (.seq c118_25 k) ∧
 evK gS fi118 c118_0 fr st k = opsR gS fi118 [op1 2 (.assign (.const (.bool false))) 4] fr st (.seq c118_2 k) := ⟨evK_rs 5 rfl (by kernel_rfl), rfl, evK_rs 4 rfl (by kernel_rfl), evK_rs 3 rfl (by kernel_rfl), evK_r 6 (by kernel_rfl), rfl, rfl, evK_rs 2 rfl (by kernel_rfl), rfl, evK_rs 1 rfl (by kernel_rfl), evK_rs 7 rfl (by kernel_rfl), rfl, evK_rs 0 rfl (by kernel_rfl)⟩
theorem m118 : mini fi118.body = c118_0 := by kernel_rfl
theorem n118_6 (fr : Fr) (st : St) (k : Kt) : nextK gS fi118 (.loop c118_7 k) .normal fr st = evK gS fi118 c118_6 fr st k := rfl
set_option maxHeartbeats 4000000 in
theorem L118_6 (l : List Val) (h_l : l.length < 4611686018427387904) (st : St) : ∀ (n i : Nat) (j : Int)  (e0 e2 e4 : E) (T : List (Nat × E)) (X : List (Nat × List V)) (ht0 : e0.Tame) (ht2 : e2.Tame) (ht4 : e4.Tame) , j = (i : Int) → i ≤ (l).length → (l).length - i = n →
    evK gS fi118 c118_6 { ps := [(0, e0), (2, e2), (4, e4), (5, .val (.slice (encVals l))), (6, .val (.int .i64 l.length)), (7, .val (.int .i64 j))], ts := T, lc := X } st (.blk 0 (.seq c118_25 .nil)) = some ((.ret (.bool ((l.drop i).all vright)) none), st) := by
  intro n
  have hm : fi118.marks = [] := rfl
  have hl : fi118.locals = [4] := rfl
  have hr : fi118.results = [.tmp 2] := rfl
  induction n with
  | zero =>
    intro i j  e0 e2 e4 T X ht0 ht2 ht4  hj hi hn
    obtain rfl : i = (l).length := by omega
    subst hj
    refine evK_loop c118_7 _ st _ _ rfl ?_
    simp (config := { contextual := true, maxSteps := 10000000, maxDischargeDepth := 6 }) [-Int.not_le, -Int.not_lt, -Nat.not_le, -Nat.not_lt, ty3, ty4, ty88, ty89, eq88, hm, hl, hr, k117, E118, n118_6, ht0, ht2, ht4]
    all_goals first | done | grind | omega | (trace_state; fail)
  | succ n ih =>
    intro i j  e0 e2 e4 T X ht0 ht2 ht4  hj hi hn
    subst hj
    obtain ⟨x, hx⟩ : ∃ x, (l)[i]? = some x := ⟨(l)[i]'(by omega), List.getElem?_eq_getElem (by omega)⟩
    have hd := drop_get hx
    have hlt : (i : Int) < ((l).length : Int) := by omega
    have hlt2 : i < (l).length := by omega
    have hxe : (l)[i]'hlt2 = x := by rw [List.getElem?_eq_getElem hlt2] at hx; exact Option.some.inj hx
    have hw : IntKind.wrap .i64 ((i : Int) + 1) = (i : Int) + 1 := wrap64 (by omega) (by omega)
    have IH := fun e0 e2 e4 T X ht0 ht2 ht4 => ih (i + 1) ((i : Int) + 1) e0 e2 e4 T X ht0 ht2 ht4 rfl (by omega) (by omega)
    refine evK_loop c118_7 _ st _ _ rfl ?_
    simp (config := { contextual := true, maxSteps := 10000000, maxDischargeDepth := 6 }) [-Int.not_le, -Int.not_lt, -Nat.not_le, -Nat.not_lt, ty3, ty4, ty88, ty89, eq88, hm, hl, hr, k117, E118, n118_6, ht0, ht2, ht4, hx, hxe, hd, hlt, hlt2, hw, IH]
    all_goals first | done | grind | omega | (trace_state; fail)
set_option maxHeartbeats 4000000 in
theorem c118 (l : List Val) (h_l : l.length < 4611686018427387904) (st : St) : EvF gS 118 [.slice (encVals l)] st = some (.ret (.bool (l.all vright)) none, st) := by
  refine EvF_start fi71_eq (fun x h => by cases h) m118 ?_
  rw [st118]
  have hm : fi118.marks = [] := rfl
  have hl : fi118.locals = [4] := rfl
  have hr : fi118.results = [.tmp 2] := rfl
  simp (config := { contextual := true, maxSteps := 10000000, maxDischargeDepth := 6 }) [-Int.not_le, -Int.not_lt, -Nat.not_le, -Nat.not_lt, ty3, ty4, ty88, ty89, eq88, hm, hl, hr, k117, E118, n118_6, (fun e0 e2 e4 T X ht0 ht2 ht4 => L118_6 l h_l st _ 0 0  e0 e2 e4 T X ht0 ht2 ht4 rfl (Nat.zero_le _) rfl)]
  all_goals first | done | grind | omega | (trace_state; fail)
theorem k118 (l : List Val) (h_l : l.length < 4611686018427387904) (fr : Fr) (st : St) : callStep gS (EvF gS) 118 [.slice (encVals l)] fr st = some (.ok (retE none (.bool (l.all vright))) fr st) :=
  call_pure rfl fi71_eq rfl (fun st => c118 l h_l st) (by simp)
end
end Go.Proofs.Ytdoobejjedpcgaa
namespace Go.Proofs.Ytdoobejjedpcgaa
open Go Go.Ab
set_option linter.unusedVariables false
set_option linter.unusedSimpArgs false
set_option linter.unnecessarySimpa false
set_option maxRecDepth 20000
noncomputable section
variable (fr : Fr) (st : St) (k : Kt)
def fi97 : FI := { body := codeOf Try.f97, ntmps := 111, results := [.tmp 2], pers := [0, 1, 2, 8, 25], locals := [1], pure := true, marks := [] }
theorem fi19_eq : gS.fn 97 = some fi97 := by kernel_rfl
theorem st97 (a0 : V) : startFr fi97 [a0] = { ps := [(0, .val a0), (1, .any), (2, .any), (8, .any), (25, .any)], ts := [], lc := [] } := rfl
def b97 : Code := mini (codeOf Try.f97)
def c97_6 : Code := .seq (codeN b97 37) .ret
def c97_5 : Code := .cond (.tmp 6) c97_6 .skip
def c97_3 : Code := .seq (codeN b97 9) c97_5
def c97_17 : Code := .seq (codeN b97 299) .ret
def c97_41 : Code := codeN b97 524139
def c97_39 : Code := .cond (.tmp 25) .skip c97_41
def c97_37 : Code := .seq (codeN b97 196459) c97_39
def c97_35 : Code := .cond (.tmp 25) .skip c97_37
def c97_33 : Code := .seq (codeN b97 49003) c97_35
def c97_31 : Code := .cond (.tmp 25) .skip c97_33
def c97_29 : Code := .seq (codeN b97 12139) c97_31
def c97_27 : Code := .cond (.tmp 25) .skip c97_29
def c97_25 : Code := .seq (codeN b97 2923) c97_27
def c97_23 : Code := .cond (.tmp 25) .skip c97_25
def c97_21 : Code := .seq (codeN b97 619) c97_23
def c97_43 : Code := .seq (codeN b97 1259) .ret
def c97_49 : Code := .seq (codeN b97 5099) .ret
def c97_55 : Code := .seq (codeN b97 20459) .ret
def c97_61 : Code := .seq (codeN b97 81899) .ret
def c97_60 : Code := .cond (.tmp 84) c97_61 .skip
def c97_58 : Code := .seq (codeN b97 24555) c97_60
def c97_54 : Code := .cond (.tmp 62) c97_55 c97_58
def c97_52 : Code := .seq (codeN b97 6123) c97_54
def c97_48 : Code := .cond (.tmp 46) c97_49 c97_52
def c97_46 : Code := .seq (codeN b97 1515) c97_48
def c97_42 : Code := .cond (.tmp 25) c97_43 c97_46
def c97_20 : Code := .seq c97_21 c97_42
def c97_16 : Code := .cond (.tmp 9) c97_17 c97_20
def c97_14 : Code := .seq (codeN b97 75) c97_16
def c97_13 : Code := .block 0 c97_14
def c97_11 : Code := .seq (codeN b97 19) c97_13
def c97_65 : Code := .seq (codeN b97 23) .ret
def c97_10 : Code := .seq c97_11 c97_65
def c97_2 : Code := .seq c97_3 c97_10
def c97_0 : Code := .seq (codeN b97 2) c97_2
theorem E97 : evK gS fi97 c97_6 fr st k = opsR gS fi97 [op1 2 (.assign (.const (.bool false))) 4] fr st (.seq .ret k) ∧
 evK gS fi97 c97_5 fr st k = condK gS fi97 (fr.op (.tmp 6)).bool? c97_6 .skip fr st k ∧
 (evK gS fi97 c97_3 fr st k = opsR gS fi97 [op1 3 (.fieldAddr 91 (.tmp 1) 0) 0,
 ld 4 9 3 9,
 cal 5 115 [(.tmp 4)] [9] 4,
 op1 6 (.unOp .not 4 (.tmp 5)) 4] fr st (.seq c97_5 k)) ∧
 (evK gS fi97 c97_17 fr st k = opsR gS fi97 [op1 11 (.fieldAddr 91 (.tmp 1) 2) 0,
 ld 12 88 11 88,
 cal 13 116 [(.tmp 12)] [88] 4,
 mv 14 13 4,
 mk (some 15) (.fieldAddr 91 (.tmp 1) 3) 0 (some (3, true)),
 mk (some 16) (.load 88 (.tmp 15)) 88 (some (3, true)),
 mk (some 17) (.call { callee := (.value (.func 116)), args := #[(.tmp 16)], argTypes := #[88] }) 4 (some (3, true)),
 op1 18 (.pick (.tmp 14) (.tmp 17) (.const (.bool false))) 4,
 mv 19 18 4,
 mk (some 20) (.fieldAddr 91 (.tmp 1) 4) 0 (some (8, true)),
 mk (some 21) (.load 89 (.tmp 20)) 89 (some (8, true)),
 mk (some 22) (.call { callee := (.builtin .len), args := #[(.tmp 21)], argTypes := #[89] }) 3 (some (8, true)),
 mk (some 23) (.binOp .eql 3 (.tmp 22) (.const (.int .i64 0)) 3) 4 (some (8, true)),
 op1 24 (.pick (.tmp 19) (.tmp 23) (.const (.bool false))) 4,
 asn 2 24 4] fr st (.seq .ret k)) ∧
 (evK gS fi97 c97_41 fr st k = opsR gS fi97 [op1 31 (.binOp .eql 3 (.tmp 8) (.const (.int .i64 7)) 3) 4,
 asn 25 31 4] fr st k) ∧
 evK gS fi97 c97_39 fr st k = condK gS fi97 (fr.op (.tmp 25)).bool? .skip c97_41 fr st k ∧
 (evK gS fi97 c97_37 fr st k = opsR gS fi97 [op1 30 (.binOp .eql 3 (.tmp 8) (.const (.int .i64 6)) 3) 4,
 asn 25 30 4] fr st (.seq c97_39 k)) ∧
 evK gS fi97 c97_35 fr st k = condK gS fi97 (fr.op (.tmp 25)).bool? .skip c97_37 fr st k ∧
 (evK gS fi97 c97_33 fr st k = opsR gS fi97 [op1 29 (.binOp .eql 3 (.tmp 8) (.const (.int .i64 5)) 3) 4,
 asn 25 29 4] fr st (.seq c97_35 k)) ∧
 evK gS fi97 c97_31 fr st k = condK gS fi97 (fr.op (.tmp 25)).bool? .skip c97_33 fr st k ∧
 (evK gS fi97 c97_29 fr st k = opsR gS fi97 [op1 28 (.binOp .eql 3 (.tmp 8) (.const (.int .i64 4)) 3) 4,
 asn 25 28 4] fr st (.seq c97_31 k)) ∧
 evK gS fi97 c97_27 fr st k = condK gS fi97 (fr.op (.tmp 25)).bool? .skip c97_29 fr st k ∧
 (evK gS fi97 c97_25 fr st k = opsR gS fi97 [op1 27 (.binOp .eql 3 (.tmp 8) (.const (.int .i64 3)) 3) 4,
 asn 25 27 4] fr st (.seq c97_27 k)) ∧
 evK gS fi97 c97_23 fr st k = condK gS fi97 (fr.op (.tmp 25)).bool? .skip c97_25 fr st k ∧
 (evK gS fi97 c97_21 fr st k = opsR gS fi97 [op1 26 (.binOp .eql 3 (.tmp 8) (.const (.int .i64 2)) 3) 4,
 asn 25 26 4] fr st (.seq c97_23 k)) ∧
 (evK gS fi97 c97_43 fr st k = opsR gS fi97 [op1 32 (.fieldAddr 91 (.tmp 1) 2) 0,
 ld 33 88 32 88,
 cal 34 117 [(.tmp 33)] [88] 4,
 mv 35 34 4,
 mk (some 36) (.fieldAddr 91 (.tmp 1) 3) 0 (some (3, true)),
 mk (some 37) (.load 88 (.tmp 36)) 88 (some (3, true)),
 mk (some 38) (.call { callee := (.value (.func 116)), args := #[(.tmp 37)], argTypes := #[88] }) 4 (some (3, true)),
 op1 39 (.pick (.tmp 35) (.tmp 38) (.const (.bool false))) 4,
 mv 40 39 4,
 mk (some 41) (.fieldAddr 91 (.tmp 1) 4) 0 (some (8, true)),
 mk (some 42) (.load 89 (.tmp 41)) 89 (some (8, true)),
 mk (some 43) (.call { callee := (.builtin .len), args := #[(.tmp 42)], argTypes := #[89] }) 3 (some (8, true)),
 mk (some 44) (.binOp .eql 3 (.tmp 43) (.const (.int .i64 0)) 3) 4 (some (8, true)),
 op1 45 (.pick (.tmp 40) (.tmp 44) (.const (.bool false))) 4,
 asn 2 45 4] fr st (.seq .ret k)) ∧
 (evK gS fi97 c97_49 fr st k = opsR gS fi97 [op1 48 (.fieldAddr 91 (.tmp 1) 2) 0,
 ld 49 88 48 88,
 cal 50 117 [(.tmp 49)] [88] 4,
 mv 51 50 4,
 mk (some 52) (.fieldAddr 91 (.tmp 1) 3) 0 (some (3, true)),
 mk (some 53) (.load 88 (.tmp 52)) 88 (some (3, true)),
 mk (some 54) (.call { callee := (.value (.func 117)), args := #[(.tmp 53)], argTypes := #[88] }) 4 (some (3, true)),
 op1 55 (.pick (.tmp 51) (.tmp 54) (.const (.bool false))) 4,
 mv 56 55 4,
 mk (some 57) (.fieldAddr 91 (.tmp 1) 4) 0 (some (8, true)),
 mk (some 58) (.load 89 (.tmp 57)) 89 (some (8, true)),
 mk (some 59) (.call { callee := (.builtin .len), args := #[(.tmp 58)], argTypes := #[89] }) 3 (some (8, true)),
 mk (some 60) (.binOp .eql 3 (.tmp 59) (.const (.int .i64 0)) 3) 4 (some (8, true)),
 op1 61 (.pick (.tmp 56) (.tmp 60) (.const (.bool false))) 4,
 asn 2 61 4] fr st (.seq .ret k)) ∧
 (evK gS fi97 c97_55 fr st k = opsR gS fi97 [op1 64 (.fieldAddr 91 (.tmp 1) 2) 0,
 ld 65 88 64 88,
 cal 66 117 [(.tmp 65)] [88] 4,
 mv 67 66 4,
 mk (some 68) (.fieldAddr 91 (.tmp 1) 2) 0 (some (3, true)),
 mk (some 69) (.fieldAddr 88 (.tmp 68) 0) 0 (some (3, true)),
 mk (some 70) (.load 3 (.tmp 69)) 3 (some (3, true)),
 mk (some 71) (.binOp .eql 3 (.tmp 70) (.const (.int .i64 3)) 3) 4 (some (3, true)),
 op1 72 (.pick (.tmp 67) (.tmp 71) (.const (.bool false))) 4,
 mv 73 72 4,
 mk (some 74) (.fieldAddr 91 (.tmp 1) 3) 0 (some (9, true)),
 mk (some 75) (.load 88 (.tmp 74)) 88 (some (9, true)),
 mk (some 76) (.call { callee := (.value (.func 116)), args := #[(.tmp 75)], argTypes := #[88] }) 4 (some (9, true)),
 op1 77 (.pick (.tmp 73) (.tmp 76) (.const (.bool false))) 4,
 mv 78 77 4,
 mk (some 79) (.fieldAddr 91 (.tmp 1) 4) 0 (some (14, true)),
 mk (some 80) (.load 89 (.tmp 79)) 89 (some (14, true)),
 mk (some 81) (.call { callee := (.builtin .len), args := #[(.tmp 80)], argTypes := #[89] }) 3 (some (14, true)),
 mk (some 82) (.binOp .eql 3 (.tmp 81) (.const (.int .i64 0)) 3) 4 (some (14, true)),
 op1 83 (.pick (.tmp 78) (.tmp 82) (.const (.bool false))) 4,
 asn 2 83 4] fr st (.seq .ret k)) ∧
 (evK gS fi97 c97_61 fr st k = opsR gS fi97 [op1 86 (.fieldAddr 91 (.tmp 1) 2) 0,
 ld 87 88 86 88,
 cal 88 116 [(.tmp 87)] [88] 4,
 mv 89 88 4,
 mk (some 90) (.fieldAddr 91 (.tmp 1) 3) 0 (some (3, true)),
 mk (some 91) (.load 88 (.tmp 90)) 88 (some (3, true)),
 mk (some 92) (.call { callee := (.value (.func 116)), args := #[(.tmp 91)], argTypes := #[88] }) 4 (some (3, true)),
 op1 93 (.pick (.tmp 89) (.tmp 92) (.const (.bool false))) 4,
 mv 94 93 4,
 mk (some 95) (.fieldAddr 91 (.tmp 1) 4) 0 (some (8, true)),
 mk (some 96) (.load 89 (.tmp 95)) 89 (some (8, true)),
 mk (some 97) (.call { callee := (.builtin .len), args := #[(.tmp 96)], argTypes := #[89] }) 3 (some (8, true)),
 mk (some 98) (.binOp .geq 3 (.tmp 97) (.const (.int .i64 1)) 3) 4 (some (8, true)),
 op1 99 (.pick (.tmp 94) (.tmp 98) (.const (.bool false))) 4,
 mv 100 99 4,
 mk (some 101) (.fieldAddr 91 (.tmp 1) 4) 0 (some (14, true)),
 mk (some 102) (.load 89 (.tmp 101)) 89 (some (14, true)),
 mk (some 103) (.call { callee := (.builtin .len), args := #[(.tmp 102)], argTypes := #[89] }) 3 (some (14, true)),
 mk (some 104) (.binOp .leq 3 (.tmp 103) (.const (.int .i64 4)) 3) 4 (some (14, true)),
 op1 105 (.pick (.tmp 100) (.tmp 104) (.const (.bool false))) 4,
 mv 106 105 4,
 mk (some 107) (.fieldAddr 91 (.tmp 1) 4) 0 (some (20, true)),
 mk (some 108) (.load 89 (.tmp 107)) 89 (some (20, true)),
 mk (some 109) (.call { callee := (.value (.func 118)), args := #[(.tmp 108)], argTypes := #[89] }) 4 (some (20, true)),
 op1 110 (.pick (.tmp 106) (.tmp 109) (.const (.bool false))) 4,
 asn 2 110 4] fr st (.seq .ret k)) ∧
 evK gS fi97 c97_60 fr st k = condK gS fi97 (fr.op (.tmp 84)).bool? c97_61 .skip fr st k ∧
 (evK gS fi97 c97_58 fr st k = opsR gS fi97 [op1 85 (.binOp .eql 3 (.tmp 8) (.const (.int .i64 10)) 3) 4,
 asn 84 85 4] fr st (.seq c97_60 k)) ∧
 evK gS fi97 c97_54 fr st k = condK gS fi97 (fr.op (.tmp 62)).bool? c97_55 c97_58 fr st k ∧
 (evK gS fi97 c97_52 fr st k = opsR gS fi97 [op1 63 (.binOp .eql 3 (.tmp 8) (.const (.int .i64 9)) 3) 4,
 asn 62 63 4] fr st (.seq c97_54 k)) ∧
 evK gS fi97 c97_48 fr st k = condK gS fi97 (fr.op (.tmp 46)).bool? c97_49 c97_52 fr st k ∧
 (evK gS fi97 c97_46 fr st k = opsR gS fi97 [op1 47 (.binOp .eql 3 (.tmp 8) (.const (.int .i64 8)) 3) 4,
 asn 46 47 4] fr st (.seq c97_48 k)) ∧
 evK gS fi97 c97_42 fr st k = condK gS fi97 (fr.op (.tmp 25)).bool? c97_43 c97_46 fr st k ∧
 evK gS fi97 c97_20 fr st k = evK gS fi97 c97_21 fr st (.seq c97_42 k) ∧
 evK gS fi97 c97_16 fr st k = condK gS fi97 (fr.op (.tmp 9)).bool? c97_17 c97_20 fr st k ∧
 (evK gS fi97 c97_14 fr st k = opsR gS fi97 [op1 10 (.binOp .eql 3 (.tmp 8) (.const (.int .i64 1)) 3) 4,
 asn 9 10 4] fr st (.seq c97_16 k)) ∧
 evK gS fi97 c97_13 fr st k = evK gS fi97 c97_14 fr st (.blk 0 k) ∧
 (evK gS fi97 c97_11 fr st k = opsR gS fi97 [op1 7 (.fieldAddr 91 (.tmp 1) 1) 0,
 ld 8 3 7 3] fr st (.seq c97_13 k)) ∧
 evK gS fi97 c97_65 fr st k = opsR gS fi97 [op1 2 (.assign (.const (.bool false))) 4] fr st (.seq .ret k) ∧
 evK gS fi97 c97_10 fr st k = evK gS fi97 c97_11 fr st (.seq c97_65 k) ∧
 evK gS fi97 c97_2 fr st k = evK gS fi97 c97_3 fr st (.seq c97_10 k) ∧
 (evK gS fi97 c97_0 fr st k = opsR gS fi97 [op1 1 (.box 91 (.tmp 0)) 0,
 op1 2 (.assign (.const (.bool false))) 4] fr st (.seq c97_2 k)) := ⟨evK_rs 2 rfl (by kernel_rfl), rfl, evK_rs 1 rfl (by kernel_rfl), evK_rs 5 rfl (by kernel_rfl), evK_r 11 (by kernel_rfl), rfl, evK_rs 10 rfl (by kernel_rfl), rfl, evK_rs 9 rfl (by kernel_rfl), rfl, evK_rs 8 rfl (by kernel_rfl), rfl, evK_rs 7 rfl (by kernel_rfl), rfl, evK_rs 6 rfl (by kernel_rfl), evK_rs 12 rfl (by kernel_rfl), evK_rs 14 rfl (by kernel_rfl), evK_rs 16 rfl (by kernel_rfl), evK_rs 18 rfl (by kernel_rfl), rfl, evK_rs 17 rfl (by kernel_rfl), rfl, evK_rs 15 rfl (by kernel_rfl), rfl, evK_rs 13 rfl (by kernel_rfl), rfl, rfl, rfl, evK_rs 4 rfl (by kernel_rfl), rfl, evK_rs 3 rfl (by kernel_rfl), evK_rs 19 rfl (by kernel_rfl), rfl, rfl, evK_rs 0 rfl (by kernel_rfl)⟩
theorem m97 : mini fi97.body = c97_0 := by kernel_rfl
set_option maxHeartbeats 4000000 in
theorem c97 (p : Pred)  (h_p : Pred.ok p) (st : St) : EvF gS 97 [p.enc] st = some (.ret (.bool (pright p)) none, st) := by
  refine EvF_start fi19_eq (fun x h => by cases h) m97 ?_
  rw [st97]
  have hm : fi97.marks = [] := rfl
  have hl : fi97.locals = [1] := rfl
  have hr : fi97.results = [.tmp 2] := rfl
  simp (config := { contextual := true, maxSteps := 10000000, maxDischargeDepth := 6 }) [-Int.not_le, -Int.not_lt, -Nat.not_le, -Nat.not_lt, ty3, ty4, ty9, ty88, ty89, ty91, eq88, hm, hl, hr, k115, k116, k117, k118, E97, h_p.1, h_p.2]
  all_goals try simp (config := { contextual := true }) [-Int.not_le, -Int.not_lt, -Nat.not_le, -Nat.not_lt, pright]
  all_goals first | done | grind | omega | (trace_state; fail)
theorem k97 (p_name : List UInt8) (p_test : Int) (p_vk : Int) (p_vn : Int) (p_vx : Nat) (p_vs : List UInt8) (p_vb : Bool) (p_wk : Int) (p_wn : Int) (p_wx : Nat) (p_ws : List UInt8) (p_wb : Bool) (p_set : List Val)  (h_p : Pred.ok (⟨p_name, p_test, ⟨p_vk, p_vn, p_vx, p_vs, p_vb⟩, ⟨p_wk, p_wn, p_wx, p_ws, p_wb⟩, p_set⟩ : Pred)) (fr : Fr) (st : St) : callStep gS (EvF gS) 97 [.agg [.str p_name, .int .i64 p_test, .int .i64 p_vk, .int .i64 p_vn, .float .f64 p_vx, .str p_vs, .bool p_vb, .int .i64 p_wk, .int .i64 p_wn, .float .f64 p_wx, .str p_ws, .bool p_wb, .slice (encVals p_set)]] fr st = some (.ok (retE none (.bool (pright (⟨p_name, p_test, ⟨p_vk, p_vn, p_vx, p_vs, p_vb⟩, ⟨p_wk, p_wn, p_wx, p_ws, p_wb⟩, p_set⟩ : Pred)))) fr st) :=
  call_pure rfl fi19_eq rfl (fun st => c97 (⟨p_name, p_test, ⟨p_vk, p_vn, p_vx, p_vs, p_vb⟩, ⟨p_wk, p_wn, p_wx, p_ws, p_wb⟩, p_set⟩ : Pred) h_p st) (by simp)
theorem x97 : gS.ext 97 = none := rfl
theorem p97 : fi97.pure = true := rfl
end
end Go.Proofs.Ytdoobejjedpcgaa
namespace Go.Proofs.Ytdoobejjedpcgaa
open Go Go.Ab
set_option linter.unusedVariables false
set_option linter.unusedSimpArgs false
set_option linter.unnecessarySimpa false
set_option maxRecDepth 20000
noncomputable section
variable (fr : Fr) (st : St) (k : Kt)
def fi80 : FI := { body := codeOf Try.f80, ntmps := 62, results := [.tmp 4], pers := [0, 1, 2, 3, 4, 5, 45, 46], locals := [2, 3], pure := true, marks := [] }
theorem fi25_eq : gS.fn 80 = some fi80 := by kernel_rfl
theorem st80 (a0 a1 : V) : startFr fi80 [a0, a1] = { ps := [(0, .val a0), (1, .val a1), (2, .any), (3, .any), (4, .any), (5, .any), (45, .any), (46, .any)], ts := [], lc := [] } := rfl
def b80 : Code := mini (codeOf Try.f80)
def c80_6 : Code := .seq (codeN b80 37) .ret
def c80_5 : Code := .cond (.tmp 42) c80_6 .skip
def c80_3 : Code := .seq (codeN b80 9) c80_5
def r80_26 : Array Oper := regOps (codeN (codeOf Try.f80) 5323)
def c80_26 : Code := .region 6 r80_26 true
def q80_26 : List (Oper × Fl) := [(op1 49 (.fieldAddr 91 (.tmp 2) 4) 0, ⟨true, false, true, false, false, false, true, true, false, false, []⟩),
 (ld 50 89 49 89, ⟨true, false, true, false, false, false, true, true, false, false, []⟩),
 (mv 51 5 3, ⟨true, false, true, false, false, false, true, true, false, false, []⟩),
 (ixa 52 89 50 51 0, ⟨true, false, true, false, false, false, true, true, false, false, []⟩),
 (ld 53 88 52 88, ⟨true, false, true, false, false, false, true, true, false, false, []⟩),
 (op1 54 (.fieldAddr 91 (.tmp 3) 4) 0, ⟨true, false, true, false, false, false, true, true, false, false, []⟩),
 (ld 55 89 54 89, ⟨true, false, true, false, false, false, true, true, false, false, []⟩),
 (mv 56 5 3, ⟨true, false, true, false, true, false, true, true, false, false, []⟩),
 (ixa 57 89 55 56 0, ⟨true, false, true, false, true, false, true, true, false, false, []⟩),
 (ld 58 88 57 88, ⟨true, false, true, false, true, false, true, true, false, false, []⟩),
 (cal 59 102 [(.tmp 53), (.tmp 58)] [88, 88] 4, ⟨true, true, true, false, true, true, true, true, false, false, []⟩),
 (op1 60 (.unOp .not 4 (.tmp 59)) 4, ⟨true, false, true, false, true, false, true, true, false, false, []⟩)]
def c80_28 : Code := .seq (codeN b80 19659) .ret
def c80_27 : Code := .cond (.tmp 60) c80_28 .skip
def c80_25 : Code := .seq c80_26 c80_27
def c80_23 : Code := .seq (codeN b80 2251) c80_25
def c80_32 : Code := codeN b80 971
def c80_21 : Code := .seq (.block 1 c80_23) c80_32
def c80_17 : Code := .seq (.cond (.tmp 47) .skip (.exit 0)) c80_21
def c80_15 : Code := .seq (codeN b80 139) c80_17
def c80_14 : Code := .loop c80_15
def c80_13 : Code := .block 0 c80_14
def c80_11 : Code := .seq (codeN b80 19) c80_13
def c80_33 : Code := .seq (codeN b80 23) .ret
def c80_10 : Code := .seq c80_11 c80_33
def c80_2 : Code := .seq c80_3 c80_10
def c80_0 : Code := .seq (codeN b80 2) c80_2
theorem E80 : evK gS fi80 c80_6 fr st k = opsR gS fi80 [op1 4 (.assign (.const (.bool false))) 4] fr st (.seq .ret k) ∧
 evK gS fi80 c80_5 fr st k = condK gS fi80 (fr.op (.tmp 42)).bool? c80_6 .skip fr st k ∧
 (evK gS fi80 c80_3 fr st k = opsR gS fi80 [op1 6 (.fieldAddr 91 (.tmp 2) 0) 0,
 ld 7 9 6 9,
 op1 8 (.fieldAddr 91 (.tmp 3) 0) 0,
 ld 9 9 8 9,
 bop 10 .neq 9 7 9 9 4,
 mv 11 10 4,
 mk (some 12) (.fieldAddr 91 (.tmp 2) 1) 0 (some (5, false)),
 mk (some 13) (.load 3 (.tmp 12)) 3 (some (5, false)),
 mk (some 14) (.fieldAddr 91 (.tmp 3) 1) 0 (some (5, false)),
 mk (some 15) (.load 3 (.tmp 14)) 3 (some (5, false)),
 mk (some 16) (.binOp .neq 3 (.tmp 13) (.tmp 15) 3) 4 (some (5, false)),
 op1 17 (.pick (.tmp 11) (.const (.bool true)) (.tmp 16)) 4,
 mv 18 17 4,
 mk (some 19) (.fieldAddr 91 (.tmp 2) 2) 0 (some (12, false)),
 mk (some 20) (.load 88 (.tmp 19)) 88 (some (12, false)),
 mk (some 21) (.fieldAddr 91 (.tmp 3) 2) 0 (some (12, false)),
 mk (some 22) (.load 88 (.tmp 21)) 88 (some (12, false)),
 mk (some 23) (.call { callee := (.value (.func 102)), args := #[(.tmp 20), (.tmp 22)], argTypes := #[88, 88] }) 4 (some (12, false)),
 mk (some 24) (.unOp .not 4 (.tmp 23)) 4 (some (12, false)),
 op1 25 (.pick (.tmp 18) (.const (.bool true)) (.tmp 24)) 4,
 mv 26 25 4,
 mk (some 27) (.fieldAddr 91 (.tmp 2) 3) 0 (some (20, false)),
 mk (some 28) (.load 88 (.tmp 27)) 88 (some (20, false)),
 mk (some 29) (.fieldAddr 91 (.tmp 3) 3) 0 (some (20, false)),
 mk (some 30) (.load 88 (.tmp 29)) 88 (some (20, false)),
 mk (some 31) (.call { callee := (.value (.func 102)), args := #[(.tmp 28), (.tmp 30)], argTypes := #[88, 88] }) 4 (some (20, false)),
 mk (some 32) (.unOp .not 4 (.tmp 31)) 4 (some (20, false)),
 op1 33 (.pick (.tmp 26) (.const (.bool true)) (.tmp 32)) 4,
 mv 34 33 4,
 mk (some 35) (.fieldAddr 91 (.tmp 2) 4) 0 (some (28, false)),
 mk (some 36) (.load 89 (.tmp 35)) 89 (some (28, false)),
 mk (some 37) (.call { callee := (.builtin .len), args := #[(.tmp 36)], argTypes := #[89] }) 3 (some (28, false)),
 mk (some 38) (.fieldAddr 91 (.tmp 3) 4) 0 (some (28, false)),
 mk (some 39) (.load 89 (.tmp 38)) 89 (some (28, false)),
 mk (some 40) (.call { callee := (.builtin .len), args := #[(.tmp 39)], argTypes := #[89] }) 3 (some (28, false)),
 mk (some 41) (.binOp .neq 3 (.tmp 37) (.tmp 40) 3) 4 (some (28, false)),
 op1 42 (.pick (.tmp 34) (.const (.bool true)) (.tmp 41)) 4] fr st (.seq c80_5 k)) ∧
 evK gS fi80 c80_26 fr st k = drwR gS fi80 r80_26 q80_26 fr st k ∧
 evK gS fi80 c80_28 fr st k = opsR gS fi80 [op1 4 (.assign (.const (.bool false))) 4] fr st (.seq .ret k) ∧
 evK gS fi80 c80_27 fr st k = condK gS fi80 (fr.op (.tmp 60)).bool? c80_28 .skip fr st k ∧
 evK gS fi80 c80_25 fr st k = evK gS fi80 c80_26 fr st (.seq c80_27 k) ∧
 (evK gS fi80 c80_23 fr st k = opsR gS fi80 [mv 48 46 3,
 asn 5 48 3] fr st (.seq c80_25 k)) ∧
 (evK gS fi80 c80_32 fr st k = opsR gS fi80 [op1 61 (.binOp .add 3 (.tmp 46) (.const (.int .i64 1)) 3) 3,
 mv 46 61 3] fr st k) ∧
 evK gS fi80 c80_21 fr st k = evK gS fi80 c80_23 fr st (.blk 1 (.seq c80_32 k)) ∧
 evK gS fi80 c80_17 fr st k = condK gS fi80 (fr.op (.tmp 47)).bool? .skip (.exit 0) fr st (.seq c80_21 k) ∧
 evK gS fi80 c80_15 fr st k = opsR gS fi80 [bop 47 .lss 3 46 45 3 0] fr st (.seq c80_17 k) ∧
 evK gS fi80 c80_13 fr st k = evK gS fi80 c80_14 fr st (.blk 0 k) ∧
 (evK gS fi80 c80_11 fr st k = opsR gS fi80 [op1 43 (.fieldAddr 91 (.tmp 2) 4) 0,
 ld 44 89 43 89,
 len1 45 44 89 3,
 op1 46 (.move (.const (.int .i64 0))) 3] fr st (.seq c80_13 k)) ∧
 evK gS fi80 c80_33 fr st k = opsR gS fi80 [op1 4 (.assign (.const (.bool true))) 4] fr st (.seq .ret k) ∧
 evK gS fi80 c80_10 fr st k = evK gS fi80 c80_11 fr st (.seq c80_33 k) ∧
 evK gS fi80 c80_2 fr st k = evK gS fi80 c80_3 fr st (.seq c80_10 k) ∧
 (evK gS fi80 c80_0 fr st k = opsR gS fi80 [op1 2 (.box 91 (.tmp 0)) 0,
 op1 3 (.box 91 (.tmp 1)) 0,
 op1 4 (.assign (.const (.bool false))) 4] fr st (.seq c80_2 k)) := ⟨evK_rs 2 rfl (by kernel_rfl), rfl, evK_rs 1 rfl (by kernel_rfl), evK_dr 6 rfl (by kernel_rfl) (by kernel_rfl), evK_rs 7 rfl (by kernel_rfl), rfl, rfl, evK_rs 5 rfl (by kernel_rfl), evK_r 8 (by kernel_rfl), rfl, rfl, evK_rs 4 rfl (by kernel_rfl), rfl, evK_rs 3 rfl (by kernel_rfl), evK_rs 9 rfl (by kernel_rfl), rfl, rfl, evK_rs 0 rfl (by kernel_rfl)⟩
theorem m80 : mini fi80.body = c80_0 := by kernel_rfl
theorem n80_14 (fr : Fr) (st : St) (k : Kt) : nextK gS fi80 (.loop c80_15 k) .normal fr st = evK gS fi80 c80_14 fr st k := rfl
set_option maxHeartbeats 4000000 in
theorem L80_14 (a : Pred) (b : Pred) (h_a : a.ok) (st : St) : ∀ (n i : Nat) (j : Int) (m : Int) (e0 e1 e4 e5 : E) (T : List (Nat × E)) (X : List (Nat × List V)) (ht0 : e0.Tame) (ht1 : e1.Tame) (ht4 : e4.Tame) (ht5 : e5.Tame) (hx2 : lk X 2 = some [.str a.name, .int .i64 a.test, .int .i64 a.v.kind, .int .i64 a.v.n, .float .f64 a.v.x, .str a.v.s, .bool a.v.b, .int .i64 a.w.kind, .int .i64 a.w.n, .float .f64 a.w.x, .str a.w.s, .bool a.w.b, .slice (encVals a.set)]) (hx3 : lk X 3 = some [.str b.name, .int .i64 b.test, .int .i64 b.v.kind, .int .i64 b.v.n, .float .f64 b.v.x, .str b.v.s, .bool b.v.b, .int .i64 b.w.kind, .int .i64 b.w.n, .float .f64 b.w.x, .str b.w.s, .bool b.w.b, .slice (encVals b.set)]) (hlen : a.set.length = b.set.length) (hm45 : m = ((a.set.length : Nat) : Int)), j = (i : Int) → i ≤ (a.set).length → (a.set).length - i = n →
    evK gS fi80 c80_14 { ps := [(0, e0), (1, e1), (2, .lp 2 0), (3, .lp 3 0), (4, e4), (5, e5), (45, .val (.int .i64 m)), (46, .val (.int .i64 j))], ts := T, lc := X } st (.blk 0 (.seq c80_33 .nil)) = some ((.ret (.bool (sames (a.set.drop i) (b.set.drop i))) none), st) := by
  intro n
  have hm : fi80.marks = [] := rfl
  have hl : fi80.locals = [2, 3] := rfl
  have hr : fi80.results = [.tmp 4] := rfl
  have hao := h_a.2
  induction n with
  | zero =>
    intro i j m e0 e1 e4 e5 T X ht0 ht1 ht4 ht5 hx2 hx3 hlen hm45 hj hi hn
    obtain rfl : i = (a.set).length := by omega
    subst hj
    subst hm45
    have hz : b.set.drop a.set.length = [] := List.drop_eq_nil_of_le (by omega)
    refine evK_loop c80_15 _ st _ _ rfl ?_
    simp (config := { contextual := true, maxSteps := 10000000, maxDischargeDepth := 6 }) [-Int.not_le, -Int.not_lt, -Nat.not_le, -Nat.not_lt, ty3, ty4, ty9, ty88, ty89, ty91, eq88, hm, hl, hr, k102, x102, fi81_eq, p102, E80, q80_26, n80_14, ht0, ht1, ht4, ht5, hx2, hx3, hz]
    all_goals try simp (config := { contextual := true }) [-Int.not_le, -Int.not_lt, -Nat.not_le, -Nat.not_lt, sames]
    all_goals first | done | grind | omega | (trace_state; fail)
  | succ n ih =>
    intro i j m e0 e1 e4 e5 T X ht0 ht1 ht4 ht5 hx2 hx3 hlen hm45 hj hi hn
    subst hj
    obtain ⟨x, hx⟩ : ∃ x, (a.set)[i]? = some x := ⟨(a.set)[i]'(by omega), List.getElem?_eq_getElem (by omega)⟩
    have hd := drop_get hx
    have hlt : (i : Int) < ((a.set).length : Int) := by omega
    have hlt2 : i < (a.set).length := by omega
    have hxe : (a.set)[i]'hlt2 = x := by rw [List.getElem?_eq_getElem hlt2] at hx; exact Option.some.inj hx
    have hw : IntKind.wrap .i64 ((i : Int) + 1) = (i : Int) + 1 := wrap64 (by omega) (by omega)
    subst hm45
    obtain ⟨y, hy⟩ : ∃ y, (b.set)[i]? = some y := ⟨(b.set)[i]'(by omega), List.getElem?_eq_getElem (by omega)⟩
    have hyd := drop_get hy
    have hyl : i < (b.set).length := by omega
    have hye : (b.set)[i]'hyl = y := by rw [List.getElem?_eq_getElem hyl] at hy; exact Option.some.inj hy
    have IH := fun m e0 e1 e4 e5 T X ht0 ht1 ht4 ht5 hx2 hx3 hlen hm45 => ih (i + 1) ((i : Int) + 1) m e0 e1 e4 e5 T X ht0 ht1 ht4 ht5 hx2 hx3 hlen hm45 rfl (by omega) (by omega)
    refine evK_loop c80_15 _ st _ _ rfl ?_
    simp (config := { contextual := true, maxSteps := 10000000, maxDischargeDepth := 6 }) [-Int.not_le, -Int.not_lt, -Nat.not_le, -Nat.not_lt, ty3, ty4, ty9, ty88, ty89, ty91, eq88, hm, hl, hr, k102, x102, fi81_eq, p102, E80, q80_26, n80_14, ht0, ht1, ht4, ht5, hx2, hx3, hx, hxe, hd, hlt, hlt2, hw, IH, hy, hye, hyd, hlen]
    all_goals try simp (config := { contextual := true }) [-Int.not_le, -Int.not_lt, -Nat.not_le, -Nat.not_lt, sames]
    all_goals first | done | grind | omega | (trace_state; fail)
set_option maxHeartbeats 4000000 in
theorem c80 (a : Pred) (b : Pred)  (h_a : Pred.ok a) (h_b : Pred.ok b) (st : St) : EvF gS 80 [a.enc, b.enc] st = some (.ret (.bool (psame a b)) none, st) := by
  refine EvF_start fi25_eq (fun x h => by cases h) m80 ?_
  rw [st80]
  have hm : fi80.marks = [] := rfl
  have hl : fi80.locals = [2, 3] := rfl
  have hr : fi80.results = [.tmp 4] := rfl
  simp (config := { contextual := true, maxSteps := 10000000, maxDischargeDepth := 6 }) [-Int.not_le, -Int.not_lt, -Nat.not_le, -Nat.not_lt, ty3, ty4, ty9, ty88, ty89, ty91, eq88, hm, hl, hr, k102, x102, fi81_eq, p102, E80, q80_26, n80_14, (fun m e0 e1 e4 e5 T X ht0 ht1 ht4 ht5 hx2 hx3 hlen hm45 => L80_14 a b h_a st _ 0 0  m e0 e1 e4 e5 T X ht0 ht1 ht4 ht5 hx2 hx3 hlen hm45 rfl (Nat.zero_le _) rfl), h_a.1, h_a.2, h_b.1, h_b.2]
  all_goals try simp (config := { contextual := true }) [-Int.not_le, -Int.not_lt, -Nat.not_le, -Nat.not_lt, psame, sames_ne]
  all_goals first | done | grind | omega | (trace_state; fail)
theorem k80 (a_name : List UInt8) (a_test : Int) (a_vk : Int) (a_vn : Int) (a_vx : Nat) (a_vs : List UInt8) (a_vb : Bool) (a_wk : Int) (a_wn : Int) (a_wx : Nat) (a_ws : List UInt8) (a_wb : Bool) (a_set : List Val) (b_name : List UInt8) (b_test : Int) (b_vk : Int) (b_vn : Int) (b_vx : Nat) (b_vs : List UInt8) (b_vb : Bool) (b_wk : Int) (b_wn : Int) (b_wx : Nat) (b_ws : List UInt8) (b_wb : Bool) (b_set : List Val)  (h_a : Pred.ok (⟨a_name, a_test, ⟨a_vk, a_vn, a_vx, a_vs, a_vb⟩, ⟨a_wk, a_wn, a_wx, a_ws, a_wb⟩, a_set⟩ : Pred)) (h_b : Pred.ok (⟨b_name, b_test, ⟨b_vk, b_vn, b_vx, b_vs, b_vb⟩, ⟨b_wk, b_wn, b_wx, b_ws, b_wb⟩, b_set⟩ : Pred)) (fr : Fr) (st : St) : callStep gS (EvF gS) 80 [.agg [.str a_name, .int .i64 a_test, .int .i64 a_vk, .int .i64 a_vn, .float .f64 a_vx, .str a_vs, .bool a_vb, .int .i64 a_wk, .int .i64 a_wn, .float .f64 a_wx, .str a_ws, .bool a_wb, .slice (encVals a_set)], .agg [.str b_name, .int .i64 b_test, .int .i64 b_vk, .int .i64 b_vn, .float .f64 b_vx, .str b_vs, .bool b_vb, .int .i64 b_wk, .int .i64 b_wn, .float .f64 b_wx, .str b_ws, .bool b_wb, .slice (encVals b_set)]] fr st = some (.ok (retE none (.bool (psame (⟨a_name, a_test, ⟨a_vk, a_vn, a_vx, a_vs, a_vb⟩, ⟨a_wk, a_wn, a_wx, a_ws, a_wb⟩, a_set⟩ : Pred) (⟨b_name, b_test, ⟨b_vk, b_vn, b_vx, b_vs, b_vb⟩, ⟨b_wk, b_wn, b_wx, b_ws, b_wb⟩, b_set⟩ : Pred)))) fr st) :=
  call_pure rfl fi25_eq rfl (fun st => c80 (⟨a_name, a_test, ⟨a_vk, a_vn, a_vx, a_vs, a_vb⟩, ⟨a_wk, a_wn, a_wx, a_ws, a_wb⟩, a_set⟩ : Pred) (⟨b_name, b_test, ⟨b_vk, b_vn, b_vx, b_vs, b_vb⟩, ⟨b_wk, b_wn, b_wx, b_ws, b_wb⟩, b_set⟩ : Pred) h_a h_b st) (by simp)
theorem x80 : gS.ext 80 = none := rfl
theorem p80 : fi80.pure = true := rfl
def fi77 : FI := { body := codeOf Try.f77, ntmps := 113, results := [.tmp 4], pers := [0, 1, 2, 3, 4, 5, 6, 7, 8, 10, 22, 103, 104, 105], locals := [2, 3, 10], pure := true, marks := [] }
theorem fi21_eq : gS.fn 77 = some fi77 := by kernel_rfl
theorem st77 (a0 a1 : V) : startFr fi77 [a0, a1] = { ps := [(0, .val a0), (1, .val a1), (2, .any), (3, .any), (4, .any), (5, .any), (6, .any), (7, .any), (8, .any), (10, .any), (22, .any), (103, .any), (104, .any), (105, .any)], ts := [], lc := [] } := rfl
def b77 : Code := mini (codeOf Try.f77)
def c77_6 : Code := .seq (codeN b77 37) .ret
def c77_5 : Code := .cond (.tmp 13) c77_6 .skip
def c77_3 : Code := .seq (codeN b77 9) c77_5
def c77_19 : Code := .seq (codeN b77 599) .ret
def c77_25 : Code := .seq (codeN b77 2519) .ret
def c77_31 : Code := .seq (codeN b77 10199) .ret
def c77_37 : Code := .seq (codeN b77 40919) .ret
def c77_43 : Code := .seq (codeN b77 163799) .ret
def c77_49 : Code := .seq (codeN b77 655319) .ret
def c77_55 : Code := .seq (codeN b77 2621399) .ret
def c77_63 : Code := .seq (codeN b77 23068631) .ret
def c77_61 : Code := .seq (codeN b77 10485719) c77_63
def c77_69 : Code := .seq (codeN b77 41942999) .ret
def c77_68 : Code := .cond (.tmp 89) c77_69 .skip
def c77_66 : Code := .seq (codeN b77 12582871) c77_68
def c77_60 : Code := .cond (.tmp 68) c77_61 c77_66
def c77_58 : Code := .seq (codeN b77 3145687) c77_60
def c77_54 : Code := .cond (.tmp 61) c77_55 c77_58
def c77_52 : Code := .seq (codeN b77 786391) c77_54
def c77_48 : Code := .cond (.tmp 54) c77_49 c77_52
def c77_46 : Code := .seq (codeN b77 196567) c77_48
def c77_42 : Code := .cond (.tmp 47) c77_43 c77_46
def c77_40 : Code := .seq (codeN b77 49111) c77_42
def c77_36 : Code := .cond (.tmp 40) c77_37 c77_40
def c77_34 : Code := .seq (codeN b77 12247) c77_36
def c77_30 : Code := .cond (.tmp 32) c77_31 c77_34
def c77_28 : Code := .seq (codeN b77 3031) c77_30
def c77_24 : Code := .cond (.tmp 25) c77_25 c77_28
def c77_22 : Code := .seq (codeN b77 727) c77_24
def c77_18 : Code := .cond (.tmp 23) c77_19 c77_22
def c77_16 : Code := .seq (codeN b77 151) c77_18
def c77_15 : Code := .block 0 c77_16
def c77_13 : Code := .seq (codeN b77 39) c77_15
def c77_91 : Code := .seq (codeN b77 78639) .ret
def c77_90 : Code := .cond (.tmp 111) c77_91 .skip
def c77_88 : Code := .seq (codeN b77 21295) c77_90
def c77_86 : Code := .seq (codeN b77 9007) c77_88
def c77_95 : Code := codeN b77 3887
def c77_84 : Code := .seq (.block 2 c77_86) c77_95
def c77_80 : Code := .seq (.cond (.tmp 106) .skip (.exit 1)) c77_84
def c77_78 : Code := .seq (codeN b77 559) c77_80
def c77_77 : Code := .loop c77_78
def c77_76 : Code := .block 1 c77_77
def c77_74 : Code := .seq (codeN b77 79) c77_76
def c77_96 : Code := .seq (codeN b77 95) .ret
def c77_73 : Code := .seq c77_74 c77_96
def c77_12 : Code := .seq c77_13 c77_73
def c77_10 : Code := .seq (codeN b77 11) c77_12
def c77_2 : Code := .seq c77_3 c77_10
def c77_0 : Code := .seq (codeN b77 2) c77_2
theorem E77 : evK gS fi77 c77_6 fr st k = opsR gS fi77 [op1 4 (.assign (.const (.bool false))) 4] fr st (.seq .ret k) ∧
 evK gS fi77 c77_5 fr st k = condK gS fi77 (fr.op (.tmp 13)).bool? c77_6 .skip fr st k ∧
 (evK gS fi77 c77_3 fr st k = opsR gS fi77 [ld 11 91 2 91,
 cal 12 97 [(.tmp 11)] [91] 4,
 op1 13 (.unOp .not 4 (.tmp 12)) 4] fr st (.seq c77_5 k)) ∧
 evK gS fi77 c77_19 fr st k = opsR gS fi77 [op1 4 (.assign (.const (.bool true))) 4] fr st (.seq .ret k) ∧
 (evK gS fi77 c77_25 fr st k = opsR gS fi77 [mv 27 6 4,
 mv 28 27 4,
 mk (some 29) (.move (.tmp 5)) 3 (some (1, true)),
 mk (some 30) (.binOp .eql 3 (.tmp 29) (.const (.int .i64 0)) 3) 4 (some (1, true)),
 op1 31 (.pick (.tmp 28) (.tmp 30) (.const (.bool false))) 4,
 asn 4 31 4] fr st (.seq .ret k)) ∧
 (evK gS fi77 c77_31 fr st k = opsR gS fi77 [mv 34 6 4,
 mv 35 34 4,
 mk (some 36) (.move (.tmp 5)) 3 (some (1, true)),
 mk (some 37) (.binOp .eql 3 (.tmp 36) (.const (.int .i64 0)) 3) 4 (some (1, true)),
 op1 38 (.pick (.tmp 35) (.tmp 37) (.const (.bool false))) 4,
 op1 39 (.unOp .not 4 (.tmp 38)) 4,
 asn 4 39 4] fr st (.seq .ret k)) ∧
 (evK gS fi77 c77_37 fr st k = opsR gS fi77 [mv 42 6 4,
 mv 43 42 4,
 mk (some 44) (.move (.tmp 5)) 3 (some (1, true)),
 mk (some 45) (.binOp .lss 3 (.tmp 44) (.const (.int .i64 0)) 3) 4 (some (1, true)),
 op1 46 (.pick (.tmp 43) (.tmp 45) (.const (.bool false))) 4,
 asn 4 46 4] fr st (.seq .ret k)) ∧
 (evK gS fi77 c77_43 fr st k = opsR gS fi77 [mv 49 6 4,
 mv 50 49 4,
 mk (some 51) (.move (.tmp 5)) 3 (some (1, true)),
 mk (some 52) (.binOp .leq 3 (.tmp 51) (.const (.int .i64 0)) 3) 4 (some (1, true)),
 op1 53 (.pick (.tmp 50) (.tmp 52) (.const (.bool false))) 4,
 asn 4 53 4] fr st (.seq .ret k)) ∧
 (evK gS fi77 c77_49 fr st k = opsR gS fi77 [mv 56 6 4,
 mv 57 56 4,
 mk (some 58) (.move (.tmp 5)) 3 (some (1, true)),
 mk (some 59) (.binOp .gtr 3 (.tmp 58) (.const (.int .i64 0)) 3) 4 (some (1, true)),
 op1 60 (.pick (.tmp 57) (.tmp 59) (.const (.bool false))) 4,
 asn 4 60 4] fr st (.seq .ret k)) ∧
 (evK gS fi77 c77_55 fr st k = opsR gS fi77 [mv 63 6 4,
 mv 64 63 4,
 mk (some 65) (.move (.tmp 5)) 3 (some (1, true)),
 mk (some 66) (.binOp .geq 3 (.tmp 65) (.const (.int .i64 0)) 3) 4 (some (1, true)),
 op1 67 (.pick (.tmp 64) (.tmp 66) (.const (.bool false))) 4,
 asn 4 67 4] fr st (.seq .ret k)) ∧
 (evK gS fi77 c77_63 fr st k = opsR gS fi77 [mv 77 6 4,
 mv 78 77 4,
 mk (some 79) (.move (.tmp 5)) 3 (some (1, true)),
 mk (some 80) (.binOp .geq 3 (.tmp 79) (.const (.int .i64 0)) 3) 4 (some (1, true)),
 op1 81 (.pick (.tmp 78) (.tmp 80) (.const (.bool false))) 4,
 mv 82 81 4,
 mk (some 83) (.move (.tmp 8)) 4 (some (5, true)),
 op1 84 (.pick (.tmp 82) (.tmp 83) (.const (.bool false))) 4,
 mv 85 84 4,
 mk (some 86) (.move (.tmp 7)) 3 (some (8, true)),
 mk (some 87) (.binOp .leq 3 (.tmp 86) (.const (.int .i64 0)) 3) 4 (some (8, true)),
 op1 88 (.pick (.tmp 85) (.tmp 87) (.const (.bool false))) 4,
 asn 4 88 4] fr st (.seq .ret k)) ∧
 (evK gS fi77 c77_61 fr st k = opsR gS fi77 [ld 71 88 3 88,
 op1 72 (.fieldAddr 91 (.tmp 2) 3) 0,
 ld 73 88 72 88,
 cal 74 98 [(.tmp 71), (.tmp 73)] [88, 88] 125,
 mv 70 74 125,
 op1 75 (.extract (.tmp 70) 0) 3,
 op1 76 (.extract (.tmp 70) 1) 4,
 asn 7 75 3,
 asn 8 76 4] fr st (.seq c77_63 k)) ∧
 (evK gS fi77 c77_69 fr st k = opsR gS fi77 [op1 91 (.fieldAddr 88 (.tmp 3) 0) 0,
 ld 92 3 91 3,
 op1 93 (.binOp .eql 3 (.tmp 92) (.const (.int .i64 3)) 3) 4,
 mv 94 93 4,
 mk (some 95) (.fieldAddr 88 (.tmp 3) 3) 0 (some (3, true)),
 mk (some 96) (.load 9 (.tmp 95)) 9 (some (3, true)),
 mk (some 97) (.fieldAddr 91 (.tmp 2) 2) 0 (some (3, true)),
 mk (some 98) (.fieldAddr 88 (.tmp 97) 3) 0 (some (3, true)),
 mk (some 99) (.load 9 (.tmp 98)) 9 (some (3, true)),
 mk (some 100) (.call { callee := (.value (.func 99)), args := #[(.tmp 96), (.tmp 99)], argTypes := #[9, 9] }) 4 (some (3, true)),
 op1 101 (.pick (.tmp 94) (.tmp 100) (.const (.bool false))) 4,
 asn 4 101 4] fr st (.seq .ret k)) ∧
 evK gS fi77 c77_68 fr st k = condK gS fi77 (fr.op (.tmp 89)).bool? c77_69 .skip fr st k ∧
 (evK gS fi77 c77_66 fr st k = opsR gS fi77 [op1 90 (.binOp .eql 3 (.tmp 22) (.const (.int .i64 9)) 3) 4,
 asn 89 90 4] fr st (.seq c77_68 k)) ∧
 evK gS fi77 c77_60 fr st k = condK gS fi77 (fr.op (.tmp 68)).bool? c77_61 c77_66 fr st k ∧
 (evK gS fi77 c77_58 fr st k = opsR gS fi77 [op1 69 (.binOp .eql 3 (.tmp 22) (.const (.int .i64 8)) 3) 4,
 asn 68 69 4] fr st (.seq c77_60 k)) ∧
 evK gS fi77 c77_54 fr st k = condK gS fi77 (fr.op (.tmp 61)).bool? c77_55 c77_58 fr st k ∧
 (evK gS fi77 c77_52 fr st k = opsR gS fi77 [op1 62 (.binOp .eql 3 (.tmp 22) (.const (.int .i64 7)) 3) 4,
 asn 61 62 4] fr st (.seq c77_54 k)) ∧
 evK gS fi77 c77_48 fr st k = condK gS fi77 (fr.op (.tmp 54)).bool? c77_49 c77_52 fr st k ∧
 (evK gS fi77 c77_46 fr st k = opsR gS fi77 [op1 55 (.binOp .eql 3 (.tmp 22) (.const (.int .i64 6)) 3) 4,
 asn 54 55 4] fr st (.seq c77_48 k)) ∧
 evK gS fi77 c77_42 fr st k = condK gS fi77 (fr.op (.tmp 47)).bool? c77_43 c77_46 fr st k ∧
 (evK gS fi77 c77_40 fr st k = opsR gS fi77 [op1 48 (.binOp .eql 3 (.tmp 22) (.const (.int .i64 5)) 3) 4,
 asn 47 48 4] fr st (.seq c77_42 k)) ∧
 evK gS fi77 c77_36 fr st k = condK gS fi77 (fr.op (.tmp 40)).bool? c77_37 c77_40 fr st k ∧
 (evK gS fi77 c77_34 fr st k = opsR gS fi77 [op1 41 (.binOp .eql 3 (.tmp 22) (.const (.int .i64 4)) 3) 4,
 asn 40 41 4] fr st (.seq c77_36 k)) ∧
 evK gS fi77 c77_30 fr st k = condK gS fi77 (fr.op (.tmp 32)).bool? c77_31 c77_34 fr st k ∧
 (evK gS fi77 c77_28 fr st k = opsR gS fi77 [op1 33 (.binOp .eql 3 (.tmp 22) (.const (.int .i64 3)) 3) 4,
 asn 32 33 4] fr st (.seq c77_30 k)) ∧
 evK gS fi77 c77_24 fr st k = condK gS fi77 (fr.op (.tmp 25)).bool? c77_25 c77_28 fr st k ∧
 (evK gS fi77 c77_22 fr st k = opsR gS fi77 [op1 26 (.binOp .eql 3 (.tmp 22) (.const (.int .i64 2)) 3) 4,
 asn 25 26 4] fr st (.seq c77_24 k)) ∧
 evK gS fi77 c77_18 fr st k = condK gS fi77 (fr.op (.tmp 23)).bool? c77_19 c77_22 fr st k ∧
 (evK gS fi77 c77_16 fr st k = opsR gS fi77 [op1 24 (.binOp .eql 3 (.tmp 22) (.const (.int .i64 1)) 3) 4,
 asn 23 24 4] fr st (.seq c77_18 k)) ∧
 evK gS fi77 c77_15 fr st k = evK gS fi77 c77_16 fr st (.blk 0 k) ∧
 (evK gS fi77 c77_13 fr st k = opsR gS fi77 [op1 21 (.fieldAddr 91 (.tmp 2) 1) 0,
 ld 22 3 21 3] fr st (.seq c77_15 k)) ∧
 evK gS fi77 c77_91 fr st k = opsR gS fi77 [op1 4 (.assign (.const (.bool true))) 4] fr st (.seq .ret k) ∧
 evK gS fi77 c77_90 fr st k = condK gS fi77 (fr.op (.tmp 111)).bool? c77_91 .skip fr st k ∧
 (evK gS fi77 c77_88 fr st k = opsR gS fi77 [ld 109 88 3 88,
 ld 110 88 10 88,
 cal 111 100 [(.tmp 109), (.tmp 110)] [88, 88] 4] fr st (.seq c77_90 k)) ∧
 (evK gS fi77 c77_86 fr st k = opsR gS fi77 [ixa 107 89 103 105 0,
 ld 108 88 107 88,
 op1 10 (.alloc 88) 0,
 sto 88 10 108] fr st (.seq c77_88 k)) ∧
 (evK gS fi77 c77_95 fr st k = opsR gS fi77 [op1 112 (.binOp .add 3 (.tmp 105) (.const (.int .i64 1)) 3) 3,
 mv 105 112 3] fr st k) ∧
 evK gS fi77 c77_84 fr st k = evK gS fi77 c77_86 fr st (.blk 2 (.seq c77_95 k)) ∧
 evK gS fi77 c77_80 fr st k = condK gS fi77 (fr.op (.tmp 106)).bool? .skip (.exit 1) fr st (.seq c77_84 k) ∧
 evK gS fi77 c77_78 fr st k = opsR gS fi77 [bop 106 .lss 3 105 104 3 0] fr st (.seq c77_80 k) ∧
 evK gS fi77 c77_76 fr st k = evK gS fi77 c77_77 fr st (.blk 1 k) ∧
 (evK gS fi77 c77_74 fr st k = opsR gS fi77 [op1 102 (.fieldAddr 91 (.tmp 2) 4) 0,
 ld 103 89 102 89,
 len1 104 103 89 3,
 op1 105 (.move (.const (.int .i64 0))) 3] fr st (.seq c77_76 k)) ∧
 evK gS fi77 c77_96 fr st k = opsR gS fi77 [op1 4 (.assign (.const (.bool false))) 4] fr st (.seq .ret k) ∧
 evK gS fi77 c77_73 fr st k = evK gS fi77 c77_74 fr st (.seq c77_96 k) ∧
 evK gS fi77 c77_12 fr st k = evK gS fi77 c77_13 fr st (.seq c77_73 k) ∧
 (evK gS fi77 c77_10 fr st k = opsR gS fi77 [ld 15 88 3 88,
 op1 16 (.fieldAddr 91 (.tmp 2) 2) 0,
 ld 17 88 16 88,
 cal 18 98 [(.tmp 15), (.tmp 17)] [88, 88] 125,
 mv 14 18 125,
 op1 19 (.extract (.tmp 14) 0) 3,
 op1 20 (.extract (.tmp 14) 1) 4,
 asn 5 19 3,
 asn 6 20 4] fr st (.seq c77_12 k)) ∧
 evK gS fi77 c77_2 fr st k = evK gS fi77 c77_3 fr st (.seq c77_10 k) ∧
 (evK gS fi77 c77_0 fr st k = opsR gS fi77 [op1 2 (.box 91 (.tmp 0)) 0,
 op1 3 (.box 88 (.tmp 1)) 0,
 op1 4 (.assign (.const (.bool false))) 4] fr st (.seq c77_2 k)) := ⟨evK_rs 2 rfl (by kernel_rfl), rfl, evK_rs 1 rfl (by kernel_rfl), evK_rs 6 rfl (by kernel_rfl), evK_rs 8 rfl (by kernel_rfl), evK_rs 10 rfl (by kernel_rfl), evK_rs 12 rfl (by kernel_rfl), evK_rs 14 rfl (by kernel_rfl), evK_rs 16 rfl (by kernel_rfl), evK_rs 18 rfl (by kernel_rfl), evK_rs 21 rfl (by kernel_rfl), evK_rs 20 rfl (by kernel_rfl), evK_rs 23 rfl (by kernel_rfl), rfl, evK_rs 22 rfl (by kernel_rfl), rfl, evK_rs 19 rfl (by kernel_rfl), rfl, evK_rs 17 rfl (by kernel_rfl), rfl, evK_rs 15 rfl (by kernel_rfl), rfl, evK_rs 13 rfl (by kernel_rfl), rfl, evK_rs 11 rfl (by kernel_rfl), rfl, evK_rs 9 rfl (by kernel_rfl), rfl, evK_rs 7 rfl (by kernel_rfl), rfl, evK_rs 5 rfl (by kernel_rfl), rfl, evK_rs 4 rfl (by kernel_rfl), evK_rs 28 rfl (by kernel_rfl), rfl, evK_rs 27 rfl (by kernel_rfl), evK_rs 26 rfl (by kernel_rfl), evK_r 29 (by kernel_rfl), rfl, rfl, evK_rs 25 rfl (by kernel_rfl), rfl, evK_rs 24 rfl (by kernel_rfl), evK_rs 30 rfl (by kernel_rfl), rfl, rfl, evK_rs 3 rfl (by kernel_rfl), rfl, evK_rs 0 rfl (by kernel_rfl)⟩
theorem m77 : mini fi77.body = c77_0 := by kernel_rfl
theorem n77_77 (fr : Fr) (st : St) (k : Kt) : nextK gS fi77 (.loop c77_78 k) .normal fr st = evK gS fi77 c77_77 fr st k := rfl
set_option maxHeartbeats 4000000 in
theorem L77_77 (p : Pred) (v : Val) (h_p : p.ok) (st : St) : ∀ (n i : Nat) (j : Int)  (e0 e1 e2 e4 e5 e6 e7 e8 e10 e22 : E) (T : List (Nat × E)) (X : List (Nat × List V)) (ht0 : e0.Tame) (ht1 : e1.Tame) (ht2 : e2.Tame) (ht4 : e4.Tame) (ht5 : e5.Tame) (ht6 : e6.Tame) (ht7 : e7.Tame) (ht8 : e8.Tame) (ht10 : e10.Tame) (ht22 : e22.Tame) (hx3 : lk X 3 = some [.int .i64 v.kind, .int .i64 v.n, .float .f64 v.x, .str v.s, .bool v.b]) , j = (i : Int) → i ≤ (p.set).length → (p.set).length - i = n →
    evK gS fi77 c77_77 { ps := [(0, e0), (1, e1), (2, e2), (3, .lp 3 0), (4, e4), (5, e5), (6, e6), (7, e7), (8, e8), (10, e10), (22, e22), (103, .val (.slice (encVals p.set))), (104, .val (.int .i64 p.set.length)), (105, .val (.int .i64 j))], ts := T, lc := X } st (.blk 1 (.seq c77_96 .nil)) = some ((.ret (.bool ((p.set.drop i).any (vis v))) none), st) := by
  intro n
  have hm : fi77.marks = [] := rfl
  have hl : fi77.locals = [2, 3, 10] := rfl
  have hr : fi77.results = [.tmp 4] := rfl
  have hpo := h_p.2
  induction n with
  | zero =>
    intro i j  e0 e1 e2 e4 e5 e6 e7 e8 e10 e22 T X ht0 ht1 ht2 ht4 ht5 ht6 ht7 ht8 ht10 ht22 hx3  hj hi hn
    obtain rfl : i = (p.set).length := by omega
    subst hj
    refine evK_loop c77_78 _ st _ _ rfl ?_
    simp (config := { contextual := true, maxSteps := 10000000, maxDischargeDepth := 6 }) [-Int.not_le, -Int.not_lt, -Nat.not_le, -Nat.not_lt, ty3, ty4, ty9, ty88, ty89, ty91, eq88, hm, hl, hr, k97, k100, k98, k99, E77, n77_77, ht0, ht1, ht2, ht4, ht5, ht6, ht7, ht8, ht10, ht22, hx3]
    all_goals first | done | grind | omega | (trace_state; fail)
  | succ n ih =>
    intro i j  e0 e1 e2 e4 e5 e6 e7 e8 e10 e22 T X ht0 ht1 ht2 ht4 ht5 ht6 ht7 ht8 ht10 ht22 hx3  hj hi hn
    subst hj
    obtain ⟨x, hx⟩ : ∃ x, (p.set)[i]? = some x := ⟨(p.set)[i]'(by omega), List.getElem?_eq_getElem (by omega)⟩
    have hd := drop_get hx
    have hlt : (i : Int) < ((p.set).length : Int) := by omega
    have hlt2 : i < (p.set).length := by omega
    have hxe : (p.set)[i]'hlt2 = x := by rw [List.getElem?_eq_getElem hlt2] at hx; exact Option.some.inj hx
    have hw : IntKind.wrap .i64 ((i : Int) + 1) = (i : Int) + 1 := wrap64 (by omega) (by omega)
    have IH := fun e0 e1 e2 e4 e5 e6 e7 e8 e10 e22 T X ht0 ht1 ht2 ht4 ht5 ht6 ht7 ht8 ht10 ht22 hx3 => ih (i + 1) ((i : Int) + 1) e0 e1 e2 e4 e5 e6 e7 e8 e10 e22 T X ht0 ht1 ht2 ht4 ht5 ht6 ht7 ht8 ht10 ht22 hx3 rfl (by omega) (by omega)
    refine evK_loop c77_78 _ st _ _ rfl ?_
    simp (config := { contextual := true, maxSteps := 10000000, maxDischargeDepth := 6 }) [-Int.not_le, -Int.not_lt, -Nat.not_le, -Nat.not_lt, ty3, ty4, ty9, ty88, ty89, ty91, eq88, hm, hl, hr, k97, k100, k98, k99, E77, n77_77, ht0, ht1, ht2, ht4, ht5, ht6, ht7, ht8, ht10, ht22, hx3, hx, hxe, hd, hlt, hlt2, hw, IH]
    all_goals first | done | grind | omega | (trace_state; fail)
set_option maxHeartbeats 4000000 in
theorem c77 (p : Pred) (v : Val)  (h_p : Pred.ok p) (st : St) : EvF gS 77 [p.enc, v.enc] st = some (.ret (.bool (ptakes p v)) none, st) := by
  refine EvF_start fi21_eq (fun x h => by cases h) m77 ?_
  rw [st77]
  have hm : fi77.marks = [] := rfl
  have hl : fi77.locals = [2, 3, 10] := rfl
  have hr : fi77.results = [.tmp 4] := rfl
  simp (config := { contextual := true, maxSteps := 10000000, maxDischargeDepth := 6 }) [-Int.not_le, -Int.not_lt, -Nat.not_le, -Nat.not_lt, ty3, ty4, ty9, ty88, ty89, ty91, eq88, hm, hl, hr, k97, k100, k98, k99, E77, n77_77, (fun e0 e1 e2 e4 e5 e6 e7 e8 e10 e22 T X ht0 ht1 ht2 ht4 ht5 ht6 ht7 ht8 ht10 ht22 hx3 => L77_77 p v h_p st _ 0 0  e0 e1 e2 e4 e5 e6 e7 e8 e10 e22 T X ht0 ht1 ht2 ht4 ht5 ht6 ht7 ht8 ht10 ht22 hx3 rfl (Nat.zero_le _) rfl), h_p.1, h_p.2]
  all_goals try simp (config := { contextual := true }) [-Int.not_le, -Int.not_lt, -Nat.not_le, -Nat.not_lt, ptakes]
  all_goals first | done | grind | omega | (trace_state; fail)
theorem k77 (p_name : List UInt8) (p_test : Int) (p_vk : Int) (p_vn : Int) (p_vx : Nat) (p_vs : List UInt8) (p_vb : Bool) (p_wk : Int) (p_wn : Int) (p_wx : Nat) (p_ws : List UInt8) (p_wb : Bool) (p_set : List Val) (v_k : Int) (v_n : Int) (v_x : Nat) (v_s : List UInt8) (v_b : Bool)  (h_p : Pred.ok (⟨p_name, p_test, ⟨p_vk, p_vn, p_vx, p_vs, p_vb⟩, ⟨p_wk, p_wn, p_wx, p_ws, p_wb⟩, p_set⟩ : Pred)) (fr : Fr) (st : St) : callStep gS (EvF gS) 77 [.agg [.str p_name, .int .i64 p_test, .int .i64 p_vk, .int .i64 p_vn, .float .f64 p_vx, .str p_vs, .bool p_vb, .int .i64 p_wk, .int .i64 p_wn, .float .f64 p_wx, .str p_ws, .bool p_wb, .slice (encVals p_set)], .agg [.int .i64 v_k, .int .i64 v_n, .float .f64 v_x, .str v_s, .bool v_b]] fr st = some (.ok (retE none (.bool (ptakes (⟨p_name, p_test, ⟨p_vk, p_vn, p_vx, p_vs, p_vb⟩, ⟨p_wk, p_wn, p_wx, p_ws, p_wb⟩, p_set⟩ : Pred) (⟨v_k, v_n, v_x, v_s, v_b⟩ : Val)))) fr st) :=
  call_pure rfl fi21_eq rfl (fun st => c77 (⟨p_name, p_test, ⟨p_vk, p_vn, p_vx, p_vs, p_vb⟩, ⟨p_wk, p_wn, p_wx, p_ws, p_wb⟩, p_set⟩ : Pred) (⟨v_k, v_n, v_x, v_s, v_b⟩ : Val) h_p st) (by simp)
end
end Go.Proofs.Ytdoobejjedpcgaa
namespace Go.Ab
open Go
set_option linter.unusedVariables false
set_option linter.unusedSimpArgs false
set_option linter.unnecessarySimpa false
def intVs (l : List Int) : List V := l.map (V.int .i64)
theorem intVs_length (l : List Int) : (intVs l).length = l.length := by simp [intVs]
theorem intVs_get (l : List Int) (i : Nat) : (intVs l)[i]? = (l[i]?).map (V.int .i64) := by simp [intVs]
theorem intVs_gE (l : List Int) (i : Nat) (h : i < (intVs l).length) : (intVs l)[i]'h = .int .i64 (l[i]'(by rw [intVs_length] at h; exact h)) := by simp [intVs]
theorem flats_ints (l : List Int) : flats (intVs l) = true := by
  induction l with
  | nil => rfl
  | cons x r ih => simp only [intVs, List.map_cons, flats, V.flat] at ih ⊢; exact ih
attribute [simp] intVs_length intVs_get intVs_gE flats_ints
def pickI (n m : Int) : Int := if m < 1 then 0 else if n.tmod m < 0 then n.tmod m + m else n.tmod m
theorem tmod_bound (n : Int) {m : Int} (h : 1 ≤ m) : -m < n.tmod m ∧ n.tmod m < m := by
  have b1 := Int.tmod_lt_of_pos n (by omega : 0 < m)
  refine ⟨?_, b1⟩
  rcases Int.lt_or_le n 0 with hk | hk
  · have : n.tmod m = -((-n).tmod m) := by rw [Int.neg_tmod]; omega
    have := Int.tmod_lt_of_pos (-n) (by omega : 0 < m)
    omega
  · have := Int.tmod_nonneg m hk; omega
theorem pickI_bound (n : Int) {m : Int} (h : 1 ≤ m) : 0 ≤ pickI n m ∧ pickI n m < m := by
  have := tmod_bound n h
  unfold pickI
  rw [if_neg (by omega)]
  split <;> omega
/-- The feed's memory. -/
def FeedAt (st : St) (id : Nat) (l : List Int) (a : Nat) : Prop := st.objs[id]? = some [.slice (intVs l), .int .i64 a] ∧ st.wp ≤ id
def setF (st : St) (id : Nat) (l : List Int) (a : Nat) : St := { st with objs := st.objs.set id [.slice (intVs l), .int .i64 a] }
theorem FeedAt.lt {st : St} {id : Nat} {l : List Int} {a : Nat} (h : FeedAt st id l a) : id < st.objs.length := (List.getElem?_eq_some_iff.1 h.1).1
theorem setF_setF (st : St) (id : Nat) (l : List Int) (a b : Nat) : setF (setF st id l a) id l b = setF st id l b := by
  unfold setF; simp
theorem setF_same {st : St} {id : Nat} {l : List Int} {a : Nat} (h : FeedAt st id l a) : setF st id l a = st := by
  unfold setF
  obtain ⟨os, wp⟩ := st
  have h1 : os[id]? = some [.slice (intVs l), .int .i64 a] := h.1
  have h2 : id < os.length := h.lt
  congr 1
  show os.set id _ = os
  apply List.ext_getElem?
  intro j
  rw [List.getElem?_set]
  split
  · rename_i hj; subst hj; rw [h1]
  · rfl
/-- The raw number at a place. -/
def rawAt (l : List Int) (a : Nat) : Int := IntKind.wrap .i64 (IntKind.wrap .i64 ((l.getD (a % l.length) 0).tdiv (1 + (a / l.length : Nat))) + (a / l.length : Nat))
def nextV (l : List Int) (a : Nat) (n : Int) : Int := if l = [] then 0 else pickI (rawAt l a) n
def nextA (l : List Int) (a : Nat) : Nat := if l = [] then a else a + 1
theorem nextV_bound (l : List Int) (a : Nat) {n : Int} (h : 1 ≤ n) : 0 ≤ nextV l a n ∧ nextV l a n < n := by
  unfold nextV; split
  · omega
  · exact pickI_bound _ h
/-- Where a feed stands when it was asked `j` times. -/
def nA (l : List Int) (a j : Nat) : Nat := if l = [] then a else a + j
theorem nA_next (l : List Int) (a j : Nat) : nextA l (nA l a j) = nA l a (j + 1) := by
  unfold nextA nA; split <;> omega
theorem nA_le (l : List Int) (a j : Nat) : nA l a j ≤ a + j := by unfold nA; split <;> omega
def FeedOk (st : St) (id : Nat) : Prop := id < st.objs.length ∧ st.wp ≤ id
theorem feed_at {st : St} {id : Nat} (h : FeedOk st id) (l : List Int) (b : Nat) : FeedAt (setF st id l b) id l b := by
  refine ⟨?_, h.2⟩
  show (st.objs.set id _)[id]? = _
  rw [List.getElem?_set_self h.1]
/-- What a feed yields that was asked `j` times. -/
def fd (l : List Int) (a j : Nat) (n : Int) : Int := nextV l (nA l a j) n
theorem fd_bound (l : List Int) (a j : Nat) {n : Int} (h : 1 ≤ n) : 0 ≤ fd l a j n ∧ fd l a j n < n := nextV_bound _ _ h
def F14 : List Nat := [0, 9223372036854775808, 4607182418800017408, 4609434218613702656, 4611686018427387904, 4613937818241073152, 13830554455654793216, 4591870180066957722, 9221120237041090561, 9218868437227405312, 18442240474082181120, 4845873199050653696, 4890909195324358656, 1]
def floatV (l : List Int) (a j : Nat) : Nat := F14.getD (fd l a j 14).toNat 0
def T6 : List (List UInt8) := [[], [97], [97, 98], [98], [98, 97], [116, 119, 101, 108, 118, 101, 32, 98, 121, 116, 101, 115]]
def N6 : List Int := [-9223372036854775808, 9223372036854775807, 9007199254740992, 9007199254740993, -1, 4611686018427387904]
/-- A right value: of two asks. -/
def valueV (l : List Int) (a j : Nat) : Val :=
  let z := fd l a j 8
  if z = 0 ∨ z = 1 then ⟨2, 0, floatV l a (j + 1), [], false⟩
  else if z = 2 then ⟨3, 0, 0, T6.getD (fd l a (j + 1) 6).toNat [], false⟩
  else if z = 3 then ⟨4, 0, 0, [], fd l a (j + 1) 2 = 1⟩
  else if z = 4 then ⟨1, N6.getD (fd l a (j + 1) 6).toNat 0, 0, [], false⟩
  else ⟨1, fd l a (j + 1) 5, 0, [], false⟩
/-- So many values, one behind the other. -/
def valsV (l : List Int) (a : Nat) : Nat → Nat → List Val
  | _, 0 => []
  | j, k + 1 => valueV l a j :: valsV l a (j + 2) k
def P4 : List (List UInt8) := [[], [97], [98], [97, 98]]
/-- A right test of a name, and how many asks it took. -/
def predV (l : List Int) (a j : Nat) (name : List UInt8) : Pred × Nat :=
  let t := 1 + fd l a j 10
  if t = 1 then (⟨name, 1, vzero, vzero, []⟩, 1)
  else if t = 9 then (⟨name, 9, ⟨3, 0, 0, P4.getD (fd l a (j + 1) 4).toNat [], false⟩, vzero, []⟩, 2)
  else if t = 10 then (⟨name, 10, vzero, vzero, valsV l a (j + 2) ((fd l a (j + 1) 4).toNat + 1)⟩, 2 + 2 * ((fd l a (j + 1) 4).toNat + 1))
  else if t = 8 then (⟨name, 8, valueV l a (j + 1), valueV l a (j + 3), []⟩, 5)
  else (⟨name, t, valueV l a (j + 1), vzero, []⟩, 3)
end Go.Ab
namespace Go.Proofs.Ytdoobejjedpcgaa
open Go Go.Ab
set_option linter.unusedVariables false
set_option linter.unusedSimpArgs false
set_option linter.unnecessarySimpa false
set_option maxRecDepth 20000
noncomputable section
variable (fr : Fr) (st : St) (k : Kt)
def fi29 : FI := { body := codeOf Try.f29, ntmps := 17, results := [.tmp 4], pers := [0, 1, 4, 5], locals := [], pure := true, marks := [] }
theorem fi52_eq : gS.fn 29 = some fi29 := by kernel_rfl
theorem st29 (a0 a1 : V) : startFr fi29 [a0, a1] = { ps := [(0, .val a0), (1, .val a1), (4, .any), (5, .any)], ts := [], lc := [] } := rfl
def b29 : Code := mini (codeOf Try.f29)
def c29_6 : Code := .seq (codeN b29 37) .ret
def c29_5 : Code := .cond (.tmp 7) c29_6 .skip
def c29_3 : Code := .seq (codeN b29 9) c29_5
def c29_16 : Code := codeN b29 87
def c29_15 : Code := .cond (.tmp 12) c29_16 .skip
def c29_13 : Code := .seq (codeN b29 39) c29_15
def c29_18 : Code := .seq (codeN b29 47) .ret
def c29_12 : Code := .seq c29_13 c29_18
def c29_10 : Code := .seq (codeN b29 11) c29_12
def c29_2 : Code := .seq c29_3 c29_10
def c29_0 : Code := .seq (codeN b29 2) c29_2
theorem E29 : evK gS fi29 c29_6 fr st k = opsR gS fi29 [op1 4 (.assign (.const (.int .i64 0))) 3] fr st (.seq .ret k) ∧
 evK gS fi29 c29_5 fr st k = condK gS fi29 (fr.op (.tmp 7)).bool? c29_6 .skip fr st k ∧
 (evK gS fi29 c29_3 fr st k = opsR gS fi29 [mv 6 1 3,
 op1 7 (.binOp .lss 3 (.tmp 6) (.const (.int .i64 1)) 3) 4] fr st (.seq c29_5 k)) ∧
 (evK gS fi29 c29_16 fr st k = opsR gS fi29 [mv 13 5 3,
 mv 14 1 3,
 bop 15 .add 3 13 14 3 3,
 asn 5 15 3] fr st k) ∧
 evK gS fi29 c29_15 fr st k = condK gS fi29 (fr.op (.tmp 12)).bool? c29_16 .skip fr st k ∧
 (evK gS fi29 c29_13 fr st k = opsR gS fi29 [mv 11 5 3,
 op1 12 (.binOp .lss 3 (.tmp 11) (.const (.int .i64 0)) 3) 4] fr st (.seq c29_15 k)) ∧
 (evK gS fi29 c29_18 fr st k = opsR gS fi29 [mv 16 5 3,
 asn 4 16 3] fr st (.seq .ret k)) ∧
 evK gS fi29 c29_12 fr st k = evK gS fi29 c29_13 fr st (.seq c29_18 k) ∧
 (evK gS fi29 c29_10 fr st k = opsR gS fi29 [mv 8 0 3,
 mv 9 1 3,
 bop 10 .rem 3 8 9 3 3,
 asn 5 10 3] fr st (.seq c29_12 k)) ∧
 evK gS fi29 c29_2 fr st k = evK gS fi29 c29_3 fr st (.seq c29_10 k) ∧
 evK gS fi29 c29_0 fr st k = opsR gS fi29 [op1 4 (.assign (.const (.int .i64 0))) 3] fr st (.seq c29_2 k) := ⟨evK_rs 2 rfl (by kernel_rfl), rfl, evK_rs 1 rfl (by kernel_rfl), evK_r 5 (by kernel_rfl), rfl, evK_rs 4 rfl (by kernel_rfl), evK_rs 6 rfl (by kernel_rfl), rfl, evK_rs 3 rfl (by kernel_rfl), rfl, evK_rs 0 rfl (by kernel_rfl)⟩
theorem m29 : mini fi29.body = c29_0 := by kernel_rfl
set_option maxHeartbeats 4000000 in
theorem c29 (n : Int) (m : Int) (hm1 : m ≤ 4611686018427387904) (st : St) : EvF gS 29 [.int .i64 n, .int .i64 m] st = some (.ret (.int .i64 (pickI n m)) none, st) := by
  refine EvF_start fi52_eq (fun x h => by cases h) m29 ?_
  rw [st29]
  have hm : fi29.marks = [] := rfl
  have hl : fi29.locals = [] := rfl
  have hr : fi29.results = [.tmp 4] := rfl
  by_cases h1 : m < 1
  · simp [h1, pickI, -Int.not_le, -Int.not_lt, -Nat.not_le, -Nat.not_lt, ty3, ty4, hm, hl, hr, E29]
  · have h0 : ¬ m = 0 := by omega
    have hb := tmod_bound n (m := m) (by omega)
    by_cases h2 : n.tmod m < 0
    · have hw : IntKind.wrap .i64 (n.tmod m + m) = n.tmod m + m := wrap64 (by omega) (by omega)
      simp [h1, h0, h2, hw, pickI, -Int.not_le, -Int.not_lt, -Nat.not_le, -Nat.not_lt, ty3, ty4, hm, hl, hr, E29]
    · simp [h1, h0, h2, pickI, -Int.not_le, -Int.not_lt, -Nat.not_le, -Nat.not_lt, ty3, ty4, hm, hl, hr, E29]
theorem k29 (n : Int) (m : Int) (hm1 : m ≤ 4611686018427387904) (fr : Fr) (st : St) : callStep gS (EvF gS) 29 [.int .i64 n, .int .i64 m] fr st = some (.ok (retE none (.int .i64 (pickI n m))) fr st) :=
  call_pure rfl fi52_eq rfl (fun st => c29 n m hm1 st) (by simp)
theorem x29 : gS.ext 29 = none := rfl
theorem p29 : fi29.pure = true := rfl
def fi11 : FI := { body := codeOf Try.f11, ntmps := 61, results := [.tmp 4], pers := [0, 1, 4, 5], locals := [], pure := false, marks := [] }
theorem fi16_eq : gS.fn 11 = some fi11 := by kernel_rfl
theorem st11 (a0 a1 : V) : startFr fi11 [a0, a1] = { ps := [(0, .val a0), (1, .val a1), (4, .any), (5, .any)], ts := [], lc := [] } := rfl
def b11 : Code := mini (codeOf Try.f11)
def c11_6 : Code := .seq (codeN b11 37) .ret
def c11_5 : Code := .cond (.tmp 11) c11_6 .skip
def c11_3 : Code := .seq (codeN b11 9) c11_5
def r11_11 : Array Oper := regOps (codeN (codeOf Try.f11) 11)
def c11_11 : Code := .region 3 r11_11 true
def q11_11 : List (Oper × Fl) := [(mv 12 0 23, ⟨true, false, true, false, false, false, true, true, false, false, []⟩),
 (op1 13 (.nilCheck (.tmp 12)) 0, ⟨true, false, true, false, false, false, true, true, false, false, []⟩),
 (op1 14 (.fieldAddr 25 (.tmp 13) 0) 0, ⟨true, false, true, false, false, false, true, true, false, false, []⟩),
 (ld 15 22 14 22, ⟨true, false, true, false, false, false, true, true, false, false, []⟩),
 (mv 16 0 23, ⟨true, false, true, false, false, false, true, true, false, false, []⟩),
 (op1 17 (.nilCheck (.tmp 16)) 0, ⟨true, false, true, false, false, false, true, true, false, false, []⟩),
 (op1 18 (.fieldAddr 25 (.tmp 17) 1) 0, ⟨true, false, true, false, false, false, true, true, false, false, []⟩),
 (ld 19 3 18 3, ⟨true, false, true, false, false, false, true, true, false, false, []⟩),
 (mv 20 0 23, ⟨true, false, true, false, false, false, true, true, false, false, []⟩),
 (op1 21 (.nilCheck (.tmp 20)) 0, ⟨true, false, true, false, false, false, true, true, false, false, []⟩),
 (op1 22 (.fieldAddr 25 (.tmp 21) 0) 0, ⟨true, false, true, false, false, false, true, true, false, false, []⟩),
 (ld 23 22 22 22, ⟨true, false, true, false, false, false, true, true, false, false, []⟩),
 (len1 24 23 22 3, ⟨true, false, true, false, false, false, true, true, false, false, []⟩),
 (bop 25 .rem 3 19 24 3 3, ⟨true, false, true, false, false, false, true, true, false, false, []⟩),
 (ixa 26 22 15 25 0, ⟨true, false, true, false, false, false, true, true, false, false, []⟩),
 (ld 27 3 26 3, ⟨true, false, true, false, false, false, true, true, false, false, []⟩),
 (mv 28 0 23, ⟨true, false, true, false, false, false, true, true, false, false, []⟩),
 (op1 29 (.nilCheck (.tmp 28)) 0, ⟨true, false, true, false, false, false, true, true, false, false, []⟩),
 (op1 30 (.fieldAddr 25 (.tmp 29) 1) 0, ⟨true, false, true, false, false, false, true, true, false, false, []⟩),
 (ld 31 3 30 3, ⟨true, false, true, false, false, false, true, true, false, false, []⟩),
 (mv 32 0 23, ⟨true, false, true, false, false, false, true, true, false, false, []⟩),
 (op1 33 (.nilCheck (.tmp 32)) 0, ⟨true, false, true, false, false, false, true, true, false, false, []⟩),
 (op1 34 (.fieldAddr 25 (.tmp 33) 0) 0, ⟨true, false, true, false, false, false, true, true, false, false, []⟩),
 (ld 35 22 34 22, ⟨true, false, true, false, false, false, true, true, false, false, []⟩),
 (len1 36 35 22 3, ⟨true, false, true, false, false, false, true, true, false, false, []⟩),
 (bop 37 .quo 3 31 36 3 3, ⟨true, false, true, false, false, false, true, true, false, false, []⟩),
 (op1 38 (.binOp .add 3 (.const (.int .i64 1)) (.tmp 37) 3) 3, ⟨true, false, true, false, false, false, true, true, false, false, []⟩),
 (bop 39 .quo 3 27 38 3 3, ⟨true, false, true, false, false, false, true, true, false, false, []⟩),
 (mv 40 0 23, ⟨true, false, true, false, false, false, true, true, false, false, []⟩),
 (op1 41 (.nilCheck (.tmp 40)) 0, ⟨true, false, true, false, false, false, true, true, false, false, []⟩),
 (op1 42 (.fieldAddr 25 (.tmp 41) 1) 0, ⟨true, false, true, false, false, false, true, true, false, false, []⟩),
 (ld 43 3 42 3, ⟨true, false, true, false, false, false, true, true, false, false, []⟩),
 (mv 44 0 23, ⟨true, false, true, false, false, false, true, true, false, false, []⟩),
 (op1 45 (.nilCheck (.tmp 44)) 0, ⟨true, false, true, false, false, false, true, true, false, false, []⟩),
 (op1 46 (.fieldAddr 25 (.tmp 45) 0) 0, ⟨true, false, true, false, true, false, true, true, false, false, []⟩),
 (ld 47 22 46 22, ⟨true, false, true, false, true, false, true, true, false, false, []⟩),
 (len1 48 47 22 3, ⟨true, false, true, false, true, false, true, true, false, false, []⟩),
 (bop 49 .quo 3 43 48 3 3, ⟨true, false, true, false, true, false, true, true, false, false, []⟩),
 (bop 50 .add 3 39 49 3 3, ⟨true, false, true, false, true, false, true, true, false, false, []⟩),
 (asn 5 50 3, ⟨true, true, true, false, true, false, true, true, false, false, []⟩)]
def c11_14 : Code := .seq (codeN b11 47) .ret
def c11_12 : Code := .seq (codeN b11 23) c11_14
def c11_10 : Code := .seq c11_11 c11_12
def c11_2 : Code := .seq c11_3 c11_10
def c11_0 : Code := .seq (codeN b11 2) c11_2
theorem E11 : evK gS fi11 c11_6 fr st k = opsR gS fi11 [op1 4 (.assign (.const (.int .i64 0))) 3] fr st (.seq .ret k) ∧
 evK gS fi11 c11_5 fr st k = condK gS fi11 (fr.op (.tmp 11)).bool? c11_6 .skip fr st k ∧
 (evK gS fi11 c11_3 fr st k = opsR gS fi11 [mv 6 0 23,
 op1 7 (.nilCheck (.tmp 6)) 0,
 op1 8 (.fieldAddr 25 (.tmp 7) 0) 0,
 ld 9 22 8 22,
 len1 10 9 22 3,
 op1 11 (.binOp .eql 3 (.tmp 10) (.const (.int .i64 0)) 3) 4] fr st (.seq c11_5 k)) ∧
 evK gS fi11 c11_11 fr st k = drwR gS fi11 r11_11 q11_11 fr st k ∧
 (evK gS fi11 c11_14 fr st k = opsR gS fi11 [mv 58 5 3,
 mv 59 1 3,
 cal 60 29 [(.tmp 58), (.tmp 59)] [3, 3] 3,
 asn 4 60 3] fr st (.seq .ret k)) ∧
 (evK gS fi11 c11_12 fr st k = opsR gS fi11 [mv 51 0 23,
 op1 52 (.nilCheck (.tmp 51)) 0,
 op1 53 (.fieldAddr 25 (.tmp 52) 1) 0,
 ld 54 3 53 3,
 op1 55 (.binOp .add 3 (.tmp 54) (.const (.int .i64 1)) 3) 3,
 op1 56 (.nilCheck (.tmp 51)) 0,
 op1 57 (.fieldAddr 25 (.tmp 56) 1) 0,
 sto 3 57 55] fr st (.seq c11_14 k)) ∧
 evK gS fi11 c11_10 fr st k = evK gS fi11 c11_11 fr st (.seq c11_12 k) ∧
 evK gS fi11 c11_2 fr st k = evK gS fi11 c11_3 fr st (.seq c11_10 k) ∧
 evK gS fi11 c11_0 fr st k = opsR gS fi11 [op1 4 (.assign (.const (.int .i64 0))) 3] fr st (.seq c11_2 k) := ⟨evK_rs 2 rfl (by kernel_rfl), rfl, evK_rs 1 rfl (by kernel_rfl), evK_dr 3 rfl (by kernel_rfl) (by kernel_rfl), evK_rs 5 rfl (by kernel_rfl), evK_rs 4 rfl (by kernel_rfl), rfl, rfl, evK_rs 0 rfl (by kernel_rfl)⟩
theorem m11 : mini fi11.body = c11_0 := by kernel_rfl
set_option maxHeartbeats 8000000 in
theorem c11 (l : List Int) (a id : Nat) (n : Int) (st : St) (h : FeedAt st id l a) (ha : a < 1099511627776) (hn : n ≤ 4611686018427387904) :
    EvF gS 11 [.ptr id 0, .int .i64 n] st = some (.ret (.int .i64 (nextV l a n)) none, setF st id l (nextA l a)) := by
  refine EvF_start fi16_eq (fun x h => by cases h) m11 ?_
  rw [st11]
  have hm : fi11.marks = [] := rfl
  have hl : fi11.locals = [] := rfl
  have hr : fi11.results = [.tmp 4] := rfl
  have ho := h.1
  have hwp : ¬ id < st.wp := by have := h.2; omega
  have hwp2 : st.wp ≤ id := h.2
  have hid := h.lt
  by_cases hne : l = []
  · subst hne
    have hs : setF st id [] a = st := setF_same h
    simp [nextV, nextA, hs, ho, -Int.not_le, -Int.not_lt, -Nat.not_le, -Nat.not_lt, ty3, ty4, ty22, ty23, ty25, hm, hl, hr, k29, x29, fi52_eq, p29, E11, q11_11]
  · have hlen : 0 < l.length := by cases l with | nil => exact (hne rfl).elim | cons _ _ => simp
    have e0 : ¬ (l.length : Int) = 0 := by omega
    have e1 : ((a : Nat) : Int).tmod (l.length : Int) = ((a % l.length : Nat) : Int) := by rw [Int.tmod_eq_emod_of_nonneg (by omega)]; omega
    have e2 : ((a : Nat) : Int).tdiv (l.length : Int) = ((a / l.length : Nat) : Int) := by rw [Int.tdiv_eq_ediv_of_nonneg (by omega)]; omega
    have e3 := Nat.mod_lt a hlen
    have e4 : a / l.length ≤ a := Nat.div_le_self _ _
    have hx : l[a % l.length]? = some (l.getD (a % l.length) 0) := by
      rw [List.getElem?_eq_getElem e3, List.getD_eq_getElem?_getD, List.getElem?_eq_getElem e3]; rfl
    have ea : IntKind.wrap .i64 ((a : Int) + 1) = (a : Int) + 1 := wrap64 (by omega) (by omega)
    have hxe : l[a % l.length]'e3 = l.getD (a % l.length) 0 := by rw [List.getElem?_eq_getElem e3] at hx; exact Option.some.inj hx
    simp only [nextV, nextA, hne, if_false, rawAt]
    generalize l.getD (a % l.length) 0 = x at *
    generalize a % l.length = rr at *
    generalize a / l.length = qq at *
    have e5 : IntKind.wrap .i64 (qq : Int) = (qq : Int) := wrap64 (by omega) (by omega)
    have e6 : IntKind.wrap .i64 (1 + (qq : Int)) = 1 + (qq : Int) := wrap64 (by omega) (by omega)
    have e7 : ¬ (1 + (qq : Int)) = 0 := by omega
    simp [-Int.natCast_emod, -Int.natCast_ediv, setF, ho, hne, e0, e1, e2, e3, e5, e6, e7, hx, hxe, ea, hn, hwp, hwp2, -Int.not_le, -Int.not_lt, -Nat.not_le, -Nat.not_lt, ty3, ty4, ty22, ty23, ty25, hm, hl, hr, k29, x29, fi52_eq, p29, E11, q11_11]
theorem k11 (l : List Int) (a j id : Nat) (n : Int) (fr : Fr) (st : St) (h : FeedOk st id) (ha : a < 549755813888) (hj : j < 549755813888) (hn : n ≤ 4611686018427387904) :
    callStep gS (EvF gS) 11 [.ptr id 0, .int .i64 n] fr (setF st id l (nA l a j)) = some (.ok (.val (.int .i64 (fd l a j n))) (fr.map E.noMem) (setF st id l (nA l a (j + 1)))) := by
  have hc := c11 l (nA l a j) id n (setF st id l (nA l a j)) (feed_at h l _) (by have := nA_le l a j; omega) hn
  rw [setF_setF, nA_next] at hc
  unfold callStep
  simp only [show gS.ext 11 = none from rfl, fi16_eq, show fi11.pure = false from rfl, Bool.false_eq_true, if_false, hc, retE]
  rfl
end
end Go.Proofs.Ytdoobejjedpcgaa
namespace Go.Proofs.Ytdoobejjedpcgaa
open Go Go.Ab
set_option linter.unusedVariables false
set_option linter.unusedSimpArgs false
set_option linter.unnecessarySimpa false
set_option maxRecDepth 20000
noncomputable section
variable (fr : Fr) (st : St) (k : Kt)
theorem kCopy (fr : Fr) (st : St) : callStep gS (EvF gS) 104 [.float .f64 0, .float .f64 13830554455654793216] fr st = some (.ok (.val (.float .f64 9223372036854775808)) fr st) := by
  have hc : EvF gS 104 [.float .f64 0, .float .f64 13830554455654793216] ⟨[], 0⟩ = some (.ret (.float .f64 9223372036854775808) none, ⟨[], 0⟩) := Evn.lim ⟨12, fun n hn => by
    obtain ⟨m, rfl⟩ : ∃ m, n = m + 12 := ⟨n - 12, by omega⟩
    kernel_rfl⟩
  obtain ⟨fi, hf, hp⟩ : ∃ fi, gS.fn 104 = some fi ∧ fi.pure = true := by
    refine ⟨(gS.fn 104).getD ⟨.skip, 0, [], [], [], false, []⟩, by kernel_rfl, by kernel_rfl⟩
  unfold callStep
  simp only [show gS.ext 104 = none from rfl, hf, hp, if_true, show flats [.float .f64 0, .float .f64 13830554455654793216] = true from by simp, hc, show V.flat (.float .f64 9223372036854775808) = true from rfl]
  rfl
theorem kNaN (fr : Fr) (st : St) : callStep gS (EvF gS) 105 [] fr st = some (.ok (.val (.float .f64 9221120237041090561)) fr st) := by
  have hc : EvF gS 105 [] ⟨[], 0⟩ = some (.ret (.float .f64 9221120237041090561) none, ⟨[], 0⟩) := Evn.lim ⟨12, fun n hn => by
    obtain ⟨m, rfl⟩ : ∃ m, n = m + 12 := ⟨n - 12, by omega⟩
    kernel_rfl⟩
  obtain ⟨fi, hf, hp⟩ : ∃ fi, gS.fn 105 = some fi ∧ fi.pure = true := by
    refine ⟨(gS.fn 105).getD ⟨.skip, 0, [], [], [], false, []⟩, by kernel_rfl, by kernel_rfl⟩
  unfold callStep
  simp only [show gS.ext 105 = none from rfl, hf, hp, if_true, show flats [] = true from by simp, hc, show V.flat (.float .f64 9221120237041090561) = true from rfl]
  rfl
theorem kInf (fr : Fr) (st : St) : callStep gS (EvF gS) 106 [.int .i64 1] fr st = some (.ok (.val (.float .f64 9218868437227405312)) fr st) := by
  have hc : EvF gS 106 [.int .i64 1] ⟨[], 0⟩ = some (.ret (.float .f64 9218868437227405312) none, ⟨[], 0⟩) := Evn.lim ⟨12, fun n hn => by
    obtain ⟨m, rfl⟩ : ∃ m, n = m + 12 := ⟨n - 12, by omega⟩
    kernel_rfl⟩
  obtain ⟨fi, hf, hp⟩ : ∃ fi, gS.fn 106 = some fi ∧ fi.pure = true := by
    refine ⟨(gS.fn 106).getD ⟨.skip, 0, [], [], [], false, []⟩, by kernel_rfl, by kernel_rfl⟩
  unfold callStep
  simp only [show gS.ext 106 = none from rfl, hf, hp, if_true, show flats [.int .i64 1] = true from by simp, hc, show V.flat (.float .f64 9218868437227405312) = true from rfl]
  rfl
theorem kInf2 (fr : Fr) (st : St) : callStep gS (EvF gS) 106 [.int .i64 (-1)] fr st = some (.ok (.val (.float .f64 18442240474082181120)) fr st) := by
  have hc : EvF gS 106 [.int .i64 (-1)] ⟨[], 0⟩ = some (.ret (.float .f64 18442240474082181120) none, ⟨[], 0⟩) := Evn.lim ⟨12, fun n hn => by
    obtain ⟨m, rfl⟩ : ∃ m, n = m + 12 := ⟨n - 12, by omega⟩
    kernel_rfl⟩
  obtain ⟨fi, hf, hp⟩ : ∃ fi, gS.fn 106 = some fi ∧ fi.pure = true := by
    refine ⟨(gS.fn 106).getD ⟨.skip, 0, [], [], [], false, []⟩, by kernel_rfl, by kernel_rfl⟩
  unfold callStep
  simp only [show gS.ext 106 = none from rfl, hf, hp, if_true, show flats [.int .i64 (-1)] = true from by simp, hc, show V.flat (.float .f64 18442240474082181120) = true from rfl]
  rfl
def fi85 : FI := { body := codeOf Try.f85, ntmps := 13, results := [.tmp 2], pers := [0, 2, 3], locals := [3], pure := false, marks := [] }
theorem fi66_eq : gS.fn 85 = some fi85 := by kernel_rfl
theorem st85 (a0 : V) : startFr fi85 [a0] = { ps := [(0, .val a0), (2, .any), (3, .any)], ts := [], lc := [] } := rfl
def b85 : Code := mini (codeOf Try.f85)
def c85_4 : Code := .seq (codeN b85 11) .ret
theorem e85_4 : evK gS fi85 c85_4 fr st k = opsR gS fi85 [mv 9 0 23,
 cal 10 11 [(.tmp 9), (.const (.int .i64 14))] [23, 3] 3,
 ixa 11 132 3 10 0,
 ld 12 86 11 86,
 asn 2 12 86] fr st (.seq .ret k) := evK_rs 2 rfl (by kernel_rfl)
def c85_2 : Code := .seq (codeN b85 5) c85_4
theorem e85_2 : evK gS fi85 c85_2 fr st k = opsR gS fi85 [cal 4 104 [(.const (.float .f64 0)), (.const (.float .f64 13830554455654793216))] [86, 86] 86,
 cal 5 105 [] [] 86,
 cal 6 106 [(.const (.int .i64 1))] [3] 86,
 cal 7 106 [(.const (.int .i64 (-1)))] [3] 86,
 op1 8 (.build 132 #[(0, (.const (.float .f64 0))), (1, (.tmp 4)), (2, (.const (.float .f64 4607182418800017408))), (3, (.const (.float .f64 4609434218613702656))), (4, (.const (.float .f64 4611686018427387904))), (5, (.const (.float .f64 4613937818241073152))), (6, (.const (.float .f64 13830554455654793216))), (7, (.const (.float .f64 4591870180066957722))), (8, (.tmp 5)), (9, (.tmp 6)), (10, (.tmp 7)), (11, (.const (.float .f64 4845873199050653696))), (12, (.const (.float .f64 4890909195324358656))), (13, (.const (.float .f64 1)))]) 132,
 op1 3 (.alloc 132) 0,
 sto 132 3 8] fr st (.seq c85_4 k) := evK_rs 1 rfl (by kernel_rfl)
def c85_0 : Code := .seq (codeN b85 2) c85_2
theorem e85_0 : evK gS fi85 c85_0 fr st k = opsR gS fi85 [op1 2 (.assign (.const (.float .f64 0))) 86] fr st (.seq c85_2 k) := evK_rs 0 rfl (by kernel_rfl)
theorem m85 : mini fi85.body = c85_0 := by kernel_rfl
set_option maxHeartbeats 8000000 in
theorem c85 (l : List Int) (a j id : Nat) (st : St) (h : FeedOk st id) (ha : a < 549755813888) (hj : j < 549755813888) :
    EvF gS 85 [.ptr id 0] (setF st id l (nA l a j)) = some (.ret (.float .f64 (floatV l a j)) none, setF st id l (nA l a (j + 1))) := by
  refine EvF_start fi66_eq (fun x h => by cases h) m85 ?_
  rw [st85]
  have hm : fi85.marks = [] := rfl
  have hl : fi85.locals = [3] := rfl
  have hr : fi85.results = [.tmp 2] := rfl
  have hb := fd_bound l a j (n := 14) (by omega)
  unfold floatV
  have hk := fun fr => k11 l a j id 14 fr st h ha hj (by omega)
  generalize fd l a j 14 = z at *
  have hz : z = 0 ∨ z = 1 ∨ z = 2 ∨ z = 3 ∨ z = 4 ∨ z = 5 ∨ z = 6 ∨ z = 7 ∨ z = 8 ∨ z = 9 ∨ z = 10 ∨ z = 11 ∨ z = 12 ∨ z = 13 := by omega
  rcases hz with rfl | rfl | rfl | rfl | rfl | rfl | rfl | rfl | rfl | rfl | rfl | rfl | rfl | rfl <;>
    simp [F14, hk, -Int.not_le, -Int.not_lt, -Nat.not_le, -Nat.not_lt, ty3, ty23, ty86, ty132, hm, hl, hr, kCopy, kNaN, kInf, kInf2, e85_4, e85_2, e85_0]
theorem k85 (l : List Int) (a j id : Nat) (fr : Fr) (st : St) (h : FeedOk st id) (ha : a < 549755813888) (hj : j < 549755813000) :
    callStep gS (EvF gS) 85 [.ptr id 0] fr (setF st id l (nA l a j)) = some (.ok (.val (.float .f64 (floatV l a j))) (fr.map E.noMem) (setF st id l (nA l a (j + 1)))) := by
  unfold callStep
  simp only [show gS.ext 85 = none from rfl, fi66_eq, show fi85.pure = false from rfl, Bool.false_eq_true, if_false, c85 l a j id st h ha (by omega), retE]
  all_goals rfl
def fi55 : FI := { body := codeOf Try.f55, ntmps := 38, results := [.cell 2 88], pers := [0, 2, 3, 4, 6, 7], locals := [2, 3, 4], pure := false, marks := [] }
theorem fi17_eq : gS.fn 55 = some fi55 := by kernel_rfl
theorem st55 (a0 : V) : startFr fi55 [a0] = { ps := [(0, .val a0), (2, .any), (3, .any), (4, .any), (6, .any), (7, .any)], ts := [], lc := [] } := rfl
def b55 : Code := mini (codeOf Try.f55)
def c55_11 : Code := codeN b55 229
def c55_9 : Code := .cond (.tmp 7) .skip c55_11
def c55_7 : Code := .seq (codeN b55 69) c55_9
def c55_13 : Code := .seq (codeN b55 149) .ret
def c55_21 : Code := .seq (codeN b55 1397) .ret
def c55_19 : Code := .seq (codeN b55 629) c55_21
def c55_27 : Code := .seq (codeN b55 2549) .ret
def c55_35 : Code := .seq (codeN b55 22517) .ret
def c55_33 : Code := .seq (codeN b55 10229) c55_35
def c55_32 : Code := .cond (.tmp 27) c55_33 .skip
def c55_30 : Code := .seq (codeN b55 3061) c55_32
def c55_26 : Code := .cond (.tmp 21) c55_27 c55_30
def c55_24 : Code := .seq (codeN b55 757) c55_26
def c55_18 : Code := .cond (.tmp 13) c55_19 c55_24
def c55_16 : Code := .seq (codeN b55 181) c55_18
def c55_12 : Code := .cond (.tmp 7) c55_13 c55_16
def c55_6 : Code := .seq c55_7 c55_12
def c55_5 : Code := .block 0 c55_6
def c55_3 : Code := .seq (codeN b55 9) c55_5
def c55_39 : Code := .seq (codeN b55 11) .ret
def c55_2 : Code := .seq c55_3 c55_39
def c55_0 : Code := .seq (codeN b55 2) c55_2
theorem E55 : (evK gS fi55 c55_11 fr st k = opsR gS fi55 [op1 9 (.binOp .eql 3 (.tmp 6) (.const (.int .i64 1)) 3) 4,
 asn 7 9 4] fr st k) ∧
 evK gS fi55 c55_9 fr st k = condK gS fi55 (fr.op (.tmp 7)).bool? .skip c55_11 fr st k ∧
 (evK gS fi55 c55_7 fr st k = opsR gS fi55 [op1 8 (.binOp .eql 3 (.tmp 6) (.const (.int .i64 0)) 3) 4,
 asn 7 8 4] fr st (.seq c55_9 k)) ∧
 (evK gS fi55 c55_13 fr st k = opsR gS fi55 [mv 10 0 23,
 cal 11 85 [(.tmp 10)] [23] 86,
 op1 12 (.build 88 #[(0, (.const (.int .i64 2))), (2, (.tmp 11))]) 88,
 sto 88 2 12] fr st (.seq .ret k)) ∧
 (evK gS fi55 c55_21 fr st k = opsR gS fi55 [mv 16 0 23,
 cal 17 11 [(.tmp 16), (.const (.int .i64 6))] [23, 3] 3,
 ixa 18 117 3 17 0,
 ld 19 9 18 9,
 op1 20 (.build 88 #[(0, (.const (.int .i64 3))), (3, (.tmp 19))]) 88,
 sto 88 2 20] fr st (.seq .ret k)) ∧
 (evK gS fi55 c55_19 fr st k = opsR gS fi55 [op1 15 (.build 117 #[(0, (.const (.string { data := #[] }))), (1, (.const (.string { data := #[97] }))), (2, (.const (.string { data := #[97, 98] }))), (3, (.const (.string { data := #[98] }))), (4, (.const (.string { data := #[98, 97] }))), (5, (.const (.string { data := #[116, 119, 101, 108, 118, 101, 32, 98, 121, 116, 101, 115] })))]) 117,
 op1 3 (.alloc 117) 0,
 sto 117 3 15] fr st (.seq c55_21 k)) ∧
 (evK gS fi55 c55_27 fr st k = opsR gS fi55 [mv 23 0 23,
 cal 24 11 [(.tmp 23), (.const (.int .i64 2))] [23, 3] 3,
 op1 25 (.binOp .eql 3 (.tmp 24) (.const (.int .i64 1)) 3) 4,
 op1 26 (.build 88 #[(0, (.const (.int .i64 4))), (4, (.tmp 25))]) 88,
 sto 88 2 26] fr st (.seq .ret k)) ∧
 (evK gS fi55 c55_35 fr st k = opsR gS fi55 [mv 30 0 23,
 cal 31 11 [(.tmp 30), (.const (.int .i64 6))] [23, 3] 3,
 ixa 32 118 4 31 0,
 ld 33 2 32 2,
 op1 34 (.build 88 #[(0, (.const (.int .i64 1))), (1, (.tmp 33))]) 88,
 sto 88 2 34] fr st (.seq .ret k)) ∧
 (evK gS fi55 c55_33 fr st k = opsR gS fi55 [op1 29 (.build 118 #[(0, (.const (.int .i64 (-9223372036854775808)))), (1, (.const (.int .i64 9223372036854775807))), (2, (.const (.int .i64 9007199254740992))), (3, (.const (.int .i64 9007199254740993))), (4, (.const (.int .i64 (-1)))), (5, (.const (.int .i64 4611686018427387904)))]) 118,
 op1 4 (.alloc 118) 0,
 sto 118 4 29] fr st (.seq c55_35 k)) ∧
 evK gS fi55 c55_32 fr st k = condK gS fi55 (fr.op (.tmp 27)).bool? c55_33 .skip fr st k ∧
 (evK gS fi55 c55_30 fr st k = opsR gS fi55 [op1 28 (.binOp .eql 3 (.tmp 6) (.const (.int .i64 4)) 3) 4,
 asn 27 28 4] fr st (.seq c55_32 k)) ∧
 evK gS fi55 c55_26 fr st k = condK gS fi55 (fr.op (.tmp 21)).bool? c55_27 c55_30 fr st k ∧
 (evK gS fi55 c55_24 fr st k = opsR gS fi55 [op1 22 (.binOp .eql 3 (.tmp 6) (.const (.int .i64 3)) 3) 4,
 asn 21 22 4] fr st (.seq c55_26 k)) ∧
 evK gS fi55 c55_18 fr st k = condK gS fi55 (fr.op (.tmp 13)).bool? c55_19 c55_24 fr st k ∧
 (evK gS fi55 c55_16 fr st k = opsR gS fi55 [op1 14 (.binOp .eql 3 (.tmp 6) (.const (.int .i64 2)) 3) 4,
 asn 13 14 4] fr st (.seq c55_18 k)) ∧
 evK gS fi55 c55_12 fr st k = condK gS fi55 (fr.op (.tmp 7)).bool? c55_13 c55_16 fr st k ∧
 evK gS fi55 c55_6 fr st k = evK gS fi55 c55_7 fr st (.seq c55_12 k) ∧
 evK gS fi55 c55_5 fr st k = evK gS fi55 c55_6 fr st (.blk 0 k) ∧
 (evK gS fi55 c55_3 fr st k = opsR gS fi55 [mv 5 0 23,
 cal 6 11 [(.tmp 5), (.const (.int .i64 8))] [23, 3] 3] fr st (.seq c55_5 k)) ∧
 (evK gS fi55 c55_39 fr st k = opsR gS fi55 [mv 35 0 23,
 cal 36 11 [(.tmp 35), (.const (.int .i64 5))] [23, 3] 3,
 op1 37 (.build 88 #[(0, (.const (.int .i64 1))), (1, (.tmp 36))]) 88,
 sto 88 2 37] fr st (.seq .ret k)) ∧
 evK gS fi55 c55_2 fr st k = evK gS fi55 c55_3 fr st (.seq c55_39 k) ∧
 evK gS fi55 c55_0 fr st k = opsR gS fi55 [op1 2 (.alloc 88) 0] fr st (.seq c55_2 k) := ⟨evK_r 3 (by kernel_rfl), rfl, evK_rs 2 rfl (by kernel_rfl), evK_rs 4 rfl (by kernel_rfl), evK_rs 7 rfl (by kernel_rfl), evK_rs 6 rfl (by kernel_rfl), evK_rs 9 rfl (by kernel_rfl), evK_rs 12 rfl (by kernel_rfl), evK_rs 11 rfl (by kernel_rfl), rfl, evK_rs 10 rfl (by kernel_rfl), rfl, evK_rs 8 rfl (by kernel_rfl), rfl, evK_rs 5 rfl (by kernel_rfl), rfl, rfl, rfl, evK_rs 1 rfl (by kernel_rfl), evK_rs 13 rfl (by kernel_rfl), rfl, evK_rs 0 rfl (by kernel_rfl)⟩
theorem m55 : mini fi55.body = c55_0 := by kernel_rfl
set_option maxHeartbeats 8000000 in
theorem c55 (l : List Int) (a j id : Nat) (st : St) (h : FeedOk st id) (ha : a < 549755813888) (hj : j < 549755812000) :
    EvF gS 55 [.ptr id 0] (setF st id l (nA l a j)) = some (.ret (valueV l a j).enc none, setF st id l (nA l a (j + 2))) := by
  refine EvF_start fi17_eq (fun x h => by cases h) m55 ?_
  rw [st55]
  have hm : fi55.marks = [] := rfl
  have hl : fi55.locals = [2, 3, 4] := rfl
  have hr : fi55.results = [.cell 2 88] := rfl
  have hb := fd_bound l a j (n := 8) (by omega)
  have hb6 := fd_bound l a (j + 1) (n := 6) (by omega)
  unfold valueV
  have hk := fun fr => k11 l a j id 8 fr st h ha (by omega) (by omega)
  have hk6 := fun fr => k11 l a (j + 1) id 6 fr st h ha (by omega) (by omega)
  have hk2 := fun fr => k11 l a (j + 1) id 2 fr st h ha (by omega) (by omega)
  have hk5 := fun fr => k11 l a (j + 1) id 5 fr st h ha (by omega) (by omega)
  have hf1 := fun fr => k85 l a (j + 1) id fr st h ha (by omega)
  generalize fd l a j 8 = z at *
  generalize fd l a (j + 1) 6 = y at *
  have hz : z = 0 ∨ z = 1 ∨ z = 2 ∨ z = 3 ∨ z = 4 ∨ z = 5 ∨ z = 6 ∨ z = 7 := by omega
  have hy : y = 0 ∨ y = 1 ∨ y = 2 ∨ y = 3 ∨ y = 4 ∨ y = 5 := by omega
  rcases hz with rfl | rfl | rfl | rfl | rfl | rfl | rfl | rfl
  case inr.inr.inl => rcases hy with rfl | rfl | rfl | rfl | rfl | rfl <;> simp [T6, hk, hk6, hk2, hk5, hf1, -Int.not_le, -Int.not_lt, -Nat.not_le, -Nat.not_lt, ty2, ty3, ty4, ty9, ty23, ty86, ty88, ty117, ty118, eq88, hm, hl, hr, E55]
  case inr.inr.inr.inr.inl => rcases hy with rfl | rfl | rfl | rfl | rfl | rfl <;> simp [N6, hk, hk6, hk2, hk5, hf1, -Int.not_le, -Int.not_lt, -Nat.not_le, -Nat.not_lt, ty2, ty3, ty4, ty9, ty23, ty86, ty88, ty117, ty118, eq88, hm, hl, hr, E55]
  all_goals simp [hk, hk6, hk2, hk5, hf1, -Int.not_le, -Int.not_lt, -Nat.not_le, -Nat.not_lt, ty2, ty3, ty4, ty9, ty23, ty86, ty88, ty117, ty118, eq88, hm, hl, hr, E55]
end
end Go.Proofs.Ytdoobejjedpcgaa
namespace Go.Ab
open Go
set_option linter.unusedVariables false
set_option linter.unusedSimpArgs false
set_option linter.unnecessarySimpa false
/-- So many objects more that are given up. -/
def dd (st : St) (m : Nat) : St := { st with objs := st.objs ++ List.replicate m [] }
/-- And one behind them. -/
def nw (st : St) (m : Nat) (cs : List V) : St := { st with objs := st.objs ++ (List.replicate m [] ++ [cs]) }
theorem dd_zero (st : St) : dd st 0 = st := by unfold dd; simp
theorem dd_len (st : St) (m : Nat) : (dd st m).objs.length = st.objs.length + m := by simp [dd]
theorem gr_len (st : St) (m : Nat) (cs : List V) : (nw st m cs).objs.length = st.objs.length + m + 1 := by simp [nw]; omega
theorem setF_len (st : St) (id : Nat) (l : List Int) (a : Nat) : (setF st id l a).objs.length = st.objs.length := by simp [setF]
theorem setF_wp (st : St) (id : Nat) (l : List Int) (a : Nat) : (setF st id l a).wp = st.wp := rfl
theorem dd_wp (st : St) (m : Nat) : (dd st m).wp = st.wp := rfl
theorem gr_wp (st : St) (m : Nat) (cs : List V) : (nw st m cs).wp = st.wp := rfl
theorem FeedOk.dd {st : St} {id : Nat} (h : FeedOk st id) (m : Nat) : FeedOk (dd st m) id := ⟨by rw [dd_len]; have := h.1; omega, h.2⟩
theorem FeedOk.nw {st : St} {id : Nat} (h : FeedOk st id) (m : Nat) (cs : List V) : FeedOk (nw st m cs) id := ⟨by rw [gr_len]; have := h.1; omega, h.2⟩
theorem FeedOk.setF {st : St} {id id' : Nat} (h : FeedOk st id) (l : List Int) (a : Nat) : FeedOk (setF st id' l a) id := ⟨by rw [setF_len]; exact h.1, h.2⟩
theorem dd_dd (st : St) (m n : Nat) : dd (dd st m) n = dd st (m + n) := by unfold dd; simp [List.append_assoc, List.replicate_append_replicate]
theorem setF_dd {st : St} {id : Nat} (h : FeedOk st id) (m : Nat) (l : List Int) (a : Nat) : dd (setF st id l a) m = setF (dd st m) id l a := by
  unfold dd setF; simp only [St.mk.injEq, and_true]; rw [List.set_append_left _ _ h.1]
theorem setF_gr {st : St} {id : Nat} (h : FeedOk st id) (m : Nat) (cs : List V) (l : List Int) (a : Nat) : nw (setF st id l a) m cs = setF (nw st m cs) id l a := by
  unfold nw setF; simp only [St.mk.injEq, and_true]; rw [List.set_append_left _ _ h.1]
theorem gr_obj (st : St) (m : Nat) (cs : List V) : (nw st m cs).objs[st.objs.length + m]? = some cs := by
  simp [nw]
theorem obj_gr {st : St} {id : Nat} (h : FeedOk st id) (m : Nat) (cs : List V) (l : List Int) (a : Nat) : St.obj (setF (nw st m cs) id l a) (st.objs.length + m) = some cs := by
  unfold St.obj setF
  show ((nw st m cs).objs.set id _)[_]? = _
  rw [List.getElem?_set_ne (by have := h.1; omega), gr_obj]
theorem set_gr {st : St} {id : Nat} (h : FeedOk st id) (m : Nat) (cs : List V) (l : List Int) (a : Nat) : St.set (setF (nw st m cs) id l a) (st.objs.length + m) [] = some (setF (dd st (m + 1)) id l a) := by
  have h1 := h.1
  have h2 := h.2
  unfold St.set
  rw [if_pos (by rw [setF_wp, gr_wp]; omega)]
  rw [← setF_gr h, ← setF_dd h]
  unfold nw dd
  simp only [Option.some.injEq, St.mk.injEq, and_true]
  rw [List.set_append_right _ _ (by rw [setF_len]; omega), setF_len, show st.objs.length + m - st.objs.length = m by omega, List.set_append_right _ _ (by simp), List.replicate_succ', List.length_replicate, Nat.sub_self]
  rfl
theorem set_gr' {st : St} {id : Nat} (h : FeedOk st id) (m : Nat) (cs cs' : List V) (l : List Int) (a : Nat) : St.set (setF (nw st m cs) id l a) (st.objs.length + m) cs' = some (setF (nw st m cs') id l a) := by
  have h1 := h.1
  have h2 := h.2
  unfold St.set
  rw [if_pos (by rw [setF_wp, gr_wp]; omega)]
  rw [← setF_gr h, ← setF_gr h]
  unfold nw
  simp only [Option.some.injEq, St.mk.injEq, and_true]
  rw [List.set_append_right _ _ (by rw [setF_len]; omega), setF_len, show st.objs.length + m - st.objs.length = m by omega, List.set_append_right _ _ (by simp), List.length_replicate, Nat.sub_self]
  rfl
theorem newRef_dd {st : St} {id : Nat} (h : FeedOk st id) (fr : Fr) (m k len : Nat) (cs : List V) (l : List Int) (a : Nat) :
    newRef fr (setF (dd st m) id l a) k len cs = .ok (.val (.sref false k (st.objs.length + m) 0 len)) fr (setF (nw st m cs) id l a) := by
  unfold newRef
  rw [setF_len, dd_len, ← setF_dd h, ← setF_gr h]
  unfold nw dd
  simp
theorem newRef_setF {st : St} {id : Nat} (h : FeedOk st id) (fr : Fr) (k len : Nat) (cs : List V) (l : List Int) (a : Nat) :
    newRef fr (setF st id l a) k len cs = .ok (.val (.sref false k st.objs.length 0 len)) fr (setF (nw st 0 cs) id l a) := by
  have := newRef_dd h fr 0 k len cs l a
  rw [dd_zero] at this
  exact this
mutual
theorem frz_flat : ∀ (n : Nat) (st : St) (v : V), v.flat = true → frz n st v = some (v, st)
  | 0, _, _, _ => by unfold frz; rfl
  | n + 1, st, v, h => by
    unfold frz
    split
    · simp [V.flat] at h
    · rw [frzL_flat n st _ (by simpa [V.flat] using h)]
    · rw [frzL_flat n st _ (by simpa [V.flat] using h)]
    · rfl
    · rw [if_pos (by simpa [V.flat] using h)]
    · rfl
theorem frzL_flat : ∀ (n : Nat) (st : St) (l : List V), flats l = true → frzL (frz n) st l = some (l, st)
  | _, _, [], _ => rfl
  | n, st, v :: r, h => by
    simp only [flats, Bool.and_eq_true] at h
    unfold frzL
    rw [frz_flat n st v h.1]
    simp only
    rw [frzL_flat n st r h.2]
end
theorem frzL_cons {f : St → V → Option (V × St)} {st st' : St} {v v' : V} {r : List V} (h : f st v = some (v', st')) : frzL f st (v :: r) = match frzL f st' r with
      | some (r', st'') => some (v' :: r', st'')
      | none => none := by
  simp only [frzL, h]
  cases frzL f st' r with
  | none => rfl
  | some x => rfl
theorem frzL_append {f : St → V → Option (V × St)} {st st' st'' : St} : ∀ {xs xs' ys ys' : List V}, frzL f st xs = some (xs', st') → frzL f st' ys = some (ys', st'') → frzL f st (xs ++ ys) = some (xs' ++ ys', st'')
  | [], _, _, _, h, k => by unfold frzL at h; cases h; exact k
  | v :: r, _, ys, ys', h, k => by
    unfold frzL at h
    split at h
    · rename_i v' st1 h1
      split at h
      · rename_i r' st2 h2
        cases h
        rw [List.cons_append, frzL_cons h1, frzL_append h2 k]; rfl
      · cases h
    · cases h
theorem chunk_enc {α : Type} (cells : α → List V) (k : Nat) (hk : 0 < k) (hl : ∀ x, (cells x).length = k) : ∀ (vs : List α), chunk true k vs.length (vs.flatMap cells) = vs.map fun x => V.agg (cells x)
  | [] => rfl
  | x :: r => by
    rw [List.length_cons, chunk, List.flatMap_cons, List.take_left' (hl x), List.drop_left' (hl x), chunk_enc cells k hk hl r]; rfl
theorem vals_cells_len (vs : List Val) : (vs.flatMap Val.cells).length = vs.length * 5 := by
  induction vs with
  | nil => rfl
  | cons x r ih => simp [List.flatMap_cons, ih, Val.cells]; omega
theorem vals_cells_one (vs : List Val) : (vs.flatMap Val.cells).all V.one = true := by
  induction vs with
  | nil => rfl
  | cons x r ih => simp [List.flatMap_cons, ih, Val.cells, V.one]
theorem vals_cells_flat (vs : List Val) : flats (vs.flatMap Val.cells) = true := by
  induction vs with
  | nil => rfl
  | cons x r ih =>
    have : ∀ (a b : List V), flats a = true → flats b = true → flats (a ++ b) = true := by
      intro a
      induction a with
      | nil => intro b _ h; exact h
      | cons v a iha => intro b h1 h2; simp only [flats, List.cons_append, Bool.and_eq_true] at h1 ⊢; exact ⟨h1.1, iha b h1.2 h2⟩
    rw [List.flatMap_cons]
    exact this _ _ (by simp [Val.cells, flats, V.flat]) ih
theorem vals_cells_strip (vs : List Val) : (vs.flatMap Val.cells).map V.strip1 = vs.flatMap Val.cells := by
  induction vs with
  | nil => rfl
  | cons x r ih => simp [List.flatMap_cons, ih, Val.cells, V.strip1]
theorem chunk_vals (vs : List Val) : chunk true 5 vs.length (vs.flatMap Val.cells) = encVals vs := chunk_enc Val.cells 5 (by omega) (fun _ => rfl) vs
/-- A row of values is given up. -/
theorem frz_vals {st : St} {id : Nat} (h : FeedOk st id) (n m : Nat) (vs : List Val) (hv : vs ≠ []) (l : List Int) (a : Nat) :
    frz (n + 1) (setF (nw st m (vs.flatMap Val.cells)) id l a) (.sref false 5 (st.objs.length + m) 0 vs.length) = some (.slice (encVals vs), setF (dd st (m + 1)) id l a) := by
  have hl : ¬ vs.length = 0 := by simpa using hv
  unfold frz
  simp only [hl, if_false, obj_gr h, set_gr h, vals_cells_len, List.drop_zero, Nat.zero_add, Nat.le_refl, and_true, show (0 < 5) = True by simp, if_true]
  rw [List.take_of_length_le (by rw [vals_cells_len]; omega), vals_cells_strip, frzL_flat _ _ _ (vals_cells_flat vs)]
  simp only [vals_cells_len, vals_cells_one, and_self, if_true]
  rw [show Nat.blt 1 5 = true from rfl, chunk_vals]
theorem frz_predcells {st st' : St} {n : Nat} {a0 a1 a2 a3 a4 a5 a6 a7 a8 a9 a10 a11 s s' : V} (hf : flats [a0, a1, a2, a3, a4, a5, a6, a7, a8, a9, a10, a11] = true) (hs : frz n st s = some (s', st')) :
    frz (n + 1) st (.agg [a0, a1, a2, a3, a4, a5, a6, a7, a8, a9, a10, a11, s]) = some (.agg [a0, a1, a2, a3, a4, a5, a6, a7, a8, a9, a10, a11, s'], st') := by
  unfold frz
  have h1 := frzL_flat n st _ hf
  have h2 : frzL (frz n) st [s] = some ([s'], st') := by rw [frzL_cons hs]; rfl
  have := frzL_append h1 h2
  simp only [List.cons_append, List.nil_append] at this
  simp only [this]
theorem frz_nil (n : Nat) (st : St) : frz (n + 1) st (.sref true 0 0 0 0) = some (.slice [], st) := by unfold frz; rfl
theorem w64_1 : IntKind.wrap .i64 1 = 1 := by kernel_rfl
theorem w64_2 : IntKind.wrap .i64 2 = 2 := by kernel_rfl
theorem w64_3 : IntKind.wrap .i64 3 = 3 := by kernel_rfl
theorem w64_4 : IntKind.wrap .i64 4 = 4 := by kernel_rfl
theorem w64_5 : IntKind.wrap .i64 5 = 5 := by kernel_rfl
theorem w64_6 : IntKind.wrap .i64 6 = 6 := by kernel_rfl
theorem w64_7 : IntKind.wrap .i64 7 = 7 := by kernel_rfl
theorem w64_8 : IntKind.wrap .i64 8 = 8 := by kernel_rfl
theorem w64_9 : IntKind.wrap .i64 9 = 9 := by kernel_rfl
theorem w64_10 : IntKind.wrap .i64 10 = 10 := by kernel_rfl
end Go.Ab
namespace Go.Ab
open Go
set_option linter.unusedVariables false
set_option linter.unusedSimpArgs false
set_option linter.unnecessarySimpa false
def FVR : List (Val × Option (Int × Int)) := [
  (vzero, none),
  (⟨2, 0, 0, [], false⟩, some (1, 0)), (⟨2, 0, 9223372036854775808, [], false⟩, some (1, 0)), (⟨2, 0, 4607182418800017408, [], false⟩, some (1, 3)),
  (⟨2, 0, 4609434218613702656, [], false⟩, some (1, 4)), (⟨2, 0, 4611686018427387904, [], false⟩, some (1, 5)), (⟨2, 0, 4613937818241073152, [], false⟩, some (1, 6)),
  (⟨2, 0, 13830554455654793216, [], false⟩, some (1, -1)), (⟨2, 0, 4591870180066957722, [], false⟩, some (1, 2)), (⟨2, 0, 9221120237041090561, [], false⟩, none),
  (⟨2, 0, 9218868437227405312, [], false⟩, some (1, 20)), (⟨2, 0, 18442240474082181120, [], false⟩, some (1, -20)), (⟨2, 0, 4845873199050653696, [], false⟩, some (1, 8)),
  (⟨2, 0, 4890909195324358656, [], false⟩, some (1, 12)), (⟨2, 0, 1, [], false⟩, some (1, 1)),
  (⟨3, 0, 0, [], false⟩, some (3, 0)), (⟨3, 0, 0, [97], false⟩, some (3, 1)), (⟨3, 0, 0, [97, 98], false⟩, some (3, 2)), (⟨3, 0, 0, [98], false⟩, some (3, 3)), (⟨3, 0, 0, [98, 97], false⟩, some (3, 4)),
  (⟨3, 0, 0, [116, 119, 101, 108, 118, 101, 32, 98, 121, 116, 101, 115], false⟩, some (3, 5)),
  (⟨4, 0, 0, [], false⟩, some (4, 0)), (⟨4, 0, 0, [], true⟩, some (4, 1)),
  (⟨1, -9223372036854775808, 0, [], false⟩, some (1, -10)), (⟨1, 9223372036854775807, 0, [], false⟩, some (1, 11)), (⟨1, 9007199254740992, 0, [], false⟩, some (1, 8)), (⟨1, 9007199254740993, 0, [], false⟩, some (1, 9)),
  (⟨1, -1, 0, [], false⟩, some (1, -1)), (⟨1, 4611686018427387904, 0, [], false⟩, some (1, 10)), (⟨1, 0, 0, [], false⟩, some (1, 0)), (⟨1, 1, 0, [], false⟩, some (1, 3)), (⟨1, 2, 0, [], false⟩, some (1, 5)), (⟨1, 3, 0, [], false⟩, some (1, 6)), (⟨1, 4, 0, [], false⟩, some (1, 7))]
def FV (v : Val) (r : Option (Int × Int)) : Prop := (v, r) ∈ FVR
end Go.Ab
namespace Go.Ab
open Go
set_option linter.unusedVariables false
set_option linter.unusedSimpArgs false
set_option linter.unnecessarySimpa false
/-- A test of what a feed yields. -/
structure PFV (p : Pred) : Prop where
  v : ∃ r, FV p.v r
  w : ∃ r, FV p.w r
  set : ∀ x ∈ p.set, ∃ r, FV x r
end Go.Ab
namespace Go.Ab
open Go
set_option linter.unusedVariables false
set_option linter.unusedSimpArgs false
set_option linter.unnecessarySimpa false
/-- A right one of the row. -/
def VR (v : Val) : Prop := vright v = true ∧ ∃ r, FV v r
def allVR : List Val := (FVR.drop 1).map (·.1)
theorem all_right : allVR.all vright = true := by kernel_rfl
theorem vr_mem {v : Val} (h : v ∈ allVR) : VR v := by
  refine ⟨List.all_eq_true.1 all_right v h, ?_⟩
  unfold allVR at h
  obtain ⟨x, hx, rfl⟩ := List.mem_map.1 h
  exact ⟨x.2, List.mem_of_mem_drop hx⟩
def floatsR : List Val := F14.map fun x => ⟨2, 0, x, [], false⟩
def textsR : List Val := T6.map fun s => ⟨3, 0, 0, s, false⟩
def intsR : List Val := N6.map fun n => ⟨1, n, 0, [], false⟩
theorem floats_in : (floatsR.all fun v => allVR.contains v) = true := by kernel_rfl
theorem texts_in : (textsR.all fun v => allVR.contains v) = true := by kernel_rfl
theorem ints_in : (intsR.all fun v => allVR.contains v) = true := by kernel_rfl
theorem smalls_in : ((List.range 5).all fun n => allVR.contains (⟨1, (n : Int), 0, [], false⟩ : Val)) = true := by kernel_rfl
theorem bools_in : ([true, false].all fun b => allVR.contains (⟨4, 0, 0, [], b⟩ : Val)) = true := by kernel_rfl
theorem of_contains {l : List Val} {f : Val} (h : (l.all fun v => allVR.contains v) = true) (hf : f ∈ l) : VR f := by
  have := List.all_eq_true.1 h f hf
  exact vr_mem (by simpa using this)
theorem vr_float (l : List Int) (a j : Nat) : VR ⟨2, 0, floatV l a j, [], false⟩ := by
  have hb := fd_bound l a j (n := 14) (by omega)
  refine of_contains floats_in ?_
  unfold floatsR floatV
  refine List.mem_map.2 ⟨_, ?_, rfl⟩
  have hlt : (fd l a j 14).toNat < F14.length := by show _ < 14; omega
  rw [List.getD_eq_getElem?_getD, List.getElem?_eq_getElem hlt]
  exact List.getElem_mem hlt
theorem vr_text {n : Nat} (h : n < 6) : VR ⟨3, 0, 0, T6.getD n [], false⟩ := by
  refine of_contains texts_in ?_
  unfold textsR
  refine List.mem_map.2 ⟨_, ?_, rfl⟩
  have hlt : n < T6.length := h
  rw [List.getD_eq_getElem?_getD, List.getElem?_eq_getElem hlt]
  exact List.getElem_mem hlt
theorem vr_int {n : Nat} (h : n < 6) : VR ⟨1, N6.getD n 0, 0, [], false⟩ := by
  refine of_contains ints_in ?_
  unfold intsR
  refine List.mem_map.2 ⟨_, ?_, rfl⟩
  have hlt : n < N6.length := h
  rw [List.getD_eq_getElem?_getD, List.getElem?_eq_getElem hlt]
  exact List.getElem_mem hlt
theorem vr_small {n : Int} (h0 : 0 ≤ n) (h : n < 5) : VR ⟨1, n, 0, [], false⟩ := by
  have := List.all_eq_true.1 smalls_in n.toNat (List.mem_range.2 (by omega))
  rw [show ((n.toNat : Nat) : Int) = n by omega] at this
  exact vr_mem (by simpa using this)
theorem vr_bool (b : Bool) : VR ⟨4, 0, 0, [], b⟩ := by
  have := List.all_eq_true.1 bools_in b (by cases b <;> simp)
  exact vr_mem (by simpa using this)
theorem vr_value (l : List Int) (a j : Nat) : VR (valueV l a j) := by
  unfold valueV
  have h8 := fd_bound l a j (n := 8) (by omega)
  have h6 := fd_bound l a (j + 1) (n := 6) (by omega)
  have h5 := fd_bound l a (j + 1) (n := 5) (by omega)
  simp only
  repeat' split
  · exact vr_float _ _ _
  · exact vr_text (by omega)
  · exact vr_bool _
  · exact vr_int (by omega)
  · exact vr_small (by omega) (by omega)
theorem vr_vals (l : List Int) (a : Nat) : ∀ (k j : Nat), ∀ x ∈ valsV l a j k, VR x
  | 0, j, x, h => by simp [valsV] at h
  | k + 1, j, x, h => by
    rcases List.mem_cons.1 h with rfl | h
    · exact vr_value _ _ _
    · exact vr_vals l a k _ x h
theorem vals_length (l : List Int) (a : Nat) : ∀ (k j : Nat), (valsV l a j k).length = k
  | 0, j => rfl
  | k + 1, j => by simp [valsV, vals_length l a k]
theorem P4_in : (P4.all fun s => T6.contains s) = true := by kernel_rfl
theorem vr_P4 {n : Nat} (h : n < 4) : VR ⟨3, 0, 0, P4.getD n [], false⟩ := by
  have hlt : n < P4.length := h
  have h1 : P4.getD n [] ∈ P4 := by rw [List.getD_eq_getElem?_getD, List.getElem?_eq_getElem hlt]; exact List.getElem_mem hlt
  have h2 := List.all_eq_true.1 P4_in _ h1
  refine of_contains texts_in ?_
  unfold textsR
  exact List.mem_map.2 ⟨_, by simpa using h2, rfl⟩
theorem fv_zero : ∃ r, FV vzero r := ⟨none, by unfold FV FVR; simp⟩
/-- What a feed yields as a test. -/
theorem pred_fv (l : List Int) (a j : Nat) (nm : List UInt8) : PFV (predV l a j nm).1 := by
  unfold predV
  have h4 := fd_bound l a (j + 1) (n := 4) (by omega)
  simp only
  repeat' split
  · exact ⟨fv_zero, fv_zero, by simp⟩
  · exact ⟨(vr_P4 (by omega)).2, fv_zero, by simp⟩
  · exact ⟨fv_zero, fv_zero, fun x hx => (vr_vals _ _ _ _ x hx).2⟩
  · exact ⟨(vr_value _ _ _).2, (vr_value _ _ _).2, by simp⟩
  · exact ⟨(vr_value _ _ _).2, fv_zero, by simp⟩
theorem same_zero : vsame vzero vzero = true := by kernel_rfl
theorem pred_right (l : List Int) (a j : Nat) {nm : List UInt8} (hn : isWord nm = true) : pright (predV l a j nm).1 = true := by
  have h10 := fd_bound l a j (n := 10) (by omega)
  have h4 := fd_bound l a (j + 1) (n := 4) (by omega)
  unfold predV
  simp only
  split
  · simp [pright, hn, same_zero]
  · split
    · rename_i h
      have hv := (vr_P4 (n := (fd l a (j + 1) 4).toNat) (by omega)).1
      generalize P4.getD (fd l a (j + 1) 4).toNat [] = s at hv
      simp [pright, hn, same_zero, hv]
    · split
      · have hv := fun x hx => (vr_vals l a ((fd l a (j + 1) 4).toNat + 1) (j + 2) x hx).1
        have hl := vals_length l a ((fd l a (j + 1) 4).toNat + 1) (j + 2)
        generalize valsV l a (j + 2) ((fd l a (j + 1) 4).toNat + 1) = vs at hv hl
        have hc : vs.all vright = true := List.all_eq_true.2 hv
        have h5 : 1 ≤ vs.length ∧ vs.length ≤ 4 := by omega
        unfold pright
        rw [if_pos hn]
        simp [same_zero, hc, h5, hv]
      · split
        · simp [pright, hn, same_zero, (vr_value l a (j + 1)).1, (vr_value l a (j + 3)).1]
        · have e1 : 2 ≤ 1 + fd l a j 10 ∧ 1 + fd l a j 10 ≤ 7 := by omega
          have e2 : ¬ 1 + fd l a j 10 = 1 := by omega
          simp only [pright, hn, if_true, e2, if_false, e1, and_self, same_zero, (vr_value l a (j + 1)).1, List.length_nil, decide_true, Bool.and_self]
theorem pred_asks (l : List Int) (a j : Nat) (nm : List UInt8) : (predV l a j nm).2 ≤ 10 := by
  have h4 := fd_bound l a (j + 1) (n := 4) (by omega)
  unfold predV
  simp only
  repeat' split
  all_goals (simp only; omega)
theorem ok_of_right {p : Pred} (h : pright p = true) : p.ok := by
  unfold pright at h
  split at h
  · rename_i hw
    unfold isWord at hw
    simp only [Bool.and_eq_true, decide_eq_true_eq] at hw
    refine ⟨by omega, ?_⟩
    repeat' split at h
    all_goals first
      | (simp only [Bool.and_eq_true, decide_eq_true_eq] at h; omega)
      | cases h
  · cases h
end Go.Ab
namespace Go.Proofs.Ytdoobejjedpcgaa
open Go Go.Ab
set_option linter.unusedVariables false
set_option linter.unusedSimpArgs false
set_option linter.unnecessarySimpa false
set_option maxRecDepth 20000
noncomputable section
variable (fr : Fr) (st : St) (k : Kt)
theorem k55 (l : List Int) (a j id : Nat)  (fr : Fr) (st : St) (h : FeedOk st id) (ha : a < 549755813888) (hj : j < 549755812000) :
    callStep gS (EvF gS) 55 [.ptr id 0] fr (setF st id l (nA l a j)) = some (.ok (.val ((valueV l a j).enc)) (fr.map E.noMem) (setF st id l (nA l a (j + 2)))) := by
  unfold callStep
  simp only [show gS.ext 55 = none from rfl, fi17_eq, show fi55.pure = false from rfl, Bool.false_eq_true, if_false, c55 l a j id  st h ha (by omega), retE]
  all_goals rfl
def fi71 : FI := { body := codeOf Try.f71, ntmps := 52, results := [.cell 4 91], pers := [0, 1, 4, 5, 6, 13], locals := [4, 5], pure := false, marks := [39, 2000011, 1000000] }
theorem fi29_eq : gS.fn 71 = some fi71 := by kernel_rfl
theorem st71 (a0 a1 : V) : startFr fi71 [a0, a1] = { ps := [(0, .val a0), (1, .val a1), (4, .any), (5, .any), (6, .any), (13, .any)], ts := [], lc := [] } := rfl
def b71 : Code := mini (codeOf Try.f71)
def c71_11 : Code := .seq (codeN b71 299) .ret
def c71_19 : Code := .seq (codeN b71 2795) .ret
def c71_17 : Code := .seq (codeN b71 1259) c71_19
def c71_33 : Code := .cond (.tmp 31) .skip (.exit 1)
def c71_31 : Code := .seq (codeN b71 136171) c71_33
def r71_38 : Array Oper := regOps (codeN (codeOf Try.f71) 300011)
def c71_38 : Code := .region 12 r71_38 true
def q71_38 : List (Oper × Fl) := [(op1 34 (.fieldAddr 91 (.tmp 5) 4) 0, ⟨true, false, false, false, false, false, true, false, false, true, []⟩),
 (ld 35 89 34 89, ⟨true, false, false, false, false, false, true, false, false, true, []⟩),
 (mv 36 0 23, ⟨true, false, true, false, true, false, true, true, false, false, []⟩),
 (cal 37 55 [(.tmp 36)] [23] 88, ⟨false, true, true, false, true, true, true, true, false, false, []⟩),
 (op1 38 (.buildSlice 89 1 #[(0, (.tmp 37))]) 89, ⟨true, false, true, false, true, false, true, true, false, false, []⟩),
 (op1 39 (.call { callee := (.builtin .append), args := #[(.tmp 35), (.tmp 38)], argTypes := #[89, 89] }) 89, ⟨false, true, true, false, true, true, true, true, false, false, []⟩),
 (op1 40 (.fieldAddr 91 (.tmp 5) 4) 0, ⟨true, true, true, false, true, false, true, true, false, false, []⟩),
 (sto 89 40 39, ⟨false, true, true, false, true, true, true, true, false, false, []⟩)]
def c71_39 : Code := codeN b71 234475
def c71_36 : Code := .seq (.block 2 c71_38) c71_39
def c71_30 : Code := .seq c71_31 c71_36
def c71_29 : Code := .loop c71_30
def c71_28 : Code := .block 1 c71_29
def c71_26 : Code := .seq (codeN b71 9195) c71_28
def c71_40 : Code := .seq (codeN b71 11243) .ret
theorem e71_40 : evK gS fi71 c71_40 fr st k = opsR gS fi71 [ld 41 91 5 91,
 sto 91 4 41] fr st (.seq .ret k) := evK_rs 13 rfl (by kernel_rfl)
def c71_25 : Code := .seq c71_26 c71_40
def c71_24 : Code := .cond (.tmp 26) c71_25 .skip
def c71_22 : Code := .seq (codeN b71 1515) c71_24
def c71_16 : Code := .cond (.tmp 17) c71_17 c71_22
def c71_14 : Code := .seq (codeN b71 363) c71_16
def c71_10 : Code := .cond (.tmp 14) c71_11 c71_14
def c71_8 : Code := .seq (codeN b71 75) c71_10
def c71_7 : Code := .block 0 c71_8
def c71_5 : Code := .seq (codeN b71 19) c71_7
def c71_50 : Code := codeN b71 175
def c71_49 : Code := .cond (.tmp 47) c71_50 .skip
def c71_47 : Code := .seq (codeN b71 79) c71_49
def c71_52 : Code := .seq (codeN b71 95) .ret
def c71_46 : Code := .seq c71_47 c71_52
def c71_44 : Code := .seq (codeN b71 23) c71_46
def c71_4 : Code := .seq c71_5 c71_44
def c71_2 : Code := .seq (codeN b71 5) c71_4
def c71_0 : Code := .seq (codeN b71 2) c71_2
theorem E71 : (evK gS fi71 c71_11 fr st k = opsR gS fi71 [ld 16 91 5 91,
 sto 91 4 16] fr st (.seq .ret k)) ∧
 (evK gS fi71 c71_19 fr st k = opsR gS fi71 [ld 25 91 5 91,
 sto 91 4 25] fr st (.seq .ret k)) ∧
 (evK gS fi71 c71_17 fr st k = opsR gS fi71 [op1 19 (.build 122 #[(0, (.const (.string { data := #[] }))), (1, (.const (.string { data := #[97] }))), (2, (.const (.string { data := #[98] }))), (3, (.const (.string { data := #[97, 98] })))]) 122,
 mv 20 0 23,
 cal 21 11 [(.tmp 20), (.const (.int .i64 4))] [23, 3] 3,
 op1 22 (.index 122 (.tmp 19) (.tmp 21)) 9,
 op1 23 (.build 88 #[(0, (.const (.int .i64 3))), (3, (.tmp 22))]) 88,
 op1 24 (.fieldAddr 91 (.tmp 5) 2) 0,
 sto 88 24 23] fr st (.seq c71_19 k)) ∧
 evK gS fi71 c71_33 fr st k = condK gS fi71 (fr.op (.tmp 31)).bool? .skip (.exit 1) fr st k ∧
 (evK gS fi71 c71_31 fr st k = opsR gS fi71 [mv 30 6 3,
 op1 31 (.binOp .geq 3 (.tmp 30) (.const (.int .i64 0)) 3) 4] fr st (.seq c71_33 k)) ∧
 evK gS fi71 c71_38 fr st k = drwR gS fi71 r71_38 q71_38 fr st k ∧
 (evK gS fi71 c71_39 fr st k = opsR gS fi71 [mv 32 6 3,
 op1 33 (.binOp .sub 3 (.tmp 32) (.const (.int .i64 1)) 3) 3,
 asn 6 33 3] fr st k) ∧
 evK gS fi71 c71_36 fr st k = evK gS fi71 c71_38 fr st (.blk 2 (.seq c71_39 k)) ∧
 evK gS fi71 c71_30 fr st k = evK gS fi71 c71_31 fr st (.seq c71_36 k) ∧
 evK gS fi71 c71_28 fr st k = evK gS fi71 c71_29 fr st (.blk 1 k) ∧
 (evK gS fi71 c71_26 fr st k = opsR gS fi71 [mv 28 0 23,
 cal 29 11 [(.tmp 28), (.const (.int .i64 4))] [23, 3] 3,
 asn 6 29 3] fr st (.seq c71_28 k)) ∧
 evK gS fi71 c71_25 fr st k = evK gS fi71 c71_26 fr st (.seq c71_40 k) ∧
 evK gS fi71 c71_24 fr st k = condK gS fi71 (fr.op (.tmp 26)).bool? c71_25 .skip fr st k ∧
 (evK gS fi71 c71_22 fr st k = opsR gS fi71 [op1 27 (.binOp .eql 3 (.tmp 13) (.const (.int .i64 10)) 3) 4,
 asn 26 27 4] fr st (.seq c71_24 k)) ∧
 evK gS fi71 c71_16 fr st k = condK gS fi71 (fr.op (.tmp 17)).bool? c71_17 c71_22 fr st k ∧
 (evK gS fi71 c71_14 fr st k = opsR gS fi71 [op1 18 (.binOp .eql 3 (.tmp 13) (.const (.int .i64 9)) 3) 4,
 asn 17 18 4] fr st (.seq c71_16 k)) ∧
 evK gS fi71 c71_10 fr st k = condK gS fi71 (fr.op (.tmp 14)).bool? c71_11 c71_14 fr st k ∧
 (evK gS fi71 c71_8 fr st k = opsR gS fi71 [op1 15 (.binOp .eql 3 (.tmp 13) (.const (.int .i64 1)) 3) 4,
 asn 14 15 4] fr st (.seq c71_10 k)) ∧
 evK gS fi71 c71_7 fr st k = evK gS fi71 c71_8 fr st (.blk 0 k) ∧
 (evK gS fi71 c71_5 fr st k = opsR gS fi71 [op1 12 (.fieldAddr 91 (.tmp 5) 1) 0,
 ld 13 3 12 3] fr st (.seq c71_7 k)) ∧
 (evK gS fi71 c71_50 fr st k = opsR gS fi71 [mv 48 0 23,
 cal 49 55 [(.tmp 48)] [23] 88,
 op1 50 (.fieldAddr 91 (.tmp 5) 3) 0,
 sto 88 50 49] fr st k) ∧
 evK gS fi71 c71_49 fr st k = condK gS fi71 (fr.op (.tmp 47)).bool? c71_50 .skip fr st k ∧
 (evK gS fi71 c71_47 fr st k = opsR gS fi71 [op1 45 (.fieldAddr 91 (.tmp 5) 1) 0,
 ld 46 3 45 3,
 op1 47 (.binOp .eql 3 (.tmp 46) (.const (.int .i64 8)) 3) 4] fr st (.seq c71_49 k)) ∧
 (evK gS fi71 c71_52 fr st k = opsR gS fi71 [ld 51 91 5 91,
 sto 91 4 51] fr st (.seq .ret k)) ∧
 evK gS fi71 c71_46 fr st k = evK gS fi71 c71_47 fr st (.seq c71_52 k) ∧
 (evK gS fi71 c71_44 fr st k = opsR gS fi71 [mv 42 0 23,
 cal 43 55 [(.tmp 42)] [23] 88,
 op1 44 (.fieldAddr 91 (.tmp 5) 2) 0,
 sto 88 44 43] fr st (.seq c71_46 k)) ∧
 evK gS fi71 c71_4 fr st k = evK gS fi71 c71_5 fr st (.seq c71_44 k) ∧
 (evK gS fi71 c71_2 fr st k = opsR gS fi71 [mv 7 1 9,
 mv 8 0 23,
 cal 9 11 [(.tmp 8), (.const (.int .i64 10))] [23, 3] 3,
 op1 10 (.binOp .add 3 (.const (.int .i64 1)) (.tmp 9) 3) 3,
 op1 11 (.build 91 #[(0, (.tmp 7)), (1, (.tmp 10))]) 91,
 op1 5 (.alloc 91) 0,
 sto 91 5 11] fr st (.seq c71_4 k)) ∧
 evK gS fi71 c71_0 fr st k = opsR gS fi71 [op1 4 (.alloc 91) 0] fr st (.seq c71_2 k) := ⟨evK_rs 4 rfl (by kernel_rfl), evK_rs 7 rfl (by kernel_rfl), evK_rs 6 rfl (by kernel_rfl), rfl, evK_rs 10 rfl (by kernel_rfl), evK_dr 12 rfl (by kernel_rfl) (by kernel_rfl), evK_r 11 (by kernel_rfl), rfl, rfl, rfl, evK_rs 9 rfl (by kernel_rfl), rfl, rfl, evK_rs 8 rfl (by kernel_rfl), rfl, evK_rs 5 rfl (by kernel_rfl), rfl, evK_rs 3 rfl (by kernel_rfl), rfl, evK_rs 2 rfl (by kernel_rfl), evK_r 16 (by kernel_rfl), rfl, evK_rs 15 rfl (by kernel_rfl), evK_rs 17 rfl (by kernel_rfl), rfl, evK_rs 14 rfl (by kernel_rfl), rfl, evK_rs 1 rfl (by kernel_rfl), evK_rs 0 rfl (by kernel_rfl)⟩
theorem m71 : mini fi71.body = c71_0 := by kernel_rfl
theorem n71_29 (fr : Fr) (st : St) (k : Kt) : nextK gS fi71 (.loop c71_30 k) .normal fr st = evK gS fi71 c71_29 fr st k := rfl
set_option maxHeartbeats 4000000 in
theorem T71_40 (nm : List UInt8) (l : List Int) (a id m : Nat) (vs : List Val) (hv : vs ≠ []) (st : St) (h : FeedOk st id) (e0 e1 e6 e13 : E) (h0 : e0.Tame) (h1 : e1.Tame) (h6 : e6.Tame) (h13 : e13.Tame) (T : List (Nat × E)) (X : List (Nat × List V)) (hx4 : lk X 4 = some [.str [], .int .i64 0, .int .i64 0, .int .i64 0, .float .f64 0, .str [], .bool false, .int .i64 0, .int .i64 0, .float .f64 0, .str [], .bool false, .osl 0 []]) (hx5 : lk X 5 = some [.str nm, .int .i64 10, .int .i64 0, .int .i64 0, .float .f64 0, .str [], .bool false, .int .i64 0, .int .i64 0, .float .f64 0, .str [], .bool false, .sref false 5 (st.objs.length + m) 0 vs.length]) :
    evK gS fi71 c71_40 { ps := [(0, e0), (1, e1), (4, .lp 4 0), (5, .lp 5 0), (6, e6), (13, e13)], ts := T, lc := X } (setF (nw st m (vs.flatMap Val.cells)) id l a) (.blk 0 (.seq c71_44 .nil)) = some (.ret ((⟨nm, 10, vzero, vzero, vs⟩ : Pred).enc) none, setF (dd st (m + 1)) id l a) := by
  have hm : fi71.marks = [39, 2000011, 1000000] := rfl
  have hl : fi71.locals = [4, 5] := rfl
  have hr : fi71.results = [.cell 4 91] := rfl
  have hz := fun a0 a1 a2 a3 a4 a5 a6 a7 a8 a9 a10 a11 hf => frz_predcells (a0 := a0) (a1 := a1) (a2 := a2) (a3 := a3) (a4 := a4) (a5 := a5) (a6 := a6) (a7 := a7) (a8 := a8) (a9 := a9) (a10 := a10) (a11 := a11) hf (frz_vals h 4 m vs hv l a)
  simp [lk_lset_self _ _ _ _ hx4, hx4, hx5, h0, h1, h6, h13, hz, vzero, -Int.not_le, -Int.not_lt, -Nat.not_le, -Nat.not_lt, ty3, ty4, ty9, ty23, ty88, ty89, ty91, ty122, eq88, hm, hl, hr, fi16_eq, fi17_eq, E71, q71_38, e71_40, n71_29]
set_option maxHeartbeats 8000000 in
theorem L71 (nm : List UInt8) (l : List Int) (a id : Nat) (ha : a < 549755813888) (st : St) (h : FeedOk st id) (e1 e13 : E) (h1 : e1.Tame) (h13 : e13.Tame) : ∀ (r j m : Nat) (vs : List Val) (T : List (Nat × E)) (X : List (Nat × List V)), j + 2 * r < 549755812000 → vs.length = m + 1 → vs.length + r < 1000 → lk X 4 = some [.str [], .int .i64 0, .int .i64 0, .int .i64 0, .float .f64 0, .str [], .bool false, .int .i64 0, .int .i64 0, .float .f64 0, .str [], .bool false, .osl 0 []] → lk X 5 = some [.str nm, .int .i64 10, .int .i64 0, .int .i64 0, .float .f64 0, .str [], .bool false, .int .i64 0, .int .i64 0, .float .f64 0, .str [], .bool false, .sref false 5 (st.objs.length + m) 0 (m + 1)] →
    evK gS fi71 c71_29 { ps := [(0, .val (.ptr id 0)), (1, e1), (4, .lp 4 0), (5, .lp 5 0), (6, .val (.int .i64 ((r : Int) - 1))), (13, e13)], ts := T, lc := X } (setF (nw st m (vs.flatMap Val.cells)) id l (nA l a j)) (.blk 1 (.seq c71_40 (.blk 0 (.seq c71_44 .nil)))) = some (.ret ((⟨nm, 10, vzero, vzero, vs ++ valsV l a j r⟩ : Pred).enc) none, setF (dd st (m + 1 + r)) id l (nA l a (j + 2 * r))) := by
  intro r
  have hm : fi71.marks = [39, 2000011, 1000000] := rfl
  have hl : fi71.locals = [4, 5] := rfl
  have hr : fi71.results = [.cell 4 91] := rfl
  induction r with
  | zero =>
    intro j m vs T X hj hlen hlt hx4 hx5
    refine evK_loop c71_30 _ _ _ _ rfl ?_
    have ht := fun T => T71_40 nm l (nA l a j) id m vs (by intro e; rw [e] at hlen; simp at hlen) st h (.val (.ptr id 0)) e1 (.val (.int .i64 (-1))) e13 rfl h1 rfl h13 T X hx4 (by rw [hx5, hlen])
    simp [h1, h13, ht, valsV, -Int.not_le, -Int.not_lt, -Nat.not_le, -Nat.not_lt, ty3, ty4, ty9, ty23, ty88, ty89, ty91, ty122, eq88, hm, hl, hr, fi16_eq, fi17_eq, E71, q71_38, n71_29]
  | succ r ih =>
    intro j m vs T X hj hlen hlt hx4 hx5
    refine evK_loop c71_30 _ _ _ _ rfl ?_
    have hv := fun fr => k55 l a j id fr (nw st m (vs.flatMap Val.cells)) (h.nw m _) ha (by omega)
    have e1' : ((r + 1 : Nat) : Int) - 1 = (r : Int) := by omega
    have e2 : (0 : Int) ≤ (r : Int) := by omega
    have e3 : IntKind.wrap .i64 ((r : Int) - 1) = (r : Int) - 1 := wrap64 (by omega) (by omega)
    have e4 := vals_cells_len vs
    have e5 := vals_cells_strip vs
    have e6 := vals_cells_one vs
    have e7 : ∀ v : Val, vs.flatMap Val.cells ++ [.int .i64 v.kind, .int .i64 v.n, .float .f64 v.x, .str v.s, .bool v.b] = (vs ++ [v]).flatMap Val.cells := by intro v; simp [Val.cells]
    have IH := fun T X h4 h5 => ih (j + 2) (m + 1) (vs ++ [valueV l a j]) T X (by omega) (by simp [hlen]) (by simp; omega) h4 h5
    have r1 := obj_gr h m (vs.flatMap Val.cells) l (nA l a (j + 2))
    have r2 := set_gr h m (vs.flatMap Val.cells) l (nA l a (j + 2))
    have r3 := fun fr k len cs => newRef_dd h fr (m + 1) k len cs l (nA l a (j + 2))
    have e8 : (m + 1 + 1) * 48 ≤ 140737488355328 := by omega
    have e9 : (m + 1 + 1) ≤ 140737488355328 := by omega
    rw [hlen] at e4
    rw [e1']
    rw [show valsV l a j (r + 1) = valueV l a j :: valsV l a (j + 2) r from rfl, show m + 1 + (r + 1) = m + 1 + 1 + r by omega, show j + 2 * (r + 1) = j + 2 + 2 * r by omega, List.append_cons vs]
    simp [-List.append_assoc, -List.flatMap_append, -St.obj, -St.set, h1, h13, hx4, hx5, hv, e2, e3, e4, e5, e6, e7, e8, e9, r1, r2, r3, markStep, markAppend, elemsAt, lk_lset_self _ _ _ _ hx5, -Int.not_le, -Int.not_lt, -Nat.not_le, -Nat.not_lt, ty3, ty4, ty9, ty23, ty88, ty89, ty91, ty122, eq88, hm, hl, hr, fi16_eq, fi17_eq, E71, q71_38, n71_29]
    exact IH _ _ (by simp [hx4]) (lk_lset_self _ _ _ _ hx5)
set_option maxHeartbeats 8000000 in
theorem c71 (l : List Int) (a j id : Nat) (nm : List UInt8) (st : St) (h : FeedOk st id) (ha : a < 549755813888) (hj : j < 549755811000) :
    EvF gS 71 [.ptr id 0, .str nm] (setF st id l (nA l a j)) = some (.ret (predV l a j nm).1.enc none, setF (dd st (predV l a j nm).1.set.length) id l (nA l a (j + (predV l a j nm).2))) := by
  refine EvF_start fi29_eq (fun x h => by cases h) m71 ?_
  rw [st71]
  have hm : fi71.marks = [39, 2000011, 1000000] := rfl
  have hl : fi71.locals = [4, 5] := rfl
  have hr : fi71.results = [.cell 4 91] := rfl
  have hb := fd_bound l a j (n := 10) (by omega)
  have hb4 := fd_bound l a (j + 1) (n := 4) (by omega)
  unfold predV
  have hk := fun fr => k11 l a j id 10 fr st h ha (by omega) (by omega)
  have hk4 := fun fr => k11 l a (j + 1) id 4 fr st h ha (by omega) (by omega)
  have hv1 := fun fr => k55 l a (j + 1) id fr st h ha (by omega)
  have hv3 := fun fr => k55 l a (j + 3) id fr st h ha (by omega)
  generalize fd l a j 10 = z at *
  generalize fd l a (j + 1) 4 = y at *
  have hz : z = 0 ∨ z = 1 ∨ z = 2 ∨ z = 3 ∨ z = 4 ∨ z = 5 ∨ z = 6 ∨ z = 7 ∨ z = 8 ∨ z = 9 := by omega
  have hy : y = 0 ∨ y = 1 ∨ y = 2 ∨ y = 3 := by omega
  have d0 := dd_zero st
  have a2 : j + 1 + 1 = j + 2 := rfl
  have a5 : j + 3 + 2 = j + 5 := rfl
  have a3 : j + 1 + 2 = j + 3 := by omega
  have hz2 := fun st a0 a1 a2 a3 a4 a5 a6 a7 a8 a9 a10 a11 hf => frz_predcells (a0 := a0) (a1 := a1) (a2 := a2) (a3 := a3) (a4 := a4) (a5 := a5) (a6 := a6) (a7 := a7) (a8 := a8) (a9 := a9) (a10 := a10) (a11 := a11) hf (frz_nil 4 st)
  have en : encVals [] = [] := rfl
  rcases hz with rfl | rfl | rfl | rfl | rfl | rfl | rfl | rfl | rfl | rfl
  case inr.inr.inr.inr.inr.inr.inr.inr.inl => rcases hy with rfl | rfl | rfl | rfl <;> simp [P4, vzero, d0, en, a2, a3, a5, hz2, w64_1, w64_2, w64_3, w64_4, w64_5, w64_6, w64_7, w64_8, w64_9, w64_10, hk, hk4, hv1, hv3, -Int.not_le, -Int.not_lt, -Nat.not_le, -Nat.not_lt, ty3, ty4, ty9, ty23, ty88, ty89, ty91, ty122, eq88, hm, hl, hr, fi16_eq, fi17_eq, E71, q71_38, n71_29]
  case inr.inr.inr.inr.inr.inr.inr.inr.inr =>
    have hv2 := fun fr => k55 l a (j + 2) id fr st h ha (by omega)
    have e2 : (0 : Int) ≤ y := by omega
    have e3 : IntKind.wrap .i64 (y - 1) = y - 1 := wrap64 (by omega) (by omega)
    have r3 := fun fr k len cs => newRef_setF h fr k len cs l (nA l a (j + 2 + 2))
    simp [-St.obj, -St.set, a2, w64_1, w64_2, w64_3, w64_4, w64_5, w64_6, w64_7, w64_8, w64_9, w64_10, hk, hk4, hv1, hv3, -Int.not_le, -Int.not_lt, -Nat.not_le, -Nat.not_lt, ty3, ty4, ty9, ty23, ty88, ty89, ty91, ty122, eq88, hm, hl, hr, fi16_eq, fi17_eq, E71, q71_38, n71_29]
    refine evK_loop c71_30 _ _ _ _ rfl ?_
    simp [-St.obj, -St.set, e2, e3, hv2, r3, markStep, markAppend, elemsAt, -Int.not_le, -Int.not_lt, -Nat.not_le, -Nat.not_lt, ty3, ty4, ty9, ty23, ty88, ty89, ty91, ty122, eq88, hm, hl, hr, fi16_eq, fi17_eq, E71, q71_38, n71_29]
    have hf := fun T X => L71 nm l a id ha st h (.val (.str nm)) (.val (.int .i64 10)) rfl rfl y.toNat (j + 2 + 2) 0 [valueV l a (j + 2)] T X (by omega) rfl (by simp; omega)
    have ey : ((y.toNat : Nat) : Int) = y := by omega
    rw [ey] at hf
    refine Eq.trans (hf _ _ ?_ ?_) ?_
    · simp
    · simp
    · have hl := vals_length l a (y.toNat + 1) (j + 2)
      have hc : [valueV l a (j + 2)] ++ valsV l a (j + 2 + 2) y.toNat = valsV l a (j + 2) (y.toNat + 1) := rfl
      rw [hc, hl]
      rw [show 0 + 1 + y.toNat = y.toNat + 1 by omega, show j + 2 + 2 + 2 * y.toNat = j + (2 + 2 * (y.toNat + 1)) by omega]
      rfl
  all_goals simp [vzero, d0, en, a2, a3, a5, hz2, w64_1, w64_2, w64_3, w64_4, w64_5, w64_6, w64_7, w64_8, w64_9, w64_10, hk, hk4, hv1, hv3, -Int.not_le, -Int.not_lt, -Nat.not_le, -Nat.not_lt, ty3, ty4, ty9, ty23, ty88, ty89, ty91, ty122, eq88, hm, hl, hr, fi16_eq, fi17_eq, E71, q71_38, n71_29]
theorem k71 (l : List Int) (a j id : Nat) (nm : List UInt8) (fr : Fr) (st : St) (h : FeedOk st id) (ha : a < 549755813888) (hj : j < 549755811000) :
    callStep gS (EvF gS) 71 [.ptr id 0, .str nm] fr (setF st id l (nA l a j)) = some (.ok (.val ((predV l a j nm).1.enc)) (fr.map E.noMem) (setF (dd st ((predV l a j nm).1.set.length)) id l (nA l a (j + (predV l a j nm).2)))) := by
  unfold callStep
  simp only [show gS.ext 71 = none from rfl, fi29_eq, show fi71.pure = false from rfl, Bool.false_eq_true, if_false, c71 l a j id nm st h ha (by omega), retE]
  all_goals rfl
end
end Go.Proofs.Ytdoobejjedpcgaa
namespace Go.Ab
open Go
set_option linter.unusedVariables false
set_option linter.unusedSimpArgs false
set_option linter.unnecessarySimpa false
def aget : List Attr → List UInt8 → Val × Bool
  | [], _ => (vzero, false)
  | a :: r, nm => if a.name = nm then (a.v, true) else aget r nm
def sgt (a b : List UInt8) : Bool := !(Op.bytesLess a b || decide (a = b))
/-- Right ones, their names not falling. -/
def rises : Option (List UInt8) → List Pred → Bool
  | _, [] => true
  | none, p :: r => pright p && rises (some p.name) r
  | some n, p :: r => pright p && !sgt n p.name && rises (some p.name) r
def fright (f : List Pred) : Bool := decide (f.length ≤ 3) && rises none f
def ftakes (f : List Pred) (l : List Attr) : Bool := f.all fun p => (aget l p.name).2 && ptakes p (aget l p.name).1
def fcov1 (p : Pred) (g : List Pred) : Bool := g.any fun q => decide (q.name = p.name) && pimplies q p
def fcovers (f g : List Pred) : Bool := g.any pvoid || f.all fun p => fcov1 p g
def fsames : List Pred → List Pred → Bool
  | [], [] => true
  | a :: r, b :: s => psame a b && fsames r s
  | _, _ => false
def fsame (f g : List Pred) : Bool := decide (f.length = g.length) && fsames f g
def encPredss (l : List (List Pred)) : List V := l.map fun f => V.slice (encPreds f)
theorem encPredss_length (l : List (List Pred)) : (encPredss l).length = l.length := by simp [encPredss]
theorem encPredss_get (l : List (List Pred)) (i : Nat) : (encPredss l)[i]? = (l[i]?).map fun f => V.slice (encPreds f) := by simp [encPredss]
theorem encPredss_gE (l : List (List Pred)) (i : Nat) (h : i < (encPredss l).length) : (encPredss l)[i]'h = .slice (encPreds (l[i]'(by rw [encPredss_length] at h; exact h))) := by simp [encPredss]
theorem flats_predss (l : List (List Pred)) : flats (encPredss l) = true := by
  induction l with
  | nil => rfl
  | cons x r ih => simp only [encPredss, List.map_cons, flats, V.flat, flats_preds] at ih ⊢; exact ih
attribute [simp] encPredss_length encPredss_get encPredss_gE flats_predss
/-- Of a size that may be handled. -/
def POk (f : List Pred) : Prop := f.length < 4611686018427387904 ∧ ∀ p ∈ f, p.ok
theorem POk.get {f : List Pred} (h : POk f) {i : Nat} {p : Pred} (hp : f[i]? = some p) : p.ok := h.2 p (List.mem_of_getElem? hp)
theorem rises_some (n : List UInt8) (p : Pred) (r : List Pred) : rises (some n) (p :: r) = (pright p && !sgt n p.name && rises (some p.name) r) := rfl
theorem rises_none (p : Pred) (r : List Pred) : rises none (p :: r) = (pright p && rises (some p.name) r) := rfl
theorem rises_nil (o : Option (List UInt8)) : rises o [] = true := by cases o <;> rfl
/-- The name prevN of a place. -/
def prevN (f : List Pred) (i : Nat) : Option (List UInt8) := if i = 0 then none else (f[i - 1]?).map Pred.name
theorem prevN_zero (f : List Pred) : prevN f 0 = none := rfl
theorem prevN_succ {f : List Pred} {i : Nat} {p : Pred} (h : f[i]? = some p) : prevN f (i + 1) = some p.name := by
  unfold prevN; rw [if_neg (by omega), Nat.add_sub_cancel, h]; rfl
theorem fsames_len : ∀ {a b : List Pred}, fsames a b = true → a.length = b.length
  | [], [], _ => rfl
  | a :: r, b :: s, h => by
    simp only [fsames, Bool.and_eq_true] at h
    simp [fsames_len h.2]
  | [], _ :: _, h => by simp [fsames] at h
  | _ :: _, [], h => by simp [fsames] at h
end Go.Ab
