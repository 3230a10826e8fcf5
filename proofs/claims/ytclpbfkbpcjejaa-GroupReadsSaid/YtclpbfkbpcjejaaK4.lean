/- Whatever attributes, the readers of the groups that match are just the clients one of whose filters takes them. Part 4. -/
import Derived.Test.YtclpbfkbpcjejaaK3
namespace Go.Ab
open Go
set_option linter.unusedVariables false
set_option linter.unusedSimpArgs false
set_option linter.unnecessarySimpa false
def flt (x y : Nat) : Bool := FloatKind.f64.format.order x y == some .lt
def fle (x y : Nat) : Bool := FloatKind.f64.format.order x y == some .lt || FloatKind.f64.format.order x y == some .eq
def fgt (x y : Nat) : Bool := FloatKind.f64.format.order x y == some .gt
def fge (x y : Nat) : Bool := FloatKind.f64.format.order x y == some .gt || FloatKind.f64.format.order x y == some .eq
def feq (x y : Nat) : Bool := FloatKind.f64.format.order x y == some .eq
theorem fb_lss (x y : Nat) : floatBin .lss .f64 x y = some (.bool (flt x y)) := rfl
theorem fb_leq (x y : Nat) : floatBin .leq .f64 x y = some (.bool (fle x y)) := rfl
theorem fb_gtr (x y : Nat) : floatBin .gtr .f64 x y = some (.bool (fgt x y)) := rfl
theorem fb_geq (x y : Nat) : floatBin .geq .f64 x y = some (.bool (fge x y)) := rfl
theorem fb_eql (x y : Nat) : floatBin .eql .f64 x y = some (.bool (feq x y)) := rfl
theorem fb_neq (x y : Nat) : floatBin .neq .f64 x y = some (.bool (!feq x y)) := rfl
theorem fs_eq (x y : Nat) : Op.floatEq .f64 x y = feq x y := rfl
attribute [simp] fb_lss fb_leq fb_gtr fb_geq fb_eql fb_neq fs_eq
def fbits (b : Nat) : Int := if feq b b then (if feq b 0 then 0 else b) else 9221120237041090560
def sgn (below above : Bool) : Int := if below then -1 else if above then 1 else 0
/-- The whole part; as a number. -/
def ftr (x : Nat) : Nat := (truncV x).getD 0
def ftz (x : Nat) : Int := ((FloatKind.f64.decode (ftr x)).toInt .zero).getD 0
def icmp (n : Int) (x : Nat) : Int × Bool :=
  if feq x x then
    if fge x 4890909195324358656 then (-1, true)
    else if flt x 14114281232179134464 then (1, true)
    else if ftz x = n then (sgn (flt (ftr x) x) (fgt (ftr x) x), true)
    else (sgn (n < ftz x) (n > ftz x), true)
  else (0, false)
def fcmp (a b : Nat) : Int × Bool := if feq a a && feq b b then (sgn (flt a b) (fgt a b), true) else (0, false)
def scmp (a b : List UInt8) : Int := sgn (Op.bytesLess a b) (!(Op.bytesLess a b || a == b))
def cmp (a b : Val) : Int × Bool :=
  if a.kind = 1 ∧ b.kind = 1 then (sgn (a.n < b.n) (a.n > b.n), true)
  else if a.kind = 2 ∧ b.kind = 2 then fcmp a.x b.x
  else if a.kind = 1 ∧ b.kind = 2 then icmp a.n b.x
  else if a.kind = 2 ∧ b.kind = 1 then (-(icmp b.n a.x).1, (icmp b.n a.x).2)
  else if a.kind = 3 ∧ b.kind = 3 then (scmp a.s b.s, true)
  else if a.kind = 4 ∧ b.kind = 4 then (sgn (!a.b && b.b) (a.b && !b.b), true)
  else (0, false)
def vis (a b : Val) : Bool := (cmp a b).2 && decide ((cmp a b).1 = 0)
def vright (v : Val) : Bool :=
  if v.kind = 1 then feq v.x 0 && v.s = [] && !v.b
  else if v.kind = 2 then v.n = 0 && v.s = [] && !v.b
  else if v.kind = 3 then v.n = 0 && feq v.x 0 && !v.b && v.s.length ≤ 12
  else if v.kind = 4 then v.n = 0 && feq v.x 0 && v.s = []
  else false
def vsame (a b : Val) : Bool := a.kind = b.kind && a.n = b.n && a.s = b.s && a.b = b.b && fbits a.x = fbits b.x
def vzero : Val := ⟨0, 0, 0, [], false⟩
def isWord (s : List UInt8) : Bool := s.all (fun c => !decide (c.toNat < 97) && !decide (122 < c.toNat)) && (decide (1 ≤ s.length) && decide (s.length ≤ 6))
def pright (p : Pred) : Bool :=
  if isWord p.name then
    if p.test = 1 then vsame p.v vzero && vsame p.w vzero && p.set.length = 0
    else if 2 ≤ p.test ∧ p.test ≤ 7 then vright p.v && vsame p.w vzero && p.set.length = 0
    else if p.test = 8 then vright p.v && vright p.w && p.set.length = 0
    else if p.test = 9 then vright p.v && p.v.kind = 3 && vsame p.w vzero && p.set.length = 0
    else if p.test = 10 then vsame p.v vzero && vsame p.w vzero && 1 ≤ p.set.length && p.set.length ≤ 4 && p.set.all vright
    else false
  else false
def sames : List Val → List Val → Bool
  | [], [] => true
  | a :: r, b :: s => vsame a b && sames r s
  | _, _ => false
def psame (a b : Pred) : Bool := a.name = b.name && a.test = b.test && vsame a.v b.v && vsame a.w b.w && sames a.set b.set
def isPre (s t : List UInt8) : Bool := t.length ≤ s.length && s.take t.length = t
def ptakes (p : Pred) (v : Val) : Bool :=
  if pright p then
    let c := cmp v p.v
    if p.test = 1 then true
    else if p.test = 2 then c.2 && c.1 = 0
    else if p.test = 3 then !(c.2 && c.1 = 0)
    else if p.test = 4 then c.2 && c.1 < 0
    else if p.test = 5 then c.2 && c.1 ≤ 0
    else if p.test = 6 then c.2 && c.1 > 0
    else if p.test = 7 then c.2 && c.1 ≥ 0
    else if p.test = 8 then c.2 && c.1 ≥ 0 && (cmp v p.w).2 && (cmp v p.w).1 ≤ 0
    else if p.test = 9 then v.kind = 3 && isPre v.s p.v.s
    else p.set.any (vis v)
  else false
def vnan (v : Val) : Bool := v.kind = 2 && !feq v.x v.x
def pvoid (p : Pred) : Bool :=
  if pright p then
    if p.test = 2 ∨ (4 ≤ p.test ∧ p.test ≤ 7) then vnan p.v
    else if p.test = 8 then !(cmp p.v p.w).2 || (cmp p.v p.w).1 > 0
    else if p.test = 10 then p.set.all vnan
    else false
  else false
/-- Where a test ends. -/
structure PEnd where
  is : Bool
  op : Bool
  v : Val
def PEnd.encP (e : PEnd) : V := .agg [.bool e.is, .bool e.op, .int .i64 e.v.kind, .int .i64 e.v.n, .float .f64 e.v.x, .str e.v.s, .bool e.v.b]
def PEnd.encR (e : PEnd) : V := .agg [.int .i64 e.v.kind, .int .i64 e.v.n, .float .f64 e.v.x, .str e.v.s, .bool e.v.b, .bool e.is, .bool e.op]
theorem PEnd.eta (e : PEnd) : (⟨e.is, e.op, e.v⟩ : PEnd) = e := rfl
attribute [simp] PEnd.encP PEnd.encR PEnd.eta
def lowE (p : Pred) : PEnd := if p.test = 6 ∨ p.test = 7 then ⟨true, p.test = 6, p.v⟩ else if p.test = 8 then ⟨true, false, p.v⟩ else ⟨false, false, vzero⟩
def highE (p : Pred) : PEnd := if p.test = 4 ∨ p.test = 5 then ⟨true, p.test = 4, p.v⟩ else if p.test = 8 then ⟨true, false, p.w⟩ else ⟨false, false, vzero⟩
/-- Does an end lie within another one? -/
def within (q p : PEnd) (side : Int) : Bool :=
  if p.is then if q.is then (cmp q.v p.v).2 && (decide ((cmp q.v p.v).1 = side) || (decide ((cmp q.v p.v).1 = 0) && (!p.op || q.op))) else false else true
def pimplies (q p : Pred) : Bool :=
  if pright q && pright p then
    if pvoid q || p.test = 1 then true
    else if q.test = p.test && (vsame q.v p.v && vsame q.w p.w && sames q.set p.set) then true
    else if p.test = 3 then !ptakes q p.v
    else if q.test = 2 then ptakes p q.v
    else if q.test = 10 then q.set.all (fun v => vnan v || ptakes p v)
    else if ((lowE q).is || (highE q).is) && ((lowE p).is || (highE p).is) then
      within (lowE q) (lowE p) 1 && within (highE q) (highE p) (-1)
    else if q.test = 9 then
      if p.test = 9 then isPre q.v.s p.v.s
      else if p.test = 7 then (cmp q.v p.v).2 && (cmp q.v p.v).1 ≥ 0
      else if p.test = 6 then (cmp q.v p.v).2 && (cmp q.v p.v).1 > 0
      else false
    else false
  else false
theorem less_irrefl : ∀ s : List UInt8, Op.bytesLess s s = false
  | [] => rfl
  | a :: r => by simp [Op.bytesLess, less_irrefl r]
theorem sames_len : ∀ {a b : List Val}, sames a b = true → a.length = b.length
  | [], [], _ => rfl
  | a :: r, b :: s, h => by
    simp only [sames, Bool.and_eq_true] at h
    simp [sames_len h.2]
  | [], _ :: _, h => by simp [sames] at h
  | _ :: _, [], h => by simp [sames] at h
theorem sames_ne {a b : List Val} (h : ¬ a.length = b.length) : sames a b = false := by
  cases hs : sames a b with
  | false => rfl
  | true => exact absurd (sames_len hs) h
theorem sgn_bound (a b : Bool) : -1 ≤ sgn a b ∧ sgn a b ≤ 1 := by cases a <;> cases b <;> simp [sgn]
theorem icmp_bound (n : Int) (x : Nat) : -1 ≤ (icmp n x).1 ∧ (icmp n x).1 ≤ 1 := by
  unfold icmp
  repeat' split
  all_goals first | exact sgn_bound _ _ | simp
theorem wrap_icmp (n : Int) (x : Nat) : IntKind.wrap .i64 (-(icmp n x).1) = -(icmp n x).1 := by
  have := icmp_bound n x
  exact wrap64 (by omega) (by omega)
/-- A test that is looked into at the end. -/
def opq (b : Bool) : Bool := b
theorem agg_eql (ks : List TK) (x y : List V) : binAgg ks .eql x y = (eqCells ks x y).map fun b => .bool (opq b) := rfl
theorem agg_neq (ks : List TK) (x y : List V) : binAgg ks .neq x y = (eqCells ks x y).map fun b => .bool (!opq b) := rfl
theorem feq00 : feq 0 0 = true := by kernel_rfl
attribute [simp] less_irrefl feq00
attribute [simp] wrap_icmp agg_eql agg_neq eqCells eqScalar
end Go.Ab
namespace Go.Ab
open Go Ieee
set_option linter.unusedVariables false
set_option linter.unusedSimpArgs false
set_option linter.unnecessarySimpa false
set_option maxRecDepth 4000

theorem read_cases (x : Nat) : (∃ s t, double.read x = .nan s t) ∨ (∃ s, double.read x = .infinity s) ∨ ∃ s m e, double.read x = .number s m e ∧ m < 2 ^ 53 ∧ (-1074 < e → 2 ^ 52 ≤ m) ∧ -1074 ≤ e := by
  have hb : double.binade = 2 ^ 52 := rfl
  have hl : double.leastPlace = -1074 := rfl
  unfold Format.read
  simp only [hb, hl]
  generalize x % double.signWeight = r
  split
  · exact .inr (.inr ⟨_, _, _, rfl, by omega, by omega, by omega⟩)
  · split
    · refine .inr (.inr ⟨_, _, _, rfl, ?_, ?_, ?_⟩)
      · have := Nat.mod_lt r (show 0 < 2 ^ 52 by decide); omega
      · intro _; omega
      · omega
    · split
      · exact .inr (.inl ⟨_, rfl⟩)
      · exact .inl ⟨_, _, rfl⟩

theorem cut_zero (s : Bool) (n d : Nat) : Toward.zero.cut s n d = n / 2 ^ (min d (n.log2 + 2)) := by
  simp [Toward.cut, Nat.shiftLeft_eq]
theorem cut_even_dvd (s : Bool) (n d q : Nat) (h : n = q * 2 ^ (min d (n.log2 + 2))) : Toward.even.cut s n d = q := by
  have hp : 0 < 2 ^ (min d (n.log2 + 2)) := Nat.pow_pos (by decide)
  have h1 : n / 2 ^ (min d (n.log2 + 2)) = q := by
    conv => lhs; lhs; rw [h]
    exact Nat.mul_div_cancel _ hp
  have h2 : n % 2 ^ (min d (n.log2 + 2)) = 0 := by
    conv => lhs; lhs; rw [h]
    exact Nat.mul_mod_left _ _
  simp only [Toward.cut, Nat.shiftLeft_eq, Nat.one_mul, h1, h2]
  have h3 : ¬ (2 ^ (min d (n.log2 + 2)) = 0) := by omega
  simp [h3]

theorem log2_of {n k : Nat} (h1 : 2 ^ k ≤ n) (h2 : n < 2 ^ (k + 1)) : n.log2 = k := by
  have h0 : n ≠ 0 := by have := Nat.pow_pos (n := k) (show 0 < 2 by decide); omega
  have a : k ≤ n.log2 := (Nat.le_log2 h0).2 h1
  have b : n.log2 < k + 1 := (Nat.log2_lt h0).2 h2
  omega

/-- A word that is read as it was laid. -/
theorem read_word (s : Bool) (K : Nat) (l : Int) (h1 : 2 ^ 52 ≤ K) (h2 : K < 2 ^ 53) (h3 : -1074 ≤ l) (h4 : l ≤ 900) :
    double.read (double.word s (min ((l - double.leastPlace).toNat * double.binade + K) double.infRung)) = .number s K l := by
  have hb : double.binade = 4503599627370496 := rfl
  have hl : double.leastPlace = -1074 := rfl
  have hi : double.infRung = 9218868437227405312 := rfl
  have hw : double.signWeight = 9223372036854775808 := rfl
  obtain ⟨p, hp⟩ : ∃ p : Nat, (l - double.leastPlace).toNat = p ∧ l = (p : Int) - 1074 ∧ p ≤ 1974 := ⟨(l + 1074).toNat, by rw [hl]; omega, by omega, by omega⟩
  obtain ⟨hp1, hp2, hp3⟩ := hp
  rw [hp1]
  have hm : min (p * double.binade + K) double.infRung = p * 4503599627370496 + K := by rw [hb, hi]; omega
  rw [hm]
  have hr : (p * 4503599627370496 + K) < 9223372036854775808 := by omega
  have key : ∀ w : Nat, w % 9223372036854775808 = p * 4503599627370496 + K → (w / 9223372036854775808 % 2 == 1) = s → double.read w = .number s K l := by
    intro w e1 e2
    unfold Format.read
    simp only [hb, hl, hi, hw, e1, e2]
    have c1 : ¬ p * 4503599627370496 + K < 4503599627370496 := by omega
    have c2 : p * 4503599627370496 + K < 9218868437227405312 := by omega
    have c3 : (p * 4503599627370496 + K) % 4503599627370496 = K - 4503599627370496 := by omega
    have c4 : (p * 4503599627370496 + K) / 4503599627370496 - 1 = p := by omega
    rw [if_neg c1, if_pos c2, c3, c4, hp2]
    have c5 : 4503599627370496 + (K - 4503599627370496) = K := by omega
    have c6 : (-1074 : Int) + (p : Int) = (p : Int) - 1074 := by omega
    rw [c5, c6]
  apply key
  · cases s with
    | false => show (p * 4503599627370496 + K) % 9223372036854775808 = _; omega
    | true => show (9223372036854775808 + (p * 4503599627370496 + K)) % 9223372036854775808 = _; omega
  · cases s with
    | false =>
      show ((p * 4503599627370496 + K) / 9223372036854775808 % 2 == 1) = false
      rw [Nat.div_eq_of_lt hr]; rfl
    | true =>
      show ((9223372036854775808 + (p * 4503599627370496 + K)) / 9223372036854775808 % 2 == 1) = true
      rw [show (9223372036854775808 + (p * 4503599627370496 + K)) / 9223372036854775808 = 1 by omega]; rfl
theorem read_zero (s : Bool) : double.read (double.word s 0) = .number s 0 (-1074) := by cases s <;> rfl

theorem signed_bound (s : Bool) (M : Nat) (h : M ≤ 2 ^ 63) (hs : s = false → M < 2 ^ 63) : -9223372036854775808 ≤ signed s M 0 ∧ signed s M 0 ≤ 9223372036854775807 := by
  unfold signed
  simp only [Nat.shiftLeft_zero]
  cases s with
  | false => have := hs rfl; simp only [Bool.false_eq_true, if_false]; omega
  | true => simp only [if_true]; omega

/-- A whole number of few digits is written as it is. -/
theorem whole_exact (s : Bool) (M : Nat) (h : M ≤ 2 ^ 63) (hM : M < 2 ^ 53 ∨ ∃ m e : Nat, M = m * 2 ^ e ∧ 2 ^ 52 ≤ m ∧ m < 2 ^ 53) :
    (double.read (double.write (.number s M 0))).toInt .zero = some (signed s M 0) := by
  have hl : double.leastPlace = -1074 := rfl
  have hf : (double.fractionBits : Int) = 52 := rfl
  unfold Format.write Format.nearest
  dsimp only
  by_cases h0 : M = 0
  · subst h0
    simp only [if_true]
    rw [read_zero]
    simp only [Datum.toInt, Datum.integral, cut_zero]
    simp
  · rw [if_neg h0]
    have hL1 : 2 ^ M.log2 ≤ M := Nat.log2_self_le h0
    have hL2 : M < 2 ^ (M.log2 + 1) := Nat.lt_log2_self
    have hL : M.log2 ≤ 63 := by
      have : M.log2 < 64 := (Nat.log2_lt h0).2 (by omega)
      omega
    have hlast : max ((0 : Int) + (M.log2 : Int) - (double.fractionBits : Int)) double.leastPlace = (M.log2 : Int) - 52 := by rw [hl, hf]; omega
    simp only [hlast]
    -- kept
    obtain ⟨K, l, hK, hK1, hK2, hlk, hdef⟩ : ∃ K : Nat, ∃ l : Int, (l = (M.log2 : Int) - 52) ∧ 2 ^ 52 ≤ K ∧ K < 2 ^ 53 ∧ Toward.even.cut s (M <<< ((0 : Int) - ((M.log2 : Int) - 52)).toNat) (((M.log2 : Int) - 52) - 0).toNat = K ∧
        ((0 ≤ l → M = K * 2 ^ l.toNat) ∧ (l < 0 → K = M * 2 ^ (-l).toNat ∧ (-l).toNat ≤ 52)) := by
      by_cases hs : M.log2 ≤ 52
      · refine ⟨M * 2 ^ (52 - M.log2), (M.log2 : Int) - 52, rfl, ?_, ?_, ?_, ?_, ?_⟩
        · calc 2 ^ 52 = 2 ^ M.log2 * 2 ^ (52 - M.log2) := by rw [← Nat.pow_add]; congr 1; omega
            _ ≤ M * 2 ^ (52 - M.log2) := Nat.mul_le_mul_right _ hL1
        · calc M * 2 ^ (52 - M.log2) < 2 ^ (M.log2 + 1) * 2 ^ (52 - M.log2) := Nat.mul_lt_mul_of_pos_right hL2 (Nat.pow_pos (by decide))
            _ = 2 ^ 53 := by rw [← Nat.pow_add]; congr 1; omega
        · have e1 : ((0 : Int) - ((M.log2 : Int) - 52)).toNat = 52 - M.log2 := by omega
          have e2 : (((M.log2 : Int) - 52) - 0).toNat = 0 := by omega
          rw [e1, e2]
          exact cut_even_dvd _ _ _ _ (by rw [Nat.zero_min, Nat.shiftLeft_eq]; simp)
        · intro hge
          have e : M.log2 = 52 := by omega
          rw [e]; simp
        · intro hlt
          have e : (-((M.log2 : Int) - 52)).toNat = 52 - M.log2 := by omega
          rw [e]; exact ⟨rfl, by omega⟩
      · obtain ⟨m, e, hme, hm1, hm2⟩ : ∃ m e : Nat, M = m * 2 ^ e ∧ 2 ^ 52 ≤ m ∧ m < 2 ^ 53 := by
          rcases hM with hM | hM
          · exfalso
            have : M.log2 < 53 := (Nat.log2_lt h0).2 hM
            omega
          · exact hM
        have hlog : M.log2 = 52 + e := by
          apply log2_of
          · rw [hme, Nat.pow_add]; exact Nat.mul_le_mul_right _ hm1
          · rw [hme, show 52 + e + 1 = 53 + e by omega, Nat.pow_add]; exact Nat.mul_lt_mul_of_pos_right hm2 (Nat.pow_pos (by decide))
        refine ⟨m, (M.log2 : Int) - 52, rfl, hm1, hm2, ?_, ?_, ?_⟩
        · have e1 : ((0 : Int) - ((M.log2 : Int) - 52)).toNat = 0 := by omega
          have e2 : (((M.log2 : Int) - 52) - 0).toNat = e := by omega
          rw [e1, e2]
          refine cut_even_dvd _ _ _ _ ?_
          rw [Nat.shiftLeft_zero, hlog, show min e (52 + e + 2) = e by omega]; exact hme
        · intro _
          rw [show ((M.log2 : Int) - 52).toNat = e by omega]; exact hme
        · intro hlt; omega
    rw [hlk, ← hK, read_word s K l hK1 hK2 (by omega) (by omega)]
    simp only [Datum.toInt, Datum.integral, cut_zero]
    have hKl : K.log2 = 52 := log2_of hK1 hK2
    have : (K <<< l.toNat) / 2 ^ (min (-l).toNat ((K <<< l.toNat).log2 + 2)) = M := by
      by_cases hge : 0 ≤ l
      · have e : (-l).toNat = 0 := by omega
        rw [e, Nat.zero_min, Nat.pow_zero, Nat.div_one, Nat.shiftLeft_eq]
        exact (hdef.1 hge).symm
      · have e : l.toNat = 0 := by omega
        obtain ⟨d1, d2⟩ := hdef.2 (by omega)
        rw [e, Nat.shiftLeft_zero, hKl, show min (-l).toNat (52 + 2) = (-l).toNat by omega, d1]
        exact Nat.mul_div_cancel _ (Nat.pow_pos (by decide))
    rw [this]

theorem ord_cmp (s t : Bool) (m n : Nat) (i j : Int) : Datum.order (.number s m i) (.number t n j) = some (compare (signed s m (i - min i j).toNat) (signed t n (j - min i j).toNat)) := rfl
/-- What a float that is no NaN, below 2^63, at least -2^63, has as its whole part. -/
theorem conv_ok (x : Nat) (h1 : feq x x = true) (h2 : ¬ fge x 4890909195324358656 = true) (h3 : ¬ flt x 14114281232179134464 = true) :
    truncV x = some (ftr x) ∧ (FloatKind.f64.decode (ftr x)).toInt .zero = some (ftz x) ∧ (-9223372036854775808 ≤ ftz x ∧ ftz x ≤ 9223372036854775807) := by
  have c1 : double.read 4890909195324358656 = .number false 4503599627370496 11 := rfl
  have c2 : double.read 14114281232179134464 = .number true 4503599627370496 11 := rfl
  have hfeq : feq x x = ((double.read x).order (double.read x) == some .eq) := rfl
  have hfge : fge x 4890909195324358656 = ((double.read x).order (double.read 4890909195324358656) == some .gt || (double.read x).order (double.read 4890909195324358656) == some .eq) := rfl
  have hflt : flt x 14114281232179134464 = ((double.read x).order (double.read 14114281232179134464) == some .lt) := rfl
  rw [hfeq] at h1; rw [hfge, c1] at h2; rw [hflt, c2] at h3
  rcases read_cases x with ⟨s, t, hx⟩ | ⟨s, hx⟩ | ⟨s, m, e, hx, hm, hn, he⟩
  · rw [hx] at h1; simp [Datum.order] at h1
  · rw [hx] at h2 h3
    cases s
    · simp [Datum.order] at h2
    · simp [Datum.order] at h3
  · have hd : FloatKind.f64.decode x = .number s m e := hx
    rw [hx] at h2 h3
    rw [ord_cmp] at h2 h3
    have ht : truncV x = some (double.write (.number s (Toward.zero.cut s (m <<< e.toNat) (-e).toNat) 0)) := by
      unfold truncV; rw [hd]; rfl
    have hftr : ftr x = double.write (.number s (Toward.zero.cut s (m <<< e.toNat) (-e).toNat) 0) := by unfold ftr; rw [ht]; rfl
    have hM : ∃ M, Toward.zero.cut s (m <<< e.toNat) (-e).toNat = M ∧ M ≤ 2 ^ 63 ∧ (s = false → M < 2 ^ 63) ∧ (M < 2 ^ 53 ∨ ∃ m e : Nat, M = m * 2 ^ e ∧ 2 ^ 52 ≤ m ∧ m < 2 ^ 53) := by
      by_cases hge : 0 ≤ e
      · obtain ⟨k, rfl⟩ : ∃ k : Nat, e = (k : Int) := ⟨e.toNat, by omega⟩
        have hm52 : 2 ^ 52 ≤ m := hn (by omega)
        have e1 : (-(k : Int)).toNat = 0 := by omega
        rw [cut_zero, e1, Nat.zero_min, Nat.pow_zero, Nat.div_one, Int.toNat_natCast, Nat.shiftLeft_eq]
        have hle : m * 2 ^ k ≤ 2 ^ 63 ∧ (s = false → m * 2 ^ k < 2 ^ 63) := by
          by_cases hk : k ≤ 11
          · have hp : 2 ^ k * 2 ^ (11 - k) = 2 ^ 11 := by rw [← Nat.pow_add]; congr 1; omega
            rw [show ((k : Int) - min (k : Int) 11).toNat = 0 by omega, show ((11 : Int) - min (k : Int) 11).toNat = 11 - k by omega] at h2 h3
            simp only [signed, Nat.shiftLeft_eq] at h2 h3
            have hpp : 0 < 2 ^ k := Nat.pow_pos (by decide)
            generalize 2 ^ (11 - k) = q at *
            generalize 2 ^ k = r at *
            cases s with
            | false =>
              simp only [Bool.false_eq_true, if_false] at h2
              have hlt : m < 4503599627370496 * q := by
                rcases Nat.lt_or_ge m (4503599627370496 * q) with hlt | hge2
                · exact hlt
                · exfalso; apply h2
                  rcases Nat.lt_or_eq_of_le hge2 with hgt | heq
                  · have : compare ((m * 2 ^ 0 : Nat) : Int) ((4503599627370496 * q : Nat) : Int) = .gt := Int.compare_eq_gt.2 (by omega)
                    rw [this]; rfl
                  · have : compare ((m * 2 ^ 0 : Nat) : Int) ((4503599627370496 * q : Nat) : Int) = .eq := Int.compare_eq_eq.2 (by omega)
                    rw [this]; rfl
              have : m * r < 4503599627370496 * q * r := Nat.mul_lt_mul_of_pos_right hlt hpp
              have e : 4503599627370496 * q * r = 2 ^ 63 := by rw [Nat.mul_assoc, Nat.mul_comm q r, hp]
              omega
            | true =>
              simp only [if_true] at h3
              have hle : m ≤ 4503599627370496 * q := by
                rcases Nat.lt_or_ge (4503599627370496 * q) m with hlt | hge2
                · exfalso; apply h3
                  have : compare (-((m * 2 ^ 0 : Nat) : Int)) (-((4503599627370496 * q : Nat) : Int)) = .lt := Int.compare_eq_lt.2 (by omega)
                  rw [this]; rfl
                · exact hge2
              have : m * r ≤ 4503599627370496 * q * r := Nat.mul_le_mul_right _ hle
              have e : 4503599627370496 * q * r = 2 ^ 63 := by rw [Nat.mul_assoc, Nat.mul_comm q r, hp]
              exact ⟨by omega, fun h => by cases h⟩
          · exfalso
            have hp : 2 ^ 12 ≤ 2 * 2 ^ (k - 11) * 2 ^ 11 := by
              have : 1 ≤ 2 ^ (k - 11) := Nat.one_le_two_pow
              omega
            have h2k : 2 ≤ 2 ^ (k - 11) := by
              calc 2 = 2 ^ 1 := rfl
                _ ≤ 2 ^ (k - 11) := Nat.pow_le_pow_right (by decide) (by omega)
            rw [show ((k : Int) - min (k : Int) 11).toNat = k - 11 by omega, show ((11 : Int) - min (k : Int) 11).toNat = 0 by omega] at h2 h3
            simp only [signed, Nat.shiftLeft_eq] at h2 h3
            have hbig : 4503599627370496 < m * 2 ^ (k - 11) := by
              have := Nat.mul_le_mul hm52 h2k
              omega
            generalize m * 2 ^ (k - 11) = z at *
            cases s with
            | false =>
              simp only [Bool.false_eq_true, if_false] at h2
              apply h2
              have : compare (z : Int) ((4503599627370496 * 2 ^ 0 : Nat) : Int) = .gt := Int.compare_eq_gt.2 (by omega)
              rw [this]; rfl
            | true =>
              simp only [if_true] at h3
              apply h3
              have : compare (-(z : Int)) (-((4503599627370496 * 2 ^ 0 : Nat) : Int)) = .lt := Int.compare_eq_lt.2 (by omega)
              rw [this]; rfl
        exact ⟨_, rfl, hle.1, hle.2, .inr ⟨m, k, rfl, hm52, hm⟩⟩
      · have e1 : e.toNat = 0 := by omega
        rw [cut_zero, e1, Nat.shiftLeft_zero]
        have hle : m / 2 ^ (min (-e).toNat (m.log2 + 2)) ≤ m := Nat.div_le_self _ _
        exact ⟨_, rfl, by omega, fun _ => by omega, .inl (by omega)⟩
    obtain ⟨M, hMe, hM1, hM2, hM3⟩ := hM
    rw [hMe] at ht hftr
    have hz := whole_exact s M hM1 hM3
    have hdz : (FloatKind.f64.decode (ftr x)).toInt .zero = some (signed s M 0) := by rw [hftr]; exact hz
    have hftz : ftz x = signed s M 0 := by unfold ftz; rw [hdz]; rfl
    refine ⟨by rw [ht, hftr], by rw [hdz, hftz], ?_⟩
    rw [hftz]
    exact signed_bound s M hM1 hM2
end Go.Ab
namespace Go.Proofs.Ytclpbfkbpcjejaa
open Go Go.Ab
set_option linter.unusedVariables false
set_option linter.unusedSimpArgs false
set_option linter.unnecessarySimpa false
set_option maxRecDepth 20000
noncomputable section
variable (fr : Fr) (st : St) (k : Kt)
theorem ty2 : gS.ty 2 = some { k := .int .i64, size := 1, agg := false, zero := [.int .i64 0] } := by kernel_rfl
theorem ty3 : gS.ty 3 = some { k := .int .i64, size := 1, agg := false, zero := [.int .i64 0] } := by kernel_rfl
theorem ty4 : gS.ty 4 = some { k := .bool, size := 1, agg := false, zero := [.bool false] } := by kernel_rfl
theorem ty5 : gS.ty 5 = some { k := .int .u8, size := 1, agg := false, zero := [.int .u8 0] } := by kernel_rfl
theorem ty9 : gS.ty 9 = some { k := .str, size := 1, agg := false, zero := [.str []] } := by kernel_rfl
theorem ty22 : gS.ty 22 = some { k := .float .f64, size := 1, agg := false, zero := [.float .f64 0] } := by kernel_rfl
theorem ty24 : gS.ty 24 = some { k := .struct [(0, 1, false), (1, 1, false), (2, 1, false), (3, 1, false), (4, 1, false)], size := 5, agg := true, zero := [.int .i64 0, .int .i64 0, .float .f64 0, .str [], .bool false] } := by kernel_rfl
theorem ty25 : gS.ty 25 = some { k := .slice 5 48 true [.int .i64 0, .int .i64 0, .float .f64 0, .str [], .bool false], size := 1, agg := false, zero := [.osl 0 []] } := by kernel_rfl
theorem ty27 : gS.ty 27 = some { k := .struct [(0, 1, false), (1, 1, false), (2, 5, true), (7, 5, true), (12, 1, false)], size := 13, agg := true, zero := [.str [], .int .i64 0, .int .i64 0, .int .i64 0, .float .f64 0, .str [], .bool false, .int .i64 0, .int .i64 0, .float .f64 0, .str [], .bool false, .osl 0 []] } := by kernel_rfl
theorem ty28 : gS.ty 28 = some { k := .slice 1 8 false [.int .i64 0], size := 1, agg := false, zero := [.osl 0 []] } := by kernel_rfl
theorem ty29 : gS.ty 29 = some { k := .pointer, size := 1, agg := false, zero := [.nilp] } := by kernel_rfl
theorem ty31 : gS.ty 31 = some { k := .struct [(0, 1, false), (1, 1, false)], size := 2, agg := true, zero := [.osl 0 [], .int .i64 0] } := by kernel_rfl
theorem ty49 : gS.ty 49 = some { k := .slice 13 144 true [.str [], .int .i64 0, .int .i64 0, .int .i64 0, .float .f64 0, .str [], .bool false, .int .i64 0, .int .i64 0, .float .f64 0, .str [], .bool false, .osl 0 []], size := 1, agg := false, zero := [.osl 0 []] } := by kernel_rfl
theorem ty50 : gS.ty 50 = some { k := .slice 6 64 true [.str [], .int .i64 0, .int .i64 0, .float .f64 0, .str [], .bool false], size := 1, agg := false, zero := [.osl 0 []] } := by kernel_rfl
theorem ty51 : gS.ty 51 = some { k := .slice 1 24 false [.osl 0 []], size := 1, agg := false, zero := [.osl 0 []] } := by kernel_rfl
theorem ty67 : gS.ty 67 = some { k := .slice 4 48 true [.int .i64 0, .int .i64 0, .int .i64 0, .osl 0 []], size := 1, agg := false, zero := [.osl 0 []] } := by kernel_rfl
theorem ty70 : gS.ty 70 = some { k := .struct [(0, 1, false), (1, 1, false), (2, 1, false), (3, 1, false)], size := 4, agg := true, zero := [.int .i64 0, .int .i64 0, .int .i64 0, .osl 0 []] } := by kernel_rfl
theorem ty71 : gS.ty 71 = some { k := .slice 2 48 true [.osl 0 [], .osl 0 []], size := 1, agg := false, zero := [.osl 0 []] } := by kernel_rfl
theorem ty76 : gS.ty 76 = some { k := .struct [(0, 1, false), (1, 1, false)], size := 2, agg := true, zero := [.osl 0 [], .osl 0 []] } := by kernel_rfl
theorem ty86 : gS.ty 86 = some { k := .array 7 1 false, size := 7, agg := true, zero := [.bool false, .bool false, .bool false, .bool false, .bool false, .bool false, .bool false] } := by kernel_rfl
theorem ty89 : gS.ty 89 = some { k := .array 6 1 false, size := 6, agg := true, zero := [.str [], .str [], .str [], .str [], .str [], .str []] } := by kernel_rfl
theorem ty90 : gS.ty 90 = some { k := .array 6 1 false, size := 6, agg := true, zero := [.int .i64 0, .int .i64 0, .int .i64 0, .int .i64 0, .int .i64 0, .int .i64 0] } := by kernel_rfl
theorem ty107 : gS.ty 107 = some { k := .array 4 1 false, size := 4, agg := true, zero := [.str [], .str [], .str [], .str []] } := by kernel_rfl
theorem ty109 : gS.ty 109 = some { k := .array 5 1 false, size := 5, agg := true, zero := [.str [], .str [], .str [], .str [], .str []] } := by kernel_rfl
theorem ty111 : gS.ty 111 = some { k := .struct [(0, 1, false), (1, 5, true)], size := 6, agg := true, zero := [.str [], .int .i64 0, .int .i64 0, .float .f64 0, .str [], .bool false] } := by kernel_rfl
theorem ty117 : gS.ty 117 = some { k := .array 14 1 false, size := 14, agg := true, zero := [.float .f64 0, .float .f64 0, .float .f64 0, .float .f64 0, .float .f64 0, .float .f64 0, .float .f64 0, .float .f64 0, .float .f64 0, .float .f64 0, .float .f64 0, .float .f64 0, .float .f64 0, .float .f64 0] } := by kernel_rfl
theorem ty123 : gS.ty 123 = some { k := .int .u64, size := 1, agg := false, zero := [.int .u64 0] } := by kernel_rfl
theorem eq24 : gS.eqs 24 = some [.int .i64, .int .i64, .float .f64, .str, .bool] := by kernel_rfl
theorem k115 (b : Nat) (fr : Fr) (st : St) : callStep gS (EvF gS) 115 [.float .f64 b] fr st = some (.ok (.val (.int .u64 b)) fr st) := rfl
theorem k120 (b v : Nat) (h : truncV b = some v) (fr : Fr) (st : St) : callStep gS (EvF gS) 120 [.float .f64 b] fr st = some (.ok (.val (.float .f64 v)) fr st) := by
  have e : gS.ext 120 = some .trunc := rfl
  unfold callStep
  simp only [e, extV, h, Option.map_some]
def fi116 : FI := { body := codeOf Try.f116, ntmps := 6, results := [.tmp 2], pers := [0, 2], locals := [], pure := true, marks := [] }
theorem fi116_eq : gS.fn 116 = some fi116 := by kernel_rfl
theorem st116 (a0 : V) : startFr fi116 [a0] = { ps := [(0, .val a0), (2, .any)], ts := [], lc := [] } := rfl
def b116 : Code := mini (codeOf Try.f116)
def c116_2 : Code := .seq (codeN b116 5) .ret
theorem e116_2 : evK gS fi116 c116_2 fr st k = opsR gS fi116 [mv 3 0 22,
 mv 4 0 22,
 bop 5 .neq 22 3 4 22 4,
 asn 2 5 4] fr st (.seq .ret k) := evK_rs 1 rfl (by kernel_rfl)
def c116_0 : Code := .seq (codeN b116 2) c116_2
theorem e116_0 : evK gS fi116 c116_0 fr st k = opsR gS fi116 [op1 2 (.assign (.const (.bool false))) 4] fr st (.seq c116_2 k) := evK_rs 0 rfl (by kernel_rfl)
theorem m116 : mini fi116.body = c116_0 := by kernel_rfl
set_option maxHeartbeats 4000000 in
theorem c116 (x : Nat)  (st : St) : EvF gS 116 [.float .f64 x] st = some (.ret (.bool (!feq x x)) none, st) := by
  refine EvF_start fi116_eq (fun x h => by cases h) m116 ?_
  rw [st116]
  have hm : fi116.marks = [] := rfl
  have hl : fi116.locals = [] := rfl
  have hr : fi116.results = [.tmp 2] := rfl
  simp (config := { contextual := true, maxSteps := 10000000, maxDischargeDepth := 6 }) [-Int.not_le, -Int.not_lt, -Nat.not_le, -Nat.not_lt, ty4, ty22, hm, hl, hr, e116_2, e116_0]
  all_goals first | done | grind | omega | (trace_state; fail)
theorem k116 (x : Nat)  (fr : Fr) (st : St) : callStep gS (EvF gS) 116 [.float .f64 x] fr st = some (.ok (retE none (.bool (!feq x x))) fr st) :=
  call_pure rfl fi116_eq rfl (fun st => c116 x  st) (by simp)
def fi117 : FI := { body := codeOf Try.f117, ntmps := 9, results := [.tmp 4], pers := [0, 1, 4], locals := [], pure := true, marks := [] }
theorem fi117_eq : gS.fn 117 = some fi117 := by kernel_rfl
theorem st117 (a0 a1 : V) : startFr fi117 [a0, a1] = { ps := [(0, .val a0), (1, .val a1), (4, .any)], ts := [], lc := [] } := rfl
def b117 : Code := mini (codeOf Try.f117)
def c117_7 : Code := .seq (codeN b117 73) .ret
def c117_13 : Code := .seq (codeN b117 313) .ret
def c117_12 : Code := .cond (.tmp 7) c117_13 .skip
def c117_10 : Code := .seq (codeN b117 89) c117_12
def c117_6 : Code := .cond (.tmp 5) c117_7 c117_10
def c117_4 : Code := .seq (codeN b117 17) c117_6
def c117_17 : Code := .seq (codeN b117 11) .ret
def c117_2 : Code := .seq (.block 0 c117_4) c117_17
def c117_0 : Code := .seq (codeN b117 2) c117_2
theorem E117 : evK gS fi117 c117_7 fr st k = opsR gS fi117 [op1 4 (.assign (.const (.int .i64 (-1)))) 3] fr st (.seq .ret k) ∧
 evK gS fi117 c117_13 fr st k = opsR gS fi117 [op1 4 (.assign (.const (.int .i64 1))) 3] fr st (.seq .ret k) ∧
 evK gS fi117 c117_12 fr st k = condK gS fi117 (fr.op (.tmp 7)).bool? c117_13 .skip fr st k ∧
 (evK gS fi117 c117_10 fr st k = opsR gS fi117 [mv 8 1 4,
 asn 7 8 4] fr st (.seq c117_12 k)) ∧
 evK gS fi117 c117_6 fr st k = condK gS fi117 (fr.op (.tmp 5)).bool? c117_7 c117_10 fr st k ∧
 (evK gS fi117 c117_4 fr st k = opsR gS fi117 [mv 6 0 4,
 asn 5 6 4] fr st (.seq c117_6 k)) ∧
 evK gS fi117 c117_17 fr st k = opsR gS fi117 [op1 4 (.assign (.const (.int .i64 0))) 3] fr st (.seq .ret k) ∧
 evK gS fi117 c117_2 fr st k = evK gS fi117 c117_4 fr st (.blk 0 (.seq c117_17 k)) ∧
 evK gS fi117 c117_0 fr st k = opsR gS fi117 [op1 4 (.assign (.const (.int .i64 0))) 3] fr st (.seq c117_2 k) := ⟨evK_rs 2 rfl (by kernel_rfl), evK_rs 4 rfl (by kernel_rfl), rfl, evK_rs 3 rfl (by kernel_rfl), rfl, evK_rs 1 rfl (by kernel_rfl), evK_rs 5 rfl (by kernel_rfl), rfl, evK_rs 0 rfl (by kernel_rfl)⟩
theorem m117 : mini fi117.body = c117_0 := by kernel_rfl
set_option maxHeartbeats 4000000 in
theorem c117 (b : Bool) (a : Bool)  (st : St) : EvF gS 117 [.bool b, .bool a] st = some (.ret (.int .i64 (sgn b a)) none, st) := by
  refine EvF_start fi117_eq (fun x h => by cases h) m117 ?_
  rw [st117]
  have hm : fi117.marks = [] := rfl
  have hl : fi117.locals = [] := rfl
  have hr : fi117.results = [.tmp 4] := rfl
  simp (config := { contextual := true, maxSteps := 10000000, maxDischargeDepth := 6 }) [-Int.not_le, -Int.not_lt, -Nat.not_le, -Nat.not_lt, ty3, ty4, hm, hl, hr, E117]
  all_goals try simp (config := { contextual := true }) [-Int.not_le, -Int.not_lt, -Nat.not_le, -Nat.not_lt, sgn]
  all_goals first | done | grind | omega | (trace_state; fail)
theorem k117 (b : Bool) (a : Bool)  (fr : Fr) (st : St) : callStep gS (EvF gS) 117 [.bool b, .bool a] fr st = some (.ok (retE none (.int .i64 (sgn b a))) fr st) :=
  call_pure rfl fi117_eq rfl (fun st => c117 b a  st) (by simp)
def fi105 : FI := { body := codeOf Try.f105, ntmps := 19, results := [.tmp 4, .tmp 5], pers := [0, 1, 4, 5], locals := [], pure := true, marks := [] }
theorem fi105_eq : gS.fn 105 = some fi105 := by kernel_rfl
theorem st105 (a0 a1 : V) : startFr fi105 [a0, a1] = { ps := [(0, .val a0), (1, .val a1), (4, .any), (5, .any)], ts := [], lc := [] } := rfl
def b105 : Code := mini (codeOf Try.f105)
def c105_6 : Code := .seq (codeN b105 37) .ret
def c105_5 : Code := .cond (.tmp 11) c105_6 .skip
def c105_3 : Code := .seq (codeN b105 9) c105_5
def c105_10 : Code := .seq (codeN b105 11) .ret
def c105_2 : Code := .seq c105_3 c105_10
def c105_0 : Code := .seq (codeN b105 2) c105_2
theorem E105 : (evK gS fi105 c105_6 fr st k = opsR gS fi105 [op1 4 (.assign (.const (.int .i64 0))) 3,
 op1 5 (.assign (.const (.bool false))) 4] fr st (.seq .ret k)) ∧
 evK gS fi105 c105_5 fr st k = condK gS fi105 (fr.op (.tmp 11)).bool? c105_6 .skip fr st k ∧
 (evK gS fi105 c105_3 fr st k = opsR gS fi105 [mv 6 0 22,
 cal 7 116 [(.tmp 6)] [22] 4,
 mv 8 7 4,
 mk (some 9) (.move (.tmp 1)) 22 (some (2, false)),
 mk (some 10) (.call { callee := (.value (.func 116)), args := #[(.tmp 9)], argTypes := #[22] }) 4 (some (2, false)),
 op1 11 (.pick (.tmp 8) (.const (.bool true)) (.tmp 10)) 4] fr st (.seq c105_5 k)) ∧
 (evK gS fi105 c105_10 fr st k = opsR gS fi105 [mv 12 0 22,
 mv 13 1 22,
 bop 14 .lss 22 12 13 22 4,
 mv 15 0 22,
 mv 16 1 22,
 bop 17 .gtr 22 15 16 22 4,
 cal 18 117 [(.tmp 14), (.tmp 17)] [4, 4] 3,
 asn 4 18 3,
 op1 5 (.assign (.const (.bool true))) 4] fr st (.seq .ret k)) ∧
 evK gS fi105 c105_2 fr st k = evK gS fi105 c105_3 fr st (.seq c105_10 k) ∧
 (evK gS fi105 c105_0 fr st k = opsR gS fi105 [op1 4 (.assign (.const (.int .i64 0))) 3,
 op1 5 (.assign (.const (.bool false))) 4] fr st (.seq c105_2 k)) := ⟨evK_rs 2 rfl (by kernel_rfl), rfl, evK_rs 1 rfl (by kernel_rfl), evK_rs 3 rfl (by kernel_rfl), rfl, evK_rs 0 rfl (by kernel_rfl)⟩
theorem m105 : mini fi105.body = c105_0 := by kernel_rfl
set_option maxHeartbeats 4000000 in
theorem c105 (a : Nat) (b : Nat)  (st : St) : EvF gS 105 [.float .f64 a, .float .f64 b] st = some (.ret (.tuple [.int .i64 (fcmp a b).1, .bool (fcmp a b).2]) none, st) := by
  refine EvF_start fi105_eq (fun x h => by cases h) m105 ?_
  rw [st105]
  have hm : fi105.marks = [] := rfl
  have hl : fi105.locals = [] := rfl
  have hr : fi105.results = [.tmp 4, .tmp 5] := rfl
  simp (config := { contextual := true, maxSteps := 10000000, maxDischargeDepth := 6 }) [-Int.not_le, -Int.not_lt, -Nat.not_le, -Nat.not_lt, ty3, ty4, ty22, hm, hl, hr, k116, k117, E105]
  all_goals try simp (config := { contextual := true }) [-Int.not_le, -Int.not_lt, -Nat.not_le, -Nat.not_lt, fcmp]
  all_goals first | done | grind | omega | (trace_state; fail)
theorem k105 (a : Nat) (b : Nat)  (fr : Fr) (st : St) : callStep gS (EvF gS) 105 [.float .f64 a, .float .f64 b] fr st = some (.ok (retE none (.tuple [.int .i64 (fcmp a b).1, .bool (fcmp a b).2])) fr st) :=
  call_pure rfl fi105_eq rfl (fun st => c105 a b  st) (by simp)
def fi118 : FI := { body := codeOf Try.f118, ntmps := 7, results := [.tmp 2], pers := [0, 2], locals := [], pure := true, marks := [] }
theorem fi118_eq : gS.fn 118 = some fi118 := by kernel_rfl
theorem st118 (a0 : V) : startFr fi118 [a0] = { ps := [(0, .val a0), (2, .any)], ts := [], lc := [] } := rfl
def b118 : Code := mini (codeOf Try.f118)
def c118_4 : Code := .seq (codeN b118 17) .ret
def c118_8 : Code := .seq (codeN b118 11) .ret
def c118_2 : Code := .seq (.cond (.const (.bool true)) c118_4 .skip) c118_8
def c118_0 : Code := .seq (codeN b118 2) c118_2
theorem E118 : (evK gS fi118 c118_4 fr st k = opsR gS fi118 [mv 3 0 22,
 cal 4 120 [(.tmp 3)] [22] 22,
 asn 2 4 22] fr st (.seq .ret k)) ∧
 (evK gS fi118 c118_8 fr st k = opsR gS fi118 [mv 5 0 22,
 cal 6 121 [(.tmp 5)] [22] 22,
 asn 2 6 22] fr st (.seq .ret k)) ∧
 evK gS fi118 c118_2 fr st k = condK gS fi118 (fr.op (.const (.bool true))).bool? c118_4 .skip fr st (.seq c118_8 k) ∧
 evK gS fi118 c118_0 fr st k = opsR gS fi118 [op1 2 (.assign (.const (.float .f64 0))) 22] fr st (.seq c118_2 k) := ⟨evK_rs 1 rfl (by kernel_rfl), evK_rs 2 rfl (by kernel_rfl), rfl, evK_rs 0 rfl (by kernel_rfl)⟩
theorem m118 : mini fi118.body = c118_0 := by kernel_rfl
set_option maxHeartbeats 4000000 in
theorem c118 (x : Nat) (h : truncV x = some (ftr x)) (st : St) : EvF gS 118 [.float .f64 x] st = some (.ret (.float .f64 (ftr x)) none, st) := by
  refine EvF_start fi118_eq (fun x h => by cases h) m118 ?_
  rw [st118]
  have hm : fi118.marks = [] := rfl
  have hl : fi118.locals = [] := rfl
  have hr : fi118.results = [.tmp 2] := rfl
  simp (config := { contextual := true, maxSteps := 10000000, maxDischargeDepth := 6 }) [-Int.not_le, -Int.not_lt, -Nat.not_le, -Nat.not_lt, ty22, hm, hl, hr, E118, k120 x (ftr x) h]
  all_goals first | done | grind | omega | (trace_state; fail)
theorem k118 (x : Nat) (h : truncV x = some (ftr x)) (fr : Fr) (st : St) : callStep gS (EvF gS) 118 [.float .f64 x] fr st = some (.ok (.val (.float .f64 (ftr x))) fr st) :=
  call_pure rfl fi118_eq rfl (fun st => c118 x h st) (by simp)
def fi106 : FI := { body := codeOf Try.f106, ntmps := 38, results := [.tmp 4, .tmp 5], pers := [0, 1, 4, 5, 6, 7], locals := [], pure := true, marks := [] }
theorem fi106_eq : gS.fn 106 = some fi106 := by kernel_rfl
theorem st106 (a0 a1 : V) : startFr fi106 [a0, a1] = { ps := [(0, .val a0), (1, .val a1), (4, .any), (5, .any), (6, .any), (7, .any)], ts := [], lc := [] } := rfl
def b106 : Code := mini (codeOf Try.f106)
def c106_7 : Code := .seq (codeN b106 73) .ret
def c106_13 : Code := .seq (codeN b106 313) .ret
def c106_19 : Code := .seq (codeN b106 1273) .ret
def c106_18 : Code := .cond (.tmp 14) c106_19 .skip
def c106_16 : Code := .seq (codeN b106 377) c106_18
def c106_12 : Code := .cond (.tmp 11) c106_13 c106_16
def c106_10 : Code := .seq (codeN b106 89) c106_12
def c106_6 : Code := .cond (.tmp 8) c106_7 c106_10
def c106_4 : Code := .seq (codeN b106 17) c106_6
def c106_31 : Code := .seq (codeN b106 311) .ret
def c106_30 : Code := .cond (.tmp 23) c106_31 .skip
def c106_28 : Code := .seq (codeN b106 87) c106_30
def c106_26 : Code := .seq (codeN b106 39) c106_28
def c106_35 : Code := .seq (codeN b106 47) .ret
def c106_25 : Code := .seq c106_26 c106_35
def c106_23 : Code := .seq (codeN b106 11) c106_25
def c106_2 : Code := .seq (.block 0 c106_4) c106_23
def c106_0 : Code := .seq (codeN b106 2) c106_2
theorem E106 : (evK gS fi106 c106_7 fr st k = opsR gS fi106 [op1 4 (.assign (.const (.int .i64 0))) 3,
 op1 5 (.assign (.const (.bool false))) 4] fr st (.seq .ret k)) ∧
 (evK gS fi106 c106_13 fr st k = opsR gS fi106 [op1 4 (.assign (.const (.int .i64 (-1)))) 3,
 op1 5 (.assign (.const (.bool true))) 4] fr st (.seq .ret k)) ∧
 (evK gS fi106 c106_19 fr st k = opsR gS fi106 [op1 4 (.assign (.const (.int .i64 1))) 3,
 op1 5 (.assign (.const (.bool true))) 4] fr st (.seq .ret k)) ∧
 evK gS fi106 c106_18 fr st k = condK gS fi106 (fr.op (.tmp 14)).bool? c106_19 .skip fr st k ∧
 (evK gS fi106 c106_16 fr st k = opsR gS fi106 [mv 15 1 22,
 op1 16 (.binOp .lss 22 (.tmp 15) (.const (.float .f64 14114281232179134464)) 22) 4,
 asn 14 16 4] fr st (.seq c106_18 k)) ∧
 evK gS fi106 c106_12 fr st k = condK gS fi106 (fr.op (.tmp 11)).bool? c106_13 c106_16 fr st k ∧
 (evK gS fi106 c106_10 fr st k = opsR gS fi106 [mv 12 1 22,
 op1 13 (.binOp .geq 22 (.tmp 12) (.const (.float .f64 4890909195324358656)) 22) 4,
 asn 11 13 4] fr st (.seq c106_12 k)) ∧
 evK gS fi106 c106_6 fr st k = condK gS fi106 (fr.op (.tmp 8)).bool? c106_7 c106_10 fr st k ∧
 (evK gS fi106 c106_4 fr st k = opsR gS fi106 [mv 9 1 22,
 cal 10 116 [(.tmp 9)] [22] 4,
 asn 8 10 4] fr st (.seq c106_6 k)) ∧
 (evK gS fi106 c106_31 fr st k = opsR gS fi106 [mv 24 0 2,
 mv 25 7 2,
 bop 26 .lss 2 24 25 2 4,
 mv 27 0 2,
 mv 28 7 2,
 bop 29 .gtr 2 27 28 2 4,
 cal 30 117 [(.tmp 26), (.tmp 29)] [4, 4] 3,
 asn 4 30 3,
 op1 5 (.assign (.const (.bool true))) 4] fr st (.seq .ret k)) ∧
 evK gS fi106 c106_30 fr st k = condK gS fi106 (fr.op (.tmp 23)).bool? c106_31 .skip fr st k ∧
 (evK gS fi106 c106_28 fr st k = opsR gS fi106 [mv 21 7 2,
 mv 22 0 2,
 bop 23 .neq 2 21 22 2 4] fr st (.seq c106_30 k)) ∧
 (evK gS fi106 c106_26 fr st k = opsR gS fi106 [mv 19 6 22,
 op1 20 (.convert 22 2 (.tmp 19)) 2,
 asn 7 20 2] fr st (.seq c106_28 k)) ∧
 (evK gS fi106 c106_35 fr st k = opsR gS fi106 [mv 31 6 22,
 mv 32 1 22,
 bop 33 .lss 22 31 32 22 4,
 mv 34 6 22,
 mv 35 1 22,
 bop 36 .gtr 22 34 35 22 4,
 cal 37 117 [(.tmp 33), (.tmp 36)] [4, 4] 3,
 asn 4 37 3,
 op1 5 (.assign (.const (.bool true))) 4] fr st (.seq .ret k)) ∧
 evK gS fi106 c106_25 fr st k = evK gS fi106 c106_26 fr st (.seq c106_35 k) ∧
 (evK gS fi106 c106_23 fr st k = opsR gS fi106 [mv 17 1 22,
 cal 18 118 [(.tmp 17)] [22] 22,
 asn 6 18 22] fr st (.seq c106_25 k)) ∧
 evK gS fi106 c106_2 fr st k = evK gS fi106 c106_4 fr st (.blk 0 (.seq c106_23 k)) ∧
 (evK gS fi106 c106_0 fr st k = opsR gS fi106 [op1 4 (.assign (.const (.int .i64 0))) 3,
 op1 5 (.assign (.const (.bool false))) 4] fr st (.seq c106_2 k)) := ⟨evK_rs 2 rfl (by kernel_rfl), evK_rs 4 rfl (by kernel_rfl), evK_rs 6 rfl (by kernel_rfl), rfl, evK_rs 5 rfl (by kernel_rfl), rfl, evK_rs 3 rfl (by kernel_rfl), rfl, evK_rs 1 rfl (by kernel_rfl), evK_rs 10 rfl (by kernel_rfl), rfl, evK_rs 9 rfl (by kernel_rfl), evK_rs 8 rfl (by kernel_rfl), evK_rs 11 rfl (by kernel_rfl), rfl, evK_rs 7 rfl (by kernel_rfl), rfl, evK_rs 0 rfl (by kernel_rfl)⟩
theorem m106 : mini fi106.body = c106_0 := by kernel_rfl
set_option maxHeartbeats 4000000 in
theorem c106 (n : Int) (x : Nat)  (st : St) : EvF gS 106 [.int .i64 n, .float .f64 x] st = some (.ret (.tuple [.int .i64 (icmp n x).1, .bool (icmp n x).2]) none, st) := by
  refine EvF_start fi106_eq (fun x h => by cases h) m106 ?_
  rw [st106]
  have hm : fi106.marks = [] := rfl
  have hl : fi106.locals = [] := rfl
  have hr : fi106.results = [.tmp 4, .tmp 5] := rfl
  by_cases h1 : feq x x = true
  · by_cases h2 : fge x 4890909195324358656 = true
    · simp (config := { contextual := true, maxSteps := 10000000 }) [icmp, sgn, h1, h2, -Int.not_le, -Int.not_lt, -Nat.not_le, -Nat.not_lt, ty2, ty3, ty4, ty22, hm, hl, hr, k116, k117, E106]
    · by_cases h3 : flt x 14114281232179134464 = true
      · simp (config := { contextual := true, maxSteps := 10000000 }) [icmp, sgn, h1, h2, h3, -Int.not_le, -Int.not_lt, -Nat.not_le, -Nat.not_lt, ty2, ty3, ty4, ty22, hm, hl, hr, k116, k117, E106]
      · obtain ⟨e1, e2, e3, e4⟩ := conv_ok x h1 h2 h3
        have e5 : IntKind.min .i64 ≤ ftz x := e3
        have e6 : ftz x ≤ IntKind.max .i64 := e4
        by_cases h4 : ftz x = n
        · subst h4
          simp (config := { contextual := true, maxSteps := 10000000 }) [icmp, h1, h2, h3, k118 x e1, e2, e3, e4, e5, e6, -Int.not_le, -Int.not_lt, -Nat.not_le, -Nat.not_lt, ty2, ty3, ty4, ty22, hm, hl, hr, k116, k117, E106]
          skip
        · skip
          have h5 : ¬ n = ftz x := fun h => h4 h.symm
          simp (config := { contextual := true, maxSteps := 10000000 }) [icmp, h1, h2, h3, h4, h5, k118 x e1, e2, e3, e4, e5, e6, -Int.not_le, -Int.not_lt, -Nat.not_le, -Nat.not_lt, ty2, ty3, ty4, ty22, hm, hl, hr, k116, k117, E106]
          skip
  · simp (config := { contextual := true, maxSteps := 10000000 }) [icmp, sgn, h1, -Int.not_le, -Int.not_lt, -Nat.not_le, -Nat.not_lt, ty2, ty3, ty4, ty22, hm, hl, hr, k116, k117, E106]
theorem k106 (n : Int) (x : Nat)  (fr : Fr) (st : St) : callStep gS (EvF gS) 106 [.int .i64 n, .float .f64 x] fr st = some (.ok (retE none (.tuple [.int .i64 (icmp n x).1, .bool (icmp n x).2])) fr st) :=
  call_pure rfl fi106_eq rfl (fun st => c106 n x  st) (by simp)
def fi119 : FI := { body := codeOf Try.f119, ntmps := 9, results := [.tmp 2], pers := [0, 2], locals := [], pure := true, marks := [] }
theorem fi119_eq : gS.fn 119 = some fi119 := by kernel_rfl
theorem st119 (a0 : V) : startFr fi119 [a0] = { ps := [(0, .val a0), (2, .any)], ts := [], lc := [] } := rfl
def b119 : Code := mini (codeOf Try.f119)
def c119_6 : Code := .seq (codeN b119 37) .ret
def c119_5 : Code := .cond (.tmp 4) c119_6 .skip
def c119_3 : Code := .seq (codeN b119 9) c119_5
def c119_14 : Code := .seq (codeN b119 75) .ret
def c119_13 : Code := .cond (.tmp 6) c119_14 .skip
def c119_11 : Code := .seq (codeN b119 19) c119_13
def c119_18 : Code := .seq (codeN b119 23) .ret
def c119_10 : Code := .seq c119_11 c119_18
def c119_2 : Code := .seq c119_3 c119_10
def c119_0 : Code := .seq (codeN b119 2) c119_2
theorem E119 : evK gS fi119 c119_6 fr st k = opsR gS fi119 [op1 2 (.assign (.const (.int .u64 9221120237041090560))) 123] fr st (.seq .ret k) ∧
 evK gS fi119 c119_5 fr st k = condK gS fi119 (fr.op (.tmp 4)).bool? c119_6 .skip fr st k ∧
 (evK gS fi119 c119_3 fr st k = opsR gS fi119 [mv 3 0 22,
 cal 4 116 [(.tmp 3)] [22] 4] fr st (.seq c119_5 k)) ∧
 evK gS fi119 c119_14 fr st k = opsR gS fi119 [op1 2 (.assign (.const (.int .u64 0))) 123] fr st (.seq .ret k) ∧
 evK gS fi119 c119_13 fr st k = condK gS fi119 (fr.op (.tmp 6)).bool? c119_14 .skip fr st k ∧
 (evK gS fi119 c119_11 fr st k = opsR gS fi119 [mv 5 0 22,
 op1 6 (.binOp .eql 22 (.tmp 5) (.const (.float .f64 0)) 22) 4] fr st (.seq c119_13 k)) ∧
 (evK gS fi119 c119_18 fr st k = opsR gS fi119 [mv 7 0 22,
 cal 8 115 [(.tmp 7)] [22] 123,
 asn 2 8 123] fr st (.seq .ret k)) ∧
 evK gS fi119 c119_10 fr st k = evK gS fi119 c119_11 fr st (.seq c119_18 k) ∧
 evK gS fi119 c119_2 fr st k = evK gS fi119 c119_3 fr st (.seq c119_10 k) ∧
 evK gS fi119 c119_0 fr st k = opsR gS fi119 [op1 2 (.assign (.const (.int .u64 0))) 123] fr st (.seq c119_2 k) := ⟨evK_rs 2 rfl (by kernel_rfl), rfl, evK_rs 1 rfl (by kernel_rfl), evK_rs 4 rfl (by kernel_rfl), rfl, evK_rs 3 rfl (by kernel_rfl), evK_rs 5 rfl (by kernel_rfl), rfl, rfl, evK_rs 0 rfl (by kernel_rfl)⟩
theorem m119 : mini fi119.body = c119_0 := by kernel_rfl
set_option maxHeartbeats 4000000 in
theorem c119 (x : Nat)  (st : St) : EvF gS 119 [.float .f64 x] st = some (.ret (.int .u64 (fbits x)) none, st) := by
  refine EvF_start fi119_eq (fun x h => by cases h) m119 ?_
  rw [st119]
  have hm : fi119.marks = [] := rfl
  have hl : fi119.locals = [] := rfl
  have hr : fi119.results = [.tmp 2] := rfl
  simp (config := { contextual := true, maxSteps := 10000000, maxDischargeDepth := 6 }) [-Int.not_le, -Int.not_lt, -Nat.not_le, -Nat.not_lt, ty4, ty22, ty123, hm, hl, hr, k115, k116, E119]
  all_goals try simp (config := { contextual := true }) [-Int.not_le, -Int.not_lt, -Nat.not_le, -Nat.not_lt, fbits]
  all_goals first | done | grind | omega | (trace_state; fail)
theorem k119 (x : Nat)  (fr : Fr) (st : St) : callStep gS (EvF gS) 119 [.float .f64 x] fr st = some (.ok (retE none (.int .u64 (fbits x))) fr st) :=
  call_pure rfl fi119_eq rfl (fun st => c119 x  st) (by simp)
def fi109 : FI := { body := codeOf Try.f109, ntmps := 10, results := [.tmp 4], pers := [0, 1, 4], locals := [], pure := true, marks := [] }
theorem fi109_eq : gS.fn 109 = some fi109 := by kernel_rfl
theorem st109 (a0 a1 : V) : startFr fi109 [a0, a1] = { ps := [(0, .val a0), (1, .val a1), (4, .any)], ts := [], lc := [] } := rfl
def b109 : Code := mini (codeOf Try.f109)
def c109_2 : Code := .seq (codeN b109 5) .ret
theorem e109_2 : evK gS fi109 c109_2 fr st k = opsR gS fi109 [mv 5 0 22,
 cal 6 119 [(.tmp 5)] [22] 123,
 mv 7 1 22,
 cal 8 119 [(.tmp 7)] [22] 123,
 bop 9 .eql 123 6 8 123 4,
 asn 4 9 4] fr st (.seq .ret k) := evK_rs 1 rfl (by kernel_rfl)
def c109_0 : Code := .seq (codeN b109 2) c109_2
theorem e109_0 : evK gS fi109 c109_0 fr st k = opsR gS fi109 [op1 4 (.assign (.const (.bool false))) 4] fr st (.seq c109_2 k) := evK_rs 0 rfl (by kernel_rfl)
theorem m109 : mini fi109.body = c109_0 := by kernel_rfl
set_option maxHeartbeats 4000000 in
theorem c109 (a : Nat) (b : Nat)  (st : St) : EvF gS 109 [.float .f64 a, .float .f64 b] st = some (.ret (.bool (fbits a = fbits b)) none, st) := by
  refine EvF_start fi109_eq (fun x h => by cases h) m109 ?_
  rw [st109]
  have hm : fi109.marks = [] := rfl
  have hl : fi109.locals = [] := rfl
  have hr : fi109.results = [.tmp 4] := rfl
  simp (config := { contextual := true, maxSteps := 10000000, maxDischargeDepth := 6 }) [-Int.not_le, -Int.not_lt, -Nat.not_le, -Nat.not_lt, ty4, ty22, ty123, hm, hl, hr, k119, e109_2, e109_0]
  all_goals first | done | grind | omega | (trace_state; fail)
theorem k109 (a : Nat) (b : Nat)  (fr : Fr) (st : St) : callStep gS (EvF gS) 109 [.float .f64 a, .float .f64 b] fr st = some (.ok (retE none (.bool (fbits a = fbits b))) fr st) :=
  call_pure rfl fi109_eq rfl (fun st => c109 a b  st) (by simp)
def fi104 : FI := { body := codeOf Try.f104, ntmps := 7, results := [.tmp 4], pers := [0, 1, 4], locals := [], pure := true, marks := [] }
theorem fi104_eq : gS.fn 104 = some fi104 := by kernel_rfl
theorem st104 (a0 a1 : V) : startFr fi104 [a0, a1] = { ps := [(0, .val a0), (1, .val a1), (4, .any)], ts := [], lc := [] } := rfl
def b104 : Code := mini (codeOf Try.f104)
def c104_6 : Code := .seq (codeN b104 37) .ret
def c104_5 : Code := .cond (.tmp 5) c104_6 .skip
def c104_3 : Code := .seq (codeN b104 9) c104_5
def c104_14 : Code := .seq (codeN b104 75) .ret
def c104_13 : Code := .cond (.tmp 6) c104_14 .skip
def c104_11 : Code := .seq (codeN b104 19) c104_13
def c104_18 : Code := .seq (codeN b104 23) .ret
def c104_10 : Code := .seq c104_11 c104_18
def c104_2 : Code := .seq c104_3 c104_10
def c104_0 : Code := .seq (codeN b104 2) c104_2
theorem E104 : evK gS fi104 c104_6 fr st k = opsR gS fi104 [op1 4 (.assign (.const (.int .i64 (-1)))) 3] fr st (.seq .ret k) ∧
 evK gS fi104 c104_5 fr st k = condK gS fi104 (fr.op (.tmp 5)).bool? c104_6 .skip fr st k ∧
 evK gS fi104 c104_3 fr st k = opsR gS fi104 [mv 5 0 4] fr st (.seq c104_5 k) ∧
 evK gS fi104 c104_14 fr st k = opsR gS fi104 [op1 4 (.assign (.const (.int .i64 1))) 3] fr st (.seq .ret k) ∧
 evK gS fi104 c104_13 fr st k = condK gS fi104 (fr.op (.tmp 6)).bool? c104_14 .skip fr st k ∧
 evK gS fi104 c104_11 fr st k = opsR gS fi104 [mv 6 1 4] fr st (.seq c104_13 k) ∧
 evK gS fi104 c104_18 fr st k = opsR gS fi104 [op1 4 (.assign (.const (.int .i64 0))) 3] fr st (.seq .ret k) ∧
 evK gS fi104 c104_10 fr st k = evK gS fi104 c104_11 fr st (.seq c104_18 k) ∧
 evK gS fi104 c104_2 fr st k = evK gS fi104 c104_3 fr st (.seq c104_10 k) ∧
 evK gS fi104 c104_0 fr st k = opsR gS fi104 [op1 4 (.assign (.const (.int .i64 0))) 3] fr st (.seq c104_2 k) := ⟨evK_rs 2 rfl (by kernel_rfl), rfl, evK_rs 1 rfl (by kernel_rfl), evK_rs 4 rfl (by kernel_rfl), rfl, evK_rs 3 rfl (by kernel_rfl), evK_rs 5 rfl (by kernel_rfl), rfl, rfl, evK_rs 0 rfl (by kernel_rfl)⟩
theorem m104 : mini fi104.body = c104_0 := by kernel_rfl
set_option maxHeartbeats 4000000 in
theorem c104 (b : Bool) (a : Bool)  (st : St) : EvF gS 104 [.bool b, .bool a] st = some (.ret (.int .i64 (sgn b a)) none, st) := by
  refine EvF_start fi104_eq (fun x h => by cases h) m104 ?_
  rw [st104]
  have hm : fi104.marks = [] := rfl
  have hl : fi104.locals = [] := rfl
  have hr : fi104.results = [.tmp 4] := rfl
  simp (config := { contextual := true, maxSteps := 10000000, maxDischargeDepth := 6 }) [-Int.not_le, -Int.not_lt, -Nat.not_le, -Nat.not_lt, ty3, ty4, hm, hl, hr, E104]
  all_goals try simp (config := { contextual := true }) [-Int.not_le, -Int.not_lt, -Nat.not_le, -Nat.not_lt, sgn]
  all_goals first | done | grind | omega | (trace_state; fail)
theorem k104 (b : Bool) (a : Bool)  (fr : Fr) (st : St) : callStep gS (EvF gS) 104 [.bool b, .bool a] fr st = some (.ok (retE none (.int .i64 (sgn b a))) fr st) :=
  call_pure rfl fi104_eq rfl (fun st => c104 b a  st) (by simp)
end
end Go.Proofs.Ytclpbfkbpcjejaa
namespace Go.Proofs.Ytclpbfkbpcjejaa
open Go Go.Ab
set_option linter.unusedVariables false
set_option linter.unusedSimpArgs false
set_option linter.unnecessarySimpa false
set_option maxRecDepth 20000
noncomputable section
variable (fr : Fr) (st : St) (k : Kt)
def fi75 : FI := { body := codeOf Try.f75, ntmps := 124, results := [.tmp 4, .tmp 5], pers := [0, 1, 2, 3, 4, 5, 6, 7], locals := [2, 3], pure := true, marks := [] }
theorem fi75_eq : gS.fn 75 = some fi75 := by kernel_rfl
theorem st75 (a0 a1 : V) : startFr fi75 [a0, a1] = { ps := [(0, .val a0), (1, .val a1), (2, .any), (3, .any), (4, .any), (5, .any), (6, .any), (7, .any)], ts := [], lc := [] } := rfl
def b75 : Code := mini (codeOf Try.f75)
def c75_7 : Code := .seq (codeN b75 73) .ret
def c75_13 : Code := .seq (codeN b75 313) .ret
def c75_19 : Code := .seq (codeN b75 1273) .ret
def c75_27 : Code := .seq (codeN b75 11257) .ret
def c75_25 : Code := .seq (codeN b75 5113) c75_27
def c75_33 : Code := .seq (codeN b75 20473) .ret
def c75_39 : Code := .seq (codeN b75 81913) .ret
def c75_38 : Code := .cond (.tmp 100) c75_39 .skip
def c75_36 : Code := .seq (codeN b75 24569) c75_38
def c75_32 : Code := .cond (.tmp 80) c75_33 c75_36
def c75_30 : Code := .seq (codeN b75 6137) c75_32
def c75_24 : Code := .cond (.tmp 60) c75_25 c75_30
def c75_22 : Code := .seq (codeN b75 1529) c75_24
def c75_18 : Code := .cond (.tmp 44) c75_19 c75_22
def c75_16 : Code := .seq (codeN b75 377) c75_18
def c75_12 : Code := .cond (.tmp 28) c75_13 c75_16
def c75_10 : Code := .seq (codeN b75 89) c75_12
def c75_6 : Code := .cond (.tmp 8) c75_7 c75_10
def c75_4 : Code := .seq (codeN b75 17) c75_6
def c75_43 : Code := .seq (codeN b75 11) .ret
def c75_2 : Code := .seq (.block 0 c75_4) c75_43
def c75_0 : Code := .seq (codeN b75 2) c75_2
theorem E75 : (evK gS fi75 c75_7 fr st k = opsR gS fi75 [op1 17 (.fieldAddr 24 (.tmp 2) 1) 0,
 ld 18 2 17 2,
 op1 19 (.fieldAddr 24 (.tmp 3) 1) 0,
 ld 20 2 19 2,
 bop 21 .lss 2 18 20 2 4,
 op1 22 (.fieldAddr 24 (.tmp 2) 1) 0,
 ld 23 2 22 2,
 op1 24 (.fieldAddr 24 (.tmp 3) 1) 0,
 ld 25 2 24 2,
 bop 26 .gtr 2 23 25 2 4,
 cal 27 104 [(.tmp 21), (.tmp 26)] [4, 4] 3,
 asn 4 27 3,
 op1 5 (.assign (.const (.bool true))) 4] fr st (.seq .ret k)) ∧
 (evK gS fi75 c75_13 fr st k = opsR gS fi75 [op1 37 (.fieldAddr 24 (.tmp 2) 2) 0,
 ld 38 22 37 22,
 op1 39 (.fieldAddr 24 (.tmp 3) 2) 0,
 ld 40 22 39 22,
 cal 41 105 [(.tmp 38), (.tmp 40)] [22, 22] 94,
 op1 42 (.extract (.tmp 41) 0) 3,
 op1 43 (.extract (.tmp 41) 1) 4,
 asn 4 42 3,
 asn 5 43 4] fr st (.seq .ret k)) ∧
 (evK gS fi75 c75_19 fr st k = opsR gS fi75 [op1 53 (.fieldAddr 24 (.tmp 2) 1) 0,
 ld 54 2 53 2,
 op1 55 (.fieldAddr 24 (.tmp 3) 2) 0,
 ld 56 22 55 22,
 cal 57 106 [(.tmp 54), (.tmp 56)] [2, 22] 94,
 op1 58 (.extract (.tmp 57) 0) 3,
 op1 59 (.extract (.tmp 57) 1) 4,
 asn 4 58 3,
 asn 5 59 4] fr st (.seq .ret k)) ∧
 (evK gS fi75 c75_27 fr st k = opsR gS fi75 [mv 77 6 3,
 op1 78 (.unOp .neg 3 (.tmp 77)) 3,
 mv 79 7 4,
 asn 4 78 3,
 asn 5 79 4] fr st (.seq .ret k)) ∧
 (evK gS fi75 c75_25 fr st k = opsR gS fi75 [op1 70 (.fieldAddr 24 (.tmp 3) 1) 0,
 ld 71 2 70 2,
 op1 72 (.fieldAddr 24 (.tmp 2) 2) 0,
 ld 73 22 72 22,
 cal 74 106 [(.tmp 71), (.tmp 73)] [2, 22] 94,
 mv 69 74 94,
 op1 75 (.extract (.tmp 69) 0) 3,
 op1 76 (.extract (.tmp 69) 1) 4,
 asn 6 75 3,
 asn 7 76 4] fr st (.seq c75_27 k)) ∧
 (evK gS fi75 c75_33 fr st k = opsR gS fi75 [op1 89 (.fieldAddr 24 (.tmp 2) 3) 0,
 ld 90 9 89 9,
 op1 91 (.fieldAddr 24 (.tmp 3) 3) 0,
 ld 92 9 91 9,
 bop 93 .lss 9 90 92 9 4,
 op1 94 (.fieldAddr 24 (.tmp 2) 3) 0,
 ld 95 9 94 9,
 op1 96 (.fieldAddr 24 (.tmp 3) 3) 0,
 ld 97 9 96 9,
 bop 98 .gtr 9 95 97 9 4,
 cal 99 104 [(.tmp 93), (.tmp 98)] [4, 4] 3,
 asn 4 99 3,
 op1 5 (.assign (.const (.bool true))) 4] fr st (.seq .ret k)) ∧
 (evK gS fi75 c75_39 fr st k = opsR gS fi75 [op1 109 (.fieldAddr 24 (.tmp 2) 4) 0,
 ld 110 4 109 4,
 op1 111 (.unOp .not 4 (.tmp 110)) 4,
 mv 112 111 4,
 mk (some 113) (.fieldAddr 24 (.tmp 3) 4) 0 (some (3, true)),
 mk (some 114) (.load 4 (.tmp 113)) 4 (some (3, true)),
 op1 115 (.pick (.tmp 112) (.tmp 114) (.const (.bool false))) 4,
 op1 116 (.fieldAddr 24 (.tmp 2) 4) 0,
 ld 117 4 116 4,
 mv 118 117 4,
 mk (some 119) (.fieldAddr 24 (.tmp 3) 4) 0 (some (9, true)),
 mk (some 120) (.load 4 (.tmp 119)) 4 (some (9, true)),
 mk (some 121) (.unOp .not 4 (.tmp 120)) 4 (some (9, true)),
 op1 122 (.pick (.tmp 118) (.tmp 121) (.const (.bool false))) 4,
 cal 123 104 [(.tmp 115), (.tmp 122)] [4, 4] 3,
 asn 4 123 3,
 op1 5 (.assign (.const (.bool true))) 4] fr st (.seq .ret k)) ∧
 evK gS fi75 c75_38 fr st k = condK gS fi75 (fr.op (.tmp 100)).bool? c75_39 .skip fr st k ∧
 (evK gS fi75 c75_36 fr st k = opsR gS fi75 [op1 101 (.fieldAddr 24 (.tmp 2) 0) 0,
 ld 102 3 101 3,
 op1 103 (.binOp .eql 3 (.tmp 102) (.const (.int .i64 4)) 3) 4,
 mv 104 103 4,
 mk (some 105) (.fieldAddr 24 (.tmp 3) 0) 0 (some (3, true)),
 mk (some 106) (.load 3 (.tmp 105)) 3 (some (3, true)),
 mk (some 107) (.binOp .eql 3 (.tmp 106) (.const (.int .i64 4)) 3) 4 (some (3, true)),
 op1 108 (.pick (.tmp 104) (.tmp 107) (.const (.bool false))) 4,
 asn 100 108 4] fr st (.seq c75_38 k)) ∧
 evK gS fi75 c75_32 fr st k = condK gS fi75 (fr.op (.tmp 80)).bool? c75_33 c75_36 fr st k ∧
 (evK gS fi75 c75_30 fr st k = opsR gS fi75 [op1 81 (.fieldAddr 24 (.tmp 2) 0) 0,
 ld 82 3 81 3,
 op1 83 (.binOp .eql 3 (.tmp 82) (.const (.int .i64 3)) 3) 4,
 mv 84 83 4,
 mk (some 85) (.fieldAddr 24 (.tmp 3) 0) 0 (some (3, true)),
 mk (some 86) (.load 3 (.tmp 85)) 3 (some (3, true)),
 mk (some 87) (.binOp .eql 3 (.tmp 86) (.const (.int .i64 3)) 3) 4 (some (3, true)),
 op1 88 (.pick (.tmp 84) (.tmp 87) (.const (.bool false))) 4,
 asn 80 88 4] fr st (.seq c75_32 k)) ∧
 evK gS fi75 c75_24 fr st k = condK gS fi75 (fr.op (.tmp 60)).bool? c75_25 c75_30 fr st k ∧
 (evK gS fi75 c75_22 fr st k = opsR gS fi75 [op1 61 (.fieldAddr 24 (.tmp 2) 0) 0,
 ld 62 3 61 3,
 op1 63 (.binOp .eql 3 (.tmp 62) (.const (.int .i64 2)) 3) 4,
 mv 64 63 4,
 mk (some 65) (.fieldAddr 24 (.tmp 3) 0) 0 (some (3, true)),
 mk (some 66) (.load 3 (.tmp 65)) 3 (some (3, true)),
 mk (some 67) (.binOp .eql 3 (.tmp 66) (.const (.int .i64 1)) 3) 4 (some (3, true)),
 op1 68 (.pick (.tmp 64) (.tmp 67) (.const (.bool false))) 4,
 asn 60 68 4] fr st (.seq c75_24 k)) ∧
 evK gS fi75 c75_18 fr st k = condK gS fi75 (fr.op (.tmp 44)).bool? c75_19 c75_22 fr st k ∧
 (evK gS fi75 c75_16 fr st k = opsR gS fi75 [op1 45 (.fieldAddr 24 (.tmp 2) 0) 0,
 ld 46 3 45 3,
 op1 47 (.binOp .eql 3 (.tmp 46) (.const (.int .i64 1)) 3) 4,
 mv 48 47 4,
 mk (some 49) (.fieldAddr 24 (.tmp 3) 0) 0 (some (3, true)),
 mk (some 50) (.load 3 (.tmp 49)) 3 (some (3, true)),
 mk (some 51) (.binOp .eql 3 (.tmp 50) (.const (.int .i64 2)) 3) 4 (some (3, true)),
 op1 52 (.pick (.tmp 48) (.tmp 51) (.const (.bool false))) 4,
 asn 44 52 4] fr st (.seq c75_18 k)) ∧
 evK gS fi75 c75_12 fr st k = condK gS fi75 (fr.op (.tmp 28)).bool? c75_13 c75_16 fr st k ∧
 (evK gS fi75 c75_10 fr st k = opsR gS fi75 [op1 29 (.fieldAddr 24 (.tmp 2) 0) 0,
 ld 30 3 29 3,
 op1 31 (.binOp .eql 3 (.tmp 30) (.const (.int .i64 2)) 3) 4,
 mv 32 31 4,
 mk (some 33) (.fieldAddr 24 (.tmp 3) 0) 0 (some (3, true)),
 mk (some 34) (.load 3 (.tmp 33)) 3 (some (3, true)),
 mk (some 35) (.binOp .eql 3 (.tmp 34) (.const (.int .i64 2)) 3) 4 (some (3, true)),
 op1 36 (.pick (.tmp 32) (.tmp 35) (.const (.bool false))) 4,
 asn 28 36 4] fr st (.seq c75_12 k)) ∧
 evK gS fi75 c75_6 fr st k = condK gS fi75 (fr.op (.tmp 8)).bool? c75_7 c75_10 fr st k ∧
 (evK gS fi75 c75_4 fr st k = opsR gS fi75 [op1 9 (.fieldAddr 24 (.tmp 2) 0) 0,
 ld 10 3 9 3,
 op1 11 (.binOp .eql 3 (.tmp 10) (.const (.int .i64 1)) 3) 4,
 mv 12 11 4,
 mk (some 13) (.fieldAddr 24 (.tmp 3) 0) 0 (some (3, true)),
 mk (some 14) (.load 3 (.tmp 13)) 3 (some (3, true)),
 mk (some 15) (.binOp .eql 3 (.tmp 14) (.const (.int .i64 1)) 3) 4 (some (3, true)),
 op1 16 (.pick (.tmp 12) (.tmp 15) (.const (.bool false))) 4,
 asn 8 16 4] fr st (.seq c75_6 k)) ∧
 (evK gS fi75 c75_43 fr st k = opsR gS fi75 [op1 4 (.assign (.const (.int .i64 0))) 3,
 op1 5 (.assign (.const (.bool false))) 4] fr st (.seq .ret k)) ∧
 evK gS fi75 c75_2 fr st k = evK gS fi75 c75_4 fr st (.blk 0 (.seq c75_43 k)) ∧
 (evK gS fi75 c75_0 fr st k = opsR gS fi75 [op1 2 (.box 24 (.tmp 0)) 0,
 op1 3 (.box 24 (.tmp 1)) 0,
 op1 4 (.assign (.const (.int .i64 0))) 3,
 op1 5 (.assign (.const (.bool false))) 4] fr st (.seq c75_2 k)) := ⟨evK_rs 2 rfl (by kernel_rfl), evK_rs 4 rfl (by kernel_rfl), evK_rs 6 rfl (by kernel_rfl), evK_rs 9 rfl (by kernel_rfl), evK_rs 8 rfl (by kernel_rfl), evK_rs 11 rfl (by kernel_rfl), evK_rs 13 rfl (by kernel_rfl), rfl, evK_rs 12 rfl (by kernel_rfl), rfl, evK_rs 10 rfl (by kernel_rfl), rfl, evK_rs 7 rfl (by kernel_rfl), rfl, evK_rs 5 rfl (by kernel_rfl), rfl, evK_rs 3 rfl (by kernel_rfl), rfl, evK_rs 1 rfl (by kernel_rfl), evK_rs 14 rfl (by kernel_rfl), rfl, evK_rs 0 rfl (by kernel_rfl)⟩
theorem m75 : mini fi75.body = c75_0 := by kernel_rfl
set_option maxHeartbeats 4000000 in
theorem c75 (a : Val) (b : Val)  (st : St) : EvF gS 75 [a.enc, b.enc] st = some (.ret (.tuple [.int .i64 (cmp a b).1, .bool (cmp a b).2]) none, st) := by
  refine EvF_start fi75_eq (fun x h => by cases h) m75 ?_
  rw [st75]
  have hm : fi75.marks = [] := rfl
  have hl : fi75.locals = [2, 3] := rfl
  have hr : fi75.results = [.tmp 4, .tmp 5] := rfl
  simp (config := { contextual := true, maxSteps := 10000000, maxDischargeDepth := 6 }) [-Int.not_le, -Int.not_lt, -Nat.not_le, -Nat.not_lt, ty2, ty3, ty4, ty9, ty22, ty24, eq24, hm, hl, hr, k104, k105, k106, E75]
  all_goals try simp (config := { contextual := true }) [-Int.not_le, -Int.not_lt, -Nat.not_le, -Nat.not_lt, cmp, scmp]
  all_goals first | done | grind | omega | (trace_state; fail)
theorem k75 (a_k : Int) (a_n : Int) (a_x : Nat) (a_s : List UInt8) (a_b : Bool) (b_k : Int) (b_n : Int) (b_x : Nat) (b_s : List UInt8) (b_b : Bool)  (fr : Fr) (st : St) : callStep gS (EvF gS) 75 [.agg [.int .i64 a_k, .int .i64 a_n, .float .f64 a_x, .str a_s, .bool a_b], .agg [.int .i64 b_k, .int .i64 b_n, .float .f64 b_x, .str b_s, .bool b_b]] fr st = some (.ok (retE none (.tuple [.int .i64 (cmp (⟨a_k, a_n, a_x, a_s, a_b⟩ : Val) (⟨b_k, b_n, b_x, b_s, b_b⟩ : Val)).1, .bool (cmp (⟨a_k, a_n, a_x, a_s, a_b⟩ : Val) (⟨b_k, b_n, b_x, b_s, b_b⟩ : Val)).2])) fr st) :=
  call_pure rfl fi75_eq rfl (fun st => c75 (⟨a_k, a_n, a_x, a_s, a_b⟩ : Val) (⟨b_k, b_n, b_x, b_s, b_b⟩ : Val)  st) (by simp)
def fi32 : FI := { body := codeOf Try.f32, ntmps := 18, results := [.tmp 4], pers := [0, 1, 2, 3, 4, 5, 6], locals := [2, 3], pure := true, marks := [] }
theorem fi32_eq : gS.fn 32 = some fi32 := by kernel_rfl
theorem st32 (a0 a1 : V) : startFr fi32 [a0, a1] = { ps := [(0, .val a0), (1, .val a1), (2, .any), (3, .any), (4, .any), (5, .any), (6, .any)], ts := [], lc := [] } := rfl
def b32 : Code := mini (codeOf Try.f32)
def c32_4 : Code := .seq (codeN b32 11) .ret
theorem e32_4 : evK gS fi32 c32_4 fr st k = opsR gS fi32 [mv 13 6 4,
 mv 14 13 4,
 mk (some 15) (.move (.tmp 5)) 3 (some (1, true)),
 mk (some 16) (.binOp .eql 3 (.tmp 15) (.const (.int .i64 0)) 3) 4 (some (1, true)),
 op1 17 (.pick (.tmp 14) (.tmp 16) (.const (.bool false))) 4,
 asn 4 17 4] fr st (.seq .ret k) := evK_rs 2 rfl (by kernel_rfl)
def c32_2 : Code := .seq (codeN b32 5) c32_4
theorem e32_2 : evK gS fi32 c32_2 fr st k = opsR gS fi32 [ld 8 24 2 24,
 ld 9 24 3 24,
 cal 10 75 [(.tmp 8), (.tmp 9)] [24, 24] 94,
 mv 7 10 94,
 op1 11 (.extract (.tmp 7) 0) 3,
 op1 12 (.extract (.tmp 7) 1) 4,
 asn 5 11 3,
 asn 6 12 4] fr st (.seq c32_4 k) := evK_rs 1 rfl (by kernel_rfl)
def c32_0 : Code := .seq (codeN b32 2) c32_2
theorem e32_0 : evK gS fi32 c32_0 fr st k = opsR gS fi32 [op1 2 (.box 24 (.tmp 0)) 0,
 op1 3 (.box 24 (.tmp 1)) 0,
 op1 4 (.assign (.const (.bool false))) 4] fr st (.seq c32_2 k) := evK_rs 0 rfl (by kernel_rfl)
theorem m32 : mini fi32.body = c32_0 := by kernel_rfl
set_option maxHeartbeats 4000000 in
theorem c32 (a : Val) (b : Val)  (st : St) : EvF gS 32 [a.enc, b.enc] st = some (.ret (.bool (vis a b)) none, st) := by
  refine EvF_start fi32_eq (fun x h => by cases h) m32 ?_
  rw [st32]
  have hm : fi32.marks = [] := rfl
  have hl : fi32.locals = [2, 3] := rfl
  have hr : fi32.results = [.tmp 4] := rfl
  simp (config := { contextual := true, maxSteps := 10000000, maxDischargeDepth := 6 }) [-Int.not_le, -Int.not_lt, -Nat.not_le, -Nat.not_lt, ty3, ty4, ty24, eq24, hm, hl, hr, k75, e32_4, e32_2, e32_0]
  all_goals try simp (config := { contextual := true }) [-Int.not_le, -Int.not_lt, -Nat.not_le, -Nat.not_lt, vis]
  all_goals first | done | grind | omega | (trace_state; fail)
theorem k32 (a_k : Int) (a_n : Int) (a_x : Nat) (a_s : List UInt8) (a_b : Bool) (b_k : Int) (b_n : Int) (b_x : Nat) (b_s : List UInt8) (b_b : Bool)  (fr : Fr) (st : St) : callStep gS (EvF gS) 32 [.agg [.int .i64 a_k, .int .i64 a_n, .float .f64 a_x, .str a_s, .bool a_b], .agg [.int .i64 b_k, .int .i64 b_n, .float .f64 b_x, .str b_s, .bool b_b]] fr st = some (.ok (retE none (.bool (vis (⟨a_k, a_n, a_x, a_s, a_b⟩ : Val) (⟨b_k, b_n, b_x, b_s, b_b⟩ : Val)))) fr st) :=
  call_pure rfl fi32_eq rfl (fun st => c32 (⟨a_k, a_n, a_x, a_s, a_b⟩ : Val) (⟨b_k, b_n, b_x, b_s, b_b⟩ : Val)  st) (by simp)
def fi81 : FI := { body := codeOf Try.f81, ntmps := 38, results := [.tmp 4], pers := [0, 1, 2, 3, 4], locals := [2, 3], pure := true, marks := [] }
theorem fi81_eq : gS.fn 81 = some fi81 := by kernel_rfl
theorem st81 (a0 a1 : V) : startFr fi81 [a0, a1] = { ps := [(0, .val a0), (1, .val a1), (2, .any), (3, .any), (4, .any)], ts := [], lc := [] } := rfl
def b81 : Code := mini (codeOf Try.f81)
def c81_2 : Code := .seq (codeN b81 5) .ret
theorem e81_2 : evK gS fi81 c81_2 fr st k = opsR gS fi81 [op1 5 (.fieldAddr 24 (.tmp 2) 0) 0,
 ld 6 3 5 3,
 op1 7 (.fieldAddr 24 (.tmp 3) 0) 0,
 ld 8 3 7 3,
 bop 9 .eql 3 6 8 3 4,
 mv 10 9 4,
 mk (some 11) (.fieldAddr 24 (.tmp 2) 1) 0 (some (5, true)),
 mk (some 12) (.load 2 (.tmp 11)) 2 (some (5, true)),
 mk (some 13) (.fieldAddr 24 (.tmp 3) 1) 0 (some (5, true)),
 mk (some 14) (.load 2 (.tmp 13)) 2 (some (5, true)),
 mk (some 15) (.binOp .eql 2 (.tmp 12) (.tmp 14) 2) 4 (some (5, true)),
 op1 16 (.pick (.tmp 10) (.tmp 15) (.const (.bool false))) 4,
 mv 17 16 4,
 mk (some 18) (.fieldAddr 24 (.tmp 2) 3) 0 (some (12, true)),
 mk (some 19) (.load 9 (.tmp 18)) 9 (some (12, true)),
 mk (some 20) (.fieldAddr 24 (.tmp 3) 3) 0 (some (12, true)),
 mk (some 21) (.load 9 (.tmp 20)) 9 (some (12, true)),
 mk (some 22) (.binOp .eql 9 (.tmp 19) (.tmp 21) 9) 4 (some (12, true)),
 op1 23 (.pick (.tmp 17) (.tmp 22) (.const (.bool false))) 4,
 mv 24 23 4,
 mk (some 25) (.fieldAddr 24 (.tmp 2) 4) 0 (some (19, true)),
 mk (some 26) (.load 4 (.tmp 25)) 4 (some (19, true)),
 mk (some 27) (.fieldAddr 24 (.tmp 3) 4) 0 (some (19, true)),
 mk (some 28) (.load 4 (.tmp 27)) 4 (some (19, true)),
 mk (some 29) (.binOp .eql 4 (.tmp 26) (.tmp 28) 4) 4 (some (19, true)),
 op1 30 (.pick (.tmp 24) (.tmp 29) (.const (.bool false))) 4,
 mv 31 30 4,
 mk (some 32) (.fieldAddr 24 (.tmp 2) 2) 0 (some (26, true)),
 mk (some 33) (.load 22 (.tmp 32)) 22 (some (26, true)),
 mk (some 34) (.fieldAddr 24 (.tmp 3) 2) 0 (some (26, true)),
 mk (some 35) (.load 22 (.tmp 34)) 22 (some (26, true)),
 mk (some 36) (.call { callee := (.value (.func 109)), args := #[(.tmp 33), (.tmp 35)], argTypes := #[22, 22] }) 4 (some (26, true)),
 op1 37 (.pick (.tmp 31) (.tmp 36) (.const (.bool false))) 4,
 asn 4 37 4] fr st (.seq .ret k) := evK_rs 1 rfl (by kernel_rfl)
def c81_0 : Code := .seq (codeN b81 2) c81_2
theorem e81_0 : evK gS fi81 c81_0 fr st k = opsR gS fi81 [op1 2 (.box 24 (.tmp 0)) 0,
 op1 3 (.box 24 (.tmp 1)) 0,
 op1 4 (.assign (.const (.bool false))) 4] fr st (.seq c81_2 k) := evK_rs 0 rfl (by kernel_rfl)
theorem m81 : mini fi81.body = c81_0 := by kernel_rfl
set_option maxHeartbeats 4000000 in
theorem c81 (a : Val) (b : Val)  (st : St) : EvF gS 81 [a.enc, b.enc] st = some (.ret (.bool (vsame a b)) none, st) := by
  refine EvF_start fi81_eq (fun x h => by cases h) m81 ?_
  rw [st81]
  have hm : fi81.marks = [] := rfl
  have hl : fi81.locals = [2, 3] := rfl
  have hr : fi81.results = [.tmp 4] := rfl
  simp (config := { contextual := true, maxSteps := 10000000, maxDischargeDepth := 6 }) [-Int.not_le, -Int.not_lt, -Nat.not_le, -Nat.not_lt, ty2, ty3, ty4, ty9, ty22, ty24, eq24, hm, hl, hr, k109, e81_2, e81_0]
  all_goals try simp (config := { contextual := true }) [-Int.not_le, -Int.not_lt, -Nat.not_le, -Nat.not_lt, vsame]
  all_goals first | done | grind | omega | (trace_state; fail)
theorem k81 (a_k : Int) (a_n : Int) (a_x : Nat) (a_s : List UInt8) (a_b : Bool) (b_k : Int) (b_n : Int) (b_x : Nat) (b_s : List UInt8) (b_b : Bool)  (fr : Fr) (st : St) : callStep gS (EvF gS) 81 [.agg [.int .i64 a_k, .int .i64 a_n, .float .f64 a_x, .str a_s, .bool a_b], .agg [.int .i64 b_k, .int .i64 b_n, .float .f64 b_x, .str b_s, .bool b_b]] fr st = some (.ok (retE none (.bool (vsame (⟨a_k, a_n, a_x, a_s, a_b⟩ : Val) (⟨b_k, b_n, b_x, b_s, b_b⟩ : Val)))) fr st) :=
  call_pure rfl fi81_eq rfl (fun st => c81 (⟨a_k, a_n, a_x, a_s, a_b⟩ : Val) (⟨b_k, b_n, b_x, b_s, b_b⟩ : Val)  st) (by simp)
theorem x81 : gS.ext 81 = none := rfl
theorem p81 : fi81.pure = true := rfl
def fi70 : FI := { body := codeOf Try.f70, ntmps := 29, results := [.tmp 2], pers := [0, 1, 2, 3, 7], locals := [1, 3], pure := true, marks := [] }
theorem fi70_eq : gS.fn 70 = some fi70 := by kernel_rfl
theorem st70 (a0 : V) : startFr fi70 [a0] = { ps := [(0, .val a0), (1, .any), (2, .any), (3, .any), (7, .any)], ts := [], lc := [] } := rfl
def b70 : Code := mini (codeOf Try.f70)
def c70_13 : Code := codeN b70 343
def c70_17 : Code := codeN b70 1495
def c70_21 : Code := codeN b70 6103
def c70_25 : Code := codeN b70 24535
def c70_26 : Code := .seq (codeN b70 49111) .ret
def c70_24 : Code := .cond (.tmp 17) c70_25 c70_26
def c70_22 : Code := .seq (codeN b70 12247) c70_24
def c70_20 : Code := .cond (.tmp 14) c70_21 c70_22
def c70_18 : Code := .seq (codeN b70 3031) c70_20
def c70_16 : Code := .cond (.tmp 11) c70_17 c70_18
def c70_14 : Code := .seq (codeN b70 727) c70_16
def c70_12 : Code := .cond (.tmp 8) c70_13 c70_14
def c70_10 : Code := .seq (codeN b70 151) c70_12
def c70_9 : Code := .block 0 c70_10
def c70_7 : Code := .seq (codeN b70 39) c70_9
def c70_29 : Code := .seq (codeN b70 47) .ret
def c70_6 : Code := .seq c70_7 c70_29
def c70_4 : Code := .seq (codeN b70 11) c70_6
def c70_2 : Code := .seq (codeN b70 5) c70_4
def c70_0 : Code := .seq (codeN b70 2) c70_2
theorem E70 : (evK gS fi70 c70_13 fr st k = opsR gS fi70 [op1 10 (.fieldAddr 24 (.tmp 3) 1) 0,
 mk none (.store 2 (.tmp 10) (.const (.int .i64 0))) 0 none] fr st k) ∧
 (evK gS fi70 c70_17 fr st k = opsR gS fi70 [op1 13 (.fieldAddr 24 (.tmp 3) 2) 0,
 mk none (.store 22 (.tmp 13) (.const (.float .f64 0))) 0 none] fr st k) ∧
 (evK gS fi70 c70_21 fr st k = opsR gS fi70 [op1 16 (.fieldAddr 24 (.tmp 3) 3) 0,
 mk none (.store 9 (.tmp 16) (.const (.string { data := #[] }))) 0 none] fr st k) ∧
 (evK gS fi70 c70_25 fr st k = opsR gS fi70 [op1 19 (.fieldAddr 24 (.tmp 3) 4) 0,
 mk none (.store 4 (.tmp 19) (.const (.bool false))) 0 none] fr st k) ∧
 evK gS fi70 c70_26 fr st k = opsR gS fi70 [op1 2 (.assign (.const (.bool false))) 4] fr st (.seq .ret k) ∧
 evK gS fi70 c70_24 fr st k = condK gS fi70 (fr.op (.tmp 17)).bool? c70_25 c70_26 fr st k ∧
 (evK gS fi70 c70_22 fr st k = opsR gS fi70 [op1 18 (.binOp .eql 3 (.tmp 7) (.const (.int .i64 4)) 3) 4,
 asn 17 18 4] fr st (.seq c70_24 k)) ∧
 evK gS fi70 c70_20 fr st k = condK gS fi70 (fr.op (.tmp 14)).bool? c70_21 c70_22 fr st k ∧
 (evK gS fi70 c70_18 fr st k = opsR gS fi70 [op1 15 (.binOp .eql 3 (.tmp 7) (.const (.int .i64 3)) 3) 4,
 asn 14 15 4] fr st (.seq c70_20 k)) ∧
 evK gS fi70 c70_16 fr st k = condK gS fi70 (fr.op (.tmp 11)).bool? c70_17 c70_18 fr st k ∧
 (evK gS fi70 c70_14 fr st k = opsR gS fi70 [op1 12 (.binOp .eql 3 (.tmp 7) (.const (.int .i64 2)) 3) 4,
 asn 11 12 4] fr st (.seq c70_16 k)) ∧
 evK gS fi70 c70_12 fr st k = condK gS fi70 (fr.op (.tmp 8)).bool? c70_13 c70_14 fr st k ∧
 (evK gS fi70 c70_10 fr st k = opsR gS fi70 [op1 9 (.binOp .eql 3 (.tmp 7) (.const (.int .i64 1)) 3) 4,
 asn 8 9 4] fr st (.seq c70_12 k)) ∧
 evK gS fi70 c70_9 fr st k = evK gS fi70 c70_10 fr st (.blk 0 k) ∧
 (evK gS fi70 c70_7 fr st k = opsR gS fi70 [op1 6 (.fieldAddr 24 (.tmp 1) 0) 0,
 ld 7 3 6 3] fr st (.seq c70_9 k)) ∧
 (evK gS fi70 c70_29 fr st k = opsR gS fi70 [ld 20 24 3 24,
 op1 21 (.build 24 #[]) 24,
 bop 22 .eql 24 20 21 24 4,
 mv 23 22 4,
 mk (some 24) (.fieldAddr 24 (.tmp 1) 3) 0 (some (3, true)),
 mk (some 25) (.load 9 (.tmp 24)) 9 (some (3, true)),
 mk (some 26) (.call { callee := (.builtin .len), args := #[(.tmp 25)], argTypes := #[9] }) 3 (some (3, true)),
 mk (some 27) (.binOp .leq 3 (.tmp 26) (.const (.int .i64 12)) 3) 4 (some (3, true)),
 op1 28 (.pick (.tmp 23) (.tmp 27) (.const (.bool false))) 4,
 asn 2 28 4] fr st (.seq .ret k)) ∧
 evK gS fi70 c70_6 fr st k = evK gS fi70 c70_7 fr st (.seq c70_29 k) ∧
 (evK gS fi70 c70_4 fr st k = opsR gS fi70 [op1 5 (.fieldAddr 24 (.tmp 3) 0) 0,
 mk none (.store 3 (.tmp 5) (.const (.int .i64 0))) 0 none] fr st (.seq c70_6 k)) ∧
 (evK gS fi70 c70_2 fr st k = opsR gS fi70 [ld 4 24 1 24,
 op1 3 (.alloc 24) 0,
 sto 24 3 4] fr st (.seq c70_4 k)) ∧
 (evK gS fi70 c70_0 fr st k = opsR gS fi70 [op1 1 (.box 24 (.tmp 0)) 0,
 op1 2 (.assign (.const (.bool false))) 4] fr st (.seq c70_2 k)) := ⟨evK_r 6 (by kernel_rfl), evK_r 8 (by kernel_rfl), evK_r 10 (by kernel_rfl), evK_r 12 (by kernel_rfl), evK_rs 4 rfl (by kernel_rfl), rfl, evK_rs 11 rfl (by kernel_rfl), rfl, evK_rs 9 rfl (by kernel_rfl), rfl, evK_rs 7 rfl (by kernel_rfl), rfl, evK_rs 5 rfl (by kernel_rfl), rfl, evK_rs 3 rfl (by kernel_rfl), evK_rs 13 rfl (by kernel_rfl), rfl, evK_rs 2 rfl (by kernel_rfl), evK_rs 1 rfl (by kernel_rfl), evK_rs 0 rfl (by kernel_rfl)⟩
theorem m70 : mini fi70.body = c70_0 := by kernel_rfl
set_option maxHeartbeats 4000000 in
theorem c70 (v : Val)  (st : St) : EvF gS 70 [v.enc] st = some (.ret (.bool (vright v)) none, st) := by
  refine EvF_start fi70_eq (fun x h => by cases h) m70 ?_
  rw [st70]
  have hm : fi70.marks = [] := rfl
  have hl : fi70.locals = [1, 3] := rfl
  have hr : fi70.results = [.tmp 2] := rfl
  simp (config := { contextual := true, maxSteps := 10000000, maxDischargeDepth := 6 }) [-Int.not_le, -Int.not_lt, -Nat.not_le, -Nat.not_lt, ty2, ty3, ty4, ty9, ty22, ty24, eq24, hm, hl, hr, E70]
  all_goals try simp (config := { contextual := true }) [-Int.not_le, -Int.not_lt, -Nat.not_le, -Nat.not_lt, vright, opq]
  all_goals first | done | grind | omega | (trace_state; fail)
theorem k70 (v_k : Int) (v_n : Int) (v_x : Nat) (v_s : List UInt8) (v_b : Bool)  (fr : Fr) (st : St) : callStep gS (EvF gS) 70 [.agg [.int .i64 v_k, .int .i64 v_n, .float .f64 v_x, .str v_s, .bool v_b]] fr st = some (.ok (retE none (.bool (vright (⟨v_k, v_n, v_x, v_s, v_b⟩ : Val)))) fr st) :=
  call_pure rfl fi70_eq rfl (fun st => c70 (⟨v_k, v_n, v_x, v_s, v_b⟩ : Val)  st) (by simp)
def fi69 : FI := { body := codeOf Try.f69, ntmps := 6, results := [.tmp 2], pers := [0, 1, 2], locals := [1], pure := true, marks := [] }
theorem fi69_eq : gS.fn 69 = some fi69 := by kernel_rfl
theorem st69 (a0 : V) : startFr fi69 [a0] = { ps := [(0, .val a0), (1, .any), (2, .any)], ts := [], lc := [] } := rfl
def b69 : Code := mini (codeOf Try.f69)
def c69_2 : Code := .seq (codeN b69 5) .ret
theorem e69_2 : evK gS fi69 c69_2 fr st k = opsR gS fi69 [ld 3 24 1 24,
 op1 4 (.build 24 #[]) 24,
 cal 5 81 [(.tmp 3), (.tmp 4)] [24, 24] 4,
 asn 2 5 4] fr st (.seq .ret k) := evK_rs 1 rfl (by kernel_rfl)
def c69_0 : Code := .seq (codeN b69 2) c69_2
theorem e69_0 : evK gS fi69 c69_0 fr st k = opsR gS fi69 [op1 1 (.box 24 (.tmp 0)) 0,
 op1 2 (.assign (.const (.bool false))) 4] fr st (.seq c69_2 k) := evK_rs 0 rfl (by kernel_rfl)
theorem m69 : mini fi69.body = c69_0 := by kernel_rfl
set_option maxHeartbeats 4000000 in
theorem c69 (v : Val)  (st : St) : EvF gS 69 [v.enc] st = some (.ret (.bool (vsame v vzero)) none, st) := by
  refine EvF_start fi69_eq (fun x h => by cases h) m69 ?_
  rw [st69]
  have hm : fi69.marks = [] := rfl
  have hl : fi69.locals = [1] := rfl
  have hr : fi69.results = [.tmp 2] := rfl
  simp (config := { contextual := true, maxSteps := 10000000, maxDischargeDepth := 6 }) [-Int.not_le, -Int.not_lt, -Nat.not_le, -Nat.not_lt, ty4, ty24, eq24, hm, hl, hr, k81, e69_2, e69_0]
  all_goals try simp (config := { contextual := true }) [-Int.not_le, -Int.not_lt, -Nat.not_le, -Nat.not_lt, vzero]
  all_goals first | done | grind | omega | (trace_state; fail)
theorem k69 (v_k : Int) (v_n : Int) (v_x : Nat) (v_s : List UInt8) (v_b : Bool)  (fr : Fr) (st : St) : callStep gS (EvF gS) 69 [.agg [.int .i64 v_k, .int .i64 v_n, .float .f64 v_x, .str v_s, .bool v_b]] fr st = some (.ok (retE none (.bool (vsame (⟨v_k, v_n, v_x, v_s, v_b⟩ : Val) vzero))) fr st) :=
  call_pure rfl fi69_eq rfl (fun st => c69 (⟨v_k, v_n, v_x, v_s, v_b⟩ : Val)  st) (by simp)
def fi76 : FI := { body := codeOf Try.f76, ntmps := 18, results := [.tmp 4], pers := [0, 1, 4], locals := [], pure := true, marks := [] }
theorem fi76_eq : gS.fn 76 = some fi76 := by kernel_rfl
theorem st76 (a0 a1 : V) : startFr fi76 [a0, a1] = { ps := [(0, .val a0), (1, .val a1), (4, .any)], ts := [], lc := [] } := rfl
def b76 : Code := mini (codeOf Try.f76)
def c76_2 : Code := .seq (codeN b76 5) .ret
theorem e76_2 : evK gS fi76 c76_2 fr st k = opsR gS fi76 [mv 5 0 9,
 len1 6 5 9 3,
 mv 7 1 9,
 len1 8 7 9 3,
 bop 9 .geq 3 6 8 3 4,
 mv 10 9 4,
 mk (some 11) (.move (.tmp 0)) 9 (some (5, true)),
 mk (some 12) (.move (.tmp 1)) 9 (some (5, true)),
 mk (some 13) (.call { callee := (.builtin .len), args := #[(.tmp 12)], argTypes := #[9] }) 3 (some (5, true)),
 mk (some 14) (.slice 9 (.tmp 11) none (some (.tmp 13)) none) 9 (some (5, true)),
 mk (some 15) (.move (.tmp 1)) 9 (some (5, true)),
 mk (some 16) (.binOp .eql 9 (.tmp 14) (.tmp 15) 9) 4 (some (5, true)),
 op1 17 (.pick (.tmp 10) (.tmp 16) (.const (.bool false))) 4,
 asn 4 17 4] fr st (.seq .ret k) := evK_rs 1 rfl (by kernel_rfl)
def c76_0 : Code := .seq (codeN b76 2) c76_2
theorem e76_0 : evK gS fi76 c76_0 fr st k = opsR gS fi76 [op1 4 (.assign (.const (.bool false))) 4] fr st (.seq c76_2 k) := evK_rs 0 rfl (by kernel_rfl)
theorem m76 : mini fi76.body = c76_0 := by kernel_rfl
set_option maxHeartbeats 4000000 in
theorem c76 (s : List UInt8) (t : List UInt8)  (st : St) : EvF gS 76 [.str s, .str t] st = some (.ret (.bool (isPre s t)) none, st) := by
  refine EvF_start fi76_eq (fun x h => by cases h) m76 ?_
  rw [st76]
  have hm : fi76.marks = [] := rfl
  have hl : fi76.locals = [] := rfl
  have hr : fi76.results = [.tmp 4] := rfl
  simp (config := { contextual := true, maxSteps := 10000000, maxDischargeDepth := 6 }) [-Int.not_le, -Int.not_lt, -Nat.not_le, -Nat.not_lt, ty3, ty4, ty9, hm, hl, hr, e76_2, e76_0]
  all_goals try simp (config := { contextual := true }) [-Int.not_le, -Int.not_lt, -Nat.not_le, -Nat.not_lt, isPre]
  all_goals first | done | grind | omega | (trace_state; fail)
theorem k76 (s : List UInt8) (t : List UInt8)  (fr : Fr) (st : St) : callStep gS (EvF gS) 76 [.str s, .str t] fr st = some (.ok (retE none (.bool (isPre s t))) fr st) :=
  call_pure rfl fi76_eq rfl (fun st => c76 s t  st) (by simp)
end
end Go.Proofs.Ytclpbfkbpcjejaa
namespace Go.Proofs.Ytclpbfkbpcjejaa
open Go Go.Ab
set_option linter.unusedVariables false
set_option linter.unusedSimpArgs false
set_option linter.unnecessarySimpa false
set_option maxRecDepth 20000
noncomputable section
variable (fr : Fr) (st : St) (k : Kt)
def fi68 : FI := { body := codeOf Try.f68, ntmps := 28, results := [.tmp 2], pers := [0, 2, 3], locals := [], pure := true, marks := [] }
theorem fi68_eq : gS.fn 68 = some fi68 := by kernel_rfl
theorem st68 (a0 : V) : startFr fi68 [a0] = { ps := [(0, .val a0), (2, .any), (3, .any)], ts := [], lc := [] } := rfl
def b68 : Code := mini (codeOf Try.f68)
def c68_10 : Code := .cond (.tmp 7) .skip (.exit 0)
def c68_8 : Code := .seq (codeN b68 133) c68_10
def c68_18 : Code := .seq (codeN b68 2341) .ret
def c68_17 : Code := .cond (.tmp 19) c68_18 .skip
def c68_15 : Code := .seq (codeN b68 549) c68_17
def c68_22 : Code := codeN b68 229
def c68_13 : Code := .seq (.block 1 c68_15) c68_22
def c68_7 : Code := .seq c68_8 c68_13
def c68_6 : Code := .loop c68_7
def c68_5 : Code := .block 0 c68_6
def c68_3 : Code := .seq (codeN b68 9) c68_5
def c68_23 : Code := .seq (codeN b68 11) .ret
def c68_2 : Code := .seq c68_3 c68_23
def c68_0 : Code := .seq (codeN b68 2) c68_2
theorem E68 : evK gS fi68 c68_10 fr st k = condK gS fi68 (fr.op (.tmp 7)).bool? .skip (.exit 0) fr st k ∧
 (evK gS fi68 c68_8 fr st k = opsR gS fi68 [mv 4 3 3,
 mv 5 0 9,
 len1 6 5 9 3,
 bop 7 .lss 3 4 6 3 4] fr st (.seq c68_10 k)) ∧
 evK gS fi68 c68_18 fr st k = opsR gS fi68 [op1 2 (.assign (.const (.bool false))) 4] fr st (.seq .ret k) ∧
 evK gS fi68 c68_17 fr st k = condK gS fi68 (fr.op (.tmp 19)).bool? c68_18 .skip fr st k ∧
 (evK gS fi68 c68_15 fr st k = opsR gS fi68 [mv 10 0 9,
 mv 11 3 3,
 op1 12 (.index 9 (.tmp 10) (.tmp 11)) 5,
 op1 13 (.binOp .lss 5 (.tmp 12) (.const (.int .u8 97)) 5) 4,
 mv 14 13 4,
 mk (some 15) (.move (.tmp 0)) 9 (some (4, false)),
 mk (some 16) (.move (.tmp 3)) 3 (some (4, false)),
 mk (some 17) (.index 9 (.tmp 15) (.tmp 16)) 5 (some (4, false)),
 mk (some 18) (.binOp .gtr 5 (.tmp 17) (.const (.int .u8 122)) 5) 4 (some (4, false)),
 op1 19 (.pick (.tmp 14) (.const (.bool true)) (.tmp 18)) 4] fr st (.seq c68_17 k)) ∧
 (evK gS fi68 c68_22 fr st k = opsR gS fi68 [mv 8 3 3,
 op1 9 (.binOp .add 3 (.tmp 8) (.const (.int .i64 1)) 3) 3,
 asn 3 9 3] fr st k) ∧
 evK gS fi68 c68_13 fr st k = evK gS fi68 c68_15 fr st (.blk 1 (.seq c68_22 k)) ∧
 evK gS fi68 c68_7 fr st k = evK gS fi68 c68_8 fr st (.seq c68_13 k) ∧
 evK gS fi68 c68_5 fr st k = evK gS fi68 c68_6 fr st (.blk 0 k) ∧
 evK gS fi68 c68_3 fr st k = opsR gS fi68 [op1 3 (.assign (.const (.int .i64 0))) 3] fr st (.seq c68_5 k) ∧
 (evK gS fi68 c68_23 fr st k = opsR gS fi68 [mv 20 0 9,
 len1 21 20 9 3,
 op1 22 (.binOp .geq 3 (.tmp 21) (.const (.int .i64 1)) 3) 4,
 mv 23 22 4,
 mk (some 24) (.move (.tmp 0)) 9 (some (3, true)),
 mk (some 25) (.call { callee := (.builtin .len), args := #[(.tmp 24)], argTypes := #[9] }) 3 (some (3, true)),
 mk (some 26) (.binOp .leq 3 (.tmp 25) (.const (.int .i64 6)) 3) 4 (some (3, true)),
 op1 27 (.pick (.tmp 23) (.tmp 26) (.const (.bool false))) 4,
 asn 2 27 4] fr st (.seq .ret k)) ∧
 evK gS fi68 c68_2 fr st k = evK gS fi68 c68_3 fr st (.seq c68_23 k) ∧
 evK gS fi68 c68_0 fr st k = opsR gS fi68 [op1 2 (.assign (.const (.bool false))) 4] fr st (.seq c68_2 k) := ⟨rfl, evK_rs 2 rfl (by kernel_rfl), evK_rs 5 rfl (by kernel_rfl), rfl, evK_rs 4 rfl (by kernel_rfl), evK_r 3 (by kernel_rfl), rfl, rfl, rfl, evK_rs 1 rfl (by kernel_rfl), evK_rs 6 rfl (by kernel_rfl), rfl, evK_rs 0 rfl (by kernel_rfl)⟩
theorem m68 : mini fi68.body = c68_0 := by kernel_rfl
theorem n68_6 (fr : Fr) (st : St) (k : Kt) : nextK gS fi68 (.loop c68_7 k) .normal fr st = evK gS fi68 c68_6 fr st k := rfl
set_option maxHeartbeats 4000000 in
theorem L68_6 (s : List UInt8) (h_s : s.length < 4611686018427387904) (st : St) : ∀ (n i : Nat) (j : Int)  (e2 : E) (T : List (Nat × E)) (X : List (Nat × List V)) (ht2 : e2.Tame) , j = (i : Int) → i ≤ (s).length → (s).length - i = n →
    evK gS fi68 c68_6 { ps := [(0, .val (.str s)), (2, e2), (3, .val (.int .i64 j))], ts := T, lc := X } st (.blk 0 (.seq c68_23 .nil)) = some ((.ret (.bool ((s.drop i).all (fun c => !decide (c.toNat < 97) && !decide (122 < c.toNat)) && (decide (1 ≤ s.length) && decide (s.length ≤ 6)))) none), st) := by
  intro n
  have hm : fi68.marks = [] := rfl
  have hl : fi68.locals = [] := rfl
  have hr : fi68.results = [.tmp 2] := rfl
  induction n with
  | zero =>
    intro i j  e2 T X ht2  hj hi hn
    obtain rfl : i = (s).length := by omega
    subst hj
    refine evK_loop c68_7 _ st _ _ rfl ?_
    simp (config := { contextual := true, maxSteps := 10000000, maxDischargeDepth := 6 }) [-Int.not_le, -Int.not_lt, -Nat.not_le, -Nat.not_lt, ty3, ty4, ty5, ty9, hm, hl, hr, E68, n68_6, ht2]
    all_goals first | done | grind | omega | (trace_state; fail)
  | succ n ih =>
    intro i j  e2 T X ht2  hj hi hn
    subst hj
    obtain ⟨x, hx⟩ : ∃ x, (s)[i]? = some x := ⟨(s)[i]'(by omega), List.getElem?_eq_getElem (by omega)⟩
    have hd := drop_get hx
    have hlt : (i : Int) < ((s).length : Int) := by omega
    have hlt2 : i < (s).length := by omega
    have hxe : (s)[i]'hlt2 = x := by rw [List.getElem?_eq_getElem hlt2] at hx; exact Option.some.inj hx
    have hw : IntKind.wrap .i64 ((i : Int) + 1) = (i : Int) + 1 := wrap64 (by omega) (by omega)
    have IH := fun e2 T X ht2 => ih (i + 1) ((i : Int) + 1) e2 T X ht2 rfl (by omega) (by omega)
    refine evK_loop c68_7 _ st _ _ rfl ?_
    simp (config := { contextual := true, maxSteps := 10000000, maxDischargeDepth := 6 }) [-Int.not_le, -Int.not_lt, -Nat.not_le, -Nat.not_lt, ty3, ty4, ty5, ty9, hm, hl, hr, E68, n68_6, ht2, hx, hxe, hd, hlt, hlt2, hw, IH]
    all_goals first | done | grind | omega | (trace_state; fail)
set_option maxHeartbeats 4000000 in
theorem c68 (s : List UInt8) (h_s : s.length < 4611686018427387904) (st : St) : EvF gS 68 [.str s] st = some (.ret (.bool (isWord s)) none, st) := by
  refine EvF_start fi68_eq (fun x h => by cases h) m68 ?_
  rw [st68]
  have hm : fi68.marks = [] := rfl
  have hl : fi68.locals = [] := rfl
  have hr : fi68.results = [.tmp 2] := rfl
  simp (config := { contextual := true, maxSteps := 10000000, maxDischargeDepth := 6 }) [-Int.not_le, -Int.not_lt, -Nat.not_le, -Nat.not_lt, ty3, ty4, ty5, ty9, hm, hl, hr, E68, n68_6, (fun e2 T X ht2 => L68_6 s h_s st _ 0 0  e2 T X ht2 rfl (Nat.zero_le _) rfl)]
  all_goals try simp (config := { contextual := true }) [-Int.not_le, -Int.not_lt, -Nat.not_le, -Nat.not_lt, isWord]
  all_goals first | done | grind | omega | (trace_state; fail)
theorem k68 (s : List UInt8) (h_s : s.length < 4611686018427387904) (fr : Fr) (st : St) : callStep gS (EvF gS) 68 [.str s] fr st = some (.ok (retE none (.bool (isWord s))) fr st) :=
  call_pure rfl fi68_eq rfl (fun st => c68 s h_s st) (by simp)
def fi71 : FI := { body := codeOf Try.f71, ntmps := 15, results := [.tmp 2], pers := [0, 2, 4, 5, 6, 7], locals := [4], pure := true, marks := [] }
theorem fi71_eq : gS.fn 71 = some fi71 := by kernel_rfl
theorem st71 (a0 : V) : startFr fi71 [a0] = { ps := [(0, .val a0), (2, .any), (4, .any), (5, .any), (6, .any), (7, .any)], ts := [], lc := [] } := rfl
def b71 : Code := mini (codeOf Try.f71)
def c71_20 : Code := .seq (codeN b71 9829) .ret
def c71_19 : Code := .cond (.tmp 13) c71_20 .skip
def c71_17 : Code := .seq (codeN b71 2661) c71_19
def c71_15 : Code := .seq (codeN b71 1125) c71_17
def c71_24 : Code := codeN b71 485
def c71_13 : Code := .seq (.block 1 c71_15) c71_24
def c71_9 : Code := .seq (.cond (.tmp 8) .skip (.exit 0)) c71_13
def c71_7 : Code := .seq (codeN b71 69) c71_9
def c71_6 : Code := .loop c71_7
def c71_5 : Code := .block 0 c71_6
def c71_3 : Code := .seq (codeN b71 9) c71_5
def c71_25 : Code := .seq (codeN b71 11) .ret
def c71_2 : Code := .seq c71_3 c71_25
def c71_0 : Code := .seq (codeN b71 2) c71_2
theorem E71 : evK gS fi71 c71_20 fr st k = opsR gS fi71 [op1 2 (.assign (.const (.bool false))) 4] fr st (.seq .ret k) ∧
 evK gS fi71 c71_19 fr st k = condK gS fi71 (fr.op (.tmp 13)).bool? c71_20 .skip fr st k ∧
 (evK gS fi71 c71_17 fr st k = opsR gS fi71 [ld 11 24 4 24,
 cal 12 70 [(.tmp 11)] [24] 4,
 op1 13 (.unOp .not 4 (.tmp 12)) 4] fr st (.seq c71_19 k)) ∧
 (evK gS fi71 c71_15 fr st k = opsR gS fi71 [ixa 9 25 5 7 0,
 ld 10 24 9 24,
 op1 4 (.alloc 24) 0,
 sto 24 4 10] fr st (.seq c71_17 k)) ∧
 (evK gS fi71 c71_24 fr st k = opsR gS fi71 [op1 14 (.binOp .add 3 (.tmp 7) (.const (.int .i64 1)) 3) 3,
 mv 7 14 3] fr st k) ∧
 evK gS fi71 c71_13 fr st k = evK gS fi71 c71_15 fr st (.blk 1 (.seq c71_24 k)) ∧
 evK gS fi71 c71_9 fr st k = condK gS fi71 (fr.op (.tmp 8)).bool? .skip (.exit 0) fr st (.seq c71_13 k) ∧
 evK gS fi71 c71_7 fr st k = opsR gS fi71 [bop 8 .lss 3 7 6 3 0] fr st (.seq c71_9 k) ∧
 evK gS fi71 c71_5 fr st k = evK gS fi71 c71_6 fr st (.blk 0 k) ∧
 (evK gS fi71 c71_3 fr st k = opsR gS fi71 [mv 5 0 25,
 len1 6 5 25 3,
 op1 7 (.move (.const (.int .i64 0))) 3] fr st (.seq c71_5 k)) ∧
 evK gS fi71 c71_25 fr st k = opsR gS fi71 [op1 2 (.assign (.const (.bool true))) 4] fr st (.seq .ret k) ∧
 evK gS fi71 c71_2 fr st k = evK gS fi71 c71_3 fr st (.seq c71_25 k) ∧
 evK gS fi71 c71_0 fr st k = opsR gS fi71 [op1 2 (.assign (.const (.bool false))) 4] fr st (.seq c71_2 k) := ⟨evK_rs 5 rfl (by kernel_rfl), rfl, evK_rs 4 rfl (by kernel_rfl), evK_rs 3 rfl (by kernel_rfl), evK_r 6 (by kernel_rfl), rfl, rfl, evK_rs 2 rfl (by kernel_rfl), rfl, evK_rs 1 rfl (by kernel_rfl), evK_rs 7 rfl (by kernel_rfl), rfl, evK_rs 0 rfl (by kernel_rfl)⟩
theorem m71 : mini fi71.body = c71_0 := by kernel_rfl
theorem n71_6 (fr : Fr) (st : St) (k : Kt) : nextK gS fi71 (.loop c71_7 k) .normal fr st = evK gS fi71 c71_6 fr st k := rfl
set_option maxHeartbeats 4000000 in
theorem L71_6 (l : List Val) (h_l : l.length < 4611686018427387904) (st : St) : ∀ (n i : Nat) (j : Int)  (e0 e2 e4 : E) (T : List (Nat × E)) (X : List (Nat × List V)) (ht0 : e0.Tame) (ht2 : e2.Tame) (ht4 : e4.Tame) , j = (i : Int) → i ≤ (l).length → (l).length - i = n →
    evK gS fi71 c71_6 { ps := [(0, e0), (2, e2), (4, e4), (5, .val (.slice (encVals l))), (6, .val (.int .i64 l.length)), (7, .val (.int .i64 j))], ts := T, lc := X } st (.blk 0 (.seq c71_25 .nil)) = some ((.ret (.bool ((l.drop i).all vright)) none), st) := by
  intro n
  have hm : fi71.marks = [] := rfl
  have hl : fi71.locals = [4] := rfl
  have hr : fi71.results = [.tmp 2] := rfl
  induction n with
  | zero =>
    intro i j  e0 e2 e4 T X ht0 ht2 ht4  hj hi hn
    obtain rfl : i = (l).length := by omega
    subst hj
    refine evK_loop c71_7 _ st _ _ rfl ?_
    simp (config := { contextual := true, maxSteps := 10000000, maxDischargeDepth := 6 }) [-Int.not_le, -Int.not_lt, -Nat.not_le, -Nat.not_lt, ty3, ty4, ty24, ty25, eq24, hm, hl, hr, k70, E71, n71_6, ht0, ht2, ht4]
    all_goals first | done | grind | omega | (trace_state; fail)
  | succ n ih =>
    intro i j  e0 e2 e4 T X ht0 ht2 ht4  hj hi hn
    subst hj
    obtain ⟨x, hx⟩ : ∃ x, (l)[i]? = some x := ⟨(l)[i]'(by omega), List.getElem?_eq_getElem (by omega)⟩
    have hd := drop_get hx
    have hlt : (i : Int) < ((l).length : Int) := by omega
    have hlt2 : i < (l).length := by omega
    have hxe : (l)[i]'hlt2 = x := by rw [List.getElem?_eq_getElem hlt2] at hx; exact Option.some.inj hx
    have hw : IntKind.wrap .i64 ((i : Int) + 1) = (i : Int) + 1 := wrap64 (by omega) (by omega)
    have IH := fun e0 e2 e4 T X ht0 ht2 ht4 => ih (i + 1) ((i : Int) + 1) e0 e2 e4 T X ht0 ht2 ht4 rfl (by omega) (by omega)
    refine evK_loop c71_7 _ st _ _ rfl ?_
    simp (config := { contextual := true, maxSteps := 10000000, maxDischargeDepth := 6 }) [-Int.not_le, -Int.not_lt, -Nat.not_le, -Nat.not_lt, ty3, ty4, ty24, ty25, eq24, hm, hl, hr, k70, E71, n71_6, ht0, ht2, ht4, hx, hxe, hd, hlt, hlt2, hw, IH]
    all_goals first | done | grind | omega | (trace_state; fail)
set_option maxHeartbeats 4000000 in
theorem c71 (l : List Val) (h_l : l.length < 4611686018427387904) (st : St) : EvF gS 71 [.slice (encVals l)] st = some (.ret (.bool (l.all vright)) none, st) := by
  refine EvF_start fi71_eq (fun x h => by cases h) m71 ?_
  rw [st71]
  have hm : fi71.marks = [] := rfl
  have hl : fi71.locals = [4] := rfl
  have hr : fi71.results = [.tmp 2] := rfl
  simp (config := { contextual := true, maxSteps := 10000000, maxDischargeDepth := 6 }) [-Int.not_le, -Int.not_lt, -Nat.not_le, -Nat.not_lt, ty3, ty4, ty24, ty25, eq24, hm, hl, hr, k70, E71, n71_6, (fun e0 e2 e4 T X ht0 ht2 ht4 => L71_6 l h_l st _ 0 0  e0 e2 e4 T X ht0 ht2 ht4 rfl (Nat.zero_le _) rfl)]
  all_goals first | done | grind | omega | (trace_state; fail)
theorem k71 (l : List Val) (h_l : l.length < 4611686018427387904) (fr : Fr) (st : St) : callStep gS (EvF gS) 71 [.slice (encVals l)] fr st = some (.ok (retE none (.bool (l.all vright))) fr st) :=
  call_pure rfl fi71_eq rfl (fun st => c71 l h_l st) (by simp)
end
end Go.Proofs.Ytclpbfkbpcjejaa
namespace Go.Proofs.Ytclpbfkbpcjejaa
open Go Go.Ab
set_option linter.unusedVariables false
set_option linter.unusedSimpArgs false
set_option linter.unnecessarySimpa false
set_option maxRecDepth 20000
noncomputable section
variable (fr : Fr) (st : St) (k : Kt)
def fi19 : FI := { body := codeOf Try.f19, ntmps := 111, results := [.tmp 2], pers := [0, 1, 2, 8, 25], locals := [1], pure := true, marks := [] }
theorem fi19_eq : gS.fn 19 = some fi19 := by kernel_rfl
theorem st19 (a0 : V) : startFr fi19 [a0] = { ps := [(0, .val a0), (1, .any), (2, .any), (8, .any), (25, .any)], ts := [], lc := [] } := rfl
def b19 : Code := mini (codeOf Try.f19)
def c19_6 : Code := .seq (codeN b19 37) .ret
def c19_5 : Code := .cond (.tmp 6) c19_6 .skip
def c19_3 : Code := .seq (codeN b19 9) c19_5
def c19_17 : Code := .seq (codeN b19 299) .ret
def c19_41 : Code := codeN b19 524139
def c19_39 : Code := .cond (.tmp 25) .skip c19_41
def c19_37 : Code := .seq (codeN b19 196459) c19_39
def c19_35 : Code := .cond (.tmp 25) .skip c19_37
def c19_33 : Code := .seq (codeN b19 49003) c19_35
def c19_31 : Code := .cond (.tmp 25) .skip c19_33
def c19_29 : Code := .seq (codeN b19 12139) c19_31
def c19_27 : Code := .cond (.tmp 25) .skip c19_29
def c19_25 : Code := .seq (codeN b19 2923) c19_27
def c19_23 : Code := .cond (.tmp 25) .skip c19_25
def c19_21 : Code := .seq (codeN b19 619) c19_23
def c19_43 : Code := .seq (codeN b19 1259) .ret
def c19_49 : Code := .seq (codeN b19 5099) .ret
def c19_55 : Code := .seq (codeN b19 20459) .ret
def c19_61 : Code := .seq (codeN b19 81899) .ret
def c19_60 : Code := .cond (.tmp 84) c19_61 .skip
def c19_58 : Code := .seq (codeN b19 24555) c19_60
def c19_54 : Code := .cond (.tmp 62) c19_55 c19_58
def c19_52 : Code := .seq (codeN b19 6123) c19_54
def c19_48 : Code := .cond (.tmp 46) c19_49 c19_52
def c19_46 : Code := .seq (codeN b19 1515) c19_48
def c19_42 : Code := .cond (.tmp 25) c19_43 c19_46
def c19_20 : Code := .seq c19_21 c19_42
def c19_16 : Code := .cond (.tmp 9) c19_17 c19_20
def c19_14 : Code := .seq (codeN b19 75) c19_16
def c19_13 : Code := .block 0 c19_14
def c19_11 : Code := .seq (codeN b19 19) c19_13
def c19_65 : Code := .seq (codeN b19 23) .ret
def c19_10 : Code := .seq c19_11 c19_65
def c19_2 : Code := .seq c19_3 c19_10
def c19_0 : Code := .seq (codeN b19 2) c19_2
theorem E19 : evK gS fi19 c19_6 fr st k = opsR gS fi19 [op1 2 (.assign (.const (.bool false))) 4] fr st (.seq .ret k) ∧
 evK gS fi19 c19_5 fr st k = condK gS fi19 (fr.op (.tmp 6)).bool? c19_6 .skip fr st k ∧
 (evK gS fi19 c19_3 fr st k = opsR gS fi19 [op1 3 (.fieldAddr 27 (.tmp 1) 0) 0,
 ld 4 9 3 9,
 cal 5 68 [(.tmp 4)] [9] 4,
 op1 6 (.unOp .not 4 (.tmp 5)) 4] fr st (.seq c19_5 k)) ∧
 (evK gS fi19 c19_17 fr st k = opsR gS fi19 [op1 11 (.fieldAddr 27 (.tmp 1) 2) 0,
 ld 12 24 11 24,
 cal 13 69 [(.tmp 12)] [24] 4,
 mv 14 13 4,
 mk (some 15) (.fieldAddr 27 (.tmp 1) 3) 0 (some (3, true)),
 mk (some 16) (.load 24 (.tmp 15)) 24 (some (3, true)),
 mk (some 17) (.call { callee := (.value (.func 69)), args := #[(.tmp 16)], argTypes := #[24] }) 4 (some (3, true)),
 op1 18 (.pick (.tmp 14) (.tmp 17) (.const (.bool false))) 4,
 mv 19 18 4,
 mk (some 20) (.fieldAddr 27 (.tmp 1) 4) 0 (some (8, true)),
 mk (some 21) (.load 25 (.tmp 20)) 25 (some (8, true)),
 mk (some 22) (.call { callee := (.builtin .len), args := #[(.tmp 21)], argTypes := #[25] }) 3 (some (8, true)),
 mk (some 23) (.binOp .eql 3 (.tmp 22) (.const (.int .i64 0)) 3) 4 (some (8, true)),
 op1 24 (.pick (.tmp 19) (.tmp 23) (.const (.bool false))) 4,
 asn 2 24 4] fr st (.seq .ret k)) ∧
 (evK gS fi19 c19_41 fr st k = opsR gS fi19 [op1 31 (.binOp .eql 3 (.tmp 8) (.const (.int .i64 7)) 3) 4,
 asn 25 31 4] fr st k) ∧
 evK gS fi19 c19_39 fr st k = condK gS fi19 (fr.op (.tmp 25)).bool? .skip c19_41 fr st k ∧
 (evK gS fi19 c19_37 fr st k = opsR gS fi19 [op1 30 (.binOp .eql 3 (.tmp 8) (.const (.int .i64 6)) 3) 4,
 asn 25 30 4] fr st (.seq c19_39 k)) ∧
 evK gS fi19 c19_35 fr st k = condK gS fi19 (fr.op (.tmp 25)).bool? .skip c19_37 fr st k ∧
 (evK gS fi19 c19_33 fr st k = opsR gS fi19 [op1 29 (.binOp .eql 3 (.tmp 8) (.const (.int .i64 5)) 3) 4,
 asn 25 29 4] fr st (.seq c19_35 k)) ∧
 evK gS fi19 c19_31 fr st k = condK gS fi19 (fr.op (.tmp 25)).bool? .skip c19_33 fr st k ∧
 (evK gS fi19 c19_29 fr st k = opsR gS fi19 [op1 28 (.binOp .eql 3 (.tmp 8) (.const (.int .i64 4)) 3) 4,
 asn 25 28 4] fr st (.seq c19_31 k)) ∧
 evK gS fi19 c19_27 fr st k = condK gS fi19 (fr.op (.tmp 25)).bool? .skip c19_29 fr st k ∧
 (evK gS fi19 c19_25 fr st k = opsR gS fi19 [op1 27 (.binOp .eql 3 (.tmp 8) (.const (.int .i64 3)) 3) 4,
 asn 25 27 4] fr st (.seq c19_27 k)) ∧
 evK gS fi19 c19_23 fr st k = condK gS fi19 (fr.op (.tmp 25)).bool? .skip c19_25 fr st k ∧
 (evK gS fi19 c19_21 fr st k = opsR gS fi19 [op1 26 (.binOp .eql 3 (.tmp 8) (.const (.int .i64 2)) 3) 4,
 asn 25 26 4] fr st (.seq c19_23 k)) ∧
 (evK gS fi19 c19_43 fr st k = opsR gS fi19 [op1 32 (.fieldAddr 27 (.tmp 1) 2) 0,
 ld 33 24 32 24,
 cal 34 70 [(.tmp 33)] [24] 4,
 mv 35 34 4,
 mk (some 36) (.fieldAddr 27 (.tmp 1) 3) 0 (some (3, true)),
 mk (some 37) (.load 24 (.tmp 36)) 24 (some (3, true)),
 mk (some 38) (.call { callee := (.value (.func 69)), args := #[(.tmp 37)], argTypes := #[24] }) 4 (some (3, true)),
 op1 39 (.pick (.tmp 35) (.tmp 38) (.const (.bool false))) 4,
 mv 40 39 4,
 mk (some 41) (.fieldAddr 27 (.tmp 1) 4) 0 (some (8, true)),
 mk (some 42) (.load 25 (.tmp 41)) 25 (some (8, true)),
 mk (some 43) (.call { callee := (.builtin .len), args := #[(.tmp 42)], argTypes := #[25] }) 3 (some (8, true)),
 mk (some 44) (.binOp .eql 3 (.tmp 43) (.const (.int .i64 0)) 3) 4 (some (8, true)),
 op1 45 (.pick (.tmp 40) (.tmp 44) (.const (.bool false))) 4,
 asn 2 45 4] fr st (.seq .ret k)) ∧
 (evK gS fi19 c19_49 fr st k = opsR gS fi19 [op1 48 (.fieldAddr 27 (.tmp 1) 2) 0,
 ld 49 24 48 24,
 cal 50 70 [(.tmp 49)] [24] 4,
 mv 51 50 4,
 mk (some 52) (.fieldAddr 27 (.tmp 1) 3) 0 (some (3, true)),
 mk (some 53) (.load 24 (.tmp 52)) 24 (some (3, true)),
 mk (some 54) (.call { callee := (.value (.func 70)), args := #[(.tmp 53)], argTypes := #[24] }) 4 (some (3, true)),
 op1 55 (.pick (.tmp 51) (.tmp 54) (.const (.bool false))) 4,
 mv 56 55 4,
 mk (some 57) (.fieldAddr 27 (.tmp 1) 4) 0 (some (8, true)),
 mk (some 58) (.load 25 (.tmp 57)) 25 (some (8, true)),
 mk (some 59) (.call { callee := (.builtin .len), args := #[(.tmp 58)], argTypes := #[25] }) 3 (some (8, true)),
 mk (some 60) (.binOp .eql 3 (.tmp 59) (.const (.int .i64 0)) 3) 4 (some (8, true)),
 op1 61 (.pick (.tmp 56) (.tmp 60) (.const (.bool false))) 4,
 asn 2 61 4] fr st (.seq .ret k)) ∧
 (evK gS fi19 c19_55 fr st k = opsR gS fi19 [op1 64 (.fieldAddr 27 (.tmp 1) 2) 0,
 ld 65 24 64 24,
 cal 66 70 [(.tmp 65)] [24] 4,
 mv 67 66 4,
 mk (some 68) (.fieldAddr 27 (.tmp 1) 2) 0 (some (3, true)),
 mk (some 69) (.fieldAddr 24 (.tmp 68) 0) 0 (some (3, true)),
 mk (some 70) (.load 3 (.tmp 69)) 3 (some (3, true)),
 mk (some 71) (.binOp .eql 3 (.tmp 70) (.const (.int .i64 3)) 3) 4 (some (3, true)),
 op1 72 (.pick (.tmp 67) (.tmp 71) (.const (.bool false))) 4,
 mv 73 72 4,
 mk (some 74) (.fieldAddr 27 (.tmp 1) 3) 0 (some (9, true)),
 mk (some 75) (.load 24 (.tmp 74)) 24 (some (9, true)),
 mk (some 76) (.call { callee := (.value (.func 69)), args := #[(.tmp 75)], argTypes := #[24] }) 4 (some (9, true)),
 op1 77 (.pick (.tmp 73) (.tmp 76) (.const (.bool false))) 4,
 mv 78 77 4,
 mk (some 79) (.fieldAddr 27 (.tmp 1) 4) 0 (some (14, true)),
 mk (some 80) (.load 25 (.tmp 79)) 25 (some (14, true)),
 mk (some 81) (.call { callee := (.builtin .len), args := #[(.tmp 80)], argTypes := #[25] }) 3 (some (14, true)),
 mk (some 82) (.binOp .eql 3 (.tmp 81) (.const (.int .i64 0)) 3) 4 (some (14, true)),
 op1 83 (.pick (.tmp 78) (.tmp 82) (.const (.bool false))) 4,
 asn 2 83 4] fr st (.seq .ret k)) ∧
 (evK gS fi19 c19_61 fr st k = opsR gS fi19 [op1 86 (.fieldAddr 27 (.tmp 1) 2) 0,
 ld 87 24 86 24,
 cal 88 69 [(.tmp 87)] [24] 4,
 mv 89 88 4,
 mk (some 90) (.fieldAddr 27 (.tmp 1) 3) 0 (some (3, true)),
 mk (some 91) (.load 24 (.tmp 90)) 24 (some (3, true)),
 mk (some 92) (.call { callee := (.value (.func 69)), args := #[(.tmp 91)], argTypes := #[24] }) 4 (some (3, true)),
 op1 93 (.pick (.tmp 89) (.tmp 92) (.const (.bool false))) 4,
 mv 94 93 4,
 mk (some 95) (.fieldAddr 27 (.tmp 1) 4) 0 (some (8, true)),
 mk (some 96) (.load 25 (.tmp 95)) 25 (some (8, true)),
 mk (some 97) (.call { callee := (.builtin .len), args := #[(.tmp 96)], argTypes := #[25] }) 3 (some (8, true)),
 mk (some 98) (.binOp .geq 3 (.tmp 97) (.const (.int .i64 1)) 3) 4 (some (8, true)),
 op1 99 (.pick (.tmp 94) (.tmp 98) (.const (.bool false))) 4,
 mv 100 99 4,
 mk (some 101) (.fieldAddr 27 (.tmp 1) 4) 0 (some (14, true)),
 mk (some 102) (.load 25 (.tmp 101)) 25 (some (14, true)),
 mk (some 103) (.call { callee := (.builtin .len), args := #[(.tmp 102)], argTypes := #[25] }) 3 (some (14, true)),
 mk (some 104) (.binOp .leq 3 (.tmp 103) (.const (.int .i64 4)) 3) 4 (some (14, true)),
 op1 105 (.pick (.tmp 100) (.tmp 104) (.const (.bool false))) 4,
 mv 106 105 4,
 mk (some 107) (.fieldAddr 27 (.tmp 1) 4) 0 (some (20, true)),
 mk (some 108) (.load 25 (.tmp 107)) 25 (some (20, true)),
 mk (some 109) (.call { callee := (.value (.func 71)), args := #[(.tmp 108)], argTypes := #[25] }) 4 (some (20, true)),
 op1 110 (.pick (.tmp 106) (.tmp 109) (.const (.bool false))) 4,
 asn 2 110 4] fr st (.seq .ret k)) ∧
 evK gS fi19 c19_60 fr st k = condK gS fi19 (fr.op (.tmp 84)).bool? c19_61 .skip fr st k ∧
 (evK gS fi19 c19_58 fr st k = opsR gS fi19 [op1 85 (.binOp .eql 3 (.tmp 8) (.const (.int .i64 10)) 3) 4,
 asn 84 85 4] fr st (.seq c19_60 k)) ∧
 evK gS fi19 c19_54 fr st k = condK gS fi19 (fr.op (.tmp 62)).bool? c19_55 c19_58 fr st k ∧
 (evK gS fi19 c19_52 fr st k = opsR gS fi19 [op1 63 (.binOp .eql 3 (.tmp 8) (.const (.int .i64 9)) 3) 4,
 asn 62 63 4] fr st (.seq c19_54 k)) ∧
 evK gS fi19 c19_48 fr st k = condK gS fi19 (fr.op (.tmp 46)).bool? c19_49 c19_52 fr st k ∧
 (evK gS fi19 c19_46 fr st k = opsR gS fi19 [op1 47 (.binOp .eql 3 (.tmp 8) (.const (.int .i64 8)) 3) 4,
 asn 46 47 4] fr st (.seq c19_48 k)) ∧
 evK gS fi19 c19_42 fr st k = condK gS fi19 (fr.op (.tmp 25)).bool? c19_43 c19_46 fr st k ∧
 evK gS fi19 c19_20 fr st k = evK gS fi19 c19_21 fr st (.seq c19_42 k) ∧
 evK gS fi19 c19_16 fr st k = condK gS fi19 (fr.op (.tmp 9)).bool? c19_17 c19_20 fr st k ∧
 (evK gS fi19 c19_14 fr st k = opsR gS fi19 [op1 10 (.binOp .eql 3 (.tmp 8) (.const (.int .i64 1)) 3) 4,
 asn 9 10 4] fr st (.seq c19_16 k)) ∧
 evK gS fi19 c19_13 fr st k = evK gS fi19 c19_14 fr st (.blk 0 k) ∧
 (evK gS fi19 c19_11 fr st k = opsR gS fi19 [op1 7 (.fieldAddr 27 (.tmp 1) 1) 0,
 ld 8 3 7 3] fr st (.seq c19_13 k)) ∧
 evK gS fi19 c19_65 fr st k = opsR gS fi19 [op1 2 (.assign (.const (.bool false))) 4] fr st (.seq .ret k) ∧
 evK gS fi19 c19_10 fr st k = evK gS fi19 c19_11 fr st (.seq c19_65 k) ∧
 evK gS fi19 c19_2 fr st k = evK gS fi19 c19_3 fr st (.seq c19_10 k) ∧
 (evK gS fi19 c19_0 fr st k = opsR gS fi19 [op1 1 (.box 27 (.tmp 0)) 0,
 op1 2 (.assign (.const (.bool false))) 4] fr st (.seq c19_2 k)) := ⟨evK_rs 2 rfl (by kernel_rfl), rfl, evK_rs 1 rfl (by kernel_rfl), evK_rs 5 rfl (by kernel_rfl), evK_r 11 (by kernel_rfl), rfl, evK_rs 10 rfl (by kernel_rfl), rfl, evK_rs 9 rfl (by kernel_rfl), rfl, evK_rs 8 rfl (by kernel_rfl), rfl, evK_rs 7 rfl (by kernel_rfl), rfl, evK_rs 6 rfl (by kernel_rfl), evK_rs 12 rfl (by kernel_rfl), evK_rs 14 rfl (by kernel_rfl), evK_rs 16 rfl (by kernel_rfl), evK_rs 18 rfl (by kernel_rfl), rfl, evK_rs 17 rfl (by kernel_rfl), rfl, evK_rs 15 rfl (by kernel_rfl), rfl, evK_rs 13 rfl (by kernel_rfl), rfl, rfl, rfl, evK_rs 4 rfl (by kernel_rfl), rfl, evK_rs 3 rfl (by kernel_rfl), evK_rs 19 rfl (by kernel_rfl), rfl, rfl, evK_rs 0 rfl (by kernel_rfl)⟩
theorem m19 : mini fi19.body = c19_0 := by kernel_rfl
set_option maxHeartbeats 4000000 in
theorem c19 (p : Pred)  (h_p : Pred.ok p) (st : St) : EvF gS 19 [p.enc] st = some (.ret (.bool (pright p)) none, st) := by
  refine EvF_start fi19_eq (fun x h => by cases h) m19 ?_
  rw [st19]
  have hm : fi19.marks = [] := rfl
  have hl : fi19.locals = [1] := rfl
  have hr : fi19.results = [.tmp 2] := rfl
  simp (config := { contextual := true, maxSteps := 10000000, maxDischargeDepth := 6 }) [-Int.not_le, -Int.not_lt, -Nat.not_le, -Nat.not_lt, ty3, ty4, ty9, ty24, ty25, ty27, eq24, hm, hl, hr, k68, k69, k70, k71, E19, h_p.1, h_p.2]
  all_goals try simp (config := { contextual := true }) [-Int.not_le, -Int.not_lt, -Nat.not_le, -Nat.not_lt, pright]
  all_goals first | done | grind | omega | (trace_state; fail)
theorem k19 (p_name : List UInt8) (p_test : Int) (p_vk : Int) (p_vn : Int) (p_vx : Nat) (p_vs : List UInt8) (p_vb : Bool) (p_wk : Int) (p_wn : Int) (p_wx : Nat) (p_ws : List UInt8) (p_wb : Bool) (p_set : List Val)  (h_p : Pred.ok (⟨p_name, p_test, ⟨p_vk, p_vn, p_vx, p_vs, p_vb⟩, ⟨p_wk, p_wn, p_wx, p_ws, p_wb⟩, p_set⟩ : Pred)) (fr : Fr) (st : St) : callStep gS (EvF gS) 19 [.agg [.str p_name, .int .i64 p_test, .int .i64 p_vk, .int .i64 p_vn, .float .f64 p_vx, .str p_vs, .bool p_vb, .int .i64 p_wk, .int .i64 p_wn, .float .f64 p_wx, .str p_ws, .bool p_wb, .slice (encVals p_set)]] fr st = some (.ok (retE none (.bool (pright (⟨p_name, p_test, ⟨p_vk, p_vn, p_vx, p_vs, p_vb⟩, ⟨p_wk, p_wn, p_wx, p_ws, p_wb⟩, p_set⟩ : Pred)))) fr st) :=
  call_pure rfl fi19_eq rfl (fun st => c19 (⟨p_name, p_test, ⟨p_vk, p_vn, p_vx, p_vs, p_vb⟩, ⟨p_wk, p_wn, p_wx, p_ws, p_wb⟩, p_set⟩ : Pred) h_p st) (by simp)
end
end Go.Proofs.Ytclpbfkbpcjejaa
namespace Go.Proofs.Ytclpbfkbpcjejaa
open Go Go.Ab
set_option linter.unusedVariables false
set_option linter.unusedSimpArgs false
set_option linter.unnecessarySimpa false
set_option maxRecDepth 20000
noncomputable section
variable (fr : Fr) (st : St) (k : Kt)
def fi25 : FI := { body := codeOf Try.f25, ntmps := 62, results := [.tmp 4], pers := [0, 1, 2, 3, 4, 5, 45, 46], locals := [2, 3], pure := true, marks := [] }
theorem fi25_eq : gS.fn 25 = some fi25 := by kernel_rfl
theorem st25 (a0 a1 : V) : startFr fi25 [a0, a1] = { ps := [(0, .val a0), (1, .val a1), (2, .any), (3, .any), (4, .any), (5, .any), (45, .any), (46, .any)], ts := [], lc := [] } := rfl
def b25 : Code := mini (codeOf Try.f25)
def c25_6 : Code := .seq (codeN b25 37) .ret
def c25_5 : Code := .cond (.tmp 42) c25_6 .skip
def c25_3 : Code := .seq (codeN b25 9) c25_5
def r25_26 : Array Oper := regOps (codeN (codeOf Try.f25) 5323)
def c25_26 : Code := .region 6 r25_26 true
def q25_26 : List (Oper × Fl) := [(op1 49 (.fieldAddr 27 (.tmp 2) 4) 0, ⟨true, false, true, false, false, false, true, true, false, false, []⟩),
 (ld 50 25 49 25, ⟨true, false, true, false, false, false, true, true, false, false, []⟩),
 (mv 51 5 3, ⟨true, false, true, false, false, false, true, true, false, false, []⟩),
 (ixa 52 25 50 51 0, ⟨true, false, true, false, false, false, true, true, false, false, []⟩),
 (ld 53 24 52 24, ⟨true, false, true, false, false, false, true, true, false, false, []⟩),
 (op1 54 (.fieldAddr 27 (.tmp 3) 4) 0, ⟨true, false, true, false, false, false, true, true, false, false, []⟩),
 (ld 55 25 54 25, ⟨true, false, true, false, false, false, true, true, false, false, []⟩),
 (mv 56 5 3, ⟨true, false, true, false, true, false, true, true, false, false, []⟩),
 (ixa 57 25 55 56 0, ⟨true, false, true, false, true, false, true, true, false, false, []⟩),
 (ld 58 24 57 24, ⟨true, false, true, false, true, false, true, true, false, false, []⟩),
 (cal 59 81 [(.tmp 53), (.tmp 58)] [24, 24] 4, ⟨true, true, true, false, true, true, true, true, false, false, []⟩),
 (op1 60 (.unOp .not 4 (.tmp 59)) 4, ⟨true, false, true, false, true, false, true, true, false, false, []⟩)]
def c25_28 : Code := .seq (codeN b25 19659) .ret
def c25_27 : Code := .cond (.tmp 60) c25_28 .skip
def c25_25 : Code := .seq c25_26 c25_27
def c25_23 : Code := .seq (codeN b25 2251) c25_25
def c25_32 : Code := codeN b25 971
def c25_21 : Code := .seq (.block 1 c25_23) c25_32
def c25_17 : Code := .seq (.cond (.tmp 47) .skip (.exit 0)) c25_21
def c25_15 : Code := .seq (codeN b25 139) c25_17
def c25_14 : Code := .loop c25_15
def c25_13 : Code := .block 0 c25_14
def c25_11 : Code := .seq (codeN b25 19) c25_13
def c25_33 : Code := .seq (codeN b25 23) .ret
def c25_10 : Code := .seq c25_11 c25_33
def c25_2 : Code := .seq c25_3 c25_10
def c25_0 : Code := .seq (codeN b25 2) c25_2
theorem E25 : evK gS fi25 c25_6 fr st k = opsR gS fi25 [op1 4 (.assign (.const (.bool false))) 4] fr st (.seq .ret k) ∧
 evK gS fi25 c25_5 fr st k = condK gS fi25 (fr.op (.tmp 42)).bool? c25_6 .skip fr st k ∧
 (evK gS fi25 c25_3 fr st k = opsR gS fi25 [op1 6 (.fieldAddr 27 (.tmp 2) 0) 0,
 ld 7 9 6 9,
 op1 8 (.fieldAddr 27 (.tmp 3) 0) 0,
 ld 9 9 8 9,
 bop 10 .neq 9 7 9 9 4,
 mv 11 10 4,
 mk (some 12) (.fieldAddr 27 (.tmp 2) 1) 0 (some (5, false)),
 mk (some 13) (.load 3 (.tmp 12)) 3 (some (5, false)),
 mk (some 14) (.fieldAddr 27 (.tmp 3) 1) 0 (some (5, false)),
 mk (some 15) (.load 3 (.tmp 14)) 3 (some (5, false)),
 mk (some 16) (.binOp .neq 3 (.tmp 13) (.tmp 15) 3) 4 (some (5, false)),
 op1 17 (.pick (.tmp 11) (.const (.bool true)) (.tmp 16)) 4,
 mv 18 17 4,
 mk (some 19) (.fieldAddr 27 (.tmp 2) 2) 0 (some (12, false)),
 mk (some 20) (.load 24 (.tmp 19)) 24 (some (12, false)),
 mk (some 21) (.fieldAddr 27 (.tmp 3) 2) 0 (some (12, false)),
 mk (some 22) (.load 24 (.tmp 21)) 24 (some (12, false)),
 mk (some 23) (.call { callee := (.value (.func 81)), args := #[(.tmp 20), (.tmp 22)], argTypes := #[24, 24] }) 4 (some (12, false)),
 mk (some 24) (.unOp .not 4 (.tmp 23)) 4 (some (12, false)),
 op1 25 (.pick (.tmp 18) (.const (.bool true)) (.tmp 24)) 4,
 mv 26 25 4,
 mk (some 27) (.fieldAddr 27 (.tmp 2) 3) 0 (some (20, false)),
 mk (some 28) (.load 24 (.tmp 27)) 24 (some (20, false)),
 mk (some 29) (.fieldAddr 27 (.tmp 3) 3) 0 (some (20, false)),
 mk (some 30) (.load 24 (.tmp 29)) 24 (some (20, false)),
 mk (some 31) (.call { callee := (.value (.func 81)), args := #[(.tmp 28), (.tmp 30)], argTypes := #[24, 24] }) 4 (some (20, false)),
 mk (some 32) (.unOp .not 4 (.tmp 31)) 4 (some (20, false)),
 op1 33 (.pick (.tmp 26) (.const (.bool true)) (.tmp 32)) 4,
 mv 34 33 4,
 mk (some 35) (.fieldAddr 27 (.tmp 2) 4) 0 (some (28, false)),
 mk (some 36) (.load 25 (.tmp 35)) 25 (some (28, false)),
 mk (some 37) (.call { callee := (.builtin .len), args := #[(.tmp 36)], argTypes := #[25] }) 3 (some (28, false)),
 mk (some 38) (.fieldAddr 27 (.tmp 3) 4) 0 (some (28, false)),
 mk (some 39) (.load 25 (.tmp 38)) 25 (some (28, false)),
 mk (some 40) (.call { callee := (.builtin .len), args := #[(.tmp 39)], argTypes := #[25] }) 3 (some (28, false)),
 mk (some 41) (.binOp .neq 3 (.tmp 37) (.tmp 40) 3) 4 (some (28, false)),
 op1 42 (.pick (.tmp 34) (.const (.bool true)) (.tmp 41)) 4] fr st (.seq c25_5 k)) ∧
 evK gS fi25 c25_26 fr st k = drwR gS fi25 r25_26 q25_26 fr st k ∧
 evK gS fi25 c25_28 fr st k = opsR gS fi25 [op1 4 (.assign (.const (.bool false))) 4] fr st (.seq .ret k) ∧
 evK gS fi25 c25_27 fr st k = condK gS fi25 (fr.op (.tmp 60)).bool? c25_28 .skip fr st k ∧
 evK gS fi25 c25_25 fr st k = evK gS fi25 c25_26 fr st (.seq c25_27 k) ∧
 (evK gS fi25 c25_23 fr st k = opsR gS fi25 [mv 48 46 3,
 asn 5 48 3] fr st (.seq c25_25 k)) ∧
 (evK gS fi25 c25_32 fr st k = opsR gS fi25 [op1 61 (.binOp .add 3 (.tmp 46) (.const (.int .i64 1)) 3) 3,
 mv 46 61 3] fr st k) ∧
 evK gS fi25 c25_21 fr st k = evK gS fi25 c25_23 fr st (.blk 1 (.seq c25_32 k)) ∧
 evK gS fi25 c25_17 fr st k = condK gS fi25 (fr.op (.tmp 47)).bool? .skip (.exit 0) fr st (.seq c25_21 k) ∧
 evK gS fi25 c25_15 fr st k = opsR gS fi25 [bop 47 .lss 3 46 45 3 0] fr st (.seq c25_17 k) ∧
 evK gS fi25 c25_13 fr st k = evK gS fi25 c25_14 fr st (.blk 0 k) ∧
 (evK gS fi25 c25_11 fr st k = opsR gS fi25 [op1 43 (.fieldAddr 27 (.tmp 2) 4) 0,
 ld 44 25 43 25,
 len1 45 44 25 3,
 op1 46 (.move (.const (.int .i64 0))) 3] fr st (.seq c25_13 k)) ∧
 evK gS fi25 c25_33 fr st k = opsR gS fi25 [op1 4 (.assign (.const (.bool true))) 4] fr st (.seq .ret k) ∧
 evK gS fi25 c25_10 fr st k = evK gS fi25 c25_11 fr st (.seq c25_33 k) ∧
 evK gS fi25 c25_2 fr st k = evK gS fi25 c25_3 fr st (.seq c25_10 k) ∧
 (evK gS fi25 c25_0 fr st k = opsR gS fi25 [op1 2 (.box 27 (.tmp 0)) 0,
 op1 3 (.box 27 (.tmp 1)) 0,
 op1 4 (.assign (.const (.bool false))) 4] fr st (.seq c25_2 k)) := ⟨evK_rs 2 rfl (by kernel_rfl), rfl, evK_rs 1 rfl (by kernel_rfl), evK_dr 6 rfl (by kernel_rfl) (by kernel_rfl), evK_rs 7 rfl (by kernel_rfl), rfl, rfl, evK_rs 5 rfl (by kernel_rfl), evK_r 8 (by kernel_rfl), rfl, rfl, evK_rs 4 rfl (by kernel_rfl), rfl, evK_rs 3 rfl (by kernel_rfl), evK_rs 9 rfl (by kernel_rfl), rfl, rfl, evK_rs 0 rfl (by kernel_rfl)⟩
theorem m25 : mini fi25.body = c25_0 := by kernel_rfl
theorem n25_14 (fr : Fr) (st : St) (k : Kt) : nextK gS fi25 (.loop c25_15 k) .normal fr st = evK gS fi25 c25_14 fr st k := rfl
set_option maxHeartbeats 4000000 in
theorem L25_14 (a : Pred) (b : Pred) (h_a : a.ok) (st : St) : ∀ (n i : Nat) (j : Int) (m : Int) (e0 e1 e4 e5 : E) (T : List (Nat × E)) (X : List (Nat × List V)) (ht0 : e0.Tame) (ht1 : e1.Tame) (ht4 : e4.Tame) (ht5 : e5.Tame) (hx2 : lk X 2 = some [.str a.name, .int .i64 a.test, .int .i64 a.v.kind, .int .i64 a.v.n, .float .f64 a.v.x, .str a.v.s, .bool a.v.b, .int .i64 a.w.kind, .int .i64 a.w.n, .float .f64 a.w.x, .str a.w.s, .bool a.w.b, .slice (encVals a.set)]) (hx3 : lk X 3 = some [.str b.name, .int .i64 b.test, .int .i64 b.v.kind, .int .i64 b.v.n, .float .f64 b.v.x, .str b.v.s, .bool b.v.b, .int .i64 b.w.kind, .int .i64 b.w.n, .float .f64 b.w.x, .str b.w.s, .bool b.w.b, .slice (encVals b.set)]) (hlen : a.set.length = b.set.length) (hm45 : m = ((a.set.length : Nat) : Int)), j = (i : Int) → i ≤ (a.set).length → (a.set).length - i = n →
    evK gS fi25 c25_14 { ps := [(0, e0), (1, e1), (2, .lp 2 0), (3, .lp 3 0), (4, e4), (5, e5), (45, .val (.int .i64 m)), (46, .val (.int .i64 j))], ts := T, lc := X } st (.blk 0 (.seq c25_33 .nil)) = some ((.ret (.bool (sames (a.set.drop i) (b.set.drop i))) none), st) := by
  intro n
  have hm : fi25.marks = [] := rfl
  have hl : fi25.locals = [2, 3] := rfl
  have hr : fi25.results = [.tmp 4] := rfl
  have hao := h_a.2
  induction n with
  | zero =>
    intro i j m e0 e1 e4 e5 T X ht0 ht1 ht4 ht5 hx2 hx3 hlen hm45 hj hi hn
    obtain rfl : i = (a.set).length := by omega
    subst hj
    subst hm45
    have hz : b.set.drop a.set.length = [] := List.drop_eq_nil_of_le (by omega)
    refine evK_loop c25_15 _ st _ _ rfl ?_
    simp (config := { contextual := true, maxSteps := 10000000, maxDischargeDepth := 6 }) [-Int.not_le, -Int.not_lt, -Nat.not_le, -Nat.not_lt, ty3, ty4, ty9, ty24, ty25, ty27, eq24, hm, hl, hr, k81, x81, fi81_eq, p81, E25, q25_26, n25_14, ht0, ht1, ht4, ht5, hx2, hx3, hz]
    all_goals try simp (config := { contextual := true }) [-Int.not_le, -Int.not_lt, -Nat.not_le, -Nat.not_lt, sames]
    all_goals first | done | grind | omega | (trace_state; fail)
  | succ n ih =>
    intro i j m e0 e1 e4 e5 T X ht0 ht1 ht4 ht5 hx2 hx3 hlen hm45 hj hi hn
    subst hj
    obtain ⟨x, hx⟩ : ∃ x, (a.set)[i]? = some x := ⟨(a.set)[i]'(by omega), List.getElem?_eq_getElem (by omega)⟩
    have hd := drop_get hx
    have hlt : (i : Int) < ((a.set).length : Int) := by omega
    have hlt2 : i < (a.set).length := by omega
    have hxe : (a.set)[i]'hlt2 = x := by rw [List.getElem?_eq_getElem hlt2] at hx; exact Option.some.inj hx
    have hw : IntKind.wrap .i64 ((i : Int) + 1) = (i : Int) + 1 := wrap64 (by omega) (by omega)
    subst hm45
    obtain ⟨y, hy⟩ : ∃ y, (b.set)[i]? = some y := ⟨(b.set)[i]'(by omega), List.getElem?_eq_getElem (by omega)⟩
    have hyd := drop_get hy
    have hyl : i < (b.set).length := by omega
    have hye : (b.set)[i]'hyl = y := by rw [List.getElem?_eq_getElem hyl] at hy; exact Option.some.inj hy
    have IH := fun m e0 e1 e4 e5 T X ht0 ht1 ht4 ht5 hx2 hx3 hlen hm45 => ih (i + 1) ((i : Int) + 1) m e0 e1 e4 e5 T X ht0 ht1 ht4 ht5 hx2 hx3 hlen hm45 rfl (by omega) (by omega)
    refine evK_loop c25_15 _ st _ _ rfl ?_
    simp (config := { contextual := true, maxSteps := 10000000, maxDischargeDepth := 6 }) [-Int.not_le, -Int.not_lt, -Nat.not_le, -Nat.not_lt, ty3, ty4, ty9, ty24, ty25, ty27, eq24, hm, hl, hr, k81, x81, fi81_eq, p81, E25, q25_26, n25_14, ht0, ht1, ht4, ht5, hx2, hx3, hx, hxe, hd, hlt, hlt2, hw, IH, hy, hye, hyd, hlen]
    all_goals try simp (config := { contextual := true }) [-Int.not_le, -Int.not_lt, -Nat.not_le, -Nat.not_lt, sames]
    all_goals first | done | grind | omega | (trace_state; fail)
set_option maxHeartbeats 4000000 in
theorem c25 (a : Pred) (b : Pred)  (h_a : Pred.ok a) (h_b : Pred.ok b) (st : St) : EvF gS 25 [a.enc, b.enc] st = some (.ret (.bool (psame a b)) none, st) := by
  refine EvF_start fi25_eq (fun x h => by cases h) m25 ?_
  rw [st25]
  have hm : fi25.marks = [] := rfl
  have hl : fi25.locals = [2, 3] := rfl
  have hr : fi25.results = [.tmp 4] := rfl
  simp (config := { contextual := true, maxSteps := 10000000, maxDischargeDepth := 6 }) [-Int.not_le, -Int.not_lt, -Nat.not_le, -Nat.not_lt, ty3, ty4, ty9, ty24, ty25, ty27, eq24, hm, hl, hr, k81, x81, fi81_eq, p81, E25, q25_26, n25_14, (fun m e0 e1 e4 e5 T X ht0 ht1 ht4 ht5 hx2 hx3 hlen hm45 => L25_14 a b h_a st _ 0 0  m e0 e1 e4 e5 T X ht0 ht1 ht4 ht5 hx2 hx3 hlen hm45 rfl (Nat.zero_le _) rfl), h_a.1, h_a.2, h_b.1, h_b.2]
  all_goals try simp (config := { contextual := true }) [-Int.not_le, -Int.not_lt, -Nat.not_le, -Nat.not_lt, psame, sames_ne]
  all_goals first | done | grind | omega | (trace_state; fail)
theorem k25 (a_name : List UInt8) (a_test : Int) (a_vk : Int) (a_vn : Int) (a_vx : Nat) (a_vs : List UInt8) (a_vb : Bool) (a_wk : Int) (a_wn : Int) (a_wx : Nat) (a_ws : List UInt8) (a_wb : Bool) (a_set : List Val) (b_name : List UInt8) (b_test : Int) (b_vk : Int) (b_vn : Int) (b_vx : Nat) (b_vs : List UInt8) (b_vb : Bool) (b_wk : Int) (b_wn : Int) (b_wx : Nat) (b_ws : List UInt8) (b_wb : Bool) (b_set : List Val)  (h_a : Pred.ok (⟨a_name, a_test, ⟨a_vk, a_vn, a_vx, a_vs, a_vb⟩, ⟨a_wk, a_wn, a_wx, a_ws, a_wb⟩, a_set⟩ : Pred)) (h_b : Pred.ok (⟨b_name, b_test, ⟨b_vk, b_vn, b_vx, b_vs, b_vb⟩, ⟨b_wk, b_wn, b_wx, b_ws, b_wb⟩, b_set⟩ : Pred)) (fr : Fr) (st : St) : callStep gS (EvF gS) 25 [.agg [.str a_name, .int .i64 a_test, .int .i64 a_vk, .int .i64 a_vn, .float .f64 a_vx, .str a_vs, .bool a_vb, .int .i64 a_wk, .int .i64 a_wn, .float .f64 a_wx, .str a_ws, .bool a_wb, .slice (encVals a_set)], .agg [.str b_name, .int .i64 b_test, .int .i64 b_vk, .int .i64 b_vn, .float .f64 b_vx, .str b_vs, .bool b_vb, .int .i64 b_wk, .int .i64 b_wn, .float .f64 b_wx, .str b_ws, .bool b_wb, .slice (encVals b_set)]] fr st = some (.ok (retE none (.bool (psame (⟨a_name, a_test, ⟨a_vk, a_vn, a_vx, a_vs, a_vb⟩, ⟨a_wk, a_wn, a_wx, a_ws, a_wb⟩, a_set⟩ : Pred) (⟨b_name, b_test, ⟨b_vk, b_vn, b_vx, b_vs, b_vb⟩, ⟨b_wk, b_wn, b_wx, b_ws, b_wb⟩, b_set⟩ : Pred)))) fr st) :=
  call_pure rfl fi25_eq rfl (fun st => c25 (⟨a_name, a_test, ⟨a_vk, a_vn, a_vx, a_vs, a_vb⟩, ⟨a_wk, a_wn, a_wx, a_ws, a_wb⟩, a_set⟩ : Pred) (⟨b_name, b_test, ⟨b_vk, b_vn, b_vx, b_vs, b_vb⟩, ⟨b_wk, b_wn, b_wx, b_ws, b_wb⟩, b_set⟩ : Pred) h_a h_b st) (by simp)
theorem x25 : gS.ext 25 = none := rfl
theorem p25 : fi25.pure = true := rfl
def fi21 : FI := { body := codeOf Try.f21, ntmps := 113, results := [.tmp 4], pers := [0, 1, 2, 3, 4, 5, 6, 7, 8, 10, 22, 103, 104, 105], locals := [2, 3, 10], pure := true, marks := [] }
theorem fi21_eq : gS.fn 21 = some fi21 := by kernel_rfl
theorem st21 (a0 a1 : V) : startFr fi21 [a0, a1] = { ps := [(0, .val a0), (1, .val a1), (2, .any), (3, .any), (4, .any), (5, .any), (6, .any), (7, .any), (8, .any), (10, .any), (22, .any), (103, .any), (104, .any), (105, .any)], ts := [], lc := [] } := rfl
def b21 : Code := mini (codeOf Try.f21)
def c21_6 : Code := .seq (codeN b21 37) .ret
def c21_5 : Code := .cond (.tmp 13) c21_6 .skip
def c21_3 : Code := .seq (codeN b21 9) c21_5
def c21_19 : Code := .seq (codeN b21 599) .ret
def c21_25 : Code := .seq (codeN b21 2519) .ret
def c21_31 : Code := .seq (codeN b21 10199) .ret
def c21_37 : Code := .seq (codeN b21 40919) .ret
def c21_43 : Code := .seq (codeN b21 163799) .ret
def c21_49 : Code := .seq (codeN b21 655319) .ret
def c21_55 : Code := .seq (codeN b21 2621399) .ret
def c21_63 : Code := .seq (codeN b21 23068631) .ret
def c21_61 : Code := .seq (codeN b21 10485719) c21_63
def c21_69 : Code := .seq (codeN b21 41942999) .ret
def c21_68 : Code := .cond (.tmp 89) c21_69 .skip
def c21_66 : Code := .seq (codeN b21 12582871) c21_68
def c21_60 : Code := .cond (.tmp 68) c21_61 c21_66
def c21_58 : Code := .seq (codeN b21 3145687) c21_60
def c21_54 : Code := .cond (.tmp 61) c21_55 c21_58
def c21_52 : Code := .seq (codeN b21 786391) c21_54
def c21_48 : Code := .cond (.tmp 54) c21_49 c21_52
def c21_46 : Code := .seq (codeN b21 196567) c21_48
def c21_42 : Code := .cond (.tmp 47) c21_43 c21_46
def c21_40 : Code := .seq (codeN b21 49111) c21_42
def c21_36 : Code := .cond (.tmp 40) c21_37 c21_40
def c21_34 : Code := .seq (codeN b21 12247) c21_36
def c21_30 : Code := .cond (.tmp 32) c21_31 c21_34
def c21_28 : Code := .seq (codeN b21 3031) c21_30
def c21_24 : Code := .cond (.tmp 25) c21_25 c21_28
def c21_22 : Code := .seq (codeN b21 727) c21_24
def c21_18 : Code := .cond (.tmp 23) c21_19 c21_22
def c21_16 : Code := .seq (codeN b21 151) c21_18
def c21_15 : Code := .block 0 c21_16
def c21_13 : Code := .seq (codeN b21 39) c21_15
def c21_91 : Code := .seq (codeN b21 78639) .ret
def c21_90 : Code := .cond (.tmp 111) c21_91 .skip
def c21_88 : Code := .seq (codeN b21 21295) c21_90
def c21_86 : Code := .seq (codeN b21 9007) c21_88
def c21_95 : Code := codeN b21 3887
def c21_84 : Code := .seq (.block 2 c21_86) c21_95
def c21_80 : Code := .seq (.cond (.tmp 106) .skip (.exit 1)) c21_84
def c21_78 : Code := .seq (codeN b21 559) c21_80
def c21_77 : Code := .loop c21_78
def c21_76 : Code := .block 1 c21_77
def c21_74 : Code := .seq (codeN b21 79) c21_76
def c21_96 : Code := .seq (codeN b21 95) .ret
def c21_73 : Code := .seq c21_74 c21_96
def c21_12 : Code := .seq c21_13 c21_73
def c21_10 : Code := .seq (codeN b21 11) c21_12
def c21_2 : Code := .seq c21_3 c21_10
def c21_0 : Code := .seq (codeN b21 2) c21_2
theorem E21 : evK gS fi21 c21_6 fr st k = opsR gS fi21 [op1 4 (.assign (.const (.bool false))) 4] fr st (.seq .ret k) ∧
 evK gS fi21 c21_5 fr st k = condK gS fi21 (fr.op (.tmp 13)).bool? c21_6 .skip fr st k ∧
 (evK gS fi21 c21_3 fr st k = opsR gS fi21 [ld 11 27 2 27,
 cal 12 19 [(.tmp 11)] [27] 4,
 op1 13 (.unOp .not 4 (.tmp 12)) 4] fr st (.seq c21_5 k)) ∧
 evK gS fi21 c21_19 fr st k = opsR gS fi21 [op1 4 (.assign (.const (.bool true))) 4] fr st (.seq .ret k) ∧
 (evK gS fi21 c21_25 fr st k = opsR gS fi21 [mv 27 6 4,
 mv 28 27 4,
 mk (some 29) (.move (.tmp 5)) 3 (some (1, true)),
 mk (some 30) (.binOp .eql 3 (.tmp 29) (.const (.int .i64 0)) 3) 4 (some (1, true)),
 op1 31 (.pick (.tmp 28) (.tmp 30) (.const (.bool false))) 4,
 asn 4 31 4] fr st (.seq .ret k)) ∧
 (evK gS fi21 c21_31 fr st k = opsR gS fi21 [mv 34 6 4,
 mv 35 34 4,
 mk (some 36) (.move (.tmp 5)) 3 (some (1, true)),
 mk (some 37) (.binOp .eql 3 (.tmp 36) (.const (.int .i64 0)) 3) 4 (some (1, true)),
 op1 38 (.pick (.tmp 35) (.tmp 37) (.const (.bool false))) 4,
 op1 39 (.unOp .not 4 (.tmp 38)) 4,
 asn 4 39 4] fr st (.seq .ret k)) ∧
 (evK gS fi21 c21_37 fr st k = opsR gS fi21 [mv 42 6 4,
 mv 43 42 4,
 mk (some 44) (.move (.tmp 5)) 3 (some (1, true)),
 mk (some 45) (.binOp .lss 3 (.tmp 44) (.const (.int .i64 0)) 3) 4 (some (1, true)),
 op1 46 (.pick (.tmp 43) (.tmp 45) (.const (.bool false))) 4,
 asn 4 46 4] fr st (.seq .ret k)) ∧
 (evK gS fi21 c21_43 fr st k = opsR gS fi21 [mv 49 6 4,
 mv 50 49 4,
 mk (some 51) (.move (.tmp 5)) 3 (some (1, true)),
 mk (some 52) (.binOp .leq 3 (.tmp 51) (.const (.int .i64 0)) 3) 4 (some (1, true)),
 op1 53 (.pick (.tmp 50) (.tmp 52) (.const (.bool false))) 4,
 asn 4 53 4] fr st (.seq .ret k)) ∧
 (evK gS fi21 c21_49 fr st k = opsR gS fi21 [mv 56 6 4,
 mv 57 56 4,
 mk (some 58) (.move (.tmp 5)) 3 (some (1, true)),
 mk (some 59) (.binOp .gtr 3 (.tmp 58) (.const (.int .i64 0)) 3) 4 (some (1, true)),
 op1 60 (.pick (.tmp 57) (.tmp 59) (.const (.bool false))) 4,
 asn 4 60 4] fr st (.seq .ret k)) ∧
 (evK gS fi21 c21_55 fr st k = opsR gS fi21 [mv 63 6 4,
 mv 64 63 4,
 mk (some 65) (.move (.tmp 5)) 3 (some (1, true)),
 mk (some 66) (.binOp .geq 3 (.tmp 65) (.const (.int .i64 0)) 3) 4 (some (1, true)),
 op1 67 (.pick (.tmp 64) (.tmp 66) (.const (.bool false))) 4,
 asn 4 67 4] fr st (.seq .ret k)) ∧
 (evK gS fi21 c21_63 fr st k = opsR gS fi21 [mv 77 6 4,
 mv 78 77 4,
 mk (some 79) (.move (.tmp 5)) 3 (some (1, true)),
 mk (some 80) (.binOp .geq 3 (.tmp 79) (.const (.int .i64 0)) 3) 4 (some (1, true)),
 op1 81 (.pick (.tmp 78) (.tmp 80) (.const (.bool false))) 4,
 mv 82 81 4,
 mk (some 83) (.move (.tmp 8)) 4 (some (5, true)),
 op1 84 (.pick (.tmp 82) (.tmp 83) (.const (.bool false))) 4,
 mv 85 84 4,
 mk (some 86) (.move (.tmp 7)) 3 (some (8, true)),
 mk (some 87) (.binOp .leq 3 (.tmp 86) (.const (.int .i64 0)) 3) 4 (some (8, true)),
 op1 88 (.pick (.tmp 85) (.tmp 87) (.const (.bool false))) 4,
 asn 4 88 4] fr st (.seq .ret k)) ∧
 (evK gS fi21 c21_61 fr st k = opsR gS fi21 [ld 71 24 3 24,
 op1 72 (.fieldAddr 27 (.tmp 2) 3) 0,
 ld 73 24 72 24,
 cal 74 75 [(.tmp 71), (.tmp 73)] [24, 24] 94,
 mv 70 74 94,
 op1 75 (.extract (.tmp 70) 0) 3,
 op1 76 (.extract (.tmp 70) 1) 4,
 asn 7 75 3,
 asn 8 76 4] fr st (.seq c21_63 k)) ∧
 (evK gS fi21 c21_69 fr st k = opsR gS fi21 [op1 91 (.fieldAddr 24 (.tmp 3) 0) 0,
 ld 92 3 91 3,
 op1 93 (.binOp .eql 3 (.tmp 92) (.const (.int .i64 3)) 3) 4,
 mv 94 93 4,
 mk (some 95) (.fieldAddr 24 (.tmp 3) 3) 0 (some (3, true)),
 mk (some 96) (.load 9 (.tmp 95)) 9 (some (3, true)),
 mk (some 97) (.fieldAddr 27 (.tmp 2) 2) 0 (some (3, true)),
 mk (some 98) (.fieldAddr 24 (.tmp 97) 3) 0 (some (3, true)),
 mk (some 99) (.load 9 (.tmp 98)) 9 (some (3, true)),
 mk (some 100) (.call { callee := (.value (.func 76)), args := #[(.tmp 96), (.tmp 99)], argTypes := #[9, 9] }) 4 (some (3, true)),
 op1 101 (.pick (.tmp 94) (.tmp 100) (.const (.bool false))) 4,
 asn 4 101 4] fr st (.seq .ret k)) ∧
 evK gS fi21 c21_68 fr st k = condK gS fi21 (fr.op (.tmp 89)).bool? c21_69 .skip fr st k ∧
 (evK gS fi21 c21_66 fr st k = opsR gS fi21 [op1 90 (.binOp .eql 3 (.tmp 22) (.const (.int .i64 9)) 3) 4,
 asn 89 90 4] fr st (.seq c21_68 k)) ∧
 evK gS fi21 c21_60 fr st k = condK gS fi21 (fr.op (.tmp 68)).bool? c21_61 c21_66 fr st k ∧
 (evK gS fi21 c21_58 fr st k = opsR gS fi21 [op1 69 (.binOp .eql 3 (.tmp 22) (.const (.int .i64 8)) 3) 4,
 asn 68 69 4] fr st (.seq c21_60 k)) ∧
 evK gS fi21 c21_54 fr st k = condK gS fi21 (fr.op (.tmp 61)).bool? c21_55 c21_58 fr st k ∧
 (evK gS fi21 c21_52 fr st k = opsR gS fi21 [op1 62 (.binOp .eql 3 (.tmp 22) (.const (.int .i64 7)) 3) 4,
 asn 61 62 4] fr st (.seq c21_54 k)) ∧
 evK gS fi21 c21_48 fr st k = condK gS fi21 (fr.op (.tmp 54)).bool? c21_49 c21_52 fr st k ∧
 (evK gS fi21 c21_46 fr st k = opsR gS fi21 [op1 55 (.binOp .eql 3 (.tmp 22) (.const (.int .i64 6)) 3) 4,
 asn 54 55 4] fr st (.seq c21_48 k)) ∧
 evK gS fi21 c21_42 fr st k = condK gS fi21 (fr.op (.tmp 47)).bool? c21_43 c21_46 fr st k ∧
 (evK gS fi21 c21_40 fr st k = opsR gS fi21 [op1 48 (.binOp .eql 3 (.tmp 22) (.const (.int .i64 5)) 3) 4,
 asn 47 48 4] fr st (.seq c21_42 k)) ∧
 evK gS fi21 c21_36 fr st k = condK gS fi21 (fr.op (.tmp 40)).bool? c21_37 c21_40 fr st k ∧
 (evK gS fi21 c21_34 fr st k = opsR gS fi21 [op1 41 (.binOp .eql 3 (.tmp 22) (.const (.int .i64 4)) 3) 4,
 asn 40 41 4] fr st (.seq c21_36 k)) ∧
 evK gS fi21 c21_30 fr st k = condK gS fi21 (fr.op (.tmp 32)).bool? c21_31 c21_34 fr st k ∧
 (evK gS fi21 c21_28 fr st k = opsR gS fi21 [op1 33 (.binOp .eql 3 (.tmp 22) (.const (.int .i64 3)) 3) 4,
 asn 32 33 4] fr st (.seq c21_30 k)) ∧
 evK gS fi21 c21_24 fr st k = condK gS fi21 (fr.op (.tmp 25)).bool? c21_25 c21_28 fr st k ∧
 (evK gS fi21 c21_22 fr st k = opsR gS fi21 [op1 26 (.binOp .eql 3 (.tmp 22) (.const (.int .i64 2)) 3) 4,
 asn 25 26 4] fr st (.seq c21_24 k)) ∧
 evK gS fi21 c21_18 fr st k = condK gS fi21 (fr.op (.tmp 23)).bool? c21_19 c21_22 fr st k ∧
 (evK gS fi21 c21_16 fr st k = opsR gS fi21 [op1 24 (.binOp .eql 3 (.tmp 22) (.const (.int .i64 1)) 3) 4,
 asn 23 24 4] fr st (.seq c21_18 k)) ∧
 evK gS fi21 c21_15 fr st k = evK gS fi21 c21_16 fr st (.blk 0 k) ∧
 (evK gS fi21 c21_13 fr st k = opsR gS fi21 [op1 21 (.fieldAddr 27 (.tmp 2) 1) 0,
 ld 22 3 21 3] fr st (.seq c21_15 k)) ∧
 evK gS fi21 c21_91 fr st k = opsR gS fi21 [op1 4 (.assign (.const (.bool true))) 4] fr st (.seq .ret k) ∧
 evK gS fi21 c21_90 fr st k = condK gS fi21 (fr.op (.tmp 111)).bool? c21_91 .skip fr st k ∧
 (evK gS fi21 c21_88 fr st k = opsR gS fi21 [ld 109 24 3 24,
 ld 110 24 10 24,
 cal 111 32 [(.tmp 109), (.tmp 110)] [24, 24] 4] fr st (.seq c21_90 k)) ∧
 (evK gS fi21 c21_86 fr st k = opsR gS fi21 [ixa 107 25 103 105 0,
 ld 108 24 107 24,
 op1 10 (.alloc 24) 0,
 sto 24 10 108] fr st (.seq c21_88 k)) ∧
 (evK gS fi21 c21_95 fr st k = opsR gS fi21 [op1 112 (.binOp .add 3 (.tmp 105) (.const (.int .i64 1)) 3) 3,
 mv 105 112 3] fr st k) ∧
 evK gS fi21 c21_84 fr st k = evK gS fi21 c21_86 fr st (.blk 2 (.seq c21_95 k)) ∧
 evK gS fi21 c21_80 fr st k = condK gS fi21 (fr.op (.tmp 106)).bool? .skip (.exit 1) fr st (.seq c21_84 k) ∧
 evK gS fi21 c21_78 fr st k = opsR gS fi21 [bop 106 .lss 3 105 104 3 0] fr st (.seq c21_80 k) ∧
 evK gS fi21 c21_76 fr st k = evK gS fi21 c21_77 fr st (.blk 1 k) ∧
 (evK gS fi21 c21_74 fr st k = opsR gS fi21 [op1 102 (.fieldAddr 27 (.tmp 2) 4) 0,
 ld 103 25 102 25,
 len1 104 103 25 3,
 op1 105 (.move (.const (.int .i64 0))) 3] fr st (.seq c21_76 k)) ∧
 evK gS fi21 c21_96 fr st k = opsR gS fi21 [op1 4 (.assign (.const (.bool false))) 4] fr st (.seq .ret k) ∧
 evK gS fi21 c21_73 fr st k = evK gS fi21 c21_74 fr st (.seq c21_96 k) ∧
 evK gS fi21 c21_12 fr st k = evK gS fi21 c21_13 fr st (.seq c21_73 k) ∧
 (evK gS fi21 c21_10 fr st k = opsR gS fi21 [ld 15 24 3 24,
 op1 16 (.fieldAddr 27 (.tmp 2) 2) 0,
 ld 17 24 16 24,
 cal 18 75 [(.tmp 15), (.tmp 17)] [24, 24] 94,
 mv 14 18 94,
 op1 19 (.extract (.tmp 14) 0) 3,
 op1 20 (.extract (.tmp 14) 1) 4,
 asn 5 19 3,
 asn 6 20 4] fr st (.seq c21_12 k)) ∧
 evK gS fi21 c21_2 fr st k = evK gS fi21 c21_3 fr st (.seq c21_10 k) ∧
 (evK gS fi21 c21_0 fr st k = opsR gS fi21 [op1 2 (.box 27 (.tmp 0)) 0,
 op1 3 (.box 24 (.tmp 1)) 0,
 op1 4 (.assign (.const (.bool false))) 4] fr st (.seq c21_2 k)) := ⟨evK_rs 2 rfl (by kernel_rfl), rfl, evK_rs 1 rfl (by kernel_rfl), evK_rs 6 rfl (by kernel_rfl), evK_rs 8 rfl (by kernel_rfl), evK_rs 10 rfl (by kernel_rfl), evK_rs 12 rfl (by kernel_rfl), evK_rs 14 rfl (by kernel_rfl), evK_rs 16 rfl (by kernel_rfl), evK_rs 18 rfl (by kernel_rfl), evK_rs 21 rfl (by kernel_rfl), evK_rs 20 rfl (by kernel_rfl), evK_rs 23 rfl (by kernel_rfl), rfl, evK_rs 22 rfl (by kernel_rfl), rfl, evK_rs 19 rfl (by kernel_rfl), rfl, evK_rs 17 rfl (by kernel_rfl), rfl, evK_rs 15 rfl (by kernel_rfl), rfl, evK_rs 13 rfl (by kernel_rfl), rfl, evK_rs 11 rfl (by kernel_rfl), rfl, evK_rs 9 rfl (by kernel_rfl), rfl, evK_rs 7 rfl (by kernel_rfl), rfl, evK_rs 5 rfl (by kernel_rfl), rfl, evK_rs 4 rfl (by kernel_rfl), evK_rs 28 rfl (by kernel_rfl), rfl, evK_rs 27 rfl (by kernel_rfl), evK_rs 26 rfl (by kernel_rfl), evK_r 29 (by kernel_rfl), rfl, rfl, evK_rs 25 rfl (by kernel_rfl), rfl, evK_rs 24 rfl (by kernel_rfl), evK_rs 30 rfl (by kernel_rfl), rfl, rfl, evK_rs 3 rfl (by kernel_rfl), rfl, evK_rs 0 rfl (by kernel_rfl)⟩
theorem m21 : mini fi21.body = c21_0 := by kernel_rfl
theorem n21_77 (fr : Fr) (st : St) (k : Kt) : nextK gS fi21 (.loop c21_78 k) .normal fr st = evK gS fi21 c21_77 fr st k := rfl
set_option maxHeartbeats 4000000 in
theorem L21_77 (p : Pred) (v : Val) (h_p : p.ok) (st : St) : ∀ (n i : Nat) (j : Int)  (e0 e1 e2 e4 e5 e6 e7 e8 e10 e22 : E) (T : List (Nat × E)) (X : List (Nat × List V)) (ht0 : e0.Tame) (ht1 : e1.Tame) (ht2 : e2.Tame) (ht4 : e4.Tame) (ht5 : e5.Tame) (ht6 : e6.Tame) (ht7 : e7.Tame) (ht8 : e8.Tame) (ht10 : e10.Tame) (ht22 : e22.Tame) (hx3 : lk X 3 = some [.int .i64 v.kind, .int .i64 v.n, .float .f64 v.x, .str v.s, .bool v.b]) , j = (i : Int) → i ≤ (p.set).length → (p.set).length - i = n →
    evK gS fi21 c21_77 { ps := [(0, e0), (1, e1), (2, e2), (3, .lp 3 0), (4, e4), (5, e5), (6, e6), (7, e7), (8, e8), (10, e10), (22, e22), (103, .val (.slice (encVals p.set))), (104, .val (.int .i64 p.set.length)), (105, .val (.int .i64 j))], ts := T, lc := X } st (.blk 1 (.seq c21_96 .nil)) = some ((.ret (.bool ((p.set.drop i).any (vis v))) none), st) := by
  intro n
  have hm : fi21.marks = [] := rfl
  have hl : fi21.locals = [2, 3, 10] := rfl
  have hr : fi21.results = [.tmp 4] := rfl
  have hpo := h_p.2
  induction n with
  | zero =>
    intro i j  e0 e1 e2 e4 e5 e6 e7 e8 e10 e22 T X ht0 ht1 ht2 ht4 ht5 ht6 ht7 ht8 ht10 ht22 hx3  hj hi hn
    obtain rfl : i = (p.set).length := by omega
    subst hj
    refine evK_loop c21_78 _ st _ _ rfl ?_
    simp (config := { contextual := true, maxSteps := 10000000, maxDischargeDepth := 6 }) [-Int.not_le, -Int.not_lt, -Nat.not_le, -Nat.not_lt, ty3, ty4, ty9, ty24, ty25, ty27, eq24, hm, hl, hr, k19, k32, k75, k76, E21, n21_77, ht0, ht1, ht2, ht4, ht5, ht6, ht7, ht8, ht10, ht22, hx3]
    all_goals first | done | grind | omega | (trace_state; fail)
  | succ n ih =>
    intro i j  e0 e1 e2 e4 e5 e6 e7 e8 e10 e22 T X ht0 ht1 ht2 ht4 ht5 ht6 ht7 ht8 ht10 ht22 hx3  hj hi hn
    subst hj
    obtain ⟨x, hx⟩ : ∃ x, (p.set)[i]? = some x := ⟨(p.set)[i]'(by omega), List.getElem?_eq_getElem (by omega)⟩
    have hd := drop_get hx
    have hlt : (i : Int) < ((p.set).length : Int) := by omega
    have hlt2 : i < (p.set).length := by omega
    have hxe : (p.set)[i]'hlt2 = x := by rw [List.getElem?_eq_getElem hlt2] at hx; exact Option.some.inj hx
    have hw : IntKind.wrap .i64 ((i : Int) + 1) = (i : Int) + 1 := wrap64 (by omega) (by omega)
    have IH := fun e0 e1 e2 e4 e5 e6 e7 e8 e10 e22 T X ht0 ht1 ht2 ht4 ht5 ht6 ht7 ht8 ht10 ht22 hx3 => ih (i + 1) ((i : Int) + 1) e0 e1 e2 e4 e5 e6 e7 e8 e10 e22 T X ht0 ht1 ht2 ht4 ht5 ht6 ht7 ht8 ht10 ht22 hx3 rfl (by omega) (by omega)
    refine evK_loop c21_78 _ st _ _ rfl ?_
    simp (config := { contextual := true, maxSteps := 10000000, maxDischargeDepth := 6 }) [-Int.not_le, -Int.not_lt, -Nat.not_le, -Nat.not_lt, ty3, ty4, ty9, ty24, ty25, ty27, eq24, hm, hl, hr, k19, k32, k75, k76, E21, n21_77, ht0, ht1, ht2, ht4, ht5, ht6, ht7, ht8, ht10, ht22, hx3, hx, hxe, hd, hlt, hlt2, hw, IH]
    all_goals first | done | grind | omega | (trace_state; fail)
set_option maxHeartbeats 4000000 in
theorem c21 (p : Pred) (v : Val)  (h_p : Pred.ok p) (st : St) : EvF gS 21 [p.enc, v.enc] st = some (.ret (.bool (ptakes p v)) none, st) := by
  refine EvF_start fi21_eq (fun x h => by cases h) m21 ?_
  rw [st21]
  have hm : fi21.marks = [] := rfl
  have hl : fi21.locals = [2, 3, 10] := rfl
  have hr : fi21.results = [.tmp 4] := rfl
  simp (config := { contextual := true, maxSteps := 10000000, maxDischargeDepth := 6 }) [-Int.not_le, -Int.not_lt, -Nat.not_le, -Nat.not_lt, ty3, ty4, ty9, ty24, ty25, ty27, eq24, hm, hl, hr, k19, k32, k75, k76, E21, n21_77, (fun e0 e1 e2 e4 e5 e6 e7 e8 e10 e22 T X ht0 ht1 ht2 ht4 ht5 ht6 ht7 ht8 ht10 ht22 hx3 => L21_77 p v h_p st _ 0 0  e0 e1 e2 e4 e5 e6 e7 e8 e10 e22 T X ht0 ht1 ht2 ht4 ht5 ht6 ht7 ht8 ht10 ht22 hx3 rfl (Nat.zero_le _) rfl), h_p.1, h_p.2]
  all_goals try simp (config := { contextual := true }) [-Int.not_le, -Int.not_lt, -Nat.not_le, -Nat.not_lt, ptakes]
  all_goals first | done | grind | omega | (trace_state; fail)
theorem k21 (p_name : List UInt8) (p_test : Int) (p_vk : Int) (p_vn : Int) (p_vx : Nat) (p_vs : List UInt8) (p_vb : Bool) (p_wk : Int) (p_wn : Int) (p_wx : Nat) (p_ws : List UInt8) (p_wb : Bool) (p_set : List Val) (v_k : Int) (v_n : Int) (v_x : Nat) (v_s : List UInt8) (v_b : Bool)  (h_p : Pred.ok (⟨p_name, p_test, ⟨p_vk, p_vn, p_vx, p_vs, p_vb⟩, ⟨p_wk, p_wn, p_wx, p_ws, p_wb⟩, p_set⟩ : Pred)) (fr : Fr) (st : St) : callStep gS (EvF gS) 21 [.agg [.str p_name, .int .i64 p_test, .int .i64 p_vk, .int .i64 p_vn, .float .f64 p_vx, .str p_vs, .bool p_vb, .int .i64 p_wk, .int .i64 p_wn, .float .f64 p_wx, .str p_ws, .bool p_wb, .slice (encVals p_set)], .agg [.int .i64 v_k, .int .i64 v_n, .float .f64 v_x, .str v_s, .bool v_b]] fr st = some (.ok (retE none (.bool (ptakes (⟨p_name, p_test, ⟨p_vk, p_vn, p_vx, p_vs, p_vb⟩, ⟨p_wk, p_wn, p_wx, p_ws, p_wb⟩, p_set⟩ : Pred) (⟨v_k, v_n, v_x, v_s, v_b⟩ : Val)))) fr st) :=
  call_pure rfl fi21_eq rfl (fun st => c21 (⟨p_name, p_test, ⟨p_vk, p_vn, p_vx, p_vs, p_vb⟩, ⟨p_wk, p_wn, p_wx, p_ws, p_wb⟩, p_set⟩ : Pred) (⟨v_k, v_n, v_x, v_s, v_b⟩ : Val) h_p st) (by simp)
end
end Go.Proofs.Ytclpbfkbpcjejaa
namespace Go.Ab
open Go
set_option linter.unusedVariables false
set_option linter.unusedSimpArgs false
set_option linter.unnecessarySimpa false
def intVs (l : List Int) : List V := l.map (V.int .i64)
theorem intVs_length (l : List Int) : (intVs l).length = l.length := by simp [intVs]
theorem intVs_get (l : List Int) (i : Nat) : (intVs l)[i]? = (l[i]?).map (V.int .i64) := by simp [intVs]
theorem intVs_gE (l : List Int) (i : Nat) (h : i < (intVs l).length) : (intVs l)[i]'h = .int .i64 (l[i]'(by rw [intVs_length] at h; exact h)) := by simp [intVs]
theorem flats_ints (l : List Int) : flats (intVs l) = true := by
  induction l with
  | nil => rfl
  | cons x r ih => simp only [intVs, List.map_cons, flats, V.flat] at ih ⊢; exact ih
attribute [simp] intVs_length intVs_get intVs_gE flats_ints
def pickI (n m : Int) : Int := if m < 1 then 0 else if n.tmod m < 0 then n.tmod m + m else n.tmod m
theorem tmod_bound (n : Int) {m : Int} (h : 1 ≤ m) : -m < n.tmod m ∧ n.tmod m < m := by
  have b1 := Int.tmod_lt_of_pos n (by omega : 0 < m)
  refine ⟨?_, b1⟩
  rcases Int.lt_or_le n 0 with hk | hk
  · have : n.tmod m = -((-n).tmod m) := by rw [Int.neg_tmod]; omega
    have := Int.tmod_lt_of_pos (-n) (by omega : 0 < m)
    omega
  · have := Int.tmod_nonneg m hk; omega
theorem pickI_bound (n : Int) {m : Int} (h : 1 ≤ m) : 0 ≤ pickI n m ∧ pickI n m < m := by
  have := tmod_bound n h
  unfold pickI
  rw [if_neg (by omega)]
  split <;> omega
/-- The feed's memory. -/
def FeedAt (st : St) (id : Nat) (l : List Int) (a : Nat) : Prop := st.objs[id]? = some [.slice (intVs l), .int .i64 a] ∧ st.wp ≤ id
def setF (st : St) (id : Nat) (l : List Int) (a : Nat) : St := { st with objs := st.objs.set id [.slice (intVs l), .int .i64 a] }
theorem FeedAt.lt {st : St} {id : Nat} {l : List Int} {a : Nat} (h : FeedAt st id l a) : id < st.objs.length := (List.getElem?_eq_some_iff.1 h.1).1
theorem setF_setF (st : St) (id : Nat) (l : List Int) (a b : Nat) : setF (setF st id l a) id l b = setF st id l b := by
  unfold setF; simp
theorem setF_same {st : St} {id : Nat} {l : List Int} {a : Nat} (h : FeedAt st id l a) : setF st id l a = st := by
  unfold setF
  obtain ⟨os, wp⟩ := st
  have h1 : os[id]? = some [.slice (intVs l), .int .i64 a] := h.1
  have h2 : id < os.length := h.lt
  congr 1
  show os.set id _ = os
  apply List.ext_getElem?
  intro j
  rw [List.getElem?_set]
  split
  · rename_i hj; subst hj; rw [h1]
  · rfl
/-- The raw number at a place. -/
def rawAt (l : List Int) (a : Nat) : Int := IntKind.wrap .i64 (IntKind.wrap .i64 ((l.getD (a % l.length) 0).tdiv (1 + (a / l.length : Nat))) + (a / l.length : Nat))
def nextV (l : List Int) (a : Nat) (n : Int) : Int := if l = [] then 0 else pickI (rawAt l a) n
def nextA (l : List Int) (a : Nat) : Nat := if l = [] then a else a + 1
theorem nextV_bound (l : List Int) (a : Nat) {n : Int} (h : 1 ≤ n) : 0 ≤ nextV l a n ∧ nextV l a n < n := by
  unfold nextV; split
  · omega
  · exact pickI_bound _ h
/-- Where a feed stands when it was asked `j` times. -/
def nA (l : List Int) (a j : Nat) : Nat := if l = [] then a else a + j
theorem nA_next (l : List Int) (a j : Nat) : nextA l (nA l a j) = nA l a (j + 1) := by
  unfold nextA nA; split <;> omega
theorem nA_le (l : List Int) (a j : Nat) : nA l a j ≤ a + j := by unfold nA; split <;> omega
def FeedOk (st : St) (id : Nat) : Prop := id < st.objs.length ∧ st.wp ≤ id
theorem feed_at {st : St} {id : Nat} (h : FeedOk st id) (l : List Int) (b : Nat) : FeedAt (setF st id l b) id l b := by
  refine ⟨?_, h.2⟩
  show (st.objs.set id _)[id]? = _
  rw [List.getElem?_set_self h.1]
/-- What a feed yields that was asked `j` times. -/
def fd (l : List Int) (a j : Nat) (n : Int) : Int := nextV l (nA l a j) n
theorem fd_bound (l : List Int) (a j : Nat) {n : Int} (h : 1 ≤ n) : 0 ≤ fd l a j n ∧ fd l a j n < n := nextV_bound _ _ h
def F14 : List Nat := [0, 9223372036854775808, 4607182418800017408, 4609434218613702656, 4611686018427387904, 4613937818241073152, 13830554455654793216, 4591870180066957722, 9221120237041090561, 9218868437227405312, 18442240474082181120, 4845873199050653696, 4890909195324358656, 1]
def floatV (l : List Int) (a j : Nat) : Nat := F14.getD (fd l a j 14).toNat 0
def T6 : List (List UInt8) := [[], [97], [97, 98], [98], [98, 97], [116, 119, 101, 108, 118, 101, 32, 98, 121, 116, 101, 115]]
def N6 : List Int := [-9223372036854775808, 9223372036854775807, 9007199254740992, 9007199254740993, -1, 4611686018427387904]
/-- A right value: of two asks. -/
def valueV (l : List Int) (a j : Nat) : Val :=
  let z := fd l a j 8
  if z = 0 ∨ z = 1 then ⟨2, 0, floatV l a (j + 1), [], false⟩
  else if z = 2 then ⟨3, 0, 0, T6.getD (fd l a (j + 1) 6).toNat [], false⟩
  else if z = 3 then ⟨4, 0, 0, [], fd l a (j + 1) 2 = 1⟩
  else if z = 4 then ⟨1, N6.getD (fd l a (j + 1) 6).toNat 0, 0, [], false⟩
  else ⟨1, fd l a (j + 1) 5, 0, [], false⟩
/-- So many values, one behind the other. -/
def valsV (l : List Int) (a : Nat) : Nat → Nat → List Val
  | _, 0 => []
  | j, k + 1 => valueV l a j :: valsV l a (j + 2) k
def P4 : List (List UInt8) := [[], [97], [98], [97, 98]]
/-- A right test of a name, and how many asks it took. -/
def predV (l : List Int) (a j : Nat) (name : List UInt8) : Pred × Nat :=
  let t := 1 + fd l a j 10
  if t = 1 then (⟨name, 1, vzero, vzero, []⟩, 1)
  else if t = 9 then (⟨name, 9, ⟨3, 0, 0, P4.getD (fd l a (j + 1) 4).toNat [], false⟩, vzero, []⟩, 2)
  else if t = 10 then (⟨name, 10, vzero, vzero, valsV l a (j + 2) ((fd l a (j + 1) 4).toNat + 1)⟩, 2 + 2 * ((fd l a (j + 1) 4).toNat + 1))
  else if t = 8 then (⟨name, 8, valueV l a (j + 1), valueV l a (j + 3), []⟩, 5)
  else (⟨name, t, valueV l a (j + 1), vzero, []⟩, 3)
end Go.Ab
namespace Go.Proofs.Ytclpbfkbpcjejaa
open Go Go.Ab
set_option linter.unusedVariables false
set_option linter.unusedSimpArgs false
set_option linter.unnecessarySimpa false
set_option maxRecDepth 20000
noncomputable section
variable (fr : Fr) (st : St) (k : Kt)
def fi52 : FI := { body := codeOf Try.f52, ntmps := 17, results := [.tmp 4], pers := [0, 1, 4, 5], locals := [], pure := true, marks := [] }
theorem fi52_eq : gS.fn 52 = some fi52 := by kernel_rfl
theorem st52 (a0 a1 : V) : startFr fi52 [a0, a1] = { ps := [(0, .val a0), (1, .val a1), (4, .any), (5, .any)], ts := [], lc := [] } := rfl
def b52 : Code := mini (codeOf Try.f52)
def c52_6 : Code := .seq (codeN b52 37) .ret
def c52_5 : Code := .cond (.tmp 7) c52_6 .skip
def c52_3 : Code := .seq (codeN b52 9) c52_5
def c52_16 : Code := codeN b52 87
def c52_15 : Code := .cond (.tmp 12) c52_16 .skip
def c52_13 : Code := .seq (codeN b52 39) c52_15
def c52_18 : Code := .seq (codeN b52 47) .ret
def c52_12 : Code := .seq c52_13 c52_18
def c52_10 : Code := .seq (codeN b52 11) c52_12
def c52_2 : Code := .seq c52_3 c52_10
def c52_0 : Code := .seq (codeN b52 2) c52_2
theorem E52 : evK gS fi52 c52_6 fr st k = opsR gS fi52 [op1 4 (.assign (.const (.int .i64 0))) 3] fr st (.seq .ret k) ∧
 evK gS fi52 c52_5 fr st k = condK gS fi52 (fr.op (.tmp 7)).bool? c52_6 .skip fr st k ∧
 (evK gS fi52 c52_3 fr st k = opsR gS fi52 [mv 6 1 3,
 op1 7 (.binOp .lss 3 (.tmp 6) (.const (.int .i64 1)) 3) 4] fr st (.seq c52_5 k)) ∧
 (evK gS fi52 c52_16 fr st k = opsR gS fi52 [mv 13 5 3,
 mv 14 1 3,
 bop 15 .add 3 13 14 3 3,
 asn 5 15 3] fr st k) ∧
 evK gS fi52 c52_15 fr st k = condK gS fi52 (fr.op (.tmp 12)).bool? c52_16 .skip fr st k ∧
 (evK gS fi52 c52_13 fr st k = opsR gS fi52 [mv 11 5 3,
 op1 12 (.binOp .lss 3 (.tmp 11) (.const (.int .i64 0)) 3) 4] fr st (.seq c52_15 k)) ∧
 (evK gS fi52 c52_18 fr st k = opsR gS fi52 [mv 16 5 3,
 asn 4 16 3] fr st (.seq .ret k)) ∧
 evK gS fi52 c52_12 fr st k = evK gS fi52 c52_13 fr st (.seq c52_18 k) ∧
 (evK gS fi52 c52_10 fr st k = opsR gS fi52 [mv 8 0 3,
 mv 9 1 3,
 bop 10 .rem 3 8 9 3 3,
 asn 5 10 3] fr st (.seq c52_12 k)) ∧
 evK gS fi52 c52_2 fr st k = evK gS fi52 c52_3 fr st (.seq c52_10 k) ∧
 evK gS fi52 c52_0 fr st k = opsR gS fi52 [op1 4 (.assign (.const (.int .i64 0))) 3] fr st (.seq c52_2 k) := ⟨evK_rs 2 rfl (by kernel_rfl), rfl, evK_rs 1 rfl (by kernel_rfl), evK_r 5 (by kernel_rfl), rfl, evK_rs 4 rfl (by kernel_rfl), evK_rs 6 rfl (by kernel_rfl), rfl, evK_rs 3 rfl (by kernel_rfl), rfl, evK_rs 0 rfl (by kernel_rfl)⟩
theorem m52 : mini fi52.body = c52_0 := by kernel_rfl
set_option maxHeartbeats 4000000 in
theorem c52 (n : Int) (m : Int) (hm1 : m ≤ 4611686018427387904) (st : St) : EvF gS 52 [.int .i64 n, .int .i64 m] st = some (.ret (.int .i64 (pickI n m)) none, st) := by
  refine EvF_start fi52_eq (fun x h => by cases h) m52 ?_
  rw [st52]
  have hm : fi52.marks = [] := rfl
  have hl : fi52.locals = [] := rfl
  have hr : fi52.results = [.tmp 4] := rfl
  by_cases h1 : m < 1
  · simp [h1, pickI, -Int.not_le, -Int.not_lt, -Nat.not_le, -Nat.not_lt, ty3, ty4, hm, hl, hr, E52]
  · have h0 : ¬ m = 0 := by omega
    have hb := tmod_bound n (m := m) (by omega)
    by_cases h2 : n.tmod m < 0
    · have hw : IntKind.wrap .i64 (n.tmod m + m) = n.tmod m + m := wrap64 (by omega) (by omega)
      simp [h1, h0, h2, hw, pickI, -Int.not_le, -Int.not_lt, -Nat.not_le, -Nat.not_lt, ty3, ty4, hm, hl, hr, E52]
    · simp [h1, h0, h2, pickI, -Int.not_le, -Int.not_lt, -Nat.not_le, -Nat.not_lt, ty3, ty4, hm, hl, hr, E52]
theorem k52 (n : Int) (m : Int) (hm1 : m ≤ 4611686018427387904) (fr : Fr) (st : St) : callStep gS (EvF gS) 52 [.int .i64 n, .int .i64 m] fr st = some (.ok (retE none (.int .i64 (pickI n m))) fr st) :=
  call_pure rfl fi52_eq rfl (fun st => c52 n m hm1 st) (by simp)
theorem x52 : gS.ext 52 = none := rfl
theorem p52 : fi52.pure = true := rfl
def fi16 : FI := { body := codeOf Try.f16, ntmps := 61, results := [.tmp 4], pers := [0, 1, 4, 5], locals := [], pure := false, marks := [] }
theorem fi16_eq : gS.fn 16 = some fi16 := by kernel_rfl
theorem st16 (a0 a1 : V) : startFr fi16 [a0, a1] = { ps := [(0, .val a0), (1, .val a1), (4, .any), (5, .any)], ts := [], lc := [] } := rfl
def b16 : Code := mini (codeOf Try.f16)
def c16_6 : Code := .seq (codeN b16 37) .ret
def c16_5 : Code := .cond (.tmp 11) c16_6 .skip
def c16_3 : Code := .seq (codeN b16 9) c16_5
def r16_11 : Array Oper := regOps (codeN (codeOf Try.f16) 11)
def c16_11 : Code := .region 3 r16_11 true
def q16_11 : List (Oper × Fl) := [(mv 12 0 29, ⟨true, false, true, false, false, false, true, true, false, false, []⟩),
 (op1 13 (.nilCheck (.tmp 12)) 0, ⟨true, false, true, false, false, false, true, true, false, false, []⟩),
 (op1 14 (.fieldAddr 31 (.tmp 13) 0) 0, ⟨true, false, true, false, false, false, true, true, false, false, []⟩),
 (ld 15 28 14 28, ⟨true, false, true, false, false, false, true, true, false, false, []⟩),
 (mv 16 0 29, ⟨true, false, true, false, false, false, true, true, false, false, []⟩),
 (op1 17 (.nilCheck (.tmp 16)) 0, ⟨true, false, true, false, false, false, true, true, false, false, []⟩),
 (op1 18 (.fieldAddr 31 (.tmp 17) 1) 0, ⟨true, false, true, false, false, false, true, true, false, false, []⟩),
 (ld 19 3 18 3, ⟨true, false, true, false, false, false, true, true, false, false, []⟩),
 (mv 20 0 29, ⟨true, false, true, false, false, false, true, true, false, false, []⟩),
 (op1 21 (.nilCheck (.tmp 20)) 0, ⟨true, false, true, false, false, false, true, true, false, false, []⟩),
 (op1 22 (.fieldAddr 31 (.tmp 21) 0) 0, ⟨true, false, true, false, false, false, true, true, false, false, []⟩),
 (ld 23 28 22 28, ⟨true, false, true, false, false, false, true, true, false, false, []⟩),
 (len1 24 23 28 3, ⟨true, false, true, false, false, false, true, true, false, false, []⟩),
 (bop 25 .rem 3 19 24 3 3, ⟨true, false, true, false, false, false, true, true, false, false, []⟩),
 (ixa 26 28 15 25 0, ⟨true, false, true, false, false, false, true, true, false, false, []⟩),
 (ld 27 3 26 3, ⟨true, false, true, false, false, false, true, true, false, false, []⟩),
 (mv 28 0 29, ⟨true, false, true, false, false, false, true, true, false, false, []⟩),
 (op1 29 (.nilCheck (.tmp 28)) 0, ⟨true, false, true, false, false, false, true, true, false, false, []⟩),
 (op1 30 (.fieldAddr 31 (.tmp 29) 1) 0, ⟨true, false, true, false, false, false, true, true, false, false, []⟩),
 (ld 31 3 30 3, ⟨true, false, true, false, false, false, true, true, false, false, []⟩),
 (mv 32 0 29, ⟨true, false, true, false, false, false, true, true, false, false, []⟩),
 (op1 33 (.nilCheck (.tmp 32)) 0, ⟨true, false, true, false, false, false, true, true, false, false, []⟩),
 (op1 34 (.fieldAddr 31 (.tmp 33) 0) 0, ⟨true, false, true, false, false, false, true, true, false, false, []⟩),
 (ld 35 28 34 28, ⟨true, false, true, false, false, false, true, true, false, false, []⟩),
 (len1 36 35 28 3, ⟨true, false, true, false, false, false, true, true, false, false, []⟩),
 (bop 37 .quo 3 31 36 3 3, ⟨true, false, true, false, false, false, true, true, false, false, []⟩),
 (op1 38 (.binOp .add 3 (.const (.int .i64 1)) (.tmp 37) 3) 3, ⟨true, false, true, false, false, false, true, true, false, false, []⟩),
 (bop 39 .quo 3 27 38 3 3, ⟨true, false, true, false, false, false, true, true, false, false, []⟩),
 (mv 40 0 29, ⟨true, false, true, false, false, false, true, true, false, false, []⟩),
 (op1 41 (.nilCheck (.tmp 40)) 0, ⟨true, false, true, false, false, false, true, true, false, false, []⟩),
 (op1 42 (.fieldAddr 31 (.tmp 41) 1) 0, ⟨true, false, true, false, false, false, true, true, false, false, []⟩),
 (ld 43 3 42 3, ⟨true, false, true, false, false, false, true, true, false, false, []⟩),
 (mv 44 0 29, ⟨true, false, true, false, false, false, true, true, false, false, []⟩),
 (op1 45 (.nilCheck (.tmp 44)) 0, ⟨true, false, true, false, false, false, true, true, false, false, []⟩),
 (op1 46 (.fieldAddr 31 (.tmp 45) 0) 0, ⟨true, false, true, false, true, false, true, true, false, false, []⟩),
 (ld 47 28 46 28, ⟨true, false, true, false, true, false, true, true, false, false, []⟩),
 (len1 48 47 28 3, ⟨true, false, true, false, true, false, true, true, false, false, []⟩),
 (bop 49 .quo 3 43 48 3 3, ⟨true, false, true, false, true, false, true, true, false, false, []⟩),
 (bop 50 .add 3 39 49 3 3, ⟨true, false, true, false, true, false, true, true, false, false, []⟩),
 (asn 5 50 3, ⟨true, true, true, false, true, false, true, true, false, false, []⟩)]
def c16_14 : Code := .seq (codeN b16 47) .ret
def c16_12 : Code := .seq (codeN b16 23) c16_14
def c16_10 : Code := .seq c16_11 c16_12
def c16_2 : Code := .seq c16_3 c16_10
def c16_0 : Code := .seq (codeN b16 2) c16_2
theorem E16 : evK gS fi16 c16_6 fr st k = opsR gS fi16 [op1 4 (.assign (.const (.int .i64 0))) 3] fr st (.seq .ret k) ∧
 evK gS fi16 c16_5 fr st k = condK gS fi16 (fr.op (.tmp 11)).bool? c16_6 .skip fr st k ∧
 (evK gS fi16 c16_3 fr st k = opsR gS fi16 [mv 6 0 29,
 op1 7 (.nilCheck (.tmp 6)) 0,
 op1 8 (.fieldAddr 31 (.tmp 7) 0) 0,
 ld 9 28 8 28,
 len1 10 9 28 3,
 op1 11 (.binOp .eql 3 (.tmp 10) (.const (.int .i64 0)) 3) 4] fr st (.seq c16_5 k)) ∧
 evK gS fi16 c16_11 fr st k = drwR gS fi16 r16_11 q16_11 fr st k ∧
 (evK gS fi16 c16_14 fr st k = opsR gS fi16 [mv 58 5 3,
 mv 59 1 3,
 cal 60 52 [(.tmp 58), (.tmp 59)] [3, 3] 3,
 asn 4 60 3] fr st (.seq .ret k)) ∧
 (evK gS fi16 c16_12 fr st k = opsR gS fi16 [mv 51 0 29,
 op1 52 (.nilCheck (.tmp 51)) 0,
 op1 53 (.fieldAddr 31 (.tmp 52) 1) 0,
 ld 54 3 53 3,
 op1 55 (.binOp .add 3 (.tmp 54) (.const (.int .i64 1)) 3) 3,
 op1 56 (.nilCheck (.tmp 51)) 0,
 op1 57 (.fieldAddr 31 (.tmp 56) 1) 0,
 sto 3 57 55] fr st (.seq c16_14 k)) ∧
 evK gS fi16 c16_10 fr st k = evK gS fi16 c16_11 fr st (.seq c16_12 k) ∧
 evK gS fi16 c16_2 fr st k = evK gS fi16 c16_3 fr st (.seq c16_10 k) ∧
 evK gS fi16 c16_0 fr st k = opsR gS fi16 [op1 4 (.assign (.const (.int .i64 0))) 3] fr st (.seq c16_2 k) := ⟨evK_rs 2 rfl (by kernel_rfl), rfl, evK_rs 1 rfl (by kernel_rfl), evK_dr 3 rfl (by kernel_rfl) (by kernel_rfl), evK_rs 5 rfl (by kernel_rfl), evK_rs 4 rfl (by kernel_rfl), rfl, rfl, evK_rs 0 rfl (by kernel_rfl)⟩
theorem m16 : mini fi16.body = c16_0 := by kernel_rfl
set_option maxHeartbeats 8000000 in
theorem c16 (l : List Int) (a id : Nat) (n : Int) (st : St) (h : FeedAt st id l a) (ha : a < 1099511627776) (hn : n ≤ 4611686018427387904) :
    EvF gS 16 [.ptr id 0, .int .i64 n] st = some (.ret (.int .i64 (nextV l a n)) none, setF st id l (nextA l a)) := by
  refine EvF_start fi16_eq (fun x h => by cases h) m16 ?_
  rw [st16]
  have hm : fi16.marks = [] := rfl
  have hl : fi16.locals = [] := rfl
  have hr : fi16.results = [.tmp 4] := rfl
  have ho := h.1
  have hwp : ¬ id < st.wp := by have := h.2; omega
  have hwp2 : st.wp ≤ id := h.2
  have hid := h.lt
  by_cases hne : l = []
  · subst hne
    have hs : setF st id [] a = st := setF_same h
    simp [nextV, nextA, hs, ho, -Int.not_le, -Int.not_lt, -Nat.not_le, -Nat.not_lt, ty3, ty4, ty28, ty29, ty31, hm, hl, hr, k52, x52, fi52_eq, p52, E16, q16_11]
  · have hlen : 0 < l.length := by cases l with | nil => exact (hne rfl).elim | cons _ _ => simp
    have e0 : ¬ (l.length : Int) = 0 := by omega
    have e1 : ((a : Nat) : Int).tmod (l.length : Int) = ((a % l.length : Nat) : Int) := by rw [Int.tmod_eq_emod_of_nonneg (by omega)]; omega
    have e2 : ((a : Nat) : Int).tdiv (l.length : Int) = ((a / l.length : Nat) : Int) := by rw [Int.tdiv_eq_ediv_of_nonneg (by omega)]; omega
    have e3 := Nat.mod_lt a hlen
    have e4 : a / l.length ≤ a := Nat.div_le_self _ _
    have hx : l[a % l.length]? = some (l.getD (a % l.length) 0) := by
      rw [List.getElem?_eq_getElem e3, List.getD_eq_getElem?_getD, List.getElem?_eq_getElem e3]; rfl
    have ea : IntKind.wrap .i64 ((a : Int) + 1) = (a : Int) + 1 := wrap64 (by omega) (by omega)
    have hxe : l[a % l.length]'e3 = l.getD (a % l.length) 0 := by rw [List.getElem?_eq_getElem e3] at hx; exact Option.some.inj hx
    simp only [nextV, nextA, hne, if_false, rawAt]
    generalize l.getD (a % l.length) 0 = x at *
    generalize a % l.length = rr at *
    generalize a / l.length = qq at *
    have e5 : IntKind.wrap .i64 (qq : Int) = (qq : Int) := wrap64 (by omega) (by omega)
    have e6 : IntKind.wrap .i64 (1 + (qq : Int)) = 1 + (qq : Int) := wrap64 (by omega) (by omega)
    have e7 : ¬ (1 + (qq : Int)) = 0 := by omega
    simp [-Int.natCast_emod, -Int.natCast_ediv, setF, ho, hne, e0, e1, e2, e3, e5, e6, e7, hx, hxe, ea, hn, hwp, hwp2, -Int.not_le, -Int.not_lt, -Nat.not_le, -Nat.not_lt, ty3, ty4, ty28, ty29, ty31, hm, hl, hr, k52, x52, fi52_eq, p52, E16, q16_11]
theorem k16 (l : List Int) (a j id : Nat) (n : Int) (fr : Fr) (st : St) (h : FeedOk st id) (ha : a < 549755813888) (hj : j < 549755813888) (hn : n ≤ 4611686018427387904) :
    callStep gS (EvF gS) 16 [.ptr id 0, .int .i64 n] fr (setF st id l (nA l a j)) = some (.ok (.val (.int .i64 (fd l a j n))) (fr.map E.noMem) (setF st id l (nA l a (j + 1)))) := by
  have hc := c16 l (nA l a j) id n (setF st id l (nA l a j)) (feed_at h l _) (by have := nA_le l a j; omega) hn
  rw [setF_setF, nA_next] at hc
  unfold callStep
  simp only [show gS.ext 16 = none from rfl, fi16_eq, show fi16.pure = false from rfl, Bool.false_eq_true, if_false, hc, retE]
  rfl
end
end Go.Proofs.Ytclpbfkbpcjejaa
namespace Go.Proofs.Ytclpbfkbpcjejaa
open Go Go.Ab
set_option linter.unusedVariables false
set_option linter.unusedSimpArgs false
set_option linter.unnecessarySimpa false
set_option maxRecDepth 20000
noncomputable section
variable (fr : Fr) (st : St) (k : Kt)
theorem kCopy (fr : Fr) (st : St) : callStep gS (EvF gS) 100 [.float .f64 0, .float .f64 13830554455654793216] fr st = some (.ok (.val (.float .f64 9223372036854775808)) fr st) := by
  have hc : EvF gS 100 [.float .f64 0, .float .f64 13830554455654793216] ⟨[], 0⟩ = some (.ret (.float .f64 9223372036854775808) none, ⟨[], 0⟩) := Evn.lim ⟨12, fun n hn => by
    obtain ⟨m, rfl⟩ : ∃ m, n = m + 12 := ⟨n - 12, by omega⟩
    kernel_rfl⟩
  obtain ⟨fi, hf, hp⟩ : ∃ fi, gS.fn 100 = some fi ∧ fi.pure = true := by
    refine ⟨(gS.fn 100).getD ⟨.skip, 0, [], [], [], false, []⟩, by kernel_rfl, by kernel_rfl⟩
  unfold callStep
  simp only [show gS.ext 100 = none from rfl, hf, hp, if_true, show flats [.float .f64 0, .float .f64 13830554455654793216] = true from by simp, hc, show V.flat (.float .f64 9223372036854775808) = true from rfl]
  rfl
theorem kNaN (fr : Fr) (st : St) : callStep gS (EvF gS) 101 [] fr st = some (.ok (.val (.float .f64 9221120237041090561)) fr st) := by
  have hc : EvF gS 101 [] ⟨[], 0⟩ = some (.ret (.float .f64 9221120237041090561) none, ⟨[], 0⟩) := Evn.lim ⟨12, fun n hn => by
    obtain ⟨m, rfl⟩ : ∃ m, n = m + 12 := ⟨n - 12, by omega⟩
    kernel_rfl⟩
  obtain ⟨fi, hf, hp⟩ : ∃ fi, gS.fn 101 = some fi ∧ fi.pure = true := by
    refine ⟨(gS.fn 101).getD ⟨.skip, 0, [], [], [], false, []⟩, by kernel_rfl, by kernel_rfl⟩
  unfold callStep
  simp only [show gS.ext 101 = none from rfl, hf, hp, if_true, show flats [] = true from by simp, hc, show V.flat (.float .f64 9221120237041090561) = true from rfl]
  rfl
theorem kInf (fr : Fr) (st : St) : callStep gS (EvF gS) 102 [.int .i64 1] fr st = some (.ok (.val (.float .f64 9218868437227405312)) fr st) := by
  have hc : EvF gS 102 [.int .i64 1] ⟨[], 0⟩ = some (.ret (.float .f64 9218868437227405312) none, ⟨[], 0⟩) := Evn.lim ⟨12, fun n hn => by
    obtain ⟨m, rfl⟩ : ∃ m, n = m + 12 := ⟨n - 12, by omega⟩
    kernel_rfl⟩
  obtain ⟨fi, hf, hp⟩ : ∃ fi, gS.fn 102 = some fi ∧ fi.pure = true := by
    refine ⟨(gS.fn 102).getD ⟨.skip, 0, [], [], [], false, []⟩, by kernel_rfl, by kernel_rfl⟩
  unfold callStep
  simp only [show gS.ext 102 = none from rfl, hf, hp, if_true, show flats [.int .i64 1] = true from by simp, hc, show V.flat (.float .f64 9218868437227405312) = true from rfl]
  rfl
theorem kInf2 (fr : Fr) (st : St) : callStep gS (EvF gS) 102 [.int .i64 (-1)] fr st = some (.ok (.val (.float .f64 18442240474082181120)) fr st) := by
  have hc : EvF gS 102 [.int .i64 (-1)] ⟨[], 0⟩ = some (.ret (.float .f64 18442240474082181120) none, ⟨[], 0⟩) := Evn.lim ⟨12, fun n hn => by
    obtain ⟨m, rfl⟩ : ∃ m, n = m + 12 := ⟨n - 12, by omega⟩
    kernel_rfl⟩
  obtain ⟨fi, hf, hp⟩ : ∃ fi, gS.fn 102 = some fi ∧ fi.pure = true := by
    refine ⟨(gS.fn 102).getD ⟨.skip, 0, [], [], [], false, []⟩, by kernel_rfl, by kernel_rfl⟩
  unfold callStep
  simp only [show gS.ext 102 = none from rfl, hf, hp, if_true, show flats [.int .i64 (-1)] = true from by simp, hc, show V.flat (.float .f64 18442240474082181120) = true from rfl]
  rfl
def fi66 : FI := { body := codeOf Try.f66, ntmps := 13, results := [.tmp 2], pers := [0, 2, 3], locals := [3], pure := false, marks := [] }
theorem fi66_eq : gS.fn 66 = some fi66 := by kernel_rfl
theorem st66 (a0 : V) : startFr fi66 [a0] = { ps := [(0, .val a0), (2, .any), (3, .any)], ts := [], lc := [] } := rfl
def b66 : Code := mini (codeOf Try.f66)
def c66_4 : Code := .seq (codeN b66 11) .ret
theorem e66_4 : evK gS fi66 c66_4 fr st k = opsR gS fi66 [mv 9 0 29,
 cal 10 16 [(.tmp 9), (.const (.int .i64 14))] [29, 3] 3,
 ixa 11 117 3 10 0,
 ld 12 22 11 22,
 asn 2 12 22] fr st (.seq .ret k) := evK_rs 2 rfl (by kernel_rfl)
def c66_2 : Code := .seq (codeN b66 5) c66_4
theorem e66_2 : evK gS fi66 c66_2 fr st k = opsR gS fi66 [cal 4 100 [(.const (.float .f64 0)), (.const (.float .f64 13830554455654793216))] [22, 22] 22,
 cal 5 101 [] [] 22,
 cal 6 102 [(.const (.int .i64 1))] [3] 22,
 cal 7 102 [(.const (.int .i64 (-1)))] [3] 22,
 op1 8 (.build 117 #[(0, (.const (.float .f64 0))), (1, (.tmp 4)), (2, (.const (.float .f64 4607182418800017408))), (3, (.const (.float .f64 4609434218613702656))), (4, (.const (.float .f64 4611686018427387904))), (5, (.const (.float .f64 4613937818241073152))), (6, (.const (.float .f64 13830554455654793216))), (7, (.const (.float .f64 4591870180066957722))), (8, (.tmp 5)), (9, (.tmp 6)), (10, (.tmp 7)), (11, (.const (.float .f64 4845873199050653696))), (12, (.const (.float .f64 4890909195324358656))), (13, (.const (.float .f64 1)))]) 117,
 op1 3 (.alloc 117) 0,
 sto 117 3 8] fr st (.seq c66_4 k) := evK_rs 1 rfl (by kernel_rfl)
def c66_0 : Code := .seq (codeN b66 2) c66_2
theorem e66_0 : evK gS fi66 c66_0 fr st k = opsR gS fi66 [op1 2 (.assign (.const (.float .f64 0))) 22] fr st (.seq c66_2 k) := evK_rs 0 rfl (by kernel_rfl)
theorem m66 : mini fi66.body = c66_0 := by kernel_rfl
set_option maxHeartbeats 8000000 in
theorem c66 (l : List Int) (a j id : Nat) (st : St) (h : FeedOk st id) (ha : a < 549755813888) (hj : j < 549755813888) :
    EvF gS 66 [.ptr id 0] (setF st id l (nA l a j)) = some (.ret (.float .f64 (floatV l a j)) none, setF st id l (nA l a (j + 1))) := by
  refine EvF_start fi66_eq (fun x h => by cases h) m66 ?_
  rw [st66]
  have hm : fi66.marks = [] := rfl
  have hl : fi66.locals = [3] := rfl
  have hr : fi66.results = [.tmp 2] := rfl
  have hb := fd_bound l a j (n := 14) (by omega)
  unfold floatV
  have hk := fun fr => k16 l a j id 14 fr st h ha hj (by omega)
  generalize fd l a j 14 = z at *
  have hz : z = 0 ∨ z = 1 ∨ z = 2 ∨ z = 3 ∨ z = 4 ∨ z = 5 ∨ z = 6 ∨ z = 7 ∨ z = 8 ∨ z = 9 ∨ z = 10 ∨ z = 11 ∨ z = 12 ∨ z = 13 := by omega
  rcases hz with rfl | rfl | rfl | rfl | rfl | rfl | rfl | rfl | rfl | rfl | rfl | rfl | rfl | rfl <;>
    simp [F14, hk, -Int.not_le, -Int.not_lt, -Nat.not_le, -Nat.not_lt, ty3, ty22, ty29, ty117, hm, hl, hr, kCopy, kNaN, kInf, kInf2, e66_4, e66_2, e66_0]
theorem k66 (l : List Int) (a j id : Nat) (fr : Fr) (st : St) (h : FeedOk st id) (ha : a < 549755813888) (hj : j < 549755813000) :
    callStep gS (EvF gS) 66 [.ptr id 0] fr (setF st id l (nA l a j)) = some (.ok (.val (.float .f64 (floatV l a j))) (fr.map E.noMem) (setF st id l (nA l a (j + 1)))) := by
  unfold callStep
  simp only [show gS.ext 66 = none from rfl, fi66_eq, show fi66.pure = false from rfl, Bool.false_eq_true, if_false, c66 l a j id st h ha (by omega), retE]
  all_goals rfl
def fi17 : FI := { body := codeOf Try.f17, ntmps := 38, results := [.cell 2 24], pers := [0, 2, 3, 4, 6, 7], locals := [2, 3, 4], pure := false, marks := [] }
theorem fi17_eq : gS.fn 17 = some fi17 := by kernel_rfl
theorem st17 (a0 : V) : startFr fi17 [a0] = { ps := [(0, .val a0), (2, .any), (3, .any), (4, .any), (6, .any), (7, .any)], ts := [], lc := [] } := rfl
def b17 : Code := mini (codeOf Try.f17)
def c17_11 : Code := codeN b17 229
def c17_9 : Code := .cond (.tmp 7) .skip c17_11
def c17_7 : Code := .seq (codeN b17 69) c17_9
def c17_13 : Code := .seq (codeN b17 149) .ret
def c17_21 : Code := .seq (codeN b17 1397) .ret
def c17_19 : Code := .seq (codeN b17 629) c17_21
def c17_27 : Code := .seq (codeN b17 2549) .ret
def c17_35 : Code := .seq (codeN b17 22517) .ret
def c17_33 : Code := .seq (codeN b17 10229) c17_35
def c17_32 : Code := .cond (.tmp 27) c17_33 .skip
def c17_30 : Code := .seq (codeN b17 3061) c17_32
def c17_26 : Code := .cond (.tmp 21) c17_27 c17_30
def c17_24 : Code := .seq (codeN b17 757) c17_26
def c17_18 : Code := .cond (.tmp 13) c17_19 c17_24
def c17_16 : Code := .seq (codeN b17 181) c17_18
def c17_12 : Code := .cond (.tmp 7) c17_13 c17_16
def c17_6 : Code := .seq c17_7 c17_12
def c17_5 : Code := .block 0 c17_6
def c17_3 : Code := .seq (codeN b17 9) c17_5
def c17_39 : Code := .seq (codeN b17 11) .ret
def c17_2 : Code := .seq c17_3 c17_39
def c17_0 : Code := .seq (codeN b17 2) c17_2
theorem E17 : (evK gS fi17 c17_11 fr st k = opsR gS fi17 [op1 9 (.binOp .eql 3 (.tmp 6) (.const (.int .i64 1)) 3) 4,
 asn 7 9 4] fr st k) ∧
 evK gS fi17 c17_9 fr st k = condK gS fi17 (fr.op (.tmp 7)).bool? .skip c17_11 fr st k ∧
 (evK gS fi17 c17_7 fr st k = opsR gS fi17 [op1 8 (.binOp .eql 3 (.tmp 6) (.const (.int .i64 0)) 3) 4,
 asn 7 8 4] fr st (.seq c17_9 k)) ∧
 (evK gS fi17 c17_13 fr st k = opsR gS fi17 [mv 10 0 29,
 cal 11 66 [(.tmp 10)] [29] 22,
 op1 12 (.build 24 #[(0, (.const (.int .i64 2))), (2, (.tmp 11))]) 24,
 sto 24 2 12] fr st (.seq .ret k)) ∧
 (evK gS fi17 c17_21 fr st k = opsR gS fi17 [mv 16 0 29,
 cal 17 16 [(.tmp 16), (.const (.int .i64 6))] [29, 3] 3,
 ixa 18 89 3 17 0,
 ld 19 9 18 9,
 op1 20 (.build 24 #[(0, (.const (.int .i64 3))), (3, (.tmp 19))]) 24,
 sto 24 2 20] fr st (.seq .ret k)) ∧
 (evK gS fi17 c17_19 fr st k = opsR gS fi17 [op1 15 (.build 89 #[(0, (.const (.string { data := #[] }))), (1, (.const (.string { data := #[97] }))), (2, (.const (.string { data := #[97, 98] }))), (3, (.const (.string { data := #[98] }))), (4, (.const (.string { data := #[98, 97] }))), (5, (.const (.string { data := #[116, 119, 101, 108, 118, 101, 32, 98, 121, 116, 101, 115] })))]) 89,
 op1 3 (.alloc 89) 0,
 sto 89 3 15] fr st (.seq c17_21 k)) ∧
 (evK gS fi17 c17_27 fr st k = opsR gS fi17 [mv 23 0 29,
 cal 24 16 [(.tmp 23), (.const (.int .i64 2))] [29, 3] 3,
 op1 25 (.binOp .eql 3 (.tmp 24) (.const (.int .i64 1)) 3) 4,
 op1 26 (.build 24 #[(0, (.const (.int .i64 4))), (4, (.tmp 25))]) 24,
 sto 24 2 26] fr st (.seq .ret k)) ∧
 (evK gS fi17 c17_35 fr st k = opsR gS fi17 [mv 30 0 29,
 cal 31 16 [(.tmp 30), (.const (.int .i64 6))] [29, 3] 3,
 ixa 32 90 4 31 0,
 ld 33 2 32 2,
 op1 34 (.build 24 #[(0, (.const (.int .i64 1))), (1, (.tmp 33))]) 24,
 sto 24 2 34] fr st (.seq .ret k)) ∧
 (evK gS fi17 c17_33 fr st k = opsR gS fi17 [op1 29 (.build 90 #[(0, (.const (.int .i64 (-9223372036854775808)))), (1, (.const (.int .i64 9223372036854775807))), (2, (.const (.int .i64 9007199254740992))), (3, (.const (.int .i64 9007199254740993))), (4, (.const (.int .i64 (-1)))), (5, (.const (.int .i64 4611686018427387904)))]) 90,
 op1 4 (.alloc 90) 0,
 sto 90 4 29] fr st (.seq c17_35 k)) ∧
 evK gS fi17 c17_32 fr st k = condK gS fi17 (fr.op (.tmp 27)).bool? c17_33 .skip fr st k ∧
 (evK gS fi17 c17_30 fr st k = opsR gS fi17 [op1 28 (.binOp .eql 3 (.tmp 6) (.const (.int .i64 4)) 3) 4,
 asn 27 28 4] fr st (.seq c17_32 k)) ∧
 evK gS fi17 c17_26 fr st k = condK gS fi17 (fr.op (.tmp 21)).bool? c17_27 c17_30 fr st k ∧
 (evK gS fi17 c17_24 fr st k = opsR gS fi17 [op1 22 (.binOp .eql 3 (.tmp 6) (.const (.int .i64 3)) 3) 4,
 asn 21 22 4] fr st (.seq c17_26 k)) ∧
 evK gS fi17 c17_18 fr st k = condK gS fi17 (fr.op (.tmp 13)).bool? c17_19 c17_24 fr st k ∧
 (evK gS fi17 c17_16 fr st k = opsR gS fi17 [op1 14 (.binOp .eql 3 (.tmp 6) (.const (.int .i64 2)) 3) 4,
 asn 13 14 4] fr st (.seq c17_18 k)) ∧
 evK gS fi17 c17_12 fr st k = condK gS fi17 (fr.op (.tmp 7)).bool? c17_13 c17_16 fr st k ∧
 evK gS fi17 c17_6 fr st k = evK gS fi17 c17_7 fr st (.seq c17_12 k) ∧
 evK gS fi17 c17_5 fr st k = evK gS fi17 c17_6 fr st (.blk 0 k) ∧
 (evK gS fi17 c17_3 fr st k = opsR gS fi17 [mv 5 0 29,
 cal 6 16 [(.tmp 5), (.const (.int .i64 8))] [29, 3] 3] fr st (.seq c17_5 k)) ∧
 (evK gS fi17 c17_39 fr st k = opsR gS fi17 [mv 35 0 29,
 cal 36 16 [(.tmp 35), (.const (.int .i64 5))] [29, 3] 3,
 op1 37 (.build 24 #[(0, (.const (.int .i64 1))), (1, (.tmp 36))]) 24,
 sto 24 2 37] fr st (.seq .ret k)) ∧
 evK gS fi17 c17_2 fr st k = evK gS fi17 c17_3 fr st (.seq c17_39 k) ∧
 evK gS fi17 c17_0 fr st k = opsR gS fi17 [op1 2 (.alloc 24) 0] fr st (.seq c17_2 k) := ⟨evK_r 3 (by kernel_rfl), rfl, evK_rs 2 rfl (by kernel_rfl), evK_rs 4 rfl (by kernel_rfl), evK_rs 7 rfl (by kernel_rfl), evK_rs 6 rfl (by kernel_rfl), evK_rs 9 rfl (by kernel_rfl), evK_rs 12 rfl (by kernel_rfl), evK_rs 11 rfl (by kernel_rfl), rfl, evK_rs 10 rfl (by kernel_rfl), rfl, evK_rs 8 rfl (by kernel_rfl), rfl, evK_rs 5 rfl (by kernel_rfl), rfl, rfl, rfl, evK_rs 1 rfl (by kernel_rfl), evK_rs 13 rfl (by kernel_rfl), rfl, evK_rs 0 rfl (by kernel_rfl)⟩
theorem m17 : mini fi17.body = c17_0 := by kernel_rfl
set_option maxHeartbeats 8000000 in
theorem c17 (l : List Int) (a j id : Nat) (st : St) (h : FeedOk st id) (ha : a < 549755813888) (hj : j < 549755812000) :
    EvF gS 17 [.ptr id 0] (setF st id l (nA l a j)) = some (.ret (valueV l a j).enc none, setF st id l (nA l a (j + 2))) := by
  refine EvF_start fi17_eq (fun x h => by cases h) m17 ?_
  rw [st17]
  have hm : fi17.marks = [] := rfl
  have hl : fi17.locals = [2, 3, 4] := rfl
  have hr : fi17.results = [.cell 2 24] := rfl
  have hb := fd_bound l a j (n := 8) (by omega)
  have hb6 := fd_bound l a (j + 1) (n := 6) (by omega)
  unfold valueV
  have hk := fun fr => k16 l a j id 8 fr st h ha (by omega) (by omega)
  have hk6 := fun fr => k16 l a (j + 1) id 6 fr st h ha (by omega) (by omega)
  have hk2 := fun fr => k16 l a (j + 1) id 2 fr st h ha (by omega) (by omega)
  have hk5 := fun fr => k16 l a (j + 1) id 5 fr st h ha (by omega) (by omega)
  have hf1 := fun fr => k66 l a (j + 1) id fr st h ha (by omega)
  generalize fd l a j 8 = z at *
  generalize fd l a (j + 1) 6 = y at *
  have hz : z = 0 ∨ z = 1 ∨ z = 2 ∨ z = 3 ∨ z = 4 ∨ z = 5 ∨ z = 6 ∨ z = 7 := by omega
  have hy : y = 0 ∨ y = 1 ∨ y = 2 ∨ y = 3 ∨ y = 4 ∨ y = 5 := by omega
  rcases hz with rfl | rfl | rfl | rfl | rfl | rfl | rfl | rfl
  case inr.inr.inl => rcases hy with rfl | rfl | rfl | rfl | rfl | rfl <;> simp [T6, hk, hk6, hk2, hk5, hf1, -Int.not_le, -Int.not_lt, -Nat.not_le, -Nat.not_lt, ty2, ty3, ty4, ty9, ty22, ty24, ty29, ty89, ty90, eq24, hm, hl, hr, E17]
  case inr.inr.inr.inr.inl => rcases hy with rfl | rfl | rfl | rfl | rfl | rfl <;> simp [N6, hk, hk6, hk2, hk5, hf1, -Int.not_le, -Int.not_lt, -Nat.not_le, -Nat.not_lt, ty2, ty3, ty4, ty9, ty22, ty24, ty29, ty89, ty90, eq24, hm, hl, hr, E17]
  all_goals simp [hk, hk6, hk2, hk5, hf1, -Int.not_le, -Int.not_lt, -Nat.not_le, -Nat.not_lt, ty2, ty3, ty4, ty9, ty22, ty24, ty29, ty89, ty90, eq24, hm, hl, hr, E17]
end
end Go.Proofs.Ytclpbfkbpcjejaa
namespace Go.Ab
open Go
set_option linter.unusedVariables false
set_option linter.unusedSimpArgs false
set_option linter.unnecessarySimpa false
/-- So many objects more that are given up. -/
def dd (st : St) (m : Nat) : St := { st with objs := st.objs ++ List.replicate m [] }
/-- And one behind them. -/
def nw (st : St) (m : Nat) (cs : List V) : St := { st with objs := st.objs ++ (List.replicate m [] ++ [cs]) }
theorem dd_zero (st : St) : dd st 0 = st := by unfold dd; simp
theorem dd_len (st : St) (m : Nat) : (dd st m).objs.length = st.objs.length + m := by simp [dd]
theorem gr_len (st : St) (m : Nat) (cs : List V) : (nw st m cs).objs.length = st.objs.length + m + 1 := by simp [nw]; omega
theorem setF_len (st : St) (id : Nat) (l : List Int) (a : Nat) : (setF st id l a).objs.length = st.objs.length := by simp [setF]
theorem setF_wp (st : St) (id : Nat) (l : List Int) (a : Nat) : (setF st id l a).wp = st.wp := rfl
theorem dd_wp (st : St) (m : Nat) : (dd st m).wp = st.wp := rfl
theorem gr_wp (st : St) (m : Nat) (cs : List V) : (nw st m cs).wp = st.wp := rfl
theorem FeedOk.dd {st : St} {id : Nat} (h : FeedOk st id) (m : Nat) : FeedOk (dd st m) id := ⟨by rw [dd_len]; have := h.1; omega, h.2⟩
theorem FeedOk.nw {st : St} {id : Nat} (h : FeedOk st id) (m : Nat) (cs : List V) : FeedOk (nw st m cs) id := ⟨by rw [gr_len]; have := h.1; omega, h.2⟩
theorem FeedOk.setF {st : St} {id id' : Nat} (h : FeedOk st id) (l : List Int) (a : Nat) : FeedOk (setF st id' l a) id := ⟨by rw [setF_len]; exact h.1, h.2⟩
theorem dd_dd (st : St) (m n : Nat) : dd (dd st m) n = dd st (m + n) := by unfold dd; simp [List.append_assoc, List.replicate_append_replicate]
theorem setF_dd {st : St} {id : Nat} (h : FeedOk st id) (m : Nat) (l : List Int) (a : Nat) : dd (setF st id l a) m = setF (dd st m) id l a := by
  unfold dd setF; simp only [St.mk.injEq, and_true]; rw [List.set_append_left _ _ h.1]
theorem setF_gr {st : St} {id : Nat} (h : FeedOk st id) (m : Nat) (cs : List V) (l : List Int) (a : Nat) : nw (setF st id l a) m cs = setF (nw st m cs) id l a := by
  unfold nw setF; simp only [St.mk.injEq, and_true]; rw [List.set_append_left _ _ h.1]
theorem gr_obj (st : St) (m : Nat) (cs : List V) : (nw st m cs).objs[st.objs.length + m]? = some cs := by
  simp [nw]
theorem obj_gr {st : St} {id : Nat} (h : FeedOk st id) (m : Nat) (cs : List V) (l : List Int) (a : Nat) : St.obj (setF (nw st m cs) id l a) (st.objs.length + m) = some cs := by
  unfold St.obj setF
  show ((nw st m cs).objs.set id _)[_]? = _
  rw [List.getElem?_set_ne (by have := h.1; omega), gr_obj]
theorem set_gr {st : St} {id : Nat} (h : FeedOk st id) (m : Nat) (cs : List V) (l : List Int) (a : Nat) : St.set (setF (nw st m cs) id l a) (st.objs.length + m) [] = some (setF (dd st (m + 1)) id l a) := by
  have h1 := h.1
  have h2 := h.2
  unfold St.set
  rw [if_pos (by rw [setF_wp, gr_wp]; omega)]
  rw [← setF_gr h, ← setF_dd h]
  unfold nw dd
  simp only [Option.some.injEq, St.mk.injEq, and_true]
  rw [List.set_append_right _ _ (by rw [setF_len]; omega), setF_len, show st.objs.length + m - st.objs.length = m by omega, List.set_append_right _ _ (by simp), List.replicate_succ', List.length_replicate, Nat.sub_self]
  rfl
theorem set_gr' {st : St} {id : Nat} (h : FeedOk st id) (m : Nat) (cs cs' : List V) (l : List Int) (a : Nat) : St.set (setF (nw st m cs) id l a) (st.objs.length + m) cs' = some (setF (nw st m cs') id l a) := by
  have h1 := h.1
  have h2 := h.2
  unfold St.set
  rw [if_pos (by rw [setF_wp, gr_wp]; omega)]
  rw [← setF_gr h, ← setF_gr h]
  unfold nw
  simp only [Option.some.injEq, St.mk.injEq, and_true]
  rw [List.set_append_right _ _ (by rw [setF_len]; omega), setF_len, show st.objs.length + m - st.objs.length = m by omega, List.set_append_right _ _ (by simp), List.length_replicate, Nat.sub_self]
  rfl
theorem newRef_dd {st : St} {id : Nat} (h : FeedOk st id) (fr : Fr) (m k len : Nat) (cs : List V) (l : List Int) (a : Nat) :
    newRef fr (setF (dd st m) id l a) k len cs = .ok (.val (.sref false k (st.objs.length + m) 0 len)) fr (setF (nw st m cs) id l a) := by
  unfold newRef
  rw [setF_len, dd_len, ← setF_dd h, ← setF_gr h]
  unfold nw dd
  simp
theorem newRef_setF {st : St} {id : Nat} (h : FeedOk st id) (fr : Fr) (k len : Nat) (cs : List V) (l : List Int) (a : Nat) :
    newRef fr (setF st id l a) k len cs = .ok (.val (.sref false k st.objs.length 0 len)) fr (setF (nw st 0 cs) id l a) := by
  have := newRef_dd h fr 0 k len cs l a
  rw [dd_zero] at this
  exact this
mutual
theorem frz_flat : ∀ (n : Nat) (st : St) (v : V), v.flat = true → frz n st v = some (v, st)
  | 0, _, _, _ => by unfold frz; rfl
  | n + 1, st, v, h => by
    unfold frz
    split
    · simp [V.flat] at h
    · rw [frzL_flat n st _ (by simpa [V.flat] using h)]
    · rw [frzL_flat n st _ (by simpa [V.flat] using h)]
    · rfl
    · rw [if_pos (by simpa [V.flat] using h)]
    · rfl
theorem frzL_flat : ∀ (n : Nat) (st : St) (l : List V), flats l = true → frzL (frz n) st l = some (l, st)
  | _, _, [], _ => rfl
  | n, st, v :: r, h => by
    simp only [flats, Bool.and_eq_true] at h
    unfold frzL
    rw [frz_flat n st v h.1]
    simp only
    rw [frzL_flat n st r h.2]
end
theorem frzL_cons {f : St → V → Option (V × St)} {st st' : St} {v v' : V} {r : List V} (h : f st v = some (v', st')) : frzL f st (v :: r) = match frzL f st' r with
      | some (r', st'') => some (v' :: r', st'')
      | none => none := by
  simp only [frzL, h]
  cases frzL f st' r with
  | none => rfl
  | some x => rfl
theorem frzL_append {f : St → V → Option (V × St)} {st st' st'' : St} : ∀ {xs xs' ys ys' : List V}, frzL f st xs = some (xs', st') → frzL f st' ys = some (ys', st'') → frzL f st (xs ++ ys) = some (xs' ++ ys', st'')
  | [], _, _, _, h, k => by unfold frzL at h; cases h; exact k
  | v :: r, _, ys, ys', h, k => by
    unfold frzL at h
    split at h
    · rename_i v' st1 h1
      split at h
      · rename_i r' st2 h2
        cases h
        rw [List.cons_append, frzL_cons h1, frzL_append h2 k]; rfl
      · cases h
    · cases h
theorem chunk_enc {α : Type} (cells : α → List V) (k : Nat) (hk : 0 < k) (hl : ∀ x, (cells x).length = k) : ∀ (vs : List α), chunk true k vs.length (vs.flatMap cells) = vs.map fun x => V.agg (cells x)
  | [] => rfl
  | x :: r => by
    rw [List.length_cons, chunk, List.flatMap_cons, List.take_left' (hl x), List.drop_left' (hl x), chunk_enc cells k hk hl r]; rfl
theorem vals_cells_len (vs : List Val) : (vs.flatMap Val.cells).length = vs.length * 5 := by
  induction vs with
  | nil => rfl
  | cons x r ih => simp [List.flatMap_cons, ih, Val.cells]; omega
theorem vals_cells_one (vs : List Val) : (vs.flatMap Val.cells).all V.one = true := by
  induction vs with
  | nil => rfl
  | cons x r ih => simp [List.flatMap_cons, ih, Val.cells, V.one]
theorem vals_cells_flat (vs : List Val) : flats (vs.flatMap Val.cells) = true := by
  induction vs with
  | nil => rfl
  | cons x r ih =>
    have : ∀ (a b : List V), flats a = true → flats b = true → flats (a ++ b) = true := by
      intro a
      induction a with
      | nil => intro b _ h; exact h
      | cons v a iha => intro b h1 h2; simp only [flats, List.cons_append, Bool.and_eq_true] at h1 ⊢; exact ⟨h1.1, iha b h1.2 h2⟩
    rw [List.flatMap_cons]
    exact this _ _ (by simp [Val.cells, flats, V.flat]) ih
theorem vals_cells_strip (vs : List Val) : (vs.flatMap Val.cells).map V.strip1 = vs.flatMap Val.cells := by
  induction vs with
  | nil => rfl
  | cons x r ih => simp [List.flatMap_cons, ih, Val.cells, V.strip1]
theorem chunk_vals (vs : List Val) : chunk true 5 vs.length (vs.flatMap Val.cells) = encVals vs := chunk_enc Val.cells 5 (by omega) (fun _ => rfl) vs
/-- A row of values is given up. -/
theorem frz_vals {st : St} {id : Nat} (h : FeedOk st id) (n m : Nat) (vs : List Val) (hv : vs ≠ []) (l : List Int) (a : Nat) :
    frz (n + 1) (setF (nw st m (vs.flatMap Val.cells)) id l a) (.sref false 5 (st.objs.length + m) 0 vs.length) = some (.slice (encVals vs), setF (dd st (m + 1)) id l a) := by
  have hl : ¬ vs.length = 0 := by simpa using hv
  unfold frz
  simp only [hl, if_false, obj_gr h, set_gr h, vals_cells_len, List.drop_zero, Nat.zero_add, Nat.le_refl, and_true, show (0 < 5) = True by simp, if_true]
  rw [List.take_of_length_le (by rw [vals_cells_len]; omega), vals_cells_strip, frzL_flat _ _ _ (vals_cells_flat vs)]
  simp only [vals_cells_len, vals_cells_one, and_self, if_true]
  rw [show Nat.blt 1 5 = true from rfl, chunk_vals]
theorem frz_predcells {st st' : St} {n : Nat} {a0 a1 a2 a3 a4 a5 a6 a7 a8 a9 a10 a11 s s' : V} (hf : flats [a0, a1, a2, a3, a4, a5, a6, a7, a8, a9, a10, a11] = true) (hs : frz n st s = some (s', st')) :
    frz (n + 1) st (.agg [a0, a1, a2, a3, a4, a5, a6, a7, a8, a9, a10, a11, s]) = some (.agg [a0, a1, a2, a3, a4, a5, a6, a7, a8, a9, a10, a11, s'], st') := by
  unfold frz
  have h1 := frzL_flat n st _ hf
  have h2 : frzL (frz n) st [s] = some ([s'], st') := by rw [frzL_cons hs]; rfl
  have := frzL_append h1 h2
  simp only [List.cons_append, List.nil_append] at this
  simp only [this]
theorem frz_nil (n : Nat) (st : St) : frz (n + 1) st (.sref true 0 0 0 0) = some (.slice [], st) := by unfold frz; rfl
theorem w64_1 : IntKind.wrap .i64 1 = 1 := by kernel_rfl
theorem w64_2 : IntKind.wrap .i64 2 = 2 := by kernel_rfl
theorem w64_3 : IntKind.wrap .i64 3 = 3 := by kernel_rfl
theorem w64_4 : IntKind.wrap .i64 4 = 4 := by kernel_rfl
theorem w64_5 : IntKind.wrap .i64 5 = 5 := by kernel_rfl
theorem w64_6 : IntKind.wrap .i64 6 = 6 := by kernel_rfl
theorem w64_7 : IntKind.wrap .i64 7 = 7 := by kernel_rfl
theorem w64_8 : IntKind.wrap .i64 8 = 8 := by kernel_rfl
theorem w64_9 : IntKind.wrap .i64 9 = 9 := by kernel_rfl
theorem w64_10 : IntKind.wrap .i64 10 = 10 := by kernel_rfl
end Go.Ab
namespace Go.Ab
open Go
set_option linter.unusedVariables false
set_option linter.unusedSimpArgs false
set_option linter.unnecessarySimpa false
def FVR : List (Val × Option (Int × Int)) := [
  (vzero, none),
  (⟨2, 0, 0, [], false⟩, some (1, 0)), (⟨2, 0, 9223372036854775808, [], false⟩, some (1, 0)), (⟨2, 0, 4607182418800017408, [], false⟩, some (1, 3)),
  (⟨2, 0, 4609434218613702656, [], false⟩, some (1, 4)), (⟨2, 0, 4611686018427387904, [], false⟩, some (1, 5)), (⟨2, 0, 4613937818241073152, [], false⟩, some (1, 6)),
  (⟨2, 0, 13830554455654793216, [], false⟩, some (1, -1)), (⟨2, 0, 4591870180066957722, [], false⟩, some (1, 2)), (⟨2, 0, 9221120237041090561, [], false⟩, none),
  (⟨2, 0, 9218868437227405312, [], false⟩, some (1, 20)), (⟨2, 0, 18442240474082181120, [], false⟩, some (1, -20)), (⟨2, 0, 4845873199050653696, [], false⟩, some (1, 8)),
  (⟨2, 0, 4890909195324358656, [], false⟩, some (1, 12)), (⟨2, 0, 1, [], false⟩, some (1, 1)),
  (⟨3, 0, 0, [], false⟩, some (3, 0)), (⟨3, 0, 0, [97], false⟩, some (3, 1)), (⟨3, 0, 0, [97, 98], false⟩, some (3, 2)), (⟨3, 0, 0, [98], false⟩, some (3, 3)), (⟨3, 0, 0, [98, 97], false⟩, some (3, 4)),
  (⟨3, 0, 0, [116, 119, 101, 108, 118, 101, 32, 98, 121, 116, 101, 115], false⟩, some (3, 5)),
  (⟨4, 0, 0, [], false⟩, some (4, 0)), (⟨4, 0, 0, [], true⟩, some (4, 1)),
  (⟨1, -9223372036854775808, 0, [], false⟩, some (1, -10)), (⟨1, 9223372036854775807, 0, [], false⟩, some (1, 11)), (⟨1, 9007199254740992, 0, [], false⟩, some (1, 8)), (⟨1, 9007199254740993, 0, [], false⟩, some (1, 9)),
  (⟨1, -1, 0, [], false⟩, some (1, -1)), (⟨1, 4611686018427387904, 0, [], false⟩, some (1, 10)), (⟨1, 0, 0, [], false⟩, some (1, 0)), (⟨1, 1, 0, [], false⟩, some (1, 3)), (⟨1, 2, 0, [], false⟩, some (1, 5)), (⟨1, 3, 0, [], false⟩, some (1, 6)), (⟨1, 4, 0, [], false⟩, some (1, 7))]
def rcmp : Option (Int × Int) → Option (Int × Int) → Int × Bool
  | some (c, x), some (d, y) => if c = d then (sgn (x < y) (x > y), true) else (0, false)
  | _, _ => (0, false)
def FV (v : Val) (r : Option (Int × Int)) : Prop := (v, r) ∈ FVR
def okPair (a b : Val × Option (Int × Int)) : Bool :=
  decide (cmp a.1 b.1 = rcmp a.2 b.2) && (!vsame a.1 b.1 || decide (a.2 = b.2)) && (!(decide (a.1.kind = 3) && isPre a.1.s b.1.s && decide (b.1.kind = 3)) || decide ((cmp a.1 b.1).1 ≥ 0)) && (!vis a.1 b.1 || (decide (a.1.s = b.1.s) && decide ((a.1.kind = 3) = (b.1.kind = 3))))
set_option maxRecDepth 100000 in
theorem pairs_ok : (FVR.all fun a => FVR.all fun b => okPair a b) = true := by kernel_rfl
end Go.Ab
namespace Go.Ab
open Go
set_option linter.unusedVariables false
set_option linter.unusedSimpArgs false
set_option linter.unnecessarySimpa false
theorem pair_fv {a b : Val} {ra rb : Option (Int × Int)} (ha : FV a ra) (hb : FV b rb) : okPair (a, ra) (b, rb) = true :=
  List.all_eq_true.1 (List.all_eq_true.1 pairs_ok _ ha) _ hb
theorem cmp_fv {a b : Val} {ra rb : Option (Int × Int)} (ha : FV a ra) (hb : FV b rb) : cmp a b = rcmp ra rb := by
  have := pair_fv ha hb
  simp only [okPair, Bool.and_eq_true, decide_eq_true_eq] at this
  exact this.1.1.1
theorem same_fv {a b : Val} {ra rb : Option (Int × Int)} (ha : FV a ra) (hb : FV b rb) (h : vsame a b = true) : ra = rb := by
  have := pair_fv ha hb
  simp only [okPair, Bool.and_eq_true, h, Bool.not_true, Bool.false_or, decide_eq_true_eq] at this
  exact this.1.1.2
/-- A test of what a feed yields. -/
structure PFV (p : Pred) : Prop where
  v : ∃ r, FV p.v r
  w : ∃ r, FV p.w r
  set : ∀ x ∈ p.set, ∃ r, FV x r
end Go.Ab
namespace Go.Ab
open Go
set_option linter.unusedVariables false
set_option linter.unusedSimpArgs false
set_option linter.unnecessarySimpa false
/-- A right one of the row. -/
def VR (v : Val) : Prop := vright v = true ∧ ∃ r, FV v r
def allVR : List Val := (FVR.drop 1).map (·.1)
theorem all_right : allVR.all vright = true := by kernel_rfl
theorem vr_mem {v : Val} (h : v ∈ allVR) : VR v := by
  refine ⟨List.all_eq_true.1 all_right v h, ?_⟩
  unfold allVR at h
  obtain ⟨x, hx, rfl⟩ := List.mem_map.1 h
  exact ⟨x.2, List.mem_of_mem_drop hx⟩
def floatsR : List Val := F14.map fun x => ⟨2, 0, x, [], false⟩
def textsR : List Val := T6.map fun s => ⟨3, 0, 0, s, false⟩
def intsR : List Val := N6.map fun n => ⟨1, n, 0, [], false⟩
theorem floats_in : (floatsR.all fun v => allVR.contains v) = true := by kernel_rfl
theorem texts_in : (textsR.all fun v => allVR.contains v) = true := by kernel_rfl
theorem ints_in : (intsR.all fun v => allVR.contains v) = true := by kernel_rfl
theorem smalls_in : ((List.range 5).all fun n => allVR.contains (⟨1, (n : Int), 0, [], false⟩ : Val)) = true := by kernel_rfl
theorem bools_in : ([true, false].all fun b => allVR.contains (⟨4, 0, 0, [], b⟩ : Val)) = true := by kernel_rfl
theorem of_contains {l : List Val} {f : Val} (h : (l.all fun v => allVR.contains v) = true) (hf : f ∈ l) : VR f := by
  have := List.all_eq_true.1 h f hf
  exact vr_mem (by simpa using this)
theorem vr_float (l : List Int) (a j : Nat) : VR ⟨2, 0, floatV l a j, [], false⟩ := by
  have hb := fd_bound l a j (n := 14) (by omega)
  refine of_contains floats_in ?_
  unfold floatsR floatV
  refine List.mem_map.2 ⟨_, ?_, rfl⟩
  have hlt : (fd l a j 14).toNat < F14.length := by show _ < 14; omega
  rw [List.getD_eq_getElem?_getD, List.getElem?_eq_getElem hlt]
  exact List.getElem_mem hlt
theorem vr_text {n : Nat} (h : n < 6) : VR ⟨3, 0, 0, T6.getD n [], false⟩ := by
  refine of_contains texts_in ?_
  unfold textsR
  refine List.mem_map.2 ⟨_, ?_, rfl⟩
  have hlt : n < T6.length := h
  rw [List.getD_eq_getElem?_getD, List.getElem?_eq_getElem hlt]
  exact List.getElem_mem hlt
theorem vr_int {n : Nat} (h : n < 6) : VR ⟨1, N6.getD n 0, 0, [], false⟩ := by
  refine of_contains ints_in ?_
  unfold intsR
  refine List.mem_map.2 ⟨_, ?_, rfl⟩
  have hlt : n < N6.length := h
  rw [List.getD_eq_getElem?_getD, List.getElem?_eq_getElem hlt]
  exact List.getElem_mem hlt
theorem vr_small {n : Int} (h0 : 0 ≤ n) (h : n < 5) : VR ⟨1, n, 0, [], false⟩ := by
  have := List.all_eq_true.1 smalls_in n.toNat (List.mem_range.2 (by omega))
  rw [show ((n.toNat : Nat) : Int) = n by omega] at this
  exact vr_mem (by simpa using this)
theorem vr_bool (b : Bool) : VR ⟨4, 0, 0, [], b⟩ := by
  have := List.all_eq_true.1 bools_in b (by cases b <;> simp)
  exact vr_mem (by simpa using this)
theorem vr_value (l : List Int) (a j : Nat) : VR (valueV l a j) := by
  unfold valueV
  have h8 := fd_bound l a j (n := 8) (by omega)
  have h6 := fd_bound l a (j + 1) (n := 6) (by omega)
  have h5 := fd_bound l a (j + 1) (n := 5) (by omega)
  simp only
  repeat' split
  · exact vr_float _ _ _
  · exact vr_text (by omega)
  · exact vr_bool _
  · exact vr_int (by omega)
  · exact vr_small (by omega) (by omega)
theorem vr_vals (l : List Int) (a : Nat) : ∀ (k j : Nat), ∀ x ∈ valsV l a j k, VR x
  | 0, j, x, h => by simp [valsV] at h
  | k + 1, j, x, h => by
    rcases List.mem_cons.1 h with rfl | h
    · exact vr_value _ _ _
    · exact vr_vals l a k _ x h
theorem vals_length (l : List Int) (a : Nat) : ∀ (k j : Nat), (valsV l a j k).length = k
  | 0, j => rfl
  | k + 1, j => by simp [valsV, vals_length l a k]
theorem P4_in : (P4.all fun s => T6.contains s) = true := by kernel_rfl
theorem vr_P4 {n : Nat} (h : n < 4) : VR ⟨3, 0, 0, P4.getD n [], false⟩ := by
  have hlt : n < P4.length := h
  have h1 : P4.getD n [] ∈ P4 := by rw [List.getD_eq_getElem?_getD, List.getElem?_eq_getElem hlt]; exact List.getElem_mem hlt
  have h2 := List.all_eq_true.1 P4_in _ h1
  refine of_contains texts_in ?_
  unfold textsR
  exact List.mem_map.2 ⟨_, by simpa using h2, rfl⟩
theorem fv_zero : ∃ r, FV vzero r := ⟨none, by unfold FV FVR; simp⟩
/-- What a feed yields as a test. -/
theorem pred_fv (l : List Int) (a j : Nat) (nm : List UInt8) : PFV (predV l a j nm).1 := by
  unfold predV
  have h4 := fd_bound l a (j + 1) (n := 4) (by omega)
  simp only
  repeat' split
  · exact ⟨fv_zero, fv_zero, by simp⟩
  · exact ⟨(vr_P4 (by omega)).2, fv_zero, by simp⟩
  · exact ⟨fv_zero, fv_zero, fun x hx => (vr_vals _ _ _ _ x hx).2⟩
  · exact ⟨(vr_value _ _ _).2, (vr_value _ _ _).2, by simp⟩
  · exact ⟨(vr_value _ _ _).2, fv_zero, by simp⟩
theorem same_zero : vsame vzero vzero = true := by kernel_rfl
theorem pred_right (l : List Int) (a j : Nat) {nm : List UInt8} (hn : isWord nm = true) : pright (predV l a j nm).1 = true := by
  have h10 := fd_bound l a j (n := 10) (by omega)
  have h4 := fd_bound l a (j + 1) (n := 4) (by omega)
  unfold predV
  simp only
  split
  · simp [pright, hn, same_zero]
  · split
    · rename_i h
      have hv := (vr_P4 (n := (fd l a (j + 1) 4).toNat) (by omega)).1
      generalize P4.getD (fd l a (j + 1) 4).toNat [] = s at hv
      simp [pright, hn, same_zero, hv]
    · split
      · have hv := fun x hx => (vr_vals l a ((fd l a (j + 1) 4).toNat + 1) (j + 2) x hx).1
        have hl := vals_length l a ((fd l a (j + 1) 4).toNat + 1) (j + 2)
        generalize valsV l a (j + 2) ((fd l a (j + 1) 4).toNat + 1) = vs at hv hl
        have hc : vs.all vright = true := List.all_eq_true.2 hv
        have h5 : 1 ≤ vs.length ∧ vs.length ≤ 4 := by omega
        unfold pright
        rw [if_pos hn]
        simp [same_zero, hc, h5, hv]
      · split
        · simp [pright, hn, same_zero, (vr_value l a (j + 1)).1, (vr_value l a (j + 3)).1]
        · have e1 : 2 ≤ 1 + fd l a j 10 ∧ 1 + fd l a j 10 ≤ 7 := by omega
          have e2 : ¬ 1 + fd l a j 10 = 1 := by omega
          simp only [pright, hn, if_true, e2, if_false, e1, and_self, same_zero, (vr_value l a (j + 1)).1, List.length_nil, decide_true, Bool.and_self]
theorem pred_asks (l : List Int) (a j : Nat) (nm : List UInt8) : (predV l a j nm).2 ≤ 10 := by
  have h4 := fd_bound l a (j + 1) (n := 4) (by omega)
  unfold predV
  simp only
  repeat' split
  all_goals (simp only; omega)
theorem ok_of_right {p : Pred} (h : pright p = true) : p.ok := by
  unfold pright at h
  split at h
  · rename_i hw
    unfold isWord at hw
    simp only [Bool.and_eq_true, decide_eq_true_eq] at hw
    refine ⟨by omega, ?_⟩
    repeat' split at h
    all_goals first
      | (simp only [Bool.and_eq_true, decide_eq_true_eq] at h; omega)
      | cases h
  · cases h
end Go.Ab
namespace Go.Proofs.Ytclpbfkbpcjejaa
open Go Go.Ab
set_option linter.unusedVariables false
set_option linter.unusedSimpArgs false
set_option linter.unnecessarySimpa false
set_option maxRecDepth 20000
noncomputable section
variable (fr : Fr) (st : St) (k : Kt)
theorem k17 (l : List Int) (a j id : Nat)  (fr : Fr) (st : St) (h : FeedOk st id) (ha : a < 549755813888) (hj : j < 549755812000) :
    callStep gS (EvF gS) 17 [.ptr id 0] fr (setF st id l (nA l a j)) = some (.ok (.val ((valueV l a j).enc)) (fr.map E.noMem) (setF st id l (nA l a (j + 2)))) := by
  unfold callStep
  simp only [show gS.ext 17 = none from rfl, fi17_eq, show fi17.pure = false from rfl, Bool.false_eq_true, if_false, c17 l a j id  st h ha (by omega), retE]
  all_goals rfl
def fi29 : FI := { body := codeOf Try.f29, ntmps := 52, results := [.cell 4 27], pers := [0, 1, 4, 5, 6, 13], locals := [4, 5], pure := false, marks := [39, 2000011, 1000000] }
theorem fi29_eq : gS.fn 29 = some fi29 := by kernel_rfl
theorem st29 (a0 a1 : V) : startFr fi29 [a0, a1] = { ps := [(0, .val a0), (1, .val a1), (4, .any), (5, .any), (6, .any), (13, .any)], ts := [], lc := [] } := rfl
def b29 : Code := mini (codeOf Try.f29)
def c29_11 : Code := .seq (codeN b29 299) .ret
def c29_19 : Code := .seq (codeN b29 2795) .ret
def c29_17 : Code := .seq (codeN b29 1259) c29_19
def c29_33 : Code := .cond (.tmp 31) .skip (.exit 1)
def c29_31 : Code := .seq (codeN b29 136171) c29_33
def r29_38 : Array Oper := regOps (codeN (codeOf Try.f29) 300011)
def c29_38 : Code := .region 12 r29_38 true
def q29_38 : List (Oper × Fl) := [(op1 34 (.fieldAddr 27 (.tmp 5) 4) 0, ⟨true, false, false, false, false, false, true, false, false, true, []⟩),
 (ld 35 25 34 25, ⟨true, false, false, false, false, false, true, false, false, true, []⟩),
 (mv 36 0 29, ⟨true, false, true, false, true, false, true, true, false, false, []⟩),
 (cal 37 17 [(.tmp 36)] [29] 24, ⟨false, true, true, false, true, true, true, true, false, false, []⟩),
 (op1 38 (.buildSlice 25 1 #[(0, (.tmp 37))]) 25, ⟨true, false, true, false, true, false, true, true, false, false, []⟩),
 (op1 39 (.call { callee := (.builtin .append), args := #[(.tmp 35), (.tmp 38)], argTypes := #[25, 25] }) 25, ⟨false, true, true, false, true, true, true, true, false, false, []⟩),
 (op1 40 (.fieldAddr 27 (.tmp 5) 4) 0, ⟨true, true, true, false, true, false, true, true, false, false, []⟩),
 (sto 25 40 39, ⟨false, true, true, false, true, true, true, true, false, false, []⟩)]
def c29_39 : Code := codeN b29 234475
def c29_36 : Code := .seq (.block 2 c29_38) c29_39
def c29_30 : Code := .seq c29_31 c29_36
def c29_29 : Code := .loop c29_30
def c29_28 : Code := .block 1 c29_29
def c29_26 : Code := .seq (codeN b29 9195) c29_28
def c29_40 : Code := .seq (codeN b29 11243) .ret
theorem e29_40 : evK gS fi29 c29_40 fr st k = opsR gS fi29 [ld 41 27 5 27,
 sto 27 4 41] fr st (.seq .ret k) := evK_rs 13 rfl (by kernel_rfl)
def c29_25 : Code := .seq c29_26 c29_40
def c29_24 : Code := .cond (.tmp 26) c29_25 .skip
def c29_22 : Code := .seq (codeN b29 1515) c29_24
def c29_16 : Code := .cond (.tmp 17) c29_17 c29_22
def c29_14 : Code := .seq (codeN b29 363) c29_16
def c29_10 : Code := .cond (.tmp 14) c29_11 c29_14
def c29_8 : Code := .seq (codeN b29 75) c29_10
def c29_7 : Code := .block 0 c29_8
def c29_5 : Code := .seq (codeN b29 19) c29_7
def c29_50 : Code := codeN b29 175
def c29_49 : Code := .cond (.tmp 47) c29_50 .skip
def c29_47 : Code := .seq (codeN b29 79) c29_49
def c29_52 : Code := .seq (codeN b29 95) .ret
def c29_46 : Code := .seq c29_47 c29_52
def c29_44 : Code := .seq (codeN b29 23) c29_46
def c29_4 : Code := .seq c29_5 c29_44
def c29_2 : Code := .seq (codeN b29 5) c29_4
def c29_0 : Code := .seq (codeN b29 2) c29_2
theorem E29 : (evK gS fi29 c29_11 fr st k = opsR gS fi29 [ld 16 27 5 27,
 sto 27 4 16] fr st (.seq .ret k)) ∧
 (evK gS fi29 c29_19 fr st k = opsR gS fi29 [ld 25 27 5 27,
 sto 27 4 25] fr st (.seq .ret k)) ∧
 (evK gS fi29 c29_17 fr st k = opsR gS fi29 [op1 19 (.build 107 #[(0, (.const (.string { data := #[] }))), (1, (.const (.string { data := #[97] }))), (2, (.const (.string { data := #[98] }))), (3, (.const (.string { data := #[97, 98] })))]) 107,
 mv 20 0 29,
 cal 21 16 [(.tmp 20), (.const (.int .i64 4))] [29, 3] 3,
 op1 22 (.index 107 (.tmp 19) (.tmp 21)) 9,
 op1 23 (.build 24 #[(0, (.const (.int .i64 3))), (3, (.tmp 22))]) 24,
 op1 24 (.fieldAddr 27 (.tmp 5) 2) 0,
 sto 24 24 23] fr st (.seq c29_19 k)) ∧
 evK gS fi29 c29_33 fr st k = condK gS fi29 (fr.op (.tmp 31)).bool? .skip (.exit 1) fr st k ∧
 (evK gS fi29 c29_31 fr st k = opsR gS fi29 [mv 30 6 3,
 op1 31 (.binOp .geq 3 (.tmp 30) (.const (.int .i64 0)) 3) 4] fr st (.seq c29_33 k)) ∧
 evK gS fi29 c29_38 fr st k = drwR gS fi29 r29_38 q29_38 fr st k ∧
 (evK gS fi29 c29_39 fr st k = opsR gS fi29 [mv 32 6 3,
 op1 33 (.binOp .sub 3 (.tmp 32) (.const (.int .i64 1)) 3) 3,
 asn 6 33 3] fr st k) ∧
 evK gS fi29 c29_36 fr st k = evK gS fi29 c29_38 fr st (.blk 2 (.seq c29_39 k)) ∧
 evK gS fi29 c29_30 fr st k = evK gS fi29 c29_31 fr st (.seq c29_36 k) ∧
 evK gS fi29 c29_28 fr st k = evK gS fi29 c29_29 fr st (.blk 1 k) ∧
 (evK gS fi29 c29_26 fr st k = opsR gS fi29 [mv 28 0 29,
 cal 29 16 [(.tmp 28), (.const (.int .i64 4))] [29, 3] 3,
 asn 6 29 3] fr st (.seq c29_28 k)) ∧
 evK gS fi29 c29_25 fr st k = evK gS fi29 c29_26 fr st (.seq c29_40 k) ∧
 evK gS fi29 c29_24 fr st k = condK gS fi29 (fr.op (.tmp 26)).bool? c29_25 .skip fr st k ∧
 (evK gS fi29 c29_22 fr st k = opsR gS fi29 [op1 27 (.binOp .eql 3 (.tmp 13) (.const (.int .i64 10)) 3) 4,
 asn 26 27 4] fr st (.seq c29_24 k)) ∧
 evK gS fi29 c29_16 fr st k = condK gS fi29 (fr.op (.tmp 17)).bool? c29_17 c29_22 fr st k ∧
 (evK gS fi29 c29_14 fr st k = opsR gS fi29 [op1 18 (.binOp .eql 3 (.tmp 13) (.const (.int .i64 9)) 3) 4,
 asn 17 18 4] fr st (.seq c29_16 k)) ∧
 evK gS fi29 c29_10 fr st k = condK gS fi29 (fr.op (.tmp 14)).bool? c29_11 c29_14 fr st k ∧
 (evK gS fi29 c29_8 fr st k = opsR gS fi29 [op1 15 (.binOp .eql 3 (.tmp 13) (.const (.int .i64 1)) 3) 4,
 asn 14 15 4] fr st (.seq c29_10 k)) ∧
 evK gS fi29 c29_7 fr st k = evK gS fi29 c29_8 fr st (.blk 0 k) ∧
 (evK gS fi29 c29_5 fr st k = opsR gS fi29 [op1 12 (.fieldAddr 27 (.tmp 5) 1) 0,
 ld 13 3 12 3] fr st (.seq c29_7 k)) ∧
 (evK gS fi29 c29_50 fr st k = opsR gS fi29 [mv 48 0 29,
 cal 49 17 [(.tmp 48)] [29] 24,
 op1 50 (.fieldAddr 27 (.tmp 5) 3) 0,
 sto 24 50 49] fr st k) ∧
 evK gS fi29 c29_49 fr st k = condK gS fi29 (fr.op (.tmp 47)).bool? c29_50 .skip fr st k ∧
 (evK gS fi29 c29_47 fr st k = opsR gS fi29 [op1 45 (.fieldAddr 27 (.tmp 5) 1) 0,
 ld 46 3 45 3,
 op1 47 (.binOp .eql 3 (.tmp 46) (.const (.int .i64 8)) 3) 4] fr st (.seq c29_49 k)) ∧
 (evK gS fi29 c29_52 fr st k = opsR gS fi29 [ld 51 27 5 27,
 sto 27 4 51] fr st (.seq .ret k)) ∧
 evK gS fi29 c29_46 fr st k = evK gS fi29 c29_47 fr st (.seq c29_52 k) ∧
 (evK gS fi29 c29_44 fr st k = opsR gS fi29 [mv 42 0 29,
 cal 43 17 [(.tmp 42)] [29] 24,
 op1 44 (.fieldAddr 27 (.tmp 5) 2) 0,
 sto 24 44 43] fr st (.seq c29_46 k)) ∧
 evK gS fi29 c29_4 fr st k = evK gS fi29 c29_5 fr st (.seq c29_44 k) ∧
 (evK gS fi29 c29_2 fr st k = opsR gS fi29 [mv 7 1 9,
 mv 8 0 29,
 cal 9 16 [(.tmp 8), (.const (.int .i64 10))] [29, 3] 3,
 op1 10 (.binOp .add 3 (.const (.int .i64 1)) (.tmp 9) 3) 3,
 op1 11 (.build 27 #[(0, (.tmp 7)), (1, (.tmp 10))]) 27,
 op1 5 (.alloc 27) 0,
 sto 27 5 11] fr st (.seq c29_4 k)) ∧
 evK gS fi29 c29_0 fr st k = opsR gS fi29 [op1 4 (.alloc 27) 0] fr st (.seq c29_2 k) := ⟨evK_rs 4 rfl (by kernel_rfl), evK_rs 7 rfl (by kernel_rfl), evK_rs 6 rfl (by kernel_rfl), rfl, evK_rs 10 rfl (by kernel_rfl), evK_dr 12 rfl (by kernel_rfl) (by kernel_rfl), evK_r 11 (by kernel_rfl), rfl, rfl, rfl, evK_rs 9 rfl (by kernel_rfl), rfl, rfl, evK_rs 8 rfl (by kernel_rfl), rfl, evK_rs 5 rfl (by kernel_rfl), rfl, evK_rs 3 rfl (by kernel_rfl), rfl, evK_rs 2 rfl (by kernel_rfl), evK_r 16 (by kernel_rfl), rfl, evK_rs 15 rfl (by kernel_rfl), evK_rs 17 rfl (by kernel_rfl), rfl, evK_rs 14 rfl (by kernel_rfl), rfl, evK_rs 1 rfl (by kernel_rfl), evK_rs 0 rfl (by kernel_rfl)⟩
theorem m29 : mini fi29.body = c29_0 := by kernel_rfl
theorem n29_29 (fr : Fr) (st : St) (k : Kt) : nextK gS fi29 (.loop c29_30 k) .normal fr st = evK gS fi29 c29_29 fr st k := rfl
set_option maxHeartbeats 4000000 in
theorem T29_40 (nm : List UInt8) (l : List Int) (a id m : Nat) (vs : List Val) (hv : vs ≠ []) (st : St) (h : FeedOk st id) (e0 e1 e6 e13 : E) (h0 : e0.Tame) (h1 : e1.Tame) (h6 : e6.Tame) (h13 : e13.Tame) (T : List (Nat × E)) (X : List (Nat × List V)) (hx4 : lk X 4 = some [.str [], .int .i64 0, .int .i64 0, .int .i64 0, .float .f64 0, .str [], .bool false, .int .i64 0, .int .i64 0, .float .f64 0, .str [], .bool false, .osl 0 []]) (hx5 : lk X 5 = some [.str nm, .int .i64 10, .int .i64 0, .int .i64 0, .float .f64 0, .str [], .bool false, .int .i64 0, .int .i64 0, .float .f64 0, .str [], .bool false, .sref false 5 (st.objs.length + m) 0 vs.length]) :
    evK gS fi29 c29_40 { ps := [(0, e0), (1, e1), (4, .lp 4 0), (5, .lp 5 0), (6, e6), (13, e13)], ts := T, lc := X } (setF (nw st m (vs.flatMap Val.cells)) id l a) (.blk 0 (.seq c29_44 .nil)) = some (.ret ((⟨nm, 10, vzero, vzero, vs⟩ : Pred).enc) none, setF (dd st (m + 1)) id l a) := by
  have hm : fi29.marks = [39, 2000011, 1000000] := rfl
  have hl : fi29.locals = [4, 5] := rfl
  have hr : fi29.results = [.cell 4 27] := rfl
  have hz := fun a0 a1 a2 a3 a4 a5 a6 a7 a8 a9 a10 a11 hf => frz_predcells (a0 := a0) (a1 := a1) (a2 := a2) (a3 := a3) (a4 := a4) (a5 := a5) (a6 := a6) (a7 := a7) (a8 := a8) (a9 := a9) (a10 := a10) (a11 := a11) hf (frz_vals h 4 m vs hv l a)
  simp [lk_lset_self _ _ _ _ hx4, hx4, hx5, h0, h1, h6, h13, hz, vzero, -Int.not_le, -Int.not_lt, -Nat.not_le, -Nat.not_lt, ty3, ty4, ty9, ty24, ty25, ty27, ty29, ty107, eq24, hm, hl, hr, fi16_eq, fi17_eq, E29, q29_38, e29_40, n29_29]
set_option maxHeartbeats 8000000 in
theorem L29 (nm : List UInt8) (l : List Int) (a id : Nat) (ha : a < 549755813888) (st : St) (h : FeedOk st id) (e1 e13 : E) (h1 : e1.Tame) (h13 : e13.Tame) : ∀ (r j m : Nat) (vs : List Val) (T : List (Nat × E)) (X : List (Nat × List V)), j + 2 * r < 549755812000 → vs.length = m + 1 → vs.length + r < 1000 → lk X 4 = some [.str [], .int .i64 0, .int .i64 0, .int .i64 0, .float .f64 0, .str [], .bool false, .int .i64 0, .int .i64 0, .float .f64 0, .str [], .bool false, .osl 0 []] → lk X 5 = some [.str nm, .int .i64 10, .int .i64 0, .int .i64 0, .float .f64 0, .str [], .bool false, .int .i64 0, .int .i64 0, .float .f64 0, .str [], .bool false, .sref false 5 (st.objs.length + m) 0 (m + 1)] →
    evK gS fi29 c29_29 { ps := [(0, .val (.ptr id 0)), (1, e1), (4, .lp 4 0), (5, .lp 5 0), (6, .val (.int .i64 ((r : Int) - 1))), (13, e13)], ts := T, lc := X } (setF (nw st m (vs.flatMap Val.cells)) id l (nA l a j)) (.blk 1 (.seq c29_40 (.blk 0 (.seq c29_44 .nil)))) = some (.ret ((⟨nm, 10, vzero, vzero, vs ++ valsV l a j r⟩ : Pred).enc) none, setF (dd st (m + 1 + r)) id l (nA l a (j + 2 * r))) := by
  intro r
  have hm : fi29.marks = [39, 2000011, 1000000] := rfl
  have hl : fi29.locals = [4, 5] := rfl
  have hr : fi29.results = [.cell 4 27] := rfl
  induction r with
  | zero =>
    intro j m vs T X hj hlen hlt hx4 hx5
    refine evK_loop c29_30 _ _ _ _ rfl ?_
    have ht := fun T => T29_40 nm l (nA l a j) id m vs (by intro e; rw [e] at hlen; simp at hlen) st h (.val (.ptr id 0)) e1 (.val (.int .i64 (-1))) e13 rfl h1 rfl h13 T X hx4 (by rw [hx5, hlen])
    simp [h1, h13, ht, valsV, -Int.not_le, -Int.not_lt, -Nat.not_le, -Nat.not_lt, ty3, ty4, ty9, ty24, ty25, ty27, ty29, ty107, eq24, hm, hl, hr, fi16_eq, fi17_eq, E29, q29_38, n29_29]
  | succ r ih =>
    intro j m vs T X hj hlen hlt hx4 hx5
    refine evK_loop c29_30 _ _ _ _ rfl ?_
    have hv := fun fr => k17 l a j id fr (nw st m (vs.flatMap Val.cells)) (h.nw m _) ha (by omega)
    have e1' : ((r + 1 : Nat) : Int) - 1 = (r : Int) := by omega
    have e2 : (0 : Int) ≤ (r : Int) := by omega
    have e3 : IntKind.wrap .i64 ((r : Int) - 1) = (r : Int) - 1 := wrap64 (by omega) (by omega)
    have e4 := vals_cells_len vs
    have e5 := vals_cells_strip vs
    have e6 := vals_cells_one vs
    have e7 : ∀ v : Val, vs.flatMap Val.cells ++ [.int .i64 v.kind, .int .i64 v.n, .float .f64 v.x, .str v.s, .bool v.b] = (vs ++ [v]).flatMap Val.cells := by intro v; simp [Val.cells]
    have IH := fun T X h4 h5 => ih (j + 2) (m + 1) (vs ++ [valueV l a j]) T X (by omega) (by simp [hlen]) (by simp; omega) h4 h5
    have r1 := obj_gr h m (vs.flatMap Val.cells) l (nA l a (j + 2))
    have r2 := set_gr h m (vs.flatMap Val.cells) l (nA l a (j + 2))
    have r3 := fun fr k len cs => newRef_dd h fr (m + 1) k len cs l (nA l a (j + 2))
    have e8 : (m + 1 + 1) * 48 ≤ 140737488355328 := by omega
    have e9 : (m + 1 + 1) ≤ 140737488355328 := by omega
    rw [hlen] at e4
    rw [e1']
    rw [show valsV l a j (r + 1) = valueV l a j :: valsV l a (j + 2) r from rfl, show m + 1 + (r + 1) = m + 1 + 1 + r by omega, show j + 2 * (r + 1) = j + 2 + 2 * r by omega, List.append_cons vs]
    simp [-List.append_assoc, -List.flatMap_append, -St.obj, -St.set, h1, h13, hx4, hx5, hv, e2, e3, e4, e5, e6, e7, e8, e9, r1, r2, r3, markStep, markAppend, elemsAt, lk_lset_self _ _ _ _ hx5, -Int.not_le, -Int.not_lt, -Nat.not_le, -Nat.not_lt, ty3, ty4, ty9, ty24, ty25, ty27, ty29, ty107, eq24, hm, hl, hr, fi16_eq, fi17_eq, E29, q29_38, n29_29]
    exact IH _ _ (by simp [hx4]) (lk_lset_self _ _ _ _ hx5)
set_option maxHeartbeats 8000000 in
theorem c29 (l : List Int) (a j id : Nat) (nm : List UInt8) (st : St) (h : FeedOk st id) (ha : a < 549755813888) (hj : j < 549755811000) :
    EvF gS 29 [.ptr id 0, .str nm] (setF st id l (nA l a j)) = some (.ret (predV l a j nm).1.enc none, setF (dd st (predV l a j nm).1.set.length) id l (nA l a (j + (predV l a j nm).2))) := by
  refine EvF_start fi29_eq (fun x h => by cases h) m29 ?_
  rw [st29]
  have hm : fi29.marks = [39, 2000011, 1000000] := rfl
  have hl : fi29.locals = [4, 5] := rfl
  have hr : fi29.results = [.cell 4 27] := rfl
  have hb := fd_bound l a j (n := 10) (by omega)
  have hb4 := fd_bound l a (j + 1) (n := 4) (by omega)
  unfold predV
  have hk := fun fr => k16 l a j id 10 fr st h ha (by omega) (by omega)
  have hk4 := fun fr => k16 l a (j + 1) id 4 fr st h ha (by omega) (by omega)
  have hv1 := fun fr => k17 l a (j + 1) id fr st h ha (by omega)
  have hv3 := fun fr => k17 l a (j + 3) id fr st h ha (by omega)
  generalize fd l a j 10 = z at *
  generalize fd l a (j + 1) 4 = y at *
  have hz : z = 0 ∨ z = 1 ∨ z = 2 ∨ z = 3 ∨ z = 4 ∨ z = 5 ∨ z = 6 ∨ z = 7 ∨ z = 8 ∨ z = 9 := by omega
  have hy : y = 0 ∨ y = 1 ∨ y = 2 ∨ y = 3 := by omega
  have d0 := dd_zero st
  have a2 : j + 1 + 1 = j + 2 := rfl
  have a5 : j + 3 + 2 = j + 5 := rfl
  have a3 : j + 1 + 2 = j + 3 := by omega
  have hz2 := fun st a0 a1 a2 a3 a4 a5 a6 a7 a8 a9 a10 a11 hf => frz_predcells (a0 := a0) (a1 := a1) (a2 := a2) (a3 := a3) (a4 := a4) (a5 := a5) (a6 := a6) (a7 := a7) (a8 := a8) (a9 := a9) (a10 := a10) (a11 := a11) hf (frz_nil 4 st)
  have en : encVals [] = [] := rfl
  rcases hz with rfl | rfl | rfl | rfl | rfl | rfl | rfl | rfl | rfl | rfl
  case inr.inr.inr.inr.inr.inr.inr.inr.inl => rcases hy with rfl | rfl | rfl | rfl <;> simp [P4, vzero, d0, en, a2, a3, a5, hz2, w64_1, w64_2, w64_3, w64_4, w64_5, w64_6, w64_7, w64_8, w64_9, w64_10, hk, hk4, hv1, hv3, -Int.not_le, -Int.not_lt, -Nat.not_le, -Nat.not_lt, ty3, ty4, ty9, ty24, ty25, ty27, ty29, ty107, eq24, hm, hl, hr, fi16_eq, fi17_eq, E29, q29_38, n29_29]
  case inr.inr.inr.inr.inr.inr.inr.inr.inr =>
    have hv2 := fun fr => k17 l a (j + 2) id fr st h ha (by omega)
    have e2 : (0 : Int) ≤ y := by omega
    have e3 : IntKind.wrap .i64 (y - 1) = y - 1 := wrap64 (by omega) (by omega)
    have r3 := fun fr k len cs => newRef_setF h fr k len cs l (nA l a (j + 2 + 2))
    simp [-St.obj, -St.set, a2, w64_1, w64_2, w64_3, w64_4, w64_5, w64_6, w64_7, w64_8, w64_9, w64_10, hk, hk4, hv1, hv3, -Int.not_le, -Int.not_lt, -Nat.not_le, -Nat.not_lt, ty3, ty4, ty9, ty24, ty25, ty27, ty29, ty107, eq24, hm, hl, hr, fi16_eq, fi17_eq, E29, q29_38, n29_29]
    refine evK_loop c29_30 _ _ _ _ rfl ?_
    simp [-St.obj, -St.set, e2, e3, hv2, r3, markStep, markAppend, elemsAt, -Int.not_le, -Int.not_lt, -Nat.not_le, -Nat.not_lt, ty3, ty4, ty9, ty24, ty25, ty27, ty29, ty107, eq24, hm, hl, hr, fi16_eq, fi17_eq, E29, q29_38, n29_29]
    have hf := fun T X => L29 nm l a id ha st h (.val (.str nm)) (.val (.int .i64 10)) rfl rfl y.toNat (j + 2 + 2) 0 [valueV l a (j + 2)] T X (by omega) rfl (by simp; omega)
    have ey : ((y.toNat : Nat) : Int) = y := by omega
    rw [ey] at hf
    refine Eq.trans (hf _ _ ?_ ?_) ?_
    · simp
    · simp
    · have hl := vals_length l a (y.toNat + 1) (j + 2)
      have hc : [valueV l a (j + 2)] ++ valsV l a (j + 2 + 2) y.toNat = valsV l a (j + 2) (y.toNat + 1) := rfl
      rw [hc, hl]
      rw [show 0 + 1 + y.toNat = y.toNat + 1 by omega, show j + 2 + 2 + 2 * y.toNat = j + (2 + 2 * (y.toNat + 1)) by omega]
      rfl
  all_goals simp [vzero, d0, en, a2, a3, a5, hz2, w64_1, w64_2, w64_3, w64_4, w64_5, w64_6, w64_7, w64_8, w64_9, w64_10, hk, hk4, hv1, hv3, -Int.not_le, -Int.not_lt, -Nat.not_le, -Nat.not_lt, ty3, ty4, ty9, ty24, ty25, ty27, ty29, ty107, eq24, hm, hl, hr, fi16_eq, fi17_eq, E29, q29_38, n29_29]
theorem k29 (l : List Int) (a j id : Nat) (nm : List UInt8) (fr : Fr) (st : St) (h : FeedOk st id) (ha : a < 549755813888) (hj : j < 549755811000) :
    callStep gS (EvF gS) 29 [.ptr id 0, .str nm] fr (setF st id l (nA l a j)) = some (.ok (.val ((predV l a j nm).1.enc)) (fr.map E.noMem) (setF (dd st ((predV l a j nm).1.set.length)) id l (nA l a (j + (predV l a j nm).2)))) := by
  unfold callStep
  simp only [show gS.ext 29 = none from rfl, fi29_eq, show fi29.pure = false from rfl, Bool.false_eq_true, if_false, c29 l a j id nm st h ha (by omega), retE]
  all_goals rfl
end
end Go.Proofs.Ytclpbfkbpcjejaa
namespace Go.Proofs.Ytclpbfkbpcjejaa
open Go Go.Ab
set_option linter.unusedVariables false
set_option linter.unusedSimpArgs false
set_option linter.unnecessarySimpa false
set_option maxRecDepth 20000
noncomputable section
variable (fr : Fr) (st : St) (k : Kt)
theorem new_feed (st : St) (l : List Int) : ({ objs := st.objs ++ [[V.slice (intVs l), V.int .i64 0]], wp := st.wp } : St) = setF (nw st 0 []) st.objs.length l (nA l 0 0) := by
  unfold setF nw nA
  simp
theorem feedOk_new {st : St} (h : st.wp ≤ st.objs.length) : FeedOk (nw st 0 []) st.objs.length := ⟨by rw [gr_len]; omega, h⟩
end
end Go.Proofs.Ytclpbfkbpcjejaa
namespace Go.Ab
open Go
set_option linter.unusedVariables false
set_option linter.unusedSimpArgs false
set_option linter.unnecessarySimpa false
def aget : List Attr → List UInt8 → Val × Bool
  | [], _ => (vzero, false)
  | a :: r, nm => if a.name = nm then (a.v, true) else aget r nm
def sgt (a b : List UInt8) : Bool := !(Op.bytesLess a b || decide (a = b))
def ftakes (f : List Pred) (l : List Attr) : Bool := f.all fun p => (aget l p.name).2 && ptakes p (aget l p.name).1
def fcov1 (p : Pred) (g : List Pred) : Bool := g.any fun q => decide (q.name = p.name) && pimplies q p
def fcovers (f g : List Pred) : Bool := g.any pvoid || f.all fun p => fcov1 p g
def fsames : List Pred → List Pred → Bool
  | [], [] => true
  | a :: r, b :: s => psame a b && fsames r s
  | _, _ => false
def fsame (f g : List Pred) : Bool := decide (f.length = g.length) && fsames f g
def encPredss (l : List (List Pred)) : List V := l.map fun f => V.slice (encPreds f)
theorem encPredss_length (l : List (List Pred)) : (encPredss l).length = l.length := by simp [encPredss]
theorem encPredss_get (l : List (List Pred)) (i : Nat) : (encPredss l)[i]? = (l[i]?).map fun f => V.slice (encPreds f) := by simp [encPredss]
theorem encPredss_gE (l : List (List Pred)) (i : Nat) (h : i < (encPredss l).length) : (encPredss l)[i]'h = .slice (encPreds (l[i]'(by rw [encPredss_length] at h; exact h))) := by simp [encPredss]
theorem flats_predss (l : List (List Pred)) : flats (encPredss l) = true := by
  induction l with
  | nil => rfl
  | cons x r ih => simp only [encPredss, List.map_cons, flats, V.flat, flats_preds] at ih ⊢; exact ih
attribute [simp] encPredss_length encPredss_get encPredss_gE flats_predss
/-- Of a size that may be handled. -/
def POk (f : List Pred) : Prop := f.length < 4611686018427387904 ∧ ∀ p ∈ f, p.ok
theorem POk.get {f : List Pred} (h : POk f) {i : Nat} {p : Pred} (hp : f[i]? = some p) : p.ok := h.2 p (List.mem_of_getElem? hp)
theorem fsames_len : ∀ {a b : List Pred}, fsames a b = true → a.length = b.length
  | [], [], _ => rfl
  | a :: r, b :: s, h => by
    simp only [fsames, Bool.and_eq_true] at h
    simp [fsames_len h.2]
  | [], _ :: _, h => by simp [fsames] at h
  | _ :: _, [], h => by simp [fsames] at h
end Go.Ab
