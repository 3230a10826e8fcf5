/- Of any Subs, any attributes, any places, each answer of groups is as the document says. Part 4. -/
import Derived.Test.YtdoobejjedpcgaaK3
set_option linter.unusedVariables false
set_option linter.unusedSimpArgs false
set_option linter.unnecessarySimpa false
namespace Go.Ab
open Go
def flt (x y : Nat) : Bool := FloatKind.f64.format.order x y == some .lt
def fle (x y : Nat) : Bool := FloatKind.f64.format.order x y == some .lt || FloatKind.f64.format.order x y == some .eq
def fgt (x y : Nat) : Bool := FloatKind.f64.format.order x y == some .gt
def fge (x y : Nat) : Bool := FloatKind.f64.format.order x y == some .gt || FloatKind.f64.format.order x y == some .eq
def feq (x y : Nat) : Bool := FloatKind.f64.format.order x y == some .eq
theorem fb_lss (x y : Nat) : floatBin .lss .f64 x y = some (.bool (flt x y)) := rfl
theorem fb_leq (x y : Nat) : floatBin .leq .f64 x y = some (.bool (fle x y)) := rfl
theorem fb_gtr (x y : Nat) : floatBin .gtr .f64 x y = some (.bool (fgt x y)) := rfl
theorem fb_geq (x y : Nat) : floatBin .geq .f64 x y = some (.bool (fge x y)) := rfl
theorem fb_eql (x y : Nat) : floatBin .eql .f64 x y = some (.bool (feq x y)) := rfl
theorem fb_neq (x y : Nat) : floatBin .neq .f64 x y = some (.bool (!feq x y)) := rfl
theorem fs_eq (x y : Nat) : Op.floatEq .f64 x y = feq x y := rfl
attribute [simp] fb_lss fb_leq fb_gtr fb_geq fb_eql fb_neq fs_eq
def fbits (b : Nat) : Int := if feq b b then (if feq b 0 then 0 else b) else 9221120237041090560
def sgn (below above : Bool) : Int := if below then -1 else if above then 1 else 0
def ftr (x : Nat) : Nat := (truncV x).getD 0
def ftz (x : Nat) : Int := ((FloatKind.f64.decode (ftr x)).toInt .zero).getD 0
def icmp (n : Int) (x : Nat) : Int × Bool :=
  if feq x x then
    if fge x 4890909195324358656 then (-1,true)
    else if flt x 14114281232179134464 then (1,true)
    else if ftz x = n then (sgn (flt (ftr x) x) (fgt (ftr x) x),true)
    else (sgn (n < ftz x) (n > ftz x),true)
  else (0,false)
def fcmp (a b : Nat) : Int × Bool := if feq a a && feq b b then (sgn (flt a b) (fgt a b),true) else (0,false)
def scmp (a b : List UInt8) : Int := sgn (Op.bytesLess a b) (!(Op.bytesLess a b || a == b))
def cmp (a b : Val) : Int × Bool :=
  if a.kind = 1 ∧ b.kind = 1 then (sgn (a.n < b.n) (a.n > b.n),true)
  else if a.kind = 2 ∧ b.kind = 2 then fcmp a.x b.x
  else if a.kind = 1 ∧ b.kind = 2 then icmp a.n b.x
  else if a.kind = 2 ∧ b.kind = 1 then (-(icmp b.n a.x).1,(icmp b.n a.x).2)
  else if a.kind = 3 ∧ b.kind = 3 then (scmp a.s b.s,true)
  else if a.kind = 4 ∧ b.kind = 4 then (sgn (!a.b && b.b) (a.b && !b.b),true)
  else (0,false)
def vis (a b : Val) : Bool := (cmp a b).2 && decide ((cmp a b).1 = 0)
def vright (v : Val) : Bool :=
  if v.kind = 1 then feq v.x 0 && v.s = [] && !v.b
  else if v.kind = 2 then v.n = 0 && v.s = [] && !v.b
  else if v.kind = 3 then v.n = 0 && feq v.x 0 && !v.b && v.s.length ≤ 12
  else if v.kind = 4 then v.n = 0 && feq v.x 0 && v.s = []
  else false
def vsame (a b : Val) : Bool := a.kind = b.kind && a.n = b.n && a.s = b.s && a.b = b.b && fbits a.x = fbits b.x
def vzero : Val := ⟨0,0,0,[],false⟩
def isWord (s : List UInt8) : Bool := s.all (fun c => !decide (c.toNat < 97) && !decide (122 < c.toNat)) && (decide (1 ≤ s.length) && decide (s.length ≤ 6))
def pright (p : Pred) : Bool :=
  if isWord p.name then
    if p.test = 1 then vsame p.v vzero && vsame p.w vzero && p.set.length = 0
    else if 2 ≤ p.test ∧ p.test ≤ 7 then vright p.v && vsame p.w vzero && p.set.length = 0
    else if p.test = 8 then vright p.v && vright p.w && p.set.length = 0
    else if p.test = 9 then vright p.v && p.v.kind = 3 && vsame p.w vzero && p.set.length = 0
    else if p.test = 10 then vsame p.v vzero && vsame p.w vzero && 1 ≤ p.set.length && p.set.length ≤ 4 && p.set.all vright
    else false
  else false
def sames : List Val → List Val → Bool
  | [],[] => true
  | a :: r,b :: s => vsame a b && sames r s
  | _,_ => false
def psame (a b : Pred) : Bool := a.name = b.name && a.test = b.test && vsame a.v b.v && vsame a.w b.w && sames a.set b.set
def isPre (s t : List UInt8) : Bool := t.length ≤ s.length && s.take t.length = t
def ptakes (p : Pred) (v : Val) : Bool :=
  if pright p then
    let c := cmp v p.v
    if p.test = 1 then true
    else if p.test = 2 then c.2 && c.1 = 0
    else if p.test = 3 then !(c.2 && c.1 = 0)
    else if p.test = 4 then c.2 && c.1 < 0
    else if p.test = 5 then c.2 && c.1 ≤ 0
    else if p.test = 6 then c.2 && c.1 > 0
    else if p.test = 7 then c.2 && c.1 ≥ 0
    else if p.test = 8 then c.2 && c.1 ≥ 0 && (cmp v p.w).2 && (cmp v p.w).1 ≤ 0
    else if p.test = 9 then v.kind = 3 && isPre v.s p.v.s
    else p.set.any (vis v)
  else false
def vnan (v : Val) : Bool := v.kind = 2 && !feq v.x v.x
def pvoid (p : Pred) : Bool :=
  if pright p then
    if p.test = 2 ∨ (4 ≤ p.test ∧ p.test ≤ 7) then vnan p.v
    else if p.test = 8 then !(cmp p.v p.w).2 || (cmp p.v p.w).1 > 0
    else if p.test = 10 then p.set.all vnan
    else false
  else false
structure PEnd where
  is : Bool
  op : Bool
  v : Val
def PEnd.encP (e : PEnd) : V := .agg [.bool e.is,.bool e.op,.int .i64 e.v.kind,.int .i64 e.v.n,.float .f64 e.v.x,.str e.v.s,.bool e.v.b]
def PEnd.encR (e : PEnd) : V := .agg [.int .i64 e.v.kind,.int .i64 e.v.n,.float .f64 e.v.x,.str e.v.s,.bool e.v.b,.bool e.is,.bool e.op]
theorem PEnd.eta (e : PEnd) : (⟨e.is,e.op,e.v⟩ : PEnd) = e := rfl
attribute [simp] PEnd.encP PEnd.encR PEnd.eta
def lowE (p : Pred) : PEnd := if p.test = 6 ∨ p.test = 7 then ⟨true,p.test = 6,p.v⟩ else if p.test = 8 then ⟨true,false,p.v⟩ else ⟨false,false,vzero⟩
def highE (p : Pred) : PEnd := if p.test = 4 ∨ p.test = 5 then ⟨true,p.test = 4,p.v⟩ else if p.test = 8 then ⟨true,false,p.w⟩ else ⟨false,false,vzero⟩
def within (q p : PEnd) (side : Int) : Bool :=
  if p.is then if q.is then (cmp q.v p.v).2 && (decide ((cmp q.v p.v).1 = side) || (decide ((cmp q.v p.v).1 = 0) && (!p.op || q.op))) else false else true
def pimplies (q p : Pred) : Bool :=
  if pright q && pright p then
    if pvoid q || p.test = 1 then true
    else if q.test = p.test && (vsame q.v p.v && vsame q.w p.w && sames q.set p.set) then true
    else if p.test = 3 then !ptakes q p.v
    else if q.test = 2 then ptakes p q.v
    else if q.test = 10 then q.set.all (fun v => vnan v || ptakes p v)
    else if ((lowE q).is || (highE q).is) && ((lowE p).is || (highE p).is) then
      within (lowE q) (lowE p) 1 && within (highE q) (highE p) (-1)
    else if q.test = 9 then
      if p.test = 9 then isPre q.v.s p.v.s
      else if p.test = 7 then (cmp q.v p.v).2 && (cmp q.v p.v).1 ≥ 0
      else if p.test = 6 then (cmp q.v p.v).2 && (cmp q.v p.v).1 > 0
      else false
    else false
  else false
theorem less_irrefl : ∀ s : List UInt8,Op.bytesLess s s = false
  | [] => rfl
  | a :: r => by simp [Op.bytesLess,less_irrefl r]
theorem sames_len : ∀ {a b : List Val},sames a b = true → a.length = b.length
  | [],[],_ => rfl
  | a :: r,b :: s,h => by
    simp only [sames,Bool.and_eq_true] at h
    simp [sames_len h.2]
  | [],_ :: _,h => by simp [sames] at h
  | _ :: _,[],h => by simp [sames] at h
theorem sames_ne {a b : List Val} (h : ¬ a.length = b.length) : sames a b = false := by
  cases hs : sames a b with
  | false => rfl
  | true => exact absurd (sames_len hs) h
theorem sgn_bound (a b : Bool) : -1 ≤ sgn a b ∧ sgn a b ≤ 1 := by cases a <;> cases b <;> simp [sgn]
theorem icmp_bound (n : Int) (x : Nat) : -1 ≤ (icmp n x).1 ∧ (icmp n x).1 ≤ 1 := by
  unfold icmp
  repeat' split
  all_goals first | exact sgn_bound _ _ | simp
theorem wrap_icmp (n : Int) (x : Nat) : IntKind.wrap .i64 (-(icmp n x).1) = -(icmp n x).1 := by
  have := icmp_bound n x
  exact wrap64 (by omega) (by omega)
def opq (b : Bool) : Bool := b
theorem agg_eql (ks : List TK) (x y : List V) : binAgg ks .eql x y = (eqCells ks x y).map fun b => .bool (opq b) := rfl
theorem agg_neq (ks : List TK) (x y : List V) : binAgg ks .neq x y = (eqCells ks x y).map fun b => .bool (!opq b) := rfl
theorem feq00 : feq 0 0 = true := by kernel_rfl
attribute [simp] less_irrefl feq00
attribute [simp] wrap_icmp agg_eql agg_neq eqCells eqScalar
end Go.Ab
namespace Go.Ab
open Go Ieee
set_option maxRecDepth 4000

theorem read_cases (x : Nat) : (∃ s t,double.read x = .nan s t) ∨ (∃ s,double.read x = .infinity s) ∨ ∃ s m e,double.read x = .number s m e ∧ m < 2 ^ 53 ∧ (-1074 < e → 2 ^ 52 ≤ m) ∧ -1074 ≤ e := by
  have hb : double.binade = 2 ^ 52 := rfl
  have hl : double.leastPlace = -1074 := rfl
  unfold Format.read
  simp only [hb,hl]
  generalize x % double.signWeight = r
  split
  · exact .inr (.inr ⟨_,_,_,rfl,by omega,by omega,by omega⟩)
  · split
    · refine .inr (.inr ⟨_,_,_,rfl,?_,?_,?_⟩)
      · have := Nat.mod_lt r (show 0 < 2 ^ 52 by decide); omega
      · intro _; omega
      · omega
    · split
      · exact .inr (.inl ⟨_,rfl⟩)
      · exact .inl ⟨_,_,rfl⟩

theorem cut_zero (s : Bool) (n d : Nat) : Toward.zero.cut s n d = n / 2 ^ (min d (n.log2 + 2)) := by
  simp [Toward.cut,Nat.shiftLeft_eq]
theorem cut_even_dvd (s : Bool) (n d q : Nat) (h : n = q * 2 ^ (min d (n.log2 + 2))) : Toward.even.cut s n d = q := by
  have hp : 0 < 2 ^ (min d (n.log2 + 2)) := Nat.pow_pos (by decide)
  have h1 : n / 2 ^ (min d (n.log2 + 2)) = q := by
    conv => lhs; lhs; rw [h]
    exact Nat.mul_div_cancel _ hp
  have h2 : n % 2 ^ (min d (n.log2 + 2)) = 0 := by
    conv => lhs; lhs; rw [h]
    exact Nat.mul_mod_left _ _
  simp only [Toward.cut,Nat.shiftLeft_eq,Nat.one_mul,h1,h2]
  have h3 : ¬ (2 ^ (min d (n.log2 + 2)) = 0) := by omega
  simp [h3]

theorem log2_of {n k : Nat} (h1 : 2 ^ k ≤ n) (h2 : n < 2 ^ (k + 1)) : n.log2 = k := by
  have h0 : n ≠ 0 := by have := Nat.pow_pos (n := k) (show 0 < 2 by decide); omega
  have a : k ≤ n.log2 := (Nat.le_log2 h0).2 h1
  have b : n.log2 < k + 1 := (Nat.log2_lt h0).2 h2
  omega

theorem read_word (s : Bool) (K : Nat) (l : Int) (h1 : 2 ^ 52 ≤ K) (h2 : K < 2 ^ 53) (h3 : -1074 ≤ l) (h4 : l ≤ 900) :
    double.read (double.word s (min ((l - double.leastPlace).toNat * double.binade + K) double.infRung)) = .number s K l := by
  have hb : double.binade = 4503599627370496 := rfl
  have hl : double.leastPlace = -1074 := rfl
  have hi : double.infRung = 9218868437227405312 := rfl
  have hw : double.signWeight = 9223372036854775808 := rfl
  obtain ⟨p,hp⟩ : ∃ p : Nat,(l - double.leastPlace).toNat = p ∧ l = (p : Int) - 1074 ∧ p ≤ 1974 := ⟨(l + 1074).toNat,by rw [hl]; omega,by omega,by omega⟩
  obtain ⟨hp1,hp2,hp3⟩ := hp
  rw [hp1]
  have hm : min (p * double.binade + K) double.infRung = p * 4503599627370496 + K := by rw [hb,hi]; omega
  rw [hm]
  have hr : (p * 4503599627370496 + K) < 9223372036854775808 := by omega
  have key : ∀ w : Nat,w % 9223372036854775808 = p * 4503599627370496 + K → (w / 9223372036854775808 % 2 == 1) = s → double.read w = .number s K l := by
    intro w e1 e2
    unfold Format.read
    simp only [hb,hl,hi,hw,e1,e2]
    have c1 : ¬ p * 4503599627370496 + K < 4503599627370496 := by omega
    have c2 : p * 4503599627370496 + K < 9218868437227405312 := by omega
    have c3 : (p * 4503599627370496 + K) % 4503599627370496 = K - 4503599627370496 := by omega
    have c4 : (p * 4503599627370496 + K) / 4503599627370496 - 1 = p := by omega
    rw [if_neg c1,if_pos c2,c3,c4,hp2]
    have c5 : 4503599627370496 + (K - 4503599627370496) = K := by omega
    have c6 : (-1074 : Int) + (p : Int) = (p : Int) - 1074 := by omega
    rw [c5,c6]
  apply key
  · cases s with
    | false => show (p * 4503599627370496 + K) % 9223372036854775808 = _; omega
    | true => show (9223372036854775808 + (p * 4503599627370496 + K)) % 9223372036854775808 = _; omega
  · cases s with
    | false =>
      show ((p * 4503599627370496 + K) / 9223372036854775808 % 2 == 1) = false
      rw [Nat.div_eq_of_lt hr]; rfl
    | true =>
      show ((9223372036854775808 + (p * 4503599627370496 + K)) / 9223372036854775808 % 2 == 1) = true
      rw [show (9223372036854775808 + (p * 4503599627370496 + K)) / 9223372036854775808 = 1 by omega]; rfl
theorem read_zero (s : Bool) : double.read (double.word s 0) = .number s 0 (-1074) := by cases s <;> rfl

theorem signed_bound (s : Bool) (M : Nat) (h : M ≤ 2 ^ 63) (hs : s = false → M < 2 ^ 63) : -9223372036854775808 ≤ signed s M 0 ∧ signed s M 0 ≤ 9223372036854775807 := by
  unfold signed
  simp only [Nat.shiftLeft_zero]
  cases s with
  | false => have := hs rfl; simp only [Bool.false_eq_true,if_false]; omega
  | true => simp only [if_true]; omega

theorem whole_exact (s : Bool) (M : Nat) (h : M ≤ 2 ^ 63) (hM : M < 2 ^ 53 ∨ ∃ m e : Nat,M = m * 2 ^ e ∧ 2 ^ 52 ≤ m ∧ m < 2 ^ 53) :
    (double.read (double.write (.number s M 0))).toInt .zero = some (signed s M 0) := by
  have hl : double.leastPlace = -1074 := rfl
  have hf : (double.fractionBits : Int) = 52 := rfl
  unfold Format.write Format.nearest
  dsimp only
  by_cases h0 : M = 0
  · subst h0
    simp only [if_true]
    rw [read_zero]
    simp only [Datum.toInt,Datum.integral,cut_zero]
    simp
  · rw [if_neg h0]
    have hL1 : 2 ^ M.log2 ≤ M := Nat.log2_self_le h0
    have hL2 : M < 2 ^ (M.log2 + 1) := Nat.lt_log2_self
    have hL : M.log2 ≤ 63 := by
      have : M.log2 < 64 := (Nat.log2_lt h0).2 (by omega)
      omega
    have hlast : max ((0 : Int) + (M.log2 : Int) - (double.fractionBits : Int)) double.leastPlace = (M.log2 : Int) - 52 := by rw [hl,hf]; omega
    simp only [hlast]
    -- kept
    obtain ⟨K,l,hK,hK1,hK2,hlk,hdef⟩ : ∃ K : Nat,∃ l : Int,(l = (M.log2 : Int) - 52) ∧ 2 ^ 52 ≤ K ∧ K < 2 ^ 53 ∧ Toward.even.cut s (M <<< ((0 : Int) - ((M.log2 : Int) - 52)).toNat) (((M.log2 : Int) - 52) - 0).toNat = K ∧
        ((0 ≤ l → M = K * 2 ^ l.toNat) ∧ (l < 0 → K = M * 2 ^ (-l).toNat ∧ (-l).toNat ≤ 52)) := by
      by_cases hs : M.log2 ≤ 52
      · refine ⟨M * 2 ^ (52 - M.log2),(M.log2 : Int) - 52,rfl,?_,?_,?_,?_,?_⟩
        · calc 2 ^ 52 = 2 ^ M.log2 * 2 ^ (52 - M.log2) := by rw [← Nat.pow_add]; congr 1; omega
            _ ≤ M * 2 ^ (52 - M.log2) := Nat.mul_le_mul_right _ hL1
        · calc M * 2 ^ (52 - M.log2) < 2 ^ (M.log2 + 1) * 2 ^ (52 - M.log2) := Nat.mul_lt_mul_of_pos_right hL2 (Nat.pow_pos (by decide))
            _ = 2 ^ 53 := by rw [← Nat.pow_add]; congr 1; omega
        · have e1 : ((0 : Int) - ((M.log2 : Int) - 52)).toNat = 52 - M.log2 := by omega
          have e2 : (((M.log2 : Int) - 52) - 0).toNat = 0 := by omega
          rw [e1,e2]
          exact cut_even_dvd _ _ _ _ (by rw [Nat.zero_min,Nat.shiftLeft_eq]; simp)
        · intro hge
          have e : M.log2 = 52 := by omega
          rw [e]; simp
        · intro hlt
          have e : (-((M.log2 : Int) - 52)).toNat = 52 - M.log2 := by omega
          rw [e]; exact ⟨rfl,by omega⟩
      · obtain ⟨m,e,hme,hm1,hm2⟩ : ∃ m e : Nat,M = m * 2 ^ e ∧ 2 ^ 52 ≤ m ∧ m < 2 ^ 53 := by
          rcases hM with hM | hM
          · exfalso
            have : M.log2 < 53 := (Nat.log2_lt h0).2 hM
            omega
          · exact hM
        have hlog : M.log2 = 52 + e := by
          apply log2_of
          · rw [hme,Nat.pow_add]; exact Nat.mul_le_mul_right _ hm1
          · rw [hme,show 52 + e + 1 = 53 + e by omega,Nat.pow_add]; exact Nat.mul_lt_mul_of_pos_right hm2 (Nat.pow_pos (by decide))
        refine ⟨m,(M.log2 : Int) - 52,rfl,hm1,hm2,?_,?_,?_⟩
        · have e1 : ((0 : Int) - ((M.log2 : Int) - 52)).toNat = 0 := by omega
          have e2 : (((M.log2 : Int) - 52) - 0).toNat = e := by omega
          rw [e1,e2]
          refine cut_even_dvd _ _ _ _ ?_
          rw [Nat.shiftLeft_zero,hlog,show min e (52 + e + 2) = e by omega]; exact hme
        · intro _
          rw [show ((M.log2 : Int) - 52).toNat = e by omega]; exact hme
        · intro hlt; omega
    rw [hlk,← hK,read_word s K l hK1 hK2 (by omega) (by omega)]
    simp only [Datum.toInt,Datum.integral,cut_zero]
    have hKl : K.log2 = 52 := log2_of hK1 hK2
    have : (K <<< l.toNat) / 2 ^ (min (-l).toNat ((K <<< l.toNat).log2 + 2)) = M := by
      by_cases hge : 0 ≤ l
      · have e : (-l).toNat = 0 := by omega
        rw [e,Nat.zero_min,Nat.pow_zero,Nat.div_one,Nat.shiftLeft_eq]
        exact (hdef.1 hge).symm
      · have e : l.toNat = 0 := by omega
        obtain ⟨d1,d2⟩ := hdef.2 (by omega)
        rw [e,Nat.shiftLeft_zero,hKl,show min (-l).toNat (52 + 2) = (-l).toNat by omega,d1]
        exact Nat.mul_div_cancel _ (Nat.pow_pos (by decide))
    rw [this]

theorem ord_cmp (s t : Bool) (m n : Nat) (i j : Int) : Datum.order (.number s m i) (.number t n j) = some (compare (signed s m (i - min i j).toNat) (signed t n (j - min i j).toNat)) := rfl
theorem conv_ok (x : Nat) (h1 : feq x x = true) (h2 : ¬ fge x 4890909195324358656 = true) (h3 : ¬ flt x 14114281232179134464 = true) :
    truncV x = some (ftr x) ∧ (FloatKind.f64.decode (ftr x)).toInt .zero = some (ftz x) ∧ (-9223372036854775808 ≤ ftz x ∧ ftz x ≤ 9223372036854775807) := by
  have c1 : double.read 4890909195324358656 = .number false 4503599627370496 11 := rfl
  have c2 : double.read 14114281232179134464 = .number true 4503599627370496 11 := rfl
  have hfeq : feq x x = ((double.read x).order (double.read x) == some .eq) := rfl
  have hfge : fge x 4890909195324358656 = ((double.read x).order (double.read 4890909195324358656) == some .gt || (double.read x).order (double.read 4890909195324358656) == some .eq) := rfl
  have hflt : flt x 14114281232179134464 = ((double.read x).order (double.read 14114281232179134464) == some .lt) := rfl
  rw [hfeq] at h1; rw [hfge,c1] at h2; rw [hflt,c2] at h3
  rcases read_cases x with ⟨s,t,hx⟩ | ⟨s,hx⟩ | ⟨s,m,e,hx,hm,hn,he⟩
  · rw [hx] at h1; simp [Datum.order] at h1
  · rw [hx] at h2 h3
    cases s
    · simp [Datum.order] at h2
    · simp [Datum.order] at h3
  · have hd : FloatKind.f64.decode x = .number s m e := hx
    rw [hx] at h2 h3
    rw [ord_cmp] at h2 h3
    have ht : truncV x = some (double.write (.number s (Toward.zero.cut s (m <<< e.toNat) (-e).toNat) 0)) := by
      unfold truncV; rw [hd]; rfl
    have hftr : ftr x = double.write (.number s (Toward.zero.cut s (m <<< e.toNat) (-e).toNat) 0) := by unfold ftr; rw [ht]; rfl
    have hM : ∃ M,Toward.zero.cut s (m <<< e.toNat) (-e).toNat = M ∧ M ≤ 2 ^ 63 ∧ (s = false → M < 2 ^ 63) ∧ (M < 2 ^ 53 ∨ ∃ m e : Nat,M = m * 2 ^ e ∧ 2 ^ 52 ≤ m ∧ m < 2 ^ 53) := by
      by_cases hge : 0 ≤ e
      · obtain ⟨k,rfl⟩ : ∃ k : Nat,e = (k : Int) := ⟨e.toNat,by omega⟩
        have hm52 : 2 ^ 52 ≤ m := hn (by omega)
        have e1 : (-(k : Int)).toNat = 0 := by omega
        rw [cut_zero,e1,Nat.zero_min,Nat.pow_zero,Nat.div_one,Int.toNat_natCast,Nat.shiftLeft_eq]
        have hle : m * 2 ^ k ≤ 2 ^ 63 ∧ (s = false → m * 2 ^ k < 2 ^ 63) := by
          by_cases hk : k ≤ 11
          · have hp : 2 ^ k * 2 ^ (11 - k) = 2 ^ 11 := by rw [← Nat.pow_add]; congr 1; omega
            rw [show ((k : Int) - min (k : Int) 11).toNat = 0 by omega,show ((11 : Int) - min (k : Int) 11).toNat = 11 - k by omega] at h2 h3
            simp only [signed,Nat.shiftLeft_eq] at h2 h3
            have hpp : 0 < 2 ^ k := Nat.pow_pos (by decide)
            generalize 2 ^ (11 - k) = q at *
            generalize 2 ^ k = r at *
            cases s with
            | false =>
              simp only [Bool.false_eq_true,if_false] at h2
              have hlt : m < 4503599627370496 * q := by
                rcases Nat.lt_or_ge m (4503599627370496 * q) with hlt | hge2
                · exact hlt
                · exfalso; apply h2
                  rcases Nat.lt_or_eq_of_le hge2 with hgt | heq
                  · have : compare ((m * 2 ^ 0 : Nat) : Int) ((4503599627370496 * q : Nat) : Int) = .gt := Int.compare_eq_gt.2 (by omega)
                    rw [this]; rfl
                  · have : compare ((m * 2 ^ 0 : Nat) : Int) ((4503599627370496 * q : Nat) : Int) = .eq := Int.compare_eq_eq.2 (by omega)
                    rw [this]; rfl
              have : m * r < 4503599627370496 * q * r := Nat.mul_lt_mul_of_pos_right hlt hpp
              have e : 4503599627370496 * q * r = 2 ^ 63 := by rw [Nat.mul_assoc,Nat.mul_comm q r,hp]
              omega
            | true =>
              simp only [if_true] at h3
              have hle : m ≤ 4503599627370496 * q := by
                rcases Nat.lt_or_ge (4503599627370496 * q) m with hlt | hge2
                · exfalso; apply h3
                  have : compare (-((m * 2 ^ 0 : Nat) : Int)) (-((4503599627370496 * q : Nat) : Int)) = .lt := Int.compare_eq_lt.2 (by omega)
                  rw [this]; rfl
                · exact hge2
              have : m * r ≤ 4503599627370496 * q * r := Nat.mul_le_mul_right _ hle
              have e : 4503599627370496 * q * r = 2 ^ 63 := by rw [Nat.mul_assoc,Nat.mul_comm q r,hp]
              exact ⟨by omega,fun h => by cases h⟩
          · exfalso
            have hp : 2 ^ 12 ≤ 2 * 2 ^ (k - 11) * 2 ^ 11 := by
              have : 1 ≤ 2 ^ (k - 11) := Nat.one_le_two_pow
              omega
            have h2k : 2 ≤ 2 ^ (k - 11) := by
              calc 2 = 2 ^ 1 := rfl
                _ ≤ 2 ^ (k - 11) := Nat.pow_le_pow_right (by decide) (by omega)
            rw [show ((k : Int) - min (k : Int) 11).toNat = k - 11 by omega,show ((11 : Int) - min (k : Int) 11).toNat = 0 by omega] at h2 h3
            simp only [signed,Nat.shiftLeft_eq] at h2 h3
            have hbig : 4503599627370496 < m * 2 ^ (k - 11) := by
              have := Nat.mul_le_mul hm52 h2k
              omega
            generalize m * 2 ^ (k - 11) = z at *
            cases s with
            | false =>
              simp only [Bool.false_eq_true,if_false] at h2
              apply h2
              have : compare (z : Int) ((4503599627370496 * 2 ^ 0 : Nat) : Int) = .gt := Int.compare_eq_gt.2 (by omega)
              rw [this]; rfl
            | true =>
              simp only [if_true] at h3
              apply h3
              have : compare (-(z : Int)) (-((4503599627370496 * 2 ^ 0 : Nat) : Int)) = .lt := Int.compare_eq_lt.2 (by omega)
              rw [this]; rfl
        exact ⟨_,rfl,hle.1,hle.2,.inr ⟨m,k,rfl,hm52,hm⟩⟩
      · have e1 : e.toNat = 0 := by omega
        rw [cut_zero,e1,Nat.shiftLeft_zero]
        have hle : m / 2 ^ (min (-e).toNat (m.log2 + 2)) ≤ m := Nat.div_le_self _ _
        exact ⟨_,rfl,by omega,fun _ => by omega,.inl (by omega)⟩
    obtain ⟨M,hMe,hM1,hM2,hM3⟩ := hM
    rw [hMe] at ht hftr
    have hz := whole_exact s M hM1 hM3
    have hdz : (FloatKind.f64.decode (ftr x)).toInt .zero = some (signed s M 0) := by rw [hftr]; exact hz
    have hftz : ftz x = signed s M 0 := by unfold ftz; rw [hdz]; rfl
    refine ⟨by rw [ht,hftr],by rw [hdz,hftz],?_⟩
    rw [hftz]
    exact signed_bound s M hM1 hM2
end Go.Ab
namespace Go.Proofs.Ytdoobejjedpcgaa
open Go Go.Ab
set_option maxRecDepth 20000
noncomputable section
variable (fr : Fr) (st : St) (k : Kt)
theorem ty2 : gS.ty 2 = some { k := .int .i64,size := 1,agg := false,zero := [.int .i64 0] } := by kernel_rfl
theorem ty3 : gS.ty 3 = some { k := .int .i64,size := 1,agg := false,zero := [.int .i64 0] } := by kernel_rfl
theorem ty4 : gS.ty 4 = some { k := .bool,size := 1,agg := false,zero := [.bool false] } := by kernel_rfl
theorem ty5 : gS.ty 5 = some { k := .int .u8,size := 1,agg := false,zero := [.int .u8 0] } := by kernel_rfl
theorem ty9 : gS.ty 9 = some { k := .str,size := 1,agg := false,zero := [.str []] } := by kernel_rfl
theorem ty22 : gS.ty 22 = some { k := .slice 1 8 false [.int .i64 0],size := 1,agg := false,zero := [.osl 0 []] } := by kernel_rfl
theorem ty23 : gS.ty 23 = some { k := .pointer,size := 1,agg := false,zero := [.nilp] } := by kernel_rfl
theorem ty25 : gS.ty 25 = some { k := .struct [(0,1,false),(1,1,false)],size := 2,agg := true,zero := [.osl 0 [],.int .i64 0] } := by kernel_rfl
theorem ty26 : gS.ty 26 = some { k := .slice 4 48 true [.int .i64 0,.int .i64 0,.int .i64 0,.osl 0 []],size := 1,agg := false,zero := [.osl 0 []] } := by kernel_rfl
theorem ty29 : gS.ty 29 = some { k := .slice 13 144 true [.str [],.int .i64 0,.int .i64 0,.int .i64 0,.float .f64 0,.str [],.bool false,.int .i64 0,.int .i64 0,.float .f64 0,.str [],.bool false,.osl 0 []],size := 1,agg := false,zero := [.osl 0 []] } := by kernel_rfl
theorem ty31 : gS.ty 31 = some { k := .struct [(0,1,false),(1,1,false),(2,1,false),(3,1,false)],size := 4,agg := true,zero := [.int .i64 0,.int .i64 0,.int .i64 0,.osl 0 []] } := by kernel_rfl
theorem ty32 : gS.ty 32 = some { k := .slice 2 48 true [.osl 0 [],.osl 0 []],size := 1,agg := false,zero := [.osl 0 []] } := by kernel_rfl
theorem ty39 : gS.ty 39 = some { k := .struct [(0,1,false),(1,1,false)],size := 2,agg := true,zero := [.osl 0 [],.osl 0 []] } := by kernel_rfl
theorem ty42 : gS.ty 42 = some { k := .slice 6 64 true [.str [],.int .i64 0,.int .i64 0,.float .f64 0,.str [],.bool false],size := 1,agg := false,zero := [.osl 0 []] } := by kernel_rfl
theorem ty77 : gS.ty 77 = some { k := .slice 1 24 false [.osl 0 []],size := 1,agg := false,zero := [.osl 0 []] } := by kernel_rfl
theorem ty86 : gS.ty 86 = some { k := .float .f64,size := 1,agg := false,zero := [.float .f64 0] } := by kernel_rfl
theorem ty88 : gS.ty 88 = some { k := .struct [(0,1,false),(1,1,false),(2,1,false),(3,1,false),(4,1,false)],size := 5,agg := true,zero := [.int .i64 0,.int .i64 0,.float .f64 0,.str [],.bool false] } := by kernel_rfl
theorem ty89 : gS.ty 89 = some { k := .slice 5 48 true [.int .i64 0,.int .i64 0,.float .f64 0,.str [],.bool false],size := 1,agg := false,zero := [.osl 0 []] } := by kernel_rfl
theorem ty91 : gS.ty 91 = some { k := .struct [(0,1,false),(1,1,false),(2,5,true),(7,5,true),(12,1,false)],size := 13,agg := true,zero := [.str [],.int .i64 0,.int .i64 0,.int .i64 0,.float .f64 0,.str [],.bool false,.int .i64 0,.int .i64 0,.float .f64 0,.str [],.bool false,.osl 0 []] } := by kernel_rfl
theorem ty92 : gS.ty 92 = some { k := .array 5 1 false,size := 5,agg := true,zero := [.str [],.str [],.str [],.str [],.str []] } := by kernel_rfl
theorem ty95 : gS.ty 95 = some { k := .struct [(0,1,false),(1,5,true)],size := 6,agg := true,zero := [.str [],.int .i64 0,.int .i64 0,.float .f64 0,.str [],.bool false] } := by kernel_rfl
theorem ty117 : gS.ty 117 = some { k := .array 6 1 false,size := 6,agg := true,zero := [.str [],.str [],.str [],.str [],.str [],.str []] } := by kernel_rfl
theorem ty118 : gS.ty 118 = some { k := .array 6 1 false,size := 6,agg := true,zero := [.int .i64 0,.int .i64 0,.int .i64 0,.int .i64 0,.int .i64 0,.int .i64 0] } := by kernel_rfl
theorem ty122 : gS.ty 122 = some { k := .array 4 1 false,size := 4,agg := true,zero := [.str [],.str [],.str [],.str []] } := by kernel_rfl
theorem ty128 : gS.ty 128 = some { k := .int .u64,size := 1,agg := false,zero := [.int .u64 0] } := by kernel_rfl
theorem ty132 : gS.ty 132 = some { k := .array 14 1 false,size := 14,agg := true,zero := [.float .f64 0,.float .f64 0,.float .f64 0,.float .f64 0,.float .f64 0,.float .f64 0,.float .f64 0,.float .f64 0,.float .f64 0,.float .f64 0,.float .f64 0,.float .f64 0,.float .f64 0,.float .f64 0] } := by kernel_rfl
theorem eq88 : gS.eqs 88 = some [.int .i64,.int .i64,.float .f64,.str,.bool] := by kernel_rfl
theorem k123 (b : Nat) (fr : Fr) (st : St) : callStep gS (EvF gS) 123 [.float .f64 b] fr st = some (.ok (.val (.int .u64 b)) fr st) := rfl
theorem k140 (b v : Nat) (h : truncV b = some v) (fr : Fr) (st : St) : callStep gS (EvF gS) 140 [.float .f64 b] fr st = some (.ok (.val (.float .f64 v)) fr st) := by
  have e : gS.ext 140 = some .trunc := rfl
  unfold callStep
  simp only [e,extV,h,Option.map_some]
def fi136 : FI := { body := codeOf Try.f136,ntmps := 6,results := [.tmp 2],pers := [0,2],locals := [],pure := true,marks := [] }
theorem fi116_eq : gS.fn 136 = some fi136 := by kernel_rfl
theorem st136 (a0 : V) : startFr fi136 [a0] = { ps := [(0,.val a0),(2,.any)],ts := [],lc := [] } := rfl
def b136 : Code := mini (codeOf Try.f136)
def c136_2 : Code := .seq (codeN b136 5) .ret
theorem e136_2 : evK gS fi136 c136_2 fr st k = opsR gS fi136 [mv 3 0 86,
 mv 4 0 86,
 bop 5 .neq 86 3 4 86 4,
 asn 2 5 4] fr st (.seq .ret k) := evK_rs 1 rfl (by kernel_rfl)
def c136_0 : Code := .seq (codeN b136 2) c136_2
theorem e136_0 : evK gS fi136 c136_0 fr st k = opsR gS fi136 [op1 2 (.assign (.const (.bool false))) 4] fr st (.seq c136_2 k) := evK_rs 0 rfl (by kernel_rfl)
theorem m136 : mini fi136.body = c136_0 := by kernel_rfl
set_option maxHeartbeats 4000000 in
theorem c136 (x : Nat)  (st : St) : EvF gS 136 [.float .f64 x] st = some (.ret (.bool (!feq x x)) none,st) := by
  refine EvF_start fi116_eq (fun x h => by cases h) m136 ?_
  rw [st136]
  have hm : fi136.marks = [] := rfl
  have hl : fi136.locals = [] := rfl
  have hr : fi136.results = [.tmp 2] := rfl
  simp (config := { contextual := true,maxSteps := 10000000,maxDischargeDepth := 6 }) [-Int.not_le,-Int.not_lt,-Nat.not_le,-Nat.not_lt,ty4,ty86,hm,hl,hr,e136_2,e136_0]
  all_goals first | done | grind | omega | (trace_state; fail)
theorem k136 (x : Nat)  (fr : Fr) (st : St) : callStep gS (EvF gS) 136 [.float .f64 x] fr st = some (.ok (retE none (.bool (!feq x x))) fr st) :=
  call_pure rfl fi116_eq rfl (fun st => c136 x  st) (by simp)
def fi137 : FI := { body := codeOf Try.f137,ntmps := 9,results := [.tmp 4],pers := [0,1,4],locals := [],pure := true,marks := [] }
theorem fi117_eq : gS.fn 137 = some fi137 := by kernel_rfl
theorem st137 (a0 a1 : V) : startFr fi137 [a0,a1] = { ps := [(0,.val a0),(1,.val a1),(4,.any)],ts := [],lc := [] } := rfl
def b137 : Code := mini (codeOf Try.f137)
def c137_7 : Code := .seq (codeN b137 73) .ret
def c137_13 : Code := .seq (codeN b137 313) .ret
def c137_12 : Code := .cond (.tmp 7) c137_13 .skip
def c137_10 : Code := .seq (codeN b137 89) c137_12
def c137_6 : Code := .cond (.tmp 5) c137_7 c137_10
def c137_4 : Code := .seq (codeN b137 17) c137_6
def c137_17 : Code := .seq (codeN b137 11) .ret
def c137_2 : Code := .seq (.block 0 c137_4) c137_17
def c137_0 : Code := .seq (codeN b137 2) c137_2
theorem E137 : evK gS fi137 c137_7 fr st k = opsR gS fi137 [op1 4 (.assign (.const (.int .i64 (-1)))) 3] fr st (.seq .ret k) ∧
 evK gS fi137 c137_13 fr st k = opsR gS fi137 [op1 4 (.assign (.const (.int .i64 1))) 3] fr st (.seq .ret k) ∧
 evK gS fi137 c137_12 fr st k = condK gS fi137 (fr.op (.tmp 7)).bool? c137_13 .skip fr st k ∧
 (evK gS fi137 c137_10 fr st k = opsR gS fi137 [mv 8 1 4,
 asn 7 8 4] fr st (.seq c137_12 k)) ∧
 evK gS fi137 c137_6 fr st k = condK gS fi137 (fr.op (.tmp 5)).bool? c137_7 c137_10 fr st k ∧
 (evK gS fi137 c137_4 fr st k = opsR gS fi137 [mv 6 0 4,
 asn 5 6 4] fr st (.seq c137_6 k)) ∧
 evK gS fi137 c137_17 fr st k = opsR gS fi137 [op1 4 (.assign (.const (.int .i64 0))) 3] fr st (.seq .ret k) ∧
 evK gS fi137 c137_2 fr st k = evK gS fi137 c137_4 fr st (.blk 0 (.seq c137_17 k)) ∧
 evK gS fi137 c137_0 fr st k = opsR gS fi137 [op1 4 (.assign (.const (.int .i64 0))) 3] fr st (.seq c137_2 k) := ⟨evK_rs 2 rfl (by kernel_rfl),evK_rs 4 rfl (by kernel_rfl),rfl,evK_rs 3 rfl (by kernel_rfl),rfl,evK_rs 1 rfl (by kernel_rfl),evK_rs 5 rfl (by kernel_rfl),rfl,evK_rs 0 rfl (by kernel_rfl)⟩
theorem m137 : mini fi137.body = c137_0 := by kernel_rfl
set_option maxHeartbeats 4000000 in
theorem c137 (b : Bool) (a : Bool)  (st : St) : EvF gS 137 [.bool b,.bool a] st = some (.ret (.int .i64 (sgn b a)) none,st) := by
  refine EvF_start fi117_eq (fun x h => by cases h) m137 ?_
  rw [st137]
  have hm : fi137.marks = [] := rfl
  have hl : fi137.locals = [] := rfl
  have hr : fi137.results = [.tmp 4] := rfl
  simp (config := { contextual := true,maxSteps := 10000000,maxDischargeDepth := 6 }) [-Int.not_le,-Int.not_lt,-Nat.not_le,-Nat.not_lt,ty3,ty4,hm,hl,hr,E137]
  all_goals try simp (config := { contextual := true }) [-Int.not_le,-Int.not_lt,-Nat.not_le,-Nat.not_lt,sgn]
  all_goals first | done | grind | omega | (trace_state; fail)
theorem k137 (b : Bool) (a : Bool)  (fr : Fr) (st : St) : callStep gS (EvF gS) 137 [.bool b,.bool a] fr st = some (.ok (retE none (.int .i64 (sgn b a))) fr st) :=
  call_pure rfl fi117_eq rfl (fun st => c137 b a  st) (by simp)
def fi120 : FI := { body := codeOf Try.f120,ntmps := 19,results := [.tmp 4,.tmp 5],pers := [0,1,4,5],locals := [],pure := true,marks := [] }
theorem fi105_eq : gS.fn 120 = some fi120 := by kernel_rfl
theorem st120 (a0 a1 : V) : startFr fi120 [a0,a1] = { ps := [(0,.val a0),(1,.val a1),(4,.any),(5,.any)],ts := [],lc := [] } := rfl
def b120 : Code := mini (codeOf Try.f120)
def c120_6 : Code := .seq (codeN b120 37) .ret
def c120_5 : Code := .cond (.tmp 11) c120_6 .skip
def c120_3 : Code := .seq (codeN b120 9) c120_5
def c120_10 : Code := .seq (codeN b120 11) .ret
def c120_2 : Code := .seq c120_3 c120_10
def c120_0 : Code := .seq (codeN b120 2) c120_2
theorem E120 : (evK gS fi120 c120_6 fr st k = opsR gS fi120 [op1 4 (.assign (.const (.int .i64 0))) 3,
 op1 5 (.assign (.const (.bool false))) 4] fr st (.seq .ret k)) ∧
 evK gS fi120 c120_5 fr st k = condK gS fi120 (fr.op (.tmp 11)).bool? c120_6 .skip fr st k ∧
 (evK gS fi120 c120_3 fr st k = opsR gS fi120 [mv 6 0 86,
 cal 7 136 [(.tmp 6)] [86] 4,
 mv 8 7 4,
 mk (some 9) (.move (.tmp 1)) 86 (some (2,false)),
 mk (some 10) (.call { callee := (.value (.func 136)),args := #[(.tmp 9)],argTypes := #[86] }) 4 (some (2,false)),
 op1 11 (.pick (.tmp 8) (.const (.bool true)) (.tmp 10)) 4] fr st (.seq c120_5 k)) ∧
 (evK gS fi120 c120_10 fr st k = opsR gS fi120 [mv 12 0 86,
 mv 13 1 86,
 bop 14 .lss 86 12 13 86 4,
 mv 15 0 86,
 mv 16 1 86,
 bop 17 .gtr 86 15 16 86 4,
 cal 18 137 [(.tmp 14),(.tmp 17)] [4,4] 3,
 asn 4 18 3,
 op1 5 (.assign (.const (.bool true))) 4] fr st (.seq .ret k)) ∧
 evK gS fi120 c120_2 fr st k = evK gS fi120 c120_3 fr st (.seq c120_10 k) ∧
 (evK gS fi120 c120_0 fr st k = opsR gS fi120 [op1 4 (.assign (.const (.int .i64 0))) 3,
 op1 5 (.assign (.const (.bool false))) 4] fr st (.seq c120_2 k)) := ⟨evK_rs 2 rfl (by kernel_rfl),rfl,evK_rs 1 rfl (by kernel_rfl),evK_rs 3 rfl (by kernel_rfl),rfl,evK_rs 0 rfl (by kernel_rfl)⟩
theorem m120 : mini fi120.body = c120_0 := by kernel_rfl
set_option maxHeartbeats 4000000 in
theorem c120 (a : Nat) (b : Nat)  (st : St) : EvF gS 120 [.float .f64 a,.float .f64 b] st = some (.ret (.tuple [.int .i64 (fcmp a b).1,.bool (fcmp a b).2]) none,st) := by
  refine EvF_start fi105_eq (fun x h => by cases h) m120 ?_
  rw [st120]
  have hm : fi120.marks = [] := rfl
  have hl : fi120.locals = [] := rfl
  have hr : fi120.results = [.tmp 4,.tmp 5] := rfl
  simp (config := { contextual := true,maxSteps := 10000000,maxDischargeDepth := 6 }) [-Int.not_le,-Int.not_lt,-Nat.not_le,-Nat.not_lt,ty3,ty4,ty86,hm,hl,hr,k136,k137,E120]
  all_goals try simp (config := { contextual := true }) [-Int.not_le,-Int.not_lt,-Nat.not_le,-Nat.not_lt,fcmp]
  all_goals first | done | grind | omega | (trace_state; fail)
theorem k120 (a : Nat) (b : Nat)  (fr : Fr) (st : St) : callStep gS (EvF gS) 120 [.float .f64 a,.float .f64 b] fr st = some (.ok (retE none (.tuple [.int .i64 (fcmp a b).1,.bool (fcmp a b).2])) fr st) :=
  call_pure rfl fi105_eq rfl (fun st => c120 a b  st) (by simp)
def fi129 : FI := { body := codeOf Try.f129,ntmps := 23,results := [.tmp 4,.tmp 5],pers := [0,1,4,5],locals := [],pure := true,marks := [] }
theorem fi108_eq : gS.fn 129 = some fi129 := by kernel_rfl
theorem st129 (a0 a1 : V) : startFr fi129 [a0,a1] = { ps := [(0,.val a0),(1,.val a1),(4,.any),(5,.any)],ts := [],lc := [] } := rfl
def b129 : Code := mini (codeOf Try.f129)
def c129_7 : Code := .seq (codeN b129 73) .ret
def c129_13 : Code := .seq (codeN b129 313) .ret
def c129_19 : Code := .seq (codeN b129 1273) .ret
def c129_18 : Code := .cond (.tmp 19) c129_19 .skip
def c129_16 : Code := .seq (codeN b129 377) c129_18
def c129_12 : Code := .cond (.tmp 15) c129_13 c129_16
def c129_10 : Code := .seq (codeN b129 89) c129_12
def c129_6 : Code := .cond (.tmp 6) c129_7 c129_10
def c129_4 : Code := .seq (codeN b129 17) c129_6
def c129_23 : Code := .seq (codeN b129 11) .ret
def c129_2 : Code := .seq (.block 0 c129_4) c129_23
def c129_0 : Code := .seq (codeN b129 2) c129_2
theorem E129 : (evK gS fi129 c129_7 fr st k = opsR gS fi129 [op1 4 (.assign (.const (.int .i64 0))) 3,
 op1 5 (.assign (.const (.bool false))) 4] fr st (.seq .ret k)) ∧
 (evK gS fi129 c129_13 fr st k = opsR gS fi129 [op1 4 (.assign (.const (.int .i64 (-1)))) 3,
 op1 5 (.assign (.const (.bool true))) 4] fr st (.seq .ret k)) ∧
 (evK gS fi129 c129_19 fr st k = opsR gS fi129 [op1 4 (.assign (.const (.int .i64 1))) 3,
 op1 5 (.assign (.const (.bool true))) 4] fr st (.seq .ret k)) ∧
 evK gS fi129 c129_18 fr st k = condK gS fi129 (fr.op (.tmp 19)).bool? c129_19 .skip fr st k ∧
 (evK gS fi129 c129_16 fr st k = opsR gS fi129 [mv 20 0 86,
 mv 21 1 86,
 bop 22 .gtr 86 20 21 86 4,
 asn 19 22 4] fr st (.seq c129_18 k)) ∧
 evK gS fi129 c129_12 fr st k = condK gS fi129 (fr.op (.tmp 15)).bool? c129_13 c129_16 fr st k ∧
 (evK gS fi129 c129_10 fr st k = opsR gS fi129 [mv 16 0 86,
 mv 17 1 86,
 bop 18 .lss 86 16 17 86 4,
 asn 15 18 4] fr st (.seq c129_12 k)) ∧
 evK gS fi129 c129_6 fr st k = condK gS fi129 (fr.op (.tmp 6)).bool? c129_7 c129_10 fr st k ∧
 (evK gS fi129 c129_4 fr st k = opsR gS fi129 [mv 7 0 86,
 mv 8 0 86,
 bop 9 .neq 86 7 8 86 4,
 mv 10 9 4,
 mk (some 11) (.move (.tmp 1)) 86 (some (3,false)),
 mk (some 12) (.move (.tmp 1)) 86 (some (3,false)),
 mk (some 13) (.binOp .neq 86 (.tmp 11) (.tmp 12) 86) 4 (some (3,false)),
 op1 14 (.pick (.tmp 10) (.const (.bool true)) (.tmp 13)) 4,
 asn 6 14 4] fr st (.seq c129_6 k)) ∧
 (evK gS fi129 c129_23 fr st k = opsR gS fi129 [op1 4 (.assign (.const (.int .i64 0))) 3,
 op1 5 (.assign (.const (.bool true))) 4] fr st (.seq .ret k)) ∧
 evK gS fi129 c129_2 fr st k = evK gS fi129 c129_4 fr st (.blk 0 (.seq c129_23 k)) ∧
 (evK gS fi129 c129_0 fr st k = opsR gS fi129 [op1 4 (.assign (.const (.int .i64 0))) 3,
 op1 5 (.assign (.const (.bool false))) 4] fr st (.seq c129_2 k)) := ⟨evK_rs 2 rfl (by kernel_rfl),evK_rs 4 rfl (by kernel_rfl),evK_rs 6 rfl (by kernel_rfl),rfl,evK_rs 5 rfl (by kernel_rfl),rfl,evK_rs 3 rfl (by kernel_rfl),rfl,evK_rs 1 rfl (by kernel_rfl),evK_rs 7 rfl (by kernel_rfl),rfl,evK_rs 0 rfl (by kernel_rfl)⟩
theorem m129 : mini fi129.body = c129_0 := by kernel_rfl
set_option maxHeartbeats 4000000 in
theorem c129 (a : Nat) (b : Nat)  (st : St) : EvF gS 129 [.float .f64 a,.float .f64 b] st = some (.ret (.tuple [.int .i64 (fcmp a b).1,.bool (fcmp a b).2]) none,st) := by
  refine EvF_start fi108_eq (fun x h => by cases h) m129 ?_
  rw [st129]
  have hm : fi129.marks = [] := rfl
  have hl : fi129.locals = [] := rfl
  have hr : fi129.results = [.tmp 4,.tmp 5] := rfl
  simp (config := { contextual := true,maxSteps := 10000000,maxDischargeDepth := 6 }) [-Int.not_le,-Int.not_lt,-Nat.not_le,-Nat.not_lt,ty3,ty4,ty86,hm,hl,hr,E129]
  all_goals try simp (config := { contextual := true }) [-Int.not_le,-Int.not_lt,-Nat.not_le,-Nat.not_lt,fcmp,sgn]
  all_goals first | done | grind | omega | (trace_state; fail)
theorem k129 (a : Nat) (b : Nat)  (fr : Fr) (st : St) : callStep gS (EvF gS) 129 [.float .f64 a,.float .f64 b] fr st = some (.ok (retE none (.tuple [.int .i64 (fcmp a b).1,.bool (fcmp a b).2])) fr st) :=
  call_pure rfl fi108_eq rfl (fun st => c129 a b  st) (by simp)
def fi138 : FI := { body := codeOf Try.f138,ntmps := 7,results := [.tmp 2],pers := [0,2],locals := [],pure := true,marks := [] }
theorem fi118_eq : gS.fn 138 = some fi138 := by kernel_rfl
theorem st138 (a0 : V) : startFr fi138 [a0] = { ps := [(0,.val a0),(2,.any)],ts := [],lc := [] } := rfl
def b138 : Code := mini (codeOf Try.f138)
def c138_4 : Code := .seq (codeN b138 17) .ret
def c138_8 : Code := .seq (codeN b138 11) .ret
def c138_2 : Code := .seq (.cond (.const (.bool true)) c138_4 .skip) c138_8
def c138_0 : Code := .seq (codeN b138 2) c138_2
theorem E138 : (evK gS fi138 c138_4 fr st k = opsR gS fi138 [mv 3 0 86,
 cal 4 140 [(.tmp 3)] [86] 86,
 asn 2 4 86] fr st (.seq .ret k)) ∧
 (evK gS fi138 c138_8 fr st k = opsR gS fi138 [mv 5 0 86,
 cal 6 141 [(.tmp 5)] [86] 86,
 asn 2 6 86] fr st (.seq .ret k)) ∧
 evK gS fi138 c138_2 fr st k = condK gS fi138 (fr.op (.const (.bool true))).bool? c138_4 .skip fr st (.seq c138_8 k) ∧
 evK gS fi138 c138_0 fr st k = opsR gS fi138 [op1 2 (.assign (.const (.float .f64 0))) 86] fr st (.seq c138_2 k) := ⟨evK_rs 1 rfl (by kernel_rfl),evK_rs 2 rfl (by kernel_rfl),rfl,evK_rs 0 rfl (by kernel_rfl)⟩
theorem m138 : mini fi138.body = c138_0 := by kernel_rfl
set_option maxHeartbeats 4000000 in
theorem c138 (x : Nat) (h : truncV x = some (ftr x)) (st : St) : EvF gS 138 [.float .f64 x] st = some (.ret (.float .f64 (ftr x)) none,st) := by
  refine EvF_start fi118_eq (fun x h => by cases h) m138 ?_
  rw [st138]
  have hm : fi138.marks = [] := rfl
  have hl : fi138.locals = [] := rfl
  have hr : fi138.results = [.tmp 2] := rfl
  simp (config := { contextual := true,maxSteps := 10000000,maxDischargeDepth := 6 }) [-Int.not_le,-Int.not_lt,-Nat.not_le,-Nat.not_lt,ty86,hm,hl,hr,E138,k140 x (ftr x) h]
  all_goals first | done | grind | omega | (trace_state; fail)
theorem k138 (x : Nat) (h : truncV x = some (ftr x)) (fr : Fr) (st : St) : callStep gS (EvF gS) 138 [.float .f64 x] fr st = some (.ok (.val (.float .f64 (ftr x))) fr st) :=
  call_pure rfl fi118_eq rfl (fun st => c138 x h st) (by simp)
def fi121 : FI := { body := codeOf Try.f121,ntmps := 38,results := [.tmp 4,.tmp 5],pers := [0,1,4,5,6,7],locals := [],pure := true,marks := [] }
theorem fi106_eq : gS.fn 121 = some fi121 := by kernel_rfl
theorem st121 (a0 a1 : V) : startFr fi121 [a0,a1] = { ps := [(0,.val a0),(1,.val a1),(4,.any),(5,.any),(6,.any),(7,.any)],ts := [],lc := [] } := rfl
def b121 : Code := mini (codeOf Try.f121)
def c121_7 : Code := .seq (codeN b121 73) .ret
def c121_13 : Code := .seq (codeN b121 313) .ret
def c121_19 : Code := .seq (codeN b121 1273) .ret
def c121_18 : Code := .cond (.tmp 14) c121_19 .skip
def c121_16 : Code := .seq (codeN b121 377) c121_18
def c121_12 : Code := .cond (.tmp 11) c121_13 c121_16
def c121_10 : Code := .seq (codeN b121 89) c121_12
def c121_6 : Code := .cond (.tmp 8) c121_7 c121_10
def c121_4 : Code := .seq (codeN b121 17) c121_6
def c121_31 : Code := .seq (codeN b121 311) .ret
def c121_30 : Code := .cond (.tmp 23) c121_31 .skip
def c121_28 : Code := .seq (codeN b121 87) c121_30
def c121_26 : Code := .seq (codeN b121 39) c121_28
def c121_35 : Code := .seq (codeN b121 47) .ret
def c121_25 : Code := .seq c121_26 c121_35
def c121_23 : Code := .seq (codeN b121 11) c121_25
def c121_2 : Code := .seq (.block 0 c121_4) c121_23
def c121_0 : Code := .seq (codeN b121 2) c121_2
theorem E121 : (evK gS fi121 c121_7 fr st k = opsR gS fi121 [op1 4 (.assign (.const (.int .i64 0))) 3,
 op1 5 (.assign (.const (.bool false))) 4] fr st (.seq .ret k)) ∧
 (evK gS fi121 c121_13 fr st k = opsR gS fi121 [op1 4 (.assign (.const (.int .i64 (-1)))) 3,
 op1 5 (.assign (.const (.bool true))) 4] fr st (.seq .ret k)) ∧
 (evK gS fi121 c121_19 fr st k = opsR gS fi121 [op1 4 (.assign (.const (.int .i64 1))) 3,
 op1 5 (.assign (.const (.bool true))) 4] fr st (.seq .ret k)) ∧
 evK gS fi121 c121_18 fr st k = condK gS fi121 (fr.op (.tmp 14)).bool? c121_19 .skip fr st k ∧
 (evK gS fi121 c121_16 fr st k = opsR gS fi121 [mv 15 1 86,
 op1 16 (.binOp .lss 86 (.tmp 15) (.const (.float .f64 14114281232179134464)) 86) 4,
 asn 14 16 4] fr st (.seq c121_18 k)) ∧
 evK gS fi121 c121_12 fr st k = condK gS fi121 (fr.op (.tmp 11)).bool? c121_13 c121_16 fr st k ∧
 (evK gS fi121 c121_10 fr st k = opsR gS fi121 [mv 12 1 86,
 op1 13 (.binOp .geq 86 (.tmp 12) (.const (.float .f64 4890909195324358656)) 86) 4,
 asn 11 13 4] fr st (.seq c121_12 k)) ∧
 evK gS fi121 c121_6 fr st k = condK gS fi121 (fr.op (.tmp 8)).bool? c121_7 c121_10 fr st k ∧
 (evK gS fi121 c121_4 fr st k = opsR gS fi121 [mv 9 1 86,
 cal 10 136 [(.tmp 9)] [86] 4,
 asn 8 10 4] fr st (.seq c121_6 k)) ∧
 (evK gS fi121 c121_31 fr st k = opsR gS fi121 [mv 24 0 2,
 mv 25 7 2,
 bop 26 .lss 2 24 25 2 4,
 mv 27 0 2,
 mv 28 7 2,
 bop 29 .gtr 2 27 28 2 4,
 cal 30 137 [(.tmp 26),(.tmp 29)] [4,4] 3,
 asn 4 30 3,
 op1 5 (.assign (.const (.bool true))) 4] fr st (.seq .ret k)) ∧
 evK gS fi121 c121_30 fr st k = condK gS fi121 (fr.op (.tmp 23)).bool? c121_31 .skip fr st k ∧
 (evK gS fi121 c121_28 fr st k = opsR gS fi121 [mv 21 7 2,
 mv 22 0 2,
 bop 23 .neq 2 21 22 2 4] fr st (.seq c121_30 k)) ∧
 (evK gS fi121 c121_26 fr st k = opsR gS fi121 [mv 19 6 86,
 op1 20 (.convert 86 2 (.tmp 19)) 2,
 asn 7 20 2] fr st (.seq c121_28 k)) ∧
 (evK gS fi121 c121_35 fr st k = opsR gS fi121 [mv 31 6 86,
 mv 32 1 86,
 bop 33 .lss 86 31 32 86 4,
 mv 34 6 86,
 mv 35 1 86,
 bop 36 .gtr 86 34 35 86 4,
 cal 37 137 [(.tmp 33),(.tmp 36)] [4,4] 3,
 asn 4 37 3,
 op1 5 (.assign (.const (.bool true))) 4] fr st (.seq .ret k)) ∧
 evK gS fi121 c121_25 fr st k = evK gS fi121 c121_26 fr st (.seq c121_35 k) ∧
 (evK gS fi121 c121_23 fr st k = opsR gS fi121 [mv 17 1 86,
 cal 18 138 [(.tmp 17)] [86] 86,
 asn 6 18 86] fr st (.seq c121_25 k)) ∧
 evK gS fi121 c121_2 fr st k = evK gS fi121 c121_4 fr st (.blk 0 (.seq c121_23 k)) ∧
 (evK gS fi121 c121_0 fr st k = opsR gS fi121 [op1 4 (.assign (.const (.int .i64 0))) 3,
 op1 5 (.assign (.const (.bool false))) 4] fr st (.seq c121_2 k)) := ⟨evK_rs 2 rfl (by kernel_rfl),evK_rs 4 rfl (by kernel_rfl),evK_rs 6 rfl (by kernel_rfl),rfl,evK_rs 5 rfl (by kernel_rfl),rfl,evK_rs 3 rfl (by kernel_rfl),rfl,evK_rs 1 rfl (by kernel_rfl),evK_rs 10 rfl (by kernel_rfl),rfl,evK_rs 9 rfl (by kernel_rfl),evK_rs 8 rfl (by kernel_rfl),evK_rs 11 rfl (by kernel_rfl),rfl,evK_rs 7 rfl (by kernel_rfl),rfl,evK_rs 0 rfl (by kernel_rfl)⟩
theorem m121 : mini fi121.body = c121_0 := by kernel_rfl
set_option maxHeartbeats 4000000 in
theorem c121 (n : Int) (x : Nat)  (st : St) : EvF gS 121 [.int .i64 n,.float .f64 x] st = some (.ret (.tuple [.int .i64 (icmp n x).1,.bool (icmp n x).2]) none,st) := by
  refine EvF_start fi106_eq (fun x h => by cases h) m121 ?_
  rw [st121]
  have hm : fi121.marks = [] := rfl
  have hl : fi121.locals = [] := rfl
  have hr : fi121.results = [.tmp 4,.tmp 5] := rfl
  by_cases h1 : feq x x = true
  · by_cases h2 : fge x 4890909195324358656 = true
    · simp (config := { contextual := true,maxSteps := 10000000 }) [icmp,sgn,h1,h2,-Int.not_le,-Int.not_lt,-Nat.not_le,-Nat.not_lt,ty2,ty3,ty4,ty86,hm,hl,hr,k136,k137,E121]
    · by_cases h3 : flt x 14114281232179134464 = true
      · simp (config := { contextual := true,maxSteps := 10000000 }) [icmp,sgn,h1,h2,h3,-Int.not_le,-Int.not_lt,-Nat.not_le,-Nat.not_lt,ty2,ty3,ty4,ty86,hm,hl,hr,k136,k137,E121]
      · obtain ⟨e1,e2,e3,e4⟩ := conv_ok x h1 h2 h3
        have e5 : IntKind.min .i64 ≤ ftz x := e3
        have e6 : ftz x ≤ IntKind.max .i64 := e4
        by_cases h4 : ftz x = n
        · subst h4
          simp (config := { contextual := true,maxSteps := 10000000 }) [icmp,h1,h2,h3,k138 x e1,e2,e3,e4,e5,e6,-Int.not_le,-Int.not_lt,-Nat.not_le,-Nat.not_lt,ty2,ty3,ty4,ty86,hm,hl,hr,k136,k137,E121]
          skip
        · skip
          have h5 : ¬ n = ftz x := fun h => h4 h.symm
          simp (config := { contextual := true,maxSteps := 10000000 }) [icmp,h1,h2,h3,h4,h5,k138 x e1,e2,e3,e4,e5,e6,-Int.not_le,-Int.not_lt,-Nat.not_le,-Nat.not_lt,ty2,ty3,ty4,ty86,hm,hl,hr,k136,k137,E121]
          skip
  · simp (config := { contextual := true,maxSteps := 10000000 }) [icmp,sgn,h1,-Int.not_le,-Int.not_lt,-Nat.not_le,-Nat.not_lt,ty2,ty3,ty4,ty86,hm,hl,hr,k136,k137,E121]
theorem k121 (n : Int) (x : Nat)  (fr : Fr) (st : St) : callStep gS (EvF gS) 121 [.int .i64 n,.float .f64 x] fr st = some (.ok (retE none (.tuple [.int .i64 (icmp n x).1,.bool (icmp n x).2])) fr st) :=
  call_pure rfl fi106_eq rfl (fun st => c121 n x  st) (by simp)
def fi128 : FI := { body := codeOf Try.f128,ntmps := 38,results := [.tmp 4,.tmp 5],pers := [0,1,4,5,6,7],locals := [],pure := true,marks := [] }
theorem fi107_eq : gS.fn 128 = some fi128 := by kernel_rfl
theorem st128 (a0 a1 : V) : startFr fi128 [a0,a1] = { ps := [(0,.val a0),(1,.val a1),(4,.any),(5,.any),(6,.any),(7,.any)],ts := [],lc := [] } := rfl
def b128 : Code := mini (codeOf Try.f128)
def c128_7 : Code := .seq (codeN b128 73) .ret
def c128_13 : Code := .seq (codeN b128 313) .ret
def c128_19 : Code := .seq (codeN b128 1273) .ret
def c128_18 : Code := .cond (.tmp 15) c128_19 .skip
def c128_16 : Code := .seq (codeN b128 377) c128_18
def c128_12 : Code := .cond (.tmp 12) c128_13 c128_16
def c128_10 : Code := .seq (codeN b128 89) c128_12
def c128_6 : Code := .cond (.tmp 8) c128_7 c128_10
def c128_4 : Code := .seq (codeN b128 17) c128_6
def c128_32 : Code := .seq (codeN b128 591) .ret
def c128_38 : Code := .seq (codeN b128 2511) .ret
def c128_44 : Code := .seq (codeN b128 10191) .ret
def c128_50 : Code := .seq (codeN b128 40911) .ret
def c128_49 : Code := .cond (.tmp 34) c128_50 .skip
def c128_47 : Code := .seq (codeN b128 12239) c128_49
def c128_43 : Code := .cond (.tmp 30) c128_44 c128_47
def c128_41 : Code := .seq (codeN b128 3023) c128_43
def c128_37 : Code := .cond (.tmp 26) c128_38 c128_41
def c128_35 : Code := .seq (codeN b128 719) c128_37
def c128_31 : Code := .cond (.tmp 22) c128_32 c128_35
def c128_29 : Code := .seq (codeN b128 143) c128_31
def c128_54 : Code := .seq (codeN b128 95) .ret
def c128_27 : Code := .seq (.block 1 c128_29) c128_54
def c128_25 : Code := .seq (codeN b128 23) c128_27
def c128_23 : Code := .seq (codeN b128 11) c128_25
def c128_2 : Code := .seq (.block 0 c128_4) c128_23
def c128_0 : Code := .seq (codeN b128 2) c128_2
theorem E128 : (evK gS fi128 c128_7 fr st k = opsR gS fi128 [op1 4 (.assign (.const (.int .i64 0))) 3,
 op1 5 (.assign (.const (.bool false))) 4] fr st (.seq .ret k)) ∧
 (evK gS fi128 c128_13 fr st k = opsR gS fi128 [op1 4 (.assign (.const (.int .i64 (-1)))) 3,
 op1 5 (.assign (.const (.bool true))) 4] fr st (.seq .ret k)) ∧
 (evK gS fi128 c128_19 fr st k = opsR gS fi128 [op1 4 (.assign (.const (.int .i64 1))) 3,
 op1 5 (.assign (.const (.bool true))) 4] fr st (.seq .ret k)) ∧
 evK gS fi128 c128_18 fr st k = condK gS fi128 (fr.op (.tmp 15)).bool? c128_19 .skip fr st k ∧
 (evK gS fi128 c128_16 fr st k = opsR gS fi128 [mv 16 1 86,
 op1 17 (.binOp .lss 86 (.tmp 16) (.const (.float .f64 14114281232179134464)) 86) 4,
 asn 15 17 4] fr st (.seq c128_18 k)) ∧
 evK gS fi128 c128_12 fr st k = condK gS fi128 (fr.op (.tmp 12)).bool? c128_13 c128_16 fr st k ∧
 (evK gS fi128 c128_10 fr st k = opsR gS fi128 [mv 13 1 86,
 op1 14 (.binOp .geq 86 (.tmp 13) (.const (.float .f64 4890909195324358656)) 86) 4,
 asn 12 14 4] fr st (.seq c128_12 k)) ∧
 evK gS fi128 c128_6 fr st k = condK gS fi128 (fr.op (.tmp 8)).bool? c128_7 c128_10 fr st k ∧
 (evK gS fi128 c128_4 fr st k = opsR gS fi128 [mv 9 1 86,
 mv 10 1 86,
 bop 11 .neq 86 9 10 86 4,
 asn 8 11 4] fr st (.seq c128_6 k)) ∧
 (evK gS fi128 c128_32 fr st k = opsR gS fi128 [op1 4 (.assign (.const (.int .i64 (-1)))) 3,
 op1 5 (.assign (.const (.bool true))) 4] fr st (.seq .ret k)) ∧
 (evK gS fi128 c128_38 fr st k = opsR gS fi128 [op1 4 (.assign (.const (.int .i64 1))) 3,
 op1 5 (.assign (.const (.bool true))) 4] fr st (.seq .ret k)) ∧
 (evK gS fi128 c128_44 fr st k = opsR gS fi128 [op1 4 (.assign (.const (.int .i64 (-1)))) 3,
 op1 5 (.assign (.const (.bool true))) 4] fr st (.seq .ret k)) ∧
 (evK gS fi128 c128_50 fr st k = opsR gS fi128 [op1 4 (.assign (.const (.int .i64 1))) 3,
 op1 5 (.assign (.const (.bool true))) 4] fr st (.seq .ret k)) ∧
 evK gS fi128 c128_49 fr st k = condK gS fi128 (fr.op (.tmp 34)).bool? c128_50 .skip fr st k ∧
 (evK gS fi128 c128_47 fr st k = opsR gS fi128 [mv 35 6 86,
 mv 36 1 86,
 bop 37 .gtr 86 35 36 86 4,
 asn 34 37 4] fr st (.seq c128_49 k)) ∧
 evK gS fi128 c128_43 fr st k = condK gS fi128 (fr.op (.tmp 30)).bool? c128_44 c128_47 fr st k ∧
 (evK gS fi128 c128_41 fr st k = opsR gS fi128 [mv 31 6 86,
 mv 32 1 86,
 bop 33 .lss 86 31 32 86 4,
 asn 30 33 4] fr st (.seq c128_43 k)) ∧
 evK gS fi128 c128_37 fr st k = condK gS fi128 (fr.op (.tmp 26)).bool? c128_38 c128_41 fr st k ∧
 (evK gS fi128 c128_35 fr st k = opsR gS fi128 [mv 27 0 2,
 mv 28 7 2,
 bop 29 .gtr 2 27 28 2 4,
 asn 26 29 4] fr st (.seq c128_37 k)) ∧
 evK gS fi128 c128_31 fr st k = condK gS fi128 (fr.op (.tmp 22)).bool? c128_32 c128_35 fr st k ∧
 (evK gS fi128 c128_29 fr st k = opsR gS fi128 [mv 23 0 2,
 mv 24 7 2,
 bop 25 .lss 2 23 24 2 4,
 asn 22 25 4] fr st (.seq c128_31 k)) ∧
 (evK gS fi128 c128_54 fr st k = opsR gS fi128 [op1 4 (.assign (.const (.int .i64 0))) 3,
 op1 5 (.assign (.const (.bool true))) 4] fr st (.seq .ret k)) ∧
 evK gS fi128 c128_27 fr st k = evK gS fi128 c128_29 fr st (.blk 1 (.seq c128_54 k)) ∧
 (evK gS fi128 c128_25 fr st k = opsR gS fi128 [mv 20 6 86,
 op1 21 (.convert 86 2 (.tmp 20)) 2,
 asn 7 21 2] fr st (.seq c128_27 k)) ∧
 (evK gS fi128 c128_23 fr st k = opsR gS fi128 [mv 18 1 86,
 cal 19 138 [(.tmp 18)] [86] 86,
 asn 6 19 86] fr st (.seq c128_25 k)) ∧
 evK gS fi128 c128_2 fr st k = evK gS fi128 c128_4 fr st (.blk 0 (.seq c128_23 k)) ∧
 (evK gS fi128 c128_0 fr st k = opsR gS fi128 [op1 4 (.assign (.const (.int .i64 0))) 3,
 op1 5 (.assign (.const (.bool false))) 4] fr st (.seq c128_2 k)) := ⟨evK_rs 2 rfl (by kernel_rfl),evK_rs 4 rfl (by kernel_rfl),evK_rs 6 rfl (by kernel_rfl),rfl,evK_rs 5 rfl (by kernel_rfl),rfl,evK_rs 3 rfl (by kernel_rfl),rfl,evK_rs 1 rfl (by kernel_rfl),evK_rs 10 rfl (by kernel_rfl),evK_rs 12 rfl (by kernel_rfl),evK_rs 14 rfl (by kernel_rfl),evK_rs 16 rfl (by kernel_rfl),rfl,evK_rs 15 rfl (by kernel_rfl),rfl,evK_rs 13 rfl (by kernel_rfl),rfl,evK_rs 11 rfl (by kernel_rfl),rfl,evK_rs 9 rfl (by kernel_rfl),evK_rs 17 rfl (by kernel_rfl),rfl,evK_rs 8 rfl (by kernel_rfl),evK_rs 7 rfl (by kernel_rfl),rfl,evK_rs 0 rfl (by kernel_rfl)⟩
theorem m128 : mini fi128.body = c128_0 := by kernel_rfl
set_option maxHeartbeats 4000000 in
theorem c128 (n : Int) (x : Nat)  (st : St) : EvF gS 128 [.int .i64 n,.float .f64 x] st = some (.ret (.tuple [.int .i64 (icmp n x).1,.bool (icmp n x).2]) none,st) := by
  refine EvF_start fi107_eq (fun x h => by cases h) m128 ?_
  rw [st128]
  have hm : fi128.marks = [] := rfl
  have hl : fi128.locals = [] := rfl
  have hr : fi128.results = [.tmp 4,.tmp 5] := rfl
  by_cases h1 : feq x x = true
  · by_cases h2 : fge x 4890909195324358656 = true
    · simp (config := { contextual := true,maxSteps := 10000000 }) [icmp,sgn,h1,h2,-Int.not_le,-Int.not_lt,-Nat.not_le,-Nat.not_lt,ty2,ty3,ty4,ty86,hm,hl,hr,E128]
    · by_cases h3 : flt x 14114281232179134464 = true
      · simp (config := { contextual := true,maxSteps := 10000000 }) [icmp,sgn,h1,h2,h3,-Int.not_le,-Int.not_lt,-Nat.not_le,-Nat.not_lt,ty2,ty3,ty4,ty86,hm,hl,hr,E128]
      · obtain ⟨e1,e2,e3,e4⟩ := conv_ok x h1 h2 h3
        have e5 : IntKind.min .i64 ≤ ftz x := e3
        have e6 : ftz x ≤ IntKind.max .i64 := e4
        by_cases h4 : ftz x = n
        · subst h4
          simp (config := { contextual := true,maxSteps := 10000000 }) [icmp,h1,h2,h3,k138 x e1,e2,e3,e4,e5,e6,-Int.not_le,-Int.not_lt,-Nat.not_le,-Nat.not_lt,ty2,ty3,ty4,ty86,hm,hl,hr,E128]
          simp (config := { contextual := true }) [sgn]
        · skip
          have h5 : ¬ n = ftz x := fun h => h4 h.symm
          rcases Int.lt_or_gt_of_ne h5 with h6 | h6
          · have h7 : ¬ ftz x < n := by omega
            simp (config := { contextual := true,maxSteps := 10000000 }) [icmp,h1,h2,h3,h4,h5,h6,h7,sgn,k138 x e1,e2,e3,e4,e5,e6,-Int.not_le,-Int.not_lt,-Nat.not_le,-Nat.not_lt,ty2,ty3,ty4,ty86,hm,hl,hr,E128]
          have h7 : ¬ n < ftz x := by omega
          simp (config := { contextual := true,maxSteps := 10000000 }) [icmp,h1,h2,h3,h4,h5,h6,h7,sgn,k138 x e1,e2,e3,e4,e5,e6,-Int.not_le,-Int.not_lt,-Nat.not_le,-Nat.not_lt,ty2,ty3,ty4,ty86,hm,hl,hr,E128]
  · simp (config := { contextual := true,maxSteps := 10000000 }) [icmp,sgn,h1,-Int.not_le,-Int.not_lt,-Nat.not_le,-Nat.not_lt,ty2,ty3,ty4,ty86,hm,hl,hr,E128]
theorem k128 (n : Int) (x : Nat)  (fr : Fr) (st : St) : callStep gS (EvF gS) 128 [.int .i64 n,.float .f64 x] fr st = some (.ok (retE none (.tuple [.int .i64 (icmp n x).1,.bool (icmp n x).2])) fr st) :=
  call_pure rfl fi107_eq rfl (fun st => c128 n x  st) (by simp)
def fi139 : FI := { body := codeOf Try.f139,ntmps := 9,results := [.tmp 2],pers := [0,2],locals := [],pure := true,marks := [] }
theorem fi119_eq : gS.fn 139 = some fi139 := by kernel_rfl
theorem st139 (a0 : V) : startFr fi139 [a0] = { ps := [(0,.val a0),(2,.any)],ts := [],lc := [] } := rfl
def b139 : Code := mini (codeOf Try.f139)
def c139_6 : Code := .seq (codeN b139 37) .ret
def c139_5 : Code := .cond (.tmp 4) c139_6 .skip
def c139_3 : Code := .seq (codeN b139 9) c139_5
def c139_14 : Code := .seq (codeN b139 75) .ret
def c139_13 : Code := .cond (.tmp 6) c139_14 .skip
def c139_11 : Code := .seq (codeN b139 19) c139_13
def c139_18 : Code := .seq (codeN b139 23) .ret
def c139_10 : Code := .seq c139_11 c139_18
def c139_2 : Code := .seq c139_3 c139_10
def c139_0 : Code := .seq (codeN b139 2) c139_2
theorem E139 : evK gS fi139 c139_6 fr st k = opsR gS fi139 [op1 2 (.assign (.const (.int .u64 9221120237041090560))) 128] fr st (.seq .ret k) ∧
 evK gS fi139 c139_5 fr st k = condK gS fi139 (fr.op (.tmp 4)).bool? c139_6 .skip fr st k ∧
 (evK gS fi139 c139_3 fr st k = opsR gS fi139 [mv 3 0 86,
 cal 4 136 [(.tmp 3)] [86] 4] fr st (.seq c139_5 k)) ∧
 evK gS fi139 c139_14 fr st k = opsR gS fi139 [op1 2 (.assign (.const (.int .u64 0))) 128] fr st (.seq .ret k) ∧
 evK gS fi139 c139_13 fr st k = condK gS fi139 (fr.op (.tmp 6)).bool? c139_14 .skip fr st k ∧
 (evK gS fi139 c139_11 fr st k = opsR gS fi139 [mv 5 0 86,
 op1 6 (.binOp .eql 86 (.tmp 5) (.const (.float .f64 0)) 86) 4] fr st (.seq c139_13 k)) ∧
 (evK gS fi139 c139_18 fr st k = opsR gS fi139 [mv 7 0 86,
 cal 8 123 [(.tmp 7)] [86] 128,
 asn 2 8 128] fr st (.seq .ret k)) ∧
 evK gS fi139 c139_10 fr st k = evK gS fi139 c139_11 fr st (.seq c139_18 k) ∧
 evK gS fi139 c139_2 fr st k = evK gS fi139 c139_3 fr st (.seq c139_10 k) ∧
 evK gS fi139 c139_0 fr st k = opsR gS fi139 [op1 2 (.assign (.const (.int .u64 0))) 128] fr st (.seq c139_2 k) := ⟨evK_rs 2 rfl (by kernel_rfl),rfl,evK_rs 1 rfl (by kernel_rfl),evK_rs 4 rfl (by kernel_rfl),rfl,evK_rs 3 rfl (by kernel_rfl),evK_rs 5 rfl (by kernel_rfl),rfl,rfl,evK_rs 0 rfl (by kernel_rfl)⟩
theorem m139 : mini fi139.body = c139_0 := by kernel_rfl
set_option maxHeartbeats 4000000 in
theorem c139 (x : Nat)  (st : St) : EvF gS 139 [.float .f64 x] st = some (.ret (.int .u64 (fbits x)) none,st) := by
  refine EvF_start fi119_eq (fun x h => by cases h) m139 ?_
  rw [st139]
  have hm : fi139.marks = [] := rfl
  have hl : fi139.locals = [] := rfl
  have hr : fi139.results = [.tmp 2] := rfl
  simp (config := { contextual := true,maxSteps := 10000000,maxDischargeDepth := 6 }) [-Int.not_le,-Int.not_lt,-Nat.not_le,-Nat.not_lt,ty4,ty86,ty128,hm,hl,hr,k123,k136,E139]
  all_goals try simp (config := { contextual := true }) [-Int.not_le,-Int.not_lt,-Nat.not_le,-Nat.not_lt,fbits]
  all_goals first | done | grind | omega | (trace_state; fail)
theorem k139 (x : Nat)  (fr : Fr) (st : St) : callStep gS (EvF gS) 139 [.float .f64 x] fr st = some (.ok (retE none (.int .u64 (fbits x))) fr st) :=
  call_pure rfl fi119_eq rfl (fun st => c139 x  st) (by simp)
def fi103 : FI := { body := codeOf Try.f103,ntmps := 10,results := [.tmp 2],pers := [0,2],locals := [],pure := true,marks := [] }
theorem fi110_eq : gS.fn 103 = some fi103 := by kernel_rfl
theorem st103 (a0 : V) : startFr fi103 [a0] = { ps := [(0,.val a0),(2,.any)],ts := [],lc := [] } := rfl
def b103 : Code := mini (codeOf Try.f103)
def c103_6 : Code := .seq (codeN b103 37) .ret
def c103_5 : Code := .cond (.tmp 5) c103_6 .skip
def c103_3 : Code := .seq (codeN b103 9) c103_5
def c103_14 : Code := .seq (codeN b103 75) .ret
def c103_13 : Code := .cond (.tmp 7) c103_14 .skip
def c103_11 : Code := .seq (codeN b103 19) c103_13
def c103_18 : Code := .seq (codeN b103 23) .ret
def c103_10 : Code := .seq c103_11 c103_18
def c103_2 : Code := .seq c103_3 c103_10
def c103_0 : Code := .seq (codeN b103 2) c103_2
theorem E103 : evK gS fi103 c103_6 fr st k = opsR gS fi103 [op1 2 (.assign (.const (.int .u64 9221120237041090560))) 128] fr st (.seq .ret k) ∧
 evK gS fi103 c103_5 fr st k = condK gS fi103 (fr.op (.tmp 5)).bool? c103_6 .skip fr st k ∧
 (evK gS fi103 c103_3 fr st k = opsR gS fi103 [mv 3 0 86,
 mv 4 0 86,
 bop 5 .neq 86 3 4 86 4] fr st (.seq c103_5 k)) ∧
 evK gS fi103 c103_14 fr st k = opsR gS fi103 [op1 2 (.assign (.const (.int .u64 0))) 128] fr st (.seq .ret k) ∧
 evK gS fi103 c103_13 fr st k = condK gS fi103 (fr.op (.tmp 7)).bool? c103_14 .skip fr st k ∧
 (evK gS fi103 c103_11 fr st k = opsR gS fi103 [mv 6 0 86,
 op1 7 (.binOp .eql 86 (.tmp 6) (.const (.float .f64 0)) 86) 4] fr st (.seq c103_13 k)) ∧
 (evK gS fi103 c103_18 fr st k = opsR gS fi103 [mv 8 0 86,
 cal 9 123 [(.tmp 8)] [86] 128,
 asn 2 9 128] fr st (.seq .ret k)) ∧
 evK gS fi103 c103_10 fr st k = evK gS fi103 c103_11 fr st (.seq c103_18 k) ∧
 evK gS fi103 c103_2 fr st k = evK gS fi103 c103_3 fr st (.seq c103_10 k) ∧
 evK gS fi103 c103_0 fr st k = opsR gS fi103 [op1 2 (.assign (.const (.int .u64 0))) 128] fr st (.seq c103_2 k) := ⟨evK_rs 2 rfl (by kernel_rfl),rfl,evK_rs 1 rfl (by kernel_rfl),evK_rs 4 rfl (by kernel_rfl),rfl,evK_rs 3 rfl (by kernel_rfl),evK_rs 5 rfl (by kernel_rfl),rfl,rfl,evK_rs 0 rfl (by kernel_rfl)⟩
theorem m103 : mini fi103.body = c103_0 := by kernel_rfl
set_option maxHeartbeats 4000000 in
theorem c103 (x : Nat)  (st : St) : EvF gS 103 [.float .f64 x] st = some (.ret (.int .u64 (fbits x)) none,st) := by
  refine EvF_start fi110_eq (fun x h => by cases h) m103 ?_
  rw [st103]
  have hm : fi103.marks = [] := rfl
  have hl : fi103.locals = [] := rfl
  have hr : fi103.results = [.tmp 2] := rfl
  simp (config := { contextual := true,maxSteps := 10000000,maxDischargeDepth := 6 }) [-Int.not_le,-Int.not_lt,-Nat.not_le,-Nat.not_lt,ty4,ty86,ty128,hm,hl,hr,k123,E103]
  all_goals try simp (config := { contextual := true }) [-Int.not_le,-Int.not_lt,-Nat.not_le,-Nat.not_lt,fbits]
  all_goals first | done | grind | omega | (trace_state; fail)
theorem k103 (x : Nat)  (fr : Fr) (st : St) : callStep gS (EvF gS) 103 [.float .f64 x] fr st = some (.ok (retE none (.int .u64 (fbits x))) fr st) :=
  call_pure rfl fi110_eq rfl (fun st => c103 x  st) (by simp)
theorem x103 : gS.ext 103 = none := rfl
theorem p103 : fi103.pure = true := rfl
def fi122 : FI := { body := codeOf Try.f122,ntmps := 10,results := [.tmp 4],pers := [0,1,4],locals := [],pure := true,marks := [] }
theorem fi109_eq : gS.fn 122 = some fi122 := by kernel_rfl
theorem st122 (a0 a1 : V) : startFr fi122 [a0,a1] = { ps := [(0,.val a0),(1,.val a1),(4,.any)],ts := [],lc := [] } := rfl
def b122 : Code := mini (codeOf Try.f122)
def c122_2 : Code := .seq (codeN b122 5) .ret
theorem e122_2 : evK gS fi122 c122_2 fr st k = opsR gS fi122 [mv 5 0 86,
 cal 6 139 [(.tmp 5)] [86] 128,
 mv 7 1 86,
 cal 8 139 [(.tmp 7)] [86] 128,
 bop 9 .eql 128 6 8 128 4,
 asn 4 9 4] fr st (.seq .ret k) := evK_rs 1 rfl (by kernel_rfl)
def c122_0 : Code := .seq (codeN b122 2) c122_2
theorem e122_0 : evK gS fi122 c122_0 fr st k = opsR gS fi122 [op1 4 (.assign (.const (.bool false))) 4] fr st (.seq c122_2 k) := evK_rs 0 rfl (by kernel_rfl)
theorem m122 : mini fi122.body = c122_0 := by kernel_rfl
set_option maxHeartbeats 4000000 in
theorem c122 (a : Nat) (b : Nat)  (st : St) : EvF gS 122 [.float .f64 a,.float .f64 b] st = some (.ret (.bool (fbits a = fbits b)) none,st) := by
  refine EvF_start fi109_eq (fun x h => by cases h) m122 ?_
  rw [st122]
  have hm : fi122.marks = [] := rfl
  have hl : fi122.locals = [] := rfl
  have hr : fi122.results = [.tmp 4] := rfl
  simp (config := { contextual := true,maxSteps := 10000000,maxDischargeDepth := 6 }) [-Int.not_le,-Int.not_lt,-Nat.not_le,-Nat.not_lt,ty4,ty86,ty128,hm,hl,hr,k139,e122_2,e122_0]
  all_goals first | done | grind | omega | (trace_state; fail)
theorem k122 (a : Nat) (b : Nat)  (fr : Fr) (st : St) : callStep gS (EvF gS) 122 [.float .f64 a,.float .f64 b] fr st = some (.ok (retE none (.bool (fbits a = fbits b))) fr st) :=
  call_pure rfl fi109_eq rfl (fun st => c122 a b  st) (by simp)
def fi119 : FI := { body := codeOf Try.f119,ntmps := 7,results := [.tmp 4],pers := [0,1,4],locals := [],pure := true,marks := [] }
theorem fi104_eq : gS.fn 119 = some fi119 := by kernel_rfl
theorem st119 (a0 a1 : V) : startFr fi119 [a0,a1] = { ps := [(0,.val a0),(1,.val a1),(4,.any)],ts := [],lc := [] } := rfl
def b119 : Code := mini (codeOf Try.f119)
def c119_6 : Code := .seq (codeN b119 37) .ret
def c119_5 : Code := .cond (.tmp 5) c119_6 .skip
def c119_3 : Code := .seq (codeN b119 9) c119_5
def c119_14 : Code := .seq (codeN b119 75) .ret
def c119_13 : Code := .cond (.tmp 6) c119_14 .skip
def c119_11 : Code := .seq (codeN b119 19) c119_13
def c119_18 : Code := .seq (codeN b119 23) .ret
def c119_10 : Code := .seq c119_11 c119_18
def c119_2 : Code := .seq c119_3 c119_10
def c119_0 : Code := .seq (codeN b119 2) c119_2
theorem E119 : evK gS fi119 c119_6 fr st k = opsR gS fi119 [op1 4 (.assign (.const (.int .i64 (-1)))) 3] fr st (.seq .ret k) ∧
 evK gS fi119 c119_5 fr st k = condK gS fi119 (fr.op (.tmp 5)).bool? c119_6 .skip fr st k ∧
 evK gS fi119 c119_3 fr st k = opsR gS fi119 [mv 5 0 4] fr st (.seq c119_5 k) ∧
 evK gS fi119 c119_14 fr st k = opsR gS fi119 [op1 4 (.assign (.const (.int .i64 1))) 3] fr st (.seq .ret k) ∧
 evK gS fi119 c119_13 fr st k = condK gS fi119 (fr.op (.tmp 6)).bool? c119_14 .skip fr st k ∧
 evK gS fi119 c119_11 fr st k = opsR gS fi119 [mv 6 1 4] fr st (.seq c119_13 k) ∧
 evK gS fi119 c119_18 fr st k = opsR gS fi119 [op1 4 (.assign (.const (.int .i64 0))) 3] fr st (.seq .ret k) ∧
 evK gS fi119 c119_10 fr st k = evK gS fi119 c119_11 fr st (.seq c119_18 k) ∧
 evK gS fi119 c119_2 fr st k = evK gS fi119 c119_3 fr st (.seq c119_10 k) ∧
 evK gS fi119 c119_0 fr st k = opsR gS fi119 [op1 4 (.assign (.const (.int .i64 0))) 3] fr st (.seq c119_2 k) := ⟨evK_rs 2 rfl (by kernel_rfl),rfl,evK_rs 1 rfl (by kernel_rfl),evK_rs 4 rfl (by kernel_rfl),rfl,evK_rs 3 rfl (by kernel_rfl),evK_rs 5 rfl (by kernel_rfl),rfl,rfl,evK_rs 0 rfl (by kernel_rfl)⟩
theorem m119 : mini fi119.body = c119_0 := by kernel_rfl
set_option maxHeartbeats 4000000 in
theorem c119 (b : Bool) (a : Bool)  (st : St) : EvF gS 119 [.bool b,.bool a] st = some (.ret (.int .i64 (sgn b a)) none,st) := by
  refine EvF_start fi104_eq (fun x h => by cases h) m119 ?_
  rw [st119]
  have hm : fi119.marks = [] := rfl
  have hl : fi119.locals = [] := rfl
  have hr : fi119.results = [.tmp 4] := rfl
  simp (config := { contextual := true,maxSteps := 10000000,maxDischargeDepth := 6 }) [-Int.not_le,-Int.not_lt,-Nat.not_le,-Nat.not_lt,ty3,ty4,hm,hl,hr,E119]
  all_goals try simp (config := { contextual := true }) [-Int.not_le,-Int.not_lt,-Nat.not_le,-Nat.not_lt,sgn]
  all_goals first | done | grind | omega | (trace_state; fail)
theorem k119 (b : Bool) (a : Bool)  (fr : Fr) (st : St) : callStep gS (EvF gS) 119 [.bool b,.bool a] fr st = some (.ok (retE none (.int .i64 (sgn b a))) fr st) :=
  call_pure rfl fi104_eq rfl (fun st => c119 b a  st) (by simp)
end
end Go.Proofs.Ytdoobejjedpcgaa
namespace Go.Proofs.Ytdoobejjedpcgaa
open Go Go.Ab
set_option maxRecDepth 20000
noncomputable section
variable (fr : Fr) (st : St) (k : Kt)
def fi98 : FI := { body := codeOf Try.f98,ntmps := 124,results := [.tmp 4,.tmp 5],pers := [0,1,2,3,4,5,6,7],locals := [2,3],pure := true,marks := [] }
theorem fi75_eq : gS.fn 98 = some fi98 := by kernel_rfl
theorem st98 (a0 a1 : V) : startFr fi98 [a0,a1] = { ps := [(0,.val a0),(1,.val a1),(2,.any),(3,.any),(4,.any),(5,.any),(6,.any),(7,.any)],ts := [],lc := [] } := rfl
def b98 : Code := mini (codeOf Try.f98)
def c98_7 : Code := .seq (codeN b98 73) .ret
def c98_13 : Code := .seq (codeN b98 313) .ret
def c98_19 : Code := .seq (codeN b98 1273) .ret
def c98_27 : Code := .seq (codeN b98 11257) .ret
def c98_25 : Code := .seq (codeN b98 5113) c98_27
def c98_33 : Code := .seq (codeN b98 20473) .ret
def c98_39 : Code := .seq (codeN b98 81913) .ret
def c98_38 : Code := .cond (.tmp 100) c98_39 .skip
def c98_36 : Code := .seq (codeN b98 24569) c98_38
def c98_32 : Code := .cond (.tmp 80) c98_33 c98_36
def c98_30 : Code := .seq (codeN b98 6137) c98_32
def c98_24 : Code := .cond (.tmp 60) c98_25 c98_30
def c98_22 : Code := .seq (codeN b98 1529) c98_24
def c98_18 : Code := .cond (.tmp 44) c98_19 c98_22
def c98_16 : Code := .seq (codeN b98 377) c98_18
def c98_12 : Code := .cond (.tmp 28) c98_13 c98_16
def c98_10 : Code := .seq (codeN b98 89) c98_12
def c98_6 : Code := .cond (.tmp 8) c98_7 c98_10
def c98_4 : Code := .seq (codeN b98 17) c98_6
def c98_43 : Code := .seq (codeN b98 11) .ret
def c98_2 : Code := .seq (.block 0 c98_4) c98_43
def c98_0 : Code := .seq (codeN b98 2) c98_2
theorem E98 : (evK gS fi98 c98_7 fr st k = opsR gS fi98 [op1 17 (.fieldAddr 88 (.tmp 2) 1) 0,
 ld 18 2 17 2,
 op1 19 (.fieldAddr 88 (.tmp 3) 1) 0,
 ld 20 2 19 2,
 bop 21 .lss 2 18 20 2 4,
 op1 22 (.fieldAddr 88 (.tmp 2) 1) 0,
 ld 23 2 22 2,
 op1 24 (.fieldAddr 88 (.tmp 3) 1) 0,
 ld 25 2 24 2,
 bop 26 .gtr 2 23 25 2 4,
 cal 27 119 [(.tmp 21),(.tmp 26)] [4,4] 3,
 asn 4 27 3,
 op1 5 (.assign (.const (.bool true))) 4] fr st (.seq .ret k)) ∧
 (evK gS fi98 c98_13 fr st k = opsR gS fi98 [op1 37 (.fieldAddr 88 (.tmp 2) 2) 0,
 ld 38 86 37 86,
 op1 39 (.fieldAddr 88 (.tmp 3) 2) 0,
 ld 40 86 39 86,
 cal 41 120 [(.tmp 38),(.tmp 40)] [86,86] 125,
 op1 42 (.extract (.tmp 41) 0) 3,
 op1 43 (.extract (.tmp 41) 1) 4,
 asn 4 42 3,
 asn 5 43 4] fr st (.seq .ret k)) ∧
 (evK gS fi98 c98_19 fr st k = opsR gS fi98 [op1 53 (.fieldAddr 88 (.tmp 2) 1) 0,
 ld 54 2 53 2,
 op1 55 (.fieldAddr 88 (.tmp 3) 2) 0,
 ld 56 86 55 86,
 cal 57 121 [(.tmp 54),(.tmp 56)] [2,86] 125,
 op1 58 (.extract (.tmp 57) 0) 3,
 op1 59 (.extract (.tmp 57) 1) 4,
 asn 4 58 3,
 asn 5 59 4] fr st (.seq .ret k)) ∧
 (evK gS fi98 c98_27 fr st k = opsR gS fi98 [mv 77 6 3,
 op1 78 (.unOp .neg 3 (.tmp 77)) 3,
 mv 79 7 4,
 asn 4 78 3,
 asn 5 79 4] fr st (.seq .ret k)) ∧
 (evK gS fi98 c98_25 fr st k = opsR gS fi98 [op1 70 (.fieldAddr 88 (.tmp 3) 1) 0,
 ld 71 2 70 2,
 op1 72 (.fieldAddr 88 (.tmp 2) 2) 0,
 ld 73 86 72 86,
 cal 74 121 [(.tmp 71),(.tmp 73)] [2,86] 125,
 mv 69 74 125,
 op1 75 (.extract (.tmp 69) 0) 3,
 op1 76 (.extract (.tmp 69) 1) 4,
 asn 6 75 3,
 asn 7 76 4] fr st (.seq c98_27 k)) ∧
 (evK gS fi98 c98_33 fr st k = opsR gS fi98 [op1 89 (.fieldAddr 88 (.tmp 2) 3) 0,
 ld 90 9 89 9,
 op1 91 (.fieldAddr 88 (.tmp 3) 3) 0,
 ld 92 9 91 9,
 bop 93 .lss 9 90 92 9 4,
 op1 94 (.fieldAddr 88 (.tmp 2) 3) 0,
 ld 95 9 94 9,
 op1 96 (.fieldAddr 88 (.tmp 3) 3) 0,
 ld 97 9 96 9,
 bop 98 .gtr 9 95 97 9 4,
 cal 99 119 [(.tmp 93),(.tmp 98)] [4,4] 3,
 asn 4 99 3,
 op1 5 (.assign (.const (.bool true))) 4] fr st (.seq .ret k)) ∧
 (evK gS fi98 c98_39 fr st k = opsR gS fi98 [op1 109 (.fieldAddr 88 (.tmp 2) 4) 0,
 ld 110 4 109 4,
 op1 111 (.unOp .not 4 (.tmp 110)) 4,
 mv 112 111 4,
 mk (some 113) (.fieldAddr 88 (.tmp 3) 4) 0 (some (3,true)),
 mk (some 114) (.load 4 (.tmp 113)) 4 (some (3,true)),
 op1 115 (.pick (.tmp 112) (.tmp 114) (.const (.bool false))) 4,
 op1 116 (.fieldAddr 88 (.tmp 2) 4) 0,
 ld 117 4 116 4,
 mv 118 117 4,
 mk (some 119) (.fieldAddr 88 (.tmp 3) 4) 0 (some (9,true)),
 mk (some 120) (.load 4 (.tmp 119)) 4 (some (9,true)),
 mk (some 121) (.unOp .not 4 (.tmp 120)) 4 (some (9,true)),
 op1 122 (.pick (.tmp 118) (.tmp 121) (.const (.bool false))) 4,
 cal 123 119 [(.tmp 115),(.tmp 122)] [4,4] 3,
 asn 4 123 3,
 op1 5 (.assign (.const (.bool true))) 4] fr st (.seq .ret k)) ∧
 evK gS fi98 c98_38 fr st k = condK gS fi98 (fr.op (.tmp 100)).bool? c98_39 .skip fr st k ∧
 (evK gS fi98 c98_36 fr st k = opsR gS fi98 [op1 101 (.fieldAddr 88 (.tmp 2) 0) 0,
 ld 102 3 101 3,
 op1 103 (.binOp .eql 3 (.tmp 102) (.const (.int .i64 4)) 3) 4,
 mv 104 103 4,
 mk (some 105) (.fieldAddr 88 (.tmp 3) 0) 0 (some (3,true)),
 mk (some 106) (.load 3 (.tmp 105)) 3 (some (3,true)),
 mk (some 107) (.binOp .eql 3 (.tmp 106) (.const (.int .i64 4)) 3) 4 (some (3,true)),
 op1 108 (.pick (.tmp 104) (.tmp 107) (.const (.bool false))) 4,
 asn 100 108 4] fr st (.seq c98_38 k)) ∧
 evK gS fi98 c98_32 fr st k = condK gS fi98 (fr.op (.tmp 80)).bool? c98_33 c98_36 fr st k ∧
 (evK gS fi98 c98_30 fr st k = opsR gS fi98 [op1 81 (.fieldAddr 88 (.tmp 2) 0) 0,
 ld 82 3 81 3,
 op1 83 (.binOp .eql 3 (.tmp 82) (.const (.int .i64 3)) 3) 4,
 mv 84 83 4,
 mk (some 85) (.fieldAddr 88 (.tmp 3) 0) 0 (some (3,true)),
 mk (some 86) (.load 3 (.tmp 85)) 3 (some (3,true)),
 mk (some 87) (.binOp .eql 3 (.tmp 86) (.const (.int .i64 3)) 3) 4 (some (3,true)),
 op1 88 (.pick (.tmp 84) (.tmp 87) (.const (.bool false))) 4,
 asn 80 88 4] fr st (.seq c98_32 k)) ∧
 evK gS fi98 c98_24 fr st k = condK gS fi98 (fr.op (.tmp 60)).bool? c98_25 c98_30 fr st k ∧
 (evK gS fi98 c98_22 fr st k = opsR gS fi98 [op1 61 (.fieldAddr 88 (.tmp 2) 0) 0,
 ld 62 3 61 3,
 op1 63 (.binOp .eql 3 (.tmp 62) (.const (.int .i64 2)) 3) 4,
 mv 64 63 4,
 mk (some 65) (.fieldAddr 88 (.tmp 3) 0) 0 (some (3,true)),
 mk (some 66) (.load 3 (.tmp 65)) 3 (some (3,true)),
 mk (some 67) (.binOp .eql 3 (.tmp 66) (.const (.int .i64 1)) 3) 4 (some (3,true)),
 op1 68 (.pick (.tmp 64) (.tmp 67) (.const (.bool false))) 4,
 asn 60 68 4] fr st (.seq c98_24 k)) ∧
 evK gS fi98 c98_18 fr st k = condK gS fi98 (fr.op (.tmp 44)).bool? c98_19 c98_22 fr st k ∧
 (evK gS fi98 c98_16 fr st k = opsR gS fi98 [op1 45 (.fieldAddr 88 (.tmp 2) 0) 0,
 ld 46 3 45 3,
 op1 47 (.binOp .eql 3 (.tmp 46) (.const (.int .i64 1)) 3) 4,
 mv 48 47 4,
 mk (some 49) (.fieldAddr 88 (.tmp 3) 0) 0 (some (3,true)),
 mk (some 50) (.load 3 (.tmp 49)) 3 (some (3,true)),
 mk (some 51) (.binOp .eql 3 (.tmp 50) (.const (.int .i64 2)) 3) 4 (some (3,true)),
 op1 52 (.pick (.tmp 48) (.tmp 51) (.const (.bool false))) 4,
 asn 44 52 4] fr st (.seq c98_18 k)) ∧
 evK gS fi98 c98_12 fr st k = condK gS fi98 (fr.op (.tmp 28)).bool? c98_13 c98_16 fr st k ∧
 (evK gS fi98 c98_10 fr st k = opsR gS fi98 [op1 29 (.fieldAddr 88 (.tmp 2) 0) 0,
 ld 30 3 29 3,
 op1 31 (.binOp .eql 3 (.tmp 30) (.const (.int .i64 2)) 3) 4,
 mv 32 31 4,
 mk (some 33) (.fieldAddr 88 (.tmp 3) 0) 0 (some (3,true)),
 mk (some 34) (.load 3 (.tmp 33)) 3 (some (3,true)),
 mk (some 35) (.binOp .eql 3 (.tmp 34) (.const (.int .i64 2)) 3) 4 (some (3,true)),
 op1 36 (.pick (.tmp 32) (.tmp 35) (.const (.bool false))) 4,
 asn 28 36 4] fr st (.seq c98_12 k)) ∧
 evK gS fi98 c98_6 fr st k = condK gS fi98 (fr.op (.tmp 8)).bool? c98_7 c98_10 fr st k ∧
 (evK gS fi98 c98_4 fr st k = opsR gS fi98 [op1 9 (.fieldAddr 88 (.tmp 2) 0) 0,
 ld 10 3 9 3,
 op1 11 (.binOp .eql 3 (.tmp 10) (.const (.int .i64 1)) 3) 4,
 mv 12 11 4,
 mk (some 13) (.fieldAddr 88 (.tmp 3) 0) 0 (some (3,true)),
 mk (some 14) (.load 3 (.tmp 13)) 3 (some (3,true)),
 mk (some 15) (.binOp .eql 3 (.tmp 14) (.const (.int .i64 1)) 3) 4 (some (3,true)),
 op1 16 (.pick (.tmp 12) (.tmp 15) (.const (.bool false))) 4,
 asn 8 16 4] fr st (.seq c98_6 k)) ∧
 (evK gS fi98 c98_43 fr st k = opsR gS fi98 [op1 4 (.assign (.const (.int .i64 0))) 3,
 op1 5 (.assign (.const (.bool false))) 4] fr st (.seq .ret k)) ∧
 evK gS fi98 c98_2 fr st k = evK gS fi98 c98_4 fr st (.blk 0 (.seq c98_43 k)) ∧
 (evK gS fi98 c98_0 fr st k = opsR gS fi98 [op1 2 (.box 88 (.tmp 0)) 0,
 op1 3 (.box 88 (.tmp 1)) 0,
 op1 4 (.assign (.const (.int .i64 0))) 3,
 op1 5 (.assign (.const (.bool false))) 4] fr st (.seq c98_2 k)) := ⟨evK_rs 2 rfl (by kernel_rfl),evK_rs 4 rfl (by kernel_rfl),evK_rs 6 rfl (by kernel_rfl),evK_rs 9 rfl (by kernel_rfl),evK_rs 8 rfl (by kernel_rfl),evK_rs 11 rfl (by kernel_rfl),evK_rs 13 rfl (by kernel_rfl),rfl,evK_rs 12 rfl (by kernel_rfl),rfl,evK_rs 10 rfl (by kernel_rfl),rfl,evK_rs 7 rfl (by kernel_rfl),rfl,evK_rs 5 rfl (by kernel_rfl),rfl,evK_rs 3 rfl (by kernel_rfl),rfl,evK_rs 1 rfl (by kernel_rfl),evK_rs 14 rfl (by kernel_rfl),rfl,evK_rs 0 rfl (by kernel_rfl)⟩
theorem m98 : mini fi98.body = c98_0 := by kernel_rfl
set_option maxHeartbeats 4000000 in
theorem c98 (a : Val) (b : Val)  (st : St) : EvF gS 98 [a.enc,b.enc] st = some (.ret (.tuple [.int .i64 (cmp a b).1,.bool (cmp a b).2]) none,st) := by
  refine EvF_start fi75_eq (fun x h => by cases h) m98 ?_
  rw [st98]
  have hm : fi98.marks = [] := rfl
  have hl : fi98.locals = [2,3] := rfl
  have hr : fi98.results = [.tmp 4,.tmp 5] := rfl
  simp (config := { contextual := true,maxSteps := 10000000,maxDischargeDepth := 6 }) [-Int.not_le,-Int.not_lt,-Nat.not_le,-Nat.not_lt,ty2,ty3,ty4,ty9,ty86,ty88,eq88,hm,hl,hr,k119,k120,k121,E98]
  all_goals try simp (config := { contextual := true }) [-Int.not_le,-Int.not_lt,-Nat.not_le,-Nat.not_lt,cmp,scmp]
  all_goals first | done | grind | omega | (trace_state; fail)
theorem k98 (a_k : Int) (a_n : Int) (a_x : Nat) (a_s : List UInt8) (a_b : Bool) (b_k : Int) (b_n : Int) (b_x : Nat) (b_s : List UInt8) (b_b : Bool)  (fr : Fr) (st : St) : callStep gS (EvF gS) 98 [.agg [.int .i64 a_k,.int .i64 a_n,.float .f64 a_x,.str a_s,.bool a_b],.agg [.int .i64 b_k,.int .i64 b_n,.float .f64 b_x,.str b_s,.bool b_b]] fr st = some (.ok (retE none (.tuple [.int .i64 (cmp (⟨a_k,a_n,a_x,a_s,a_b⟩ : Val) (⟨b_k,b_n,b_x,b_s,b_b⟩ : Val)).1,.bool (cmp (⟨a_k,a_n,a_x,a_s,a_b⟩ : Val) (⟨b_k,b_n,b_x,b_s,b_b⟩ : Val)).2])) fr st) :=
  call_pure rfl fi75_eq rfl (fun st => c98 (⟨a_k,a_n,a_x,a_s,a_b⟩ : Val) (⟨b_k,b_n,b_x,b_s,b_b⟩ : Val)  st) (by simp)
def fi108 : FI := { body := codeOf Try.f108,ntmps := 114,results := [.tmp 4,.tmp 5],pers := [0,1,2,3,4,5,6,7],locals := [2,3],pure := true,marks := [] }
theorem fi77_eq : gS.fn 108 = some fi108 := by kernel_rfl
theorem st108 (a0 a1 : V) : startFr fi108 [a0,a1] = { ps := [(0,.val a0),(1,.val a1),(2,.any),(3,.any),(4,.any),(5,.any),(6,.any),(7,.any)],ts := [],lc := [] } := rfl
def b108 : Code := mini (codeOf Try.f108)
def c108_11 : Code := .seq (codeN b108 585) .ret
def c108_10 : Code := .cond (.tmp 21) c108_11 .skip
def c108_8 : Code := .seq (codeN b108 137) c108_10
def c108_19 : Code := .seq (codeN b108 1193) .ret
def c108_18 : Code := .cond (.tmp 26) c108_19 .skip
def c108_16 : Code := .seq (codeN b108 297) c108_18
def c108_23 : Code := .seq (codeN b108 361) .ret
def c108_15 : Code := .seq c108_16 c108_23
def c108_7 : Code := .seq c108_8 c108_15
def c108_29 : Code := .seq (codeN b108 313) .ret
def c108_37 : Code := .seq (codeN b108 2809) .ret
def c108_35 : Code := .seq (codeN b108 1273) c108_37
def c108_43 : Code := .seq (codeN b108 5113) .ret
def c108_53 : Code := .seq (codeN b108 151545) .ret
def c108_52 : Code := .cond (.tmp 92) c108_53 .skip
def c108_50 : Code := .seq (codeN b108 36857) c108_52
def c108_61 : Code := .seq (codeN b108 307193) .ret
def c108_60 : Code := .cond (.tmp 97) c108_61 .skip
def c108_58 : Code := .seq (codeN b108 77817) c108_60
def c108_65 : Code := .seq (codeN b108 94201) .ret
def c108_57 : Code := .seq c108_58 c108_65
def c108_49 : Code := .seq c108_50 c108_57
def c108_75 : Code := .seq (codeN b108 606201) .ret
def c108_74 : Code := .cond (.tmp 111) c108_75 .skip
def c108_72 : Code := .seq (codeN b108 147449) c108_74
def c108_83 : Code := .seq (codeN b108 1228793) .ret
def c108_82 : Code := .cond (.tmp 113) c108_83 .skip
def c108_80 : Code := .seq (codeN b108 311289) c108_82
def c108_87 : Code := .seq (codeN b108 376825) .ret
def c108_79 : Code := .seq c108_80 c108_87
def c108_71 : Code := .seq c108_72 c108_79
def c108_70 : Code := .cond (.tmp 98) c108_71 .skip
def c108_68 : Code := .seq (codeN b108 24569) c108_70
def c108_48 : Code := .cond (.tmp 79) c108_49 c108_68
def c108_46 : Code := .seq (codeN b108 6137) c108_48
def c108_42 : Code := .cond (.tmp 63) c108_43 c108_46
def c108_40 : Code := .seq (codeN b108 1529) c108_42
def c108_34 : Code := .cond (.tmp 43) c108_35 c108_40
def c108_32 : Code := .seq (codeN b108 377) c108_34
def c108_28 : Code := .cond (.tmp 27) c108_29 c108_32
def c108_26 : Code := .seq (codeN b108 89) c108_28
def c108_6 : Code := .cond (.tmp 8) c108_7 c108_26
def c108_4 : Code := .seq (codeN b108 17) c108_6
def c108_91 : Code := .seq (codeN b108 11) .ret
def c108_2 : Code := .seq (.block 0 c108_4) c108_91
def c108_0 : Code := .seq (codeN b108 2) c108_2
theorem E108 : (evK gS fi108 c108_11 fr st k = opsR gS fi108 [op1 4 (.assign (.const (.int .i64 (-1)))) 3,
 op1 5 (.assign (.const (.bool true))) 4] fr st (.seq .ret k)) ∧
 evK gS fi108 c108_10 fr st k = condK gS fi108 (fr.op (.tmp 21)).bool? c108_11 .skip fr st k ∧
 (evK gS fi108 c108_8 fr st k = opsR gS fi108 [op1 17 (.fieldAddr 88 (.tmp 2) 1) 0,
 ld 18 2 17 2,
 op1 19 (.fieldAddr 88 (.tmp 3) 1) 0,
 ld 20 2 19 2,
 bop 21 .lss 2 18 20 2 4] fr st (.seq c108_10 k)) ∧
 (evK gS fi108 c108_19 fr st k = opsR gS fi108 [op1 4 (.assign (.const (.int .i64 1))) 3,
 op1 5 (.assign (.const (.bool true))) 4] fr st (.seq .ret k)) ∧
 evK gS fi108 c108_18 fr st k = condK gS fi108 (fr.op (.tmp 26)).bool? c108_19 .skip fr st k ∧
 (evK gS fi108 c108_16 fr st k = opsR gS fi108 [op1 22 (.fieldAddr 88 (.tmp 2) 1) 0,
 ld 23 2 22 2,
 op1 24 (.fieldAddr 88 (.tmp 3) 1) 0,
 ld 25 2 24 2,
 bop 26 .gtr 2 23 25 2 4] fr st (.seq c108_18 k)) ∧
 (evK gS fi108 c108_23 fr st k = opsR gS fi108 [op1 4 (.assign (.const (.int .i64 0))) 3,
 op1 5 (.assign (.const (.bool true))) 4] fr st (.seq .ret k)) ∧
 evK gS fi108 c108_15 fr st k = evK gS fi108 c108_16 fr st (.seq c108_23 k) ∧
 evK gS fi108 c108_7 fr st k = evK gS fi108 c108_8 fr st (.seq c108_15 k) ∧
 (evK gS fi108 c108_29 fr st k = opsR gS fi108 [op1 36 (.fieldAddr 88 (.tmp 2) 1) 0,
 ld 37 2 36 2,
 op1 38 (.fieldAddr 88 (.tmp 3) 2) 0,
 ld 39 86 38 86,
 cal 40 128 [(.tmp 37),(.tmp 39)] [2,86] 125,
 op1 41 (.extract (.tmp 40) 0) 3,
 op1 42 (.extract (.tmp 40) 1) 4,
 asn 4 41 3,
 asn 5 42 4] fr st (.seq .ret k)) ∧
 (evK gS fi108 c108_37 fr st k = opsR gS fi108 [mv 60 6 3,
 op1 61 (.unOp .neg 3 (.tmp 60)) 3,
 mv 62 7 4,
 asn 4 61 3,
 asn 5 62 4] fr st (.seq .ret k)) ∧
 (evK gS fi108 c108_35 fr st k = opsR gS fi108 [op1 53 (.fieldAddr 88 (.tmp 3) 1) 0,
 ld 54 2 53 2,
 op1 55 (.fieldAddr 88 (.tmp 2) 2) 0,
 ld 56 86 55 86,
 cal 57 128 [(.tmp 54),(.tmp 56)] [2,86] 125,
 mv 52 57 125,
 op1 58 (.extract (.tmp 52) 0) 3,
 op1 59 (.extract (.tmp 52) 1) 4,
 asn 6 58 3,
 asn 7 59 4] fr st (.seq c108_37 k)) ∧
 (evK gS fi108 c108_43 fr st k = opsR gS fi108 [op1 72 (.fieldAddr 88 (.tmp 2) 2) 0,
 ld 73 86 72 86,
 op1 74 (.fieldAddr 88 (.tmp 3) 2) 0,
 ld 75 86 74 86,
 cal 76 129 [(.tmp 73),(.tmp 75)] [86,86] 125,
 op1 77 (.extract (.tmp 76) 0) 3,
 op1 78 (.extract (.tmp 76) 1) 4,
 asn 4 77 3,
 asn 5 78 4] fr st (.seq .ret k)) ∧
 (evK gS fi108 c108_53 fr st k = opsR gS fi108 [op1 4 (.assign (.const (.int .i64 (-1)))) 3,
 op1 5 (.assign (.const (.bool true))) 4] fr st (.seq .ret k)) ∧
 evK gS fi108 c108_52 fr st k = condK gS fi108 (fr.op (.tmp 92)).bool? c108_53 .skip fr st k ∧
 (evK gS fi108 c108_50 fr st k = opsR gS fi108 [op1 88 (.fieldAddr 88 (.tmp 2) 3) 0,
 ld 89 9 88 9,
 op1 90 (.fieldAddr 88 (.tmp 3) 3) 0,
 ld 91 9 90 9,
 bop 92 .lss 9 89 91 9 4] fr st (.seq c108_52 k)) ∧
 (evK gS fi108 c108_61 fr st k = opsR gS fi108 [op1 4 (.assign (.const (.int .i64 1))) 3,
 op1 5 (.assign (.const (.bool true))) 4] fr st (.seq .ret k)) ∧
 evK gS fi108 c108_60 fr st k = condK gS fi108 (fr.op (.tmp 97)).bool? c108_61 .skip fr st k ∧
 (evK gS fi108 c108_58 fr st k = opsR gS fi108 [op1 93 (.fieldAddr 88 (.tmp 2) 3) 0,
 ld 94 9 93 9,
 op1 95 (.fieldAddr 88 (.tmp 3) 3) 0,
 ld 96 9 95 9,
 bop 97 .gtr 9 94 96 9 4] fr st (.seq c108_60 k)) ∧
 (evK gS fi108 c108_65 fr st k = opsR gS fi108 [op1 4 (.assign (.const (.int .i64 0))) 3,
 op1 5 (.assign (.const (.bool true))) 4] fr st (.seq .ret k)) ∧
 evK gS fi108 c108_57 fr st k = evK gS fi108 c108_58 fr st (.seq c108_65 k) ∧
 evK gS fi108 c108_49 fr st k = evK gS fi108 c108_50 fr st (.seq c108_57 k) ∧
 (evK gS fi108 c108_75 fr st k = opsR gS fi108 [op1 4 (.assign (.const (.int .i64 0))) 3,
 op1 5 (.assign (.const (.bool true))) 4] fr st (.seq .ret k)) ∧
 evK gS fi108 c108_74 fr st k = condK gS fi108 (fr.op (.tmp 111)).bool? c108_75 .skip fr st k ∧
 (evK gS fi108 c108_72 fr st k = opsR gS fi108 [op1 107 (.fieldAddr 88 (.tmp 2) 4) 0,
 ld 108 4 107 4,
 op1 109 (.fieldAddr 88 (.tmp 3) 4) 0,
 ld 110 4 109 4,
 bop 111 .eql 4 108 110 4 4] fr st (.seq c108_74 k)) ∧
 (evK gS fi108 c108_83 fr st k = opsR gS fi108 [op1 4 (.assign (.const (.int .i64 (-1)))) 3,
 op1 5 (.assign (.const (.bool true))) 4] fr st (.seq .ret k)) ∧
 evK gS fi108 c108_82 fr st k = condK gS fi108 (fr.op (.tmp 113)).bool? c108_83 .skip fr st k ∧
 (evK gS fi108 c108_80 fr st k = opsR gS fi108 [op1 112 (.fieldAddr 88 (.tmp 3) 4) 0,
 ld 113 4 112 4] fr st (.seq c108_82 k)) ∧
 (evK gS fi108 c108_87 fr st k = opsR gS fi108 [op1 4 (.assign (.const (.int .i64 1))) 3,
 op1 5 (.assign (.const (.bool true))) 4] fr st (.seq .ret k)) ∧
 evK gS fi108 c108_79 fr st k = evK gS fi108 c108_80 fr st (.seq c108_87 k) ∧
 evK gS fi108 c108_71 fr st k = evK gS fi108 c108_72 fr st (.seq c108_79 k) ∧
 evK gS fi108 c108_70 fr st k = condK gS fi108 (fr.op (.tmp 98)).bool? c108_71 .skip fr st k ∧
 (evK gS fi108 c108_68 fr st k = opsR gS fi108 [op1 99 (.fieldAddr 88 (.tmp 2) 0) 0,
 ld 100 3 99 3,
 op1 101 (.binOp .eql 3 (.tmp 100) (.const (.int .i64 4)) 3) 4,
 mv 102 101 4,
 mk (some 103) (.fieldAddr 88 (.tmp 3) 0) 0 (some (3,true)),
 mk (some 104) (.load 3 (.tmp 103)) 3 (some (3,true)),
 mk (some 105) (.binOp .eql 3 (.tmp 104) (.const (.int .i64 4)) 3) 4 (some (3,true)),
 op1 106 (.pick (.tmp 102) (.tmp 105) (.const (.bool false))) 4,
 asn 98 106 4] fr st (.seq c108_70 k)) ∧
 evK gS fi108 c108_48 fr st k = condK gS fi108 (fr.op (.tmp 79)).bool? c108_49 c108_68 fr st k ∧
 (evK gS fi108 c108_46 fr st k = opsR gS fi108 [op1 80 (.fieldAddr 88 (.tmp 2) 0) 0,
 ld 81 3 80 3,
 op1 82 (.binOp .eql 3 (.tmp 81) (.const (.int .i64 3)) 3) 4,
 mv 83 82 4,
 mk (some 84) (.fieldAddr 88 (.tmp 3) 0) 0 (some (3,true)),
 mk (some 85) (.load 3 (.tmp 84)) 3 (some (3,true)),
 mk (some 86) (.binOp .eql 3 (.tmp 85) (.const (.int .i64 3)) 3) 4 (some (3,true)),
 op1 87 (.pick (.tmp 83) (.tmp 86) (.const (.bool false))) 4,
 asn 79 87 4] fr st (.seq c108_48 k)) ∧
 evK gS fi108 c108_42 fr st k = condK gS fi108 (fr.op (.tmp 63)).bool? c108_43 c108_46 fr st k ∧
 (evK gS fi108 c108_40 fr st k = opsR gS fi108 [op1 64 (.fieldAddr 88 (.tmp 2) 0) 0,
 ld 65 3 64 3,
 op1 66 (.binOp .eql 3 (.tmp 65) (.const (.int .i64 2)) 3) 4,
 mv 67 66 4,
 mk (some 68) (.fieldAddr 88 (.tmp 3) 0) 0 (some (3,true)),
 mk (some 69) (.load 3 (.tmp 68)) 3 (some (3,true)),
 mk (some 70) (.binOp .eql 3 (.tmp 69) (.const (.int .i64 2)) 3) 4 (some (3,true)),
 op1 71 (.pick (.tmp 67) (.tmp 70) (.const (.bool false))) 4,
 asn 63 71 4] fr st (.seq c108_42 k)) ∧
 evK gS fi108 c108_34 fr st k = condK gS fi108 (fr.op (.tmp 43)).bool? c108_35 c108_40 fr st k ∧
 (evK gS fi108 c108_32 fr st k = opsR gS fi108 [op1 44 (.fieldAddr 88 (.tmp 2) 0) 0,
 ld 45 3 44 3,
 op1 46 (.binOp .eql 3 (.tmp 45) (.const (.int .i64 2)) 3) 4,
 mv 47 46 4,
 mk (some 48) (.fieldAddr 88 (.tmp 3) 0) 0 (some (3,true)),
 mk (some 49) (.load 3 (.tmp 48)) 3 (some (3,true)),
 mk (some 50) (.binOp .eql 3 (.tmp 49) (.const (.int .i64 1)) 3) 4 (some (3,true)),
 op1 51 (.pick (.tmp 47) (.tmp 50) (.const (.bool false))) 4,
 asn 43 51 4] fr st (.seq c108_34 k)) ∧
 evK gS fi108 c108_28 fr st k = condK gS fi108 (fr.op (.tmp 27)).bool? c108_29 c108_32 fr st k ∧
 (evK gS fi108 c108_26 fr st k = opsR gS fi108 [op1 28 (.fieldAddr 88 (.tmp 2) 0) 0,
 ld 29 3 28 3,
 op1 30 (.binOp .eql 3 (.tmp 29) (.const (.int .i64 1)) 3) 4,
 mv 31 30 4,
 mk (some 32) (.fieldAddr 88 (.tmp 3) 0) 0 (some (3,true)),
 mk (some 33) (.load 3 (.tmp 32)) 3 (some (3,true)),
 mk (some 34) (.binOp .eql 3 (.tmp 33) (.const (.int .i64 2)) 3) 4 (some (3,true)),
 op1 35 (.pick (.tmp 31) (.tmp 34) (.const (.bool false))) 4,
 asn 27 35 4] fr st (.seq c108_28 k)) ∧
 evK gS fi108 c108_6 fr st k = condK gS fi108 (fr.op (.tmp 8)).bool? c108_7 c108_26 fr st k ∧
 (evK gS fi108 c108_4 fr st k = opsR gS fi108 [op1 9 (.fieldAddr 88 (.tmp 2) 0) 0,
 ld 10 3 9 3,
 op1 11 (.binOp .eql 3 (.tmp 10) (.const (.int .i64 1)) 3) 4,
 mv 12 11 4,
 mk (some 13) (.fieldAddr 88 (.tmp 3) 0) 0 (some (3,true)),
 mk (some 14) (.load 3 (.tmp 13)) 3 (some (3,true)),
 mk (some 15) (.binOp .eql 3 (.tmp 14) (.const (.int .i64 1)) 3) 4 (some (3,true)),
 op1 16 (.pick (.tmp 12) (.tmp 15) (.const (.bool false))) 4,
 asn 8 16 4] fr st (.seq c108_6 k)) ∧
 (evK gS fi108 c108_91 fr st k = opsR gS fi108 [op1 4 (.assign (.const (.int .i64 0))) 3,
 op1 5 (.assign (.const (.bool false))) 4] fr st (.seq .ret k)) ∧
 evK gS fi108 c108_2 fr st k = evK gS fi108 c108_4 fr st (.blk 0 (.seq c108_91 k)) ∧
 (evK gS fi108 c108_0 fr st k = opsR gS fi108 [op1 2 (.box 88 (.tmp 0)) 0,
 op1 3 (.box 88 (.tmp 1)) 0,
 op1 4 (.assign (.const (.int .i64 0))) 3,
 op1 5 (.assign (.const (.bool false))) 4] fr st (.seq c108_2 k)) := ⟨evK_rs 3 rfl (by kernel_rfl),rfl,evK_rs 2 rfl (by kernel_rfl),evK_rs 5 rfl (by kernel_rfl),rfl,evK_rs 4 rfl (by kernel_rfl),evK_rs 6 rfl (by kernel_rfl),rfl,rfl,evK_rs 8 rfl (by kernel_rfl),evK_rs 11 rfl (by kernel_rfl),evK_rs 10 rfl (by kernel_rfl),evK_rs 13 rfl (by kernel_rfl),evK_rs 16 rfl (by kernel_rfl),rfl,evK_rs 15 rfl (by kernel_rfl),evK_rs 18 rfl (by kernel_rfl),rfl,evK_rs 17 rfl (by kernel_rfl),evK_rs 19 rfl (by kernel_rfl),rfl,rfl,evK_rs 22 rfl (by kernel_rfl),rfl,evK_rs 21 rfl (by kernel_rfl),evK_rs 24 rfl (by kernel_rfl),rfl,evK_rs 23 rfl (by kernel_rfl),evK_rs 25 rfl (by kernel_rfl),rfl,rfl,rfl,evK_rs 20 rfl (by kernel_rfl),rfl,evK_rs 14 rfl (by kernel_rfl),rfl,evK_rs 12 rfl (by kernel_rfl),rfl,evK_rs 9 rfl (by kernel_rfl),rfl,evK_rs 7 rfl (by kernel_rfl),rfl,evK_rs 1 rfl (by kernel_rfl),evK_rs 26 rfl (by kernel_rfl),rfl,evK_rs 0 rfl (by kernel_rfl)⟩
theorem m108 : mini fi108.body = c108_0 := by kernel_rfl
set_option maxHeartbeats 4000000 in
theorem c108 (a : Val) (b : Val)  (st : St) : EvF gS 108 [a.enc,b.enc] st = some (.ret (.tuple [.int .i64 (cmp a b).1,.bool (cmp a b).2]) none,st) := by
  refine EvF_start fi77_eq (fun x h => by cases h) m108 ?_
  rw [st108]
  have hm : fi108.marks = [] := rfl
  have hl : fi108.locals = [2,3] := rfl
  have hr : fi108.results = [.tmp 4,.tmp 5] := rfl
  simp (config := { contextual := true,maxSteps := 10000000,maxDischargeDepth := 6 }) [-Int.not_le,-Int.not_lt,-Nat.not_le,-Nat.not_lt,ty2,ty3,ty4,ty9,ty86,ty88,eq88,hm,hl,hr,k128,k129,E108]
  all_goals try simp (config := { contextual := true }) [-Int.not_le,-Int.not_lt,-Nat.not_le,-Nat.not_lt,cmp,scmp,sgn]
  all_goals first | done | grind | omega | (trace_state; fail)
theorem k108 (a_k : Int) (a_n : Int) (a_x : Nat) (a_s : List UInt8) (a_b : Bool) (b_k : Int) (b_n : Int) (b_x : Nat) (b_s : List UInt8) (b_b : Bool)  (fr : Fr) (st : St) : callStep gS (EvF gS) 108 [.agg [.int .i64 a_k,.int .i64 a_n,.float .f64 a_x,.str a_s,.bool a_b],.agg [.int .i64 b_k,.int .i64 b_n,.float .f64 b_x,.str b_s,.bool b_b]] fr st = some (.ok (retE none (.tuple [.int .i64 (cmp (⟨a_k,a_n,a_x,a_s,a_b⟩ : Val) (⟨b_k,b_n,b_x,b_s,b_b⟩ : Val)).1,.bool (cmp (⟨a_k,a_n,a_x,a_s,a_b⟩ : Val) (⟨b_k,b_n,b_x,b_s,b_b⟩ : Val)).2])) fr st) :=
  call_pure rfl fi77_eq rfl (fun st => c108 (⟨a_k,a_n,a_x,a_s,a_b⟩ : Val) (⟨b_k,b_n,b_x,b_s,b_b⟩ : Val)  st) (by simp)
theorem x108 : gS.ext 108 = none := rfl
theorem p108 : fi108.pure = true := rfl
def fi100 : FI := { body := codeOf Try.f100,ntmps := 18,results := [.tmp 4],pers := [0,1,2,3,4,5,6],locals := [2,3],pure := true,marks := [] }
theorem fi32_eq : gS.fn 100 = some fi100 := by kernel_rfl
theorem st100 (a0 a1 : V) : startFr fi100 [a0,a1] = { ps := [(0,.val a0),(1,.val a1),(2,.any),(3,.any),(4,.any),(5,.any),(6,.any)],ts := [],lc := [] } := rfl
def b100 : Code := mini (codeOf Try.f100)
def c100_4 : Code := .seq (codeN b100 11) .ret
theorem e100_4 : evK gS fi100 c100_4 fr st k = opsR gS fi100 [mv 13 6 4,
 mv 14 13 4,
 mk (some 15) (.move (.tmp 5)) 3 (some (1,true)),
 mk (some 16) (.binOp .eql 3 (.tmp 15) (.const (.int .i64 0)) 3) 4 (some (1,true)),
 op1 17 (.pick (.tmp 14) (.tmp 16) (.const (.bool false))) 4,
 asn 4 17 4] fr st (.seq .ret k) := evK_rs 2 rfl (by kernel_rfl)
def c100_2 : Code := .seq (codeN b100 5) c100_4
theorem e100_2 : evK gS fi100 c100_2 fr st k = opsR gS fi100 [ld 8 88 2 88,
 ld 9 88 3 88,
 cal 10 98 [(.tmp 8),(.tmp 9)] [88,88] 125,
 mv 7 10 125,
 op1 11 (.extract (.tmp 7) 0) 3,
 op1 12 (.extract (.tmp 7) 1) 4,
 asn 5 11 3,
 asn 6 12 4] fr st (.seq c100_4 k) := evK_rs 1 rfl (by kernel_rfl)
def c100_0 : Code := .seq (codeN b100 2) c100_2
theorem e100_0 : evK gS fi100 c100_0 fr st k = opsR gS fi100 [op1 2 (.box 88 (.tmp 0)) 0,
 op1 3 (.box 88 (.tmp 1)) 0,
 op1 4 (.assign (.const (.bool false))) 4] fr st (.seq c100_2 k) := evK_rs 0 rfl (by kernel_rfl)
theorem m100 : mini fi100.body = c100_0 := by kernel_rfl
set_option maxHeartbeats 4000000 in
theorem c100 (a : Val) (b : Val)  (st : St) : EvF gS 100 [a.enc,b.enc] st = some (.ret (.bool (vis a b)) none,st) := by
  refine EvF_start fi32_eq (fun x h => by cases h) m100 ?_
  rw [st100]
  have hm : fi100.marks = [] := rfl
  have hl : fi100.locals = [2,3] := rfl
  have hr : fi100.results = [.tmp 4] := rfl
  simp (config := { contextual := true,maxSteps := 10000000,maxDischargeDepth := 6 }) [-Int.not_le,-Int.not_lt,-Nat.not_le,-Nat.not_lt,ty3,ty4,ty88,eq88,hm,hl,hr,k98,e100_4,e100_2,e100_0]
  all_goals try simp (config := { contextual := true }) [-Int.not_le,-Int.not_lt,-Nat.not_le,-Nat.not_lt,vis]
  all_goals first | done | grind | omega | (trace_state; fail)
theorem k100 (a_k : Int) (a_n : Int) (a_x : Nat) (a_s : List UInt8) (a_b : Bool) (b_k : Int) (b_n : Int) (b_x : Nat) (b_s : List UInt8) (b_b : Bool)  (fr : Fr) (st : St) : callStep gS (EvF gS) 100 [.agg [.int .i64 a_k,.int .i64 a_n,.float .f64 a_x,.str a_s,.bool a_b],.agg [.int .i64 b_k,.int .i64 b_n,.float .f64 b_x,.str b_s,.bool b_b]] fr st = some (.ok (retE none (.bool (vis (⟨a_k,a_n,a_x,a_s,a_b⟩ : Val) (⟨b_k,b_n,b_x,b_s,b_b⟩ : Val)))) fr st) :=
  call_pure rfl fi32_eq rfl (fun st => c100 (⟨a_k,a_n,a_x,a_s,a_b⟩ : Val) (⟨b_k,b_n,b_x,b_s,b_b⟩ : Val)  st) (by simp)
def fi110 : FI := { body := codeOf Try.f110,ntmps := 18,results := [.tmp 4],pers := [0,1,2,3,4,5,6],locals := [2,3],pure := true,marks := [] }
theorem fi79_eq : gS.fn 110 = some fi110 := by kernel_rfl
theorem st110 (a0 a1 : V) : startFr fi110 [a0,a1] = { ps := [(0,.val a0),(1,.val a1),(2,.any),(3,.any),(4,.any),(5,.any),(6,.any)],ts := [],lc := [] } := rfl
def b110 : Code := mini (codeOf Try.f110)
def c110_4 : Code := .seq (codeN b110 11) .ret
theorem e110_4 : evK gS fi110 c110_4 fr st k = opsR gS fi110 [mv 13 6 4,
 mv 14 13 4,
 mk (some 15) (.move (.tmp 5)) 3 (some (1,true)),
 mk (some 16) (.binOp .eql 3 (.tmp 15) (.const (.int .i64 0)) 3) 4 (some (1,true)),
 op1 17 (.pick (.tmp 14) (.tmp 16) (.const (.bool false))) 4,
 asn 4 17 4] fr st (.seq .ret k) := evK_rs 2 rfl (by kernel_rfl)
def c110_2 : Code := .seq (codeN b110 5) c110_4
theorem e110_2 : evK gS fi110 c110_2 fr st k = opsR gS fi110 [ld 8 88 2 88,
 ld 9 88 3 88,
 cal 10 108 [(.tmp 8),(.tmp 9)] [88,88] 125,
 mv 7 10 125,
 op1 11 (.extract (.tmp 7) 0) 3,
 op1 12 (.extract (.tmp 7) 1) 4,
 asn 5 11 3,
 asn 6 12 4] fr st (.seq c110_4 k) := evK_rs 1 rfl (by kernel_rfl)
def c110_0 : Code := .seq (codeN b110 2) c110_2
theorem e110_0 : evK gS fi110 c110_0 fr st k = opsR gS fi110 [op1 2 (.box 88 (.tmp 0)) 0,
 op1 3 (.box 88 (.tmp 1)) 0,
 op1 4 (.assign (.const (.bool false))) 4] fr st (.seq c110_2 k) := evK_rs 0 rfl (by kernel_rfl)
theorem m110 : mini fi110.body = c110_0 := by kernel_rfl
set_option maxHeartbeats 4000000 in
theorem c110 (a : Val) (b : Val)  (st : St) : EvF gS 110 [a.enc,b.enc] st = some (.ret (.bool (vis a b)) none,st) := by
  refine EvF_start fi79_eq (fun x h => by cases h) m110 ?_
  rw [st110]
  have hm : fi110.marks = [] := rfl
  have hl : fi110.locals = [2,3] := rfl
  have hr : fi110.results = [.tmp 4] := rfl
  simp (config := { contextual := true,maxSteps := 10000000,maxDischargeDepth := 6 }) [-Int.not_le,-Int.not_lt,-Nat.not_le,-Nat.not_lt,ty3,ty4,ty88,eq88,hm,hl,hr,k108,e110_4,e110_2,e110_0]
  all_goals try simp (config := { contextual := true }) [-Int.not_le,-Int.not_lt,-Nat.not_le,-Nat.not_lt,vis]
  all_goals first | done | grind | omega | (trace_state; fail)
theorem k110 (a_k : Int) (a_n : Int) (a_x : Nat) (a_s : List UInt8) (a_b : Bool) (b_k : Int) (b_n : Int) (b_x : Nat) (b_s : List UInt8) (b_b : Bool)  (fr : Fr) (st : St) : callStep gS (EvF gS) 110 [.agg [.int .i64 a_k,.int .i64 a_n,.float .f64 a_x,.str a_s,.bool a_b],.agg [.int .i64 b_k,.int .i64 b_n,.float .f64 b_x,.str b_s,.bool b_b]] fr st = some (.ok (retE none (.bool (vis (⟨a_k,a_n,a_x,a_s,a_b⟩ : Val) (⟨b_k,b_n,b_x,b_s,b_b⟩ : Val)))) fr st) :=
  call_pure rfl fi79_eq rfl (fun st => c110 (⟨a_k,a_n,a_x,a_s,a_b⟩ : Val) (⟨b_k,b_n,b_x,b_s,b_b⟩ : Val)  st) (by simp)
theorem x110 : gS.ext 110 = none := rfl
theorem p110 : fi110.pure = true := rfl
def fi102 : FI := { body := codeOf Try.f102,ntmps := 38,results := [.tmp 4],pers := [0,1,2,3,4],locals := [2,3],pure := true,marks := [] }
theorem fi81_eq : gS.fn 102 = some fi102 := by kernel_rfl
theorem st102 (a0 a1 : V) : startFr fi102 [a0,a1] = { ps := [(0,.val a0),(1,.val a1),(2,.any),(3,.any),(4,.any)],ts := [],lc := [] } := rfl
def b102 : Code := mini (codeOf Try.f102)
def c102_2 : Code := .seq (codeN b102 5) .ret
theorem e102_2 : evK gS fi102 c102_2 fr st k = opsR gS fi102 [op1 5 (.fieldAddr 88 (.tmp 2) 0) 0,
 ld 6 3 5 3,
 op1 7 (.fieldAddr 88 (.tmp 3) 0) 0,
 ld 8 3 7 3,
 bop 9 .eql 3 6 8 3 4,
 mv 10 9 4,
 mk (some 11) (.fieldAddr 88 (.tmp 2) 1) 0 (some (5,true)),
 mk (some 12) (.load 2 (.tmp 11)) 2 (some (5,true)),
 mk (some 13) (.fieldAddr 88 (.tmp 3) 1) 0 (some (5,true)),
 mk (some 14) (.load 2 (.tmp 13)) 2 (some (5,true)),
 mk (some 15) (.binOp .eql 2 (.tmp 12) (.tmp 14) 2) 4 (some (5,true)),
 op1 16 (.pick (.tmp 10) (.tmp 15) (.const (.bool false))) 4,
 mv 17 16 4,
 mk (some 18) (.fieldAddr 88 (.tmp 2) 3) 0 (some (12,true)),
 mk (some 19) (.load 9 (.tmp 18)) 9 (some (12,true)),
 mk (some 20) (.fieldAddr 88 (.tmp 3) 3) 0 (some (12,true)),
 mk (some 21) (.load 9 (.tmp 20)) 9 (some (12,true)),
 mk (some 22) (.binOp .eql 9 (.tmp 19) (.tmp 21) 9) 4 (some (12,true)),
 op1 23 (.pick (.tmp 17) (.tmp 22) (.const (.bool false))) 4,
 mv 24 23 4,
 mk (some 25) (.fieldAddr 88 (.tmp 2) 4) 0 (some (19,true)),
 mk (some 26) (.load 4 (.tmp 25)) 4 (some (19,true)),
 mk (some 27) (.fieldAddr 88 (.tmp 3) 4) 0 (some (19,true)),
 mk (some 28) (.load 4 (.tmp 27)) 4 (some (19,true)),
 mk (some 29) (.binOp .eql 4 (.tmp 26) (.tmp 28) 4) 4 (some (19,true)),
 op1 30 (.pick (.tmp 24) (.tmp 29) (.const (.bool false))) 4,
 mv 31 30 4,
 mk (some 32) (.fieldAddr 88 (.tmp 2) 2) 0 (some (26,true)),
 mk (some 33) (.load 86 (.tmp 32)) 86 (some (26,true)),
 mk (some 34) (.fieldAddr 88 (.tmp 3) 2) 0 (some (26,true)),
 mk (some 35) (.load 86 (.tmp 34)) 86 (some (26,true)),
 mk (some 36) (.call { callee := (.value (.func 122)),args := #[(.tmp 33),(.tmp 35)],argTypes := #[86,86] }) 4 (some (26,true)),
 op1 37 (.pick (.tmp 31) (.tmp 36) (.const (.bool false))) 4,
 asn 4 37 4] fr st (.seq .ret k) := evK_rs 1 rfl (by kernel_rfl)
def c102_0 : Code := .seq (codeN b102 2) c102_2
theorem e102_0 : evK gS fi102 c102_0 fr st k = opsR gS fi102 [op1 2 (.box 88 (.tmp 0)) 0,
 op1 3 (.box 88 (.tmp 1)) 0,
 op1 4 (.assign (.const (.bool false))) 4] fr st (.seq c102_2 k) := evK_rs 0 rfl (by kernel_rfl)
theorem m102 : mini fi102.body = c102_0 := by kernel_rfl
set_option maxHeartbeats 4000000 in
theorem c102 (a : Val) (b : Val)  (st : St) : EvF gS 102 [a.enc,b.enc] st = some (.ret (.bool (vsame a b)) none,st) := by
  refine EvF_start fi81_eq (fun x h => by cases h) m102 ?_
  rw [st102]
  have hm : fi102.marks = [] := rfl
  have hl : fi102.locals = [2,3] := rfl
  have hr : fi102.results = [.tmp 4] := rfl
  simp (config := { contextual := true,maxSteps := 10000000,maxDischargeDepth := 6 }) [-Int.not_le,-Int.not_lt,-Nat.not_le,-Nat.not_lt,ty2,ty3,ty4,ty9,ty86,ty88,eq88,hm,hl,hr,k122,e102_2,e102_0]
  all_goals try simp (config := { contextual := true }) [-Int.not_le,-Int.not_lt,-Nat.not_le,-Nat.not_lt,vsame]
  all_goals first | done | grind | omega | (trace_state; fail)
theorem k102 (a_k : Int) (a_n : Int) (a_x : Nat) (a_s : List UInt8) (a_b : Bool) (b_k : Int) (b_n : Int) (b_x : Nat) (b_s : List UInt8) (b_b : Bool)  (fr : Fr) (st : St) : callStep gS (EvF gS) 102 [.agg [.int .i64 a_k,.int .i64 a_n,.float .f64 a_x,.str a_s,.bool a_b],.agg [.int .i64 b_k,.int .i64 b_n,.float .f64 b_x,.str b_s,.bool b_b]] fr st = some (.ok (retE none (.bool (vsame (⟨a_k,a_n,a_x,a_s,a_b⟩ : Val) (⟨b_k,b_n,b_x,b_s,b_b⟩ : Val)))) fr st) :=
  call_pure rfl fi81_eq rfl (fun st => c102 (⟨a_k,a_n,a_x,a_s,a_b⟩ : Val) (⟨b_k,b_n,b_x,b_s,b_b⟩ : Val)  st) (by simp)
theorem x102 : gS.ext 102 = none := rfl
theorem p102 : fi102.pure = true := rfl
def fi83 : FI := { body := codeOf Try.f83,ntmps := 40,results := [.tmp 4],pers := [0,1,2,3,4],locals := [2,3],pure := true,marks := [] }
theorem fi82_eq : gS.fn 83 = some fi83 := by kernel_rfl
theorem st83 (a0 a1 : V) : startFr fi83 [a0,a1] = { ps := [(0,.val a0),(1,.val a1),(2,.any),(3,.any),(4,.any)],ts := [],lc := [] } := rfl
def b83 : Code := mini (codeOf Try.f83)
def r83_3 : Array Oper := regOps (codeN (codeOf Try.f83) 5)
def c83_3 : Code := .region 1 r83_3 true
def q83_3 : List (Oper × Fl) := [(op1 5 (.fieldAddr 88 (.tmp 2) 0) 0,⟨true,false,true,false,false,false,true,true,false,false,[]⟩),
 (ld 6 3 5 3,⟨true,false,true,false,false,false,true,true,false,false,[]⟩),
 (op1 7 (.fieldAddr 88 (.tmp 3) 0) 0,⟨true,false,true,false,false,false,true,true,false,false,[]⟩),
 (ld 8 3 7 3,⟨true,false,true,false,false,false,true,true,false,false,[]⟩),
 (bop 9 .eql 3 6 8 3 4,⟨true,false,true,false,false,false,true,true,false,false,[]⟩),
 (mv 10 9 4,⟨true,false,true,false,false,false,true,true,false,false,[]⟩),
 (mk (some 11) (.fieldAddr 88 (.tmp 2) 1) 0 (some (5,true)),⟨true,false,true,false,false,false,true,true,false,false,[]⟩),
 (mk (some 12) (.load 2 (.tmp 11)) 2 (some (5,true)),⟨true,false,true,false,false,false,true,true,false,false,[]⟩),
 (mk (some 13) (.fieldAddr 88 (.tmp 3) 1) 0 (some (5,true)),⟨true,false,true,false,false,false,true,true,false,false,[]⟩),
 (mk (some 14) (.load 2 (.tmp 13)) 2 (some (5,true)),⟨true,false,true,false,false,false,true,true,false,false,[]⟩),
 (mk (some 15) (.binOp .eql 2 (.tmp 12) (.tmp 14) 2) 4 (some (5,true)),⟨true,false,true,false,false,false,true,true,false,false,[]⟩),
 (op1 16 (.pick (.tmp 10) (.tmp 15) (.const (.bool false))) 4,⟨true,false,true,false,false,false,true,true,false,false,[]⟩),
 (mv 17 16 4,⟨true,true,true,false,true,false,true,true,false,false,[]⟩),
 (mk (some 18) (.fieldAddr 88 (.tmp 2) 2) 0 (some (12,true)),⟨true,false,true,false,false,false,true,true,false,false,[]⟩),
 (mk (some 19) (.load 86 (.tmp 18)) 86 (some (12,true)),⟨true,false,true,false,false,false,true,true,false,false,[]⟩),
 (mk (some 20) (.call { callee := (.value (.func 103)),args := #[(.tmp 19)],argTypes := #[86] }) 128 (some (12,true)),⟨true,true,true,false,false,true,true,true,false,false,[]⟩),
 (mk (some 21) (.fieldAddr 88 (.tmp 3) 2) 0 (some (12,true)),⟨true,false,true,false,false,false,true,true,false,false,[]⟩),
 (mk (some 22) (.load 86 (.tmp 21)) 86 (some (12,true)),⟨true,false,true,false,true,false,true,true,false,false,[]⟩),
 (mk (some 23) (.call { callee := (.value (.func 103)),args := #[(.tmp 22)],argTypes := #[86] }) 128 (some (12,true)),⟨true,true,true,false,true,true,true,true,false,false,[]⟩),
 (mk (some 24) (.binOp .eql 128 (.tmp 20) (.tmp 23) 128) 4 (some (12,true)),⟨true,false,true,false,true,false,true,true,false,false,[]⟩),
 (op1 25 (.pick (.tmp 17) (.tmp 24) (.const (.bool false))) 4,⟨true,false,true,false,true,false,true,true,false,false,[]⟩),
 (mv 26 25 4,⟨true,false,true,false,true,false,true,true,false,false,[]⟩),
 (mk (some 27) (.fieldAddr 88 (.tmp 2) 3) 0 (some (21,true)),⟨true,false,true,false,false,false,true,true,false,false,[]⟩),
 (mk (some 28) (.load 9 (.tmp 27)) 9 (some (21,true)),⟨true,false,true,false,false,false,true,true,false,false,[]⟩),
 (mk (some 29) (.fieldAddr 88 (.tmp 3) 3) 0 (some (21,true)),⟨true,false,true,false,false,false,true,true,false,false,[]⟩),
 (mk (some 30) (.load 9 (.tmp 29)) 9 (some (21,true)),⟨true,false,true,false,true,false,true,true,false,false,[]⟩),
 (mk (some 31) (.binOp .eql 9 (.tmp 28) (.tmp 30) 9) 4 (some (21,true)),⟨true,false,true,false,true,false,true,true,false,false,[]⟩),
 (op1 32 (.pick (.tmp 26) (.tmp 31) (.const (.bool false))) 4,⟨true,false,true,false,true,false,true,true,false,false,[]⟩),
 (mv 33 32 4,⟨true,false,true,false,true,false,true,true,false,false,[]⟩),
 (mk (some 34) (.fieldAddr 88 (.tmp 2) 4) 0 (some (28,true)),⟨true,false,true,false,false,false,true,true,false,false,[]⟩),
 (mk (some 35) (.load 4 (.tmp 34)) 4 (some (28,true)),⟨true,false,true,false,false,false,true,true,false,false,[]⟩),
 (mk (some 36) (.fieldAddr 88 (.tmp 3) 4) 0 (some (28,true)),⟨true,false,true,false,true,false,true,true,false,false,[]⟩),
 (mk (some 37) (.load 4 (.tmp 36)) 4 (some (28,true)),⟨true,false,true,false,true,false,true,true,false,false,[]⟩),
 (mk (some 38) (.binOp .eql 4 (.tmp 35) (.tmp 37) 4) 4 (some (28,true)),⟨true,false,true,false,true,false,true,true,false,false,[]⟩),
 (op1 39 (.pick (.tmp 33) (.tmp 38) (.const (.bool false))) 4,⟨true,false,true,false,true,false,true,true,false,false,[]⟩),
 (asn 4 39 4,⟨true,true,true,false,true,false,true,true,false,false,[]⟩)]
theorem e83_3 : evK gS fi83 c83_3 fr st k = drwR gS fi83 r83_3 q83_3 fr st k := evK_dr 1 rfl (by kernel_rfl) (by kernel_rfl)
def c83_2 : Code := .seq c83_3 .ret
theorem e83_2 : evK gS fi83 c83_2 fr st k = evK gS fi83 c83_3 fr st (.seq .ret k) := rfl
def c83_0 : Code := .seq (codeN b83 2) c83_2
theorem e83_0 : evK gS fi83 c83_0 fr st k = opsR gS fi83 [op1 2 (.box 88 (.tmp 0)) 0,
 op1 3 (.box 88 (.tmp 1)) 0,
 op1 4 (.assign (.const (.bool false))) 4] fr st (.seq c83_2 k) := evK_rs 0 rfl (by kernel_rfl)
theorem m83 : mini fi83.body = c83_0 := by kernel_rfl
set_option maxHeartbeats 4000000 in
theorem c83 (a : Val) (b : Val)  (st : St) : EvF gS 83 [a.enc,b.enc] st = some (.ret (.bool (vsame a b)) none,st) := by
  refine EvF_start fi82_eq (fun x h => by cases h) m83 ?_
  rw [st83]
  have hm : fi83.marks = [] := rfl
  have hl : fi83.locals = [2,3] := rfl
  have hr : fi83.results = [.tmp 4] := rfl
  simp (config := { contextual := true,maxSteps := 10000000,maxDischargeDepth := 6 }) [-Int.not_le,-Int.not_lt,-Nat.not_le,-Nat.not_lt,ty2,ty3,ty4,ty9,ty86,ty88,ty128,eq88,hm,hl,hr,k103,x103,fi110_eq,p103,e83_3,q83_3,e83_2,e83_0]
  all_goals try simp (config := { contextual := true }) [-Int.not_le,-Int.not_lt,-Nat.not_le,-Nat.not_lt,vsame]
  all_goals first | done | grind | omega | (trace_state; fail)
theorem k83 (a_k : Int) (a_n : Int) (a_x : Nat) (a_s : List UInt8) (a_b : Bool) (b_k : Int) (b_n : Int) (b_x : Nat) (b_s : List UInt8) (b_b : Bool)  (fr : Fr) (st : St) : callStep gS (EvF gS) 83 [.agg [.int .i64 a_k,.int .i64 a_n,.float .f64 a_x,.str a_s,.bool a_b],.agg [.int .i64 b_k,.int .i64 b_n,.float .f64 b_x,.str b_s,.bool b_b]] fr st = some (.ok (retE none (.bool (vsame (⟨a_k,a_n,a_x,a_s,a_b⟩ : Val) (⟨b_k,b_n,b_x,b_s,b_b⟩ : Val)))) fr st) :=
  call_pure rfl fi82_eq rfl (fun st => c83 (⟨a_k,a_n,a_x,a_s,a_b⟩ : Val) (⟨b_k,b_n,b_x,b_s,b_b⟩ : Val)  st) (by simp)
theorem x83 : gS.ext 83 = none := rfl
theorem p83 : fi83.pure = true := rfl
def fi117 : FI := { body := codeOf Try.f117,ntmps := 29,results := [.tmp 2],pers := [0,1,2,3,7],locals := [1,3],pure := true,marks := [] }
theorem fi70_eq : gS.fn 117 = some fi117 := by kernel_rfl
theorem st117 (a0 : V) : startFr fi117 [a0] = { ps := [(0,.val a0),(1,.any),(2,.any),(3,.any),(7,.any)],ts := [],lc := [] } := rfl
def b117 : Code := mini (codeOf Try.f117)
def c117_13 : Code := codeN b117 343
def c117_17 : Code := codeN b117 1495
def c117_21 : Code := codeN b117 6103
def c117_25 : Code := codeN b117 24535
def c117_26 : Code := .seq (codeN b117 49111) .ret
def c117_24 : Code := .cond (.tmp 17) c117_25 c117_26
def c117_22 : Code := .seq (codeN b117 12247) c117_24
def c117_20 : Code := .cond (.tmp 14) c117_21 c117_22
def c117_18 : Code := .seq (codeN b117 3031) c117_20
def c117_16 : Code := .cond (.tmp 11) c117_17 c117_18
def c117_14 : Code := .seq (codeN b117 727) c117_16
def c117_12 : Code := .cond (.tmp 8) c117_13 c117_14
def c117_10 : Code := .seq (codeN b117 151) c117_12
def c117_9 : Code := .block 0 c117_10
def c117_7 : Code := .seq (codeN b117 39) c117_9
def c117_29 : Code := .seq (codeN b117 47) .ret
def c117_6 : Code := .seq c117_7 c117_29
def c117_4 : Code := .seq (codeN b117 11) c117_6
def c117_2 : Code := .seq (codeN b117 5) c117_4
def c117_0 : Code := .seq (codeN b117 2) c117_2
theorem E117 : (evK gS fi117 c117_13 fr st k = opsR gS fi117 [op1 10 (.fieldAddr 88 (.tmp 3) 1) 0,
 mk none (.store 2 (.tmp 10) (.const (.int .i64 0))) 0 none] fr st k) ∧
 (evK gS fi117 c117_17 fr st k = opsR gS fi117 [op1 13 (.fieldAddr 88 (.tmp 3) 2) 0,
 mk none (.store 86 (.tmp 13) (.const (.float .f64 0))) 0 none] fr st k) ∧
 (evK gS fi117 c117_21 fr st k = opsR gS fi117 [op1 16 (.fieldAddr 88 (.tmp 3) 3) 0,
 mk none (.store 9 (.tmp 16) (.const (.string { data := #[] }))) 0 none] fr st k) ∧
 (evK gS fi117 c117_25 fr st k = opsR gS fi117 [op1 19 (.fieldAddr 88 (.tmp 3) 4) 0,
 mk none (.store 4 (.tmp 19) (.const (.bool false))) 0 none] fr st k) ∧
 evK gS fi117 c117_26 fr st k = opsR gS fi117 [op1 2 (.assign (.const (.bool false))) 4] fr st (.seq .ret k) ∧
 evK gS fi117 c117_24 fr st k = condK gS fi117 (fr.op (.tmp 17)).bool? c117_25 c117_26 fr st k ∧
 (evK gS fi117 c117_22 fr st k = opsR gS fi117 [op1 18 (.binOp .eql 3 (.tmp 7) (.const (.int .i64 4)) 3) 4,
 asn 17 18 4] fr st (.seq c117_24 k)) ∧
 evK gS fi117 c117_20 fr st k = condK gS fi117 (fr.op (.tmp 14)).bool? c117_21 c117_22 fr st k ∧
 (evK gS fi117 c117_18 fr st k = opsR gS fi117 [op1 15 (.binOp .eql 3 (.tmp 7) (.const (.int .i64 3)) 3) 4,
 asn 14 15 4] fr st (.seq c117_20 k)) ∧
 evK gS fi117 c117_16 fr st k = condK gS fi117 (fr.op (.tmp 11)).bool? c117_17 c117_18 fr st k ∧
 (evK gS fi117 c117_14 fr st k = opsR gS fi117 [op1 12 (.binOp .eql 3 (.tmp 7) (.const (.int .i64 2)) 3) 4,
 asn 11 12 4] fr st (.seq c117_16 k)) ∧
 evK gS fi117 c117_12 fr st k = condK gS fi117 (fr.op (.tmp 8)).bool? c117_13 c117_14 fr st k ∧
 (evK gS fi117 c117_10 fr st k = opsR gS fi117 [op1 9 (.binOp .eql 3 (.tmp 7) (.const (.int .i64 1)) 3) 4,
 asn 8 9 4] fr st (.seq c117_12 k)) ∧
 evK gS fi117 c117_9 fr st k = evK gS fi117 c117_10 fr st (.blk 0 k) ∧
 (evK gS fi117 c117_7 fr st k = opsR gS fi117 [op1 6 (.fieldAddr 88 (.tmp 1) 0) 0,
 ld 7 3 6 3] fr st (.seq c117_9 k)) ∧
 (evK gS fi117 c117_29 fr st k = opsR gS fi117 [ld 20 88 3 88,
 op1 21 (.build 88 #[]) 88,
 bop 22 .eql 88 20 21 88 4,
 mv 23 22 4,
 mk (some 24) (.fieldAddr 88 (.tmp 1) 3) 0 (some (3,true)),
 mk (some 25) (.load 9 (.tmp 24)) 9 (some (3,true)),
 mk (some 26) (.call { callee := (.builtin .len),args := #[(.tmp 25)],argTypes := #[9] }) 3 (some (3,true)),
 mk (some 27) (.binOp .leq 3 (.tmp 26) (.const (.int .i64 12)) 3) 4 (some (3,true)),
 op1 28 (.pick (.tmp 23) (.tmp 27) (.const (.bool false))) 4,
 asn 2 28 4] fr st (.seq .ret k)) ∧
 evK gS fi117 c117_6 fr st k = evK gS fi117 c117_7 fr st (.seq c117_29 k) ∧
 (evK gS fi117 c117_4 fr st k = opsR gS fi117 [op1 5 (.fieldAddr 88 (.tmp 3) 0) 0,
 mk none (.store 3 (.tmp 5) (.const (.int .i64 0))) 0 none] fr st (.seq c117_6 k)) ∧
 (evK gS fi117 c117_2 fr st k = opsR gS fi117 [ld 4 88 1 88,
 op1 3 (.alloc 88) 0,
 sto 88 3 4] fr st (.seq c117_4 k)) ∧
 (evK gS fi117 c117_0 fr st k = opsR gS fi117 [op1 1 (.box 88 (.tmp 0)) 0,
 op1 2 (.assign (.const (.bool false))) 4] fr st (.seq c117_2 k)) := ⟨evK_r 6 (by kernel_rfl),evK_r 8 (by kernel_rfl),evK_r 10 (by kernel_rfl),evK_r 12 (by kernel_rfl),evK_rs 4 rfl (by kernel_rfl),rfl,evK_rs 11 rfl (by kernel_rfl),rfl,evK_rs 9 rfl (by kernel_rfl),rfl,evK_rs 7 rfl (by kernel_rfl),rfl,evK_rs 5 rfl (by kernel_rfl),rfl,evK_rs 3 rfl (by kernel_rfl),evK_rs 13 rfl (by kernel_rfl),rfl,evK_rs 2 rfl (by kernel_rfl),evK_rs 1 rfl (by kernel_rfl),evK_rs 0 rfl (by kernel_rfl)⟩
theorem m117 : mini fi117.body = c117_0 := by kernel_rfl
set_option maxHeartbeats 4000000 in
theorem c117 (v : Val)  (st : St) : EvF gS 117 [v.enc] st = some (.ret (.bool (vright v)) none,st) := by
  refine EvF_start fi70_eq (fun x h => by cases h) m117 ?_
  rw [st117]
  have hm : fi117.marks = [] := rfl
  have hl : fi117.locals = [1,3] := rfl
  have hr : fi117.results = [.tmp 2] := rfl
  simp (config := { contextual := true,maxSteps := 10000000,maxDischargeDepth := 6 }) [-Int.not_le,-Int.not_lt,-Nat.not_le,-Nat.not_lt,ty2,ty3,ty4,ty9,ty86,ty88,eq88,hm,hl,hr,E117]
  all_goals try simp (config := { contextual := true }) [-Int.not_le,-Int.not_lt,-Nat.not_le,-Nat.not_lt,vright,opq]
  all_goals first | done | grind | omega | (trace_state; fail)
theorem k117 (v_k : Int) (v_n : Int) (v_x : Nat) (v_s : List UInt8) (v_b : Bool)  (fr : Fr) (st : St) : callStep gS (EvF gS) 117 [.agg [.int .i64 v_k,.int .i64 v_n,.float .f64 v_x,.str v_s,.bool v_b]] fr st = some (.ok (retE none (.bool (vright (⟨v_k,v_n,v_x,v_s,v_b⟩ : Val)))) fr st) :=
  call_pure rfl fi70_eq rfl (fun st => c117 (⟨v_k,v_n,v_x,v_s,v_b⟩ : Val)  st) (by simp)
def fi127 : FI := { body := codeOf Try.f127,ntmps := 63,results := [.tmp 2],pers := [0,1,2,3,4,5,6,20],locals := [1],pure := true,marks := [] }
theorem fi74_eq : gS.fn 127 = some fi127 := by kernel_rfl
theorem st127 (a0 : V) : startFr fi127 [a0] = { ps := [(0,.val a0),(1,.any),(2,.any),(3,.any),(4,.any),(5,.any),(6,.any),(20,.any)],ts := [],lc := [] } := rfl
def b127 : Code := mini (codeOf Try.f127)
def r127_3 : Array Oper := regOps (codeN (codeOf Try.f127) 5)
def c127_3 : Code := .region 1 r127_3 true
def q127_3 : List (Oper × Fl) := [(op1 7 (.fieldAddr 88 (.tmp 1) 1) 0,⟨true,false,true,false,false,false,true,true,false,false,[]⟩),
 (ld 8 2 7 2,⟨true,false,true,false,false,false,true,true,false,false,[]⟩),
 (op1 9 (.binOp .eql 2 (.tmp 8) (.const (.int .i64 0)) 2) 4,⟨true,false,true,false,false,false,true,true,false,false,[]⟩),
 (op1 10 (.fieldAddr 88 (.tmp 1) 2) 0,⟨true,false,true,false,false,false,true,true,false,false,[]⟩),
 (ld 11 86 10 86,⟨true,false,true,false,false,false,true,true,false,false,[]⟩),
 (op1 12 (.binOp .eql 86 (.tmp 11) (.const (.float .f64 0)) 86) 4,⟨true,false,true,false,false,false,true,true,false,false,[]⟩),
 (op1 13 (.fieldAddr 88 (.tmp 1) 3) 0,⟨true,false,true,false,false,false,true,true,false,false,[]⟩),
 (ld 14 9 13 9,⟨true,false,true,false,false,false,true,true,false,false,[]⟩),
 (op1 15 (.binOp .eql 9 (.tmp 14) (.const (.string { data := #[] })) 9) 4,⟨true,false,true,false,false,false,true,true,false,false,[]⟩),
 (op1 16 (.fieldAddr 88 (.tmp 1) 4) 0,⟨true,false,true,false,false,false,true,true,false,false,[]⟩),
 (ld 17 4 16 4,⟨true,false,true,false,false,false,true,true,false,false,[]⟩),
 (op1 18 (.unOp .not 4 (.tmp 17)) 4,⟨true,false,true,false,false,false,true,true,false,false,[]⟩),
 (asn 3 9 4,⟨true,false,true,false,true,false,true,true,false,false,[]⟩),
 (asn 4 12 4,⟨true,false,true,false,true,false,true,true,false,false,[]⟩),
 (asn 5 15 4,⟨true,false,true,false,true,false,true,true,false,false,[]⟩),
 (asn 6 18 4,⟨true,true,true,false,true,false,true,true,false,false,[]⟩)]
def c127_11 : Code := .seq (codeN b127 299) .ret
def c127_17 : Code := .seq (codeN b127 1259) .ret
def c127_23 : Code := .seq (codeN b127 5099) .ret
def c127_29 : Code := .seq (codeN b127 20459) .ret
def c127_28 : Code := .cond (.tmp 54) c127_29 .skip
def c127_26 : Code := .seq (codeN b127 6123) c127_28
def c127_22 : Code := .cond (.tmp 39) c127_23 c127_26
def c127_20 : Code := .seq (codeN b127 1515) c127_22
def c127_16 : Code := .cond (.tmp 30) c127_17 c127_20
def c127_14 : Code := .seq (codeN b127 363) c127_16
def c127_10 : Code := .cond (.tmp 21) c127_11 c127_14
def c127_8 : Code := .seq (codeN b127 75) c127_10
def c127_7 : Code := .block 0 c127_8
def c127_5 : Code := .seq (codeN b127 19) c127_7
def c127_33 : Code := .seq (codeN b127 23) .ret
def c127_4 : Code := .seq c127_5 c127_33
def c127_2 : Code := .seq c127_3 c127_4
def c127_0 : Code := .seq (codeN b127 2) c127_2
theorem E127 : evK gS fi127 c127_3 fr st k = drwR gS fi127 r127_3 q127_3 fr st k ∧
 (evK gS fi127 c127_11 fr st k = opsR gS fi127 [mv 23 4 4,
 mv 24 23 4,
 mk (some 25) (.move (.tmp 5)) 4 (some (1,true)),
 op1 26 (.pick (.tmp 24) (.tmp 25) (.const (.bool false))) 4,
 mv 27 26 4,
 mk (some 28) (.move (.tmp 6)) 4 (some (4,true)),
 op1 29 (.pick (.tmp 27) (.tmp 28) (.const (.bool false))) 4,
 asn 2 29 4] fr st (.seq .ret k)) ∧
 (evK gS fi127 c127_17 fr st k = opsR gS fi127 [mv 32 3 4,
 mv 33 32 4,
 mk (some 34) (.move (.tmp 5)) 4 (some (1,true)),
 op1 35 (.pick (.tmp 33) (.tmp 34) (.const (.bool false))) 4,
 mv 36 35 4,
 mk (some 37) (.move (.tmp 6)) 4 (some (4,true)),
 op1 38 (.pick (.tmp 36) (.tmp 37) (.const (.bool false))) 4,
 asn 2 38 4] fr st (.seq .ret k)) ∧
 (evK gS fi127 c127_23 fr st k = opsR gS fi127 [mv 41 3 4,
 mv 42 41 4,
 mk (some 43) (.move (.tmp 4)) 4 (some (1,true)),
 op1 44 (.pick (.tmp 42) (.tmp 43) (.const (.bool false))) 4,
 mv 45 44 4,
 mk (some 46) (.move (.tmp 6)) 4 (some (4,true)),
 op1 47 (.pick (.tmp 45) (.tmp 46) (.const (.bool false))) 4,
 mv 48 47 4,
 mk (some 49) (.fieldAddr 88 (.tmp 1) 3) 0 (some (7,true)),
 mk (some 50) (.load 9 (.tmp 49)) 9 (some (7,true)),
 mk (some 51) (.call { callee := (.builtin .len),args := #[(.tmp 50)],argTypes := #[9] }) 3 (some (7,true)),
 mk (some 52) (.binOp .leq 3 (.tmp 51) (.const (.int .i64 12)) 3) 4 (some (7,true)),
 op1 53 (.pick (.tmp 48) (.tmp 52) (.const (.bool false))) 4,
 asn 2 53 4] fr st (.seq .ret k)) ∧
 (evK gS fi127 c127_29 fr st k = opsR gS fi127 [mv 56 3 4,
 mv 57 56 4,
 mk (some 58) (.move (.tmp 4)) 4 (some (1,true)),
 op1 59 (.pick (.tmp 57) (.tmp 58) (.const (.bool false))) 4,
 mv 60 59 4,
 mk (some 61) (.move (.tmp 5)) 4 (some (4,true)),
 op1 62 (.pick (.tmp 60) (.tmp 61) (.const (.bool false))) 4,
 asn 2 62 4] fr st (.seq .ret k)) ∧
 evK gS fi127 c127_28 fr st k = condK gS fi127 (fr.op (.tmp 54)).bool? c127_29 .skip fr st k ∧
 (evK gS fi127 c127_26 fr st k = opsR gS fi127 [op1 55 (.binOp .eql 3 (.tmp 20) (.const (.int .i64 4)) 3) 4,
 asn 54 55 4] fr st (.seq c127_28 k)) ∧
 evK gS fi127 c127_22 fr st k = condK gS fi127 (fr.op (.tmp 39)).bool? c127_23 c127_26 fr st k ∧
 (evK gS fi127 c127_20 fr st k = opsR gS fi127 [op1 40 (.binOp .eql 3 (.tmp 20) (.const (.int .i64 3)) 3) 4,
 asn 39 40 4] fr st (.seq c127_22 k)) ∧
 evK gS fi127 c127_16 fr st k = condK gS fi127 (fr.op (.tmp 30)).bool? c127_17 c127_20 fr st k ∧
 (evK gS fi127 c127_14 fr st k = opsR gS fi127 [op1 31 (.binOp .eql 3 (.tmp 20) (.const (.int .i64 2)) 3) 4,
 asn 30 31 4] fr st (.seq c127_16 k)) ∧
 evK gS fi127 c127_10 fr st k = condK gS fi127 (fr.op (.tmp 21)).bool? c127_11 c127_14 fr st k ∧
 (evK gS fi127 c127_8 fr st k = opsR gS fi127 [op1 22 (.binOp .eql 3 (.tmp 20) (.const (.int .i64 1)) 3) 4,
 asn 21 22 4] fr st (.seq c127_10 k)) ∧
 evK gS fi127 c127_7 fr st k = evK gS fi127 c127_8 fr st (.blk 0 k) ∧
 (evK gS fi127 c127_5 fr st k = opsR gS fi127 [op1 19 (.fieldAddr 88 (.tmp 1) 0) 0,
 ld 20 3 19 3] fr st (.seq c127_7 k)) ∧
 evK gS fi127 c127_33 fr st k = opsR gS fi127 [op1 2 (.assign (.const (.bool false))) 4] fr st (.seq .ret k) ∧
 evK gS fi127 c127_4 fr st k = evK gS fi127 c127_5 fr st (.seq c127_33 k) ∧
 evK gS fi127 c127_2 fr st k = evK gS fi127 c127_3 fr st (.seq c127_4 k) ∧
 (evK gS fi127 c127_0 fr st k = opsR gS fi127 [op1 1 (.box 88 (.tmp 0)) 0,
 op1 2 (.assign (.const (.bool false))) 4] fr st (.seq c127_2 k)) := ⟨evK_dr 1 rfl (by kernel_rfl) (by kernel_rfl),evK_rs 4 rfl (by kernel_rfl),evK_rs 6 rfl (by kernel_rfl),evK_rs 8 rfl (by kernel_rfl),evK_rs 10 rfl (by kernel_rfl),rfl,evK_rs 9 rfl (by kernel_rfl),rfl,evK_rs 7 rfl (by kernel_rfl),rfl,evK_rs 5 rfl (by kernel_rfl),rfl,evK_rs 3 rfl (by kernel_rfl),rfl,evK_rs 2 rfl (by kernel_rfl),evK_rs 11 rfl (by kernel_rfl),rfl,rfl,evK_rs 0 rfl (by kernel_rfl)⟩
theorem m127 : mini fi127.body = c127_0 := by kernel_rfl
set_option maxHeartbeats 4000000 in
theorem c127 (v : Val)  (st : St) : EvF gS 127 [v.enc] st = some (.ret (.bool (vright v)) none,st) := by
  refine EvF_start fi74_eq (fun x h => by cases h) m127 ?_
  rw [st127]
  have hm : fi127.marks = [] := rfl
  have hl : fi127.locals = [1] := rfl
  have hr : fi127.results = [.tmp 2] := rfl
  simp (config := { contextual := true,maxSteps := 10000000,maxDischargeDepth := 6 }) [-Int.not_le,-Int.not_lt,-Nat.not_le,-Nat.not_lt,ty2,ty3,ty4,ty9,ty86,ty88,eq88,hm,hl,hr,E127,q127_3]
  all_goals try simp (config := { contextual := true }) [-Int.not_le,-Int.not_lt,-Nat.not_le,-Nat.not_lt,vright,opq]
  all_goals first | done | grind | omega | (trace_state; fail)
theorem k127 (v_k : Int) (v_n : Int) (v_x : Nat) (v_s : List UInt8) (v_b : Bool)  (fr : Fr) (st : St) : callStep gS (EvF gS) 127 [.agg [.int .i64 v_k,.int .i64 v_n,.float .f64 v_x,.str v_s,.bool v_b]] fr st = some (.ok (retE none (.bool (vright (⟨v_k,v_n,v_x,v_s,v_b⟩ : Val)))) fr st) :=
  call_pure rfl fi74_eq rfl (fun st => c127 (⟨v_k,v_n,v_x,v_s,v_b⟩ : Val)  st) (by simp)
def fi116 : FI := { body := codeOf Try.f116,ntmps := 6,results := [.tmp 2],pers := [0,1,2],locals := [1],pure := true,marks := [] }
theorem fi69_eq : gS.fn 116 = some fi116 := by kernel_rfl
theorem st116 (a0 : V) : startFr fi116 [a0] = { ps := [(0,.val a0),(1,.any),(2,.any)],ts := [],lc := [] } := rfl
def b116 : Code := mini (codeOf Try.f116)
def c116_2 : Code := .seq (codeN b116 5) .ret
theorem e116_2 : evK gS fi116 c116_2 fr st k = opsR gS fi116 [ld 3 88 1 88,
 op1 4 (.build 88 #[]) 88,
 cal 5 102 [(.tmp 3),(.tmp 4)] [88,88] 4,
 asn 2 5 4] fr st (.seq .ret k) := evK_rs 1 rfl (by kernel_rfl)
def c116_0 : Code := .seq (codeN b116 2) c116_2
theorem e116_0 : evK gS fi116 c116_0 fr st k = opsR gS fi116 [op1 1 (.box 88 (.tmp 0)) 0,
 op1 2 (.assign (.const (.bool false))) 4] fr st (.seq c116_2 k) := evK_rs 0 rfl (by kernel_rfl)
theorem m116 : mini fi116.body = c116_0 := by kernel_rfl
set_option maxHeartbeats 4000000 in
theorem c116 (v : Val)  (st : St) : EvF gS 116 [v.enc] st = some (.ret (.bool (vsame v vzero)) none,st) := by
  refine EvF_start fi69_eq (fun x h => by cases h) m116 ?_
  rw [st116]
  have hm : fi116.marks = [] := rfl
  have hl : fi116.locals = [1] := rfl
  have hr : fi116.results = [.tmp 2] := rfl
  simp (config := { contextual := true,maxSteps := 10000000,maxDischargeDepth := 6 }) [-Int.not_le,-Int.not_lt,-Nat.not_le,-Nat.not_lt,ty4,ty88,eq88,hm,hl,hr,k102,e116_2,e116_0]
  all_goals try simp (config := { contextual := true }) [-Int.not_le,-Int.not_lt,-Nat.not_le,-Nat.not_lt,vzero]
  all_goals first | done | grind | omega | (trace_state; fail)
theorem k116 (v_k : Int) (v_n : Int) (v_x : Nat) (v_s : List UInt8) (v_b : Bool)  (fr : Fr) (st : St) : callStep gS (EvF gS) 116 [.agg [.int .i64 v_k,.int .i64 v_n,.float .f64 v_x,.str v_s,.bool v_b]] fr st = some (.ok (retE none (.bool (vsame (⟨v_k,v_n,v_x,v_s,v_b⟩ : Val) vzero))) fr st) :=
  call_pure rfl fi69_eq rfl (fun st => c116 (⟨v_k,v_n,v_x,v_s,v_b⟩ : Val)  st) (by simp)
def fi126 : FI := { body := codeOf Try.f126,ntmps := 6,results := [.tmp 2],pers := [0,1,2],locals := [1],pure := true,marks := [] }
theorem fi73_eq : gS.fn 126 = some fi126 := by kernel_rfl
theorem st126 (a0 : V) : startFr fi126 [a0] = { ps := [(0,.val a0),(1,.any),(2,.any)],ts := [],lc := [] } := rfl
def b126 : Code := mini (codeOf Try.f126)
def c126_2 : Code := .seq (codeN b126 5) .ret
theorem e126_2 : evK gS fi126 c126_2 fr st k = opsR gS fi126 [ld 3 88 1 88,
 op1 4 (.build 88 #[]) 88,
 cal 5 83 [(.tmp 3),(.tmp 4)] [88,88] 4,
 asn 2 5 4] fr st (.seq .ret k) := evK_rs 1 rfl (by kernel_rfl)
def c126_0 : Code := .seq (codeN b126 2) c126_2
theorem e126_0 : evK gS fi126 c126_0 fr st k = opsR gS fi126 [op1 1 (.box 88 (.tmp 0)) 0,
 op1 2 (.assign (.const (.bool false))) 4] fr st (.seq c126_2 k) := evK_rs 0 rfl (by kernel_rfl)
theorem m126 : mini fi126.body = c126_0 := by kernel_rfl
set_option maxHeartbeats 4000000 in
theorem c126 (v : Val)  (st : St) : EvF gS 126 [v.enc] st = some (.ret (.bool (vsame v vzero)) none,st) := by
  refine EvF_start fi73_eq (fun x h => by cases h) m126 ?_
  rw [st126]
  have hm : fi126.marks = [] := rfl
  have hl : fi126.locals = [1] := rfl
  have hr : fi126.results = [.tmp 2] := rfl
  simp (config := { contextual := true,maxSteps := 10000000,maxDischargeDepth := 6 }) [-Int.not_le,-Int.not_lt,-Nat.not_le,-Nat.not_lt,ty4,ty88,eq88,hm,hl,hr,k83,e126_2,e126_0]
  all_goals try simp (config := { contextual := true }) [-Int.not_le,-Int.not_lt,-Nat.not_le,-Nat.not_lt,vzero]
  all_goals first | done | grind | omega | (trace_state; fail)
theorem k126 (v_k : Int) (v_n : Int) (v_x : Nat) (v_s : List UInt8) (v_b : Bool)  (fr : Fr) (st : St) : callStep gS (EvF gS) 126 [.agg [.int .i64 v_k,.int .i64 v_n,.float .f64 v_x,.str v_s,.bool v_b]] fr st = some (.ok (retE none (.bool (vsame (⟨v_k,v_n,v_x,v_s,v_b⟩ : Val) vzero))) fr st) :=
  call_pure rfl fi73_eq rfl (fun st => c126 (⟨v_k,v_n,v_x,v_s,v_b⟩ : Val)  st) (by simp)
def fi99 : FI := { body := codeOf Try.f99,ntmps := 18,results := [.tmp 4],pers := [0,1,4],locals := [],pure := true,marks := [] }
theorem fi76_eq : gS.fn 99 = some fi99 := by kernel_rfl
theorem st99 (a0 a1 : V) : startFr fi99 [a0,a1] = { ps := [(0,.val a0),(1,.val a1),(4,.any)],ts := [],lc := [] } := rfl
def b99 : Code := mini (codeOf Try.f99)
def c99_2 : Code := .seq (codeN b99 5) .ret
theorem e99_2 : evK gS fi99 c99_2 fr st k = opsR gS fi99 [mv 5 0 9,
 len1 6 5 9 3,
 mv 7 1 9,
 len1 8 7 9 3,
 bop 9 .geq 3 6 8 3 4,
 mv 10 9 4,
 mk (some 11) (.move (.tmp 0)) 9 (some (5,true)),
 mk (some 12) (.move (.tmp 1)) 9 (some (5,true)),
 mk (some 13) (.call { callee := (.builtin .len),args := #[(.tmp 12)],argTypes := #[9] }) 3 (some (5,true)),
 mk (some 14) (.slice 9 (.tmp 11) none (some (.tmp 13)) none) 9 (some (5,true)),
 mk (some 15) (.move (.tmp 1)) 9 (some (5,true)),
 mk (some 16) (.binOp .eql 9 (.tmp 14) (.tmp 15) 9) 4 (some (5,true)),
 op1 17 (.pick (.tmp 10) (.tmp 16) (.const (.bool false))) 4,
 asn 4 17 4] fr st (.seq .ret k) := evK_rs 1 rfl (by kernel_rfl)
def c99_0 : Code := .seq (codeN b99 2) c99_2
theorem e99_0 : evK gS fi99 c99_0 fr st k = opsR gS fi99 [op1 4 (.assign (.const (.bool false))) 4] fr st (.seq c99_2 k) := evK_rs 0 rfl (by kernel_rfl)
theorem m99 : mini fi99.body = c99_0 := by kernel_rfl
set_option maxHeartbeats 4000000 in
theorem c99 (s : List UInt8) (t : List UInt8)  (st : St) : EvF gS 99 [.str s,.str t] st = some (.ret (.bool (isPre s t)) none,st) := by
  refine EvF_start fi76_eq (fun x h => by cases h) m99 ?_
  rw [st99]
  have hm : fi99.marks = [] := rfl
  have hl : fi99.locals = [] := rfl
  have hr : fi99.results = [.tmp 4] := rfl
  simp (config := { contextual := true,maxSteps := 10000000,maxDischargeDepth := 6 }) [-Int.not_le,-Int.not_lt,-Nat.not_le,-Nat.not_lt,ty3,ty4,ty9,hm,hl,hr,e99_2,e99_0]
  all_goals try simp (config := { contextual := true }) [-Int.not_le,-Int.not_lt,-Nat.not_le,-Nat.not_lt,isPre]
  all_goals first | done | grind | omega | (trace_state; fail)
theorem k99 (s : List UInt8) (t : List UInt8)  (fr : Fr) (st : St) : callStep gS (EvF gS) 99 [.str s,.str t] fr st = some (.ok (retE none (.bool (isPre s t))) fr st) :=
  call_pure rfl fi76_eq rfl (fun st => c99 s t  st) (by simp)
def fi109 : FI := { body := codeOf Try.f109,ntmps := 18,results := [.tmp 4],pers := [0,1,4],locals := [],pure := true,marks := [] }
theorem fi78_eq : gS.fn 109 = some fi109 := by kernel_rfl
theorem st109 (a0 a1 : V) : startFr fi109 [a0,a1] = { ps := [(0,.val a0),(1,.val a1),(4,.any)],ts := [],lc := [] } := rfl
def b109 : Code := mini (codeOf Try.f109)
def c109_2 : Code := .seq (codeN b109 5) .ret
theorem e109_2 : evK gS fi109 c109_2 fr st k = opsR gS fi109 [mv 5 0 9,
 len1 6 5 9 3,
 mv 7 1 9,
 len1 8 7 9 3,
 bop 9 .geq 3 6 8 3 4,
 mv 10 9 4,
 mk (some 11) (.move (.tmp 0)) 9 (some (5,true)),
 mk (some 12) (.move (.tmp 1)) 9 (some (5,true)),
 mk (some 13) (.call { callee := (.builtin .len),args := #[(.tmp 12)],argTypes := #[9] }) 3 (some (5,true)),
 mk (some 14) (.slice 9 (.tmp 11) none (some (.tmp 13)) none) 9 (some (5,true)),
 mk (some 15) (.move (.tmp 1)) 9 (some (5,true)),
 mk (some 16) (.binOp .eql 9 (.tmp 14) (.tmp 15) 9) 4 (some (5,true)),
 op1 17 (.pick (.tmp 10) (.tmp 16) (.const (.bool false))) 4,
 asn 4 17 4] fr st (.seq .ret k) := evK_rs 1 rfl (by kernel_rfl)
def c109_0 : Code := .seq (codeN b109 2) c109_2
theorem e109_0 : evK gS fi109 c109_0 fr st k = opsR gS fi109 [op1 4 (.assign (.const (.bool false))) 4] fr st (.seq c109_2 k) := evK_rs 0 rfl (by kernel_rfl)
theorem m109 : mini fi109.body = c109_0 := by kernel_rfl
set_option maxHeartbeats 4000000 in
theorem c109 (s : List UInt8) (t : List UInt8)  (st : St) : EvF gS 109 [.str s,.str t] st = some (.ret (.bool (isPre s t)) none,st) := by
  refine EvF_start fi78_eq (fun x h => by cases h) m109 ?_
  rw [st109]
  have hm : fi109.marks = [] := rfl
  have hl : fi109.locals = [] := rfl
  have hr : fi109.results = [.tmp 4] := rfl
  simp (config := { contextual := true,maxSteps := 10000000,maxDischargeDepth := 6 }) [-Int.not_le,-Int.not_lt,-Nat.not_le,-Nat.not_lt,ty3,ty4,ty9,hm,hl,hr,e109_2,e109_0]
  all_goals try simp (config := { contextual := true }) [-Int.not_le,-Int.not_lt,-Nat.not_le,-Nat.not_lt,isPre]
  all_goals first | done | grind | omega | (trace_state; fail)
theorem k109 (s : List UInt8) (t : List UInt8)  (fr : Fr) (st : St) : callStep gS (EvF gS) 109 [.str s,.str t] fr st = some (.ok (retE none (.bool (isPre s t))) fr st) :=
  call_pure rfl fi78_eq rfl (fun st => c109 s t  st) (by simp)
theorem x109 : gS.ext 109 = none := rfl
theorem p109 : fi109.pure = true := rfl
end
end Go.Proofs.Ytdoobejjedpcgaa
namespace Go.Proofs.Ytdoobejjedpcgaa
open Go Go.Ab
set_option maxRecDepth 20000
noncomputable section
variable (fr : Fr) (st : St) (k : Kt)
def fi115 : FI := { body := codeOf Try.f115,ntmps := 28,results := [.tmp 2],pers := [0,2,3],locals := [],pure := true,marks := [] }
theorem fi68_eq : gS.fn 115 = some fi115 := by kernel_rfl
theorem st115 (a0 : V) : startFr fi115 [a0] = { ps := [(0,.val a0),(2,.any),(3,.any)],ts := [],lc := [] } := rfl
def b115 : Code := mini (codeOf Try.f115)
def c115_10 : Code := .cond (.tmp 7) .skip (.exit 0)
def c115_8 : Code := .seq (codeN b115 133) c115_10
def c115_18 : Code := .seq (codeN b115 2341) .ret
def c115_17 : Code := .cond (.tmp 19) c115_18 .skip
def c115_15 : Code := .seq (codeN b115 549) c115_17
def c115_22 : Code := codeN b115 229
def c115_13 : Code := .seq (.block 1 c115_15) c115_22
def c115_7 : Code := .seq c115_8 c115_13
def c115_6 : Code := .loop c115_7
def c115_5 : Code := .block 0 c115_6
def c115_3 : Code := .seq (codeN b115 9) c115_5
def c115_23 : Code := .seq (codeN b115 11) .ret
def c115_2 : Code := .seq c115_3 c115_23
def c115_0 : Code := .seq (codeN b115 2) c115_2
theorem E115 : evK gS fi115 c115_10 fr st k = condK gS fi115 (fr.op (.tmp 7)).bool? .skip (.exit 0) fr st k ∧
 (evK gS fi115 c115_8 fr st k = opsR gS fi115 [mv 4 3 3,
 mv 5 0 9,
 len1 6 5 9 3,
 bop 7 .lss 3 4 6 3 4] fr st (.seq c115_10 k)) ∧
 evK gS fi115 c115_18 fr st k = opsR gS fi115 [op1 2 (.assign (.const (.bool false))) 4] fr st (.seq .ret k) ∧
 evK gS fi115 c115_17 fr st k = condK gS fi115 (fr.op (.tmp 19)).bool? c115_18 .skip fr st k ∧
 (evK gS fi115 c115_15 fr st k = opsR gS fi115 [mv 10 0 9,
 mv 11 3 3,
 op1 12 (.index 9 (.tmp 10) (.tmp 11)) 5,
 op1 13 (.binOp .lss 5 (.tmp 12) (.const (.int .u8 97)) 5) 4,
 mv 14 13 4,
 mk (some 15) (.move (.tmp 0)) 9 (some (4,false)),
 mk (some 16) (.move (.tmp 3)) 3 (some (4,false)),
 mk (some 17) (.index 9 (.tmp 15) (.tmp 16)) 5 (some (4,false)),
 mk (some 18) (.binOp .gtr 5 (.tmp 17) (.const (.int .u8 122)) 5) 4 (some (4,false)),
 op1 19 (.pick (.tmp 14) (.const (.bool true)) (.tmp 18)) 4] fr st (.seq c115_17 k)) ∧
 (evK gS fi115 c115_22 fr st k = opsR gS fi115 [mv 8 3 3,
 op1 9 (.binOp .add 3 (.tmp 8) (.const (.int .i64 1)) 3) 3,
 asn 3 9 3] fr st k) ∧
 evK gS fi115 c115_13 fr st k = evK gS fi115 c115_15 fr st (.blk 1 (.seq c115_22 k)) ∧
 evK gS fi115 c115_7 fr st k = evK gS fi115 c115_8 fr st (.seq c115_13 k) ∧
 evK gS fi115 c115_5 fr st k = evK gS fi115 c115_6 fr st (.blk 0 k) ∧
 evK gS fi115 c115_3 fr st k = opsR gS fi115 [op1 3 (.assign (.const (.int .i64 0))) 3] fr st (.seq c115_5 k) ∧
 (evK gS fi115 c115_23 fr st k = opsR gS fi115 [mv 20 0 9,
 len1 21 20 9 3,
 op1 22 (.binOp .geq 3 (.tmp 21) (.const (.int .i64 1)) 3) 4,
 mv 23 22 4,
 mk (some 24) (.move (.tmp 0)) 9 (some (3,true)),
 mk (some 25) (.call { callee := (.builtin .len),args := #[(.tmp 24)],argTypes := #[9] }) 3 (some (3,true)),
 mk (some 26) (.binOp .leq 3 (.tmp 25) (.const (.int .i64 6)) 3) 4 (some (3,true)),
 op1 27 (.pick (.tmp 23) (.tmp 26) (.const (.bool false))) 4,
 asn 2 27 4] fr st (.seq .ret k)) ∧
 evK gS fi115 c115_2 fr st k = evK gS fi115 c115_3 fr st (.seq c115_23 k) ∧
 evK gS fi115 c115_0 fr st k = opsR gS fi115 [op1 2 (.assign (.const (.bool false))) 4] fr st (.seq c115_2 k) := ⟨rfl,evK_rs 2 rfl (by kernel_rfl),evK_rs 5 rfl (by kernel_rfl),rfl,evK_rs 4 rfl (by kernel_rfl),evK_r 3 (by kernel_rfl),rfl,rfl,rfl,evK_rs 1 rfl (by kernel_rfl),evK_rs 6 rfl (by kernel_rfl),rfl,evK_rs 0 rfl (by kernel_rfl)⟩
theorem m115 : mini fi115.body = c115_0 := by kernel_rfl
theorem n115_6 (fr : Fr) (st : St) (k : Kt) : nextK gS fi115 (.loop c115_7 k) .normal fr st = evK gS fi115 c115_6 fr st k := rfl
set_option maxHeartbeats 4000000 in
theorem L115_6 (s : List UInt8) (h_s : s.length < 4611686018427387904) (st : St) : ∀ (n i : Nat) (j : Int)  (e2 : E) (T : List (Nat × E)) (X : List (Nat × List V)) (ht2 : e2.Tame) ,j = (i : Int) → i ≤ (s).length → (s).length - i = n →
    evK gS fi115 c115_6 { ps := [(0,.val (.str s)),(2,e2),(3,.val (.int .i64 j))],ts := T,lc := X } st (.blk 0 (.seq c115_23 .nil)) = some ((.ret (.bool ((s.drop i).all (fun c => !decide (c.toNat < 97) && !decide (122 < c.toNat)) && (decide (1 ≤ s.length) && decide (s.length ≤ 6)))) none),st) := by
  intro n
  have hm : fi115.marks = [] := rfl
  have hl : fi115.locals = [] := rfl
  have hr : fi115.results = [.tmp 2] := rfl
  induction n with
  | zero =>
    intro i j  e2 T X ht2  hj hi hn
    obtain rfl : i = (s).length := by omega
    subst hj
    refine evK_loop c115_7 _ st _ _ rfl ?_
    simp (config := { contextual := true,maxSteps := 10000000,maxDischargeDepth := 6 }) [-Int.not_le,-Int.not_lt,-Nat.not_le,-Nat.not_lt,ty3,ty4,ty5,ty9,hm,hl,hr,E115,n115_6,ht2]
    all_goals first | done | grind | omega | (trace_state; fail)
  | succ n ih =>
    intro i j  e2 T X ht2  hj hi hn
    subst hj
    obtain ⟨x,hx⟩ : ∃ x,(s)[i]? = some x := ⟨(s)[i]'(by omega),List.getElem?_eq_getElem (by omega)⟩
    have hd := drop_get hx
    have hlt : (i : Int) < ((s).length : Int) := by omega
    have hlt2 : i < (s).length := by omega
    have hxe : (s)[i]'hlt2 = x := by rw [List.getElem?_eq_getElem hlt2] at hx; exact Option.some.inj hx
    have hw : IntKind.wrap .i64 ((i : Int) + 1) = (i : Int) + 1 := wrap64 (by omega) (by omega)
    have IH := fun e2 T X ht2 => ih (i + 1) ((i : Int) + 1) e2 T X ht2 rfl (by omega) (by omega)
    refine evK_loop c115_7 _ st _ _ rfl ?_
    simp (config := { contextual := true,maxSteps := 10000000,maxDischargeDepth := 6 }) [-Int.not_le,-Int.not_lt,-Nat.not_le,-Nat.not_lt,ty3,ty4,ty5,ty9,hm,hl,hr,E115,n115_6,ht2,hx,hxe,hd,hlt,hlt2,hw,IH]
    all_goals first | done | grind | omega | (trace_state; fail)
set_option maxHeartbeats 4000000 in
theorem c115 (s : List UInt8) (h_s : s.length < 4611686018427387904) (st : St) : EvF gS 115 [.str s] st = some (.ret (.bool (isWord s)) none,st) := by
  refine EvF_start fi68_eq (fun x h => by cases h) m115 ?_
  rw [st115]
  have hm : fi115.marks = [] := rfl
  have hl : fi115.locals = [] := rfl
  have hr : fi115.results = [.tmp 2] := rfl
  simp (config := { contextual := true,maxSteps := 10000000,maxDischargeDepth := 6 }) [-Int.not_le,-Int.not_lt,-Nat.not_le,-Nat.not_lt,ty3,ty4,ty5,ty9,hm,hl,hr,E115,n115_6,(fun e2 T X ht2 => L115_6 s h_s st _ 0 0  e2 T X ht2 rfl (Nat.zero_le _) rfl)]
  all_goals try simp (config := { contextual := true }) [-Int.not_le,-Int.not_lt,-Nat.not_le,-Nat.not_lt,isWord]
  all_goals first | done | grind | omega | (trace_state; fail)
theorem k115 (s : List UInt8) (h_s : s.length < 4611686018427387904) (fr : Fr) (st : St) : callStep gS (EvF gS) 115 [.str s] fr st = some (.ok (retE none (.bool (isWord s))) fr st) :=
  call_pure rfl fi68_eq rfl (fun st => c115 s h_s st) (by simp)
def fi125 : FI := { body := codeOf Try.f125,ntmps := 28,results := [.tmp 2],pers := [0,2,3],locals := [],pure := true,marks := [] }
theorem fi72_eq : gS.fn 125 = some fi125 := by kernel_rfl
theorem st125 (a0 : V) : startFr fi125 [a0] = { ps := [(0,.val a0),(2,.any),(3,.any)],ts := [],lc := [] } := rfl
def b125 : Code := mini (codeOf Try.f125)
def c125_10 : Code := .cond (.tmp 7) .skip (.exit 0)
def c125_8 : Code := .seq (codeN b125 133) c125_10
def c125_18 : Code := .seq (codeN b125 2341) .ret
def c125_17 : Code := .cond (.tmp 19) c125_18 .skip
def c125_15 : Code := .seq (codeN b125 549) c125_17
def c125_22 : Code := codeN b125 229
def c125_13 : Code := .seq (.block 1 c125_15) c125_22
def c125_7 : Code := .seq c125_8 c125_13
def c125_6 : Code := .loop c125_7
def c125_5 : Code := .block 0 c125_6
def c125_3 : Code := .seq (codeN b125 9) c125_5
def c125_23 : Code := .seq (codeN b125 11) .ret
def c125_2 : Code := .seq c125_3 c125_23
def c125_0 : Code := .seq (codeN b125 2) c125_2
theorem E125 : evK gS fi125 c125_10 fr st k = condK gS fi125 (fr.op (.tmp 7)).bool? .skip (.exit 0) fr st k ∧
 (evK gS fi125 c125_8 fr st k = opsR gS fi125 [mv 4 3 3,
 mv 5 0 9,
 len1 6 5 9 3,
 bop 7 .lss 3 4 6 3 4] fr st (.seq c125_10 k)) ∧
 evK gS fi125 c125_18 fr st k = opsR gS fi125 [op1 2 (.assign (.const (.bool false))) 4] fr st (.seq .ret k) ∧
 evK gS fi125 c125_17 fr st k = condK gS fi125 (fr.op (.tmp 19)).bool? c125_18 .skip fr st k ∧
 (evK gS fi125 c125_15 fr st k = opsR gS fi125 [mv 10 0 9,
 mv 11 3 3,
 op1 12 (.index 9 (.tmp 10) (.tmp 11)) 5,
 op1 13 (.binOp .lss 5 (.tmp 12) (.const (.int .u8 97)) 5) 4,
 mv 14 13 4,
 mk (some 15) (.move (.tmp 0)) 9 (some (4,false)),
 mk (some 16) (.move (.tmp 3)) 3 (some (4,false)),
 mk (some 17) (.index 9 (.tmp 15) (.tmp 16)) 5 (some (4,false)),
 mk (some 18) (.binOp .gtr 5 (.tmp 17) (.const (.int .u8 122)) 5) 4 (some (4,false)),
 op1 19 (.pick (.tmp 14) (.const (.bool true)) (.tmp 18)) 4] fr st (.seq c125_17 k)) ∧
 (evK gS fi125 c125_22 fr st k = opsR gS fi125 [mv 8 3 3,
 op1 9 (.binOp .add 3 (.tmp 8) (.const (.int .i64 1)) 3) 3,
 asn 3 9 3] fr st k) ∧
 evK gS fi125 c125_13 fr st k = evK gS fi125 c125_15 fr st (.blk 1 (.seq c125_22 k)) ∧
 evK gS fi125 c125_7 fr st k = evK gS fi125 c125_8 fr st (.seq c125_13 k) ∧
 evK gS fi125 c125_5 fr st k = evK gS fi125 c125_6 fr st (.blk 0 k) ∧
 evK gS fi125 c125_3 fr st k = opsR gS fi125 [op1 3 (.assign (.const (.int .i64 0))) 3] fr st (.seq c125_5 k) ∧
 (evK gS fi125 c125_23 fr st k = opsR gS fi125 [mv 20 0 9,
 len1 21 20 9 3,
 op1 22 (.binOp .geq 3 (.tmp 21) (.const (.int .i64 1)) 3) 4,
 mv 23 22 4,
 mk (some 24) (.move (.tmp 0)) 9 (some (3,true)),
 mk (some 25) (.call { callee := (.builtin .len),args := #[(.tmp 24)],argTypes := #[9] }) 3 (some (3,true)),
 mk (some 26) (.binOp .leq 3 (.tmp 25) (.const (.int .i64 6)) 3) 4 (some (3,true)),
 op1 27 (.pick (.tmp 23) (.tmp 26) (.const (.bool false))) 4,
 asn 2 27 4] fr st (.seq .ret k)) ∧
 evK gS fi125 c125_2 fr st k = evK gS fi125 c125_3 fr st (.seq c125_23 k) ∧
 evK gS fi125 c125_0 fr st k = opsR gS fi125 [op1 2 (.assign (.const (.bool false))) 4] fr st (.seq c125_2 k) := ⟨rfl,evK_rs 2 rfl (by kernel_rfl),evK_rs 5 rfl (by kernel_rfl),rfl,evK_rs 4 rfl (by kernel_rfl),evK_r 3 (by kernel_rfl),rfl,rfl,rfl,evK_rs 1 rfl (by kernel_rfl),evK_rs 6 rfl (by kernel_rfl),rfl,evK_rs 0 rfl (by kernel_rfl)⟩
theorem m125 : mini fi125.body = c125_0 := by kernel_rfl
theorem n125_6 (fr : Fr) (st : St) (k : Kt) : nextK gS fi125 (.loop c125_7 k) .normal fr st = evK gS fi125 c125_6 fr st k := rfl
set_option maxHeartbeats 4000000 in
theorem L125_6 (s : List UInt8) (h_s : s.length < 4611686018427387904) (st : St) : ∀ (n i : Nat) (j : Int)  (e2 : E) (T : List (Nat × E)) (X : List (Nat × List V)) (ht2 : e2.Tame) ,j = (i : Int) → i ≤ (s).length → (s).length - i = n →
    evK gS fi125 c125_6 { ps := [(0,.val (.str s)),(2,e2),(3,.val (.int .i64 j))],ts := T,lc := X } st (.blk 0 (.seq c125_23 .nil)) = some ((.ret (.bool ((s.drop i).all (fun c => !decide (c.toNat < 97) && !decide (122 < c.toNat)) && (decide (1 ≤ s.length) && decide (s.length ≤ 6)))) none),st) := by
  intro n
  have hm : fi125.marks = [] := rfl
  have hl : fi125.locals = [] := rfl
  have hr : fi125.results = [.tmp 2] := rfl
  induction n with
  | zero =>
    intro i j  e2 T X ht2  hj hi hn
    obtain rfl : i = (s).length := by omega
    subst hj
    refine evK_loop c125_7 _ st _ _ rfl ?_
    simp (config := { contextual := true,maxSteps := 10000000,maxDischargeDepth := 6 }) [-Int.not_le,-Int.not_lt,-Nat.not_le,-Nat.not_lt,ty3,ty4,ty5,ty9,hm,hl,hr,E125,n125_6,ht2]
    all_goals first | done | grind | omega | (trace_state; fail)
  | succ n ih =>
    intro i j  e2 T X ht2  hj hi hn
    subst hj
    obtain ⟨x,hx⟩ : ∃ x,(s)[i]? = some x := ⟨(s)[i]'(by omega),List.getElem?_eq_getElem (by omega)⟩
    have hd := drop_get hx
    have hlt : (i : Int) < ((s).length : Int) := by omega
    have hlt2 : i < (s).length := by omega
    have hxe : (s)[i]'hlt2 = x := by rw [List.getElem?_eq_getElem hlt2] at hx; exact Option.some.inj hx
    have hw : IntKind.wrap .i64 ((i : Int) + 1) = (i : Int) + 1 := wrap64 (by omega) (by omega)
    have IH := fun e2 T X ht2 => ih (i + 1) ((i : Int) + 1) e2 T X ht2 rfl (by omega) (by omega)
    refine evK_loop c125_7 _ st _ _ rfl ?_
    simp (config := { contextual := true,maxSteps := 10000000,maxDischargeDepth := 6 }) [-Int.not_le,-Int.not_lt,-Nat.not_le,-Nat.not_lt,ty3,ty4,ty5,ty9,hm,hl,hr,E125,n125_6,ht2,hx,hxe,hd,hlt,hlt2,hw,IH]
    all_goals first | done | grind | omega | (trace_state; fail)
set_option maxHeartbeats 4000000 in
theorem c125 (s : List UInt8) (h_s : s.length < 4611686018427387904) (st : St) : EvF gS 125 [.str s] st = some (.ret (.bool (isWord s)) none,st) := by
  refine EvF_start fi72_eq (fun x h => by cases h) m125 ?_
  rw [st125]
  have hm : fi125.marks = [] := rfl
  have hl : fi125.locals = [] := rfl
  have hr : fi125.results = [.tmp 2] := rfl
  simp (config := { contextual := true,maxSteps := 10000000,maxDischargeDepth := 6 }) [-Int.not_le,-Int.not_lt,-Nat.not_le,-Nat.not_lt,ty3,ty4,ty5,ty9,hm,hl,hr,E125,n125_6,(fun e2 T X ht2 => L125_6 s h_s st _ 0 0  e2 T X ht2 rfl (Nat.zero_le _) rfl)]
  all_goals try simp (config := { contextual := true }) [-Int.not_le,-Int.not_lt,-Nat.not_le,-Nat.not_lt,isWord]
  all_goals first | done | grind | omega | (trace_state; fail)
theorem k125 (s : List UInt8) (h_s : s.length < 4611686018427387904) (fr : Fr) (st : St) : callStep gS (EvF gS) 125 [.str s] fr st = some (.ok (retE none (.bool (isWord s))) fr st) :=
  call_pure rfl fi72_eq rfl (fun st => c125 s h_s st) (by simp)
def fi118 : FI := { body := codeOf Try.f118,ntmps := 15,results := [.tmp 2],pers := [0,2,4,5,6,7],locals := [4],pure := true,marks := [] }
theorem fi71_eq : gS.fn 118 = some fi118 := by kernel_rfl
theorem st118 (a0 : V) : startFr fi118 [a0] = { ps := [(0,.val a0),(2,.any),(4,.any),(5,.any),(6,.any),(7,.any)],ts := [],lc := [] } := rfl
def b118 : Code := mini (codeOf Try.f118)
def c118_20 : Code := .seq (codeN b118 9829) .ret
def c118_19 : Code := .cond (.tmp 13) c118_20 .skip
def c118_17 : Code := .seq (codeN b118 2661) c118_19
def c118_15 : Code := .seq (codeN b118 1125) c118_17
def c118_24 : Code := codeN b118 485
def c118_13 : Code := .seq (.block 1 c118_15) c118_24
def c118_9 : Code := .seq (.cond (.tmp 8) .skip (.exit 0)) c118_13
def c118_7 : Code := .seq (codeN b118 69) c118_9
def c118_6 : Code := .loop c118_7
def c118_5 : Code := .block 0 c118_6
def c118_3 : Code := .seq (codeN b118 9) c118_5
def c118_25 : Code := .seq (codeN b118 11) .ret
def c118_2 : Code := .seq c118_3 c118_25
def c118_0 : Code := .seq (codeN b118 2) c118_2
theorem E118 : evK gS fi118 c118_20 fr st k = opsR gS fi118 [op1 2 (.assign (.const (.bool false))) 4] fr st (.seq .ret k) ∧
 evK gS fi118 c118_19 fr st k = condK gS fi118 (fr.op (.tmp 13)).bool? c118_20 .skip fr st k ∧
 (evK gS fi118 c118_17 fr st k = opsR gS fi118 [ld 11 88 4 88,
 cal 12 117 [(.tmp 11)] [88] 4,
 op1 13 (.unOp .not 4 (.tmp 12)) 4] fr st (.seq c118_19 k)) ∧
 (evK gS fi118 c118_15 fr st k = opsR gS fi118 [ixa 9 89 5 7 0,
 ld 10 88 9 88,
 op1 4 (.alloc 88) 0,
 sto 88 4 10] fr st (.seq c118_17 k)) ∧
 (evK gS fi118 c118_24 fr st k = opsR gS fi118 [op1 14 (.binOp .add 3 (.tmp 7) (.const (.int .i64 1)) 3) 3,
 mv 7 14 3] fr st k) ∧
 evK gS fi118 c118_13 fr st k = evK gS fi118 c118_15 fr st (.blk 1 (.seq c118_24 k)) ∧
 evK gS fi118 c118_9 fr st k = condK gS fi118 (fr.op (.tmp 8)).bool? .skip (.exit 0) fr st (.seq c118_13 k) ∧
 evK gS fi118 c118_7 fr st k = opsR gS fi118 [bop 8 .lss 3 7 6 3 0] fr st (.seq c118_9 k) ∧
 evK gS fi118 c118_5 fr st k = evK gS fi118 c118_6 fr st (.blk 0 k) ∧
 (evK gS fi118 c118_3 fr st k = opsR gS fi118 [mv 5 0 89,
 len1 6 5 89 3,
 op1 7 (.move (.const (.int .i64 0))) 3] fr st (.seq c118_5 k)) ∧
 evK gS fi118 c118_25 fr st k = opsR gS fi118 [op1 2 (.assign (.const (.bool true))) 4] fr st (.seq .ret k) ∧
 evK gS fi118 c118_2 fr st k = evK gS fi118 c118_3 fr st (.seq c118_25 k) ∧
 evK gS fi118 c118_0 fr st k = opsR gS fi118 [op1 2 (.assign (.const (.bool false))) 4] fr st (.seq c118_2 k) := ⟨evK_rs 5 rfl (by kernel_rfl),rfl,evK_rs 4 rfl (by kernel_rfl),evK_rs 3 rfl (by kernel_rfl),evK_r 6 (by kernel_rfl),rfl,rfl,evK_rs 2 rfl (by kernel_rfl),rfl,evK_rs 1 rfl (by kernel_rfl),evK_rs 7 rfl (by kernel_rfl),rfl,evK_rs 0 rfl (by kernel_rfl)⟩
theorem m118 : mini fi118.body = c118_0 := by kernel_rfl
theorem n118_6 (fr : Fr) (st : St) (k : Kt) : nextK gS fi118 (.loop c118_7 k) .normal fr st = evK gS fi118 c118_6 fr st k := rfl
set_option maxHeartbeats 4000000 in
theorem L118_6 (l : List Val) (h_l : l.length < 4611686018427387904) (st : St) : ∀ (n i : Nat) (j : Int)  (e0 e2 e4 : E) (T : List (Nat × E)) (X : List (Nat × List V)) (ht0 : e0.Tame) (ht2 : e2.Tame) (ht4 : e4.Tame) ,j = (i : Int) → i ≤ (l).length → (l).length - i = n →
    evK gS fi118 c118_6 { ps := [(0,e0),(2,e2),(4,e4),(5,.val (.slice (encVals l))),(6,.val (.int .i64 l.length)),(7,.val (.int .i64 j))],ts := T,lc := X } st (.blk 0 (.seq c118_25 .nil)) = some ((.ret (.bool ((l.drop i).all vright)) none),st) := by
  intro n
  have hm : fi118.marks = [] := rfl
  have hl : fi118.locals = [4] := rfl
  have hr : fi118.results = [.tmp 2] := rfl
  induction n with
  | zero =>
    intro i j  e0 e2 e4 T X ht0 ht2 ht4  hj hi hn
    obtain rfl : i = (l).length := by omega
    subst hj
    refine evK_loop c118_7 _ st _ _ rfl ?_
    simp (config := { contextual := true,maxSteps := 10000000,maxDischargeDepth := 6 }) [-Int.not_le,-Int.not_lt,-Nat.not_le,-Nat.not_lt,ty3,ty4,ty88,ty89,eq88,hm,hl,hr,k117,E118,n118_6,ht0,ht2,ht4]
    all_goals first | done | grind | omega | (trace_state; fail)
  | succ n ih =>
    intro i j  e0 e2 e4 T X ht0 ht2 ht4  hj hi hn
    subst hj
    obtain ⟨x,hx⟩ : ∃ x,(l)[i]? = some x := ⟨(l)[i]'(by omega),List.getElem?_eq_getElem (by omega)⟩
    have hd := drop_get hx
    have hlt : (i : Int) < ((l).length : Int) := by omega
    have hlt2 : i < (l).length := by omega
    have hxe : (l)[i]'hlt2 = x := by rw [List.getElem?_eq_getElem hlt2] at hx; exact Option.some.inj hx
    have hw : IntKind.wrap .i64 ((i : Int) + 1) = (i : Int) + 1 := wrap64 (by omega) (by omega)
    have IH := fun e0 e2 e4 T X ht0 ht2 ht4 => ih (i + 1) ((i : Int) + 1) e0 e2 e4 T X ht0 ht2 ht4 rfl (by omega) (by omega)
    refine evK_loop c118_7 _ st _ _ rfl ?_
    simp (config := { contextual := true,maxSteps := 10000000,maxDischargeDepth := 6 }) [-Int.not_le,-Int.not_lt,-Nat.not_le,-Nat.not_lt,ty3,ty4,ty88,ty89,eq88,hm,hl,hr,k117,E118,n118_6,ht0,ht2,ht4,hx,hxe,hd,hlt,hlt2,hw,IH]
    all_goals first | done | grind | omega | (trace_state; fail)
set_option maxHeartbeats 4000000 in
theorem c118 (l : List Val) (h_l : l.length < 4611686018427387904) (st : St) : EvF gS 118 [.slice (encVals l)] st = some (.ret (.bool (l.all vright)) none,st) := by
  refine EvF_start fi71_eq (fun x h => by cases h) m118 ?_
  rw [st118]
  have hm : fi118.marks = [] := rfl
  have hl : fi118.locals = [4] := rfl
  have hr : fi118.results = [.tmp 2] := rfl
  simp (config := { contextual := true,maxSteps := 10000000,maxDischargeDepth := 6 }) [-Int.not_le,-Int.not_lt,-Nat.not_le,-Nat.not_lt,ty3,ty4,ty88,ty89,eq88,hm,hl,hr,k117,E118,n118_6,(fun e0 e2 e4 T X ht0 ht2 ht4 => L118_6 l h_l st _ 0 0  e0 e2 e4 T X ht0 ht2 ht4 rfl (Nat.zero_le _) rfl)]
  all_goals first | done | grind | omega | (trace_state; fail)
theorem k118 (l : List Val) (h_l : l.length < 4611686018427387904) (fr : Fr) (st : St) : callStep gS (EvF gS) 118 [.slice (encVals l)] fr st = some (.ok (retE none (.bool (l.all vright))) fr st) :=
  call_pure rfl fi71_eq rfl (fun st => c118 l h_l st) (by simp)
end
end Go.Proofs.Ytdoobejjedpcgaa
namespace Go.Proofs.Ytdoobejjedpcgaa
open Go Go.Ab
set_option maxRecDepth 20000
noncomputable section
variable (fr : Fr) (st : St) (k : Kt)
def fi97 : FI := { body := codeOf Try.f97,ntmps := 111,results := [.tmp 2],pers := [0,1,2,8,25],locals := [1],pure := true,marks := [] }
theorem fi19_eq : gS.fn 97 = some fi97 := by kernel_rfl
theorem st97 (a0 : V) : startFr fi97 [a0] = { ps := [(0,.val a0),(1,.any),(2,.any),(8,.any),(25,.any)],ts := [],lc := [] } := rfl
def b97 : Code := mini (codeOf Try.f97)
def c97_6 : Code := .seq (codeN b97 37) .ret
def c97_5 : Code := .cond (.tmp 6) c97_6 .skip
def c97_3 : Code := .seq (codeN b97 9) c97_5
def c97_17 : Code := .seq (codeN b97 299) .ret
def c97_41 : Code := codeN b97 524139
def c97_39 : Code := .cond (.tmp 25) .skip c97_41
def c97_37 : Code := .seq (codeN b97 196459) c97_39
def c97_35 : Code := .cond (.tmp 25) .skip c97_37
def c97_33 : Code := .seq (codeN b97 49003) c97_35
def c97_31 : Code := .cond (.tmp 25) .skip c97_33
def c97_29 : Code := .seq (codeN b97 12139) c97_31
def c97_27 : Code := .cond (.tmp 25) .skip c97_29
def c97_25 : Code := .seq (codeN b97 2923) c97_27
def c97_23 : Code := .cond (.tmp 25) .skip c97_25
def c97_21 : Code := .seq (codeN b97 619) c97_23
def c97_43 : Code := .seq (codeN b97 1259) .ret
def c97_49 : Code := .seq (codeN b97 5099) .ret
def c97_55 : Code := .seq (codeN b97 20459) .ret
def c97_61 : Code := .seq (codeN b97 81899) .ret
def c97_60 : Code := .cond (.tmp 84) c97_61 .skip
def c97_58 : Code := .seq (codeN b97 24555) c97_60
def c97_54 : Code := .cond (.tmp 62) c97_55 c97_58
def c97_52 : Code := .seq (codeN b97 6123) c97_54
def c97_48 : Code := .cond (.tmp 46) c97_49 c97_52
def c97_46 : Code := .seq (codeN b97 1515) c97_48
def c97_42 : Code := .cond (.tmp 25) c97_43 c97_46
def c97_20 : Code := .seq c97_21 c97_42
def c97_16 : Code := .cond (.tmp 9) c97_17 c97_20
def c97_14 : Code := .seq (codeN b97 75) c97_16
def c97_13 : Code := .block 0 c97_14
def c97_11 : Code := .seq (codeN b97 19) c97_13
def c97_65 : Code := .seq (codeN b97 23) .ret
def c97_10 : Code := .seq c97_11 c97_65
def c97_2 : Code := .seq c97_3 c97_10
def c97_0 : Code := .seq (codeN b97 2) c97_2
theorem E97 : evK gS fi97 c97_6 fr st k = opsR gS fi97 [op1 2 (.assign (.const (.bool false))) 4] fr st (.seq .ret k) ∧
 evK gS fi97 c97_5 fr st k = condK gS fi97 (fr.op (.tmp 6)).bool? c97_6 .skip fr st k ∧
 (evK gS fi97 c97_3 fr st k = opsR gS fi97 [op1 3 (.fieldAddr 91 (.tmp 1) 0) 0,
 ld 4 9 3 9,
 cal 5 115 [(.tmp 4)] [9] 4,
 op1 6 (.unOp .not 4 (.tmp 5)) 4] fr st (.seq c97_5 k)) ∧
 (evK gS fi97 c97_17 fr st k = opsR gS fi97 [op1 11 (.fieldAddr 91 (.tmp 1) 2) 0,
 ld 12 88 11 88,
 cal 13 116 [(.tmp 12)] [88] 4,
 mv 14 13 4,
 mk (some 15) (.fieldAddr 91 (.tmp 1) 3) 0 (some (3,true)),
 mk (some 16) (.load 88 (.tmp 15)) 88 (some (3,true)),
 mk (some 17) (.call { callee := (.value (.func 116)),args := #[(.tmp 16)],argTypes := #[88] }) 4 (some (3,true)),
 op1 18 (.pick (.tmp 14) (.tmp 17) (.const (.bool false))) 4,
 mv 19 18 4,
 mk (some 20) (.fieldAddr 91 (.tmp 1) 4) 0 (some (8,true)),
 mk (some 21) (.load 89 (.tmp 20)) 89 (some (8,true)),
 mk (some 22) (.call { callee := (.builtin .len),args := #[(.tmp 21)],argTypes := #[89] }) 3 (some (8,true)),
 mk (some 23) (.binOp .eql 3 (.tmp 22) (.const (.int .i64 0)) 3) 4 (some (8,true)),
 op1 24 (.pick (.tmp 19) (.tmp 23) (.const (.bool false))) 4,
 asn 2 24 4] fr st (.seq .ret k)) ∧
 (evK gS fi97 c97_41 fr st k = opsR gS fi97 [op1 31 (.binOp .eql 3 (.tmp 8) (.const (.int .i64 7)) 3) 4,
 asn 25 31 4] fr st k) ∧
 evK gS fi97 c97_39 fr st k = condK gS fi97 (fr.op (.tmp 25)).bool? .skip c97_41 fr st k ∧
 (evK gS fi97 c97_37 fr st k = opsR gS fi97 [op1 30 (.binOp .eql 3 (.tmp 8) (.const (.int .i64 6)) 3) 4,
 asn 25 30 4] fr st (.seq c97_39 k)) ∧
 evK gS fi97 c97_35 fr st k = condK gS fi97 (fr.op (.tmp 25)).bool? .skip c97_37 fr st k ∧
 (evK gS fi97 c97_33 fr st k = opsR gS fi97 [op1 29 (.binOp .eql 3 (.tmp 8) (.const (.int .i64 5)) 3) 4,
 asn 25 29 4] fr st (.seq c97_35 k)) ∧
 evK gS fi97 c97_31 fr st k = condK gS fi97 (fr.op (.tmp 25)).bool? .skip c97_33 fr st k ∧
 (evK gS fi97 c97_29 fr st k = opsR gS fi97 [op1 28 (.binOp .eql 3 (.tmp 8) (.const (.int .i64 4)) 3) 4,
 asn 25 28 4] fr st (.seq c97_31 k)) ∧
 evK gS fi97 c97_27 fr st k = condK gS fi97 (fr.op (.tmp 25)).bool? .skip c97_29 fr st k ∧
 (evK gS fi97 c97_25 fr st k = opsR gS fi97 [op1 27 (.binOp .eql 3 (.tmp 8) (.const (.int .i64 3)) 3) 4,
 asn 25 27 4] fr st (.seq c97_27 k)) ∧
 evK gS fi97 c97_23 fr st k = condK gS fi97 (fr.op (.tmp 25)).bool? .skip c97_25 fr st k ∧
 (evK gS fi97 c97_21 fr st k = opsR gS fi97 [op1 26 (.binOp .eql 3 (.tmp 8) (.const (.int .i64 2)) 3) 4,
 asn 25 26 4] fr st (.seq c97_23 k)) ∧
 (evK gS fi97 c97_43 fr st k = opsR gS fi97 [op1 32 (.fieldAddr 91 (.tmp 1) 2) 0,
 ld 33 88 32 88,
 cal 34 117 [(.tmp 33)] [88] 4,
 mv 35 34 4,
 mk (some 36) (.fieldAddr 91 (.tmp 1) 3) 0 (some (3,true)),
 mk (some 37) (.load 88 (.tmp 36)) 88 (some (3,true)),
 mk (some 38) (.call { callee := (.value (.func 116)),args := #[(.tmp 37)],argTypes := #[88] }) 4 (some (3,true)),
 op1 39 (.pick (.tmp 35) (.tmp 38) (.const (.bool false))) 4,
 mv 40 39 4,
 mk (some 41) (.fieldAddr 91 (.tmp 1) 4) 0 (some (8,true)),
 mk (some 42) (.load 89 (.tmp 41)) 89 (some (8,true)),
 mk (some 43) (.call { callee := (.builtin .len),args := #[(.tmp 42)],argTypes := #[89] }) 3 (some (8,true)),
 mk (some 44) (.binOp .eql 3 (.tmp 43) (.const (.int .i64 0)) 3) 4 (some (8,true)),
 op1 45 (.pick (.tmp 40) (.tmp 44) (.const (.bool false))) 4,
 asn 2 45 4] fr st (.seq .ret k)) ∧
 (evK gS fi97 c97_49 fr st k = opsR gS fi97 [op1 48 (.fieldAddr 91 (.tmp 1) 2) 0,
 ld 49 88 48 88,
 cal 50 117 [(.tmp 49)] [88] 4,
 mv 51 50 4,
 mk (some 52) (.fieldAddr 91 (.tmp 1) 3) 0 (some (3,true)),
 mk (some 53) (.load 88 (.tmp 52)) 88 (some (3,true)),
 mk (some 54) (.call { callee := (.value (.func 117)),args := #[(.tmp 53)],argTypes := #[88] }) 4 (some (3,true)),
 op1 55 (.pick (.tmp 51) (.tmp 54) (.const (.bool false))) 4,
 mv 56 55 4,
 mk (some 57) (.fieldAddr 91 (.tmp 1) 4) 0 (some (8,true)),
 mk (some 58) (.load 89 (.tmp 57)) 89 (some (8,true)),
 mk (some 59) (.call { callee := (.builtin .len),args := #[(.tmp 58)],argTypes := #[89] }) 3 (some (8,true)),
 mk (some 60) (.binOp .eql 3 (.tmp 59) (.const (.int .i64 0)) 3) 4 (some (8,true)),
 op1 61 (.pick (.tmp 56) (.tmp 60) (.const (.bool false))) 4,
 asn 2 61 4] fr st (.seq .ret k)) ∧
 (evK gS fi97 c97_55 fr st k = opsR gS fi97 [op1 64 (.fieldAddr 91 (.tmp 1) 2) 0,
 ld 65 88 64 88,
 cal 66 117 [(.tmp 65)] [88] 4,
 mv 67 66 4,
 mk (some 68) (.fieldAddr 91 (.tmp 1) 2) 0 (some (3,true)),
 mk (some 69) (.fieldAddr 88 (.tmp 68) 0) 0 (some (3,true)),
 mk (some 70) (.load 3 (.tmp 69)) 3 (some (3,true)),
 mk (some 71) (.binOp .eql 3 (.tmp 70) (.const (.int .i64 3)) 3) 4 (some (3,true)),
 op1 72 (.pick (.tmp 67) (.tmp 71) (.const (.bool false))) 4,
 mv 73 72 4,
 mk (some 74) (.fieldAddr 91 (.tmp 1) 3) 0 (some (9,true)),
 mk (some 75) (.load 88 (.tmp 74)) 88 (some (9,true)),
 mk (some 76) (.call { callee := (.value (.func 116)),args := #[(.tmp 75)],argTypes := #[88] }) 4 (some (9,true)),
 op1 77 (.pick (.tmp 73) (.tmp 76) (.const (.bool false))) 4,
 mv 78 77 4,
 mk (some 79) (.fieldAddr 91 (.tmp 1) 4) 0 (some (14,true)),
 mk (some 80) (.load 89 (.tmp 79)) 89 (some (14,true)),
 mk (some 81) (.call { callee := (.builtin .len),args := #[(.tmp 80)],argTypes := #[89] }) 3 (some (14,true)),
 mk (some 82) (.binOp .eql 3 (.tmp 81) (.const (.int .i64 0)) 3) 4 (some (14,true)),
 op1 83 (.pick (.tmp 78) (.tmp 82) (.const (.bool false))) 4,
 asn 2 83 4] fr st (.seq .ret k)) ∧
 (evK gS fi97 c97_61 fr st k = opsR gS fi97 [op1 86 (.fieldAddr 91 (.tmp 1) 2) 0,
 ld 87 88 86 88,
 cal 88 116 [(.tmp 87)] [88] 4,
 mv 89 88 4,
 mk (some 90) (.fieldAddr 91 (.tmp 1) 3) 0 (some (3,true)),
 mk (some 91) (.load 88 (.tmp 90)) 88 (some (3,true)),
 mk (some 92) (.call { callee := (.value (.func 116)),args := #[(.tmp 91)],argTypes := #[88] }) 4 (some (3,true)),
 op1 93 (.pick (.tmp 89) (.tmp 92) (.const (.bool false))) 4,
 mv 94 93 4,
 mk (some 95) (.fieldAddr 91 (.tmp 1) 4) 0 (some (8,true)),
 mk (some 96) (.load 89 (.tmp 95)) 89 (some (8,true)),
 mk (some 97) (.call { callee := (.builtin .len),args := #[(.tmp 96)],argTypes := #[89] }) 3 (some (8,true)),
 mk (some 98) (.binOp .geq 3 (.tmp 97) (.const (.int .i64 1)) 3) 4 (some (8,true)),
 op1 99 (.pick (.tmp 94) (.tmp 98) (.const (.bool false))) 4,
 mv 100 99 4,
 mk (some 101) (.fieldAddr 91 (.tmp 1) 4) 0 (some (14,true)),
 mk (some 102) (.load 89 (.tmp 101)) 89 (some (14,true)),
 mk (some 103) (.call { callee := (.builtin .len),args := #[(.tmp 102)],argTypes := #[89] }) 3 (some (14,true)),
 mk (some 104) (.binOp .leq 3 (.tmp 103) (.const (.int .i64 4)) 3) 4 (some (14,true)),
 op1 105 (.pick (.tmp 100) (.tmp 104) (.const (.bool false))) 4,
 mv 106 105 4,
 mk (some 107) (.fieldAddr 91 (.tmp 1) 4) 0 (some (20,true)),
 mk (some 108) (.load 89 (.tmp 107)) 89 (some (20,true)),
 mk (some 109) (.call { callee := (.value (.func 118)),args := #[(.tmp 108)],argTypes := #[89] }) 4 (some (20,true)),
 op1 110 (.pick (.tmp 106) (.tmp 109) (.const (.bool false))) 4,
 asn 2 110 4] fr st (.seq .ret k)) ∧
 evK gS fi97 c97_60 fr st k = condK gS fi97 (fr.op (.tmp 84)).bool? c97_61 .skip fr st k ∧
 (evK gS fi97 c97_58 fr st k = opsR gS fi97 [op1 85 (.binOp .eql 3 (.tmp 8) (.const (.int .i64 10)) 3) 4,
 asn 84 85 4] fr st (.seq c97_60 k)) ∧
 evK gS fi97 c97_54 fr st k = condK gS fi97 (fr.op (.tmp 62)).bool? c97_55 c97_58 fr st k ∧
 (evK gS fi97 c97_52 fr st k = opsR gS fi97 [op1 63 (.binOp .eql 3 (.tmp 8) (.const (.int .i64 9)) 3) 4,
 asn 62 63 4] fr st (.seq c97_54 k)) ∧
 evK gS fi97 c97_48 fr st k = condK gS fi97 (fr.op (.tmp 46)).bool? c97_49 c97_52 fr st k ∧
 (evK gS fi97 c97_46 fr st k = opsR gS fi97 [op1 47 (.binOp .eql 3 (.tmp 8) (.const (.int .i64 8)) 3) 4,
 asn 46 47 4] fr st (.seq c97_48 k)) ∧
 evK gS fi97 c97_42 fr st k = condK gS fi97 (fr.op (.tmp 25)).bool? c97_43 c97_46 fr st k ∧
 evK gS fi97 c97_20 fr st k = evK gS fi97 c97_21 fr st (.seq c97_42 k) ∧
 evK gS fi97 c97_16 fr st k = condK gS fi97 (fr.op (.tmp 9)).bool? c97_17 c97_20 fr st k ∧
 (evK gS fi97 c97_14 fr st k = opsR gS fi97 [op1 10 (.binOp .eql 3 (.tmp 8) (.const (.int .i64 1)) 3) 4,
 asn 9 10 4] fr st (.seq c97_16 k)) ∧
 evK gS fi97 c97_13 fr st k = evK gS fi97 c97_14 fr st (.blk 0 k) ∧
 (evK gS fi97 c97_11 fr st k = opsR gS fi97 [op1 7 (.fieldAddr 91 (.tmp 1) 1) 0,
 ld 8 3 7 3] fr st (.seq c97_13 k)) ∧
 evK gS fi97 c97_65 fr st k = opsR gS fi97 [op1 2 (.assign (.const (.bool false))) 4] fr st (.seq .ret k) ∧
 evK gS fi97 c97_10 fr st k = evK gS fi97 c97_11 fr st (.seq c97_65 k) ∧
 evK gS fi97 c97_2 fr st k = evK gS fi97 c97_3 fr st (.seq c97_10 k) ∧
 (evK gS fi97 c97_0 fr st k = opsR gS fi97 [op1 1 (.box 91 (.tmp 0)) 0,
 op1 2 (.assign (.const (.bool false))) 4] fr st (.seq c97_2 k)) := ⟨evK_rs 2 rfl (by kernel_rfl),rfl,evK_rs 1 rfl (by kernel_rfl),evK_rs 5 rfl (by kernel_rfl),evK_r 11 (by kernel_rfl),rfl,evK_rs 10 rfl (by kernel_rfl),rfl,evK_rs 9 rfl (by kernel_rfl),rfl,evK_rs 8 rfl (by kernel_rfl),rfl,evK_rs 7 rfl (by kernel_rfl),rfl,evK_rs 6 rfl (by kernel_rfl),evK_rs 12 rfl (by kernel_rfl),evK_rs 14 rfl (by kernel_rfl),evK_rs 16 rfl (by kernel_rfl),evK_rs 18 rfl (by kernel_rfl),rfl,evK_rs 17 rfl (by kernel_rfl),rfl,evK_rs 15 rfl (by kernel_rfl),rfl,evK_rs 13 rfl (by kernel_rfl),rfl,rfl,rfl,evK_rs 4 rfl (by kernel_rfl),rfl,evK_rs 3 rfl (by kernel_rfl),evK_rs 19 rfl (by kernel_rfl),rfl,rfl,evK_rs 0 rfl (by kernel_rfl)⟩
theorem m97 : mini fi97.body = c97_0 := by kernel_rfl
set_option maxHeartbeats 4000000 in
theorem c97 (p : Pred)  (h_p : Pred.ok p) (st : St) : EvF gS 97 [p.enc] st = some (.ret (.bool (pright p)) none,st) := by
  refine EvF_start fi19_eq (fun x h => by cases h) m97 ?_
  rw [st97]
  have hm : fi97.marks = [] := rfl
  have hl : fi97.locals = [1] := rfl
  have hr : fi97.results = [.tmp 2] := rfl
  simp (config := { contextual := true,maxSteps := 10000000,maxDischargeDepth := 6 }) [-Int.not_le,-Int.not_lt,-Nat.not_le,-Nat.not_lt,ty3,ty4,ty9,ty88,ty89,ty91,eq88,hm,hl,hr,k115,k116,k117,k118,E97,h_p.1,h_p.2]
  all_goals try simp (config := { contextual := true }) [-Int.not_le,-Int.not_lt,-Nat.not_le,-Nat.not_lt,pright]
  all_goals first | done | grind | omega | (trace_state; fail)
theorem k97 (p_name : List UInt8) (p_test : Int) (p_vk : Int) (p_vn : Int) (p_vx : Nat) (p_vs : List UInt8) (p_vb : Bool) (p_wk : Int) (p_wn : Int) (p_wx : Nat) (p_ws : List UInt8) (p_wb : Bool) (p_set : List Val)  (h_p : Pred.ok (⟨p_name,p_test,⟨p_vk,p_vn,p_vx,p_vs,p_vb⟩,⟨p_wk,p_wn,p_wx,p_ws,p_wb⟩,p_set⟩ : Pred)) (fr : Fr) (st : St) : callStep gS (EvF gS) 97 [.agg [.str p_name,.int .i64 p_test,.int .i64 p_vk,.int .i64 p_vn,.float .f64 p_vx,.str p_vs,.bool p_vb,.int .i64 p_wk,.int .i64 p_wn,.float .f64 p_wx,.str p_ws,.bool p_wb,.slice (encVals p_set)]] fr st = some (.ok (retE none (.bool (pright (⟨p_name,p_test,⟨p_vk,p_vn,p_vx,p_vs,p_vb⟩,⟨p_wk,p_wn,p_wx,p_ws,p_wb⟩,p_set⟩ : Pred)))) fr st) :=
  call_pure rfl fi19_eq rfl (fun st => c97 (⟨p_name,p_test,⟨p_vk,p_vn,p_vx,p_vs,p_vb⟩,⟨p_wk,p_wn,p_wx,p_ws,p_wb⟩,p_set⟩ : Pred) h_p st) (by simp)
def fi107 : FI := { body := codeOf Try.f107,ntmps := 121,results := [.tmp 2],pers := [0,1,2,3,9,26],locals := [1],pure := true,marks := [] }
theorem fi20_eq : gS.fn 107 = some fi107 := by kernel_rfl
theorem st107 (a0 : V) : startFr fi107 [a0] = { ps := [(0,.val a0),(1,.any),(2,.any),(3,.any),(9,.any),(26,.any)],ts := [],lc := [] } := rfl
def b107 : Code := mini (codeOf Try.f107)
def c107_6 : Code := .seq (codeN b107 37) .ret
def c107_5 : Code := .cond (.tmp 7) c107_6 .skip
def c107_3 : Code := .seq (codeN b107 9) c107_5
def c107_17 : Code := .seq (codeN b107 299) .ret
def c107_41 : Code := codeN b107 524139
def c107_39 : Code := .cond (.tmp 26) .skip c107_41
def c107_37 : Code := .seq (codeN b107 196459) c107_39
def c107_35 : Code := .cond (.tmp 26) .skip c107_37
def c107_33 : Code := .seq (codeN b107 49003) c107_35
def c107_31 : Code := .cond (.tmp 26) .skip c107_33
def c107_29 : Code := .seq (codeN b107 12139) c107_31
def c107_27 : Code := .cond (.tmp 26) .skip c107_29
def c107_25 : Code := .seq (codeN b107 2923) c107_27
def c107_23 : Code := .cond (.tmp 26) .skip c107_25
def c107_21 : Code := .seq (codeN b107 619) c107_23
def c107_43 : Code := .seq (codeN b107 1259) .ret
def c107_49 : Code := .seq (codeN b107 5099) .ret
def c107_55 : Code := .seq (codeN b107 20459) .ret
def c107_69 : Code := .cond (.tmp 91) .skip (.exit 1)
def c107_67 : Code := .seq (codeN b107 2179051) c107_69
def c107_77 : Code := .seq (codeN b107 38354923) .ret
def c107_76 : Code := .cond (.tmp 100) c107_77 .skip
def c107_74 : Code := .seq (codeN b107 8994795) c107_76
def c107_81 : Code := codeN b107 3751915
def c107_72 : Code := .seq (.block 2 c107_74) c107_81
def c107_66 : Code := .seq c107_67 c107_72
def c107_65 : Code := .loop c107_66
def c107_64 : Code := .block 1 c107_65
def c107_62 : Code := .seq (codeN b107 147435) c107_64
def c107_82 : Code := .seq (codeN b107 180203) .ret
def c107_61 : Code := .seq c107_62 c107_82
def c107_60 : Code := .cond (.tmp 85) c107_61 .skip
def c107_58 : Code := .seq (codeN b107 24555) c107_60
def c107_54 : Code := .cond (.tmp 63) c107_55 c107_58
def c107_52 : Code := .seq (codeN b107 6123) c107_54
def c107_48 : Code := .cond (.tmp 47) c107_49 c107_52
def c107_46 : Code := .seq (codeN b107 1515) c107_48
def c107_42 : Code := .cond (.tmp 26) c107_43 c107_46
def c107_20 : Code := .seq c107_21 c107_42
def c107_16 : Code := .cond (.tmp 10) c107_17 c107_20
def c107_14 : Code := .seq (codeN b107 75) c107_16
def c107_13 : Code := .block 0 c107_14
def c107_11 : Code := .seq (codeN b107 19) c107_13
def c107_86 : Code := .seq (codeN b107 23) .ret
def c107_10 : Code := .seq c107_11 c107_86
def c107_2 : Code := .seq c107_3 c107_10
def c107_0 : Code := .seq (codeN b107 2) c107_2
theorem E107 : evK gS fi107 c107_6 fr st k = opsR gS fi107 [op1 2 (.assign (.const (.bool false))) 4] fr st (.seq .ret k) ∧
 evK gS fi107 c107_5 fr st k = condK gS fi107 (fr.op (.tmp 7)).bool? c107_6 .skip fr st k ∧
 (evK gS fi107 c107_3 fr st k = opsR gS fi107 [op1 4 (.fieldAddr 91 (.tmp 1) 0) 0,
 ld 5 9 4 9,
 cal 6 125 [(.tmp 5)] [9] 4,
 op1 7 (.unOp .not 4 (.tmp 6)) 4] fr st (.seq c107_5 k)) ∧
 (evK gS fi107 c107_17 fr st k = opsR gS fi107 [op1 12 (.fieldAddr 91 (.tmp 1) 2) 0,
 ld 13 88 12 88,
 cal 14 126 [(.tmp 13)] [88] 4,
 mv 15 14 4,
 mk (some 16) (.fieldAddr 91 (.tmp 1) 3) 0 (some (3,true)),
 mk (some 17) (.load 88 (.tmp 16)) 88 (some (3,true)),
 mk (some 18) (.call { callee := (.value (.func 126)),args := #[(.tmp 17)],argTypes := #[88] }) 4 (some (3,true)),
 op1 19 (.pick (.tmp 15) (.tmp 18) (.const (.bool false))) 4,
 mv 20 19 4,
 mk (some 21) (.fieldAddr 91 (.tmp 1) 4) 0 (some (8,true)),
 mk (some 22) (.load 89 (.tmp 21)) 89 (some (8,true)),
 mk (some 23) (.call { callee := (.builtin .len),args := #[(.tmp 22)],argTypes := #[89] }) 3 (some (8,true)),
 mk (some 24) (.binOp .eql 3 (.tmp 23) (.const (.int .i64 0)) 3) 4 (some (8,true)),
 op1 25 (.pick (.tmp 20) (.tmp 24) (.const (.bool false))) 4,
 asn 2 25 4] fr st (.seq .ret k)) ∧
 (evK gS fi107 c107_41 fr st k = opsR gS fi107 [op1 32 (.binOp .eql 3 (.tmp 9) (.const (.int .i64 7)) 3) 4,
 asn 26 32 4] fr st k) ∧
 evK gS fi107 c107_39 fr st k = condK gS fi107 (fr.op (.tmp 26)).bool? .skip c107_41 fr st k ∧
 (evK gS fi107 c107_37 fr st k = opsR gS fi107 [op1 31 (.binOp .eql 3 (.tmp 9) (.const (.int .i64 6)) 3) 4,
 asn 26 31 4] fr st (.seq c107_39 k)) ∧
 evK gS fi107 c107_35 fr st k = condK gS fi107 (fr.op (.tmp 26)).bool? .skip c107_37 fr st k ∧
 (evK gS fi107 c107_33 fr st k = opsR gS fi107 [op1 30 (.binOp .eql 3 (.tmp 9) (.const (.int .i64 5)) 3) 4,
 asn 26 30 4] fr st (.seq c107_35 k)) ∧
 evK gS fi107 c107_31 fr st k = condK gS fi107 (fr.op (.tmp 26)).bool? .skip c107_33 fr st k ∧
 (evK gS fi107 c107_29 fr st k = opsR gS fi107 [op1 29 (.binOp .eql 3 (.tmp 9) (.const (.int .i64 4)) 3) 4,
 asn 26 29 4] fr st (.seq c107_31 k)) ∧
 evK gS fi107 c107_27 fr st k = condK gS fi107 (fr.op (.tmp 26)).bool? .skip c107_29 fr st k ∧
 (evK gS fi107 c107_25 fr st k = opsR gS fi107 [op1 28 (.binOp .eql 3 (.tmp 9) (.const (.int .i64 3)) 3) 4,
 asn 26 28 4] fr st (.seq c107_27 k)) ∧
 evK gS fi107 c107_23 fr st k = condK gS fi107 (fr.op (.tmp 26)).bool? .skip c107_25 fr st k ∧
 (evK gS fi107 c107_21 fr st k = opsR gS fi107 [op1 27 (.binOp .eql 3 (.tmp 9) (.const (.int .i64 2)) 3) 4,
 asn 26 27 4] fr st (.seq c107_23 k)) ∧
 (evK gS fi107 c107_43 fr st k = opsR gS fi107 [op1 33 (.fieldAddr 91 (.tmp 1) 2) 0,
 ld 34 88 33 88,
 cal 35 127 [(.tmp 34)] [88] 4,
 mv 36 35 4,
 mk (some 37) (.fieldAddr 91 (.tmp 1) 3) 0 (some (3,true)),
 mk (some 38) (.load 88 (.tmp 37)) 88 (some (3,true)),
 mk (some 39) (.call { callee := (.value (.func 126)),args := #[(.tmp 38)],argTypes := #[88] }) 4 (some (3,true)),
 op1 40 (.pick (.tmp 36) (.tmp 39) (.const (.bool false))) 4,
 mv 41 40 4,
 mk (some 42) (.fieldAddr 91 (.tmp 1) 4) 0 (some (8,true)),
 mk (some 43) (.load 89 (.tmp 42)) 89 (some (8,true)),
 mk (some 44) (.call { callee := (.builtin .len),args := #[(.tmp 43)],argTypes := #[89] }) 3 (some (8,true)),
 mk (some 45) (.binOp .eql 3 (.tmp 44) (.const (.int .i64 0)) 3) 4 (some (8,true)),
 op1 46 (.pick (.tmp 41) (.tmp 45) (.const (.bool false))) 4,
 asn 2 46 4] fr st (.seq .ret k)) ∧
 (evK gS fi107 c107_49 fr st k = opsR gS fi107 [op1 49 (.fieldAddr 91 (.tmp 1) 2) 0,
 ld 50 88 49 88,
 cal 51 127 [(.tmp 50)] [88] 4,
 mv 52 51 4,
 mk (some 53) (.fieldAddr 91 (.tmp 1) 3) 0 (some (3,true)),
 mk (some 54) (.load 88 (.tmp 53)) 88 (some (3,true)),
 mk (some 55) (.call { callee := (.value (.func 127)),args := #[(.tmp 54)],argTypes := #[88] }) 4 (some (3,true)),
 op1 56 (.pick (.tmp 52) (.tmp 55) (.const (.bool false))) 4,
 mv 57 56 4,
 mk (some 58) (.fieldAddr 91 (.tmp 1) 4) 0 (some (8,true)),
 mk (some 59) (.load 89 (.tmp 58)) 89 (some (8,true)),
 mk (some 60) (.call { callee := (.builtin .len),args := #[(.tmp 59)],argTypes := #[89] }) 3 (some (8,true)),
 mk (some 61) (.binOp .eql 3 (.tmp 60) (.const (.int .i64 0)) 3) 4 (some (8,true)),
 op1 62 (.pick (.tmp 57) (.tmp 61) (.const (.bool false))) 4,
 asn 2 62 4] fr st (.seq .ret k)) ∧
 (evK gS fi107 c107_55 fr st k = opsR gS fi107 [op1 65 (.fieldAddr 91 (.tmp 1) 2) 0,
 ld 66 88 65 88,
 cal 67 127 [(.tmp 66)] [88] 4,
 mv 68 67 4,
 mk (some 69) (.fieldAddr 91 (.tmp 1) 2) 0 (some (3,true)),
 mk (some 70) (.fieldAddr 88 (.tmp 69) 0) 0 (some (3,true)),
 mk (some 71) (.load 3 (.tmp 70)) 3 (some (3,true)),
 mk (some 72) (.binOp .eql 3 (.tmp 71) (.const (.int .i64 3)) 3) 4 (some (3,true)),
 op1 73 (.pick (.tmp 68) (.tmp 72) (.const (.bool false))) 4,
 mv 74 73 4,
 mk (some 75) (.fieldAddr 91 (.tmp 1) 3) 0 (some (9,true)),
 mk (some 76) (.load 88 (.tmp 75)) 88 (some (9,true)),
 mk (some 77) (.call { callee := (.value (.func 126)),args := #[(.tmp 76)],argTypes := #[88] }) 4 (some (9,true)),
 op1 78 (.pick (.tmp 74) (.tmp 77) (.const (.bool false))) 4,
 mv 79 78 4,
 mk (some 80) (.fieldAddr 91 (.tmp 1) 4) 0 (some (14,true)),
 mk (some 81) (.load 89 (.tmp 80)) 89 (some (14,true)),
 mk (some 82) (.call { callee := (.builtin .len),args := #[(.tmp 81)],argTypes := #[89] }) 3 (some (14,true)),
 mk (some 83) (.binOp .eql 3 (.tmp 82) (.const (.int .i64 0)) 3) 4 (some (14,true)),
 op1 84 (.pick (.tmp 79) (.tmp 83) (.const (.bool false))) 4,
 asn 2 84 4] fr st (.seq .ret k)) ∧
 evK gS fi107 c107_69 fr st k = condK gS fi107 (fr.op (.tmp 91)).bool? .skip (.exit 1) fr st k ∧
 (evK gS fi107 c107_67 fr st k = opsR gS fi107 [mv 87 3 3,
 op1 88 (.fieldAddr 91 (.tmp 1) 4) 0,
 ld 89 89 88 89,
 len1 90 89 89 3,
 bop 91 .lss 3 87 90 3 4] fr st (.seq c107_69 k)) ∧
 evK gS fi107 c107_77 fr st k = opsR gS fi107 [op1 2 (.assign (.const (.bool false))) 4] fr st (.seq .ret k) ∧
 evK gS fi107 c107_76 fr st k = condK gS fi107 (fr.op (.tmp 100)).bool? c107_77 .skip fr st k ∧
 (evK gS fi107 c107_74 fr st k = opsR gS fi107 [op1 94 (.fieldAddr 91 (.tmp 1) 4) 0,
 ld 95 89 94 89,
 mv 96 3 3,
 ixa 97 89 95 96 0,
 ld 98 88 97 88,
 cal 99 127 [(.tmp 98)] [88] 4,
 op1 100 (.unOp .not 4 (.tmp 99)) 4] fr st (.seq c107_76 k)) ∧
 (evK gS fi107 c107_81 fr st k = opsR gS fi107 [mv 92 3 3,
 op1 93 (.binOp .add 3 (.tmp 92) (.const (.int .i64 1)) 3) 3,
 asn 3 93 3] fr st k) ∧
 evK gS fi107 c107_72 fr st k = evK gS fi107 c107_74 fr st (.blk 2 (.seq c107_81 k)) ∧
 evK gS fi107 c107_66 fr st k = evK gS fi107 c107_67 fr st (.seq c107_72 k) ∧
 evK gS fi107 c107_64 fr st k = evK gS fi107 c107_65 fr st (.blk 1 k) ∧
 evK gS fi107 c107_62 fr st k = opsR gS fi107 [op1 3 (.assign (.const (.int .i64 0))) 3] fr st (.seq c107_64 k) ∧
 (evK gS fi107 c107_82 fr st k = opsR gS fi107 [op1 101 (.fieldAddr 91 (.tmp 1) 2) 0,
 ld 102 88 101 88,
 cal 103 126 [(.tmp 102)] [88] 4,
 mv 104 103 4,
 mk (some 105) (.fieldAddr 91 (.tmp 1) 3) 0 (some (3,true)),
 mk (some 106) (.load 88 (.tmp 105)) 88 (some (3,true)),
 mk (some 107) (.call { callee := (.value (.func 126)),args := #[(.tmp 106)],argTypes := #[88] }) 4 (some (3,true)),
 op1 108 (.pick (.tmp 104) (.tmp 107) (.const (.bool false))) 4,
 mv 109 108 4,
 mk (some 110) (.fieldAddr 91 (.tmp 1) 4) 0 (some (8,true)),
 mk (some 111) (.load 89 (.tmp 110)) 89 (some (8,true)),
 mk (some 112) (.call { callee := (.builtin .len),args := #[(.tmp 111)],argTypes := #[89] }) 3 (some (8,true)),
 mk (some 113) (.binOp .geq 3 (.tmp 112) (.const (.int .i64 1)) 3) 4 (some (8,true)),
 op1 114 (.pick (.tmp 109) (.tmp 113) (.const (.bool false))) 4,
 mv 115 114 4,
 mk (some 116) (.fieldAddr 91 (.tmp 1) 4) 0 (some (14,true)),
 mk (some 117) (.load 89 (.tmp 116)) 89 (some (14,true)),
 mk (some 118) (.call { callee := (.builtin .len),args := #[(.tmp 117)],argTypes := #[89] }) 3 (some (14,true)),
 mk (some 119) (.binOp .leq 3 (.tmp 118) (.const (.int .i64 4)) 3) 4 (some (14,true)),
 op1 120 (.pick (.tmp 115) (.tmp 119) (.const (.bool false))) 4,
 asn 2 120 4] fr st (.seq .ret k)) ∧
 evK gS fi107 c107_61 fr st k = evK gS fi107 c107_62 fr st (.seq c107_82 k) ∧
 evK gS fi107 c107_60 fr st k = condK gS fi107 (fr.op (.tmp 85)).bool? c107_61 .skip fr st k ∧
 (evK gS fi107 c107_58 fr st k = opsR gS fi107 [op1 86 (.binOp .eql 3 (.tmp 9) (.const (.int .i64 10)) 3) 4,
 asn 85 86 4] fr st (.seq c107_60 k)) ∧
 evK gS fi107 c107_54 fr st k = condK gS fi107 (fr.op (.tmp 63)).bool? c107_55 c107_58 fr st k ∧
 (evK gS fi107 c107_52 fr st k = opsR gS fi107 [op1 64 (.binOp .eql 3 (.tmp 9) (.const (.int .i64 9)) 3) 4,
 asn 63 64 4] fr st (.seq c107_54 k)) ∧
 evK gS fi107 c107_48 fr st k = condK gS fi107 (fr.op (.tmp 47)).bool? c107_49 c107_52 fr st k ∧
 (evK gS fi107 c107_46 fr st k = opsR gS fi107 [op1 48 (.binOp .eql 3 (.tmp 9) (.const (.int .i64 8)) 3) 4,
 asn 47 48 4] fr st (.seq c107_48 k)) ∧
 evK gS fi107 c107_42 fr st k = condK gS fi107 (fr.op (.tmp 26)).bool? c107_43 c107_46 fr st k ∧
 evK gS fi107 c107_20 fr st k = evK gS fi107 c107_21 fr st (.seq c107_42 k) ∧
 evK gS fi107 c107_16 fr st k = condK gS fi107 (fr.op (.tmp 10)).bool? c107_17 c107_20 fr st k ∧
 (evK gS fi107 c107_14 fr st k = opsR gS fi107 [op1 11 (.binOp .eql 3 (.tmp 9) (.const (.int .i64 1)) 3) 4,
 asn 10 11 4] fr st (.seq c107_16 k)) ∧
 evK gS fi107 c107_13 fr st k = evK gS fi107 c107_14 fr st (.blk 0 k) ∧
 (evK gS fi107 c107_11 fr st k = opsR gS fi107 [op1 8 (.fieldAddr 91 (.tmp 1) 1) 0,
 ld 9 3 8 3] fr st (.seq c107_13 k)) ∧
 evK gS fi107 c107_86 fr st k = opsR gS fi107 [op1 2 (.assign (.const (.bool false))) 4] fr st (.seq .ret k) ∧
 evK gS fi107 c107_10 fr st k = evK gS fi107 c107_11 fr st (.seq c107_86 k) ∧
 evK gS fi107 c107_2 fr st k = evK gS fi107 c107_3 fr st (.seq c107_10 k) ∧
 (evK gS fi107 c107_0 fr st k = opsR gS fi107 [op1 1 (.box 91 (.tmp 0)) 0,
 op1 2 (.assign (.const (.bool false))) 4] fr st (.seq c107_2 k)) := ⟨evK_rs 2 rfl (by kernel_rfl),rfl,evK_rs 1 rfl (by kernel_rfl),evK_rs 5 rfl (by kernel_rfl),evK_r 11 (by kernel_rfl),rfl,evK_rs 10 rfl (by kernel_rfl),rfl,evK_rs 9 rfl (by kernel_rfl),rfl,evK_rs 8 rfl (by kernel_rfl),rfl,evK_rs 7 rfl (by kernel_rfl),rfl,evK_rs 6 rfl (by kernel_rfl),evK_rs 12 rfl (by kernel_rfl),evK_rs 14 rfl (by kernel_rfl),evK_rs 16 rfl (by kernel_rfl),rfl,evK_rs 19 rfl (by kernel_rfl),evK_rs 22 rfl (by kernel_rfl),rfl,evK_rs 21 rfl (by kernel_rfl),evK_r 20 (by kernel_rfl),rfl,rfl,rfl,evK_rs 18 rfl (by kernel_rfl),evK_rs 23 rfl (by kernel_rfl),rfl,rfl,evK_rs 17 rfl (by kernel_rfl),rfl,evK_rs 15 rfl (by kernel_rfl),rfl,evK_rs 13 rfl (by kernel_rfl),rfl,rfl,rfl,evK_rs 4 rfl (by kernel_rfl),rfl,evK_rs 3 rfl (by kernel_rfl),evK_rs 24 rfl (by kernel_rfl),rfl,rfl,evK_rs 0 rfl (by kernel_rfl)⟩
theorem m107 : mini fi107.body = c107_0 := by kernel_rfl
theorem n107_65 (fr : Fr) (st : St) (k : Kt) : nextK gS fi107 (.loop c107_66 k) .normal fr st = evK gS fi107 c107_65 fr st k := rfl
set_option maxHeartbeats 4000000 in
theorem L107_65 (p : Pred) (h_p : p.ok) (st : St) : ∀ (n i : Nat) (j : Int)  (e0 e2 e9 e26 : E) (T : List (Nat × E)) (X : List (Nat × List V)) (ht0 : e0.Tame) (ht2 : e2.Tame) (ht9 : e9.Tame) (ht26 : e26.Tame) (hx1 : lk X 1 = some [.str p.name,.int .i64 p.test,.int .i64 p.v.kind,.int .i64 p.v.n,.float .f64 p.v.x,.str p.v.s,.bool p.v.b,.int .i64 p.w.kind,.int .i64 p.w.n,.float .f64 p.w.x,.str p.w.s,.bool p.w.b,.slice (encVals p.set)]) ,j = (i : Int) → i ≤ (p.set).length → (p.set).length - i = n →
    evK gS fi107 c107_65 { ps := [(0,e0),(1,.lp 1 0),(2,e2),(3,.val (.int .i64 j)),(9,e9),(26,e26)],ts := T,lc := X } st (.blk 1 (.seq c107_82 (.blk 0 (.seq c107_86 .nil)))) = some ((.ret (.bool ((p.set.drop i).all vright && (vsame p.v vzero && vsame p.w vzero && 1 ≤ p.set.length && p.set.length ≤ 4))) none),st) := by
  intro n
  have hm : fi107.marks = [] := rfl
  have hl : fi107.locals = [1] := rfl
  have hr : fi107.results = [.tmp 2] := rfl
  have hpo := h_p.2
  induction n with
  | zero =>
    intro i j  e0 e2 e9 e26 T X ht0 ht2 ht9 ht26 hx1  hj hi hn
    obtain rfl : i = (p.set).length := by omega
    subst hj
    refine evK_loop c107_66 _ st _ _ rfl ?_
    simp (config := { contextual := true,maxSteps := 10000000,maxDischargeDepth := 6 }) [-Int.not_le,-Int.not_lt,-Nat.not_le,-Nat.not_lt,ty3,ty4,ty9,ty88,ty89,ty91,eq88,hm,hl,hr,k125,k126,k127,E107,n107_65,h_p.1,h_p.2,ht0,ht2,ht9,ht26,hx1]
    all_goals first | done | grind | omega | (trace_state; fail)
  | succ n ih =>
    intro i j  e0 e2 e9 e26 T X ht0 ht2 ht9 ht26 hx1  hj hi hn
    subst hj
    obtain ⟨x,hx⟩ : ∃ x,(p.set)[i]? = some x := ⟨(p.set)[i]'(by omega),List.getElem?_eq_getElem (by omega)⟩
    have hd := drop_get hx
    have hlt : (i : Int) < ((p.set).length : Int) := by omega
    have hlt2 : i < (p.set).length := by omega
    have hxe : (p.set)[i]'hlt2 = x := by rw [List.getElem?_eq_getElem hlt2] at hx; exact Option.some.inj hx
    have hw : IntKind.wrap .i64 ((i : Int) + 1) = (i : Int) + 1 := wrap64 (by omega) (by omega)
    have IH := fun e0 e2 e9 e26 T X ht0 ht2 ht9 ht26 hx1 => ih (i + 1) ((i : Int) + 1) e0 e2 e9 e26 T X ht0 ht2 ht9 ht26 hx1 rfl (by omega) (by omega)
    refine evK_loop c107_66 _ st _ _ rfl ?_
    simp (config := { contextual := true,maxSteps := 10000000,maxDischargeDepth := 6 }) [-Int.not_le,-Int.not_lt,-Nat.not_le,-Nat.not_lt,ty3,ty4,ty9,ty88,ty89,ty91,eq88,hm,hl,hr,k125,k126,k127,E107,n107_65,h_p.1,h_p.2,ht0,ht2,ht9,ht26,hx1,hx,hxe,hd,hlt,hlt2,hw,IH]
    all_goals first | done | grind | omega | (trace_state; fail)
set_option maxHeartbeats 4000000 in
theorem c107 (p : Pred)  (h_p : Pred.ok p) (st : St) : EvF gS 107 [p.enc] st = some (.ret (.bool (pright p)) none,st) := by
  refine EvF_start fi20_eq (fun x h => by cases h) m107 ?_
  rw [st107]
  have hm : fi107.marks = [] := rfl
  have hl : fi107.locals = [1] := rfl
  have hr : fi107.results = [.tmp 2] := rfl
  simp (config := { contextual := true,maxSteps := 10000000,maxDischargeDepth := 6 }) [-Int.not_le,-Int.not_lt,-Nat.not_le,-Nat.not_lt,ty3,ty4,ty9,ty88,ty89,ty91,eq88,hm,hl,hr,k125,k126,k127,E107,n107_65,(fun e0 e2 e9 e26 T X ht0 ht2 ht9 ht26 hx1 => L107_65 p h_p st _ 0 0  e0 e2 e9 e26 T X ht0 ht2 ht9 ht26 hx1 rfl (Nat.zero_le _) rfl),h_p.1,h_p.2]
  all_goals try simp (config := { contextual := true }) [-Int.not_le,-Int.not_lt,-Nat.not_le,-Nat.not_lt,pright]
  all_goals first | done | grind | omega | (trace_state; fail)
theorem k107 (p_name : List UInt8) (p_test : Int) (p_vk : Int) (p_vn : Int) (p_vx : Nat) (p_vs : List UInt8) (p_vb : Bool) (p_wk : Int) (p_wn : Int) (p_wx : Nat) (p_ws : List UInt8) (p_wb : Bool) (p_set : List Val)  (h_p : Pred.ok (⟨p_name,p_test,⟨p_vk,p_vn,p_vx,p_vs,p_vb⟩,⟨p_wk,p_wn,p_wx,p_ws,p_wb⟩,p_set⟩ : Pred)) (fr : Fr) (st : St) : callStep gS (EvF gS) 107 [.agg [.str p_name,.int .i64 p_test,.int .i64 p_vk,.int .i64 p_vn,.float .f64 p_vx,.str p_vs,.bool p_vb,.int .i64 p_wk,.int .i64 p_wn,.float .f64 p_wx,.str p_ws,.bool p_wb,.slice (encVals p_set)]] fr st = some (.ok (retE none (.bool (pright (⟨p_name,p_test,⟨p_vk,p_vn,p_vx,p_vs,p_vb⟩,⟨p_wk,p_wn,p_wx,p_ws,p_wb⟩,p_set⟩ : Pred)))) fr st) :=
  call_pure rfl fi20_eq rfl (fun st => c107 (⟨p_name,p_test,⟨p_vk,p_vn,p_vx,p_vs,p_vb⟩,⟨p_wk,p_wn,p_wx,p_ws,p_wb⟩,p_set⟩ : Pred) h_p st) (by simp)
theorem x107 : gS.ext 107 = none := rfl
theorem p107 : fi107.pure = true := rfl
end
end Go.Proofs.Ytdoobejjedpcgaa
