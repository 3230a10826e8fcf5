/- The law of ways of the chain, with all that it rests on. Part 6. -/
import Derived.Test.YtdoobejjedpcgaaK5
namespace Go.Ab
open Go
set_option linter.unusedVariables false
set_option linter.unusedSimpArgs false
set_option linter.unnecessarySimpa false
theorem psame_rfl (p : Pred) : psame p p = true := by simp [psame, vsame_refl, sames_refl]
theorem fsames_rfl : ∀ l : List Pred, fsames l l = true
  | [] => rfl
  | a :: r => by simp [fsames, psame_rfl, fsames_rfl r]
theorem fsame_iff {a b : List Pred} : fsame a b = true ↔ fsames a b = true := by
  unfold fsame
  rw [Bool.and_eq_true]
  exact ⟨fun h => h.2, fun h => ⟨by simpa using fsames_len h, h⟩⟩
theorem fsame_rfl (f : List Pred) : fsame f f = true := fsame_iff.2 (fsames_rfl f)
theorem gofG_spec (l : List Sub) : ∀ (r : List Sub) (i : Nat) (out : List Grp), l.drop i = r → ∀ x, x ∈ gofG l i r out ↔ x ∈ out ∨ ∃ k s, i ≤ k ∧ l[k]? = some s ∧ fstOf l k s = true ∧ x = ⟨s.filter, cliOf l s⟩
  | [], i, out, hd, x => by
    unfold gofG
    constructor
    · exact .inl
    · rintro (h | ⟨k, s, h1, h2, _⟩)
      · exact h
      · have := (List.getElem?_eq_some_iff.1 h2).1
        have : l.length ≤ i := by simpa using hd
        omega
  | s :: r, i, out, hd, x => by
    have hi : l[i]? = some s := by
      have := congrArg (fun q => q[0]?) hd
      simpa using this
    have hd' : l.drop (i + 1) = r := by
      have := congrArg List.tail hd
      simpa using this
    unfold gofG
    rw [gofG_spec l r (i + 1) _ hd' x]
    constructor
    · rintro (h | ⟨k, t, h1, h2, h3⟩)
      · split at h
        · rename_i hf
          rcases List.mem_append.1 h with h | h
          · exact .inl h
          · simp at h
            exact .inr ⟨i, s, Nat.le_refl _, hi, hf, h⟩
        · exact .inl h
      · exact .inr ⟨k, t, by omega, h2, h3⟩
    · rintro (h | ⟨k, t, h1, h2, h3, h4⟩)
      · left; split
        · exact List.mem_append_left _ h
        · exact h
      · by_cases hk : k = i
        · subst hk
          rw [hi] at h2; cases h2
          left; rw [if_pos h3]; simp [h4]
        · exact .inr ⟨k, t, by omega, h2, h3, h4⟩
theorem gof_mem {l : List Sub} {x : Grp} : x ∈ gof l ↔ ∃ k s, l[k]? = some s ∧ fstOf l k s = true ∧ x = ⟨s.filter, cliOf l s⟩ := by
  unfold gof
  rw [gofG_spec l l 0 [] rfl x]
  constructor
  · rintro (h | ⟨k, s, _, h⟩)
    · simp at h
    · exact ⟨k, s, h⟩
  · rintro ⟨k, s, h⟩; exact .inr ⟨k, s, Nat.zero_le _, h⟩
theorem gofG_len (l : List Sub) : ∀ (r : List Sub) (i : Nat) (out : List Grp), (gofG l i r out).length ≤ out.length + r.length
  | [], _, _ => by simp [gofG]
  | s :: r, i, out => by
    unfold gofG
    have := gofG_len l r (i + 1) (if fstOf l i s then out ++ [⟨s.filter, cliOf l s⟩] else out)
    split at this
    · rename_i h; rw [if_pos h]; simp at this ⊢; omega
    · rename_i h; rw [if_neg h]; simp at this ⊢; omega
theorem gof_len (l : List Sub) : (gof l).length ≤ l.length := by
  have := gofG_len l l 0 []
  unfold gof
  simpa using this
theorem cli_mem (s : Sub) : ∀ (l : List Sub) (acc : List Int) (c : Int), c ∈ l.foldl (cliStep s) acc ↔ c ∈ acc ∨ ∃ t ∈ l, fsame s.filter t.filter = true ∧ t.client = c
  | [], acc, c => by simp
  | t :: r, acc, c => by
    rw [List.foldl_cons, cli_mem s r]
    unfold cliStep
    split
    · rename_i h
      rw [layI_mem]
      constructor
      · rintro ((rfl | h1) | ⟨u, hu, h1⟩)
        · exact .inr ⟨t, by simp, h, rfl⟩
        · exact .inl h1
        · exact .inr ⟨u, by simp [hu], h1⟩
      · rintro (h1 | ⟨u, hu, h1, h2⟩)
        · exact .inl (.inr h1)
        · rcases List.mem_cons.1 hu with rfl | hu
          · exact .inl (.inl h2.symm)
          · exact .inr ⟨u, hu, h1, h2⟩
    · rename_i h
      constructor
      · rintro (h1 | ⟨u, hu, h1⟩)
        · exact .inl h1
        · exact .inr ⟨u, by simp [hu], h1⟩
      · rintro (h1 | ⟨u, hu, h1, h2⟩)
        · exact .inl h1
        · rcases List.mem_cons.1 hu with rfl | hu
          · exact absurd h1 h
          · exact .inr ⟨u, hu, h1, h2⟩
theorem cliOf_mem {l : List Sub} {s : Sub} {c : Int} : c ∈ cliOf l s ↔ ∃ t ∈ l, fsame s.filter t.filter = true ∧ t.client = c := by
  unfold cliOf; rw [cli_mem]; simp
theorem cli_len (s : Sub) : ∀ (l : List Sub) (acc : List Int), (l.foldl (cliStep s) acc).length ≤ acc.length + l.length
  | [], acc => by simp
  | t :: r, acc => by
    rw [List.foldl_cons]
    have := cli_len s r (cliStep s acc t)
    have h2 : (cliStep s acc t).length ≤ acc.length + 1 := by
      unfold cliStep; split
      · exact layI_len _ _
      · omega
    simp only [List.length_cons]; omega
theorem cliOf_len (l : List Sub) (s : Sub) : (cliOf l s).length ≤ l.length := by
  have := cli_len s l []
  unfold cliOf; simpa using this
end Go.Ab
namespace Go.Ab
open Go
set_option linter.unusedVariables false
set_option linter.unusedSimpArgs false
set_option linter.unnecessarySimpa false
/-- The one ahead of a place. -/
def prevS (l : List Sub) (i : Nat) : Option Sub := if i = 0 then none else l[i - 1]?
/-- May they all be, in this order, behind one, so many of its client? -/
def rsG : Option Sub → Int → List Sub → Bool
  | _, _, [] => true
  | none, _, s :: r => mayS s && rsG (some s) 1 r
  | some t, many, s :: r => mayS s && (if t.client < s.client then rsG (some s) 1 r else !(decide (s.client < t.client) || decide (s.num ≤ t.num) || !decide (t.broker = s.broker) || decide (3 < many + 1)) && rsG (some s) (many + 1) r)
def rightS (l : List Sub) : Bool := rsG none 0 l
theorem rsG_may : ∀ (l : List Sub) (o : Option Sub) (m : Int), rsG o m l = true → ∀ s ∈ l, mayS s = true
  | [], _, _, _, s, hs => by simp at hs
  | x :: r, none, m, h, s, hs => by
    simp only [rsG, Bool.and_eq_true] at h
    rcases List.mem_cons.1 hs with rfl | hs
    · exact h.1
    · exact rsG_may r _ _ h.2 s hs
  | x :: r, some t, m, h, s, hs => by
    simp only [rsG, Bool.and_eq_true] at h
    rcases List.mem_cons.1 hs with rfl | hs
    · exact h.1
    · have h2 := h.2
      split at h2
      · exact rsG_may r _ _ h2 s hs
      · simp only [Bool.and_eq_true] at h2
        exact rsG_may r _ _ h2.2 s hs
theorem may_client {s : Sub} (h : mayS s = true) : 1 ≤ s.client ∧ s.client ≤ 6 ∧ 0 ≤ s.broker ∧ s.broker ≤ 7 := by
  simp only [mayS, Bool.and_eq_true, decide_eq_true_eq] at h
  omega
/-- Each client's broker. -/
def homesG (p : List Int) : List Sub → List Int → List Int × Bool
  | [], h => (h, true)
  | s :: r, h => if (p.length : Int) < s.broker then (h, false) else homesG p r (h.set s.client.toNat s.broker)
def home0 : List Int := [0, 0, 0, 0, 0, 0, 0]
def homesT (p : List Int) (l : List Sub) : List Int × Bool := if rightT p && rightS l then homesG p l home0 else (home0, false)
theorem homesG_len (p : List Int) : ∀ (l : List Sub) (h : List Int), (homesG p l h).1.length = h.length
  | [], _ => rfl
  | s :: r, h => by
    unfold homesG
    split
    · rfl
    · rw [homesG_len p r]; simp
theorem homesT_len (p : List Int) (l : List Sub) : (homesT p l).1.length = 7 := by
  unfold homesT
  split
  · exact homesG_len p l home0
  · rfl
def atsOf (hm : List Int) (g : List Grp) (a b : Nat) : List Int := (bothI ((g[b]?).getD default).clients ((g[a]?).getD default).clients []).map fun c => hm.getD c.toNat 0
def ofStep (p hm : List Int) (g : List Grp) (a b : Nat) (out : List Atom) : List Atom := if atsOf hm g a b = [] then out else layA out ⟨a, b, placeT p (atsOf hm g a b)⟩
def ofB (p hm : List Int) (g : List Grp) (a : Nat) : Nat → Nat → List Atom → List Atom
  | 0, _, out => out
  | n + 1, b, out => ofB p hm g a n (b + 1) (ofStep p hm g a b out)
def ofA (p hm : List Int) (g : List Grp) : Nat → Nat → List Atom → List Atom
  | 0, _, out => out
  | n + 1, a, out => ofA p hm g n (a + 1) (ofB p hm g a (g.length - a) a out)
def chainOf (p : List Int) (l : List Sub) : List Atom := if (homesT p l).2 then ofA p (homesT p l).1 (gof l) (gof l).length 0 [] else []
theorem bothI_len (v : List Int) : ∀ (u acc : List Int), (bothI v u acc).length ≤ acc.length + u.length
  | [], acc => by simp [bothI]
  | c :: r, acc => by
    have h1 := bothI_len v r (if hasI v c = true then layI acc c else acc)
    have h2 := layI_len acc c
    unfold bothI
    simp only [List.length_cons]
    split at h1 <;> rename_i h <;> simp only [h, if_true, if_false, Bool.false_eq_true] <;> omega
theorem bothI_mem (v : List Int) : ∀ (u acc : List Int) (x : Int), x ∈ bothI v u acc ↔ x ∈ acc ∨ (x ∈ u ∧ x ∈ v)
  | [], acc, x => by simp [bothI]
  | c :: r, acc, x => by
    unfold bothI
    rw [bothI_mem v r]
    split
    · rename_i h
      rw [hasI_iff] at h
      rw [layI_mem, List.mem_cons]
      constructor
      · rintro ((rfl | h1) | h1)
        · exact .inr ⟨.inl rfl, h⟩
        · exact .inl h1
        · exact .inr ⟨.inr h1.1, h1.2⟩
      · rintro (h1 | ⟨rfl | h1, h2⟩)
        · exact .inl (.inr h1)
        · exact .inl (.inl rfl)
        · exact .inr ⟨h1, h2⟩
    · rename_i h
      rw [hasI_iff] at h
      rw [List.mem_cons]
      constructor
      · rintro (h1 | h1)
        · exact .inl h1
        · exact .inr ⟨.inr h1.1, h1.2⟩
      · rintro (h1 | ⟨rfl | h1, h2⟩)
        · exact .inl h1
        · exact absurd h2 h
        · exact .inr ⟨h1, h2⟩
theorem ofStep_len (p hm : List Int) (g : List Grp) (a b : Nat) (out : List Atom) : (ofStep p hm g a b out).length ≤ out.length + 1 := by
  unfold ofStep
  split
  · omega
  · rw [layA_len]; omega
theorem ofB_len (p hm : List Int) (g : List Grp) (a : Nat) : ∀ (n b : Nat) (out : List Atom), (ofB p hm g a n b out).length ≤ out.length + n
  | 0, _, _ => Nat.le_refl _
  | n + 1, b, out => by
    have h1 := ofB_len p hm g a n (b + 1) (ofStep p hm g a b out)
    have h2 := ofStep_len p hm g a b out
    unfold ofB; omega
end Go.Ab
namespace Go.Proofs.Ytdoobejjedpcgaa
open Go Go.Ab
set_option linter.unusedVariables false
set_option linter.unusedSimpArgs false
set_option linter.unnecessarySimpa false
set_option maxRecDepth 20000
noncomputable section
variable (fr : Fr) (st : St) (k : Kt)
def fi47 : FI := { body := codeOf Try.f47, ntmps := 23, results := [.tmp 6], pers := [0, 1, 2, 6], locals := [], pure := true, marks := [] }
theorem fi205_eq : gS.fn 47 = some fi47 := by kernel_rfl
theorem st47 (a0 a1 a2 : V) : startFr fi47 [a0, a1, a2] = { ps := [(0, .val a0), (1, .val a1), (2, .val a2), (6, .any)], ts := [], lc := [] } := rfl
def b47 : Code := mini (codeOf Try.f47)
def c47_6 : Code := .seq (codeN b47 37) .ret
def c47_5 : Code := .cond (.tmp 16) c47_6 .skip
def c47_3 : Code := .seq (codeN b47 9) c47_5
def c47_10 : Code := .seq (codeN b47 11) .ret
def c47_2 : Code := .seq c47_3 c47_10
def c47_0 : Code := .seq (codeN b47 2) c47_2
theorem E47 : evK gS fi47 c47_6 fr st k = opsR gS fi47 [op1 6 (.assign (.const (.int .i64 (-1)))) 3] fr st (.seq .ret k) ∧
 evK gS fi47 c47_5 fr st k = condK gS fi47 (fr.op (.tmp 16)).bool? c47_6 .skip fr st k ∧
 (evK gS fi47 c47_3 fr st k = opsR gS fi47 [mv 7 0 22,
 mv 8 1 3,
 cal 9 72 [(.tmp 7), (.tmp 8)] [22, 3] 4,
 op1 10 (.unOp .not 4 (.tmp 9)) 4,
 mv 11 10 4,
 mk (some 12) (.move (.tmp 0)) 22 (some (4, false)),
 mk (some 13) (.move (.tmp 2)) 3 (some (4, false)),
 mk (some 14) (.call { callee := (.value (.func 72)), args := #[(.tmp 12), (.tmp 13)], argTypes := #[22, 3] }) 4 (some (4, false)),
 mk (some 15) (.unOp .not 4 (.tmp 14)) 4 (some (4, false)),
 op1 16 (.pick (.tmp 11) (.const (.bool true)) (.tmp 15)) 4] fr st (.seq c47_5 k)) ∧
 (evK gS fi47 c47_10 fr st k = opsR gS fi47 [mv 17 0 22,
 mv 18 1 3,
 mv 19 2 3,
 cal 20 79 [(.tmp 17), (.tmp 18), (.tmp 19)] [22, 3, 3] 22,
 len1 21 20 22 3,
 op1 22 (.binOp .sub 3 (.tmp 21) (.const (.int .i64 1)) 3) 3,
 asn 6 22 3] fr st (.seq .ret k)) ∧
 evK gS fi47 c47_2 fr st k = evK gS fi47 c47_3 fr st (.seq c47_10 k) ∧
 evK gS fi47 c47_0 fr st k = opsR gS fi47 [op1 6 (.assign (.const (.int .i64 0))) 3] fr st (.seq c47_2 k) := ⟨evK_rs 2 rfl (by kernel_rfl), rfl, evK_rs 1 rfl (by kernel_rfl), evK_rs 3 rfl (by kernel_rfl), rfl, evK_rs 0 rfl (by kernel_rfl)⟩
theorem m47 : mini fi47.body = c47_0 := by kernel_rfl
theorem is_nat {p : List Int} {a : Int} (h : isT p a = true) : upT 0 p = true ∧ p.length ≤ 7 ∧ ∃ k : Nat, a = (k : Int) ∧ k ≤ p.length := by
  simp only [isT, rightT, Bool.and_eq_true, decide_eq_true_eq] at h
  exact ⟨h.1.1.1, by omega, a.toNat, by omega, by omega⟩
set_option maxHeartbeats 8000000 in
theorem c47 (p : List Int) (hpl : p.length < 4611686018427387904) (a b : Int) (st : St) : EvF gS 47 [.slice (intVs p), .int .i64 a, .int .i64 b] st = some (.ret (.int .i64 (distT p a b)) none, st) := by
  refine EvF_start fi205_eq (fun x h => by cases h) m47 ?_
  rw [st47]
  have hm : fi47.marks = [] := rfl
  have hl : fi47.locals = [] := rfl
  have hr : fi47.results = [.tmp 6] := rfl
  have ka := fun fr st => k72 p a hpl fr st
  have kb := fun fr st => k72 p b hpl fr st
  unfold distT
  cases ha : isT p a with
  | false => rw [ha] at ka; simp [ka, -Int.not_le, -Int.not_lt, -Nat.not_le, -Nat.not_lt, ty3, ty4, ty22, hm, hl, hr, E47]
  | true =>
    cases hb : isT p b with
    | false => rw [ha] at ka; rw [hb] at kb; simp [ka, kb, -Int.not_le, -Int.not_lt, -Nat.not_le, -Nat.not_lt, ty3, ty4, ty22, hm, hl, hr, E47]
    | true =>
      obtain ⟨h1, h2, i, rfl, hi⟩ := is_nat ha
      obtain ⟨_, _, j, rfl, hj⟩ := is_nat hb
      rw [ha] at ka; rw [hb] at kb
      have kp := fun fr st => k79 p h1 h2 i j hi hj fr st
      have hl1 := joinT_len (upP p i) (upP p j) (upP_len p i).1 (upP_len p j).1
      have hl2 := (upP_len p i).2
      have hl3 := (upP_len p j).2
      rw [show joinT (upP p i) (upP p j) = pathT p i j from rfl] at hl1
      have hw : IntKind.wrap .i64 (((pathT p i j).length : Int) - 1) = ((pathT p i j).length : Int) - 1 := by rw [wrap64 (by omega) (by omega)]
      simp only [Int.toNat_natCast]
      generalize pathT p i j = P at *
      simp [-Int.natCast_add, ka, kb, kp, hw, -Int.not_le, -Int.not_lt, -Nat.not_le, -Nat.not_lt, ty3, ty4, ty22, hm, hl, hr, E47]
theorem k47 (p : List Int) (hpl : p.length < 4611686018427387904) (a b : Int) (fr : Fr) (st : St) : callStep gS (EvF gS) 47 [.slice (intVs p), .int .i64 a, .int .i64 b] fr st = some (.ok (.val (.int .i64 (distT p a b))) fr st) :=
  call_pure rfl fi205_eq rfl (fun st => c47 p hpl a b st) (by simp [V.flat])
def fi34 : FI := { body := codeOf Try.f34, ntmps := 49, results := [.tmp 4], pers := [0, 1, 4, 5, 6, 7, 8, 10, 11, 23, 24, 25], locals := [], pure := true, marks := [] }
theorem fi206_eq : gS.fn 34 = some fi34 := by kernel_rfl
theorem st34 (a0 a1 : V) : startFr fi34 [a0, a1] = { ps := [(0, .val a0), (1, .val a1), (4, .any), (5, .any), (6, .any), (7, .any), (8, .any), (10, .any), (11, .any), (23, .any), (24, .any), (25, .any)], ts := [], lc := [] } := rfl
def b34 : Code := mini (codeOf Try.f34)
def c34_12 : Code := .cond (.tmp 20) .skip (.exit 0)
def c34_10 : Code := .seq (codeN b34 267) c34_12
def c34_40 : Code := .seq (codeN b34 19712587) .ret
def c34_39 : Code := .cond (.tmp 34) c34_40 .skip
def c34_37 : Code := .seq (codeN b34 5032523) c34_39
def c34_44 : Code := codeN b34 3983947
def c34_36 : Code := .seq c34_37 c34_44
def c34_34 : Code := .seq (codeN b34 1362507) c34_36
def c34_32 : Code := .seq (codeN b34 576075) c34_34
def c34_45 : Code := codeN b34 248395
def c34_30 : Code := .seq (.block 3 c34_32) c34_45
def c34_26 : Code := .seq (.cond (.tmp 26) .skip (.exit 2)) c34_30
def c34_24 : Code := .seq (codeN b34 35403) c34_26
def c34_23 : Code := .loop c34_24
def c34_22 : Code := .block 2 c34_23
def c34_20 : Code := .seq (codeN b34 4683) c34_22
def c34_49 : Code := codeN b34 11851
def c34_48 : Code := .cond (.tmp 45) c34_49 .skip
def c34_46 : Code := .seq (codeN b34 5707) c34_48
theorem e34_46 : evK gS fi34 c34_46 fr st k = opsR gS fi34 [mv 39 5 3,
 op1 40 (.binOp .lss 3 (.tmp 39) (.const (.int .i64 0)) 3) 4,
 mv 41 40 4,
 mk (some 42) (.move (.tmp 8)) 3 (some (2, false)),
 mk (some 43) (.move (.tmp 6)) 3 (some (2, false)),
 mk (some 44) (.binOp .lss 3 (.tmp 42) (.tmp 43) 3) 4 (some (2, false)),
 op1 45 (.pick (.tmp 41) (.const (.bool true)) (.tmp 44)) 4] fr st (.seq c34_48 k) := evK_rs 14 rfl (by kernel_rfl)
def c34_19 : Code := .seq c34_20 c34_46
def c34_17 : Code := .seq (codeN b34 1099) c34_19
def c34_51 : Code := codeN b34 459
def c34_15 : Code := .seq (.block 1 c34_17) c34_51
def c34_9 : Code := .seq c34_10 c34_15
def c34_8 : Code := .loop c34_9
def c34_7 : Code := .block 0 c34_8
def c34_5 : Code := .seq (codeN b34 19) c34_7
def c34_52 : Code := .seq (codeN b34 23) .ret
def c34_4 : Code := .seq c34_5 c34_52
def c34_2 : Code := .seq (codeN b34 5) c34_4
def c34_0 : Code := .seq (codeN b34 2) c34_2
theorem E34 : evK gS fi34 c34_12 fr st k = condK gS fi34 (fr.op (.tmp 20)).bool? .skip (.exit 0) fr st k ∧
 (evK gS fi34 c34_10 fr st k = opsR gS fi34 [mv 12 7 3,
 mv 13 0 22,
 len1 14 13 22 3,
 bop 15 .leq 3 12 14 3 4,
 mv 16 15 4,
 mk (some 17) (.move (.tmp 1)) 22 (some (4, true)),
 mk (some 18) (.call { callee := (.builtin .len), args := #[(.tmp 17)], argTypes := #[22] }) 3 (some (4, true)),
 mk (some 19) (.binOp .gtr 3 (.tmp 18) (.const (.int .i64 0)) 3) 4 (some (4, true)),
 op1 20 (.pick (.tmp 16) (.tmp 19) (.const (.bool false))) 4] fr st (.seq c34_12 k)) ∧
 evK gS fi34 c34_40 fr st k = opsR gS fi34 [op1 4 (.assign (.const (.int .i64 (-1)))) 3] fr st (.seq .ret k) ∧
 evK gS fi34 c34_39 fr st k = condK gS fi34 (fr.op (.tmp 34)).bool? c34_40 .skip fr st k ∧
 (evK gS fi34 c34_37 fr st k = opsR gS fi34 [mv 33 11 3,
 op1 34 (.binOp .lss 3 (.tmp 33) (.const (.int .i64 0)) 3) 4] fr st (.seq c34_39 k)) ∧
 (evK gS fi34 c34_44 fr st k = opsR gS fi34 [mv 35 8 3,
 mv 36 11 3,
 bop 37 .add 3 35 36 3 3,
 asn 8 37 3] fr st k) ∧
 evK gS fi34 c34_36 fr st k = evK gS fi34 c34_37 fr st (.seq c34_44 k) ∧
 (evK gS fi34 c34_34 fr st k = opsR gS fi34 [mv 29 0 22,
 mv 30 7 3,
 mv 31 10 3,
 cal 32 47 [(.tmp 29), (.tmp 30), (.tmp 31)] [22, 3, 3] 3,
 asn 11 32 3] fr st (.seq c34_36 k)) ∧
 (evK gS fi34 c34_32 fr st k = opsR gS fi34 [ixa 27 22 23 25 0,
 ld 28 3 27 3,
 asn 10 28 3] fr st (.seq c34_34 k)) ∧
 (evK gS fi34 c34_45 fr st k = opsR gS fi34 [op1 38 (.binOp .add 3 (.tmp 25) (.const (.int .i64 1)) 3) 3,
 mv 25 38 3] fr st k) ∧
 evK gS fi34 c34_30 fr st k = evK gS fi34 c34_32 fr st (.blk 3 (.seq c34_45 k)) ∧
 evK gS fi34 c34_26 fr st k = condK gS fi34 (fr.op (.tmp 26)).bool? .skip (.exit 2) fr st (.seq c34_30 k) ∧
 evK gS fi34 c34_24 fr st k = opsR gS fi34 [bop 26 .lss 3 25 24 3 0] fr st (.seq c34_26 k) ∧
 evK gS fi34 c34_22 fr st k = evK gS fi34 c34_23 fr st (.blk 2 k) ∧
 (evK gS fi34 c34_20 fr st k = opsR gS fi34 [mv 23 1 22,
 len1 24 23 22 3,
 op1 25 (.move (.const (.int .i64 0))) 3] fr st (.seq c34_22 k)) ∧
 (evK gS fi34 c34_49 fr st k = opsR gS fi34 [mv 46 7 3,
 mv 47 8 3,
 asn 5 46 3,
 asn 6 47 3] fr st k) ∧
 evK gS fi34 c34_48 fr st k = condK gS fi34 (fr.op (.tmp 45)).bool? c34_49 .skip fr st k ∧
 evK gS fi34 c34_19 fr st k = evK gS fi34 c34_20 fr st (.seq c34_46 k) ∧
 evK gS fi34 c34_17 fr st k = opsR gS fi34 [op1 8 (.assign (.const (.int .i64 0))) 3] fr st (.seq c34_19 k) ∧
 (evK gS fi34 c34_51 fr st k = opsR gS fi34 [mv 21 7 3,
 op1 22 (.binOp .add 3 (.tmp 21) (.const (.int .i64 1)) 3) 3,
 asn 7 22 3] fr st k) ∧
 evK gS fi34 c34_15 fr st k = evK gS fi34 c34_17 fr st (.blk 1 (.seq c34_51 k)) ∧
 evK gS fi34 c34_9 fr st k = evK gS fi34 c34_10 fr st (.seq c34_15 k) ∧
 evK gS fi34 c34_7 fr st k = evK gS fi34 c34_8 fr st (.blk 0 k) ∧
 evK gS fi34 c34_5 fr st k = opsR gS fi34 [op1 7 (.assign (.const (.int .i64 0))) 3] fr st (.seq c34_7 k) ∧
 (evK gS fi34 c34_52 fr st k = opsR gS fi34 [mv 48 5 3,
 asn 4 48 3] fr st (.seq .ret k)) ∧
 evK gS fi34 c34_4 fr st k = evK gS fi34 c34_5 fr st (.seq c34_52 k) ∧
 (evK gS fi34 c34_2 fr st k = opsR gS fi34 [op1 5 (.assign (.const (.int .i64 (-1)))) 3,
 op1 6 (.assign (.const (.int .i64 0))) 3] fr st (.seq c34_4 k)) ∧
 evK gS fi34 c34_0 fr st k = opsR gS fi34 [op1 4 (.assign (.const (.int .i64 0))) 3] fr st (.seq c34_2 k) := ⟨rfl, evK_rs 3 rfl (by kernel_rfl), evK_rs 11 rfl (by kernel_rfl), rfl, evK_rs 10 rfl (by kernel_rfl), evK_r 12 (by kernel_rfl), rfl, evK_rs 9 rfl (by kernel_rfl), evK_rs 8 rfl (by kernel_rfl), evK_r 13 (by kernel_rfl), rfl, rfl, evK_rs 7 rfl (by kernel_rfl), rfl, evK_rs 6 rfl (by kernel_rfl), evK_r 15 (by kernel_rfl), rfl, rfl, evK_rs 5 rfl (by kernel_rfl), evK_r 4 (by kernel_rfl), rfl, rfl, rfl, evK_rs 2 rfl (by kernel_rfl), evK_rs 16 rfl (by kernel_rfl), rfl, evK_rs 1 rfl (by kernel_rfl), evK_rs 0 rfl (by kernel_rfl)⟩
theorem m34 : mini fi34.body = c34_0 := by kernel_rfl
theorem n34_23 (fr : Fr) (st : St) (k : Kt) : nextK gS fi34 (.loop c34_24 k) .normal fr st = evK gS fi34 c34_23 fr st k := rfl
theorem n34_8 (fr : Fr) (st : St) (k : Kt) : nextK gS fi34 (.loop c34_9 k) .normal fr st = evK gS fi34 c34_8 fr st k := rfl
set_option maxHeartbeats 8000000 in
theorem L34_23 (p : List Int) (hpl : p.length < 4611686018427387904) (l : List Int) (hll : l.length < 1000000) (x : Nat) (best least : Int) (st : St) (R : Out × St) (o : Option Int)
    (HN : o = none → R = (.ret (.int .i64 (-1)) none, st))
    (H : ∀ (fin : Int) (e4 e10 e11 e23 e24 e25 : E) (T : List (Nat × E)) (X : List (Nat × List V)), o = some fin → e4.Tame → e10.Tame → e11.Tame → e23.Tame → e24.Tame → e25.Tame → evK gS fi34 c34_46 { ps := [(0, .val (.slice (intVs p))), (1, .val (.slice (intVs l))), (4, e4), (5, .val (.int .i64 best)), (6, .val (.int .i64 least)), (7, .val (.int .i64 (x : Nat))), (8, .val (.int .i64 fin)), (10, e10), (11, e11), (23, e23), (24, e24), (25, e25)], ts := T, lc := X } st (.blk 1 (.seq c34_51 (.loop c34_9 (.blk 0 (.seq c34_52 .nil))))) = some R) :
    ∀ (m i : Nat) (s : Int) (e4 e10 e11 : E) (T : List (Nat × E)) (X : List (Nat × List V)), e4.Tame → e10.Tame → e11.Tame → i ≤ l.length → l.length - i = m → 0 ≤ s → s ≤ 20 * i → o = sumT p x (l.drop i) s →
    evK gS fi34 c34_23 { ps := [(0, .val (.slice (intVs p))), (1, .val (.slice (intVs l))), (4, e4), (5, .val (.int .i64 best)), (6, .val (.int .i64 least)), (7, .val (.int .i64 (x : Nat))), (8, .val (.int .i64 s)), (10, e10), (11, e11), (23, .val (.slice (intVs l))), (24, .val (.int .i64 l.length)), (25, .val (.int .i64 (i : Nat)))], ts := T, lc := X } st (.blk 2 (.seq c34_46 (.blk 1 (.seq c34_51 (.loop c34_9 (.blk 0 (.seq c34_52 .nil))))))) = some R := by
  intro m
  have hm : fi34.marks = [] := rfl
  have hl : fi34.locals = [] := rfl
  have hr : fi34.results = [.tmp 4] := rfl
  induction m with
  | zero =>
    intro i s e4 e10 e11 T X h4 h10 h11 hi hm2 hs0 hs1 ho
    obtain rfl : i = l.length := by omega
    rw [List.drop_length] at ho
    have HH := fun e4 e10 e11 e23 e24 e25 T X => H s e4 e10 e11 e23 e24 e25 T X ho
    refine evK_loop c34_24 _ _ _ _ rfl ?_
    simp [-Int.natCast_add, h4, h10, h11, -Int.not_le, -Int.not_lt, -Nat.not_le, -Nat.not_lt, ty3, ty4, ty22, hm, hl, hr, E34, n34_23, n34_8]
    exact HH _ _ _ _ _ _ _ _ h4 h10 h11 (tame_val _) (tame_val _) (tame_val _)
  | succ m ih =>
    intro i s e4 e10 e11 T X h4 h10 h11 hi hm2 hs0 hs1 ho
    obtain ⟨y, hy⟩ : ∃ y, l[i]? = some y := ⟨l[i]'(by omega), List.getElem?_eq_getElem (by omega)⟩
    have hlt : (i : Int) < (l.length : Int) := by omega
    obtain ⟨hlt2, hye⟩ := List.getElem?_eq_some_iff.1 hy
    have hw : IntKind.wrap .i64 ((i : Int) + 1) = ((i + 1 : Nat) : Int) := by rw [wrap64 (by omega) (by omega)]; omega
    rw [drop_get hy] at ho
    rw [show sumT p x (y :: l.drop (i + 1)) s = if distT p x y < 0 then none else sumT p x (l.drop (i + 1)) (s + distT p x y) from rfl] at ho
    have hd := distT_range p x y
    have kd := fun fr st => k47 p hpl (x : Int) y fr st
    generalize distT p x y = d at *
    refine evK_loop c34_24 _ _ _ _ rfl ?_
    by_cases hn : d < 0
    · rw [if_pos hn] at ho
      have hR := HN ho
      simp [-Int.natCast_add, h4, h10, h11, hy, hye, hlt, hlt2, kd, hn, hR, -Int.not_le, -Int.not_lt, -Nat.not_le, -Nat.not_lt, ty3, ty4, ty22, hm, hl, hr, E34, e34_46, n34_23, n34_8]
    · rw [if_neg hn] at ho
      have hw2 : IntKind.wrap .i64 (s + d) = s + d := by rw [wrap64 (by omega) (by omega)]
      have IH := fun e4 e10 e11 T X h4 h10 h11 => ih (i + 1) (s + d) e4 e10 e11 T X h4 h10 h11 (by omega) (by omega) (by omega) (by omega) ho
      simp [-Int.natCast_add, h4, h10, h11, hy, hye, hlt, hlt2, hw, kd, hn, hw2, -Int.not_le, -Int.not_lt, -Nat.not_le, -Nat.not_lt, ty3, ty4, ty22, hm, hl, hr, E34, e34_46, n34_23, n34_8]
      exact IH _ _ _ _ _ h4 (tame_val _) (tame_val _)
set_option maxHeartbeats 8000000 in
theorem L34 (p : List Int) (hpl : p.length < 1000000) (l : List Int) (hll : l.length < 1000000) (hln : l ≠ []) (st : St) :
    ∀ (m x : Nat) (best least : Int) (e4 e8 e10 e11 e23 e24 e25 : E) (T : List (Nat × E)) (X : List (Nat × List V)), e4.Tame → e8.Tame → e10.Tame → e11.Tame → e23.Tame → e24.Tame → e25.Tame → x ≤ p.length + 1 → p.length + 1 - x = m →
    evK gS fi34 c34_8 { ps := [(0, .val (.slice (intVs p))), (1, .val (.slice (intVs l))), (4, e4), (5, .val (.int .i64 best)), (6, .val (.int .i64 least)), (7, .val (.int .i64 (x : Nat))), (8, e8), (10, e10), (11, e11), (23, e23), (24, e24), (25, e25)], ts := T, lc := X } st (.blk 0 (.seq c34_52 .nil)) = some (.ret (.int .i64 (placeL p l m x best least)) none, st) := by
  intro m
  have hm : fi34.marks = [] := rfl
  have hl : fi34.locals = [] := rfl
  have hr : fi34.results = [.tmp 4] := rfl
  have hl0 : (0 : Int) < (l.length : Int) := by have := List.length_pos_iff.2 hln; omega
  have hl0' : 0 < l.length := List.length_pos_iff.2 hln
  induction m with
  | zero =>
    intro x best least e4 e8 e10 e11 e23 e24 e25 T X h4 h8 h10 h11 h23 h24 h25 hx hm2
    rw [show placeL p l 0 x best least = best from rfl]
    have hx1 : ¬ (x : Int) ≤ (p.length : Int) := by omega
    have hx2 : ¬ x ≤ p.length := by omega
    refine evK_loop c34_9 _ _ _ _ rfl ?_
    simp [-Int.natCast_add, h4, h8, h10, h11, h23, h24, h25, hx1, hx2, -Int.not_le, -Int.not_lt, -Nat.not_le, -Nat.not_lt, ty3, ty4, ty22, hm, hl, hr, E34, e34_46, n34_23, n34_8]
  | succ m ih =>
    intro x best least e4 e8 e10 e11 e23 e24 e25 T X h4 h8 h10 h11 h23 h24 h25 hx hm2
    have hx1 : (x : Int) ≤ (p.length : Int) := by omega
    have hx2 : x ≤ p.length := by omega
    have hw : IntKind.wrap .i64 ((x : Int) + 1) = ((x + 1 : Nat) : Int) := by rw [wrap64 (by omega) (by omega)]; omega
    have IH := fun best least e4 e8 e10 e11 e23 e24 e25 T X h4 h8 h10 h11 h23 h24 h25 => ih (x + 1) best least e4 e8 e10 e11 e23 e24 e25 T X h4 h8 h10 h11 h23 h24 h25 (by omega) (by omega)
    rw [show placeL p l (m + 1) x best least = match sumT p x l 0 with
      | none => -1
      | some s => if best < 0 ∨ s < least then placeL p l m (x + 1) x s else placeL p l m (x + 1) best least from rfl]
    generalize hR : (Out.ret (V.int .i64 (match sumT p x l 0 with
      | none => -1
      | some s => if best < 0 ∨ s < least then placeL p l m (x + 1) x s else placeL p l m (x + 1) best least)) none, st) = R
    have HN : sumT p x l 0 = none → R = (.ret (.int .i64 (-1)) none, st) := fun h => by rw [← hR, h]
    have H46 : ∀ (fin : Int) (e4 e10 e11 e23 e24 e25 : E) (T : List (Nat × E)) (X : List (Nat × List V)), sumT p x l 0 = some fin → e4.Tame → e10.Tame → e11.Tame → e23.Tame → e24.Tame → e25.Tame → evK gS fi34 c34_46 { ps := [(0, .val (.slice (intVs p))), (1, .val (.slice (intVs l))), (4, e4), (5, .val (.int .i64 best)), (6, .val (.int .i64 least)), (7, .val (.int .i64 (x : Nat))), (8, .val (.int .i64 fin)), (10, e10), (11, e11), (23, e23), (24, e24), (25, e25)], ts := T, lc := X } st (.blk 1 (.seq c34_51 (.loop c34_9 (.blk 0 (.seq c34_52 .nil))))) = some R := by
      intro fin e4 e10 e11 e23 e24 e25 T X hf h4 h10 h11 h23 h24 h25
      rw [← hR, hf]
      simp only
      by_cases hb : best < 0
      · rw [if_pos (.inl hb)]
        simp [-Int.natCast_add, h4, h10, h11, h23, h24, h25, hb, hw, -Int.not_le, -Int.not_lt, -Nat.not_le, -Nat.not_lt, ty3, ty4, ty22, hm, hl, hr, E34, e34_46, n34_23, n34_8]
        exact IH _ _ _ _ _ _ _ _ _ _ _ h4 (tame_val _) h10 h11 h23 h24 h25
      · by_cases hc : fin < least
        · rw [if_pos (.inr hc)]
          simp [-Int.natCast_add, h4, h10, h11, h23, h24, h25, hb, hc, hw, -Int.not_le, -Int.not_lt, -Nat.not_le, -Nat.not_lt, ty3, ty4, ty22, hm, hl, hr, E34, e34_46, n34_23, n34_8]
          exact IH _ _ _ _ _ _ _ _ _ _ _ h4 (tame_val _) h10 h11 h23 h24 h25
        · rw [if_neg (by omega)]
          simp [-Int.natCast_add, h4, h10, h11, h23, h24, h25, hb, hc, hw, -Int.not_le, -Int.not_lt, -Nat.not_le, -Nat.not_lt, ty3, ty4, ty22, hm, hl, hr, E34, e34_46, n34_23, n34_8]
          exact IH _ _ _ _ _ _ _ _ _ _ _ h4 (tame_val _) h10 h11 h23 h24 h25
    have LL := fun e4 e10 e11 T X h4 h10 h11 => L34_23 p (by omega) l hll x best least st R (sumT p x l 0) HN H46 l.length 0 0 e4 e10 e11 T X h4 h10 h11 (Nat.zero_le _) rfl (by omega) (by omega) rfl
    rw [show ((0 : Nat) : Int) = 0 from rfl] at LL
    refine evK_loop c34_9 _ _ _ _ rfl ?_
    simp [-Int.natCast_add, h4, h8, h10, h11, h23, h24, h25, hx1, hx2, hl0, hl0', hln, -Int.not_le, -Int.not_lt, -Nat.not_le, -Nat.not_lt, ty3, ty4, ty22, hm, hl, hr, E34, e34_46, n34_23, n34_8]
    exact LL _ _ _ _ _ h4 h10 h11
set_option maxHeartbeats 8000000 in
theorem c34 (p : List Int) (hpl : p.length < 1000000) (l : List Int) (hll : l.length < 1000000) (st : St) : EvF gS 34 [.slice (intVs p), .slice (intVs l)] st = some (.ret (.int .i64 (placeT p l)) none, st) := by
  refine EvF_start fi206_eq (fun x h => by cases h) m34 ?_
  rw [st34]
  have hm : fi34.marks = [] := rfl
  have hl : fi34.locals = [] := rfl
  have hr : fi34.results = [.tmp 4] := rfl
  unfold placeT
  by_cases hln : l = []
  · rw [if_pos hln]
    subst hln
    have h0 : (0 : Int) ≤ (p.length : Int) := by omega
    simp [-Int.not_le, -Int.not_lt, -Nat.not_le, -Nat.not_lt, ty3, ty4, ty22, hm, hl, hr, E34, e34_46, n34_23, n34_8]
    refine evK_loop c34_9 _ _ _ _ rfl ?_
    simp [h0, -Int.not_le, -Int.not_lt, -Nat.not_le, -Nat.not_lt, ty3, ty4, ty22, hm, hl, hr, E34, e34_46, n34_23, n34_8]
  · rw [if_neg hln]
    have LL := fun e4 e8 e10 e11 e23 e24 e25 T X h4 h8 h10 h11 h23 h24 h25 => L34 p hpl l hll hln st (p.length + 1) 0 (-1) 0 e4 e8 e10 e11 e23 e24 e25 T X h4 h8 h10 h11 h23 h24 h25 (Nat.zero_le _) rfl
    rw [show ((0 : Nat) : Int) = 0 from rfl] at LL
    simp [-Int.not_le, -Int.not_lt, -Nat.not_le, -Nat.not_lt, ty3, ty4, ty22, hm, hl, hr, E34, e34_46, n34_23, n34_8]
    refine LL _ _ _ _ _ _ _ _ _ ?_ ?_ ?_ ?_ ?_ ?_ ?_
    all_goals simp
theorem k34 (p : List Int) (hpl : p.length < 1000000) (l : List Int) (hll : l.length < 1000000) (fr : Fr) (st : St) : callStep gS (EvF gS) 34 [.slice (intVs p), .slice (intVs l)] fr st = some (.ok (.val (.int .i64 (placeT p l))) fr st) :=
  call_pure rfl fi206_eq rfl (fun st => c34 p hpl l hll st) (by simp [V.flat])
def fi89 : FI := { body := codeOf Try.f89, ntmps := 67, results := [.tmp 2], pers := [0, 2, 3, 4, 5, 6, 7, 8], locals := [5], pure := true, marks := [] }
theorem fi212_eq : gS.fn 89 = some fi89 := by kernel_rfl
theorem st89 (a0 : V) : startFr fi89 [a0] = { ps := [(0, .val a0), (2, .any), (3, .any), (4, .any), (5, .any), (6, .any), (7, .any), (8, .any)], ts := [], lc := [] } := rfl
def b89 : Code := mini (codeOf Try.f89)
def c89_23 : Code := .seq (codeN b89 38091) .ret
def c89_22 : Code := .cond (.tmp 15) c89_23 .skip
def c89_20 : Code := .seq (codeN b89 9419) c89_22
def r89_29 : Array Oper := regOps (codeN (codeOf Try.f89) 19659)
def c89_29 : Code := .region 7 r89_29 true
def q89_29 : List (Oper × Fl) := [(mv 16 4 3, ⟨true, true, true, false, true, false, true, true, false, false, []⟩),
 (op1 17 (.binOp .eql 3 (.tmp 16) (.const (.int .i64 0)) 3) 4, ⟨true, true, true, false, true, false, true, true, false, false, []⟩),
 (mv 18 17 4, ⟨true, true, true, false, true, false, true, true, false, false, []⟩),
 (mk (some 19) (.move (.tmp 0)) 26 (some (2, false)), ⟨true, false, true, false, false, false, true, true, false, false, []⟩),
 (mk (some 20) (.move (.tmp 4)) 3 (some (2, false)), ⟨true, false, true, false, false, false, true, true, false, false, []⟩),
 (mk (some 21) (.binOp .sub 3 (.tmp 20) (.const (.int .i64 1)) 3) 3 (some (2, false)), ⟨true, false, true, false, false, false, true, true, false, false, []⟩),
 (mk (some 22) (.indexAddr 26 (.tmp 19) (.tmp 21)) 0 (some (2, false)), ⟨true, false, true, false, false, false, true, true, false, false, []⟩),
 (mk (some 23) (.fieldAddr 31 (.tmp 22) 0) 0 (some (2, false)), ⟨true, false, true, false, false, false, true, true, false, false, []⟩),
 (mk (some 24) (.load 3 (.tmp 23)) 3 (some (2, false)), ⟨true, false, true, false, false, false, true, true, false, false, []⟩),
 (mk (some 25) (.fieldAddr 31 (.tmp 5) 0) 0 (some (2, false)), ⟨true, false, true, false, true, false, true, true, false, false, []⟩),
 (mk (some 26) (.load 3 (.tmp 25)) 3 (some (2, false)), ⟨true, false, true, false, true, false, true, true, false, false, []⟩),
 (mk (some 27) (.binOp .lss 3 (.tmp 24) (.tmp 26) 3) 4 (some (2, false)), ⟨true, false, true, false, true, false, true, true, false, false, []⟩),
 (op1 28 (.pick (.tmp 18) (.const (.bool true)) (.tmp 27)) 4, ⟨true, false, true, false, true, false, true, true, false, false, []⟩)]
def c89_31 : Code := .seq (codeN b89 77003) (.exit 1)
def c89_30 : Code := .cond (.tmp 28) c89_31 .skip
def c89_28 : Code := .seq c89_29 c89_30
def r89_38 : Array Oper := regOps (codeN (codeOf Try.f89) 48331)
def c89_38 : Code := .region 10 r89_38 true
def q89_38 : List (Oper × Fl) := [(mv 31 0 26, ⟨true, false, true, false, false, false, true, true, false, false, []⟩),
 (mv 32 4 3, ⟨true, false, true, false, false, false, true, true, false, false, []⟩),
 (op1 33 (.binOp .sub 3 (.tmp 32) (.const (.int .i64 1)) 3) 3, ⟨true, false, true, false, false, false, true, true, false, false, []⟩),
 (ixa 34 26 31 33 0, ⟨true, false, true, false, false, false, true, true, false, false, []⟩),
 (op1 35 (.fieldAddr 31 (.tmp 34) 0) 0, ⟨true, false, true, false, false, false, true, true, false, false, []⟩),
 (ld 36 3 35 3, ⟨true, false, true, false, false, false, true, true, false, false, []⟩),
 (op1 37 (.fieldAddr 31 (.tmp 5) 0) 0, ⟨true, false, true, false, false, false, true, true, false, false, []⟩),
 (ld 38 3 37 3, ⟨true, false, true, false, false, false, true, true, false, false, []⟩),
 (bop 39 .gtr 3 36 38 3 4, ⟨true, false, true, false, true, false, true, true, false, false, []⟩),
 (mv 40 39 4, ⟨true, false, true, false, true, false, true, true, false, false, []⟩),
 (mk (some 41) (.move (.tmp 0)) 26 (some (9, false)), ⟨true, false, true, false, false, false, true, true, false, false, []⟩),
 (mk (some 42) (.move (.tmp 4)) 3 (some (9, false)), ⟨true, false, true, false, false, false, true, true, false, false, []⟩),
 (mk (some 43) (.binOp .sub 3 (.tmp 42) (.const (.int .i64 1)) 3) 3 (some (9, false)), ⟨true, false, true, false, false, false, true, true, false, false, []⟩),
 (mk (some 44) (.indexAddr 26 (.tmp 41) (.tmp 43)) 0 (some (9, false)), ⟨true, false, true, false, false, false, true, true, false, false, []⟩),
 (mk (some 45) (.fieldAddr 31 (.tmp 44) 2) 0 (some (9, false)), ⟨true, false, true, false, false, false, true, true, false, false, []⟩),
 (mk (some 46) (.load 3 (.tmp 45)) 3 (some (9, false)), ⟨true, false, true, false, false, false, true, true, false, false, []⟩),
 (mk (some 47) (.fieldAddr 31 (.tmp 5) 2) 0 (some (9, false)), ⟨true, false, true, false, false, false, true, true, false, false, []⟩),
 (mk (some 48) (.load 3 (.tmp 47)) 3 (some (9, false)), ⟨true, false, true, false, false, false, true, true, false, false, []⟩),
 (mk (some 49) (.binOp .geq 3 (.tmp 46) (.tmp 48) 3) 4 (some (9, false)), ⟨true, false, true, false, true, false, true, true, false, false, []⟩),
 (op1 50 (.pick (.tmp 40) (.const (.bool true)) (.tmp 49)) 4, ⟨true, false, true, false, true, false, true, true, false, false, []⟩),
 (mv 51 50 4, ⟨true, false, true, false, true, false, true, true, false, false, []⟩),
 (mk (some 52) (.move (.tmp 0)) 26 (some (20, false)), ⟨true, false, true, false, false, false, true, true, false, false, []⟩),
 (mk (some 53) (.move (.tmp 4)) 3 (some (20, false)), ⟨true, false, true, false, false, false, true, true, false, false, []⟩),
 (mk (some 54) (.binOp .sub 3 (.tmp 53) (.const (.int .i64 1)) 3) 3 (some (20, false)), ⟨true, false, true, false, false, false, true, true, false, false, []⟩),
 (mk (some 55) (.indexAddr 26 (.tmp 52) (.tmp 54)) 0 (some (20, false)), ⟨true, false, true, false, false, false, true, true, false, false, []⟩),
 (mk (some 56) (.fieldAddr 31 (.tmp 55) 1) 0 (some (20, false)), ⟨true, false, true, false, false, false, true, true, false, false, []⟩),
 (mk (some 57) (.load 3 (.tmp 56)) 3 (some (20, false)), ⟨true, false, true, false, false, false, true, true, false, false, []⟩),
 (mk (some 58) (.fieldAddr 31 (.tmp 5) 1) 0 (some (20, false)), ⟨true, false, true, false, false, false, true, true, false, false, []⟩),
 (mk (some 59) (.load 3 (.tmp 58)) 3 (some (20, false)), ⟨true, false, true, false, true, false, true, true, false, false, []⟩),
 (mk (some 60) (.binOp .neq 3 (.tmp 57) (.tmp 59) 3) 4 (some (20, false)), ⟨true, false, true, false, true, false, true, true, false, false, []⟩),
 (op1 61 (.pick (.tmp 51) (.const (.bool true)) (.tmp 60)) 4, ⟨true, false, true, false, true, false, true, true, false, false, []⟩),
 (mv 62 61 4, ⟨true, false, true, false, true, false, true, true, false, false, []⟩),
 (mk (some 63) (.move (.tmp 3)) 3 (some (31, false)), ⟨true, false, true, false, true, false, true, true, false, false, []⟩),
 (mk (some 64) (.binOp .gtr 3 (.tmp 63) (.const (.int .i64 3)) 3) 4 (some (31, false)), ⟨true, false, true, false, true, false, true, true, false, false, []⟩),
 (op1 65 (.pick (.tmp 62) (.const (.bool true)) (.tmp 64)) 4, ⟨true, false, true, false, true, false, true, true, false, false, []⟩)]
def c89_40 : Code := .seq (codeN b89 163019) .ret
def c89_39 : Code := .cond (.tmp 65) c89_40 .skip
def c89_37 : Code := .seq c89_38 c89_39
def c89_35 : Code := .seq (codeN b89 23755) c89_37
def c89_27 : Code := .seq c89_28 c89_35
def c89_19 : Code := .seq c89_20 c89_27
def c89_17 : Code := .seq (codeN b89 2251) c89_19
def c89_44 : Code := codeN b89 971
def c89_15 : Code := .seq (.block 1 c89_17) c89_44
def c89_11 : Code := .seq (.cond (.tmp 9) .skip (.exit 0)) c89_15
def c89_9 : Code := .seq (codeN b89 139) c89_11
def c89_8 : Code := .loop c89_9
def c89_7 : Code := .block 0 c89_8
def c89_5 : Code := .seq (codeN b89 19) c89_7
def c89_45 : Code := .seq (codeN b89 23) .ret
def c89_4 : Code := .seq c89_5 c89_45
def c89_2 : Code := .seq (codeN b89 5) c89_4
def c89_0 : Code := .seq (codeN b89 2) c89_2
theorem E89 : evK gS fi89 c89_23 fr st k = opsR gS fi89 [op1 2 (.assign (.const (.bool false))) 4] fr st (.seq .ret k) ∧
 evK gS fi89 c89_22 fr st k = condK gS fi89 (fr.op (.tmp 15)).bool? c89_23 .skip fr st k ∧
 (evK gS fi89 c89_20 fr st k = opsR gS fi89 [ld 13 31 5 31,
 cal 14 111 [(.tmp 13)] [31] 4,
 op1 15 (.unOp .not 4 (.tmp 14)) 4] fr st (.seq c89_22 k)) ∧
 evK gS fi89 c89_29 fr st k = drwR gS fi89 r89_29 q89_29 fr st k ∧
 evK gS fi89 c89_31 fr st k = opsR gS fi89 [op1 3 (.assign (.const (.int .i64 1))) 3] fr st (.seq (.exit 1) k) ∧
 evK gS fi89 c89_30 fr st k = condK gS fi89 (fr.op (.tmp 28)).bool? c89_31 .skip fr st k ∧
 evK gS fi89 c89_28 fr st k = evK gS fi89 c89_29 fr st (.seq c89_30 k) ∧
 evK gS fi89 c89_38 fr st k = drwR gS fi89 r89_38 q89_38 fr st k ∧
 evK gS fi89 c89_40 fr st k = opsR gS fi89 [op1 2 (.assign (.const (.bool false))) 4] fr st (.seq .ret k) ∧
 evK gS fi89 c89_39 fr st k = condK gS fi89 (fr.op (.tmp 65)).bool? c89_40 .skip fr st k ∧
 evK gS fi89 c89_37 fr st k = evK gS fi89 c89_38 fr st (.seq c89_39 k) ∧
 (evK gS fi89 c89_35 fr st k = opsR gS fi89 [mv 29 3 3,
 op1 30 (.binOp .add 3 (.tmp 29) (.const (.int .i64 1)) 3) 3,
 asn 3 30 3] fr st (.seq c89_37 k)) ∧
 evK gS fi89 c89_27 fr st k = evK gS fi89 c89_28 fr st (.seq c89_35 k) ∧
 evK gS fi89 c89_19 fr st k = evK gS fi89 c89_20 fr st (.seq c89_27 k) ∧
 (evK gS fi89 c89_17 fr st k = opsR gS fi89 [mv 10 8 3,
 ixa 11 26 6 8 0,
 ld 12 31 11 31,
 op1 5 (.alloc 31) 0,
 asn 4 10 3,
 sto 31 5 12] fr st (.seq c89_19 k)) ∧
 (evK gS fi89 c89_44 fr st k = opsR gS fi89 [op1 66 (.binOp .add 3 (.tmp 8) (.const (.int .i64 1)) 3) 3,
 mv 8 66 3] fr st k) ∧
 evK gS fi89 c89_15 fr st k = evK gS fi89 c89_17 fr st (.blk 1 (.seq c89_44 k)) ∧
 evK gS fi89 c89_11 fr st k = condK gS fi89 (fr.op (.tmp 9)).bool? .skip (.exit 0) fr st (.seq c89_15 k) ∧
 evK gS fi89 c89_9 fr st k = opsR gS fi89 [bop 9 .lss 3 8 7 3 0] fr st (.seq c89_11 k) ∧
 evK gS fi89 c89_7 fr st k = evK gS fi89 c89_8 fr st (.blk 0 k) ∧
 (evK gS fi89 c89_5 fr st k = opsR gS fi89 [mv 6 0 26,
 len1 7 6 26 3,
 op1 8 (.move (.const (.int .i64 0))) 3] fr st (.seq c89_7 k)) ∧
 evK gS fi89 c89_45 fr st k = opsR gS fi89 [op1 2 (.assign (.const (.bool true))) 4] fr st (.seq .ret k) ∧
 evK gS fi89 c89_4 fr st k = evK gS fi89 c89_5 fr st (.seq c89_45 k) ∧
 evK gS fi89 c89_2 fr st k = opsR gS fi89 [op1 3 (.assign (.const (.int .i64 0))) 3] fr st (.seq c89_4 k) ∧
 evK gS fi89 c89_0 fr st k = opsR gS fi89 [op1 2 (.assign (.const (.bool false))) 4] fr st (.seq c89_2 k) := ⟨evK_rs 6 rfl (by kernel_rfl), rfl, evK_rs 5 rfl (by kernel_rfl), evK_dr 7 rfl (by kernel_rfl) (by kernel_rfl), evK_rs 8 rfl (by kernel_rfl), rfl, rfl, evK_dr 10 rfl (by kernel_rfl) (by kernel_rfl), evK_rs 11 rfl (by kernel_rfl), rfl, rfl, evK_rs 9 rfl (by kernel_rfl), rfl, rfl, evK_rs 4 rfl (by kernel_rfl), evK_r 12 (by kernel_rfl), rfl, rfl, evK_rs 3 rfl (by kernel_rfl), rfl, evK_rs 2 rfl (by kernel_rfl), evK_rs 13 rfl (by kernel_rfl), rfl, evK_rs 1 rfl (by kernel_rfl), evK_rs 0 rfl (by kernel_rfl)⟩
theorem m89 : mini fi89.body = c89_0 := by kernel_rfl
theorem n89_8 (fr : Fr) (st : St) (k : Kt) : nextK gS fi89 (.loop c89_9 k) .normal fr st = evK gS fi89 c89_8 fr st k := rfl
theorem prev_succ {l : List Sub} {i : Nat} {x : Sub} (h : l[i]? = some x) : prevS l (i + 1) = some x := by unfold prevS; rw [if_neg (by omega), Nat.add_sub_cancel]; exact h
set_option maxHeartbeats 8000000 in
theorem L89 (l : List Sub) (hl1 : ∀ s ∈ l, POk s.filter) (hl2 : l.length < 1000000) (st : St) : ∀ (m i : Nat) (many : Int) (e4 e5 : E) (T : List (Nat × E)) (X : List (Nat × List V)), e4.Tame → e5 = .any ∨ e5 = .lp 5 0 → 0 ≤ many → many ≤ i → i ≤ l.length → l.length - i = m →
    evK gS fi89 c89_8 { ps := [(0, .val (.slice (encSubs l))), (2, .val (.bool false)), (3, .val (.int .i64 many)), (4, e4), (5, e5), (6, .val (.slice (encSubs l))), (7, .val (.int .i64 l.length)), (8, .val (.int .i64 (i : Nat)))], ts := T, lc := X } st (.blk 0 (.seq c89_45 .nil)) = some (.ret (.bool (rsG (prevS l i) many (l.drop i))) none, st) := by
  intro m
  have hm : fi89.marks = [] := rfl
  have hl : fi89.locals = [5] := rfl
  have hr : fi89.results = [.tmp 2] := rfl
  induction m with
  | zero =>
    intro i many e4 e5 T X h4 h5 hm0 hm1 hi hm2
    obtain rfl : i = l.length := by omega
    rw [List.drop_length, show rsG (prevS l l.length) many [] = true from by cases prevS l l.length <;> rfl]
    refine evK_loop c89_9 _ _ _ _ rfl ?_
    rcases h5 with rfl | rfl <;> simp [h4, -Int.not_le, -Int.not_lt, -Nat.not_le, -Nat.not_lt, ty3, ty4, ty26, ty31, hm, hl, hr, x111, fi211_eq, p111, E89, q89_29, q89_38, n89_8]
  | succ m ih =>
    intro i many e4 e5 T X h4 h5 hm0 hm1 hi hm2
    obtain ⟨x, hx⟩ : ∃ x, l[i]? = some x := ⟨l[i]'(by omega), List.getElem?_eq_getElem (by omega)⟩
    have hlt : (i : Int) < (l.length : Int) := by omega
    obtain ⟨hlt2, hxe⟩ := List.getElem?_eq_some_iff.1 hx
    have hw : IntKind.wrap .i64 ((i : Int) + 1) = ((i + 1 : Nat) : Int) := by rw [wrap64 (by omega) (by omega)]; omega
    have hwm : IntKind.wrap .i64 (many + 1) = many + 1 := by rw [wrap64 (by omega) (by omega)]
    have hxo := hl1 x (List.mem_of_getElem? hx)
    have kk := fun fr st => k111 x.client x.broker x.num x.filter hxo fr st
    rw [show mayS ⟨x.client, x.broker, x.num, x.filter⟩ = mayS x from rfl] at kk
    have IH := fun many e4 e5 T X h4 h5 hm0 hm1 => ih (i + 1) many e4 e5 T X h4 h5 hm0 hm1 (by omega) (by omega)
    rw [prev_succ hx] at IH
    rw [drop_get hx]
    generalize hD : l.drop (i + 1) = D at *
    cases i with
    | zero =>
      rw [show prevS l 0 = none from rfl, show rsG none many (x :: D) = (mayS x && rsG (some x) 1 D) from rfl]
      generalize mayS x = t at *
      refine evK_loop c89_9 _ _ _ _ rfl ?_
      cases t with
      | false => rcases h5 with rfl | rfl <;> simp [-Int.natCast_add, h4, hx, hxe, hlt, hlt2, kk, -Int.not_le, -Int.not_lt, -Nat.not_le, -Nat.not_lt, ty3, ty4, ty26, ty31, hm, hl, hr, x111, fi211_eq, p111, E89, q89_29, q89_38, n89_8]
      | true =>
        have I1 := fun e4 e5 T X h4 h5 => IH 1 e4 e5 T X h4 h5 (by omega) (by omega)
        rw [show ((0 : Nat) : Int) = 0 from rfl] at *
        rcases h5 with rfl | rfl
        · simp [-Int.natCast_add, h4, hx, hxe, hlt, hlt2, kk, hw, -Int.not_le, -Int.not_lt, -Nat.not_le, -Nat.not_lt, ty3, ty4, ty26, ty31, hm, hl, hr, x111, fi211_eq, p111, E89, q89_29, q89_38, n89_8]
          exact I1 _ _ _ _ (tame_val _) (.inr rfl)
        · simp [-Int.natCast_add, h4, hx, hxe, hlt, hlt2, kk, hw, -Int.not_le, -Int.not_lt, -Nat.not_le, -Nat.not_lt, ty3, ty4, ty26, ty31, hm, hl, hr, x111, fi211_eq, p111, E89, q89_29, q89_38, n89_8]
          exact I1 _ _ _ _ (tame_val _) (.inr rfl)
    | succ k =>
      obtain ⟨y, hy⟩ : ∃ y, l[k]? = some y := ⟨l[k]'(by omega), List.getElem?_eq_getElem (by omega)⟩
      obtain ⟨hlk, hye⟩ := List.getElem?_eq_some_iff.1 hy
      have hltk : (k : Int) < (l.length : Int) := by omega
      have hwk : IntKind.wrap .i64 (((k + 1 : Nat) : Int) - 1) = (k : Int) := by rw [wrap64 (by omega) (by omega)]; omega
      have hne : ¬ ((k + 1 : Nat) : Int) = 0 := by omega
      rw [prev_succ hy, show rsG (some y) many (x :: D) = (mayS x && (if y.client < x.client then rsG (some x) 1 D else !(decide (x.client < y.client) || decide (x.num ≤ y.num) || !decide (y.broker = x.broker) || decide (3 < many + 1)) && rsG (some x) (many + 1) D)) from rfl]
      generalize mayS x = t at *
      have I1 := fun e4 e5 T X h4 h5 => IH 1 e4 e5 T X h4 h5 (by omega) (by omega)
      have I2 := fun e4 e5 T X h4 h5 => IH (many + 1) e4 e5 T X h4 h5 (by omega) (by omega)
      clear IH ih
      refine evK_loop c89_9 _ _ _ _ rfl ?_
      cases t with
      | false => rcases h5 with rfl | rfl <;> simp [-Int.natCast_add, h4, hx, hxe, hlt, hlt2, kk, -Int.not_le, -Int.not_lt, -Nat.not_le, -Nat.not_lt, ty3, ty4, ty26, ty31, hm, hl, hr, x111, fi211_eq, p111, E89, q89_29, q89_38, n89_8]
      | true =>
        by_cases c1 : y.client < x.client
        · rw [if_pos c1]
          rcases h5 with rfl | rfl
          · simp [-Int.natCast_add, h4, hx, hxe, hlt, hlt2, hy, hye, hlk, hltk, hwk, hne, c1, kk, hw, -Int.not_le, -Int.not_lt, -Nat.not_le, -Nat.not_lt, ty3, ty4, ty26, ty31, hm, hl, hr, x111, fi211_eq, p111, E89, q89_29, q89_38, n89_8]
            exact I1 _ _ _ _ (tame_val _) (.inr rfl)
          · simp [-Int.natCast_add, h4, hx, hxe, hlt, hlt2, hy, hye, hlk, hltk, hwk, hne, c1, kk, hw, -Int.not_le, -Int.not_lt, -Nat.not_le, -Nat.not_lt, ty3, ty4, ty26, ty31, hm, hl, hr, x111, fi211_eq, p111, E89, q89_29, q89_38, n89_8]
            exact I1 _ _ _ _ (tame_val _) (.inr rfl)
        · rw [if_neg c1]
          by_cases c2 : x.client < y.client
          · rcases h5 with rfl | rfl <;> simp [-Int.natCast_add, h4, hx, hxe, hlt, hlt2, hy, hye, hlk, hltk, hwk, hne, c1, c2, kk, hw, hwm, -Int.not_le, -Int.not_lt, -Nat.not_le, -Nat.not_lt, ty3, ty4, ty26, ty31, hm, hl, hr, x111, fi211_eq, p111, E89, q89_29, q89_38, n89_8]
          · by_cases c3 : x.num ≤ y.num
            · rcases h5 with rfl | rfl <;> simp [-Int.natCast_add, h4, hx, hxe, hlt, hlt2, hy, hye, hlk, hltk, hwk, hne, c1, c2, c3, kk, hw, hwm, -Int.not_le, -Int.not_lt, -Nat.not_le, -Nat.not_lt, ty3, ty4, ty26, ty31, hm, hl, hr, x111, fi211_eq, p111, E89, q89_29, q89_38, n89_8]
            · by_cases c4 : y.broker = x.broker
              · by_cases c5 : 3 < many + 1
                · rcases h5 with rfl | rfl <;> simp [-Int.natCast_add, h4, hx, hxe, hlt, hlt2, hy, hye, hlk, hltk, hwk, hne, c1, c2, c3, c4, c5, kk, hw, hwm, -Int.not_le, -Int.not_lt, -Nat.not_le, -Nat.not_lt, ty3, ty4, ty26, ty31, hm, hl, hr, x111, fi211_eq, p111, E89, q89_29, q89_38, n89_8]
                · rcases h5 with rfl | rfl
                  · simp [-Int.natCast_add, h4, hx, hxe, hlt, hlt2, hy, hye, hlk, hltk, hwk, hne, c1, c2, c3, c4, c5, kk, hw, hwm, -Int.not_le, -Int.not_lt, -Nat.not_le, -Nat.not_lt, ty3, ty4, ty26, ty31, hm, hl, hr, x111, fi211_eq, p111, E89, q89_29, q89_38, n89_8]
                    exact I2 _ _ _ _ (tame_val _) (.inr rfl)
                  · simp [-Int.natCast_add, h4, hx, hxe, hlt, hlt2, hy, hye, hlk, hltk, hwk, hne, c1, c2, c3, c4, c5, kk, hw, hwm, -Int.not_le, -Int.not_lt, -Nat.not_le, -Nat.not_lt, ty3, ty4, ty26, ty31, hm, hl, hr, x111, fi211_eq, p111, E89, q89_29, q89_38, n89_8]
                    exact I2 _ _ _ _ (tame_val _) (.inr rfl)
              · rcases h5 with rfl | rfl <;> simp [-Int.natCast_add, h4, hx, hxe, hlt, hlt2, hy, hye, hlk, hltk, hwk, hne, c1, c2, c3, c4, kk, hw, hwm, -Int.not_le, -Int.not_lt, -Nat.not_le, -Nat.not_lt, ty3, ty4, ty26, ty31, hm, hl, hr, x111, fi211_eq, p111, E89, q89_29, q89_38, n89_8]
set_option maxHeartbeats 8000000 in
theorem c89 (l : List Sub) (hl1 : ∀ s ∈ l, POk s.filter) (hl2 : l.length < 1000000) (st : St) : EvF gS 89 [.slice (encSubs l)] st = some (.ret (.bool (rightS l)) none, st) := by
  refine EvF_start fi212_eq (fun x h => by cases h) m89 ?_
  rw [st89]
  have hm : fi89.marks = [] := rfl
  have hl : fi89.locals = [5] := rfl
  have hr : fi89.results = [.tmp 2] := rfl
  have LL := fun e4 e5 T X h4 h5 => L89 l hl1 hl2 st l.length 0 0 e4 e5 T X h4 h5 (by omega) (by omega) (Nat.zero_le _) rfl
  rw [show ((0 : Nat) : Int) = 0 from rfl, show rsG (prevS l 0) 0 (l.drop 0) = rightS l from rfl] at LL
  simp [-Int.not_le, -Int.not_lt, -Nat.not_le, -Nat.not_lt, ty3, ty4, ty26, ty31, hm, hl, hr, x111, fi211_eq, p111, E89, q89_29, q89_38, n89_8]
  refine LL _ _ _ _ ?_ (.inl rfl)
  all_goals simp
theorem k89 (l : List Sub) (hl1 : ∀ s ∈ l, POk s.filter) (hl2 : l.length < 1000000) (fr : Fr) (st : St) : callStep gS (EvF gS) 89 [.slice (encSubs l)] fr st = some (.ok (.val (.bool (rightS l))) fr st) :=
  call_pure rfl fi212_eq rfl (fun st => c89 l hl1 hl2 st) (by simp [V.flat])
end
end Go.Proofs.Ytdoobejjedpcgaa
namespace Go.Proofs.Ytdoobejjedpcgaa
open Go Go.Ab
set_option linter.unusedVariables false
set_option linter.unusedSimpArgs false
set_option linter.unnecessarySimpa false
set_option maxRecDepth 20000
noncomputable section
variable (fr : Fr) (st : St) (k : Kt)
def fi59 : FI := { body := codeOf Try.f59, ntmps := 37, results := [.cell 4 96, .tmp 5], pers := [0, 1, 4, 5, 6, 8, 18, 19, 20], locals := [4, 6, 8], pure := true, marks := [] }
theorem fi215_eq : gS.fn 59 = some fi59 := by kernel_rfl
theorem st59 (a0 a1 : V) : startFr fi59 [a0, a1] = { ps := [(0, .val a0), (1, .val a1), (4, .any), (5, .any), (6, .any), (8, .any), (18, .any), (19, .any), (20, .any)], ts := [], lc := [] } := rfl
def b59 : Code := mini (codeOf Try.f59)
def c59_8 : Code := .seq (codeN b59 75) .ret
def c59_7 : Code := .cond (.tmp 16) c59_8 .skip
def c59_5 : Code := .seq (codeN b59 19) c59_7
def c59_31 : Code := .seq (codeN b59 76183) .ret
def c59_30 : Code := .cond (.tmp 28) c59_31 .skip
def c59_28 : Code := .seq (codeN b59 18839) c59_30
def c59_35 : Code := codeN b59 14743
def c59_27 : Code := .seq c59_28 c59_35
def c59_25 : Code := .seq (codeN b59 4503) c59_27
def c59_36 : Code := codeN b59 1943
def c59_23 : Code := .seq (.block 1 c59_25) c59_36
def c59_19 : Code := .seq (.cond (.tmp 21) .skip (.exit 0)) c59_23
def c59_17 : Code := .seq (codeN b59 279) c59_19
def c59_16 : Code := .loop c59_17
def c59_15 : Code := .block 0 c59_16
def c59_13 : Code := .seq (codeN b59 39) c59_15
def c59_37 : Code := .seq (codeN b59 47) .ret
def c59_12 : Code := .seq c59_13 c59_37
def c59_4 : Code := .seq c59_5 c59_12
def c59_2 : Code := .seq (codeN b59 5) c59_4
def c59_0 : Code := .seq (codeN b59 2) c59_2
theorem E59 : (evK gS fi59 c59_8 fr st k = opsR gS fi59 [ld 17 96 6 96,
 sto 96 4 17,
 op1 5 (.assign (.const (.bool false))) 4] fr st (.seq .ret k)) ∧
 evK gS fi59 c59_7 fr st k = condK gS fi59 (fr.op (.tmp 16)).bool? c59_8 .skip fr st k ∧
 (evK gS fi59 c59_5 fr st k = opsR gS fi59 [mv 9 0 22,
 cal 10 88 [(.tmp 9)] [22] 4,
 op1 11 (.unOp .not 4 (.tmp 10)) 4,
 mv 12 11 4,
 mk (some 13) (.move (.tmp 1)) 26 (some (3, false)),
 mk (some 14) (.call { callee := (.value (.func 89)), args := #[(.tmp 13)], argTypes := #[26] }) 4 (some (3, false)),
 mk (some 15) (.unOp .not 4 (.tmp 14)) 4 (some (3, false)),
 op1 16 (.pick (.tmp 12) (.const (.bool true)) (.tmp 15)) 4] fr st (.seq c59_7 k)) ∧
 (evK gS fi59 c59_31 fr st k = opsR gS fi59 [ld 29 96 6 96,
 sto 96 4 29,
 op1 5 (.assign (.const (.bool false))) 4] fr st (.seq .ret k)) ∧
 evK gS fi59 c59_30 fr st k = condK gS fi59 (fr.op (.tmp 28)).bool? c59_31 .skip fr st k ∧
 (evK gS fi59 c59_28 fr st k = opsR gS fi59 [op1 24 (.fieldAddr 31 (.tmp 8) 1) 0,
 ld 25 3 24 3,
 mv 26 0 22,
 len1 27 26 22 3,
 bop 28 .gtr 3 25 27 3 4] fr st (.seq c59_30 k)) ∧
 (evK gS fi59 c59_35 fr st k = opsR gS fi59 [op1 30 (.fieldAddr 31 (.tmp 8) 0) 0,
 ld 31 3 30 3,
 op1 32 (.fieldAddr 31 (.tmp 8) 1) 0,
 ld 33 3 32 3,
 ixa 34 96 6 31 0,
 sto 3 34 33] fr st k) ∧
 evK gS fi59 c59_27 fr st k = evK gS fi59 c59_28 fr st (.seq c59_35 k) ∧
 (evK gS fi59 c59_25 fr st k = opsR gS fi59 [ixa 22 26 18 20 0,
 ld 23 31 22 31,
 op1 8 (.alloc 31) 0,
 sto 31 8 23] fr st (.seq c59_27 k)) ∧
 (evK gS fi59 c59_36 fr st k = opsR gS fi59 [op1 35 (.binOp .add 3 (.tmp 20) (.const (.int .i64 1)) 3) 3,
 mv 20 35 3] fr st k) ∧
 evK gS fi59 c59_23 fr st k = evK gS fi59 c59_25 fr st (.blk 1 (.seq c59_36 k)) ∧
 evK gS fi59 c59_19 fr st k = condK gS fi59 (fr.op (.tmp 21)).bool? .skip (.exit 0) fr st (.seq c59_23 k) ∧
 evK gS fi59 c59_17 fr st k = opsR gS fi59 [bop 21 .lss 3 20 19 3 0] fr st (.seq c59_19 k) ∧
 evK gS fi59 c59_15 fr st k = evK gS fi59 c59_16 fr st (.blk 0 k) ∧
 (evK gS fi59 c59_13 fr st k = opsR gS fi59 [mv 18 1 26,
 len1 19 18 26 3,
 op1 20 (.move (.const (.int .i64 0))) 3] fr st (.seq c59_15 k)) ∧
 (evK gS fi59 c59_37 fr st k = opsR gS fi59 [ld 36 96 6 96,
 sto 96 4 36,
 op1 5 (.assign (.const (.bool true))) 4] fr st (.seq .ret k)) ∧
 evK gS fi59 c59_12 fr st k = evK gS fi59 c59_13 fr st (.seq c59_37 k) ∧
 evK gS fi59 c59_4 fr st k = evK gS fi59 c59_5 fr st (.seq c59_12 k) ∧
 evK gS fi59 c59_2 fr st k = opsR gS fi59 [op1 6 (.alloc 96) 0] fr st (.seq c59_4 k) ∧
 (evK gS fi59 c59_0 fr st k = opsR gS fi59 [op1 4 (.alloc 96) 0,
 op1 5 (.assign (.const (.bool false))) 4] fr st (.seq c59_2 k)) := ⟨evK_rs 3 rfl (by kernel_rfl), rfl, evK_rs 2 rfl (by kernel_rfl), evK_rs 8 rfl (by kernel_rfl), rfl, evK_rs 7 rfl (by kernel_rfl), evK_r 9 (by kernel_rfl), rfl, evK_rs 6 rfl (by kernel_rfl), evK_r 10 (by kernel_rfl), rfl, rfl, evK_rs 5 rfl (by kernel_rfl), rfl, evK_rs 4 rfl (by kernel_rfl), evK_rs 11 rfl (by kernel_rfl), rfl, rfl, evK_rs 1 rfl (by kernel_rfl), evK_rs 0 rfl (by kernel_rfl)⟩
theorem m59 : mini fi59.body = c59_0 := by kernel_rfl
theorem n59_16 (fr : Fr) (st : St) (k : Kt) : nextK gS fi59 (.loop c59_17 k) .normal fr st = evK gS fi59 c59_16 fr st k := rfl
theorem ints_splice {hm : List Int} {k : Nat} (h : k < hm.length) (b : Int) : splice (intVs hm) k [.int .i64 b] = some (intVs (hm.set k b)) := by
  unfold splice
  rw [if_pos (by simp; omega), intVs, intVs, List.map_set, List.set_eq_take_append_cons_drop, if_pos (by simp; omega)]
  simp
set_option maxHeartbeats 8000000 in
theorem L59 (p : List Int) (hp1 : p.length < 1000) (l : List Sub) (hl1 : ∀ s ∈ l, mayS s = true) (hl2 : l.length < 1000000) (st : St) : ∀ (m i : Nat) (hm0 : List Int) (e8 : E) (T : List (Nat × E)) (X : List (Nat × List V)), hm0.length = 7 → e8 = .any ∨ e8 = .lp 8 0 → (∃ z : List Int, z.length = 7 ∧ lk X 4 = some (intVs z)) → lk X 6 = some (intVs hm0) → i ≤ l.length → l.length - i = m →
    evK gS fi59 c59_16 { ps := [(0, .val (.slice (intVs p))), (1, .val (.slice (encSubs l))), (4, .lp 4 0), (5, .val (.bool false)), (6, .lp 6 0), (8, e8), (18, .val (.slice (encSubs l))), (19, .val (.int .i64 l.length)), (20, .val (.int .i64 (i : Nat)))], ts := T, lc := X } st (.blk 0 (.seq c59_37 .nil)) = some (.ret (.tuple [.agg (intVs (homesG p (l.drop i) hm0).1), .bool (homesG p (l.drop i) hm0).2]) none, st) := by
  intro m
  have hm : fi59.marks = [] := rfl
  have hl : fi59.locals = [4, 6, 8] := rfl
  have hr : fi59.results = [.cell 4 96, .tmp 5] := rfl
  induction m with
  | zero =>
    intro i hm0 e8 T X hh h8 h4 h6 hi hm2
    obtain ⟨z, hz, hz4⟩ := h4
    obtain rfl : i = l.length := by omega
    rw [List.drop_length, show homesG p [] hm0 = (hm0, true) from rfl]
    have f1 : (intVs hm0).length = 7 := by simp [hh]
    have f2 : (intVs z).length = 7 := by simp [hz]
    have f3 : (intVs hm0).take 7 = intVs hm0 := List.take_of_length_le (by simp [hh])
    have f4 := ints_strip hm0
    have f5 := ints_one hm0
    have f6 : splice (intVs z) 0 (intVs hm0) = some (intVs hm0) := by unfold splice; rw [if_pos (by simp [hz, hh])]; simp [hz, hh]
    have f7 := fun s => frz_flat 6 s (.tuple [.agg (intVs hm0), .bool true]) (by simp [V.flat, flats])
    generalize intVs hm0 = H at *
    generalize intVs z = Z at *
    refine evK_loop c59_17 _ _ _ _ rfl ?_
    have f8 : ∀ a b c d e f g h : V, splice [a, b, c, d] 0 [e, f, g, h] = some [e, f, g, h] := fun _ _ _ _ _ _ _ _ => rfl
    rcases h8 with rfl | rfl <;> simp [-splice, f8, f1, f2, f3, f4, f5, f6, hz4, h6, lk_lset_self _ _ _ _ hz4, -Int.not_le, -Int.not_lt, -Nat.not_le, -Nat.not_lt, ty3, ty4, ty22, ty26, ty31, ty96, hm, hl, hr, E59, n59_16]
  | succ m ih =>
    intro i hm0 e8 T X hh h8 h4 h6 hi hm2
    obtain ⟨x, hx⟩ : ∃ x, l[i]? = some x := ⟨l[i]'(by omega), List.getElem?_eq_getElem (by omega)⟩
    have hlt : (i : Int) < (l.length : Int) := by omega
    obtain ⟨hlt2, hxe⟩ := List.getElem?_eq_some_iff.1 hx
    have hw : IntKind.wrap .i64 ((i : Int) + 1) = ((i + 1 : Nat) : Int) := by rw [wrap64 (by omega) (by omega)]; omega
    have hmx := may_client (hl1 x (List.mem_of_getElem? hx))
    obtain ⟨cl, hcl⟩ : ∃ cl : Nat, x.client = (cl : Int) := ⟨x.client.toNat, by omega⟩
    have c7 : cl < 7 := by omega
    have c7i : (cl : Int) < 7 := by omega
    rw [drop_get hx, show homesG p (x :: l.drop (i + 1)) hm0 = if (p.length : Int) < x.broker then (hm0, false) else homesG p (l.drop (i + 1)) (hm0.set x.client.toNat x.broker) from rfl]
    have hsp := ints_splice (hm := hm0) (k := cl) (by omega) x.broker
    rw [hcl, Int.toNat_natCast]
    have f8 : ∀ a b c d e f g h : V, splice [a, b, c, d] 0 [e, f, g, h] = some [e, f, g, h] := fun _ _ _ _ _ _ _ _ => rfl
    refine evK_loop c59_17 _ _ _ _ rfl ?_
    by_cases hb : (p.length : Int) < x.broker
    · rw [if_pos hb]
      obtain ⟨z, hz, hz4⟩ := h4
      have f1 : (intVs hm0).length = 7 := by simp [hh]
      have f2 : (intVs z).length = 7 := by simp [hz]
      have f3 : (intVs hm0).take 7 = intVs hm0 := List.take_of_length_le (by simp [hh])
      have f4 := ints_strip hm0
      have f5 := ints_one hm0
      have f6 : splice (intVs z) 0 (intVs hm0) = some (intVs hm0) := by unfold splice; rw [if_pos (by simp [hz, hh])]; simp [hz, hh]
      generalize intVs hm0 = H at *
      generalize intVs z = Z at *
      have g4 := lk_lset_self (X.filter fun x => !(x.1 == 8)) 4 Z H (by simp [hz4])
      rcases h8 with rfl | rfl <;> simp [-splice, f8, g4, -Int.natCast_add, hx, hxe, hlt, hlt2, hb, f1, f2, f3, f4, f5, f6, hz4, h6, hcl, -Int.not_le, -Int.not_lt, -Nat.not_le, -Nat.not_lt, ty3, ty4, ty22, ty26, ty31, ty96, hm, hl, hr, E59, n59_16]
    · rw [if_neg hb]
      have IH := fun e8 T X h8 h4 h6 => ih (i + 1) (hm0.set cl x.broker) e8 T X (by simpa using hh) h8 h4 h6 (by omega) (by omega)
      have f1 : (intVs hm0).length = 7 := by simp [hh]
      generalize intVs (hm0.set cl x.broker) = H2 at *
      generalize intVs hm0 = H at *
      rcases h8 with rfl | rfl
      · simp [-splice, f8, -Int.natCast_add, hx, hxe, hlt, hlt2, hb, f1, hsp, h6, hcl, c7, c7i, hw, -Int.not_le, -Int.not_lt, -Nat.not_le, -Nat.not_lt, ty3, ty4, ty22, ty26, ty31, ty96, hm, hl, hr, E59, n59_16]
        refine IH _ _ _ (.inr rfl) ?_ ?_
        · obtain ⟨z, hz, hz4⟩ := h4; exact ⟨z, hz, by simp [hz4]⟩
        · exact lk_lset_self (X.filter fun x => !(x.1 == 8)) 6 H H2 (by simp [h6])
      · simp [-splice, f8, -Int.natCast_add, hx, hxe, hlt, hlt2, hb, f1, hsp, h6, hcl, c7, c7i, hw, -Int.not_le, -Int.not_lt, -Nat.not_le, -Nat.not_lt, ty3, ty4, ty22, ty26, ty31, ty96, hm, hl, hr, E59, n59_16]
        refine IH _ _ _ (.inr rfl) ?_ ?_
        · obtain ⟨z, hz, hz4⟩ := h4; exact ⟨z, hz, by simp [hz4]⟩
        · exact lk_lset_self (X.filter fun x => !(x.1 == 8)) 6 H H2 (by simp [h6])
set_option maxHeartbeats 8000000 in
theorem c59 (p : List Int) (hp1 : p.length < 1000) (l : List Sub) (hl1 : ∀ s ∈ l, POk s.filter) (hl2 : l.length < 1000000) (st : St) : EvF gS 59 [.slice (intVs p), .slice (encSubs l)] st = some (.ret (.tuple [.agg (intVs (homesT p l).1), .bool (homesT p l).2]) none, st) := by
  refine EvF_start fi215_eq (fun x h => by cases h) m59 ?_
  rw [st59]
  have hm : fi59.marks = [] := rfl
  have hl : fi59.locals = [4, 6, 8] := rfl
  have hr : fi59.results = [.cell 4 96, .tmp 5] := rfl
  have k1 := fun fr st => k88 p (by omega) fr st
  have k2 := fun fr st => k89 l hl1 hl2 fr st
  unfold homesT
  have hz0 : intVs home0 = [.int .i64 0, .int .i64 0, .int .i64 0, .int .i64 0, .int .i64 0, .int .i64 0, .int .i64 0] := rfl
  cases h1 : rightT p with
  | false => rw [h1] at k1; simp [k1, hz0, -Int.not_le, -Int.not_lt, -Nat.not_le, -Nat.not_lt, ty3, ty4, ty22, ty26, ty31, ty96, hm, hl, hr, E59, n59_16]
  | true =>
    cases h2 : rightS l with
    | false => rw [h1] at k1; rw [h2] at k2; simp [k1, k2, hz0, -Int.not_le, -Int.not_lt, -Nat.not_le, -Nat.not_lt, ty3, ty4, ty22, ty26, ty31, ty96, hm, hl, hr, E59, n59_16]
    | true =>
      rw [h1] at k1; rw [h2] at k2
      have LL := fun e8 T X h8 h4 h6 => L59 p hp1 l (rsG_may l none 0 h2) hl2 st l.length 0 home0 e8 T X rfl h8 h4 h6 (Nat.zero_le _) rfl
      rw [show ((0 : Nat) : Int) = 0 from rfl, List.drop_zero, hz0] at LL
      simp [k1, k2, -Int.not_le, -Int.not_lt, -Nat.not_le, -Nat.not_lt, ty3, ty4, ty22, ty26, ty31, ty96, hm, hl, hr, E59, n59_16]
      refine LL _ _ _ (.inl rfl) ⟨home0, rfl, ?_⟩ ?_
      · rw [hz0]; simp
      · simp
theorem k59 (p : List Int) (hp1 : p.length < 1000) (l : List Sub) (hl1 : ∀ s ∈ l, POk s.filter) (hl2 : l.length < 1000000) (fr : Fr) (st : St) : callStep gS (EvF gS) 59 [.slice (intVs p), .slice (encSubs l)] fr st = some (.ok (.val (.tuple [.agg (intVs (homesT p l).1), .bool (homesT p l).2])) fr st) :=
  call_pure rfl fi215_eq rfl (fun st => c59 p hp1 l hl1 hl2 st) (by simp [V.flat])
end
end Go.Proofs.Ytdoobejjedpcgaa
namespace Go.Proofs.Ytdoobejjedpcgaa
open Go Go.Ab
set_option linter.unusedVariables false
set_option linter.unusedSimpArgs false
set_option linter.unnecessarySimpa false
set_option maxRecDepth 20000
noncomputable section
variable (fr : Fr) (st : St) (k : Kt)
def fi27 : FI := { body := codeOf Try.f27, ntmps := 66, results := [.tmp 4], pers := [0, 1, 4, 5, 6, 7, 8, 9, 10, 11, 13, 26, 27, 40, 41, 42], locals := [6], pure := true, marks := [1000000] }
theorem fi219_eq : gS.fn 27 = some fi27 := by kernel_rfl
theorem st27 (a0 a1 : V) : startFr fi27 [a0, a1] = { ps := [(0, .val a0), (1, .val a1), (4, .any), (5, .any), (6, .any), (7, .any), (8, .any), (9, .any), (10, .any), (11, .any), (13, .any), (26, .any), (27, .any), (40, .any), (41, .any), (42, .any)], ts := [], lc := [] } := rfl
def b27 : Code := mini (codeOf Try.f27)
def c27_10 : Code := .seq (codeN b27 151) .ret
def c27_9 : Code := .cond (.tmp 21) c27_10 .skip
def c27_7 : Code := .seq (codeN b27 39) c27_9
def c27_38 : Code := .cond (.tmp 34) .skip (.exit 2)
def c27_36 : Code := .seq (codeN b27 550495) c27_38
def c27_60 : Code := codeN b27 1716676191
def c27_58 : Code := .seq (codeN b27 1179805279) c27_60
def c27_61 : Code := codeN b27 508716639
def c27_56 : Code := .seq (.block 5 c27_58) c27_61
def c27_52 : Code := .seq (.cond (.tmp 43) .skip (.exit 4)) c27_56
def c27_50 : Code := .seq (codeN b27 72509023) c27_52
def c27_49 : Code := .loop c27_50
def c27_48 : Code := .block 4 c27_49
def c27_46 : Code := .seq (codeN b27 9594463) c27_48
def c27_65 : Code := codeN b27 24274527
def c27_64 : Code := .cond (.tmp 55) c27_65 .skip
def c27_62 : Code := .seq (codeN b27 11691615) c27_64
theorem e27_62 : evK gS fi27 c27_62 fr st k = opsR gS fi27 [mv 53 11 22,
 len1 54 53 22 3,
 op1 55 (.binOp .gtr 3 (.tmp 54) (.const (.int .i64 0)) 3) 4] fr st (.seq c27_64 k) := evK_rs 18 rfl (by kernel_rfl)
def c27_45 : Code := .seq c27_46 c27_62
def c27_43 : Code := .seq (codeN b27 2254431) c27_45
def c27_67 : Code := codeN b27 943711
def c27_41 : Code := .seq (.block 3 c27_43) c27_67
def c27_35 : Code := .seq c27_36 c27_41
def c27_34 : Code := .loop c27_35
def c27_33 : Code := .block 2 c27_34
def c27_31 : Code := .seq (codeN b27 42591) c27_33
def c27_29 : Code := .seq (codeN b27 18015) c27_31
def c27_68 : Code := codeN b27 7775
theorem e27_68 : evK gS fi27 c27_68 fr st k = opsR gS fi27 [op1 64 (.binOp .add 3 (.tmp 27) (.const (.int .i64 1)) 3) 3,
 mv 27 64 3] fr st k := evK_r 20 (by kernel_rfl)
def c27_27 : Code := .seq (.block 1 c27_29) c27_68
def c27_23 : Code := .seq (.cond (.tmp 28) .skip (.exit 0)) c27_27
def c27_21 : Code := .seq (codeN b27 1119) c27_23
def c27_20 : Code := .loop c27_21
def c27_19 : Code := .block 0 c27_20
def c27_17 : Code := .seq (codeN b27 159) c27_19
def c27_69 : Code := .seq (codeN b27 191) .ret
def c27_16 : Code := .seq c27_17 c27_69
def c27_14 : Code := .seq (codeN b27 47) c27_16
def c27_6 : Code := .seq c27_7 c27_14
def c27_4 : Code := .seq (codeN b27 11) c27_6
def c27_2 : Code := .seq (codeN b27 5) c27_4
def c27_0 : Code := .seq (codeN b27 2) c27_2
theorem E27 : (evK gS fi27 c27_10 fr st k = opsR gS fi27 [mv 22 5 53,
 asn 4 22 53] fr st (.seq .ret k)) ∧
 evK gS fi27 c27_9 fr st k = condK gS fi27 (fr.op (.tmp 21)).bool? c27_10 .skip fr st k ∧
 (evK gS fi27 c27_7 fr st k = opsR gS fi27 [mv 20 7 4,
 op1 21 (.unOp .not 4 (.tmp 20)) 4] fr st (.seq c27_9 k)) ∧
 evK gS fi27 c27_38 fr st k = condK gS fi27 (fr.op (.tmp 34)).bool? .skip (.exit 2) fr st k ∧
 (evK gS fi27 c27_36 fr st k = opsR gS fi27 [mv 31 10 3,
 mv 32 8 32,
 len1 33 32 32 3,
 bop 34 .lss 3 31 33 3 4] fr st (.seq c27_38 k)) ∧
 (evK gS fi27 c27_60 fr st k = opsR gS fi27 [mv 46 11 22,
 mv 47 13 3,
 ixa 48 96 6 47 0,
 ld 49 3 48 3,
 op1 50 (.buildSlice 22 1 #[(0, (.tmp 49))]) 22,
 op1 51 (.call { callee := (.builtin .append), args := #[(.tmp 46), (.tmp 50)], argTypes := #[22, 22] }) 22,
 asn 11 51 22] fr st k) ∧
 (evK gS fi27 c27_58 fr st k = opsR gS fi27 [ixa 44 22 40 42 0,
 ld 45 3 44 3,
 asn 13 45 3] fr st (.seq c27_60 k)) ∧
 (evK gS fi27 c27_61 fr st k = opsR gS fi27 [op1 52 (.binOp .add 3 (.tmp 42) (.const (.int .i64 1)) 3) 3,
 mv 42 52 3] fr st k) ∧
 evK gS fi27 c27_56 fr st k = evK gS fi27 c27_58 fr st (.blk 5 (.seq c27_61 k)) ∧
 evK gS fi27 c27_52 fr st k = condK gS fi27 (fr.op (.tmp 43)).bool? .skip (.exit 4) fr st (.seq c27_56 k) ∧
 evK gS fi27 c27_50 fr st k = opsR gS fi27 [bop 43 .lss 3 42 41 3 0] fr st (.seq c27_52 k) ∧
 evK gS fi27 c27_48 fr st k = evK gS fi27 c27_49 fr st (.blk 4 k) ∧
 (evK gS fi27 c27_46 fr st k = opsR gS fi27 [mv 37 8 32,
 mv 38 9 3,
 mv 39 10 3,
 cal 40 22 [(.tmp 37), (.tmp 38), (.tmp 39)] [32, 3, 3] 22,
 len1 41 40 22 3,
 op1 42 (.move (.const (.int .i64 0))) 3] fr st (.seq c27_48 k)) ∧
 (evK gS fi27 c27_65 fr st k = opsR gS fi27 [mv 56 5 53,
 mv 57 9 3,
 mv 58 10 3,
 mv 59 0 22,
 mv 60 11 22,
 cal 61 34 [(.tmp 59), (.tmp 60)] [22, 22] 3,
 op1 62 (.build 59 #[(0, (.tmp 57)), (1, (.tmp 58)), (2, (.tmp 61))]) 59,
 cal 63 60 [(.tmp 56), (.tmp 62)] [53, 59] 53,
 asn 5 63 53] fr st k) ∧
 evK gS fi27 c27_64 fr st k = condK gS fi27 (fr.op (.tmp 55)).bool? c27_65 .skip fr st k ∧
 evK gS fi27 c27_45 fr st k = evK gS fi27 c27_46 fr st (.seq c27_62 k) ∧
 evK gS fi27 c27_43 fr st k = opsR gS fi27 [op1 11 (.assign (.const (.slice none 0 0))) 22] fr st (.seq c27_45 k) ∧
 (evK gS fi27 c27_67 fr st k = opsR gS fi27 [mv 35 10 3,
 op1 36 (.binOp .add 3 (.tmp 35) (.const (.int .i64 1)) 3) 3,
 asn 10 36 3] fr st k) ∧
 evK gS fi27 c27_41 fr st k = evK gS fi27 c27_43 fr st (.blk 3 (.seq c27_67 k)) ∧
 evK gS fi27 c27_35 fr st k = evK gS fi27 c27_36 fr st (.seq c27_41 k) ∧
 evK gS fi27 c27_33 fr st k = evK gS fi27 c27_34 fr st (.blk 2 k) ∧
 (evK gS fi27 c27_31 fr st k = opsR gS fi27 [mv 30 9 3,
 asn 10 30 3] fr st (.seq c27_33 k)) ∧
 (evK gS fi27 c27_29 fr st k = opsR gS fi27 [mv 29 27 3,
 asn 9 29 3] fr st (.seq c27_31 k)) ∧
 evK gS fi27 c27_27 fr st k = evK gS fi27 c27_29 fr st (.blk 1 (.seq c27_68 k)) ∧
 evK gS fi27 c27_23 fr st k = condK gS fi27 (fr.op (.tmp 28)).bool? .skip (.exit 0) fr st (.seq c27_27 k) ∧
 evK gS fi27 c27_21 fr st k = opsR gS fi27 [bop 28 .lss 3 27 26 3 0] fr st (.seq c27_23 k) ∧
 evK gS fi27 c27_19 fr st k = evK gS fi27 c27_20 fr st (.blk 0 k) ∧
 (evK gS fi27 c27_17 fr st k = opsR gS fi27 [mv 25 8 32,
 len1 26 25 32 3,
 op1 27 (.move (.const (.int .i64 0))) 3] fr st (.seq c27_19 k)) ∧
 (evK gS fi27 c27_69 fr st k = opsR gS fi27 [mv 65 5 53,
 asn 4 65 53] fr st (.seq .ret k)) ∧
 evK gS fi27 c27_16 fr st k = evK gS fi27 c27_17 fr st (.seq c27_69 k) ∧
 (evK gS fi27 c27_14 fr st k = opsR gS fi27 [mv 23 1 26,
 cal 24 12 [(.tmp 23)] [26] 32,
 asn 8 24 32] fr st (.seq c27_16 k)) ∧
 evK gS fi27 c27_6 fr st k = evK gS fi27 c27_7 fr st (.seq c27_14 k) ∧
 (evK gS fi27 c27_4 fr st k = opsR gS fi27 [mv 15 0 22,
 mv 16 1 26,
 cal 17 59 [(.tmp 15), (.tmp 16)] [22, 26] 97,
 mv 14 17 97,
 op1 18 (.extract (.tmp 14) 0) 96,
 op1 19 (.extract (.tmp 14) 1) 4,
 op1 6 (.alloc 96) 0,
 sto 96 6 18,
 asn 7 19 4] fr st (.seq c27_6 k)) ∧
 evK gS fi27 c27_2 fr st k = opsR gS fi27 [op1 5 (.assign (.const (.slice none 0 0))) 53] fr st (.seq c27_4 k) ∧
 evK gS fi27 c27_0 fr st k = opsR gS fi27 [op1 4 (.assign (.const (.slice none 0 0))) 53] fr st (.seq c27_2 k) := ⟨evK_rs 4 rfl (by kernel_rfl), rfl, evK_rs 3 rfl (by kernel_rfl), rfl, evK_rs 10 rfl (by kernel_rfl), evK_r 16 (by kernel_rfl), evK_rs 15 rfl (by kernel_rfl), evK_r 17 (by kernel_rfl), rfl, rfl, evK_rs 14 rfl (by kernel_rfl), rfl, evK_rs 13 rfl (by kernel_rfl), evK_r 19 (by kernel_rfl), rfl, rfl, evK_rs 12 rfl (by kernel_rfl), evK_r 11 (by kernel_rfl), rfl, rfl, rfl, evK_rs 9 rfl (by kernel_rfl), evK_rs 8 rfl (by kernel_rfl), rfl, rfl, evK_rs 7 rfl (by kernel_rfl), rfl, evK_rs 6 rfl (by kernel_rfl), evK_rs 21 rfl (by kernel_rfl), rfl, evK_rs 5 rfl (by kernel_rfl), rfl, evK_rs 2 rfl (by kernel_rfl), evK_rs 1 rfl (by kernel_rfl), evK_rs 0 rfl (by kernel_rfl)⟩
theorem m27 : mini fi27.body = c27_0 := by kernel_rfl
theorem n27_49 (fr : Fr) (st : St) (k : Kt) : nextK gS fi27 (.loop c27_50 k) .normal fr st = evK gS fi27 c27_49 fr st k := rfl
theorem n27_34 (fr : Fr) (st : St) (k : Kt) : nextK gS fi27 (.loop c27_35 k) .normal fr st = evK gS fi27 c27_34 fr st k := rfl
theorem n27_20 (fr : Fr) (st : St) (k : Kt) : nextK gS fi27 (.loop c27_21 k) .normal fr st = evK gS fi27 c27_20 fr st k := rfl
theorem splice_all {cs H : List V} (h : H.length = cs.length) : splice cs 0 H = some H := by
  unfold splice
  rw [if_pos (by omega)]
  simp [h]
/-- A row of atoms as it is handed on. -/
def OutA (e : E) (l : List Atom) : Prop := (e = .own 0 [] ∧ l = []) ∨ e = .val (.slice (encAtoms l))
theorem OutA.firm {e : E} {l : List Atom} (h : OutA e l) : e.Firm := by rcases h with ⟨rfl, _⟩ | rfl <;> rfl
set_option maxHeartbeats 8000000 in
theorem L27_49 (p : List Int) (hpl : p.length < 1000) (l : List Sub) (hm0 : List Int) (hh : hm0.length = 7) (g : List Grp) (hg1 : ∀ x ∈ g, x.clients.length < 1000 ∧ ∀ c ∈ x.clients, 1 ≤ c ∧ c ≤ 6) (hg2 : g.length ≤ 500) (st : St) (R : Out × St) (a b : Nat) (cs : List Int) (hcs : cs.length < 1000) (hcr : ∀ c ∈ cs, 1 ≤ c ∧ c ≤ 6) (e5 : E) (h5 : e5.Firm) (fin : List Int)
    (H : ∀ (e13 : E) (T : List (Nat × E)) (X : List (Nat × List V)), e13.Tame → lk X 6 = some (intVs hm0) → evK gS fi27 c27_62 { ps := [(0, .val (.slice (intVs p))), (1, .val (.slice (encSubs l))), (4, .own 0 []), (5, e5), (6, .lp 6 0), (7, .val (.bool true)), (8, .val (.slice (encGrps g))), (9, .val (.int .i64 (a : Nat))), (10, .val (.int .i64 (b : Nat))), (11, .own (kof 1 fin) (intVs fin)), (13, e13), (26, .val (.int .i64 g.length)), (27, .val (.int .i64 (a : Nat))), (40, .val (.slice (intVs cs))), (41, .val (.int .i64 cs.length)), (42, .val (.int .i64 cs.length))], ts := T, lc := X } st (.blk 3 (.seq c27_67 (.loop c27_35 (.blk 2 (.blk 1 (.seq c27_68 (.loop c27_21 (.blk 0 (.seq c27_69 .nil))))))))) = some R) :
    ∀ (m i : Nat) (acc : List Int) (e13 : E) (T : List (Nat × E)) (X : List (Nat × List V)), e13.Tame → lk X 6 = some (intVs hm0) → i ≤ cs.length → cs.length - i = m → acc.length ≤ i → fin = acc ++ (cs.drop i).map (fun c => hm0.getD c.toNat 0) →
    evK gS fi27 c27_49 { ps := [(0, .val (.slice (intVs p))), (1, .val (.slice (encSubs l))), (4, .own 0 []), (5, e5), (6, .lp 6 0), (7, .val (.bool true)), (8, .val (.slice (encGrps g))), (9, .val (.int .i64 (a : Nat))), (10, .val (.int .i64 (b : Nat))), (11, .own (kof 1 acc) (intVs acc)), (13, e13), (26, .val (.int .i64 g.length)), (27, .val (.int .i64 (a : Nat))), (40, .val (.slice (intVs cs))), (41, .val (.int .i64 cs.length)), (42, .val (.int .i64 (i : Nat)))], ts := T, lc := X } st (.blk 4 (.seq c27_62 (.blk 3 (.seq c27_67 (.loop c27_35 (.blk 2 (.blk 1 (.seq c27_68 (.loop c27_21 (.blk 0 (.seq c27_69 .nil))))))))))) = some R := by
  intro m
  have hm : fi27.marks = [1000000] := rfl
  have hl : fi27.locals = [6] := rfl
  have hr : fi27.results = [.tmp 4] := rfl
  induction m with
  | zero =>
    intro i acc e13 T X h13 h6 hi hm2 ha hf
    obtain rfl : i = cs.length := by omega
    rw [List.drop_length, List.map_nil, List.append_nil] at hf
    subst hf
    refine evK_loop c27_50 _ _ _ _ rfl ?_
    rcases kof_or 1 fin with ⟨hk, rfl⟩ | hk
    · have en : intVs [] = [] := rfl
      rw [hk, en] at H
      rw [hk, en]
      simp [-Int.natCast_add, h5, h13, -Int.not_le, -Int.not_lt, -Nat.not_le, -Nat.not_lt, ty3, ty4, ty22, ty26, ty32, ty53, ty59, ty96, eq59, hm, hl, hr, E27, e27_68, n27_49, n27_34, n27_20]
      exact H _ _ _ h13 h6
    · rw [hk] at H
      rw [hk]
      simp [-Int.natCast_add, h5, h13, -Int.not_le, -Int.not_lt, -Nat.not_le, -Nat.not_lt, ty3, ty4, ty22, ty26, ty32, ty53, ty59, ty96, eq59, hm, hl, hr, E27, e27_68, n27_49, n27_34, n27_20]
      exact H _ _ _ h13 h6
  | succ m ih =>
    intro i acc e13 T X h13 h6 hi hm2 ha hf
    obtain ⟨x, hx⟩ : ∃ x, cs[i]? = some x := ⟨cs[i]'(by omega), List.getElem?_eq_getElem (by omega)⟩
    have hlt : (i : Int) < (cs.length : Int) := by omega
    obtain ⟨hlt2, hxe⟩ := List.getElem?_eq_some_iff.1 hx
    have hw : IntKind.wrap .i64 ((i : Int) + 1) = ((i + 1 : Nat) : Int) := by rw [wrap64 (by omega) (by omega)]; omega
    have hxr := hcr x (List.mem_of_getElem? hx)
    obtain ⟨k, rfl⟩ : ∃ k : Nat, x = (k : Int) := ⟨x.toNat, by omega⟩
    have k7 : (k : Int) < 7 := by omega
    have k8 : k < 7 := by omega
    obtain ⟨y, hy⟩ : ∃ y, hm0[k]? = some y := ⟨hm0[k]'(by omega), List.getElem?_eq_getElem (by omega)⟩
    have hyd : hm0.getD k 0 = y := by rw [List.getD_eq_getElem?_getD, hy]; rfl
    obtain ⟨y1, y2⟩ := List.getElem?_eq_some_iff.1 hy
    rw [drop_get hx, List.map_cons, Int.toNat_natCast, hyd, List.append_cons acc y] at hf
    have IH := fun e13 T X h13 h6 => ih (i + 1) (acc ++ [y]) e13 T X h13 h6 (by omega) (by omega) (by simp; omega) hf
    rw [kof_snoc] at IH
    have hs1 := sizes_ints acc
    have hs2 := ints_snoc acc y
    have b1 : (acc.length + 1) * 8 ≤ 140737488355328 := by omega
    have b2 : acc.length + 1 ≤ 140737488355328 := by omega
    refine evK_loop c27_50 _ _ _ _ rfl ?_
    rcases kof_or 1 acc with ⟨hk, rfl⟩ | hk
    · have en : intVs [] = [] := rfl
      have en1 : intVs ([] ++ [y]) = [.int .i64 y] := rfl
      rw [en1] at IH
      rw [hk, en]
      simp [-Int.natCast_add, h5, h13, h6, hx, hxe, hlt, hlt2, hw, k7, k8, hy, y1, y2, -Int.not_le, -Int.not_lt, -Nat.not_le, -Nat.not_lt, ty3, ty4, ty22, ty26, ty32, ty53, ty59, ty96, eq59, hm, hl, hr, E27, e27_62, e27_68, n27_49, n27_34, n27_20]
      exact IH _ _ _ (tame_val _) h6
    · rw [hk]
      simp [-Int.natCast_add, -List.append_assoc, h5, h13, h6, hx, hxe, hlt, hlt2, hw, k7, k8, hy, y1, y2, hs1, hs2, b1, b2, -Int.not_le, -Int.not_lt, -Nat.not_le, -Nat.not_lt, ty3, ty4, ty22, ty26, ty32, ty53, ty59, ty96, eq59, hm, hl, hr, E27, e27_62, e27_68, n27_49, n27_34, n27_20]
      exact IH _ _ _ (tame_val _) h6
set_option maxHeartbeats 8000000 in
theorem L27_34 (p : List Int) (hpl : p.length < 1000) (l : List Sub) (hm0 : List Int) (hh : hm0.length = 7) (g : List Grp) (hg1 : ∀ x ∈ g, x.clients.length < 1000 ∧ ∀ c ∈ x.clients, 1 ≤ c ∧ c ≤ 6) (hg2 : g.length ≤ 500) (st : St) (R : Out × St) (a : Nat) (ha : a < g.length) (fin : List Atom)
    (H : ∀ (e5 e11 e13 e40 e41 e42 : E) (T : List (Nat × E)) (X : List (Nat × List V)), OutA e5 fin → e11.Firm → e13.Tame → e40.Tame → e41.Tame → e42.Tame → lk X 6 = some (intVs hm0) → evK gS fi27 c27_68 { ps := [(0, .val (.slice (intVs p))), (1, .val (.slice (encSubs l))), (4, .own 0 []), (5, e5), (6, .lp 6 0), (7, .val (.bool true)), (8, .val (.slice (encGrps g))), (9, .val (.int .i64 (a : Nat))), (10, .val (.int .i64 g.length)), (11, e11), (13, e13), (26, .val (.int .i64 g.length)), (27, .val (.int .i64 (a : Nat))), (40, e40), (41, e41), (42, e42)], ts := T, lc := X } st (.loop c27_21 (.blk 0 (.seq c27_69 .nil))) = some R) :
    ∀ (m b : Nat) (out : List Atom) (e5 e11 e13 e40 e41 e42 : E) (T : List (Nat × E)) (X : List (Nat × List V)), OutA e5 out → e11.Firm → e13.Tame → e40.Tame → e41.Tame → e42.Tame → lk X 6 = some (intVs hm0) → b ≤ g.length → g.length - b = m → out.length + m ≤ 500 * a + 500 → fin = ofB p hm0 g a m b out →
    evK gS fi27 c27_34 { ps := [(0, .val (.slice (intVs p))), (1, .val (.slice (encSubs l))), (4, .own 0 []), (5, e5), (6, .lp 6 0), (7, .val (.bool true)), (8, .val (.slice (encGrps g))), (9, .val (.int .i64 (a : Nat))), (10, .val (.int .i64 (b : Nat))), (11, e11), (13, e13), (26, .val (.int .i64 g.length)), (27, .val (.int .i64 (a : Nat))), (40, e40), (41, e41), (42, e42)], ts := T, lc := X } st (.blk 2 (.blk 1 (.seq c27_68 (.loop c27_21 (.blk 0 (.seq c27_69 .nil)))))) = some R := by
  intro m
  have hm : fi27.marks = [1000000] := rfl
  have hl : fi27.locals = [6] := rfl
  have hr : fi27.results = [.tmp 4] := rfl
  obtain ⟨u, hu⟩ : ∃ u, g[a]? = some u := ⟨g[a]'ha, List.getElem?_eq_getElem ha⟩
  have hug := hg1 u (List.mem_of_getElem? hu)
  induction m with
  | zero =>
    intro b out e5 e11 e13 e40 e41 e42 T X h5 h11 h13 h40 h41 h42 h6 hb hm2 ho hf
    obtain rfl : b = g.length := by omega
    rw [show ofB p hm0 g a 0 g.length out = out from rfl] at hf
    subst hf
    have h5f := h5.firm
    refine evK_loop c27_35 _ _ _ _ rfl ?_
    simp [-Int.natCast_add, h5f, h11, h13, h40, h41, h42, -Int.not_le, -Int.not_lt, -Nat.not_le, -Nat.not_lt, ty3, ty4, ty22, ty26, ty32, ty53, ty59, ty96, eq59, hm, hl, hr, E27, e27_62, n27_49, n27_34, n27_20]
    exact H _ _ _ _ _ _ _ _ h5 h11 h13 h40 h41 h42 h6
  | succ m ih =>
    intro b out e5 e11 e13 e40 e41 e42 T X h5 h11 h13 h40 h41 h42 h6 hb hm2 ho hf
    obtain ⟨v, hv⟩ : ∃ v, g[b]? = some v := ⟨g[b]'(by omega), List.getElem?_eq_getElem (by omega)⟩
    have hvg := hg1 v (List.mem_of_getElem? hv)
    have hlt : (b : Int) < (g.length : Int) := by omega
    have hlt2 : b < g.length := by omega
    have hw : IntKind.wrap .i64 ((b : Int) + 1) = ((b + 1 : Nat) : Int) := by rw [wrap64 (by omega) (by omega)]; omega
    have kb := fun fr st => k22 g a b u v hu hv hug.1 hvg.1 fr st
    have hbl := bothI_len v.clients u.clients []
    have hbm := fun c hc => hug.2 c (by have := (bothI_mem v.clients u.clients [] c).1 hc; simpa using this.resolve_left (by simp) |>.1)
    rw [show ofB p hm0 g a (m + 1) b out = ofB p hm0 g a m (b + 1) (ofStep p hm0 g a b out) from rfl] at hf
    have hst : ofStep p hm0 g a b out = if (bothI v.clients u.clients []).map (fun c => hm0.getD c.toNat 0) = [] then out else layA out ⟨a, b, placeT p ((bothI v.clients u.clients []).map fun c => hm0.getD c.toNat 0)⟩ := by
      unfold ofStep atsOf; rw [hu, hv]; rfl
    rw [hst] at hf
    have hal : ((bothI v.clients u.clients []).map fun c => hm0.getD c.toNat 0).length < 1000 := by rw [List.length_map]; simp at hbl; omega
    have II := fun fin H e13 T X h13 h6 hf => L27_49 p hpl l hm0 hh g hg1 hg2 st R a b (bothI v.clients u.clients []) (by simp at hbl; omega) hbm e5 h5.firm fin H (bothI v.clients u.clients []).length 0 [] e13 T X h13 h6 (Nat.zero_le _) rfl (Nat.le_refl _) hf
    simp only [List.nil_append, List.drop_zero, show kof 1 ([] : List Int) = 0 from rfl, show intVs [] = [] from rfl, show ((0 : Nat) : Int) = 0 from rfl] at II
    generalize bothI v.clients u.clients [] = cs at *
    generalize hat : cs.map (fun c => hm0.getD c.toNat 0) = at1 at *
    have kp := fun fr st => k34 p (by omega) at1 (by omega) fr st
    have kl := fun fr st => k60 out (by omega) ⟨a, b, placeT p at1⟩ fr st
    have hol := layA_len out ⟨a, b, placeT p at1⟩
    have IH := fun out' e5 e11 e13 e40 e41 e42 T X h5 h11 h13 h40 h41 h42 h6 ho hf => ih (b + 1) out' e5 e11 e13 e40 e41 e42 T X h5 h11 h13 h40 h41 h42 h6 (by omega) (by omega) ho hf
    generalize placeT p at1 = pl at *
    have H62 : ∀ (e13 : E) (T : List (Nat × E)) (X : List (Nat × List V)), e13.Tame → lk X 6 = some (intVs hm0) → evK gS fi27 c27_62 { ps := [(0, .val (.slice (intVs p))), (1, .val (.slice (encSubs l))), (4, .own 0 []), (5, e5), (6, .lp 6 0), (7, .val (.bool true)), (8, .val (.slice (encGrps g))), (9, .val (.int .i64 (a : Nat))), (10, .val (.int .i64 (b : Nat))), (11, .own (kof 1 at1) (intVs at1)), (13, e13), (26, .val (.int .i64 g.length)), (27, .val (.int .i64 (a : Nat))), (40, .val (.slice (intVs cs))), (41, .val (.int .i64 cs.length)), (42, .val (.int .i64 cs.length))], ts := T, lc := X } st (.blk 3 (.seq c27_67 (.loop c27_35 (.blk 2 (.blk 1 (.seq c27_68 (.loop c27_21 (.blk 0 (.seq c27_69 .nil))))))))) = some R := by
      intro e13 T X h13 h6
      by_cases hz : at1 = []
      · rw [if_pos hz] at hf
        have I1 := fun e5 e11 e13 e40 e41 e42 T X h5 h11 h13 h40 h41 h42 h6 => IH out e5 e11 e13 e40 e41 e42 T X h5 h11 h13 h40 h41 h42 h6 (by omega) hf
        have h5f := h5.firm
        subst hz
        rw [show kof 1 ([] : List Int) = 0 from rfl, show intVs [] = [] from rfl]
        simp [-Int.natCast_add, h5f, h13, h6, hw, -Int.not_le, -Int.not_lt, -Nat.not_le, -Nat.not_lt, ty3, ty4, ty22, ty26, ty32, ty53, ty59, ty96, eq59, hm, hl, hr, E27, e27_62, e27_68, n27_49, n27_34, n27_20]
        exact I1 _ _ _ _ _ _ _ _ h5 rfl h13 (tame_val _) (tame_val _) (tame_val _) h6
      · rw [if_neg hz] at hf
        have I1 := fun e5 e11 e13 e40 e41 e42 T X h5 h11 h13 h40 h41 h42 h6 => IH _ e5 e11 e13 e40 e41 e42 T X h5 h11 h13 h40 h41 h42 h6 (by omega) hf
        have hk : kof 1 at1 = 1 := by unfold kof; rw [if_neg hz]
        have hz1 : (0 : Int) < (at1.length : Int) := by have := List.length_pos_iff.2 hz; omega
        have hz2 : 0 < at1.length := List.length_pos_iff.2 hz
        rw [hk]
        rcases h5 with ⟨rfl, rfl⟩ | rfl
        · rw [show encAtoms [] = [] from rfl] at kl
          simp [-Int.natCast_add, h13, h6, hw, hz, hz1, hz2, kp, kl, -Int.not_le, -Int.not_lt, -Nat.not_le, -Nat.not_lt, ty3, ty4, ty22, ty26, ty32, ty53, ty59, ty96, eq59, hm, hl, hr, E27, e27_62, e27_68, n27_49, n27_34, n27_20]
          exact I1 _ _ _ _ _ _ _ _ (.inr rfl) rfl h13 (tame_val _) (tame_val _) (tame_val _) h6
        · simp [-Int.natCast_add, h13, h6, hw, hz, hz1, hz2, kp, kl, -Int.not_le, -Int.not_lt, -Nat.not_le, -Nat.not_lt, ty3, ty4, ty22, ty26, ty32, ty53, ty59, ty96, eq59, hm, hl, hr, E27, e27_62, e27_68, n27_49, n27_34, n27_20]
          exact I1 _ _ _ _ _ _ _ _ (.inr rfl) rfl h13 (tame_val _) (tame_val _) (tame_val _) h6
    have JJ := fun e13 T X h13 h6 => II at1 H62 e13 T X h13 h6 rfl
    clear II H62 IH ih H
    have h5f := h5.firm
    refine evK_loop c27_35 _ _ _ _ rfl ?_
    simp [-Int.natCast_add, h5f, h11, h13, h40, h41, h42, h6, hlt, hlt2, kb, -Int.not_le, -Int.not_lt, -Nat.not_le, -Nat.not_lt, ty3, ty4, ty22, ty26, ty32, ty53, ty59, ty96, eq59, hm, hl, hr, E27, e27_62, e27_68, n27_49, n27_34, n27_20]
    exact JJ _ _ _ h13 h6
set_option maxHeartbeats 8000000 in
theorem L27_20 (p : List Int) (hpl : p.length < 1000) (l : List Sub) (hm0 : List Int) (hh : hm0.length = 7) (g : List Grp) (hg1 : ∀ x ∈ g, x.clients.length < 1000 ∧ ∀ c ∈ x.clients, 1 ≤ c ∧ c ≤ 6) (hg2 : g.length ≤ 500) (st : St) : ∀ (m a : Nat) (out : List Atom) (e5 e9 e10 e11 e13 e40 e41 e42 : E) (T : List (Nat × E)) (X : List (Nat × List V)), OutA e5 out → e9.Tame → e10.Tame → e11.Firm → e13.Tame → e40.Tame → e41.Tame → e42.Tame → lk X 6 = some (intVs hm0) → a ≤ g.length → g.length - a = m → out.length ≤ 500 * a →
    evK gS fi27 c27_20 { ps := [(0, .val (.slice (intVs p))), (1, .val (.slice (encSubs l))), (4, .own 0 []), (5, e5), (6, .lp 6 0), (7, .val (.bool true)), (8, .val (.slice (encGrps g))), (9, e9), (10, e10), (11, e11), (13, e13), (26, .val (.int .i64 g.length)), (27, .val (.int .i64 (a : Nat))), (40, e40), (41, e41), (42, e42)], ts := T, lc := X } st (.blk 0 (.seq c27_69 .nil)) = some (.ret (.slice (encAtoms (ofA p hm0 g m a out))) none, st) := by
  intro m
  have hm : fi27.marks = [1000000] := rfl
  have hl : fi27.locals = [6] := rfl
  have hr : fi27.results = [.tmp 4] := rfl
  have hz := fun xs st => frz_slice (xs := encAtoms xs) (flats_atoms xs) st
  induction m with
  | zero =>
    intro a out e5 e9 e10 e11 e13 e40 e41 e42 T X h5 h9 h10 h11 h13 h40 h41 h42 h6 ha hm2 ho
    obtain rfl : a = g.length := by omega
    rw [show ofA p hm0 g 0 g.length out = out from rfl]
    refine evK_loop c27_21 _ _ _ _ rfl ?_
    rcases h5 with ⟨rfl, rfl⟩ | rfl
    · have hz0 := hz [] st
      rw [show encAtoms [] = [] from rfl] at hz0 ⊢
      simp [h9, h10, h11, h13, h40, h41, h42, hz0, -Int.not_le, -Int.not_lt, -Nat.not_le, -Nat.not_lt, ty3, ty4, ty22, ty26, ty32, ty53, ty59, ty96, eq59, hm, hl, hr, E27, e27_62, e27_68, n27_49, n27_34, n27_20]
    · simp [h9, h10, h11, h13, h40, h41, h42, hz, -Int.not_le, -Int.not_lt, -Nat.not_le, -Nat.not_lt, ty3, ty4, ty22, ty26, ty32, ty53, ty59, ty96, eq59, hm, hl, hr, E27, e27_62, e27_68, n27_49, n27_34, n27_20]
  | succ m ih =>
    intro a out e5 e9 e10 e11 e13 e40 e41 e42 T X h5 h9 h10 h11 h13 h40 h41 h42 h6 ha hm2 ho
    have hlt : (a : Int) < (g.length : Int) := by omega
    have hlt2 : a < g.length := by omega
    have hw : IntKind.wrap .i64 ((a : Int) + 1) = ((a + 1 : Nat) : Int) := by rw [wrap64 (by omega) (by omega)]; omega
    have hbl := ofB_len p hm0 g a (g.length - a) a out
    rw [show ofA p hm0 g (m + 1) a out = ofA p hm0 g m (a + 1) (ofB p hm0 g a (g.length - a) a out) from rfl]
    have IH := fun e5 e9 e10 e11 e13 e40 e41 e42 T X h5 h9 h10 h11 h13 h40 h41 h42 h6 => ih (a + 1) (ofB p hm0 g a (g.length - a) a out) e5 e9 e10 e11 e13 e40 e41 e42 T X h5 h9 h10 h11 h13 h40 h41 h42 h6 (by omega) (by omega) (by omega)
    generalize hR : (Out.ret (V.slice (encAtoms (ofA p hm0 g m (a + 1) (ofB p hm0 g a (g.length - a) a out)))) none, st) = R at IH ⊢
    have H68 : ∀ (e5 e11 e13 e40 e41 e42 : E) (T : List (Nat × E)) (X : List (Nat × List V)), OutA e5 (ofB p hm0 g a (g.length - a) a out) → e11.Firm → e13.Tame → e40.Tame → e41.Tame → e42.Tame → lk X 6 = some (intVs hm0) → evK gS fi27 c27_68 { ps := [(0, .val (.slice (intVs p))), (1, .val (.slice (encSubs l))), (4, .own 0 []), (5, e5), (6, .lp 6 0), (7, .val (.bool true)), (8, .val (.slice (encGrps g))), (9, .val (.int .i64 (a : Nat))), (10, .val (.int .i64 g.length)), (11, e11), (13, e13), (26, .val (.int .i64 g.length)), (27, .val (.int .i64 (a : Nat))), (40, e40), (41, e41), (42, e42)], ts := T, lc := X } st (.loop c27_21 (.blk 0 (.seq c27_69 .nil))) = some R := by
      intro e5 e11 e13 e40 e41 e42 T X h5 h11 h13 h40 h41 h42 h6
      have h5f := h5.firm
      simp [-Int.natCast_add, h5f, h11, h13, h40, h41, h42, hw, -Int.not_le, -Int.not_lt, -Nat.not_le, -Nat.not_lt, ty3, ty4, ty22, ty26, ty32, ty53, ty59, ty96, eq59, hm, hl, hr, E27, e27_62, e27_68, n27_49, n27_34, n27_20]
      exact IH _ _ _ _ _ _ _ _ _ _ h5 (tame_val _) (tame_val _) h11 h13 h40 h41 h42 h6
    have JJ := fun e11 e13 e40 e41 e42 T X h11 h13 h40 h41 h42 h6 => L27_34 p hpl l hm0 hh g hg1 hg2 st R a hlt2 _ H68 (g.length - a) a out e5 e11 e13 e40 e41 e42 T X h5 h11 h13 h40 h41 h42 h6 (by omega) rfl (by omega) rfl
    clear H68 IH ih
    have h5f := h5.firm
    refine evK_loop c27_21 _ _ _ _ rfl ?_
    simp [-Int.natCast_add, h5f, h9, h10, h11, h13, h40, h41, h42, h6, hlt, hlt2, -Int.not_le, -Int.not_lt, -Nat.not_le, -Nat.not_lt, ty3, ty4, ty22, ty26, ty32, ty53, ty59, ty96, eq59, hm, hl, hr, E27, e27_62, e27_68, n27_49, n27_34, n27_20]
    exact JJ _ _ _ _ _ _ _ h11 h13 h40 h41 h42 h6
set_option maxHeartbeats 8000000 in
theorem c27 (p : List Int) (hpl : p.length < 1000) (l : List Sub) (hl1 : ∀ s ∈ l, PSm s.filter) (hl2 : l.length ≤ 400) (st : St) : EvF gS 27 [.slice (intVs p), .slice (encSubs l)] st = some (.ret (.slice (encAtoms (chainOf p l))) none, st) := by
  refine EvF_start fi219_eq (fun x h => by cases h) m27 ?_
  rw [st27]
  have hm : fi27.marks = [1000000] := rfl
  have hl : fi27.locals = [6] := rfl
  have hr : fi27.results = [.tmp 4] := rfl
  have k1 := fun fr st => k59 p hpl l (fun s hs => (hl1 s hs).ok) (by omega) fr st
  have k2 := fun fr st => k12 l hl1 (by omega) fr st
  unfold chainOf
  have hh := homesT_len p l
  have hgl := gof_len l
  have hz0 := frz_slice (xs := encAtoms []) (flats_atoms []) st
  rw [show encAtoms [] = [] from rfl] at hz0
  cases hok : (homesT p l).2 with
  | false =>
    rw [hok] at k1
    have f1 : (intVs (homesT p l).1).length = 7 := by simp [hh]
    have f9 := ints_one (homesT p l).1
    generalize intVs (homesT p l).1 = H at *
    have f7 : splice [.int .i64 0, .int .i64 0, .int .i64 0, .int .i64 0, .int .i64 0, .int .i64 0, .int .i64 0] 0 H = some H := splice_all (by simpa using f1)
    rw [show encAtoms (if false = true then ofA p (homesT p l).1 (gof l) (gof l).length 0 [] else []) = [] from rfl]
    simp [-splice, k1, hz0, f1, f9, f7, -Int.not_le, -Int.not_lt, -Nat.not_le, -Nat.not_lt, ty3, ty4, ty22, ty26, ty32, ty53, ty59, ty96, eq59, hm, hl, hr, E27, e27_62, e27_68, n27_49, n27_34, n27_20]
  | true =>
    have hmy : ∀ s ∈ l, mayS s = true := by
      unfold homesT at hok
      split at hok
      · rename_i h; simp only [Bool.and_eq_true] at h; exact rsG_may l none 0 h.2
      · cases hok
    have hg1 : ∀ x ∈ gof l, x.clients.length < 1000 ∧ ∀ c ∈ x.clients, 1 ≤ c ∧ c ≤ 6 := fun x hx => by
      obtain ⟨k, s, h1, h2, rfl⟩ := gof_mem.1 hx
      have := cliOf_len l s
      refine ⟨by show (cliOf l s).length < 1000; omega, fun c hc => ?_⟩
      obtain ⟨t, ht, _, rfl⟩ := cliOf_mem.1 hc
      have := may_client (hmy t ht)
      omega
    rw [hok] at k1
    rw [if_pos rfl]
    have LL := fun e9 e10 e11 e13 e40 e41 e42 T X h9 h10 h11 h13 h40 h41 h42 h6 => L27_20 p hpl l (homesT p l).1 hh (gof l) hg1 (by omega) st (gof l).length 0 [] (.own 0 []) e9 e10 e11 e13 e40 e41 e42 T X (.inl ⟨rfl, rfl⟩) h9 h10 h11 h13 h40 h41 h42 h6 (Nat.zero_le _) rfl (Nat.zero_le _)
    rw [show ((0 : Nat) : Int) = 0 from rfl] at LL
    have f1 : (intVs (homesT p l).1).length = 7 := by simp [hh]
    have f9 := ints_one (homesT p l).1
    generalize gof l = g at *
    generalize intVs (homesT p l).1 = H at *
    have f7 : splice [.int .i64 0, .int .i64 0, .int .i64 0, .int .i64 0, .int .i64 0, .int .i64 0, .int .i64 0] 0 H = some H := splice_all (by simpa using f1)
    simp [-splice, k1, k2, f1, f9, f7, -Int.not_le, -Int.not_lt, -Nat.not_le, -Nat.not_lt, ty3, ty4, ty22, ty26, ty32, ty53, ty59, ty96, eq59, hm, hl, hr, E27, e27_62, e27_68, n27_49, n27_34, n27_20]
    refine LL _ _ _ _ _ _ _ _ _ ?_ ?_ ?_ ?_ ?_ ?_ ?_ ?_
    all_goals simp
theorem k27 (p : List Int) (hpl : p.length < 1000) (l : List Sub) (hl1 : ∀ s ∈ l, PSm s.filter) (hl2 : l.length ≤ 400) (fr : Fr) (st : St) : callStep gS (EvF gS) 27 [.slice (intVs p), .slice (encSubs l)] fr st = some (.ok (.val (.slice (encAtoms (chainOf p l)))) fr st) :=
  call_pure rfl fi219_eq rfl (fun st => c27 p hpl l hl1 hl2 st) (by simp [V.flat])
end
end Go.Proofs.Ytdoobejjedpcgaa
namespace Go.Proofs.Ytdoobejjedpcgaa
open Go Go.Ab
set_option linter.unusedVariables false
set_option linter.unusedSimpArgs false
set_option linter.unnecessarySimpa false
set_option maxRecDepth 20000
noncomputable section
variable (fr : Fr) (st : St) (k : Kt)
def fi28 : FI := { body := codeOf Try.f28, ntmps := 2, results := [.tmp 0], pers := [0], locals := [], pure := true, marks := [] }
theorem fi224_eq : gS.fn 28 = some fi28 := by kernel_rfl
theorem k28 (fr : Fr) (st : St) : callStep gS (EvF gS) 28 [] fr st = some (.ok (.val (.bool true)) fr st) := by
  have hc : EvF gS 28 [] ⟨[], 0⟩ = some (.ret (.bool true) none, ⟨[], 0⟩) := Evn.lim ⟨400, fun n hn => by
    obtain ⟨m, rfl⟩ : ∃ m, n = m + 400 := ⟨n - 400, by omega⟩
    kernel_rfl⟩
  exact call_pure' rfl fi224_eq rfl rfl ⟨_, hc⟩ rfl
end
end Go.Proofs.Ytdoobejjedpcgaa
namespace Go.Ab
open Go
set_option linter.unusedVariables false
set_option linter.unusedSimpArgs false
set_option linter.unnecessarySimpa false
theorem new_feed (st : St) (l : List Int) : ({ objs := st.objs ++ [[V.slice (intVs l), V.int .i64 0]], wp := st.wp } : St) = setF (nw st 0 []) st.objs.length l (nA l 0 0) := by
  unfold setF nw nA
  simp
theorem feedOk_new {st : St} (h : st.wp ≤ st.objs.length) : FeedOk (nw st 0 []) st.objs.length := ⟨by rw [gr_len]; omega, h⟩
/-- How many groups share a client with one. -/
def cntStep (u : Grp) (n : Nat) (v : Grp) : Nat := if bothI v.clients u.clients [] = [] then n else n + 1
theorem wayG_mem (t : Atom → Bool) : ∀ (g : List Atom) (i : Nat) (out : List Int) (c : Int), c ∈ wayG t i g out ↔ c ∈ out ∨ ∃ (k : Nat) (x : Atom), g[k]? = some x ∧ t x = true ∧ c = ((i + k : Nat) : Int)
  | [], i, out, c => by simp [wayG]
  | y :: r, i, out, c => by
    unfold wayG
    rw [wayG_mem t r]
    constructor
    · rintro (h | ⟨k, x, h1, h2, h3⟩)
      · split at h
        · rename_i hy
          rcases List.mem_append.1 h with h | h
          · exact .inl h
          · simp at h
            exact .inr ⟨0, y, rfl, hy, by omega⟩
        · exact .inl h
      · exact .inr ⟨k + 1, x, by simpa using h1, h2, by omega⟩
    · rintro (h | ⟨k, x, h1, h2, h3⟩)
      · refine .inl ?_
        split
        · exact List.mem_append_left _ h
        · exact h
      · cases k with
        | zero =>
          simp at h1; subst h1
          rw [if_pos h2]
          exact .inl (List.mem_append_right _ (by simp; omega))
        | succ k => exact .inr ⟨k, x, by simpa using h1, h2, by omega⟩
theorem wayG_len (t : Atom → Bool) : ∀ (g : List Atom) (i : Nat) (out : List Int), (wayG t i g out).length = out.length + g.countP t
  | [], i, out => by simp [wayG]
  | y :: r, i, out => by
    unfold wayG
    rw [wayG_len t r, List.countP_cons]
    split
    · rw [List.length_append, List.length_singleton]; omega
    · omega
/-- The atoms, in the order in which they are laid. -/
def atB (p hm : List Int) (g : List Grp) (a : Nat) : Nat → Nat → List Atom
  | 0, _ => []
  | n + 1, b => (if atsOf hm g a b = [] then [] else [⟨a, b, placeT p (atsOf hm g a b)⟩]) ++ atB p hm g a n (b + 1)
def atA (p hm : List Int) (g : List Grp) : Nat → Nat → List Atom
  | 0, _ => []
  | n + 1, a => atB p hm g a (g.length - a) a ++ atA p hm g n (a + 1)
theorem layA_perm (l : List Atom) (n : Atom) : (layA l n).Perm (l ++ [n]) := by
  unfold layA
  have h1 : (l.take (posA l n) ++ [n] ++ l.drop (posA l n)).Perm (l.take (posA l n) ++ (l.drop (posA l n) ++ [n])) := by
    rw [List.append_assoc]
    exact List.Perm.append_left _ List.perm_append_comm
  rw [← List.append_assoc, List.take_append_drop] at h1
  exact h1
theorem ofB_perm (p hm : List Int) (g : List Grp) (a : Nat) : ∀ (n b : Nat) (out : List Atom), (ofB p hm g a n b out).Perm (out ++ atB p hm g a n b)
  | 0, b, out => by simp [ofB, atB]
  | n + 1, b, out => by
    have h := ofB_perm p hm g a n (b + 1) (ofStep p hm g a b out)
    show (ofB p hm g a n (b + 1) (ofStep p hm g a b out)).Perm _
    refine h.trans ?_
    rw [show atB p hm g a (n + 1) b = (if atsOf hm g a b = [] then [] else [⟨a, b, placeT p (atsOf hm g a b)⟩]) ++ atB p hm g a n (b + 1) from rfl, ← List.append_assoc]
    refine List.Perm.append_right _ ?_
    unfold ofStep
    split
    · simp
    · exact layA_perm _ _
theorem ofA_perm (p hm : List Int) (g : List Grp) : ∀ (n a : Nat) (out : List Atom), (ofA p hm g n a out).Perm (out ++ atA p hm g n a)
  | 0, a, out => by simp [ofA, atA]
  | n + 1, a, out => by
    have h := ofA_perm p hm g n (a + 1) (ofB p hm g a (g.length - a) a out)
    show (ofA p hm g n (a + 1) (ofB p hm g a (g.length - a) a out)).Perm _
    refine h.trans ?_
    rw [show atA p hm g (n + 1) a = atB p hm g a (g.length - a) a ++ atA p hm g n (a + 1) from rfl, ← List.append_assoc]
    exact List.Perm.append_right _ (ofB_perm p hm g a _ a out)
/-- How many numbers from one on have it. -/
def cR (f : Nat → Bool) : Nat → Nat → Nat
  | 0, _ => 0
  | n + 1, s => (if f s then 1 else 0) + cR f n (s + 1)
theorem cR_pos (f : Nat → Bool) : ∀ (n s k : Nat), s ≤ k → k < s + n → f k = true → 1 ≤ cR f n s
  | 0, s, k, h1, h2, _ => by omega
  | n + 1, s, k, h1, h2, h3 => by
    unfold cR
    by_cases hk : k = s
    · subst hk; rw [h3]; simp
    · have := cR_pos f n (s + 1) k (by omega) (by omega) h3
      omega
def shr (g : List Grp) (a b : Nat) : Bool := !decide (bothI ((g[b]?).getD default).clients ((g[a]?).getD default).clients [] = [])
theorem ats_shr (hm : List Int) (g : List Grp) (a b : Nat) : decide (atsOf hm g a b = []) = !shr g a b := by
  unfold atsOf shr
  rw [Bool.not_not]
  simp
theorem bothI_nil {u v : List Int} : bothI v u [] = [] ↔ ∀ x, x ∈ u → ¬ x ∈ v := by
  constructor
  · intro h x h1 h2
    have := (bothI_mem v u [] x).2 (.inr ⟨h1, h2⟩)
    rw [h] at this; simp at this
  · intro h
    rw [List.eq_nil_iff_forall_not_mem]
    intro x hx
    rcases (bothI_mem v u [] x).1 hx with h1 | ⟨h1, h2⟩
    · simp at h1
    · exact h x h1 h2
theorem shr_symm (g : List Grp) (a b : Nat) : shr g a b = shr g b a := by
  unfold shr
  congr 1
  rw [decide_eq_decide, bothI_nil, bothI_nil]
  exact ⟨fun h x h1 h2 => h x h2 h1, fun h x h1 h2 => h x h2 h1⟩
/-- Is a group one of an atom's? -/
def hit (o : Nat) (x : Atom) : Bool := decide (x.a = (o : Int)) || decide (x.b = (o : Int))
theorem cB_eq (p hm : List Int) (g : List Grp) (o : Nat) : ∀ (n b : Nat), (atB p hm g o n b).countP (hit o) = cR (shr g o) n b
  | 0, b => rfl
  | n + 1, b => by
    unfold atB cR
    rw [List.countP_append, cB_eq p hm g o n (b + 1)]
    congr 1
    have h := ats_shr hm g o b
    by_cases hz : atsOf hm g o b = []
    · rw [if_pos hz]; simp [hz] at h; simp [← h]
    · rw [if_neg hz]; simp [hz] at h; simp [← h, hit]
theorem cB_ne (p hm : List Int) (g : List Grp) (o a : Nat) (ha : a ≠ o) : ∀ (n b : Nat), (atB p hm g a n b).countP (hit o) = if b ≤ o ∧ o < b + n then (if shr g a o then 1 else 0) else 0
  | 0, b => by simp [atB]; omega
  | n + 1, b => by
    unfold atB
    rw [List.countP_append, cB_ne p hm g o a ha n (b + 1)]
    have h := ats_shr hm g a b
    by_cases hb : b = o
    · subst hb
      rw [if_neg (by omega : ¬ (b + 1 ≤ b ∧ b < b + 1 + n)), if_pos (by omega : b ≤ b ∧ b < b + (n + 1))]
      by_cases hz : atsOf hm g a b = []
      · rw [if_pos hz]; simp [hz] at h; simp [← h]
      · rw [if_neg hz]; simp [hz] at h; simp [← h, hit]
    · have h1 : (if atsOf hm g a b = [] then ([] : List Atom) else [⟨a, b, placeT p (atsOf hm g a b)⟩]).countP (hit o) = 0 := by
        split
        · rfl
        · have e1 : ¬ ((a : Int) = (o : Int)) := by omega
          have e2 : ¬ ((b : Int) = (o : Int)) := by omega
          simp [hit, e1, e2]
      rw [h1]
      by_cases hc : b + 1 ≤ o ∧ o < b + 1 + n
      · rw [if_pos hc, if_pos (by omega : b ≤ o ∧ o < b + (n + 1))]; omega
      · rw [if_neg hc, if_neg (by omega : ¬ (b ≤ o ∧ o < b + (n + 1)))]
theorem cA_gt (p hm : List Int) (g : List Grp) (o : Nat) : ∀ (n a : Nat), o < a → (atA p hm g n a).countP (hit o) = 0
  | 0, a, _ => rfl
  | n + 1, a, h => by
    unfold atA
    rw [List.countP_append, cB_ne p hm g o a (by omega), if_neg (by omega), cA_gt p hm g o n (a + 1) (by omega)]
theorem cA_le (p hm : List Int) (g : List Grp) (o : Nat) (ho : o < g.length) : ∀ (n a : Nat), a + n = g.length → a ≤ o → (atA p hm g n a).countP (hit o) = cR (shr g o) n a
  | 0, a, h1, h2 => by omega
  | n + 1, a, h1, h2 => by
    unfold atA
    rw [List.countP_append]
    by_cases ha : a = o
    · subst ha
      rw [cB_eq, cA_gt p hm g a n (a + 1) (by omega), show g.length - a = n + 1 from by omega]
      omega
    · rw [cB_ne p hm g o a ha, if_pos (by omega), cA_le p hm g o ho n (a + 1) (by omega) (by omega), shr_symm g a o]
      rfl
theorem cnt_fold (g : List Grp) (o : Nat) : ∀ (m s n : Nat), g.length - s = m → (g.drop s).foldl (cntStep ((g[o]?).getD default)) n = n + cR (shr g o) m s
  | 0, s, n, h => by rw [List.drop_of_length_le (by omega)]; rfl
  | m + 1, s, n, h => by
    obtain ⟨x, hx⟩ : ∃ x, g[s]? = some x := ⟨g[s]'(by omega), List.getElem?_eq_getElem (by omega)⟩
    rw [drop_get hx, List.foldl_cons, cnt_fold g o m (s + 1) _ (by omega), show cR (shr g o) (m + 1) s = (if shr g o s then 1 else 0) + cR (shr g o) m (s + 1) from rfl]
    have : cntStep ((g[o]?).getD default) n x = n + if shr g o s = true then 1 else 0 := by
      unfold cntStep shr
      rw [hx]
      simp only [Option.getD_some]
      by_cases hz : bothI x.clients ((g[o]?).getD default).clients [] = []
      · simp [hz]
      · simp [hz]
    rw [this]; omega
/-- The law of ways: so many atoms as groups that share a client. -/
theorem way_count (p hm : List Int) (g : List Grp) (o : Nat) (ho : o < g.length) (u : Grp) (hu : g[o]? = some u) : g.foldl (cntStep u) 0 = (wayA (ofA p hm g g.length 0 []) [(o : Int)]).length := by
  have h1 := cnt_fold g o g.length 0 0 (by omega)
  rw [List.drop_zero, hu] at h1
  have h2 : (wayA (ofA p hm g g.length 0 []) [(o : Int)]).length = (ofA p hm g g.length 0 []).countP (hit o) := by
    unfold wayA
    rw [wayG_len, List.length_nil, Nat.zero_add]
    refine List.countP_congr fun x _ => ?_
    have e : ∀ y : Int, hasI [(o : Int)] y = decide (y = (o : Int)) := fun y => by
      unfold hasI
      by_cases h : (o : Int) = y
      · rw [if_pos h]; simp [h]
      · rw [if_neg h]
        have : ¬ y = (o : Int) := fun e => h e.symm
        simp [hasI, this]
    rw [e, e]; rfl
  rw [h2, (ofA_perm p hm g g.length 0 []).countP_eq, List.nil_append, cA_le p hm g o ho g.length 0 (by omega) (by omega)]
  simpa using h1
theorem way_pos (g : List Grp) (o : Nat) (ho : o < g.length) (u : Grp) (hu : g[o]? = some u) (hc : u.clients ≠ []) : 1 ≤ g.foldl (cntStep u) 0 := by
  have h1 := cnt_fold g o g.length 0 0 (by omega)
  rw [List.drop_zero, hu] at h1
  have h2 := cR_pos (shr g o) g.length 0 o (by omega) (by omega) (by
    unfold shr
    rw [hu]
    simp only [Option.getD_some, Bool.not_eq_true', decide_eq_false_iff_not]
    rw [bothI_nil]
    obtain ⟨x, hx⟩ := List.exists_mem_of_ne_nil _ hc
    exact fun h => h x hx hx)
  have h3 : g.foldl (cntStep u) 0 = 0 + cR (shr g o) g.length 0 := h1
  omega
end Go.Ab
namespace Go.Ab
open Go
set_option linter.unusedVariables false
set_option linter.unusedSimpArgs false
set_option linter.unnecessarySimpa false
def rsSt : Option Sub → Int → List Sub → Option Sub × Int
  | o, m, [] => (o, m)
  | none, m, s :: r => rsSt (some s) 1 r
  | some t, m, s :: r => if t.client < s.client then rsSt (some s) 1 r else rsSt (some s) (m + 1) r
theorem rsG_append : ∀ (xs : List Sub) (o : Option Sub) (m : Int) (s : Sub), rsG o m (xs ++ [s]) = (rsG o m xs && rsG (rsSt o m xs).1 (rsSt o m xs).2 [s])
  | [], o, m, s => by simp [rsSt, rsG]
  | x :: r, none, m, s => by
    rw [List.cons_append]
    simp only [rsG, rsSt]
    rw [rsG_append r (some x) 1 s, Bool.and_assoc]
  | x :: r, some t, m, s => by
    rw [List.cons_append]
    simp only [rsG, rsSt]
    by_cases h : t.client < x.client
    · simp only [h, if_true]
      rw [rsG_append r (some x) 1 s, Bool.and_assoc]
    · simp only [h, if_false]
      rw [rsG_append r (some x) (m + 1) s, Bool.and_assoc, Bool.and_assoc]
theorem rsSt_append : ∀ (xs : List Sub) (o : Option Sub) (m : Int) (s : Sub), (rsSt o m (xs ++ [s])).1 = some s ∧ (rsSt o m (xs ++ [s])).2 = match (rsSt o m xs).1 with
    | none => 1
    | some t => if t.client < s.client then 1 else (rsSt o m xs).2 + 1
  | [], none, m, s => by simp [rsSt]
  | [], some t, m, s => by
    simp only [List.nil_append, rsSt]
    split <;> simp [rsSt]
  | x :: r, none, m, s => by
    rw [List.cons_append]
    simp only [rsSt]
    exact rsSt_append r (some x) 1 s
  | x :: r, some t, m, s => by
    rw [List.cons_append]
    simp only [rsSt]
    by_cases h : t.client < x.client
    · simp only [h, if_true]; exact rsSt_append r (some x) 1 s
    · simp only [h, if_false]; exact rsSt_append r (some x) (m + 1) s
/-- Subscriptions so far: the last one's client stands ahead of c, or it is c's, with its k-th number. -/
structure SoFar (P : Nat) (c home num : Int) (k : Nat) (out : List Sub) : Prop where
  right : rightS out = true
  bro : ∀ s ∈ out, s.broker ≤ P
  last : ∀ t, (rsSt none 0 out).1 = some t → t.client < c ∨ (t.client = c ∧ t.broker = home ∧ t.num ≤ num ∧ (rsSt none 0 out).2 ≤ k)
theorem may_of {c home num : Int} {f : List Pred} (h1 : 1 ≤ c) (h2 : c ≤ 6) (h3 : 0 ≤ home) (h4 : home ≤ 7) (h5 : 1 ≤ num) (h6 : num ≤ 100) (hf : fright f = true) : mayS ⟨c, home, num, f⟩ = true := by
  simp only [mayS, Bool.and_eq_true, decide_eq_true_eq]
  exact ⟨⟨⟨⟨⟨⟨h1, h2⟩, h3⟩, h4⟩, h5⟩, by omega⟩, hf⟩
theorem SoFar.snoc {P : Nat} {c home num num' : Int} {k : Nat} {out : List Sub} {f : List Pred} (h : SoFar P c home num k out) (hP : P ≤ 7) (h1 : 1 ≤ c) (h2 : c ≤ 6) (h3 : 0 ≤ home) (h4 : home ≤ P) (h5 : num < num') (h5' : 1 ≤ num') (h6 : num' ≤ 100) (hk : k ≤ 2) (hf : fright f = true) :
    SoFar P c home num' (k + 1) (out ++ [⟨c, home, num', f⟩]) := by
  have hm := may_of (f := f) h1 h2 h3 (show home ≤ 7 by omega) h5' h6 hf
  have ha := rsG_append out none 0 ⟨c, home, num', f⟩
  have hs := rsSt_append out none 0 ⟨c, home, num', f⟩
  have hl := h.last
  have hr := h.right
  unfold rightS at hr
  refine ⟨?_, fun s hs => ?_, fun t ht => ?_⟩
  · unfold rightS
    rw [ha, hr, Bool.true_and]
    cases ho : (rsSt none 0 out).1 with
    | none => simp [rsG, hm]
    | some t =>
      simp only [rsG, hm, Bool.true_and, Bool.and_true]
      rcases hl t ho with h' | ⟨e1, e2, e3, e4⟩
      · simp [h']
      · have n1 : ¬ t.client < c := by omega
        have n2 : ¬ c < t.client := by omega
        have n3 : ¬ num' ≤ t.num := by omega
        have n4 : ¬ (3 : Int) < (rsSt none 0 out).2 + 1 := by omega
        simp [n1, n2, n3, n4, e2]
  · rcases List.mem_append.1 hs with hs | hs
    · exact h.bro s hs
    · simp at hs; subst hs; exact h4
  · rw [hs.1] at ht
    cases ht
    refine .inr ⟨rfl, rfl, Int.le_refl _, ?_⟩
    rw [hs.2]
    cases ho : (rsSt none 0 out).1 with
    | none => simp only; omega
    | some t =>
      simp only
      split
      · omega
      · rename_i hn
        rcases hl t ho with h' | ⟨e1, e2, e3, e4⟩
        · exact absurd h' hn
        · omega
theorem subsI_right (l : List Int) (a P : Nat) (fs : List (List Pred)) (c home : Int) (hP : P ≤ 7) (h1 : 1 ≤ c) (h2 : c ≤ 6) (h3 : 0 ≤ home) (h4 : home ≤ P) (hfs : ∀ f ∈ fs, fright f = true) : ∀ (n : Nat) (num : Int) (j d k : Nat) (out : List Sub), n + k ≤ 3 → 0 ≤ num → num ≤ 2 * k → SoFar P c home num k out →
    ∃ num' k', SoFar P c home num' k' (subsI l a fs c home n num j d out).1
  | 0, num, j, d, k, out, _, _, _, h => ⟨num, k, h⟩
  | n + 1, num, j, d, k, out, hn, hm, hm2, h => by
    simp only [subsI]
    have hb := fd_bound l a j (n := 2) (by omega)
    refine subsI_right l a P fs c home hP h1 h2 h3 h4 hfs n (num + 1 + fd l a j 2) _ _ (k + 1) _ (by omega) (by omega) (by omega) (h.snoc hP h1 h2 h3 h4 (by omega) (by omega) (by omega) (by omega) ?_)
    split
    · cases hg : fs[(fd l a (filterV l a (j + 1)).2.1 6).toNat]? with
      | none => rw [List.getD_eq_getElem?_getD, hg]; rfl
      | some f => rw [List.getD_eq_getElem?_getD, hg]; exact hfs f (List.mem_of_getElem? hg)
    · have := filterV_ffv l a (j + 1)
      exact ffv_right this.1 this.2
theorem SoFar.next {P : Nat} {c home num : Int} {k : Nat} {out : List Sub} (h : SoFar P c home num k out) (home' : Int) : SoFar P (c + 1) home' 0 0 out :=
  ⟨h.right, h.bro, fun t ht => .inl (by rcases h.last t ht with h | h <;> omega)⟩
theorem subsO_right (l : List Int) (a P : Nat) (fs : List (List Pred)) (hP : P ≤ 7) (hfs : ∀ f ∈ fs, fright f = true) : ∀ (r : Nat) (c : Int) (j d : Nat) (out : List Sub), 1 ≤ c → c + r ≤ 7 → (∀ home, SoFar P c home 0 0 out) → ∃ c' home num k, SoFar P c' home num k (subsO l a P fs r c j d out).1
  | 0, c, j, d, out, _, _, h => ⟨c, 0, 0, 0, h 0⟩
  | r + 1, c, j, d, out, h1, h2, h => by
    simp only [subsO]
    have hb := fd_bound l a j (n := (P : Int) + 1) (by omega)
    have hb4 := fd_bound l a (j + 1) (n := 4) (by omega)
    obtain ⟨num', k', h'⟩ := subsI_right l a P fs c (fd l a j (P + 1)) hP h1 (by omega) hb.1 (by omega) hfs (fd l a (j + 1) 4).toNat 0 (j + 2) d 0 out (by omega) (by omega) (by omega) (h _)
    exact subsO_right l a P fs hP hfs r _ _ _ _ (by omega) (by omega) fun home => h'.next home
/-- A feed's subscriptions are right. -/
theorem subsV_right (l : List Int) (a j P : Nat) (hP : P ≤ 7) : rightS (subsV l a j P).1 = true ∧ ∀ s ∈ (subsV l a j P).1, s.broker ≤ P := by
  unfold subsV
  have hfs : ∀ f ∈ subsF l a j, fright f = true := fun f hf => by
    unfold subsF at hf
    simp at hf
    rcases hf with rfl | rfl | rfl
    · have := filterV_ffv l a j; exact ffv_right this.1 this.2
    · have := filterV_ffv l a (filterV l a j).2.1; exact ffv_right this.1 this.2
    · rfl
  obtain ⟨c', home, num, k, h⟩ := subsO_right l a P (subsF l a j) hP hfs 6 1 (filterV l a (filterV l a j).2.1).2.1 ((filterV l a j).2.2 + (filterV l a (filterV l a j).2.1).2.2) [] (by omega) (by omega) fun home => ⟨rfl, by simp, fun t ht => by simp [rsSt] at ht⟩
  exact ⟨h.right, h.bro⟩
theorem rsG_order : ∀ (l : List Sub) (t : Sub) (m : Int), rsG (some t) m l = true → ∀ s ∈ l, t.client ≤ s.client ∧ (s.client = t.client → s.broker = t.broker)
  | [], _, _, _, s, hs => by simp at hs
  | x :: r, t, m, h, s, hs => by
    simp only [rsG, Bool.and_eq_true] at h
    have h2 := h.2
    by_cases hc : t.client < x.client
    · rw [if_pos hc] at h2
      rcases List.mem_cons.1 hs with rfl | hs
      · exact ⟨by omega, fun e => by omega⟩
      · have := rsG_order r x 1 h2 s hs
        exact ⟨by omega, fun e => by omega⟩
    · rw [if_neg hc] at h2
      simp only [Bool.and_eq_true, Bool.not_eq_true', Bool.or_eq_false_iff, decide_eq_false_iff_not, Bool.not_eq_false', decide_eq_true_eq] at h2
      obtain ⟨⟨⟨⟨e1, e2⟩, e3⟩, e4⟩, h3⟩ := h2
      rcases List.mem_cons.1 hs with rfl | hs
      · exact ⟨by omega, fun _ => e3.symm⟩
      · have := rsG_order r x (m + 1) h3 s hs
        exact ⟨by omega, fun e => by rw [this.2 (by omega), e3]⟩
/-- A client's subscriptions are at one broker. -/
theorem right_home : ∀ (l : List Sub) (o : Option Sub) (m : Int), rsG o m l = true → ∀ s ∈ l, ∀ t ∈ l, s.client = t.client → s.broker = t.broker
  | [], _, _, _, s, hs, _, _, _ => by simp at hs
  | x :: r, o, m, h, s, hs, t, ht, e => by
    obtain ⟨m', h'⟩ : ∃ m', rsG (some x) m' r = true := by
      cases o with
      | none => simp only [rsG, Bool.and_eq_true] at h; exact ⟨1, h.2⟩
      | some y =>
        simp only [rsG, Bool.and_eq_true] at h
        have h2 := h.2
        split at h2
        · exact ⟨1, h2⟩
        · simp only [Bool.and_eq_true] at h2; exact ⟨m + 1, h2.2⟩
    have ho := rsG_order r x m' h'
    rcases List.mem_cons.1 hs with hs1 | hs1 <;> rcases List.mem_cons.1 ht with ht1 | ht1
    · rw [hs1, ht1]
    · rw [hs1]; exact ((ho t ht1).2 (by rw [← e, hs1])).symm
    · rw [ht1]; exact (ho s hs1).2 (by rw [e, ht1])
    · exact right_home r (some x) m' h' s hs1 t ht1 e
def setH (h : List Int) (s : Sub) : List Int := h.set s.client.toNat s.broker
theorem homesG_eq (p : List Int) : ∀ (l : List Sub) (h : List Int), (∀ s ∈ l, s.broker ≤ p.length) → homesG p l h = (l.foldl setH h, true)
  | [], _, _ => rfl
  | s :: r, h, hb => by
    unfold homesG
    rw [if_neg (by have := hb s (by simp); omega), homesG_eq p r _ fun t ht => hb t (by simp [ht])]
    rfl
theorem setH_keep : ∀ (l : List Sub) (h : List Int) (c : Nat) (b : Int), h.getD c 0 = b → (∀ t ∈ l, t.client.toNat = c → t.broker = b ∧ c < h.length) → (l.foldl setH h).getD c 0 = b
  | [], _, _, _, h1, _ => h1
  | s :: r, h, c, b, h1, h2 => by
    rw [List.foldl_cons]
    refine setH_keep r (setH h s) c b ?_ fun t ht e => ?_
    · unfold setH
      rw [List.getD_eq_getElem?_getD, List.getElem?_set]
      by_cases he : s.client.toNat = c
      · obtain ⟨e1, e2⟩ := h2 s (by simp) he
        rw [if_pos he, if_pos (by omega)]
        simpa using e1
      · rw [if_neg he, ← List.getD_eq_getElem?_getD]; exact h1
    · have := h2 t (by simp [ht]) e
      unfold setH
      simpa using this
theorem setH_get : ∀ (l : List Sub) (h : List Int), h.length = 7 → (∀ s ∈ l, 1 ≤ s.client ∧ s.client ≤ 6) → (∀ s ∈ l, ∀ t ∈ l, s.client = t.client → s.broker = t.broker) → ∀ s ∈ l, (l.foldl setH h).getD s.client.toNat 0 = s.broker
  | [], _, _, _, _, s, hs => by simp at hs
  | x :: r, h, hl, hc, hs0, s, hs => by
    rw [List.foldl_cons]
    rcases List.mem_cons.1 hs with rfl | hs
    · have hr := hc s (by simp)
      refine setH_keep r _ _ _ ?_ fun t ht e => ⟨?_, ?_⟩
      · unfold setH
        rw [List.getD_eq_getElem?_getD, List.getElem?_set, if_pos rfl, if_pos (by omega)]
        rfl
      · have hr2 := hc t (by simp [ht])
        exact hs0 t (by simp [ht]) s (by simp) (by omega)
      · unfold setH; simp; omega
    · exact setH_get r _ (by unfold setH; simpa using hl) (fun t ht => hc t (by simp [ht])) (fun a ha b hb e => hs0 a (by simp [ha]) b (by simp [hb]) e) s hs
/-- Homes of right subscriptions. -/
theorem homesT_ok {p : List Int} {l : List Sub} (hp : rightT p = true) (hr : rightS l = true) (hb : ∀ s ∈ l, s.broker ≤ p.length) : (homesT p l).2 = true ∧ ∀ s ∈ l, (homesT p l).1.getD s.client.toNat 0 = s.broker := by
  unfold homesT
  rw [hp, hr, Bool.and_self, if_pos rfl, homesG_eq p l home0 hb]
  refine ⟨rfl, setH_get l home0 rfl (fun s hs => ?_) (right_home l none 0 hr)⟩
  have := may_client (rsG_may l none 0 hr s hs)
  omega
theorem chainOf_eq {p : List Int} {l : List Sub} (hp : rightT p = true) (hr : rightS l = true) (hb : ∀ s ∈ l, s.broker ≤ p.length) : chainOf p l = ofA p (homesT p l).1 (gof l) (gof l).length 0 [] := by
  unfold chainOf
  rw [(homesT_ok hp hr hb).1, if_pos rfl]
theorem gof_clients {l : List Sub} {x : Grp} (h : x ∈ gof l) : x.clients ≠ [] := by
  obtain ⟨k, s, h1, h2, rfl⟩ := gof_mem.1 h
  intro e
  have : s.client ∈ cliOf l s := cliOf_mem.2 ⟨s, List.mem_of_getElem? h1, fsame_rfl _, rfl⟩
  rw [show cliOf l s = [] from e] at this
  simp at this
theorem wayA_get {c : List Atom} {m : List Int} {x : Int} (h : x ∈ wayA c m) : ∃ (k : Nat) (y : Atom), x = (k : Int) ∧ c[k]? = some y ∧ (hasI m y.a || hasI m y.b) = true := by
  unfold wayA at h
  rcases (wayG_mem _ _ _ _ _).1 h with h | ⟨k, y, h1, h2, h3⟩
  · simp at h
  · exact ⟨k, y, by omega, h1, h2⟩
theorem wayA_of {c : List Atom} {m : List Int} {k : Nat} {y : Atom} (h1 : c[k]? = some y) (h2 : (hasI m y.a || hasI m y.b) = true) : (k : Int) ∈ wayA c m := by
  unfold wayA
  exact (wayG_mem _ _ _ _ _).2 (.inr ⟨k, y, h1, h2, by omega⟩)
theorem ownA_get {c : List Atom} {m : List Int} {x : Int} (h : x ∈ ownA c m) : ∃ (k : Nat) (y : Atom), x = (k : Int) ∧ c[k]? = some y ∧ (hasI m y.a && hasI m y.b) = true := by
  unfold ownA at h
  rcases (wayG_mem _ _ _ _ _).1 h with h | ⟨k, y, h1, h2, h3⟩
  · simp at h
  · exact ⟨k, y, by omega, h1, h2⟩
theorem way_more {c : List Atom} {o m x : Int} (h : x ∈ wayA c [o]) : x ∈ wayA c [o, m] := by
  obtain ⟨k, y, rfl, h1, h2⟩ := wayA_get h
  refine wayA_of h1 ?_
  simp only [hasI, Bool.or_eq_true] at h2 ⊢
  rcases h2 with h2 | h2 <;> (split at h2 <;> simp_all)
theorem own_way {c : List Atom} {ms : List Int} {x : Int} (h : x ∈ ownA c ms) : x ∈ wayA c ms := by
  obtain ⟨k, y, rfl, h1, h2⟩ := ownA_get h
  refine wayA_of h1 ?_
  rw [Bool.and_eq_true] at h2
  rw [h2.1]; rfl
theorem way_one {c : List Atom} {o x : Int} (h : x ∈ wayA c [o]) : ∃ (k : Nat) (y : Atom), x = (k : Int) ∧ c[k]? = some y ∧ (y.a = o ∨ y.b = o) := by
  obtain ⟨k, y, h0, h1, h2⟩ := wayA_get h
  refine ⟨k, y, h0, h1, ?_⟩
  rw [Bool.or_eq_true] at h2
  rcases h2 with h2 | h2
  · have := hasI_iff.1 h2; simp at this; exact .inl this
  · have := hasI_iff.1 h2; simp at this; exact .inr this
theorem atB_len (p hm : List Int) (g : List Grp) (a : Nat) : ∀ (n b : Nat), (atB p hm g a n b).length ≤ n
  | 0, _ => Nat.le_refl _
  | n + 1, b => by
    have := atB_len p hm g a n (b + 1)
    unfold atB
    rw [List.length_append]
    split <;> simp <;> omega
theorem atA_len (p hm : List Int) (g : List Grp) (hg : g.length ≤ 18) : ∀ (n a : Nat), n ≤ 18 → (atA p hm g n a).length ≤ 18 * n
  | 0, _, _ => Nat.le_refl _
  | n + 1, a, h => by
    have h1 := atB_len p hm g a (g.length - a) a
    have h2 := atA_len p hm g hg n (a + 1) (by omega)
    unfold atA
    rw [List.length_append]
    omega
theorem ofA_len (p hm : List Int) (g : List Grp) (hg : g.length ≤ 18) : (ofA p hm g g.length 0 []).length ≤ 324 := by
  rw [(ofA_perm p hm g g.length 0 []).length_eq, List.nil_append]
  have := atA_len p hm g hg g.length 0 hg
  omega
theorem wayG_le (t : Atom → Bool) (c : List Atom) : (wayG t 0 c []).length ≤ c.length := by rw [wayG_len]; simpa using List.countP_le_length
end Go.Ab
namespace Go.Proofs.Ytdoobejjedpcgaa
open Go Go.Ab
set_option linter.unusedVariables false
set_option linter.unusedSimpArgs false
set_option linter.unnecessarySimpa false
set_option maxRecDepth 20000
noncomputable section
variable (fr : Fr) (st : St) (k : Kt)
def fi4 : FI := { body := codeOf Try.f4, ntmps := 155, results := [.tmp 6], pers := [0, 1, 2, 6, 7, 8, 9, 10, 11, 12, 13, 14, 15, 16, 17, 18], locals := [], pure := true, marks := [] }
theorem fi244_eq : gS.fn 4 = some fi4 := by kernel_rfl
theorem st4 (a0 a1 a2 : V) : startFr fi4 [a0, a1, a2] = { ps := [(0, .val a0), (1, .val a1), (2, .val a2), (6, .any), (7, .any), (8, .any), (9, .any), (10, .any), (11, .any), (12, .any), (13, .any), (14, .any), (15, .any), (16, .any), (17, .any), (18, .any)], ts := [], lc := [] } := rfl
def b4 : Code := mini (codeOf Try.f4)
def c4_16 : Code := .seq (codeN b4 1215) .ret
def c4_15 : Code := .cond (.tmp 38) c4_16 .skip
def c4_13 : Code := .seq (codeN b4 319) c4_15
def c4_36 : Code := .cond (.tmp 70) .skip (.exit 0)
def c4_34 : Code := .seq (codeN b4 137215) c4_36
def c4_44 : Code := .seq (codeN b4 2398207) .ret
def c4_43 : Code := .cond (.tmp 119) c4_44 .skip
def c4_41 : Code := .seq (codeN b4 563199) c4_43
def c4_48 : Code := codeN b4 235519
def c4_39 : Code := .seq (.block 1 c4_41) c4_48
def c4_33 : Code := .seq c4_34 c4_39
def c4_32 : Code := .loop c4_33
def c4_31 : Code := .block 0 c4_32
def c4_29 : Code := .seq (codeN b4 10239) c4_31
def c4_57 : Code := .cond (.tmp 123) .skip (.exit 2)
def c4_55 : Code := .seq (codeN b4 274431) c4_57
def c4_65 : Code := .seq (codeN b4 4796415) .ret
def c4_64 : Code := .cond (.tmp 132) c4_65 .skip
def c4_62 : Code := .seq (codeN b4 1126399) c4_64
def c4_69 : Code := codeN b4 471039
def c4_60 : Code := .seq (.block 3 c4_62) c4_69
def c4_54 : Code := .seq c4_55 c4_60
def c4_53 : Code := .loop c4_54
def c4_52 : Code := .block 2 c4_53
def c4_50 : Code := .seq (codeN b4 20479) c4_52
def c4_80 : Code := .cond (.tmp 136) .skip (.exit 4)
def c4_78 : Code := .seq (codeN b4 1097727) c4_80
def c4_88 : Code := codeN b4 10797055
def c4_87 : Code := .cond (.tmp 144) c4_88 .skip
def c4_85 : Code := .seq (codeN b4 4505599) c4_87
def c4_90 : Code := codeN b4 1884159
def c4_83 : Code := .seq (.block 5 c4_85) c4_90
def c4_77 : Code := .seq c4_78 c4_83
def c4_76 : Code := .loop c4_77
def c4_75 : Code := .block 4 c4_76
def c4_73 : Code := .seq (codeN b4 81919) c4_75
def c4_91 : Code := .seq (codeN b4 98303) .ret
theorem e4_91 : evK gS fi4 c4_91 fr st k = opsR gS fi4 [mv 147 17 3,
 mv 148 12 22,
 len1 149 148 22 3,
 bop 150 .eql 3 147 149 3 4,
 mv 151 150 4,
 mk (some 152) (.move (.tmp 17)) 3 (some (4, true)),
 mk (some 153) (.binOp .geq 3 (.tmp 152) (.const (.int .i64 1)) 3) 4 (some (4, true)),
 op1 154 (.pick (.tmp 151) (.tmp 153) (.const (.bool false))) 4,
 asn 6 154 4] fr st (.seq .ret k) := evK_rs 28 rfl (by kernel_rfl)
def c4_72 : Code := .seq c4_73 c4_91
def c4_70 : Code := .seq (codeN b4 24575) c4_72
theorem e4_70 : evK gS fi4 c4_70 fr st k = opsR gS fi4 [op1 17 (.assign (.const (.int .i64 0))) 3] fr st (.seq c4_72 k) := evK_rs 22 rfl (by kernel_rfl)
def c4_49 : Code := .seq c4_50 c4_70
theorem e4_49 : evK gS fi4 c4_49 fr st k = evK gS fi4 c4_50 fr st (.seq c4_70 k) := rfl
def c4_28 : Code := .seq c4_29 c4_49
def c4_26 : Code := .seq (codeN b4 3071) c4_28
def c4_24 : Code := .seq (codeN b4 1535) c4_26
def c4_22 : Code := .seq (codeN b4 767) c4_24
def c4_20 : Code := .seq (codeN b4 383) c4_22
def c4_12 : Code := .seq c4_13 c4_20
def c4_10 : Code := .seq (codeN b4 95) c4_12
def c4_8 : Code := .seq (codeN b4 47) c4_10
def c4_6 : Code := .seq (codeN b4 23) c4_8
def c4_4 : Code := .seq (codeN b4 11) c4_6
def c4_2 : Code := .seq (codeN b4 5) c4_4
def c4_0 : Code := .seq (codeN b4 2) c4_2
theorem E4 : (evK gS fi4 c4_16 fr st k = opsR gS fi4 [cal 39 28 [] [] 4,
 mv 40 39 4,
 mk (some 41) (.move (.tmp 11)) 53 (some (1, true)),
 mk (some 42) (.call { callee := (.builtin .len), args := #[(.tmp 41)], argTypes := #[53] }) 3 (some (1, true)),
 mk (some 43) (.binOp .eql 3 (.tmp 42) (.const (.int .i64 0)) 3) 4 (some (1, true)),
 op1 44 (.pick (.tmp 40) (.tmp 43) (.const (.bool false))) 4,
 asn 6 44 4] fr st (.seq .ret k)) ∧
 evK gS fi4 c4_15 fr st k = condK gS fi4 (fr.op (.tmp 38)).bool? c4_16 .skip fr st k ∧
 (evK gS fi4 c4_13 fr st k = opsR gS fi4 [cal 32 28 [] [] 4,
 op1 33 (.unOp .not 4 (.tmp 32)) 4,
 mv 34 33 4,
 mk (some 35) (.move (.tmp 10)) 32 (some (2, false)),
 mk (some 36) (.call { callee := (.builtin .len), args := #[(.tmp 35)], argTypes := #[32] }) 3 (some (2, false)),
 mk (some 37) (.binOp .eql 3 (.tmp 36) (.const (.int .i64 0)) 3) 4 (some (2, false)),
 op1 38 (.pick (.tmp 34) (.const (.bool true)) (.tmp 37)) 4] fr st (.seq c4_15 k)) ∧
 evK gS fi4 c4_36 fr st k = condK gS fi4 (fr.op (.tmp 70)).bool? .skip (.exit 0) fr st k ∧
 (evK gS fi4 c4_34 fr st k = opsR gS fi4 [mv 67 15 3,
 mv 68 12 22,
 len1 69 68 22 3,
 bop 70 .lss 3 67 69 3 4] fr st (.seq c4_36 k)) ∧
 evK gS fi4 c4_44 fr st k = opsR gS fi4 [op1 6 (.assign (.const (.bool false))) 4] fr st (.seq .ret k) ∧
 evK gS fi4 c4_43 fr st k = condK gS fi4 (fr.op (.tmp 119)).bool? c4_44 .skip fr st k ∧
 (evK gS fi4 c4_41 fr st k = opsR gS fi4 [mv 73 13 22,
 mv 74 12 22,
 mv 75 15 3,
 ixa 76 22 74 75 0,
 ld 77 3 76 3,
 cal 78 32 [(.tmp 73), (.tmp 77)] [22, 3] 4,
 op1 79 (.unOp .not 4 (.tmp 78)) 4,
 mv 80 79 4,
 mk (some 81) (.move (.tmp 12)) 22 (some (7, false)),
 mk (some 82) (.move (.tmp 15)) 3 (some (7, false)),
 mk (some 83) (.indexAddr 22 (.tmp 81) (.tmp 82)) 0 (some (7, false)),
 mk (some 84) (.load 3 (.tmp 83)) 3 (some (7, false)),
 mk (some 85) (.binOp .lss 3 (.tmp 84) (.const (.int .i64 0)) 3) 4 (some (7, false)),
 op1 86 (.pick (.tmp 80) (.const (.bool true)) (.tmp 85)) 4,
 mv 87 86 4,
 mk (some 88) (.move (.tmp 12)) 22 (some (14, false)),
 mk (some 89) (.move (.tmp 15)) 3 (some (14, false)),
 mk (some 90) (.indexAddr 22 (.tmp 88) (.tmp 89)) 0 (some (14, false)),
 mk (some 91) (.load 3 (.tmp 90)) 3 (some (14, false)),
 mk (some 92) (.move (.tmp 11)) 53 (some (14, false)),
 mk (some 93) (.call { callee := (.builtin .len), args := #[(.tmp 92)], argTypes := #[53] }) 3 (some (14, false)),
 mk (some 94) (.binOp .geq 3 (.tmp 91) (.tmp 93) 3) 4 (some (14, false)),
 op1 95 (.pick (.tmp 87) (.const (.bool true)) (.tmp 94)) 4,
 mv 96 95 4,
 mk (some 97) (.move (.tmp 11)) 53 (some (23, false)),
 mk (some 98) (.move (.tmp 12)) 22 (some (23, false)),
 mk (some 99) (.move (.tmp 15)) 3 (some (23, false)),
 mk (some 100) (.indexAddr 22 (.tmp 98) (.tmp 99)) 0 (some (23, false)),
 mk (some 101) (.load 3 (.tmp 100)) 3 (some (23, false)),
 mk (some 102) (.indexAddr 53 (.tmp 97) (.tmp 101)) 0 (some (23, false)),
 mk (some 103) (.fieldAddr 59 (.tmp 102) 0) 0 (some (23, false)),
 mk (some 104) (.load 3 (.tmp 103)) 3 (some (23, false)),
 mk (some 105) (.move (.tmp 1)) 3 (some (23, false)),
 mk (some 106) (.binOp .neq 3 (.tmp 104) (.tmp 105) 3) 4 (some (23, false)),
 mk (some 107) (.move (.tmp 106)) 4 (some (23, false)),
 mk (some 108) (.move (.tmp 11)) 53 (some (34, true)),
 mk (some 109) (.move (.tmp 12)) 22 (some (34, true)),
 mk (some 110) (.move (.tmp 15)) 3 (some (34, true)),
 mk (some 111) (.indexAddr 22 (.tmp 109) (.tmp 110)) 0 (some (34, true)),
 mk (some 112) (.load 3 (.tmp 111)) 3 (some (34, true)),
 mk (some 113) (.indexAddr 53 (.tmp 108) (.tmp 112)) 0 (some (34, true)),
 mk (some 114) (.fieldAddr 59 (.tmp 113) 1) 0 (some (34, true)),
 mk (some 115) (.load 3 (.tmp 114)) 3 (some (34, true)),
 mk (some 116) (.move (.tmp 1)) 3 (some (34, true)),
 mk (some 117) (.binOp .neq 3 (.tmp 115) (.tmp 116) 3) 4 (some (34, true)),
 mk (some 118) (.pick (.tmp 107) (.tmp 117) (.const (.bool false))) 4 (some (23, false)),
 op1 119 (.pick (.tmp 96) (.const (.bool true)) (.tmp 118)) 4] fr st (.seq c4_43 k)) ∧
 (evK gS fi4 c4_48 fr st k = opsR gS fi4 [mv 71 15 3,
 op1 72 (.binOp .add 3 (.tmp 71) (.const (.int .i64 1)) 3) 3,
 asn 15 72 3] fr st k) ∧
 evK gS fi4 c4_39 fr st k = evK gS fi4 c4_41 fr st (.blk 1 (.seq c4_48 k)) ∧
 evK gS fi4 c4_33 fr st k = evK gS fi4 c4_34 fr st (.seq c4_39 k) ∧
 evK gS fi4 c4_31 fr st k = evK gS fi4 c4_32 fr st (.blk 0 k) ∧
 evK gS fi4 c4_29 fr st k = opsR gS fi4 [op1 15 (.assign (.const (.int .i64 0))) 3] fr st (.seq c4_31 k) ∧
 evK gS fi4 c4_57 fr st k = condK gS fi4 (fr.op (.tmp 123)).bool? .skip (.exit 2) fr st k ∧
 (evK gS fi4 c4_55 fr st k = opsR gS fi4 [mv 120 16 3,
 mv 121 14 22,
 len1 122 121 22 3,
 bop 123 .lss 3 120 122 3 4] fr st (.seq c4_57 k)) ∧
 evK gS fi4 c4_65 fr st k = opsR gS fi4 [op1 6 (.assign (.const (.bool false))) 4] fr st (.seq .ret k) ∧
 evK gS fi4 c4_64 fr st k = condK gS fi4 (fr.op (.tmp 132)).bool? c4_65 .skip fr st k ∧
 (evK gS fi4 c4_62 fr st k = opsR gS fi4 [mv 126 13 22,
 mv 127 14 22,
 mv 128 16 3,
 ixa 129 22 127 128 0,
 ld 130 3 129 3,
 cal 131 32 [(.tmp 126), (.tmp 130)] [22, 3] 4,
 op1 132 (.unOp .not 4 (.tmp 131)) 4] fr st (.seq c4_64 k)) ∧
 (evK gS fi4 c4_69 fr st k = opsR gS fi4 [mv 124 16 3,
 op1 125 (.binOp .add 3 (.tmp 124) (.const (.int .i64 1)) 3) 3,
 asn 16 125 3] fr st k) ∧
 evK gS fi4 c4_60 fr st k = evK gS fi4 c4_62 fr st (.blk 3 (.seq c4_69 k)) ∧
 evK gS fi4 c4_54 fr st k = evK gS fi4 c4_55 fr st (.seq c4_60 k) ∧
 evK gS fi4 c4_52 fr st k = evK gS fi4 c4_53 fr st (.blk 2 k) ∧
 evK gS fi4 c4_50 fr st k = opsR gS fi4 [op1 16 (.assign (.const (.int .i64 0))) 3] fr st (.seq c4_52 k) ∧
 evK gS fi4 c4_80 fr st k = condK gS fi4 (fr.op (.tmp 136)).bool? .skip (.exit 4) fr st k ∧
 (evK gS fi4 c4_78 fr st k = opsR gS fi4 [mv 133 18 3,
 mv 134 10 32,
 len1 135 134 32 3,
 bop 136 .lss 3 133 135 3 4] fr st (.seq c4_80 k)) ∧
 (evK gS fi4 c4_88 fr st k = opsR gS fi4 [mv 145 17 3,
 op1 146 (.binOp .add 3 (.tmp 145) (.const (.int .i64 1)) 3) 3,
 asn 17 146 3] fr st k) ∧
 evK gS fi4 c4_87 fr st k = condK gS fi4 (fr.op (.tmp 144)).bool? c4_88 .skip fr st k ∧
 (evK gS fi4 c4_85 fr st k = opsR gS fi4 [mv 139 10 32,
 mv 140 1 3,
 mv 141 18 3,
 cal 142 22 [(.tmp 139), (.tmp 140), (.tmp 141)] [32, 3, 3] 22,
 len1 143 142 22 3,
 op1 144 (.binOp .gtr 3 (.tmp 143) (.const (.int .i64 0)) 3) 4] fr st (.seq c4_87 k)) ∧
 (evK gS fi4 c4_90 fr st k = opsR gS fi4 [mv 137 18 3,
 op1 138 (.binOp .add 3 (.tmp 137) (.const (.int .i64 1)) 3) 3,
 asn 18 138 3] fr st k) ∧
 evK gS fi4 c4_83 fr st k = evK gS fi4 c4_85 fr st (.blk 5 (.seq c4_90 k)) ∧
 evK gS fi4 c4_77 fr st k = evK gS fi4 c4_78 fr st (.seq c4_83 k) ∧
 evK gS fi4 c4_75 fr st k = evK gS fi4 c4_76 fr st (.blk 4 k) ∧
 evK gS fi4 c4_73 fr st k = opsR gS fi4 [op1 18 (.assign (.const (.int .i64 0))) 3] fr st (.seq c4_75 k) ∧
 evK gS fi4 c4_72 fr st k = evK gS fi4 c4_73 fr st (.seq c4_91 k) ∧
 evK gS fi4 c4_28 fr st k = evK gS fi4 c4_29 fr st (.seq c4_49 k) ∧
 (evK gS fi4 c4_26 fr st k = opsR gS fi4 [mv 62 11 53,
 mv 63 1 3,
 mv 64 2 3,
 op1 65 (.buildSlice 22 2 #[(0, (.tmp 63)), (1, (.tmp 64))]) 22,
 cal 66 31 [(.tmp 62), (.tmp 65)] [53, 22] 22,
 asn 14 66 22] fr st (.seq c4_28 k)) ∧
 (evK gS fi4 c4_24 fr st k = opsR gS fi4 [mv 57 11 53,
 mv 58 1 3,
 mv 59 2 3,
 op1 60 (.buildSlice 22 2 #[(0, (.tmp 58)), (1, (.tmp 59))]) 22,
 cal 61 30 [(.tmp 57), (.tmp 60)] [53, 22] 22,
 asn 13 61 22] fr st (.seq c4_26 k)) ∧
 (evK gS fi4 c4_22 fr st k = opsR gS fi4 [mv 53 11 53,
 mv 54 1 3,
 op1 55 (.buildSlice 22 1 #[(0, (.tmp 54))]) 22,
 cal 56 30 [(.tmp 53), (.tmp 55)] [53, 22] 22,
 asn 12 56 22] fr st (.seq c4_24 k)) ∧
 (evK gS fi4 c4_20 fr st k = opsR gS fi4 [mv 45 1 3,
 mv 46 10 32,
 len1 47 46 32 3,
 cal 48 29 [(.tmp 45), (.tmp 47)] [3, 3] 3,
 mv 49 2 3,
 mv 50 10 32,
 len1 51 50 32 3,
 cal 52 29 [(.tmp 49), (.tmp 51)] [3, 3] 3,
 asn 1 48 3,
 asn 2 52 3] fr st (.seq c4_22 k)) ∧
 evK gS fi4 c4_12 fr st k = evK gS fi4 c4_13 fr st (.seq c4_20 k) ∧
 (evK gS fi4 c4_10 fr st k = opsR gS fi4 [mv 29 8 22,
 mv 30 9 26,
 cal 31 27 [(.tmp 29), (.tmp 30)] [22, 26] 53,
 asn 11 31 53] fr st (.seq c4_12 k)) ∧
 (evK gS fi4 c4_8 fr st k = opsR gS fi4 [mv 27 9 26,
 cal 28 12 [(.tmp 27)] [26] 32,
 asn 10 28 32] fr st (.seq c4_10 k)) ∧
 (evK gS fi4 c4_6 fr st k = opsR gS fi4 [mv 24 7 23,
 mv 25 8 22,
 cal 26 10 [(.tmp 24), (.tmp 25)] [23, 22] 26,
 asn 9 26 26] fr st (.seq c4_8 k)) ∧
 (evK gS fi4 c4_4 fr st k = opsR gS fi4 [mv 22 7 23,
 cal 23 26 [(.tmp 22), (.const (.int .i64 8))] [23, 3] 22,
 asn 8 23 22] fr st (.seq c4_6 k)) ∧
 (evK gS fi4 c4_2 fr st k = opsR gS fi4 [mv 19 0 22,
 op1 20 (.build 25 #[(0, (.tmp 19))]) 25,
 op1 21 (.box 25 (.tmp 20)) 23,
 asn 7 21 23] fr st (.seq c4_4 k)) ∧
 evK gS fi4 c4_0 fr st k = opsR gS fi4 [op1 6 (.assign (.const (.bool false))) 4] fr st (.seq c4_2 k) := ⟨evK_rs 7 rfl (by kernel_rfl), rfl, evK_rs 6 rfl (by kernel_rfl), rfl, evK_rs 13 rfl (by kernel_rfl), evK_rs 16 rfl (by kernel_rfl), rfl, evK_rs 15 rfl (by kernel_rfl), evK_r 14 (by kernel_rfl), rfl, rfl, rfl, evK_rs 12 rfl (by kernel_rfl), rfl, evK_rs 18 rfl (by kernel_rfl), evK_rs 21 rfl (by kernel_rfl), rfl, evK_rs 20 rfl (by kernel_rfl), evK_r 19 (by kernel_rfl), rfl, rfl, rfl, evK_rs 17 rfl (by kernel_rfl), rfl, evK_rs 24 rfl (by kernel_rfl), evK_r 27 (by kernel_rfl), rfl, evK_rs 26 rfl (by kernel_rfl), evK_r 25 (by kernel_rfl), rfl, rfl, rfl, evK_rs 23 rfl (by kernel_rfl), rfl, rfl, evK_rs 11 rfl (by kernel_rfl), evK_rs 10 rfl (by kernel_rfl), evK_rs 9 rfl (by kernel_rfl), evK_rs 8 rfl (by kernel_rfl), rfl, evK_rs 5 rfl (by kernel_rfl), evK_rs 4 rfl (by kernel_rfl), evK_rs 3 rfl (by kernel_rfl), evK_rs 2 rfl (by kernel_rfl), evK_rs 1 rfl (by kernel_rfl), evK_rs 0 rfl (by kernel_rfl)⟩
theorem m4 : mini fi4.body = c4_0 := by kernel_rfl
theorem n4_32 (fr : Fr) (st : St) (k : Kt) : nextK gS fi4 (.loop c4_33 k) .normal fr st = evK gS fi4 c4_32 fr st k := rfl
theorem n4_53 (fr : Fr) (st : St) (k : Kt) : nextK gS fi4 (.loop c4_54 k) .normal fr st = evK gS fi4 c4_53 fr st k := rfl
theorem n4_76 (fr : Fr) (st : St) (k : Kt) : nextK gS fi4 (.loop c4_77 k) .normal fr st = evK gS fi4 c4_76 fr st k := rfl
set_option maxHeartbeats 8000000 in
theorem LA (l1 : List Int) (o : Nat) (mo : Int) (id : Nat) (p : List Int) (xs : List Sub) (g : List Grp) (ch : List Atom) (a b d : List Int) (hb : b.length < 100000) (hg1 : ∀ x ∈ g, x.clients.length < 1000) (hg2 : g.length < 100000) (ho : o < g.length) (hal : a.length < 100000) (hdl : d.length < 100000) (S : St) (R : Out × St) (HA : ∀ x ∈ a, hasI b x = true ∧ ∃ (k : Nat) (y : Atom), x = (k : Int) ∧ ch[k]? = some y ∧ (y.a = (o : Int) ∨ y.b = (o : Int))) 
    (H : ∀ (e16 e17 e18 : E) (T : List (Nat × E)) (X : List (Nat × List V)), e16.Tame → e17.Tame → e18.Tame → evK gS fi4 c4_49 { ps := [(0, .val (.slice (intVs l1))), (1, .val (.int .i64 (o : Nat))), (2, .val (.int .i64 mo)), (6, .val (.bool false)), (7, .val (.ptr id 0)), (8, .val (.slice (intVs p))), (9, .val (.slice (encSubs xs))), (10, .val (.slice (encGrps g))), (11, .val (.slice (encAtoms ch))), (12, .val (.slice (intVs a))), (13, .val (.slice (intVs b))), (14, .val (.slice (intVs d))), (15, .val (.int .i64 a.length)), (16, e16), (17, e17), (18, e18)], ts := T, lc := X } S .nil = some R) :
    ∀ (m q : Nat) (e16 e17 e18 : E) (T : List (Nat × E)) (X : List (Nat × List V)) (h16 : e16.Tame) (h17 : e17.Tame) (h18 : e18.Tame), q ≤ a.length → a.length - q = m → 
    evK gS fi4 c4_32 { ps := [(0, .val (.slice (intVs l1))), (1, .val (.int .i64 (o : Nat))), (2, .val (.int .i64 mo)), (6, .val (.bool false)), (7, .val (.ptr id 0)), (8, .val (.slice (intVs p))), (9, .val (.slice (encSubs xs))), (10, .val (.slice (encGrps g))), (11, .val (.slice (encAtoms ch))), (12, .val (.slice (intVs a))), (13, .val (.slice (intVs b))), (14, .val (.slice (intVs d))), (15, .val (.int .i64 (q : Nat))), (16, e16), (17, e17), (18, e18)], ts := T, lc := X } S (.blk 0 (.seq c4_49 .nil)) = some R := by
  intro m
  have hm : fi4.marks = [] := rfl
  have hl : fi4.locals = [] := rfl
  have hr : fi4.results = [.tmp 6] := rfl
  induction m with
  | zero =>
    intro q e16 e17 e18 T X h16 h17 h18 hq hm2 
    obtain rfl : q = a.length := by omega
    refine evK_loop c4_33 _ _ _ _ rfl ?_
    simp (config := { implicitDefEqProofs := false }) [-Int.natCast_add, -St.obj, -St.set, h16, h17, h18, -Int.not_le, -Int.not_lt, -Nat.not_le, -Nat.not_lt, ty3, ty4, ty22, ty23, ty25, ty26, ty32, ty53, ty59, eq59, hm, hl, hr, k28, E4, e4_91, e4_70, n4_32, n4_53, n4_76]
    exact H _ _ _ _ _ h16 h17 h18
  | succ m ih =>
    intro q e16 e17 e18 T X h16 h17 h18 hq hm2 
    obtain ⟨x, hx⟩ : ∃ x, a[q]? = some x := ⟨a[q]'(by omega), List.getElem?_eq_getElem (by omega)⟩
    have hlt : (q : Int) < (a.length : Int) := by omega
    obtain ⟨hlt2, hxe⟩ := List.getElem?_eq_some_iff.1 hx
    have hw : IntKind.wrap .i64 ((q : Int) + 1) = ((q + 1 : Nat) : Int) := by rw [wrap64 (by omega) (by omega)]; omega
    obtain ⟨h1, k, y, rfl, hy, h2⟩ := HA x (List.mem_of_getElem? hx)
    have kk : ∀ (fr : Fr) (st : St), callStep gS (EvF gS) 32 [.slice (intVs b), .int .i64 (k : Nat)] fr st = some (.ok (.val (.bool true)) fr st) := fun fr st => by rw [k32 b (k : Int) (by omega) fr st, h1]; rfl
    have IH := fun e16 e17 e18 T X h16 h17 h18 => ih (q + 1) e16 e17 e18 T X h16 h17 h18 (by omega) (by omega)
    obtain ⟨y1, y2⟩ := List.getElem?_eq_some_iff.1 hy
    have n0 : ¬ ((k : Int) < 0) := by omega
    have n1 : ¬ ((ch.length : Int) ≤ (k : Int)) := by omega
    have n1' : ¬ ch.length ≤ k := by omega
    have n2 : (k : Int) < (ch.length : Int) := by omega
    refine evK_loop c4_33 _ _ _ _ rfl ?_
    by_cases ca : y.a = (o : Int)
    · simp (config := { implicitDefEqProofs := false }) [-Int.natCast_add, h16, h17, h18, hx, hxe, hlt, hlt2, hw, kk, n0, n1, n1', n2, hy, y1, y2, ca, -Int.not_le, -Int.not_lt, -Nat.not_le, -Nat.not_lt, ty3, ty4, ty22, ty23, ty25, ty26, ty32, ty53, ty59, eq59, hm, hl, hr, k28, E4, e4_91, e4_70, e4_49, n4_32, n4_53, n4_76]
      exact IH _ _ _ _ _ h16 h17 h18
    · have cb : y.b = (o : Int) := h2.resolve_left ca
      simp (config := { implicitDefEqProofs := false }) [-Int.natCast_add, h16, h17, h18, hx, hxe, hlt, hlt2, hw, kk, n0, n1, n1', n2, hy, y1, y2, ca, cb, -Int.not_le, -Int.not_lt, -Nat.not_le, -Nat.not_lt, ty3, ty4, ty22, ty23, ty25, ty26, ty32, ty53, ty59, eq59, hm, hl, hr, k28, E4, e4_91, e4_70, e4_49, n4_32, n4_53, n4_76]
      exact IH _ _ _ _ _ h16 h17 h18
set_option maxHeartbeats 8000000 in
theorem LB (l1 : List Int) (o : Nat) (mo : Int) (id : Nat) (p : List Int) (xs : List Sub) (g : List Grp) (ch : List Atom) (a b d : List Int) (hb : b.length < 100000) (hg1 : ∀ x ∈ g, x.clients.length < 1000) (hg2 : g.length < 100000) (ho : o < g.length) (hal : a.length < 100000) (hdl : d.length < 100000) (S : St) (R : Out × St) (HB : ∀ x ∈ d, hasI b x = true) 
    (H : ∀ (e15 e17 e18 : E) (T : List (Nat × E)) (X : List (Nat × List V)), e15.Tame → e17.Tame → e18.Tame → evK gS fi4 c4_70 { ps := [(0, .val (.slice (intVs l1))), (1, .val (.int .i64 (o : Nat))), (2, .val (.int .i64 mo)), (6, .val (.bool false)), (7, .val (.ptr id 0)), (8, .val (.slice (intVs p))), (9, .val (.slice (encSubs xs))), (10, .val (.slice (encGrps g))), (11, .val (.slice (encAtoms ch))), (12, .val (.slice (intVs a))), (13, .val (.slice (intVs b))), (14, .val (.slice (intVs d))), (15, e15), (16, .val (.int .i64 d.length)), (17, e17), (18, e18)], ts := T, lc := X } S .nil = some R) :
    ∀ (m q : Nat) (e15 e17 e18 : E) (T : List (Nat × E)) (X : List (Nat × List V)) (h15 : e15.Tame) (h17 : e17.Tame) (h18 : e18.Tame), q ≤ d.length → d.length - q = m → 
    evK gS fi4 c4_53 { ps := [(0, .val (.slice (intVs l1))), (1, .val (.int .i64 (o : Nat))), (2, .val (.int .i64 mo)), (6, .val (.bool false)), (7, .val (.ptr id 0)), (8, .val (.slice (intVs p))), (9, .val (.slice (encSubs xs))), (10, .val (.slice (encGrps g))), (11, .val (.slice (encAtoms ch))), (12, .val (.slice (intVs a))), (13, .val (.slice (intVs b))), (14, .val (.slice (intVs d))), (15, e15), (16, .val (.int .i64 (q : Nat))), (17, e17), (18, e18)], ts := T, lc := X } S (.blk 2 (.seq c4_70 .nil)) = some R := by
  intro m
  have hm : fi4.marks = [] := rfl
  have hl : fi4.locals = [] := rfl
  have hr : fi4.results = [.tmp 6] := rfl
  induction m with
  | zero =>
    intro q e15 e17 e18 T X h15 h17 h18 hq hm2 
    obtain rfl : q = d.length := by omega
    refine evK_loop c4_54 _ _ _ _ rfl ?_
    simp (config := { implicitDefEqProofs := false }) [-Int.natCast_add, -St.obj, -St.set, h15, h17, h18, -Int.not_le, -Int.not_lt, -Nat.not_le, -Nat.not_lt, ty3, ty4, ty22, ty23, ty25, ty26, ty32, ty53, ty59, eq59, hm, hl, hr, k28, E4, e4_91, e4_49, n4_32, n4_53, n4_76]
    exact H _ _ _ _ _ h15 h17 h18
  | succ m ih =>
    intro q e15 e17 e18 T X h15 h17 h18 hq hm2 
    obtain ⟨x, hx⟩ : ∃ x, d[q]? = some x := ⟨d[q]'(by omega), List.getElem?_eq_getElem (by omega)⟩
    have hlt : (q : Int) < (d.length : Int) := by omega
    obtain ⟨hlt2, hxe⟩ := List.getElem?_eq_some_iff.1 hx
    have hw : IntKind.wrap .i64 ((q : Int) + 1) = ((q + 1 : Nat) : Int) := by rw [wrap64 (by omega) (by omega)]; omega
    have h1 := HB x (List.mem_of_getElem? hx)
    have kk : ∀ (fr : Fr) (st : St), callStep gS (EvF gS) 32 [.slice (intVs b), .int .i64 x] fr st = some (.ok (.val (.bool true)) fr st) := fun fr st => by rw [k32 b x (by omega) fr st, h1]; rfl
    have IH := fun e15 e17 e18 T X h15 h17 h18 => ih (q + 1) e15 e17 e18 T X h15 h17 h18 (by omega) (by omega)
    refine evK_loop c4_54 _ _ _ _ rfl ?_
    simp (config := { implicitDefEqProofs := false }) [-Int.natCast_add, h15, h17, h18, hx, hxe, hlt, hlt2, hw, kk, -Int.not_le, -Int.not_lt, -Nat.not_le, -Nat.not_lt, ty3, ty4, ty22, ty23, ty25, ty26, ty32, ty53, ty59, eq59, hm, hl, hr, k28, E4, e4_91, e4_70, e4_49, n4_32, n4_53, n4_76]
    exact IH _ _ _ _ _ h15 h17 h18
set_option maxHeartbeats 8000000 in
theorem LC (l1 : List Int) (o : Nat) (mo : Int) (id : Nat) (p : List Int) (xs : List Sub) (g : List Grp) (ch : List Atom) (a b d : List Int) (hb : b.length < 100000) (hg1 : ∀ x ∈ g, x.clients.length < 1000) (hg2 : g.length < 100000) (ho : o < g.length) (hal : a.length < 100000) (hdl : d.length < 100000) (S : St) (R : Out × St) (u : Grp) (hu : g[o]? = some u) (fin : Nat)
    (H : ∀ (e15 e16 : E) (T : List (Nat × E)) (X : List (Nat × List V)), e15.Tame → e16.Tame → evK gS fi4 c4_91 { ps := [(0, .val (.slice (intVs l1))), (1, .val (.int .i64 (o : Nat))), (2, .val (.int .i64 mo)), (6, .val (.bool false)), (7, .val (.ptr id 0)), (8, .val (.slice (intVs p))), (9, .val (.slice (encSubs xs))), (10, .val (.slice (encGrps g))), (11, .val (.slice (encAtoms ch))), (12, .val (.slice (intVs a))), (13, .val (.slice (intVs b))), (14, .val (.slice (intVs d))), (15, e15), (16, e16), (17, .val (.int .i64 (fin : Nat))), (18, .val (.int .i64 g.length))], ts := T, lc := X } S .nil = some R) :
    ∀ (m q : Nat) (k : Nat) (e15 e16 : E) (T : List (Nat × E)) (X : List (Nat × List V)) (h15 : e15.Tame) (h16 : e16.Tame), q ≤ g.length → g.length - q = m → fin = (g.drop q).foldl (cntStep u) k → k ≤ q →
    evK gS fi4 c4_76 { ps := [(0, .val (.slice (intVs l1))), (1, .val (.int .i64 (o : Nat))), (2, .val (.int .i64 mo)), (6, .val (.bool false)), (7, .val (.ptr id 0)), (8, .val (.slice (intVs p))), (9, .val (.slice (encSubs xs))), (10, .val (.slice (encGrps g))), (11, .val (.slice (encAtoms ch))), (12, .val (.slice (intVs a))), (13, .val (.slice (intVs b))), (14, .val (.slice (intVs d))), (15, e15), (16, e16), (17, .val (.int .i64 (k : Nat))), (18, .val (.int .i64 (q : Nat)))], ts := T, lc := X } S (.blk 4 (.seq c4_91 .nil)) = some R := by
  intro m
  have hm : fi4.marks = [] := rfl
  have hl : fi4.locals = [] := rfl
  have hr : fi4.results = [.tmp 6] := rfl
  induction m with
  | zero =>
    intro q k e15 e16 T X h15 h16 hq hm2 hf hkq
    obtain rfl : q = g.length := by omega
    rw [List.drop_length] at hf
    simp only [List.foldl_nil] at hf
    subst hf
    refine evK_loop c4_77 _ _ _ _ rfl ?_
    simp (config := { implicitDefEqProofs := false }) [-Int.natCast_add, -St.obj, -St.set, h15, h16, -Int.not_le, -Int.not_lt, -Nat.not_le, -Nat.not_lt, ty3, ty4, ty22, ty23, ty25, ty26, ty32, ty53, ty59, eq59, hm, hl, hr, k28, E4, e4_70, e4_49, n4_32, n4_53, n4_76]
    exact H _ _ _ _ h15 h16
  | succ m ih =>
    intro q k e15 e16 T X h15 h16 hq hm2 hf hkq
    obtain ⟨x, hx⟩ : ∃ x, g[q]? = some x := ⟨g[q]'(by omega), List.getElem?_eq_getElem (by omega)⟩
    have hlt : (q : Int) < (g.length : Int) := by omega
    obtain ⟨hlt2, hxe⟩ := List.getElem?_eq_some_iff.1 hx
    have hw : IntKind.wrap .i64 ((q : Int) + 1) = ((q + 1 : Nat) : Int) := by rw [wrap64 (by omega) (by omega)]; omega
    have hug := hg1 u (List.mem_of_getElem? hu)
    have hxg := hg1 x (List.mem_of_getElem? hx)
    have kk := fun fr st => k22 g o q u x hu hx hug hxg fr st
    rw [drop_get hx, List.foldl_cons] at hf
    have hkb : k ≤ q := hkq
    have hwk : IntKind.wrap .i64 ((k : Int) + 1) = ((k + 1 : Nat) : Int) := by rw [wrap64 (by omega) (by omega)]; omega
    rw [show cntStep u k x = if bothI x.clients u.clients [] = [] then k else k + 1 from rfl] at hf
    generalize bothI x.clients u.clients [] = z at *
    refine evK_loop c4_77 _ _ _ _ rfl ?_
    by_cases hz : z = []
    · rw [if_pos hz] at hf
      subst hz
      have IH := fun e15 e16 T X h15 h16 => ih (q + 1) k e15 e16 T X h15 h16 (by omega) (by omega) hf (by omega)
      simp (config := { implicitDefEqProofs := false }) [-Int.natCast_add, h15, h16, hx, hxe, hlt, hlt2, hw, kk, show intVs [] = [] from rfl, -Int.not_le, -Int.not_lt, -Nat.not_le, -Nat.not_lt, ty3, ty4, ty22, ty23, ty25, ty26, ty32, ty53, ty59, eq59, hm, hl, hr, k28, E4, e4_91, e4_70, e4_49, n4_32, n4_53, n4_76]
      exact IH _ _ _ _ h15 h16
    · rw [if_neg hz] at hf
      have IH := fun e15 e16 T X h15 h16 => ih (q + 1) (k + 1) e15 e16 T X h15 h16 (by omega) (by omega) hf (by omega)
      have z1 : (0 : Int) < (z.length : Int) := by have := List.length_pos_iff.2 hz; omega
      have z2 : 0 < z.length := List.length_pos_iff.2 hz
      simp (config := { implicitDefEqProofs := false }) [-Int.natCast_add, h15, h16, hx, hxe, hlt, hlt2, hw, hwk, kk, hz, z1, z2, -Int.not_le, -Int.not_lt, -Nat.not_le, -Nat.not_lt, ty3, ty4, ty22, ty23, ty25, ty26, ty32, ty53, ty59, eq59, hm, hl, hr, k28, E4, e4_91, e4_70, e4_49, n4_32, n4_53, n4_76]
      exact IH _ _ _ _ h15 h16
set_option maxHeartbeats 8000000 in
theorem c4 (l1 : List Int) (o0 m0 : Int) (st0 : St) (hst : st0.wp ≤ st0.objs.length) : ∃ st', EvF gS 4 [.slice (intVs l1), .int .i64 o0, .int .i64 m0] st0 = some (.ret (.bool true) none, st') := by
  have hm : fi4.marks = [] := rfl
  have hl : fi4.locals = [] := rfl
  have hr : fi4.results = [.tmp 6] := rfl
  have hf := feedOk_new hst
  have n1 := new_feed st0 l1
  obtain ⟨id, hid⟩ : ∃ id, st0.objs.length = id := ⟨_, rfl⟩
  rw [hid] at hf n1
  have k1 := fun fr => k26 l1 0 0 id 8 fr (nw st0 0 []) hf (by omega) (by omega) (by omega) (by omega)
  have hpr := treeV_right l1 0 0 (most := 8) (by omega) (by omega)
  have hj := fd_bound l1 0 0 (n := 8) (by omega)
  generalize treeV l1 0 0 8 = p at *
  generalize hJ : 0 + 1 + (fd l1 0 0 8).toNat = J at *
  have hJb : J ≤ 9 := by omega
  have hp7 : p.length ≤ 7 := by simp only [rightT, Bool.and_eq_true, decide_eq_true_eq] at hpr; omega
  have k2 := fun fr => k10 l1 0 J id fr (nw st0 0 []) hf (by omega) (by omega) p (by omega)
  have hall := subsV_all l1 0 J p.length
  have hlen := (subsV_asks l1 0 J p.length).2
  have hrs := subsV_right l1 0 J p.length hp7
  generalize subsV l1 0 J p.length = P1 at *
  obtain ⟨xs, J2, D⟩ := P1
  simp only at k2 hall hlen hrs
  have hx1 : ∀ s ∈ xs, PSm s.filter := fun s hs => psm_ffv (hall s hs).2.2
  have k3 := fun fr st => k12 xs hx1 (by omega) fr st
  have k4 := fun fr st => k27 p (by omega) xs hx1 (by omega) fr st
  generalize hS0 : setF (dd (nw st0 0 []) D) id l1 (nA l1 0 J2) = S at k2
  have hce := chainOf_eq hpr hrs.1 hrs.2
  have hgl := gof_len xs
  have hgc : ∀ x ∈ gof xs, x.clients ≠ [] := fun x hx => gof_clients hx
  have hg1 : ∀ x ∈ gof xs, x.clients.length < 1000 := fun x hx => by
    obtain ⟨k, s, h1, h2, rfl⟩ := gof_mem.1 hx
    have := cliOf_len xs s; show (cliOf xs s).length < 1000; omega
  have hcl := ofA_len p (homesT p xs).1 (gof xs) (by omega)
  rw [hce] at k4
  clear hS0
  generalize (homesT p xs).1 = hh at *
  generalize gof xs = g at *
  have hg2 : g.length < 100000 := by omega
  refine ⟨S, ?_⟩
  by_cases hgn : g = []
  · subst hgn
    refine EvF_start fi244_eq (fun x h => by cases h) m4 ?_
    rw [st4]
    rw [show encGrps [] = [] from rfl] at k3
    rw [show ofA p hh [] ([] : List Grp).length 0 [] = [] from rfl, show encAtoms [] = [] from rfl] at k4
    simp (config := { implicitDefEqProofs := false }) [-St.obj, -St.set, hid, n1, k1, k2, k3, k4, k28, -Int.not_le, -Int.not_lt, -Nat.not_le, -Nat.not_lt, ty3, ty4, ty22, ty23, ty25, ty26, ty32, ty53, ty59, eq59, hm, hl, hr, k28, E4, e4_91, e4_70, e4_49, n4_32, n4_53, n4_76]
  have hgp : 0 < g.length := List.length_pos_iff.2 hgn
  have hgi : ¬ (g.length : Int) = 0 := by omega
  have ho1 := pickI_bound o0 (m := g.length) (by omega)
  have ho2 := pickI_bound m0 (m := g.length) (by omega)
  have kp1 := fun fr st => k29 o0 g.length (by omega) fr st
  have kp2 := fun fr st => k29 m0 g.length (by omega) fr st
  generalize pickI m0 g.length = mo at *
  obtain ⟨o, hoo⟩ : ∃ o : Nat, pickI o0 g.length = (o : Int) := ⟨_, (Int.toNat_of_nonneg ho1.1).symm⟩
  rw [hoo] at ho1 kp1
  have ho : o < g.length := by omega
  obtain ⟨u, hu⟩ : ∃ u, g[o]? = some u := ⟨g[o]'ho, List.getElem?_eq_getElem ho⟩
  have hcnt := way_count p hh g o ho u hu
  have hpos := way_pos g o ho u hu (hgc u (List.mem_of_getElem? hu))
  generalize ofA p hh g g.length 0 [] = ch at *
  have k5 := fun fr st => k30 ch [(o : Int)] (by simp) (by omega) fr st
  have k6 := fun fr st => k30 ch [(o : Int), mo] (by simp) (by omega) fr st
  have k7 := fun fr st => k31 ch [(o : Int), mo] (by simp) (by omega) fr st
  rw [show intVs [(o : Int)] = [.int .i64 (o : Int)] from rfl] at k5
  rw [show intVs [(o : Int), mo] = [.int .i64 (o : Int), .int .i64 mo] from rfl] at k6 k7
  have HA : ∀ x ∈ wayA ch [(o : Int)], hasI (wayA ch [(o : Int), mo]) x = true ∧ ∃ (k : Nat) (y : Atom), x = (k : Int) ∧ ch[k]? = some y ∧ (y.a = (o : Int) ∨ y.b = (o : Int)) := fun x hx => ⟨hasI_iff.2 (way_more hx), way_one hx⟩
  have HB : ∀ x ∈ ownA ch [(o : Int), mo], hasI (wayA ch [(o : Int), mo]) x = true := fun x hx => hasI_iff.2 (own_way hx)
  have hal : (wayA ch [(o : Int)]).length ≤ ch.length := wayG_le _ _
  have hb : (wayA ch [(o : Int), mo]).length ≤ ch.length := wayG_le _ _
  have hdl : (ownA ch [(o : Int), mo]).length ≤ ch.length := wayG_le _ _
  generalize wayA ch [(o : Int)] = a at *
  generalize wayA ch [(o : Int), mo] = b at *
  generalize ownA ch [(o : Int), mo] = d at *
  replace hal : a.length < 100000 := by omega
  replace hb : b.length < 100000 := by omega
  replace hdl : d.length < 100000 := by omega
  generalize hR : (Out.ret (V.bool true) none, S) = R
  have hpa : (1 : Int) ≤ (a.length : Int) := by omega
  have hpa' : 1 ≤ a.length := by omega
  have H91 : ∀ (e15 e16 : E) (T : List (Nat × E)) (X : List (Nat × List V)), e15.Tame → e16.Tame → evK gS fi4 c4_91 { ps := [(0, .val (.slice (intVs l1))), (1, .val (.int .i64 (o : Nat))), (2, .val (.int .i64 mo)), (6, .val (.bool false)), (7, .val (.ptr id 0)), (8, .val (.slice (intVs p))), (9, .val (.slice (encSubs xs))), (10, .val (.slice (encGrps g))), (11, .val (.slice (encAtoms ch))), (12, .val (.slice (intVs a))), (13, .val (.slice (intVs b))), (14, .val (.slice (intVs d))), (15, e15), (16, e16), (17, .val (.int .i64 (a.length : Nat))), (18, .val (.int .i64 g.length))], ts := T, lc := X } S .nil = some R := by
    intro e15 e16 T X h15 h16
    simp (config := { implicitDefEqProofs := false }) [-Int.natCast_add, h15, h16, hpa, hpa', hR, -Int.not_le, -Int.not_lt, -Nat.not_le, -Nat.not_lt, ty3, ty4, ty22, ty23, ty25, ty26, ty32, ty53, ty59, eq59, hm, hl, hr, k28, E4, e4_91, e4_70, e4_49, n4_32, n4_53, n4_76]
  have LLC := fun e15 e16 T X h15 h16 => LC l1 o mo id p xs g ch a b d hb hg1 hg2 ho hal hdl S R u hu a.length H91 g.length 0 0 e15 e16 T X h15 h16 (Nat.zero_le _) rfl (by rw [List.drop_zero]; exact hcnt.symm) (Nat.le_refl _)
  rw [show ((0 : Nat) : Int) = 0 from rfl] at LLC
  have H70 : ∀ (e15 e17 e18 : E) (T : List (Nat × E)) (X : List (Nat × List V)), e15.Tame → e17.Tame → e18.Tame → evK gS fi4 c4_70 { ps := [(0, .val (.slice (intVs l1))), (1, .val (.int .i64 (o : Nat))), (2, .val (.int .i64 mo)), (6, .val (.bool false)), (7, .val (.ptr id 0)), (8, .val (.slice (intVs p))), (9, .val (.slice (encSubs xs))), (10, .val (.slice (encGrps g))), (11, .val (.slice (encAtoms ch))), (12, .val (.slice (intVs a))), (13, .val (.slice (intVs b))), (14, .val (.slice (intVs d))), (15, e15), (16, .val (.int .i64 d.length)), (17, e17), (18, e18)], ts := T, lc := X } S .nil = some R := by
    intro e15 e17 e18 T X h15 h17 h18
    simp (config := { implicitDefEqProofs := false }) [-Int.natCast_add, h15, h17, h18, -Int.not_le, -Int.not_lt, -Nat.not_le, -Nat.not_lt, ty3, ty4, ty22, ty23, ty25, ty26, ty32, ty53, ty59, eq59, hm, hl, hr, k28, E4, e4_91, e4_70, e4_49, n4_32, n4_53, n4_76]
    exact LLC _ _ _ _ h15 (tame_val _)
  have LLB := fun e15 e17 e18 T X h15 h17 h18 => LB l1 o mo id p xs g ch a b d hb hg1 hg2 ho hal hdl S R HB H70 d.length 0  e15 e17 e18 T X h15 h17 h18 (Nat.zero_le _) rfl 
  rw [show ((0 : Nat) : Int) = 0 from rfl] at LLB
  have H49 : ∀ (e16 e17 e18 : E) (T : List (Nat × E)) (X : List (Nat × List V)), e16.Tame → e17.Tame → e18.Tame → evK gS fi4 c4_49 { ps := [(0, .val (.slice (intVs l1))), (1, .val (.int .i64 (o : Nat))), (2, .val (.int .i64 mo)), (6, .val (.bool false)), (7, .val (.ptr id 0)), (8, .val (.slice (intVs p))), (9, .val (.slice (encSubs xs))), (10, .val (.slice (encGrps g))), (11, .val (.slice (encAtoms ch))), (12, .val (.slice (intVs a))), (13, .val (.slice (intVs b))), (14, .val (.slice (intVs d))), (15, .val (.int .i64 a.length)), (16, e16), (17, e17), (18, e18)], ts := T, lc := X } S .nil = some R := by
    intro e16 e17 e18 T X h16 h17 h18
    simp (config := { implicitDefEqProofs := false }) [-Int.natCast_add, h16, h17, h18, -Int.not_le, -Int.not_lt, -Nat.not_le, -Nat.not_lt, ty3, ty4, ty22, ty23, ty25, ty26, ty32, ty53, ty59, eq59, hm, hl, hr, k28, E4, e4_91, e4_70, e4_49, n4_32, n4_53, n4_76]
    exact LLB _ _ _ _ _ (tame_val _) h17 h18
  have LLA := fun e16 e17 e18 T X h16 h17 h18 => LA l1 o mo id p xs g ch a b d hb hg1 hg2 ho hal hdl S R HA H49 a.length 0  e16 e17 e18 T X h16 h17 h18 (Nat.zero_le _) rfl 
  rw [show ((0 : Nat) : Int) = 0 from rfl] at LLA
  refine EvF_start fi244_eq (fun x h => by cases h) m4 ?_
  rw [st4]
  simp (config := { implicitDefEqProofs := false }) [-St.obj, -St.set, -Int.natCast_add, hid, n1, k1, k2, k3, k4, k28, hgn, hgi, hgp, kp1, kp2, k5, k6, k7, -Int.not_le, -Int.not_lt, -Nat.not_le, -Nat.not_lt, ty3, ty4, ty22, ty23, ty25, ty26, ty32, ty53, ty59, eq59, hm, hl, hr, k28, E4, e4_91, e4_70, e4_49, n4_32, n4_53, n4_76]
  exact LLA _ _ _ _ _ rfl rfl rfl
theorem run244 (l1 : List Int) (o0 m0 : Int) : ∃ st', EvF gS 4 [.slice (intVs l1), .int .i64 o0, .int .i64 m0] ⟨[], 0⟩ = some (.ret (.bool true) none, st') := c4 l1 o0 m0 ⟨[], 0⟩ (Nat.le_refl _)
end
end Go.Proofs.Ytdoobejjedpcgaa
namespace Go.Ab
open Go Go.ChangeShapes Go.WideShapes
set_option linter.unusedVariables false
set_option linter.unusedSimpArgs false
set_option linter.unnecessarySimpa false
variable {H : Type} {enc : TypeId × Value → H} {P : Program} {w : World} {base b0 : Nat} {spare : Nat → Bool} {held : Bool} {r : Reach}
theorem arg_ints {t e : TypeId} {k : IntKind} {v : Value} {d : DataW H} {ps : List MemPlace} (ht : P.underlying t = some (.slice e)) (he : P.underlying e = some (.int k)) (hc : P.cellsOf e = 1)
    (hval : Value.okWide P w r b0 t v) (h : DataW.Trod enc P w base spare held t v d ps) : ∃ zs : List Int, Rep K0 w v (.slice (zs.map (V.int k))) ∧ ∀ n ∈ zs, (Lit.int k n).wf = true := by
  obtain ⟨a0, len, cap, rfl⟩ := okWide_slice ht hval
  obtain ⟨fuel, hf⟩ := h
  rcases open_ints ht he hc hf with ⟨hcs, _⟩ | ⟨a, len', cap', zs, hcs, _, hl, hm, hz, _, hcell, hwz⟩
  · simp [Value.cells] at hcs
    obtain ⟨rfl, rfl, rfl⟩ := hcs
    exact ⟨[], .slice0 _ _, by simp⟩
  · simp [Value.cells] at hcs
    obtain ⟨rfl, rfl, rfl⟩ := hcs
    have hzl : len ≤ zs.length := by rw [hz]; split <;> omega
    by_cases h0 : len = 0
    · subst h0; exact ⟨[], .slice0 _ _, by simp⟩
    · refine ⟨zs.take len, ?_, fun n hn => hwz n (List.mem_of_mem_take hn)⟩
      obtain ⟨b, off, spot⟩ := a
      have hspot : spot = none := by simpa [Addr.add] using World.cell?_spot (hcell 0 (by omega))
      subst hspot
      have hlen : ((zs.take len).map (V.int k)).length = len := by simp; omega
      have hfl : ((zs.take len).map (V.int k)).flatMap V.cells = (zs.take len).map (V.int k) := by
        generalize zs.take len = l
        induction l with
        | nil => rfl
        | cons x r ih => simp only [List.map_cons, List.flatMap_cons, ih]; rfl
      have key : Rep K0 w (.slice (some (at_ b off)) ((zs.take len).map (V.int k)).length cap) (.slice ((zs.take len).map (V.int k))) := by
        refine .slice (k := 1) (by rw [hlen]; exact hl) (fun x hx => ?_) ?_
        · obtain ⟨n, _, rfl⟩ := List.mem_map.1 hx; rfl
        · rw [hfl]
          refine RepAt.of_get fun j x hx => ?_
          rw [List.getElem?_map, List.getElem?_take] at hx
          split at hx
          · rename_i hj
            have hjz : j < zs.length := by omega
            rw [List.getElem?_eq_getElem hjz] at hx
            simp only [Option.map_some, Option.some.injEq] at hx
            subst hx
            refine ⟨.int k zs[j], ⟨?_, rfl⟩, .int _ _⟩
            have := hcell j hjz
            simp only [List.getD, List.getElem?_eq_getElem hjz, Option.getD_some] at this
            rwa [show ({ block := b, off := off } : Addr) = at_ b off from rfl, addr_add] at this
          · cases hx
      rw [hlen] at key
      exact key
theorem arg_int {t : TypeId} {k : IntKind} {v : Value} (ht : P.underlying t = some (.int k)) (hval : Value.okWide P w r b0 t v) : ∃ n, Rep K0 w v (.int k n) := by
  obtain ⟨n, rfl⟩ := okWide_int ht hval
  exact ⟨n, .int _ _⟩
end Go.Ab
namespace Go.Ab
open Go Go.ChangeShapes Go.WideShapes
set_option linter.unusedVariables false
set_option linter.unusedSimpArgs false
set_option linter.unnecessarySimpa false
variable {H : Type} {enc : TypeId × Value → H} {P : Program} {w : World} {base b0 : Nat} {spare : Nat → Bool} {held : Bool} {r : Reach}
/-- Plain types. -/
inductive Ty where
  | bool | int (k : IntKind) | float (k : FloatKind) | str
  | sl (e : Ty)
  | st (fs : List Ty)
mutual
def Ty.size : Ty → Nat
  | .st fs => Ty.sizes fs
  | _ => 1
def Ty.sizes : List Ty → Nat
  | [] => 0
  | f :: r => f.size + Ty.sizes r
end
end Go.Ab
namespace Go.Proofs.Ytdoobejjedpcgaa
open Go Go.Ab Go.ChangeShapes Go.WideShapes Go.ChangeAt Go.RowKit
set_option linter.unusedVariables false
set_option linter.unusedSimpArgs false
set_option linter.unnecessarySimpa false
set_option maxRecDepth 100000 in
theorem chainWays_lifted (os : Os) (started : os.Started) (H : Type) (enc : TypeId × Value → H) :
    ReturnsInHanded {} Try.checked os 4 .any (Rows.chainWaysSpec.pre6 enc Try.prog Try.f4 Rows.chainWaysRow.domain false) (Rows.chainWaysSpec.post enc Try.prog Try.f4 false true false false) := by
  refine returnsInHanded_of_change_sized (C := Try.checked) Try.own started (by kernel_rfl) Try.func4
    (ChangeSpec.witness6 (enc := enc) (C := Try.checked) false ⟨#[], #[.slice none 0 0, .int .i64 0, .int .i64 0], []⟩ 8 (by kernel_rfl) (by kernel_rfl) (by kernel_rfl) (by kernel_rfl)) ?_
  intro W base args ds gs before hval0 hW _ hsz0 _
  have hW' := hW
  obtain ⟨p, q, hA0, hV, rfl, _, _⟩ := hW
  have hA : DataW.TrodAll enc Try.prog W 0 (fun _ => true) true Try.f4.params.toList args.toList ds p := hA0
  have hpar : Try.f4.params = #[22, 3, 3] := by kernel_rfl
  have hval : ∀ (j : Nat) t v, Try.f4.params[j]? = some t → args[j]? = some v → Value.okWide Try.prog W .any base t v := hval0
  rw [hpar] at hA hval
  obtain ⟨l⟩ := args
  obtain ⟨v0, l, d0, ds, p0, r0, rfl, rfl, rfl, h0, hA⟩ := trodAll_cons hA
  obtain ⟨v1, l, d1, ds, p1, r1, rfl, rfl, rfl, h1, hA⟩ := trodAll_cons hA
  obtain ⟨v2, l, d2, ds, p2, r2, rfl, rfl, rfl, h2, hA⟩ := trodAll_cons hA
  obtain ⟨rfl, rfl, rfl⟩ := trodAll_nil hA
  obtain ⟨rfl, rfl⟩ := trodVars_none hV
  obtain ⟨x0, a0, _⟩ := arg_ints Try.underlying22 Try.underlying3 (by kernel_rfl) (hval 0 22 v0 rfl rfl) h0
  obtain ⟨x1, a1⟩ := arg_int Try.underlying3 (hval 1 3 v1 rfl rfl)
  obtain ⟨x2, a2⟩ := arg_int Try.underlying3 (hval 2 3 v2 rfl rfl)
  have hlt : ∀ y ∈ p0 ++ (p1 ++ (p2 ++ [])) ++ [], y.block < W.heap.size := fun y hy => hW'.lt y hy
  have hr : Reps K0 W [v0, v1, v2] [.slice (intVs x0), .int .i64 x1, .int .i64 x2] := .cons a0 (.cons a1 (.cons a2 .nil))
  obtain ⟨st', hev⟩ := run244 x0 x1 x2
  obtain ⟨nn, hrun⟩ := EvF_fuel hev
  refine (law_calls (n := nn) (f := 4) (xs := [.slice (intVs x0), .int .i64 x1, .int .i64 x2]) (gS_calls nn) (by rw [hrun]) (W := W) (args := #[v0, v1, v2]) hr).mono ?_
  rintro e W' ⟨rfl, hn⟩
  refine ⟨_, rfl, _, _, _, [], p0 ++ (p1 ++ (p2 ++ [])), [], hW', ?_, ?_, rfl, hn.frame _, fun h => by cases h⟩
  · exact trodAll_mk1 (shut_bool Try.underlying4 true)
  · exact ⟨p0, _, Below.trod Try.laidOut (by kernel_rfl) (of_decide_eq_true (by kernel_rfl)) h0 hn (fun y hy => hlt y (by simp [hy])), ⟨p1, _, Below.trod Try.laidOut (by kernel_rfl) (of_decide_eq_true (by kernel_rfl)) h1 hn (fun y hy => hlt y (by simp [hy])), ⟨p2, _, Below.trod Try.laidOut (by kernel_rfl) (of_decide_eq_true (by kernel_rfl)) h2 hn (fun y hy => hlt y (by simp [hy])), rfl, rfl⟩, rfl⟩, rfl⟩
theorem chainWays_holds : Rows.ChainWaysSaid :=
  OpenClaim.holds_of_wide 4 Try.f4 rfl rfl rfl rfl rfl rfl rfl ⟨rfl, rfl, rfl, rfl, rfl⟩ rfl rfl rfl rfl rfl (by kernel_rfl) Try.func4 (by kernel_rfl)
    (of_decide_eq_true (by kernel_rfl)) (by unfold Func.isWrapper; first | (rw [if_pos (by decide +kernel)]; kernel_rfl) | (rw [if_neg (by decide +kernel)]; exact ⟨rfl, rfl⟩))
    (fun os started H enc _ => chainWays_lifted os started H enc)
#print axioms chainWays_holds
end Go.Proofs.Ytdoobejjedpcgaa
