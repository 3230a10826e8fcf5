/- Regions whose order is drawn: every order does what the order of the text does. -/
import Derived.Test.YtiiahehclbmodaaAbE5
namespace Go.Ab
open Go
set_option linter.unusedVariables false
set_option linter.unusedSimpArgs false
set_option linter.unnecessarySimpa false

variable {P : Program} {d n : Nat} {κ : K} {w : World} {lam : Lam} {fr fr' : Fr} {st st' : St} {a : Act} {o : Oper}

theorem calm_calm (e : E) : e.calm.calm = e.calm := by
  cases e with
  | bor k xs p => cases p <;> rfl
  | _ => rfl
theorem calm_hot {e : E} (h : Hot e.calm) : ∃ k xs, e = .own k xs := by
  cases e with
  | own k xs => exact ⟨_, _, rfl⟩
  | bor k xs p =>
    cases p with
    | slot u => exact (hot_val _ h).elim
    | mem i j => exact (hot_other (by simp) h).elim
    | loc i j => exact (hot_other (by simp) h).elim
  | val v => exact (hot_val _ h).elim
  | any => exact (hot_any h).elim
  | lp s o => exact (hot_lp _ _ h).elim
theorem calm_slot (e : E) (k : Nat) (xs : List V) (u : Nat) : e.calm ≠ .bor k xs (.slot u) := by
  cases e with
  | bor k xs p => cases p <;> simp [E.calm]
  | _ => simp [E.calm]
theorem still_slot (e : E) (k : Nat) (xs : List V) (u : Nat) : e.still ≠ .bor k xs (.slot u) := by
  cases e with
  | bor k xs p => cases p <;> simp [E.still]
  | _ => simp [E.still]
theorem weak_slot (e : E) (k : Nat) (xs : List V) (u : Nat) : e.weak ≠ .bor k xs (.slot u) := by cases e <;> simp [E.weak]
theorem loc_puts (l : List (Nat × E)) : ∀ (fr : Fr), (fr.puts l).loc = fr.loc := by
  induction l with
  | nil => intro fr; rfl
  | cons x r ih => intro fr; show ((fr.put x.1 x.2).puts r).loc = _; rw [ih]; funext s; exact loc_put _ _ _ _
theorem loc_putO' (dst : Option Nat) (e : E) : (fr.putO dst e).loc = fr.loc := by
  cases dst with
  | none => rfl
  | some s => funext t; exact loc_put fr s t e
theorem putO_puts (dst : Option Nat) (e : E) : fr.puts (dst.toList.map fun s => (s, e)) = fr.putO dst e := by cases dst <;> rfl

/-! ### what may lend -/
theorem borOk_spec {ops : Array Oper} {i u t : Nat} (h : borOk ops i u t = true) {r : Nat} {o : Oper} (ho : ops[r]? = some o) :
    (t ∈ o.looksAt ops → isBase ops t o = true ∧ ∀ (w : Nat) p, ops[w]? = some p → p.dst = some u → depB ops 4 w r = true) ∧
    (r ≠ i → u ∈ o.looksAt ops → isMove u o.op = true ∧ ∀ b, o.dst = some b → ∀ (j : Nat) p, ops[j]? = some p → isBase ops b p = false) := by
  have h1 := List.all_eq_true.1 h r (List.mem_range.2 (Array.getElem?_eq_some_iff.1 ho).1)
  rw [ho] at h1
  simp only [Bool.and_eq_true, Bool.or_eq_true, Bool.not_eq_true', looks, List.contains_eq_mem, decide_eq_false_iff_not, beq_iff_eq] at h1
  obtain ⟨h1, h2⟩ := h1
  refine ⟨fun ht => ?_, fun hr hu => ?_⟩
  · rcases h1 with h1 | ⟨h1, h3⟩
    · exact (h1 ht).elim
    · refine ⟨h1, fun w p hp hd => ?_⟩
      have h4 := List.all_eq_true.1 h3 w (List.mem_range.2 (Array.getElem?_eq_some_iff.1 hp).1)
      rw [hp] at h4
      simpa [hd] using h4
  · rcases h2 with (h2 | h2) | ⟨h2, h3⟩
    · exact (hr h2).elim
    · exact (h2 hu).elim
    · refine ⟨h2, fun b hb j p hp => ?_⟩
      rw [hb] at h3
      have h4 := List.all_eq_true.1 h3 j (List.mem_range.2 (Array.getElem?_eq_some_iff.1 hp).1)
      rw [hp] at h4
      simpa using h4
theorem handOk_spec {ops : Array Oper} {i q : Nat} (h : handOk ops i q = true) {r : Nat} {o : Oper} (ho : ops[r]? = some o) (hr : r ≠ i) : q ∉ o.looksAt ops := by
  have h1 := List.all_eq_true.1 h r (List.mem_range.2 (Array.getElem?_eq_some_iff.1 ho).1)
  rw [ho] at h1
  simp only [Bool.or_eq_true, Bool.not_eq_true', looks, List.contains_eq_mem, decide_eq_false_iff_not, beq_iff_eq] at h1
  rcases h1 with h1 | h1
  · exact (hr h1).elim
  · exact h1
theorem looks_op {ops : Array Oper} {x : Operand} (hx : x ∈ o.op.operands) {t : Nat} (h : x = .tmp t) : t ∈ o.looksAt ops := by
  subst h
  unfold Oper.looksAt; exact List.mem_append_left _ (List.mem_filterMap.2 ⟨.tmp t, by simpa using hx, rfl⟩)
theorem base_append {ops : Array Oper} {t : Nat} (h : isBase ops t o = true) : isAppend o.op = true ∧ ∃ args ats, o.op = .call { callee := .builtin .append, args := args, argTypes := ats } ∧ (args[0]? : Option Operand) = some (.tmp t) := by
  obtain ⟨dst, op, ty, pos, after, guard⟩ := o
  unfold isBase at h
  split at h
  · rename_i args ats heq
    simp only at heq
    subst heq
    split at h
    · rename_i b hb
      simp only [beq_iff_eq] at h
      subst h
      exact ⟨rfl, _, _, rfl, hb⟩
    · cases h
  · cases h
theorem base_noisy {g : G} {fi : FI} {ops : Array Oper} {t : Nat} (h : isBase ops t o = true) : isQM g fi o = false := by
  obtain ⟨_, args, ats, ho, h0⟩ := base_append h
  unfold isQM
  rw [ho]
  simp [isQ, quietOp, h0]

theorem move_quiet {g : G} {fi : FI} {x : Operand} (h : o.op = .move x) : isQM g fi o = true := by
  unfold isQM marked
  rw [h]; rfl

/-- The temporaries that are lent to: by whom, and who reads them. -/
def BI (ops : Array Oper) (fr : Fr) : Prop :=
  ∀ t k xs u, fr.get t = .bor k xs (.slot u) → ∃ i o, ops[i]? = some o ∧ o.op = .move (.tmp u) ∧ o.dst = some t ∧ borOk ops i u t = true
theorem BI.new {ops : Array Oper} (h : BI ops fr) (k : NoNew fr fr') : BI ops fr' := fun t n xs u e => h t n xs u ((k t (.inr ⟨n, xs, u, e⟩)).trans e)
theorem bi_calm (ops : Array Oper) : BI ops fr.calm := fun t k xs u e => by
  rw [show fr.calm.get t = (fr.get t).calm from get_map _ E.calm rfl t] at e
  exact (calm_slot _ _ _ _ e).elim
theorem get_clear (s : Nat) : fr.clear.get s = (fr.get s).calm ∨ fr.clear.get s = .any := by
  rw [Fr.get_def, Fr.get_def]
  simp only [Fr.clear, mapR_eq, lk_map]
  cases lk fr.ps s with
  | some e => exact .inl rfl
  | none => exact .inr rfl
theorem bi_clear (ops : Array Oper) : BI ops fr.clear := fun t k xs u e => by
  rcases get_clear (fr := fr) t with h | h
  · rw [h] at e; exact (calm_slot _ _ _ _ e).elim
  · rw [h] at e; cases e

section
variable (g : G) (fi : FI) (call : Calling) (ops : Array Oper)
/-- What an operation yields, that changes temporaries alone. -/
def Yld (i : Nat) (o : Oper) (y : List (Nat × E)) (fr : Fr) (st : St) : Prop :=
  (wantedE ops.toList o fr = some true ∧ isQM g fi o = true ∧ stepW g fi call ops i fr st o = some y) ∨ (wantedE ops.toList o fr = some false ∧ y = o.dst.toList.map fun s => (s, .val (.tuple [])))
def aOp (i : Nat) (K : Fr → St → Prop) (PQ : V → St → Prop) (fr : Fr) (st : St) : Prop :=
  match ops[i]? with
  | none => K fr st
  | some o => (∃ y, Yld g fi call ops i o y fr st ∧ K (fr.puts y) st) ∨
      ((pivotB ops i || semiM fi o) = true ∧ strongB g fi ops i = true ∧ isQM g fi o = false ∧ wantedE ops.toList o fr = some true ∧
        ((∃ e fr1 st1, stepM g fi call fr st o = some (.ok e fr1 st1) ∧ (tameB ops i o = true → SameRead fr st fr1 st1) ∧ K (if semiM fi o then fr1.putO o.dst e else (fr1.putO o.dst e).calm) st1) ∨ (∃ v st1, stepM g fi call fr st o = some (.pan v st1) ∧ PQ v st1)))
def anyA (Q : Fr → St → Prop) (PQ : V → St → Prop) : Nat → Array Bool → Fr → St → Prop
  | 0, listed, fr, st => Region.ready .any ops listed = [] ∧ Q fr st
  | fuel + 1, listed, fr, st => (Region.ready .any ops listed = [] → Q fr st) ∧ ∀ i ∈ Region.ready .any ops listed, aOp g fi call ops i (anyA Q PQ fuel (listed.setIfInBounds i true)) PQ fr st
end

/-- What is listed, had all that it comes behind listed. -/
def Closed (ops : Array Oper) (listed : Array Bool) : Prop :=
  ∀ j o, ops[j]? = some o → listed.getD j false = true → ∀ e ∈ o.after, Region.binds .any e = true → listed.getD e.on false = true
theorem Closed.list {ops : Array Oper} {listed : Array Bool} (h : Closed ops listed) {i : Nat} (hr : i ∈ Region.ready .any ops listed) : Closed ops (listed.setIfInBounds i true) := by
  intro j o ho hj e he hb
  by_cases hji : j = i
  · subst hji
    obtain ⟨_, o', ho', hall⟩ := mem_ready.1 hr
    rw [ho] at ho'; cases ho'
    exact getD_set_true (hall e he hb)
  · rw [getD_set_ne false (Ne.symm hji)] at hj
    exact getD_set_true (h j o ho hj e he hb)
theorem depB_spec {ops : Array Oper} {listed : Array Bool} (hcl : Closed ops listed) : ∀ (n : Nat) {j i : Nat}, depB ops n j i = true → (∀ o, ops[j]? = some o → ∀ e ∈ o.after, Region.binds .any e = true → listed.getD e.on false = true) → listed.getD i false = true
  | 0, _, _, h, _ => by simp [depB] at h
  | n + 1, j, i, h, hall => by
    simp only [depB] at h
    split at h
    · rename_i o ho
      obtain ⟨e, he, h1⟩ := List.any_eq_true.1 h
      have he' : e ∈ o.after := by simpa using he
      simp only [Bool.or_eq_true, Bool.and_eq_true, beq_iff_eq] at h1
      rcases h1 with ⟨hb, rfl⟩ | ⟨hb, hd⟩
      · exact hall o ho e he' hb
      · exact depB_spec hcl n hd fun o' ho' => hcl _ o' ho' (hall o ho e he' hb)
    · cases h
theorem not_both {listed : Array Bool} {j : Nat} (h1 : listed.getD j true = false) (h2 : listed.getD j false = true) : False := by
  rcases Nat.lt_or_ge j listed.size with h | h
  · simp [h] at h1 h2; rw [h1] at h2; cases h2
  · simp [Array.getElem?_eq_none h] at h2
theorem ready_size {ops : Array Oper} {listed : Array Bool} {j : Nat} (h : j ∈ Region.ready .any ops listed) : j < ops.size := by
  obtain ⟨_, o, ho, _⟩ := mem_ready.1 h
  exact (Array.getElem?_eq_some_iff.1 ho).1
/-- Two that may come next do not come behind one another. -/
theorem not_dep {ops : Array Oper} {listed : Array Bool} (hcl : Closed ops listed) {i j : Nat} (hi : i ∈ Region.ready .any ops listed) (hj : j ∈ Region.ready .any ops listed) (h : depB ops 4 j i = true) : False := by
  obtain ⟨hiu, _⟩ := mem_ready.1 hi
  obtain ⟨_, oj, hoj, hja⟩ := mem_ready.1 hj
  exact not_both hiu (depB_spec hcl 4 h (fun o ho => by rw [hoj] at ho; cases ho; exact hja))
/-- Where a pivot may come next nothing else may. -/
theorem pivot_alone {ops : Array Oper} {listed : Array Bool} (hcl : Closed ops listed) {k i : Nat} (hp : pivotB ops k = true) (hk : k ∈ Region.ready .any ops listed) (hi : i ∈ Region.ready .any ops listed) : i = k := by
  simp only [pivotB, Bool.and_eq_true, List.all_eq_true] at hp
  rcases Nat.lt_trichotomy i k with h | h | h
  · exact (not_dep hcl hi hk (hp.1 i (by simpa using h))).elim
  · exact h
  · have hlt := ready_size hi
    exact (not_dep hcl hk hi (hp.2 i (by rw [List.mem_range'_1]; omega))).elim
/-- What is ordered against what may come next, may not come next. -/
theorem not_ordered {ops : Array Oper} {listed : Array Bool} (hcl : Closed ops listed) {i j : Nat} (hi : i ∈ Region.ready .any ops listed) (hj : j ∈ Region.ready .any ops listed) (hne : j ≠ i) : ordB ops j i = false := by
  cases h : ordB ops j i with
  | false => rfl
  | true =>
    simp only [ordB, Bool.or_eq_true, beq_iff_eq] at h
    rcases h with h | h
    · exact (hne h).elim
    · split at h
      · exact (not_dep hcl hi hj h).elim
      · exact (not_dep hcl hj hi h).elim
theorem strong_ord {g : G} {fi : FI} {ops : Array Oper} {i j : Nat} {oj : Oper} (h : strongB g fi ops i = true) (hj : ops[j]? = some oj) (hq : isQM g fi oj = false) : ordB ops j i = true := by
  have h1 := List.all_eq_true.1 h j (List.mem_range.2 (Array.getElem?_eq_some_iff.1 hj).1)
  rw [hj] at h1
  simpa [hq] using h1
theorem mild_ord {g : G} {fi : FI} {ops : Array Oper} {i j : Nat} {oj : Oper} (h : mildFor g fi ops i = true) (hj : ops[j]? = some oj) (hq : isQM g fi oj = false) (hn : ordB ops j i = false) : (mildM fi oj = true ∧ (i < j ∨ isAppendM fi oj = true)) ∨ (isStore oj.op = true ∧ i < j) := by
  have h1 := List.all_eq_true.1 h j (List.mem_range.2 (Array.getElem?_eq_some_iff.1 hj).1)
  rw [hj] at h1
  simpa [hq, hn, Nat.blt_eq] using h1
theorem tame_of {ops : Array Oper} {i j : Nat} {oi oj : Oper} (hi : ops[i]? = some oi) (hl : isLoad oi.op = true) (hs : isStore oj.op = true) (hij : i < j) (hn : ordB ops j i = false) : tameB ops j oj = true := by
  unfold tameB
  rw [hs, Bool.true_and, Bool.not_eq_true']
  refine Bool.eq_false_iff.2 fun h => ?_
  have h1 := List.all_eq_true.1 h i (List.mem_range.2 hij)
  rw [hi] at h1
  simp [hl, hn] at h1

section
variable {g : G} {fi : FI} {call : Calling} {ops : Array Oper} {PQ : V → St → Prop}

theorem stepQ_slot {e : E} (h : stepQ g fi call fr st o = some e) (k : Nat) (xs : List V) (u : Nat) : e ≠ .bor k xs (.slot u) := by
  unfold stepQ at h
  split at h
  · cases h; exact still_slot _ _ _ _
  · cases h; exact still_slot _ _ _ _
  · split at h
    · split at h
      · cases h; exact calm_slot _ _ _ _
      · cases h
    · cases h
/-- What the temporaries of a yield are. -/
structure YOk (ops : Array Oper) (i : Nat) (o : Oper) (y : List (Nat × E)) : Prop where
  slot : ∀ s v, (s, v) ∈ y → o.dst = some s ∨ (o.op = .assign (.tmp s) ∧ handOk ops i s = true)
  bor : ∀ s v k xs u, (s, v) ∈ y → v = .bor k xs (.slot u) → o.dst = some s ∧ o.op = .move (.tmp u) ∧ borOk ops i u s = true
theorem YOk.one {i : Nat} {t : Nat} {e : E} (hd : o.dst = some t) (he : ∀ k xs u, e ≠ .bor k xs (.slot u)) : YOk ops i o [(t, e)] where
  slot := fun s v h => by simp only [List.mem_singleton, Prod.mk.injEq] at h; obtain ⟨rfl, rfl⟩ := h; exact .inl hd
  bor := fun s v k xs u h hv => by simp only [List.mem_singleton, Prod.mk.injEq] at h; obtain ⟨rfl, rfl⟩ := h; exact (he k xs u hv).elim
theorem YOk.dst {i : Nat} {e : E} (he : ∀ k xs u, e ≠ .bor k xs (.slot u)) : YOk ops i o (o.dst.toList.map fun s => (s, e)) := by
  cases hd : o.dst with
  | none => exact ⟨fun s v h => (by cases h), fun s v k xs u h => (by cases h)⟩
  | some t => exact YOk.one hd he

inductive StepW (g : G) (fi : FI) (call : Calling) (ops : Array Oper) (k : Nat) (fr : Fr) (st : St) (o : Oper) : List (Nat × E) → Prop
  | lend {u t n : Nat} {xs : List V} (ho : o.op = .move (.tmp u)) (hd : o.dst = some t) (hu : fr.get u = .own n xs) (hb : borOk ops k u t = true) : StepW g fi call ops k fr st o [(t, .bor n xs (.slot u))]
  | keep {u t n : Nat} {xs : List V} (ho : o.op = .move (.tmp u)) (hd : o.dst = some t) (hu : fr.get u = .own n xs) (hb : borOk ops k u t = false) : StepW g fi call ops k fr st o [(t, .val (.slice xs))]
  | move {u t : Nat} (ho : o.op = .move (.tmp u)) (hd : o.dst = some t) (hu : ∀ n xs, fr.get u ≠ .own n xs) (hs : strongB g fi ops k = true) : StepW g fi call ops k fr st o [(t, (fr.get u).still)]
  | movew {u t : Nat} (ho : o.op = .move (.tmp u)) (hd : o.dst = some t) (hu : ∀ n xs, fr.get u ≠ .own n xs) (hs : strongB g fi ops k = false) : StepW g fi call ops k fr st o [(t, (fr.get u).weak)]
  | hand {u t n : Nat} {xs : List V} (ho : o.op = .assign (.tmp u)) (hd : o.dst = some t) (hu : fr.get u = .own n xs) (hb : handOk ops k u = true) (hne : u ≠ t) : StepW g fi call ops k fr st o [(u, .val (.slice xs)), (t, upE g o.type (.own n xs))]
  | akeep {u t n : Nat} {xs : List V} (ho : o.op = .assign (.tmp u)) (hd : o.dst = some t) (hu : fr.get u = .own n xs) (hb : (handOk ops k u && !(u == t)) = false) : StepW g fi call ops k fr st o [(t, .val (.slice xs))]
  | assign {u t : Nat} (ho : o.op = .assign (.tmp u)) (hd : o.dst = some t) (hu : ∀ n xs, fr.get u ≠ .own n xs) (hs : strongB g fi ops k = true) : StepW g fi call ops k fr st o [(t, (fr.get u).still)]
  | assignw {u t : Nat} (ho : o.op = .assign (.tmp u)) (hd : o.dst = some t) (hu : ∀ n xs, fr.get u ≠ .own n xs) (hs : strongB g fi ops k = false) : StepW g fi call ops k fr st o [(t, (fr.get u).weak)]
  | other {e : E} (hno : ∀ u t, o.dst = some t → o.op ≠ .move (.tmp u) ∧ o.op ≠ .assign (.tmp u)) (h : stepQ g fi call fr st o = some e) (hs : strongB g fi ops k = true) : StepW g fi call ops k fr st o (o.dst.toList.map fun s => (s, e))
  | otherw {e : E} (hno : ∀ u t, o.dst = some t → o.op ≠ .move (.tmp u) ∧ o.op ≠ .assign (.tmp u)) (h : stepQ g fi call fr st o = some e) (hs : strongB g fi ops k = false) (hw : weakOk g fi ops k o fr = true) : StepW g fi call ops k fr st o (o.dst.toList.map fun s => (s, e.weak))
theorem stepW_iff {k : Nat} {y : List (Nat × E)} : stepW g fi call ops k fr st o = some y ↔ StepW g fi call ops k fr st o y := by
  constructor
  · intro h
    unfold stepW at h
    split at h
    · rename_i u t ho hd
      split at h
      · rename_i n xs hu
        split at h
        · rename_i hb; cases h; exact .lend ho hd hu hb
        · rename_i hb; cases h; exact .keep ho hd hu (by simpa using hb)
      · rename_i hne
        split at h
        · rename_i hs; cases h; exact .move ho hd (fun n xs => hne n xs) hs
        · rename_i hs; cases h; exact .movew ho hd (fun n xs => hne n xs) (by simpa using hs)
    · rename_i u t ho hd
      split at h
      · rename_i n xs hu
        split at h
        · rename_i hb
          cases h
          rw [Bool.and_eq_true] at hb
          exact .hand ho hd hu hb.1 (by simpa using hb.2)
        · rename_i hb; cases h; exact .akeep ho hd hu (by simpa using hb)
      · rename_i hne
        split at h
        · rename_i hs; cases h; exact .assign ho hd (fun n xs => hne n xs) hs
        · rename_i hs; cases h; exact .assignw ho hd (fun n xs => hne n xs) (by simpa using hs)
    · rename_i hn1 hn2
      have hno : ∀ u t, o.dst = some t → o.op ≠ .move (.tmp u) ∧ o.op ≠ .assign (.tmp u) := fun u t hd => ⟨fun ho => hn1 u t ho hd, fun ho => hn2 u t ho hd⟩
      split at h
      · rename_i e he
        split at h
        · rename_i hs; cases h; exact .other hno he hs
        · rename_i hs
          split at h
          · rename_i hw; cases h; exact .otherw hno he (by simpa using hs) hw
          · cases h
      · cases h
  · intro h
    unfold stepW
    cases h with
    | lend ho hd hu hb => simp only [ho, hd, hu, hb, if_true]
    | keep ho hd hu hb => simp only [ho, hd, hu, hb, Bool.false_eq_true, if_false]
    | move ho hd hu hs =>
      simp only [ho, hd]
      generalize fr.get _ = x at hu
      cases x <;> first
        | exact (hu _ _ rfl).elim
        | simp only [hs, if_true]
    | movew ho hd hu hs =>
      simp only [ho, hd]
      generalize fr.get _ = x at hu
      cases x <;> first
        | exact (hu _ _ rfl).elim
        | simp only [hs, Bool.false_eq_true, if_false]
    | hand ho hd hu hb hne =>
      simp only [ho, hd, hu, hb, Bool.true_and]
      rw [if_pos (by simpa using hne)]
    | akeep ho hd hu hb => simp only [ho, hd, hu, hb, Bool.false_eq_true, if_false]
    | assign ho hd hu hs =>
      simp only [ho, hd]
      generalize fr.get _ = x at hu
      cases x <;> first
        | exact (hu _ _ rfl).elim
        | simp only [hs, if_true]
    | assignw ho hd hu hs =>
      simp only [ho, hd]
      generalize fr.get _ = x at hu
      cases x <;> first
        | exact (hu _ _ rfl).elim
        | simp only [hs, Bool.false_eq_true, if_false]
    | other hno h hs =>
      split
      · rename_i u t ho hd; exact ((hno u t hd).1 ho).elim
      · rename_i u t ho hd; exact ((hno u t hd).2 ho).elim
      · simp only [h, hs, if_true]
    | otherw hno h hs hw =>
      split
      · rename_i u t ho hd; exact ((hno u t hd).1 ho).elim
      · rename_i u t ho hd; exact ((hno u t hd).2 ho).elim
      · simp only [h, hs, hw, Bool.false_eq_true, if_false, if_true]

theorem upE_own (t : Nat) (n : Nat) (xs : List V) : ∃ m, upE g t (.own n xs) = .own m xs := by
  unfold upE
  split
  · rename_i heq
    cases heq
    split
    · split <;> exact ⟨_, rfl⟩
    · exact ⟨_, rfl⟩
  · rename_i hne; exact (hne _ _ rfl).elim
theorem Yld.ok {i : Nat} {y : List (Nat × E)} (h : Yld g fi call ops i o y fr st) : YOk ops i o y := by
  rcases h with ⟨_, _, h⟩ | ⟨_, rfl⟩
  · cases stepW_iff.1 h with
    | lend ho hd hu hb =>
      refine ⟨fun s v h => ?_, fun s v k xs u h hv => ?_⟩
      · simp only [List.mem_singleton, Prod.mk.injEq] at h; obtain ⟨rfl, rfl⟩ := h; exact .inl hd
      · simp only [List.mem_singleton, Prod.mk.injEq] at h; obtain ⟨rfl, rfl⟩ := h
        cases hv; exact ⟨hd, ho, hb⟩
    | keep ho hd hu hb => exact YOk.one hd (by simp)
    | move ho hd hu hs => exact YOk.one hd (still_slot _)
    | movew ho hd hu hs => exact YOk.one hd (weak_slot _)
    | hand ho hd hu hb hne =>
      refine ⟨fun s v h => ?_, fun s v k xs u h hv => ?_⟩
      · simp only [List.mem_cons, Prod.mk.injEq, List.not_mem_nil, or_false] at h
        rcases h with ⟨rfl, rfl⟩ | ⟨rfl, rfl⟩
        · exact .inr ⟨ho, hb⟩
        · exact .inl hd
      · simp only [List.mem_cons, Prod.mk.injEq, List.not_mem_nil, or_false] at h
        rcases h with ⟨rfl, rfl⟩ | ⟨rfl, rfl⟩
        · cases hv
        · obtain ⟨m, hm⟩ := upE_own (g := g) o.type _ _
          rw [hm] at hv; cases hv
    | akeep ho hd hu hb => exact YOk.one hd (by simp)
    | assign ho hd hu hs => exact YOk.one hd (still_slot _)
    | assignw ho hd hu hs => exact YOk.one hd (weak_slot _)
    | other hno h9 hs => exact YOk.dst (stepQ_slot h9)
    | otherw hno h9 hs hw => exact YOk.dst (weak_slot _)
  · exact YOk.dst (by simp)

theorem wanted_weak (hs : ∀ t ∈ o.looksAt ops, (fr.get t).weak = (fr'.get t).weak) : wantedE ops.toList o fr = wantedE ops.toList o fr' := by
  unfold wantedE
  cases hg : o.guard with
  | none => rfl
  | some jw =>
    obtain ⟨j, want⟩ := jw
    simp only
    cases hd : (ops.toList[j]?).bind (·.dst) with
    | none => rfl
    | some t =>
      have : t ∈ o.looksAt ops := by
        unfold Oper.looksAt
        refine List.mem_append_right _ ?_
        rw [hg]
        have hd' : (ops[j]?).bind (·.dst) = some t := by rw [← Array.getElem?_toList]; exact hd
        simp only [hd']; simp
      have b : Blind fun e => (match e with
        | .val (.bool b) => some (b == want)
        | .val (.tuple []) => some false
        | _ => none : Option Bool) := by rintro xs e (rfl | ⟨k, rfl⟩ | ⟨k, p, rfl⟩) <;> rfl
      have h2 := b.eq (hs t this)
      simp only
      refine Eq.trans ?_ (h2.trans ?_)
      · cases fr.get t with
        | val v => cases v <;> first | rfl | (rename_i vs; cases vs <;> rfl)
        | _ => rfl
      · cases fr'.get t with
        | val v => cases v <;> first | rfl | (rename_i vs; cases vs <;> rfl)
        | _ => rfl
theorem wanted_congr (hs : ∀ t ∈ o.looksAt ops, fr.get t = fr'.get t) : wantedE ops.toList o fr = wantedE ops.toList o fr' := wanted_weak fun t ht => by rw [hs t ht]
theorem weakOk_weak {i : Nat} (h : ∀ x ∈ o.op.operands, (fr.op x).weak = (fr'.op x).weak) : weakOk g fi ops i o fr = weakOk g fi ops i o fr' := by
  obtain ⟨dst, op, ty, pos, after, guard⟩ := o
  cases op <;> try rfl
  case load t x =>
    have h2 := h x (by simp [Op.operands])
    simp only [weakOk]
    generalize fr.op x = e at *
    generalize fr'.op x = e' at *
    rcases weak_cases h2 with rfl | ⟨xs, h3, h4⟩
    · rfl
    · rcases h3 with rfl | ⟨k, rfl⟩ | ⟨k, p, rfl⟩ <;> rcases h4 with rfl | ⟨k', rfl⟩ | ⟨k', p', rfl⟩ <;> rfl
  rename_i c
  obtain ⟨callee, args, ats⟩ := c
  cases callee <;> try rfl
  rename_i x
  have hargs : ∀ x ∈ args.toList, (fr.op x).weak = (fr'.op x).weak := fun x hx => h x (by simp [Op.operands, Call.operands]; exact .inr (by simpa using hx))
  have h1 := ops_weak hargs
  have h2 := h x (by simp [Op.operands, Call.operands])
  simp only [weakOk, h1]
  generalize fr.op x = e at *
  generalize fr'.op x = e' at *
  rcases weak_cases h2 with rfl | ⟨xs, h3, h4⟩
  · rfl
  · rcases h3 with rfl | ⟨k, rfl⟩ | ⟨k, p, rfl⟩ <;> rcases h4 with rfl | ⟨k', rfl⟩ | ⟨k', p', rfl⟩ <;> rfl
theorem op_of {x : Operand} (hx : x ∈ o.op.operands) (hs : ∀ t ∈ o.looksAt ops, fr.get t = fr'.get t) : fr.op x = fr'.op x := by
  cases x with
  | tmp t => exact hs t (looks_op hx rfl)
  | _ => rfl
theorem op_ofw {x : Operand} (hx : x ∈ o.op.operands) (hs : ∀ t ∈ o.looksAt ops, (fr.get t).weak = (fr'.get t).weak) : (fr.op x).weak = (fr'.op x).weak := by
  cases x with
  | tmp t => exact hs t (looks_op hx rfl)
  | _ => rfl
theorem move_looks {u : Nat} (ho : o.op = .move (.tmp u)) : u ∈ o.looksAt ops := looks_op (x := .tmp u) (by rw [ho]; simp [Op.operands]) rfl
theorem assign_looks {u : Nat} (ho : o.op = .assign (.tmp u)) : u ∈ o.looksAt ops := looks_op (x := .tmp u) (by rw [ho]; simp [Op.operands]) rfl
theorem Yld.congr {i : Nat} {y : List (Nat × E)} (h : Yld g fi call ops i o y fr st) (hs : ∀ t ∈ o.looksAt ops, fr.get t = fr'.get t) (hl : fr.loc = fr'.loc) : Yld g fi call ops i o y fr' st := by
  have h1 : ∀ x ∈ o.op.operands, fr.op x = fr'.op x := fun x hx => op_of hx hs
  rcases h with ⟨hw, hq, h⟩ | ⟨hw, rfl⟩
  · refine .inl ⟨by rw [← wanted_congr hs]; exact hw, hq, stepW_iff.2 ?_⟩
    cases stepW_iff.1 h with
    | lend ho hd hu hb => exact .lend ho hd (by rw [← hs _ (move_looks ho)]; exact hu) hb
    | keep ho hd hu hb => exact .keep ho hd (by rw [← hs _ (move_looks ho)]; exact hu) hb
    | move ho hd hu hs' => rw [hs _ (move_looks ho)] at hu ⊢; exact .move ho hd hu hs'
    | movew ho hd hu hs' => rw [hs _ (move_looks ho)] at hu ⊢; exact .movew ho hd hu hs'
    | hand ho hd hu hb hne => exact .hand ho hd (by rw [← hs _ (assign_looks ho)]; exact hu) hb hne
    | akeep ho hd hu hb => exact .akeep ho hd (by rw [← hs _ (assign_looks ho)]; exact hu) hb
    | assign ho hd hu hs' => rw [hs _ (assign_looks ho)] at hu ⊢; exact .assign ho hd hu hs'
    | assignw ho hd hu hs' => rw [hs _ (assign_looks ho)] at hu ⊢; exact .assignw ho hd hu hs'
    | other hno h9 hs' => exact .other hno (by rw [← stepQ_congr h1 hl]; exact h9) hs'
    | otherw hno h9 hs' hw' => exact .otherw hno (by rw [← stepQ_congr h1 hl]; exact h9) hs' (by rw [← weakOk_weak fun x hx => by rw [h1 x hx]]; exact hw')
  · exact .inr ⟨by rw [← wanted_congr hs]; exact hw, rfl⟩

/-- A yield that no effect turns. -/
def Light (y : List (Nat × E)) : Prop := ∀ s v, (s, v) ∈ y → v.noMem = v ∧ v.noLoc = v
theorem light_one {t : Nat} {e : E} (h : e.noMem = e ∧ e.noLoc = e) : Light [(t, e)] := fun s v hm => by
  simp only [List.mem_singleton, Prod.mk.injEq] at hm; obtain ⟨rfl, rfl⟩ := hm; exact h
theorem light_dst {dst : Option Nat} {e : E} (h : e.noMem = e ∧ e.noLoc = e) : Light (dst.toList.map fun s => (s, e)) := by
  cases dst with
  | none => intro s v h; cases h
  | some t => exact light_one h
theorem weak_light (e : E) : e.weak.noMem = e.weak ∧ e.weak.noLoc = e.weak := by cases e <;> exact ⟨rfl, rfl⟩
/-- What stands on either side of an effect yields the same on both. -/
theorem Yld.weak {i : Nat} {y : List (Nat × E)} (h : Yld g fi call ops i o y fr st) (hn : wantedE ops.toList o fr = some true → strongB g fi ops i = false) (hs : ∀ t ∈ o.looksAt ops, (fr.get t).weak = (fr'.get t).weak)
    (hK : ∀ u t, o.dst = some t → (o.op = .move (.tmp u) ∧ borOk ops i u t = true) ∨ (o.op = .assign (.tmp u) ∧ handOk ops i u = true) → fr.get u = fr'.get u ∨ ((∀ n xs, fr.get u ≠ .own n xs) ∧ ∀ n xs, fr'.get u ≠ .own n xs))
    (hld : mildFor g fi ops i = true → isLoad o.op = true → SameRead fr st fr' st') : Yld g fi call ops i o y fr' st' ∧ Light y := by
  have h1 : ∀ x ∈ o.op.operands, (fr.op x).weak = (fr'.op x).weak := fun x hx => op_ofw hx hs
  rcases h with ⟨hw, hq, h⟩ | ⟨hw, rfl⟩
  · have hns := hn hw
    have hw' : wantedE ops.toList o fr' = some true := by rw [← wanted_weak hs]; exact hw
    have sl : ∀ {u n : Nat} {xs : List V}, u ∈ o.looksAt ops → fr.get u = .own n xs → (fr'.get u).weak = .val (.slice xs) := fun hu h => by rw [← hs _ hu, h]; rfl
    have sl' : ∀ {u n : Nat} {xs : List V}, u ∈ o.looksAt ops → fr'.get u = .own n xs → (fr.get u).weak = .val (.slice xs) := fun hu h => by rw [hs _ hu, h]; rfl
    cases stepW_iff.1 h with
    | lend ho hd hu hb =>
      rename_i u t n xs
      refine ⟨.inl ⟨hw', hq, stepW_iff.2 (.lend ho hd ?_ hb)⟩, light_one ⟨rfl, rfl⟩⟩
      rcases hK u t hd (.inl ⟨ho, hb⟩) with h2 | h2
      · rw [← h2]; exact hu
      · exact (h2.1 _ _ hu).elim
    | keep ho hd hu hb =>
      rename_i u t n xs
      refine ⟨.inl ⟨hw', hq, stepW_iff.2 ?_⟩, light_one ⟨rfl, rfl⟩⟩
      have h2 := sl (move_looks ho) hu
      by_cases h3 : ∃ m ys, fr'.get u = .own m ys
      · obtain ⟨m, ys, h3⟩ := h3
        rw [h3] at h2
        cases h2
        exact .keep ho hd h3 hb
      · have := StepW.movew (g := g) (fi := fi) (call := call) (ops := ops) (k := i) (st := st') ho hd (fun m ys h => h3 ⟨m, ys, h⟩) hns
        rw [h2] at this; exact this
    | move ho hd hu hs' => rw [hns] at hs'; cases hs'
    | movew ho hd hu hs' =>
      rename_i u t
      refine ⟨.inl ⟨hw', hq, stepW_iff.2 ?_⟩, light_one (weak_light _)⟩
      by_cases h3 : ∃ m ys, fr'.get u = .own m ys
      · obtain ⟨m, ys, h3⟩ := h3
        have h2 := sl' (move_looks ho) h3
        rw [h2]
        cases hb : borOk ops i u t with
        | false => exact .keep ho hd h3 hb
        | true =>
          rcases hK u t hd (.inl ⟨ho, hb⟩) with h4 | h4
          · exact (hu m ys (h4.trans h3)).elim
          · exact (h4.2 _ _ h3).elim
      · rw [hs _ (move_looks ho)]
        exact .movew ho hd (fun m ys h => h3 ⟨m, ys, h⟩) hns
    | hand ho hd hu hb hne =>
      rename_i u t n xs
      refine ⟨.inl ⟨hw', hq, stepW_iff.2 (.hand ho hd ?_ hb hne)⟩, ?_⟩
      · rcases hK u t hd (.inr ⟨ho, hb⟩) with h2 | h2
        · rw [← h2]; exact hu
        · exact (h2.1 _ _ hu).elim
      · intro s v hm
        simp only [List.mem_cons, Prod.mk.injEq, List.not_mem_nil, or_false] at hm
        rcases hm with ⟨rfl, rfl⟩ | ⟨rfl, rfl⟩
        · exact ⟨rfl, rfl⟩
        · obtain ⟨m, hm⟩ := upE_own (g := g) o.type n xs
          rw [hm]; exact ⟨rfl, rfl⟩
    | akeep ho hd hu hb =>
      rename_i u t n xs
      refine ⟨.inl ⟨hw', hq, stepW_iff.2 ?_⟩, light_one ⟨rfl, rfl⟩⟩
      have h2 := sl (assign_looks ho) hu
      by_cases h3 : ∃ m ys, fr'.get u = .own m ys
      · obtain ⟨m, ys, h3⟩ := h3
        rw [h3] at h2
        cases h2
        exact .akeep ho hd h3 hb
      · have := StepW.assignw (g := g) (fi := fi) (call := call) (ops := ops) (k := i) (st := st') ho hd (fun m ys h => h3 ⟨m, ys, h⟩) hns
        rw [h2] at this; exact this
    | assign ho hd hu hs' => rw [hns] at hs'; cases hs'
    | assignw ho hd hu hs' =>
      rename_i u t
      refine ⟨.inl ⟨hw', hq, stepW_iff.2 ?_⟩, light_one (weak_light _)⟩
      by_cases h3 : ∃ m ys, fr'.get u = .own m ys
      · obtain ⟨m, ys, h3⟩ := h3
        have h2 := sl' (assign_looks ho) h3
        rw [h2]
        cases hb : (handOk ops i u && !(u == t)) with
        | false => exact .akeep ho hd h3 hb
        | true =>
          rw [Bool.and_eq_true] at hb
          rcases hK u t hd (.inr ⟨ho, hb.1⟩) with h4 | h4
          · exact (hu m ys (h4.trans h3)).elim
          · exact (h4.2 _ _ h3).elim
      · rw [hs _ (assign_looks ho)]
        exact .assignw ho hd (fun m ys h => h3 ⟨m, ys, h⟩) hns
    | other hno h hs' => rw [hns] at hs'; cases hs'
    | otherw hno h0 hs' hwk =>
      obtain ⟨e1, h2, h3⟩ := stepQ_weak (fr' := fr') (st' := st') h1 (fun t x ho => by
        unfold weakOk at hwk
        rw [ho] at hwk
        simp only [Bool.or_eq_true] at hwk
        rcases hwk with hwk | hwk
        · right
          split at hwk
          · rename_i cs hcs; exact ⟨cs, hcs⟩
          · cases hwk
        · exact .inl (hld hwk (by rw [ho]; rfl))) (fun f args ats ho => by
        unfold weakOk at hwk
        rw [ho] at hwk
        simp only [Fr.op, List.nil_append, List.append_nil] at hwk
        split at hwk
        · rename_i hf hv
          simp only [E.val.injEq, V.func.injEq] at hf
          obtain ⟨_, rfl, rfl⟩ := hf
          exact ⟨_, hv, by simpa using hwk⟩
        · cases hwk) h0
      refine ⟨.inl ⟨hw', hq, stepW_iff.2 ?_⟩, light_dst (weak_light _)⟩
      rw [← h3]
      exact .otherw hno h2 hns (by rw [← weakOk_weak h1]; exact hwk)
  · exact ⟨.inr ⟨by rw [← wanted_weak hs]; exact hw, rfl⟩, light_dst ⟨rfl, rfl⟩⟩

/-! ### two that may come next -/
section
variable {listed : Array Bool} {i j : Nat} {oi oj : Oper} {y : List (Nat × E)}
/-- Nothing that a quiet operation turns is looked at by another that may come next. -/
theorem slot_free (hi : ops[i]? = some oi) (hj : ops[j]? = some oj) (hne : j ≠ i) (h1 : ∀ s, oi.dst = some s → s ∉ oj.looksAt ops) (hy : YOk ops i oi y) {s : Nat} {v : E} (hm : (s, v) ∈ y) : s ∉ oj.looksAt ops := by
  rcases hy.slot s v hm with h | ⟨_, h⟩
  · exact h1 s h
  · exact handOk_spec h hj hne
/-- Nor is it what lends to what the other looks at. -/
theorem slot_lends (hcl : Closed ops listed) (hir : i ∈ Region.ready .any ops listed) (hjr : j ∈ Region.ready .any ops listed) (hi : ops[i]? = some oi) (hj : ops[j]? = some oj) (hy : YOk ops i oi y) (b : BI ops fr) {s : Nat} {v : E} (hm : (s, v) ∈ y)
    {t : Nat} (ht : t ∈ oj.looksAt ops) {k : Nat} {xs : List V} {u : Nat} (hb : fr.get t = .bor k xs (.slot u)) : u ≠ s := by
  rintro rfl
  obtain ⟨i0, o0, h0, h2, h3, h4⟩ := b t k xs u hb
  obtain ⟨_, hw⟩ := (borOk_spec h4 hj).1 ht
  rcases hy.slot u v hm with h | ⟨ha, h⟩
  · exact not_dep hcl hjr hir (hw i oi hi h)
  · by_cases h5 : i0 = i
    · subst h5; rw [hi] at h0; cases h0; rw [ha] at h2; cases h2
    · exact handOk_spec h h0 h5 (move_looks h2)
theorem look_puts (hcl : Closed ops listed) (hir : i ∈ Region.ready .any ops listed) (hjr : j ∈ Region.ready .any ops listed) (hi : ops[i]? = some oi) (hj : ops[j]? = some oj) (hne : j ≠ i) (h1 : ∀ s, oi.dst = some s → s ∉ oj.looksAt ops)
    (hy : YOk ops i oi y) (b : BI ops fr) : ∀ t ∈ oj.looksAt ops, (fr.puts y).get t = fr.get t := by
  intro t ht
  have key : ∀ (l : List (Nat × E)), (∀ x ∈ l, x ∈ y) → ∀ (f : Fr), f.get t = fr.get t → (f.puts l).get t = fr.get t := by
    intro l
    induction l with
    | nil => intro _ f hf; exact hf
    | cons x r ih =>
      intro hl f hf
      refine ih (fun z hz => hl z (List.mem_cons_of_mem _ hz)) (f.put x.1 x.2) ?_
      have hm : (x.1, x.2) ∈ y := hl x List.mem_cons_self
      rw [get_put, if_neg (fun (h : t = x.1) => slot_free hi hj hne h1 hy hm (by rw [← h]; exact ht)), hf]
      cases he : fr.get t with
      | bor k xs p =>
        cases p with
        | slot u =>
          have := slot_lends hcl hir hjr hi hj hy b hm ht he
          simp only [E.inval]
          rw [if_neg (by simpa using this)]
        | _ => rfl
      | _ => rfl
  exact key y (fun _ h => h) fr rfl
theorem inval_free {v : E} {t : Nat} (h : ∀ k xs u, v = .bor k xs (.slot u) → u ≠ t) : v.inval (.slot t) = v := by
  cases v with
  | bor k xs p =>
    cases p with
    | slot u => simp only [E.inval]; rw [if_neg (by simpa using h k xs u rfl)]
    | _ => rfl
  | _ => rfl
theorem puts_comm : ∀ (y z : List (Nat × E)) (fr : Fr), (∀ s v, (s, v) ∈ y → ∀ t x, (t, x) ∈ z → s ≠ t ∧ v.inval (.slot t) = v ∧ x.inval (.slot s) = x) → (fr.puts y).puts z = (fr.puts z).puts y := by
  have one : ∀ (z : List (Nat × E)) (fr : Fr) (s : Nat) (v : E), (∀ t x, (t, x) ∈ z → s ≠ t ∧ v.inval (.slot t) = v ∧ x.inval (.slot s) = x) → (fr.put s v).puts z = (fr.puts z).put s v := by
    intro z
    induction z with
    | nil => intro fr s v _; rfl
    | cons t r ih =>
      intro fr s v h
      obtain ⟨h1, h2, h3⟩ := h t.1 t.2 List.mem_cons_self
      show ((fr.put s v).put t.1 t.2).puts r = ((fr.put t.1 t.2).puts r).put s v
      rw [put_put h1 h2 h3]
      exact ih _ s v (fun t x hx => h t x (List.mem_cons_of_mem _ hx))
  intro y
  induction y with
  | nil => intro z fr _; rfl
  | cons x r ih =>
    intro z fr h
    show ((fr.put x.1 x.2).puts r).puts z = ((fr.puts z).put x.1 x.2).puts r
    rw [ih z _ (fun s v hs => h s v (List.mem_cons_of_mem _ hs)), one z fr x.1 x.2 (h x.1 x.2 List.mem_cons_self)]
theorem BI.puts (b : BI ops fr) (hi : ops[i]? = some oi) (hy : YOk ops i oi y) : BI ops (fr.puts y) := by
  have key : ∀ (l : List (Nat × E)), (∀ x ∈ l, x ∈ y) → ∀ (f : Fr), BI ops f → BI ops (f.puts l) := by
    intro l
    induction l with
    | nil => intro _ f hf; exact hf
    | cons x r ih =>
      intro hl f hf
      refine ih (fun z hz => hl z (List.mem_cons_of_mem _ hz)) (f.put x.1 x.2) ?_
      intro t k xs u e
      rw [get_put] at e
      split at e
      · rename_i ht
        have he := inval_new _ _ (.inr ⟨k, xs, u, e⟩)
        obtain ⟨q1, q2, q3⟩ := hy.bor x.1 x.2 k xs u (hl x List.mem_cons_self) (he.trans e)
        subst ht
        exact ⟨i, oi, hi, q2, q1, q3⟩
      · have he := inval_new _ _ (.inr ⟨k, xs, u, e⟩)
        exact hf t k xs u (he.trans e)
  exact key y (fun _ h => h) fr b

theorem two_quiet (hi : ops[i]? = some oi) (hj : ops[j]? = some oj) (hne : j ≠ i) (hap : oi.apart ops oj = true) {z : List (Nat × E)} (hy : YOk ops i oi y) (hz : YOk ops j oj z) : (fr.puts y).puts z = (fr.puts z).puts y := by
  obtain ⟨h1, h2, h3⟩ := Oper.apart_spec hap
  refine puts_comm y z fr fun s v hm t x hn => ⟨?_, inval_free fun k xs u hv => ?_, inval_free fun k xs u hv => ?_⟩
  · rintro rfl
    rcases hz.slot s x hn with hd | ⟨ha, hh⟩
    · rcases hy.slot s v hm with hd' | ⟨ha', hh'⟩
      · exact h2 s hd' hd
      · exact h3 s hd (assign_looks ha')
    · exact slot_free hi hj hne (fun s h => h1 s h) hy hm (assign_looks ha)
  · rintro rfl
    obtain ⟨_, hmv, _⟩ := hy.bor s v k xs u hm hv
    exact slot_free hj hi (Ne.symm hne) (fun s h => h3 s h) hz hn (move_looks hmv)
  · rintro rfl
    obtain ⟨_, hmv, _⟩ := hz.bor t x k xs u hn hv
    exact slot_free hi hj hne (fun s h => h1 s h) hy hm (move_looks hmv)

/-- A yield, beside an effect that may come next. -/
theorem still_of (hcl : Closed ops listed) (hir : i ∈ Region.ready .any ops listed) (hjr : j ∈ Region.ready .any ops listed) (hi : ops[i]? = some oi) (hj : ops[j]? = some oj) (hne : j ≠ i) (hq : isQM g fi oj = false)
    (h1 : ∀ s, oi.dst = some s → s ∉ oj.looksAt ops) (hy : YOk ops i oi y) (hl : Light y) (b : BI ops fr) {f : Fr} (hf : ∀ t ∈ oj.looksAt ops, f.get t = fr.get t) {s : Nat} {v : E} (hm : (s, v) ∈ y) : Still s v f oj where
  mem := (hl s v hm).1
  loc := (hl s v hm).2
  ops := fun t ht => by
    have htl : t ∈ oj.looksAt ops := looks_op ht rfl
    refine ⟨fun (h : t = s) => slot_free hi hj hne h1 hy hm (by rw [← h]; exact htl), inval_free fun k xs u hv => ?_, fun k xs u hb => ?_⟩
    · rintro rfl
      obtain ⟨_, _, hbo⟩ := hy.bor s v k xs u hm hv
      have := ((borOk_spec hbo hj).2 hne htl).1
      unfold isMove at this
      split at this
      · rename_i x ho; rw [move_quiet ho] at hq; cases hq
      · cases this
    · rw [hf t htl] at hb
      refine ⟨slot_lends hcl hir hjr hi hj hy b hm htl hb, inval_free fun k' xs' u' hv => ?_⟩
      rintro rfl
      obtain ⟨hd, hmv, hbo⟩ := hy.bor s v k' xs' u' hm hv
      obtain ⟨i0, o0, h0, h2, h3, h4⟩ := b t k xs u' hb
      by_cases h5 : i0 = i
      · subst h5
        rw [hi] at h0; cases h0
        exact h1 t h3 htl
      · have h6 := ((borOk_spec hbo h0).2 h5 (move_looks h2)).2 t h3 j oj hj
        rw [((borOk_spec h4 hj).1 htl).1] at h6
        cases h6

noncomputable def Rs.puts (y : List (Nat × E)) : Rs → Rs
  | .ok e fr st => .ok e (fr.puts y) st
  | .pan x st => .pan x st
theorem stepE_puts (hcl : Closed ops listed) (hir : i ∈ Region.ready .any ops listed) (hjr : j ∈ Region.ready .any ops listed) (hi : ops[i]? = some oi) (hj : ops[j]? = some oj) (hne : j ≠ i) (hq : isQM g fi oj = false)
    (h1 : ∀ s, oi.dst = some s → s ∉ oj.looksAt ops) (hy : YOk ops i oi y) (hl : Light y) (b : BI ops fr) (hsemi : semiM fi oj = true) :
    stepM g fi call (fr.puts y) st oj = (stepM g fi call fr st oj).map (Rs.puts y) := by
  have key : ∀ (l : List (Nat × E)), (∀ x ∈ l, x ∈ y) → ∀ (f : Fr), (∀ t ∈ oj.looksAt ops, f.get t = fr.get t) → stepM g fi call (f.puts l) st oj = (stepM g fi call f st oj).map (Rs.puts l) := by
    intro l
    induction l with
    | nil =>
      intro _ f _
      show stepM g fi call f st oj = _
      cases stepM g fi call f st oj with
      | none => rfl
      | some rs => cases rs <;> rfl
    | cons x r ih =>
      intro hl' f hf
      have hm : (x.1, x.2) ∈ y := hl' x List.mem_cons_self
      have hS := still_of hcl hir hjr hi hj hne hq h1 hy hl b hf hm
      have hf' : ∀ t ∈ oj.looksAt ops, (f.put x.1 x.2).get t = fr.get t := by
        intro t ht
        rw [get_put, if_neg (fun (h : t = x.1) => slot_free hi hj hne h1 hy hm (by rw [← h]; exact ht)), hf t ht]
        exact inval_free fun k xs u hb => slot_lends hcl hir hjr hi hj hy b hm ht hb
      show stepM g fi call ((f.put x.1 x.2).puts r) st oj = _
      rw [ih (fun z hz => hl' z (List.mem_cons_of_mem _ hz)) _ hf', stepM_put1 hS hsemi, Option.map_map]
      congr 1
      funext rs
      cases rs <;> rfl
  exact key y (fun _ h => h) fr (fun _ _ => rfl)

theorem after_puts (h2 : ∀ s, oi.dst = some s → oj.dst ≠ some s) (h3 : ∀ s, oj.dst = some s → s ∉ oi.looksAt ops) (hy : YOk ops i oi y) {f : Fr} {e : E} (he : ∀ k xs u, e ≠ .bor k xs (.slot u)) : (f.puts y).putO oj.dst e = (f.putO oj.dst e).puts y := by
  rw [← putO_puts, ← putO_puts]
  refine puts_comm y _ f fun s v hm t x hn => ?_
  have : oj.dst = some t ∧ x = e := by
    cases hd : oj.dst with
    | none => rw [hd] at hn; cases hn
    | some t' => rw [hd] at hn; simp at hn; exact ⟨by rw [hn.1], hn.2⟩
  obtain ⟨hd, rfl⟩ := this
  refine ⟨?_, inval_free fun k xs u hv => ?_, inval_free fun k xs u hv => (he k xs u hv).elim⟩
  · rintro rfl
    rcases hy.slot s v hm with hd' | ⟨ha', hh'⟩
    · exact h2 s hd' hd
    · exact h3 s hd (assign_looks ha')
  · rintro rfl
    obtain ⟨_, hmv, _⟩ := hy.bor s v k xs u hm hv
    exact h3 u hd (move_looks hmv)

/-- A quiet operation looks at nothing that is lent. -/
theorem quiet_look (b : BI ops fr) (hi : ops[i]? = some oi) (hq : isQM g fi oi = true) {t : Nat} (ht : t ∈ oi.looksAt ops) (k : Nat) (xs : List V) (u : Nat) : fr.get t ≠ .bor k xs (.slot u) := by
  intro hb
  obtain ⟨i0, o0, h0, h2, h3, h4⟩ := b t k xs u hb
  have := base_noisy (g := g) (fi := fi) ((borOk_spec h4 hi).1 ht).1
  rw [hq] at this; cases this

/-- What a quiet operation looks at, before and behind an effect beside it. -/
theorem beside (b : BI ops fr) (hi : ops[i]? = some oi) (hj : ops[j]? = some oj) (hne : j ≠ i) (hqi : isQM g fi oi = true) (hqj : isQM g fi oj = false) (h1 : ∀ s, oi.dst = some s → s ∉ oj.looksAt ops) (h3 : ∀ s, oj.dst = some s → s ∉ oi.looksAt ops) (hsemi : semiM fi oj = true)
    {e : E} {fr1 : Fr} {st1 : St} (hs : stepM g fi call fr st oj = some (.ok e fr1 st1)) :
    (∀ t ∈ oi.looksAt ops, (fr.get t).weak = ((fr1.putO oj.dst e).get t).weak) ∧
    (∀ u t, oi.dst = some t → (oi.op = .move (.tmp u) ∧ borOk ops i u t = true) ∨ (oi.op = .assign (.tmp u) ∧ handOk ops i u = true) →
      fr.get u = (fr1.putO oj.dst e).get u ∨ ((∀ n xs, fr.get u ≠ .own n xs) ∧ ∀ n xs, (fr1.putO oj.dst e).get u ≠ .own n xs)) := by
  obtain ⟨w1, w2, w3, _⟩ := stepM_weak hsemi hs
  have get1 : ∀ t ∈ oi.looksAt ops, (fr1.putO oj.dst e).get t = fr1.get t := by
    intro t ht
    cases hd : oj.dst with
    | none => rfl
    | some s =>
      show (fr1.put s e).get t = fr1.get t
      rw [get_put, if_neg (fun (h : t = s) => h3 s hd (by rw [← h]; exact ht))]
      exact inval_free fun k xs u hb => ((quiet_look b hi hqi ht k xs u) ((w2 t (.inr ⟨k, xs, u, hb⟩)).trans hb)).elim
  refine ⟨fun t ht => by rw [get1 t ht]; exact (w1 t).symm, fun u t hd hc => ?_⟩
  have hu : u ∈ oi.looksAt ops := by rcases hc with ⟨ho, _⟩ | ⟨ho, _⟩; exact move_looks ho; exact assign_looks ho
  rw [get1 u hu]
  by_cases h5 : ∃ n xs, fr1.get u = .own n xs
  · obtain ⟨n, xs, h5⟩ := h5
    exact .inl (w2 u (.inl ⟨n, xs, h5⟩))
  · by_cases h6 : ∃ n xs, fr.get u = .own n xs
    · obtain ⟨n, xs, h6⟩ := h6
      refine absurd ⟨n, xs, stepM_own hsemi h6 ?_ hs⟩ h5
      intro t' ht'
      have htl : t' ∈ oj.looksAt ops := looks_op ht' rfl
      have nomove : isMove u oj.op = false := by
        unfold isMove
        split
        · rename_i x ho; rw [move_quiet ho] at hqj; cases hqj
        · rfl
      refine ⟨?_, fun k ys hb => ?_⟩
      · rintro rfl
        rcases hc with ⟨ho, hbo⟩ | ⟨ho, hh⟩
        · rw [((borOk_spec hbo hj).2 hne htl).1] at nomove; cases nomove
        · exact handOk_spec hh hj hne htl
      · obtain ⟨i0, o0, h0, h7, h8, h9⟩ := b t' k ys u hb
        rcases hc with ⟨ho, hbo⟩ | ⟨ho, hh⟩
        · by_cases h10 : i0 = i
          · subst h10
            rw [hi] at h0; cases h0
            exact h1 t' h8 htl
          · have := ((borOk_spec hbo h0).2 h10 (move_looks h7)).2 t' h8 j oj hj
            rw [((borOk_spec h9 hj).1 htl).1] at this
            cases this
        · by_cases h10 : i0 = i
          · subst h10; rw [hi] at h0; cases h0; rw [ho] at h7; cases h7
          · exact handOk_spec hh h0 h10 (move_looks h7)
    · exact .inr ⟨fun n xs h => h6 ⟨n, xs, h⟩, fun n xs h => h5 ⟨n, xs, h⟩⟩

theorem aOp_put (hcl : Closed ops listed) (hir : i ∈ Region.ready .any ops listed) (hjr : j ∈ Region.ready .any ops listed) (hne : j ≠ i)
    (hi : ops[i]? = some oi) (hj : ops[j]? = some oj) (hap : oi.apart ops oj = true) {K : Fr → St → Prop} (b : BI ops fr)
    (hy : Yld g fi call ops i oi y fr st) (h : aOp g fi call ops j K PQ (fr.puts y) st) :
    aOp g fi call ops j (fun f s => BI ops f ∧ Yld g fi call ops i oi y f s ∧ K (f.puts y) s) PQ fr st := by
  obtain ⟨h1, h2, h3⟩ := Oper.apart_spec hap
  have hyo := hy.ok
  have look := look_puts hcl hir hjr hi hj hne h1 hyo b
  unfold aOp at h ⊢
  simp only [hj] at h ⊢
  rcases h with ⟨z, hz, hk⟩ | ⟨hp, hst, hq, hw, h⟩
  · have hz' : Yld g fi call ops j oj z fr st := hz.congr look (loc_puts _ _)
    have hzo := hz.ok
    refine .inl ⟨z, hz', b.puts hj hzo, hy.congr (fun t ht => ?_) (loc_puts _ _).symm, ?_⟩
    · exact (look_puts hcl hjr hir hj hi (Ne.symm hne) h3 hzo b t ht).symm
    · rw [← two_quiet hi hj hne hap hyo hzo]; exact hk
  · have hnord := not_ordered hcl hir hjr hne
    have hsemi : semiM fi oj = true := by
      rw [Bool.or_eq_true] at hp
      rcases hp with hp | hp
      · exact (hne (pivot_alone hcl hp hjr hir).symm).elim
      · exact hp
    have hns : strongB g fi ops i = false := by
      cases hs : strongB g fi ops i with
      | false => rfl
      | true => rw [strong_ord hs hj hq] at hnord; cases hnord
    obtain ⟨_, hf⟩ := hy.weak (fr' := fr) (st' := st) (fun _ => hns) (fun _ _ => rfl) (fun _ _ _ _ => .inl rfl) (fun _ _ => .refl _ _)
    have hse := stepE_puts (fi := fi) (call := call) (g := g) (st := st) hcl hir hjr hi hj hne hq h1 hyo hf b hsemi
    refine .inr ⟨hp, hst, hq, by rw [← wanted_congr look]; exact hw, ?_⟩
    rw [hse] at h
    rcases h with ⟨e, f1, st1, h, htm, hk⟩ | ⟨x, st1, h, hk⟩
    · simp only [Option.map_eq_some_iff] at h
      obtain ⟨rs, hrs, hrr⟩ := h
      cases rs with
      | pan x0 s0 => cases hrr
      | ok e0 f0 s0 =>
        simp only [Rs.puts, Rs.ok.injEq] at hrr
        obtain ⟨rfl, rfl, rfl⟩ := hrr
        obtain ⟨w1, w2, w3, w4, w5⟩ := stepM_weak hsemi hrs
        rw [if_pos hsemi] at hk
        have htm' : tameB ops j oj = true → SameRead fr st f0 s0 := fun ht => by
          have := htm ht
          exact ⟨fun s => by have := this.1 s; rwa [loc_puts, loc_puts] at this, this.2⟩
        refine .inl ⟨e0, f0, s0, hrs, htm', ?_⟩
        rw [if_pos hsemi]
        have hbi : BI ops (f0.putO oj.dst e0) := by
          rw [← putO_puts]
          exact (b.new w2).puts hj (YOk.dst w3)
        have hqo : wantedE ops.toList oi fr = some true → isQM g fi oi = true := fun h => by
          rcases hy with ⟨_, h', _⟩ | ⟨h', _⟩
          · exact h'
          · rw [h] at h'; cases h'
        refine ⟨hbi, ?_, ?_⟩
        · by_cases hwi : wantedE ops.toList oi fr = some true
          · obtain ⟨q1, q2⟩ := beside b hi hj hne (hqo hwi) hq h1 h3 hsemi hrs
            refine (hy.weak (fun _ => hns) q1 q2 (fun hm hl => ?_)).1
            have : SameRead fr st f0 s0 := by
              rcases mild_ord hm hj hq hnord with h5 | ⟨h5, h6⟩
              · exact w4 h5.1
              · exact htm' (tame_of hi hl h5 h6 hnord)
            exact ⟨fun s => by rw [loc_putO']; exact this.1 s, this.2⟩
          · rcases hy with ⟨h', _⟩ | ⟨hwf, rfl⟩
            · exact (hwi h').elim
            · refine .inr ⟨?_, rfl⟩
              rw [← hwf]
              refine (wanted_weak fun t ht => ?_).symm
              have hne' : oj.dst ≠ some t := fun h => h3 t h ht
              cases hd : oj.dst with
              | none => exact (w1 t).symm
              | some s =>
                show _ = ((f0.put s e0).get t).weak
                rw [get_put, if_neg (fun h => hne' (by rw [hd, h])), inval_weak]
                exact (w1 t).symm
        · rw [← after_puts h2 h3 hyo w3]; exact hk
    · simp only [Option.map_eq_some_iff] at h
      obtain ⟨rs, hrs, hrr⟩ := h
      cases rs with
      | ok e0 f0 s0 => cases hrr
      | pan x0 s0 => cases hrr; exact .inr ⟨x, st1, hrs, hk⟩
end

theorem aOp_mono {i : Nat} {K K' : Fr → St → Prop} (h : ∀ f s, K f s → K' f s) (hh : aOp g fi call ops i K PQ fr st) : aOp g fi call ops i K' PQ fr st := by
  unfold aOp at *
  split
  · rename_i ho; simp only [ho] at hh; exact h _ _ hh
  · rename_i o ho
    simp only [ho] at hh
    rcases hh with ⟨e, y, hk⟩ | ⟨a1, a2, a3, a4, ⟨e, f, s, hs, ht, hk⟩ | hk⟩
    · exact .inl ⟨e, y, h _ _ hk⟩
    · exact .inr ⟨a1, a2, a3, a4, .inl ⟨e, f, s, hs, ht, h _ _ hk⟩⟩
    · exact .inr ⟨a1, a2, a3, a4, .inr hk⟩

theorem any_first {Q : Fr → St → Prop} {i : Nat} {oi : Oper} {y : List (Nat × E)} (hi : ops[i]? = some oi) :
    ∀ (fuel : Nat) (listed : Array Bool) (fr : Fr) (st : St), BI ops fr → Closed ops listed →
      (∀ j oj, ops[j]? = some oj → j ≠ i → listed.getD j true = false → (∀ e ∈ oj.after, Region.binds .any e = true → e.on ≠ i) → oi.apart ops oj = true) →
      i ∈ Region.ready .any ops listed → Yld g fi call ops i oi y fr st →
      anyA g fi call ops Q PQ fuel (listed.setIfInBounds i true) (fr.puts y) st → anyA g fi call ops Q PQ (fuel + 1) listed fr st := by
  intro fuel
  induction fuel with
  | zero =>
    intro listed fr st b _ _ hr hy H
    refine ⟨fun h => (by rw [h] at hr; cases hr), fun j hj => ?_⟩
    by_cases hji : j = i
    · subst hji; unfold aOp; simp only [hi]; exact .inl ⟨y, hy, H⟩
    · have := ready_mono hj hji
      rw [H.1] at this
      cases this
  | succ fuel ih =>
    intro listed fr st b hcl hfree hr hy H
    refine ⟨fun h => (by rw [h] at hr; cases hr), fun j hj => ?_⟩
    by_cases hji : j = i
    · subst hji; unfold aOp; simp only [hi]; exact .inl ⟨y, hy, H⟩
    · have h1 := H.2 j (ready_mono hj hji)
      obtain ⟨hjun, oj, hoj, hall⟩ := mem_ready.1 hj
      have hnot : ∀ e ∈ oj.after, Region.binds .any e = true → e.on ≠ i := fun e he hb heq => by
        have h1 := hall e he hb
        have h0 := (mem_ready.1 hr).1
        rw [heq] at h1
        exact not_both h0 h1
      have hfree' : ∀ k ok, ops[k]? = some ok → k ≠ i → (listed.setIfInBounds j true).getD k true = false →
          (∀ e ∈ ok.after, Region.binds .any e = true → e.on ≠ i) → oi.apart ops ok = true := fun k ok hk hki hun hno => by
        refine hfree k ok hk hki ?_ hno
        by_cases hjk : j = k
        · subst hjk; exact hjun
        · rw [getD_set_ne true hjk] at hun; exact hun
      refine aOp_mono (fun f s hk => ?_) (aOp_put hcl hr hj hji hi hoj (hfree j oj hoj hji hjun hnot) b hy h1)
      exact ih (listed.setIfInBounds j true) f s hk.1 (hcl.list hj) hfree' (ready_mono hr (Ne.symm hji)) hk.2.1 (by rw [Array.setIfInBounds_comm _ _ hji]; exact hk.2.2)

/-- An effect, done first. -/
theorem any_eff {Q : Fr → St → Prop} {k : Nat} {ok : Oper} (hk : ops[k]? = some ok) (hsemi : semiM fi ok = true) (hstr : strongB g fi ops k = true) (hq : isQM g fi ok = false) :
    ∀ (fuel : Nat) (listed : Array Bool) (fr : Fr) (e : E) (fr1 : Fr) (st1 : St), BI ops fr → Closed ops listed → (∀ i, i < k → listed.getD i false = true) →
      (∀ j oj, ops[j]? = some oj → j ≠ k → listed.getD j true = false → (∀ e ∈ oj.after, Region.binds .any e = true → e.on ≠ k) → ok.apart ops oj = true) →
      k ∈ Region.ready .any ops listed → wantedE ops.toList ok fr = some true → stepM g fi call fr st ok = some (.ok e fr1 st1) → (tameB ops k ok = true → SameRead fr st fr1 st1) →
      anyA g fi call ops Q PQ fuel (listed.setIfInBounds k true) (fr1.putO ok.dst e) st1 → anyA g fi call ops Q PQ (fuel + 1) listed fr st := by
  intro fuel
  induction fuel with
  | zero =>
    intro listed fr e fr1 st1 b hcl hlt hfree hr hw hs htm H
    refine ⟨fun h => (by rw [h] at hr; cases hr), fun j hj => ?_⟩
    by_cases hji : j = k
    · subst hji; unfold aOp; simp only [hk]; exact .inr ⟨by rw [hsemi, Bool.or_true], hstr, hq, hw, .inl ⟨e, fr1, st1, hs, htm, by rw [if_pos hsemi]; exact H⟩⟩
    · have := ready_mono hj hji
      rw [H.1] at this
      cases this
  | succ fuel ih =>
    intro listed fr e fr1 st1 b hcl hlt hfree hr hw hs htm H
    refine ⟨fun h => (by rw [h] at hr; cases hr), fun i hi => ?_⟩
    by_cases hik : i = k
    · subst hik; unfold aOp; simp only [hk]; exact .inr ⟨by rw [hsemi, Bool.or_true], hstr, hq, hw, .inl ⟨e, fr1, st1, hs, htm, by rw [if_pos hsemi]; exact H⟩⟩
    · have h1 := H.2 i (ready_mono hi hik)
      obtain ⟨hiun, oi, hoi, hall⟩ := mem_ready.1 hi
      have hnot : ∀ e ∈ oi.after, Region.binds .any e = true → e.on ≠ k := fun e he hb heq => by
        have h1 := hall e he hb
        have h0 := (mem_ready.1 hr).1
        rw [heq] at h1
        exact not_both h0 h1
      obtain ⟨a1, a2, a3⟩ := Oper.apart_spec (hfree i oi hoi hik hiun hnot)
      have hord := not_ordered hcl hi hr (Ne.symm hik)
      have hqi : isQM g fi oi = true := by
        cases h : isQM g fi oi with
        | true => rfl
        | false =>
          have := strong_ord hstr hoi h
          have h2 := not_ordered hcl hr hi hik
          rw [h2] at this; cases this
      have hns : strongB g fi ops i = false := by
        cases h : strongB g fi ops i with
        | false => rfl
        | true => rw [strong_ord h hk hq] at hord; cases hord
      have hki : k < i := by
        rcases Nat.lt_trichotomy i k with h | h | h
        · exact (not_both hiun (hlt i h)).elim
        · exact (hik h).elim
        · exact h
      unfold aOp at h1 ⊢
      simp only [hoi] at h1 ⊢
      rcases h1 with ⟨y, hy, hK⟩ | ⟨_, _, h, _⟩
      · obtain ⟨w1, w2, w3, w4, w5⟩ := stepM_weak hsemi hs
        obtain ⟨q1, q2⟩ := beside b hoi hk (Ne.symm hik) hqi hq a3 a1 hsemi hs
        obtain ⟨y0, hf⟩ := hy.weak (fr' := fr) (st' := st) (fun _ => hns) (fun t ht => (q1 t ht).symm) (fun u t hd hc => (q2 u t hd hc).imp Eq.symm And.symm) (fun hm _ => by
          have hmo := (mild_ord hm hk hq hord).resolve_right (by omega)
          have := w5 (hmo.2.resolve_left (by omega))
          exact ⟨fun s => by rw [loc_putO']; exact this.1 s, this.2⟩)
        have hyo := y0.ok
        have hse := stepE_puts (fi := fi) (call := call) (g := g) (st := st) hcl hi hr hoi hk (Ne.symm hik) hq a3 hyo hf b hsemi
        rw [hs] at hse
        have a2' : ∀ s, oi.dst = some s → ok.dst ≠ some s := fun s h1 h2 => a2 s h2 h1
        refine .inl ⟨y, y0, ?_⟩
        refine ih (listed.setIfInBounds i true) (fr.puts y) e (fr1.puts y) st1 (b.puts hoi hyo) (hcl.list hi) (fun j hj => getD_set_true (hlt j hj)) ?_ (ready_mono hr (Ne.symm hik)) ?_ hse (fun ht => ⟨fun s => by have := (htm ht).1 s; rwa [loc_puts, loc_puts], (htm ht).2⟩) ?_
        · intro j oj hj hjk hun hno
          refine hfree j oj hj hjk ?_ hno
          by_cases hji : i = j
          · subst hji; exact hiun
          · rw [getD_set_ne true hji] at hun; exact hun
        · rw [wanted_congr (look_puts hcl hi hr hoi hk (Ne.symm hik) a3 hyo b)]; exact hw
        · rw [after_puts a2' a1 hyo w3, Array.setIfInBounds_comm _ _ hik]; exact hK
      · rw [hqi] at h; cases h

theorem any_lex {Q : Fr → St → Prop} : ∀ (l : List Oper) (k : Nat) (listed : Array Bool) (fr : Fr) (st : St) (out : Rg), BI ops fr → Closed ops listed → (∀ i, i < k → listed.getD i false = true) → (∀ (j : Nat), l[j]? = ops[k + j]?) →
    Region.lexFrom .any ops l.length k listed = true → evalDraw g fi call ops l k fr st = some out → (∀ fr' st', out = .ok fr' st' → Q fr' st') → (∀ v st', out = .pan v st' → PQ v st') → anyA g fi call ops Q PQ l.length listed fr st
  | [], _, _, _, _, _, _, _, _, _, hB, h, q, _ => by
    simp only [evalDraw, Option.some.injEq] at h; subst h
    exact ⟨by simpa [Region.lexFrom] using hB, q _ _ rfl⟩
  | o :: l, k, listed, fr, st, out, b, hcl, hlt, hl, hB, h, q, qp => by
    have h0 : ops[k]? = some o := by simpa using (hl 0).symm
    simp only [List.length_cons, Region.lexFrom, Bool.and_eq_true] at hB
    obtain ⟨⟨hr, hf⟩, hB'⟩ := hB
    have hr' : k ∈ Region.ready .any ops listed := by simpa using hr
    have hl' : ∀ (j : Nat), l[j]? = ops[k + 1 + j]? := fun j => by have := hl (j + 1); simpa [Nat.add_assoc, Nat.add_comm 1 j] using this
    have hlt' : ∀ i, i < k + 1 → (listed.setIfInBounds k true).getD i false = true := fun i hi => by
      by_cases h : i = k
      · subst h
        have hun := (mem_ready.1 hr').1
        have hsz : i < listed.size := by
          rcases Nat.lt_or_ge i listed.size with h | h
          · exact h
          · simp [Array.getElem?_eq_none h] at hun
        simp [hsz]
      · exact getD_set_true (hlt i (by omega))
    have quiet : ∀ y, Yld g fi call ops k o y fr st → evalDraw g fi call ops l (k + 1) (fr.puts y) st = some out → anyA g fi call ops Q PQ (l.length + 1) listed fr st := fun y hy hK =>
      any_first h0 l.length listed fr st b hcl (Region.free_spec h0 hf) hr' hy (any_lex l (k + 1) _ _ _ out (b.puts h0 hy.ok) (hcl.list hr') hlt' hl' hB' hK q qp)
    unfold evalDraw at h
    split at h
    · rename_i hw
      split at h
      · rename_i hq
        split at h
        · rename_i y hy
          exact quiet y (.inl ⟨hw, hq, hy⟩) h
        · cases h
      · rename_i hnq
        have hq : isQM g fi o = false := by simpa using hnq
        split at h
        · rename_i hp
          rw [Bool.and_eq_true, Bool.and_eq_true] at hp
          obtain ⟨⟨hps, hstr⟩, hidle⟩ := hp
          split at h
          · rename_i e fr1 st1 hs
            have htm : tameB ops k o = true → SameRead fr st fr1 st1 := fun ht => idle_sameM ht (by simpa [ht] using hidle) hs
            by_cases hsemi : semiM fi o = true
            · rw [if_pos hsemi] at h
              obtain ⟨w1, w2, w3, _⟩ := stepM_weak hsemi hs
              have hbi : BI ops (fr1.putO o.dst e) := by
                rw [← putO_puts]
                exact (b.new w2).puts h0 (YOk.dst (i := k) w3)
              exact any_eff h0 hsemi hstr hq l.length listed fr e fr1 st1 b hcl hlt (Region.free_spec h0 hf) hr' hw hs htm (any_lex l (k + 1) _ _ _ out hbi (hcl.list hr') hlt' hl' hB' h q qp)
            · have hp : pivotB ops k = true := by
                have : semiM fi o = false := by simpa using hsemi
                rw [this, Bool.or_false] at hps; exact hps
              rw [if_neg hsemi] at h
              refine ⟨fun h => (by rw [h] at hr'; cases hr'), fun i hi => ?_⟩
              have := pivot_alone hcl hp hr' hi
              subst this
              unfold aOp
              simp only [h0]
              exact .inr ⟨hps, hstr, hq, hw, .inl ⟨e, fr1, st1, hs, htm, by rw [if_neg hsemi]; exact any_lex l _ _ _ _ out (bi_calm ops) (hcl.list hr') hlt' hl' hB' h q qp⟩⟩
          · rename_i v st1 hs
            split at h
            · rename_i hth
              cases h
              refine ⟨fun h => (by rw [h] at hr'; cases hr'), fun i hi => ?_⟩
              have : i = k := by
                obtain ⟨hiu, _⟩ := mem_ready.1 hi
                rcases Nat.lt_trichotomy i k with h | h | h
                · exact (not_both hiu (hlt i h)).elim
                · exact h
                · have hlt := ready_size hi
                  exact (not_dep hcl hr' hi (List.all_eq_true.1 hth i (by rw [List.mem_range'_1]; omega))).elim
              subst this
              unfold aOp
              simp only [h0]
              exact .inr ⟨hps, hstr, hq, hw, .inr ⟨v, st1, hs, qp _ _ rfl⟩⟩
            · cases h
          · cases h
        · cases h
    · rename_i hw
      rw [← putO_puts] at h
      exact quiet _ (.inr ⟨hw, rfl⟩) h
    · cases h

theorem RepE.calm {v : Value} {s : Nat} {tmps : Array Value} {e : E} (hl : fr'.loc = fr.loc) (h : RepE d κ w lam fr st tmps s v e) : RepE d κ w lam fr' st tmps s v e.calm := by
  cases e with
  | bor k xs p =>
    cases p with
    | slot t => exact h.1
    | mem id off => exact h
    | loc t off =>
      obtain ⟨r1, cs, b, e1, e2⟩ := h
      exact ⟨r1, cs, b, by rw [hl]; exact e1, e2⟩
  | _ => exact h
theorem R.clear (r : R d n κ w lam fr st a) : R d n κ w lam fr.clear st a where
  sim := r.sim
  fm := {
    defers := r.fm.defers
    size := r.fm.size
    tmp := fun s => by
      rcases get_clear (fr := fr) s with hc | hc <;> rw [hc]
      · exact RepE.calm (fr := fr) (fr' := fr.clear) rfl (r.fm.tmp s)
      · trivial
    loc := fun s cs hc => r.fm.loc s cs hc }
theorem R.calm (r : R d n κ w lam fr st a) : R d n κ w lam fr.calm st a where
  sim := r.sim
  fm := {
    defers := r.fm.defers
    size := r.fm.size
    tmp := fun s => by
      rw [show fr.calm.get s = (fr.get s).calm from get_map fr E.calm rfl s]
      exact RepE.calm (fr := fr) (fr' := fr.calm) rfl (r.fm.tmp s)
    loc := fun s cs hc => r.fm.loc s cs hc }
theorem RepV.calm {tmps : Array Value} {v : Value} {e : E} (h : RepV κ w lam fr st tmps v e) : RepV κ w lam fr st tmps v e.calm := by
  cases e with
  | bor k xs p =>
    cases p with
    | slot t => exact h.1
    | _ => exact h
  | _ => exact h
theorem RepV.weak {tmps : Array Value} {v : Value} {e : E} (h : RepV κ w lam fr st tmps v e) : RepV κ w lam fr st tmps v e.weak := by
  cases e with
  | own k xs => exact h.1
  | bor k xs p => cases p <;> exact h.1
  | _ => exact h
theorem R.still (r : R d n κ w lam fr st a) (x : Operand) : RepV κ w lam fr st a.tmps (a.eval x) (fr.op x).still := by
  have gen : ∀ e : E, RepR κ w lam (a.eval x) e → (∀ k xs p, e ≠ .bor k xs p) → RepV κ w lam fr st a.tmps (a.eval x) e.still := by
    intro e h hne
    cases e with
    | bor k xs p => exact (hne _ _ _ rfl).elim
    | _ => exact h
  cases x with
  | tmp t =>
    have h := r.fm.tmp t
    show RepV κ w lam fr st a.tmps (a.tmps.getD t undef) (fr.get t).still
    generalize a.tmps.getD t undef = v at h
    generalize fr.get t = e at h
    cases e with
    | bor k xs p =>
      cases p with
      | slot t => exact h.1
      | _ => exact h
    | own k xs => exact h.1
    | _ => exact h
  | const v => exact gen _ (r.op _) (fun k xs p h => by
      simp only [Fr.op] at h
      generalize constV v = y at h
      cases y <;> simp [V.toE] at h)
  | func f => exact gen _ (r.op _) (fun k xs p h => by cases h)
  | global f => exact gen _ (r.op _) (fun k xs p h => by cases h)

theorem stepQ_wp (hg : GOk P g) (hc : CallOk P call) (r : R d n κ w lam fr st a) {e : E} (h : stepQ g fi call fr st o = some e) {next : Act → World → Prop} {Q : Exit → Act → World → Prop}
    (ha : ∀ v w' κ' lam', R d n κ' w' lam' fr st a → RepV κ' w' lam' fr st a.tmps v e → Pres (Keep d st.wp) κ w κ' w' → next (a.put o.dst v) w') : o.wp P a w next Q := by
  unfold stepQ at h
  split at h
  · rename_i x ho
    cases h
    refine Does.wp (rs := .ok (fr.op x).still fr st) (Does.pure r (v := a.eval x) (by unfold execOp; rw [ho]; rfl) (r.still x)) ?_
    exact fun v w' κ' lam' r' v' p _ => ha v w' κ' lam' r' v' p
  · rename_i x ho
    cases h
    refine Does.wp (rs := .ok (fr.op x).still fr st) (Does.pure r (v := a.eval x) (by unfold execOp; rw [ho]; rfl) (r.still x)) ?_
    exact fun v w' κ' lam' r' v' p _ => ha v w' κ' lam' r' v' p
  · split at h
    · rename_i hq
      split at h
      · rename_i e0 fr1 st1 hs
        cases h
        obtain ⟨e1, he⟩ := quiet_same hq hs
        cases he
        refine stepE_wp hg hc r hs ?_
        exact fun v w' κ' lam' r' v' p _ => ha v w' κ' lam' r' v'.calm p
      · cases h
    · cases h

theorem stepW_wp (hg : GOk P g) (hc : CallOk P call) (hb : ∀ s, o.dst = some s → s < n) (r : R d n κ w lam fr st a) {i : Nat} {y : List (Nat × E)} (h : stepW g fi call ops i fr st o = some y) {next : Act → World → Prop} {Q : Exit → Act → World → Prop}
    (ha : ∀ v w' κ' lam', R d n κ' w' lam' (fr.puts y) st (a.put o.dst v) → Pres (Keep d st.wp) κ w κ' w' → next (a.put o.dst v) w') : o.wp P a w next Q := by
  -- a yield of one temporary
  have one : ∀ {t : Nat} {e e0 : E}, o.dst = some t → y = [(t, e)] → stepQ g fi call fr st o = some e0 → (∀ {κ' : K} {w' : World} {lam' : Lam} {v : Value}, RepV κ' w' lam' fr st a.tmps v e0 → RepV κ' w' lam' fr st a.tmps v e) → o.wp P a w next Q := by
    intro t e e0 hd hy hq he
    refine stepQ_wp hg hc r hq fun v w' κ' lam' r' v' p => ?_
    obtain ⟨κ2, r2, p2⟩ := putO_ok r' hb (he v')
    exact ha v w' κ2 lam' (by rw [hy]; rw [hd] at r2 ⊢; exact r2) (p.trans (pres_fly p2))
  have full : ∀ {e : E} {fr1 : Fr}, stepE g fi call fr st o = some (.ok e fr1 st) → fr.puts y = fr1.putO o.dst e → o.wp P a w next Q := by
    intro e fr1 hs hy
    refine stepE_wp hg hc r hs ?_
    intro v w' κ' lam' r' v' p e'
    obtain ⟨κ2, r2, p2⟩ := putO_ok r' hb v'
    exact ha v w' κ2 lam' (by rw [hy]; exact r2) (p.trans (pres_fly p2))
  have other : ∀ {e e0 : E}, y = o.dst.toList.map (fun s => (s, e)) → stepQ g fi call fr st o = some e0 → (∀ {κ' : K} {w' : World} {lam' : Lam} {v : Value}, RepV κ' w' lam' fr st a.tmps v e0 → RepV κ' w' lam' fr st a.tmps v e) → o.wp P a w next Q := by
    intro e e0 hy hq he
    refine stepQ_wp hg hc r hq fun v w' κ' lam' r' v' p => ?_
    obtain ⟨κ2, r2, p2⟩ := putO_ok r' hb (he v')
    exact ha v w' κ2 lam' (by rw [hy, putO_puts]; exact r2) (p.trans (pres_fly p2))
  have qm : ∀ {u : Nat}, o.op = .move (.tmp u) → stepQ g fi call fr st o = some (fr.get u).still := fun ho => by unfold stepQ; rw [ho]; rfl
  have qa : ∀ {u : Nat}, o.op = .assign (.tmp u) → stepQ g fi call fr st o = some (fr.get u).still := fun ho => by unfold stepQ; rw [ho]; rfl
  have sw : ∀ {e : E} {κ' : K} {w' : World} {lam' : Lam} {v : Value}, RepV κ' w' lam' fr st a.tmps v e.still → RepV κ' w' lam' fr st a.tmps v e.weak := fun h => by
    have := h.weak; rw [still_weak] at this; exact this
  cases stepW_iff.1 h with
  | lend ho hd hu hb' =>
    refine full (e := .bor _ _ (.slot _)) (fr1 := fr) ?_ (by rw [hd]; rfl)
    unfold stepE stepOp
    simp only [ho, Fr.lend, hu]
  | keep ho hd hu hb' => exact one hd rfl (qm ho) (fun h => by rw [hu] at h; exact h)
  | move ho hd hu hs => exact one hd rfl (qm ho) (fun h => h)
  | movew ho hd hu hs => exact one hd rfl (qm ho) sw
  | hand ho hd hu hb' hne =>
    refine full (e := upE g o.type (.own _ _)) (fr1 := fr.put _ (.val (.slice _))) ?_ (by rw [hd]; rfl)
    unfold stepE stepOp
    simp only [ho, take, hu]
  | akeep ho hd hu hb' => exact one hd rfl (qa ho) (fun h => by rw [hu] at h; exact h)
  | assign ho hd hu hs => exact one hd rfl (qa ho) (fun h => h)
  | assignw ho hd hu hs => exact one hd rfl (qa ho) sw
  | other hno h9 hs => exact other rfl h9 (fun h => h)
  | otherw hno h9 hs hw => exact other rfl h9 (fun h => h.weak)

theorem any_wp (hg : GOk P g) (hc : CallOk P call) (hb : ∀ o ∈ ops.toList, ∀ s, o.dst = some s → s < n) {Qc : Exit → Act → World → Prop} {Q : Fr → St → Prop} :
    ∀ (fuel : Nat) (listed : Array Bool) {κ : K} {w : World} {lam : Lam} {fr : Fr} {st : St} {a : Act}, R d n κ w lam fr st a → (∀ f s, Q f s → Fin d n κ w st Qc (.ok f s)) → (∀ v s, PQ v s → Fin d n κ w st Qc (.pan v s)) →
      anyA g fi call ops Q PQ fuel listed fr st → wpAny P .any ops Qc fuel listed a w
  | 0, _, κ, w, lam, fr, st, a, r, q, qp, h => ⟨h.1, q _ _ h.2 a w κ lam r (.refl _ _ _) rfl⟩
  | fuel + 1, listed, κ, w, lam, fr, st, a, r, q, qp, h => by
    refine ⟨fun h0 => q _ _ (h.1 h0) a w κ lam r (.refl _ _ _) rfl, fun i hi => ?_⟩
    have h1 := h.2 i hi
    unfold aOp at h1
    unfold wpOp
    split
    · rename_i ho
      simp only [ho] at h1
      exact any_wp hg hc hb fuel _ r q qp h1
    · rename_i o ho
      simp only [ho] at h1
      have hmem : o ∈ ops.toList := by
        have := Array.mem_of_getElem? ho; simpa using this
      rcases h1 with ⟨y, hy, h2⟩ | ⟨_, _, _, hw, h2⟩
      · rcases hy with ⟨hw, _, hs⟩ | ⟨hw, rfl⟩
        · rw [wanted_ok r hw, if_pos rfl]
          refine .inl (stepW_wp hg hc (hb o hmem) r hs ?_)
          intro v w' κ' lam' r' p3
          exact any_wp hg hc hb fuel _ r' (fun f s h => (q f s h).trans p3 rfl) (fun v s h => (qp v s h).trans p3 rfl) h2
        · rw [wanted_ok r hw]
          simp only [Bool.false_eq_true, if_false]
          obtain ⟨κ2, r2, p2⟩ := putO_ok (e := .val (.tuple [])) (v := undef) r (hb o hmem) (Rep.tuple .nil)
          rw [putO_puts] at h2
          exact any_wp hg hc hb fuel _ r2 (fun f s h => (q f s h).trans (pres_fly p2) rfl) (fun v s h => (qp v s h).trans (pres_fly p2) rfl) h2
      · rw [wanted_ok r hw, if_pos rfl]
        refine .inl ?_
        rcases h2 with ⟨e, fr1, st1, hs, _, h3⟩ | ⟨v, st1, hs, h3⟩
        · refine stepM_wp hg hc r hs ?_
          intro v w' κ' lam' r' v' p' e'
          obtain ⟨κ2, r2, p2⟩ := putO_ok r' (hb o hmem) v'
          have p3 := p'.trans (pres_fly (wp := st.wp) p2)
          split at h3
          · exact any_wp hg hc hb fuel _ r2 (fun f s h => (q f s h).trans p3 e') (fun v s h => (qp v s h).trans p3 e') h3
          · exact any_wp hg hc hb fuel _ r2.calm (fun f s h => (q f s h).trans p3 e') (fun v s h => (qp v s h).trans p3 e') h3
        · refine stepM_wp hg hc r hs ?_
          intro u w' κ' hu s' p' e'
          exact qp v st1 h3 a u w' κ' r.fm.defers hu s' p' e'

/-- A region whose order is drawn. -/
theorem draw_wp (hg : GOk P g) (hc : CallOk P call) (hb : ∀ o ∈ ops.toList, ∀ s, o.dst = some s → s < n) (r : R d n κ w lam fr st a) (hB : Region.lexB .any ops = true) {out : Rg}
    (h : evalDraw g fi call ops ops.toList 0 fr.clear st = some out) {Qc : Exit → Act → World → Prop} (hQ : Fin d n κ w st Qc out) (id : Nat) : (Code.region id ops true).wp P Qc a w := by
  have hB' := hB
  simp only [Region.lexB, Bool.and_eq_true] at hB'
  have r1 : R d n κ w.drew lam fr.clear st a := (r.clear).drew
  refine wp_region_any hg.mixed ?_
  rw [World.drew_eq]
  have hQ' : Fin d n κ w.drew st Qc out := hQ.trans (pres_drew _) rfl
  refine any_wp (fi := fi) (Q := fun f s => out = .ok f s) (PQ := fun v s => out = .pan v s) hg hc hb ops.size _ r1 (fun f s h => h ▸ hQ') (fun v s h => h ▸ hQ') ?_
  have hcl : Closed ops (Array.replicate ops.size false) := by
    intro j o ho hj
    have hlt := (Array.getElem?_eq_some_iff.1 ho).1
    simp [hlt] at hj
  have := any_lex (g := g) (fi := fi) (call := call) (ops := ops) (PQ := fun v s => out = .pan v s) (Q := fun f s => out = .ok f s) ops.toList 0 (Array.replicate ops.size false) fr.clear st out (bi_clear ops) hcl (fun i hi => (Nat.not_lt_zero i hi).elim) (by simp) (by simpa using hB'.2) h (fun _ _ h => h) (fun _ _ h => h)
  simpa using this
end
end Go.Ab
