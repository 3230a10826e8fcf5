/- The table of types stands for the program's. Constants. Reading a temporary. -/
import Derived.Test.YtiiahehclbmodaaAbR2
import Derived.Test.YtiiahehclbmodaaAbT
import Derived.Laws.Build
namespace Go.Ab
open Go
set_option linter.unusedVariables false
set_option linter.unusedSimpArgs false
set_option linter.unnecessarySimpa false

mutual
theorem constV_rep (κ : K) (w : World) : (v : Value) → Rep κ w v (constV v)
  | .bool _ => by simp only [constV]; exact .bool _
  | .int _ _ => by simp only [constV]; exact .int _ _
  | .float _ _ => by simp only [constV]; exact .float _ _
  | .complex _ _ _ => by simp only [constV]; exact .any _
  | .string _ => by simp only [constV]; exact .str _
  | .pointer none => by simp only [constV]; exact .nilp
  | .pointer (some _) => by simp only [constV]; exact .any _
  | .slice none 0 0 => by simp only [constV]; exact .osl (xs := []) (.slice0 _ _)
  | .slice none 0 (_ + 1) => by simp only [constV]; exact .any _
  | .slice none (_ + 1) _ => by simp only [constV]; exact .any _
  | .slice (some _) _ _ => by simp only [constV]; exact .any _
  | .map _ => by simp only [constV]; exact .any _
  | .chan _ => by simp only [constV]; exact .any _
  | .func _ _ _ => by simp only [constV]; exact .any _
  | .nilFunc => by simp only [constV]; exact .nilf
  | .iface _ _ => by simp only [constV]; exact .any _
  | .nilIface => by simp only [constV]; exact .nili
  | .agg ⟨cs⟩ => by simp only [constV]; exact .agg (constVs_rep κ w cs)
  | .tuple _ => by simp only [constV]; exact .any _
theorem constVs_rep (κ : K) (w : World) : (vs : List Value) → Reps κ w vs (constVs vs)
  | [] => .nil
  | v :: r => .cons (constV_rep κ w v) (constVs_rep κ w r)
end

theorem info_of_types {P : Program} {t : Nat} {i : TypeInfo} (h : P.types[t]? = some i) : P.info? t = some i := by
  have : t < P.types.size := by
    rcases Nat.lt_or_ge t P.types.size with h1 | h1
    · exact h1
    · rw [Array.getElem?_eq_none h1] at h; cases h
  simp only [Tables.info?, this, if_true, h]
theorem underlying_of {P : Program} {t : Nat} {d : TypeDesc} (h : undOf P.toTables t = some d) : P.underlying t = some d := by
  unfold undOf at h
  split at h
  · rename_i i hi
    unfold Program.underlying
    rw [info_of_types hi]
    obtain ⟨desc, _, _, _, _, _, _, _, _, _⟩ := i
    cases desc <;> simp only at h ⊢ <;> try exact h
    rename_i n u
    cases hu : P.types[u]? with
    | none => rw [hu] at h; simp at h
    | some j => rw [hu] at h; rw [info_of_types hu]; exact h
  · cases h

theorem upCell_rep {κ : K} {w : World} {v : Value} {x : V} {k : Nat} (h : Rep κ w v x) : Rep κ w v (upCell (x, k)) := h
theorem zipUp_rep {κ : K} {w : World} : ∀ {vs : List Value} {xs : List V} {ks : List Nat}, Reps κ w vs xs → vs.length = ks.length → Reps κ w vs ((xs.zip ks).map upCell)
  | [], _, [], .nil, _ => .nil
  | _ :: _, _, _ :: _, .cons h r, hl => .cons (upCell_rep h) (zipUp_rep r (by simpa using hl))

theorem constVs_length : (vs : List Value) → (constVs vs).length = vs.length
  | [] => rfl
  | _ :: r => by simp [constVs, constVs_length r]

def isAggT (d : TypeDesc) : Bool := isAggD (some d)

/-- What an entry of the table says. -/
def TKok (P : Program) (d : TypeDesc) (k : TK) : Prop :=
  match k with
  | .bool => d = .bool
  | .int k => d = .int k
  | .float k => d = .float k
  | .str => d = .string
  | .pointer => ∃ e, d = .pointer e
  | .slice esz eb ea ez => ∃ e i z de, d = .slice e ∧ P.info? e = some i ∧ i.size = esz ∧ i.bytes = eb ∧ i.zero = some z ∧ P.underlying e = some de ∧ isAggT de = ea ∧ ∀ κ w, Reps κ w z.cells.toList ez
  | .array n esz ea => ∃ e i de, d = .array n e ∧ P.info? e = some i ∧ i.size = esz ∧ P.underlying e = some de ∧ isAggT de = ea
  | .struct l => ∃ fs : Array Field, d = .struct fs ∧ l.length = fs.size ∧ ∀ (j : Nat) f, fs[j]? = some f → ∃ i de, P.info? f.type = some i ∧ P.underlying f.type = some de ∧ l[j]? = some (f.offset, i.size, isAggT de)
  | .func => ∃ a b c, d = .func a b c
  | .iface => ∃ m, d = .interface m
  | .other => True
structure TIok (P : Program) (t : Nat) (ti : TI) : Prop where
  info : ∃ i z, P.info? t = some i ∧ i.size = ti.size ∧ i.zero = some z ∧ ∀ κ w, Reps κ w z.cells.toList ti.zero
  und : ∃ d, P.underlying t = some d ∧ TKok P d ti.k ∧ ti.agg = isAggT d


theorem zeroCs_ok {P : Program} {t : Nat} {z : List V} (h : zeroCs P.toTables t = some z) :
    ∃ i zv, P.types[t]? = some i ∧ i.zero = some zv ∧ ∀ κ w, Reps κ w zv.cells.toList z := by
  unfold zeroCs at h
  split at h
  · rename_i i hi
    split at h
    · rename_i zv hz
      dsimp only at h
      split at h
      · rename_i hl
        cases h
        exact ⟨i, zv, hi, hz, fun κ w => zipUp_rep (constVs_rep κ w _) (by simpa using hl)⟩
      · cases h
    · cases h
  · cases h

theorem fieldsOf_ok {P : Program} : ∀ {fs : List Field} {l : List (Nat × Nat × Bool)}, fieldsOf P.toTables fs = some l →
    l.length = fs.length ∧ ∀ (j : Nat) f, fs[j]? = some f → ∃ i de, P.info? f.type = some i ∧ P.underlying f.type = some de ∧ l[j]? = some (f.offset, i.size, isAggT de)
  | [], l, h => by simp only [fieldsOf] at h; cases h; simp
  | f :: r, l, h => by
    unfold fieldsOf at h
    split at h
    · rename_i i d l' hi hd hl
      cases h
      obtain ⟨h1, h2⟩ := fieldsOf_ok hl
      refine ⟨by simp [h1], fun j g hg => ?_⟩
      cases j with
      | zero => simp at hg; subst hg; exact ⟨i, d, info_of_types hi, underlying_of hd, rfl⟩
      | succ j => simp at hg; obtain ⟨i', d', a, b, c⟩ := h2 j g hg; exact ⟨i', d', a, b, by simpa using c⟩
    · cases h

theorem mkTK_ok (P : Program) (d : TypeDesc) : TKok P d (mkTK P.toTables (some d)) := by
  cases d <;> simp only [mkTK] <;> try trivial
  case pointer e => exact ⟨e, rfl⟩
  case slice e =>
    split
    · rename_i i de z hi hd hz
      obtain ⟨i', zv, h1, h2, h3⟩ := zeroCs_ok hz
      rw [hi] at h1; cases h1
      exact ⟨e, i, zv, de, rfl, info_of_types hi, rfl, rfl, h2, underlying_of hd, rfl, h3⟩
    · trivial
  case array n e =>
    split
    · rename_i i de hi hd
      exact ⟨e, i, de, rfl, info_of_types hi, rfl, underlying_of hd, rfl⟩
    · trivial
  case struct fs =>
    split
    · rename_i l hl
      obtain ⟨h1, h2⟩ := fieldsOf_ok hl
      exact ⟨fs, rfl, by simpa using h1, fun j f hf => h2 j f (by simpa using hf)⟩
    · trivial
  case func a b c => exact ⟨a, b, c, rfl⟩
  case interface m => exact ⟨m, rfl⟩

/-- The interpreter's table, reckoned off a program, says what is so. -/
theorem mkTI_ok {P : Program} {t : Nat} {ti : TI} (h : mkTI P.toTables t = some ti) : TIok P t ti := by
  unfold mkTI at h
  split at h
  · rename_i i d z hi hd hz
    cases h
    obtain ⟨i', zv, h1, h2, h3⟩ := zeroCs_ok hz
    rw [hi] at h1; cases h1
    exact ⟨⟨i, zv, info_of_types hi, rfl, h2, h3⟩, ⟨d, underlying_of hd, mkTK_ok P d, rfl⟩⟩
  · cases h

structure TyOk (P : Program) (g : G) : Prop where
  ti : ∀ t ti, g.ty t = some ti → TIok P t ti
  eq : ∀ t ks, g.eqs t = some ks → mkEq P t = some ks
  con : ∀ t, g.con t = true → P.concrete t = true
  u8 : ∀ t, g.u8 t = true → ∃ e, P.underlying t = some (.slice e) ∧ P.underlying e = some (.int .u8)
theorem mkU8_ok {P : Program} {t : Nat} (h : mkU8 P.toTables t = true) : ∃ e, P.underlying t = some (.slice e) ∧ P.underlying e = some (.int .u8) := by
  unfold mkU8 at h
  split at h
  · rename_i e he
    split at h
    · rename_i h2; exact ⟨e, underlying_of he, underlying_of h2⟩
    · cases h
  · cases h

/-- What a temporary reads as. -/
def RepR (κ : K) (w : World) (lam : Lam) (v : Value) : E → Prop
  | .any => True
  | .val x => Rep κ w v x
  | .lp t off => ∃ b, lam t = some b ∧ v = .pointer (some (at_ b off))
  | .own _ xs => Rep κ w v (.slice xs)
  | .bor _ xs _ => Rep κ w v (.slice xs)

theorem RepE.read {d : Nat} {κ : K} {w : World} {lam : Lam} {fr : Fr} {st : St} {tmps : Array Value} {s : Nat} {v : Value} {e : E} (h : RepE d κ w lam fr st tmps s v e) : RepR κ w lam v e := by
  cases e with
  | any => trivial
  | val x => exact h
  | lp t off => exact h
  | own k xs => exact h.1
  | bor k xs p => cases p <;> exact h.1
theorem RepV.read {κ : K} {w : World} {lam : Lam} {fr : Fr} {st : St} {tmps : Array Value} {v : Value} {e : E} (h : RepV κ w lam fr st tmps v e) : RepR κ w lam v e := by
  cases e with
  | any => trivial
  | val x => exact h
  | lp t off => exact h
  | own k xs => exact h.1
  | bor k xs p => cases p <;> exact h.1

theorem RepV.toE {κ : K} {w : World} {lam : Lam} {fr : Fr} {st : St} {tmps : Array Value} {v : Value} {x : V} (h : Rep κ w v x) : RepV κ w lam fr st tmps v x.toE := by
  cases x <;> try exact h
  cases h with | osl h => exact ⟨h, .full⟩

theorem R.op {d n : Nat} {κ : K} {w : World} {lam : Lam} {fr : Fr} {st : St} {a : Act} (r : R d n κ w lam fr st a) (x : Operand) : RepR κ w lam (a.eval x) (fr.op x) := by
  cases x with
  | tmp t => exact (r.fm.tmp t).read
  | const v => exact (RepV.toE (lam := lam) (fr := fr) (st := st) (tmps := a.tmps) (constV_rep κ w v)).read
  | global g => trivial
  | func f => exact Rep.func .nil .nil

theorem R.lend {d n : Nat} {κ : K} {w : World} {lam : Lam} {fr : Fr} {st : St} {a : Act} (r : R d n κ w lam fr st a) (x : Operand) : RepV κ w lam fr st a.tmps (a.eval x) (fr.lend x) := by
  cases x with
  | tmp t =>
    simp only [Fr.lend]
    split
    · rename_i k xs he
      have h := r.fm.tmp t
      rw [he] at h
      exact ⟨h.1, he, rfl⟩
    · rename_i e hn
      exact RepV.mk r t (fun k xs he => hn k xs he)
  | const v => exact RepV.toE (constV_rep κ w v)
  | global g => trivial
  | func f => exact Rep.func .nil .nil

theorem Rep.strip1 {κ : K} {w : World} {v : Value} {x : V} (h : Rep κ w v x) : Rep κ w v x.strip1 := by
  cases x <;> try exact h
  cases h with | osl h => exact h
theorem Reps.strip1 {κ : K} {w : World} : ∀ {vs : List Value} {xs : List V}, Reps κ w vs xs → Reps κ w vs (xs.map V.strip1)
  | _, _, .nil => .nil
  | _, _, .cons h r => .cons h.strip1 r.strip1
theorem Rep.strip {κ : K} {w : World} {v : Value} {x : V} (h : Rep κ w v x) : Rep κ w v x.strip := by
  cases x <;> try exact h
  · cases h with | osl h => exact h
  · cases h with | agg h => exact .agg h.strip1
theorem RepR.v {κ : K} {w : World} {lam : Lam} {v : Value} {e : E} {x : V} (h : RepR κ w lam v e) (he : e.v? = some x) : Rep κ w v x := by
  cases e <;> simp only [E.v?, Option.some.injEq, reduceCtorEq] at he
  · subst he; exact Rep.strip h
  · subst he; exact h
  · subst he; exact h

inductive Reads (κ : K) (w : World) (lam : Lam) : List Value → List E → Prop
  | nil : Reads κ w lam [] []
  | cons {v : Value} {e : E} {vs : List Value} {es : List E} (h : RepR κ w lam v e) (r : Reads κ w lam vs es) : Reads κ w lam (v :: vs) (e :: es)
theorem vsOf_reps {κ : K} {w : World} {lam : Lam} : ∀ {vs : List Value} {es : List E} {xs : List V}, Reads κ w lam vs es → vsOf es = some xs → Reps κ w vs xs
  | _, _, _, .nil, h => by simp only [vsOf, Option.some.injEq] at h; subst h; exact .nil
  | _, _, _, .cons h r, hx => by
    simp only [vsOf] at hx
    split at hx
    · rename_i v hv
      cases hr : vsOf _ with
      | none => rw [hr] at hx; simp at hx
      | some ys =>
        rw [hr] at hx
        simp only [Option.map_some, Option.some.injEq] at hx
        subst hx
        exact .cons (h.v hv) (vsOf_reps r hr)
    · cases hx
theorem R.ops {d n : Nat} {κ : K} {w : World} {lam : Lam} {fr : Fr} {st : St} {a : Act} (r : R d n κ w lam fr st a) : (l : List Operand) → Reads κ w lam (l.map a.eval) (l.map fr.op)
  | [] => .nil
  | x :: l => .cons (r.op x) (r.ops l)

theorem Reps.length {κ : K} {w : World} : ∀ {vs : List Value} {xs : List V}, Reps κ w vs xs → vs.length = xs.length
  | _, _, .nil => rfl
  | _, _, .cons _ r => by simp [r.length]
theorem Reps.get {κ : K} {w : World} : ∀ {vs : List Value} {xs : List V} (_ : Reps κ w vs xs) (i : Nat) (x : V), xs[i]? = some x → ∃ v, vs[i]? = some v ∧ Rep κ w v x
  | _, _, .nil, i, x, h => by simp at h
  | _, _, .cons h _, 0, x, hx => by simp at hx; subst hx; exact ⟨_, rfl, h⟩
  | _, _, .cons _ r, i + 1, x, hx => by simp at hx; simpa using r.get i x hx
theorem Reps.append {κ : K} {w : World} : ∀ {vs us : List Value} {xs ys : List V}, Reps κ w vs xs → Reps κ w us ys → Reps κ w (vs ++ us) (xs ++ ys)
  | _, _, _, _, .nil, g => g
  | _, _, _, _, .cons h r, g => .cons h (r.append g)
theorem Reps.take {κ : K} {w : World} : ∀ {vs : List Value} {xs : List V}, Reps κ w vs xs → ∀ n, Reps κ w (vs.take n) (xs.take n)
  | _, _, _, 0 => by simp; exact .nil
  | _, _, .nil, _ + 1 => .nil
  | _, _, .cons h r, n + 1 => .cons h (r.take n)
theorem Reps.drop {κ : K} {w : World} : ∀ {vs : List Value} {xs : List V}, Reps κ w vs xs → ∀ n, Reps κ w (vs.drop n) (xs.drop n)
  | _, _, h, 0 => h
  | _, _, .nil, _ + 1 => .nil
  | _, _, .cons _ r, n + 1 => r.drop n
theorem Reps.of_get {κ : K} {w : World} : ∀ {vs : List Value} {xs : List V}, vs.length = xs.length → (∀ (i : Nat) v x, vs[i]? = some v → xs[i]? = some x → Rep κ w v x) → Reps κ w vs xs
  | [], [], _, _ => .nil
  | v :: vs, x :: xs, hl, h => .cons (h 0 v x rfl rfl) (Reps.of_get (by simpa using hl) fun i v x h1 h2 => h (i + 1) v x (by simpa using h1) (by simpa using h2))

theorem RepAt.length_le {κ : K} {w : World} {b o : Nat} {xs : List V} (h : RepAt κ w b o xs) (j : Nat) (x : V) (hx : xs[j]? = some x) : ∃ v, Imm κ w b (o + j) v ∧ Rep κ w v x := by
  induction xs generalizing o j with
  | nil => simp at hx
  | cons y ys ih =>
    cases h with
    | cons hi hr r =>
      cases j with
      | zero => simp at hx; subst hx; exact ⟨_, hi, hr⟩
      | succ j => simp at hx; obtain ⟨v, h1, h2⟩ := ih r j hx; exact ⟨v, by rwa [Nat.add_assoc, Nat.add_comm 1 j] at h1, h2⟩
theorem RepAt.of_get {κ : K} {w : World} {b : Nat} {xs : List V} : ∀ {o : Nat}, (∀ j x, xs[j]? = some x → ∃ v, Imm κ w b (o + j) v ∧ Rep κ w v x) → RepAt κ w b o xs := by
  induction xs with
  | nil => intro o _; exact .nil
  | cons y ys ih =>
    intro o h
    obtain ⟨v, h1, h2⟩ := h 0 y rfl
    refine .cons h1 h2 (ih fun j x hx => ?_)
    obtain ⟨v, h3, h4⟩ := h (j + 1) x (by simpa using hx)
    exact ⟨v, by rwa [Nat.add_assoc, Nat.add_comm 1 j], h4⟩
theorem RepAt.drop {κ : K} {w : World} {b : Nat} {xs : List V} : ∀ {o : Nat}, RepAt κ w b o xs → ∀ n, RepAt κ w b (o + n) (xs.drop n) := by
  intro o h n
  refine RepAt.of_get fun j x hx => ?_
  rw [List.getElem?_drop] at hx
  rw [Nat.add_assoc]
  exact h.length_le _ _ hx
theorem RepAt.take {κ : K} {w : World} {b : Nat} {xs : List V} {o : Nat} (h : RepAt κ w b o xs) (n : Nat) : RepAt κ w b o (xs.take n) := by
  refine RepAt.of_get fun j x hx => ?_
  rw [List.getElem?_take] at hx
  split at hx
  · exact h.length_le _ _ hx
  · cases hx
theorem RepAt.append {κ : K} {w : World} {b o : Nat} {xs ys : List V} (h : RepAt κ w b o xs) (g : RepAt κ w b (o + xs.length) ys) : RepAt κ w b o (xs ++ ys) := by
  refine RepAt.of_get fun j x hx => ?_
  rcases Nat.lt_or_ge j xs.length with hj | hj
  · rw [List.getElem?_append_left hj] at hx; exact h.length_le _ _ hx
  · rw [List.getElem?_append_right hj] at hx
    obtain ⟨v, h1, h2⟩ := g.length_le _ _ hx
    exact ⟨v, by rwa [show o + xs.length + (j - xs.length) = o + j by omega] at h1, h2⟩
end Go.Ab
