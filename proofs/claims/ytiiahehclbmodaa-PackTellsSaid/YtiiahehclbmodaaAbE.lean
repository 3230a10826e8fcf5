/- Effects that stand on either side of a quiet operation. -/
import Derived.Test.YtiiahehclbmodaaAbI
namespace Go.Ab
open Go
set_option linter.unusedVariables false
set_option linter.unusedSimpArgs false
set_option linter.unnecessarySimpa false

variable {fr fr' : Fr} {st st' : St} {o : Oper} {g : G} {fi : FI} {call : Calling}

/-! ### entries, their owners forgotten -/
def isSl (e : E) (xs : List V) : Prop := e = .val (.slice xs) ∨ (∃ k, e = .own k xs) ∨ ∃ k p, e = .bor k xs p
theorem isSl_weak {e : E} {xs : List V} (h : e.weak = .val (.slice xs)) : isSl e xs := by
  cases e with
  | val v => exact .inl h
  | own k ys => cases h; exact .inr (.inl ⟨_, rfl⟩)
  | bor k ys p => cases h; exact .inr (.inr ⟨_, _, rfl⟩)
  | any => cases h
  | lp s o => cases h
theorem weak_cases {e e' : E} (h : e.weak = e'.weak) : e = e' ∨ ∃ xs, isSl e xs ∧ isSl e' xs := by
  have key : ∀ (e e' : E) (xs : List V), e.weak = e'.weak → e.weak = .val (.slice xs) → e = e' ∨ ∃ xs, isSl e xs ∧ isSl e' xs := fun e e' xs h h1 =>
    .inr ⟨xs, isSl_weak h1, isSl_weak (h.symm.trans h1)⟩
  cases e with
  | own k xs => exact key _ _ xs h rfl
  | bor k xs p => exact key _ _ xs h rfl
  | any => cases e' <;> first | exact .inl rfl | cases h
  | lp s o => cases e' <;> first | (cases h; done) | exact .inl h
  | val v =>
    cases e' with
    | own k xs => exact key _ _ xs h h
    | bor k xs p => exact key _ _ xs h h
    | val v' => exact .inl h
    | any => cases h
    | lp s o => cases h
theorem weak_weak (e : E) : e.weak.weak = e.weak := by cases e <;> rfl
theorem calm_weak (e : E) : e.calm.weak = e.weak := by
  cases e with
  | bor k xs p => cases p <;> rfl
  | _ => rfl
theorem still_weak (e : E) : e.still.weak = e.weak := by
  cases e with
  | bor k xs p => cases p <;> rfl
  | _ => rfl
theorem weak_calm (e : E) : e.weak.calm = e.weak := by cases e <;> rfl
theorem inval_weak (e : E) (p : Pl) : (e.inval p).weak = e.weak := by
  cases e with
  | bor k xs q => simp only [E.inval]; split <;> rfl
  | _ => rfl
theorem inval_calm' (e : E) (t : Nat) : (e.inval (.slot t)).calm = e.calm := by
  cases e with
  | bor k xs q =>
    cases q with
    | slot u => simp only [E.inval]; split <;> rfl
    | _ => rfl
  | _ => rfl
theorem noMem_weak (e : E) : e.noMem.weak = e.weak := by
  cases e with
  | bor k xs q => cases q <;> rfl
  | _ => rfl
theorem noLoc_weak (e : E) : e.noLoc.weak = e.weak := by
  cases e with
  | bor k xs q => cases q <;> rfl
  | _ => rfl

/-- A function of an entry that does not ask who owns. -/
def Blind {α : Type} (f : E → α) : Prop := ∀ xs e, isSl e xs → f e = f (.val (.slice xs))
theorem Blind.eq {α : Type} {f : E → α} (hf : Blind f) {e e' : E} (h : e.weak = e'.weak) : f e = f e' := by
  rcases weak_cases h with rfl | ⟨xs, h1, h2⟩
  · rfl
  · rw [hf xs e h1, hf xs e' h2]
theorem blind_v : Blind E.v? := by rintro xs e (rfl | ⟨k, rfl⟩ | ⟨k, p, rfl⟩) <;> rfl
theorem blind_int : Blind E.int? := by rintro xs e (rfl | ⟨k, rfl⟩ | ⟨k, p, rfl⟩) <;> rfl
theorem blind_bool : Blind E.bool? := by rintro xs e (rfl | ⟨k, rfl⟩ | ⟨k, p, rfl⟩) <;> rfl
theorem blind_part : Blind E.part? := by rintro xs e (rfl | ⟨k, rfl⟩ | ⟨k, p, rfl⟩) <;> rfl
theorem blind_elems : Blind elemsOf := by rintro xs e (rfl | ⟨k, rfl⟩ | ⟨k, p, rfl⟩) <;> rfl
theorem blind_add (n : Nat) : Blind fun e => addrAdd e n := by rintro xs e (rfl | ⟨k, rfl⟩ | ⟨k, p, rfl⟩) <;> rfl
theorem blind_place (fr : Fr) (st : St) : Blind (placeOf fr st) := by rintro xs e (rfl | ⟨k, rfl⟩ | ⟨k, p, rfl⟩) <;> rfl
theorem blind_idx (ti : TI) (i : Int) : Blind fun e => indexAddrStep ti e i := by
  rintro xs e (rfl | ⟨k, rfl⟩ | ⟨k, p, rfl⟩) <;> simp only [indexAddrStep, elemsOf, addrAdd]
theorem blind_len (k : TK) : Blind fun e => lenE k e := by
  rintro xs e (rfl | ⟨k', rfl⟩ | ⟨k', p, rfl⟩) <;> cases k <;> simp only [lenE, elemsOf]
theorem blind_app (k : Option TK) : Blind (appended k) := by
  rintro xs e (rfl | ⟨k', rfl⟩ | ⟨k', p, rfl⟩) <;> cases k <;> try rfl
  all_goals (rename_i k; cases k <;> rfl)

theorem vsOf_weak : ∀ {l l' : List E}, l.map E.weak = l'.map E.weak → vsOf l = vsOf l'
  | [], [], _ => rfl
  | [], _ :: _, h => by simp at h
  | _ :: _, [], h => by simp at h
  | e :: l, e' :: l', h => by
    simp only [List.map_cons, List.cons.injEq] at h
    simp only [vsOf, blind_v.eq h.1, vsOf_weak h.2]

section
variable (W : ∀ x ∈ o.op.operands, (fr.op x).weak = (fr'.op x).weak)
theorem ops_weak {l : List Operand} (h : ∀ x ∈ l, (fr.op x).weak = (fr'.op x).weak) : vsOf (l.map fr.op) = vsOf (l.map fr'.op) :=
  vsOf_weak (by rw [List.map_map, List.map_map]; exact List.map_congr_left h)
theorem parts_weak {l : List (Nat × Operand)} (h : ∀ x ∈ l.map (·.2), (fr.op x).weak = (fr'.op x).weak) : (l.map fun p => (p.1, (fr.op p.2).part?)) = l.map fun p => (p.1, (fr'.op p.2).part?) :=
  List.map_congr_left fun p hp => by rw [blind_part.eq (h p.2 (List.mem_map.2 ⟨p, hp, rfl⟩))]
theorem bound_weak {x : Option Operand} (h : ∀ y ∈ x.toArray, (fr.op y).weak = (fr'.op y).weak) : boundOf fr x = boundOf fr' x := by
  cases x with
  | none => rfl
  | some y => simp only [boundOf, blind_int.eq (h y (by simp))]
end
theorem lend_weak (x : Operand) : (fr.lend x).weak = (fr.op x).weak := by
  cases x with
  | tmp t =>
    show (fr.lend (.tmp t)).weak = (fr.get t).weak
    simp only [Fr.lend]
    cases fr.get t <;> rfl
  | _ => rfl

/-- What an operation yields, owners forgotten. -/
def Rs.wal : Option Rs → Option E
  | some (.ok e _ _) => some e.weak
  | _ => none
theorem okV_wal {v : Option V} : Rs.wal (okV fr st v) = v.map fun v => v.toE.weak := by cases v <;> rfl
theorem okE_wal {v : Option E} : Rs.wal (okE fr st v) = v.map fun v => v.weak := by cases v <;> rfl

/-- What is read is as it was. -/
def SameRead (fr : Fr) (st : St) (fr' : Fr) (st' : St) : Prop :=
  (∀ s, (fr.loc s).map (·.map V.strip1) = (fr'.loc s).map (·.map V.strip1)) ∧ ∀ id cs, st.obj id = some cs → ∃ cs', st'.obj id = some cs' ∧ cs'.map V.strip1 = cs.map V.strip1

theorem strip1_strip1 (v : V) : v.strip1.strip1 = v.strip1 := by cases v <;> rfl
theorem cellE_weak {p p' : Pl} {v v' : V} (h : v.strip1 = v'.strip1) : (cellE p v).weak = (cellE p' v').weak := by
  cases v <;> cases v' <;> simp only [V.strip1, reduceCtorEq, V.slice.injEq] at h <;> first
    | rfl
    | (subst h; rfl)
    | (cases h; rfl)
theorem loadCs_weak {ti : TI} {off : Nat} {p p' : Pl} {cs cs' : List V} (h : cs.map V.strip1 = cs'.map V.strip1) : (loadCs ti off p cs).map E.weak = (loadCs ti off p' cs').map E.weak := by
  have hl : cs.length = cs'.length := by simpa using congrArg List.length h
  unfold loadCs
  split
  · rw [hl]
    split
    · simp only [Option.map_some, List.map_take, List.map_drop, h]
    · rfl
  · have h1 : (cs[off]?).map V.strip1 = (cs'[off]?).map V.strip1 := by rw [← List.getElem?_map, ← List.getElem?_map, h]
    cases h2 : cs[off]? with
    | none =>
      rw [h2] at h1
      cases h3 : cs'[off]? with
      | none => rfl
      | some y => rw [h3] at h1; cases h1
    | some x =>
      rw [h2] at h1
      cases h3 : cs'[off]? with
      | none => rw [h3] at h1; cases h1
      | some y =>
        rw [h3] at h1
        simp only [Option.map_some, Option.some.injEq] at h1 ⊢
        exact cellE_weak h1
theorem loadAt_weak {ti : TI} {x x' e : E} (hx : x.weak = x'.weak) (hs : SameRead fr st fr' st') (h : Ab.loadAt ti fr st x = some e) : ∃ e', Ab.loadAt ti fr' st' x' = some e' ∧ e'.weak = e.weak := by
  unfold Ab.loadAt at h ⊢
  rw [(blind_place fr st).eq hx] at h
  clear hx
  cases x' with
  | lp s off =>
    simp only [placeOf] at h ⊢
    have := hs.1 s
    cases h1 : fr.loc s with
    | none => rw [h1] at h; simp at h
    | some cs =>
      rw [h1] at this h
      cases h2 : fr'.loc s with
      | none => rw [h2] at this; cases this
      | some cs' =>
        rw [h2] at this
        simp only [Option.map_some, Option.some.injEq] at this h ⊢
        have hw := loadCs_weak (ti := ti) (off := off) (p := .loc s off) (p' := .loc s off) this
        rw [h] at hw
        cases h3 : loadCs ti off (.loc s off) cs' with
        | none => rw [h3] at hw; cases hw
        | some e' => rw [h3] at hw; exact ⟨e', rfl, by simpa using hw.symm⟩
  | val v =>
    cases v <;> simp only [placeOf, reduceCtorEq] at h ⊢
    case ptr id off =>
      cases h1 : st.obj id with
      | none => rw [h1] at h; simp at h
      | some cs =>
        obtain ⟨cs', h2, h3⟩ := hs.2 id cs h1
        rw [h1] at h
        rw [h2]
        simp only [Option.map_some] at h ⊢
        have hw := loadCs_weak (ti := ti) (off := off) (p := .mem id off) (p' := .mem id off) h3.symm
        rw [h] at hw
        cases h4 : loadCs ti off (.mem id off) cs' with
        | none => rw [h4] at hw; cases hw
        | some e' => rw [h4] at hw; exact ⟨e', rfl, by simpa using hw.symm⟩
    case ep cs => exact ⟨e, h, rfl⟩
  | _ => simp [placeOf] at h
end Go.Ab
