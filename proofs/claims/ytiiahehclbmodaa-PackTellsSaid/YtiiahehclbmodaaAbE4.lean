/- What an effect leaves of what is read. -/
import Derived.Test.YtiiahehclbmodaaAbE3
namespace Go.Ab
open Go
set_option linter.unusedVariables false
set_option linter.unusedSimpArgs false
set_option linter.unnecessarySimpa false

variable {fr fr' : Fr} {st st' : St} {o : Oper} {g : G} {fi : FI} {call : Calling}

/-- The entries are as they were, owners forgotten. -/
def SameW (fr fr' : Fr) : Prop := ∀ t, (fr'.get t).weak = (fr.get t).weak
theorem SameW.refl (fr : Fr) : SameW fr fr := fun _ => rfl
theorem SameW.map {f : E → E} (h0 : f .any = .any) (h : ∀ e, (f e).weak = e.weak) : SameW fr (fr.map f) := fun t => by rw [get_map _ _ h0, h]
theorem SameW.trans {fr1 : Fr} (h : SameW fr fr') (k : SameW fr' fr1) : SameW fr fr1 := fun t => (k t).trans (h t)
/-- An entry that owns, or that a temporary lends to. -/
def Hot (e : E) : Prop := (∃ k xs, e = .own k xs) ∨ ∃ k xs u, e = .bor k xs (.slot u)
/-- No entry owns or is lent to anew. -/
def NoNew (fr fr' : Fr) : Prop := ∀ t, Hot (fr'.get t) → fr.get t = fr'.get t
theorem NoNew.refl (fr : Fr) : NoNew fr fr := fun _ _ => rfl
theorem NoNew.trans {fr1 : Fr} (h : NoNew fr fr') (k : NoNew fr' fr1) : NoNew fr fr1 := fun t e => by
  have h1 := k t e
  rw [← h1] at e
  exact (h t e).trans h1
theorem NoNew.map {f : E → E} (h0 : f .any = .any) (h : ∀ e, Hot (f e) → e = f e) : NoNew fr (fr.map f) := fun t e => by
  rw [get_map _ _ h0] at e ⊢
  exact h _ e
theorem hot_other {p : Pl} {k : Nat} {xs : List V} (hp : ∀ u, p ≠ .slot u) : ¬ Hot (.bor k xs p) := by
  rintro (⟨_, _, h⟩ | ⟨_, _, u, h⟩)
  · cases h
  · cases h; exact hp u rfl
theorem hot_val (v : V) : ¬ Hot (.val v) := by rintro (⟨_, _, h⟩ | ⟨_, _, _, h⟩) <;> cases h
theorem hot_any : ¬ Hot .any := by rintro (⟨_, _, h⟩ | ⟨_, _, _, h⟩) <;> cases h
theorem hot_lp (s o : Nat) : ¬ Hot (.lp s o) := by rintro (⟨_, _, h⟩ | ⟨_, _, _, h⟩) <;> cases h
theorem noMem_new (e : E) (h : Hot e.noMem) : e = e.noMem := by
  cases e with
  | bor k xs p => cases p <;> first | rfl | exact (hot_val _ h).elim
  | _ => rfl
theorem noLoc_new (e : E) (h : Hot e.noLoc) : e = e.noLoc := by
  cases e with
  | bor k xs p => cases p <;> first | rfl | exact (hot_val _ h).elim
  | _ => rfl
theorem inval_new (e : E) (p : Pl) (h : Hot (e.inval p)) : e = e.inval p := by
  cases e with
  | bor k xs q =>
    simp only [E.inval] at h ⊢
    split at h
    · exact (hot_val _ h).elim
    · rename_i hq; rw [if_neg hq]
  | _ => rfl
theorem NoNew.put {s : Nat} {v : E} (hv : ¬ Hot v) : NoNew fr (fr.put s v) := fun t e => by
  rw [get_put] at e ⊢
  split at e
  · have := inval_new _ _ e; rw [← this] at e; exact (hv e).elim
  · rename_i h; rw [if_neg h]; exact inval_new _ _ e
theorem weak_new (e : E) : ¬ Hot e.weak := by cases e <;> first | exact hot_val _ | exact hot_any | exact hot_lp _ _
theorem SameRead.refl (fr : Fr) (st : St) : SameRead fr st fr st := ⟨fun _ => rfl, fun _ cs h => ⟨cs, h, rfl⟩⟩
/-- What is read is as it was, either way. -/
def Like (fr : Fr) (st : St) (fr' : Fr) (st' : St) : Prop :=
  (∀ s, (fr.loc s).map (·.map V.strip1) = (fr'.loc s).map (·.map V.strip1)) ∧ ∀ id, (st.obj id).map (·.map V.strip1) = (st'.obj id).map (·.map V.strip1)
theorem Like.refl (fr : Fr) (st : St) : Like fr st fr st := ⟨fun _ => rfl, fun _ => rfl⟩
theorem Like.symm (h : Like fr st fr' st') : Like fr' st' fr st := ⟨fun s => (h.1 s).symm, fun id => (h.2 id).symm⟩
theorem Like.reads (h : Like fr st fr' st') : SameRead fr st fr' st' := by
  refine ⟨h.1, fun id cs hc => ?_⟩
  have := h.2 id
  rw [hc] at this
  cases h2 : st'.obj id with
  | none => rw [h2] at this; cases this
  | some cs' => rw [h2] at this; exact ⟨cs', rfl, by simpa using this.symm⟩
theorem set_strip {cs : List V} {off : Nat} {c : V} (h : cs[off]? = some c) : (cs.set off c.strip1).map V.strip1 = cs.map V.strip1 := by
  apply List.ext_getElem?
  intro j
  rw [List.getElem?_map, List.getElem?_map, List.getElem?_set]
  split
  · rename_i hj
    subst hj
    rw [h]
    have : off < cs.length := (List.getElem?_eq_some_iff.1 h).1
    simp [this, strip1_strip1]
  · rfl
theorem lk_lset_eq {α β : Type} (f : α → β) (l : List (Nat × α)) (s t : Nat) (e x : α) (h : lk l s = some x) (hf : f e = f x) : (lk (lset l s e) t).map f = (lk l t).map f := by
  rw [lk_lset _ _ _ _ _ h]
  split
  · rename_i ht; subst ht; rw [h]; simp [hf]
  · rfl

theorem consume_weak {xs : List V} {p : Pl} (h : consume fr st xs p = some (fr', st')) : SameW fr fr' ∧ Like fr st fr' st' ∧ NoNew fr fr' := by
  cases p with
  | slot u =>
    simp only [consume, Option.some.injEq, Prod.mk.injEq] at h
    obtain ⟨rfl, rfl⟩ := h
    refine ⟨fun t => ?_, ⟨fun s => by rw [loc_put], fun _ => rfl⟩, NoNew.put (weak_new _)⟩
    rw [get_put]
    split
    · rename_i ht; subst ht; rw [weak_inval, weak_weak]
    · exact inval_weak _ _
  | mem id off =>
    simp only [consume] at h
    split at h
    · rename_i cs hcs
      split at h
      · rename_i c hc
        simp only [Option.map_eq_some_iff, Prod.mk.injEq] at h
        obtain ⟨st2, h1, rfl, rfl⟩ := h
        refine ⟨SameW.map rfl noMem_weak, ⟨fun _ => rfl, fun id' => ?_⟩, NoNew.map rfl noMem_new⟩
        unfold St.set at h1
        split at h1
        · cases h1
          simp only [St.obj, List.getElem?_set]
          split
          · rename_i hid
            subst hid
            have hlt : id < st.objs.length := (List.getElem?_eq_some_iff.1 hcs).1
            have hcs' : st.objs[id]? = some cs := hcs
            have hge : st.objs[id] = cs := by simpa [List.getElem?_eq_getElem hlt] using hcs'
            simp [hlt, hge, set_strip hc]
          · rfl
        · cases h1
      · cases h
    · cases h
  | loc t off =>
    simp only [consume] at h
    split at h
    · rename_i cs hcs
      split at h
      · rename_i c hc
        cases h
        refine ⟨SameW.map (fr := fr.setLoc t (cs.set off c.strip1)) rfl noLoc_weak, ⟨fun s => ?_, fun _ => rfl⟩, NoNew.map (fr := fr.setLoc t (cs.set off c.strip1)) rfl noLoc_new⟩
        rw [loc_map, Fr.loc_def, Fr.loc_def, Fr.setLoc_def]
        exact (lk_lset_eq (fun l : List V => l.map V.strip1) fr.lc t s _ cs ((Fr.loc_def fr t).symm.trans hcs) (set_strip hc)).symm
      · cases h
    · cases h

theorem take_weak {x : Operand} {e : E} (h : take fr st x = some (e, fr', st')) : SameW fr fr' ∧ Like fr st fr' st' ∧ NoNew fr fr' := by
  cases x with
  | tmp t =>
    simp only [take] at h
    split at h
    · rename_i k xs ht
      cases h
      refine ⟨fun u => ?_, ⟨fun s => by rw [loc_put], fun _ => rfl⟩, NoNew.put (hot_val _)⟩
      rw [get_put]
      split
      · rename_i hu; subst hu; rw [ht]; rfl
      · exact inval_weak _ _
    · rename_i k xs p ht
      simp only [Option.map_eq_some_iff] at h
      obtain ⟨⟨f, s⟩, h1, h2⟩ := h
      cases h2
      exact consume_weak h1
    · cases h; exact ⟨.refl _, .refl _ _, .refl _⟩
  | _ => cases h; exact ⟨.refl _, .refl _ _, .refl _⟩

theorem storeAt_weak {size : Nat} {a : E} {cs : List V} (h : storeAt size fr st a cs = some (fr', st')) : SameW fr fr' ∧ NoNew fr fr' := by
  unfold storeAt at h
  split at h
  · split at h
    · rename_i t off old _
      simp only [Option.map_eq_some_iff] at h
      obtain ⟨new, _, h2⟩ := h
      cases h2
      exact ⟨SameW.map (fr := fr.setLoc t new) rfl noLoc_weak, NoNew.map (fr := fr.setLoc t new) rfl noLoc_new⟩
    · split at h
      · rename_i new _
        simp only [Option.map_eq_some_iff] at h
        obtain ⟨st2, _, h2⟩ := h
        cases h2
        exact ⟨SameW.map rfl noMem_weak, NoNew.map rfl noMem_new⟩
      · cases h
    · cases h
  · cases h

theorem obj_append {objs : List (List V)} {cs : List V} {wp id : Nat} {x : List V} (h : (St.mk objs wp).obj id = some x) : (St.mk (objs ++ [cs]) wp).obj id = some x := by
  have hlt : id < objs.length := (List.getElem?_eq_some_iff.1 h).1
  simp only [St.obj] at h ⊢
  rw [List.getElem?_append_left hlt]; exact h

theorem stepE_weak (hsemi : semi fi o = true) {e : E} (h : stepE g fi call fr st o = some (.ok e fr' st')) :
    SameW fr fr' ∧ NoNew fr fr' ∧ (∀ k xs u, e ≠ .bor k xs (.slot u)) ∧ (mild fi o = true → SameRead fr st fr' st') ∧ (isAppend o.op = true → SameRead fr' st' fr st) := by
  obtain ⟨dst, op, ty, pos, after, guard⟩ := o
  cases op <;> first
    | (simp [semi, mild] at hsemi; done)
    | skip
  case alloc t =>
    simp only [semi, mild, Bool.or_false] at hsemi
    simp only [stepE, stepOp] at h
    split at h
    · rename_i h1 h2
      simp only [h2] at hsemi
      rw [Bool.not_eq_true'] at hsemi
      simp only [hsemi, Bool.false_eq_true, if_false, Option.some.injEq, Rs.ok.injEq] at h
      obtain ⟨rfl, rfl, rfl⟩ := h
      exact ⟨.refl _, .refl _, by simp, fun _ => ⟨fun _ => rfl, fun id cs hc => ⟨cs, obj_append hc, rfl⟩⟩, fun h => by simp [isAppend] at h⟩
    · cases h
  case box t x =>
    simp only [semi, mild, Bool.or_false] at hsemi
    simp only [stepE, stepOp] at h
    split at h
    · rename_i h1 h2
      simp only [h2] at hsemi
      rw [Bool.not_eq_true'] at hsemi
      simp only [hsemi, Bool.false_eq_true, if_false, Option.some.injEq, Rs.ok.injEq] at h
      obtain ⟨rfl, rfl, rfl⟩ := h
      exact ⟨.refl _, .refl _, by simp, fun _ => ⟨fun _ => rfl, fun id cs hc => ⟨cs, obj_append hc, rfl⟩⟩, fun h => by simp [isAppend] at h⟩
    · cases h
  case store t a x =>
    have key : SameW fr fr' ∧ NoNew fr fr' ∧ e = .any := by
      simp only [stepE, stepOp] at h
      split at h
      · split at h
        · rename_i ht
          split at h
          · split at h
            · rename_i hst
              cases h
              have h1 := take_weak ht
              have h2 := storeAt_weak hst
              exact ⟨h1.1.trans h2.1, h1.2.2.trans h2.2, rfl⟩
            · cases h
          · cases h
        · cases h
      · cases h
    obtain ⟨k1, k2, rfl⟩ := key
    exact ⟨k1, k2, by simp, fun h => by simp [mild] at h, fun h => by simp [isAppend] at h⟩
  case panic x =>
    simp only [stepE, stepOp] at h
    split at h <;> cases h
  case call c =>
    obtain ⟨callee, args, ats⟩ := c
    have ret : ∀ k v n xs u, retE k v ≠ .bor n xs (.slot u) := by
      intro k v n xs u
      cases k <;> cases v <;> simp [retE]
    cases callee with
    | value x =>
      have key : SameW fr fr' ∧ NoNew fr fr' ∧ (∀ k xs u, e ≠ .bor k xs (.slot u)) := by
        simp only [stepE] at h
        split at h
        · unfold callStep at h
          split at h
          · split at h
            · cases h; exact ⟨.refl _, .refl _, by simp⟩
            · cases h
          · split at h
            · cases h
            · split at h
              · split at h
                · split at h
                  · cases h; exact ⟨.refl _, .refl _, ret _ _⟩
                  · cases h
                · cases h
              · split at h
                · cases h; exact ⟨SameW.map rfl noMem_weak, NoNew.map rfl noMem_new, ret _ _⟩
                · cases h
                · cases h
        · cases h
      exact ⟨key.1, key.2.1, key.2.2, fun h => by simp [mild] at h, fun h => by simp [isAppend] at h⟩
    | invoke _ _ => simp [semi, mild] at hsemi
    | builtin b =>
      cases b <;> first
        | (simp [semi, mild] at hsemi; done)
        | skip
      have key : (SameW fr fr' ∧ Like fr st fr' st' ∧ NoNew fr fr') ∧ (∀ k xs u, e ≠ .bor k xs (.slot u)) := by
        simp only [stepE, stepOp, builtinStep, appendStep] at h
        split at h
        · split at h
          · split at h
            · split at h
              · rename_i hbase
                split at h
                · cases h
                  unfold baseOf at hbase
                  split at hbase
                  · rename_i ht
                    split at hbase
                    · cases hbase; exact ⟨take_weak ht, by simp⟩
                    · cases hbase
                  · cases hbase
                · cases h
              · cases h
            · cases h
          · cases h
        · cases h
      exact ⟨key.1.1, key.1.2.2, key.2, fun _ => key.1.2.1.reads, fun _ => key.1.2.1.symm.reads⟩

/-! ### an entry that an effect does not touch -/
/-- Neither the operation's own temporaries nor those that lend to them. -/
def Away (u : Nat) (fr : Fr) (o : Oper) : Prop := ∀ t, Operand.tmp t ∈ o.op.operands → t ≠ u ∧ ∀ k xs, fr.get t ≠ .bor k xs (.slot u)
theorem own_map {f : E → E} (h0 : f .any = .any) (hf : ∀ k xs, f (.own k xs) = .own k xs) {u k : Nat} {xs : List V} (h : fr.get u = .own k xs) : (fr.map f).get u = .own k xs := by
  rw [get_map _ _ h0, h, hf]
theorem own_put {s u k : Nat} {v : E} {xs : List V} (hs : u ≠ s) (h : fr.get u = .own k xs) : (fr.put s v).get u = .own k xs := by
  rw [get_put, if_neg hs, h]; rfl
theorem consume_own {ys : List V} {p : Pl} {u k : Nat} {xs : List V} (hu : fr.get u = .own k xs) (hp : p ≠ .slot u) (h : consume fr st ys p = some (fr', st')) : fr'.get u = .own k xs := by
  cases p with
  | slot s =>
    simp only [consume, Option.some.injEq, Prod.mk.injEq] at h
    obtain ⟨rfl, rfl⟩ := h
    exact own_put (fun e => hp (by rw [e])) hu
  | mem id off =>
    simp only [consume] at h
    split at h
    · split at h
      · simp only [Option.map_eq_some_iff, Prod.mk.injEq] at h
        obtain ⟨_, _, rfl, rfl⟩ := h
        exact own_map rfl (fun _ _ => rfl) hu
      · cases h
    · cases h
  | loc s off =>
    simp only [consume] at h
    split at h
    · split at h
      · cases h
        exact own_map (fr := fr.setLoc s _) rfl (fun _ _ => rfl) hu
      · cases h
    · cases h
theorem take_own {x : Operand} {e : E} {u k : Nat} {xs : List V} (hu : fr.get u = .own k xs) (hx : ∀ t, x = .tmp t → t ≠ u ∧ ∀ k xs, fr.get t ≠ .bor k xs (.slot u)) (h : take fr st x = some (e, fr', st')) : fr'.get u = .own k xs := by
  cases x with
  | tmp t =>
    obtain ⟨h1, h2⟩ := hx t rfl
    simp only [take] at h
    split at h
    · cases h; exact own_put (Ne.symm h1) hu
    · rename_i n ys p ht
      simp only [Option.map_eq_some_iff] at h
      obtain ⟨⟨f, s⟩, hc, he⟩ := h
      cases he
      exact consume_own hu (fun e => h2 n ys (by rw [ht, e])) hc
    · cases h; exact hu
  | _ => cases h; exact hu
theorem storeAt_own {size : Nat} {a : E} {cs : List V} {u k : Nat} {xs : List V} (hu : fr.get u = .own k xs) (h : storeAt size fr st a cs = some (fr', st')) : fr'.get u = .own k xs := by
  unfold storeAt at h
  split at h
  · split at h
    · rename_i t off old _
      simp only [Option.map_eq_some_iff] at h
      obtain ⟨new, _, h2⟩ := h
      cases h2
      exact own_map (fr := fr.setLoc t new) rfl (fun _ _ => rfl) hu
    · split at h
      · simp only [Option.map_eq_some_iff] at h
        obtain ⟨st2, _, h2⟩ := h
        cases h2
        exact own_map rfl (fun _ _ => rfl) hu
      · cases h
    · cases h
  · cases h
theorem stepE_own (hsemi : semi fi o = true) {e : E} {u k : Nat} {xs : List V} (hu : fr.get u = .own k xs) (ha : Away u fr o) (h : stepE g fi call fr st o = some (.ok e fr' st')) : fr'.get u = .own k xs := by
  obtain ⟨dst, op, ty, pos, after, guard⟩ := o
  cases op <;> first
    | (simp [semi, mild] at hsemi; done)
    | skip
  case alloc t =>
    simp only [semi, mild, Bool.or_false] at hsemi
    simp only [stepE, stepOp] at h
    split at h
    · rename_i h1 h2
      simp only [h2] at hsemi
      rw [Bool.not_eq_true'] at hsemi
      simp only [hsemi, Bool.false_eq_true, if_false, Option.some.injEq, Rs.ok.injEq] at h
      obtain ⟨rfl, rfl, rfl⟩ := h
      exact hu
    · cases h
  case box t x =>
    simp only [semi, mild, Bool.or_false] at hsemi
    simp only [stepE, stepOp] at h
    split at h
    · rename_i h1 h2
      simp only [h2] at hsemi
      rw [Bool.not_eq_true'] at hsemi
      simp only [hsemi, Bool.false_eq_true, if_false, Option.some.injEq, Rs.ok.injEq] at h
      obtain ⟨rfl, rfl, rfl⟩ := h
      exact hu
    · cases h
  case store t a x =>
    simp only [stepE, stepOp] at h
    split at h
    · split at h
      · rename_i ht
        split at h
        · split at h
          · rename_i hst
            cases h
            exact storeAt_own (take_own hu (fun t hx => ha t (by subst hx; simp [Op.operands])) ht) hst
          · cases h
        · cases h
      · cases h
    · cases h
  case panic x =>
    simp only [stepE, stepOp] at h
    split at h <;> cases h
  case call c =>
    obtain ⟨callee, args, ats⟩ := c
    cases callee with
    | value x =>
      simp only [stepE] at h
      split at h
      · unfold callStep at h
        split at h
        · split at h
          · cases h; exact hu
          · cases h
        · split at h
          · cases h
          · split at h
            · split at h
              · split at h
                · cases h; exact hu
                · cases h
              · cases h
            · split at h
              · cases h; exact own_map rfl (fun _ _ => rfl) hu
              · cases h
              · cases h
      · cases h
    | invoke _ _ => simp [semi, mild] at hsemi
    | builtin b =>
      cases b <;> first
        | (simp [semi, mild] at hsemi; done)
        | skip
      simp only [stepE, stepOp, builtinStep, appendStep] at h
      split at h
      · rename_i s x _ hs _
        split at h
        · split at h
          · split at h
            · rename_i hbase
              split at h
              · cases h
                unfold baseOf at hbase
                split at hbase
                · rename_i ht
                  split at hbase
                  · cases hbase
                    refine take_own hu (fun t hx => ha t ?_) ht
                    subst hx
                    have := Array.mem_of_getElem? hs
                    simp [Op.operands, Call.operands]; simpa using this
                  · cases hbase
                · cases hbase
              · cases h
            · cases h
          · cases h
        · cases h
      · cases h
end Go.Ab
