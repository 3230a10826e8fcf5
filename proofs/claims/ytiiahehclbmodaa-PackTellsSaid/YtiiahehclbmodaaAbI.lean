/- Regions whose order is drawn. -/
import Derived.Test.YtiiahehclbmodaaAbH
import Derived.Orders
namespace Go.Ab
open Go
set_option linter.unusedVariables false
set_option linter.unusedSimpArgs false
set_option linter.unnecessarySimpa false

variable {P : Program} {d n : Nat} {κ : K} {w : World} {lam : Lam} {fr fr' : Fr} {st : St} {a : Act} {o : Oper}

theorem okV_same {e : Option V} {rs : Rs} (h : okV fr st e = some rs) : ∃ x, rs = .ok x fr st := by
  obtain ⟨x, _, rfl⟩ := okV_some h; exact ⟨_, rfl⟩
theorem okE_same {e : Option E} {rs : Rs} (h : okE fr st e = some rs) : ∃ x, rs = .ok x fr st := by
  obtain ⟨x, _, rfl⟩ := okE_some h; exact ⟨_, rfl⟩

theorem append_const {g : G} {args : Array Operand} {ats : Array TypeId} {v : Value} (h0 : args[0]? = some (.const v)) {rs : Rs} (h : appendStep g fr st ats args = some rs) : ∃ e, rs = .ok e fr st := by
  unfold appendStep at h
  rw [h0] at h
  split at h
  · rename_i t s x ht hs hx
    cases hs
    split at h
    · split at h
      · split at h
        · rename_i xs fr1 st1 hb
          unfold baseOf at hb
          simp only [take] at hb
          split at hb
          · rename_i k ys fr2 st2 heq
            simp only [Option.some.injEq, Prod.mk.injEq] at heq
            obtain ⟨_, rfl, rfl⟩ := heq
            split at hb
            · cases hb
              split at h
              · cases h; exact ⟨_, rfl⟩
              · cases h
            · cases hb
          · cases hb
        · cases h
      · cases h
    · cases h
  · cases h

theorem quiet_same {g : G} {fi : FI} {call : Calling} (hq : quietOp g o.op = true) {rs : Rs} (h : stepE g fi call fr st o = some rs) : ∃ e, rs = .ok e fr st := by
  unfold stepE at h
  split at h
  · rename_i x args ats ho
    rw [ho] at hq
    split at h
    · rename_i f first cap vs hx hv
      cases x with
      | func f' =>
        simp only [quietOp] at hq
        simp only [Fr.op, E.val.injEq, V.func.injEq] at hx
        obtain ⟨rfl, rfl, rfl⟩ := hx
        unfold callStep at h
        split at h
        · split at h
          · cases h; exact ⟨_, rfl⟩
          · cases h
        · rename_i hext
          split at h
          · cases h
          · rename_i fi' hfi
            rw [hext, hfi] at hq
            simp only at hq
            rw [if_pos hq] at h
            split at h
            · split at h
              · cases h; exact ⟨_, rfl⟩
              · cases h
            · cases h
      | _ => simp [quietOp] at hq
    · cases h
  · unfold stepOp at h
    split at h <;> first
      | (cases h; done)
      | (rename_i ho; rw [ho] at hq)
    all_goals first
      | (simp [quietOp] at hq; done)
      | skip
    · split at h
      · cases h; exact ⟨_, rfl⟩
      · cases h
    · split at h
      · exact okV_same h
      · cases h
    · split at h
      · exact okE_same h
      · cases h
    · split at h <;> first | (cases h; exact ⟨_, rfl⟩) | cases h
    · split at h
      · split at h
        · exact okV_same h
        · cases h
      · exact okV_same h
      · cases h
    · split at h
      · exact okV_same h
      · cases h
    · split at h
      · exact okE_same h
      · cases h
    · split at h
      · split at h
        · cases h; exact ⟨_, rfl⟩
        · cases h
      · cases h
    · split at h
      · cases h; exact ⟨_, rfl⟩
      · cases h
    · split at h
      · split at h
        · exact okE_same h
        · cases h
      · cases h
    · split at h
      · split at h
        · split at h
          · cases h
          · exact okE_same h
        · cases h
      · cases h
    · split at h
      · split at h
        · exact okV_same h
        · cases h
      · cases h
    · split at h
      · exact okE_same h
      · cases h
    · split at h
      · exact okV_same h
      · cases h
    · split at h
      · exact okV_same h
      · cases h
    · split at h
      · exact okV_same h
      · cases h
    · split at h
      · split at h
        · cases h; exact ⟨_, rfl⟩
        · cases h
      · cases h
    · rename_i b args ats
      cases b <;> simp only [quietOp, Bool.false_eq_true] at hq
      · split at hq
        · rename_i v h0
          exact append_const h0 (by simpa [builtinStep] using h)
        · cases hq
      · simp only [builtinStep] at h
        split at h
        · exact okV_same h
        · cases h
      · simp only [builtinStep] at h
        split at h
        · exact okV_same h
        · cases h
      · simp only [builtinStep] at h
        split at h
        · exact okV_same h
        · cases h

/-! ### the frame matters at the operands alone -/
theorem lend_calm {x : Operand} (h : fr.op x = fr'.op x) : (fr.lend x).calm = (fr'.lend x).calm := by
  cases x with
  | tmp t =>
    have h' : fr.get t = fr'.get t := h
    simp only [Fr.lend, h']
  | _ => rfl
def Rs.val : Option Rs → Option E
  | some (.ok e _ _) => some e.calm
  | _ => none
theorem okV_val {v : Option V} : Rs.val (okV fr st v) = v.map fun v => v.toE.calm := by cases v <;> rfl
theorem okE_val {v : Option E} : Rs.val (okE fr st v) = v.map fun v => v.calm := by cases v <;> rfl
theorem place_congr {e : E} (hl : fr.loc = fr'.loc) : placeOf fr st e = placeOf fr' st e := by
  unfold placeOf; rw [hl]
theorem loadAt_congr {ti : TI} {e : E} (hl : fr.loc = fr'.loc) : Ab.loadAt ti fr st e = Ab.loadAt ti fr' st e := by
  unfold Ab.loadAt; rw [place_congr hl]
theorem ops_congr {l : List Operand} (h : ∀ x ∈ l, fr.op x = fr'.op x) : l.map fr.op = l.map fr'.op := List.map_congr_left h
theorem parts_congr {l : List (Nat × Operand)} (h : ∀ x ∈ l.map (·.2), fr.op x = fr'.op x) : (l.map fun p => (p.1, (fr.op p.2).part?)) = l.map fun p => (p.1, (fr'.op p.2).part?) :=
  List.map_congr_left fun p hp => by rw [h p.2 (List.mem_map.2 ⟨p, hp, rfl⟩)]
theorem bound_congr {x : Option Operand} (h : ∀ y ∈ x.toArray, fr.op y = fr'.op y) : boundOf fr x = boundOf fr' x := by
  cases x with
  | none => rfl
  | some y => simp only [boundOf, h y (by simp)]

theorem stepQ_congr {g : G} {fi : FI} {call : Calling} (h : ∀ x ∈ o.op.operands, fr.op x = fr'.op x) (hl : fr.loc = fr'.loc) : stepQ g fi call fr st o = stepQ g fi call fr' st o := by
  have key : quietOp g o.op = true → Rs.val (stepE g fi call fr st o) = Rs.val (stepE g fi call fr' st o) := by
    intro hq
    obtain ⟨dst, op, ty, pos, after, guard⟩ := o
    cases op <;> first
      | (simp [quietOp] at hq; done)
      | skip
    case pick c a b =>
      have h1 := h c (by simp [Op.operands])
      have h2 := lend_calm (h a (by simp [Op.operands]))
      have h3 := lend_calm (h b (by simp [Op.operands]))
      simp only [stepE, stepOp, h1]
      split
      · simp only [Rs.val]; split <;> simp [h2, h3]
      · rfl
    case build t ps =>
      have h1 := parts_congr (fr := fr) (fr' := fr') (l := ps.toList) (fun x hx => h x (by simpa [Op.operands] using hx))
      simp only [stepE, stepOp, h1]
      split
      · rw [okV_val, okV_val]
      · rfl
    case buildSlice t n ps =>
      have h1 := parts_congr (fr := fr) (fr' := fr') (l := ps.toList) (fun x hx => h x (by simpa [Op.operands] using hx))
      simp only [stepE, stepOp, h1]
      split
      · rw [okV_val, okV_val]
      · rfl
    case load t x =>
      have h1 := h x (by simp [Op.operands])
      simp only [stepE, stepOp, h1, loadAt_congr hl]
      split
      · rw [okE_val, okE_val]
      · rfl
    case nilCheck x =>
      have h1 := h x (by simp [Op.operands])
      simp only [stepE, stepOp, h1]
      split <;> rfl
    case binOp b t x y u =>
      have h1 := h x (by simp [Op.operands])
      have h2 := h y (by simp [Op.operands])
      simp only [stepE, stepOp, h1, h2]
      split
      · split
        · rw [okV_val, okV_val]
        · rfl
      · rw [okV_val, okV_val]
      · rfl
    case unOp b t x =>
      have h1 := h x (by simp [Op.operands])
      simp only [stepE, stepOp, h1]
      split
      · rw [okV_val, okV_val]
      · rfl
    case convert s t x =>
      have h1 := h x (by simp [Op.operands])
      simp only [stepE, stepOp, h1]
      split
      · rw [okE_val, okE_val]
      · rfl
    case makeInterface t x =>
      have h1 := h x (by simp [Op.operands])
      simp only [stepE, stepOp, h1]
      split
      · split <;> rfl
      · rfl
    case makeFunc fn first captured =>
      have h1 := ops_congr (fr := fr) (fr' := fr') (l := first.toList) (fun x hx => h x (by simp [Op.operands]; exact .inl (by simpa using hx)))
      have h2 := ops_congr (fr := fr) (fr' := fr') (l := captured.toList) (fun x hx => h x (by simp [Op.operands]; exact .inr (by simpa using hx)))
      cases fn <;> simp only [stepE, stepOp, h1, h2]
      split <;> rfl
    case makeSlice t l c =>
      have h1 := h l (by simp [Op.operands])
      have h2 := h c (by simp [Op.operands])
      simp only [stepE, stepOp, h1, h2]
      split
      · split <;> rfl
      · rfl
    case slice t x lo hi mx =>
      have h1 := h x (by simp [Op.operands])
      have h2 := bound_congr (fr := fr) (fr' := fr') (x := lo) (fun y hy => h y (by simp [Op.operands] at hy ⊢; simp [hy]))
      have h3 := bound_congr (fr := fr) (fr' := fr') (x := hi) (fun y hy => h y (by simp [Op.operands] at hy ⊢; simp [hy]))
      have h4 := bound_congr (fr := fr) (fr' := fr') (x := mx) (fun y hy => h y (by simp [Op.operands] at hy ⊢; simp [hy]))
      simp only [stepE, stepOp, h1, h2, h3, h4]
      split
      · split
        · rw [okE_val, okE_val]
        · rfl
      · rfl
    case fieldAddr t x f =>
      have h1 := h x (by simp [Op.operands])
      simp only [stepE, stepOp, h1]
      split
      · split
        · split
          · rfl
          · rw [okE_val, okE_val]
        · rfl
      · rfl
    case field t x f =>
      have h1 := h x (by simp [Op.operands])
      simp only [stepE, stepOp, h1]
      split
      · split
        · rw [okV_val, okV_val]
        · rfl
      · rfl
    case indexAddr t x i =>
      have h1 := h x (by simp [Op.operands])
      have h2 := h i (by simp [Op.operands])
      simp only [stepE, stepOp, h1, h2]
      split
      · rw [okE_val, okE_val]
      · rfl
    case index t x i =>
      have h1 := h x (by simp [Op.operands])
      have h2 := h i (by simp [Op.operands])
      simp only [stepE, stepOp, h1, h2]
      split
      · rw [okV_val, okV_val]
      · rfl
    case extract x i =>
      have h1 := h x (by simp [Op.operands])
      simp only [stepE, stepOp, h1]
      split
      · rw [okV_val, okV_val]
      · rfl
    case call c =>
      obtain ⟨callee, args, ats⟩ := c
      have hargs : ∀ x ∈ args.toList, fr.op x = fr'.op x := fun x hx => h x (by simp [Op.operands, Call.operands]; exact .inr (by simpa using hx))
      have h1 := ops_congr hargs
      cases callee with
      | value x =>
        cases x with
        | func f =>
          have h2 : fr.op (.func f) = fr'.op (.func f) := rfl
          simp only [stepE, h1, h2]
          split
          · unfold callStep
            split
            · split <;> rfl
            · rename_i hf _ _ hext
              simp only [Fr.op, E.val.injEq, V.func.injEq] at hf
              obtain ⟨rfl, rfl, rfl⟩ := hf
              split
              · rfl
              · rename_i fi' hfi
                simp only [quietOp, hext, hfi] at hq
                rw [if_pos hq, if_pos hq]
                split
                · split <;> rfl
                · rfl
          · rfl
        | _ => simp [quietOp] at hq
      | invoke _ _ => simp [quietOp] at hq
      | builtin b =>
        cases b <;> simp only [quietOp, Bool.false_eq_true] at hq
        case append =>
          split at hq
          · rename_i v h0
            simp only [stepE, stepOp, builtinStep, appendStep, h0]
            cases ht : ats[0]? with
            | none => rfl
            | some t =>
              cases hx : args[1]? with
              | none => rfl
              | some x =>
                have h2 := hargs x (by have := Array.mem_of_getElem? hx; simpa using this)
                simp only [h2]
                split
                · split
                  · rename_i esz _ _ _ _ _ _ _ _ _ _
                    simp only [baseOf, take, Fr.op]
                    cases (constV v).toE <;> try rfl
                    rename_i k xs
                    by_cases hk : (k == 0 || k == esz) = true
                    · simp only [hk, if_true]
                      split <;> rfl
                    · simp only [hk, if_false, Bool.false_eq_true]
                  · rfl
                · rfl
          · cases hq
        case len =>
          simp only [stepE, stepOp, builtinStep]
          split
          · rename_i x ti hx _
            rw [hargs x (by have := Array.mem_of_getElem? hx; simpa using this), okV_val, okV_val]
          · rfl
        case max =>
          simp only [stepE, stepOp, builtinStep, h1]
          split
          · rw [okV_val, okV_val]
          · rfl
        case min =>
          simp only [stepE, stepOp, builtinStep, h1]
          split
          · rw [okV_val, okV_val]
          · rfl
  unfold stepQ
  split
  · rename_i x ho; rw [h x (by rw [ho]; simp [Op.operands])]
  · rename_i x ho; rw [h x (by rw [ho]; simp [Op.operands])]
  · split
    · rename_i hq
      exact key hq
    · rfl
end Go.Ab
