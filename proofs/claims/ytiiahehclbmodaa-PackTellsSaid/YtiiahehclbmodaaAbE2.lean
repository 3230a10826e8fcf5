/- Quiet operations read no owner; effects, and temporaries that they do not look at. -/
import Derived.Test.YtiiahehclbmodaaAbE
namespace Go.Ab
open Go
set_option linter.unusedVariables false
set_option linter.unusedSimpArgs false
set_option linter.unnecessarySimpa false

variable {fr fr' : Fr} {st st' : St} {o : Oper} {g : G} {fi : FI} {call : Calling}

theorem wal_quiet (h : ∀ x ∈ o.op.operands, (fr.op x).weak = (fr'.op x).weak) (hq : quietOp g o.op = true) (hld : ∀ t x, o.op ≠ .load t x)
    (hcall : ∀ f args ats, o.op = .call { callee := .value (.func f), args := args, argTypes := ats } → ∃ vs, vsOf (args.toList.map fr.op) = some vs ∧ flats vs = true) :
    Rs.wal (stepE g fi call fr st o) = Rs.wal (stepE g fi call fr' st' o) := by
  obtain ⟨dst, op, ty, pos, after, guard⟩ := o
  cases op <;> first
    | (simp [quietOp] at hq; done)
    | skip
  case load t x => exact (hld _ _ rfl).elim
  case pick c a b =>
    have h1 := blind_bool.eq (h c (by simp [Op.operands]))
    have h2 : (fr.lend a).weak = (fr'.lend a).weak := by rw [lend_weak, lend_weak]; exact h a (by simp [Op.operands])
    have h3 : (fr.lend b).weak = (fr'.lend b).weak := by rw [lend_weak, lend_weak]; exact h b (by simp [Op.operands])
    simp only [stepE, stepOp, h1]
    split
    · simp only [Rs.wal]; split <;> simp [h2, h3]
    · rfl
  case build t ps =>
    have h1 := parts_weak (fr := fr) (fr' := fr') (l := ps.toList) (fun x hx => h x (by simpa [Op.operands] using hx))
    simp only [stepE, stepOp, h1]
    split
    · rw [okV_wal, okV_wal]
    · rfl
  case buildSlice t n ps =>
    have h1 := parts_weak (fr := fr) (fr' := fr') (l := ps.toList) (fun x hx => h x (by simpa [Op.operands] using hx))
    simp only [stepE, stepOp, h1]
    split
    · rw [okV_wal, okV_wal]
    · rfl
  case nilCheck x =>
    have h1 := h x (by simp [Op.operands])
    have b : Blind fun e => Rs.wal (match e with
      | .lp s off => some (.ok (.lp s off) fr st)
      | .val (.ptr id off) => some (.ok (.val (.ptr id off)) fr st)
      | .val (.ep cs) => some (.ok (.val (.ep cs)) fr st)
      | .val (.func f a b) => some (.ok (.val (.func f a b)) fr st)
      | _ => none) := by rintro xs e (rfl | ⟨k, rfl⟩ | ⟨k, p, rfl⟩) <;> rfl
    have h2 := b.eq h1
    simp only [stepE, stepOp]
    refine Eq.trans h2 ?_
    generalize fr'.op x = e
    cases e with
    | val v => cases v <;> rfl
    | _ => rfl
  case binOp b t x y u =>
    have h1 := blind_v.eq (h x (by simp [Op.operands]))
    have h2 := blind_v.eq (h y (by simp [Op.operands]))
    simp only [stepE, stepOp, h1, h2]
    split
    · split
      · rw [okV_wal, okV_wal]
      · rfl
    · rw [okV_wal, okV_wal]
    · rfl
  case unOp b t x =>
    have h1 := blind_v.eq (h x (by simp [Op.operands]))
    simp only [stepE, stepOp, h1]
    split
    · rw [okV_wal, okV_wal]
    · rfl
  case convert s t x =>
    have h1 := blind_v.eq (h x (by simp [Op.operands]))
    simp only [stepE, stepOp, h1]
    split
    · rw [okE_wal, okE_wal]
    · rfl
  case makeInterface t x =>
    have h1 := blind_v.eq (h x (by simp [Op.operands]))
    simp only [stepE, stepOp, h1]
    split
    · split <;> rfl
    · rfl
  case makeFunc fn first captured =>
    have h1 := ops_weak (fr := fr) (fr' := fr') (l := first.toList) (fun x hx => h x (by simp [Op.operands]; exact .inl (by simpa using hx)))
    have h2 := ops_weak (fr := fr) (fr' := fr') (l := captured.toList) (fun x hx => h x (by simp [Op.operands]; exact .inr (by simpa using hx)))
    cases fn <;> simp only [stepE, stepOp, h1, h2]
    split <;> rfl
  case makeSlice t l c =>
    have h1 := blind_int.eq (h l (by simp [Op.operands]))
    have h2 := blind_int.eq (h c (by simp [Op.operands]))
    simp only [stepE, stepOp, h1, h2]
    split
    · split <;> rfl
    · rfl
  case slice t x lo hi mx =>
    have h1 := blind_v.eq (h x (by simp [Op.operands]))
    have h2 := bound_weak (fr := fr) (fr' := fr') (x := lo) (fun y hy => h y (by simp [Op.operands] at hy ⊢; simp [hy]))
    have h3 := bound_weak (fr := fr) (fr' := fr') (x := hi) (fun y hy => h y (by simp [Op.operands] at hy ⊢; simp [hy]))
    have h4 := bound_weak (fr := fr) (fr' := fr') (x := mx) (fun y hy => h y (by simp [Op.operands] at hy ⊢; simp [hy]))
    simp only [stepE, stepOp, h1, h2, h3, h4]
    split
    · split
      · rw [okE_wal, okE_wal]
      · rfl
    · rfl
  case fieldAddr t x f =>
    have h1 : ∀ n, addrAdd (fr.op x) n = addrAdd (fr'.op x) n := fun n => (blind_add n).eq (h x (by simp [Op.operands]))
    simp only [stepE, stepOp, h1]
    split
    · split
      · rename_i hk hf
        generalize ha : fr.op x = e at *
        generalize hb : fr'.op x = e' at *
        have hw : e.weak = e'.weak := by rw [← ha, ← hb]; exact h x (by simp [Op.operands])
        rcases weak_cases hw with rfl | ⟨xs, h2, h3⟩
        · split
          · rfl
          · rw [okE_wal, okE_wal]
        · rcases h2 with rfl | ⟨k, rfl⟩ | ⟨k, p, rfl⟩ <;> rcases h3 with rfl | ⟨k', rfl⟩ | ⟨k', p', rfl⟩ <;> simp [addrAdd, okE, Rs.wal]
      · rfl
    · rfl
  case field t x f =>
    have h1 := blind_v.eq (h x (by simp [Op.operands]))
    simp only [stepE, stepOp, h1]
    split
    · split
      · rw [okV_wal, okV_wal]
      · rfl
    · rfl
  case indexAddr t x i =>
    have h2 := blind_int.eq (h i (by simp [Op.operands]))
    have h1 : ∀ ti j, indexAddrStep ti (fr.op x) j = indexAddrStep ti (fr'.op x) j := fun ti j => (blind_idx ti j).eq (h x (by simp [Op.operands]))
    simp only [stepE, stepOp, h1, h2]
    split
    · rw [okE_wal, okE_wal]
    · rfl
  case index t x i =>
    have h1 := blind_v.eq (h x (by simp [Op.operands]))
    have h2 := blind_int.eq (h i (by simp [Op.operands]))
    simp only [stepE, stepOp, h1, h2]
    split
    · rw [okV_wal, okV_wal]
    · rfl
  case extract x i =>
    have h1 := h x (by simp [Op.operands])
    simp only [stepE, stepOp]
    generalize fr.op x = e at *
    generalize fr'.op x = e' at *
    rcases weak_cases h1 with rfl | ⟨xs, h2, h3⟩
    · split
      · rw [okV_wal, okV_wal]
      · rfl
    · rcases h2 with rfl | ⟨k, rfl⟩ | ⟨k, p, rfl⟩ <;> rcases h3 with rfl | ⟨k', rfl⟩ | ⟨k', p', rfl⟩ <;> rfl
  case call c =>
    obtain ⟨callee, args, ats⟩ := c
    have hargs : ∀ x ∈ args.toList, (fr.op x).weak = (fr'.op x).weak := fun x hx => h x (by simp [Op.operands, Call.operands]; exact .inr (by simpa using hx))
    have h1 := ops_weak hargs
    cases callee with
    | value x =>
      cases x with
      | func f =>
        have h2 : fr.op (.func f) = fr'.op (.func f) := rfl
        obtain ⟨vs, hvs, hfl⟩ := hcall f args ats rfl
        have hvs' : vsOf (args.toList.map fr'.op) = some vs := by rw [← h1]; exact hvs
        simp only [stepE, hvs, hvs', Fr.op, List.nil_append, List.append_nil]
        unfold callStep
        split
        · split <;> rfl
        · rename_i hext
          split
          · rfl
          · rename_i fi' hfi
            simp only [quietOp, hext, hfi] at hq
            rw [if_pos hq, if_pos hq, if_pos hfl, if_pos hfl]
            split
            · split <;> rfl
            · rfl
      | _ => simp [quietOp] at hq
    | invoke _ _ => simp [quietOp] at hq
    | builtin b =>
      cases b <;> simp only [quietOp, Bool.false_eq_true] at hq
      case append =>
        split at hq
        · rename_i v h0
          simp only [stepE, stepOp, builtinStep, appendStep, h0]
          cases ht : ats[0]? with
          | none => rfl
          | some t =>
            cases hx : args[1]? with
            | none => rfl
            | some x =>
              have h2 : ∀ k, appended k (fr.op x) = appended k (fr'.op x) := fun k => (blind_app k).eq (hargs x (by have := Array.mem_of_getElem? hx; simpa using this))
              simp only [h2]
              split
              · split
                · rename_i esz _ _ _ _ _ _ _ _ _ _
                  simp only [baseOf, take, Fr.op]
                  cases (constV v).toE <;> try rfl
                  rename_i k xs
                  by_cases hk : (k == 0 || k == esz) = true
                  · simp only [hk, if_true]
                    split <;> rfl
                  · simp only [hk, if_false, Bool.false_eq_true]
                · rfl
              · rfl
        · cases hq
      case len =>
        simp only [stepE, stepOp, builtinStep]
        split
        · rename_i x ti hx _
          rw [(blind_len ti.k).eq (hargs x (by have := Array.mem_of_getElem? hx; simpa using this)), okV_wal, okV_wal]
        · rfl
      case max =>
        simp only [stepE, stepOp, builtinStep, h1]
        split
        · rw [okV_wal, okV_wal]
        · rfl
      case min =>
        simp only [stepE, stepOp, builtinStep, h1]
        split
        · rw [okV_wal, okV_wal]
        · rfl

theorem stepQ_weak (h : ∀ x ∈ o.op.operands, (fr.op x).weak = (fr'.op x).weak) (hld : ∀ t x, o.op = .load t x → SameRead fr st fr' st' ∨ ∃ cs, fr.op x = .val (.ep cs))
    (hcall : ∀ f args ats, o.op = .call { callee := .value (.func f), args := args, argTypes := ats } → ∃ vs, vsOf (args.toList.map fr.op) = some vs ∧ flats vs = true)
    {e : E} (hs : stepQ g fi call fr st o = some e) : ∃ e', stepQ g fi call fr' st' o = some e' ∧ e'.weak = e.weak := by
  have mv : ∀ x, x ∈ o.op.operands → (fr'.op x).still.weak = (fr.op x).still.weak := fun x hx => by rw [still_weak, still_weak, h x hx]
  unfold stepQ at hs ⊢
  split at hs
  · rename_i x ho
    cases hs
    exact ⟨_, rfl, mv x (by rw [ho]; simp [Op.operands])⟩
  · rename_i x ho
    cases hs
    exact ⟨_, rfl, mv x (by rw [ho]; simp [Op.operands])⟩
  · rename_i n1 n2
    split at hs
    · rename_i hq
      split at hs
      · rename_i e0 fr1 st1 he
        cases hs
        have : ∃ e0' fr1' st1', stepE g fi call fr' st' o = some (.ok e0' fr1' st1') ∧ e0'.weak = e0.weak := by
          by_cases hl : ∃ t x, o.op = .load t x
          · obtain ⟨t, x, ho⟩ := hl
            simp only [stepE, stepOp, ho] at he ⊢
            split at he
            · obtain ⟨x', hx', he2⟩ := okE_some he
              cases he2
              have hxw := h x (by rw [ho]; simp [Op.operands])
              rename_i ti _
              obtain ⟨e', h1, h2⟩ : ∃ e', Ab.loadAt ti fr' st' (fr'.op x) = some e' ∧ e'.weak = e0.weak := by
                rcases hld t x ho with hl | ⟨cs, hl⟩
                · exact loadAt_weak hxw hl hx'
                · rw [hl] at hxw hx'
                  have : fr'.op x = .val (.ep cs) := by
                    rcases weak_cases hxw with h | ⟨ys, h3, _⟩
                    · exact h.symm
                    · rcases h3 with h3 | ⟨_, h3⟩ | ⟨_, _, h3⟩ <;> cases h3
                  rw [this]
                  exact ⟨e0, hx', rfl⟩
              exact ⟨e', fr', st', by simp [h1, okE], h2⟩
            · cases he
          · have hw := wal_quiet (g := g) (fi := fi) (call := call) (st := st) (st' := st') h hq (fun t x ho => hl ⟨t, x, ho⟩) hcall
            rw [he] at hw
            simp only [Rs.wal] at hw
            split at hw
            · rename_i e0' fr1' st1' he'
              exact ⟨e0', fr1', st1', he', by simpa using hw.symm⟩
            · cases hw
        obtain ⟨e0', fr1', st1', h1, h2⟩ := this
        rw [if_pos hq, h1]
        exact ⟨_, rfl, by rw [calm_weak, calm_weak, h2]⟩
      · cases hs
    · cases hs
end Go.Ab
