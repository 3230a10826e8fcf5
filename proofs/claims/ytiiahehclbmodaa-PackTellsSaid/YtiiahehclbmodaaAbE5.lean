/- Effects that make slices whose elements are written. -/
import Derived.Test.YtiiahehclbmodaaAbE4
namespace Go.Ab
open Go
set_option linter.unusedVariables false
set_option linter.unusedSimpArgs false
set_option linter.unnecessarySimpa false

variable {g : G} {fi : FI} {call : Calling} {fr fr' : Fr} {st st' : St} {o : Oper} {ops : Array Oper} {k : Nat}

/-- What a made slice leaves. -/
inductive Made (fr : Fr) (st : St) : Array Operand → Rs → Prop
  | fresh {l : Array Operand} {e : E} {st' : St} (he : ∀ k xs u, e ≠ .bor k xs (.slot u)) : Made fr st l (.ok e fr st')
  | took {l : Array Operand} {x : Operand} {e0 e : E} {f : Fr} {st1 st' : St} (hx : x ∈ l) (ht : take fr st x = some (e0, f, st1)) (he : ∀ k xs u, e ≠ .bor k xs (.slot u)) : Made fr st l (.ok e f st')
  | grew {l : Array Operand} {x : Operand} {e0 e : E} {f : Fr} {st1 st' : St} (hx : x ∈ l) (ht : take fr st x = some (e0, f, st1)) (he : ∀ k xs u, e ≠ .bor k xs (.slot u)) : Made fr st l (.ok e (f.map E.noMem) st')

theorem mem_args {args : Array Operand} {callee : Callee} {ats : Array TypeId} {i : Nat} {x : Operand} (h : args[i]? = some x) : x ∈ Op.operands (.call { callee := callee, args := args, argTypes := ats }) := by
  have hx := Array.mem_of_getElem? h
  cases callee <;> simp [Op.operands, Call.operands] <;> first | (exact .inr (by simpa using hx)) | (simpa using hx)

theorem made {rs : Rs} (h : markStep g fr st o = some rs) : Made fr st o.op.operands rs := by
  unfold markStep at h
  split at h
  · rename_i args ats ho
    rw [ho]
    unfold markAppend at h
    split at h
    · rename_i h0 _ _
      split at h
      · split at h
        · split at h
          · split at h
            · rename_i htk
              split at h
              · cases h
                split
                · exact .took (mem_args h0) htk (by simp)
                · exact .took (mem_args h0) htk (by simp)
              · cases h
            · rename_i htk
              split at h
              · split at h
                · cases h
                  split
                  · exact .took (mem_args h0) htk (by simp)
                  · exact .took (mem_args h0) htk (by simp)
                · cases h
              · cases h
            · rename_i htk
              split at h
              · split at h
                · simp only [Option.map_eq_some_iff] at h
                  obtain ⟨st2, _, rfl⟩ := h
                  exact .grew (mem_args h0) htk (by simp)
                · cases h
              · cases h
            · cases h
          · cases h
        · cases h
      · cases h
    · cases h
  · split at h
    · split at h
      · cases h
        split
        · exact .fresh (by simp)
        · exact .fresh (by simp)
      · cases h
    · cases h
  · split at h
    · split at h
      · cases h; exact .fresh (by simp)
      · cases h
    · cases h
  · cases h

theorem stepM_weak (hsemi : semiM fi o = true) {e : E} (h : stepM g fi call fr st o = some (.ok e fr' st')) :
    SameW fr fr' ∧ NoNew fr fr' ∧ (∀ k xs u, e ≠ .bor k xs (.slot u)) ∧ (mildM fi o = true → SameRead fr st fr' st') ∧ (isAppendM fi o = true → SameRead fr' st' fr st) := by
  unfold stepM at h
  split at h
  · rename_i hm
    refine (fun (key : SameW fr fr' ∧ NoNew fr fr' ∧ (∀ k xs u, e ≠ .bor k xs (.slot u))) => ⟨key.1, key.2.1, key.2.2, fun h => by simp [mildM, hm] at h, fun h => by simp [isAppendM, hm] at h⟩) ?_
    cases made h with
    | fresh he => exact ⟨.refl _, .refl _, he⟩
    | took hx ht he => exact ⟨(take_weak ht).1, (take_weak ht).2.2, he⟩
    | grew hx ht he => exact ⟨(take_weak ht).1.trans (SameW.map rfl noMem_weak), (take_weak ht).2.2.trans (NoNew.map rfl noMem_new), he⟩
  · rename_i hm
    have hm : marked fi o = false := by simpa using hm
    obtain ⟨h1, h2, h3, h4, h5⟩ := stepE_weak (by simpa [semiM, hm] using hsemi) h
    exact ⟨h1, h2, h3, fun h => h4 (by simpa [mildM, hm] using h), fun h => h5 (by simpa [isAppendM, hm] using h)⟩

theorem stepM_own (hsemi : semiM fi o = true) {e : E} {u k : Nat} {xs : List V} (hu : fr.get u = .own k xs) (ha : Away u fr o) (h : stepM g fi call fr st o = some (.ok e fr' st')) : fr'.get u = .own k xs := by
  unfold stepM at h
  split at h
  · rename_i hm
    cases made h with
    | fresh he => exact hu
    | took hx ht he => exact take_own hu (fun t hx' => ha t (hx' ▸ hx)) ht
    | grew hx ht he => exact own_map rfl (fun _ _ => rfl) (take_own hu (fun t hx' => ha t (hx' ▸ hx)) ht)
  · rename_i hm
    have hm : marked fi o = false := by simpa using hm
    exact stepE_own (by simpa [semiM, hm] using hsemi) hu ha h

theorem eqPlain_eq {a b : V} (h : eqPlain a b = true) : a = b := by
  unfold eqPlain at h
  split at h <;> simp_all
theorem eqPlains_eq : ∀ {a b : List V}, eqPlains a b = true → a = b
  | [], [], _ => rfl
  | x :: r, y :: s, h => by
    simp only [eqPlains, Bool.and_eq_true] at h
    rw [eqPlain_eq h.1, eqPlains_eq h.2]
  | [], _ :: _, h => by cases h
  | _ :: _, [], h => by cases h

theorem SameRead.trans {fr2 : Fr} {st2 : St} (h : SameRead fr st fr' st') (k : SameRead fr' st' fr2 st2) : SameRead fr st fr2 st2 :=
  ⟨fun s => (h.1 s).trans (k.1 s), fun id cs hc => by
    obtain ⟨c1, h1, h2⟩ := h.2 id cs hc
    obtain ⟨c2, h3, h4⟩ := k.2 id c1 h1
    exact ⟨c2, h3, h4.trans h2⟩⟩

theorem idle_same (hi : idleStore g fr st o = true) {e : E} (h : stepE g fi call fr st o = some (.ok e fr' st')) : SameRead fr st fr' st' := by
  unfold idleStore at hi
  split at hi
  · rename_i t a x ho
    split at hi
    · rename_i e0 fr1 st1 ht
      split at hi
      · rename_i cs hcs
        split at hi
        · rename_i s off old hp
          split at hi
          · rename_i new hn
            have h0 := eqPlains_eq hi
            unfold stepE at h
            rw [ho] at h
            simp only [stepOp, ho, ht, hcs] at h
            split at h
            · split at h
              · rename_i hst
                cases h
                unfold storeAt at hst
                split at hst
                · rw [hp] at hst
                  simp only [hn, Option.map_some, Option.some.injEq, Prod.mk.injEq] at hst
                  obtain ⟨rfl, rfl⟩ := hst
                  refine (take_weak ht).2.1.reads.trans ⟨fun u => ?_, fun id cs hc => ⟨cs, hc, rfl⟩⟩
                  have hold : fr1.loc s = some old := by
                    generalize fr1.op a = ea at hp
                    cases ea <;> simp only [placeOf, Option.map_eq_some_iff, reduceCtorEq, and_false, exists_false] at hp
                    · rename_i y
                      cases y <;> simp at hp
                    · obtain ⟨c, h5, h6⟩ := hp
                      cases h6; exact h5
                  show (fr1.loc u).map _ = (((fr1.setLoc s new).map E.noLoc).loc u).map _
                  rw [loc_map, Fr.loc_def, Fr.loc_def, Fr.setLoc_def]
                  exact (lk_lset_eq (fun l => l.map V.strip1) fr1.lc s u new old ((Fr.loc_def fr1 s).symm.trans hold) h0.symm).symm
                · cases hst
              · cases h
            · cases h
          · cases hi
        · cases hi
      · cases hi
    · cases hi
  · cases hi
theorem idle_sameM (ht : tameB ops k o = true) (hi : idleStore g fr st o = true) {e : E} (h : stepM g fi call fr st o = some (.ok e fr' st')) : SameRead fr st fr' st' := by
  unfold stepM at h
  split at h
  · have hs : isStore o.op = true := by
      unfold tameB at ht
      rw [Bool.and_eq_true] at ht; exact ht.1
    unfold isStore at hs
    split at hs
    · rename_i ho
      unfold markStep at h
      rw [ho] at h; cases h
    · cases hs
  · exact idle_same hi h

section
variable {s : Nat} {v : E}
theorem stepM_put1 (hS : Still s v fr o) (hsemi : semiM fi o = true) :
    stepM g fi call (fr.put s v) st o = (stepM g fi call fr st o).map (Rs.put s v) := by
  unfold stepM
  split
  · unfold markStep
    split
    · rename_i args ats ho
      unfold markAppend
      cases h0 : ats[0]? with
      | none => rfl
      | some t =>
        cases h1 : args[0]? with
        | none => rfl
        | some x =>
          cases h2 : args[1]? with
          | none => rfl
          | some y =>
            have e1 : (fr.put s v).op y = fr.op y := op_put hS (ho ▸ mem_args h2)
            have e0 := take_put (st := st) hS (x := x) (ho ▸ mem_args h1)
            cases h3 : (ats[1]?).bind g.ty with
            | none => rfl
            | some ti =>
              obtain ⟨tk, q1, q2, q3⟩ := ti
              cases tk <;> try rfl
              simp only [e1, e0]
              split
              · split
                · split
                  · cases hq : take fr st x with
                    | none => rfl
                    | some z =>
                      obtain ⟨e, f, st1⟩ := z
                      simp only [Option.map_some]
                      cases e with
                      | own k xs =>
                        cases xs with
                        | nil =>
                          simp only
                          split
                          · rename_i hc
                            simp only [hc, if_true, Option.map_some, Option.some.injEq]
                            split <;> rfl
                          · rename_i hc
                            simp only [hc, if_false, Option.map_none, Bool.false_eq_true]
                        | cons _ _ => rfl
                      | val w =>
                        cases w with
                        | sref fl k id off len =>
                          cases fl with
                          | true =>
                            simp only
                            cases st1.obj id with
                            | none => rfl
                            | some cs =>
                              simp only
                              split
                              · simp only [Option.map_some, Option.some.injEq]
                                split <;> rfl
                              · rfl
                          | false =>
                          simp only
                          cases st1.obj id with
                          | none => rfl
                          | some cs =>
                            simp only
                            split
                            · simp only [noMem_put hS.mem]
                              cases st1.set id [] with
                              | none => rfl
                              | some st2 => rfl
                            · rfl
                        | _ => rfl
                      | _ => rfl
                  · rfl
                · rfl
              · rfl
    · rename_i t len parts ho
      have e1 : (parts.toList.map fun p => (p.1, ((fr.put s v).op p.2).part?)) = parts.toList.map fun p => (p.1, (fr.op p.2).part?) :=
        List.map_congr_left fun p hp => by rw [op_put hS (x := p.2) (by rw [ho]; simp only [Op.operands]; simpa using ⟨p.1, by simpa using hp⟩)]
      rw [e1]
      split
      · split
        · simp only [Option.map_some, Option.some.injEq]
          split <;> rfl
        · rfl
      · rfl
    · rename_i t l c ho
      have e1 : (fr.put s v).op l = fr.op l := op_put hS (by rw [ho]; simp [Op.operands])
      have e2 : (fr.put s v).op c = fr.op c := op_put hS (by rw [ho]; simp [Op.operands])
      rw [e1, e2]
      split
      · split <;> rfl
      · rfl
    · rfl
  · rename_i hm
    have hm : marked fi o = false := by simpa using hm
    exact stepE_put1 hS (by simpa [semiM, hm] using hsemi)
end
end Go.Ab
