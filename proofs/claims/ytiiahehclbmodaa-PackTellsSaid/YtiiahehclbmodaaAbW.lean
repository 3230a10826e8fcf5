/- Owners that give their room up. -/
import Derived.Test.YtiiahehclbmodaaAbM
namespace Go.Ab
open Go
set_option linter.unusedVariables false
set_option linter.unusedSimpArgs false
set_option linter.unnecessarySimpa false

variable {P : Program} {d n : Nat} {κ : K} {w : World} {lam : Lam} {fr : Fr} {st : St} {a : Act} {o : Oper}

theorem keep_tmp (d wp s : Nat) : ¬ Keep d wp (.tmp d s) := by
  rintro (h | ⟨_, h, _⟩ | ⟨_, _, h, _⟩)
  · exact Nat.lt_irrefl _ h
  · cases h
  · cases h
theorem keep_loc (d wp s : Nat) : ¬ Keep d wp (.loc d s) := by
  rintro (h | ⟨_, h, _⟩ | ⟨_, _, h, _⟩)
  · exact Nat.lt_irrefl _ h
  · cases h
  · cases h
theorem keep_lsp (d wp s o : Nat) : ¬ Keep d wp (.lsp d s o) := by
  rintro (h | ⟨_, h, _⟩ | ⟨_, _, h, _⟩)
  · exact Nat.lt_irrefl _ h
  · cases h
  · cases h
theorem keep_fly (d wp : Nat) : ¬ Keep d wp .fly := by
  rintro (h | ⟨_, h, _⟩ | ⟨_, _, h, _⟩)
  · exact h
  · cases h
  · cases h
theorem keep_mem (d wp id o : Nat) (h : wp ≤ id) : ¬ Keep d wp (.mem id o) := by
  rintro (h1 | ⟨_, h1, _⟩ | ⟨_, _, h1, h2⟩)
  · exact h1
  · cases h1
  · cases h1; omega
theorem keep_obj (d wp id : Nat) (h : wp ≤ id) : ¬ Keep d wp (.obj id) := by
  rintro (h1 | ⟨_, h1, h2⟩ | ⟨_, _, h1, _⟩)
  · exact h1
  · cases h1; omega
  · cases h1

/-- Entries that change in a way that only forgets. -/
theorem R.entries {S : Ow → Prop} {κ' : K} {w' : World} {fr' : Fr} {st' : St} (r : R d n κ w lam fr st a) (p : Pres S κ w κ' w')
    (ht : ∀ s, RepE d κ' w' lam fr' st' a.tmps s (a.tmps.getD s undef) (fr'.get s))
    (hl : ∀ s cs, fr'.loc s = some cs → ∃ b, lam s = some b ∧ cellsAre κ' w' b (.loc d s) (.lsp d s) cs) (hs : Sim κ' w' st') : R d n κ' w' lam fr' st' a :=
  ⟨hs, ⟨r.fm.defers, r.fm.size, ht, hl⟩⟩

theorem slot_ok (r : R d n κ w lam fr st a) {s k : Nat} {xs : List V} (h : fr.get s = .own k xs) :
    ∃ κ', R d n κ' w lam (fr.put s (.val (.slice xs))) st a ∧ RepV κ' w lam (fr.put s (.val (.slice xs))) st a.tmps (a.tmps.getD s undef) (.own k xs) ∧ Pres (fun L => L ≠ .tmp d s) κ w κ' w := by
  have p : Pres (fun L => L ≠ .tmp d s) κ w (κ.re (.tmp d s) .fly) w := pres_re κ w _ _ _ (by simp)
  have h0 := r.fm.tmp s
  rw [h] at h0
  refine ⟨_, r.entries p (fun t => ?_) (fun t cs hc => ?_) (r.sim.pres p (good_re r.sim.good) r.sim.fresh (by simp) (by simp)), ⟨h0.1.pres p, h0.2.re⟩, p⟩
  · rw [get_put]
    split
    · rename_i ht; subst ht; exact h0.1.pres p
    · rename_i ht
      have h1 := r.fm.tmp t
      generalize hv : a.tmps.getD t undef = v at h1 ⊢
      generalize he : fr.get t = e at h1 ⊢
      cases e with
      | any => trivial
      | val x => exact Rep.pres p h1
      | lp u off => exact h1
      | own k' ys => exact ⟨h1.1.pres p, h1.2.pres p (by simp [ht])⟩
      | bor k' ys q =>
        cases q with
        | slot u =>
          simp only [E.inval]
          split
          · exact h1.1.pres p
          · rename_i hne
            have hne' : u ≠ s := fun hh => hne (by rw [hh])
            exact ⟨h1.1.pres p, by rw [get_put, if_neg hne', h1.2.1]; rfl, h1.2.2⟩
        | mem id off =>
          obtain ⟨r1, cs, b, e1, e2, e3, e4⟩ := h1
          exact ⟨r1.pres p, cs, b, e1, e2, e3, e4⟩
        | loc u off =>
          obtain ⟨r1, cs, b, e1, e2, e3, e4⟩ := h1
          exact ⟨r1.pres p, cs, b, by rw [loc_put]; exact e1, e2, e3, e4⟩
  · rw [loc_put] at hc
    obtain ⟨b, hb, c⟩ := r.fm.loc t cs hc
    exact ⟨b, hb, c.pres p (by simp) (by simp)⟩

theorem cellsAre.weaken {κ κ' : K} {w : World} {b : Nat} {who : Ow} {sp : Nat → Ow} {cs : List V} {off : Nat} {k : Nat} {xs : List V} (p : Pres (fun L => L ≠ sp off) κ w κ' w) (h1 : who ≠ sp off)
    (h2 : ∀ j, j ≠ off → sp j ≠ sp off) (c : cellsAre κ w b who sp cs) (hc : cs[off]? = some (.osl k xs)) : cellsAre κ' w b who sp (cs.set off (.slice xs)) := by
  intro j x hx
  rw [List.getElem?_set] at hx
  split at hx
  · rename_i hj; subst hj
    split at hx
    · cases hx
      obtain ⟨ho, v, hv, hr⟩ := c off _ hc
      exact ⟨(p.lab _ _ _ ho h1).1, v, hv, hr.1.pres p⟩
    · cases hx
  · rename_i hj
    obtain ⟨ho, v, hv, hr⟩ := c j x hx
    exact ⟨(p.lab _ _ _ ho h1).1, v, hv, hr.pres p (h2 j (fun e => hj e.symm))⟩

theorem inval_get (e : E) (p : Pl) (f : E → E) : True := trivial

theorem mem_ok (r : R d n κ w lam fr st a) {id off k b : Nat} {xs cs : List V} {st' : St} (h1 : st.obj id = some cs) (h2 : cs[off]? = some (.osl k xs)) (h3 : κ.blk id = some b)
    (h4 : st.set id (cs.set off (.slice xs)) = some st') {v : Value} (h5 : w.cell? (at_ b off) = some v) :
    ∃ κ', R d n κ' w lam (fr.map E.noMem) st' a ∧ RepV κ' w lam (fr.map E.noMem) st' a.tmps v (.own k xs) ∧ Pres (Keep d st.wp) κ w κ' w ∧ st'.wp = st.wp := by
  have hwp : st.wp ≤ id := by
    unfold St.set at h4; split at h4
    · assumption
    · cases h4
  have hst : st' = { st with objs := st.objs.set id (cs.set off (.slice xs)) } := by
    unfold St.set at h4; rw [if_pos hwp] at h4; cases h4; rfl
  have p : Pres (fun L => L ≠ .mem id off) κ w (κ.re (.mem id off) .fly) w := pres_re κ w _ _ _ (by simp)
  obtain ⟨b', hb', hcs⟩ := r.sim.obj id cs h1
  rw [h3] at hb'; cases hb'
  have hcell := hcs off _ h2
  obtain ⟨_, v', hv', hr⟩ := hcell
  rw [h5] at hv'; cases hv'
  have hsim : Sim (κ.re (.mem id off) .fly) w st' := by
    refine ⟨by subst hst; simpa using r.sim.wple, good_re r.sim.good, ?_, ?_, ?_⟩
    · subst hst; intro id' hid; exact r.sim.fresh id' (by simpa using hid)
    rotate_left
    · intro id' cs' b' hc' hne hb2
      subst hst
      simp only [St.obj, List.getElem?_set] at hc'
      split at hc'
      · rename_i he; subst he
        split at hc'
        · cases hc'
          exact Room.step r.sim p id h1 (by simp) hne hb2 (fun b j hl => (p.lab b j _ hl (by simp)).1)
        · cases hc'
      · exact Room.step r.sim p id' hc' rfl hne hb2 (fun b j hl => (p.lab b j _ hl (by simp)).1)
    · intro id' cs' hc'
      subst hst
      simp only [St.obj, List.getElem?_set] at hc'
      split at hc'
      · rename_i he; subst he
        split at hc'
        · cases hc'
          exact ⟨b, h3, hcs.weaken p (by simp) (by simp) h2⟩
        · cases hc'
      · rename_i he
        obtain ⟨b2, hb2, c2⟩ := r.sim.obj id' cs' hc'
        exact ⟨b2, hb2, c2.pres p (by simp) (by simp [Ne.symm he])⟩
  refine ⟨_, r.entries p (fun t => ?_) (fun t cs' hc => ?_) hsim, ⟨hr.1.pres p, hr.2.re⟩, p.mono (fun L hL e => keep_mem d st.wp id off hwp (e ▸ hL)), by subst hst; rfl⟩
  · rw [get_map _ _ rfl]
    have h1' := r.fm.tmp t
    generalize hv : a.tmps.getD t undef = v at h1' ⊢
    generalize he : fr.get t = e at h1' ⊢
    cases e with
    | any => trivial
    | val x => exact Rep.pres p h1'
    | lp u o => exact h1'
    | own k' ys => exact ⟨h1'.1.pres p, h1'.2.pres p (by simp)⟩
    | bor k' ys q =>
      cases q with
      | slot u => exact ⟨h1'.1.pres p, by rw [get_map _ _ rfl, h1'.2.1]; rfl, h1'.2.2⟩
      | mem id' o => exact h1'.1.pres p
      | loc u o =>
        obtain ⟨r1, cs', b', e1, e2, e3, e4⟩ := h1'
        exact ⟨r1.pres p, cs', b', e1, e2, e3, e4⟩
  · obtain ⟨b', hb', c⟩ := r.fm.loc t cs' hc
    exact ⟨b', hb', c.pres p (by simp) (by simp)⟩

theorem lk_lset_other {α : Type} (l : List (Nat × α)) (s t : Nat) (e : α) (h : t ≠ s) : lk (lset l s e) t = lk l t := by
  induction l with
  | nil => rfl
  | cons y r ih =>
    obtain ⟨k, z⟩ := y
    simp only [lset]
    by_cases hk : k = s
    · subst hk; simp [lk, Ne.symm h]
    · simp only [beq_iff_eq, hk, if_false, lk, ih]

theorem loc_ok (r : R d n κ w lam fr st a) {s off k b : Nat} {xs cs : List V} (h1 : fr.loc s = some cs) (h2 : cs[off]? = some (.osl k xs)) (h3 : lam s = some b)
    {v : Value} (h5 : w.cell? (at_ b off) = some v) :
    ∃ κ', R d n κ' w lam ((fr.setLoc s (cs.set off (.slice xs))).map E.noLoc) st a ∧ RepV κ' w lam ((fr.setLoc s (cs.set off (.slice xs))).map E.noLoc) st a.tmps v (.own k xs) ∧ Pres (Keep d st.wp) κ w κ' w := by
  have p : Pres (fun L => L ≠ .lsp d s off) κ w (κ.re (.lsp d s off) .fly) w := pres_re κ w _ _ _ (by simp)
  obtain ⟨b', hb', hcs⟩ := r.fm.loc s cs h1
  rw [h3] at hb'; cases hb'
  obtain ⟨_, v', hv', hr⟩ := hcs off _ h2
  rw [h5] at hv'; cases hv'
  have hget : ∀ t, (fr.setLoc s (cs.set off (.slice xs))).get t = fr.get t := fun t => rfl
  refine ⟨_, r.entries p (fun t => ?_) (fun t cs' hc => ?_) (r.sim.pres p (good_re r.sim.good) r.sim.fresh (by simp) (by simp)), ⟨hr.1.pres p, hr.2.re⟩, p.mono (fun L hL e => keep_lsp d st.wp s off (e ▸ hL))⟩
  · rw [get_map _ _ rfl, hget]
    have h1' := r.fm.tmp t
    generalize hv : a.tmps.getD t undef = v at h1' ⊢
    generalize he : fr.get t = e at h1' ⊢
    cases e with
    | any => trivial
    | val x => exact Rep.pres p h1'
    | lp u o => exact h1'
    | own k' ys => exact ⟨h1'.1.pres p, h1'.2.pres p (by simp)⟩
    | bor k' ys q =>
      cases q with
      | slot u => exact ⟨h1'.1.pres p, by rw [get_map _ _ rfl, hget, h1'.2.1]; rfl, h1'.2.2⟩
      | mem id' o =>
        obtain ⟨r1, cs', b', e1, e2, e3, e4⟩ := h1'
        exact ⟨r1.pres p, cs', b', e1, e2, e3, e4⟩
      | loc u o => exact h1'.1.pres p
  · rw [loc_map] at hc
    simp only [Fr.loc_def, Fr.setLoc_def] at hc
    by_cases ht : t = s
    · subst ht
      rw [lk_lset _ _ _ _ _ ((Fr.loc_def fr _).symm.trans h1), if_pos rfl] at hc
      cases hc
      exact ⟨b, h3, hcs.weaken p (by simp) (by simp) h2⟩
    · rw [lk_lset_other _ _ _ _ ht] at hc
      obtain ⟨b2, hb2, c2⟩ := r.fm.loc t cs' ((Fr.loc_def fr t).trans hc)
      exact ⟨b2, hb2, c2.pres p (by simp) (by simp [ht])⟩

/-- A value that leaves a temporary for good. -/
theorem take_ok (r : R d n κ w lam fr st a) {x : Operand} {e : E} {fr' : Fr} {st' : St} (h : take fr st x = some (e, fr', st')) :
    ∃ κ', R d n κ' w lam fr' st' a ∧ RepV κ' w lam fr' st' a.tmps (a.eval x) e ∧ Pres (Keep d st.wp) κ w κ' w ∧ st'.wp = st.wp := by
  cases x with
  | tmp t =>
    simp only [take] at h
    split at h
    · rename_i k xs he
      cases h
      obtain ⟨κ', h1, h2, h3⟩ := slot_ok r he
      exact ⟨κ', h1, h2, h3.mono (fun L hL e => keep_tmp d st.wp t (e ▸ hL)), rfl⟩
    · rename_i k xs q he
      have h0 := r.fm.tmp t
      rw [he] at h0
      cases hc : consume fr st xs q with
      | none => rw [hc] at h; cases h
      | some y =>
        obtain ⟨fr1, st1⟩ := y
        rw [hc] at h
        simp only [Option.map_some, Option.some.injEq, Prod.mk.injEq] at h
        obtain ⟨rfl, rfl, rfl⟩ := h
        cases q with
        | slot s =>
          simp only [consume, h0.2.1, E.weak, Option.some.injEq, Prod.mk.injEq] at hc
          obtain ⟨rfl, rfl⟩ := hc
          obtain ⟨κ', h1, h2, h3⟩ := slot_ok r h0.2.1
          refine ⟨κ', h1, ?_, h3.mono (fun L hL e => keep_tmp d st.wp s (e ▸ hL)), rfl⟩
          show RepV _ _ _ _ _ _ (a.tmps.getD t undef) _
          rw [← h0.2.2]; exact h2
        | mem id off =>
          obtain ⟨r1, cs, b, e1, e2, e3, e4⟩ := h0
          simp only [consume, e1, e2, V.strip1] at hc
          cases hs : st.set id (cs.set off (.slice xs)) with
          | none => rw [hs] at hc; cases hc
          | some st2 =>
            rw [hs] at hc
            simp only [Option.map_some, Option.some.injEq, Prod.mk.injEq] at hc
            obtain ⟨rfl, rfl⟩ := hc
            exact mem_ok r e1 e2 e3 hs e4
        | loc s off =>
          obtain ⟨r1, cs, b, e1, e2, e3, e4⟩ := h0
          simp only [consume, e1, e2, V.strip1, Option.some.injEq, Prod.mk.injEq] at hc
          obtain ⟨rfl, rfl⟩ := hc
          obtain ⟨κ', h1, h2, h3⟩ := loc_ok r e1 e2 e3 e4
          exact ⟨κ', h1, h2, h3, rfl⟩
    · rename_i e' hn1 hn2
      cases h
      exact ⟨κ, r, RepV.mk r t (fun k xs he => hn1 k xs he), .refl _ _ _, rfl⟩
  | const v =>
    simp only [take, Option.some.injEq, Prod.mk.injEq] at h
    obtain ⟨rfl, rfl, rfl⟩ := h
    exact ⟨κ, r, RepV.toE (constV_rep κ w v), .refl _ _ _, rfl⟩
  | global g =>
    simp only [take, Option.some.injEq, Prod.mk.injEq] at h
    obtain ⟨rfl, rfl, rfl⟩ := h
    exact ⟨κ, r, trivial, .refl _ _ _, rfl⟩
  | func f =>
    simp only [take, Option.some.injEq, Prod.mk.injEq] at h
    obtain ⟨rfl, rfl, rfl⟩ := h
    exact ⟨κ, r, Rep.func .nil .nil, .refl _ _ _, rfl⟩
end Go.Ab
