/- Stores. -/
import Derived.Test.YtiiahehclbmodaaAbN
namespace Go.Ab
open Go
set_option linter.unusedVariables false
set_option linter.unusedSimpArgs false
set_option linter.unnecessarySimpa false

variable {P : Program} {d n : Nat} {κ : K} {w : World} {lam : Lam} {fr : Fr} {st : St} {a : Act} {o : Oper}

theorem splice_get {old cs new : List V} {off : Nat} (h : splice old off cs = some new) : off + cs.length ≤ old.length ∧ new.length = old.length ∧
    ∀ (j : Nat), new[j]? = if off ≤ j ∧ j < off + cs.length then cs[j - off]? else old[j]? := by
  unfold splice at h
  split at h
  · rename_i hl
    cases h
    refine ⟨hl, by simp; omega, fun j => ?_⟩
    by_cases h1 : j < off
    · rw [if_neg (by omega), List.append_assoc, List.getElem?_append_left (by simp; omega), List.getElem?_take, if_pos h1]
    · by_cases h2 : j < off + cs.length
      · rw [if_pos ⟨by omega, h2⟩, List.append_assoc, List.getElem?_append_right (by simp; omega), List.getElem?_append_left (by simp; omega)]
        congr 1; simp; omega
      · rw [if_neg (by omega), List.getElem?_append_right (by simp; omega), List.getElem?_drop]
        congr 1; simp; omega
  · cases h

theorem store_run {b off : Nat} {vs : List Value} (h : ∀ j, j < vs.length → ∃ v, w.cell? (at_ b (off + j)) = some v) (hf : ∀ j, j < vs.length → w.frozen? (at_ b (off + j)) = false)
    (h1 : ∀ v ∈ vs, v.oneCell' = true) : (storeCells (at_ b off) vs).run P w = .ok () (w.setCells b off vs) := by
  have := run_storeCells_cells (P := P) b off vs 0 w (fun j hj => by obtain ⟨v, hv⟩ := h j hj; simp only [Nat.add_zero]; exact Option.isSome_iff_exists.2 ⟨v, hv⟩)
    (fun j hj => by simp only [Nat.add_zero]; exact hf j hj) h1
  rw [Nat.add_zero] at this; exact this

/-- What a row of owned cells is behind a write. -/
theorem cellsAre.write {b : Nat} {who : Ow} {sp : Nat → Ow} {old cs new : List V} {off : Nat} {vs : List Value} (c : cellsAre κ w b who sp old) (hs : splice old off cs = some new) (hl : vs.length = cs.length)
    (p : Pres (fun L => L ≠ who) κ w κ (w.setCells b off vs)) (hsp : ∀ j, sp j ≠ who)
    (hr : ∀ (j : Nat) v x, vs[j]? = some v → cs[j]? = some x → RepM κ w (sp (off + j)) v x) : cellsAre κ (w.setCells b off vs) b who sp new := by
  obtain ⟨h1, h2, h3⟩ := splice_get hs
  have hex : ∀ j, j < vs.length → ∃ v, w.cell? (at_ b (off + j)) = some v := by
    intro j hj
    obtain ⟨_, v, hv, _⟩ := c (off + j) old[off + j] (by simp)
    exact ⟨v, hv⟩
  intro j x hx
  rw [h3] at hx
  split at hx
  · rename_i hj
    have hj2 : j - off < vs.length := by omega
    have hv := setCells_at b vs off w hex (j - off) vs[j - off] (by simp)
    rw [show off + (j - off) = j by omega] at hv
    have hj3 : j < old.length := by omega
    obtain ⟨ho, _⟩ := c j old[j] (by simp)
    have := hr (j - off) vs[j - off] x (by simp) hx
    rw [show off + (j - off) = j by omega] at this
    exact ⟨ho, _, hv, this.pres p (hsp j)⟩
  · rename_i hj
    obtain ⟨ho, v, hv, r⟩ := c j x hx
    exact ⟨ho, v, by rw [setCells_other _ _ _ _ _ _ (by omega)]; exact hv, r.pres p (hsp j)⟩

theorem mem_store (r : R d n κ w lam fr st a) {id off b : Nat} {old cs new : List V} {vs : List Value} {st' : St} (h1 : st.obj id = some old) (h2 : κ.blk id = some b) (hs : splice old off cs = some new)
    (h3 : st.set id new = some st') (hl : vs.length = cs.length) (hne : vs ≠ []) (h1c : ∀ v ∈ vs, v.oneCell' = true) (hr : ∀ (j : Nat) v x, vs[j]? = some v → cs[j]? = some x → RepM κ w (.mem id (off + j)) v x) :
    (storeCells (at_ b off) vs).run P w = .ok () (w.setCells b off vs) ∧ R d n κ (w.setCells b off vs) lam (fr.map E.noMem) st' a ∧ Pres (Keep d st.wp) κ w κ (w.setCells b off vs) ∧ st'.wp = st.wp := by
  have hwp : st.wp ≤ id := by
    unfold St.set at h3; split at h3
    · assumption
    · cases h3
  have hst : st' = { st with objs := st.objs.set id new } := by
    unfold St.set at h3; rw [if_pos hwp] at h3; cases h3; rfl
  obtain ⟨b', hb', hc⟩ := r.sim.obj id old h1
  rw [h2] at hb'; cases hb'
  obtain ⟨hle, hlen, _⟩ := splice_get hs
  have hown : ∀ j, j < vs.length → κ.own b (off + j) = some (.obj id) := fun j hj => (hc (off + j) old[off + j] (by simp)).1
  have hex : ∀ j, j < vs.length → ∃ v, w.cell? (at_ b (off + j)) = some v := fun j hj => (r.sim.good _ _ _ (hown j hj)).1
  have p : Pres (fun L => L ≠ .obj id) κ w κ (w.setCells b off vs) := pres_write _ (by simp) hne r.sim.good hown
  have g : Good κ (w.setCells b off vs) := good_write r.sim.good b off vs hex
  refine ⟨store_run hex (fun j hj => (r.sim.good _ _ _ (hown j hj)).2) h1c, r.entries p (fun t => ?_) (fun t cs' hc' => ?_) ⟨by subst hst; simpa using r.sim.wple, g, ?_, ?_, ?_⟩, p.mono (fun L hL e => keep_obj d st.wp id hwp (e ▸ hL)), by subst hst; rfl⟩
  · rw [get_map _ _ rfl]
    have h1' := r.fm.tmp t
    generalize hv : a.tmps.getD t undef = v at h1' ⊢
    generalize he : fr.get t = e at h1' ⊢
    cases e with
    | any => trivial
    | val x => exact Rep.pres p h1'
    | lp u o => exact h1'
    | own k' ys => exact ⟨h1'.1.pres p, h1'.2.pres p (by simp)⟩
    | bor k' ys q =>
      cases q with
      | slot u => exact ⟨h1'.1.pres p, by rw [get_map _ _ rfl, h1'.2.1]; rfl, h1'.2.2⟩
      | mem id' o => exact h1'.1.pres p
      | loc u o =>
        obtain ⟨r1, cs', b', e1, e2, e3, e4⟩ := h1'
        exact ⟨r1.pres p, cs', b', e1, e2, e3, (r.fm.cellEq p (by simp) u cs' o _ b' e1 e2 e3).trans e4⟩
  · obtain ⟨b', hb', c⟩ := r.fm.loc t cs' hc'
    exact ⟨b', hb', c.pres p (by simp) (by simp)⟩
  · subst hst; intro id' hid; exact r.sim.fresh id' (by simpa using hid)
  · intro id' cs' hc'
    subst hst
    simp only [St.obj, List.getElem?_set] at hc'
    split at hc'
    · rename_i he; subst he
      split at hc'
      · cases hc'
        exact ⟨b, h2, hc.write hs hl p (by simp) hr⟩
      · cases hc'
    · rename_i he
      obtain ⟨b2, hb2, c2⟩ := r.sim.obj id' cs' hc'
      exact ⟨b2, hb2, c2.pres p (by simpa using Ne.symm he) (by simp)⟩
  · intro id' cs' b' hc' hne hb2
    subst hst
    simp only [St.obj, List.getElem?_set] at hc'
    split at hc'
    · rename_i he; subst he
      split at hc'
      · cases hc'
        exact Room.step r.sim p id h1 hlen.symm hne hb2 (fun b j hl => hl)
      · cases hc'
    · exact Room.step r.sim p id' hc' rfl hne hb2 (fun b j hl => hl)

theorem loc_store (r : R d n κ w lam fr st a) {s off b : Nat} {old cs new : List V} {vs : List Value} (h1 : fr.loc s = some old) (h2 : lam s = some b) (hs : splice old off cs = some new)
    (hl : vs.length = cs.length) (hne : vs ≠ []) (h1c : ∀ v ∈ vs, v.oneCell' = true) (hr : ∀ (j : Nat) v x, vs[j]? = some v → cs[j]? = some x → RepM κ w (.lsp d s (off + j)) v x) :
    (storeCells (at_ b off) vs).run P w = .ok () (w.setCells b off vs) ∧ R d n κ (w.setCells b off vs) lam ((fr.setLoc s new).map E.noLoc) st a ∧ Pres (Keep d st.wp) κ w κ (w.setCells b off vs) := by
  obtain ⟨b', hb', hc⟩ := r.fm.loc s old h1
  rw [h2] at hb'; cases hb'
  obtain ⟨hle, hlen, _⟩ := splice_get hs
  have hown : ∀ j, j < vs.length → κ.own b (off + j) = some (.loc d s) := fun j hj => (hc (off + j) old[off + j] (by simp)).1
  have hex : ∀ j, j < vs.length → ∃ v, w.cell? (at_ b (off + j)) = some v := fun j hj => (r.sim.good _ _ _ (hown j hj)).1
  have p : Pres (fun L => L ≠ .loc d s) κ w κ (w.setCells b off vs) := pres_write _ (by simp) hne r.sim.good hown
  have g : Good κ (w.setCells b off vs) := good_write r.sim.good b off vs hex
  have hget : ∀ t, (fr.setLoc s new).get t = fr.get t := fun t => rfl
  refine ⟨store_run hex (fun j hj => (r.sim.good _ _ _ (hown j hj)).2) h1c, r.entries p (fun t => ?_) (fun t cs' hc' => ?_) (r.sim.pres p g r.sim.fresh (by simp) (by simp)), p.mono (fun L hL e => keep_loc d st.wp s (e ▸ hL))⟩
  · rw [get_map _ _ rfl, hget]
    have h1' := r.fm.tmp t
    generalize hv : a.tmps.getD t undef = v at h1' ⊢
    generalize he : fr.get t = e at h1' ⊢
    cases e with
    | any => trivial
    | val x => exact Rep.pres p h1'
    | lp u o => exact h1'
    | own k' ys => exact ⟨h1'.1.pres p, h1'.2.pres p (by simp)⟩
    | bor k' ys q =>
      cases q with
      | slot u => exact ⟨h1'.1.pres p, by rw [get_map _ _ rfl, hget, h1'.2.1]; rfl, h1'.2.2⟩
      | mem id' o =>
        obtain ⟨r1, cs', b', e1, e2, e3, e4⟩ := h1'
        exact ⟨r1.pres p, cs', b', e1, e2, e3, (r.sim.cellEq p (by simp) id' cs' o _ b' e1 e2 e3).trans e4⟩
      | loc u o => exact h1'.1.pres p
  · rw [loc_map] at hc'
    simp only [Fr.loc_def, Fr.setLoc_def] at hc'
    by_cases ht : t = s
    · subst ht
      rw [lk_lset _ _ _ _ _ ((Fr.loc_def fr _).symm.trans h1), if_pos rfl] at hc'
      cases hc'
      exact ⟨b, h2, hc.write hs hl p (by simp) hr⟩
    · rw [lk_lset_other _ _ _ _ ht] at hc'
      obtain ⟨b2, hb2, c2⟩ := r.fm.loc t cs' ((Fr.loc_def fr t).trans hc')
      exact ⟨b2, hb2, c2.pres p (by simpa using ht) (by simp)⟩

/-- The cells of a value on its way, when they come to lie at a place. -/
theorem cells_of {e : E} {v : Value} {cs : List V} {tmps : Array Value} (r : R d n κ w lam fr st a) (h : RepV κ w lam fr st tmps v e) (hc : e.cells? = some cs) (h1 : cs.all V.one = true) (sp : Nat → Ow) (hsp : sp 0 ≠ .fly) :
    ∃ κ', R d n κ' w lam fr st a ∧ Pres (fun L => L ≠ .fly) κ w κ' w ∧ v.cells.toList.length = cs.length ∧ (∀ u ∈ v.cells.toList, u.oneCell' = true) ∧
      ∀ (j : Nat) u x, v.cells.toList[j]? = some u → cs[j]? = some x → RepM κ' w (sp j) u x := by
  cases e with
  | val x =>
    simp only [E.cells?, Option.some.injEq] at hc; subst hc
    refine ⟨κ, r, .refl _ _ _, ?_⟩
    have hx : ∃ us, v.cells.toList = us ∧ Reps κ w us x.cells := by
      cases x <;> first
        | (obtain ⟨ar, rfl, hr⟩ := Rep.agg_inv h; exact ⟨_, rfl, hr⟩)
        | (refine ⟨[v], ?_, .cons h .nil⟩
           have := Rep.one h (by simpa [V.cells] using h1)
           cases v <;> first | rfl | cases this)
    obtain ⟨us, hus, hr⟩ := hx
    rw [hus]
    refine ⟨hr.length, ?_, fun j u y hu hy => ?_⟩
    · intro u hu
      obtain ⟨j, hj, rfl⟩ := List.getElem_of_mem hu
      have hj2 : j < x.cells.length := by rw [← hr.length]; exact hj
      obtain ⟨u', hu', hr'⟩ := hr.get j x.cells[j] (by simp)
      rw [List.getElem?_eq_getElem hj] at hu'; cases hu'
      exact hr'.one (List.all_eq_true.1 h1 _ (List.getElem_mem _))
    · obtain ⟨u', hu', hr'⟩ := hr.get j y hy
      rw [hu] at hu'; cases hu'
      exact RepM.of_rep hr'
  | own k xs =>
    simp only [E.cells?, Option.some.injEq] at hc; subst hc
    have p : Pres (fun L => L ≠ .fly) κ w (κ.re .fly (sp 0)) w := pres_re κ w _ _ _ (by simp)
    obtain ⟨q, cap, rfl, _⟩ := h.1.slice_inv
    refine ⟨κ.re .fly (sp 0), r.pres p (fun L hL e => by subst e; exact hL) (good_re r.sim.good) r.sim.fresh, p, rfl, by simp [Value.cells, Value.oneCell'], fun j u x hu hx => ?_⟩
    cases j with
    | zero =>
      simp [Value.cells] at hu hx; subst hu hx
      exact ⟨h.1.pres p, h.2.re⟩
    | succ j => simp at hx
  | _ => cases hc
end Go.Ab
