/- Operations that make memory, or write it. -/
import Derived.Test.YtiiahehclbmodaaAbW
namespace Go.Ab
open Go
set_option linter.unusedVariables false
set_option linter.unusedSimpArgs false
set_option linter.unnecessarySimpa false

variable {P : Program} {d n : Nat} {κ : K} {w : World} {lam : Lam} {fr : Fr} {st : St} {a : Act} {o : Oper}

theorem RepV.pres' {S : Ow → Prop} {κ' : K} {w' : World} {tmps : Array Value} {v : Value} {x : V} (p : Pres S κ w κ' w') (h : Rep κ w v x) : RepV κ' w' lam fr st tmps v (.val x) := h.pres p

/-- A variable that the frame keeps to itself. -/
theorem local_ok (r : R d n κ w lam fr st a) (s : Nat) (c : Array Value) (t : TypeId) (cs : List V) (hr : Reps κ w c.toList cs) :
    ∃ κ' lam', R d n κ' (w.alloc (.cells c t)) lam' { fr.map (E.noLp s) with lc := (s, cs) :: fr.lc.filter (fun x => !(x.1 == s)) } st a ∧
      RepV κ' (w.alloc (.cells c t)) lam' { fr.map (E.noLp s) with lc := (s, cs) :: fr.lc.filter (fun x => !(x.1 == s)) } st a.tmps (.pointer (some (at_ w.heap.size 0))) (.lp s 0) ∧
      Pres (Keep d st.wp) κ w κ' (w.alloc (.cells c t)) := by
  let lab : Nat → Option Ow := fun o => if o < c.size then some (.loc d s) else none
  have hp : ∀ S, Pres S κ w (κ.new w.heap.size lab) (w.alloc (.cells c t)) := fun S => pres_new S r.sim.good _ _
  have hg : Good (κ.new w.heap.size lab) (w.alloc (.cells c t)) := good_new r.sim.good c t (fun o L h => by
    simp only [lab] at h; split at h
    · assumption
    · cases h)
  have r' : R d n (κ.new w.heap.size lab) (w.alloc (.cells c t)) lam fr st a := r.pres (hp fun _ => True) (fun _ _ => trivial) hg r.sim.fresh
  let lam' : Lam := fun u => if u = s then some w.heap.size else lam u
  refine ⟨_, lam', ⟨r'.sim, ⟨r'.fm.defers, r'.fm.size, fun u => ?_, fun u cs' hc => ?_⟩⟩, ⟨w.heap.size, by simp [lam'], rfl⟩, hp _⟩
  · have hget : ∀ v, Fr.get { fr.map (E.noLp s) with lc := (s, cs) :: fr.lc.filter (fun x => !(x.1 == s)) } v = E.noLp s (fr.get v) := fun v => get_map fr _ rfl v
    rw [hget]
    have h1 := r'.fm.tmp u
    generalize hv : a.tmps.getD u undef = v at h1 ⊢
    generalize he : fr.get u = e at h1 ⊢
    cases e with
    | any => trivial
    | val x => exact h1
    | lp t' o =>
      simp only [E.noLp]
      split
      · trivial
      · rename_i hne
        obtain ⟨b, hb, e2⟩ := h1
        exact ⟨b, by simp only [lam']; rw [if_neg (by simpa using hne)]; exact hb, e2⟩
    | own k xs => exact h1
    | bor k xs q =>
      cases q with
      | slot t' => exact ⟨h1.1, by rw [hget, h1.2.1]; rfl, h1.2.2⟩
      | mem id o => exact h1
      | loc t' o =>
        simp only [E.noLp]
        split
        · exact h1.1
        · rename_i hne
          have hne' : t' ≠ s := by simpa using hne
          obtain ⟨r1, cs', b, e1, e2, e3, e4⟩ := h1
          refine ⟨r1, cs', b, ?_, e2, by simp only [lam']; rw [if_neg hne']; exact e3, e4⟩
          simp only [Fr.loc_def, lk, beq_iff_eq, Ne.symm hne', if_false]
          have : ∀ l : List (Nat × List V), lk (l.filter fun x => !(x.1 == s)) t' = lk l t' := by
            intro l
            induction l with
            | nil => rfl
            | cons y r ih =>
              obtain ⟨k, z⟩ := y
              simp only [List.filter_cons, lk]
              by_cases hk : k = s
              · subst hk; simp [Ne.symm hne', ih]
              · simp only [beq_iff_eq, hk, Bool.not_eq_true', decide_eq_false_iff_not, not_false_eq_true, lk]
                simp [hk, lk, ih]
          rw [this]; exact (Fr.loc_def fr t').symm.trans e1
  · simp only [Fr.loc_def, lk] at hc
    by_cases hu : u = s
    · subst hu
      simp only [beq_self_eq_true, if_true, Option.some.injEq] at hc
      subst hc
      refine ⟨w.heap.size, by simp [lam'], fun j x hx => ?_⟩
      obtain ⟨v, hv, hrv⟩ := hr.get j x hx
      have hj : j < c.size := by
        have := (List.getElem?_eq_some_iff.1 hv).1; simpa using this
      refine ⟨by simp only [K.new, if_true, lab]; rw [if_pos hj], v, by rw [cell_new, ← Array.getElem?_toList]; exact hv, RepM.of_rep (hrv.pres (hp fun _ => True))⟩
    · have hne : (s == u) = false := by simpa using Ne.symm hu
      simp only [hne, Bool.false_eq_true, if_false] at hc
      have : ∀ l : List (Nat × List V), lk (l.filter fun x => !(x.1 == s)) u = lk l u := by
        intro l
        induction l with
        | nil => rfl
        | cons y r ih =>
          obtain ⟨k, z⟩ := y
          simp only [List.filter_cons, lk]
          by_cases hk : k = s
          · subst hk; simp [Ne.symm hu, ih]
          · simp [hk, lk, ih]
      rw [this] at hc
      obtain ⟨b, hb, cc⟩ := r'.fm.loc u cs' ((Fr.loc_def fr u).trans hc)
      exact ⟨b, by simp only [lam']; rw [if_neg hu]; exact hb, cc⟩

/-- A variable of the state's, with room behind it. -/
theorem object_gen (r : R d n κ w lam fr st a) (c : Array Value) (t : TypeId) {vs : List Value} (cs : List V) (hr : Reps κ w vs cs) (hcv : ∀ (j : Nat) v, vs[j]? = some v → c[j]? = some v) :
    ∃ κ', R d n κ' (w.alloc (.cells c t)) lam fr { st with objs := st.objs ++ [cs] } a ∧ κ'.blk st.objs.length = some w.heap.size ∧
      Pres (Keep d st.wp) κ w κ' (w.alloc (.cells c t)) := by
  let lab : Nat → Option Ow := fun o => if o < c.size then some (.obj st.objs.length) else none
  let κ1 := κ.new w.heap.size lab
  let κ' : K := { κ1 with blk := fun id => if id = st.objs.length then some w.heap.size else κ.blk id }
  have hp1 : ∀ S, Pres S κ w κ1 (w.alloc (.cells c t)) := fun S => pres_new S r.sim.good _ _
  have hp2 : ∀ S, Pres S κ1 (w.alloc (.cells c t)) κ' (w.alloc (.cells c t)) := fun S => {
    os := rfl
    tape := rfl
    out := rfl
    size := Nat.le_refl _
    blk := fun id b h => by
      simp only [κ']
      split
      · rename_i he
        have := r.sim.fresh id (by omega)
        rw [show κ1.blk id = κ.blk id from rfl, this] at h; cases h
      · exact h
    imm := fun b o v h => h
    lab := fun b o L h _ => ⟨h, rfl⟩
    sz := fun _ _ _ => rfl
    free := fun b _ h => ⟨rfl, h⟩ }
  have hp : ∀ S, Pres S κ w κ' (w.alloc (.cells c t)) := fun S => (hp1 S).trans (hp2 S)
  have hg : Good κ' (w.alloc (.cells c t)) := good_new (lab := lab) r.sim.good c t (fun o L h => by
    simp only [lab] at h; split at h
    · assumption
    · cases h)
  have hobj : ∀ id cs', St.obj { st with objs := st.objs ++ [cs] } id = some cs' → (id < st.objs.length ∧ st.obj id = some cs') ∨ (id = st.objs.length ∧ cs' = cs) := by
    intro id cs' h
    simp only [St.obj] at h ⊢
    rcases Nat.lt_trichotomy id st.objs.length with h1 | h1 | h1
    · rw [List.getElem?_append_left h1] at h; exact .inl ⟨h1, h⟩
    · subst h1; simp at h; exact .inr ⟨rfl, h.symm⟩
    · rw [List.getElem?_eq_none (by simp; omega)] at h; cases h
  have hold : ∀ id cs', st.obj id = some cs' → St.obj { st with objs := st.objs ++ [cs] } id = some cs' := by
    intro id cs' h
    simp only [St.obj] at h ⊢
    rw [List.getElem?_append_left (List.getElem?_eq_some_iff.1 h).1]; exact h
  have hsim : Sim κ' (w.alloc (.cells c t)) { st with objs := st.objs ++ [cs] } := by
    refine ⟨by have := r.sim.wple; simp; omega, hg, fun id hid => ?_, fun id cs' h => ?_, fun id cs' b' h hne hb2 => ?_⟩
    · simp only [List.length_append, List.length_cons, List.length_nil] at hid
      simp only [κ']
      rw [if_neg (by omega)]
      exact r.sim.fresh id (by omega)
    · rcases hobj id cs' h with ⟨h1, h2⟩ | ⟨rfl, rfl⟩
      · obtain ⟨b, hb, cc⟩ := r.sim.obj id cs' h2
        exact ⟨b, (hp fun _ => True).blk _ _ hb, cc.pres (hp fun _ => True) trivial (fun _ => trivial)⟩
      · refine ⟨w.heap.size, by simp [κ'], fun j x hx => ?_⟩
        obtain ⟨v, hv, hrv⟩ := hr.get j x hx
        have hj : j < c.size := (Array.getElem?_eq_some_iff.1 (hcv j v hv)).1
        refine ⟨?_, v, by rw [cell_new]; exact hcv j v hv, RepM.of_rep (hrv.pres (hp fun _ => True))⟩
        show (if w.heap.size = w.heap.size then lab j else _) = _
        simp only [if_true, lab]; rw [if_pos hj]
    · rcases hobj id cs' h with ⟨h1, h2⟩ | ⟨rfl, rfl⟩
      · exact Room.step r.sim (hp fun _ => True) id h2 rfl hne hb2 (fun b j hl => ((hp fun _ => True).lab b j _ hl trivial).1)
      · intro j hj hc
        simp only [κ', if_true, Option.some.injEq] at hb2
        subst hb2
        rw [cell_new] at hc
        have hj : j < c.size := by
          rcases Nat.lt_or_ge j c.size with h | h
          · exact h
          · rw [Array.getElem?_eq_none h] at hc; cases hc
        show (if w.heap.size = w.heap.size then lab j else _) = _
        simp only [if_true, lab]; rw [if_pos hj]
  refine ⟨κ', r.entries (hp fun _ => True) (fun s => ?_) (fun s cs' hc => ?_) hsim, by simp [κ'], hp _⟩
  · have h1 := r.fm.tmp s
    generalize hv : a.tmps.getD s undef = v at h1 ⊢
    generalize he : fr.get s = e at h1 ⊢
    have h2 := h1.pres (hp fun _ => True) trivial (fun id cs off x b e1 e2 e3 => r.sim.cellEq (hp fun _ => True) (fun _ => trivial) id cs off x b e1 e2 e3)
      (fun t cs off x b e1 e2 e3 => r.fm.cellEq (hp fun _ => True) (fun _ => trivial) t cs off x b e1 e2 e3)
    cases e with
    | bor k xs q =>
      cases q with
      | mem id off =>
        obtain ⟨r1, cs', b, e1, e2⟩ := h2
        exact ⟨r1, cs', b, hold _ _ e1, e2⟩
      | slot t => exact h2
      | loc t o => exact h2
    | _ => exact h2
  · obtain ⟨b, hb, cc⟩ := r.fm.loc s cs' hc
    exact ⟨b, hb, cc.pres (hp fun _ => True) trivial (fun _ => trivial)⟩

/-- A variable of the state's. -/
theorem object_ok (r : R d n κ w lam fr st a) (c : Array Value) (t : TypeId) (cs : List V) (hr : Reps κ w c.toList cs) :
    ∃ κ', R d n κ' (w.alloc (.cells c t)) lam fr { st with objs := st.objs ++ [cs] } a ∧
      RepV κ' (w.alloc (.cells c t)) lam fr { st with objs := st.objs ++ [cs] } a.tmps (.pointer (some (at_ w.heap.size 0))) (.val (.ptr st.objs.length 0)) ∧
      Pres (Keep d st.wp) κ w κ' (w.alloc (.cells c t)) := by
  obtain ⟨κ', h1, h2, h3⟩ := object_gen r c t cs hr (fun j v hv => by rw [← Array.getElem?_toList]; exact hv)
  exact ⟨κ', h1, .ptr h2, h3⟩
end Go.Ab
