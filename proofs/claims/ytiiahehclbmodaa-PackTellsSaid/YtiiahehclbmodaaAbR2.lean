/- Laws of the relation: temporaries, owners, memory. -/
import Derived.Test.YtiiahehclbmodaaAbR
namespace Go.Ab
open Go
set_option linter.unusedVariables false
set_option linter.unusedSimpArgs false
set_option linter.unnecessarySimpa false

theorem lk_map {α β : Type} (f : α → β) (l : List (Nat × α)) (s : Nat) : lk (l.map fun x => (x.1, f x.2)) s = (lk l s).map f := by
  induction l with
  | nil => rfl
  | cons x r ih => obtain ⟨k, e⟩ := x; simp only [List.map_cons, lk]; split <;> simp_all
theorem lk_lset {α : Type} (l : List (Nat × α)) (s t : Nat) (e x : α) (h : lk l s = some x) : lk (lset l s e) t = if t = s then some e else lk l t := by
  induction l with
  | nil => simp [lk] at h
  | cons y r ih =>
    obtain ⟨k, z⟩ := y
    simp only [lset, lk] at *
    by_cases hk : k = s
    · subst hk
      simp only [beq_self_eq_true, if_true, lk]
      by_cases ht : k = t
      · subst ht; simp
      · simp [ht, Ne.symm ht]
    · simp only [beq_iff_eq, hk, if_false] at h
      have := ih h
      simp only [beq_iff_eq, hk, if_false, lk, this]
      by_cases ht : k = t
      · subst ht; simp [hk]
      · simp [ht]

theorem get_map (fr : Fr) (f : E → E) (hf : f .any = .any) (s : Nat) : (fr.map f).get s = f (fr.get s) := by
  rw [Fr.map_def, Fr.get_def, Fr.get_def]
  simp only [lk_map]
  cases lk fr.ps s with
  | some e => rfl
  | none => cases lk fr.ts s with
    | some e => rfl
    | none => simp [hf]
theorem lk_ins {α : Type} (l : List (Nat × α)) (s t : Nat) (e : α) : lk (ins l s e) t = if t = s then some e else lk l t := by
  induction l with
  | nil =>
    simp only [ins, lk]
    by_cases h : s = t
    · subst h; simp
    · simp [h, Ne.symm h]
  | cons y r ih =>
    obtain ⟨k, z⟩ := y
    simp only [ins]
    by_cases hk : k = s
    · subst hk
      simp only [beq_self_eq_true, if_true, lk]
      by_cases ht : k = t
      · subst ht; simp
      · simp [ht, Ne.symm ht]
    · simp only [beq_iff_eq, hk, if_false]
      split
      · simp only [lk, ih]
        by_cases ht : k = t
        · subst ht; simp [hk]
        · simp [ht]
      · simp only [lk]
        by_cases ht : s = t
        · subst ht; simp
        · simp [ht, Ne.symm ht]
theorem get_raw (fr : Fr) (s t : Nat) (e : E) : (fr.raw s e).get t = if t = s then e else fr.get t := by
  rw [Fr.raw_def]
  cases h : lk fr.ps s with
  | some x =>
    simp only [Fr.get_def, lk_lset _ _ _ _ _ h]
    by_cases ht : t = s <;> simp [ht]
  | none =>
    simp only [Fr.get_def, lk_ins]
    by_cases ht : t = s
    · subst ht; simp [h]
    · simp [ht]
theorem get_put (fr : Fr) (s t : Nat) (e : E) : (fr.put s e).get t = if t = s then e.inval (.slot s) else (fr.get t).inval (.slot s) := by
  rw [Fr.put_def]
  rw [get_raw, get_map _ _ rfl]
theorem loc_map (fr : Fr) (f : E → E) (s : Nat) : (fr.map f).loc s = fr.loc s := rfl
theorem loc_raw (fr : Fr) (s t : Nat) (e : E) : (fr.raw s e).loc t = fr.loc t := by
  unfold Fr.raw Fr.loc
  split <;> (try split) <;> rfl
theorem loc_put (fr : Fr) (s t : Nat) (e : E) : (fr.put s e).loc t = fr.loc t := by
  rw [Fr.put_def, loc_raw]; rfl

theorem getD_put (a : Act) (s t : Nat) (v : Value) (hs : s < a.tmps.size) : (a.put (some s) v).tmps.getD t undef = if t = s then v else a.tmps.getD t undef := by
  simp only [Act.put, Array.getD_eq_getD_getElem?, Array.getElem?_setIfInBounds]
  by_cases h : s = t
  · subst h; simp [hs]
  · simp [h, Ne.symm h]
theorem size_put (a : Act) (s : Option Nat) (v : Value) : (a.put s v).tmps.size = a.tmps.size := by
  cases s <;> simp [Act.put]
theorem defers_put (a : Act) (s : Option Nat) (v : Value) : (a.put s v).defers = a.defers := by
  cases s <;> simp [Act.put]

/-! ### relabelling -/
def K.re (κ : K) (p q : Ow) : K := { κ with own := fun b o => if κ.own b o = some p then some q else κ.own b o }

theorem re_none {κ : K} {p q : Ow} {b o : Nat} : (κ.re p q).own b o = none ↔ κ.own b o = none := by
  simp only [K.re]; split <;> simp_all
theorem Imm.re {κ : K} {w : World} {p q : Ow} {b o : Nat} {v : Value} (h : Imm κ w b o v) : Imm (κ.re p q) w b o v := ⟨h.1, re_none.2 h.2⟩
theorem re_other {κ : K} {p q L : Ow} {b o : Nat} (h : κ.own b o = some L) (hL : L ≠ p) : (κ.re p q).own b o = some L := by
  simp only [K.re]; rw [if_neg (by rw [h]; simpa using hL)]; exact h
theorem re_same {κ : K} {p q : Ow} {b o : Nat} (h : κ.own b o = some p) : (κ.re p q).own b o = some q := by
  simp only [K.re]; rw [if_pos h]
theorem pres_re (κ : K) (w : World) (p q : Ow) (S : Ow → Prop) (hp : ¬ S p) : Pres S κ w (κ.re p q) w where
  os := rfl
  tape := rfl
  out := rfl
  size := Nat.le_refl _
  blk := fun _ _ h => h
  imm := fun _ _ _ h => h.re
  lab := fun _ _ _ h hs => ⟨re_other h (fun e => hp (e ▸ hs)), rfl⟩
  sz := fun _ _ _ => rfl
  free := fun _ _ h => ⟨rfl, fun o => re_none.2 (h o)⟩
theorem good_re {κ : K} {w : World} {p q : Ow} (h : Good κ w) : Good (κ.re p q) w := by
  intro b j L hL
  simp only [K.re] at hL
  split at hL
  · rename_i h1; exact h b j p h1
  · exact h b j L hL

/-! ### the spare room -/
theorem Spare.pres {S : Ow → Prop} {κ κ' : K} {w w' : World} (h : Pres S κ w κ' w') {p : Ow} (hs : S p) {k : Nat} {v : Value} : Spare κ p k v → Spare κ' p k v := by
  cases v <;> simp only [Spare, imp_self]
  rintro (h1 | ⟨h1, h2, b, o, ha, h3⟩)
  · exact .inl h1
  · exact .inr ⟨h1, h2, b, o, ha, fun j h4 h5 => (h.lab _ _ _ (h3 j h4 h5) hs).1⟩
theorem Spare.re {κ : K} {p q : Ow} {k : Nat} {v : Value} : Spare κ p k v → Spare (κ.re p q) q k v := by
  cases v <;> simp only [Spare, imp_self]
  rintro (h1 | ⟨h1, h2, b, o, ha, h3⟩)
  · exact .inl h1
  · exact .inr ⟨h1, h2, b, o, ha, fun j h4 h5 => re_same (h3 j h4 h5)⟩
theorem Spare.full {κ : K} {p : Ow} {k : Nat} {a : Option Addr} {n : Nat} : Spare κ p k (.slice a n n) := .inl rfl

theorem RepM.pres {S : Ow → Prop} {κ κ' : K} {w w' : World} (h : Pres S κ w κ' w') {p : Ow} (hs : S p) {v : Value} {x : V} (r : RepM κ w p v x) : RepM κ' w' p v x := by
  cases x <;> simp only [RepM] at r ⊢ <;> first | exact r.pres h | exact ⟨r.1.pres h, r.2.pres h hs⟩
theorem RepM.of_rep {κ : K} {w : World} {p : Ow} {v : Value} {x : V} (r : Rep κ w v x) : RepM κ w p v x := by
  cases x <;> simp only [RepM] <;> try exact r
  cases r with
  | osl h => exact ⟨h, .full⟩

theorem cellsAre.pres {S : Ow → Prop} {κ κ' : K} {w w' : World} (h : Pres S κ w κ' w') {b : Nat} {who : Ow} {sp : Nat → Ow} {cs : List V} (h1 : S who) (h2 : ∀ j, S (sp j)) (c : cellsAre κ w b who sp cs) : cellsAre κ' w' b who sp cs := by
  intro j x hx
  obtain ⟨ho, v, hv, r⟩ := c j x hx
  obtain ⟨ho', hc⟩ := h.lab _ _ _ ho h1
  exact ⟨ho', v, hc.trans hv, r.pres h (h2 j)⟩

/-- The owners that a frame at depth `d` and the state speak of. -/
def Mine (d : Nat) (L : Ow) : Prop :=
  match L with
  | .obj _ => True
  | .mem _ _ => True
  | .tmp e _ => e = d
  | .loc e _ => e = d
  | .lsp e _ _ => e = d
  | .fly => False

theorem Sim.pres {S : Ow → Prop} {κ κ' : K} {w w' : World} {st : St} (h : Pres S κ w κ' w') (g : Good κ' w') (f : ∀ id, st.objs.length ≤ id → κ'.blk id = none)
    (h1 : ∀ id, S (.obj id)) (h2 : ∀ id off, S (.mem id off)) (s : Sim κ w st) : Sim κ' w' st where
  wple := s.wple
  good := g
  fresh := f
  obj := fun id cs hc => let ⟨b, hb, c⟩ := s.obj id cs hc; ⟨b, h.blk _ _ hb, c.pres h (h1 id) (fun j => h2 id j)⟩
  room := Room.pres s h (fun id _ => h1 id)


theorem RepE.pres {S : Ow → Prop} {d : Nat} {κ κ' : K} {w w' : World} {lam : Lam} {fr : Fr} {st : St} {tmps : Array Value} {s : Nat} {v : Value} {e : E}
    (h : Pres S κ w κ' w') (ht : S (.tmp d s))
    (hm : ∀ id cs off x b, st.obj id = some cs → cs[off]? = some x → κ.blk id = some b → w'.cell? (at_ b off) = w.cell? (at_ b off))
    (hl : ∀ t cs off x b, fr.loc t = some cs → cs[off]? = some x → lam t = some b → w'.cell? (at_ b off) = w.cell? (at_ b off))
    (r : RepE d κ w lam fr st tmps s v e) : RepE d κ' w' lam fr st tmps s v e := by
  cases e with
  | any => trivial
  | val x => exact Rep.pres h r
  | lp t off => exact r
  | own k xs => exact ⟨r.1.pres h, r.2.pres h ht⟩
  | bor k xs p =>
    cases p with
    | slot t => exact ⟨r.1.pres h, r.2⟩
    | mem id off =>
      obtain ⟨r1, cs, b, e1, e2, e3, e4⟩ := r
      exact ⟨r1.pres h, cs, b, e1, e2, h.blk _ _ e3, (hm id cs off _ b e1 e2 e3).trans e4⟩
    | loc t off =>
      obtain ⟨r1, cs, b, e1, e2, e3, e4⟩ := r
      exact ⟨r1.pres h, cs, b, e1, e2, e3, (hl t cs off _ b e1 e2 e3).trans e4⟩

theorem Sim.cellEq {S : Ow → Prop} {κ κ' : K} {w w' : World} {st : St} (h : Pres S κ w κ' w') (s : Sim κ w st) (h1 : ∀ id, S (.obj id))
    (id : Nat) (cs : List V) (off : Nat) (x : V) (b : Nat) (e1 : st.obj id = some cs) (e2 : cs[off]? = some x) (e3 : κ.blk id = some b) :
    w'.cell? (at_ b off) = w.cell? (at_ b off) := by
  obtain ⟨b', hb, c⟩ := s.obj id cs e1
  rw [e3] at hb; cases hb
  exact (h.lab _ _ _ (c off x e2).1 (h1 id)).2

theorem Fm.cellEq {S : Ow → Prop} {d n : Nat} {κ κ' : K} {w w' : World} {lam : Lam} {fr : Fr} {st : St} {a : Act} (h : Pres S κ w κ' w') (f : Fm d n κ w lam fr st a)
    (h1 : ∀ s, S (.loc d s)) (t : Nat) (cs : List V) (off : Nat) (x : V) (b : Nat) (e1 : fr.loc t = some cs) (e2 : cs[off]? = some x) (e3 : lam t = some b) :
    w'.cell? (at_ b off) = w.cell? (at_ b off) := by
  obtain ⟨b', hb, c⟩ := f.loc t cs e1
  rw [e3] at hb; cases hb
  exact (h.lab _ _ _ (c off x e2).1 (h1 t)).2

theorem R.pres {S : Ow → Prop} {d n : Nat} {κ κ' : K} {w w' : World} {lam : Lam} {fr : Fr} {st : St} {a : Act} (h : Pres S κ w κ' w')
    (hS : ∀ L, Mine d L → S L) (g : Good κ' w') (f : ∀ id, st.objs.length ≤ id → κ'.blk id = none) (r : R d n κ w lam fr st a) : R d n κ' w' lam fr st a where
  sim := r.sim.pres h g f (fun id => hS _ trivial) (fun id off => hS _ trivial)
  fm := {
    defers := r.fm.defers
    size := r.fm.size
    tmp := fun s => (r.fm.tmp s).pres h (hS _ rfl) (r.sim.cellEq h fun id => hS _ trivial) (r.fm.cellEq h fun s => hS _ rfl)
    loc := fun s cs hc => let ⟨b, hb, c⟩ := r.fm.loc s cs hc; ⟨b, hb, c.pres h (hS _ rfl) (fun _ => hS _ rfl)⟩ }

/-- The value of an entry, given that the entries around it are there. -/
theorem RepV.mk {d n : Nat} {κ : K} {w : World} {lam : Lam} {fr : Fr} {st : St} {a : Act} (r : R d n κ w lam fr st a) (s : Nat) (hn : ∀ k xs, fr.get s ≠ .own k xs) :
    RepV κ w lam fr st a.tmps (a.tmps.getD s undef) (fr.get s) := by
  have h := r.fm.tmp s
  generalize fr.get s = e at *
  cases e with
  | own k xs => exact absurd rfl (hn k xs)
  | bor k xs p => cases p <;> exact h
  | _ => exact h

theorem R.put {d n : Nat} {κ : K} {w : World} {lam : Lam} {fr : Fr} {st : St} {a : Act} (r : R d n κ w lam fr st a) {s : Nat} (hs : s < n) {e : E} {v : Value}
    (hv : RepV κ w lam fr st a.tmps v e) : ∃ κ', R d n κ' w lam (fr.put s e) st (a.put (some s) v) ∧ Pres (fun L => L ≠ .fly) κ w κ' w := by
  have hp : Pres (fun L => L ≠ .fly) κ w (κ.re .fly (.tmp d s)) w := pres_re _ _ _ _ _ (by simp)
  have r' : R d n (κ.re .fly (.tmp d s)) w lam fr st a := r.pres hp (fun L hL => by rintro rfl; exact hL) (good_re r.sim.good) r.sim.fresh
  refine ⟨_, ⟨{ r'.sim with }, ⟨by rw [defers_put]; exact r.fm.defers, by rw [size_put]; exact r.fm.size, fun t => ?_, fun t cs hc => ?_⟩⟩, hp⟩
  · have hsz : s < a.tmps.size := by rw [r.fm.size]; exact hs
    rw [get_put, getD_put _ _ _ _ hsz]
    by_cases ht : t = s
    · subst ht
      simp only [if_true]
      cases e with
      | any => trivial
      | val x => exact Rep.pres hp hv
      | lp u off => exact hv
      | own k xs => exact ⟨hv.1.pres hp, hv.2.re⟩
      | bor k xs p =>
        cases p with
        | slot u =>
          simp only [E.inval]
          split
          · exact hv.1.pres hp
          · rename_i hne
            have hne' : u ≠ t := fun h => hne (by rw [h])
            refine ⟨hv.1.pres hp, ?_, ?_⟩
            · rw [get_put, if_neg hne', hv.2.1]; rfl
            · rw [getD_put _ _ _ _ hsz, if_neg hne']; exact hv.2.2
        | mem id off =>
          simp only [E.inval, reduceCtorEq, if_false]
          obtain ⟨r1, cs, b, e1, e2, e3, e4⟩ := hv
          exact ⟨r1.pres hp, cs, b, e1, e2, e3, e4⟩
        | loc u off =>
          simp only [E.inval, reduceCtorEq, if_false]
          obtain ⟨r1, cs, b, e1, e2, e3, e4⟩ := hv
          exact ⟨r1.pres hp, cs, b, by rw [loc_put]; exact e1, e2, e3, e4⟩
    · simp only [if_neg ht]
      have h := r'.fm.tmp t
      generalize he : fr.get t = e' at *
      cases e' with
      | any => trivial
      | val x => exact h
      | lp u off => exact h
      | own k xs => exact h
      | bor k xs p =>
        cases p with
        | slot u =>
          simp only [E.inval]
          split
          · exact h.1
          · rename_i hne
            have hne' : u ≠ s := fun h => hne (by rw [h])
            refine ⟨h.1, ?_, ?_⟩
            · rw [get_put, if_neg hne', h.2.1]; rfl
            · rw [getD_put _ _ _ _ hsz, if_neg hne']; exact h.2.2
        | mem id off => exact h
        | loc u off =>
          obtain ⟨r1, cs, b, e1, e2, e3, e4⟩ := h
          exact ⟨r1, cs, b, by rw [loc_put]; exact e1, e2, e3, e4⟩
  · rw [loc_put] at hc
    exact r'.fm.loc t cs hc
end Go.Ab
