/- Regions whose order is drawn: every order does what the order of the text does. -/
import Derived.Test.YtiiahehclbmodaaAbI
namespace Go.Ab
open Go
set_option linter.unusedVariables false
set_option linter.unusedSimpArgs false
set_option linter.unnecessarySimpa false

variable {P : Program} {d n : Nat} {κ : K} {w : World} {lam : Lam} {fr fr' : Fr} {st : St} {a : Act} {o : Oper}

def Eqv (fr fr' : Fr) : Prop := (∀ s, fr.get s = fr'.get s) ∧ fr.loc = fr'.loc
def NoBor (fr : Fr) : Prop := ∀ s, (fr.get s).calm = fr.get s

theorem calm_calm (e : E) : e.calm.calm = e.calm := by cases e <;> rfl
theorem still_calm (e : E) : e.still.calm = e.still := by cases e <;> rfl
theorem inval_calm {e : E} (h : e.calm = e) (p : Pl) : e.inval p = e := by
  cases e with
  | bor k xs q => cases h
  | _ => rfl
theorem get_putO (h : NoBor fr) {e : E} (he : e.calm = e) (dst : Option Nat) (t : Nat) : (fr.putO dst e).get t = if dst = some t then e else fr.get t := by
  cases dst with
  | none => simp [Fr.putO]
  | some s =>
    simp only [Fr.putO, get_put, Option.some.injEq]
    by_cases ht : t = s
    · subst ht; simp [inval_calm he]
    · rw [if_neg ht, if_neg (Ne.symm ht), inval_calm (h t)]
theorem loc_putO (dst : Option Nat) (e : E) : (fr.putO dst e).loc = fr.loc := by
  cases dst with
  | none => rfl
  | some s => funext t; exact loc_put fr s t e
theorem NoBor.put (h : NoBor fr) {e : E} (he : e.calm = e) (dst : Option Nat) : NoBor (fr.putO dst e) := by
  intro t
  rw [get_putO h he]
  split
  · exact he
  · exact h t
theorem Eqv.put (h : NoBor fr) (h' : NoBor fr') (q : Eqv fr fr') {e : E} (he : e.calm = e) (dst : Option Nat) : Eqv (fr.putO dst e) (fr'.putO dst e) := by
  refine ⟨fun t => ?_, by rw [loc_putO, loc_putO]; exact q.2⟩
  rw [get_putO h he, get_putO h' he, q.1 t]
theorem put_comm (h : NoBor fr) {e f : E} (he : e.calm = e) (hf : f.calm = f) {x y : Option Nat} (hxy : ∀ s, x = some s → y ≠ some s) : Eqv ((fr.putO x e).putO y f) ((fr.putO y f).putO x e) := by
  refine ⟨fun t => ?_, by rw [loc_putO, loc_putO, loc_putO, loc_putO]⟩
  rw [get_putO (h.put he x) hf, get_putO h he, get_putO (h.put hf y) he, get_putO h hf]
  by_cases h1 : x = some t
  · rw [if_neg (hxy t h1), if_pos h1, if_pos h1]
  · rw [if_neg h1, if_neg h1]

section
variable (g : G) (fi : FI) (call : Calling) (ops : Array Oper) (st : St)
/-- What an operation yields. -/
def Yld (o : Oper) (e : E) (fr : Fr) : Prop :=
  (wantedE ops.toList o fr = some true ∧ stepQ g fi call fr st o = some e) ∨ (wantedE ops.toList o fr = some false ∧ e = .any)
def aOp (i : Nat) (K : Fr → Prop) (fr : Fr) : Prop :=
  match ops[i]? with
  | none => K fr
  | some o => ∃ e, Yld g fi call ops st o e fr ∧ K (fr.putO o.dst e)
def anyA (Q : Fr → Prop) : Nat → Array Bool → Fr → Prop
  | 0, listed, fr => Region.ready .any ops listed = [] ∧ Q fr
  | fuel + 1, listed, fr => (Region.ready .any ops listed = [] → Q fr) ∧ ∀ i ∈ Region.ready .any ops listed, aOp g fi call ops st i (anyA Q fuel (listed.setIfInBounds i true)) fr
end

section
variable {g : G} {fi : FI} {call : Calling} {ops : Array Oper}

theorem stepQ_calm {e : E} (h : stepQ g fi call fr st o = some e) : e.calm = e := by
  unfold stepQ at h
  split at h
  · cases h; exact still_calm _
  · cases h; exact still_calm _
  · split at h
    · split at h
      · cases h; exact calm_calm _
      · cases h
    · cases h
theorem Yld.calm {e : E} (h : Yld g fi call ops st o e fr) : e.calm = e := by
  rcases h with ⟨_, h⟩ | ⟨_, rfl⟩
  · exact stepQ_calm h
  · rfl
theorem Yld.congr {e : E} (h : Yld g fi call ops st o e fr) (hs : ∀ t ∈ o.looksAt ops, fr.get t = fr'.get t) (hl : fr.loc = fr'.loc) : Yld g fi call ops st o e fr' := by
  have h1 : ∀ x ∈ o.op.operands, fr.op x = fr'.op x := by
    intro x hx
    cases x with
    | tmp t => exact hs t (by unfold Oper.looksAt; exact List.mem_append_left _ (List.mem_filterMap.2 ⟨.tmp t, by simpa using hx, rfl⟩))
    | _ => rfl
  have h2 : wantedE ops.toList o fr = wantedE ops.toList o fr' := by
    unfold wantedE
    cases hg : o.guard with
    | none => rfl
    | some jw =>
      obtain ⟨j, want⟩ := jw
      simp only
      cases hd : (ops.toList[j]?).bind (·.dst) with
      | none => rfl
      | some t =>
        have : t ∈ o.looksAt ops := by
          unfold Oper.looksAt
          refine List.mem_append_right _ ?_
          rw [hg]
          have hd' : (ops[j]?).bind (·.dst) = some t := by rw [← Array.getElem?_toList]; exact hd
          simp only [hd']; simp
        simp only [hs t this]
  unfold Yld at *
  rw [← h2, ← stepQ_congr h1 hl]
  exact h

theorem any_resp {Q : Fr → Prop} (hQ : ∀ fr fr', Eqv fr fr' → NoBor fr → NoBor fr' → Q fr → Q fr') : ∀ (fuel : Nat) (listed : Array Bool) (fr fr' : Fr), Eqv fr fr' → NoBor fr → NoBor fr' → anyA g fi call ops st Q fuel listed fr → anyA g fi call ops st Q fuel listed fr'
  | 0, _, fr, fr', q, b, b', h => ⟨h.1, hQ fr fr' q b b' h.2⟩
  | fuel + 1, listed, fr, fr', q, b, b', h => by
    refine ⟨fun h0 => hQ fr fr' q b b' (h.1 h0), fun i hi => ?_⟩
    have h1 := h.2 i hi
    unfold aOp at *
    split
    · rename_i ho
      simp only [ho] at h1
      exact any_resp hQ fuel _ fr fr' q b b' h1
    · rename_i o ho
      simp only [ho] at h1
      obtain ⟨e, y, h2⟩ := h1
      exact ⟨e, y.congr (fun t _ => q.1 t) q.2, any_resp hQ fuel _ _ _ (q.put b b' y.calm _) (b.put y.calm _) (b'.put y.calm _) h2⟩

theorem aOp_mono {i : Nat} {K K' : Fr → Prop} (b : NoBor fr) (h : ∀ fr, NoBor fr → K fr → K' fr) (hh : aOp g fi call ops st i K fr) : aOp g fi call ops st i K' fr := by
  unfold aOp at *
  split
  · rename_i ho; simp only [ho] at hh; exact h _ b hh
  · rename_i o ho
    simp only [ho] at hh
    obtain ⟨e, y, hk⟩ := hh
    exact ⟨e, y, h _ (b.put y.calm _) hk⟩

theorem aOp_put {j : Nat} {oi oj : Oper} {v : E} (hj : ops[j]? = some oj) (hap : oi.apart ops oj = true) {K : Fr → Prop} (hK : ∀ fr fr', Eqv fr fr' → NoBor fr → NoBor fr' → K fr → K fr') (b : NoBor fr)
    (hy : Yld g fi call ops st oi v fr) (h : aOp g fi call ops st j K (fr.putO oi.dst v)) : aOp g fi call ops st j (fun fr' => Yld g fi call ops st oi v fr' ∧ K (fr'.putO oi.dst v)) fr := by
  obtain ⟨h1, h2, h3⟩ := Oper.apart_spec hap
  unfold aOp at *
  simp only [hj] at *
  obtain ⟨e, y, hk⟩ := h
  have hv := hy.calm
  have y' : Yld g fi call ops st oj e fr := y.congr (fun t ht => by
    rw [get_putO b hv, if_neg]
    intro he
    exact h1 t he ht) (loc_putO _ _)
  refine ⟨e, y', hy.congr (fun t ht => ?_) (loc_putO _ _).symm, hK _ _ (put_comm b hv y.calm h2) ((b.put hv _).put y.calm _) ((b.put y.calm _).put hv _) hk⟩
  rw [get_putO b y'.calm, if_neg]
  intro he
  exact h3 t he ht

theorem any_first {Q : Fr → Prop} (hQ : ∀ fr fr', Eqv fr fr' → NoBor fr → NoBor fr' → Q fr → Q fr') {i : Nat} {oi : Oper} {v : E} (hi : ops[i]? = some oi) :
    ∀ (fuel : Nat) (listed : Array Bool) (fr : Fr), NoBor fr →
      (∀ j oj, ops[j]? = some oj → j ≠ i → listed.getD j true = false → (∀ e ∈ oj.after, Region.binds .any e = true → e.on ≠ i) → oi.apart ops oj = true) →
      i ∈ Region.ready .any ops listed → Yld g fi call ops st oi v fr →
      anyA g fi call ops st Q fuel (listed.setIfInBounds i true) (fr.putO oi.dst v) → anyA g fi call ops st Q (fuel + 1) listed fr := by
  intro fuel
  induction fuel with
  | zero =>
    intro listed fr b _ hr hy H
    refine ⟨fun h => (by rw [h] at hr; cases hr), fun j hj => ?_⟩
    by_cases hji : j = i
    · subst hji; unfold aOp; simp only [hi]; exact ⟨v, hy, H⟩
    · have := ready_mono hj hji
      rw [H.1] at this
      cases this
  | succ fuel ih =>
    intro listed fr b hfree hr hy H
    refine ⟨fun h => (by rw [h] at hr; cases hr), fun j hj => ?_⟩
    by_cases hji : j = i
    · subst hji; unfold aOp; simp only [hi]; exact ⟨v, hy, H⟩
    · have h1 := H.2 j (ready_mono hj hji)
      obtain ⟨hjun, oj, hoj, hall⟩ := mem_ready.1 hj
      have hnot : ∀ e ∈ oj.after, Region.binds .any e = true → e.on ≠ i := fun e he hb heq => by
        have h1 := hall e he hb
        have h0 := (mem_ready.1 hr).1
        rw [heq] at h1
        rcases Nat.lt_or_ge i listed.size with h' | h'
        · simp [h'] at h0 h1; rw [h0] at h1; cases h1
        · simp [Array.getElem?_eq_none h'] at h1
      have h2 := aOp_put hoj (hfree j oj hoj hji hjun hnot) (any_resp hQ fuel _) b hy h1
      have hfree' : ∀ k ok, ops[k]? = some ok → k ≠ i → (listed.setIfInBounds j true).getD k true = false →
          (∀ e ∈ ok.after, Region.binds .any e = true → e.on ≠ i) → oi.apart ops ok = true := fun k ok hk hki hun hno => by
        refine hfree k ok hk hki ?_ hno
        by_cases hjk : j = k
        · subst hjk; exact hjun
        · rw [getD_set_ne true hjk] at hun; exact hun
      refine aOp_mono b (fun fr' b' h3 => ih (listed.setIfInBounds j true) fr' b' hfree' (ready_mono hr (Ne.symm hji)) h3.1 ?_) h2
      rw [Array.setIfInBounds_comm _ _ hji]
      exact h3.2

theorem any_lex {Q : Fr → Prop} (hQ : ∀ fr fr', Eqv fr fr' → NoBor fr → NoBor fr' → Q fr → Q fr') : ∀ (l : List Oper) (k : Nat) (listed : Array Bool) (fr out : Fr), NoBor fr → (∀ (j : Nat), l[j]? = ops[k + j]?) →
    Region.lexFrom .any ops l.length k listed = true → evalDraw g fi call ops.toList st l fr = some out → Q out → anyA g fi call ops st Q l.length listed fr
  | [], _, _, _, _, _, _, hB, h, q => by
    simp only [evalDraw, Option.some.injEq] at h; subst h
    exact ⟨by simpa [Region.lexFrom] using hB, q⟩
  | o :: l, k, listed, fr, out, b, hl, hB, h, q => by
    have h0 : ops[k]? = some o := by simpa using (hl 0).symm
    simp only [List.length_cons, Region.lexFrom, Bool.and_eq_true] at hB
    obtain ⟨⟨hr, hf⟩, hB'⟩ := hB
    have : ∃ e, Yld g fi call ops st o e fr ∧ evalDraw g fi call ops.toList st l (fr.putO o.dst e) = some out := by
      unfold evalDraw at h
      split at h
      · rename_i hw
        split at h
        · rename_i e he
          exact ⟨e, .inl ⟨hw, he⟩, h⟩
        · cases h
      · rename_i hw
        exact ⟨.any, .inr ⟨hw, rfl⟩, h⟩
      · cases h
    obtain ⟨e, hy, hK⟩ := this
    exact any_first hQ h0 l.length listed fr b (Region.free_spec h0 hf) (by simpa using hr) hy
      (any_lex hQ l (k + 1) _ _ out (b.put hy.calm _) (fun j => by have := hl (j + 1); simpa [Nat.add_assoc, Nat.add_comm 1 j] using this) hB' hK q)

theorem R.eqv (r : R d n κ w lam fr st a) (q : Eqv fr fr') : R d n κ w lam fr' st a where
  sim := r.sim
  fm := {
    defers := r.fm.defers
    size := r.fm.size
    tmp := fun s => by
      have h := r.fm.tmp s
      rw [q.1 s] at h
      generalize a.tmps.getD s undef = v at *
      generalize fr'.get s = e at *
      cases e with
      | bor k xs p =>
        cases p with
        | slot t => exact ⟨h.1, by rw [← q.1 t]; exact h.2.1, h.2.2⟩
        | mem id off => exact h
        | loc t off =>
          obtain ⟨r1, cs, b, e1, e2⟩ := h
          exact ⟨r1, cs, b, by rw [← q.2]; exact e1, e2⟩
      | _ => exact h
    loc := fun s cs hc => r.fm.loc s cs (by rw [q.2]; exact hc) }

theorem get_clear (s : Nat) : fr.clear.get s = (fr.get s).calm ∨ fr.clear.get s = .any := by
  unfold Fr.clear Fr.get
  simp only [lk_map]
  cases lk fr.ps s with
  | some e => exact .inl rfl
  | none => exact .inr rfl
theorem R.clear (r : R d n κ w lam fr st a) : R d n κ w lam fr.clear st a where
  sim := r.sim
  fm := {
    defers := r.fm.defers
    size := r.fm.size
    tmp := fun s => by
      have h := r.fm.tmp s
      rcases get_clear (fr := fr) s with hc | hc <;> rw [hc]
      · generalize a.tmps.getD s undef = v at *
        generalize fr.get s = e at *
        cases e with
        | bor k xs p => cases p <;> exact h.1
        | _ => exact h
      · trivial
    loc := fun s cs hc => r.fm.loc s cs hc }
theorem noBor_clear : NoBor fr.clear := fun s => by rcases get_clear (fr := fr) s with h | h <;> rw [h]; exact calm_calm _; rfl

theorem RepV.calm {tmps : Array Value} {v : Value} {e : E} (h : RepV κ w lam fr st tmps v e) : RepV κ w lam fr st tmps v e.calm := by
  cases e with
  | bor k xs p => cases p <;> exact h.1
  | _ => exact h
theorem RepR.still {tmps : Array Value} {v : Value} {e : E} (h : RepR κ w lam v e) : RepV κ w lam fr st tmps v e.still := by
  cases e <;> exact h

theorem stepQ_wp (hg : GOk P g) (hc : CallOk P call) (r : R d n κ w lam fr st a) {e : E} (h : stepQ g fi call fr st o = some e) {next : Act → World → Prop} {Q : Exit → Act → World → Prop}
    (ha : ∀ v w' κ' lam', R d n κ' w' lam' fr st a → RepV κ' w' lam' fr st a.tmps v e → Pres (Keep d st.wp) κ w κ' w' → next (a.put o.dst v) w') : o.wp P a w next Q := by
  unfold stepQ at h
  split at h
  · rename_i x ho
    cases h
    refine Does.wp (rs := .ok (fr.op x).still fr st) (Does.pure r (v := a.eval x) (by unfold execOp; rw [ho]; rfl) (r.op x).still) ?_
    exact fun v w' κ' lam' r' v' p _ => ha v w' κ' lam' r' v' p
  · rename_i x ho
    cases h
    refine Does.wp (rs := .ok (fr.op x).still fr st) (Does.pure r (v := a.eval x) (by unfold execOp; rw [ho]; rfl) (r.op x).still) ?_
    exact fun v w' κ' lam' r' v' p _ => ha v w' κ' lam' r' v' p
  · split at h
    · rename_i hq
      split at h
      · rename_i e0 fr1 st1 hs
        cases h
        obtain ⟨e1, he⟩ := quiet_same hq hs
        cases he
        refine stepE_wp hg hc r hs ?_
        exact fun v w' κ' lam' r' v' p _ => ha v w' κ' lam' r' v'.calm p
      · cases h
    · cases h

theorem any_wp (hg : GOk P g) (hc : CallOk P call) (hb : ∀ o ∈ ops.toList, ∀ s, o.dst = some s → s < n) {κ0 : K} {w0 : World} {Qc : Exit → Act → World → Prop} {Q : Fr → Prop}
    (hQ : ∀ fr κ' w' lam' a', Q fr → R d n κ' w' lam' fr st a' → Pres (Keep d st.wp) κ0 w0 κ' w' → Qc .normal a' w') : ∀ (fuel : Nat) (listed : Array Bool) (fr : Fr) (κ : K) (w : World) (lam : Lam) (a : Act),
    R d n κ w lam fr st a → Pres (Keep d st.wp) κ0 w0 κ w → anyA g fi call ops st Q fuel listed fr → wpAny P .any ops Qc fuel listed a w
  | 0, _, fr, κ, w, lam, a, r, p, h => ⟨h.1, hQ fr κ w lam a h.2 r p⟩
  | fuel + 1, listed, fr, κ, w, lam, a, r, p, h => by
    refine ⟨fun h0 => hQ fr κ w lam a (h.1 h0) r p, fun i hi => ?_⟩
    have h1 := h.2 i hi
    unfold aOp at h1
    unfold wpOp
    split
    · rename_i ho
      simp only [ho] at h1
      exact any_wp hg hc hb hQ fuel _ fr κ w lam a r p h1
    · rename_i o ho
      simp only [ho] at h1
      obtain ⟨e, y, h2⟩ := h1
      have hmem : o ∈ ops.toList := by
        have := Array.mem_of_getElem? ho; simpa using this
      rcases y with ⟨hw, hs⟩ | ⟨hw, rfl⟩
      · rw [wanted_ok r hw, if_pos rfl]
        refine .inl (stepQ_wp hg hc r hs ?_)
        intro v w' κ' lam' r' v' p'
        obtain ⟨κ2, r2, p2⟩ := putO_ok r' (hb o hmem) v'
        exact any_wp hg hc hb hQ fuel _ _ κ2 w' lam' _ r2 (p.trans (p'.trans (pres_fly p2))) h2
      · rw [wanted_ok r hw]
        simp only [Bool.false_eq_true, if_false]
        obtain ⟨κ2, r2, p2⟩ := putO_ok (e := .any) (v := undef) r (hb o hmem) trivial
        exact any_wp hg hc hb hQ fuel _ _ κ2 w lam _ r2 (p.trans (pres_fly p2)) h2

/-- A region whose order is drawn. -/
theorem draw_wp (hg : GOk P g) (hc : CallOk P call) (hb : ∀ o ∈ ops.toList, ∀ s, o.dst = some s → s < n) (r : R d n κ w lam fr st a) (hB : Region.lexB .any ops = true) {out : Fr}
    (h : evalDraw g fi call ops.toList st ops.toList fr.clear = some out) {Qc : Exit → Act → World → Prop} (hQ : Fin d n κ w st Qc (.ok out st)) (id : Nat) : (Code.region id ops true).wp P Qc a w := by
  have hB' := hB
  simp only [Region.lexB, Bool.and_eq_true] at hB'
  have r1 : R d n κ w.drew lam fr.clear st a := (r.clear).drew
  refine wp_region_any hg.mixed ?_
  rw [World.drew_eq]
  refine any_wp (fi := fi) (κ0 := κ) (w0 := w) (Q := fun f => Eqv out f) hg hc hb ?_ ops.size _ fr.clear κ w.drew lam a r1 (pres_drew _) ?_
  · intro f κ' w' lam' a' q r' p'
    exact hQ a' w' κ' lam' (r'.eqv ⟨fun s => (q.1 s).symm, q.2.symm⟩) p' rfl
  · have := any_lex (st := st) (Q := fun f => Eqv out f) (fun f f' q _ _ hq => ⟨fun s => (hq.1 s).trans (q.1 s), hq.2.trans q.2⟩) ops.toList 0 (Array.replicate ops.size false) fr.clear out noBor_clear (by simp) (by simpa using hB'.2) h ⟨fun _ => rfl, rfl⟩
    simpa using this
end
end Go.Ab
