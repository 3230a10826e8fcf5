/- Functions: the interpreter's calls are the program's. -/
import Derived.Test.YtiiahehclbmodaaAbK
namespace Go.Ab
open Go
set_option linter.unusedVariables false
set_option linter.unusedSimpArgs false
set_option linter.unnecessarySimpa false

variable {P : Program} {d n : Nat} {κ : K} {w : World} {lam : Lam} {fr fr' : Fr} {st : St} {a : Act} {o : Oper}
variable {g : G} {fi : FI} {call : Calling}

theorem dstOk_mono {n m : Nat} (hnm : n ≤ m) : ∀ {c : Code}, dstOk n c = true → dstOk m c = true
  | .region id ops draw, h => by
    simp only [dstOk, List.all_eq_true] at h ⊢
    intro o ho
    have := h o ho
    cases hd : o.dst with
    | none => rfl
    | some s => rw [hd] at this; exact decide_eq_true (Nat.lt_of_lt_of_le (of_decide_eq_true this) hnm)
  | .seq a b, h => by simp only [dstOk, Bool.and_eq_true] at h ⊢; exact ⟨dstOk_mono hnm h.1, dstOk_mono hnm h.2⟩
  | .cond _ a b, h => by simp only [dstOk, Bool.and_eq_true] at h ⊢; exact ⟨dstOk_mono hnm h.1, dstOk_mono hnm h.2⟩
  | .block _ b, h => by simp only [dstOk] at h ⊢; exact dstOk_mono hnm h
  | .loop b, h => by simp only [dstOk] at h ⊢; exact dstOk_mono hnm h
  | .skip, _ => rfl
  | .exit _, _ => rfl
  | .ret, _ => rfl
  | .goto _, _ => rfl
  | .label _, _ => rfl
  | .scope _, _ => rfl
  | .rangeFunc _ _ _ _, _ => rfl
  | .refuse _, _ => rfl

def DstOk (g : G) : Prop := ∀ f fi, g.fn f = some fi → dstOk fi.ntmps fi.body = true

theorem lk_pers {α : Type} (f : Nat → α) (l : List Nat) (s : Nat) : lk (l.map fun s => (s, f s)) s = if s ∈ l then some (f s) else none := by
  induction l with
  | nil => rfl
  | cons x r ih =>
    simp only [List.map_cons, lk, ih]
    by_cases h : x = s
    · subst h; simp
    · simp [h, Ne.symm h]

theorem start_R {vs : Array Value} {args : List V} (s : Sim κ w st) (hr : Reps κ w vs.toList args) (d : Nat) :
    R d (vs.size + (fi.ntmps - vs.size)) κ w (fun _ => none) (startFr fi args) st { tmps := vs ++ Array.replicate (fi.ntmps - vs.size) undef, defers := [] } where
  sim := s
  fm := {
    defers := rfl
    size := by simp
    tmp := fun s => by
      have : (startFr fi args).get s = .any ∨ ∃ v, args[s]? = some v ∧ (startFr fi args).get s = .val v := by
        rw [Fr.get_def]; unfold startFr
        have key := lk_pers (fun s => match args[s]? with | some v => E.val v | none => .any) fi.pers s
        by_cases h : s ∈ fi.pers
        · rw [if_pos h] at key
          dsimp only; erw [key]; dsimp only
          cases args[s]? with
          | none => exact .inl rfl
          | some v => exact .inr ⟨v, rfl, rfl⟩
        · rw [if_neg h] at key
          dsimp only; erw [key]; exact .inl rfl
      rcases this with h | ⟨v, hv, h⟩
      · rw [h]; trivial
      · rw [h]
        have key : ∀ {vs : List Value} {args : List V} {s : Nat}, Reps κ w vs args → args[s]? = some v → ∃ u, vs[s]? = some u ∧ Rep κ w u v := by
          intro vs args s hr
          induction s generalizing vs args with
          | zero =>
            intro h
            cases hr with
            | nil => simp at h
            | cons h1 h2 => simp only [List.getElem?_cons_zero, Option.some.injEq] at h ⊢; subst h; exact ⟨_, rfl, h1⟩
          | succ s ih =>
            intro h
            cases hr with
            | nil => simp at h
            | cons h1 h2 => simp only [List.getElem?_cons_succ] at h ⊢; exact ih h2 h
        obtain ⟨u, hu, hR⟩ := key hr hv
        have hlt : s < vs.size := by
          have := (List.getElem?_eq_some_iff.1 hu).1
          simpa using this
        have : ((vs ++ Array.replicate (fi.ntmps - vs.size) undef).getD s undef) = u := by
          rw [Array.getD_eq_getD_getElem?, Array.getElem?_append_left hlt]
          rw [← Array.getElem?_toList, hu]; rfl
        show Rep κ w _ v
        rw [this]; exact hR
    loc := fun s cs h => by simp [Fr.loc_def, startFr, lk] at h }

theorem loadAt_noOwn {ti : TI} {e : E} {k : Nat} {xs : List V} : Ab.loadAt ti fr st e ≠ some (.own k xs) := by
  have hcell : ∀ p v, cellE p v ≠ .own k xs := by intro p v h; cases v <;> simp [cellE] at h
  unfold Ab.loadAt loadCs
  split
  · split
    · split <;> simp
    · intro h; simp only [Option.map_eq_some_iff] at h; obtain ⟨v, _, h⟩ := h; exact hcell _ _ h
  · split
    · split <;> simp
    · intro h; simp only [Option.map_eq_some_iff] at h; obtain ⟨v, _, h⟩ := h; exact hcell _ _ h
  · split
    · split <;> simp
    · intro h; simp only [Option.map_eq_some_iff] at h; obtain ⟨v, _, h⟩ := h; cases h
  · simp

/-- One result. -/
def resOne (tmps : Array Value) : ResultVar → Sem Value
  | .tmp t => pure (tmps.getD t undef)
  | .cell a t => do loadVar t (← asAddr (tmps.getD a undef))

theorem resOne_ok (hg : TyOk P g) (r : R d n κ w lam fr st a) {x : ResultVar} {e : E} (h : resultE g fr st x = some e) :
    ∃ v, (resOne a.tmps x).run P w = .ok v w ∧ RepR κ w lam v e ∧ (∀ k xs, e = .own k xs → ∃ s, Spare κ (.tmp d s) k v) := by
  cases x with
  | tmp t =>
    simp only [resultE, Option.some.injEq] at h
    subst h
    refine ⟨_, rfl, (r.fm.tmp t).read, ?_⟩
    intro k xs he
    have := r.fm.tmp t
    rw [he] at this
    exact ⟨t, this.2⟩
  | cell b t =>
    simp only [resultE] at h
    split at h
    · rename_i ti hti
      obtain ⟨v, h1, h2⟩ := load_ok hg hti r (r.fm.tmp b).read h
      refine ⟨v, ?_, h2.read, fun k xs he => ?_⟩
      · simp only [resOne]
        revert h1
        simp only [Instr.loadAt, Instr.sureAddr]
        generalize a.tmps.getD b undef = u
        intro h1
        cases u with
        | pointer q => cases q with
          | some q => simpa [asAddr] using h1
          | none => simp [Sem.run, stuck] at h1
        | _ => simp [Sem.run, stuck] at h1
      · subst he; exact (loadAt_noOwn h).elim
    · cases h


theorem mapM_runs {α : Type} {F : α → Sem Value} {w : World} : ∀ {l : List α} {vs : List Value}, l.length = vs.length → (∀ (i : Nat) x v, l[i]? = some x → vs[i]? = some v → (F x).run P w = .ok v w) → (l.mapM F).run P w = .ok vs w
  | [], [], _, _ => rfl
  | [], _ :: _, h, _ => by simp at h
  | _ :: _, [], h, _ => by simp at h
  | x :: l, v :: vs, h, hf => by
    rw [List.mapM_cons, Sem.run_bind, hf 0 x v rfl rfl, Result.andThen_ok, Sem.run_bind, mapM_runs (l := l) (vs := vs) (by simpa using h) (fun i x v h1 h2 => hf (i + 1) x v h1 h2), Result.andThen_ok]
    rfl

theorem results_run {fn : Func} {tmps : Array Value} {w : World} {vs : List Value} (h : (fn.results.toList.mapM (resOne tmps)).run P w = .ok vs w) :
    (results fn tmps).run P w = .ok (if h : vs.toArray.size = 1 then vs.toArray[0] else .tuple vs.toArray) w := by
  unfold results
  have e : (fun x => match x with
    | ResultVar.tmp t => (pure (tmps.getD t undef) : Sem Value)
    | ResultVar.cell a t => do loadVar t (← asAddr (tmps.getD a undef))) = resOne tmps := by
    funext x; cases x <;> rfl
  rw [Sem.run_bind]
  have e2 : (Array.mapM (resOne tmps) fn.results).run P w = .ok vs.toArray w := by
    rw [Array.mapM_eq_mapM_toList, Sem.run_map, h]; rfl
  have e3 := e2
  unfold resOne at e3
  erw [e3]
  rfl

theorem mapM_opt {α β : Type} {F : α → Option β} : ∀ {l : List α} {es : List β}, l.mapM F = some es → l.length = es.length ∧ ∀ (i : Nat) x, l[i]? = some x → ∃ e, es[i]? = some e ∧ F x = some e
  | [], es, h => by simp at h; subst h; simp
  | x :: l, es, h => by
    rw [List.mapM_cons] at h
    cases hx : F x with
    | none => rw [hx] at h; simp at h
    | some e =>
      rw [hx] at h
      cases hl : l.mapM F with
      | none => rw [hl] at h; simp at h
      | some es' =>
        rw [hl] at h
        simp at h
        subst h
        obtain ⟨h1, h2⟩ := mapM_opt hl
        refine ⟨by simp [h1], fun i y hy => ?_⟩
        cases i with
        | zero => simp at hy; subst hy; exact ⟨e, rfl, hx⟩
        | succ i => simpa using h2 i y (by simpa using hy)

theorem resultsOut_ok (hg : TyOk P g) (r : R d n κ w lam fr st a) {fn : Func} {out : Out} (h : resultsOut g fr st fn.results.toList = some out) :
    ∃ v, (results fn a.tmps).run P w = .ok v w ∧ OutOk d κ w (.returned v) out := by
  have many : ∀ l, fn.results.toList = l → l.length ≠ 1 → (match l.mapM (resultE g fr st) with
    | some es => match vsOf es with
      | some vs => some (Out.ret (.tuple vs) none)
      | none => none
    | none => none) = some out → ∃ v, (results fn a.tmps).run P w = .ok v w ∧ OutOk d κ w (.returned v) out := by
    intro l hl hne h
    split at h
    · rename_i es hes
      split at h
      · rename_i vs hvs
        cases h
        obtain ⟨h1, h2⟩ := mapM_opt hes
        have : ∃ us : List Value, l.length = us.length ∧ (∀ (i : Nat) x v, l[i]? = some x → us[i]? = some v → (resOne a.tmps x).run P w = .ok v w) ∧ Reads κ w lam us es := by
          clear hvs hne hl hes
          induction l generalizing es with
          | nil => cases es with
            | nil => exact ⟨[], rfl, by simp, .nil⟩
            | cons => simp at h1
          | cons x l ih =>
            cases es with
            | nil => simp at h1
            | cons e es =>
              obtain ⟨us, u1, u2, u3⟩ := ih es (by simpa using h1) (fun i y hy => by simpa using h2 (i + 1) y (by simpa using hy))
              obtain ⟨e', he, hx⟩ := h2 0 x rfl
              simp only [List.getElem?_cons_zero, Option.some.injEq] at he
              subst he
              obtain ⟨v, v1, v2, _⟩ := resOne_ok hg r hx
              refine ⟨v :: us, by simp [u1], fun i y z hy hz => ?_, .cons v2 u3⟩
              cases i with
              | zero => simp at hy hz; subst hy hz; exact v1
              | succ i => exact u2 i y z (by simpa using hy) (by simpa using hz)
        obtain ⟨us, u1, u2, u3⟩ := this
        have hrun := results_run (fn := fn) (tmps := a.tmps) (vs := us) (by rw [hl]; exact mapM_runs u1 u2)
        refine ⟨_, hrun, ?_⟩
        rw [dif_neg (by simp; omega)]
        exact ⟨_, rfl, .tuple (by simpa using vsOf_reps u3 hvs)⟩
      · cases h
    · cases h
  generalize hl : fn.results.toList = l at h
  match l, hl, h with
  | [x], hl, h =>
    simp only [resultsOut] at h
    have one : ∀ e, resultE g fr st x = some e → ∃ v, (results fn a.tmps).run P w = .ok v w ∧ RepR κ w lam v e ∧ (∀ k xs, e = .own k xs → ∃ s, Spare κ (.tmp d s) k v) := by
      intro e he
      obtain ⟨v, v1, v2, v3⟩ := resOne_ok hg r he
      have hrun := results_run (fn := fn) (tmps := a.tmps) (vs := [v]) (by rw [hl]; exact mapM_runs rfl (fun i y z hy hz => by
        cases i with
        | zero => simp at hy hz; subst hy hz; exact v1
        | succ i => simp at hy))
      exact ⟨v, by simpa using hrun, v2, v3⟩
    split at h
    · rename_i k xs he
      cases h
      obtain ⟨v, v1, v2, v3⟩ := one _ he
      obtain ⟨s, hs⟩ := v3 k xs rfl
      exact ⟨v, v1, v, s, rfl, v2, hs⟩
    · rename_i e _ he
      split at h
      · rename_i x' hx
        cases h
        obtain ⟨v, v1, v2, _⟩ := one _ he
        exact ⟨v, v1, v, rfl, v2.v hx⟩
      · cases h
    · cases h
  | [], hl, h => exact many [] hl (by simp) h
  | x :: y :: l, hl, h => exact many (x :: y :: l) hl (by simp) h

/-- A function's body. -/
theorem body_ok (hg : GOk P g) (hd : DstOk g) (hc : CallOk P call) {m f : Nat} {args : List V} {out : Out} {st' : St} (h : evalBody g call m f args st = some (out, st'))
    (d : Nat) {vs : Array Value} (s : Sim κ w st) (hr : Reps κ w vs.toList args) :
    Calls P f vs w fun e w' => ∃ κ', OutOk d κ' w' e out ∧ Sim κ' w' st' ∧ Pres (Keep d st.wp) κ w κ' w' ∧ st'.wp = st.wp := by
  unfold evalBody at h
  split at h
  · cases h
  · rename_i fi hfi
    obtain ⟨fn, f1, f2, f3, f4, _⟩ := hg.fn f fi hfi
    have r0 := start_R (fi := fi) s hr d
    rw [← f3] at r0
    have hdst : dstOk (vs.size + (fn.ntmps - vs.size)) fi.body = true := dstOk_mono (by omega) (hd f fi hfi)
    have fin : ∀ {fr1 : Fr} {st1 : St} (a' : Act) (w' : World) (κ' : K) (lam' : Lam), (resultsOut g fr1 st1 fi.results).map (fun o => (o, st1)) = some (out, st') → R d (vs.size + (fn.ntmps - vs.size)) κ' w' lam' fr1 st1 a' → Pres (Keep d st.wp) κ w κ' w' → st1.wp = st.wp →
        a'.defers = [] ∧ ∃ v, (results fn a'.tmps).run P w' = .ok v w' ∧ ∃ κ', OutOk d κ' w' (.returned v) out ∧ Sim κ' w' st' ∧ Pres (Keep d st.wp) κ w κ' w' ∧ st'.wp = st.wp := by
      intro fr1 st1 a' w' κ' lam' h r' p e
      cases hres : resultsOut g fr1 st1 fi.results with
      | none => rw [hres] at h; cases h
      | some o =>
        rw [hres] at h; cases h
        rw [← f4] at hres
        obtain ⟨v, v1, v2⟩ := resultsOut_ok hg.ty r' hres
        exact ⟨r'.fm.defers, v, v1, κ', v2, r'.sim, p, e⟩
    refine calls_of_wp f1 f2 ?_
    split at h
    · rename_i fr1 st1 he
      exact code_wp hg hc m _ hdst r0 he (fun a' w' κ' lam' r' p e => fin a' w' κ' lam' h r' p e)
    · rename_i fr1 st1 he
      exact code_wp hg hc m _ hdst r0 he (fun a' w' κ' lam' r' p e => fin a' w' κ' lam' h r' p e)
    · rename_i v fr1 st1 he
      cases h
      exact code_wp hg hc m _ hdst r0 he (fun a' u w' κ' hdf q s' p e => ⟨hdf, κ', ⟨u, rfl, q⟩, s', p, e⟩)
    · cases h
end Go.Ab
