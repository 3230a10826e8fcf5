/- A call of a function; rows of operations. -/
import Derived.Test.YtiiahehclbmodaaAbF
namespace Go.Ab
open Go
set_option linter.unusedVariables false
set_option linter.unusedSimpArgs false
set_option linter.unnecessarySimpa false

variable {P : Program} {d n : Nat} {κ : K} {w : World} {lam : Lam} {fr : Fr} {st : St} {a : Act} {o : Oper}

/-- What may follow an operation. -/
def After (d n : Nat) (κ : K) (w : World) (st : St) (a : Act) (next : Act → World → Prop) (Q : Exit → Act → World → Prop) (dst : Option Nat) : Rs → Prop
  | .ok e fr' st' => ∀ v w' κ' lam', R d n κ' w' lam' fr' st' a → RepV κ' w' lam' fr' st' a.tmps v e → Pres (Keep d st.wp) κ w κ' w' → st'.wp = st.wp → next (a.put dst v) w'
  | .pan x st' => ∀ u w' κ', Rep κ' w' u x → Sim κ' w' st' → Pres (Keep d st.wp) κ w κ' w' → st'.wp = st.wp → Q (.panic [{ v := u, recovered := false }]) a w'

theorem Does.wp {rs : Rs} {next : Act → World → Prop} {Q : Exit → Act → World → Prop} (h : Does P d n κ w st a o rs) (ha : After d n κ w st a next Q o.dst rs) : o.wp P a w next Q := by
  unfold Oper.wp
  cases rs with
  | ok e fr' st' =>
    obtain ⟨nx, v, w', κ', lam', h1, h2, h3, h4, h5, h6⟩ := h
    rw [h1]
    have := ha v w' κ' lam' h3 h4 h5 h6
    rcases h2 with rfl | ⟨rfl, rfl⟩
    · exact this
    · exact this
  | pan x st' =>
    obtain ⟨v, w', κ', h1, h2, h3, h4, h5⟩ := h
    rw [h1]
    exact ha v w' κ' h2 h3 h4 h5

theorem keep_below {e wp : Nat} {L : Ow} (h : Keep d wp L) : Keep (d + e) wp L := by
  rcases h with h | h | h
  · refine .inl ?_
    cases L <;> simp only [Ow.below] at h ⊢ <;> omega
  · exact .inr (.inl h)
  · exact .inr (.inr h)

/-- A value that a call hands back with its room. -/
theorem ret_rep {u : Value} {v : V} {k : Option Nat} (r : R d n κ w lam fr st a) (h : OutOk (d + 1) κ w (.returned u) (.ret v k)) :
    ∃ κ', R d n κ' w lam fr st a ∧ RepV κ' w lam fr st a.tmps u (retE k v) ∧ Pres (fun L => ∀ s, L ≠ .tmp (d + 1) s) κ w κ' w := by
  cases k with
  | none =>
    obtain ⟨u', h1, h2⟩ := h
    cases h1
    refine ⟨κ, r, ?_, .refl _ _ _⟩
    cases v <;> exact h2
  | some k =>
    obtain ⟨u', s, h1, h2, h3⟩ := h
    cases h1
    have p : Pres (fun L => L ≠ .tmp (d + 1) s) κ w (κ.re (.tmp (d + 1) s) .fly) w := pres_re κ w _ _ _ (by simp)
    refine ⟨κ.re (.tmp (d + 1) s) .fly, r.pres p (fun L hL e => by subst e; simp only [Mine] at hL; omega) (good_re r.sim.good) r.sim.fresh, ?_, p.mono fun L hL => hL s⟩
    cases v <;> first
      | exact ⟨h2.pres p, h3.re⟩
      | exact h2.pres p

theorem call_frame {st' : St} {κ' : K} {w' : World} (r : R d n κ w lam fr st a) (p : Pres (Keep (d + 1) st.wp) κ w κ' w') (s : Sim κ' w' st') : R d n κ' w' lam (fr.map E.noMem) st' a := by
  have hk1 : ∀ s, Keep (d + 1) st.wp (.tmp d s) := fun s => .inl (Nat.lt_succ_self d)
  have hk2 : ∀ s, Keep (d + 1) st.wp (.loc d s) := fun s => .inl (Nat.lt_succ_self d)
  have hk3 : ∀ s o, Keep (d + 1) st.wp (.lsp d s o) := fun s o => .inl (Nat.lt_succ_self d)
  refine r.entries p (fun t => ?_) (fun t cs hc => ?_) s
  · rw [get_map _ _ rfl]
    have h1 := r.fm.tmp t
    generalize hv : a.tmps.getD t undef = v at h1 ⊢
    generalize he : fr.get t = e at h1 ⊢
    cases e with
    | any => trivial
    | val x => exact Rep.pres p h1
    | lp u o => exact h1
    | own k ys => exact ⟨h1.1.pres p, h1.2.pres p (hk1 t)⟩
    | bor k ys q =>
      cases q with
      | slot u => exact ⟨h1.1.pres p, by rw [get_map _ _ rfl, h1.2.1]; rfl, h1.2.2⟩
      | mem id o => exact h1.1.pres p
      | loc u o =>
        obtain ⟨r1, cs, b, e1, e2, e3, e4⟩ := h1
        exact ⟨r1.pres p, cs, b, e1, e2, e3, (r.fm.cellEq p hk2 u cs o _ b e1 e2 e3).trans e4⟩
  · obtain ⟨b, hb, c⟩ := r.fm.loc t cs hc
    exact ⟨b, hb, c.pres p (hk2 t) (hk3 t)⟩

theorem keep_up {wp wp' : Nat} (hw : wp ≤ wp') {L : Ow} (h : Keep d wp L) : Keep (d + 1) wp' L := by
  rcases h with h | ⟨id, h1, h2⟩ | ⟨id, off, h1, h2⟩
  · refine .inl ?_
    cases L <;> simp only [Ow.below] at h ⊢ <;> omega
  · exact .inr (.inl ⟨id, h1, by omega⟩)
  · exact .inr (.inr ⟨id, off, h1, by omega⟩)
theorem keep_tmp1 {wp s : Nat} : ¬ Keep d wp (.tmp (d + 1) s) := by
  rintro (h | ⟨_, h, _⟩ | ⟨_, _, h, _⟩)
  · simp only [Ow.below] at h; omega
  · cases h
  · cases h

/-- A call of a function. -/
theorem call_wp {g : G} {call : Calling} (hg : GOk P g) (hc : CallOk P call) (r : R d n κ w lam fr st a) {x : Operand} {args : Array Operand} {ats : Array TypeId} {f : Nat} {first cap vs : List V} {rs : Rs}
    (ho : o.op = .call { callee := .value x, args := args, argTypes := ats }) (hx : fr.op x = .val (.func f first cap)) (hv : vsOf (args.toList.map fr.op) = some vs)
    (h : callStep g call f (first ++ vs ++ cap) fr st = some rs) {next : Act → World → Prop} {Q : Exit → Act → World → Prop} (ha : After d n κ w st a next Q o.dst rs) : o.wp P a w next Q := by
  have hf := r.op x
  rw [hx] at hf
  have hvr := vsOf_reps (r.ops args.toList) hv
  generalize hfv : a.eval x = fv at hf
  have hwp := r.sim.wple
  cases hf with
  | func h1 h2 =>
  rename_i F C
  have hreps : Reps κ w ((F ++ args.map a.eval) ++ C).toList (first ++ vs ++ cap) := by
    rw [Array.toList_append, Array.toList_append]
    exact (h1.append (by simpa using hvr)).append h2
  have hexec : (execOp a.eval o).run P w = (callFunc f ((F ++ args.map a.eval) ++ C)).run P w := by
    unfold execOp
    rw [ho]
    simp [resolve, Deferred.ofValue, hfv, invoke]
  unfold callStep at h
  split at h
  · -- the bits of a float
    rename_i hext
    split at h
    · rename_i b hargs
      cases h
      rw [hargs] at hreps
      have : (F ++ args.map a.eval) ++ C = #[.float .f64 b] := by
        generalize ((F ++ args.map a.eval) ++ C) = ar at hreps
        obtain ⟨l⟩ := ar
        cases hreps with | cons q1 q2 => cases q1; cases q2; rfl
      refine Does.wp (κ := κ) (rs := .ok (.val (.int .u64 b)) fr st) ?_ ha
      exact ⟨_, _, w, κ, lam, by rw [hexec, this]; exact hg.bits f hext b w, .inl rfl, r, Rep.int _ _, .refl _ _ _, rfl⟩
    · cases h
  · -- the float of bits
    rename_i hext
    split at h
    · rename_i b hargs
      cases h
      rw [hargs] at hreps
      have : (F ++ args.map a.eval) ++ C = #[.int .u64 b] := by
        generalize ((F ++ args.map a.eval) ++ C) = ar at hreps
        obtain ⟨l⟩ := ar
        cases hreps with | cons q1 q2 => cases q1; cases q2; rfl
      refine Does.wp (κ := κ) (rs := .ok (.val (.float .f64 b.toNat)) fr st) ?_ ha
      exact ⟨_, _, w, κ, lam, by rw [hexec, this]; exact hg.ofBits f hext b w, .inl rfl, r, Rep.float _ _, .refl _ _ _, rfl⟩
    · cases h
  · split at h
    · cases h
    · rename_i fi hfi
      obtain ⟨fn, f1, f2, f3, f4, f5⟩ := hg.fn f fi hfi
      have henter : (execOp a.eval o).run P w = .ok (.enter f ((F ++ args.map a.eval) ++ C)) w := by
        rw [hexec]
        unfold callFunc
        have f6 : ¬ fn.name = "runtime.NumGoroutine" := by simpa using f5
        simp [f1, f2, f6]
      unfold Oper.wp
      rw [henter]
      split at h
      · -- a quiet one
        split at h
        · rename_i v k st1 hcall
          split at h
          · rename_i hflat
            cases h
            have hs1 : Sim κ w { st with wp := st.objs.length } := ⟨Nat.le_refl _, r.sim.good, r.sim.fresh, r.sim.obj⟩
            refine (hc f _ _ _ _ hcall (d + 1) κ w _ hs1 hreps).mono fun e w' ⟨κ', h1', h2', h3', h4'⟩ => ?_
            let κ2 : K := { κ' with blk := κ.blk }
            have p2 : Pres (Keep (d + 1) st.objs.length) κ w κ2 w' := { h3' with blk := fun _ _ h => h, imm := fun b o v hi => h3'.imm b o v hi, lab := fun b o L e s => h3'.lab b o L e s, free := fun b hb e => h3'.free b hb e }
            have r2 : R d n κ2 w' lam fr st a := by
              refine r.pres' p2 (fun L hL ho hm => ?_) h2'.good r.sim.fresh
              cases L with
              | obj id => exact .inr (.inl ⟨id, rfl, ho id rfl⟩)
              | mem id off => exact .inr (.inr ⟨id, off, rfl, hm id off rfl⟩)
              | tmp e s => simp only [Mine] at hL; exact .inl (by simp only [Ow.below]; omega)
              | loc e s => simp only [Mine] at hL; exact .inl (by simp only [Ow.below]; omega)
              | lsp e s q => simp only [Mine] at hL; exact .inl (by simp only [Ow.below]; omega)
              | fly => exact hL.elim
            have hout : ∃ u, e = .returned u ∧ OutOk (d + 1) κ2 w' (.returned u) (.ret v k) := by
              cases k with
              | none => obtain ⟨u, rfl, q2⟩ := h1'; exact ⟨u, rfl, u, rfl, Rep.flat (κ := κ') (κ' := κ2) (fun _ _ => rfl) q2 hflat⟩
              | some k => obtain ⟨u, s, rfl, q2, q3⟩ := h1'; exact ⟨u, rfl, u, s, rfl, Rep.flat (κ := κ') (κ' := κ2) (fun _ _ => rfl) q2 hflat, by cases u <;> exact q3⟩
            obtain ⟨u, rfl, hout⟩ := hout
            obtain ⟨κ3, r3, v3, p3⟩ := ret_rep r2 hout
            exact ha u w' κ3 lam r3 v3 ((p2.mono fun L hL => keep_up hwp hL).trans (p3.mono fun L hL s e => keep_tmp1 (e ▸ hL))) rfl
          · cases h
        · cases h
      · split at h
        · rename_i v k st1 hcall
          cases h
          refine (hc f _ _ _ _ hcall (d + 1) κ w _ r.sim hreps).mono fun e w' ⟨κ', h1', h2', h3', h4'⟩ => ?_
          have r2 := call_frame r h3' h2'
          have hout : ∃ u, e = .returned u := by
            cases k with
            | none => obtain ⟨u, rfl, _⟩ := h1'; exact ⟨u, rfl⟩
            | some k => obtain ⟨u, s, rfl, _⟩ := h1'; exact ⟨u, rfl⟩
          obtain ⟨u, rfl⟩ := hout
          obtain ⟨κ3, r3, v3, p3⟩ := ret_rep r2 h1'
          exact ha u w' κ3 lam r3 v3 ((h3'.mono fun L hL => keep_up (Nat.le_refl _) hL).trans (p3.mono fun L hL s e => keep_tmp1 (e ▸ hL))) h4'
        · rename_i v st1 hcall
          cases h
          refine (hc f _ _ _ _ hcall (d + 1) κ w _ r.sim hreps).mono fun e w' ⟨κ', h1', h2', h3', h4'⟩ => ?_
          obtain ⟨u, rfl, q2⟩ := h1'
          exact ha u w' κ' q2 h2' (h3'.mono fun L hL => keep_up (Nat.le_refl _) hL) h4'
        · cases h

theorem stepE_wp {g : G} {fi : FI} {call : Calling} (hg : GOk P g) (hc : CallOk P call) (r : R d n κ w lam fr st a) {rs : Rs} (h : stepE g fi call fr st o = some rs)
    {next : Act → World → Prop} {Q : Exit → Act → World → Prop} (ha : After d n κ w st a next Q o.dst rs) : o.wp P a w next Q := by
  unfold stepE at h
  split at h
  · rename_i x args ats ho
    split at h
    · rename_i f first cap vs hx hv
      exact call_wp hg hc r ho hx hv h ha
    · cases h
  · exact (stepOp_ok hg.ty r h).wp ha
end Go.Ab
