/- Each operation that is no call of a function does what the interpreter says. -/
import Derived.Test.YtiiahehclbmodaaAbX
namespace Go.Ab
open Go
set_option linter.unusedVariables false
set_option linter.unusedSimpArgs false
set_option linter.unnecessarySimpa false

variable {P : Program} {d n : Nat} {κ : K} {w : World} {lam : Lam} {fr : Fr} {st : St} {a : Act} {o : Oper}

theorem convert_ok {g : G} (hg : TyOk P g) {s t : Nat} {ts td : TI} (hs : g.ty s = some ts) (ht : g.ty t = some td) {u : Value} {x : V} {e : E} (hu : Rep κ w u x) (h : convV (g.u8 s) td.k x = some e) :
    ∃ v w', (convert s t u).run P w = .ok v w' ∧ (w' = w ∨ w' = w.drew) ∧ RepV κ w' lam fr st a.tmps v e := by
  obtain ⟨ds, hs1, _⟩ := und_tk hg hs
  obtain ⟨dt, ht1, ht2⟩ := und_tk hg ht
  unfold convV at h
  split at h
  · rename_i k m hk
    rw [hk] at ht2; simp only [TKok] at ht2; subst ht2
    cases h; cases hu
    exact ⟨_, w, by simp [convert, run_underlying hs1, run_underlying ht1, Conv.intToInt], .inl rfl, Rep.int _ _⟩
  · rename_i k m hk
    rw [hk] at ht2; simp only [TKok] at ht2; subst ht2
    cases h; cases hu
    exact ⟨_, w, by simp [convert, run_underlying hs1, run_underlying ht1, Conv.intToFloat], .inl rfl, Rep.float _ _⟩
  · rename_i k s' b hk
    rw [hk] at ht2; simp only [TKok] at ht2; subst ht2
    cases hu
    have hc : (convert s t (.float s' b)).run P w = (Conv.floatToInt s' b k).run P w := by simp [convert, run_underlying hs1, run_underlying ht1]
    rw [hc]
    unfold Conv.floatToInt
    dsimp only
    have hany : ∃ v w', (do pure (.int k (k.wrap (← choose (.floatToInt s' b k)))) : Sem Value).run P w = .ok v w' ∧ (w' = w ∨ w' = w.drew) := by
      refine ⟨.int k (k.wrap (((Question.floatToInt s' b k).cut (w.tape w.drawn (.floatToInt s' b k)) : Nat) : Int)), w.drew, by simp [Question.forced], .inr rfl⟩
    split at h
    · rename_i m hm
      rw [hm]
      dsimp only
      split at h
      · rename_i hmm
        cases h
        rw [if_pos hmm]
        exact ⟨_, w, rfl, .inl rfl, Rep.int _ _⟩
      · rename_i hmm
        cases h
        rw [if_neg hmm]
        obtain ⟨v, w', h1, h2⟩ := hany
        exact ⟨v, w', h1, h2, trivial⟩
    · rename_i hm
      rw [hm]
      cases h
      obtain ⟨v, w', h1, h2⟩ := hany
      exact ⟨v, w', h1, h2, trivial⟩
  · rename_i k s' b hk
    rw [hk] at ht2; simp only [TKok] at ht2; subst ht2
    split at h
    · rename_i hkk; subst hkk
      cases h; cases hu
      exact ⟨_, w, by simp [convert, run_underlying hs1, run_underlying ht1, Conv.floatToFloat], .inl rfl, Rep.float _ _⟩
    · cases h
  · rename_i s' hk
    rw [hk] at ht2; simp only [TKok] at ht2; subst ht2
    cases h
    obtain ⟨s'', rfl, rfl⟩ := hu.str_inv
    exact ⟨_, w, by simp [convert, run_underlying hs1, run_underlying ht1], .inl rfl, Rep.str _⟩
  · rename_i xs hk
    rw [hk] at ht2; simp only [TKok] at ht2; subst ht2
    split at h
    · rename_i hu8
      obtain ⟨el, hs2, he⟩ := hg.u8 s hu8
      rw [hs1] at hs2; cases hs2
      cases hb : bytesOf xs with
      | none => rw [hb] at h; cases h
      | some bs =>
        rw [hb] at h
        simp only [Option.map_some, Option.some.injEq] at h; subst h
        obtain ⟨q, cap, rfl, _⟩ := hu.slice_inv
        obtain ⟨r, h1, h2⟩ := bytesToString_ok (P := P) hu hb
        exact ⟨r, w, by rw [run_convert_bytes_string w s t el q _ cap hs1 he ht1]; exact h1, .inl rfl, h2⟩
    · cases h
  · cases h

theorem minMax_ok (mx : Bool) : ∀ {us : List Value} {xs : List V} {v : Value} {x z : V}, Rep κ w v x → Reps κ w us xs → minMax mx x xs = some z →
    ∃ r, (us.foldlM (if mx then Builtin.max2 else Builtin.min2) v).run P w = .ok r w ∧ Rep κ w r z
  | _, _, v, x, z, hv, .nil, h => by simp only [minMax, Option.some.injEq] at h; subst h; exact ⟨v, rfl, hv⟩
  | _, _, v, x, z, hv, .cons (x := y) hy r, h => by
    unfold minMax at h
    split at h
    · rename_i heq; cases heq
    · rename_i k p k' q r' heq
      cases heq
      cases hv; cases hy
      obtain ⟨r2, h1, h2⟩ := minMax_ok mx (.int k _) r h
      refine ⟨r2, ?_, h2⟩
      rw [List.foldlM_cons, Sem.run_bind]
      cases mx
      · simp only [Bool.false_eq_true, if_false] at h1 ⊢
        show ((Sem.pure _ : Sem Value).run P w).andThen _ = _
        simpa [Builtin.min2] using h1
      · simp only [if_true] at h1 ⊢
        show ((Sem.pure _ : Sem Value).run P w).andThen _ = _
        simpa [Builtin.max2] using h1
    · cases h

theorem len_ok {g : G} (hg : TyOk P g) {t ty : Nat} {ti : TI} (hti : g.ty t = some ti) {u : Value} {e : E} {z : V} (hu : RepR κ w lam u e) (h : lenE ti.k e = some z) (ats : Array TypeId) (args : Array Value)
    (h0 : ats[0]? = some t) (h1 : args[0]? = some u) : ∃ r, (Builtin.len_ ats ty args).run P w = .ok r w ∧ Rep κ w r z := by
  obtain ⟨de, hd1, hd2⟩ := und_tk hg hti
  unfold lenE at h
  split at h
  · rename_i s hk
    rw [hk] at hd2; simp only [TKok] at hd2; subst hd2
    cases h
    obtain ⟨s, rfl, rfl⟩ := Rep.str_inv hu
    refine ⟨_, ?_, .int _ _⟩
    rw [← size_eq_length]
    simp [Builtin.len_, h0, h1, run_underlying hd1, goInt]
  · rename_i esz eb ea ez fl k id off len hk
    rw [hk] at hd2; obtain ⟨el, i, zz, de', rfl, _⟩ := hd2
    cases h
    obtain ⟨b, cap, rfl, _⟩ := Rep.sref_inv hu
    refine ⟨_, ?_, .int _ _⟩
    simp [Builtin.len_, h0, h1, run_underlying hd1, goInt]
  · rename_i esz eb ea ez e' hk _
    rw [hk] at hd2; obtain ⟨el, i, zz, de', rfl, _⟩ := hd2
    split at h
    · rename_i xs hxs
      cases h
      obtain ⟨q, cap, rfl, _⟩ := (elems_of hu hxs).slice_inv
      refine ⟨_, ?_, .int _ _⟩
      simp [Builtin.len_, h0, h1, run_underlying hd1, goInt]
    · cases h
  · rename_i m esz ea e' hk
    rw [hk] at hd2; obtain ⟨el, i, de', rfl, _⟩ := hd2
    cases h
    refine ⟨_, ?_, .int _ _⟩
    simp [Builtin.len_, h0, h1, run_underlying hd1, goInt]
  · cases h

theorem appended_type {g : G} (hg : TyOk P g) {ats : Array TypeId} {e : E} {ys : List V} (h : appended ((ats[1]?).bind fun u => (g.ty u).map TI.k) e = some ys) :
    ∃ xt, ats[1]? = some xt ∧ ((∃ el, P.underlying xt = some (.slice el)) ∨ P.underlying xt = some .string) := by
  cases hx : ats[1]? with
  | none => rw [hx] at h; cases h
  | some xt =>
    rw [hx] at h
    simp only [Option.bind_some] at h
    cases hti : g.ty xt with
    | none => rw [hti] at h; cases h
    | some ti =>
      rw [hti] at h
      obtain ⟨de, h1, h2⟩ := und_tk hg hti
      unfold appended at h
      split at h
      · rename_i hk
        simp only [Option.map_some, Option.some.injEq] at hk
        rw [hk] at h2
        obtain ⟨el, i, z, de', rfl, _⟩ := h2
        exact ⟨xt, rfl, .inl ⟨el, h1⟩⟩
      · rename_i hk
        simp only [Option.map_some, Option.some.injEq] at hk
        rw [hk] at h2; simp only [TKok] at h2; subst h2
        exact ⟨xt, rfl, .inr h1⟩
      · cases h

theorem builtin_run (o : Oper) (b : Builtin) (args : Array Operand) (ats : Array TypeId) (h : o.op = .call { callee := .builtin b, args := args, argTypes := ats }) (ρ : Operand → Value) :
    (execOp ρ o).run P w = (builtin b ats o.type (args.map fun | .const _ => true | _ => false) (args.map ρ)).run P w := by
  unfold execOp
  rw [h]
  simp [resolve, invoke]
  rfl

theorem RepR.pres {S : Ow → Prop} {κ' : K} {w' : World} {v : Value} {e : E} (p : Pres S κ w κ' w') (h : RepR κ w lam v e) : RepR κ' w' lam v e := by
  cases e with
  | any => trivial
  | val x => exact Rep.pres p h
  | lp t off => exact h
  | own k xs => exact Rep.pres p h
  | bor k xs q => exact Rep.pres p h

theorem append_ok {g : G} (hg : TyOk P g) (r : R d n κ w lam fr st a) {args : Array Operand} {ats : Array TypeId} {rs : Rs} (ho : o.op = .call { callee := .builtin .append, args := args, argTypes := ats })
    (h : appendStep g fr st ats args = some rs) : Does P d n κ w st a o rs := by
  unfold appendStep at h
  split at h
  · rename_i t s x ht hs hx
    split at h
    · rename_i esz eb ea ez size agg zero hti
      split at h
      · rename_i ys hap
        split at h
        · rename_i xs fr' st' hb
          split at h
          · rename_i hc
            cases h
            obtain ⟨c1, c2, c3, c4, c5, c6⟩ := hc
            unfold baseOf at hb
            split at hb
            · rename_i k xs' fr2 st2 htk
              split at hb
              · rename_i hk
                cases hb
                obtain ⟨κ1, r1, v1, p1, w1⟩ := take_ok r htk
                obtain ⟨el, i, z, hu, hi, hsz, hbz, hzz, hzr⟩ := elem_size hg hti rfl
                obtain ⟨xt, hxt, hxk⟩ := appended_type hg hap
                have hezl : z.cells.size = esz := by have := (hzr κ w).length; simpa [c6] using this
                obtain ⟨v', w', κ', h1, h2, h3, h4⟩ := append_run (P := P) r1 (t := t) (xt := xt) (ty := o.type) (v := a.eval s) (vx := a.eval x) (args := args.map a.eval) (ats := ats) hu hi hzz hsz hbz hezl
                  (by simp [hs]) (by simp [hx]) ht hxt hxk v1.1 v1.2 (by simpa using hk) ((r.op x).pres p1) hap c5 c4 c3 c1 c2
                refine ⟨.value v', v', w', κ', lam, ?_, .inl rfl, h2, h3, p1.trans (h4.mono fun L hL e => keep_fly d st.wp (e ▸ hL)), w1⟩
                rw [builtin_run o .append args ats ho]
                simp [builtin, h1]
              · cases hb
            · cases hb
          · cases h
        · cases h
      · cases h
    · cases h
  · cases h
end Go.Ab
