/- A call of a function; rows of operations. -/
import Derived.Test.YtiiahehclbmodaaAbF
namespace Go.Ab
open Go
set_option linter.unusedVariables false
set_option linter.unusedSimpArgs false
set_option linter.unnecessarySimpa false

variable {P : Program} {d n : Nat} {κ : K} {w : World} {lam : Lam} {fr : Fr} {st : St} {a : Act} {o : Oper}

/-- What may follow an operation. -/
def After (d n : Nat) (κ : K) (w : World) (st : St) (a : Act) (next : Act → World → Prop) (Q : Exit → Act → World → Prop) (dst : Option Nat) : Rs → Prop
  | .ok e fr' st' => ∀ v w' κ' lam', R d n κ' w' lam' fr' st' a → RepV κ' w' lam' fr' st' a.tmps v e → Pres (Keep d st.wp) κ w κ' w' → st'.wp = st.wp → next (a.put dst v) w'
  | .pan x st' => ∀ u w' κ', Rep κ' w' u x → Sim κ' w' st' → Pres (Keep d st.wp) κ w κ' w' → st'.wp = st.wp → Q (.panic [{ v := u, recovered := false }]) a w'

theorem Does.wp {rs : Rs} {next : Act → World → Prop} {Q : Exit → Act → World → Prop} (h : Does P d n κ w st a o rs) (ha : After d n κ w st a next Q o.dst rs) : o.wp P a w next Q := by
  unfold Oper.wp
  cases rs with
  | ok e fr' st' =>
    obtain ⟨nx, v, w', κ', lam', h1, h2, h3, h4, h5, h6⟩ := h
    rw [h1]
    have := ha v w' κ' lam' h3 h4 h5 h6
    rcases h2 with rfl | ⟨rfl, rfl⟩
    · exact this
    · exact this
  | pan x st' =>
    obtain ⟨v, w', κ', h1, h2, h3, h4, h5⟩ := h
    rw [h1]
    exact ha v w' κ' h2 h3 h4 h5

theorem keep_below {e wp : Nat} {L : Ow} (h : Keep d wp L) : Keep (d + e) wp L := by
  rcases h with h | h | h
  · refine .inl ?_
    cases L <;> simp only [Ow.below] at h ⊢ <;> omega
  · exact .inr (.inl h)
  · exact .inr (.inr h)

/-- A value that a call hands back with its room. -/
theorem ret_rep {u : Value} {v : V} {k : Option Nat} (r : R d n κ w lam fr st a) (h : OutOk (d + 1) κ w (.returned u) (.ret v k)) :
    ∃ κ', R d n κ' w lam fr st a ∧ RepV κ' w lam fr st a.tmps u (retE k v) ∧ Pres (fun L => ∀ s, L ≠ .tmp (d + 1) s) κ w κ' w := by
  cases k with
  | none =>
    obtain ⟨u', h1, h2⟩ := h
    cases h1
    refine ⟨κ, r, ?_, .refl _ _ _⟩
    cases v <;> exact h2
  | some k =>
    obtain ⟨u', s, h1, h2, h3⟩ := h
    cases h1
    have p : Pres (fun L => L ≠ .tmp (d + 1) s) κ w (κ.re (.tmp (d + 1) s) .fly) w := pres_re κ w _ _ _ (by simp)
    refine ⟨κ.re (.tmp (d + 1) s) .fly, r.pres p (fun L hL e => by subst e; simp only [Mine] at hL; omega) (good_re r.sim.good) r.sim.fresh, ?_, p.mono fun L hL => hL s⟩
    cases v <;> first
      | exact ⟨h2.pres p, h3.re⟩
      | exact h2.pres p

theorem call_frame {st' : St} {κ' : K} {w' : World} (r : R d n κ w lam fr st a) (p : Pres (Keep (d + 1) st.wp) κ w κ' w') (s : Sim κ' w' st') : R d n κ' w' lam (fr.map E.noMem) st' a := by
  have hk1 : ∀ s, Keep (d + 1) st.wp (.tmp d s) := fun s => .inl (Nat.lt_succ_self d)
  have hk2 : ∀ s, Keep (d + 1) st.wp (.loc d s) := fun s => .inl (Nat.lt_succ_self d)
  have hk3 : ∀ s o, Keep (d + 1) st.wp (.lsp d s o) := fun s o => .inl (Nat.lt_succ_self d)
  refine r.entries p (fun t => ?_) (fun t cs hc => ?_) s
  · rw [get_map _ _ rfl]
    have h1 := r.fm.tmp t
    generalize hv : a.tmps.getD t undef = v at h1 ⊢
    generalize he : fr.get t = e at h1 ⊢
    cases e with
    | any => trivial
    | val x => exact Rep.pres p h1
    | lp u o => exact h1
    | own k ys => exact ⟨h1.1.pres p, h1.2.pres p (hk1 t)⟩
    | bor k ys q =>
      cases q with
      | slot u => exact ⟨h1.1.pres p, by rw [get_map _ _ rfl, h1.2.1]; rfl, h1.2.2⟩
      | mem id o => exact h1.1.pres p
      | loc u o =>
        obtain ⟨r1, cs, b, e1, e2, e3, e4⟩ := h1
        exact ⟨r1.pres p, cs, b, e1, e2, e3, (r.fm.cellEq p hk2 u cs o _ b e1 e2 e3).trans e4⟩
  · obtain ⟨b, hb, c⟩ := r.fm.loc t cs hc
    exact ⟨b, hb, c.pres p (hk2 t) (hk3 t)⟩

theorem keep_up {wp wp' : Nat} (hw : wp ≤ wp') {L : Ow} (h : Keep d wp L) : Keep (d + 1) wp' L := by
  rcases h with h | ⟨id, h1, h2⟩ | ⟨id, off, h1, h2⟩
  · refine .inl ?_
    cases L <;> simp only [Ow.below] at h ⊢ <;> omega
  · exact .inr (.inl ⟨id, h1, by omega⟩)
  · exact .inr (.inr ⟨id, off, h1, by omega⟩)
theorem keep_tmp1 {wp s : Nat} : ¬ Keep d wp (.tmp (d + 1) s) := by
  rintro (h | ⟨_, h, _⟩ | ⟨_, _, h, _⟩)
  · simp only [Ow.below] at h; omega
  · cases h
  · cases h

/-- A call that is run with nothing of what is there, or leaves it alone. -/
theorem pure_call {call : Calling} (hc : CallOk P call) (r : R d n κ w lam fr st a) {f : Nat} {vs : Array Value} {args : List V} (hreps : Reps κ w vs.toList args) {v : V} {k : Option Nat} {st1 : St}
    (hcall : call f args (if flats args then ⟨[], 0⟩ else { st with wp := st.objs.length }) = some (.ret v k, st1)) (hflat : v.flat = true) :
    Calls P f vs w fun e w' => ∃ κ2 u, e = .returned u ∧ R d n κ2 w' lam fr st a ∧ OutOk (d + 1) κ2 w' (.returned u) (.ret v k) ∧ Pres (Keep (d + 1) st.objs.length) κ w κ2 w' := by
  have frame : ∀ {κ2 : K} {w' : World}, Pres (Keep (d + 1) st.objs.length) κ w κ2 w' → Good κ2 w' → κ2.blk = κ.blk → R d n κ2 w' lam fr st a := by
    intro κ2 w' p2 g2 hb
    refine r.pres' p2 (fun L hL ho hm => ?_) g2 (by rw [hb]; exact r.sim.fresh)
    cases L with
    | obj id => exact .inr (.inl ⟨id, rfl, ho id rfl⟩)
    | mem id off => exact .inr (.inr ⟨id, off, rfl, hm id off rfl⟩)
    | tmp e s => simp only [Mine] at hL; exact .inl (by simp only [Ow.below]; omega)
    | loc e s => simp only [Mine] at hL; exact .inl (by simp only [Ow.below]; omega)
    | lsp e s q => simp only [Mine] at hL; exact .inl (by simp only [Ow.below]; omega)
    | fly => exact hL.elim
  by_cases hfl : flats args = true
  · rw [if_pos hfl] at hcall
    let up : Ow → Ow := fun L => match L with
      | .obj _ => .tmp d 0
      | .mem _ _ => .tmp d 0
      | .fly => .tmp d 0
      | L => L
    let κe : K := { own := fun b o => (κ.own b o).map up, blk := fun _ => none }
    have en : ∀ b o, κ.own b o = none → κe.own b o = none := fun b o h => by simp only [κe, h]; rfl
    have sim : Sim κe w ⟨[], 0⟩ := by
      refine ⟨Nat.le_refl _, fun b j L h => ?_, fun _ _ => rfl, fun id cs h => by simp [St.obj] at h, fun id cs b h => by simp [St.obj] at h⟩
      cases h1 : κ.own b j with
      | none => simp only [κe, h1] at h; cases h
      | some L' => exact r.sim.good b j L' h1
    refine (hc f args ⟨[], 0⟩ _ _ hcall (d + 1) κe w vs sim (Reps.flat en hreps hfl)).mono fun e w' ⟨κ', h1, h2, p, h4⟩ => ?_
    let κ2 : K := { own := fun b o => match κ.own b o with
      | some (.obj i) => some (.obj i)
      | some (.mem i j) => some (.mem i j)
      | some .fly => some .fly
      | _ => κ'.own b o, blk := κ.blk }
    have kt : Keep (d + 1) 0 (.tmp d 0) := .inl (Nat.lt_succ_self d)
    -- what is hidden is kept
    have hid : ∀ b o L, κ.own b o = some L → up L = .tmp d 0 → κ'.own b o = some (.tmp d 0) ∧ w'.cell? (at_ b o) = w.cell? (at_ b o) := fun b o L hL hu => p.lab b o (.tmp d 0) (by simp only [κe, hL, Option.map_some, hu]) kt
    have back : ∀ b o L, κ'.own b o = L → L ≠ some (.tmp d 0) → κ2.own b o = L := by
      intro b o L hL hne
      simp only [κ2]
      split
      · rename_i i h5; exact (hne (hL.symm.trans (hid b o _ h5 rfl).1)).elim
      · rename_i i j h5; exact (hne (hL.symm.trans (hid b o _ h5 rfl).1)).elim
      · rename_i h5; exact (hne (hL.symm.trans (hid b o _ h5 rfl).1)).elim
      · exact hL
    have p2 : Pres (Keep (d + 1) st.objs.length) κ w κ2 w' := by
      refine ⟨p.os, p.tape, p.out, p.size, fun _ _ h => h, fun b o v hi => ?_, fun b o L hL hk => ?_, p.sz, fun b hb hf => ?_⟩
      · obtain ⟨i1, i2⟩ := p.imm b o v ⟨hi.1, en b o hi.2⟩
        exact ⟨i1, back b o none i2 (by simp)⟩
      · cases L with
        | obj i => exact ⟨by simp only [κ2, hL], (hid b o _ hL rfl).2⟩
        | mem i j => exact ⟨by simp only [κ2, hL], (hid b o _ hL rfl).2⟩
        | fly => exact ⟨by simp only [κ2, hL], (hid b o _ hL rfl).2⟩
        | tmp e s =>
          have := p.lab b o (.tmp e s) (by simp only [κe, hL]; rfl) (by rcases hk with hk | ⟨_, hk, _⟩ | ⟨_, _, hk, _⟩; exact .inl hk; cases hk; cases hk)
          exact ⟨by simp only [κ2, hL]; exact this.1, this.2⟩
        | loc e s =>
          have := p.lab b o (.loc e s) (by simp only [κe, hL]; rfl) (by rcases hk with hk | ⟨_, hk, _⟩ | ⟨_, _, hk, _⟩; exact .inl hk; cases hk; cases hk)
          exact ⟨by simp only [κ2, hL]; exact this.1, this.2⟩
        | lsp e s q =>
          have := p.lab b o (.lsp e s q) (by simp only [κe, hL]; rfl) (by rcases hk with hk | ⟨_, hk, _⟩ | ⟨_, _, hk, _⟩; exact .inl hk; cases hk; cases hk)
          exact ⟨by simp only [κ2, hL]; exact this.1, this.2⟩
      · obtain ⟨f1, f2⟩ := p.free b hb (fun o => en b o (hf o))
        exact ⟨f1, fun o => by simp only [κ2, hf o]; exact f2 o⟩
    have g2 : Good κ2 w' := by
      intro b j L hL
      simp only [κ2] at hL
      split at hL
      · rename_i h5; exact h2.good _ _ _ (hid b j _ h5 rfl).1
      · rename_i h5; exact h2.good _ _ _ (hid b j _ h5 rfl).1
      · rename_i h5; exact h2.good _ _ _ (hid b j _ h5 rfl).1
      · exact h2.good _ _ _ hL
    have nn : ∀ b o, κ'.own b o = none → κ2.own b o = none := fun b o h => back b o none h (by simp)
    cases k with
    | none =>
      obtain ⟨u, rfl, q2⟩ := h1
      exact ⟨κ2, u, rfl, frame p2 g2 rfl, ⟨u, rfl, Rep.flat nn q2 hflat⟩, p2⟩
    | some k =>
      obtain ⟨u, s, rfl, q2, q3⟩ := h1
      refine ⟨κ2, u, rfl, frame p2 g2 rfl, ⟨u, s, rfl, Rep.flat nn q2 hflat, ?_⟩, p2⟩
      cases u <;> simp only [Spare] at q3 ⊢
      rcases q3 with q3 | ⟨a1, a2, b, o, ha, a3⟩
      · exact .inl q3
      · exact .inr ⟨a1, a2, b, o, ha, fun j h5 h6 => back _ _ _ (a3 j h5 h6) (by simp)⟩
  · rw [if_neg hfl] at hcall
    have hs1 : Sim κ w { st with wp := st.objs.length } := ⟨Nat.le_refl _, r.sim.good, r.sim.fresh, r.sim.obj, r.sim.room⟩
    refine (hc f _ _ _ _ hcall (d + 1) κ w _ hs1 hreps).mono fun e w' ⟨κ', h1', h2', h3', h4'⟩ => ?_
    let κ2 : K := { κ' with blk := κ.blk }
    have p2 : Pres (Keep (d + 1) st.objs.length) κ w κ2 w' := { h3' with blk := fun _ _ h => h, imm := fun b o v hi => h3'.imm b o v hi, lab := fun b o L e s => h3'.lab b o L e s, free := fun b hb e => h3'.free b hb e }
    have r2 : R d n κ2 w' lam fr st a := frame p2 h2'.good rfl
    cases k with
    | none => obtain ⟨u, rfl, q2⟩ := h1'; exact ⟨κ2, u, rfl, r2, ⟨u, rfl, Rep.flat (κ := κ') (κ' := κ2) (fun _ _ h => h) q2 hflat⟩, p2⟩
    | some k => obtain ⟨u, s, rfl, q2, q3⟩ := h1'; exact ⟨κ2, u, rfl, r2, ⟨u, s, rfl, Rep.flat (κ := κ') (κ' := κ2) (fun _ _ h => h) q2 hflat, by cases u <;> exact q3⟩, p2⟩

/-- A call of a function. -/
theorem call_wp {g : G} {call : Calling} (hg : GOk P g) (hc : CallOk P call) (r : R d n κ w lam fr st a) {x : Operand} {args : Array Operand} {ats : Array TypeId} {f : Nat} {first cap vs : List V} {rs : Rs}
    (ho : o.op = .call { callee := .value x, args := args, argTypes := ats }) (hx : fr.op x = .val (.func f first cap)) (hv : vsOf (args.toList.map fr.op) = some vs)
    (h : callStep g call f (first ++ vs ++ cap) fr st = some rs) {next : Act → World → Prop} {Q : Exit → Act → World → Prop} (ha : After d n κ w st a next Q o.dst rs) : o.wp P a w next Q := by
  have hf := r.op x
  rw [hx] at hf
  have hvr := vsOf_reps (r.ops args.toList) hv
  generalize hfv : a.eval x = fv at hf
  have hwp := r.sim.wple
  cases hf with
  | func h1 h2 =>
  rename_i F C
  have hreps : Reps κ w ((F ++ args.map a.eval) ++ C).toList (first ++ vs ++ cap) := by
    rw [Array.toList_append, Array.toList_append]
    exact (h1.append (by simpa using hvr)).append h2
  have hexec : (execOp a.eval o).run P w = (callFunc f ((F ++ args.map a.eval) ++ C)).run P w := by
    unfold execOp
    rw [ho]
    simp [resolve, Deferred.ofValue, hfv, invoke]
  unfold callStep at h
  split at h
  · -- a function from outside
    rename_i x hext
    split at h
    · rename_i v hv'
      cases h
      unfold extV at hv'
      split at hv'
      · rename_i b hargs
        cases hv'
        rw [hargs] at hreps
        have : (F ++ args.map a.eval) ++ C = #[.float .f64 b] := by
          generalize ((F ++ args.map a.eval) ++ C) = ar at hreps
          obtain ⟨l⟩ := ar
          cases hreps with | cons q1 q2 => cases q1; cases q2; rfl
        refine Does.wp (κ := κ) (rs := .ok (.val (.int .u64 b)) fr st) ?_ ha
        exact ⟨_, _, w, κ, lam, by rw [hexec, this]; exact hg.bits f hext b w, .inl rfl, r, Rep.int _ _, .refl _ _ _, rfl⟩
      · rename_i b hargs
        cases hv'
        rw [hargs] at hreps
        have : (F ++ args.map a.eval) ++ C = #[.int .u64 b] := by
          generalize ((F ++ args.map a.eval) ++ C) = ar at hreps
          obtain ⟨l⟩ := ar
          cases hreps with | cons q1 q2 => cases q1; cases q2; rfl
        refine Does.wp (κ := κ) (rs := .ok (.val (.float .f64 b.toNat)) fr st) ?_ ha
        exact ⟨_, _, w, κ, lam, by rw [hexec, this]; exact hg.ofBits f hext b w, .inl rfl, r, Rep.float _ _, .refl _ _ _, rfl⟩
      · rename_i b hargs
        simp only [Option.map_eq_some_iff] at hv'
        obtain ⟨t, ht, rfl⟩ := hv'
        rw [hargs] at hreps
        have : (F ++ args.map a.eval) ++ C = #[.float .f64 b] := by
          generalize ((F ++ args.map a.eval) ++ C) = ar at hreps
          obtain ⟨l⟩ := ar
          cases hreps with | cons q1 q2 => cases q1; cases q2; rfl
        refine Does.wp (κ := κ) (rs := .ok (.val (.float .f64 t)) fr st) ?_ ha
        exact ⟨_, _, w, κ, lam, by rw [hexec, this]; exact hg.trunc f hext b t w ht, .inl rfl, r, Rep.float _ _, .refl _ _ _, rfl⟩
      · cases hv'
    · cases h
  · split at h
    · cases h
    · rename_i fi hfi
      obtain ⟨fn, f1, f2, f3, f4, f5⟩ := hg.fn f fi hfi
      have henter : (execOp a.eval o).run P w = .ok (.enter f ((F ++ args.map a.eval) ++ C)) w := by
        rw [hexec]
        unfold callFunc
        have f6 : ¬ fn.name = "runtime.NumGoroutine" := by simpa using f5
        simp [f1, f2, f6]
      unfold Oper.wp
      rw [henter]
      split at h
      · -- a quiet one
        split at h
        · rename_i v k st1 hcall
          split at h
          · rename_i hflat
            cases h
            refine (pure_call hc r hreps hcall hflat).mono fun e w' ⟨κ2, u, he, r2, hout, p2⟩ => ?_
            subst he
            obtain ⟨κ3, r3, v3, p3⟩ := ret_rep r2 hout
            exact ha u w' κ3 lam r3 v3 ((p2.mono fun L hL => keep_up hwp hL).trans (p3.mono fun L hL s e => keep_tmp1 (e ▸ hL))) rfl
          · cases h
        · cases h
      · split at h
        · rename_i v k st1 hcall
          cases h
          refine (hc f _ _ _ _ hcall (d + 1) κ w _ r.sim hreps).mono fun e w' ⟨κ', h1', h2', h3', h4'⟩ => ?_
          have r2 := call_frame r h3' h2'
          have hout : ∃ u, e = .returned u := by
            cases k with
            | none => obtain ⟨u, rfl, _⟩ := h1'; exact ⟨u, rfl⟩
            | some k => obtain ⟨u, s, rfl, _⟩ := h1'; exact ⟨u, rfl⟩
          obtain ⟨u, rfl⟩ := hout
          obtain ⟨κ3, r3, v3, p3⟩ := ret_rep r2 h1'
          exact ha u w' κ3 lam r3 v3 ((h3'.mono fun L hL => keep_up (Nat.le_refl _) hL).trans (p3.mono fun L hL s e => keep_tmp1 (e ▸ hL))) h4'
        · rename_i v st1 hcall
          cases h
          refine (hc f _ _ _ _ hcall (d + 1) κ w _ r.sim hreps).mono fun e w' ⟨κ', h1', h2', h3', h4'⟩ => ?_
          obtain ⟨u, rfl, q2⟩ := h1'
          exact ha u w' κ' q2 h2' (h3'.mono fun L hL => keep_up (Nat.le_refl _) hL) h4'
        · cases h

theorem stepE_wp {g : G} {fi : FI} {call : Calling} (hg : GOk P g) (hc : CallOk P call) (r : R d n κ w lam fr st a) {rs : Rs} (h : stepE g fi call fr st o = some rs)
    {next : Act → World → Prop} {Q : Exit → Act → World → Prop} (ha : After d n κ w st a next Q o.dst rs) : o.wp P a w next Q := by
  unfold stepE at h
  split at h
  · rename_i x args ats ho
    split at h
    · rename_i f first cap vs hx hv
      exact call_wp hg hc r ho hx hv h ha
    · cases h
  · exact (stepOp_ok hg.ty r h).wp ha
theorem stepM_wp {g : G} {fi : FI} {call : Calling} (hg : GOk P g) (hc : CallOk P call) (r : R d n κ w lam fr st a) {rs : Rs} (h : stepM g fi call fr st o = some rs)
    {next : Act → World → Prop} {Q : Exit → Act → World → Prop} (ha : After d n κ w st a next Q o.dst rs) : o.wp P a w next Q := by
  unfold stepM at h
  split at h
  · exact (markStep_ok hg.ty r h).wp ha
  · exact stepE_wp hg hc r h ha
end Go.Ab
