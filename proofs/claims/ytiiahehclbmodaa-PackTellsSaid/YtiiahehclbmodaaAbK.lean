/- Code, functions: the interpreter's answer is the program's. -/
import Derived.Test.YtiiahehclbmodaaAbJ
import Derived.LoopN
namespace Go.Ab
open Go
set_option linter.unusedVariables false
set_option linter.unusedSimpArgs false
set_option linter.unnecessarySimpa false

variable {P : Program} {d n : Nat} {κ : K} {w : World} {lam : Lam} {fr fr' : Fr} {st : St} {a : Act} {o : Oper}
variable {g : G} {fi : FI} {call : Calling}

/-- What holds behind code. -/
def FinX (d n : Nat) (κ : K) (w : World) (st : St) (Q : Exit → Act → World → Prop) (x : X) (fr' : Fr) (st' : St) : Prop :=
  match x with
  | .normal => ∀ a' w' κ' lam', R d n κ' w' lam' fr' st' a' → Pres (Keep d st.wp) κ w κ' w' → st'.wp = st.wp → Q .normal a' w'
  | .exit id => ∀ a' w' κ' lam', R d n κ' w' lam' fr' st' a' → Pres (Keep d st.wp) κ w κ' w' → st'.wp = st.wp → Q (.exit id) a' w'
  | .ret => ∀ a' w' κ' lam', R d n κ' w' lam' fr' st' a' → Pres (Keep d st.wp) κ w κ' w' → st'.wp = st.wp → Q .ret a' w'
  | .pan v => ∀ a' u w' κ', a'.defers = [] → Rep κ' w' u v → Sim κ' w' st' → Pres (Keep d st.wp) κ w κ' w' → st'.wp = st.wp → Q (.panic [{ v := u, recovered := false }]) a' w'

theorem FinX.trans {st1 : St} {κ1 : K} {w1 : World} {Q : Exit → Act → World → Prop} {x : X} {st' : St} (h : FinX d n κ w st Q x fr' st') (p : Pres (Keep d st.wp) κ w κ1 w1) (e : st1.wp = st.wp) : FinX d n κ1 w1 st1 Q x fr' st' := by
  cases x with
  | pan v => exact fun a' u w' κ' hd r s q f => h a' u w' κ' hd r s (p.trans (e ▸ q)) (f.trans e)
  | _ => exact fun a' w' κ' lam' r q f => h a' w' κ' lam' r (p.trans (e ▸ q)) (f.trans e)

/-- The code's temporaries are the function's. -/
def dstOk (n : Nat) : Code → Bool
  | .region _ ops _ => ops.toList.all fun o => match o.dst with | some s => decide (s < n) | none => true
  | .seq a b => dstOk n a && dstOk n b
  | .cond _ a b => dstOk n a && dstOk n b
  | .block _ b => dstOk n b
  | .loop b => dstOk n b
  | _ => true

theorem dst_of {ops : Array Oper} {id : Nat} {draw : Bool} (h : dstOk n (.region id ops draw) = true) : ∀ o ∈ ops.toList, ∀ s, o.dst = some s → s < n := by
  intro o ho s hs
  simp only [dstOk] at h
  have := List.all_eq_true.1 h o ho
  rw [hs] at this
  simpa using this

/-- What holds behind a row of operations, as what holds behind code. -/
def rgX : Rg → X
  | .ok _ _ => .normal
  | .pan v _ => .pan v

theorem code_wp {g : G} {fi : FI} {call : Calling} (hg : GOk P g) (hc : CallOk P call) (m : Nat) : ∀ (c : Code) {κ : K} {w : World} {lam : Lam} {fr : Fr} {st : St} {a : Act} {Q : Exit → Act → World → Prop} {x : X} {fr' : Fr} {st' : St},
    dstOk n c = true → R d n κ w lam fr st a → evalCode g fi call m c fr st = some (x, fr', st') → FinX d n κ w st Q x fr' st' → c.wp P Q a w
  | .skip, κ, w, lam, fr, st, a, Q, x, fr', st', _, r, h, f => by
    simp only [evalCode, Option.some.injEq, Prod.mk.injEq] at h
    obtain ⟨rfl, rfl, rfl⟩ := h
    exact wp_skip (f a w κ lam r (.refl _ _ _) rfl)
  | .region id ops draw, κ, w, lam, fr, st, a, Q, x, fr', st', hd, r, h, f => by
    simp only [evalCode] at h
    split at h
    · rename_i hdr
      subst hdr
      split at h
      · rename_i hB
        split at h
        · rename_i fr1 st1 he
          cases h
          exact draw_wp hg hc (dst_of hd) r hB he (fun a' w' κ' lam' r' p e => f a' w' κ' lam' r' p e) id
        · rename_i v st1 he
          cases h
          exact draw_wp hg hc (dst_of hd) r hB he (fun a' u w' κ' hd q s p e => f a' u w' κ' hd q s p e) id
        · cases h
      · cases h
    · rename_i hdr
      have : draw = false := by simpa using hdr
      subst this
      have r1 : R d n κ w lam fr.clear st a := r.clear
      split at h
      · rename_i fr1 st1 he
        cases h
        refine wp_region ?_
        rw [List.range_eq_range']
        exact ops_wp hg hc (dst_of hd) _ 0 (rg := .ok fr' st') rfl r1 he (fun a' w' κ' lam' r' p e => f a' w' κ' lam' r' p e)
      · rename_i v st1 he
        cases h
        refine wp_region ?_
        rw [List.range_eq_range']
        exact ops_wp hg hc (dst_of hd) _ 0 (rg := .pan v st') rfl r1 he (fun a' u w' κ' hd q s p e => f a' u w' κ' hd q s p e)
      · cases h
  | .seq c1 c2, κ, w, lam, fr, st, a, Q, x, fr', st', hd, r, h, f => by
    simp only [dstOk, Bool.and_eq_true] at hd
    simp only [evalCode] at h
    refine wp_seq ?_
    split at h
    · rename_i fr1 st1 h1
      refine code_wp hg hc m c1 hd.1 r h1 ?_
      intro a1 w1 κ1 lam1 r1 p1 e1
      exact code_wp hg hc m c2 hd.2 r1 h (f.trans p1 e1)
    · rename_i hne
      refine code_wp hg hc m c1 hd.1 r h ?_
      cases x with
      | normal => exact (hne _ _ h).elim
      | _ => exact f
  | .cond c c1 c2, κ, w, lam, fr, st, a, Q, x, fr', st', hd, r, h, f => by
    simp only [dstOk, Bool.and_eq_true] at hd
    simp only [evalCode] at h
    have hb : ∀ b, (fr.op c).bool? = some b → a.eval c = .bool b := by
      intro b hb
      have h1 := r.op c
      cases he : fr.op c <;> rw [he] at hb h1 <;> simp only [E.bool?] at hb <;> try cases hb
      rename_i v
      cases v <;> simp only [E.bool?] at hb <;> try cases hb
      exact Rep.bool_inv h1
    split at h
    · rename_i hb1
      exact wp_cond_true (hb _ hb1) (code_wp hg hc m c1 hd.1 r h f)
    · rename_i hb1
      exact wp_cond_false (hb _ hb1) (code_wp hg hc m c2 hd.2 r h f)
    · cases h
  | .block id c, κ, w, lam, fr, st, a, Q, x, fr', st', hd, r, h, f => by
    simp only [dstOk] at hd
    simp only [evalCode] at h
    refine wp_block ?_
    split at h
    · rename_i i fr1 st1 h1
      refine code_wp hg hc m c hd r h1 ?_
      intro a1 w1 κ1 lam1 r1 p1 e1
      simp only [Exit.inBlock]
      split at h
      · rename_i hi
        cases h
        have : i = id := by simpa using hi
        rw [if_pos this]
        exact f a1 w1 κ1 lam1 r1 p1 e1
      · rename_i hi
        cases h
        have : ¬ i = id := by simpa using hi
        rw [if_neg this]
        exact f a1 w1 κ1 lam1 r1 p1 e1
    · rename_i hne
      refine code_wp hg hc m c hd r h ?_
      cases x with
      | exit i => exact (hne _ _ _ h).elim
      | _ => exact f
  | .loop c, κ, w, lam, fr, st, a, Q, x, fr', st', hd, r, h, f => by
    simp only [dstOk] at hd
    simp only [evalCode] at h
    have key : ∀ k {κ : K} {w : World} {lam : Lam} {fr : Fr} {st : St} {a : Act}, R d n κ w lam fr st a → iterate (evalCode g fi call m c) k fr st = some (x, fr', st') → FinX d n κ w st Q x fr' st' → Code.rounds P c Q k a w := by
      intro k
      induction k with
      | zero => intro κ w lam fr st a _ h _; simp [iterate] at h
      | succ k ih =>
        intro κ w lam fr st a r h f
        rw [rounds_succ]
        simp only [iterate] at h
        split at h
        · rename_i fr1 st1 h1
          refine code_wp hg hc m c hd r h1 ?_
          intro a1 w1 κ1 lam1 r1 p1 e1
          exact ih r1 h (f.trans p1 e1)
        · rename_i hne
          refine code_wp hg hc m c hd r h ?_
          cases x with
          | normal => exact (hne _ _ h).elim
          | _ => exact f
    exact wp_loop_rounds m (key m r h f)
  | .exit id, κ, w, lam, fr, st, a, Q, x, fr', st', _, r, h, f => by
    simp only [evalCode, Option.some.injEq, Prod.mk.injEq] at h
    obtain ⟨rfl, rfl, rfl⟩ := h
    exact wp_exit (f a w κ lam r (.refl _ _ _) rfl)
  | .ret, κ, w, lam, fr, st, a, Q, x, fr', st', _, r, h, f => by
    simp only [evalCode, Option.some.injEq, Prod.mk.injEq] at h
    obtain ⟨rfl, rfl, rfl⟩ := h
    exact wp_ret (f a w κ lam r (.refl _ _ _) rfl)
  | .goto _, _, _, _, _, _, _, _, _, _, _, _, _, h, _ => by simp [evalCode] at h
  | .label _, _, _, _, _, _, _, _, _, _, _, _, _, h, _ => by simp [evalCode] at h
end Go.Ab
