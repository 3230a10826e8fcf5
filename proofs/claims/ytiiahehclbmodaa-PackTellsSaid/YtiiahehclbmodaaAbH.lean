/- Rows of operations. -/
import Derived.Test.YtiiahehclbmodaaAbG
namespace Go.Ab
open Go
set_option linter.unusedVariables false
set_option linter.unusedSimpArgs false
set_option linter.unnecessarySimpa false

variable {P : Program} {d n : Nat} {κ : K} {w : World} {lam : Lam} {fr : Fr} {st : St} {a : Act} {o : Oper}

/-- Is an operation wanted? -/
theorem wanted_ok (r : R d n κ w lam fr st a) {ops : Array Oper} {b : Bool} (h : wantedE ops.toList o fr = some b) : Region.wanted o (yielded ops a.tmps) = b := by
  unfold wantedE at h
  unfold Region.wanted
  cases hg : o.guard with
  | none => rw [hg] at h; simp only [Option.some.injEq] at h; exact h
  | some jw =>
    obtain ⟨j, want⟩ := jw
    rw [hg] at h
    simp only at h ⊢
    split at h
    · rename_i s hs
      split at h
      · rename_i c hc
        cases h
        have h1 := r.fm.tmp s
        rw [hc] at h1
        have h2 : a.tmps.getD s undef = .bool c := Rep.bool_inv h1
        have h3 : a.tmps[s]? = some (.bool c) := by
          rw [Array.getD_eq_getD_getElem?] at h2
          cases hx : a.tmps[s]? with
          | none => rw [hx] at h2; simp [undef] at h2
          | some v => rw [hx] at h2; simpa using h2
        have h4 : (ops[j]?).bind (·.dst) = some s := by rw [← Array.getElem?_toList]; exact hs
        unfold yielded
        rw [h4]
        simp [h3]
      · rename_i hc
        cases h
        have h1 := r.fm.tmp s
        rw [hc] at h1
        obtain ⟨vs, h2, h3⟩ := Rep.tuple_inv h1
        have h4 : (ops[j]?).bind (·.dst) = some s := by rw [← Array.getElem?_toList]; exact hs
        unfold yielded
        rw [h4]
        rw [Array.getD_eq_getD_getElem?] at h2
        cases hx : a.tmps[s]? with
        | none => simp [hx]
        | some v => rw [hx] at h2; simp at h2; subst h2; simp [hx]
      · cases h
    · cases h

theorem putO_ok (r : R d n κ w lam fr st a) {dst : Option Nat} (hd : ∀ s, dst = some s → s < n) {e : E} {v : Value} (hv : RepV κ w lam fr st a.tmps v e) :
    ∃ κ', R d n κ' w lam (fr.putO dst e) st (a.put dst v) ∧ Pres (fun L => L ≠ .fly) κ w κ' w := by
  cases dst with
  | none => exact ⟨κ, r, .refl _ _ _⟩
  | some s => exact r.put (hd s rfl) hv

/-- What holds behind a row of operations. -/
def Fin (d n : Nat) (κ : K) (w : World) (st : St) (Q : Exit → Act → World → Prop) : Rg → Prop
  | .ok fr' st' => ∀ a' w' κ' lam', R d n κ' w' lam' fr' st' a' → Pres (Keep d st.wp) κ w κ' w' → st'.wp = st.wp → Q .normal a' w'
  | .pan v st' => ∀ a' u w' κ', a'.defers = [] → Rep κ' w' u v → Sim κ' w' st' → Pres (Keep d st.wp) κ w κ' w' → st'.wp = st.wp → Q (.panic [{ v := u, recovered := false }]) a' w'

theorem Fin.trans {st1 : St} {κ1 : K} {w1 : World} {Q : Exit → Act → World → Prop} {rg : Rg} (h : Fin d n κ w st Q rg) (p : Pres (Keep d st.wp) κ w κ1 w1) (e : st1.wp = st.wp) : Fin d n κ1 w1 st1 Q rg := by
  cases rg with
  | ok fr' st' => exact fun a' w' κ' lam' r q f => h a' w' κ' lam' r (p.trans (e ▸ q)) (f.trans e)
  | pan v st' => exact fun a' u w' κ' hd r s q f => h a' u w' κ' hd r s (p.trans (e ▸ q)) (f.trans e)

theorem pres_fly {wp : Nat} {κ' : K} {w' : World} (p : Pres (fun L => L ≠ .fly) κ w κ' w') : Pres (Keep d wp) κ w κ' w' := p.mono fun L hL e => keep_fly d wp (e ▸ hL)

theorem ops_wp {g : G} {fi : FI} {call : Calling} (hg : GOk P g) (hc : CallOk P call) {ops : Array Oper} (hb : ∀ o ∈ ops.toList, ∀ s, o.dst = some s → s < n) {Q : Exit → Act → World → Prop} {rg : Rg} :
    ∀ (os : List Oper) (i : Nat) {κ : K} {w : World} {lam : Lam} {fr : Fr} {st : St} {a : Act}, ops.toList.drop i = os → R d n κ w lam fr st a → evalOps g fi call ops.toList os fr st = some rg → Fin d n κ w st Q rg →
      wpOps P ops Q (List.range' i os.length) a w
  | [], i, κ, w, lam, fr, st, a, _, r, h, hf => by
    simp only [evalOps, Option.some.injEq] at h; subst h
    exact hf a w κ lam r (.refl _ _ _) rfl
  | o :: os, i, κ, w, lam, fr, st, a, hdr, r, h, hf => by
    have hoi : ops[i]? = some o := by
      have := congrArg (fun l => l[0]?) hdr
      simpa using this
    have hmem : o ∈ ops.toList := List.mem_of_mem_drop (hdr ▸ List.mem_cons_self)
    have hdr' : ops.toList.drop (i + 1) = os := by
      have := congrArg List.tail hdr
      simpa using this
    have hdst := hb o hmem
    rw [List.length_cons, List.range'_succ]
    simp only [wpOps, hoi]
    unfold evalOps at h
    split at h
    · rename_i hw
      rw [wanted_ok r hw, if_pos rfl]
      refine .inl ?_
      split at h
      · rename_i e fr' st' hs
        refine stepM_wp hg hc r hs ?_
        intro v w' κ' lam' r' v' p e'
        obtain ⟨κ2, r2, p2⟩ := putO_ok r' hdst v'
        exact ops_wp hg hc hb os (i + 1) hdr' r2 h (hf.trans (p.trans (pres_fly p2)) e')
      · rename_i v st' hs
        cases h
        refine stepM_wp hg hc r hs ?_
        intro u w' κ' q s p e'
        exact hf a u w' κ' r.fm.defers q s p e'
      · cases h
    · rename_i hw
      rw [wanted_ok r hw]
      simp only [Bool.false_eq_true, if_false]
      obtain ⟨κ2, r2, p2⟩ := putO_ok (e := .val (.tuple [])) (v := undef) r hdst (Rep.tuple .nil)
      exact ops_wp hg hc hb os (i + 1) hdr' r2 h (hf.trans (pres_fly p2) rfl)
    · cases h
end Go.Ab
