/- FilterAll: whatever it is given, the call returns true and leaves what was there as it was; no condition. Part 6. -/
import Derived.Test.YtclpbfkbpcjejaaK5
namespace Go.Ab
open Go
set_option linter.unusedVariables false
set_option linter.unusedSimpArgs false
set_option linter.unnecessarySimpa false
theorem pair_fv {a b : Val} {ra rb : Option (Int × Int)} (ha : FV a ra) (hb : FV b rb) : okPair (a, ra) (b, rb) = true :=
  List.all_eq_true.1 (List.all_eq_true.1 pairs_ok _ ha) _ hb
theorem cmp_fv {a b : Val} {ra rb : Option (Int × Int)} (ha : FV a ra) (hb : FV b rb) : cmp a b = rcmp ra rb := by
  have := pair_fv ha hb
  simp only [okPair, Bool.and_eq_true, decide_eq_true_eq] at this
  exact this.1.1.1
theorem same_fv {a b : Val} {ra rb : Option (Int × Int)} (ha : FV a ra) (hb : FV b rb) (h : vsame a b = true) : ra = rb := by
  have := pair_fv ha hb
  simp only [okPair, Bool.and_eq_true, h, Bool.not_true, Bool.false_or, decide_eq_true_eq] at this
  exact this.1.1.2
theorem pre_fv {a b : Val} {ra rb : Option (Int × Int)} (ha : FV a ra) (hb : FV b rb) (h1 : a.kind = 3) (h2 : b.kind = 3) (h : isPre a.s b.s = true) : (cmp a b).1 ≥ 0 := by
  have := pair_fv ha hb
  simp only [okPair, Bool.and_eq_true, h, h1, h2, decide_true, Bool.and_self, Bool.not_true, Bool.false_or, decide_eq_true_eq] at this
  exact this.1.2
theorem vis_s {a b : Val} {ra rb : Option (Int × Int)} (ha : FV a ra) (hb : FV b rb) (h : vis a b = true) : a.s = b.s ∧ (a.kind = 3) = (b.kind = 3) := by
  have := pair_fv ha hb
  simp only [okPair, Bool.and_eq_true, h, Bool.not_true, Bool.false_or, decide_eq_true_eq] at this
  exact this.2
theorem sgn_zero {x y : Int} : sgn (decide (x < y)) (decide (x > y)) = 0 ↔ x = y := by
  unfold sgn
  by_cases h1 : x < y
  · simp [h1]; omega
  · by_cases h2 : x > y
    · simp [h1, h2]; omega
    · simp [h1, h2]; omega
theorem sgn_pos {x y : Int} : sgn (decide (x < y)) (decide (x > y)) > 0 ↔ x > y := by
  unfold sgn
  by_cases h1 : x < y
  · simp [h1]; omega
  · by_cases h2 : x > y
    · simp [h1, h2]
    · simp [h1, h2]
theorem sgn_neg {x y : Int} : sgn (decide (x < y)) (decide (x > y)) < 0 ↔ x < y := by
  unfold sgn
  by_cases h1 : x < y
  · simp [h1]
  · by_cases h2 : x > y
    · simp [h1, h2]
    · simp [h1, h2]
theorem vis_fv {a b : Val} {ra rb : Option (Int × Int)} (ha : FV a ra) (hb : FV b rb) (h : vis a b = true) : ra = rb := by
  unfold vis at h
  rw [cmp_fv ha hb] at h
  cases ra with
  | none => simp [rcmp] at h
  | some r =>
    cases rb with
    | none => simp [rcmp] at h
    | some s =>
      obtain ⟨c, x⟩ := r
      obtain ⟨d, y⟩ := s
      unfold rcmp at h
      by_cases hcd : c = d
      · subst hcd
        simp only [if_true, Bool.true_and, decide_eq_true_eq, sgn_zero] at h
        rw [h]
      · simp [hcd] at h
/-- A test of what a feed yields. -/
structure PFV (p : Pred) : Prop where
  v : ∃ r, FV p.v r
  w : ∃ r, FV p.w r
  set : ∀ x ∈ p.set, ∃ r, FV x r
theorem any_congr {l : List Val} {f g : Val → Bool} (h : ∀ y ∈ l, f y = g y) : l.any f = l.any g := by
  induction l with
  | nil => rfl
  | cons a r ih => rw [List.any_cons, List.any_cons, h a (by simp), ih (fun y hy => h y (by simp [hy]))]
theorem ptakes_congr {p : Pred} {v x : Val} (h1 : cmp v p.v = cmp x p.v) (h2 : cmp v p.w = cmp x p.w) (h3 : ∀ y ∈ p.set, vis v y = vis x y) (hk : (v.kind = 3) = (x.kind = 3)) (hs : v.s = x.s) : ptakes p v = ptakes p x := by
  unfold ptakes
  rw [h1, h2, hs, any_congr h3]
  simp only [hk]
theorem takes_vis {p : Pred} {v x : Val} {rv rx : Option (Int × Int)} (hp : PFV p) (hv : FV v rv) (hx : FV x rx) (h : vis v x = true) : ptakes p v = ptakes p x := by
  have e := vis_fv hv hx h
  subst e
  obtain ⟨hs, hk⟩ := vis_s hv hx h
  obtain ⟨r1, h1⟩ := hp.v
  obtain ⟨r2, h2⟩ := hp.w
  refine ptakes_congr ?_ ?_ ?_ hk hs
  · rw [cmp_fv hv h1, cmp_fv hx h1]
  · rw [cmp_fv hv h2, cmp_fv hx h2]
  · intro y hy
    obtain ⟨r3, h3⟩ := hp.set y hy
    unfold vis
    rw [cmp_fv hv h3, cmp_fv hx h3]
theorem nan_none {x : Val} (h : vnan x = true) (v : Val) : (cmp v x).2 = false := by
  unfold vnan at h
  simp only [Bool.and_eq_true, decide_eq_true_eq, Bool.not_eq_true'] at h
  obtain ⟨h1, h2⟩ := h
  unfold cmp
  by_cases a1 : v.kind = 1
  · simp [a1, h1, icmp, h2]
  · by_cases a2 : v.kind = 2
    · simp [a2, h1, fcmp, h2]
    · simp [a1, a2, h1]
/-- A void test takes nothing. -/
theorem void_none {q : Pred} {v : Val} (hq : PFV q) (hv : ∃ r, FV v r) (h : pvoid q = true) : ptakes q v = false := by
  unfold pvoid at h
  unfold ptakes
  cases hr : pright q with
  | false => rfl
  | true =>
    rw [hr] at h
    simp only [if_true] at h ⊢
    by_cases h2 : q.test = 2 ∨ (4 ≤ q.test ∧ q.test ≤ 7)
    · rw [if_pos h2] at h
      have e := nan_none h v
      rcases h2 with h2 | ⟨h2, h3⟩
      · simp [h2, e]
      · have : q.test = 4 ∨ q.test = 5 ∨ q.test = 6 ∨ q.test = 7 := by omega
        rcases this with t | t | t | t <;> simp [t, e]
    · rw [if_neg h2] at h
      by_cases h8 : q.test = 8
      · rw [if_pos h8] at h
        obtain ⟨r1, h1⟩ := hq.v
        obtain ⟨r2, h2⟩ := hq.w
        obtain ⟨r, hv⟩ := hv
        rw [cmp_fv h1 h2] at h
        rw [cmp_fv hv h1, cmp_fv hv h2]
        simp [h8]
        intro a1 a2 a3
        cases r with
        | none => simp [rcmp] at a1
        | some r =>
          obtain ⟨c, x⟩ := r
          cases r1 with
          | none => simp [rcmp] at a1
          | some r1 =>
            obtain ⟨c1, x1⟩ := r1
            cases r2 with
            | none => simp [rcmp] at a3
            | some r2 =>
              obtain ⟨c2, x2⟩ := r2
              by_cases e1 : c = c1
              · by_cases e2 : c = c2
                · subst e1; subst e2
                  simp only [rcmp, if_true, Bool.not_true, Bool.false_or, decide_eq_true_eq, sgn_pos] at h a2 ⊢
                  have b1 : ¬ sgn (decide (x < x1)) (decide (x > x1)) < 0 := by omega
                  rw [sgn_neg] at b1
                  have b2 : sgn (decide (x < x2)) (decide (x > x2)) > 0 := sgn_pos.2 (by omega)
                  omega
                · simp [rcmp, e2] at a3
              · simp [rcmp, e1] at a1
      · rw [if_neg h8] at h
        by_cases h10 : q.test = 10
        · rw [if_pos h10] at h
          simp [h10]
          intro x hx
          have := nan_none (List.all_eq_true.1 h x hx) v
          unfold vis
          rw [this]; rfl
        · rw [if_neg h10] at h; cases h
/-- Is a value on the right side of an end? -/
def inLow (v : Val) (e : PEnd) : Bool := !e.is || ((cmp v e.v).2 && (decide ((cmp v e.v).1 > 0) || (decide ((cmp v e.v).1 = 0) && !e.op)))
def inHigh (v : Val) (e : PEnd) : Bool := !e.is || ((cmp v e.v).2 && (decide ((cmp v e.v).1 < 0) || (decide ((cmp v e.v).1 = 0) && !e.op)))
theorem takes_ends {r : Pred} (hr : pright r = true) (h1 : 4 ≤ r.test) (h2 : r.test ≤ 8) (v : Val) : ptakes r v = (inLow v (lowE r) && inHigh v (highE r)) := by
  unfold ptakes
  rw [hr]
  have : r.test = 4 ∨ r.test = 5 ∨ r.test = 6 ∨ r.test = 7 ∨ r.test = 8 := by omega
  have t1 := cmp_tri v r.v
  have t2 := cmp_tri v r.w
  rcases this with t | t | t | t | t
  · simp [t, inLow, inHigh, lowE, highE]
  · simp [t, inLow, inHigh, lowE, highE]; rcases t1 with e | e | e <;> simp [e]
  · simp [t, inLow, inHigh, lowE, highE]
  · simp [t, inLow, inHigh, lowE, highE]; rcases t1 with e | e | e <;> simp [e]
  · simp [t, inLow, inHigh, lowE, highE]
    rcases t1 with e | e | e <;> rcases t2 with e' | e' | e' <;> simp [e, e']
theorem low_sound {v : Val} {q p : PEnd} {rv rq rp : Option (Int × Int)} (hv : FV v rv) (hq : FV q.v rq) (hp : FV p.v rp) (hw : within q p 1 = true) (h : inLow v q = true) : inLow v p = true := by
  unfold within at hw
  unfold inLow at h ⊢
  cases hpi : p.is with
  | false => rfl
  | true =>
    rw [hpi] at hw
    cases hqi : q.is with
    | false => rw [hqi] at hw; cases hw
    | true =>
      rw [hqi] at hw h
      simp only [if_true, Bool.not_true, Bool.false_or] at hw h ⊢
      rw [cmp_fv hv hq] at h
      rw [cmp_fv hq hp] at hw
      rw [cmp_fv hv hp]
      cases rv with
      | none => simp [rcmp] at h
      | some rv =>
        cases rq with
        | none => simp [rcmp] at h
        | some rq =>
          cases rp with
          | none => simp [rcmp] at hw
          | some rp =>
            obtain ⟨c, x⟩ := rv
            obtain ⟨d, y⟩ := rq
            obtain ⟨e, z⟩ := rp
            by_cases e1 : c = d
            · by_cases e2 : d = e
              · subst e1; subst e2
                have key : ∀ {a b : Int}, sgn (decide (a < b)) (decide (a > b)) = 1 ↔ a > b := by
                  intro a b
                  have := @sgn_pos a b
                  have b2 := sgn_bound (decide (a < b)) (decide (a > b))
                  omega
                simp only [rcmp, if_true, Bool.true_and, Bool.or_eq_true, Bool.and_eq_true, decide_eq_true_eq, sgn_pos, sgn_zero, key] at h hw ⊢
                rcases h with h | ⟨h, ho⟩
                · rcases hw with hw | ⟨hw, hx⟩
                  · exact Or.inl (by omega)
                  · exact Or.inl (by omega)
                · rcases hw with hw | ⟨hw, hx⟩
                  · exact Or.inl (by omega)
                  · refine Or.inr ⟨by omega, ?_⟩
                    rcases hx with hx | hx
                    · exact hx
                    · rw [hx] at ho; cases ho
              · simp [rcmp, e2] at hw
            · simp [rcmp, e1] at h
theorem high_sound {v : Val} {q p : PEnd} {rv rq rp : Option (Int × Int)} (hv : FV v rv) (hq : FV q.v rq) (hp : FV p.v rp) (hw : within q p (-1) = true) (h : inHigh v q = true) : inHigh v p = true := by
  unfold within at hw
  unfold inHigh at h ⊢
  cases hpi : p.is with
  | false => rfl
  | true =>
    rw [hpi] at hw
    cases hqi : q.is with
    | false => rw [hqi] at hw; cases hw
    | true =>
      rw [hqi] at hw h
      simp only [if_true, Bool.not_true, Bool.false_or] at hw h ⊢
      rw [cmp_fv hv hq] at h
      rw [cmp_fv hq hp] at hw
      rw [cmp_fv hv hp]
      cases rv with
      | none => simp [rcmp] at h
      | some rv =>
        cases rq with
        | none => simp [rcmp] at h
        | some rq =>
          cases rp with
          | none => simp [rcmp] at hw
          | some rp =>
            obtain ⟨c, x⟩ := rv
            obtain ⟨d, y⟩ := rq
            obtain ⟨e, z⟩ := rp
            by_cases e1 : c = d
            · by_cases e2 : d = e
              · subst e1; subst e2
                have key : ∀ {a b : Int}, sgn (decide (a < b)) (decide (a > b)) = -1 ↔ a < b := by
                  intro a b
                  have := @sgn_neg a b
                  have b2 := sgn_bound (decide (a < b)) (decide (a > b))
                  omega
                simp only [rcmp, if_true, Bool.true_and, Bool.or_eq_true, Bool.and_eq_true, decide_eq_true_eq, sgn_neg, sgn_zero, key] at h hw ⊢
                rcases h with h | ⟨h, ho⟩
                · rcases hw with hw | ⟨hw, hx⟩
                  · exact Or.inl (by omega)
                  · exact Or.inl (by omega)
                · rcases hw with hw | ⟨hw, hx⟩
                  · exact Or.inl (by omega)
                  · refine Or.inr ⟨by omega, ?_⟩
                    rcases hx with hx | hx
                    · exact hx
                    · rw [hx] at ho; cases ho
              · simp [rcmp, e2] at hw
            · simp [rcmp, e1] at h
theorem pre_trans {a b c : List UInt8} (h1 : isPre a b = true) (h2 : isPre b c = true) : isPre a c = true := by
  unfold isPre at h1 h2 ⊢
  simp only [Bool.and_eq_true, decide_eq_true_eq] at h1 h2 ⊢
  refine ⟨by omega, ?_⟩
  have := congrArg (List.take c.length) h1.2
  rw [List.take_take, Nat.min_eq_left (by omega), h2.2] at this
  exact this
theorem sames_vis {v : Val} {rv : Option (Int × Int)} (hv : FV v rv) : ∀ {a b : List Val}, (∀ x ∈ a, ∃ r, FV x r) → (∀ x ∈ b, ∃ r, FV x r) → sames a b = true → a.any (vis v) = b.any (vis v)
  | [], [], _, _, _ => rfl
  | x :: a, y :: b, ha, hb, h => by
    simp only [sames, Bool.and_eq_true] at h
    obtain ⟨r1, h1⟩ := ha x (by simp)
    obtain ⟨r2, h2⟩ := hb y (by simp)
    have e := same_fv h1 h2 h.1
    subst e
    rw [List.any_cons, List.any_cons, sames_vis hv (fun z hz => ha z (by simp [hz])) (fun z hz => hb z (by simp [hz])) h.2]
    unfold vis
    rw [cmp_fv hv h1, cmp_fv hv h2]
  | [], _ :: _, _, _, h => by simp [sames] at h
  | _ :: _, [], _, _, h => by simp [sames] at h
/-- What a test takes is taken by each that it implies. -/
theorem sound {q p : Pred} {v : Val} (hq : PFV q) (hp : PFV p) (hv : ∃ r, FV v r) (hi : pimplies q p = true) (ht : ptakes q v = true) : ptakes p v = true := by
  have hv' := hv
  obtain ⟨rv, fv⟩ := hv
  obtain ⟨rq, fq⟩ := hq.v
  obtain ⟨rp, fp⟩ := hp.v
  unfold pimplies at hi
  cases hqr : pright q with
  | false => rw [hqr] at hi; cases hi
  | true =>
    cases hpr : pright p with
    | false => rw [hqr, hpr] at hi; cases hi
    | true =>
      rw [hqr, hpr] at hi
      simp only [Bool.and_self, if_true] at hi
      cases hvd : pvoid q with
      | true => rw [void_none hq hv' hvd] at ht; cases ht
      | false =>
        rw [hvd] at hi
        by_cases p1 : p.test = 1
        · unfold ptakes; rw [hpr]; simp [p1]
        · simp only [p1, decide_false, Bool.false_or, Bool.false_eq_true, if_false] at hi
          split at hi
          · rename_i hs
            simp only [Bool.and_eq_true, decide_eq_true_eq] at hs
            obtain ⟨hte, ⟨s1, s2⟩, s3⟩ := hs
            obtain ⟨rq2, fq2⟩ := hq.w
            obtain ⟨rp2, fp2⟩ := hp.w
            have e1 := same_fv fq fp s1
            have e2 := same_fv fq2 fp2 s2
            subst e1; subst e2
            have hss : q.v.s = p.v.s := by
              unfold vsame at s1; simp only [Bool.and_eq_true, decide_eq_true_eq] at s1; exact s1.1.1.2
            rw [← ht]
            unfold ptakes
            rw [hqr, hpr, hte, cmp_fv fv fq, cmp_fv fv fp, cmp_fv fv fq2, cmp_fv fv fp2, sames_vis fv hq.set hp.set s3, hss]
          · split at hi
            · rename_i p3
              cases hvi : vis v p.v with
              | false =>
                unfold ptakes; rw [hpr]
                unfold vis at hvi
                simp [p3]
                cases hc2 : (cmp v p.v).2 with
                | false => exact .inl rfl
                | true => rw [hc2] at hvi; exact .inr (by simpa using hvi)
              | true =>
                rw [← takes_vis hq fv fp hvi, ht] at hi; cases hi
            · split at hi
              · rename_i q2
                have hvi : vis v q.v = true := by
                  unfold ptakes at ht; rw [hqr] at ht; simp [q2] at ht
                  unfold vis; simp [ht]
                rw [takes_vis hp fv fq hvi]; exact hi
              · split at hi
                · rename_i q10
                  have ha : q.set.any (vis v) = true := by
                    unfold ptakes at ht; rw [hqr] at ht; simpa [q10] using ht
                  obtain ⟨x, hx, hvx⟩ := List.any_eq_true.1 ha
                  have := List.all_eq_true.1 hi x hx
                  obtain ⟨rx, fx⟩ := hq.set x hx
                  rw [takes_vis hp fv fx hvx]
                  cases hn : vnan x with
                  | true =>
                    have := nan_none hn v
                    unfold vis at hvx; rw [this] at hvx; cases hvx
                  | false => rw [hn] at this; simpa using this
                · split at hi
                  · rename_i he
                    rw [ended_key, ended_key] at he
                    simp only [Bool.and_eq_true, decide_eq_true_eq] at he hi
                    rw [takes_ends hqr he.1.1 he.1.2] at ht
                    rw [takes_ends hpr he.2.1 he.2.2]
                    simp only [Bool.and_eq_true] at ht ⊢
                    have lowv : ∀ {r : Pred}, PFV r → ∃ s, FV (lowE r).v s := by
                      intro r hr
                      unfold lowE; repeat' split
                      · exact hr.v
                      · exact hr.v
                      · exact ⟨none, by unfold FV FVR; simp⟩
                    have highv : ∀ {r : Pred}, PFV r → ∃ s, FV (highE r).v s := by
                      intro r hr
                      unfold highE; repeat' split
                      · exact hr.v
                      · exact hr.w
                      · exact ⟨none, by unfold FV FVR; simp⟩
                    obtain ⟨_, l1⟩ := lowv hq
                    obtain ⟨_, l2⟩ := lowv hp
                    obtain ⟨_, l3⟩ := highv hq
                    obtain ⟨_, l4⟩ := highv hp
                    exact ⟨low_sound fv l1 l2 hi.1 ht.1, high_sound fv l3 l4 hi.2 ht.2⟩
                  · split at hi
                    · rename_i q9
                      have h9 : v.kind = 3 ∧ isPre v.s q.v.s = true := by
                        unfold ptakes at ht; rw [hqr] at ht; simpa [q9] using ht
                      have k3 : q.v.kind = 3 := by
                        unfold pright at hqr; simp [q9] at hqr; exact hqr.2.1.1.2
                      split at hi
                      · rename_i p9
                        unfold ptakes; rw [hpr]; simp [p9, h9.1, pre_trans h9.2 hi]
                      · have hge := pre_fv fv fq h9.1 k3 h9.2
                        have there : (cmp v p.v).2 = true → True := fun _ => trivial
                        rw [cmp_fv fv fq] at hge
                        split at hi
                        · rename_i p7
                          rw [cmp_fv fq fp] at hi
                          unfold ptakes; rw [hpr]; simp [p7]
                          rw [cmp_fv fv fp]
                          have k : ∃ c x, rv = some (c, x) ∧ ∃ y, rq = some (c, y) := by
                            have hcv : (cmp v q.v).2 = true := by unfold cmp; simp [h9.1, k3]
                            rw [cmp_fv fv fq] at hcv
                            cases rv with
                            | none => simp [rcmp] at hcv
                            | some a => cases rq with
                              | none => simp [rcmp] at hcv
                              | some b =>
                                by_cases e : a.1 = b.1
                                · exact ⟨a.1, a.2, rfl, b.2, by rw [e]⟩
                                · simp [rcmp, e] at hcv
                          obtain ⟨c, x, rfl, y, rfl⟩ := k
                          cases rp with
                          | none => simp [rcmp] at hi
                          | some b =>
                            obtain ⟨d, z⟩ := b
                            by_cases e : c = d
                            · subst e
                              simp [rcmp] at hi hge ⊢
                              have a1 := @sgn_neg x y
                              have a2 := @sgn_neg y z
                              have a3 := @sgn_neg x z
                              simp only [GT.gt] at a1 a2 a3
                              omega
                            · simp [rcmp, e] at hi
                        · split at hi
                          · rename_i p6
                            rw [cmp_fv fq fp] at hi
                            unfold ptakes; rw [hpr]; simp [p6]
                            rw [cmp_fv fv fp]
                            have k : ∃ c x, rv = some (c, x) ∧ ∃ y, rq = some (c, y) := by
                              have hcv : (cmp v q.v).2 = true := by unfold cmp; simp [h9.1, k3]
                              rw [cmp_fv fv fq] at hcv
                              cases rv with
                              | none => simp [rcmp] at hcv
                              | some a => cases rq with
                                | none => simp [rcmp] at hcv
                                | some b =>
                                  by_cases e : a.1 = b.1
                                  · exact ⟨a.1, a.2, rfl, b.2, by rw [e]⟩
                                  · simp [rcmp, e] at hcv
                            obtain ⟨c, x, rfl, y, rfl⟩ := k
                            cases rp with
                            | none => simp [rcmp] at hi
                            | some b =>
                              obtain ⟨d, z⟩ := b
                              by_cases e : c = d
                              · subst e
                                simp [rcmp] at hi hge ⊢
                                have a1 := @sgn_neg x y
                                have a2 := @sgn_pos y z
                                have a3 := @sgn_pos x z
                                simp only [GT.gt] at a1 a2 a3
                                omega
                              · simp [rcmp, e] at hi
                          · cases hi
                    · cases hi
end Go.Ab
namespace Go.Ab
open Go
set_option linter.unusedVariables false
set_option linter.unusedSimpArgs false
set_option linter.unnecessarySimpa false
/-- A right one of the row. -/
def VR (v : Val) : Prop := vright v = true ∧ ∃ r, FV v r
def allVR : List Val := (FVR.drop 1).map (·.1)
theorem all_right : allVR.all vright = true := by kernel_rfl
theorem vr_mem {v : Val} (h : v ∈ allVR) : VR v := by
  refine ⟨List.all_eq_true.1 all_right v h, ?_⟩
  unfold allVR at h
  obtain ⟨x, hx, rfl⟩ := List.mem_map.1 h
  exact ⟨x.2, List.mem_of_mem_drop hx⟩
def floatsR : List Val := F14.map fun x => ⟨2, 0, x, [], false⟩
def textsR : List Val := T6.map fun s => ⟨3, 0, 0, s, false⟩
def intsR : List Val := N6.map fun n => ⟨1, n, 0, [], false⟩
theorem floats_in : (floatsR.all fun v => allVR.contains v) = true := by kernel_rfl
theorem texts_in : (textsR.all fun v => allVR.contains v) = true := by kernel_rfl
theorem ints_in : (intsR.all fun v => allVR.contains v) = true := by kernel_rfl
theorem smalls_in : ((List.range 5).all fun n => allVR.contains (⟨1, (n : Int), 0, [], false⟩ : Val)) = true := by kernel_rfl
theorem bools_in : ([true, false].all fun b => allVR.contains (⟨4, 0, 0, [], b⟩ : Val)) = true := by kernel_rfl
theorem of_contains {l : List Val} {f : Val} (h : (l.all fun v => allVR.contains v) = true) (hf : f ∈ l) : VR f := by
  have := List.all_eq_true.1 h f hf
  exact vr_mem (by simpa using this)
theorem vr_float (l : List Int) (a j : Nat) : VR ⟨2, 0, floatV l a j, [], false⟩ := by
  have hb := fd_bound l a j (n := 14) (by omega)
  refine of_contains floats_in ?_
  unfold floatsR floatV
  refine List.mem_map.2 ⟨_, ?_, rfl⟩
  have hlt : (fd l a j 14).toNat < F14.length := by show _ < 14; omega
  rw [List.getD_eq_getElem?_getD, List.getElem?_eq_getElem hlt]
  exact List.getElem_mem hlt
theorem vr_text {n : Nat} (h : n < 6) : VR ⟨3, 0, 0, T6.getD n [], false⟩ := by
  refine of_contains texts_in ?_
  unfold textsR
  refine List.mem_map.2 ⟨_, ?_, rfl⟩
  have hlt : n < T6.length := h
  rw [List.getD_eq_getElem?_getD, List.getElem?_eq_getElem hlt]
  exact List.getElem_mem hlt
theorem vr_int {n : Nat} (h : n < 6) : VR ⟨1, N6.getD n 0, 0, [], false⟩ := by
  refine of_contains ints_in ?_
  unfold intsR
  refine List.mem_map.2 ⟨_, ?_, rfl⟩
  have hlt : n < N6.length := h
  rw [List.getD_eq_getElem?_getD, List.getElem?_eq_getElem hlt]
  exact List.getElem_mem hlt
theorem vr_small {n : Int} (h0 : 0 ≤ n) (h : n < 5) : VR ⟨1, n, 0, [], false⟩ := by
  have := List.all_eq_true.1 smalls_in n.toNat (List.mem_range.2 (by omega))
  rw [show ((n.toNat : Nat) : Int) = n by omega] at this
  exact vr_mem (by simpa using this)
theorem vr_bool (b : Bool) : VR ⟨4, 0, 0, [], b⟩ := by
  have := List.all_eq_true.1 bools_in b (by cases b <;> simp)
  exact vr_mem (by simpa using this)
theorem vr_value (l : List Int) (a j : Nat) : VR (valueV l a j) := by
  unfold valueV
  have h8 := fd_bound l a j (n := 8) (by omega)
  have h6 := fd_bound l a (j + 1) (n := 6) (by omega)
  have h5 := fd_bound l a (j + 1) (n := 5) (by omega)
  simp only
  repeat' split
  · exact vr_float _ _ _
  · exact vr_text (by omega)
  · exact vr_bool _
  · exact vr_int (by omega)
  · exact vr_small (by omega) (by omega)
theorem vr_vals (l : List Int) (a : Nat) : ∀ (k j : Nat), ∀ x ∈ valsV l a j k, VR x
  | 0, j, x, h => by simp [valsV] at h
  | k + 1, j, x, h => by
    rcases List.mem_cons.1 h with rfl | h
    · exact vr_value _ _ _
    · exact vr_vals l a k _ x h
theorem vals_length (l : List Int) (a : Nat) : ∀ (k j : Nat), (valsV l a j k).length = k
  | 0, j => rfl
  | k + 1, j => by simp [valsV, vals_length l a k]
theorem P4_in : (P4.all fun s => T6.contains s) = true := by kernel_rfl
theorem vr_P4 {n : Nat} (h : n < 4) : VR ⟨3, 0, 0, P4.getD n [], false⟩ := by
  have hlt : n < P4.length := h
  have h1 : P4.getD n [] ∈ P4 := by rw [List.getD_eq_getElem?_getD, List.getElem?_eq_getElem hlt]; exact List.getElem_mem hlt
  have h2 := List.all_eq_true.1 P4_in _ h1
  refine of_contains texts_in ?_
  unfold textsR
  exact List.mem_map.2 ⟨_, by simpa using h2, rfl⟩
theorem fv_zero : ∃ r, FV vzero r := ⟨none, by unfold FV FVR; simp⟩
/-- What a feed yields as a test. -/
theorem pred_fv (l : List Int) (a j : Nat) (nm : List UInt8) : PFV (predV l a j nm).1 := by
  unfold predV
  have h4 := fd_bound l a (j + 1) (n := 4) (by omega)
  simp only
  repeat' split
  · exact ⟨fv_zero, fv_zero, by simp⟩
  · exact ⟨(vr_P4 (by omega)).2, fv_zero, by simp⟩
  · exact ⟨fv_zero, fv_zero, fun x hx => (vr_vals _ _ _ _ x hx).2⟩
  · exact ⟨(vr_value _ _ _).2, (vr_value _ _ _).2, by simp⟩
  · exact ⟨(vr_value _ _ _).2, fv_zero, by simp⟩
theorem same_zero : vsame vzero vzero = true := by kernel_rfl
theorem pred_right (l : List Int) (a j : Nat) {nm : List UInt8} (hn : isWord nm = true) : pright (predV l a j nm).1 = true := by
  have h10 := fd_bound l a j (n := 10) (by omega)
  have h4 := fd_bound l a (j + 1) (n := 4) (by omega)
  unfold predV
  simp only
  split
  · simp [pright, hn, same_zero]
  · split
    · rename_i h
      have hv := (vr_P4 (n := (fd l a (j + 1) 4).toNat) (by omega)).1
      generalize P4.getD (fd l a (j + 1) 4).toNat [] = s at hv
      simp [pright, hn, same_zero, hv]
    · split
      · have hv := fun x hx => (vr_vals l a ((fd l a (j + 1) 4).toNat + 1) (j + 2) x hx).1
        have hl := vals_length l a ((fd l a (j + 1) 4).toNat + 1) (j + 2)
        generalize valsV l a (j + 2) ((fd l a (j + 1) 4).toNat + 1) = vs at hv hl
        have hc : vs.all vright = true := List.all_eq_true.2 hv
        have h5 : 1 ≤ vs.length ∧ vs.length ≤ 4 := by omega
        unfold pright
        rw [if_pos hn]
        simp [same_zero, hc, h5, hv]
      · split
        · simp [pright, hn, same_zero, (vr_value l a (j + 1)).1, (vr_value l a (j + 3)).1]
        · have e1 : 2 ≤ 1 + fd l a j 10 ∧ 1 + fd l a j 10 ≤ 7 := by omega
          have e2 : ¬ 1 + fd l a j 10 = 1 := by omega
          simp only [pright, hn, if_true, e2, if_false, e1, and_self, same_zero, (vr_value l a (j + 1)).1, List.length_nil, decide_true, Bool.and_self]
theorem pred_asks (l : List Int) (a j : Nat) (nm : List UInt8) : (predV l a j nm).2 ≤ 10 := by
  have h4 := fd_bound l a (j + 1) (n := 4) (by omega)
  unfold predV
  simp only
  repeat' split
  all_goals (simp only; omega)
theorem ok_of_right {p : Pred} (h : pright p = true) : p.ok := by
  unfold pright at h
  split at h
  · rename_i hw
    unfold isWord at hw
    simp only [Bool.and_eq_true, decide_eq_true_eq] at hw
    refine ⟨by omega, ?_⟩
    repeat' split at h
    all_goals first
      | (simp only [Bool.and_eq_true, decide_eq_true_eq] at h; omega)
      | cases h
  · cases h
end Go.Ab
namespace Go.Proofs.Ytclpbfkbpcjejaa
open Go Go.Ab
set_option linter.unusedVariables false
set_option linter.unusedSimpArgs false
set_option linter.unnecessarySimpa false
set_option maxRecDepth 20000
variable (fr : Fr) (st : St) (k : Kt)
theorem k17 (l : List Int) (a j id : Nat)  (fr : Fr) (st : St) (h : FeedOk st id) (ha : a < 549755813888) (hj : j < 549755812000) :
    callStep gS (EvF gS) 17 [.ptr id 0] fr (setF st id l (nA l a j)) = some (.ok (.val ((valueV l a j).enc)) (fr.map E.noMem) (setF st id l (nA l a (j + 2)))) := by
  unfold callStep
  simp only [show gS.ext 17 = none from rfl, fi17_eq, show fi17.pure = false from rfl, Bool.false_eq_true, if_false, c17 l a j id  st h ha (by omega), retE]
  all_goals rfl
noncomputable def fi29 : FI := { body := codeOf Try.f29, ntmps := 52, results := [.cell 4 27], pers := [0, 1, 4, 5, 6, 13], locals := [4, 5], pure := false, marks := [39, 2000011, 1000000] }
theorem fi29_eq : gS.fn 29 = some fi29 := by kernel_rfl
theorem st29 (a0 a1 : V) : startFr fi29 [a0, a1] = { ps := [(0, .val a0), (1, .val a1), (4, .any), (5, .any), (6, .any), (13, .any)], ts := [], lc := [] } := rfl
noncomputable def b29 : Code := mini (codeOf Try.f29)
noncomputable def c29_1 : Code := codeAt b29 [false]
theorem e29_1 : evK gS fi29 c29_1 fr st k = opsK gS fi29 [(some 4)] [mk (some 4) (.alloc 27) 0 none] fr.clear st fr k := evK_reg1 (i := 0) (by kernel_rfl) (by kernel_rfl)
noncomputable def c29_3 : Code := codeAt b29 [true, false]
theorem e29_3 : evK gS fi29 c29_3 fr st k = opsK gS fi29 [(some 7), (some 8), (some 9), (some 10), (some 11), (some 5), none] [mk (some 7) (.move (.tmp 1)) 9 none,
  mk (some 8) (.move (.tmp 0)) 29 none,
  mk (some 9) (.call { callee := (.value (.func 16)), args := #[(.tmp 8), (.const (.int .i64 10))], argTypes := #[29, 3] }) 3 none,
  mk (some 10) (.binOp .add 3 (.const (.int .i64 1)) (.tmp 9) 3) 3 none,
  mk (some 11) (.build 27 #[(0, (.tmp 7)), (1, (.tmp 10))]) 27 none,
  mk (some 5) (.alloc 27) 0 none,
  mk none (.store 27 (.tmp 5) (.tmp 11)) 0 none] fr.clear st fr k := evK_reg1 (i := 1) (by kernel_rfl) (by kernel_rfl)
noncomputable def c29_6 : Code := codeAt b29 [true, true, false, false]
theorem e29_6 : evK gS fi29 c29_6 fr st k = opsK gS fi29 [(some 12), (some 13)] [mk (some 12) (.fieldAddr 27 (.tmp 5) 1) 0 none,
  mk (some 13) (.load 3 (.tmp 12)) 3 none] fr.clear st fr k := evK_reg1 (i := 2) (by kernel_rfl) (by kernel_rfl)
noncomputable def c29_9 : Code := codeAt b29 [true, true, false, true, false, false]
theorem e29_9 : evK gS fi29 c29_9 fr st k = opsK gS fi29 [(some 15), (some 14)] [mk (some 15) (.binOp .eql 3 (.tmp 13) (.const (.int .i64 1)) 3) 4 none,
  mk (some 14) (.assign (.tmp 15)) 4 none] fr.clear st fr k := evK_reg1 (i := 3) (by kernel_rfl) (by kernel_rfl)
noncomputable def c29_12 : Code := codeAt b29 [true, true, false, true, false, true, false, false]
theorem e29_12 : evK gS fi29 c29_12 fr st k = opsK gS fi29 [(some 16), none] [mk (some 16) (.load 27 (.tmp 5)) 27 none,
  mk none (.store 27 (.tmp 4) (.tmp 16)) 0 none] fr.clear st fr k := evK_reg1 (i := 4) (by kernel_rfl) (by kernel_rfl)
noncomputable def c29_13 : Code := .ret
theorem e29_13 : evK gS fi29 c29_13 fr st k = nextK gS fi29 k .ret fr st := rfl
noncomputable def c29_11 : Code := .seq c29_12 c29_13
theorem e29_11 : evK gS fi29 c29_11 fr st k = evK gS fi29 c29_12 fr st (.seq c29_13 k) := rfl
noncomputable def c29_15 : Code := codeAt b29 [true, true, false, true, false, true, true, false]
theorem e29_15 : evK gS fi29 c29_15 fr st k = opsK gS fi29 [(some 18), (some 17)] [mk (some 18) (.binOp .eql 3 (.tmp 13) (.const (.int .i64 9)) 3) 4 none,
  mk (some 17) (.assign (.tmp 18)) 4 none] fr.clear st fr k := evK_reg1 (i := 5) (by kernel_rfl) (by kernel_rfl)
noncomputable def c29_18 : Code := codeAt b29 [true, true, false, true, false, true, true, true, false, false]
theorem e29_18 : evK gS fi29 c29_18 fr st k = opsK gS fi29 [(some 19), (some 20), (some 21), (some 22), (some 23), (some 24), none] [mk (some 19) (.build 107 #[(0, (.const (.string { data := #[] }))), (1, (.const (.string { data := #[97] }))), (2, (.const (.string { data := #[98] }))), (3, (.const (.string { data := #[97, 98] })))]) 107 none,
  mk (some 20) (.move (.tmp 0)) 29 none,
  mk (some 21) (.call { callee := (.value (.func 16)), args := #[(.tmp 20), (.const (.int .i64 4))], argTypes := #[29, 3] }) 3 none,
  mk (some 22) (.index 107 (.tmp 19) (.tmp 21)) 9 none,
  mk (some 23) (.build 24 #[(0, (.const (.int .i64 3))), (3, (.tmp 22))]) 24 none,
  mk (some 24) (.fieldAddr 27 (.tmp 5) 2) 0 none,
  mk none (.store 24 (.tmp 24) (.tmp 23)) 0 none] fr.clear st fr k := evK_reg1 (i := 6) (by kernel_rfl) (by kernel_rfl)
noncomputable def c29_20 : Code := codeAt b29 [true, true, false, true, false, true, true, true, false, true, false]
theorem e29_20 : evK gS fi29 c29_20 fr st k = opsK gS fi29 [(some 25), none] [mk (some 25) (.load 27 (.tmp 5)) 27 none,
  mk none (.store 27 (.tmp 4) (.tmp 25)) 0 none] fr.clear st fr k := evK_reg1 (i := 7) (by kernel_rfl) (by kernel_rfl)
noncomputable def c29_21 : Code := .ret
theorem e29_21 : evK gS fi29 c29_21 fr st k = nextK gS fi29 k .ret fr st := rfl
noncomputable def c29_19 : Code := .seq c29_20 c29_21
theorem e29_19 : evK gS fi29 c29_19 fr st k = evK gS fi29 c29_20 fr st (.seq c29_21 k) := rfl
noncomputable def c29_17 : Code := .seq c29_18 c29_19
theorem e29_17 : evK gS fi29 c29_17 fr st k = evK gS fi29 c29_18 fr st (.seq c29_19 k) := rfl
noncomputable def c29_23 : Code := codeAt b29 [true, true, false, true, false, true, true, true, true, false]
theorem e29_23 : evK gS fi29 c29_23 fr st k = opsK gS fi29 [(some 27), (some 26)] [mk (some 27) (.binOp .eql 3 (.tmp 13) (.const (.int .i64 10)) 3) 4 none,
  mk (some 26) (.assign (.tmp 27)) 4 none] fr.clear st fr k := evK_reg1 (i := 8) (by kernel_rfl) (by kernel_rfl)
noncomputable def c29_27 : Code := codeAt b29 [true, true, false, true, false, true, true, true, true, true, false, false, false]
theorem e29_27 : evK gS fi29 c29_27 fr st k = opsK gS fi29 [(some 28), (some 29), (some 6)] [mk (some 28) (.move (.tmp 0)) 29 none,
  mk (some 29) (.call { callee := (.value (.func 16)), args := #[(.tmp 28), (.const (.int .i64 4))], argTypes := #[29, 3] }) 3 none,
  mk (some 6) (.assign (.tmp 29)) 3 none] fr.clear st fr k := evK_reg1 (i := 9) (by kernel_rfl) (by kernel_rfl)
noncomputable def c29_32 : Code := codeAt b29 [true, true, false, true, false, true, true, true, true, true, false, false, true, false, false, false, false]
theorem e29_32 : evK gS fi29 c29_32 fr st k = opsK gS fi29 [(some 30), (some 31)] [mk (some 30) (.move (.tmp 6)) 3 none,
  mk (some 31) (.binOp .geq 3 (.tmp 30) (.const (.int .i64 0)) 3) 4 none] fr.clear st fr k := evK_reg1 (i := 10) (by kernel_rfl) (by kernel_rfl)
noncomputable def c29_34 : Code := .skip
theorem e29_34 : evK gS fi29 c29_34 fr st k = nextK gS fi29 k .normal fr st := rfl
noncomputable def c29_35 : Code := .exit 1
theorem e29_35 : evK gS fi29 c29_35 fr st k = nextK gS fi29 k (.exit 1) fr st := rfl
noncomputable def c29_33 : Code := .cond (.tmp 31) c29_34 c29_35
theorem e29_33 : evK gS fi29 c29_33 fr st k = condK gS fi29 (fr.op (.tmp 31)).bool? c29_34 c29_35 fr st k := rfl
noncomputable def c29_31 : Code := .seq c29_32 c29_33
theorem e29_31 : evK gS fi29 c29_31 fr st k = evK gS fi29 c29_32 fr st (.seq c29_33 k) := rfl
noncomputable def r29_38 : Array Oper := regOps (codeAt (codeOf Try.f29) [true, true, false, true, false, true, true, true, true, true, false, false, true, false, false, true, false, false])
noncomputable def c29_38 : Code := .region 12 r29_38 true
noncomputable def q29_38 : List (Oper × Fl) := [(mk (some 34) (.fieldAddr 27 (.tmp 5) 4) 0 none, ⟨true, false, false, false, false, false, true, false, false, true, []⟩),
  (mk (some 35) (.load 25 (.tmp 34)) 25 none, ⟨true, false, false, false, false, false, true, false, false, true, []⟩),
  (mk (some 36) (.move (.tmp 0)) 29 none, ⟨true, false, true, false, true, false, true, true, false, false, []⟩),
  (mk (some 37) (.call { callee := (.value (.func 17)), args := #[(.tmp 36)], argTypes := #[29] }) 24 none, ⟨false, true, true, false, true, true, true, true, false, false, []⟩),
  (mk (some 38) (.buildSlice 25 1 #[(0, (.tmp 37))]) 25 none, ⟨true, false, true, false, true, false, true, true, false, false, []⟩),
  (mk (some 39) (.call { callee := (.builtin .append), args := #[(.tmp 35), (.tmp 38)], argTypes := #[25, 25] }) 25 none, ⟨false, true, true, false, true, true, true, true, false, false, []⟩),
  (mk (some 40) (.fieldAddr 27 (.tmp 5) 4) 0 none, ⟨true, true, true, false, true, false, true, true, false, false, []⟩),
  (mk none (.store 25 (.tmp 40) (.tmp 39)) 0 none, ⟨false, true, true, false, true, true, true, true, false, false, []⟩)]
theorem e29_38 : evK gS fi29 c29_38 fr st k = drwK gS fi29 r29_38 [(some 34), (some 35), (some 36), (some 37), (some 38), (some 39), (some 40), none] q29_38 0 fr.clear st fr k := by
  rw [evK_draw (g := gS) (fi := fi29) (c := c29_38) 12 r29_38 q29_38 fr st k rfl (by kernel_rfl) (by kernel_rfl), show r29_38.toList.map (·.dst) = [(some 34), (some 35), (some 36), (some 37), (some 38), (some 39), (some 40), none] from by kernel_rfl]
noncomputable def c29_37 : Code := .block 2 c29_38
theorem e29_37 : evK gS fi29 c29_37 fr st k = evK gS fi29 c29_38 fr st (.blk 2 k) := rfl
noncomputable def c29_39 : Code := codeAt b29 [true, true, false, true, false, true, true, true, true, true, false, false, true, false, false, true, true]
theorem e29_39 : evK gS fi29 c29_39 fr st k = opsK gS fi29 [(some 32), (some 33), (some 6)] [mk (some 32) (.move (.tmp 6)) 3 none,
  mk (some 33) (.binOp .sub 3 (.tmp 32) (.const (.int .i64 1)) 3) 3 none,
  mk (some 6) (.assign (.tmp 33)) 3 none] fr.clear st fr k := evK_reg1 (i := 11) (by kernel_rfl) (by kernel_rfl)
noncomputable def c29_36 : Code := .seq c29_37 c29_39
theorem e29_36 : evK gS fi29 c29_36 fr st k = evK gS fi29 c29_37 fr st (.seq c29_39 k) := rfl
noncomputable def c29_30 : Code := .seq c29_31 c29_36
theorem e29_30 : evK gS fi29 c29_30 fr st k = evK gS fi29 c29_31 fr st (.seq c29_36 k) := rfl
noncomputable def c29_29 : Code := .loop c29_30
noncomputable def c29_28 : Code := .block 1 c29_29
theorem e29_28 : evK gS fi29 c29_28 fr st k = evK gS fi29 c29_29 fr st (.blk 1 k) := rfl
noncomputable def c29_26 : Code := .seq c29_27 c29_28
theorem e29_26 : evK gS fi29 c29_26 fr st k = evK gS fi29 c29_27 fr st (.seq c29_28 k) := rfl
noncomputable def c29_41 : Code := codeAt b29 [true, true, false, true, false, true, true, true, true, true, false, true, false]
theorem e29_41 : evK gS fi29 c29_41 fr st k = opsK gS fi29 [(some 41), none] [mk (some 41) (.load 27 (.tmp 5)) 27 none,
  mk none (.store 27 (.tmp 4) (.tmp 41)) 0 none] fr.clear st fr k := evK_reg1 (i := 13) (by kernel_rfl) (by kernel_rfl)
noncomputable def c29_42 : Code := .ret
theorem e29_42 : evK gS fi29 c29_42 fr st k = nextK gS fi29 k .ret fr st := rfl
noncomputable def c29_40 : Code := .seq c29_41 c29_42
theorem e29_40 : evK gS fi29 c29_40 fr st k = evK gS fi29 c29_41 fr st (.seq c29_42 k) := rfl
noncomputable def c29_25 : Code := .seq c29_26 c29_40
theorem e29_25 : evK gS fi29 c29_25 fr st k = evK gS fi29 c29_26 fr st (.seq c29_40 k) := rfl
noncomputable def c29_43 : Code := .skip
theorem e29_43 : evK gS fi29 c29_43 fr st k = nextK gS fi29 k .normal fr st := rfl
noncomputable def c29_24 : Code := .cond (.tmp 26) c29_25 c29_43
theorem e29_24 : evK gS fi29 c29_24 fr st k = condK gS fi29 (fr.op (.tmp 26)).bool? c29_25 c29_43 fr st k := rfl
noncomputable def c29_22 : Code := .seq c29_23 c29_24
theorem e29_22 : evK gS fi29 c29_22 fr st k = evK gS fi29 c29_23 fr st (.seq c29_24 k) := rfl
noncomputable def c29_16 : Code := .cond (.tmp 17) c29_17 c29_22
theorem e29_16 : evK gS fi29 c29_16 fr st k = condK gS fi29 (fr.op (.tmp 17)).bool? c29_17 c29_22 fr st k := rfl
noncomputable def c29_14 : Code := .seq c29_15 c29_16
theorem e29_14 : evK gS fi29 c29_14 fr st k = evK gS fi29 c29_15 fr st (.seq c29_16 k) := rfl
noncomputable def c29_10 : Code := .cond (.tmp 14) c29_11 c29_14
theorem e29_10 : evK gS fi29 c29_10 fr st k = condK gS fi29 (fr.op (.tmp 14)).bool? c29_11 c29_14 fr st k := rfl
noncomputable def c29_8 : Code := .seq c29_9 c29_10
theorem e29_8 : evK gS fi29 c29_8 fr st k = evK gS fi29 c29_9 fr st (.seq c29_10 k) := rfl
noncomputable def c29_7 : Code := .block 0 c29_8
theorem e29_7 : evK gS fi29 c29_7 fr st k = evK gS fi29 c29_8 fr st (.blk 0 k) := rfl
noncomputable def c29_5 : Code := .seq c29_6 c29_7
theorem e29_5 : evK gS fi29 c29_5 fr st k = evK gS fi29 c29_6 fr st (.seq c29_7 k) := rfl
noncomputable def c29_45 : Code := codeAt b29 [true, true, true, false]
theorem e29_45 : evK gS fi29 c29_45 fr st k = opsK gS fi29 [(some 42), (some 43), (some 44), none] [mk (some 42) (.move (.tmp 0)) 29 none,
  mk (some 43) (.call { callee := (.value (.func 17)), args := #[(.tmp 42)], argTypes := #[29] }) 24 none,
  mk (some 44) (.fieldAddr 27 (.tmp 5) 2) 0 none,
  mk none (.store 24 (.tmp 44) (.tmp 43)) 0 none] fr.clear st fr k := evK_reg1 (i := 14) (by kernel_rfl) (by kernel_rfl)
noncomputable def c29_48 : Code := codeAt b29 [true, true, true, true, false, false]
theorem e29_48 : evK gS fi29 c29_48 fr st k = opsK gS fi29 [(some 45), (some 46), (some 47)] [mk (some 45) (.fieldAddr 27 (.tmp 5) 1) 0 none,
  mk (some 46) (.load 3 (.tmp 45)) 3 none,
  mk (some 47) (.binOp .eql 3 (.tmp 46) (.const (.int .i64 8)) 3) 4 none] fr.clear st fr k := evK_reg1 (i := 15) (by kernel_rfl) (by kernel_rfl)
noncomputable def c29_50 : Code := codeAt b29 [true, true, true, true, false, true, false]
theorem e29_50 : evK gS fi29 c29_50 fr st k = opsK gS fi29 [(some 48), (some 49), (some 50), none] [mk (some 48) (.move (.tmp 0)) 29 none,
  mk (some 49) (.call { callee := (.value (.func 17)), args := #[(.tmp 48)], argTypes := #[29] }) 24 none,
  mk (some 50) (.fieldAddr 27 (.tmp 5) 3) 0 none,
  mk none (.store 24 (.tmp 50) (.tmp 49)) 0 none] fr.clear st fr k := evK_reg1 (i := 16) (by kernel_rfl) (by kernel_rfl)
noncomputable def c29_51 : Code := .skip
theorem e29_51 : evK gS fi29 c29_51 fr st k = nextK gS fi29 k .normal fr st := rfl
noncomputable def c29_49 : Code := .cond (.tmp 47) c29_50 c29_51
theorem e29_49 : evK gS fi29 c29_49 fr st k = condK gS fi29 (fr.op (.tmp 47)).bool? c29_50 c29_51 fr st k := rfl
noncomputable def c29_47 : Code := .seq c29_48 c29_49
theorem e29_47 : evK gS fi29 c29_47 fr st k = evK gS fi29 c29_48 fr st (.seq c29_49 k) := rfl
noncomputable def c29_53 : Code := codeAt b29 [true, true, true, true, true, false]
theorem e29_53 : evK gS fi29 c29_53 fr st k = opsK gS fi29 [(some 51), none] [mk (some 51) (.load 27 (.tmp 5)) 27 none,
  mk none (.store 27 (.tmp 4) (.tmp 51)) 0 none] fr.clear st fr k := evK_reg1 (i := 17) (by kernel_rfl) (by kernel_rfl)
noncomputable def c29_54 : Code := .ret
theorem e29_54 : evK gS fi29 c29_54 fr st k = nextK gS fi29 k .ret fr st := rfl
noncomputable def c29_52 : Code := .seq c29_53 c29_54
theorem e29_52 : evK gS fi29 c29_52 fr st k = evK gS fi29 c29_53 fr st (.seq c29_54 k) := rfl
noncomputable def c29_46 : Code := .seq c29_47 c29_52
theorem e29_46 : evK gS fi29 c29_46 fr st k = evK gS fi29 c29_47 fr st (.seq c29_52 k) := rfl
noncomputable def c29_44 : Code := .seq c29_45 c29_46
theorem e29_44 : evK gS fi29 c29_44 fr st k = evK gS fi29 c29_45 fr st (.seq c29_46 k) := rfl
noncomputable def c29_4 : Code := .seq c29_5 c29_44
theorem e29_4 : evK gS fi29 c29_4 fr st k = evK gS fi29 c29_5 fr st (.seq c29_44 k) := rfl
noncomputable def c29_2 : Code := .seq c29_3 c29_4
theorem e29_2 : evK gS fi29 c29_2 fr st k = evK gS fi29 c29_3 fr st (.seq c29_4 k) := rfl
noncomputable def c29_0 : Code := .seq c29_1 c29_2
theorem e29_0 : evK gS fi29 c29_0 fr st k = evK gS fi29 c29_1 fr st (.seq c29_2 k) := rfl
theorem m29 : mini fi29.body = c29_0 := by kernel_rfl
theorem n29_29 (fr : Fr) (st : St) (k : Kt) : nextK gS fi29 (.loop c29_30 k) .normal fr st = evK gS fi29 c29_29 fr st k := rfl
set_option maxHeartbeats 4000000 in
theorem T29_40 (nm : List UInt8) (l : List Int) (a id m : Nat) (vs : List Val) (hv : vs ≠ []) (st : St) (h : FeedOk st id) (e0 e1 e6 e13 : E) (h0 : e0.Tame) (h1 : e1.Tame) (h6 : e6.Tame) (h13 : e13.Tame) (T : List (Nat × E)) (X : List (Nat × List V)) (hx4 : lk X 4 = some [.str [], .int .i64 0, .int .i64 0, .int .i64 0, .float .f64 0, .str [], .bool false, .int .i64 0, .int .i64 0, .float .f64 0, .str [], .bool false, .osl 0 []]) (hx5 : lk X 5 = some [.str nm, .int .i64 10, .int .i64 0, .int .i64 0, .float .f64 0, .str [], .bool false, .int .i64 0, .int .i64 0, .float .f64 0, .str [], .bool false, .sref false 5 (st.objs.length + m) 0 vs.length]) :
    evK gS fi29 c29_40 { ps := [(0, e0), (1, e1), (4, .lp 4 0), (5, .lp 5 0), (6, e6), (13, e13)], ts := T, lc := X } (setF (nw st m (vs.flatMap Val.cells)) id l a) (.blk 0 (.seq c29_44 .nil)) = some (.ret ((⟨nm, 10, vzero, vzero, vs⟩ : Pred).enc) none, setF (dd st (m + 1)) id l a) := by
  have hm : fi29.marks = [39, 2000011, 1000000] := rfl
  have hl : fi29.locals = [4, 5] := rfl
  have hr : fi29.results = [.cell 4 27] := rfl
  have hz := fun a0 a1 a2 a3 a4 a5 a6 a7 a8 a9 a10 a11 hf => frz_predcells (a0 := a0) (a1 := a1) (a2 := a2) (a3 := a3) (a4 := a4) (a5 := a5) (a6 := a6) (a7 := a7) (a8 := a8) (a9 := a9) (a10 := a10) (a11 := a11) hf (frz_vals h 4 m vs hv l a)
  simp [lk_lset_self _ _ _ _ hx4, hx4, hx5, h0, h1, h6, h13, hz, vzero, -Int.not_le, -Int.not_lt, -Nat.not_le, -Nat.not_lt, ty3, ty4, ty9, ty24, ty25, ty27, ty29, ty107, eq24, hm, hl, hr, fi16_eq, fi17_eq, e29_1, e29_3, e29_6, e29_9, e29_12, e29_13, e29_11, e29_15, e29_18, e29_20, e29_21, e29_19, e29_17, e29_23, e29_27, e29_32, e29_34, e29_35, e29_33, e29_31, e29_38, q29_38, e29_37, e29_39, e29_36, e29_30, e29_28, e29_26, e29_41, e29_42, e29_40, e29_25, e29_43, e29_24, e29_22, e29_16, e29_14, e29_10, e29_8, e29_7, e29_5, e29_45, e29_48, e29_50, e29_51, e29_49, e29_47, e29_53, e29_54, e29_52, e29_46, e29_44, e29_4, e29_2, e29_0, n29_29]
set_option maxHeartbeats 8000000 in
theorem L29 (nm : List UInt8) (l : List Int) (a id : Nat) (ha : a < 549755813888) (st : St) (h : FeedOk st id) (e1 e13 : E) (h1 : e1.Tame) (h13 : e13.Tame) : ∀ (r j m : Nat) (vs : List Val) (T : List (Nat × E)) (X : List (Nat × List V)), j + 2 * r < 549755812000 → vs.length = m + 1 → vs.length + r < 1000 → lk X 4 = some [.str [], .int .i64 0, .int .i64 0, .int .i64 0, .float .f64 0, .str [], .bool false, .int .i64 0, .int .i64 0, .float .f64 0, .str [], .bool false, .osl 0 []] → lk X 5 = some [.str nm, .int .i64 10, .int .i64 0, .int .i64 0, .float .f64 0, .str [], .bool false, .int .i64 0, .int .i64 0, .float .f64 0, .str [], .bool false, .sref false 5 (st.objs.length + m) 0 (m + 1)] →
    evK gS fi29 c29_29 { ps := [(0, .val (.ptr id 0)), (1, e1), (4, .lp 4 0), (5, .lp 5 0), (6, .val (.int .i64 ((r : Int) - 1))), (13, e13)], ts := T, lc := X } (setF (nw st m (vs.flatMap Val.cells)) id l (nA l a j)) (.blk 1 (.seq c29_40 (.blk 0 (.seq c29_44 .nil)))) = some (.ret ((⟨nm, 10, vzero, vzero, vs ++ valsV l a j r⟩ : Pred).enc) none, setF (dd st (m + 1 + r)) id l (nA l a (j + 2 * r))) := by
  intro r
  have hm : fi29.marks = [39, 2000011, 1000000] := rfl
  have hl : fi29.locals = [4, 5] := rfl
  have hr : fi29.results = [.cell 4 27] := rfl
  induction r with
  | zero =>
    intro j m vs T X hj hlen hlt hx4 hx5
    refine evK_loop c29_30 _ _ _ _ rfl ?_
    have ht := fun T => T29_40 nm l (nA l a j) id m vs (by intro e; rw [e] at hlen; simp at hlen) st h (.val (.ptr id 0)) e1 (.val (.int .i64 (-1))) e13 rfl h1 rfl h13 T X hx4 (by rw [hx5, hlen])
    simp [h1, h13, ht, valsV, -Int.not_le, -Int.not_lt, -Nat.not_le, -Nat.not_lt, ty3, ty4, ty9, ty24, ty25, ty27, ty29, ty107, eq24, hm, hl, hr, fi16_eq, fi17_eq, e29_1, e29_3, e29_6, e29_9, e29_12, e29_13, e29_11, e29_15, e29_18, e29_20, e29_21, e29_19, e29_17, e29_23, e29_27, e29_32, e29_34, e29_35, e29_33, e29_31, e29_38, q29_38, e29_37, e29_39, e29_36, e29_30, e29_28, e29_26, e29_41, e29_42, e29_25, e29_43, e29_24, e29_22, e29_16, e29_14, e29_10, e29_8, e29_7, e29_5, e29_45, e29_48, e29_50, e29_51, e29_49, e29_47, e29_53, e29_54, e29_52, e29_46, e29_44, e29_4, e29_2, e29_0, n29_29]
  | succ r ih =>
    intro j m vs T X hj hlen hlt hx4 hx5
    refine evK_loop c29_30 _ _ _ _ rfl ?_
    have hv := fun fr => k17 l a j id fr (nw st m (vs.flatMap Val.cells)) (h.nw m _) ha (by omega)
    have e1' : ((r + 1 : Nat) : Int) - 1 = (r : Int) := by omega
    have e2 : (0 : Int) ≤ (r : Int) := by omega
    have e3 : IntKind.wrap .i64 ((r : Int) - 1) = (r : Int) - 1 := wrap64 (by omega) (by omega)
    have e4 := vals_cells_len vs
    have e5 := vals_cells_strip vs
    have e6 := vals_cells_one vs
    have e7 : ∀ v : Val, vs.flatMap Val.cells ++ [.int .i64 v.kind, .int .i64 v.n, .float .f64 v.x, .str v.s, .bool v.b] = (vs ++ [v]).flatMap Val.cells := by intro v; simp [Val.cells]
    have IH := fun T X h4 h5 => ih (j + 2) (m + 1) (vs ++ [valueV l a j]) T X (by omega) (by simp [hlen]) (by simp; omega) h4 h5
    have r1 := obj_gr h m (vs.flatMap Val.cells) l (nA l a (j + 2))
    have r2 := set_gr h m (vs.flatMap Val.cells) l (nA l a (j + 2))
    have r3 := fun fr k len cs => newRef_dd h fr (m + 1) k len cs l (nA l a (j + 2))
    have e8 : (m + 1 + 1) * 48 ≤ 140737488355328 := by omega
    have e9 : (m + 1 + 1) ≤ 140737488355328 := by omega
    rw [hlen] at e4
    rw [e1']
    rw [show valsV l a j (r + 1) = valueV l a j :: valsV l a (j + 2) r from rfl, show m + 1 + (r + 1) = m + 1 + 1 + r by omega, show j + 2 * (r + 1) = j + 2 + 2 * r by omega, List.append_cons vs]
    simp [-List.append_assoc, -List.flatMap_append, -St.obj, -St.set, h1, h13, hx4, hx5, hv, e2, e3, e4, e5, e6, e7, e8, e9, r1, r2, r3, markStep, markAppend, elemsAt, lk_lset_self _ _ _ _ hx5, -Int.not_le, -Int.not_lt, -Nat.not_le, -Nat.not_lt, ty3, ty4, ty9, ty24, ty25, ty27, ty29, ty107, eq24, hm, hl, hr, fi16_eq, fi17_eq, e29_1, e29_3, e29_6, e29_9, e29_12, e29_13, e29_11, e29_15, e29_18, e29_20, e29_21, e29_19, e29_17, e29_23, e29_27, e29_32, e29_34, e29_35, e29_33, e29_31, e29_38, q29_38, e29_37, e29_39, e29_36, e29_30, e29_28, e29_26, e29_41, e29_42, e29_25, e29_43, e29_24, e29_22, e29_16, e29_14, e29_10, e29_8, e29_7, e29_5, e29_45, e29_48, e29_50, e29_51, e29_49, e29_47, e29_53, e29_54, e29_52, e29_46, e29_44, e29_4, e29_2, e29_0, n29_29]
    exact IH _ _ (by simp [hx4]) (lk_lset_self _ _ _ _ hx5)
set_option maxHeartbeats 8000000 in
theorem c29 (l : List Int) (a j id : Nat) (nm : List UInt8) (st : St) (h : FeedOk st id) (ha : a < 549755813888) (hj : j < 549755811000) :
    EvF gS 29 [.ptr id 0, .str nm] (setF st id l (nA l a j)) = some (.ret (predV l a j nm).1.enc none, setF (dd st (predV l a j nm).1.set.length) id l (nA l a (j + (predV l a j nm).2))) := by
  refine EvF_start fi29_eq (fun x h => by cases h) m29 ?_
  rw [st29]
  have hm : fi29.marks = [39, 2000011, 1000000] := rfl
  have hl : fi29.locals = [4, 5] := rfl
  have hr : fi29.results = [.cell 4 27] := rfl
  have hb := fd_bound l a j (n := 10) (by omega)
  have hb4 := fd_bound l a (j + 1) (n := 4) (by omega)
  unfold predV
  have hk := fun fr => k16 l a j id 10 fr st h ha (by omega) (by omega)
  have hk4 := fun fr => k16 l a (j + 1) id 4 fr st h ha (by omega) (by omega)
  have hv1 := fun fr => k17 l a (j + 1) id fr st h ha (by omega)
  have hv3 := fun fr => k17 l a (j + 3) id fr st h ha (by omega)
  generalize fd l a j 10 = z at *
  generalize fd l a (j + 1) 4 = y at *
  have hz : z = 0 ∨ z = 1 ∨ z = 2 ∨ z = 3 ∨ z = 4 ∨ z = 5 ∨ z = 6 ∨ z = 7 ∨ z = 8 ∨ z = 9 := by omega
  have hy : y = 0 ∨ y = 1 ∨ y = 2 ∨ y = 3 := by omega
  have d0 := dd_zero st
  have a2 : j + 1 + 1 = j + 2 := rfl
  have a5 : j + 3 + 2 = j + 5 := rfl
  have a3 : j + 1 + 2 = j + 3 := by omega
  have hz2 := fun st a0 a1 a2 a3 a4 a5 a6 a7 a8 a9 a10 a11 hf => frz_predcells (a0 := a0) (a1 := a1) (a2 := a2) (a3 := a3) (a4 := a4) (a5 := a5) (a6 := a6) (a7 := a7) (a8 := a8) (a9 := a9) (a10 := a10) (a11 := a11) hf (frz_nil 4 st)
  have en : encVals [] = [] := rfl
  rcases hz with rfl | rfl | rfl | rfl | rfl | rfl | rfl | rfl | rfl | rfl
  case inr.inr.inr.inr.inr.inr.inr.inr.inl => rcases hy with rfl | rfl | rfl | rfl <;> simp [P4, vzero, d0, en, a2, a3, a5, hz2, w64_1, w64_2, w64_3, w64_4, w64_5, w64_6, w64_7, w64_8, w64_9, w64_10, hk, hk4, hv1, hv3, -Int.not_le, -Int.not_lt, -Nat.not_le, -Nat.not_lt, ty3, ty4, ty9, ty24, ty25, ty27, ty29, ty107, eq24, hm, hl, hr, fi16_eq, fi17_eq, e29_1, e29_3, e29_6, e29_9, e29_12, e29_13, e29_11, e29_15, e29_18, e29_20, e29_21, e29_19, e29_17, e29_23, e29_27, e29_32, e29_34, e29_35, e29_33, e29_31, e29_38, q29_38, e29_37, e29_39, e29_36, e29_30, e29_28, e29_26, e29_41, e29_42, e29_25, e29_43, e29_24, e29_22, e29_16, e29_14, e29_10, e29_8, e29_7, e29_5, e29_45, e29_48, e29_50, e29_51, e29_49, e29_47, e29_53, e29_54, e29_52, e29_46, e29_44, e29_4, e29_2, e29_0, n29_29]
  case inr.inr.inr.inr.inr.inr.inr.inr.inr =>
    have hv2 := fun fr => k17 l a (j + 2) id fr st h ha (by omega)
    have e2 : (0 : Int) ≤ y := by omega
    have e3 : IntKind.wrap .i64 (y - 1) = y - 1 := wrap64 (by omega) (by omega)
    have r3 := fun fr k len cs => newRef_setF h fr k len cs l (nA l a (j + 2 + 2))
    simp [-St.obj, -St.set, a2, w64_1, w64_2, w64_3, w64_4, w64_5, w64_6, w64_7, w64_8, w64_9, w64_10, hk, hk4, hv1, hv3, -Int.not_le, -Int.not_lt, -Nat.not_le, -Nat.not_lt, ty3, ty4, ty9, ty24, ty25, ty27, ty29, ty107, eq24, hm, hl, hr, fi16_eq, fi17_eq, e29_1, e29_3, e29_6, e29_9, e29_12, e29_13, e29_11, e29_15, e29_18, e29_20, e29_21, e29_19, e29_17, e29_23, e29_27, e29_32, e29_34, e29_35, e29_33, e29_31, e29_38, q29_38, e29_37, e29_39, e29_36, e29_30, e29_28, e29_26, e29_41, e29_42, e29_25, e29_43, e29_24, e29_22, e29_16, e29_14, e29_10, e29_8, e29_7, e29_5, e29_45, e29_48, e29_50, e29_51, e29_49, e29_47, e29_53, e29_54, e29_52, e29_46, e29_44, e29_4, e29_2, e29_0, n29_29]
    refine evK_loop c29_30 _ _ _ _ rfl ?_
    simp [-St.obj, -St.set, e2, e3, hv2, r3, markStep, markAppend, elemsAt, -Int.not_le, -Int.not_lt, -Nat.not_le, -Nat.not_lt, ty3, ty4, ty9, ty24, ty25, ty27, ty29, ty107, eq24, hm, hl, hr, fi16_eq, fi17_eq, e29_1, e29_3, e29_6, e29_9, e29_12, e29_13, e29_11, e29_15, e29_18, e29_20, e29_21, e29_19, e29_17, e29_23, e29_27, e29_32, e29_34, e29_35, e29_33, e29_31, e29_38, q29_38, e29_37, e29_39, e29_36, e29_30, e29_28, e29_26, e29_41, e29_42, e29_25, e29_43, e29_24, e29_22, e29_16, e29_14, e29_10, e29_8, e29_7, e29_5, e29_45, e29_48, e29_50, e29_51, e29_49, e29_47, e29_53, e29_54, e29_52, e29_46, e29_44, e29_4, e29_2, e29_0, n29_29]
    have hf := fun T X => L29 nm l a id ha st h (.val (.str nm)) (.val (.int .i64 10)) rfl rfl y.toNat (j + 2 + 2) 0 [valueV l a (j + 2)] T X (by omega) rfl (by simp; omega)
    have ey : ((y.toNat : Nat) : Int) = y := by omega
    rw [ey] at hf
    refine Eq.trans (hf _ _ ?_ ?_) ?_
    · simp
    · simp
    · have hl := vals_length l a (y.toNat + 1) (j + 2)
      have hc : [valueV l a (j + 2)] ++ valsV l a (j + 2 + 2) y.toNat = valsV l a (j + 2) (y.toNat + 1) := rfl
      rw [hc, hl]
      rw [show 0 + 1 + y.toNat = y.toNat + 1 by omega, show j + 2 + 2 + 2 * y.toNat = j + (2 + 2 * (y.toNat + 1)) by omega]
      rfl
  all_goals simp [vzero, d0, en, a2, a3, a5, hz2, w64_1, w64_2, w64_3, w64_4, w64_5, w64_6, w64_7, w64_8, w64_9, w64_10, hk, hk4, hv1, hv3, -Int.not_le, -Int.not_lt, -Nat.not_le, -Nat.not_lt, ty3, ty4, ty9, ty24, ty25, ty27, ty29, ty107, eq24, hm, hl, hr, fi16_eq, fi17_eq, e29_1, e29_3, e29_6, e29_9, e29_12, e29_13, e29_11, e29_15, e29_18, e29_20, e29_21, e29_19, e29_17, e29_23, e29_27, e29_32, e29_34, e29_35, e29_33, e29_31, e29_38, q29_38, e29_37, e29_39, e29_36, e29_30, e29_28, e29_26, e29_41, e29_42, e29_25, e29_43, e29_24, e29_22, e29_16, e29_14, e29_10, e29_8, e29_7, e29_5, e29_45, e29_48, e29_50, e29_51, e29_49, e29_47, e29_53, e29_54, e29_52, e29_46, e29_44, e29_4, e29_2, e29_0, n29_29]
theorem k29 (l : List Int) (a j id : Nat) (nm : List UInt8) (fr : Fr) (st : St) (h : FeedOk st id) (ha : a < 549755813888) (hj : j < 549755811000) :
    callStep gS (EvF gS) 29 [.ptr id 0, .str nm] fr (setF st id l (nA l a j)) = some (.ok (.val ((predV l a j nm).1.enc)) (fr.map E.noMem) (setF (dd st ((predV l a j nm).1.set.length)) id l (nA l a (j + (predV l a j nm).2)))) := by
  unfold callStep
  simp only [show gS.ext 29 = none from rfl, fi29_eq, show fi29.pure = false from rfl, Bool.false_eq_true, if_false, c29 l a j id nm st h ha (by omega), retE]
  all_goals rfl
end Go.Proofs.Ytclpbfkbpcjejaa
namespace Go.Proofs.Ytclpbfkbpcjejaa
open Go Go.Ab
set_option linter.unusedVariables false
set_option linter.unusedSimpArgs false
set_option linter.unnecessarySimpa false
set_option maxRecDepth 20000
variable (fr : Fr) (st : St) (k : Kt)
theorem k18 (fr : Fr) (st : St) : callStep gS (EvF gS) 18 [] fr st = some (.ok (.val (.bool true)) fr st) := by
  have hc : EvF gS 18 [] ⟨[], 0⟩ = some (.ret (.bool true) none, ⟨[], 0⟩) := Evn.lim ⟨400, fun n hn => by
    obtain ⟨m, rfl⟩ : ∃ m, n = m + 400 := ⟨n - 400, by omega⟩
    kernel_rfl⟩
  obtain ⟨fi, hf, hp⟩ : ∃ fi, gS.fn 18 = some fi ∧ fi.pure = true := by
    refine ⟨(gS.fn 18).getD ⟨.skip, 0, [], [], [], false, []⟩, by kernel_rfl, by kernel_rfl⟩
  unfold callStep
  simp only [show gS.ext 18 = none from rfl, hf, hp, if_true, show flats [] = true from by simp, hc, show V.flat (.bool true) = true from rfl]
  rfl
noncomputable def fi5 : FI := { body := codeOf Try.f5, ntmps := 72, results := [.tmp 4], pers := [0, 1, 4, 5, 6, 7, 8, 9, 10, 11, 12], locals := [6, 7, 12], pure := false, marks := [] }
theorem fi5_eq : gS.fn 5 = some fi5 := by kernel_rfl
theorem st5 (a0 a1 : V) : startFr fi5 [a0, a1] = { ps := [(0, .val a0), (1, .val a1), (4, .any), (5, .any), (6, .any), (7, .any), (8, .any), (9, .any), (10, .any), (11, .any), (12, .any)], ts := [], lc := [] } := rfl
noncomputable def b5 : Code := mini (codeOf Try.f5)
noncomputable def c5_1 : Code := codeAt b5 [false]
theorem e5_1 : evK gS fi5 c5_1 fr st k = opsK gS fi5 [(some 4)] [mk (some 4) (.assign (.const (.bool false))) 4 none] fr.clear st fr k := evK_reg1 (i := 0) (by kernel_rfl) (by kernel_rfl)
noncomputable def c5_3 : Code := codeAt b5 [true, false]
theorem e5_3 : evK gS fi5 c5_3 fr st k = opsK gS fi5 [(some 13), (some 14), (some 15), (some 5)] [mk (some 13) (.move (.tmp 0)) 28 none,
  mk (some 14) (.build 31 #[(0, (.tmp 13))]) 31 none,
  mk (some 15) (.box 31 (.tmp 14)) 29 none,
  mk (some 5) (.assign (.tmp 15)) 29 none] fr.clear st fr k := evK_reg1 (i := 1) (by kernel_rfl) (by kernel_rfl)
noncomputable def c5_5 : Code := codeAt b5 [true, true, false]
theorem e5_5 : evK gS fi5 c5_5 fr st k = opsK gS fi5 [(some 16), (some 17), (some 6), none] [mk (some 16) (.move (.tmp 5)) 29 none,
  mk (some 17) (.call { callee := (.value (.func 29)), args := #[(.tmp 16), (.const (.string { data := #[97] }))], argTypes := #[29, 9] }) 27 none,
  mk (some 6) (.alloc 27) 0 none,
  mk none (.store 27 (.tmp 6) (.tmp 17)) 0 none] fr.clear st fr k := evK_reg1 (i := 2) (by kernel_rfl) (by kernel_rfl)
noncomputable def c5_7 : Code := codeAt b5 [true, true, true, false]
theorem e5_7 : evK gS fi5 c5_7 fr st k = opsK gS fi5 [(some 18), (some 19), (some 7), none] [mk (some 18) (.move (.tmp 5)) 29 none,
  mk (some 19) (.call { callee := (.value (.func 29)), args := #[(.tmp 18), (.const (.string { data := #[97] }))], argTypes := #[29, 9] }) 27 none,
  mk (some 7) (.alloc 27) 0 none,
  mk none (.store 27 (.tmp 7) (.tmp 19)) 0 none] fr.clear st fr k := evK_reg1 (i := 3) (by kernel_rfl) (by kernel_rfl)
noncomputable def c5_10 : Code := codeAt b5 [true, true, true, true, false, false]
theorem e5_10 : evK gS fi5 c5_10 fr st k = opsK gS fi5 [(some 20), (some 21), (some 22)] [mk (some 20) (.move (.tmp 5)) 29 none,
  mk (some 21) (.call { callee := (.value (.func 16)), args := #[(.tmp 20), (.const (.int .i64 3))], argTypes := #[29, 3] }) 3 none,
  mk (some 22) (.binOp .eql 3 (.tmp 21) (.const (.int .i64 0)) 3) 4 none] fr.clear st fr k := evK_reg1 (i := 4) (by kernel_rfl) (by kernel_rfl)
noncomputable def c5_12 : Code := codeAt b5 [true, true, true, true, false, true, false]
theorem e5_12 : evK gS fi5 c5_12 fr st k = opsK gS fi5 [(some 23), (some 24), (some 25), none] [mk (some 23) (.fieldAddr 27 (.tmp 6) 2) 0 none,
  mk (some 24) (.load 24 (.tmp 23)) 24 none,
  mk (some 25) (.fieldAddr 27 (.tmp 7) 2) 0 none,
  mk none (.store 24 (.tmp 25) (.tmp 24)) 0 none] fr.clear st fr k := evK_reg1 (i := 5) (by kernel_rfl) (by kernel_rfl)
noncomputable def c5_13 : Code := .skip
theorem e5_13 : evK gS fi5 c5_13 fr st k = nextK gS fi5 k .normal fr st := rfl
noncomputable def c5_11 : Code := .cond (.tmp 22) c5_12 c5_13
theorem e5_11 : evK gS fi5 c5_11 fr st k = condK gS fi5 (fr.op (.tmp 22)).bool? c5_12 c5_13 fr st k := rfl
noncomputable def c5_9 : Code := .seq c5_10 c5_11
theorem e5_9 : evK gS fi5 c5_9 fr st k = evK gS fi5 c5_10 fr st (.seq c5_11 k) := rfl
noncomputable def c5_15 : Code := codeAt b5 [true, true, true, true, true, false]
theorem e5_15 : evK gS fi5 c5_15 fr st k = opsK gS fi5 [(some 26), (some 27), (some 28), (some 8)] [mk (some 26) (.move (.tmp 1)) 28 none,
  mk (some 27) (.build 31 #[(0, (.tmp 26))]) 31 none,
  mk (some 28) (.box 31 (.tmp 27)) 29 none,
  mk (some 8) (.assign (.tmp 28)) 29 none] fr.clear st fr k := evK_reg1 (i := 6) (by kernel_rfl) (by kernel_rfl)
noncomputable def c5_17 : Code := codeAt b5 [true, true, true, true, true, true, false]
theorem e5_17 : evK gS fi5 c5_17 fr st k = opsK gS fi5 [(some 29), (some 30), (some 31), (some 9)] [mk (some 29) (.load 27 (.tmp 6)) 27 none,
  mk (some 30) (.load 27 (.tmp 7)) 27 none,
  mk (some 31) (.call { callee := (.value (.func 27)), args := #[(.tmp 29), (.tmp 30)], argTypes := #[27, 27] }) 4 none,
  mk (some 9) (.assign (.tmp 31)) 4 none] fr.clear st fr k := evK_reg1 (i := 7) (by kernel_rfl) (by kernel_rfl)
noncomputable def c5_19 : Code := codeAt b5 [true, true, true, true, true, true, true, false]
theorem e5_19 : evK gS fi5 c5_19 fr st k = opsK gS fi5 [(some 32), (some 33), (some 10)] [mk (some 32) (.load 27 (.tmp 6)) 27 none,
  mk (some 33) (.call { callee := (.value (.func 23)), args := #[(.tmp 32)], argTypes := #[27] }) 4 none,
  mk (some 10) (.assign (.tmp 33)) 4 none] fr.clear st fr k := evK_reg1 (i := 8) (by kernel_rfl) (by kernel_rfl)
noncomputable def c5_22 : Code := codeAt b5 [true, true, true, true, true, true, true, true, false, false]
theorem e5_22 : evK gS fi5 c5_22 fr st k = opsK gS fi5 [(some 11)] [mk (some 11) (.assign (.const (.int .i64 0))) 3 none] fr.clear st fr k := evK_reg1 (i := 9) (by kernel_rfl) (by kernel_rfl)
noncomputable def c5_27 : Code := codeAt b5 [true, true, true, true, true, true, true, true, false, true, false, false, false, false]
theorem e5_27 : evK gS fi5 c5_27 fr st k = opsK gS fi5 [(some 34), (some 35)] [mk (some 34) (.move (.tmp 11)) 3 none,
  mk (some 35) (.binOp .lss 3 (.tmp 34) (.const (.int .i64 12)) 3) 4 none] fr.clear st fr k := evK_reg1 (i := 10) (by kernel_rfl) (by kernel_rfl)
noncomputable def c5_29 : Code := .skip
theorem e5_29 : evK gS fi5 c5_29 fr st k = nextK gS fi5 k .normal fr st := rfl
noncomputable def c5_30 : Code := .exit 0
theorem e5_30 : evK gS fi5 c5_30 fr st k = nextK gS fi5 k (.exit 0) fr st := rfl
noncomputable def c5_28 : Code := .cond (.tmp 35) c5_29 c5_30
theorem e5_28 : evK gS fi5 c5_28 fr st k = condK gS fi5 (fr.op (.tmp 35)).bool? c5_29 c5_30 fr st k := rfl
noncomputable def c5_26 : Code := .seq c5_27 c5_28
theorem e5_26 : evK gS fi5 c5_26 fr st k = evK gS fi5 c5_27 fr st (.seq c5_28 k) := rfl
noncomputable def c5_34 : Code := codeAt b5 [true, true, true, true, true, true, true, true, false, true, false, false, true, false, false, false]
theorem e5_34 : evK gS fi5 c5_34 fr st k = opsK gS fi5 [(some 38), (some 39), (some 12), none] [mk (some 38) (.move (.tmp 8)) 29 none,
  mk (some 39) (.call { callee := (.value (.func 17)), args := #[(.tmp 38)], argTypes := #[29] }) 24 none,
  mk (some 12) (.alloc 24) 0 none,
  mk none (.store 24 (.tmp 12) (.tmp 39)) 0 none] fr.clear st fr k := evK_reg1 (i := 12) (by kernel_rfl) (by kernel_rfl)
noncomputable def c5_37 : Code := codeAt b5 [true, true, true, true, true, true, true, true, false, true, false, false, true, false, false, true, false, false]
theorem e5_37 : evK gS fi5 c5_37 fr st k = opsK gS fi5 [(some 40), (some 41)] [mk (some 40) (.move (.tmp 11)) 3 none,
  mk (some 41) (.binOp .eql 3 (.tmp 40) (.const (.int .i64 0)) 3) 4 none] fr.clear st fr k := evK_reg1 (i := 13) (by kernel_rfl) (by kernel_rfl)
noncomputable def c5_39 : Code := codeAt b5 [true, true, true, true, true, true, true, true, false, true, false, false, true, false, false, true, false, true, false]
theorem e5_39 : evK gS fi5 c5_39 fr st k = opsK gS fi5 [(some 42), (some 43), none] [mk (some 42) (.fieldAddr 27 (.tmp 6) 2) 0 none,
  mk (some 43) (.load 24 (.tmp 42)) 24 none,
  mk none (.store 24 (.tmp 12) (.tmp 43)) 0 none] fr.clear st fr k := evK_reg1 (i := 14) (by kernel_rfl) (by kernel_rfl)
noncomputable def c5_40 : Code := .skip
theorem e5_40 : evK gS fi5 c5_40 fr st k = nextK gS fi5 k .normal fr st := rfl
noncomputable def c5_38 : Code := .cond (.tmp 41) c5_39 c5_40
theorem e5_38 : evK gS fi5 c5_38 fr st k = condK gS fi5 (fr.op (.tmp 41)).bool? c5_39 c5_40 fr st k := rfl
noncomputable def c5_36 : Code := .seq c5_37 c5_38
theorem e5_36 : evK gS fi5 c5_36 fr st k = evK gS fi5 c5_37 fr st (.seq c5_38 k) := rfl
noncomputable def c5_43 : Code := codeAt b5 [true, true, true, true, true, true, true, true, false, true, false, false, true, false, false, true, true, false, false]
theorem e5_43 : evK gS fi5 c5_43 fr st k = opsK gS fi5 [(some 44), (some 45)] [mk (some 44) (.move (.tmp 11)) 3 none,
  mk (some 45) (.binOp .eql 3 (.tmp 44) (.const (.int .i64 1)) 3) 4 none] fr.clear st fr k := evK_reg1 (i := 15) (by kernel_rfl) (by kernel_rfl)
noncomputable def c5_45 : Code := codeAt b5 [true, true, true, true, true, true, true, true, false, true, false, false, true, false, false, true, true, false, true, false]
theorem e5_45 : evK gS fi5 c5_45 fr st k = opsK gS fi5 [(some 46), (some 47), none] [mk (some 46) (.fieldAddr 27 (.tmp 7) 2) 0 none,
  mk (some 47) (.load 24 (.tmp 46)) 24 none,
  mk none (.store 24 (.tmp 12) (.tmp 47)) 0 none] fr.clear st fr k := evK_reg1 (i := 16) (by kernel_rfl) (by kernel_rfl)
noncomputable def c5_46 : Code := .skip
theorem e5_46 : evK gS fi5 c5_46 fr st k = nextK gS fi5 k .normal fr st := rfl
noncomputable def c5_44 : Code := .cond (.tmp 45) c5_45 c5_46
theorem e5_44 : evK gS fi5 c5_44 fr st k = condK gS fi5 (fr.op (.tmp 45)).bool? c5_45 c5_46 fr st k := rfl
noncomputable def c5_42 : Code := .seq c5_43 c5_44
theorem e5_42 : evK gS fi5 c5_42 fr st k = evK gS fi5 c5_43 fr st (.seq c5_44 k) := rfl
noncomputable def c5_49 : Code := codeAt b5 [true, true, true, true, true, true, true, true, false, true, false, false, true, false, false, true, true, true, false, false]
theorem e5_49 : evK gS fi5 c5_49 fr st k = opsK gS fi5 [(some 48), (some 49), (some 50)] [mk (some 48) (.fieldAddr 24 (.tmp 12) 0) 0 none,
  mk (some 49) (.load 3 (.tmp 48)) 3 none,
  mk (some 50) (.binOp .eql 3 (.tmp 49) (.const (.int .i64 0)) 3) 4 none] fr.clear st fr k := evK_reg1 (i := 17) (by kernel_rfl) (by kernel_rfl)
noncomputable def c5_51 : Code := .exit 1
theorem e5_51 : evK gS fi5 c5_51 fr st k = nextK gS fi5 k (.exit 1) fr st := rfl
noncomputable def c5_52 : Code := .skip
theorem e5_52 : evK gS fi5 c5_52 fr st k = nextK gS fi5 k .normal fr st := rfl
noncomputable def c5_50 : Code := .cond (.tmp 50) c5_51 c5_52
theorem e5_50 : evK gS fi5 c5_50 fr st k = condK gS fi5 (fr.op (.tmp 50)).bool? c5_51 c5_52 fr st k := rfl
noncomputable def c5_48 : Code := .seq c5_49 c5_50
theorem e5_48 : evK gS fi5 c5_48 fr st k = evK gS fi5 c5_49 fr st (.seq c5_50 k) := rfl
noncomputable def c5_54 : Code := codeAt b5 [true, true, true, true, true, true, true, true, false, true, false, false, true, false, false, true, true, true, true, false]
theorem e5_54 : evK gS fi5 c5_54 fr st k = opsK gS fi5 [(some 51), (some 52), (some 53), (some 54), (some 55), (some 56), (some 57), (some 58), (some 59), (some 60), (some 61), (some 62), (some 63), (some 64), (some 65), (some 66), (some 67), (some 68), (some 69), (some 70)] [mk (some 51) (.move (.tmp 9)) 4 none,
  mk (some 52) (.move (.tmp 51)) 4 none,
  mk (some 53) (.load 27 (.tmp 6)) 27 (some (1, true)),
  mk (some 54) (.load 24 (.tmp 12)) 24 (some (1, true)),
  mk (some 55) (.call { callee := (.value (.func 21)), args := #[(.tmp 53), (.tmp 54)], argTypes := #[27, 24] }) 4 (some (1, true)),
  mk (some 56) (.pick (.tmp 52) (.tmp 55) (.const (.bool false))) 4 none,
  mk (some 57) (.move (.tmp 56)) 4 none,
  mk (some 58) (.load 27 (.tmp 7)) 27 (some (6, true)),
  mk (some 59) (.load 24 (.tmp 12)) 24 (some (6, true)),
  mk (some 60) (.call { callee := (.value (.func 21)), args := #[(.tmp 58), (.tmp 59)], argTypes := #[27, 24] }) 4 (some (6, true)),
  mk (some 61) (.unOp .not 4 (.tmp 60)) 4 (some (6, true)),
  mk (some 62) (.pick (.tmp 57) (.tmp 61) (.const (.bool false))) 4 none,
  mk (some 63) (.move (.tmp 62)) 4 none,
  mk (some 64) (.move (.tmp 10)) 4 (some (12, false)),
  mk (some 65) (.move (.tmp 64)) 4 (some (12, false)),
  mk (some 66) (.load 27 (.tmp 6)) 27 (some (14, true)),
  mk (some 67) (.load 24 (.tmp 12)) 24 (some (14, true)),
  mk (some 68) (.call { callee := (.value (.func 21)), args := #[(.tmp 66), (.tmp 67)], argTypes := #[27, 24] }) 4 (some (14, true)),
  mk (some 69) (.pick (.tmp 65) (.tmp 68) (.const (.bool false))) 4 (some (12, false)),
  mk (some 70) (.pick (.tmp 63) (.const (.bool true)) (.tmp 69)) 4 none] fr.clear st fr k := evK_reg1 (i := 18) (by kernel_rfl) (by kernel_rfl)
noncomputable def c5_57 : Code := codeAt b5 [true, true, true, true, true, true, true, true, false, true, false, false, true, false, false, true, true, true, true, true, false, false]
theorem e5_57 : evK gS fi5 c5_57 fr st k = opsK gS fi5 [(some 4)] [mk (some 4) (.assign (.const (.bool false))) 4 none] fr.clear st fr k := evK_reg1 (i := 19) (by kernel_rfl) (by kernel_rfl)
noncomputable def c5_58 : Code := .ret
theorem e5_58 : evK gS fi5 c5_58 fr st k = nextK gS fi5 k .ret fr st := rfl
noncomputable def c5_56 : Code := .seq c5_57 c5_58
theorem e5_56 : evK gS fi5 c5_56 fr st k = evK gS fi5 c5_57 fr st (.seq c5_58 k) := rfl
noncomputable def c5_59 : Code := .skip
theorem e5_59 : evK gS fi5 c5_59 fr st k = nextK gS fi5 k .normal fr st := rfl
noncomputable def c5_55 : Code := .cond (.tmp 70) c5_56 c5_59
theorem e5_55 : evK gS fi5 c5_55 fr st k = condK gS fi5 (fr.op (.tmp 70)).bool? c5_56 c5_59 fr st k := rfl
noncomputable def c5_53 : Code := .seq c5_54 c5_55
theorem e5_53 : evK gS fi5 c5_53 fr st k = evK gS fi5 c5_54 fr st (.seq c5_55 k) := rfl
noncomputable def c5_47 : Code := .seq c5_48 c5_53
theorem e5_47 : evK gS fi5 c5_47 fr st k = evK gS fi5 c5_48 fr st (.seq c5_53 k) := rfl
noncomputable def c5_41 : Code := .seq c5_42 c5_47
theorem e5_41 : evK gS fi5 c5_41 fr st k = evK gS fi5 c5_42 fr st (.seq c5_47 k) := rfl
noncomputable def c5_35 : Code := .seq c5_36 c5_41
theorem e5_35 : evK gS fi5 c5_35 fr st k = evK gS fi5 c5_36 fr st (.seq c5_41 k) := rfl
noncomputable def c5_33 : Code := .seq c5_34 c5_35
theorem e5_33 : evK gS fi5 c5_33 fr st k = evK gS fi5 c5_34 fr st (.seq c5_35 k) := rfl
noncomputable def c5_32 : Code := .block 1 c5_33
theorem e5_32 : evK gS fi5 c5_32 fr st k = evK gS fi5 c5_33 fr st (.blk 1 k) := rfl
noncomputable def c5_60 : Code := codeAt b5 [true, true, true, true, true, true, true, true, false, true, false, false, true, true]
theorem e5_60 : evK gS fi5 c5_60 fr st k = opsK gS fi5 [(some 36), (some 37), (some 11)] [mk (some 36) (.move (.tmp 11)) 3 none,
  mk (some 37) (.binOp .add 3 (.tmp 36) (.const (.int .i64 1)) 3) 3 none,
  mk (some 11) (.assign (.tmp 37)) 3 none] fr.clear st fr k := evK_reg1 (i := 11) (by kernel_rfl) (by kernel_rfl)
noncomputable def c5_31 : Code := .seq c5_32 c5_60
theorem e5_31 : evK gS fi5 c5_31 fr st k = evK gS fi5 c5_32 fr st (.seq c5_60 k) := rfl
noncomputable def c5_25 : Code := .seq c5_26 c5_31
theorem e5_25 : evK gS fi5 c5_25 fr st k = evK gS fi5 c5_26 fr st (.seq c5_31 k) := rfl
noncomputable def c5_24 : Code := .loop c5_25
noncomputable def c5_23 : Code := .block 0 c5_24
theorem e5_23 : evK gS fi5 c5_23 fr st k = evK gS fi5 c5_24 fr st (.blk 0 k) := rfl
noncomputable def c5_21 : Code := .seq c5_22 c5_23
theorem e5_21 : evK gS fi5 c5_21 fr st k = evK gS fi5 c5_22 fr st (.seq c5_23 k) := rfl
noncomputable def c5_62 : Code := codeAt b5 [true, true, true, true, true, true, true, true, true, false]
theorem e5_62 : evK gS fi5 c5_62 fr st k = opsK gS fi5 [(some 71), (some 4)] [mk (some 71) (.call { callee := (.value (.func 18)), args := #[], argTypes := #[] }) 4 none,
  mk (some 4) (.assign (.tmp 71)) 4 none] fr.clear st fr k := evK_reg1 (i := 20) (by kernel_rfl) (by kernel_rfl)
noncomputable def c5_63 : Code := .ret
theorem e5_63 : evK gS fi5 c5_63 fr st k = nextK gS fi5 k .ret fr st := rfl
noncomputable def c5_61 : Code := .seq c5_62 c5_63
theorem e5_61 : evK gS fi5 c5_61 fr st k = evK gS fi5 c5_62 fr st (.seq c5_63 k) := rfl
noncomputable def c5_20 : Code := .seq c5_21 c5_61
theorem e5_20 : evK gS fi5 c5_20 fr st k = evK gS fi5 c5_21 fr st (.seq c5_61 k) := rfl
noncomputable def c5_18 : Code := .seq c5_19 c5_20
theorem e5_18 : evK gS fi5 c5_18 fr st k = evK gS fi5 c5_19 fr st (.seq c5_20 k) := rfl
noncomputable def c5_16 : Code := .seq c5_17 c5_18
theorem e5_16 : evK gS fi5 c5_16 fr st k = evK gS fi5 c5_17 fr st (.seq c5_18 k) := rfl
noncomputable def c5_14 : Code := .seq c5_15 c5_16
theorem e5_14 : evK gS fi5 c5_14 fr st k = evK gS fi5 c5_15 fr st (.seq c5_16 k) := rfl
noncomputable def c5_8 : Code := .seq c5_9 c5_14
theorem e5_8 : evK gS fi5 c5_8 fr st k = evK gS fi5 c5_9 fr st (.seq c5_14 k) := rfl
noncomputable def c5_6 : Code := .seq c5_7 c5_8
theorem e5_6 : evK gS fi5 c5_6 fr st k = evK gS fi5 c5_7 fr st (.seq c5_8 k) := rfl
noncomputable def c5_4 : Code := .seq c5_5 c5_6
theorem e5_4 : evK gS fi5 c5_4 fr st k = evK gS fi5 c5_5 fr st (.seq c5_6 k) := rfl
noncomputable def c5_2 : Code := .seq c5_3 c5_4
theorem e5_2 : evK gS fi5 c5_2 fr st k = evK gS fi5 c5_3 fr st (.seq c5_4 k) := rfl
noncomputable def c5_0 : Code := .seq c5_1 c5_2
theorem e5_0 : evK gS fi5 c5_0 fr st k = evK gS fi5 c5_1 fr st (.seq c5_2 k) := rfl
theorem m5 : mini fi5.body = c5_0 := by kernel_rfl
theorem n5_24 (fr : Fr) (st : St) (k : Kt) : nextK gS fi5 (.loop c5_25 k) .normal fr st = evK gS fi5 c5_24 fr st k := rfl
/-- What the law asks of a value. -/
def Asks (p q : Pred) (v : Val) : Prop := (pimplies p q = true → ptakes p v = true → ptakes q v = true) ∧ (pvoid p = true → ptakes p v = false)
set_option maxHeartbeats 8000000 in
theorem T5_47 (p q : Pred) (v : Val) (hp : Pred.ok p) (hq : Pred.ok q) (hv : Asks p q v) (id i : Nat) (hi : i < 12) (st : St) (R : Out × St)
    (e0 e1 e5 : E) (h0 : e0.Tame) (h1 : e1.Tame) (h5 : e5.Tame) (T : List (Nat × E)) (X : List (Nat × List V)) (hx6 : lk X 6 = some p.cells) (hx7 : lk X 7 = some q.cells) (hx12 : lk X 12 = some v.cells)
    (IH : ∀ T, evK gS fi5 c5_24 { ps := [(0, e0), (1, e1), (4, .val (.bool false)), (5, e5), (6, .lp 6 0), (7, .lp 7 0), (8, .val (.ptr id 0)), (9, .val (.bool (pimplies p q))), (10, .val (.bool (pvoid p))), (11, .val (.int .i64 ((i + 1 : Nat) : Int))), (12, .lp 12 0)], ts := T, lc := X } st (.blk 0 (.seq c5_61 .nil)) = some R) :
    evK gS fi5 c5_47 { ps := [(0, e0), (1, e1), (4, .val (.bool false)), (5, e5), (6, .lp 6 0), (7, .lp 7 0), (8, .val (.ptr id 0)), (9, .val (.bool (pimplies p q))), (10, .val (.bool (pvoid p))), (11, .val (.int .i64 i)), (12, .lp 12 0)], ts := T, lc := X } st (.blk 1 (.seq c5_60 (.loop c5_25 (.blk 0 (.seq c5_61 .nil))))) = some R := by
  have hm : fi5.marks = [] := rfl
  have hl : fi5.locals = [6, 7, 12] := rfl
  have hr : fi5.results = [.tmp 4] := rfl
  have hw : IntKind.wrap .i64 ((i : Int) + 1) = ((i + 1 : Nat) : Int) := by rw [wrap64 (by omega) (by omega)]; omega
  obtain ⟨hv1, hv2⟩ := hv
  generalize hg1 : pimplies p q = b1 at *
  generalize hg2 : pvoid p = b2 at *
  generalize hg3 : ptakes p v = t1 at *
  generalize hg4 : ptakes q v = t2 at *
  cases b1 <;> cases b2 <;> cases t1 <;> cases t2 <;> first
    | (exfalso; simp at hv1 hv2; done)
    | (clear hv1 hv2; simp [-Int.natCast_add, h0, h1, h5, hx6, hx7, hx12, hw, IH, hp.1, hp.2, hq.1, hq.2, hg3, hg4, -Int.not_le, -Int.not_lt, -Nat.not_le, -Nat.not_lt, ty3, ty4, ty9, ty24, ty27, ty28, ty29, ty31, eq24, hm, hl, hr, k18, k21, k23, k27, e5_1, e5_3, e5_5, e5_7, e5_10, e5_12, e5_13, e5_11, e5_9, e5_15, e5_17, e5_19, e5_22, e5_27, e5_29, e5_30, e5_28, e5_26, e5_34, e5_37, e5_39, e5_40, e5_38, e5_36, e5_43, e5_45, e5_46, e5_44, e5_42, e5_49, e5_51, e5_52, e5_50, e5_48, e5_54, e5_57, e5_58, e5_56, e5_59, e5_55, e5_53, e5_47, e5_41, e5_35, e5_33, e5_32, e5_60, e5_31, e5_25, e5_23, e5_21, e5_62, e5_63, e5_61, e5_20, e5_18, e5_16, e5_14, e5_8, e5_6, e5_4, e5_2, e5_0, n5_24])
set_option maxHeartbeats 8000000 in
theorem L5 (p q : Pred) (hp : Pred.ok p) (hq : Pred.ok q) (more : List Int) (a id : Nat) (ha : a < 549755813888) (st : St) (h : FeedOk st id) (hv : ∀ j, Asks p q (valueV more a j)) (hpv : Asks p q p.v) (hqv : Asks p q q.v) :
    ∀ (r i : Nat) (e0 e1 e5 e12 : E) (T : List (Nat × E)) (X : List (Nat × List V)), i + r = 12 → e0.Tame → e1.Tame → e5.Tame → e12.Tame → lk X 6 = some p.cells → lk X 7 = some q.cells →
    evK gS fi5 c5_24 { ps := [(0, e0), (1, e1), (4, .val (.bool false)), (5, e5), (6, .lp 6 0), (7, .lp 7 0), (8, .val (.ptr id 0)), (9, .val (.bool (pimplies p q))), (10, .val (.bool (pvoid p))), (11, .val (.int .i64 i)), (12, e12)], ts := T, lc := X } (setF st id more (nA more a (2 * i))) (.blk 0 (.seq c5_61 .nil)) = some (.ret (.bool true) none, setF st id more (nA more a 24)) := by
  intro r
  have hm : fi5.marks = [] := rfl
  have hl : fi5.locals = [6, 7, 12] := rfl
  have hr : fi5.results = [.tmp 4] := rfl
  induction r with
  | zero =>
    intro i e0 e1 e5 e12 T X hi h0 h1 h5 h12 hx6 hx7
    obtain rfl : i = 12 := by omega
    refine evK_loop c5_25 _ _ _ _ rfl ?_
    simp [h0, h1, h5, h12, -Int.not_le, -Int.not_lt, -Nat.not_le, -Nat.not_lt, ty3, ty4, ty9, ty24, ty27, ty28, ty29, ty31, eq24, hm, hl, hr, k18, k21, k23, k27, e5_1, e5_3, e5_5, e5_7, e5_10, e5_12, e5_13, e5_11, e5_9, e5_15, e5_17, e5_19, e5_22, e5_27, e5_29, e5_30, e5_28, e5_26, e5_34, e5_37, e5_39, e5_40, e5_38, e5_36, e5_43, e5_45, e5_46, e5_44, e5_42, e5_49, e5_51, e5_52, e5_50, e5_48, e5_54, e5_57, e5_58, e5_56, e5_59, e5_55, e5_53, e5_41, e5_35, e5_33, e5_32, e5_60, e5_31, e5_25, e5_23, e5_21, e5_62, e5_63, e5_61, e5_20, e5_18, e5_16, e5_14, e5_8, e5_6, e5_4, e5_2, e5_0, n5_24]
  | succ r ih =>
    intro i e0 e1 e5 e12 T X hi h0 h1 h5 h12 hx6 hx7
    refine evK_loop c5_25 _ _ _ _ rfl ?_
    have hk := fun fr => k17 more a (2 * i) id fr st h ha (by omega)
    have hlt : (i : Int) < 12 := by omega
    have IH := fun e0 e1 e5 e12 T X h0 h1 h5 h12 h6 h7 => ih (i + 1) e0 e1 e5 e12 T X (by omega) h0 h1 h5 h12 h6 h7
    rw [show 2 * (i + 1) = 2 * i + 2 by omega] at IH
    have g0 := noLp_tame 12 h0
    have g1 := noLp_tame 12 h1
    have g5 := noLp_tame 12 h5
    have f6 : lk (X.filter fun x => !(x.1 == 12)) 6 = some p.cells := by rw [lk_filter _ _ _ rfl]; exact hx6
    have f7 : lk (X.filter fun x => !(x.1 == 12)) 7 = some q.cells := by rw [lk_filter _ _ _ rfl]; exact hx7
    have TT := fun v hv X hx6 hx7 hx12 T => T5_47 p q v hp hq hv id i (by omega) (setF st id more (nA more a (2 * i + 2))) _ _ _ _ g0 g1 g5 T X hx6 hx7 hx12 (fun T => IH _ _ _ (.lp 12 0) T X g0 g1 g5 rfl hx6 hx7)
    by_cases hi0 : i = 0
    · subst hi0
      have T1 := fun X hx6 hx7 hx12 T => TT p.v hpv X hx6 hx7 hx12 T
      simp [h0, h1, h5, h12, hx6, hx7, hk, -Int.not_le, -Int.not_lt, -Nat.not_le, -Nat.not_lt, ty3, ty4, ty9, ty24, ty27, ty28, ty29, ty31, eq24, hm, hl, hr, k18, k21, k23, k27, e5_1, e5_3, e5_5, e5_7, e5_10, e5_12, e5_13, e5_11, e5_9, e5_15, e5_17, e5_19, e5_22, e5_27, e5_29, e5_30, e5_28, e5_26, e5_34, e5_37, e5_39, e5_40, e5_38, e5_36, e5_43, e5_45, e5_46, e5_44, e5_42, e5_49, e5_51, e5_52, e5_50, e5_48, e5_54, e5_57, e5_58, e5_56, e5_59, e5_55, e5_53, e5_41, e5_35, e5_33, e5_32, e5_60, e5_31, e5_25, e5_23, e5_21, e5_62, e5_63, e5_61, e5_20, e5_18, e5_16, e5_14, e5_8, e5_6, e5_4, e5_2, e5_0, n5_24]
      refine T1 _ ?_ ?_ ?_ _ <;> simp [hx6, hx7]
    · by_cases hi1 : i = 1
      · subst hi1
        have T1 := fun X hx6 hx7 hx12 T => TT q.v hqv X hx6 hx7 hx12 T
        simp [h0, h1, h5, h12, hx6, hx7, hk, -Int.not_le, -Int.not_lt, -Nat.not_le, -Nat.not_lt, ty3, ty4, ty9, ty24, ty27, ty28, ty29, ty31, eq24, hm, hl, hr, k18, k21, k23, k27, e5_1, e5_3, e5_5, e5_7, e5_10, e5_12, e5_13, e5_11, e5_9, e5_15, e5_17, e5_19, e5_22, e5_27, e5_29, e5_30, e5_28, e5_26, e5_34, e5_37, e5_39, e5_40, e5_38, e5_36, e5_43, e5_45, e5_46, e5_44, e5_42, e5_49, e5_51, e5_52, e5_50, e5_48, e5_54, e5_57, e5_58, e5_56, e5_59, e5_55, e5_53, e5_41, e5_35, e5_33, e5_32, e5_60, e5_31, e5_25, e5_23, e5_21, e5_62, e5_63, e5_61, e5_20, e5_18, e5_16, e5_14, e5_8, e5_6, e5_4, e5_2, e5_0, n5_24]
        refine T1 _ ?_ ?_ ?_ _ <;> simp [hx6, hx7]
      · have hj1 : ¬ (i : Int) = 1 := by omega
        have T1 := fun X hx6 hx7 hx12 T => TT _ (hv (2 * i)) X hx6 hx7 hx12 T
        simp [h0, h1, h5, h12, hx6, hx7, hk, hlt, hi0, hi1, hj1, -Int.not_le, -Int.not_lt, -Nat.not_le, -Nat.not_lt, ty3, ty4, ty9, ty24, ty27, ty28, ty29, ty31, eq24, hm, hl, hr, k18, k21, k23, k27, e5_1, e5_3, e5_5, e5_7, e5_10, e5_12, e5_13, e5_11, e5_9, e5_15, e5_17, e5_19, e5_22, e5_27, e5_29, e5_30, e5_28, e5_26, e5_34, e5_37, e5_39, e5_40, e5_38, e5_36, e5_43, e5_45, e5_46, e5_44, e5_42, e5_49, e5_51, e5_52, e5_50, e5_48, e5_54, e5_57, e5_58, e5_56, e5_59, e5_55, e5_53, e5_41, e5_35, e5_33, e5_32, e5_60, e5_31, e5_25, e5_23, e5_21, e5_62, e5_63, e5_61, e5_20, e5_18, e5_16, e5_14, e5_8, e5_6, e5_4, e5_2, e5_0, n5_24]
        refine T1 _ ?_ ?_ ?_ _ <;> simp [hx6, hx7]
theorem new_feed (st : St) (l : List Int) : ({ objs := st.objs ++ [[V.slice (intVs l), V.int .i64 0]], wp := st.wp } : St) = setF (nw st 0 []) st.objs.length l (nA l 0 0) := by
  unfold setF nw nA
  simp
theorem feedOk_new {st : St} (h : st.wp ≤ st.objs.length) : FeedOk (nw st 0 []) st.objs.length := ⟨by rw [gr_len]; omega, h⟩
set_option maxHeartbeats 8000000 in
theorem c5 (l more : List Int) (st : St) (hst : st.wp ≤ st.objs.length) : ∃ st', EvF gS 5 [.slice (intVs l), .slice (intVs more)] st = some (.ret (.bool true) none, st') := by
  have hm : fi5.marks = [] := rfl
  have hl : fi5.locals = [6, 7, 12] := rfl
  have hr : fi5.results = [.tmp 4] := rfl
  have hf := feedOk_new hst
  have hp := fun fr => k29 l 0 0 st.objs.length [97] fr (nw st 0 []) hf (by omega) (by omega)
  have f1 := pred_fv l 0 0 [97]
  have r1 := pred_right l 0 0 (nm := [97]) rfl
  have b1 := pred_asks l 0 0 [97]
  generalize predV l 0 0 [97] = P1 at *
  obtain ⟨p, k1⟩ := P1
  rw [Nat.zero_add] at hp
  simp only at hp f1 r1 b1
  have hq := fun fr => k29 l 0 k1 st.objs.length [97] fr (dd (nw st 0 []) p.set.length) (hf.dd _) (by omega) (by omega)
  have f2 := pred_fv l 0 k1 [97]
  have r2 := pred_right l 0 k1 (nm := [97]) rfl
  have b2 := pred_asks l 0 k1 [97]
  generalize predV l 0 k1 [97] = P2 at *
  obtain ⟨q, k2⟩ := P2
  simp only at hq f2 r2 b2
  have hn3 := fun fr => k16 l 0 (k1 + k2) st.objs.length 3 fr (dd (dd (nw st 0 []) p.set.length) q.set.length) ((hf.dd _).dd _) (by omega) (by omega) (by omega)
  generalize hS : setF (dd (dd (nw st 0 []) p.set.length) q.set.length) st.objs.length l (nA l 0 (k1 + k2 + 1)) = S1 at hn3
  have hS1 : S1.wp ≤ S1.objs.length := by rw [← hS, setF_wp, setF_len, dd_wp, dd_wp, dd_len, dd_len, gr_wp, gr_len]; omega
  have hg := feedOk_new hS1
  have n1 := new_feed st l
  have n2 := new_feed S1 more
  have oq := ok_of_right r2
  have op := ok_of_right r1
  have mk : ∀ q' : Pred, PFV q' → Pred.ok q' → (∀ v, (∃ r, FV v r) → Asks p q' v) := fun q' hq' _ v hv => ⟨fun h1 h2 => sound f1 hq' hv h1 h2, fun h1 => void_none f1 hv h1⟩
  have fin := fun q' hq' oq' =>
    L5 p q' op oq' more 0 S1.objs.length (by omega) (nw S1 0 []) hg (fun j => mk q' hq' oq' _ (vr_value _ _ _).2) (mk q' hq' oq' _ f1.v) (mk q' hq' oq' _ hq'.v) 12 0
  refine ⟨setF (nw S1 0 []) S1.objs.length more (nA more 0 24), ?_⟩
  refine EvF_start fi5_eq (fun x h => by cases h) m5 ?_
  rw [st5]
  by_cases hz : fd l 0 (k1 + k2) 3 = 0
  · have f2' : PFV { q with v := p.v } := ⟨f1.v, f2.w, f2.set⟩
    have := fin _ f2' oq
    simp [n1, hp, hq, hn3, n2, hz, op.1, op.2, oq.1, oq.2, -Int.not_le, -Int.not_lt, -Nat.not_le, -Nat.not_lt, ty3, ty4, ty9, ty24, ty27, ty28, ty29, ty31, eq24, hm, hl, hr, k18, k21, k23, k27, e5_1, e5_3, e5_5, e5_7, e5_10, e5_12, e5_13, e5_11, e5_9, e5_15, e5_17, e5_19, e5_22, e5_27, e5_29, e5_30, e5_28, e5_26, e5_34, e5_37, e5_39, e5_40, e5_38, e5_36, e5_43, e5_45, e5_46, e5_44, e5_42, e5_49, e5_51, e5_52, e5_50, e5_48, e5_54, e5_57, e5_58, e5_56, e5_59, e5_55, e5_53, e5_41, e5_35, e5_33, e5_32, e5_60, e5_31, e5_25, e5_23, e5_21, e5_62, e5_63, e5_61, e5_20, e5_18, e5_16, e5_14, e5_8, e5_6, e5_4, e5_2, e5_0, n5_24]
    refine this _ _ _ _ _ _ rfl ?_ ?_ ?_ ?_ ?_ ?_ <;> simp
  · have := fin _ f2 oq
    simp [n1, hp, hq, hn3, n2, hz, op.1, op.2, oq.1, oq.2, -Int.not_le, -Int.not_lt, -Nat.not_le, -Nat.not_lt, ty3, ty4, ty9, ty24, ty27, ty28, ty29, ty31, eq24, hm, hl, hr, k18, k21, k23, k27, e5_1, e5_3, e5_5, e5_7, e5_10, e5_12, e5_13, e5_11, e5_9, e5_15, e5_17, e5_19, e5_22, e5_27, e5_29, e5_30, e5_28, e5_26, e5_34, e5_37, e5_39, e5_40, e5_38, e5_36, e5_43, e5_45, e5_46, e5_44, e5_42, e5_49, e5_51, e5_52, e5_50, e5_48, e5_54, e5_57, e5_58, e5_56, e5_59, e5_55, e5_53, e5_41, e5_35, e5_33, e5_32, e5_60, e5_31, e5_25, e5_23, e5_21, e5_62, e5_63, e5_61, e5_20, e5_18, e5_16, e5_14, e5_8, e5_6, e5_4, e5_2, e5_0, n5_24]
    refine this _ _ _ _ _ _ rfl ?_ ?_ ?_ ?_ ?_ ?_ <;> simp
end Go.Proofs.Ytclpbfkbpcjejaa
namespace Go.Ab
open Go
set_option linter.unusedVariables false
set_option linter.unusedSimpArgs false
set_option linter.unnecessarySimpa false
def aget : List Attr → List UInt8 → Val × Bool
  | [], _ => (vzero, false)
  | a :: r, nm => if a.name = nm then (a.v, true) else aget r nm
def sgt (a b : List UInt8) : Bool := !(Op.bytesLess a b || decide (a = b))
/-- Right ones, their names not falling. -/
def rises : Option (List UInt8) → List Pred → Bool
  | _, [] => true
  | none, p :: r => pright p && rises (some p.name) r
  | some n, p :: r => pright p && !sgt n p.name && rises (some p.name) r
def fright (f : List Pred) : Bool := decide (f.length ≤ 3) && rises none f
def ftakes (f : List Pred) (l : List Attr) : Bool := f.all fun p => (aget l p.name).2 && ptakes p (aget l p.name).1
def fcov1 (p : Pred) (g : List Pred) : Bool := g.any fun q => decide (q.name = p.name) && pimplies q p
def fcovers (f g : List Pred) : Bool := g.any pvoid || f.all fun p => fcov1 p g
def encPredss (l : List (List Pred)) : List V := l.map fun f => V.slice (encPreds f)
theorem encPredss_length (l : List (List Pred)) : (encPredss l).length = l.length := by simp [encPredss]
theorem encPredss_get (l : List (List Pred)) (i : Nat) : (encPredss l)[i]? = (l[i]?).map fun f => V.slice (encPreds f) := by simp [encPredss]
theorem encPredss_gE (l : List (List Pred)) (i : Nat) (h : i < (encPredss l).length) : (encPredss l)[i]'h = .slice (encPreds (l[i]'(by rw [encPredss_length] at h; exact h))) := by simp [encPredss]
theorem flats_predss (l : List (List Pred)) : flats (encPredss l) = true := by
  induction l with
  | nil => rfl
  | cons x r ih => simp only [encPredss, List.map_cons, flats, V.flat, flats_preds] at ih ⊢; exact ih
attribute [simp] encPredss_length encPredss_get encPredss_gE flats_predss
/-- Of a size that may be handled. -/
def POk (f : List Pred) : Prop := f.length < 4611686018427387904 ∧ ∀ p ∈ f, p.ok
theorem POk.get {f : List Pred} (h : POk f) {i : Nat} {p : Pred} (hp : f[i]? = some p) : p.ok := h.2 p (List.mem_of_getElem? hp)
theorem rises_some (n : List UInt8) (p : Pred) (r : List Pred) : rises (some n) (p :: r) = (pright p && !sgt n p.name && rises (some p.name) r) := rfl
theorem rises_none (p : Pred) (r : List Pred) : rises none (p :: r) = (pright p && rises (some p.name) r) := rfl
theorem rises_nil (o : Option (List UInt8)) : rises o [] = true := by cases o <;> rfl
/-- The name prevN of a place. -/
def prevN (f : List Pred) (i : Nat) : Option (List UInt8) := if i = 0 then none else (f[i - 1]?).map Pred.name
theorem prevN_zero (f : List Pred) : prevN f 0 = none := rfl
theorem prevN_succ {f : List Pred} {i : Nat} {p : Pred} (h : f[i]? = some p) : prevN f (i + 1) = some p.name := by
  unfold prevN; rw [if_neg (by omega), Nat.add_sub_cancel, h]; rfl
end Go.Ab
namespace Go.Proofs.Ytclpbfkbpcjejaa
open Go Go.Ab
set_option linter.unusedVariables false
set_option linter.unusedSimpArgs false
set_option linter.unnecessarySimpa false
set_option maxRecDepth 20000
variable (fr : Fr) (st : St) (k : Kt)
noncomputable def fi92 : FI := { body := codeOf Try.f92, ntmps := 22, results := [.cell 4 24, .tmp 5], pers := [0, 1, 4, 5, 7, 8, 9, 10], locals := [4, 7], pure := true, marks := [] }
theorem fi92_eq : gS.fn 92 = some fi92 := by kernel_rfl
theorem st92 (a0 a1 : V) : startFr fi92 [a0, a1] = { ps := [(0, .val a0), (1, .val a1), (4, .any), (5, .any), (7, .any), (8, .any), (9, .any), (10, .any)], ts := [], lc := [] } := rfl
noncomputable def b92 : Code := mini (codeOf Try.f92)
noncomputable def c92_1 : Code := codeAt b92 [false]
theorem e92_1 : evK gS fi92 c92_1 fr st k = opsK gS fi92 [(some 4), (some 5)] [mk (some 4) (.alloc 24) 0 none,
  mk (some 5) (.assign (.const (.bool false))) 4 none] fr.clear st fr k := evK_reg1 (i := 0) (by kernel_rfl) (by kernel_rfl)
noncomputable def c92_4 : Code := codeAt b92 [true, false, false]
theorem e92_4 : evK gS fi92 c92_4 fr st k = opsK gS fi92 [(some 8), (some 9), (some 10)] [mk (some 8) (.move (.tmp 0)) 50 none,
  mk (some 9) (.call { callee := (.builtin .len), args := #[(.tmp 8)], argTypes := #[50] }) 3 none,
  mk (some 10) (.move (.const (.int .i64 0))) 3 none] fr.clear st fr k := evK_reg1 (i := 1) (by kernel_rfl) (by kernel_rfl)
noncomputable def c92_8 : Code := codeAt b92 [true, false, true, false, false, false]
theorem e92_8 : evK gS fi92 c92_8 fr st k = opsK gS fi92 [(some 11)] [mk (some 11) (.binOp .lss 3 (.tmp 10) (.tmp 9) 3) 0 none] fr.clear st fr k := evK_reg1 (i := 2) (by kernel_rfl) (by kernel_rfl)
noncomputable def c92_11 : Code := .skip
theorem e92_11 : evK gS fi92 c92_11 fr st k = nextK gS fi92 k .normal fr st := rfl
noncomputable def c92_12 : Code := .exit 0
theorem e92_12 : evK gS fi92 c92_12 fr st k = nextK gS fi92 k (.exit 0) fr st := rfl
noncomputable def c92_10 : Code := .cond (.tmp 11) c92_11 c92_12
theorem e92_10 : evK gS fi92 c92_10 fr st k = condK gS fi92 (fr.op (.tmp 11)).bool? c92_11 c92_12 fr st k := rfl
noncomputable def c92_16 : Code := codeAt b92 [true, false, true, false, false, true, true, false, false, false]
theorem e92_16 : evK gS fi92 c92_16 fr st k = opsK gS fi92 [(some 12), (some 13), (some 7), none] [mk (some 12) (.indexAddr 50 (.tmp 8) (.tmp 10)) 0 none,
  mk (some 13) (.load 111 (.tmp 12)) 111 none,
  mk (some 7) (.alloc 111) 0 none,
  mk none (.store 111 (.tmp 7) (.tmp 13)) 0 none] fr.clear st fr k := evK_reg1 (i := 3) (by kernel_rfl) (by kernel_rfl)
noncomputable def c92_18 : Code := codeAt b92 [true, false, true, false, false, true, true, false, false, true, false]
theorem e92_18 : evK gS fi92 c92_18 fr st k = opsK gS fi92 [(some 14), (some 15), (some 16), (some 17)] [mk (some 14) (.fieldAddr 111 (.tmp 7) 0) 0 none,
  mk (some 15) (.load 9 (.tmp 14)) 9 none,
  mk (some 16) (.move (.tmp 1)) 9 none,
  mk (some 17) (.binOp .eql 9 (.tmp 15) (.tmp 16) 9) 4 none] fr.clear st fr k := evK_reg1 (i := 4) (by kernel_rfl) (by kernel_rfl)
noncomputable def c92_21 : Code := codeAt b92 [true, false, true, false, false, true, true, false, false, true, true, false, false]
theorem e92_21 : evK gS fi92 c92_21 fr st k = opsK gS fi92 [(some 18), (some 19), none, (some 5)] [mk (some 18) (.fieldAddr 111 (.tmp 7) 1) 0 none,
  mk (some 19) (.load 24 (.tmp 18)) 24 none,
  mk none (.store 24 (.tmp 4) (.tmp 19)) 0 none,
  mk (some 5) (.assign (.const (.bool true))) 4 none] fr.clear st fr k := evK_reg1 (i := 5) (by kernel_rfl) (by kernel_rfl)
noncomputable def c92_22 : Code := .ret
theorem e92_22 : evK gS fi92 c92_22 fr st k = nextK gS fi92 k .ret fr st := rfl
noncomputable def c92_20 : Code := .seq c92_21 c92_22
theorem e92_20 : evK gS fi92 c92_20 fr st k = evK gS fi92 c92_21 fr st (.seq c92_22 k) := rfl
noncomputable def c92_23 : Code := .skip
theorem e92_23 : evK gS fi92 c92_23 fr st k = nextK gS fi92 k .normal fr st := rfl
noncomputable def c92_19 : Code := .cond (.tmp 17) c92_20 c92_23
theorem e92_19 : evK gS fi92 c92_19 fr st k = condK gS fi92 (fr.op (.tmp 17)).bool? c92_20 c92_23 fr st k := rfl
noncomputable def c92_17 : Code := .seq c92_18 c92_19
theorem e92_17 : evK gS fi92 c92_17 fr st k = evK gS fi92 c92_18 fr st (.seq c92_19 k) := rfl
noncomputable def c92_15 : Code := .seq c92_16 c92_17
theorem e92_15 : evK gS fi92 c92_15 fr st k = evK gS fi92 c92_16 fr st (.seq c92_17 k) := rfl
noncomputable def c92_14 : Code := .block 1 c92_15
theorem e92_14 : evK gS fi92 c92_14 fr st k = evK gS fi92 c92_15 fr st (.blk 1 k) := rfl
noncomputable def c92_24 : Code := codeAt b92 [true, false, true, false, false, true, true, true]
theorem e92_24 : evK gS fi92 c92_24 fr st k = opsK gS fi92 [(some 20), (some 10)] [mk (some 20) (.binOp .add 3 (.tmp 10) (.const (.int .i64 1)) 3) 3 none,
  mk (some 10) (.move (.tmp 20)) 3 none] fr.clear st fr k := evK_reg1 (i := 6) (by kernel_rfl) (by kernel_rfl)
noncomputable def c92_13 : Code := .seq c92_14 c92_24
theorem e92_13 : evK gS fi92 c92_13 fr st k = evK gS fi92 c92_14 fr st (.seq c92_24 k) := rfl
noncomputable def c92_9 : Code := .seq c92_10 c92_13
theorem e92_9 : evK gS fi92 c92_9 fr st k = evK gS fi92 c92_10 fr st (.seq c92_13 k) := rfl
noncomputable def c92_7 : Code := .seq c92_8 c92_9
theorem e92_7 : evK gS fi92 c92_7 fr st k = evK gS fi92 c92_8 fr st (.seq c92_9 k) := rfl
noncomputable def c92_6 : Code := .loop c92_7
noncomputable def c92_5 : Code := .block 0 c92_6
theorem e92_5 : evK gS fi92 c92_5 fr st k = evK gS fi92 c92_6 fr st (.blk 0 k) := rfl
noncomputable def c92_3 : Code := .seq c92_4 c92_5
theorem e92_3 : evK gS fi92 c92_3 fr st k = evK gS fi92 c92_4 fr st (.seq c92_5 k) := rfl
noncomputable def c92_26 : Code := codeAt b92 [true, true, false]
theorem e92_26 : evK gS fi92 c92_26 fr st k = opsK gS fi92 [(some 21), none, (some 5)] [mk (some 21) (.build 24 #[]) 24 none,
  mk none (.store 24 (.tmp 4) (.tmp 21)) 0 none,
  mk (some 5) (.assign (.const (.bool false))) 4 none] fr.clear st fr k := evK_reg1 (i := 7) (by kernel_rfl) (by kernel_rfl)
noncomputable def c92_27 : Code := .ret
theorem e92_27 : evK gS fi92 c92_27 fr st k = nextK gS fi92 k .ret fr st := rfl
noncomputable def c92_25 : Code := .seq c92_26 c92_27
theorem e92_25 : evK gS fi92 c92_25 fr st k = evK gS fi92 c92_26 fr st (.seq c92_27 k) := rfl
noncomputable def c92_2 : Code := .seq c92_3 c92_25
theorem e92_2 : evK gS fi92 c92_2 fr st k = evK gS fi92 c92_3 fr st (.seq c92_25 k) := rfl
noncomputable def c92_0 : Code := .seq c92_1 c92_2
theorem e92_0 : evK gS fi92 c92_0 fr st k = evK gS fi92 c92_1 fr st (.seq c92_2 k) := rfl
theorem m92 : mini fi92.body = c92_0 := by kernel_rfl
theorem n92_6 (fr : Fr) (st : St) (k : Kt) : nextK gS fi92 (.loop c92_7 k) .normal fr st = evK gS fi92 c92_6 fr st k := rfl
set_option maxHeartbeats 4000000 in
theorem L92_6 (l : List Attr) (nm : List UInt8) (h_l : l.length < 4611686018427387904) (st : St) : ∀ (n i : Nat) (j : Int)  (e0 e7 : E) (T : List (Nat × E)) (X : List (Nat × List V)) (ht0 : e0.Tame) (ht7 : e7.Tame) (hx4 : lk X 4 = some [.int .i64 0, .int .i64 0, .float .f64 0, .str [], .bool false]) , j = (i : Int) → i ≤ (l).length → (l).length - i = n →
    evK gS fi92 c92_6 { ps := [(0, e0), (1, .val (.str nm)), (4, .lp 4 0), (5, .val (.bool false)), (7, e7), (8, .val (.slice (encAttrs l))), (9, .val (.int .i64 l.length)), (10, .val (.int .i64 j))], ts := T, lc := X } st (.blk 0 (.seq c92_25 .nil)) = some ((.ret (.tuple [(aget (l.drop i) nm).1.enc, .bool (aget (l.drop i) nm).2]) none), st) := by
  intro n
  have hm : fi92.marks = [] := rfl
  have hl : fi92.locals = [4, 7] := rfl
  have hr : fi92.results = [.cell 4 24, .tmp 5] := rfl
  induction n with
  | zero =>
    intro i j  e0 e7 T X ht0 ht7 hx4  hj hi hn
    obtain rfl : i = (l).length := by omega
    subst hj
    refine evK_loop c92_7 _ st _ _ rfl ?_
    simp (config := { contextual := true, maxSteps := 10000000, maxDischargeDepth := 6 }) [-Int.not_le, -Int.not_lt, -Nat.not_le, -Nat.not_lt, ty3, ty4, ty9, ty24, ty50, ty111, eq24, hm, hl, hr, e92_1, e92_4, e92_8, e92_11, e92_12, e92_10, e92_16, e92_18, e92_21, e92_22, e92_20, e92_23, e92_19, e92_17, e92_15, e92_14, e92_24, e92_13, e92_9, e92_7, e92_5, e92_3, e92_26, e92_27, e92_25, e92_2, e92_0, n92_6, ht0, ht7, hx4, aget, vzero, lk_lset_self _ _ _ _ hx4]
    all_goals first | done | grind | omega | (trace_state; fail)
  | succ n ih =>
    intro i j  e0 e7 T X ht0 ht7 hx4  hj hi hn
    subst hj
    obtain ⟨x, hx⟩ : ∃ x, (l)[i]? = some x := ⟨(l)[i]'(by omega), List.getElem?_eq_getElem (by omega)⟩
    have hd := drop_get hx
    have hlt : (i : Int) < ((l).length : Int) := by omega
    have hlt2 : i < (l).length := by omega
    have hxe : (l)[i]'hlt2 = x := by rw [List.getElem?_eq_getElem hlt2] at hx; exact Option.some.inj hx
    have hw : IntKind.wrap .i64 ((i : Int) + 1) = (i : Int) + 1 := wrap64 (by omega) (by omega)
    have hf4 : ∀ v, lk (lset (X.filter fun x => !(x.1 == 7)) 4 v) 4 = some v := fun v => lk_lset_self _ _ _ _ (by rw [lk_filter _ _ _ rfl]; exact hx4)
    have IH := fun e0 e7 T X ht0 ht7 hx4 => ih (i + 1) ((i : Int) + 1) e0 e7 T X ht0 ht7 hx4 rfl (by omega) (by omega)
    refine evK_loop c92_7 _ st _ _ rfl ?_
    simp (config := { contextual := true, maxSteps := 10000000, maxDischargeDepth := 6 }) [-Int.not_le, -Int.not_lt, -Nat.not_le, -Nat.not_lt, ty3, ty4, ty9, ty24, ty50, ty111, eq24, hm, hl, hr, e92_1, e92_4, e92_8, e92_11, e92_12, e92_10, e92_16, e92_18, e92_21, e92_22, e92_20, e92_23, e92_19, e92_17, e92_15, e92_14, e92_24, e92_13, e92_9, e92_7, e92_5, e92_3, e92_26, e92_27, e92_25, e92_2, e92_0, n92_6, ht0, ht7, hx4, hx, hxe, hd, hlt, hlt2, hw, IH, aget, vzero, hf4, lk_lset_self _ _ _ _ hx4]
    all_goals first | done | grind | omega | (trace_state; fail)
set_option maxHeartbeats 4000000 in
theorem c92 (l : List Attr) (nm : List UInt8)  (h_l : l.length < 4611686018427387904) (st : St) : EvF gS 92 [.slice (encAttrs l), .str nm] st = some (.ret (.tuple [(aget l nm).1.enc, .bool (aget l nm).2]) none, st) := by
  refine EvF_start fi92_eq (fun x h => by cases h) m92 ?_
  rw [st92]
  have hm : fi92.marks = [] := rfl
  have hl : fi92.locals = [4, 7] := rfl
  have hr : fi92.results = [.cell 4 24, .tmp 5] := rfl
  simp (config := { contextual := true, maxSteps := 10000000, maxDischargeDepth := 6 }) [-Int.not_le, -Int.not_lt, -Nat.not_le, -Nat.not_lt, ty3, ty4, ty9, ty24, ty50, ty111, eq24, hm, hl, hr, e92_1, e92_4, e92_8, e92_11, e92_12, e92_10, e92_16, e92_18, e92_21, e92_22, e92_20, e92_23, e92_19, e92_17, e92_15, e92_14, e92_24, e92_13, e92_9, e92_7, e92_5, e92_3, e92_26, e92_27, e92_25, e92_2, e92_0, n92_6, (fun e0 e7 T X ht0 ht7 hx4 => L92_6 l nm h_l st _ 0 0  e0 e7 T X ht0 ht7 hx4 rfl (Nat.zero_le _) rfl), h_l]
  all_goals first | done | grind | omega | (trace_state; fail)
theorem k92 (l : List Attr) (nm : List UInt8)  (h_l : l.length < 4611686018427387904) (fr : Fr) (st : St) : callStep gS (EvF gS) 92 [.slice (encAttrs l), .str nm] fr st = some (.ok (retE none (.tuple [(aget l nm).1.enc, .bool (aget l nm).2])) fr st) :=
  call_pure rfl fi92_eq rfl (fun st => c92 l nm h_l st) (by simp)
noncomputable def fi39 : FI := { body := codeOf Try.f39, ntmps := 31, results := [.tmp 4], pers := [0, 1, 4, 6, 7, 8, 9, 10, 11], locals := [6, 7], pure := true, marks := [] }
theorem fi39_eq : gS.fn 39 = some fi39 := by kernel_rfl
theorem st39 (a0 a1 : V) : startFr fi39 [a0, a1] = { ps := [(0, .val a0), (1, .val a1), (4, .any), (6, .any), (7, .any), (8, .any), (9, .any), (10, .any), (11, .any)], ts := [], lc := [] } := rfl
noncomputable def b39 : Code := mini (codeOf Try.f39)
noncomputable def c39_1 : Code := codeAt b39 [false]
theorem e39_1 : evK gS fi39 c39_1 fr st k = opsK gS fi39 [(some 4)] [mk (some 4) (.assign (.const (.bool false))) 4 none] fr.clear st fr k := evK_reg1 (i := 0) (by kernel_rfl) (by kernel_rfl)
noncomputable def c39_4 : Code := codeAt b39 [true, false, false]
theorem e39_4 : evK gS fi39 c39_4 fr st k = opsK gS fi39 [(some 9), (some 10), (some 11)] [mk (some 9) (.move (.tmp 0)) 49 none,
  mk (some 10) (.call { callee := (.builtin .len), args := #[(.tmp 9)], argTypes := #[49] }) 3 none,
  mk (some 11) (.move (.const (.int .i64 0))) 3 none] fr.clear st fr k := evK_reg1 (i := 1) (by kernel_rfl) (by kernel_rfl)
noncomputable def c39_8 : Code := codeAt b39 [true, false, true, false, false, false]
theorem e39_8 : evK gS fi39 c39_8 fr st k = opsK gS fi39 [(some 12)] [mk (some 12) (.binOp .lss 3 (.tmp 11) (.tmp 10) 3) 0 none] fr.clear st fr k := evK_reg1 (i := 2) (by kernel_rfl) (by kernel_rfl)
noncomputable def c39_11 : Code := .skip
theorem e39_11 : evK gS fi39 c39_11 fr st k = nextK gS fi39 k .normal fr st := rfl
noncomputable def c39_12 : Code := .exit 0
theorem e39_12 : evK gS fi39 c39_12 fr st k = nextK gS fi39 k (.exit 0) fr st := rfl
noncomputable def c39_10 : Code := .cond (.tmp 12) c39_11 c39_12
theorem e39_10 : evK gS fi39 c39_10 fr st k = condK gS fi39 (fr.op (.tmp 12)).bool? c39_11 c39_12 fr st k := rfl
noncomputable def c39_16 : Code := codeAt b39 [true, false, true, false, false, true, true, false, false, false]
theorem e39_16 : evK gS fi39 c39_16 fr st k = opsK gS fi39 [(some 13), (some 14), (some 6), none] [mk (some 13) (.indexAddr 49 (.tmp 9) (.tmp 11)) 0 none,
  mk (some 14) (.load 27 (.tmp 13)) 27 none,
  mk (some 6) (.alloc 27) 0 none,
  mk none (.store 27 (.tmp 6) (.tmp 14)) 0 none] fr.clear st fr k := evK_reg1 (i := 3) (by kernel_rfl) (by kernel_rfl)
noncomputable def c39_18 : Code := codeAt b39 [true, false, true, false, false, true, true, false, false, true, false]
theorem e39_18 : evK gS fi39 c39_18 fr st k = opsK gS fi39 [(some 16), (some 17), (some 18), (some 19), (some 15), (some 20), (some 21), (some 7), none, (some 8)] [mk (some 16) (.move (.tmp 1)) 50 none,
  mk (some 17) (.fieldAddr 27 (.tmp 6) 0) 0 none,
  mk (some 18) (.load 9 (.tmp 17)) 9 none,
  mk (some 19) (.call { callee := (.value (.func 92)), args := #[(.tmp 16), (.tmp 18)], argTypes := #[50, 9] }) 112 none,
  mk (some 15) (.move (.tmp 19)) 112 none,
  mk (some 20) (.extract (.tmp 15) 0) 24 none,
  mk (some 21) (.extract (.tmp 15) 1) 4 none,
  mk (some 7) (.alloc 24) 0 none,
  mk none (.store 24 (.tmp 7) (.tmp 20)) 0 none,
  mk (some 8) (.assign (.tmp 21)) 4 none] fr.clear st fr k := evK_reg1 (i := 4) (by kernel_rfl) (by kernel_rfl)
noncomputable def c39_20 : Code := codeAt b39 [true, false, true, false, false, true, true, false, false, true, true, false]
theorem e39_20 : evK gS fi39 c39_20 fr st k = opsK gS fi39 [(some 22), (some 23), (some 24), (some 25), (some 26), (some 27), (some 28), (some 29)] [mk (some 22) (.move (.tmp 8)) 4 none,
  mk (some 23) (.unOp .not 4 (.tmp 22)) 4 none,
  mk (some 24) (.move (.tmp 23)) 4 none,
  mk (some 25) (.load 27 (.tmp 6)) 27 (some (2, false)),
  mk (some 26) (.load 24 (.tmp 7)) 24 (some (2, false)),
  mk (some 27) (.call { callee := (.value (.func 21)), args := #[(.tmp 25), (.tmp 26)], argTypes := #[27, 24] }) 4 (some (2, false)),
  mk (some 28) (.unOp .not 4 (.tmp 27)) 4 (some (2, false)),
  mk (some 29) (.pick (.tmp 24) (.const (.bool true)) (.tmp 28)) 4 none] fr.clear st fr k := evK_reg1 (i := 5) (by kernel_rfl) (by kernel_rfl)
noncomputable def c39_23 : Code := codeAt b39 [true, false, true, false, false, true, true, false, false, true, true, true, false, false]
theorem e39_23 : evK gS fi39 c39_23 fr st k = opsK gS fi39 [(some 4)] [mk (some 4) (.assign (.const (.bool false))) 4 none] fr.clear st fr k := evK_reg1 (i := 6) (by kernel_rfl) (by kernel_rfl)
noncomputable def c39_24 : Code := .ret
theorem e39_24 : evK gS fi39 c39_24 fr st k = nextK gS fi39 k .ret fr st := rfl
noncomputable def c39_22 : Code := .seq c39_23 c39_24
theorem e39_22 : evK gS fi39 c39_22 fr st k = evK gS fi39 c39_23 fr st (.seq c39_24 k) := rfl
noncomputable def c39_25 : Code := .skip
theorem e39_25 : evK gS fi39 c39_25 fr st k = nextK gS fi39 k .normal fr st := rfl
noncomputable def c39_21 : Code := .cond (.tmp 29) c39_22 c39_25
theorem e39_21 : evK gS fi39 c39_21 fr st k = condK gS fi39 (fr.op (.tmp 29)).bool? c39_22 c39_25 fr st k := rfl
noncomputable def c39_19 : Code := .seq c39_20 c39_21
theorem e39_19 : evK gS fi39 c39_19 fr st k = evK gS fi39 c39_20 fr st (.seq c39_21 k) := rfl
noncomputable def c39_17 : Code := .seq c39_18 c39_19
theorem e39_17 : evK gS fi39 c39_17 fr st k = evK gS fi39 c39_18 fr st (.seq c39_19 k) := rfl
noncomputable def c39_15 : Code := .seq c39_16 c39_17
theorem e39_15 : evK gS fi39 c39_15 fr st k = evK gS fi39 c39_16 fr st (.seq c39_17 k) := rfl
noncomputable def c39_14 : Code := .block 1 c39_15
theorem e39_14 : evK gS fi39 c39_14 fr st k = evK gS fi39 c39_15 fr st (.blk 1 k) := rfl
noncomputable def c39_26 : Code := codeAt b39 [true, false, true, false, false, true, true, true]
theorem e39_26 : evK gS fi39 c39_26 fr st k = opsK gS fi39 [(some 30), (some 11)] [mk (some 30) (.binOp .add 3 (.tmp 11) (.const (.int .i64 1)) 3) 3 none,
  mk (some 11) (.move (.tmp 30)) 3 none] fr.clear st fr k := evK_reg1 (i := 7) (by kernel_rfl) (by kernel_rfl)
noncomputable def c39_13 : Code := .seq c39_14 c39_26
theorem e39_13 : evK gS fi39 c39_13 fr st k = evK gS fi39 c39_14 fr st (.seq c39_26 k) := rfl
noncomputable def c39_9 : Code := .seq c39_10 c39_13
theorem e39_9 : evK gS fi39 c39_9 fr st k = evK gS fi39 c39_10 fr st (.seq c39_13 k) := rfl
noncomputable def c39_7 : Code := .seq c39_8 c39_9
theorem e39_7 : evK gS fi39 c39_7 fr st k = evK gS fi39 c39_8 fr st (.seq c39_9 k) := rfl
noncomputable def c39_6 : Code := .loop c39_7
noncomputable def c39_5 : Code := .block 0 c39_6
theorem e39_5 : evK gS fi39 c39_5 fr st k = evK gS fi39 c39_6 fr st (.blk 0 k) := rfl
noncomputable def c39_3 : Code := .seq c39_4 c39_5
theorem e39_3 : evK gS fi39 c39_3 fr st k = evK gS fi39 c39_4 fr st (.seq c39_5 k) := rfl
noncomputable def c39_28 : Code := codeAt b39 [true, true, false]
theorem e39_28 : evK gS fi39 c39_28 fr st k = opsK gS fi39 [(some 4)] [mk (some 4) (.assign (.const (.bool true))) 4 none] fr.clear st fr k := evK_reg1 (i := 8) (by kernel_rfl) (by kernel_rfl)
noncomputable def c39_29 : Code := .ret
theorem e39_29 : evK gS fi39 c39_29 fr st k = nextK gS fi39 k .ret fr st := rfl
noncomputable def c39_27 : Code := .seq c39_28 c39_29
theorem e39_27 : evK gS fi39 c39_27 fr st k = evK gS fi39 c39_28 fr st (.seq c39_29 k) := rfl
noncomputable def c39_2 : Code := .seq c39_3 c39_27
theorem e39_2 : evK gS fi39 c39_2 fr st k = evK gS fi39 c39_3 fr st (.seq c39_27 k) := rfl
noncomputable def c39_0 : Code := .seq c39_1 c39_2
theorem e39_0 : evK gS fi39 c39_0 fr st k = evK gS fi39 c39_1 fr st (.seq c39_2 k) := rfl
theorem m39 : mini fi39.body = c39_0 := by kernel_rfl
theorem n39_6 (fr : Fr) (st : St) (k : Kt) : nextK gS fi39 (.loop c39_7 k) .normal fr st = evK gS fi39 c39_6 fr st k := rfl
set_option maxHeartbeats 4000000 in
theorem L39_6 (f : List Pred) (l : List Attr) (h_f : POk f) (h_l : l.length < 4611686018427387904) (st : St) : ∀ (n i : Nat) (j : Int)  (e0 e6 e7 e8 : E) (T : List (Nat × E)) (X : List (Nat × List V)) (ht0 : e0.Tame) (ht6 : e6.Tame) (ht7 : e7.Tame) (ht8 : e8.Tame) , j = (i : Int) → i ≤ (f).length → (f).length - i = n →
    evK gS fi39 c39_6 { ps := [(0, e0), (1, .val (.slice (encAttrs l))), (4, .val (.bool false)), (6, e6), (7, e7), (8, e8), (9, .val (.slice (encPreds f))), (10, .val (.int .i64 f.length)), (11, .val (.int .i64 j))], ts := T, lc := X } st (.blk 0 (.seq c39_27 .nil)) = some ((.ret (.bool (ftakes (f.drop i) l)) none), st) := by
  intro n
  have hm : fi39.marks = [] := rfl
  have hl : fi39.locals = [6, 7] := rfl
  have hr : fi39.results = [.tmp 4] := rfl
  have hfl := h_f.1
  induction n with
  | zero =>
    intro i j  e0 e6 e7 e8 T X ht0 ht6 ht7 ht8  hj hi hn
    obtain rfl : i = (f).length := by omega
    subst hj
    refine evK_loop c39_7 _ st _ _ rfl ?_
    simp (config := { contextual := true, maxSteps := 10000000, maxDischargeDepth := 6 }) [-Int.not_le, -Int.not_lt, -Nat.not_le, -Nat.not_lt, ty3, ty4, ty9, ty24, ty27, ty49, ty50, eq24, hm, hl, hr, k21, k92, e39_1, e39_4, e39_8, e39_11, e39_12, e39_10, e39_16, e39_18, e39_20, e39_23, e39_24, e39_22, e39_25, e39_21, e39_19, e39_17, e39_15, e39_14, e39_26, e39_13, e39_9, e39_7, e39_5, e39_3, e39_28, e39_29, e39_27, e39_2, e39_0, n39_6, h_l, ht0, ht6, ht7, ht8]
    all_goals try simp (config := { contextual := true }) [-Int.not_le, -Int.not_lt, -Nat.not_le, -Nat.not_lt, ftakes]
    all_goals first | done | grind | omega | (trace_state; fail)
  | succ n ih =>
    intro i j  e0 e6 e7 e8 T X ht0 ht6 ht7 ht8  hj hi hn
    subst hj
    obtain ⟨x, hx⟩ : ∃ x, (f)[i]? = some x := ⟨(f)[i]'(by omega), List.getElem?_eq_getElem (by omega)⟩
    have hd := drop_get hx
    have hlt : (i : Int) < ((f).length : Int) := by omega
    have hlt2 : i < (f).length := by omega
    have hxe : (f)[i]'hlt2 = x := by rw [List.getElem?_eq_getElem hlt2] at hx; exact Option.some.inj hx
    have hw : IntKind.wrap .i64 ((i : Int) + 1) = (i : Int) + 1 := wrap64 (by omega) (by omega)
    have hpo := h_f.get hx
    have hxo := hpo.1
    have hxs := hpo.2
    have IH := fun e0 e6 e7 e8 T X ht0 ht6 ht7 ht8 => ih (i + 1) ((i : Int) + 1) e0 e6 e7 e8 T X ht0 ht6 ht7 ht8 rfl (by omega) (by omega)
    refine evK_loop c39_7 _ st _ _ rfl ?_
    simp (config := { contextual := true, maxSteps := 10000000, maxDischargeDepth := 6 }) [-Int.not_le, -Int.not_lt, -Nat.not_le, -Nat.not_lt, ty3, ty4, ty9, ty24, ty27, ty49, ty50, eq24, hm, hl, hr, k21, k92, e39_1, e39_4, e39_8, e39_11, e39_12, e39_10, e39_16, e39_18, e39_20, e39_23, e39_24, e39_22, e39_25, e39_21, e39_19, e39_17, e39_15, e39_14, e39_26, e39_13, e39_9, e39_7, e39_5, e39_3, e39_28, e39_29, e39_27, e39_2, e39_0, n39_6, h_l, ht0, ht6, ht7, ht8, hx, hxe, hd, hlt, hlt2, hw, IH, hxo, hxs]
    all_goals try simp (config := { contextual := true }) [-Int.not_le, -Int.not_lt, -Nat.not_le, -Nat.not_lt, ftakes]
    all_goals first | done | grind | omega | (trace_state; fail)
set_option maxHeartbeats 4000000 in
theorem c39 (f : List Pred) (l : List Attr) (h_f : POk f) (h_l : l.length < 4611686018427387904) (st : St) : EvF gS 39 [.slice (encPreds f), .slice (encAttrs l)] st = some (.ret (.bool (ftakes f l)) none, st) := by
  refine EvF_start fi39_eq (fun x h => by cases h) m39 ?_
  rw [st39]
  have hm : fi39.marks = [] := rfl
  have hl : fi39.locals = [6, 7] := rfl
  have hr : fi39.results = [.tmp 4] := rfl
  have hfl := h_f.1
  simp (config := { contextual := true, maxSteps := 10000000, maxDischargeDepth := 6 }) [-Int.not_le, -Int.not_lt, -Nat.not_le, -Nat.not_lt, ty3, ty4, ty9, ty24, ty27, ty49, ty50, eq24, hm, hl, hr, k21, k92, e39_1, e39_4, e39_8, e39_11, e39_12, e39_10, e39_16, e39_18, e39_20, e39_23, e39_24, e39_22, e39_25, e39_21, e39_19, e39_17, e39_15, e39_14, e39_26, e39_13, e39_9, e39_7, e39_5, e39_3, e39_28, e39_29, e39_27, e39_2, e39_0, n39_6, (fun e0 e6 e7 e8 T X ht0 ht6 ht7 ht8 => L39_6 f l h_f h_l st _ 0 0  e0 e6 e7 e8 T X ht0 ht6 ht7 ht8 rfl (Nat.zero_le _) rfl), hfl]
  all_goals try simp (config := { contextual := true }) [-Int.not_le, -Int.not_lt, -Nat.not_le, -Nat.not_lt, ftakes]
  all_goals first | done | grind | omega | (trace_state; fail)
theorem k39 (f : List Pred) (l : List Attr) (h_f : POk f) (h_l : l.length < 4611686018427387904) (fr : Fr) (st : St) : callStep gS (EvF gS) 39 [.slice (encPreds f), .slice (encAttrs l)] fr st = some (.ok (retE none (.bool (ftakes f l))) fr st) :=
  call_pure rfl fi39_eq rfl (fun st => c39 f l h_f h_l st) (by simp)
end Go.Proofs.Ytclpbfkbpcjejaa
namespace Go.Proofs.Ytclpbfkbpcjejaa
open Go Go.Ab
set_option linter.unusedVariables false
set_option linter.unusedSimpArgs false
set_option linter.unnecessarySimpa false
set_option maxRecDepth 20000
variable (fr : Fr) (st : St) (k : Kt)
noncomputable def fi43 : FI := { body := codeOf Try.f43, ntmps := 50, results := [.tmp 4], pers := [0, 1, 4, 6, 8, 9, 11, 12, 13, 14, 21, 22, 23, 27, 28, 29], locals := [6, 8, 11], pure := true, marks := [] }
theorem fi43_eq : gS.fn 43 = some fi43 := by kernel_rfl
theorem st43 (a0 a1 : V) : startFr fi43 [a0, a1] = { ps := [(0, .val a0), (1, .val a1), (4, .any), (6, .any), (8, .any), (9, .any), (11, .any), (12, .any), (13, .any), (14, .any), (21, .any), (22, .any), (23, .any), (27, .any), (28, .any), (29, .any)], ts := [], lc := [] } := rfl
noncomputable def b43 : Code := mini (codeOf Try.f43)
noncomputable def c43_1 : Code := codeAt b43 [false]
theorem e43_1 : evK gS fi43 c43_1 fr st k = opsK gS fi43 [(some 4)] [mk (some 4) (.assign (.const (.bool false))) 4 none] fr.clear st fr k := evK_reg1 (i := 0) (by kernel_rfl) (by kernel_rfl)
noncomputable def c43_4 : Code := codeAt b43 [true, false, false]
theorem e43_4 : evK gS fi43 c43_4 fr st k = opsK gS fi43 [(some 12), (some 13), (some 14)] [mk (some 12) (.move (.tmp 1)) 49 none,
  mk (some 13) (.call { callee := (.builtin .len), args := #[(.tmp 12)], argTypes := #[49] }) 3 none,
  mk (some 14) (.move (.const (.int .i64 0))) 3 none] fr.clear st fr k := evK_reg1 (i := 1) (by kernel_rfl) (by kernel_rfl)
noncomputable def c43_8 : Code := codeAt b43 [true, false, true, false, false, false]
theorem e43_8 : evK gS fi43 c43_8 fr st k = opsK gS fi43 [(some 15)] [mk (some 15) (.binOp .lss 3 (.tmp 14) (.tmp 13) 3) 0 none] fr.clear st fr k := evK_reg1 (i := 2) (by kernel_rfl) (by kernel_rfl)
noncomputable def c43_11 : Code := .skip
theorem e43_11 : evK gS fi43 c43_11 fr st k = nextK gS fi43 k .normal fr st := rfl
noncomputable def c43_12 : Code := .exit 0
theorem e43_12 : evK gS fi43 c43_12 fr st k = nextK gS fi43 k (.exit 0) fr st := rfl
noncomputable def c43_10 : Code := .cond (.tmp 15) c43_11 c43_12
theorem e43_10 : evK gS fi43 c43_10 fr st k = condK gS fi43 (fr.op (.tmp 15)).bool? c43_11 c43_12 fr st k := rfl
noncomputable def c43_16 : Code := codeAt b43 [true, false, true, false, false, true, true, false, false, false]
theorem e43_16 : evK gS fi43 c43_16 fr st k = opsK gS fi43 [(some 16), (some 17), (some 6), none] [mk (some 16) (.indexAddr 49 (.tmp 12) (.tmp 14)) 0 none,
  mk (some 17) (.load 27 (.tmp 16)) 27 none,
  mk (some 6) (.alloc 27) 0 none,
  mk none (.store 27 (.tmp 6) (.tmp 17)) 0 none] fr.clear st fr k := evK_reg1 (i := 3) (by kernel_rfl) (by kernel_rfl)
noncomputable def c43_18 : Code := codeAt b43 [true, false, true, false, false, true, true, false, false, true, false]
theorem e43_18 : evK gS fi43 c43_18 fr st k = opsK gS fi43 [(some 18), (some 19)] [mk (some 18) (.load 27 (.tmp 6)) 27 none,
  mk (some 19) (.call { callee := (.value (.func 23)), args := #[(.tmp 18)], argTypes := #[27] }) 4 none] fr.clear st fr k := evK_reg1 (i := 4) (by kernel_rfl) (by kernel_rfl)
noncomputable def c43_21 : Code := codeAt b43 [true, false, true, false, false, true, true, false, false, true, true, false, false]
theorem e43_21 : evK gS fi43 c43_21 fr st k = opsK gS fi43 [(some 4)] [mk (some 4) (.assign (.const (.bool true))) 4 none] fr.clear st fr k := evK_reg1 (i := 5) (by kernel_rfl) (by kernel_rfl)
noncomputable def c43_22 : Code := .ret
theorem e43_22 : evK gS fi43 c43_22 fr st k = nextK gS fi43 k .ret fr st := rfl
noncomputable def c43_20 : Code := .seq c43_21 c43_22
theorem e43_20 : evK gS fi43 c43_20 fr st k = evK gS fi43 c43_21 fr st (.seq c43_22 k) := rfl
noncomputable def c43_23 : Code := .skip
theorem e43_23 : evK gS fi43 c43_23 fr st k = nextK gS fi43 k .normal fr st := rfl
noncomputable def c43_19 : Code := .cond (.tmp 19) c43_20 c43_23
theorem e43_19 : evK gS fi43 c43_19 fr st k = condK gS fi43 (fr.op (.tmp 19)).bool? c43_20 c43_23 fr st k := rfl
noncomputable def c43_17 : Code := .seq c43_18 c43_19
theorem e43_17 : evK gS fi43 c43_17 fr st k = evK gS fi43 c43_18 fr st (.seq c43_19 k) := rfl
noncomputable def c43_15 : Code := .seq c43_16 c43_17
theorem e43_15 : evK gS fi43 c43_15 fr st k = evK gS fi43 c43_16 fr st (.seq c43_17 k) := rfl
noncomputable def c43_14 : Code := .block 1 c43_15
theorem e43_14 : evK gS fi43 c43_14 fr st k = evK gS fi43 c43_15 fr st (.blk 1 k) := rfl
noncomputable def c43_24 : Code := codeAt b43 [true, false, true, false, false, true, true, true]
theorem e43_24 : evK gS fi43 c43_24 fr st k = opsK gS fi43 [(some 20), (some 14)] [mk (some 20) (.binOp .add 3 (.tmp 14) (.const (.int .i64 1)) 3) 3 none,
  mk (some 14) (.move (.tmp 20)) 3 none] fr.clear st fr k := evK_reg1 (i := 6) (by kernel_rfl) (by kernel_rfl)
noncomputable def c43_13 : Code := .seq c43_14 c43_24
theorem e43_13 : evK gS fi43 c43_13 fr st k = evK gS fi43 c43_14 fr st (.seq c43_24 k) := rfl
noncomputable def c43_9 : Code := .seq c43_10 c43_13
theorem e43_9 : evK gS fi43 c43_9 fr st k = evK gS fi43 c43_10 fr st (.seq c43_13 k) := rfl
noncomputable def c43_7 : Code := .seq c43_8 c43_9
theorem e43_7 : evK gS fi43 c43_7 fr st k = evK gS fi43 c43_8 fr st (.seq c43_9 k) := rfl
noncomputable def c43_6 : Code := .loop c43_7
noncomputable def c43_5 : Code := .block 0 c43_6
theorem e43_5 : evK gS fi43 c43_5 fr st k = evK gS fi43 c43_6 fr st (.blk 0 k) := rfl
noncomputable def c43_3 : Code := .seq c43_4 c43_5
theorem e43_3 : evK gS fi43 c43_3 fr st k = evK gS fi43 c43_4 fr st (.seq c43_5 k) := rfl
noncomputable def c43_27 : Code := codeAt b43 [true, true, false, false]
theorem e43_27 : evK gS fi43 c43_27 fr st k = opsK gS fi43 [(some 21), (some 22), (some 23)] [mk (some 21) (.move (.tmp 0)) 49 none,
  mk (some 22) (.call { callee := (.builtin .len), args := #[(.tmp 21)], argTypes := #[49] }) 3 none,
  mk (some 23) (.move (.const (.int .i64 0))) 3 none] fr.clear st fr k := evK_reg1 (i := 7) (by kernel_rfl) (by kernel_rfl)
noncomputable def c43_31 : Code := codeAt b43 [true, true, false, true, false, false, false]
theorem e43_31 : evK gS fi43 c43_31 fr st k = opsK gS fi43 [(some 24)] [mk (some 24) (.binOp .lss 3 (.tmp 23) (.tmp 22) 3) 0 none] fr.clear st fr k := evK_reg1 (i := 8) (by kernel_rfl) (by kernel_rfl)
noncomputable def c43_34 : Code := .skip
theorem e43_34 : evK gS fi43 c43_34 fr st k = nextK gS fi43 k .normal fr st := rfl
noncomputable def c43_35 : Code := .exit 2
theorem e43_35 : evK gS fi43 c43_35 fr st k = nextK gS fi43 k (.exit 2) fr st := rfl
noncomputable def c43_33 : Code := .cond (.tmp 24) c43_34 c43_35
theorem e43_33 : evK gS fi43 c43_33 fr st k = condK gS fi43 (fr.op (.tmp 24)).bool? c43_34 c43_35 fr st k := rfl
noncomputable def c43_39 : Code := codeAt b43 [true, true, false, true, false, false, true, true, false, false, false]
theorem e43_39 : evK gS fi43 c43_39 fr st k = opsK gS fi43 [(some 25), (some 26), (some 8), none] [mk (some 25) (.indexAddr 49 (.tmp 21) (.tmp 23)) 0 none,
  mk (some 26) (.load 27 (.tmp 25)) 27 none,
  mk (some 8) (.alloc 27) 0 none,
  mk none (.store 27 (.tmp 8) (.tmp 26)) 0 none] fr.clear st fr k := evK_reg1 (i := 9) (by kernel_rfl) (by kernel_rfl)
noncomputable def c43_41 : Code := codeAt b43 [true, true, false, true, false, false, true, true, false, false, true, false]
theorem e43_41 : evK gS fi43 c43_41 fr st k = opsK gS fi43 [(some 9)] [mk (some 9) (.assign (.const (.bool false))) 4 none] fr.clear st fr k := evK_reg1 (i := 10) (by kernel_rfl) (by kernel_rfl)
noncomputable def c43_44 : Code := codeAt b43 [true, true, false, true, false, false, true, true, false, false, true, true, false, false]
theorem e43_44 : evK gS fi43 c43_44 fr st k = opsK gS fi43 [(some 27), (some 28), (some 29)] [mk (some 27) (.move (.tmp 1)) 49 none,
  mk (some 28) (.call { callee := (.builtin .len), args := #[(.tmp 27)], argTypes := #[49] }) 3 none,
  mk (some 29) (.move (.const (.int .i64 0))) 3 none] fr.clear st fr k := evK_reg1 (i := 11) (by kernel_rfl) (by kernel_rfl)
noncomputable def c43_48 : Code := codeAt b43 [true, true, false, true, false, false, true, true, false, false, true, true, false, true, false, false, false]
theorem e43_48 : evK gS fi43 c43_48 fr st k = opsK gS fi43 [(some 30)] [mk (some 30) (.binOp .lss 3 (.tmp 29) (.tmp 28) 3) 0 none] fr.clear st fr k := evK_reg1 (i := 12) (by kernel_rfl) (by kernel_rfl)
noncomputable def c43_51 : Code := .skip
theorem e43_51 : evK gS fi43 c43_51 fr st k = nextK gS fi43 k .normal fr st := rfl
noncomputable def c43_52 : Code := .exit 4
theorem e43_52 : evK gS fi43 c43_52 fr st k = nextK gS fi43 k (.exit 4) fr st := rfl
noncomputable def c43_50 : Code := .cond (.tmp 30) c43_51 c43_52
theorem e43_50 : evK gS fi43 c43_50 fr st k = condK gS fi43 (fr.op (.tmp 30)).bool? c43_51 c43_52 fr st k := rfl
noncomputable def c43_56 : Code := codeAt b43 [true, true, false, true, false, false, true, true, false, false, true, true, false, true, false, false, true, true, false, false, false]
theorem e43_56 : evK gS fi43 c43_56 fr st k = opsK gS fi43 [(some 31), (some 32), (some 11), none] [mk (some 31) (.indexAddr 49 (.tmp 27) (.tmp 29)) 0 none,
  mk (some 32) (.load 27 (.tmp 31)) 27 none,
  mk (some 11) (.alloc 27) 0 none,
  mk none (.store 27 (.tmp 11) (.tmp 32)) 0 none] fr.clear st fr k := evK_reg1 (i := 13) (by kernel_rfl) (by kernel_rfl)
noncomputable def c43_57 : Code := codeAt b43 [true, true, false, true, false, false, true, true, false, false, true, true, false, true, false, false, true, true, false, false, true]
theorem e43_57 : evK gS fi43 c43_57 fr st k = opsK gS fi43 [(some 33), (some 34), (some 35), (some 36), (some 37), (some 38), (some 39), (some 40), (some 41), (some 42), (some 43), (some 44), (some 45), (some 9)] [mk (some 33) (.move (.tmp 9)) 4 none,
  mk (some 34) (.move (.tmp 33)) 4 none,
  mk (some 35) (.fieldAddr 27 (.tmp 11) 0) 0 (some (1, false)),
  mk (some 36) (.load 9 (.tmp 35)) 9 (some (1, false)),
  mk (some 37) (.fieldAddr 27 (.tmp 8) 0) 0 (some (1, false)),
  mk (some 38) (.load 9 (.tmp 37)) 9 (some (1, false)),
  mk (some 39) (.binOp .eql 9 (.tmp 36) (.tmp 38) 9) 4 (some (1, false)),
  mk (some 40) (.move (.tmp 39)) 4 (some (1, false)),
  mk (some 41) (.load 27 (.tmp 11)) 27 (some (7, true)),
  mk (some 42) (.load 27 (.tmp 8)) 27 (some (7, true)),
  mk (some 43) (.call { callee := (.value (.func 27)), args := #[(.tmp 41), (.tmp 42)], argTypes := #[27, 27] }) 4 (some (7, true)),
  mk (some 44) (.pick (.tmp 40) (.tmp 43) (.const (.bool false))) 4 (some (1, false)),
  mk (some 45) (.pick (.tmp 34) (.const (.bool true)) (.tmp 44)) 4 none,
  mk (some 9) (.assign (.tmp 45)) 4 none] fr.clear st fr k := evK_reg1 (i := 14) (by kernel_rfl) (by kernel_rfl)
noncomputable def c43_55 : Code := .seq c43_56 c43_57
theorem e43_55 : evK gS fi43 c43_55 fr st k = evK gS fi43 c43_56 fr st (.seq c43_57 k) := rfl
noncomputable def c43_54 : Code := .block 5 c43_55
theorem e43_54 : evK gS fi43 c43_54 fr st k = evK gS fi43 c43_55 fr st (.blk 5 k) := rfl
noncomputable def c43_58 : Code := codeAt b43 [true, true, false, true, false, false, true, true, false, false, true, true, false, true, false, false, true, true, true]
theorem e43_58 : evK gS fi43 c43_58 fr st k = opsK gS fi43 [(some 46), (some 29)] [mk (some 46) (.binOp .add 3 (.tmp 29) (.const (.int .i64 1)) 3) 3 none,
  mk (some 29) (.move (.tmp 46)) 3 none] fr.clear st fr k := evK_reg1 (i := 15) (by kernel_rfl) (by kernel_rfl)
noncomputable def c43_53 : Code := .seq c43_54 c43_58
theorem e43_53 : evK gS fi43 c43_53 fr st k = evK gS fi43 c43_54 fr st (.seq c43_58 k) := rfl
noncomputable def c43_49 : Code := .seq c43_50 c43_53
theorem e43_49 : evK gS fi43 c43_49 fr st k = evK gS fi43 c43_50 fr st (.seq c43_53 k) := rfl
noncomputable def c43_47 : Code := .seq c43_48 c43_49
theorem e43_47 : evK gS fi43 c43_47 fr st k = evK gS fi43 c43_48 fr st (.seq c43_49 k) := rfl
noncomputable def c43_46 : Code := .loop c43_47
noncomputable def c43_45 : Code := .block 4 c43_46
theorem e43_45 : evK gS fi43 c43_45 fr st k = evK gS fi43 c43_46 fr st (.blk 4 k) := rfl
noncomputable def c43_43 : Code := .seq c43_44 c43_45
theorem e43_43 : evK gS fi43 c43_43 fr st k = evK gS fi43 c43_44 fr st (.seq c43_45 k) := rfl
noncomputable def c43_60 : Code := codeAt b43 [true, true, false, true, false, false, true, true, false, false, true, true, true, false]
theorem e43_60 : evK gS fi43 c43_60 fr st k = opsK gS fi43 [(some 47), (some 48)] [mk (some 47) (.move (.tmp 9)) 4 none,
  mk (some 48) (.unOp .not 4 (.tmp 47)) 4 none] fr.clear st fr k := evK_reg1 (i := 16) (by kernel_rfl) (by kernel_rfl)
noncomputable def c43_63 : Code := codeAt b43 [true, true, false, true, false, false, true, true, false, false, true, true, true, true, false, false]
theorem e43_63 : evK gS fi43 c43_63 fr st k = opsK gS fi43 [(some 4)] [mk (some 4) (.assign (.const (.bool false))) 4 none] fr.clear st fr k := evK_reg1 (i := 17) (by kernel_rfl) (by kernel_rfl)
noncomputable def c43_64 : Code := .ret
theorem e43_64 : evK gS fi43 c43_64 fr st k = nextK gS fi43 k .ret fr st := rfl
noncomputable def c43_62 : Code := .seq c43_63 c43_64
theorem e43_62 : evK gS fi43 c43_62 fr st k = evK gS fi43 c43_63 fr st (.seq c43_64 k) := rfl
noncomputable def c43_65 : Code := .skip
theorem e43_65 : evK gS fi43 c43_65 fr st k = nextK gS fi43 k .normal fr st := rfl
noncomputable def c43_61 : Code := .cond (.tmp 48) c43_62 c43_65
theorem e43_61 : evK gS fi43 c43_61 fr st k = condK gS fi43 (fr.op (.tmp 48)).bool? c43_62 c43_65 fr st k := rfl
noncomputable def c43_59 : Code := .seq c43_60 c43_61
theorem e43_59 : evK gS fi43 c43_59 fr st k = evK gS fi43 c43_60 fr st (.seq c43_61 k) := rfl
noncomputable def c43_42 : Code := .seq c43_43 c43_59
theorem e43_42 : evK gS fi43 c43_42 fr st k = evK gS fi43 c43_43 fr st (.seq c43_59 k) := rfl
noncomputable def c43_40 : Code := .seq c43_41 c43_42
theorem e43_40 : evK gS fi43 c43_40 fr st k = evK gS fi43 c43_41 fr st (.seq c43_42 k) := rfl
noncomputable def c43_38 : Code := .seq c43_39 c43_40
theorem e43_38 : evK gS fi43 c43_38 fr st k = evK gS fi43 c43_39 fr st (.seq c43_40 k) := rfl
noncomputable def c43_37 : Code := .block 3 c43_38
theorem e43_37 : evK gS fi43 c43_37 fr st k = evK gS fi43 c43_38 fr st (.blk 3 k) := rfl
noncomputable def c43_66 : Code := codeAt b43 [true, true, false, true, false, false, true, true, true]
theorem e43_66 : evK gS fi43 c43_66 fr st k = opsK gS fi43 [(some 49), (some 23)] [mk (some 49) (.binOp .add 3 (.tmp 23) (.const (.int .i64 1)) 3) 3 none,
  mk (some 23) (.move (.tmp 49)) 3 none] fr.clear st fr k := evK_reg1 (i := 18) (by kernel_rfl) (by kernel_rfl)
noncomputable def c43_36 : Code := .seq c43_37 c43_66
theorem e43_36 : evK gS fi43 c43_36 fr st k = evK gS fi43 c43_37 fr st (.seq c43_66 k) := rfl
noncomputable def c43_32 : Code := .seq c43_33 c43_36
theorem e43_32 : evK gS fi43 c43_32 fr st k = evK gS fi43 c43_33 fr st (.seq c43_36 k) := rfl
noncomputable def c43_30 : Code := .seq c43_31 c43_32
theorem e43_30 : evK gS fi43 c43_30 fr st k = evK gS fi43 c43_31 fr st (.seq c43_32 k) := rfl
noncomputable def c43_29 : Code := .loop c43_30
noncomputable def c43_28 : Code := .block 2 c43_29
theorem e43_28 : evK gS fi43 c43_28 fr st k = evK gS fi43 c43_29 fr st (.blk 2 k) := rfl
noncomputable def c43_26 : Code := .seq c43_27 c43_28
theorem e43_26 : evK gS fi43 c43_26 fr st k = evK gS fi43 c43_27 fr st (.seq c43_28 k) := rfl
noncomputable def c43_68 : Code := codeAt b43 [true, true, true, false]
theorem e43_68 : evK gS fi43 c43_68 fr st k = opsK gS fi43 [(some 4)] [mk (some 4) (.assign (.const (.bool true))) 4 none] fr.clear st fr k := evK_reg1 (i := 19) (by kernel_rfl) (by kernel_rfl)
noncomputable def c43_69 : Code := .ret
theorem e43_69 : evK gS fi43 c43_69 fr st k = nextK gS fi43 k .ret fr st := rfl
noncomputable def c43_67 : Code := .seq c43_68 c43_69
theorem e43_67 : evK gS fi43 c43_67 fr st k = evK gS fi43 c43_68 fr st (.seq c43_69 k) := rfl
noncomputable def c43_25 : Code := .seq c43_26 c43_67
theorem e43_25 : evK gS fi43 c43_25 fr st k = evK gS fi43 c43_26 fr st (.seq c43_67 k) := rfl
noncomputable def c43_2 : Code := .seq c43_3 c43_25
theorem e43_2 : evK gS fi43 c43_2 fr st k = evK gS fi43 c43_3 fr st (.seq c43_25 k) := rfl
noncomputable def c43_0 : Code := .seq c43_1 c43_2
theorem e43_0 : evK gS fi43 c43_0 fr st k = evK gS fi43 c43_1 fr st (.seq c43_2 k) := rfl
theorem m43 : mini fi43.body = c43_0 := by kernel_rfl
theorem n43_6 (fr : Fr) (st : St) (k : Kt) : nextK gS fi43 (.loop c43_7 k) .normal fr st = evK gS fi43 c43_6 fr st k := rfl
theorem n43_46 (fr : Fr) (st : St) (k : Kt) : nextK gS fi43 (.loop c43_47 k) .normal fr st = evK gS fi43 c43_46 fr st k := rfl
theorem n43_29 (fr : Fr) (st : St) (k : Kt) : nextK gS fi43 (.loop c43_30 k) .normal fr st = evK gS fi43 c43_29 fr st k := rfl
set_option maxHeartbeats 8000000 in
theorem I43 (f g : List Pred) (h_f : POk f) (h_g : POk g) (p : Pred) (h_p : p.ok) (io : Nat) (hio : f[io]? = some p) (st : St) (R : Out × St) (fb : Bool)
    (H : ∀ (e0 e6 e11 e12 e13 e14 : E) (T : List (Nat × E)) (X : List (Nat × List V)) (ht0 : e0.Tame) (ht6 : e6.Tame) (ht11 : e11.Tame) (ht12 : e12.Tame) (ht13 : e13.Tame) (ht14 : e14.Tame) (hx8 : lk X 8 = some [.str p.name, .int .i64 p.test, .int .i64 p.v.kind, .int .i64 p.v.n, .float .f64 p.v.x, .str p.v.s, .bool p.v.b, .int .i64 p.w.kind, .int .i64 p.w.n, .float .f64 p.w.x, .str p.w.s, .bool p.w.b, .slice (encVals p.set)]), evK gS fi43 c43_59 { ps := [(0, e0), (1, .val (.slice (encPreds g))), (4, .val (.bool false)), (6, e6), (8, .lp 8 0), (9, .val (.bool fb)), (11, e11), (12, e12), (13, e13), (14, e14), (21, .val (.slice (encPreds f))), (22, .val (.int .i64 f.length)), (23, .val (.int .i64 (io : Nat))), (27, .val (.slice (encPreds g))), (28, .val (.int .i64 g.length)), (29, .val (.int .i64 (g.length : Nat)))], ts := T, lc := X } st (.blk 3 (.seq c43_66 (.loop c43_30 (.blk 2 (.seq c43_67 .nil))))) = some R) :
    ∀ (n k : Nat) (b : Bool) (e0 e6 e11 e12 e13 e14 : E) (T : List (Nat × E)) (X : List (Nat × List V)) (ht0 : e0.Tame) (ht6 : e6.Tame) (ht11 : e11.Tame) (ht12 : e12.Tame) (ht13 : e13.Tame) (ht14 : e14.Tame) (hx8 : lk X 8 = some [.str p.name, .int .i64 p.test, .int .i64 p.v.kind, .int .i64 p.v.n, .float .f64 p.v.x, .str p.v.s, .bool p.v.b, .int .i64 p.w.kind, .int .i64 p.w.n, .float .f64 p.w.x, .str p.w.s, .bool p.w.b, .slice (encVals p.set)]), k ≤ g.length → g.length - k = n → fb = (b || fcov1 p (g.drop k)) →
    evK gS fi43 c43_46 { ps := [(0, e0), (1, .val (.slice (encPreds g))), (4, .val (.bool false)), (6, e6), (8, .lp 8 0), (9, .val (.bool b)), (11, e11), (12, e12), (13, e13), (14, e14), (21, .val (.slice (encPreds f))), (22, .val (.int .i64 f.length)), (23, .val (.int .i64 (io : Nat))), (27, .val (.slice (encPreds g))), (28, .val (.int .i64 g.length)), (29, .val (.int .i64 (k : Nat)))], ts := T, lc := X } st (.blk 4 (.seq c43_59 (.blk 3 (.seq c43_66 (.loop c43_30 (.blk 2 (.seq c43_67 .nil))))))) = some R := by
  intro n
  have hm : fi43.marks = [] := rfl
  have hl : fi43.locals = [6, 8, 11] := rfl
  have hr : fi43.results = [.tmp 4] := rfl
  have hgl := h_g.1
  have hfl := h_f.1
  have hpo1 := h_p.1
  have hpo2 := h_p.2
  have hil : io < f.length := (List.getElem?_eq_some_iff.1 hio).1
  have hie : f[io]'hil = p := (List.getElem?_eq_some_iff.1 hio).2
  induction n with
  | zero =>
    intro k b e0 e6 e11 e12 e13 e14 T X ht0 ht6 ht11 ht12 ht13 ht14 hx8 hk hn hb
    obtain rfl : k = g.length := by omega
    refine evK_loop c43_47 _ st _ _ rfl ?_
    rw [List.drop_length] at hb
    have hb2 : b = fb := by rw [hb]; simp [fcov1]
    subst hb2
    simp (config := { contextual := true, maxSteps := 10000000, maxDischargeDepth := 6 }) [ht0, ht6, ht11, ht12, ht13, ht14, hx8, -Int.not_le, -Int.not_lt, -Nat.not_le, -Nat.not_lt, ty3, ty4, ty9, ty27, ty49, hm, hl, hr, k23, k27, e43_1, e43_4, e43_8, e43_11, e43_12, e43_10, e43_16, e43_18, e43_21, e43_22, e43_20, e43_23, e43_19, e43_17, e43_15, e43_14, e43_24, e43_13, e43_9, e43_7, e43_5, e43_3, e43_27, e43_31, e43_34, e43_35, e43_33, e43_39, e43_41, e43_44, e43_48, e43_51, e43_52, e43_50, e43_56, e43_57, e43_55, e43_54, e43_58, e43_53, e43_49, e43_47, e43_45, e43_43, e43_60, e43_63, e43_64, e43_62, e43_65, e43_61, e43_42, e43_40, e43_38, e43_37, e43_66, e43_36, e43_32, e43_30, e43_28, e43_26, e43_68, e43_69, e43_67, e43_25, e43_2, e43_0, n43_6, n43_46, n43_29]
    all_goals first | done | (refine H _ _ _ _ _ _ _ _ ?_ <;> simp [ht0, ht6, ht11, ht12, ht13, ht14, hx8,]; done) | skip
    all_goals (refine H _ _ _ _ _ _ _ _ ?_ ?_ ?_ ?_ ?_ ?_ ?_ <;> simp (config := { contextual := true, maxSteps := 10000000, maxDischargeDepth := 6 }) [ht0, ht6, ht11, ht12, ht13, ht14, hx8,])
  | succ n ih =>
    intro k b e0 e6 e11 e12 e13 e14 T X ht0 ht6 ht11 ht12 ht13 ht14 hx8 hk hn hb
    obtain ⟨x, hx⟩ : ∃ x, g[k]? = some x := ⟨g[k]'(by omega), List.getElem?_eq_getElem (by omega)⟩
    have hd := drop_get hx
    have hlt : (k : Int) < (g.length : Int) := by omega
    have hlt2 : k < g.length := by omega
    have hxe : g[k]'hlt2 = x := by rw [List.getElem?_eq_getElem hlt2] at hx; exact Option.some.inj hx
    have hw : IntKind.wrap .i64 ((k : Int) + 1) = ((k + 1 : Nat) : Int) := by rw [wrap64 (by omega) (by omega)]; omega
    have hxo := (h_g.get hx).1
    have hxs := (h_g.get hx).2
    have hcast : ((k + 1 : Nat) : Int) = (k : Int) + 1 := by omega
    rw [hd] at hb
    have hc : fcov1 p (x :: g.drop (k + 1)) = (decide (x.name = p.name) && pimplies x p || fcov1 p (g.drop (k + 1))) := rfl
    rw [hc] at hb
    have IH := fun b' hb' e0 e6 e11 e12 e13 e14 T X ht0 ht6 ht11 ht12 ht13 ht14 hx8 => ih (k + 1) b' e0 e6 e11 e12 e13 e14 T X ht0 ht6 ht11 ht12 ht13 ht14 hx8 (by omega) (by omega) hb'
    refine evK_loop c43_47 _ st _ _ rfl ?_
    cases b with
    | true =>
      have IHc := IH true (by rw [hb]; rfl)
      simp (config := { contextual := true, maxSteps := 10000000, maxDischargeDepth := 6 }) [-Int.natCast_add, hio, hil, hie, hx, hxe, hlt, hlt2, hw, hxo, hxs, hpo1, hpo2, IHc, ht0, ht6, ht11, ht12, ht13, ht14, hx8, -Int.not_le, -Int.not_lt, -Nat.not_le, -Nat.not_lt, ty3, ty4, ty9, ty27, ty49, hm, hl, hr, k23, k27, e43_1, e43_4, e43_8, e43_11, e43_12, e43_10, e43_16, e43_18, e43_21, e43_22, e43_20, e43_23, e43_19, e43_17, e43_15, e43_14, e43_24, e43_13, e43_9, e43_7, e43_5, e43_3, e43_27, e43_31, e43_34, e43_35, e43_33, e43_39, e43_41, e43_44, e43_48, e43_51, e43_52, e43_50, e43_56, e43_57, e43_55, e43_54, e43_58, e43_53, e43_49, e43_47, e43_45, e43_43, e43_60, e43_63, e43_64, e43_62, e43_65, e43_61, e43_42, e43_40, e43_38, e43_37, e43_66, e43_36, e43_32, e43_30, e43_28, e43_26, e43_68, e43_69, e43_67, e43_25, e43_2, e43_0, n43_6, n43_46, n43_29]
    | false =>
      by_cases hne : x.name = p.name
      · generalize hpi : pimplies x p = t at hb
        have IHc := IH t (by rw [hb]; simp [hne])
        have hpi2 : pimplies ⟨p.name, x.test, x.v, x.w, x.set⟩ p = t := by rw [← hne]; exact hpi
        simp (config := { contextual := true, maxSteps := 10000000, maxDischargeDepth := 6 }) [-Int.natCast_add, hio, hil, hie, hx, hxe, hlt, hlt2, hw, hxo, hxs, hpo1, hpo2, IHc, hne, hpi2, ht0, ht6, ht11, ht12, ht13, ht14, hx8, -Int.not_le, -Int.not_lt, -Nat.not_le, -Nat.not_lt, ty3, ty4, ty9, ty27, ty49, hm, hl, hr, k23, k27, e43_1, e43_4, e43_8, e43_11, e43_12, e43_10, e43_16, e43_18, e43_21, e43_22, e43_20, e43_23, e43_19, e43_17, e43_15, e43_14, e43_24, e43_13, e43_9, e43_7, e43_5, e43_3, e43_27, e43_31, e43_34, e43_35, e43_33, e43_39, e43_41, e43_44, e43_48, e43_51, e43_52, e43_50, e43_56, e43_57, e43_55, e43_54, e43_58, e43_53, e43_49, e43_47, e43_45, e43_43, e43_60, e43_63, e43_64, e43_62, e43_65, e43_61, e43_42, e43_40, e43_38, e43_37, e43_66, e43_36, e43_32, e43_30, e43_28, e43_26, e43_68, e43_69, e43_67, e43_25, e43_2, e43_0, n43_6, n43_46, n43_29]
      · have IHc := IH false (by rw [hb]; simp [hne])
        simp (config := { contextual := true, maxSteps := 10000000, maxDischargeDepth := 6 }) [-Int.natCast_add, hio, hil, hie, hx, hxe, hlt, hlt2, hw, hxo, hxs, hpo1, hpo2, IHc, hne, ht0, ht6, ht11, ht12, ht13, ht14, hx8, -Int.not_le, -Int.not_lt, -Nat.not_le, -Nat.not_lt, ty3, ty4, ty9, ty27, ty49, hm, hl, hr, k23, k27, e43_1, e43_4, e43_8, e43_11, e43_12, e43_10, e43_16, e43_18, e43_21, e43_22, e43_20, e43_23, e43_19, e43_17, e43_15, e43_14, e43_24, e43_13, e43_9, e43_7, e43_5, e43_3, e43_27, e43_31, e43_34, e43_35, e43_33, e43_39, e43_41, e43_44, e43_48, e43_51, e43_52, e43_50, e43_56, e43_57, e43_55, e43_54, e43_58, e43_53, e43_49, e43_47, e43_45, e43_43, e43_60, e43_63, e43_64, e43_62, e43_65, e43_61, e43_42, e43_40, e43_38, e43_37, e43_66, e43_36, e43_32, e43_30, e43_28, e43_26, e43_68, e43_69, e43_67, e43_25, e43_2, e43_0, n43_6, n43_46, n43_29]
set_option maxHeartbeats 8000000 in
theorem L43_29 (f g : List Pred) (h_f : POk f) (h_g : POk g) (st : St) : ∀ (n io : Nat) (e0 e6 e8 e9 e11 e12 e13 e14 e27 e28 e29 : E) (T : List (Nat × E)) (X : List (Nat × List V)) (ht0 : e0.Tame) (ht6 : e6.Tame) (ht8 : e8.Tame) (ht9 : e9.Tame) (ht11 : e11.Tame) (ht12 : e12.Tame) (ht13 : e13.Tame) (ht14 : e14.Tame) (ht27 : e27.Tame) (ht28 : e28.Tame) (ht29 : e29.Tame), io ≤ f.length → f.length - io = n →
    evK gS fi43 c43_29 { ps := [(0, e0), (1, .val (.slice (encPreds g))), (4, .val (.bool false)), (6, e6), (8, e8), (9, e9), (11, e11), (12, e12), (13, e13), (14, e14), (21, .val (.slice (encPreds f))), (22, .val (.int .i64 f.length)), (23, .val (.int .i64 (io : Nat))), (27, e27), (28, e28), (29, e29)], ts := T, lc := X } st (.blk 2 (.seq c43_67 .nil)) = some (.ret (.bool ((f.drop io).all fun p => fcov1 p g)) none, st) := by
  intro n
  have hm : fi43.marks = [] := rfl
  have hl : fi43.locals = [6, 8, 11] := rfl
  have hr : fi43.results = [.tmp 4] := rfl
  have hgl := h_g.1
  have hfl := h_f.1
  induction n with
  | zero =>
    intro io e0 e6 e8 e9 e11 e12 e13 e14 e27 e28 e29 T X ht0 ht6 ht8 ht9 ht11 ht12 ht13 ht14 ht27 ht28 ht29 hk hn
    obtain rfl : io = f.length := by omega
    refine evK_loop c43_30 _ st _ _ rfl ?_
    simp (config := { contextual := true, maxSteps := 10000000, maxDischargeDepth := 6 }) [ht0, ht6, ht8, ht9, ht11, ht12, ht13, ht14, ht27, ht28, ht29, -Int.not_le, -Int.not_lt, -Nat.not_le, -Nat.not_lt, ty3, ty4, ty9, ty27, ty49, hm, hl, hr, k23, k27, e43_1, e43_4, e43_8, e43_11, e43_12, e43_10, e43_16, e43_18, e43_21, e43_22, e43_20, e43_23, e43_19, e43_17, e43_15, e43_14, e43_24, e43_13, e43_9, e43_7, e43_5, e43_3, e43_27, e43_31, e43_34, e43_35, e43_33, e43_39, e43_41, e43_44, e43_48, e43_51, e43_52, e43_50, e43_56, e43_57, e43_55, e43_54, e43_58, e43_53, e43_49, e43_47, e43_45, e43_43, e43_60, e43_63, e43_64, e43_62, e43_65, e43_61, e43_59, e43_42, e43_40, e43_38, e43_37, e43_66, e43_36, e43_32, e43_30, e43_28, e43_26, e43_68, e43_69, e43_67, e43_25, e43_2, e43_0, n43_6, n43_46, n43_29]
  | succ n ih =>
    intro io e0 e6 e8 e9 e11 e12 e13 e14 e27 e28 e29 T X ht0 ht6 ht8 ht9 ht11 ht12 ht13 ht14 ht27 ht28 ht29 hk hn
    obtain ⟨x, hx⟩ : ∃ x, f[io]? = some x := ⟨f[io]'(by omega), List.getElem?_eq_getElem (by omega)⟩
    have hd := drop_get hx
    have hlt : (io : Int) < (f.length : Int) := by omega
    have hlt2 : io < f.length := by omega
    have hxe : f[io]'hlt2 = x := by rw [List.getElem?_eq_getElem hlt2] at hx; exact Option.some.inj hx
    have hw : IntKind.wrap .i64 ((io : Int) + 1) = ((io + 1 : Nat) : Int) := by rw [wrap64 (by omega) (by omega)]; omega
    have hxo := (h_f.get hx).1
    have hxs := (h_f.get hx).2
    have IH := fun e0 e6 e8 e9 e11 e12 e13 e14 e27 e28 e29 T X ht0 ht6 ht8 ht9 ht11 ht12 ht13 ht14 ht27 ht28 ht29 => ih (io + 1) e0 e6 e8 e9 e11 e12 e13 e14 e27 e28 e29 T X ht0 ht6 ht8 ht9 ht11 ht12 ht13 ht14 ht27 ht28 ht29 (by omega) (by omega)
    refine evK_loop c43_30 _ st _ _ rfl ?_
    have II := fun H e0 e6 e11 e12 e13 e14 T X ht0 ht6 ht11 ht12 ht13 ht14 hx8 => I43 f g h_f h_g x (h_f.get hx) io hx st (.ret (.bool ((f.drop io).all fun p => fcov1 p g)) none, st) (fcov1 x g) H g.length 0 false e0 e6 e11 e12 e13 e14 T X ht0 ht6 ht11 ht12 ht13 ht14 hx8 (Nat.zero_le _) (by omega) rfl
    simp (config := { contextual := true, maxSteps := 10000000, maxDischargeDepth := 6 }) [-Int.natCast_add, hx, hxe, hlt, hlt2, hxo, hxs, ht0, ht6, ht8, ht9, ht11, ht12, ht13, ht14, ht27, ht28, ht29, -Int.not_le, -Int.not_lt, -Nat.not_le, -Nat.not_lt, ty3, ty4, ty9, ty27, ty49, hm, hl, hr, k23, k27, e43_1, e43_4, e43_8, e43_11, e43_12, e43_10, e43_16, e43_18, e43_21, e43_22, e43_20, e43_23, e43_19, e43_17, e43_15, e43_14, e43_24, e43_13, e43_9, e43_7, e43_5, e43_3, e43_27, e43_31, e43_34, e43_35, e43_33, e43_39, e43_41, e43_44, e43_48, e43_51, e43_52, e43_50, e43_56, e43_57, e43_55, e43_54, e43_58, e43_53, e43_49, e43_47, e43_45, e43_43, e43_60, e43_63, e43_64, e43_62, e43_65, e43_61, e43_59, e43_42, e43_40, e43_38, e43_37, e43_66, e43_36, e43_32, e43_30, e43_28, e43_26, e43_68, e43_69, e43_67, e43_25, e43_2, e43_0, n43_6, n43_46, n43_29]
    refine II ?_ _ _ _ _ _ _ _ _ ?_ ?_ ?_ ?_ ?_ ?_ ?_
    · intro e0 e6 e11 e12 e13 e14 T X ht0 ht6 ht11 ht12 ht13 ht14 hx8
      rw [hd, List.all_cons]
      cases hb : fcov1 x g with
      | true => simp (config := { contextual := true, maxSteps := 10000000, maxDischargeDepth := 6 }) [-Int.natCast_add, IH, hw, hb, ht0, ht6, ht11, ht12, ht13, ht14, hx8, -Int.not_le, -Int.not_lt, -Nat.not_le, -Nat.not_lt, ty3, ty4, ty9, ty27, ty49, hm, hl, hr, k23, k27, e43_1, e43_4, e43_8, e43_11, e43_12, e43_10, e43_16, e43_18, e43_21, e43_22, e43_20, e43_23, e43_19, e43_17, e43_15, e43_14, e43_24, e43_13, e43_9, e43_7, e43_5, e43_3, e43_27, e43_31, e43_34, e43_35, e43_33, e43_39, e43_41, e43_44, e43_48, e43_51, e43_52, e43_50, e43_56, e43_57, e43_55, e43_54, e43_58, e43_53, e43_49, e43_47, e43_45, e43_43, e43_60, e43_63, e43_64, e43_62, e43_65, e43_61, e43_59, e43_42, e43_40, e43_38, e43_37, e43_66, e43_36, e43_32, e43_30, e43_28, e43_26, e43_68, e43_69, e43_67, e43_25, e43_2, e43_0, n43_6, n43_46, n43_29]
      | false => simp (config := { contextual := true, maxSteps := 10000000, maxDischargeDepth := 6 }) [-Int.natCast_add, IH, hw, hb, ht0, ht6, ht11, ht12, ht13, ht14, hx8, -Int.not_le, -Int.not_lt, -Nat.not_le, -Nat.not_lt, ty3, ty4, ty9, ty27, ty49, hm, hl, hr, k23, k27, e43_1, e43_4, e43_8, e43_11, e43_12, e43_10, e43_16, e43_18, e43_21, e43_22, e43_20, e43_23, e43_19, e43_17, e43_15, e43_14, e43_24, e43_13, e43_9, e43_7, e43_5, e43_3, e43_27, e43_31, e43_34, e43_35, e43_33, e43_39, e43_41, e43_44, e43_48, e43_51, e43_52, e43_50, e43_56, e43_57, e43_55, e43_54, e43_58, e43_53, e43_49, e43_47, e43_45, e43_43, e43_60, e43_63, e43_64, e43_62, e43_65, e43_61, e43_59, e43_42, e43_40, e43_38, e43_37, e43_66, e43_36, e43_32, e43_30, e43_28, e43_26, e43_68, e43_69, e43_67, e43_25, e43_2, e43_0, n43_6, n43_46, n43_29]
    all_goals simp (config := { contextual := true, maxSteps := 10000000, maxDischargeDepth := 6 }) [ht0, ht6, ht8, ht9, ht11, ht12, ht13, ht14, ht27, ht28, ht29,]
set_option maxHeartbeats 4000000 in
theorem T43_25 (f : List Pred) (g : List Pred) (h_f : POk f) (h_g : POk g) (st : St) (e6 e8 e9 e11 e12 e13 e14 e21 e22 e23 e27 e28 e29 : E) (T : List (Nat × E)) (X : List (Nat × List V)) (ht6 : e6.Tame) (ht8 : e8.Tame) (ht9 : e9.Tame) (ht11 : e11.Tame) (ht12 : e12.Tame) (ht13 : e13.Tame) (ht14 : e14.Tame) (ht21 : e21.Tame) (ht22 : e22.Tame) (ht23 : e23.Tame) (ht27 : e27.Tame) (ht28 : e28.Tame) (ht29 : e29.Tame)  :
    evK gS fi43 c43_25 { ps := [(0, .val (.slice (encPreds f))), (1, .val (.slice (encPreds g))), (4, .val (.bool false)), (6, e6), (8, e8), (9, e9), (11, e11), (12, e12), (13, e13), (14, e14), (21, e21), (22, e22), (23, e23), (27, e27), (28, e28), (29, e29)], ts := T, lc := X } st .nil = some (.ret (.bool (f.all fun p => fcov1 p g)) none, st) := by
  have hm : fi43.marks = [] := rfl
  have hl : fi43.locals = [6, 8, 11] := rfl
  have hr : fi43.results = [.tmp 4] := rfl
  have L0 := fun e0 e6 e8 e9 e11 e12 e13 e14 e27 e28 e29 T X ht0 ht6 ht8 ht9 ht11 ht12 ht13 ht14 ht27 ht28 ht29 => L43_29 f g h_f h_g st f.length 0 e0 e6 e8 e9 e11 e12 e13 e14 e27 e28 e29 T X ht0 ht6 ht8 ht9 ht11 ht12 ht13 ht14 ht27 ht28 ht29 (Nat.zero_le _) rfl
  simp only [show ((0 : Nat) : Int) = 0 from rfl, List.drop_zero] at L0
  have hfl := h_f.1
  have hgl := h_g.1
  simp (config := { contextual := true, maxSteps := 10000000, maxDischargeDepth := 6 }) [-Int.not_le, -Int.not_lt, -Nat.not_le, -Nat.not_lt, ty3, ty4, ty9, ty27, ty49, hm, hl, hr, k23, k27, e43_1, e43_4, e43_8, e43_11, e43_12, e43_10, e43_16, e43_18, e43_21, e43_22, e43_20, e43_23, e43_19, e43_17, e43_15, e43_14, e43_24, e43_13, e43_9, e43_7, e43_5, e43_3, e43_27, e43_31, e43_34, e43_35, e43_33, e43_39, e43_41, e43_44, e43_48, e43_51, e43_52, e43_50, e43_56, e43_57, e43_55, e43_54, e43_58, e43_53, e43_49, e43_47, e43_45, e43_43, e43_60, e43_63, e43_64, e43_62, e43_65, e43_61, e43_59, e43_42, e43_40, e43_38, e43_37, e43_66, e43_36, e43_32, e43_30, e43_28, e43_26, e43_68, e43_69, e43_67, e43_25, e43_2, e43_0, n43_6, n43_46, n43_29, L0, ht6, ht8, ht9, ht11, ht12, ht13, ht14, ht21, ht22, ht23, ht27, ht28, ht29]
  all_goals first | done | grind | omega | (trace_state; fail)
set_option maxHeartbeats 4000000 in
theorem L43_6 (f : List Pred) (g : List Pred) (h_f : POk f) (h_g : POk g) (st : St) : ∀ (n i : Nat) (j : Int)  (e6 e8 e9 e11 e21 e22 e23 e27 e28 e29 : E) (T : List (Nat × E)) (X : List (Nat × List V)) (ht6 : e6.Tame) (ht8 : e8.Tame) (ht9 : e9.Tame) (ht11 : e11.Tame) (ht21 : e21.Tame) (ht22 : e22.Tame) (ht23 : e23.Tame) (ht27 : e27.Tame) (ht28 : e28.Tame) (ht29 : e29.Tame) , j = (i : Int) → i ≤ (g).length → (g).length - i = n →
    evK gS fi43 c43_6 { ps := [(0, .val (.slice (encPreds f))), (1, .val (.slice (encPreds g))), (4, .val (.bool false)), (6, e6), (8, e8), (9, e9), (11, e11), (12, .val (.slice (encPreds g))), (13, .val (.int .i64 g.length)), (14, .val (.int .i64 j)), (21, e21), (22, e22), (23, e23), (27, e27), (28, e28), (29, e29)], ts := T, lc := X } st (.blk 0 (.seq c43_25 .nil)) = some ((.ret (.bool ((g.drop i).any pvoid || f.all fun p => fcov1 p g)) none), st) := by
  intro n
  have hm : fi43.marks = [] := rfl
  have hl : fi43.locals = [6, 8, 11] := rfl
  have hr : fi43.results = [.tmp 4] := rfl
  have hgl := h_g.1
  have hTT := (fun e6 e8 e9 e11 e12 e13 e14 e21 e22 e23 e27 e28 e29 T X ht6 ht8 ht9 ht11 ht12 ht13 ht14 ht21 ht22 ht23 ht27 ht28 ht29 => T43_25 f g h_f h_g st e6 e8 e9 e11 e12 e13 e14 e21 e22 e23 e27 e28 e29 T X ht6 ht8 ht9 ht11 ht12 ht13 ht14 ht21 ht22 ht23 ht27 ht28 ht29)
  induction n with
  | zero =>
    intro i j  e6 e8 e9 e11 e21 e22 e23 e27 e28 e29 T X ht6 ht8 ht9 ht11 ht21 ht22 ht23 ht27 ht28 ht29  hj hi hn
    obtain rfl : i = (g).length := by omega
    subst hj
    refine evK_loop c43_7 _ st _ _ rfl ?_
    simp (config := { contextual := true, maxSteps := 10000000, maxDischargeDepth := 6 }) [-Int.not_le, -Int.not_lt, -Nat.not_le, -Nat.not_lt, ty3, ty4, ty9, ty27, ty49, hm, hl, hr, k23, k27, e43_1, e43_4, e43_8, e43_11, e43_12, e43_10, e43_16, e43_18, e43_21, e43_22, e43_20, e43_23, e43_19, e43_17, e43_15, e43_14, e43_24, e43_13, e43_9, e43_7, e43_5, e43_3, e43_27, e43_31, e43_34, e43_35, e43_33, e43_39, e43_41, e43_44, e43_48, e43_51, e43_52, e43_50, e43_56, e43_57, e43_55, e43_54, e43_58, e43_53, e43_49, e43_47, e43_45, e43_43, e43_60, e43_63, e43_64, e43_62, e43_65, e43_61, e43_59, e43_42, e43_40, e43_38, e43_37, e43_66, e43_36, e43_32, e43_30, e43_28, e43_26, e43_68, e43_69, e43_67, e43_2, e43_0, n43_6, n43_46, n43_29, hTT, ht6, ht8, ht9, ht11, ht21, ht22, ht23, ht27, ht28, ht29]
    all_goals first | done | grind | omega | (trace_state; fail)
  | succ n ih =>
    intro i j  e6 e8 e9 e11 e21 e22 e23 e27 e28 e29 T X ht6 ht8 ht9 ht11 ht21 ht22 ht23 ht27 ht28 ht29  hj hi hn
    subst hj
    obtain ⟨x, hx⟩ : ∃ x, (g)[i]? = some x := ⟨(g)[i]'(by omega), List.getElem?_eq_getElem (by omega)⟩
    have hd := drop_get hx
    have hlt : (i : Int) < ((g).length : Int) := by omega
    have hlt2 : i < (g).length := by omega
    have hxe : (g)[i]'hlt2 = x := by rw [List.getElem?_eq_getElem hlt2] at hx; exact Option.some.inj hx
    have hw : IntKind.wrap .i64 ((i : Int) + 1) = (i : Int) + 1 := wrap64 (by omega) (by omega)
    have hpo := h_g.get hx
    have hxo := hpo.1
    have hxs := hpo.2
    have IH := fun e6 e8 e9 e11 e21 e22 e23 e27 e28 e29 T X ht6 ht8 ht9 ht11 ht21 ht22 ht23 ht27 ht28 ht29 => ih (i + 1) ((i : Int) + 1) e6 e8 e9 e11 e21 e22 e23 e27 e28 e29 T X ht6 ht8 ht9 ht11 ht21 ht22 ht23 ht27 ht28 ht29 rfl (by omega) (by omega)
    refine evK_loop c43_7 _ st _ _ rfl ?_
    simp (config := { contextual := true, maxSteps := 10000000, maxDischargeDepth := 6 }) [-Int.not_le, -Int.not_lt, -Nat.not_le, -Nat.not_lt, ty3, ty4, ty9, ty27, ty49, hm, hl, hr, k23, k27, e43_1, e43_4, e43_8, e43_11, e43_12, e43_10, e43_16, e43_18, e43_21, e43_22, e43_20, e43_23, e43_19, e43_17, e43_15, e43_14, e43_24, e43_13, e43_9, e43_7, e43_5, e43_3, e43_27, e43_31, e43_34, e43_35, e43_33, e43_39, e43_41, e43_44, e43_48, e43_51, e43_52, e43_50, e43_56, e43_57, e43_55, e43_54, e43_58, e43_53, e43_49, e43_47, e43_45, e43_43, e43_60, e43_63, e43_64, e43_62, e43_65, e43_61, e43_59, e43_42, e43_40, e43_38, e43_37, e43_66, e43_36, e43_32, e43_30, e43_28, e43_26, e43_68, e43_69, e43_67, e43_2, e43_0, n43_6, n43_46, n43_29, hTT, ht6, ht8, ht9, ht11, ht21, ht22, ht23, ht27, ht28, ht29, hx, hxe, hd, hlt, hlt2, hw, IH, hxo, hxs]
    all_goals first | done | grind | omega | (trace_state; fail)
set_option maxHeartbeats 4000000 in
theorem c43 (f : List Pred) (g : List Pred) (h_f : POk f) (h_g : POk g) (st : St) : EvF gS 43 [.slice (encPreds f), .slice (encPreds g)] st = some (.ret (.bool (fcovers f g)) none, st) := by
  refine EvF_start fi43_eq (fun x h => by cases h) m43 ?_
  rw [st43]
  have hm : fi43.marks = [] := rfl
  have hl : fi43.locals = [6, 8, 11] := rfl
  have hr : fi43.results = [.tmp 4] := rfl
  have hgl := h_g.1
  simp (config := { contextual := true, maxSteps := 10000000, maxDischargeDepth := 6 }) [-Int.not_le, -Int.not_lt, -Nat.not_le, -Nat.not_lt, ty3, ty4, ty9, ty27, ty49, hm, hl, hr, k23, k27, e43_1, e43_4, e43_8, e43_11, e43_12, e43_10, e43_16, e43_18, e43_21, e43_22, e43_20, e43_23, e43_19, e43_17, e43_15, e43_14, e43_24, e43_13, e43_9, e43_7, e43_5, e43_3, e43_27, e43_31, e43_34, e43_35, e43_33, e43_39, e43_41, e43_44, e43_48, e43_51, e43_52, e43_50, e43_56, e43_57, e43_55, e43_54, e43_58, e43_53, e43_49, e43_47, e43_45, e43_43, e43_60, e43_63, e43_64, e43_62, e43_65, e43_61, e43_59, e43_42, e43_40, e43_38, e43_37, e43_66, e43_36, e43_32, e43_30, e43_28, e43_26, e43_68, e43_69, e43_67, e43_2, e43_0, n43_6, n43_46, n43_29, (fun e6 e8 e9 e11 e21 e22 e23 e27 e28 e29 T X ht6 ht8 ht9 ht11 ht21 ht22 ht23 ht27 ht28 ht29 => L43_6 f g h_f h_g st _ 0 0  e6 e8 e9 e11 e21 e22 e23 e27 e28 e29 T X ht6 ht8 ht9 ht11 ht21 ht22 ht23 ht27 ht28 ht29 rfl (Nat.zero_le _) rfl), hgl]
  all_goals try simp (config := { contextual := true }) [-Int.not_le, -Int.not_lt, -Nat.not_le, -Nat.not_lt, fcovers]
  all_goals first | done | grind | omega | (trace_state; fail)
theorem k43 (f : List Pred) (g : List Pred) (h_f : POk f) (h_g : POk g) (fr : Fr) (st : St) : callStep gS (EvF gS) 43 [.slice (encPreds f), .slice (encPreds g)] fr st = some (.ok (retE none (.bool (fcovers f g))) fr st) :=
  call_pure rfl fi43_eq rfl (fun st => c43 f g h_f h_g st) (by simp)
end Go.Proofs.Ytclpbfkbpcjejaa
namespace Go.Proofs.Ytclpbfkbpcjejaa
open Go Go.Ab
set_option linter.unusedVariables false
set_option linter.unusedSimpArgs false
set_option linter.unnecessarySimpa false
set_option maxRecDepth 20000
variable (fr : Fr) (st : St) (k : Kt)
noncomputable def fi37 : FI := { body := codeOf Try.f37, ntmps := 34, results := [.tmp 2], pers := [0, 2, 3, 4, 8, 9, 10], locals := [4], pure := true, marks := [] }
theorem fi37_eq : gS.fn 37 = some fi37 := by kernel_rfl
theorem st37 (a0 : V) : startFr fi37 [a0] = { ps := [(0, .val a0), (2, .any), (3, .any), (4, .any), (8, .any), (9, .any), (10, .any)], ts := [], lc := [] } := rfl
noncomputable def b37 : Code := mini (codeOf Try.f37)
noncomputable def c37_1 : Code := codeAt b37 [false]
theorem e37_1 : evK gS fi37 c37_1 fr st k = opsK gS fi37 [(some 2)] [mk (some 2) (.assign (.const (.bool false))) 4 none] fr.clear st fr k := evK_reg1 (i := 0) (by kernel_rfl) (by kernel_rfl)
noncomputable def c37_4 : Code := codeAt b37 [true, false, false]
theorem e37_4 : evK gS fi37 c37_4 fr st k = opsK gS fi37 [(some 5), (some 6), (some 7)] [mk (some 5) (.move (.tmp 0)) 49 none,
  mk (some 6) (.call { callee := (.builtin .len), args := #[(.tmp 5)], argTypes := #[49] }) 3 none,
  mk (some 7) (.binOp .gtr 3 (.tmp 6) (.const (.int .i64 3)) 3) 4 none] fr.clear st fr k := evK_reg1 (i := 1) (by kernel_rfl) (by kernel_rfl)
noncomputable def c37_7 : Code := codeAt b37 [true, false, true, false, false]
theorem e37_7 : evK gS fi37 c37_7 fr st k = opsK gS fi37 [(some 2)] [mk (some 2) (.assign (.const (.bool false))) 4 none] fr.clear st fr k := evK_reg1 (i := 2) (by kernel_rfl) (by kernel_rfl)
noncomputable def c37_8 : Code := .ret
theorem e37_8 : evK gS fi37 c37_8 fr st k = nextK gS fi37 k .ret fr st := rfl
noncomputable def c37_6 : Code := .seq c37_7 c37_8
theorem e37_6 : evK gS fi37 c37_6 fr st k = evK gS fi37 c37_7 fr st (.seq c37_8 k) := rfl
noncomputable def c37_9 : Code := .skip
theorem e37_9 : evK gS fi37 c37_9 fr st k = nextK gS fi37 k .normal fr st := rfl
noncomputable def c37_5 : Code := .cond (.tmp 7) c37_6 c37_9
theorem e37_5 : evK gS fi37 c37_5 fr st k = condK gS fi37 (fr.op (.tmp 7)).bool? c37_6 c37_9 fr st k := rfl
noncomputable def c37_3 : Code := .seq c37_4 c37_5
theorem e37_3 : evK gS fi37 c37_3 fr st k = evK gS fi37 c37_4 fr st (.seq c37_5 k) := rfl
noncomputable def c37_12 : Code := codeAt b37 [true, true, false, false]
theorem e37_12 : evK gS fi37 c37_12 fr st k = opsK gS fi37 [(some 8), (some 9), (some 10)] [mk (some 8) (.move (.tmp 0)) 49 none,
  mk (some 9) (.call { callee := (.builtin .len), args := #[(.tmp 8)], argTypes := #[49] }) 3 none,
  mk (some 10) (.move (.const (.int .i64 0))) 3 none] fr.clear st fr k := evK_reg1 (i := 3) (by kernel_rfl) (by kernel_rfl)
noncomputable def c37_16 : Code := codeAt b37 [true, true, false, true, false, false, false]
theorem e37_16 : evK gS fi37 c37_16 fr st k = opsK gS fi37 [(some 11)] [mk (some 11) (.binOp .lss 3 (.tmp 10) (.tmp 9) 3) 0 none] fr.clear st fr k := evK_reg1 (i := 4) (by kernel_rfl) (by kernel_rfl)
noncomputable def c37_19 : Code := .skip
theorem e37_19 : evK gS fi37 c37_19 fr st k = nextK gS fi37 k .normal fr st := rfl
noncomputable def c37_20 : Code := .exit 0
theorem e37_20 : evK gS fi37 c37_20 fr st k = nextK gS fi37 k (.exit 0) fr st := rfl
noncomputable def c37_18 : Code := .cond (.tmp 11) c37_19 c37_20
theorem e37_18 : evK gS fi37 c37_18 fr st k = condK gS fi37 (fr.op (.tmp 11)).bool? c37_19 c37_20 fr st k := rfl
noncomputable def c37_24 : Code := codeAt b37 [true, true, false, true, false, false, true, true, false, false, false]
theorem e37_24 : evK gS fi37 c37_24 fr st k = opsK gS fi37 [(some 12), (some 13), (some 14), (some 4), (some 3), none] [mk (some 12) (.move (.tmp 10)) 3 none,
  mk (some 13) (.indexAddr 49 (.tmp 8) (.tmp 10)) 0 none,
  mk (some 14) (.load 27 (.tmp 13)) 27 none,
  mk (some 4) (.alloc 27) 0 none,
  mk (some 3) (.assign (.tmp 12)) 3 none,
  mk none (.store 27 (.tmp 4) (.tmp 14)) 0 none] fr.clear st fr k := evK_reg1 (i := 5) (by kernel_rfl) (by kernel_rfl)
noncomputable def r37_26 : Array Oper := regOps (codeAt (codeOf Try.f37) [true, true, false, true, false, false, true, true, false, false, true, false])
noncomputable def c37_26 : Code := .region 6 r37_26 true
noncomputable def q37_26 : List (Oper × Fl) := [(mk (some 15) (.load 27 (.tmp 4)) 27 none, ⟨true, true, true, false, true, false, true, true, false, false, []⟩),
  (mk (some 16) (.call { callee := (.value (.func 19)), args := #[(.tmp 15)], argTypes := #[27] }) 4 none, ⟨true, true, true, false, true, true, true, true, false, false, []⟩),
  (mk (some 17) (.unOp .not 4 (.tmp 16)) 4 none, ⟨true, true, true, false, true, false, true, true, false, false, []⟩),
  (mk (some 18) (.move (.tmp 17)) 4 none, ⟨true, true, true, false, true, false, true, true, false, false, []⟩),
  (mk (some 19) (.move (.tmp 3)) 3 (some (3, false)), ⟨true, true, true, false, true, false, true, true, false, false, []⟩),
  (mk (some 20) (.binOp .gtr 3 (.tmp 19) (.const (.int .i64 0)) 3) 4 (some (3, false)), ⟨true, true, true, false, true, false, true, true, false, false, []⟩),
  (mk (some 21) (.move (.tmp 20)) 4 (some (3, false)), ⟨true, true, true, false, true, false, true, true, false, false, []⟩),
  (mk (some 22) (.move (.tmp 0)) 49 (some (6, true)), ⟨true, false, true, false, false, false, true, true, false, false, []⟩),
  (mk (some 23) (.move (.tmp 3)) 3 (some (6, true)), ⟨true, false, true, false, false, false, true, true, false, false, []⟩),
  (mk (some 24) (.binOp .sub 3 (.tmp 23) (.const (.int .i64 1)) 3) 3 (some (6, true)), ⟨true, false, true, false, false, false, true, true, false, false, []⟩),
  (mk (some 25) (.indexAddr 49 (.tmp 22) (.tmp 24)) 0 (some (6, true)), ⟨true, false, true, false, false, false, true, true, false, false, []⟩),
  (mk (some 26) (.fieldAddr 27 (.tmp 25) 0) 0 (some (6, true)), ⟨true, false, true, false, false, false, true, true, false, false, []⟩),
  (mk (some 27) (.load 9 (.tmp 26)) 9 (some (6, true)), ⟨true, false, true, false, false, false, true, true, false, false, []⟩),
  (mk (some 28) (.fieldAddr 27 (.tmp 4) 0) 0 (some (6, true)), ⟨true, false, true, false, true, false, true, true, false, false, []⟩),
  (mk (some 29) (.load 9 (.tmp 28)) 9 (some (6, true)), ⟨true, false, true, false, true, false, true, true, false, false, []⟩),
  (mk (some 30) (.binOp .gtr 9 (.tmp 27) (.tmp 29) 9) 4 (some (6, true)), ⟨true, false, true, false, true, false, true, true, false, false, []⟩),
  (mk (some 31) (.pick (.tmp 21) (.tmp 30) (.const (.bool false))) 4 (some (3, false)), ⟨true, false, true, false, true, false, true, true, false, false, []⟩),
  (mk (some 32) (.pick (.tmp 18) (.const (.bool true)) (.tmp 31)) 4 none, ⟨true, false, true, false, true, false, true, true, false, false, []⟩)]
theorem e37_26 : evK gS fi37 c37_26 fr st k = drwK gS fi37 r37_26 [(some 15), (some 16), (some 17), (some 18), (some 19), (some 20), (some 21), (some 22), (some 23), (some 24), (some 25), (some 26), (some 27), (some 28), (some 29), (some 30), (some 31), (some 32)] q37_26 0 fr.clear st fr k := by
  rw [evK_draw (g := gS) (fi := fi37) (c := c37_26) 6 r37_26 q37_26 fr st k rfl (by kernel_rfl) (by kernel_rfl), show r37_26.toList.map (·.dst) = [(some 15), (some 16), (some 17), (some 18), (some 19), (some 20), (some 21), (some 22), (some 23), (some 24), (some 25), (some 26), (some 27), (some 28), (some 29), (some 30), (some 31), (some 32)] from by kernel_rfl]
noncomputable def c37_29 : Code := codeAt b37 [true, true, false, true, false, false, true, true, false, false, true, true, false, false]
theorem e37_29 : evK gS fi37 c37_29 fr st k = opsK gS fi37 [(some 2)] [mk (some 2) (.assign (.const (.bool false))) 4 none] fr.clear st fr k := evK_reg1 (i := 7) (by kernel_rfl) (by kernel_rfl)
noncomputable def c37_30 : Code := .ret
theorem e37_30 : evK gS fi37 c37_30 fr st k = nextK gS fi37 k .ret fr st := rfl
noncomputable def c37_28 : Code := .seq c37_29 c37_30
theorem e37_28 : evK gS fi37 c37_28 fr st k = evK gS fi37 c37_29 fr st (.seq c37_30 k) := rfl
noncomputable def c37_31 : Code := .skip
theorem e37_31 : evK gS fi37 c37_31 fr st k = nextK gS fi37 k .normal fr st := rfl
noncomputable def c37_27 : Code := .cond (.tmp 32) c37_28 c37_31
theorem e37_27 : evK gS fi37 c37_27 fr st k = condK gS fi37 (fr.op (.tmp 32)).bool? c37_28 c37_31 fr st k := rfl
noncomputable def c37_25 : Code := .seq c37_26 c37_27
theorem e37_25 : evK gS fi37 c37_25 fr st k = evK gS fi37 c37_26 fr st (.seq c37_27 k) := rfl
noncomputable def c37_23 : Code := .seq c37_24 c37_25
theorem e37_23 : evK gS fi37 c37_23 fr st k = evK gS fi37 c37_24 fr st (.seq c37_25 k) := rfl
noncomputable def c37_22 : Code := .block 1 c37_23
theorem e37_22 : evK gS fi37 c37_22 fr st k = evK gS fi37 c37_23 fr st (.blk 1 k) := rfl
noncomputable def c37_32 : Code := codeAt b37 [true, true, false, true, false, false, true, true, true]
theorem e37_32 : evK gS fi37 c37_32 fr st k = opsK gS fi37 [(some 33), (some 10)] [mk (some 33) (.binOp .add 3 (.tmp 10) (.const (.int .i64 1)) 3) 3 none,
  mk (some 10) (.move (.tmp 33)) 3 none] fr.clear st fr k := evK_reg1 (i := 8) (by kernel_rfl) (by kernel_rfl)
noncomputable def c37_21 : Code := .seq c37_22 c37_32
theorem e37_21 : evK gS fi37 c37_21 fr st k = evK gS fi37 c37_22 fr st (.seq c37_32 k) := rfl
noncomputable def c37_17 : Code := .seq c37_18 c37_21
theorem e37_17 : evK gS fi37 c37_17 fr st k = evK gS fi37 c37_18 fr st (.seq c37_21 k) := rfl
noncomputable def c37_15 : Code := .seq c37_16 c37_17
theorem e37_15 : evK gS fi37 c37_15 fr st k = evK gS fi37 c37_16 fr st (.seq c37_17 k) := rfl
noncomputable def c37_14 : Code := .loop c37_15
noncomputable def c37_13 : Code := .block 0 c37_14
theorem e37_13 : evK gS fi37 c37_13 fr st k = evK gS fi37 c37_14 fr st (.blk 0 k) := rfl
noncomputable def c37_11 : Code := .seq c37_12 c37_13
theorem e37_11 : evK gS fi37 c37_11 fr st k = evK gS fi37 c37_12 fr st (.seq c37_13 k) := rfl
noncomputable def c37_34 : Code := codeAt b37 [true, true, true, false]
theorem e37_34 : evK gS fi37 c37_34 fr st k = opsK gS fi37 [(some 2)] [mk (some 2) (.assign (.const (.bool true))) 4 none] fr.clear st fr k := evK_reg1 (i := 9) (by kernel_rfl) (by kernel_rfl)
noncomputable def c37_35 : Code := .ret
theorem e37_35 : evK gS fi37 c37_35 fr st k = nextK gS fi37 k .ret fr st := rfl
noncomputable def c37_33 : Code := .seq c37_34 c37_35
theorem e37_33 : evK gS fi37 c37_33 fr st k = evK gS fi37 c37_34 fr st (.seq c37_35 k) := rfl
noncomputable def c37_10 : Code := .seq c37_11 c37_33
theorem e37_10 : evK gS fi37 c37_10 fr st k = evK gS fi37 c37_11 fr st (.seq c37_33 k) := rfl
noncomputable def c37_2 : Code := .seq c37_3 c37_10
theorem e37_2 : evK gS fi37 c37_2 fr st k = evK gS fi37 c37_3 fr st (.seq c37_10 k) := rfl
noncomputable def c37_0 : Code := .seq c37_1 c37_2
theorem e37_0 : evK gS fi37 c37_0 fr st k = evK gS fi37 c37_1 fr st (.seq c37_2 k) := rfl
theorem m37 : mini fi37.body = c37_0 := by kernel_rfl
theorem n37_14 (fr : Fr) (st : St) (k : Kt) : nextK gS fi37 (.loop c37_15 k) .normal fr st = evK gS fi37 c37_14 fr st k := rfl
set_option maxHeartbeats 8000000 in
theorem L37_14 (f : List Pred) (h_f : POk f) (st : St) : ∀ (n i : Nat) (e3 e4 : E) (T : List (Nat × E)) (X : List (Nat × List V)) (ht3 : e3.Tame) (ht4 : e4.Tame), i ≤ f.length → f.length - i = n →
    evK gS fi37 c37_14 { ps := [(0, .val (.slice (encPreds f))), (2, .val (.bool false)), (3, e3), (4, e4), (8, .val (.slice (encPreds f))), (9, .val (.int .i64 f.length)), (10, .val (.int .i64 (i : Nat)))], ts := T, lc := X } st (.blk 0 (.seq c37_33 .nil)) = some (.ret (.bool (rises (prevN f i) (f.drop i))) none, st) := by
  intro n
  have hm : fi37.marks = [] := rfl
  have hl : fi37.locals = [4] := rfl
  have hr : fi37.results = [.tmp 2] := rfl
  have hfl := h_f.1
  induction n with
  | zero =>
    intro i e3 e4 T X ht3 ht4 hi hn
    obtain rfl : i = f.length := by omega
    refine evK_loop c37_15 _ st _ _ rfl ?_
    simp (config := { contextual := true, maxSteps := 10000000, maxDischargeDepth := 6 }) [rises_nil, ht3, ht4, -Int.not_le, -Int.not_lt, -Nat.not_le, -Nat.not_lt, ty3, ty4, ty9, ty27, ty49, hm, hl, hr, k19, x19, fi19_eq, p19, e37_1, e37_4, e37_7, e37_8, e37_6, e37_9, e37_5, e37_3, e37_12, e37_16, e37_19, e37_20, e37_18, e37_24, e37_26, q37_26, e37_29, e37_30, e37_28, e37_31, e37_27, e37_25, e37_23, e37_22, e37_32, e37_21, e37_17, e37_15, e37_13, e37_11, e37_34, e37_35, e37_33, e37_10, e37_2, e37_0, n37_14]
    all_goals first | done | grind | omega
  | succ n ih =>
    intro i e3 e4 T X ht3 ht4 hi hn
    obtain ⟨x, hx⟩ : ∃ x, f[i]? = some x := ⟨f[i]'(by omega), List.getElem?_eq_getElem (by omega)⟩
    have hd := drop_get hx
    have hlt : (i : Int) < (f.length : Int) := by omega
    have hlt2 : i < f.length := by omega
    have hxe : f[i]'hlt2 = x := by rw [List.getElem?_eq_getElem hlt2] at hx; exact Option.some.inj hx
    have hw : IntKind.wrap .i64 ((i : Int) + 1) = ((i + 1 : Nat) : Int) := by rw [wrap64 (by omega) (by omega)]; omega
    have hxo := (h_f.get hx).1
    have hxs := (h_f.get hx).2
    have IH := fun e3 e4 T X ht3 ht4 => ih (i + 1) e3 e4 T X ht3 ht4 (by omega) (by omega)
    rw [prevN_succ hx] at IH
    refine evK_loop c37_15 _ st _ _ rfl ?_
    rw [hd]
    by_cases h0 : i = 0
    · subst h0
      rw [prevN_zero, rises_none]
      simp only [Nat.zero_add, show ((1 : Nat) : Int) = 1 from rfl, List.drop_one] at IH
      cases hpr : pright x with
      | true => simp (config := { contextual := true, maxSteps := 10000000, maxDischargeDepth := 6 }) [-Int.natCast_add, w64_1, hx, hxe, hlt, hlt2, hxo, hxs, hpr, IH, ht3, ht4, -Int.not_le, -Int.not_lt, -Nat.not_le, -Nat.not_lt, ty3, ty4, ty9, ty27, ty49, hm, hl, hr, k19, x19, fi19_eq, p19, e37_1, e37_4, e37_7, e37_8, e37_6, e37_9, e37_5, e37_3, e37_12, e37_16, e37_19, e37_20, e37_18, e37_24, e37_26, q37_26, e37_29, e37_30, e37_28, e37_31, e37_27, e37_25, e37_23, e37_22, e37_32, e37_21, e37_17, e37_15, e37_13, e37_11, e37_34, e37_35, e37_33, e37_10, e37_2, e37_0, n37_14]
      | false => simp (config := { contextual := true, maxSteps := 10000000, maxDischargeDepth := 6 }) [-Int.natCast_add, hx, hxe, hlt, hlt2, hw, hxo, hxs, hpr, ht3, ht4, -Int.not_le, -Int.not_lt, -Nat.not_le, -Nat.not_lt, ty3, ty4, ty9, ty27, ty49, hm, hl, hr, k19, x19, fi19_eq, p19, e37_1, e37_4, e37_7, e37_8, e37_6, e37_9, e37_5, e37_3, e37_12, e37_16, e37_19, e37_20, e37_18, e37_24, e37_26, q37_26, e37_29, e37_30, e37_28, e37_31, e37_27, e37_25, e37_23, e37_22, e37_32, e37_21, e37_17, e37_15, e37_13, e37_11, e37_34, e37_35, e37_33, e37_10, e37_2, e37_0, n37_14]
    · obtain ⟨y, hy⟩ : ∃ y, f[i - 1]? = some y := ⟨f[i - 1]'(by omega), List.getElem?_eq_getElem (by omega)⟩
      have hyl : i - 1 < f.length := by omega
      have hye : f[i - 1]'hyl = y := by rw [List.getElem?_eq_getElem hyl] at hy; exact Option.some.inj hy
      have ha : prevN f i = some y.name := by unfold prevN; rw [if_neg h0, hy]; rfl
      have hip : (0 : Int) < (i : Int) := by omega
      have hip2 : 0 < i := by omega
      have hw1 : IntKind.wrap .i64 ((i : Int) - 1) = ((i - 1 : Nat) : Int) := by rw [wrap64 (by omega) (by omega)]; omega
      rw [ha, rises_some]
      cases hpr : pright x with
      | false => simp (config := { contextual := true, maxSteps := 10000000, maxDischargeDepth := 6 }) [-Int.natCast_add, hx, hxe, hlt, hlt2, hw, hxo, hxs, hpr, ht3, ht4, -Int.not_le, -Int.not_lt, -Nat.not_le, -Nat.not_lt, ty3, ty4, ty9, ty27, ty49, hm, hl, hr, k19, x19, fi19_eq, p19, e37_1, e37_4, e37_7, e37_8, e37_6, e37_9, e37_5, e37_3, e37_12, e37_16, e37_19, e37_20, e37_18, e37_24, e37_26, q37_26, e37_29, e37_30, e37_28, e37_31, e37_27, e37_25, e37_23, e37_22, e37_32, e37_21, e37_17, e37_15, e37_13, e37_11, e37_34, e37_35, e37_33, e37_10, e37_2, e37_0, n37_14]
      | true =>
        have hsg : (!(Op.bytesLess y.name x.name || decide (y.name = x.name))) = sgt y.name x.name := rfl
        cases hsq : sgt y.name x.name with
        | true =>
          rw [hsq] at hsg
          simp (config := { contextual := true, maxSteps := 10000000, maxDischargeDepth := 6 }) [-Int.natCast_add, -Bool.not_or, hx, hxe, hlt, hlt2, hw, hw1, hip, hip2, hy, hyl, hye, hxo, hxs, hpr, hsg, ht3, ht4, -Int.not_le, -Int.not_lt, -Nat.not_le, -Nat.not_lt, ty3, ty4, ty9, ty27, ty49, hm, hl, hr, k19, x19, fi19_eq, p19, e37_1, e37_4, e37_7, e37_8, e37_6, e37_9, e37_5, e37_3, e37_12, e37_16, e37_19, e37_20, e37_18, e37_24, e37_26, q37_26, e37_29, e37_30, e37_28, e37_31, e37_27, e37_25, e37_23, e37_22, e37_32, e37_21, e37_17, e37_15, e37_13, e37_11, e37_34, e37_35, e37_33, e37_10, e37_2, e37_0, n37_14]
        | false =>
          rw [hsq] at hsg
          simp (config := { contextual := true, maxSteps := 10000000, maxDischargeDepth := 6 }) [-Int.natCast_add, -Bool.not_or, hx, hxe, hlt, hlt2, hw, hw1, hip, hip2, hy, hyl, hye, hxo, hxs, hpr, hsg, IH, ht3, ht4, -Int.not_le, -Int.not_lt, -Nat.not_le, -Nat.not_lt, ty3, ty4, ty9, ty27, ty49, hm, hl, hr, k19, x19, fi19_eq, p19, e37_1, e37_4, e37_7, e37_8, e37_6, e37_9, e37_5, e37_3, e37_12, e37_16, e37_19, e37_20, e37_18, e37_24, e37_26, q37_26, e37_29, e37_30, e37_28, e37_31, e37_27, e37_25, e37_23, e37_22, e37_32, e37_21, e37_17, e37_15, e37_13, e37_11, e37_34, e37_35, e37_33, e37_10, e37_2, e37_0, n37_14]
set_option maxHeartbeats 4000000 in
theorem c37 (f : List Pred) (h_f : POk f) (st : St) : EvF gS 37 [.slice (encPreds f)] st = some (.ret (.bool (fright f)) none, st) := by
  refine EvF_start fi37_eq (fun x h => by cases h) m37 ?_
  rw [st37]
  have hm : fi37.marks = [] := rfl
  have hl : fi37.locals = [4] := rfl
  have hr : fi37.results = [.tmp 2] := rfl
  have hfl := h_f.1
  have L0 := fun e3 e4 T X ht3 ht4 => L37_14 f h_f st f.length 0 e3 e4 T X ht3 ht4 (Nat.zero_le _) rfl
  simp only [show ((0 : Nat) : Int) = 0 from rfl, List.drop_zero, prevN_zero] at L0
  simp (config := { contextual := true, maxSteps := 10000000, maxDischargeDepth := 6 }) [-Int.not_le, -Int.not_lt, -Nat.not_le, -Nat.not_lt, ty3, ty4, ty9, ty27, ty49, hm, hl, hr, k19, x19, fi19_eq, p19, e37_1, e37_4, e37_7, e37_8, e37_6, e37_9, e37_5, e37_3, e37_12, e37_16, e37_19, e37_20, e37_18, e37_24, e37_26, q37_26, e37_29, e37_30, e37_28, e37_31, e37_27, e37_25, e37_23, e37_22, e37_32, e37_21, e37_17, e37_15, e37_13, e37_11, e37_34, e37_35, e37_33, e37_10, e37_2, e37_0, n37_14, L0, hfl]
  all_goals try simp (config := { contextual := true }) [-Int.not_le, -Int.not_lt, -Nat.not_le, -Nat.not_lt, fright]
  all_goals first | done | grind | (unfold fright; grind)
theorem k37 (f : List Pred) (h_f : POk f) (fr : Fr) (st : St) : callStep gS (EvF gS) 37 [.slice (encPreds f)] fr st = some (.ok (retE none (.bool (fright f))) fr st) :=
  call_pure rfl fi37_eq rfl (fun st => c37 f h_f st) (by simp)
end Go.Proofs.Ytclpbfkbpcjejaa
namespace Go.Ab
open Go
set_option linter.unusedVariables false
set_option linter.unusedSimpArgs false
set_option linter.unnecessarySimpa false
variable {α : Type}
theorem row_len (c : α → List V) (k : Nat) (hc : ∀ x, (c x).length = k) : ∀ l : List α, (l.flatMap c).length = l.length * k
  | [] => by simp
  | x :: r => by rw [List.flatMap_cons, List.length_append, hc, row_len c k hc r, List.length_cons, Nat.succ_mul]; omega
theorem row_get (c : α → List V) (k : Nat) (hc : ∀ x, (c x).length = k) {l : List α} {i j : Nat} {x : α} (hx : l[i]? = some x) (hj : j < k) : (l.flatMap c)[i * k + j]? = (c x)[j]? := by
  have hs : l = l.take i ++ x :: l.drop (i + 1) := by
    have h1 := List.take_append_drop i l
    rw [drop_get hx] at h1
    exact h1.symm
  have hl : (l.take i).length = i := by
    have := (List.getElem?_eq_some_iff.1 hx).1
    simp; omega
  rw [hs, List.flatMap_append, List.getElem?_append_right (by rw [row_len c k hc, hl]; omega), row_len c k hc, hl, Nat.add_sub_cancel_left, List.flatMap_cons, List.getElem?_append_left (by rw [hc]; exact hj)]
theorem row_one (c : α → List V) (hc : ∀ x, (c x).all V.one = true) : ∀ l : List α, (l.flatMap c).all V.one = true
  | [] => rfl
  | x :: r => by rw [List.flatMap_cons, List.all_append, hc x, row_one c hc r]; rfl
theorem flats_append : ∀ (a b : List V), flats (a ++ b) = (flats a && flats b)
  | [], _ => by simp [flats]
  | v :: a, b => by simp only [List.cons_append, flats, flats_append a b, Bool.and_assoc]
theorem row_flats (c : α → List V) (hc : ∀ x, flats (c x) = true) : ∀ l : List α, flats (l.flatMap c) = true
  | [] => rfl
  | x :: r => by rw [List.flatMap_cons, flats_append, hc x, row_flats c hc r]; rfl
theorem row_strip (c d : α → List V) (hc : ∀ x, (c x).map V.strip1 = d x) : ∀ l : List α, (l.flatMap c).map V.strip1 = l.flatMap d
  | [] => rfl
  | x :: r => by rw [List.flatMap_cons, List.map_append, hc x, row_strip c d hc r, List.flatMap_cons]
/-- A row of elements is given up. -/
theorem frz_row {st st1 : St} (n id k : Nat) (hk : 0 < k) (c d : α → List V) (hc : ∀ x, (c x).length = k) (hd : ∀ x, (d x).length = k) (hcd : ∀ x, (c x).map V.strip1 = d x) (h1 : ∀ x, (d x).all V.one = true) (hf : ∀ x, flats (d x) = true)
    (l : List α) (hl : l ≠ []) (ho : St.obj st id = some (l.flatMap c)) (hs : St.set st id [] = some st1) : frz (n + 1) st (.sref false k id 0 l.length) = some (.slice (chunk (Nat.blt 1 k) k l.length (l.flatMap d)), st1) := by
  have hne : ¬ l.length = 0 := by simpa using hl
  unfold frz
  simp only [hne, if_false, ho, hs, row_len c k hc, List.drop_zero, Nat.zero_add, Nat.le_refl, and_true, hk, if_true]
  rw [List.take_of_length_le (by rw [row_len c k hc]; omega), row_strip c d hcd, frzL_flat _ _ _ (row_flats d hf l)]
  simp only [row_len d k hd, row_one d h1 l, and_self, if_true]
/-- A call of a function of plain values, whatever it lays aside. -/
theorem call_pure' {g : G} {f : Nat} {args : List V} {fr : Fr} {st : St} {fi : FI} {v : V} {k : Option Nat} (hx : g.ext f = none) (hf : g.fn f = some fi) (hp : fi.pure = true) (ha : flats args = true)
    (h : ∃ st', EvF g f args ⟨[], 0⟩ = some (.ret v k, st')) (hv : v.flat = true) : callStep g (EvF g) f args fr st = some (.ok (retE k v) fr st) := by
  obtain ⟨st', h⟩ := h
  unfold callStep
  simp only [hx, hf, hp, if_true, ha, h, hv]
end Go.Ab
namespace Go.Proofs.Ytclpbfkbpcjejaa
open Go Go.Ab
set_option linter.unusedVariables false
set_option linter.unusedSimpArgs false
set_option linter.unnecessarySimpa false
set_option maxRecDepth 20000
variable (fr : Fr) (st : St) (k : Kt)
theorem sizes_vals (l : List Val) : sizesOk 5 (encVals l) = true := by
  induction l with
  | nil => rfl
  | cons x r ih => simp only [encVals, List.map_cons, sizesOk] at ih ⊢; rw [ih]; rfl
theorem sizes_preds (l : List Pred) : sizesOk 13 (encPreds l) = true := by
  induction l with
  | nil => rfl
  | cons x r ih => simp only [encPreds, List.map_cons, sizesOk] at ih ⊢; rw [ih]; rfl
/-- Of a size that may be copied. -/
def PSm (f : List Pred) : Prop := f.length ≤ 1000000 ∧ ∀ p ∈ f, p.name.length < 4611686018427387904 ∧ p.set.length * 48 ≤ 140737488355328
theorem PSm.ok {f : List Pred} (h : PSm f) : POk f := ⟨by have := h.1; omega, fun p hp => ⟨(h.2 p hp).1, by have := (h.2 p hp).2; omega⟩⟩
end Go.Proofs.Ytclpbfkbpcjejaa
namespace Go.Ab
open Go
set_option linter.unusedVariables false
set_option linter.unusedSimpArgs false
set_option linter.unnecessarySimpa false
section
variable {α : Type}
theorem row_drop (c : α → List V) (k : Nat) (hc : ∀ x, (c x).length = k) : ∀ (l : List α) (i : Nat), (l.flatMap c).drop (i * k) = (l.drop i).flatMap c
  | [], i => by simp
  | x :: r, 0 => by simp
  | x :: r, i + 1 => by
    rw [List.flatMap_cons, List.drop_succ_cons, ← row_drop c k hc r i, List.drop_append, hc, List.drop_of_length_le (by rw [hc, Nat.succ_mul]; omega), List.nil_append, Nat.succ_mul, Nat.add_sub_cancel]
theorem row_take (c : α → List V) (k : Nat) (hc : ∀ x, (c x).length = k) : ∀ (l : List α) (i : Nat), (l.flatMap c).take (i * k) = (l.take i).flatMap c
  | [], i => by simp
  | x :: r, 0 => by simp
  | x :: r, i + 1 => by
    rw [List.flatMap_cons, List.take_succ_cons, List.flatMap_cons, ← row_take c k hc r i, List.take_append, hc, List.take_of_length_le (by rw [hc, Nat.succ_mul]; omega), Nat.succ_mul, Nat.add_sub_cancel]
theorem row_splices (c : α → List V) (k : Nat) (hc : ∀ x, (c x).length = k) (l m : List α) (i : Nat) (h : i + m.length ≤ l.length) : splice (l.flatMap c) (i * k) (m.flatMap c) = some ((l.take i ++ m ++ l.drop (i + m.length)).flatMap c) := by
  unfold splice
  rw [row_len c k hc, row_len c k hc, if_pos (by rw [← Nat.add_mul]; exact Nat.mul_le_mul_right k h), row_take c k hc, ← Nat.add_mul, row_drop c k hc, List.flatMap_append, List.flatMap_append]
end
def N4 : List (List UInt8) := [[97], [98], [99], [108, 111, 110, 103]]
def nameV (l : List Int) (a j : Nat) : List UInt8 := N4.getD ((fd l a j 12).toNat / 3 % 4) []
def A5 : List (List UInt8 × Int) := [([97], 0), ([98], 0), ([99], 0), ([100], 1), ([108, 111, 110, 103], 1)]
def attrsG (l : List Int) (a : Nat) : List (List UInt8 × Int) → Nat → List Attr × Nat
  | [], j => ([], j)
  | (nm, q) :: r, j => if fd l a j 3 > q then (⟨nm, valueV l a (j + 1)⟩ :: (attrsG l a r (j + 3)).1, (attrsG l a r (j + 3)).2) else attrsG l a r (j + 1)
/-- Attributes, and where the feed stands then. -/
def attrsV (l : List Int) (a j : Nat) : List Attr × Nat := attrsG l a A5 j
/-- Behind which one a name has its place. -/
def insN (f : List Pred) (nm : List UInt8) : Nat → Nat
  | 0 => 0
  | k + 1 => if sgt ((f[k]?).getD ⟨[], 0, vzero, vzero, []⟩).name nm then insN f nm k else k + 1
theorem insN_le (f : List Pred) (nm : List UInt8) : ∀ k, insN f nm k ≤ k
  | 0 => Nat.le_refl _
  | k + 1 => by
    unfold insN; split
    · exact Nat.le_succ_of_le (insN_le f nm k)
    · exact Nat.le_refl _
def insP (f : List Pred) (p : Pred) (nm : List UInt8) : List Pred := f.take (insN f nm f.length) ++ p :: f.drop (insN f nm f.length)
theorem insP_length (f : List Pred) (p : Pred) (nm : List UInt8) : (insP f p nm).length = f.length + 1 := by
  have := insN_le f nm f.length
  unfold insP; simp; omega
/-- A filter, where the feed stands then, how many objects were given up. -/
def filterG (l : List Int) (a : Nat) : Nat → Nat → Nat → List Pred → List Pred × Nat × Nat
  | 0, j, d, f => (f, j, d)
  | n + 1, j, d, f => filterG l a n (j + 1 + (predV l a (j + 1) (nameV l a j)).2) (d + (predV l a (j + 1) (nameV l a j)).1.set.length + 1) (insP f (predV l a (j + 1) (nameV l a j)).1 (nameV l a j))
def filterV (l : List Int) (a j : Nat) : List Pred × Nat × Nat := filterG l a (fd l a j 4).toNat (j + 1) 0 []
def pzero : Pred := ⟨[], 0, vzero, vzero, []⟩
theorem pcells_len (p : Pred) : (Pred.cells p).length = 13 := rfl
theorem pcells_one (p : Pred) : (Pred.cells p).all V.one = true := rfl
theorem pcells_flats (p : Pred) : flats (Pred.cells p) = true := by simp [flats, V.flat]
theorem pcells_strip (p : Pred) : (Pred.cells p).map V.strip1 = Pred.cells p := rfl
theorem chunk_preds1 (l : List Pred) : chunk true 13 l.length (l.flatMap Pred.cells) = encPreds l := chunk_enc Pred.cells 13 (by omega) (fun _ => rfl) l
theorem enc_cells (l : List Pred) : (encPreds l).flatMap V.cells = l.flatMap Pred.cells := by
  induction l with
  | nil => rfl
  | cons x r ih => simp only [encPreds, List.map_cons, List.flatMap_cons] at ih ⊢; rw [ih]; rfl
/-- The elements of a part of a row. -/
theorem elems_row {st : St} {id : Nat} {l : List Pred} (ho : St.obj st id = some (l.flatMap Pred.cells)) (f : Bool) {i : Nat} (hi : i ≤ l.length) :
    elemsAt true 13 st (.val (.sref f 13 id (i * 13) (l.length - i))) = some (encPreds (l.drop i)) := by
  unfold elemsAt
  simp only [ho, row_len Pred.cells 13 pcells_len, true_and]
  have h1 : i * 13 + (l.length - i) * 13 ≤ l.length * 13 := by omega
  have h2 : ((l.flatMap Pred.cells).map V.strip1).all V.one = true := by rw [row_strip _ _ pcells_strip]; exact row_one _ pcells_one l
  have h3 : (true || (13 : Nat) == 1) = true := rfl
  rw [if_pos ⟨h1, h3, h2⟩, row_drop Pred.cells 13 pcells_len, List.take_of_length_le (by rw [row_len Pred.cells 13 pcells_len]; simp), row_strip _ _ pcells_strip]
  have := chunk_preds1 (l.drop i)
  rw [List.length_drop] at this
  rw [this]
theorem frz_preds {st st1 : St} (n id : Nat) (l : List Pred) (hl : l ≠ []) (ho : St.obj st id = some (l.flatMap Pred.cells)) (hs : St.set st id [] = some st1) : frz (n + 1) st (.sref false 13 id 0 l.length) = some (.slice (encPreds l), st1) := by
  have := frz_row n id 13 (by omega) Pred.cells Pred.cells pcells_len pcells_len pcells_strip pcells_one pcells_flats l hl ho hs
  rw [show Nat.blt 1 13 = true from rfl, chunk_preds1] at this
  exact this
/-- A row behind which others were given up. -/
theorem obj_mid {st : St} {id : Nat} (h : FeedOk st id) (m k : Nat) (cs : List V) (l : List Int) (a : Nat) : St.obj (setF (dd (nw st m cs) k) id l a) (st.objs.length + m) = some cs := by
  unfold St.obj setF
  show ((dd (nw st m cs) k).objs.set id _)[_]? = _
  rw [List.getElem?_set_ne (by have := h.1; omega)]
  unfold dd
  show ((nw st m cs).objs ++ _)[_]? = _
  rw [List.getElem?_append_left (by rw [gr_len]; omega), gr_obj]
theorem dd_nw_kill (st : St) (m k : Nat) (cs : List V) (h : st.wp ≤ st.objs.length) : St.set (dd (nw st m cs) k) (st.objs.length + m) [] = some (dd st (m + 1 + k)) := by
  unfold St.set
  rw [if_pos (by rw [dd_wp, gr_wp]; omega)]
  unfold dd nw
  simp only [Option.some.injEq, St.mk.injEq, and_true]
  rw [List.append_assoc, List.set_append_right _ _ (by omega), Nat.add_sub_cancel_left, List.append_assoc, List.set_append_right _ _ (by simp), List.length_replicate, Nat.sub_self]
  simp only [List.singleton_append, List.set_cons_zero]
  rw [show m + 1 + k = m + (1 + k) by omega, ← List.replicate_append_replicate, ← List.replicate_append_replicate (n := 1)]
  rfl
theorem set_mid {st : St} {id : Nat} (h : FeedOk st id) (m k : Nat) (cs : List V) (l : List Int) (a : Nat) : St.set (setF (dd (nw st m cs) k) id l a) (st.objs.length + m) [] = some (setF (dd st (m + 1 + k)) id l a) := by
  have h1 := h.1
  have h2 := h.2
  have hk := dd_nw_kill st m k cs (by omega)
  unfold St.set at hk ⊢
  rw [if_pos (by rw [dd_wp, gr_wp]; omega)] at hk
  rw [if_pos (by rw [setF_wp, dd_wp, gr_wp]; omega)]
  have hk2 := Option.some.inj hk
  congr 1
  rw [← hk2]
  unfold setF
  simp only [St.mk.injEq, and_true]
  rw [List.set_comm _ _ (by omega)]
end Go.Ab
namespace Go.Proofs.Ytclpbfkbpcjejaa
open Go Go.Ab
set_option linter.unusedVariables false
set_option linter.unusedSimpArgs false
set_option linter.unnecessarySimpa false
set_option maxRecDepth 20000
variable (fr : Fr) (st : St) (k : Kt)
noncomputable def fi91 : FI := { body := codeOf Try.f91, ntmps := 9, results := [.tmp 2], pers := [0, 2], locals := [], pure := false, marks := [] }
theorem fi91_eq : gS.fn 91 = some fi91 := by kernel_rfl
theorem st91 (a0 : V) : startFr fi91 [a0] = { ps := [(0, .val a0), (2, .any)], ts := [], lc := [] } := rfl
noncomputable def b91 : Code := mini (codeOf Try.f91)
noncomputable def c91_1 : Code := codeAt b91 [false]
theorem e91_1 : evK gS fi91 c91_1 fr st k = opsK gS fi91 [(some 2)] [mk (some 2) (.assign (.const (.string { data := #[] }))) 9 none] fr.clear st fr k := evK_reg1 (i := 0) (by kernel_rfl) (by kernel_rfl)
noncomputable def c91_3 : Code := codeAt b91 [true, false]
theorem e91_3 : evK gS fi91 c91_3 fr st k = opsK gS fi91 [(some 3), (some 4), (some 5), (some 6), (some 7), (some 8), (some 2)] [mk (some 3) (.build 107 #[(0, (.const (.string { data := #[97] }))), (1, (.const (.string { data := #[98] }))), (2, (.const (.string { data := #[99] }))), (3, (.const (.string { data := #[108, 111, 110, 103] })))]) 107 none,
  mk (some 4) (.move (.tmp 0)) 29 none,
  mk (some 5) (.call { callee := (.value (.func 16)), args := #[(.tmp 4), (.const (.int .i64 12))], argTypes := #[29, 3] }) 3 none,
  mk (some 6) (.binOp .quo 3 (.tmp 5) (.const (.int .i64 3)) 3) 3 none,
  mk (some 7) (.binOp .rem 3 (.tmp 6) (.const (.int .i64 4)) 3) 3 none,
  mk (some 8) (.index 107 (.tmp 3) (.tmp 7)) 9 none,
  mk (some 2) (.assign (.tmp 8)) 9 none] fr.clear st fr k := evK_reg1 (i := 1) (by kernel_rfl) (by kernel_rfl)
noncomputable def c91_4 : Code := .ret
theorem e91_4 : evK gS fi91 c91_4 fr st k = nextK gS fi91 k .ret fr st := rfl
noncomputable def c91_2 : Code := .seq c91_3 c91_4
theorem e91_2 : evK gS fi91 c91_2 fr st k = evK gS fi91 c91_3 fr st (.seq c91_4 k) := rfl
noncomputable def c91_0 : Code := .seq c91_1 c91_2
theorem e91_0 : evK gS fi91 c91_0 fr st k = evK gS fi91 c91_1 fr st (.seq c91_2 k) := rfl
theorem m91 : mini fi91.body = c91_0 := by kernel_rfl
set_option maxHeartbeats 8000000 in
theorem c91 (l : List Int) (a j id : Nat) (st : St) (h : FeedOk st id) (ha : a < 549755813888) (hj : j < 549755812000) :
    EvF gS 91 [.ptr id 0] (setF st id l (nA l a j)) = some (.ret (.str (nameV l a j)) none, setF st id l (nA l a (j + 1))) := by
  refine EvF_start fi91_eq (fun x h => by cases h) m91 ?_
  rw [st91]
  have hm : fi91.marks = [] := rfl
  have hl : fi91.locals = [] := rfl
  have hr : fi91.results = [.tmp 2] := rfl
  have hb := fd_bound l a j (n := 12) (by omega)
  unfold nameV
  have hk := fun fr => k16 l a j id 12 fr st h ha (by omega) (by omega)
  generalize fd l a j 12 = z at *
  have hz : z = 0 ∨ z = 1 ∨ z = 2 ∨ z = 3 ∨ z = 4 ∨ z = 5 ∨ z = 6 ∨ z = 7 ∨ z = 8 ∨ z = 9 ∨ z = 10 ∨ z = 11 := by omega
  have v1 : IntKind.wrap .i64 1 = 1 := w64_1
  have v2 : IntKind.wrap .i64 2 = 2 := w64_2
  have v3 : IntKind.wrap .i64 3 = 3 := w64_3
  have v0 : IntKind.wrap .i64 0 = 0 := by kernel_rfl
  rcases hz with rfl | rfl | rfl | rfl | rfl | rfl | rfl | rfl | rfl | rfl | rfl | rfl <;>
    simp [N4, hk, v0, v1, v2, v3, -Int.not_le, -Int.not_lt, -Nat.not_le, -Nat.not_lt, ty3, ty9, ty29, ty107, hm, hl, hr, e91_1, e91_3, e91_4, e91_2, e91_0]
theorem k91 (l : List Int) (a j id : Nat)  (fr : Fr) (st : St) (h : FeedOk st id) (ha : a < 549755813888) (hj : j < 549755812000) :
    callStep gS (EvF gS) 91 [.ptr id 0] fr (setF st id l (nA l a j)) = some (.ok (.val (.str (nameV l a j))) (fr.map E.noMem) (setF st id l (nA l a (j + 1)))) := by
  unfold callStep
  simp only [show gS.ext 91 = none from rfl, fi91_eq, show fi91.pure = false from rfl, Bool.false_eq_true, if_false, c91 l a j id  st h ha (by omega), retE]
  all_goals rfl
noncomputable def fi36 : FI := { body := codeOf Try.f36, ntmps := 26, results := [.tmp 2], pers := [0, 2, 3, 4, 5], locals := [4], pure := false, marks := [1000000] }
theorem fi36_eq : gS.fn 36 = some fi36 := by kernel_rfl
theorem st36 (a0 : V) : startFr fi36 [a0] = { ps := [(0, .val a0), (2, .any), (3, .any), (4, .any), (5, .any)], ts := [], lc := [] } := rfl
noncomputable def b36 : Code := mini (codeOf Try.f36)
noncomputable def c36_1 : Code := codeAt b36 [false]
theorem e36_1 : evK gS fi36 c36_1 fr st k = opsK gS fi36 [(some 2)] [mk (some 2) (.assign (.const (.slice none 0 0))) 50 none] fr.clear st fr k := evK_reg1 (i := 0) (by kernel_rfl) (by kernel_rfl)
noncomputable def c36_3 : Code := codeAt b36 [true, false]
theorem e36_3 : evK gS fi36 c36_3 fr st k = opsK gS fi36 [(some 3)] [mk (some 3) (.assign (.const (.slice none 0 0))) 50 none] fr.clear st fr k := evK_reg1 (i := 1) (by kernel_rfl) (by kernel_rfl)
noncomputable def c36_5 : Code := codeAt b36 [true, true, false]
theorem e36_5 : evK gS fi36 c36_5 fr st k = opsK gS fi36 [(some 6), (some 4), none] [mk (some 6) (.build 109 #[(0, (.const (.string { data := #[97] }))), (1, (.const (.string { data := #[98] }))), (2, (.const (.string { data := #[99] }))), (3, (.const (.string { data := #[100] }))), (4, (.const (.string { data := #[108, 111, 110, 103] })))]) 109 none,
  mk (some 4) (.alloc 109) 0 none,
  mk none (.store 109 (.tmp 4) (.tmp 6)) 0 none] fr.clear st fr k := evK_reg1 (i := 2) (by kernel_rfl) (by kernel_rfl)
noncomputable def c36_8 : Code := codeAt b36 [true, true, true, false, false]
theorem e36_8 : evK gS fi36 c36_8 fr st k = opsK gS fi36 [(some 5)] [mk (some 5) (.assign (.const (.int .i64 0))) 3 none] fr.clear st fr k := evK_reg1 (i := 3) (by kernel_rfl) (by kernel_rfl)
noncomputable def c36_13 : Code := codeAt b36 [true, true, true, false, true, false, false, false, false]
theorem e36_13 : evK gS fi36 c36_13 fr st k = opsK gS fi36 [(some 7), (some 8)] [mk (some 7) (.move (.tmp 5)) 3 none,
  mk (some 8) (.binOp .lss 3 (.tmp 7) (.const (.int .i64 5)) 3) 4 none] fr.clear st fr k := evK_reg1 (i := 4) (by kernel_rfl) (by kernel_rfl)
noncomputable def c36_15 : Code := .skip
theorem e36_15 : evK gS fi36 c36_15 fr st k = nextK gS fi36 k .normal fr st := rfl
noncomputable def c36_16 : Code := .exit 0
theorem e36_16 : evK gS fi36 c36_16 fr st k = nextK gS fi36 k (.exit 0) fr st := rfl
noncomputable def c36_14 : Code := .cond (.tmp 8) c36_15 c36_16
theorem e36_14 : evK gS fi36 c36_14 fr st k = condK gS fi36 (fr.op (.tmp 8)).bool? c36_15 c36_16 fr st k := rfl
noncomputable def c36_12 : Code := .seq c36_13 c36_14
theorem e36_12 : evK gS fi36 c36_12 fr st k = evK gS fi36 c36_13 fr st (.seq c36_14 k) := rfl
noncomputable def c36_20 : Code := codeAt b36 [true, true, true, false, true, false, false, true, false, false, false]
theorem e36_20 : evK gS fi36 c36_20 fr st k = opsK gS fi36 [(some 11), (some 12), (some 13), (some 14), (some 15)] [mk (some 11) (.move (.tmp 0)) 29 none,
  mk (some 12) (.call { callee := (.value (.func 16)), args := #[(.tmp 11), (.const (.int .i64 3))], argTypes := #[29, 3] }) 3 none,
  mk (some 13) (.move (.tmp 5)) 3 none,
  mk (some 14) (.binOp .quo 3 (.tmp 13) (.const (.int .i64 3)) 3) 3 none,
  mk (some 15) (.binOp .gtr 3 (.tmp 12) (.tmp 14) 3) 4 none] fr.clear st fr k := evK_reg1 (i := 6) (by kernel_rfl) (by kernel_rfl)
noncomputable def r36_22 : Array Oper := regOps (codeAt (codeOf Try.f36) [true, true, true, false, true, false, false, true, false, false, true, false])
noncomputable def c36_22 : Code := .region 7 r36_22 true
noncomputable def q36_22 : List (Oper × Fl) := [(mk (some 16) (.move (.tmp 3)) 50 none, ⟨true, false, false, false, false, false, true, false, false, true, []⟩),
  (mk (some 17) (.move (.tmp 5)) 3 none, ⟨true, false, false, false, false, false, true, false, false, true, []⟩),
  (mk (some 18) (.indexAddr 109 (.tmp 4) (.tmp 17)) 0 none, ⟨true, false, false, false, false, false, true, false, false, true, []⟩),
  (mk (some 19) (.load 9 (.tmp 18)) 9 none, ⟨true, false, false, false, false, false, true, false, false, true, []⟩),
  (mk (some 20) (.move (.tmp 0)) 29 none, ⟨true, false, true, false, true, false, true, true, false, false, []⟩),
  (mk (some 21) (.call { callee := (.value (.func 17)), args := #[(.tmp 20)], argTypes := #[29] }) 24 none, ⟨false, true, true, false, true, true, true, true, false, false, []⟩),
  (mk (some 22) (.build 111 #[(0, (.tmp 19)), (1, (.tmp 21))]) 111 none, ⟨true, false, true, false, true, false, true, true, false, false, []⟩),
  (mk (some 23) (.buildSlice 50 1 #[(0, (.tmp 22))]) 50 none, ⟨true, false, true, false, true, false, true, true, false, false, []⟩),
  (mk (some 24) (.call { callee := (.builtin .append), args := #[(.tmp 16), (.tmp 23)], argTypes := #[50, 50] }) 50 none, ⟨false, true, true, false, true, true, true, true, false, false, []⟩),
  (mk (some 3) (.assign (.tmp 24)) 50 none, ⟨true, true, true, false, true, false, true, true, false, false, []⟩)]
theorem e36_22 : evK gS fi36 c36_22 fr st k = drwK gS fi36 r36_22 [(some 16), (some 17), (some 18), (some 19), (some 20), (some 21), (some 22), (some 23), (some 24), (some 3)] q36_22 0 fr.clear st fr k := by
  rw [evK_draw (g := gS) (fi := fi36) (c := c36_22) 7 r36_22 q36_22 fr st k rfl (by kernel_rfl) (by kernel_rfl), show r36_22.toList.map (·.dst) = [(some 16), (some 17), (some 18), (some 19), (some 20), (some 21), (some 22), (some 23), (some 24), (some 3)] from by kernel_rfl]
noncomputable def c36_23 : Code := .skip
theorem e36_23 : evK gS fi36 c36_23 fr st k = nextK gS fi36 k .normal fr st := rfl
noncomputable def c36_21 : Code := .cond (.tmp 15) c36_22 c36_23
theorem e36_21 : evK gS fi36 c36_21 fr st k = condK gS fi36 (fr.op (.tmp 15)).bool? c36_22 c36_23 fr st k := rfl
noncomputable def c36_19 : Code := .seq c36_20 c36_21
theorem e36_19 : evK gS fi36 c36_19 fr st k = evK gS fi36 c36_20 fr st (.seq c36_21 k) := rfl
noncomputable def c36_18 : Code := .block 1 c36_19
theorem e36_18 : evK gS fi36 c36_18 fr st k = evK gS fi36 c36_19 fr st (.blk 1 k) := rfl
noncomputable def c36_24 : Code := codeAt b36 [true, true, true, false, true, false, false, true, true]
theorem e36_24 : evK gS fi36 c36_24 fr st k = opsK gS fi36 [(some 9), (some 10), (some 5)] [mk (some 9) (.move (.tmp 5)) 3 none,
  mk (some 10) (.binOp .add 3 (.tmp 9) (.const (.int .i64 1)) 3) 3 none,
  mk (some 5) (.assign (.tmp 10)) 3 none] fr.clear st fr k := evK_reg1 (i := 5) (by kernel_rfl) (by kernel_rfl)
noncomputable def c36_17 : Code := .seq c36_18 c36_24
theorem e36_17 : evK gS fi36 c36_17 fr st k = evK gS fi36 c36_18 fr st (.seq c36_24 k) := rfl
noncomputable def c36_11 : Code := .seq c36_12 c36_17
theorem e36_11 : evK gS fi36 c36_11 fr st k = evK gS fi36 c36_12 fr st (.seq c36_17 k) := rfl
noncomputable def c36_10 : Code := .loop c36_11
noncomputable def c36_9 : Code := .block 0 c36_10
theorem e36_9 : evK gS fi36 c36_9 fr st k = evK gS fi36 c36_10 fr st (.blk 0 k) := rfl
noncomputable def c36_7 : Code := .seq c36_8 c36_9
theorem e36_7 : evK gS fi36 c36_7 fr st k = evK gS fi36 c36_8 fr st (.seq c36_9 k) := rfl
noncomputable def c36_26 : Code := codeAt b36 [true, true, true, true, false]
theorem e36_26 : evK gS fi36 c36_26 fr st k = opsK gS fi36 [(some 25), (some 2)] [mk (some 25) (.move (.tmp 3)) 50 none,
  mk (some 2) (.assign (.tmp 25)) 50 none] fr.clear st fr k := evK_reg1 (i := 8) (by kernel_rfl) (by kernel_rfl)
noncomputable def c36_27 : Code := .ret
theorem e36_27 : evK gS fi36 c36_27 fr st k = nextK gS fi36 k .ret fr st := rfl
noncomputable def c36_25 : Code := .seq c36_26 c36_27
theorem e36_25 : evK gS fi36 c36_25 fr st k = evK gS fi36 c36_26 fr st (.seq c36_27 k) := rfl
noncomputable def c36_6 : Code := .seq c36_7 c36_25
theorem e36_6 : evK gS fi36 c36_6 fr st k = evK gS fi36 c36_7 fr st (.seq c36_25 k) := rfl
noncomputable def c36_4 : Code := .seq c36_5 c36_6
theorem e36_4 : evK gS fi36 c36_4 fr st k = evK gS fi36 c36_5 fr st (.seq c36_6 k) := rfl
noncomputable def c36_2 : Code := .seq c36_3 c36_4
theorem e36_2 : evK gS fi36 c36_2 fr st k = evK gS fi36 c36_3 fr st (.seq c36_4 k) := rfl
noncomputable def c36_0 : Code := .seq c36_1 c36_2
theorem e36_0 : evK gS fi36 c36_0 fr st k = evK gS fi36 c36_1 fr st (.seq c36_2 k) := rfl
theorem m36 : mini fi36.body = c36_0 := by kernel_rfl
theorem n36_10 (fr : Fr) (st : St) (k : Kt) : nextK gS fi36 (.loop c36_11 k) .normal fr st = evK gS fi36 c36_10 fr st k := rfl
theorem attrs_snoc (l : List Attr) (x : Attr) : encAttrs l ++ [.agg [.str x.name, .int .i64 x.v.kind, .int .i64 x.v.n, .float .f64 x.v.x, .str x.v.s, .bool x.v.b]] = encAttrs (l ++ [x]) := by simp [encAttrs, Attr.enc, Attr.cells]
theorem sizes_attrs (l : List Attr) : sizesOk 6 (encAttrs l) = true := by
  induction l with
  | nil => rfl
  | cons x r ih => simp only [encAttrs, List.map_cons, sizesOk] at ih ⊢; rw [ih]; rfl
set_option maxHeartbeats 8000000 in
theorem L36_5 (l : List Int) (a id : Nat) (ha : a < 549755813888) (st : St) (h : FeedOk st id) (j k : Nat) (f : List Attr) (hj : j + 15 < 549755812000 + 3 * 5) (hf : f.length ≤ 5) (hk : k = 0 ∧ f = [] ∨ k = 6) (T : List (Nat × E)) (X : List (Nat × List V)) (hx : lk X 4 = some [.str [97], .str [98], .str [99], .str [100], .str [108, 111, 110, 103]]) :
    evK gS fi36 c36_10 { ps := [(0, .val (.ptr id 0)), (2, .own 0 []), (3, .own k (encAttrs f)), (4, .lp 4 0), (5, .val (.int .i64 5))], ts := T, lc := X } (setF st id l (nA l a j)) (.blk 0 (.seq c36_25 .nil)) = some (.ret (.slice (encAttrs (f ++ (attrsG l a [] j).1))) none, setF st id l (nA l a (attrsG l a [] j).2)) := by
  have hm : fi36.marks = [1000000] := rfl
  have hl : fi36.locals = [4] := rfl
  have hr : fi36.results = [.tmp 2] := rfl
  refine evK_loop c36_11 _ _ _ _ rfl ?_
  have hz : ∀ st, frz 6 st (.slice (encAttrs f)) = some (.slice (encAttrs f), st) := fun st => frz_flat 6 st _ (by simp [V.flat])
  rw [show (attrsG l a [] j) = ([], j) from rfl]
  rcases hk with ⟨rfl, rfl⟩ | rfl
  · have en : encAttrs [] = [] := rfl
    rw [en] at hz
    simp [en, hz, hx, -Int.not_le, -Int.not_lt, -Nat.not_le, -Nat.not_lt, ty3, ty4, ty9, ty24, ty29, ty50, ty109, ty111, eq24, hm, hl, hr, fi16_eq, fi17_eq, e36_1, e36_3, e36_5, e36_8, e36_13, e36_15, e36_16, e36_14, e36_12, e36_20, e36_22, q36_22, e36_23, e36_21, e36_19, e36_18, e36_24, e36_17, e36_11, e36_9, e36_7, e36_26, e36_27, e36_25, e36_6, e36_4, e36_2, e36_0, n36_10]
  · simp [hz, hx, -Int.not_le, -Int.not_lt, -Nat.not_le, -Nat.not_lt, ty3, ty4, ty9, ty24, ty29, ty50, ty109, ty111, eq24, hm, hl, hr, fi16_eq, fi17_eq, e36_1, e36_3, e36_5, e36_8, e36_13, e36_15, e36_16, e36_14, e36_12, e36_20, e36_22, q36_22, e36_23, e36_21, e36_19, e36_18, e36_24, e36_17, e36_11, e36_9, e36_7, e36_26, e36_27, e36_25, e36_6, e36_4, e36_2, e36_0, n36_10]
set_option maxHeartbeats 8000000 in
theorem L36_4 (l : List Int) (a id : Nat) (ha : a < 549755813888) (st : St) (h : FeedOk st id) (j k : Nat) (f : List Attr) (hj : j + 15 < 549755812000 + 3 * 4) (hf : f.length ≤ 4) (hk : k = 0 ∧ f = [] ∨ k = 6) (T : List (Nat × E)) (X : List (Nat × List V)) (hx : lk X 4 = some [.str [97], .str [98], .str [99], .str [100], .str [108, 111, 110, 103]]) :
    evK gS fi36 c36_10 { ps := [(0, .val (.ptr id 0)), (2, .own 0 []), (3, .own k (encAttrs f)), (4, .lp 4 0), (5, .val (.int .i64 4))], ts := T, lc := X } (setF st id l (nA l a j)) (.blk 0 (.seq c36_25 .nil)) = some (.ret (.slice (encAttrs (f ++ (attrsG l a [([108, 111, 110, 103], 1)] j).1))) none, setF st id l (nA l a (attrsG l a [([108, 111, 110, 103], 1)] j).2)) := by
  have hm : fi36.marks = [1000000] := rfl
  have hl : fi36.locals = [4] := rfl
  have hr : fi36.results = [.tmp 2] := rfl
  refine evK_loop c36_11 _ _ _ _ rfl ?_
  have hb := fd_bound l a j (n := 3) (by omega)
  have hk3 := fun fr => k16 l a j id 3 fr st h ha (by omega) (by omega)
  have hv := fun fr => k17 l a (j + 1) id fr st h ha (by omega)
  have v0 : IntKind.wrap .i64 0 = 0 := by kernel_rfl
  have bo : borOk r36_22 0 3 16 = true := by kernel_rfl
  have bh : handOk r36_22 9 24 = true := by kernel_rfl
  have hr : attrsG l a [([108, 111, 110, 103], 1)] j = if fd l a j 3 > 1 then (⟨[108, 111, 110, 103], valueV l a (j + 1)⟩ :: (attrsG l a [] (j + 3)).1, (attrsG l a [] (j + 3)).2) else attrsG l a [] (j + 1) := rfl
  rw [hr]
  generalize fd l a j 3 = z at *
  by_cases hz : z > 1
  · rw [if_pos hz]
    have N := fun T X hx => L36_5 l a id ha st h (j + 3) 6 (f ++ [⟨[108, 111, 110, 103], valueV l a (j + 1)⟩]) (by omega) (by rw [List.length_append]; exact Nat.add_le_add hf (Nat.le_refl 1)) (.inr rfl) T X hx
    have e1 := attrs_snoc f ⟨[108, 111, 110, 103], valueV l a (j + 1)⟩
    have e2 := sizes_attrs f
    have e3 : (f.length + 1) * 64 ≤ 140737488355328 := by omega
    have e4 : f.length + 1 ≤ 140737488355328 := by omega
    have hz' : (1 : Int) < z := hz
    have a3 : j + 1 + 2 = j + 3 := rfl
    rcases hk with ⟨rfl, rfl⟩ | rfl
    · simp only [List.nil_append, List.cons_append] at N e1
      simp [-List.append_assoc, bo, bh, hx, hk3, hv, v0, w64_1, w64_2, w64_3, w64_4, w64_5, hz', a3, e1, e2, N, -Int.not_le, -Int.not_lt, -Nat.not_le, -Nat.not_lt, ty3, ty4, ty9, ty24, ty29, ty50, ty109, ty111, eq24, hm, hl, hr, fi16_eq, fi17_eq, e36_1, e36_3, e36_5, e36_8, e36_13, e36_15, e36_16, e36_14, e36_12, e36_20, e36_22, q36_22, e36_23, e36_21, e36_19, e36_18, e36_24, e36_17, e36_11, e36_9, e36_7, e36_26, e36_27, e36_25, e36_6, e36_4, e36_2, e36_0, n36_10]
    · rw [show (f ++ (⟨[108, 111, 110, 103], valueV l a (j + 1)⟩ :: (attrsG l a [] (j + 3)).1)) = (f ++ [⟨[108, 111, 110, 103], valueV l a (j + 1)⟩]) ++ (attrsG l a [] (j + 3)).1 by simp]
      simp only [] at e1
      simp [-List.append_assoc, bo, bh, hx, hk3, hv, v0, w64_1, w64_2, w64_3, w64_4, w64_5, hz', a3, e1, e2, e3, e4, N, -Int.not_le, -Int.not_lt, -Nat.not_le, -Nat.not_lt, ty3, ty4, ty9, ty24, ty29, ty50, ty109, ty111, eq24, hm, hl, hr, fi16_eq, fi17_eq, e36_1, e36_3, e36_5, e36_8, e36_13, e36_15, e36_16, e36_14, e36_12, e36_20, e36_22, q36_22, e36_23, e36_21, e36_19, e36_18, e36_24, e36_17, e36_11, e36_9, e36_7, e36_26, e36_27, e36_25, e36_6, e36_4, e36_2, e36_0, n36_10]
  · rw [if_neg hz]
    have N := fun T X hx => L36_5 l a id ha st h (j + 1) k f (by omega) (Nat.le_trans hf (by omega)) hk T X hx
    have hz' : ¬ (1 : Int) < z := hz
    simp [hx, hk3, hv, v0, w64_1, w64_2, w64_3, w64_4, w64_5, hz', N, -Int.not_le, -Int.not_lt, -Nat.not_le, -Nat.not_lt, ty3, ty4, ty9, ty24, ty29, ty50, ty109, ty111, eq24, hm, hl, hr, fi16_eq, fi17_eq, e36_1, e36_3, e36_5, e36_8, e36_13, e36_15, e36_16, e36_14, e36_12, e36_20, e36_22, q36_22, e36_23, e36_21, e36_19, e36_18, e36_24, e36_17, e36_11, e36_9, e36_7, e36_26, e36_27, e36_25, e36_6, e36_4, e36_2, e36_0, n36_10]
set_option maxHeartbeats 8000000 in
theorem L36_3 (l : List Int) (a id : Nat) (ha : a < 549755813888) (st : St) (h : FeedOk st id) (j k : Nat) (f : List Attr) (hj : j + 15 < 549755812000 + 3 * 3) (hf : f.length ≤ 3) (hk : k = 0 ∧ f = [] ∨ k = 6) (T : List (Nat × E)) (X : List (Nat × List V)) (hx : lk X 4 = some [.str [97], .str [98], .str [99], .str [100], .str [108, 111, 110, 103]]) :
    evK gS fi36 c36_10 { ps := [(0, .val (.ptr id 0)), (2, .own 0 []), (3, .own k (encAttrs f)), (4, .lp 4 0), (5, .val (.int .i64 3))], ts := T, lc := X } (setF st id l (nA l a j)) (.blk 0 (.seq c36_25 .nil)) = some (.ret (.slice (encAttrs (f ++ (attrsG l a [([100], 1), ([108, 111, 110, 103], 1)] j).1))) none, setF st id l (nA l a (attrsG l a [([100], 1), ([108, 111, 110, 103], 1)] j).2)) := by
  have hm : fi36.marks = [1000000] := rfl
  have hl : fi36.locals = [4] := rfl
  have hr : fi36.results = [.tmp 2] := rfl
  refine evK_loop c36_11 _ _ _ _ rfl ?_
  have hb := fd_bound l a j (n := 3) (by omega)
  have hk3 := fun fr => k16 l a j id 3 fr st h ha (by omega) (by omega)
  have hv := fun fr => k17 l a (j + 1) id fr st h ha (by omega)
  have v0 : IntKind.wrap .i64 0 = 0 := by kernel_rfl
  have bo : borOk r36_22 0 3 16 = true := by kernel_rfl
  have bh : handOk r36_22 9 24 = true := by kernel_rfl
  have hr : attrsG l a [([100], 1), ([108, 111, 110, 103], 1)] j = if fd l a j 3 > 1 then (⟨[100], valueV l a (j + 1)⟩ :: (attrsG l a [([108, 111, 110, 103], 1)] (j + 3)).1, (attrsG l a [([108, 111, 110, 103], 1)] (j + 3)).2) else attrsG l a [([108, 111, 110, 103], 1)] (j + 1) := rfl
  rw [hr]
  generalize fd l a j 3 = z at *
  by_cases hz : z > 1
  · rw [if_pos hz]
    have N := fun T X hx => L36_4 l a id ha st h (j + 3) 6 (f ++ [⟨[100], valueV l a (j + 1)⟩]) (by omega) (by rw [List.length_append]; exact Nat.add_le_add hf (Nat.le_refl 1)) (.inr rfl) T X hx
    have e1 := attrs_snoc f ⟨[100], valueV l a (j + 1)⟩
    have e2 := sizes_attrs f
    have e3 : (f.length + 1) * 64 ≤ 140737488355328 := by omega
    have e4 : f.length + 1 ≤ 140737488355328 := by omega
    have hz' : (1 : Int) < z := hz
    have a3 : j + 1 + 2 = j + 3 := rfl
    rcases hk with ⟨rfl, rfl⟩ | rfl
    · simp only [List.nil_append, List.cons_append] at N e1
      simp [-List.append_assoc, bo, bh, hx, hk3, hv, v0, w64_1, w64_2, w64_3, w64_4, w64_5, hz', a3, e1, e2, N, -Int.not_le, -Int.not_lt, -Nat.not_le, -Nat.not_lt, ty3, ty4, ty9, ty24, ty29, ty50, ty109, ty111, eq24, hm, hl, hr, fi16_eq, fi17_eq, e36_1, e36_3, e36_5, e36_8, e36_13, e36_15, e36_16, e36_14, e36_12, e36_20, e36_22, q36_22, e36_23, e36_21, e36_19, e36_18, e36_24, e36_17, e36_11, e36_9, e36_7, e36_26, e36_27, e36_25, e36_6, e36_4, e36_2, e36_0, n36_10]
    · rw [show (f ++ (⟨[100], valueV l a (j + 1)⟩ :: (attrsG l a [([108, 111, 110, 103], 1)] (j + 3)).1)) = (f ++ [⟨[100], valueV l a (j + 1)⟩]) ++ (attrsG l a [([108, 111, 110, 103], 1)] (j + 3)).1 by simp]
      simp only [] at e1
      simp [-List.append_assoc, bo, bh, hx, hk3, hv, v0, w64_1, w64_2, w64_3, w64_4, w64_5, hz', a3, e1, e2, e3, e4, N, -Int.not_le, -Int.not_lt, -Nat.not_le, -Nat.not_lt, ty3, ty4, ty9, ty24, ty29, ty50, ty109, ty111, eq24, hm, hl, hr, fi16_eq, fi17_eq, e36_1, e36_3, e36_5, e36_8, e36_13, e36_15, e36_16, e36_14, e36_12, e36_20, e36_22, q36_22, e36_23, e36_21, e36_19, e36_18, e36_24, e36_17, e36_11, e36_9, e36_7, e36_26, e36_27, e36_25, e36_6, e36_4, e36_2, e36_0, n36_10]
  · rw [if_neg hz]
    have N := fun T X hx => L36_4 l a id ha st h (j + 1) k f (by omega) (Nat.le_trans hf (by omega)) hk T X hx
    have hz' : ¬ (1 : Int) < z := hz
    simp [hx, hk3, hv, v0, w64_1, w64_2, w64_3, w64_4, w64_5, hz', N, -Int.not_le, -Int.not_lt, -Nat.not_le, -Nat.not_lt, ty3, ty4, ty9, ty24, ty29, ty50, ty109, ty111, eq24, hm, hl, hr, fi16_eq, fi17_eq, e36_1, e36_3, e36_5, e36_8, e36_13, e36_15, e36_16, e36_14, e36_12, e36_20, e36_22, q36_22, e36_23, e36_21, e36_19, e36_18, e36_24, e36_17, e36_11, e36_9, e36_7, e36_26, e36_27, e36_25, e36_6, e36_4, e36_2, e36_0, n36_10]
set_option maxHeartbeats 8000000 in
theorem L36_2 (l : List Int) (a id : Nat) (ha : a < 549755813888) (st : St) (h : FeedOk st id) (j k : Nat) (f : List Attr) (hj : j + 15 < 549755812000 + 3 * 2) (hf : f.length ≤ 2) (hk : k = 0 ∧ f = [] ∨ k = 6) (T : List (Nat × E)) (X : List (Nat × List V)) (hx : lk X 4 = some [.str [97], .str [98], .str [99], .str [100], .str [108, 111, 110, 103]]) :
    evK gS fi36 c36_10 { ps := [(0, .val (.ptr id 0)), (2, .own 0 []), (3, .own k (encAttrs f)), (4, .lp 4 0), (5, .val (.int .i64 2))], ts := T, lc := X } (setF st id l (nA l a j)) (.blk 0 (.seq c36_25 .nil)) = some (.ret (.slice (encAttrs (f ++ (attrsG l a [([99], 0), ([100], 1), ([108, 111, 110, 103], 1)] j).1))) none, setF st id l (nA l a (attrsG l a [([99], 0), ([100], 1), ([108, 111, 110, 103], 1)] j).2)) := by
  have hm : fi36.marks = [1000000] := rfl
  have hl : fi36.locals = [4] := rfl
  have hr : fi36.results = [.tmp 2] := rfl
  refine evK_loop c36_11 _ _ _ _ rfl ?_
  have hb := fd_bound l a j (n := 3) (by omega)
  have hk3 := fun fr => k16 l a j id 3 fr st h ha (by omega) (by omega)
  have hv := fun fr => k17 l a (j + 1) id fr st h ha (by omega)
  have v0 : IntKind.wrap .i64 0 = 0 := by kernel_rfl
  have bo : borOk r36_22 0 3 16 = true := by kernel_rfl
  have bh : handOk r36_22 9 24 = true := by kernel_rfl
  have hr : attrsG l a [([99], 0), ([100], 1), ([108, 111, 110, 103], 1)] j = if fd l a j 3 > 0 then (⟨[99], valueV l a (j + 1)⟩ :: (attrsG l a [([100], 1), ([108, 111, 110, 103], 1)] (j + 3)).1, (attrsG l a [([100], 1), ([108, 111, 110, 103], 1)] (j + 3)).2) else attrsG l a [([100], 1), ([108, 111, 110, 103], 1)] (j + 1) := rfl
  rw [hr]
  generalize fd l a j 3 = z at *
  by_cases hz : z > 0
  · rw [if_pos hz]
    have N := fun T X hx => L36_3 l a id ha st h (j + 3) 6 (f ++ [⟨[99], valueV l a (j + 1)⟩]) (by omega) (by rw [List.length_append]; exact Nat.add_le_add hf (Nat.le_refl 1)) (.inr rfl) T X hx
    have e1 := attrs_snoc f ⟨[99], valueV l a (j + 1)⟩
    have e2 := sizes_attrs f
    have e3 : (f.length + 1) * 64 ≤ 140737488355328 := by omega
    have e4 : f.length + 1 ≤ 140737488355328 := by omega
    have hz' : (0 : Int) < z := hz
    have a3 : j + 1 + 2 = j + 3 := rfl
    rcases hk with ⟨rfl, rfl⟩ | rfl
    · simp only [List.nil_append, List.cons_append] at N e1
      simp [-List.append_assoc, bo, bh, hx, hk3, hv, v0, w64_1, w64_2, w64_3, w64_4, w64_5, hz', a3, e1, e2, N, -Int.not_le, -Int.not_lt, -Nat.not_le, -Nat.not_lt, ty3, ty4, ty9, ty24, ty29, ty50, ty109, ty111, eq24, hm, hl, hr, fi16_eq, fi17_eq, e36_1, e36_3, e36_5, e36_8, e36_13, e36_15, e36_16, e36_14, e36_12, e36_20, e36_22, q36_22, e36_23, e36_21, e36_19, e36_18, e36_24, e36_17, e36_11, e36_9, e36_7, e36_26, e36_27, e36_25, e36_6, e36_4, e36_2, e36_0, n36_10]
    · rw [show (f ++ (⟨[99], valueV l a (j + 1)⟩ :: (attrsG l a [([100], 1), ([108, 111, 110, 103], 1)] (j + 3)).1)) = (f ++ [⟨[99], valueV l a (j + 1)⟩]) ++ (attrsG l a [([100], 1), ([108, 111, 110, 103], 1)] (j + 3)).1 by simp]
      simp only [] at e1
      simp [-List.append_assoc, bo, bh, hx, hk3, hv, v0, w64_1, w64_2, w64_3, w64_4, w64_5, hz', a3, e1, e2, e3, e4, N, -Int.not_le, -Int.not_lt, -Nat.not_le, -Nat.not_lt, ty3, ty4, ty9, ty24, ty29, ty50, ty109, ty111, eq24, hm, hl, hr, fi16_eq, fi17_eq, e36_1, e36_3, e36_5, e36_8, e36_13, e36_15, e36_16, e36_14, e36_12, e36_20, e36_22, q36_22, e36_23, e36_21, e36_19, e36_18, e36_24, e36_17, e36_11, e36_9, e36_7, e36_26, e36_27, e36_25, e36_6, e36_4, e36_2, e36_0, n36_10]
  · rw [if_neg hz]
    have N := fun T X hx => L36_3 l a id ha st h (j + 1) k f (by omega) (Nat.le_trans hf (by omega)) hk T X hx
    have hz' : ¬ (0 : Int) < z := hz
    simp [hx, hk3, hv, v0, w64_1, w64_2, w64_3, w64_4, w64_5, hz', N, -Int.not_le, -Int.not_lt, -Nat.not_le, -Nat.not_lt, ty3, ty4, ty9, ty24, ty29, ty50, ty109, ty111, eq24, hm, hl, hr, fi16_eq, fi17_eq, e36_1, e36_3, e36_5, e36_8, e36_13, e36_15, e36_16, e36_14, e36_12, e36_20, e36_22, q36_22, e36_23, e36_21, e36_19, e36_18, e36_24, e36_17, e36_11, e36_9, e36_7, e36_26, e36_27, e36_25, e36_6, e36_4, e36_2, e36_0, n36_10]
set_option maxHeartbeats 8000000 in
theorem L36_1 (l : List Int) (a id : Nat) (ha : a < 549755813888) (st : St) (h : FeedOk st id) (j k : Nat) (f : List Attr) (hj : j + 15 < 549755812000 + 3 * 1) (hf : f.length ≤ 1) (hk : k = 0 ∧ f = [] ∨ k = 6) (T : List (Nat × E)) (X : List (Nat × List V)) (hx : lk X 4 = some [.str [97], .str [98], .str [99], .str [100], .str [108, 111, 110, 103]]) :
    evK gS fi36 c36_10 { ps := [(0, .val (.ptr id 0)), (2, .own 0 []), (3, .own k (encAttrs f)), (4, .lp 4 0), (5, .val (.int .i64 1))], ts := T, lc := X } (setF st id l (nA l a j)) (.blk 0 (.seq c36_25 .nil)) = some (.ret (.slice (encAttrs (f ++ (attrsG l a [([98], 0), ([99], 0), ([100], 1), ([108, 111, 110, 103], 1)] j).1))) none, setF st id l (nA l a (attrsG l a [([98], 0), ([99], 0), ([100], 1), ([108, 111, 110, 103], 1)] j).2)) := by
  have hm : fi36.marks = [1000000] := rfl
  have hl : fi36.locals = [4] := rfl
  have hr : fi36.results = [.tmp 2] := rfl
  refine evK_loop c36_11 _ _ _ _ rfl ?_
  have hb := fd_bound l a j (n := 3) (by omega)
  have hk3 := fun fr => k16 l a j id 3 fr st h ha (by omega) (by omega)
  have hv := fun fr => k17 l a (j + 1) id fr st h ha (by omega)
  have v0 : IntKind.wrap .i64 0 = 0 := by kernel_rfl
  have bo : borOk r36_22 0 3 16 = true := by kernel_rfl
  have bh : handOk r36_22 9 24 = true := by kernel_rfl
  have hr : attrsG l a [([98], 0), ([99], 0), ([100], 1), ([108, 111, 110, 103], 1)] j = if fd l a j 3 > 0 then (⟨[98], valueV l a (j + 1)⟩ :: (attrsG l a [([99], 0), ([100], 1), ([108, 111, 110, 103], 1)] (j + 3)).1, (attrsG l a [([99], 0), ([100], 1), ([108, 111, 110, 103], 1)] (j + 3)).2) else attrsG l a [([99], 0), ([100], 1), ([108, 111, 110, 103], 1)] (j + 1) := rfl
  rw [hr]
  generalize fd l a j 3 = z at *
  by_cases hz : z > 0
  · rw [if_pos hz]
    have N := fun T X hx => L36_2 l a id ha st h (j + 3) 6 (f ++ [⟨[98], valueV l a (j + 1)⟩]) (by omega) (by rw [List.length_append]; exact Nat.add_le_add hf (Nat.le_refl 1)) (.inr rfl) T X hx
    have e1 := attrs_snoc f ⟨[98], valueV l a (j + 1)⟩
    have e2 := sizes_attrs f
    have e3 : (f.length + 1) * 64 ≤ 140737488355328 := by omega
    have e4 : f.length + 1 ≤ 140737488355328 := by omega
    have hz' : (0 : Int) < z := hz
    have a3 : j + 1 + 2 = j + 3 := rfl
    rcases hk with ⟨rfl, rfl⟩ | rfl
    · simp only [List.nil_append, List.cons_append] at N e1
      simp [-List.append_assoc, bo, bh, hx, hk3, hv, v0, w64_1, w64_2, w64_3, w64_4, w64_5, hz', a3, e1, e2, N, -Int.not_le, -Int.not_lt, -Nat.not_le, -Nat.not_lt, ty3, ty4, ty9, ty24, ty29, ty50, ty109, ty111, eq24, hm, hl, hr, fi16_eq, fi17_eq, e36_1, e36_3, e36_5, e36_8, e36_13, e36_15, e36_16, e36_14, e36_12, e36_20, e36_22, q36_22, e36_23, e36_21, e36_19, e36_18, e36_24, e36_17, e36_11, e36_9, e36_7, e36_26, e36_27, e36_25, e36_6, e36_4, e36_2, e36_0, n36_10]
    · rw [show (f ++ (⟨[98], valueV l a (j + 1)⟩ :: (attrsG l a [([99], 0), ([100], 1), ([108, 111, 110, 103], 1)] (j + 3)).1)) = (f ++ [⟨[98], valueV l a (j + 1)⟩]) ++ (attrsG l a [([99], 0), ([100], 1), ([108, 111, 110, 103], 1)] (j + 3)).1 by simp]
      simp only [] at e1
      simp [-List.append_assoc, bo, bh, hx, hk3, hv, v0, w64_1, w64_2, w64_3, w64_4, w64_5, hz', a3, e1, e2, e3, e4, N, -Int.not_le, -Int.not_lt, -Nat.not_le, -Nat.not_lt, ty3, ty4, ty9, ty24, ty29, ty50, ty109, ty111, eq24, hm, hl, hr, fi16_eq, fi17_eq, e36_1, e36_3, e36_5, e36_8, e36_13, e36_15, e36_16, e36_14, e36_12, e36_20, e36_22, q36_22, e36_23, e36_21, e36_19, e36_18, e36_24, e36_17, e36_11, e36_9, e36_7, e36_26, e36_27, e36_25, e36_6, e36_4, e36_2, e36_0, n36_10]
  · rw [if_neg hz]
    have N := fun T X hx => L36_2 l a id ha st h (j + 1) k f (by omega) (Nat.le_trans hf (by omega)) hk T X hx
    have hz' : ¬ (0 : Int) < z := hz
    simp [hx, hk3, hv, v0, w64_1, w64_2, w64_3, w64_4, w64_5, hz', N, -Int.not_le, -Int.not_lt, -Nat.not_le, -Nat.not_lt, ty3, ty4, ty9, ty24, ty29, ty50, ty109, ty111, eq24, hm, hl, hr, fi16_eq, fi17_eq, e36_1, e36_3, e36_5, e36_8, e36_13, e36_15, e36_16, e36_14, e36_12, e36_20, e36_22, q36_22, e36_23, e36_21, e36_19, e36_18, e36_24, e36_17, e36_11, e36_9, e36_7, e36_26, e36_27, e36_25, e36_6, e36_4, e36_2, e36_0, n36_10]
set_option maxHeartbeats 8000000 in
theorem L36_0 (l : List Int) (a id : Nat) (ha : a < 549755813888) (st : St) (h : FeedOk st id) (j k : Nat) (f : List Attr) (hj : j + 15 < 549755812000 + 3 * 0) (hf : f.length ≤ 0) (hk : k = 0 ∧ f = [] ∨ k = 6) (T : List (Nat × E)) (X : List (Nat × List V)) (hx : lk X 4 = some [.str [97], .str [98], .str [99], .str [100], .str [108, 111, 110, 103]]) :
    evK gS fi36 c36_10 { ps := [(0, .val (.ptr id 0)), (2, .own 0 []), (3, .own k (encAttrs f)), (4, .lp 4 0), (5, .val (.int .i64 0))], ts := T, lc := X } (setF st id l (nA l a j)) (.blk 0 (.seq c36_25 .nil)) = some (.ret (.slice (encAttrs (f ++ (attrsG l a [([97], 0), ([98], 0), ([99], 0), ([100], 1), ([108, 111, 110, 103], 1)] j).1))) none, setF st id l (nA l a (attrsG l a [([97], 0), ([98], 0), ([99], 0), ([100], 1), ([108, 111, 110, 103], 1)] j).2)) := by
  have hm : fi36.marks = [1000000] := rfl
  have hl : fi36.locals = [4] := rfl
  have hr : fi36.results = [.tmp 2] := rfl
  refine evK_loop c36_11 _ _ _ _ rfl ?_
  have hb := fd_bound l a j (n := 3) (by omega)
  have hk3 := fun fr => k16 l a j id 3 fr st h ha (by omega) (by omega)
  have hv := fun fr => k17 l a (j + 1) id fr st h ha (by omega)
  have v0 : IntKind.wrap .i64 0 = 0 := by kernel_rfl
  have bo : borOk r36_22 0 3 16 = true := by kernel_rfl
  have bh : handOk r36_22 9 24 = true := by kernel_rfl
  have hr : attrsG l a [([97], 0), ([98], 0), ([99], 0), ([100], 1), ([108, 111, 110, 103], 1)] j = if fd l a j 3 > 0 then (⟨[97], valueV l a (j + 1)⟩ :: (attrsG l a [([98], 0), ([99], 0), ([100], 1), ([108, 111, 110, 103], 1)] (j + 3)).1, (attrsG l a [([98], 0), ([99], 0), ([100], 1), ([108, 111, 110, 103], 1)] (j + 3)).2) else attrsG l a [([98], 0), ([99], 0), ([100], 1), ([108, 111, 110, 103], 1)] (j + 1) := rfl
  rw [hr]
  generalize fd l a j 3 = z at *
  by_cases hz : z > 0
  · rw [if_pos hz]
    have N := fun T X hx => L36_1 l a id ha st h (j + 3) 6 (f ++ [⟨[97], valueV l a (j + 1)⟩]) (by omega) (by rw [List.length_append]; exact Nat.add_le_add hf (Nat.le_refl 1)) (.inr rfl) T X hx
    have e1 := attrs_snoc f ⟨[97], valueV l a (j + 1)⟩
    have e2 := sizes_attrs f
    have e3 : (f.length + 1) * 64 ≤ 140737488355328 := by omega
    have e4 : f.length + 1 ≤ 140737488355328 := by omega
    have hz' : (0 : Int) < z := hz
    have a3 : j + 1 + 2 = j + 3 := rfl
    rcases hk with ⟨rfl, rfl⟩ | rfl
    · simp only [List.nil_append, List.cons_append] at N e1
      simp [-List.append_assoc, bo, bh, hx, hk3, hv, v0, w64_1, w64_2, w64_3, w64_4, w64_5, hz', a3, e1, e2, N, -Int.not_le, -Int.not_lt, -Nat.not_le, -Nat.not_lt, ty3, ty4, ty9, ty24, ty29, ty50, ty109, ty111, eq24, hm, hl, hr, fi16_eq, fi17_eq, e36_1, e36_3, e36_5, e36_8, e36_13, e36_15, e36_16, e36_14, e36_12, e36_20, e36_22, q36_22, e36_23, e36_21, e36_19, e36_18, e36_24, e36_17, e36_11, e36_9, e36_7, e36_26, e36_27, e36_25, e36_6, e36_4, e36_2, e36_0, n36_10]
    · rw [show (f ++ (⟨[97], valueV l a (j + 1)⟩ :: (attrsG l a [([98], 0), ([99], 0), ([100], 1), ([108, 111, 110, 103], 1)] (j + 3)).1)) = (f ++ [⟨[97], valueV l a (j + 1)⟩]) ++ (attrsG l a [([98], 0), ([99], 0), ([100], 1), ([108, 111, 110, 103], 1)] (j + 3)).1 by simp]
      simp only [] at e1
      simp [-List.append_assoc, bo, bh, hx, hk3, hv, v0, w64_1, w64_2, w64_3, w64_4, w64_5, hz', a3, e1, e2, e3, e4, N, -Int.not_le, -Int.not_lt, -Nat.not_le, -Nat.not_lt, ty3, ty4, ty9, ty24, ty29, ty50, ty109, ty111, eq24, hm, hl, hr, fi16_eq, fi17_eq, e36_1, e36_3, e36_5, e36_8, e36_13, e36_15, e36_16, e36_14, e36_12, e36_20, e36_22, q36_22, e36_23, e36_21, e36_19, e36_18, e36_24, e36_17, e36_11, e36_9, e36_7, e36_26, e36_27, e36_25, e36_6, e36_4, e36_2, e36_0, n36_10]
  · rw [if_neg hz]
    have N := fun T X hx => L36_1 l a id ha st h (j + 1) k f (by omega) (Nat.le_trans hf (by omega)) hk T X hx
    have hz' : ¬ (0 : Int) < z := hz
    simp [hx, hk3, hv, v0, w64_1, w64_2, w64_3, w64_4, w64_5, hz', N, -Int.not_le, -Int.not_lt, -Nat.not_le, -Nat.not_lt, ty3, ty4, ty9, ty24, ty29, ty50, ty109, ty111, eq24, hm, hl, hr, fi16_eq, fi17_eq, e36_1, e36_3, e36_5, e36_8, e36_13, e36_15, e36_16, e36_14, e36_12, e36_20, e36_22, q36_22, e36_23, e36_21, e36_19, e36_18, e36_24, e36_17, e36_11, e36_9, e36_7, e36_26, e36_27, e36_25, e36_6, e36_4, e36_2, e36_0, n36_10]
set_option maxHeartbeats 8000000 in
theorem c36 (l : List Int) (a j id : Nat) (st : St) (h : FeedOk st id) (ha : a < 549755813888) (hj : j < 549755811000) :
    EvF gS 36 [.ptr id 0] (setF st id l (nA l a j)) = some (.ret (.slice (encAttrs (attrsV l a j).1)) none, setF st id l (nA l a (attrsV l a j).2)) := by
  refine EvF_start fi36_eq (fun x h => by cases h) m36 ?_
  rw [st36]
  have hm : fi36.marks = [1000000] := rfl
  have hl : fi36.locals = [4] := rfl
  have hr : fi36.results = [.tmp 2] := rfl
  have L0 := fun T X hx => L36_0 l a id ha st h j 0 [] (by omega) (by simp) (.inl ⟨rfl, rfl⟩) T X hx
  rw [List.nil_append] at L0
  rw [show attrsV l a j = attrsG l a [([97], 0), ([98], 0), ([99], 0), ([100], 1), ([108, 111, 110, 103], 1)] j from rfl]
  rw [show encAttrs [] = [] from rfl] at L0
  simp [L0, -Int.not_le, -Int.not_lt, -Nat.not_le, -Nat.not_lt, ty3, ty4, ty9, ty24, ty29, ty50, ty109, ty111, eq24, hm, hl, hr, fi16_eq, fi17_eq, e36_1, e36_3, e36_5, e36_8, e36_13, e36_15, e36_16, e36_14, e36_12, e36_20, e36_22, q36_22, e36_23, e36_21, e36_19, e36_18, e36_24, e36_17, e36_11, e36_9, e36_7, e36_26, e36_27, e36_25, e36_6, e36_4, e36_2, e36_0, n36_10]
theorem k36 (l : List Int) (a j id : Nat)  (fr : Fr) (st : St) (h : FeedOk st id) (ha : a < 549755813888) (hj : j < 549755811000) :
    callStep gS (EvF gS) 36 [.ptr id 0] fr (setF st id l (nA l a j)) = some (.ok (.val (.slice (encAttrs (attrsV l a j).1))) (fr.map E.noMem) (setF st id l (nA l a ((attrsV l a j).2)))) := by
  unfold callStep
  simp only [show gS.ext 36 = none from rfl, fi36_eq, show fi36.pure = false from rfl, Bool.false_eq_true, if_false, c36 l a j id  st h ha (by omega), retE]
  all_goals rfl
end Go.Proofs.Ytclpbfkbpcjejaa
