/- PredAlike: whatever it is given, the call returns true and leaves what was there as it was; no condition. Part 6. -/
import Derived.Test.YtclpbfkbpcjejaaK5
namespace Go.Ab
open Go
set_option linter.unusedVariables false
set_option linter.unusedSimpArgs false
set_option linter.unnecessarySimpa false
theorem pair_fv {a b : Val} {ra rb : Option (Int × Int)} (ha : FV a ra) (hb : FV b rb) : okPair (a, ra) (b, rb) = true :=
  List.all_eq_true.1 (List.all_eq_true.1 pairs_ok _ ha) _ hb
theorem cmp_fv {a b : Val} {ra rb : Option (Int × Int)} (ha : FV a ra) (hb : FV b rb) : cmp a b = rcmp ra rb := by
  have := pair_fv ha hb
  simp only [okPair, Bool.and_eq_true, decide_eq_true_eq] at this
  exact this.1.1.1
theorem same_fv {a b : Val} {ra rb : Option (Int × Int)} (ha : FV a ra) (hb : FV b rb) (h : vsame a b = true) : ra = rb := by
  have := pair_fv ha hb
  simp only [okPair, Bool.and_eq_true, h, Bool.not_true, Bool.false_or, decide_eq_true_eq] at this
  exact this.1.1.2
theorem pre_fv {a b : Val} {ra rb : Option (Int × Int)} (ha : FV a ra) (hb : FV b rb) (h1 : a.kind = 3) (h2 : b.kind = 3) (h : isPre a.s b.s = true) : (cmp a b).1 ≥ 0 := by
  have := pair_fv ha hb
  simp only [okPair, Bool.and_eq_true, h, h1, h2, decide_true, Bool.and_self, Bool.not_true, Bool.false_or, decide_eq_true_eq] at this
  exact this.1.2
theorem vis_s {a b : Val} {ra rb : Option (Int × Int)} (ha : FV a ra) (hb : FV b rb) (h : vis a b = true) : a.s = b.s ∧ (a.kind = 3) = (b.kind = 3) := by
  have := pair_fv ha hb
  simp only [okPair, Bool.and_eq_true, h, Bool.not_true, Bool.false_or, decide_eq_true_eq] at this
  exact this.2
theorem sgn_zero {x y : Int} : sgn (decide (x < y)) (decide (x > y)) = 0 ↔ x = y := by
  unfold sgn
  by_cases h1 : x < y
  · simp [h1]; omega
  · by_cases h2 : x > y
    · simp [h1, h2]; omega
    · simp [h1, h2]; omega
theorem sgn_pos {x y : Int} : sgn (decide (x < y)) (decide (x > y)) > 0 ↔ x > y := by
  unfold sgn
  by_cases h1 : x < y
  · simp [h1]; omega
  · by_cases h2 : x > y
    · simp [h1, h2]
    · simp [h1, h2]
theorem sgn_neg {x y : Int} : sgn (decide (x < y)) (decide (x > y)) < 0 ↔ x < y := by
  unfold sgn
  by_cases h1 : x < y
  · simp [h1]
  · by_cases h2 : x > y
    · simp [h1, h2]
    · simp [h1, h2]
theorem vis_fv {a b : Val} {ra rb : Option (Int × Int)} (ha : FV a ra) (hb : FV b rb) (h : vis a b = true) : ra = rb := by
  unfold vis at h
  rw [cmp_fv ha hb] at h
  cases ra with
  | none => simp [rcmp] at h
  | some r =>
    cases rb with
    | none => simp [rcmp] at h
    | some s =>
      obtain ⟨c, x⟩ := r
      obtain ⟨d, y⟩ := s
      unfold rcmp at h
      by_cases hcd : c = d
      · subst hcd
        simp only [if_true, Bool.true_and, decide_eq_true_eq, sgn_zero] at h
        rw [h]
      · simp [hcd] at h
/-- A test of what a feed yields. -/
structure PFV (p : Pred) : Prop where
  v : ∃ r, FV p.v r
  w : ∃ r, FV p.w r
  set : ∀ x ∈ p.set, ∃ r, FV x r
theorem any_congr {l : List Val} {f g : Val → Bool} (h : ∀ y ∈ l, f y = g y) : l.any f = l.any g := by
  induction l with
  | nil => rfl
  | cons a r ih => rw [List.any_cons, List.any_cons, h a (by simp), ih (fun y hy => h y (by simp [hy]))]
theorem ptakes_congr {p : Pred} {v x : Val} (h1 : cmp v p.v = cmp x p.v) (h2 : cmp v p.w = cmp x p.w) (h3 : ∀ y ∈ p.set, vis v y = vis x y) (hk : (v.kind = 3) = (x.kind = 3)) (hs : v.s = x.s) : ptakes p v = ptakes p x := by
  unfold ptakes
  rw [h1, h2, hs, any_congr h3]
  simp only [hk]
theorem takes_vis {p : Pred} {v x : Val} {rv rx : Option (Int × Int)} (hp : PFV p) (hv : FV v rv) (hx : FV x rx) (h : vis v x = true) : ptakes p v = ptakes p x := by
  have e := vis_fv hv hx h
  subst e
  obtain ⟨hs, hk⟩ := vis_s hv hx h
  obtain ⟨r1, h1⟩ := hp.v
  obtain ⟨r2, h2⟩ := hp.w
  refine ptakes_congr ?_ ?_ ?_ hk hs
  · rw [cmp_fv hv h1, cmp_fv hx h1]
  · rw [cmp_fv hv h2, cmp_fv hx h2]
  · intro y hy
    obtain ⟨r3, h3⟩ := hp.set y hy
    unfold vis
    rw [cmp_fv hv h3, cmp_fv hx h3]
theorem nan_none {x : Val} (h : vnan x = true) (v : Val) : (cmp v x).2 = false := by
  unfold vnan at h
  simp only [Bool.and_eq_true, decide_eq_true_eq, Bool.not_eq_true'] at h
  obtain ⟨h1, h2⟩ := h
  unfold cmp
  by_cases a1 : v.kind = 1
  · simp [a1, h1, icmp, h2]
  · by_cases a2 : v.kind = 2
    · simp [a2, h1, fcmp, h2]
    · simp [a1, a2, h1]
/-- A void test takes nothing. -/
theorem void_none {q : Pred} {v : Val} (hq : PFV q) (hv : ∃ r, FV v r) (h : pvoid q = true) : ptakes q v = false := by
  unfold pvoid at h
  unfold ptakes
  cases hr : pright q with
  | false => rfl
  | true =>
    rw [hr] at h
    simp only [if_true] at h ⊢
    by_cases h2 : q.test = 2 ∨ (4 ≤ q.test ∧ q.test ≤ 7)
    · rw [if_pos h2] at h
      have e := nan_none h v
      rcases h2 with h2 | ⟨h2, h3⟩
      · simp [h2, e]
      · have : q.test = 4 ∨ q.test = 5 ∨ q.test = 6 ∨ q.test = 7 := by omega
        rcases this with t | t | t | t <;> simp [t, e]
    · rw [if_neg h2] at h
      by_cases h8 : q.test = 8
      · rw [if_pos h8] at h
        obtain ⟨r1, h1⟩ := hq.v
        obtain ⟨r2, h2⟩ := hq.w
        obtain ⟨r, hv⟩ := hv
        rw [cmp_fv h1 h2] at h
        rw [cmp_fv hv h1, cmp_fv hv h2]
        simp [h8]
        intro a1 a2 a3
        cases r with
        | none => simp [rcmp] at a1
        | some r =>
          obtain ⟨c, x⟩ := r
          cases r1 with
          | none => simp [rcmp] at a1
          | some r1 =>
            obtain ⟨c1, x1⟩ := r1
            cases r2 with
            | none => simp [rcmp] at a3
            | some r2 =>
              obtain ⟨c2, x2⟩ := r2
              by_cases e1 : c = c1
              · by_cases e2 : c = c2
                · subst e1; subst e2
                  simp only [rcmp, if_true, Bool.not_true, Bool.false_or, decide_eq_true_eq, sgn_pos] at h a2 ⊢
                  have b1 : ¬ sgn (decide (x < x1)) (decide (x > x1)) < 0 := by omega
                  rw [sgn_neg] at b1
                  have b2 : sgn (decide (x < x2)) (decide (x > x2)) > 0 := sgn_pos.2 (by omega)
                  omega
                · simp [rcmp, e2] at a3
              · simp [rcmp, e1] at a1
      · rw [if_neg h8] at h
        by_cases h10 : q.test = 10
        · rw [if_pos h10] at h
          simp [h10]
          intro x hx
          have := nan_none (List.all_eq_true.1 h x hx) v
          unfold vis
          rw [this]; rfl
        · rw [if_neg h10] at h; cases h
/-- Is a value on the right side of an end? -/
def inLow (v : Val) (e : PEnd) : Bool := !e.is || ((cmp v e.v).2 && (decide ((cmp v e.v).1 > 0) || (decide ((cmp v e.v).1 = 0) && !e.op)))
def inHigh (v : Val) (e : PEnd) : Bool := !e.is || ((cmp v e.v).2 && (decide ((cmp v e.v).1 < 0) || (decide ((cmp v e.v).1 = 0) && !e.op)))
theorem takes_ends {r : Pred} (hr : pright r = true) (h1 : 4 ≤ r.test) (h2 : r.test ≤ 8) (v : Val) : ptakes r v = (inLow v (lowE r) && inHigh v (highE r)) := by
  unfold ptakes
  rw [hr]
  have : r.test = 4 ∨ r.test = 5 ∨ r.test = 6 ∨ r.test = 7 ∨ r.test = 8 := by omega
  have t1 := cmp_tri v r.v
  have t2 := cmp_tri v r.w
  rcases this with t | t | t | t | t
  · simp [t, inLow, inHigh, lowE, highE]
  · simp [t, inLow, inHigh, lowE, highE]; rcases t1 with e | e | e <;> simp [e]
  · simp [t, inLow, inHigh, lowE, highE]
  · simp [t, inLow, inHigh, lowE, highE]; rcases t1 with e | e | e <;> simp [e]
  · simp [t, inLow, inHigh, lowE, highE]
    rcases t1 with e | e | e <;> rcases t2 with e' | e' | e' <;> simp [e, e']
theorem low_sound {v : Val} {q p : PEnd} {rv rq rp : Option (Int × Int)} (hv : FV v rv) (hq : FV q.v rq) (hp : FV p.v rp) (hw : within q p 1 = true) (h : inLow v q = true) : inLow v p = true := by
  unfold within at hw
  unfold inLow at h ⊢
  cases hpi : p.is with
  | false => rfl
  | true =>
    rw [hpi] at hw
    cases hqi : q.is with
    | false => rw [hqi] at hw; cases hw
    | true =>
      rw [hqi] at hw h
      simp only [if_true, Bool.not_true, Bool.false_or] at hw h ⊢
      rw [cmp_fv hv hq] at h
      rw [cmp_fv hq hp] at hw
      rw [cmp_fv hv hp]
      cases rv with
      | none => simp [rcmp] at h
      | some rv =>
        cases rq with
        | none => simp [rcmp] at h
        | some rq =>
          cases rp with
          | none => simp [rcmp] at hw
          | some rp =>
            obtain ⟨c, x⟩ := rv
            obtain ⟨d, y⟩ := rq
            obtain ⟨e, z⟩ := rp
            by_cases e1 : c = d
            · by_cases e2 : d = e
              · subst e1; subst e2
                have key : ∀ {a b : Int}, sgn (decide (a < b)) (decide (a > b)) = 1 ↔ a > b := by
                  intro a b
                  have := @sgn_pos a b
                  have b2 := sgn_bound (decide (a < b)) (decide (a > b))
                  omega
                simp only [rcmp, if_true, Bool.true_and, Bool.or_eq_true, Bool.and_eq_true, decide_eq_true_eq, sgn_pos, sgn_zero, key] at h hw ⊢
                rcases h with h | ⟨h, ho⟩
                · rcases hw with hw | ⟨hw, hx⟩
                  · exact Or.inl (by omega)
                  · exact Or.inl (by omega)
                · rcases hw with hw | ⟨hw, hx⟩
                  · exact Or.inl (by omega)
                  · refine Or.inr ⟨by omega, ?_⟩
                    rcases hx with hx | hx
                    · exact hx
                    · rw [hx] at ho; cases ho
              · simp [rcmp, e2] at hw
            · simp [rcmp, e1] at h
theorem high_sound {v : Val} {q p : PEnd} {rv rq rp : Option (Int × Int)} (hv : FV v rv) (hq : FV q.v rq) (hp : FV p.v rp) (hw : within q p (-1) = true) (h : inHigh v q = true) : inHigh v p = true := by
  unfold within at hw
  unfold inHigh at h ⊢
  cases hpi : p.is with
  | false => rfl
  | true =>
    rw [hpi] at hw
    cases hqi : q.is with
    | false => rw [hqi] at hw; cases hw
    | true =>
      rw [hqi] at hw h
      simp only [if_true, Bool.not_true, Bool.false_or] at hw h ⊢
      rw [cmp_fv hv hq] at h
      rw [cmp_fv hq hp] at hw
      rw [cmp_fv hv hp]
      cases rv with
      | none => simp [rcmp] at h
      | some rv =>
        cases rq with
        | none => simp [rcmp] at h
        | some rq =>
          cases rp with
          | none => simp [rcmp] at hw
          | some rp =>
            obtain ⟨c, x⟩ := rv
            obtain ⟨d, y⟩ := rq
            obtain ⟨e, z⟩ := rp
            by_cases e1 : c = d
            · by_cases e2 : d = e
              · subst e1; subst e2
                have key : ∀ {a b : Int}, sgn (decide (a < b)) (decide (a > b)) = -1 ↔ a < b := by
                  intro a b
                  have := @sgn_neg a b
                  have b2 := sgn_bound (decide (a < b)) (decide (a > b))
                  omega
                simp only [rcmp, if_true, Bool.true_and, Bool.or_eq_true, Bool.and_eq_true, decide_eq_true_eq, sgn_neg, sgn_zero, key] at h hw ⊢
                rcases h with h | ⟨h, ho⟩
                · rcases hw with hw | ⟨hw, hx⟩
                  · exact Or.inl (by omega)
                  · exact Or.inl (by omega)
                · rcases hw with hw | ⟨hw, hx⟩
                  · exact Or.inl (by omega)
                  · refine Or.inr ⟨by omega, ?_⟩
                    rcases hx with hx | hx
                    · exact hx
                    · rw [hx] at ho; cases ho
              · simp [rcmp, e2] at hw
            · simp [rcmp, e1] at h
theorem pre_trans {a b c : List UInt8} (h1 : isPre a b = true) (h2 : isPre b c = true) : isPre a c = true := by
  unfold isPre at h1 h2 ⊢
  simp only [Bool.and_eq_true, decide_eq_true_eq] at h1 h2 ⊢
  refine ⟨by omega, ?_⟩
  have := congrArg (List.take c.length) h1.2
  rw [List.take_take, Nat.min_eq_left (by omega), h2.2] at this
  exact this
theorem sames_vis {v : Val} {rv : Option (Int × Int)} (hv : FV v rv) : ∀ {a b : List Val}, (∀ x ∈ a, ∃ r, FV x r) → (∀ x ∈ b, ∃ r, FV x r) → sames a b = true → a.any (vis v) = b.any (vis v)
  | [], [], _, _, _ => rfl
  | x :: a, y :: b, ha, hb, h => by
    simp only [sames, Bool.and_eq_true] at h
    obtain ⟨r1, h1⟩ := ha x (by simp)
    obtain ⟨r2, h2⟩ := hb y (by simp)
    have e := same_fv h1 h2 h.1
    subst e
    rw [List.any_cons, List.any_cons, sames_vis hv (fun z hz => ha z (by simp [hz])) (fun z hz => hb z (by simp [hz])) h.2]
    unfold vis
    rw [cmp_fv hv h1, cmp_fv hv h2]
  | [], _ :: _, _, _, h => by simp [sames] at h
  | _ :: _, [], _, _, h => by simp [sames] at h
/-- What a test takes is taken by each that it implies. -/
theorem sound {q p : Pred} {v : Val} (hq : PFV q) (hp : PFV p) (hv : ∃ r, FV v r) (hi : pimplies q p = true) (ht : ptakes q v = true) : ptakes p v = true := by
  have hv' := hv
  obtain ⟨rv, fv⟩ := hv
  obtain ⟨rq, fq⟩ := hq.v
  obtain ⟨rp, fp⟩ := hp.v
  unfold pimplies at hi
  cases hqr : pright q with
  | false => rw [hqr] at hi; cases hi
  | true =>
    cases hpr : pright p with
    | false => rw [hqr, hpr] at hi; cases hi
    | true =>
      rw [hqr, hpr] at hi
      simp only [Bool.and_self, if_true] at hi
      cases hvd : pvoid q with
      | true => rw [void_none hq hv' hvd] at ht; cases ht
      | false =>
        rw [hvd] at hi
        by_cases p1 : p.test = 1
        · unfold ptakes; rw [hpr]; simp [p1]
        · simp only [p1, decide_false, Bool.false_or, Bool.false_eq_true, if_false] at hi
          split at hi
          · rename_i hs
            simp only [Bool.and_eq_true, decide_eq_true_eq] at hs
            obtain ⟨hte, ⟨s1, s2⟩, s3⟩ := hs
            obtain ⟨rq2, fq2⟩ := hq.w
            obtain ⟨rp2, fp2⟩ := hp.w
            have e1 := same_fv fq fp s1
            have e2 := same_fv fq2 fp2 s2
            subst e1; subst e2
            have hss : q.v.s = p.v.s := by
              unfold vsame at s1; simp only [Bool.and_eq_true, decide_eq_true_eq] at s1; exact s1.1.1.2
            rw [← ht]
            unfold ptakes
            rw [hqr, hpr, hte, cmp_fv fv fq, cmp_fv fv fp, cmp_fv fv fq2, cmp_fv fv fp2, sames_vis fv hq.set hp.set s3, hss]
          · split at hi
            · rename_i p3
              cases hvi : vis v p.v with
              | false =>
                unfold ptakes; rw [hpr]
                unfold vis at hvi
                simp [p3]
                cases hc2 : (cmp v p.v).2 with
                | false => exact .inl rfl
                | true => rw [hc2] at hvi; exact .inr (by simpa using hvi)
              | true =>
                rw [← takes_vis hq fv fp hvi, ht] at hi; cases hi
            · split at hi
              · rename_i q2
                have hvi : vis v q.v = true := by
                  unfold ptakes at ht; rw [hqr] at ht; simp [q2] at ht
                  unfold vis; simp [ht]
                rw [takes_vis hp fv fq hvi]; exact hi
              · split at hi
                · rename_i q10
                  have ha : q.set.any (vis v) = true := by
                    unfold ptakes at ht; rw [hqr] at ht; simpa [q10] using ht
                  obtain ⟨x, hx, hvx⟩ := List.any_eq_true.1 ha
                  have := List.all_eq_true.1 hi x hx
                  obtain ⟨rx, fx⟩ := hq.set x hx
                  rw [takes_vis hp fv fx hvx]
                  cases hn : vnan x with
                  | true =>
                    have := nan_none hn v
                    unfold vis at hvx; rw [this] at hvx; cases hvx
                  | false => rw [hn] at this; simpa using this
                · split at hi
                  · rename_i he
                    rw [ended_key, ended_key] at he
                    simp only [Bool.and_eq_true, decide_eq_true_eq] at he hi
                    rw [takes_ends hqr he.1.1 he.1.2] at ht
                    rw [takes_ends hpr he.2.1 he.2.2]
                    simp only [Bool.and_eq_true] at ht ⊢
                    have lowv : ∀ {r : Pred}, PFV r → ∃ s, FV (lowE r).v s := by
                      intro r hr
                      unfold lowE; repeat' split
                      · exact hr.v
                      · exact hr.v
                      · exact ⟨none, by unfold FV FVR; simp⟩
                    have highv : ∀ {r : Pred}, PFV r → ∃ s, FV (highE r).v s := by
                      intro r hr
                      unfold highE; repeat' split
                      · exact hr.v
                      · exact hr.w
                      · exact ⟨none, by unfold FV FVR; simp⟩
                    obtain ⟨_, l1⟩ := lowv hq
                    obtain ⟨_, l2⟩ := lowv hp
                    obtain ⟨_, l3⟩ := highv hq
                    obtain ⟨_, l4⟩ := highv hp
                    exact ⟨low_sound fv l1 l2 hi.1 ht.1, high_sound fv l3 l4 hi.2 ht.2⟩
                  · split at hi
                    · rename_i q9
                      have h9 : v.kind = 3 ∧ isPre v.s q.v.s = true := by
                        unfold ptakes at ht; rw [hqr] at ht; simpa [q9] using ht
                      have k3 : q.v.kind = 3 := by
                        unfold pright at hqr; simp [q9] at hqr; exact hqr.2.1.1.2
                      split at hi
                      · rename_i p9
                        unfold ptakes; rw [hpr]; simp [p9, h9.1, pre_trans h9.2 hi]
                      · have hge := pre_fv fv fq h9.1 k3 h9.2
                        have there : (cmp v p.v).2 = true → True := fun _ => trivial
                        rw [cmp_fv fv fq] at hge
                        split at hi
                        · rename_i p7
                          rw [cmp_fv fq fp] at hi
                          unfold ptakes; rw [hpr]; simp [p7]
                          rw [cmp_fv fv fp]
                          have k : ∃ c x, rv = some (c, x) ∧ ∃ y, rq = some (c, y) := by
                            have hcv : (cmp v q.v).2 = true := by unfold cmp; simp [h9.1, k3]
                            rw [cmp_fv fv fq] at hcv
                            cases rv with
                            | none => simp [rcmp] at hcv
                            | some a => cases rq with
                              | none => simp [rcmp] at hcv
                              | some b =>
                                by_cases e : a.1 = b.1
                                · exact ⟨a.1, a.2, rfl, b.2, by rw [e]⟩
                                · simp [rcmp, e] at hcv
                          obtain ⟨c, x, rfl, y, rfl⟩ := k
                          cases rp with
                          | none => simp [rcmp] at hi
                          | some b =>
                            obtain ⟨d, z⟩ := b
                            by_cases e : c = d
                            · subst e
                              simp [rcmp] at hi hge ⊢
                              have a1 := @sgn_neg x y
                              have a2 := @sgn_neg y z
                              have a3 := @sgn_neg x z
                              simp only [GT.gt] at a1 a2 a3
                              omega
                            · simp [rcmp, e] at hi
                        · split at hi
                          · rename_i p6
                            rw [cmp_fv fq fp] at hi
                            unfold ptakes; rw [hpr]; simp [p6]
                            rw [cmp_fv fv fp]
                            have k : ∃ c x, rv = some (c, x) ∧ ∃ y, rq = some (c, y) := by
                              have hcv : (cmp v q.v).2 = true := by unfold cmp; simp [h9.1, k3]
                              rw [cmp_fv fv fq] at hcv
                              cases rv with
                              | none => simp [rcmp] at hcv
                              | some a => cases rq with
                                | none => simp [rcmp] at hcv
                                | some b =>
                                  by_cases e : a.1 = b.1
                                  · exact ⟨a.1, a.2, rfl, b.2, by rw [e]⟩
                                  · simp [rcmp, e] at hcv
                            obtain ⟨c, x, rfl, y, rfl⟩ := k
                            cases rp with
                            | none => simp [rcmp] at hi
                            | some b =>
                              obtain ⟨d, z⟩ := b
                              by_cases e : c = d
                              · subst e
                                simp [rcmp] at hi hge ⊢
                                have a1 := @sgn_neg x y
                                have a2 := @sgn_pos y z
                                have a3 := @sgn_pos x z
                                simp only [GT.gt] at a1 a2 a3
                                omega
                              · simp [rcmp, e] at hi
                          · cases hi
                    · cases hi
end Go.Ab
namespace Go.Ab
open Go
set_option linter.unusedVariables false
set_option linter.unusedSimpArgs false
set_option linter.unnecessarySimpa false
/-- A right one of the row. -/
def VR (v : Val) : Prop := vright v = true ∧ ∃ r, FV v r
def allVR : List Val := (FVR.drop 1).map (·.1)
theorem all_right : allVR.all vright = true := by kernel_rfl
theorem vr_mem {v : Val} (h : v ∈ allVR) : VR v := by
  refine ⟨List.all_eq_true.1 all_right v h, ?_⟩
  unfold allVR at h
  obtain ⟨x, hx, rfl⟩ := List.mem_map.1 h
  exact ⟨x.2, List.mem_of_mem_drop hx⟩
def floatsR : List Val := F14.map fun x => ⟨2, 0, x, [], false⟩
def textsR : List Val := T6.map fun s => ⟨3, 0, 0, s, false⟩
def intsR : List Val := N6.map fun n => ⟨1, n, 0, [], false⟩
theorem floats_in : (floatsR.all fun v => allVR.contains v) = true := by kernel_rfl
theorem texts_in : (textsR.all fun v => allVR.contains v) = true := by kernel_rfl
theorem ints_in : (intsR.all fun v => allVR.contains v) = true := by kernel_rfl
theorem smalls_in : ((List.range 5).all fun n => allVR.contains (⟨1, (n : Int), 0, [], false⟩ : Val)) = true := by kernel_rfl
theorem bools_in : ([true, false].all fun b => allVR.contains (⟨4, 0, 0, [], b⟩ : Val)) = true := by kernel_rfl
theorem of_contains {l : List Val} {f : Val} (h : (l.all fun v => allVR.contains v) = true) (hf : f ∈ l) : VR f := by
  have := List.all_eq_true.1 h f hf
  exact vr_mem (by simpa using this)
theorem vr_float (l : List Int) (a j : Nat) : VR ⟨2, 0, floatV l a j, [], false⟩ := by
  have hb := fd_bound l a j (n := 14) (by omega)
  refine of_contains floats_in ?_
  unfold floatsR floatV
  refine List.mem_map.2 ⟨_, ?_, rfl⟩
  have hlt : (fd l a j 14).toNat < F14.length := by show _ < 14; omega
  rw [List.getD_eq_getElem?_getD, List.getElem?_eq_getElem hlt]
  exact List.getElem_mem hlt
theorem vr_text {n : Nat} (h : n < 6) : VR ⟨3, 0, 0, T6.getD n [], false⟩ := by
  refine of_contains texts_in ?_
  unfold textsR
  refine List.mem_map.2 ⟨_, ?_, rfl⟩
  have hlt : n < T6.length := h
  rw [List.getD_eq_getElem?_getD, List.getElem?_eq_getElem hlt]
  exact List.getElem_mem hlt
theorem vr_int {n : Nat} (h : n < 6) : VR ⟨1, N6.getD n 0, 0, [], false⟩ := by
  refine of_contains ints_in ?_
  unfold intsR
  refine List.mem_map.2 ⟨_, ?_, rfl⟩
  have hlt : n < N6.length := h
  rw [List.getD_eq_getElem?_getD, List.getElem?_eq_getElem hlt]
  exact List.getElem_mem hlt
theorem vr_small {n : Int} (h0 : 0 ≤ n) (h : n < 5) : VR ⟨1, n, 0, [], false⟩ := by
  have := List.all_eq_true.1 smalls_in n.toNat (List.mem_range.2 (by omega))
  rw [show ((n.toNat : Nat) : Int) = n by omega] at this
  exact vr_mem (by simpa using this)
theorem vr_bool (b : Bool) : VR ⟨4, 0, 0, [], b⟩ := by
  have := List.all_eq_true.1 bools_in b (by cases b <;> simp)
  exact vr_mem (by simpa using this)
theorem vr_value (l : List Int) (a j : Nat) : VR (valueV l a j) := by
  unfold valueV
  have h8 := fd_bound l a j (n := 8) (by omega)
  have h6 := fd_bound l a (j + 1) (n := 6) (by omega)
  have h5 := fd_bound l a (j + 1) (n := 5) (by omega)
  simp only
  repeat' split
  · exact vr_float _ _ _
  · exact vr_text (by omega)
  · exact vr_bool _
  · exact vr_int (by omega)
  · exact vr_small (by omega) (by omega)
theorem vr_vals (l : List Int) (a : Nat) : ∀ (k j : Nat), ∀ x ∈ valsV l a j k, VR x
  | 0, j, x, h => by simp [valsV] at h
  | k + 1, j, x, h => by
    rcases List.mem_cons.1 h with rfl | h
    · exact vr_value _ _ _
    · exact vr_vals l a k _ x h
theorem vals_length (l : List Int) (a : Nat) : ∀ (k j : Nat), (valsV l a j k).length = k
  | 0, j => rfl
  | k + 1, j => by simp [valsV, vals_length l a k]
theorem P4_in : (P4.all fun s => T6.contains s) = true := by kernel_rfl
theorem vr_P4 {n : Nat} (h : n < 4) : VR ⟨3, 0, 0, P4.getD n [], false⟩ := by
  have hlt : n < P4.length := h
  have h1 : P4.getD n [] ∈ P4 := by rw [List.getD_eq_getElem?_getD, List.getElem?_eq_getElem hlt]; exact List.getElem_mem hlt
  have h2 := List.all_eq_true.1 P4_in _ h1
  refine of_contains texts_in ?_
  unfold textsR
  exact List.mem_map.2 ⟨_, by simpa using h2, rfl⟩
theorem fv_zero : ∃ r, FV vzero r := ⟨none, by unfold FV FVR; simp⟩
/-- What a feed yields as a test. -/
theorem pred_fv (l : List Int) (a j : Nat) (nm : List UInt8) : PFV (predV l a j nm).1 := by
  unfold predV
  have h4 := fd_bound l a (j + 1) (n := 4) (by omega)
  simp only
  repeat' split
  · exact ⟨fv_zero, fv_zero, by simp⟩
  · exact ⟨(vr_P4 (by omega)).2, fv_zero, by simp⟩
  · exact ⟨fv_zero, fv_zero, fun x hx => (vr_vals _ _ _ _ x hx).2⟩
  · exact ⟨(vr_value _ _ _).2, (vr_value _ _ _).2, by simp⟩
  · exact ⟨(vr_value _ _ _).2, fv_zero, by simp⟩
theorem same_zero : vsame vzero vzero = true := by kernel_rfl
theorem pred_right (l : List Int) (a j : Nat) {nm : List UInt8} (hn : isWord nm = true) : pright (predV l a j nm).1 = true := by
  have h10 := fd_bound l a j (n := 10) (by omega)
  have h4 := fd_bound l a (j + 1) (n := 4) (by omega)
  unfold predV
  simp only
  split
  · simp [pright, hn, same_zero]
  · split
    · rename_i h
      have hv := (vr_P4 (n := (fd l a (j + 1) 4).toNat) (by omega)).1
      generalize P4.getD (fd l a (j + 1) 4).toNat [] = s at hv
      simp [pright, hn, same_zero, hv]
    · split
      · have hv := fun x hx => (vr_vals l a ((fd l a (j + 1) 4).toNat + 1) (j + 2) x hx).1
        have hl := vals_length l a ((fd l a (j + 1) 4).toNat + 1) (j + 2)
        generalize valsV l a (j + 2) ((fd l a (j + 1) 4).toNat + 1) = vs at hv hl
        have hc : vs.all vright = true := List.all_eq_true.2 hv
        have h5 : 1 ≤ vs.length ∧ vs.length ≤ 4 := by omega
        unfold pright
        rw [if_pos hn]
        simp [same_zero, hc, h5, hv]
      · split
        · simp [pright, hn, same_zero, (vr_value l a (j + 1)).1, (vr_value l a (j + 3)).1]
        · have e1 : 2 ≤ 1 + fd l a j 10 ∧ 1 + fd l a j 10 ≤ 7 := by omega
          have e2 : ¬ 1 + fd l a j 10 = 1 := by omega
          simp only [pright, hn, if_true, e2, if_false, e1, and_self, same_zero, (vr_value l a (j + 1)).1, List.length_nil, decide_true, Bool.and_self]
theorem pred_asks (l : List Int) (a j : Nat) (nm : List UInt8) : (predV l a j nm).2 ≤ 10 := by
  have h4 := fd_bound l a (j + 1) (n := 4) (by omega)
  unfold predV
  simp only
  repeat' split
  all_goals (simp only; omega)
theorem ok_of_right {p : Pred} (h : pright p = true) : p.ok := by
  unfold pright at h
  split at h
  · rename_i hw
    unfold isWord at hw
    simp only [Bool.and_eq_true, decide_eq_true_eq] at hw
    refine ⟨by omega, ?_⟩
    repeat' split at h
    all_goals first
      | (simp only [Bool.and_eq_true, decide_eq_true_eq] at h; omega)
      | cases h
  · cases h
end Go.Ab
namespace Go.Proofs.Ytclpbfkbpcjejaa
open Go Go.Ab
set_option linter.unusedVariables false
set_option linter.unusedSimpArgs false
set_option linter.unnecessarySimpa false
set_option maxRecDepth 20000
variable (fr : Fr) (st : St) (k : Kt)
theorem k17 (l : List Int) (a j id : Nat)  (fr : Fr) (st : St) (h : FeedOk st id) (ha : a < 549755813888) (hj : j < 549755812000) :
    callStep gS (EvF gS) 17 [.ptr id 0] fr (setF st id l (nA l a j)) = some (.ok (.val ((valueV l a j).enc)) (fr.map E.noMem) (setF st id l (nA l a (j + 2)))) := by
  unfold callStep
  simp only [show gS.ext 17 = none from rfl, fi17_eq, show fi17.pure = false from rfl, Bool.false_eq_true, if_false, c17 l a j id  st h ha (by omega), retE]
  all_goals rfl
noncomputable def fi29 : FI := { body := codeOf Try.f29, ntmps := 52, results := [.cell 4 27], pers := [0, 1, 4, 5, 6, 13], locals := [4, 5], pure := false, marks := [39, 2000011, 1000000] }
theorem fi29_eq : gS.fn 29 = some fi29 := by kernel_rfl
theorem st29 (a0 a1 : V) : startFr fi29 [a0, a1] = { ps := [(0, .val a0), (1, .val a1), (4, .any), (5, .any), (6, .any), (13, .any)], ts := [], lc := [] } := rfl
noncomputable def b29 : Code := mini (codeOf Try.f29)
noncomputable def c29_1 : Code := codeAt b29 [false]
theorem e29_1 : evK gS fi29 c29_1 fr st k = opsK gS fi29 [(some 4)] [mk (some 4) (.alloc 27) 0 none] fr.clear st fr k := evK_reg1 (i := 0) (by kernel_rfl) (by kernel_rfl)
noncomputable def c29_3 : Code := codeAt b29 [true, false]
theorem e29_3 : evK gS fi29 c29_3 fr st k = opsK gS fi29 [(some 7), (some 8), (some 9), (some 10), (some 11), (some 5), none] [mk (some 7) (.move (.tmp 1)) 9 none,
  mk (some 8) (.move (.tmp 0)) 29 none,
  mk (some 9) (.call { callee := (.value (.func 16)), args := #[(.tmp 8), (.const (.int .i64 10))], argTypes := #[29, 3] }) 3 none,
  mk (some 10) (.binOp .add 3 (.const (.int .i64 1)) (.tmp 9) 3) 3 none,
  mk (some 11) (.build 27 #[(0, (.tmp 7)), (1, (.tmp 10))]) 27 none,
  mk (some 5) (.alloc 27) 0 none,
  mk none (.store 27 (.tmp 5) (.tmp 11)) 0 none] fr.clear st fr k := evK_reg1 (i := 1) (by kernel_rfl) (by kernel_rfl)
noncomputable def c29_6 : Code := codeAt b29 [true, true, false, false]
theorem e29_6 : evK gS fi29 c29_6 fr st k = opsK gS fi29 [(some 12), (some 13)] [mk (some 12) (.fieldAddr 27 (.tmp 5) 1) 0 none,
  mk (some 13) (.load 3 (.tmp 12)) 3 none] fr.clear st fr k := evK_reg1 (i := 2) (by kernel_rfl) (by kernel_rfl)
noncomputable def c29_9 : Code := codeAt b29 [true, true, false, true, false, false]
theorem e29_9 : evK gS fi29 c29_9 fr st k = opsK gS fi29 [(some 15), (some 14)] [mk (some 15) (.binOp .eql 3 (.tmp 13) (.const (.int .i64 1)) 3) 4 none,
  mk (some 14) (.assign (.tmp 15)) 4 none] fr.clear st fr k := evK_reg1 (i := 3) (by kernel_rfl) (by kernel_rfl)
noncomputable def c29_12 : Code := codeAt b29 [true, true, false, true, false, true, false, false]
theorem e29_12 : evK gS fi29 c29_12 fr st k = opsK gS fi29 [(some 16), none] [mk (some 16) (.load 27 (.tmp 5)) 27 none,
  mk none (.store 27 (.tmp 4) (.tmp 16)) 0 none] fr.clear st fr k := evK_reg1 (i := 4) (by kernel_rfl) (by kernel_rfl)
noncomputable def c29_13 : Code := .ret
theorem e29_13 : evK gS fi29 c29_13 fr st k = nextK gS fi29 k .ret fr st := rfl
noncomputable def c29_11 : Code := .seq c29_12 c29_13
theorem e29_11 : evK gS fi29 c29_11 fr st k = evK gS fi29 c29_12 fr st (.seq c29_13 k) := rfl
noncomputable def c29_15 : Code := codeAt b29 [true, true, false, true, false, true, true, false]
theorem e29_15 : evK gS fi29 c29_15 fr st k = opsK gS fi29 [(some 18), (some 17)] [mk (some 18) (.binOp .eql 3 (.tmp 13) (.const (.int .i64 9)) 3) 4 none,
  mk (some 17) (.assign (.tmp 18)) 4 none] fr.clear st fr k := evK_reg1 (i := 5) (by kernel_rfl) (by kernel_rfl)
noncomputable def c29_18 : Code := codeAt b29 [true, true, false, true, false, true, true, true, false, false]
theorem e29_18 : evK gS fi29 c29_18 fr st k = opsK gS fi29 [(some 19), (some 20), (some 21), (some 22), (some 23), (some 24), none] [mk (some 19) (.build 107 #[(0, (.const (.string { data := #[] }))), (1, (.const (.string { data := #[97] }))), (2, (.const (.string { data := #[98] }))), (3, (.const (.string { data := #[97, 98] })))]) 107 none,
  mk (some 20) (.move (.tmp 0)) 29 none,
  mk (some 21) (.call { callee := (.value (.func 16)), args := #[(.tmp 20), (.const (.int .i64 4))], argTypes := #[29, 3] }) 3 none,
  mk (some 22) (.index 107 (.tmp 19) (.tmp 21)) 9 none,
  mk (some 23) (.build 24 #[(0, (.const (.int .i64 3))), (3, (.tmp 22))]) 24 none,
  mk (some 24) (.fieldAddr 27 (.tmp 5) 2) 0 none,
  mk none (.store 24 (.tmp 24) (.tmp 23)) 0 none] fr.clear st fr k := evK_reg1 (i := 6) (by kernel_rfl) (by kernel_rfl)
noncomputable def c29_20 : Code := codeAt b29 [true, true, false, true, false, true, true, true, false, true, false]
theorem e29_20 : evK gS fi29 c29_20 fr st k = opsK gS fi29 [(some 25), none] [mk (some 25) (.load 27 (.tmp 5)) 27 none,
  mk none (.store 27 (.tmp 4) (.tmp 25)) 0 none] fr.clear st fr k := evK_reg1 (i := 7) (by kernel_rfl) (by kernel_rfl)
noncomputable def c29_21 : Code := .ret
theorem e29_21 : evK gS fi29 c29_21 fr st k = nextK gS fi29 k .ret fr st := rfl
noncomputable def c29_19 : Code := .seq c29_20 c29_21
theorem e29_19 : evK gS fi29 c29_19 fr st k = evK gS fi29 c29_20 fr st (.seq c29_21 k) := rfl
noncomputable def c29_17 : Code := .seq c29_18 c29_19
theorem e29_17 : evK gS fi29 c29_17 fr st k = evK gS fi29 c29_18 fr st (.seq c29_19 k) := rfl
noncomputable def c29_23 : Code := codeAt b29 [true, true, false, true, false, true, true, true, true, false]
theorem e29_23 : evK gS fi29 c29_23 fr st k = opsK gS fi29 [(some 27), (some 26)] [mk (some 27) (.binOp .eql 3 (.tmp 13) (.const (.int .i64 10)) 3) 4 none,
  mk (some 26) (.assign (.tmp 27)) 4 none] fr.clear st fr k := evK_reg1 (i := 8) (by kernel_rfl) (by kernel_rfl)
noncomputable def c29_27 : Code := codeAt b29 [true, true, false, true, false, true, true, true, true, true, false, false, false]
theorem e29_27 : evK gS fi29 c29_27 fr st k = opsK gS fi29 [(some 28), (some 29), (some 6)] [mk (some 28) (.move (.tmp 0)) 29 none,
  mk (some 29) (.call { callee := (.value (.func 16)), args := #[(.tmp 28), (.const (.int .i64 4))], argTypes := #[29, 3] }) 3 none,
  mk (some 6) (.assign (.tmp 29)) 3 none] fr.clear st fr k := evK_reg1 (i := 9) (by kernel_rfl) (by kernel_rfl)
noncomputable def c29_32 : Code := codeAt b29 [true, true, false, true, false, true, true, true, true, true, false, false, true, false, false, false, false]
theorem e29_32 : evK gS fi29 c29_32 fr st k = opsK gS fi29 [(some 30), (some 31)] [mk (some 30) (.move (.tmp 6)) 3 none,
  mk (some 31) (.binOp .geq 3 (.tmp 30) (.const (.int .i64 0)) 3) 4 none] fr.clear st fr k := evK_reg1 (i := 10) (by kernel_rfl) (by kernel_rfl)
noncomputable def c29_34 : Code := .skip
theorem e29_34 : evK gS fi29 c29_34 fr st k = nextK gS fi29 k .normal fr st := rfl
noncomputable def c29_35 : Code := .exit 1
theorem e29_35 : evK gS fi29 c29_35 fr st k = nextK gS fi29 k (.exit 1) fr st := rfl
noncomputable def c29_33 : Code := .cond (.tmp 31) c29_34 c29_35
theorem e29_33 : evK gS fi29 c29_33 fr st k = condK gS fi29 (fr.op (.tmp 31)).bool? c29_34 c29_35 fr st k := rfl
noncomputable def c29_31 : Code := .seq c29_32 c29_33
theorem e29_31 : evK gS fi29 c29_31 fr st k = evK gS fi29 c29_32 fr st (.seq c29_33 k) := rfl
noncomputable def r29_38 : Array Oper := regOps (codeAt (codeOf Try.f29) [true, true, false, true, false, true, true, true, true, true, false, false, true, false, false, true, false, false])
noncomputable def c29_38 : Code := .region 12 r29_38 true
noncomputable def q29_38 : List (Oper × Fl) := [(mk (some 34) (.fieldAddr 27 (.tmp 5) 4) 0 none, ⟨true, false, false, false, false, false, true, false, false, true, []⟩),
  (mk (some 35) (.load 25 (.tmp 34)) 25 none, ⟨true, false, false, false, false, false, true, false, false, true, []⟩),
  (mk (some 36) (.move (.tmp 0)) 29 none, ⟨true, false, true, false, true, false, true, true, false, false, []⟩),
  (mk (some 37) (.call { callee := (.value (.func 17)), args := #[(.tmp 36)], argTypes := #[29] }) 24 none, ⟨false, true, true, false, true, true, true, true, false, false, []⟩),
  (mk (some 38) (.buildSlice 25 1 #[(0, (.tmp 37))]) 25 none, ⟨true, false, true, false, true, false, true, true, false, false, []⟩),
  (mk (some 39) (.call { callee := (.builtin .append), args := #[(.tmp 35), (.tmp 38)], argTypes := #[25, 25] }) 25 none, ⟨false, true, true, false, true, true, true, true, false, false, []⟩),
  (mk (some 40) (.fieldAddr 27 (.tmp 5) 4) 0 none, ⟨true, true, true, false, true, false, true, true, false, false, []⟩),
  (mk none (.store 25 (.tmp 40) (.tmp 39)) 0 none, ⟨false, true, true, false, true, true, true, true, false, false, []⟩)]
theorem e29_38 : evK gS fi29 c29_38 fr st k = drwK gS fi29 r29_38 [(some 34), (some 35), (some 36), (some 37), (some 38), (some 39), (some 40), none] q29_38 0 fr.clear st fr k := by
  rw [evK_draw (g := gS) (fi := fi29) (c := c29_38) 12 r29_38 q29_38 fr st k rfl (by kernel_rfl) (by kernel_rfl), show r29_38.toList.map (·.dst) = [(some 34), (some 35), (some 36), (some 37), (some 38), (some 39), (some 40), none] from by kernel_rfl]
noncomputable def c29_37 : Code := .block 2 c29_38
theorem e29_37 : evK gS fi29 c29_37 fr st k = evK gS fi29 c29_38 fr st (.blk 2 k) := rfl
noncomputable def c29_39 : Code := codeAt b29 [true, true, false, true, false, true, true, true, true, true, false, false, true, false, false, true, true]
theorem e29_39 : evK gS fi29 c29_39 fr st k = opsK gS fi29 [(some 32), (some 33), (some 6)] [mk (some 32) (.move (.tmp 6)) 3 none,
  mk (some 33) (.binOp .sub 3 (.tmp 32) (.const (.int .i64 1)) 3) 3 none,
  mk (some 6) (.assign (.tmp 33)) 3 none] fr.clear st fr k := evK_reg1 (i := 11) (by kernel_rfl) (by kernel_rfl)
noncomputable def c29_36 : Code := .seq c29_37 c29_39
theorem e29_36 : evK gS fi29 c29_36 fr st k = evK gS fi29 c29_37 fr st (.seq c29_39 k) := rfl
noncomputable def c29_30 : Code := .seq c29_31 c29_36
theorem e29_30 : evK gS fi29 c29_30 fr st k = evK gS fi29 c29_31 fr st (.seq c29_36 k) := rfl
noncomputable def c29_29 : Code := .loop c29_30
noncomputable def c29_28 : Code := .block 1 c29_29
theorem e29_28 : evK gS fi29 c29_28 fr st k = evK gS fi29 c29_29 fr st (.blk 1 k) := rfl
noncomputable def c29_26 : Code := .seq c29_27 c29_28
theorem e29_26 : evK gS fi29 c29_26 fr st k = evK gS fi29 c29_27 fr st (.seq c29_28 k) := rfl
noncomputable def c29_41 : Code := codeAt b29 [true, true, false, true, false, true, true, true, true, true, false, true, false]
theorem e29_41 : evK gS fi29 c29_41 fr st k = opsK gS fi29 [(some 41), none] [mk (some 41) (.load 27 (.tmp 5)) 27 none,
  mk none (.store 27 (.tmp 4) (.tmp 41)) 0 none] fr.clear st fr k := evK_reg1 (i := 13) (by kernel_rfl) (by kernel_rfl)
noncomputable def c29_42 : Code := .ret
theorem e29_42 : evK gS fi29 c29_42 fr st k = nextK gS fi29 k .ret fr st := rfl
noncomputable def c29_40 : Code := .seq c29_41 c29_42
theorem e29_40 : evK gS fi29 c29_40 fr st k = evK gS fi29 c29_41 fr st (.seq c29_42 k) := rfl
noncomputable def c29_25 : Code := .seq c29_26 c29_40
theorem e29_25 : evK gS fi29 c29_25 fr st k = evK gS fi29 c29_26 fr st (.seq c29_40 k) := rfl
noncomputable def c29_43 : Code := .skip
theorem e29_43 : evK gS fi29 c29_43 fr st k = nextK gS fi29 k .normal fr st := rfl
noncomputable def c29_24 : Code := .cond (.tmp 26) c29_25 c29_43
theorem e29_24 : evK gS fi29 c29_24 fr st k = condK gS fi29 (fr.op (.tmp 26)).bool? c29_25 c29_43 fr st k := rfl
noncomputable def c29_22 : Code := .seq c29_23 c29_24
theorem e29_22 : evK gS fi29 c29_22 fr st k = evK gS fi29 c29_23 fr st (.seq c29_24 k) := rfl
noncomputable def c29_16 : Code := .cond (.tmp 17) c29_17 c29_22
theorem e29_16 : evK gS fi29 c29_16 fr st k = condK gS fi29 (fr.op (.tmp 17)).bool? c29_17 c29_22 fr st k := rfl
noncomputable def c29_14 : Code := .seq c29_15 c29_16
theorem e29_14 : evK gS fi29 c29_14 fr st k = evK gS fi29 c29_15 fr st (.seq c29_16 k) := rfl
noncomputable def c29_10 : Code := .cond (.tmp 14) c29_11 c29_14
theorem e29_10 : evK gS fi29 c29_10 fr st k = condK gS fi29 (fr.op (.tmp 14)).bool? c29_11 c29_14 fr st k := rfl
noncomputable def c29_8 : Code := .seq c29_9 c29_10
theorem e29_8 : evK gS fi29 c29_8 fr st k = evK gS fi29 c29_9 fr st (.seq c29_10 k) := rfl
noncomputable def c29_7 : Code := .block 0 c29_8
theorem e29_7 : evK gS fi29 c29_7 fr st k = evK gS fi29 c29_8 fr st (.blk 0 k) := rfl
noncomputable def c29_5 : Code := .seq c29_6 c29_7
theorem e29_5 : evK gS fi29 c29_5 fr st k = evK gS fi29 c29_6 fr st (.seq c29_7 k) := rfl
noncomputable def c29_45 : Code := codeAt b29 [true, true, true, false]
theorem e29_45 : evK gS fi29 c29_45 fr st k = opsK gS fi29 [(some 42), (some 43), (some 44), none] [mk (some 42) (.move (.tmp 0)) 29 none,
  mk (some 43) (.call { callee := (.value (.func 17)), args := #[(.tmp 42)], argTypes := #[29] }) 24 none,
  mk (some 44) (.fieldAddr 27 (.tmp 5) 2) 0 none,
  mk none (.store 24 (.tmp 44) (.tmp 43)) 0 none] fr.clear st fr k := evK_reg1 (i := 14) (by kernel_rfl) (by kernel_rfl)
noncomputable def c29_48 : Code := codeAt b29 [true, true, true, true, false, false]
theorem e29_48 : evK gS fi29 c29_48 fr st k = opsK gS fi29 [(some 45), (some 46), (some 47)] [mk (some 45) (.fieldAddr 27 (.tmp 5) 1) 0 none,
  mk (some 46) (.load 3 (.tmp 45)) 3 none,
  mk (some 47) (.binOp .eql 3 (.tmp 46) (.const (.int .i64 8)) 3) 4 none] fr.clear st fr k := evK_reg1 (i := 15) (by kernel_rfl) (by kernel_rfl)
noncomputable def c29_50 : Code := codeAt b29 [true, true, true, true, false, true, false]
theorem e29_50 : evK gS fi29 c29_50 fr st k = opsK gS fi29 [(some 48), (some 49), (some 50), none] [mk (some 48) (.move (.tmp 0)) 29 none,
  mk (some 49) (.call { callee := (.value (.func 17)), args := #[(.tmp 48)], argTypes := #[29] }) 24 none,
  mk (some 50) (.fieldAddr 27 (.tmp 5) 3) 0 none,
  mk none (.store 24 (.tmp 50) (.tmp 49)) 0 none] fr.clear st fr k := evK_reg1 (i := 16) (by kernel_rfl) (by kernel_rfl)
noncomputable def c29_51 : Code := .skip
theorem e29_51 : evK gS fi29 c29_51 fr st k = nextK gS fi29 k .normal fr st := rfl
noncomputable def c29_49 : Code := .cond (.tmp 47) c29_50 c29_51
theorem e29_49 : evK gS fi29 c29_49 fr st k = condK gS fi29 (fr.op (.tmp 47)).bool? c29_50 c29_51 fr st k := rfl
noncomputable def c29_47 : Code := .seq c29_48 c29_49
theorem e29_47 : evK gS fi29 c29_47 fr st k = evK gS fi29 c29_48 fr st (.seq c29_49 k) := rfl
noncomputable def c29_53 : Code := codeAt b29 [true, true, true, true, true, false]
theorem e29_53 : evK gS fi29 c29_53 fr st k = opsK gS fi29 [(some 51), none] [mk (some 51) (.load 27 (.tmp 5)) 27 none,
  mk none (.store 27 (.tmp 4) (.tmp 51)) 0 none] fr.clear st fr k := evK_reg1 (i := 17) (by kernel_rfl) (by kernel_rfl)
noncomputable def c29_54 : Code := .ret
theorem e29_54 : evK gS fi29 c29_54 fr st k = nextK gS fi29 k .ret fr st := rfl
noncomputable def c29_52 : Code := .seq c29_53 c29_54
theorem e29_52 : evK gS fi29 c29_52 fr st k = evK gS fi29 c29_53 fr st (.seq c29_54 k) := rfl
noncomputable def c29_46 : Code := .seq c29_47 c29_52
theorem e29_46 : evK gS fi29 c29_46 fr st k = evK gS fi29 c29_47 fr st (.seq c29_52 k) := rfl
noncomputable def c29_44 : Code := .seq c29_45 c29_46
theorem e29_44 : evK gS fi29 c29_44 fr st k = evK gS fi29 c29_45 fr st (.seq c29_46 k) := rfl
noncomputable def c29_4 : Code := .seq c29_5 c29_44
theorem e29_4 : evK gS fi29 c29_4 fr st k = evK gS fi29 c29_5 fr st (.seq c29_44 k) := rfl
noncomputable def c29_2 : Code := .seq c29_3 c29_4
theorem e29_2 : evK gS fi29 c29_2 fr st k = evK gS fi29 c29_3 fr st (.seq c29_4 k) := rfl
noncomputable def c29_0 : Code := .seq c29_1 c29_2
theorem e29_0 : evK gS fi29 c29_0 fr st k = evK gS fi29 c29_1 fr st (.seq c29_2 k) := rfl
theorem m29 : mini fi29.body = c29_0 := by kernel_rfl
theorem n29_29 (fr : Fr) (st : St) (k : Kt) : nextK gS fi29 (.loop c29_30 k) .normal fr st = evK gS fi29 c29_29 fr st k := rfl
set_option maxHeartbeats 4000000 in
theorem T29_40 (nm : List UInt8) (l : List Int) (a id m : Nat) (vs : List Val) (hv : vs ≠ []) (st : St) (h : FeedOk st id) (e0 e1 e6 e13 : E) (h0 : e0.Tame) (h1 : e1.Tame) (h6 : e6.Tame) (h13 : e13.Tame) (T : List (Nat × E)) (X : List (Nat × List V)) (hx4 : lk X 4 = some [.str [], .int .i64 0, .int .i64 0, .int .i64 0, .float .f64 0, .str [], .bool false, .int .i64 0, .int .i64 0, .float .f64 0, .str [], .bool false, .osl 0 []]) (hx5 : lk X 5 = some [.str nm, .int .i64 10, .int .i64 0, .int .i64 0, .float .f64 0, .str [], .bool false, .int .i64 0, .int .i64 0, .float .f64 0, .str [], .bool false, .sref false 5 (st.objs.length + m) 0 vs.length]) :
    evK gS fi29 c29_40 { ps := [(0, e0), (1, e1), (4, .lp 4 0), (5, .lp 5 0), (6, e6), (13, e13)], ts := T, lc := X } (setF (nw st m (vs.flatMap Val.cells)) id l a) (.blk 0 (.seq c29_44 .nil)) = some (.ret ((⟨nm, 10, vzero, vzero, vs⟩ : Pred).enc) none, setF (dd st (m + 1)) id l a) := by
  have hm : fi29.marks = [39, 2000011, 1000000] := rfl
  have hl : fi29.locals = [4, 5] := rfl
  have hr : fi29.results = [.cell 4 27] := rfl
  have hz := fun a0 a1 a2 a3 a4 a5 a6 a7 a8 a9 a10 a11 hf => frz_predcells (a0 := a0) (a1 := a1) (a2 := a2) (a3 := a3) (a4 := a4) (a5 := a5) (a6 := a6) (a7 := a7) (a8 := a8) (a9 := a9) (a10 := a10) (a11 := a11) hf (frz_vals h 4 m vs hv l a)
  simp [lk_lset_self _ _ _ _ hx4, hx4, hx5, h0, h1, h6, h13, hz, vzero, -Int.not_le, -Int.not_lt, -Nat.not_le, -Nat.not_lt, ty3, ty4, ty9, ty24, ty25, ty27, ty29, ty107, eq24, hm, hl, hr, fi16_eq, fi17_eq, e29_1, e29_3, e29_6, e29_9, e29_12, e29_13, e29_11, e29_15, e29_18, e29_20, e29_21, e29_19, e29_17, e29_23, e29_27, e29_32, e29_34, e29_35, e29_33, e29_31, e29_38, q29_38, e29_37, e29_39, e29_36, e29_30, e29_28, e29_26, e29_41, e29_42, e29_40, e29_25, e29_43, e29_24, e29_22, e29_16, e29_14, e29_10, e29_8, e29_7, e29_5, e29_45, e29_48, e29_50, e29_51, e29_49, e29_47, e29_53, e29_54, e29_52, e29_46, e29_44, e29_4, e29_2, e29_0, n29_29]
set_option maxHeartbeats 8000000 in
theorem L29 (nm : List UInt8) (l : List Int) (a id : Nat) (ha : a < 549755813888) (st : St) (h : FeedOk st id) (e1 e13 : E) (h1 : e1.Tame) (h13 : e13.Tame) : ∀ (r j m : Nat) (vs : List Val) (T : List (Nat × E)) (X : List (Nat × List V)), j + 2 * r < 549755812000 → vs.length = m + 1 → vs.length + r < 1000 → lk X 4 = some [.str [], .int .i64 0, .int .i64 0, .int .i64 0, .float .f64 0, .str [], .bool false, .int .i64 0, .int .i64 0, .float .f64 0, .str [], .bool false, .osl 0 []] → lk X 5 = some [.str nm, .int .i64 10, .int .i64 0, .int .i64 0, .float .f64 0, .str [], .bool false, .int .i64 0, .int .i64 0, .float .f64 0, .str [], .bool false, .sref false 5 (st.objs.length + m) 0 (m + 1)] →
    evK gS fi29 c29_29 { ps := [(0, .val (.ptr id 0)), (1, e1), (4, .lp 4 0), (5, .lp 5 0), (6, .val (.int .i64 ((r : Int) - 1))), (13, e13)], ts := T, lc := X } (setF (nw st m (vs.flatMap Val.cells)) id l (nA l a j)) (.blk 1 (.seq c29_40 (.blk 0 (.seq c29_44 .nil)))) = some (.ret ((⟨nm, 10, vzero, vzero, vs ++ valsV l a j r⟩ : Pred).enc) none, setF (dd st (m + 1 + r)) id l (nA l a (j + 2 * r))) := by
  intro r
  have hm : fi29.marks = [39, 2000011, 1000000] := rfl
  have hl : fi29.locals = [4, 5] := rfl
  have hr : fi29.results = [.cell 4 27] := rfl
  induction r with
  | zero =>
    intro j m vs T X hj hlen hlt hx4 hx5
    refine evK_loop c29_30 _ _ _ _ rfl ?_
    have ht := fun T => T29_40 nm l (nA l a j) id m vs (by intro e; rw [e] at hlen; simp at hlen) st h (.val (.ptr id 0)) e1 (.val (.int .i64 (-1))) e13 rfl h1 rfl h13 T X hx4 (by rw [hx5, hlen])
    simp [h1, h13, ht, valsV, -Int.not_le, -Int.not_lt, -Nat.not_le, -Nat.not_lt, ty3, ty4, ty9, ty24, ty25, ty27, ty29, ty107, eq24, hm, hl, hr, fi16_eq, fi17_eq, e29_1, e29_3, e29_6, e29_9, e29_12, e29_13, e29_11, e29_15, e29_18, e29_20, e29_21, e29_19, e29_17, e29_23, e29_27, e29_32, e29_34, e29_35, e29_33, e29_31, e29_38, q29_38, e29_37, e29_39, e29_36, e29_30, e29_28, e29_26, e29_41, e29_42, e29_25, e29_43, e29_24, e29_22, e29_16, e29_14, e29_10, e29_8, e29_7, e29_5, e29_45, e29_48, e29_50, e29_51, e29_49, e29_47, e29_53, e29_54, e29_52, e29_46, e29_44, e29_4, e29_2, e29_0, n29_29]
  | succ r ih =>
    intro j m vs T X hj hlen hlt hx4 hx5
    refine evK_loop c29_30 _ _ _ _ rfl ?_
    have hv := fun fr => k17 l a j id fr (nw st m (vs.flatMap Val.cells)) (h.nw m _) ha (by omega)
    have e1' : ((r + 1 : Nat) : Int) - 1 = (r : Int) := by omega
    have e2 : (0 : Int) ≤ (r : Int) := by omega
    have e3 : IntKind.wrap .i64 ((r : Int) - 1) = (r : Int) - 1 := wrap64 (by omega) (by omega)
    have e4 := vals_cells_len vs
    have e5 := vals_cells_strip vs
    have e6 := vals_cells_one vs
    have e7 : ∀ v : Val, vs.flatMap Val.cells ++ [.int .i64 v.kind, .int .i64 v.n, .float .f64 v.x, .str v.s, .bool v.b] = (vs ++ [v]).flatMap Val.cells := by intro v; simp [Val.cells]
    have IH := fun T X h4 h5 => ih (j + 2) (m + 1) (vs ++ [valueV l a j]) T X (by omega) (by simp [hlen]) (by simp; omega) h4 h5
    have r1 := obj_gr h m (vs.flatMap Val.cells) l (nA l a (j + 2))
    have r2 := set_gr h m (vs.flatMap Val.cells) l (nA l a (j + 2))
    have r3 := fun fr k len cs => newRef_dd h fr (m + 1) k len cs l (nA l a (j + 2))
    have e8 : (m + 1 + 1) * 48 ≤ 140737488355328 := by omega
    have e9 : (m + 1 + 1) ≤ 140737488355328 := by omega
    rw [hlen] at e4
    rw [e1']
    rw [show valsV l a j (r + 1) = valueV l a j :: valsV l a (j + 2) r from rfl, show m + 1 + (r + 1) = m + 1 + 1 + r by omega, show j + 2 * (r + 1) = j + 2 + 2 * r by omega, List.append_cons vs]
    simp [-List.append_assoc, -List.flatMap_append, -St.obj, -St.set, h1, h13, hx4, hx5, hv, e2, e3, e4, e5, e6, e7, e8, e9, r1, r2, r3, markStep, markAppend, elemsAt, lk_lset_self _ _ _ _ hx5, -Int.not_le, -Int.not_lt, -Nat.not_le, -Nat.not_lt, ty3, ty4, ty9, ty24, ty25, ty27, ty29, ty107, eq24, hm, hl, hr, fi16_eq, fi17_eq, e29_1, e29_3, e29_6, e29_9, e29_12, e29_13, e29_11, e29_15, e29_18, e29_20, e29_21, e29_19, e29_17, e29_23, e29_27, e29_32, e29_34, e29_35, e29_33, e29_31, e29_38, q29_38, e29_37, e29_39, e29_36, e29_30, e29_28, e29_26, e29_41, e29_42, e29_25, e29_43, e29_24, e29_22, e29_16, e29_14, e29_10, e29_8, e29_7, e29_5, e29_45, e29_48, e29_50, e29_51, e29_49, e29_47, e29_53, e29_54, e29_52, e29_46, e29_44, e29_4, e29_2, e29_0, n29_29]
    exact IH _ _ (by simp [hx4]) (lk_lset_self _ _ _ _ hx5)
set_option maxHeartbeats 8000000 in
theorem c29 (l : List Int) (a j id : Nat) (nm : List UInt8) (st : St) (h : FeedOk st id) (ha : a < 549755813888) (hj : j < 549755811000) :
    EvF gS 29 [.ptr id 0, .str nm] (setF st id l (nA l a j)) = some (.ret (predV l a j nm).1.enc none, setF (dd st (predV l a j nm).1.set.length) id l (nA l a (j + (predV l a j nm).2))) := by
  refine EvF_start fi29_eq (fun x h => by cases h) m29 ?_
  rw [st29]
  have hm : fi29.marks = [39, 2000011, 1000000] := rfl
  have hl : fi29.locals = [4, 5] := rfl
  have hr : fi29.results = [.cell 4 27] := rfl
  have hb := fd_bound l a j (n := 10) (by omega)
  have hb4 := fd_bound l a (j + 1) (n := 4) (by omega)
  unfold predV
  have hk := fun fr => k16 l a j id 10 fr st h ha (by omega) (by omega)
  have hk4 := fun fr => k16 l a (j + 1) id 4 fr st h ha (by omega) (by omega)
  have hv1 := fun fr => k17 l a (j + 1) id fr st h ha (by omega)
  have hv3 := fun fr => k17 l a (j + 3) id fr st h ha (by omega)
  generalize fd l a j 10 = z at *
  generalize fd l a (j + 1) 4 = y at *
  have hz : z = 0 ∨ z = 1 ∨ z = 2 ∨ z = 3 ∨ z = 4 ∨ z = 5 ∨ z = 6 ∨ z = 7 ∨ z = 8 ∨ z = 9 := by omega
  have hy : y = 0 ∨ y = 1 ∨ y = 2 ∨ y = 3 := by omega
  have d0 := dd_zero st
  have a2 : j + 1 + 1 = j + 2 := rfl
  have a5 : j + 3 + 2 = j + 5 := rfl
  have a3 : j + 1 + 2 = j + 3 := by omega
  have hz2 := fun st a0 a1 a2 a3 a4 a5 a6 a7 a8 a9 a10 a11 hf => frz_predcells (a0 := a0) (a1 := a1) (a2 := a2) (a3 := a3) (a4 := a4) (a5 := a5) (a6 := a6) (a7 := a7) (a8 := a8) (a9 := a9) (a10 := a10) (a11 := a11) hf (frz_nil 4 st)
  have en : encVals [] = [] := rfl
  rcases hz with rfl | rfl | rfl | rfl | rfl | rfl | rfl | rfl | rfl | rfl
  case inr.inr.inr.inr.inr.inr.inr.inr.inl => rcases hy with rfl | rfl | rfl | rfl <;> simp [P4, vzero, d0, en, a2, a3, a5, hz2, w64_1, w64_2, w64_3, w64_4, w64_5, w64_6, w64_7, w64_8, w64_9, w64_10, hk, hk4, hv1, hv3, -Int.not_le, -Int.not_lt, -Nat.not_le, -Nat.not_lt, ty3, ty4, ty9, ty24, ty25, ty27, ty29, ty107, eq24, hm, hl, hr, fi16_eq, fi17_eq, e29_1, e29_3, e29_6, e29_9, e29_12, e29_13, e29_11, e29_15, e29_18, e29_20, e29_21, e29_19, e29_17, e29_23, e29_27, e29_32, e29_34, e29_35, e29_33, e29_31, e29_38, q29_38, e29_37, e29_39, e29_36, e29_30, e29_28, e29_26, e29_41, e29_42, e29_25, e29_43, e29_24, e29_22, e29_16, e29_14, e29_10, e29_8, e29_7, e29_5, e29_45, e29_48, e29_50, e29_51, e29_49, e29_47, e29_53, e29_54, e29_52, e29_46, e29_44, e29_4, e29_2, e29_0, n29_29]
  case inr.inr.inr.inr.inr.inr.inr.inr.inr =>
    have hv2 := fun fr => k17 l a (j + 2) id fr st h ha (by omega)
    have e2 : (0 : Int) ≤ y := by omega
    have e3 : IntKind.wrap .i64 (y - 1) = y - 1 := wrap64 (by omega) (by omega)
    have r3 := fun fr k len cs => newRef_setF h fr k len cs l (nA l a (j + 2 + 2))
    simp [-St.obj, -St.set, a2, w64_1, w64_2, w64_3, w64_4, w64_5, w64_6, w64_7, w64_8, w64_9, w64_10, hk, hk4, hv1, hv3, -Int.not_le, -Int.not_lt, -Nat.not_le, -Nat.not_lt, ty3, ty4, ty9, ty24, ty25, ty27, ty29, ty107, eq24, hm, hl, hr, fi16_eq, fi17_eq, e29_1, e29_3, e29_6, e29_9, e29_12, e29_13, e29_11, e29_15, e29_18, e29_20, e29_21, e29_19, e29_17, e29_23, e29_27, e29_32, e29_34, e29_35, e29_33, e29_31, e29_38, q29_38, e29_37, e29_39, e29_36, e29_30, e29_28, e29_26, e29_41, e29_42, e29_25, e29_43, e29_24, e29_22, e29_16, e29_14, e29_10, e29_8, e29_7, e29_5, e29_45, e29_48, e29_50, e29_51, e29_49, e29_47, e29_53, e29_54, e29_52, e29_46, e29_44, e29_4, e29_2, e29_0, n29_29]
    refine evK_loop c29_30 _ _ _ _ rfl ?_
    simp [-St.obj, -St.set, e2, e3, hv2, r3, markStep, markAppend, elemsAt, -Int.not_le, -Int.not_lt, -Nat.not_le, -Nat.not_lt, ty3, ty4, ty9, ty24, ty25, ty27, ty29, ty107, eq24, hm, hl, hr, fi16_eq, fi17_eq, e29_1, e29_3, e29_6, e29_9, e29_12, e29_13, e29_11, e29_15, e29_18, e29_20, e29_21, e29_19, e29_17, e29_23, e29_27, e29_32, e29_34, e29_35, e29_33, e29_31, e29_38, q29_38, e29_37, e29_39, e29_36, e29_30, e29_28, e29_26, e29_41, e29_42, e29_25, e29_43, e29_24, e29_22, e29_16, e29_14, e29_10, e29_8, e29_7, e29_5, e29_45, e29_48, e29_50, e29_51, e29_49, e29_47, e29_53, e29_54, e29_52, e29_46, e29_44, e29_4, e29_2, e29_0, n29_29]
    have hf := fun T X => L29 nm l a id ha st h (.val (.str nm)) (.val (.int .i64 10)) rfl rfl y.toNat (j + 2 + 2) 0 [valueV l a (j + 2)] T X (by omega) rfl (by simp; omega)
    have ey : ((y.toNat : Nat) : Int) = y := by omega
    rw [ey] at hf
    refine Eq.trans (hf _ _ ?_ ?_) ?_
    · simp
    · simp
    · have hl := vals_length l a (y.toNat + 1) (j + 2)
      have hc : [valueV l a (j + 2)] ++ valsV l a (j + 2 + 2) y.toNat = valsV l a (j + 2) (y.toNat + 1) := rfl
      rw [hc, hl]
      rw [show 0 + 1 + y.toNat = y.toNat + 1 by omega, show j + 2 + 2 + 2 * y.toNat = j + (2 + 2 * (y.toNat + 1)) by omega]
      rfl
  all_goals simp [vzero, d0, en, a2, a3, a5, hz2, w64_1, w64_2, w64_3, w64_4, w64_5, w64_6, w64_7, w64_8, w64_9, w64_10, hk, hk4, hv1, hv3, -Int.not_le, -Int.not_lt, -Nat.not_le, -Nat.not_lt, ty3, ty4, ty9, ty24, ty25, ty27, ty29, ty107, eq24, hm, hl, hr, fi16_eq, fi17_eq, e29_1, e29_3, e29_6, e29_9, e29_12, e29_13, e29_11, e29_15, e29_18, e29_20, e29_21, e29_19, e29_17, e29_23, e29_27, e29_32, e29_34, e29_35, e29_33, e29_31, e29_38, q29_38, e29_37, e29_39, e29_36, e29_30, e29_28, e29_26, e29_41, e29_42, e29_25, e29_43, e29_24, e29_22, e29_16, e29_14, e29_10, e29_8, e29_7, e29_5, e29_45, e29_48, e29_50, e29_51, e29_49, e29_47, e29_53, e29_54, e29_52, e29_46, e29_44, e29_4, e29_2, e29_0, n29_29]
theorem k29 (l : List Int) (a j id : Nat) (nm : List UInt8) (fr : Fr) (st : St) (h : FeedOk st id) (ha : a < 549755813888) (hj : j < 549755811000) :
    callStep gS (EvF gS) 29 [.ptr id 0, .str nm] fr (setF st id l (nA l a j)) = some (.ok (.val ((predV l a j nm).1.enc)) (fr.map E.noMem) (setF (dd st ((predV l a j nm).1.set.length)) id l (nA l a (j + (predV l a j nm).2)))) := by
  unfold callStep
  simp only [show gS.ext 29 = none from rfl, fi29_eq, show fi29.pure = false from rfl, Bool.false_eq_true, if_false, c29 l a j id nm st h ha (by omega), retE]
  all_goals rfl
end Go.Proofs.Ytclpbfkbpcjejaa
namespace Go.Proofs.Ytclpbfkbpcjejaa
open Go Go.Ab
set_option linter.unusedVariables false
set_option linter.unusedSimpArgs false
set_option linter.unnecessarySimpa false
set_option maxRecDepth 20000
variable (fr : Fr) (st : St) (k : Kt)
noncomputable def fi18 : FI := { body := codeOf Try.f18, ntmps := 2, results := [.tmp 0], pers := [0], locals := [], pure := true, marks := [] }
theorem fi18_eq : gS.fn 18 = some fi18 := by kernel_rfl
theorem x18 : gS.ext 18 = none := rfl
theorem p18 : fi18.pure = true := rfl
theorem k18 (fr : Fr) (st : St) : callStep gS (EvF gS) 18 [] fr st = some (.ok (.val (.bool true)) fr st) := by
  have hc : EvF gS 18 [] ⟨[], 0⟩ = some (.ret (.bool true) none, ⟨[], 0⟩) := Evn.lim ⟨400, fun n hn => by
    obtain ⟨m, rfl⟩ : ∃ m, n = m + 400 := ⟨n - 400, by omega⟩
    kernel_rfl⟩
  obtain ⟨fi, hf, hp⟩ : ∃ fi, gS.fn 18 = some fi ∧ fi.pure = true := by
    refine ⟨(gS.fn 18).getD ⟨.skip, 0, [], [], [], false, []⟩, by kernel_rfl, by kernel_rfl⟩
  unfold callStep
  simp only [show gS.ext 18 = none from rfl, hf, hp, if_true, show flats [] = true from by simp, hc, show V.flat (.bool true) = true from rfl]
  rfl
noncomputable def fi5 : FI := { body := codeOf Try.f5, ntmps := 72, results := [.tmp 4], pers := [0, 1, 4, 5, 6, 7, 8, 9, 10, 11, 12], locals := [6, 7, 12], pure := false, marks := [] }
theorem fi5_eq : gS.fn 5 = some fi5 := by kernel_rfl
theorem st5 (a0 a1 : V) : startFr fi5 [a0, a1] = { ps := [(0, .val a0), (1, .val a1), (4, .any), (5, .any), (6, .any), (7, .any), (8, .any), (9, .any), (10, .any), (11, .any), (12, .any)], ts := [], lc := [] } := rfl
noncomputable def b5 : Code := mini (codeOf Try.f5)
noncomputable def c5_1 : Code := codeAt b5 [false]
theorem e5_1 : evK gS fi5 c5_1 fr st k = opsK gS fi5 [(some 4)] [mk (some 4) (.assign (.const (.bool false))) 4 none] fr.clear st fr k := evK_reg1 (i := 0) (by kernel_rfl) (by kernel_rfl)
noncomputable def c5_3 : Code := codeAt b5 [true, false]
theorem e5_3 : evK gS fi5 c5_3 fr st k = opsK gS fi5 [(some 13), (some 14), (some 15), (some 5)] [mk (some 13) (.move (.tmp 0)) 28 none,
  mk (some 14) (.build 31 #[(0, (.tmp 13))]) 31 none,
  mk (some 15) (.box 31 (.tmp 14)) 29 none,
  mk (some 5) (.assign (.tmp 15)) 29 none] fr.clear st fr k := evK_reg1 (i := 1) (by kernel_rfl) (by kernel_rfl)
noncomputable def c5_5 : Code := codeAt b5 [true, true, false]
theorem e5_5 : evK gS fi5 c5_5 fr st k = opsK gS fi5 [(some 16), (some 17), (some 6), none] [mk (some 16) (.move (.tmp 5)) 29 none,
  mk (some 17) (.call { callee := (.value (.func 29)), args := #[(.tmp 16), (.const (.string { data := #[97] }))], argTypes := #[29, 9] }) 27 none,
  mk (some 6) (.alloc 27) 0 none,
  mk none (.store 27 (.tmp 6) (.tmp 17)) 0 none] fr.clear st fr k := evK_reg1 (i := 2) (by kernel_rfl) (by kernel_rfl)
noncomputable def c5_7 : Code := codeAt b5 [true, true, true, false]
theorem e5_7 : evK gS fi5 c5_7 fr st k = opsK gS fi5 [(some 18), (some 19), (some 7), none] [mk (some 18) (.move (.tmp 5)) 29 none,
  mk (some 19) (.call { callee := (.value (.func 29)), args := #[(.tmp 18), (.const (.string { data := #[97] }))], argTypes := #[29, 9] }) 27 none,
  mk (some 7) (.alloc 27) 0 none,
  mk none (.store 27 (.tmp 7) (.tmp 19)) 0 none] fr.clear st fr k := evK_reg1 (i := 3) (by kernel_rfl) (by kernel_rfl)
noncomputable def c5_10 : Code := codeAt b5 [true, true, true, true, false, false]
theorem e5_10 : evK gS fi5 c5_10 fr st k = opsK gS fi5 [(some 20), (some 21), (some 22)] [mk (some 20) (.move (.tmp 5)) 29 none,
  mk (some 21) (.call { callee := (.value (.func 16)), args := #[(.tmp 20), (.const (.int .i64 3))], argTypes := #[29, 3] }) 3 none,
  mk (some 22) (.binOp .eql 3 (.tmp 21) (.const (.int .i64 0)) 3) 4 none] fr.clear st fr k := evK_reg1 (i := 4) (by kernel_rfl) (by kernel_rfl)
noncomputable def c5_12 : Code := codeAt b5 [true, true, true, true, false, true, false]
theorem e5_12 : evK gS fi5 c5_12 fr st k = opsK gS fi5 [(some 23), (some 24), (some 25), none] [mk (some 23) (.fieldAddr 27 (.tmp 6) 2) 0 none,
  mk (some 24) (.load 24 (.tmp 23)) 24 none,
  mk (some 25) (.fieldAddr 27 (.tmp 7) 2) 0 none,
  mk none (.store 24 (.tmp 25) (.tmp 24)) 0 none] fr.clear st fr k := evK_reg1 (i := 5) (by kernel_rfl) (by kernel_rfl)
noncomputable def c5_13 : Code := .skip
theorem e5_13 : evK gS fi5 c5_13 fr st k = nextK gS fi5 k .normal fr st := rfl
noncomputable def c5_11 : Code := .cond (.tmp 22) c5_12 c5_13
theorem e5_11 : evK gS fi5 c5_11 fr st k = condK gS fi5 (fr.op (.tmp 22)).bool? c5_12 c5_13 fr st k := rfl
noncomputable def c5_9 : Code := .seq c5_10 c5_11
theorem e5_9 : evK gS fi5 c5_9 fr st k = evK gS fi5 c5_10 fr st (.seq c5_11 k) := rfl
noncomputable def c5_15 : Code := codeAt b5 [true, true, true, true, true, false]
theorem e5_15 : evK gS fi5 c5_15 fr st k = opsK gS fi5 [(some 26), (some 27), (some 28), (some 8)] [mk (some 26) (.move (.tmp 1)) 28 none,
  mk (some 27) (.build 31 #[(0, (.tmp 26))]) 31 none,
  mk (some 28) (.box 31 (.tmp 27)) 29 none,
  mk (some 8) (.assign (.tmp 28)) 29 none] fr.clear st fr k := evK_reg1 (i := 6) (by kernel_rfl) (by kernel_rfl)
noncomputable def c5_17 : Code := codeAt b5 [true, true, true, true, true, true, false]
theorem e5_17 : evK gS fi5 c5_17 fr st k = opsK gS fi5 [(some 29), (some 30), (some 31), (some 9)] [mk (some 29) (.load 27 (.tmp 6)) 27 none,
  mk (some 30) (.load 27 (.tmp 7)) 27 none,
  mk (some 31) (.call { callee := (.value (.func 27)), args := #[(.tmp 29), (.tmp 30)], argTypes := #[27, 27] }) 4 none,
  mk (some 9) (.assign (.tmp 31)) 4 none] fr.clear st fr k := evK_reg1 (i := 7) (by kernel_rfl) (by kernel_rfl)
noncomputable def c5_19 : Code := codeAt b5 [true, true, true, true, true, true, true, false]
theorem e5_19 : evK gS fi5 c5_19 fr st k = opsK gS fi5 [(some 32), (some 33), (some 10)] [mk (some 32) (.load 27 (.tmp 6)) 27 none,
  mk (some 33) (.call { callee := (.value (.func 23)), args := #[(.tmp 32)], argTypes := #[27] }) 4 none,
  mk (some 10) (.assign (.tmp 33)) 4 none] fr.clear st fr k := evK_reg1 (i := 8) (by kernel_rfl) (by kernel_rfl)
noncomputable def c5_22 : Code := codeAt b5 [true, true, true, true, true, true, true, true, false, false]
theorem e5_22 : evK gS fi5 c5_22 fr st k = opsK gS fi5 [(some 11)] [mk (some 11) (.assign (.const (.int .i64 0))) 3 none] fr.clear st fr k := evK_reg1 (i := 9) (by kernel_rfl) (by kernel_rfl)
noncomputable def c5_27 : Code := codeAt b5 [true, true, true, true, true, true, true, true, false, true, false, false, false, false]
theorem e5_27 : evK gS fi5 c5_27 fr st k = opsK gS fi5 [(some 34), (some 35)] [mk (some 34) (.move (.tmp 11)) 3 none,
  mk (some 35) (.binOp .lss 3 (.tmp 34) (.const (.int .i64 12)) 3) 4 none] fr.clear st fr k := evK_reg1 (i := 10) (by kernel_rfl) (by kernel_rfl)
noncomputable def c5_29 : Code := .skip
theorem e5_29 : evK gS fi5 c5_29 fr st k = nextK gS fi5 k .normal fr st := rfl
noncomputable def c5_30 : Code := .exit 0
theorem e5_30 : evK gS fi5 c5_30 fr st k = nextK gS fi5 k (.exit 0) fr st := rfl
noncomputable def c5_28 : Code := .cond (.tmp 35) c5_29 c5_30
theorem e5_28 : evK gS fi5 c5_28 fr st k = condK gS fi5 (fr.op (.tmp 35)).bool? c5_29 c5_30 fr st k := rfl
noncomputable def c5_26 : Code := .seq c5_27 c5_28
theorem e5_26 : evK gS fi5 c5_26 fr st k = evK gS fi5 c5_27 fr st (.seq c5_28 k) := rfl
noncomputable def c5_34 : Code := codeAt b5 [true, true, true, true, true, true, true, true, false, true, false, false, true, false, false, false]
theorem e5_34 : evK gS fi5 c5_34 fr st k = opsK gS fi5 [(some 38), (some 39), (some 12), none] [mk (some 38) (.move (.tmp 8)) 29 none,
  mk (some 39) (.call { callee := (.value (.func 17)), args := #[(.tmp 38)], argTypes := #[29] }) 24 none,
  mk (some 12) (.alloc 24) 0 none,
  mk none (.store 24 (.tmp 12) (.tmp 39)) 0 none] fr.clear st fr k := evK_reg1 (i := 12) (by kernel_rfl) (by kernel_rfl)
noncomputable def c5_37 : Code := codeAt b5 [true, true, true, true, true, true, true, true, false, true, false, false, true, false, false, true, false, false]
theorem e5_37 : evK gS fi5 c5_37 fr st k = opsK gS fi5 [(some 40), (some 41)] [mk (some 40) (.move (.tmp 11)) 3 none,
  mk (some 41) (.binOp .eql 3 (.tmp 40) (.const (.int .i64 0)) 3) 4 none] fr.clear st fr k := evK_reg1 (i := 13) (by kernel_rfl) (by kernel_rfl)
noncomputable def c5_39 : Code := codeAt b5 [true, true, true, true, true, true, true, true, false, true, false, false, true, false, false, true, false, true, false]
theorem e5_39 : evK gS fi5 c5_39 fr st k = opsK gS fi5 [(some 42), (some 43), none] [mk (some 42) (.fieldAddr 27 (.tmp 6) 2) 0 none,
  mk (some 43) (.load 24 (.tmp 42)) 24 none,
  mk none (.store 24 (.tmp 12) (.tmp 43)) 0 none] fr.clear st fr k := evK_reg1 (i := 14) (by kernel_rfl) (by kernel_rfl)
noncomputable def c5_40 : Code := .skip
theorem e5_40 : evK gS fi5 c5_40 fr st k = nextK gS fi5 k .normal fr st := rfl
noncomputable def c5_38 : Code := .cond (.tmp 41) c5_39 c5_40
theorem e5_38 : evK gS fi5 c5_38 fr st k = condK gS fi5 (fr.op (.tmp 41)).bool? c5_39 c5_40 fr st k := rfl
noncomputable def c5_36 : Code := .seq c5_37 c5_38
theorem e5_36 : evK gS fi5 c5_36 fr st k = evK gS fi5 c5_37 fr st (.seq c5_38 k) := rfl
noncomputable def c5_43 : Code := codeAt b5 [true, true, true, true, true, true, true, true, false, true, false, false, true, false, false, true, true, false, false]
theorem e5_43 : evK gS fi5 c5_43 fr st k = opsK gS fi5 [(some 44), (some 45)] [mk (some 44) (.move (.tmp 11)) 3 none,
  mk (some 45) (.binOp .eql 3 (.tmp 44) (.const (.int .i64 1)) 3) 4 none] fr.clear st fr k := evK_reg1 (i := 15) (by kernel_rfl) (by kernel_rfl)
noncomputable def c5_45 : Code := codeAt b5 [true, true, true, true, true, true, true, true, false, true, false, false, true, false, false, true, true, false, true, false]
theorem e5_45 : evK gS fi5 c5_45 fr st k = opsK gS fi5 [(some 46), (some 47), none] [mk (some 46) (.fieldAddr 27 (.tmp 7) 2) 0 none,
  mk (some 47) (.load 24 (.tmp 46)) 24 none,
  mk none (.store 24 (.tmp 12) (.tmp 47)) 0 none] fr.clear st fr k := evK_reg1 (i := 16) (by kernel_rfl) (by kernel_rfl)
noncomputable def c5_46 : Code := .skip
theorem e5_46 : evK gS fi5 c5_46 fr st k = nextK gS fi5 k .normal fr st := rfl
noncomputable def c5_44 : Code := .cond (.tmp 45) c5_45 c5_46
theorem e5_44 : evK gS fi5 c5_44 fr st k = condK gS fi5 (fr.op (.tmp 45)).bool? c5_45 c5_46 fr st k := rfl
noncomputable def c5_42 : Code := .seq c5_43 c5_44
theorem e5_42 : evK gS fi5 c5_42 fr st k = evK gS fi5 c5_43 fr st (.seq c5_44 k) := rfl
noncomputable def c5_49 : Code := codeAt b5 [true, true, true, true, true, true, true, true, false, true, false, false, true, false, false, true, true, true, false, false]
theorem e5_49 : evK gS fi5 c5_49 fr st k = opsK gS fi5 [(some 48), (some 49), (some 50)] [mk (some 48) (.fieldAddr 24 (.tmp 12) 0) 0 none,
  mk (some 49) (.load 3 (.tmp 48)) 3 none,
  mk (some 50) (.binOp .eql 3 (.tmp 49) (.const (.int .i64 0)) 3) 4 none] fr.clear st fr k := evK_reg1 (i := 17) (by kernel_rfl) (by kernel_rfl)
noncomputable def c5_51 : Code := .exit 1
theorem e5_51 : evK gS fi5 c5_51 fr st k = nextK gS fi5 k (.exit 1) fr st := rfl
noncomputable def c5_52 : Code := .skip
theorem e5_52 : evK gS fi5 c5_52 fr st k = nextK gS fi5 k .normal fr st := rfl
noncomputable def c5_50 : Code := .cond (.tmp 50) c5_51 c5_52
theorem e5_50 : evK gS fi5 c5_50 fr st k = condK gS fi5 (fr.op (.tmp 50)).bool? c5_51 c5_52 fr st k := rfl
noncomputable def c5_48 : Code := .seq c5_49 c5_50
theorem e5_48 : evK gS fi5 c5_48 fr st k = evK gS fi5 c5_49 fr st (.seq c5_50 k) := rfl
noncomputable def c5_54 : Code := codeAt b5 [true, true, true, true, true, true, true, true, false, true, false, false, true, false, false, true, true, true, true, false]
theorem e5_54 : evK gS fi5 c5_54 fr st k = opsK gS fi5 [(some 51), (some 52), (some 53), (some 54), (some 55), (some 56), (some 57), (some 58), (some 59), (some 60), (some 61), (some 62), (some 63), (some 64), (some 65), (some 66), (some 67), (some 68), (some 69), (some 70)] [mk (some 51) (.move (.tmp 9)) 4 none,
  mk (some 52) (.move (.tmp 51)) 4 none,
  mk (some 53) (.load 27 (.tmp 6)) 27 (some (1, true)),
  mk (some 54) (.load 24 (.tmp 12)) 24 (some (1, true)),
  mk (some 55) (.call { callee := (.value (.func 21)), args := #[(.tmp 53), (.tmp 54)], argTypes := #[27, 24] }) 4 (some (1, true)),
  mk (some 56) (.pick (.tmp 52) (.tmp 55) (.const (.bool false))) 4 none,
  mk (some 57) (.move (.tmp 56)) 4 none,
  mk (some 58) (.load 27 (.tmp 7)) 27 (some (6, true)),
  mk (some 59) (.load 24 (.tmp 12)) 24 (some (6, true)),
  mk (some 60) (.call { callee := (.value (.func 21)), args := #[(.tmp 58), (.tmp 59)], argTypes := #[27, 24] }) 4 (some (6, true)),
  mk (some 61) (.unOp .not 4 (.tmp 60)) 4 (some (6, true)),
  mk (some 62) (.pick (.tmp 57) (.tmp 61) (.const (.bool false))) 4 none,
  mk (some 63) (.move (.tmp 62)) 4 none,
  mk (some 64) (.move (.tmp 10)) 4 (some (12, false)),
  mk (some 65) (.move (.tmp 64)) 4 (some (12, false)),
  mk (some 66) (.load 27 (.tmp 6)) 27 (some (14, true)),
  mk (some 67) (.load 24 (.tmp 12)) 24 (some (14, true)),
  mk (some 68) (.call { callee := (.value (.func 21)), args := #[(.tmp 66), (.tmp 67)], argTypes := #[27, 24] }) 4 (some (14, true)),
  mk (some 69) (.pick (.tmp 65) (.tmp 68) (.const (.bool false))) 4 (some (12, false)),
  mk (some 70) (.pick (.tmp 63) (.const (.bool true)) (.tmp 69)) 4 none] fr.clear st fr k := evK_reg1 (i := 18) (by kernel_rfl) (by kernel_rfl)
noncomputable def c5_57 : Code := codeAt b5 [true, true, true, true, true, true, true, true, false, true, false, false, true, false, false, true, true, true, true, true, false, false]
theorem e5_57 : evK gS fi5 c5_57 fr st k = opsK gS fi5 [(some 4)] [mk (some 4) (.assign (.const (.bool false))) 4 none] fr.clear st fr k := evK_reg1 (i := 19) (by kernel_rfl) (by kernel_rfl)
noncomputable def c5_58 : Code := .ret
theorem e5_58 : evK gS fi5 c5_58 fr st k = nextK gS fi5 k .ret fr st := rfl
noncomputable def c5_56 : Code := .seq c5_57 c5_58
theorem e5_56 : evK gS fi5 c5_56 fr st k = evK gS fi5 c5_57 fr st (.seq c5_58 k) := rfl
noncomputable def c5_59 : Code := .skip
theorem e5_59 : evK gS fi5 c5_59 fr st k = nextK gS fi5 k .normal fr st := rfl
noncomputable def c5_55 : Code := .cond (.tmp 70) c5_56 c5_59
theorem e5_55 : evK gS fi5 c5_55 fr st k = condK gS fi5 (fr.op (.tmp 70)).bool? c5_56 c5_59 fr st k := rfl
noncomputable def c5_53 : Code := .seq c5_54 c5_55
theorem e5_53 : evK gS fi5 c5_53 fr st k = evK gS fi5 c5_54 fr st (.seq c5_55 k) := rfl
noncomputable def c5_47 : Code := .seq c5_48 c5_53
theorem e5_47 : evK gS fi5 c5_47 fr st k = evK gS fi5 c5_48 fr st (.seq c5_53 k) := rfl
noncomputable def c5_41 : Code := .seq c5_42 c5_47
theorem e5_41 : evK gS fi5 c5_41 fr st k = evK gS fi5 c5_42 fr st (.seq c5_47 k) := rfl
noncomputable def c5_35 : Code := .seq c5_36 c5_41
theorem e5_35 : evK gS fi5 c5_35 fr st k = evK gS fi5 c5_36 fr st (.seq c5_41 k) := rfl
noncomputable def c5_33 : Code := .seq c5_34 c5_35
theorem e5_33 : evK gS fi5 c5_33 fr st k = evK gS fi5 c5_34 fr st (.seq c5_35 k) := rfl
noncomputable def c5_32 : Code := .block 1 c5_33
theorem e5_32 : evK gS fi5 c5_32 fr st k = evK gS fi5 c5_33 fr st (.blk 1 k) := rfl
noncomputable def c5_60 : Code := codeAt b5 [true, true, true, true, true, true, true, true, false, true, false, false, true, true]
theorem e5_60 : evK gS fi5 c5_60 fr st k = opsK gS fi5 [(some 36), (some 37), (some 11)] [mk (some 36) (.move (.tmp 11)) 3 none,
  mk (some 37) (.binOp .add 3 (.tmp 36) (.const (.int .i64 1)) 3) 3 none,
  mk (some 11) (.assign (.tmp 37)) 3 none] fr.clear st fr k := evK_reg1 (i := 11) (by kernel_rfl) (by kernel_rfl)
noncomputable def c5_31 : Code := .seq c5_32 c5_60
theorem e5_31 : evK gS fi5 c5_31 fr st k = evK gS fi5 c5_32 fr st (.seq c5_60 k) := rfl
noncomputable def c5_25 : Code := .seq c5_26 c5_31
theorem e5_25 : evK gS fi5 c5_25 fr st k = evK gS fi5 c5_26 fr st (.seq c5_31 k) := rfl
noncomputable def c5_24 : Code := .loop c5_25
noncomputable def c5_23 : Code := .block 0 c5_24
theorem e5_23 : evK gS fi5 c5_23 fr st k = evK gS fi5 c5_24 fr st (.blk 0 k) := rfl
noncomputable def c5_21 : Code := .seq c5_22 c5_23
theorem e5_21 : evK gS fi5 c5_21 fr st k = evK gS fi5 c5_22 fr st (.seq c5_23 k) := rfl
noncomputable def c5_62 : Code := codeAt b5 [true, true, true, true, true, true, true, true, true, false]
theorem e5_62 : evK gS fi5 c5_62 fr st k = opsK gS fi5 [(some 71), (some 4)] [mk (some 71) (.call { callee := (.value (.func 18)), args := #[], argTypes := #[] }) 4 none,
  mk (some 4) (.assign (.tmp 71)) 4 none] fr.clear st fr k := evK_reg1 (i := 20) (by kernel_rfl) (by kernel_rfl)
noncomputable def c5_63 : Code := .ret
theorem e5_63 : evK gS fi5 c5_63 fr st k = nextK gS fi5 k .ret fr st := rfl
noncomputable def c5_61 : Code := .seq c5_62 c5_63
theorem e5_61 : evK gS fi5 c5_61 fr st k = evK gS fi5 c5_62 fr st (.seq c5_63 k) := rfl
noncomputable def c5_20 : Code := .seq c5_21 c5_61
theorem e5_20 : evK gS fi5 c5_20 fr st k = evK gS fi5 c5_21 fr st (.seq c5_61 k) := rfl
noncomputable def c5_18 : Code := .seq c5_19 c5_20
theorem e5_18 : evK gS fi5 c5_18 fr st k = evK gS fi5 c5_19 fr st (.seq c5_20 k) := rfl
noncomputable def c5_16 : Code := .seq c5_17 c5_18
theorem e5_16 : evK gS fi5 c5_16 fr st k = evK gS fi5 c5_17 fr st (.seq c5_18 k) := rfl
noncomputable def c5_14 : Code := .seq c5_15 c5_16
theorem e5_14 : evK gS fi5 c5_14 fr st k = evK gS fi5 c5_15 fr st (.seq c5_16 k) := rfl
noncomputable def c5_8 : Code := .seq c5_9 c5_14
theorem e5_8 : evK gS fi5 c5_8 fr st k = evK gS fi5 c5_9 fr st (.seq c5_14 k) := rfl
noncomputable def c5_6 : Code := .seq c5_7 c5_8
theorem e5_6 : evK gS fi5 c5_6 fr st k = evK gS fi5 c5_7 fr st (.seq c5_8 k) := rfl
noncomputable def c5_4 : Code := .seq c5_5 c5_6
theorem e5_4 : evK gS fi5 c5_4 fr st k = evK gS fi5 c5_5 fr st (.seq c5_6 k) := rfl
noncomputable def c5_2 : Code := .seq c5_3 c5_4
theorem e5_2 : evK gS fi5 c5_2 fr st k = evK gS fi5 c5_3 fr st (.seq c5_4 k) := rfl
noncomputable def c5_0 : Code := .seq c5_1 c5_2
theorem e5_0 : evK gS fi5 c5_0 fr st k = evK gS fi5 c5_1 fr st (.seq c5_2 k) := rfl
theorem m5 : mini fi5.body = c5_0 := by kernel_rfl
theorem n5_24 (fr : Fr) (st : St) (k : Kt) : nextK gS fi5 (.loop c5_25 k) .normal fr st = evK gS fi5 c5_24 fr st k := rfl
/-- What the law asks of a value. -/
def Asks (p q : Pred) (v : Val) : Prop := (pimplies p q = true → ptakes p v = true → ptakes q v = true) ∧ (pvoid p = true → ptakes p v = false)
set_option maxHeartbeats 8000000 in
theorem T5_47 (p q : Pred) (v : Val) (hp : Pred.ok p) (hq : Pred.ok q) (hv : Asks p q v) (id i : Nat) (hi : i < 12) (st : St) (R : Out × St)
    (e0 e1 e5 : E) (h0 : e0.Tame) (h1 : e1.Tame) (h5 : e5.Tame) (T : List (Nat × E)) (X : List (Nat × List V)) (hx6 : lk X 6 = some p.cells) (hx7 : lk X 7 = some q.cells) (hx12 : lk X 12 = some v.cells)
    (IH : ∀ T, evK gS fi5 c5_24 { ps := [(0, e0), (1, e1), (4, .val (.bool false)), (5, e5), (6, .lp 6 0), (7, .lp 7 0), (8, .val (.ptr id 0)), (9, .val (.bool (pimplies p q))), (10, .val (.bool (pvoid p))), (11, .val (.int .i64 ((i + 1 : Nat) : Int))), (12, .lp 12 0)], ts := T, lc := X } st (.blk 0 (.seq c5_61 .nil)) = some R) :
    evK gS fi5 c5_47 { ps := [(0, e0), (1, e1), (4, .val (.bool false)), (5, e5), (6, .lp 6 0), (7, .lp 7 0), (8, .val (.ptr id 0)), (9, .val (.bool (pimplies p q))), (10, .val (.bool (pvoid p))), (11, .val (.int .i64 i)), (12, .lp 12 0)], ts := T, lc := X } st (.blk 1 (.seq c5_60 (.loop c5_25 (.blk 0 (.seq c5_61 .nil))))) = some R := by
  have hm : fi5.marks = [] := rfl
  have hl : fi5.locals = [6, 7, 12] := rfl
  have hr : fi5.results = [.tmp 4] := rfl
  have hw : IntKind.wrap .i64 ((i : Int) + 1) = ((i + 1 : Nat) : Int) := by rw [wrap64 (by omega) (by omega)]; omega
  obtain ⟨hv1, hv2⟩ := hv
  generalize hg1 : pimplies p q = b1 at *
  generalize hg2 : pvoid p = b2 at *
  generalize hg3 : ptakes p v = t1 at *
  generalize hg4 : ptakes q v = t2 at *
  cases b1 <;> cases b2 <;> cases t1 <;> cases t2 <;> first
    | (exfalso; simp at hv1 hv2; done)
    | (clear hv1 hv2; simp [-Int.natCast_add, h0, h1, h5, hx6, hx7, hx12, hw, IH, hp.1, hp.2, hq.1, hq.2, hg3, hg4, -Int.not_le, -Int.not_lt, -Nat.not_le, -Nat.not_lt, ty3, ty4, ty9, ty24, ty27, ty28, ty29, ty31, eq24, hm, hl, hr, k18, k21, k23, k27, e5_1, e5_3, e5_5, e5_7, e5_10, e5_12, e5_13, e5_11, e5_9, e5_15, e5_17, e5_19, e5_22, e5_27, e5_29, e5_30, e5_28, e5_26, e5_34, e5_37, e5_39, e5_40, e5_38, e5_36, e5_43, e5_45, e5_46, e5_44, e5_42, e5_49, e5_51, e5_52, e5_50, e5_48, e5_54, e5_57, e5_58, e5_56, e5_59, e5_55, e5_53, e5_47, e5_41, e5_35, e5_33, e5_32, e5_60, e5_31, e5_25, e5_23, e5_21, e5_62, e5_63, e5_61, e5_20, e5_18, e5_16, e5_14, e5_8, e5_6, e5_4, e5_2, e5_0, n5_24])
set_option maxHeartbeats 8000000 in
theorem L5 (p q : Pred) (hp : Pred.ok p) (hq : Pred.ok q) (more : List Int) (a id : Nat) (ha : a < 549755813888) (st : St) (h : FeedOk st id) (hv : ∀ j, Asks p q (valueV more a j)) (hpv : Asks p q p.v) (hqv : Asks p q q.v) :
    ∀ (r i : Nat) (e0 e1 e5 e12 : E) (T : List (Nat × E)) (X : List (Nat × List V)), i + r = 12 → e0.Tame → e1.Tame → e5.Tame → e12.Tame → lk X 6 = some p.cells → lk X 7 = some q.cells →
    evK gS fi5 c5_24 { ps := [(0, e0), (1, e1), (4, .val (.bool false)), (5, e5), (6, .lp 6 0), (7, .lp 7 0), (8, .val (.ptr id 0)), (9, .val (.bool (pimplies p q))), (10, .val (.bool (pvoid p))), (11, .val (.int .i64 i)), (12, e12)], ts := T, lc := X } (setF st id more (nA more a (2 * i))) (.blk 0 (.seq c5_61 .nil)) = some (.ret (.bool true) none, setF st id more (nA more a 24)) := by
  intro r
  have hm : fi5.marks = [] := rfl
  have hl : fi5.locals = [6, 7, 12] := rfl
  have hr : fi5.results = [.tmp 4] := rfl
  induction r with
  | zero =>
    intro i e0 e1 e5 e12 T X hi h0 h1 h5 h12 hx6 hx7
    obtain rfl : i = 12 := by omega
    refine evK_loop c5_25 _ _ _ _ rfl ?_
    simp [h0, h1, h5, h12, -Int.not_le, -Int.not_lt, -Nat.not_le, -Nat.not_lt, ty3, ty4, ty9, ty24, ty27, ty28, ty29, ty31, eq24, hm, hl, hr, k18, k21, k23, k27, e5_1, e5_3, e5_5, e5_7, e5_10, e5_12, e5_13, e5_11, e5_9, e5_15, e5_17, e5_19, e5_22, e5_27, e5_29, e5_30, e5_28, e5_26, e5_34, e5_37, e5_39, e5_40, e5_38, e5_36, e5_43, e5_45, e5_46, e5_44, e5_42, e5_49, e5_51, e5_52, e5_50, e5_48, e5_54, e5_57, e5_58, e5_56, e5_59, e5_55, e5_53, e5_41, e5_35, e5_33, e5_32, e5_60, e5_31, e5_25, e5_23, e5_21, e5_62, e5_63, e5_61, e5_20, e5_18, e5_16, e5_14, e5_8, e5_6, e5_4, e5_2, e5_0, n5_24]
  | succ r ih =>
    intro i e0 e1 e5 e12 T X hi h0 h1 h5 h12 hx6 hx7
    refine evK_loop c5_25 _ _ _ _ rfl ?_
    have hk := fun fr => k17 more a (2 * i) id fr st h ha (by omega)
    have hlt : (i : Int) < 12 := by omega
    have IH := fun e0 e1 e5 e12 T X h0 h1 h5 h12 h6 h7 => ih (i + 1) e0 e1 e5 e12 T X (by omega) h0 h1 h5 h12 h6 h7
    rw [show 2 * (i + 1) = 2 * i + 2 by omega] at IH
    have g0 := noLp_tame 12 h0
    have g1 := noLp_tame 12 h1
    have g5 := noLp_tame 12 h5
    have f6 : lk (X.filter fun x => !(x.1 == 12)) 6 = some p.cells := by rw [lk_filter _ _ _ rfl]; exact hx6
    have f7 : lk (X.filter fun x => !(x.1 == 12)) 7 = some q.cells := by rw [lk_filter _ _ _ rfl]; exact hx7
    have TT := fun v hv X hx6 hx7 hx12 T => T5_47 p q v hp hq hv id i (by omega) (setF st id more (nA more a (2 * i + 2))) _ _ _ _ g0 g1 g5 T X hx6 hx7 hx12 (fun T => IH _ _ _ (.lp 12 0) T X g0 g1 g5 rfl hx6 hx7)
    by_cases hi0 : i = 0
    · subst hi0
      have T1 := fun X hx6 hx7 hx12 T => TT p.v hpv X hx6 hx7 hx12 T
      simp [h0, h1, h5, h12, hx6, hx7, hk, -Int.not_le, -Int.not_lt, -Nat.not_le, -Nat.not_lt, ty3, ty4, ty9, ty24, ty27, ty28, ty29, ty31, eq24, hm, hl, hr, k18, k21, k23, k27, e5_1, e5_3, e5_5, e5_7, e5_10, e5_12, e5_13, e5_11, e5_9, e5_15, e5_17, e5_19, e5_22, e5_27, e5_29, e5_30, e5_28, e5_26, e5_34, e5_37, e5_39, e5_40, e5_38, e5_36, e5_43, e5_45, e5_46, e5_44, e5_42, e5_49, e5_51, e5_52, e5_50, e5_48, e5_54, e5_57, e5_58, e5_56, e5_59, e5_55, e5_53, e5_41, e5_35, e5_33, e5_32, e5_60, e5_31, e5_25, e5_23, e5_21, e5_62, e5_63, e5_61, e5_20, e5_18, e5_16, e5_14, e5_8, e5_6, e5_4, e5_2, e5_0, n5_24]
      refine T1 _ ?_ ?_ ?_ _ <;> simp [hx6, hx7]
    · by_cases hi1 : i = 1
      · subst hi1
        have T1 := fun X hx6 hx7 hx12 T => TT q.v hqv X hx6 hx7 hx12 T
        simp [h0, h1, h5, h12, hx6, hx7, hk, -Int.not_le, -Int.not_lt, -Nat.not_le, -Nat.not_lt, ty3, ty4, ty9, ty24, ty27, ty28, ty29, ty31, eq24, hm, hl, hr, k18, k21, k23, k27, e5_1, e5_3, e5_5, e5_7, e5_10, e5_12, e5_13, e5_11, e5_9, e5_15, e5_17, e5_19, e5_22, e5_27, e5_29, e5_30, e5_28, e5_26, e5_34, e5_37, e5_39, e5_40, e5_38, e5_36, e5_43, e5_45, e5_46, e5_44, e5_42, e5_49, e5_51, e5_52, e5_50, e5_48, e5_54, e5_57, e5_58, e5_56, e5_59, e5_55, e5_53, e5_41, e5_35, e5_33, e5_32, e5_60, e5_31, e5_25, e5_23, e5_21, e5_62, e5_63, e5_61, e5_20, e5_18, e5_16, e5_14, e5_8, e5_6, e5_4, e5_2, e5_0, n5_24]
        refine T1 _ ?_ ?_ ?_ _ <;> simp [hx6, hx7]
      · have hj1 : ¬ (i : Int) = 1 := by omega
        have T1 := fun X hx6 hx7 hx12 T => TT _ (hv (2 * i)) X hx6 hx7 hx12 T
        simp [h0, h1, h5, h12, hx6, hx7, hk, hlt, hi0, hi1, hj1, -Int.not_le, -Int.not_lt, -Nat.not_le, -Nat.not_lt, ty3, ty4, ty9, ty24, ty27, ty28, ty29, ty31, eq24, hm, hl, hr, k18, k21, k23, k27, e5_1, e5_3, e5_5, e5_7, e5_10, e5_12, e5_13, e5_11, e5_9, e5_15, e5_17, e5_19, e5_22, e5_27, e5_29, e5_30, e5_28, e5_26, e5_34, e5_37, e5_39, e5_40, e5_38, e5_36, e5_43, e5_45, e5_46, e5_44, e5_42, e5_49, e5_51, e5_52, e5_50, e5_48, e5_54, e5_57, e5_58, e5_56, e5_59, e5_55, e5_53, e5_41, e5_35, e5_33, e5_32, e5_60, e5_31, e5_25, e5_23, e5_21, e5_62, e5_63, e5_61, e5_20, e5_18, e5_16, e5_14, e5_8, e5_6, e5_4, e5_2, e5_0, n5_24]
        refine T1 _ ?_ ?_ ?_ _ <;> simp [hx6, hx7]
theorem new_feed (st : St) (l : List Int) : ({ objs := st.objs ++ [[V.slice (intVs l), V.int .i64 0]], wp := st.wp } : St) = setF (nw st 0 []) st.objs.length l (nA l 0 0) := by
  unfold setF nw nA
  simp
theorem feedOk_new {st : St} (h : st.wp ≤ st.objs.length) : FeedOk (nw st 0 []) st.objs.length := ⟨by rw [gr_len]; omega, h⟩
set_option maxHeartbeats 8000000 in
theorem c5 (l more : List Int) (st : St) (hst : st.wp ≤ st.objs.length) : ∃ st', EvF gS 5 [.slice (intVs l), .slice (intVs more)] st = some (.ret (.bool true) none, st') := by
  have hm : fi5.marks = [] := rfl
  have hl : fi5.locals = [6, 7, 12] := rfl
  have hr : fi5.results = [.tmp 4] := rfl
  have hf := feedOk_new hst
  have hp := fun fr => k29 l 0 0 st.objs.length [97] fr (nw st 0 []) hf (by omega) (by omega)
  have f1 := pred_fv l 0 0 [97]
  have r1 := pred_right l 0 0 (nm := [97]) rfl
  have b1 := pred_asks l 0 0 [97]
  generalize predV l 0 0 [97] = P1 at *
  obtain ⟨p, k1⟩ := P1
  rw [Nat.zero_add] at hp
  simp only at hp f1 r1 b1
  have hq := fun fr => k29 l 0 k1 st.objs.length [97] fr (dd (nw st 0 []) p.set.length) (hf.dd _) (by omega) (by omega)
  have f2 := pred_fv l 0 k1 [97]
  have r2 := pred_right l 0 k1 (nm := [97]) rfl
  have b2 := pred_asks l 0 k1 [97]
  generalize predV l 0 k1 [97] = P2 at *
  obtain ⟨q, k2⟩ := P2
  simp only at hq f2 r2 b2
  have hn3 := fun fr => k16 l 0 (k1 + k2) st.objs.length 3 fr (dd (dd (nw st 0 []) p.set.length) q.set.length) ((hf.dd _).dd _) (by omega) (by omega) (by omega)
  generalize hS : setF (dd (dd (nw st 0 []) p.set.length) q.set.length) st.objs.length l (nA l 0 (k1 + k2 + 1)) = S1 at hn3
  have hS1 : S1.wp ≤ S1.objs.length := by rw [← hS, setF_wp, setF_len, dd_wp, dd_wp, dd_len, dd_len, gr_wp, gr_len]; omega
  have hg := feedOk_new hS1
  have n1 := new_feed st l
  have n2 := new_feed S1 more
  have oq := ok_of_right r2
  have op := ok_of_right r1
  have mk : ∀ q' : Pred, PFV q' → Pred.ok q' → (∀ v, (∃ r, FV v r) → Asks p q' v) := fun q' hq' _ v hv => ⟨fun h1 h2 => sound f1 hq' hv h1 h2, fun h1 => void_none f1 hv h1⟩
  have fin := fun q' hq' oq' =>
    L5 p q' op oq' more 0 S1.objs.length (by omega) (nw S1 0 []) hg (fun j => mk q' hq' oq' _ (vr_value _ _ _).2) (mk q' hq' oq' _ f1.v) (mk q' hq' oq' _ hq'.v) 12 0
  refine ⟨setF (nw S1 0 []) S1.objs.length more (nA more 0 24), ?_⟩
  refine EvF_start fi5_eq (fun x h => by cases h) m5 ?_
  rw [st5]
  by_cases hz : fd l 0 (k1 + k2) 3 = 0
  · have f2' : PFV { q with v := p.v } := ⟨f1.v, f2.w, f2.set⟩
    have := fin _ f2' oq
    simp [n1, hp, hq, hn3, n2, hz, op.1, op.2, oq.1, oq.2, -Int.not_le, -Int.not_lt, -Nat.not_le, -Nat.not_lt, ty3, ty4, ty9, ty24, ty27, ty28, ty29, ty31, eq24, hm, hl, hr, k18, k21, k23, k27, e5_1, e5_3, e5_5, e5_7, e5_10, e5_12, e5_13, e5_11, e5_9, e5_15, e5_17, e5_19, e5_22, e5_27, e5_29, e5_30, e5_28, e5_26, e5_34, e5_37, e5_39, e5_40, e5_38, e5_36, e5_43, e5_45, e5_46, e5_44, e5_42, e5_49, e5_51, e5_52, e5_50, e5_48, e5_54, e5_57, e5_58, e5_56, e5_59, e5_55, e5_53, e5_41, e5_35, e5_33, e5_32, e5_60, e5_31, e5_25, e5_23, e5_21, e5_62, e5_63, e5_61, e5_20, e5_18, e5_16, e5_14, e5_8, e5_6, e5_4, e5_2, e5_0, n5_24]
    refine this _ _ _ _ _ _ rfl ?_ ?_ ?_ ?_ ?_ ?_ <;> simp
  · have := fin _ f2 oq
    simp [n1, hp, hq, hn3, n2, hz, op.1, op.2, oq.1, oq.2, -Int.not_le, -Int.not_lt, -Nat.not_le, -Nat.not_lt, ty3, ty4, ty9, ty24, ty27, ty28, ty29, ty31, eq24, hm, hl, hr, k18, k21, k23, k27, e5_1, e5_3, e5_5, e5_7, e5_10, e5_12, e5_13, e5_11, e5_9, e5_15, e5_17, e5_19, e5_22, e5_27, e5_29, e5_30, e5_28, e5_26, e5_34, e5_37, e5_39, e5_40, e5_38, e5_36, e5_43, e5_45, e5_46, e5_44, e5_42, e5_49, e5_51, e5_52, e5_50, e5_48, e5_54, e5_57, e5_58, e5_56, e5_59, e5_55, e5_53, e5_41, e5_35, e5_33, e5_32, e5_60, e5_31, e5_25, e5_23, e5_21, e5_62, e5_63, e5_61, e5_20, e5_18, e5_16, e5_14, e5_8, e5_6, e5_4, e5_2, e5_0, n5_24]
    refine this _ _ _ _ _ _ rfl ?_ ?_ ?_ ?_ ?_ ?_ <;> simp
end Go.Proofs.Ytclpbfkbpcjejaa
namespace Go.Proofs.Ytclpbfkbpcjejaa
open Go Go.Ab
set_option linter.unusedVariables false
set_option linter.unusedSimpArgs false
set_option linter.unnecessarySimpa false
set_option maxRecDepth 20000
variable (fr : Fr) (st : St) (k : Kt)
noncomputable def fi33 : FI := { body := codeOf Try.f33, ntmps := 8, results := [.cell 4 27], pers := [0, 1, 3, 4], locals := [3, 4], pure := true, marks := [] }
theorem fi33_eq : gS.fn 33 = some fi33 := by kernel_rfl
theorem st33 (a0 a1 : V) : startFr fi33 [a0, a1] = { ps := [(0, .val a0), (1, .val a1), (3, .any), (4, .any)], ts := [], lc := [] } := rfl
noncomputable def b33 : Code := mini (codeOf Try.f33)
noncomputable def c33_1 : Code := codeAt b33 [false]
theorem e33_1 : evK gS fi33 c33_1 fr st k = opsK gS fi33 [(some 3), (some 4)] [mk (some 3) (.box 24 (.tmp 1)) 0 none,
  mk (some 4) (.alloc 27) 0 none] fr.clear st fr k := evK_reg1 (i := 0) (by kernel_rfl) (by kernel_rfl)
noncomputable def c33_3 : Code := codeAt b33 [true, false]
theorem e33_3 : evK gS fi33 c33_3 fr st k = opsK gS fi33 [(some 5), (some 6), (some 7), none] [mk (some 5) (.move (.tmp 0)) 3 none,
  mk (some 6) (.load 24 (.tmp 3)) 24 none,
  mk (some 7) (.build 27 #[(0, (.const (.string { data := #[97] }))), (1, (.tmp 5)), (2, (.tmp 6))]) 27 none,
  mk none (.store 27 (.tmp 4) (.tmp 7)) 0 none] fr.clear st fr k := evK_reg1 (i := 1) (by kernel_rfl) (by kernel_rfl)
noncomputable def c33_4 : Code := .ret
theorem e33_4 : evK gS fi33 c33_4 fr st k = nextK gS fi33 k .ret fr st := rfl
noncomputable def c33_2 : Code := .seq c33_3 c33_4
theorem e33_2 : evK gS fi33 c33_2 fr st k = evK gS fi33 c33_3 fr st (.seq c33_4 k) := rfl
noncomputable def c33_0 : Code := .seq c33_1 c33_2
theorem e33_0 : evK gS fi33 c33_0 fr st k = evK gS fi33 c33_1 fr st (.seq c33_2 k) := rfl
theorem m33 : mini fi33.body = c33_0 := by kernel_rfl
set_option maxHeartbeats 4000000 in
theorem c33 (t : Int) (v : Val)  (st : St) : EvF gS 33 [.int .i64 t, v.enc] st = some (.ret ((⟨[97], t, v, vzero, []⟩ : Pred).enc) none, st) := by
  refine EvF_start fi33_eq (fun x h => by cases h) m33 ?_
  rw [st33]
  have hm : fi33.marks = [] := rfl
  have hl : fi33.locals = [3, 4] := rfl
  have hr : fi33.results = [.cell 4 27] := rfl
  simp (config := { contextual := true, maxSteps := 10000000 }) [-Int.not_le, -Int.not_lt, -Nat.not_le, -Nat.not_lt, ty3, ty24, ty27, eq24, hm, hl, hr, e33_1, e33_3, e33_4, e33_2, e33_0]
  all_goals try simp (config := { contextual := true }) [-Int.not_le, -Int.not_lt, -Nat.not_le, -Nat.not_lt, vzero, encVals]
  all_goals first | done | grind | omega | (trace_state; fail)
theorem k33 (t : Int) (v_k : Int) (v_n : Int) (v_x : Nat) (v_s : List UInt8) (v_b : Bool)  (fr : Fr) (st : St) : callStep gS (EvF gS) 33 [.int .i64 t, .agg [.int .i64 v_k, .int .i64 v_n, .float .f64 v_x, .str v_s, .bool v_b]] fr st = some (.ok (retE none ((⟨[97], t, (⟨v_k, v_n, v_x, v_s, v_b⟩ : Val), vzero, []⟩ : Pred).enc)) fr st) :=
  call_pure rfl fi33_eq rfl (fun st => c33 t (⟨v_k, v_n, v_x, v_s, v_b⟩ : Val)  st) (by simp)
theorem x33 : gS.ext 33 = none := rfl
theorem p33 : fi33.pure = true := rfl
noncomputable def fi6 : FI := { body := codeOf Try.f6, ntmps := 140, results := [.tmp 2], pers := [0, 2, 3, 4, 5, 6, 7, 8, 9, 10, 11, 12, 13, 14], locals := [4, 5, 6], pure := false, marks := [] }
theorem fi6_eq : gS.fn 6 = some fi6 := by kernel_rfl
theorem st6 (a0 : V) : startFr fi6 [a0] = { ps := [(0, .val a0), (2, .any), (3, .any), (4, .any), (5, .any), (6, .any), (7, .any), (8, .any), (9, .any), (10, .any), (11, .any), (12, .any), (13, .any), (14, .any)], ts := [], lc := [] } := rfl
noncomputable def b6 : Code := mini (codeOf Try.f6)
noncomputable def c6_1 : Code := codeAt b6 [false]
theorem e6_1 : evK gS fi6 c6_1 fr st k = opsK gS fi6 [(some 2)] [mk (some 2) (.assign (.const (.bool false))) 4 none] fr.clear st fr k := evK_reg1 (i := 0) (by kernel_rfl) (by kernel_rfl)
noncomputable def c6_3 : Code := codeAt b6 [true, false]
theorem e6_3 : evK gS fi6 c6_3 fr st k = opsK gS fi6 [(some 15), (some 16), (some 17), (some 3)] [mk (some 15) (.move (.tmp 0)) 28 none,
  mk (some 16) (.build 31 #[(0, (.tmp 15))]) 31 none,
  mk (some 17) (.box 31 (.tmp 16)) 29 none,
  mk (some 3) (.assign (.tmp 17)) 29 none] fr.clear st fr k := evK_reg1 (i := 1) (by kernel_rfl) (by kernel_rfl)
noncomputable def c6_5 : Code := codeAt b6 [true, true, false]
theorem e6_5 : evK gS fi6 c6_5 fr st k = opsK gS fi6 [(some 18), (some 19), (some 4), none] [mk (some 18) (.move (.tmp 3)) 29 none,
  mk (some 19) (.call { callee := (.value (.func 29)), args := #[(.tmp 18), (.const (.string { data := #[97] }))], argTypes := #[29, 9] }) 27 none,
  mk (some 4) (.alloc 27) 0 none,
  mk none (.store 27 (.tmp 4) (.tmp 19)) 0 none] fr.clear st fr k := evK_reg1 (i := 2) (by kernel_rfl) (by kernel_rfl)
noncomputable def c6_7 : Code := codeAt b6 [true, true, true, false]
theorem e6_7 : evK gS fi6 c6_7 fr st k = opsK gS fi6 [(some 20), (some 21), (some 22), (some 23), (some 5), (some 6), none, none] [mk (some 20) (.move (.tmp 3)) 29 none,
  mk (some 21) (.call { callee := (.value (.func 17)), args := #[(.tmp 20)], argTypes := #[29] }) 24 none,
  mk (some 22) (.move (.tmp 3)) 29 none,
  mk (some 23) (.call { callee := (.value (.func 17)), args := #[(.tmp 22)], argTypes := #[29] }) 24 none,
  mk (some 5) (.alloc 24) 0 none,
  mk (some 6) (.alloc 24) 0 none,
  mk none (.store 24 (.tmp 5) (.tmp 21)) 0 none,
  mk none (.store 24 (.tmp 6) (.tmp 23)) 0 none] fr.clear st fr k := evK_reg1 (i := 3) (by kernel_rfl) (by kernel_rfl)
noncomputable def c6_10 : Code := codeAt b6 [true, true, true, true, false, false]
theorem e6_10 : evK gS fi6 c6_10 fr st k = opsK gS fi6 [(some 24), (some 25), (some 26)] [mk (some 24) (.move (.tmp 3)) 29 none,
  mk (some 25) (.call { callee := (.value (.func 16)), args := #[(.tmp 24), (.const (.int .i64 2))], argTypes := #[29, 3] }) 3 none,
  mk (some 26) (.binOp .eql 3 (.tmp 25) (.const (.int .i64 0)) 3) 4 none] fr.clear st fr k := evK_reg1 (i := 4) (by kernel_rfl) (by kernel_rfl)
noncomputable def c6_13 : Code := codeAt b6 [true, true, true, true, false, true, false, false]
theorem e6_13 : evK gS fi6 c6_13 fr st k = opsK gS fi6 [(some 27), (some 28), (some 29), none] [mk (some 27) (.move (.tmp 3)) 29 none,
  mk (some 28) (.call { callee := (.value (.func 16)), args := #[(.tmp 27), (.const (.int .i64 4))], argTypes := #[29, 3] }) 3 none,
  mk (some 29) (.call { callee := (.value (.func 30)), args := #[(.tmp 28)], argTypes := #[2] }) 24 none,
  mk none (.store 24 (.tmp 5) (.tmp 29)) 0 none] fr.clear st fr k := evK_reg1 (i := 5) (by kernel_rfl) (by kernel_rfl)
noncomputable def c6_14 : Code := codeAt b6 [true, true, true, true, false, true, false, true]
theorem e6_14 : evK gS fi6 c6_14 fr st k = opsK gS fi6 [(some 30), (some 31), (some 32), (some 33), none] [mk (some 30) (.fieldAddr 24 (.tmp 5) 1) 0 none,
  mk (some 31) (.load 2 (.tmp 30)) 2 none,
  mk (some 32) (.convert 2 22 (.tmp 31)) 22 none,
  mk (some 33) (.call { callee := (.value (.func 31)), args := #[(.tmp 32)], argTypes := #[22] }) 24 none,
  mk none (.store 24 (.tmp 6) (.tmp 33)) 0 none] fr.clear st fr k := evK_reg1 (i := 6) (by kernel_rfl) (by kernel_rfl)
noncomputable def c6_12 : Code := .seq c6_13 c6_14
theorem e6_12 : evK gS fi6 c6_12 fr st k = evK gS fi6 c6_13 fr st (.seq c6_14 k) := rfl
noncomputable def c6_15 : Code := .skip
theorem e6_15 : evK gS fi6 c6_15 fr st k = nextK gS fi6 k .normal fr st := rfl
noncomputable def c6_11 : Code := .cond (.tmp 26) c6_12 c6_15
theorem e6_11 : evK gS fi6 c6_11 fr st k = condK gS fi6 (fr.op (.tmp 26)).bool? c6_12 c6_15 fr st k := rfl
noncomputable def c6_9 : Code := .seq c6_10 c6_11
theorem e6_9 : evK gS fi6 c6_9 fr st k = evK gS fi6 c6_10 fr st (.seq c6_11 k) := rfl
noncomputable def r6_18 : Array Oper := regOps (codeAt (codeOf Try.f6) [true, true, true, true, true, false, false])
noncomputable def c6_18 : Code := .region 7 r6_18 true
noncomputable def q6_18 : List (Oper × Fl) := [(mk (some 34) (.call { callee := (.value (.func 18)), args := #[], argTypes := #[] }) 4 none, ⟨true, true, true, false, false, true, true, true, false, false, []⟩),
  (mk (some 35) (.unOp .not 4 (.tmp 34)) 4 none, ⟨true, false, true, false, false, false, true, true, false, false, []⟩),
  (mk (some 36) (.move (.tmp 35)) 4 none, ⟨true, true, true, false, true, false, true, true, false, false, []⟩),
  (mk (some 37) (.load 27 (.tmp 4)) 27 (some (2, false)), ⟨true, true, true, false, true, false, true, true, false, false, []⟩),
  (mk (some 38) (.call { callee := (.value (.func 19)), args := #[(.tmp 37)], argTypes := #[27] }) 4 (some (2, false)), ⟨true, true, true, false, true, true, true, true, false, false, []⟩),
  (mk (some 39) (.unOp .not 4 (.tmp 38)) 4 (some (2, false)), ⟨true, true, true, false, true, false, true, true, false, false, []⟩),
  (mk (some 40) (.pick (.tmp 36) (.const (.bool true)) (.tmp 39)) 4 none, ⟨true, true, true, false, true, false, true, true, false, false, []⟩),
  (mk (some 41) (.move (.tmp 40)) 4 none, ⟨true, true, true, false, true, false, true, true, false, false, []⟩),
  (mk (some 42) (.load 24 (.tmp 5)) 24 (some (7, false)), ⟨true, false, true, false, false, false, true, true, false, false, []⟩),
  (mk (some 43) (.load 24 (.tmp 6)) 24 (some (7, false)), ⟨true, false, true, false, true, false, true, true, false, false, []⟩),
  (mk (some 44) (.call { callee := (.value (.func 32)), args := #[(.tmp 42), (.tmp 43)], argTypes := #[24, 24] }) 4 (some (7, false)), ⟨true, true, true, false, true, true, true, true, false, false, []⟩),
  (mk (some 45) (.move (.tmp 44)) 4 (some (7, false)), ⟨true, true, true, false, true, false, true, true, false, false, []⟩),
  (mk (some 46) (.load 27 (.tmp 4)) 27 (some (11, true)), ⟨true, false, true, false, false, false, true, true, false, false, []⟩),
  (mk (some 47) (.load 24 (.tmp 5)) 24 (some (11, true)), ⟨true, false, true, false, false, false, true, true, false, false, []⟩),
  (mk (some 48) (.call { callee := (.value (.func 21)), args := #[(.tmp 46), (.tmp 47)], argTypes := #[27, 24] }) 4 (some (11, true)), ⟨true, true, true, false, false, true, true, true, false, false, []⟩),
  (mk (some 49) (.load 27 (.tmp 4)) 27 (some (11, true)), ⟨true, false, true, false, false, false, true, true, false, false, []⟩),
  (mk (some 50) (.load 24 (.tmp 6)) 24 (some (11, true)), ⟨true, false, true, false, true, false, true, true, false, false, []⟩),
  (mk (some 51) (.call { callee := (.value (.func 21)), args := #[(.tmp 49), (.tmp 50)], argTypes := #[27, 24] }) 4 (some (11, true)), ⟨true, true, true, false, true, true, true, true, false, false, []⟩),
  (mk (some 52) (.binOp .neq 4 (.tmp 48) (.tmp 51) 4) 4 (some (11, true)), ⟨true, false, true, false, true, false, true, true, false, false, []⟩),
  (mk (some 53) (.pick (.tmp 45) (.tmp 52) (.const (.bool false))) 4 (some (7, false)), ⟨true, true, true, false, true, false, true, true, false, false, []⟩),
  (mk (some 54) (.pick (.tmp 41) (.const (.bool true)) (.tmp 53)) 4 none, ⟨true, true, true, false, true, false, true, true, false, false, []⟩)]
theorem e6_18 : evK gS fi6 c6_18 fr st k = drwK gS fi6 r6_18 [(some 34), (some 35), (some 36), (some 37), (some 38), (some 39), (some 40), (some 41), (some 42), (some 43), (some 44), (some 45), (some 46), (some 47), (some 48), (some 49), (some 50), (some 51), (some 52), (some 53), (some 54)] q6_18 0 fr.clear st fr k := by
  rw [evK_draw (g := gS) (fi := fi6) (c := c6_18) 7 r6_18 q6_18 fr st k rfl (by kernel_rfl) (by kernel_rfl), show r6_18.toList.map (·.dst) = [(some 34), (some 35), (some 36), (some 37), (some 38), (some 39), (some 40), (some 41), (some 42), (some 43), (some 44), (some 45), (some 46), (some 47), (some 48), (some 49), (some 50), (some 51), (some 52), (some 53), (some 54)] from by kernel_rfl]
noncomputable def c6_21 : Code := codeAt b6 [true, true, true, true, true, false, true, false, false]
theorem e6_21 : evK gS fi6 c6_21 fr st k = opsK gS fi6 [(some 2)] [mk (some 2) (.assign (.const (.bool false))) 4 none] fr.clear st fr k := evK_reg1 (i := 8) (by kernel_rfl) (by kernel_rfl)
noncomputable def c6_22 : Code := .ret
theorem e6_22 : evK gS fi6 c6_22 fr st k = nextK gS fi6 k .ret fr st := rfl
noncomputable def c6_20 : Code := .seq c6_21 c6_22
theorem e6_20 : evK gS fi6 c6_20 fr st k = evK gS fi6 c6_21 fr st (.seq c6_22 k) := rfl
noncomputable def c6_23 : Code := .skip
theorem e6_23 : evK gS fi6 c6_23 fr st k = nextK gS fi6 k .normal fr st := rfl
noncomputable def c6_19 : Code := .cond (.tmp 54) c6_20 c6_23
theorem e6_19 : evK gS fi6 c6_19 fr st k = condK gS fi6 (fr.op (.tmp 54)).bool? c6_20 c6_23 fr st k := rfl
noncomputable def c6_17 : Code := .seq c6_18 c6_19
theorem e6_17 : evK gS fi6 c6_17 fr st k = evK gS fi6 c6_18 fr st (.seq c6_19 k) := rfl
noncomputable def r6_25 : Array Oper := regOps (codeAt (codeOf Try.f6) [true, true, true, true, true, true, false])
noncomputable def c6_25 : Code := .region 9 r6_25 true
noncomputable def q6_25 : List (Oper × Fl) := [(mk (some 55) (.load 24 (.tmp 6)) 24 none, ⟨true, false, true, false, false, false, true, true, false, false, []⟩),
  (mk (some 56) (.call { callee := (.value (.func 33)), args := #[(.const (.int .i64 2)), (.tmp 55)], argTypes := #[3, 24] }) 27 none, ⟨true, true, true, false, false, true, true, true, false, false, []⟩),
  (mk (some 57) (.load 24 (.tmp 5)) 24 none, ⟨true, false, true, false, false, false, true, true, false, false, []⟩),
  (mk (some 58) (.call { callee := (.value (.func 21)), args := #[(.tmp 56), (.tmp 57)], argTypes := #[27, 24] }) 4 none, ⟨true, true, true, false, false, true, true, true, false, false, []⟩),
  (mk (some 59) (.load 24 (.tmp 6)) 24 none, ⟨true, false, true, false, false, false, true, true, false, false, []⟩),
  (mk (some 60) (.call { callee := (.value (.func 33)), args := #[(.const (.int .i64 3)), (.tmp 59)], argTypes := #[3, 24] }) 27 none, ⟨true, true, true, false, false, true, true, true, false, false, []⟩),
  (mk (some 61) (.load 24 (.tmp 5)) 24 none, ⟨true, false, true, false, true, false, true, true, false, false, []⟩),
  (mk (some 62) (.call { callee := (.value (.func 21)), args := #[(.tmp 60), (.tmp 61)], argTypes := #[27, 24] }) 4 none, ⟨true, true, true, false, true, true, true, true, false, false, []⟩),
  (mk (some 7) (.assign (.tmp 58)) 4 none, ⟨true, true, true, false, true, false, true, true, false, false, []⟩),
  (mk (some 8) (.assign (.tmp 62)) 4 none, ⟨true, true, true, false, true, false, true, true, false, false, []⟩)]
theorem e6_25 : evK gS fi6 c6_25 fr st k = drwK gS fi6 r6_25 [(some 55), (some 56), (some 57), (some 58), (some 59), (some 60), (some 61), (some 62), (some 7), (some 8)] q6_25 0 fr.clear st fr k := by
  rw [evK_draw (g := gS) (fi := fi6) (c := c6_25) 9 r6_25 q6_25 fr st k rfl (by kernel_rfl) (by kernel_rfl), show r6_25.toList.map (·.dst) = [(some 55), (some 56), (some 57), (some 58), (some 59), (some 60), (some 61), (some 62), (some 7), (some 8)] from by kernel_rfl]
noncomputable def r6_27 : Array Oper := regOps (codeAt (codeOf Try.f6) [true, true, true, true, true, true, true, false])
noncomputable def c6_27 : Code := .region 10 r6_27 true
noncomputable def q6_27 : List (Oper × Fl) := [(mk (some 63) (.load 24 (.tmp 6)) 24 none, ⟨true, false, true, false, false, false, true, true, false, false, []⟩),
  (mk (some 64) (.call { callee := (.value (.func 33)), args := #[(.const (.int .i64 5)), (.tmp 63)], argTypes := #[3, 24] }) 27 none, ⟨true, true, true, false, false, true, true, true, false, false, []⟩),
  (mk (some 65) (.load 24 (.tmp 5)) 24 none, ⟨true, false, true, false, false, false, true, true, false, false, []⟩),
  (mk (some 66) (.call { callee := (.value (.func 21)), args := #[(.tmp 64), (.tmp 65)], argTypes := #[27, 24] }) 4 none, ⟨true, true, true, false, false, true, true, true, false, false, []⟩),
  (mk (some 67) (.load 24 (.tmp 6)) 24 none, ⟨true, false, true, false, false, false, true, true, false, false, []⟩),
  (mk (some 68) (.call { callee := (.value (.func 33)), args := #[(.const (.int .i64 7)), (.tmp 67)], argTypes := #[3, 24] }) 27 none, ⟨true, true, true, false, false, true, true, true, false, false, []⟩),
  (mk (some 69) (.load 24 (.tmp 5)) 24 none, ⟨true, false, true, false, true, false, true, true, false, false, []⟩),
  (mk (some 70) (.call { callee := (.value (.func 21)), args := #[(.tmp 68), (.tmp 69)], argTypes := #[27, 24] }) 4 none, ⟨true, true, true, false, true, true, true, true, false, false, []⟩),
  (mk (some 9) (.assign (.tmp 66)) 4 none, ⟨true, true, true, false, true, false, true, true, false, false, []⟩),
  (mk (some 10) (.assign (.tmp 70)) 4 none, ⟨true, true, true, false, true, false, true, true, false, false, []⟩)]
theorem e6_27 : evK gS fi6 c6_27 fr st k = drwK gS fi6 r6_27 [(some 63), (some 64), (some 65), (some 66), (some 67), (some 68), (some 69), (some 70), (some 9), (some 10)] q6_27 0 fr.clear st fr k := by
  rw [evK_draw (g := gS) (fi := fi6) (c := c6_27) 10 r6_27 q6_27 fr st k rfl (by kernel_rfl) (by kernel_rfl), show r6_27.toList.map (·.dst) = [(some 63), (some 64), (some 65), (some 66), (some 67), (some 68), (some 69), (some 70), (some 9), (some 10)] from by kernel_rfl]
noncomputable def r6_29 : Array Oper := regOps (codeAt (codeOf Try.f6) [true, true, true, true, true, true, true, true, false])
noncomputable def c6_29 : Code := .region 11 r6_29 true
noncomputable def q6_29 : List (Oper × Fl) := [(mk (some 71) (.load 24 (.tmp 6)) 24 none, ⟨true, false, true, false, false, false, true, true, false, false, []⟩),
  (mk (some 72) (.call { callee := (.value (.func 33)), args := #[(.const (.int .i64 4)), (.tmp 71)], argTypes := #[3, 24] }) 27 none, ⟨true, true, true, false, false, true, true, true, false, false, []⟩),
  (mk (some 73) (.load 24 (.tmp 5)) 24 none, ⟨true, false, true, false, false, false, true, true, false, false, []⟩),
  (mk (some 74) (.call { callee := (.value (.func 21)), args := #[(.tmp 72), (.tmp 73)], argTypes := #[27, 24] }) 4 none, ⟨true, true, true, false, false, true, true, true, false, false, []⟩),
  (mk (some 75) (.load 24 (.tmp 6)) 24 none, ⟨true, false, true, false, false, false, true, true, false, false, []⟩),
  (mk (some 76) (.call { callee := (.value (.func 33)), args := #[(.const (.int .i64 6)), (.tmp 75)], argTypes := #[3, 24] }) 27 none, ⟨true, true, true, false, false, true, true, true, false, false, []⟩),
  (mk (some 77) (.load 24 (.tmp 5)) 24 none, ⟨true, false, true, false, true, false, true, true, false, false, []⟩),
  (mk (some 78) (.call { callee := (.value (.func 21)), args := #[(.tmp 76), (.tmp 77)], argTypes := #[27, 24] }) 4 none, ⟨true, true, true, false, true, true, true, true, false, false, []⟩),
  (mk (some 11) (.assign (.tmp 74)) 4 none, ⟨true, true, true, false, true, false, true, true, false, false, []⟩),
  (mk (some 12) (.assign (.tmp 78)) 4 none, ⟨true, true, true, false, true, false, true, true, false, false, []⟩)]
theorem e6_29 : evK gS fi6 c6_29 fr st k = drwK gS fi6 r6_29 [(some 71), (some 72), (some 73), (some 74), (some 75), (some 76), (some 77), (some 78), (some 11), (some 12)] q6_29 0 fr.clear st fr k := by
  rw [evK_draw (g := gS) (fi := fi6) (c := c6_29) 11 r6_29 q6_29 fr st k rfl (by kernel_rfl) (by kernel_rfl), show r6_29.toList.map (·.dst) = [(some 71), (some 72), (some 73), (some 74), (some 75), (some 76), (some 77), (some 78), (some 11), (some 12)] from by kernel_rfl]
noncomputable def c6_31 : Code := codeAt b6 [true, true, true, true, true, true, true, true, true, false]
theorem e6_31 : evK gS fi6 c6_31 fr st k = opsK gS fi6 [(some 79), (some 80), (some 81), (some 82), (some 83), (some 13)] [mk (some 79) (.load 24 (.tmp 6)) 24 none,
  mk (some 80) (.load 24 (.tmp 6)) 24 none,
  mk (some 81) (.build 27 #[(0, (.const (.string { data := #[97] }))), (1, (.const (.int .i64 8))), (2, (.tmp 79)), (3, (.tmp 80))]) 27 none,
  mk (some 82) (.load 24 (.tmp 5)) 24 none,
  mk (some 83) (.call { callee := (.value (.func 21)), args := #[(.tmp 81), (.tmp 82)], argTypes := #[27, 24] }) 4 none,
  mk (some 13) (.assign (.tmp 83)) 4 none] fr.clear st fr k := evK_reg1 (i := 12) (by kernel_rfl) (by kernel_rfl)
noncomputable def c6_33 : Code := codeAt b6 [true, true, true, true, true, true, true, true, true, true, false]
theorem e6_33 : evK gS fi6 c6_33 fr st k = opsK gS fi6 [(some 84), (some 85), (some 86), (some 87), (some 88), (some 14)] [mk (some 84) (.load 24 (.tmp 6)) 24 none,
  mk (some 85) (.buildSlice 25 1 #[(0, (.tmp 84))]) 25 none,
  mk (some 86) (.build 27 #[(0, (.const (.string { data := #[97] }))), (1, (.const (.int .i64 10))), (4, (.tmp 85))]) 27 none,
  mk (some 87) (.load 24 (.tmp 5)) 24 none,
  mk (some 88) (.call { callee := (.value (.func 21)), args := #[(.tmp 86), (.tmp 87)], argTypes := #[27, 24] }) 4 none,
  mk (some 14) (.assign (.tmp 88)) 4 none] fr.clear st fr k := evK_reg1 (i := 13) (by kernel_rfl) (by kernel_rfl)
noncomputable def r6_35 : Array Oper := regOps (codeAt (codeOf Try.f6) [true, true, true, true, true, true, true, true, true, true, true, false])
noncomputable def c6_35 : Code := .region 14 r6_35 true
noncomputable def q6_35 : List (Oper × Fl) := [(mk (some 89) (.move (.tmp 7)) 4 none, ⟨true, false, true, false, false, false, true, true, false, false, []⟩),
  (mk (some 90) (.move (.tmp 9)) 4 none, ⟨true, false, true, false, false, false, true, true, false, false, []⟩),
  (mk (some 91) (.move (.tmp 90)) 4 none, ⟨true, false, true, false, false, false, true, true, false, false, []⟩),
  (mk (some 92) (.move (.tmp 10)) 4 (some (2, true)), ⟨true, false, true, false, false, false, true, true, false, false, []⟩),
  (mk (some 93) (.pick (.tmp 91) (.tmp 92) (.const (.bool false))) 4 none, ⟨true, false, true, false, false, false, true, true, false, false, []⟩),
  (mk (some 94) (.binOp .eql 4 (.tmp 89) (.tmp 93) 4) 4 none, ⟨true, false, true, false, false, false, true, true, false, false, []⟩),
  (mk (some 95) (.move (.tmp 94)) 4 none, ⟨true, false, true, false, false, false, true, true, false, false, []⟩),
  (mk (some 96) (.move (.tmp 8)) 4 (some (6, true)), ⟨true, false, true, false, false, false, true, true, false, false, []⟩),
  (mk (some 97) (.move (.tmp 7)) 4 (some (6, true)), ⟨true, false, true, false, false, false, true, true, false, false, []⟩),
  (mk (some 98) (.unOp .not 4 (.tmp 97)) 4 (some (6, true)), ⟨true, false, true, false, false, false, true, true, false, false, []⟩),
  (mk (some 99) (.binOp .eql 4 (.tmp 96) (.tmp 98) 4) 4 (some (6, true)), ⟨true, false, true, false, false, false, true, true, false, false, []⟩),
  (mk (some 100) (.pick (.tmp 95) (.tmp 99) (.const (.bool false))) 4 none, ⟨true, false, true, false, false, false, true, true, false, false, []⟩),
  (mk (some 101) (.move (.tmp 100)) 4 none, ⟨true, false, true, false, false, false, true, true, false, false, []⟩),
  (mk (some 102) (.move (.tmp 9)) 4 (some (12, true)), ⟨true, false, true, false, false, false, true, true, false, false, []⟩),
  (mk (some 103) (.move (.tmp 7)) 4 (some (12, true)), ⟨true, false, true, false, false, false, true, true, false, false, []⟩),
  (mk (some 104) (.move (.tmp 103)) 4 (some (12, true)), ⟨true, false, true, false, false, false, true, true, false, false, []⟩),
  (mk (some 105) (.move (.tmp 11)) 4 (some (15, false)), ⟨true, false, true, false, false, false, true, true, false, false, []⟩),
  (mk (some 106) (.pick (.tmp 104) (.const (.bool true)) (.tmp 105)) 4 (some (12, true)), ⟨true, false, true, false, false, false, true, true, false, false, []⟩),
  (mk (some 107) (.binOp .eql 4 (.tmp 102) (.tmp 106) 4) 4 (some (12, true)), ⟨true, false, true, false, false, false, true, true, false, false, []⟩),
  (mk (some 108) (.pick (.tmp 101) (.tmp 107) (.const (.bool false))) 4 none, ⟨true, false, true, false, false, false, true, true, false, false, []⟩),
  (mk (some 109) (.move (.tmp 108)) 4 none, ⟨true, false, true, false, false, false, true, true, false, false, []⟩),
  (mk (some 110) (.move (.tmp 10)) 4 (some (20, true)), ⟨true, false, true, false, false, false, true, true, false, false, []⟩),
  (mk (some 111) (.move (.tmp 7)) 4 (some (20, true)), ⟨true, false, true, false, false, false, true, true, false, false, []⟩),
  (mk (some 112) (.move (.tmp 111)) 4 (some (20, true)), ⟨true, false, true, false, false, false, true, true, false, false, []⟩),
  (mk (some 113) (.move (.tmp 12)) 4 (some (23, false)), ⟨true, false, true, false, false, false, true, true, false, false, []⟩),
  (mk (some 114) (.pick (.tmp 112) (.const (.bool true)) (.tmp 113)) 4 (some (20, true)), ⟨true, false, true, false, false, false, true, true, false, false, []⟩),
  (mk (some 115) (.binOp .eql 4 (.tmp 110) (.tmp 114) 4) 4 (some (20, true)), ⟨true, false, true, false, false, false, true, true, false, false, []⟩),
  (mk (some 116) (.pick (.tmp 109) (.tmp 115) (.const (.bool false))) 4 none, ⟨true, false, true, false, false, false, true, true, false, false, []⟩),
  (mk (some 117) (.move (.tmp 116)) 4 none, ⟨true, false, true, false, false, false, true, true, false, false, []⟩),
  (mk (some 118) (.move (.tmp 11)) 4 (some (28, true)), ⟨true, false, true, false, false, false, true, true, false, false, []⟩),
  (mk (some 119) (.move (.tmp 118)) 4 (some (28, true)), ⟨true, false, true, false, true, false, true, true, false, false, []⟩),
  (mk (some 120) (.move (.tmp 12)) 4 (some (30, true)), ⟨true, false, true, false, false, false, true, true, false, false, []⟩),
  (mk (some 121) (.pick (.tmp 119) (.tmp 120) (.const (.bool false))) 4 (some (28, true)), ⟨true, false, true, false, false, false, true, true, false, false, []⟩),
  (mk (some 122) (.unOp .not 4 (.tmp 121)) 4 (some (28, true)), ⟨true, false, true, false, false, false, true, true, false, false, []⟩),
  (mk (some 123) (.pick (.tmp 117) (.tmp 122) (.const (.bool false))) 4 none, ⟨true, false, true, false, true, false, true, true, false, false, []⟩),
  (mk (some 124) (.move (.tmp 123)) 4 none, ⟨true, false, true, false, true, false, true, true, false, false, []⟩),
  (mk (some 125) (.move (.tmp 13)) 4 (some (35, true)), ⟨true, false, true, false, false, false, true, true, false, false, []⟩),
  (mk (some 126) (.move (.tmp 7)) 4 (some (35, true)), ⟨true, false, true, false, false, false, true, true, false, false, []⟩),
  (mk (some 127) (.binOp .eql 4 (.tmp 125) (.tmp 126) 4) 4 (some (35, true)), ⟨true, false, true, false, true, false, true, true, false, false, []⟩),
  (mk (some 128) (.pick (.tmp 124) (.tmp 127) (.const (.bool false))) 4 none, ⟨true, false, true, false, true, false, true, true, false, false, []⟩),
  (mk (some 129) (.move (.tmp 128)) 4 none, ⟨true, false, true, false, true, false, true, true, false, false, []⟩),
  (mk (some 130) (.move (.tmp 14)) 4 (some (40, true)), ⟨true, false, true, false, false, false, true, true, false, false, []⟩),
  (mk (some 131) (.move (.tmp 7)) 4 (some (40, true)), ⟨true, false, true, false, true, false, true, true, false, false, []⟩),
  (mk (some 132) (.binOp .eql 4 (.tmp 130) (.tmp 131) 4) 4 (some (40, true)), ⟨true, false, true, false, true, false, true, true, false, false, []⟩),
  (mk (some 133) (.pick (.tmp 129) (.tmp 132) (.const (.bool false))) 4 none, ⟨true, false, true, false, true, false, true, true, false, false, []⟩),
  (mk (some 134) (.move (.tmp 133)) 4 none, ⟨true, false, true, false, true, false, true, true, false, false, []⟩),
  (mk (some 135) (.build 24 #[]) 24 (some (45, true)), ⟨true, false, true, false, false, false, true, true, false, false, []⟩),
  (mk (some 136) (.call { callee := (.value (.func 33)), args := #[(.const (.int .i64 1)), (.tmp 135)], argTypes := #[3, 24] }) 27 (some (45, true)), ⟨true, true, true, false, false, true, true, true, false, false, []⟩),
  (mk (some 137) (.load 24 (.tmp 5)) 24 (some (45, true)), ⟨true, false, true, false, true, false, true, true, false, false, []⟩),
  (mk (some 138) (.call { callee := (.value (.func 21)), args := #[(.tmp 136), (.tmp 137)], argTypes := #[27, 24] }) 4 (some (45, true)), ⟨true, true, true, false, true, true, true, true, false, false, []⟩),
  (mk (some 139) (.pick (.tmp 134) (.tmp 138) (.const (.bool false))) 4 none, ⟨true, false, true, false, true, false, true, true, false, false, []⟩),
  (mk (some 2) (.assign (.tmp 139)) 4 none, ⟨true, true, true, false, true, false, true, true, false, false, []⟩)]
theorem e6_35 : evK gS fi6 c6_35 fr st k = drwK gS fi6 r6_35 [(some 89), (some 90), (some 91), (some 92), (some 93), (some 94), (some 95), (some 96), (some 97), (some 98), (some 99), (some 100), (some 101), (some 102), (some 103), (some 104), (some 105), (some 106), (some 107), (some 108), (some 109), (some 110), (some 111), (some 112), (some 113), (some 114), (some 115), (some 116), (some 117), (some 118), (some 119), (some 120), (some 121), (some 122), (some 123), (some 124), (some 125), (some 126), (some 127), (some 128), (some 129), (some 130), (some 131), (some 132), (some 133), (some 134), (some 135), (some 136), (some 137), (some 138), (some 139), (some 2)] q6_35 0 fr.clear st fr k := by
  rw [evK_draw (g := gS) (fi := fi6) (c := c6_35) 14 r6_35 q6_35 fr st k rfl (by kernel_rfl) (by kernel_rfl), show r6_35.toList.map (·.dst) = [(some 89), (some 90), (some 91), (some 92), (some 93), (some 94), (some 95), (some 96), (some 97), (some 98), (some 99), (some 100), (some 101), (some 102), (some 103), (some 104), (some 105), (some 106), (some 107), (some 108), (some 109), (some 110), (some 111), (some 112), (some 113), (some 114), (some 115), (some 116), (some 117), (some 118), (some 119), (some 120), (some 121), (some 122), (some 123), (some 124), (some 125), (some 126), (some 127), (some 128), (some 129), (some 130), (some 131), (some 132), (some 133), (some 134), (some 135), (some 136), (some 137), (some 138), (some 139), (some 2)] from by kernel_rfl]
noncomputable def c6_36 : Code := .ret
theorem e6_36 : evK gS fi6 c6_36 fr st k = nextK gS fi6 k .ret fr st := rfl
noncomputable def c6_34 : Code := .seq c6_35 c6_36
theorem e6_34 : evK gS fi6 c6_34 fr st k = evK gS fi6 c6_35 fr st (.seq c6_36 k) := rfl
noncomputable def c6_32 : Code := .seq c6_33 c6_34
theorem e6_32 : evK gS fi6 c6_32 fr st k = evK gS fi6 c6_33 fr st (.seq c6_34 k) := rfl
noncomputable def c6_30 : Code := .seq c6_31 c6_32
theorem e6_30 : evK gS fi6 c6_30 fr st k = evK gS fi6 c6_31 fr st (.seq c6_32 k) := rfl
noncomputable def c6_28 : Code := .seq c6_29 c6_30
theorem e6_28 : evK gS fi6 c6_28 fr st k = evK gS fi6 c6_29 fr st (.seq c6_30 k) := rfl
noncomputable def c6_26 : Code := .seq c6_27 c6_28
theorem e6_26 : evK gS fi6 c6_26 fr st k = evK gS fi6 c6_27 fr st (.seq c6_28 k) := rfl
noncomputable def c6_24 : Code := .seq c6_25 c6_26
theorem e6_24 : evK gS fi6 c6_24 fr st k = evK gS fi6 c6_25 fr st (.seq c6_26 k) := rfl
noncomputable def c6_16 : Code := .seq c6_17 c6_24
theorem e6_16 : evK gS fi6 c6_16 fr st k = evK gS fi6 c6_17 fr st (.seq c6_24 k) := rfl
noncomputable def c6_8 : Code := .seq c6_9 c6_16
theorem e6_8 : evK gS fi6 c6_8 fr st k = evK gS fi6 c6_9 fr st (.seq c6_16 k) := rfl
noncomputable def c6_6 : Code := .seq c6_7 c6_8
theorem e6_6 : evK gS fi6 c6_6 fr st k = evK gS fi6 c6_7 fr st (.seq c6_8 k) := rfl
noncomputable def c6_4 : Code := .seq c6_5 c6_6
theorem e6_4 : evK gS fi6 c6_4 fr st k = evK gS fi6 c6_5 fr st (.seq c6_6 k) := rfl
noncomputable def c6_2 : Code := .seq c6_3 c6_4
theorem e6_2 : evK gS fi6 c6_2 fr st k = evK gS fi6 c6_3 fr st (.seq c6_4 k) := rfl
noncomputable def c6_0 : Code := .seq c6_1 c6_2
theorem e6_0 : evK gS fi6 c6_0 fr st k = evK gS fi6 c6_1 fr st (.seq c6_2 k) := rfl
theorem m6 : mini fi6.body = c6_0 := by kernel_rfl
theorem right_at {t : Int} {w : Val} (h : vright w = true) (h1 : 2 ≤ t) (h2 : t ≤ 7) : pright ⟨[97], t, w, vzero, []⟩ = true := by
  have hw : isWord [97] = true := rfl
  have : ¬ t = 1 := by omega
  simp [pright, hw, this, h1, h2, h, same_zero]
set_option maxHeartbeats 8000000 in
theorem T6_16 (p : Pred) (v w : Val) (hp : Pred.ok p) (hpr : pright p = true) (hv : vright v = true) (hw : vright w = true) (hal : vis v w = true → ptakes p v = ptakes p w) (st : St)
    (e0 e3 : E) (h0 : e0.Tame) (h3 : e3.Tame) (T : List (Nat × E)) (X : List (Nat × List V)) (hx4 : lk X 4 = some p.cells) (hx5 : lk X 5 = some v.cells) (hx6 : lk X 6 = some w.cells) :
    evK gS fi6 c6_16 { ps := [(0, e0), (2, .val (.bool false)), (3, e3), (4, .lp 4 0), (5, .lp 5 0), (6, .lp 6 0), (7, .any), (8, .any), (9, .any), (10, .any), (11, .any), (12, .any), (13, .any), (14, .any)], ts := T, lc := X } st .nil = some (.ret (.bool true) none, st) := by
  have hm : fi6.marks = [] := rfl
  have hl : fi6.locals = [4, 5, 6] := rfl
  have hr : fi6.results = [.tmp 2] := rfl
  have z0 : (⟨0, 0, 0, [], false⟩ : Val) = vzero := rfl
  have a2 : ptakes ⟨[97], 2, w, vzero, []⟩ v = ((cmp v w).2 && decide ((cmp v w).1 = 0)) := by unfold ptakes; rw [right_at hw (by omega) (by omega)]; simp
  have a3 : ptakes ⟨[97], 3, w, vzero, []⟩ v = !((cmp v w).2 && decide ((cmp v w).1 = 0)) := by unfold ptakes; rw [right_at hw (by omega) (by omega)]; simp
  have a4 : ptakes ⟨[97], 4, w, vzero, []⟩ v = ((cmp v w).2 && decide ((cmp v w).1 < 0)) := by unfold ptakes; rw [right_at hw (by omega) (by omega)]; simp
  have a5 : ptakes ⟨[97], 5, w, vzero, []⟩ v = ((cmp v w).2 && decide ((cmp v w).1 ≤ 0)) := by unfold ptakes; rw [right_at hw (by omega) (by omega)]; simp
  have a6 : ptakes ⟨[97], 6, w, vzero, []⟩ v = ((cmp v w).2 && decide ((cmp v w).1 > 0)) := by unfold ptakes; rw [right_at hw (by omega) (by omega)]; simp
  have a7 : ptakes ⟨[97], 7, w, vzero, []⟩ v = ((cmp v w).2 && decide ((cmp v w).1 ≥ 0)) := by unfold ptakes; rw [right_at hw (by omega) (by omega)]; simp
  have hwd : isWord [97] = true := rfl
  have a8 : ptakes ⟨[97], 8, w, w, []⟩ v = ((cmp v w).2 && decide ((cmp v w).1 ≥ 0) && (cmp v w).2 && decide ((cmp v w).1 ≤ 0)) := by unfold ptakes pright; simp [hwd, hw]
  have a10 : ptakes ⟨[97], 10, vzero, vzero, [w]⟩ v = ((cmp v w).2 && decide ((cmp v w).1 = 0)) := by unfold ptakes pright; simp [hwd, hw, same_zero, vis]
  have a1 : ptakes ⟨[97], 1, vzero, vzero, []⟩ v = true := by unfold ptakes pright; simp [hwd, same_zero]
  have hvi : vis v w = ((cmp v w).2 && decide ((cmp v w).1 = 0)) := rfl
  have k8 : ∀ (fr : Fr) (st : St), callStep gS (EvF gS) 21 [.agg [.str [97], .int .i64 8, .int .i64 w.kind, .int .i64 w.n, .float .f64 w.x, .str w.s, .bool w.b, .int .i64 w.kind, .int .i64 w.n, .float .f64 w.x, .str w.s, .bool w.b, .slice []], .agg [.int .i64 v.kind, .int .i64 v.n, .float .f64 v.x, .str v.s, .bool v.b]] fr st = some (.ok (.val (.bool (ptakes ⟨[97], 8, w, w, []⟩ v))) fr st) := fun fr st => k21 [97] 8 w.kind w.n w.x w.s w.b w.kind w.n w.x w.s w.b [] v.kind v.n v.x v.s v.b (by simp) fr st
  have k10 : ∀ (fr : Fr) (st : St), callStep gS (EvF gS) 21 [.agg [.str [97], .int .i64 10, .int .i64 0, .int .i64 0, .float .f64 0, .str [], .bool false, .int .i64 0, .int .i64 0, .float .f64 0, .str [], .bool false, .slice [.agg [.int .i64 w.kind, .int .i64 w.n, .float .f64 w.x, .str w.s, .bool w.b]]], .agg [.int .i64 v.kind, .int .i64 v.n, .float .f64 v.x, .str v.s, .bool v.b]] fr st = some (.ok (.val (.bool (ptakes ⟨[97], 10, vzero, vzero, [w]⟩ v))) fr st) := fun fr st => k21 [97] 10 0 0 0 [] false 0 0 0 [] false [w] v.kind v.n v.x v.s v.b (by simp) fr st
  have kt : ∀ (t : Int) (fr : Fr) (st : St), callStep gS (EvF gS) 21 [.agg [.str [97], .int .i64 t, .int .i64 w.kind, .int .i64 w.n, .float .f64 w.x, .str w.s, .bool w.b, .int .i64 0, .int .i64 0, .float .f64 0, .str [], .bool false, .slice (encVals [])], .agg [.int .i64 v.kind, .int .i64 v.n, .float .f64 v.x, .str v.s, .bool v.b]] fr st = some (.ok (.val (.bool (ptakes ⟨[97], t, w, vzero, []⟩ v))) fr st) := fun t fr st => k21 [97] t w.kind w.n w.x w.s w.b 0 0 0 [] false [] v.kind v.n v.x v.s v.b (by simp) fr st
  have k1 : ∀ (fr : Fr) (st : St), callStep gS (EvF gS) 21 [.agg [.str [97], .int .i64 1, .int .i64 0, .int .i64 0, .float .f64 0, .str [], .bool false, .int .i64 0, .int .i64 0, .float .f64 0, .str [], .bool false, .slice (encVals [])], .agg [.int .i64 v.kind, .int .i64 v.n, .float .f64 v.x, .str v.s, .bool v.b]] fr st = some (.ok (.val (.bool (ptakes ⟨[97], 1, vzero, vzero, []⟩ v))) fr st) := fun fr st => k21 [97] 1 0 0 0 [] false 0 0 0 [] false [] v.kind v.n v.x v.s v.b (by simp) fr st
  have vz1 : vzero.kind = 0 := rfl
  have vz2 : vzero.n = 0 := rfl
  have vz3 : vzero.x = 0 := rfl
  have vz4 : vzero.s = [] := rfl
  have vz5 : vzero.b = false := rfl
  have tri := cmp_tri v w
  generalize cmp v w = C at *
  obtain ⟨c1, c2⟩ := C
  simp only at tri a2 a3 a4 a5 a6 a7 a8 a10 hvi
  generalize hg1 : ptakes p v = t1 at *
  generalize hg2 : ptakes p w = t2 at *
  have kp : ∀ (fr : Fr) (st : St), callStep gS (EvF gS) 21 [p.enc, .agg [.int .i64 v.kind, .int .i64 v.n, .float .f64 v.x, .str v.s, .bool v.b]] fr st = some (.ok (.val (.bool t1)) fr st) := fun fr st => by rw [← hg1]; exact k21 p.name p.test p.v.kind p.v.n p.v.x p.v.s p.v.b p.w.kind p.w.n p.w.x p.w.s p.w.b p.set v.kind v.n v.x v.s v.b hp fr st
  have kp2 : ∀ (fr : Fr) (st : St), callStep gS (EvF gS) 21 [p.enc, .agg [.int .i64 w.kind, .int .i64 w.n, .float .f64 w.x, .str w.s, .bool w.b]] fr st = some (.ok (.val (.bool t2)) fr st) := fun fr st => by rw [← hg2]; exact k21 p.name p.test p.v.kind p.v.n p.v.x p.v.s p.v.b p.w.kind p.w.n p.w.x p.w.s p.w.b p.set w.kind w.n w.x w.s w.b hp fr st
  simp only [Pred.enc, Pred.cells] at kp kp2
  rcases tri with rfl | rfl | rfl <;> cases c2
  case inr.inl.true =>
    obtain rfl := hal (by rw [hvi]; rfl)
    simp [vz1, vz2, vz3, vz4, vz5, z0, a1, a2, a3, a4, a5, a6, a7, a8, a10, hvi, k8, k10, kt, k1, kp, kp2, h0, h3, hx4, hx5, hx6, hpr, hp.1, hp.2, -Int.not_le, -Int.not_lt, -Nat.not_le, -Nat.not_lt, ty2, ty3, ty4, ty9, ty22, ty24, ty25, ty27, ty28, ty29, ty31, eq24, hm, hl, hr, fi16_eq, fi17_eq, k18, x18, fi18_eq, p18, k19, x19, fi19_eq, p19, x21, fi21_eq, p21, fi29_eq, k30, x30, fi30_eq, p30, k31, x31, fi31_eq, p31, k32, x32, fi32_eq, p32, k33, x33, fi33_eq, p33, e6_1, e6_3, e6_5, e6_7, e6_10, e6_13, e6_14, e6_12, e6_15, e6_11, e6_9, e6_18, q6_18, e6_21, e6_22, e6_20, e6_23, e6_19, e6_17, e6_25, q6_25, e6_27, q6_27, e6_29, q6_29, e6_31, e6_33, e6_35, q6_35, e6_36, e6_34, e6_32, e6_30, e6_28, e6_26, e6_24, e6_16, e6_8, e6_6, e6_4, e6_2, e6_0]
  all_goals
    simp [vz1, vz2, vz3, vz4, vz5, z0, a1, a2, a3, a4, a5, a6, a7, a8, a10, hvi, k8, k10, kt, k1, kp, kp2, h0, h3, hx4, hx5, hx6, hpr, hp.1, hp.2, -Int.not_le, -Int.not_lt, -Nat.not_le, -Nat.not_lt, ty2, ty3, ty4, ty9, ty22, ty24, ty25, ty27, ty28, ty29, ty31, eq24, hm, hl, hr, fi16_eq, fi17_eq, k18, x18, fi18_eq, p18, k19, x19, fi19_eq, p19, x21, fi21_eq, p21, fi29_eq, k30, x30, fi30_eq, p30, k31, x31, fi31_eq, p31, k32, x32, fi32_eq, p32, k33, x33, fi33_eq, p33, e6_1, e6_3, e6_5, e6_7, e6_10, e6_13, e6_14, e6_12, e6_15, e6_11, e6_9, e6_18, q6_18, e6_21, e6_22, e6_20, e6_23, e6_19, e6_17, e6_25, q6_25, e6_27, q6_27, e6_29, q6_29, e6_31, e6_33, e6_35, q6_35, e6_36, e6_34, e6_32, e6_30, e6_28, e6_26, e6_24, e6_16, e6_8, e6_6, e6_4, e6_2, e6_0]
theorem near0 : FloatKind.f64.nearest 0 = 0 := by kernel_rfl
theorem near1 : FloatKind.f64.nearest 1 = 4607182418800017408 := by kernel_rfl
theorem near2 : FloatKind.f64.nearest 2 = 4611686018427387904 := by kernel_rfl
theorem near3 : FloatKind.f64.nearest 3 = 4613937818241073152 := by kernel_rfl
theorem floats_vr : ([0, 4607182418800017408, 4611686018427387904, 4613937818241073152].all fun x => allVR.contains (⟨2, 0, x, [], false⟩ : Val)) = true := by kernel_rfl
theorem vr_f {x : Nat} (h : x ∈ [0, 4607182418800017408, 4611686018427387904, 4613937818241073152]) : VR ⟨2, 0, x, [], false⟩ := by
  have := List.all_eq_true.1 floats_vr x h
  exact vr_mem (by simpa using this)
set_option maxHeartbeats 8000000 in
theorem c6 (l : List Int) (st : St) (hst : st.wp ≤ st.objs.length) : ∃ st', EvF gS 6 [.slice (intVs l)] st = some (.ret (.bool true) none, st') := by
  have hm : fi6.marks = [] := rfl
  have hl : fi6.locals = [4, 5, 6] := rfl
  have hr : fi6.results = [.tmp 2] := rfl
  have hf := feedOk_new hst
  have hp := fun fr => k29 l 0 0 st.objs.length [97] fr (nw st 0 []) hf (by omega) (by omega)
  have f1 := pred_fv l 0 0 [97]
  have r1 := pred_right l 0 0 (nm := [97]) rfl
  have b1 := pred_asks l 0 0 [97]
  generalize predV l 0 0 [97] = P1 at *
  obtain ⟨p, k1⟩ := P1
  rw [Nat.zero_add] at hp
  simp only at hp f1 r1 b1
  have n1 := new_feed st l
  have op := ok_of_right r1
  have g1 := fun fr => k17 l 0 k1 st.objs.length fr (dd (nw st 0 []) p.set.length) (hf.dd _) (by omega) (by omega)
  have g2 := fun fr => k17 l 0 (k1 + 2) st.objs.length fr (dd (nw st 0 []) p.set.length) (hf.dd _) (by omega) (by omega)
  have g3 := fun fr => k16 l 0 (k1 + 2 + 2) st.objs.length 2 fr (dd (nw st 0 []) p.set.length) (hf.dd _) (by omega) (by omega) (by omega)
  have g4 := fun fr => k16 l 0 (k1 + 2 + 2 + 1) st.objs.length 4 fr (dd (nw st 0 []) p.set.length) (hf.dd _) (by omega) (by omega) (by omega)
  have v1 := vr_value l 0 k1
  have v2 := vr_value l 0 (k1 + 2)
  have b4 := fd_bound l 0 (k1 + 2 + 2 + 1) (n := 4) (by omega)
  generalize valueV l 0 k1 = v at *
  generalize valueV l 0 (k1 + 2) = w at *
  have al : ∀ v w : Val, VR v → VR w → vis v w = true → ptakes p v = ptakes p w := fun v w hv hw h => by
    obtain ⟨_, ra, fa⟩ := hv
    obtain ⟨_, rb, fb⟩ := hw
    exact takes_vis f1 fa fb h
  have TT := fun (v w : Val) (hv : VR v) (hw : VR w) (st2 : St) (T : List (Nat × E)) (X : List (Nat × List V)) hx4 hx5 hx6 => T6_16 p v w op r1 hv.1 hw.1 (al v w hv hw) st2 (.val (.slice (intVs l))) (.val (.ptr st.objs.length 0)) rfl rfl T X hx4 hx5 hx6
  by_cases hz : fd l 0 (k1 + 2 + 2) 2 = 0
  · generalize fd l 0 (k1 + 2 + 2 + 1) 4 = y at *
    refine ⟨setF (dd (nw st 0 []) p.set.length) st.objs.length l (nA l 0 (k1 + 2 + 2 + 1 + 1)), ?_⟩
    refine EvF_start fi6_eq (fun x h => by cases h) m6 ?_
    rw [st6]
    have hy : y = 0 ∨ y = 1 ∨ y = 2 ∨ y = 3 := by omega
    rcases hy with rfl | rfl | rfl | rfl
    · simp [near0, n1, hp, g1, g2, g3, g4, hz, op.1, op.2, -Int.not_le, -Int.not_lt, -Nat.not_le, -Nat.not_lt, ty2, ty3, ty4, ty9, ty22, ty24, ty25, ty27, ty28, ty29, ty31, eq24, hm, hl, hr, fi16_eq, fi17_eq, k18, x18, fi18_eq, p18, k19, x19, fi19_eq, p19, x21, fi21_eq, p21, fi29_eq, k30, x30, fi30_eq, p30, k31, x31, fi31_eq, p31, k32, x32, fi32_eq, p32, k33, x33, fi33_eq, p33, e6_1, e6_3, e6_5, e6_7, e6_10, e6_13, e6_14, e6_12, e6_15, e6_11, e6_9, e6_18, q6_18, e6_21, e6_22, e6_20, e6_23, e6_19, e6_17, e6_25, q6_25, e6_27, q6_27, e6_29, q6_29, e6_31, e6_33, e6_35, q6_35, e6_36, e6_34, e6_32, e6_30, e6_28, e6_26, e6_24, e6_8, e6_6, e6_4, e6_2, e6_0]
      refine TT ⟨1, 0, 0, [], false⟩ ⟨2, 0, 0, [], false⟩ (vr_small (by omega) (by omega)) (vr_f (by simp)) _ _ _ ?_ ?_ ?_ <;> rfl
    · simp [near1, n1, hp, g1, g2, g3, g4, hz, op.1, op.2, -Int.not_le, -Int.not_lt, -Nat.not_le, -Nat.not_lt, ty2, ty3, ty4, ty9, ty22, ty24, ty25, ty27, ty28, ty29, ty31, eq24, hm, hl, hr, fi16_eq, fi17_eq, k18, x18, fi18_eq, p18, k19, x19, fi19_eq, p19, x21, fi21_eq, p21, fi29_eq, k30, x30, fi30_eq, p30, k31, x31, fi31_eq, p31, k32, x32, fi32_eq, p32, k33, x33, fi33_eq, p33, e6_1, e6_3, e6_5, e6_7, e6_10, e6_13, e6_14, e6_12, e6_15, e6_11, e6_9, e6_18, q6_18, e6_21, e6_22, e6_20, e6_23, e6_19, e6_17, e6_25, q6_25, e6_27, q6_27, e6_29, q6_29, e6_31, e6_33, e6_35, q6_35, e6_36, e6_34, e6_32, e6_30, e6_28, e6_26, e6_24, e6_8, e6_6, e6_4, e6_2, e6_0]
      refine TT ⟨1, 1, 0, [], false⟩ ⟨2, 0, 4607182418800017408, [], false⟩ (vr_small (by omega) (by omega)) (vr_f (by simp)) _ _ _ ?_ ?_ ?_ <;> rfl
    · simp [near2, n1, hp, g1, g2, g3, g4, hz, op.1, op.2, -Int.not_le, -Int.not_lt, -Nat.not_le, -Nat.not_lt, ty2, ty3, ty4, ty9, ty22, ty24, ty25, ty27, ty28, ty29, ty31, eq24, hm, hl, hr, fi16_eq, fi17_eq, k18, x18, fi18_eq, p18, k19, x19, fi19_eq, p19, x21, fi21_eq, p21, fi29_eq, k30, x30, fi30_eq, p30, k31, x31, fi31_eq, p31, k32, x32, fi32_eq, p32, k33, x33, fi33_eq, p33, e6_1, e6_3, e6_5, e6_7, e6_10, e6_13, e6_14, e6_12, e6_15, e6_11, e6_9, e6_18, q6_18, e6_21, e6_22, e6_20, e6_23, e6_19, e6_17, e6_25, q6_25, e6_27, q6_27, e6_29, q6_29, e6_31, e6_33, e6_35, q6_35, e6_36, e6_34, e6_32, e6_30, e6_28, e6_26, e6_24, e6_8, e6_6, e6_4, e6_2, e6_0]
      refine TT ⟨1, 2, 0, [], false⟩ ⟨2, 0, 4611686018427387904, [], false⟩ (vr_small (by omega) (by omega)) (vr_f (by simp)) _ _ _ ?_ ?_ ?_ <;> rfl
    · simp [near3, n1, hp, g1, g2, g3, g4, hz, op.1, op.2, -Int.not_le, -Int.not_lt, -Nat.not_le, -Nat.not_lt, ty2, ty3, ty4, ty9, ty22, ty24, ty25, ty27, ty28, ty29, ty31, eq24, hm, hl, hr, fi16_eq, fi17_eq, k18, x18, fi18_eq, p18, k19, x19, fi19_eq, p19, x21, fi21_eq, p21, fi29_eq, k30, x30, fi30_eq, p30, k31, x31, fi31_eq, p31, k32, x32, fi32_eq, p32, k33, x33, fi33_eq, p33, e6_1, e6_3, e6_5, e6_7, e6_10, e6_13, e6_14, e6_12, e6_15, e6_11, e6_9, e6_18, q6_18, e6_21, e6_22, e6_20, e6_23, e6_19, e6_17, e6_25, q6_25, e6_27, q6_27, e6_29, q6_29, e6_31, e6_33, e6_35, q6_35, e6_36, e6_34, e6_32, e6_30, e6_28, e6_26, e6_24, e6_8, e6_6, e6_4, e6_2, e6_0]
      refine TT ⟨1, 3, 0, [], false⟩ ⟨2, 0, 4613937818241073152, [], false⟩ (vr_small (by omega) (by omega)) (vr_f (by simp)) _ _ _ ?_ ?_ ?_ <;> rfl
  · refine ⟨setF (dd (nw st 0 []) p.set.length) st.objs.length l (nA l 0 (k1 + 2 + 2 + 1)), ?_⟩
    refine EvF_start fi6_eq (fun x h => by cases h) m6 ?_
    rw [st6]
    simp [n1, hp, g1, g2, g3, hz, op.1, op.2, -Int.not_le, -Int.not_lt, -Nat.not_le, -Nat.not_lt, ty2, ty3, ty4, ty9, ty22, ty24, ty25, ty27, ty28, ty29, ty31, eq24, hm, hl, hr, fi16_eq, fi17_eq, k18, x18, fi18_eq, p18, k19, x19, fi19_eq, p19, x21, fi21_eq, p21, fi29_eq, k30, x30, fi30_eq, p30, k31, x31, fi31_eq, p31, k32, x32, fi32_eq, p32, k33, x33, fi33_eq, p33, e6_1, e6_3, e6_5, e6_7, e6_10, e6_13, e6_14, e6_12, e6_15, e6_11, e6_9, e6_18, q6_18, e6_21, e6_22, e6_20, e6_23, e6_19, e6_17, e6_25, q6_25, e6_27, q6_27, e6_29, q6_29, e6_31, e6_33, e6_35, q6_35, e6_36, e6_34, e6_32, e6_30, e6_28, e6_26, e6_24, e6_8, e6_6, e6_4, e6_2, e6_0]
    refine TT v w v1 v2 _ _ _ ?_ ?_ ?_ <;> rfl
theorem run6 (l : List Int) : ∃ st', EvF gS 6 [.slice (intVs l)] ⟨[], 0⟩ = some (.ret (.bool true) none, st') := c6 l ⟨[], 0⟩ (Nat.le_refl _)
end Go.Proofs.Ytclpbfkbpcjejaa
namespace Go.Ab
open Go Go.ChangeShapes Go.WideShapes
set_option linter.unusedVariables false
set_option linter.unusedSimpArgs false
set_option linter.unnecessarySimpa false
variable {H : Type} {enc : TypeId × Value → H} {P : Program} {w : World} {base b0 : Nat} {spare : Nat → Bool} {held : Bool} {r : Reach}
theorem arg_ints {t e : TypeId} {k : IntKind} {v : Value} {d : DataW H} {ps : List MemPlace} (ht : P.underlying t = some (.slice e)) (he : P.underlying e = some (.int k)) (hc : P.cellsOf e = 1)
    (hval : Value.okWide P w r b0 t v) (h : DataW.Trod enc P w base spare held t v d ps) : ∃ zs : List Int, Rep K0 w v (.slice (zs.map (V.int k))) ∧ ∀ n ∈ zs, (Lit.int k n).wf = true := by
  obtain ⟨a0, len, cap, rfl⟩ := okWide_slice ht hval
  obtain ⟨fuel, hf⟩ := h
  rcases open_ints ht he hc hf with ⟨hcs, _⟩ | ⟨a, len', cap', zs, hcs, _, hl, hm, hz, _, hcell, hwz⟩
  · simp [Value.cells] at hcs
    obtain ⟨rfl, rfl, rfl⟩ := hcs
    exact ⟨[], .slice0 _ _, by simp⟩
  · simp [Value.cells] at hcs
    obtain ⟨rfl, rfl, rfl⟩ := hcs
    have hzl : len ≤ zs.length := by rw [hz]; split <;> omega
    by_cases h0 : len = 0
    · subst h0; exact ⟨[], .slice0 _ _, by simp⟩
    · refine ⟨zs.take len, ?_, fun n hn => hwz n (List.mem_of_mem_take hn)⟩
      obtain ⟨b, off, spot⟩ := a
      have hspot : spot = none := by simpa [Addr.add] using World.cell?_spot (hcell 0 (by omega))
      subst hspot
      have hlen : ((zs.take len).map (V.int k)).length = len := by simp; omega
      have hfl : ((zs.take len).map (V.int k)).flatMap V.cells = (zs.take len).map (V.int k) := by
        generalize zs.take len = l
        induction l with
        | nil => rfl
        | cons x r ih => simp only [List.map_cons, List.flatMap_cons, ih]; rfl
      have key : Rep K0 w (.slice (some (at_ b off)) ((zs.take len).map (V.int k)).length cap) (.slice ((zs.take len).map (V.int k))) := by
        refine .slice (k := 1) (by rw [hlen]; exact hl) (fun x hx => ?_) ?_
        · obtain ⟨n, _, rfl⟩ := List.mem_map.1 hx; rfl
        · rw [hfl]
          refine RepAt.of_get fun j x hx => ?_
          rw [List.getElem?_map, List.getElem?_take] at hx
          split at hx
          · rename_i hj
            have hjz : j < zs.length := by omega
            rw [List.getElem?_eq_getElem hjz] at hx
            simp only [Option.map_some, Option.some.injEq] at hx
            subst hx
            refine ⟨.int k zs[j], ⟨?_, rfl⟩, .int _ _⟩
            have := hcell j hjz
            simp only [List.getD, List.getElem?_eq_getElem hjz, Option.getD_some] at this
            rwa [show ({ block := b, off := off } : Addr) = at_ b off from rfl, addr_add] at this
          · cases hx
      rw [hlen] at key
      exact key
end Go.Ab
namespace Go.Proofs.Ytclpbfkbpcjejaa
open Go Go.Ab Go.ChangeShapes Go.WideShapes Go.ChangeAt Go.RowKit
set_option linter.unusedVariables false
set_option linter.unusedSimpArgs false
set_option linter.unnecessarySimpa false
set_option maxRecDepth 100000 in
theorem predAlike_lifted (os : Os) (started : os.Started) (H : Type) (enc : TypeId × Value → H) :
    ReturnsInHanded {} Try.checked os 6 .any (Rows.predAlikeSpec.pre6 enc Try.prog Try.f6 Rows.predAlikeRow.domain false) (Rows.predAlikeSpec.post enc Try.prog Try.f6 false true false false) := by
  refine returnsInHanded_of_change_sized (C := Try.checked) Try.own started (by kernel_rfl) Try.func6
    (ChangeSpec.witness6 (enc := enc) (C := Try.checked) false ⟨#[], #[.slice none 0 0], []⟩ 8 (by kernel_rfl) (by kernel_rfl) (by kernel_rfl) (by kernel_rfl)) ?_
  intro W base args ds gs before hval0 hW _ hsz0 _
  have hW' := hW
  obtain ⟨p, q, hA0, hV, rfl, _, _⟩ := hW
  have hA : DataW.TrodAll enc Try.prog W 0 (fun _ => true) true Try.f6.params.toList args.toList ds p := hA0
  have hpar : Try.f6.params = #[28] := by kernel_rfl
  have hval : ∀ (j : Nat) t v, Try.f6.params[j]? = some t → args[j]? = some v → Value.okWide Try.prog W .any base t v := hval0
  rw [hpar] at hA hval
  obtain ⟨l⟩ := args
  obtain ⟨v0, l, d0, ds, p0, r0, rfl, rfl, rfl, h0, hA⟩ := trodAll_cons hA
  obtain ⟨rfl, rfl, rfl⟩ := trodAll_nil hA
  obtain ⟨rfl, rfl⟩ := trodVars_none hV
  obtain ⟨x0, a0, _⟩ := arg_ints Try.underlying28 Try.underlying3 (by kernel_rfl) (hval 0 28 v0 rfl rfl) h0
  have hlt : ∀ y ∈ (p0 ++ []) ++ [], y.block < W.heap.size := fun y hy => hW'.lt y hy
  have hr : Reps K0 W [v0] [.slice (intVs x0)] := .cons a0 .nil
  obtain ⟨st', hev⟩ := run6 x0
  obtain ⟨nn, hrun⟩ := EvF_fuel hev
  refine (law_calls (n := nn) (f := 6) (xs := [.slice (intVs x0)]) (gS_calls nn) (by rw [hrun]) (W := W) (args := #[v0]) hr).mono ?_
  rintro e W' ⟨rfl, hn⟩
  refine ⟨_, rfl, _, _, _, [], p0 ++ [], [], hW', ?_, ?_, rfl, hn.frame _, fun h => by cases h⟩
  · exact trodAll_mk1 (shut_bool Try.underlying4 true)
  · exact ⟨p0, _, Below.trod Try.laidOut (by kernel_rfl) (of_decide_eq_true (by kernel_rfl)) h0 hn (fun y hy => hlt y (by simp [hy])), rfl, rfl⟩
theorem predAlike_holds : Rows.PredAlikeSaid :=
  OpenClaim.holds_of_wide 6 Try.f6 rfl rfl rfl rfl rfl rfl rfl ⟨rfl, rfl, rfl, rfl, rfl⟩ rfl rfl rfl rfl rfl (by kernel_rfl) Try.func6 (by kernel_rfl)
    (of_decide_eq_true (by kernel_rfl)) (by unfold Func.isWrapper; first | (rw [if_pos (by decide +kernel)]; kernel_rfl) | (rw [if_neg (by decide +kernel)]; exact ⟨rfl, rfl⟩))
    (fun os started H enc _ => predAlike_lifted os started H enc)
#print axioms predAlike_holds
end Go.Proofs.Ytclpbfkbpcjejaa
