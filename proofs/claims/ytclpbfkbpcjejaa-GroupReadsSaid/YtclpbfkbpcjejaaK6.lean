/- Whatever attributes, the readers of the groups that match are just the clients one of whose filters takes them. Part 6. -/
import Derived.Test.YtclpbfkbpcjejaaK5
namespace Go.Ab
open Go
set_option linter.unusedVariables false
set_option linter.unusedSimpArgs false
set_option linter.unnecessarySimpa false
theorem vsame_symm {a b : Val} (h : vsame a b = true) : vsame b a = true := by
  simp only [vsame, Bool.and_eq_true, decide_eq_true_eq] at h ⊢
  obtain ⟨⟨⟨⟨h1, h2⟩, h3⟩, h4⟩, h5⟩ := h
  exact ⟨⟨⟨⟨h1.symm, h2.symm⟩, h3.symm⟩, h4.symm⟩, h5.symm⟩
theorem vsame_trans {a b c : Val} (h : vsame a b = true) (k : vsame b c = true) : vsame a c = true := by
  simp only [vsame, Bool.and_eq_true, decide_eq_true_eq] at h k ⊢
  obtain ⟨⟨⟨⟨h1, h2⟩, h3⟩, h4⟩, h5⟩ := h
  obtain ⟨⟨⟨⟨k1, k2⟩, k3⟩, k4⟩, k5⟩ := k
  exact ⟨⟨⟨⟨h1.trans k1, h2.trans k2⟩, h3.trans k3⟩, h4.trans k4⟩, h5.trans k5⟩
theorem sames_symm : ∀ {a b : List Val}, sames a b = true → sames b a = true
  | [], [], _ => rfl
  | x :: r, y :: s, h => by
    simp only [sames, Bool.and_eq_true] at h ⊢
    exact ⟨vsame_symm h.1, sames_symm h.2⟩
  | [], _ :: _, h => by simp [sames] at h
  | _ :: _, [], h => by simp [sames] at h
theorem sames_trans : ∀ {a b c : List Val}, sames a b = true → sames b c = true → sames a c = true
  | [], [], [], _, _ => rfl
  | x :: r, y :: s, z :: t, h, k => by
    simp only [sames, Bool.and_eq_true] at h k ⊢
    exact ⟨vsame_trans h.1 k.1, sames_trans h.2 k.2⟩
  | [], _ :: _, _, h, _ => by simp [sames] at h
  | _ :: _, [], _, h, _ => by simp [sames] at h
  | [], [], _ :: _, _, k => by simp [sames] at k
  | _ :: _, _ :: _, [], _, k => by simp [sames] at k
theorem psame_symm {a b : Pred} (h : psame a b = true) : psame b a = true := by
  simp only [psame, Bool.and_eq_true, decide_eq_true_eq] at h ⊢
  obtain ⟨⟨⟨⟨h1, h2⟩, h3⟩, h4⟩, h5⟩ := h
  exact ⟨⟨⟨⟨h1.symm, h2.symm⟩, vsame_symm h3⟩, vsame_symm h4⟩, sames_symm h5⟩
theorem psame_trans {a b c : Pred} (h : psame a b = true) (k : psame b c = true) : psame a c = true := by
  simp only [psame, Bool.and_eq_true, decide_eq_true_eq] at h k ⊢
  obtain ⟨⟨⟨⟨h1, h2⟩, h3⟩, h4⟩, h5⟩ := h
  obtain ⟨⟨⟨⟨k1, k2⟩, k3⟩, k4⟩, k5⟩ := k
  exact ⟨⟨⟨⟨h1.trans k1, h2.trans k2⟩, vsame_trans h3 k3⟩, vsame_trans h4 k4⟩, sames_trans h5 k5⟩
theorem psame_rfl (p : Pred) : psame p p = true := by simp [psame, vsame_refl, sames_refl]
theorem fsames_rfl : ∀ l : List Pred, fsames l l = true
  | [] => rfl
  | a :: r => by simp [fsames, psame_rfl, fsames_rfl r]
theorem fsames_symm : ∀ {a b : List Pred}, fsames a b = true → fsames b a = true
  | [], [], _ => rfl
  | x :: r, y :: s, h => by
    simp only [fsames, Bool.and_eq_true] at h ⊢
    exact ⟨psame_symm h.1, fsames_symm h.2⟩
  | [], _ :: _, h => by simp [fsames] at h
  | _ :: _, [], h => by simp [fsames] at h
theorem fsames_trans : ∀ {a b c : List Pred}, fsames a b = true → fsames b c = true → fsames a c = true
  | [], [], [], _, _ => rfl
  | x :: r, y :: s, z :: t, h, k => by
    simp only [fsames, Bool.and_eq_true] at h k ⊢
    exact ⟨psame_trans h.1 k.1, fsames_trans h.2 k.2⟩
  | [], _ :: _, _, h, _ => by simp [fsames] at h
  | _ :: _, [], _, h, _ => by simp [fsames] at h
  | [], [], _ :: _, _, k => by simp [fsames] at k
  | _ :: _, _ :: _, [], _, k => by simp [fsames] at k
theorem fsame_iff {a b : List Pred} : fsame a b = true ↔ fsames a b = true := by
  unfold fsame
  rw [Bool.and_eq_true]
  exact ⟨fun h => h.2, fun h => ⟨by simpa using fsames_len h, h⟩⟩
theorem fsame_rfl (f : List Pred) : fsame f f = true := fsame_iff.2 (fsames_rfl f)
theorem fsame_symm {a b : List Pred} (h : fsame a b = true) : fsame b a = true := fsame_iff.2 (fsames_symm (fsame_iff.1 h))
theorem fsame_trans {a b c : List Pred} (h : fsame a b = true) (k : fsame b c = true) : fsame a c = true := fsame_iff.2 (fsames_trans (fsame_iff.1 h) (fsame_iff.1 k))
theorem cmp_same {v a b : Val} (hv : ∃ r, FV v r) (ha : ∃ r, FV a r) (hb : ∃ r, FV b r) (h : vsame a b = true) : cmp v a = cmp v b := by
  obtain ⟨rv, hv⟩ := hv
  obtain ⟨ra, ha⟩ := ha
  obtain ⟨rb, hb⟩ := hb
  rw [cmp_fv hv ha, cmp_fv hv hb, same_fv ha hb h]
theorem any_same {v : Val} (hv : ∃ r, FV v r) : ∀ {a b : List Val}, (∀ x ∈ a, ∃ r, FV x r) → (∀ x ∈ b, ∃ r, FV x r) → sames a b = true → a.any (vis v) = b.any (vis v)
  | [], [], _, _, _ => rfl
  | x :: r, y :: s, ha, hb, h => by
    simp only [sames, Bool.and_eq_true] at h
    rw [List.any_cons, List.any_cons, any_same hv (fun z hz => ha z (by simp [hz])) (fun z hz => hb z (by simp [hz])) h.2]
    unfold vis
    rw [cmp_same hv (ha x (by simp)) (hb y (by simp)) h.1]
  | [], _ :: _, _, _, h => by simp [sames] at h
  | _ :: _, [], _, _, h => by simp [sames] at h
theorem takes_same {p q : Pred} {v : Val} (hp : PFV p) (hq : PFV q) (rp : pright p = true) (rq : pright q = true) (hv : ∃ r, FV v r) (h : psame p q = true) : ptakes p v = ptakes q v := by
  simp only [psame, Bool.and_eq_true, decide_eq_true_eq] at h
  obtain ⟨⟨⟨⟨h1, h2⟩, h3⟩, h4⟩, h5⟩ := h
  have hs : p.v.s = q.v.s := by
    simp only [vsame, Bool.and_eq_true, decide_eq_true_eq] at h3
    exact h3.1.1.2
  unfold ptakes
  rw [rp, rq, h2, cmp_same hv hp.v hq.v h3, cmp_same hv hp.w hq.w h4, any_same hv hp.set hq.set h5, hs]
theorem ftakes_same {A : List Attr} (hA : AFV A) : ∀ {f g : List Pred}, (∀ p ∈ f, PFV p ∧ pright p = true) → (∀ p ∈ g, PFV p ∧ pright p = true) → fsames f g = true → ftakes f A = ftakes g A
  | [], [], _, _, _ => rfl
  | x :: r, y :: s, hf, hg, h => by
    simp only [fsames, Bool.and_eq_true] at h
    have ih := ftakes_same hA (fun z hz => hf z (by simp [hz])) (fun z hz => hg z (by simp [hz])) h.2
    have hn : x.name = y.name := by
      have := h.1
      simp only [psame, Bool.and_eq_true, decide_eq_true_eq] at this
      exact this.1.1.1.1
    unfold ftakes at ih ⊢
    rw [List.all_cons, List.all_cons, ih, hn, takes_same (hf x (by simp)).1 (hg y (by simp)).1 (hf x (by simp)).2 (hg y (by simp)).2 (aget_fv hA) h.1]
  | [], _ :: _, _, _, h => by simp [fsames] at h
  | _ :: _, [], _, _, h => by simp [fsames] at h
theorem takes_of_same {A : List Attr} (hA : AFV A) {f g : List Pred} (hf : FFV f) (hg : FFV g) (h : fsame f g = true) : ftakes f A = ftakes g A :=
  ftakes_same hA (fun p hp => ⟨hf.fv p hp, hf.right p hp⟩) (fun p hp => ⟨hg.fv p hp, hg.right p hp⟩) (fsame_iff.1 h)
theorem fold_and {α : Type} (P : α → Bool) : ∀ (l : List α) (b : Bool), l.foldl (fun b t => b && !P t) b = (b && l.all fun t => !P t)
  | [], b => by simp
  | x :: r, b => by rw [List.foldl_cons, fold_and P r, List.all_cons, Bool.and_assoc]
theorem fstOf_iff {l : List Sub} {i : Nat} {s : Sub} : fstOf l i s = true ↔ ∀ k t, k < i → l[k]? = some t → fsame s.filter t.filter = false := by
  unfold fstOf
  rw [fold_and, Bool.true_and, List.all_eq_true]
  constructor
  · intro h k t hk ht
    have := h t (by
      refine List.mem_of_getElem? (i := k) ?_
      rw [List.getElem?_take, if_pos hk]; exact ht)
    simpa using this
  · intro h t ht
    obtain ⟨k, hk⟩ := List.mem_iff_getElem?.1 ht
    rw [List.getElem?_take] at hk
    split at hk
    · rename_i hlt
      simp [h k t hlt hk]
    · cases hk
theorem gofG_spec (l : List Sub) : ∀ (r : List Sub) (i : Nat) (out : List Grp), l.drop i = r → ∀ x, x ∈ gofG l i r out ↔ x ∈ out ∨ ∃ k s, i ≤ k ∧ l[k]? = some s ∧ fstOf l k s = true ∧ x = ⟨s.filter, cliOf l s⟩
  | [], i, out, hd, x => by
    unfold gofG
    constructor
    · exact .inl
    · rintro (h | ⟨k, s, h1, h2, _⟩)
      · exact h
      · have := (List.getElem?_eq_some_iff.1 h2).1
        have : l.length ≤ i := by simpa using hd
        omega
  | s :: r, i, out, hd, x => by
    have hi : l[i]? = some s := by
      have := congrArg (fun q => q[0]?) hd
      simpa using this
    have hd' : l.drop (i + 1) = r := by
      have := congrArg List.tail hd
      simpa using this
    unfold gofG
    rw [gofG_spec l r (i + 1) _ hd' x]
    constructor
    · rintro (h | ⟨k, t, h1, h2, h3⟩)
      · split at h
        · rename_i hf
          rcases List.mem_append.1 h with h | h
          · exact .inl h
          · simp at h
            exact .inr ⟨i, s, Nat.le_refl _, hi, hf, h⟩
        · exact .inl h
      · exact .inr ⟨k, t, by omega, h2, h3⟩
    · rintro (h | ⟨k, t, h1, h2, h3, h4⟩)
      · left; split
        · exact List.mem_append_left _ h
        · exact h
      · by_cases hk : k = i
        · subst hk
          rw [hi] at h2; cases h2
          left; rw [if_pos h3]; simp [h4]
        · exact .inr ⟨k, t, by omega, h2, h3, h4⟩
theorem gof_mem {l : List Sub} {x : Grp} : x ∈ gof l ↔ ∃ k s, l[k]? = some s ∧ fstOf l k s = true ∧ x = ⟨s.filter, cliOf l s⟩ := by
  unfold gof
  rw [gofG_spec l l 0 [] rfl x]
  constructor
  · rintro (h | ⟨k, s, _, h⟩)
    · simp at h
    · exact ⟨k, s, h⟩
  · rintro ⟨k, s, h⟩; exact .inr ⟨k, s, Nat.zero_le _, h⟩
theorem gofG_len (l : List Sub) : ∀ (r : List Sub) (i : Nat) (out : List Grp), (gofG l i r out).length ≤ out.length + r.length
  | [], _, _ => by simp [gofG]
  | s :: r, i, out => by
    unfold gofG
    have := gofG_len l r (i + 1) (if fstOf l i s then out ++ [⟨s.filter, cliOf l s⟩] else out)
    split at this
    · rename_i h; rw [if_pos h]; simp at this ⊢; omega
    · rename_i h; rw [if_neg h]; simp at this ⊢; omega
theorem gof_len (l : List Sub) : (gof l).length ≤ l.length := by
  have := gofG_len l l 0 []
  unfold gof
  simpa using this
theorem cli_mem (s : Sub) : ∀ (l : List Sub) (acc : List Int) (c : Int), c ∈ l.foldl (cliStep s) acc ↔ c ∈ acc ∨ ∃ t ∈ l, fsame s.filter t.filter = true ∧ t.client = c
  | [], acc, c => by simp
  | t :: r, acc, c => by
    rw [List.foldl_cons, cli_mem s r]
    unfold cliStep
    split
    · rename_i h
      rw [layI_mem]
      constructor
      · rintro ((rfl | h1) | ⟨u, hu, h1⟩)
        · exact .inr ⟨t, by simp, h, rfl⟩
        · exact .inl h1
        · exact .inr ⟨u, by simp [hu], h1⟩
      · rintro (h1 | ⟨u, hu, h1, h2⟩)
        · exact .inl (.inr h1)
        · rcases List.mem_cons.1 hu with rfl | hu
          · exact .inl (.inl h2.symm)
          · exact .inr ⟨u, hu, h1, h2⟩
    · rename_i h
      constructor
      · rintro (h1 | ⟨u, hu, h1⟩)
        · exact .inl h1
        · exact .inr ⟨u, by simp [hu], h1⟩
      · rintro (h1 | ⟨u, hu, h1, h2⟩)
        · exact .inl h1
        · rcases List.mem_cons.1 hu with rfl | hu
          · exact absurd h1 h
          · exact .inr ⟨u, hu, h1, h2⟩
theorem cliOf_mem {l : List Sub} {s : Sub} {c : Int} : c ∈ cliOf l s ↔ ∃ t ∈ l, fsame s.filter t.filter = true ∧ t.client = c := by
  unfold cliOf; rw [cli_mem]; simp
theorem cli_len (s : Sub) : ∀ (l : List Sub) (acc : List Int), (l.foldl (cliStep s) acc).length ≤ acc.length + l.length
  | [], acc => by simp
  | t :: r, acc => by
    rw [List.foldl_cons]
    have := cli_len s r (cliStep s acc t)
    have h2 : (cliStep s acc t).length ≤ acc.length + 1 := by
      unfold cliStep; split
      · exact layI_len _ _
      · omega
    simp only [List.length_cons]; omega
theorem cliOf_len (l : List Sub) (s : Sub) : (cliOf l s).length ≤ l.length := by
  have := cli_len s l []
  unfold cliOf; simpa using this
/-- The first one with the same filter. -/
theorem first_of {l : List Sub} {t : Sub} (ht : t ∈ l) : ∃ k s, l[k]? = some s ∧ fstOf l k s = true ∧ fsame s.filter t.filter = true := by
  obtain ⟨j, hj⟩ := List.mem_iff_getElem?.1 ht
  have key : ∀ n : Nat, (∃ (k : Nat) (s : Sub), k < n ∧ l[k]? = some s ∧ fsame s.filter t.filter = true) → ∃ (k : Nat) (s : Sub), l[k]? = some s ∧ fstOf l k s = true ∧ fsame s.filter t.filter = true := by
    intro n
    induction n with
    | zero => rintro ⟨k, s, h, _⟩; omega
    | succ n ih =>
      rintro ⟨k, s, h1, h2, h3⟩
      by_cases hf : fstOf l k s = true
      · exact ⟨k, s, h2, hf, h3⟩
      · refine ih ?_
        have : ¬ ∀ (q : Nat) (t' : Sub), q < k → l[q]? = some t' → fsame s.filter t'.filter = false := fun h => hf (fstOf_iff.2 h)
        have ⟨q, u, h4, h5, h6⟩ : ∃ (q : Nat) (u : Sub), q < k ∧ l[q]? = some u ∧ fsame s.filter u.filter = true := by
          refine Classical.byContradiction fun hne => this fun q u hq hu => ?_
          cases hc : fsame s.filter u.filter with
          | false => rfl
          | true => exact absurd ⟨q, u, hq, hu, hc⟩ hne
        exact ⟨q, u, by omega, h5, fsame_trans (fsame_symm h6) h3⟩
  exact key (j + 1) ⟨j, t, by omega, hj, fsame_rfl _⟩
theorem matchG_mem (A : List Attr) : ∀ (g : List Grp) (i : Nat) (out : List Int) (c : Int), c ∈ matchG A i g out ↔ c ∈ out ∨ ∃ k x, g[k]? = some x ∧ ftakes x.filter A = true ∧ c = ((i + k : Nat) : Int)
  | [], i, out, c => by simp [matchG]
  | y :: r, i, out, c => by
    unfold matchG
    rw [matchG_mem A r]
    constructor
    · rintro (h | ⟨k, x, h1, h2, h3⟩)
      · split at h
        · rename_i hf
          rcases List.mem_append.1 h with h | h
          · exact .inl h
          · simp at h; exact .inr ⟨0, y, rfl, hf, by simp [h]⟩
        · exact .inl h
      · exact .inr ⟨k + 1, x, by simpa using h1, h2, by rw [h3]; congr 1; omega⟩
    · rintro (h | ⟨k, x, h1, h2, h3⟩)
      · left; split
        · exact List.mem_append_left _ h
        · exact h
      · cases k with
        | zero =>
          simp at h1; subst h1
          left; rw [if_pos h2]; simp [h3]
        | succ k => exact .inr ⟨k, x, by simpa using h1, h2, by rw [h3]; congr 1; omega⟩
theorem gmatch_mem {g : List Grp} {A : List Attr} {c : Int} : c ∈ gmatch g A ↔ ∃ (k : Nat) (x : Grp), g[k]? = some x ∧ ftakes x.filter A = true ∧ c = (k : Int) := by
  unfold gmatch
  rw [matchG_mem]
  simp
theorem matchG_len (A : List Attr) : ∀ (g : List Grp) (i : Nat) (out : List Int), (matchG A i g out).length ≤ out.length + g.length
  | [], _, _ => by simp [matchG]
  | y :: r, i, out => by
    unfold matchG
    have := matchG_len A r (i + 1) (if ftakes y.filter A then out ++ [(i : Int)] else out)
    split at this
    · rename_i h; rw [if_pos h]; simp at this ⊢; omega
    · rename_i h; rw [if_neg h]; simp at this ⊢; omega
theorem lay_fold_mem : ∀ (cs acc : List Int) (c : Int), c ∈ cs.foldl layI acc ↔ c ∈ acc ∨ c ∈ cs
  | [], acc, c => by simp
  | x :: r, acc, c => by
    rw [List.foldl_cons, lay_fold_mem r, layI_mem, List.mem_cons]
    constructor
    · rintro ((h | h) | h)
      · exact .inr (.inl h)
      · exact .inl h
      · exact .inr (.inr h)
    · rintro (h | h | h)
      · exact .inl (.inr h)
      · exact .inl (.inl h)
      · exact .inr h
theorem lay_fold_rising : ∀ (cs acc : List Int), rising acc → rising (cs.foldl layI acc)
  | [], _, h => h
  | x :: r, acc, h => lay_fold_rising r _ (layI_rising h)
theorem readers_mem (g : List Grp) : ∀ (m acc : List Int) (c : Int), (∀ i ∈ m, 0 ≤ i ∧ i < g.length) → (c ∈ m.foldl (rdStep g) acc ↔ c ∈ acc ∨ ∃ i ∈ m, ∃ x, g[i.toNat]? = some x ∧ c ∈ x.clients)
  | [], acc, c, _ => by simp
  | i :: r, acc, c, h => by
    rw [List.foldl_cons, readers_mem g r _ c (fun j hj => h j (by simp [hj]))]
    have hi := h i (by simp)
    obtain ⟨x, hx⟩ : ∃ x, g[i.toNat]? = some x := ⟨g[i.toNat]'(by omega), List.getElem?_eq_getElem (by omega)⟩
    have hr : rdStep g acc i = x.clients.foldl layI acc := by
      unfold rdStep; rw [if_neg (by omega), hx]; rfl
    rw [hr, lay_fold_mem]
    constructor
    · rintro ((h1 | h1) | ⟨j, hj, h1⟩)
      · exact .inl h1
      · exact .inr ⟨i, by simp, x, hx, h1⟩
      · exact .inr ⟨j, by simp [hj], h1⟩
    · rintro (h1 | ⟨j, hj, y, hy, h1⟩)
      · exact .inl (.inl h1)
      · rcases List.mem_cons.1 hj with rfl | hj
        · rw [hx] at hy; cases hy
          exact .inl (.inr h1)
        · exact .inr ⟨j, hj, y, hy, h1⟩
theorem readers_rising (g : List Grp) : ∀ (m acc : List Int), rising acc → rising (m.foldl (rdStep g) acc)
  | [], _, h => h
  | i :: r, acc, h => by
    rw [List.foldl_cons]
    refine readers_rising g r _ ?_
    unfold rdStep
    split
    · exact h
    · exact lay_fold_rising _ _ h
/-- The readers of the groups that match are the clients one of whose filters takes it. -/
theorem reads_mem {l : List Sub} (hl : ∀ s ∈ l, FFV s.filter) {A : List Attr} (hA : AFV A) {c : Int} : c ∈ greaders (gof l) (gmatch (gof l) A) ↔ ∃ t ∈ l, ftakes t.filter A = true ∧ t.client = c := by
  unfold greaders
  rw [readers_mem (gof l) _ [] c (fun i hi => by
    obtain ⟨k, x, h1, _, h3⟩ := gmatch_mem.1 hi
    have := (List.getElem?_eq_some_iff.1 h1).1
    omega)]
  constructor
  · rintro (h | ⟨i, hi, x, hx, hc⟩)
    · simp at h
    · obtain ⟨k, y, h1, h2, h3⟩ := gmatch_mem.1 hi
      subst h3
      rw [Int.toNat_natCast, h1] at hx
      cases hx
      obtain ⟨q, s, h4, h5, rfl⟩ := gof_mem.1 (List.mem_of_getElem? h1)
      obtain ⟨t, ht, h6, h7⟩ := cliOf_mem.1 hc
      exact ⟨t, ht, by rw [← takes_of_same hA (hl s (List.mem_of_getElem? h4)) (hl t ht) h6]; exact h2, h7⟩
  · rintro ⟨t, ht, h1, h2⟩
    right
    obtain ⟨k, s, h3, h4, h5⟩ := first_of ht
    have hg : (⟨s.filter, cliOf l s⟩ : Grp) ∈ gof l := gof_mem.2 ⟨k, s, h3, h4, rfl⟩
    obtain ⟨q, hq⟩ := List.mem_iff_getElem?.1 hg
    refine ⟨(q : Int), gmatch_mem.2 ⟨q, _, hq, ?_, rfl⟩, _, by rw [Int.toNat_natCast]; exact hq, cliOf_mem.2 ⟨t, ht, h5, h2⟩⟩
    rw [takes_of_same hA (hl s (List.mem_of_getElem? h3)) (hl t ht) h5]; exact h1
theorem reads_rising (l : List Sub) (A : List Attr) : rising (greaders (gof l) (gmatch (gof l) A)) := readers_rising _ _ _ List.Pairwise.nil
theorem rising_eq : ∀ {a b : List Int}, rising a → rising b → (∀ x, x ∈ a ↔ x ∈ b) → a = b
  | [], [], _, _, _ => rfl
  | [], y :: s, _, _, h => by have := (h y).2 (by simp); simp at this
  | x :: r, [], _, _, h => by have := (h x).1 (by simp); simp at this
  | x :: r, y :: s, ha, hb, h => by
    unfold rising at ha hb
    rw [List.pairwise_cons] at ha hb
    have hxy : x = y := by
      have h1 := (h x).1 (by simp)
      have h2 := (h y).2 (by simp)
      rcases List.mem_cons.1 h1 with h1 | h1
      · exact h1
      · rcases List.mem_cons.1 h2 with h2 | h2
        · exact h2.symm
        · have := ha.1 y h2
          have := hb.1 x h1
          omega
    subst hxy
    rw [rising_eq ha.2 hb.2 fun z => ?_]
    constructor
    · intro hz
      rcases List.mem_cons.1 ((h z).1 (by simp [hz])) with rfl | h'
      · exact absurd (ha.1 _ hz) (by omega)
      · exact h'
    · intro hz
      rcases List.mem_cons.1 ((h z).2 (by simp [hz])) with rfl | h'
      · exact absurd (hb.1 _ hz) (by omega)
      · exact h'
/-- Whom the law notes, and how many. -/
def wStep (A : List Attr) (p : List Bool × Nat) (s : Sub) : List Bool × Nat :=
  if ftakes s.filter A && !(p.1.getD s.client.toNat false) then (p.1.set s.client.toNat true, p.2 + 1) else p
def w0 : List Bool := [false, false, false, false, false, false, false]
def cntW (w : List Bool) : Nat := (w.filter id).length
theorem cnt_set : ∀ (w : List Bool) (c : Nat), w[c]? = some false → cntW (w.set c true) = cntW w + 1
  | [], c, h => by simp at h
  | b :: r, 0, h => by
    simp at h; subst h
    simp [cntW]
  | b :: r, c + 1, h => by
    have ih := cnt_set r c (by simpa using h)
    unfold cntW at ih ⊢
    cases b <;> simp [ih]
theorem w_fold (A : List Attr) : ∀ (l : List Sub) (w : List Bool) (n : Nat), w.length = 7 → cntW w = n → (∀ s ∈ l, 1 ≤ s.client ∧ s.client ≤ 6) →
    (l.foldl (wStep A) (w, n)).1.length = 7 ∧ cntW (l.foldl (wStep A) (w, n)).1 = (l.foldl (wStep A) (w, n)).2 ∧ ∀ c : Nat, (l.foldl (wStep A) (w, n)).1.getD c false = true ↔ w.getD c false = true ∨ ∃ s ∈ l, ftakes s.filter A = true ∧ s.client = (c : Int)
  | [], w, n, h1, h2, _ => ⟨h1, h2, by simp⟩
  | s :: r, w, n, h1, h2, h3 => by
    have hs := h3 s (by simp)
    rw [List.foldl_cons]
    rw [show wStep A (w, n) s = if ftakes s.filter A && !(w.getD s.client.toNat false) then (w.set s.client.toNat true, n + 1) else (w, n) from rfl]
    by_cases hc : (ftakes s.filter A && !(w.getD s.client.toNat false)) = true
    · rw [if_pos hc]
      rw [Bool.and_eq_true] at hc
      have hlt : s.client.toNat < w.length := by omega
      have hwf : w[s.client.toNat]? = some false := by
        have := hc.2
        rw [List.getD_eq_getElem?_getD, List.getElem?_eq_getElem hlt] at this
        rw [List.getElem?_eq_getElem hlt]
        simpa using this
      obtain ⟨q1, q2, q3⟩ := w_fold A r (w.set s.client.toNat true) (n + 1) (by simpa using h1) (by rw [cnt_set w _ hwf, h2]) (fun t ht => h3 t (by simp [ht]))
      refine ⟨q1, q2, fun c => ?_⟩
      rw [q3 c]
      have hset : (w.set s.client.toNat true).getD c false = true ↔ w.getD c false = true ∨ s.client = (c : Int) := by
        rw [List.getD_eq_getElem?_getD, List.getD_eq_getElem?_getD, List.getElem?_set]
        by_cases he : s.client.toNat = c
        · rw [if_pos he, if_pos hlt]; simp; omega
        · rw [if_neg he]
          constructor
          · exact .inl
          · rintro (h | h)
            · exact h
            · omega
      rw [hset]
      constructor
      · rintro ((h | h) | ⟨t, ht, h⟩)
        · exact .inl h
        · exact .inr ⟨s, by simp, hc.1, h⟩
        · exact .inr ⟨t, by simp [ht], h⟩
      · rintro (h | ⟨t, ht, h, h'⟩)
        · exact .inl (.inl h)
        · rcases List.mem_cons.1 ht with rfl | ht
          · exact .inl (.inr h')
          · exact .inr ⟨t, ht, h, h'⟩
    · rw [if_neg hc]
      obtain ⟨q1, q2, q3⟩ := w_fold A r w n h1 h2 (fun t ht => h3 t (by simp [ht]))
      refine ⟨q1, q2, fun c => ?_⟩
      rw [q3 c]
      constructor
      · rintro (h | ⟨t, ht, h⟩)
        · exact .inl h
        · exact .inr ⟨t, by simp [ht], h⟩
      · rintro (h | ⟨t, ht, h, h'⟩)
        · exact .inl h
        · rcases List.mem_cons.1 ht with rfl | ht
          · left
            rw [Bool.and_eq_true] at hc
            have hct : t.client.toNat = c := by omega
            rw [hct] at hc
            cases hw : w.getD c false with
            | true => rfl
            | false => exact absurd ⟨h, by rw [hw]; rfl⟩ hc
          · exact .inr ⟨t, ht, h, h'⟩
theorem cnt_seven (w : List Bool) (h : w.length = 7) (h0 : w.getD 0 false = false) : (([1, 2, 3, 4, 5, 6] : List Int).filter fun c => w.getD c.toNat false).length = cntW w := by
  match w, h with
  | [a, b, c, d, e, f, g], _ =>
    simp at h0
    subst h0
    revert b c d e f g
    decide
/-- As many readers as were noted, each noted. -/
theorem reads_count {l : List Sub} (hl : ∀ s ∈ l, 1 ≤ s.client ∧ s.client ≤ 6 ∧ FFV s.filter) {A : List Attr} (hA : AFV A) :
    (greaders (gof l) (gmatch (gof l) A)).length = (l.foldl (wStep A) (w0, 0)).2 ∧ (greaders (gof l) (gmatch (gof l) A)).length ≤ 6 ∧ ∀ c ∈ greaders (gof l) (gmatch (gof l) A), 1 ≤ c ∧ c ≤ 6 ∧ (l.foldl (wStep A) (w0, 0)).1.getD c.toNat false = true := by
  obtain ⟨h1, h2, h3⟩ := w_fold A l w0 0 rfl rfl (fun s hs => ⟨(hl s hs).1, (hl s hs).2.1⟩)
  have hz : ∀ c : Nat, (l.foldl (wStep A) (w0, 0)).1.getD c false = true ↔ ∃ s ∈ l, ftakes s.filter A = true ∧ s.client = (c : Int) := by
    intro c
    rw [h3 c]
    have : w0.getD c false = false := by
      unfold w0
      match c with
      | 0 => rfl
      | 1 => rfl
      | 2 => rfl
      | 3 => rfl
      | 4 => rfl
      | 5 => rfl
      | 6 => rfl
      | n + 7 => rfl
    rw [this]; simp
  have hm : ∀ c : Int, c ∈ greaders (gof l) (gmatch (gof l) A) ↔ ∃ t ∈ l, ftakes t.filter A = true ∧ t.client = c := fun c => reads_mem (fun s hs => (hl s hs).2.2) hA
  have h0 : (l.foldl (wStep A) (w0, 0)).1.getD 0 false = false := by
    cases hc : (l.foldl (wStep A) (w0, 0)).1.getD 0 false with
    | false => rfl
    | true =>
      obtain ⟨s, hs, _, h⟩ := (hz 0).1 hc
      have := hl s hs
      omega
  have heq : greaders (gof l) (gmatch (gof l) A) = ([1, 2, 3, 4, 5, 6] : List Int).filter fun c => (l.foldl (wStep A) (w0, 0)).1.getD c.toNat false := by
    refine rising_eq (reads_rising l A) (List.Pairwise.filter _ (by decide)) fun c => ?_
    rw [hm c, List.mem_filter]
    constructor
    · rintro ⟨t, ht, h4, h5⟩
      have := hl t ht
      have hc1 : 1 ≤ c := by omega
      have hc6 : c ≤ 6 := by omega
      refine ⟨by simp; omega, (hz c.toNat).2 ⟨t, ht, h4, by omega⟩⟩
    · rintro ⟨h4, h5⟩
      obtain ⟨t, ht, h6, h7⟩ := (hz c.toNat).1 h5
      simp at h4
      exact ⟨t, ht, h6, by omega⟩
  refine ⟨?_, ?_, fun c hc => ?_⟩
  · rw [heq, cnt_seven _ h1 h0, h2]
  · rw [heq]; exact List.length_filter_le _ _
  · rw [heq, List.mem_filter] at hc
    have := hc.1
    simp at this
    exact ⟨by omega, by omega, hc.2⟩
end Go.Ab
namespace Go.Proofs.Ytclpbfkbpcjejaa
open Go Go.Ab
set_option linter.unusedVariables false
set_option linter.unusedSimpArgs false
set_option linter.unnecessarySimpa false
set_option maxRecDepth 20000
noncomputable section
variable (fr : Fr) (st : St) (k : Kt)
def fi56 : FI := { body := codeOf Try.f56, ntmps := 2, results := [.tmp 0], pers := [0], locals := [], pure := true, marks := [] }
theorem fi56_eq : gS.fn 56 = some fi56 := by kernel_rfl
theorem x56 : gS.ext 56 = none := rfl
theorem p56 : fi56.pure = true := rfl
theorem k56 (fr : Fr) (st : St) : callStep gS (EvF gS) 56 [] fr st = some (.ok (.val (.bool true)) fr st) := by
  have hc : EvF gS 56 [] ⟨[], 0⟩ = some (.ret (.bool true) none, ⟨[], 0⟩) := Evn.lim ⟨400, fun n hn => by
    obtain ⟨m, rfl⟩ : ∃ m, n = m + 400 := ⟨n - 400, by omega⟩
    kernel_rfl⟩
  exact call_pure' rfl fi56_eq rfl rfl ⟨_, hc⟩ rfl
def fi13 : FI := { body := codeOf Try.f13, ntmps := 117, results := [.tmp 4], pers := [0, 1, 4, 5, 6, 7, 8, 9, 10, 11, 12, 13, 14, 15], locals := [12], pure := false, marks := [] }
theorem fi13_eq : gS.fn 13 = some fi13 := by kernel_rfl
theorem st13 (a0 a1 : V) : startFr fi13 [a0, a1] = { ps := [(0, .val a0), (1, .val a1), (4, .any), (5, .any), (6, .any), (7, .any), (8, .any), (9, .any), (10, .any), (11, .any), (12, .any), (13, .any), (14, .any), (15, .any)], ts := [], lc := [] } := rfl
def b13 : Code := mini (codeOf Try.f13)
def c13_18 : Code := .cond (.tmp 28) .skip (.exit 0)
def c13_16 : Code := .seq (codeN b13 2143) c13_18
def c13_39 : Code := .cond (.tmp 41) .skip (.exit 2)
def c13_37 : Code := .seq (codeN b13 4387423) c13_39
def c13_49 : Code := codeN b13 110293599
def c13_47 : Code := .seq (codeN b13 76739167) c13_49
def c13_46 : Code := .cond (.tmp 60) c13_47 .skip
def c13_44 : Code := .seq (codeN b13 18018911) c13_46
def c13_51 : Code := codeN b13 7533151
def c13_42 : Code := .seq (.block 3 c13_44) c13_51
def c13_36 : Code := .seq c13_37 c13_42
def c13_35 : Code := .loop c13_36
def c13_34 : Code := .block 2 c13_35
def c13_32 : Code := .seq (codeN b13 324191) c13_34
def c13_56 : Code := .seq (codeN b13 2486879) .ret
def c13_55 : Code := .cond (.tmp 72) c13_56 .skip
def c13_53 : Code := .seq (codeN b13 651871) c13_55
def c13_67 : Code := .cond (.tmp 76) .skip (.exit 4)
def c13_65 : Code := .seq (codeN b13 8909407) c13_67
def r13_73 : Array Oper := regOps (codeN (codeOf Try.f13) 36172383)
def c13_73 : Code := .region 23 r13_73 true
def q13_73 : List (Oper × Fl) := [(mv 79 11 28, ⟨true, false, true, false, false, false, true, true, false, false, []⟩),
 (mv 80 15 3, ⟨true, false, true, false, false, false, true, true, false, false, []⟩),
 (ixa 81 28 79 80 0, ⟨true, false, true, false, false, false, true, true, false, false, []⟩),
 (ld 82 3 81 3, ⟨true, false, true, false, false, false, true, true, false, false, []⟩),
 (op1 83 (.binOp .lss 3 (.tmp 82) (.const (.int .i64 1)) 3) 4, ⟨true, false, true, false, false, false, true, true, false, false, []⟩),
 (mv 84 83 4, ⟨true, true, true, false, true, false, true, true, false, false, []⟩),
 (mk (some 85) (.move (.tmp 11)) 28 (some (5, false)), ⟨true, false, true, false, false, false, true, true, false, false, []⟩),
 (mk (some 86) (.move (.tmp 15)) 3 (some (5, false)), ⟨true, false, true, false, false, false, true, true, false, false, []⟩),
 (mk (some 87) (.indexAddr 28 (.tmp 85) (.tmp 86)) 0 (some (5, false)), ⟨true, false, true, false, false, false, true, true, false, false, []⟩),
 (mk (some 88) (.load 3 (.tmp 87)) 3 (some (5, false)), ⟨true, false, true, false, false, false, true, true, false, false, []⟩),
 (mk (some 89) (.binOp .gtr 3 (.tmp 88) (.const (.int .i64 6)) 3) 4 (some (5, false)), ⟨true, false, true, false, false, false, true, true, false, false, []⟩),
 (op1 90 (.pick (.tmp 84) (.const (.bool true)) (.tmp 89)) 4, ⟨true, false, true, false, true, false, true, true, false, false, []⟩),
 (mv 91 90 4, ⟨true, false, true, false, true, false, true, true, false, false, []⟩),
 (mk (some 92) (.move (.tmp 11)) 28 (some (12, false)), ⟨true, false, true, false, false, false, true, true, false, false, []⟩),
 (mk (some 93) (.move (.tmp 15)) 3 (some (12, false)), ⟨true, false, true, false, false, false, true, true, false, false, []⟩),
 (mk (some 94) (.indexAddr 28 (.tmp 92) (.tmp 93)) 0 (some (12, false)), ⟨true, false, true, false, false, false, true, true, false, false, []⟩),
 (mk (some 95) (.load 3 (.tmp 94)) 3 (some (12, false)), ⟨true, false, true, false, false, false, true, true, false, false, []⟩),
 (mk (some 96) (.indexAddr 86 (.tmp 12) (.tmp 95)) 0 (some (12, false)), ⟨true, false, true, false, false, false, true, true, false, false, []⟩),
 (mk (some 97) (.load 4 (.tmp 96)) 4 (some (12, false)), ⟨true, false, true, false, false, false, true, true, false, false, []⟩),
 (mk (some 98) (.unOp .not 4 (.tmp 97)) 4 (some (12, false)), ⟨true, false, true, false, true, false, true, true, false, false, []⟩),
 (op1 99 (.pick (.tmp 91) (.const (.bool true)) (.tmp 98)) 4, ⟨true, false, true, false, true, false, true, true, false, false, []⟩),
 (mv 100 99 4, ⟨true, false, true, false, true, false, true, true, false, false, []⟩),
 (mk (some 101) (.move (.tmp 15)) 3 (some (21, false)), ⟨true, false, true, false, true, false, true, true, false, false, []⟩),
 (mk (some 102) (.binOp .gtr 3 (.tmp 101) (.const (.int .i64 0)) 3) 4 (some (21, false)), ⟨true, false, true, false, true, false, true, true, false, false, []⟩),
 (mk (some 103) (.move (.tmp 102)) 4 (some (21, false)), ⟨true, false, true, false, true, false, true, true, false, false, []⟩),
 (mk (some 104) (.move (.tmp 11)) 28 (some (24, true)), ⟨true, false, true, false, false, false, true, true, false, false, []⟩),
 (mk (some 105) (.move (.tmp 15)) 3 (some (24, true)), ⟨true, false, true, false, false, false, true, true, false, false, []⟩),
 (mk (some 106) (.binOp .sub 3 (.tmp 105) (.const (.int .i64 1)) 3) 3 (some (24, true)), ⟨true, false, true, false, false, false, true, true, false, false, []⟩),
 (mk (some 107) (.indexAddr 28 (.tmp 104) (.tmp 106)) 0 (some (24, true)), ⟨true, false, true, false, false, false, true, true, false, false, []⟩),
 (mk (some 108) (.load 3 (.tmp 107)) 3 (some (24, true)), ⟨true, false, true, false, false, false, true, true, false, false, []⟩),
 (mk (some 109) (.move (.tmp 11)) 28 (some (24, true)), ⟨true, false, true, false, false, false, true, true, false, false, []⟩),
 (mk (some 110) (.move (.tmp 15)) 3 (some (24, true)), ⟨true, false, true, false, false, false, true, true, false, false, []⟩),
 (mk (some 111) (.indexAddr 28 (.tmp 109) (.tmp 110)) 0 (some (24, true)), ⟨true, false, true, false, true, false, true, true, false, false, []⟩),
 (mk (some 112) (.load 3 (.tmp 111)) 3 (some (24, true)), ⟨true, false, true, false, true, false, true, true, false, false, []⟩),
 (mk (some 113) (.binOp .geq 3 (.tmp 108) (.tmp 112) 3) 4 (some (24, true)), ⟨true, false, true, false, true, false, true, true, false, false, []⟩),
 (mk (some 114) (.pick (.tmp 103) (.tmp 113) (.const (.bool false))) 4 (some (21, false)), ⟨true, false, true, false, true, false, true, true, false, false, []⟩),
 (op1 115 (.pick (.tmp 100) (.const (.bool true)) (.tmp 114)) 4, ⟨true, false, true, false, true, false, true, true, false, false, []⟩)]
def c13_75 : Code := .seq (codeN b13 153612895) .ret
def c13_74 : Code := .cond (.tmp 115) c13_75 .skip
def c13_72 : Code := .seq c13_73 c13_74
def c13_79 : Code := codeN b13 15200863
def c13_70 : Code := .seq (.block 5 c13_72) c13_79
def c13_64 : Code := .seq c13_65 c13_70
def c13_63 : Code := .loop c13_64
def c13_62 : Code := .block 4 c13_63
def c13_60 : Code := .seq (codeN b13 782943) c13_62
def c13_52 : Code := .seq c13_53 c13_60
theorem e13_52 : evK gS fi13 c13_52 fr st k = evK gS fi13 c13_53 fr st (.seq c13_60 k) := rfl
def c13_31 : Code := .seq c13_32 c13_52
def c13_29 : Code := .seq (codeN b13 94815) c13_31
def c13_27 : Code := .seq (codeN b13 45663) c13_29
def c13_25 : Code := .seq (codeN b13 21087) c13_27
def c13_23 : Code := .seq (codeN b13 8799) c13_25
def c13_80 : Code := codeN b13 3679
theorem e13_80 : evK gS fi13 c13_80 fr st k = opsR gS fi13 [mv 29 9 3,
 op1 30 (.binOp .add 3 (.tmp 29) (.const (.int .i64 1)) 3) 3,
 asn 9 30 3] fr st k := evK_r 7 (by kernel_rfl)
def c13_21 : Code := .seq (.block 1 c13_23) c13_80
def c13_15 : Code := .seq c13_16 c13_21
def c13_14 : Code := .loop c13_15
def c13_13 : Code := .block 0 c13_14
def c13_11 : Code := .seq (codeN b13 159) c13_13
def c13_81 : Code := .seq (codeN b13 191) .ret
def c13_10 : Code := .seq c13_11 c13_81
def c13_8 : Code := .seq (codeN b13 47) c13_10
def c13_6 : Code := .seq (codeN b13 23) c13_8
def c13_4 : Code := .seq (codeN b13 11) c13_6
def c13_2 : Code := .seq (codeN b13 5) c13_4
def c13_0 : Code := .seq (codeN b13 2) c13_2
theorem E13 : evK gS fi13 c13_18 fr st k = condK gS fi13 (fr.op (.tmp 28)).bool? .skip (.exit 0) fr st k ∧
 (evK gS fi13 c13_16 fr st k = opsR gS fi13 [mv 27 9 3,
 op1 28 (.binOp .lss 3 (.tmp 27) (.const (.int .i64 4)) 3) 4] fr st (.seq c13_18 k)) ∧
 evK gS fi13 c13_39 fr st k = condK gS fi13 (fr.op (.tmp 41)).bool? .skip (.exit 2) fr st k ∧
 (evK gS fi13 c13_37 fr st k = opsR gS fi13 [mv 38 14 3,
 mv 39 6 67,
 len1 40 39 67 3,
 bop 41 .lss 3 38 40 3 4] fr st (.seq c13_39 k)) ∧
 (evK gS fi13 c13_49 fr st k = opsR gS fi13 [mv 67 13 3,
 op1 68 (.binOp .add 3 (.tmp 67) (.const (.int .i64 1)) 3) 3,
 asn 13 68 3] fr st k) ∧
 (evK gS fi13 c13_47 fr st k = opsR gS fi13 [mv 61 6 67,
 mv 62 14 3,
 ixa 63 67 61 62 0,
 op1 64 (.fieldAddr 70 (.tmp 63) 0) 0,
 ld 65 3 64 3,
 ixa 66 86 12 65 0,
 mk none (.store 4 (.tmp 66) (.const (.bool true))) 0 none] fr st (.seq c13_49 k)) ∧
 evK gS fi13 c13_46 fr st k = condK gS fi13 (fr.op (.tmp 60)).bool? c13_47 .skip fr st k ∧
 (evK gS fi13 c13_44 fr st k = opsR gS fi13 [mv 44 6 67,
 mv 45 14 3,
 ixa 46 67 44 45 0,
 op1 47 (.fieldAddr 70 (.tmp 46) 3) 0,
 ld 48 49 47 49,
 mv 49 10 50,
 cal 50 39 [(.tmp 48), (.tmp 49)] [49, 50] 4,
 mv 51 50 4,
 mk (some 52) (.move (.tmp 6)) 67 (some (7, true)),
 mk (some 53) (.move (.tmp 14)) 3 (some (7, true)),
 mk (some 54) (.indexAddr 67 (.tmp 52) (.tmp 53)) 0 (some (7, true)),
 mk (some 55) (.fieldAddr 70 (.tmp 54) 0) 0 (some (7, true)),
 mk (some 56) (.load 3 (.tmp 55)) 3 (some (7, true)),
 mk (some 57) (.indexAddr 86 (.tmp 12) (.tmp 56)) 0 (some (7, true)),
 mk (some 58) (.load 4 (.tmp 57)) 4 (some (7, true)),
 mk (some 59) (.unOp .not 4 (.tmp 58)) 4 (some (7, true)),
 op1 60 (.pick (.tmp 51) (.tmp 59) (.const (.bool false))) 4] fr st (.seq c13_46 k)) ∧
 (evK gS fi13 c13_51 fr st k = opsR gS fi13 [mv 42 14 3,
 op1 43 (.binOp .add 3 (.tmp 42) (.const (.int .i64 1)) 3) 3,
 asn 14 43 3] fr st k) ∧
 evK gS fi13 c13_42 fr st k = evK gS fi13 c13_44 fr st (.blk 3 (.seq c13_51 k)) ∧
 evK gS fi13 c13_36 fr st k = evK gS fi13 c13_37 fr st (.seq c13_42 k) ∧
 evK gS fi13 c13_34 fr st k = evK gS fi13 c13_35 fr st (.blk 2 k) ∧
 evK gS fi13 c13_32 fr st k = opsR gS fi13 [op1 14 (.assign (.const (.int .i64 0))) 3] fr st (.seq c13_34 k) ∧
 evK gS fi13 c13_56 fr st k = opsR gS fi13 [op1 4 (.assign (.const (.bool false))) 4] fr st (.seq .ret k) ∧
 evK gS fi13 c13_55 fr st k = condK gS fi13 (fr.op (.tmp 72)).bool? c13_56 .skip fr st k ∧
 (evK gS fi13 c13_53 fr st k = opsR gS fi13 [mv 69 11 28,
 len1 70 69 28 3,
 mv 71 13 3,
 bop 72 .neq 3 70 71 3 4] fr st (.seq c13_55 k)) ∧
 evK gS fi13 c13_67 fr st k = condK gS fi13 (fr.op (.tmp 76)).bool? .skip (.exit 4) fr st k ∧
 (evK gS fi13 c13_65 fr st k = opsR gS fi13 [mv 73 15 3,
 mv 74 11 28,
 len1 75 74 28 3,
 bop 76 .lss 3 73 75 3 4] fr st (.seq c13_67 k)) ∧
 evK gS fi13 c13_73 fr st k = drwR gS fi13 r13_73 q13_73 fr st k ∧
 evK gS fi13 c13_75 fr st k = opsR gS fi13 [op1 4 (.assign (.const (.bool false))) 4] fr st (.seq .ret k) ∧
 evK gS fi13 c13_74 fr st k = condK gS fi13 (fr.op (.tmp 115)).bool? c13_75 .skip fr st k ∧
 evK gS fi13 c13_72 fr st k = evK gS fi13 c13_73 fr st (.seq c13_74 k) ∧
 (evK gS fi13 c13_79 fr st k = opsR gS fi13 [mv 77 15 3,
 op1 78 (.binOp .add 3 (.tmp 77) (.const (.int .i64 1)) 3) 3,
 asn 15 78 3] fr st k) ∧
 evK gS fi13 c13_70 fr st k = evK gS fi13 c13_72 fr st (.blk 5 (.seq c13_79 k)) ∧
 evK gS fi13 c13_64 fr st k = evK gS fi13 c13_65 fr st (.seq c13_70 k) ∧
 evK gS fi13 c13_62 fr st k = evK gS fi13 c13_63 fr st (.blk 4 k) ∧
 evK gS fi13 c13_60 fr st k = opsR gS fi13 [op1 15 (.assign (.const (.int .i64 0))) 3] fr st (.seq c13_62 k) ∧
 evK gS fi13 c13_31 fr st k = evK gS fi13 c13_32 fr st (.seq c13_52 k) ∧
 evK gS fi13 c13_29 fr st k = opsR gS fi13 [op1 13 (.assign (.const (.int .i64 0))) 3] fr st (.seq c13_31 k) ∧
 evK gS fi13 c13_27 fr st k = opsR gS fi13 [op1 12 (.alloc 86) 0] fr st (.seq c13_29 k) ∧
 (evK gS fi13 c13_25 fr st k = opsR gS fi13 [mv 33 7 71,
 mv 34 7 71,
 mv 35 10 50,
 cal 36 59 [(.tmp 34), (.tmp 35)] [71, 50] 28,
 cal 37 60 [(.tmp 33), (.tmp 36)] [71, 28] 28,
 asn 11 37 28] fr st (.seq c13_27 k)) ∧
 (evK gS fi13 c13_23 fr st k = opsR gS fi13 [mv 31 8 29,
 cal 32 36 [(.tmp 31)] [29] 50,
 asn 10 32 50] fr st (.seq c13_25 k)) ∧
 evK gS fi13 c13_21 fr st k = evK gS fi13 c13_23 fr st (.blk 1 (.seq c13_80 k)) ∧
 evK gS fi13 c13_15 fr st k = evK gS fi13 c13_16 fr st (.seq c13_21 k) ∧
 evK gS fi13 c13_13 fr st k = evK gS fi13 c13_14 fr st (.blk 0 k) ∧
 evK gS fi13 c13_11 fr st k = opsR gS fi13 [op1 9 (.assign (.const (.int .i64 0))) 3] fr st (.seq c13_13 k) ∧
 (evK gS fi13 c13_81 fr st k = opsR gS fi13 [cal 116 56 [] [] 4,
 asn 4 116 4] fr st (.seq .ret k)) ∧
 evK gS fi13 c13_10 fr st k = evK gS fi13 c13_11 fr st (.seq c13_81 k) ∧
 (evK gS fi13 c13_8 fr st k = opsR gS fi13 [mv 24 1 28,
 op1 25 (.build 31 #[(0, (.tmp 24))]) 31,
 op1 26 (.box 31 (.tmp 25)) 29,
 asn 8 26 29] fr st (.seq c13_10 k)) ∧
 (evK gS fi13 c13_6 fr st k = opsR gS fi13 [mv 22 6 67,
 cal 23 54 [(.tmp 22)] [67] 71,
 asn 7 23 71] fr st (.seq c13_8 k)) ∧
 (evK gS fi13 c13_4 fr st k = opsR gS fi13 [mv 19 5 29,
 op1 20 (.buildSlice 28 3 #[(0, (.const (.int .i64 0))), (1, (.const (.int .i64 0))), (2, (.const (.int .i64 1)))]) 28,
 cal 21 53 [(.tmp 19), (.tmp 20)] [29, 28] 67,
 asn 6 21 67] fr st (.seq c13_6 k)) ∧
 (evK gS fi13 c13_2 fr st k = opsR gS fi13 [mv 16 0 28,
 op1 17 (.build 31 #[(0, (.tmp 16))]) 31,
 op1 18 (.box 31 (.tmp 17)) 29,
 asn 5 18 29] fr st (.seq c13_4 k)) ∧
 evK gS fi13 c13_0 fr st k = opsR gS fi13 [op1 4 (.assign (.const (.bool false))) 4] fr st (.seq c13_2 k) := ⟨rfl, evK_rs 6 rfl (by kernel_rfl), rfl, evK_rs 13 rfl (by kernel_rfl), evK_r 17 (by kernel_rfl), evK_rs 16 rfl (by kernel_rfl), rfl, evK_rs 15 rfl (by kernel_rfl), evK_r 14 (by kernel_rfl), rfl, rfl, rfl, evK_rs 12 rfl (by kernel_rfl), evK_rs 19 rfl (by kernel_rfl), rfl, evK_rs 18 rfl (by kernel_rfl), rfl, evK_rs 21 rfl (by kernel_rfl), evK_dr 23 rfl (by kernel_rfl) (by kernel_rfl), evK_rs 24 rfl (by kernel_rfl), rfl, rfl, evK_r 22 (by kernel_rfl), rfl, rfl, rfl, evK_rs 20 rfl (by kernel_rfl), rfl, evK_rs 11 rfl (by kernel_rfl), evK_rs 10 rfl (by kernel_rfl), evK_rs 9 rfl (by kernel_rfl), evK_rs 8 rfl (by kernel_rfl), rfl, rfl, rfl, evK_rs 5 rfl (by kernel_rfl), evK_rs 25 rfl (by kernel_rfl), rfl, evK_rs 4 rfl (by kernel_rfl), evK_rs 3 rfl (by kernel_rfl), evK_rs 2 rfl (by kernel_rfl), evK_rs 1 rfl (by kernel_rfl), evK_rs 0 rfl (by kernel_rfl)⟩
theorem m13 : mini fi13.body = c13_0 := by kernel_rfl
theorem n13_35 (fr : Fr) (st : St) (k : Kt) : nextK gS fi13 (.loop c13_36 k) .normal fr st = evK gS fi13 c13_35 fr st k := rfl
theorem n13_63 (fr : Fr) (st : St) (k : Kt) : nextK gS fi13 (.loop c13_64 k) .normal fr st = evK gS fi13 c13_63 fr st k := rfl
theorem n13_14 (fr : Fr) (st : St) (k : Kt) : nextK gS fi13 (.loop c13_15 k) .normal fr st = evK gS fi13 c13_14 fr st k := rfl
/-- Where a feed stands behind so many rows of attributes. -/
def attrsJ (l : List Int) : Nat → Nat → Nat
  | 0, j => j
  | r + 1, j => attrsJ l r (attrsV l 0 j).2
set_option maxHeartbeats 8000000 in
theorem L13_35 (xs : List Sub) (hx1 : ∀ s ∈ xs, 1 ≤ s.client ∧ s.client ≤ 6 ∧ PSm s.filter) (hx2 : xs.length ≤ 1000) (A : List Attr) (hA : A.length < 4611686018427387904) (rs l1 l2 : List Int) (id m9 : Nat) (e5 : E) (h5 : e5.Tame) (S : St) (R : Out × St) (fin : List Bool × Nat)
    (H : ∀ e15 T X, e15.Tame → lk X 12 = some (fin.1.map V.bool) → evK gS fi13 c13_52 { ps := [(0, .val (.slice (intVs l1))), (1, .val (.slice (intVs l2))), (4, .val (.bool false)), (5, e5), (6, .val (.slice (encSubs xs))), (7, .val (.slice (encGrps (gof xs)))), (8, .val (.ptr id 0)), (9, .val (.int .i64 (m9 : Nat))), (10, .val (.slice (encAttrs A))), (11, .val (.slice (intVs rs))), (12, .lp 12 0), (13, .val (.int .i64 fin.2)), (14, .val (.int .i64 xs.length)), (15, e15)], ts := T, lc := X } S (.blk 1 (.seq c13_80 (.loop c13_15 (.blk 0 (.seq c13_81 .nil))))) = some R) :
    ∀ (m i : Nat) (w : List Bool) (q : Nat) (e15 : E) (T : List (Nat × E)) (X : List (Nat × List V)) (h15 : e15.Tame) (hX : lk X 12 = some (w.map V.bool)), i ≤ xs.length → xs.length - i = m → w.length = 7 → q ≤ i → fin = (xs.drop i).foldl (wStep A) (w, q) →
    evK gS fi13 c13_35 { ps := [(0, .val (.slice (intVs l1))), (1, .val (.slice (intVs l2))), (4, .val (.bool false)), (5, e5), (6, .val (.slice (encSubs xs))), (7, .val (.slice (encGrps (gof xs)))), (8, .val (.ptr id 0)), (9, .val (.int .i64 (m9 : Nat))), (10, .val (.slice (encAttrs A))), (11, .val (.slice (intVs rs))), (12, .lp 12 0), (13, .val (.int .i64 (q : Nat))), (14, .val (.int .i64 (i : Nat))), (15, e15)], ts := T, lc := X } S (.blk 2 (.seq c13_52 (.blk 1 (.seq c13_80 (.loop c13_15 (.blk 0 (.seq c13_81 .nil))))))) = some R := by
  intro m
  have hm : fi13.marks = [] := rfl
  have hl : fi13.locals = [12] := rfl
  have hr : fi13.results = [.tmp 4] := rfl
  induction m with
  | zero =>
    intro i w q e15 T X h15 hX hi hm2 hw7 hq hf
    obtain rfl : i = xs.length := by omega
    rw [List.drop_length, List.foldl_nil] at hf
    subst hf
    refine evK_loop c13_36 _ _ _ _ rfl ?_
    simp [-Int.natCast_add, -St.obj, -St.set, h5, h15, -Int.not_le, -Int.not_lt, -Nat.not_le, -Nat.not_lt, ty3, ty4, ty28, ty29, ty31, ty49, ty50, ty67, ty70, ty71, ty86, hm, hl, hr, fi36_eq, x39, fi39_eq, p39, fi53_eq, fi54_eq, k56, x56, fi56_eq, p56, fi59_eq, fi60_eq, E13, q13_73, e13_80, n13_35, n13_63, n13_14]
    exact H _ _ _ h15 hX
  | succ m ih =>
    intro i w q e15 T X h15 hX hi hm2 hw7 hq hf
    obtain ⟨x, hx⟩ : ∃ x, xs[i]? = some x := ⟨xs[i]'(by omega), List.getElem?_eq_getElem (by omega)⟩
    have hd := drop_get hx
    have hlt : (i : Int) < (xs.length : Int) := by omega
    obtain ⟨hlt2, hxe⟩ := List.getElem?_eq_some_iff.1 hx
    have hw : IntKind.wrap .i64 ((i : Int) + 1) = ((i + 1 : Nat) : Int) := by rw [wrap64 (by omega) (by omega)]; omega
    have hwq : IntKind.wrap .i64 ((q : Int) + 1) = ((q + 1 : Nat) : Int) := by rw [wrap64 (by omega) (by omega)]; omega
    rw [hd, List.foldl_cons] at hf
    obtain ⟨c1, c2, hxp⟩ := hx1 x (List.mem_of_getElem? hx)
    have hxo := hxp.ok
    have kk : ∀ (fr : Fr) (st : St), callStep gS (EvF gS) 39 [.slice (encPreds x.filter), .slice (encAttrs A)] fr st = some (.ok (.val (.bool (ftakes x.filter A))) fr st) := fun fr st => k39 x.filter A hxo hA fr st
    rw [show wStep A (w, q) x = if ftakes x.filter A && !(w.getD x.client.toNat false) then (w.set x.client.toNat true, q + 1) else (w, q) from rfl] at hf
    obtain ⟨cl, hcl⟩ : ∃ cl : Nat, x.client = (cl : Int) := ⟨x.client.toNat, by omega⟩
    rw [hcl, Int.toNat_natCast] at hf
    have c7 : cl < 7 := by omega
    have c7i : (cl : Int) < 7 := by omega
    obtain ⟨b, hb⟩ : ∃ b, w[cl]? = some b := ⟨w[cl]'(by omega), List.getElem?_eq_getElem (by omega)⟩
    have hbd : w.getD cl false = b := by rw [List.getD_eq_getElem?_getD, hb]; rfl
    rw [hbd] at hf
    have hcell : (w.map V.bool)[cl]? = some (.bool b) := by rw [List.getElem?_map, hb]; rfl
    have hspl : splice (w.map V.bool) cl [.bool true] = some ((w.set cl true).map V.bool) := by
      unfold splice
      rw [if_pos (by simp; omega), List.map_set]
      rw [List.set_eq_take_append_cons_drop, if_pos (by simp; omega)]
      simp
    have hwl : (w.map V.bool).length = 7 := by simp [hw7]
    refine evK_loop c13_36 _ _ _ _ rfl ?_
    cases ht : ftakes x.filter A with
    | false =>
      rw [ht] at kk hf
      simp only [Bool.false_and, Bool.false_eq_true, if_false] at hf
      have IH := fun e15 T X h15 hX => ih (i + 1) w q e15 T X h15 hX (by omega) (by omega) hw7 (by omega) hf
      simp [-Int.natCast_add, -St.obj, -St.set, h5, h15, hx, hxe, hlt, hlt2, hw, kk, -Int.not_le, -Int.not_lt, -Nat.not_le, -Nat.not_lt, ty3, ty4, ty28, ty29, ty31, ty49, ty50, ty67, ty70, ty71, ty86, hm, hl, hr, fi36_eq, x39, fi39_eq, p39, fi53_eq, fi54_eq, k56, x56, fi56_eq, p56, fi59_eq, fi60_eq, E13, q13_73, e13_80, n13_35, n13_63, n13_14]
      exact IH _ _ _ h15 hX
    | true =>
      rw [ht] at kk hf
      cases b with
      | true =>
        simp only [Bool.not_true, Bool.and_false, Bool.false_eq_true, if_false] at hf
        have IH := fun e15 T X h15 hX => ih (i + 1) w q e15 T X h15 hX (by omega) (by omega) hw7 (by omega) hf
        generalize w.map V.bool = W at *
        simp [-Int.natCast_add, -St.obj, -St.set, h5, h15, hx, hxe, hlt, hlt2, hw, kk, hcl, c7, c7i, hcell, hX, -Int.not_le, -Int.not_lt, -Nat.not_le, -Nat.not_lt, ty3, ty4, ty28, ty29, ty31, ty49, ty50, ty67, ty70, ty71, ty86, hm, hl, hr, fi36_eq, x39, fi39_eq, p39, fi53_eq, fi54_eq, k56, x56, fi56_eq, p56, fi59_eq, fi60_eq, E13, q13_73, e13_80, n13_35, n13_63, n13_14]
        exact IH _ _ _ h15 hX
      | false =>
        simp only [Bool.not_false, Bool.and_true, if_true] at hf
        have IH := fun e15 T X h15 hX => ih (i + 1) (w.set cl true) (q + 1) e15 T X h15 hX (by omega) (by omega) (by simpa using hw7) (by omega) hf
        generalize (w.set cl true).map V.bool = W2 at *
        generalize w.map V.bool = W at *
        simp [-Int.natCast_add, -St.obj, -St.set, -splice, h5, h15, hx, hxe, hlt, hlt2, hw, hwq, kk, hcl, c7, c7i, hcell, hX, hspl, -Int.not_le, -Int.not_lt, -Nat.not_le, -Nat.not_lt, ty3, ty4, ty28, ty29, ty31, ty49, ty50, ty67, ty70, ty71, ty86, hm, hl, hr, fi36_eq, x39, fi39_eq, p39, fi53_eq, fi54_eq, k56, x56, fi56_eq, p56, fi59_eq, fi60_eq, E13, q13_73, e13_80, n13_35, n13_63, n13_14]
        exact IH _ _ _ h15 (lk_lset_self _ _ _ _ hX)
set_option maxHeartbeats 8000000 in
theorem L13_63 (xs : List Sub) (hx1 : ∀ s ∈ xs, 1 ≤ s.client ∧ s.client ≤ 6 ∧ PSm s.filter) (hx2 : xs.length ≤ 1000) (A : List Attr) (hA : A.length < 4611686018427387904) (rs l1 l2 : List Int) (id m9 : Nat) (e5 : E) (h5 : e5.Tame) (S : St) (R : Out × St) (w : List Bool) (hw7 : w.length = 7) (hrs : ∀ r ∈ rs, 1 ≤ r ∧ r ≤ 6 ∧ w.getD r.toNat false = true) (hri : rising rs) (hrl : rs.length ≤ 6) (e13 e14 : E) (h13 : e13.Tame) (h14 : e14.Tame)
    (H : ∀ e15 T X, e15.Tame → evK gS fi13 c13_80 { ps := [(0, .val (.slice (intVs l1))), (1, .val (.slice (intVs l2))), (4, .val (.bool false)), (5, e5), (6, .val (.slice (encSubs xs))), (7, .val (.slice (encGrps (gof xs)))), (8, .val (.ptr id 0)), (9, .val (.int .i64 (m9 : Nat))), (10, .val (.slice (encAttrs A))), (11, .val (.slice (intVs rs))), (12, .lp 12 0), (13, e13), (14, e14), (15, e15)], ts := T, lc := X } S (.loop c13_15 (.blk 0 (.seq c13_81 .nil))) = some R) :
    ∀ (m i : Nat) (T : List (Nat × E)) (X : List (Nat × List V)) (hX : lk X 12 = some (w.map V.bool)), i ≤ rs.length → rs.length - i = m →
    evK gS fi13 c13_63 { ps := [(0, .val (.slice (intVs l1))), (1, .val (.slice (intVs l2))), (4, .val (.bool false)), (5, e5), (6, .val (.slice (encSubs xs))), (7, .val (.slice (encGrps (gof xs)))), (8, .val (.ptr id 0)), (9, .val (.int .i64 (m9 : Nat))), (10, .val (.slice (encAttrs A))), (11, .val (.slice (intVs rs))), (12, .lp 12 0), (13, e13), (14, e14), (15, .val (.int .i64 (i : Nat)))], ts := T, lc := X } S (.blk 4 (.blk 1 (.seq c13_80 (.loop c13_15 (.blk 0 (.seq c13_81 .nil)))))) = some R := by
  intro m
  have hm : fi13.marks = [] := rfl
  have hl : fi13.locals = [12] := rfl
  have hr : fi13.results = [.tmp 4] := rfl
  induction m with
  | zero =>
    intro i T X hX hi hm2
    obtain rfl : i = rs.length := by omega
    refine evK_loop c13_64 _ _ _ _ rfl ?_
    simp [-Int.natCast_add, -St.obj, -St.set, h5, h13, h14, -Int.not_le, -Int.not_lt, -Nat.not_le, -Nat.not_lt, ty3, ty4, ty28, ty29, ty31, ty49, ty50, ty67, ty70, ty71, ty86, hm, hl, hr, fi36_eq, x39, fi39_eq, p39, fi53_eq, fi54_eq, k56, x56, fi56_eq, p56, fi59_eq, fi60_eq, E13, q13_73, e13_52, n13_35, n13_63, n13_14]
    exact H _ _ _ (tame_val _)
  | succ m ih =>
    intro i T X hX hi hm2
    obtain ⟨x, hx⟩ : ∃ x, rs[i]? = some x := ⟨rs[i]'(by omega), List.getElem?_eq_getElem (by omega)⟩
    have hlt : (i : Int) < (rs.length : Int) := by omega
    obtain ⟨hlt2, hxe⟩ := List.getElem?_eq_some_iff.1 hx
    have hw : IntKind.wrap .i64 ((i : Int) + 1) = ((i + 1 : Nat) : Int) := by rw [wrap64 (by omega) (by omega)]; omega
    obtain ⟨r1, r6, hrw⟩ := hrs x (List.mem_of_getElem? hx)
    obtain ⟨cl, rfl⟩ : ∃ cl : Nat, x = (cl : Int) := ⟨x.toNat, by omega⟩
    rw [Int.toNat_natCast] at hrw
    have c7 : cl < 7 := by omega
    have c7i : (cl : Int) < 7 := by omega
    have n1 : ¬ ((cl : Int) < 1) := by omega
    have n6 : ¬ ((6 : Int) < (cl : Int)) := by omega
    have n1' : ¬ (cl < 1) := by omega
    have n6' : ¬ (6 < cl) := by omega
    have hcell : (w.map V.bool)[cl]? = some (.bool true) := by
      rw [List.getElem?_map, List.getElem?_eq_getElem (by omega)]
      rw [List.getD_eq_getElem?_getD, List.getElem?_eq_getElem (by omega)] at hrw
      simp at hrw
      rw [hrw]; rfl
    have hwl : (w.map V.bool).length = 7 := by simp [hw7]
    generalize w.map V.bool = W at *
    have IH := fun T => ih (i + 1) T X hX (by omega) (by omega)
    refine evK_loop c13_64 _ _ _ _ rfl ?_
    by_cases h0 : i = 0
    · subst h0
      simp only [Nat.zero_add, show ((1 : Nat) : Int) = 1 from rfl] at IH
      simp [-Int.natCast_add, -St.obj, -St.set, h5, h13, h14, hx, hxe, hlt, hlt2, hw, c7, c7i, n1, n6, n1', n6', hcell, hX, w64_1, IH, -Int.not_le, -Int.not_lt, -Nat.not_le, -Nat.not_lt, ty3, ty4, ty28, ty29, ty31, ty49, ty50, ty67, ty70, ty71, ty86, hm, hl, hr, fi36_eq, x39, fi39_eq, p39, fi53_eq, fi54_eq, k56, x56, fi56_eq, p56, fi59_eq, fi60_eq, E13, q13_73, e13_52, n13_35, n13_63, n13_14]
    · obtain ⟨y, hy⟩ : ∃ y, rs[i - 1]? = some y := ⟨rs[i - 1]'(by omega), List.getElem?_eq_getElem (by omega)⟩
      obtain ⟨hyl, hye⟩ := List.getElem?_eq_some_iff.1 hy
      have hyx : y < (cl : Int) := by
        have := List.pairwise_iff_getElem.1 hri (i - 1) i hyl hlt2 (by omega)
        rw [hye, hxe] at this; exact this
      have hyn : ¬ ((cl : Int) ≤ y) := by omega
      have hip : (0 : Int) < (i : Int) := by omega
      have hip2 : 0 < i := by omega
      have hw1 : IntKind.wrap .i64 ((i : Int) - 1) = ((i - 1 : Nat) : Int) := by rw [wrap64 (by omega) (by omega)]; omega
      have hilt : ((i - 1 : Nat) : Int) < (rs.length : Int) := by omega
      simp [-Int.natCast_add, -St.obj, -St.set, h0, h5, h13, h14, hx, hxe, hlt, hlt2, hw, hw1, hy, hye, hyl, hyn, hip, hip2, hilt, c7, c7i, n1, n6, n1', n6', hcell, hX, IH, -Int.not_le, -Int.not_lt, -Nat.not_le, -Nat.not_lt, ty3, ty4, ty28, ty29, ty31, ty49, ty50, ty67, ty70, ty71, ty86, hm, hl, hr, fi36_eq, x39, fi39_eq, p39, fi53_eq, fi54_eq, k56, x56, fi56_eq, p56, fi59_eq, fi60_eq, E13, q13_73, e13_52, n13_35, n13_63, n13_14]
set_option maxHeartbeats 8000000 in
theorem L13_14 (xs : List Sub) (hxa : ∀ s ∈ xs, 1 ≤ s.client ∧ s.client ≤ 6 ∧ FFV s.filter ∧ s.filter.length ≤ 3) (hx2 : xs.length ≤ 18) (l1 l2 : List Int) (id i5 : Nat) (S : St) (hS : FeedOk S id) :
    ∀ (r m9 j : Nat) (e10 e11 e12 e13 e14 e15 : E) (T : List (Nat × E)) (X : List (Nat × List V)) (h10 : e10.Tame) (h11 : e11.Tame) (h12 : e12.Tame) (h13 : e13.Tame) (h14 : e14.Tame) (h15 : e15.Tame), m9 + r = 4 → j + 15 * r < 549755800000 →
    evK gS fi13 c13_14 { ps := [(0, .val (.slice (intVs l1))), (1, .val (.slice (intVs l2))), (4, .val (.bool false)), (5, .val (.ptr i5 0)), (6, .val (.slice (encSubs xs))), (7, .val (.slice (encGrps (gof xs)))), (8, .val (.ptr id 0)), (9, .val (.int .i64 (m9 : Nat))), (10, e10), (11, e11), (12, e12), (13, e13), (14, e14), (15, e15)], ts := T, lc := X } (setF S id l2 (nA l2 0 j)) (.blk 0 (.seq c13_81 .nil)) = some (.ret (.bool true) none, setF S id l2 (nA l2 0 (attrsJ l2 r j))) := by
  intro r
  have hm : fi13.marks = [] := rfl
  have hl : fi13.locals = [12] := rfl
  have hr : fi13.results = [.tmp 4] := rfl
  have hx1 : ∀ s ∈ xs, 1 ≤ s.client ∧ s.client ≤ 6 ∧ PSm s.filter := fun s hs => ⟨(hxa s hs).1, (hxa s hs).2.1, psm_ffv (hxa s hs).2.2⟩
  induction r with
  | zero =>
    intro m9 j e10 e11 e12 e13 e14 e15 T X h10 h11 h12 h13 h14 h15 hm9 hj
    obtain rfl : m9 = 4 := by omega
    refine evK_loop c13_15 _ _ _ _ rfl ?_
    simp [-St.obj, -St.set, h10, h11, h12, h13, h14, h15, attrsJ, k56, -Int.not_le, -Int.not_lt, -Nat.not_le, -Nat.not_lt, ty3, ty4, ty28, ty29, ty31, ty49, ty50, ty67, ty70, ty71, ty86, hm, hl, hr, fi36_eq, x39, fi39_eq, p39, fi53_eq, fi54_eq, k56, x56, fi56_eq, p56, fi59_eq, fi60_eq, E13, q13_73, e13_52, e13_80, n13_35, n13_63, n13_14]
  | succ r ih =>
    intro m9 j e10 e11 e12 e13 e14 e15 T X h10 h11 h12 h13 h14 h15 hm9 hj
    have hk := fun fr => k36 l2 0 j id fr S hS (by omega) (by omega)
    have hav := attrsV_fv l2 0 j
    have hal := attrsV_len l2 0 j
    have haa := attrsV_asks l2 0 j
    rw [show attrsJ l2 (r + 1) j = attrsJ l2 r (attrsV l2 0 j).2 from rfl]
    generalize attrsV l2 0 j = P at *
    obtain ⟨A, J⟩ := P
    simp only at hk hav hal haa
    have hA : A.length < 4611686018427387904 := by omega
    have hgl := gof_len xs
    have hg : ∀ x ∈ gof xs, POk x.filter ∧ x.clients.length < 1000 := fun x hx => by
      obtain ⟨k, s, h1, h2, rfl⟩ := gof_mem.1 hx
      exact ⟨(hx1 s (List.mem_of_getElem? h1)).2.2.ok, by have := cliOf_len xs s; show (cliOf xs s).length < 1000; omega⟩
    have km := fun fr st => k59 (gof xs) hg (by omega) A hA fr st
    have hml := matchG_len A (gof xs) 0 []
    have kr := fun fr st => k60 (gof xs) (fun x hx => (hg x hx).2) (by omega) (gmatch (gof xs) A) (by unfold gmatch; simp at hml; omega) fr st
    obtain ⟨q1, q2, q3⟩ := reads_count (l := xs) (fun s hs => ⟨(hxa s hs).1, (hxa s hs).2.1, (hxa s hs).2.2.1⟩) hav
    have q4 := reads_rising xs A
    have q5 := w_fold A xs w0 0 rfl rfl (fun s hs => ⟨(hxa s hs).1, (hxa s hs).2.1⟩)
    generalize gmatch (gof xs) A = M at *
    generalize greaders (gof xs) M = rs at *
    have hlt : (m9 : Int) < 4 := by omega
    have hlt' : m9 < 4 := by omega
    have hw : IntKind.wrap .i64 ((m9 : Int) + 1) = ((m9 + 1 : Nat) : Int) := by rw [wrap64 (by omega) (by omega)]; omega
    have IH := fun e10 e11 e12 e13 e14 e15 T X h10 h11 h12 h13 h14 h15 => ih (m9 + 1) J e10 e11 e12 e13 e14 e15 T X h10 h11 h12 h13 h14 h15 (by omega) (by omega)
    generalize hR : (Out.ret (V.bool true) none, setF S id l2 (nA l2 0 (attrsJ l2 r J))) = R at IH ⊢
    clear hR
    have H80 : ∀ (e13 e14 : E) (h13 : e13.Tame) (h14 : e14.Tame) e15 T X, e15.Tame → evK gS fi13 c13_80 { ps := [(0, .val (.slice (intVs l1))), (1, .val (.slice (intVs l2))), (4, .val (.bool false)), (5, .val (.ptr i5 0)), (6, .val (.slice (encSubs xs))), (7, .val (.slice (encGrps (gof xs)))), (8, .val (.ptr id 0)), (9, .val (.int .i64 (m9 : Nat))), (10, .val (.slice (encAttrs A))), (11, .val (.slice (intVs rs))), (12, .lp 12 0), (13, e13), (14, e14), (15, e15)], ts := T, lc := X } (setF S id l2 (nA l2 0 J)) (.loop c13_15 (.blk 0 (.seq c13_81 .nil))) = some R := by
      intro e13 e14 h13 h14 e15 T X h15
      simp [-Int.natCast_add, -St.obj, -St.set, h13, h14, h15, hw, -Int.not_le, -Int.not_lt, -Nat.not_le, -Nat.not_lt, ty3, ty4, ty28, ty29, ty31, ty49, ty50, ty67, ty70, ty71, ty86, hm, hl, hr, fi36_eq, x39, fi39_eq, p39, fi53_eq, fi54_eq, k56, x56, fi56_eq, p56, fi59_eq, fi60_eq, E13, q13_73, e13_52, e13_80, n13_35, n13_63, n13_14]
      exact IH _ _ _ _ _ _ _ _ (tame_val _) (tame_val _) (tame_lp _ _) h13 h14 h15
    have hrn : ((rs.length : Nat) : Int) = ((xs.foldl (wStep A) (w0, 0)).2 : Int) := by rw [q1]
    have H52 : ∀ e15 T X, e15.Tame → lk X 12 = some ((xs.foldl (wStep A) (w0, 0)).1.map V.bool) → evK gS fi13 c13_52 { ps := [(0, .val (.slice (intVs l1))), (1, .val (.slice (intVs l2))), (4, .val (.bool false)), (5, .val (.ptr i5 0)), (6, .val (.slice (encSubs xs))), (7, .val (.slice (encGrps (gof xs)))), (8, .val (.ptr id 0)), (9, .val (.int .i64 (m9 : Nat))), (10, .val (.slice (encAttrs A))), (11, .val (.slice (intVs rs))), (12, .lp 12 0), (13, .val (.int .i64 (xs.foldl (wStep A) (w0, 0)).2)), (14, .val (.int .i64 xs.length)), (15, e15)], ts := T, lc := X } (setF S id l2 (nA l2 0 J)) (.blk 1 (.seq c13_80 (.loop c13_15 (.blk 0 (.seq c13_81 .nil))))) = some R := by
      intro e15 T X h15 hX
      have LL := fun T => L13_63 xs hx1 (by omega) A hA rs l1 l2 id m9 (.val (.ptr i5 0)) rfl (setF S id l2 (nA l2 0 J)) R (xs.foldl (wStep A) (w0, 0)).1 q5.1 q3 q4 q2 (.val (.int .i64 (xs.foldl (wStep A) (w0, 0)).2)) (.val (.int .i64 xs.length)) rfl rfl (H80 _ _ rfl rfl) rs.length 0 T X hX (Nat.zero_le _) rfl
      rw [show ((0 : Nat) : Int) = 0 from rfl] at LL
      generalize (xs.foldl (wStep A) (w0, 0)).2 = cn at *
      simp [-Int.natCast_add, -St.obj, -St.set, h15, q1, -Int.not_le, -Int.not_lt, -Nat.not_le, -Nat.not_lt, ty3, ty4, ty28, ty29, ty31, ty49, ty50, ty67, ty70, ty71, ty86, hm, hl, hr, fi36_eq, x39, fi39_eq, p39, fi53_eq, fi54_eq, k56, x56, fi56_eq, p56, fi59_eq, fi60_eq, E13, q13_73, e13_52, e13_80, n13_35, n13_63, n13_14]
      exact LL _
    have L35 := fun e15 T X h15 hX => L13_35 xs hx1 (by omega) A hA rs l1 l2 id m9 (.val (.ptr i5 0)) rfl (setF S id l2 (nA l2 0 J)) R (xs.foldl (wStep A) (w0, 0)) H52 xs.length 0 w0 0 e15 T X h15 hX (Nat.zero_le _) rfl rfl (Nat.le_refl _) rfl
    rw [show ((0 : Nat) : Int) = 0 from rfl] at L35
    refine evK_loop c13_15 _ _ _ _ rfl ?_
    simp [-Int.natCast_add, -St.obj, -St.set, h10, h11, h12, h13, h14, h15, hlt, hlt', hk, km, kr, -Int.not_le, -Int.not_lt, -Nat.not_le, -Nat.not_lt, ty3, ty4, ty28, ty29, ty31, ty49, ty50, ty67, ty70, ty71, ty86, hm, hl, hr, fi36_eq, x39, fi39_eq, p39, fi53_eq, fi54_eq, k56, x56, fi56_eq, p56, fi59_eq, fi60_eq, E13, q13_73, e13_52, e13_80, n13_35, n13_63, n13_14]
    refine L35 _ _ _ ?_ ?_
    · simp [h15]
    · simp [w0]
set_option maxHeartbeats 8000000 in
theorem c13 (l l2 : List Int) (st : St) (hst : st.wp ≤ st.objs.length) : ∃ st', EvF gS 13 [.slice (intVs l), .slice (intVs l2)] st = some (.ret (.bool true) none, st') := by
  have hm : fi13.marks = [] := rfl
  have hl : fi13.locals = [12] := rfl
  have hr : fi13.results = [.tmp 4] := rfl
  have hf := feedOk_new hst
  have n1 := new_feed st l
  have k1 := fun fr => k53 l 0 0 st.objs.length fr (nw st 0 []) hf (by omega) (by omega) [0, 0, 1] (by simp)
  rw [show intVs [0, 0, 1] = [.int .i64 0, .int .i64 0, .int .i64 1] from rfl] at k1
  have hall := subsV_all l 0 0 [0, 0, 1].length
  have hlen := (subsV_asks l 0 0 [0, 0, 1].length).2
  generalize subsV l 0 0 [0, 0, 1].length = P1 at *
  obtain ⟨xs, J, D⟩ := P1
  simp only at k1 hall hlen
  have k2 := fun fr st => k54 xs (fun s hs => psm_ffv (hall s hs).2.2) (by omega) fr st
  generalize hS0 : setF (dd (nw st 0 []) D) st.objs.length l (nA l 0 J) = S0 at k1
  have hw0 : S0.wp ≤ S0.objs.length := by
    rw [← hS0, setF_wp, setF_len, dd_wp, dd_len, gr_wp, gr_len]; omega
  clear hS0
  have n2 := new_feed S0 l2
  have hf2 := feedOk_new hw0
  have LL := fun e10 e11 e12 e13 e14 e15 T X h10 h11 h12 h13 h14 h15 => L13_14 xs hall hlen l l2 S0.objs.length st.objs.length (nw S0 0 []) hf2 4 0 0 e10 e11 e12 e13 e14 e15 T X h10 h11 h12 h13 h14 h15 rfl (by omega)
  rw [show ((0 : Nat) : Int) = 0 from rfl] at LL
  refine ⟨setF (nw S0 0 []) S0.objs.length l2 (nA l2 0 (attrsJ l2 4 0)), ?_⟩
  generalize hR : (Out.ret (V.bool true) none, setF (nw S0 0 []) S0.objs.length l2 (nA l2 0 (attrsJ l2 4 0))) = R at *
  clear hR
  refine EvF_start fi13_eq (fun x h => by cases h) m13 ?_
  rw [st13]
  simp [-St.obj, -St.set, n1, k1, k2, n2, -Int.not_le, -Int.not_lt, -Nat.not_le, -Nat.not_lt, ty3, ty4, ty28, ty29, ty31, ty49, ty50, ty67, ty70, ty71, ty86, hm, hl, hr, fi36_eq, x39, fi39_eq, p39, fi53_eq, fi54_eq, k56, x56, fi56_eq, p56, fi59_eq, fi60_eq, E13, q13_73, e13_52, e13_80, n13_35, n13_63, n13_14]
  exact LL _ _ _ _ _ _ _ _ tame_any tame_any tame_any tame_any tame_any tame_any
theorem run13 (l l2 : List Int) : ∃ st', EvF gS 13 [.slice (intVs l), .slice (intVs l2)] ⟨[], 0⟩ = some (.ret (.bool true) none, st') := c13 l l2 ⟨[], 0⟩ (Nat.le_refl _)
end
end Go.Proofs.Ytclpbfkbpcjejaa
namespace Go.Ab
open Go Go.ChangeShapes Go.WideShapes
set_option linter.unusedVariables false
set_option linter.unusedSimpArgs false
set_option linter.unnecessarySimpa false
variable {H : Type} {enc : TypeId × Value → H} {P : Program} {w : World} {base b0 : Nat} {spare : Nat → Bool} {held : Bool} {r : Reach}
theorem arg_ints {t e : TypeId} {k : IntKind} {v : Value} {d : DataW H} {ps : List MemPlace} (ht : P.underlying t = some (.slice e)) (he : P.underlying e = some (.int k)) (hc : P.cellsOf e = 1)
    (hval : Value.okWide P w r b0 t v) (h : DataW.Trod enc P w base spare held t v d ps) : ∃ zs : List Int, Rep K0 w v (.slice (zs.map (V.int k))) ∧ ∀ n ∈ zs, (Lit.int k n).wf = true := by
  obtain ⟨a0, len, cap, rfl⟩ := okWide_slice ht hval
  obtain ⟨fuel, hf⟩ := h
  rcases open_ints ht he hc hf with ⟨hcs, _⟩ | ⟨a, len', cap', zs, hcs, _, hl, hm, hz, _, hcell, hwz⟩
  · simp [Value.cells] at hcs
    obtain ⟨rfl, rfl, rfl⟩ := hcs
    exact ⟨[], .slice0 _ _, by simp⟩
  · simp [Value.cells] at hcs
    obtain ⟨rfl, rfl, rfl⟩ := hcs
    have hzl : len ≤ zs.length := by rw [hz]; split <;> omega
    by_cases h0 : len = 0
    · subst h0; exact ⟨[], .slice0 _ _, by simp⟩
    · refine ⟨zs.take len, ?_, fun n hn => hwz n (List.mem_of_mem_take hn)⟩
      obtain ⟨b, off, spot⟩ := a
      have hspot : spot = none := by simpa [Addr.add] using World.cell?_spot (hcell 0 (by omega))
      subst hspot
      have hlen : ((zs.take len).map (V.int k)).length = len := by simp; omega
      have hfl : ((zs.take len).map (V.int k)).flatMap V.cells = (zs.take len).map (V.int k) := by
        generalize zs.take len = l
        induction l with
        | nil => rfl
        | cons x r ih => simp only [List.map_cons, List.flatMap_cons, ih]; rfl
      have key : Rep K0 w (.slice (some (at_ b off)) ((zs.take len).map (V.int k)).length cap) (.slice ((zs.take len).map (V.int k))) := by
        refine .slice (k := 1) (by rw [hlen]; exact hl) (fun x hx => ?_) ?_
        · obtain ⟨n, _, rfl⟩ := List.mem_map.1 hx; rfl
        · rw [hfl]
          refine RepAt.of_get fun j x hx => ?_
          rw [List.getElem?_map, List.getElem?_take] at hx
          split at hx
          · rename_i hj
            have hjz : j < zs.length := by omega
            rw [List.getElem?_eq_getElem hjz] at hx
            simp only [Option.map_some, Option.some.injEq] at hx
            subst hx
            refine ⟨.int k zs[j], ⟨?_, rfl⟩, .int _ _⟩
            have := hcell j hjz
            simp only [List.getD, List.getElem?_eq_getElem hjz, Option.getD_some] at this
            rwa [show ({ block := b, off := off } : Addr) = at_ b off from rfl, addr_add] at this
          · cases hx
      rw [hlen] at key
      exact key
end Go.Ab
namespace Go.Ab
open Go Go.ChangeShapes Go.WideShapes
set_option linter.unusedVariables false
set_option linter.unusedSimpArgs false
set_option linter.unnecessarySimpa false
variable {H : Type} {enc : TypeId × Value → H} {P : Program} {w : World} {base b0 : Nat} {spare : Nat → Bool} {held : Bool} {r : Reach}
/-- Plain types. -/
inductive Ty where
  | bool | int (k : IntKind) | float (k : FloatKind) | str
  | sl (e : Ty)
  | st (fs : List Ty)
mutual
def Ty.size : Ty → Nat
  | .st fs => Ty.sizes fs
  | _ => 1
def Ty.sizes : List Ty → Nat
  | [] => 0
  | f :: r => f.size + Ty.sizes r
end
end Go.Ab
namespace Go.Proofs.Ytclpbfkbpcjejaa
open Go Go.Ab Go.ChangeShapes Go.WideShapes Go.ChangeAt Go.RowKit
set_option linter.unusedVariables false
set_option linter.unusedSimpArgs false
set_option linter.unnecessarySimpa false
set_option maxRecDepth 100000 in
theorem groupReads_lifted (os : Os) (started : os.Started) (H : Type) (enc : TypeId × Value → H) :
    ReturnsInHanded {} Try.checked os 13 .any (Rows.groupReadsSpec.pre6 enc Try.prog Try.f13 Rows.groupReadsRow.domain false) (Rows.groupReadsSpec.post enc Try.prog Try.f13 false true false false) := by
  refine returnsInHanded_of_change_sized (C := Try.checked) Try.own started (by kernel_rfl) Try.func13
    (ChangeSpec.witness6 (enc := enc) (C := Try.checked) false ⟨#[], #[.slice none 0 0, .slice none 0 0], []⟩ 8 (by kernel_rfl) (by kernel_rfl) (by kernel_rfl) (by kernel_rfl)) ?_
  intro W base args ds gs before hval0 hW _ hsz0 _
  have hW' := hW
  obtain ⟨p, q, hA0, hV, rfl, _, _⟩ := hW
  have hA : DataW.TrodAll enc Try.prog W 0 (fun _ => true) true Try.f13.params.toList args.toList ds p := hA0
  have hpar : Try.f13.params = #[28, 28] := by kernel_rfl
  have hval : ∀ (j : Nat) t v, Try.f13.params[j]? = some t → args[j]? = some v → Value.okWide Try.prog W .any base t v := hval0
  rw [hpar] at hA hval
  obtain ⟨l⟩ := args
  obtain ⟨v0, l, d0, ds, p0, r0, rfl, rfl, rfl, h0, hA⟩ := trodAll_cons hA
  obtain ⟨v1, l, d1, ds, p1, r1, rfl, rfl, rfl, h1, hA⟩ := trodAll_cons hA
  obtain ⟨rfl, rfl, rfl⟩ := trodAll_nil hA
  obtain ⟨rfl, rfl⟩ := trodVars_none hV
  obtain ⟨x0, a0, _⟩ := arg_ints Try.underlying28 Try.underlying3 (by kernel_rfl) (hval 0 28 v0 rfl rfl) h0
  obtain ⟨x1, a1, _⟩ := arg_ints Try.underlying28 Try.underlying3 (by kernel_rfl) (hval 1 28 v1 rfl rfl) h1
  have hlt : ∀ y ∈ p0 ++ (p1 ++ []) ++ [], y.block < W.heap.size := fun y hy => hW'.lt y hy
  have hr : Reps K0 W [v0, v1] [.slice (intVs x0), .slice (intVs x1)] := .cons a0 (.cons a1 .nil)
  obtain ⟨st', hev⟩ := run13 x0 x1
  obtain ⟨nn, hrun⟩ := EvF_fuel hev
  refine (law_calls (n := nn) (f := 13) (xs := [.slice (intVs x0), .slice (intVs x1)]) (gS_calls nn) (by rw [hrun]) (W := W) (args := #[v0, v1]) hr).mono ?_
  rintro e W' ⟨rfl, hn⟩
  refine ⟨_, rfl, _, _, _, [], p0 ++ (p1 ++ []), [], hW', ?_, ?_, rfl, hn.frame _, fun h => by cases h⟩
  · exact trodAll_mk1 (shut_bool Try.underlying4 true)
  · exact ⟨p0, _, Below.trod Try.laidOut (by kernel_rfl) (of_decide_eq_true (by kernel_rfl)) h0 hn (fun y hy => hlt y (by simp [hy])), ⟨p1, _, Below.trod Try.laidOut (by kernel_rfl) (of_decide_eq_true (by kernel_rfl)) h1 hn (fun y hy => hlt y (by simp [hy])), rfl, rfl⟩, rfl⟩
theorem groupReads_holds : Rows.GroupReadsSaid :=
  OpenClaim.holds_of_wide 13 Try.f13 rfl rfl rfl rfl rfl rfl rfl ⟨rfl, rfl, rfl, rfl, rfl⟩ rfl rfl rfl rfl rfl (by kernel_rfl) Try.func13 (by kernel_rfl)
    (of_decide_eq_true (by kernel_rfl)) (by unfold Func.isWrapper; first | (rw [if_pos (by decide +kernel)]; kernel_rfl) | (rw [if_neg (by decide +kernel)]; exact ⟨rfl, rfl⟩))
    (fun os started H enc _ => groupReads_lifted os started H enc)
#print axioms groupReads_holds
end Go.Proofs.Ytclpbfkbpcjejaa
