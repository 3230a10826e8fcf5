/- What each quiet operation does: slices of slices and of texts, conversions, loads. -/
import Derived.Test.YtiiahehclbmodaaAbS3
import Derived.Lib.SlBytesConst
namespace Go.Ab
open Go
set_option linter.unusedVariables false
set_option linter.unusedSimpArgs false
set_option linter.unnecessarySimpa false

variable {P : Program} {d n : Nat} {κ : K} {w : World} {lam : Lam} {fr : Fr} {st : St} {a : Act} {o : Oper}

/-- A bound of a slice expression. -/
def BoundIs (v : Option Value) (x : Option Int) : Prop :=
  match v, x with
  | none, none => True
  | some v, some m => ∃ k, v = .int k m
  | _, _ => False
theorem bound_is (r : R d n κ w lam fr st a) {x : Option Operand} {y : Option Int} (h : boundOf fr x = some y) : BoundIs (x.map a.eval) y := by
  cases x with
  | none => simp only [boundOf, Option.some.injEq] at h; subst h; trivial
  | some x =>
    simp only [boundOf] at h
    split at h
    · rename_i m hm
      cases h
      exact int_of (r.op x) hm
    · cases h

theorem bound_run {v : Value} {m : Int} {k : IntKind} (hv : v = .int k m) (y : Nat) (code : BoundsCode) (h : 0 ≤ m ∧ m ≤ (y : Int)) : (Instr.sliceBound v y code).run P w = .ok m.toNat w := by
  subst hv; exact run_sliceBound w k m y code h.1 h.2

theorem clip_some {x : Option Int} {dflt hi r : Nat} (h : clip x dflt hi = some r) : (x = none ∧ r = dflt) ∨ (∃ m, x = some m ∧ 0 ≤ m ∧ m ≤ (hi : Int) ∧ r = m.toNat) := by
  unfold clip at h
  split at h
  · cases h; exact .inl ⟨rfl, rfl⟩
  · rename_i m
    split at h
    · rename_i hm; cases h; exact .inr ⟨m, rfl, hm.1, hm.2, rfl⟩
    · cases h

/-- The bounds, without a third. -/
theorem bounds_run {isS : Bool} {len cap : Nat} {lo hi : Option Value} {l h : Option Int} {h' l' : Nat} (hl : BoundIs lo l) (hh : BoundIs hi h)
    (e1 : clip h len len = some h') (e2 : clip l 0 h' = some l') (hc : len ≤ cap) :
    (Instr.sliceBounds isS len cap lo hi none).run P w = .ok (l', h', cap) w ∧ h' ≤ len ∧ l' ≤ h' := by
  have hh' : h' ≤ len := by
    rcases clip_some e1 with ⟨_, rfl⟩ | ⟨m, _, _, _, rfl⟩ <;> omega
  have hl' : l' ≤ h' := by
    rcases clip_some e2 with ⟨_, rfl⟩ | ⟨m, _, _, _, rfl⟩ <;> omega
  refine ⟨?_, hh', hl'⟩
  have A : ∀ code, (match hi with | some v => Instr.sliceBound v cap code | none => pure len : Sem Nat).run P w = .ok h' w := by
    intro code
    rcases clip_some e1 with ⟨rfl, rfl⟩ | ⟨m, rfl, m0, m1, rfl⟩
    · cases hi with
      | none => rfl
      | some v => exact hh.elim
    · cases hi with
      | none => exact hh.elim
      | some v => obtain ⟨k, hk⟩ := hh; exact bound_run hk _ _ ⟨m0, by omega⟩
  have B : ∀ code, (match lo with | some v => Instr.sliceBound v h' code | none => pure 0 : Sem Nat).run P w = .ok l' w := by
    intro code
    rcases clip_some e2 with ⟨rfl, rfl⟩ | ⟨m, rfl, m0, m1, rfl⟩
    · cases lo with
      | none => rfl
      | some v => exact hl.elim
    · cases lo with
      | none => exact hl.elim
      | some v => obtain ⟨k, hk⟩ := hl; exact bound_run hk _ _ ⟨m0, m1⟩
  unfold Instr.sliceBounds
  cases hi with
  | none =>
    simp only [Sem.run_bind, Sem.run_pure, Result.andThen_ok] at A ⊢
    have := A .index; simp only [Result.ok.injEq, and_true] at this; subst this
    cases lo with
    | none => have := B .index; simp only [Sem.run_pure, Result.ok.injEq, and_true] at this; subst this; rfl
    | some v => simp only [Option.isSome_none, Bool.false_eq_true, if_false]; have := B .sliceB; simp only at this; rw [Sem.run_bind, this]; rfl
  | some v =>
    simp only [Sem.run_bind, Sem.run_pure, Result.andThen_ok] at A ⊢
    rw [A]
    simp only [Result.andThen_ok]
    cases lo with
    | none => have := B .index; simp only [Sem.run_pure, Result.ok.injEq, and_true] at this; subst this; rfl
    | some v => simp only [Option.isSome_none, Bool.false_eq_true, if_false]; have := B .sliceB; simp only at this; rw [Sem.run_bind, this]; rfl


/-- A piece of a slice. -/
theorem Rep.piece {p : Option Addr} {cap cap' l h : Nat} {xs : List V} (hr : Rep κ w (.slice p xs.length cap) (.slice xs)) (h1 : h ≤ xs.length) (h2 : l ≤ h) (hc : h - l ≤ cap') (sz : Nat)
    (hsz : ∀ x ∈ xs, x.cells.length = sz) : Rep κ w (.slice (p.map (·.add (l * sz))) (h - l) cap') (.slice ((xs.take h).drop l)) := by
  have hlen : ((xs.take h).drop l).length = h - l := by simp; omega
  rw [← hlen] at hc ⊢
  by_cases hz : ((xs.take h).drop l) = []
  · rw [hz]; exact .slice0 _ _
  · generalize hv : Value.slice p xs.length cap = v at hr
    cases hr with
    | slice0 => simp at hz
    | slice _ hk hat =>
      cases hv
      show Rep κ w (.slice (some (Addr.add (at_ _ _) (l * sz))) _ cap') _
      rw [addr_add]
      refine .slice hc (k := sz) (fun x hx => hsz x (List.mem_of_mem_take (List.mem_of_mem_drop hx))) ?_
      rw [flat_drop _ sz (fun x hx => hsz x (List.mem_of_mem_take hx)), flat_take _ sz hsz]
      exact (hat.take _).drop _

theorem sizesOk_all {esz : Nat} : ∀ {xs : List V}, sizesOk esz xs = true → ∀ x ∈ xs, x.cells.length = esz
  | [], _, x, hx => by simp at hx
  | v :: r, h, x, hx => by
    simp only [sizesOk, Bool.and_eq_true, beq_iff_eq] at h
    rcases List.mem_cons.1 hx with rfl | hx
    · exact h.1.1
    · exact sizesOk_all h.2 x hx
theorem sizesOk_one {esz : Nat} : ∀ {xs : List V}, sizesOk esz xs = true → ∀ x ∈ xs.flatMap V.cells, x.one = true
  | [], _, x, hx => by simp at hx
  | v :: r, h, x, hx => by
    simp only [sizesOk, Bool.and_eq_true, beq_iff_eq] at h
    rw [List.flatMap_cons, List.mem_append] at hx
    rcases hx with hx | hx
    · exact List.all_eq_true.1 h.1.2 x hx
    · exact sizesOk_one h.2 x hx

theorem elem_size {g : G} (hg : TyOk P g) {t : Nat} {ti : TI} (hti : g.ty t = some ti) {esz eb : Nat} {ea : Bool} {ez : List V} (hk : ti.k = .slice esz eb ea ez) :
    ∃ e i z, P.underlying t = some (.slice e) ∧ P.info? e = some i ∧ i.size = esz ∧ i.bytes = eb ∧ i.zero = some z ∧ (∀ κ w, Reps κ w z.cells.toList ez) := by
  obtain ⟨de, h1, h2⟩ := und_tk hg hti
  rw [hk] at h2
  obtain ⟨el, i, z, de', rfl, hi, h3, h4, h5, _, _, h6⟩ := h2
  exact ⟨el, i, z, h1, hi, h3, h4, h5, h6⟩

theorem bounds3_run {len cap : Nat} {lo hi mx : Option Value} {l : Option Int} {h m : Int} {h' l' : Nat} (hl : BoundIs lo l) (hh : BoundIs hi (some h)) (hm : BoundIs mx (some m))
    (e1 : clip (some h) 0 len = some h') (e3 : m = (h' : Int)) (e2 : clip l 0 h' = some l') (hc : len ≤ cap) :
    (Instr.sliceBounds true len cap lo hi mx).run P w = .ok (l', h', h') w ∧ h' ≤ len ∧ l' ≤ h' := by
  cases hi with
  | none => exact hh.elim
  | some vh =>
  cases mx with
  | none => exact hm.elim
  | some vm =>
  obtain ⟨kh, hh⟩ := hh
  obtain ⟨km, hm⟩ := hm
  rcases clip_some e1 with ⟨h0, _⟩ | ⟨x, hx, x0, x1, rfl⟩
  · cases h0
  cases hx
  subst e3
  have hl' : l' ≤ h.toNat := by
    rcases clip_some e2 with ⟨_, rfl⟩ | ⟨m, _, _, _, rfl⟩ <;> omega
  refine ⟨?_, by omega, hl'⟩
  have B : ∀ code, (match lo with | some v => Instr.sliceBound v h.toNat code | none => pure 0 : Sem Nat).run P w = .ok l' w := by
    intro code
    rcases clip_some e2 with ⟨rfl, rfl⟩ | ⟨m, rfl, m0, m1, rfl⟩
    · cases lo with
      | none => rfl
      | some v => exact hl.elim
    · cases lo with
      | none => exact hl.elim
      | some v => obtain ⟨k, hk⟩ := hl; exact bound_run hk _ _ ⟨m0, m1⟩
  have hx : ((h.toNat : Int)).toNat = h.toNat := Int.toNat_natCast _
  unfold Instr.sliceBounds
  simp only [Sem.run_bind, if_true]
  rw [bound_run hm cap _ ⟨by omega, by omega⟩]
  simp only [Result.andThen_ok, hx]
  rw [bound_run hh h.toNat _ ⟨x0, by omega⟩]
  simp only [Result.andThen_ok, Option.isSome_some, if_true]
  cases lo with
  | none => have := B .index; simp only [Sem.run_pure, Result.ok.injEq, and_true] at this; subst this; rfl
  | some v => have := B .slice3C; simp only at this; rw [Sem.run_bind, this]; rfl

theorem slice_ok {g : G} (hg : TyOk P g) {t : Nat} {ti : TI} (hti : g.ty t = some ti) {u : Value} {x : V} {e : E} {lo hi mx : Option Value} {l h m : Option Int}
    (hu : Rep κ w u x) (hl : BoundIs lo l) (hh : BoundIs hi h) (hm : BoundIs mx m) (hs : sliceStep ti.k x l h m = some e) : ∃ r, (Instr.sliceAt t u lo hi mx).run P w = .ok r w ∧ RepV κ w lam fr st a.tmps r e := by
  unfold sliceStep at hs
  split at hs
  · rename_i s hk
    obtain ⟨de, h1, h2⟩ := und_tk hg hti
    rw [hk] at h2
    simp only [TKok] at h2; subst h2
    have hmx : mx = none := by cases mx with | none => rfl | some v => exact hm.elim
    subst hmx
    obtain ⟨s', rfl, rfl⟩ := hu.str_inv
    split at hs
    · rename_i h' e1
      split at hs
      · rename_i l' e2
        cases hs
        rw [← size_eq_length] at e1
        obtain ⟨hb, hb1, hb2⟩ := bounds_run (P := P) (w := w) (isS := false) hl hh e1 e2 (Nat.le_refl _)
        refine ⟨.string (s'.extract l' h'), ?_, ?_⟩
        · rw [run_sliceAt_string w t _ _ _ _ h1]
          simp [Instr.slice, run_underlying h1, hb]
        · have : (s'.data.toList.take h').drop l' = (s'.extract l' h').data.toList := by
            rw [ByteArray.data_extract, Array.toList_extract]; simp [List.extract_eq_take_drop, List.drop_take]
          rw [this]; exact .str _
      · cases hs
    · cases hs
  · rename_i esz eb ea ez xs hk
    obtain ⟨el, i, z, h1, hi', hsz, _⟩ := elem_size hg hti hk
    have hmx : mx = none := by cases mx with | none => rfl | some v => exact hm.elim
    subst hmx
    split at hs
    · rename_i hok
      split at hs
      · rename_i h' e1
        split at hs
        · rename_i l' e2
          cases hs
          obtain ⟨p, cap, rfl, hcap⟩ := hu.slice_inv
          obtain ⟨hb, hb1, hb2⟩ := bounds_run (P := P) (w := w) (isS := true) hl hh e1 e2 hcap
          refine ⟨.slice (if cap = l' then p else p.map (·.add (l' * esz))) (h' - l') (cap - l'), ?_, ?_⟩
          · simp [Instr.sliceAt, Instr.slice, run_underlying h1, hb, sizeOf, typeInfo, hi', hsz]
          · split
            · rename_i hcl
              have hz : (xs.take h').drop l' = [] := by apply List.drop_of_length_le; simp; omega
              have : h' - l' = 0 := by omega
              rw [hz, this]; exact .slice0 _ _
            · exact Rep.piece hu hb1 hb2 (by omega) esz (sizesOk_all hok)
        · cases hs
      · cases hs
    · cases hs
  · rename_i esz eb ea ez f k id off len hk
    obtain ⟨el, i, z, h1, hi', hsz, _⟩ := elem_size hg hti hk
    have hmx : mx = none := by cases mx with | none => rfl | some v => exact hm.elim
    subst hmx
    split at hs
    · rename_i hke
      subst hke
      split at hs
      · rename_i h' e1
        split at hs
        · rename_i l' e2
          obtain ⟨b, cap, rfl, h3, hf, h4, h5⟩ := hu.sref_inv
          obtain ⟨hb, hb1, hb2⟩ := bounds_run (P := P) (w := w) (isS := true) hl hh e1 e2 h4
          refine ⟨.slice (if cap = l' then (some (at_ b off)) else some (at_ b (off + l' * k))) (h' - l') (cap - l'), ?_, ?_⟩
          · simp [Instr.sliceAt, Instr.slice, run_underlying h1, hb, sizeOf, typeInfo, hi', hsz, addr_add]
          · split at hs
            · rename_i hz
              cases hs
              have : h' - l' = 0 := by omega
              rw [this]; exact .slice0 _ _
            · cases hs
              rw [if_neg (by omega)]
              refine .sref h3 (fun h => by simp only [Bool.and_eq_true, beq_iff_eq] at h; have := hf h.1; omega) (by omega) (fun j hj => ?_)
              rw [Nat.sub_mul] at hj
              have := h5 (l' * k + j) (by omega)
              rwa [← Nat.add_assoc] at this
        · cases hs
      · cases hs
    · cases hs
  · rename_i esz eb ea ez f k id off len m' hk
    obtain ⟨el, i, z, h1, hi', hsz, _⟩ := elem_size hg hti hk
    split at hs
    · rename_i hke
      subst hke
      split at hs
      · rename_i h0
        split at hs
        · rename_i h' e1
          split at hs
          · rename_i e3
            split at hs
            · rename_i l' e2
              obtain ⟨b, cap, rfl, h3, hf, h4, h5⟩ := hu.sref_inv
              obtain ⟨hb, hb1, hb2⟩ := bounds3_run (P := P) (w := w) hl hh hm e1 e3 e2 h4
              refine ⟨.slice (if h' = l' then (some (at_ b off)) else some (at_ b (off + l' * k))) (h' - l') (h' - l'), ?_, ?_⟩
              · simp [Instr.sliceAt, Instr.slice, run_underlying h1, hb, sizeOf, typeInfo, hi', hsz, addr_add]
              · split at hs
                · rename_i hz
                  cases hs
                  have : h' - l' = 0 := by omega
                  rw [this]; exact ⟨.slice0 _ _, .inl rfl⟩
                · cases hs
                  rw [if_neg (by omega)]
                  refine .sref h3 (fun _ => rfl) (Nat.le_refl _) (fun j hj => ?_)
                  rw [Nat.sub_mul] at hj
                  have hm1 : h' * k ≤ cap * k := Nat.mul_le_mul_right k (by omega)
                  have hm2 : l' * k ≤ h' * k := Nat.mul_le_mul_right k (by omega)
                  have := h5 (l' * k + j) (by omega)
                  rwa [← Nat.add_assoc] at this
            · cases hs
          · cases hs
        · cases hs
      · cases hs
    · cases hs
  · rename_i esz eb ea ez xs m' hk
    obtain ⟨el, i, z, h1, hi', hsz, _⟩ := elem_size hg hti hk
    split at hs
    · rename_i hok
      split at hs
      · rename_i h0
        split at hs
        · rename_i h' e1
          split at hs
          · rename_i e3
            split at hs
            · rename_i l' e2
              cases hs
              obtain ⟨p, cap, rfl, hcap⟩ := hu.slice_inv
              obtain ⟨hb, hb1, hb2⟩ := bounds3_run (P := P) (w := w) hl hh hm e1 e3 e2 hcap
              refine ⟨.slice (if h' = l' then p else p.map (·.add (l' * esz))) (h' - l') (h' - l'), ?_, ?_, .inl rfl⟩
              · simp [Instr.sliceAt, Instr.slice, run_underlying h1, hb, sizeOf, typeInfo, hi', hsz]
              · split
                · rename_i hcl
                  have hz : (xs.take h').drop l' = [] := by apply List.drop_of_length_le; simp; omega
                  have : h' - l' = 0 := by omega
                  rw [hz, this]; exact .slice0 _ _
                · exact Rep.piece hu hb1 hb2 (Nat.le_refl _) esz (sizesOk_all hok)
            · cases hs
          · cases hs
        · cases hs
      · cases hs
    · cases hs
  · cases hs
end Go.Ab
