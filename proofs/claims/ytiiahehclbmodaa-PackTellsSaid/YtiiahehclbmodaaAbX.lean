/- Values and slices that are put together; conversions; the least and the greatest. -/
import Derived.Test.YtiiahehclbmodaaAbV
namespace Go.Ab
open Go
set_option linter.unusedVariables false
set_option linter.unusedSimpArgs false
set_option linter.unnecessarySimpa false

variable {P : Program} {d n : Nat} {κ : K} {w : World} {lam : Lam} {fr : Fr} {st : St} {a : Act} {o : Oper}

theorem places_run : ∀ (fs : List Field) (l : List (Nat × Nat × Bool)), l.length = fs.length → (∀ (j : Nat) f, fs[j]? = some f → ∃ i, P.info? f.type = some i ∧ ∃ b, l[j]? = some (f.offset, i.size, b)) →
    (fs.mapM fun f => (P.info? f.type).map fun i => (f.offset, i.size)) = some (l.map fun x => (x.1, x.2.1))
  | [], [], _, _ => rfl
  | f :: fs, x :: l, hl, h => by
    obtain ⟨i, hi, b, hb⟩ := h 0 f rfl
    simp at hb; subst hb
    have ih := places_run fs l (by simpa using hl) (fun j g hg => by
      obtain ⟨i, hi, b, hb⟩ := h (j + 1) g (by simpa using hg)
      exact ⟨i, hi, b, by simpa using hb⟩)
    simp [List.mapM_cons, hi, ih]

theorem build_ok {g : G} (hg : TyOk P g) {t : Nat} {ti : TI} (hti : g.ty t = some ti) {vs : List (Nat × Value)} {ps : List (Nat × Option (List V))} {zs : List V} (hp : Parts κ w vs ps) (h : buildCells ti ps = some zs) :
    ∃ r, (Instr.build t vs.toArray).run P w = .ok r w ∧ Rep κ w r (.agg zs) := by
  obtain ⟨i, z, hi, hsz, hz, hzr⟩ := (hg.ti t ti hti).info
  obtain ⟨de, h1, h2⟩ := und_tk hg hti
  unfold buildCells at h
  split at h
  · rename_i fs hk
    rw [hk] at h2
    obtain ⟨fs', rfl, hlen, hall⟩ := h2
    have hpl : (fs'.toList.mapM fun f => (P.info? f.type).map fun i => (f.offset, i.size)) = some (fs.map fun x => (x.1, x.2.1)) :=
      places_run fs'.toList fs (by simpa using hlen) (fun j f hf => by
        obtain ⟨i, de, a1, a2, a3⟩ := hall j f (by simpa using hf)
        exact ⟨i, a1, _, a3⟩)
    obtain ⟨out, h3, h4⟩ := fill_parts (place := fun i => Option.map (fun x => (x.1, x.2.1)) fs[i]?) hp (hzr κ w) (fun i x hx => hx) h
    refine ⟨.agg out, ?_, .agg h4⟩
    simp [Instr.build, run_underlying h1, typeInfo, zeroValue, hi, hz, Array.mapM_eq_mapM_toList, run_places w _ _ hpl]
    rw [h3]; rfl
  · rename_i len esz ea hk
    rw [hk] at h2
    obtain ⟨el, i', de', rfl, hi', rfl, hd, rfl⟩ := h2
    obtain ⟨out, h3, h4⟩ := fill_parts (place := fun j => some (j * i'.size, i'.size)) hp (hzr κ w) (fun i x hx => hx) h
    refine ⟨.agg out, ?_, .agg h4⟩
    simp [Instr.build, run_underlying h1, typeInfo, zeroValue, hi, hz, sizeOf, hi', h3]
  · cases h

theorem one_cells {x : V} (h : x.one = true) : x.cells = [x] := by cases x <;> first | rfl | cases h
theorem chunk_ok {ea : Bool} {esz : Nat} (he : (ea || esz == 1) = true) (h0 : 0 < esz) : ∀ (m : Nat) (cs : List V), cs.length = m * esz → cs.all V.one = true →
    (chunk ea esz m cs).length = m ∧ (chunk ea esz m cs).flatMap V.cells = cs ∧ ∀ x ∈ chunk ea esz m cs, x.cells.length = esz
  | 0, cs, hl, _ => by
    have : cs = [] := List.length_eq_zero_iff.1 (by simpa using hl)
    subst this; simp [chunk]
  | m + 1, cs, hl, h1 => by
    have hl' : (m + 1) * esz = m * esz + esz := Nat.succ_mul m esz
    obtain ⟨i1, i2, i3⟩ := chunk_ok he h0 m (cs.drop esz) (by simp; omega) (List.all_eq_true.2 fun x hx => List.all_eq_true.1 h1 x (List.mem_of_mem_drop hx))
    have hc : (elemV ea (cs.take esz)).cells = cs.take esz := by
      cases ea with
      | true => rfl
      | false =>
        simp at he; subst he
        cases cs with
        | nil => simp at hl
        | cons c cs => simp [elemV]; exact one_cells (List.all_eq_true.1 h1 c (by simp))
    refine ⟨by simp [chunk, i1], ?_, ?_⟩
    · simp only [chunk, List.flatMap_cons, i2, hc, List.take_append_drop]
    · intro x hx
      simp only [chunk, List.mem_cons] at hx
      rcases hx with rfl | hx
      · rw [hc]; simp; omega
      · exact i3 x hx

/-- A slice in a new block, with no room beyond what it holds. -/
theorem slice_full (g : Good κ w) {vs : List Value} {xs : List V} {k : Nat} (hs : ∀ x ∈ xs, x.cells.length = k) (hr : Reps κ w vs (xs.flatMap V.cells)) (c : Array Value) (t : TypeId)
    (hc : ∀ (j : Nat) v, vs[j]? = some v → c[j]? = some v) :
    let κ' := κ.new w.heap.size fun _ => none
    Rep κ' (w.alloc (.cells c t)) (.slice (some (at_ w.heap.size 0)) xs.length xs.length) (.slice xs) := by
  intro κ'
  by_cases hx : xs = []
  · subst hx; exact .slice0 _ _
  · exact .slice (Nat.le_refl _) hs (new_reads g hr c t hc fun j hj => rfl)

theorem zeros_get {z : Array Value} {esz : Nat} (hz : z.size = esz) (h0 : 0 < esz) (m j : Nat) (hj : j < m * esz) : ((Array.range (m * esz)).map (z[· % z.size]!))[j]? = z[j % esz]? := by
  have : j % esz < esz := Nat.mod_lt _ h0
  simp [hj, hz, this]
theorem rep_flat_get {α : Type} (l : List α) (esz : Nat) (hl : l.length = esz) (h0 : 0 < esz) : ∀ (m j : Nat), j < m * esz → ((List.replicate m l).flatten)[j]? = l[j % esz]?
  | 0, j, h => by simp at h
  | m + 1, j, h => by
    rw [List.replicate_succ, List.flatten_cons]
    have e : (m + 1) * esz = m * esz + esz := Nat.succ_mul m esz
    rcases Nat.lt_or_ge j esz with h1 | h1
    · rw [List.getElem?_append_left (by omega), Nat.mod_eq_of_lt h1]
    · rw [List.getElem?_append_right (by omega), hl, rep_flat_get l esz hl h0 m (j - esz) (by omega), ← Nat.mod_eq_sub_mod h1]

theorem flatten_rep_length {α : Type} (l : List α) (m : Nat) : ((List.replicate m l).flatten).length = m * l.length := by
  induction m with
  | zero => simp
  | succ m ih => rw [List.replicate_succ, List.flatten_cons, List.length_append, ih, Nat.succ_mul, Nat.add_comm]

theorem buildSlice_ok {g : G} (hg : TyOk P g) {t : Nat} {ti : TI} (hti : g.ty t = some ti) {esz eb : Nat} {ea : Bool} {ez : List V} (hk : ti.k = .slice esz eb ea ez) (r : R d n κ w lam fr st a)
    {len : Nat} {vs : List (Nat × Value)} {ps : List (Nat × Option (List V))} {z : V} (hp : Parts κ w vs ps) (h : buildSliceV esz ea ez len ps = some z) :
    ∃ v w' κ', (Instr.buildSlice t len vs.toArray).run P w = .ok v w' ∧ R d n κ' w' lam fr st a ∧ Rep κ' w' v z ∧ ∀ S, Pres S κ w κ' w' := by
  obtain ⟨el, i, zv, h1, hi, hsz, hbz, hzz, hzr⟩ := elem_size hg hti hk
  unfold buildSliceV at h
  split at h
  · rename_i hc
    obtain ⟨h0, h24, hezl, hea⟩ := hc
    split at h
    · rename_i cs hf
      split at h
      · rename_i hone
        cases h
        have hzs : zv.cells.size = esz := by have := (hzr κ w).length; simpa [hezl] using this
        have hz0 : Reps κ w ((Array.range (len * esz)).map (zv.cells[· % zv.cells.size]!)).toList ((List.replicate len ez).flatten) := by
          refine Reps.of_get (by simp [flatten_rep_length, hezl]) fun j v x hv hx => ?_
          have hj : j < len * esz := by
            have := (List.getElem?_eq_some_iff.1 hx).1; rwa [flatten_rep_length, hezl] at this
          rw [Array.getElem?_toList, zeros_get hzs h0 len j hj, ← Array.getElem?_toList] at hv
          rw [rep_flat_get ez esz hezl h0 len j hj] at hx
          obtain ⟨u, hu, hru⟩ := (hzr κ w).get _ x hx
          rw [hv] at hu; cases hu; exact hru
        obtain ⟨out, h3, h4⟩ := fill_parts (place := fun i => some (i * esz, esz)) hp hz0 (fun i x hx => hx) hf
        have hcl : (cs.map V.strip1).length = len * esz := by
          have h5 : ∀ {q : List (Nat × Option (List V))} {xs ys : List V} {pl : Nat → Option (Nat × Nat)}, fillV pl xs q = some ys → ys.length = xs.length := by
            intro q
            induction q with
            | nil => intro xs ys pl h; simp only [fillV, Option.some.injEq] at h; rw [h]
            | cons p q ih =>
              intro xs ys pl h
              obtain ⟨i, c⟩ := p
              cases c with
              | none => cases h
              | some c =>
                simp only [fillV] at h
                split at h
                · cases h
                · split at h
                  · split at h
                    · rename_i hsp
                      rw [ih h]; exact (splice_get hsp).2.1
                    · cases h
                  · cases h
          rw [List.length_map, h5 hf, flatten_rep_length, hezl]
        obtain ⟨c1, c2, c3⟩ := chunk_ok hea h0 len (cs.map V.strip1) hcl hone
        have hrun : (Instr.buildSlice t len vs.toArray).run P w = .ok (.slice (some (at_ w.heap.size 0)) len len) (w.alloc (.cells out el)) := by
          have n1 : ¬ (16777216 < len * esz) := by omega
          by_cases hz : len * esz = 0
          · rw [hz] at h3
            simp only [Array.range_zero', Array.map_empty] at h3
            simp [Instr.buildSlice, run_underlying h1, sizeOf, typeInfo, hi, hsz, hz, Array.range_zero', h3, newRow, at_]
          · simp [Instr.buildSlice, run_underlying h1, sizeOf, typeInfo, zeroValue, hi, hsz, hzz, n1, hz, h3, newRow, at_]
        refine ⟨_, _, κ.new w.heap.size (fun _ => none), hrun, r.new out el (fun o L h => by cases h), ?_, fun S => pres_new S r.sim.good _ _⟩
        have hrep := slice_full r.sim.good c3 (by rw [c2]; exact h4.strip1) out el (fun j v hv => by rw [← Array.getElem?_toList]; exact hv)
        rw [c1] at hrep
        have : Rep (κ.new w.heap.size fun _ => none) (w.alloc (.cells out el)) (.slice (some (at_ w.heap.size 0)) (chunk ea esz len (cs.map V.strip1)).length (chunk ea esz len (cs.map V.strip1)).length) (.osl esz (chunk ea esz len (cs.map V.strip1))) := by
          refine .osl ?_
          rw [c1]; exact hrep
        rw [c1] at this; exact this
      · cases h
    · cases h
  · cases h

theorem makeSlice_ok {g : G} (hg : TyOk P g) {t : Nat} {ti : TI} (hti : g.ty t = some ti) {esz eb : Nat} {ea : Bool} {ez : List V} (hk : ti.k = .slice esz eb ea ez) (r : R d n κ w lam fr st a)
    {u v : Value} {len cap : Int} (hu : ∃ k, u = .int k len) (hv : ∃ k, v = .int k cap)
    (hc : 0 ≤ len ∧ len ≤ cap ∧ cap * eb ≤ 2 ^ 47 ∧ cap ≤ 2 ^ 47 ∧ 0 < esz ∧ ez.length = esz ∧ (ea || esz == 1) = true ∧ (ez.map V.strip1).all V.one = true) :
    ∃ v' w' κ', (Instr.makeSlice t u v).run P w = .ok v' w' ∧ R d n κ' w' lam fr st a ∧ RepV κ' w' lam fr st a.tmps v' (.own esz (List.replicate len.toNat (elemV ea (ez.map V.strip1)))) ∧ ∀ S, Pres S κ w κ' w' := by
  obtain ⟨h0, h1, h2, h3, h4, h5, h6, h7⟩ := hc
  obtain ⟨el, i, zv, hu1, hi, hsz, hbz, hzz, hzr⟩ := elem_size hg hti hk
  obtain ⟨ku, rfl⟩ := hu
  obtain ⟨kv, rfl⟩ := hv
  have hzs : zv.cells.size = esz := by have := (hzr κ w).length; simpa [h5] using this
  have hrun := run_make (P := P) w t el i zv hu1 hi hzz ku kv len cap h0 h1 (by rw [hbz, Int.mul_comm]; omega) (by omega)
  rw [hsz] at hrun
  have hc1 : (elemV ea (ez.map V.strip1)).cells = ez.map V.strip1 := by
    cases ea with
    | true => rfl
    | false =>
      simp at h6; subst h6
      cases ez with
      | nil => simp at h5
      | cons c cs =>
        have : cs = [] := by simpa using h5
        subst this
        simp only [List.map_cons, List.map_nil, elemV, Bool.false_eq_true, if_false, List.headD_cons]
        exact one_cells (List.all_eq_true.1 h7 _ (by simp))
  have hxs : ∀ x ∈ List.replicate len.toNat (elemV ea (ez.map V.strip1)), x.cells.length = esz := by
    intro x hx; rw [List.eq_of_mem_replicate hx, hc1]; simpa using h5
  have hfl : ∀ m : Nat, (List.replicate m (elemV ea (ez.map V.strip1))).flatMap V.cells = (List.replicate m (ez.map V.strip1)).flatten := by
    intro m
    induction m with
    | zero => rfl
    | succ m ih => rw [List.replicate_succ, List.flatMap_cons, ih, hc1, List.replicate_succ, List.flatten_cons]
  let vs : List Value := (List.replicate len.toNat zv.cells.toList).flatten
  have hvr : Reps κ w vs ((List.replicate len.toNat (elemV ea (ez.map V.strip1))).flatMap V.cells) := by
    rw [hfl]
    have : ∀ m : Nat, Reps κ w ((List.replicate m zv.cells.toList).flatten) ((List.replicate m (ez.map V.strip1)).flatten) := by
      intro m
      induction m with
      | zero => exact .nil
      | succ m ih => rw [List.replicate_succ, List.replicate_succ, List.flatten_cons, List.flatten_cons]; exact (hzr κ w).strip1.append ih
    exact this _
  have hcs : ∀ (j : Nat) v, vs[j]? = some v → (madeCells zv.cells (cap.toNat * esz))[j]? = some v := by
    intro j v hv
    have hj : j < len.toNat * esz := by
      have := (List.getElem?_eq_some_iff.1 hv).1
      rw [flatten_rep_length] at this
      simpa [hzs] using this
    have hj2 : len.toNat * esz ≤ cap.toNat * esz := Nat.mul_le_mul_right _ (by omega)
    rw [rep_flat_get _ esz (by simpa using hzs) h4 _ j hj] at hv
    unfold madeCells
    rw [zeros_get hzs h4 cap.toNat j (by omega), ← Array.getElem?_toList]; exact hv
  obtain ⟨g', hrep, hspare⟩ := slice_new (k := esz) (cap := cap.toNat) r.sim.good h4 hxs hvr (madeCells zv.cells (cap.toNat * esz)) el hcs (size_madeCells _ _) (by simp; omega)
  rw [List.length_replicate] at hrep hspare
  refine ⟨_, _, _, hrun, ?_, ⟨hrep, hspare⟩, fun S => pres_new S r.sim.good _ _⟩
  exact r.new _ el (fun o L h => by
    split at h
    · rename_i hh; exact hh.2
    · cases h)
end Go.Ab
