/- Loads; values that are put together; equality of structs. -/
import Derived.Test.YtiiahehclbmodaaAbQ
namespace Go.Ab
open Go
set_option linter.unusedVariables false
set_option linter.unusedSimpArgs false
set_option linter.unnecessarySimpa false

variable {P : Program} {d n : Nat} {κ : K} {w : World} {lam : Lam} {fr : Fr} {st : St} {a : Act} {o : Oper}

theorem RepM.strip1 {p : Ow} {v : Value} {x : V} (h : RepM κ w p v x) : Rep κ w v x.strip1 := by
  cases x <;> simp only [RepM] at h <;> first | exact h.1 | exact h

theorem row_reps {b : Nat} {who : Ow} {sp : Nat → Ow} {cs : List V} (c : cellsAre κ w b who sp cs) : ∀ (m off : Nat), off + m ≤ cs.length →
    ∃ vs : List Value, Reps κ w vs (((cs.drop off).take m).map V.strip1) ∧ vs.length = m ∧ ∀ (j : Nat) v, vs[j]? = some v → w.cell? (at_ b (off + j)) = some v
  | 0, off, _ => ⟨[], by simp; exact .nil, rfl, fun j v h => by simp at h⟩
  | m + 1, off, h => by
    obtain ⟨vs, h1, h2, h3⟩ := row_reps c m (off + 1) (by omega)
    have hoff : off < cs.length := by omega
    obtain ⟨_, v, hv, hr⟩ := c off cs[off] (by simp)
    refine ⟨v :: vs, ?_, by simp [h2], fun j u hu => ?_⟩
    · rw [List.drop_eq_getElem_cons hoff, List.take_succ_cons, List.map_cons]
      exact .cons hr.strip1 h1
    · cases j with
      | zero => simp at hu; subst hu; exact hv
      | succ j => simp at hu; have := h3 j u hu; rwa [show off + 1 + j = off + (j + 1) by omega] at this

theorem isAgg_run {t : TypeId} {de : TypeDesc} (h : P.underlying t = some de) : (isAgg t).run P w = .ok (isAggT de) w := by
  unfold isAgg
  simp only [Sem.run_bind, run_underlying h, Result.andThen_ok]
  cases de <;> rfl

theorem loadVar_agg {t : TypeId} {de : TypeDesc} {i : TypeInfo} {b off : Nat} {vs : List Value} (h1 : P.underlying t = some de) (h2 : isAggT de = true) (hi : P.info? t = some i) (hl : vs.length = i.size)
    (hc : ∀ (j : Nat) v, vs[j]? = some v → w.cell? (at_ b (off + j)) = some v) : (Instr.loadAt t (.pointer (some (at_ b off)))).run P w = .ok (.agg vs.toArray) w := by
  have := run_loadCells_list (P := P) w (at_ b off) vs (fun j v hv => by rw [addr_add]; exact hc j v hv)
  rw [hl] at this
  simp [Instr.loadAt, Instr.sureAddr, loadVar, isAgg_run h1, h2, sizeOf, typeInfo, hi, this]
theorem loadVar_one {t : TypeId} {de : TypeDesc} {b off : Nat} {v : Value} (h1 : P.underlying t = some de) (h2 : isAggT de = false) (hc : w.cell? (at_ b off) = some v) :
    (Instr.loadAt t (.pointer (some (at_ b off)))).run P w = .ok v w := by
  simp [Instr.loadAt, Instr.sureAddr, loadVar, isAgg_run h1, h2, hc]

theorem load_ok {g : G} (hg : TyOk P g) {t : Nat} {ti : TI} (hti : g.ty t = some ti) (r : R d n κ w lam fr st a) {u : Value} {x e : E} (hu : RepR κ w lam u x) (h : Ab.loadAt ti fr st x = some e) :
    ∃ v, (Instr.loadAt t u).run P w = .ok v w ∧ RepV κ w lam fr st a.tmps v e := by
  obtain ⟨i, z, hi, hsz, hz, _⟩ := (hg.ti t ti hti).info
  obtain ⟨de, h1, _, hagg⟩ := (hg.ti t ti hti).und
  unfold Ab.loadAt at h
  split at h
  · rename_i s off cs hp
    cases x <;> simp only [placeOf, Option.map_eq_some_iff, Place.loc.injEq, reduceCtorEq, and_false, exists_false] at hp
    case lp s' off' =>
      obtain ⟨cs', hcs, rfl, rfl, rfl⟩ := hp
      obtain ⟨b, hb, rfl⟩ := hu
      obtain ⟨b', hb', hc⟩ := r.fm.loc _ _ hcs
      rw [hb] at hb'; cases hb'
      unfold loadCs at h
      split at h
      · rename_i ha
        split at h
        · rename_i hle
          cases h
          obtain ⟨vs, v1, v2, v3⟩ := row_reps hc ti.size off' hle
          exact ⟨_, loadVar_agg h1 (by rw [← hagg]; exact ha) hi (by rw [v2, hsz]) v3, .agg v1⟩
        · cases h
      · rename_i ha
        cases hx : cs'[off']? with
        | none => rw [hx] at h; cases h
        | some y =>
          rw [hx] at h
          simp only [Option.map_some, Option.some.injEq] at h
          obtain ⟨_, v, hv, hr⟩ := hc off' y hx
          refine ⟨v, loadVar_one h1 (by rw [← hagg]; simpa using ha) hv, ?_⟩
          subst h
          cases y <;> first
            | exact hr
            | trivial
            | exact ⟨hr.1, cs', b, hcs, hx, hb, hv⟩
    case val y => cases y <;> simp at hp
  · rename_i id off cs hp
    cases x <;> simp only [placeOf, Option.map_eq_some_iff, reduceCtorEq, and_false, exists_false] at hp
    case val y =>
      cases y <;> simp only [placeOf, Option.map_eq_some_iff, Place.mem.injEq, reduceCtorEq, and_false, exists_false, Option.some.injEq] at hp
      case ptr id' off' =>
        obtain ⟨cs', hcs, rfl, rfl, rfl⟩ := hp
        cases hu with
        | ptr hb =>
          rename_i b
          obtain ⟨b', hb', hc⟩ := r.sim.obj _ _ hcs
          rw [hb] at hb'; cases hb'
          unfold loadCs at h
          split at h
          · rename_i ha
            split at h
            · rename_i hle
              cases h
              obtain ⟨vs, v1, v2, v3⟩ := row_reps hc ti.size off' hle
              exact ⟨_, loadVar_agg h1 (by rw [← hagg]; exact ha) hi (by rw [v2, hsz]) v3, .agg v1⟩
            · cases h
          · rename_i ha
            cases hx : cs'[off']? with
            | none => rw [hx] at h; cases h
            | some y =>
              rw [hx] at h
              simp only [Option.map_some, Option.some.injEq] at h
              obtain ⟨_, v, hv, hr⟩ := hc off' y hx
              refine ⟨v, loadVar_one h1 (by rw [← hagg]; simpa using ha) hv, ?_⟩
              subst h
              cases y <;> first
                | exact hr
                | trivial
                | exact ⟨hr.1, cs', b, hcs, hx, hb, hv⟩
  · rename_i cs hp
    cases x <;> simp only [placeOf, Option.map_eq_some_iff, reduceCtorEq, and_false, exists_false] at hp
    case val y =>
      cases y <;> simp only [placeOf, Option.map_eq_some_iff, Place.imm.injEq, reduceCtorEq, and_false, exists_false, Option.some.injEq] at hp
      case ep cs' =>
        subst hp
        cases hu with
        | ep hat =>
          rename_i b off
          split at h
          · rename_i ha
            split at h
            · rename_i hle
              cases h
              obtain ⟨vs, v1, v2⟩ := (hat.take ti.size).reps
              refine ⟨_, loadVar_agg h1 (by rw [← hagg]; exact ha) hi ?_ (fun j v hv => (v2 j v hv).1), .agg v1⟩
              rw [v1.length, hsz]; simp; omega
            · cases h
          · rename_i ha
            cases hx : cs'[0]? with
            | none => rw [hx] at h; cases h
            | some y =>
              rw [hx] at h
              simp only [Option.map_some, Option.some.injEq] at h
              subst h
              obtain ⟨v, hv, hr⟩ := hat.length_le 0 y hx
              exact ⟨v, loadVar_one h1 (by rw [← hagg]; simpa using ha) hv.1, hr⟩
  · cases h

/-! ### values that are put together -/
theorem foldl_set : ∀ (vs : List Value) (off i : Nat) (cells : Array Value), ((vs.zipIdx i).foldl (fun cs (p : Value × Nat) => cs.setIfInBounds (off + p.2) p.1) cells).toList =
    (if off + i + vs.length ≤ cells.size then cells.toList.take (off + i) ++ vs ++ cells.toList.drop (off + i + vs.length) else ((vs.zipIdx i).foldl (fun cs (p : Value × Nat) => cs.setIfInBounds (off + p.2) p.1) cells).toList)
  | [], off, i, cells => by simp
  | v :: vs, off, i, cells => by
    split
    · rename_i h
      simp only [List.length_cons] at h
      rw [List.zipIdx_cons, List.foldl_cons]
      have := foldl_set vs off (i + 1) (cells.setIfInBounds (off + i) v)
      rw [this, if_pos (by simp; omega)]
      apply List.ext_getElem?
      intro j
      simp only [Array.toList_setIfInBounds, List.length_cons]
      rcases Nat.lt_trichotomy j (off + i) with h1 | h1 | h1
      · rw [List.append_assoc, List.append_assoc, List.getElem?_append_left (by simp; omega), List.getElem?_append_left (by simp; omega), List.getElem?_take, List.getElem?_take, if_pos (by omega), if_pos (by omega), List.getElem?_set, if_neg (by omega)]
      · subst h1
        rw [List.append_assoc, List.getElem?_append_left (by simp; omega), List.getElem?_take, if_pos (by omega), List.getElem?_set, if_pos rfl, if_pos (by simpa using (by omega : off + i < cells.size))]
        rw [List.append_assoc, List.getElem?_append_right (by simp; omega)]
        simp; rw [show off + i - min (off + i) cells.size = 0 by omega]; simp
      · by_cases h2 : j < off + i + 1 + vs.length
        · rw [List.append_assoc, List.getElem?_append_right (by simp; omega), List.getElem?_append_left (by simp; omega)]
          rw [List.append_assoc, List.getElem?_append_right (by simp; omega), List.getElem?_append_left (by simp; omega)]
          simp only [List.length_take, List.length_set, Array.length_toList]
          rw [show j - min (off + i) cells.size = (j - min (off + (i + 1)) cells.size) + 1 by omega, List.getElem?_cons_succ]
        · rw [List.getElem?_append_right (by simp; omega), List.getElem?_append_right (by simp; omega), List.getElem?_drop, List.getElem?_drop, List.getElem?_set]
          simp only [List.length_append, List.length_take, List.length_set, Array.length_toList, List.length_cons]
          rw [if_neg (by omega)]
          congr 1; omega
    · rfl

/-- The parts, as the operation is handed them. -/
inductive Parts (κ : K) (w : World) : List (Nat × Value) → List (Nat × Option (List V)) → Prop
  | nil : Parts κ w [] []
  | cons {i : Nat} {v : Value} {cs : Option (List V)} {vs : List (Nat × Value)} {ps : List (Nat × Option (List V))} (h : ∀ xs, cs = some xs → Reps κ w v.cells.toList xs) (r : Parts κ w vs ps) : Parts κ w ((i, v) :: vs) ((i, cs) :: ps)

theorem fill_parts {place : Nat → Option (Nat × Nat)} {place' : Nat → Option (Nat × Nat)} : ∀ {vs : List (Nat × Value)} {ps : List (Nat × Option (List V))} {cells : Array Value} {cs zs : List V}, Parts κ w vs ps → Reps κ w cells.toList cs →
    (∀ i x, place' i = some x → place i = some x) → fillV place' cs ps = some zs → ∃ out, Instr.fill place cells vs = some out ∧ Reps κ w out.toList zs
  | _, _, cells, cs, zs, .nil, hc, _, h => by
    simp only [fillV, Option.some.injEq] at h; subst h
    exact ⟨cells, rfl, hc⟩
  | _, _, cells, cs, zs, .cons (i := i) (v := v) (cs := pc) hp r, hc, hpl, h => by
    cases pc with
    | none => cases h
    | some xs =>
      simp only [fillV] at h
      split at h
      · cases h
      · rename_i off size hplace
        split at h
        · rename_i hl
          split at h
          · rename_i c hs
            have hx := hp xs rfl
            obtain ⟨s1, s2, s3⟩ := splice_get hs
            have hlen : v.cells.size = xs.length := by have := hx.length; simpa using this
            have hcl : cells.size = cs.length := by have := hc.length; simpa using this
            simp only [beq_iff_eq] at hl
            have hnew : Reps κ w (v.cells.zipIdx.foldl (fun cs (p : Value × Nat) => cs.setIfInBounds (off + p.2) p.1) cells).toList c := by
              have := foldl_set v.cells.toList off 0 cells
              rw [if_pos (by simp; omega)] at this
              rw [← Array.foldl_toList, Array.toList_zipIdx, this]
              have hsp : c = cs.take off ++ xs ++ cs.drop (off + xs.length) := by
                unfold splice at hs; split at hs
                · cases hs; rfl
                · exact absurd s1 ‹_›
              rw [hsp]
              simp only [Nat.add_zero, Array.length_toList, hlen]
              exact ((hc.take off).append hx).append (hc.drop _)
            obtain ⟨out, h1, h2⟩ := fill_parts r hnew hpl h
            refine ⟨out, ?_, h2⟩
            simp only [Instr.fill, hpl _ _ hplace]
            rw [if_neg (by simp; omega)]
            exact h1
          · cases h
        · cases h

theorem part_cells {v : Value} {e : E} {xs : List V} (h : RepR κ w lam v e) (he : e.part? = some xs) : Reps κ w v.cells.toList xs := by
  unfold E.part? at he
  split at he
  · cases he
  · rename_i x hx hv
    cases he
    have hr := h.v hv
    cases x with
    | agg cs => obtain ⟨ar, rfl, hr'⟩ := hr.agg_inv; exact hr'
    | any => exact absurd rfl hx
    | _ => cases hr <;> exact .cons (by first | assumption | (constructor <;> assumption) | constructor) .nil
  · cases he

theorem parts_of (r : R d n κ w lam fr st a) : (l : List (Nat × Operand)) → Parts κ w (l.map fun p => (p.1, a.eval p.2)) (l.map fun p => (p.1, (fr.op p.2).part?))
  | [] => .nil
  | p :: l => .cons (fun _ h => part_cells (r.op p.2) h) (parts_of r l)
end Go.Ab
