/- What each quiet operation does: conversions, addresses, parts, slices. -/
import Derived.Test.YtiiahehclbmodaaAbS2
namespace Go.Ab
open Go
set_option linter.unusedVariables false
set_option linter.unusedSimpArgs false
set_option linter.unnecessarySimpa false

variable {P : Program} {d n : Nat} {κ : K} {w : World} {lam : Lam} {fr : Fr} {st : St} {a : Act} {o : Oper}

theorem run_un_v (op : UnOp) {u : Value} {x z : V} (hu : Rep κ w u x) (h : unV op x = some z) : ∃ r, (Op.unary op u).run P w = .ok r w ∧ Rep κ w r z := by
  unfold unV at h
  split at h <;> try cases h
  · cases hu; exact ⟨_, rfl, .bool _⟩
  · cases hu; exact ⟨_, rfl, .int _ _⟩
  · cases hu; exact ⟨_, rfl, .float _ _⟩
  · cases hu; exact ⟨_, rfl, .int _ _⟩

theorem und_tk {g : G} (hg : TyOk P g) {t : Nat} {ti : TI} (h : g.ty t = some ti) : ∃ de, P.underlying t = some de ∧ TKok P de ti.k := by
  obtain ⟨de, h1, h2, _⟩ := (hg.ti t ti h).und
  exact ⟨de, h1, h2⟩

theorem addr_add (b o m : Nat) : (at_ b o).add m = at_ b (o + m) := by
  unfold Addr.add at_; split
  · rename_i h; simp [h]
  · rfl

/-! ### addresses -/
theorem addrAdd_rep {v : Value} {e e' : E} {m : Nat} (h : RepR κ w lam v e) (he : addrAdd e m = some e') :
    ∃ b o, v = .pointer (some (at_ b o)) ∧ RepV κ w lam fr st a.tmps (.pointer (some (at_ b (o + m)))) e' := by
  unfold addrAdd at he
  split at he
  · cases he
    obtain ⟨b, hb, rfl⟩ := h
    exact ⟨b, _, rfl, b, hb, rfl⟩
  · cases he
    cases h with | ptr h => exact ⟨_, _, rfl, .ptr h⟩
  · split at he
    · cases he
      cases h with | ep h => exact ⟨_, _, rfl, .ep (h.drop _)⟩
    · cases he
  · cases he

theorem field_run (t : TypeId) (fs : Array Field) (f : Field) (j : Nat) (i : TypeInfo) (b o : Nat) (h1 : P.underlying t = some (.struct fs)) (h2 : fs[j]? = some f) (h3 : P.info? f.type = some i) (h4 : i.size ≠ 0) :
    (Instr.fieldAt t (.pointer (some (at_ b o))) j).run P w = .ok (.pointer (some (at_ b (o + f.offset)))) w := by
  simp [Instr.fieldAt, run_underlying h1, h2, Instr.sureAddr, fieldPlace, sizeOf, typeInfo, h3, h4, addr_add]

theorem flat_get (xs : List V) (k : Nat) (h : ∀ x ∈ xs, x.cells.length = k) (i : Nat) (x : V) (hx : xs[i]? = some x) (j : Nat) (hj : j < k) :
    (xs.flatMap V.cells)[i * k + j]? = x.cells[j]? := by
  induction xs generalizing i with
  | nil => simp at hx
  | cons y ys ih =>
    have hy := h y (by simp)
    cases i with
    | zero =>
      simp at hx; subst hx
      rw [List.flatMap_cons, Nat.zero_mul, Nat.zero_add, List.getElem?_append_left (by omega)]
    | succ i =>
      simp at hx
      have := ih (fun z hz => h z (by simp [hz])) i hx
      rw [List.flatMap_cons, List.getElem?_append_right (by rw [hy, Nat.succ_mul]; omega), hy]
      rw [show (i + 1) * k + j - k = i * k + j by rw [Nat.succ_mul]; omega]
      exact this

theorem flat_length (xs : List V) (k : Nat) (h : ∀ x ∈ xs, x.cells.length = k) : (xs.flatMap V.cells).length = xs.length * k := by
  induction xs with
  | nil => simp
  | cons y ys ih => rw [List.flatMap_cons, List.length_append, h y (by simp), ih (fun z hz => h z (by simp [hz])), List.length_cons, Nat.succ_mul, Nat.add_comm]
theorem flat_drop (xs : List V) (k : Nat) (h : ∀ x ∈ xs, x.cells.length = k) (i : Nat) : (xs.drop i).flatMap V.cells = (xs.flatMap V.cells).drop (i * k) := by
  induction xs generalizing i with
  | nil => simp
  | cons y ys ih =>
    cases i with
    | zero => simp
    | succ i =>
      have hy := h y (by simp)
      have e : (i + 1) * k = i * k + k := Nat.succ_mul i k
      rw [List.drop_succ_cons, ih (fun z hz => h z (by simp [hz])), List.flatMap_cons, e, List.drop_append, hy, List.drop_of_length_le (l := y.cells) (by omega), List.nil_append, Nat.add_sub_cancel]
theorem flat_take (xs : List V) (k : Nat) (h : ∀ x ∈ xs, x.cells.length = k) (i : Nat) : (xs.take i).flatMap V.cells = (xs.flatMap V.cells).take (i * k) := by
  induction xs generalizing i with
  | nil => simp
  | cons y ys ih =>
    cases i with
    | zero => simp
    | succ i =>
      have hy := h y (by simp)
      have e : (i + 1) * k = i * k + k := Nat.succ_mul i k
      rw [List.take_succ_cons, List.flatMap_cons, ih (fun z hz => h z (by simp [hz])), List.flatMap_cons, e, List.take_append, hy, List.take_of_length_le (l := y.cells) (by omega), Nat.add_sub_cancel]

/-- An element of a slice, cell by cell. -/
theorem slice_elem {b o cap k : Nat} {xs : List V} (hk : ∀ x ∈ xs, x.cells.length = k) (h : RepAt κ w b o (xs.flatMap V.cells)) (i : Nat) (x : V) (hx : xs[i]? = some x) :
    RepAt κ w b (o + i * k) x.cells := by
  refine RepAt.of_get fun j y hy => ?_
  have hj : j < k := by
    have := (List.getElem?_eq_some_iff.1 hy).1
    rwa [hk x (List.mem_of_getElem? hx)] at this
  rw [Nat.add_assoc]
  exact h.length_le _ _ (by rw [flat_get xs k hk i x hx j hj]; exact hy)

theorem elems_of {v : Value} {e : E} {xs : List V} (h : RepR κ w lam v e) (he : elemsOf e = some xs) : Rep κ w v (.slice xs) := by
  unfold elemsOf at he
  split at he <;> cases he <;> exact h

theorem index_run_slice (t elem : TypeId) (i : TypeInfo) (b o len cap : Nat) (k : IntKind) (m : Int) (h1 : P.underlying t = some (.slice elem)) (h2 : P.info? elem = some i) (h3 : 0 ≤ m) (h4 : m < len) :
    (Instr.indexAt t (.slice (some (at_ b o)) len cap) (.int k m)).run P w = .ok (.pointer (some (at_ b (o + m.toNat * i.size)))) w := by
  simp [Instr.indexAt, asIntOf, run_underlying h1, h3, h4, sizeOf, typeInfo, h2, addr_add]
theorem index_run_array (t elem : TypeId) (i : TypeInfo) (b o len : Nat) (k : IntKind) (m : Int) (h1 : P.underlying t = some (.array len elem)) (h2 : P.info? elem = some i) (h3 : 0 ≤ m) (h4 : m < len) :
    (Instr.indexAt t (.pointer (some (at_ b o))) (.int k m)).run P w = .ok (.pointer (some (at_ b (o + m.toNat * i.size)))) w := by
  simp [Instr.indexAt, asIntOf, run_underlying h1, h3, h4, sizeOf, typeInfo, h2, addr_add, Instr.sureAddr]

theorem indexAddr_ok {g : G} (hg : TyOk P g) {t : Nat} {ti : TI} (hti : g.ty t = some ti) {u v : Value} {x e : E} {m : Int} (hu : RepR κ w lam u x) (hv : ∃ k, v = .int k m)
    (h : indexAddrStep ti x m = some e) : ∃ r, (Instr.indexAt t u v).run P w = .ok r w ∧ RepV κ w lam fr st a.tmps r e := by
  obtain ⟨k, rfl⟩ := hv
  obtain ⟨de, h1, h2⟩ := und_tk hg hti
  unfold indexAddrStep at h
  split at h
  · rename_i len esz ea hk
    rw [hk] at h2
    obtain ⟨el, i, de', rfl, hi, rfl, _, _⟩ := h2
    split at h
    · rename_i hb
      obtain ⟨b, o, rfl, hr⟩ := addrAdd_rep (fr := fr) (st := st) (a := a) hu h
      exact ⟨_, index_run_array t el i b o len k m h1 hi hb.1 hb.2, hr⟩
    · cases h
  · rename_i esz eb ea ez hk
    rw [hk] at h2
    obtain ⟨el, i, z, de', rfl, hi, rfl, _, _, _, _, _⟩ := h2
    split at h
    · rename_i _ k' id off len
      split at h
      · rename_i hb
        obtain ⟨rfl, hb1, hb2⟩ := hb
        cases h
        obtain ⟨b, cap, rfl, h3, _, h4, h5⟩ := Rep.sref_inv hu
        exact ⟨_, index_run_slice t el i b off len cap k m h1 hi hb1 hb2, .ptr h3⟩
      · cases h
    split at h
    · rename_i xs hxs
      split at h
      · rename_i h0
        split at h
        · rename_i y hy
          split at h
          · rename_i hl
            cases h
            have hr := elems_of hu hxs
            cases hr with
            | slice0 => simp at hy
            | slice hc hk' hat =>
              rename_i b o cap k'
              have hlt : m.toNat < xs.length := (List.getElem?_eq_some_iff.1 hy).1
              have hke : k' = i.size := by rw [← hk' y (List.mem_of_getElem? hy)]; simpa using hl
              subst hke
              exact ⟨_, index_run_slice t el i b o xs.length cap k m h1 hi h0 (by omega), .ep (slice_elem (cap := cap) hk' hat _ _ hy)⟩
          · cases h
        · cases h
      · cases h
    · cases h
  · cases h

/-! ### parts of values -/
theorem part_ok {ty : TypeId} {i : TypeInfo} {de : TypeDesc} {cs : Array Value} {xs : List V} {off : Nat} {z : V} (h1 : P.info? ty = some i) (h2 : P.underlying ty = some de) (hc : Reps κ w cs.toList xs)
    (h : partV i.size (isAggT de) xs off = some z) : ∃ r, (part ty cs off).run P w = .ok r w ∧ Rep κ w r z := by
  have hagg : (isAgg ty).run P w = .ok (isAggT de) w := by
    unfold isAgg
    simp only [Sem.run_bind, run_underlying h2, Result.andThen_ok]
    cases de <;> rfl
  unfold partV at h
  unfold part
  simp only [Sem.run_bind, hagg, Result.andThen_ok]
  split at h
  · rename_i ha
    split at h
    · cases h
      refine ⟨.agg (cs.extract off (off + i.size)), ?_, ?_⟩
      · simp [ha, sizeOf, typeInfo, h1]
      · refine .agg ?_
        have : (cs.extract off (off + i.size)).toList = (cs.toList.drop off).take i.size := by
          rw [Array.toList_extract]; simp [List.extract_eq_take_drop, List.take_drop]
        rw [this]; exact (hc.drop off).take i.size
    · cases h
  · rename_i ha
    obtain ⟨v, hv, hr⟩ := hc.get off z h
    refine ⟨v, ?_, hr⟩
    simp only [ha, if_false, Bool.false_eq_true]
    rw [← Array.getElem?_toList, hv]
    rfl

theorem field_ok {g : G} (hg : TyOk P g) {t : Nat} {ti : TI} (hti : g.ty t = some ti) {fs : List (Nat × Nat × Bool)} (hk : ti.k = .struct fs) {u : Value} {cs : List V} (hu : Rep κ w u (.agg cs))
    {j off size : Nat} {ag : Bool} (hf : fs[j]? = some (off, size, ag)) {z : V} (h : partV size ag cs off = some z) : ∃ r, (Instr.field t u j).run P w = .ok r w ∧ Rep κ w r z := by
  obtain ⟨de, h1, h2⟩ := und_tk hg hti
  rw [hk] at h2
  obtain ⟨fs', rfl, hlen, hall⟩ := h2
  have hj : j < fs'.size := by rw [← hlen]; exact (List.getElem?_eq_some_iff.1 hf).1
  obtain ⟨i, de', hi, hd, he⟩ := hall j fs'[j] (by simp [hj])
  rw [hf] at he
  simp only [Option.some.injEq, Prod.mk.injEq] at he
  obtain ⟨rfl, rfl, rfl⟩ := he
  obtain ⟨ar, rfl, hr⟩ := hu.agg_inv
  obtain ⟨r, h3, h4⟩ := part_ok hi hd hr h
  refine ⟨r, ?_, h4⟩
  simp [Instr.field, run_underlying h1, hj, asAgg, h3]

theorem fieldAddr_ok {g : G} (hg : TyOk P g) {t : Nat} {ti : TI} (hti : g.ty t = some ti) {fs : List (Nat × Nat × Bool)} (hk : ti.k = .struct fs) {u : Value} {x e : E} (hu : RepR κ w lam u x)
    {j off size : Nat} {ag : Bool} (hf : fs[j]? = some (off, size, ag)) (hs : size ≠ 0) (h : addrAdd x off = some e) : ∃ r, (Instr.fieldAt t u j).run P w = .ok r w ∧ RepV κ w lam fr st a.tmps r e := by
  obtain ⟨de, h1, h2⟩ := und_tk hg hti
  rw [hk] at h2
  obtain ⟨fs', rfl, hlen, hall⟩ := h2
  have hj : j < fs'.size := by rw [← hlen]; exact (List.getElem?_eq_some_iff.1 hf).1
  obtain ⟨i, de', hi, hd, he⟩ := hall j fs'[j] (by simp [hj])
  rw [hf] at he
  simp only [Option.some.injEq, Prod.mk.injEq] at he
  obtain ⟨rfl, rfl, rfl⟩ := he
  obtain ⟨b, o, rfl, hr⟩ := addrAdd_rep (fr := fr) (st := st) (a := a) hu h
  exact ⟨_, field_run t fs' fs'[j] j i b o h1 (by simp [hj]) hi hs, hr⟩

theorem index_ok {g : G} (hg : TyOk P g) {t : Nat} {ti : TI} (hti : g.ty t = some ti) {u v : Value} {x z : V} {m : Int} (hu : Rep κ w u x) (hv : ∃ k, v = .int k m)
    (h : indexStep ti x m = some z) : ∃ r, (Instr.index t u v).run P w = .ok r w ∧ Rep κ w r z := by
  obtain ⟨k, rfl⟩ := hv
  obtain ⟨de, h1, h2⟩ := und_tk hg hti
  unfold indexStep at h
  split at h
  · rename_i len esz ea cs hk
    rw [hk] at h2
    obtain ⟨el, i, de', rfl, hi, rfl, hd, rfl⟩ := h2
    split at h
    · rename_i hb
      obtain ⟨ar, rfl, hr⟩ := hu.agg_inv
      obtain ⟨r, h3, h4⟩ := part_ok hi hd hr h
      refine ⟨r, ?_, h4⟩
      simp [Instr.index, asIntOf, run_underlying h1, hb, sizeOf, typeInfo, hi, h3]
    · cases h
  · rename_i s hk
    rw [hk] at h2
    simp only [TKok] at h2; subst h2
    split at h
    · rename_i h0
      obtain ⟨s', rfl, rfl⟩ := hu.str_inv
      cases hb : s'.data.toList[m.toNat]? with
      | none => rw [hb] at h; cases h
      | some c =>
        rw [hb] at h; simp only [Option.map_some, Option.some.injEq] at h; subst h
        refine ⟨.int .u8 c.toNat, ?_, .int _ _⟩
        have : s'[m.toNat]? = some c := by
          rw [← hb]
          obtain ⟨hlt, heq⟩ := List.getElem?_eq_some_iff.1 hb
          have hl2 : m.toNat < s'.size := by rw [size_eq_length]; exact hlt
          rw [hb, getElem?_pos s' m.toNat hl2]
          exact congrArg some heq
        simp [Instr.index, asIntOf, run_underlying h1, h0, this]
    · cases h
  · cases h
end Go.Ab
