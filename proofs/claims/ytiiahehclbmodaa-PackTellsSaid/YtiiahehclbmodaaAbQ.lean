/- append. -/
import Derived.Test.YtiiahehclbmodaaAbP
namespace Go.Ab
open Go
set_option linter.unusedVariables false
set_option linter.unusedSimpArgs false
set_option linter.unnecessarySimpa false

variable {P : Program} {d n : Nat} {κ : K} {w : World} {lam : Lam} {fr : Fr} {st : St} {a : Act} {o : Oper}

theorem byteVs_length (s : List UInt8) : (byteVs s).length = s.length := by simp [byteVs]
theorem byteVs_cells (s : List UInt8) : (byteVs s).flatMap V.cells = byteVs s := by
  induction s with
  | nil => rfl
  | cons b r ih => simp only [byteVs, List.map_cons, List.flatMap_cons] at ih ⊢; rw [ih]; rfl
theorem byteVs_reps (κ : K) (w : World) (s : List UInt8) : Reps κ w (s.map fun b => Value.int .u8 b.toNat) (byteVs s) := by
  induction s with
  | nil => exact .nil
  | cons b r ih => exact .cons (.int _ _) ih

/-- What is appended: its cells, read in any world that has the same cells. -/
theorem src_ok {tk : Option TK} {e : E} {v : Value} {ys : List V} {esz : Nat} (h : RepR κ w lam v e) (ha : appended tk e = some ys) (hs : sizesOk esz ys = true) :
    ∃ vs, Reps κ w vs (ys.flatMap V.cells) ∧ (∀ w', (Builtin.lenOf v).run P w' = .ok ys.length w') ∧ ∀ w', (∀ x, w'.cell? x = w.cell? x) → (Builtin.firstCells esz ys.length v).run P w' = .ok vs.toArray w' := by
  unfold appended at ha
  split at ha
  · have hr := elems_of h ha
    cases hr with
    | slice0 q cap =>
      refine ⟨[], .nil, fun _ => rfl, fun w' _ => ?_⟩
      cases q with
      | none => exact run_firstCells_none w' _ _ _ _
      | some q => exact run_firstCells_some w' esz 0 q 0 cap [] (by simp) (by simp)
    | slice hc hk hat =>
      obtain ⟨vs, h1, h2⟩ := hat.reps
      refine ⟨vs, h1, fun _ => rfl, fun w' hw => ?_⟩
      refine run_firstCells_some w' esz _ _ _ _ vs ?_ fun j v hv => ?_
      · rw [h1.length, flat_length _ esz (sizesOk_all hs)]
      · rw [addr_add, hw]; exact (h2 j v hv).1
  · split at ha
    · cases ha
      obtain ⟨s', rfl, rfl⟩ := Rep.str_inv h
      refine ⟨_, byteVs_cells _ ▸ byteVs_reps κ w _, fun _ => by rw [byteVs_length, ← size_eq_length]; rfl, fun w' _ => ?_⟩
      have : s'.extract 0 (byteVs s'.data.toList).length = s' := by
        rw [byteVs_length, ← size_eq_length]
        apply ByteArray.ext
        rw [ByteArray.data_extract]
        exact Array.extract_size
      simp only [Builtin.firstCells, this, Sem.run_pure]
      rw [← Array.toList_map]
    · cases ha
  · cases ha

/-- Cells on their way are written, and are for reading from then on. -/
theorem fill_ok (r : R d n κ w lam fr st a) {b o : Nat} {vs : List Value} (hown : ∀ j, j < vs.length → κ.own b (o + j) = some .fly) (hne : vs ≠ []) :
    let κ' : K := { κ with own := fun b' j => if b' = b ∧ o ≤ j ∧ j < o + vs.length then none else κ.own b' j }
    R d n κ' (w.setCells b o vs) lam fr st a ∧ Pres (fun L => L ≠ .fly) κ w κ' (w.setCells b o vs) ∧ (∀ (j : Nat) v, vs[j]? = some v → Imm κ' (w.setCells b o vs) b (o + j) v) := by
  intro κ'
  have hex : ∀ j, j < vs.length → ∃ v, w.cell? (at_ b (o + j)) = some v := fun j hj => (r.sim.good _ _ _ (hown j hj)).1
  have p1 : Pres (fun L => L ≠ .fly) κ w κ (w.setCells b o vs) := pres_write _ (by simp) hne r.sim.good hown
  have p2 : Pres (fun L => L ≠ .fly) κ (w.setCells b o vs) κ' (w.setCells b o vs) := {
    os := rfl
    tape := rfl
    out := rfl
    size := Nat.le_refl _
    blk := fun _ _ h => h
    imm := fun c j v h => ⟨h.1, by simp only [κ']; split <;> first | rfl | exact h.2⟩
    lab := fun c j L h hs => by
      refine ⟨?_, rfl⟩
      simp only [κ']
      rw [if_neg]
      · exact h
      · rintro ⟨rfl, h1, h2⟩
        have := hown (j - o) (by omega)
        rw [show o + (j - o) = j by omega, h] at this
        cases this; exact hs rfl
    sz := fun _ _ _ => rfl
    free := fun c _ h => ⟨rfl, fun j => by simp only [κ']; split <;> first | rfl | exact h j⟩ }
  have p := p1.trans p2
  have g : Good κ' (w.setCells b o vs) := by
    intro c j L hL
    simp only [κ'] at hL
    split at hL
    · cases hL
    · exact good_write r.sim.good b o vs hex c j L hL
  refine ⟨r.pres p (fun L hL e => by subst e; exact hL) g r.sim.fresh, p, fun j v hv => ⟨?_, ?_⟩⟩
  · exact setCells_at b vs o w hex j v hv
  · show (if b = b ∧ o ≤ o + j ∧ o + j < o + vs.length then none else κ.own b (o + j)) = none
    rw [if_pos ⟨rfl, by omega, by have := (List.getElem?_eq_some_iff.1 hv).1; omega⟩]

theorem own_slice {k : Nat} {v : Value} {xs : List V} (h1 : Rep κ w v (.slice xs)) : ∃ q cap, v = .slice q xs.length cap ∧ xs.length ≤ cap := h1.slice_inv

/-- append onto a slice that is on its way. -/
theorem append_run (r : R d n κ w lam fr st a) {t xt ty : TypeId} {elem : TypeId} {i : TypeInfo} {z : Value} {esz eb k : Nat} {xs ys : List V} {v vx : Value} {tk : Option TK} {e : E} {args : Array Value} {ats : Array TypeId}
    (ht : P.underlying t = some (.slice elem)) (hi : P.info? elem = some i) (hz : i.zero = some z) (hsz : i.size = esz) (hb : i.bytes = eb) (hzl : z.cells.size = esz)
    (ha0 : args[0]? = some v) (ha1 : args[1]? = some vx) (ht0 : ats[0]? = some t) (ht1 : ats[1]? = some xt) (hxt : (∃ e, P.underlying xt = some (.slice e)) ∨ P.underlying xt = some .string)
    (hv : Rep κ w v (.slice xs)) (hsp : Spare κ .fly k v) (hk : k = 0 ∨ k = esz) (hx : RepR κ w lam vx e) (hap : appended tk e = some ys) (hsx : sizesOk esz xs = true) (hsy : sizesOk esz ys = true)
    (he : 0 < esz) (hbytes : (xs.length + ys.length) * eb ≤ 2 ^ 47) (hlen : xs.length + ys.length ≤ 2 ^ 47) :
    ∃ v' w' κ', (Builtin.append_ ats ty args).run P w = .ok v' w' ∧ R d n κ' w' lam fr st a ∧ RepV κ' w' lam fr st a.tmps v' (.own esz (xs ++ ys)) ∧ Pres (fun L => L ≠ .fly) κ w κ' w' := by
  obtain ⟨vs, hr, hlenOf, hfirst⟩ := src_ok (P := P) hx hap hsy
  obtain ⟨q, cap, rfl, hcap⟩ := own_slice (k := k) hv
  have hvl : vs.length = ys.length * esz := by rw [hr.length, flat_length _ esz (sizesOk_all hsy)]
  have hall : ∀ x ∈ xs ++ ys, x.cells.length = esz := by
    intro x hx
    rcases List.mem_append.1 hx with h | h
    · exact sizesOk_all hsx x h
    · exact sizesOk_all hsy x h
  by_cases hfit : xs.length + ys.length ≤ cap
  · -- there is room
    have hrun : ∀ (w' : World) (base : Option Addr), q = base → (match base with | some c => ((storeCells (c.add (xs.length * esz)) vs).run P w) = .ok () w' | none => w' = w) →
        (Builtin.append_ ats ty args).run P w = .ok (.slice q (xs.length + ys.length) cap) w' := by
      intro w' base hq hst
      subst hq
      rcases hxt with ⟨xe, hde⟩ | hde <;>
        (simp only [Builtin.append_, ht0, ha0, ha1, ht1, Sem.run_bind, run_underlying ht, run_underlying hde, Result.andThen_ok, sizeOf, typeInfo, Sem.run_pure, run_program, hi, hsz, Bool.false_eq_true, if_false, hlenOf, hfit, if_true, Bool.not_false, hfirst w (fun _ => rfl)]
         cases q with
         | none => subst hst; rfl
         | some c =>
           simp only at hst ⊢
           rw [Sem.run_bind, hst]; rfl)
    by_cases hy : ys = []
    · subst hy
      simp only [List.length_nil, Nat.zero_mul] at hvl
      have hvs : vs = [] := List.length_eq_zero_iff.1 hvl
      subst hvs
      refine ⟨_, w, κ, hrun w q rfl (by cases q <;> rfl), r, ?_, .refl _ _ _⟩
      simp only [List.append_nil, List.length_nil, Nat.add_zero]
      refine ⟨hv, ?_⟩
      rcases hsp with h1 | ⟨h1, h2, h3⟩
      · exact .inl h1
      · rcases hk with rfl | rfl
        · omega
        · exact .inr ⟨h1, h2, h3⟩
    · have hyl : 0 < ys.length := List.length_pos_iff.2 hy
      rcases hsp with h1 | ⟨h1, h2, b, o, rfl, h3⟩
      · omega
      · have hke : k = esz := by rcases hk with rfl | rfl <;> omega
        subst hke
        have hmul : (xs.length + ys.length) * k ≤ cap * k := Nat.mul_le_mul_right k hfit
        rw [Nat.add_mul] at hmul
        have hvne : vs ≠ [] := by
          intro h
          have h0 : ys.length * k = 0 := by rw [← hvl, h]; rfl
          rcases Nat.mul_eq_zero.1 h0 with h | h <;> omega
        have hown : ∀ j, j < vs.length → κ.own b (o + xs.length * k + j) = some .fly := fun j hj => h3 _ (by omega) (by omega)
        obtain ⟨r', p, himm⟩ := fill_ok r hown hvne
        have hone : ∀ v ∈ vs, v.oneCell' = true := by
          intro v hv'
          obtain ⟨j, hj, rfl⟩ := List.getElem_of_mem hv'
          have hj2 : j < (ys.flatMap V.cells).length := by rw [← hr.length]; exact hj
          obtain ⟨u, hu, hru⟩ := hr.get j (ys.flatMap V.cells)[j] (by simp)
          rw [List.getElem?_eq_getElem hj] at hu; cases hu
          exact hru.one (sizesOk_one hsy _ (List.getElem_mem _))
        refine ⟨_, _, _, hrun _ (some (at_ b o)) rfl ?_, r', ⟨?_, ?_⟩, p⟩
        · show (storeCells ((at_ b o).add (xs.length * k)) vs).run P w = _
          rw [addr_add]
          exact store_run (fun j hj => (r.sim.good _ _ _ (hown j hj)).1) (fun j hj => (r.sim.good _ _ _ (hown j hj)).2) hone
        · have hl : (xs ++ ys).length = xs.length + ys.length := by simp
          rw [← hl]
          refine .slice (by rw [hl]; exact hfit) hall ?_
          rw [List.flatMap_append]
          refine RepAt.append ?_ ?_
          · by_cases hxe : xs = []
            · subst hxe; exact .nil
            · generalize hvv : Value.slice (some (at_ b o)) xs.length cap = vv at hv
              cases hv with
              | slice0 => exact absurd rfl hxe
              | slice _ _ hat => cases hvv; exact hat.pres p
          · rw [flat_length _ k (sizesOk_all hsx)]
            refine RepAt.of_get fun j x hx => ?_
            obtain ⟨u, hu, hru⟩ := hr.get j x hx
            exact ⟨u, himm j u hu, hru.pres p⟩
        · refine .inr ⟨h1, hfit, b, o, rfl, fun j hj1 hj2 => ?_⟩
          have hmm : (xs.length + ys.length) * k = xs.length * k + ys.length * k := Nat.add_mul _ _ _
          show (if b = b ∧ o + xs.length * k ≤ j ∧ j < o + xs.length * k + vs.length then none else κ.own b j) = _
          rw [if_neg (by omega)]
          exact h3 j (by omega) hj2
  · -- a new row
    have holds : ∃ olds, Reps κ w olds (xs.flatMap V.cells) ∧ ∀ w', (∀ x, w'.cell? x = w.cell? x) → (Builtin.firstCells esz xs.length (.slice q xs.length cap)).run P w' = .ok olds.toArray w' := by
      obtain ⟨olds, h1, _, h2⟩ := src_ok (P := P) (lam := lam) (tk := some (.slice 0 0 false [])) (e := .val (.slice xs)) (show RepR κ w lam _ (.val (.slice xs)) from hv) rfl hsx
      exact ⟨olds, h1, h2⟩
    obtain ⟨olds, hro, hfo⟩ := holds
    have hol : olds.length = xs.length * esz := by rw [hro.length, flat_length _ esz (sizesOk_all hsx)]
    let newCap := grownCap w (xs.length + ys.length) cap elem
    have hge : xs.length + ys.length ≤ newCap := by
      simp only [newCap, grownCap, Question.cut]; exact Nat.le_add_right _ _
    let c : Array Value := olds.toArray ++ vs.toArray ++ Builtin.zeroCells z.cells (newCap - (xs.length + ys.length))
    have hcs : c.size = newCap * esz := by
      simp only [c, Array.size_append, List.size_toArray, Builtin.zeroCells, Array.size_map, Array.size_range, hol, hvl, hzl]
      rw [← Nat.add_mul, ← Nat.add_mul]
      congr 1; omega
    have h63 : ¬ (((xs.length + ys.length : Nat) : Int) > IntKind.i64.max ∧ (False ∨ i.bytes = 0)) := by
      have : IntKind.i64.max = 9223372036854775807 := rfl
      omega
    have h48 : ¬ (Builtin.nextslicecap (xs.length + ys.length) cap * i.bytes > 2 ^ 48) := by
      have := growslice_fits (need := xs.length + ys.length) (old := cap) (bytes := i.bytes) (by omega) (by rw [hb]; omega)
      omega
    have hrun : (Builtin.append_ ats ty args).run P w = .ok (.slice (some (at_ w.heap.size 0)) (xs.length + ys.length) newCap) (w.drew.alloc (.cells c elem)) := by
      have hd1 := hfo w.drew (fun _ => rfl)
      have hd2 := hfirst w.drew (fun _ => rfl)
      have h63' : ¬ (9223372036854775807 < ((xs.length : Int) + (ys.length : Int))) := by omega
      have h48' : ¬ (281474976710656 < Builtin.nextslicecap (xs.length + ys.length) cap * i.bytes) := by omega
      rcases hxt with ⟨xe, hde⟩ | hde <;>
        (simp [Builtin.append_, ht0, ha0, ha1, ht1, run_underlying ht, run_underlying hde, sizeOf, typeInfo, zeroValue, hi, hz, hsz, hlenOf, hfit, h63', h48', Question.forced, hd1, hd2, newRow, newCap, grownCap, c]
         rfl)
    have gd : Good κ w.drew := r.sim.good
    have hreps : Reps κ w.drew (olds ++ vs) ((xs ++ ys).flatMap V.cells) := by
      rw [List.flatMap_append]
      exact (hro.append hr).pres (pres_drew fun _ => True)
    obtain ⟨g', hrep, hspare⟩ := slice_new (k := esz) (cap := newCap) gd he hall hreps c elem (fun j v hv => by
      simp only [c]
      rw [← Array.getElem?_toList]
      simp only [Array.toList_append, List.toList_toArray]
      rw [List.getElem?_append_left (by have := (List.getElem?_eq_some_iff.1 hv).1; exact this)]
      exact hv) hcs (by simpa using hge)
    have hl : (xs ++ ys).length = xs.length + ys.length := by simp
    have pn := fun S => pres_new S gd (.cells c elem) (fun o => if (xs ++ ys).length * esz ≤ o ∧ o < c.size then some .fly else none)
    refine ⟨_, _, _, hrun, ?_, ⟨?_, ?_⟩, (pres_drew _).trans (pn _)⟩
    · exact (r.drew).new c elem (fun o L h => by
        split at h
        · rename_i hh; exact hh.2
        · cases h)
    · rw [← hl]; exact hrep
    · rw [← hl]; exact hspare
end Go.Ab
