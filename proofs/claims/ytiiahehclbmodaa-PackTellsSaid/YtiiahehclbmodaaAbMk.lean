/- Slices whose elements are written: how they are made. -/
import Derived.Test.YtiiahehclbmodaaAbZ
namespace Go.Ab
open Go
set_option linter.unusedVariables false
set_option linter.unusedSimpArgs false
set_option linter.unnecessarySimpa false

variable {P : Program} {d n : Nat} {κ : K} {w : World} {lam : Lam} {fr : Fr} {st : St} {a : Act} {o : Oper}

/-- What is appended, read in any world that has the same cells. -/
def Src (P : Program) (κ : K) (w : World) (esz m : Nat) (v : Value) (vs : List Value) (cs : List V) : Prop :=
  Reps κ w vs cs ∧ vs.length = m * esz ∧ (∀ w', (Builtin.lenOf v).run P w' = .ok m w') ∧ ∀ w', (∀ x, w'.cell? x = w.cell? x) → (Builtin.firstCells esz m v).run P w' = .ok vs.toArray w'

theorem ref_src (r : R d n κ w lam fr st a) {esz id off len cap b : Nat} {cs : List V} (hb : κ.blk id = some b) (ho : st.obj id = some cs) (hl : off + len * esz ≤ cs.length) :
    ∃ vs, Src P κ w esz len (.slice (some (at_ b off)) len cap) vs (((cs.drop off).take (len * esz)).map V.strip1) := by
  obtain ⟨b', hb', hc⟩ := r.sim.obj id cs ho
  rw [hb] at hb'; cases hb'
  obtain ⟨vs, h1, h2, h3⟩ := row_reps hc (len * esz) off hl
  refine ⟨vs, h1, h2, fun _ => rfl, fun w' hw => ?_⟩
  refine run_firstCells_some w' esz _ _ _ _ vs h2 fun j v hv => ?_
  rw [addr_add, hw]; exact h3 j v hv

theorem elemsAt_src (r : R d n κ w lam fr st a) {ea : Bool} {esz : Nat} {e : E} {v : Value} {ys : List V} (h0 : 0 < esz) (hv : RepR κ w lam v e) (h : elemsAt ea esz st e = some ys) (hs : sizesOk esz ys = true) :
    ∃ vs, Src P κ w esz ys.length v vs (ys.flatMap V.cells) := by
  unfold elemsAt at h
  split at h
  · rename_i fl k id off len
    split at h
    · rename_i cs ho
      split at h
      · rename_i hc
        obtain ⟨rfl, h2, h3, h4⟩ := hc
        cases h
        obtain ⟨b, cap, rfl, h5, _, h6, h7⟩ := Rep.sref_inv hv
        obtain ⟨c1, c2, c3⟩ := chunk_ok h3 h0 len (((cs.drop off).take (len * k)).map V.strip1) (by simp; omega) (List.all_eq_true.2 fun x hx => by
          obtain ⟨y, hy, rfl⟩ := List.mem_map.1 hx
          exact List.all_eq_true.1 h4 _ (List.mem_map_of_mem (List.mem_of_mem_drop (List.mem_of_mem_take hy))))
        obtain ⟨vs, hvs⟩ := ref_src (P := P) r (cap := cap) h5 ho h2
        rw [c1, c2]
        exact ⟨vs, hvs⟩
      · cases h
    · cases h
  · obtain ⟨vs, h1, h2, h3⟩ := src_ok (P := P) (lam := lam) (tk := some (.slice 0 0 false [])) (esz := esz) hv h hs
    exact ⟨vs, h1, by rw [h1.length, flat_length _ esz (sizesOk_all hs)], h2, h3⟩

theorem append_fit {t xt ty : TypeId} {elem : TypeId} {i : TypeInfo} {esz m : Nat} {vx : Value} {args : Array Value} {ats : Array TypeId} {q : Option Addr} {len cap : Nat} {vs : List Value} {cs : List V}
    (ht : P.underlying t = some (.slice elem)) (hi : P.info? elem = some i) (hsz : i.size = esz)
    (ha0 : args[0]? = some (.slice q len cap)) (ha1 : args[1]? = some vx) (ht0 : ats[0]? = some t) (ht1 : ats[1]? = some xt) (hxt : ∃ e, P.underlying xt = some (.slice e))
    (hs : Src P κ w esz m vx vs cs) (hfit : len + m ≤ cap) {w' : World} (hst : match q with | some c => ((storeCells (c.add (len * esz)) vs).run P w) = .ok () w' | none => w' = w) :
    (Builtin.append_ ats ty args).run P w = .ok (.slice q (len + m) cap) w' := by
  obtain ⟨hr, hvl, hlenOf, hfirst⟩ := hs
  obtain ⟨xe, hde⟩ := hxt
  simp only [Builtin.append_, ht0, ha0, ha1, ht1, Sem.run_bind, run_underlying ht, run_underlying hde, Result.andThen_ok, sizeOf, typeInfo, Sem.run_pure, run_program, hi, hsz, Bool.false_eq_true, if_false, hlenOf, hfit, if_true, Bool.not_false, hfirst w (fun _ => rfl)]
  cases q with
  | none => subst hst; rfl
  | some c =>
    simp only at hst ⊢
    rw [Sem.run_bind, hst]; rfl

theorem append_grow {t xt ty : TypeId} {elem : TypeId} {i : TypeInfo} {z : Value} {esz eb m : Nat} {vx : Value} {args : Array Value} {ats : Array TypeId} {q : Option Addr} {len cap : Nat} {vs olds : List Value} {cs : List V}
    (ht : P.underlying t = some (.slice elem)) (hi : P.info? elem = some i) (hz : i.zero = some z) (hsz : i.size = esz) (hb : i.bytes = eb) (hzl : z.cells.size = esz)
    (ha0 : args[0]? = some (.slice q len cap)) (ha1 : args[1]? = some vx) (ht0 : ats[0]? = some t) (ht1 : ats[1]? = some xt) (hxt : ∃ e, P.underlying xt = some (.slice e))
    (hs : Src P κ w esz m vx vs cs) (hfit : ¬ len + m ≤ cap) (hol : olds.length = len * esz)
    (hfo : ∀ w', (∀ x, w'.cell? x = w.cell? x) → (Builtin.firstCells esz len (.slice q len cap)).run P w' = .ok olds.toArray w')
    (hbytes : (len + m) * eb ≤ 2 ^ 47) (hlen : len + m ≤ 2 ^ 47) :
    ∃ (c : Array Value) (newCap : Nat), len + m ≤ newCap ∧ c.size = newCap * esz ∧ (∀ (j : Nat) v, (olds ++ vs)[j]? = some v → c[j]? = some v) ∧
      (Builtin.append_ ats ty args).run P w = .ok (.slice (some (at_ w.heap.size 0)) (len + m) newCap) (w.drew.alloc (.cells c elem)) := by
  obtain ⟨hr, hvl, hlenOf, hfirst⟩ := hs
  let newCap := grownCap w (len + m) cap elem
  have hge : len + m ≤ newCap := by
    simp only [newCap, grownCap, Question.cut]; exact Nat.le_add_right _ _
  let c : Array Value := olds.toArray ++ vs.toArray ++ Builtin.zeroCells z.cells (newCap - (len + m))
  have hcs : c.size = newCap * esz := by
    simp only [c, Array.size_append, List.size_toArray, Builtin.zeroCells, Array.size_map, Array.size_range, hol, hvl, hzl]
    rw [← Nat.add_mul, ← Nat.add_mul]
    congr 1; omega
  have h63' : ¬ (9223372036854775807 < ((len : Int) + (m : Int))) := by omega
  have h48 : ¬ (Builtin.nextslicecap (len + m) cap * i.bytes > 2 ^ 48) := by
    have := growslice_fits (need := len + m) (old := cap) (bytes := i.bytes) (by omega) (by rw [hb]; omega)
    omega
  have h48' : ¬ (281474976710656 < Builtin.nextslicecap (len + m) cap * i.bytes) := by omega
  have hd1 := hfo w.drew (fun _ => rfl)
  have hd2 := hfirst w.drew (fun _ => rfl)
  refine ⟨c, newCap, hge, hcs, fun j v hv => ?_, ?_⟩
  · simp only [c]
    rw [← Array.getElem?_toList]
    simp only [Array.toList_append, List.toList_toArray]
    rw [List.getElem?_append_left (by have := (List.getElem?_eq_some_iff.1 hv).1; exact this)]
    exact hv
  · obtain ⟨xe, hde⟩ := hxt
    simp [Builtin.append_, ht0, ha0, ha1, ht1, run_underlying ht, run_underlying hde, sizeOf, typeInfo, zeroValue, hi, hz, hsz, hlenOf, hfit, h63', h48', Question.forced, hd1, hd2, newRow, newCap, grownCap, c]
    rfl

/-- A new object, and a slice of all of it. -/
theorem newRef_ok (r : R d n κ w lam fr st a) (c : Array Value) (t : TypeId) {vs : List Value} (cs : List V) (hr : Reps κ w vs cs) (hcv : ∀ (j : Nat) v, vs[j]? = some v → c[j]? = some v)
    {k len cap : Nat} (hs : c.size = cap * k) (hc : len ≤ cap) :
    ∃ κ', R d n κ' (w.alloc (.cells c t)) lam fr { st with objs := st.objs ++ [cs] } a ∧ Rep κ' (w.alloc (.cells c t)) (.slice (some (at_ w.heap.size 0)) len cap) (.sref false k st.objs.length 0 len) ∧
      Pres (Keep d st.wp) κ w κ' (w.alloc (.cells c t)) := by
  obtain ⟨κ', h1, h2, h3⟩ := object_gen r c t cs hr hcv
  refine ⟨κ', h1, .sref h2 (fun h => by cases h) hc (fun j hj => ?_), h3⟩
  rw [Nat.zero_add, cell_new, Array.getElem?_eq_getElem (by omega)]; rfl

/-- An object that is given up. -/
theorem dead_ok (r : R d n κ w lam fr st a) {id : Nat} {st' : St} (h : st.set id [] = some st') : R d n κ w lam (fr.map E.noMem) st' a ∧ st'.wp = st.wp ∧ st.wp ≤ id ∧ st' = { st with objs := st.objs.set id [] } := by
  have hwp : st.wp ≤ id := by
    unfold St.set at h; split at h
    · assumption
    · cases h
  have hst : st' = { st with objs := st.objs.set id [] } := by
    unfold St.set at h; rw [if_pos hwp] at h; cases h; rfl
  have ho : ∀ id' cs', st'.obj id' = some cs' → (id' = id ∧ cs' = [] ∧ ∃ cs, st.obj id = some cs) ∨ (id' ≠ id ∧ st.obj id' = some cs') := by
    intro id' cs' hc'
    subst hst
    simp only [St.obj, List.getElem?_set] at hc' ⊢
    split at hc'
    · rename_i he; subst he
      split at hc'
      · cases hc'; rename_i hlt; exact .inl ⟨rfl, rfl, _, List.getElem?_eq_getElem hlt⟩
      · cases hc'
    · rename_i he; exact .inr ⟨Ne.symm he, hc'⟩
  refine ⟨r.entries (.refl (fun _ => True) κ w) (fun t => ?_) (fun t cs' hc => r.fm.loc t cs' hc) ⟨by subst hst; simpa using r.sim.wple, r.sim.good, ?_, ?_, ?_⟩, by subst hst; rfl, hwp, hst⟩
  · rw [get_map _ _ rfl]
    have h1' := r.fm.tmp t
    generalize hv : a.tmps.getD t undef = v at h1' ⊢
    generalize he : fr.get t = e at h1' ⊢
    cases e with
    | bor k' ys q =>
      cases q with
      | slot u => exact ⟨h1'.1, by rw [get_map _ _ rfl, h1'.2.1]; rfl, h1'.2.2⟩
      | mem id' o => exact h1'.1
      | loc u o => exact h1'
    | _ => exact h1'
  · subst hst; intro id' hid; exact r.sim.fresh id' (by simpa using hid)
  · intro id' cs' hc'
    rcases ho id' cs' hc' with ⟨rfl, rfl, cs, h1⟩ | ⟨h1, h2⟩
    · obtain ⟨b, hb, _⟩ := r.sim.obj id' cs h1
      exact ⟨b, hb, fun j x hx => by simp at hx⟩
    · exact r.sim.obj id' cs' h2
  · intro id' cs' b' hc' hne hb2
    rcases ho id' cs' hc' with ⟨_, rfl, _⟩ | ⟨h1, h2⟩
    · exact absurd rfl hne
    · exact r.sim.room id' cs' b' h2 hne hb2

/-- An object that grows into the room behind it: a new one in its place. -/
theorem grow_ok (r : R d n κ w lam fr st a) {id b : Nat} {old ys : List V} {vs : List Value} {st' : St} (h1 : st.obj id = some old) (h2 : κ.blk id = some b) (hne : old ≠ []) (h3 : st.set id [] = some st')
    (hr : Reps κ w vs ys) (hex : ∀ j, j < vs.length → (w.cell? (at_ b (old.length + j))).isSome = true) :
    ∃ κ', R d n κ' (w.setCells b old.length vs) lam (fr.map E.noMem) { st' with objs := st'.objs ++ [old.map V.strip1 ++ ys] } a ∧ κ'.blk st.objs.length = some b ∧
      Pres (Keep d st.wp) κ w κ' (w.setCells b old.length vs) := by
  obtain ⟨r0, _, hwp, hst⟩ := dead_ok r h3
  obtain ⟨b', hb', hc⟩ := r.sim.obj id old h1
  rw [h2] at hb'; cases hb'
  have hown : ∀ j, j < vs.length → κ.own b (old.length + j) = some (.obj id) := fun j hj => r.sim.room id old b h1 hne h2 _ (by omega) (hex j hj)
  have hcell : ∀ j, j < vs.length → ∃ v, w.cell? (at_ b (old.length + j)) = some v := fun j hj => (r.sim.good _ _ _ (hown j hj)).1
  let w' := w.setCells b old.length vs
  have hid : id < st.objs.length := (List.getElem?_eq_some_iff.1 h1).1
  have hlen : st'.objs.length = st.objs.length := by subst hst; simp
  let κ1 := κ.re (.obj id) (.obj st.objs.length)
  let κ' : K := { κ1 with blk := fun i => if i = st.objs.length then some b else κ.blk i }
  have p1 : Pres (fun L => L ≠ .obj id) κ w κ w' := by
    by_cases hv : vs = []
    · subst hv; exact .refl _ _ _
    · exact pres_write _ (by simp) hv r.sim.good hown
  have p2 : Pres (fun L => L ≠ .obj id) κ w' κ1 w' := pres_re κ w' _ _ _ (by simp)
  have p3 : Pres (fun L => L ≠ .obj id) κ1 w' κ' w' := {
    os := rfl
    tape := rfl
    out := rfl
    size := Nat.le_refl _
    blk := fun i c h => by
      simp only [κ']
      split
      · rename_i he
        have := r.sim.fresh i (by omega)
        rw [show κ1.blk i = κ.blk i from rfl, this] at h; cases h
      · exact h
    imm := fun _ _ _ h => h
    lab := fun _ _ _ h _ => ⟨h, rfl⟩
    sz := fun _ _ _ => rfl
    free := fun _ _ h => ⟨rfl, h⟩ }
  have p := (p1.trans p2).trans p3
  have g : Good κ' w' := good_re (good_write r.sim.good b old.length vs hcell)
  have hobj : ∀ i cs', St.obj { st' with objs := st'.objs ++ [old.map V.strip1 ++ ys] } i = some cs' →
      (i = st.objs.length ∧ cs' = old.map V.strip1 ++ ys) ∨ (i = id ∧ cs' = []) ∨ (i ≠ id ∧ i < st.objs.length ∧ st.obj i = some cs') := by
    intro i cs' h
    simp only [St.obj] at h ⊢
    rcases Nat.lt_trichotomy i st.objs.length with q | q | q
    · rw [List.getElem?_append_left (by omega)] at h
      subst hst
      simp only [List.getElem?_set] at h
      split at h
      · rename_i he; subst he
        cases h; exact .inr (.inl ⟨rfl, rfl⟩)
      · rename_i he; exact .inr (.inr ⟨Ne.symm he, q, h⟩)
    · subst q; rw [← hlen] at h; simp at h; exact .inl ⟨rfl, h.symm⟩
    · rw [List.getElem?_eq_none (by simp; omega)] at h; cases h
  have hin : ∀ (i : Nat) cs', i ≠ id → st.obj i = some cs' → St.obj { st' with objs := st'.objs ++ [old.map V.strip1 ++ ys] } i = some cs' := by
    intro i cs' hi h
    have hl : i < st.objs.length := (List.getElem?_eq_some_iff.1 h).1
    simp only [St.obj] at h ⊢
    rw [List.getElem?_append_left (by omega)]
    subst hst
    simp only [List.getElem?_set]
    rw [if_neg (Ne.symm hi)]; exact h
  have hvl := hr.length
  have hsim : Sim κ' w' { st' with objs := st'.objs ++ [old.map V.strip1 ++ ys] } := by
    refine ⟨by have := r0.sim.wple; simp; omega, g, fun i hi => ?_, fun i cs' h => ?_, fun i cs' c h hn hb2 => ?_⟩
    · simp only [List.length_append, List.length_cons, List.length_nil] at hi
      simp only [κ']
      rw [if_neg (by omega)]
      exact r.sim.fresh i (by omega)
    · rcases hobj i cs' h with ⟨rfl, rfl⟩ | ⟨rfl, rfl⟩ | ⟨h4, h5, h6⟩
      · refine ⟨b, by simp [κ'], fun j x hx => ?_⟩
        rcases Nat.lt_or_ge j old.length with hj | hj
        · rw [List.getElem?_append_left (by simpa using hj), List.getElem?_map, List.getElem?_eq_getElem hj] at hx
          simp only [Option.map_some, Option.some.injEq] at hx; subst hx
          obtain ⟨ho, v, hv, hrv⟩ := hc j old[j] (by simp)
          refine ⟨re_same ho, v, ?_, RepM.of_rep (hrv.strip1.pres p)⟩
          show (w.setCells b old.length vs).cell? _ = _
          rw [setCells_other _ _ _ _ _ _ (by omega)]; exact hv
        · rw [List.getElem?_append_right (by simpa using hj)] at hx
          simp only [List.length_map] at hx
          obtain ⟨v, hv, hrv⟩ := hr.get _ x hx
          have hjl : j - old.length < vs.length := (List.getElem?_eq_some_iff.1 hv).1
          have ho := hown _ hjl
          have hat := setCells_at b vs old.length w hcell _ v hv
          rw [show old.length + (j - old.length) = j by omega] at ho hat
          exact ⟨re_same ho, v, hat, RepM.of_rep (hrv.pres p)⟩
      · exact ⟨b, by simp only [κ']; rw [if_neg (by omega)]; exact h2, fun j x hx => by simp at hx⟩
      · obtain ⟨c, hcb, cc⟩ := r.sim.obj i cs' h6
        exact ⟨c, p.blk _ _ hcb, cc.pres p (by simpa using h4) (by simp)⟩
    · rcases hobj i cs' h with ⟨rfl, rfl⟩ | ⟨rfl, rfl⟩ | ⟨h4, h5, h6⟩
      · intro j hj hcj
        simp only [κ', if_true, Option.some.injEq] at hb2; subst hb2
        simp only [List.length_append, List.length_map] at hj
        refine re_same (r.sim.room id old b h1 hne h2 j (by omega) ?_)
        obtain ⟨_, v0, hv0, _⟩ := hc 0 (old[0]'(List.length_pos_iff.2 hne)) (by simp)
        rw [← p.sz b j (World.block_lt_of_cell? w _ hv0)]; exact hcj
      · exact absurd rfl hn
      · exact Room.step r.sim p i h6 rfl hn hb2 (fun b j hl => (p.lab b j _ hl (by simpa using h4)).1)
  refine ⟨κ', r.entries p (fun t => ?_) (fun t cs' hc' => ?_) hsim, by simp [κ'], p.mono (fun L hL e => keep_obj d st.wp id hwp (e ▸ hL))⟩
  · rw [get_map _ _ rfl]
    have h1' := r.fm.tmp t
    generalize hv : a.tmps.getD t undef = v at h1' ⊢
    generalize he : fr.get t = e at h1' ⊢
    cases e with
    | any => trivial
    | val x => exact Rep.pres p h1'
    | lp u o => exact h1'
    | own k' ys => exact ⟨h1'.1.pres p, h1'.2.pres p (by simp)⟩
    | bor k' ys q =>
      cases q with
      | slot u => exact ⟨h1'.1.pres p, by rw [get_map _ _ rfl, h1'.2.1]; rfl, h1'.2.2⟩
      | mem id' o => exact h1'.1.pres p
      | loc u o =>
        obtain ⟨q1, cs', b', e1, e2, e3, e4⟩ := h1'
        exact ⟨q1.pres p, cs', b', e1, e2, e3, (r.fm.cellEq p (by simp) u cs' o _ b' e1 e2 e3).trans e4⟩
  · obtain ⟨b', hb', c⟩ := r.fm.loc t cs' hc'
    exact ⟨b', hb', c.pres p (by simp) (by simp)⟩

theorem reps_one {vs : List Value} {xs : List V} (hr : Reps κ w vs xs) (h : xs.all V.one = true) : ∀ v ∈ vs, v.oneCell' = true := by
  intro v hv
  obtain ⟨j, hj, rfl⟩ := List.getElem_of_mem hv
  have hj2 : j < xs.length := by rw [← hr.length]; exact hj
  obtain ⟨u, hu, hru⟩ := hr.get j xs[j] (by simp)
  rw [List.getElem?_eq_getElem hj] at hu; cases hu
  exact hru.one (List.all_eq_true.1 h _ (List.getElem_mem _))
theorem sizesOk_all1 {esz : Nat} {ys : List V} (h : sizesOk esz ys = true) : (ys.flatMap V.cells).all V.one = true := by
  exact List.all_eq_true.2 fun x hx => sizesOk_one h x hx

theorem markAppend_ok {g : G} (hg : TyOk P g) (r : R d n κ w lam fr st a) {args : Array Operand} {ats : Array TypeId} {rs : Rs} (ho : o.op = .call { callee := .builtin .append, args := args, argTypes := ats })
    (h : markAppend g fr st ats args = some rs) : Does P d n κ w st a o rs := by
  unfold markAppend at h
  split at h
  · rename_i t s x esz' eb' ea ez' size' agg' zero' ht hs hx hxt
    split at h
    · rename_i esz eb ea' ez size agg zero hti
      split at h
      · rename_i ys hys
        split at h
        · rename_i hc
          obtain ⟨h0, hsy, hezl⟩ := hc
          obtain ⟨el, i, z, hu, hi, hsz, hbz, hzz, hzr⟩ := elem_size hg hti rfl
          have hzl : z.cells.size = esz := by have := (hzr κ w).length; simpa [hezl] using this
          obtain ⟨xt, hxt1, hxt2⟩ : ∃ xt, ats[1]? = some xt ∧ ∃ e, P.underlying xt = some (.slice e) := by
            cases hx1 : ats[1]? with
            | none => rw [hx1] at hxt; cases hxt
            | some xt =>
              rw [hx1] at hxt
              obtain ⟨e, _, _, he, _⟩ := elem_size hg (ti := ⟨.slice esz' eb' ea ez', size', agg', zero'⟩) hxt rfl
              exact ⟨xt, rfl, e, he⟩
          obtain ⟨vs, hsrc⟩ := elemsAt_src (P := P) r h0 (r.op x) hys hsy
          have hrun : ∀ {v' : Value} {w' : World}, (Builtin.append_ ats o.type (args.map a.eval)).run P w = .ok v' w' → (execOp a.eval o).run P w = .ok (.value v') w' := by
            intro v' w' h1
            rw [builtin_run o .append args ats ho]
            simp [builtin, h1]
          split at h
          · -- nothing there yet
            rename_i k fr1 st1 htk
            split at h
            · rename_i hc2
              simp only [Bool.and_eq_true, beq_iff_eq, decide_eq_true_eq] at hc2
              obtain ⟨⟨rfl, c1⟩, c2⟩ := hc2
              obtain ⟨κ1, r1, v1, p1, w1⟩ := take_ok r htk
              obtain ⟨v1a, v1b⟩ := v1
              obtain ⟨q, cap, hv, _⟩ := v1a.slice_inv
              have hcap : cap = 0 := by
                rw [hv] at v1b
                rcases v1b with h | ⟨h, _⟩
                · simpa using h
                · omega
              subst hcap
              simp only [List.length_nil] at hv
              cases h
              have hsrc1 : Src P κ1 w esz ys.length (a.eval x) vs (ys.flatMap V.cells) := ⟨hsrc.1.pres p1, hsrc.2⟩
              by_cases hy : ys = []
              · subst hy
                simp only [List.isEmpty_nil, if_true]
                have hvs : vs = [] := List.length_eq_zero_iff.1 (by simpa using hsrc.2.1)
                subst hvs
                have := append_fit (P := P) (w := w) (q := q) (len := 0) (cap := 0) (w' := w) (ty := o.type) (args := args.map a.eval) (ats := ats) hu hi hsz (by simp [hs, hv]) (by simp [hx]) ht hxt1 hxt2 hsrc (Nat.le_refl _) (by cases q <;> rfl)
                exact ⟨_, _, w, κ1, lam, hrun this, .inl rfl, r1, ⟨.slice0 _ _, .inl rfl⟩, p1, w1⟩
              · have hyl : 0 < ys.length := List.length_pos_iff.2 hy
                rw [if_neg (by simpa using hy)]
                obtain ⟨c, nc, c3, c4, c5, c6⟩ := append_grow (P := P) (w := w) (q := q) (len := 0) (cap := 0) (olds := []) (ty := o.type) (args := args.map a.eval) (ats := ats) hu hi hzz hsz hbz hzl (by simp [hs, hv]) (by simp [hx]) ht hxt1 hxt2 hsrc (by omega) (by simp)
                  (fun w' hw' => by
                    cases q with
                    | none => exact run_firstCells_none w' _ _ _ _
                    | some q => exact run_firstCells_some w' esz 0 q 0 0 [] (by simp) (by simp)) (by simpa using c1) (by simpa using c2)
                simp only [Nat.zero_add, List.nil_append] at c3 c5 c6
                obtain ⟨κ2, r2, v2, p2⟩ := newRef_ok (k := esz) (len := ys.length) (cap := nc) r1.drew c el (ys.flatMap V.cells) (hsrc1.1.pres (pres_drew fun _ => True)) c5 c4 c3
                exact ⟨_, _, _, κ2, lam, hrun c6, .inl rfl, r2, v2, p1.trans ((pres_drew _).trans (w1 ▸ p2)), w1⟩
            · cases h
          · -- full: a new row
            rename_i k id off len fr1 st1 htk
            split at h
            · rename_i cs hcs
              split at h
              · rename_i hc2
                obtain ⟨rfl, c4, c5, c6, c7⟩ := hc2
                cases h
                obtain ⟨κ1, r1, v1, p1, w1⟩ := take_ok r htk
                obtain ⟨b, cap, hv, h5, hf, h6, h7⟩ := Rep.sref_inv v1
                have hcap : cap = len := hf rfl
                subst hcap
                have hsrc1 : Src P κ1 w k ys.length (a.eval x) vs (ys.flatMap V.cells) := ⟨hsrc.1.pres p1, hsrc.2⟩
                by_cases hy : ys = []
                · subst hy
                  simp only [List.isEmpty_nil, if_true]
                  have hvs : vs = [] := List.length_eq_zero_iff.1 (by simpa using hsrc.2.1)
                  subst hvs
                  have := append_fit (P := P) (w := w) (q := some (at_ b off)) (len := cap) (cap := cap) (w' := w) (ty := o.type) (args := args.map a.eval) (ats := ats) hu hi hsz (by simp [hs, hv]) (by simp [hx]) ht hxt1 hxt2 hsrc (Nat.le_refl _) rfl
                  exact ⟨_, _, w, κ1, lam, hrun this, .inl rfl, r1, .sref h5 (fun _ => rfl) (Nat.le_refl _) h7, p1, w1⟩
                · have hyl : 0 < ys.length := List.length_pos_iff.2 hy
                  rw [if_neg (by simpa using hy)]
                  obtain ⟨olds, ho1, ho2, ho3, ho4⟩ := ref_src (P := P) r1 (cap := cap) (len := cap) (esz := k) (off := off) h5 hcs c4
                  obtain ⟨c, nc, d3, d4, d5, d6⟩ := append_grow (P := P) (w := w) (q := some (at_ b off)) (len := cap) (cap := cap) (olds := olds) (ty := o.type) (args := args.map a.eval) (ats := ats) hu hi hzz hsz hbz hzl (by simp [hs, hv]) (by simp [hx]) ht hxt1 hxt2 hsrc (by omega) ho2 ho4 c5 c6
                  obtain ⟨κ2, r2, v2, p2⟩ := newRef_ok (k := k) (len := cap + ys.length) (cap := nc) r1.drew c el _ ((ho1.append hsrc1.1).pres (pres_drew fun _ => True)) d5 d4 d3
                  exact ⟨_, _, _, κ2, lam, hrun d6, .inl rfl, r2, v2, p1.trans ((pres_drew _).trans (w1 ▸ p2)), w1⟩
              · cases h
            · cases h
          · -- one more
            rename_i k id off len fr1 st1 htk
            split at h
            · rename_i cs hcs
              split at h
              · rename_i hc2
                obtain ⟨rfl, rfl, c3, c4, c5, c6, c7⟩ := hc2
                cases hset : st1.set id [] with
                | none => rw [hset] at h; cases h
                | some st2 =>
                  rw [hset] at h
                  cases h
                  obtain ⟨κ1, r1, v1, p1, w1⟩ := take_ok r htk
                  obtain ⟨b, cap, hv, h5, _, h6, h7⟩ := Rep.sref_inv v1
                  have hsrc1 : Src P κ1 w k ys.length (a.eval x) vs (ys.flatMap V.cells) := ⟨hsrc.1.pres p1, hsrc.2⟩
                  have hcne : cs ≠ [] := by
                    intro h; rw [h] at c4
                    have := Nat.mul_pos c3 h0
                    simp at c4; omega
                  have hl1 : st2.objs.length = st1.objs.length := by
                    unfold St.set at hset; split at hset
                    · cases hset; simp
                    · cases hset
                  have hw2 : st2.wp = st1.wp := by
                    unfold St.set at hset; split at hset
                    · cases hset; rfl
                    · cases hset
                  by_cases hfit : len + ys.length ≤ cap
                  · have hmul : (len + ys.length) * k ≤ cap * k := Nat.mul_le_mul_right k hfit
                    rw [Nat.add_mul] at hmul
                    have hex : ∀ j, j < vs.length → (w.cell? (at_ b (cs.length + j))).isSome = true := fun j hj => by
                      have hvl := hsrc.2.1
                      have := h7 (cs.length + j) (by omega)
                      rwa [Nat.zero_add] at this
                    obtain ⟨κ2, r2, v2, p2⟩ := grow_ok r1 hcs h5 hcne hset hsrc1.1 hex
                    have hown : ∀ j, j < vs.length → κ1.own b (cs.length + j) = some (.obj id) := fun j hj => r1.sim.room id cs b hcs hcne h5 _ (by omega) (hex j hj)
                    have hrun1 := append_fit (P := P) (w := w) (q := some (at_ b 0)) (len := len) (cap := cap) (w' := w.setCells b cs.length vs) (ty := o.type) (args := args.map a.eval) (ats := ats) hu hi hsz (by simp [hs, hv]) (by simp [hx]) ht hxt1 hxt2 hsrc hfit (by
                      show (storeCells ((at_ b 0).add (len * k)) vs).run P w = _
                      rw [addr_add, Nat.zero_add, ← c4]
                      exact store_run (fun j hj => (r1.sim.good _ _ _ (hown j hj)).1) (fun j hj => (r1.sim.good _ _ _ (hown j hj)).2) (reps_one hsrc1.1 (sizesOk_all1 hsy)))
                    refine ⟨_, _, _, κ2, lam, hrun hrun1, .inl rfl, r2, ?_, p1.trans (w1 ▸ p2), hw2.trans w1⟩
                    rw [hl1]
                    exact .sref v2 (fun h => by cases h) hfit (fun j hj => p2.some (h7 j hj))
                  · obtain ⟨r0, w0, _, _⟩ := dead_ok r1 hset
                    obtain ⟨olds, ho1, ho2, ho3, ho4⟩ := ref_src (P := P) r1 (cap := cap) (len := len) (esz := k) (off := 0) h5 hcs (by omega)
                    have hce : (cs.drop 0).take (len * k) = cs := by rw [List.drop_zero, ← c4, List.take_length]
                    rw [hce] at ho1
                    obtain ⟨c, nc, d3, d4, d5, d6⟩ := append_grow (P := P) (w := w) (q := some (at_ b 0)) (len := len) (cap := cap) (olds := olds) (ty := o.type) (args := args.map a.eval) (ats := ats) hu hi hzz hsz hbz hzl (by simp [hs, hv]) (by simp [hx]) ht hxt1 hxt2 hsrc hfit ho2 ho4 c5 c6
                    obtain ⟨κ2, r2, v2, p2⟩ := newRef_ok (k := k) (len := len + ys.length) (cap := nc) r0.drew c el (cs.map V.strip1 ++ ys.flatMap V.cells) ((ho1.append hsrc1.1).pres (pres_drew fun _ => True)) d5 d4 d3
                    exact ⟨_, _, _, κ2, lam, hrun d6, .inl rfl, r2, v2, p1.trans ((pres_drew _).trans (w1 ▸ w0 ▸ p2)), w0.trans w1⟩
              · cases h
            · cases h
          · cases h
        · cases h
      · cases h
    · cases h
  · cases h
theorem buildSlice_run {g : G} (hg : TyOk P g) {t : Nat} {ti : TI} (hti : g.ty t = some ti) {esz eb : Nat} {ea : Bool} {ez : List V} (hk : ti.k = .slice esz eb ea ez) (r : R d n κ w lam fr st a)
    {len : Nat} {vs : List (Nat × Value)} {ps : List (Nat × Option (List V))} {z : V} (hp : Parts κ w vs ps) (h : buildSliceV esz ea ez len ps = some z) :
    ∃ xs out el, z = .osl esz xs ∧ (Instr.buildSlice t len vs.toArray).run P w = .ok (.slice (some (at_ w.heap.size 0)) xs.length xs.length) (w.alloc (.cells out el)) ∧ Reps κ w out.toList (xs.flatMap V.cells) ∧ (∀ x ∈ xs, x.cells.length = esz) := by
  obtain ⟨el, i, zv, h1, hi, hsz, hbz, hzz, hzr⟩ := elem_size hg hti hk
  unfold buildSliceV at h
  split at h
  · rename_i hc
    obtain ⟨h0, h24, hezl, hea⟩ := hc
    split at h
    · rename_i cs hf
      split at h
      · rename_i hone
        cases h
        have hzs : zv.cells.size = esz := by have := (hzr κ w).length; simpa [hezl] using this
        have hz0 : Reps κ w ((Array.range (len * esz)).map (zv.cells[· % zv.cells.size]!)).toList ((List.replicate len ez).flatten) := by
          refine Reps.of_get (by simp [flatten_rep_length, hezl]) fun j v x hv hx => ?_
          have hj : j < len * esz := by
            have := (List.getElem?_eq_some_iff.1 hx).1; rwa [flatten_rep_length, hezl] at this
          rw [Array.getElem?_toList, zeros_get hzs h0 len j hj, ← Array.getElem?_toList] at hv
          rw [rep_flat_get ez esz hezl h0 len j hj] at hx
          obtain ⟨u, hu, hru⟩ := (hzr κ w).get _ x hx
          rw [hv] at hu; cases hu; exact hru
        obtain ⟨out, h3, h4⟩ := fill_parts (place := fun i => some (i * esz, esz)) hp hz0 (fun i x hx => hx) hf
        have hcl : (cs.map V.strip1).length = len * esz := by
          have h5 : ∀ {q : List (Nat × Option (List V))} {xs ys : List V} {pl : Nat → Option (Nat × Nat)}, fillV pl xs q = some ys → ys.length = xs.length := by
            intro q
            induction q with
            | nil => intro xs ys pl h; simp only [fillV, Option.some.injEq] at h; rw [h]
            | cons p q ih =>
              intro xs ys pl h
              obtain ⟨i, c⟩ := p
              cases c with
              | none => cases h
              | some c =>
                simp only [fillV] at h
                split at h
                · cases h
                · split at h
                  · split at h
                    · rename_i hsp
                      rw [ih h]; exact (splice_get hsp).2.1
                    · cases h
                  · cases h
          rw [List.length_map, h5 hf, flatten_rep_length, hezl]
        obtain ⟨c1, c2, c3⟩ := chunk_ok hea h0 len (cs.map V.strip1) hcl hone
        have hrun : (Instr.buildSlice t len vs.toArray).run P w = .ok (.slice (some (at_ w.heap.size 0)) len len) (w.alloc (.cells out el)) := by
          have n1 : ¬ (16777216 < len * esz) := by omega
          by_cases hz : len * esz = 0
          · rw [hz] at h3
            simp only [Array.range_zero', Array.map_empty] at h3
            simp [Instr.buildSlice, run_underlying h1, sizeOf, typeInfo, hi, hsz, hz, Array.range_zero', h3, newRow, at_]
          · simp [Instr.buildSlice, run_underlying h1, sizeOf, typeInfo, zeroValue, hi, hsz, hzz, n1, hz, h3, newRow, at_]
        exact ⟨_, out, el, rfl, by rw [c1]; exact hrun, by rw [c2]; exact h4.strip1, c3⟩
      · cases h
    · cases h
  · cases h

theorem makeSlice_run {g : G} (hg : TyOk P g) {t : Nat} {ti : TI} (hti : g.ty t = some ti) {esz eb : Nat} {ea : Bool} {ez : List V} (hk : ti.k = .slice esz eb ea ez) (r : R d n κ w lam fr st a)
    {u v : Value} {len cap : Int} (hu : ∃ k, u = .int k len) (hv : ∃ k, v = .int k cap)
    (hc : 0 ≤ len ∧ len ≤ cap ∧ cap * eb ≤ 2 ^ 47 ∧ cap ≤ 2 ^ 47 ∧ 0 < esz ∧ ez.length = esz ∧ (ea || esz == 1) = true ∧ (ez.map V.strip1).all V.one = true) :
    ∃ vs c el, (Instr.makeSlice t u v).run P w = .ok (.slice (some (at_ w.heap.size 0)) len.toNat cap.toNat) (w.alloc (.cells c el)) ∧ Reps κ w vs ((List.replicate len.toNat (elemV ea (ez.map V.strip1))).flatMap V.cells) ∧ (∀ (j : Nat) v, vs[j]? = some v → c[j]? = some v) ∧ c.size = cap.toNat * esz := by
  obtain ⟨h0, h1, h2, h3, h4, h5, h6, h7⟩ := hc
  obtain ⟨el, i, zv, hu1, hi, hsz, hbz, hzz, hzr⟩ := elem_size hg hti hk
  obtain ⟨ku, rfl⟩ := hu
  obtain ⟨kv, rfl⟩ := hv
  have hzs : zv.cells.size = esz := by have := (hzr κ w).length; simpa [h5] using this
  have hrun := run_make (P := P) w t el i zv hu1 hi hzz ku kv len cap h0 h1 (by rw [hbz, Int.mul_comm]; omega) (by omega)
  rw [hsz] at hrun
  have hc1 : (elemV ea (ez.map V.strip1)).cells = ez.map V.strip1 := by
    cases ea with
    | true => rfl
    | false =>
      simp at h6; subst h6
      cases ez with
      | nil => simp at h5
      | cons c cs =>
        have : cs = [] := by simpa using h5
        subst this
        simp only [List.map_cons, List.map_nil, elemV, Bool.false_eq_true, if_false, List.headD_cons]
        exact one_cells (List.all_eq_true.1 h7 _ (by simp))
  have hxs : ∀ x ∈ List.replicate len.toNat (elemV ea (ez.map V.strip1)), x.cells.length = esz := by
    intro x hx; rw [List.eq_of_mem_replicate hx, hc1]; simpa using h5
  have hfl : ∀ m : Nat, (List.replicate m (elemV ea (ez.map V.strip1))).flatMap V.cells = (List.replicate m (ez.map V.strip1)).flatten := by
    intro m
    induction m with
    | zero => rfl
    | succ m ih => rw [List.replicate_succ, List.flatMap_cons, ih, hc1, List.replicate_succ, List.flatten_cons]
  let vs : List Value := (List.replicate len.toNat zv.cells.toList).flatten
  have hvr : Reps κ w vs ((List.replicate len.toNat (elemV ea (ez.map V.strip1))).flatMap V.cells) := by
    rw [hfl]
    have : ∀ m : Nat, Reps κ w ((List.replicate m zv.cells.toList).flatten) ((List.replicate m (ez.map V.strip1)).flatten) := by
      intro m
      induction m with
      | zero => exact .nil
      | succ m ih => rw [List.replicate_succ, List.replicate_succ, List.flatten_cons, List.flatten_cons]; exact (hzr κ w).strip1.append ih
    exact this _
  have hcs : ∀ (j : Nat) v, vs[j]? = some v → (madeCells zv.cells (cap.toNat * esz))[j]? = some v := by
    intro j v hv
    have hj : j < len.toNat * esz := by
      have := (List.getElem?_eq_some_iff.1 hv).1
      rw [flatten_rep_length] at this
      simpa [hzs] using this
    have hj2 : len.toNat * esz ≤ cap.toNat * esz := Nat.mul_le_mul_right _ (by omega)
    rw [rep_flat_get _ esz (by simpa using hzs) h4 _ j hj] at hv
    unfold madeCells
    rw [zeros_get hzs h4 cap.toNat j (by omega), ← Array.getElem?_toList]; exact hv
  exact ⟨vs, _, el, hrun, hvr, hcs, size_madeCells _ _⟩

theorem markStep_ok {g : G} (hg : TyOk P g) (r : R d n κ w lam fr st a) {rs : Rs} (h : markStep g fr st o = some rs) : Does P d n κ w st a o rs := by
  unfold markStep at h
  split at h
  · rename_i args ats ho
    exact markAppend_ok hg r ho h
  · rename_i t len parts ho
    split at h
    · rename_i esz eb ea ez size agg zero hti
      split at h
      · rename_i k' xs hb
        cases h
        obtain ⟨xs', out, el, h0, h1, h2, h3⟩ := buildSlice_run (P := P) hg hti rfl r (parts_of r parts.toList) hb
        cases h0
        have hrun : (execOp a.eval o).run P w = .ok (.value (.slice (some (at_ w.heap.size 0)) xs.length xs.length)) (w.alloc (.cells out el)) := by
          unfold execOp; rw [ho]
          refine run_value ?_
          rw [← h1]
          congr 2
          apply Array.ext'; simp
        have hsz : out.size = xs.length * esz := by
          have := h2.length
          rw [flat_length _ esz h3] at this
          simpa using this
        by_cases hx : xs = []
        · subst hx
          simp only [List.isEmpty_nil, if_true]
          refine ⟨_, _, _, κ.new w.heap.size (fun _ => none), lam, hrun, .inl rfl, r.new out el (fun o L h => by cases h), ⟨.slice0 _ _, .inl rfl⟩, pres_new _ r.sim.good _ _, rfl⟩
        · rw [if_neg (by simpa using hx)]
          obtain ⟨κ', r', v', p'⟩ := newRef_ok (k := esz) (len := xs.length) (cap := xs.length) r out el (xs.flatMap V.cells) h2 (fun j v hv => by rw [← Array.getElem?_toList]; exact hv) hsz (Nat.le_refl _)
          exact ⟨_, _, _, κ', lam, hrun, .inl rfl, r', v', p', rfl⟩
      · cases h
    · cases h
  · rename_i t l c ho
    split at h
    · rename_i esz eb ea ez size agg zero len cap hti hl hc
      split at h
      · rename_i hcond
        cases h
        obtain ⟨vs, c', el, h1, h2, h3, h4⟩ := makeSlice_run (P := P) hg hti rfl r (int_of (r.op l) hl) (int_of (r.op c) hc) hcond
        obtain ⟨κ', r', v', p'⟩ := newRef_ok (k := esz) (len := len.toNat) (cap := cap.toNat) r c' el _ h2 h3 h4 (by omega)
        exact ⟨_, _, _, κ', lam, by unfold execOp; rw [ho]; exact run_value h1, .inl rfl, r', v', p', rfl⟩
      · cases h
    · cases h
  · cases h
end Go.Ab
