/- Each operation that is no call of a function does what the interpreter says. -/
import Derived.Test.YtiiahehclbmodaaAbY
namespace Go.Ab
open Go
set_option linter.unusedVariables false
set_option linter.unusedSimpArgs false
set_option linter.unnecessarySimpa false

variable {P : Program} {d n : Nat} {κ : K} {w : World} {lam : Lam} {fr : Fr} {st : St} {a : Act} {o : Oper}

theorem take_up {g : G} {t : Nat} {κ' : K} {fr' : Fr} {st' : St} {v : Value} {e : E} (h : RepV κ' w lam fr' st' a.tmps v e) : RepV κ' w lam fr' st' a.tmps v (upE g t e) := by
  cases e with
  | own k xs =>
    unfold upE
    split
    · rename_i heq; cases heq
      split
      · split
        · rename_i hk
          simp at hk; obtain ⟨hk, _⟩ := hk; subst hk
          refine ⟨h.1, ?_⟩
          obtain ⟨q, cap, rfl, _⟩ := h.1.slice_inv
          rcases h.2 with h1 | ⟨h1, _⟩
          · exact .inl h1
          · omega
        · exact h
      · exact h
    · rename_i hn; exact absurd rfl (hn k xs)
  | _ => exact h

theorem storeVar_run {t : TypeId} {i : TypeInfo} {b off : Nat} {v : Value} {w' : World} (hi : P.info? t = some i) (hs : v.cells.size = i.size) (h : (storeCells (at_ b off) v.cells.toList).run P w = .ok () w') :
    (Instr.storeAt t (.pointer (some (at_ b off))) v).run P w = .ok () w' := by
  simp [Instr.storeAt, Instr.sureAddr, storeVar, sizeOf, typeInfo, hi, hs, h]

theorem store_ok {g : G} (hg : TyOk P g) (r : R d n κ w lam fr st a) {t : TypeId} {ad x : Operand} (ho : o.op = .store t ad x) {ti : TI} (hti : g.ty t = some ti) {e : E} {fr1 fr2 : Fr} {st1 st2 : St} {cs : List V}
    (ht : take fr st x = some (e, fr1, st1)) (hc : (upE g t e).cells? = some cs) (hs : Ab.storeAt ti.size fr1 st1 (fr1.op ad) cs = some (fr2, st2)) : Does P d n κ w st a o (.ok .any fr2 st2) := by
  obtain ⟨κ1, r1, v1, p1, w1⟩ := take_ok r ht
  obtain ⟨i, z, hi, hsz, hz, _⟩ := (hg.ti t ti hti).info
  have v2 := take_up (g := g) (t := t) v1
  unfold Ab.storeAt at hs
  split at hs
  · rename_i hchk
    simp only [Bool.and_eq_true, beq_iff_eq, decide_eq_true_eq] at hchk
    obtain ⟨⟨hlen, hone⟩, hpos⟩ := hchk
    have had := r1.op ad
    have run_of : ∀ {w'}, (Instr.storeAt t (a.eval ad) (a.eval x)).run P w = .ok () w' → (execOp a.eval o).run P w = .ok .skip w' := by
      intro w' h
      unfold execOp
      rw [ho]
      simp [h]
    split at hs
    · rename_i s off old hp
      generalize fr1.op ad = ea at *
      cases ea <;> simp only [placeOf, Option.map_eq_some_iff, Place.loc.injEq, reduceCtorEq, and_false, exists_false] at hp
      case lp s' off' =>
        obtain ⟨cs', hcs, rfl, rfl, rfl⟩ := hp
        obtain ⟨b, hb, hea⟩ := had
        obtain ⟨κ2, r2, p2, c1, c2, c3⟩ := cells_of r1 v2 hc hone (fun j => .lsp d s' (off' + j)) (by simp)
        cases hsp : splice cs' off' cs with
        | none => rw [hsp] at hs; cases hs
        | some new =>
          rw [hsp] at hs
          simp only [Option.map_some, Option.some.injEq, Prod.mk.injEq] at hs
          obtain ⟨rfl, rfl⟩ := hs
          have hne : (a.eval x).cells.toList ≠ [] := by intro h; rw [h] at c1; simp at c1; omega
          obtain ⟨s1, s2, s3⟩ := loc_store (P := P) r2 hcs hb hsp c1 hne c2 c3
          refine ⟨.skip, undef, _, κ2, lam, run_of ?_, .inr ⟨rfl, rfl⟩, s2, trivial, p1.trans ((p2.mono fun L hL e => keep_fly d st.wp (e ▸ hL)).trans (w1 ▸ s3)), w1⟩
          rw [hea]
          exact storeVar_run hi (by have := c1; simp at this; omega) s1
      case val y => cases y <;> simp at hp
    · rename_i id off old hp
      generalize fr1.op ad = ea at *
      cases ea <;> simp only [placeOf, Option.map_eq_some_iff, reduceCtorEq, and_false, exists_false] at hp
      case val y =>
        cases y <;> simp only [placeOf, Option.map_eq_some_iff, Place.mem.injEq, reduceCtorEq, and_false, exists_false, Option.some.injEq] at hp
        case ptr id' off' =>
          obtain ⟨cs', hcs, rfl, rfl, rfl⟩ := hp
          generalize hvv : a.eval ad = va at had run_of
          cases had with
          | ptr hb =>
            rename_i b
            obtain ⟨κ2, r2, p2, c1, c2, c3⟩ := cells_of r1 v2 hc hone (fun j => .mem id' (off' + j)) (by simp)
            cases hsp : splice cs' off' cs with
            | none => rw [hsp] at hs; cases hs
            | some new =>
              rw [hsp] at hs
              simp only at hs
              cases hset : st1.set id' new with
              | none => rw [hset] at hs; cases hs
              | some st3 =>
                rw [hset] at hs
                simp only [Option.map_some, Option.some.injEq, Prod.mk.injEq] at hs
                obtain ⟨rfl, rfl⟩ := hs
                have hne : (a.eval x).cells.toList ≠ [] := by intro h; rw [h] at c1; simp at c1; omega
                have hb2 : κ2.blk id' = some b := p2.blk _ _ hb
                obtain ⟨s1, s2, s3, s4⟩ := mem_store (P := P) r2 hcs hb2 hsp hset c1 hne c2 c3
                refine ⟨.skip, undef, _, κ2, lam, run_of ?_, .inr ⟨rfl, rfl⟩, s2, trivial, p1.trans ((p2.mono fun L hL e => keep_fly d st.wp (e ▸ hL)).trans (w1 ▸ s3)), s4.trans w1⟩
                exact storeVar_run hi (by have := c1; simp at this; omega) s1
    · cases hs
  · cases hs

theorem Does.any (r : R d n κ w lam fr st a) {v : Value} {w' : World} {κ' : K} {e : E} (h : (execOp a.eval o).run P w = .ok (.value v) w') (hr : R d n κ' w' lam fr st a) (hv : RepV κ' w' lam fr st a.tmps v e)
    (hp : ∀ S, Pres S κ w κ' w') : Does P d n κ w st a o (.ok e fr st) := ⟨_, v, w', κ', lam, h, .inl rfl, hr, hv, hp _, rfl⟩

theorem raw_cells {v : Value} {e : E} {cs : List V} (h : RepR κ w lam v e) (hc : e.cells? = some cs) (h1 : cs.all V.one = true) (hk : ∀ k xs, e = .own k xs → ∃ q, v = .slice q xs.length xs.length) : Reps κ w v.cells.toList cs := by
  cases e with
  | val x =>
    simp only [E.cells?, Option.some.injEq] at hc; subst hc
    cases x <;> first
      | (obtain ⟨ar, rfl, hr⟩ := Rep.agg_inv h; exact hr)
      | (have := Rep.one h (by simpa [V.cells] using h1)
         cases v <;> first | exact .cons h .nil | cases this)
  | own k xs =>
    simp only [E.cells?, Option.some.injEq] at hc; subst hc
    obtain ⟨q, rfl⟩ := hk k xs rfl
    exact .cons (.osl h) .nil
  | _ => cases hc

/-- The cells of a value that a new variable is made of. -/
theorem box_cells (r : R d n κ w lam fr st a) {x : Operand} {cs : List V} (hc : boxCells (fr.op x) = some cs) : Reps κ w (a.eval x).cells.toList cs := by
  have h := r.op x
  generalize fr.op x = e at *
  unfold boxCells at hc
  split at hc
  · rename_i y
    split at hc
    · rename_i h1
      cases hc
      exact raw_cells h rfl h1 (fun k xs he => by cases he)
    · cases hc
  · rename_i k xs
    cases hc
    obtain ⟨q, cap, hv, _⟩ := (show Rep κ w _ (.slice xs) from h).slice_inv
    rw [hv] at h ⊢
    exact .cons h .nil
  · rename_i k xs p
    cases hc
    obtain ⟨q, cap, hv, _⟩ := (show Rep κ w _ (.slice xs) from h).slice_inv
    rw [hv] at h ⊢
    exact .cons h .nil
  · cases hc

theorem run_value {s : Sem Value} {v : Value} {w' : World} (h : s.run P w = .ok v w') : (do pure (Next.value (← s)) : Sem Next).run P w = .ok (.value v) w' := by
  simp [h]

theorem builtin_ok {g : G} (hg : TyOk P g) (r : R d n κ w lam fr st a) {b : Builtin} {args : Array Operand} {ats : Array TypeId} {rs : Rs} (ho : o.op = .call { callee := .builtin b, args := args, argTypes := ats })
    (h : builtinStep g fr st b ats args = some rs) : Does P d n κ w st a o rs := by
  unfold builtinStep at h
  split at h
  · exact append_ok hg r ho h
  · split at h
    · rename_i x ti hx hti
      obtain ⟨z, hz, rfl⟩ := okV_some h
      cases ht : ats[0]? with
      | none => rw [ht] at hti; cases hti
      | some t =>
        rw [ht] at hti
        obtain ⟨v, h1, h2⟩ := len_ok (P := P) (ty := o.type) hg hti (r.op x) hz ats (args.map a.eval) ht (by simp [hx])
        refine Does.pure r (v := v) ?_ (RepV.toE h2)
        rw [builtin_run o .len args ats ho]
        simp [builtin, h1]
    · cases h
  · split at h
    · rename_i v rest hv
      obtain ⟨z, hz, rfl⟩ := okV_some h
      have hr := vsOf_reps (r.ops args.toList) hv
      generalize hl : args.toList.map a.eval = vals at hr
      cases hr with
      | cons h1 h2 =>
        rename_i v0 vs0
        obtain ⟨u, h3, h4⟩ := minMax_ok (P := P) true h1 h2 hz
        refine Does.pure r (v := u) ?_ (RepV.toE h4)
        rw [builtin_run o .max args ats ho]
        simp only [if_true] at h3
        simp [builtin, Builtin.max_, hl, h3]
    · cases h
  · split at h
    · rename_i v rest hv
      obtain ⟨z, hz, rfl⟩ := okV_some h
      have hr := vsOf_reps (r.ops args.toList) hv
      generalize hl : args.toList.map a.eval = vals at hr
      cases hr with
      | cons h1 h2 =>
        rename_i v0 vs0
        obtain ⟨u, h3, h4⟩ := minMax_ok (P := P) false h1 h2 hz
        refine Does.pure r (v := u) ?_ (RepV.toE h4)
        rw [builtin_run o .min args ats ho]
        simp only [Bool.false_eq_true, if_false] at h3
        simp [builtin, Builtin.min_, hl, h3]
    · cases h
  · cases h

theorem alloc_run {t : TypeId} {i : TypeInfo} {z : Value} (hi : P.info? t = some i) (hz : i.zero = some z) : (Instr.alloc t true (.tuple #[])).run P w = .ok (.pointer (some (at_ w.heap.size 0))) (w.alloc (.cells z.cells t)) := by
  simp [Instr.alloc, zeroValue, typeInfo, hi, hz, newVar, newRow, at_]
theorem box_run {t : TypeId} {v : Value} : (Instr.box t v).run P w = .ok (.pointer (some (at_ w.heap.size 0))) (w.alloc (.cells v.cells t)) := by
  simp [Instr.box, newVar, newRow, at_]

def addrLike : E → Prop
  | .lp _ _ => True
  | .val (.ptr _ _) => True
  | .val (.ep _) => True
  | .val (.func _ _ _) => True
  | _ => False
theorem nil_cases {v : Value} {e : E} (h : RepR κ w lam v e) (hn : addrLike e) :
    (∃ b, v = .pointer (some b)) ∨ (∃ f x y, v = .func (.func f) x y) := by
  cases e with
  | lp t off => obtain ⟨b, _, rfl⟩ := h; exact .inl ⟨_, rfl⟩
  | val x => cases x <;> first | exact hn.elim | (cases h; exact .inl ⟨_, rfl⟩) | (cases h; exact .inr ⟨_, _, _, rfl⟩)
  | _ => exact hn.elim

/-- An operation that is no call of a function does what the interpreter says. -/
theorem stepOp_ok {g : G} {fi : FI} (hg : TyOk P g) (r : R d n κ w lam fr st a) {rs : Rs} (h : stepOp g fi fr st o = some rs) : Does P d n κ w st a o rs := by
  unfold stepOp at h
  split at h
  · -- move
    rename_i x ho
    cases h
    exact Does.pure r (by unfold execOp; rw [ho]; rfl) (r.lend x)
  · -- assign
    rename_i x ho
    split at h
    · rename_i e fr1 st1 ht
      cases h
      obtain ⟨κ1, r1, v1, p1, w1⟩ := take_ok r ht
      exact ⟨_, _, w, κ1, lam, by unfold execOp; rw [ho]; rfl, .inl rfl, r1, take_up v1, p1, w1⟩
    · cases h
  · -- pick
    rename_i c x y ho
    split at h
    · rename_i t ht
      cases h
      have hc := bool_of (r.op c) ht
      refine Does.pure r (v := if t then a.eval x else a.eval y) ?_ ?_
      · unfold execOp; rw [ho]; simp [hc, asBool]
      · cases t
        · exact r.lend y
        · exact r.lend x
    · cases h
  · -- alloc
    rename_i t ho
    split at h
    · rename_i ti s hti hs
      obtain ⟨i, z, hi, hsz, hz, hzr⟩ := (hg.ti t ti hti).info
      have hrun : (execOp a.eval o).run P w = .ok (.value (.pointer (some (at_ w.heap.size 0)))) (w.alloc (.cells z.cells t)) := by
        unfold execOp; rw [ho]; exact run_value (alloc_run hi hz)
      split at h
      · cases h
        obtain ⟨κ', lam', r1, v1, p1⟩ := local_ok r s z.cells t ti.zero (hzr κ w)
        exact ⟨_, _, _, κ', lam', hrun, .inl rfl, r1, v1, p1, rfl⟩
      · cases h
        obtain ⟨κ', r1, v1, p1⟩ := object_ok r z.cells t ti.zero (hzr κ w)
        exact ⟨_, _, _, κ', lam, hrun, .inl rfl, r1, v1, p1, rfl⟩
    · cases h
  · -- box
    rename_i t x ho
    split at h
    · rename_i cs s hcs hs
      have hc := box_cells r hcs
      have hrun : (execOp a.eval o).run P w = .ok (.value (.pointer (some (at_ w.heap.size 0)))) (w.alloc (.cells (a.eval x).cells t)) := by
        unfold execOp; rw [ho]; exact run_value box_run
      split at h
      · cases h
        obtain ⟨κ', lam', r1, v1, p1⟩ := local_ok r s (a.eval x).cells t cs hc
        exact ⟨_, _, _, κ', lam', hrun, .inl rfl, r1, v1, p1, rfl⟩
      · cases h
        obtain ⟨κ', r1, v1, p1⟩ := object_ok r (a.eval x).cells t cs hc
        exact ⟨_, _, _, κ', lam, hrun, .inl rfl, r1, v1, p1, rfl⟩
    · cases h
  · -- build
    rename_i t parts ho
    split at h
    · rename_i ti hti
      obtain ⟨z, hz, rfl⟩ := okV_some h
      cases hb : buildCells ti (parts.toList.map fun p => (p.1, (fr.op p.2).part?)) with
      | none => rw [hb] at hz; cases hz
      | some zs =>
        rw [hb] at hz
        simp only [Option.map_some, Option.some.injEq] at hz; subst hz
        obtain ⟨v, h1, h2⟩ := build_ok (P := P) hg hti (parts_of r parts.toList) hb
        refine Does.pure r (v := v) ?_ h2
        unfold execOp; rw [ho]
        refine run_value ?_
        rw [← h1]
        congr 2
        apply Array.ext'; simp
    · cases h
  · -- load
    rename_i t x ho
    split at h
    · rename_i ti hti
      obtain ⟨e, he, rfl⟩ := okE_some h
      obtain ⟨v, h1, h2⟩ := load_ok (P := P) hg hti r (r.op x) he
      exact Does.pure r (by unfold execOp; rw [ho]; exact run_value h1) h2
    · cases h
  · -- store
    rename_i t ad x ho
    split at h
    · rename_i ti hti
      split at h
      · rename_i e fr1 st1 ht
        split at h
        · rename_i cs hc
          split at h
          · rename_i fr2 st2 hs
            cases h
            exact store_ok hg r ho hti ht hc hs
          · cases h
        · cases h
      · cases h
    · cases h
  · -- nilCheck
    rename_i x ho
    have hx := r.op x
    have hl := r.lend x
    have key : ∀ e, fr.op x = e → addrLike e → Does P d n κ w st a o (.ok e fr st) := by
      intro e he hn
      rw [he] at hx
      have hv : RepV κ w lam fr st a.tmps (a.eval x) e := by
        cases e with
        | lp t off => exact hx
        | val y => exact hx
        | _ => exact hn.elim
      refine Does.pure r ?_ hv
      unfold execOp; rw [ho]
      rcases nil_cases hx hn with ⟨b, hb⟩ | ⟨f, p, q, hf⟩
      · simp only [hb]; rfl
      · simp only [hf]; rfl
    split at h
    · rename_i s off he; cases h; exact key _ he trivial
    · rename_i id off he; cases h; exact key _ he trivial
    · rename_i cs he; cases h; exact key _ he trivial
    · rename_i f p q he; cases h; exact key _ he trivial
    · cases h
  · -- binOp
    rename_i op t x y ty ho
    have hx := r.op x
    have hy := r.op y
    have exec : ∀ {v w'}, (do eqGuard op t x y (a.eval x) (a.eval y); binOp op t (a.eval x) (a.eval y) : Sem Value).run P w = .ok v w' → (execOp a.eval o).run P w = .ok (.value v) w' := by
      intro v w' h
      unfold execOp; rw [ho]; exact run_value h
    split at h
    · rename_i p q hp hq
      split at h
      · rename_i ks hks
        obtain ⟨z, hz, rfl⟩ := okV_some h
        obtain ⟨v, h1, h2⟩ := run_agg_v (P := P) (hg.eq t ks hks) op (hx.v hp) (hy.v hq) hz x y
        exact Does.pure r (exec h1) (RepV.toE h2)
      · cases h
    · rename_i p q _ hp hq
      obtain ⟨z, hz, rfl⟩ := okV_some h
      obtain ⟨v, w', h1, h2, h3⟩ := run_bin_v (P := P) hg t op (hx.v hp) (hy.v hq) hz x y
      rcases h2 with rfl | rfl
      · exact Does.pure r (exec h1) (RepV.toE (h3 κ))
      · exact Does.drew r (exec h1) (RepV.toE (h3 κ))
    · cases h
  · -- unOp
    rename_i op t x ho
    split at h
    · rename_i p hp
      obtain ⟨z, hz, rfl⟩ := okV_some h
      obtain ⟨v, h1, h2⟩ := run_un_v (P := P) op ((r.op x).v hp) hz
      exact Does.pure r (by unfold execOp; rw [ho]; exact run_value h1) (RepV.toE h2)
    · cases h
  · -- convert
    rename_i s t x ho
    split at h
    · rename_i p ts td hp hs ht
      obtain ⟨e, he, rfl⟩ := okE_some h
      obtain ⟨v, w', h1, h2, h3⟩ := convert_ok (P := P) (lam := lam) (fr := fr) (st := st) (a := a) hg hs ht ((r.op x).v hp) he
      have h4 : (execOp a.eval o).run P w = .ok (.value v) w' := by unfold execOp; rw [ho]; exact run_value h1
      rcases h2 with rfl | rfl
      · exact Does.pure r h4 h3
      · exact Does.drew r h4 h3
    · cases h
  · -- makeInterface
    rename_i t x ho
    split at h
    · rename_i p hp
      split at h
      · rename_i hc
        cases h
        have hcon := hg.con t hc
        exact Does.pure r (by unfold execOp; rw [ho]; exact run_value (run_makeInterface w t _ hcon)) (Rep.iface ((r.op x).v hp))
      · cases h
    · cases h
  · -- makeFunc
    rename_i f first captured ho
    split at h
    · rename_i p q hp hq
      cases h
      have h1 := vsOf_reps (r.ops first.toList) hp
      have h2 := vsOf_reps (r.ops captured.toList) hq
      refine Does.pure r (v := .func (.func f) (first.map a.eval) (captured.map a.eval)) ?_ (Rep.func (by simpa using h1) (by simpa using h2))
      unfold execOp; rw [ho]; rfl
    · cases h
  · -- slice
    rename_i t x lo hi mx ho
    split at h
    · rename_i ti hti
      split at h
      · rename_i p l hh m hp hl hh' hm
        obtain ⟨e, he, rfl⟩ := okE_some h
        obtain ⟨v, h1, h2⟩ := slice_ok (P := P) (lam := lam) (fr := fr) (st := st) (a := a) hg hti ((r.op x).v hp) (bound_is r hl) (bound_is r hh') (bound_is r hm) he
        exact Does.pure r (by unfold execOp; rw [ho]; exact run_value h1) h2
      · cases h
    · cases h
  · -- fieldAddr
    rename_i t x f ho
    split at h
    · rename_i fs size agg zero hti
      split at h
      · rename_i off sz ag hf
        split at h
        · cases h
        · rename_i hsz
          obtain ⟨e, he, rfl⟩ := okE_some h
          obtain ⟨v, h1, h2⟩ := fieldAddr_ok (P := P) (fr := fr) (st := st) (a := a) hg hti rfl (r.op x) hf hsz he
          exact Does.pure r (by unfold execOp; rw [ho]; exact run_value h1) h2
      · cases h
    · cases h
  · -- field
    rename_i t x f ho
    split at h
    · rename_i fs size agg zero cs hti hp
      split at h
      · rename_i off sz ag hf
        obtain ⟨z, hz, rfl⟩ := okV_some h
        obtain ⟨v, h1, h2⟩ := field_ok (P := P) hg hti rfl ((r.op x).v hp) hf hz
        exact Does.pure r (by unfold execOp; rw [ho]; exact run_value h1) (RepV.toE h2)
      · cases h
    · cases h
  · -- indexAddr
    rename_i t x i ho
    split at h
    · rename_i ti m hti hm
      obtain ⟨e, he, rfl⟩ := okE_some h
      obtain ⟨v, h1, h2⟩ := indexAddr_ok (P := P) (fr := fr) (st := st) (a := a) hg hti (r.op x) (int_of (r.op i) hm) he
      exact Does.pure r (by unfold execOp; rw [ho]; exact run_value h1) h2
    · cases h
  · -- index
    rename_i t x i ho
    split at h
    · rename_i ti p m hti hp hm
      obtain ⟨z, hz, rfl⟩ := okV_some h
      obtain ⟨v, h1, h2⟩ := index_ok (P := P) hg hti ((r.op x).v hp) (int_of (r.op i) hm) hz
      exact Does.pure r (by unfold execOp; rw [ho]; exact run_value h1) (RepV.toE h2)
    · cases h
  · -- extract
    rename_i x i ho
    split at h
    · rename_i vs he
      obtain ⟨z, hz, rfl⟩ := okV_some h
      have hx := r.op x
      rw [he] at hx
      obtain ⟨ar, hv, hr⟩ := Rep.tuple_inv hx
      obtain ⟨v, h1, h2⟩ := hr.get i z hz
      refine Does.pure r (v := v) ?_ (RepV.toE h2)
      unfold execOp; rw [ho]
      refine run_value ?_
      rw [hv]
      have : ar[i]? = some v := by rw [← Array.getElem?_toList]; exact h1
      simp [Instr.extract, this]
    · cases h
  · -- panic
    rename_i x ho
    split at h
    · rename_i t v hp
      cases h
      have hx := (r.op x).v hp
      generalize hu : a.eval x = u at hx
      cases hx with
      | iface hv =>
        refine ⟨_, w, κ, ?_, .iface hv, r.sim, .refl _ _ _, rfl⟩
        unfold execOp; rw [ho]
        simp [hu, Instr.panic]
    · cases h
  · -- buildSlice
    rename_i t len parts ho
    split at h
    · rename_i esz eb ea ez size agg zero hti
      obtain ⟨z, hz, rfl⟩ := okV_some h
      obtain ⟨v, w', κ', h1, h2, h3, h4⟩ := buildSlice_ok (P := P) hg hti rfl r (parts_of r parts.toList) hz
      refine Does.any r (v := v) ?_ h2 (RepV.toE h3) h4
      unfold execOp; rw [ho]
      refine run_value ?_
      rw [← h1]
      congr 2
      apply Array.ext'; simp
    · cases h
  · -- makeSlice
    rename_i t l c ho
    split at h
    · rename_i esz eb ea ez size agg zero len cap hti hl hc
      split at h
      · rename_i hcond
        cases h
        obtain ⟨v, w', κ', h1, h2, h3, h4⟩ := makeSlice_ok (P := P) hg hti rfl r (int_of (r.op l) hl) (int_of (r.op c) hc) hcond
        exact Does.any r (by unfold execOp; rw [ho]; exact run_value h1) h2 h3 h4
      · cases h
    · cases h
  · -- a built-in function
    rename_i b args ats ho
    exact builtin_ok hg r ho h
  · cases h
end Go.Ab
