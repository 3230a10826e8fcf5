/- Effects, and temporaries that they do not look at. -/
import Derived.Test.YtiiahehclbmodaaAbE2
namespace Go.Ab
open Go
set_option linter.unusedVariables false
set_option linter.unusedSimpArgs false
set_option linter.unnecessarySimpa false

variable {fr fr' : Fr} {st st' : St} {o : Oper} {g : G} {fi : FI} {call : Calling}

theorem map_lset (f : E → E) (l : List (Nat × E)) (s : Nat) (v : E) : (lset l s v).map (fun x => (x.1, f x.2)) = lset (l.map fun x => (x.1, f x.2)) s (f v) := by
  induction l with
  | nil => rfl
  | cons x r ih =>
    obtain ⟨k, z⟩ := x
    simp only [lset, List.map_cons]
    split
    · rfl
    · rw [List.map_cons, ih]
theorem map_ins (f : E → E) (l : List (Nat × E)) (s : Nat) (v : E) : (ins l s v).map (fun x => (x.1, f x.2)) = ins (l.map fun x => (x.1, f x.2)) s (f v) := by
  induction l with
  | nil => rfl
  | cons x r ih =>
    obtain ⟨k, z⟩ := x
    simp only [ins, List.map_cons]
    split
    · rfl
    · split
      · rw [List.map_cons, ih]
      · rfl
theorem map_raw (f : E → E) (s : Nat) (v : E) : (fr.raw s v).map f = (fr.map f).raw s (f v) := by
  simp only [Fr.raw_def, Fr.map_def]
  simp only [lk_map]
  cases lk fr.ps s with
  | some x => simp only [Option.map_some, map_lset]
  | none => simp only [Option.map_none, map_ins]
theorem lset_comm {α : Type} {s t : Nat} (hst : s ≠ t) {e f : α} : ∀ (l : List (Nat × α)), lset (lset l s e) t f = lset (lset l t f) s e
  | [] => rfl
  | (k, z) :: r => by
    simp only [lset]
    by_cases h1 : k = s
    · subst h1
      simp [lset, hst]
    · by_cases h2 : k = t
      · subst h2; simp [lset, h1]
      · simp [lset, h1, h2, lset_comm hst r]
theorem ins_comm {α : Type} {s t : Nat} (hst : s ≠ t) {e f : α} : ∀ (l : List (Nat × α)), ins (ins l s e) t f = ins (ins l t f) s e
  | [] => by
    simp only [ins]
    rcases Nat.lt_or_gt_of_ne hst with h | h
    · have h1 : ¬ t < s := by omega
      simp [hst, Ne.symm hst, h, h1, Nat.blt_eq]
    · have h1 : ¬ s < t := by omega
      simp [hst, Ne.symm hst, h, h1, Nat.blt_eq]
  | (k, z) :: r => by
    have ih := ins_comm hst (e := e) (f := f) r
    simp only [ins, beq_iff_eq, Nat.blt_eq]
    by_cases h1 : k = s
    · subst h1
      have h2 : ¬ k = t := hst
      simp only [if_true, h2, if_false, ins, beq_iff_eq, Nat.blt_eq]
      by_cases h3 : t < k
      · simp [h3, ins]
      · have h4 : k < t := by omega
        simp [h3, ins, Ne.symm hst, h4, Nat.blt_eq]
    · by_cases h2 : k = t
      · subst h2
        simp only [if_true, h1, if_false, ins, beq_iff_eq, Nat.blt_eq]
        by_cases h3 : s < k
        · simp [h3, ins]
        · have h4 : k < s := by omega
          simp [h3, ins, hst, h4, Nat.blt_eq]
      · simp only [h1, h2, if_false]
        by_cases h3 : s < k <;> by_cases h4 : t < k <;> simp only [h3, h4, if_true, if_false, ins, beq_iff_eq, Nat.blt_eq, h1, h2]
        · rw [ih]
        · have h5 : s < t := by omega
          have h6 : ¬ t = s := by omega
          simp [h5, h6]
        · have h5 : t < s := by omega
          have h6 : ¬ s = t := by omega
          simp [h5, h6]
        · rcases Nat.lt_or_gt_of_ne hst with h | h
          · have h5 : ¬ t < s := by omega
            simp [hst, Ne.symm hst, h, h5, ins, h4, h2, Nat.blt_eq]
          · have h5 : ¬ s < t := by omega
            simp [hst, Ne.symm hst, h, h5, ins, h3, h1, Nat.blt_eq]
theorem lk_lset' {α : Type} (l : List (Nat × α)) (s t : Nat) (e : α) : (lk (lset l s e) t).isSome = (lk l t).isSome := by
  induction l with
  | nil => rfl
  | cons y r ih =>
    obtain ⟨k, z⟩ := y
    simp only [lset]
    by_cases h1 : k = s
    · subst h1; simp only [beq_self_eq_true, if_true, lk]; split <;> rfl
    · simp only [beq_iff_eq, h1, if_false, lk]; split
      · rfl
      · exact ih
theorem raw_comm {s t : Nat} (hst : s ≠ t) (e f : E) : (fr.raw s e).raw t f = (fr.raw t f).raw s e := by
  simp only [Fr.raw_def]
  cases h1 : lk fr.ps s with
  | some x =>
    cases h2 : lk fr.ps t with
    | some y =>
      have a1 := lk_lset' fr.ps s t e
      have a2 := lk_lset' fr.ps t s f
      rw [h2] at a1; rw [h1] at a2
      obtain ⟨x1, e1⟩ := Option.isSome_iff_exists.1 a1
      obtain ⟨x2, e2⟩ := Option.isSome_iff_exists.1 a2
      simp only [e1, e2, lset_comm hst]
    | none =>
      have a1 := lk_lset' fr.ps s t e
      rw [h2] at a1
      have e1 : lk (lset fr.ps s e) t = none := by simpa using a1
      simp only [e1, h1]
  | none =>
    cases h2 : lk fr.ps t with
    | some y =>
      have a2 := lk_lset' fr.ps t s f
      rw [h1] at a2
      have e2 : lk (lset fr.ps t f) s = none := by simpa using a2
      simp only [h2, e2]
    | none =>
      simp only [h1, h2, ins_comm hst]

theorem map_map (f h : E → E) : (fr.map f).map h = fr.map fun e => h (f e) := by
  simp only [Fr.map_def, List.map_map, Function.comp_def]
theorem inval_comm (e : E) (p q : Pl) : (e.inval p).inval q = (e.inval q).inval p := by
  cases e with
  | bor k xs r =>
    simp only [E.inval]
    by_cases h1 : r = p <;> by_cases h2 : r = q <;> simp [h1, h2, E.inval]
    all_goals (split <;> simp_all [E.inval])
  | _ => rfl
theorem noMem_inval (e : E) (s : Nat) : (e.inval (.slot s)).noMem = e.noMem.inval (.slot s) := by
  cases e with
  | bor k xs r =>
    cases r with
    | slot u => by_cases h : u = s <;> simp [E.inval, E.noMem, h]
    | mem a b => simp [E.inval, E.noMem]
    | loc a b => simp [E.inval, E.noMem]
  | _ => rfl
theorem noLoc_inval (e : E) (s : Nat) : (e.inval (.slot s)).noLoc = e.noLoc.inval (.slot s) := by
  cases e with
  | bor k xs r =>
    cases r with
    | slot u => by_cases h : u = s <;> simp [E.inval, E.noLoc, h]
    | mem a b => simp [E.inval, E.noLoc]
    | loc a b => simp [E.inval, E.noLoc]
  | _ => rfl
theorem weak_inval (e : E) (p : Pl) : e.weak.inval p = e.weak := by cases e <;> rfl
theorem map_put {f : E → E} {s : Nat} (hc : ∀ e, f (e.inval (.slot s)) = (f e).inval (.slot s)) (v : E) : (fr.put s v).map f = (fr.map f).put s (f v) := by
  simp only [Fr.put_def]
  rw [map_raw, map_map, map_map, hc]
  congr 1
  congr 1
  funext e
  exact hc e
theorem put_put {s t : Nat} (hst : s ≠ t) {v w : E} (hv : v.inval (.slot t) = v) (hw : w.inval (.slot s) = w) : (fr.put s v).put t w = (fr.put t w).put s v := by
  simp only [Fr.put_def]
  rw [map_raw, map_raw, map_map, map_map, raw_comm hst, inval_comm v, hv, inval_comm w, hw]
  congr 2
  congr 1
  funext e
  exact inval_comm e _ _

/-- A temporary and its entry, that an operation does not look at. -/
structure Still (s : Nat) (v : E) (fr : Fr) (o : Oper) : Prop where
  mem : v.noMem = v
  loc : v.noLoc = v
  ops : ∀ t, Operand.tmp t ∈ o.op.operands → t ≠ s ∧ v.inval (.slot t) = v ∧ ∀ k xs u, fr.get t = .bor k xs (.slot u) → u ≠ s ∧ v.inval (.slot u) = v

section
variable {s : Nat} {v : E}
theorem noMem_put (hm : v.noMem = v) : (fr.put s v).map E.noMem = (fr.map E.noMem).put s v := by rw [map_put (fun e => noMem_inval e s), hm]
theorem noLoc_put (hm : v.noLoc = v) : (fr.put s v).map E.noLoc = (fr.map E.noLoc).put s v := by rw [map_put (fun e => noLoc_inval e s), hm]
theorem setLoc_put (t : Nat) (cs : List V) : (fr.put s v).setLoc t cs = (fr.setLoc t cs).put s v := by
  simp only [Fr.put_def, Fr.raw_def, Fr.setLoc_def, Fr.map_def]
  cases lk (fr.ps.map fun x => (x.1, x.2.inval (.slot s))) s <;> rfl
theorem op_put {o : Oper} (hS : Still s v fr o) {x : Operand} (hx : x ∈ o.op.operands) : (fr.put s v).op x = fr.op x := by
  cases x with
  | tmp t =>
    obtain ⟨h1, _, h3⟩ := hS.ops t hx
    show (fr.put s v).get t = fr.get t
    rw [get_put, if_neg h1]
    cases he : fr.get t with
    | bor k xs p =>
      cases p with
      | slot u =>
        have := (h3 k xs u he).1
        simp only [E.inval]
        rw [if_neg (by simpa using this)]
      | _ => rfl
    | _ => rfl
  | _ => rfl
theorem consume_put (hm : v.noMem = v) (hl : v.noLoc = v) {xs : List V} {p : Pl} (hp : ∀ u, p = .slot u → u ≠ s ∧ v.inval (.slot u) = v) : consume (fr.put s v) st xs p = (consume fr st xs p).map fun x => (x.1.put s v, x.2) := by
  cases p with
  | slot u =>
    obtain ⟨h1, h2⟩ := hp u rfl
    simp only [consume, Option.map_some]
    rw [get_put, if_neg h1, inval_weak, put_put (Ne.symm h1) h2 (weak_inval _ _)]
  | mem id off =>
    simp only [consume]
    cases st.obj id with
    | none => rfl
    | some cs =>
      simp only
      cases cs[off]? with
      | none => rfl
      | some c =>
        simp only
        cases st.set id (cs.set off c.strip1) with
        | none => rfl
        | some st' => simp only [Option.map_some, noMem_put hm]
  | loc t off =>
    simp only [consume, loc_put]
    cases fr.loc t with
    | none => rfl
    | some cs =>
      simp only
      cases cs[off]? with
      | none => rfl
      | some c => simp only [Option.map_some, setLoc_put, noLoc_put hl]
theorem take_put {o : Oper} (hS : Still s v fr o) {x : Operand} (hx : x ∈ o.op.operands) : take (fr.put s v) st x = (take fr st x).map fun y => (y.1, y.2.1.put s v, y.2.2) := by
  have ho := op_put hS hx
  cases x with
  | tmp t =>
    obtain ⟨h1, h2, h3⟩ := hS.ops t hx
    have ho' : (fr.put s v).get t = fr.get t := ho
    simp only [take, ho']
    cases h : fr.get t with
    | own k xs => simp only [Option.map_some]; rw [put_put (Ne.symm h1) h2 rfl]
    | bor k xs p =>
      simp only
      rw [consume_put hS.mem hS.loc (fun u hu => h3 k xs u (by rw [h, hu]))]
      cases consume fr st xs p <;> rfl
    | _ => rfl
  | _ => rfl
theorem storeAt_put (hm : v.noMem = v) (hl : v.noLoc = v) (size : Nat) (a : E) (cs : List V) : storeAt size (fr.put s v) st a cs = (storeAt size fr st a cs).map fun x => (x.1.put s v, x.2) := by
  have hp : placeOf (fr.put s v) st a = placeOf fr st a := by
    cases a with
    | lp t off => simp only [placeOf, loc_put]
    | val y => cases y <;> rfl
    | _ => rfl
  unfold storeAt
  rw [hp]
  split
  · split
    · rename_i t off old _
      cases splice old off cs with
      | none => rfl
      | some new => simp only [Option.map_some, setLoc_put, noLoc_put hl]
    · rename_i id off old _
      cases splice old off cs with
      | none => rfl
      | some new =>
        simp only
        cases st.set id new with
        | none => rfl
        | some st' => simp only [Option.map_some, noMem_put hm]
    · rfl
  · rfl
noncomputable def Rs.put (s : Nat) (v : E) : Rs → Rs
  | .ok e fr st => .ok e (fr.put s v) st
  | .pan x st => .pan x st

/-- An effect does the same with or without an entry that it does not look at. -/
theorem stepE_put1 (hS : Still s v fr o) (hsemi : semi fi o = true) :
    stepE g fi call (fr.put s v) st o = (stepE g fi call fr st o).map (Rs.put s v) := by
  obtain ⟨dst, op, ty, pos, after, guard⟩ := o
  cases op <;> first
    | (simp [semi, mild] at hsemi; done)
    | skip
  case alloc t =>
    simp only [semi, mild, Bool.or_false] at hsemi
    simp only [stepE, stepOp]
    split
    · rename_i h1 h2
      simp only [h2] at hsemi
      rw [Bool.not_eq_true'] at hsemi
      simp only [hsemi, Bool.false_eq_true, if_false]; rfl
    · rfl
  case box t x =>
    simp only [semi, mild, Bool.or_false] at hsemi
    have h1 := op_put hS (x := x) (by simp [Op.operands])
    simp only [stepE, stepOp, h1]
    split
    · rename_i h1 h2
      simp only [h2] at hsemi
      rw [Bool.not_eq_true'] at hsemi
      simp only [hsemi, Bool.false_eq_true, if_false]; rfl
    · rfl
  case store t a x =>
    have h2 := take_put (st := st) hS (x := x) (by simp [Op.operands])
    simp only [stepE, stepOp]
    cases g.ty t with
    | none => rfl
    | some ti =>
      simp only [h2]
      cases ht : take fr st x with
      | none => rfl
      | some y =>
        obtain ⟨e, f, st1⟩ := y
        simp only [Option.map_some]
        cases (upE g t e).cells? with
        | none => rfl
        | some cs =>
          simp only
          -- an address that a store goes to owns nothing
          have key : storeAt ti.size (f.put s v) st1 ((f.put s v).op a) cs = (storeAt ti.size f st1 (f.op a) cs).map fun x => (x.1.put s v, x.2) := by
            rw [storeAt_put hS.mem hS.loc]
            have hop : (f.put s v).op a = f.op a ∨ (placeOf f st1 ((f.put s v).op a) = none ∧ placeOf f st1 (f.op a) = none) := by
              cases a with
              | tmp b =>
                have hb := (hS.ops b (by simp [Op.operands])).1
                show (f.put s v).get b = f.get b ∨ (placeOf f st1 ((f.put s v).get b) = none ∧ placeOf f st1 (f.get b) = none)
                rw [get_put, if_neg hb]
                cases f.get b with
                | bor k xs p => right; simp only [E.inval]; split <;> exact ⟨rfl, rfl⟩
                | _ => left; rfl
              | _ => left; rfl
            rcases hop with hop | ⟨h5, h6⟩
            · rw [hop]
            · unfold storeAt
              rw [h5, h6]
          rw [key]
          cases storeAt ti.size f st1 (f.op a) cs <;> rfl
  case panic x =>
    have h1 := op_put hS (x := x) (by simp [Op.operands])
    simp only [stepE, stepOp, h1]
    split <;> rfl
  case call c =>
    obtain ⟨callee, args, ats⟩ := c
    have hargs : ∀ x ∈ args.toList, x ∈ Op.operands (.call { callee := callee, args := args, argTypes := ats }) := fun x hx => by
      cases callee <;> simp [Op.operands, Call.operands] <;> first | (exact .inr (by simpa using hx)) | (simpa using hx)
    have h1 : args.toList.map (fr.put s v).op = args.toList.map fr.op := List.map_congr_left fun x hx => op_put hS (hargs x hx)
    cases callee with
    | value x =>
      have h2 := op_put hS (x := x) (by simp [Op.operands, Call.operands])
      simp only [stepE, h1, h2]
      split
      · rename_i f first cap vs hf hvs
        unfold callStep
        split
        · split <;> rfl
        · split
          · rfl
          · split
            · split
              · split <;> rfl
              · rfl
            · split
              · simp only [Option.map_some, Rs.put, noMem_put hS.mem]
              · rfl
              · rfl
      · rfl
    | invoke _ _ => simp [semi, mild] at hsemi
    | builtin b =>
      cases b <;> first
        | (simp [semi, mild] at hsemi; done)
        | skip
      simp only [stepE, stepOp, builtinStep, appendStep]
      cases ht : ats[0]? with
      | none => rfl
      | some t =>
        cases h0 : args[0]? with
        | none => rfl
        | some y =>
          cases hx : args[1]? with
          | none => rfl
          | some x =>
            have h3 : (fr.put s v).op x = fr.op x := op_put hS (hargs x (by have := Array.mem_of_getElem? hx; simpa using this))
            have h4 := take_put (st := st) hS (x := y) (hargs y (by have := Array.mem_of_getElem? h0; simpa using this))
            simp only [h3]
            have hbase : ∀ esz, baseOf esz (fr.put s v) st y = (baseOf esz fr st y).map fun z => (z.1, z.2.1.put s v, z.2.2) := by
              intro esz
              simp only [baseOf, h4]
              cases take fr st y with
              | none => rfl
              | some z =>
                obtain ⟨e, f, st1⟩ := z
                cases e <;> try rfl
                simp only [Option.map_some]
                split <;> rfl
            split
            · split
              · rw [hbase]
                split
                · rename_i heq
                  simp only [Option.map_eq_some_iff] at heq
                  obtain ⟨⟨a1, a2, a3⟩, h5, h6⟩ := heq
                  cases h6
                  rw [h5]
                  simp only
                  split <;> rfl
                · rename_i heq
                  simp only [Option.map_eq_none_iff] at heq
                  rw [heq]; rfl
              · rfl
            · rfl
end
end Go.Ab
