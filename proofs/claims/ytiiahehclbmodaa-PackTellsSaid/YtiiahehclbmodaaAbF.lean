/- Calls, and rows of operations. -/
import Derived.Test.YtiiahehclbmodaaAbMk
namespace Go.Ab
open Go
set_option linter.unusedVariables false
set_option linter.unusedSimpArgs false
set_option linter.unnecessarySimpa false

variable {P : Program} {d n : Nat} {κ : K} {w : World} {lam : Lam} {fr : Fr} {st : St} {a : Act} {o : Oper}

/-- What a call's end is. -/
def OutOk (d : Nat) (κ : K) (w : World) (e : Ending) : Out → Prop
  | .ret v none => ∃ u, e = .returned u ∧ Rep κ w u v
  | .ret v (some k) => ∃ u s, e = .returned u ∧ Rep κ w u v ∧ Spare κ (.tmp d s) k u
  | .pan v => ∃ u, e = .panicked [{ v := u, recovered := false }] ∧ Rep κ w u v

/-- The interpreter's calls are the program's. -/
def CallOk (P : Program) (call : Calling) : Prop :=
  ∀ f args st out st', call f args st = some (out, st') → ∀ d κ w (vs : Array Value), Sim κ w st → Reps κ w vs.toList args →
    Calls P f vs w fun e w' => ∃ κ', OutOk d κ' w' e out ∧ Sim κ' w' st' ∧ Pres (Keep d st.wp) κ w κ' w' ∧ st'.wp = st.wp

structure GOk (P : Program) (g : G) : Prop where
  ty : TyOk P g
  fn : ∀ f fi, g.fn f = some fi → ∃ fn, P.funcs[f]? = some fn ∧ fn.body = some fi.body ∧ fn.ntmps = fi.ntmps ∧ fn.results.toList = fi.results ∧ (fn.name == "runtime.NumGoroutine") = false
  bits : ∀ f, g.ext f = some .floatBits → ∀ b w, (callFunc f #[.float .f64 b]).run P w = .ok (.value (.int .u64 b)) w
  ofBits : ∀ f, g.ext f = some .floatOf → ∀ m w, (callFunc f #[.int .u64 m]).run P w = .ok (.value (.float .f64 m.toNat)) w
  trunc : ∀ f, g.ext f = some .trunc → ∀ b v w, truncV b = some v → (callFunc f #[.float .f64 b]).run P w = .ok (.value (.float .f64 v)) w
  mixed : P.follows .mixedOrders = true

theorem Sim.pres' {S : Ow → Prop} {κ' : K} {w' : World} (h : Pres S κ w κ' w') (g : Good κ' w') (f : ∀ id, st.objs.length ≤ id → κ'.blk id = none)
    (h1 : ∀ id, id < st.objs.length → S (.obj id)) (h2 : ∀ id off, id < st.objs.length → S (.mem id off)) (s : Sim κ w st) : Sim κ' w' st where
  wple := s.wple
  good := g
  fresh := f
  obj := fun id cs hc => by
    obtain ⟨b, hb, c⟩ := s.obj id cs hc
    have hid : id < st.objs.length := (List.getElem?_eq_some_iff.1 hc).1
    exact ⟨b, h.blk _ _ hb, c.pres h (h1 id hid) (fun j => h2 id j hid)⟩
  room := Room.pres s h h1

theorem R.pres' {S : Ow → Prop} {κ' : K} {w' : World} (h : Pres S κ w κ' w') (hS : ∀ L, Mine d L → (∀ id, L = .obj id → id < st.objs.length) → (∀ id off, L = .mem id off → id < st.objs.length) → S L)
    (g : Good κ' w') (f : ∀ id, st.objs.length ≤ id → κ'.blk id = none) (r : R d n κ w lam fr st a) : R d n κ' w' lam fr st a where
  sim := r.sim.pres' h g f (fun id hid => hS _ trivial (fun i e => by cases e; exact hid) (by simp)) (fun id off hid => hS _ trivial (by simp) (fun i o e => by cases e; exact hid))
  fm := {
    defers := r.fm.defers
    size := r.fm.size
    tmp := fun s => (r.fm.tmp s).pres h (hS _ rfl (by simp) (by simp))
      (fun id cs off x b e1 e2 e3 => by
        obtain ⟨b', hb, c⟩ := r.sim.obj id cs e1
        rw [e3] at hb; cases hb
        have hid : id < st.objs.length := (List.getElem?_eq_some_iff.1 e1).1
        exact (h.lab _ _ _ (c off x e2).1 (hS _ trivial (fun i e => by cases e; exact hid) (by simp))).2)
      (r.fm.cellEq h fun s => hS _ rfl (by simp) (by simp))
    loc := fun s cs hc => let ⟨b, hb, c⟩ := r.fm.loc s cs hc; ⟨b, hb, c.pres h (hS _ rfl (by simp) (by simp)) (fun _ => hS _ rfl (by simp) (by simp))⟩ }

mutual
theorem Rep.flat {κ κ' : K} {w : World} (ho : ∀ b o, κ.own b o = none → κ'.own b o = none) {v : Value} {x : V} : Rep κ w v x → x.flat = true → Rep κ' w v x
  | .any v, _ => .any v
  | .bool b, _ => .bool b
  | .int k n, _ => .int k n
  | .float k b, _ => .float k b
  | .str s, _ => .str s
  | .nilp, _ => .nilp
  | .ptr h, hf => by simp [V.flat] at hf
  | .ep h, hf => .ep (RepAt.flat ho h (by simpa [V.flat] using hf))
  | .slice0 a c, _ => .slice0 a c
  | .slice (xs := xs) hc hk h, hf => .slice hc hk (RepAt.flat ho h (flats_flat (by simpa [V.flat] using hf)))
  | .osl h, hf => .osl (Rep.flat ho h (by simpa [V.flat] using hf))
  | .func h1 h2, hf => by simp [V.flat] at hf
  | .nilf, _ => .nilf
  | .iface h, hf => .iface (Rep.flat ho h (by simpa [V.flat] using hf))
  | .nili, _ => .nili
  | .agg h, hf => .agg (Reps.flat ho h (by simpa [V.flat] using hf))
  | .tuple h, hf => .tuple (Reps.flat ho h (by simpa [V.flat] using hf))
theorem Reps.flat {κ κ' : K} {w : World} (ho : ∀ b o, κ.own b o = none → κ'.own b o = none) {vs : List Value} {xs : List V} : Reps κ w vs xs → flats xs = true → Reps κ' w vs xs
  | .nil, _ => .nil
  | .cons h r, hf => by
    simp only [flats, Bool.and_eq_true] at hf
    exact .cons (Rep.flat ho h hf.1) (Reps.flat ho r hf.2)
theorem RepAt.flat {κ κ' : K} {w : World} (ho : ∀ b o, κ.own b o = none → κ'.own b o = none) {b o : Nat} {xs : List V} : RepAt κ w b o xs → flats xs = true → RepAt κ' w b o xs
  | .nil, _ => .nil
  | .cons hi h r, hf => by
    simp only [flats, Bool.and_eq_true] at hf
    exact .cons ⟨hi.1, ho _ _ hi.2⟩ (Rep.flat ho h hf.1) (RepAt.flat ho r hf.2)
theorem flats_flat : {xs : List V} → flats xs = true → flats (xs.flatMap V.cells) = true
  | [], _ => rfl
  | x :: xs, h => by
    simp only [flats, Bool.and_eq_true] at h
    rw [List.flatMap_cons]
    have hx : flats x.cells = true := by
      cases x <;> first | (simpa [V.cells, flats, V.flat] using h.1) | (simp only [V.cells, flats, h.1, Bool.and_self])
    have hr := flats_flat h.2
    generalize x.cells = c at hx
    induction c with
    | nil => exact hr
    | cons y c ih =>
      simp only [flats, Bool.and_eq_true] at hx
      simp only [List.cons_append, flats, hx.1, ih hx.2, Bool.and_self]
end
end Go.Ab
