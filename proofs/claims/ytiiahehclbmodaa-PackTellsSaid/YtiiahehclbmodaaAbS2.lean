/- What each quiet operation does. -/
import Derived.Test.YtiiahehclbmodaaAbS1
import Derived.Laws.BytesString
import Derived.Laws.Strings
import Derived.Laws.Small
import Derived.Laws.Pointers
import Derived.Laws.StructEq
namespace Go.Ab
open Go
set_option linter.unusedVariables false
set_option linter.unusedSimpArgs false
set_option linter.unnecessarySimpa false

/-- What an operation does, told by the interpreter's answer. -/
def Does (P : Program) (d n : Nat) (κ : K) (w : World) (st : St) (a : Act) (o : Oper) : Rs → Prop
  | .ok e fr' st' => ∃ nx v w' κ' lam', (execOp a.eval o).run P w = .ok nx w' ∧ (nx = .value v ∨ (nx = .skip ∧ v = undef)) ∧
      R d n κ' w' lam' fr' st' a ∧ RepV κ' w' lam' fr' st' a.tmps v e ∧ Pres (Keep d st.wp) κ w κ' w' ∧ st'.wp = st.wp
  | .pan x st' => ∃ v w' κ', (execOp a.eval o).run P w = .halt (.panic v) w' ∧ Rep κ' w' v x ∧ Sim κ' w' st' ∧ Pres (Keep d st.wp) κ w κ' w' ∧ st'.wp = st.wp

variable {P : Program} {d n : Nat} {κ : K} {w : World} {lam : Lam} {fr : Fr} {st : St} {a : Act} {o : Oper}

theorem Does.pure (r : R d n κ w lam fr st a) {v : Value} {e : E} (h : (execOp a.eval o).run P w = .ok (.value v) w) (hv : RepV κ w lam fr st a.tmps v e) :
    Does P d n κ w st a o (.ok e fr st) :=
  ⟨_, v, w, κ, lam, h, .inl rfl, r, hv, .refl _ _ _, rfl⟩

/-- The world behind a draw. -/
theorem cell_drew (b : Addr) : w.drew.cell? b = w.cell? b := rfl
theorem pres_drew (S : Ow → Prop) : Pres S κ w κ w.drew :=
  ⟨rfl, rfl, rfl, Nat.le_refl _, fun _ _ h => h, fun _ _ _ h => h, fun _ _ _ h _ => ⟨h, rfl⟩, fun _ _ _ => rfl, fun _ _ h => ⟨rfl, h⟩⟩
theorem R.drew (r : R d n κ w lam fr st a) : R d n κ w.drew lam fr st a :=
  r.pres (pres_drew fun _ => True) (fun _ _ => trivial) r.sim.good r.sim.fresh
theorem Does.drew (r : R d n κ w lam fr st a) {v : Value} {e : E} (h : (execOp a.eval o).run P w = .ok (.value v) w.drew) (hv : RepV κ w.drew lam fr st a.tmps v e) :
    Does P d n κ w st a o (.ok e fr st) :=
  ⟨_, v, w.drew, κ, lam, h, .inl rfl, r.drew, hv, pres_drew _, rfl⟩

theorem okE_some {e : Option E} {rs : Rs} (h : okE fr st e = some rs) : ∃ x, e = some x ∧ rs = .ok x fr st := by
  cases e with
  | none => cases h
  | some x => exact ⟨x, rfl, by simpa [okE] using h.symm⟩
theorem okV_some {e : Option V} {rs : Rs} (h : okV fr st e = some rs) : ∃ x, e = some x ∧ rs = .ok x.toE fr st := by
  cases e with
  | none => cases h
  | some x => exact ⟨x, rfl, by simpa [okV] using h.symm⟩

theorem Rep.bool_inv {v : Value} {b : Bool} (h : Rep κ w v (.bool b)) : v = .bool b := by cases h; rfl
theorem Rep.int_inv {v : Value} {k : IntKind} {m : Int} (h : Rep κ w v (.int k m)) : v = .int k m := by cases h; rfl
theorem Rep.float_inv {v : Value} {k : FloatKind} {m : Nat} (h : Rep κ w v (.float k m)) : v = .float k m := by cases h; rfl
theorem Rep.str_inv {v : Value} {s : List UInt8} (h : Rep κ w v (.str s)) : ∃ t : ByteArray, v = .string t ∧ t.data.toList = s := by cases h; exact ⟨_, rfl, rfl⟩
theorem Rep.slice_inv {v : Value} {xs : List V} (h : Rep κ w v (.slice xs)) : ∃ a cap, v = .slice a xs.length cap ∧ xs.length ≤ cap := by
  cases h with
  | slice0 a c => exact ⟨a, c, rfl, Nat.zero_le _⟩
  | slice hc _ h => exact ⟨_, _, rfl, hc⟩
theorem Rep.agg_inv {v : Value} {xs : List V} (h : Rep κ w v (.agg xs)) : ∃ cs : Array Value, v = .agg cs ∧ Reps κ w cs.toList xs := by cases h with | agg h => exact ⟨_, rfl, h⟩
theorem Rep.tuple_inv {v : Value} {xs : List V} (h : Rep κ w v (.tuple xs)) : ∃ cs : Array Value, v = .tuple cs ∧ Reps κ w cs.toList xs := by cases h with | tuple h => exact ⟨_, rfl, h⟩

theorem int_of {v : Value} {e : E} {m : Int} (h : RepR κ w lam v e) (he : e.int? = some m) : ∃ k, v = .int k m := by
  unfold E.int? at he
  split at he
  · cases he; exact ⟨_, Rep.int_inv h⟩
  · cases he
theorem bool_of {v : Value} {e : E} {b : Bool} (h : RepR κ w lam v e) (he : e.bool? = some b) : v = .bool b := by
  unfold E.bool? at he
  split at he
  · cases he; exact Rep.bool_inv h
  · cases he

theorem run_int_bits (op : BinOp) (k : IntKind) (x y : Int) {z : V} (h : intBin op k x y = some z) (t : TypeId) :
    ∃ v, (binOp op t (.int k x) (.int k y)).run P w = .ok v w ∧ Rep κ w v z := by
  unfold intBin at h
  split at h <;> try cases h
  all_goals first
    | (refine ⟨_, by simp only [binOp, ne_eq, not_true_eq_false, if_false, Op.intArith, Op.intBits, Op.intCmp]; rfl, ?_⟩; first | exact .int _ _ | exact .bool _)
    | (split at h
       · cases h
       · rename_i hy
         cases h
         exact ⟨_, by simp only [binOp, ne_eq, not_true_eq_false, if_false, Op.intDiv, hy]; rfl, .int _ _⟩)

theorem run_shift_v (op : BinOp) (hop : op = .shl ∨ op = .shr) (k k' : IntKind) (x y : Int) {z : V} (h : shiftV op k x y = some z) (t : TypeId) :
    ∃ v, (binOp op t (.int k x) (.int k' y)).run P w = .ok v w ∧ Rep κ w v z := by
  unfold shiftV at h
  split at h
  · cases h
  · rename_i hy
    rcases hop with rfl | rfl <;> (simp only at h; cases h; exact ⟨_, by simp only [binOp, Op.shift, hy, if_false]; rfl, .int _ _⟩)

theorem run_float_v (op : BinOp) (k : FloatKind) (x y : Nat) {z : V} (h : floatBin op k x y = some z) (t : TypeId) :
    ∃ v w', (binOp op t (.float k x) (.float k y)).run P w = .ok v w' ∧ (w' = w ∨ w' = w.drew) ∧ ∀ κ w, Rep κ w v z := by
  unfold floatBin at h
  dsimp only at h
  split at h <;> try cases h
  all_goals first
    | exact ⟨_, w, by simp only [binOp, ne_eq, not_true_eq_false, if_false, Op.floatCmp]; rfl, .inl rfl, fun _ _ => .bool _⟩
    | (simp only [binOp, ne_eq, not_true_eq_false, if_false, Op.floatArith]
       split
       · rename_i b hb
         refine ⟨_, w, ?_, .inl rfl, fun _ _ => .float _ _⟩
         simp [hb]
       · rename_i hb
         refine ⟨.float k ((Question.nanBits k x y).cut (w.tape w.drawn (.nanBits k x y))), w.drew, ?_, .inr rfl, fun _ _ => .any _⟩
         simp [hb, Question.forced])


theorem size_eq_length (s : ByteArray) : s.size = s.data.toList.length := by
  cases s with | mk d => simp [ByteArray.size]
theorem toList_data (s : ByteArray) : s.toList = s.data.toList := ByteArray.toList_eq s
theorem run_str_v (op : BinOp) (x y : ByteArray) {z : V} (h : strBin op x.data.toList y.data.toList = some z) (t : TypeId) :
    ∃ v, (binOp op t (.string x) (.string y)).run P w = .ok v w ∧ Rep κ w v z := by
  unfold strBin at h
  dsimp only at h
  rw [← toList_data, ← toList_data] at h
  split at h <;> try cases h
  case h_1 =>
    split at h
    · rename_i hl
      cases h
      refine ⟨.string (x ++ y), ?_, ?_⟩
      · have hx := size_eq_length x
        have hy := size_eq_length y
        rw [toList_data, toList_data, ← hx, ← hy] at hl
        have : ¬ ((x.size + y.size : Nat) : Int) > IntKind.i64.max := by
          have : IntKind.i64.max = 9223372036854775807 := rfl
          omega
        simp only [binOp, Op.stringOp, this, if_false]; rfl
      · have e : x.toList ++ y.toList = (x ++ y).data.toList := by rw [toList_data, toList_data, ByteArray.data_append, Array.toList_append]
        rw [e]; exact .str _
    · cases h
  all_goals exact ⟨_, by simp only [binOp, Op.stringOp]; rfl, .bool _⟩

theorem eqGuard_other (op : BinOp) (t : TypeId) (x y : Operand) (u v : Value) (h : ∀ a b, u = .agg a → v = .agg b → False) (h2 : u = .nilIface → v = .nilIface → False) :
    (eqGuard op t x y u v).run P w = .ok () w := by
  unfold eqGuard
  cases op <;> simp only [Bool.not_true, Bool.not_false, Bool.false_eq_true, if_false, if_true] <;> first
    | rfl
    | (split
       · exact (h2 rfl rfl).elim
       · exact (h _ _ rfl rfl).elim
       · rfl)

theorem und_eq {g : G} (hg : TyOk P g) {t : Nat} {k : TK} (h : (g.ty t).map TI.k = some k) : ∃ de, P.underlying t = some de ∧ TKok P de k := by
  cases hti : g.ty t with
  | none => rw [hti] at h; cases h
  | some ti =>
    rw [hti] at h
    simp only [Option.map_some, Option.some.injEq] at h
    obtain ⟨de, h1, h2, _⟩ := (hg.ti t ti hti).und
    exact ⟨de, h1, h ▸ h2⟩

theorem eqIn_ptr1 (d : Nat) (t e : TypeId) (p : Option Addr) (h : P.underlying t = some (.pointer e)) : (Op.equalIn (d + 1) t (.pointer none) (.pointer p)).run P w = .ok p.isNone w := by
  simp [Op.equalIn, run_underlying h]
theorem eqIn_ptr2 (d : Nat) (t e : TypeId) (p : Addr) (h : P.underlying t = some (.pointer e)) : (Op.equalIn (d + 1) t (.pointer (some p)) (.pointer none)).run P w = .ok false w := by
  simp [Op.equalIn, run_underlying h]
theorem eqIn_fn0 (d : Nat) (t : TypeId) (e f : Array TypeId) (i : Bool) (h : P.underlying t = some (.func e f i)) : (Op.equalIn (d + 1) t .nilFunc .nilFunc).run P w = .ok true w := by
  simp [Op.equalIn, run_underlying h]
theorem eqIn_fn1 (d : Nat) (t : TypeId) (e f : Array TypeId) (i : Bool) (fn : Fn) (x y : Array Value) (h : P.underlying t = some (.func e f i)) : (Op.equalIn (d + 1) t .nilFunc (.func fn x y)).run P w = .ok false w := by
  simp [Op.equalIn, run_underlying h]
theorem eqIn_fn2 (d : Nat) (t : TypeId) (e f : Array TypeId) (i : Bool) (fn : Fn) (x y : Array Value) (h : P.underlying t = some (.func e f i)) : (Op.equalIn (d + 1) t (.func fn x y) .nilFunc).run P w = .ok false w := by
  simp [Op.equalIn, run_underlying h]
theorem eqIn_if1 (d : Nat) (t : TypeId) (m : Array (String × TypeId)) (u : TypeId) (x : Value) (h : P.underlying t = some (.interface m)) : (Op.equalIn (d + 1) t .nilIface (.iface u x)).run P w = .ok false w := by
  simp [Op.equalIn, run_underlying h]
theorem eqIn_if2 (d : Nat) (t : TypeId) (m : Array (String × TypeId)) (u : TypeId) (x : Value) (h : P.underlying t = some (.interface m)) : (Op.equalIn (d + 1) t (.iface u x) .nilIface).run P w = .ok false w := by
  simp [Op.equalIn, run_underlying h]

theorem run_eq_v {g : G} (hg : TyOk P g) (t : TypeId) {u v : Value} {x y : V} {b : Bool} (hu : Rep κ w u x) (hv : Rep κ w v y) (h : eqV ((g.ty t).map TI.k) x y = some b) :
    (Op.equal t u v).run P w = .ok b w ∧ ((∃ c e, u = .bool c ∧ v = .bool e) ∨ (∃ c e, u = .pointer c ∧ v = .pointer e) ∨ (u = .nilFunc ∧ v = .nilFunc) ∨ (∃ f x y, u = .nilFunc ∧ v = .func f x y) ∨
      (∃ f x y, u = .func f x y ∧ v = .nilFunc) ∨ (∃ a b, u = .nilIface ∧ v = .iface a b) ∨ (∃ a b, u = .iface a b ∧ v = .nilIface)) := by
  unfold eqV at h
  split at h <;> try cases h
  case h_1 hk =>
    obtain ⟨de, h1, h2⟩ := und_eq hg hk
    simp only [TKok] at h2; subst h2
    cases hu; cases hv
    exact ⟨run_equal_bool w t _ _ h1, .inl ⟨_, _, rfl, rfl⟩⟩
  all_goals (rename_i hk; obtain ⟨de, h1, h2⟩ := und_eq hg hk; simp only [TKok] at h2)
  case h_2.refl | h_3.refl =>
    obtain ⟨e, rfl⟩ := h2
    cases hu; cases hv
    exact ⟨eqIn_ptr1 9999 t e _ h1, .inr (.inl ⟨_, _, rfl, rfl⟩)⟩
  case h_4.refl =>
    obtain ⟨e, rfl⟩ := h2
    cases hu; cases hv
    exact ⟨eqIn_ptr2 9999 t e _ h1, .inr (.inl ⟨_, _, rfl, rfl⟩)⟩
  case h_5.refl =>
    obtain ⟨e, f, i, rfl⟩ := h2
    cases hu; cases hv
    exact ⟨eqIn_fn0 9999 t e f i h1, .inr (.inr (.inl ⟨rfl, rfl⟩))⟩
  case h_6.refl =>
    obtain ⟨e, f, i, rfl⟩ := h2
    cases hu; cases hv
    exact ⟨eqIn_fn1 9999 t e f i _ _ _ h1, .inr (.inr (.inr (.inl ⟨_, _, _, rfl, rfl⟩)))⟩
  case h_7.refl =>
    obtain ⟨e, f, i, rfl⟩ := h2
    cases hu; cases hv
    exact ⟨eqIn_fn2 9999 t e f i _ _ _ h1, .inr (.inr (.inr (.inr (.inl ⟨_, _, _, rfl, rfl⟩))))⟩
  case h_8.refl =>
    obtain ⟨m, rfl⟩ := h2
    cases hu; cases hv
    exact ⟨eqIn_if1 9999 t m _ _ h1, .inr (.inr (.inr (.inr (.inr (.inl ⟨_, _, rfl, rfl⟩)))))⟩
  case h_9.refl =>
    obtain ⟨m, rfl⟩ := h2
    cases hu; cases hv
    exact ⟨eqIn_if2 9999 t m _ _ h1, .inr (.inr (.inr (.inr (.inr (.inr ⟨_, _, rfl, rfl⟩)))))⟩

theorem run_eql_v {g : G} (hg : TyOk P g) (t : TypeId) {u v : Value} {x y : V} {b : Bool} (hu : Rep κ w u x) (hv : Rep κ w v y) (h : eqV ((g.ty t).map TI.k) x y = some b) (X Y : Operand) :
    (do eqGuard .eql t X Y u v; binOp .eql t u v : Sem Value).run P w = .ok (.bool b) w ∧ (do eqGuard .neq t X Y u v; binOp .neq t u v : Sem Value).run P w = .ok (.bool !b) w := by
  obtain ⟨h1, h2⟩ := run_eq_v hg t hu hv h
  have hgd : ∀ op, (eqGuard op t X Y u v).run P w = .ok () w := fun op => eqGuard_other op t X Y u v
    (by rcases h2 with ⟨_, _, rfl, rfl⟩ | ⟨_, _, rfl, rfl⟩ | ⟨rfl, rfl⟩ | ⟨_, _, _, rfl, rfl⟩ | ⟨_, _, _, rfl, rfl⟩ | ⟨_, _, rfl, rfl⟩ | ⟨_, _, rfl, rfl⟩ <;> simp)
    (by rcases h2 with ⟨_, _, rfl, rfl⟩ | ⟨_, _, rfl, rfl⟩ | ⟨rfl, rfl⟩ | ⟨_, _, _, rfl, rfl⟩ | ⟨_, _, _, rfl, rfl⟩ | ⟨_, _, rfl, rfl⟩ | ⟨_, _, rfl, rfl⟩ <;> simp)
  have e1 : binOp .eql t u v = (do pure (.bool (← Op.equal t u v)) : Sem Value) := by
    rcases h2 with ⟨_, _, rfl, rfl⟩ | ⟨_, _, rfl, rfl⟩ | ⟨rfl, rfl⟩ | ⟨_, _, _, rfl, rfl⟩ | ⟨_, _, _, rfl, rfl⟩ | ⟨_, _, rfl, rfl⟩ | ⟨_, _, rfl, rfl⟩ <;> rfl
  have e2 : binOp .neq t u v = (do pure (.bool (!(← Op.equal t u v))) : Sem Value) := by
    rcases h2 with ⟨_, _, rfl, rfl⟩ | ⟨_, _, rfl, rfl⟩ | ⟨rfl, rfl⟩ | ⟨_, _, _, rfl, rfl⟩ | ⟨_, _, _, rfl, rfl⟩ | ⟨_, _, rfl, rfl⟩ | ⟨_, _, rfl, rfl⟩ <;> rfl
  constructor
  · rw [Sem.run_bind, hgd, Result.andThen_ok, e1, Sem.run_bind, h1]; rfl
  · rw [Sem.run_bind, hgd, Result.andThen_ok, e2, Sem.run_bind, h1]; rfl

theorem eqGuard_scalar (op : BinOp) (t : TypeId) (x y : Operand) {u v : Value} (h : (∃ k m, u = .int k m) ∨ (∃ k m, u = .float k m) ∨ (∃ s, u = .string s)) :
    (eqGuard op t x y u v).run P w = .ok () w :=
  eqGuard_other op t x y u v (by rcases h with ⟨_, _, rfl⟩ | ⟨_, _, rfl⟩ | ⟨_, rfl⟩ <;> simp) (by rcases h with ⟨_, _, rfl⟩ | ⟨_, _, rfl⟩ | ⟨_, rfl⟩ <;> simp)

/-- An operator on two values that are no structs. -/
theorem run_bin_v {g : G} (hg : TyOk P g) (t : TypeId) (op : BinOp) {u v : Value} {x y z : V} (hu : Rep κ w u x) (hv : Rep κ w v y) (h : binV ((g.ty t).map TI.k) op x y = some z) (X Y : Operand) :
    ∃ r w', (do eqGuard op t X Y u v; binOp op t u v : Sem Value).run P w = .ok r w' ∧ (w' = w ∨ w' = w.drew) ∧ ∀ κ, Rep κ w' r z := by
  unfold binV at h
  split at h
  case h_1 =>
    cases hu; cases hv
    obtain ⟨r, h1, h2⟩ := run_shift_v (P := P) (w := w) (κ := κ) .shl (.inl rfl) _ _ _ _ h t
    refine ⟨r, w, ?_, .inl rfl, fun κ' => ?_⟩
    · rw [Sem.run_bind, eqGuard_scalar _ _ _ _ (.inl ⟨_, _, rfl⟩)]; exact h1
    · obtain ⟨r', h1', h2'⟩ := run_shift_v (P := P) (w := w) (κ := κ') .shl (.inl rfl) _ _ _ _ h t
      rw [h1] at h1'; cases h1'; exact h2'
  case h_2 =>
    cases hu; cases hv
    obtain ⟨r, h1, h2⟩ := run_shift_v (P := P) (w := w) (κ := κ) .shr (.inr rfl) _ _ _ _ h t
    refine ⟨r, w, ?_, .inl rfl, fun κ' => ?_⟩
    · rw [Sem.run_bind, eqGuard_scalar _ _ _ _ (.inl ⟨_, _, rfl⟩)]; exact h1
    · obtain ⟨r', h1', h2'⟩ := run_shift_v (P := P) (w := w) (κ := κ') .shr (.inr rfl) _ _ _ _ h t
      rw [h1] at h1'; cases h1'; exact h2'
  case h_3 =>
    split at h
    · rename_i hk; subst hk
      cases hu; cases hv
      obtain ⟨r, h1, h2⟩ := run_int_bits (P := P) (w := w) (κ := κ) _ _ _ _ h t
      refine ⟨r, w, ?_, .inl rfl, fun κ' => ?_⟩
      · rw [Sem.run_bind, eqGuard_scalar _ _ _ _ (.inl ⟨_, _, rfl⟩)]; exact h1
      · obtain ⟨r', h1', h2'⟩ := run_int_bits (P := P) (w := w) (κ := κ') _ _ _ _ h t
        rw [h1] at h1'; cases h1'; exact h2'
    · cases h
  case h_4 =>
    split at h
    · rename_i hk; subst hk
      cases hu; cases hv
      obtain ⟨r, w', h1, h2, h3⟩ := run_float_v (P := P) (w := w) _ _ _ _ h t
      refine ⟨r, w', ?_, h2, fun κ' => h3 κ' w'⟩
      rw [Sem.run_bind, eqGuard_scalar _ _ _ _ (.inr (.inl ⟨_, _, rfl⟩))]; exact h1
    · cases h
  case h_5 =>
    obtain ⟨s, rfl, rfl⟩ := hu.str_inv
    obtain ⟨s', rfl, rfl⟩ := hv.str_inv
    obtain ⟨r, h1, h2⟩ := run_str_v (P := P) (w := w) (κ := κ) _ _ _ h t
    refine ⟨r, w, ?_, .inl rfl, fun κ' => ?_⟩
    · rw [Sem.run_bind, eqGuard_scalar _ _ _ _ (.inr (.inr ⟨_, rfl⟩))]; exact h1
    · obtain ⟨r', h1', h2'⟩ := run_str_v (P := P) (w := w) (κ := κ') _ _ _ h t
      rw [h1] at h1'; cases h1'; exact h2'
  case h_6 =>
    cases hb : eqV ((g.ty t).map TI.k) x y with
    | none => rw [hb] at h; cases h
    | some b =>
      rw [hb] at h; simp only [Option.map_some, Option.some.injEq] at h; subst h
      exact ⟨_, w, (run_eql_v hg t hu hv hb X Y).1, .inl rfl, fun _ => .bool _⟩
  case h_7 =>
    cases hb : eqV ((g.ty t).map TI.k) x y with
    | none => rw [hb] at h; cases h
    | some b =>
      rw [hb] at h; simp only [Option.map_some, Option.some.injEq] at h; subst h
      exact ⟨_, w, (run_eql_v hg t hu hv hb X Y).2, .inl rfl, fun _ => .bool _⟩
  case h_8 => cases h
end Go.Ab
