/- The function that catches a panic. -/
import Derived.Test.YtiiahehclbmodaaAbL
import Derived.Recover
namespace Go.Ab
open Go
set_option linter.unusedVariables false
set_option linter.unusedSimpArgs false
set_option linter.unnecessarySimpa false

variable {P : Program} {d n : Nat} {κ : K} {w : World} {lam : Lam} {fr fr' : Fr} {st : St} {a : Act} {o : Oper}
variable {g : G} {fi : FI} {call : Calling}

/-- The catching function's body. -/
def runBody (tf tb te cl : Nat) : Code :=
(Go.Code.seq
        (Go.Code.region 0
          #[{ dst := Option.some 2, op := Go.Op.alloc te, type := 0, pos := "trap.go:21", after := #[],
              guard := Option.none }]
          Bool.false)
        (Go.Code.seq
          (Go.Code.seq
            (Go.Code.region 1
              #[{ dst := Option.some 3, op := Go.Op.move (Go.Operand.tmp 0), type := tf, pos := "trap.go:22",
                  after := #[], guard := Option.none },
                { dst := Option.some 4,
                  op := Go.Op.binOp Go.BinOp.eql tf (Go.Operand.tmp 3) (Go.Operand.const Go.Value.nilFunc) tf, type := tb,
                  pos := "trap.go:22", after := #[{ on := 0, ground := Go.Ground.data }], guard := Option.none }]
              Bool.false)
            (Go.Code.cond (Go.Operand.tmp 4)
              (Go.Code.seq
                (Go.Code.region 2
                  #[{ dst := Option.none,
                      op := Go.Op.store te (Go.Operand.tmp 2) (Go.Operand.const (Go.Value.int Go.IntKind.i64 0)),
                      type := 0, pos := "trap.go:23", after := #[], guard := Option.none }]
                  Bool.false)
                Go.Code.ret)
              Go.Code.skip))
          (Go.Code.seq
            (Go.Code.region 3
              #[{ dst := Option.some 5, op := Go.Op.makeFunc (Go.Fn.func cl) #[] #[Go.Operand.tmp 2], type := tf,
                  pos := "trap.go:25", after := #[], guard := Option.none },
                { dst := Option.none,
                  op := Go.Op.defer { callee := Go.Callee.value (Go.Operand.tmp 5), args := #[], argTypes := #[] },
                  type := 0, pos := "trap.go:25", after := #[{ on := 0, ground := Go.Ground.data }],
                  guard := Option.none }]
              Bool.false)
            (Go.Code.seq
              (Go.Code.region 4
                #[{ dst := Option.some 6, op := Go.Op.move (Go.Operand.tmp 0), type := tf, pos := "trap.go:36",
                    after := #[], guard := Option.none },
                  { dst := Option.some 7,
                    op := Go.Op.call { callee := Go.Callee.value (Go.Operand.tmp 6), args := #[], argTypes := #[] },
                    type := 0, pos := "trap.go:36", after := #[{ on := 0, ground := Go.Ground.data }],
                    guard := Option.none }]
                Bool.false)
              (Go.Code.seq
                (Go.Code.region 5
                  #[{ dst := Option.none,
                      op := Go.Op.store te (Go.Operand.tmp 2) (Go.Operand.const (Go.Value.int Go.IntKind.i64 0)),
                      type := 0, pos := "trap.go:37", after := #[], guard := Option.none }]
                  Bool.false)
                Go.Code.ret)))))

/-- The body of the closure that it defers. -/
def runCatch (tb te ta tt : Nat) : Code :=
(Go.Code.seq
        (Go.Code.region 0
          #[{ dst := Option.some 4,
              op := Go.Op.call { callee := Go.Callee.builtin Go.Builtin.recover, args := #[], argTypes := #[] },
              type := ta, pos := "trap.go:26", after := #[], guard := Option.none },
            { dst := Option.some 1, op := Go.Op.assign (Go.Operand.tmp 4), type := ta, pos := "trap.go:26",
              after :=
                #[{ on := 0, ground := Go.Ground.data }, { on := 0, ground := Go.Ground.chain },
                  { on := 0, ground := Go.Ground.phase }],
              guard := Option.none }]
          Bool.false)
        (Go.Code.seq
          (Go.Code.seq
            (Go.Code.region 1
              #[{ dst := Option.some 5, op := Go.Op.move (Go.Operand.tmp 1), type := ta, pos := "trap.go:27",
                  after := #[], guard := Option.none },
                { dst := Option.some 6,
                  op := Go.Op.binOp Go.BinOp.eql ta (Go.Operand.tmp 5) (Go.Operand.const Go.Value.nilIface) ta,
                  type := tb, pos := "trap.go:27", after := #[{ on := 0, ground := Go.Ground.data }],
                  guard := Option.none }]
              Bool.false)
            (Go.Code.cond (Go.Operand.tmp 6) Go.Code.ret Go.Code.skip))
          (Go.Code.seq
            (Go.Code.region 2
              #[{ dst := Option.some 8, op := Go.Op.move (Go.Operand.tmp 1), type := ta, pos := "trap.go:30",
                  after := #[], guard := Option.none },
                { dst := Option.some 9, op := Go.Op.typeAssert (Go.Operand.tmp 8) ta te Bool.true, type := tt,
                  pos := "trap.go:30", after := #[{ on := 0, ground := Go.Ground.data }], guard := Option.none },
                { dst := Option.some 7, op := Go.Op.move (Go.Operand.tmp 9), type := tt, pos := "trap.go:30",
                  after := #[{ on := 1, ground := Go.Ground.data }], guard := Option.none },
                { dst := Option.some 10, op := Go.Op.extract (Go.Operand.tmp 7) 0, type := te, pos := "trap.go:30",
                  after := #[{ on := 2, ground := Go.Ground.data }], guard := Option.none },
                { dst := Option.some 11, op := Go.Op.extract (Go.Operand.tmp 7) 1, type := tb, pos := "trap.go:30",
                  after :=
                    #[{ on := 2, ground := Go.Ground.data },
                      { on := 5, ground := Go.Ground.gcOnly Go.Departure.lateStores }],
                  guard := Option.none },
                { dst := Option.some 2, op := Go.Op.assign (Go.Operand.tmp 10), type := te, pos := "trap.go:30",
                  after :=
                    #[{ on := 3, ground := Go.Ground.data }, { on := 0, ground := Go.Ground.phase },
                      { on := 1, ground := Go.Ground.phase }, { on := 2, ground := Go.Ground.phase },
                      { on := 3, ground := Go.Ground.phase },
                      { on := 4, ground := Go.Ground.textOnly Go.Departure.lateStores }],
                  guard := Option.none },
                { dst := Option.some 3, op := Go.Op.assign (Go.Operand.tmp 11), type := tb, pos := "trap.go:30",
                  after :=
                    #[{ on := 4, ground := Go.Ground.data }, { on := 5, ground := Go.Ground.chain },
                      { on := 0, ground := Go.Ground.phase }, { on := 1, ground := Go.Ground.phase },
                      { on := 2, ground := Go.Ground.phase }, { on := 3, ground := Go.Ground.phase },
                      { on := 4, ground := Go.Ground.phase }, { on := 5, ground := Go.Ground.phase }],
                  guard := Option.none }]
              Bool.false)
            (Go.Code.seq
              (Go.Code.seq
                (Go.Code.region 3
                  #[{ dst := Option.some 12, op := Go.Op.move (Go.Operand.tmp 3), type := tb, pos := "trap.go:31",
                      after := #[], guard := Option.none },
                    { dst := Option.some 13, op := Go.Op.unOp Go.UnOp.not tb (Go.Operand.tmp 12), type := tb,
                      pos := "trap.go:31", after := #[{ on := 0, ground := Go.Ground.data }], guard := Option.none }]
                  Bool.false)
                (Go.Code.cond (Go.Operand.tmp 13)
                  (Go.Code.region 4
                    #[{ dst := Option.some 14, op := Go.Op.move (Go.Operand.tmp 1), type := ta, pos := "trap.go:32",
                        after := #[], guard := Option.none },
                      { dst := Option.none, op := Go.Op.panic (Go.Operand.tmp 14), type := 0, pos := "trap.go:32",
                        after := #[{ on := 0, ground := Go.Ground.data }], guard := Option.none }]
                    Bool.false)
                  Go.Code.skip))
              (Go.Code.region 5
                #[{ dst := Option.some 15, op := Go.Op.move (Go.Operand.tmp 2), type := te, pos := "trap.go:34",
                    after := #[], guard := Option.none },
                  { dst := Option.none, op := Go.Op.store te (Go.Operand.tmp 0) (Go.Operand.tmp 15), type := 0,
                    pos := "trap.go:34",
                    after := #[{ on := 0, ground := Go.Ground.data }, { on := 0, ground := Go.Ground.phase }],
                    guard := Option.none }]
                Bool.false)))))

structure RunOk (P : Program) (r te tf tb ta tt cl : Nat) (fn fn1 : Func) : Prop where
  hf : P.funcs[r]? = some fn
  hb : fn.body = some (runBody tf tb te cl)
  hn : fn.ntmps = 8
  hr : fn.results = #[.cell 2 te]
  hf1 : P.funcs[cl]? = some fn1
  hb1 : fn1.body = some (runCatch tb te ta tt)
  hn1 : fn1.ntmps = 16
  hr1 : fn1.results = #[]
  hname : (fn1.name == "runtime.NumGoroutine") = false
  ue : P.underlying te = some (.int .i64)
  ze : ∃ i, P.info? te = some i ∧ i.zero = some (.int .i64 0) ∧ i.size = 1
  uf : ∃ a b c, P.underlying tf = some (.func a b c)
  ua : P.underlying ta = some (.interface #[])

section
variable {r te tf tb ta tt cl : Nat} {fn fn1 : Func}
theorem catch_idle (h : RunOk P r te tf tb ta tt cl fn fn1) (p : Addr) (w : World) :
    CallsD P cl #[.pointer (some p)] .returning w fun e u' w' => e = .returned (.tuple #[]) ∧ u' = .returning ∧ w' = w := by
  refine callsD_of_wpS h.hf1 h.hb1 fun c₀ cs hu => ?_
  unfold runCatch
  rw [h.hn1]
  apply wpS_seq
  apply wpS_region
  simp [wpOpsS, go_sem, recoverD, hu, Exit.thenS]
  apply wpS_seq
  apply wpS_seq
  apply wpS_region
  simp [wpOpsS, go_sem, Exit.thenS, h.ua]
  refine wpS_cond (t := true) (by simp [Act.eval, Array.replicate]) ?_
  simp only [if_true]
  refine wpS_of_wp (wp_ret ?_)
  cases c₀
  simp_all [bodyPostS, results, h.hr1, Exit.thenS]

theorem catch_stop (h : RunOk P r te tf tb ta tt cl fn fn1) (b : Nat) (w : World) (e : Int) {u : Value} (hc : w.cell? (at_ b 0) = some u) (hfz : w.frozen? (at_ b 0) = false) :
    CallsD P cl #[.pointer (some (at_ b 0))] (.panicking [{ v := .iface te (.int .i64 e), recovered := false }]) w fun x u' w' => x = .returned (.tuple #[]) ∧ u' = .panicking [{ v := .iface te (.int .i64 e), recovered := true }] ∧ w' = w.setCell (at_ b 0) (.int .i64 e) := by
  refine callsD_of_wpS h.hf1 h.hb1 fun c₀ cs hu => ?_
  unfold runCatch
  rw [h.hn1]
  have ha : ∀ w : World, (isAgg te).run P w = .ok false w := fun w => isAgg_run h.ue
  have hs : ∀ w : World, (sizeOf te).run P w = .ok 1 w := fun w => by
    obtain ⟨i, hi, _, hs⟩ := h.ze
    simp [sizeOf, typeInfo, hi, hs]
  have hta : ∀ w : World, (Instr.typeAssert (.iface te (.int .i64 e)) ta te true).run P w = .ok (.tuple #[.int .i64 e, .bool true]) w := fun w => by
    simp [Instr.typeAssert, run_underlying h.ue]
  apply wpS_seq
  apply wpS_region
  simp [wpOpsS, go_sem, recoverD, hu, Exit.thenS]
  apply wpS_seq
  apply wpS_seq
  apply wpS_region
  simp [wpOpsS, go_sem, Exit.thenS, h.ua]
  refine wpS_cond (t := false) (by simp [Act.eval, Array.replicate]) ?_
  simp only [Bool.false_eq_true, if_false]
  refine wpS_of_wp (wp_skip ?_)
  simp only [Exit.thenS]
  apply wpS_seq
  apply wpS_region
  simp [wpOpsS, go_sem, Exit.thenS, h.ue, hta]
  apply wpS_seq
  apply wpS_seq
  apply wpS_region
  simp [wpOpsS, go_sem, Exit.thenS]
  refine wpS_cond (t := false) (by simp [Act.eval, Array.replicate]) ?_
  simp only [Bool.false_eq_true, if_false]
  refine wpS_of_wp (wp_skip ?_)
  simp only [Exit.thenS]
  apply wpS_region
  simp [wpOpsS, go_sem, Exit.thenS, h.ue, ha, hc, hfz, hs]
  cases c₀
  simp_all [bodyPostS, results, h.hr1, Exit.thenS]

theorem one_val {ops : Array Oper} {Q : Exit → Act → World → Prop} {i : Nat} {rest : List Nat} {o : Oper} {w' : World} {v : Value} (hi : ops[i]? = some o) (hw : o.guard = none) (h : (execOp a.eval o).run P w = .ok (.value v) w')
    (k : wpOps P ops Q rest (a.put o.dst v) w') : wpOps P ops Q (i :: rest) a w := by
  simp only [wpOps, hi, Region.wanted, hw, if_true]
  left; unfold Oper.wp; rw [h]; exact k
theorem one_skip {ops : Array Oper} {Q : Exit → Act → World → Prop} {i : Nat} {rest : List Nat} {o : Oper} {w' : World} (hi : ops[i]? = some o) (hw : o.guard = none) (h : (execOp a.eval o).run P w = .ok .skip w')
    (k : wpOps P ops Q rest (a.put o.dst undef) w') : wpOps P ops Q (i :: rest) a w := by
  simp only [wpOps, hi, Region.wanted, hw, if_true]
  left; unfold Oper.wp; rw [h]; exact k
theorem one_defer {ops : Array Oper} {Q : Exit → Act → World → Prop} {i : Nat} {rest : List Nat} {o : Oper} {w' : World} {df : Deferred} (hi : ops[i]? = some o) (hw : o.guard = none) (h : (execOp a.eval o).run P w = .ok (.defer df) w')
    (k : wpOps P ops Q rest ({ a with defers := df :: a.defers }.put o.dst undef) w') : wpOps P ops Q (i :: rest) a w := by
  simp only [wpOps, hi, Region.wanted, hw, if_true]
  left; unfold Oper.wp; rw [h]; exact k
theorem one_call {ops : Array Oper} {Q : Exit → Act → World → Prop} {i : Nat} {rest : List Nat} {o : Oper} {w' : World} {f : FuncId} {args : Array Value} (hi : ops[i]? = some o) (hw : o.guard = none)
    (h : (execOp a.eval o).run P w = .ok (.enter f args) w')
    (k : Calls P f args w' fun
      | .returned v, w'' => wpOps P ops Q rest (a.put o.dst v) w''
      | .panicked chain, w'' => Q (.panic chain) a w''
      | .outgrown, _ => LetsOut Q) : wpOps P ops Q (i :: rest) a w := by
  simp only [wpOps, hi, Region.wanted, hw, if_true]
  left; unfold Oper.wp; rw [h]; exact k

set_option maxHeartbeats 4000000 in
/-- What the interpreter's catching function answers is what the program's does. -/
theorem run_ok (h : RunOk P r te tf tb ta tt cl fn fn1) (hg : GOk P g) (hc : CallOk P call) {args : List V} {out : Out} {st' : St} (hx : runFn call te args st = some (out, st'))
    (hfn : ∀ f args st x, call f args st = some x → ∃ fn, P.funcs[f]? = some fn ∧ (fn.name == "runtime.NumGoroutine") = false ∧ fn.body ≠ none)
    (d : Nat) {vs : Array Value} (s : Sim κ w st) (hr : Reps κ w vs.toList args) :
    Calls P r vs w fun e w' => ∃ κ', OutOk d κ' w' e out ∧ Sim κ' w' st' ∧ Pres (Keep d st.wp) κ w κ' w' ∧ st'.wp = st.wp := by
  obtain ⟨i, hi, hz, hsz⟩ := h.ze
  obtain ⟨ua, ub, uc, uf⟩ := h.uf
  have ha : ∀ w : World, (isAgg te).run P w = .ok false w := fun w => isAgg_run h.ue
  have hs : ∀ w : World, (sizeOf te).run P w = .ok 1 w := fun w => by simp [sizeOf, typeInfo, hi, hsz]
  have hal : ∀ w : World, (Instr.alloc te true (.tuple #[])).run P w = .ok (.pointer (some (at_ w.heap.size 0))) (w.alloc (.cells #[.int .i64 0] te)) := fun w => alloc_run hi hz
  -- the result's variable
  let lab : Nat → Option Ow := fun o => if o = 0 then some (.loc d 0) else none
  let κ1 := κ.new w.heap.size lab
  let w1 := w.alloc (.cells #[.int .i64 0] te)
  have p1 : ∀ S, Pres S κ w κ1 w1 := fun S => pres_new S s.good _ _
  have g1 : Good κ1 w1 := good_new s.good _ _ (fun o L h => by
    simp only [lab] at h; split at h
    · rename_i h0; subst h0; decide
    · cases h)
  have s1 : Sim κ1 w1 st := s.pres (p1 (fun _ => True)) g1 s.fresh (fun _ => trivial) (fun _ _ => trivial)
  have l1 : κ1.own w.heap.size 0 = some (.loc d 0) := by simp [κ1, K.new, lab]
  let p : Value := .pointer (some (at_ w.heap.size 0))
  let R := fun (e : Ending) (w' : World) => ∃ κ', OutOk d κ' w' e out ∧ Sim κ' w' st' ∧ Pres (Keep d st.wp) κ w κ' w' ∧ st'.wp = st.wp
  -- behind any change that keeps this frame's variables, the variable may be written
  have fin : ∀ {κ2 : K} {w2 : World} {st2 : St} (v : Int), Sim κ2 w2 st2 → κ2.own w.heap.size 0 = some (.loc d 0) → Pres (Keep d st.wp) κ w κ2 w2 → st2.wp = st.wp →
      (w2.setCell (at_ w.heap.size 0) (.int .i64 v)).cell? (at_ w.heap.size 0) = some (.int .i64 v) ∧
      ∃ κ', OutOk d κ' (w2.setCell (at_ w.heap.size 0) (.int .i64 v)) (.returned (.int .i64 v)) (.ret (.int .i64 v) none) ∧ Sim κ' (w2.setCell (at_ w.heap.size 0) (.int .i64 v)) st2 ∧ Pres (Keep d st.wp) κ w κ' (w2.setCell (at_ w.heap.size 0) (.int .i64 v)) ∧ st2.wp = st.wp := by
    intro κ2 w2 st2 v s2 l2 p2 e2
    have pw : ∀ S : Ow → Prop, ¬ S (.loc d 0) → Pres S κ2 w2 κ2 (w2.setCells w.heap.size 0 [.int .i64 v]) := fun S hS => pres_write S hS (by simp) s2.good (fun j hj => by
      have : j = 0 := by simpa using hj
      subst this; exact l2)
    have gw : Good κ2 (w2.setCells w.heap.size 0 [.int .i64 v]) := good_write s2.good _ _ _ (fun j hj => by
      have : j = 0 := by simpa using hj
      subst this; exact (s2.good _ _ _ l2).1)
    have e : w2.setCells w.heap.size 0 [.int .i64 v] = w2.setCell (at_ w.heap.size 0) (.int .i64 v) := rfl
    rw [e] at pw gw
    obtain ⟨⟨u, hu⟩, _⟩ := s2.good _ _ _ l2
    refine ⟨World.cell?_setCell_same _ _ _ hu, κ2, ⟨_, rfl, .int _ _⟩, s2.pres (pw (fun L => L ≠ .loc d 0) (by simp)) gw s2.fresh (by simp) (by simp), p2.trans (pw _ ?_), e2⟩
    rintro (h | ⟨_, h, _⟩ | ⟨_, _, h, _⟩)
    · simp only [Ow.below] at h; omega
    · cases h
    · cases h
  have hst : ∀ {κ2 : K} {w2 : World} {st2 : St} (a : Act) (v : Int), Sim κ2 w2 st2 → κ2.own w.heap.size 0 = some (.loc d 0) → a.eval (.tmp 2) = p →
      ∀ pos af, (execOp a.eval { dst := none, op := .store te (.tmp 2) (.const (.int .i64 v)), type := 0, pos := pos, after := af, guard := none }).run P w2 = .ok .skip (w2.setCell (at_ w.heap.size 0) (.int .i64 v)) := by
    intro κ2 w2 st2 a v s2 l2 ha2 pos af
    obtain ⟨⟨u, hu⟩, hfz⟩ := s2.good _ _ _ l2
    have ha3 : a.tmps[2]?.getD undef = .pointer (some (at_ w.heap.size 0)) := by simpa [Act.eval, p] using ha2
    simp [execOp, go_sem, ha3, ha, hs, hu, hfz]
  have hres : ∀ (tmps : Array Value) (w2 : World) (v : Value), tmps.getD 2 undef = p → w2.cell? (at_ w.heap.size 0) = some v → (results fn tmps).run P w2 = .ok v w2 := by
    intro tmps w2 v ht hcell
    have ht3 : tmps[2]?.getD undef = .pointer (some (at_ w.heap.size 0)) := by simpa [p] using ht
    simp [results, h.hr, ht3, asAddr, loadVar, ha, hcell]
  have hq0 : ∀ w : World, (binOp .eql tf .nilFunc .nilFunc).run P w = .ok (.bool true) w := fun w => by
    have e : binOp .eql tf .nilFunc .nilFunc = (do pure (.bool (← Op.equal tf .nilFunc .nilFunc)) : Sem Value) := rfl
    rw [e, Sem.run_bind, show Op.equal tf .nilFunc .nilFunc = Op.equalIn (9999 + 1) tf .nilFunc .nilFunc from rfl, eqIn_fn0 _ _ _ _ _ uf]; rfl
  have hq1 : ∀ (w : World) f x y, (binOp .eql tf (.func f x y) .nilFunc).run P w = .ok (.bool false) w := fun w f x y => by
    have e : binOp .eql tf (.func f x y) .nilFunc = (do pure (.bool (← Op.equal tf (.func f x y) .nilFunc)) : Sem Value) := rfl
    rw [e, Sem.run_bind, show Op.equal tf (.func f x y) .nilFunc = Op.equalIn (9999 + 1) tf (.func f x y) .nilFunc from rfl, eqIn_fn2 _ _ _ _ _ _ _ _ uf]; rfl
  have hcl : ∀ w : World, (callFunc cl #[p]).run P w = .ok (.enter cl #[p]) w := fun w => by
    have f6 : ¬ fn1.name = "runtime.NumGoroutine" := by simpa using h.hname
    unfold callFunc
    simp [h.hf1, h.hb1, f6]
  refine calls_of_wp_defers h.hf h.hb ?_
  unfold runBody
  rw [h.hn]
  unfold runFn at hx
  split at hx
  · -- nothing to call
    cases hx
    obtain ⟨l⟩ := vs
    simp only at hr
    cases hr with
    | cons h1 h2 =>
      cases h2
      cases h1
      refine wp_seq (wp_region (one_val (w' := w1) (v := p) rfl rfl (by unfold execOp; exact run_value (hal w)) ?_))
      refine wp_seq (wp_seq (wp_region (one_val (w' := w1) (v := .nilFunc) rfl rfl rfl (one_val (w' := w1) (v := .bool true) rfl rfl ?_ ?_))))
      · simp [execOp, go_sem, Act.eval, Act.put, hq0, hq1]
      refine wp_cond_true rfl ?_
      refine wp_seq (wp_region (one_skip (w' := w1.setCell (at_ w.heap.size 0) (.int .i64 0)) rfl rfl (hst _ 0 s1 l1 rfl _ _) ?_))
      refine wp_ret ?_
      obtain ⟨f1, f2⟩ := fin 0 s1 l1 (p1 _) rfl
      exact ⟨.int .i64 0, hres _ _ _ rfl f1, f2⟩
  · -- a call
    rename_i f first cap
    obtain ⟨l⟩ := vs
    simp only at hr
    cases hr with
    | cons h1 h2 =>
      cases h2
      cases h1 with
      | func hF hC =>
        rename_i F C
        refine wp_seq (wp_region (one_val (w' := w1) (v := p) rfl rfl (by unfold execOp; exact run_value (hal w)) ?_))
        refine wp_seq (wp_seq (wp_region (one_val (w' := w1) (v := .func (.func f) F C) rfl rfl rfl (one_val (w' := w1) (v := .bool false) rfl rfl ?_ ?_))))
        · simp [execOp, go_sem, Act.eval, Act.put, hq0, hq1]
        refine wp_cond_false rfl (wp_skip ?_)
        refine wp_seq (wp_region (one_val (w' := w1) (v := .func (.func cl) #[] #[p]) rfl rfl ?_ (one_defer (df := { target := .fn (.func cl) #[p], args := #[] }) (w' := w1) rfl rfl ?_ ?_)))
        · simp [execOp, go_sem, Act.eval, Act.put, Instr.makeFunc, Array.replicate]
        · simp [execOp, resolve, Deferred.ofValue, Act.eval, Act.put, go_sem]
        have hcall : ∃ x st2, call f (first ++ cap) st = some (x, st2) := by
          split at hx
          · rename_i h; exact ⟨_, _, h⟩
          · rename_i h; exact ⟨_, _, h⟩
          · cases hx
        obtain ⟨x, st2, hcall⟩ := hcall
        obtain ⟨fnf, hff, hname, hbody⟩ := hfn _ _ _ _ hcall
        have hcc := hc f (first ++ cap) st x st2 hcall (d + 1) κ1 w1 (F ++ #[] ++ C) s1 (by
          simp only [Array.toList_append]
          simpa using (hF.pres (p1 (fun _ => True))).append (hC.pres (p1 (fun _ => True))))
        have e : (callFunc f (F ++ C)).run P w1 = .ok (.enter f (F ++ C)) w1 := by
          have f6 : ¬ fnf.name = "runtime.NumGoroutine" := by simpa using hname
          unfold callFunc
          simp [hff, f6, hbody]
        -- from here the temporaries are few, and known
        generalize hact : Act.put _ _ _ = act
        have ht : act.tmps = #[.func (.func f) F C, undef, p, .func (.func f) F C, .bool false, .func (.func cl) #[] #[p], undef, undef] := by
          rw [← hact]; simp [Act.put, Array.replicate]
        have hd : act.defers = [{ target := .fn (.func cl) #[p], args := #[] }] := by rw [← hact]; rfl
        clear hact
        obtain ⟨tm, df⟩ := act
        simp only at ht hd
        subst ht hd
        refine wp_seq (wp_region (one_val (w' := w1) (v := .func (.func f) F C) rfl rfl rfl (one_call (f := f) (args := F ++ C) (w' := w1) rfl rfl ?_ ?_)))
        · simp [execOp, resolve, Deferred.ofValue, invoke, Act.eval, Act.put, go_sem, e]
        rw [show F ++ #[] ++ C = F ++ C by simp] at hcc
        refine hcc.mono ?_
        rintro e w2 ⟨κ2, o2, s2, p2, e2⟩
        have l2 : κ2.own w.heap.size 0 = some (.loc d 0) := (p2.lab _ _ _ l1 (.inl (Nat.lt_succ_self d))).1
        have p3 : Pres (Keep d st.wp) κ w κ2 w2 := (p1 _).trans (p2.mono fun L hL => keep_up (Nat.le_refl _) hL)
        split at hx
        · -- it came back
          rename_i v k st3 hx2
          cases hx
          rw [hcall] at hx2; cases hx2
          have : ∃ u, e = .returned u := by
            cases k with
            | none => obtain ⟨u, rfl, _⟩ := o2; exact ⟨u, rfl⟩
            | some k => obtain ⟨u, s, rfl, _⟩ := o2; exact ⟨u, rfl⟩
          obtain ⟨u, rfl⟩ := this
          refine wp_seq (wp_region (one_skip (w' := w2.setCell (at_ w.heap.size 0) (.int .i64 0)) rfl rfl (hst _ 0 s2 l2 rfl _ _) ?_))
          refine wp_ret ?_
          obtain ⟨f1, f2⟩ := fin 0 s2 l2 p3 e2
          refine leaves_cons (by simp) (hcl _) ((catch_idle h _ _).mono ?_)
          rintro x u' w3 ⟨rfl, rfl, rfl⟩
          exact ⟨.int .i64 0, hres _ _ _ rfl f1, f2⟩
        · -- it panicked
          rename_i t m st3 hx2
          rw [hcall] at hx2; cases hx2
          split at hx
          · rename_i hte
            cases hx
            have hte : t = te := by simpa using hte
            subst hte
            obtain ⟨u, rfl, hu⟩ := o2
            cases hu with
            | iface hu =>
              cases hu
              obtain ⟨⟨u0, hu0⟩, hfz⟩ := s2.good _ _ _ l2
              obtain ⟨f1, f2⟩ := fin m s2 l2 p3 e2
              refine leaves_cons (by simp) (hcl _) ((catch_stop h _ _ m hu0 hfz).mono ?_)
              rintro x u' w3 ⟨rfl, rfl, rfl⟩
              exact ⟨.int .i64 m, hres _ _ _ rfl f1, f2⟩
          · cases hx
        · cases hx
  · cases hx
end

/-- The whole interpreter. -/
theorem evalFn_ok (hg : GOk P g) (hd : DstOk g) (hrun : ∀ r te, g.run = some (r, te) → ∃ tf tb ta tt cl fn fn1, RunOk P r te tf tb ta tt cl fn fn1 ∧ (fn.name == "runtime.NumGoroutine") = false) :
    ∀ n, CallOk P (evalFn g n) ∧ ∀ f args st x, evalFn g n f args st = some x → ∃ fn, P.funcs[f]? = some fn ∧ (fn.name == "runtime.NumGoroutine") = false ∧ fn.body ≠ none
  | 0 => ⟨fun f args st out st' h => by simp [evalFn] at h, fun f args st x h => by simp [evalFn] at h⟩
  | n + 1 => by
    obtain ⟨ih1, ih2⟩ := evalFn_ok hg hd hrun n
    have body : ∀ {f args st x}, evalBody g (evalFn g n) n f args st = some x → ∃ fn, P.funcs[f]? = some fn ∧ (fn.name == "runtime.NumGoroutine") = false ∧ fn.body ≠ none := by
      intro f args st x h
      unfold evalBody at h
      split at h
      · cases h
      · rename_i fi hfi
        obtain ⟨fn, f1, f2, _, _, f5⟩ := hg.fn f fi hfi
        exact ⟨fn, f1, f5, by rw [f2]; simp⟩
    constructor
    · intro f args st out st' h d κ w vs s hr
      unfold evalFn at h
      split at h
      · rename_i r te hrun1
        obtain ⟨tf, tb, ta, tt, cl, fn, fn1, hR, _⟩ := hrun r te hrun1
        split at h
        · rename_i hfr
          have : f = r := by simpa using hfr
          subst this
          exact run_ok hR hg ih1 h ih2 d s hr
        · exact body_ok hg hd ih1 h d s hr
      · exact body_ok hg hd ih1 h d s hr
    · intro f args st x h
      unfold evalFn at h
      split at h
      · rename_i r te hrun1
        obtain ⟨tf, tb, ta, tt, cl, fn, fn1, hR, hnm⟩ := hrun r te hrun1
        split at h
        · rename_i hfr
          have : f = r := by simpa using hfr
          subst this
          exact ⟨fn, hR.hf, hnm, by rw [hR.hb]; simp⟩
        · exact body h
      · exact body h
end Go.Ab
