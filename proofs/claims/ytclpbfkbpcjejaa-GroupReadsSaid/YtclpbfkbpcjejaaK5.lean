/- Whatever attributes, the readers of the groups that match are just the clients one of whose filters takes them. Part 5. -/
import Derived.Test.YtclpbfkbpcjejaaK4
namespace Go.Proofs.Ytclpbfkbpcjejaa
open Go Go.Ab
set_option linter.unusedVariables false
set_option linter.unusedSimpArgs false
set_option linter.unnecessarySimpa false
set_option maxRecDepth 20000
noncomputable section
variable (fr : Fr) (st : St) (k : Kt)
def fi92 : FI := { body := codeOf Try.f92, ntmps := 22, results := [.cell 4 24, .tmp 5], pers := [0, 1, 4, 5, 7, 8, 9, 10], locals := [4, 7], pure := true, marks := [] }
theorem fi92_eq : gS.fn 92 = some fi92 := by kernel_rfl
theorem st92 (a0 a1 : V) : startFr fi92 [a0, a1] = { ps := [(0, .val a0), (1, .val a1), (4, .any), (5, .any), (7, .any), (8, .any), (9, .any), (10, .any)], ts := [], lc := [] } := rfl
def b92 : Code := mini (codeOf Try.f92)
def c92_20 : Code := .seq (codeN b92 9829) .ret
def c92_19 : Code := .cond (.tmp 17) c92_20 .skip
def c92_17 : Code := .seq (codeN b92 2661) c92_19
def c92_15 : Code := .seq (codeN b92 1125) c92_17
def c92_24 : Code := codeN b92 485
def c92_13 : Code := .seq (.block 1 c92_15) c92_24
def c92_9 : Code := .seq (.cond (.tmp 11) .skip (.exit 0)) c92_13
def c92_7 : Code := .seq (codeN b92 69) c92_9
def c92_6 : Code := .loop c92_7
def c92_5 : Code := .block 0 c92_6
def c92_3 : Code := .seq (codeN b92 9) c92_5
def c92_25 : Code := .seq (codeN b92 11) .ret
def c92_2 : Code := .seq c92_3 c92_25
def c92_0 : Code := .seq (codeN b92 2) c92_2
theorem E92 : (evK gS fi92 c92_20 fr st k = opsR gS fi92 [op1 18 (.fieldAddr 111 (.tmp 7) 1) 0,
 ld 19 24 18 24,
 sto 24 4 19,
 op1 5 (.assign (.const (.bool true))) 4] fr st (.seq .ret k)) ∧
 evK gS fi92 c92_19 fr st k = condK gS fi92 (fr.op (.tmp 17)).bool? c92_20 .skip fr st k ∧
 (evK gS fi92 c92_17 fr st k = opsR gS fi92 [op1 14 (.fieldAddr 111 (.tmp 7) 0) 0,
 ld 15 9 14 9,
 mv 16 1 9,
 bop 17 .eql 9 15 16 9 4] fr st (.seq c92_19 k)) ∧
 (evK gS fi92 c92_15 fr st k = opsR gS fi92 [ixa 12 50 8 10 0,
 ld 13 111 12 111,
 op1 7 (.alloc 111) 0,
 sto 111 7 13] fr st (.seq c92_17 k)) ∧
 (evK gS fi92 c92_24 fr st k = opsR gS fi92 [op1 20 (.binOp .add 3 (.tmp 10) (.const (.int .i64 1)) 3) 3,
 mv 10 20 3] fr st k) ∧
 evK gS fi92 c92_13 fr st k = evK gS fi92 c92_15 fr st (.blk 1 (.seq c92_24 k)) ∧
 evK gS fi92 c92_9 fr st k = condK gS fi92 (fr.op (.tmp 11)).bool? .skip (.exit 0) fr st (.seq c92_13 k) ∧
 evK gS fi92 c92_7 fr st k = opsR gS fi92 [bop 11 .lss 3 10 9 3 0] fr st (.seq c92_9 k) ∧
 evK gS fi92 c92_5 fr st k = evK gS fi92 c92_6 fr st (.blk 0 k) ∧
 (evK gS fi92 c92_3 fr st k = opsR gS fi92 [mv 8 0 50,
 len1 9 8 50 3,
 op1 10 (.move (.const (.int .i64 0))) 3] fr st (.seq c92_5 k)) ∧
 (evK gS fi92 c92_25 fr st k = opsR gS fi92 [op1 21 (.build 24 #[]) 24,
 sto 24 4 21,
 op1 5 (.assign (.const (.bool false))) 4] fr st (.seq .ret k)) ∧
 evK gS fi92 c92_2 fr st k = evK gS fi92 c92_3 fr st (.seq c92_25 k) ∧
 (evK gS fi92 c92_0 fr st k = opsR gS fi92 [op1 4 (.alloc 24) 0,
 op1 5 (.assign (.const (.bool false))) 4] fr st (.seq c92_2 k)) := ⟨evK_rs 5 rfl (by kernel_rfl), rfl, evK_rs 4 rfl (by kernel_rfl), evK_rs 3 rfl (by kernel_rfl), evK_r 6 (by kernel_rfl), rfl, rfl, evK_rs 2 rfl (by kernel_rfl), rfl, evK_rs 1 rfl (by kernel_rfl), evK_rs 7 rfl (by kernel_rfl), rfl, evK_rs 0 rfl (by kernel_rfl)⟩
theorem m92 : mini fi92.body = c92_0 := by kernel_rfl
theorem n92_6 (fr : Fr) (st : St) (k : Kt) : nextK gS fi92 (.loop c92_7 k) .normal fr st = evK gS fi92 c92_6 fr st k := rfl
set_option maxHeartbeats 4000000 in
theorem L92_6 (l : List Attr) (nm : List UInt8) (h_l : l.length < 4611686018427387904) (st : St) : ∀ (n i : Nat) (j : Int)  (e0 e7 : E) (T : List (Nat × E)) (X : List (Nat × List V)) (ht0 : e0.Tame) (ht7 : e7.Tame) (hx4 : lk X 4 = some [.int .i64 0, .int .i64 0, .float .f64 0, .str [], .bool false]) , j = (i : Int) → i ≤ (l).length → (l).length - i = n →
    evK gS fi92 c92_6 { ps := [(0, e0), (1, .val (.str nm)), (4, .lp 4 0), (5, .val (.bool false)), (7, e7), (8, .val (.slice (encAttrs l))), (9, .val (.int .i64 l.length)), (10, .val (.int .i64 j))], ts := T, lc := X } st (.blk 0 (.seq c92_25 .nil)) = some ((.ret (.tuple [(aget (l.drop i) nm).1.enc, .bool (aget (l.drop i) nm).2]) none), st) := by
  intro n
  have hm : fi92.marks = [] := rfl
  have hl : fi92.locals = [4, 7] := rfl
  have hr : fi92.results = [.cell 4 24, .tmp 5] := rfl
  induction n with
  | zero =>
    intro i j  e0 e7 T X ht0 ht7 hx4  hj hi hn
    obtain rfl : i = (l).length := by omega
    subst hj
    refine evK_loop c92_7 _ st _ _ rfl ?_
    simp (config := { contextual := true, maxSteps := 10000000, maxDischargeDepth := 6 }) [-Int.not_le, -Int.not_lt, -Nat.not_le, -Nat.not_lt, ty3, ty4, ty9, ty24, ty50, ty111, eq24, hm, hl, hr, E92, n92_6, ht0, ht7, hx4, aget, vzero, lk_lset_self _ _ _ _ hx4]
    all_goals first | done | grind | omega | (trace_state; fail)
  | succ n ih =>
    intro i j  e0 e7 T X ht0 ht7 hx4  hj hi hn
    subst hj
    obtain ⟨x, hx⟩ : ∃ x, (l)[i]? = some x := ⟨(l)[i]'(by omega), List.getElem?_eq_getElem (by omega)⟩
    have hd := drop_get hx
    have hlt : (i : Int) < ((l).length : Int) := by omega
    have hlt2 : i < (l).length := by omega
    have hxe : (l)[i]'hlt2 = x := by rw [List.getElem?_eq_getElem hlt2] at hx; exact Option.some.inj hx
    have hw : IntKind.wrap .i64 ((i : Int) + 1) = (i : Int) + 1 := wrap64 (by omega) (by omega)
    have hf4 : ∀ v, lk (lset (X.filter fun x => !(x.1 == 7)) 4 v) 4 = some v := fun v => lk_lset_self _ _ _ _ (by rw [lk_filter _ _ _ rfl]; exact hx4)
    have IH := fun e0 e7 T X ht0 ht7 hx4 => ih (i + 1) ((i : Int) + 1) e0 e7 T X ht0 ht7 hx4 rfl (by omega) (by omega)
    refine evK_loop c92_7 _ st _ _ rfl ?_
    simp (config := { contextual := true, maxSteps := 10000000, maxDischargeDepth := 6 }) [-Int.not_le, -Int.not_lt, -Nat.not_le, -Nat.not_lt, ty3, ty4, ty9, ty24, ty50, ty111, eq24, hm, hl, hr, E92, n92_6, ht0, ht7, hx4, hx, hxe, hd, hlt, hlt2, hw, IH, aget, vzero, hf4, lk_lset_self _ _ _ _ hx4]
    all_goals first | done | grind | omega | (trace_state; fail)
set_option maxHeartbeats 4000000 in
theorem c92 (l : List Attr) (nm : List UInt8)  (h_l : l.length < 4611686018427387904) (st : St) : EvF gS 92 [.slice (encAttrs l), .str nm] st = some (.ret (.tuple [(aget l nm).1.enc, .bool (aget l nm).2]) none, st) := by
  refine EvF_start fi92_eq (fun x h => by cases h) m92 ?_
  rw [st92]
  have hm : fi92.marks = [] := rfl
  have hl : fi92.locals = [4, 7] := rfl
  have hr : fi92.results = [.cell 4 24, .tmp 5] := rfl
  simp (config := { contextual := true, maxSteps := 10000000, maxDischargeDepth := 6 }) [-Int.not_le, -Int.not_lt, -Nat.not_le, -Nat.not_lt, ty3, ty4, ty9, ty24, ty50, ty111, eq24, hm, hl, hr, E92, n92_6, (fun e0 e7 T X ht0 ht7 hx4 => L92_6 l nm h_l st _ 0 0  e0 e7 T X ht0 ht7 hx4 rfl (Nat.zero_le _) rfl), h_l]
  all_goals first | done | grind | omega | (trace_state; fail)
theorem k92 (l : List Attr) (nm : List UInt8)  (h_l : l.length < 4611686018427387904) (fr : Fr) (st : St) : callStep gS (EvF gS) 92 [.slice (encAttrs l), .str nm] fr st = some (.ok (retE none (.tuple [(aget l nm).1.enc, .bool (aget l nm).2])) fr st) :=
  call_pure rfl fi92_eq rfl (fun st => c92 l nm h_l st) (by simp)
def fi39 : FI := { body := codeOf Try.f39, ntmps := 31, results := [.tmp 4], pers := [0, 1, 4, 6, 7, 8, 9, 10, 11], locals := [6, 7], pure := true, marks := [] }
theorem fi39_eq : gS.fn 39 = some fi39 := by kernel_rfl
theorem st39 (a0 a1 : V) : startFr fi39 [a0, a1] = { ps := [(0, .val a0), (1, .val a1), (4, .any), (6, .any), (7, .any), (8, .any), (9, .any), (10, .any), (11, .any)], ts := [], lc := [] } := rfl
def b39 : Code := mini (codeOf Try.f39)
def c39_22 : Code := .seq (codeN b39 20069) .ret
def c39_21 : Code := .cond (.tmp 29) c39_22 .skip
def c39_19 : Code := .seq (codeN b39 5733) c39_21
def c39_17 : Code := .seq (codeN b39 2661) c39_19
def c39_15 : Code := .seq (codeN b39 1125) c39_17
def c39_26 : Code := codeN b39 485
def c39_13 : Code := .seq (.block 1 c39_15) c39_26
def c39_9 : Code := .seq (.cond (.tmp 12) .skip (.exit 0)) c39_13
def c39_7 : Code := .seq (codeN b39 69) c39_9
def c39_6 : Code := .loop c39_7
def c39_5 : Code := .block 0 c39_6
def c39_3 : Code := .seq (codeN b39 9) c39_5
def c39_27 : Code := .seq (codeN b39 11) .ret
def c39_2 : Code := .seq c39_3 c39_27
def c39_0 : Code := .seq (codeN b39 2) c39_2
theorem E39 : evK gS fi39 c39_22 fr st k = opsR gS fi39 [op1 4 (.assign (.const (.bool false))) 4] fr st (.seq .ret k) ∧
 evK gS fi39 c39_21 fr st k = condK gS fi39 (fr.op (.tmp 29)).bool? c39_22 .skip fr st k ∧
 (evK gS fi39 c39_19 fr st k = opsR gS fi39 [mv 22 8 4,
 op1 23 (.unOp .not 4 (.tmp 22)) 4,
 mv 24 23 4,
 mk (some 25) (.load 27 (.tmp 6)) 27 (some (2, false)),
 mk (some 26) (.load 24 (.tmp 7)) 24 (some (2, false)),
 mk (some 27) (.call { callee := (.value (.func 21)), args := #[(.tmp 25), (.tmp 26)], argTypes := #[27, 24] }) 4 (some (2, false)),
 mk (some 28) (.unOp .not 4 (.tmp 27)) 4 (some (2, false)),
 op1 29 (.pick (.tmp 24) (.const (.bool true)) (.tmp 28)) 4] fr st (.seq c39_21 k)) ∧
 (evK gS fi39 c39_17 fr st k = opsR gS fi39 [mv 16 1 50,
 op1 17 (.fieldAddr 27 (.tmp 6) 0) 0,
 ld 18 9 17 9,
 cal 19 92 [(.tmp 16), (.tmp 18)] [50, 9] 112,
 mv 15 19 112,
 op1 20 (.extract (.tmp 15) 0) 24,
 op1 21 (.extract (.tmp 15) 1) 4,
 op1 7 (.alloc 24) 0,
 sto 24 7 20,
 asn 8 21 4] fr st (.seq c39_19 k)) ∧
 (evK gS fi39 c39_15 fr st k = opsR gS fi39 [ixa 13 49 9 11 0,
 ld 14 27 13 27,
 op1 6 (.alloc 27) 0,
 sto 27 6 14] fr st (.seq c39_17 k)) ∧
 (evK gS fi39 c39_26 fr st k = opsR gS fi39 [op1 30 (.binOp .add 3 (.tmp 11) (.const (.int .i64 1)) 3) 3,
 mv 11 30 3] fr st k) ∧
 evK gS fi39 c39_13 fr st k = evK gS fi39 c39_15 fr st (.blk 1 (.seq c39_26 k)) ∧
 evK gS fi39 c39_9 fr st k = condK gS fi39 (fr.op (.tmp 12)).bool? .skip (.exit 0) fr st (.seq c39_13 k) ∧
 evK gS fi39 c39_7 fr st k = opsR gS fi39 [bop 12 .lss 3 11 10 3 0] fr st (.seq c39_9 k) ∧
 evK gS fi39 c39_5 fr st k = evK gS fi39 c39_6 fr st (.blk 0 k) ∧
 (evK gS fi39 c39_3 fr st k = opsR gS fi39 [mv 9 0 49,
 len1 10 9 49 3,
 op1 11 (.move (.const (.int .i64 0))) 3] fr st (.seq c39_5 k)) ∧
 evK gS fi39 c39_27 fr st k = opsR gS fi39 [op1 4 (.assign (.const (.bool true))) 4] fr st (.seq .ret k) ∧
 evK gS fi39 c39_2 fr st k = evK gS fi39 c39_3 fr st (.seq c39_27 k) ∧
 evK gS fi39 c39_0 fr st k = opsR gS fi39 [op1 4 (.assign (.const (.bool false))) 4] fr st (.seq c39_2 k) := ⟨evK_rs 6 rfl (by kernel_rfl), rfl, evK_rs 5 rfl (by kernel_rfl), evK_rs 4 rfl (by kernel_rfl), evK_rs 3 rfl (by kernel_rfl), evK_r 7 (by kernel_rfl), rfl, rfl, evK_rs 2 rfl (by kernel_rfl), rfl, evK_rs 1 rfl (by kernel_rfl), evK_rs 8 rfl (by kernel_rfl), rfl, evK_rs 0 rfl (by kernel_rfl)⟩
theorem m39 : mini fi39.body = c39_0 := by kernel_rfl
theorem n39_6 (fr : Fr) (st : St) (k : Kt) : nextK gS fi39 (.loop c39_7 k) .normal fr st = evK gS fi39 c39_6 fr st k := rfl
set_option maxHeartbeats 4000000 in
theorem L39_6 (f : List Pred) (l : List Attr) (h_f : POk f) (h_l : l.length < 4611686018427387904) (st : St) : ∀ (n i : Nat) (j : Int)  (e0 e6 e7 e8 : E) (T : List (Nat × E)) (X : List (Nat × List V)) (ht0 : e0.Tame) (ht6 : e6.Tame) (ht7 : e7.Tame) (ht8 : e8.Tame) , j = (i : Int) → i ≤ (f).length → (f).length - i = n →
    evK gS fi39 c39_6 { ps := [(0, e0), (1, .val (.slice (encAttrs l))), (4, .val (.bool false)), (6, e6), (7, e7), (8, e8), (9, .val (.slice (encPreds f))), (10, .val (.int .i64 f.length)), (11, .val (.int .i64 j))], ts := T, lc := X } st (.blk 0 (.seq c39_27 .nil)) = some ((.ret (.bool (ftakes (f.drop i) l)) none), st) := by
  intro n
  have hm : fi39.marks = [] := rfl
  have hl : fi39.locals = [6, 7] := rfl
  have hr : fi39.results = [.tmp 4] := rfl
  have hfl := h_f.1
  induction n with
  | zero =>
    intro i j  e0 e6 e7 e8 T X ht0 ht6 ht7 ht8  hj hi hn
    obtain rfl : i = (f).length := by omega
    subst hj
    refine evK_loop c39_7 _ st _ _ rfl ?_
    simp (config := { contextual := true, maxSteps := 10000000, maxDischargeDepth := 6 }) [-Int.not_le, -Int.not_lt, -Nat.not_le, -Nat.not_lt, ty3, ty4, ty9, ty24, ty27, ty49, ty50, eq24, hm, hl, hr, k21, k92, E39, n39_6, h_l, ht0, ht6, ht7, ht8]
    all_goals try simp (config := { contextual := true }) [-Int.not_le, -Int.not_lt, -Nat.not_le, -Nat.not_lt, ftakes]
    all_goals first | done | grind | omega | (trace_state; fail)
  | succ n ih =>
    intro i j  e0 e6 e7 e8 T X ht0 ht6 ht7 ht8  hj hi hn
    subst hj
    obtain ⟨x, hx⟩ : ∃ x, (f)[i]? = some x := ⟨(f)[i]'(by omega), List.getElem?_eq_getElem (by omega)⟩
    have hd := drop_get hx
    have hlt : (i : Int) < ((f).length : Int) := by omega
    have hlt2 : i < (f).length := by omega
    have hxe : (f)[i]'hlt2 = x := by rw [List.getElem?_eq_getElem hlt2] at hx; exact Option.some.inj hx
    have hw : IntKind.wrap .i64 ((i : Int) + 1) = (i : Int) + 1 := wrap64 (by omega) (by omega)
    have hpo := h_f.get hx
    have hxo := hpo.1
    have hxs := hpo.2
    have IH := fun e0 e6 e7 e8 T X ht0 ht6 ht7 ht8 => ih (i + 1) ((i : Int) + 1) e0 e6 e7 e8 T X ht0 ht6 ht7 ht8 rfl (by omega) (by omega)
    refine evK_loop c39_7 _ st _ _ rfl ?_
    simp (config := { contextual := true, maxSteps := 10000000, maxDischargeDepth := 6 }) [-Int.not_le, -Int.not_lt, -Nat.not_le, -Nat.not_lt, ty3, ty4, ty9, ty24, ty27, ty49, ty50, eq24, hm, hl, hr, k21, k92, E39, n39_6, h_l, ht0, ht6, ht7, ht8, hx, hxe, hd, hlt, hlt2, hw, IH, hxo, hxs]
    all_goals try simp (config := { contextual := true }) [-Int.not_le, -Int.not_lt, -Nat.not_le, -Nat.not_lt, ftakes]
    all_goals first | done | grind | omega | (trace_state; fail)
set_option maxHeartbeats 4000000 in
theorem c39 (f : List Pred) (l : List Attr) (h_f : POk f) (h_l : l.length < 4611686018427387904) (st : St) : EvF gS 39 [.slice (encPreds f), .slice (encAttrs l)] st = some (.ret (.bool (ftakes f l)) none, st) := by
  refine EvF_start fi39_eq (fun x h => by cases h) m39 ?_
  rw [st39]
  have hm : fi39.marks = [] := rfl
  have hl : fi39.locals = [6, 7] := rfl
  have hr : fi39.results = [.tmp 4] := rfl
  have hfl := h_f.1
  simp (config := { contextual := true, maxSteps := 10000000, maxDischargeDepth := 6 }) [-Int.not_le, -Int.not_lt, -Nat.not_le, -Nat.not_lt, ty3, ty4, ty9, ty24, ty27, ty49, ty50, eq24, hm, hl, hr, k21, k92, E39, n39_6, (fun e0 e6 e7 e8 T X ht0 ht6 ht7 ht8 => L39_6 f l h_f h_l st _ 0 0  e0 e6 e7 e8 T X ht0 ht6 ht7 ht8 rfl (Nat.zero_le _) rfl), hfl]
  all_goals try simp (config := { contextual := true }) [-Int.not_le, -Int.not_lt, -Nat.not_le, -Nat.not_lt, ftakes]
  all_goals first | done | grind | omega | (trace_state; fail)
theorem k39 (f : List Pred) (l : List Attr) (h_f : POk f) (h_l : l.length < 4611686018427387904) (fr : Fr) (st : St) : callStep gS (EvF gS) 39 [.slice (encPreds f), .slice (encAttrs l)] fr st = some (.ok (retE none (.bool (ftakes f l))) fr st) :=
  call_pure rfl fi39_eq rfl (fun st => c39 f l h_f h_l st) (by simp)
theorem x39 : gS.ext 39 = none := rfl
theorem p39 : fi39.pure = true := rfl
def fi41 : FI := { body := codeOf Try.f41, ntmps := 27, results := [.tmp 4], pers := [0, 1, 4, 5, 12, 13], locals := [], pure := true, marks := [] }
theorem fi41_eq : gS.fn 41 = some fi41 := by kernel_rfl
theorem st41 (a0 a1 : V) : startFr fi41 [a0, a1] = { ps := [(0, .val a0), (1, .val a1), (4, .any), (5, .any), (12, .any), (13, .any)], ts := [], lc := [] } := rfl
def b41 : Code := mini (codeOf Try.f41)
def c41_6 : Code := .seq (codeN b41 37) .ret
def c41_5 : Code := .cond (.tmp 10) c41_6 .skip
def c41_3 : Code := .seq (codeN b41 9) c41_5
def r41_26 : Array Oper := regOps (codeN (codeOf Try.f41) 5323)
def c41_26 : Code := .region 6 r41_26 true
def q41_26 : List (Oper × Fl) := [(mv 16 0 49, ⟨true, false, true, false, false, false, true, true, false, false, []⟩),
 (mv 17 5 3, ⟨true, false, true, false, false, false, true, true, false, false, []⟩),
 (ixa 18 49 16 17 0, ⟨true, false, true, false, false, false, true, true, false, false, []⟩),
 (ld 19 27 18 27, ⟨true, false, true, false, false, false, true, true, false, false, []⟩),
 (mv 20 1 49, ⟨true, false, true, false, false, false, true, true, false, false, []⟩),
 (mv 21 5 3, ⟨true, false, true, false, true, false, true, true, false, false, []⟩),
 (ixa 22 49 20 21 0, ⟨true, false, true, false, true, false, true, true, false, false, []⟩),
 (ld 23 27 22 27, ⟨true, false, true, false, true, false, true, true, false, false, []⟩),
 (cal 24 25 [(.tmp 19), (.tmp 23)] [27, 27] 4, ⟨true, true, true, false, true, true, true, true, false, false, []⟩),
 (op1 25 (.unOp .not 4 (.tmp 24)) 4, ⟨true, true, true, false, true, false, true, true, false, false, []⟩)]
def c41_28 : Code := .seq (codeN b41 19659) .ret
def c41_27 : Code := .cond (.tmp 25) c41_28 .skip
def c41_25 : Code := .seq c41_26 c41_27
def c41_23 : Code := .seq (codeN b41 2251) c41_25
def c41_32 : Code := codeN b41 971
def c41_21 : Code := .seq (.block 1 c41_23) c41_32
def c41_17 : Code := .seq (.cond (.tmp 14) .skip (.exit 0)) c41_21
def c41_15 : Code := .seq (codeN b41 139) c41_17
def c41_14 : Code := .loop c41_15
def c41_13 : Code := .block 0 c41_14
def c41_11 : Code := .seq (codeN b41 19) c41_13
def c41_33 : Code := .seq (codeN b41 23) .ret
def c41_10 : Code := .seq c41_11 c41_33
def c41_2 : Code := .seq c41_3 c41_10
def c41_0 : Code := .seq (codeN b41 2) c41_2
theorem E41 : evK gS fi41 c41_6 fr st k = opsR gS fi41 [op1 4 (.assign (.const (.bool false))) 4] fr st (.seq .ret k) ∧
 evK gS fi41 c41_5 fr st k = condK gS fi41 (fr.op (.tmp 10)).bool? c41_6 .skip fr st k ∧
 (evK gS fi41 c41_3 fr st k = opsR gS fi41 [mv 6 0 49,
 len1 7 6 49 3,
 mv 8 1 49,
 len1 9 8 49 3,
 bop 10 .neq 3 7 9 3 4] fr st (.seq c41_5 k)) ∧
 evK gS fi41 c41_26 fr st k = drwR gS fi41 r41_26 q41_26 fr st k ∧
 evK gS fi41 c41_28 fr st k = opsR gS fi41 [op1 4 (.assign (.const (.bool false))) 4] fr st (.seq .ret k) ∧
 evK gS fi41 c41_27 fr st k = condK gS fi41 (fr.op (.tmp 25)).bool? c41_28 .skip fr st k ∧
 evK gS fi41 c41_25 fr st k = evK gS fi41 c41_26 fr st (.seq c41_27 k) ∧
 (evK gS fi41 c41_23 fr st k = opsR gS fi41 [mv 15 13 3,
 asn 5 15 3] fr st (.seq c41_25 k)) ∧
 (evK gS fi41 c41_32 fr st k = opsR gS fi41 [op1 26 (.binOp .add 3 (.tmp 13) (.const (.int .i64 1)) 3) 3,
 mv 13 26 3] fr st k) ∧
 evK gS fi41 c41_21 fr st k = evK gS fi41 c41_23 fr st (.blk 1 (.seq c41_32 k)) ∧
 evK gS fi41 c41_17 fr st k = condK gS fi41 (fr.op (.tmp 14)).bool? .skip (.exit 0) fr st (.seq c41_21 k) ∧
 evK gS fi41 c41_15 fr st k = opsR gS fi41 [bop 14 .lss 3 13 12 3 0] fr st (.seq c41_17 k) ∧
 evK gS fi41 c41_13 fr st k = evK gS fi41 c41_14 fr st (.blk 0 k) ∧
 (evK gS fi41 c41_11 fr st k = opsR gS fi41 [mv 11 0 49,
 len1 12 11 49 3,
 op1 13 (.move (.const (.int .i64 0))) 3] fr st (.seq c41_13 k)) ∧
 evK gS fi41 c41_33 fr st k = opsR gS fi41 [op1 4 (.assign (.const (.bool true))) 4] fr st (.seq .ret k) ∧
 evK gS fi41 c41_10 fr st k = evK gS fi41 c41_11 fr st (.seq c41_33 k) ∧
 evK gS fi41 c41_2 fr st k = evK gS fi41 c41_3 fr st (.seq c41_10 k) ∧
 evK gS fi41 c41_0 fr st k = opsR gS fi41 [op1 4 (.assign (.const (.bool false))) 4] fr st (.seq c41_2 k) := ⟨evK_rs 2 rfl (by kernel_rfl), rfl, evK_rs 1 rfl (by kernel_rfl), evK_dr 6 rfl (by kernel_rfl) (by kernel_rfl), evK_rs 7 rfl (by kernel_rfl), rfl, rfl, evK_rs 5 rfl (by kernel_rfl), evK_r 8 (by kernel_rfl), rfl, rfl, evK_rs 4 rfl (by kernel_rfl), rfl, evK_rs 3 rfl (by kernel_rfl), evK_rs 9 rfl (by kernel_rfl), rfl, rfl, evK_rs 0 rfl (by kernel_rfl)⟩
theorem m41 : mini fi41.body = c41_0 := by kernel_rfl
theorem n41_14 (fr : Fr) (st : St) (k : Kt) : nextK gS fi41 (.loop c41_15 k) .normal fr st = evK gS fi41 c41_14 fr st k := rfl
set_option maxHeartbeats 4000000 in
theorem L41_14 (f : List Pred) (g : List Pred) (h_f : POk f) (h_g : POk g) (st : St) : ∀ (n i : Nat) (j : Int) (m : Int) (e5 : E) (T : List (Nat × E)) (X : List (Nat × List V)) (ht5 : e5.Tame) (hlen : f.length = g.length) (hm12 : m = ((f.length : Nat) : Int)), j = (i : Int) → i ≤ (f).length → (f).length - i = n →
    evK gS fi41 c41_14 { ps := [(0, .val (.slice (encPreds f))), (1, .val (.slice (encPreds g))), (4, .val (.bool false)), (5, e5), (12, .val (.int .i64 m)), (13, .val (.int .i64 j))], ts := T, lc := X } st (.blk 0 (.seq c41_33 .nil)) = some ((.ret (.bool (fsames (f.drop i) (g.drop i))) none), st) := by
  intro n
  have hm : fi41.marks = [] := rfl
  have hl : fi41.locals = [] := rfl
  have hr : fi41.results = [.tmp 4] := rfl
  have hfl := h_f.1
  induction n with
  | zero =>
    intro i j m e5 T X ht5 hlen hm12 hj hi hn
    obtain rfl : i = (f).length := by omega
    subst hj
    subst hm12
    have hz : g.drop f.length = [] := List.drop_eq_nil_of_le (by omega)
    refine evK_loop c41_15 _ st _ _ rfl ?_
    simp (config := { contextual := true, maxSteps := 10000000, maxDischargeDepth := 6 }) [-Int.not_le, -Int.not_lt, -Nat.not_le, -Nat.not_lt, ty3, ty4, ty27, ty49, hm, hl, hr, k25, x25, fi25_eq, p25, E41, q41_26, n41_14, ht5, hz]
    all_goals try simp (config := { contextual := true }) [-Int.not_le, -Int.not_lt, -Nat.not_le, -Nat.not_lt, fsames]
    all_goals first | done | grind | omega | (trace_state; fail)
  | succ n ih =>
    intro i j m e5 T X ht5 hlen hm12 hj hi hn
    subst hj
    obtain ⟨x, hx⟩ : ∃ x, (f)[i]? = some x := ⟨(f)[i]'(by omega), List.getElem?_eq_getElem (by omega)⟩
    have hd := drop_get hx
    have hlt : (i : Int) < ((f).length : Int) := by omega
    have hlt2 : i < (f).length := by omega
    have hxe : (f)[i]'hlt2 = x := by rw [List.getElem?_eq_getElem hlt2] at hx; exact Option.some.inj hx
    have hw : IntKind.wrap .i64 ((i : Int) + 1) = (i : Int) + 1 := wrap64 (by omega) (by omega)
    subst hm12
    have hpo := h_f.get hx
    have hxo := hpo.1
    have hxs := hpo.2
    obtain ⟨y, hy⟩ : ∃ y, (g)[i]? = some y := ⟨(g)[i]'(by omega), List.getElem?_eq_getElem (by omega)⟩
    have hyd := drop_get hy
    have hyl : i < (g).length := by omega
    have hye : (g)[i]'hyl = y := by rw [List.getElem?_eq_getElem hyl] at hy; exact Option.some.inj hy
    have hpy := h_g.get hy
    have hyo := hpy.1
    have hys := hpy.2
    have IH := fun m e5 T X ht5 hlen hm12 => ih (i + 1) ((i : Int) + 1) m e5 T X ht5 hlen hm12 rfl (by omega) (by omega)
    refine evK_loop c41_15 _ st _ _ rfl ?_
    simp (config := { contextual := true, maxSteps := 10000000, maxDischargeDepth := 6 }) [-Int.not_le, -Int.not_lt, -Nat.not_le, -Nat.not_lt, ty3, ty4, ty27, ty49, hm, hl, hr, k25, x25, fi25_eq, p25, E41, q41_26, n41_14, ht5, hx, hxe, hd, hlt, hlt2, hw, IH, hy, hye, hyd, hlen, hxo, hxs, hyo, hys]
    all_goals try simp (config := { contextual := true }) [-Int.not_le, -Int.not_lt, -Nat.not_le, -Nat.not_lt, fsames]
    all_goals first | done | grind | omega | (trace_state; fail)
set_option maxHeartbeats 4000000 in
theorem c41 (f : List Pred) (g : List Pred) (h_f : POk f) (h_g : POk g) (st : St) : EvF gS 41 [.slice (encPreds f), .slice (encPreds g)] st = some (.ret (.bool (fsame f g)) none, st) := by
  refine EvF_start fi41_eq (fun x h => by cases h) m41 ?_
  rw [st41]
  have hm : fi41.marks = [] := rfl
  have hl : fi41.locals = [] := rfl
  have hr : fi41.results = [.tmp 4] := rfl
  have hfl := h_f.1
  simp (config := { contextual := true, maxSteps := 10000000, maxDischargeDepth := 6 }) [-Int.not_le, -Int.not_lt, -Nat.not_le, -Nat.not_lt, ty3, ty4, ty27, ty49, hm, hl, hr, k25, x25, fi25_eq, p25, E41, q41_26, n41_14, (fun m e5 T X ht5 hlen hm12 => L41_14 f g h_f h_g st _ 0 0  m e5 T X ht5 hlen hm12 rfl (Nat.zero_le _) rfl), hfl]
  all_goals try simp (config := { contextual := true }) [-Int.not_le, -Int.not_lt, -Nat.not_le, -Nat.not_lt, fsame]
  all_goals first | done | grind | omega | (trace_state; fail)
theorem k41 (f : List Pred) (g : List Pred) (h_f : POk f) (h_g : POk g) (fr : Fr) (st : St) : callStep gS (EvF gS) 41 [.slice (encPreds f), .slice (encPreds g)] fr st = some (.ok (retE none (.bool (fsame f g))) fr st) :=
  call_pure rfl fi41_eq rfl (fun st => c41 f g h_f h_g st) (by simp)
end
end Go.Proofs.Ytclpbfkbpcjejaa
namespace Go.Ab
open Go
set_option linter.unusedVariables false
set_option linter.unusedSimpArgs false
set_option linter.unnecessarySimpa false
/-- A state with one new object, nothing else said of it. -/
theorem nw_obj (st : St) (m : Nat) (cs : List V) : St.obj (nw st m cs) (st.objs.length + m) = some cs := gr_obj st m cs
theorem nw_set {st : St} (h : st.wp ≤ st.objs.length) (m : Nat) (cs cs' : List V) : St.set (nw st m cs) (st.objs.length + m) cs' = some (nw st m cs') := by
  unfold St.set
  rw [if_pos (by rw [gr_wp]; omega)]
  unfold nw
  simp only [Option.some.injEq, St.mk.injEq, and_true]
  rw [List.set_append_right _ _ (by omega), Nat.add_sub_cancel_left, List.set_append_right _ _ (by simp), List.length_replicate, Nat.sub_self]
  rfl
theorem nw_dead (st : St) (m : Nat) : nw st m [] = dd st (m + 1) := by
  unfold nw dd
  rw [List.replicate_succ']
theorem nw_kill {st : St} (h : st.wp ≤ st.objs.length) (m : Nat) (cs : List V) : St.set (nw st m cs) (st.objs.length + m) [] = some (dd st (m + 1)) := by
  rw [nw_set h, nw_dead]
theorem newRef_0 (st : St) (fr : Fr) (k len : Nat) (cs : List V) : newRef fr st k len cs = .ok (.val (.sref false k st.objs.length 0 len)) fr (nw st 0 cs) := by
  unfold newRef nw
  simp
variable {α : Type}
theorem row_len (c : α → List V) (k : Nat) (hc : ∀ x, (c x).length = k) : ∀ l : List α, (l.flatMap c).length = l.length * k
  | [] => by simp
  | x :: r => by rw [List.flatMap_cons, List.length_append, hc, row_len c k hc r, List.length_cons, Nat.succ_mul]; omega
theorem row_get (c : α → List V) (k : Nat) (hc : ∀ x, (c x).length = k) {l : List α} {i j : Nat} {x : α} (hx : l[i]? = some x) (hj : j < k) : (l.flatMap c)[i * k + j]? = (c x)[j]? := by
  have hs : l = l.take i ++ x :: l.drop (i + 1) := by
    have h1 := List.take_append_drop i l
    rw [drop_get hx] at h1
    exact h1.symm
  have hl : (l.take i).length = i := by
    have := (List.getElem?_eq_some_iff.1 hx).1
    simp; omega
  rw [hs, List.flatMap_append, List.getElem?_append_right (by rw [row_len c k hc, hl]; omega), row_len c k hc, hl, Nat.add_sub_cancel_left, List.flatMap_cons, List.getElem?_append_left (by rw [hc]; exact hj)]
/-- One place of one of them. -/
theorem row_splice (c : α → List V) (k : Nat) (hc : ∀ x, (c x).length = k) {l : List α} {i j : Nat} {x y : α} {vs : List V} (hx : l[i]? = some x) (hs : splice (c x) j vs = some (c y)) :
    splice (l.flatMap c) (i * k + j) vs = some ((l.set i y).flatMap c) := by
  have hil := (List.getElem?_eq_some_iff.1 hx).1
  have hsl : l = l.take i ++ x :: l.drop (i + 1) := by
    have h1 := List.take_append_drop i l
    rw [drop_get hx] at h1
    exact h1.symm
  have hl : (l.take i).length = i := by simp; omega
  have hset : l.set i y = l.take i ++ y :: l.drop (i + 1) := by
    conv => lhs; rw [hsl]
    rw [List.set_append_right _ _ (by rw [hl]; omega), hl, Nat.sub_self]
    rfl
  have hA : ((l.take i).flatMap c).length = i * k := by rw [row_len c k hc, hl]
  unfold splice at hs ⊢
  split at hs
  · rename_i hle
    have hs' := Option.some.inj hs
    rw [hc] at hle
    rw [hset, List.flatMap_append, List.flatMap_cons, ← hs']
    conv => lhs; rw [hsl]
    rw [List.flatMap_append, List.flatMap_cons]
    generalize (l.take i).flatMap c = A at hA ⊢
    generalize (l.drop (i + 1)).flatMap c = C
    have hB := hc x
    generalize c x = B at hB hs' ⊢
    rw [if_pos (by simp only [List.length_append]; omega)]
    congr 1
    rw [← hA, List.take_append, List.take_of_length_le (by omega), Nat.add_sub_cancel_left, List.take_append_of_le_length (by omega), List.drop_append, List.drop_of_length_le (by omega), show A.length + j + vs.length - A.length = j + vs.length by omega, List.drop_append_of_le_length (by omega)]
    simp [List.append_assoc]
  · cases hs
theorem row_one (c : α → List V) (hc : ∀ x, (c x).all V.one = true) : ∀ l : List α, (l.flatMap c).all V.one = true
  | [] => rfl
  | x :: r => by rw [List.flatMap_cons, List.all_append, hc x, row_one c hc r]; rfl
theorem flats_append : ∀ (a b : List V), flats (a ++ b) = (flats a && flats b)
  | [], _ => by simp [flats]
  | v :: a, b => by simp only [List.cons_append, flats, flats_append a b, Bool.and_assoc]
theorem row_flats (c : α → List V) (hc : ∀ x, flats (c x) = true) : ∀ l : List α, flats (l.flatMap c) = true
  | [] => rfl
  | x :: r => by rw [List.flatMap_cons, flats_append, hc x, row_flats c hc r]; rfl
theorem row_strip (c d : α → List V) (hc : ∀ x, (c x).map V.strip1 = d x) : ∀ l : List α, (l.flatMap c).map V.strip1 = l.flatMap d
  | [] => rfl
  | x :: r => by rw [List.flatMap_cons, List.map_append, hc x, row_strip c d hc r, List.flatMap_cons]
/-- A row of elements is given up. -/
theorem frz_row {st st1 : St} (n id k : Nat) (hk : 0 < k) (c d : α → List V) (hc : ∀ x, (c x).length = k) (hd : ∀ x, (d x).length = k) (hcd : ∀ x, (c x).map V.strip1 = d x) (h1 : ∀ x, (d x).all V.one = true) (hf : ∀ x, flats (d x) = true)
    (l : List α) (hl : l ≠ []) (ho : St.obj st id = some (l.flatMap c)) (hs : St.set st id [] = some st1) : frz (n + 1) st (.sref false k id 0 l.length) = some (.slice (chunk (Nat.blt 1 k) k l.length (l.flatMap d)), st1) := by
  have hne : ¬ l.length = 0 := by simpa using hl
  unfold frz
  simp only [hne, if_false, ho, hs, row_len c k hc, List.drop_zero, Nat.zero_add, Nat.le_refl, and_true, hk, if_true]
  rw [List.take_of_length_le (by rw [row_len c k hc]; omega), row_strip c d hcd, frzL_flat _ _ _ (row_flats d hf l)]
  simp only [row_len d k hd, row_one d h1 l, and_self, if_true]
/-- A test's cells, its values in room of their own. -/
def Pred.cellsO (q : Pred × Bool) : List V := [.str q.1.name, .int .i64 q.1.test, .int .i64 q.1.v.kind, .int .i64 q.1.v.n, .float .f64 q.1.v.x, .str q.1.v.s, .bool q.1.v.b, .int .i64 q.1.w.kind, .int .i64 q.1.w.n, .float .f64 q.1.w.x, .str q.1.w.s, .bool q.1.w.b, if q.2 then .osl 5 (encVals q.1.set) else .slice (encVals q.1.set)]
theorem cellsO_len (q : Pred × Bool) : (Pred.cellsO q).length = 13 := rfl
theorem cells_len (q : Pred × Bool) : (Pred.cells q.1).length = 13 := rfl
theorem cellsO_strip (q : Pred × Bool) : (Pred.cellsO q).map V.strip1 = Pred.cells q.1 := by
  obtain ⟨p, b⟩ := q
  cases b <;> rfl
theorem cells_one (q : Pred × Bool) : (Pred.cells q.1).all V.one = true := rfl
theorem cells_flats (q : Pred × Bool) : flats (Pred.cells q.1) = true := by simp [flats, V.flat]
theorem chunk_preds : ∀ (l : List (Pred × Bool)), chunk true 13 l.length (l.flatMap fun q => Pred.cells q.1) = encPreds (l.map (·.1))
  | [] => rfl
  | x :: r => by
    rw [List.length_cons, chunk, List.flatMap_cons, List.take_left' (cells_len x), List.drop_left' (cells_len x), chunk_preds r]; rfl
/-- A call of a function of plain values, whatever it lays aside. -/
theorem call_pure' {g : G} {f : Nat} {args : List V} {fr : Fr} {st : St} {fi : FI} {v : V} {k : Option Nat} (hx : g.ext f = none) (hf : g.fn f = some fi) (hp : fi.pure = true) (ha : flats args = true)
    (h : ∃ st', EvF g f args ⟨[], 0⟩ = some (.ret v k, st')) (hv : v.flat = true) : callStep g (EvF g) f args fr st = some (.ok (retE k v) fr st) := by
  obtain ⟨st', h⟩ := h
  unfold callStep
  simp only [hx, hf, hp, if_true, ha, h, hv]
end Go.Ab
namespace Go.Proofs.Ytclpbfkbpcjejaa
open Go Go.Ab
set_option linter.unusedVariables false
set_option linter.unusedSimpArgs false
set_option linter.unnecessarySimpa false
set_option maxRecDepth 20000
noncomputable section
variable (fr : Fr) (st : St) (k : Kt)
theorem preds_cells (f : List Pred) : (encPreds f).flatMap V.cells = (f.map fun p => (p, false)).flatMap Pred.cellsO := by
  induction f with
  | nil => rfl
  | cons x r ih => simp only [encPreds, List.map_cons, List.flatMap_cons] at ih ⊢; rw [ih]; rfl
theorem map_fst (f : List Pred) : (f.map fun p => (p, false)).map (·.1) = f := by induction f with
  | nil => rfl
  | cons x r ih => simp only [List.map_cons, ih]
theorem sizes_vals (l : List Val) : sizesOk 5 (encVals l) = true := by
  induction l with
  | nil => rfl
  | cons x r ih => simp only [encVals, List.map_cons, sizesOk] at ih ⊢; rw [ih]; rfl
theorem sizes_preds (l : List Pred) : sizesOk 13 (encPreds l) = true := by
  induction l with
  | nil => rfl
  | cons x r ih => simp only [encPreds, List.map_cons, sizesOk] at ih ⊢; rw [ih]; rfl
/-- Of a size that may be copied. -/
def PSm (f : List Pred) : Prop := f.length ≤ 1000000 ∧ ∀ p ∈ f, p.name.length < 4611686018427387904 ∧ p.set.length * 48 ≤ 140737488355328
theorem PSm.ok {f : List Pred} (h : PSm f) : POk f := ⟨by have := h.1; omega, fun p hp => ⟨(h.2 p hp).1, by have := (h.2 p hp).2; omega⟩⟩
def fi45 : FI := { body := codeOf Try.f45, ntmps := 24, results := [.tmp 2], pers := [0, 2, 3, 4, 8, 9], locals := [], pure := true, marks := [6, 1000000] }
theorem fi45_eq : gS.fn 45 = some fi45 := by kernel_rfl
theorem st45 (a0 : V) : startFr fi45 [a0] = { ps := [(0, .val a0), (2, .any), (3, .any), (4, .any), (8, .any), (9, .any)], ts := [], lc := [] } := rfl
def b45 : Code := mini (codeOf Try.f45)
def c45_19 : Code := codeN b45 3275
def c45_17 : Code := .seq (codeN b45 2251) c45_19
def c45_20 : Code := codeN b45 971
def c45_15 : Code := .seq (.block 1 c45_17) c45_20
def c45_11 : Code := .seq (.cond (.tmp 10) .skip (.exit 0)) c45_15
def c45_9 : Code := .seq (codeN b45 139) c45_11
def c45_8 : Code := .loop c45_9
def c45_7 : Code := .block 0 c45_8
def c45_5 : Code := .seq (codeN b45 19) c45_7
def c45_21 : Code := .seq (codeN b45 23) .ret
def c45_4 : Code := .seq c45_5 c45_21
def c45_2 : Code := .seq (codeN b45 5) c45_4
def c45_0 : Code := .seq (codeN b45 2) c45_2
theorem E45 : (evK gS fi45 c45_19 fr st k = opsR gS fi45 [mv 12 3 49,
 mv 13 4 3,
 mv 14 3 49,
 mv 15 4 3,
 ixa 16 49 14 15 0,
 op1 17 (.fieldAddr 27 (.tmp 16) 4) 0,
 ld 18 25 17 25,
 op1 19 (.call { callee := (.builtin .append), args := #[(.const (.slice none 0 0)), (.tmp 18)], argTypes := #[25, 25] }) 25,
 ixa 20 49 12 13 0,
 op1 21 (.fieldAddr 27 (.tmp 20) 4) 0,
 sto 25 21 19] fr st k) ∧
 (evK gS fi45 c45_17 fr st k = opsR gS fi45 [mv 11 9 3,
 asn 4 11 3] fr st (.seq c45_19 k)) ∧
 (evK gS fi45 c45_20 fr st k = opsR gS fi45 [op1 22 (.binOp .add 3 (.tmp 9) (.const (.int .i64 1)) 3) 3,
 mv 9 22 3] fr st k) ∧
 evK gS fi45 c45_15 fr st k = evK gS fi45 c45_17 fr st (.blk 1 (.seq c45_20 k)) ∧
 evK gS fi45 c45_11 fr st k = condK gS fi45 (fr.op (.tmp 10)).bool? .skip (.exit 0) fr st (.seq c45_15 k) ∧
 evK gS fi45 c45_9 fr st k = opsR gS fi45 [bop 10 .lss 3 9 8 3 0] fr st (.seq c45_11 k) ∧
 evK gS fi45 c45_7 fr st k = evK gS fi45 c45_8 fr st (.blk 0 k) ∧
 (evK gS fi45 c45_5 fr st k = opsR gS fi45 [mv 7 3 49,
 len1 8 7 49 3,
 op1 9 (.move (.const (.int .i64 0))) 3] fr st (.seq c45_7 k)) ∧
 (evK gS fi45 c45_21 fr st k = opsR gS fi45 [mv 23 3 49,
 asn 2 23 49] fr st (.seq .ret k)) ∧
 evK gS fi45 c45_4 fr st k = evK gS fi45 c45_5 fr st (.seq c45_21 k) ∧
 (evK gS fi45 c45_2 fr st k = opsR gS fi45 [mv 5 0 49,
 op1 6 (.call { callee := (.builtin .append), args := #[(.const (.slice none 0 0)), (.tmp 5)], argTypes := #[49, 49] }) 49,
 asn 3 6 49] fr st (.seq c45_4 k)) ∧
 evK gS fi45 c45_0 fr st k = opsR gS fi45 [op1 2 (.assign (.const (.slice none 0 0))) 49] fr st (.seq c45_2 k) := ⟨evK_r 5 (by kernel_rfl), evK_rs 4 rfl (by kernel_rfl), evK_r 6 (by kernel_rfl), rfl, rfl, evK_rs 3 rfl (by kernel_rfl), rfl, evK_rs 2 rfl (by kernel_rfl), evK_rs 7 rfl (by kernel_rfl), rfl, evK_rs 1 rfl (by kernel_rfl), evK_rs 0 rfl (by kernel_rfl)⟩
theorem m45 : mini fi45.body = c45_0 := by kernel_rfl
theorem n45_8 (fr : Fr) (st : St) (k : Kt) : nextK gS fi45 (.loop c45_9 k) .normal fr st = evK gS fi45 c45_8 fr st k := rfl
set_option maxHeartbeats 8000000 in
theorem L45_8 (f : List Pred) (h_f : PSm f) (hne : f ≠ []) (st : St) (hst : st.wp ≤ st.objs.length) : ∀ (n i : Nat) (l : List (Pred × Bool)) (e0 e4 : E) (T : List (Nat × E)) (X : List (Nat × List V)) (ht0 : e0.Tame) (ht4 : e4.Tame), l.map (·.1) = f → i ≤ f.length → f.length - i = n →
    evK gS fi45 c45_8 { ps := [(0, e0), (2, .own 0 []), (3, .val (.sref false 13 st.objs.length 0 f.length)), (4, e4), (8, .val (.int .i64 f.length)), (9, .val (.int .i64 i))], ts := T, lc := X } (nw st 0 (l.flatMap Pred.cellsO)) (.blk 0 (.seq c45_21 .nil)) = some (.ret (.slice (encPreds f)) none, dd st 1) := by
  intro n
  have hm : fi45.marks = [6, 1000000] := rfl
  have hl : fi45.locals = [] := rfl
  have hr : fi45.results = [.tmp 2] := rfl
  have hfl := h_f.1
  induction n with
  | zero =>
    intro i l e0 e4 T X ht0 ht4 hl hi hn
    obtain rfl : i = f.length := by omega
    have hll : l.length = f.length := by rw [← hl]; simp
    have hfz := frz_row (st := nw st 0 (l.flatMap Pred.cellsO)) 5 st.objs.length 13 (by omega) Pred.cellsO (fun q => Pred.cells q.1) cellsO_len cells_len cellsO_strip cells_one cells_flats l (by intro e; subst e; exact hne hl.symm) (nw_obj st 0 _) (nw_kill hst 0 _)
    rw [hll, show Nat.blt 1 13 = true from rfl, ← hll, chunk_preds, hl, hll] at hfz
    refine evK_loop c45_9 _ _ _ _ rfl ?_
    simp [ht0, ht4, hfz, -Int.not_le, -Int.not_lt, -Nat.not_le, -Nat.not_lt, ty3, ty25, ty27, ty49, hm, hl, hr, E45, n45_8]
  | succ n ih =>
    intro i l e0 e4 T X ht0 ht4 hl hi hn
    have hll : l.length = f.length := by rw [← hl]; simp
    obtain ⟨q, hq⟩ : ∃ q, l[i]? = some q := ⟨l[i]'(by omega), List.getElem?_eq_getElem (by omega)⟩
    have hlt : (i : Int) < (f.length : Int) := by omega
    have hlt2 : i < f.length := by omega
    have hw : IntKind.wrap .i64 ((i : Int) + 1) = ((i + 1 : Nat) : Int) := by rw [wrap64 (by omega) (by omega)]; omega
    have hqm : q.1 ∈ f := by rw [← hl]; exact List.mem_map.2 ⟨q, List.mem_of_getElem? hq, rfl⟩
    have hqs := (h_f.2 q.1 hqm).2
    have hqs2 : q.1.set.length ≤ 140737488355328 := by omega
    have hob := nw_obj st 0 (l.flatMap Pred.cellsO)
    have hget := row_get Pred.cellsO 13 cellsO_len hq (j := 12) (by omega)
    have hspl := row_splice Pred.cellsO 13 cellsO_len (j := 12) (y := (q.1, true)) (vs := [.osl 5 (encVals q.1.set)]) hq rfl
    have hset := nw_set hst 0 (l.flatMap Pred.cellsO) ((l.set i (q.1, true)).flatMap Pred.cellsO)
    have hl2 : (l.set i (q.1, true)).map (·.1) = f := by
      rw [List.map_set, hl]
      apply List.ext_getElem?
      intro j
      rw [List.getElem?_set]
      split
      · rename_i hj; subst hj
        rw [← hl, List.getElem?_map, hq]
        rfl
      · rfl
    have IH := fun e0 e4 T X ht0 ht4 => ih (i + 1) (l.set i (q.1, true)) e0 e4 T X ht0 ht4 hl2 (by omega) (by omega)
    rw [Nat.add_zero] at hob hset
    have hsz := sizes_vals q.1.set
    obtain ⟨p, b⟩ := q
    refine evK_loop c45_9 _ _ _ _ rfl ?_
    simp only [Pred.cellsO] at hget
    cases b with
    | true =>
      simp only [List.getElem?_cons_succ, List.getElem?_cons_zero, if_true] at hget
      simp [-Int.natCast_add, -St.obj, -St.set, -splice, ht0, ht4, hlt, hlt2, hw, hob, hget, hspl, hset, hqs, hqs2, hsz, IH, -Int.not_le, -Int.not_lt, -Nat.not_le, -Nat.not_lt, ty3, ty25, ty27, ty49, hm, hl, hr, E45, n45_8]
    | false =>
      simp only [List.getElem?_cons_succ, List.getElem?_cons_zero, Bool.false_eq_true, if_false] at hget
      simp [-Int.natCast_add, -St.obj, -St.set, -splice, ht0, ht4, hlt, hlt2, hw, hob, hget, hspl, hset, hqs, hqs2, hsz, IH, -Int.not_le, -Int.not_lt, -Nat.not_le, -Nat.not_lt, ty3, ty25, ty27, ty49, hm, hl, hr, E45, n45_8]
set_option maxHeartbeats 8000000 in
theorem c45 (f : List Pred) (h_f : PSm f) (st : St) (hst : st.wp ≤ st.objs.length) : ∃ st', EvF gS 45 [.slice (encPreds f)] st = some (.ret (.slice (encPreds f)) none, st') := by
  have hm : fi45.marks = [6, 1000000] := rfl
  have hl : fi45.locals = [] := rfl
  have hr : fi45.results = [.tmp 2] := rfl
  by_cases hne : f = []
  · refine ⟨st, ?_⟩
    refine EvF_start fi45_eq (fun x h => by cases h) m45 ?_
    rw [st45]
    subst hne
    have hz : ∀ st, frz 6 st (.sref true 0 0 0 0) = some (.slice [], st) := fun st => frz_nil 5 st
    simp [markStep, markAppend, elemsAt, encPreds, -Int.not_le, -Int.not_lt, -Nat.not_le, -Nat.not_lt, ty3, ty25, ty27, ty49, hm, hl, hr, E45, n45_8]
    refine evK_loop c45_9 _ _ _ _ rfl ?_
    simp [hz, -Int.not_le, -Int.not_lt, -Nat.not_le, -Nat.not_lt, ty3, ty25, ty27, ty49, hm, hl, hr, E45, n45_8]
  · refine ⟨dd st 1, ?_⟩
    refine EvF_start fi45_eq (fun x h => by cases h) m45 ?_
    rw [st45]
    have hfl := h_f.1
    have hfe : (encPreds f).isEmpty = false := by cases f with | nil => exact absurd rfl hne | cons _ _ => rfl
    have hpc := preds_cells f
    have hsp := sizes_preds f
    have h1 : f.length * 144 ≤ 140737488355328 := by omega
    have h2 : f.length ≤ 140737488355328 := by omega
    have hnr := fun fr k len cs => newRef_0 st fr k len cs
    have L0 := fun e0 e4 T X ht0 ht4 => L45_8 f h_f hne st hst f.length 0 (f.map fun p => (p, false)) e0 e4 T X ht0 ht4 (map_fst f) (Nat.zero_le _) rfl
    simp only [show ((0 : Nat) : Int) = 0 from rfl] at L0
    simp [-St.obj, -St.set, hfe, hpc, hsp, h1, h2, hnr, L0, markStep, markAppend, elemsAt, hne, -Int.not_le, -Int.not_lt, -Nat.not_le, -Nat.not_lt, ty3, ty25, ty27, ty49, hm, hl, hr, E45, n45_8]
    all_goals first | done | skip
end
end Go.Proofs.Ytclpbfkbpcjejaa
namespace Go.Ab
open Go
set_option linter.unusedVariables false
set_option linter.unusedSimpArgs false
set_option linter.unnecessarySimpa false
section
variable {α : Type}
theorem row_drop (c : α → List V) (k : Nat) (hc : ∀ x, (c x).length = k) : ∀ (l : List α) (i : Nat), (l.flatMap c).drop (i * k) = (l.drop i).flatMap c
  | [], i => by simp
  | x :: r, 0 => by simp
  | x :: r, i + 1 => by
    rw [List.flatMap_cons, List.drop_succ_cons, ← row_drop c k hc r i, List.drop_append, hc, List.drop_of_length_le (by rw [hc, Nat.succ_mul]; omega), List.nil_append, Nat.succ_mul, Nat.add_sub_cancel]
theorem row_take (c : α → List V) (k : Nat) (hc : ∀ x, (c x).length = k) : ∀ (l : List α) (i : Nat), (l.flatMap c).take (i * k) = (l.take i).flatMap c
  | [], i => by simp
  | x :: r, 0 => by simp
  | x :: r, i + 1 => by
    rw [List.flatMap_cons, List.take_succ_cons, List.flatMap_cons, ← row_take c k hc r i, List.take_append, hc, List.take_of_length_le (by rw [hc, Nat.succ_mul]; omega), Nat.succ_mul, Nat.add_sub_cancel]
theorem row_splices (c : α → List V) (k : Nat) (hc : ∀ x, (c x).length = k) (l m : List α) (i : Nat) (h : i + m.length ≤ l.length) : splice (l.flatMap c) (i * k) (m.flatMap c) = some ((l.take i ++ m ++ l.drop (i + m.length)).flatMap c) := by
  unfold splice
  rw [row_len c k hc, row_len c k hc, if_pos (by rw [← Nat.add_mul]; exact Nat.mul_le_mul_right k h), row_take c k hc, ← Nat.add_mul, row_drop c k hc, List.flatMap_append, List.flatMap_append]
end
def N4 : List (List UInt8) := [[97], [98], [99], [108, 111, 110, 103]]
def nameV (l : List Int) (a j : Nat) : List UInt8 := N4.getD ((fd l a j 12).toNat / 3 % 4) []
def A5 : List (List UInt8 × Int) := [([97], 0), ([98], 0), ([99], 0), ([100], 1), ([108, 111, 110, 103], 1)]
def attrsG (l : List Int) (a : Nat) : List (List UInt8 × Int) → Nat → List Attr × Nat
  | [], j => ([], j)
  | (nm, q) :: r, j => if fd l a j 3 > q then (⟨nm, valueV l a (j + 1)⟩ :: (attrsG l a r (j + 3)).1, (attrsG l a r (j + 3)).2) else attrsG l a r (j + 1)
/-- Attributes, and where the feed stands then. -/
def attrsV (l : List Int) (a j : Nat) : List Attr × Nat := attrsG l a A5 j
/-- Behind which one a name has its place. -/
def insN (f : List Pred) (nm : List UInt8) : Nat → Nat
  | 0 => 0
  | k + 1 => if sgt ((f[k]?).getD ⟨[], 0, vzero, vzero, []⟩).name nm then insN f nm k else k + 1
theorem insN_le (f : List Pred) (nm : List UInt8) : ∀ k, insN f nm k ≤ k
  | 0 => Nat.le_refl _
  | k + 1 => by
    unfold insN; split
    · exact Nat.le_succ_of_le (insN_le f nm k)
    · exact Nat.le_refl _
def insP (f : List Pred) (p : Pred) (nm : List UInt8) : List Pred := f.take (insN f nm f.length) ++ p :: f.drop (insN f nm f.length)
theorem insP_length (f : List Pred) (p : Pred) (nm : List UInt8) : (insP f p nm).length = f.length + 1 := by
  have := insN_le f nm f.length
  unfold insP; simp; omega
/-- A filter, where the feed stands then, how many objects were given up. -/
def filterG (l : List Int) (a : Nat) : Nat → Nat → Nat → List Pred → List Pred × Nat × Nat
  | 0, j, d, f => (f, j, d)
  | n + 1, j, d, f => filterG l a n (j + 1 + (predV l a (j + 1) (nameV l a j)).2) (d + (predV l a (j + 1) (nameV l a j)).1.set.length + 1) (insP f (predV l a (j + 1) (nameV l a j)).1 (nameV l a j))
def filterV (l : List Int) (a j : Nat) : List Pred × Nat × Nat := filterG l a (fd l a j 4).toNat (j + 1) 0 []
def pzero : Pred := ⟨[], 0, vzero, vzero, []⟩
theorem pcells_len (p : Pred) : (Pred.cells p).length = 13 := rfl
theorem pcells_one (p : Pred) : (Pred.cells p).all V.one = true := rfl
theorem pcells_flats (p : Pred) : flats (Pred.cells p) = true := by simp [flats, V.flat]
theorem pcells_strip (p : Pred) : (Pred.cells p).map V.strip1 = Pred.cells p := rfl
theorem chunk_preds1 (l : List Pred) : chunk true 13 l.length (l.flatMap Pred.cells) = encPreds l := chunk_enc Pred.cells 13 (by omega) (fun _ => rfl) l
theorem enc_cells (l : List Pred) : (encPreds l).flatMap V.cells = l.flatMap Pred.cells := by
  induction l with
  | nil => rfl
  | cons x r ih => simp only [encPreds, List.map_cons, List.flatMap_cons] at ih ⊢; rw [ih]; rfl
/-- The elements of a part of a row. -/
theorem elems_row {st : St} {id : Nat} {l : List Pred} (ho : St.obj st id = some (l.flatMap Pred.cells)) (f : Bool) {i : Nat} (hi : i ≤ l.length) :
    elemsAt true 13 st (.val (.sref f 13 id (i * 13) (l.length - i))) = some (encPreds (l.drop i)) := by
  unfold elemsAt
  simp only [ho, row_len Pred.cells 13 pcells_len, true_and]
  have h1 : i * 13 + (l.length - i) * 13 ≤ l.length * 13 := by omega
  have h2 : ((l.flatMap Pred.cells).map V.strip1).all V.one = true := by rw [row_strip _ _ pcells_strip]; exact row_one _ pcells_one l
  have h3 : (true || (13 : Nat) == 1) = true := rfl
  by_cases hz : l.length - i = 0
  · rw [if_pos hz, List.drop_of_length_le (by omega)]; rfl
  rw [if_neg hz, if_pos ⟨h1, h3, h2⟩, row_drop Pred.cells 13 pcells_len, List.take_of_length_le (by rw [row_len Pred.cells 13 pcells_len]; simp), row_strip _ _ pcells_strip]
  have := chunk_preds1 (l.drop i)
  rw [List.length_drop] at this
  rw [this]
theorem frz_preds {st st1 : St} (n id : Nat) (l : List Pred) (hl : l ≠ []) (ho : St.obj st id = some (l.flatMap Pred.cells)) (hs : St.set st id [] = some st1) : frz (n + 1) st (.sref false 13 id 0 l.length) = some (.slice (encPreds l), st1) := by
  have := frz_row n id 13 (by omega) Pred.cells Pred.cells pcells_len pcells_len pcells_strip pcells_one pcells_flats l hl ho hs
  rw [show Nat.blt 1 13 = true from rfl, chunk_preds1] at this
  exact this
/-- A row behind which others were given up. -/
theorem obj_mid {st : St} {id : Nat} (h : FeedOk st id) (m k : Nat) (cs : List V) (l : List Int) (a : Nat) : St.obj (setF (dd (nw st m cs) k) id l a) (st.objs.length + m) = some cs := by
  unfold St.obj setF
  show ((dd (nw st m cs) k).objs.set id _)[_]? = _
  rw [List.getElem?_set_ne (by have := h.1; omega)]
  unfold dd
  show ((nw st m cs).objs ++ _)[_]? = _
  rw [List.getElem?_append_left (by rw [gr_len]; omega), gr_obj]
theorem dd_nw_kill (st : St) (m k : Nat) (cs : List V) (h : st.wp ≤ st.objs.length) : St.set (dd (nw st m cs) k) (st.objs.length + m) [] = some (dd st (m + 1 + k)) := by
  unfold St.set
  rw [if_pos (by rw [dd_wp, gr_wp]; omega)]
  unfold dd nw
  simp only [Option.some.injEq, St.mk.injEq, and_true]
  rw [List.append_assoc, List.set_append_right _ _ (by omega), Nat.add_sub_cancel_left, List.append_assoc, List.set_append_right _ _ (by simp), List.length_replicate, Nat.sub_self]
  simp only [List.singleton_append, List.set_cons_zero]
  rw [show m + 1 + k = m + (1 + k) by omega, ← List.replicate_append_replicate, ← List.replicate_append_replicate (n := 1)]
  rfl
theorem set_mid {st : St} {id : Nat} (h : FeedOk st id) (m k : Nat) (cs : List V) (l : List Int) (a : Nat) : St.set (setF (dd (nw st m cs) k) id l a) (st.objs.length + m) [] = some (setF (dd st (m + 1 + k)) id l a) := by
  have h1 := h.1
  have h2 := h.2
  have hk := dd_nw_kill st m k cs (by omega)
  unfold St.set at hk ⊢
  rw [if_pos (by rw [dd_wp, gr_wp]; omega)] at hk
  rw [if_pos (by rw [setF_wp, dd_wp, gr_wp]; omega)]
  have hk2 := Option.some.inj hk
  congr 1
  rw [← hk2]
  unfold setF
  simp only [St.mk.injEq, and_true]
  rw [List.set_comm _ _ (by omega)]
end Go.Ab
namespace Go.Proofs.Ytclpbfkbpcjejaa
open Go Go.Ab
set_option linter.unusedVariables false
set_option linter.unusedSimpArgs false
set_option linter.unnecessarySimpa false
set_option maxRecDepth 20000
noncomputable section
variable (fr : Fr) (st : St) (k : Kt)
def fi91 : FI := { body := codeOf Try.f91, ntmps := 9, results := [.tmp 2], pers := [0, 2], locals := [], pure := false, marks := [] }
theorem fi91_eq : gS.fn 91 = some fi91 := by kernel_rfl
theorem st91 (a0 : V) : startFr fi91 [a0] = { ps := [(0, .val a0), (2, .any)], ts := [], lc := [] } := rfl
def b91 : Code := mini (codeOf Try.f91)
def c91_2 : Code := .seq (codeN b91 5) .ret
theorem e91_2 : evK gS fi91 c91_2 fr st k = opsR gS fi91 [op1 3 (.build 107 #[(0, (.const (.string { data := #[97] }))), (1, (.const (.string { data := #[98] }))), (2, (.const (.string { data := #[99] }))), (3, (.const (.string { data := #[108, 111, 110, 103] })))]) 107,
 mv 4 0 29,
 cal 5 16 [(.tmp 4), (.const (.int .i64 12))] [29, 3] 3,
 op1 6 (.binOp .quo 3 (.tmp 5) (.const (.int .i64 3)) 3) 3,
 op1 7 (.binOp .rem 3 (.tmp 6) (.const (.int .i64 4)) 3) 3,
 op1 8 (.index 107 (.tmp 3) (.tmp 7)) 9,
 asn 2 8 9] fr st (.seq .ret k) := evK_rs 1 rfl (by kernel_rfl)
def c91_0 : Code := .seq (codeN b91 2) c91_2
theorem e91_0 : evK gS fi91 c91_0 fr st k = opsR gS fi91 [op1 2 (.assign (.const (.string { data := #[] }))) 9] fr st (.seq c91_2 k) := evK_rs 0 rfl (by kernel_rfl)
theorem m91 : mini fi91.body = c91_0 := by kernel_rfl
set_option maxHeartbeats 8000000 in
theorem c91 (l : List Int) (a j id : Nat) (st : St) (h : FeedOk st id) (ha : a < 549755813888) (hj : j < 549755812000) :
    EvF gS 91 [.ptr id 0] (setF st id l (nA l a j)) = some (.ret (.str (nameV l a j)) none, setF st id l (nA l a (j + 1))) := by
  refine EvF_start fi91_eq (fun x h => by cases h) m91 ?_
  rw [st91]
  have hm : fi91.marks = [] := rfl
  have hl : fi91.locals = [] := rfl
  have hr : fi91.results = [.tmp 2] := rfl
  have hb := fd_bound l a j (n := 12) (by omega)
  unfold nameV
  have hk := fun fr => k16 l a j id 12 fr st h ha (by omega) (by omega)
  generalize fd l a j 12 = z at *
  have hz : z = 0 ∨ z = 1 ∨ z = 2 ∨ z = 3 ∨ z = 4 ∨ z = 5 ∨ z = 6 ∨ z = 7 ∨ z = 8 ∨ z = 9 ∨ z = 10 ∨ z = 11 := by omega
  have v1 : IntKind.wrap .i64 1 = 1 := w64_1
  have v2 : IntKind.wrap .i64 2 = 2 := w64_2
  have v3 : IntKind.wrap .i64 3 = 3 := w64_3
  have v0 : IntKind.wrap .i64 0 = 0 := by kernel_rfl
  rcases hz with rfl | rfl | rfl | rfl | rfl | rfl | rfl | rfl | rfl | rfl | rfl | rfl <;>
    simp [N4, hk, v0, v1, v2, v3, -Int.not_le, -Int.not_lt, -Nat.not_le, -Nat.not_lt, ty3, ty9, ty29, ty107, hm, hl, hr, e91_2, e91_0]
theorem k91 (l : List Int) (a j id : Nat)  (fr : Fr) (st : St) (h : FeedOk st id) (ha : a < 549755813888) (hj : j < 549755812000) :
    callStep gS (EvF gS) 91 [.ptr id 0] fr (setF st id l (nA l a j)) = some (.ok (.val (.str (nameV l a j))) (fr.map E.noMem) (setF st id l (nA l a (j + 1)))) := by
  unfold callStep
  simp only [show gS.ext 91 = none from rfl, fi91_eq, show fi91.pure = false from rfl, Bool.false_eq_true, if_false, c91 l a j id  st h ha (by omega), retE]
  all_goals rfl
def fi36 : FI := { body := codeOf Try.f36, ntmps := 26, results := [.tmp 2], pers := [0, 2, 3, 4, 5], locals := [4], pure := false, marks := [1000000] }
theorem fi36_eq : gS.fn 36 = some fi36 := by kernel_rfl
theorem st36 (a0 : V) : startFr fi36 [a0] = { ps := [(0, .val a0), (2, .any), (3, .any), (4, .any), (5, .any)], ts := [], lc := [] } := rfl
def b36 : Code := mini (codeOf Try.f36)
def c36_14 : Code := .cond (.tmp 8) .skip (.exit 0)
def c36_12 : Code := .seq (codeN b36 535) c36_14
def r36_22 : Array Oper := regOps (codeN (codeOf Try.f36) 5271)
def c36_22 : Code := .region 7 r36_22 true
def q36_22 : List (Oper × Fl) := [(mv 16 3 50, ⟨true, false, false, false, false, false, true, false, false, true, []⟩),
 (mv 17 5 3, ⟨true, false, false, false, false, false, true, false, false, true, []⟩),
 (ixa 18 109 4 17 0, ⟨true, false, false, false, false, false, true, false, false, true, []⟩),
 (ld 19 9 18 9, ⟨true, false, false, false, false, false, true, false, false, true, []⟩),
 (mv 20 0 29, ⟨true, false, true, false, true, false, true, true, false, false, []⟩),
 (cal 21 17 [(.tmp 20)] [29] 24, ⟨false, true, true, false, true, true, true, true, false, false, []⟩),
 (op1 22 (.build 111 #[(0, (.tmp 19)), (1, (.tmp 21))]) 111, ⟨true, false, true, false, true, false, true, true, false, false, []⟩),
 (op1 23 (.buildSlice 50 1 #[(0, (.tmp 22))]) 50, ⟨true, false, true, false, true, false, true, true, false, false, []⟩),
 (op1 24 (.call { callee := (.builtin .append), args := #[(.tmp 16), (.tmp 23)], argTypes := #[50, 50] }) 50, ⟨false, true, true, false, true, true, true, true, false, false, []⟩),
 (asn 3 24 50, ⟨true, true, true, false, true, false, true, true, false, false, []⟩)]
def c36_21 : Code := .cond (.tmp 15) c36_22 .skip
def c36_19 : Code := .seq (codeN b36 2199) c36_21
def c36_24 : Code := codeN b36 919
def c36_17 : Code := .seq (.block 1 c36_19) c36_24
def c36_11 : Code := .seq c36_12 c36_17
def c36_10 : Code := .loop c36_11
def c36_9 : Code := .block 0 c36_10
def c36_7 : Code := .seq (codeN b36 39) c36_9
def c36_25 : Code := .seq (codeN b36 47) .ret
def c36_6 : Code := .seq c36_7 c36_25
def c36_4 : Code := .seq (codeN b36 11) c36_6
def c36_2 : Code := .seq (codeN b36 5) c36_4
def c36_0 : Code := .seq (codeN b36 2) c36_2
theorem E36 : evK gS fi36 c36_14 fr st k = condK gS fi36 (fr.op (.tmp 8)).bool? .skip (.exit 0) fr st k ∧
 (evK gS fi36 c36_12 fr st k = opsR gS fi36 [mv 7 5 3,
 op1 8 (.binOp .lss 3 (.tmp 7) (.const (.int .i64 5)) 3) 4] fr st (.seq c36_14 k)) ∧
 evK gS fi36 c36_22 fr st k = drwR gS fi36 r36_22 q36_22 fr st k ∧
 evK gS fi36 c36_21 fr st k = condK gS fi36 (fr.op (.tmp 15)).bool? c36_22 .skip fr st k ∧
 (evK gS fi36 c36_19 fr st k = opsR gS fi36 [mv 11 0 29,
 cal 12 16 [(.tmp 11), (.const (.int .i64 3))] [29, 3] 3,
 mv 13 5 3,
 op1 14 (.binOp .quo 3 (.tmp 13) (.const (.int .i64 3)) 3) 3,
 bop 15 .gtr 3 12 14 3 4] fr st (.seq c36_21 k)) ∧
 (evK gS fi36 c36_24 fr st k = opsR gS fi36 [mv 9 5 3,
 op1 10 (.binOp .add 3 (.tmp 9) (.const (.int .i64 1)) 3) 3,
 asn 5 10 3] fr st k) ∧
 evK gS fi36 c36_17 fr st k = evK gS fi36 c36_19 fr st (.blk 1 (.seq c36_24 k)) ∧
 evK gS fi36 c36_11 fr st k = evK gS fi36 c36_12 fr st (.seq c36_17 k) ∧
 evK gS fi36 c36_9 fr st k = evK gS fi36 c36_10 fr st (.blk 0 k) ∧
 evK gS fi36 c36_7 fr st k = opsR gS fi36 [op1 5 (.assign (.const (.int .i64 0))) 3] fr st (.seq c36_9 k) ∧
 (evK gS fi36 c36_25 fr st k = opsR gS fi36 [mv 25 3 50,
 asn 2 25 50] fr st (.seq .ret k)) ∧
 evK gS fi36 c36_6 fr st k = evK gS fi36 c36_7 fr st (.seq c36_25 k) ∧
 (evK gS fi36 c36_4 fr st k = opsR gS fi36 [op1 6 (.build 109 #[(0, (.const (.string { data := #[97] }))), (1, (.const (.string { data := #[98] }))), (2, (.const (.string { data := #[99] }))), (3, (.const (.string { data := #[100] }))), (4, (.const (.string { data := #[108, 111, 110, 103] })))]) 109,
 op1 4 (.alloc 109) 0,
 sto 109 4 6] fr st (.seq c36_6 k)) ∧
 evK gS fi36 c36_2 fr st k = opsR gS fi36 [op1 3 (.assign (.const (.slice none 0 0))) 50] fr st (.seq c36_4 k) ∧
 evK gS fi36 c36_0 fr st k = opsR gS fi36 [op1 2 (.assign (.const (.slice none 0 0))) 50] fr st (.seq c36_2 k) := ⟨rfl, evK_rs 4 rfl (by kernel_rfl), evK_dr 7 rfl (by kernel_rfl) (by kernel_rfl), rfl, evK_rs 6 rfl (by kernel_rfl), evK_r 5 (by kernel_rfl), rfl, rfl, rfl, evK_rs 3 rfl (by kernel_rfl), evK_rs 8 rfl (by kernel_rfl), rfl, evK_rs 2 rfl (by kernel_rfl), evK_rs 1 rfl (by kernel_rfl), evK_rs 0 rfl (by kernel_rfl)⟩
theorem m36 : mini fi36.body = c36_0 := by kernel_rfl
theorem n36_10 (fr : Fr) (st : St) (k : Kt) : nextK gS fi36 (.loop c36_11 k) .normal fr st = evK gS fi36 c36_10 fr st k := rfl
theorem attrs_snoc (l : List Attr) (x : Attr) : encAttrs l ++ [.agg [.str x.name, .int .i64 x.v.kind, .int .i64 x.v.n, .float .f64 x.v.x, .str x.v.s, .bool x.v.b]] = encAttrs (l ++ [x]) := by simp [encAttrs, Attr.enc, Attr.cells]
theorem sizes_attrs (l : List Attr) : sizesOk 6 (encAttrs l) = true := by
  induction l with
  | nil => rfl
  | cons x r ih => simp only [encAttrs, List.map_cons, sizesOk] at ih ⊢; rw [ih]; rfl
set_option maxHeartbeats 8000000 in
theorem L36_5 (l : List Int) (a id : Nat) (ha : a < 549755813888) (st : St) (h : FeedOk st id) (j k : Nat) (f : List Attr) (hj : j + 15 < 549755812000 + 3 * 5) (hf : f.length ≤ 5) (hk : k = 0 ∧ f = [] ∨ k = 6) (T : List (Nat × E)) (X : List (Nat × List V)) (hx : lk X 4 = some [.str [97], .str [98], .str [99], .str [100], .str [108, 111, 110, 103]]) :
    evK gS fi36 c36_10 { ps := [(0, .val (.ptr id 0)), (2, .own 0 []), (3, .own k (encAttrs f)), (4, .lp 4 0), (5, .val (.int .i64 5))], ts := T, lc := X } (setF st id l (nA l a j)) (.blk 0 (.seq c36_25 .nil)) = some (.ret (.slice (encAttrs (f ++ (attrsG l a [] j).1))) none, setF st id l (nA l a (attrsG l a [] j).2)) := by
  have hm : fi36.marks = [1000000] := rfl
  have hl : fi36.locals = [4] := rfl
  have hr : fi36.results = [.tmp 2] := rfl
  refine evK_loop c36_11 _ _ _ _ rfl ?_
  have hz : ∀ st, frz 6 st (.slice (encAttrs f)) = some (.slice (encAttrs f), st) := fun st => frz_flat 6 st _ (by simp [V.flat])
  rw [show (attrsG l a [] j) = ([], j) from rfl]
  rcases hk with ⟨rfl, rfl⟩ | rfl
  · have en : encAttrs [] = [] := rfl
    rw [en] at hz
    simp [en, hz, hx, -Int.not_le, -Int.not_lt, -Nat.not_le, -Nat.not_lt, ty3, ty4, ty9, ty24, ty29, ty50, ty109, ty111, eq24, hm, hl, hr, fi16_eq, fi17_eq, E36, q36_22, n36_10]
  · simp [hz, hx, -Int.not_le, -Int.not_lt, -Nat.not_le, -Nat.not_lt, ty3, ty4, ty9, ty24, ty29, ty50, ty109, ty111, eq24, hm, hl, hr, fi16_eq, fi17_eq, E36, q36_22, n36_10]
set_option maxHeartbeats 8000000 in
theorem L36_4 (l : List Int) (a id : Nat) (ha : a < 549755813888) (st : St) (h : FeedOk st id) (j k : Nat) (f : List Attr) (hj : j + 15 < 549755812000 + 3 * 4) (hf : f.length ≤ 4) (hk : k = 0 ∧ f = [] ∨ k = 6) (T : List (Nat × E)) (X : List (Nat × List V)) (hx : lk X 4 = some [.str [97], .str [98], .str [99], .str [100], .str [108, 111, 110, 103]]) :
    evK gS fi36 c36_10 { ps := [(0, .val (.ptr id 0)), (2, .own 0 []), (3, .own k (encAttrs f)), (4, .lp 4 0), (5, .val (.int .i64 4))], ts := T, lc := X } (setF st id l (nA l a j)) (.blk 0 (.seq c36_25 .nil)) = some (.ret (.slice (encAttrs (f ++ (attrsG l a [([108, 111, 110, 103], 1)] j).1))) none, setF st id l (nA l a (attrsG l a [([108, 111, 110, 103], 1)] j).2)) := by
  have hm : fi36.marks = [1000000] := rfl
  have hl : fi36.locals = [4] := rfl
  have hr : fi36.results = [.tmp 2] := rfl
  refine evK_loop c36_11 _ _ _ _ rfl ?_
  have hb := fd_bound l a j (n := 3) (by omega)
  have hk3 := fun fr => k16 l a j id 3 fr st h ha (by omega) (by omega)
  have hv := fun fr => k17 l a (j + 1) id fr st h ha (by omega)
  have v0 : IntKind.wrap .i64 0 = 0 := by kernel_rfl
  have bo : borOk r36_22 0 3 16 = true := by kernel_rfl
  have bh : handOk r36_22 9 24 = true := by kernel_rfl
  have hr : attrsG l a [([108, 111, 110, 103], 1)] j = if fd l a j 3 > 1 then (⟨[108, 111, 110, 103], valueV l a (j + 1)⟩ :: (attrsG l a [] (j + 3)).1, (attrsG l a [] (j + 3)).2) else attrsG l a [] (j + 1) := rfl
  rw [hr]
  generalize fd l a j 3 = z at *
  by_cases hz : z > 1
  · rw [if_pos hz]
    have N := fun T X hx => L36_5 l a id ha st h (j + 3) 6 (f ++ [⟨[108, 111, 110, 103], valueV l a (j + 1)⟩]) (by omega) (by rw [List.length_append]; exact Nat.add_le_add hf (Nat.le_refl 1)) (.inr rfl) T X hx
    have e1 := attrs_snoc f ⟨[108, 111, 110, 103], valueV l a (j + 1)⟩
    have e2 := sizes_attrs f
    have e3 : (f.length + 1) * 64 ≤ 140737488355328 := by omega
    have e4 : f.length + 1 ≤ 140737488355328 := by omega
    have hz' : (1 : Int) < z := hz
    have a3 : j + 1 + 2 = j + 3 := rfl
    rcases hk with ⟨rfl, rfl⟩ | rfl
    · simp only [List.nil_append, List.cons_append] at N e1
      simp [-List.append_assoc, bo, bh, hx, hk3, hv, v0, w64_1, w64_2, w64_3, w64_4, w64_5, hz', a3, e1, e2, N, -Int.not_le, -Int.not_lt, -Nat.not_le, -Nat.not_lt, ty3, ty4, ty9, ty24, ty29, ty50, ty109, ty111, eq24, hm, hl, hr, fi16_eq, fi17_eq, E36, q36_22, n36_10]
    · rw [show (f ++ (⟨[108, 111, 110, 103], valueV l a (j + 1)⟩ :: (attrsG l a [] (j + 3)).1)) = (f ++ [⟨[108, 111, 110, 103], valueV l a (j + 1)⟩]) ++ (attrsG l a [] (j + 3)).1 by simp]
      simp only [] at e1
      simp [-List.append_assoc, bo, bh, hx, hk3, hv, v0, w64_1, w64_2, w64_3, w64_4, w64_5, hz', a3, e1, e2, e3, e4, N, -Int.not_le, -Int.not_lt, -Nat.not_le, -Nat.not_lt, ty3, ty4, ty9, ty24, ty29, ty50, ty109, ty111, eq24, hm, hl, hr, fi16_eq, fi17_eq, E36, q36_22, n36_10]
  · rw [if_neg hz]
    have N := fun T X hx => L36_5 l a id ha st h (j + 1) k f (by omega) (Nat.le_trans hf (by omega)) hk T X hx
    have hz' : ¬ (1 : Int) < z := hz
    simp [hx, hk3, hv, v0, w64_1, w64_2, w64_3, w64_4, w64_5, hz', N, -Int.not_le, -Int.not_lt, -Nat.not_le, -Nat.not_lt, ty3, ty4, ty9, ty24, ty29, ty50, ty109, ty111, eq24, hm, hl, hr, fi16_eq, fi17_eq, E36, q36_22, n36_10]
set_option maxHeartbeats 8000000 in
theorem L36_3 (l : List Int) (a id : Nat) (ha : a < 549755813888) (st : St) (h : FeedOk st id) (j k : Nat) (f : List Attr) (hj : j + 15 < 549755812000 + 3 * 3) (hf : f.length ≤ 3) (hk : k = 0 ∧ f = [] ∨ k = 6) (T : List (Nat × E)) (X : List (Nat × List V)) (hx : lk X 4 = some [.str [97], .str [98], .str [99], .str [100], .str [108, 111, 110, 103]]) :
    evK gS fi36 c36_10 { ps := [(0, .val (.ptr id 0)), (2, .own 0 []), (3, .own k (encAttrs f)), (4, .lp 4 0), (5, .val (.int .i64 3))], ts := T, lc := X } (setF st id l (nA l a j)) (.blk 0 (.seq c36_25 .nil)) = some (.ret (.slice (encAttrs (f ++ (attrsG l a [([100], 1), ([108, 111, 110, 103], 1)] j).1))) none, setF st id l (nA l a (attrsG l a [([100], 1), ([108, 111, 110, 103], 1)] j).2)) := by
  have hm : fi36.marks = [1000000] := rfl
  have hl : fi36.locals = [4] := rfl
  have hr : fi36.results = [.tmp 2] := rfl
  refine evK_loop c36_11 _ _ _ _ rfl ?_
  have hb := fd_bound l a j (n := 3) (by omega)
  have hk3 := fun fr => k16 l a j id 3 fr st h ha (by omega) (by omega)
  have hv := fun fr => k17 l a (j + 1) id fr st h ha (by omega)
  have v0 : IntKind.wrap .i64 0 = 0 := by kernel_rfl
  have bo : borOk r36_22 0 3 16 = true := by kernel_rfl
  have bh : handOk r36_22 9 24 = true := by kernel_rfl
  have hr : attrsG l a [([100], 1), ([108, 111, 110, 103], 1)] j = if fd l a j 3 > 1 then (⟨[100], valueV l a (j + 1)⟩ :: (attrsG l a [([108, 111, 110, 103], 1)] (j + 3)).1, (attrsG l a [([108, 111, 110, 103], 1)] (j + 3)).2) else attrsG l a [([108, 111, 110, 103], 1)] (j + 1) := rfl
  rw [hr]
  generalize fd l a j 3 = z at *
  by_cases hz : z > 1
  · rw [if_pos hz]
    have N := fun T X hx => L36_4 l a id ha st h (j + 3) 6 (f ++ [⟨[100], valueV l a (j + 1)⟩]) (by omega) (by rw [List.length_append]; exact Nat.add_le_add hf (Nat.le_refl 1)) (.inr rfl) T X hx
    have e1 := attrs_snoc f ⟨[100], valueV l a (j + 1)⟩
    have e2 := sizes_attrs f
    have e3 : (f.length + 1) * 64 ≤ 140737488355328 := by omega
    have e4 : f.length + 1 ≤ 140737488355328 := by omega
    have hz' : (1 : Int) < z := hz
    have a3 : j + 1 + 2 = j + 3 := rfl
    rcases hk with ⟨rfl, rfl⟩ | rfl
    · simp only [List.nil_append, List.cons_append] at N e1
      simp [-List.append_assoc, bo, bh, hx, hk3, hv, v0, w64_1, w64_2, w64_3, w64_4, w64_5, hz', a3, e1, e2, N, -Int.not_le, -Int.not_lt, -Nat.not_le, -Nat.not_lt, ty3, ty4, ty9, ty24, ty29, ty50, ty109, ty111, eq24, hm, hl, hr, fi16_eq, fi17_eq, E36, q36_22, n36_10]
    · rw [show (f ++ (⟨[100], valueV l a (j + 1)⟩ :: (attrsG l a [([108, 111, 110, 103], 1)] (j + 3)).1)) = (f ++ [⟨[100], valueV l a (j + 1)⟩]) ++ (attrsG l a [([108, 111, 110, 103], 1)] (j + 3)).1 by simp]
      simp only [] at e1
      simp [-List.append_assoc, bo, bh, hx, hk3, hv, v0, w64_1, w64_2, w64_3, w64_4, w64_5, hz', a3, e1, e2, e3, e4, N, -Int.not_le, -Int.not_lt, -Nat.not_le, -Nat.not_lt, ty3, ty4, ty9, ty24, ty29, ty50, ty109, ty111, eq24, hm, hl, hr, fi16_eq, fi17_eq, E36, q36_22, n36_10]
  · rw [if_neg hz]
    have N := fun T X hx => L36_4 l a id ha st h (j + 1) k f (by omega) (Nat.le_trans hf (by omega)) hk T X hx
    have hz' : ¬ (1 : Int) < z := hz
    simp [hx, hk3, hv, v0, w64_1, w64_2, w64_3, w64_4, w64_5, hz', N, -Int.not_le, -Int.not_lt, -Nat.not_le, -Nat.not_lt, ty3, ty4, ty9, ty24, ty29, ty50, ty109, ty111, eq24, hm, hl, hr, fi16_eq, fi17_eq, E36, q36_22, n36_10]
set_option maxHeartbeats 8000000 in
theorem L36_2 (l : List Int) (a id : Nat) (ha : a < 549755813888) (st : St) (h : FeedOk st id) (j k : Nat) (f : List Attr) (hj : j + 15 < 549755812000 + 3 * 2) (hf : f.length ≤ 2) (hk : k = 0 ∧ f = [] ∨ k = 6) (T : List (Nat × E)) (X : List (Nat × List V)) (hx : lk X 4 = some [.str [97], .str [98], .str [99], .str [100], .str [108, 111, 110, 103]]) :
    evK gS fi36 c36_10 { ps := [(0, .val (.ptr id 0)), (2, .own 0 []), (3, .own k (encAttrs f)), (4, .lp 4 0), (5, .val (.int .i64 2))], ts := T, lc := X } (setF st id l (nA l a j)) (.blk 0 (.seq c36_25 .nil)) = some (.ret (.slice (encAttrs (f ++ (attrsG l a [([99], 0), ([100], 1), ([108, 111, 110, 103], 1)] j).1))) none, setF st id l (nA l a (attrsG l a [([99], 0), ([100], 1), ([108, 111, 110, 103], 1)] j).2)) := by
  have hm : fi36.marks = [1000000] := rfl
  have hl : fi36.locals = [4] := rfl
  have hr : fi36.results = [.tmp 2] := rfl
  refine evK_loop c36_11 _ _ _ _ rfl ?_
  have hb := fd_bound l a j (n := 3) (by omega)
  have hk3 := fun fr => k16 l a j id 3 fr st h ha (by omega) (by omega)
  have hv := fun fr => k17 l a (j + 1) id fr st h ha (by omega)
  have v0 : IntKind.wrap .i64 0 = 0 := by kernel_rfl
  have bo : borOk r36_22 0 3 16 = true := by kernel_rfl
  have bh : handOk r36_22 9 24 = true := by kernel_rfl
  have hr : attrsG l a [([99], 0), ([100], 1), ([108, 111, 110, 103], 1)] j = if fd l a j 3 > 0 then (⟨[99], valueV l a (j + 1)⟩ :: (attrsG l a [([100], 1), ([108, 111, 110, 103], 1)] (j + 3)).1, (attrsG l a [([100], 1), ([108, 111, 110, 103], 1)] (j + 3)).2) else attrsG l a [([100], 1), ([108, 111, 110, 103], 1)] (j + 1) := rfl
  rw [hr]
  generalize fd l a j 3 = z at *
  by_cases hz : z > 0
  · rw [if_pos hz]
    have N := fun T X hx => L36_3 l a id ha st h (j + 3) 6 (f ++ [⟨[99], valueV l a (j + 1)⟩]) (by omega) (by rw [List.length_append]; exact Nat.add_le_add hf (Nat.le_refl 1)) (.inr rfl) T X hx
    have e1 := attrs_snoc f ⟨[99], valueV l a (j + 1)⟩
    have e2 := sizes_attrs f
    have e3 : (f.length + 1) * 64 ≤ 140737488355328 := by omega
    have e4 : f.length + 1 ≤ 140737488355328 := by omega
    have hz' : (0 : Int) < z := hz
    have a3 : j + 1 + 2 = j + 3 := rfl
    rcases hk with ⟨rfl, rfl⟩ | rfl
    · simp only [List.nil_append, List.cons_append] at N e1
      simp [-List.append_assoc, bo, bh, hx, hk3, hv, v0, w64_1, w64_2, w64_3, w64_4, w64_5, hz', a3, e1, e2, N, -Int.not_le, -Int.not_lt, -Nat.not_le, -Nat.not_lt, ty3, ty4, ty9, ty24, ty29, ty50, ty109, ty111, eq24, hm, hl, hr, fi16_eq, fi17_eq, E36, q36_22, n36_10]
    · rw [show (f ++ (⟨[99], valueV l a (j + 1)⟩ :: (attrsG l a [([100], 1), ([108, 111, 110, 103], 1)] (j + 3)).1)) = (f ++ [⟨[99], valueV l a (j + 1)⟩]) ++ (attrsG l a [([100], 1), ([108, 111, 110, 103], 1)] (j + 3)).1 by simp]
      simp only [] at e1
      simp [-List.append_assoc, bo, bh, hx, hk3, hv, v0, w64_1, w64_2, w64_3, w64_4, w64_5, hz', a3, e1, e2, e3, e4, N, -Int.not_le, -Int.not_lt, -Nat.not_le, -Nat.not_lt, ty3, ty4, ty9, ty24, ty29, ty50, ty109, ty111, eq24, hm, hl, hr, fi16_eq, fi17_eq, E36, q36_22, n36_10]
  · rw [if_neg hz]
    have N := fun T X hx => L36_3 l a id ha st h (j + 1) k f (by omega) (Nat.le_trans hf (by omega)) hk T X hx
    have hz' : ¬ (0 : Int) < z := hz
    simp [hx, hk3, hv, v0, w64_1, w64_2, w64_3, w64_4, w64_5, hz', N, -Int.not_le, -Int.not_lt, -Nat.not_le, -Nat.not_lt, ty3, ty4, ty9, ty24, ty29, ty50, ty109, ty111, eq24, hm, hl, hr, fi16_eq, fi17_eq, E36, q36_22, n36_10]
set_option maxHeartbeats 8000000 in
theorem L36_1 (l : List Int) (a id : Nat) (ha : a < 549755813888) (st : St) (h : FeedOk st id) (j k : Nat) (f : List Attr) (hj : j + 15 < 549755812000 + 3 * 1) (hf : f.length ≤ 1) (hk : k = 0 ∧ f = [] ∨ k = 6) (T : List (Nat × E)) (X : List (Nat × List V)) (hx : lk X 4 = some [.str [97], .str [98], .str [99], .str [100], .str [108, 111, 110, 103]]) :
    evK gS fi36 c36_10 { ps := [(0, .val (.ptr id 0)), (2, .own 0 []), (3, .own k (encAttrs f)), (4, .lp 4 0), (5, .val (.int .i64 1))], ts := T, lc := X } (setF st id l (nA l a j)) (.blk 0 (.seq c36_25 .nil)) = some (.ret (.slice (encAttrs (f ++ (attrsG l a [([98], 0), ([99], 0), ([100], 1), ([108, 111, 110, 103], 1)] j).1))) none, setF st id l (nA l a (attrsG l a [([98], 0), ([99], 0), ([100], 1), ([108, 111, 110, 103], 1)] j).2)) := by
  have hm : fi36.marks = [1000000] := rfl
  have hl : fi36.locals = [4] := rfl
  have hr : fi36.results = [.tmp 2] := rfl
  refine evK_loop c36_11 _ _ _ _ rfl ?_
  have hb := fd_bound l a j (n := 3) (by omega)
  have hk3 := fun fr => k16 l a j id 3 fr st h ha (by omega) (by omega)
  have hv := fun fr => k17 l a (j + 1) id fr st h ha (by omega)
  have v0 : IntKind.wrap .i64 0 = 0 := by kernel_rfl
  have bo : borOk r36_22 0 3 16 = true := by kernel_rfl
  have bh : handOk r36_22 9 24 = true := by kernel_rfl
  have hr : attrsG l a [([98], 0), ([99], 0), ([100], 1), ([108, 111, 110, 103], 1)] j = if fd l a j 3 > 0 then (⟨[98], valueV l a (j + 1)⟩ :: (attrsG l a [([99], 0), ([100], 1), ([108, 111, 110, 103], 1)] (j + 3)).1, (attrsG l a [([99], 0), ([100], 1), ([108, 111, 110, 103], 1)] (j + 3)).2) else attrsG l a [([99], 0), ([100], 1), ([108, 111, 110, 103], 1)] (j + 1) := rfl
  rw [hr]
  generalize fd l a j 3 = z at *
  by_cases hz : z > 0
  · rw [if_pos hz]
    have N := fun T X hx => L36_2 l a id ha st h (j + 3) 6 (f ++ [⟨[98], valueV l a (j + 1)⟩]) (by omega) (by rw [List.length_append]; exact Nat.add_le_add hf (Nat.le_refl 1)) (.inr rfl) T X hx
    have e1 := attrs_snoc f ⟨[98], valueV l a (j + 1)⟩
    have e2 := sizes_attrs f
    have e3 : (f.length + 1) * 64 ≤ 140737488355328 := by omega
    have e4 : f.length + 1 ≤ 140737488355328 := by omega
    have hz' : (0 : Int) < z := hz
    have a3 : j + 1 + 2 = j + 3 := rfl
    rcases hk with ⟨rfl, rfl⟩ | rfl
    · simp only [List.nil_append, List.cons_append] at N e1
      simp [-List.append_assoc, bo, bh, hx, hk3, hv, v0, w64_1, w64_2, w64_3, w64_4, w64_5, hz', a3, e1, e2, N, -Int.not_le, -Int.not_lt, -Nat.not_le, -Nat.not_lt, ty3, ty4, ty9, ty24, ty29, ty50, ty109, ty111, eq24, hm, hl, hr, fi16_eq, fi17_eq, E36, q36_22, n36_10]
    · rw [show (f ++ (⟨[98], valueV l a (j + 1)⟩ :: (attrsG l a [([99], 0), ([100], 1), ([108, 111, 110, 103], 1)] (j + 3)).1)) = (f ++ [⟨[98], valueV l a (j + 1)⟩]) ++ (attrsG l a [([99], 0), ([100], 1), ([108, 111, 110, 103], 1)] (j + 3)).1 by simp]
      simp only [] at e1
      simp [-List.append_assoc, bo, bh, hx, hk3, hv, v0, w64_1, w64_2, w64_3, w64_4, w64_5, hz', a3, e1, e2, e3, e4, N, -Int.not_le, -Int.not_lt, -Nat.not_le, -Nat.not_lt, ty3, ty4, ty9, ty24, ty29, ty50, ty109, ty111, eq24, hm, hl, hr, fi16_eq, fi17_eq, E36, q36_22, n36_10]
  · rw [if_neg hz]
    have N := fun T X hx => L36_2 l a id ha st h (j + 1) k f (by omega) (Nat.le_trans hf (by omega)) hk T X hx
    have hz' : ¬ (0 : Int) < z := hz
    simp [hx, hk3, hv, v0, w64_1, w64_2, w64_3, w64_4, w64_5, hz', N, -Int.not_le, -Int.not_lt, -Nat.not_le, -Nat.not_lt, ty3, ty4, ty9, ty24, ty29, ty50, ty109, ty111, eq24, hm, hl, hr, fi16_eq, fi17_eq, E36, q36_22, n36_10]
set_option maxHeartbeats 8000000 in
theorem L36_0 (l : List Int) (a id : Nat) (ha : a < 549755813888) (st : St) (h : FeedOk st id) (j k : Nat) (f : List Attr) (hj : j + 15 < 549755812000 + 3 * 0) (hf : f.length ≤ 0) (hk : k = 0 ∧ f = [] ∨ k = 6) (T : List (Nat × E)) (X : List (Nat × List V)) (hx : lk X 4 = some [.str [97], .str [98], .str [99], .str [100], .str [108, 111, 110, 103]]) :
    evK gS fi36 c36_10 { ps := [(0, .val (.ptr id 0)), (2, .own 0 []), (3, .own k (encAttrs f)), (4, .lp 4 0), (5, .val (.int .i64 0))], ts := T, lc := X } (setF st id l (nA l a j)) (.blk 0 (.seq c36_25 .nil)) = some (.ret (.slice (encAttrs (f ++ (attrsG l a [([97], 0), ([98], 0), ([99], 0), ([100], 1), ([108, 111, 110, 103], 1)] j).1))) none, setF st id l (nA l a (attrsG l a [([97], 0), ([98], 0), ([99], 0), ([100], 1), ([108, 111, 110, 103], 1)] j).2)) := by
  have hm : fi36.marks = [1000000] := rfl
  have hl : fi36.locals = [4] := rfl
  have hr : fi36.results = [.tmp 2] := rfl
  refine evK_loop c36_11 _ _ _ _ rfl ?_
  have hb := fd_bound l a j (n := 3) (by omega)
  have hk3 := fun fr => k16 l a j id 3 fr st h ha (by omega) (by omega)
  have hv := fun fr => k17 l a (j + 1) id fr st h ha (by omega)
  have v0 : IntKind.wrap .i64 0 = 0 := by kernel_rfl
  have bo : borOk r36_22 0 3 16 = true := by kernel_rfl
  have bh : handOk r36_22 9 24 = true := by kernel_rfl
  have hr : attrsG l a [([97], 0), ([98], 0), ([99], 0), ([100], 1), ([108, 111, 110, 103], 1)] j = if fd l a j 3 > 0 then (⟨[97], valueV l a (j + 1)⟩ :: (attrsG l a [([98], 0), ([99], 0), ([100], 1), ([108, 111, 110, 103], 1)] (j + 3)).1, (attrsG l a [([98], 0), ([99], 0), ([100], 1), ([108, 111, 110, 103], 1)] (j + 3)).2) else attrsG l a [([98], 0), ([99], 0), ([100], 1), ([108, 111, 110, 103], 1)] (j + 1) := rfl
  rw [hr]
  generalize fd l a j 3 = z at *
  by_cases hz : z > 0
  · rw [if_pos hz]
    have N := fun T X hx => L36_1 l a id ha st h (j + 3) 6 (f ++ [⟨[97], valueV l a (j + 1)⟩]) (by omega) (by rw [List.length_append]; exact Nat.add_le_add hf (Nat.le_refl 1)) (.inr rfl) T X hx
    have e1 := attrs_snoc f ⟨[97], valueV l a (j + 1)⟩
    have e2 := sizes_attrs f
    have e3 : (f.length + 1) * 64 ≤ 140737488355328 := by omega
    have e4 : f.length + 1 ≤ 140737488355328 := by omega
    have hz' : (0 : Int) < z := hz
    have a3 : j + 1 + 2 = j + 3 := rfl
    rcases hk with ⟨rfl, rfl⟩ | rfl
    · simp only [List.nil_append, List.cons_append] at N e1
      simp [-List.append_assoc, bo, bh, hx, hk3, hv, v0, w64_1, w64_2, w64_3, w64_4, w64_5, hz', a3, e1, e2, N, -Int.not_le, -Int.not_lt, -Nat.not_le, -Nat.not_lt, ty3, ty4, ty9, ty24, ty29, ty50, ty109, ty111, eq24, hm, hl, hr, fi16_eq, fi17_eq, E36, q36_22, n36_10]
    · rw [show (f ++ (⟨[97], valueV l a (j + 1)⟩ :: (attrsG l a [([98], 0), ([99], 0), ([100], 1), ([108, 111, 110, 103], 1)] (j + 3)).1)) = (f ++ [⟨[97], valueV l a (j + 1)⟩]) ++ (attrsG l a [([98], 0), ([99], 0), ([100], 1), ([108, 111, 110, 103], 1)] (j + 3)).1 by simp]
      simp only [] at e1
      simp [-List.append_assoc, bo, bh, hx, hk3, hv, v0, w64_1, w64_2, w64_3, w64_4, w64_5, hz', a3, e1, e2, e3, e4, N, -Int.not_le, -Int.not_lt, -Nat.not_le, -Nat.not_lt, ty3, ty4, ty9, ty24, ty29, ty50, ty109, ty111, eq24, hm, hl, hr, fi16_eq, fi17_eq, E36, q36_22, n36_10]
  · rw [if_neg hz]
    have N := fun T X hx => L36_1 l a id ha st h (j + 1) k f (by omega) (Nat.le_trans hf (by omega)) hk T X hx
    have hz' : ¬ (0 : Int) < z := hz
    simp [hx, hk3, hv, v0, w64_1, w64_2, w64_3, w64_4, w64_5, hz', N, -Int.not_le, -Int.not_lt, -Nat.not_le, -Nat.not_lt, ty3, ty4, ty9, ty24, ty29, ty50, ty109, ty111, eq24, hm, hl, hr, fi16_eq, fi17_eq, E36, q36_22, n36_10]
set_option maxHeartbeats 8000000 in
theorem c36 (l : List Int) (a j id : Nat) (st : St) (h : FeedOk st id) (ha : a < 549755813888) (hj : j < 549755811000) :
    EvF gS 36 [.ptr id 0] (setF st id l (nA l a j)) = some (.ret (.slice (encAttrs (attrsV l a j).1)) none, setF st id l (nA l a (attrsV l a j).2)) := by
  refine EvF_start fi36_eq (fun x h => by cases h) m36 ?_
  rw [st36]
  have hm : fi36.marks = [1000000] := rfl
  have hl : fi36.locals = [4] := rfl
  have hr : fi36.results = [.tmp 2] := rfl
  have L0 := fun T X hx => L36_0 l a id ha st h j 0 [] (by omega) (by simp) (.inl ⟨rfl, rfl⟩) T X hx
  rw [List.nil_append] at L0
  rw [show attrsV l a j = attrsG l a [([97], 0), ([98], 0), ([99], 0), ([100], 1), ([108, 111, 110, 103], 1)] j from rfl]
  rw [show encAttrs [] = [] from rfl] at L0
  simp [L0, -Int.not_le, -Int.not_lt, -Nat.not_le, -Nat.not_lt, ty3, ty4, ty9, ty24, ty29, ty50, ty109, ty111, eq24, hm, hl, hr, fi16_eq, fi17_eq, E36, q36_22, n36_10]
theorem k36 (l : List Int) (a j id : Nat)  (fr : Fr) (st : St) (h : FeedOk st id) (ha : a < 549755813888) (hj : j < 549755811000) :
    callStep gS (EvF gS) 36 [.ptr id 0] fr (setF st id l (nA l a j)) = some (.ok (.val (.slice (encAttrs (attrsV l a j).1))) (fr.map E.noMem) (setF st id l (nA l a ((attrsV l a j).2)))) := by
  unfold callStep
  simp only [show gS.ext 36 = none from rfl, fi36_eq, show fi36.pure = false from rfl, Bool.false_eq_true, if_false, c36 l a j id  st h ha (by omega), retE]
  all_goals rfl
end
end Go.Proofs.Ytclpbfkbpcjejaa
namespace Go.Proofs.Ytclpbfkbpcjejaa
open Go Go.Ab
set_option linter.unusedVariables false
set_option linter.unusedSimpArgs false
set_option linter.unnecessarySimpa false
set_option maxRecDepth 20000
noncomputable section
variable (fr : Fr) (st : St) (k : Kt)
def fi35 : FI := { body := codeOf Try.f35, ntmps := 57, results := [.tmp 2], pers := [0, 2, 3, 4, 5, 6, 7], locals := [6], pure := false, marks := [43, 1000000] }
theorem fi35_eq : gS.fn 35 = some fi35 := by kernel_rfl
theorem st35 (a0 : V) : startFr fi35 [a0] = { ps := [(0, .val a0), (2, .any), (3, .any), (4, .any), (5, .any), (6, .any), (7, .any)], ts := [], lc := [] } := rfl
def b35 : Code := mini (codeOf Try.f35)
def c35_12 : Code := .cond (.tmp 16) .skip (.exit 0)
def c35_10 : Code := .seq (codeN b35 267) c35_12
def c35_29 : Code := .cond (.tmp 37) .skip (.exit 2)
def c35_27 : Code := .seq (codeN b35 134731) c35_29
def c35_33 : Code := codeN b35 167499
def c35_32 : Code := .block 3 c35_33
def c35_26 : Code := .seq c35_27 c35_32
def c35_25 : Code := .loop c35_26
def r35_37 : Array Oper := regOps (codeN (codeOf Try.f35) 48715)
def c35_37 : Code := .region 11 r35_37 true
def q35_37 : List (Oper × Fl) := [(mv 44 3 49, ⟨true, false, true, false, false, false, true, true, false, false, []⟩),
 (mv 45 7 3, ⟨true, false, true, false, false, false, true, true, false, false, []⟩),
 (op1 46 (.binOp .add 3 (.tmp 45) (.const (.int .i64 1)) 3) 3, ⟨true, false, true, false, false, false, true, true, false, false, []⟩),
 (op1 47 (.slice 49 (.tmp 44) (some (.tmp 46)) none none) 49, ⟨true, false, true, false, false, false, true, true, false, false, []⟩),
 (mv 48 3 49, ⟨true, false, true, false, false, false, true, true, false, false, []⟩),
 (mv 49 7 3, ⟨true, false, true, false, true, false, true, true, false, false, []⟩),
 (op1 50 (.slice 49 (.tmp 48) (some (.tmp 49)) none none) 49, ⟨true, false, true, false, true, false, true, true, false, false, []⟩),
 (op1 51 (.call { callee := (.builtin .copy), args := #[(.tmp 47), (.tmp 50)], argTypes := #[49, 49] }) 3, ⟨false, true, true, false, true, false, true, true, false, false, []⟩)]
def c35_38 : Code := codeN b35 65099
def c35_36 : Code := .seq c35_37 c35_38
def c35_34 : Code := .seq (codeN b35 24139) c35_36
theorem e35_34 : evK gS fi35 c35_34 fr st k = opsR gS fi35 [mv 40 3 49,
 op1 41 (.build 27 #[]) 27,
 op1 42 (.buildSlice 49 1 #[(0, (.tmp 41))]) 49,
 op1 43 (.call { callee := (.builtin .append), args := #[(.tmp 40), (.tmp 42)], argTypes := #[49, 49] }) 49,
 asn 3 43 49] fr st (.seq c35_36 k) := evK_rs 10 rfl (by kernel_rfl)
def c35_23 : Code := .seq (.block 2 c35_25) c35_34
def c35_21 : Code := .seq (codeN b35 5707) c35_23
def c35_19 : Code := .seq (codeN b35 2635) c35_21
def c35_17 : Code := .seq (codeN b35 1099) c35_19
def c35_39 : Code := codeN b35 459
def c35_15 : Code := .seq (.block 1 c35_17) c35_39
def c35_9 : Code := .seq c35_10 c35_15
def c35_8 : Code := .loop c35_9
def c35_7 : Code := .block 0 c35_8
def c35_5 : Code := .seq (codeN b35 19) c35_7
def c35_40 : Code := .seq (codeN b35 23) .ret
def c35_4 : Code := .seq c35_5 c35_40
def c35_2 : Code := .seq (codeN b35 5) c35_4
def c35_0 : Code := .seq (codeN b35 2) c35_2
theorem E35 : evK gS fi35 c35_12 fr st k = condK gS fi35 (fr.op (.tmp 16)).bool? .skip (.exit 0) fr st k ∧
 (evK gS fi35 c35_10 fr st k = opsR gS fi35 [mv 10 4 3,
 op1 11 (.binOp .gtr 3 (.tmp 10) (.const (.int .i64 0)) 3) 4,
 mv 12 11 4,
 mk (some 13) (.move (.tmp 3)) 49 (some (2, true)),
 mk (some 14) (.call { callee := (.builtin .len), args := #[(.tmp 13)], argTypes := #[49] }) 3 (some (2, true)),
 mk (some 15) (.binOp .lss 3 (.tmp 14) (.const (.int .i64 3)) 3) 4 (some (2, true)),
 op1 16 (.pick (.tmp 12) (.tmp 15) (.const (.bool false))) 4] fr st (.seq c35_12 k)) ∧
 evK gS fi35 c35_29 fr st k = condK gS fi35 (fr.op (.tmp 37)).bool? .skip (.exit 2) fr st k ∧
 (evK gS fi35 c35_27 fr st k = opsR gS fi35 [mv 26 7 3,
 op1 27 (.binOp .gtr 3 (.tmp 26) (.const (.int .i64 0)) 3) 4,
 mv 28 27 4,
 mk (some 29) (.move (.tmp 3)) 49 (some (2, true)),
 mk (some 30) (.move (.tmp 7)) 3 (some (2, true)),
 mk (some 31) (.binOp .sub 3 (.tmp 30) (.const (.int .i64 1)) 3) 3 (some (2, true)),
 mk (some 32) (.indexAddr 49 (.tmp 29) (.tmp 31)) 0 (some (2, true)),
 mk (some 33) (.fieldAddr 27 (.tmp 32) 0) 0 (some (2, true)),
 mk (some 34) (.load 9 (.tmp 33)) 9 (some (2, true)),
 mk (some 35) (.move (.tmp 5)) 9 (some (2, true)),
 mk (some 36) (.binOp .gtr 9 (.tmp 34) (.tmp 35) 9) 4 (some (2, true)),
 op1 37 (.pick (.tmp 28) (.tmp 36) (.const (.bool false))) 4] fr st (.seq c35_29 k)) ∧
 (evK gS fi35 c35_33 fr st k = opsR gS fi35 [mv 38 7 3,
 op1 39 (.binOp .sub 3 (.tmp 38) (.const (.int .i64 1)) 3) 3,
 asn 7 39 3] fr st k) ∧
 evK gS fi35 c35_32 fr st k = evK gS fi35 c35_33 fr st (.blk 3 k) ∧
 evK gS fi35 c35_26 fr st k = evK gS fi35 c35_27 fr st (.seq c35_32 k) ∧
 evK gS fi35 c35_37 fr st k = drwR gS fi35 r35_37 q35_37 fr st k ∧
 (evK gS fi35 c35_38 fr st k = opsR gS fi35 [mv 52 3 49,
 mv 53 7 3,
 ld 54 27 6 27,
 ixa 55 49 52 53 0,
 sto 27 55 54] fr st k) ∧
 evK gS fi35 c35_36 fr st k = evK gS fi35 c35_37 fr st (.seq c35_38 k) ∧
 evK gS fi35 c35_23 fr st k = evK gS fi35 c35_25 fr st (.blk 2 (.seq c35_34 k)) ∧
 (evK gS fi35 c35_21 fr st k = opsR gS fi35 [mv 24 3 49,
 len1 25 24 49 3,
 asn 7 25 3] fr st (.seq c35_23 k)) ∧
 (evK gS fi35 c35_19 fr st k = opsR gS fi35 [mv 21 0 29,
 mv 22 5 9,
 cal 23 29 [(.tmp 21), (.tmp 22)] [29, 9] 27,
 op1 6 (.alloc 27) 0,
 sto 27 6 23] fr st (.seq c35_21 k)) ∧
 (evK gS fi35 c35_17 fr st k = opsR gS fi35 [mv 19 0 29,
 cal 20 91 [(.tmp 19)] [29] 9,
 asn 5 20 9] fr st (.seq c35_19 k)) ∧
 (evK gS fi35 c35_39 fr st k = opsR gS fi35 [mv 17 4 3,
 op1 18 (.binOp .sub 3 (.tmp 17) (.const (.int .i64 1)) 3) 3,
 asn 4 18 3] fr st k) ∧
 evK gS fi35 c35_15 fr st k = evK gS fi35 c35_17 fr st (.blk 1 (.seq c35_39 k)) ∧
 evK gS fi35 c35_9 fr st k = evK gS fi35 c35_10 fr st (.seq c35_15 k) ∧
 evK gS fi35 c35_7 fr st k = evK gS fi35 c35_8 fr st (.blk 0 k) ∧
 (evK gS fi35 c35_5 fr st k = opsR gS fi35 [mv 8 0 29,
 cal 9 16 [(.tmp 8), (.const (.int .i64 4))] [29, 3] 3,
 asn 4 9 3] fr st (.seq c35_7 k)) ∧
 (evK gS fi35 c35_40 fr st k = opsR gS fi35 [mv 56 3 49,
 asn 2 56 49] fr st (.seq .ret k)) ∧
 evK gS fi35 c35_4 fr st k = evK gS fi35 c35_5 fr st (.seq c35_40 k) ∧
 evK gS fi35 c35_2 fr st k = opsR gS fi35 [op1 3 (.assign (.const (.slice none 0 0))) 49] fr st (.seq c35_4 k) ∧
 evK gS fi35 c35_0 fr st k = opsR gS fi35 [op1 2 (.assign (.const (.slice none 0 0))) 49] fr st (.seq c35_2 k) := ⟨rfl, evK_rs 3 rfl (by kernel_rfl), rfl, evK_rs 8 rfl (by kernel_rfl), evK_r 9 (by kernel_rfl), rfl, rfl, evK_dr 11 rfl (by kernel_rfl) (by kernel_rfl), evK_r 12 (by kernel_rfl), rfl, rfl, evK_rs 7 rfl (by kernel_rfl), evK_rs 6 rfl (by kernel_rfl), evK_rs 5 rfl (by kernel_rfl), evK_r 4 (by kernel_rfl), rfl, rfl, rfl, evK_rs 2 rfl (by kernel_rfl), evK_rs 13 rfl (by kernel_rfl), rfl, evK_rs 1 rfl (by kernel_rfl), evK_rs 0 rfl (by kernel_rfl)⟩
theorem m35 : mini fi35.body = c35_0 := by kernel_rfl
theorem n35_25 (fr : Fr) (st : St) (k : Kt) : nextK gS fi35 (.loop c35_26 k) .normal fr st = evK gS fi35 c35_25 fr st k := rfl
theorem n35_8 (fr : Fr) (st : St) (k : Kt) : nextK gS fi35 (.loop c35_9 k) .normal fr st = evK gS fi35 c35_8 fr st k := rfl
set_option maxHeartbeats 8000000 in
theorem I35 (nm : List UInt8) (f : List Pred) (idl : Nat) (st : St) (ho : St.obj st idl = some (f.flatMap Pred.cells)) (hfn : f.length < 1000) (R : Out × St) (e0 e4 : E) (h0 : e0.Tame) (h4 : e4.Tame) (X : List (Nat × List V)) (at0 : Nat)
    (H : ∀ T, evK gS fi35 c35_34 { ps := [(0, e0), (2, .own 0 []), (3, .val (.sref false 13 idl 0 f.length)), (4, e4), (5, .val (.str nm)), (6, .lp 6 0), (7, .val (.int .i64 at0))], ts := T, lc := X } st (.blk 1 (.seq c35_39 (.loop c35_9 (.blk 0 (.seq c35_40 .nil))))) = some R) :
    ∀ (k : Nat) (T : List (Nat × E)), k ≤ f.length → at0 = insN f nm k →
    evK gS fi35 c35_25 { ps := [(0, e0), (2, .own 0 []), (3, .val (.sref false 13 idl 0 f.length)), (4, e4), (5, .val (.str nm)), (6, .lp 6 0), (7, .val (.int .i64 k))], ts := T, lc := X } st (.blk 2 (.seq c35_34 (.blk 1 (.seq c35_39 (.loop c35_9 (.blk 0 (.seq c35_40 .nil))))))) = some R := by
  intro k
  have hm : fi35.marks = [43, 1000000] := rfl
  have hl : fi35.locals = [6] := rfl
  have hr : fi35.results = [.tmp 2] := rfl
  induction k with
  | zero =>
    intro T hk hat
    refine evK_loop c35_26 _ _ _ _ rfl ?_
    have h00 : insN f nm 0 = 0 := rfl
    rw [h00] at hat
    subst hat
    simp only [show ((0 : Nat) : Int) = 0 from rfl] at H ⊢
    simp [-St.obj, -St.set, h0, h4, H, -Int.not_le, -Int.not_lt, -Nat.not_le, -Nat.not_lt, ty3, ty4, ty9, ty27, ty29, ty49, hm, hl, hr, fi16_eq, fi29_eq, fi91_eq, E35, q35_37, n35_25, n35_8]
  | succ k ih =>
    intro T hk hat
    refine evK_loop c35_26 _ _ _ _ rfl ?_
    obtain ⟨x, hx⟩ : ∃ x, f[k]? = some x := ⟨f[k]'(by omega), List.getElem?_eq_getElem (by omega)⟩
    have hget := row_get Pred.cells 13 pcells_len hx (j := 0) (by omega)
    have hc0 : (Pred.cells x)[0]? = some (.str x.name) := rfl
    rw [hc0, Nat.add_zero] at hget
    have hins : insN f nm (k + 1) = if sgt x.name nm then insN f nm k else k + 1 := by
      show (if sgt ((f[k]?).getD ⟨[], 0, vzero, vzero, []⟩).name nm then insN f nm k else k + 1) = _
      rw [hx]; rfl
    rw [hins] at hat
    have hw1 : IntKind.wrap .i64 (((k + 1 : Nat) : Int) - 1) = (k : Int) := by rw [wrap64 (by omega) (by omega)]; omega
    have hp : (0 : Int) < ((k + 1 : Nat) : Int) := by omega
    have hlt : (k : Int) < (f.length : Int) := by omega
    have hlt2 : k < f.length := by omega
    have hsg : (!(Op.bytesLess x.name nm || decide (x.name = nm))) = sgt x.name nm := rfl
    cases hs : sgt x.name nm with
    | true =>
      rw [hs] at hsg hat
      have IH := fun T => ih T (by omega) (by rw [hat]; rfl)
      simp [-Int.natCast_add, -Bool.not_or, -St.obj, -St.set, h0, h4, ho, hget, hw1, hp, hlt, hlt2, hsg, IH, -Int.not_le, -Int.not_lt, -Nat.not_le, -Nat.not_lt, ty3, ty4, ty9, ty27, ty29, ty49, hm, hl, hr, fi16_eq, fi29_eq, fi91_eq, E35, q35_37, n35_25, n35_8]
    | false =>
      rw [hs] at hsg hat
      have hat2 : at0 = k + 1 := by rw [hat]; rfl
      subst hat2
      simp [-Int.natCast_add, -Bool.not_or, -St.obj, -St.set, h0, h4, ho, hget, hw1, hp, hlt, hlt2, hsg, H, -Int.not_le, -Int.not_lt, -Nat.not_le, -Nat.not_lt, ty3, ty4, ty9, ty27, ty29, ty49, hm, hl, hr, fi16_eq, fi29_eq, fi91_eq, E35, q35_37, n35_25, n35_8]
theorem ins_shift (f : List Pred) (z p : Pred) {i : Nat} (hi : i ≤ f.length) :
    (((f ++ [z]).take (i + 1) ++ ((f ++ [z]).drop i).take (f.length - i)).take i ++ [p] ++ ((f ++ [z]).take (i + 1) ++ ((f ++ [z]).drop i).take (f.length - i)).drop (i + 1)) = f.take i ++ p :: f.drop i := by
  have h1 : ((f ++ [z]).take (i + 1)).length = i + 1 := by simp; omega
  rw [List.take_append_of_le_length (by omega), List.take_take, Nat.min_eq_left (by omega), List.take_append_of_le_length hi, List.drop_append, h1, Nat.sub_self, List.drop_zero, List.drop_of_length_le (by omega), List.nil_append]
  rw [List.drop_append_of_le_length hi, List.take_append_of_le_length (by simp), List.take_of_length_le (l := f.drop i) (by simp)]
  simp
set_option maxHeartbeats 8000000 in
theorem T35_34 (f : List Pred) (hne : f ≠ []) (p : Pred) (hfn : f.length < 1000) (i : Nat) (hi : i ≤ f.length) (id m q : Nat) (st : St) (h : FeedOk st id) (l : List Int) (A : Nat) (nm : List UInt8) (r : Nat) (hr : r < 1000) (R : Out × St)
    (e0 : E) (h0 : e0.Tame) (X : List (Nat × List V)) (hx : lk X 6 = some p.cells) (T : List (Nat × E))
    (IH : ∀ T, evK gS fi35 c35_8 { ps := [(0, e0), (2, .own 0 []), (3, .val (.sref false 13 (st.objs.length + (m + 1 + q)) 0 (f.length + 1))), (4, .val (.int .i64 r)), (5, .val (.str nm)), (6, .lp 6 0), (7, .val (.int .i64 i))], ts := T, lc := X } (setF (nw st (m + 1 + q) ((f.take i ++ p :: f.drop i).flatMap Pred.cells)) id l A) (.blk 0 (.seq c35_40 .nil)) = some R) :
    evK gS fi35 c35_34 { ps := [(0, e0), (2, .own 0 []), (3, .val (.sref false 13 (st.objs.length + m) 0 f.length)), (4, .val (.int .i64 ((r + 1 : Nat) : Int))), (5, .val (.str nm)), (6, .lp 6 0), (7, .val (.int .i64 i))], ts := T, lc := X } (setF (dd (nw st m (f.flatMap Pred.cells)) q) id l A) (.blk 1 (.seq c35_39 (.loop c35_9 (.blk 0 (.seq c35_40 .nil))))) = some R := by
  have hm : fi35.marks = [43, 1000000] := rfl
  have hl : fi35.locals = [6] := rfl
  have hr : fi35.results = [.tmp 2] := rfl
  have ho := obj_mid h m q (f.flatMap Pred.cells) l A
  have hk := set_mid h m q (f.flatMap Pred.cells) l A
  have hn := fun fr k len cs => newRef_dd h fr (m + 1 + q) k len cs l A
  have hz : f.flatMap Pred.cells ++ [.str [], .int .i64 0, .int .i64 0, .int .i64 0, .float .f64 0, .str [], .bool false, .int .i64 0, .int .i64 0, .float .f64 0, .str [], .bool false, .slice []] = (f ++ [pzero]).flatMap Pred.cells := by simp [pzero, vzero, encVals]
  have hst := row_strip Pred.cells Pred.cells pcells_strip f
  have hon := row_one Pred.cells pcells_one f
  have hle := row_len Pred.cells 13 pcells_len f
  have hfl : 0 < f.length := List.length_pos_iff.2 hne
  have b1 : (f.length + 1) * 144 ≤ 140737488355328 := by omega
  have b2 : f.length + 1 ≤ 140737488355328 := by omega
  have hw1 : IntKind.wrap .i64 ((i : Int) + 1) = ((i + 1 : Nat) : Int) := by rw [wrap64 (by omega) (by omega)]; omega
  have hw2 : IntKind.wrap .i64 (((r + 1 : Nat) : Int) - 1) = (r : Int) := by rw [wrap64 (by omega) (by omega)]; omega
  have ho2 := obj_gr h (m + 1 + q) ((f ++ [pzero]).flatMap Pred.cells) l A
  have hel := elems_row ho2 false (i := i) (by simp; omega)
  rw [List.length_append, List.length_singleton] at hel
  have hlen : (f ++ [pzero]).length = f.length + 1 := by simp
  generalize hE0 : f ++ [pzero] = E0 at *
  have hsh := ins_shift f pzero p hi
  rw [hE0] at hsh
  have hs1 := sizes_preds (E0.drop i)
  have hdl : (E0.drop i).length = f.length + 1 - i := by simp [hlen]
  have c1 : ((i + 1 : Nat) : Int) ≤ (f.length : Int) + 1 := by omega
  have c2 : (i : Int) ≤ (f.length : Int) + 1 := by omega
  have c3 : (i : Int) < (f.length : Int) + 1 := by omega
  have hst2 := fun cs cs' => set_gr' h (m + 1 + q) cs cs' l A
  have hspl := row_splices Pred.cells 13 pcells_len E0 ((E0.drop i).take (f.length - i)) (i + 1) (by rw [List.length_take, hdl, hlen]; omega)
  have hE1 : E0.take (i + 1) ++ (E0.drop i).take (f.length - i) ++ E0.drop (i + 1 + ((E0.drop i).take (f.length - i)).length) = E0.take (i + 1) ++ (E0.drop i).take (f.length - i) := by
    have hd0 : E0.drop (i + 1 + ((E0.drop i).take (f.length - i)).length) = [] := List.drop_of_length_le (by rw [List.length_take, hdl, hlen]; omega)
    rw [hd0, List.append_nil]
  rw [hE1] at hspl
  generalize hE1g : E0.take (i + 1) ++ (E0.drop i).take (f.length - i) = E1 at *
  have hl1 : E1.length = f.length + 1 := by rw [← hE1g, List.length_append, List.length_take, List.length_take, hdl, hlen]; omega
  have hspl2 := row_splices Pred.cells 13 pcells_len E1 [p] i (by rw [hl1, List.length_singleton]; omega)
  rw [List.length_singleton, hsh] at hspl2
  have hpc : [p].flatMap Pred.cells = p.cells := by simp
  rw [hpc] at hspl2
  simp only [Pred.cells] at hspl2 hx
  have hmc : ∀ k, ((encPreds (E0.drop i)).take k).flatMap V.cells = ((E0.drop i).take k).flatMap Pred.cells := fun k => by
    rw [show (encPreds (E0.drop i)).take k = encPreds ((E0.drop i).take k) from by simp [encPreds], enc_cells]
  have hone := row_one Pred.cells pcells_one ((E0.drop i).take (f.length - i))
  have hrl := row_len Pred.cells 13 pcells_len ((E0.drop i).take (f.length - i))
  have ho1 := obj_gr h (m + 1 + q) (E1.flatMap Pred.cells) l A
  have hcp : ∀ n : Nat, (f.length + 1 - i - (n + 1)) = f.length - i - n := fun n => by omega
  have hsz : splice [.str [], .int .i64 0, .int .i64 0, .int .i64 0, .float .f64 0, .str [], .bool false, .int .i64 0, .int .i64 0, .float .f64 0, .str [], .bool false, .osl 0 []] 0 [.str [], .int .i64 0, .int .i64 0, .int .i64 0, .float .f64 0, .str [], .bool false, .int .i64 0, .int .i64 0, .float .f64 0, .str [], .bool false, .slice []] = some [.str [], .int .i64 0, .int .i64 0, .int .i64 0, .float .f64 0, .str [], .bool false, .int .i64 0, .int .i64 0, .float .f64 0, .str [], .bool false, .slice []] := rfl
  have heo : ∀ (ea : Bool) (k : Nat) (st : St) (n : Nat) (xs : List V), elemsAt ea k st (.own n xs) = some xs := fun _ _ _ _ _ => rfl
  by_cases hil : i = f.length
  · have hE01 : E1 = E0 := by
      rw [← hE1g, hil, Nat.sub_self, List.take_zero, List.append_nil, List.take_of_length_le (by omega)]
    subst hil
    rw [Nat.add_sub_cancel_left] at hel
    rw [hE01] at hspl2
    clear hE1 hE1g hspl hsh hone hrl ho1 hcp hmc hpc
    have hd1 : (E0.drop f.length).length = 1 := by rw [hdl]; omega
    simp [-Int.natCast_add, -St.obj, -St.set, -splice, h0, ho, hk, hn, hz, hst, hon, hle, hfl, b1, b2, hw1, hw2, ho2, hel, hlen, hs1, hd1, hspl2, hst2, hsz, heo, copyStep, markStep, markAppend, hx, IH, -Int.not_le, -Int.not_lt, -Nat.not_le, -Nat.not_lt, ty3, ty4, ty9, ty27, ty29, ty49, hm, hl, hr, fi16_eq, fi29_eq, fi91_eq, E35, q35_37, e35_34, n35_25, n35_8]
    simpa [Pred.cells] using IH [(18, .val (.int .i64 (r : Int))), (17, .val (.int .i64 ((r + 1 : Nat) : Int)))]
  · have hmin : min (f.length + 1 - i) (f.length - i) = f.length - i := by omega
    have hlei : ¬ f.length ≤ i := by omega
    have hne0 : ¬ (f.length - i = 0) := by omega
    have hrl2 : (((E0.drop i).take (f.length - i)).flatMap Pred.cells).length = (f.length - i) * 13 := by rw [hrl, List.length_take, hdl]; congr 1; omega
    have hpos2 : 0 < (f.length - i) * 13 := by omega
    have hpos3 : i < f.length := by omega
    have c6 : ((i + 1 : Nat) : Int) ≤ ((f.length + 1 : Nat) : Int) := by omega
    have c7 : (i : Int) ≤ ((f.length + 1 : Nat) : Int) := by omega
    have c8 : (i : Int) < ((f.length + 1 : Nat) : Int) := by omega
    have c9 : (0 : Int) ≤ ((i + 1 : Nat) : Int) := by omega
    have c10 : ¬ i = f.length + 1 := by omega
    simp [-Int.natCast_add, -List.flatMap_append, -St.obj, -St.set, -splice, h0, ho, hk, hn, hz, hst, hon, hle, hfl, b1, b2, hw1, hw2, ho1, ho2, hel, hlen, hs1, hdl, hmin, hlei, hne0, hrl2, hpos2, hpos3, hil, c6, c7, c8, c9, c10, hmc, hone, hspl, hspl2, hst2, hsz, heo, copyStep, markStep, markAppend, hx, -Int.not_le, -Int.not_lt, -Nat.not_le, -Nat.not_lt, ty3, ty4, ty9, ty27, ty29, ty49, hm, hl, hr, fi16_eq, fi29_eq, fi91_eq, E35, q35_37, e35_34, n35_25, n35_8]
    exact IH _
set_option maxHeartbeats 8000000 in
theorem L35 (l : List Int) (a id : Nat) (ha : a < 549755813888) (st : St) (h : FeedOk st id) : ∀ (r j m : Nat) (f : List Pred) (e5 e6 e7 : E) (T : List (Nat × E)) (X : List (Nat × List V)) (h5 : e5.Tame) (h6 : e6.Tame) (h7 : e7.Tame), f ≠ [] → f.length + r ≤ 3 → j + 20 * r < 549755810000 →
    evK gS fi35 c35_8 { ps := [(0, .val (.ptr id 0)), (2, .own 0 []), (3, .val (.sref false 13 (st.objs.length + m) 0 f.length)), (4, .val (.int .i64 r)), (5, e5), (6, e6), (7, e7)], ts := T, lc := X } (setF (nw st m (f.flatMap Pred.cells)) id l (nA l a j)) (.blk 0 (.seq c35_40 .nil)) = some (.ret (.slice (encPreds (filterG l a r j (m + 1) f).1)) none, setF (dd st (filterG l a r j (m + 1) f).2.2) id l (nA l a (filterG l a r j (m + 1) f).2.1)) := by
  intro r
  have hm : fi35.marks = [43, 1000000] := rfl
  have hl : fi35.locals = [6] := rfl
  have hr : fi35.results = [.tmp 2] := rfl
  induction r with
  | zero =>
    intro j m f e5 e6 e7 T X h5 h6 h7 hne hlr hj
    refine evK_loop c35_9 _ _ _ _ rfl ?_
    have hz := frz_preds 5 (st.objs.length + m) f hne (obj_gr h m _ l (nA l a j)) (set_gr h m _ l (nA l a j))
    rw [show filterG l a 0 j (m + 1) f = (f, j, m + 1) from rfl]
    simp [-St.obj, -St.set, h5, h6, h7, hz, -Int.not_le, -Int.not_lt, -Nat.not_le, -Nat.not_lt, ty3, ty4, ty9, ty27, ty29, ty49, hm, hl, hr, fi16_eq, fi29_eq, fi91_eq, E35, q35_37, e35_34, n35_25, n35_8]
  | succ r ih =>
    intro j m f e5 e6 e7 T X h5 h6 h7 hne hlr hj
    refine evK_loop c35_9 _ _ _ _ rfl ?_
    have hn := fun fr => k91 l a j id fr (nw st m (f.flatMap Pred.cells)) (h.nw m _) ha (by omega)
    have hp := fun fr => k29 l a (j + 1) id (nameV l a j) fr (nw st m (f.flatMap Pred.cells)) (h.nw m _) ha (by omega)
    have hg : filterG l a (r + 1) j (m + 1) f = filterG l a r (j + 1 + (predV l a (j + 1) (nameV l a j)).2) (m + 1 + (predV l a (j + 1) (nameV l a j)).1.set.length + 1) (insP f (predV l a (j + 1) (nameV l a j)).1 (nameV l a j)) := rfl
    rw [hg]
    have hpa := pred_asks l a (j + 1) (nameV l a j)
    generalize nameV l a j = nm at *
    generalize predV l a (j + 1) nm = P at *
    obtain ⟨p, k⟩ := P
    simp only at hp hg hpa ⊢
    have c1 : (0 : Int) < ((r + 1 : Nat) : Int) := by omega
    have c2 : (f.length : Int) < 3 := by omega
    have c3 : f.length < 3 := by omega
    have hil := insP_length f p nm
    have hi := insN_le f nm f.length
    have ipe : insP f p nm ≠ [] := by intro e; rw [e] at hil; simp at hil
    have IH := fun T X => ih (j + 1 + k) (m + 1 + p.set.length) (insP f p nm) (.val (.str nm)) (.lp 6 0) (.val (.int .i64 (insN f nm f.length))) T X rfl rfl rfl ipe (by rw [hil]; omega) (by omega)
    rw [hil] at IH
    simp only [insP] at IH ⊢
    have TT := fun X hx T => T35_34 f hne p (by omega) (insN f nm f.length) hi id m p.set.length st h l (nA l a (j + 1 + k)) nm r (by omega) _ (.val (.ptr id 0)) rfl X hx T (fun T => IH T X)
    have II := fun X hx T => I35 nm f (st.objs.length + m) (setF (dd (nw st m (f.flatMap Pred.cells)) p.set.length) id l (nA l a (j + 1 + k))) (obj_mid h m p.set.length _ l _) (by omega) _ (.val (.ptr id 0)) (.val (.int .i64 ((r + 1 : Nat) : Int))) rfl rfl X (insN f nm f.length) (fun T => TT X hx T) f.length T (Nat.le_refl _) rfl
    simp [-Int.natCast_add, -St.obj, -St.set, -List.flatMap_append, h5, h6, h7, hn, hp, c1, c2, c3, -Int.not_le, -Int.not_lt, -Nat.not_le, -Nat.not_lt, ty3, ty4, ty9, ty27, ty29, ty49, hm, hl, hr, fi16_eq, fi29_eq, fi91_eq, E35, q35_37, e35_34, n35_25, n35_8]
    refine II _ ?_ _
    simp
set_option maxHeartbeats 8000000 in
theorem c35 (l : List Int) (a j id : Nat) (st : St) (h : FeedOk st id) (ha : a < 549755813888) (hj : j < 549755809000) :
    EvF gS 35 [.ptr id 0] (setF st id l (nA l a j)) = some (.ret (.slice (encPreds (filterV l a j).1)) none, setF (dd st (filterV l a j).2.2) id l (nA l a (filterV l a j).2.1)) := by
  refine EvF_start fi35_eq (fun x h => by cases h) m35 ?_
  rw [st35]
  have hm : fi35.marks = [43, 1000000] := rfl
  have hl : fi35.locals = [6] := rfl
  have hr : fi35.results = [.tmp 2] := rfl
  have hb := fd_bound l a j (n := 4) (by omega)
  have hk := fun fr => k16 l a j id 4 fr st h ha (by omega) (by omega)
  unfold filterV
  generalize fd l a j 4 = z at *
  obtain ⟨r, rfl⟩ : ∃ r : Nat, z = (r : Int) := ⟨z.toNat, by omega⟩
  rw [Int.toNat_natCast]
  simp [-St.obj, -St.set, hk, -Int.not_le, -Int.not_lt, -Nat.not_le, -Nat.not_lt, ty3, ty4, ty9, ty27, ty29, ty49, hm, hl, hr, fi16_eq, fi29_eq, fi91_eq, E35, q35_37, e35_34, n35_25, n35_8]
  cases r with
  | zero =>
    refine evK_loop c35_9 _ _ _ _ rfl ?_
    have hz : ∀ st, frz 6 st (.slice []) = some (.slice [], st) := fun st => frz_flat 6 st _ rfl
    rw [show filterG l a 0 (j + 1) 0 [] = ([], j + 1, 0) from rfl]
    simp [-St.obj, -St.set, hz, dd_zero, encPreds, -Int.not_le, -Int.not_lt, -Nat.not_le, -Nat.not_lt, ty3, ty4, ty9, ty27, ty29, ty49, hm, hl, hr, fi16_eq, fi29_eq, fi91_eq, E35, q35_37, e35_34, n35_25, n35_8]
  | succ r =>
    refine evK_loop c35_9 _ _ _ _ rfl ?_
    have hn := fun fr => k91 l a (j + 1) id fr st h ha (by omega)
    have hp := fun fr => k29 l a (j + 1 + 1) id (nameV l a (j + 1)) fr st h ha (by omega)
    have hg : filterG l a (r + 1) (j + 1) 0 [] = filterG l a r (j + 1 + 1 + (predV l a (j + 1 + 1) (nameV l a (j + 1))).2) (0 + (predV l a (j + 1 + 1) (nameV l a (j + 1))).1.set.length + 1) (insP [] (predV l a (j + 1 + 1) (nameV l a (j + 1))).1 (nameV l a (j + 1))) := rfl
    rw [hg]
    have hpa := pred_asks l a (j + 1 + 1) (nameV l a (j + 1))
    generalize nameV l a (j + 1) = nm at *
    generalize predV l a (j + 1 + 1) nm = P at *
    obtain ⟨p, k⟩ := P
    simp only at hp hg hpa ⊢
    rw [show insP [] p nm = [p] from rfl, Nat.zero_add]
    have c1 : (0 : Int) < ((r + 1 : Nat) : Int) := by omega
    have LL := fun e5 e6 e7 T X h5 h6 h7 => L35 l a id ha st h r (j + 1 + 1 + k) p.set.length [p] e5 e6 e7 T X h5 h6 h7 (by simp) (by simp; omega) (by omega)
    have hpc : [p].flatMap Pred.cells = p.cells := by simp
    rw [hpc] at LL
    simp only [Pred.cells, List.length_singleton] at LL
    have hnr := fun fr kk len cs => newRef_dd h fr p.set.length kk len cs l (nA l a (j + 1 + 1 + k))
    have ho2 := fun cs => obj_gr h p.set.length cs l (nA l a (j + 1 + 1 + k))
    have hst2 := fun cs cs' => set_gr' h p.set.length cs cs' l (nA l a (j + 1 + 1 + k))
    have heo : ∀ (ea : Bool) (k : Nat) (st : St) (n : Nat) (xs : List V), elemsAt ea k st (.own n xs) = some xs := fun _ _ _ _ _ => rfl
    have hw2 : IntKind.wrap .i64 (((r + 1 : Nat) : Int) - 1) = (r : Int) := by rw [wrap64 (by omega) (by omega)]; omega
    have hel1 : elemsAt true 13 (setF (nw st p.set.length [.str [], .int .i64 0, .int .i64 0, .int .i64 0, .float .f64 0, .str [], .bool false, .int .i64 0, .int .i64 0, .float .f64 0, .str [], .bool false, .slice []]) id l (nA l a (j + 1 + 1 + k))) (.val (.sref false 13 (st.objs.length + p.set.length) 0 1)) = some (encPreds [pzero]) := elems_row (l := [pzero]) (ho2 _) false (i := 0) (Nat.zero_le _)
    have hs1 := sizes_preds [pzero]
    simp [-Int.natCast_add, -St.obj, -St.set, hn, hp, c1, -Int.not_le, -Int.not_lt, -Nat.not_le, -Nat.not_lt, ty3, ty4, ty9, ty27, ty29, ty49, hm, hl, hr, fi16_eq, fi29_eq, fi91_eq, E35, q35_37, e35_34, n35_25, n35_8]
    refine evK_loop c35_26 _ _ _ _ rfl ?_
    simp [-Int.natCast_add, -St.obj, -St.set, hnr, ho2, hst2, heo, hw2, w64_1, hel1, hs1, copyStep, markStep, markAppend, -Int.not_le, -Int.not_lt, -Nat.not_le, -Nat.not_lt, ty3, ty4, ty9, ty27, ty29, ty49, hm, hl, hr, fi16_eq, fi29_eq, fi91_eq, E35, q35_37, e35_34, n35_25, n35_8]
    exact LL _ _ _ _ _ rfl rfl rfl
theorem k35 (l : List Int) (a j id : Nat) (fr : Fr) (st : St) (h : FeedOk st id) (ha : a < 549755813888) (hj : j < 549755809000) :
    callStep gS (EvF gS) 35 [.ptr id 0] fr (setF st id l (nA l a j)) = some (.ok (.val (.slice (encPreds (filterV l a j).1))) (fr.map E.noMem) (setF (dd st (filterV l a j).2.2) id l (nA l a (filterV l a j).2.1))) := by
  unfold callStep
  simp only [show gS.ext 35 = none from rfl, fi35_eq, show fi35.pure = false from rfl, Bool.false_eq_true, if_false, c35 l a j id st h ha hj, retE]
  all_goals rfl
end
end Go.Proofs.Ytclpbfkbpcjejaa
namespace Go.Ab
open Go
set_option linter.unusedVariables false
set_option linter.unusedSimpArgs false
set_option linter.unnecessarySimpa false
def okNames : Bool := N4.all fun x => N4.all fun y => (N4.all fun z => sgt x y || sgt y z || !sgt x z) && (!sgt x y || !sgt y x) && isWord x
theorem names_ok : okNames = true := by kernel_rfl
def NM (x : List UInt8) : Prop := x ∈ N4
theorem nm_trans {x y z : List UInt8} (hx : NM x) (hy : NM y) (hz : NM z) (h1 : sgt x y = false) (h2 : sgt y z = false) : sgt x z = false := by
  have := List.all_eq_true.1 (List.all_eq_true.1 names_ok x hx) y hy
  simp only [Bool.and_eq_true] at this
  have := List.all_eq_true.1 this.1.1 z hz
  rw [h1, h2] at this
  simpa using this
theorem nm_asym {x y : List UInt8} (hx : NM x) (hy : NM y) (h : sgt x y = true) : sgt y x = false := by
  have := List.all_eq_true.1 (List.all_eq_true.1 names_ok x hx) y hy
  simp only [Bool.and_eq_true] at this
  have := this.1.2
  rw [h] at this
  simpa using this
theorem nm_word {x : List UInt8} (hx : NM x) : isWord x = true := by
  have := List.all_eq_true.1 (List.all_eq_true.1 names_ok x hx) x hx
  simp only [Bool.and_eq_true] at this
  exact this.2
theorem nameV_nm (l : List Int) (a j : Nat) : NM (nameV l a j) := by
  unfold NM nameV
  have hlt : (fd l a j 12).toNat / 3 % 4 < N4.length := by show _ < 4; omega
  rw [List.getD_eq_getElem?_getD, List.getElem?_eq_getElem hlt]
  exact List.getElem_mem hlt
/-- Right ones of the row, in their places. -/
structure FFV (f : List Pred) : Prop where
  right : ∀ p ∈ f, pright p = true
  fv : ∀ p ∈ f, PFV p
  nm : ∀ p ∈ f, NM p.name
  srt : f.Pairwise fun x y => sgt x.name y.name = false
theorem ffv_nil : FFV [] := ⟨by simp, by simp, by simp, List.Pairwise.nil⟩
theorem insN_above (f : List Pred) (nm : List UInt8) : ∀ (k i : Nat) (p : Pred), insN f nm k ≤ i → i < k → f[i]? = some p → sgt p.name nm = true
  | 0, i, p, _, h, _ => by omega
  | k + 1, i, p, h1, h2, hp => by
    unfold insN at h1
    split at h1
    · rename_i hs
      by_cases hik : i = k
      · subst hik; rw [hp] at hs; exact hs
      · exact insN_above f nm k i p h1 (by omega) hp
    · omega
theorem insN_below (f : List Pred) (nm : List UInt8) : ∀ (k : Nat) (p : Pred), k ≤ f.length → 0 < insN f nm k → f[insN f nm k - 1]? = some p → sgt p.name nm = false
  | 0, p, _, h, _ => by simp [insN] at h
  | k + 1, p, hk, h, hp => by
    unfold insN at h hp
    split at h
    · rename_i hs
      rw [if_pos hs] at hp
      exact insN_below f nm k p (by omega) h hp
    · rename_i hs
      rw [if_neg hs, Nat.add_sub_cancel] at hp
      rw [hp] at hs
      simpa using hs
theorem ins_ffv {f : List Pred} (h : FFV f) {p : Pred} (h1 : pright p = true) (h2 : PFV p) (h3 : NM p.name) : FFV (insP f p p.name) := by
  have hle := insN_le f p.name f.length
  have hab := insN_above f p.name f.length
  have hbe := insN_below f p.name f.length
  unfold insP
  generalize hi : insN f p.name f.length = i at *
  have mem : ∀ x, x ∈ f.take i ++ p :: f.drop i → x ∈ f ∨ x = p := by
    intro x hx
    rcases List.mem_append.1 hx with hx | hx
    · exact .inl (List.mem_of_mem_take hx)
    · rcases List.mem_cons.1 hx with hx | hx
      · exact .inr hx
      · exact .inl (List.mem_of_mem_drop hx)
  refine ⟨fun x hx => ?_, fun x hx => ?_, fun x hx => ?_, ?_⟩
  · rcases mem x hx with h' | rfl
    · exact h.right x h'
    · exact h1
  · rcases mem x hx with h' | rfl
    · exact h.fv x h'
    · exact h2
  · rcases mem x hx with h' | rfl
    · exact h.nm x h'
    · exact h3
  · have hs := h.srt
    have hsp : f.take i ++ f.drop i = f := List.take_append_drop i f
    rw [← hsp] at hs
    rw [List.pairwise_append] at hs ⊢
    obtain ⟨s1, s2, s3⟩ := hs
    have low : ∀ x ∈ f.take i, sgt x.name p.name = false := by
      intro x hx
      have hpos : 0 < i := by
        cases i with
        | zero => simp at hx
        | succ i => omega
      have hlast : i - 1 < f.length := by omega
      have hb := hbe (f[i - 1]) (Nat.le_refl _) hpos (List.getElem?_eq_getElem hlast)
      obtain ⟨j, hj, rfl⟩ := List.getElem_of_mem hx
      rw [List.length_take] at hj
      rw [List.getElem_take]
      by_cases hji : j = i - 1
      · subst hji; exact hb
      · have hlt : j < i - 1 := by omega
        have hp := List.pairwise_iff_getElem.1 h.srt j (i - 1) (by omega) hlast hlt
        exact nm_trans (h.nm _ (List.getElem_mem _)) (h.nm _ (List.getElem_mem _)) h3 hp hb
    have high : ∀ x ∈ f.drop i, sgt p.name x.name = false := by
      intro x hx
      obtain ⟨j, hj, rfl⟩ := List.getElem_of_mem hx
      rw [List.length_drop] at hj
      rw [List.getElem_drop]
      have := hab (i + j) (f[i + j]'(by omega)) (by omega) (by omega) (List.getElem?_eq_getElem _)
      exact nm_asym (h.nm _ (List.getElem_mem _)) h3 this
    refine ⟨s1, List.pairwise_cons.2 ⟨fun x hx => high x hx, s2⟩, fun x hx y hy => ?_⟩
    rcases List.mem_cons.1 hy with rfl | hy
    · exact low x hx
    · exact s3 x hx y hy
theorem predV_name (l : List Int) (a j : Nat) (nm : List UInt8) : (predV l a j nm).1.name = nm := by
  unfold predV
  simp only
  repeat' split
  all_goals rfl
theorem filterG_ffv (l : List Int) (a : Nat) : ∀ (n j d : Nat) (f : List Pred), FFV f → FFV (filterG l a n j d f).1 ∧ (filterG l a n j d f).1.length = f.length + n
  | 0, j, d, f, h => ⟨h, rfl⟩
  | n + 1, j, d, f, h => by
    have hn := nameV_nm l a j
    have hp := predV_name l a (j + 1) (nameV l a j)
    have h2 := ins_ffv h (p := (predV l a (j + 1) (nameV l a j)).1) (pred_right _ _ _ (nm_word hn)) (pred_fv _ _ _ _) (by rw [hp]; exact hn)
    rw [hp] at h2
    have := filterG_ffv l a n (j + 1 + (predV l a (j + 1) (nameV l a j)).2) (d + (predV l a (j + 1) (nameV l a j)).1.set.length + 1) _ h2
    refine ⟨this.1, ?_⟩
    have h3 := this.2
    rw [insP_length] at h3
    show (filterG l a n _ _ _).1.length = _
    omega
theorem filterV_ffv (l : List Int) (a j : Nat) : FFV (filterV l a j).1 ∧ (filterV l a j).1.length ≤ 3 := by
  have hb := fd_bound l a j (n := 4) (by omega)
  have := filterG_ffv l a (fd l a j 4).toNat (j + 1) 0 [] ffv_nil
  refine ⟨this.1, ?_⟩
  have h2 := this.2
  simp only [List.length_nil, Nat.zero_add] at h2
  unfold filterV
  omega
theorem filterG_bounds (l : List Int) (a : Nat) : ∀ (n j d : Nat) (f : List Pred), (filterG l a n j d f).2.1 ≤ j + 11 * n ∧ (filterG l a n j d f).2.2 ≤ d + 5 * n
  | 0, j, d, f => ⟨by simp [filterG], by simp [filterG]⟩
  | n + 1, j, d, f => by
    have h1 := pred_asks l a (j + 1) (nameV l a j)
    have hn := nm_word (nameV_nm l a j)
    have h2 : (predV l a (j + 1) (nameV l a j)).1.set.length ≤ 4 := by
      have hr := pred_right l a (j + 1) hn
      generalize (predV l a (j + 1) (nameV l a j)).1 = p at hr ⊢
      unfold pright at hr
      split at hr
      · repeat' split at hr
        all_goals first
          | (simp only [Bool.and_eq_true, decide_eq_true_eq] at hr; omega)
          | cases hr
      · cases hr
    have := filterG_bounds l a n (j + 1 + (predV l a (j + 1) (nameV l a j)).2) (d + (predV l a (j + 1) (nameV l a j)).1.set.length + 1) (insP f (predV l a (j + 1) (nameV l a j)).1 (nameV l a j))
    unfold filterG
    omega
theorem filterV_asks (l : List Int) (a j : Nat) : (filterV l a j).2.1 ≤ j + 34 := by
  have hb := fd_bound l a j (n := 4) (by omega)
  have := (filterG_bounds l a (fd l a j 4).toNat (j + 1) 0 []).1
  unfold filterV
  omega
theorem attrsG_asks (l : List Int) (a : Nat) : ∀ (q : List (List UInt8 × Int)) (j : Nat), (attrsG l a q j).2 ≤ j + 3 * q.length
  | [], j => by simp [attrsG]
  | (nm, x) :: r, j => by
    have h1 := attrsG_asks l a r (j + 3)
    have h2 := attrsG_asks l a r (j + 1)
    unfold attrsG
    split
    · simp only [List.length_cons]; omega
    · simp only [List.length_cons]; omega
theorem attrsV_asks (l : List Int) (a j : Nat) : (attrsV l a j).2 ≤ j + 15 := attrsG_asks l a A5 j
theorem attrsG_len (l : List Int) (a : Nat) : ∀ (q : List (List UInt8 × Int)) (j : Nat), (attrsG l a q j).1.length ≤ q.length
  | [], j => by simp [attrsG]
  | (nm, x) :: r, j => by
    have h1 := attrsG_len l a r (j + 3)
    have h2 := attrsG_len l a r (j + 1)
    unfold attrsG
    split
    · simp only [List.length_cons]; omega
    · simp only [List.length_cons]; omega
theorem attrsV_len (l : List Int) (a j : Nat) : (attrsV l a j).1.length ≤ 5 := attrsG_len l a A5 j
theorem vsame_refl (v : Val) : vsame v v = true := by simp [vsame]
theorem sames_refl : ∀ l : List Val, sames l l = true
  | [] => rfl
  | x :: r => by simp [sames, vsame_refl, sames_refl r]
end Go.Ab
namespace Go.Ab
open Go
set_option linter.unusedVariables false
set_option linter.unusedSimpArgs false
set_option linter.unnecessarySimpa false
/-- Attributes of a feed's values. -/
def AFV (A : List Attr) : Prop := ∀ x ∈ A, ∃ r, FV x.v r
theorem attrsG_fv (l : List Int) (a : Nat) : ∀ (q : List (List UInt8 × Int)) (j : Nat), AFV (attrsG l a q j).1
  | [], j => by intro x hx; simp [attrsG] at hx
  | (nm, n) :: r, j => by
    unfold attrsG
    split
    · intro x hx
      rcases List.mem_cons.1 hx with rfl | hx
      · exact (vr_value _ _ _).2
      · exact attrsG_fv l a r (j + 3) x hx
    · exact attrsG_fv l a r (j + 1)
theorem attrsV_fv (l : List Int) (a j : Nat) : AFV (attrsV l a j).1 := attrsG_fv l a A5 j
theorem aget_fv : ∀ {A : List Attr} {nm : List UInt8}, AFV A → ∃ r, FV (aget A nm).1 r
  | [], nm, _ => fv_zero
  | x :: r, nm, h => by
    unfold aget
    split
    · exact h x (by simp)
    · exact aget_fv fun y hy => h y (by simp [hy])
def Apt (a b : List Pred) : Prop := fcovers a b = false ∧ fcovers b a = false
structure Row (row : List (List Pred)) : Prop where
  apart : row.Pairwise Apt
end Go.Ab
namespace Go.Ab
open Go
set_option linter.unusedVariables false
set_option linter.unusedSimpArgs false
set_option linter.unnecessarySimpa false
structure Sub where
  client : Int
  broker : Int
  num : Int
  filter : List Pred
  deriving Inhabited
structure Grp where
  filter : List Pred
  clients : List Int
  deriving Inhabited
def Sub.cells (s : Sub) : List V := [.int .i64 s.client, .int .i64 s.broker, .int .i64 s.num, .slice (encPreds s.filter)]
def Sub.enc (s : Sub) : V := .agg s.cells
def encSubs (l : List Sub) : List V := l.map Sub.enc
def Grp.cells (s : Grp) : List V := [.slice (encPreds s.filter), .slice (intVs s.clients)]
def Grp.enc (s : Grp) : V := .agg s.cells
def encGrps (l : List Grp) : List V := l.map Grp.enc
theorem encSubs_length (l : List Sub) : (encSubs l).length = l.length := by simp [encSubs]
theorem encSubs_get (l : List Sub) (i : Nat) : (encSubs l)[i]? = (l[i]?).map Sub.enc := by simp [encSubs]
theorem encSubs_gE (l : List Sub) (i : Nat) (h : i < (encSubs l).length) : (encSubs l)[i]'h = (l[i]'(by rw [encSubs_length] at h; exact h)).enc := by simp [encSubs]
theorem flat_sub (v : Sub) : v.enc.flat = true := by simp [Sub.enc, Sub.cells, V.flat, flats]
theorem flats_subs (l : List Sub) : flats (encSubs l) = true := by
  induction l with
  | nil => rfl
  | cons x r ih => simp only [encSubs, List.map_cons, flats, flat_sub] at ih ⊢; exact ih
theorem encGrps_length (l : List Grp) : (encGrps l).length = l.length := by simp [encGrps]
theorem encGrps_get (l : List Grp) (i : Nat) : (encGrps l)[i]? = (l[i]?).map Grp.enc := by simp [encGrps]
theorem encGrps_gE (l : List Grp) (i : Nat) (h : i < (encGrps l).length) : (encGrps l)[i]'h = (l[i]'(by rw [encGrps_length] at h; exact h)).enc := by simp [encGrps]
theorem flat_grp (v : Grp) : v.enc.flat = true := by simp [Grp.enc, Grp.cells, V.flat, flats]
theorem flats_grps (l : List Grp) : flats (encGrps l) = true := by
  induction l with
  | nil => rfl
  | cons x r ih => simp only [encGrps, List.map_cons, flats, flat_grp] at ih ⊢; exact ih
attribute [simp] encSubs_length encSubs_get encSubs_gE flat_sub flats_subs encGrps_length encGrps_get encGrps_gE flat_grp flats_grps Sub.enc Sub.cells Grp.enc Grp.cells
theorem sizes_subs (l : List Sub) : sizesOk 4 (encSubs l) = true := by
  induction l with
  | nil => rfl
  | cons x r ih => simp only [encSubs, List.map_cons, sizesOk] at ih ⊢; rw [ih]; rfl
theorem sizes_grps (l : List Grp) : sizesOk 2 (encGrps l) = true := by
  induction l with
  | nil => rfl
  | cons x r ih => simp only [encGrps, List.map_cons, sizesOk] at ih ⊢; rw [ih]; rfl
theorem sizes_ints (l : List Int) : sizesOk 1 (intVs l) = true := by
  induction l with
  | nil => rfl
  | cons x r ih => simp only [intVs, List.map_cons, sizesOk] at ih ⊢; rw [ih]; rfl
theorem subs_snoc (l : List Sub) (x : Sub) : encSubs l ++ [.agg [.int .i64 x.client, .int .i64 x.broker, .int .i64 x.num, .slice (encPreds x.filter)]] = encSubs (l ++ [x]) := by simp [encSubs]
theorem grps_snoc (l : List Grp) (x : Grp) : encGrps l ++ [.agg [.slice (encPreds x.filter), .slice (intVs x.clients)]] = encGrps (l ++ [x]) := by simp [encGrps]
theorem ints_snoc (l : List Int) (x : Int) : intVs l ++ [.int .i64 x] = intVs (l ++ [x]) := by simp [intVs]
theorem ints_append (l m : List Int) : intVs l ++ intVs m = intVs (l ++ m) := by simp [intVs]
theorem ints_take (l : List Int) (n : Nat) : (intVs l).take n = intVs (l.take n) := by simp [intVs]
theorem ints_drop (l : List Int) (n : Nat) : (intVs l).drop n = intVs (l.drop n) := by simp [intVs]
/-- With one more, rising, once. -/
def layI : List Int → Int → List Int
  | [], n => [n]
  | x :: r, n => if x < n then x :: layI r n else if x = n then x :: r else n :: x :: r
def rising (l : List Int) : Prop := l.Pairwise (· < ·)
theorem layI_mem : ∀ {l : List Int} {n x : Int}, x ∈ layI l n ↔ x = n ∨ x ∈ l
  | [], n, x => by simp [layI]
  | y :: r, n, x => by
    unfold layI
    split
    · rw [List.mem_cons, layI_mem, List.mem_cons]
      constructor
      · rintro (h | h | h)
        · exact .inr (.inl h)
        · exact .inl h
        · exact .inr (.inr h)
      · rintro (h | h | h)
        · exact .inr (.inl h)
        · exact .inl h
        · exact .inr (.inr h)
    · split
      · rename_i h; subst h; simp
      · simp
theorem layI_rising : ∀ {l : List Int} {n : Int}, rising l → rising (layI l n)
  | [], n, _ => by simp [layI, rising]
  | y :: r, n, h => by
    unfold rising at h ⊢
    rw [List.pairwise_cons] at h
    unfold layI
    split
    · rw [List.pairwise_cons]
      refine ⟨fun x hx => ?_, layI_rising h.2⟩
      rcases layI_mem.1 hx with rfl | hx
      · assumption
      · exact h.1 x hx
    · split
      · rw [List.pairwise_cons]; exact h
      · rw [List.pairwise_cons, List.pairwise_cons]
        refine ⟨fun x hx => ?_, h⟩
        rcases List.mem_cons.1 hx with rfl | hx
        · omega
        · have := h.1 x hx; omega
theorem layI_len (l : List Int) (n : Int) : (layI l n).length ≤ l.length + 1 := by
  induction l with
  | nil => simp [layI]
  | cons y r ih =>
    unfold layI
    split
    · simp; omega
    · split <;> simp
def posI (l : List Int) (n : Int) : Nat := (l.takeWhile fun x => decide (x < n)).length
theorem posI_le : ∀ (l : List Int) (n : Int), posI l n ≤ l.length
  | [], _ => by simp [posI]
  | x :: r, n => by
    have := posI_le r n
    unfold posI at this ⊢
    rw [List.takeWhile_cons]
    split <;> simp; omega
theorem posI_lt : ∀ (l : List Int) (n : Int) (i : Nat) (x : Int), i < posI l n → l[i]? = some x → x < n
  | [], _, _, _, _, h => by simp at h
  | y :: r, n, i, x, hi, hx => by
    unfold posI at hi
    rw [List.takeWhile_cons] at hi
    split at hi
    · rename_i hy
      cases i with
      | zero => simp at hx; subst hx; simpa using hy
      | succ i => exact posI_lt r n i x (by unfold posI; simpa using hi) (by simpa using hx)
    · simp at hi
theorem posI_ge : ∀ (l : List Int) (n : Int) (x : Int), l[posI l n]? = some x → ¬ x < n
  | [], _, _, h => by simp at h
  | y :: r, n, x, hx => by
    unfold posI at hx
    rw [List.takeWhile_cons] at hx
    split at hx
    · rw [List.length_cons, List.getElem?_cons_succ] at hx
      exact posI_ge r n x hx
    · rename_i hy
      simp at hx; subst hx; simpa using hy
theorem layI_eq : ∀ (l : List Int) (n : Int), layI l n = if l[posI l n]? = some n then l else l.take (posI l n) ++ [n] ++ l.drop (posI l n)
  | [], n => by simp [layI, posI]
  | y :: r, n => by
    have ih := layI_eq r n
    unfold layI
    by_cases hy : y < n
    · have hp : posI (y :: r) n = posI r n + 1 := by unfold posI; rw [List.takeWhile_cons]; simp [hy]
      rw [if_pos hy, hp, ih]
      simp only [List.getElem?_cons_succ, List.take_succ_cons, List.drop_succ_cons]
      split <;> rfl
    · have hp : posI (y :: r) n = 0 := by unfold posI; rw [List.takeWhile_cons]; simp [hy]
      rw [if_neg hy, hp]
      simp
def fstOf (l : List Sub) (i : Nat) (s : Sub) : Bool := (l.take i).foldl (fun b t => b && !fsame s.filter t.filter) true
def cliStep (s : Sub) (acc : List Int) (t : Sub) : List Int := if fsame s.filter t.filter then layI acc t.client else acc
def cliOf (l : List Sub) (s : Sub) : List Int := l.foldl (cliStep s) []
/-- A group of each filter that is not one ahead of it. -/
def gofG (l : List Sub) : Nat → List Sub → List Grp → List Grp
  | _, [], out => out
  | i, s :: r, out => gofG l (i + 1) r (if fstOf l i s then out ++ [⟨s.filter, cliOf l s⟩] else out)
def gof (l : List Sub) : List Grp := gofG l 0 l []
def matchG (A : List Attr) : Nat → List Grp → List Int → List Int
  | _, [], out => out
  | i, x :: r, out => matchG A (i + 1) r (if ftakes x.filter A then out ++ [(i : Int)] else out)
def gmatch (g : List Grp) (A : List Attr) : List Int := matchG A 0 g []
def rdStep (g : List Grp) (out : List Int) (i : Int) : List Int := if i < 0 ∨ (g.length : Int) ≤ i then out else ((g[i.toNat]?).getD default).clients.foldl layI out
def greaders (g : List Grp) (m : List Int) : List Int := m.foldl (rdStep g) []
def hasI : List Int → Int → Bool
  | [], _ => false
  | x :: r, n => if x = n then true else hasI r n
def mineG (c : Int) : Nat → List Grp → List Int → List Int
  | _, [], out => out
  | i, x :: r, out => mineG c (i + 1) r (if hasI x.clients c then out ++ [(i : Int)] else out)
/-- Subscriptions as a feed yields them. -/
def subsI (l : List Int) (a : Nat) (fs : List (List Pred)) (c home : Int) : Nat → Int → Nat → Nat → List Sub → List Sub × Nat × Nat
  | 0, _, j, d, out => (out, j, d)
  | n + 1, num, j, d, out =>
    subsI l a fs c home n (num + 1 + fd l a j 2) ((filterV l a (j + 1)).2.1 + 1) (d + (filterV l a (j + 1)).2.2)
      (out ++ [⟨c, home, num + 1 + fd l a j 2, if fd l a (filterV l a (j + 1)).2.1 6 < 3 then fs.getD (fd l a (filterV l a (j + 1)).2.1 6).toNat [] else (filterV l a (j + 1)).1⟩])
def subsO (l : List Int) (a P : Nat) (fs : List (List Pred)) : Nat → Int → Nat → Nat → List Sub → List Sub × Nat × Nat
  | 0, _, j, d, out => (out, j, d)
  | r + 1, c, j, d, out =>
    subsO l a P fs r (c + 1) (subsI l a fs c (fd l a j (P + 1)) (fd l a (j + 1) 4).toNat 0 (j + 2) d out).2.1 (subsI l a fs c (fd l a j (P + 1)) (fd l a (j + 1) 4).toNat 0 (j + 2) d out).2.2 (subsI l a fs c (fd l a j (P + 1)) (fd l a (j + 1) 4).toNat 0 (j + 2) d out).1
def subsF (l : List Int) (a j : Nat) : List (List Pred) := [(filterV l a j).1, (filterV l a (filterV l a j).2.1).1, []]
def subsV (l : List Int) (a j P : Nat) : List Sub × Nat × Nat :=
  subsO l a P (subsF l a j) 6 1 (filterV l a (filterV l a j).2.1).2.1 ((filterV l a j).2.2 + (filterV l a (filterV l a j).2.1).2.2) []
theorem subsI_asks (l : List Int) (a : Nat) (fs : List (List Pred)) (c home : Int) : ∀ (n : Nat) (num : Int) (j d : Nat) (out : List Sub), (subsI l a fs c home n num j d out).2.1 ≤ j + 36 * n ∧ (subsI l a fs c home n num j d out).1.length = out.length + n
  | 0, _, _, _, _ => by simp [subsI]
  | n + 1, num, j, d, out => by
    simp only [subsI]
    have h1 := subsI_asks l a fs c home n (num + 1 + fd l a j 2) ((filterV l a (j + 1)).2.1 + 1) (d + (filterV l a (j + 1)).2.2) (out ++ [⟨c, home, num + 1 + fd l a j 2, if fd l a (filterV l a (j + 1)).2.1 6 < 3 then fs.getD (fd l a (filterV l a (j + 1)).2.1 6).toNat [] else (filterV l a (j + 1)).1⟩])
    have h2 := filterV_asks l a (j + 1)
    refine ⟨by omega, ?_⟩
    rw [h1.2]; simp; omega
theorem subsO_asks (l : List Int) (a P : Nat) (fs : List (List Pred)) : ∀ (r : Nat) (c : Int) (j d : Nat) (out : List Sub), (subsO l a P fs r c j d out).2.1 ≤ j + 110 * r ∧ (subsO l a P fs r c j d out).1.length ≤ out.length + 3 * r
  | 0, _, _, _, _ => by simp [subsO]
  | r + 1, c, j, d, out => by
    simp only [subsO]
    have h0 := fd_bound l a (j + 1) (n := 4) (by omega)
    have h1 := subsI_asks l a fs c (fd l a j (P + 1)) (fd l a (j + 1) 4).toNat 0 (j + 2) d out
    have h2 := subsO_asks l a P fs r (c + 1) (subsI l a fs c (fd l a j (P + 1)) (fd l a (j + 1) 4).toNat 0 (j + 2) d out).2.1 (subsI l a fs c (fd l a j (P + 1)) (fd l a (j + 1) 4).toNat 0 (j + 2) d out).2.2 (subsI l a fs c (fd l a j (P + 1)) (fd l a (j + 1) 4).toNat 0 (j + 2) d out).1
    have h3 : (fd l a (j + 1) 4).toNat ≤ 3 := by omega
    omega
theorem subsV_asks (l : List Int) (a j P : Nat) : (subsV l a j P).2.1 ≤ j + 800 ∧ (subsV l a j P).1.length ≤ 18 := by
  unfold subsV
  have h1 := filterV_asks l a j
  have h2 := filterV_asks l a (filterV l a j).2.1
  have h3 := subsO_asks l a P (subsF l a j) 6 1 (filterV l a (filterV l a j).2.1).2.1 ((filterV l a j).2.2 + (filterV l a (filterV l a j).2.1).2.2) []
  simp at h3
  omega
/-- What holds of each of them. -/
theorem subsI_all {Q : Sub → Prop} (l : List Int) (a : Nat) (fs : List (List Pred)) (c home : Int) (hq : ∀ num f, (f ∈ fs ∨ f = [] ∨ ∃ j, f = (filterV l a j).1) → Q ⟨c, home, num, f⟩) : ∀ (n : Nat) (num : Int) (j d : Nat) (out : List Sub), (∀ s ∈ out, Q s) → ∀ s ∈ (subsI l a fs c home n num j d out).1, Q s
  | 0, _, _, _, _, h => h
  | n + 1, num, j, d, out, h => by
    simp only [subsI]
    refine subsI_all l a fs c home hq n _ _ _ _ fun s hs => ?_
    rcases List.mem_append.1 hs with hs | hs
    · exact h s hs
    · simp at hs; subst hs
      refine hq _ _ ?_
      split
      · cases hg : fs[(fd l a (filterV l a (j + 1)).2.1 6).toNat]? with
        | none => exact .inr (.inl rfl)
        | some f => exact .inl (List.mem_of_getElem? hg)
      · exact .inr (.inr ⟨_, rfl⟩)
theorem subsO_all {Q : Sub → Prop} (l : List Int) (a P : Nat) (fs : List (List Pred)) (hq : ∀ (c home num : Int) f, 1 ≤ c → c ≤ 6 → (f ∈ fs ∨ f = [] ∨ ∃ j, f = (filterV l a j).1) → Q ⟨c, home, num, f⟩) : ∀ (r : Nat) (c : Int) (j d : Nat) (out : List Sub), 1 ≤ c → c + r ≤ 7 → (∀ s ∈ out, Q s) → ∀ s ∈ (subsO l a P fs r c j d out).1, Q s
  | 0, _, _, _, _, _, _, h => h
  | r + 1, c, j, d, out, h1, h2, h => by
    simp only [subsO]
    refine subsO_all l a P fs hq r _ _ _ _ (by omega) (by omega) ?_
    exact subsI_all l a fs c _ (fun num f hf => hq c _ num f h1 (by omega) hf) _ _ _ _ _ h
/-- What a feed's subscriptions are. -/
theorem subsV_all (l : List Int) (a j P : Nat) : ∀ s ∈ (subsV l a j P).1, 1 ≤ s.client ∧ s.client ≤ 6 ∧ FFV s.filter ∧ s.filter.length ≤ 3 := by
  unfold subsV
  refine subsO_all (Q := fun s => 1 ≤ s.client ∧ s.client ≤ 6 ∧ FFV s.filter ∧ s.filter.length ≤ 3) l a P _ (fun c home num f h1 h2 hf => ?_) 6 1 _ _ [] (by omega) (by omega) (by simp)
  refine ⟨h1, h2, ?_⟩
  show FFV f ∧ f.length ≤ 3
  rcases hf with hf | rfl | ⟨j, rfl⟩
  · unfold subsF at hf
    simp at hf
    rcases hf with rfl | rfl | rfl
    · exact filterV_ffv l a j
    · exact filterV_ffv l a _
    · exact ⟨ffv_nil, by simp⟩
  · exact ⟨ffv_nil, by simp⟩
  · exact filterV_ffv l a j
end Go.Ab
namespace Go.Proofs.Ytclpbfkbpcjejaa
open Go Go.Ab
set_option linter.unusedVariables false
set_option linter.unusedSimpArgs false
set_option linter.unnecessarySimpa false
set_option maxRecDepth 20000
noncomputable section
variable (fr : Fr) (st : St) (k : Kt)
def fi51 : FI := { body := codeOf Try.f51, ntmps := 25, results := [.tmp 2], pers := [0, 2, 3, 4, 5], locals := [5], pure := true, marks := [] }
theorem fi51_eq : gS.fn 51 = some fi51 := by kernel_rfl
theorem st51 (a0 : V) : startFr fi51 [a0] = { ps := [(0, .val a0), (2, .any), (3, .any), (4, .any), (5, .any)], ts := [], lc := [] } := rfl
def b51 : Code := mini (codeOf Try.f51)
def c51_12 : Code := .cond (.tmp 9) .skip (.exit 0)
def c51_10 : Code := .seq (codeN b51 267) c51_12
def c51_21 : Code := codeN b51 3659
def c51_19 : Code := .seq (codeN b51 2635) c51_21
def c51_17 : Code := .seq (codeN b51 1099) c51_19
def c51_22 : Code := codeN b51 459
def c51_15 : Code := .seq (.block 1 c51_17) c51_22
def c51_9 : Code := .seq c51_10 c51_15
def c51_8 : Code := .loop c51_9
def c51_7 : Code := .block 0 c51_8
def c51_5 : Code := .seq (codeN b51 19) c51_7
def c51_23 : Code := .seq (codeN b51 23) .ret
def c51_4 : Code := .seq c51_5 c51_23
def c51_2 : Code := .seq (codeN b51 5) c51_4
def c51_0 : Code := .seq (codeN b51 2) c51_2
theorem E51 : evK gS fi51 c51_12 fr st k = condK gS fi51 (fr.op (.tmp 9)).bool? .skip (.exit 0) fr st k ∧
 (evK gS fi51 c51_10 fr st k = opsR gS fi51 [mv 6 4 3,
 mv 7 0 49,
 len1 8 7 49 3,
 bop 9 .lss 3 6 8 3 4] fr st (.seq c51_12 k)) ∧
 (evK gS fi51 c51_21 fr st k = opsR gS fi51 [mv 20 3 49,
 ld 21 27 5 27,
 op1 22 (.buildSlice 49 1 #[(0, (.tmp 21))]) 49,
 op1 23 (.call { callee := (.builtin .append), args := #[(.tmp 20), (.tmp 22)], argTypes := #[49, 49] }) 49,
 asn 3 23 49] fr st k) ∧
 (evK gS fi51 c51_19 fr st k = opsR gS fi51 [op1 16 (.fieldAddr 27 (.tmp 5) 4) 0,
 ld 17 25 16 25,
 op1 18 (.call { callee := (.builtin .append), args := #[(.const (.slice none 0 0)), (.tmp 17)], argTypes := #[25, 25] }) 25,
 op1 19 (.fieldAddr 27 (.tmp 5) 4) 0,
 sto 25 19 18] fr st (.seq c51_21 k)) ∧
 (evK gS fi51 c51_17 fr st k = opsR gS fi51 [mv 12 0 49,
 mv 13 4 3,
 ixa 14 49 12 13 0,
 ld 15 27 14 27,
 op1 5 (.alloc 27) 0,
 sto 27 5 15] fr st (.seq c51_19 k)) ∧
 (evK gS fi51 c51_22 fr st k = opsR gS fi51 [mv 10 4 3,
 op1 11 (.binOp .add 3 (.tmp 10) (.const (.int .i64 1)) 3) 3,
 asn 4 11 3] fr st k) ∧
 evK gS fi51 c51_15 fr st k = evK gS fi51 c51_17 fr st (.blk 1 (.seq c51_22 k)) ∧
 evK gS fi51 c51_9 fr st k = evK gS fi51 c51_10 fr st (.seq c51_15 k) ∧
 evK gS fi51 c51_7 fr st k = evK gS fi51 c51_8 fr st (.blk 0 k) ∧
 evK gS fi51 c51_5 fr st k = opsR gS fi51 [op1 4 (.assign (.const (.int .i64 0))) 3] fr st (.seq c51_7 k) ∧
 (evK gS fi51 c51_23 fr st k = opsR gS fi51 [mv 24 3 49,
 asn 2 24 49] fr st (.seq .ret k)) ∧
 evK gS fi51 c51_4 fr st k = evK gS fi51 c51_5 fr st (.seq c51_23 k) ∧
 evK gS fi51 c51_2 fr st k = opsR gS fi51 [op1 3 (.assign (.const (.slice none 0 0))) 49] fr st (.seq c51_4 k) ∧
 evK gS fi51 c51_0 fr st k = opsR gS fi51 [op1 2 (.assign (.const (.slice none 0 0))) 49] fr st (.seq c51_2 k) := ⟨rfl, evK_rs 3 rfl (by kernel_rfl), evK_r 7 (by kernel_rfl), evK_rs 6 rfl (by kernel_rfl), evK_rs 5 rfl (by kernel_rfl), evK_r 4 (by kernel_rfl), rfl, rfl, rfl, evK_rs 2 rfl (by kernel_rfl), evK_rs 8 rfl (by kernel_rfl), rfl, evK_rs 1 rfl (by kernel_rfl), evK_rs 0 rfl (by kernel_rfl)⟩
theorem m51 : mini fi51.body = c51_0 := by kernel_rfl
theorem n51_8 (fr : Fr) (st : St) (k : Kt) : nextK gS fi51 (.loop c51_9 k) .normal fr st = evK gS fi51 c51_8 fr st k := rfl
theorem preds_snoc (l : List Pred) (x : Pred) : encPreds l ++ [.agg [.str x.name, .int .i64 x.test, .int .i64 x.v.kind, .int .i64 x.v.n, .float .f64 x.v.x, .str x.v.s, .bool x.v.b, .int .i64 x.w.kind, .int .i64 x.w.n, .float .f64 x.w.x, .str x.w.s, .bool x.w.b, .slice (encVals x.set)]] = encPreds (l ++ [x]) := by simp [encPreds]
/-- How much room a row's cells take that was laid one by one. -/
def kof {α : Type} (k : Nat) (l : List α) : Nat := if l = [] then 0 else k
set_option maxHeartbeats 8000000 in
theorem L51 (f : List Pred) (h_f : PSm f) (st : St) : ∀ (n i : Nat) (e5 : E) (T : List (Nat × E)) (X : List (Nat × List V)) (ht5 : e5.Tame), i ≤ f.length → f.length - i = n →
    evK gS fi51 c51_8 { ps := [(0, .val (.slice (encPreds f))), (2, .own 0 []), (3, .own (kof 13 (f.take i)) (encPreds (f.take i))), (4, .val (.int .i64 i)), (5, e5)], ts := T, lc := X } st (.blk 0 (.seq c51_23 .nil)) = some (.ret (.slice (encPreds f)) (some (kof 13 f)), st) := by
  intro n
  have hm : fi51.marks = [] := rfl
  have hl : fi51.locals = [5] := rfl
  have hr : fi51.results = [.tmp 2] := rfl
  have hfl := h_f.1
  induction n with
  | zero =>
    intro i e5 T X ht5 hi hn
    obtain rfl : i = f.length := by omega
    refine evK_loop c51_9 _ _ _ _ rfl ?_
    rw [List.take_length]
    by_cases hfe : f = []
    · subst hfe
      simp [ht5, kof, encPreds, -Int.not_le, -Int.not_lt, -Nat.not_le, -Nat.not_lt, ty3, ty4, ty25, ty27, ty49, hm, hl, hr, E51, n51_8]
    · have hk : kof 13 f = 13 := by unfold kof; rw [if_neg hfe]
      rw [hk]
      simp [ht5, -Int.not_le, -Int.not_lt, -Nat.not_le, -Nat.not_lt, ty3, ty4, ty25, ty27, ty49, hm, hl, hr, E51, n51_8]
  | succ n ih =>
    intro i e5 T X ht5 hi hn
    obtain ⟨x, hx⟩ : ∃ x, f[i]? = some x := ⟨f[i]'(by omega), List.getElem?_eq_getElem (by omega)⟩
    have hlt : (i : Int) < (f.length : Int) := by omega
    have hlt2 : i < f.length := by omega
    have hxe : f[i]'hlt2 = x := by rw [List.getElem?_eq_getElem hlt2] at hx; exact Option.some.inj hx
    have hw : IntKind.wrap .i64 ((i : Int) + 1) = ((i + 1 : Nat) : Int) := by rw [wrap64 (by omega) (by omega)]; omega
    have hxs := (h_f.2 x (List.mem_of_getElem? hx)).2
    have hxs2 : x.set.length ≤ 140737488355328 := by omega
    have htk : f.take (i + 1) = f.take i ++ [x] := by rw [List.take_succ_eq_append_getElem hlt2, hxe]
    have IH := fun e5 T X ht5 => ih (i + 1) e5 T X ht5 (by omega) (by omega)
    have hk1 : kof 13 (f.take (i + 1)) = 13 := by rw [htk]; simp [kof]
    rw [hk1, htk] at IH
    have hsv := sizes_vals x.set
    have hsp := sizes_preds (f.take i)
    have hsn := preds_snoc (f.take i) x
    have hln : (f.take i).length = i := by simp; omega
    have b1 : (i + 1) * 144 ≤ 140737488355328 := by omega
    have b2 : i + 1 ≤ 140737488355328 := by omega
    have hk0 : kof 13 (f.take i) = 0 ∧ f.take i = [] ∨ kof 13 (f.take i) = 13 := by
      unfold kof; split
      · exact .inl ⟨rfl, by assumption⟩
      · exact .inr rfl
    refine evK_loop c51_9 _ _ _ _ rfl ?_
    generalize hF : f.take i = F at *
    rcases hk0 with ⟨h1, h2⟩ | h1
    · rw [h1, h2]
      rw [h2] at IH
      have hi0 : i = 0 := by rw [← hln, h2]; rfl
      have hsn0 : encPreds [x] = [.agg [.str x.name, .int .i64 x.test, .int .i64 x.v.kind, .int .i64 x.v.n, .float .f64 x.v.x, .str x.v.s, .bool x.v.b, .int .i64 x.w.kind, .int .i64 x.w.n, .float .f64 x.w.x, .str x.w.s, .bool x.w.b, .slice (encVals x.set)]] := rfl
      rw [List.nil_append, hsn0] at IH
      have en : encPreds [] = [] := rfl
      simp [-Int.natCast_add, en, ht5, hx, hxe, hlt, hlt2, hw, hxs, hxs2, hsv, -Int.not_le, -Int.not_lt, -Nat.not_le, -Nat.not_lt, ty3, ty4, ty25, ty27, ty49, hm, hl, hr, E51, n51_8]
      exact IH _ _ _ rfl
    · rw [h1]
      simp [-Int.natCast_add, ht5, hx, hxe, hlt, hlt2, hw, hxs, hxs2, hsv, hsp, hsn, hln, b1, b2, IH, -Int.not_le, -Int.not_lt, -Nat.not_le, -Nat.not_lt, ty3, ty4, ty25, ty27, ty49, hm, hl, hr, E51, n51_8]
set_option maxHeartbeats 8000000 in
theorem c51 (f : List Pred) (h_f : PSm f) (st : St) : EvF gS 51 [.slice (encPreds f)] st = some (.ret (.slice (encPreds f)) (some (kof 13 f)), st) := by
  refine EvF_start fi51_eq (fun x h => by cases h) m51 ?_
  rw [st51]
  have hm : fi51.marks = [] := rfl
  have hl : fi51.locals = [5] := rfl
  have hr : fi51.results = [.tmp 2] := rfl
  have L0 := fun e5 T X ht5 => L51 f h_f st f.length 0 e5 T X ht5 (Nat.zero_le _) rfl
  simp only [show ((0 : Nat) : Int) = 0 from rfl, List.take_zero, show kof 13 ([] : List Pred) = 0 from rfl, show encPreds [] = [] from rfl] at L0
  simp [L0, -Int.not_le, -Int.not_lt, -Nat.not_le, -Nat.not_lt, ty3, ty4, ty25, ty27, ty49, hm, hl, hr, E51, n51_8]
theorem k51 (f : List Pred) (h_f : PSm f) (fr : Fr) (st : St) : callStep gS (EvF gS) 51 [.slice (encPreds f)] fr st = some (.ok (.own (kof 13 f) (encPreds f)) fr st) :=
  call_pure rfl fi51_eq rfl (fun st => c51 f h_f st) (by simp [V.flat])
theorem psm_right {f : List Pred} (h : ∀ p ∈ f, pright p = true) (hl : f.length ≤ 1000000) : PSm f := by
  refine ⟨hl, fun p hp => ?_⟩
  have hr := h p hp
  refine ⟨(ok_of_right hr).1, ?_⟩
  unfold pright at hr
  split at hr
  · repeat' split at hr
    all_goals first
      | (simp only [Bool.and_eq_true, decide_eq_true_eq] at hr; omega)
      | cases hr
  · cases hr
theorem psm_ffv {f : List Pred} (h : FFV f ∧ f.length ≤ 3) : PSm f := psm_right h.1.right (by omega)
theorem kof_snoc {α : Type} (k : Nat) (l : List α) (x : α) : kof k (l ++ [x]) = k := by unfold kof; rw [if_neg (by simp)]
theorem kof_or {α : Type} (k : Nat) (l : List α) : kof k l = 0 ∧ l = [] ∨ kof k l = k := by
  unfold kof; split
  · exact .inl ⟨rfl, by assumption⟩
  · exact .inr rfl
theorem frz_slice {xs : List V} (h : flats xs = true) (st : St) : frz 6 st (.slice xs) = some (.slice xs, st) := frz_flat 6 st _ (by simpa [V.flat] using h)
def fi95 : FI := { body := codeOf Try.f95, ntmps := 46, results := [.tmp 4], pers := [0, 1, 4, 5, 6], locals := [], pure := true, marks := [1000000] }
theorem fi95_eq : gS.fn 95 = some fi95 := by kernel_rfl
theorem st95 (a0 a1 : V) : startFr fi95 [a0, a1] = { ps := [(0, .val a0), (1, .val a1), (4, .any), (5, .any), (6, .any)], ts := [], lc := [] } := rfl
def b95 : Code := mini (codeOf Try.f95)
def c95_10 : Code := .cond (.tmp 18) .skip (.exit 0)
def c95_8 : Code := .seq (codeN b95 131) c95_10
def c95_14 : Code := codeN b95 163
def c95_13 : Code := .block 1 c95_14
def c95_7 : Code := .seq c95_8 c95_13
def c95_6 : Code := .loop c95_7
def c95_19 : Code := .seq (codeN b95 151) .ret
def c95_18 : Code := .cond (.tmp 32) c95_19 .skip
def c95_16 : Code := .seq (codeN b95 39) c95_18
def r95_26 : Array Oper := regOps (codeN (codeOf Try.f95) 95)
def c95_26 : Code := .region 7 r95_26 true
def q95_26 : List (Oper × Fl) := [(mv 38 6 28, ⟨true, false, true, false, false, false, true, true, false, false, []⟩),
 (mv 39 1 3, ⟨true, false, true, false, false, false, true, true, false, false, []⟩),
 (op1 40 (.buildSlice 28 1 #[(0, (.tmp 39))]) 28, ⟨true, false, true, false, false, false, true, true, false, false, []⟩),
 (op1 41 (.call { callee := (.builtin .append), args := #[(.tmp 38), (.tmp 40)], argTypes := #[28, 28] }) 28, ⟨false, true, true, false, false, true, true, true, false, false, []⟩),
 (mv 42 0 28, ⟨true, false, false, false, false, false, true, false, false, false, []⟩),
 (mv 43 5 3, ⟨true, false, false, false, true, false, true, false, false, false, []⟩),
 (op1 44 (.slice 28 (.tmp 42) (some (.tmp 43)) none none) 28, ⟨true, false, false, false, true, false, true, false, false, false, []⟩),
 (op1 45 (.call { callee := (.builtin .append), args := #[(.tmp 41), (.tmp 44)], argTypes := #[28, 28] }) 28, ⟨false, true, true, false, true, true, true, true, false, false, []⟩),
 (asn 4 45 28, ⟨true, true, true, false, true, false, true, true, false, false, []⟩)]
def c95_25 : Code := .seq c95_26 .ret
def c95_23 : Code := .seq (codeN b95 47) c95_25
def c95_15 : Code := .seq c95_16 c95_23
theorem e95_15 : evK gS fi95 c95_15 fr st k = evK gS fi95 c95_16 fr st (.seq c95_23 k) := rfl
def c95_4 : Code := .seq (.block 0 c95_6) c95_15
def c95_2 : Code := .seq (codeN b95 5) c95_4
def c95_0 : Code := .seq (codeN b95 2) c95_2
theorem E95 : evK gS fi95 c95_10 fr st k = condK gS fi95 (fr.op (.tmp 18)).bool? .skip (.exit 0) fr st k ∧
 (evK gS fi95 c95_8 fr st k = opsR gS fi95 [mv 7 5 3,
 mv 8 0 28,
 len1 9 8 28 3,
 bop 10 .lss 3 7 9 3 4,
 mv 11 10 4,
 mk (some 12) (.move (.tmp 0)) 28 (some (4, true)),
 mk (some 13) (.move (.tmp 5)) 3 (some (4, true)),
 mk (some 14) (.indexAddr 28 (.tmp 12) (.tmp 13)) 0 (some (4, true)),
 mk (some 15) (.load 3 (.tmp 14)) 3 (some (4, true)),
 mk (some 16) (.move (.tmp 1)) 3 (some (4, true)),
 mk (some 17) (.binOp .lss 3 (.tmp 15) (.tmp 16) 3) 4 (some (4, true)),
 op1 18 (.pick (.tmp 11) (.tmp 17) (.const (.bool false))) 4] fr st (.seq c95_10 k)) ∧
 (evK gS fi95 c95_14 fr st k = opsR gS fi95 [mv 19 5 3,
 op1 20 (.binOp .add 3 (.tmp 19) (.const (.int .i64 1)) 3) 3,
 asn 5 20 3] fr st k) ∧
 evK gS fi95 c95_13 fr st k = evK gS fi95 c95_14 fr st (.blk 1 k) ∧
 evK gS fi95 c95_7 fr st k = evK gS fi95 c95_8 fr st (.seq c95_13 k) ∧
 (evK gS fi95 c95_19 fr st k = opsR gS fi95 [mv 33 0 28,
 asn 4 33 28] fr st (.seq .ret k)) ∧
 evK gS fi95 c95_18 fr st k = condK gS fi95 (fr.op (.tmp 32)).bool? c95_19 .skip fr st k ∧
 (evK gS fi95 c95_16 fr st k = opsR gS fi95 [mv 21 5 3,
 mv 22 0 28,
 len1 23 22 28 3,
 bop 24 .lss 3 21 23 3 4,
 mv 25 24 4,
 mk (some 26) (.move (.tmp 0)) 28 (some (4, true)),
 mk (some 27) (.move (.tmp 5)) 3 (some (4, true)),
 mk (some 28) (.indexAddr 28 (.tmp 26) (.tmp 27)) 0 (some (4, true)),
 mk (some 29) (.load 3 (.tmp 28)) 3 (some (4, true)),
 mk (some 30) (.move (.tmp 1)) 3 (some (4, true)),
 mk (some 31) (.binOp .eql 3 (.tmp 29) (.tmp 30) 3) 4 (some (4, true)),
 op1 32 (.pick (.tmp 25) (.tmp 31) (.const (.bool false))) 4] fr st (.seq c95_18 k)) ∧
 evK gS fi95 c95_26 fr st k = drwR gS fi95 r95_26 q95_26 fr st k ∧
 evK gS fi95 c95_25 fr st k = evK gS fi95 c95_26 fr st (.seq .ret k) ∧
 (evK gS fi95 c95_23 fr st k = opsR gS fi95 [mv 34 0 28,
 mv 35 5 3,
 op1 36 (.slice 28 (.tmp 34) none (some (.tmp 35)) none) 28,
 op1 37 (.call { callee := (.builtin .append), args := #[(.const (.slice none 0 0)), (.tmp 36)], argTypes := #[28, 28] }) 28,
 asn 6 37 28] fr st (.seq c95_25 k)) ∧
 evK gS fi95 c95_4 fr st k = evK gS fi95 c95_6 fr st (.blk 0 (.seq c95_15 k)) ∧
 evK gS fi95 c95_2 fr st k = opsR gS fi95 [op1 5 (.assign (.const (.int .i64 0))) 3] fr st (.seq c95_4 k) ∧
 evK gS fi95 c95_0 fr st k = opsR gS fi95 [op1 4 (.assign (.const (.slice none 0 0))) 28] fr st (.seq c95_2 k) := ⟨rfl, evK_rs 2 rfl (by kernel_rfl), evK_r 3 (by kernel_rfl), rfl, rfl, evK_rs 5 rfl (by kernel_rfl), rfl, evK_rs 4 rfl (by kernel_rfl), evK_dr 7 rfl (by kernel_rfl) (by kernel_rfl), rfl, evK_rs 6 rfl (by kernel_rfl), rfl, evK_rs 1 rfl (by kernel_rfl), evK_rs 0 rfl (by kernel_rfl)⟩
theorem m95 : mini fi95.body = c95_0 := by kernel_rfl
theorem n95_6 (fr : Fr) (st : St) (k : Kt) : nextK gS fi95 (.loop c95_7 k) .normal fr st = evK gS fi95 c95_6 fr st k := rfl
theorem bl1 : borOk r95_26 0 6 38 = true := by kernel_rfl
theorem bl2 : handOk r95_26 8 45 = true := by kernel_rfl
set_option maxHeartbeats 8000000 in
theorem L95 (l : List Int) (hl1 : l.length < 1000000) (n0 : Int) (st : St) (X : List (Nat × List V)) (R : Out × St)
    (H : ∀ T, evK gS fi95 c95_15 { ps := [(0, .val (.slice (intVs l))), (1, .val (.int .i64 n0)), (4, .own 0 []), (5, .val (.int .i64 (posI l n0 : Nat))), (6, .any)], ts := T, lc := X } st .nil = some R) :
    ∀ (m i : Nat) (T : List (Nat × E)), i ≤ posI l n0 → posI l n0 - i = m → evK gS fi95 c95_6 { ps := [(0, .val (.slice (intVs l))), (1, .val (.int .i64 n0)), (4, .own 0 []), (5, .val (.int .i64 (i : Nat))), (6, .any)], ts := T, lc := X } st (.blk 0 (.seq c95_15 .nil)) = some R := by
  intro m
  have hm : fi95.marks = [1000000] := rfl
  have hl : fi95.locals = [] := rfl
  have hr : fi95.results = [.tmp 4] := rfl
  have hpl := posI_le l n0
  induction m with
  | zero =>
    intro i T hi hm2
    obtain rfl : i = posI l n0 := by omega
    refine evK_loop c95_7 _ _ _ _ rfl ?_
    cases hx : l[posI l n0]? with
    | none =>
      have h1 : ¬ ((posI l n0 : Nat) : Int) < (l.length : Int) := by rw [List.getElem?_eq_none_iff] at hx; omega
      simp [-Int.natCast_add, h1, H, -Int.not_le, -Int.not_lt, -Nat.not_le, -Nat.not_lt, ty3, ty4, ty28, hm, hl, hr, E95, q95_26, n95_6]
    | some x =>
      obtain ⟨h2, h3⟩ := List.getElem?_eq_some_iff.1 hx
      have h1 : ((posI l n0 : Nat) : Int) < (l.length : Int) := by omega
      have h4 := posI_ge l n0 x hx
      simp [-Int.natCast_add, h1, h2, h3, h4, hx, H, -Int.not_le, -Int.not_lt, -Nat.not_le, -Nat.not_lt, ty3, ty4, ty28, hm, hl, hr, E95, q95_26, n95_6]
  | succ m ih =>
    intro i T hi hm2
    have h2 : i < l.length := by omega
    obtain ⟨x, hx⟩ : ∃ x, l[i]? = some x := ⟨l[i]'h2, List.getElem?_eq_getElem h2⟩
    have h3 : l[i]'h2 = x := (List.getElem?_eq_some_iff.1 hx).2
    have h1 : (i : Int) < (l.length : Int) := by omega
    have h4 := posI_lt l n0 i x (by omega) hx
    have hw : IntKind.wrap .i64 ((i : Int) + 1) = ((i + 1 : Nat) : Int) := by rw [wrap64 (by omega) (by omega)]; omega
    have IH := fun T => ih (i + 1) T (by omega) (by omega)
    refine evK_loop c95_7 _ _ _ _ rfl ?_
    simp [-Int.natCast_add, h1, h2, h3, h4, hx, hw, IH, -Int.not_le, -Int.not_lt, -Nat.not_le, -Nat.not_lt, ty3, ty4, ty28, hm, hl, hr, E95, q95_26, n95_6]
set_option maxHeartbeats 8000000 in
theorem c95 (l : List Int) (hl1 : l.length < 1000000) (n0 : Int) (st : St) : EvF gS 95 [.slice (intVs l), .int .i64 n0] st = some (.ret (.slice (intVs (layI l n0))) none, st) := by
  refine EvF_start fi95_eq (fun x h => by cases h) m95 ?_
  rw [st95]
  have hm : fi95.marks = [1000000] := rfl
  have hl : fi95.locals = [] := rfl
  have hr : fi95.results = [.tmp 4] := rfl
  have hpl := posI_le l n0
  have hz := fun xs st => frz_slice (xs := intVs xs) (flats_ints xs) st
  generalize hR : (Out.ret (V.slice (intVs (layI l n0))) none, st) = R
  have LL := fun X H T => L95 l hl1 n0 st X R H (posI l n0) 0 T (Nat.zero_le _) rfl
  rw [show ((0 : Nat) : Int) = 0 from rfl] at LL
  simp [-Int.natCast_add, -Int.not_le, -Int.not_lt, -Nat.not_le, -Nat.not_lt, ty3, ty4, ty28, hm, hl, hr, E95, q95_26, e95_15, n95_6, bl1, bl2]
  refine LL _ (fun T => ?_) _
  clear LL
  subst hR
  rw [layI_eq]
  generalize posI l n0 = p at *
  have hp0 : (0 : Int) ≤ (p : Int) := by omega
  have hp1 : (p : Int) ≤ (l.length : Int) := by omega
  have hsi := sizes_ints
  have e0 : (intVs l).take l.length = intVs l := List.take_of_length_le (by simp)
  have e1 := ints_take l p
  have e2 := ints_drop l p
  have e3 := ints_snoc (l.take p) n0
  have e4 := ints_append (l.take p ++ [n0]) (l.drop p)
  have e5 : (l.drop p).length = l.length - p := by simp
  have e6 : (l.take p).length = p := by simp; omega
  have b1 : p * 8 ≤ 140737488355328 := by omega
  have b2 : p ≤ 140737488355328 := by omega
  have b3 : (p + 1) * 8 ≤ 140737488355328 := by omega
  have b4 : p + 1 ≤ 140737488355328 := by omega
  have b5 : (p + 1 + (l.length - p)) * 8 ≤ 140737488355328 := by omega
  have b6 : p + 1 + (l.length - p) ≤ 140737488355328 := by omega
  cases hx : l[p]? with
  | none =>
    have h1 : ¬ (p : Int) < (l.length : Int) := by rw [List.getElem?_eq_none_iff] at hx; omega
    simp [-Int.natCast_add, -List.append_assoc, h1, hz, hp0, hp1, hsi, e0, e1, e2, e3, e4, e5, e6, b1, b2, b3, b4, b5, b6, -Int.not_le, -Int.not_lt, -Nat.not_le, -Nat.not_lt, ty3, ty4, ty28, hm, hl, hr, E95, q95_26, e95_15, n95_6, bl1, bl2]
  | some x =>
    obtain ⟨h2, h3⟩ := List.getElem?_eq_some_iff.1 hx
    have h1 : (p : Int) < (l.length : Int) := by omega
    by_cases h4 : x = n0
    · subst h4
      simp [-Int.natCast_add, h1, h2, h3, hx, hz, -Int.not_le, -Int.not_lt, -Nat.not_le, -Nat.not_lt, ty3, ty4, ty28, hm, hl, hr, E95, q95_26, e95_15, n95_6, bl1, bl2]
    · simp [-Int.natCast_add, -List.append_assoc, h1, h2, h3, h4, hx, hz, hp0, hp1, hsi, e0, e1, e2, e3, e4, e5, e6, b1, b2, b3, b4, b5, b6, -Int.not_le, -Int.not_lt, -Nat.not_le, -Nat.not_lt, ty3, ty4, ty28, hm, hl, hr, E95, q95_26, e95_15, n95_6, bl1, bl2]
theorem k95 (l : List Int) (hl1 : l.length < 1000000) (n0 : Int) (fr : Fr) (st : St) : callStep gS (EvF gS) 95 [.slice (intVs l), .int .i64 n0] fr st = some (.ok (.val (.slice (intVs (layI l n0)))) fr st) :=
  call_pure rfl fi95_eq rfl (fun st => c95 l hl1 n0 st) (by simp [V.flat])
def fi59 : FI := { body := codeOf Try.f59, ntmps := 25, results := [.tmp 4], pers := [0, 1, 4, 5, 6, 7, 8, 9, 10], locals := [7], pure := true, marks := [1000000] }
theorem fi59_eq : gS.fn 59 = some fi59 := by kernel_rfl
theorem st59 (a0 a1 : V) : startFr fi59 [a0, a1] = { ps := [(0, .val a0), (1, .val a1), (4, .any), (5, .any), (6, .any), (7, .any), (8, .any), (9, .any), (10, .any)], ts := [], lc := [] } := rfl
def b59 : Code := mini (codeOf Try.f59)
def c59_22 : Code := codeN b59 11467
def c59_21 : Code := .cond (.tmp 18) c59_22 .skip
def c59_19 : Code := .seq (codeN b59 5323) c59_21
def c59_17 : Code := .seq (codeN b59 2251) c59_19
def c59_24 : Code := codeN b59 971
def c59_15 : Code := .seq (.block 1 c59_17) c59_24
def c59_11 : Code := .seq (.cond (.tmp 11) .skip (.exit 0)) c59_15
def c59_9 : Code := .seq (codeN b59 139) c59_11
def c59_8 : Code := .loop c59_9
def c59_7 : Code := .block 0 c59_8
def c59_5 : Code := .seq (codeN b59 19) c59_7
def c59_25 : Code := .seq (codeN b59 23) .ret
def c59_4 : Code := .seq c59_5 c59_25
def c59_2 : Code := .seq (codeN b59 5) c59_4
def c59_0 : Code := .seq (codeN b59 2) c59_2
theorem E59 : (evK gS fi59 c59_22 fr st k = opsR gS fi59 [mv 19 5 28,
 mv 20 6 3,
 op1 21 (.buildSlice 28 1 #[(0, (.tmp 20))]) 28,
 op1 22 (.call { callee := (.builtin .append), args := #[(.tmp 19), (.tmp 21)], argTypes := #[28, 28] }) 28,
 asn 5 22 28] fr st k) ∧
 evK gS fi59 c59_21 fr st k = condK gS fi59 (fr.op (.tmp 18)).bool? c59_22 .skip fr st k ∧
 (evK gS fi59 c59_19 fr st k = opsR gS fi59 [op1 15 (.fieldAddr 76 (.tmp 7) 0) 0,
 ld 16 49 15 49,
 mv 17 1 50,
 cal 18 39 [(.tmp 16), (.tmp 17)] [49, 50] 4] fr st (.seq c59_21 k)) ∧
 (evK gS fi59 c59_17 fr st k = opsR gS fi59 [mv 12 10 3,
 ixa 13 71 8 10 0,
 ld 14 76 13 76,
 op1 7 (.alloc 76) 0,
 asn 6 12 3,
 sto 76 7 14] fr st (.seq c59_19 k)) ∧
 (evK gS fi59 c59_24 fr st k = opsR gS fi59 [op1 23 (.binOp .add 3 (.tmp 10) (.const (.int .i64 1)) 3) 3,
 mv 10 23 3] fr st k) ∧
 evK gS fi59 c59_15 fr st k = evK gS fi59 c59_17 fr st (.blk 1 (.seq c59_24 k)) ∧
 evK gS fi59 c59_11 fr st k = condK gS fi59 (fr.op (.tmp 11)).bool? .skip (.exit 0) fr st (.seq c59_15 k) ∧
 evK gS fi59 c59_9 fr st k = opsR gS fi59 [bop 11 .lss 3 10 9 3 0] fr st (.seq c59_11 k) ∧
 evK gS fi59 c59_7 fr st k = evK gS fi59 c59_8 fr st (.blk 0 k) ∧
 (evK gS fi59 c59_5 fr st k = opsR gS fi59 [mv 8 0 71,
 len1 9 8 71 3,
 op1 10 (.move (.const (.int .i64 0))) 3] fr st (.seq c59_7 k)) ∧
 (evK gS fi59 c59_25 fr st k = opsR gS fi59 [mv 24 5 28,
 asn 4 24 28] fr st (.seq .ret k)) ∧
 evK gS fi59 c59_4 fr st k = evK gS fi59 c59_5 fr st (.seq c59_25 k) ∧
 evK gS fi59 c59_2 fr st k = opsR gS fi59 [op1 5 (.assign (.const (.slice none 0 0))) 28] fr st (.seq c59_4 k) ∧
 evK gS fi59 c59_0 fr st k = opsR gS fi59 [op1 4 (.assign (.const (.slice none 0 0))) 28] fr st (.seq c59_2 k) := ⟨evK_r 6 (by kernel_rfl), rfl, evK_rs 5 rfl (by kernel_rfl), evK_rs 4 rfl (by kernel_rfl), evK_r 7 (by kernel_rfl), rfl, rfl, evK_rs 3 rfl (by kernel_rfl), rfl, evK_rs 2 rfl (by kernel_rfl), evK_rs 8 rfl (by kernel_rfl), rfl, evK_rs 1 rfl (by kernel_rfl), evK_rs 0 rfl (by kernel_rfl)⟩
theorem m59 : mini fi59.body = c59_0 := by kernel_rfl
theorem n59_8 (fr : Fr) (st : St) (k : Kt) : nextK gS fi59 (.loop c59_9 k) .normal fr st = evK gS fi59 c59_8 fr st k := rfl
set_option maxHeartbeats 8000000 in
theorem L59 (g : List Grp) (hg : ∀ x ∈ g, POk x.filter ∧ x.clients.length < 1000) (hgl : g.length < 1000000) (A : List Attr) (hA : A.length < 4611686018427387904) (st : St) : ∀ (m i : Nat) (out : List Int) (e0 e6 e7 : E) (T : List (Nat × E)) (X : List (Nat × List V)) (h0 : e0.Tame) (h6 : e6.Tame) (h7 : e7.Tame), i ≤ g.length → g.length - i = m → out.length ≤ i →
    evK gS fi59 c59_8 { ps := [(0, e0), (1, .val (.slice (encAttrs A))), (4, .own 0 []), (5, .own (kof 1 out) (intVs out)), (6, e6), (7, e7), (8, .val (.slice (encGrps g))), (9, .val (.int .i64 g.length)), (10, .val (.int .i64 (i : Nat)))], ts := T, lc := X } st (.blk 0 (.seq c59_25 .nil)) = some (.ret (.slice (intVs (matchG A i (g.drop i) out))) none, st) := by
  intro m
  have hm : fi59.marks = [1000000] := rfl
  have hl : fi59.locals = [7] := rfl
  have hr : fi59.results = [.tmp 4] := rfl
  have hz := fun xs st => frz_slice (xs := intVs xs) (flats_ints xs) st
  induction m with
  | zero =>
    intro i out e0 e6 e7 T X h0 h6 h7 hi hm2 ho
    obtain rfl : i = g.length := by omega
    rw [List.drop_length]
    refine evK_loop c59_9 _ _ _ _ rfl ?_
    rcases kof_or 1 out with ⟨hk, rfl⟩ | hk
    · have en : intVs [] = [] := rfl
      have hz0 := hz [] st
      rw [en] at hz0
      rw [hk, en]
      simp [h0, h6, h7, hz0, matchG, mineG, en, -Int.not_le, -Int.not_lt, -Nat.not_le, -Nat.not_lt, ty3, ty4, ty28, ty49, ty50, ty71, ty76, hm, hl, hr, E59, n59_8]
    · rw [hk]
      simp [h0, h6, h7, hz, matchG, mineG, -Int.not_le, -Int.not_lt, -Nat.not_le, -Nat.not_lt, ty3, ty4, ty28, ty49, ty50, ty71, ty76, hm, hl, hr, E59, n59_8]
  | succ m ih =>
    intro i out e0 e6 e7 T X h0 h6 h7 hi hm2 ho
    obtain ⟨x, hx⟩ : ∃ x, g[i]? = some x := ⟨g[i]'(by omega), List.getElem?_eq_getElem (by omega)⟩
    have hd := drop_get hx
    have hlt : (i : Int) < (g.length : Int) := by omega
    obtain ⟨hlt2, hxe⟩ := List.getElem?_eq_some_iff.1 hx
    have hw : IntKind.wrap .i64 ((i : Int) + 1) = ((i + 1 : Nat) : Int) := by rw [wrap64 (by omega) (by omega)]; omega
    have hxg := hg x (List.mem_of_getElem? hx)
    rw [hd]
    refine evK_loop c59_9 _ _ _ _ rfl ?_
    have kk : ∀ (fr : Fr) (st : St), callStep gS (EvF gS) 39 [.slice (encPreds x.filter), .slice (encAttrs A)] fr st = some (.ok (.val (.bool (ftakes x.filter A))) fr st) := fun fr st => k39 x.filter A hxg.1 hA fr st
    cases hb : ftakes x.filter A with
    | false =>
      have IH := fun e0 e6 e7 T X h0 h6 h7 => ih (i + 1) out e0 e6 e7 T X h0 h6 h7 (by omega) (by omega) (by omega)
      rw [show matchG A i (x :: g.drop (i + 1)) out = matchG A (i + 1) (g.drop (i + 1)) out from by simp [matchG, mineG, hb]]
      rw [hb] at kk
      rcases kof_or 1 out with ⟨hk, rfl⟩ | hk
      · have en : intVs [] = [] := rfl
        rw [hk, en] at IH ⊢
        simp [-Int.natCast_add, h0, h6, h7, hx, hxe, hlt, hlt2, hw, kk, -Int.not_le, -Int.not_lt, -Nat.not_le, -Nat.not_lt, ty3, ty4, ty28, ty49, ty50, ty71, ty76, hm, hl, hr, E59, n59_8]
        refine IH _ _ _ _ _ ?_ ?_ ?_
        all_goals simp [h0, h6, h7]
      · rw [hk] at IH ⊢
        simp [-Int.natCast_add, h0, h6, h7, hx, hxe, hlt, hlt2, hw, kk, -Int.not_le, -Int.not_lt, -Nat.not_le, -Nat.not_lt, ty3, ty4, ty28, ty49, ty50, ty71, ty76, hm, hl, hr, E59, n59_8]
        refine IH _ _ _ _ _ ?_ ?_ ?_
        all_goals simp [h0, h6, h7]
    | true =>
      have IH := fun e0 e6 e7 T X h0 h6 h7 => ih (i + 1) (out ++ [(i : Int)]) e0 e6 e7 T X h0 h6 h7 (by omega) (by omega) (by simp; omega)
      rw [show matchG A i (x :: g.drop (i + 1)) out = matchG A (i + 1) (g.drop (i + 1)) (out ++ [(i : Int)]) from by simp [matchG, mineG, hb]]
      rw [hb] at kk
      rw [kof_snoc] at IH
      have hs1 := sizes_ints out
      have hs2 := ints_snoc out (i : Int)
      have b1 : (out.length + 1) * 8 ≤ 140737488355328 := by omega
      have b2 : out.length + 1 ≤ 140737488355328 := by omega
      rcases kof_or 1 out with ⟨hk, rfl⟩ | hk
      · have en : intVs [] = [] := rfl
        have en1 : intVs ([] ++ [(i : Int)]) = [.int .i64 (i : Int)] := rfl
        rw [en1] at IH
        rw [hk, en]
        simp [-Int.natCast_add, h0, h6, h7, hx, hxe, hlt, hlt2, hw, kk, -Int.not_le, -Int.not_lt, -Nat.not_le, -Nat.not_lt, ty3, ty4, ty28, ty49, ty50, ty71, ty76, hm, hl, hr, E59, n59_8]
        refine IH _ _ _ _ _ ?_ ?_ ?_
        all_goals simp [h0, h6, h7]
      · rw [hk]
        simp [-Int.natCast_add, -List.append_assoc, h0, h6, h7, hx, hxe, hlt, hlt2, hw, kk, hs1, hs2, b1, b2, -Int.not_le, -Int.not_lt, -Nat.not_le, -Nat.not_lt, ty3, ty4, ty28, ty49, ty50, ty71, ty76, hm, hl, hr, E59, n59_8]
        refine IH _ _ _ _ _ ?_ ?_ ?_
        all_goals simp [h0, h6, h7]
set_option maxHeartbeats 8000000 in
theorem c59 (g : List Grp) (hg : ∀ x ∈ g, POk x.filter ∧ x.clients.length < 1000) (hgl : g.length < 1000000) (A : List Attr) (hA : A.length < 4611686018427387904) (st : St) : EvF gS 59 [.slice (encGrps g), .slice (encAttrs A)] st = some (.ret (.slice (intVs (gmatch g A))) none, st) := by
  refine EvF_start fi59_eq (fun x h => by cases h) m59 ?_
  rw [st59]
  have hm : fi59.marks = [1000000] := rfl
  have hl : fi59.locals = [7] := rfl
  have hr : fi59.results = [.tmp 4] := rfl
  have L0 := fun e0 e6 e7 T X h0 h6 h7 => L59 g hg hgl A hA st g.length 0 [] e0 e6 e7 T X h0 h6 h7 (Nat.zero_le _) rfl (Nat.le_refl _)
  simp only [show ((0 : Nat) : Int) = 0 from rfl, List.drop_zero, show kof 1 ([] : List Int) = 0 from rfl, show intVs [] = [] from rfl] at L0
  show _ = some (Out.ret (V.slice (intVs (matchG A 0 g []))) none, st)
  simp [L0, -Int.not_le, -Int.not_lt, -Nat.not_le, -Nat.not_lt, ty3, ty4, ty28, ty49, ty50, ty71, ty76, hm, hl, hr, E59, n59_8]
theorem k59 (g : List Grp) (hg : ∀ x ∈ g, POk x.filter ∧ x.clients.length < 1000) (hgl : g.length < 1000000) (A : List Attr) (hA : A.length < 4611686018427387904) (fr : Fr) (st : St) : callStep gS (EvF gS) 59 [.slice (encGrps g), .slice (encAttrs A)] fr st = some (.ok (.val (.slice (intVs (gmatch g A)))) fr st) :=
  call_pure rfl fi59_eq rfl (fun st => c59 g hg hgl A hA st) (by simp [V.flat])
def fi60 : FI := { body := codeOf Try.f60, ntmps := 40, results := [.tmp 4], pers := [0, 1, 4, 5, 7, 9, 10, 11, 12, 28, 29, 30], locals := [], pure := true, marks := [1000000] }
theorem fi60_eq : gS.fn 60 = some fi60 := by kernel_rfl
theorem st60 (a0 a1 : V) : startFr fi60 [a0, a1] = { ps := [(0, .val a0), (1, .val a1), (4, .any), (5, .any), (7, .any), (9, .any), (10, .any), (11, .any), (12, .any), (28, .any), (29, .any), (30, .any)], ts := [], lc := [] } := rfl
def b60 : Code := mini (codeOf Try.f60)
def c60_22 : Code := .cond (.tmp 23) (.exit 1) .skip
def c60_20 : Code := .seq (codeN b60 9419) c60_22
def c60_39 : Code := codeN b60 1678539
def c60_37 : Code := .seq (codeN b60 1154251) c60_39
def c60_40 : Code := codeN b60 498891
def c60_35 : Code := .seq (.block 3 c60_37) c60_40
def c60_31 : Code := .seq (.cond (.tmp 31) .skip (.exit 2)) c60_35
def c60_29 : Code := .seq (codeN b60 72907) c60_31
def c60_28 : Code := .loop c60_29
def c60_27 : Code := .block 2 c60_28
def c60_25 : Code := .seq (codeN b60 11467) c60_27
def c60_19 : Code := .seq c60_20 c60_25
def c60_17 : Code := .seq (codeN b60 2251) c60_19
def c60_41 : Code := codeN b60 971
theorem e60_41 : evK gS fi60 c60_41 fr st k = opsR gS fi60 [op1 38 (.binOp .add 3 (.tmp 12) (.const (.int .i64 1)) 3) 3,
 mv 12 38 3] fr st k := evK_r 11 (by kernel_rfl)
def c60_15 : Code := .seq (.block 1 c60_17) c60_41
def c60_11 : Code := .seq (.cond (.tmp 13) .skip (.exit 0)) c60_15
def c60_9 : Code := .seq (codeN b60 139) c60_11
def c60_8 : Code := .loop c60_9
def c60_7 : Code := .block 0 c60_8
def c60_5 : Code := .seq (codeN b60 19) c60_7
def c60_42 : Code := .seq (codeN b60 23) .ret
def c60_4 : Code := .seq c60_5 c60_42
def c60_2 : Code := .seq (codeN b60 5) c60_4
def c60_0 : Code := .seq (codeN b60 2) c60_2
theorem E60 : evK gS fi60 c60_22 fr st k = condK gS fi60 (fr.op (.tmp 23)).bool? (.exit 1) .skip fr st k ∧
 (evK gS fi60 c60_20 fr st k = opsR gS fi60 [mv 16 7 3,
 op1 17 (.binOp .lss 3 (.tmp 16) (.const (.int .i64 0)) 3) 4,
 mv 18 17 4,
 mk (some 19) (.move (.tmp 7)) 3 (some (2, false)),
 mk (some 20) (.move (.tmp 0)) 71 (some (2, false)),
 mk (some 21) (.call { callee := (.builtin .len), args := #[(.tmp 20)], argTypes := #[71] }) 3 (some (2, false)),
 mk (some 22) (.binOp .geq 3 (.tmp 19) (.tmp 21) 3) 4 (some (2, false)),
 op1 23 (.pick (.tmp 18) (.const (.bool true)) (.tmp 22)) 4] fr st (.seq c60_22 k)) ∧
 (evK gS fi60 c60_39 fr st k = opsR gS fi60 [mv 34 5 28,
 mv 35 9 3,
 cal 36 95 [(.tmp 34), (.tmp 35)] [28, 3] 28,
 asn 5 36 28] fr st k) ∧
 (evK gS fi60 c60_37 fr st k = opsR gS fi60 [ixa 32 28 28 30 0,
 ld 33 3 32 3,
 asn 9 33 3] fr st (.seq c60_39 k)) ∧
 (evK gS fi60 c60_40 fr st k = opsR gS fi60 [op1 37 (.binOp .add 3 (.tmp 30) (.const (.int .i64 1)) 3) 3,
 mv 30 37 3] fr st k) ∧
 evK gS fi60 c60_35 fr st k = evK gS fi60 c60_37 fr st (.blk 3 (.seq c60_40 k)) ∧
 evK gS fi60 c60_31 fr st k = condK gS fi60 (fr.op (.tmp 31)).bool? .skip (.exit 2) fr st (.seq c60_35 k) ∧
 evK gS fi60 c60_29 fr st k = opsR gS fi60 [bop 31 .lss 3 30 29 3 0] fr st (.seq c60_31 k) ∧
 evK gS fi60 c60_27 fr st k = evK gS fi60 c60_28 fr st (.blk 2 k) ∧
 (evK gS fi60 c60_25 fr st k = opsR gS fi60 [mv 24 0 71,
 mv 25 7 3,
 ixa 26 71 24 25 0,
 op1 27 (.fieldAddr 76 (.tmp 26) 1) 0,
 ld 28 28 27 28,
 len1 29 28 28 3,
 op1 30 (.move (.const (.int .i64 0))) 3] fr st (.seq c60_27 k)) ∧
 evK gS fi60 c60_19 fr st k = evK gS fi60 c60_20 fr st (.seq c60_25 k) ∧
 (evK gS fi60 c60_17 fr st k = opsR gS fi60 [ixa 14 28 10 12 0,
 ld 15 3 14 3,
 asn 7 15 3] fr st (.seq c60_19 k)) ∧
 evK gS fi60 c60_15 fr st k = evK gS fi60 c60_17 fr st (.blk 1 (.seq c60_41 k)) ∧
 evK gS fi60 c60_11 fr st k = condK gS fi60 (fr.op (.tmp 13)).bool? .skip (.exit 0) fr st (.seq c60_15 k) ∧
 evK gS fi60 c60_9 fr st k = opsR gS fi60 [bop 13 .lss 3 12 11 3 0] fr st (.seq c60_11 k) ∧
 evK gS fi60 c60_7 fr st k = evK gS fi60 c60_8 fr st (.blk 0 k) ∧
 (evK gS fi60 c60_5 fr st k = opsR gS fi60 [mv 10 1 28,
 len1 11 10 28 3,
 op1 12 (.move (.const (.int .i64 0))) 3] fr st (.seq c60_7 k)) ∧
 (evK gS fi60 c60_42 fr st k = opsR gS fi60 [mv 39 5 28,
 asn 4 39 28] fr st (.seq .ret k)) ∧
 evK gS fi60 c60_4 fr st k = evK gS fi60 c60_5 fr st (.seq c60_42 k) ∧
 evK gS fi60 c60_2 fr st k = opsR gS fi60 [op1 5 (.assign (.const (.slice none 0 0))) 28] fr st (.seq c60_4 k) ∧
 evK gS fi60 c60_0 fr st k = opsR gS fi60 [op1 4 (.assign (.const (.slice none 0 0))) 28] fr st (.seq c60_2 k) := ⟨rfl, evK_rs 5 rfl (by kernel_rfl), evK_r 9 (by kernel_rfl), evK_rs 8 rfl (by kernel_rfl), evK_r 10 (by kernel_rfl), rfl, rfl, evK_rs 7 rfl (by kernel_rfl), rfl, evK_rs 6 rfl (by kernel_rfl), rfl, evK_rs 4 rfl (by kernel_rfl), rfl, rfl, evK_rs 3 rfl (by kernel_rfl), rfl, evK_rs 2 rfl (by kernel_rfl), evK_rs 12 rfl (by kernel_rfl), rfl, evK_rs 1 rfl (by kernel_rfl), evK_rs 0 rfl (by kernel_rfl)⟩
theorem m60 : mini fi60.body = c60_0 := by kernel_rfl
theorem n60_28 (fr : Fr) (st : St) (k : Kt) : nextK gS fi60 (.loop c60_29 k) .normal fr st = evK gS fi60 c60_28 fr st k := rfl
theorem n60_8 (fr : Fr) (st : St) (k : Kt) : nextK gS fi60 (.loop c60_9 k) .normal fr st = evK gS fi60 c60_8 fr st k := rfl
/-- A row of numbers as it is handed on. -/
def OutE (e : E) (l : List Int) : Prop := (e = .own 0 [] ∧ l = []) ∨ e = .val (.slice (intVs l))
set_option maxHeartbeats 8000000 in
theorem L60_28 (g : List Grp) (ms cs : List Int) (io : Nat) (e1 e7 : E) (h1 : e1.Tame) (h7 : e7.Tame) (st : St) (X : List (Nat × List V)) (fin : List Int) (R : Out × St) (hcs : cs.length < 1000)
    (H : ∀ e5 e9 T, OutE e5 fin → e9.Tame → evK gS fi60 c60_41 { ps := [(0, .val (.slice (encGrps g))), (1, e1), (4, .own 0 []), (5, e5), (7, e7), (9, e9), (10, .val (.slice (intVs ms))), (11, .val (.int .i64 ms.length)), (12, .val (.int .i64 (io : Nat))), (28, .val (.slice (intVs cs))), (29, .val (.int .i64 cs.length)), (30, .val (.int .i64 cs.length))], ts := T, lc := X } st (.loop c60_9 (.blk 0 (.seq c60_42 .nil))) = some R) :
    ∀ (m i : Nat) (acc : List Int) (e5 e28 e9 : E) (h5 : OutE e5 acc) (h28 : e28.calm = .val (.slice (intVs cs))) (h9 : e9.Tame) (T : List (Nat × E)), i ≤ cs.length → cs.length - i = m → acc.length + (cs.length - i) < 1000000 → fin = (cs.drop i).foldl layI acc →
    evK gS fi60 c60_28 { ps := [(0, .val (.slice (encGrps g))), (1, e1), (4, .own 0 []), (5, e5), (7, e7), (9, e9), (10, .val (.slice (intVs ms))), (11, .val (.int .i64 ms.length)), (12, .val (.int .i64 (io : Nat))), (28, e28), (29, .val (.int .i64 cs.length)), (30, .val (.int .i64 (i : Nat)))], ts := T, lc := X } st (.blk 2 (.blk 1 (.seq c60_41 (.loop c60_9 (.blk 0 (.seq c60_42 .nil)))))) = some R := by
  intro m
  have hm : fi60.marks = [1000000] := rfl
  have hl : fi60.locals = [] := rfl
  have hr : fi60.results = [.tmp 4] := rfl
  induction m with
  | zero =>
    intro i acc e5 e28 e9 h5 h28 h9 T hi hm2 hb hf
    obtain rfl : i = cs.length := by omega
    rw [List.drop_length, List.foldl_nil] at hf
    subst hf
    refine evK_loop c60_29 _ _ _ _ rfl ?_
    rcases h5 with ⟨rfl, rfl⟩ | rfl
    · simp [h1, h7, h9, h28, -Int.not_le, -Int.not_lt, -Nat.not_le, -Nat.not_lt, ty3, ty4, ty28, ty71, ty76, hm, hl, hr, E60, n60_28, n60_8]
      exact H _ _ _ (.inl ⟨rfl, rfl⟩) h9
    · simp [h1, h7, h9, h28, -Int.not_le, -Int.not_lt, -Nat.not_le, -Nat.not_lt, ty3, ty4, ty28, ty71, ty76, hm, hl, hr, E60, n60_28, n60_8]
      exact H _ _ _ (.inr rfl) h9
  | succ m ih =>
    intro i acc e5 e28 e9 h5 h28 h9 T hi hm2 hb hf
    obtain ⟨x, hx⟩ : ∃ x, cs[i]? = some x := ⟨cs[i]'(by omega), List.getElem?_eq_getElem (by omega)⟩
    have hd := drop_get hx
    have hlt : (i : Int) < (cs.length : Int) := by omega
    obtain ⟨hlt2, hxe⟩ := List.getElem?_eq_some_iff.1 hx
    have hw : IntKind.wrap .i64 ((i : Int) + 1) = ((i + 1 : Nat) : Int) := by rw [wrap64 (by omega) (by omega)]; omega
    rw [hd, List.foldl_cons] at hf
    have hll := layI_len acc x
    have IH := fun e5 e9 h5 h9 T => ih (i + 1) (layI acc x) e5 (.val (.slice (intVs cs))) e9 h5 rfl h9 T (by omega) (by omega) (by omega) hf
    have kk := fun fr st => k95 acc (by omega) x fr st
    refine evK_loop c60_29 _ _ _ _ rfl ?_
    rcases h5 with ⟨rfl, rfl⟩ | rfl
    · rw [show intVs [] = [] from rfl] at kk
      simp [-Int.natCast_add, h1, h7, h9, h28, hx, hxe, hlt, hlt2, hw, kk, -Int.not_le, -Int.not_lt, -Nat.not_le, -Nat.not_lt, ty3, ty4, ty28, ty71, ty76, hm, hl, hr, E60, n60_28, n60_8]
      exact IH _ _ (.inr rfl) (tame_val _) _
    · simp [-Int.natCast_add, h1, h7, h9, h28, hx, hxe, hlt, hlt2, hw, kk, -Int.not_le, -Int.not_lt, -Nat.not_le, -Nat.not_lt, ty3, ty4, ty28, ty71, ty76, hm, hl, hr, E60, n60_28, n60_8]
      exact IH _ _ (.inr rfl) (tame_val _) _
set_option maxHeartbeats 8000000 in
theorem L60 (g : List Grp) (hg : ∀ x ∈ g, x.clients.length < 1000) (hgl : g.length < 1000000) (ms : List Int) (hms : ms.length ≤ 500) (e1 : E) (h1 : e1.Tame) (st : St) (X : List (Nat × List V)) :
    ∀ (m i : Nat) (acc : List Int) (e5 e7 e9 e28 e29 e30 : E) (h5 : OutE e5 acc) (h7 : e7.Tame) (h9 : e9.Tame) (h28 : e28.Tame) (h29 : e29.Tame) (h30 : e30.Tame) (T : List (Nat × E)), i ≤ ms.length → ms.length - i = m → acc.length ≤ 1000 * i →
    evK gS fi60 c60_8 { ps := [(0, .val (.slice (encGrps g))), (1, e1), (4, .own 0 []), (5, e5), (7, e7), (9, e9), (10, .val (.slice (intVs ms))), (11, .val (.int .i64 ms.length)), (12, .val (.int .i64 (i : Nat))), (28, e28), (29, e29), (30, e30)], ts := T, lc := X } st (.blk 0 (.seq c60_42 .nil)) = some (.ret (.slice (intVs ((ms.drop i).foldl (rdStep g) acc))) none, st) := by
  intro m
  have hm : fi60.marks = [1000000] := rfl
  have hl : fi60.locals = [] := rfl
  have hr : fi60.results = [.tmp 4] := rfl
  induction m with
  | zero =>
    intro i acc e5 e7 e9 e28 e29 e30 h5 h7 h9 h28 h29 h30 T hi hm2 hb
    obtain rfl : i = ms.length := by omega
    rw [List.drop_length, List.foldl_nil]
    have hz := frz_slice (xs := intVs acc) (flats_ints acc) st
    refine evK_loop c60_9 _ _ _ _ rfl ?_
    rcases h5 with ⟨rfl, rfl⟩ | rfl
    · rw [show intVs [] = [] from rfl] at hz ⊢
      simp [h1, h7, h9, h28, h29, h30, hz, -Int.not_le, -Int.not_lt, -Nat.not_le, -Nat.not_lt, ty3, ty4, ty28, ty71, ty76, hm, hl, hr, E60, e60_41, n60_28, n60_8]
    · simp [h1, h7, h9, h28, h29, h30, hz, -Int.not_le, -Int.not_lt, -Nat.not_le, -Nat.not_lt, ty3, ty4, ty28, ty71, ty76, hm, hl, hr, E60, e60_41, n60_28, n60_8]
  | succ m ih =>
    intro i acc e5 e7 e9 e28 e29 e30 h5 h7 h9 h28 h29 h30 T hi hm2 hb
    obtain ⟨x, hx⟩ : ∃ x, ms[i]? = some x := ⟨ms[i]'(by omega), List.getElem?_eq_getElem (by omega)⟩
    have hd := drop_get hx
    have hlt : (i : Int) < (ms.length : Int) := by omega
    obtain ⟨hlt2, hxe⟩ := List.getElem?_eq_some_iff.1 hx
    have hw : IntKind.wrap .i64 ((i : Int) + 1) = ((i + 1 : Nat) : Int) := by rw [wrap64 (by omega) (by omega)]; omega
    rw [hd, List.foldl_cons]
    by_cases hx0 : x < 0
    · have hr : rdStep g acc x = acc := by unfold rdStep; rw [if_pos (.inl hx0)]
      rw [hr]
      have IH := fun e5 e7 e9 e28 e29 e30 h5 h7 h9 h28 h29 h30 T => ih (i + 1) acc e5 e7 e9 e28 e29 e30 h5 h7 h9 h28 h29 h30 T (by omega) (by omega) (by omega)
      refine evK_loop c60_9 _ _ _ _ rfl ?_
      rcases h5 with ⟨rfl, rfl⟩ | rfl
      · simp [-Int.natCast_add, h1, h7, h9, h28, h29, h30, hx, hxe, hlt, hlt2, hw, hx0, -Int.not_le, -Int.not_lt, -Nat.not_le, -Nat.not_lt, ty3, ty4, ty28, ty71, ty76, hm, hl, hr, E60, e60_41, n60_28, n60_8]
        exact IH _ _ _ _ _ _ (.inl ⟨rfl, rfl⟩) (tame_val _) h9 h28 h29 h30 _
      · simp [-Int.natCast_add, h1, h7, h9, h28, h29, h30, hx, hxe, hlt, hlt2, hw, hx0, -Int.not_le, -Int.not_lt, -Nat.not_le, -Nat.not_lt, ty3, ty4, ty28, ty71, ty76, hm, hl, hr, E60, e60_41, n60_28, n60_8]
        exact IH _ _ _ _ _ _ (.inr rfl) (tame_val _) h9 h28 h29 h30 _
    · obtain ⟨k, rfl⟩ : ∃ k : Nat, x = (k : Int) := ⟨x.toNat, by omega⟩
      by_cases hk : k < g.length
      · obtain ⟨y, hy⟩ : ∃ y, g[k]? = some y := ⟨g[k]'hk, List.getElem?_eq_getElem hk⟩
        have hye : g[k]'hk = y := (List.getElem?_eq_some_iff.1 hy).2
        have hyc := hg y (List.mem_of_getElem? hy)
        have hr : rdStep g acc k = y.clients.foldl layI acc := by
          unfold rdStep; rw [if_neg (by omega), Int.toNat_natCast, hy]; rfl
        rw [hr]
        have hfl : ∀ (cs acc : List Int), (cs.foldl layI acc).length ≤ acc.length + cs.length := by
          intro cs
          induction cs with
          | nil => intro acc; simp
          | cons c r ihc =>
            intro acc
            have h1 := ihc (layI acc c)
            have h2 := layI_len acc c
            simp only [List.foldl_cons, List.length_cons]; omega
        have hfl2 := hfl y.clients acc
        have IH := fun e5 e7 e9 e28 e29 e30 h5 h7 h9 h28 h29 h30 T => ih (i + 1) (y.clients.foldl layI acc) e5 e7 e9 e28 e29 e30 h5 h7 h9 h28 h29 h30 T (by omega) (by omega) (by omega)
        generalize hR : (Out.ret (V.slice (intVs ((ms.drop (i + 1)).foldl (rdStep g) (y.clients.foldl layI acc)))) none, st) = R at IH ⊢
        have H41 : ∀ e5 e9 T, OutE e5 (y.clients.foldl layI acc) → e9.Tame → evK gS fi60 c60_41 { ps := [(0, .val (.slice (encGrps g))), (1, e1), (4, .own 0 []), (5, e5), (7, .val (.int .i64 k)), (9, e9), (10, .val (.slice (intVs ms))), (11, .val (.int .i64 ms.length)), (12, .val (.int .i64 (i : Nat))), (28, .val (.slice (intVs y.clients))), (29, .val (.int .i64 y.clients.length)), (30, .val (.int .i64 y.clients.length))], ts := T, lc := X } st (.loop c60_9 (.blk 0 (.seq c60_42 .nil))) = some R := by
          intro e5 e9 T h5 h9
          rcases h5 with ⟨rfl, hq⟩ | rfl
          · simp [-Int.natCast_add, h1, h9, hw, -Int.not_le, -Int.not_lt, -Nat.not_le, -Nat.not_lt, ty3, ty4, ty28, ty71, ty76, hm, hl, hr, E60, e60_41, n60_28, n60_8]
            exact IH _ _ _ _ _ _ (.inl ⟨rfl, hq⟩) (tame_val _) h9 (tame_val _) (tame_val _) (tame_val _) _
          · simp [-Int.natCast_add, h1, h9, hw, -Int.not_le, -Int.not_lt, -Nat.not_le, -Nat.not_lt, ty3, ty4, ty28, ty71, ty76, hm, hl, hr, E60, e60_41, n60_28, n60_8]
            exact IH _ _ _ _ _ _ (.inr rfl) (tame_val _) h9 (tame_val _) (tame_val _) (tame_val _) _
        have LL := fun e5 e28 e9 h5 h28 h9 T => L60_28 g ms y.clients i e1 (.val (.int .i64 k)) h1 rfl st X (y.clients.foldl layI acc) R hyc H41 y.clients.length 0 acc e5 e28 e9 h5 h28 h9 T (Nat.zero_le _) rfl (by omega) rfl
        rw [show ((0 : Nat) : Int) = 0 from rfl] at LL
        have hk1 : ¬ ((g.length : Int) ≤ (k : Int)) := by omega
        have hk2 : ¬ (g.length ≤ k) := by omega
        have hk3 : (k : Int) < (g.length : Int) := by omega
        have hk0 : ¬ ((k : Int) < 0) := by omega
        refine evK_loop c60_9 _ _ _ _ rfl ?_
        rcases h5 with ⟨rfl, rfl⟩ | rfl
        · simp [-Int.natCast_add, h1, h7, h9, h28, h29, h30, hx, hxe, hlt, hlt2, hk, hk0, hk1, hk2, hk3, hy, hye, -Int.not_le, -Int.not_lt, -Nat.not_le, -Nat.not_lt, ty3, ty4, ty28, ty71, ty76, hm, hl, hr, E60, e60_41, n60_28, n60_8]
          exact LL _ _ _ (.inl ⟨rfl, rfl⟩) rfl h9 _
        · simp [-Int.natCast_add, h1, h7, h9, h28, h29, h30, hx, hxe, hlt, hlt2, hk, hk0, hk1, hk2, hk3, hy, hye, -Int.not_le, -Int.not_lt, -Nat.not_le, -Nat.not_lt, ty3, ty4, ty28, ty71, ty76, hm, hl, hr, E60, e60_41, n60_28, n60_8]
          exact LL _ _ _ (.inr rfl) rfl h9 _
      · have hr : rdStep g acc k = acc := by unfold rdStep; rw [if_pos (.inr (by omega))]
        rw [hr]
        have IH := fun e5 e7 e9 e28 e29 e30 h5 h7 h9 h28 h29 h30 T => ih (i + 1) acc e5 e7 e9 e28 e29 e30 h5 h7 h9 h28 h29 h30 T (by omega) (by omega) (by omega)
        have hk1 : (g.length : Int) ≤ (k : Int) := by omega
        have hk2 : g.length ≤ k := by omega
        have hk0 : ¬ ((k : Int) < 0) := by omega
        refine evK_loop c60_9 _ _ _ _ rfl ?_
        rcases h5 with ⟨rfl, rfl⟩ | rfl
        · simp [-Int.natCast_add, h1, h7, h9, h28, h29, h30, hx, hxe, hlt, hlt2, hw, hk0, hk1, hk2, -Int.not_le, -Int.not_lt, -Nat.not_le, -Nat.not_lt, ty3, ty4, ty28, ty71, ty76, hm, hl, hr, E60, e60_41, n60_28, n60_8]
          exact IH _ _ _ _ _ _ (.inl ⟨rfl, rfl⟩) (tame_val _) h9 h28 h29 h30 _
        · simp [-Int.natCast_add, h1, h7, h9, h28, h29, h30, hx, hxe, hlt, hlt2, hw, hk0, hk1, hk2, -Int.not_le, -Int.not_lt, -Nat.not_le, -Nat.not_lt, ty3, ty4, ty28, ty71, ty76, hm, hl, hr, E60, e60_41, n60_28, n60_8]
          exact IH _ _ _ _ _ _ (.inr rfl) (tame_val _) h9 h28 h29 h30 _
set_option maxHeartbeats 8000000 in
theorem c60 (g : List Grp) (hg : ∀ x ∈ g, x.clients.length < 1000) (hgl : g.length < 1000000) (ms : List Int) (hms : ms.length ≤ 500) (st : St) : EvF gS 60 [.slice (encGrps g), .slice (intVs ms)] st = some (.ret (.slice (intVs (greaders g ms))) none, st) := by
  refine EvF_start fi60_eq (fun x h => by cases h) m60 ?_
  rw [st60]
  have hm : fi60.marks = [1000000] := rfl
  have hl : fi60.locals = [] := rfl
  have hr : fi60.results = [.tmp 4] := rfl
  have L0 := fun e1 e7 e9 e28 e29 e30 T X h1 h7 h9 h28 h29 h30 => L60 g hg hgl ms hms e1 h1 st X ms.length 0 [] (.own 0 []) e7 e9 e28 e29 e30 (.inl ⟨rfl, rfl⟩) h7 h9 h28 h29 h30 T (Nat.zero_le _) rfl (Nat.zero_le _)
  simp only [show ((0 : Nat) : Int) = 0 from rfl, List.drop_zero] at L0
  show _ = some (Out.ret (V.slice (intVs (ms.foldl (rdStep g) []))) none, st)
  simp [L0, -Int.not_le, -Int.not_lt, -Nat.not_le, -Nat.not_lt, ty3, ty4, ty28, ty71, ty76, hm, hl, hr, E60, e60_41, n60_28, n60_8]
theorem k60 (g : List Grp) (hg : ∀ x ∈ g, x.clients.length < 1000) (hgl : g.length < 1000000) (ms : List Int) (hms : ms.length ≤ 500) (fr : Fr) (st : St) : callStep gS (EvF gS) 60 [.slice (encGrps g), .slice (intVs ms)] fr st = some (.ok (.val (.slice (intVs (greaders g ms)))) fr st) :=
  call_pure rfl fi60_eq rfl (fun st => c60 g hg hgl ms hms st) (by simp [V.flat])
theorem k45 (f : List Pred) (h_f : PSm f) (fr : Fr) (st : St) : callStep gS (EvF gS) 45 [.slice (encPreds f)] fr st = some (.ok (.val (.slice (encPreds f))) fr st) :=
  call_pure' rfl fi45_eq rfl (by simp [flats, V.flat]) (c45 f h_f ⟨[], 0⟩ (Nat.le_refl _)) (by simp [V.flat])
/-- A row of numbers in a variable. -/
def CLo (v : V) (l : List Int) : Prop := (v = .osl 0 [] ∧ l = []) ∨ v = .slice (intVs l)
def fi54 : FI := { body := codeOf Try.f54, ntmps := 67, results := [.tmp 2], pers := [0, 2, 3, 4, 5, 6, 8, 9, 11, 12, 13, 14, 21, 22, 23, 43, 44, 45], locals := [5, 8, 9, 11], pure := false, marks := [1000000] }
theorem fi54_eq : gS.fn 54 = some fi54 := by kernel_rfl
theorem st54 (a0 : V) : startFr fi54 [a0] = { ps := [(0, .val a0), (2, .any), (3, .any), (4, .any), (5, .any), (6, .any), (8, .any), (9, .any), (11, .any), (12, .any), (13, .any), (14, .any), (21, .any), (22, .any), (23, .any), (43, .any), (44, .any), (45, .any)], ts := [], lc := [] } := rfl
def b54 : Code := mini (codeOf Try.f54)
def c54_36 : Code := codeN b54 3353803
def c54_34 : Code := .seq (codeN b54 2305227) c54_36
def c54_37 : Code := codeN b54 994507
def c54_32 : Code := .seq (.block 3 c54_34) c54_37
def c54_28 : Code := .seq (.cond (.tmp 24) .skip (.exit 2)) c54_32
def c54_26 : Code := .seq (codeN b54 142539) c54_28
def c54_25 : Code := .loop c54_26
def c54_24 : Code := .block 2 c54_25
def c54_22 : Code := .seq (codeN b54 19659) c54_24
def c54_41 : Code := .cond (.tmp 38) (.exit 1) .skip
def c54_39 : Code := .seq (codeN b54 40139) c54_41
def c54_64 : Code := codeN b54 93945035
def c54_63 : Code := .cond (.tmp 53) c54_64 .skip
def c54_61 : Code := .seq (codeN b54 43613387) c54_63
def c54_59 : Code := .seq (codeN b54 18447563) c54_61
def c54_66 : Code := codeN b54 7961803
def c54_57 : Code := .seq (.block 5 c54_59) c54_66
def c54_53 : Code := .seq (.cond (.tmp 46) .skip (.exit 4)) c54_57
def c54_51 : Code := .seq (codeN b54 1146059) c54_53
def c54_50 : Code := .loop c54_51
def c54_49 : Code := .block 4 c54_50
def c54_47 : Code := .seq (codeN b54 163019) c54_49
def c54_67 : Code := codeN b54 130251
theorem e54_67 : evK gS fi54 c54_67 fr st k = opsR gS fi54 [mv 61 3 71,
 ld 62 76 9 76,
 op1 63 (.buildSlice 71 1 #[(0, (.tmp 62))]) 71,
 op1 64 (.call { callee := (.builtin .append), args := #[(.tmp 61), (.tmp 63)], argTypes := #[71, 71] }) 71,
 asn 3 64 71] fr st k := evK_r 19 (by kernel_rfl)
def c54_46 : Code := .seq c54_47 c54_67
def c54_44 : Code := .seq (codeN b54 48331) c54_46
def c54_38 : Code := .seq c54_39 c54_44
theorem e54_38 : evK gS fi54 c54_38 fr st k = evK gS fi54 c54_39 fr st (.seq c54_44 k) := rfl
def c54_21 : Code := .seq c54_22 c54_38
def c54_19 : Code := .seq (codeN b54 5323) c54_21
def c54_17 : Code := .seq (codeN b54 2251) c54_19
def c54_68 : Code := codeN b54 971
def c54_15 : Code := .seq (.block 1 c54_17) c54_68
def c54_11 : Code := .seq (.cond (.tmp 15) .skip (.exit 0)) c54_15
def c54_9 : Code := .seq (codeN b54 139) c54_11
def c54_8 : Code := .loop c54_9
def c54_7 : Code := .block 0 c54_8
def c54_5 : Code := .seq (codeN b54 19) c54_7
def c54_69 : Code := .seq (codeN b54 23) .ret
def c54_4 : Code := .seq c54_5 c54_69
def c54_2 : Code := .seq (codeN b54 5) c54_4
def c54_0 : Code := .seq (codeN b54 2) c54_2
theorem E54 : (evK gS fi54 c54_36 fr st k = opsR gS fi54 [mv 27 6 4,
 mv 28 27 4,
 mk (some 29) (.fieldAddr 70 (.tmp 5) 3) 0 (some (1, true)),
 mk (some 30) (.load 49 (.tmp 29)) 49 (some (1, true)),
 mk (some 31) (.fieldAddr 70 (.tmp 8) 3) 0 (some (1, true)),
 mk (some 32) (.load 49 (.tmp 31)) 49 (some (1, true)),
 mk (some 33) (.call { callee := (.value (.func 41)), args := #[(.tmp 30), (.tmp 32)], argTypes := #[49, 49] }) 4 (some (1, true)),
 mk (some 34) (.unOp .not 4 (.tmp 33)) 4 (some (1, true)),
 op1 35 (.pick (.tmp 28) (.tmp 34) (.const (.bool false))) 4,
 asn 6 35 4] fr st k) ∧
 (evK gS fi54 c54_34 fr st k = opsR gS fi54 [ixa 25 67 21 23 0,
 ld 26 70 25 70,
 op1 8 (.alloc 70) 0,
 sto 70 8 26] fr st (.seq c54_36 k)) ∧
 (evK gS fi54 c54_37 fr st k = opsR gS fi54 [op1 36 (.binOp .add 3 (.tmp 23) (.const (.int .i64 1)) 3) 3,
 mv 23 36 3] fr st k) ∧
 evK gS fi54 c54_32 fr st k = evK gS fi54 c54_34 fr st (.blk 3 (.seq c54_37 k)) ∧
 evK gS fi54 c54_28 fr st k = condK gS fi54 (fr.op (.tmp 24)).bool? .skip (.exit 2) fr st (.seq c54_32 k) ∧
 evK gS fi54 c54_26 fr st k = opsR gS fi54 [bop 24 .lss 3 23 22 3 0] fr st (.seq c54_28 k) ∧
 evK gS fi54 c54_24 fr st k = evK gS fi54 c54_25 fr st (.blk 2 k) ∧
 (evK gS fi54 c54_22 fr st k = opsR gS fi54 [mv 19 0 67,
 mv 20 4 3,
 op1 21 (.slice 67 (.tmp 19) none (some (.tmp 20)) none) 67,
 len1 22 21 67 3,
 op1 23 (.move (.const (.int .i64 0))) 3] fr st (.seq c54_24 k)) ∧
 evK gS fi54 c54_41 fr st k = condK gS fi54 (fr.op (.tmp 38)).bool? (.exit 1) .skip fr st k ∧
 (evK gS fi54 c54_39 fr st k = opsR gS fi54 [mv 37 6 4,
 op1 38 (.unOp .not 4 (.tmp 37)) 4] fr st (.seq c54_41 k)) ∧
 (evK gS fi54 c54_64 fr st k = opsR gS fi54 [op1 54 (.fieldAddr 76 (.tmp 9) 1) 0,
 ld 55 28 54 28,
 op1 56 (.fieldAddr 70 (.tmp 11) 0) 0,
 ld 57 3 56 3,
 cal 58 95 [(.tmp 55), (.tmp 57)] [28, 3] 28,
 op1 59 (.fieldAddr 76 (.tmp 9) 1) 0,
 sto 28 59 58] fr st k) ∧
 evK gS fi54 c54_63 fr st k = condK gS fi54 (fr.op (.tmp 53)).bool? c54_64 .skip fr st k ∧
 (evK gS fi54 c54_61 fr st k = opsR gS fi54 [op1 49 (.fieldAddr 70 (.tmp 5) 3) 0,
 ld 50 49 49 49,
 op1 51 (.fieldAddr 70 (.tmp 11) 3) 0,
 ld 52 49 51 49,
 cal 53 41 [(.tmp 50), (.tmp 52)] [49, 49] 4] fr st (.seq c54_63 k)) ∧
 (evK gS fi54 c54_59 fr st k = opsR gS fi54 [ixa 47 67 43 45 0,
 ld 48 70 47 70,
 op1 11 (.alloc 70) 0,
 sto 70 11 48] fr st (.seq c54_61 k)) ∧
 (evK gS fi54 c54_66 fr st k = opsR gS fi54 [op1 60 (.binOp .add 3 (.tmp 45) (.const (.int .i64 1)) 3) 3,
 mv 45 60 3] fr st k) ∧
 evK gS fi54 c54_57 fr st k = evK gS fi54 c54_59 fr st (.blk 5 (.seq c54_66 k)) ∧
 evK gS fi54 c54_53 fr st k = condK gS fi54 (fr.op (.tmp 46)).bool? .skip (.exit 4) fr st (.seq c54_57 k) ∧
 evK gS fi54 c54_51 fr st k = opsR gS fi54 [bop 46 .lss 3 45 44 3 0] fr st (.seq c54_53 k) ∧
 evK gS fi54 c54_49 fr st k = evK gS fi54 c54_50 fr st (.blk 4 k) ∧
 (evK gS fi54 c54_47 fr st k = opsR gS fi54 [mv 43 0 67,
 len1 44 43 67 3,
 op1 45 (.move (.const (.int .i64 0))) 3] fr st (.seq c54_49 k)) ∧
 evK gS fi54 c54_46 fr st k = evK gS fi54 c54_47 fr st (.seq c54_67 k) ∧
 (evK gS fi54 c54_44 fr st k = opsR gS fi54 [op1 39 (.fieldAddr 70 (.tmp 5) 3) 0,
 ld 40 49 39 49,
 cal 41 45 [(.tmp 40)] [49] 49,
 op1 42 (.build 76 #[(0, (.tmp 41))]) 76,
 op1 9 (.alloc 76) 0,
 sto 76 9 42] fr st (.seq c54_46 k)) ∧
 evK gS fi54 c54_21 fr st k = evK gS fi54 c54_22 fr st (.seq c54_38 k) ∧
 evK gS fi54 c54_19 fr st k = opsR gS fi54 [op1 6 (.assign (.const (.bool true))) 4] fr st (.seq c54_21 k) ∧
 (evK gS fi54 c54_17 fr st k = opsR gS fi54 [mv 16 14 3,
 ixa 17 67 12 14 0,
 ld 18 70 17 70,
 op1 5 (.alloc 70) 0,
 asn 4 16 3,
 sto 70 5 18] fr st (.seq c54_19 k)) ∧
 (evK gS fi54 c54_68 fr st k = opsR gS fi54 [op1 65 (.binOp .add 3 (.tmp 14) (.const (.int .i64 1)) 3) 3,
 mv 14 65 3] fr st k) ∧
 evK gS fi54 c54_15 fr st k = evK gS fi54 c54_17 fr st (.blk 1 (.seq c54_68 k)) ∧
 evK gS fi54 c54_11 fr st k = condK gS fi54 (fr.op (.tmp 15)).bool? .skip (.exit 0) fr st (.seq c54_15 k) ∧
 evK gS fi54 c54_9 fr st k = opsR gS fi54 [bop 15 .lss 3 14 13 3 0] fr st (.seq c54_11 k) ∧
 evK gS fi54 c54_7 fr st k = evK gS fi54 c54_8 fr st (.blk 0 k) ∧
 (evK gS fi54 c54_5 fr st k = opsR gS fi54 [mv 12 0 67,
 len1 13 12 67 3,
 op1 14 (.move (.const (.int .i64 0))) 3] fr st (.seq c54_7 k)) ∧
 (evK gS fi54 c54_69 fr st k = opsR gS fi54 [mv 66 3 71,
 asn 2 66 71] fr st (.seq .ret k)) ∧
 evK gS fi54 c54_4 fr st k = evK gS fi54 c54_5 fr st (.seq c54_69 k) ∧
 evK gS fi54 c54_2 fr st k = opsR gS fi54 [op1 3 (.assign (.const (.slice none 0 0))) 71] fr st (.seq c54_4 k) ∧
 evK gS fi54 c54_0 fr st k = opsR gS fi54 [op1 2 (.assign (.const (.slice none 0 0))) 71] fr st (.seq c54_2 k) := ⟨evK_r 9 (by kernel_rfl), evK_rs 8 rfl (by kernel_rfl), evK_r 10 (by kernel_rfl), rfl, rfl, evK_rs 7 rfl (by kernel_rfl), rfl, evK_rs 6 rfl (by kernel_rfl), rfl, evK_rs 11 rfl (by kernel_rfl), evK_r 17 (by kernel_rfl), rfl, evK_rs 16 rfl (by kernel_rfl), evK_rs 15 rfl (by kernel_rfl), evK_r 18 (by kernel_rfl), rfl, rfl, evK_rs 14 rfl (by kernel_rfl), rfl, evK_rs 13 rfl (by kernel_rfl), rfl, evK_rs 12 rfl (by kernel_rfl), rfl, evK_rs 5 rfl (by kernel_rfl), evK_rs 4 rfl (by kernel_rfl), evK_r 20 (by kernel_rfl), rfl, rfl, evK_rs 3 rfl (by kernel_rfl), rfl, evK_rs 2 rfl (by kernel_rfl), evK_rs 21 rfl (by kernel_rfl), rfl, evK_rs 1 rfl (by kernel_rfl), evK_rs 0 rfl (by kernel_rfl)⟩
theorem m54 : mini fi54.body = c54_0 := by kernel_rfl
theorem n54_25 (fr : Fr) (st : St) (k : Kt) : nextK gS fi54 (.loop c54_26 k) .normal fr st = evK gS fi54 c54_25 fr st k := rfl
theorem n54_50 (fr : Fr) (st : St) (k : Kt) : nextK gS fi54 (.loop c54_51 k) .normal fr st = evK gS fi54 c54_50 fr st k := rfl
theorem n54_8 (fr : Fr) (st : St) (k : Kt) : nextK gS fi54 (.loop c54_9 k) .normal fr st = evK gS fi54 c54_8 fr st k := rfl
set_option maxHeartbeats 8000000 in
theorem L54_25 (l : List Sub) (hl1 : ∀ x ∈ l, PSm x.filter) (hl2 : l.length ≤ 1000) (s : Sub) (hs : PSm s.filter) (i : Nat) (out : List Grp) (ko : Nat) (st : St) (R : Out × St) (hi : i ≤ l.length) (fin : Bool)
    (H : ∀ (e8 e9 e11 e21 e22 e23 e43 e44 e45 : E) (T : List (Nat × E)) (X : List (Nat × List V)), e8.Tame → e9.Tame → e11.Tame → e21.Tame → e22.Tame → e23.Tame → e43.Tame → e44.Tame → e45.Tame → lk X 5 = some s.cells → evK gS fi54 c54_38 { ps := [(0, .val (.slice (encSubs l))), (2, .own 0 []), (3, .own ko (encGrps out)), (4, .val (.int .i64 (i : Nat))), (5, .lp 5 0), (6, .val (.bool fin)), (8, e8), (9, e9), (11, e11), (12, .val (.slice (encSubs l))), (13, .val (.int .i64 l.length)), (14, .val (.int .i64 (i : Nat))), (21, e21), (22, e22), (23, e23), (43, e43), (44, e44), (45, e45)], ts := T, lc := X } st (.blk 1 (.seq c54_68 (.loop c54_9 (.blk 0 (.seq c54_69 .nil))))) = some R) :
    ∀ (m k : Nat) (b : Bool) (e8 e9 e11 e43 e44 e45 : E) (T : List (Nat × E)) (X : List (Nat × List V)) (h8 : e8.Tame) (h9 : e9.Tame) (h11 : e11.Tame) (h43 : e43.Tame) (h44 : e44.Tame) (h45 : e45.Tame) (hx5 : lk X 5 = some s.cells), k ≤ i → i - k = m → fin = ((l.take i).drop k).foldl (fun b t => b && !fsame s.filter t.filter) b →
    evK gS fi54 c54_25 { ps := [(0, .val (.slice (encSubs l))), (2, .own 0 []), (3, .own ko (encGrps out)), (4, .val (.int .i64 (i : Nat))), (5, .lp 5 0), (6, .val (.bool b)), (8, e8), (9, e9), (11, e11), (12, .val (.slice (encSubs l))), (13, .val (.int .i64 l.length)), (14, .val (.int .i64 (i : Nat))), (21, .val (.slice (encSubs (l.take i)))), (22, .val (.int .i64 (i : Nat))), (23, .val (.int .i64 (k : Nat))), (43, e43), (44, e44), (45, e45)], ts := T, lc := X } st (.blk 2 (.seq c54_38 (.blk 1 (.seq c54_68 (.loop c54_9 (.blk 0 (.seq c54_69 .nil))))))) = some R := by
  intro m
  have hm : fi54.marks = [1000000] := rfl
  have hl : fi54.locals = [5, 8, 9, 11] := rfl
  have hr : fi54.results = [.tmp 2] := rfl
  have hso := hs.ok
  have hlt0 : (l.take i).length = i := by simp; omega
  induction m with
  | zero =>
    intro k b e8 e9 e11 e43 e44 e45 T X h8 h9 h11 h43 h44 h45 hx5 hk hm2 hf
    obtain rfl : k = i := by omega
    rw [List.drop_of_length_le (by omega), List.foldl_nil] at hf
    subst hf
    have HH := H e8 e9 e11 (.val (.slice (encSubs (l.take k)))) (.val (.int .i64 k)) (.val (.int .i64 k)) e43 e44 e45
    refine evK_loop c54_26 _ _ _ _ rfl ?_
    simp [-Int.natCast_add, h8, h9, h11, h43, h44, h45, -Int.not_le, -Int.not_lt, -Nat.not_le, -Nat.not_lt, ty3, ty4, ty28, ty49, ty67, ty70, ty71, ty76, hm, hl, hr, E54, e54_67, n54_25, n54_50, n54_8]
    exact HH _ _ h8 h9 h11 rfl rfl rfl h43 h44 h45 hx5
  | succ m ih =>
    intro k b e8 e9 e11 e43 e44 e45 T X h8 h9 h11 h43 h44 h45 hx5 hk hm2 hf
    obtain ⟨x, hx⟩ : ∃ x, (l.take i)[k]? = some x := ⟨(l.take i)[k]'(by omega), List.getElem?_eq_getElem (by omega)⟩
    have hd := drop_get hx
    have hlt : (k : Int) < (i : Int) := by omega
    obtain ⟨hlt2, hxe⟩ := List.getElem?_eq_some_iff.1 hx
    have hw : IntKind.wrap .i64 ((k : Int) + 1) = ((k + 1 : Nat) : Int) := by rw [wrap64 (by omega) (by omega)]; omega
    have hxo := (hl1 x (List.mem_of_mem_take (List.mem_of_getElem? hx))).ok
    rw [hd, List.foldl_cons] at hf
    have kk : ∀ (fr : Fr) (st : St), callStep gS (EvF gS) 41 [.slice (encPreds s.filter), .slice (encPreds x.filter)] fr st = some (.ok (.val (.bool (fsame s.filter x.filter))) fr st) := fun fr st => k41 _ _ hso hxo fr st
    have IH := fun e8 e9 e11 e43 e44 e45 T X h8 h9 h11 h43 h44 h45 hx5 => ih (k + 1) _ e8 e9 e11 e43 e44 e45 T X h8 h9 h11 h43 h44 h45 hx5 (by omega) (by omega) hf
    generalize fsame s.filter x.filter = q at *
    generalize l.take i = L at *
    subst hlt0
    refine evK_loop c54_26 _ _ _ _ rfl ?_
    simp only [Sub.cells] at hx5
    cases b with
    | false =>
      simp only [Bool.false_and] at IH
      simp [-Int.natCast_add, h8, h9, h11, h43, h44, h45, hx, hxe, hlt, hlt2, hw, hx5, -Int.not_le, -Int.not_lt, -Nat.not_le, -Nat.not_lt, ty3, ty4, ty28, ty49, ty67, ty70, ty71, ty76, hm, hl, hr, E54, e54_67, n54_25, n54_50, n54_8]
      refine IH _ _ _ _ _ _ _ _ ?_ ?_ ?_ ?_ ?_ ?_ ?_
      all_goals simp [h8, h9, h11, h43, h44, h45, hx5]
    | true =>
      simp only [Bool.true_and] at IH
      simp [-Int.natCast_add, h8, h9, h11, h43, h44, h45, hx, hxe, hlt, hlt2, hw, hx5, kk, -Int.not_le, -Int.not_lt, -Nat.not_le, -Nat.not_lt, ty3, ty4, ty28, ty49, ty67, ty70, ty71, ty76, hm, hl, hr, E54, e54_67, n54_25, n54_50, n54_8]
      refine IH _ _ _ _ _ _ _ _ ?_ ?_ ?_ ?_ ?_ ?_ ?_
      all_goals simp [h8, h9, h11, h43, h44, h45, hx5]
set_option maxHeartbeats 8000000 in
theorem L54_50 (l : List Sub) (hl1 : ∀ x ∈ l, PSm x.filter) (hl2 : l.length ≤ 1000) (s : Sub) (hs : PSm s.filter) (i : Nat) (out : List Grp) (ko : Nat) (st : St) (R : Out × St) (fin : List Int)
    (H : ∀ (CL : V) (e8 e11 e21 e22 e23 : E) (T : List (Nat × E)) (X : List (Nat × List V)), CLo CL fin → e8.Tame → e11.Tame → e21.Tame → e22.Tame → e23.Tame → lk X 9 = some [.slice (encPreds s.filter), CL] → evK gS fi54 c54_67 { ps := [(0, .val (.slice (encSubs l))), (2, .own 0 []), (3, .own ko (encGrps out)), (4, .val (.int .i64 (i : Nat))), (5, .lp 5 0), (6, .val (.bool true)), (8, e8), (9, .lp 9 0), (11, e11), (12, .val (.slice (encSubs l))), (13, .val (.int .i64 l.length)), (14, .val (.int .i64 (i : Nat))), (21, e21), (22, e22), (23, e23), (43, .val (.slice (encSubs l))), (44, .val (.int .i64 l.length)), (45, .val (.int .i64 l.length))], ts := T, lc := X } st (.blk 1 (.seq c54_68 (.loop c54_9 (.blk 0 (.seq c54_69 .nil))))) = some R) :
    ∀ (m k : Nat) (acc : List Int) (CL : V) (e8 e11 e21 e22 e23 : E) (T : List (Nat × E)) (X : List (Nat × List V)) (hc : CLo CL acc) (h8 : e8.Tame) (h11 : e11.Tame) (h21 : e21.Tame) (h22 : e22.Tame) (h23 : e23.Tame) (hx5 : lk X 5 = some s.cells) (hx9 : lk X 9 = some [.slice (encPreds s.filter), CL]), k ≤ l.length → l.length - k = m → acc.length ≤ k → fin = (l.drop k).foldl (cliStep s) acc →
    evK gS fi54 c54_50 { ps := [(0, .val (.slice (encSubs l))), (2, .own 0 []), (3, .own ko (encGrps out)), (4, .val (.int .i64 (i : Nat))), (5, .lp 5 0), (6, .val (.bool true)), (8, e8), (9, .lp 9 0), (11, e11), (12, .val (.slice (encSubs l))), (13, .val (.int .i64 l.length)), (14, .val (.int .i64 (i : Nat))), (21, e21), (22, e22), (23, e23), (43, .val (.slice (encSubs l))), (44, .val (.int .i64 l.length)), (45, .val (.int .i64 (k : Nat)))], ts := T, lc := X } st (.blk 4 (.seq c54_67 (.blk 1 (.seq c54_68 (.loop c54_9 (.blk 0 (.seq c54_69 .nil))))))) = some R := by
  intro m
  have hm : fi54.marks = [1000000] := rfl
  have hl : fi54.locals = [5, 8, 9, 11] := rfl
  have hr : fi54.results = [.tmp 2] := rfl
  have hso := hs.ok
  induction m with
  | zero =>
    intro k acc CL e8 e11 e21 e22 e23 T X hc h8 h11 h21 h22 h23 hx5 hx9 hk hm2 ha hf
    obtain rfl : k = l.length := by omega
    rw [List.drop_length, List.foldl_nil] at hf
    subst hf
    refine evK_loop c54_51 _ _ _ _ rfl ?_
    simp [-Int.natCast_add, h8, h11, h21, h22, h23, -Int.not_le, -Int.not_lt, -Nat.not_le, -Nat.not_lt, ty3, ty4, ty28, ty49, ty67, ty70, ty71, ty76, hm, hl, hr, E54, e54_38, n54_25, n54_50, n54_8]
    exact H CL _ _ _ _ _ _ _ hc h8 h11 h21 h22 h23 hx9
  | succ m ih =>
    intro k acc CL e8 e11 e21 e22 e23 T X hc h8 h11 h21 h22 h23 hx5 hx9 hk hm2 ha hf
    obtain ⟨x, hx⟩ : ∃ x, l[k]? = some x := ⟨l[k]'(by omega), List.getElem?_eq_getElem (by omega)⟩
    have hd := drop_get hx
    have hlt : (k : Int) < (l.length : Int) := by omega
    obtain ⟨hlt2, hxe⟩ := List.getElem?_eq_some_iff.1 hx
    have hw : IntKind.wrap .i64 ((k : Int) + 1) = ((k + 1 : Nat) : Int) := by rw [wrap64 (by omega) (by omega)]; omega
    have hxo := (hl1 x (List.mem_of_getElem? hx)).ok
    rw [hd, List.foldl_cons] at hf
    have kk : ∀ (fr : Fr) (st : St), callStep gS (EvF gS) 41 [.slice (encPreds s.filter), .slice (encPreds x.filter)] fr st = some (.ok (.val (.bool (fsame s.filter x.filter))) fr st) := fun fr st => k41 _ _ hso hxo fr st
    have hll := layI_len acc x.client
    simp only [Sub.cells] at hx5
    refine evK_loop c54_51 _ _ _ _ rfl ?_
    cases hq : fsame s.filter x.filter with
    | false =>
      rw [hq] at kk
      have hst : cliStep s acc x = acc := by unfold cliStep; rw [hq]; rfl
      rw [hst] at hf
      have IH := fun e8 e11 e21 e22 e23 T X h8 h11 h21 h22 h23 hx5 hx9 => ih (k + 1) acc CL e8 e11 e21 e22 e23 T X hc h8 h11 h21 h22 h23 hx5 hx9 (by omega) (by omega) (by omega) hf
      simp [-Int.natCast_add, h8, h11, h21, h22, h23, hx, hxe, hlt, hlt2, hw, hx5, hx9, kk, -Int.not_le, -Int.not_lt, -Nat.not_le, -Nat.not_lt, ty3, ty4, ty28, ty49, ty67, ty70, ty71, ty76, hm, hl, hr, E54, e54_38, n54_25, n54_50, n54_8]
      refine IH _ _ _ _ _ _ _ ?_ ?_ ?_ ?_ ?_ ?_ ?_
      all_goals simp [h8, h11, h21, h22, h23, hx5, hx9]
    | true =>
      rw [hq] at kk
      have hst : cliStep s acc x = layI acc x.client := by unfold cliStep; rw [hq]; rfl
      rw [hst] at hf
      have kl := fun fr st => k95 acc (by omega) x.client fr st
      have IH := fun e8 e11 e21 e22 e23 T X h8 h11 h21 h22 h23 hx5 hx9 => ih (k + 1) (layI acc x.client) (.slice (intVs (layI acc x.client))) e8 e11 e21 e22 e23 T X (.inr rfl) h8 h11 h21 h22 h23 hx5 hx9 (by omega) (by omega) (by omega) hf
      have hls : ∀ (X : List (Nat × List V)) (a b : List V), lk X 9 = some a → lk (lset X 9 b) 9 = some b := fun X a b h => lk_lset_self X 9 a b h
      rcases hc with ⟨rfl, rfl⟩ | rfl
      · rw [show intVs [] = [] from rfl] at kl
        simp [-Int.natCast_add, h8, h11, h21, h22, h23, hx, hxe, hlt, hlt2, hw, hx5, hx9, kk, kl, -Int.not_le, -Int.not_lt, -Nat.not_le, -Nat.not_lt, ty3, ty4, ty28, ty49, ty67, ty70, ty71, ty76, hm, hl, hr, E54, e54_38, n54_25, n54_50, n54_8]
        refine IH _ _ _ _ _ _ _ ?_ ?_ ?_ ?_ ?_ ?_ ?_
        all_goals simp [h8, h11, h21, h22, h23, hx5, hx9, lk_lset_self _ _ _ _ hx9]
        all_goals exact lk_lset_self _ _ [.slice (encPreds s.filter), .osl 0 []] _ (by simp [hx9])
      · simp [-Int.natCast_add, h8, h11, h21, h22, h23, hx, hxe, hlt, hlt2, hw, hx5, hx9, kk, kl, -Int.not_le, -Int.not_lt, -Nat.not_le, -Nat.not_lt, ty3, ty4, ty28, ty49, ty67, ty70, ty71, ty76, hm, hl, hr, E54, e54_38, n54_25, n54_50, n54_8]
        refine IH _ _ _ _ _ _ _ ?_ ?_ ?_ ?_ ?_ ?_ ?_
        all_goals simp [h8, h11, h21, h22, h23, hx5, hx9, lk_lset_self _ _ _ _ hx9]
        all_goals exact lk_lset_self _ _ [.slice (encPreds s.filter), .slice (intVs acc)] _ (by simp [hx9])
set_option maxHeartbeats 8000000 in
theorem L54 (l : List Sub) (hl1 : ∀ x ∈ l, PSm x.filter) (hl2 : l.length ≤ 1000) (st : St) :
    ∀ (m i : Nat) (out : List Grp) (e4 e5 e6 e8 e9 e11 e21 e22 e23 e43 e44 e45 : E) (T : List (Nat × E)) (X : List (Nat × List V)) (h4 : e4.Tame) (h5 : e5.Tame) (h6 : e6.Tame) (h8 : e8.Tame) (h9 : e9.Tame) (h11 : e11.Tame) (h21 : e21.Tame) (h22 : e22.Tame) (h23 : e23.Tame) (h43 : e43.Tame) (h44 : e44.Tame) (h45 : e45.Tame), i ≤ l.length → l.length - i = m → out.length ≤ i →
    evK gS fi54 c54_8 { ps := [(0, .val (.slice (encSubs l))), (2, .own 0 []), (3, .own (kof 2 out) (encGrps out)), (4, e4), (5, e5), (6, e6), (8, e8), (9, e9), (11, e11), (12, .val (.slice (encSubs l))), (13, .val (.int .i64 l.length)), (14, .val (.int .i64 (i : Nat))), (21, e21), (22, e22), (23, e23), (43, e43), (44, e44), (45, e45)], ts := T, lc := X } st (.blk 0 (.seq c54_69 .nil)) = some (.ret (.slice (encGrps (gofG l i (l.drop i) out))) none, st) := by
  intro m
  have hm : fi54.marks = [1000000] := rfl
  have hl : fi54.locals = [5, 8, 9, 11] := rfl
  have hr : fi54.results = [.tmp 2] := rfl
  induction m with
  | zero =>
    intro i out e4 e5 e6 e8 e9 e11 e21 e22 e23 e43 e44 e45 T X h4 h5 h6 h8 h9 h11 h21 h22 h23 h43 h44 h45 hi hm2 ho
    obtain rfl : i = l.length := by omega
    rw [List.drop_length]
    have hz := frz_slice (xs := encGrps out) (flats_grps out) st
    show _ = some (Out.ret (V.slice (encGrps out)) none, st)
    refine evK_loop c54_9 _ _ _ _ rfl ?_
    rcases kof_or 1 out with ⟨hk, rfl⟩ | hk
    · have hk2 : kof 2 ([] : List Grp) = 0 := rfl
      have en : encGrps [] = [] := rfl
      rw [en] at hz
      rw [hk2, en]
      simp [h4, h5, h6, h8, h9, h11, h21, h22, h23, h43, h44, h45, hz, -Int.not_le, -Int.not_lt, -Nat.not_le, -Nat.not_lt, ty3, ty4, ty28, ty49, ty67, ty70, ty71, ty76, hm, hl, hr, E54, e54_38, n54_25, n54_50, n54_8]
    · have hk2 : kof 2 out = 2 := by
        unfold kof at hk ⊢; split at hk <;> simp_all
      rw [hk2]
      simp [h4, h5, h6, h8, h9, h11, h21, h22, h23, h43, h44, h45, hz, -Int.not_le, -Int.not_lt, -Nat.not_le, -Nat.not_lt, ty3, ty4, ty28, ty49, ty67, ty70, ty71, ty76, hm, hl, hr, E54, e54_38, n54_25, n54_50, n54_8]
  | succ m ih =>
    intro i out e4 e5 e6 e8 e9 e11 e21 e22 e23 e43 e44 e45 T X h4 h5 h6 h8 h9 h11 h21 h22 h23 h43 h44 h45 hi hm2 ho
    obtain ⟨s, hx⟩ : ∃ s, l[i]? = some s := ⟨l[i]'(by omega), List.getElem?_eq_getElem (by omega)⟩
    have hd := drop_get hx
    have hlt : (i : Int) < (l.length : Int) := by omega
    obtain ⟨hlt2, hxe⟩ := List.getElem?_eq_some_iff.1 hx
    have hw : IntKind.wrap .i64 ((i : Int) + 1) = ((i + 1 : Nat) : Int) := by rw [wrap64 (by omega) (by omega)]; omega
    have hs := hl1 s (List.mem_of_getElem? hx)
    have hso := hs.ok
    rw [hd]
    have hgo : gofG l i (s :: l.drop (i + 1)) out = gofG l (i + 1) (l.drop (i + 1)) (if fstOf l i s then out ++ [⟨s.filter, cliOf l s⟩] else out) := rfl
    rw [hgo]
    have hol : (if fstOf l i s then out ++ [⟨s.filter, cliOf l s⟩] else out).length ≤ i + 1 := by
      split
      · simp; omega
      · omega
    have IH := fun e4 e5 e6 e8 e9 e11 e21 e22 e23 e43 e44 e45 T X h4 h5 h6 h8 h9 h11 h21 h22 h23 h43 h44 h45 => ih (i + 1) (if fstOf l i s then out ++ [⟨s.filter, cliOf l s⟩] else out) e4 e5 e6 e8 e9 e11 e21 e22 e23 e43 e44 e45 T X h4 h5 h6 h8 h9 h11 h21 h22 h23 h43 h44 h45 (by omega) (by omega) hol
    generalize hR : (Out.ret (V.slice (encGrps (gofG l (i + 1) (l.drop (i + 1)) (if fstOf l i s then out ++ [⟨s.filter, cliOf l s⟩] else out)))) none, st) = R at IH ⊢
    clear hR
    have HA : ∀ (e8 e9 e11 e21 e22 e23 e43 e44 e45 : E) (T : List (Nat × E)) (X : List (Nat × List V)), e8.Tame → e9.Tame → e11.Tame → e21.Tame → e22.Tame → e23.Tame → e43.Tame → e44.Tame → e45.Tame → lk X 5 = some s.cells → evK gS fi54 c54_38 { ps := [(0, .val (.slice (encSubs l))), (2, .own 0 []), (3, .own (kof 2 out) (encGrps out)), (4, .val (.int .i64 (i : Nat))), (5, .lp 5 0), (6, .val (.bool (fstOf l i s))), (8, e8), (9, e9), (11, e11), (12, .val (.slice (encSubs l))), (13, .val (.int .i64 l.length)), (14, .val (.int .i64 (i : Nat))), (21, e21), (22, e22), (23, e23), (43, e43), (44, e44), (45, e45)], ts := T, lc := X } st (.blk 1 (.seq c54_68 (.loop c54_9 (.blk 0 (.seq c54_69 .nil))))) = some R := by
      intro e8 e9 e11 e21 e22 e23 e43 e44 e45 T X h8 h9 h11 h21 h22 h23 h43 h44 h45 hx5
      cases hq : fstOf l i s with
      | false =>
        rw [hq] at IH
        simp only [Bool.false_eq_true, if_false] at IH
        simp [-Int.natCast_add, h8, h9, h11, h21, h22, h23, h43, h44, h45, hw, -Int.not_le, -Int.not_lt, -Nat.not_le, -Nat.not_lt, ty3, ty4, ty28, ty49, ty67, ty70, ty71, ty76, hm, hl, hr, E54, e54_38, n54_25, n54_50, n54_8]
        refine IH _ _ _ _ _ _ _ _ _ _ _ _ _ _ ?_ ?_ ?_ ?_ ?_ ?_ ?_ ?_ ?_ ?_ ?_ ?_
        all_goals simp [h8, h9, h11, h21, h22, h23, h43, h44, h45]
      | true =>
        rw [hq] at IH
        simp only [if_true] at IH
        have kc := fun fr st => k45 s.filter hs fr st
        have hs1 := sizes_grps out
        have hs2 := grps_snoc out ⟨s.filter, cliOf l s⟩
        have b1 : (out.length + 1) * 48 ≤ 140737488355328 := by omega
        have b2 : out.length + 1 ≤ 140737488355328 := by omega
        rw [kof_snoc] at IH
        have HB : ∀ (CL : V) (e8 e11 e21 e22 e23 : E) (T : List (Nat × E)) (X : List (Nat × List V)), CLo CL (cliOf l s) → e8.Tame → e11.Tame → e21.Tame → e22.Tame → e23.Tame → lk X 9 = some [.slice (encPreds s.filter), CL] → evK gS fi54 c54_67 { ps := [(0, .val (.slice (encSubs l))), (2, .own 0 []), (3, .own (kof 2 out) (encGrps out)), (4, .val (.int .i64 (i : Nat))), (5, .lp 5 0), (6, .val (.bool true)), (8, e8), (9, .lp 9 0), (11, e11), (12, .val (.slice (encSubs l))), (13, .val (.int .i64 l.length)), (14, .val (.int .i64 (i : Nat))), (21, e21), (22, e22), (23, e23), (43, .val (.slice (encSubs l))), (44, .val (.int .i64 l.length)), (45, .val (.int .i64 l.length))], ts := T, lc := X } st (.blk 1 (.seq c54_68 (.loop c54_9 (.blk 0 (.seq c54_69 .nil))))) = some R := by
          intro CL e8 e11 e21 e22 e23 T X hc h8 h11 h21 h22 h23 hx9
          generalize cliOf l s = cl at *
          have en : encGrps [] = [] := rfl
          have en1 : encGrps ([] ++ [⟨s.filter, cl⟩]) = [.agg [.slice (encPreds s.filter), .slice (intVs cl)]] := rfl
          rcases hc with ⟨rfl, rfl⟩ | rfl
          · rw [show intVs [] = [] from rfl] at hs2 en1
            rcases kof_or 2 out with ⟨hk, rfl⟩ | hk
            · rw [hk, en]
              rw [en1] at IH
              simp [-Int.natCast_add, h8, h11, h21, h22, h23, hx9, hw, -Int.not_le, -Int.not_lt, -Nat.not_le, -Nat.not_lt, ty3, ty4, ty28, ty49, ty67, ty70, ty71, ty76, hm, hl, hr, E54, e54_67, e54_38, n54_25, n54_50, n54_8]
              refine IH _ _ _ _ _ _ _ _ _ _ _ _ _ _ ?_ ?_ ?_ ?_ ?_ ?_ ?_ ?_ ?_ ?_ ?_ ?_
              all_goals simp [h8, h11, h21, h22, h23]
            · rw [hk]
              simp [-Int.natCast_add, -List.append_assoc, h8, h11, h21, h22, h23, hx9, hw, hs1, hs2, b1, b2, -Int.not_le, -Int.not_lt, -Nat.not_le, -Nat.not_lt, ty3, ty4, ty28, ty49, ty67, ty70, ty71, ty76, hm, hl, hr, E54, e54_67, e54_38, n54_25, n54_50, n54_8]
              refine IH _ _ _ _ _ _ _ _ _ _ _ _ _ _ ?_ ?_ ?_ ?_ ?_ ?_ ?_ ?_ ?_ ?_ ?_ ?_
              all_goals simp [h8, h11, h21, h22, h23]
          · rcases kof_or 2 out with ⟨hk, rfl⟩ | hk
            · rw [hk, en]
              rw [en1] at IH
              simp [-Int.natCast_add, h8, h11, h21, h22, h23, hx9, hw, -Int.not_le, -Int.not_lt, -Nat.not_le, -Nat.not_lt, ty3, ty4, ty28, ty49, ty67, ty70, ty71, ty76, hm, hl, hr, E54, e54_67, e54_38, n54_25, n54_50, n54_8]
              refine IH _ _ _ _ _ _ _ _ _ _ _ _ _ _ ?_ ?_ ?_ ?_ ?_ ?_ ?_ ?_ ?_ ?_ ?_ ?_
              all_goals simp [h8, h11, h21, h22, h23]
            · rw [hk]
              simp [-Int.natCast_add, -List.append_assoc, h8, h11, h21, h22, h23, hx9, hw, hs1, hs2, b1, b2, -Int.not_le, -Int.not_lt, -Nat.not_le, -Nat.not_lt, ty3, ty4, ty28, ty49, ty67, ty70, ty71, ty76, hm, hl, hr, E54, e54_67, e54_38, n54_25, n54_50, n54_8]
              refine IH _ _ _ _ _ _ _ _ _ _ _ _ _ _ ?_ ?_ ?_ ?_ ?_ ?_ ?_ ?_ ?_ ?_ ?_ ?_
              all_goals simp [h8, h11, h21, h22, h23]
        have LB := fun CL e8 e11 e21 e22 e23 T X hc h8 h11 h21 h22 h23 hx5 hx9 => L54_50 l hl1 hl2 s hs i out (kof 2 out) st R (cliOf l s) HB l.length 0 [] CL e8 e11 e21 e22 e23 T X hc h8 h11 h21 h22 h23 hx5 hx9 (Nat.zero_le _) rfl (Nat.le_refl _) rfl
        rw [show ((0 : Nat) : Int) = 0 from rfl] at LB
        simp only [Sub.cells] at hx5
        simp [-Int.natCast_add, h8, h9, h11, h21, h22, h23, h43, h44, h45, hx5, kc, -Int.not_le, -Int.not_lt, -Nat.not_le, -Nat.not_lt, ty3, ty4, ty28, ty49, ty67, ty70, ty71, ty76, hm, hl, hr, E54, e54_38, n54_25, n54_50, n54_8]
        refine LB (.osl 0 []) _ _ _ _ _ _ _ (.inl ⟨rfl, rfl⟩) ?_ ?_ ?_ ?_ ?_ ?_ ?_
        all_goals simp [h8, h9, h11, h21, h22, h23, hx5]
    have LA := fun e8 e9 e11 e43 e44 e45 T X h8 h9 h11 h43 h44 h45 hx5 => L54_25 l hl1 hl2 s hs i out (kof 2 out) st R hi (fstOf l i s) HA i 0 true e8 e9 e11 e43 e44 e45 T X h8 h9 h11 h43 h44 h45 hx5 (Nat.zero_le _) rfl (by rw [List.drop_zero]; rfl)
    rw [show ((0 : Nat) : Int) = 0 from rfl] at LA
    have htk : (encSubs l).take i = encSubs (l.take i) := by simp [encSubs]
    have hsz := sizes_subs l
    have hi1 : (i : Int) ≤ (l.length : Int) := by omega
    have hi0 : (0 : Int) ≤ (i : Int) := by omega
    have hmin : min i l.length = i := by omega
    refine evK_loop c54_9 _ _ _ _ rfl ?_
    simp [-Int.natCast_add, h4, h5, h6, h8, h9, h11, h21, h22, h23, h43, h44, h45, hx, hxe, hlt, hlt2, htk, hsz, hi0, hi1, hmin, -Int.not_le, -Int.not_lt, -Nat.not_le, -Nat.not_lt, ty3, ty4, ty28, ty49, ty67, ty70, ty71, ty76, hm, hl, hr, E54, e54_38, n54_25, n54_50, n54_8]
    refine LA _ _ _ _ _ _ _ _ ?_ ?_ ?_ ?_ ?_ ?_ ?_
    all_goals simp [h8, h9, h11, h43, h44, h45]
set_option maxHeartbeats 8000000 in
theorem c54 (l : List Sub) (hl1 : ∀ x ∈ l, PSm x.filter) (hl2 : l.length ≤ 1000) (st : St) : EvF gS 54 [.slice (encSubs l)] st = some (.ret (.slice (encGrps (gof l))) none, st) := by
  refine EvF_start fi54_eq (fun x h => by cases h) m54 ?_
  rw [st54]
  have hm : fi54.marks = [1000000] := rfl
  have hl : fi54.locals = [5, 8, 9, 11] := rfl
  have hr : fi54.results = [.tmp 2] := rfl
  have L0 := fun e4 e5 e6 e8 e9 e11 e21 e22 e23 e43 e44 e45 T X h4 h5 h6 h8 h9 h11 h21 h22 h23 h43 h44 h45 => L54 l hl1 hl2 st l.length 0 [] e4 e5 e6 e8 e9 e11 e21 e22 e23 e43 e44 e45 T X h4 h5 h6 h8 h9 h11 h21 h22 h23 h43 h44 h45 (Nat.zero_le _) rfl (Nat.le_refl _)
  simp only [show ((0 : Nat) : Int) = 0 from rfl, List.drop_zero, show kof 2 ([] : List Grp) = 0 from rfl, show encGrps [] = [] from rfl] at L0
  show _ = some (Out.ret (V.slice (encGrps (gofG l 0 l []))) none, st)
  simp [L0, -Int.not_le, -Int.not_lt, -Nat.not_le, -Nat.not_lt, ty3, ty4, ty28, ty49, ty67, ty70, ty71, ty76, hm, hl, hr, E54, e54_67, e54_38, n54_25, n54_50, n54_8]
theorem k54 (l : List Sub) (hl1 : ∀ x ∈ l, PSm x.filter) (hl2 : l.length ≤ 1000) (fr : Fr) (st : St) : callStep gS (EvF gS) 54 [.slice (encSubs l)] fr st = some (.ok (.val (.slice (encGrps (gof l)))) (fr.map E.noMem) st) := by
  unfold callStep
  simp only [show gS.ext 54 = none from rfl, fi54_eq, show fi54.pure = false from rfl, Bool.false_eq_true, if_false, c54 l hl1 hl2 st, retE]
def fi53 : FI := { body := codeOf Try.f53, ntmps := 59, results := [.tmp 4], pers := [0, 1, 4, 5, 6, 7, 8, 9, 10, 11, 12], locals := [11], pure := false, marks := [1000000] }
theorem fi53_eq : gS.fn 53 = some fi53 := by kernel_rfl
theorem st53 (a0 a1 : V) : startFr fi53 [a0, a1] = { ps := [(0, .val a0), (1, .val a1), (4, .any), (5, .any), (6, .any), (7, .any), (8, .any), (9, .any), (10, .any), (11, .any), (12, .any)], ts := [], lc := [] } := rfl
def b53 : Code := mini (codeOf Try.f53)
def c53_14 : Code := .cond (.tmp 19) .skip (.exit 0)
def c53_12 : Code := .seq (codeN b53 535) c53_14
def c53_30 : Code := .cond (.tmp 30) .skip (.exit 2)
def c53_28 : Code := .seq (codeN b53 138391) c53_30
def c53_45 : Code := codeN b53 23895191
def c53_44 : Code := .cond (.tmp 47) c53_45 .skip
def c53_42 : Code := .seq (codeN b53 11312279) c53_44
def c53_40 : Code := .seq (codeN b53 5020823) c53_42
def c53_47 : Code := codeN b53 3972247
def c53_39 : Code := .seq c53_40 c53_47
def c53_37 : Code := .seq (codeN b53 1350807) c53_39
def c53_35 : Code := .seq (codeN b53 564375) c53_37
def c53_48 : Code := codeN b53 236695
def c53_33 : Code := .seq (.block 3 c53_35) c53_48
def c53_27 : Code := .seq c53_28 c53_33
def c53_26 : Code := .loop c53_27
def c53_25 : Code := .block 2 c53_26
def c53_23 : Code := .seq (codeN b53 11415) c53_25
def c53_21 : Code := .seq (codeN b53 5271) c53_23
def c53_19 : Code := .seq (codeN b53 2199) c53_21
def c53_49 : Code := codeN b53 919
theorem e53_49 : evK gS fi53 c53_49 fr st k = opsR gS fi53 [mv 20 7 3,
 op1 21 (.binOp .add 3 (.tmp 20) (.const (.int .i64 1)) 3) 3,
 asn 7 21 3] fr st k := evK_r 5 (by kernel_rfl)
def c53_17 : Code := .seq (.block 1 c53_19) c53_49
def c53_11 : Code := .seq c53_12 c53_17
def c53_10 : Code := .loop c53_11
def c53_9 : Code := .block 0 c53_10
def c53_7 : Code := .seq (codeN b53 39) c53_9
def c53_50 : Code := .seq (codeN b53 47) .ret
def c53_6 : Code := .seq c53_7 c53_50
def c53_4 : Code := .seq (codeN b53 11) c53_6
def c53_2 : Code := .seq (codeN b53 5) c53_4
def c53_0 : Code := .seq (codeN b53 2) c53_2
theorem E53 : evK gS fi53 c53_14 fr st k = condK gS fi53 (fr.op (.tmp 19)).bool? .skip (.exit 0) fr st k ∧
 (evK gS fi53 c53_12 fr st k = opsR gS fi53 [mv 18 7 3,
 op1 19 (.binOp .leq 3 (.tmp 18) (.const (.int .i64 6)) 3) 4] fr st (.seq c53_14 k)) ∧
 evK gS fi53 c53_30 fr st k = condK gS fi53 (fr.op (.tmp 30)).bool? .skip (.exit 2) fr st k ∧
 (evK gS fi53 c53_28 fr st k = opsR gS fi53 [mv 29 10 3,
 op1 30 (.binOp .gtr 3 (.tmp 29) (.const (.int .i64 0)) 3) 4] fr st (.seq c53_30 k)) ∧
 (evK gS fi53 c53_45 fr st k = opsR gS fi53 [mv 48 6 51,
 mv 49 12 3,
 ixa 50 51 48 49 0,
 ld 51 49 50 49,
 cal 52 51 [(.tmp 51)] [49] 49,
 op1 53 (.fieldAddr 70 (.tmp 11) 3) 0,
 sto 49 53 52] fr st k) ∧
 evK gS fi53 c53_44 fr st k = condK gS fi53 (fr.op (.tmp 47)).bool? c53_45 .skip fr st k ∧
 (evK gS fi53 c53_42 fr st k = opsR gS fi53 [mv 46 12 3,
 op1 47 (.binOp .lss 3 (.tmp 46) (.const (.int .i64 3)) 3) 4] fr st (.seq c53_44 k)) ∧
 (evK gS fi53 c53_40 fr st k = opsR gS fi53 [mv 44 0 29,
 cal 45 16 [(.tmp 44), (.const (.int .i64 6))] [29, 3] 3,
 asn 12 45 3] fr st (.seq c53_42 k)) ∧
 (evK gS fi53 c53_47 fr st k = opsR gS fi53 [mv 54 5 67,
 ld 55 70 11 70,
 op1 56 (.buildSlice 67 1 #[(0, (.tmp 55))]) 67,
 op1 57 (.call { callee := (.builtin .append), args := #[(.tmp 54), (.tmp 56)], argTypes := #[67, 67] }) 67,
 asn 5 57 67] fr st k) ∧
 evK gS fi53 c53_39 fr st k = evK gS fi53 c53_40 fr st (.seq c53_47 k) ∧
 (evK gS fi53 c53_37 fr st k = opsR gS fi53 [mv 38 7 3,
 mv 39 8 3,
 mv 40 9 3,
 mv 41 0 29,
 cal 42 35 [(.tmp 41)] [29] 49,
 op1 43 (.build 70 #[(0, (.tmp 38)), (1, (.tmp 39)), (2, (.tmp 40)), (3, (.tmp 42))]) 70,
 op1 11 (.alloc 70) 0,
 sto 70 11 43] fr st (.seq c53_39 k)) ∧
 (evK gS fi53 c53_35 fr st k = opsR gS fi53 [mv 33 9 3,
 op1 34 (.binOp .add 3 (.tmp 33) (.const (.int .i64 1)) 3) 3,
 mv 35 0 29,
 cal 36 16 [(.tmp 35), (.const (.int .i64 2))] [29, 3] 3,
 bop 37 .add 3 34 36 3 3,
 asn 9 37 3] fr st (.seq c53_37 k)) ∧
 (evK gS fi53 c53_48 fr st k = opsR gS fi53 [mv 31 10 3,
 op1 32 (.binOp .sub 3 (.tmp 31) (.const (.int .i64 1)) 3) 3,
 asn 10 32 3] fr st k) ∧
 evK gS fi53 c53_33 fr st k = evK gS fi53 c53_35 fr st (.blk 3 (.seq c53_48 k)) ∧
 evK gS fi53 c53_27 fr st k = evK gS fi53 c53_28 fr st (.seq c53_33 k) ∧
 evK gS fi53 c53_25 fr st k = evK gS fi53 c53_26 fr st (.blk 2 k) ∧
 (evK gS fi53 c53_23 fr st k = opsR gS fi53 [mv 27 0 29,
 cal 28 16 [(.tmp 27), (.const (.int .i64 4))] [29, 3] 3,
 asn 10 28 3] fr st (.seq c53_25 k)) ∧
 evK gS fi53 c53_21 fr st k = opsR gS fi53 [op1 9 (.assign (.const (.int .i64 0))) 3] fr st (.seq c53_23 k) ∧
 (evK gS fi53 c53_19 fr st k = opsR gS fi53 [mv 22 0 29,
 mv 23 1 28,
 len1 24 23 28 3,
 op1 25 (.binOp .add 3 (.tmp 24) (.const (.int .i64 1)) 3) 3,
 cal 26 16 [(.tmp 22), (.tmp 25)] [29, 3] 3,
 asn 8 26 3] fr st (.seq c53_21 k)) ∧
 evK gS fi53 c53_17 fr st k = evK gS fi53 c53_19 fr st (.blk 1 (.seq c53_49 k)) ∧
 evK gS fi53 c53_11 fr st k = evK gS fi53 c53_12 fr st (.seq c53_17 k) ∧
 evK gS fi53 c53_9 fr st k = evK gS fi53 c53_10 fr st (.blk 0 k) ∧
 evK gS fi53 c53_7 fr st k = opsR gS fi53 [op1 7 (.assign (.const (.int .i64 1))) 3] fr st (.seq c53_9 k) ∧
 (evK gS fi53 c53_50 fr st k = opsR gS fi53 [mv 58 5 67,
 asn 4 58 67] fr st (.seq .ret k)) ∧
 evK gS fi53 c53_6 fr st k = evK gS fi53 c53_7 fr st (.seq c53_50 k) ∧
 (evK gS fi53 c53_4 fr st k = opsR gS fi53 [mv 13 0 29,
 cal 14 35 [(.tmp 13)] [29] 49,
 mv 15 0 29,
 cal 16 35 [(.tmp 15)] [29] 49,
 op1 17 (.buildSlice 51 3 #[(0, (.tmp 14)), (1, (.tmp 16)), (2, (.const (.slice none 0 0)))]) 51,
 asn 6 17 51] fr st (.seq c53_6 k)) ∧
 evK gS fi53 c53_2 fr st k = opsR gS fi53 [op1 5 (.assign (.const (.slice none 0 0))) 67] fr st (.seq c53_4 k) ∧
 evK gS fi53 c53_0 fr st k = opsR gS fi53 [op1 4 (.assign (.const (.slice none 0 0))) 67] fr st (.seq c53_2 k) := ⟨rfl, evK_rs 4 rfl (by kernel_rfl), rfl, evK_rs 9 rfl (by kernel_rfl), evK_r 15 (by kernel_rfl), rfl, evK_rs 14 rfl (by kernel_rfl), evK_rs 13 rfl (by kernel_rfl), evK_r 16 (by kernel_rfl), rfl, evK_rs 12 rfl (by kernel_rfl), evK_rs 11 rfl (by kernel_rfl), evK_r 10 (by kernel_rfl), rfl, rfl, rfl, evK_rs 8 rfl (by kernel_rfl), evK_rs 7 rfl (by kernel_rfl), evK_rs 6 rfl (by kernel_rfl), rfl, rfl, rfl, evK_rs 3 rfl (by kernel_rfl), evK_rs 17 rfl (by kernel_rfl), rfl, evK_rs 2 rfl (by kernel_rfl), evK_rs 1 rfl (by kernel_rfl), evK_rs 0 rfl (by kernel_rfl)⟩
theorem m53 : mini fi53.body = c53_0 := by kernel_rfl
theorem n53_26 (fr : Fr) (st : St) (k : Kt) : nextK gS fi53 (.loop c53_27 k) .normal fr st = evK gS fi53 c53_26 fr st k := rfl
theorem n53_10 (fr : Fr) (st : St) (k : Kt) : nextK gS fi53 (.loop c53_11 k) .normal fr st = evK gS fi53 c53_10 fr st k := rfl
set_option maxHeartbeats 8000000 in
theorem L53_26 (l : List Int) (a id : Nat) (ha : a < 549755813888) (st : St) (h : FeedOk st id) (ps : List Int) (fs : List (List Pred)) (hfs : ∀ f ∈ fs, PSm f) (hfl : fs.length = 3) (c home : Int) (R : Out × St) : ∀ (r j d : Nat) (num : Int) (out : List Sub) (e11 e12 : E) (T : List (Nat × E)) (X : List (Nat × List V)) (h11 : e11.Tame) (h12 : e12.Tame), out.length + r < 1000 → 0 ≤ num → num + 2 * r < 1000000 → j + 36 * r < 549755800000 →
    (∀ e9 e11 e12 T X, e9.Tame → e11.Tame → e12.Tame → evK gS fi53 c53_49 { ps := [(0, .val (.ptr id 0)), (1, .val (.slice (intVs ps))), (4, .own 0 []), (5, .own (kof 4 (subsI l a fs c home r num j d out).1) (encSubs (subsI l a fs c home r num j d out).1)), (6, .own 1 (encPredss fs)), (7, .val (.int .i64 c)), (8, .val (.int .i64 home)), (9, e9), (10, .val (.int .i64 0)), (11, e11), (12, e12)], ts := T, lc := X } (setF (dd st (subsI l a fs c home r num j d out).2.2) id l (nA l a (subsI l a fs c home r num j d out).2.1)) (.loop c53_11 (.blk 0 (.seq c53_50 .nil))) = some R) →
    evK gS fi53 c53_26 { ps := [(0, .val (.ptr id 0)), (1, .val (.slice (intVs ps))), (4, .own 0 []), (5, .own (kof 4 out) (encSubs out)), (6, .own 1 (encPredss fs)), (7, .val (.int .i64 c)), (8, .val (.int .i64 home)), (9, .val (.int .i64 num)), (10, .val (.int .i64 (r : Nat))), (11, e11), (12, e12)], ts := T, lc := X } (setF (dd st d) id l (nA l a j)) (.blk 2 (.blk 1 (.seq c53_49 (.loop c53_11 (.blk 0 (.seq c53_50 .nil)))))) = some R := by
  intro r
  have hm : fi53.marks = [1000000] := rfl
  have hl : fi53.locals = [11] := rfl
  have hr : fi53.results = [.tmp 4] := rfl
  induction r with
  | zero =>
    intro j d num out e11 e12 T X h11 h12 hol hn0 hn1 hj H
    rw [show subsI l a fs c home 0 num j d out = (out, j, d) from rfl] at H
    refine evK_loop c53_27 _ _ _ _ rfl ?_
    rcases kof_or 4 out with ⟨hk, rfl⟩ | hk
    · have en : encSubs [] = [] := rfl
      rw [hk, en] at H ⊢
      simp [-St.obj, -St.set, h11, h12, -Int.not_le, -Int.not_lt, -Nat.not_le, -Nat.not_lt, ty3, ty4, ty28, ty29, ty49, ty51, ty67, ty70, hm, hl, hr, E53, n53_26, n53_10]
      exact H _ _ _ _ _ (tame_val _) h11 h12
    · rw [hk] at H ⊢
      simp [-St.obj, -St.set, h11, h12, -Int.not_le, -Int.not_lt, -Nat.not_le, -Nat.not_lt, ty3, ty4, ty28, ty29, ty49, ty51, ty67, ty70, hm, hl, hr, E53, n53_26, n53_10]
      exact H _ _ _ _ _ (tame_val _) h11 h12
  | succ r ih =>
    intro j d num out e11 e12 T X h11 h12 hol hn0 hn1 hj H
    have hb2 := fd_bound l a j (n := 2) (by omega)
    have k1 := fun fr => k16 l a j id 2 fr (dd st d) (h.dd d) ha (by omega) (by omega)
    have k2 := fun fr => k35 l a (j + 1) id fr (dd st d) (h.dd d) ha (by omega)
    rw [dd_dd] at k2
    have hfa := filterV_asks l a (j + 1)
    have hff := filterV_ffv l a (j + 1)
    simp only [subsI] at H
    have k3 := fun fr => k16 l a (filterV l a (j + 1)).2.1 id 6 fr (dd st (d + (filterV l a (j + 1)).2.2)) (h.dd _) ha (by omega) (by omega)
    have hb6 := fd_bound l a (filterV l a (j + 1)).2.1 (n := 6) (by omega)
    have IH := fun out' (ho : out'.length = out.length + 1) e11 e12 T X h11 h12 => ih ((filterV l a (j + 1)).2.1 + 1) (d + (filterV l a (j + 1)).2.2) (num + 1 + fd l a j 2) out' e11 e12 T X h11 h12 (by omega) (by omega) (by omega) (by omega)
    generalize filterV l a (j + 1) = F at *
    obtain ⟨f, J, D⟩ := F
    simp only at k2 k3 hfa hff hb6 H IH
    have hpf := psm_ffv hff
    generalize hz : fd l a J 6 = z at *
    generalize fd l a j 2 = y at *
    have hw1 : IntKind.wrap .i64 (num + 1) = num + 1 := wrap64 (by omega) (by omega)
    have hw2 : IntKind.wrap .i64 (num + 1 + y) = num + 1 + y := wrap64 (by omega) (by omega)
    have hw3 : IntKind.wrap .i64 (((r + 1 : Nat) : Int) - 1) = (r : Int) := by rw [wrap64 (by omega) (by omega)]; omega
    have hpos : (0 : Int) < ((r + 1 : Nat) : Int) := by omega
    have hs1 := sizes_subs out
    have b1 : (out.length + 1) * 48 ≤ 140737488355328 := by omega
    have b2 : out.length + 1 ≤ 140737488355328 := by omega
    refine evK_loop c53_27 _ _ _ _ rfl ?_
    by_cases hz3 : z < 3
    · rw [if_pos hz3] at H
      obtain ⟨q, rfl⟩ : ∃ q : Nat, z = (q : Int) := ⟨z.toNat, by omega⟩
      rw [Int.toNat_natCast] at H
      have hq : q < fs.length := by omega
      have hqi : (q : Int) < (fs.length : Int) := by omega
      obtain ⟨x, hx⟩ : ∃ x, fs[q]? = some x := ⟨fs[q]'hq, List.getElem?_eq_getElem hq⟩
      have hxe : fs[q]'hq = x := (List.getElem?_eq_some_iff.1 hx).2
      have hgd : fs.getD q [] = x := by rw [List.getD_eq_getElem?_getD, hx]; rfl
      rw [hgd] at H
      have hpx := hfs x (List.mem_of_getElem? hx)
      have k4 := fun fr st => k51 x hpx fr st
      have XX := IH (out ++ [⟨c, home, num + 1 + y, x⟩]) (by simp)
      have IHx := fun e11 e12 T X h11 h12 => XX e11 e12 T X h11 h12 H
      rw [kof_snoc] at IHx
      have hs2 := subs_snoc out ⟨c, home, num + 1 + y, x⟩
      have en : encSubs [] = [] := rfl
      have en1 : encSubs ([] ++ [⟨c, home, num + 1 + y, x⟩]) = [.agg [.int .i64 c, .int .i64 home, .int .i64 (num + 1 + y), .slice (encPreds x)]] := rfl
      have hkk : ¬ (kof 13 x = 0 ∧ ¬ encPreds x = []) := by
        unfold kof; split
        · rename_i h; rw [h]; simp [encPreds]
        · simp
      generalize kof 13 x = kx at *
      rcases kof_or 4 out with ⟨hk, rfl⟩ | hk
      · rw [hk, en]
        rw [en1] at IHx
        simp [-Int.natCast_add, -St.obj, -St.set, h11, h12, k1, k2, k3, k4, hw1, hw2, hw3, hpos, hz3, hq, hqi, hx, hxe, hkk, -Int.not_le, -Int.not_lt, -Nat.not_le, -Nat.not_lt, ty3, ty4, ty28, ty29, ty49, ty51, ty67, ty70, hm, hl, hr, E53, n53_26, n53_10]
        refine IHx _ _ _ _ ?_ ?_
        all_goals simp [h11, h12]
      · rw [hk]
        simp [-Int.natCast_add, -List.append_assoc, -St.obj, -St.set, h11, h12, k1, k2, k3, k4, hw1, hw2, hw3, hpos, hz3, hq, hqi, hx, hxe, hkk, hs1, hs2, b1, b2, -Int.not_le, -Int.not_lt, -Nat.not_le, -Nat.not_lt, ty3, ty4, ty28, ty29, ty49, ty51, ty67, ty70, hm, hl, hr, E53, n53_26, n53_10]
        refine IHx _ _ _ _ ?_ ?_
        all_goals simp [h11, h12]
    · rw [if_neg hz3] at H
      have XX := IH (out ++ [⟨c, home, num + 1 + y, f⟩]) (by simp)
      have IHx := fun e11 e12 T X h11 h12 => XX e11 e12 T X h11 h12 H
      rw [kof_snoc] at IHx
      have hs2 := subs_snoc out ⟨c, home, num + 1 + y, f⟩
      have en : encSubs [] = [] := rfl
      have en1 : encSubs ([] ++ [⟨c, home, num + 1 + y, f⟩]) = [.agg [.int .i64 c, .int .i64 home, .int .i64 (num + 1 + y), .slice (encPreds f)]] := rfl
      rcases kof_or 4 out with ⟨hk, rfl⟩ | hk
      · rw [hk, en]
        rw [en1] at IHx
        simp [-Int.natCast_add, -St.obj, -St.set, h11, h12, k1, k2, k3, hw1, hw2, hw3, hpos, hz3, -Int.not_le, -Int.not_lt, -Nat.not_le, -Nat.not_lt, ty3, ty4, ty28, ty29, ty49, ty51, ty67, ty70, hm, hl, hr, E53, n53_26, n53_10]
        refine IHx _ _ _ _ ?_ ?_
        all_goals simp [h11, h12]
      · rw [hk]
        simp [-Int.natCast_add, -List.append_assoc, -St.obj, -St.set, h11, h12, k1, k2, k3, hw1, hw2, hw3, hpos, hz3, hs1, hs2, b1, b2, -Int.not_le, -Int.not_lt, -Nat.not_le, -Nat.not_lt, ty3, ty4, ty28, ty29, ty49, ty51, ty67, ty70, hm, hl, hr, E53, n53_26, n53_10]
        refine IHx _ _ _ _ ?_ ?_
        all_goals simp [h11, h12]
set_option maxHeartbeats 8000000 in
theorem L53_10 (l : List Int) (a id : Nat) (ha : a < 549755813888) (st : St) (h : FeedOk st id) (ps : List Int) (fs : List (List Pred)) (hfs : ∀ f ∈ fs, PSm f) (hfl : fs.length = 3) (hps : ps.length < 1000) : ∀ (r j d : Nat) (c : Int) (out : List Sub) (e8 e9 e10 e11 e12 : E) (T : List (Nat × E)) (X : List (Nat × List V)) (h8 : e8.Tame) (h9 : e9.Tame) (h10 : e10.Tame) (h11 : e11.Tame) (h12 : e12.Tame), r ≤ 6 → c = 7 - r → out.length ≤ 3 * (6 - r) → j + 110 * r < 549755700000 →
    evK gS fi53 c53_10 { ps := [(0, .val (.ptr id 0)), (1, .val (.slice (intVs ps))), (4, .own 0 []), (5, .own (kof 4 out) (encSubs out)), (6, .own 1 (encPredss fs)), (7, .val (.int .i64 c)), (8, e8), (9, e9), (10, e10), (11, e11), (12, e12)], ts := T, lc := X } (setF (dd st d) id l (nA l a j)) (.blk 0 (.seq c53_50 .nil)) = some (.ret (.slice (encSubs (subsO l a ps.length fs r c j d out).1)) none, setF (dd st (subsO l a ps.length fs r c j d out).2.2) id l (nA l a (subsO l a ps.length fs r c j d out).2.1)) := by
  intro r
  have hm : fi53.marks = [1000000] := rfl
  have hl : fi53.locals = [11] := rfl
  have hr : fi53.results = [.tmp 4] := rfl
  induction r with
  | zero =>
    intro j d c out e8 e9 e10 e11 e12 T X h8 h9 h10 h11 h12 hr6 hc ho hj
    rw [show subsO l a ps.length fs 0 c j d out = (out, j, d) from rfl]
    obtain rfl : c = 7 := by omega
    have hz := frz_slice (xs := encSubs out) (flats_subs out)
    refine evK_loop c53_11 _ _ _ _ rfl ?_
    rcases kof_or 4 out with ⟨hk, rfl⟩ | hk
    · have en : encSubs [] = [] := rfl
      rw [en] at hz
      rw [hk, en]
      simp [-St.obj, -St.set, h8, h9, h10, h11, h12, hz, -Int.not_le, -Int.not_lt, -Nat.not_le, -Nat.not_lt, ty3, ty4, ty28, ty29, ty49, ty51, ty67, ty70, hm, hl, hr, E53, e53_49, n53_26, n53_10]
    · rw [hk]
      simp [-St.obj, -St.set, h8, h9, h10, h11, h12, hz, -Int.not_le, -Int.not_lt, -Nat.not_le, -Nat.not_lt, ty3, ty4, ty28, ty29, ty49, ty51, ty67, ty70, hm, hl, hr, E53, e53_49, n53_26, n53_10]
  | succ r ih =>
    intro j d c out e8 e9 e10 e11 e12 T X h8 h9 h10 h11 h12 hr6 hc ho hj
    have k1 := fun fr => k16 l a j id ((ps.length : Int) + 1) fr (dd st d) (h.dd d) ha (by omega) (by omega)
    have k2 := fun fr => k16 l a (j + 1) id 4 fr (dd st d) (h.dd d) ha (by omega) (by omega)
    have hb := fd_bound l a (j + 1) (n := 4) (by omega)
    simp only [subsO]
    have hw1 : IntKind.wrap .i64 ((ps.length : Int) + 1) = (ps.length : Int) + 1 := wrap64 (by omega) (by omega)
    have hwc : IntKind.wrap .i64 (c + 1) = c + 1 := wrap64 (by omega) (by omega)
    have hc6 : c ≤ 6 := by omega
    generalize fd l a j (ps.length + 1) = home at *
    generalize hz : fd l a (j + 1) 4 = z at *
    obtain ⟨q, rfl⟩ : ∃ q : Nat, z = (q : Int) := ⟨z.toNat, by omega⟩
    rw [Int.toNat_natCast]
    have hsa := subsI_asks l a fs c home q 0 (j + 2) d out
    have LI := fun R e11 e12 T X h11 h12 => L53_26 l a id ha st h ps fs hfs hfl c home R q (j + 2) d 0 out e11 e12 T X h11 h12 (by omega) (by omega) (by omega) (by omega)
    generalize subsI l a fs c home q 0 (j + 2) d out = I at *
    obtain ⟨out2, J, D⟩ := I
    simp only at hsa LI ⊢
    have IH := fun e8 e9 e10 e11 e12 T X h8 h9 h10 h11 h12 => ih J D (c + 1) out2 e8 e9 e10 e11 e12 T X h8 h9 h10 h11 h12 (by omega) (by omega) (by omega) (by omega)
    generalize hR : (Out.ret (V.slice (encSubs (subsO l a ps.length fs r (c + 1) J D out2).1)) none, setF (dd st (subsO l a ps.length fs r (c + 1) J D out2).2.2) id l (nA l a (subsO l a ps.length fs r (c + 1) J D out2).2.1)) = R at IH ⊢
    have H49 : ∀ e9 e11 e12 T X, e9.Tame → e11.Tame → e12.Tame → evK gS fi53 c53_49 { ps := [(0, .val (.ptr id 0)), (1, .val (.slice (intVs ps))), (4, .own 0 []), (5, .own (kof 4 out2) (encSubs out2)), (6, .own 1 (encPredss fs)), (7, .val (.int .i64 c)), (8, .val (.int .i64 home)), (9, e9), (10, .val (.int .i64 0)), (11, e11), (12, e12)], ts := T, lc := X } (setF (dd st D) id l (nA l a J)) (.loop c53_11 (.blk 0 (.seq c53_50 .nil))) = some R := by
      intro e9 e11 e12 T X h9 h11 h12
      rcases kof_or 4 out2 with ⟨hk, rfl⟩ | hk
      · have en : encSubs [] = [] := rfl
        rw [hk, en] at IH ⊢
        simp [-Int.natCast_add, -St.obj, -St.set, h9, h11, h12, hwc, -Int.not_le, -Int.not_lt, -Nat.not_le, -Nat.not_lt, ty3, ty4, ty28, ty29, ty49, ty51, ty67, ty70, hm, hl, hr, E53, e53_49, n53_26, n53_10]
        exact IH _ _ _ _ _ _ _ (tame_val _) h9 (tame_val _) h11 h12
      · rw [hk] at IH ⊢
        simp [-Int.natCast_add, -St.obj, -St.set, h9, h11, h12, hwc, -Int.not_le, -Int.not_lt, -Nat.not_le, -Nat.not_lt, ty3, ty4, ty28, ty29, ty49, ty51, ty67, ty70, hm, hl, hr, E53, e53_49, n53_26, n53_10]
        exact IH _ _ _ _ _ _ _ (tame_val _) h9 (tame_val _) h11 h12
    have LL := fun e11 e12 T X h11 h12 => LI R e11 e12 T X h11 h12 H49
    refine evK_loop c53_11 _ _ _ _ rfl ?_
    rcases kof_or 4 out with ⟨hk, rfl⟩ | hk
    · have en : encSubs [] = [] := rfl
      rw [hk, en] at LL ⊢
      simp [-Int.natCast_add, -St.obj, -St.set, h8, h9, h10, h11, h12, k1, k2, hw1, hc6, -Int.not_le, -Int.not_lt, -Nat.not_le, -Nat.not_lt, ty3, ty4, ty28, ty29, ty49, ty51, ty67, ty70, hm, hl, hr, E53, e53_49, n53_26, n53_10]
      exact LL _ _ _ _ h11 h12
    · rw [hk] at LL ⊢
      simp [-Int.natCast_add, -St.obj, -St.set, h8, h9, h10, h11, h12, k1, k2, hw1, hc6, -Int.not_le, -Int.not_lt, -Nat.not_le, -Nat.not_lt, ty3, ty4, ty28, ty29, ty49, ty51, ty67, ty70, hm, hl, hr, E53, e53_49, n53_26, n53_10]
      exact LL _ _ _ _ h11 h12
set_option maxHeartbeats 8000000 in
theorem c53 (l : List Int) (a j id : Nat) (st : St) (h : FeedOk st id) (ha : a < 549755813888) (hj : j < 549755600000) (ps : List Int) (hps : ps.length < 1000) :
    EvF gS 53 [.ptr id 0, .slice (intVs ps)] (setF st id l (nA l a j)) = some (.ret (.slice (encSubs (subsV l a j ps.length).1)) none, setF (dd st (subsV l a j ps.length).2.2) id l (nA l a (subsV l a j ps.length).2.1)) := by
  refine EvF_start fi53_eq (fun x h => by cases h) m53 ?_
  rw [st53]
  have hm : fi53.marks = [1000000] := rfl
  have hl : fi53.locals = [11] := rfl
  have hr : fi53.results = [.tmp 4] := rfl
  have k1 := fun fr => k35 l a j id fr st h ha (by omega)
  have a1 := filterV_asks l a j
  have k2 := fun fr => k35 l a (filterV l a j).2.1 id fr (dd st (filterV l a j).2.2) (h.dd _) ha (by omega)
  rw [dd_dd] at k2
  have a2 := filterV_asks l a (filterV l a j).2.1
  have q1 := filterV_ffv l a j
  have q2 := filterV_ffv l a (filterV l a j).2.1
  unfold subsV subsF
  generalize filterV l a (filterV l a j).2.1 = B at *
  generalize filterV l a j = A at *
  obtain ⟨f1, J1, D1⟩ := A
  obtain ⟨f2, J2, D2⟩ := B
  simp only at k1 k2 a1 a2 q1 q2 ⊢
  have hfs : ∀ f ∈ [f1, f2, []], PSm f := fun f hf => by
    simp at hf
    rcases hf with rfl | rfl | rfl
    · exact psm_ffv q1
    · exact psm_ffv q2
    · exact ⟨by simp, by simp⟩
  have LL := fun e8 e9 e10 e11 e12 T X h8 h9 h10 h11 h12 => L53_10 l a id ha st h ps [f1, f2, []] hfs rfl hps 6 J2 (D1 + D2) 1 [] e8 e9 e10 e11 e12 T X h8 h9 h10 h11 h12 (Nat.le_refl _) rfl (Nat.le_refl _) (by omega)
  rw [show kof 4 ([] : List Sub) = 0 from rfl, show encSubs [] = [] from rfl, show encPredss [f1, f2, []] = [.slice (encPreds f1), .slice (encPreds f2), .slice []] from rfl] at LL
  generalize hR : (Out.ret (V.slice (encSubs (subsO l a ps.length [f1, f2, []] 6 1 J2 (D1 + D2) []).1)) none, setF (dd st (subsO l a ps.length [f1, f2, []] 6 1 J2 (D1 + D2) []).2.2) id l (nA l a (subsO l a ps.length [f1, f2, []] 6 1 J2 (D1 + D2) []).2.1)) = R at LL ⊢
  simp [-St.obj, -St.set, k1, k2, -Int.not_le, -Int.not_lt, -Nat.not_le, -Nat.not_lt, ty3, ty4, ty28, ty29, ty49, ty51, ty67, ty70, hm, hl, hr, E53, e53_49, n53_26, n53_10]
  exact LL _ _ _ _ _ _ _ tame_any tame_any tame_any tame_any tame_any
theorem k53 (l : List Int) (a j id : Nat) (fr : Fr) (st : St) (h : FeedOk st id) (ha : a < 549755813888) (hj : j < 549755600000) (ps : List Int) (hps : ps.length < 1000) :
    callStep gS (EvF gS) 53 [.ptr id 0, .slice (intVs ps)] fr (setF st id l (nA l a j)) = some (.ok (.val (.slice (encSubs (subsV l a j ps.length).1))) (fr.map E.noMem) (setF (dd st (subsV l a j ps.length).2.2) id l (nA l a (subsV l a j ps.length).2.1))) := by
  unfold callStep
  simp only [show gS.ext 53 = none from rfl, fi53_eq, show fi53.pure = false from rfl, Bool.false_eq_true, if_false, c53 l a j id st h ha hj ps hps, retE]
end
end Go.Proofs.Ytclpbfkbpcjejaa
