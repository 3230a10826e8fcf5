/- The law of meeting, with all that it rests on. Part 5. -/
import Derived.Test.YtdoobejjedpcgaaK4
namespace Go.Proofs.Ytdoobejjedpcgaa
open Go Go.Ab
set_option linter.unusedVariables false
set_option linter.unusedSimpArgs false
set_option linter.unnecessarySimpa false
set_option maxRecDepth 20000
noncomputable section
variable (fr : Fr) (st : St) (k : Kt)
def fi76 : FI := { body := codeOf Try.f76, ntmps := 22, results := [.cell 4 88, .tmp 5], pers := [0, 1, 4, 5, 7, 8, 9, 10], locals := [4, 7], pure := true, marks := [] }
theorem fi92_eq : gS.fn 76 = some fi76 := by kernel_rfl
theorem st76 (a0 a1 : V) : startFr fi76 [a0, a1] = { ps := [(0, .val a0), (1, .val a1), (4, .any), (5, .any), (7, .any), (8, .any), (9, .any), (10, .any)], ts := [], lc := [] } := rfl
def b76 : Code := mini (codeOf Try.f76)
def c76_20 : Code := .seq (codeN b76 9829) .ret
def c76_19 : Code := .cond (.tmp 17) c76_20 .skip
def c76_17 : Code := .seq (codeN b76 2661) c76_19
def c76_15 : Code := .seq (codeN b76 1125) c76_17
def c76_24 : Code := codeN b76 485
def c76_13 : Code := .seq (.block 1 c76_15) c76_24
def c76_9 : Code := .seq (.cond (.tmp 11) .skip (.exit 0)) c76_13
def c76_7 : Code := .seq (codeN b76 69) c76_9
def c76_6 : Code := .loop c76_7
def c76_5 : Code := .block 0 c76_6
def c76_3 : Code := .seq (codeN b76 9) c76_5
def c76_25 : Code := .seq (codeN b76 11) .ret
def c76_2 : Code := .seq c76_3 c76_25
def c76_0 : Code := .seq (codeN b76 2) c76_2
theorem E76 : (evK gS fi76 c76_20 fr st k = opsR gS fi76 [op1 18 (.fieldAddr 95 (.tmp 7) 1) 0,
 ld 19 88 18 88,
 sto 88 4 19,
 op1 5 (.assign (.const (.bool true))) 4] fr st (.seq .ret k)) ∧
 evK gS fi76 c76_19 fr st k = condK gS fi76 (fr.op (.tmp 17)).bool? c76_20 .skip fr st k ∧
 (evK gS fi76 c76_17 fr st k = opsR gS fi76 [op1 14 (.fieldAddr 95 (.tmp 7) 0) 0,
 ld 15 9 14 9,
 mv 16 1 9,
 bop 17 .eql 9 15 16 9 4] fr st (.seq c76_19 k)) ∧
 (evK gS fi76 c76_15 fr st k = opsR gS fi76 [ixa 12 42 8 10 0,
 ld 13 95 12 95,
 op1 7 (.alloc 95) 0,
 sto 95 7 13] fr st (.seq c76_17 k)) ∧
 (evK gS fi76 c76_24 fr st k = opsR gS fi76 [op1 20 (.binOp .add 3 (.tmp 10) (.const (.int .i64 1)) 3) 3,
 mv 10 20 3] fr st k) ∧
 evK gS fi76 c76_13 fr st k = evK gS fi76 c76_15 fr st (.blk 1 (.seq c76_24 k)) ∧
 evK gS fi76 c76_9 fr st k = condK gS fi76 (fr.op (.tmp 11)).bool? .skip (.exit 0) fr st (.seq c76_13 k) ∧
 evK gS fi76 c76_7 fr st k = opsR gS fi76 [bop 11 .lss 3 10 9 3 0] fr st (.seq c76_9 k) ∧
 evK gS fi76 c76_5 fr st k = evK gS fi76 c76_6 fr st (.blk 0 k) ∧
 (evK gS fi76 c76_3 fr st k = opsR gS fi76 [mv 8 0 42,
 len1 9 8 42 3,
 op1 10 (.move (.const (.int .i64 0))) 3] fr st (.seq c76_5 k)) ∧
 (evK gS fi76 c76_25 fr st k = opsR gS fi76 [op1 21 (.build 88 #[]) 88,
 sto 88 4 21,
 op1 5 (.assign (.const (.bool false))) 4] fr st (.seq .ret k)) ∧
 evK gS fi76 c76_2 fr st k = evK gS fi76 c76_3 fr st (.seq c76_25 k) ∧
 (evK gS fi76 c76_0 fr st k = opsR gS fi76 [op1 4 (.alloc 88) 0,
 op1 5 (.assign (.const (.bool false))) 4] fr st (.seq c76_2 k)) := ⟨evK_rs 5 rfl (by kernel_rfl), rfl, evK_rs 4 rfl (by kernel_rfl), evK_rs 3 rfl (by kernel_rfl), evK_r 6 (by kernel_rfl), rfl, rfl, evK_rs 2 rfl (by kernel_rfl), rfl, evK_rs 1 rfl (by kernel_rfl), evK_rs 7 rfl (by kernel_rfl), rfl, evK_rs 0 rfl (by kernel_rfl)⟩
theorem m76 : mini fi76.body = c76_0 := by kernel_rfl
theorem n76_6 (fr : Fr) (st : St) (k : Kt) : nextK gS fi76 (.loop c76_7 k) .normal fr st = evK gS fi76 c76_6 fr st k := rfl
set_option maxHeartbeats 4000000 in
theorem L76_6 (l : List Attr) (nm : List UInt8) (h_l : l.length < 4611686018427387904) (st : St) : ∀ (n i : Nat) (j : Int)  (e0 e7 : E) (T : List (Nat × E)) (X : List (Nat × List V)) (ht0 : e0.Tame) (ht7 : e7.Tame) (hx4 : lk X 4 = some [.int .i64 0, .int .i64 0, .float .f64 0, .str [], .bool false]) , j = (i : Int) → i ≤ (l).length → (l).length - i = n →
    evK gS fi76 c76_6 { ps := [(0, e0), (1, .val (.str nm)), (4, .lp 4 0), (5, .val (.bool false)), (7, e7), (8, .val (.slice (encAttrs l))), (9, .val (.int .i64 l.length)), (10, .val (.int .i64 j))], ts := T, lc := X } st (.blk 0 (.seq c76_25 .nil)) = some ((.ret (.tuple [(aget (l.drop i) nm).1.enc, .bool (aget (l.drop i) nm).2]) none), st) := by
  intro n
  have hm : fi76.marks = [] := rfl
  have hl : fi76.locals = [4, 7] := rfl
  have hr : fi76.results = [.cell 4 88, .tmp 5] := rfl
  induction n with
  | zero =>
    intro i j  e0 e7 T X ht0 ht7 hx4  hj hi hn
    obtain rfl : i = (l).length := by omega
    subst hj
    refine evK_loop c76_7 _ st _ _ rfl ?_
    simp (config := { contextual := true, maxSteps := 10000000, maxDischargeDepth := 6 }) [-Int.not_le, -Int.not_lt, -Nat.not_le, -Nat.not_lt, ty3, ty4, ty9, ty42, ty88, ty95, eq88, hm, hl, hr, E76, n76_6, ht0, ht7, hx4, aget, vzero, lk_lset_self _ _ _ _ hx4]
    all_goals first | done | grind | omega | (trace_state; fail)
  | succ n ih =>
    intro i j  e0 e7 T X ht0 ht7 hx4  hj hi hn
    subst hj
    obtain ⟨x, hx⟩ : ∃ x, (l)[i]? = some x := ⟨(l)[i]'(by omega), List.getElem?_eq_getElem (by omega)⟩
    have hd := drop_get hx
    have hlt : (i : Int) < ((l).length : Int) := by omega
    have hlt2 : i < (l).length := by omega
    have hxe : (l)[i]'hlt2 = x := by rw [List.getElem?_eq_getElem hlt2] at hx; exact Option.some.inj hx
    have hw : IntKind.wrap .i64 ((i : Int) + 1) = (i : Int) + 1 := wrap64 (by omega) (by omega)
    have hf4 : ∀ v, lk (lset (X.filter fun x => !(x.1 == 7)) 4 v) 4 = some v := fun v => lk_lset_self _ _ _ _ (by rw [lk_filter _ _ _ rfl]; exact hx4)
    have IH := fun e0 e7 T X ht0 ht7 hx4 => ih (i + 1) ((i : Int) + 1) e0 e7 T X ht0 ht7 hx4 rfl (by omega) (by omega)
    refine evK_loop c76_7 _ st _ _ rfl ?_
    simp (config := { contextual := true, maxSteps := 10000000, maxDischargeDepth := 6 }) [-Int.not_le, -Int.not_lt, -Nat.not_le, -Nat.not_lt, ty3, ty4, ty9, ty42, ty88, ty95, eq88, hm, hl, hr, E76, n76_6, ht0, ht7, hx4, hx, hxe, hd, hlt, hlt2, hw, IH, aget, vzero, hf4, lk_lset_self _ _ _ _ hx4]
    all_goals first | done | grind | omega | (trace_state; fail)
set_option maxHeartbeats 4000000 in
theorem c76 (l : List Attr) (nm : List UInt8)  (h_l : l.length < 4611686018427387904) (st : St) : EvF gS 76 [.slice (encAttrs l), .str nm] st = some (.ret (.tuple [(aget l nm).1.enc, .bool (aget l nm).2]) none, st) := by
  refine EvF_start fi92_eq (fun x h => by cases h) m76 ?_
  rw [st76]
  have hm : fi76.marks = [] := rfl
  have hl : fi76.locals = [4, 7] := rfl
  have hr : fi76.results = [.cell 4 88, .tmp 5] := rfl
  simp (config := { contextual := true, maxSteps := 10000000, maxDischargeDepth := 6 }) [-Int.not_le, -Int.not_lt, -Nat.not_le, -Nat.not_lt, ty3, ty4, ty9, ty42, ty88, ty95, eq88, hm, hl, hr, E76, n76_6, (fun e0 e7 T X ht0 ht7 hx4 => L76_6 l nm h_l st _ 0 0  e0 e7 T X ht0 ht7 hx4 rfl (Nat.zero_le _) rfl), h_l]
  all_goals first | done | grind | omega | (trace_state; fail)
theorem k76 (l : List Attr) (nm : List UInt8)  (h_l : l.length < 4611686018427387904) (fr : Fr) (st : St) : callStep gS (EvF gS) 76 [.slice (encAttrs l), .str nm] fr st = some (.ok (retE none (.tuple [(aget l nm).1.enc, .bool (aget l nm).2])) fr st) :=
  call_pure rfl fi92_eq rfl (fun st => c76 l nm h_l st) (by simp)
def fi44 : FI := { body := codeOf Try.f44, ntmps := 31, results := [.tmp 4], pers := [0, 1, 4, 6, 7, 8, 9, 10, 11], locals := [6, 7], pure := true, marks := [] }
theorem fi39_eq : gS.fn 44 = some fi44 := by kernel_rfl
theorem st44 (a0 a1 : V) : startFr fi44 [a0, a1] = { ps := [(0, .val a0), (1, .val a1), (4, .any), (6, .any), (7, .any), (8, .any), (9, .any), (10, .any), (11, .any)], ts := [], lc := [] } := rfl
def b44 : Code := mini (codeOf Try.f44)
def c44_22 : Code := .seq (codeN b44 20069) .ret
def c44_21 : Code := .cond (.tmp 29) c44_22 .skip
def c44_19 : Code := .seq (codeN b44 5733) c44_21
def c44_17 : Code := .seq (codeN b44 2661) c44_19
def c44_15 : Code := .seq (codeN b44 1125) c44_17
def c44_26 : Code := codeN b44 485
def c44_13 : Code := .seq (.block 1 c44_15) c44_26
def c44_9 : Code := .seq (.cond (.tmp 12) .skip (.exit 0)) c44_13
def c44_7 : Code := .seq (codeN b44 69) c44_9
def c44_6 : Code := .loop c44_7
def c44_5 : Code := .block 0 c44_6
def c44_3 : Code := .seq (codeN b44 9) c44_5
def c44_27 : Code := .seq (codeN b44 11) .ret
def c44_2 : Code := .seq c44_3 c44_27
def c44_0 : Code := .seq (codeN b44 2) c44_2
theorem E44 : evK gS fi44 c44_22 fr st k = opsR gS fi44 [op1 4 (.assign (.const (.bool false))) 4] fr st (.seq .ret k) ∧
 evK gS fi44 c44_21 fr st k = condK gS fi44 (fr.op (.tmp 29)).bool? c44_22 .skip fr st k ∧
 (evK gS fi44 c44_19 fr st k = opsR gS fi44 [mv 22 8 4,
 op1 23 (.unOp .not 4 (.tmp 22)) 4,
 mv 24 23 4,
 mk (some 25) (.load 91 (.tmp 6)) 91 (some (2, false)),
 mk (some 26) (.load 88 (.tmp 7)) 88 (some (2, false)),
 mk (some 27) (.call { callee := (.value (.func 77)), args := #[(.tmp 25), (.tmp 26)], argTypes := #[91, 88] }) 4 (some (2, false)),
 mk (some 28) (.unOp .not 4 (.tmp 27)) 4 (some (2, false)),
 op1 29 (.pick (.tmp 24) (.const (.bool true)) (.tmp 28)) 4] fr st (.seq c44_21 k)) ∧
 (evK gS fi44 c44_17 fr st k = opsR gS fi44 [mv 16 1 42,
 op1 17 (.fieldAddr 91 (.tmp 6) 0) 0,
 ld 18 9 17 9,
 cal 19 76 [(.tmp 16), (.tmp 18)] [42, 9] 106,
 mv 15 19 106,
 op1 20 (.extract (.tmp 15) 0) 88,
 op1 21 (.extract (.tmp 15) 1) 4,
 op1 7 (.alloc 88) 0,
 sto 88 7 20,
 asn 8 21 4] fr st (.seq c44_19 k)) ∧
 (evK gS fi44 c44_15 fr st k = opsR gS fi44 [ixa 13 29 9 11 0,
 ld 14 91 13 91,
 op1 6 (.alloc 91) 0,
 sto 91 6 14] fr st (.seq c44_17 k)) ∧
 (evK gS fi44 c44_26 fr st k = opsR gS fi44 [op1 30 (.binOp .add 3 (.tmp 11) (.const (.int .i64 1)) 3) 3,
 mv 11 30 3] fr st k) ∧
 evK gS fi44 c44_13 fr st k = evK gS fi44 c44_15 fr st (.blk 1 (.seq c44_26 k)) ∧
 evK gS fi44 c44_9 fr st k = condK gS fi44 (fr.op (.tmp 12)).bool? .skip (.exit 0) fr st (.seq c44_13 k) ∧
 evK gS fi44 c44_7 fr st k = opsR gS fi44 [bop 12 .lss 3 11 10 3 0] fr st (.seq c44_9 k) ∧
 evK gS fi44 c44_5 fr st k = evK gS fi44 c44_6 fr st (.blk 0 k) ∧
 (evK gS fi44 c44_3 fr st k = opsR gS fi44 [mv 9 0 29,
 len1 10 9 29 3,
 op1 11 (.move (.const (.int .i64 0))) 3] fr st (.seq c44_5 k)) ∧
 evK gS fi44 c44_27 fr st k = opsR gS fi44 [op1 4 (.assign (.const (.bool true))) 4] fr st (.seq .ret k) ∧
 evK gS fi44 c44_2 fr st k = evK gS fi44 c44_3 fr st (.seq c44_27 k) ∧
 evK gS fi44 c44_0 fr st k = opsR gS fi44 [op1 4 (.assign (.const (.bool false))) 4] fr st (.seq c44_2 k) := ⟨evK_rs 6 rfl (by kernel_rfl), rfl, evK_rs 5 rfl (by kernel_rfl), evK_rs 4 rfl (by kernel_rfl), evK_rs 3 rfl (by kernel_rfl), evK_r 7 (by kernel_rfl), rfl, rfl, evK_rs 2 rfl (by kernel_rfl), rfl, evK_rs 1 rfl (by kernel_rfl), evK_rs 8 rfl (by kernel_rfl), rfl, evK_rs 0 rfl (by kernel_rfl)⟩
theorem m44 : mini fi44.body = c44_0 := by kernel_rfl
theorem n44_6 (fr : Fr) (st : St) (k : Kt) : nextK gS fi44 (.loop c44_7 k) .normal fr st = evK gS fi44 c44_6 fr st k := rfl
set_option maxHeartbeats 4000000 in
theorem L44_6 (f : List Pred) (l : List Attr) (h_f : POk f) (h_l : l.length < 4611686018427387904) (st : St) : ∀ (n i : Nat) (j : Int)  (e0 e6 e7 e8 : E) (T : List (Nat × E)) (X : List (Nat × List V)) (ht0 : e0.Tame) (ht6 : e6.Tame) (ht7 : e7.Tame) (ht8 : e8.Tame) , j = (i : Int) → i ≤ (f).length → (f).length - i = n →
    evK gS fi44 c44_6 { ps := [(0, e0), (1, .val (.slice (encAttrs l))), (4, .val (.bool false)), (6, e6), (7, e7), (8, e8), (9, .val (.slice (encPreds f))), (10, .val (.int .i64 f.length)), (11, .val (.int .i64 j))], ts := T, lc := X } st (.blk 0 (.seq c44_27 .nil)) = some ((.ret (.bool (ftakes (f.drop i) l)) none), st) := by
  intro n
  have hm : fi44.marks = [] := rfl
  have hl : fi44.locals = [6, 7] := rfl
  have hr : fi44.results = [.tmp 4] := rfl
  have hfl := h_f.1
  induction n with
  | zero =>
    intro i j  e0 e6 e7 e8 T X ht0 ht6 ht7 ht8  hj hi hn
    obtain rfl : i = (f).length := by omega
    subst hj
    refine evK_loop c44_7 _ st _ _ rfl ?_
    simp (config := { contextual := true, maxSteps := 10000000, maxDischargeDepth := 6 }) [-Int.not_le, -Int.not_lt, -Nat.not_le, -Nat.not_lt, ty3, ty4, ty9, ty29, ty42, ty88, ty91, eq88, hm, hl, hr, k77, k76, E44, n44_6, h_l, ht0, ht6, ht7, ht8]
    all_goals try simp (config := { contextual := true }) [-Int.not_le, -Int.not_lt, -Nat.not_le, -Nat.not_lt, ftakes]
    all_goals first | done | grind | omega | (trace_state; fail)
  | succ n ih =>
    intro i j  e0 e6 e7 e8 T X ht0 ht6 ht7 ht8  hj hi hn
    subst hj
    obtain ⟨x, hx⟩ : ∃ x, (f)[i]? = some x := ⟨(f)[i]'(by omega), List.getElem?_eq_getElem (by omega)⟩
    have hd := drop_get hx
    have hlt : (i : Int) < ((f).length : Int) := by omega
    have hlt2 : i < (f).length := by omega
    have hxe : (f)[i]'hlt2 = x := by rw [List.getElem?_eq_getElem hlt2] at hx; exact Option.some.inj hx
    have hw : IntKind.wrap .i64 ((i : Int) + 1) = (i : Int) + 1 := wrap64 (by omega) (by omega)
    have hpo := h_f.get hx
    have hxo := hpo.1
    have hxs := hpo.2
    have IH := fun e0 e6 e7 e8 T X ht0 ht6 ht7 ht8 => ih (i + 1) ((i : Int) + 1) e0 e6 e7 e8 T X ht0 ht6 ht7 ht8 rfl (by omega) (by omega)
    refine evK_loop c44_7 _ st _ _ rfl ?_
    simp (config := { contextual := true, maxSteps := 10000000, maxDischargeDepth := 6 }) [-Int.not_le, -Int.not_lt, -Nat.not_le, -Nat.not_lt, ty3, ty4, ty9, ty29, ty42, ty88, ty91, eq88, hm, hl, hr, k77, k76, E44, n44_6, h_l, ht0, ht6, ht7, ht8, hx, hxe, hd, hlt, hlt2, hw, IH, hxo, hxs]
    all_goals try simp (config := { contextual := true }) [-Int.not_le, -Int.not_lt, -Nat.not_le, -Nat.not_lt, ftakes]
    all_goals first | done | grind | omega | (trace_state; fail)
set_option maxHeartbeats 4000000 in
theorem c44 (f : List Pred) (l : List Attr) (h_f : POk f) (h_l : l.length < 4611686018427387904) (st : St) : EvF gS 44 [.slice (encPreds f), .slice (encAttrs l)] st = some (.ret (.bool (ftakes f l)) none, st) := by
  refine EvF_start fi39_eq (fun x h => by cases h) m44 ?_
  rw [st44]
  have hm : fi44.marks = [] := rfl
  have hl : fi44.locals = [6, 7] := rfl
  have hr : fi44.results = [.tmp 4] := rfl
  have hfl := h_f.1
  simp (config := { contextual := true, maxSteps := 10000000, maxDischargeDepth := 6 }) [-Int.not_le, -Int.not_lt, -Nat.not_le, -Nat.not_lt, ty3, ty4, ty9, ty29, ty42, ty88, ty91, eq88, hm, hl, hr, k77, k76, E44, n44_6, (fun e0 e6 e7 e8 T X ht0 ht6 ht7 ht8 => L44_6 f l h_f h_l st _ 0 0  e0 e6 e7 e8 T X ht0 ht6 ht7 ht8 rfl (Nat.zero_le _) rfl), hfl]
  all_goals try simp (config := { contextual := true }) [-Int.not_le, -Int.not_lt, -Nat.not_le, -Nat.not_lt, ftakes]
  all_goals first | done | grind | omega | (trace_state; fail)
theorem k44 (f : List Pred) (l : List Attr) (h_f : POk f) (h_l : l.length < 4611686018427387904) (fr : Fr) (st : St) : callStep gS (EvF gS) 44 [.slice (encPreds f), .slice (encAttrs l)] fr st = some (.ok (retE none (.bool (ftakes f l))) fr st) :=
  call_pure rfl fi39_eq rfl (fun st => c44 f l h_f h_l st) (by simp)
def fi49 : FI := { body := codeOf Try.f49, ntmps := 27, results := [.tmp 4], pers := [0, 1, 4, 5, 12, 13], locals := [], pure := true, marks := [] }
theorem fi41_eq : gS.fn 49 = some fi49 := by kernel_rfl
theorem st49 (a0 a1 : V) : startFr fi49 [a0, a1] = { ps := [(0, .val a0), (1, .val a1), (4, .any), (5, .any), (12, .any), (13, .any)], ts := [], lc := [] } := rfl
def b49 : Code := mini (codeOf Try.f49)
def c49_6 : Code := .seq (codeN b49 37) .ret
def c49_5 : Code := .cond (.tmp 10) c49_6 .skip
def c49_3 : Code := .seq (codeN b49 9) c49_5
def r49_26 : Array Oper := regOps (codeN (codeOf Try.f49) 5323)
def c49_26 : Code := .region 6 r49_26 true
def q49_26 : List (Oper × Fl) := [(mv 16 0 29, ⟨true, false, true, false, false, false, true, true, false, false, []⟩),
 (mv 17 5 3, ⟨true, false, true, false, false, false, true, true, false, false, []⟩),
 (ixa 18 29 16 17 0, ⟨true, false, true, false, false, false, true, true, false, false, []⟩),
 (ld 19 91 18 91, ⟨true, false, true, false, false, false, true, true, false, false, []⟩),
 (mv 20 1 29, ⟨true, false, true, false, false, false, true, true, false, false, []⟩),
 (mv 21 5 3, ⟨true, false, true, false, true, false, true, true, false, false, []⟩),
 (ixa 22 29 20 21 0, ⟨true, false, true, false, true, false, true, true, false, false, []⟩),
 (ld 23 91 22 91, ⟨true, false, true, false, true, false, true, true, false, false, []⟩),
 (cal 24 80 [(.tmp 19), (.tmp 23)] [91, 91] 4, ⟨true, true, true, false, true, true, true, true, false, false, []⟩),
 (op1 25 (.unOp .not 4 (.tmp 24)) 4, ⟨true, true, true, false, true, false, true, true, false, false, []⟩)]
def c49_28 : Code := .seq (codeN b49 19659) .ret
def c49_27 : Code := .cond (.tmp 25) c49_28 .skip
def c49_25 : Code := .seq c49_26 c49_27
def c49_23 : Code := .seq (codeN b49 2251) c49_25
def c49_32 : Code := codeN b49 971
def c49_21 : Code := .seq (.block 1 c49_23) c49_32
def c49_17 : Code := .seq (.cond (.tmp 14) .skip (.exit 0)) c49_21
def c49_15 : Code := .seq (codeN b49 139) c49_17
def c49_14 : Code := .loop c49_15
def c49_13 : Code := .block 0 c49_14
def c49_11 : Code := .seq (codeN b49 19) c49_13
def c49_33 : Code := .seq (codeN b49 23) .ret
def c49_10 : Code := .seq c49_11 c49_33
def c49_2 : Code := .seq c49_3 c49_10
def c49_0 : Code := .seq (codeN b49 2) c49_2
theorem E49 : evK gS fi49 c49_6 fr st k = opsR gS fi49 [op1 4 (.assign (.const (.bool false))) 4] fr st (.seq .ret k) ∧
 evK gS fi49 c49_5 fr st k = condK gS fi49 (fr.op (.tmp 10)).bool? c49_6 .skip fr st k ∧
 (evK gS fi49 c49_3 fr st k = opsR gS fi49 [mv 6 0 29,
 len1 7 6 29 3,
 mv 8 1 29,
 len1 9 8 29 3,
 bop 10 .neq 3 7 9 3 4] fr st (.seq c49_5 k)) ∧
 evK gS fi49 c49_26 fr st k = drwR gS fi49 r49_26 q49_26 fr st k ∧
 evK gS fi49 c49_28 fr st k = opsR gS fi49 [op1 4 (.assign (.const (.bool false))) 4] fr st (.seq .ret k) ∧
 evK gS fi49 c49_27 fr st k = condK gS fi49 (fr.op (.tmp 25)).bool? c49_28 .skip fr st k ∧
 evK gS fi49 c49_25 fr st k = evK gS fi49 c49_26 fr st (.seq c49_27 k) ∧
 (evK gS fi49 c49_23 fr st k = opsR gS fi49 [mv 15 13 3,
 asn 5 15 3] fr st (.seq c49_25 k)) ∧
 (evK gS fi49 c49_32 fr st k = opsR gS fi49 [op1 26 (.binOp .add 3 (.tmp 13) (.const (.int .i64 1)) 3) 3,
 mv 13 26 3] fr st k) ∧
 evK gS fi49 c49_21 fr st k = evK gS fi49 c49_23 fr st (.blk 1 (.seq c49_32 k)) ∧
 evK gS fi49 c49_17 fr st k = condK gS fi49 (fr.op (.tmp 14)).bool? .skip (.exit 0) fr st (.seq c49_21 k) ∧
 evK gS fi49 c49_15 fr st k = opsR gS fi49 [bop 14 .lss 3 13 12 3 0] fr st (.seq c49_17 k) ∧
 evK gS fi49 c49_13 fr st k = evK gS fi49 c49_14 fr st (.blk 0 k) ∧
 (evK gS fi49 c49_11 fr st k = opsR gS fi49 [mv 11 0 29,
 len1 12 11 29 3,
 op1 13 (.move (.const (.int .i64 0))) 3] fr st (.seq c49_13 k)) ∧
 evK gS fi49 c49_33 fr st k = opsR gS fi49 [op1 4 (.assign (.const (.bool true))) 4] fr st (.seq .ret k) ∧
 evK gS fi49 c49_10 fr st k = evK gS fi49 c49_11 fr st (.seq c49_33 k) ∧
 evK gS fi49 c49_2 fr st k = evK gS fi49 c49_3 fr st (.seq c49_10 k) ∧
 evK gS fi49 c49_0 fr st k = opsR gS fi49 [op1 4 (.assign (.const (.bool false))) 4] fr st (.seq c49_2 k) := ⟨evK_rs 2 rfl (by kernel_rfl), rfl, evK_rs 1 rfl (by kernel_rfl), evK_dr 6 rfl (by kernel_rfl) (by kernel_rfl), evK_rs 7 rfl (by kernel_rfl), rfl, rfl, evK_rs 5 rfl (by kernel_rfl), evK_r 8 (by kernel_rfl), rfl, rfl, evK_rs 4 rfl (by kernel_rfl), rfl, evK_rs 3 rfl (by kernel_rfl), evK_rs 9 rfl (by kernel_rfl), rfl, rfl, evK_rs 0 rfl (by kernel_rfl)⟩
theorem m49 : mini fi49.body = c49_0 := by kernel_rfl
theorem n49_14 (fr : Fr) (st : St) (k : Kt) : nextK gS fi49 (.loop c49_15 k) .normal fr st = evK gS fi49 c49_14 fr st k := rfl
set_option maxHeartbeats 4000000 in
theorem L49_14 (f : List Pred) (g : List Pred) (h_f : POk f) (h_g : POk g) (st : St) : ∀ (n i : Nat) (j : Int) (m : Int) (e5 : E) (T : List (Nat × E)) (X : List (Nat × List V)) (ht5 : e5.Tame) (hlen : f.length = g.length) (hm12 : m = ((f.length : Nat) : Int)), j = (i : Int) → i ≤ (f).length → (f).length - i = n →
    evK gS fi49 c49_14 { ps := [(0, .val (.slice (encPreds f))), (1, .val (.slice (encPreds g))), (4, .val (.bool false)), (5, e5), (12, .val (.int .i64 m)), (13, .val (.int .i64 j))], ts := T, lc := X } st (.blk 0 (.seq c49_33 .nil)) = some ((.ret (.bool (fsames (f.drop i) (g.drop i))) none), st) := by
  intro n
  have hm : fi49.marks = [] := rfl
  have hl : fi49.locals = [] := rfl
  have hr : fi49.results = [.tmp 4] := rfl
  have hfl := h_f.1
  induction n with
  | zero =>
    intro i j m e5 T X ht5 hlen hm12 hj hi hn
    obtain rfl : i = (f).length := by omega
    subst hj
    subst hm12
    have hz : g.drop f.length = [] := List.drop_eq_nil_of_le (by omega)
    refine evK_loop c49_15 _ st _ _ rfl ?_
    simp (config := { contextual := true, maxSteps := 10000000, maxDischargeDepth := 6 }) [-Int.not_le, -Int.not_lt, -Nat.not_le, -Nat.not_lt, ty3, ty4, ty29, ty91, hm, hl, hr, k80, x80, fi25_eq, p80, E49, q49_26, n49_14, ht5, hz]
    all_goals try simp (config := { contextual := true }) [-Int.not_le, -Int.not_lt, -Nat.not_le, -Nat.not_lt, fsames]
    all_goals first | done | grind | omega | (trace_state; fail)
  | succ n ih =>
    intro i j m e5 T X ht5 hlen hm12 hj hi hn
    subst hj
    obtain ⟨x, hx⟩ : ∃ x, (f)[i]? = some x := ⟨(f)[i]'(by omega), List.getElem?_eq_getElem (by omega)⟩
    have hd := drop_get hx
    have hlt : (i : Int) < ((f).length : Int) := by omega
    have hlt2 : i < (f).length := by omega
    have hxe : (f)[i]'hlt2 = x := by rw [List.getElem?_eq_getElem hlt2] at hx; exact Option.some.inj hx
    have hw : IntKind.wrap .i64 ((i : Int) + 1) = (i : Int) + 1 := wrap64 (by omega) (by omega)
    subst hm12
    have hpo := h_f.get hx
    have hxo := hpo.1
    have hxs := hpo.2
    obtain ⟨y, hy⟩ : ∃ y, (g)[i]? = some y := ⟨(g)[i]'(by omega), List.getElem?_eq_getElem (by omega)⟩
    have hyd := drop_get hy
    have hyl : i < (g).length := by omega
    have hye : (g)[i]'hyl = y := by rw [List.getElem?_eq_getElem hyl] at hy; exact Option.some.inj hy
    have hpy := h_g.get hy
    have hyo := hpy.1
    have hys := hpy.2
    have IH := fun m e5 T X ht5 hlen hm12 => ih (i + 1) ((i : Int) + 1) m e5 T X ht5 hlen hm12 rfl (by omega) (by omega)
    refine evK_loop c49_15 _ st _ _ rfl ?_
    simp (config := { contextual := true, maxSteps := 10000000, maxDischargeDepth := 6 }) [-Int.not_le, -Int.not_lt, -Nat.not_le, -Nat.not_lt, ty3, ty4, ty29, ty91, hm, hl, hr, k80, x80, fi25_eq, p80, E49, q49_26, n49_14, ht5, hx, hxe, hd, hlt, hlt2, hw, IH, hy, hye, hyd, hlen, hxo, hxs, hyo, hys]
    all_goals try simp (config := { contextual := true }) [-Int.not_le, -Int.not_lt, -Nat.not_le, -Nat.not_lt, fsames]
    all_goals first | done | grind | omega | (trace_state; fail)
set_option maxHeartbeats 4000000 in
theorem c49 (f : List Pred) (g : List Pred) (h_f : POk f) (h_g : POk g) (st : St) : EvF gS 49 [.slice (encPreds f), .slice (encPreds g)] st = some (.ret (.bool (fsame f g)) none, st) := by
  refine EvF_start fi41_eq (fun x h => by cases h) m49 ?_
  rw [st49]
  have hm : fi49.marks = [] := rfl
  have hl : fi49.locals = [] := rfl
  have hr : fi49.results = [.tmp 4] := rfl
  have hfl := h_f.1
  simp (config := { contextual := true, maxSteps := 10000000, maxDischargeDepth := 6 }) [-Int.not_le, -Int.not_lt, -Nat.not_le, -Nat.not_lt, ty3, ty4, ty29, ty91, hm, hl, hr, k80, x80, fi25_eq, p80, E49, q49_26, n49_14, (fun m e5 T X ht5 hlen hm12 => L49_14 f g h_f h_g st _ 0 0  m e5 T X ht5 hlen hm12 rfl (Nat.zero_le _) rfl), hfl]
  all_goals try simp (config := { contextual := true }) [-Int.not_le, -Int.not_lt, -Nat.not_le, -Nat.not_lt, fsame]
  all_goals first | done | grind | omega | (trace_state; fail)
theorem k49 (f : List Pred) (g : List Pred) (h_f : POk f) (h_g : POk g) (fr : Fr) (st : St) : callStep gS (EvF gS) 49 [.slice (encPreds f), .slice (encPreds g)] fr st = some (.ok (retE none (.bool (fsame f g))) fr st) :=
  call_pure rfl fi41_eq rfl (fun st => c49 f g h_f h_g st) (by simp)
end
end Go.Proofs.Ytdoobejjedpcgaa
namespace Go.Proofs.Ytdoobejjedpcgaa
open Go Go.Ab
set_option linter.unusedVariables false
set_option linter.unusedSimpArgs false
set_option linter.unnecessarySimpa false
set_option maxRecDepth 20000
noncomputable section
variable (fr : Fr) (st : St) (k : Kt)
def fi130 : FI := { body := codeOf Try.f130, ntmps := 34, results := [.tmp 2], pers := [0, 2, 3, 4, 8, 9, 10], locals := [4], pure := true, marks := [] }
theorem fi37_eq : gS.fn 130 = some fi130 := by kernel_rfl
theorem st130 (a0 : V) : startFr fi130 [a0] = { ps := [(0, .val a0), (2, .any), (3, .any), (4, .any), (8, .any), (9, .any), (10, .any)], ts := [], lc := [] } := rfl
def b130 : Code := mini (codeOf Try.f130)
def c130_6 : Code := .seq (codeN b130 37) .ret
def c130_5 : Code := .cond (.tmp 7) c130_6 .skip
def c130_3 : Code := .seq (codeN b130 9) c130_5
def r130_26 : Array Oper := regOps (codeN (codeOf Try.f130) 5323)
def c130_26 : Code := .region 6 r130_26 true
def q130_26 : List (Oper × Fl) := [(ld 15 91 4 91, ⟨true, true, true, false, true, false, true, true, false, false, []⟩),
 (cal 16 97 [(.tmp 15)] [91] 4, ⟨true, true, true, false, true, true, true, true, false, false, []⟩),
 (op1 17 (.unOp .not 4 (.tmp 16)) 4, ⟨true, true, true, false, true, false, true, true, false, false, []⟩),
 (mv 18 17 4, ⟨true, true, true, false, true, false, true, true, false, false, []⟩),
 (mk (some 19) (.move (.tmp 3)) 3 (some (3, false)), ⟨true, true, true, false, true, false, true, true, false, false, []⟩),
 (mk (some 20) (.binOp .gtr 3 (.tmp 19) (.const (.int .i64 0)) 3) 4 (some (3, false)), ⟨true, true, true, false, true, false, true, true, false, false, []⟩),
 (mk (some 21) (.move (.tmp 20)) 4 (some (3, false)), ⟨true, true, true, false, true, false, true, true, false, false, []⟩),
 (mk (some 22) (.move (.tmp 0)) 29 (some (6, true)), ⟨true, false, true, false, false, false, true, true, false, false, []⟩),
 (mk (some 23) (.move (.tmp 3)) 3 (some (6, true)), ⟨true, false, true, false, false, false, true, true, false, false, []⟩),
 (mk (some 24) (.binOp .sub 3 (.tmp 23) (.const (.int .i64 1)) 3) 3 (some (6, true)), ⟨true, false, true, false, false, false, true, true, false, false, []⟩),
 (mk (some 25) (.indexAddr 29 (.tmp 22) (.tmp 24)) 0 (some (6, true)), ⟨true, false, true, false, false, false, true, true, false, false, []⟩),
 (mk (some 26) (.fieldAddr 91 (.tmp 25) 0) 0 (some (6, true)), ⟨true, false, true, false, false, false, true, true, false, false, []⟩),
 (mk (some 27) (.load 9 (.tmp 26)) 9 (some (6, true)), ⟨true, false, true, false, false, false, true, true, false, false, []⟩),
 (mk (some 28) (.fieldAddr 91 (.tmp 4) 0) 0 (some (6, true)), ⟨true, false, true, false, true, false, true, true, false, false, []⟩),
 (mk (some 29) (.load 9 (.tmp 28)) 9 (some (6, true)), ⟨true, false, true, false, true, false, true, true, false, false, []⟩),
 (mk (some 30) (.binOp .gtr 9 (.tmp 27) (.tmp 29) 9) 4 (some (6, true)), ⟨true, false, true, false, true, false, true, true, false, false, []⟩),
 (mk (some 31) (.pick (.tmp 21) (.tmp 30) (.const (.bool false))) 4 (some (3, false)), ⟨true, false, true, false, true, false, true, true, false, false, []⟩),
 (op1 32 (.pick (.tmp 18) (.const (.bool true)) (.tmp 31)) 4, ⟨true, false, true, false, true, false, true, true, false, false, []⟩)]
def c130_28 : Code := .seq (codeN b130 19659) .ret
def c130_27 : Code := .cond (.tmp 32) c130_28 .skip
def c130_25 : Code := .seq c130_26 c130_27
def c130_23 : Code := .seq (codeN b130 2251) c130_25
def c130_32 : Code := codeN b130 971
def c130_21 : Code := .seq (.block 1 c130_23) c130_32
def c130_17 : Code := .seq (.cond (.tmp 11) .skip (.exit 0)) c130_21
def c130_15 : Code := .seq (codeN b130 139) c130_17
def c130_14 : Code := .loop c130_15
def c130_13 : Code := .block 0 c130_14
def c130_11 : Code := .seq (codeN b130 19) c130_13
def c130_33 : Code := .seq (codeN b130 23) .ret
def c130_10 : Code := .seq c130_11 c130_33
def c130_2 : Code := .seq c130_3 c130_10
def c130_0 : Code := .seq (codeN b130 2) c130_2
theorem E130 : evK gS fi130 c130_6 fr st k = opsR gS fi130 [op1 2 (.assign (.const (.bool false))) 4] fr st (.seq .ret k) ∧
 evK gS fi130 c130_5 fr st k = condK gS fi130 (fr.op (.tmp 7)).bool? c130_6 .skip fr st k ∧
 (evK gS fi130 c130_3 fr st k = opsR gS fi130 [mv 5 0 29,
 len1 6 5 29 3,
 op1 7 (.binOp .gtr 3 (.tmp 6) (.const (.int .i64 3)) 3) 4] fr st (.seq c130_5 k)) ∧
 evK gS fi130 c130_26 fr st k = drwR gS fi130 r130_26 q130_26 fr st k ∧
 evK gS fi130 c130_28 fr st k = opsR gS fi130 [op1 2 (.assign (.const (.bool false))) 4] fr st (.seq .ret k) ∧
 evK gS fi130 c130_27 fr st k = condK gS fi130 (fr.op (.tmp 32)).bool? c130_28 .skip fr st k ∧
 evK gS fi130 c130_25 fr st k = evK gS fi130 c130_26 fr st (.seq c130_27 k) ∧
 (evK gS fi130 c130_23 fr st k = opsR gS fi130 [mv 12 10 3,
 ixa 13 29 8 10 0,
 ld 14 91 13 91,
 op1 4 (.alloc 91) 0,
 asn 3 12 3,
 sto 91 4 14] fr st (.seq c130_25 k)) ∧
 (evK gS fi130 c130_32 fr st k = opsR gS fi130 [op1 33 (.binOp .add 3 (.tmp 10) (.const (.int .i64 1)) 3) 3,
 mv 10 33 3] fr st k) ∧
 evK gS fi130 c130_21 fr st k = evK gS fi130 c130_23 fr st (.blk 1 (.seq c130_32 k)) ∧
 evK gS fi130 c130_17 fr st k = condK gS fi130 (fr.op (.tmp 11)).bool? .skip (.exit 0) fr st (.seq c130_21 k) ∧
 evK gS fi130 c130_15 fr st k = opsR gS fi130 [bop 11 .lss 3 10 9 3 0] fr st (.seq c130_17 k) ∧
 evK gS fi130 c130_13 fr st k = evK gS fi130 c130_14 fr st (.blk 0 k) ∧
 (evK gS fi130 c130_11 fr st k = opsR gS fi130 [mv 8 0 29,
 len1 9 8 29 3,
 op1 10 (.move (.const (.int .i64 0))) 3] fr st (.seq c130_13 k)) ∧
 evK gS fi130 c130_33 fr st k = opsR gS fi130 [op1 2 (.assign (.const (.bool true))) 4] fr st (.seq .ret k) ∧
 evK gS fi130 c130_10 fr st k = evK gS fi130 c130_11 fr st (.seq c130_33 k) ∧
 evK gS fi130 c130_2 fr st k = evK gS fi130 c130_3 fr st (.seq c130_10 k) ∧
 evK gS fi130 c130_0 fr st k = opsR gS fi130 [op1 2 (.assign (.const (.bool false))) 4] fr st (.seq c130_2 k) := ⟨evK_rs 2 rfl (by kernel_rfl), rfl, evK_rs 1 rfl (by kernel_rfl), evK_dr 6 rfl (by kernel_rfl) (by kernel_rfl), evK_rs 7 rfl (by kernel_rfl), rfl, rfl, evK_rs 5 rfl (by kernel_rfl), evK_r 8 (by kernel_rfl), rfl, rfl, evK_rs 4 rfl (by kernel_rfl), rfl, evK_rs 3 rfl (by kernel_rfl), evK_rs 9 rfl (by kernel_rfl), rfl, rfl, evK_rs 0 rfl (by kernel_rfl)⟩
theorem m130 : mini fi130.body = c130_0 := by kernel_rfl
theorem n130_14 (fr : Fr) (st : St) (k : Kt) : nextK gS fi130 (.loop c130_15 k) .normal fr st = evK gS fi130 c130_14 fr st k := rfl
set_option maxHeartbeats 8000000 in
theorem L130_14 (f : List Pred) (h_f : POk f) (st : St) : ∀ (n i : Nat) (e3 e4 : E) (T : List (Nat × E)) (X : List (Nat × List V)) (ht3 : e3.Tame) (ht4 : e4.Tame), i ≤ f.length → f.length - i = n →
    evK gS fi130 c130_14 { ps := [(0, .val (.slice (encPreds f))), (2, .val (.bool false)), (3, e3), (4, e4), (8, .val (.slice (encPreds f))), (9, .val (.int .i64 f.length)), (10, .val (.int .i64 (i : Nat)))], ts := T, lc := X } st (.blk 0 (.seq c130_33 .nil)) = some (.ret (.bool (rises (prevN f i) (f.drop i))) none, st) := by
  intro n
  have hm : fi130.marks = [] := rfl
  have hl : fi130.locals = [4] := rfl
  have hr : fi130.results = [.tmp 2] := rfl
  have hfl := h_f.1
  induction n with
  | zero =>
    intro i e3 e4 T X ht3 ht4 hi hn
    obtain rfl : i = f.length := by omega
    refine evK_loop c130_15 _ st _ _ rfl ?_
    simp (config := { contextual := true, maxSteps := 10000000, maxDischargeDepth := 6 }) [rises_nil, ht3, ht4, -Int.not_le, -Int.not_lt, -Nat.not_le, -Nat.not_lt, ty3, ty4, ty9, ty29, ty91, hm, hl, hr, k97, x97, fi19_eq, p97, E130, q130_26, n130_14]
    all_goals first | done | grind | omega
  | succ n ih =>
    intro i e3 e4 T X ht3 ht4 hi hn
    obtain ⟨x, hx⟩ : ∃ x, f[i]? = some x := ⟨f[i]'(by omega), List.getElem?_eq_getElem (by omega)⟩
    have hd := drop_get hx
    have hlt : (i : Int) < (f.length : Int) := by omega
    have hlt2 : i < f.length := by omega
    have hxe : f[i]'hlt2 = x := by rw [List.getElem?_eq_getElem hlt2] at hx; exact Option.some.inj hx
    have hw : IntKind.wrap .i64 ((i : Int) + 1) = ((i + 1 : Nat) : Int) := by rw [wrap64 (by omega) (by omega)]; omega
    have hxo := (h_f.get hx).1
    have hxs := (h_f.get hx).2
    have IH := fun e3 e4 T X ht3 ht4 => ih (i + 1) e3 e4 T X ht3 ht4 (by omega) (by omega)
    rw [prevN_succ hx] at IH
    refine evK_loop c130_15 _ st _ _ rfl ?_
    rw [hd]
    by_cases h0 : i = 0
    · subst h0
      rw [prevN_zero, rises_none]
      simp only [Nat.zero_add, show ((1 : Nat) : Int) = 1 from rfl, List.drop_one] at IH
      cases hpr : pright x with
      | true => simp (config := { contextual := true, maxSteps := 10000000, maxDischargeDepth := 6 }) [-Int.natCast_add, w64_1, hx, hxe, hlt, hlt2, hxo, hxs, hpr, IH, ht3, ht4, -Int.not_le, -Int.not_lt, -Nat.not_le, -Nat.not_lt, ty3, ty4, ty9, ty29, ty91, hm, hl, hr, k97, x97, fi19_eq, p97, E130, q130_26, n130_14]
      | false => simp (config := { contextual := true, maxSteps := 10000000, maxDischargeDepth := 6 }) [-Int.natCast_add, hx, hxe, hlt, hlt2, hw, hxo, hxs, hpr, ht3, ht4, -Int.not_le, -Int.not_lt, -Nat.not_le, -Nat.not_lt, ty3, ty4, ty9, ty29, ty91, hm, hl, hr, k97, x97, fi19_eq, p97, E130, q130_26, n130_14]
    · obtain ⟨y, hy⟩ : ∃ y, f[i - 1]? = some y := ⟨f[i - 1]'(by omega), List.getElem?_eq_getElem (by omega)⟩
      have hyl : i - 1 < f.length := by omega
      have hye : f[i - 1]'hyl = y := by rw [List.getElem?_eq_getElem hyl] at hy; exact Option.some.inj hy
      have ha : prevN f i = some y.name := by unfold prevN; rw [if_neg h0, hy]; rfl
      have hip : (0 : Int) < (i : Int) := by omega
      have hip2 : 0 < i := by omega
      have hw1 : IntKind.wrap .i64 ((i : Int) - 1) = ((i - 1 : Nat) : Int) := by rw [wrap64 (by omega) (by omega)]; omega
      rw [ha, rises_some]
      cases hpr : pright x with
      | false => simp (config := { contextual := true, maxSteps := 10000000, maxDischargeDepth := 6 }) [-Int.natCast_add, hx, hxe, hlt, hlt2, hw, hxo, hxs, hpr, ht3, ht4, -Int.not_le, -Int.not_lt, -Nat.not_le, -Nat.not_lt, ty3, ty4, ty9, ty29, ty91, hm, hl, hr, k97, x97, fi19_eq, p97, E130, q130_26, n130_14]
      | true =>
        have hsg : (!(Op.bytesLess y.name x.name || decide (y.name = x.name))) = sgt y.name x.name := rfl
        cases hsq : sgt y.name x.name with
        | true =>
          rw [hsq] at hsg
          simp (config := { contextual := true, maxSteps := 10000000, maxDischargeDepth := 6 }) [-Int.natCast_add, -Bool.not_or, hx, hxe, hlt, hlt2, hw, hw1, hip, hip2, hy, hyl, hye, hxo, hxs, hpr, hsg, ht3, ht4, -Int.not_le, -Int.not_lt, -Nat.not_le, -Nat.not_lt, ty3, ty4, ty9, ty29, ty91, hm, hl, hr, k97, x97, fi19_eq, p97, E130, q130_26, n130_14]
        | false =>
          rw [hsq] at hsg
          simp (config := { contextual := true, maxSteps := 10000000, maxDischargeDepth := 6 }) [-Int.natCast_add, -Bool.not_or, hx, hxe, hlt, hlt2, hw, hw1, hip, hip2, hy, hyl, hye, hxo, hxs, hpr, hsg, IH, ht3, ht4, -Int.not_le, -Int.not_lt, -Nat.not_le, -Nat.not_lt, ty3, ty4, ty9, ty29, ty91, hm, hl, hr, k97, x97, fi19_eq, p97, E130, q130_26, n130_14]
set_option maxHeartbeats 4000000 in
theorem c130 (f : List Pred) (h_f : POk f) (st : St) : EvF gS 130 [.slice (encPreds f)] st = some (.ret (.bool (fright f)) none, st) := by
  refine EvF_start fi37_eq (fun x h => by cases h) m130 ?_
  rw [st130]
  have hm : fi130.marks = [] := rfl
  have hl : fi130.locals = [4] := rfl
  have hr : fi130.results = [.tmp 2] := rfl
  have hfl := h_f.1
  have L0 := fun e3 e4 T X ht3 ht4 => L130_14 f h_f st f.length 0 e3 e4 T X ht3 ht4 (Nat.zero_le _) rfl
  simp only [show ((0 : Nat) : Int) = 0 from rfl, List.drop_zero, prevN_zero] at L0
  simp (config := { contextual := true, maxSteps := 10000000, maxDischargeDepth := 6 }) [-Int.not_le, -Int.not_lt, -Nat.not_le, -Nat.not_lt, ty3, ty4, ty9, ty29, ty91, hm, hl, hr, k97, x97, fi19_eq, p97, E130, q130_26, n130_14, L0, hfl]
  all_goals try simp (config := { contextual := true }) [-Int.not_le, -Int.not_lt, -Nat.not_le, -Nat.not_lt, fright]
  all_goals first | done | grind | (unfold fright; grind)
theorem k130 (f : List Pred) (h_f : POk f) (fr : Fr) (st : St) : callStep gS (EvF gS) 130 [.slice (encPreds f)] fr st = some (.ok (retE none (.bool (fright f))) fr st) :=
  call_pure rfl fi37_eq rfl (fun st => c130 f h_f st) (by simp)
end
end Go.Proofs.Ytdoobejjedpcgaa
namespace Go.Ab
open Go
set_option linter.unusedVariables false
set_option linter.unusedSimpArgs false
set_option linter.unnecessarySimpa false
/-- A state with one new object, nothing else said of it. -/
theorem nw_obj (st : St) (m : Nat) (cs : List V) : St.obj (nw st m cs) (st.objs.length + m) = some cs := gr_obj st m cs
theorem nw_set {st : St} (h : st.wp ≤ st.objs.length) (m : Nat) (cs cs' : List V) : St.set (nw st m cs) (st.objs.length + m) cs' = some (nw st m cs') := by
  unfold St.set
  rw [if_pos (by rw [gr_wp]; omega)]
  unfold nw
  simp only [Option.some.injEq, St.mk.injEq, and_true]
  rw [List.set_append_right _ _ (by omega), Nat.add_sub_cancel_left, List.set_append_right _ _ (by simp), List.length_replicate, Nat.sub_self]
  rfl
theorem nw_dead (st : St) (m : Nat) : nw st m [] = dd st (m + 1) := by
  unfold nw dd
  rw [List.replicate_succ']
theorem nw_kill {st : St} (h : st.wp ≤ st.objs.length) (m : Nat) (cs : List V) : St.set (nw st m cs) (st.objs.length + m) [] = some (dd st (m + 1)) := by
  rw [nw_set h, nw_dead]
theorem newRef_0 (st : St) (fr : Fr) (k len : Nat) (cs : List V) : newRef fr st k len cs = .ok (.val (.sref false k st.objs.length 0 len)) fr (nw st 0 cs) := by
  unfold newRef nw
  simp
variable {α : Type}
theorem row_len (c : α → List V) (k : Nat) (hc : ∀ x, (c x).length = k) : ∀ l : List α, (l.flatMap c).length = l.length * k
  | [] => by simp
  | x :: r => by rw [List.flatMap_cons, List.length_append, hc, row_len c k hc r, List.length_cons, Nat.succ_mul]; omega
theorem row_get (c : α → List V) (k : Nat) (hc : ∀ x, (c x).length = k) {l : List α} {i j : Nat} {x : α} (hx : l[i]? = some x) (hj : j < k) : (l.flatMap c)[i * k + j]? = (c x)[j]? := by
  have hs : l = l.take i ++ x :: l.drop (i + 1) := by
    have h1 := List.take_append_drop i l
    rw [drop_get hx] at h1
    exact h1.symm
  have hl : (l.take i).length = i := by
    have := (List.getElem?_eq_some_iff.1 hx).1
    simp; omega
  rw [hs, List.flatMap_append, List.getElem?_append_right (by rw [row_len c k hc, hl]; omega), row_len c k hc, hl, Nat.add_sub_cancel_left, List.flatMap_cons, List.getElem?_append_left (by rw [hc]; exact hj)]
/-- One place of one of them. -/
theorem row_splice (c : α → List V) (k : Nat) (hc : ∀ x, (c x).length = k) {l : List α} {i j : Nat} {x y : α} {vs : List V} (hx : l[i]? = some x) (hs : splice (c x) j vs = some (c y)) :
    splice (l.flatMap c) (i * k + j) vs = some ((l.set i y).flatMap c) := by
  have hil := (List.getElem?_eq_some_iff.1 hx).1
  have hsl : l = l.take i ++ x :: l.drop (i + 1) := by
    have h1 := List.take_append_drop i l
    rw [drop_get hx] at h1
    exact h1.symm
  have hl : (l.take i).length = i := by simp; omega
  have hset : l.set i y = l.take i ++ y :: l.drop (i + 1) := by
    conv => lhs; rw [hsl]
    rw [List.set_append_right _ _ (by rw [hl]; omega), hl, Nat.sub_self]
    rfl
  have hA : ((l.take i).flatMap c).length = i * k := by rw [row_len c k hc, hl]
  unfold splice at hs ⊢
  split at hs
  · rename_i hle
    have hs' := Option.some.inj hs
    rw [hc] at hle
    rw [hset, List.flatMap_append, List.flatMap_cons, ← hs']
    conv => lhs; rw [hsl]
    rw [List.flatMap_append, List.flatMap_cons]
    generalize (l.take i).flatMap c = A at hA ⊢
    generalize (l.drop (i + 1)).flatMap c = C
    have hB := hc x
    generalize c x = B at hB hs' ⊢
    rw [if_pos (by simp only [List.length_append]; omega)]
    congr 1
    rw [← hA, List.take_append, List.take_of_length_le (by omega), Nat.add_sub_cancel_left, List.take_append_of_le_length (by omega), List.drop_append, List.drop_of_length_le (by omega), show A.length + j + vs.length - A.length = j + vs.length by omega, List.drop_append_of_le_length (by omega)]
    simp [List.append_assoc]
  · cases hs
theorem row_one (c : α → List V) (hc : ∀ x, (c x).all V.one = true) : ∀ l : List α, (l.flatMap c).all V.one = true
  | [] => rfl
  | x :: r => by rw [List.flatMap_cons, List.all_append, hc x, row_one c hc r]; rfl
theorem flats_append : ∀ (a b : List V), flats (a ++ b) = (flats a && flats b)
  | [], _ => by simp [flats]
  | v :: a, b => by simp only [List.cons_append, flats, flats_append a b, Bool.and_assoc]
theorem row_flats (c : α → List V) (hc : ∀ x, flats (c x) = true) : ∀ l : List α, flats (l.flatMap c) = true
  | [] => rfl
  | x :: r => by rw [List.flatMap_cons, flats_append, hc x, row_flats c hc r]; rfl
theorem row_strip (c d : α → List V) (hc : ∀ x, (c x).map V.strip1 = d x) : ∀ l : List α, (l.flatMap c).map V.strip1 = l.flatMap d
  | [] => rfl
  | x :: r => by rw [List.flatMap_cons, List.map_append, hc x, row_strip c d hc r, List.flatMap_cons]
/-- A row of elements is given up. -/
theorem frz_row {st st1 : St} (n id k : Nat) (hk : 0 < k) (c d : α → List V) (hc : ∀ x, (c x).length = k) (hd : ∀ x, (d x).length = k) (hcd : ∀ x, (c x).map V.strip1 = d x) (h1 : ∀ x, (d x).all V.one = true) (hf : ∀ x, flats (d x) = true)
    (l : List α) (hl : l ≠ []) (ho : St.obj st id = some (l.flatMap c)) (hs : St.set st id [] = some st1) : frz (n + 1) st (.sref false k id 0 l.length) = some (.slice (chunk (Nat.blt 1 k) k l.length (l.flatMap d)), st1) := by
  have hne : ¬ l.length = 0 := by simpa using hl
  unfold frz
  simp only [hne, if_false, ho, hs, row_len c k hc, List.drop_zero, Nat.zero_add, Nat.le_refl, and_true, hk, if_true]
  rw [List.take_of_length_le (by rw [row_len c k hc]; omega), row_strip c d hcd, frzL_flat _ _ _ (row_flats d hf l)]
  simp only [row_len d k hd, row_one d h1 l, and_self, if_true]
/-- A test's cells, its values in room of their own. -/
def Pred.cellsO (q : Pred × Bool) : List V := [.str q.1.name, .int .i64 q.1.test, .int .i64 q.1.v.kind, .int .i64 q.1.v.n, .float .f64 q.1.v.x, .str q.1.v.s, .bool q.1.v.b, .int .i64 q.1.w.kind, .int .i64 q.1.w.n, .float .f64 q.1.w.x, .str q.1.w.s, .bool q.1.w.b, if q.2 then .osl 5 (encVals q.1.set) else .slice (encVals q.1.set)]
theorem cellsO_len (q : Pred × Bool) : (Pred.cellsO q).length = 13 := rfl
theorem cells_len (q : Pred × Bool) : (Pred.cells q.1).length = 13 := rfl
theorem cellsO_strip (q : Pred × Bool) : (Pred.cellsO q).map V.strip1 = Pred.cells q.1 := by
  obtain ⟨p, b⟩ := q
  cases b <;> rfl
theorem cells_one (q : Pred × Bool) : (Pred.cells q.1).all V.one = true := rfl
theorem cells_flats (q : Pred × Bool) : flats (Pred.cells q.1) = true := by simp [flats, V.flat]
theorem chunk_preds : ∀ (l : List (Pred × Bool)), chunk true 13 l.length (l.flatMap fun q => Pred.cells q.1) = encPreds (l.map (·.1))
  | [] => rfl
  | x :: r => by
    rw [List.length_cons, chunk, List.flatMap_cons, List.take_left' (cells_len x), List.drop_left' (cells_len x), chunk_preds r]; rfl
/-- A call of a function of plain values, whatever it lays aside. -/
theorem call_pure' {g : G} {f : Nat} {args : List V} {fr : Fr} {st : St} {fi : FI} {v : V} {k : Option Nat} (hx : g.ext f = none) (hf : g.fn f = some fi) (hp : fi.pure = true) (ha : flats args = true)
    (h : ∃ st', EvF g f args ⟨[], 0⟩ = some (.ret v k, st')) (hv : v.flat = true) : callStep g (EvF g) f args fr st = some (.ok (retE k v) fr st) := by
  obtain ⟨st', h⟩ := h
  unfold callStep
  simp only [hx, hf, hp, if_true, ha, h, hv]
end Go.Ab
namespace Go.Proofs.Ytdoobejjedpcgaa
open Go Go.Ab
set_option linter.unusedVariables false
set_option linter.unusedSimpArgs false
set_option linter.unnecessarySimpa false
set_option maxRecDepth 20000
noncomputable section
variable (fr : Fr) (st : St) (k : Kt)
theorem preds_cells (f : List Pred) : (encPreds f).flatMap V.cells = (f.map fun p => (p, false)).flatMap Pred.cellsO := by
  induction f with
  | nil => rfl
  | cons x r ih => simp only [encPreds, List.map_cons, List.flatMap_cons] at ih ⊢; rw [ih]; rfl
theorem map_fst (f : List Pred) : (f.map fun p => (p, false)).map (·.1) = f := by induction f with
  | nil => rfl
  | cons x r ih => simp only [List.map_cons, ih]
theorem sizes_vals (l : List Val) : sizesOk 5 (encVals l) = true := by
  induction l with
  | nil => rfl
  | cons x r ih => simp only [encVals, List.map_cons, sizesOk] at ih ⊢; rw [ih]; rfl
theorem sizes_preds (l : List Pred) : sizesOk 13 (encPreds l) = true := by
  induction l with
  | nil => rfl
  | cons x r ih => simp only [encPreds, List.map_cons, sizesOk] at ih ⊢; rw [ih]; rfl
/-- Of a size that may be copied. -/
def PSm (f : List Pred) : Prop := f.length ≤ 1000000 ∧ ∀ p ∈ f, p.name.length < 4611686018427387904 ∧ p.set.length * 48 ≤ 140737488355328
theorem PSm.ok {f : List Pred} (h : PSm f) : POk f := ⟨by have := h.1; omega, fun p hp => ⟨(h.2 p hp).1, by have := (h.2 p hp).2; omega⟩⟩
def fi50 : FI := { body := codeOf Try.f50, ntmps := 24, results := [.tmp 2], pers := [0, 2, 3, 4, 8, 9], locals := [], pure := true, marks := [6, 1000000] }
theorem fi45_eq : gS.fn 50 = some fi50 := by kernel_rfl
theorem st50 (a0 : V) : startFr fi50 [a0] = { ps := [(0, .val a0), (2, .any), (3, .any), (4, .any), (8, .any), (9, .any)], ts := [], lc := [] } := rfl
def b50 : Code := mini (codeOf Try.f50)
def c50_19 : Code := codeN b50 3275
def c50_17 : Code := .seq (codeN b50 2251) c50_19
def c50_20 : Code := codeN b50 971
def c50_15 : Code := .seq (.block 1 c50_17) c50_20
def c50_11 : Code := .seq (.cond (.tmp 10) .skip (.exit 0)) c50_15
def c50_9 : Code := .seq (codeN b50 139) c50_11
def c50_8 : Code := .loop c50_9
def c50_7 : Code := .block 0 c50_8
def c50_5 : Code := .seq (codeN b50 19) c50_7
def c50_21 : Code := .seq (codeN b50 23) .ret
def c50_4 : Code := .seq c50_5 c50_21
def c50_2 : Code := .seq (codeN b50 5) c50_4
def c50_0 : Code := .seq (codeN b50 2) c50_2
theorem E50 : (evK gS fi50 c50_19 fr st k = opsR gS fi50 [mv 12 3 29,
 mv 13 4 3,
 mv 14 3 29,
 mv 15 4 3,
 ixa 16 29 14 15 0,
 op1 17 (.fieldAddr 91 (.tmp 16) 4) 0,
 ld 18 89 17 89,
 op1 19 (.call { callee := (.builtin .append), args := #[(.const (.slice none 0 0)), (.tmp 18)], argTypes := #[89, 89] }) 89,
 ixa 20 29 12 13 0,
 op1 21 (.fieldAddr 91 (.tmp 20) 4) 0,
 sto 89 21 19] fr st k) ∧
 (evK gS fi50 c50_17 fr st k = opsR gS fi50 [mv 11 9 3,
 asn 4 11 3] fr st (.seq c50_19 k)) ∧
 (evK gS fi50 c50_20 fr st k = opsR gS fi50 [op1 22 (.binOp .add 3 (.tmp 9) (.const (.int .i64 1)) 3) 3,
 mv 9 22 3] fr st k) ∧
 evK gS fi50 c50_15 fr st k = evK gS fi50 c50_17 fr st (.blk 1 (.seq c50_20 k)) ∧
 evK gS fi50 c50_11 fr st k = condK gS fi50 (fr.op (.tmp 10)).bool? .skip (.exit 0) fr st (.seq c50_15 k) ∧
 evK gS fi50 c50_9 fr st k = opsR gS fi50 [bop 10 .lss 3 9 8 3 0] fr st (.seq c50_11 k) ∧
 evK gS fi50 c50_7 fr st k = evK gS fi50 c50_8 fr st (.blk 0 k) ∧
 (evK gS fi50 c50_5 fr st k = opsR gS fi50 [mv 7 3 29,
 len1 8 7 29 3,
 op1 9 (.move (.const (.int .i64 0))) 3] fr st (.seq c50_7 k)) ∧
 (evK gS fi50 c50_21 fr st k = opsR gS fi50 [mv 23 3 29,
 asn 2 23 29] fr st (.seq .ret k)) ∧
 evK gS fi50 c50_4 fr st k = evK gS fi50 c50_5 fr st (.seq c50_21 k) ∧
 (evK gS fi50 c50_2 fr st k = opsR gS fi50 [mv 5 0 29,
 op1 6 (.call { callee := (.builtin .append), args := #[(.const (.slice none 0 0)), (.tmp 5)], argTypes := #[29, 29] }) 29,
 asn 3 6 29] fr st (.seq c50_4 k)) ∧
 evK gS fi50 c50_0 fr st k = opsR gS fi50 [op1 2 (.assign (.const (.slice none 0 0))) 29] fr st (.seq c50_2 k) := ⟨evK_r 5 (by kernel_rfl), evK_rs 4 rfl (by kernel_rfl), evK_r 6 (by kernel_rfl), rfl, rfl, evK_rs 3 rfl (by kernel_rfl), rfl, evK_rs 2 rfl (by kernel_rfl), evK_rs 7 rfl (by kernel_rfl), rfl, evK_rs 1 rfl (by kernel_rfl), evK_rs 0 rfl (by kernel_rfl)⟩
theorem m50 : mini fi50.body = c50_0 := by kernel_rfl
theorem n50_8 (fr : Fr) (st : St) (k : Kt) : nextK gS fi50 (.loop c50_9 k) .normal fr st = evK gS fi50 c50_8 fr st k := rfl
set_option maxHeartbeats 8000000 in
theorem L50_8 (f : List Pred) (h_f : PSm f) (hne : f ≠ []) (st : St) (hst : st.wp ≤ st.objs.length) : ∀ (n i : Nat) (l : List (Pred × Bool)) (e0 e4 : E) (T : List (Nat × E)) (X : List (Nat × List V)) (ht0 : e0.Tame) (ht4 : e4.Tame), l.map (·.1) = f → i ≤ f.length → f.length - i = n →
    evK gS fi50 c50_8 { ps := [(0, e0), (2, .own 0 []), (3, .val (.sref false 13 st.objs.length 0 f.length)), (4, e4), (8, .val (.int .i64 f.length)), (9, .val (.int .i64 i))], ts := T, lc := X } (nw st 0 (l.flatMap Pred.cellsO)) (.blk 0 (.seq c50_21 .nil)) = some (.ret (.slice (encPreds f)) none, dd st 1) := by
  intro n
  have hm : fi50.marks = [6, 1000000] := rfl
  have hl : fi50.locals = [] := rfl
  have hr : fi50.results = [.tmp 2] := rfl
  have hfl := h_f.1
  induction n with
  | zero =>
    intro i l e0 e4 T X ht0 ht4 hl hi hn
    obtain rfl : i = f.length := by omega
    have hll : l.length = f.length := by rw [← hl]; simp
    have hfz := frz_row (st := nw st 0 (l.flatMap Pred.cellsO)) 5 st.objs.length 13 (by omega) Pred.cellsO (fun q => Pred.cells q.1) cellsO_len cells_len cellsO_strip cells_one cells_flats l (by intro e; subst e; exact hne hl.symm) (nw_obj st 0 _) (nw_kill hst 0 _)
    rw [hll, show Nat.blt 1 13 = true from rfl, ← hll, chunk_preds, hl, hll] at hfz
    refine evK_loop c50_9 _ _ _ _ rfl ?_
    simp [ht0, ht4, hfz, -Int.not_le, -Int.not_lt, -Nat.not_le, -Nat.not_lt, ty3, ty29, ty89, ty91, hm, hl, hr, E50, n50_8]
  | succ n ih =>
    intro i l e0 e4 T X ht0 ht4 hl hi hn
    have hll : l.length = f.length := by rw [← hl]; simp
    obtain ⟨q, hq⟩ : ∃ q, l[i]? = some q := ⟨l[i]'(by omega), List.getElem?_eq_getElem (by omega)⟩
    have hlt : (i : Int) < (f.length : Int) := by omega
    have hlt2 : i < f.length := by omega
    have hw : IntKind.wrap .i64 ((i : Int) + 1) = ((i + 1 : Nat) : Int) := by rw [wrap64 (by omega) (by omega)]; omega
    have hqm : q.1 ∈ f := by rw [← hl]; exact List.mem_map.2 ⟨q, List.mem_of_getElem? hq, rfl⟩
    have hqs := (h_f.2 q.1 hqm).2
    have hqs2 : q.1.set.length ≤ 140737488355328 := by omega
    have hob := nw_obj st 0 (l.flatMap Pred.cellsO)
    have hget := row_get Pred.cellsO 13 cellsO_len hq (j := 12) (by omega)
    have hspl := row_splice Pred.cellsO 13 cellsO_len (j := 12) (y := (q.1, true)) (vs := [.osl 5 (encVals q.1.set)]) hq rfl
    have hset := nw_set hst 0 (l.flatMap Pred.cellsO) ((l.set i (q.1, true)).flatMap Pred.cellsO)
    have hl2 : (l.set i (q.1, true)).map (·.1) = f := by
      rw [List.map_set, hl]
      apply List.ext_getElem?
      intro j
      rw [List.getElem?_set]
      split
      · rename_i hj; subst hj
        rw [← hl, List.getElem?_map, hq]
        rfl
      · rfl
    have IH := fun e0 e4 T X ht0 ht4 => ih (i + 1) (l.set i (q.1, true)) e0 e4 T X ht0 ht4 hl2 (by omega) (by omega)
    rw [Nat.add_zero] at hob hset
    have hsz := sizes_vals q.1.set
    obtain ⟨p, b⟩ := q
    refine evK_loop c50_9 _ _ _ _ rfl ?_
    simp only [Pred.cellsO] at hget
    cases b with
    | true =>
      simp only [List.getElem?_cons_succ, List.getElem?_cons_zero, if_true] at hget
      simp [-Int.natCast_add, -St.obj, -St.set, -splice, ht0, ht4, hlt, hlt2, hw, hob, hget, hspl, hset, hqs, hqs2, hsz, IH, -Int.not_le, -Int.not_lt, -Nat.not_le, -Nat.not_lt, ty3, ty29, ty89, ty91, hm, hl, hr, E50, n50_8]
    | false =>
      simp only [List.getElem?_cons_succ, List.getElem?_cons_zero, Bool.false_eq_true, if_false] at hget
      simp [-Int.natCast_add, -St.obj, -St.set, -splice, ht0, ht4, hlt, hlt2, hw, hob, hget, hspl, hset, hqs, hqs2, hsz, IH, -Int.not_le, -Int.not_lt, -Nat.not_le, -Nat.not_lt, ty3, ty29, ty89, ty91, hm, hl, hr, E50, n50_8]
set_option maxHeartbeats 8000000 in
theorem c50 (f : List Pred) (h_f : PSm f) (st : St) (hst : st.wp ≤ st.objs.length) : ∃ st', EvF gS 50 [.slice (encPreds f)] st = some (.ret (.slice (encPreds f)) none, st') := by
  have hm : fi50.marks = [6, 1000000] := rfl
  have hl : fi50.locals = [] := rfl
  have hr : fi50.results = [.tmp 2] := rfl
  by_cases hne : f = []
  · refine ⟨st, ?_⟩
    refine EvF_start fi45_eq (fun x h => by cases h) m50 ?_
    rw [st50]
    subst hne
    have hz : ∀ st, frz 6 st (.sref true 0 0 0 0) = some (.slice [], st) := fun st => frz_nil 5 st
    simp [markStep, markAppend, elemsAt, encPreds, -Int.not_le, -Int.not_lt, -Nat.not_le, -Nat.not_lt, ty3, ty29, ty89, ty91, hm, hl, hr, E50, n50_8]
    refine evK_loop c50_9 _ _ _ _ rfl ?_
    simp [hz, -Int.not_le, -Int.not_lt, -Nat.not_le, -Nat.not_lt, ty3, ty29, ty89, ty91, hm, hl, hr, E50, n50_8]
  · refine ⟨dd st 1, ?_⟩
    refine EvF_start fi45_eq (fun x h => by cases h) m50 ?_
    rw [st50]
    have hfl := h_f.1
    have hfe : (encPreds f).isEmpty = false := by cases f with | nil => exact absurd rfl hne | cons _ _ => rfl
    have hpc := preds_cells f
    have hsp := sizes_preds f
    have h1 : f.length * 144 ≤ 140737488355328 := by omega
    have h2 : f.length ≤ 140737488355328 := by omega
    have hnr := fun fr k len cs => newRef_0 st fr k len cs
    have L0 := fun e0 e4 T X ht0 ht4 => L50_8 f h_f hne st hst f.length 0 (f.map fun p => (p, false)) e0 e4 T X ht0 ht4 (map_fst f) (Nat.zero_le _) rfl
    simp only [show ((0 : Nat) : Int) = 0 from rfl] at L0
    simp [-St.obj, -St.set, hfe, hpc, hsp, h1, h2, hnr, L0, markStep, markAppend, elemsAt, hne, -Int.not_le, -Int.not_lt, -Nat.not_le, -Nat.not_lt, ty3, ty29, ty89, ty91, hm, hl, hr, E50, n50_8]
    all_goals first | done | skip
end
end Go.Proofs.Ytdoobejjedpcgaa
namespace Go.Ab
open Go
set_option linter.unusedVariables false
set_option linter.unusedSimpArgs false
set_option linter.unnecessarySimpa false
section
variable {α : Type}
theorem row_drop (c : α → List V) (k : Nat) (hc : ∀ x, (c x).length = k) : ∀ (l : List α) (i : Nat), (l.flatMap c).drop (i * k) = (l.drop i).flatMap c
  | [], i => by simp
  | x :: r, 0 => by simp
  | x :: r, i + 1 => by
    rw [List.flatMap_cons, List.drop_succ_cons, ← row_drop c k hc r i, List.drop_append, hc, List.drop_of_length_le (by rw [hc, Nat.succ_mul]; omega), List.nil_append, Nat.succ_mul, Nat.add_sub_cancel]
theorem row_take (c : α → List V) (k : Nat) (hc : ∀ x, (c x).length = k) : ∀ (l : List α) (i : Nat), (l.flatMap c).take (i * k) = (l.take i).flatMap c
  | [], i => by simp
  | x :: r, 0 => by simp
  | x :: r, i + 1 => by
    rw [List.flatMap_cons, List.take_succ_cons, List.flatMap_cons, ← row_take c k hc r i, List.take_append, hc, List.take_of_length_le (by rw [hc, Nat.succ_mul]; omega), Nat.succ_mul, Nat.add_sub_cancel]
theorem row_splices (c : α → List V) (k : Nat) (hc : ∀ x, (c x).length = k) (l m : List α) (i : Nat) (h : i + m.length ≤ l.length) : splice (l.flatMap c) (i * k) (m.flatMap c) = some ((l.take i ++ m ++ l.drop (i + m.length)).flatMap c) := by
  unfold splice
  rw [row_len c k hc, row_len c k hc, if_pos (by rw [← Nat.add_mul]; exact Nat.mul_le_mul_right k h), row_take c k hc, ← Nat.add_mul, row_drop c k hc, List.flatMap_append, List.flatMap_append]
end
def N4 : List (List UInt8) := [[97], [98], [99], [108, 111, 110, 103]]
def nameV (l : List Int) (a j : Nat) : List UInt8 := N4.getD ((fd l a j 12).toNat / 3 % 4) []
def A5 : List (List UInt8 × Int) := [([97], 0), ([98], 0), ([99], 0), ([100], 1), ([108, 111, 110, 103], 1)]
def attrsG (l : List Int) (a : Nat) : List (List UInt8 × Int) → Nat → List Attr × Nat
  | [], j => ([], j)
  | (nm, q) :: r, j => if fd l a j 3 > q then (⟨nm, valueV l a (j + 1)⟩ :: (attrsG l a r (j + 3)).1, (attrsG l a r (j + 3)).2) else attrsG l a r (j + 1)
/-- Attributes, and where the feed stands then. -/
def attrsV (l : List Int) (a j : Nat) : List Attr × Nat := attrsG l a A5 j
/-- Behind which one a name has its place. -/
def insN (f : List Pred) (nm : List UInt8) : Nat → Nat
  | 0 => 0
  | k + 1 => if sgt ((f[k]?).getD ⟨[], 0, vzero, vzero, []⟩).name nm then insN f nm k else k + 1
theorem insN_le (f : List Pred) (nm : List UInt8) : ∀ k, insN f nm k ≤ k
  | 0 => Nat.le_refl _
  | k + 1 => by
    unfold insN; split
    · exact Nat.le_succ_of_le (insN_le f nm k)
    · exact Nat.le_refl _
def insP (f : List Pred) (p : Pred) (nm : List UInt8) : List Pred := f.take (insN f nm f.length) ++ p :: f.drop (insN f nm f.length)
theorem insP_length (f : List Pred) (p : Pred) (nm : List UInt8) : (insP f p nm).length = f.length + 1 := by
  have := insN_le f nm f.length
  unfold insP; simp; omega
/-- A filter, where the feed stands then, how many objects were given up. -/
def filterG (l : List Int) (a : Nat) : Nat → Nat → Nat → List Pred → List Pred × Nat × Nat
  | 0, j, d, f => (f, j, d)
  | n + 1, j, d, f => filterG l a n (j + 1 + (predV l a (j + 1) (nameV l a j)).2) (d + (predV l a (j + 1) (nameV l a j)).1.set.length + 1) (insP f (predV l a (j + 1) (nameV l a j)).1 (nameV l a j))
def filterV (l : List Int) (a j : Nat) : List Pred × Nat × Nat := filterG l a (fd l a j 4).toNat (j + 1) 0 []
def pzero : Pred := ⟨[], 0, vzero, vzero, []⟩
theorem pcells_len (p : Pred) : (Pred.cells p).length = 13 := rfl
theorem pcells_one (p : Pred) : (Pred.cells p).all V.one = true := rfl
theorem pcells_flats (p : Pred) : flats (Pred.cells p) = true := by simp [flats, V.flat]
theorem pcells_strip (p : Pred) : (Pred.cells p).map V.strip1 = Pred.cells p := rfl
theorem chunk_preds1 (l : List Pred) : chunk true 13 l.length (l.flatMap Pred.cells) = encPreds l := chunk_enc Pred.cells 13 (by omega) (fun _ => rfl) l
theorem enc_cells (l : List Pred) : (encPreds l).flatMap V.cells = l.flatMap Pred.cells := by
  induction l with
  | nil => rfl
  | cons x r ih => simp only [encPreds, List.map_cons, List.flatMap_cons] at ih ⊢; rw [ih]; rfl
/-- The elements of a part of a row. -/
theorem elems_row {st : St} {id : Nat} {l : List Pred} (ho : St.obj st id = some (l.flatMap Pred.cells)) (f : Bool) {i : Nat} (hi : i ≤ l.length) :
    elemsAt true 13 st (.val (.sref f 13 id (i * 13) (l.length - i))) = some (encPreds (l.drop i)) := by
  unfold elemsAt
  simp only [ho, row_len Pred.cells 13 pcells_len, true_and]
  have h1 : i * 13 + (l.length - i) * 13 ≤ l.length * 13 := by omega
  have h2 : ((l.flatMap Pred.cells).map V.strip1).all V.one = true := by rw [row_strip _ _ pcells_strip]; exact row_one _ pcells_one l
  have h3 : (true || (13 : Nat) == 1) = true := rfl
  by_cases hz : l.length - i = 0
  · rw [if_pos hz, List.drop_of_length_le (by omega)]; rfl
  rw [if_neg hz, if_pos ⟨h1, h3, h2⟩, row_drop Pred.cells 13 pcells_len, List.take_of_length_le (by rw [row_len Pred.cells 13 pcells_len]; simp), row_strip _ _ pcells_strip]
  have := chunk_preds1 (l.drop i)
  rw [List.length_drop] at this
  rw [this]
theorem frz_preds {st st1 : St} (n id : Nat) (l : List Pred) (hl : l ≠ []) (ho : St.obj st id = some (l.flatMap Pred.cells)) (hs : St.set st id [] = some st1) : frz (n + 1) st (.sref false 13 id 0 l.length) = some (.slice (encPreds l), st1) := by
  have := frz_row n id 13 (by omega) Pred.cells Pred.cells pcells_len pcells_len pcells_strip pcells_one pcells_flats l hl ho hs
  rw [show Nat.blt 1 13 = true from rfl, chunk_preds1] at this
  exact this
/-- A row behind which others were given up. -/
theorem obj_mid {st : St} {id : Nat} (h : FeedOk st id) (m k : Nat) (cs : List V) (l : List Int) (a : Nat) : St.obj (setF (dd (nw st m cs) k) id l a) (st.objs.length + m) = some cs := by
  unfold St.obj setF
  show ((dd (nw st m cs) k).objs.set id _)[_]? = _
  rw [List.getElem?_set_ne (by have := h.1; omega)]
  unfold dd
  show ((nw st m cs).objs ++ _)[_]? = _
  rw [List.getElem?_append_left (by rw [gr_len]; omega), gr_obj]
theorem dd_nw_kill (st : St) (m k : Nat) (cs : List V) (h : st.wp ≤ st.objs.length) : St.set (dd (nw st m cs) k) (st.objs.length + m) [] = some (dd st (m + 1 + k)) := by
  unfold St.set
  rw [if_pos (by rw [dd_wp, gr_wp]; omega)]
  unfold dd nw
  simp only [Option.some.injEq, St.mk.injEq, and_true]
  rw [List.append_assoc, List.set_append_right _ _ (by omega), Nat.add_sub_cancel_left, List.append_assoc, List.set_append_right _ _ (by simp), List.length_replicate, Nat.sub_self]
  simp only [List.singleton_append, List.set_cons_zero]
  rw [show m + 1 + k = m + (1 + k) by omega, ← List.replicate_append_replicate, ← List.replicate_append_replicate (n := 1)]
  rfl
theorem set_mid {st : St} {id : Nat} (h : FeedOk st id) (m k : Nat) (cs : List V) (l : List Int) (a : Nat) : St.set (setF (dd (nw st m cs) k) id l a) (st.objs.length + m) [] = some (setF (dd st (m + 1 + k)) id l a) := by
  have h1 := h.1
  have h2 := h.2
  have hk := dd_nw_kill st m k cs (by omega)
  unfold St.set at hk ⊢
  rw [if_pos (by rw [dd_wp, gr_wp]; omega)] at hk
  rw [if_pos (by rw [setF_wp, dd_wp, gr_wp]; omega)]
  have hk2 := Option.some.inj hk
  congr 1
  rw [← hk2]
  unfold setF
  simp only [St.mk.injEq, and_true]
  rw [List.set_comm _ _ (by omega)]
end Go.Ab
namespace Go.Proofs.Ytdoobejjedpcgaa
open Go Go.Ab
set_option linter.unusedVariables false
set_option linter.unusedSimpArgs false
set_option linter.unnecessarySimpa false
set_option maxRecDepth 20000
noncomputable section
variable (fr : Fr) (st : St) (k : Kt)
def fi70 : FI := { body := codeOf Try.f70, ntmps := 9, results := [.tmp 2], pers := [0, 2], locals := [], pure := false, marks := [] }
theorem fi91_eq : gS.fn 70 = some fi70 := by kernel_rfl
theorem st70 (a0 : V) : startFr fi70 [a0] = { ps := [(0, .val a0), (2, .any)], ts := [], lc := [] } := rfl
def b70 : Code := mini (codeOf Try.f70)
def c70_2 : Code := .seq (codeN b70 5) .ret
theorem e70_2 : evK gS fi70 c70_2 fr st k = opsR gS fi70 [op1 3 (.build 122 #[(0, (.const (.string { data := #[97] }))), (1, (.const (.string { data := #[98] }))), (2, (.const (.string { data := #[99] }))), (3, (.const (.string { data := #[108, 111, 110, 103] })))]) 122,
 mv 4 0 23,
 cal 5 11 [(.tmp 4), (.const (.int .i64 12))] [23, 3] 3,
 op1 6 (.binOp .quo 3 (.tmp 5) (.const (.int .i64 3)) 3) 3,
 op1 7 (.binOp .rem 3 (.tmp 6) (.const (.int .i64 4)) 3) 3,
 op1 8 (.index 122 (.tmp 3) (.tmp 7)) 9,
 asn 2 8 9] fr st (.seq .ret k) := evK_rs 1 rfl (by kernel_rfl)
def c70_0 : Code := .seq (codeN b70 2) c70_2
theorem e70_0 : evK gS fi70 c70_0 fr st k = opsR gS fi70 [op1 2 (.assign (.const (.string { data := #[] }))) 9] fr st (.seq c70_2 k) := evK_rs 0 rfl (by kernel_rfl)
theorem m70 : mini fi70.body = c70_0 := by kernel_rfl
set_option maxHeartbeats 8000000 in
theorem c70 (l : List Int) (a j id : Nat) (st : St) (h : FeedOk st id) (ha : a < 549755813888) (hj : j < 549755812000) :
    EvF gS 70 [.ptr id 0] (setF st id l (nA l a j)) = some (.ret (.str (nameV l a j)) none, setF st id l (nA l a (j + 1))) := by
  refine EvF_start fi91_eq (fun x h => by cases h) m70 ?_
  rw [st70]
  have hm : fi70.marks = [] := rfl
  have hl : fi70.locals = [] := rfl
  have hr : fi70.results = [.tmp 2] := rfl
  have hb := fd_bound l a j (n := 12) (by omega)
  unfold nameV
  have hk := fun fr => k11 l a j id 12 fr st h ha (by omega) (by omega)
  generalize fd l a j 12 = z at *
  have hz : z = 0 ∨ z = 1 ∨ z = 2 ∨ z = 3 ∨ z = 4 ∨ z = 5 ∨ z = 6 ∨ z = 7 ∨ z = 8 ∨ z = 9 ∨ z = 10 ∨ z = 11 := by omega
  have v1 : IntKind.wrap .i64 1 = 1 := w64_1
  have v2 : IntKind.wrap .i64 2 = 2 := w64_2
  have v3 : IntKind.wrap .i64 3 = 3 := w64_3
  have v0 : IntKind.wrap .i64 0 = 0 := by kernel_rfl
  rcases hz with rfl | rfl | rfl | rfl | rfl | rfl | rfl | rfl | rfl | rfl | rfl | rfl <;>
    simp [N4, hk, v0, v1, v2, v3, -Int.not_le, -Int.not_lt, -Nat.not_le, -Nat.not_lt, ty3, ty9, ty23, ty122, hm, hl, hr, e70_2, e70_0]
theorem k70 (l : List Int) (a j id : Nat)  (fr : Fr) (st : St) (h : FeedOk st id) (ha : a < 549755813888) (hj : j < 549755812000) :
    callStep gS (EvF gS) 70 [.ptr id 0] fr (setF st id l (nA l a j)) = some (.ok (.val (.str (nameV l a j))) (fr.map E.noMem) (setF st id l (nA l a (j + 1)))) := by
  unfold callStep
  simp only [show gS.ext 70 = none from rfl, fi91_eq, show fi70.pure = false from rfl, Bool.false_eq_true, if_false, c70 l a j id  st h ha (by omega), retE]
  all_goals rfl
def fi17 : FI := { body := codeOf Try.f17, ntmps := 26, results := [.tmp 2], pers := [0, 2, 3, 4, 5], locals := [4], pure := false, marks := [1000000] }
theorem fi36_eq : gS.fn 17 = some fi17 := by kernel_rfl
theorem st17 (a0 : V) : startFr fi17 [a0] = { ps := [(0, .val a0), (2, .any), (3, .any), (4, .any), (5, .any)], ts := [], lc := [] } := rfl
def b17 : Code := mini (codeOf Try.f17)
def c17_14 : Code := .cond (.tmp 8) .skip (.exit 0)
def c17_12 : Code := .seq (codeN b17 535) c17_14
def r17_22 : Array Oper := regOps (codeN (codeOf Try.f17) 5271)
def c17_22 : Code := .region 7 r17_22 true
def q17_22 : List (Oper × Fl) := [(mv 16 3 42, ⟨true, false, false, false, false, false, true, false, false, true, []⟩),
 (mv 17 5 3, ⟨true, false, false, false, false, false, true, false, false, true, []⟩),
 (ixa 18 92 4 17 0, ⟨true, false, false, false, false, false, true, false, false, true, []⟩),
 (ld 19 9 18 9, ⟨true, false, false, false, false, false, true, false, false, true, []⟩),
 (mv 20 0 23, ⟨true, false, true, false, true, false, true, true, false, false, []⟩),
 (cal 21 55 [(.tmp 20)] [23] 88, ⟨false, true, true, false, true, true, true, true, false, false, []⟩),
 (op1 22 (.build 95 #[(0, (.tmp 19)), (1, (.tmp 21))]) 95, ⟨true, false, true, false, true, false, true, true, false, false, []⟩),
 (op1 23 (.buildSlice 42 1 #[(0, (.tmp 22))]) 42, ⟨true, false, true, false, true, false, true, true, false, false, []⟩),
 (op1 24 (.call { callee := (.builtin .append), args := #[(.tmp 16), (.tmp 23)], argTypes := #[42, 42] }) 42, ⟨false, true, true, false, true, true, true, true, false, false, []⟩),
 (asn 3 24 42, ⟨true, true, true, false, true, false, true, true, false, false, []⟩)]
def c17_21 : Code := .cond (.tmp 15) c17_22 .skip
def c17_19 : Code := .seq (codeN b17 2199) c17_21
def c17_24 : Code := codeN b17 919
def c17_17 : Code := .seq (.block 1 c17_19) c17_24
def c17_11 : Code := .seq c17_12 c17_17
def c17_10 : Code := .loop c17_11
def c17_9 : Code := .block 0 c17_10
def c17_7 : Code := .seq (codeN b17 39) c17_9
def c17_25 : Code := .seq (codeN b17 47) .ret
def c17_6 : Code := .seq c17_7 c17_25
def c17_4 : Code := .seq (codeN b17 11) c17_6
def c17_2 : Code := .seq (codeN b17 5) c17_4
def c17_0 : Code := .seq (codeN b17 2) c17_2
theorem E17 : evK gS fi17 c17_14 fr st k = condK gS fi17 (fr.op (.tmp 8)).bool? .skip (.exit 0) fr st k ∧
 (evK gS fi17 c17_12 fr st k = opsR gS fi17 [mv 7 5 3,
 op1 8 (.binOp .lss 3 (.tmp 7) (.const (.int .i64 5)) 3) 4] fr st (.seq c17_14 k)) ∧
 evK gS fi17 c17_22 fr st k = drwR gS fi17 r17_22 q17_22 fr st k ∧
 evK gS fi17 c17_21 fr st k = condK gS fi17 (fr.op (.tmp 15)).bool? c17_22 .skip fr st k ∧
 (evK gS fi17 c17_19 fr st k = opsR gS fi17 [mv 11 0 23,
 cal 12 11 [(.tmp 11), (.const (.int .i64 3))] [23, 3] 3,
 mv 13 5 3,
 op1 14 (.binOp .quo 3 (.tmp 13) (.const (.int .i64 3)) 3) 3,
 bop 15 .gtr 3 12 14 3 4] fr st (.seq c17_21 k)) ∧
 (evK gS fi17 c17_24 fr st k = opsR gS fi17 [mv 9 5 3,
 op1 10 (.binOp .add 3 (.tmp 9) (.const (.int .i64 1)) 3) 3,
 asn 5 10 3] fr st k) ∧
 evK gS fi17 c17_17 fr st k = evK gS fi17 c17_19 fr st (.blk 1 (.seq c17_24 k)) ∧
 evK gS fi17 c17_11 fr st k = evK gS fi17 c17_12 fr st (.seq c17_17 k) ∧
 evK gS fi17 c17_9 fr st k = evK gS fi17 c17_10 fr st (.blk 0 k) ∧
 evK gS fi17 c17_7 fr st k = opsR gS fi17 [op1 5 (.assign (.const (.int .i64 0))) 3] fr st (.seq c17_9 k) ∧
 (evK gS fi17 c17_25 fr st k = opsR gS fi17 [mv 25 3 42,
 asn 2 25 42] fr st (.seq .ret k)) ∧
 evK gS fi17 c17_6 fr st k = evK gS fi17 c17_7 fr st (.seq c17_25 k) ∧
 (evK gS fi17 c17_4 fr st k = opsR gS fi17 [op1 6 (.build 92 #[(0, (.const (.string { data := #[97] }))), (1, (.const (.string { data := #[98] }))), (2, (.const (.string { data := #[99] }))), (3, (.const (.string { data := #[100] }))), (4, (.const (.string { data := #[108, 111, 110, 103] })))]) 92,
 op1 4 (.alloc 92) 0,
 sto 92 4 6] fr st (.seq c17_6 k)) ∧
 evK gS fi17 c17_2 fr st k = opsR gS fi17 [op1 3 (.assign (.const (.slice none 0 0))) 42] fr st (.seq c17_4 k) ∧
 evK gS fi17 c17_0 fr st k = opsR gS fi17 [op1 2 (.assign (.const (.slice none 0 0))) 42] fr st (.seq c17_2 k) := ⟨rfl, evK_rs 4 rfl (by kernel_rfl), evK_dr 7 rfl (by kernel_rfl) (by kernel_rfl), rfl, evK_rs 6 rfl (by kernel_rfl), evK_r 5 (by kernel_rfl), rfl, rfl, rfl, evK_rs 3 rfl (by kernel_rfl), evK_rs 8 rfl (by kernel_rfl), rfl, evK_rs 2 rfl (by kernel_rfl), evK_rs 1 rfl (by kernel_rfl), evK_rs 0 rfl (by kernel_rfl)⟩
theorem m17 : mini fi17.body = c17_0 := by kernel_rfl
theorem n17_10 (fr : Fr) (st : St) (k : Kt) : nextK gS fi17 (.loop c17_11 k) .normal fr st = evK gS fi17 c17_10 fr st k := rfl
theorem attrs_snoc (l : List Attr) (x : Attr) : encAttrs l ++ [.agg [.str x.name, .int .i64 x.v.kind, .int .i64 x.v.n, .float .f64 x.v.x, .str x.v.s, .bool x.v.b]] = encAttrs (l ++ [x]) := by simp [encAttrs, Attr.enc, Attr.cells]
theorem sizes_attrs (l : List Attr) : sizesOk 6 (encAttrs l) = true := by
  induction l with
  | nil => rfl
  | cons x r ih => simp only [encAttrs, List.map_cons, sizesOk] at ih ⊢; rw [ih]; rfl
set_option maxHeartbeats 8000000 in
theorem L17_5 (l : List Int) (a id : Nat) (ha : a < 549755813888) (st : St) (h : FeedOk st id) (j k : Nat) (f : List Attr) (hj : j + 15 < 549755812000 + 3 * 5) (hf : f.length ≤ 5) (hk : k = 0 ∧ f = [] ∨ k = 6) (T : List (Nat × E)) (X : List (Nat × List V)) (hx : lk X 4 = some [.str [97], .str [98], .str [99], .str [100], .str [108, 111, 110, 103]]) :
    evK gS fi17 c17_10 { ps := [(0, .val (.ptr id 0)), (2, .own 0 []), (3, .own k (encAttrs f)), (4, .lp 4 0), (5, .val (.int .i64 5))], ts := T, lc := X } (setF st id l (nA l a j)) (.blk 0 (.seq c17_25 .nil)) = some (.ret (.slice (encAttrs (f ++ (attrsG l a [] j).1))) none, setF st id l (nA l a (attrsG l a [] j).2)) := by
  have hm : fi17.marks = [1000000] := rfl
  have hl : fi17.locals = [4] := rfl
  have hr : fi17.results = [.tmp 2] := rfl
  refine evK_loop c17_11 _ _ _ _ rfl ?_
  have hz : ∀ st, frz 6 st (.slice (encAttrs f)) = some (.slice (encAttrs f), st) := fun st => frz_flat 6 st _ (by simp [V.flat])
  rw [show (attrsG l a [] j) = ([], j) from rfl]
  rcases hk with ⟨rfl, rfl⟩ | rfl
  · have en : encAttrs [] = [] := rfl
    rw [en] at hz
    simp [en, hz, hx, -Int.not_le, -Int.not_lt, -Nat.not_le, -Nat.not_lt, ty3, ty4, ty9, ty23, ty42, ty88, ty92, ty95, eq88, hm, hl, hr, fi16_eq, fi17_eq, E17, q17_22, n17_10]
  · simp [hz, hx, -Int.not_le, -Int.not_lt, -Nat.not_le, -Nat.not_lt, ty3, ty4, ty9, ty23, ty42, ty88, ty92, ty95, eq88, hm, hl, hr, fi16_eq, fi17_eq, E17, q17_22, n17_10]
set_option maxHeartbeats 8000000 in
theorem L17_4 (l : List Int) (a id : Nat) (ha : a < 549755813888) (st : St) (h : FeedOk st id) (j k : Nat) (f : List Attr) (hj : j + 15 < 549755812000 + 3 * 4) (hf : f.length ≤ 4) (hk : k = 0 ∧ f = [] ∨ k = 6) (T : List (Nat × E)) (X : List (Nat × List V)) (hx : lk X 4 = some [.str [97], .str [98], .str [99], .str [100], .str [108, 111, 110, 103]]) :
    evK gS fi17 c17_10 { ps := [(0, .val (.ptr id 0)), (2, .own 0 []), (3, .own k (encAttrs f)), (4, .lp 4 0), (5, .val (.int .i64 4))], ts := T, lc := X } (setF st id l (nA l a j)) (.blk 0 (.seq c17_25 .nil)) = some (.ret (.slice (encAttrs (f ++ (attrsG l a [([108, 111, 110, 103], 1)] j).1))) none, setF st id l (nA l a (attrsG l a [([108, 111, 110, 103], 1)] j).2)) := by
  have hm : fi17.marks = [1000000] := rfl
  have hl : fi17.locals = [4] := rfl
  have hr : fi17.results = [.tmp 2] := rfl
  refine evK_loop c17_11 _ _ _ _ rfl ?_
  have hb := fd_bound l a j (n := 3) (by omega)
  have hk3 := fun fr => k11 l a j id 3 fr st h ha (by omega) (by omega)
  have hv := fun fr => k55 l a (j + 1) id fr st h ha (by omega)
  have v0 : IntKind.wrap .i64 0 = 0 := by kernel_rfl
  have bo : borOk r17_22 0 3 16 = true := by kernel_rfl
  have bh : handOk r17_22 9 24 = true := by kernel_rfl
  have hr : attrsG l a [([108, 111, 110, 103], 1)] j = if fd l a j 3 > 1 then (⟨[108, 111, 110, 103], valueV l a (j + 1)⟩ :: (attrsG l a [] (j + 3)).1, (attrsG l a [] (j + 3)).2) else attrsG l a [] (j + 1) := rfl
  rw [hr]
  generalize fd l a j 3 = z at *
  by_cases hz : z > 1
  · rw [if_pos hz]
    have N := fun T X hx => L17_5 l a id ha st h (j + 3) 6 (f ++ [⟨[108, 111, 110, 103], valueV l a (j + 1)⟩]) (by omega) (by rw [List.length_append]; exact Nat.add_le_add hf (Nat.le_refl 1)) (.inr rfl) T X hx
    have e1 := attrs_snoc f ⟨[108, 111, 110, 103], valueV l a (j + 1)⟩
    have e2 := sizes_attrs f
    have e3 : (f.length + 1) * 64 ≤ 140737488355328 := by omega
    have e4 : f.length + 1 ≤ 140737488355328 := by omega
    have hz' : (1 : Int) < z := hz
    have a3 : j + 1 + 2 = j + 3 := rfl
    rcases hk with ⟨rfl, rfl⟩ | rfl
    · simp only [List.nil_append, List.cons_append] at N e1
      simp [-List.append_assoc, bo, bh, hx, hk3, hv, v0, w64_1, w64_2, w64_3, w64_4, w64_5, hz', a3, e1, e2, N, -Int.not_le, -Int.not_lt, -Nat.not_le, -Nat.not_lt, ty3, ty4, ty9, ty23, ty42, ty88, ty92, ty95, eq88, hm, hl, hr, fi16_eq, fi17_eq, E17, q17_22, n17_10]
    · rw [show (f ++ (⟨[108, 111, 110, 103], valueV l a (j + 1)⟩ :: (attrsG l a [] (j + 3)).1)) = (f ++ [⟨[108, 111, 110, 103], valueV l a (j + 1)⟩]) ++ (attrsG l a [] (j + 3)).1 by simp]
      simp only [] at e1
      simp [-List.append_assoc, bo, bh, hx, hk3, hv, v0, w64_1, w64_2, w64_3, w64_4, w64_5, hz', a3, e1, e2, e3, e4, N, -Int.not_le, -Int.not_lt, -Nat.not_le, -Nat.not_lt, ty3, ty4, ty9, ty23, ty42, ty88, ty92, ty95, eq88, hm, hl, hr, fi16_eq, fi17_eq, E17, q17_22, n17_10]
  · rw [if_neg hz]
    have N := fun T X hx => L17_5 l a id ha st h (j + 1) k f (by omega) (Nat.le_trans hf (by omega)) hk T X hx
    have hz' : ¬ (1 : Int) < z := hz
    simp [hx, hk3, hv, v0, w64_1, w64_2, w64_3, w64_4, w64_5, hz', N, -Int.not_le, -Int.not_lt, -Nat.not_le, -Nat.not_lt, ty3, ty4, ty9, ty23, ty42, ty88, ty92, ty95, eq88, hm, hl, hr, fi16_eq, fi17_eq, E17, q17_22, n17_10]
set_option maxHeartbeats 8000000 in
theorem L17_3 (l : List Int) (a id : Nat) (ha : a < 549755813888) (st : St) (h : FeedOk st id) (j k : Nat) (f : List Attr) (hj : j + 15 < 549755812000 + 3 * 3) (hf : f.length ≤ 3) (hk : k = 0 ∧ f = [] ∨ k = 6) (T : List (Nat × E)) (X : List (Nat × List V)) (hx : lk X 4 = some [.str [97], .str [98], .str [99], .str [100], .str [108, 111, 110, 103]]) :
    evK gS fi17 c17_10 { ps := [(0, .val (.ptr id 0)), (2, .own 0 []), (3, .own k (encAttrs f)), (4, .lp 4 0), (5, .val (.int .i64 3))], ts := T, lc := X } (setF st id l (nA l a j)) (.blk 0 (.seq c17_25 .nil)) = some (.ret (.slice (encAttrs (f ++ (attrsG l a [([100], 1), ([108, 111, 110, 103], 1)] j).1))) none, setF st id l (nA l a (attrsG l a [([100], 1), ([108, 111, 110, 103], 1)] j).2)) := by
  have hm : fi17.marks = [1000000] := rfl
  have hl : fi17.locals = [4] := rfl
  have hr : fi17.results = [.tmp 2] := rfl
  refine evK_loop c17_11 _ _ _ _ rfl ?_
  have hb := fd_bound l a j (n := 3) (by omega)
  have hk3 := fun fr => k11 l a j id 3 fr st h ha (by omega) (by omega)
  have hv := fun fr => k55 l a (j + 1) id fr st h ha (by omega)
  have v0 : IntKind.wrap .i64 0 = 0 := by kernel_rfl
  have bo : borOk r17_22 0 3 16 = true := by kernel_rfl
  have bh : handOk r17_22 9 24 = true := by kernel_rfl
  have hr : attrsG l a [([100], 1), ([108, 111, 110, 103], 1)] j = if fd l a j 3 > 1 then (⟨[100], valueV l a (j + 1)⟩ :: (attrsG l a [([108, 111, 110, 103], 1)] (j + 3)).1, (attrsG l a [([108, 111, 110, 103], 1)] (j + 3)).2) else attrsG l a [([108, 111, 110, 103], 1)] (j + 1) := rfl
  rw [hr]
  generalize fd l a j 3 = z at *
  by_cases hz : z > 1
  · rw [if_pos hz]
    have N := fun T X hx => L17_4 l a id ha st h (j + 3) 6 (f ++ [⟨[100], valueV l a (j + 1)⟩]) (by omega) (by rw [List.length_append]; exact Nat.add_le_add hf (Nat.le_refl 1)) (.inr rfl) T X hx
    have e1 := attrs_snoc f ⟨[100], valueV l a (j + 1)⟩
    have e2 := sizes_attrs f
    have e3 : (f.length + 1) * 64 ≤ 140737488355328 := by omega
    have e4 : f.length + 1 ≤ 140737488355328 := by omega
    have hz' : (1 : Int) < z := hz
    have a3 : j + 1 + 2 = j + 3 := rfl
    rcases hk with ⟨rfl, rfl⟩ | rfl
    · simp only [List.nil_append, List.cons_append] at N e1
      simp [-List.append_assoc, bo, bh, hx, hk3, hv, v0, w64_1, w64_2, w64_3, w64_4, w64_5, hz', a3, e1, e2, N, -Int.not_le, -Int.not_lt, -Nat.not_le, -Nat.not_lt, ty3, ty4, ty9, ty23, ty42, ty88, ty92, ty95, eq88, hm, hl, hr, fi16_eq, fi17_eq, E17, q17_22, n17_10]
    · rw [show (f ++ (⟨[100], valueV l a (j + 1)⟩ :: (attrsG l a [([108, 111, 110, 103], 1)] (j + 3)).1)) = (f ++ [⟨[100], valueV l a (j + 1)⟩]) ++ (attrsG l a [([108, 111, 110, 103], 1)] (j + 3)).1 by simp]
      simp only [] at e1
      simp [-List.append_assoc, bo, bh, hx, hk3, hv, v0, w64_1, w64_2, w64_3, w64_4, w64_5, hz', a3, e1, e2, e3, e4, N, -Int.not_le, -Int.not_lt, -Nat.not_le, -Nat.not_lt, ty3, ty4, ty9, ty23, ty42, ty88, ty92, ty95, eq88, hm, hl, hr, fi16_eq, fi17_eq, E17, q17_22, n17_10]
  · rw [if_neg hz]
    have N := fun T X hx => L17_4 l a id ha st h (j + 1) k f (by omega) (Nat.le_trans hf (by omega)) hk T X hx
    have hz' : ¬ (1 : Int) < z := hz
    simp [hx, hk3, hv, v0, w64_1, w64_2, w64_3, w64_4, w64_5, hz', N, -Int.not_le, -Int.not_lt, -Nat.not_le, -Nat.not_lt, ty3, ty4, ty9, ty23, ty42, ty88, ty92, ty95, eq88, hm, hl, hr, fi16_eq, fi17_eq, E17, q17_22, n17_10]
set_option maxHeartbeats 8000000 in
theorem L17_2 (l : List Int) (a id : Nat) (ha : a < 549755813888) (st : St) (h : FeedOk st id) (j k : Nat) (f : List Attr) (hj : j + 15 < 549755812000 + 3 * 2) (hf : f.length ≤ 2) (hk : k = 0 ∧ f = [] ∨ k = 6) (T : List (Nat × E)) (X : List (Nat × List V)) (hx : lk X 4 = some [.str [97], .str [98], .str [99], .str [100], .str [108, 111, 110, 103]]) :
    evK gS fi17 c17_10 { ps := [(0, .val (.ptr id 0)), (2, .own 0 []), (3, .own k (encAttrs f)), (4, .lp 4 0), (5, .val (.int .i64 2))], ts := T, lc := X } (setF st id l (nA l a j)) (.blk 0 (.seq c17_25 .nil)) = some (.ret (.slice (encAttrs (f ++ (attrsG l a [([99], 0), ([100], 1), ([108, 111, 110, 103], 1)] j).1))) none, setF st id l (nA l a (attrsG l a [([99], 0), ([100], 1), ([108, 111, 110, 103], 1)] j).2)) := by
  have hm : fi17.marks = [1000000] := rfl
  have hl : fi17.locals = [4] := rfl
  have hr : fi17.results = [.tmp 2] := rfl
  refine evK_loop c17_11 _ _ _ _ rfl ?_
  have hb := fd_bound l a j (n := 3) (by omega)
  have hk3 := fun fr => k11 l a j id 3 fr st h ha (by omega) (by omega)
  have hv := fun fr => k55 l a (j + 1) id fr st h ha (by omega)
  have v0 : IntKind.wrap .i64 0 = 0 := by kernel_rfl
  have bo : borOk r17_22 0 3 16 = true := by kernel_rfl
  have bh : handOk r17_22 9 24 = true := by kernel_rfl
  have hr : attrsG l a [([99], 0), ([100], 1), ([108, 111, 110, 103], 1)] j = if fd l a j 3 > 0 then (⟨[99], valueV l a (j + 1)⟩ :: (attrsG l a [([100], 1), ([108, 111, 110, 103], 1)] (j + 3)).1, (attrsG l a [([100], 1), ([108, 111, 110, 103], 1)] (j + 3)).2) else attrsG l a [([100], 1), ([108, 111, 110, 103], 1)] (j + 1) := rfl
  rw [hr]
  generalize fd l a j 3 = z at *
  by_cases hz : z > 0
  · rw [if_pos hz]
    have N := fun T X hx => L17_3 l a id ha st h (j + 3) 6 (f ++ [⟨[99], valueV l a (j + 1)⟩]) (by omega) (by rw [List.length_append]; exact Nat.add_le_add hf (Nat.le_refl 1)) (.inr rfl) T X hx
    have e1 := attrs_snoc f ⟨[99], valueV l a (j + 1)⟩
    have e2 := sizes_attrs f
    have e3 : (f.length + 1) * 64 ≤ 140737488355328 := by omega
    have e4 : f.length + 1 ≤ 140737488355328 := by omega
    have hz' : (0 : Int) < z := hz
    have a3 : j + 1 + 2 = j + 3 := rfl
    rcases hk with ⟨rfl, rfl⟩ | rfl
    · simp only [List.nil_append, List.cons_append] at N e1
      simp [-List.append_assoc, bo, bh, hx, hk3, hv, v0, w64_1, w64_2, w64_3, w64_4, w64_5, hz', a3, e1, e2, N, -Int.not_le, -Int.not_lt, -Nat.not_le, -Nat.not_lt, ty3, ty4, ty9, ty23, ty42, ty88, ty92, ty95, eq88, hm, hl, hr, fi16_eq, fi17_eq, E17, q17_22, n17_10]
    · rw [show (f ++ (⟨[99], valueV l a (j + 1)⟩ :: (attrsG l a [([100], 1), ([108, 111, 110, 103], 1)] (j + 3)).1)) = (f ++ [⟨[99], valueV l a (j + 1)⟩]) ++ (attrsG l a [([100], 1), ([108, 111, 110, 103], 1)] (j + 3)).1 by simp]
      simp only [] at e1
      simp [-List.append_assoc, bo, bh, hx, hk3, hv, v0, w64_1, w64_2, w64_3, w64_4, w64_5, hz', a3, e1, e2, e3, e4, N, -Int.not_le, -Int.not_lt, -Nat.not_le, -Nat.not_lt, ty3, ty4, ty9, ty23, ty42, ty88, ty92, ty95, eq88, hm, hl, hr, fi16_eq, fi17_eq, E17, q17_22, n17_10]
  · rw [if_neg hz]
    have N := fun T X hx => L17_3 l a id ha st h (j + 1) k f (by omega) (Nat.le_trans hf (by omega)) hk T X hx
    have hz' : ¬ (0 : Int) < z := hz
    simp [hx, hk3, hv, v0, w64_1, w64_2, w64_3, w64_4, w64_5, hz', N, -Int.not_le, -Int.not_lt, -Nat.not_le, -Nat.not_lt, ty3, ty4, ty9, ty23, ty42, ty88, ty92, ty95, eq88, hm, hl, hr, fi16_eq, fi17_eq, E17, q17_22, n17_10]
set_option maxHeartbeats 8000000 in
theorem L17_1 (l : List Int) (a id : Nat) (ha : a < 549755813888) (st : St) (h : FeedOk st id) (j k : Nat) (f : List Attr) (hj : j + 15 < 549755812000 + 3 * 1) (hf : f.length ≤ 1) (hk : k = 0 ∧ f = [] ∨ k = 6) (T : List (Nat × E)) (X : List (Nat × List V)) (hx : lk X 4 = some [.str [97], .str [98], .str [99], .str [100], .str [108, 111, 110, 103]]) :
    evK gS fi17 c17_10 { ps := [(0, .val (.ptr id 0)), (2, .own 0 []), (3, .own k (encAttrs f)), (4, .lp 4 0), (5, .val (.int .i64 1))], ts := T, lc := X } (setF st id l (nA l a j)) (.blk 0 (.seq c17_25 .nil)) = some (.ret (.slice (encAttrs (f ++ (attrsG l a [([98], 0), ([99], 0), ([100], 1), ([108, 111, 110, 103], 1)] j).1))) none, setF st id l (nA l a (attrsG l a [([98], 0), ([99], 0), ([100], 1), ([108, 111, 110, 103], 1)] j).2)) := by
  have hm : fi17.marks = [1000000] := rfl
  have hl : fi17.locals = [4] := rfl
  have hr : fi17.results = [.tmp 2] := rfl
  refine evK_loop c17_11 _ _ _ _ rfl ?_
  have hb := fd_bound l a j (n := 3) (by omega)
  have hk3 := fun fr => k11 l a j id 3 fr st h ha (by omega) (by omega)
  have hv := fun fr => k55 l a (j + 1) id fr st h ha (by omega)
  have v0 : IntKind.wrap .i64 0 = 0 := by kernel_rfl
  have bo : borOk r17_22 0 3 16 = true := by kernel_rfl
  have bh : handOk r17_22 9 24 = true := by kernel_rfl
  have hr : attrsG l a [([98], 0), ([99], 0), ([100], 1), ([108, 111, 110, 103], 1)] j = if fd l a j 3 > 0 then (⟨[98], valueV l a (j + 1)⟩ :: (attrsG l a [([99], 0), ([100], 1), ([108, 111, 110, 103], 1)] (j + 3)).1, (attrsG l a [([99], 0), ([100], 1), ([108, 111, 110, 103], 1)] (j + 3)).2) else attrsG l a [([99], 0), ([100], 1), ([108, 111, 110, 103], 1)] (j + 1) := rfl
  rw [hr]
  generalize fd l a j 3 = z at *
  by_cases hz : z > 0
  · rw [if_pos hz]
    have N := fun T X hx => L17_2 l a id ha st h (j + 3) 6 (f ++ [⟨[98], valueV l a (j + 1)⟩]) (by omega) (by rw [List.length_append]; exact Nat.add_le_add hf (Nat.le_refl 1)) (.inr rfl) T X hx
    have e1 := attrs_snoc f ⟨[98], valueV l a (j + 1)⟩
    have e2 := sizes_attrs f
    have e3 : (f.length + 1) * 64 ≤ 140737488355328 := by omega
    have e4 : f.length + 1 ≤ 140737488355328 := by omega
    have hz' : (0 : Int) < z := hz
    have a3 : j + 1 + 2 = j + 3 := rfl
    rcases hk with ⟨rfl, rfl⟩ | rfl
    · simp only [List.nil_append, List.cons_append] at N e1
      simp [-List.append_assoc, bo, bh, hx, hk3, hv, v0, w64_1, w64_2, w64_3, w64_4, w64_5, hz', a3, e1, e2, N, -Int.not_le, -Int.not_lt, -Nat.not_le, -Nat.not_lt, ty3, ty4, ty9, ty23, ty42, ty88, ty92, ty95, eq88, hm, hl, hr, fi16_eq, fi17_eq, E17, q17_22, n17_10]
    · rw [show (f ++ (⟨[98], valueV l a (j + 1)⟩ :: (attrsG l a [([99], 0), ([100], 1), ([108, 111, 110, 103], 1)] (j + 3)).1)) = (f ++ [⟨[98], valueV l a (j + 1)⟩]) ++ (attrsG l a [([99], 0), ([100], 1), ([108, 111, 110, 103], 1)] (j + 3)).1 by simp]
      simp only [] at e1
      simp [-List.append_assoc, bo, bh, hx, hk3, hv, v0, w64_1, w64_2, w64_3, w64_4, w64_5, hz', a3, e1, e2, e3, e4, N, -Int.not_le, -Int.not_lt, -Nat.not_le, -Nat.not_lt, ty3, ty4, ty9, ty23, ty42, ty88, ty92, ty95, eq88, hm, hl, hr, fi16_eq, fi17_eq, E17, q17_22, n17_10]
  · rw [if_neg hz]
    have N := fun T X hx => L17_2 l a id ha st h (j + 1) k f (by omega) (Nat.le_trans hf (by omega)) hk T X hx
    have hz' : ¬ (0 : Int) < z := hz
    simp [hx, hk3, hv, v0, w64_1, w64_2, w64_3, w64_4, w64_5, hz', N, -Int.not_le, -Int.not_lt, -Nat.not_le, -Nat.not_lt, ty3, ty4, ty9, ty23, ty42, ty88, ty92, ty95, eq88, hm, hl, hr, fi16_eq, fi17_eq, E17, q17_22, n17_10]
set_option maxHeartbeats 8000000 in
theorem L17_0 (l : List Int) (a id : Nat) (ha : a < 549755813888) (st : St) (h : FeedOk st id) (j k : Nat) (f : List Attr) (hj : j + 15 < 549755812000 + 3 * 0) (hf : f.length ≤ 0) (hk : k = 0 ∧ f = [] ∨ k = 6) (T : List (Nat × E)) (X : List (Nat × List V)) (hx : lk X 4 = some [.str [97], .str [98], .str [99], .str [100], .str [108, 111, 110, 103]]) :
    evK gS fi17 c17_10 { ps := [(0, .val (.ptr id 0)), (2, .own 0 []), (3, .own k (encAttrs f)), (4, .lp 4 0), (5, .val (.int .i64 0))], ts := T, lc := X } (setF st id l (nA l a j)) (.blk 0 (.seq c17_25 .nil)) = some (.ret (.slice (encAttrs (f ++ (attrsG l a [([97], 0), ([98], 0), ([99], 0), ([100], 1), ([108, 111, 110, 103], 1)] j).1))) none, setF st id l (nA l a (attrsG l a [([97], 0), ([98], 0), ([99], 0), ([100], 1), ([108, 111, 110, 103], 1)] j).2)) := by
  have hm : fi17.marks = [1000000] := rfl
  have hl : fi17.locals = [4] := rfl
  have hr : fi17.results = [.tmp 2] := rfl
  refine evK_loop c17_11 _ _ _ _ rfl ?_
  have hb := fd_bound l a j (n := 3) (by omega)
  have hk3 := fun fr => k11 l a j id 3 fr st h ha (by omega) (by omega)
  have hv := fun fr => k55 l a (j + 1) id fr st h ha (by omega)
  have v0 : IntKind.wrap .i64 0 = 0 := by kernel_rfl
  have bo : borOk r17_22 0 3 16 = true := by kernel_rfl
  have bh : handOk r17_22 9 24 = true := by kernel_rfl
  have hr : attrsG l a [([97], 0), ([98], 0), ([99], 0), ([100], 1), ([108, 111, 110, 103], 1)] j = if fd l a j 3 > 0 then (⟨[97], valueV l a (j + 1)⟩ :: (attrsG l a [([98], 0), ([99], 0), ([100], 1), ([108, 111, 110, 103], 1)] (j + 3)).1, (attrsG l a [([98], 0), ([99], 0), ([100], 1), ([108, 111, 110, 103], 1)] (j + 3)).2) else attrsG l a [([98], 0), ([99], 0), ([100], 1), ([108, 111, 110, 103], 1)] (j + 1) := rfl
  rw [hr]
  generalize fd l a j 3 = z at *
  by_cases hz : z > 0
  · rw [if_pos hz]
    have N := fun T X hx => L17_1 l a id ha st h (j + 3) 6 (f ++ [⟨[97], valueV l a (j + 1)⟩]) (by omega) (by rw [List.length_append]; exact Nat.add_le_add hf (Nat.le_refl 1)) (.inr rfl) T X hx
    have e1 := attrs_snoc f ⟨[97], valueV l a (j + 1)⟩
    have e2 := sizes_attrs f
    have e3 : (f.length + 1) * 64 ≤ 140737488355328 := by omega
    have e4 : f.length + 1 ≤ 140737488355328 := by omega
    have hz' : (0 : Int) < z := hz
    have a3 : j + 1 + 2 = j + 3 := rfl
    rcases hk with ⟨rfl, rfl⟩ | rfl
    · simp only [List.nil_append, List.cons_append] at N e1
      simp [-List.append_assoc, bo, bh, hx, hk3, hv, v0, w64_1, w64_2, w64_3, w64_4, w64_5, hz', a3, e1, e2, N, -Int.not_le, -Int.not_lt, -Nat.not_le, -Nat.not_lt, ty3, ty4, ty9, ty23, ty42, ty88, ty92, ty95, eq88, hm, hl, hr, fi16_eq, fi17_eq, E17, q17_22, n17_10]
    · rw [show (f ++ (⟨[97], valueV l a (j + 1)⟩ :: (attrsG l a [([98], 0), ([99], 0), ([100], 1), ([108, 111, 110, 103], 1)] (j + 3)).1)) = (f ++ [⟨[97], valueV l a (j + 1)⟩]) ++ (attrsG l a [([98], 0), ([99], 0), ([100], 1), ([108, 111, 110, 103], 1)] (j + 3)).1 by simp]
      simp only [] at e1
      simp [-List.append_assoc, bo, bh, hx, hk3, hv, v0, w64_1, w64_2, w64_3, w64_4, w64_5, hz', a3, e1, e2, e3, e4, N, -Int.not_le, -Int.not_lt, -Nat.not_le, -Nat.not_lt, ty3, ty4, ty9, ty23, ty42, ty88, ty92, ty95, eq88, hm, hl, hr, fi16_eq, fi17_eq, E17, q17_22, n17_10]
  · rw [if_neg hz]
    have N := fun T X hx => L17_1 l a id ha st h (j + 1) k f (by omega) (Nat.le_trans hf (by omega)) hk T X hx
    have hz' : ¬ (0 : Int) < z := hz
    simp [hx, hk3, hv, v0, w64_1, w64_2, w64_3, w64_4, w64_5, hz', N, -Int.not_le, -Int.not_lt, -Nat.not_le, -Nat.not_lt, ty3, ty4, ty9, ty23, ty42, ty88, ty92, ty95, eq88, hm, hl, hr, fi16_eq, fi17_eq, E17, q17_22, n17_10]
set_option maxHeartbeats 8000000 in
theorem c17 (l : List Int) (a j id : Nat) (st : St) (h : FeedOk st id) (ha : a < 549755813888) (hj : j < 549755811000) :
    EvF gS 17 [.ptr id 0] (setF st id l (nA l a j)) = some (.ret (.slice (encAttrs (attrsV l a j).1)) none, setF st id l (nA l a (attrsV l a j).2)) := by
  refine EvF_start fi36_eq (fun x h => by cases h) m17 ?_
  rw [st17]
  have hm : fi17.marks = [1000000] := rfl
  have hl : fi17.locals = [4] := rfl
  have hr : fi17.results = [.tmp 2] := rfl
  have L0 := fun T X hx => L17_0 l a id ha st h j 0 [] (by omega) (by simp) (.inl ⟨rfl, rfl⟩) T X hx
  rw [List.nil_append] at L0
  rw [show attrsV l a j = attrsG l a [([97], 0), ([98], 0), ([99], 0), ([100], 1), ([108, 111, 110, 103], 1)] j from rfl]
  rw [show encAttrs [] = [] from rfl] at L0
  simp [L0, -Int.not_le, -Int.not_lt, -Nat.not_le, -Nat.not_lt, ty3, ty4, ty9, ty23, ty42, ty88, ty92, ty95, eq88, hm, hl, hr, fi16_eq, fi17_eq, E17, q17_22, n17_10]
theorem k17 (l : List Int) (a j id : Nat)  (fr : Fr) (st : St) (h : FeedOk st id) (ha : a < 549755813888) (hj : j < 549755811000) :
    callStep gS (EvF gS) 17 [.ptr id 0] fr (setF st id l (nA l a j)) = some (.ok (.val (.slice (encAttrs (attrsV l a j).1))) (fr.map E.noMem) (setF st id l (nA l a ((attrsV l a j).2)))) := by
  unfold callStep
  simp only [show gS.ext 17 = none from rfl, fi36_eq, show fi17.pure = false from rfl, Bool.false_eq_true, if_false, c17 l a j id  st h ha (by omega), retE]
  all_goals rfl
end
end Go.Proofs.Ytdoobejjedpcgaa
namespace Go.Proofs.Ytdoobejjedpcgaa
open Go Go.Ab
set_option linter.unusedVariables false
set_option linter.unusedSimpArgs false
set_option linter.unnecessarySimpa false
set_option maxRecDepth 20000
noncomputable section
variable (fr : Fr) (st : St) (k : Kt)
def fi40 : FI := { body := codeOf Try.f40, ntmps := 57, results := [.tmp 2], pers := [0, 2, 3, 4, 5, 6, 7], locals := [6], pure := false, marks := [43, 1000000] }
theorem fi35_eq : gS.fn 40 = some fi40 := by kernel_rfl
theorem st40 (a0 : V) : startFr fi40 [a0] = { ps := [(0, .val a0), (2, .any), (3, .any), (4, .any), (5, .any), (6, .any), (7, .any)], ts := [], lc := [] } := rfl
def b40 : Code := mini (codeOf Try.f40)
def c40_12 : Code := .cond (.tmp 16) .skip (.exit 0)
def c40_10 : Code := .seq (codeN b40 267) c40_12
def c40_29 : Code := .cond (.tmp 37) .skip (.exit 2)
def c40_27 : Code := .seq (codeN b40 134731) c40_29
def c40_33 : Code := codeN b40 167499
def c40_32 : Code := .block 3 c40_33
def c40_26 : Code := .seq c40_27 c40_32
def c40_25 : Code := .loop c40_26
def r40_37 : Array Oper := regOps (codeN (codeOf Try.f40) 48715)
def c40_37 : Code := .region 11 r40_37 true
def q40_37 : List (Oper × Fl) := [(mv 44 3 29, ⟨true, false, true, false, false, false, true, true, false, false, []⟩),
 (mv 45 7 3, ⟨true, false, true, false, false, false, true, true, false, false, []⟩),
 (op1 46 (.binOp .add 3 (.tmp 45) (.const (.int .i64 1)) 3) 3, ⟨true, false, true, false, false, false, true, true, false, false, []⟩),
 (op1 47 (.slice 29 (.tmp 44) (some (.tmp 46)) none none) 29, ⟨true, false, true, false, false, false, true, true, false, false, []⟩),
 (mv 48 3 29, ⟨true, false, true, false, false, false, true, true, false, false, []⟩),
 (mv 49 7 3, ⟨true, false, true, false, true, false, true, true, false, false, []⟩),
 (op1 50 (.slice 29 (.tmp 48) (some (.tmp 49)) none none) 29, ⟨true, false, true, false, true, false, true, true, false, false, []⟩),
 (op1 51 (.call { callee := (.builtin .copy), args := #[(.tmp 47), (.tmp 50)], argTypes := #[29, 29] }) 3, ⟨false, true, true, false, true, false, true, true, false, false, []⟩)]
def c40_38 : Code := codeN b40 65099
def c40_36 : Code := .seq c40_37 c40_38
def c40_34 : Code := .seq (codeN b40 24139) c40_36
theorem e40_34 : evK gS fi40 c40_34 fr st k = opsR gS fi40 [mv 40 3 29,
 op1 41 (.build 91 #[]) 91,
 op1 42 (.buildSlice 29 1 #[(0, (.tmp 41))]) 29,
 op1 43 (.call { callee := (.builtin .append), args := #[(.tmp 40), (.tmp 42)], argTypes := #[29, 29] }) 29,
 asn 3 43 29] fr st (.seq c40_36 k) := evK_rs 10 rfl (by kernel_rfl)
def c40_23 : Code := .seq (.block 2 c40_25) c40_34
def c40_21 : Code := .seq (codeN b40 5707) c40_23
def c40_19 : Code := .seq (codeN b40 2635) c40_21
def c40_17 : Code := .seq (codeN b40 1099) c40_19
def c40_39 : Code := codeN b40 459
def c40_15 : Code := .seq (.block 1 c40_17) c40_39
def c40_9 : Code := .seq c40_10 c40_15
def c40_8 : Code := .loop c40_9
def c40_7 : Code := .block 0 c40_8
def c40_5 : Code := .seq (codeN b40 19) c40_7
def c40_40 : Code := .seq (codeN b40 23) .ret
def c40_4 : Code := .seq c40_5 c40_40
def c40_2 : Code := .seq (codeN b40 5) c40_4
def c40_0 : Code := .seq (codeN b40 2) c40_2
theorem E40 : evK gS fi40 c40_12 fr st k = condK gS fi40 (fr.op (.tmp 16)).bool? .skip (.exit 0) fr st k ∧
 (evK gS fi40 c40_10 fr st k = opsR gS fi40 [mv 10 4 3,
 op1 11 (.binOp .gtr 3 (.tmp 10) (.const (.int .i64 0)) 3) 4,
 mv 12 11 4,
 mk (some 13) (.move (.tmp 3)) 29 (some (2, true)),
 mk (some 14) (.call { callee := (.builtin .len), args := #[(.tmp 13)], argTypes := #[29] }) 3 (some (2, true)),
 mk (some 15) (.binOp .lss 3 (.tmp 14) (.const (.int .i64 3)) 3) 4 (some (2, true)),
 op1 16 (.pick (.tmp 12) (.tmp 15) (.const (.bool false))) 4] fr st (.seq c40_12 k)) ∧
 evK gS fi40 c40_29 fr st k = condK gS fi40 (fr.op (.tmp 37)).bool? .skip (.exit 2) fr st k ∧
 (evK gS fi40 c40_27 fr st k = opsR gS fi40 [mv 26 7 3,
 op1 27 (.binOp .gtr 3 (.tmp 26) (.const (.int .i64 0)) 3) 4,
 mv 28 27 4,
 mk (some 29) (.move (.tmp 3)) 29 (some (2, true)),
 mk (some 30) (.move (.tmp 7)) 3 (some (2, true)),
 mk (some 31) (.binOp .sub 3 (.tmp 30) (.const (.int .i64 1)) 3) 3 (some (2, true)),
 mk (some 32) (.indexAddr 29 (.tmp 29) (.tmp 31)) 0 (some (2, true)),
 mk (some 33) (.fieldAddr 91 (.tmp 32) 0) 0 (some (2, true)),
 mk (some 34) (.load 9 (.tmp 33)) 9 (some (2, true)),
 mk (some 35) (.move (.tmp 5)) 9 (some (2, true)),
 mk (some 36) (.binOp .gtr 9 (.tmp 34) (.tmp 35) 9) 4 (some (2, true)),
 op1 37 (.pick (.tmp 28) (.tmp 36) (.const (.bool false))) 4] fr st (.seq c40_29 k)) ∧
 (evK gS fi40 c40_33 fr st k = opsR gS fi40 [mv 38 7 3,
 op1 39 (.binOp .sub 3 (.tmp 38) (.const (.int .i64 1)) 3) 3,
 asn 7 39 3] fr st k) ∧
 evK gS fi40 c40_32 fr st k = evK gS fi40 c40_33 fr st (.blk 3 k) ∧
 evK gS fi40 c40_26 fr st k = evK gS fi40 c40_27 fr st (.seq c40_32 k) ∧
 evK gS fi40 c40_37 fr st k = drwR gS fi40 r40_37 q40_37 fr st k ∧
 (evK gS fi40 c40_38 fr st k = opsR gS fi40 [mv 52 3 29,
 mv 53 7 3,
 ld 54 91 6 91,
 ixa 55 29 52 53 0,
 sto 91 55 54] fr st k) ∧
 evK gS fi40 c40_36 fr st k = evK gS fi40 c40_37 fr st (.seq c40_38 k) ∧
 evK gS fi40 c40_23 fr st k = evK gS fi40 c40_25 fr st (.blk 2 (.seq c40_34 k)) ∧
 (evK gS fi40 c40_21 fr st k = opsR gS fi40 [mv 24 3 29,
 len1 25 24 29 3,
 asn 7 25 3] fr st (.seq c40_23 k)) ∧
 (evK gS fi40 c40_19 fr st k = opsR gS fi40 [mv 21 0 23,
 mv 22 5 9,
 cal 23 71 [(.tmp 21), (.tmp 22)] [23, 9] 91,
 op1 6 (.alloc 91) 0,
 sto 91 6 23] fr st (.seq c40_21 k)) ∧
 (evK gS fi40 c40_17 fr st k = opsR gS fi40 [mv 19 0 23,
 cal 20 70 [(.tmp 19)] [23] 9,
 asn 5 20 9] fr st (.seq c40_19 k)) ∧
 (evK gS fi40 c40_39 fr st k = opsR gS fi40 [mv 17 4 3,
 op1 18 (.binOp .sub 3 (.tmp 17) (.const (.int .i64 1)) 3) 3,
 asn 4 18 3] fr st k) ∧
 evK gS fi40 c40_15 fr st k = evK gS fi40 c40_17 fr st (.blk 1 (.seq c40_39 k)) ∧
 evK gS fi40 c40_9 fr st k = evK gS fi40 c40_10 fr st (.seq c40_15 k) ∧
 evK gS fi40 c40_7 fr st k = evK gS fi40 c40_8 fr st (.blk 0 k) ∧
 (evK gS fi40 c40_5 fr st k = opsR gS fi40 [mv 8 0 23,
 cal 9 11 [(.tmp 8), (.const (.int .i64 4))] [23, 3] 3,
 asn 4 9 3] fr st (.seq c40_7 k)) ∧
 (evK gS fi40 c40_40 fr st k = opsR gS fi40 [mv 56 3 29,
 asn 2 56 29] fr st (.seq .ret k)) ∧
 evK gS fi40 c40_4 fr st k = evK gS fi40 c40_5 fr st (.seq c40_40 k) ∧
 evK gS fi40 c40_2 fr st k = opsR gS fi40 [op1 3 (.assign (.const (.slice none 0 0))) 29] fr st (.seq c40_4 k) ∧
 evK gS fi40 c40_0 fr st k = opsR gS fi40 [op1 2 (.assign (.const (.slice none 0 0))) 29] fr st (.seq c40_2 k) := ⟨rfl, evK_rs 3 rfl (by kernel_rfl), rfl, evK_rs 8 rfl (by kernel_rfl), evK_r 9 (by kernel_rfl), rfl, rfl, evK_dr 11 rfl (by kernel_rfl) (by kernel_rfl), evK_r 12 (by kernel_rfl), rfl, rfl, evK_rs 7 rfl (by kernel_rfl), evK_rs 6 rfl (by kernel_rfl), evK_rs 5 rfl (by kernel_rfl), evK_r 4 (by kernel_rfl), rfl, rfl, rfl, evK_rs 2 rfl (by kernel_rfl), evK_rs 13 rfl (by kernel_rfl), rfl, evK_rs 1 rfl (by kernel_rfl), evK_rs 0 rfl (by kernel_rfl)⟩
theorem m40 : mini fi40.body = c40_0 := by kernel_rfl
theorem n40_25 (fr : Fr) (st : St) (k : Kt) : nextK gS fi40 (.loop c40_26 k) .normal fr st = evK gS fi40 c40_25 fr st k := rfl
theorem n40_8 (fr : Fr) (st : St) (k : Kt) : nextK gS fi40 (.loop c40_9 k) .normal fr st = evK gS fi40 c40_8 fr st k := rfl
set_option maxHeartbeats 8000000 in
theorem I40 (nm : List UInt8) (f : List Pred) (idl : Nat) (st : St) (ho : St.obj st idl = some (f.flatMap Pred.cells)) (hfn : f.length < 1000) (R : Out × St) (e0 e4 : E) (h0 : e0.Tame) (h4 : e4.Tame) (X : List (Nat × List V)) (at0 : Nat)
    (H : ∀ T, evK gS fi40 c40_34 { ps := [(0, e0), (2, .own 0 []), (3, .val (.sref false 13 idl 0 f.length)), (4, e4), (5, .val (.str nm)), (6, .lp 6 0), (7, .val (.int .i64 at0))], ts := T, lc := X } st (.blk 1 (.seq c40_39 (.loop c40_9 (.blk 0 (.seq c40_40 .nil))))) = some R) :
    ∀ (k : Nat) (T : List (Nat × E)), k ≤ f.length → at0 = insN f nm k →
    evK gS fi40 c40_25 { ps := [(0, e0), (2, .own 0 []), (3, .val (.sref false 13 idl 0 f.length)), (4, e4), (5, .val (.str nm)), (6, .lp 6 0), (7, .val (.int .i64 k))], ts := T, lc := X } st (.blk 2 (.seq c40_34 (.blk 1 (.seq c40_39 (.loop c40_9 (.blk 0 (.seq c40_40 .nil))))))) = some R := by
  intro k
  have hm : fi40.marks = [43, 1000000] := rfl
  have hl : fi40.locals = [6] := rfl
  have hr : fi40.results = [.tmp 2] := rfl
  induction k with
  | zero =>
    intro T hk hat
    refine evK_loop c40_26 _ _ _ _ rfl ?_
    have h00 : insN f nm 0 = 0 := rfl
    rw [h00] at hat
    subst hat
    simp only [show ((0 : Nat) : Int) = 0 from rfl] at H ⊢
    simp [-St.obj, -St.set, h0, h4, H, -Int.not_le, -Int.not_lt, -Nat.not_le, -Nat.not_lt, ty3, ty4, ty9, ty23, ty29, ty91, hm, hl, hr, fi16_eq, fi29_eq, fi91_eq, E40, q40_37, n40_25, n40_8]
  | succ k ih =>
    intro T hk hat
    refine evK_loop c40_26 _ _ _ _ rfl ?_
    obtain ⟨x, hx⟩ : ∃ x, f[k]? = some x := ⟨f[k]'(by omega), List.getElem?_eq_getElem (by omega)⟩
    have hget := row_get Pred.cells 13 pcells_len hx (j := 0) (by omega)
    have hc0 : (Pred.cells x)[0]? = some (.str x.name) := rfl
    rw [hc0, Nat.add_zero] at hget
    have hins : insN f nm (k + 1) = if sgt x.name nm then insN f nm k else k + 1 := by
      show (if sgt ((f[k]?).getD ⟨[], 0, vzero, vzero, []⟩).name nm then insN f nm k else k + 1) = _
      rw [hx]; rfl
    rw [hins] at hat
    have hw1 : IntKind.wrap .i64 (((k + 1 : Nat) : Int) - 1) = (k : Int) := by rw [wrap64 (by omega) (by omega)]; omega
    have hp : (0 : Int) < ((k + 1 : Nat) : Int) := by omega
    have hlt : (k : Int) < (f.length : Int) := by omega
    have hlt2 : k < f.length := by omega
    have hsg : (!(Op.bytesLess x.name nm || decide (x.name = nm))) = sgt x.name nm := rfl
    cases hs : sgt x.name nm with
    | true =>
      rw [hs] at hsg hat
      have IH := fun T => ih T (by omega) (by rw [hat]; rfl)
      simp [-Int.natCast_add, -Bool.not_or, -St.obj, -St.set, h0, h4, ho, hget, hw1, hp, hlt, hlt2, hsg, IH, -Int.not_le, -Int.not_lt, -Nat.not_le, -Nat.not_lt, ty3, ty4, ty9, ty23, ty29, ty91, hm, hl, hr, fi16_eq, fi29_eq, fi91_eq, E40, q40_37, n40_25, n40_8]
    | false =>
      rw [hs] at hsg hat
      have hat2 : at0 = k + 1 := by rw [hat]; rfl
      subst hat2
      simp [-Int.natCast_add, -Bool.not_or, -St.obj, -St.set, h0, h4, ho, hget, hw1, hp, hlt, hlt2, hsg, H, -Int.not_le, -Int.not_lt, -Nat.not_le, -Nat.not_lt, ty3, ty4, ty9, ty23, ty29, ty91, hm, hl, hr, fi16_eq, fi29_eq, fi91_eq, E40, q40_37, n40_25, n40_8]
theorem ins_shift (f : List Pred) (z p : Pred) {i : Nat} (hi : i ≤ f.length) :
    (((f ++ [z]).take (i + 1) ++ ((f ++ [z]).drop i).take (f.length - i)).take i ++ [p] ++ ((f ++ [z]).take (i + 1) ++ ((f ++ [z]).drop i).take (f.length - i)).drop (i + 1)) = f.take i ++ p :: f.drop i := by
  have h1 : ((f ++ [z]).take (i + 1)).length = i + 1 := by simp; omega
  rw [List.take_append_of_le_length (by omega), List.take_take, Nat.min_eq_left (by omega), List.take_append_of_le_length hi, List.drop_append, h1, Nat.sub_self, List.drop_zero, List.drop_of_length_le (by omega), List.nil_append]
  rw [List.drop_append_of_le_length hi, List.take_append_of_le_length (by simp), List.take_of_length_le (l := f.drop i) (by simp)]
  simp
set_option maxHeartbeats 8000000 in
theorem T40_34 (f : List Pred) (hne : f ≠ []) (p : Pred) (hfn : f.length < 1000) (i : Nat) (hi : i ≤ f.length) (id m q : Nat) (st : St) (h : FeedOk st id) (l : List Int) (A : Nat) (nm : List UInt8) (r : Nat) (hr : r < 1000) (R : Out × St)
    (e0 : E) (h0 : e0.Tame) (X : List (Nat × List V)) (hx : lk X 6 = some p.cells) (T : List (Nat × E))
    (IH : ∀ T, evK gS fi40 c40_8 { ps := [(0, e0), (2, .own 0 []), (3, .val (.sref false 13 (st.objs.length + (m + 1 + q)) 0 (f.length + 1))), (4, .val (.int .i64 r)), (5, .val (.str nm)), (6, .lp 6 0), (7, .val (.int .i64 i))], ts := T, lc := X } (setF (nw st (m + 1 + q) ((f.take i ++ p :: f.drop i).flatMap Pred.cells)) id l A) (.blk 0 (.seq c40_40 .nil)) = some R) :
    evK gS fi40 c40_34 { ps := [(0, e0), (2, .own 0 []), (3, .val (.sref false 13 (st.objs.length + m) 0 f.length)), (4, .val (.int .i64 ((r + 1 : Nat) : Int))), (5, .val (.str nm)), (6, .lp 6 0), (7, .val (.int .i64 i))], ts := T, lc := X } (setF (dd (nw st m (f.flatMap Pred.cells)) q) id l A) (.blk 1 (.seq c40_39 (.loop c40_9 (.blk 0 (.seq c40_40 .nil))))) = some R := by
  have hm : fi40.marks = [43, 1000000] := rfl
  have hl : fi40.locals = [6] := rfl
  have hr : fi40.results = [.tmp 2] := rfl
  have ho := obj_mid h m q (f.flatMap Pred.cells) l A
  have hk := set_mid h m q (f.flatMap Pred.cells) l A
  have hn := fun fr k len cs => newRef_dd h fr (m + 1 + q) k len cs l A
  have hz : f.flatMap Pred.cells ++ [.str [], .int .i64 0, .int .i64 0, .int .i64 0, .float .f64 0, .str [], .bool false, .int .i64 0, .int .i64 0, .float .f64 0, .str [], .bool false, .slice []] = (f ++ [pzero]).flatMap Pred.cells := by simp [pzero, vzero, encVals]
  have hst := row_strip Pred.cells Pred.cells pcells_strip f
  have hon := row_one Pred.cells pcells_one f
  have hle := row_len Pred.cells 13 pcells_len f
  have hfl : 0 < f.length := List.length_pos_iff.2 hne
  have b1 : (f.length + 1) * 144 ≤ 140737488355328 := by omega
  have b2 : f.length + 1 ≤ 140737488355328 := by omega
  have hw1 : IntKind.wrap .i64 ((i : Int) + 1) = ((i + 1 : Nat) : Int) := by rw [wrap64 (by omega) (by omega)]; omega
  have hw2 : IntKind.wrap .i64 (((r + 1 : Nat) : Int) - 1) = (r : Int) := by rw [wrap64 (by omega) (by omega)]; omega
  have ho2 := obj_gr h (m + 1 + q) ((f ++ [pzero]).flatMap Pred.cells) l A
  have hel := elems_row ho2 false (i := i) (by simp; omega)
  rw [List.length_append, List.length_singleton] at hel
  have hlen : (f ++ [pzero]).length = f.length + 1 := by simp
  generalize hE0 : f ++ [pzero] = E0 at *
  have hsh := ins_shift f pzero p hi
  rw [hE0] at hsh
  have hs1 := sizes_preds (E0.drop i)
  have hdl : (E0.drop i).length = f.length + 1 - i := by simp [hlen]
  have c1 : ((i + 1 : Nat) : Int) ≤ (f.length : Int) + 1 := by omega
  have c2 : (i : Int) ≤ (f.length : Int) + 1 := by omega
  have c3 : (i : Int) < (f.length : Int) + 1 := by omega
  have hst2 := fun cs cs' => set_gr' h (m + 1 + q) cs cs' l A
  have hspl := row_splices Pred.cells 13 pcells_len E0 ((E0.drop i).take (f.length - i)) (i + 1) (by rw [List.length_take, hdl, hlen]; omega)
  have hE1 : E0.take (i + 1) ++ (E0.drop i).take (f.length - i) ++ E0.drop (i + 1 + ((E0.drop i).take (f.length - i)).length) = E0.take (i + 1) ++ (E0.drop i).take (f.length - i) := by
    have hd0 : E0.drop (i + 1 + ((E0.drop i).take (f.length - i)).length) = [] := List.drop_of_length_le (by rw [List.length_take, hdl, hlen]; omega)
    rw [hd0, List.append_nil]
  rw [hE1] at hspl
  generalize hE1g : E0.take (i + 1) ++ (E0.drop i).take (f.length - i) = E1 at *
  have hl1 : E1.length = f.length + 1 := by rw [← hE1g, List.length_append, List.length_take, List.length_take, hdl, hlen]; omega
  have hspl2 := row_splices Pred.cells 13 pcells_len E1 [p] i (by rw [hl1, List.length_singleton]; omega)
  rw [List.length_singleton, hsh] at hspl2
  have hpc : [p].flatMap Pred.cells = p.cells := by simp
  rw [hpc] at hspl2
  simp only [Pred.cells] at hspl2 hx
  have hmc : ∀ k, ((encPreds (E0.drop i)).take k).flatMap V.cells = ((E0.drop i).take k).flatMap Pred.cells := fun k => by
    rw [show (encPreds (E0.drop i)).take k = encPreds ((E0.drop i).take k) from by simp [encPreds], enc_cells]
  have hone := row_one Pred.cells pcells_one ((E0.drop i).take (f.length - i))
  have hrl := row_len Pred.cells 13 pcells_len ((E0.drop i).take (f.length - i))
  have ho1 := obj_gr h (m + 1 + q) (E1.flatMap Pred.cells) l A
  have hcp : ∀ n : Nat, (f.length + 1 - i - (n + 1)) = f.length - i - n := fun n => by omega
  have hsz : splice [.str [], .int .i64 0, .int .i64 0, .int .i64 0, .float .f64 0, .str [], .bool false, .int .i64 0, .int .i64 0, .float .f64 0, .str [], .bool false, .osl 0 []] 0 [.str [], .int .i64 0, .int .i64 0, .int .i64 0, .float .f64 0, .str [], .bool false, .int .i64 0, .int .i64 0, .float .f64 0, .str [], .bool false, .slice []] = some [.str [], .int .i64 0, .int .i64 0, .int .i64 0, .float .f64 0, .str [], .bool false, .int .i64 0, .int .i64 0, .float .f64 0, .str [], .bool false, .slice []] := rfl
  have heo : ∀ (ea : Bool) (k : Nat) (st : St) (n : Nat) (xs : List V), elemsAt ea k st (.own n xs) = some xs := fun _ _ _ _ _ => rfl
  by_cases hil : i = f.length
  · have hE01 : E1 = E0 := by
      rw [← hE1g, hil, Nat.sub_self, List.take_zero, List.append_nil, List.take_of_length_le (by omega)]
    subst hil
    rw [Nat.add_sub_cancel_left] at hel
    rw [hE01] at hspl2
    clear hE1 hE1g hspl hsh hone hrl ho1 hcp hmc hpc
    have hd1 : (E0.drop f.length).length = 1 := by rw [hdl]; omega
    simp [-Int.natCast_add, -St.obj, -St.set, -splice, h0, ho, hk, hn, hz, hst, hon, hle, hfl, b1, b2, hw1, hw2, ho2, hel, hlen, hs1, hd1, hspl2, hst2, hsz, heo, copyStep, markStep, markAppend, hx, IH, -Int.not_le, -Int.not_lt, -Nat.not_le, -Nat.not_lt, ty3, ty4, ty9, ty23, ty29, ty91, hm, hl, hr, fi16_eq, fi29_eq, fi91_eq, E40, q40_37, e40_34, n40_25, n40_8]
    simpa [Pred.cells] using IH [(18, .val (.int .i64 (r : Int))), (17, .val (.int .i64 ((r + 1 : Nat) : Int)))]
  · have hmin : min (f.length + 1 - i) (f.length - i) = f.length - i := by omega
    have hlei : ¬ f.length ≤ i := by omega
    have hne0 : ¬ (f.length - i = 0) := by omega
    have hrl2 : (((E0.drop i).take (f.length - i)).flatMap Pred.cells).length = (f.length - i) * 13 := by rw [hrl, List.length_take, hdl]; congr 1; omega
    have hpos2 : 0 < (f.length - i) * 13 := by omega
    have hpos3 : i < f.length := by omega
    have c6 : ((i + 1 : Nat) : Int) ≤ ((f.length + 1 : Nat) : Int) := by omega
    have c7 : (i : Int) ≤ ((f.length + 1 : Nat) : Int) := by omega
    have c8 : (i : Int) < ((f.length + 1 : Nat) : Int) := by omega
    have c9 : (0 : Int) ≤ ((i + 1 : Nat) : Int) := by omega
    have c10 : ¬ i = f.length + 1 := by omega
    simp [-Int.natCast_add, -List.flatMap_append, -St.obj, -St.set, -splice, h0, ho, hk, hn, hz, hst, hon, hle, hfl, b1, b2, hw1, hw2, ho1, ho2, hel, hlen, hs1, hdl, hmin, hlei, hne0, hrl2, hpos2, hpos3, hil, c6, c7, c8, c9, c10, hmc, hone, hspl, hspl2, hst2, hsz, heo, copyStep, markStep, markAppend, hx, -Int.not_le, -Int.not_lt, -Nat.not_le, -Nat.not_lt, ty3, ty4, ty9, ty23, ty29, ty91, hm, hl, hr, fi16_eq, fi29_eq, fi91_eq, E40, q40_37, e40_34, n40_25, n40_8]
    exact IH _
set_option maxHeartbeats 8000000 in
theorem L40 (l : List Int) (a id : Nat) (ha : a < 549755813888) (st : St) (h : FeedOk st id) : ∀ (r j m : Nat) (f : List Pred) (e5 e6 e7 : E) (T : List (Nat × E)) (X : List (Nat × List V)) (h5 : e5.Tame) (h6 : e6.Tame) (h7 : e7.Tame), f ≠ [] → f.length + r ≤ 3 → j + 20 * r < 549755810000 →
    evK gS fi40 c40_8 { ps := [(0, .val (.ptr id 0)), (2, .own 0 []), (3, .val (.sref false 13 (st.objs.length + m) 0 f.length)), (4, .val (.int .i64 r)), (5, e5), (6, e6), (7, e7)], ts := T, lc := X } (setF (nw st m (f.flatMap Pred.cells)) id l (nA l a j)) (.blk 0 (.seq c40_40 .nil)) = some (.ret (.slice (encPreds (filterG l a r j (m + 1) f).1)) none, setF (dd st (filterG l a r j (m + 1) f).2.2) id l (nA l a (filterG l a r j (m + 1) f).2.1)) := by
  intro r
  have hm : fi40.marks = [43, 1000000] := rfl
  have hl : fi40.locals = [6] := rfl
  have hr : fi40.results = [.tmp 2] := rfl
  induction r with
  | zero =>
    intro j m f e5 e6 e7 T X h5 h6 h7 hne hlr hj
    refine evK_loop c40_9 _ _ _ _ rfl ?_
    have hz := frz_preds 5 (st.objs.length + m) f hne (obj_gr h m _ l (nA l a j)) (set_gr h m _ l (nA l a j))
    rw [show filterG l a 0 j (m + 1) f = (f, j, m + 1) from rfl]
    simp [-St.obj, -St.set, h5, h6, h7, hz, -Int.not_le, -Int.not_lt, -Nat.not_le, -Nat.not_lt, ty3, ty4, ty9, ty23, ty29, ty91, hm, hl, hr, fi16_eq, fi29_eq, fi91_eq, E40, q40_37, e40_34, n40_25, n40_8]
  | succ r ih =>
    intro j m f e5 e6 e7 T X h5 h6 h7 hne hlr hj
    refine evK_loop c40_9 _ _ _ _ rfl ?_
    have hn := fun fr => k70 l a j id fr (nw st m (f.flatMap Pred.cells)) (h.nw m _) ha (by omega)
    have hp := fun fr => k71 l a (j + 1) id (nameV l a j) fr (nw st m (f.flatMap Pred.cells)) (h.nw m _) ha (by omega)
    have hg : filterG l a (r + 1) j (m + 1) f = filterG l a r (j + 1 + (predV l a (j + 1) (nameV l a j)).2) (m + 1 + (predV l a (j + 1) (nameV l a j)).1.set.length + 1) (insP f (predV l a (j + 1) (nameV l a j)).1 (nameV l a j)) := rfl
    rw [hg]
    have hpa := pred_asks l a (j + 1) (nameV l a j)
    generalize nameV l a j = nm at *
    generalize predV l a (j + 1) nm = P at *
    obtain ⟨p, k⟩ := P
    simp only at hp hg hpa ⊢
    have c1 : (0 : Int) < ((r + 1 : Nat) : Int) := by omega
    have c2 : (f.length : Int) < 3 := by omega
    have c3 : f.length < 3 := by omega
    have hil := insP_length f p nm
    have hi := insN_le f nm f.length
    have ipe : insP f p nm ≠ [] := by intro e; rw [e] at hil; simp at hil
    have IH := fun T X => ih (j + 1 + k) (m + 1 + p.set.length) (insP f p nm) (.val (.str nm)) (.lp 6 0) (.val (.int .i64 (insN f nm f.length))) T X rfl rfl rfl ipe (by rw [hil]; omega) (by omega)
    rw [hil] at IH
    simp only [insP] at IH ⊢
    have TT := fun X hx T => T40_34 f hne p (by omega) (insN f nm f.length) hi id m p.set.length st h l (nA l a (j + 1 + k)) nm r (by omega) _ (.val (.ptr id 0)) rfl X hx T (fun T => IH T X)
    have II := fun X hx T => I40 nm f (st.objs.length + m) (setF (dd (nw st m (f.flatMap Pred.cells)) p.set.length) id l (nA l a (j + 1 + k))) (obj_mid h m p.set.length _ l _) (by omega) _ (.val (.ptr id 0)) (.val (.int .i64 ((r + 1 : Nat) : Int))) rfl rfl X (insN f nm f.length) (fun T => TT X hx T) f.length T (Nat.le_refl _) rfl
    simp [-Int.natCast_add, -St.obj, -St.set, -List.flatMap_append, h5, h6, h7, hn, hp, c1, c2, c3, -Int.not_le, -Int.not_lt, -Nat.not_le, -Nat.not_lt, ty3, ty4, ty9, ty23, ty29, ty91, hm, hl, hr, fi16_eq, fi29_eq, fi91_eq, E40, q40_37, e40_34, n40_25, n40_8]
    refine II _ ?_ _
    simp
set_option maxHeartbeats 8000000 in
theorem c40 (l : List Int) (a j id : Nat) (st : St) (h : FeedOk st id) (ha : a < 549755813888) (hj : j < 549755809000) :
    EvF gS 40 [.ptr id 0] (setF st id l (nA l a j)) = some (.ret (.slice (encPreds (filterV l a j).1)) none, setF (dd st (filterV l a j).2.2) id l (nA l a (filterV l a j).2.1)) := by
  refine EvF_start fi35_eq (fun x h => by cases h) m40 ?_
  rw [st40]
  have hm : fi40.marks = [43, 1000000] := rfl
  have hl : fi40.locals = [6] := rfl
  have hr : fi40.results = [.tmp 2] := rfl
  have hb := fd_bound l a j (n := 4) (by omega)
  have hk := fun fr => k11 l a j id 4 fr st h ha (by omega) (by omega)
  unfold filterV
  generalize fd l a j 4 = z at *
  obtain ⟨r, rfl⟩ : ∃ r : Nat, z = (r : Int) := ⟨z.toNat, by omega⟩
  rw [Int.toNat_natCast]
  simp [-St.obj, -St.set, hk, -Int.not_le, -Int.not_lt, -Nat.not_le, -Nat.not_lt, ty3, ty4, ty9, ty23, ty29, ty91, hm, hl, hr, fi16_eq, fi29_eq, fi91_eq, E40, q40_37, e40_34, n40_25, n40_8]
  cases r with
  | zero =>
    refine evK_loop c40_9 _ _ _ _ rfl ?_
    have hz : ∀ st, frz 6 st (.slice []) = some (.slice [], st) := fun st => frz_flat 6 st _ rfl
    rw [show filterG l a 0 (j + 1) 0 [] = ([], j + 1, 0) from rfl]
    simp [-St.obj, -St.set, hz, dd_zero, encPreds, -Int.not_le, -Int.not_lt, -Nat.not_le, -Nat.not_lt, ty3, ty4, ty9, ty23, ty29, ty91, hm, hl, hr, fi16_eq, fi29_eq, fi91_eq, E40, q40_37, e40_34, n40_25, n40_8]
  | succ r =>
    refine evK_loop c40_9 _ _ _ _ rfl ?_
    have hn := fun fr => k70 l a (j + 1) id fr st h ha (by omega)
    have hp := fun fr => k71 l a (j + 1 + 1) id (nameV l a (j + 1)) fr st h ha (by omega)
    have hg : filterG l a (r + 1) (j + 1) 0 [] = filterG l a r (j + 1 + 1 + (predV l a (j + 1 + 1) (nameV l a (j + 1))).2) (0 + (predV l a (j + 1 + 1) (nameV l a (j + 1))).1.set.length + 1) (insP [] (predV l a (j + 1 + 1) (nameV l a (j + 1))).1 (nameV l a (j + 1))) := rfl
    rw [hg]
    have hpa := pred_asks l a (j + 1 + 1) (nameV l a (j + 1))
    generalize nameV l a (j + 1) = nm at *
    generalize predV l a (j + 1 + 1) nm = P at *
    obtain ⟨p, k⟩ := P
    simp only at hp hg hpa ⊢
    rw [show insP [] p nm = [p] from rfl, Nat.zero_add]
    have c1 : (0 : Int) < ((r + 1 : Nat) : Int) := by omega
    have LL := fun e5 e6 e7 T X h5 h6 h7 => L40 l a id ha st h r (j + 1 + 1 + k) p.set.length [p] e5 e6 e7 T X h5 h6 h7 (by simp) (by simp; omega) (by omega)
    have hpc : [p].flatMap Pred.cells = p.cells := by simp
    rw [hpc] at LL
    simp only [Pred.cells, List.length_singleton] at LL
    have hnr := fun fr kk len cs => newRef_dd h fr p.set.length kk len cs l (nA l a (j + 1 + 1 + k))
    have ho2 := fun cs => obj_gr h p.set.length cs l (nA l a (j + 1 + 1 + k))
    have hst2 := fun cs cs' => set_gr' h p.set.length cs cs' l (nA l a (j + 1 + 1 + k))
    have heo : ∀ (ea : Bool) (k : Nat) (st : St) (n : Nat) (xs : List V), elemsAt ea k st (.own n xs) = some xs := fun _ _ _ _ _ => rfl
    have hw2 : IntKind.wrap .i64 (((r + 1 : Nat) : Int) - 1) = (r : Int) := by rw [wrap64 (by omega) (by omega)]; omega
    have hel1 : elemsAt true 13 (setF (nw st p.set.length [.str [], .int .i64 0, .int .i64 0, .int .i64 0, .float .f64 0, .str [], .bool false, .int .i64 0, .int .i64 0, .float .f64 0, .str [], .bool false, .slice []]) id l (nA l a (j + 1 + 1 + k))) (.val (.sref false 13 (st.objs.length + p.set.length) 0 1)) = some (encPreds [pzero]) := elems_row (l := [pzero]) (ho2 _) false (i := 0) (Nat.zero_le _)
    have hs1 := sizes_preds [pzero]
    simp [-Int.natCast_add, -St.obj, -St.set, hn, hp, c1, -Int.not_le, -Int.not_lt, -Nat.not_le, -Nat.not_lt, ty3, ty4, ty9, ty23, ty29, ty91, hm, hl, hr, fi16_eq, fi29_eq, fi91_eq, E40, q40_37, e40_34, n40_25, n40_8]
    refine evK_loop c40_26 _ _ _ _ rfl ?_
    simp [-Int.natCast_add, -St.obj, -St.set, hnr, ho2, hst2, heo, hw2, w64_1, hel1, hs1, copyStep, markStep, markAppend, -Int.not_le, -Int.not_lt, -Nat.not_le, -Nat.not_lt, ty3, ty4, ty9, ty23, ty29, ty91, hm, hl, hr, fi16_eq, fi29_eq, fi91_eq, E40, q40_37, e40_34, n40_25, n40_8]
    exact LL _ _ _ _ _ rfl rfl rfl
theorem k40 (l : List Int) (a j id : Nat) (fr : Fr) (st : St) (h : FeedOk st id) (ha : a < 549755813888) (hj : j < 549755809000) :
    callStep gS (EvF gS) 40 [.ptr id 0] fr (setF st id l (nA l a j)) = some (.ok (.val (.slice (encPreds (filterV l a j).1))) (fr.map E.noMem) (setF (dd st (filterV l a j).2.2) id l (nA l a (filterV l a j).2.1))) := by
  unfold callStep
  simp only [show gS.ext 40 = none from rfl, fi35_eq, show fi40.pure = false from rfl, Bool.false_eq_true, if_false, c40 l a j id st h ha hj, retE]
  all_goals rfl
end
end Go.Proofs.Ytdoobejjedpcgaa
namespace Go.Ab
open Go
set_option linter.unusedVariables false
set_option linter.unusedSimpArgs false
set_option linter.unnecessarySimpa false
def okNames : Bool := N4.all fun x => N4.all fun y => (N4.all fun z => sgt x y || sgt y z || !sgt x z) && (!sgt x y || !sgt y x) && isWord x
theorem names_ok : okNames = true := by kernel_rfl
def NM (x : List UInt8) : Prop := x ∈ N4
theorem nm_trans {x y z : List UInt8} (hx : NM x) (hy : NM y) (hz : NM z) (h1 : sgt x y = false) (h2 : sgt y z = false) : sgt x z = false := by
  have := List.all_eq_true.1 (List.all_eq_true.1 names_ok x hx) y hy
  simp only [Bool.and_eq_true] at this
  have := List.all_eq_true.1 this.1.1 z hz
  rw [h1, h2] at this
  simpa using this
theorem nm_asym {x y : List UInt8} (hx : NM x) (hy : NM y) (h : sgt x y = true) : sgt y x = false := by
  have := List.all_eq_true.1 (List.all_eq_true.1 names_ok x hx) y hy
  simp only [Bool.and_eq_true] at this
  have := this.1.2
  rw [h] at this
  simpa using this
theorem nm_word {x : List UInt8} (hx : NM x) : isWord x = true := by
  have := List.all_eq_true.1 (List.all_eq_true.1 names_ok x hx) x hx
  simp only [Bool.and_eq_true] at this
  exact this.2
theorem nameV_nm (l : List Int) (a j : Nat) : NM (nameV l a j) := by
  unfold NM nameV
  have hlt : (fd l a j 12).toNat / 3 % 4 < N4.length := by show _ < 4; omega
  rw [List.getD_eq_getElem?_getD, List.getElem?_eq_getElem hlt]
  exact List.getElem_mem hlt
/-- Right ones of the row, in their places. -/
structure FFV (f : List Pred) : Prop where
  right : ∀ p ∈ f, pright p = true
  fv : ∀ p ∈ f, PFV p
  nm : ∀ p ∈ f, NM p.name
  srt : f.Pairwise fun x y => sgt x.name y.name = false
theorem ffv_nil : FFV [] := ⟨by simp, by simp, by simp, List.Pairwise.nil⟩
theorem insN_above (f : List Pred) (nm : List UInt8) : ∀ (k i : Nat) (p : Pred), insN f nm k ≤ i → i < k → f[i]? = some p → sgt p.name nm = true
  | 0, i, p, _, h, _ => by omega
  | k + 1, i, p, h1, h2, hp => by
    unfold insN at h1
    split at h1
    · rename_i hs
      by_cases hik : i = k
      · subst hik; rw [hp] at hs; exact hs
      · exact insN_above f nm k i p h1 (by omega) hp
    · omega
theorem insN_below (f : List Pred) (nm : List UInt8) : ∀ (k : Nat) (p : Pred), k ≤ f.length → 0 < insN f nm k → f[insN f nm k - 1]? = some p → sgt p.name nm = false
  | 0, p, _, h, _ => by simp [insN] at h
  | k + 1, p, hk, h, hp => by
    unfold insN at h hp
    split at h
    · rename_i hs
      rw [if_pos hs] at hp
      exact insN_below f nm k p (by omega) h hp
    · rename_i hs
      rw [if_neg hs, Nat.add_sub_cancel] at hp
      rw [hp] at hs
      simpa using hs
theorem ins_ffv {f : List Pred} (h : FFV f) {p : Pred} (h1 : pright p = true) (h2 : PFV p) (h3 : NM p.name) : FFV (insP f p p.name) := by
  have hle := insN_le f p.name f.length
  have hab := insN_above f p.name f.length
  have hbe := insN_below f p.name f.length
  unfold insP
  generalize hi : insN f p.name f.length = i at *
  have mem : ∀ x, x ∈ f.take i ++ p :: f.drop i → x ∈ f ∨ x = p := by
    intro x hx
    rcases List.mem_append.1 hx with hx | hx
    · exact .inl (List.mem_of_mem_take hx)
    · rcases List.mem_cons.1 hx with hx | hx
      · exact .inr hx
      · exact .inl (List.mem_of_mem_drop hx)
  refine ⟨fun x hx => ?_, fun x hx => ?_, fun x hx => ?_, ?_⟩
  · rcases mem x hx with h' | rfl
    · exact h.right x h'
    · exact h1
  · rcases mem x hx with h' | rfl
    · exact h.fv x h'
    · exact h2
  · rcases mem x hx with h' | rfl
    · exact h.nm x h'
    · exact h3
  · have hs := h.srt
    have hsp : f.take i ++ f.drop i = f := List.take_append_drop i f
    rw [← hsp] at hs
    rw [List.pairwise_append] at hs ⊢
    obtain ⟨s1, s2, s3⟩ := hs
    have low : ∀ x ∈ f.take i, sgt x.name p.name = false := by
      intro x hx
      have hpos : 0 < i := by
        cases i with
        | zero => simp at hx
        | succ i => omega
      have hlast : i - 1 < f.length := by omega
      have hb := hbe (f[i - 1]) (Nat.le_refl _) hpos (List.getElem?_eq_getElem hlast)
      obtain ⟨j, hj, rfl⟩ := List.getElem_of_mem hx
      rw [List.length_take] at hj
      rw [List.getElem_take]
      by_cases hji : j = i - 1
      · subst hji; exact hb
      · have hlt : j < i - 1 := by omega
        have hp := List.pairwise_iff_getElem.1 h.srt j (i - 1) (by omega) hlast hlt
        exact nm_trans (h.nm _ (List.getElem_mem _)) (h.nm _ (List.getElem_mem _)) h3 hp hb
    have high : ∀ x ∈ f.drop i, sgt p.name x.name = false := by
      intro x hx
      obtain ⟨j, hj, rfl⟩ := List.getElem_of_mem hx
      rw [List.length_drop] at hj
      rw [List.getElem_drop]
      have := hab (i + j) (f[i + j]'(by omega)) (by omega) (by omega) (List.getElem?_eq_getElem _)
      exact nm_asym (h.nm _ (List.getElem_mem _)) h3 this
    refine ⟨s1, List.pairwise_cons.2 ⟨fun x hx => high x hx, s2⟩, fun x hx y hy => ?_⟩
    rcases List.mem_cons.1 hy with rfl | hy
    · exact low x hx
    · exact s3 x hx y hy
theorem predV_name (l : List Int) (a j : Nat) (nm : List UInt8) : (predV l a j nm).1.name = nm := by
  unfold predV
  simp only
  repeat' split
  all_goals rfl
theorem filterG_ffv (l : List Int) (a : Nat) : ∀ (n j d : Nat) (f : List Pred), FFV f → FFV (filterG l a n j d f).1 ∧ (filterG l a n j d f).1.length = f.length + n
  | 0, j, d, f, h => ⟨h, rfl⟩
  | n + 1, j, d, f, h => by
    have hn := nameV_nm l a j
    have hp := predV_name l a (j + 1) (nameV l a j)
    have h2 := ins_ffv h (p := (predV l a (j + 1) (nameV l a j)).1) (pred_right _ _ _ (nm_word hn)) (pred_fv _ _ _ _) (by rw [hp]; exact hn)
    rw [hp] at h2
    have := filterG_ffv l a n (j + 1 + (predV l a (j + 1) (nameV l a j)).2) (d + (predV l a (j + 1) (nameV l a j)).1.set.length + 1) _ h2
    refine ⟨this.1, ?_⟩
    have h3 := this.2
    rw [insP_length] at h3
    show (filterG l a n _ _ _).1.length = _
    omega
theorem filterV_ffv (l : List Int) (a j : Nat) : FFV (filterV l a j).1 ∧ (filterV l a j).1.length ≤ 3 := by
  have hb := fd_bound l a j (n := 4) (by omega)
  have := filterG_ffv l a (fd l a j 4).toNat (j + 1) 0 [] ffv_nil
  refine ⟨this.1, ?_⟩
  have h2 := this.2
  simp only [List.length_nil, Nat.zero_add] at h2
  unfold filterV
  omega
theorem rises_of : ∀ (f : List Pred) (o : Option (List UInt8)), (∀ p ∈ f, pright p = true) → f.Pairwise (fun x y => sgt x.name y.name = false) → (∀ n p, o = some n → f.head? = some p → sgt n p.name = false) → rises o f = true
  | [], o, _, _, _ => rises_nil o
  | p :: r, o, h1, h2, h3 => by
    obtain ⟨h4, h5⟩ := List.pairwise_cons.1 h2
    have ih := rises_of r (some p.name) (fun q hq => h1 q (by simp [hq])) h5 (fun n q hn hq => by
      cases hn
      exact h4 q (List.mem_of_mem_head? hq))
    cases o with
    | none => rw [rises_none, h1 p (by simp), ih]; rfl
    | some n => rw [rises_some, h1 p (by simp), ih, h3 n p rfl rfl]; rfl
theorem ffv_right {f : List Pred} (h : FFV f) (hl : f.length ≤ 3) : fright f = true := by
  unfold fright
  rw [rises_of f none h.right h.srt (fun n p hn => by cases hn)]
  simp [hl]
theorem filterG_bounds (l : List Int) (a : Nat) : ∀ (n j d : Nat) (f : List Pred), (filterG l a n j d f).2.1 ≤ j + 11 * n ∧ (filterG l a n j d f).2.2 ≤ d + 5 * n
  | 0, j, d, f => ⟨by simp [filterG], by simp [filterG]⟩
  | n + 1, j, d, f => by
    have h1 := pred_asks l a (j + 1) (nameV l a j)
    have hn := nm_word (nameV_nm l a j)
    have h2 : (predV l a (j + 1) (nameV l a j)).1.set.length ≤ 4 := by
      have hr := pred_right l a (j + 1) hn
      generalize (predV l a (j + 1) (nameV l a j)).1 = p at hr ⊢
      unfold pright at hr
      split at hr
      · repeat' split at hr
        all_goals first
          | (simp only [Bool.and_eq_true, decide_eq_true_eq] at hr; omega)
          | cases hr
      · cases hr
    have := filterG_bounds l a n (j + 1 + (predV l a (j + 1) (nameV l a j)).2) (d + (predV l a (j + 1) (nameV l a j)).1.set.length + 1) (insP f (predV l a (j + 1) (nameV l a j)).1 (nameV l a j))
    unfold filterG
    omega
theorem filterV_asks (l : List Int) (a j : Nat) : (filterV l a j).2.1 ≤ j + 34 := by
  have hb := fd_bound l a j (n := 4) (by omega)
  have := (filterG_bounds l a (fd l a j 4).toNat (j + 1) 0 []).1
  unfold filterV
  omega
theorem attrsG_asks (l : List Int) (a : Nat) : ∀ (q : List (List UInt8 × Int)) (j : Nat), (attrsG l a q j).2 ≤ j + 3 * q.length
  | [], j => by simp [attrsG]
  | (nm, x) :: r, j => by
    have h1 := attrsG_asks l a r (j + 3)
    have h2 := attrsG_asks l a r (j + 1)
    unfold attrsG
    split
    · simp only [List.length_cons]; omega
    · simp only [List.length_cons]; omega
theorem attrsV_asks (l : List Int) (a j : Nat) : (attrsV l a j).2 ≤ j + 15 := attrsG_asks l a A5 j
theorem attrsG_len (l : List Int) (a : Nat) : ∀ (q : List (List UInt8 × Int)) (j : Nat), (attrsG l a q j).1.length ≤ q.length
  | [], j => by simp [attrsG]
  | (nm, x) :: r, j => by
    have h1 := attrsG_len l a r (j + 3)
    have h2 := attrsG_len l a r (j + 1)
    unfold attrsG
    split
    · simp only [List.length_cons]; omega
    · simp only [List.length_cons]; omega
theorem attrsV_len (l : List Int) (a j : Nat) : (attrsV l a j).1.length ≤ 5 := attrsG_len l a A5 j
theorem vsame_refl (v : Val) : vsame v v = true := by simp [vsame]
theorem sames_refl : ∀ l : List Val, sames l l = true
  | [] => rfl
  | x :: r => by simp [sames, vsame_refl, sames_refl r]
end Go.Ab
namespace Go.Ab
open Go
set_option linter.unusedVariables false
set_option linter.unusedSimpArgs false
set_option linter.unnecessarySimpa false
def Apt (a b : List Pred) : Prop := fcovers a b = false ∧ fcovers b a = false
structure Row (row : List (List Pred)) : Prop where
  apart : row.Pairwise Apt
end Go.Ab
namespace Go.Ab
open Go
set_option linter.unusedVariables false
set_option linter.unusedSimpArgs false
set_option linter.unnecessarySimpa false
structure Sub where
  client : Int
  broker : Int
  num : Int
  filter : List Pred
  deriving Inhabited
structure Grp where
  filter : List Pred
  clients : List Int
  deriving Inhabited
def Sub.cells (s : Sub) : List V := [.int .i64 s.client, .int .i64 s.broker, .int .i64 s.num, .slice (encPreds s.filter)]
def Sub.enc (s : Sub) : V := .agg s.cells
def encSubs (l : List Sub) : List V := l.map Sub.enc
def Grp.cells (s : Grp) : List V := [.slice (encPreds s.filter), .slice (intVs s.clients)]
def Grp.enc (s : Grp) : V := .agg s.cells
def encGrps (l : List Grp) : List V := l.map Grp.enc
theorem encSubs_length (l : List Sub) : (encSubs l).length = l.length := by simp [encSubs]
theorem encSubs_get (l : List Sub) (i : Nat) : (encSubs l)[i]? = (l[i]?).map Sub.enc := by simp [encSubs]
theorem encSubs_gE (l : List Sub) (i : Nat) (h : i < (encSubs l).length) : (encSubs l)[i]'h = (l[i]'(by rw [encSubs_length] at h; exact h)).enc := by simp [encSubs]
theorem flat_sub (v : Sub) : v.enc.flat = true := by simp [Sub.enc, Sub.cells, V.flat, flats]
theorem flats_subs (l : List Sub) : flats (encSubs l) = true := by
  induction l with
  | nil => rfl
  | cons x r ih => simp only [encSubs, List.map_cons, flats, flat_sub] at ih ⊢; exact ih
theorem encGrps_length (l : List Grp) : (encGrps l).length = l.length := by simp [encGrps]
theorem encGrps_get (l : List Grp) (i : Nat) : (encGrps l)[i]? = (l[i]?).map Grp.enc := by simp [encGrps]
theorem encGrps_gE (l : List Grp) (i : Nat) (h : i < (encGrps l).length) : (encGrps l)[i]'h = (l[i]'(by rw [encGrps_length] at h; exact h)).enc := by simp [encGrps]
theorem flat_grp (v : Grp) : v.enc.flat = true := by simp [Grp.enc, Grp.cells, V.flat, flats]
theorem flats_grps (l : List Grp) : flats (encGrps l) = true := by
  induction l with
  | nil => rfl
  | cons x r ih => simp only [encGrps, List.map_cons, flats, flat_grp] at ih ⊢; exact ih
attribute [simp] encSubs_length encSubs_get encSubs_gE flat_sub flats_subs encGrps_length encGrps_get encGrps_gE flat_grp flats_grps Sub.enc Sub.cells Grp.enc Grp.cells
theorem sizes_subs (l : List Sub) : sizesOk 4 (encSubs l) = true := by
  induction l with
  | nil => rfl
  | cons x r ih => simp only [encSubs, List.map_cons, sizesOk] at ih ⊢; rw [ih]; rfl
theorem sizes_grps (l : List Grp) : sizesOk 2 (encGrps l) = true := by
  induction l with
  | nil => rfl
  | cons x r ih => simp only [encGrps, List.map_cons, sizesOk] at ih ⊢; rw [ih]; rfl
theorem sizes_ints (l : List Int) : sizesOk 1 (intVs l) = true := by
  induction l with
  | nil => rfl
  | cons x r ih => simp only [intVs, List.map_cons, sizesOk] at ih ⊢; rw [ih]; rfl
theorem subs_snoc (l : List Sub) (x : Sub) : encSubs l ++ [.agg [.int .i64 x.client, .int .i64 x.broker, .int .i64 x.num, .slice (encPreds x.filter)]] = encSubs (l ++ [x]) := by simp [encSubs]
theorem grps_snoc (l : List Grp) (x : Grp) : encGrps l ++ [.agg [.slice (encPreds x.filter), .slice (intVs x.clients)]] = encGrps (l ++ [x]) := by simp [encGrps]
theorem ints_snoc (l : List Int) (x : Int) : intVs l ++ [.int .i64 x] = intVs (l ++ [x]) := by simp [intVs]
theorem ints_append (l m : List Int) : intVs l ++ intVs m = intVs (l ++ m) := by simp [intVs]
theorem ints_take (l : List Int) (n : Nat) : (intVs l).take n = intVs (l.take n) := by simp [intVs]
theorem ints_drop (l : List Int) (n : Nat) : (intVs l).drop n = intVs (l.drop n) := by simp [intVs]
/-- With one more, rising, once. -/
def layI : List Int → Int → List Int
  | [], n => [n]
  | x :: r, n => if x < n then x :: layI r n else if x = n then x :: r else n :: x :: r
def rising (l : List Int) : Prop := l.Pairwise (· < ·)
theorem layI_mem : ∀ {l : List Int} {n x : Int}, x ∈ layI l n ↔ x = n ∨ x ∈ l
  | [], n, x => by simp [layI]
  | y :: r, n, x => by
    unfold layI
    split
    · rw [List.mem_cons, layI_mem, List.mem_cons]
      constructor
      · rintro (h | h | h)
        · exact .inr (.inl h)
        · exact .inl h
        · exact .inr (.inr h)
      · rintro (h | h | h)
        · exact .inr (.inl h)
        · exact .inl h
        · exact .inr (.inr h)
    · split
      · rename_i h; subst h; simp
      · simp
theorem layI_len (l : List Int) (n : Int) : (layI l n).length ≤ l.length + 1 := by
  induction l with
  | nil => simp [layI]
  | cons y r ih =>
    unfold layI
    split
    · simp; omega
    · split <;> simp
def posI (l : List Int) (n : Int) : Nat := (l.takeWhile fun x => decide (x < n)).length
theorem posI_le : ∀ (l : List Int) (n : Int), posI l n ≤ l.length
  | [], _ => by simp [posI]
  | x :: r, n => by
    have := posI_le r n
    unfold posI at this ⊢
    rw [List.takeWhile_cons]
    split <;> simp; omega
theorem posI_lt : ∀ (l : List Int) (n : Int) (i : Nat) (x : Int), i < posI l n → l[i]? = some x → x < n
  | [], _, _, _, _, h => by simp at h
  | y :: r, n, i, x, hi, hx => by
    unfold posI at hi
    rw [List.takeWhile_cons] at hi
    split at hi
    · rename_i hy
      cases i with
      | zero => simp at hx; subst hx; simpa using hy
      | succ i => exact posI_lt r n i x (by unfold posI; simpa using hi) (by simpa using hx)
    · simp at hi
theorem posI_ge : ∀ (l : List Int) (n : Int) (x : Int), l[posI l n]? = some x → ¬ x < n
  | [], _, _, h => by simp at h
  | y :: r, n, x, hx => by
    unfold posI at hx
    rw [List.takeWhile_cons] at hx
    split at hx
    · rw [List.length_cons, List.getElem?_cons_succ] at hx
      exact posI_ge r n x hx
    · rename_i hy
      simp at hx; subst hx; simpa using hy
theorem layI_eq : ∀ (l : List Int) (n : Int), layI l n = if l[posI l n]? = some n then l else l.take (posI l n) ++ [n] ++ l.drop (posI l n)
  | [], n => by simp [layI, posI]
  | y :: r, n => by
    have ih := layI_eq r n
    unfold layI
    by_cases hy : y < n
    · have hp : posI (y :: r) n = posI r n + 1 := by unfold posI; rw [List.takeWhile_cons]; simp [hy]
      rw [if_pos hy, hp, ih]
      simp only [List.getElem?_cons_succ, List.take_succ_cons, List.drop_succ_cons]
      split <;> rfl
    · have hp : posI (y :: r) n = 0 := by unfold posI; rw [List.takeWhile_cons]; simp [hy]
      rw [if_neg hy, hp]
      simp
def fstOf (l : List Sub) (i : Nat) (s : Sub) : Bool := (l.take i).foldl (fun b t => b && !fsame s.filter t.filter) true
def cliStep (s : Sub) (acc : List Int) (t : Sub) : List Int := if fsame s.filter t.filter then layI acc t.client else acc
def cliOf (l : List Sub) (s : Sub) : List Int := l.foldl (cliStep s) []
/-- A group of each filter that is not one ahead of it. -/
def gofG (l : List Sub) : Nat → List Sub → List Grp → List Grp
  | _, [], out => out
  | i, s :: r, out => gofG l (i + 1) r (if fstOf l i s then out ++ [⟨s.filter, cliOf l s⟩] else out)
def gof (l : List Sub) : List Grp := gofG l 0 l []
def matchG (A : List Attr) : Nat → List Grp → List Int → List Int
  | _, [], out => out
  | i, x :: r, out => matchG A (i + 1) r (if ftakes x.filter A then out ++ [(i : Int)] else out)
def gmatch (g : List Grp) (A : List Attr) : List Int := matchG A 0 g []
def rdStep (g : List Grp) (out : List Int) (i : Int) : List Int := if i < 0 ∨ (g.length : Int) ≤ i then out else ((g[i.toNat]?).getD default).clients.foldl layI out
def greaders (g : List Grp) (m : List Int) : List Int := m.foldl (rdStep g) []
def hasI : List Int → Int → Bool
  | [], _ => false
  | x :: r, n => if x = n then true else hasI r n
theorem hasI_iff : ∀ {l : List Int} {n : Int}, hasI l n = true ↔ n ∈ l
  | [], n => by simp [hasI]
  | x :: r, n => by
    unfold hasI
    split
    · rename_i h; subst h; simp
    · rename_i h
      rw [hasI_iff, List.mem_cons]
      constructor
      · exact .inr
      · rintro (h' | h')
        · exact absurd h'.symm h
        · exact h'
def mineG (c : Int) : Nat → List Grp → List Int → List Int
  | _, [], out => out
  | i, x :: r, out => mineG c (i + 1) r (if hasI x.clients c then out ++ [(i : Int)] else out)
def gmine (g : List Grp) (c : Int) : List Int := mineG c 0 g []
/-- Subscriptions as a feed yields them. -/
def subsI (l : List Int) (a : Nat) (fs : List (List Pred)) (c home : Int) : Nat → Int → Nat → Nat → List Sub → List Sub × Nat × Nat
  | 0, _, j, d, out => (out, j, d)
  | n + 1, num, j, d, out =>
    subsI l a fs c home n (num + 1 + fd l a j 2) ((filterV l a (j + 1)).2.1 + 1) (d + (filterV l a (j + 1)).2.2)
      (out ++ [⟨c, home, num + 1 + fd l a j 2, if fd l a (filterV l a (j + 1)).2.1 6 < 3 then fs.getD (fd l a (filterV l a (j + 1)).2.1 6).toNat [] else (filterV l a (j + 1)).1⟩])
def subsO (l : List Int) (a P : Nat) (fs : List (List Pred)) : Nat → Int → Nat → Nat → List Sub → List Sub × Nat × Nat
  | 0, _, j, d, out => (out, j, d)
  | r + 1, c, j, d, out =>
    subsO l a P fs r (c + 1) (subsI l a fs c (fd l a j (P + 1)) (fd l a (j + 1) 4).toNat 0 (j + 2) d out).2.1 (subsI l a fs c (fd l a j (P + 1)) (fd l a (j + 1) 4).toNat 0 (j + 2) d out).2.2 (subsI l a fs c (fd l a j (P + 1)) (fd l a (j + 1) 4).toNat 0 (j + 2) d out).1
def subsF (l : List Int) (a j : Nat) : List (List Pred) := [(filterV l a j).1, (filterV l a (filterV l a j).2.1).1, []]
def subsV (l : List Int) (a j P : Nat) : List Sub × Nat × Nat :=
  subsO l a P (subsF l a j) 6 1 (filterV l a (filterV l a j).2.1).2.1 ((filterV l a j).2.2 + (filterV l a (filterV l a j).2.1).2.2) []
theorem subsI_asks (l : List Int) (a : Nat) (fs : List (List Pred)) (c home : Int) : ∀ (n : Nat) (num : Int) (j d : Nat) (out : List Sub), (subsI l a fs c home n num j d out).2.1 ≤ j + 36 * n ∧ (subsI l a fs c home n num j d out).1.length = out.length + n
  | 0, _, _, _, _ => by simp [subsI]
  | n + 1, num, j, d, out => by
    simp only [subsI]
    have h1 := subsI_asks l a fs c home n (num + 1 + fd l a j 2) ((filterV l a (j + 1)).2.1 + 1) (d + (filterV l a (j + 1)).2.2) (out ++ [⟨c, home, num + 1 + fd l a j 2, if fd l a (filterV l a (j + 1)).2.1 6 < 3 then fs.getD (fd l a (filterV l a (j + 1)).2.1 6).toNat [] else (filterV l a (j + 1)).1⟩])
    have h2 := filterV_asks l a (j + 1)
    refine ⟨by omega, ?_⟩
    rw [h1.2]; simp; omega
theorem subsO_asks (l : List Int) (a P : Nat) (fs : List (List Pred)) : ∀ (r : Nat) (c : Int) (j d : Nat) (out : List Sub), (subsO l a P fs r c j d out).2.1 ≤ j + 110 * r ∧ (subsO l a P fs r c j d out).1.length ≤ out.length + 3 * r
  | 0, _, _, _, _ => by simp [subsO]
  | r + 1, c, j, d, out => by
    simp only [subsO]
    have h0 := fd_bound l a (j + 1) (n := 4) (by omega)
    have h1 := subsI_asks l a fs c (fd l a j (P + 1)) (fd l a (j + 1) 4).toNat 0 (j + 2) d out
    have h2 := subsO_asks l a P fs r (c + 1) (subsI l a fs c (fd l a j (P + 1)) (fd l a (j + 1) 4).toNat 0 (j + 2) d out).2.1 (subsI l a fs c (fd l a j (P + 1)) (fd l a (j + 1) 4).toNat 0 (j + 2) d out).2.2 (subsI l a fs c (fd l a j (P + 1)) (fd l a (j + 1) 4).toNat 0 (j + 2) d out).1
    have h3 : (fd l a (j + 1) 4).toNat ≤ 3 := by omega
    omega
theorem subsV_asks (l : List Int) (a j P : Nat) : (subsV l a j P).2.1 ≤ j + 800 ∧ (subsV l a j P).1.length ≤ 18 := by
  unfold subsV
  have h1 := filterV_asks l a j
  have h2 := filterV_asks l a (filterV l a j).2.1
  have h3 := subsO_asks l a P (subsF l a j) 6 1 (filterV l a (filterV l a j).2.1).2.1 ((filterV l a j).2.2 + (filterV l a (filterV l a j).2.1).2.2) []
  simp at h3
  omega
/-- What holds of each of them. -/
theorem subsI_all {Q : Sub → Prop} (l : List Int) (a : Nat) (fs : List (List Pred)) (c home : Int) (hq : ∀ num f, (f ∈ fs ∨ f = [] ∨ ∃ j, f = (filterV l a j).1) → Q ⟨c, home, num, f⟩) : ∀ (n : Nat) (num : Int) (j d : Nat) (out : List Sub), (∀ s ∈ out, Q s) → ∀ s ∈ (subsI l a fs c home n num j d out).1, Q s
  | 0, _, _, _, _, h => h
  | n + 1, num, j, d, out, h => by
    simp only [subsI]
    refine subsI_all l a fs c home hq n _ _ _ _ fun s hs => ?_
    rcases List.mem_append.1 hs with hs | hs
    · exact h s hs
    · simp at hs; subst hs
      refine hq _ _ ?_
      split
      · cases hg : fs[(fd l a (filterV l a (j + 1)).2.1 6).toNat]? with
        | none => exact .inr (.inl rfl)
        | some f => exact .inl (List.mem_of_getElem? hg)
      · exact .inr (.inr ⟨_, rfl⟩)
theorem subsO_all {Q : Sub → Prop} (l : List Int) (a P : Nat) (fs : List (List Pred)) (hq : ∀ (c home num : Int) f, 1 ≤ c → c ≤ 6 → (f ∈ fs ∨ f = [] ∨ ∃ j, f = (filterV l a j).1) → Q ⟨c, home, num, f⟩) : ∀ (r : Nat) (c : Int) (j d : Nat) (out : List Sub), 1 ≤ c → c + r ≤ 7 → (∀ s ∈ out, Q s) → ∀ s ∈ (subsO l a P fs r c j d out).1, Q s
  | 0, _, _, _, _, _, _, h => h
  | r + 1, c, j, d, out, h1, h2, h => by
    simp only [subsO]
    refine subsO_all l a P fs hq r _ _ _ _ (by omega) (by omega) ?_
    exact subsI_all l a fs c _ (fun num f hf => hq c _ num f h1 (by omega) hf) _ _ _ _ _ h
/-- What a feed's subscriptions are. -/
theorem subsV_all (l : List Int) (a j P : Nat) : ∀ s ∈ (subsV l a j P).1, 1 ≤ s.client ∧ s.client ≤ 6 ∧ FFV s.filter ∧ s.filter.length ≤ 3 := by
  unfold subsV
  refine subsO_all (Q := fun s => 1 ≤ s.client ∧ s.client ≤ 6 ∧ FFV s.filter ∧ s.filter.length ≤ 3) l a P _ (fun c home num f h1 h2 hf => ?_) 6 1 _ _ [] (by omega) (by omega) (by simp)
  refine ⟨h1, h2, ?_⟩
  show FFV f ∧ f.length ≤ 3
  rcases hf with hf | rfl | ⟨j, rfl⟩
  · unfold subsF at hf
    simp at hf
    rcases hf with rfl | rfl | rfl
    · exact filterV_ffv l a j
    · exact filterV_ffv l a _
    · exact ⟨ffv_nil, by simp⟩
  · exact ⟨ffv_nil, by simp⟩
  · exact filterV_ffv l a j
end Go.Ab
